/- A part of the proof of the statements of this seat: the engine that turns code into plain functions, and its soundness. No condition of its own. -/
import Derived.WalkKit
import Derived.ChangeKeysEq
set_option linter.unusedVariables false
set_option linter.unusedSimpArgs false
set_option linter.defProp false
noncomputable section
variable {d' eJ:Bool}{l:List UInt8}{L N a b d f i j k m n o off:Nat}{α β:Type}
namespace Yp
def J{p:Prop}(h:p:=by omega):p:=h
def bh{p:Prop}(h:p:=by simp):p:=h
def bP{p:Prop}(h:p:=by decide):p:=h
def fs{p:Prop}(h:p:=by simp;omega):p:=h
end Yp
namespace Yp
open Go
def lA:=@List.cons_append
def i64(n:Int):Int:=IntKind.i64.wrap n
def G'(n:Int):Int:=IntKind.i32.wrap n
def acc(n:Int):Int:=IntKind.i16.wrap n
def acd(n:Int):Int:=IntKind.i8.wrap n
def u8(n:Int):UInt8:=UInt8.ofInt n
def u16(n:Int):UInt16:=UInt16.ofInt n
def u32(n:Int):UInt32:=UInt32.ofInt n
def u64(n:Int):UInt64:=UInt64.ofInt n
def aI(x:UInt8):Int:=(x.toNat:Int)
def HH(x:UInt16):Int:=(x.toNat:Int)
def aS(x:UInt32):Int:=(x.toNat:Int)
def cD(x:UInt64):Int:=(x.toNat:Int)
def aa(n:Int):Nat:=n.toNat
def bf(n:Nat):Int:=(n:Int)
def av(a b:Int):Int:=a+b
def bi(a b:Int):Int:=a-b
def e_(a b:Int):Int:=a*b
def fe(a b:Int):Int:=Int.tdiv a b
def dh(a b:Int):Int:=Int.tmod a b
def bQ(a b:Nat):Nat:=a+b
def cd(a b:Nat):Nat:=a-b
def i7(a b:Nat):Bool:=Nat.blt a b
def bZ(a b:Nat):Bool:=Nat.beq a b
def a_(a:Bool):Bool:=!a
def cZ(a b:Bool):Bool:=a&&b
def l2(a b:Bool):Bool:=a||b
def y9(a b:Bool):Bool:=a==b
def aJ(a b:Int):Bool:=decide (a<b)
def bE(a b:Int):Bool:=decide (a<=b)
def ag(a b:Int):Bool:=a==b
def seq(a b:List UInt8):Bool:=a==b
def aO(α:Type):List α:=[]
def aT{α:Type}(l:List α):Nat:=l.length
def cB(c n:Nat):Bool:=decide (n*c<=140737488355328)
def aU(i:Int)(n:Int):Bool:=decide (0<=i)&&decide (i<n)
def ca(lo hi n:Int):Bool:=decide (0<=lo)&&decide (lo<=hi)&&decide (hi<=n)
def fC(a b:Int):Int:=if b<a then b else a
def cU(a b:Int):Int:=if b > a then b else a
def iI(k:IntKind)(x y:Int):Int:=((BitVec.ofInt k.bits x&&&BitVec.ofInt k.bits y).toNat:Int)
def gM(k:IntKind)(x y:Int):Int:=((BitVec.ofInt k.bits x|||BitVec.ofInt k.bits y).toNat:Int)
def fx(k:IntKind)(x y:Int):Int:=((BitVec.ofInt k.bits x^^^BitVec.ofInt k.bits y).toNat:Int)
def HL(k:IntKind)(x y:Int):Int:=((BitVec.ofInt k.bits x &&& ~~~(BitVec.ofInt k.bits y)).toNat:Int)
def ho(k:IntKind)(x y:Int):Int:=x*2^(Nat.min y.toNat k.bits)
def fp(k:IntKind)(x y:Int):Int:=Int.fdiv x (2^(Nat.min y.toNat k.bits))
def gA(s:List UInt8)(i:Nat):Nat×Nat:=Utf8.decode ⟨s.toArray⟩ i
def wQ(a b:List UInt8):Bool:=Op.bytesLess a b
def sub{α:Type}(l:List α)(lo hi:Int):List α:=(l.drop lo.toNat).take (hi.toNat-lo.toNat)
def uZ{α:Type}(f:α->α->Bool)(a b:List α):Bool:=(a.zip b).all λp=>f p.1 p.2
def bv{α:Type}(l m:List α):List α:=l++m
def ak{α:Type}(l:List α)(i:Nat)(d:α):α:=l.getD i d
def cj{α:Type}(l:List α)(i:Nat)(x:α):List α:=l.set i x
def bO{α:Type}(n:Nat)(x:α):List α:=List.replicate n x
def cut{α:Type}(l:List α)(off n:Nat):List α:=(l.drop off).take n
def len{α:Type}(l:List α):Int:=(l.length:Int)
def T{α:Type}(c:Bool)(a b:α):α:=bif c then a else b
def am{α:Type}(c:Bool)(a:Option α):Option α:=bif c then a else none
def ob{α β:Type}(o:Option α)(k:α->Option β):Option β:=match o with|some a=>k a|none=>none
def bH:IntKind->Type
 |.u8=>UInt8|.u16=>UInt16|.u32=>UInt32|.u64=>UInt64
 |.i8=>Int|.i16=>Int|.i32=>Int|.i64=>Int
def bH.of:(k:IntKind)->Int->bH k
 |.u8,n=>u8 n|.u16,n=>u16 n|.u32,n=>u32 n|.u64,n=>u64 n
 |.i8,n=>acd n|.i16,n=>acc n|.i32,n=>G' n|.i64,n=>i64 n
def bH.lit:(k:IntKind)->Int->bH k
 |.u8,n=>u8 n|.u16,n=>u16 n|.u32,n=>u32 n|.u64,n=>u64 n
 |.i8,n=>n|.i16,n=>n|.i32,n=>n|.i64,n=>n
def bH.to:(k:IntKind)->bH k->Int
 |.u8,x=>aI x|.u16,x=>HH x|.u32,x=>aS x|.u64,x=>cD x
 |.i8,x=>x|.i16,x=>x|.i32,x=>x|.i64,x=>x
def bH.zero:(k:IntKind)->bH k
 |.u8=>u8 0|.u16=>u16 0|.u32=>u32 0|.u64=>u64 0
 |.i8=>(0:Int)|.i16=>(0:Int)|.i32=>(0:Int)|.i64=>(0:Int)
inductive ae where
 |bool|int (k:IntKind)|str|sl (e:ae)|unit|pair (a b:ae)|ar (n:Nat) (e:ae)
 |op (k:Nat)
 |fn (l:List Nat)
 deriving Inhabited
def ae.aD:ae->Type
 |.bool=>Bool
 |.int k=>bH k
 |.str=>List UInt8
 |.sl e=>List e.aD
 |.unit=>Unit
 |.pair a b=>a.aD×b.aD
 |.ar _ e=>List e.aD
 |.op _=>Unit
 |.fn _=>Nat
def ae.zero:(t:ae)->t.aD
 |.bool=>false
 |.int k=>bH.zero k
 |.str=>([]:List UInt8)
 |.sl e=>([]:List e.aD)
 |.unit=>()
 |.pair a b=>(a.zero,b.zero)
 |.ar n e=>List.replicate n e.zero
 |.op _=>()
 |.fn _=>(0:Nat)
instance (t:ae):Inhabited t.aD:=⟨t.zero⟩
def ae.size:ae->Nat
 |.bool=>1|.int _=>1|.str=>1|.sl _=>1|.unit=>0
 |.pair a b=>a.size+b.size
 |.ar n e=>n*e.size
 |.op _=>1|.fn _=>1
def ae.bytes:ae->Nat
 |.bool=>1|.int .u8=>1|t=>24*t.size+8
def ae.isAgg:ae->Bool
 |.unit=>true|.pair _ _=>true|.ar _ _=>true|_=>false
def ae.l5:ae->Bool
 |.sl _=>false|.pair a b=>a.l5&&b.l5|.ar _ e=>e.l5|_=>true
def ae.same:(a b:ae)->Option (PLift (a=b))
 |.bool,.bool=>some ⟨rfl⟩
 |.str,.str=>some ⟨rfl⟩
 |.unit,.unit=>some ⟨rfl⟩
 |.int k,.int k'=>if h:k=k' then some ⟨h▸rfl⟩ else none
 |.sl a,.sl b=>match ae.same a b with|some ⟨h⟩=>some ⟨h▸rfl⟩|none=>none
 |.pair a b,.pair c d=>match ae.same a c,ae.same b d with|some ⟨h⟩,some ⟨bL⟩=>some ⟨h▸bL▸rfl⟩|_,_=>none
 |.ar n a,.ar m b=>if h:n=m then(match ae.same a b with|some ⟨bL⟩=>some ⟨h▸bL▸rfl⟩|none=>none) else none
 |.op k,.op k'=>if h:k=k' then some ⟨h▸rfl⟩ else none
 |.fn k,.fn k'=>if h:k=k' then some ⟨h▸rfl⟩ else none
 |_,_=>none
def ae.is(a b:ae):Bool:=(ae.same a b).isSome
def ae.cast(a b:ae)(x:a.aD):Option b.aD:=match ae.same a b with|some ⟨h⟩=>some (h▸x)|none=>none
def ae.kK(a b:ae)(x:List a.aD):Option (List b.aD):=match ae.same a b with|some ⟨h⟩=>some (h▸x)|none=>none
def ae.nV:(t:ae)->t.aD->t.aD->Bool
 |.bool,a,b=>y9 a b
 |.int k,a,b=>ag (bH.to k a) (bH.to k b)
 |.str,a,b=>seq a b
 |.sl _,_,_=>false
 |.unit,_,_=>true
 |.pair s t,a,b=>cZ (s.nV a.1 b.1) (t.nV a.2 b.2)
 |.ar _ e,a,b=>uZ (λp q=>e.nV p q) (a:List e.aD) (b:List e.aD)
 |.op _,_,_=>false
 |.fn _,_,_=>false
def mq:Nat->ae
 |0=>.unit|n+1=>.pair (.op 3) (mq n)
inductive ef where
 |im (t:ae)
 |ow (e:ae)
 |cl (e:ae)
 deriving Inhabited
def ef.aD:ef->Type
 |.im t=>t.aD|.ow e=>List e.aD|.cl e=>List e.aD
def hZ:List ae->Type
 |[]=>Unit|t::ts=>t.aD×hZ ts
def d8:List ef->Type
 |[]=>Unit|t::ts=>t.aD×d8 ts
def ef.zero:(t:ef)->t.aD
 |.im t=>t.zero|.ow e=>([]:List e.aD)|.cl e=>([]:List e.aD)
def yH:(l:List ef)->d8 l
 |[]=>()|t::ts=>(t.zero,yH ts)
instance (l:List ef):Inhabited (d8 l):=⟨yH l⟩
def ef.l5:ef->Bool
 |.im t=>t.l5|_=>false
structure eA where
 args:List ae
 res:List ef
 fn:hZ args->Option (d8 res)
structure ik where
 ty:ae
 args:List ae
 res:List ef
 fn:ty.aD×hZ args->Option (ty.aD×d8 res)
structure nJ where
 ty:ae
 args:List ae
 rt:ae
 ks:List Nat
 fn:ty.aD×hZ args->Option (ty.aD×Nat×d8 [.im rt])
def Di:List (Nat×nJ)->Nat->Option nJ
 |[],_=>none
 |(i,t)::r,j=>bif Nat.beq i j then some t else Di r j
def xF:List (Nat×ik)->Nat->Option ik
 |[],_=>none
 |(i,t)::r,j=>bif Nat.beq i j then some t else xF r j
def Dj:List (Nat×ae)->Nat->Option ae
 |[],_=>none
 |(i,t)::r,j=>bif Nat.beq i j then some t else Dj r j
def t?: List (Nat×eA)->Nat->Option eA
 |[],_=>none
 |(i,t)::r,j=>bif Nat.beq i j then some t else t? r j
inductive mx where
 |fst|snd|ix (i:Nat)
inductive il where
 |ptr (id:Nat) (p:List mx)
 |iw (t:ae) (x:t.aD)
inductive au where
 |bad|undef
 |kb (b:Bool)
 |nq (c:Bool)
 |sc (t:ae) (x:t.aD)
 |nil
 |own (id:Nat) (d':Bool)
 |osl (id off len:Nat)
 |csl (e:ae) (l:List e.aD)
 |ptr (id:Nat) (p:List mx)
 |opt (id i:Nat) (p:List mx)
 |ipt (e:ae) (l:List e.aD) (i:Nat) (p:List mx)
 |itp (id:Nat)
 |two (a b:au)
 |agg (t:ae) (a:au)
 |tup (a:au)
 |clo (f dQ:Nat) (cW:List il)
 |ifc (tid:Nat) (t:ae) (x:t.aD)
 |mpp (id:Nat)
 |psl (id n:Nat)
 deriving Inhabited
inductive aQ where
 |new
 |e9
 |box (t:ae) (v:au)
 |ob (e:ae) (l:List e.aD)
 |fz (e:ae) (l:List e.aD)
 |it (s:List UInt8) (i_:Nat)
 |mp (kt vt:ae) (l:List (kt.aD×au))
 deriving Inhabited
inductive dH where
 |e
 |n (v:au) (l r:dH)
 deriving Inhabited
def dH.lH:Nat->dH->Nat->au
 |0,_,_=>.bad
 |_+1,.e,_=>.bad
 |f+1,.n v l r,i=>bif Nat.beq i 0 then v else bif Nat.beq (i%2) 1 then l.lH f (i/2) else r.lH f (i/2-1)
def dH.set:Nat->dH->Nat->au->dH
 |0,t,_,_=>t
 |f+1,.e,i,u=>bif Nat.beq i 0 then .n u .e .e else bif Nat.beq (i%2) 1 then .n .bad (dH.set f .e (i/2) u) .e else .n .bad .e (dH.set f .e (i/2-1) u)
 |f+1,.n v l r,i,u=>bif Nat.beq i 0 then .n u l r else bif Nat.beq (i%2) 1 then .n v (l.set f (i/2) u) r else .n v l (r.set f (i/2-1) u)
structure aM where
 t:dH
 h:List (Nat×aQ)
 w:List Nat
 deriving Inhabited
def aM.bX(s:aM)(i:Nat):au:=s.t.lH 40 i
def qz:List (Nat×aQ)->Nat->aQ
 |[],_=>.new
 |(i,b)::r,j=>bif Nat.beq i j then b else qz r j
def aM.aR(s:aM)(id:Nat):aQ:=qz s.h id
def aM.lu(s:aM)(i:Nat)(v:au):aM:={ s with t:=s.t.set 40 i v }
def AK:List (Nat×aQ)->Nat->aQ->List (Nat×aQ)
 |[],j,b=>[(j,b)]
 |(i,c)::r,j,b=>bif Nat.beq i j then(j,b)::r else(i,c)::AK r j b
def aM.nw(s:aM)(id:Nat)(b:aQ):aM:={ s with h:=AK s.h id b,w:=id::s.w }
def aM.ek(s:aM):List (Nat×aQ)->aM
 |[]=>s
 |(i,b)::r=>(s.ek r).nw i b
def F2{β:Type 1}:List il->(List il->β)->β
 |[],k=>k []
 |.ptr id p::r,k=>F2 r λr=>k (.ptr id p::r)
 |.iw t x::r,k=>F2 r λr=>k (.iw t x::r)
def am7{β:Type 1}(l:List il)(k:List il->β):F2 l k=k l:=by
 induction l generalizing k with
 |nil=>rfl
 |cons c r ih=>cases c<;>simp only[F2,ih]
def mH{β:Type 1}:au->(au->β)->β
 |.bad,k=>k .bad
 |.undef,k=>k .undef
 |.kb true,k=>k (.kb true)
 |.kb false,k=>k (.kb false)
 |.nq c,k=>k (.nq c)
 |.sc t x,k=>k (.sc t x)
 |.nil,k=>k .nil
 |.own id d',k=>k (.own id d')
 |.osl id off n,k=>k (.osl id off n)
 |.csl e l,k=>k (.csl e l)
 |.ptr id p,k=>k (.ptr id p)
 |.opt id i p,k=>k (.opt id i p)
 |.ipt e l i p,k=>k (.ipt e l i p)
 |.itp id,k=>k (.itp id)
 |.two a b,k=>mH a λa=>mH b λb=>k (.two a b)
 |.agg t a,k=>mH a λa=>k (.agg t a)
 |.tup a,k=>mH a λa=>k (.tup a)
 |.clo f dQ cW,k=>F2 cW λcW=>k (.clo f dQ cW)
 |.ifc i t x,k=>k (.ifc i t x)
 |.mpp id,k=>k (.mpp id)
 |.psl id n,k=>k (.psl id n)
def w9{β:Type 1}(v:au)(k:au->β):mH v k=k v:=by
 induction v generalizing k with
 |kb b=>cases b<;>rfl
 |two a b bu Y=>simp only[mH,bu,Y]
 |agg t a bu=>simp only[mH,bu]
 |tup a bu=>simp only[mH,bu]
 |clo f dQ cW=>simp only[mH,am7]
 |_=>rfl
def KX{α:Type}{β:Type 1}:List (α×au)->(List (α×au)->β)->β
 |[],k=>k []
 |(a,v)::r,k=>mH v λv=>KX r λr=>k ((a,v)::r)
def am9{β:Type 1}(l:List (α×au))(k:List (α×au)->β):KX l k=k l:=by
 induction l generalizing k with
 |nil=>rfl
 |cons c r ih=>simp only[KX,w9,ih]
def Q5{β:Type 1}:aQ->(aQ->β)->β
 |.new,k=>k .new
 |.e9,k=>k .e9
 |.box t v,k=>mH v λv=>k (.box t v)
 |.ob e l,k=>k (.ob e l)
 |.fz e l,k=>k (.fz e l)
 |.it s p,k=>k (.it s p)
 |.mp kt vt l,k=>KX l λl=>k (.mp kt vt l)
def am6{β:Type 1}(v:aQ)(k:aQ->β):Q5 v k=k v:=by cases v<;>simp only[Q5,w9,am9]
def uC{β:Type 1}:Nat->dH->Nat->au->(dH->β)->β
 |0,t,_,_,k=>k t
 |f+1,.e,i,u,k=>bif Nat.beq i 0 then k (.n u .e .e) else bif Nat.beq (i%2) 1 then uC f .e (i/2) u λl=>k (.n .bad l .e) else uC f .e (i/2-1) u λr=>k (.n .bad .e r)
 |f+1,.n v l r,i,u,k=>bif Nat.beq i 0 then k (.n u l r) else bif Nat.beq (i%2) 1 then uC f l (i/2) u λl=>k (.n v l r) else uC f r (i/2-1) u λr=>k (.n v l r)
def UP{β:Type 1}(f:Nat)(t:dH)(i:Nat)(u:au)(k:dH->β):uC f t i u k=k (t.set f i u):=by
 induction f generalizing t i k with
 |zero=>rfl
 |succ f ih=>
  cases t with
  |e=>simp only[uC,dH.set,ih];cases Nat.beq i 0<;>cases Nat.beq (i%2) 1<;>rfl
  |n v l r=>simp only[uC,dH.set,ih];cases Nat.beq i 0<;>cases Nat.beq (i%2) 1<;>rfl
def MQ{β:Type 1}:List (Nat×aQ)->Nat->aQ->(List (Nat×aQ)->β)->β
 |[],j,b,k=>k [(j,b)]
 |(i,c)::r,j,b,k=>bif Nat.beq i j then k ((j,b)::r) else MQ r j b λr=>k ((i,c)::r)
def avc{β:Type 1}(l:List (Nat×aQ))(i:Nat)(v:aQ)(k:List (Nat×aQ)->β):MQ l i v k=k (AK l i v):=by
 induction l generalizing k with
 |nil=>rfl
 |cons x r ih=>cases h:Nat.beq x.1 i<;>simp only[MQ,AK,ih,h,cond]
def aM.A5{β:Type 1}(s:aM)(i:Nat)(v:au)(k:aM->β):β:=
 match s with|⟨t,h,w⟩=>mH v λv=>uC 40 t i v λt=>k ⟨t,h,w⟩
def aM.It{β:Type 1}(s:aM)(i:Nat)(v:au)(k:aM->β):s.A5 i v k=k (s.lu i v):=by simp only[aM.A5,w9,UP,aM.lu]
def aM.A4{β:Type 1}(s:aM)(id:Nat)(b:aQ)(k:aM->β):β:=
 match s with|⟨t,h,w⟩=>Q5 b λb=>MQ h id b λh=>k ⟨t,h,id::w⟩
def aM.Ir{β:Type 1}(s:aM)(i:Nat)(v:aQ)(k:aM->β):s.A4 i v k=k (s.nw i v):=by simp only[aM.A4,am6,avc,aM.nw]
def aM.v'{β:Type 1}(s:aM):List (Nat×aQ)->(aM->β)->β
 |[],k=>k s
 |(i,b)::r,k=>s.v' r λs=>s.A4 i b k
def aM.Is{β:Type 1}(s:aM)(l:List (Nat×aQ))(k:aM->β):s.v' l k=k (s.ek l):=by
 induction l generalizing k with
 |nil=>rfl
 |cons x r ih=>simp only[aM.v',aM.Ir,ih,aM.ek]
inductive aE (σ ρ:Type) where
 |nx (x:σ)|ex (k:Nat) (x:σ)|rt (r:ρ)
 deriving Inhabited
def ci{σ ρ β:Type}(o:Option (aE σ ρ))(kn:σ->Option β)(g5:Nat->σ->Option β)(hb:ρ->Option β):Option β:=
 match o with
 |some (.nx a)=>kn a|some (.ex i a)=>g5 i a|some (.rt r)=>hb r|none=>none
inductive aP (β:Type):Type 1 where
 |fail
 |leaf (a:β)
 |br (c:Bool) (x y:aP β)
 |chk (c:Bool) (x:aP β)
 |bo {α:Type} (d:α) (o:Option α) (k:α->aP β)
 |cs {σ ρ:Type} (d:σ) (e:ρ) (o:Option (aE σ ρ)) (kn:σ->aP β) (g5:Nat->σ->aP β) (hb:ρ->aP β)
def aP.bind{α β:Type}:aP α->(α->aP β)->aP β
 |.fail,_=>.fail
 |.leaf a,f=>f a
 |.br c x y,f=>.br c (x.bind f) (y.bind f)
 |.chk c x,f=>.chk c (x.bind f)
 |.bo d o k,f=>.bo d o λa=>(k a).bind f
 |.cs d e o kn g5 hb,f=>.cs d e o (λa=>(kn a).bind f) (λk a=>(g5 k a).bind f) (λa=>(hb a).bind f)
def aP.bI{α:Type}:aP α->Option α
 |.fail=>none
 |.leaf a=>some a
 |.br c x y=>T c x.bI y.bI
 |.chk c x=>am c x.bI
 |.bo _ o k=>ob o λa=>(k a).bI
 |.cs _ _ o kn g5 hb=>ci o (λa=>(kn a).bI) (λi a=>(g5 i a).bI) (λr=>(hb r).bI)
def aP.n3{α:Type}:aP α->List α
 |.fail=>[]
 |.leaf a=>[a]
 |.br _ x y=>x.n3++y.n3
 |.chk _ x=>x.n3
 |.bo d _ k=>(k d).n3
 |.cs d e _ kn g5 hb=>(kn d).n3++(g5 0 d).n3++(hb e).n3
def B3{α:Type}{β:Type 1}:List α->List α->(List α->β)->β
 |[],m,k=>k m
 |a::r,m,k=>B3 r m λr=>k (a::r)
def WY{β:Type 1}(l m:List α)(k:List α->β):B3 l m k=k (l++m):=by
 induction l generalizing k with
 |nil=>rfl
 |cons a r ih=>simp only[B3,ih,lA]
def aP.pN{α:Type}{β:Type 1}:aP α->(List α->β)->β
 |.fail,k=>k []
 |.leaf a,k=>k [a]
 |.br _ x y,k=>x.pN λl=>y.pN λm=>B3 l m k
 |.chk _ x,k=>x.pN k
 |.bo d _ f,k=>(f d).pN k
 |.cs d e _ kn g5 hb,k=>(kn d).pN λl=>(g5 0 d).pN λm=>(hb e).pN λn=>B3 l m λl=>B3 l n k
def aP.acK{β:Type 1}(t:aP α)(k:List α->β):t.pN k=k t.n3:=by
 induction t generalizing k with
 |fail=>rfl
 |leaf a=>rfl
 |br c x y hx hy=>simp only[aP.pN,hx,hy,WY,aP.n3]
 |chk c x hx=>simp only[aP.pN,hx,aP.n3]
 |bo d o f hf=>simp only[aP.pN,hf,aP.n3]
 |cs d e o kn g5 hb aj aA ah=>simp only[aP.pN,aj,aA,ah,WY,aP.n3]
def pL:List UInt32:=[u32 1116352408,u32 1899447441,u32 3049323471,u32 3921009573,u32 961987163,u32 1508970993,u32 2453635748,u32 2870763221,u32 3624381080,u32 310598401,u32 607225278,u32 1426881987,u32 1925078388,u32 2162078206,u32 2614888103,u32 3248222580,u32 3835390401,u32 4022224774,u32 264347078,u32 604807628,u32 770255983,u32 1249150122,u32 1555081692,u32 1996064986,u32 2554220882,u32 2821834349,u32 2952996808,u32 3210313671,u32 3336571891,u32 3584528711,u32 113926993,u32 338241895,u32 666307205,u32 773529912,u32 1294757372,u32 1396182291,u32 1695183700,u32 1986661051,u32 2177026350,u32 2456956037,u32 2730485921,u32 2820302411,u32 3259730800,u32 3345764771,u32 3516065817,u32 3600352804,u32 4094571909,u32 275423344,u32 430227734,u32 506948616,u32 659060556,u32 883997877,u32 958139571,u32 1322822218,u32 1537002063,u32 1747873779,u32 1955562222,u32 2024104815,u32 2227730452,u32 2361852424,u32 2428436474,u32 2756734187,u32 3204031479,u32 3329325298]
def fJ:Type 1:=Nat->List au->aM->aP (au×aM)
structure db where
 b8:Nat->Option ae
 G:Nat->Option eA
 I:Nat->Option fJ:=λ_=>none
 /-- maps' types -/
 M:Nat->Option (ae×ae):=λ_=>none
 /-- types whose values may be compared -/
 C:Nat->Bool:=λ_=>false
 /-- the program's variable -/
 K:Option Nat:=none
 b:Nat:=0
 /-- functions that change a variable of their alS -/
 X:Nat->Option ik:=λ_=>none
 /-- are loops unrolled,and tests decided? -/
 U:Bool:=false
 /-- the function that ao8 up what goes ayU,and the type of what it ao8 up -/
 Pn:Option (Nat×Nat):=none
 /-- functions that change a variable of their alS,and may hand up what goes ayU -/
 Q:Nat->Option nJ:=λ_=>none
 /-- are pieces of own slices appended to in place? -/
 A:Bool:=false
def ua:List (Nat×fJ)->Nat->Option fJ
 |[],_=>none
 |(i,t)::r,j=>bif Nat.beq i j then some t else ua r j
def Hz:List (Nat×ae×ae)->Nat->Option (ae×ae)
 |[],_=>none
 |(i,t)::r,j=>bif Nat.beq i j then some t else Hz r j
def Hy:List Nat->Nat->Bool
 |[],_=>false
 |i::r,j=>bif Nat.beq i j then true else Hy r j
inductive aw (α:Type):Type 1 where
 |fail
 |ret (a:α)
 |chk (c:Bool) (k:aw α)
 |br (c:Bool) (x y:aw α)
 |bo {β:Type} (d:β) (o:Option β) (k:β->aw α)
 |rt (i:Nat) (k:au->aw α)
 |rb (id:Nat) (k:aQ->aw α)
 |eI (id:Nat) (b:aQ) (k:aw α)
def aw.bind{α β:Type}:aw α->(α->aw β)->aw β
 |.fail,_=>.fail
 |.ret a,f=>f a
 |.chk c k,f=>.chk c (k.bind f)
 |.br c x y,f=>.br c (x.bind f) (y.bind f)
 |.bo d o k,f=>.bo d o λa=>(k a).bind f
 |.rt i k,f=>.rt i λv=>(k v).bind f
 |.rb i k,f=>.rb i λv=>(k v).bind f
 |.eI i b k,f=>.eI i b (k.bind f)
instance:Monad aw where
 pure:=.ret
 bind:=.bind
structure Oz where
 rt:Nat
 rb:List Nat
 wr:List (Nat×aQ)
def nr:List (Nat×aQ)->Nat->aQ->aQ
 |[],_,d=>d
 |(i,b)::r,j,d=>bif Nat.beq i j then b else nr r j d
def aw.run{α:Type}(s:aM):aw α->Nat->List Nat->List (Nat×aQ)->aP (α×Oz)
 |.fail,_,_,_=>.fail
 |.ret a,ff,e',wr=>.leaf (a,⟨ff,e',wr⟩)
 |.chk c k,ff,e',wr=>.chk c (k.run s ff e' wr)
 |.br c x y,ff,e',wr=>.br c (x.run s ff e' wr) (y.run s ff e' wr)
 |.bo d o k,ff,e',wr=>.bo d o λa=>(k a).run s ff e' wr
 |.rt i k,ff,e',wr=>(k (s.bX i)).run s (ff|||2^i) e' wr
 |.rb i k,ff,e',wr=>(k (nr wr i (s.aR i))).run s ff (i::e') wr
 |.eI i b k,ff,e',wr=>k.run s ff e' ((i,b)::wr)
def aw.opt{α:Type}:Option α->aw α
 |some a=>.ret a|none=>.fail
def aw.need(b:Bool):aw Unit:=bif b then .ret () else .fail
def ae.at:ae->List mx->Option ae
 |t,[]=>some t
 |.pair a _,.fst::p=>a.at p
 |.pair _ b,.snd::p=>b.at p
 |.ar _ e,.ix _::p=>e.at p
 |_,_=>none
def iN:au->List mx->Option au
 |v,[]=>some v
 |.two a _,.fst::p=>iN a p
 |.two _ b,.snd::p=>iN b p
 |.sc (.pair s _) x,.fst::p=>iN (.sc s x.1) p
 |.sc (.pair _ t) x,.snd::p=>iN (.sc t x.2) p
 |.sc (.ar _ e) l,.ix i::p=>iN (.sc e (ak (l:List e.aD) i e.zero)) p
 |_,_=>none
def gb:Nat->List mx
 |0=>[.fst]|n+1=>.snd::gb n
def acw(b:Bool):(t:ae)->Option t.aD
 |.bool=>some b
 |_=>none
def Tz:(t:ae)->Option t.aD
 |.sl e=>some ([]:List e.aD)
 |_=>none
def YZ(bC:ae)(l:List bC.aD):(t:ae)->Option t.aD
 |.sl e=>ae.kK bC e l
 |_=>none
def ahl{α β:Type}:Option α->Option β->Option (α×β)
 |some x,some y=>some (x,y)
 |_,_=>none
def ax8(f g:(t:ae)->Option t.aD):(t:ae)->Option t.aD
 |.pair a b=>ahl (f a) (g b)
 |_=>none
def aiJ(t':ae)(f:(t:ae)->Option t.aD)(t:ae):Option t.aD:=bif ae.is t' t then f t else none
def G?(f:Nat):List Nat->Nat->Option Nat
 |[],_=>none
 |a::r,n=>bif Nat.beq a f then some n else G? f r (n+1)
def Qu(f:Nat)(cW:List il):(t:ae)->Option t.aD
 |.fn l=>match cW with|[]=>G? f l 1|_=>none
 |_=>none
def s5:au->(t:ae)->Option t.aD
 |.sc t' x=>λt=>ae.cast t' t x
 |.kb b=>acw b
 |.nil=>Tz
 |.csl bC l=>YZ bC l
 |.two u v=>ax8 (s5 u) (s5 v)
 |.agg t' u=>aiJ t' (s5 u)
 |.bad=>λ_=>none
 |.undef=>λ_=>none
 |.nq _=>λ_=>none
 |.own _ _=>λ_=>none
 |.osl _ _ _=>λ_=>none
 |.ptr _ _=>λ_=>none
 |.opt _ _ _=>λ_=>none
 |.ipt _ _ _ _=>λ_=>none
 |.itp _=>λ_=>none
 |.tup _=>λ_=>none
 |.clo f _ cW=>Qu f cW
 |.ifc _ _ _=>λ_=>none
 |.mpp _=>λ_=>none
 |.psl _ _=>λ_=>none
def ie(t:ae)(v:au):Option t.aD:=s5 v t
def mj:au->List mx->au->Option au
 |_,[],u=>some u
 |.two a b,.fst::p,u=>(mj a p u).map (au.two · b)
 |.two a b,.snd::p,u=>(mj b p u).map (au.two a ·)
 |.sc (.pair s t) x,.fst::p,u=>(mj (.sc s x.1) p u).map (au.two · (.sc t x.2))
 |.sc (.pair s t) x,.snd::p,u=>(mj (.sc t x.2) p u).map (au.two (.sc s x.1) ·)
 |.sc (.ar n e) l,.ix i::p,u=>match mj (.sc e (ak (l:List e.aD) i e.zero)) p u with
  |some v=>(ie e v).map λy=>.sc (.ar n e) (cj (l:List e.aD) i y)
  |none=>none
 |_,_,_=>none
def m0:ae->au
 |.sl _=>.nil
 |.pair a b=>.two (m0 a) (m0 b)
 |t=>.sc t t.zero
def sW(eJ:Bool)(id:Nat)(e:ae):aw (List e.aD):=.rb id λb=>match b with
 |.ob bC l=>(aw.opt (ae.kK bC e l)).bind λx=>bif eJ then .eI id (.fz bC l) (.ret x) else .ret x
 |.fz bC l=>aw.opt (ae.kK bC e l)
 |_=>.fail
def AY(eJ:Bool)(id:Nat)(e:ae):aw (List e.aD):=.rb id λb=>match b with
 |.ob bC l=>(aw.opt (ae.kK bC e l)).bind λx=>bif eJ then .eI id (.fz bC l) (.ret x) else .ret x
 |.fz bC l=>aw.opt (ae.kK bC e l)
 | .box t v=>(match t with
  |.ar n bC=>(aw.opt (ie (.ar n bC) v)).bind λl=>(aw.opt (ae.kK bC e l)).bind λx=>bif Nat.blt 0 bC.size then(bif eJ then .eI id (.fz bC l) (.ret x) else .ret x) else .fail
  |_=>.fail)
 |_=>.fail
def aeg(eJ:Bool)(id:Nat):(t:ae)->aw t.aD
 |.sl e=>sW eJ id e
 |_=>.fail
def aea(eJ:Bool)(id off n:Nat):(t:ae)->aw t.aD
 |.sl e=>(AY eJ id e).bind λx=>.ret (cut x off n)
 |_=>.fail
def ax9(f g:(t:ae)->aw t.aD):(t:ae)->aw t.aD
 |.pair a b=>(f a).bind λx=>(g b).bind λy=>.ret (x,y)
 |_=>.fail
def aiK(t':ae)(f:(t:ae)->aw t.aD)(t:ae):aw t.aD:=bif ae.is t' t then f t else .fail
def yl(eJ:Bool):au->(t:ae)->aw t.aD
 |.own id _=>aeg eJ id
 |.osl id off n=>aea eJ id off n
 |.two u v=>ax9 (yl eJ u) (yl eJ v)
 |.agg t' u=>aiK t' (yl eJ u)
 |.sc t' x=>λt=>aw.opt (ae.cast t' t x)
 |.kb b=>λt=>aw.opt (acw b t)
 |.nil=>λt=>aw.opt (Tz t)
 |.csl e l=>λt=>aw.opt (YZ e l t)
 |.bad=>λ_=>.fail
 |.undef=>λ_=>.fail
 |.nq _=>λ_=>.fail
 |.ptr _ _=>λ_=>.fail
 |.opt _ _ _=>λ_=>.fail
 |.ipt _ _ _ _=>λ_=>.fail
 |.itp _=>λ_=>.fail
 |.tup _=>λ_=>.fail
 |.clo f _ cW=>λt=>aw.opt (Qu f cW t)
 |.ifc _ _ _=>λ_=>.fail
 |.mpp _=>λ_=>.fail
 |.psl _ _=>λ_=>.fail
def lT(eJ:Bool)(t:ae)(v:au):aw t.aD:=yl eJ v t
def Aq:au->Bool
 |.osl _ _ _=>false
 |.two u v=>Aq u&&Aq v
 |.agg _ u=>Aq u
 |_=>true
def aed(t:ae)(v:au):aw t.aD:=bif Aq v then lT true t v else .fail
def p4(t:ae):au->au
 |.two a b=>.agg t (.two a b)
 |v=>v
def yg:au->au
 |.agg _ a=>a
 |.kb b=>.sc .bool b
 |v=>v
def acq:ae->Bool
 |.fn _=>true|.op k=>Nat.beq k 0|_=>false
def se(t:ae):au->aw Unit
 |.sc t' _=>aw.need (ae.is t' t)
 |.kb _=>aw.need (ae.is t .bool)
 |.agg t' _=>aw.need (ae.is t' t)
 |.nil=>match t with|.sl _=>.ret ()|_=>.fail
 |.csl e _=>aw.need (ae.is (.sl e) t)
 |.own id _=>.rb id fun|.ob e _=>aw.need (ae.is (.sl e) t)|.fz e _=>aw.need (ae.is (.sl e) t)|_=>.fail
 |.osl id _ _=>.rb id fun|.ob e _=>aw.need (ae.is (.sl e) t)|.fz e _=>aw.need (ae.is (.sl e) t)|.box t' _=>(match t' with|.ar _ e=>aw.need (ae.is (.sl e) t)|_=>.fail)|_=>.fail
 |.clo _ _ _=>aw.need (acq t)
 |.ifc _ _ _=>aw.need (ae.is t (.op 1))
 |.mpp id=>.rb id fun|.mp _ _ _=>aw.need (ae.is t (.op 2))|_=>.fail
 |.ptr id _=>.rb id fun|.box _ _=>aw.need (ae.is t (.op 3))|_=>.fail
 |_=>.fail
def g7(e:ae)(n:Nat):Bool:=cB e.bytes n
def int(n:Int):au:=.sc (.int .i64) n
def Hx:IntKind->Int->Bool
 |.u8,.ofNat m=>Nat.blt m 256|.u16,.ofNat m=>Nat.blt m 65536|.u32,.ofNat m=>Nat.blt m 4294967296|.u64,.ofNat m=>Nat.blt m 18446744073709551616
 |.i8,_=>true|.i16,_=>true|.i32,_=>true|.i64,_=>true
 |_,_=>false
def Qy:Value->aw au
 |.bool b=>.ret (.kb b)
 |.int k n=>bif Hx k n then .ret (.sc (.int k) (bH.lit k n)) else .fail
 |.string s=>.ret (.sc .str s.data.toList)
 |.slice none 0 0=>.ret .nil
 |.nilFunc=>.ret (.sc (.op 0) ())
 |.nilIface=>.ret (.sc (.op 1) ())
 |.map none=>.ret (.sc (.op 2) ())
 |.pointer none=>.ret (.sc (.op 3) ())
 |_=>.fail
def ea:Operand->aw au
 |.tmp t=>.rt t .ret
 |.const v=>Qy v
 |.func f=>.ret (.clo f 0 [])
 |.global _=>.fail
def Rx(E:db):Operand->aw au
 |.global g=>match E.K with|some k=>bif Nat.beq k g then .ret (.ipt (.ar 64 (.int .u32)) [(pL:List (bH .u32))] 0 []) else .fail|none=>.fail
 |x=>ea x
def y6:au->aw Int
 |.sc (.int k) x=>.ret (bH.to k x)
 |_=>.fail
def zd(b:Bool)(c:Bool)(k:aw au):aw au:=bif b then k else .chk c k
def Mw:Operand->Bool
 |.const (.int _ (.ofNat (_+1)))=>true
 |.const (.int _ (.negSucc _))=>true
 |_=>false
def Mp:Operand->Bool
 |.const (.int _ (.ofNat _))=>true
 |_=>false
def Ez:IntKind->Bool
 |.u8=>true|.u16=>true|.u32=>true|.u64=>true|_=>false
def Px(rp:Bool)(op:BinOp)(k:IntKind)(x y:bH k):aw au:=
 let a:=bH.to k x;let b:=bH.to k y
 match op with
 |.add=>.ret (.sc (.int k) (bH.of k (av a b)))
 |.sub=>.ret (.sc (.int k) (bH.of k (bi a b)))
 |.mul=>.ret (.sc (.int k) (bH.of k (e_ a b)))
 |.quo=>zd rp (a_ (ag b 0)) (.ret (.sc (.int k) (bH.of k (fe a b))))
 |.rem=>zd rp (a_ (ag b 0)) (.ret (.sc (.int k) (bH.lit k (dh a b))))
 |.and=>.ret (.sc (.int k) (bH.of k (iI k a b)))
 |.or=>.ret (.sc (.int k) (bH.of k (gM k a b)))
 |.xor=>.ret (.sc (.int k) (bH.of k (fx k a b)))
 |.andNot=>.ret (.sc (.int k) (bH.of k (HL k a b)))
 |.eql=>.ret (.sc .bool (ag a b))
 |.neq=>.ret (.sc .bool (a_ (ag a b)))
 |.lss=>.ret (.sc .bool (aJ a b))
 |.leq=>.ret (.sc .bool (bE a b))
 |.gtr=>.ret (.sc .bool (aJ b a))
 |.geq=>.ret (.sc .bool (bE b a))
 |_=>.fail
def Py(op:BinOp)(a b:List UInt8):aw au:=
 match op with
 |.add=>.chk (bE (av (len a) (len b)) 140737488355328) (.ret (.sc .str (bv a b)))
 |.eql=>.ret (.sc .bool (seq a b))
 |.neq=>.ret (.sc .bool (a_ (seq a b)))
 |.lss=>.ret (.sc .bool (wQ a b))
 |.leq=>.ret (.sc .bool (l2 (wQ a b) (seq a b)))
 |.gtr=>.ret (.sc .bool (a_ (l2 (wQ a b) (seq a b))))
 |.geq=>.ret (.sc .bool (a_ (wQ a b)))
 |_=>.fail
def adj(t:ae)(op:BinOp)(a b:au):aw au:=
 match op,t,a,b with
 |.eql,.sl e,.sc t' x,.nil=>(aw.opt (ae.cast t' (.sl e) x)).bind λl=>.ret (.nq (ag (len (l:List e.aD)) 0))
 |_,_,_,_=>.fail
def Pw(E:db)(op:BinOp)(xT:Nat)(a b:au):aw au:=
 match E.b8 xT with
 |some t=>bif ae.is t .bool then
   (match ie .bool a,ie .bool b with
    | some x,some y=>(match op with
     |.eql=>.ret (.sc .bool (y9 x y))
     |.neq=>.ret (.sc .bool (a_ (y9 x y)))
     |_=>.fail)
    |_,_=>.fail)
   else bif E.C xT then
   (match ie t a,ie t b with
    | some x,some y=>(match op with
     |.eql=>.ret (.sc .bool (t.nV x y))
     |.neq=>.ret (.sc .bool (a_ (t.nV x y)))
     |_=>.fail)
    |_,_=>.fail)
   else adj t op a b
 |none=>.fail
def Ka(E:db)(rp HK:Bool)(op:BinOp)(xT:Nat)(a b:au):aw au:=
 match a,b with
 |.sc (.int k) x,.sc (.int k') y=>
  (match op with
  |.shl=>zd (HK||Ez k') (bE 0 (bH.to k' y)) (.ret (.sc (.int k) (bH.of k (ho k (bH.to k x) (bH.to k' y)))))
  |.shr=>zd (HK||Ez k') (bE 0 (bH.to k' y)) (.ret (.sc (.int k) (bH.lit k (fp k (bH.to k x) (bH.to k' y)))))
  | op=>(match ae.cast (.int k') (.int k) y with | some y=>Px rp op k x y | none => .fail))
 |.sc .str x,.sc .str y=>Py op x y
 |a,b=>Pw E op xT a b
def VR(op:UnOp)(a:au):aw au:=
 match op,a with
 |.not,.kb b=>.ret (.kb (!b))
 |.not,.sc .bool b=>.ret (.sc .bool (a_ b))
 |.neg,.sc (.int k) x=>.ret (.sc (.int k) (bH.of k (bi 0 (bH.to k x))))
 |.xor,.sc (.int k) x=>.ret (.sc (.int k) (bH.of k (fx k (match k with|.u8=>255|.u16=>65535|.u32=>4294967295|.u64=>18446744073709551615|_ => -1) (bH.to k x))))
 |_,_=>.fail
def T'(c a b:au):aw au:=
 match c with
 |.kb c=>.ret (bif c then a else b)
 | .sc .bool c=>(match a,b with
  |.sc t x,b=>(match ie t b with|some y=>.ret (.sc t (T c x y))|none=>.fail)
  |.kb x,b=>(match ie .bool b with|some y=>.ret (.sc .bool (T (c:Bool) x y))|none=>.fail)
  |_,_=>.fail)
 |_=>.fail
def Hw(fV:ae)(a:au):aw au:=
 match fV with
 |.str=>(match a with|.sc .str l=>.ret (int (len (l:List UInt8)))|_=>.fail)
 |.ar n _=>.ret (int (bf n))
 |.sl _=>
  (match a with
  |.sc (.sl e) l=>.ret (int (len (l:List e.aD)))
  |.csl _ l=>.ret (int (len l))
  |.nil=>.ret (int 0)
  |.own id _=>.rb id fun|.ob _ l=>.ret (int (len l))|.fz _ l=>.ret (int (len l))|_=>.fail
  |.osl id _ n=>.rb id fun|.ob _ _=>.ret (int (bf n))|.fz _ _=>.ret (int (bf n))|_=>.fail
  |.psl id n=>.rb id fun|.box _ _=>.ret (int (bf n))|_=>.fail
  |_=>.fail)
 |_=>.fail
def tK(id:Nat)(k:aw au):aw au:=.rb id fun|.new=>k|_=>.fail
def vR(id:Nat)(e:ae)(l:List e.aD)(d':Bool):aw au:=bif Nat.blt 0 e.size then tK id (.eI id (.ob e l) (.ret (.own id d'))) else .fail
def z7:ae->Bool
 |.sl (.int .u8)=>true|_=>false
def YU(E:db)(d:Nat)(rG c7:Nat)(a:au):aw au:=
 (aw.opt (E.b8 rG)).bind λs=>(aw.opt (E.b8 c7)).bind λt=>
 match t with
 |.int k=>(match a with|.sc (.int k') x=>.ret (.sc (.int k) (bH.of k (bH.to k' x)))|_=>.fail)
 | .str=>(match s with
  |.str=>(match a with|.sc .str x=>.ret (.sc .str x)|_=>.fail)
  |.sl e=>bif z7 (.sl e) then(lT false (.sl (.int .u8)) a).bind λx=>.ret (.sc .str (x:List UInt8)) else .fail
  |_=>.fail)
 | .sl e=>(match s,a with
  |.str,.sc .str x=>bif z7 (.sl e) then .chk (cB 1 (aT (x:List UInt8))) (vR (16*d) (.int .u8) (x:List UInt8) false) else .fail
  |.sl bC,.own id true=>bif z7 (.sl e)&&(z7 (.sl bC)&&Nat.beq rG c7) then .rb id (fun|.ob _ _=>.ret (.own id true)|_=>.fail) else .fail
  |_,_=>.fail)
 |_=>.fail
def xD(t:ae)(a:au):aw au:=
 match a with
 |.ptr id p=>.rb id fun
  |.box rt v=>(match rt.at p,iN v p with|some t',some pv=>bif ae.is t' t then .ret (p4 t pv) else .fail|_,_=>.fail)
  |_=>.fail
 |.ipt e l i p=>(match e.at p,iN (.sc e (ak l i e.zero)) p with|some t',some pv=>bif ae.is t' t then .ret pv else .fail|_,_=>.fail)
 |.opt id i p=>.rb id fun
  |.ob e l=>(match e.at p,iN (.sc e (ak l i e.zero)) p with|some t',some pv=>bif ae.is t' t then .ret pv else .fail|_,_=>.fail)
  |.fz e l=>(match e.at p,iN (.sc e (ak l i e.zero)) p with|some t',some pv=>bif ae.is t' t then .ret pv else .fail|_,_=>.fail)
  |_=>.fail
 |_=>.fail
def IU(t:ae)(a v:au):aw au:=
 match a with
 |.ptr id p=>.rb id fun
  | .box rt c=>(match rt.at p,mj c p (yg v) with
    |some t',some cL=>bif ae.is t' t then(se t v).bind λ_=>.eI id (.box rt cL) (.ret .undef) else .fail
    |_,_=>.fail)
  |_=>.fail
 |.opt id i p=>(lT true t v).bind λx=>.rb id fun
  | .ob e l=>(match e.at p with
   | some t'=>bif ae.is t' t then (match mj (.sc e (ak l i e.zero)) p (.sc t x) with
     |some c=>(match ie e c with|some y=>.eI id (.ob e (cj l i y)) (.ret .undef)|none=>.fail)
     |none=>.fail) else .fail
   |none=>.fail)
  |_=>.fail
 |_=>.fail
def ar3:mx->Bool
 |.ix _=>true
 |_=>false
def aef:au->au->Bool
 |.ptr _ p,.own _ _=>p.any ar3
 |_,_=>false
def U'(t:ae)(a v:au):aw au:=bif aef a v then(lT true t v).bind λx=>IU t a (.sc t x) else IU t a v
def Cx(t' cJ:Option ae)(f:Nat):Bool:=
 match t',cJ with
 |some t',some cJ=>ae.is t' cJ&&(match cJ.at (gb f) with|some dV=>Nat.blt 0 dV.size|none=>false)
 |_,_=>false
def K0(cJ:Option ae)(f:Nat)(a:au):aw au:=
 match a with
 |.ptr id p=>.rb id fun
  |.box t _=>bif Cx (t.at p) cJ f then .ret (.ptr id (p++gb f)) else .fail
  |_=>.fail
 |.ipt e l i p=>bif Cx (e.at p) cJ f then .ret (.ipt e l i (p++gb f)) else .fail
 |.opt id i p=>.rb id fun
  |.ob e _=>bif Cx (e.at p) cJ f then .ret (.opt id i (p++gb f)) else .fail
  |.fz e _=>bif Cx (e.at p) cJ f then .ret (.opt id i (p++gb f)) else .fail
  |_=>.fail
 |_=>.fail
def B5(t':Option ae)(fV:ae)(i:Int)(v:au):aw au:=
 match t',fV with
 |some t',.ar n e=>bif ae.is t' (.ar n e)&&Nat.blt 0 e.size then .chk (aU i (bf n)) (.ret v) else .fail
 |_,_=>.fail
def xw(fV:ae)(a:au)(i:Int):aw au:=
 match a with
 | .sc t l=>(match fV with
  |.sl e=>(aw.opt (ae.cast t (.sl e) l)).bind λl=>.chk (aU i (len (l:List e.aD))) (.ret (.ipt e l (aa i) []))
  |_=>.fail)
 |.csl e l=>bif ae.is (.sl e) fV then .chk (aU i (len l)) (.ret (.ipt e l (aa i) [])) else .fail
 |.own id _=>.rb id fun
  |.ob e l=>bif ae.is (.sl e) fV then .chk (aU i (len l)) (.ret (.opt id (aa i) [])) else .fail
  |.fz e l=>bif ae.is (.sl e) fV then .chk (aU i (len l)) (.ret (.opt id (aa i) [])) else .fail
  |_=>.fail
 |.osl id off n=>.rb id fun
  |.ob e _=>bif ae.is (.sl e) fV then .chk (aU i (bf n)) (.ret (.opt id (bQ off (aa i)) [])) else .fail
  |.fz e _=>bif ae.is (.sl e) fV then .chk (aU i (bf n)) (.ret (.opt id (bQ off (aa i)) [])) else .fail
  |_=>.fail
 |.ptr id p=>.rb id fun
  |.box t _=>B5 (t.at p) fV i (.ptr id (p++[.ix (aa i)]))
  |_=>.fail
 |.ipt e l j p=>B5 (e.at p) fV i (.ipt e l j (p++[.ix (aa i)]))
 |.psl id n=>.rb id fun
  |.box _ _=>bif ae.is (.sl (.op 3)) fV then .chk (aU i (bf n)) (.ret (.ptr id (gb (aa i)))) else .fail
  |_=>.fail
 |.opt id j p=>.rb id fun
  |.ob e _=>B5 (e.at p) fV i (.opt id j (p++[.ix (aa i)]))
  |.fz e _=>B5 (e.at p) fV i (.opt id j (p++[.ix (aa i)]))
  |_=>.fail
 |_=>.fail
def Hb(fV:ae)(a:au)(i:Int):aw au:=
 match a with
 | .sc .str l=>(match fV with
  |.str=>.chk (aU i (len (l:List UInt8))) (.ret (.sc (.int .u8) (ak (l:List UInt8) (aa i) (u8 0))))
  |_=>.fail)
 | a=>(match fV with
  |.ar n e=>(aw.opt (ie (.ar n e) a)).bind λl=>.chk (aU i (bf n)) (.ret (.sc e (ak (l:List e.aD) (aa i) e.zero)))
  |_=>.fail)
def Q8(E:db)(xT:Nat)(f:Nat)(a:au):aw au:=
 match E.b8 xT with
 |some t=>(se t a).bind λ_=>(match t.at (gb f),iN (yg a) (gb f) with|some dV,some v=>.ret (p4 dV v)|_,_=>.fail)
 |none=>.fail
def bT(i:Option Int)(d:Int):Int:=match i with|some i=>i|none=>d
def UV(n:Nat)(ju:ae)(a:au)(lo hi:Int):aw au:=
 match a with
 |.ptr id []=>.rb id fun
  |.box t _=>bif ae.is t (.ar n ju)&&(Nat.blt 0 ju.size&&Nat.ble n 16777216) then .chk (ca lo hi (bf n)) (.ret (.osl id (aa lo) (cd (aa hi) (aa lo)))) else .fail
  |.fz e l=>bif ae.is e ju&&Nat.ble n 16777216 then .chk (cZ (bZ (aT l) n) (ca lo hi (bf n))) (.ret (.sc (.sl e) (sub l lo hi))) else .fail
  |_=>.fail
 |_=>.fail
def wb(fV:ae)(a:au)(lo hi qC:Option Int):aw au:=
 match qC with
 |none=>
  (match fV with
  | .str=>(match a with
   |.sc t l=>(aw.opt (ae.cast t .str l)).bind λl=>.chk (ca (bT lo 0) (bT hi (len (l:List UInt8))) (len (l:List UInt8))) (.ret (.sc .str (sub (l:List UInt8) (bT lo 0) (bT hi (len (l:List UInt8))))))
   |_=>.fail)
  | .sl ju=>(match a with
   |.nil=>.chk (ca (bT lo 0) (bT hi 0) 0) (.ret .nil)
   |.sc t l=>(aw.opt (ae.cast t (.sl ju) l)).bind λl=>.chk (ca (bT lo 0) (bT hi (len (l:List ju.aD))) (len (l:List ju.aD))) (.ret (.sc (.sl ju) (sub (l:List ju.aD) (bT lo 0) (bT hi (len (l:List ju.aD))))))
   |.csl e l=>bif ae.is (.sl e) (.sl ju) then .chk (ca (bT lo 0) (bT hi (len l)) (len l)) (.ret (.sc (.sl e) (sub l (bT lo 0) (bT hi (len l))))) else .fail
   |.own id _=>.rb id fun
    |.ob e l=>bif ae.is (.sl e) (.sl ju) then .chk (ca (bT lo 0) (bT hi (len l)) (len l)) (.ret (.osl id (aa (bT lo 0)) (cd (aa (bT hi (len l))) (aa (bT lo 0))))) else .fail
    |.fz e l=>bif ae.is (.sl e) (.sl ju) then .chk (ca (bT lo 0) (bT hi (len l)) (len l)) (.ret (.sc (.sl e) (sub l (bT lo 0) (bT hi (len l))))) else .fail
    |_=>.fail
   |.osl id off n=>.rb id fun
    |.ob e _=>bif ae.is (.sl e) (.sl ju) then .chk (ca (bT lo 0) (bT hi (bf n)) (bf n)) (.ret (.osl id (bQ off (aa (bT lo 0))) (cd (aa (bT hi (bf n))) (aa (bT lo 0))))) else .fail
    |.fz e _=>bif ae.is (.sl e) (.sl ju) then .chk (ca (bT lo 0) (bT hi (bf n)) (bf n)) (.ret (.osl id (bQ off (aa (bT lo 0))) (cd (aa (bT hi (bf n))) (aa (bT lo 0))))) else .fail
    |_=>.fail
   |_=>.fail)
  |.ar n ju=>UV n ju a (bT lo 0) (bT hi (bf n))
  |_=>.fail)
 |some m=>
  (match hi with
  |some h=>
   (match a with
   | .sc t l=>(match fV with
    |.sl e=>(aw.opt (ae.cast t (.sl e) l)).bind λl=>.chk (cZ (ca (bT lo 0) h (len (l:List e.aD))) (ag h m)) (.ret (.csl e (sub (l:List e.aD) (bT lo 0) h)))
    |_=>.fail)
   |_=>.fail)
  |none=>.fail)
def UU(fV:ae)(a:au)(lo hi qC:Option Int):aw au:=
 match qC with
 | none=>(match hi with
  | some h=>(match a with
   | .osl id off n=>(match fV with
    |.sl ju=>.rb id fun
     |.ob e l=>bif ae.is (.sl e) (.sl ju) then .chk (cZ (i7 off (bQ (aT l) 1)) (ca (bT lo 0) h (bi (len l) (bf off)))) (.ret (.osl id (bQ off (aa (bT lo 0))) (cd (aa h) (aa (bT lo 0))))) else .fail
     |_=>.fail
    |_=>.fail)
   | a=>wb fV a lo (some h) none)
  |none=>wb fV a lo none none)
 | some m=>(match hi with
  | some h=>(match a with
   | .own id _=>(match fV with
    |.sl ju=>.rb id fun
     |.ob e l=>bif ae.is (.sl e) (.sl ju) then .chk (cZ (ca (bT lo 0) h m) (bE m (len l))) (.ret .bad) else .fail
     |_=>.fail
    |_=>.fail)
   |_=>.fail)
  |none=>.fail)
def F1(a:au)(i:Nat):aw au:=
 match a with
 |.tup a=>aw.opt (iN a (gb i))
 |_=>.fail
def I3(eJ:Bool):(ts:List ae)->List au->aw (hZ ts)
 |[],[]=>.ret ()
 |t::ts,v::vs=>(lT eJ t v).bind λx=>(I3 eJ ts vs).bind λy=>.ret (x,y)
 |_,_=>.fail
def Uv(id:Nat):(r:ef)->r.aD->aw au
 |.im t,x=>.ret (.sc t x)
 |.ow e,l=>vR id e l false
 |.cl e,l=>.ret (.csl e l)
def Uu(id:Nat):(rs:List ef)->d8 rs->aw au
 |[],_=>.ret (.sc .unit ())
 |r::rs,x=>(Uv id r x.1).bind λv=>(Uu (id+1) rs x.2).bind λw=>.ret (.two v w)
def Qf(d:Nat):(rs:List ef)->d8 rs->aw au
 |[],_=>.ret (.tup (.sc .unit ()))
 |[t],r=>Uv (16*d) t r.1
 |t::t'::ts,r=>(Uu (16*d) (t::t'::ts) r).bind λv=>.ret (.tup v)
def PE(d:Nat)(s:ik):List au->aw au
 |.ptr id []::as=>.rb id λb=>match b with
  |.box t v=>bif ae.is t s.ty then(lT true s.ty v).bind λx=>(I3 true s.args as).bind λy=>.rb id λei=>match ei with
   |.box ev _=>bif ae.is ev s.ty then .bo (s.ty.zero,yH s.res) (s.fn (x,y)) λr=>.eI id (.box s.ty (.sc s.ty r.1)) (Qf d s.res r.2) else .fail
   |_=>.fail
   else .fail
  |_=>.fail
 |_=>.fail
def Qe(s:nJ):List au->aw (Nat×au)
 |.ptr id []::as=>.rb id λb=>match b with
  |.box t v=>bif ae.is t s.ty then(lT true s.ty v).bind λx=>(I3 true s.args as).bind λy=>.rb id λei=>match ei with
   |.box ev _=>bif ae.is ev s.ty then .bo (s.ty.zero,(0:Nat),yH [.im s.rt]) (s.fn (x,y)) λr=>.eI id (.box s.ty (.sc s.ty r.1)) (.ret (r.2.1,.sc s.rt r.2.2.1)) else .fail
   |_=>.fail
   else .fail
  |_=>.fail
 |_=>.fail
def FC(E:db)(d:Nat)(f:Nat)(args:List au):aw au:=
 match E.G f with
 |none=>(match E.X f with|some s=>PE d s args|none=>.fail)
 |some g=>(I3 (!(g.res.all ef.l5)) g.args args).bind λx=>.bo (yH g.res) (g.fn x) λr=>Qf d g.res r
def lO{α β:Type}(f:α->aw β):List α->aw (List β)
 |[]=>.ret []
 |a::r=>(f a).bind λb=>(lO f r).bind λb9=>.ret (b::b9)
def il.pv:il->au
 |.ptr id p=>.ptr id p
 |.iw t x=>.sc t x
def Cj:au->aw il
 |.ptr id p=>.ret (.ptr id p)
 |.sc t x=>.ret (.iw t x)
 |.kb b=>.ret (.iw .bool b)
 |.agg t u=>(lT true t (.agg t u)).bind λx=>.ret (.iw t x)
 |.clo f _ []=>.ret (.iw (.fn [f]) (1:Nat))
 |_=>.fail
def Kv(E:db)(d:Nat):List Nat->Nat->List au->aw au
 |[],_,_=>.fail
 |[f],x,args=>.chk (bZ x 1) (FC E d f args)
 |f::u6::r,x,args=>.br (bZ x 1) (FC E d f args) (Kv E d (u6::r) (cd x 1) args)
def u3(dQ:Nat)(cW:List il)(args:List au):List au:=(cW.take dQ).map il.pv++(args++(cW.drop dQ).map il.pv)
def alR(E:db)(d:Nat)(f:au)(args:List au):aw au:=
 match f with
 |.clo f dQ cW=>FC E d f (u3 dQ cW args)
 |.sc (.fn l) x=>Kv E d l x args
 |_=>.fail
def vH:ae->Bool
 |.int _=>true|.str=>true|_=>false
def agO(a b:List UInt8):Bool:=!(decide (a=b))
def aco(a b:Int):Bool:=!(decide (a=b))
def Hl:(t:ae)->t.aD->t.aD->Bool
 |.int k,a,b=>aco (bH.to k a) (bH.to k b)
 |.str,a,b=>agO (a:List UInt8) (b:List UInt8)
 |_,_,_=>false
def vG:(t:ae)->t.aD->t.aD->Bool
 |.int k,a,b=>ag (bH.to k a) (bH.to k b)
 |.str,a,b=>seq (a:List UInt8) (b:List UInt8)
 |_,_,_=>false
def vT:au->Bool
 |.tup _=>false|_=>true
def LU(q:ae×ae)(m k v:au):aw au:=
 match m with
 |.mpp id=>.rb id fun
  |.mp kt vt l=>(aw.opt (ie kt k)).bind λkey=>(aw.need (ae.is kt q.1&&vH kt&&(vT v&&l.all λp=>Hl kt key p.1))).bind λ_=>.eI id (.mp kt vt (l++[(key,v)])) (.ret .undef)
  |_=>.fail
 |_=>.fail
def x5(ok:Bool)(v b:au):au:=bif ok then .tup (.two v (.two b (.sc .unit ()))) else v
def B1(kt vt:ae):List (kt.aD×au)->Option (List (kt.aD×vt.aD))
 |[]=>some []
 |(k,v)::r=>match ie vt v,B1 kt vt r with|some x,some et=>some ((k,x)::et)|_,_=>none
def D6(kt vt:ae)(key:kt.aD):List (kt.aD×vt.aD)->vt.aD
 |[]=>vt.zero
 |(k,x)::r=>T (vG kt key k) x (D6 kt vt key r)
def CP(kt vt:ae)(key:kt.aD):List (kt.aD×vt.aD)->Bool
 |[]=>false
 |(k,_)::r=>T (vG kt key k) true (CP kt vt key r)
def Lj(kt vt:ae)(ok:Bool)(key:kt.aD):List (kt.aD×au)->aw au
 |[]=>.ret (x5 ok (p4 vt (m0 vt)) (.kb false))
 |(k,v)::r=>.br (vG kt key k) (.ret (x5 ok v (.kb true))) (Lj kt vt ok key r)
def ZU(kt vt:ae)(ok:Bool)(key:kt.aD)(l:List (kt.aD×au)):aw au:=
 match B1 kt vt l with
 |some et=>.ret (x5 ok (.sc vt (D6 kt vt key et)) (.sc .bool (CP kt vt key et)))
 |none=>Lj kt vt ok key l
def Ti(E:db)(xT:Nat)(x k:au)(ok:Bool):aw au:=
 (aw.opt (E.M xT)).bind λp=>
 match x with
 |.mpp id=>.rb id fun
  |.mp kt vt l=>(aw.need (ae.is kt p.1&&(ae.is vt p.2&&vH kt))).bind λ_=>(aw.opt (ie kt k)).bind λkey=>ZU kt vt ok key l
  |_=>.fail
 |.sc (.op 2) _=>(aw.need (vH p.1)).bind λ_=>(aw.opt (ie p.1 k)).bind λ_=>.ret (x5 ok (p4 p.2 (m0 p.2)) (.kb false))
 |_=>.fail
def W7(E:db)(tr:Nat)(x:au)(ok:Bool):aw au:=
 match x with
 |.ifc tid t y=>(aw.opt (E.b8 tr)).bind λt'=>bif ae.is t' (.op 1) then .fail else
   bif Nat.beq tid tr then .ret (x5 ok (.sc t y) (.kb true)) else bif ok then .ret (x5 ok (p4 t' (m0 t')) (.kb false)) else .fail
 |.sc (.op 1) _=>(aw.opt (E.b8 tr)).bind λt'=>bif ae.is t' (.op 1) then .fail else bif ok then .ret (x5 ok (p4 t' (m0 t')) (.kb false)) else .fail
 |_=>.fail
def Fj(e:ae)(x:au):aw (List e.aD):=
 match x with
 |.sc .str l=>aw.opt (ae.kK (.int .u8) e (l:List UInt8))
 |x=>lT false (.sl e) x
def Tw:au->Bool
 |.own _ true=>true|_=>false
def Pi(d:Nat)(e:ae)(s x:au):aw au:=
 bif Nat.blt 0 e.size then(Fj e x).bind λbs=>
 match s with
 |.nil=>.chk (g7 e (aT bs)) (vR (16*d) e bs false)
 |.own id _=>.rb id fun
  |.ob bC l=>(aw.opt (ae.kK bC e l)).bind λl=>.chk (g7 e (bQ (aT l) (aT bs))) (.eI id .e9 (vR (16*d) e (bv l bs) false))
  |_=>.fail
 |.osl id off n=>.rb id fun
  |.ob bC l=>(aw.opt (ae.kK bC e l)).bind λl=>.chk (g7 e (bQ n (aT bs))) (.eI id .e9 (vR (16*d) e (bv (cut l off n) bs) false))
  |_=>.fail
 |.csl bC l=>(aw.opt (ae.kK bC e l)).bind λl=>.chk (g7 e (bQ (aT l) (aT bs))) (bif Tw x then vR (16*d) e (bv l bs) false else .ret (.sc (.sl e) (bv l bs)))
 |_=>.fail
 else .fail
def dU{α:Type}(l:List α)(off n:Nat)(bs:List α):List α:=l.take off++(bs.take n++l.drop (off+min n bs.length))
def Ph(e:ae)(s x:au):aw au:=
 bif Nat.blt 0 e.size then(Fj e x).bind λbs=>
 match s with
 |.osl id off n=>.rb id fun
  |.ob bC l=>(aw.opt (ae.kK e bC bs)).bind λhD=>.chk (i7 (bQ off (bQ n (aT hD))) (bQ (aT l) 1)) (.eI id (.ob bC (dU l (bQ off n) (aT hD) hD)) (.ret (.osl id off (bQ n (aT hD)))))
  |_=>.fail
 |_=>.fail
 else .fail
def YV(e:ae)(a x:au):aw au:=
 bif Nat.blt 0 e.size then(lT false (.sl e) x).bind λbs=>
 match a with
 |.nil=>.ret (int 0)
 |.own id _=>.rb id fun
  |.ob bC l=>(aw.opt (ae.kK e bC bs)).bind λhD=>.eI id (.ob bC (dU l 0 (aT l) hD)) (.ret (int (fC (len l) (len hD))))
  |_=>.fail
 |.osl id off n=>.rb id fun
  |.ob bC l=>(aw.opt (ae.kK e bC bs)).bind λhD=>.eI id (.ob bC (dU l off n hD)) (.ret (int (fC (bf n) (len hD))))
  | .box t v=>(match t with
   |.ar m bC=>(aw.opt (ie (.ar m bC) v)).bind λl=>(aw.opt (ae.kK e bC bs)).bind λhD=>.eI id (.box (.ar m bC) (.sc (.ar m bC) (dU (l:List bC.aD) off n hD))) (.ret (int (fC (bf n) (len hD))))
   |_=>.fail)
  |_=>.fail
 |_=>.fail
 else .fail
def Qr(e:ae)(a:au):aw au:=
 bif Nat.blt 0 e.size then
 match a with
 |.own id _=>.rb id fun
  |.ob bC l=>bif ae.is bC e then .eI id (.ob bC (dU l 0 (aT l) (bO (aT l) bC.zero))) (.ret (.tup (.sc .unit ()))) else .fail
  |_=>.fail
 |.osl id off n=>.rb id fun
  |.ob bC l=>bif ae.is bC e then .eI id (.ob bC (dU l off n (bO n bC.zero))) (.ret (.tup (.sc .unit ()))) else .fail
  |_=>.fail
 |_=>.fail
 else .fail
def QX:ae->Option ae
 |.sl e=>some e|_=>none
def acr:ae->Bool
 |.sl _=>true|_=>false
def LV:ae->Bool
 |.sl _=>true|.str=>true|_=>false
def PJ(E:db)(d:Nat)(b:Builtin)(eg:List Nat)(args:List au):aw au:=
 match b with
 | .len=>(match eg,args with
  |t::_,[a]=>(aw.opt (E.b8 t)).bind λt=>Hw t a
  |_,_=>.fail)
 | .cap=>(match eg,args with
  |t::_,[.nil]=>(aw.opt (E.b8 t)).bind λt=>bif acr t then .ret (int 0) else .fail
  |_,_=>.fail)
 | .append=>(match eg,args with
  | [t,u],[s,x]=>(match E.b8 t,E.b8 u with
   | some (.sl e),some (.int .i64)=>(match s,x with
    |.nil,.sc (.int .i64) n=>.chk (cZ (bE 0 n) (g7 e (aa n))) (vR (16*d) e (bO (aa n) e.zero) false)
    |_,_=>.fail)
   |some (.sl e),some u=>bif LV u then(bif E.A then Ph e s x else Pi d e s x) else .fail
   |_,_=>.fail)
  |_,_=>.fail)
 | .copy=>(match eg,args with
  | [t,u],[a,x]=>(match E.b8 t,E.b8 u with
   |some (.sl e),some (.sl _)=>YV e a x
   |_,_=>.fail)
  |_,_=>.fail)
 | .clear=>(match eg,args with
  | [t],[a]=>(match E.b8 t with
   |some (.sl e)=>Qr e a
   |_=>.fail)
  |_,_=>.fail)
 |.min=>(match args with|[.sc (.int .i64) a,.sc (.int .i64) b]=>.ret (int (fC a b))|_=>.fail)
 |.max=>(match args with|[.sc (.int .i64) a,.sc (.int .i64) b]=>.ret (int (cU a b))|_=>.fail)
 |_=>.fail
def D9(t:ae):au->List (Nat×au)->Option au
 |v,[]=>some v
 |v,(i,u)::r=>match mj v (gb i) (yg u) with|some cY=>D9 t cY r|none=>none
def Cz(t:ae):List (Nat×au)->aw Unit
 |[]=>.ret ()
 |(i,u)::r=>match t.at (gb i) with|some dV=>(se dV u).bind λ_=>Cz t r|none=>.fail
def I5(e:ae):List (Nat×au)->aw (List (Nat×e.aD))
 |[]=>.ret []
 |(i,u)::r=>(lT true e u).bind λx=>(I5 e r).bind λet=>.ret ((i,x)::et)
def uA{α:Type}:List α->List (Nat×α)->List α
 |l,[]=>l
 |l,(i,x)::r=>uA (l.set i x) r
def acs:ae->Bool
 |.unit=>true|.pair _ _=>true|_=>false
def ajQ(t:ae)(aZ:List (Nat×au)):aw au:=
 match t with
 |.ar n e=>(aw.need (aZ.all λp=>Nat.blt p.1 n)).bind λ_=>(I5 e aZ).bind λet=>.ret (.sc (.ar n e) (uA (List.replicate n e.zero) et))
 |t=>bif acs t then(Cz t aZ).bind λ_=>(aw.opt (D9 t (m0 t) aZ)).bind λv=>.ret (p4 t v) else .fail
def Xq(d:Nat)(e:ae)(n:Nat)(aZ:List (Nat×au)):aw au:=
 (aw.need (aZ.all (λp=>Nat.blt p.1 n)&&Nat.ble (n*e.size) 16777216)).bind λ_=>(I5 e aZ).bind λet=>
  vR (16*d) e (uA (List.replicate n e.zero) et) (Nat.blt 0 n)
def aey(d n:Nat)(aZ:List (Nat×au)):aw au:=
 bif Nat.blt 0 n&&Nat.ble n 64 then(Cz (mq n) aZ).bind λ_=>(aw.opt (D9 (mq n) (m0 (mq n)) aZ)).bind λv=>tK (16*d) (.eI (16*d) (.box (mq n) v) (.ret (.psl (16*d) n))) else .fail
def HX:Option Operand->aw (Option Int)
 |none=>.ret none
 |some o=>(ea o).bind λv=>(y6 v).bind λn=>.ret (some n)
def MJ(aZ:List (Nat×Operand)):aw (List (Nat×au)):=lO (λp=>(ea p.2).bind λv=>.ret (p.1,v)) aZ
def Ml(v:au):aw au:=
 match v with
 |.ptr id p=>.rb id fun|.box _ _=>.ret (.ptr id p)|_=>.fail
 |.ipt e l i p=>.ret (.ipt e l i p)
 |.opt id i p=>.rb id fun|.ob _ _=>.ret (.opt id i p)|.fz _ _=>.ret (.opt id i p)|_=>.fail
 |.clo f dQ cW=>.ret (.clo f dQ cW)
 |_=>.fail
def avv(id:Nat)(x:au):aw au:=
 match x with
 |.sc .str l=>tK id (.eI id (.it l 0) (.ret (.itp id)))
 |_=>.fail
def Ty(x:au):aw au:=
 match x with
 |.itp id=>.rb id fun
  |.it s p=>.br (i7 p (aT s))
    (.eI id (.it s (bQ p (gA s p).2)) (.ret (.tup (.two (.kb true) (.two (int (bf p)) (.two (.sc (.int .i32) (bf (gA s p).1)) (.sc .unit ())))))))
    (.ret (.tup (.two (.kb false) (.sc .unit ()))))
  |_=>.fail
 |_=>.fail
def HJ:BinOp->Operand->Bool
 |.eql,.const .nilIface=>true
 |_,_=>false
def LS(t:ae)(a:au):aw au:=
 bif ae.is t (.op 1) then(match a with
  |.ifc _ _ _=>.ret (.kb false)
  |.sc (.op 1) _=>.ret (.kb true)
  |_=>.fail) else .fail
def rv(E:db)(o:Oper):aw au:=
 let d:=E.b+o.dst.getD 0
 match o.op with
 |.move x=>ea x
 |.assign x=>ea x
 |.pick c a b=>(ea c).bind λc=>(ea a).bind λa=>(ea b).bind λb=>T' c a b
 |.alloc t=>(aw.opt (E.b8 t)).bind λt=>tK (16*d) (.eI (16*d) (.box t (m0 t)) (.ret (.ptr (16*d) [])))
 |.box t x=>(aw.opt (E.b8 t)).bind λt=>(ea x).bind λv=>(se t v).bind λ_=>tK (16*d) (.eI (16*d) (.box t (yg v)) (.ret (.ptr (16*d) [])))
 |.build t aZ=>(aw.opt (E.b8 t)).bind λt=>(MJ aZ.toList).bind λaZ=>ajQ t aZ
 |.buildSlice t n aZ=>(aw.opt (E.b8 t)).bind λt=>(aw.opt (QX t)).bind λe=>(MJ aZ.toList).bind λaZ=>bif ae.is e (.op 3) then aey d n aZ else Xq d e n aZ
 |.load t a=>(aw.opt (E.b8 t)).bind λt=>(ea a).bind λa=>xD t a
 |.store t a x=>(aw.opt (E.b8 t)).bind λt=>(ea a).bind λa=>(ea x).bind λx=>U' t a x
 |.nilCheck x=>(ea x).bind λv=>Ml v
 |.binOp op t x y _=>bif HJ op y then(aw.opt (E.b8 t)).bind λty=>(ea x).bind λa=>LS ty a else(ea x).bind λa=>(ea y).bind λb=>Ka E (Mw y) (Mp y) op t a b
 |.unOp op _ x=>(ea x).bind λx=>VR op x
 |.convert s t x=>(ea x).bind λx=>YU E d s t x
 |.makeSlice t l c=>(aw.opt (E.b8 t)).bind λt=>(aw.opt (QX t)).bind λe=>(ea l).bind λl=>(y6 l).bind λl=>(ea c).bind λc=>(y6 c).bind λc=>
   .chk (cZ (ca 0 l c) (g7 e (aa c))) (vR (16*d) e (bO (aa l) e.zero) false)
 |.slice t x lo hi qC=>(aw.opt (E.b8 t)).bind λt=>(ea x).bind λx=>(HX lo).bind λlo=>(HX hi).bind λhi=>(HX qC).bind λqC=>bif E.A then(match t with|.sl e=>UU (.sl e) x lo hi qC|_=>.fail) else wb t x lo hi qC
 |.fieldAddr s x f=>(ea x).bind λx=>K0 (E.b8 s) f x
 |.field t x f=>(ea x).bind λx=>Q8 E t f x
 |.indexAddr t x i=>(aw.opt (E.b8 t)).bind λt=>(Rx E x).bind λx=>(ea i).bind λi=>(y6 i).bind λi=>xw t x i
 |.index t x i=>(aw.opt (E.b8 t)).bind λt=>(ea x).bind λx=>(ea i).bind λi=>(y6 i).bind λi=>Hb t x i
 |.range t x=>(aw.opt (E.b8 t)).bind λt=>(aw.need (ae.is t .str)).bind λ_=>(ea x).bind λx=>avv (16*d) x
 |.next x true=>(ea x).bind λx=>Ty x
 |.extract x i=>(ea x).bind λx=>F1 x i
 |.makeFunc (.func f) first cap=>(lO ea first.toList).bind λa=>(lO ea cap.toList).bind λb=>(lO Cj (a++b)).bind λcW=>.ret (.clo f a.length cW)
 |.makeMap t none=>(aw.opt (E.M t)).bind λp=>tK (16*d) (.eI (16*d) (.mp p.1 p.2 []) (.ret (.mpp (16*d))))
 |.insert t m k v=>(aw.opt (E.M t)).bind λq=>(ea m).bind λm=>(ea k).bind λk=>(ea v).bind λv=>LU q m k v
 |.mapUpdate t m k v=>(aw.opt (E.M t)).bind λq=>(ea m).bind λm=>(ea k).bind λk=>(ea v).bind λv=>LU q m k v
 |.lookup t x i ok=>(ea x).bind λx=>(ea i).bind λi=>Ti E t x i ok
 |.makeInterface t x=>(aw.opt (E.b8 t)).bind λty=>(aw.need (!(ae.is ty (.op 1)))).bind λ_=>(ea x).bind λx=>(lT true ty x).bind λy=>.ret (.ifc t ty y)
 |.typeAssert x _ a ok=>(ea x).bind λx=>W7 E a x ok
 | .call c=>(match c.callee with
  |.builtin b=>(lO ea c.args.toList).bind λargs=>PJ E d b c.argTypes.toList args
  |.value f=>(ea f).bind λf=>(lO ea c.args.toList).bind λargs=>alR E d f args
  |.invoke .. => .fail)
 |_=>.fail
end Yp
namespace Yp
open Go
structure ou where
 i:Nat
 al:Bool
 rb:List Nat
 eI:List Nat
def Me(a b:List Nat):Bool:=a.any λk=>b.any (Nat.beq k)
def U2:List Nat->Bool
 |[]=>false|_=>true
def ou.Kx(a b:ou):Bool:=Me a.eI b.rb||Me a.eI b.eI||Me a.rb b.eI||(a.al&&U2 b.eI)||(b.al&&U2 a.eI)
def qJ(nO:List Nat):List ou->Bool
 |[]=>true
 |f::r=>r.all (λg=>!(f.Kx g)||Nat.testBit (nO.getD g.i 0) f.i)&&qJ nO r
def bits:List Nat->Nat
 |[]=>0
 |i::r=>2^i|||bits r
def VJ:List Operand->List Nat
 |[]=>[]
 |.tmp t::r=>t::VJ r
 |_::r=>VJ r
def Zd(ops:List Oper)(j:Nat):List Nat:=match ops[j]? with|some o=>(match o.dst with|some d=>[d]|none=>[])|none=>[]
def ki(ops:List Oper)(o:Oper):Nat:=bits (VJ o.op.operands.toList++(match o.guard with|some (g,_)=>Zd ops g|none=>[]))
def EF(o:Oper):Nat:=match o.dst with|some d=>2^d|none=>0
def IL(ops:List Oper)(nO:List Nat):Nat->List Oper->List (Nat×Nat×Nat)->Bool
 |_,[],_=>true
 |i,o::r,l=>
  let pT:=ki ops o
  let wr:=EF o
  l.all (λp=>(Nat.beq (Nat.land p.2.2 (pT|||wr)) 0&&Nat.beq (Nat.land p.2.1 wr) 0)||Nat.testBit (nO.getD i 0) p.1) &&
  IL ops nO (i+1) r ((i,pT,wr)::l)
def lE:List Oper->List Nat->List Nat
 |[],dc=>dc
 |o::r,dc=>lE r (dc++[o.after.toList.foldl (λs e=>bif Region.binds .any e then s|||2^e.on|||dc.getD e.on 0 else s) 0])
def u4:Nat->List Oper->Bool
 |_,[]=>true
 |i,o::r=>o.after.toList.all (λe=>!(Region.binds .any e)||Nat.blt e.on i)&&u4 (i+1) r
def xf:List Oper->Nat
 |[]=>0
 |o::r=>match o.guard with|some (g,_)=>2^g|||xf r|none=>xf r
def H?(ops:List Oper):Bool:=u4 0 ops&&IL ops (lE ops []) 0 ops []
def en:List Oper->List Nat
 |[]=>[]
 |o::r=>match o.dst with|some d=>d::en r|none=>en r
def jO(ρ:Type):Type:=aE aM ρ
def VQ:au->Option ae
 |.sc t _=>some t|.kb _=>some .bool|_=>none
def py{β:Type 1}:ae->(ae->β)->β
 |.bool,k=>k .bool|.str,k=>k .str|.unit,k=>k .unit
 |.int i,k=>(match i with|.u8=>k (.int .u8)|.u16=>k (.int .u16)|.u32=>k (.int .u32)|.u64=>k (.int .u64)|.i8=>k (.int .i8)|.i16=>k (.int .i16)|.i32=>k (.int .i32)|.i64=>k (.int .i64))
 |.sl e,k=>py e λe=>k (.sl e)
 |.pair a b,k=>py a λa=>py b λb=>k (.pair a b)
 |.ar n e,k=>py e λe=>k (.ar n e)
 |.op i,k=>k (.op i)|.fn l,k=>k (.fn l)
def KY{β:Type 1}(t:ae)(k:ae->β):py t k=k t:=by
 induction t generalizing k with
 |int i=>cases i<;>rfl
 |sl e h=>simp only[py,h]
 |pair a b h g=>simp only[py,h,g]
 |ar n e h=>simp only[py,h]
 |_=>rfl
def afZ(i:Nat)(t:ae)(s:aM):Bool:=match VQ (s.bX i) with|some t'=>ae.is t' t|none=>false
def wY{β:Type 1}(l:List aM):List Nat->(List (Nat×ae)->β)->β
 |[],k=>k []
 |i::r,k=>match l with
  | s :: m=>(match VQ (s.bX i) with
   |some t=>bif m.all (afZ i t) then wY l r λks=>py t λt=>k ((i,t)::ks) else wY l r k
   |none=>wY l r k)
  |[]=>k []
def Cl:List (Nat×ae)->Type
 |[]=>Unit|p::r=>p.2.aD×Cl r
def ahW:(l:List (Nat×ae))->Cl l
 |[]=>()|p::r=>(p.2.zero,ahW r)
def qk(s:aM):(l:List (Nat×ae))->Option (Cl l)
 |[]=>some ()
 |p::r=>match ie p.2 (s.bX p.1),qk s r with|some x,some y=>some (x,y)|_,_=>none
def Ns{β:Type 1}(s:aM)(k:aM->β):(l:List (Nat×ae))->Cl l->β
 |[],_=>k s
 |p::r,x=>s.A5 p.1 (.sc p.2 x.1) λs=>Ns s k r x.2
def aP.mR{α β:Type}(f:α->Option β):aP α->aP β
 |.fail=>.fail
 |.leaf a=>match f a with|some b=>.leaf b|none=>.fail
 |.br c x y=>.br c (x.mR f) (y.mR f)
 |.chk c x=>.chk c (x.mR f)
 |.bo d o k=>.bo d o λa=>(k a).mR f
 |.cs d e o kn g5 hb=>.cs d e o (λa=>(kn a).mR f) (λk a=>(g5 k a).mR f) (λa=>(hb a).mR f)
def Jf{β:Type 1}(s:aM):List Nat->(aM->β)->β
 |[],k=>k s
 |i::r,k=>s.A5 i .bad λs=>Jf s r k
def acv(s:aM)(keep:List Nat)(cq:aM):Bool:=Nat.beq cq.w.length s.w.length&&keep.all λi=>match cq.bX i with|.own _ _=>false|_=>true
def Hj(s:aM)(all keep:List Nat)(t:aP aM):aP aM:=
 t.pN λl=>
 bif l.all (acv s keep) then
  wY l keep λks=>
  bif Nat.beq ks.length 0 then t else
  .bo (ahW ks) (t.mR (λcq=>bif Nat.beq cq.w.length s.w.length then qk cq ks else none)).bI λp=>Jf s all λs=>Ns s .leaf ks p
 else t
def S?: List Oper->List Nat
 |[]=>[]
 |[o]=>(match o.dst with|some d=>[d]|none=>[])
 |_::r=>S? r
def ib{β:Type}(nt:Nat)(c7:Option Nat)(s:aM)(v:au)(k:aM->aP β):aP β:=
 match c7 with|some d=>bif Nat.blt d nt then s.A5 d v k else .fail|none=>k s
def q9(dk:Bool)(i:Nat)(rb:List Nat)(wr:List (Nat×aQ))(g?:List ou):List ou:=
 bif dk then(match rb,wr with|[],[]=>g?|_,_=>⟨i,false,rb,wr.map λp=>p.1⟩::g?) else g?
def tB:au->Option Bool
 |.sc .bool c=>some c
 |_=>none
def Lm(ops:List Oper)(o:Oper)(s:aM)(FZ skip:aP aM):aP aM:=
 match o.guard with
 |none=>FZ
 | some (j,lV)=>(match (ops[j]?).bind (·.dst) with
  |none=>.fail
  | some g=>(match s.bX g with
   |.kb b=>bif b==lV then FZ else skip
   |.undef=>skip
   |_=>.fail))
def CD(s:aM):Operand->au
 |.tmp t=>s.bX t
 |.func f=>.clo f 0 []
 |_=>.bad
def sT:List il->List Nat
 |[]=>[]
 |.ptr id _::r=>id::sT r
 |.iw _ _::r=>sT r
def dM:au->List Nat
 |.own id _=>[id]|.osl id _ _=>[id]|.ptr id _=>[id]|.opt id _ _=>[id]|.itp id=>[id]|.mpp id=>[id]|.psl id _=>[id]|.clo _ _ cW=>sT cW
 |.two a b=>dM a++dM b|.agg _ a=>dM a|.tup a=>dM a
 |_=>[]
def x3:aQ->List Nat
 |.box _ v=>dM v
 |.mp _ _ l=>l.flatMap λp=>dM p.2
 |_=>[]
def pK(s:aM):List Nat:=s.h.map λp=>p.1
def FH(s:aM)(aZ:List au):Bool:=s.h.all (λp=>(x3 p.2).all λj=>(pK s).any (Nat.beq j))&&aZ.all λp=>(dM p).all λj=>(pK s).any (Nat.beq j)
def ado:List Nat->Bool
 |[]=>true|_=>false
def Up(ops:List Oper)(o:Oper):Operand->Bool
 |.tmp t=>Nat.testBit (ki ops o) t|.func _=>true|_=>false
def adp:List (Nat×aQ)->Bool
 |[]=>true|_=>false
def LT(E:db)(ops:List Oper)(o:Oper)(s:aM):Option (aP (au×aM)):=
 match o.op with
 | .call ⟨.value f,args,_⟩=>(match CD s f with
  | .clo F dQ cW=>(match E.I F with
   | some g=>some (((lO ea args.toList).run s 0 [] []).bind λr =>
     bif Nat.beq (r.2.rt|||ki ops o) (ki ops o)&&(adp r.2.wr&&(ado r.2.rb&&(Up ops o f&&FH s (u3 dQ cW r.1)))) then g ((E.b+o.dst.getD 0+1)*65536) (u3 dQ cW r.1) s else .fail)
   |none=>none)
  |_=>none)
 |_=>none
def Tx(s ax:aM):List Nat:=ax.w.take (ax.w.length-s.w.length)
def mZ(s ax:aM):List (Nat×aQ):=(Tx s ax).map λid=>(id,ax.aR id)
def oc(E:db)(ops:List Oper)(nv nt:Nat)(dk:Bool):Bool->Nat->List Oper->aM->List ou->aP aM
 |_,_,[],s,g?=>bif !dk||(H? ops&&qJ (lE ops []) g?.reverse) then .leaf s else .fail
 |top,i,o::rest,s,g?=>
  Lm ops o s
   (match(bif dk then LT E ops o s else none) with
   |some t=>t.bind λr=>bif Nat.testBit (xf ops) i then .fail else s.v' (mZ s r.2) λbp=>mH r.1 λv=>ib nt o.dst bp v λax=>oc E ops nv nt dk top (i+1) rest ax (q9 dk i (pK s) (mZ s r.2) g?)
   |none=>((rv E o).run s 0 [] []).bind λr=>s.v' r.2.wr λbp=>mH r.1 λv=>
    bif dk && !(Nat.beq (r.2.rt|||ki ops o) (ki ops o)) then .fail else
    bif Nat.testBit (xf ops) i&&(tB v).isSome then
     (match tB v with
     |some c=>
      bif top then ib nt o.dst bp (.sc .bool c) λax=>Hj ax (en rest) ((en rest).filter λk=>Nat.blt k nv||(S? rest).any (Nat.beq k))
       (.br c (ib nt o.dst bp (.kb true) λs=>oc E ops nv nt dk false (i+1) rest s (q9 dk i r.2.rb r.2.wr g?)) (ib nt o.dst bp (.kb false) λs=>oc E ops nv nt dk false (i+1) rest s (q9 dk i r.2.rb r.2.wr g?)))
      else .br c (ib nt o.dst bp (.kb true) λs=>oc E ops nv nt dk false (i+1) rest s (q9 dk i r.2.rb r.2.wr g?)) (ib nt o.dst bp (.kb false) λs=>oc E ops nv nt dk false (i+1) rest s (q9 dk i r.2.rb r.2.wr g?))
     |none=>.fail)
    else ib nt o.dst bp v λs=>oc E ops nv nt dk top (i+1) rest s (q9 dk i r.2.rb r.2.wr g?))
   (ib nt o.dst s .undef λs=>oc E ops nv nt dk top (i+1) rest s g?)
def aw.iQ{α:Type}(s:aM)(m:aw α):aP (α×aM):=(m.run s 0 [] []).bind λr=>s.v' r.2.wr λs=>.leaf (r.1,s)
def SX(E:db)(d:Nat)(f:au)(args:List Operand)(s:aM):Option (aP (au×aM)):=
 match f with
 | .clo F dQ cW=>(match E.I F with
  |some g=>some ((aw.iQ s (lO ea args)).bind λr=>g ((E.b+d+1)*65536) (u3 dQ cW r.1) r.2)
  |none=>none)
 |_=>none
def TT(E:db)(o:Oper)(s:aM):aP (au×aM):=
 let plain:aP (au×aM):=((rv E o).run s 0 [] []).bind λr=>s.v' r.2.wr λbp=>mH r.1 λv=>.leaf (v,bp)
 match o.op with
 | .call ⟨.value f,args,_⟩=>(match SX E (o.dst.getD 0) (CD s f) args.toList s with
  |some t=>t.bind λr=>mH r.1 λv=>.leaf (v,r.2)
  |none=>plain)
 |_=>plain
def o3(E:db)(ops:List Oper)(nv nt:Nat):Bool->Nat->List Oper->aM->aP aM
 |_,_,[],s=>.leaf s
 |top,i,o::rest,s=>
  Lm ops o s
   ((TT E o s).bind λr=>
    bif Nat.testBit (xf ops) i&&(tB r.1).isSome then
     (match tB r.1 with
     |some c=>
      bif top then ib nt o.dst r.2 (.sc .bool c) λax=>Hj ax (en rest) ((en rest).filter λk=>Nat.blt k nv||(S? rest).any (Nat.beq k))
       (.br c (ib nt o.dst r.2 (.kb true) λs=>o3 E ops nv nt false (i+1) rest s) (ib nt o.dst r.2 (.kb false) λs=>o3 E ops nv nt false (i+1) rest s))
      else .br c (ib nt o.dst r.2 (.kb true) λs=>o3 E ops nv nt false (i+1) rest s) (ib nt o.dst r.2 (.kb false) λs=>o3 E ops nv nt false (i+1) rest s)
     |none=>.fail)
    else ib nt o.dst r.2 r.1 λs=>o3 E ops nv nt top (i+1) rest s)
   (ib nt o.dst s .undef λs=>o3 E ops nv nt top (i+1) rest s)
def Qi(E:db):List Oper->Bool
 |[]=>false
 | o :: r=>(match o.op with
  |.call ⟨.value (.func f),_,_⟩=>(E.I f).isSome
  |.call ⟨.value _,_,_⟩=>true
  |_=>false)||Qi E r
def ae0(E:db)(s:aM):ResultVar->aw au
 |.tmp t=>.rt t .ret
 |.cell a t=>(aw.opt (E.b8 t)).bind λt=>.rt a λv=>xD t v
def NV(e:ae):au->aw (List e.aD)
 |.own id _=>.rb id fun
  |.ob bC l=>(aw.opt (ae.kK bC e l)).bind λx=>.eI id .e9 (.ret x)
  |_=>.fail
 |.osl id off n=>.rb id fun
  |.ob bC l=>(aw.opt (ae.kK bC e l)).bind λx=>.eI id .e9 (.ret (cut x off n))
  |_=>.fail
 |.nil=>.ret []
 |_=>.fail
def al0(e:ae):au->aw (List e.aD)
 |.csl bC l=>aw.opt (ae.kK bC e l)
 |.nil=>.ret []
 |_=>.fail
def ahd:(r:ef)->au->aw r.aD
 |.im t,v=>lT true t v
 |.ow e,v=>NV e v
 |.cl e,v=>al0 e v
def n_(s:aM):(rs:List ef)->List au->aP (d8 rs)
 |[],[]=>.leaf ()
 |r::rs,v::vs=>(aw.iQ s (ahd r v)).bind λx=>(n_ x.2 rs vs).bind λy=>.leaf (x.1,y)
 |_,_=>.fail
def mT(E:db)(s:aM):List ResultVar->aP (List au)
 |[]=>.leaf []
 |r::rs=>(aw.iQ s (ae0 E s r)).bind λv=>(mT E s rs).bind λvs=>.leaf (v.1::vs)
def d2:Code->List Nat
 |.region _ ops _=>en ops.toList
 |.seq a b=>d2 a++d2 b
 |.cond _ a b=>d2 a++d2 b
 |.block _ b=>d2 b
 |.loop b=>d2 b
 |.scope b=>d2 b
 |.rangeFunc _ aZ a b=>aZ.toList++d2 a++d2 b
 |_=>[]
def nS:List Nat->List Nat
 |[]=>[]
 |i::r=>bif r.any (Nat.beq i) then nS r else i::nS r
inductive j4 where
 |d (t:ae)|o (id:Nat) (e:ae)|p (a b:j4)
 deriving Inhabited
def j4.aD:j4->Type
 |.d t=>t.aD|.o _ e=>List e.aD|.p a b=>a.aD×b.aD
def j4.zero:(s:j4)->s.aD
 |.d t=>t.zero|.o _ e=>([]:List e.aD)|.p a b=>(a.zero,b.zero)
inductive eX where
 |sl (i:Nat) (t:ae)|ow (i id:Nat) (e:ae)|bk (id:Nat) (e:ae)|bx (id:Nat) (t:ae) (s:j4)|it (id:Nat) (s:List UInt8)
 deriving Inhabited
def eX.aD:eX->Type
 |.sl _ t=>t.aD|.ow _ _ e=>List e.aD|.bk _ e=>List e.aD|.bx _ _ s=>s.aD|.it _ _=>Nat
def eX.zero:(e:eX)->e.aD
 |.sl _ t=>t.zero|.ow _ _ e=>([]:List e.aD)|.bk _ e=>([]:List e.aD)|.bx _ _ s=>s.zero|.it _ _=>(0:Nat)
def mC:List eX->Type
 |[]=>Unit|e::r=>e.aD×mC r
def ahV:(l:List eX)->mC l
 |[]=>()|e::r=>(e.zero,ahV r)
def wa(O R:aM):Nat->Nat->au->au->Option j4
 |0,_,_,_=>none
 |fu+1,n,.two a b,.two c d=>match wa O R fu (2*n) a c,wa O R fu (2*n+1) b d with
  |some (.d t),some (.d u)=>some (.d (.pair t u))
  |some x,some y=>some (.p x y)|_,_=>none
 |fu+1,n,.two a b,.sc (.pair s t) x=>match wa O R fu (2*n) a (.sc s x.1),wa O R fu (2*n+1) b (.sc t x.2) with
  |some (.d t),some (.d u)=>some (.d (.pair t u))
  |some x,some y=>some (.p x y)|_,_=>none
 |fu+1,n,.sc (.pair s t) x,.two c d=>match wa O R fu (2*n) (.sc s x.1) c,wa O R fu (2*n+1) (.sc t x.2) d with
  |some (.d t),some (.d u)=>some (.d (.pair t u))
  |some x,some y=>some (.p x y)|_,_=>none
 |_+1,_,.sc t _,.sc t' _=>bif ae.is t t' then some (.d t) else none
 |_+1,_,.sc t _,.kb _=>bif ae.is t .bool then some (.d .bool) else none
 |_+1,_,.kb _,.sc t _=>bif ae.is t .bool then some (.d .bool) else none
 |_+1,_,.kb _,.kb _=>some (.d .bool)
 |_+1,_,.nil,.sc (.sl e) _=>some (.d (.sl e))
 |_+1,_,.sc (.sl e) _,.nil=>some (.d (.sl e))
 |_+1,n,.nil,.own id _=>(match R.aR id with|.ob e _=>some (.o n e)|.fz e _=>some (.d (.sl e))|_=>none)
 |_+1,n,.own id _,.nil=>(match O.aR id with|.ob e _=>some (.o n e)|.fz e _=>some (.d (.sl e))|_=>none)
 | _+1,n, .own id _, .own oR _=>(match O.aR id,R.aR oR with
   |.ob e _,.ob bC _=>bif ae.is e bC then some (.o n e) else none
   |.fz e _,.ob bC _=>bif ae.is e bC then some (.d (.sl e)) else none
   |.ob e _,.fz bC _=>bif ae.is e bC then some (.d (.sl e)) else none
   |.fz e _,.fz bC _=>bif ae.is e bC then some (.d (.sl e)) else none
   |_,_=>none)
 |_+1,_,.sc (.sl e) _,.own id _=>(match R.aR id with|.ob bC _=>bif ae.is e bC then some (.d (.sl e)) else none|.fz bC _=>bif ae.is e bC then some (.d (.sl e)) else none|_=>none)
 |_+1,_,.own id _,.sc (.sl e) _=>(match O.aR id with|.ob bC _=>bif ae.is e bC then some (.d (.sl e)) else none|.fz bC _=>bif ae.is e bC then some (.d (.sl e)) else none|_=>none)
 |_+1,n,.nil,.osl id _ _=>(match R.aR id with|.ob e _=>some (.o n e)|.fz e _=>some (.d (.sl e))|_=>none)
 |_+1,n,.osl id _ _,.nil=>(match O.aR id with|.ob e _=>some (.o n e)|.fz e _=>some (.d (.sl e))|_=>none)
 | _+1,n, .osl id _ _, .own oR _=>(match O.aR id,R.aR oR with
   |.ob e _,.ob bC _=>bif ae.is e bC then some (.o n e) else none
   |.fz e _,.ob bC _=>bif ae.is e bC then some (.d (.sl e)) else none
   |.ob e _,.fz bC _=>bif ae.is e bC then some (.d (.sl e)) else none
   |.fz e _,.fz bC _=>bif ae.is e bC then some (.d (.sl e)) else none
   |_,_=>none)
 | _+1,n, .own id _, .osl oR _ _=>(match O.aR id,R.aR oR with
   |.ob e _,.ob bC _=>bif ae.is e bC then some (.o n e) else none
   |.fz e _,.ob bC _=>bif ae.is e bC then some (.d (.sl e)) else none
   |.ob e _,.fz bC _=>bif ae.is e bC then some (.d (.sl e)) else none
   |.fz e _,.fz bC _=>bif ae.is e bC then some (.d (.sl e)) else none
   |_,_=>none)
 |_+1,_,.osl _ _ _,.osl _ _ _=>none
 |_+1,_,_,_=>none
def D':j4->ae
 |.d t=>t|.o _ e=>.sl e|.p a b=>.pair (D' a) (D' b)
def lv:j4->List Nat
 |.d _=>[]|.o id _=>[id]|.p a b=>lv a++lv b
def hP:List eX->List Nat
 |[]=>[]
 |.ow _ id _::r=>id::hP r
 |.bx _ _ sh::r=>lv sh++hP r
 |_::r=>hP r
def dv:List eX->List Nat
 |[]=>[]
 |.bk id _::r=>id::dv r
 |.bx id _ _::r=>id::dv r
 |.it id _::r=>id::dv r
 |_::r=>dv r
def u5:List eX->List Nat
 |[]=>[]
 |.sl i _::r=>i::u5 r
 |.ow i _ _::r=>i::u5 r
 |_::r=>u5 r
def z8:aQ->Bool
 |.new=>true|_=>false
def z6:eX->Bool
 |.bk _ _=>true|_=>false
def Mq:List Nat->Bool
 |[]=>true
 |i::r=>!(r.any (Nat.beq i))&&Mq r
def Lu(base:aM)(es:List eX)(B6:List Nat):Bool:=
 Mq (hP es++dv es)&&(hP es).all (λid=>z8 (base.aR id))&&(dv es).all (λid=>!(z8 (base.aR id)))&&(u5 es).all (λi=>B6.any (Nat.beq i))
def Cq(base:aM)(es:List eX)(s:aM):Bool:=
 (s.w.take (s.w.length-base.w.length)).all λid=>z8 (base.aR id)||(dv es).any (Nat.beq id)
def xR(e:ae):au->aw (List e.aD)
 |.nil=>bif Nat.blt 0 e.size then .ret []else .fail
 |.own id _=>.rb id fun|.ob bC l=>(aw.opt (ae.kK bC e l)).bind λx=>.eI id .e9 (.ret x)|_=>.fail
 |.osl id off n=>.rb id fun|.ob bC l=>(aw.opt (ae.kK bC e l)).bind λx=>.eI id .e9 (.ret (cut x off n))|_=>.fail
 |_=>.fail
def NP:au->Option (au×au)
 |.two u v=>some (u,v)
 |.sc (.pair t u) x=>some (.sc t x.1,.sc u x.2)
 |_=>none
def AC:(sh:j4)->au->aw sh.aD
 |.d t,v=>aed t v
 |.o _ e,v=>xR e v
 |.p a b,v=>match NP v with
  |some (u,w)=>(AC a u).bind λx=>(AC b w).bind λy=>.ret (x,y)
  |none=>.fail
def gI:(sh:j4)->sh.aD->au×List (Nat×aQ)
 |.d t,x=>(.sc t x,[])
 |.o id e,l=>(.own id false,[(id,.ob e l)])
 |.p a b,x=>(.two (gI a x.1).1 (gI b x.2).1,(gI a x.1).2++(gI b x.2).2)
def AA(s:aM):(e:eX)->aP (e.aD×aM)
 |.sl i t=>aw.iQ s (.rt i λv=>aed t v)
 |.ow i _ e=>aw.iQ s (.rt i λv=>xR e v)
 |.bk id e=>aw.iQ s (.rb id fun|.ob bC l=>aw.opt (ae.kK bC e l)|_=>.fail)
 |.bx id t sh=>aw.iQ s (.rb id fun|.box t' v=>bif ae.is t' t&&ae.is (D' sh) t then AC sh v else .fail|_=>.fail)
 |.it id _=>aw.iQ s (.rb id fun|.it _ p=>.ret p|_=>.fail)
def ry(s:aM):(l:List eX)->aP (mC l×aM)
 |[]=>.leaf ((),s)
 |e::r=>bif z6 e then(ry s r).bind λy=>(AA y.2 e).bind λx=>.leaf ((x.1,y.1),x.2)
  else(AA s e).bind λx=>(ry x.2 r).bind λy=>.leaf ((x.1,y.1),y.2)
def Mj(h:List (Nat×aQ)):Nat->Nat->Nat
 |0,i=>i
 |n+1,i=>match qz h i with|.new=>i|_=>Mj h n (i+1000000)
def C9{β:Type 1}(s:aM):(e:eX)->e.aD->(aM->β)->β
 |.sl i t,x,k=>s.A5 i (.sc t x) k
 |.ow i id e,l,k=>s.A4 id (.ob e l) λs=>s.A5 i (.own id false) k
 |.bk id e,l,k=>s.A4 id (.ob e l) k
 |.bx id t sh,x,k=>s.v' (gI sh x).2 λs=>s.A4 id (.box t (gI sh x).1) k
 |.it id _,p,k=>(match s.aR id with|.it str _=>s.A4 id (.it str p) k|_=>k s)
def qx{β:Type 1}(s:aM):(l:List eX)->mC l->(aM->β)->β
 |[],_,k=>k s
 |e::r,x,k=>C9 s e x.1 λs=>qx s r x.2 k
def age(s:aM)(n i:Nat)(v:au):List aM->Option j4
 |[]=>none
 |cq::r=>match wa s cq 60 n v (cq.bX i) with|some x=>some x|none=>age s n i v r
def agv(b:Nat)(s:aM)(zj:List aM):List Nat->List eX
 |[]=>[]
 |i::r=>
  let rest:=agv b s zj r
  match zj with
  |[]=>(match s.bX i with|.sc t _=>.sl i t::rest|.kb _=>.sl i .bool::rest|_=>rest)
  |_::_=>match age s (Mj s.h 9 (16*(b+i)+15)) i (s.bX i) zj with
   |some (.d t)=>.sl i t::rest
   |some (.o id e)=>.ow i id e::rest
   |_=>rest
def DI:ae->au->au->au×au
 |.sl e,.nil,.nil=>(.sc (.sl e) ([]:List e.aD),.sc (.sl e) ([]:List e.aD))
 |.pair a b,.two u v,.two u' cY=>(.two (DI a u u').1 (DI b v cY).1,.two (DI a u u').2 (DI b v cY).2)
 |_,v,cY=>(v,cY)
def Xj(s:aM)(zj:List aM)(ag2:List Nat):List (Nat×aQ)->List eX
 |[]=>[]
 |(id,b)::r=>
  let rest:=Xj s zj ag2 r
  bif zj.any (λcq=>(cq.w.take (cq.w.length-s.w.length)).any (Nat.beq id)) && !(ag2.any (Nat.beq id)) then
   match b,zj with
   | .box t v,cq :: _=>(match cq.aR id with
    |.box _ cY=>(match wa s cq 60 (Mj s.h 9 (1000003*(id+1))) (DI t v cY).1 (DI t v cY).2 with|some sh=>.bx id t sh::rest|none=>rest)
    |_=>rest)
   |.box t v,[]=>(match wa s s 60 (Mj s.h 9 (1000003*(id+1))) v v with|some sh=>.bx id t sh::rest|none=>rest)
   |.ob e _,_=>.bk id e::rest
   |.it str _,_=>.it id str::rest
   |_,_=>rest
  else rest
def DG(s:aM):List eX->List Nat
 |[]=>[]
 |.ow i _ _::r=>(match s.bX i with|.own id _=>id::DG s r|.osl id _ _=>id::DG s r|_=>DG s r)
 |.bx id _ _::r=>id::DG s r
 |_::r=>DG s r
def zm{β:Type 1}:j4->(j4->β)->β
 |.d t,k=>py t λt=>k (.d t)
 |.o i e,k=>py e λe=>k (.o i e)
 |.p a b,k=>zm a λa=>zm b λb=>k (.p a b)
def ana{β:Type 1}(t:j4)(k:j4->β):zm t k=k t:=by
 induction t generalizing k with
 |d t=>simp only[zm,KY]
 |o i e=>simp only[zm,KY]
 |p a b bu Y=>simp only[zm,bu,Y]
def w8{β:Type 1}:List eX->(List eX->β)->β
 |[],k=>k []
 |.sl i t::r,k=>py t λt=>w8 r λr=>k (.sl i t::r)
 |.ow i id e::r,k=>py e λe=>w8 r λr=>k (.ow i id e::r)
 |.bk i e::r,k=>py e λe=>w8 r λr=>k (.bk i e::r)
 |.bx i t s::r,k=>zm s λs=>w8 r λr=>k (.bx i t s::r)
 |.it i s::r,k=>w8 r λr=>k (.it i s::r)
def am8{β:Type 1}(l:List eX)(k:List eX->β):w8 l k=k l:=by
 induction l generalizing k with
 |nil=>rfl
 |cons e r ih=>cases e<;>simp only[w8,KY,ana,ih]
def TL{ρ:Type}:List (jO ρ)->List aM
 |[]=>[]
 |.nx s::r=>s::TL r
 |_::r=>TL r
def At{ρ:Type}:jO ρ->Option aM
 |.nx s=>some s
 |_=>none
def Cv{ρ:Type}:List (jO ρ)->List Nat
 |[]=>[]
 |.ex k _::r=>bif (Cv r).any (Nat.beq k) then Cv r else k::Cv r
 |_::r=>Cv r
def NQ{ρ:Type}:List (jO ρ)->List aM
 |[]=>[]
 |.nx s::r=>s::NQ r
 |.ex _ s::r=>s::NQ r
 |_::r=>NQ r
def n6{σ ρ:Type}(f:σ->Option (aE σ ρ)):Nat->σ->Option (aE σ ρ)
 |0,_=>none
 |n+1,x=>match f x with
  |some (.nx wl)=>n6 f n wl
  |r=>r
open Classical in
def bN{σ ρ:Type}(f:σ->Option (aE σ ρ))(x:σ):Option (aE σ ρ):=
 if h:∃n,(n6 f n x).isSome then n6 f (choose h) x else none
def PL(s:aM):List eX->List Nat
 |[]=>[]
 |.bx id _ _::r=>(match s.aR id with|.box _ v=>dM v|_=>[])++PL s r
 |_::r=>PL s r
def ajC(l:List Nat):eX->Bool
 |.bk id _=>!(l.any (Nat.beq id))
 |_=>false
def entries{ρ:Type}(b:Nat)(s:aM)(Hp:List (jO ρ))(B6:List Nat):List eX:=
 let Zp:=agv b s (TL Hp) B6
 let QV:=Xj s (NQ Hp) (DG s Zp) s.h
 Zp++(QV.filter (λe=>!(z6 e))++QV.filter (ajC (PL s QV)))
def Ij{ρ:Type}(base:aM)(es:List eX):jO ρ->aP (aE (mC es) ρ)
 |.nx cq=>(ry cq es).bind λy=>bif Cq base es y.2 then .leaf (aE.nx y.1) else .fail
 |.ex k cq=>(ry cq es).bind λy=>bif Cq base es y.2 then .leaf (aE.ex k y.1) else .fail
 |.rt r=>.leaf (aE.rt r)
def Cw{ρ:Type}(k:Nat)(s:aM):List Nat->aP (jO ρ)
 |[]=>.fail
 |[i]=>.chk (bZ k i) (.leaf (.ex i s))
 |i::r=>.br (bZ k i) (.leaf (.ex i s)) (Cw k s r)
def pR:List Nat->Code->Bool
 |_,.skip=>true
 |_,.label _=>true
 |_,.region _ _ _=>true
 |b9,.seq a b=>pR b9 a&&pR b9 b
 |b9,.cond _ a b=>pR b9 a&&pR b9 b
 |b9,.block i b=>pR (i::b9) b
 |b9,.loop b=>pR b9 b
 |b9,.exit i=>b9.any (Nat.beq i)
 |_,_=>false
def adn(E:db):Bool:=match E.Pn with|none=>true|some _=>false
def ir:Nat:=999999999
def hs:Nat:=1000000000
def HE(m:Nat):List Oper->Option (List Oper×Option Nat×Operand×Nat×Oper)
 |[]=>none
 |o::r=>match HE m r with
  |some q=>some (o::q.1,q.2)
  | none=>(match r,o with
   | [],⟨c7, .call ⟨.value (.func f),args,eg⟩,ty,i_,po,none⟩=>bif Nat.beq f m then (match args.toList with
    |[c,.const (.int .i64 (.ofNat k))]=>some ([],c7,c,k,⟨c7,.call ⟨.value (.func f),args,eg⟩,ty,i_,po,none⟩)
    |_=>none) else none
   |_,_=>none)
def Mi(E:db)(ops:List Oper):Option (List Oper×Option Nat×Operand×Nat×Oper):=match E.Pn with|some p=>HE p.1 ops|none=>none
def Ll(n:Nat):List Oper->Bool
 |[]=>true
 |o::r=>(match o.guard with|some (g,_)=>Nat.blt g n|none=>true)&&Ll n r
def Ht(l:List Oper)(o:Oper):Bool:=u4 0 (l++[o])&&Ll l.length l&&(List.range l.length).all λi=>Nat.testBit ((lE (l++[o]) []).getD l.length 0) i
def Uh(E:db):Oper->Option (Nat×Option Nat×nJ×List Operand)
 |⟨c7,.call ⟨.value (.func f),args,_⟩,_,_,_,none⟩=>(match E.Q f with|some s=>some (f,c7,s,args.toList)|none=>none)
 |_=>none
def DR(E:db):List Oper->Option (List Oper×(Nat×Option Nat×nJ×List Operand)×Oper×List Oper)
 |[]=>none
 | o :: r=>(match Uh E o with
  |some q=>some ([],q,o,r)
  | none=>(match DR E r with | some p=>some (o :: p.1,p.2) | none=>none))
def F0{ρ:Type}(k:Nat)(s:aM):List Nat->aP (jO ρ)
 |[]=>.fail
 |[i]=>.chk (bZ k i) (.leaf (.ex (hs+i) s))
 |i::r=>.br (bZ k i) (.leaf (.ex (hs+i) s)) (F0 k s r)
def HD{ρ:Type}(nt:Nat)(c7:Option Nat)(c:Operand)(k:Nat)(s:aM):aP (jO ρ):=
 (aw.iQ s (ea c)).bind λr=>match r.1 with
   |.sc .bool v=>.br v (ib nt c7 s .bad λs=>.leaf (.nx s)) (.leaf (.ex (hs+k) s))
   |.kb v=>bif v then ib nt c7 s .bad λs=>.leaf (.nx s) else .leaf (.ex (hs+k) s)
   |_=>.fail
def N2{ρ:Type}(f:aM->aP (jO ρ)):Nat->aM->aP (jO ρ)
 |0,_=>.fail
 |n+1,s=>(f s).bind fun
  |.nx cq=>N2 f n cq
  |o=>.leaf o
section
variable (E:db) (rs:List ef) (res:List ResultVar) (nv nt:Nat) (inl:Bool)
def run:Code->aM->aP (jO (d8 rs))
 |.skip,s=>.leaf (.nx s)
 |.label _,s=>.leaf (.nx s)
 | .region _ ops dk,s=>(match Mi E ops.toList with
  |some q=>bif dk then(bif Ht q.1 q.2.2.2.2 then(oc E q.1 nv nt true true 0 q.1 s []).bind λs=>HD nt q.2.1 q.2.2.1 q.2.2.2.1 s else .fail) else(o3 E ops.toList nv nt true 0 q.1 s).bind λs=>HD nt q.2.1 q.2.2.1 q.2.2.2.1 s
  |none=>match DR E ops.toList with
  |some (eW,q,_,f7)=>bif dk then .fail else(o3 E ops.toList nv nt true 0 eW s).bind λbp=>(aw.iQ bp ((lO ea q.2.2.2).bind λaZ=>Qe q.2.2.1 aZ)).bind λr=>
    .br (bZ r.1.1 0) (ib nt q.2.1 r.2 r.1.2 λd5=>(o3 E ops.toList nv nt true (eW.length+1) f7 d5).bind λeu=>.leaf (.nx eu)) (F0 r.1.1 r.2 q.2.2.1.ks)
  | none=>bif !dk && Qi E ops.toList then (o3 E ops.toList nv nt true 0 ops.toList s).bind λs => .leaf (.nx s) else (oc E ops.toList nv nt dk true 0 ops.toList s []).bind λs => .leaf (.nx s))
 |.seq a b,s=>(run a s).bind fun
  |.nx cq=>run b cq
  |o=>.leaf o
 |.cond c a b,s=>(aw.iQ s (ea c)).bind λr=>match r.1 with
  |.kb v=>bif v then run a s else run b s
  |.sc .bool v=>
   bif E.U && !(pR [] a&&pR [] b) then(bif v then run a s else run b s) else
   bif pR [] a&&pR [] b&&adn E then
    (Hj s (nS (d2 a++d2 b)) ((nS (d2 a++d2 b)).filter λk=>Nat.blt k nv)
     (.br v ((run a s).mR At) ((run b s).mR At))).bind λs=>.leaf (.nx s)
   else .br v (run a s) (run b s)
  |_=>.fail
 |.block id b,s=>bif Nat.ble ir id then .fail else(run b s).bind fun
  |.ex k cq=>bif Nat.beq k id then .leaf (.nx cq) else .leaf (.ex k cq)
  |o=>.leaf o
 |.exit id,s=>bif Nat.ble ir id then .fail else .leaf (.ex id s)
 |.scope b,s=>run b s
 |.ret,s=>bif inl then .leaf (.ex ir s) else(mT E s res).bind λvs=>(n_ s rs vs).bind λr=>.leaf (.rt r)
 |.loop b,s=>bif E.U then N2 (λs=>run b s) 64 s else
  (run b s).pN λHp=>
  w8 (entries E.b s Hp (nS (d2 b))) λes=>
  (ry s es).bind λrS=>Jf rS.2 (nS (d2 b)) λbase=>
   bif Lu base es (nS (d2 b)) then
    .cs (ahV es) (yH rs) (bN (λx=>(qx base es x λs=>aP.bind (run b s) (Ij base es)).bI) rS.1) (λ_=>.fail) (λk x=>qx base es x λs=>Cw k s (Cv Hp)) (λr=>.leaf (.rt r))
   else .fail
 |_,_=>.fail
end
def m7:(ts:List ae)->hZ ts->List au
 |[],_=>[]
 |t::ts,x=>.sc t x.1::m7 ts x.2
def K6{β:Type 1}:Nat->Nat->dH->(dH->β)->β
 |0,_,t,k=>k t
 |n+1,i,t,k=>uC 40 t i .undef λt=>K6 n (i+1) t k
def fill{β:Type 1}(n:Nat):List au->Nat->dH->(dH->β)->β
 |[],i,t,k=>K6 (n-i) i t k
 |v::r,i,t,k=>mH v λv=>uC 40 t i v λt=>fill n r (i+1) t k
def Mf(E:db)(fn:Func)(nv:Nat)(ts:List ae)(rs:List ef)(x:hZ ts):Option (d8 rs):=
 match fn.body with
 |none=>none
 | some c=>bif !(Nat.ble fn.ntmps 1000000) then none else (fill fn.ntmps (m7 ts x) 0 .e λt=>aP.bind (run E rs fn.results.toList nv fn.ntmps false c ⟨t,[],[]⟩) fun
   |.rt r=>.leaf r
   |.nx s=>(mT E s fn.results.toList).bind λvs=>n_ s rs vs
   |.ex _ _=>.fail).bI
def Fr(t:ae):aw t.aD:=.rb 3 λb=>match b with
 |.box t' v=>bif ae.is t' t then(lT true t v).bind λx=>.rb 3 λei=>match ei with
  |.box ev _=>bif ae.is ev t then .eI 3 .e9 (.ret x) else .fail
  |_=>.fail
  else .fail
 |_=>.fail
def sd(E:db)(t:ae)(rs:List ef)(res:List ResultVar)(s:aM):aP (t.aD×d8 rs):=
 (mT E s res).bind λvs=>(aw.iQ s (Fr t)).bind λz=>(n_ z.2 rs vs).bind λr=>.leaf (z.1,r)
def HC(E:db)(fn:Func)(nv:Nat)(t:ae)(ts:List ae)(rs:List ef)(x:t.aD×hZ ts):Option (t.aD×d8 rs):=
 match fn.body with
 |none=>none
 | some c=>bif !(Nat.ble fn.ntmps 1000000) then none else (fill fn.ntmps (.ptr 3 [] :: m7 ts x.2) 0 .e λbz=>aP.bind (run E [] fn.results.toList nv fn.ntmps true c ⟨bz,[(3, .box t (.sc t x.1))],[]⟩) fun
   |.nx s=>sd E t rs fn.results.toList s
   |.ex k s=>bif Nat.beq k ir then sd E t rs fn.results.toList s else .fail
   |.rt _=>.fail).bI
def Mg(E:db)(fn:Func)(nv:Nat)(t:ae)(ts:List ae)(rs:List ef)(x:t.aD×hZ ts):Option (t.aD×Nat×d8 rs):=
 match fn.body with
 |none=>none
 | some c=>bif !(Nat.ble fn.ntmps 1000000) then none else (fill fn.ntmps (.ptr 3 [] :: m7 ts x.2) 0 .e λbz=>aP.bind (run E [] fn.results.toList nv fn.ntmps true c ⟨bz,[(3, .box t (.sc t x.1))],[]⟩) fun
   |.nx s=>(sd E t rs fn.results.toList s).bind λz=>.leaf (z.1,0,z.2)
   |.ex k s=>bif Nat.beq k ir then(sd E t rs fn.results.toList s).bind λz=>.leaf (z.1,0,z.2) else
     bif Nat.blt hs k then(aw.iQ s (Fr t)).bind λz=>.leaf (z.1,k-hs,yH rs) else .fail
   |.rt _=>.fail).bI
def Ap:List Operand->Bool
 |[]=>true|_=>false
def x2(bc:Nat):Option Nat->au
 |none=>.sc (.op 1) ()|some k=>.ifc bc (.int .i64) (bf k)
def FO:Code->Option (Nat×Nat×List Operand)
 |.region _ ops dk=>bif dk then none else match ops.toList with
  |[⟨some d,.makeFunc (.func F) first wU,_,_,_,none⟩,⟨none,.defer ⟨.value (.tmp l4),args,_⟩,_,_,_,none⟩]=>bif Nat.beq d l4&&(Ap first.toList&&Ap args.toList) then some (d,F,wU.toList) else none
  |_=>none
 |_=>none
def yc:Code->Option (Code×(Nat×Nat×List Operand)×Code)
 | .seq a b=>(match FO a with
  |some q=>some (.skip,q,b)
  | none=>(match yc b with | some p=>some (.seq a p.1,p.2) | none=>none))
 |_=>none
def IP:Code->Option (Nat×Code)
 | .seq (.region _ ops false) b=>(match ops.toList with
  |[⟨some d,.call ⟨.builtin .recover,args,_⟩,_,_,_,none⟩]=>bif Ap args.toList then some (d,b) else none
  |_=>none)
 |_=>none
def r7(E EC:db)(fn e7:Func)(lQ iM bc:Nat)(C:Code)(rs:List ef)(cW:List il)(o:Option Nat)(s:aM):aP (d8 rs):=
 fill e7.ntmps (cW.map il.pv) 0 .e λaxL=>ib e7.ntmps (some iM) ⟨axL,s.h,s.w⟩ (x2 bc o) λqN=>
  aP.bind (run EC [] e7.results.toList lQ e7.ntmps true C qN) fun
   |.nx eu=>(mT E ⟨s.t,eu.h,eu.w⟩ fn.results.toList).bind λvs=>n_ ⟨s.t,eu.h,eu.w⟩ rs vs
   |.ex k eu=>bif Nat.beq k ir then(mT E ⟨s.t,eu.h,eu.w⟩ fn.results.toList).bind λvs=>n_ ⟨s.t,eu.h,eu.w⟩ rs vs else .fail
   |.rt _=>.fail
def Ts(E EC:db)(fn e7:Func)(nv lQ bc:Nat)(ts:List ae)(rs:List ef)(x:hZ ts):Option (d8 rs):=
 match fn.body,e7.body with
 | some c,some bd=>(match yc c,IP bd with
  |some (A,q,B),some (iM,C)=>bif !(Nat.ble fn.ntmps 1000000&&(Nat.ble e7.ntmps 1000000&&Nat.beq e7.results.size 0)) then none else
   (fill fn.ntmps (m7 ts x) 0 .e λt=>aP.bind (run E [] fn.results.toList nv fn.ntmps true A ⟨t,[],[]⟩) fun
    |.nx bp=>(aw.iQ bp ((lO ea q.2.2).bind λb=>lO Cj b)).bind λcW=>ib fn.ntmps (some q.1) cW.2 .bad λax=>
     aP.bind (run E [] fn.results.toList nv fn.ntmps true B ax) fun
      |.nx d5=>r7 E EC fn e7 lQ iM bc C rs cW.1 none d5
      |.ex k d5=>bif Nat.beq k ir then r7 E EC fn e7 lQ iM bc C rs cW.1 none d5 else bif Nat.blt hs k then r7 E EC fn e7 lQ iM bc C rs cW.1 (some (k-hs)) d5 else .fail
      |.rt _=>.fail
    |_=>.fail).bI
  |_,_=>none)
 |_,_=>none
def Bi:List au->au
 |[v]=>v
 |vs=>.tup (vs.foldr au.two (.sc .unit ()))
def h1(E:db)(fn:Func)(nv:Nat):fJ:=λb args s=>
 match fn.body with
 |none=>.fail
 |some c=>bif !(Nat.ble fn.ntmps 1000000) then .fail else fill fn.ntmps args 0 .e λt=>aP.bind (run { E with b:=b } [] fn.results.toList nv fn.ntmps true c ⟨t,s.h,s.w⟩) fun
   |.nx ax=>(mT { E with b:=b } ax fn.results.toList).bind λvs=>bif vs.all vT then .leaf (Bi vs,⟨s.t,ax.h,ax.w⟩) else .fail
   |.ex k ax=>bif Nat.beq k ir then(mT { E with b:=b } ax fn.results.toList).bind λvs=>bif vs.all vT then .leaf (Bi vs,⟨s.t,ax.h,ax.w⟩) else .fail else .fail
   |.rt _=>.fail
end Yp
namespace Yp
open Go
def cG:=@List.length_append
def jN:=@List.getElem?_eq_getElem
def io:=@List.mem_append
def uP:=@List.getElem_of_mem
def uQ:=@UInt8.toNat_ofNat'
def qX:=@List.drop_drop
def EQ:=@List.mem_iff_getElem
def td:=@Nat.mod_lt
def Fe:=@Nat.min_eq_left
def O9:=@Bool.false_eq_true
def EO:=@Nat.blt_eq
def Jz:=@Nat.mul_comm
def bH.NX(k:IntKind)(n:Int):bH.to k (bH.of k n)=k.wrap n:=by
 cases k<;>simp only[bH.to,bH.of,i64,G',acc,acd,u8,u16,u32,u64,aI,HH,aS,cD]
 .rw[UInt8.ofInt];simp[IntKind.wrap,IntKind.signed,IntKind.bits];omega
 .rw[UInt16.ofInt];simp[IntKind.wrap,IntKind.signed,IntKind.bits];omega
 .rw[UInt32.ofInt];simp[IntKind.wrap,IntKind.signed,IntKind.bits];omega
 rw[UInt64.ofInt];simp[IntKind.wrap,IntKind.signed,IntKind.bits];omega
def bH.ahe(k:IntKind)(n:Int)(h:Hx k n=true):bH.to k (bH.lit k n)=n:=by
 cases k<;>cases n<;>simp only[bH.to,bH.lit,u8,u16,u32,u64,aI,HH,aS,cD,Hx,EO,O9]at h ⊢
 .rw[UInt8.ofInt,uQ];simp;omega
 .rw[UInt16.ofInt,UInt16.toNat_ofNat'];simp;omega
 .rw[UInt32.ofInt,UInt32.toNat_ofNat'];simp;omega
 rw[UInt64.ofInt,UInt64.toNat_ofNat'];simp;omega
def cH(c:Array Value)(o n:Nat):List Value:=(c.toList.drop o).take n
abbrev hO{α:Type}(l:List α)(i:Nat):Option α:=l[i]?
abbrev cg:=Nat->Option Obj
def cg.cb(H H':cg):Prop:=∀b o,H b=some o->H' b=some o
def cg.cb.refl(H:cg):H.cb H:=λ_ _ h=>h
def cg.cb.trans{H H' Wt:cg}(h:H.cb H')(g:H'.cb Wt):H.cb Wt:=λb o e=>g b o (h b o e)
def An:Nat->Value
 |0=>.nilFunc|1=>.nilIface|2=>.map none|_=>.pointer none
def sg(l:List Nat):Nat->Value
 |0=>.nilFunc
 |n+1=>match l[n]? with|some f=>.func (.func f) #[] #[]|none=>.nilFunc
def aH(H:cg):(t:ae)->t.aD->List Value->Prop
 |.bool,b,cs=>cs=[.bool b]
 |.int k,x,cs=>cs=[.int k (bH.to k x)]
 |.str,s,cs=>cs=[.string ⟨(s:List UInt8).toArray⟩]
 |.sl e,l,cs=>∃a cap,cs=[.slice a (l:List e.aD).length cap]/\(l:List e.aD).length<=cap/\cap<=maxLen /\
   ((l:List e.aD)=[]\/∃b o c el fz,a=some ⟨b,o,none⟩/\H b=some (.cells c el fz)/\o+(l:List e.aD).length*e.size<=c.size /\
    ∀(i:Nat) (x:e.aD),hO (α:=e.aD) l i=some x->aH H e x (cH c (o+i*e.size) e.size))
 |.unit,_,cs=>cs=[]
 |.pair a b,x,cs=>∃c1 c2,cs=c1++c2/\aH H a x.1 c1/\aH H b x.2 c2
 |.ar n e,l,cs=>(l:List e.aD).length=n/\cs.length=n*e.size /\
   ∀(i:Nat) (x:e.aD),hO (α:=e.aD) l i=some x->aH H e x ((cs.drop (i*e.size)).take e.size)
 |.op k,_,cs=>cs=[An k]
 |.fn l,x,cs=>cs=[sg l x]
def atv(k:Nat):(An k).oneCell'=true:=by unfold An;split<;>simp[Value.oneCell']
def anx(l:List Nat)(x:Nat):(sg l x).oneCell'=true:=by
 cases x with
 |zero=>simp[sg,Value.oneCell']
 |succ n=>simp only[sg];split<;>simp[Value.oneCell']
def aH.length{H:cg}:∀{t:ae} {x:t.aD} {cs:List Value},aH H t x cs->cs.length=t.size
 |.bool,_,_,h=>by rw[h];rfl
 |.int _,_,_,h=>by rw[h];rfl
 |.str,_,_,h=>by rw[h];rfl
 |.sl _,_,_,h=>by obtain⟨a,cap,h,_⟩:=h;rw[h];rfl
 |.unit,_,_,h=>by rw[h];rfl
 |.pair a b,_,_,h=>by obtain⟨c1,c2,h,O,R⟩:=h;rw[h,cG,aH.length O,aH.length R];rfl
 |.ar n e,_,_,h=>by exact h.2.1
 |.op k,_,_,h=>by rw[h];rfl
 |.fn l,_,_,h=>by rw[h];rfl
def aH.mono{H H':cg}(hl:H.cb H'):∀{t:ae} {x:t.aD} {cs:List Value},aH H t x cs->aH H' t x cs
 |.bool,_,_,h=>by exact h
 |.int _,_,_,h=>by exact h
 |.str,_,_,h=>by exact h
 |.sl e,_,_,h=>by
  obtain⟨a,cap,h,ai,hm,R⟩:=h;refine⟨a,cap,h,ai,hm,?_⟩;rcases R with R|⟨b,o,c,el,fz,bu,Y,ac,hx⟩
  .grind
  exact .inr ⟨b,o,c,el,fz,bu,hl _ _ Y,ac,λi x hi=>aH.mono hl (hx i x hi)⟩
 |.unit,_,_,h=>by exact h
 |.pair a b,_,_,h=>by obtain⟨c1,c2,h,O,R⟩:=h;exact⟨c1,c2,h,aH.mono hl O,aH.mono hl R⟩
 |.ar n e,_,_,h=>by exact⟨h.1,h.2.1,λi x hi=>aH.mono hl (h.2.2 i x hi)⟩
 |.op k,_,_,h=>by exact h
 |.fn l,_,_,h=>by exact h
def ac2(n e:Nat)(cs:List α)(h:cs.length=n*e)(v:α)(aC:v∈cs):∃i,i<n/\v∈(cs.drop (i*e)).take e:=by
 obtain⟨j,an,rfl⟩:=uP aC;have aA:0<e:=by
  rcases Nat.eq_zero_or_pos e with ao|ao;· subst ao;simp at h;subst h;simp at an
  exact ao
 refine⟨j/e,?_,?_⟩
 .exact Nat.div_lt_of_lt_mul (by grind)
 rw[EQ];have hm:j%e<e:=td _ aA;have aF:j/e*e+j%e=j:=by rw[Jz];exact Nat.div_add_mod j e
 have cr:j%e<((cs.drop (j/e*e)).take e).length:=by
  grind
 grind
def aH.one{H:cg}:∀{t:ae} {x:t.aD} {cs:List Value},aH H t x cs->∀v∈cs,v.oneCell'=true
 |.bool,_,_,h=>by rw[aH]at h;subst h;simp[Value.oneCell']
 |.int _,_,_,h=>by rw[aH]at h;subst h;simp[Value.oneCell']
 |.str,_,_,h=>by rw[aH]at h;subst h;simp[Value.oneCell']
 |.sl _,_,_,h=>by rw[aH]at h;obtain⟨a,cap,h,_⟩:=h;subst h;simp[Value.oneCell']
 |.unit,_,_,h=>by rw[aH]at h;subst h;simp
 |.pair a b,_,_,h=>by
  rw[aH]at h;obtain⟨c1,c2,h,O,R⟩:=h;subst h;intro v aC;rcases io.1 aC with aC|aC
  .exact aH.one O v aC
  exact aH.one R v aC
 |.ar n e,x,cs,h=>by rw[aH]at h;obtain⟨aj,hl,hx⟩:=h;intro v aC;obtain⟨i,hi,hm⟩:=ac2 n e.size cs hl v aC;have:i<(x:List e.aD).length:=J;exact aH.one (hx i _ (jN this)) v hm
 |.op k,_,_,h=>by rw[aH]at h;subst h;intro v aC;simp at aC;rw[aC];exact atv k
 |.fn l,_,_,h=>by rw[aH]at h;subst h;intro v aC;simp at aC;rw[aC];exact anx l _
def cv(t:ae)(cs:List Value):Value:=if t.isAgg then .agg cs.toArray else cs.headD undef
def HB{H:cg}{t:ae}{x:t.aD}{cs:List Value}(h:aH H t x cs):(cv t cs).cells=cs.toArray:=by
 cases t with
 |unit=>rfl
 |pair a b=>rfl
 |ar n e=>rfl
 |bool=>rw[aH]at h;subst h;rfl
 |int k=>rw[aH]at h;subst h;rfl
 |str=>rw[aH]at h;subst h;rfl
 |sl e=>rw[aH]at h;obtain⟨a,cap,h,_⟩:=h;subst h;rfl
 |op k =>subst h;unfold An;split<;>rfl
 |fn l =>subst h;unfold sg;split<;>(try split)<;>rfl
def pX{c:Array Value}(h:o+n<=c.size):(cH c o n).length=n:=by simp[cH];omega
def uz{c:Array Value}(h:i<n):(cH c o n)[i]?=c[o+i]?:=by simp[cH,h]
def D5(c:Array Value)(o n p m:Nat)(h:p+m<=n):((cH c o n).drop p).take m=cH c (o+p) m:=by unfold cH;rw[List.drop_take,List.take_take,qX,Fe J]
def Nq(c:Array Value)(o m n:Nat):cH c o (m+n)=cH c o m++cH c (o+m) n:=by unfold cH;rw[List.take_add,qX]
def aH.ia{H:cg}{k:IntKind}{x:(ae.int k).aD}{cs:List Value}:aH H (.int k) x cs↔cs=[.int k (bH.to k x)]:=by rw[aH]
def aH.nP{H:cg}{x:ae.bool.aD}{cs:List Value}:aH H .bool x cs↔cs=[.bool x]:=by rw[aH]
def aH.ml{H:cg}{x:ae.str.aD}{cs:List Value}:aH H .str x cs↔cs=[.string ⟨(x:List UInt8).toArray⟩]:=by rw[aH]
def aH.Bs{H:cg}{x:ae.unit.aD}{cs:List Value}:aH H .unit x cs↔cs=[]:=by rw[aH]
def aH.mh{H:cg}{a b:ae}{x:(ae.pair a b).aD}{cs:List Value}:aH H (.pair a b) x cs↔∃c1 c2,cs=c1++c2/\aH H a x.1 c1/\aH H b x.2 c2:=by rw[aH]
def aH.u0{H:cg}{e:ae}{l:(ae.ar n e).aD}{cs:List Value}:aH H (.ar n e) l cs↔(l:List e.aD).length=n/\cs.length=n*e.size /\
  ∀(i:Nat) (x:e.aD),hO (α:=e.aD) l i=some x->aH H e x ((cs.drop (i*e.size)).take e.size):=by rw[aH]
def aH.B4{H:cg}{e:ae}{l:List e.aD}{cs:List Value}:aH H (.ar n e) l cs↔l.length=n/\cs.length=n*e.size /\
  ∀(i:Nat) (x:e.aD),hO l i=some x->aH H e x ((cs.drop (i*e.size)).take e.size):=aH.u0
def aH.x?{H:cg}{e:ae}{l:(ae.sl e).aD}{cs:List Value}:aH H (.sl e) l cs↔∃a cap,cs=[.slice a (l:List e.aD).length cap]/\(l:List e.aD).length<=cap/\cap<=maxLen /\
 ((l:List e.aD)=[]\/∃b o c el fz,a=some ⟨b,o,none⟩/\H b=some (.cells c el fz)/\o+(l:List e.aD).length*e.size<=c.size /\
  ∀(i:Nat) (x:e.aD),hO (α:=e.aD) l i=some x->aH H e x (cH c (o+i*e.size) e.size)):=by rw[aH]
def aH.ic{H:cg}{e:ae}{l:List e.aD}{cs:List Value}:aH H (.sl e) l cs↔∃a cap,cs=[.slice a l.length cap]/\l.length<=cap/\cap<=maxLen /\
 (l=[]\/∃b o c el fz,a=some ⟨b,o,none⟩/\H b=some (.cells c el fz)/\o+l.length*e.size<=c.size /\
  ∀(i:Nat) (x:e.aD),hO l i=some x->aH H e x (cH c (o+i*e.size) e.size)):=aH.x?
def aH.vW{H:cg}{x:(ae.op k).aD}{cs:List Value}:aH H (.op k) x cs↔cs=[An k]:=by rw[aH]
def aH.F8{H:cg}{l:List Nat}{x:(ae.fn l).aD}{cs:List Value}:aH H (.fn l) x cs↔cs=[sg l x]:=by rw[aH]
def cM:=@Bool.and_eq_true
def bU:=@Nat.le_refl
def fy:=@Nat.eq_of_beq_eq_true
def fH:=@Nat.add_mul
def uO:=@List.all_cons
def J0:=@List.replicate_succ
def E5:=@List.drop_left
def Wv:=@List.getElem?_replicate
def Ju:=@Nat.beq_eq
def dz:ae->List Value
 |.bool=>[.bool false]|.int k=>[.int k 0]|.str=>[.string ⟨#[]⟩]|.sl _=>[.slice none 0 0]|.unit=>[]
 |.pair a b=>dz a++dz b
 |.ar n e=>(List.replicate n (dz e)).flatten
 |.op k=>[An k]|.fn _=>[.nilFunc]
def rU:∀t:ae,(dz t).length=t.size
 |.bool=>rfl|.int _=>rfl|.str=>rfl|.sl _=>rfl|.unit=>rfl
 |.pair a b=>by simp[dz,ae.size,rU a,rU b]
 |.ar n e=>by simp[dz,ae.size,rU e]
 |.op _=>rfl|.fn _=>rfl
def anv(l:List α)(n i:Nat)(h:i<n):((List.replicate n l).flatten.drop (i*l.length)).take l.length=l:=by
 induction n generalizing i with
 |zero=>omega
 |succ n ih=>
  rw[J0,List.flatten_cons];cases i with
  |zero=>simp
  |succ i=>
   have:(i+1)*l.length=l.length+i*l.length:=by rw[fH];omega
   rw[this,<- qX,E5]
   grind
def bH.ax2(k:IntKind):bH.to k (bH.zero k)=0:=by cases k<;>first|rfl|decide
def aH.zero(H:cg):∀t:ae,aH H t t.zero (dz t)
 |.bool=>by rw[aH];rfl
 |.int k=>by rw[aH];simp[dz,ae.zero,bH.ax2]
 |.str=>by rw[aH];rfl
 |.sl e=>by rw[aH];exact⟨none,0,rfl,bU _,by unfold maxLen;omega,.inl rfl⟩
 |.unit=>by rw[aH];rfl
 |.pair a b=>by rw[aH];exact⟨_,_,rfl,aH.zero H a,aH.zero H b⟩
 |.ar n e=>by
  rw[aH];refine⟨by simp[ae.zero],by simp[dz,rU e],λi x hi => ?_⟩;simp only[hO,ae.zero,Wv]at hi;split at hi
  .rename_i h
   cases hi;have:=anv (dz e) n i h;rw[rU]at this;simp only[dz];rw[this];exact aH.zero H e
  cases hi
 |.op k=>by rw[aH];rfl
 |.fn l=>by rw[aH];rfl
def sC(P:Program)(tid:TypeId)(t:ae):Prop:=
 ∃i,P.info? tid=some i/\i.size=t.size/\i.bytes<=t.bytes/\i.zero=some (cv t (dz t))
def HW:Nat->Option TypeDesc->Prop
 |0,d=>∃a b c,d=some (.func a b c)
 |1,d=>∃a,d=some (.interface a)
 |2,d=>∃a b,d=some (.map a b)
 |3,d=>∃a,d=some (.pointer a)
 |_,_=>False
def cP(P:Program):ae->(TypeId->Prop)×(List Field->Nat->Prop)
 |.bool=>(λt=>P.underlying t=some .bool/\sC P t .bool,λ_ _=>False)
 |.int k=>(λt=>P.underlying t=some (.int k)/\sC P t (.int k),λ_ _=>False)
 |.str=>(λt=>P.underlying t=some .string/\sC P t .str,λ_ _=>False)
 |.sl e=>(λt=>(∃bc,P.underlying t=some (.slice bc)/\(cP P e).1 bc)/\sC P t (.sl e),λ_ _=>False)
 |.unit=>(λt=>(∃e8,P.underlying t=some (.struct e8)/\e8.toList=[])/\sC P t .unit,λl _=>l=[])
 |.pair a b=>
  (λt=>(∃e8,P.underlying t=some (.struct e8)/\∃f r,e8.toList=f::r/\f.offset=0/\(cP P a).1 f.type/\(cP P b).2 r a.size)/\sC P t (.pair a b),
   λl off=>∃f r,l=f::r/\f.offset=off/\(cP P a).1 f.type/\(cP P b).2 r (off+a.size))
 |.ar n e=>(λt=>(∃bc,P.underlying t=some (.array n bc)/\(cP P e).1 bc)/\sC P t (.ar n e),λ_ _=>False)
 |.op k=>(λt=>HW k (P.underlying t)/\sC P t (.op k),λ_ _=>False)
 |.fn l=>(λt=>HW 0 (P.underlying t)/\sC P t (.fn l),λ_ _=>False)
def nc{P:Program}:∀{t:ae} {tid:TypeId},(cP P t).1 tid->sC P tid t
 |.bool,_,h=>h.2|.int _,_,h=>h.2|.str,_,h=>h.2|.sl _,_,h=>h.2|.unit,_,h=>h.2|.pair _ _,_,h=>h.2|.ar _ _,_,h=>h.2|.op _,_,h=>h.2|.fn _,_,h=>h.2
def Qm:Value->Value->Bool
 |.bool a,.bool b=>a==b
 |.int k n,.int k' m=>decide (k=k')&&decide (n=m)
 |.string s,.string t=>s.data.toList.isEmpty&&t.data.toList.isEmpty
 |.slice none 0 0,.slice none 0 0=>true
 |.nilFunc,.nilFunc=>true
 |.nilIface,.nilIface=>true
 |.map none,.map none=>true
 |.pointer none,.pointer none=>true
 |_,_=>false
def alX{a b:Value}(h:Qm a b=true):a=b:=by
 unfold Qm at h;split at h
 .grind
 .grind
 .rename_i s t
  rcases s with⟨s⟩;rcases t with⟨t⟩
  grind
 .rfl
 .rfl
 .rfl
 .rfl
 .rfl
 cases h
def FF:List Value->List Value->Bool
 |[],[]=>true
 |a::l,b::m=>Qm a b&&FF l m
 |_,_=>false
def Qn:∀{l m:List Value},FF l m=true->l=m
 |[],[],_=>rfl
 |a::l,b::m,h=>by simp only[FF,cM]at h;rw[alX h.1,Qn h.2]
def Wo(t:ae):Option Value->Bool
 |some (.agg cs)=>t.isAgg&&FF cs.toList (dz t)
 |some v=>!t.isAgg&&FF [v] (dz t)
 |none=>false
def ayX{t:ae}{o:Option Value}(h:Wo t o=true):o=some (cv t (dz t)):=by
 unfold Wo at h;split at h
 .rename_i cs
  simp at h;rw[<- Qn h.2,cv,if_pos h.1]
 .rename_i v _
  simp at h;rw[<- Qn h.2,cv,if_neg (by grind)];rfl
 cases h
def sB(P:Program)(tid:TypeId)(t:ae):Bool:=
 match P.info? tid with
 |some i=>Nat.beq i.size t.size&&Nat.ble i.bytes t.bytes&&Wo t i.zero
 |none=>false
def vC{P:Program}{tid:TypeId}{t:ae}(h:sB P tid t=true):sC P tid t:=by
 unfold sB at h;split at h
 .rename_i i hi
  simp at h;exact⟨i,hi,h.1.1,h.1.2,ayX h.2⟩
 cases h
def MC:Nat->Option TypeDesc->Bool
 |0,some (.func _ _ _)=>true
 |1,some (.interface _)=>true
 |2,some (.map _ _)=>true
 |3,some (.pointer _)=>true
 |_,_=>false
def ad8{d:Option TypeDesc}(h:MC k d=true):HW k d:=by unfold MC at h;split at h<;>first|exact⟨_,_,_,rfl⟩|exact⟨_,_,rfl⟩|exact⟨_,rfl⟩|cases h
def kv(P:Program):ae->(TypeId->Bool)×(List Field->Nat->Bool)
 |.bool=>(λt=>(match P.underlying t with|some .bool=>true|_=>false)&&sB P t .bool,λ_ _=>false)
 |.int k=>(λt=>(match P.underlying t with|some (.int k')=>decide (k'=k)|_=>false)&&sB P t (.int k),λ_ _=>false)
 |.str=>(λt=>(match P.underlying t with|some .string=>true|_=>false)&&sB P t .str,λ_ _=>false)
 |.sl e=>(λt=>(match P.underlying t with|some (.slice bc)=>(kv P e).1 bc|_=>false)&&sB P t (.sl e),λ_ _=>false)
 |.unit=>(λt=>(match P.underlying t with|some (.struct e8)=>e8.toList.isEmpty|_=>false)&&sB P t .unit,λl _=>l.isEmpty)
 |.pair a b=>
  (λt=>(match P.underlying t with
   |some (.struct e8)=>(match e8.toList with|f::r=>Nat.beq f.offset 0&&(kv P a).1 f.type&&(kv P b).2 r a.size|[]=>false)
   | _=>false) && sB P t (.pair a b),
   λl off=>match l with|f::r=>Nat.beq f.offset off&&(kv P a).1 f.type&&(kv P b).2 r (off+a.size)|[]=>false)
 |.ar n e=>(λt=>(match P.underlying t with|some (.array m bc)=>Nat.beq m n&&(kv P e).1 bc|_=>false)&&sB P t (.ar n e),λ_ _=>false)
 |.op k=>(λt=>MC k (P.underlying t)&&sB P t (.op k),λ_ _=>false)
 |.fn l=>(λt=>MC 0 (P.underlying t)&&sB P t (.fn l),λ_ _=>false)
def tI{P:Program}:∀(t:ae),(∀tid,(kv P t).1 tid=true->(cP P t).1 tid)/\(∀l off,(kv P t).2 l off=true->(cP P t).2 l off)
 |.bool=>by refine⟨λtid h => ?_,λl off h=>by cases h⟩;simp only[kv,cM]at h;refine⟨?_,vC h.2⟩;have O:=h.1;split at O<;>first|assumption|cases O
 |.int k=>by
  refine⟨λtid h => ?_,λl off h=>by cases h⟩;simp only[kv,cM]at h;refine⟨?_,vC h.2⟩;have O:=h.1;split at O
  .rename_i aL;simp at O;rw[<- O];exact aL
  cases O
 |.str=>by refine⟨λtid h => ?_,λl off h=>by cases h⟩;simp only[kv,cM]at h;refine⟨?_,vC h.2⟩;have O:=h.1;split at O<;>first|assumption|cases O
 |.sl e=>by
  refine⟨λtid h => ?_,λl off h=>by cases h⟩;simp only[kv,cM]at h;refine⟨?_,vC h.2⟩;have O:=h.1;split at O
  .rename_i bc aL;exact⟨bc,aL,(tI e).1 _ O⟩
  cases O
 |.unit=>by
  refine⟨λtid h => ?_,λl off h=>by simpa[kv,cP]using h⟩;simp only[kv,cM]at h;refine⟨?_,vC h.2⟩;have O:=h.1;split at O
  .rename_i e8 aL;exact⟨e8,aL,by simpa using O⟩
  cases O
 |.pair a b=>by
  refine⟨λtid h => ?_,λl off h => ?_⟩
  .simp only[kv,cM]at h
   refine⟨?_,vC h.2⟩;have O:=h.1;split at O
   .rename_i e8 aL
    split at O
    .rename_i f r hf
     simp only[cM,Ju]at O;exact⟨e8,aL,f,r,hf,O.1.1,(tI a).1 _ O.1.2,(tI b).2 _ _ O.2⟩
    cases O
   cases O
  simp only[kv]at h;split at h
  .rename_i f r
   simp only[cM,Ju]at h;exact⟨f,r,rfl,h.1.1,(tI a).1 _ h.1.2,(tI b).2 _ _ h.2⟩
  cases h
 |.ar n e=>by
  refine⟨λtid h => ?_,λl off h=>by cases h⟩;simp only[kv,cM]at h;refine⟨?_,vC h.2⟩;have O:=h.1;split at O
  .rename_i m bc aL
   simp only[cM,Ju]at O;rw[<- O.1];exact⟨bc,aL,(tI e).1 _ O.2⟩
  cases O
 |.op k=>by refine⟨λtid h => ?_,λl off h=>by cases h⟩;simp only[kv,cM]at h;exact⟨ad8 h.1,vC h.2⟩
 |.fn k=>by refine⟨λtid h => ?_,λl off h=>by cases h⟩;simp only[kv,cM]at h;exact⟨ad8 h.1,vC h.2⟩
def mV(P:Program)(b8:Nat->Option ae):Prop:=∀tid t,b8 tid=some t->(cP P t).1 tid
def agW(P:Program):∀(l:List (Nat×ae)),(l.all λp=>(kv P p.2).1 p.1)=true->mV P (Dj l)
 |[],_=>λtid t h=>by cases h
 |(i,u)::r,h=>λtid t ht=>by
  simp only[uO,cM]at h;simp only[Dj]at ht;cases Y:Nat.beq i tid with
  |true=>rw[Y]at ht;cases ht;rw[<- fy Y];exact(tI _).1 _ h.1
  |false=>rw[Y]at ht;exact agW P r h.2 tid t ht
end Yp
namespace Yp
open Go
def km:=@Option.some.injEq
def kH:=@Prod.mk.injEq
abbrev cc:=Nat->Option (Nat×Nat×Nat)
def ae.d?: ae->List mx->Option (Nat×ae)
 |t,[]=>some (0,t)
 |.pair a _,.fst::p=>a.d? p
 |.pair a b,.snd::p=>(b.d? p).map λq=>(a.size+q.1,q.2)
 |.ar n e,.ix i::p=>if i<n then(e.d? p).map λq=>(i*e.size+q.1,q.2) else none
 |_,_=>none
def hu(phx:cc)(id:Nat)(e:ae)(off len:Nat)(v:Value):Prop:=
 (len=0/\∃a,v=.slice a 0 0) \/
 ∃b o n cap,phx id=some (b,o,n)/\v=.slice (some ⟨b,o+off*e.size,none⟩) len cap/\len<=cap/\cap<=maxLen/\o+(off+cap)*e.size<=n
def ti(phx:cc)(id:Nat)(e:ae)(off N:Nat)(v:Value):Prop:=
 (N<=off/\∃a,v=.slice a 0 0)\/∃b o n m cap,phx id=some (b,o,n)/\v=.slice (some ⟨b,o+off*e.size,none⟩) m cap/\N<=off+cap
section
variable (phx:cc) (H:cg) (B:Nat->aQ)
def uS:il->Value->Prop
 | .ptr id p,v=>(match B id with
  |.box t _=>∃b o n off t',phx id=some (b,o,n)/\t.d? p=some (off,t')/\v=.pointer (some ⟨b,o+off,none⟩)
  |.fz _ _=>∃b o n,phx id=some (b,o,n)/\(p=[]->v=.pointer (some ⟨b,o,none⟩))
  |.e9=>True
  |_=>False)
 |.iw t x,v=>∃cs,aH H t x cs/\v=cv t cs
def jx:List il->List Value->Prop
 |[],vs=>vs=[]
 |c::r,vs=>∃v d3,vs=v::d3/\uS phx H B c v/\jx r d3
def bM:au->Value->Prop
 |.bad,_=>True
 |.undef,v=>v=Go.undef
 |.kb b,v=>v=.bool b
 |.nq c,v=>∃b,v=.bool b/\(b=true->c=true)
 |.nil,v=>v=.slice none 0 0
 | .own id d',v=>(match B id with
  |.ob e l=>hu phx id e 0 l.length v/\(d'=true->l.length≠0)
  |.fz e l=>hu phx id e 0 l.length v/\(d'=true->l.length≠0)
  |.e9=>True
  |_=>False)
 | .osl id off n,v=>(match B id with
  |.ob e l=>off+n<=l.length/\hu phx id e off n v/\ti phx id e off l.length v
  |.fz e l=>off+n<=l.length/\hu phx id e off n v
  |.box t _=>(match t with|.ar m e=>0<e.size/\off+n<=m/\hu phx id e off n v|_=>False)
  |.e9=>True
  |_=>False)
 |.csl e l,v=>∃a,v=.slice a l.length l.length/\aH H (.sl e) l [v]
 | .ptr id p,v=>(match B id with
  |.box t _=>∃b o n off t',phx id=some (b,o,n)/\t.d? p=some (off,t')/\v=.pointer (some ⟨b,o+off,none⟩)
  |.fz _ _=>∃b o n,phx id=some (b,o,n)/\(p=[]->v=.pointer (some ⟨b,o,none⟩))
  |.e9=>True
  |_=>False)
 | .opt id i p,v=>(match B id with
  |.ob e l=>i<l.length/\∃b o n off t',phx id=some (b,o,n)/\e.d? p=some (off,t')/\v=.pointer (some ⟨b,o+i*e.size+off,none⟩)
  |.fz e l=>i<l.length/\∃b o n off t',phx id=some (b,o,n)/\e.d? p=some (off,t')/\v=.pointer (some ⟨b,o+i*e.size+off,none⟩)
  |.e9=>True
  |_=>False)
 |.ipt e l i p,v=>i<l.length/\∃b o cap off t',aH H (.sl e) l [.slice (some ⟨b,o,none⟩) l.length cap]/\e.d? p=some (off,t')/\v=.pointer (some ⟨b,o+i*e.size+off,none⟩)
 | .itp id,v=>(match B id with
  |.it _ _=>∃b,phx id=some (b,0,0)/\v=.pointer (some ⟨b,0,none⟩)
  |.e9=>True
  |_=>False)
 |.clo f dQ cW,v=>∃vs,jx phx H B cW vs/\v=.func (.func f) (vs.take dQ).toArray (vs.drop dQ).toArray
 |.ifc tid t x,v=>∃cs,aH H t x cs/\v=.iface tid (cv t cs)
 | .mpp id,v=>(match B id with
  |.mp _ _ _=>∃b,phx id=some (b,0,0)/\v=.map (some b)
  |.e9=>True
  |_=>False)
 | .psl id n,v=>(match B id with
  |.box t _=>t=mq n/\∃b o m cap,phx id=some (b,o,m)/\v=.slice (some ⟨b,o,none⟩) n cap
  |.e9=>True
  |_=>False)
 |.sc _ _,_=>False
 |.two _ _,_=>False
 |.agg _ _,_=>False
 |.tup _,_=>False
def e2:au->ae->List Value->Prop
 |.two u v,t,cs=>(match t with|.pair a b=>∃c1 c2,cs=c1++c2/\e2 u a c1/\e2 v b c2|_=>False)
 |.sc t' x,t,cs=>∃h:t'=t,aH H t (h▸x) cs
 |.agg _ _,_,_=>False
 |.tup _,_,_=>False
 |.bad,t,cs=>cs.length=t.size/\∀v∈cs,v.oneCell'=true
 |pv,t,cs=>t.isAgg=false/\∃v,cs=[v]/\v.oneCell'=true/\bM phx H B pv v
def dZ:au->Value->Prop
 |.sc t x,v=>∃cs,aH H t x cs/\v=cv t cs
 |.agg t a,v=>t.isAgg=true/\∃cs,e2 phx H B a t cs/\v=.agg cs.toArray
 |pv,v=>bM phx H B pv v
def lD:au->List Value->Prop
 |.two u r,vs=>∃v d3,vs=v::d3/\dZ phx H B u v/\lD r d3
 |.sc .unit _,vs=>vs=[]
 |_,_=>False
def a?: au->Value->Prop
 |.tup a,v=>∃vs,lD phx H B a vs/\v=.tuple vs.toArray
 |pv,v=>dZ phx H B pv v
end
def aQ.cb:aQ->aQ->Prop
 |.new,_=>True
 |_,.e9=>True
 |.box t _,.box t' _=>t=t'
 |.box t _,.fz e l=>t=.ar l.length e/\0<e.size
 |.ob e l,.ob bC g6=>e=bC/\l.length=g6.length
 |.ob e l,.fz bC g6=>e=bC/\l.length=g6.length
 |.fz e l,.fz bC g6=>e=bC/\l.length=g6.length
 |.it s _,.it cq _=>s=cq
 |.mp k v _,.mp k' cY _=>k=k'/\v=cY
 |_,_=>False
def aQ.cb.refl:∀b:aQ,b.cb b
 |.new=>trivial|.e9=>trivial|.box _ _=>rfl|.ob _ _=>⟨rfl,rfl⟩|.fz _ _=>⟨rfl,rfl⟩|.it _ _=>rfl|.mp _ _ _=>⟨rfl,rfl⟩
def aQ.iC:aQ->Bool
 |.new=>false|_=>true
def ti.congr{phx phx':cc}{id:Nat}{e:ae}{v:Value}(h:phx' id=phx id)(ah:ti phx id e off N v):ti phx' id e off N v:=by unfold ti at *;rw[h];exact ah
def hu.cap{phx:cc}{id:Nat}{e:ae}{v:Value}(h:hu phx id e 0 n v):ti phx id e 0 n v:=by
 rcases h with⟨O,a,R⟩|⟨b,o,m,cap,O,R,af,_⟩
 .exact .inl ⟨J,a,R⟩
 exact .inr ⟨b,o,m,n,cap,O,R,J⟩
def hu.congr{phx phx':cc}{id:Nat}{e:ae}{len:Nat}{v:Value}(h:phx' id=phx id)(ah:hu phx id e off len v):hu phx' id e off len v:=by unfold hu at *;rw[h];exact ah
section
variable {phx phx':cc} {H H':cg} {B B':Nat->aQ}
def uS.mono(dO:∀id,(B id).iC=true->phx' id=phx id)(cy:H.cb H')(aB:∀id,(B id).cb (B' id)){c:il}{v:Value}(h:uS phx H B c v):uS phx' H' B' c v:=by
 cases c with
 |iw t x=>obtain⟨cs,O,R⟩:=h;exact⟨cs,O.mono cy,R⟩
 |ptr id p=>
  have Y:=aB id;have hf:=dO id;simp only[uS]at h ⊢;cases jB:B id<;>cases hb1:B' id<;>simp only[jB,hb1,aQ.iC]at Y hf h ⊢ <;> try(first|exact h.elim|exact Y.elim|trivial)
  all_goals first
   |(subst Y;rw[hf trivial];exact h)
   |(obtain⟨b,o,n,O,R⟩:=h;exact⟨b,o,n,(hf trivial).trans O,R⟩)
   | (
    obtain⟨b,o,n,off,t',O,R,af⟩:=h;exact⟨b,o,n,(hf trivial).trans O,λhp=>by subst hp;simp only[ae.d?,km,kH]at R;rw[af,<- R.1];rfl⟩)
def jx.mono(dO:∀id,(B id).iC=true->phx' id=phx id)(cy:H.cb H')(aB:∀id,(B id).cb (B' id)):∀{l:List il} {vs:List Value},jx phx H B l vs->jx phx' H' B' l vs
 |[],_,h=>h
 |_::_,_,⟨v,d3,h,O,R⟩=>⟨v,d3,h,uS.mono dO cy aB O,jx.mono dO cy aB R⟩
def bM.mono(dO:∀id,(B id).iC=true->phx' id=phx id)(cy:H.cb H')(aB:∀id,(B id).cb (B' id)):∀{pv:au} {v:Value},bM phx H B pv v->bM phx' H' B' pv v:=by
 intro pv v h;cases pv with
 |bad=>trivial
 |undef=>exact h
 |kb b=>exact h
 |nq c=>exact h
 |nil=>exact h
 |sc t x=>exact h
 |two a b=>exact h
 |agg t a=>exact h
 |tup a=>exact h
 |clo f dQ cW=>obtain⟨vs,O,R⟩:=h;exact⟨vs,O.mono dO cy aB,R⟩
 |ifc i t x=>obtain⟨cs,O,R⟩:=h;exact⟨cs,O.mono cy,R⟩
 |csl e l=>obtain⟨a,O,R⟩:=h;exact⟨a,O,R.mono cy⟩
 |ipt e l i p=>obtain⟨ao,b,o,cap,off,t',O,R,af⟩:=h;exact⟨ao,b,o,cap,off,t',O.mono cy,R,af⟩
 |own id d'=>
  have Y:=aB id;have hf:=dO id;simp only[bM]at h ⊢;cases jB:B id<;>cases hb1:B' id<;>simp only[jB,hb1,aQ.iC]at Y hf h ⊢ <;> try(first|exact h.elim|exact Y.elim|trivial)
  all_goals
   obtain⟨rfl,hl⟩:=Y;rw[<- hl];exact⟨h.1.congr (hf trivial),h.2⟩
 |osl id off n=>
  have Y:=aB id;have hf:=dO id;simp only[bM]at h ⊢;cases jB:B id<;>cases hb1:B' id<;>simp only[jB,hb1,aQ.cb,aQ.iC]at Y hf h ⊢ <;> try(first|exact h.elim|exact Y.elim|trivial)
  all_goals first
   |(obtain⟨rfl,hl⟩:=Y;rw[<- hl];exact⟨h.1,h.2.1.congr (hf trivial),h.2.2.congr (hf trivial)⟩)
   |(obtain⟨rfl,hl⟩:=Y;rw[<- hl];exact⟨h.1,h.2.1.congr (hf trivial)⟩)
   |(obtain⟨rfl,hl⟩:=Y;rw[<- hl];exact⟨h.1,h.2.congr (hf trivial)⟩)
   | (
    subst Y;rename_i t _ _;cases t<;>try exact h.elim
    exact⟨h.1,h.2.1,h.2.2.congr (hf trivial)⟩)
   |(obtain⟨Y,_⟩:=Y;subst Y;exact⟨h.2.1,h.2.2.congr (hf trivial)⟩)
 |ptr id p=>
  have Y:=aB id;have hf:=dO id;simp only[bM]at h ⊢;cases jB:B id<;>cases hb1:B' id<;>simp only[jB,hb1,aQ.cb,aQ.iC]at Y hf h ⊢ <;> try(first|exact h.elim|exact Y.elim|trivial)
  all_goals first
   |(subst Y;rw[hf trivial];exact h)
   |(obtain⟨b,o,n,O,R⟩:=h;exact⟨b,o,n,(hf trivial).trans O,R⟩)
   | (
    obtain⟨b,o,n,off,t',O,R,af⟩:=h;exact⟨b,o,n,(hf trivial).trans O,λhp=>by subst hp;simp only[ae.d?,km,kH]at R;rw[af,<- R.1];rfl⟩)
 |opt id i p=>
  have Y:=aB id;have hf:=dO id;simp only[bM]at h ⊢;cases jB:B id<;>cases hb1:B' id<;>simp only[jB,hb1,aQ.cb,aQ.iC]at Y hf h ⊢ <;> try(first|exact h.elim|exact Y.elim|trivial)
  all_goals
   grind
 |itp id=>
  have Y:=aB id;have hf:=dO id;simp only[bM]at h ⊢;cases jB:B id<;>cases hb1:B' id<;>simp only[jB,hb1,aQ.cb,aQ.iC]at Y hf h ⊢ <;> try(first|exact h.elim|exact Y.elim|trivial)
  all_goals
   rw[hf trivial];exact h
 |mpp id=>
  have Y:=aB id;have hf:=dO id;simp only[bM]at h ⊢;cases jB:B id<;>cases hb1:B' id<;>simp only[jB,hb1,aQ.cb,aQ.iC]at Y hf h ⊢ <;> try(first|exact h.elim|exact Y.elim|trivial)
  all_goals
   rw[hf trivial];exact h
 |psl id n=>
  have Y:=aB id;have hf:=dO id;simp only[bM]at h ⊢;cases jB:B id<;>cases hb1:B' id<;>simp only[jB,hb1,aQ.cb,aQ.iC]at Y hf h ⊢ <;> try(first|exact h.elim|exact Y.elim|trivial)
  all_goals first
   |(subst Y;rw[hf trivial];exact h)
   |(obtain⟨h,_⟩:=h;cases n<;>exact absurd (Y.1.symm.trans h) (by simp[mq]))
def e2.mono(dO:∀id,(B id).iC=true->phx' id=phx id)(cy:H.cb H')(aB:∀id,(B id).cb (B' id)):∀{pv:au} {t:ae} {cs:List Value},e2 phx H B pv t cs->e2 phx' H' B' pv t cs:=by
 intro pv;induction pv with
 |two u v aL aC=>
  intro t cs h;cases t<;>simp only[e2]at h ⊢ <;> try exact h
  grind
 |sc t' x=>intro t cs h;obtain⟨ao,h⟩:=h;exact⟨ao,h.mono cy⟩
 |agg t a=>intro t cs h;exact h
 |tup a=>intro t cs h;exact h
 |bad=>intro t cs h;exact h
 |_=>intro t cs h;obtain⟨ao,v,O,R,af⟩:=h;exact⟨ao,v,O,R,bM.mono dO cy aB af⟩
def dZ.mono(dO:∀id,(B id).iC=true->phx' id=phx id)(cy:H.cb H')(aB:∀id,(B id).cb (B' id)){pv:au}{v:Value}(h:dZ phx H B pv v):dZ phx' H' B' pv v:=by
 cases pv with
 |sc t x=>obtain⟨cs,O,R⟩:=h;exact⟨cs,O.mono cy,R⟩
 |agg t a=>obtain⟨ao,cs,O,R⟩:=h;exact⟨ao,cs,e2.mono dO cy aB O,R⟩
 |_=>simp only[dZ]at h ⊢;exact bM.mono dO cy aB h
def lD.mono(dO:∀id,(B id).iC=true->phx' id=phx id)(cy:H.cb H')(aB:∀id,(B id).cb (B' id)):∀{pv:au} {vs:List Value},lD phx H B pv vs->lD phx' H' B' pv vs:=by
 intro pv;induction pv with
 |two u r aL ah=>intro vs h;obtain⟨v,d3,ao,O,R⟩:=h;exact⟨v,d3,ao,dZ.mono dO cy aB O,ah R⟩
 |sc t x=>intro vs h;cases t<;>exact h
 |_=>intro vs h;exact h
def a?.mono(dO:∀id,(B id).iC=true->phx' id=phx id)(cy:H.cb H')(aB:∀id,(B id).cb (B' id)){pv:au}{v:Value}(h:a? phx H B pv v):a? phx' H' B' pv v:=by
 cases pv with
 |tup a=>obtain⟨vs,O,R⟩:=h;exact⟨vs,lD.mono dO cy aB O,R⟩
 |_=>simp only[a?]at h ⊢;exact dZ.mono dO cy aB h
end
def e2.length{phx:cc}{H:cg}{B:Nat->aQ}:∀{pv:au} {t:ae} {cs:List Value},e2 phx H B pv t cs->cs.length=t.size:=by
 intro pv;induction pv with
 |two u v aL aC =>intro t cs h;cases t<;>simp only[e2]at h;obtain⟨c1,c2,h,O,R⟩:=h;rw[h,cG,aL O,aC R];rfl
 |sc t' x=>intro t cs h;obtain⟨ao,h⟩:=h;exact h.length
 |agg t a=>intro t cs h;exact h.elim
 |tup a=>intro t cs h;exact h.elim
 |bad=>intro t cs h;exact h.1
 |_ =>intro t cs h;obtain⟨ao,v,O,R,af⟩:=h;subst O;cases t<;>first|rfl|cases ao
def e2.one{phx:cc}{H:cg}{B:Nat->aQ}:∀{pv:au} {t:ae} {cs:List Value},e2 phx H B pv t cs->∀v∈cs,v.oneCell'=true:=by
 intro pv;induction pv with
 |two u v aL aC=>
  intro t cs h;cases t<;>simp only[e2]at h
  grind
 |sc t' x=>intro t cs h;obtain⟨ao,h⟩:=h;exact h.one
 |agg t a=>intro t cs h;exact h.elim
 |tup a=>intro t cs h;exact h.elim
 |bad=>intro t cs h;exact h.2
 |_=>
  intro t cs h;obtain⟨ao,v,O,R,af⟩:=h
  grind
end Yp
namespace Yp
open Go
def ip:=@Array.getElem?_eq_some_iff
def hU:=@Nat.lt_of_lt_of_le
def eZ:=@Nat.le_trans
def k2:=@Classical.byContradiction
open Classical in
def view(w:World)(M:Nat->Prop):cg:=λb=>if M b then none else w.heap[b]?
def js{w:World}{M:Nat->Prop}{o:Obj}:view w M b=some o↔¬M b/\w.heap[b]?=some o:=by unfold view;simp
def yu{w w':World}{M ay:Nat->Prop}(h:∀b o,¬M b->w.heap[b]?=some o->¬ay b/\w'.heap[b]?=some o):(view w M).cb (view w' ay):=by intro b o Y;rw[js]at Y ⊢;exact h b o Y.1 Y.2
def h4(c:Array Value)(fz:Nat×Nat):Prop:=fz.1=fz.2\/c.size<=fz.1
def h4.no{c:Array Value}{fz:Nat×Nat}(h:h4 c fz):∀i,i<c.size->¬(fz.1<=i/\i<fz.2):=λi hi ai=>by unfold h4 at h;omega
def h4.same{c cL:Array Value}{fz:Nat×Nat}(h:h4 c fz)(ac:cL.size=c.size):h4 cL fz:=by unfold h4 at *;rw[ac];exact h
def e3(H:cg)(e:ae)(l:List e.aD)(c:Array Value)(o:Nat):Prop:=
 o+l.length*e.size<=c.size/\∀(i:Nat) (x:e.aD),hO l i=some x->aH H e x (cH c (o+i*e.size) e.size)
def e3.mono{H H':cg}(hl:H.cb H'){e:ae}{l:List e.aD}{c:Array Value}(h:e3 H e l c o):e3 H' e l c o:=
 ⟨h.1,λi x hi=>(h.2 i x hi).mono hl⟩
section
variable (phx:cc) (M:Nat->Prop) (w:World) (H:cg) (B:Nat->aQ)
def k5(kt:ae):List (kt.aD×au)->List MapEntry->Prop
 |[],es=>es=[]
 |(k,v)::r,es=>∃e es',es=e::es'/\(∃am,aH H kt k am/\e.key=cv kt am)/\dZ phx H B v e.val/\k5 kt r es'
def lC(id:Nat):aQ->Prop
 |.new=>True
 |.e9=>True
 |.box t v=>∃b o c el fz,phx id=some (b,o,c.size)/\w.heap[b]?=some (.cells c el fz)/\o+t.size<=c.size/\e2 phx H B v t (cH c o t.size)/\h4 c fz/\M b
 |.ob e l=>0<e.size/\((phx id=none/\l.length=0)\/∃b o c el fz,phx id=some (b,o,c.size)/\w.heap[b]?=some (.cells c el fz)/\e3 H e l c o/\h4 c fz/\M b)
 |.fz e l=>0<e.size/\((phx id=none/\l.length=0)\/∃b o c el fz,phx id=some (b,o,c.size)/\H b=some (.cells c el fz)/\e3 H e l c o)
 |.it s p=>∃b,phx id=some (b,0,0)/\w.heap[b]?=some (.stringIter ⟨s.toArray⟩ p)/\M b
 |.mp kt _ l=>∃b es m',phx id=some (b,0,0)/\w.heap[b]?=some (.map es m')/\k5 phx H B kt l es.toList/\M b
end
def aQ.fv:aQ->Bool
 |.box _ _=>true|.ob _ _=>true|.it _ _=>true|.mp _ _ _=>true|_=>false
structure Kp where
 k:Nat->Prop
 x:Nat->Prop
structure Mem(K:Kp)(w0:World)(phx:cc)(M:Nat->Prop)(B:Nat->aQ)(w:World):Prop where
 os:w.os=w0.os
 tape:w.tape=w0.tape
 output:w.output=w0.output
 size:w0.heap.size<=w.heap.size
 keep:∀b,K.k b->w.heap[b]?=w0.heap[b]?
 klt:∀b,K.k b->b<w0.heap.size
 hid:∀b,K.k b->(M b↔K.x b)
 own:∀id,(B id).fv=true->∀x,phx id=some x->¬K.k x.1
 mlt:∀b,M b->b<w.heap.size
 blks:∀id,lC phx M w (view w M) B id (B id)
 sep:∀i j,i≠j->(B i).fv=true->(B j).fv=true->∀x y,phx i=some x->phx j=some y->x.1≠y.1
structure cm(phx:cc)(M:Nat->Prop)(B:Nat->aQ)(w:World)(phx':cc)(ay:Nat->Prop)(B':Nat->aQ)(w':World):Prop where
 pl:∀id,(B id).iC=true->phx' id=phx id
 vw:(view w M).cb (view w' ay)
 bl:∀id,(B id).cb (B' id)
def cm.refl(phx:cc)(M:Nat->Prop)(B:Nat->aQ)(w:World):cm phx M B w phx M B w:=
 ⟨λ_ _=>rfl,cg.cb.refl _,λ_=>aQ.cb.refl _⟩
def cm.p{phx phx':cc}{M ay:Nat->Prop}{B B':Nat->aQ}{w w':World}(h:cm phx M B w phx' ay B' w'){pv:au}{v:Value}(hp:a? phx (view w M) B pv v):a? phx' (view w' ay) B' pv v:=
 hp.mono h.pl h.vw h.bl
def cV(B:Nat->aQ)(id:Nat)(b:aQ):Nat->aQ:=λj=>if j=id then b else B j
def eM(B:Nat->aQ)(id:Nat)(b:aQ):cV B id b id=b:=by simp[cV]
def d6(B:Nat->aQ){id:Nat}(b:aQ)(h:j≠id):cV B id b j=B j:=by simp[cV,h]
def k5.mono{phx phx':cc}{H H':cg}{B B':Nat->aQ}(dO:∀id,(B id).iC=true->phx' id=phx id)(cy:H.cb H')(aB:∀id,(B id).cb (B' id)){kt:ae}:∀{l:List (kt.aD×au)} {es:List MapEntry},k5 phx H B kt l es->k5 phx' H' B' kt l es
 |[],_,h=>h
 |_::_,_,⟨e,es',h,⟨am,O,R⟩,af,aq⟩=>⟨e,es',h,⟨am,O.mono cy,R⟩,af.mono dO cy aB,k5.mono dO cy aB aq⟩
def lC.congr{phx phx':cc}{M ay:Nat->Prop}{w w':World}{H H':cg}{B B':Nat->aQ}{id:Nat}{b:aQ}
  (hid:phx' id=phx id) (dO:∀id,(B id).iC=true->phx' id=phx id) (cy:H.cb H') (aB:∀id,(B id).cb (B' id))
  (bb:∀x,phx id=some x->b.fv=true->w'.heap[x.1]?=w.heap[x.1]?) (dS:∀x,phx id=some x->b.fv=true->M x.1->ay x.1)
  (h:lC phx M w H B id b):lC phx' ay w' H' B' id b:=by
 cases b with
 |new=>trivial
 |e9=>trivial
 |box t v =>obtain⟨b,o,c,el,fz,O,R,af,aq,a8,cT⟩:=h;exact⟨b,o,c,el,fz,hid.trans O,(bb _ O rfl).trans R,af,aq.mono dO cy aB,a8,dS _ O rfl cT⟩
 |ob e l=>
  refine⟨h.1,?_⟩;rcases h.2 with⟨O,R⟩|⟨b,o,c,el,fz,O,R,af,aq,a8⟩
  .exact .inl ⟨hid.trans O,R⟩
  exact .inr ⟨b,o,c,el,fz,hid.trans O,(bb _ O rfl).trans R,af.mono cy,aq,dS _ O rfl a8⟩
 |fz e l=>
  refine⟨h.1,?_⟩;rcases h.2 with⟨O,R⟩|⟨b,o,c,el,fz,O,R,af⟩
  .exact .inl ⟨hid.trans O,R⟩
  exact .inr ⟨b,o,c,el,fz,hid.trans O,cy _ _ R,af.mono cy⟩
 |it s p =>obtain⟨b,O,R,af⟩:=h;exact⟨b,hid.trans O,(bb _ O rfl).trans R,dS _ O rfl af⟩
 |mp kt vt l =>obtain⟨b,es,m',O,R,af,aq⟩:=h;exact⟨b,es,m',hid.trans O,(bb _ O rfl).trans R,af.mono dO cy aB,dS _ O rfl aq⟩
section
variable {K:Kp} {w0 w:World} {phx:cc} {M:Nat->Prop} {B:Nat->aQ}
def Mem.e9(h:Mem K w0 phx M B w)(id:Nat):Mem K w0 phx M (cV B id .e9) w/\cm phx M B w phx M (cV B id .e9) w:=by
 have aA:cm phx M B w phx M (cV B id .e9) w:=⟨λ_ _=>rfl,cg.cb.refl _,λj=>by
  by_cases an:j=id
  .subst an;rw[eM];cases B j<;>trivial
  rw[d6 _ _ an];exact aQ.cb.refl _⟩
 refine⟨{ h with own:=λj an => ?_,blks:=λj => ?_,sep:=λi j i3 hi an => ?_ },aA⟩
 .by_cases O:j=id
  .subst O;rw[eM]at an;cases an
  rw[d6 _ _ O]at an;exact h.own j an
 .by_cases an:j=id
  .subst an;rw[eM];trivial
  rw[d6 _ _ an];exact(h.blks j).congr rfl aA.pl aA.vw aA.bl (λ_ _ _=>rfl) (λ_ _ _ h=>h)
 by_cases O:i=id
 .subst O;rw[eM]at hi;cases hi
 by_cases R:j=id
 .subst R;rw[eM]at an;cases an
 rw[d6 _ _ O]at hi;rw[d6 _ _ R]at an;exact h.sep i j i3 hi an
def nL(phx:cc)(M:Nat->Prop)(B:Nat->aQ)(ay:Nat->Prop)(B':Nat->aQ):Prop:=
 (∀b,M b->¬ay b->∃j,(B j).fv=true/\∃z,phx j=some z/\z.1=b)/\∀j,(B' j).fv=true->(B j).fv=true
def nL.refl(phx:cc)(M:Nat->Prop)(B:Nat->aQ):nL phx M B M B:=⟨λb h bL=>absurd h bL,λ_ h=>h⟩
def nL.trans{phx:cc}{M ay qY:Nat->Prop}{B B' EL:Nat->aQ}(h:nL phx M B ay B')(k:nL phx ay B' qY EL):nL phx M B qY EL:=by
 refine⟨λb O R => ?_,λj an=>h.2 j (k.2 j an)⟩;by_cases hm:ay b
 .obtain⟨j,an,z,bj⟩:=k.1 b hm R
  exact⟨j,h.2 j an,z,bj⟩
 exact h.1 b O hm
def Mem.freeze(h:Mem K w0 phx M B w){id:Nat}{e:ae}{l:List e.aD}(Y:B id=.ob e l):
  ∃ay,Mem K w0 phx ay (cV B id (.fz e l)) w/\cm phx M B w phx ay (cV B id (.fz e l)) w/\nL phx M B ay (cV B id (.fz e l)):=by
 refine⟨λb=>M b/\∀x,phx id=some x->b≠x.1,?_⟩;have aC:(view w M).cb (view w λb=>M b/\∀x,phx id=some x->b≠x.1):=yu λb o dS aK=>⟨λai=>dS ai.1,aK⟩;have aA:cm phx M B w phx (λb=>M b/\∀x,phx id=some x->b≠x.1) (cV B id (.fz e l)) w:=⟨λ_ _=>rfl,aC,λj=>by
  by_cases an:j=id
  .subst an;rw[eM,Y];exact⟨rfl,rfl⟩
  rw[d6 _ _ an];exact aQ.cb.refl _⟩
 refine⟨{ h with hid:=λb ap=>⟨λhm=>(h.hid b ap).1 hm.1,λhx=>⟨(h.hid b ap).2 hx,λx mO e=>h.own id (by rw[Y];rfl) x mO (e▸ap)⟩⟩,mlt:=λb hm=>h.mlt b hm.1,own:=λj an => ?_,blks:=λj => ?_,sep:=λi j i3 hi an => ?_ },aA,⟨λb Y aj => ?_,λj an => ?_⟩⟩
 .by_cases O:j=id
  .subst O;rw[eM]at an;cases an
  rw[d6 _ _ O]at an;exact h.own j an
 .by_cases an:j=id
  .subst an;rw[eM]
   have ah:=h.blks j;rw[Y]at ah;refine⟨ah.1,?_⟩;rcases ah.2 with⟨O,R⟩|⟨b,o,c,el,fz,O,R,af,aq,a8⟩
   .exact .inl ⟨O,R⟩
   exact .inr ⟨b,o,c,el,fz,O,js.2 ⟨λai=>ai.2 _ O rfl,R⟩,af.mono aC⟩
  rw[d6 _ _ an];refine(h.blks j).congr rfl aA.pl aA.vw aA.bl (λ_ _ _=>rfl) λx hx hm dS=>⟨dS,λy hy => ?_⟩;exact h.sep j id an hm (by rw[Y];rfl) x y hx hy
 .by_cases O:i=id
  .subst O;rw[eM]at hi;cases hi
  by_cases R:j=id
  .subst R;rw[eM]at an;cases an
  rw[d6 _ _ O]at hi;rw[d6 _ _ R]at an;exact h.sep i j i3 hi an
 .refine k2 λai=>aj ⟨Y,λx hx e=>ai ⟨id,by rw[‹B id=_›];rfl,x,hx,e.symm⟩⟩
 by_cases O:j=id
 .subst O;rw[eM]at an;cases an
 rw[d6 _ _ O]at an;exact an
def wg(phx:cc)(id:Nat)(x:Option (Nat×Nat×Nat)):cc:=λj=>if j=id then x else phx j
def lU(phx:cc)(id:Nat)(x:Option (Nat×Nat×Nat)):wg phx id x id=x:=by simp[wg]
def qS(phx:cc){id:Nat}(x:Option (Nat×Nat×Nat))(h:j≠id):wg phx id x j=phx j:=by simp[wg,h]
def Mem.CJ(h:Mem K w0 phx M B w){w':World}(O:w'.os=w.os)(R:w'.tape=w.tape)(af:w'.output=w.output)(ac:w.heap.size<=w'.heap.size)
 (Y:∀b,b<w.heap.size->w'.heap[b]?=w.heap[b]?) (N:Nat->Prop) (fM:∀b,N b->w.heap.size<=b/\b<w'.heap.size) :
 Mem K w0 phx (λb=>M b\/N b) B w'/\cm phx M B w phx (λb=>M b\/N b) B w':=by
 have bm:∀b o,w.heap[b]?=some o->b<w.heap.size:=λb o aK=>(ip.1 aK).1;have aC:(view w M).cb (view w' λb=>M b\/N b):=yu λb o dS aK=>
  ⟨λai=>ai.elim dS λaj=>by have:=fM b aj;have:=bm b o aK;omega,(Y b (bm b o aK)).trans aK⟩
 have aA:cm phx M B w phx (λb=>M b\/N b) B w':=⟨λ_ _=>rfl,aC,λ_=>aQ.cb.refl _⟩;refine⟨{ os:=O.trans h.os,tape:=R.trans h.tape,output:=af.trans h.output,size:=eZ h.size ac,keep:=λb ap => ?_,klt:=h.klt,hid:=λb ap=>⟨λhm => ?_,λhx=>.inl ((h.hid b ap).2 hx)⟩,own:=h.own,mlt:=λb hm => ?_,blks:=λj => ?_,sep:=h.sep },aA⟩
 .exact(Y b (hU (h.klt b ap) h.size)).trans (h.keep b ap)
 .rcases hm with hm|hm
  .exact(h.hid b ap).1 hm
  have:=fM b hm;have:=h.klt b ap;have:=h.size;omega
 .rcases hm with hm|hm
  .exact hU (h.mlt b hm) ac
  exact(fM b hm).2
 refine(h.blks j).congr rfl aA.pl aA.vw aA.bl (λx hx hm=>Y _ ?_) (λx _ _ hm=>.inl hm);have ah:=h.blks j;generalize B j=bl at ah hm;cases bl with
 |new=>cases hm
 |e9=>cases hm
 |fz e l=>cases hm
 |box t v=>obtain⟨b,o,c,el,fz,O,R,_⟩:=ah;rw[O]at hx;cases hx;exact bm _ _ R
 |ob e l=>
  rcases ah.2 with⟨O,_⟩|⟨b,o,c,el,fz,O,R,_⟩
  .rw[O]at hx;cases hx
  rw[O]at hx;cases hx;exact bm _ _ R
 |it s p=>obtain⟨b,O,R,_⟩:=ah;rw[O]at hx;cases hx;exact bm _ _ R
 |mp kt vt l=>obtain⟨b,es,m',O,R,_⟩:=ah;rw[O]at hx;cases hx;exact bm _ _ R
def Mem.uY(h:Mem K w0 phx M B w){id:Nat}(hid:B id=.new)(j6:aQ)(x:Option (Nat×Nat×Nat))
  (vx:j6.fv=true->∀y,x=some y->¬K.k y.1) (abT:j6.fv=true->∀y,x=some y->∀j,(B j).fv=true->∀z,phx j=some z->z.1≠y.1)
  (ah:cm phx M B w (wg phx id x) M (cV B id j6) w->lC (wg phx id x) M w (view w M) (cV B id j6) id j6) :
  Mem K w0 (wg phx id x) M (cV B id j6) w/\cm phx M B w (wg phx id x) M (cV B id j6) w:=by
 have aA:cm phx M B w (wg phx id x) M (cV B id j6) w:=⟨λj an=>qS _ _ (λe=>by subst e;rw[hid]at an;cases an),cg.cb.refl _,λj=>by
  by_cases an:j=id
  .subst an;rw[eM,hid];trivial
  rw[d6 _ _ an];exact aQ.cb.refl _⟩
 refine⟨{ h with own:=λj an y hy => ?_,blks:=λj => ?_,sep:=λi j i3 hi an y z hy bj => ?_ },aA⟩
 .by_cases O:j=id
  .subst O;rw[eM]at an;rw[lU]at hy;exact vx an y hy
  rw[d6 _ _ O]at an;rw[qS _ _ O]at hy;exact h.own j an y hy
 .by_cases an:j=id
  .subst an;rw[eM];exact ah aA
  rw[d6 _ _ an];exact(h.blks j).congr (qS _ _ an) aA.pl aA.vw aA.bl (λ_ _ _=>rfl) (λ_ _ _ h=>h)
 by_cases O:i=id
 .subst O
  have R:j≠i:=λe=>i3 e.symm;rw[eM]at hi;rw[d6 _ _ R]at an;rw[lU]at hy;rw[qS _ _ R]at bj;exact(abT hi y hy j an z bj).symm
 by_cases R:j=id
 .subst R
  rw[eM]at an;rw[d6 _ _ O]at hi;rw[lU]at bj;rw[qS _ _ O]at hy;exact abT an z bj i hi y hy
 rw[d6 _ _ O]at hi;rw[d6 _ _ R]at an;rw[qS _ _ O]at hy;rw[qS _ _ R]at bj;exact h.sep i j i3 hi an y z hy bj
def Mem.put(h:Mem K w0 phx M B w){id:Nat}{x:Nat×Nat×Nat}(hm:(B id).fv=true)(hx:phx id=some x)(RT:M x.1){w':World}
 (O:w'.os=w.os) (R:w'.tape=w.tape) (af:w'.output=w.output) (ac:w'.heap.size=w.heap.size)
 (Y:∀b,b≠x.1->w'.heap[b]?=w.heap[b]?) (j6:aQ) (bY:(B id).cb j6)
 (ah:cm phx M B w phx M (cV B id j6) w'->lC phx M w' (view w' M) (cV B id j6) id j6) :
 Mem K w0 phx M (cV B id j6) w'/\cm phx M B w phx M (cV B id j6) w':=by
 have aC:(view w M).cb (view w' M):=yu λb o dS aK=>⟨dS,(Y b λe=>dS (e▸RT)).trans aK⟩;have aA:cm phx M B w phx M (cV B id j6) w':=⟨λ_ _=>rfl,aC,λj=>by
  by_cases an:j=id
  .subst an;rw[eM];exact bY
  rw[d6 _ _ an];exact aQ.cb.refl _⟩
 refine⟨{ os:=O.trans h.os,tape:=R.trans h.tape,output:=af.trans h.output,size:=ac▸h.size,keep:=λb ap => ?_,klt:=h.klt,hid:=h.hid,own:=λj an => ?_,mlt:=λb hm=>ac▸h.mlt b hm,blks:=λj => ?_,sep:=λi j i3 hi an => ?_ },aA⟩
 .exact(Y b λe=>h.own id hm x hx (e▸ap)).trans (h.keep b ap)
 .by_cases O:j=id
  .subst O;exact h.own j hm
  rw[d6 _ _ O]at an;exact h.own j an
 .by_cases an:j=id
  .subst an;rw[eM];exact ah aA
  rw[d6 _ _ an];exact(h.blks j).congr rfl aA.pl aA.vw aA.bl (λy hy qu=>Y _ (h.sep j id an qu hm y x hy hx)) (λ_ _ _ h=>h)
 have key:∀k,((cV B id j6) k).fv=true->(B k).fv=true:=λk ap=>by
  by_cases qs:k=id
  .subst qs;exact hm
  rw[d6 _ _ qs]at ap;exact ap
 exact h.sep i j i3 (key i hi) (key j an)
def cm.trans{hk jH:cc}{fr c8:Nat->Prop}{cS b4:Nat->aQ}{cf cO:World}(h:cm phx M B w hk fr cS cf)(g:cm hk fr cS cf jH c8 b4 cO):cm phx M B w jH c8 b4 cO:=by
 refine⟨λid hl => ?_,h.vw.trans g.vw,λid => ?_⟩
 .have O:=h.pl id hl;have Y:=h.bl id
  rw[<- O];refine g.pl id ?_;generalize B id=b at *;generalize cS id=eS at *
  cases b<;>cases eS<;>simp only[aQ.cb]at Y<;>first|rfl|cases hl
 have Y:=h.bl id;have xd:=g.bl id;generalize B id=b at *;generalize cS id=eS at *;generalize b4 id=ei at *
 cases b<;>cases eS<;>cases ei<;>simp only[aQ.cb]at Y xd ⊢ <;> first|exact Y.elim|exact xd.elim|trivial|exact Y.trans xd|exact⟨Y.1.trans xd.1,Y.2.trans xd.2⟩|exact⟨Y.trans xd.1,xd.2⟩|(obtain⟨O,R⟩:=Y;obtain⟨rfl,aq⟩:=xd;exact⟨by rw[O,aq],R⟩)
end
end Yp
namespace Yp
open Go
def nI:=@Ne.symm
def BS:=@Nat.beq_refl
def aw.aY{α:Type}(g:Nat->au):aw α->(Nat->aQ)->Option (α×(Nat->aQ))
 |.fail,_=>none
 |.ret a,B=>some (a,B)
 |.chk c k,B=>if c=true then k.aY g B else none
 |.br c x y,B=>if c=true then x.aY g B else y.aY g B
 |.bo _ o k,B=>(match o with|some a=>(k a).aY g B|none=>none)
 |.rt i k,B=>(k (g i)).aY g B
 |.rb i k,B=>(k (B i)).aY g B
 |.eI i b k,B=>k.aY g (cV B i b)
def aw.Rw(g:Nat->au)(m:aw α)(f:α->aw β)(B:Nat->aQ):
  (m.bind f).aY g B=(match m.aY g B with|some (a,B')=>(f a).aY g B'|none=>none):=by
 induction m generalizing B with
 |fail=>rfl
 |ret a=>rfl
 |chk c k ih=>simp only[aw.bind,aw.aY];split<;>simp[ih]
 |br c x y hx hy=>simp only[aw.bind,aw.aY];split<;>simp[hx,hy]
 |bo d o k ih=>cases o<;>simp only[aw.bind,aw.aY,ih]
 |rt i k ih=>simp only[aw.bind,aw.aY,ih]
 |rb i k ih=>simp only[aw.bind,aw.aY,ih]
 |eI i b k ih=>simp only[aw.bind,aw.aY,ih]
def aw.cA{g:Nat->au}{m:aw α}{f:α->aw β}{B:Nat->aQ}{r:β×(Nat->aQ)}(h:(m.bind f).aY g B=some r):
  ∃a B',m.aY g B=some (a,B')/\(f a).aY g B'=some r:=by
 rw[aw.Rw]at h;split at h
 .rename_i a B' hm;exact⟨a,B',hm,h⟩
 cases h
def dx(B:Nat->aQ)(wr:List (Nat×aQ)):Nat->aQ:=λid=>nr wr id (B id)
def xQ(B:Nat->aQ)(i:Nat)(b:aQ)(wr:List (Nat×aQ)):dx B ((i,b)::wr)=cV (dx B wr) i b:=by
 funext j;simp only[dx,nr,cV];by_cases h:i=j
 .subst h;rw[BS];simp
 have:Nat.beq i j=false:=by cases Y:Nat.beq i j with
  |false=>rfl
  |true=>exact absurd (fy Y) h
 rw[this];simp[nI h]
def aw.afh(s:aM)(m:aw α):∀(ff:Nat) (e':List Nat) (wr:List (Nat×aQ)) (k:α×Oz->aP β) (r:β),((m.run s ff e' wr).bind k).bI=some r ->
  ∃a e,m.aY s.bX (dx s.aR wr)=some (a,dx s.aR e.wr)/\(k (a,e)).bI=some r:=by
 induction m with
 |fail=>intro ff e' wr k r h;cases h
 |ret a=>intro ff e' wr k r h;exact⟨a,_,rfl,h⟩
 |chk c m ih=>
  intro ff e' wr k r h;simp only[aw.run,aP.bind,aP.bI,am,aw.aY]at h ⊢;cases c with
  |true=>simpa using ih ff e' wr k r h
  |false=>cases h
 |br c x y hx hy=>
  intro ff e' wr k r h;simp only[aw.run,aP.bind,aP.bI,T,aw.aY]at h ⊢;cases c with
  |true=>simpa using hx ff e' wr k r h
  |false=>simpa using hy ff e' wr k r h
 |bo d o m ih=>
  intro ff e' wr k r h;cases o with
  |some a=>exact ih a ff e' wr k r h
  |none=>cases h
 |rt i m ih=>intro ff e' wr k r h;exact ih (s.bX i) _ e' wr k r h
 |rb i m ih=>intro ff e' wr k r h;exact ih _ ff (i::e') wr k r h
 |eI i b m ih =>intro ff e' wr k r h;obtain⟨a,e,O,R⟩:=ih ff e' ((i,b)::wr) k r h;refine⟨a,e,?_,R⟩;simp only[aw.aY];rw[<- xQ];exact O
def dw(phx:cc)(H:cg)(B:Nat->aQ)(g:Nat->au)(a:Act):Prop:=∀t,a? phx H B (g t) (a.tmps.getD t undef)
def dw.ext{phx phx':cc}{M ay:Nat->Prop}{B B':Nat->aQ}{w w':World}{g:Nat->au}{a:Act}(h:dw phx (view w M) B g a)(aA:cm phx M B w phx' ay B' w'):dw phx' (view w' ay) B' g a:=
 λt=>aA.p (h t)
def dE{g:Nat->au}{o:Option α}{B B':Nat->aQ}{a:α}(h:(aw.opt o).aY g B=some (a,B')):o=some a/\B'=B:=by
 cases o with
 |none=>cases h
 |some b=>simp only[aw.opt,aw.aY,km,kH]at h;exact⟨by rw[h.1],h.2.symm⟩
def kD{g:Nat->au}{b:Bool}{B B':Nat->aQ}{a:Unit}(h:(aw.need b).aY g B=some (a,B')):b=true/\B'=B:=by
 cases b with
 |false=>cases h
 |true=>simp only[aw.need,cond,aw.aY,km,kH]at h;exact⟨rfl,h.2.symm⟩
def al9{g:Nat->au}{c:Value}{B B':Nat->aQ}{v:au}(h:(Qy c).aY g B=some (v,B'))(phx:cc)(H:cg):B'=B/\a? phx H B v c:=by
 unfold Qy at h;split at h
 .cases h;exact⟨rfl,rfl⟩
 .rename_i k n
  cases hl:Hx k n with
  |false=>rw[hl]at h;cases h
  |true =>rw[hl]at h;cases h;exact⟨rfl,[.int k n],aH.ia.2 (by rw[bH.ahe k n hl]),rfl⟩
 .rename_i s
  cases h;exact⟨rfl,[.string s],aH.ml.2 rfl,rfl⟩
 .cases h;exact⟨rfl,rfl⟩
 .cases h;exact⟨rfl,_,aH.vW.2 rfl,rfl⟩
 .cases h;exact⟨rfl,_,aH.vW.2 rfl,rfl⟩
 .cases h;exact⟨rfl,_,aH.vW.2 rfl,rfl⟩
 .cases h;exact⟨rfl,_,aH.vW.2 rfl,rfl⟩
 cases h
def xP{g:Nat->au}{x:Operand}{B B':Nat->aQ}{v:au}(h:(ea x).aY g B=some (v,B')){phx:cc}{H:cg}{a:Act}(ac:dw phx H B g a):B'=B/\a? phx H B v (a.eval x):=by
 cases x with
 |tmp t=>cases h;exact⟨rfl,ac t⟩
 |const c=>exact al9 h phx H
 |global i=>cases h
 |func f=>cases h;exact⟨rfl,[],rfl,rfl⟩
def a?.int{phx:cc}{H:cg}{B:Nat->aQ}{k:IntKind}{x:bH k}{v:Value}(h:a? phx H B (.sc (.int k) x) v):v=.int k (bH.to k x):=by obtain⟨cs,h,rfl⟩:=h;rw[aH.ia.1 h];rfl
def a?.sI(phx:cc)(H:cg)(B:Nat->aQ)(k:IntKind)(x:bH k):a? phx H B (.sc (.int k) x) (.int k (bH.to k x)):=
 ⟨[.int k (bH.to k x)],aH.ia.2 rfl,rfl⟩
def a?.bool{phx:cc}{H:cg}{B:Nat->aQ}{x:Bool}{v:Value}(h:a? phx H B (.sc .bool x) v):v=.bool x:=by obtain⟨cs,h,rfl⟩:=h;rw[aH.nP.1 h];rfl
def a?.ud(phx:cc)(H:cg)(B:Nat->aQ)(x:Bool):a? phx H B (.sc .bool x) (.bool x):=⟨[.bool x],aH.nP.2 rfl,rfl⟩
def a?.str{phx:cc}{H:cg}{B:Nat->aQ}{x:List UInt8}{v:Value}(h:a? phx H B (.sc .str x) v):v=.string ⟨x.toArray⟩:=by obtain⟨cs,h,rfl⟩:=h;rw[aH.ml.1 h];rfl
def a?.Tq(phx:cc)(H:cg)(B:Nat->aQ)(x:List UInt8):a? phx H B (.sc .str x) (.string ⟨x.toArray⟩):=⟨[.string ⟨x.toArray⟩],aH.ml.2 rfl,rfl⟩
end Yp
namespace Yp
open Go
variable {P:Program}
def ayL{o:Oper}{a:Act}{w w':World}{v:Value}{K:Act->World->Prop}{Q:Exit->Act->World->Prop}
  (h:(execOp a.eval o).run P w=.ok (.value v) w') (ap:K (a.put o.dst v) w'):o.wp P a w K Q:=by
 unfold Oper.wp;rw[h];exact ap
def Wa{o:Oper}{a:Act}{w w':World}{K:Act->World->Prop}{Q:Exit->Act->World->Prop}
  (h:(execOp a.eval o).run P w=.ok .skip w') (ap:K (a.put o.dst undef) w'):o.wp P a w K Q:=by
 unfold Oper.wp;rw[h];exact ap
def am0(op:BinOp)(t:TypeId)(x y:Operand)(k k':IntKind)(n m:Int)(w:World):(eqGuard op t x y (.int k n) (.int k' m)).run P w=.ok () w:=by cases op<;>rfl
def am1(op:BinOp)(t:TypeId)(x y:Operand)(n m:ByteArray)(w:World):(eqGuard op t x y (.string n) (.string m)).run P w=.ok () w:=by cases op<;>rfl
def ahJ(k:IntKind)(n:Int)(O:k.min<=n)(R:n<=k.max):k.wrap n=n:=by cases k<;>simp[IntKind.min,IntKind.max,IntKind.signed,IntKind.bits,IntKind.wrap]at * <;> omega
def bH.I6(k:IntKind)(x:bH k)(h:Ez k=true):0<=bH.to k x:=by cases k<;>first|cases h;done|exact Int.natCast_nonneg _
def bH.Tf(k:IntKind)(n:Int)(h:Ez k=true->0<=n/\n<=k.max):bH.to k (bH.lit k n)=n:=by
 apply bH.ahe;cases k<;>first
  |rfl
  | (have:=h rfl;cases n with
    |ofNat m=>simp[Hx,IntKind.max,IntKind.signed,IntKind.bits]at *;omega
    |negSucc m=>omega)
def bH.ahf(k:IntKind)(x:bH k)(h:Ez k=true):bH.to k x<=k.max:=by
 cases k with
 |u8=>have:=UInt8.toNat_lt x;simp only[bH.to,aI,IntKind.max,IntKind.signed,IntKind.bits];simp;omega
 |u16=>have:=UInt16.toNat_lt x;simp only[bH.to,HH,IntKind.max,IntKind.signed,IntKind.bits];simp;omega
 |u32=>have:=UInt32.toNat_lt x;simp only[bH.to,aS,IntKind.max,IntKind.signed,IntKind.bits];simp;omega
 |u64=>have:=UInt64.toNat_lt x;simp only[bH.to,cD,IntKind.max,IntKind.signed,IntKind.bits];simp;omega
 |_=>cases h
def ajv{rp:Bool}{op:BinOp}{k:IntKind}{x y:bH k}{g:Nat->au}{B B':Nat->aQ}{v:au}(h:(Px rp op k x y).aY g B=some (v,B'))
  (LE:rp=true->bH.to k y≠0) (t:TypeId) (w:World) (phx:cc) (H:cg) :
  B'=B/\∃cY,(binOp op t (.int k (bH.to k x)) (.int k (bH.to k y))).run P w=.ok cY w/\a? phx H B v cY:=by
 have rf:=λn=>by
  have:=a?.sI phx H B k (bH.of k n)
  rwa [bH.NX]at this
 have Y:=a?.ud phx H B;cases op<;>simp only[Px]at h
 all_goals try(cases h;done)
 case add=>cases h;exact⟨rfl,_,by simp[binOp,Op.intArith,av,bi,e_],rf _⟩
 case sub=>cases h;exact⟨rfl,_,by simp[binOp,Op.intArith,av,bi,e_],rf _⟩
 case mul=>cases h;exact⟨rfl,_,by simp[binOp,Op.intArith,av,bi,e_],rf _⟩
 case and=>cases h;exact⟨rfl,_,by simp[binOp,Op.intBits,iI,gM,fx,HL],rf _⟩
 case or=>cases h;exact⟨rfl,_,by simp[binOp,Op.intBits,iI,gM,fx,HL],rf _⟩
 case xor=>cases h;exact⟨rfl,_,by simp[binOp,Op.intBits,iI,gM,fx,HL],rf _⟩
 case andNot=>cases h;exact⟨rfl,_,by simp[binOp,Op.intBits,iI,gM,fx,HL],rf _⟩
 case eql=>cases h;exact⟨rfl,_,by simp[binOp,Op.intCmp,ag,a_,aJ,bE,bne],Y _⟩
 case neq=>cases h;exact⟨rfl,_,by simp[binOp,Op.intCmp,ag,a_,aJ,bE,bne],Y _⟩
 case lss=>cases h;exact⟨rfl,_,by simp[binOp,Op.intCmp,ag,a_,aJ,bE,bne],Y _⟩
 case leq=>cases h;exact⟨rfl,_,by simp[binOp,Op.intCmp,ag,a_,aJ,bE,bne],Y _⟩
 case gtr=>cases h;exact⟨rfl,_,by simp[binOp,Op.intCmp,ag,a_,aJ,bE,bne],Y _⟩
 case geq=>cases h;exact⟨rfl,_,by simp[binOp,Op.intCmp,ag,a_,aJ,bE,bne],Y _⟩
 case quo=>
  have key:bH.to k y≠0/\B'=B/\v=.sc (.int k) (bH.of k (fe (bH.to k x) (bH.to k y))):=by
   cases rp with
   |true=>cases h;exact⟨LE rfl,rfl,rfl⟩
   |false=>
    simp only[zd,cond,aw.aY]at h;split at h
    .rename_i ai;cases h;exact⟨by simpa[a_,ag]using ai,rfl,rfl⟩
    cases h
  obtain⟨ao,aB,rfl⟩:=key;exact⟨aB,_,by simp[binOp,Op.intDiv,ao,fe],rf _⟩
 case rem=>
  have key:bH.to k y≠0/\B'=B/\v=.sc (.int k) (bH.lit k (dh (bH.to k x) (bH.to k y))):=by
   cases rp with
   |true=>cases h;exact⟨LE rfl,rfl,rfl⟩
   |false=>
    simp only[zd,cond,aw.aY]at h;split at h
    .rename_i ai;cases h;exact⟨by simpa[a_,ag]using ai,rfl,rfl⟩
    cases h
  obtain⟨ao,aB,rfl⟩:=key;refine⟨aB,_,by simp[binOp,Op.intDiv,ao];rfl,?_⟩;have hm:=a?.sI phx H B k (bH.lit k (dh (bH.to k x) (bH.to k y)));rw[bH.Tf]at hm
  .exact hm
  intro aL;have O:=bH.I6 k x aL;have R:=bH.I6 k y aL;have af:=bH.ahf k y aL;unfold dh;have aq:=Int.tmod_nonneg (bH.to k y) O;have a8:(bH.to k x).tmod (bH.to k y)<bH.to k y:=Int.tmod_lt_of_pos _ J;omega
def ajx{op:BinOp}{x y:List UInt8}{g:Nat->au}{B B':Nat->aQ}{v:au}(h:(Py op x y).aY g B=some (v,B'))(t:TypeId)(w:World)(phx:cc)(H:cg):
  B'=B/\∃cY,(binOp op t (.string ⟨x.toArray⟩) (.string ⟨y.toArray⟩)).run P w=.ok cY w/\a? phx H B v cY:=by
 have Y:=a?.ud phx H B;have hl:∀z:List UInt8,ByteArray.toList ⟨z.toArray⟩=z:=λz=>by rw[ByteArray.toList_eq]
 cases op<;>simp only[Py]at h
 all_goals try(cases h;done)
 case add=>
  simp only[aw.aY]at h;split at h
  .rename_i ai
   cases h;refine⟨rfl,_,?_,a?.Tq phx H B (bv x y)⟩;have ac:¬((x.length+y.length:Nat):Int) > IntKind.i64.max:=by have nf:((x.length:Int)+(y.length:Int))<=140737488355328:=of_decide_eq_true ai;simp;omega
   have O:(⟨x.toArray⟩:ByteArray).size=x.length:=rfl;have R:(⟨y.toArray⟩:ByteArray).size=y.length:=rfl;simp only[binOp,Op.stringOp,O,R,if_neg ac];rfl
  cases h
 case eql=>cases h;exact⟨rfl,_,by simp[binOp,Op.stringOp,hl,seq],Y _⟩
 case neq=>cases h;exact⟨rfl,_,by simp[binOp,Op.stringOp,hl,seq,a_],Y _⟩
 case lss=>cases h;exact⟨rfl,_,by simp[binOp,Op.stringOp,hl,seq,wQ],Y _⟩
 case leq=>cases h;exact⟨rfl,_,by simp[binOp,Op.stringOp,hl,seq,wQ,l2],Y _⟩
 case gtr=>cases h;exact⟨rfl,_,by simp[binOp,Op.stringOp,hl,seq,wQ,l2,a_],Y _⟩
 case geq=>cases h;exact⟨rfl,_,by simp[binOp,Op.stringOp,hl,seq,wQ,l2,a_],Y _⟩
end Yp
namespace Yp
open Go
def u2{a b:ae}{x:a.aD}{y:b.aD}(h:ae.cast a b x=some y):∃e:a=b,e▸x=y:=by
 unfold ae.cast at h
 grind
def jg{a b:ae}{x:List a.aD}{y:List b.aD}(h:ae.kK a b x=some y):∃e:a=b,e▸x=y:=by
 unfold ae.kK at h
 grind
def eD{a b:ae}(h:ae.is a b=true):a=b:=by
 unfold ae.is at h;cases ac:ae.same a b with
 |none=>rw[ac]at h;cases h
 |some e=>exact e.down
section
variable {phx:cc} {H:cg} {B:Nat->aQ}
def ack{f:Nat}:∀{l:List Nat} {n m:Nat},G? f l n=some m->∃j,m=j+n/\l[j]?=some f
 |a::l,n,m,h=>by
  simp only[G?]at h;cases Y:Nat.beq a f with
  |true=>rw[Y]at h;cases h;exact⟨0,J,by rw[fy Y];rfl⟩
  |false =>rw[Y]at h;obtain⟨j,O,R⟩:=ack h;exact⟨j+1,J,by simpa using R⟩
def YI{dQ:Nat}{cW:List il}{t:ae}{x:t.aD}{v:Value}(h:Qu f cW t=some x)(ah:bM phx H B (.clo f dQ cW) v):aH H t x [v]/\t.isAgg=false:=by
 cases t<;>try(cases h;done)
 rename_i l;cases cW with
 |cons c r=>cases h
 |nil =>obtain⟨vs,O,rfl⟩:=ah;have O:vs=[]:=O;subst O;obtain⟨j,R,af⟩:=ack (show G? f l 1=some x from h);refine⟨aH.F8.2 ?_,rfl⟩;have R:x=j+1:=R;subst R;simp only[List.take_nil,List.drop_nil,sg,af]
def rJ:∀{pv:au} {t:ae} {x:t.aD} {cs:List Value},s5 pv t=some x->e2 phx H B pv t cs->aH H t x cs:=by
 intro pv;induction pv with
 |sc t' y =>intro t x cs h ah;obtain⟨e,rfl⟩:=u2 h;obtain⟨bC,ah⟩:=ah;exact ah
 |kb b=>
  intro t x cs h ah;cases t<;>try(cases h;done)
  obtain⟨_,v,rfl,_,af⟩:=ah;cases h;simp only[bM]at af;rw[af];exact aH.nP.2 rfl
 |nil=>
  intro t x cs h ah;cases t<;>try(cases h;done)
  obtain⟨_,v,rfl,_,af⟩:=ah;cases h;simp only[bM]at af;rw[af];exact aH.ic.2 ⟨none,0,rfl,bU _,by unfold maxLen;omega,.inl rfl⟩
 |csl e l=>
  intro t x cs h ah;cases t<;>try(cases h;done)
  obtain⟨_,v,rfl,_,af⟩:=ah;obtain⟨bC,rfl⟩:=jg h;subst bC;obtain⟨a,_,aq⟩:=af;exact aq
 |two u v aL aC=>
  intro t x cs h ah;cases t<;>try(cases h;done)
  rename_i a b;obtain⟨c1,c2,rfl,O,R⟩:=ah;have bL:ahl (s5 u a) (s5 v b)=some x:=h;cases hy:s5 u a with
  |none=>rw[hy]at bL;cases bL
  |some y=>
   cases bj:s5 v b with
   |none=>rw[hy,bj]at bL;cases bL
   |some z =>rw[hy,bj]at bL;cases bL;exact aH.mh.2 ⟨c1,c2,rfl,aL hy O,aC bj R⟩
 |agg t' u _=>intro t x cs h ah;exact ah.elim
 |clo f dQ cW =>intro t x cs h ah;obtain⟨_,v,rfl,_,af⟩:=ah;exact(YI h af).1
 |_=>intro t x cs h;cases h
def e2.ar2{u v:au}{t:ae}{cs:List Value}(h:e2 phx H B (.two u v) t cs):t.isAgg=true:=by cases t<;>first|rfl|exact h.elim
def nA{pv:au}{t:ae}{x:t.aD}{v:Value}(h:ie t pv=some x)(ah:a? phx H B pv v):a? phx H B (.sc t x) v:=by
 unfold ie at h;cases pv<;>try(cases h;done)
 case kb b=>
  cases t<;>try(cases h;done)
  cases h;simp only[a?,dZ,bM]at ah;rw[ah];exact a?.ud _ _ _ _
 case sc t' y =>obtain⟨e,rfl⟩:=u2 h;subst e;exact ah
 case nil=>
  cases t<;>try(cases h;done)
  cases h;simp only[a?,dZ,bM]at ah;rw[ah];exact⟨[_],aH.ic.2 ⟨none,0,rfl,bU _,by unfold maxLen;omega,.inl rfl⟩,rfl⟩
 case csl e l=>
  cases t<;>try(cases h;done)
  obtain⟨bC,rfl⟩:=jg h;subst bC;obtain⟨a,af,aq⟩:=ah;exact⟨[v],aq,rfl⟩
 case two u w=>exact ah.elim
 case clo f dQ cW =>obtain⟨O,R⟩:=YI h ah;exact⟨[v],O,by simp[cv,R]⟩
 case agg t' u=>
  have bL:(bif ae.is t' t then s5 u t else none)=some x:=h;cases hi:ae.is t' t with
  |false=>rw[hi]at bL;cases bL
  |true =>rw[hi]at bL;have h:s5 u t=some x:=bL;have e:=eD hi;subst e;obtain⟨bu,cs,O,R⟩:=ah;exact⟨cs,rJ h O,by rw[R,cv,if_pos bu]⟩
end
end Yp
namespace Yp
open Go
def iq:=@Nat.mul_le_mul_right
def mt:=@List.getElem?_eq_some_iff
def jv:=@Nat.add_assoc
def wC:=@List.getElem?_eq_none
def ER:=@List.getElem?_take
def y2:=@Nat.lt_or_ge
def full(w:World):cg:=λb=>w.heap[b]?
def rO(w:World)(M:Nat->Prop):(view w M).cb (full w):=λ_ _ h=>(js.1 h).2
def k_{l:List α}(h:off+n<=l.length):(cut l off n).length=n:=by simp[cut];omega
def FM{l:List α}(h:i<n):hO (cut l off n) i=hO l (off+i):=by simp[hO,cut,ER,h]
def Ci(l:List α):cut l 0 l.length=l:=by simp[cut]
def T0{phx:cc}{H:cg}{id:Nat}{e:ae}{l:List e.aD}{v:Value}(ah:hu phx id e off n v)(bY:off+n<=l.length)
  (Y:(phx id=none/\l.length=0)\/∃b o c el fz,phx id=some (b,o,c.size)/\H b=some (.cells c el fz)/\e3 H e l c o):aH H (.sl e) (cut l off n) [v]:=by
 refine aH.ic.2 ?_;rw[k_ bY];rcases ah with⟨O,a,R⟩|⟨b,o,m,cap,O,R,af,aq,a8⟩
 .subst O R
  exact⟨a,0,rfl,bU _,by unfold maxLen;omega,.inl (by simp[cut])⟩
 refine⟨_,cap,by rw[R],af,aq,?_⟩;rcases Y with⟨g1,bw⟩|⟨b',di,c,el,fz,g1,bw,cX⟩
 .rw[O]at g1;cases g1
 rw[O]at g1;cases g1;refine .inr ⟨b,o+off*e.size,c,el,fz,rfl,bw,?_,λi x hi => ?_⟩
 .have:(off+n)*e.size<=(off+cap)*e.size:=iq _ J
  rw[fH]at this;have cT:=a8;omega
 have fA:i<n:=by
  rcases y2 i n with h|h
  .exact h
  have:(cut l off n).length<=i:=by rw[k_ bY];exact h
  simp only[hO,wC this]at hi;cases hi
 rw[FM fA]at hi;have:=cX.2 (off+i) x hi;rw[fH,<- jv]at this;exact this
def T1{phx:cc}{H:cg}{id:Nat}{e:ae}{l:List e.aD}{v:Value}(ah:hu phx id e 0 l.length v)
  (Y:(phx id=none/\l.length=0)\/∃b o c el fz,phx id=some (b,o,c.size)/\H b=some (.cells c el fz)/\e3 H e l c o):aH H (.sl e) l [v]:=by
 have:=T0 ah J Y
 rwa [Ci]at this
section
variable {K:Kp} {w0 w:World} {phx:cc} {M:Nat->Prop} {B B':Nat->aQ} {g:Nat->au}
def adF{e:ae}{l:List e.aD}(h:lC phx M w (view w M) B i (.ob e l)):(phx i=none/\l.length=0)\/∃b o c el fz,phx i=some (b,o,c.size)/\full w b=some (.cells c el fz)/\e3 (full w) e l c o:=by
 rcases h.2 with h|⟨b,o,c,el,fz,O,R,af,_⟩
 .grind
 exact .inr ⟨b,o,c,el,fz,O,R,af.mono (rO w M)⟩
def afc{id:Nat}{e:ae}{x:List e.aD}(h:(sW eJ id e).aY g B=some (x,B'))(hm:Mem K w0 phx M B w):
  ∃ay,Mem K w0 phx ay B' w/\cm phx M B w phx ay B' w/\nL phx M B ay B'/\(B id=.ob e x\/B id=.fz e x) /\
   ((phx id=none/\x.length=0)\/∃b o c el fz,phx id=some (b,o,c.size)/\full w b=some (.cells c el fz)/\e3 (full w) e x c o) /\
   (eJ=true->(phx id=none/\x.length=0)\/∃b o c el fz,phx id=some (b,o,c.size)/\view w ay b=some (.cells c el fz)/\e3 (view w ay) e x c o):=by
 simp only[sW,aw.aY]at h;have Y:=hm.blks id;cases aB:B id with
 |ob bC l=>
  rw[aB]at h Y;obtain⟨y,cS,O,R⟩:=aw.cA h;obtain⟨ai,rfl⟩:=dE O;obtain⟨fm,rfl⟩:=jg ai;subst fm;cases eJ with
  |false =>cases R;exact⟨M,hm,cm.refl _ _ _ _,nL.refl _ _ _,.inl rfl,adF Y,λh=>by cases h⟩
  |true =>obtain⟨ay,h?,jC,vA⟩:=hm.freeze aB;cases R;have kz:=h?.blks id;rw[eM]at kz;exact⟨ay,h?,jC,vA,.inl rfl,adF Y,λ_=>kz.2⟩
 |fz bC l=>
  rw[aB]at h Y;obtain⟨ai,rfl⟩:=dE h;obtain⟨fm,rfl⟩:=jg ai;subst fm;refine⟨M,hm,cm.refl _ _ _ _,nL.refl _ _ _,.inr rfl,?_,λ_=>Y.2⟩;rcases Y.2 with h|⟨b,o,c,el,fz,O,R,af⟩
  .grind
  exact .inr ⟨b,o,c,el,fz,O,rO w M _ _ R,af.mono (rO w M)⟩
 |new=>rw[aB]at h;cases h
 |e9=>rw[aB]at h;cases h
 |box t v=>rw[aB]at h;cases h
 |it s p=>rw[aB]at h;cases h
 |mp kt vt l=>rw[aB]at h;cases h
def J3{H:cg}{e:ae}{l:List e.aD}{c:Array Value}(h:aH H (.ar n e) l (cH c o (n*e.size)))(aj:o+n*e.size<=c.size):l.length=n/\e3 H e l c o:=by
 obtain⟨O,_,af⟩:=aH.B4.1 h;refine⟨O,by rw[O];exact aj,λi x hi => ?_⟩;have bm:i<l.length:=(mt.1 hi).1;have:=af i x hi;have hm:=iq e.size (show i+1<=n by omega);rw[fH,Nat.one_mul]at hm
 rwa [D5 _ _ _ _ _ hm]at this
def Mem.anP(h:Mem K w0 phx M B w){id:Nat}{e:ae}{v:au}{l:List e.aD}(Y:B id=.box (.ar n e) v)(hl:ie (.ar n e) v=some l)(dB:0<e.size):
  ∃ay,Mem K w0 phx ay (cV B id (.fz e l)) w/\cm phx M B w phx ay (cV B id (.fz e l)) w/\nL phx M B ay (cV B id (.fz e l)):=by
 have ah:=h.blks id;rw[Y]at ah;obtain⟨eh,sM,c0,r',si,g1,bw,cX,gd,kw,sj⟩:=ah;obtain⟨cr,d9⟩:=J3 (rJ hl gd) cX;refine⟨λb=>M b/\∀x,phx id=some x->b≠x.1,?_⟩;have aC:(view w M).cb (view w λb=>M b/\∀x,phx id=some x->b≠x.1):=yu λb o dS aK=>⟨λai=>dS ai.1,aK⟩;have aA:cm phx M B w phx (λb=>M b/\∀x,phx id=some x->b≠x.1) (cV B id (.fz e l)) w:=⟨λ_ _=>rfl,aC,λj=>by
  by_cases an:j=id
  .subst an;rw[eM,Y];exact⟨by rw[cr],dB⟩
  rw[d6 _ _ an];exact aQ.cb.refl _⟩
 refine⟨{ h with hid:=λb ap=>⟨λhm=>(h.hid b ap).1 hm.1,λhx=>⟨(h.hid b ap).2 hx,λx mO e=>h.own id (by rw[Y];rfl) x mO (e▸ap)⟩⟩,mlt:=λb hm=>h.mlt b hm.1,own:=λj an => ?_,blks:=λj => ?_,sep:=λi j i3 hi an => ?_ },aA,
  λb Y aj => ?_,λj an => ?_⟩
 .by_cases O:j=id
  .subst O;rw[eM]at an;cases an
  rw[d6 _ _ O]at an;exact h.own j an
 .by_cases an:j=id
  .subst an;rw[eM]
   exact⟨dB,.inr ⟨eh,sM,c0,r',si,g1,js.2 ⟨λai=>ai.2 _ g1 rfl,bw⟩,d9.mono aC⟩⟩
  rw[d6 _ _ an];refine(h.blks j).congr rfl aA.pl aA.vw aA.bl (λ_ _ _=>rfl) λx hx hm dS=>⟨dS,λy hy => ?_⟩;exact h.sep j id an hm (by rw[Y];rfl) x y hx hy
 .by_cases O:i=id
  .subst O;rw[eM]at hi;cases hi
  by_cases R:j=id
  .subst R;rw[eM]at an;cases an
  rw[d6 _ _ O]at hi;rw[d6 _ _ R]at an;exact h.sep i j i3 hi an
 .refine k2 λai=>aj ⟨Y,λx hx e=>ai ⟨id,by rw[‹B id=_›];rfl,x,hx,e.symm⟩⟩
 by_cases O:j=id
 .subst O;rw[eM]at an;cases an
 rw[d6 _ _ O]at an;exact an
def OV(B:Nat->aQ)(id:Nat)(e:ae)(x:List e.aD):Prop:=
 B id=.ob e x\/B id=.fz e x\/∃v,B id=.box (.ar x.length e) v
def awq{id:Nat}{e:ae}{x:List e.aD}(h:(AY eJ id e).aY g B=some (x,B'))(hm:Mem K w0 phx M B w):
  ∃ay,Mem K w0 phx ay B' w/\cm phx M B w phx ay B' w/\nL phx M B ay B'/\OV B id e x /\
   ((phx id=none/\x.length=0)\/∃b o c el fz,phx id=some (b,o,c.size)/\full w b=some (.cells c el fz)/\e3 (full w) e x c o) /\
   (eJ=true->(phx id=none/\x.length=0)\/∃b o c el fz,phx id=some (b,o,c.size)/\view w ay b=some (.cells c el fz)/\e3 (view w ay) e x c o):=by
 cases aB:B id with
 |box t v=>
  simp only[AY,aw.aY]at h;have Y:=hm.blks id;rw[aB]at h Y;cases t<;>try(cases h)
  rename_i n bC;obtain⟨l,cS,O,R⟩:=aw.cA h;obtain⟨hl,rfl⟩:=dE O;obtain⟨y,b4,af,aq⟩:=aw.cA R;obtain⟨ai,rfl⟩:=dE af;obtain⟨fm,rfl⟩:=jg ai;subst fm;have hp:Nat.blt 0 bC.size=true:=by
   cases a2:Nat.blt 0 bC.size with
   |true=>rfl
   |false=>rw[a2]at aq;cases aq
  have h:=aq;rw[hp]at h;have dB:=by simpa using hp
  obtain⟨eh,sM,c0,r',si,g1,bw,cX,gd,kw,sj⟩:=Y;obtain⟨cr,d9⟩:=J3 (rJ hl gd) cX;have hf:∃b o c el fz,phx id=some (b,o,c.size)/\full w b=some (.cells c el fz)/\e3 (full w) bC l c o:=⟨eh,sM,c0,r',si,g1,bw,d9.mono (rO w M)⟩;cases eJ with
  |false =>cases h;exact⟨M,hm,cm.refl _ _ _ _,nL.refl _ _ _,.inr (.inr ⟨v,by rw[cr];exact aB⟩),.inr hf,λh=>by cases h⟩
  |true =>obtain⟨ay,h?,jC,vA⟩:=hm.anP aB hl dB;cases h;have kz:=h?.blks id;rw[eM]at kz;exact⟨ay,h?,jC,vA,.inr (.inr ⟨v,by rw[cr];exact aB⟩),.inr hf,λ_=>kz.2⟩
 |_=>
  have bL:(sW eJ id e).aY g B=some (x,B'):=by
   simp only[AY,aw.aY]at h;simp only[sW,aw.aY]
   grind
  obtain⟨ay,O,R,af,aq,a8⟩:=afc bL hm;exact⟨ay,O,R,af,aq.elim .inl λh=>.inr (.inl h),a8⟩
def cm.b8{phx':cc}{ay:Nat->Prop}{w':World}(h:cm phx M B w phx' ay B' w'){pv:au}{t:ae}{cs:List Value}(hp:e2 phx (view w M) B pv t cs):e2 phx' (view w' ay) B' pv t cs:=
 hp.mono h.pl h.vw h.bl
def p?(K:Kp)(w0 w:World)(phx:cc)(M:Nat->Prop)(B B':Nat->aQ)(eJ:Bool)(t:ae)(x:t.aD)(cs:List Value):Prop:=
 ∃ay,Mem K w0 phx ay B' w/\cm phx M B w phx ay B' w/\nL phx M B ay B'/\aH (full w) t x cs/\(eJ=true->aH (view w ay) t x cs)
def p?.plain(hm:Mem K w0 phx M B w){t:ae}{x:t.aD}{cs:List Value}(h:aH (view w M) t x cs):p? K w0 w phx M B B eJ t x cs:=
 ⟨M,hm,cm.refl _ _ _ _,nL.refl _ _ _,h.mono (rO w M),λ_=>h⟩
def auq{e:ae}{x:List e.aD}{id:Nat}{H:cg}{v:Value}(Y:B id=.ob e x\/B id=.fz e x)(h:bM phx H B (.own id d') v):hu phx id e 0 x.length v:=by rcases Y with Y|Y<;>simp only[bM,Y]at h<;>exact h.1
def aec{e:ae}{x:List e.aD}{id:Nat}{H:cg}{v:Value}(Y:OV B id e x)(h:bM phx H B (.osl id off n) v):off+n<=x.length/\hu phx id e off n v:=by
 rcases Y with Y|Y|⟨u,Y⟩<;>simp only[bM,Y]at h
 .grind
 .exact h
 exact h.2
def aej{id:Nat}{t:ae}{x:t.aD}{v:Value}(h:(aeg eJ id t).aY g B=some (x,B'))(hm:Mem K w0 phx M B w)(ah:bM phx (view w M) B (.own id d') v):
  p? K w0 w phx M B B' eJ t x [v]:=by
 cases t<;>try(cases h)
 obtain⟨ay,O,R,ht,af,aq,a8⟩:=afc h hm;have aK:=auq af ah;exact⟨ay,O,R,ht,T1 aK aq,λhf=>T1 aK (a8 hf)⟩
def aeb{id:Nat}{t:ae}{x:t.aD}{v:Value}(h:(aea eJ id off n t).aY g B=some (x,B'))(hm:Mem K w0 phx M B w)(ah:bM phx (view w M) B (.osl id off n) v):
  p? K w0 w phx M B B' eJ t x [v]:=by
 cases t<;>try(cases h)
 obtain⟨y,cS,hy,h⟩:=aw.cA h;cases h;obtain⟨ay,O,R,ht,af,aq,a8⟩:=awq hy hm;have aK:=aec af ah;exact⟨ay,O,R,ht,T0 aK.2 aK.1 aq,λhf=>T0 aK.2 aK.1 (a8 hf)⟩
def I4:∀{pv:au} {B B':Nat->aQ} {M:Nat->Prop} {t:ae} {x:t.aD} {cs:List Value},(yl eJ pv t).aY g B=some (x,B')->Mem K w0 phx M B w->e2 phx (view w M) B pv t cs ->
  p? K w0 w phx M B B' eJ t x cs:=by
 intro pv;induction pv with
 |own id d' =>intro B B' M t x cs h hm ah;obtain⟨_,v,rfl,_,af⟩:=ah;exact aej h hm af
 |osl id off n =>intro B B' M t x cs h hm ah;obtain⟨_,v,rfl,_,af⟩:=ah;exact aeb h hm af
 |two u v aL aC=>
  intro B B' M t x cs h hm ah;cases t<;>try(cases h)
  obtain⟨c1,c2,rfl,eG,gr⟩:=ah;obtain⟨y,cS,hy,h⟩:=aw.cA h;obtain⟨z,b4,bj,h⟩:=aw.cA h;cases h;obtain⟨fr,bD,e1,dT,f1,rM⟩:=aL hy hm eG;obtain⟨c8,cn,aN,ev,f2,ys⟩:=aC bj bD (e1.b8 gr);exact⟨c8,cn,e1.trans aN,dT.trans ev,aH.mh.2 ⟨c1,c2,rfl,f1,f2⟩,λhf=>aH.mh.2 ⟨c1,c2,rfl,(rM hf).mono aN.vw,ys hf⟩⟩
 |sc t' y =>intro B B' M t x cs h hm ah;obtain⟨ai,rfl⟩:=dE h;exact p?.plain hm (rJ (pv:=.sc t' y) ai ah)
 |kb b =>intro B B' M t x cs h hm ah;obtain⟨ai,rfl⟩:=dE h;exact p?.plain hm (rJ (pv:=.kb b) ai ah)
 |nil =>intro B B' M t x cs h hm ah;obtain⟨ai,rfl⟩:=dE h;exact p?.plain hm (rJ (pv:=.nil) ai ah)
 |csl e l =>intro B B' M t x cs h hm ah;obtain⟨ai,rfl⟩:=dE h;exact p?.plain hm (rJ (pv:=.csl e l) ai ah)
 |clo f dQ cW =>intro B B' M t x cs h hm ah;obtain⟨ai,rfl⟩:=dE h;exact p?.plain hm (rJ (pv:=.clo f dQ cW) ai ah)
 |agg t' u _=>intro B B' M t x cs h hm ah;exact ah.elim
 |_=>intro B B' M t x cs h;cases h
def ym{pv:au}{t:ae}{x:t.aD}{v:Value}(h:(lT eJ t pv).aY g B=some (x,B'))(hm:Mem K w0 phx M B w)(ah:a? phx (view w M) B pv v):
  ∃cs,v=cv t cs/\p? K w0 w phx M B B' eJ t x cs:=by
 have plain:∀{t:ae} {x:t.aD},a? phx (view w M) B (.sc t x) v->∃cs,v=cv t cs/\p? K w0 w phx M B B eJ t x cs:=λ⟨cs,O,R⟩=>⟨cs,R,p?.plain hm O⟩;cases pv<;>try(cases h)
 case own id d'=>
  have hg:=aej h hm ah;cases t<;>try(cases h)
  exact⟨[v],rfl,hg⟩
 case osl id off n=>
  have hg:=aeb h hm ah;cases t<;>try(cases h)
  exact⟨[v],rfl,hg⟩
 case two u w=>exact ah.elim
 case sc t' y =>obtain⟨ai,rfl⟩:=dE h;exact plain (nA (pv:=.sc t' y) ai ah)
 case kb b =>obtain⟨ai,rfl⟩:=dE h;exact plain (nA (pv:=.kb b) ai ah)
 case nil =>obtain⟨ai,rfl⟩:=dE h;exact plain (nA (pv:=.nil) ai ah)
 case csl e l =>obtain⟨ai,rfl⟩:=dE h;exact plain (nA (pv:=.csl e l) ai ah)
 case clo f dQ cW =>obtain⟨ai,rfl⟩:=dE h;exact plain (nA (pv:=.clo f dQ cW) ai ah)
 case agg t' u=>
  have bL:(bif ae.is t' t then yl eJ u t else .fail:aw t.aD).aY g B=some (x,B'):=h;cases hi:ae.is t' t with
  |false=>rw[hi]at bL;cases bL
  |true =>rw[hi]at bL;have e:=eD hi;subst e;obtain⟨bu,cs,O,R⟩:=ah;exact⟨cs,by rw[R,cv,if_pos bu],I4 bL hm O⟩
end
end Yp
namespace Yp
open Go
def E3:=@Option.map_some
variable {P:Program}
def aye{op:UnOp}{p:au}{g:Nat->au}{B B':Nat->aQ}{v:au}(h:(VR op p).aY g B=some (v,B')){x:Value}{phx:cc}{H:cg}(hx:a? phx H B p x)(w:World):
  B'=B/\∃cY,(Op.unary op x).run P w=.ok cY w/\a? phx H B v cY:=by
 have rf:=λk n=>by
  have:=a?.sI phx H B k (bH.of k n)
  rwa [bH.NX]at this
 unfold VR at h;split at h
 .rename_i b
  cases h;subst hx;exact⟨rfl,_,rfl,rfl⟩
 .rename_i b
  cases h;rw[hx.bool];exact⟨rfl,_,rfl,a?.ud _ _ _ _⟩
 .rename_i k n
  cases h;rw[hx.int];exact⟨rfl,_,by rfl,by simpa[bi]using rf k (0-bH.to k n)⟩
 .rename_i k n
  cases h;rw[hx.int];exact⟨rfl,_,by cases k<;>rfl,rf k _⟩
 cases h
def am4{p:au}{g:Nat->au}{B B':Nat->aQ}{v:au}(h:(F1 p i).aY g B=some (v,B')){x:Value}{phx:cc}{H:cg}(hx:a? phx H B p x)(w:World):
  B'=B/\∃cY,(Instr.extract x i).run P w=.ok cY w/\dZ phx H B v cY:=by
 unfold F1 at h;split at h
 .rename_i a
  obtain⟨h,aB⟩:=dE h;obtain⟨vs,hl,rfl⟩:=hx;refine⟨aB,?_⟩;have key:∀(i:Nat) (a:au) (vs:List Value),iN a (gb i)=some v->lD phx H B a vs->∃cY,vs[i]?=some cY/\dZ phx H B v cY:=by
   intro i;induction i with
   |zero=>
    intro a vs h hl;cases a<;>simp only[gb]at h<;>try(cases h;done)
    .rename_i t y
     cases t<;>(try simp at h)<;>try(cases h)
     exact hl.elim
    obtain⟨u,us,rfl,O,R⟩:=hl;cases h
    grind
   |succ i ih=>
    intro a vs h hl;cases a<;>simp only[gb]at h<;>try(cases h)
    .rename_i t y
     cases t<;>(try simp at h)<;>try(cases h)
     exact hl.elim
    obtain⟨u,us,rfl,O,R⟩:=hl;obtain⟨cY,af,aq⟩:=ih _ _ h R
    grind
  obtain⟨cY,O,R⟩:=key i a vs h hl;refine⟨cY,?_,R⟩;simp[Instr.extract,O]
 cases h
def auQ{c a b:au}{g:Nat->au}{B B':Nat->aQ}{v:au}(h:(T' c a b).aY g B=some (v,B')){x y z:Value}{phx:cc}{H:cg}
  (ai:a? phx H B c x) (bu:a? phx H B a y) (Y:a? phx H B b z) (w:World) :
  B'=B/\∃cY,(do pure (Next.value (if <- asBool x then y else z)):Sem Next).run P w=.ok (.value cY) w/\a? phx H B v cY:=by
 have gm:∀(t:ae) (c:Bool) (p q:t.aD),a? phx H B (.sc t p) y->a? phx H B (.sc t q) z->x=.bool c ->
   ∃cY,(do pure (Next.value (if <- asBool x then y else z)):Sem Next).run P w=.ok (.value cY) w/\a? phx H B (.sc t (T c p q)) cY:=by
  intro t c p q O R af;subst af;cases c with
  |true=>exact⟨y,rfl,O⟩
  |false=>exact⟨z,rfl,R⟩
 unfold T' at h;split at h
 .rename_i c
  cases h;subst ai;cases c with
  |true=>exact⟨rfl,y,rfl,bu⟩
  |false=>exact⟨rfl,z,rfl,Y⟩
 .rename_i c
  split at h
  .rename_i t p
   split at h
   .rename_i q a2
    cases h;exact⟨rfl,gm t c p q bu (nA a2 Y) ai.bool⟩
   cases h
  .rename_i p
   split at h
   .rename_i q a2
    cases h;refine⟨rfl,gm .bool c p q ?_ (nA a2 Y) ai.bool⟩;rw[bu];exact a?.ud _ _ _ _
   cases h
  cases h
 cases h
def z2{i n:Int}:aU i n=true↔0<=i/\i<n:=by simp[aU]
def arV{i:Int}{g:Nat->au}{B B':Nat->aQ}{v:au}(h:(Hb .str (.sc .str l) i).aY g B=some (v,B')){tid:TypeId}(aL:P.underlying tid=some .string)(k:IntKind)
  {phx:cc} {H:cg} (w:World):B'=B/\∃cY,(Instr.index tid (.string ⟨l.toArray⟩) (.int k i)).run P w=.ok cY w/\a? phx H B v cY:=by
 simp only[Hb,aw.aY]at h;split at h
 .rename_i ai
  cases h;obtain⟨ao,O⟩:=z2.1 ai;have bm:i.toNat<l.length:=by unfold len at O;omega
  have ac:=bm;have hg:(⟨l.toArray⟩:ByteArray)[i.toNat]?=some l[i.toNat]:=by rw[getElem?_pos (⟨l.toArray⟩:ByteArray) i.toNat ac];rfl
  refine⟨rfl,.int .u8 (l[i.toNat].toNat:Int),?_,?_⟩
  .simp[Instr.index,asIntOf,run_underlying aL,ao,hg]
  have e:ak l (aa i) (u8 0)=l[i.toNat]:=by simp[ak,aa,bm]
  show a? phx H B (.sc (.int .u8) (ak l (aa i) (u8 0):bH .u8)) _;rw[show(ak l (aa i) (u8 0):bH .u8)=l[i.toNat] from e];exact a?.sI phx H B .u8 l[i.toNat]
 cases h
def rk{lo hi n:Int}:ca lo hi n=true↔0<=lo/\lo<=hi/\hi<=n:=by simp[ca,and_assoc]
def UW{isSlice:Bool}{cap:Nat}{lo hi:Option Int}{ks kh:IntKind}(ld:n<=cap)(h:ca (bT lo 0) (bT hi n) n=true)(w:World):
  (Instr.sliceBounds isSlice n cap (lo.map λi=>.int ks i) (hi.map λi=>.int kh i) none).run P w=.ok ((bT lo 0).toNat,(bT hi n).toNat,cap) w:=by
 obtain⟨O,R,af⟩:=rk.1 h;cases lo with
 |none=>
  cases hi with
  |none=>simp[Instr.sliceBounds,bT]
  |some hi =>simp only[bT]at O R af ⊢;have g1:0<=hi/\hi<=(cap:Int):=⟨J,J⟩;simp[Instr.sliceBounds,Instr.sliceBound,asIntOf,g1]
 |some lo=>
  cases hi with
  |none =>simp only[bT]at O R af ⊢;have g1:0<=lo/\lo<=(n:Int):=⟨O,J⟩;simp[Instr.sliceBounds,Instr.sliceBound,asIntOf,g1]
  |some hi =>simp only[bT]at O R af ⊢;have g1:0<=hi/\hi<=(cap:Int):=⟨J,J⟩;have bw:0<=lo/\lo<=((hi.toNat:Nat):Int):=⟨O,J⟩;simp[Instr.sliceBounds,Instr.sliceBound,asIntOf,g1,bw];omega
def auj{o:Option Operand}{g:Nat->au}{B B':Nat->aQ}{r:Option Int}(h:(HX o).aY g B=some (r,B')){phx:cc}{H:cg}{a:Act}(ac:dw phx H B g a):
  B'=B/\∃k,o.map a.eval=r.map λi=>.int k i:=by
 cases o with
 |none=>cases h;exact⟨rfl,.i64,rfl⟩
 |some x=>
  obtain⟨v,cS,O,h⟩:=aw.cA h;obtain⟨aB,aC⟩:=xP O ac;obtain⟨n,b4,R,h⟩:=aw.cA h;cases h;cases v<;>try(cases R)
  rename_i t y;cases t<;>try(cases R;done)
  rename_i k;cases R;exact⟨aB,k,by simp only[E3,aC.int]⟩
def axo{lo hi:Option Int}{g:Nat->au}{B B':Nat->aQ}{v:au}(h:(wb .str (.sc .str l) lo hi none).aY g B=some (v,B')){tid:TypeId}(aL:P.underlying tid=some .string)
  (ks kh:IntKind) {phx:cc} {H:cg} (w:World) :
  B'=B/\∃cY,(Instr.sliceAt tid (.string ⟨l.toArray⟩) (lo.map λi=>.int ks i) (hi.map λi=>.int kh i) none).run P w=.ok cY w/\a? phx H B v cY:=by
 have h:(if ca (bT lo 0) (bT hi (len l)) (len l)=true then some (au.sc .str (sub l (bT lo 0) (bT hi (len l))),B) else none)=some (v,B'):=h;split at h
 .rename_i ai
  cases h;have Y:=UW (P:=P) (isSlice:=false) (ks:=ks) (kh:=kh) (bU l.length) ai w;have cQ:(⟨l.toArray⟩:ByteArray).size=l.length:=rfl;refine⟨rfl,.string ⟨(sub l (bT lo 0) (bT hi l.length)).toArray⟩,?_,a?.Tq _ _ _ _⟩;have aA:(⟨l.toArray⟩:ByteArray).extract (bT lo 0).toNat (bT hi l.length).toNat=⟨(sub l (bT lo 0) (bT hi l.length)).toArray⟩:=by apply ByteArray.ext;simp[sub,ByteArray.data_extract]
  simp[Instr.sliceAt,Instr.slice,run_underlying aL,cQ,Y,aA]
 cases h
end Yp
namespace Yp
open Go
def k4:=@Option.map_eq_some_iff
def nE:=@List.getD_eq_getElem?_getD
def yW:=@Array.getElem?_eq_getElem
variable {P:Program}
def MD{d:Option TypeDesc}(h:HW k d):(∃a b c,d=some (.func a b c))\/(∃a,d=some (.interface a))\/(∃a b,d=some (.map a b))\/∃a,d=some (.pointer a):=by
 unfold HW at h
 grind
def anu{t:ae}{tid:TypeId}(h:(cP P t).1 tid):∃d,P.underlying tid=some d:=by
 cases t with
 |bool=>exact⟨_,h.1⟩|int k=>exact⟨_,h.1⟩|str=>exact⟨_,h.1⟩
 |sl e=>obtain⟨⟨bc,h,_⟩,_⟩:=h;exact⟨_,h⟩
 |unit=>obtain⟨⟨bc,h,_⟩,_⟩:=h;exact⟨_,h⟩
 |pair a b=>obtain⟨⟨bc,h,_⟩,_⟩:=h;exact⟨_,h⟩
 |ar n e=>obtain⟨⟨bc,h,_⟩,_⟩:=h;exact⟨_,h⟩
 |op k=>rcases MD h.1 with⟨_,_,_,h⟩|⟨_,h⟩|⟨_,_,h⟩|⟨_,h⟩<;>exact⟨_,h⟩
 |fn l=>rcases MD h.1 with⟨_,_,_,h⟩|⟨_,h⟩|⟨_,_,h⟩|⟨_,h⟩<;>exact⟨_,h⟩
def awz{rG c7:TypeId}{k k':IntKind}{d:TypeDesc}(ac:P.underlying rG=some d)(aF:P.underlying c7=some (.int k))(n:Int)(w:World):
  (convert rG c7 (.int k' n)).run P w=.ok (.int k (k.wrap n)) w:=by
 unfold convert;simp[run_underlying ac,run_underlying aF];cases d<;>simp[Conv.intToInt]
def FE{w:World}{c:Array Value}{el:TypeId}{fz:Nat×Nat}(h:w.heap[b]?=some (.cells c el fz))(i:Nat):w.cell? ⟨b,i,none⟩=c[i]?:=by simp[World.cell?,h]
def qc(b o n:Nat):(⟨b,o,none⟩:Addr).add n=⟨b,o+n,none⟩:=by
 unfold Addr.add;split
 .simp
 rfl
def D1{w:World}{c:Array Value}{el:TypeId}{fz:Nat×Nat}(h:w.heap[b]?=some (.cells c el fz))(aj:o+n<=c.size):
  (loadCells ⟨b,o,none⟩ n).run P w=.ok (cH c o n).toArray w:=by
 have:=run_loadCells_list (P:=P) (w:=w) ⟨b,o,none⟩ (cH c o n) (λj v an=>by
  rw[qc,FE h];have bm:j<n:=by
   rcases y2 j n with h|h
   .exact h
   have:=pX aj;rw[wC J]at an;cases an
  rw[uz bm]at an;exact an)
 rwa [pX aj]at this
def Nf{t:ae}{tid:TypeId}(h:(cP P t).1 tid)(w:World):(isAgg tid).run P w=.ok t.isAgg w:=by
 unfold isAgg;cases t with
 |bool=>simp[run_underlying h.1,ae.isAgg]
 |int k=>simp[run_underlying h.1,ae.isAgg]
 |str=>simp[run_underlying h.1,ae.isAgg]
 |sl e=>obtain⟨⟨bc,h,_⟩,_⟩:=h;simp[run_underlying h,ae.isAgg]
 |unit=>obtain⟨⟨bc,h,_⟩,_⟩:=h;simp[run_underlying h,ae.isAgg]
 |pair a b=>obtain⟨⟨bc,h,_⟩,_⟩:=h;simp[run_underlying h,ae.isAgg]
 |ar n e=>obtain⟨⟨bc,h,_⟩,_⟩:=h;simp[run_underlying h,ae.isAgg]
 |op k=>rcases MD h.1 with⟨_,_,_,h⟩|⟨_,h⟩|⟨_,_,h⟩|⟨_,h⟩<;>simp[run_underlying h,ae.isAgg]
 |fn l=>rcases MD h.1 with⟨_,_,_,h⟩|⟨_,h⟩|⟨_,_,h⟩|⟨_,h⟩<;>simp[run_underlying h,ae.isAgg]
def afl{t:TypeId}{i:TypeInfo}(h:P.info? t=some i)(w:World):(typeInfo t).run P w=.ok i w:=by unfold typeInfo;simp[h]
def od{t:ae}{tid:TypeId}(h:(cP P t).1 tid)(w:World):(Go.sizeOf tid).run P w=.ok t.size w:=by obtain⟨i,O,R,_⟩:=nc h;unfold Go.sizeOf;simp[afl O,R]
def agr{t:ae}(h:t.isAgg=false):t.size=1:=by cases t<;>first|rfl|cases h
def awE{t:ae}{tid:TypeId}(h:(cP P t).1 tid){w:World}{c:Array Value}{el:TypeId}{fz:Nat×Nat}(Y:w.heap[b]?=some (.cells c el fz))(aj:o+t.size<=c.size):
  (loadVar tid ⟨b,o,none⟩).run P w=.ok (cv t (cH c o t.size)) w:=by
 unfold loadVar;cases bu:t.isAgg with
 |true=>simp[Nf h,bu,od h,D1 Y aj,cv]
 |false=>
  have O:=agr bu;have bm:o<c.size:=J;have ai:w.cell? ⟨b,o,none⟩=some c[o]:=by rw[FE Y];exact yW bm
  have ac:cH c o 1=[c[o]]:=by
   have hl:=pX (c:=c) (o:=o) (n:=1) J;have hg:=uz (c:=c) (o:=o) (n:=1) (i:=0) J;match aq3:cH c o 1,hl,hg with
   |[x],_,hg=>simp[bm]at hg;rw[hg]
  simp[Nf h,bu,load,Sem.run,ai,cv,O,ac]
def ant:∀(f:Nat) {t:ae} {l:List Field} {off d:Nat} {dV:ae},(cP P t).2 l off->t.d? (gb f)=some (d,dV) ->
  ∃fd,l[f]?=some fd/\fd.offset=off+d/\(cP P dV).1 fd.type:=by
 intro f;induction f with
 |zero=>
  intro t l off d dV h aK;cases t<;>try(cases aK)
  obtain⟨fd,r,rfl,O,R,af⟩:=h;simp only[gb,ae.d?]at aK
  grind
 |succ f ih=>
  intro t l off d dV h aK;cases t<;>try(cases aK)
  rename_i a b;obtain⟨fd,r,rfl,O,R,af⟩:=h;simp only[gb,ae.d?]at aK;cases Y:b.d? (gb f) with
  |none=>rw[Y]at aK;cases aK
  |some q=>
   grind
def ZY{t:ae}{tid:TypeId}{dV:ae}(h:(cP P t).1 tid)(aK:t.d? (gb f)=some (d,dV)):
  ∃e8 fd,P.underlying tid=some (.struct e8)/\e8[f]?=some fd/\fd.offset=d/\(cP P dV).1 fd.type:=by
 have hp:∃a b,t=.pair a b:=by cases f<;>cases t<;>simp only[gb]at aK<;>first|exact⟨_,_,rfl⟩|cases aK
 obtain⟨a,b,rfl⟩:=hp;obtain⟨⟨e8,aL,fd,r,O,R,af,aq⟩,_⟩:=h;have:(cP P (.pair a b)).2 e8.toList 0:=⟨fd,r,O,R,af,by simpa using aq⟩;obtain⟨aza,g1,bw,cX⟩:=ant f this aK
 grind
def UI{t:ae}{tid:TypeId}{dV:ae}(h:(cP P t).1 tid)(aK:t.d? (gb f)=some (d,dV))(ac:0<dV.size)(b o:Nat)(w:World):
  (Instr.fieldAt tid (.pointer (some ⟨b,o,none⟩)) f).run P w=.ok (.pointer (some ⟨b,o+d,none⟩)) w:=by
 obtain⟨e8,fd,O,R,af,aq⟩:=ZY h aK;have bj:=od aq w;have eC:dV.size≠0:=J;simp[Instr.fieldAt,run_underlying O,R,Instr.sureAddr,fieldPlace,bj,eC,af,qc]
def rq:∀{p:List mx} {t t':ae} {o:Nat},t.d? p=some (o,t')->t.at p=some t':=by
 intro p;induction p with
 |nil=>intro t t' o h;cases t<;>simp only[ae.d?]at h<;>(obtain⟨_,rfl⟩:=h;rfl)
 |cons s p ih=>
  intro t t' o h;cases s with
  |fst=>
   cases t<;>try(cases h)
   exact ih h
  |snd=>
   cases t<;>try(cases h)
   simp only[ae.d?,k4]at h;obtain⟨q,a2,aA⟩:=h;cases aA;exact ih a2
  |ix i=>
   cases t<;>try(cases h)
   simp only[ae.d?]at h;split at h
   .simp at h
    obtain⟨q,a2,aA⟩:=h;exact ih a2
   cases h
def DB:∀{p q:List mx} {t dT ev:ae} {li mf:Nat},t.d? p=some (li,dT)->dT.d? q=some (mf,ev)->t.d? (p++q)=some (li+mf,ev):=by
 intro p;induction p with
 |nil=>
  intro q t dT ev li mf h g;have:t=dT/\li=0:=by cases t<;>simp only[ae.d?,km,kH]at h<;>exact⟨h.2,h.1.symm⟩
  grind
 |cons s p ih=>
  intro q t dT ev li mf h g;cases s with
  |fst=>
   cases t<;>try(cases h)
   exact ih h g
  |snd=>
   cases t<;>try(cases h)
   simp only[ae.d?,k4]at h;obtain⟨r,ah,aA⟩:=h;cases aA;simp only[lA,ae.d?,ih ah g,E3,jv]
  |ix i=>
   cases t<;>try(cases h)
   simp only[ae.d?]at h;split at h
   .rename_i hi
    simp at h;obtain⟨r,ah,aA⟩:=h;cases aA;simp only[lA,ae.d?,if_pos hi,ih ah g,E3,jv]
   cases h
section
variable {phx:cc} {H:cg} {B:Nat->aQ}
def axQ(cs:List α)(n:Nat)(h:cs.length=n):(cs.drop 0).take n=cs:=by subst h;simp
def uh:∀{p:List mx} {t t':ae} {off:Nat},t.d? p=some (off,t')->off+t'.size<=t.size:=by
 intro p;induction p with
 |nil=>
  intro t t' off aK;have:t=t'/\off=0:=by cases t<;>simp only[ae.d?,km,kH]at aK<;>exact⟨aK.2,aK.1.symm⟩
  grind
 |cons s p ih=>
  intro t t' off aK;cases s with
  |fst=>
   cases t<;>try(cases aK)
   rename_i a b;have:=ih (t:=a) aK;simp only[ae.size];omega
  |snd=>
   cases t<;>try(cases aK)
   rename_i a b;simp only[ae.d?,k4]at aK;obtain⟨r,ah,aA⟩:=aK;cases aA;have:=ih (t:=b) (off:=r.1) (t':=r.2) ah;simp only[ae.size];omega
  |ix i=>
   cases t<;>try(cases aK)
   rename_i n e;simp only[ae.d?]at aK;split at aK
   .rename_i hi
    simp only[k4]at aK;obtain⟨r,ah,aA⟩:=aK;cases aA;have:=ih (t:=e) (off:=r.1) (t':=r.2) ah;have R:(i+1)*e.size<=n*e.size:=iq _ hi;rw[fH]at R;simp only[ae.size];omega
   cases aK
def QD(c1 c2:List α)(o n:Nat)(h:o+n<=c1.length):((c1++c2).drop o).take n=(c1.drop o).take n:=by grind
def QF(c1 c2:List α)(o n:Nat):((c1++c2).drop (c1.length+o)).take n=(c2.drop o).take n:=bh
def amh(cs:List α)(a m o n:Nat)(h:o+n<=m):((((cs.drop a).take m).drop o).take n)=(cs.drop (a+o)).take n:=by rw[List.drop_take,List.take_take,qX,Fe J]
def Ah{l:List α}{d:α}(h:i<l.length):hO l i=some (ak l i d):=by
 simp only[hO,ak,nE]
 grind
def Rv:∀{p:List mx} {pv u:au} {t t':ae} {off:Nat} {cs:List Value},e2 phx H B pv t cs->t.d? p=some (off,t')->iN pv p=some u ->
  e2 phx H B u t' ((cs.drop off).take t'.size):=by
 intro p;induction p with
 |nil=>
  intro pv u t t' off cs h aK hg;have:t=t'/\off=0:=by cases t<;>simp only[ae.d?,km,kH]at aK<;>exact⟨aK.2,aK.1.symm⟩
  obtain⟨rfl,rfl⟩:=this;have:u=pv:=by cases pv<;>simp only[iN,km]at hg<;>exact hg.symm
  subst this;rw[axQ cs _ h.length];exact h
 |cons s p ih=>
  intro pv u t t' off cs h aK hg;cases s with
  |fst=>
   cases t<;>try(cases aK)
   rename_i a b;have bY:=uh (t:=a) aK;cases pv<;>try(cases hg)
   .rename_i s x
    obtain⟨eL,hx⟩:=h;subst eL;obtain⟨c1,c2,rfl,O,R⟩:=aH.mh.1 hx;rw[QD _ _ _ _ (by rw[O.length];exact bY)];exact ih (pv:=.sc a x.1) (t:=a) ⟨rfl,O⟩ aK hg
   rename_i rM ys;obtain⟨c1,c2,rfl,O,R⟩:=h;rw[QD _ _ _ _ (by rw[O.length];exact bY)];exact ih O aK hg
  |snd=>
   cases t<;>try(cases aK)
   rename_i a b;simp only[ae.d?,k4]at aK;obtain⟨r,ah,aA⟩:=aK;cases aA;cases pv<;>try(cases hg)
   .rename_i s x
    obtain⟨eL,hx⟩:=h;subst eL;obtain⟨c1,c2,rfl,O,R⟩:=aH.mh.1 hx;rw[<- O.length,QF];exact ih (pv:=.sc b x.2) (t:=b) ⟨rfl,R⟩ ah hg
   rename_i rM ys;obtain⟨c1,c2,rfl,O,R⟩:=h;rw[<- O.length,QF];exact ih R ah hg
  |ix i=>
   cases t<;>try(cases aK)
   rename_i n e;simp only[ae.d?]at aK;split at aK
   .rename_i hi
    simp only[k4]at aK;obtain⟨r,ah,aA⟩:=aK;cases aA;have bY:=uh (t:=e) (off:=r.1) (t':=r.2) ah;cases pv<;>try(cases hg)
    rename_i s x;obtain⟨eL,hx⟩:=h;subst eL;obtain⟨O,R,af⟩:=aH.u0.1 hx;rw[<- amh cs (i*e.size) e.size r.1 r.2.size bY];refine ih (pv:=.sc e (ak (x:List e.aD) i e.zero)) (t:=e) ⟨rfl,?_⟩ ah hg;have bm:i<(x:List e.aD).length:=by have aq:(x:List e.aD).length=n:=O;omega
    refine af i _ ?_;exact Ah bm
   cases aK
end
end Yp
namespace Yp
open Go
variable {P:Program}
section
variable {K:Kp} {w0 w:World} {phx:cc} {M:Nat->Prop} {B B':Nat->aQ} {H:cg}
def Bz{pv:au}{t:ae}{cs:List Value}(h:e2 phx H B pv t cs):a? phx H B (p4 t pv) (cv t cs):=by
 cases pv with
 |two u v =>have bu:=h.ar2;refine⟨bu,cs,h,?_⟩;simp[cv,bu]
 |sc s x =>obtain⟨rfl,ai⟩:=h;exact⟨cs,ai,rfl⟩
 |agg t a=>exact h.elim
 |tup a=>exact h.elim
 |bad=>trivial
 |_=>
  obtain⟨bu,v,rfl,_,ah⟩:=h;have:cv t [v]=v:=by simp[cv,bu]
  rw[this];exact ah
def an8:∀{p:List mx} {s:ae} {x:s.aD} {u:au},iN (.sc s x) p=some u->∃cq wl,u=.sc cq wl:=by
 intro p;induction p with
 |nil=>intro s x u h;simp only[iN,km]at h;exact⟨s,x,h.symm⟩
 |cons q p ih=>
  intro s x u h;cases q<;>cases s<;>try(cases h)
  .exact ih h
  .exact ih h
  exact ih h
def ayT{p:List mx}{s t:ae}{x:s.aD}{u:au}(h:iN (.sc s x) p=some u):p4 t u=u:=by obtain⟨cq,wl,rfl⟩:=an8 h;rfl
def UF{e t:ae}{l:List e.aD}{p:List mx}{pv:au}{c:Array Value}(d9:e3 H e l c o)(hi:i<l.length)
  (aK:e.d? p=some (off,t)) (hg:iN (.sc e (ak l i e.zero)) p=some pv) :
  o+i*e.size+off+t.size<=c.size/\a? phx H B pv (cv t (cH c (o+i*e.size+off) t.size)):=by
 have bY:=uh aK;have O:(i+1)*e.size<=l.length*e.size:=iq _ hi;rw[fH]at O;have R:=d9.1;refine⟨J,?_⟩;have af:=d9.2 i _ (Ah (d:=e.zero) hi);have aq:=Rv (phx:=phx) (H:=H) (B:=B) (pv:=.sc e (ak l i e.zero)) (t:=e) ⟨rfl,af⟩ aK hg;rw[D5 _ _ _ _ _ bY]at aq;have a8:=Bz aq
 rwa [ayT hg]at a8
def acJ{t:ae}{tid:TypeId}(ht:(cP P t).1 tid){g:Nat->au}{a v:au}{ck:Value}(h:(xD t a).aY g B=some (v,B'))(hm:Mem K w0 phx M B w)
  (ah:a? phx (view w M) B a ck):B'=B/\∃r,(Instr.loadAt tid ck).run P w=.ok r w/\a? phx (view w M) B v r:=by
 have key:∀{b o:Nat} {c:Array Value} {el:TypeId} {fz:Nat×Nat} {q:Nat},w.heap[b]?=some (.cells c el fz)->q+t.size<=c.size ->
   (Instr.loadAt tid (.pointer (some ⟨b,q,none⟩))).run P w=.ok (cv t (cH c q t.size)) w:=by
  intro b o c el fz q Y a2;simp[Instr.loadAt,Instr.sureAddr,awE ht Y a2]
 cases a with
 |ptr id p=>
  simp only[xD,aw.aY]at h;have Y:=hm.blks id;have ac:bM phx (view w M) B (.ptr id p) ck:=ah;simp only[bM]at ac;generalize aB:B id=bl at h Y ac;cases bl<;>try(cases h)
  rename_i rt u;obtain⟨b,o,n,off,t',O,R,rfl⟩:=ac;obtain⟨b',di,c,el,fz,g1,bw,cX,gd,kw,sj⟩:=Y;rw[O]at g1;cases g1;simp only[rq R]at h;cases l9:iN u p with
  |none=>rw[l9]at h;cases h
  |some pv=>
   simp only[l9]at h;cases gH:ae.is t' t with
   |false=>rw[gH]at h;cases h
   |true =>rw[gH]at h;obtain⟨rfl,rfl⟩:=h;have:=eD gH;subst this;have bY:=uh R;refine⟨rfl,_,key (o:=0) bw J,?_⟩;have aq:=Rv gd R l9;rw[D5 _ _ _ _ _ bY]at aq;exact Bz aq
 |ipt e l i p=>
  have ac:=ah;obtain⟨hi,b,o,cap,off,t',O,R,rfl⟩:=ac;simp only[xD,rq R]at h;cases l9:iN (.sc e (ak l i e.zero)) p with
  |none=>rw[l9]at h;cases h
  |some pv=>
   simp only[l9]at h;cases gH:ae.is t' t with
   |false=>rw[gH]at h;cases h
   |true=>
    rw[gH]at h;obtain⟨rfl,rfl⟩:=h;have:=eD gH;subst this;obtain⟨a',cap',bG,b_,cp,dl⟩:=aH.ic.1 O;simp at bG;rcases dl with dl|⟨b',di,c,el,fz,dF,gp,lk,xS⟩
    .subst dl;cases hi
    rw[<- bG.1]at dF;cases dF;obtain⟨eG,gr⟩:=UF (phx:=phx) (B:=B) (H:=view w M) ⟨lk,xS⟩ hi R l9;exact⟨rfl,_,key (o:=0) (js.1 gp).2 eG,gr⟩
 |opt id i p=>
  simp only[xD,aw.aY]at h;have Y:=hm.blks id;have ac:bM phx (view w M) B (.opt id i p) ck:=ah;simp only[bM]at ac;generalize aB:B id=bl at h Y ac;cases bl<;>try(cases h)
  .rename_i e l
   obtain⟨hi,b,o,n,off,t',O,R,rfl⟩:=ac;rcases Y.2 with⟨g1,_⟩|⟨b',di,c,el,fz,g1,bw,cX,_⟩
   .rw[g1]at O;cases O
   rw[O]at g1;cases g1;simp only[rq R]at h;cases l9:iN (.sc e (ak l i e.zero)) p with
   |none=>rw[l9]at h;cases h
   |some pv=>
    simp only[l9]at h;cases gH:ae.is t' t with
    |false=>rw[gH]at h;cases h
    |true =>rw[gH]at h;obtain⟨rfl,rfl⟩:=h;have:=eD gH;subst this;obtain⟨eG,gr⟩:=UF (phx:=phx) (B:=B) (H:=view w M) cX hi R l9;exact⟨rfl,_,key (o:=0) bw eG,gr⟩
  rename_i e l;obtain⟨hi,b,o,n,off,t',O,R,rfl⟩:=ac;rcases Y.2 with⟨g1,_⟩|⟨b',di,c,el,fz,g1,bw,cX⟩
  .rw[g1]at O;cases O
  rw[O]at g1;cases g1;simp only[rq R]at h;cases l9:iN (.sc e (ak l i e.zero)) p with
  |none=>rw[l9]at h;cases h
  |some pv=>
   simp only[l9]at h;cases gH:ae.is t' t with
   |false=>rw[gH]at h;cases h
   |true =>rw[gH]at h;obtain⟨rfl,rfl⟩:=h;have:=eD gH;subst this;obtain⟨eG,gr⟩:=UF (phx:=phx) (B:=B) (H:=view w M) cX hi R l9;exact⟨rfl,_,key (o:=0) (js.1 bw).2 eG,gr⟩
 |_=>cases h
end
end Yp
namespace Yp
open Go
def hS:=@List.take_of_length_le
def ko:=@List.length_set
def tf:=@List.ext_getElem?
def BM:=@Nat.add_sub_cancel_left
def JV:=@Array.getElem?_modify
def E':=@List.getElem?_set
def JP:=@List.getElem?_drop
def O_:=@Nat.lt_or_gt_of_ne
variable {P:Program}
structure JK(w w':World)(b:Nat)(ob:Obj):Prop where
 os:w'.os=w.os
 tape:w'.tape=w.tape
 output:w'.output=w.output
 size:w'.heap.size=w.heap.size
 iQ:w'.heap[b]?=some ob
 other:∀j,j≠b->w'.heap[j]?=w.heap[j]?
def hC(cs:List Value)(o:Nat)(vs:List Value):List Value:=cs.take o++vs++cs.drop (o+vs.length)
def Eg{cs:List Value}{vs:List Value}(h:o+vs.length<=cs.length):(hC cs o vs).length=cs.length:=by simp[hC];omega
def yb{cs:List Value}{vs:List Value}(h:o+vs.length<=cs.length)(i:Nat):
  (hC cs o vs)[i]?=if i<o then cs[i]? else if i<o+vs.length then vs[i-o]? else cs[i]?:=by
 unfold hC
 grind
def Im{b:Nat}{el:TypeId}{fz:Nat×Nat}{o:Nat}:∀(vs:List Value) (i:Nat) (c:Array Value) (w:World),w.heap[b]?=some (.cells c el fz)->h4 c fz ->
  o+i+vs.length<=c.size->(∀v∈vs,v.oneCell'=true) ->
  ∃w',(storeCells ⟨b,o,none⟩ vs i).run P w=.ok () w'/\∃cL:Array Value,JK w w' b (.cells cL el fz)/\cL.toList=hC c.toList (o+i) vs
 |[],i,c,w,Y,_,_,_=>⟨w,rfl,c,⟨rfl,rfl,rfl,rfl,Y,λ_ _=>rfl⟩,by simp[hC]⟩
 |v::vs,i,c,w,Y,hf,aj,O=>by
  have bm:o+i<c.size:=by simp at aj;omega
  have hcell:w.cell? ⟨b,o+i,none⟩=some c[o+i]:=by rw[FE Y];exact yW bm
  have GD:=hf.no;have xo:w.frozen? ⟨b,o+i,none⟩=false:=by have:=GD (o+i) bm;simp only[World.frozen?,Y];simp;omega
  have nj:(w.setCell ⟨b,o+i,none⟩ v).heap[b]?=some (.cells (c.setIfInBounds (o+i) v) el fz):=by simp[World.setCell,JV,Y]
  have eL:(store ((⟨b,o,none⟩:Addr).add i) v).run P w=.ok () (w.setCell ⟨b,o+i,none⟩ v):=by rw[qc,run_store P w _ v _ (O v bh),hcell,xo];rfl
  obtain⟨w',R,cL,af,aq⟩:=Im (o:=o) vs (i+1) (c.setIfInBounds (o+i) v) (w.setCell ⟨b,o+i,none⟩ v) nj
   (hf.same bh) (by grind) (λu aL=>O u (by grind))
  refine⟨w',?_,cL,?_,?_⟩
  .unfold storeCells
   simp[eL,R]
  .refine⟨af.os,af.tape,af.output,af.size.trans bh,af.iQ,λj an=>(af.other j an).trans ?_⟩
   simp[World.setCell,JV,nI an]
  rw[aq];have kQ:=by simpa using aj
  apply tf;intro j;rw[yb (by grind),yb kQ]
  grind
def agE{c1 c2:List Value}{vs:List Value}(h:o+vs.length<=c1.length):hC (c1++c2) o vs=hC c1 o vs++c2:=by
 unfold hC
 grind
def agF{c1 c2:List Value}{vs:List Value}:hC (c1++c2) (c1.length+o) vs=c1++hC c2 o vs:=by unfold hC;rw[List.take_append,List.drop_append,hS J];simp[jv,BM]
def agD{cs vs:List Value}(h:vs.length=cs.length):hC cs 0 vs=vs:=by simp[hC,h]
def IM{cs vs:List Value}(h:o+vs.length<=cs.length)(aF:a+n<=o\/o+vs.length<=a):((hC cs o vs).drop a).take n=(cs.drop a).take n:=by
 apply tf;intro j;simp only[ER,JP];split
 .rename_i an
  rw[yb h];split
  .rfl
  split
  .omega
  rfl
 rfl
def NO{cs vs:List Value}(h:a+o+vs.length<=cs.length)(aF:o+vs.length<=n):((hC cs (a+o) vs).drop a).take n=hC ((cs.drop a).take n) o vs:=by
 apply tf;intro j;have hl:o+vs.length<=((cs.drop a).take n).length:=fs;rw[yb hl];simp only[ER,JP];rw[yb h]
 grind
section
variable {phx:cc} {H:cg} {B:Nat->aQ}
def Td{l:List α}{x:α}(h:i<l.length):hO (cj l i x) i=some x:=by simp[hO,cj,h]
def Tc{l:List α}{x:α}(h:j≠i):hO (cj l i x) j=hO l j:=by simp[hO,cj,E',nI h]
def UQ:∀{p:List mx} {pv u H6:au} {t t':ae} {off:Nat} {cs cu:List Value},e2 phx H B pv t cs->t.d? p=some (off,t')->mj pv p u=some H6->e2 phx H B u t' cu ->
  e2 phx H B H6 t (hC cs off cu):=by
 intro p;induction p with
 |nil=>
  intro pv u H6 t t' off cs cu h aK ac aL;have:t=t'/\off=0:=by cases t<;>simp only[ae.d?,km,kH]at aK<;>exact⟨aK.2,aK.1.symm⟩
  obtain⟨rfl,rfl⟩:=this;have:u=H6:=by cases pv<;>simp only[mj,km]at ac<;>exact ac
  subst this;rw[agD (by rw[aL.length,h.length])];exact aL
 |cons s p ih=>
  intro pv u H6 t t' off cs cu h aK ac aL;cases s with
  |fst=>
   cases t<;>try(cases aK;done)
   rename_i a b;have bY:=uh (t:=a) aK;cases pv<;>try(cases ac;done)
   .rename_i s x
    obtain⟨eL,hx⟩:=h;subst eL;obtain⟨c1,c2,rfl,O,R⟩:=aH.mh.1 hx;simp only[mj,k4]at ac;obtain⟨q,a2,rfl⟩:=ac;rw[agE (by rw[aL.length,O.length];exact bY)];exact⟨_,_,rfl,ih (pv:=.sc a x.1) (t:=a) ⟨rfl,O⟩ aK a2 aL,rfl,R⟩
   rename_i rM ys;obtain⟨c1,c2,rfl,O,R⟩:=h;simp only[mj,k4]at ac;obtain⟨q,a2,rfl⟩:=ac;rw[agE (by rw[aL.length,O.length];exact bY)];exact⟨_,_,rfl,ih O aK a2 aL,R⟩
  |snd=>
   cases t<;>try(cases aK;done)
   rename_i a b;simp only[ae.d?,k4]at aK;obtain⟨r,ah,aA⟩:=aK;cases aA;cases pv<;>try(cases ac;done)
   .rename_i s x
    obtain⟨eL,hx⟩:=h;subst eL;obtain⟨c1,c2,rfl,O,R⟩:=aH.mh.1 hx;simp only[mj,k4]at ac;obtain⟨q,a2,rfl⟩:=ac;rw[<- O.length,agF];exact⟨_,_,rfl,⟨rfl,O⟩,ih (pv:=.sc b x.2) (t:=b) ⟨rfl,R⟩ ah a2 aL⟩
   rename_i rM ys;obtain⟨c1,c2,rfl,O,R⟩:=h;simp only[mj,k4]at ac;obtain⟨q,a2,rfl⟩:=ac;rw[<- O.length,agF];exact⟨_,_,rfl,O,ih R ah a2 aL⟩
  |ix i=>
   cases t<;>try(cases aK;done)
   rename_i n e;simp only[ae.d?]at aK;split at aK
   .rename_i hi
    simp only[k4]at aK;obtain⟨r,ah,aA⟩:=aK;cases aA;have bY:=uh (t:=e) (off:=r.1) (t':=r.2) ah;cases pv<;>try(cases ac;done)
    rename_i s x;obtain⟨eL,hx⟩:=h;subst eL;obtain⟨O,R,af⟩:=aH.u0.1 hx;have O:(x:List e.aD).length=n:=O;simp only[mj]at ac;generalize a2:mj (.sc e (ak (x:List e.aD) i e.zero)) p u=q at ac;cases q with
    |none=>cases ac
    |some q=>
     simp only[k4]at ac;obtain⟨y,hy,rfl⟩:=ac;have bm:i<(x:List e.aD).length:=J;have ab1:=aL.length;have le:(i+1)*e.size<=n*e.size:=iq _ hi;rw[fH]at le;have hK:i*e.size+r.1+cu.length<=cs.length:=J;have aq:=ih (pv:=.sc e (ak (x:List e.aD) i e.zero)) (t:=e) ⟨rfl,af i _ (Ah bm)⟩ ah a2 aL;have a8:=rJ hy aq;refine⟨rfl,(aH.B4 (l:=cj (x:List e.aD) i y)).2 ⟨(ko (as:=(x:List e.aD))).trans O,by rw[Eg hK,R],λj z an => ?_⟩⟩;by_cases dK:j=i
     .subst dK
      rw[Td bm]at an;cases an;rw[NO hK J];exact a8
     have an:hO (x:List e.aD) j=some z:=(Tc (l:=(x:List e.aD)) dK).symm.trans an;rw[IM hK]
     .exact af j z an
     rcases O_ dK with h|h
     .have:=iq e.size (show j+1<=i from h)
      rw[fH]at this;left;omega
     have:=iq e.size (show i+1<=j from h);rw[fH]at this;right;omega
   cases aK
end
end Yp
namespace Yp
open Go
variable {P:Program}
section
variable {K:Kp} {w0 w:World} {phx:cc} {M:Nat->Prop} {B B':Nat->aQ} {g:Nat->au}
def hu.slice{id:Nat}{e:ae}{len:Nat}{v:Value}(h:hu phx id e off len v):∃a c,v=.slice a len c:=by rcases h with⟨rfl,a,rfl⟩|⟨b,o,n,cap,_,rfl,_⟩<;>exact⟨_,_,rfl⟩
def K8{t:ae}{v:au}{ck:Value}{H:cg}(h:(se t v).aY g B=some ((),B'))(ah:a? phx H B v ck):B'=B/\∃cu,ck.cells.toList=cu/\e2 phx H B (yg v) t cu:=by
 cases v<;>try(cases h)
 case kb b =>obtain⟨hi,aB⟩:=kD h;have:=eD hi;subst this;subst ah;exact⟨aB,[.bool b],rfl,rfl,aH.nP.2 rfl⟩
 case sc s x =>obtain⟨hi,aB⟩:=kD h;have:=eD hi;subst this;obtain⟨cs,O,rfl⟩:=ah;exact⟨aB,cs,by rw[HB O],rfl,O⟩
 case nil=>
  cases t<;>try(cases h;done)
  cases h;subst ah;exact⟨rfl,_,rfl,rfl,_,rfl,rfl,rfl⟩
 case csl e l =>obtain⟨hi,aB⟩:=kD h;have:=eD hi;subst this;obtain⟨a,O,R⟩:=ah;exact⟨aB,[ck],by subst O;rfl,rfl,ck,rfl,by subst O;rfl,a,O,R⟩
 case agg s x =>obtain⟨hi,aB⟩:=kD h;have:=eD hi;subst this;obtain⟨bu,cs,O,rfl⟩:=ah;exact⟨aB,cs,rfl,O⟩
 case own id d'=>
  simp only[se,aw.aY]at h;have gD:bM phx H B (.own id d') ck:=ah;have ac:=gD;simp only[bM]at ac;generalize aB:B id=bl at h ac;cases bl<;>try(cases h)
  all_goals
   obtain⟨hi,ne⟩:=kD h;have:=eD hi;subst this;obtain⟨a,c,rfl⟩:=ac.1.slice;exact⟨ne,_,rfl,rfl,_,rfl,rfl,gD⟩
 case osl id off n=>
  simp only[se,aw.aY]at h;have gD:bM phx H B (.osl id off n) ck:=ah;have ac:=gD;simp only[bM]at ac;generalize aB:B id=bl at h ac;cases bl<;>try(cases h)
  case box t' v=>
   cases t'<;>try(cases h)
   obtain⟨hi,ne⟩:=kD h;have:=eD hi;subst this;obtain⟨a,c,rfl⟩:=ac.2.2.slice;exact⟨ne,_,rfl,rfl,_,rfl,rfl,gD⟩
  all_goals
   obtain⟨hi,ne⟩:=kD h;have:=eD hi;subst this;obtain⟨a,c,rfl⟩:=(by first|exact ac.2.slice|exact ac.2.1.slice:∃a c,ck=.slice a n c);exact⟨ne,_,rfl,rfl,_,rfl,rfl,gD⟩
 case ptr id p=>
  simp only[se,aw.aY]at h;have gD:bM phx H B (.ptr id p) ck:=ah;have ac:=gD;simp only[bM]at ac;generalize aB:B id=bl at h ac;cases bl<;>try(cases h)
  obtain⟨hi,ne⟩:=kD h;have:=eD hi;subst this;obtain⟨b,o,n,off,t',_,_,rfl⟩:=ac;exact⟨ne,_,rfl,rfl,_,rfl,by simp[Value.oneCell'],gD⟩
 case mpp id=>
  simp only[se,aw.aY]at h;have gD:bM phx H B (.mpp id) ck:=ah;have ac:=gD;simp only[bM]at ac;generalize aB:B id=bl at h ac;cases bl<;>try(cases h)
  obtain⟨hi,ne⟩:=kD h;have:=eD hi;subst this;obtain⟨b,_,rfl⟩:=ac;exact⟨ne,_,rfl,rfl,_,rfl,by simp[Value.oneCell'],gD⟩
 case ifc i s x =>obtain⟨hi,aB⟩:=kD h;have:=eD hi;subst this;have gD:=ah;obtain⟨cs,O,rfl⟩:=ah;exact⟨aB,_,rfl,rfl,_,rfl,by simp[Value.oneCell'],gD⟩
 case clo f dQ cW=>
  obtain⟨hi,aB⟩:=kD h;have ht:t.isAgg=false:=by
   unfold acq at hi;split at hi
   .rfl
   .rfl
   cases hi
  have gD:=ah;obtain⟨vs,O,rfl⟩:=ah;exact⟨aB,_,rfl,by exact⟨ht,_,rfl,by simp[Value.oneCell'],gD⟩⟩
def afk{t:ae}{tid:TypeId}(h:(cP P t).1 tid){c:Array Value}{el:TypeId}{fz:Nat×Nat}(Y:w.heap[b]?=some (.cells c el fz))(hf:h4 c fz)
  {v:Value} {cu:List Value} (aC:v.cells.toList=cu) (hl:cu.length=t.size) (O:∀v∈cu,v.oneCell'=true) (aj:o+t.size<=c.size) :
  ∃w',(storeVar tid ⟨b,o,none⟩ v).run P w=.ok () w'/\∃cL:Array Value,JK w w' b (.cells cL el fz)/\cL.toList=hC c.toList o cu:=by
 obtain⟨w',R,cL,af,aq⟩:=Im (P:=P) (b:=b) (el:=el) (fz:=fz) (o:=o) cu 0 c w Y hf J O;refine⟨w',?_,cL,af,by simpa using aq⟩;unfold storeVar;have cQ:v.cells.size=t.size:=by rw[<- hl,<- aC];simp
 simp[od h,cQ,aC,R]
theorem rF(c:Array Value)(o n:Nat):cH c o n=(c.toList.drop o).take n:=rfl
def e3.put{H:cg}{e:ae}{l:List e.aD}{c cL:Array Value}{y:e.aD}{cu:List Value}(h:e3 H e l c o)(hi:i<l.length)(Sr:off+cu.length<=e.size)
  (ai:cL.toList=hC c.toList (o+i*e.size+off) cu) (hy:aH H e y (hC (cH c (o+i*e.size) e.size) off cu)):cL.size=c.size/\e3 H e (cj l i y) cL o:=by
 have O:=h.1;have le:(i+1)*e.size<=l.length*e.size:=iq _ hi;rw[fH]at le;have hK:o+i*e.size+off+cu.length<=c.toList.length:=fs;have cQ:cL.size=c.size:=by have:=congrArg List.length ai;rw[Eg hK]at this;omega
 refine⟨cQ,by simp only[cj,ko];omega,λj z an => ?_⟩;by_cases dK:j=i
 .subst dK
  rw[Td hi]at an;cases an;rw[rF,ai,NO J Sr];exact hy
 rw[Tc dK]at an;rw[rF,ai,IM hK]
 .exact h.2 j z an
 rcases O_ dK with h|h
 .have:=iq e.size (show j+1<=i from h)
  grind
 have:=iq e.size (show i+1<=j from h)
 grind
def agN{t:ae}{tid:TypeId}(ht:(cP P t).1 tid){a v r:au}{ck s_:Value}(h:(IU t a v).aY g B=some (r,B'))(hm:Mem K w0 phx M B w)
  (dP:a? phx (view w M) B a ck) (zS:a? phx (view w M) B v s_) :
  r=.undef/\∃w' ay,(Instr.storeAt tid ck s_).run P w=.ok () w'/\Mem K w0 phx ay B' w'/\cm phx M B w phx ay B' w':=by
 cases a with
 |ptr id p=>
  simp only[IU,aw.aY]at h;have Y:=hm.blks id;have ac:bM phx (view w M) B (.ptr id p) ck:=dP;simp only[bM]at ac;generalize aB:B id=bl at h Y ac;cases bl<;>try(cases h;done)
  rename_i rt u;obtain⟨b,o,n,off,t',O,R,rfl⟩:=ac;obtain⟨b',di,c,el,fz,g1,bw,cX,gd,kw,sj⟩:=Y;rw[O]at g1;cases g1;simp only[rq R]at h;generalize l9:mj u p (yg v)=q at h;cases q with
  |none=>cases h
  |some pv=>
   simp only at h;cases gH:ae.is t' t with
   |false=>rw[gH]at h;cases h
   |true=>
    rw[gH]at h;simp only[cond]at h;have:=eD gH;subst this;obtain⟨_,cS,hf,bL⟩:=aw.cA h;clear h;obtain⟨rfl,cu,lL,hT⟩:=K8 hf zS;cases bL;have bY:=uh R;obtain⟨w',bb,cL,hp,nf⟩:=afk (P:=P) (w:=w) ht (o:=o+off) bw kw lL hT.length hT.one J;have RV:=hT.length;have cQ:cL.size=c.size:=by have:=congrArg List.length nf;rw[Eg fs]at this;simpa using this
    obtain⟨h?,jC⟩:=hm.put (id:=id) (x:=(b,o,c.size)) (w':=w') (by rw[aB];rfl) O sj hp.os hp.tape hp.output hp.size hp.other (.box rt pv) (by rw[aB];rfl) λaA=>by refine⟨b,o,cL,el,fz,by rw[O,cQ],hp.iQ,J,?_,kw.same J,sj⟩;have sq:=aA.b8 (UQ gd R l9 hT);rw[rF,nf,NO fs J,<- rF];exact sq
    exact⟨rfl,w',M,by simp[Instr.storeAt,Instr.sureAddr,bb],h?,jC⟩
 |opt id i p=>
  simp only[IU]at h;obtain⟨x,cS,hx,h⟩:=aw.cA h;obtain⟨cu,rfl,fr,st,ss,_,_,lL⟩:=ym hx hm zS;have lL:=lL rfl;simp only[aw.aY]at h;have Y:=st.blks id;have ac:bM phx (view w fr) cS (.opt id i p) ck:=ss.p dP;simp only[bM]at ac;generalize aB:cS id=bl at h Y ac;cases bl<;>try(cases h;done)
  rename_i e l;obtain⟨hi,b,o,n,off,t',O,R,rfl⟩:=ac;rcases Y with⟨dB,⟨g1,_⟩|⟨b',di,c,el,fz,g1,bw,cX,gd,kw⟩⟩
  .rw[g1]at O;cases O
  rw[O]at g1;cases g1;simp only[rq R]at h;cases gH:ae.is t' t with
  |false=>rw[gH]at h;cases h
  |true=>
   rw[gH]at h;simp only[cond]at h;have:=eD gH;subst this;generalize l9:mj (.sc e (ak l i e.zero)) p (.sc t' x)=q at h;cases q with
   |none=>cases h
   |some pv=>
    simp only at h;generalize hy:ie e pv=y at h;cases y with
    |none=>cases h
    |some y=>
     cases h;have bY:=uh R;have eB:=lL.length;have g31:=cX.1;have le:(i+1)*e.size<=l.length*e.size:=iq _ hi;rw[fH]at le;obtain⟨w',bb,cL,hp,nf⟩:=afk (P:=P) (w:=w) ht (o:=o+i*e.size+off) (v:=cv t' cu) bw gd (by rw[HB lL]) eB lL.one J;have tW:=cX.2 i _ (Ah (d:=e.zero) hi);have hT:=UQ (phx:=phx) (H:=view w fr) (B:=cS) (pv:=.sc e (ak l i e.zero)) (t:=e) ⟨rfl,tW⟩ R l9 (cu:=cu) ⟨rfl,lL⟩;have aru:=rJ hy hT;obtain⟨cQ,d9⟩:=cX.put hi J nf aru;obtain⟨h?,jC⟩:=st.put (id:=id) (x:=(b,o,c.size)) (w':=w') (by rw[aB];rfl) O kw hp.os hp.tape hp.output hp.size hp.other (.ob e (cj l i y)) (by rw[aB];exact⟨rfl,by simp[cj]⟩) λaA=>by exact⟨dB,.inr ⟨b,o,cL,el,fz,by rw[O,cQ],hp.iQ,d9.mono aA.vw,gd.same cQ,kw⟩⟩
     exact⟨rfl,w',fr,by simp[Instr.storeAt,Instr.sureAddr,bb],h?,ss.trans jC⟩
 |_=>cases h
def axG{t:ae}{tid:TypeId}(ht:(cP P t).1 tid){a v r:au}{ck s_:Value}(h:(U' t a v).aY g B=some (r,B'))(hm:Mem K w0 phx M B w)
  (dP:a? phx (view w M) B a ck) (zS:a? phx (view w M) B v s_) :
  r=.undef/\∃w' ay,(Instr.storeAt tid ck s_).run P w=.ok () w'/\Mem K w0 phx ay B' w'/\cm phx M B w phx ay B' w':=by
 unfold U' at h;cases aK:aef a v with
 |false=>rw[aK]at h;exact agN ht h hm dP zS
 |true =>rw[aK]at h;obtain⟨x,cS,hx,h⟩:=aw.cA h;obtain⟨cu,rfl,fr,st,ss,_,_,lL⟩:=ym hx hm zS;obtain⟨O,w',ay,R,af,aq⟩:=agN ht h st (ss.p dP) ⟨cu,lL rfl,rfl⟩;exact⟨O,w',ay,R,af,ss.trans aq⟩
end
end Yp
namespace Yp
open Go
def lZ:=@Option.some.inj
def te:=@Nat.add_zero
variable {P:Program}
section
variable {K:Kp} {w0 w:World} {phx:cc} {M:Nat->Prop} {B B':Nat->aQ} {g:Nat->au}
def Pq:∀{f:Nat} {t dV:ae},t.at (gb f)=some dV->∃d,t.d? (gb f)=some (d,dV):=by
 intro f;induction f with
 |zero=>
  intro t dV h;cases t<;>try(cases h)
  rename_i a b;have:a=dV:=by cases a<;>exact lZ h
  subst this;exact⟨0,by cases a<;>rfl⟩
 |succ f ih=>
  intro t dV h;cases t<;>try(cases h)
  rename_i a b;obtain⟨d,aF⟩:=ih (t:=b) h;exact⟨a.size+d,by simp only[gb,ae.d?,aF,E3]⟩
def Q7{t' cJ:Option ae}(h:Cx t' cJ f=true):∃s d dV,t'=some s/\cJ=some s/\s.d? (gb f)=some (d,dV)/\0<dV.size:=by
 unfold Cx at h;split at h
 .rename_i a b
  simp at h;obtain⟨O,R⟩:=h;have:=eD O;subst this;split at R
  .rename_i dV apY
   obtain⟨d,aF⟩:=Pq apY;exact⟨a,d,dV,rfl,rfl,aF,by simpa using R⟩
  cases R
 cases h
def gx{c:Bool}{x:aw α}{r:α×(Nat->aQ)}(h:(bif c then x else .fail:aw α).aY g B=some r):c=true/\x.aY g B=some r:=by
 cases c with
 |true=>exact⟨rfl,h⟩
 |false=>cases h
def iK{c:Bool}{x:aw α}{r:α×(Nat->aQ)}(h:(aw.chk c x).aY g B=some r):c=true/\x.aY g B=some r:=by
 simp only[aw.aY]at h
 grind
def ane{cJ:Option ae}{tid:TypeId}(ht:∀t,cJ=some t->(cP P t).1 tid){a r:au}{ck:Value}(h:(K0 cJ f a).aY g B=some (r,B'))
  (dP:a? phx (view w M) B a ck):B'=B/\∃v,(Instr.fieldAt tid ck f).run P w=.ok v w/\a? phx (view w M) B r v:=by
 cases a with
 |ptr id p=>
  simp only[K0,aw.aY]at h;have ac:bM phx (view w M) B (.ptr id p) ck:=dP;simp only[bM]at ac;generalize aB:B id=bl at h ac;cases bl<;>try(cases h)
  obtain⟨b,o,n,off,t',O,R,rfl⟩:=ac;replace h:=gx h;obtain⟨ai,h⟩:=h;cases h;obtain⟨s,d,dV,e1,aN,dJ,gQ⟩:=Q7 ai;rw[rq R]at e1;cases e1;refine⟨rfl,_,UI (ht _ aN) dJ gQ b (o+off) w,?_⟩;simp only[a?,dZ,bM,aB];exact⟨b,o,n,off+d,dV,O,DB R dJ,by rw[jv]⟩
 |ipt e l i p =>obtain⟨hi,b,o,cap,off,t',O,R,rfl⟩:=(dP:bM phx (view w M) B (.ipt e l i p) ck);replace h:=gx h;obtain⟨ai,h⟩:=h;cases h;obtain⟨s,d,dV,e1,aN,dJ,gQ⟩:=Q7 ai;rw[rq R]at e1;cases e1;exact⟨rfl,_,UI (ht _ aN) dJ gQ b _ w,hi,b,o,cap,off+d,dV,O,DB R dJ,by rw[jv]⟩
 |opt id i p=>
  simp only[K0,aw.aY]at h;have ac:bM phx (view w M) B (.opt id i p) ck:=dP;simp only[bM]at ac;generalize aB:B id=bl at h ac;cases bl<;>try(cases h)
  all_goals
   obtain⟨hi,b,o,n,off,t',O,R,rfl⟩:=ac;replace h:=gx h;obtain⟨ai,h⟩:=h;cases h;obtain⟨s,d,dV,e1,aN,dJ,gQ⟩:=Q7 ai;rw[rq R]at e1;cases e1;refine⟨rfl,_,UI (ht _ aN) dJ gQ b _ w,?_⟩;simp only[a?,dZ,bM,aB];exact⟨hi,b,o,n,off+d,dV,O,DB R dJ,by rw[jv]⟩
 |_=>cases h
def Pk{t':Option ae}{fV:ae}{i:Int}{v r:au}(h:(B5 t' fV i v).aY g B=some (r,B')):B'=B/\r=v/\∃n e,fV=.ar n e/\t'=some (.ar n e)/\0<e.size/\0<=i/\i<n:=by
 unfold B5 at h;split at h
 .rename_i t' n e
  replace h:=gx h;obtain⟨ai,h⟩:=h;replace h:=iK h;obtain⟨hi,h⟩:=h;cases h;simp at ai;have:=eD ai.1;subst this;obtain⟨O,R⟩:=z2.1 hi;exact⟨rfl,rfl,n,e,rfl,rfl,ai.2,O,R⟩
 cases h
def TO{e:ae}(h:i<n):(ae.ar n e).d? [.ix i]=some (i*e.size,e):=by simp only[ae.d?,if_pos h];rfl
def UJ{e:ae}{tid:TypeId}(ht:(cP P (.ar n e)).1 tid){k:IntKind}{i:Int}(ao:0<=i)(O:i<n)(b o:Nat)(w:World):
  (Instr.indexAt tid (.pointer (some ⟨b,o,none⟩)) (.int k i)).run P w=.ok (.pointer (some ⟨b,o+i.toNat*e.size,none⟩)) w:=by
 obtain⟨⟨bc,aL,aA⟩,_⟩:=ht;have bj:=od aA w;simp[Instr.indexAt,asIntOf,run_underlying aL,Instr.sureAddr,ao,O,bj,qc]
def Ik{e:ae}{tid:TypeId}(ht:(cP P (.sl e)).1 tid){k:IntKind}{i:Int}{cap:Nat}(ao:0<=i)(O:i<n)(b o:Nat)(w:World):
  (Instr.indexAt tid (.slice (some ⟨b,o,none⟩) n cap) (.int k i)).run P w=.ok (.pointer (some ⟨b,o+i.toNat*e.size,none⟩)) w:=by
 obtain⟨⟨bc,aL,aA⟩,_⟩:=ht;have bj:=od aA w;simp[Instr.indexAt,asIntOf,run_underlying aL,ao,O,bj,qc]
def Mx(e:ae):e.d? []=some (0,e):=by cases e<;>rfl
def axk{H:cg}{e:ae}{l:List e.aD}{v:Value}(h:aH H (.sl e) l [v])(aj:l≠[]):∃b o cap,v=.slice (some ⟨b,o,none⟩) l.length cap:=by
 obtain⟨a,cap,O,_,_,R⟩:=aH.ic.1 h
 grind
def acu{H:cg}{e:ae}{l:List e.aD}{v:Value}(h:aH H (.sl e) l [v]){tid:TypeId}(ht:(cP P (.sl e)).1 tid){k:IntKind}{i:Int}(hi:aU i (len l)=true)(w:World):
  ∃r,(Instr.indexAt tid v (.int k i)).run P w=.ok r w/\a? phx H B (.ipt e l (aa i) []) r:=by
 obtain⟨ao,O⟩:=z2.1 hi;have O:i<(l.length:Int):=O;have bm:i.toNat<l.length:=J;obtain⟨b,o,cap,rfl⟩:=axk h (λe=>by subst e;simp at bm);exact⟨_,Ik ht ao O b o w,bm,b,o,cap,0,e,h,Mx e,rfl⟩
def aek{id:Nat}{e:ae}{v:Value}(h:hu phx id e off n v)(aj:0<n):∃b o m cap,phx id=some (b,o,m)/\v=.slice (some ⟨b,o+off*e.size,none⟩) n cap:=by
 rcases h with⟨h,_⟩|⟨b,o,m,cap,O,R,_⟩
 .omega
 grind
def adH:∀{n i:Nat},i<n->(mq n).d? (gb i)=some (i,.op 3)
 |n+1,0,_=>rfl
 |n+1,i+1,h=>by
  have:=adH (n:=n) (i:=i) J;simp only[mq,gb,ae.d?,this,E3,ae.size]
  grind
def arT{fV:ae}{tid:TypeId}(ht:(cP P fV).1 tid){a r:au}{ck:Value}{k:IntKind}{i:Int}(h:(xw fV a i).aY g B=some (r,B'))
  (dP:a? phx (view w M) B a ck):B'=B/\∃v,(Instr.indexAt tid ck (.int k i)).run P w=.ok v w/\a? phx (view w M) B r v:=by
 cases a with
 |sc t l=>
  cases fV<;>try(cases h)
  rename_i e;simp only[xw]at h;replace h:=aw.cA h;obtain⟨y,cS,O,h⟩:=h;obtain⟨ai,rfl⟩:=dE O;obtain⟨bC,rfl⟩:=u2 ai;subst bC;replace h:=iK h;obtain⟨hi,h⟩:=h;cases h;obtain⟨cs,cx,rfl⟩:=dP;obtain⟨a,cap,rfl,_⟩:=aH.x?.1 cx;exact⟨rfl,acu cx ht hi w⟩
 |csl e l =>replace h:=gx h;obtain⟨ai,h⟩:=h;have:=eD ai;subst this;replace h:=iK h;obtain⟨hi,h⟩:=h;cases h;obtain⟨a,_,cx⟩:=dP;exact⟨rfl,acu cx ht hi w⟩
 |own id d'=>
  simp only[xw,aw.aY]at h;have ac:bM phx (view w M) B (.own id d') ck:=dP;simp only[bM]at ac;generalize aB:B id=bl at h ac;cases bl<;>try(cases h)
  all_goals
   replace h:=gx h;obtain⟨ai,h⟩:=h;have:=eD ai;subst this;replace h:=iK h;obtain⟨hi,h⟩:=h;cases h;obtain⟨ao,O⟩:=z2.1 hi;rename_i e l;have O:i<(l.length:Int):=O;obtain⟨b,o,m,cap,g1,rfl⟩:=aek ac.1 J;refine⟨rfl,_,Ik ht ao O b _ w,?_⟩;simp only[a?,dZ,bM,aB];exact⟨by unfold aa;omega,b,o,m,0,e,g1,Mx e,by simp[aa]⟩
 |osl id off n=>
  simp only[xw,aw.aY]at h;have ac:bM phx (view w M) B (.osl id off n) ck:=dP;simp only[bM]at ac;generalize aB:B id=bl at h ac;cases bl<;>try(cases h)
  all_goals
   replace h:=gx h;obtain⟨ai,h⟩:=h;have:=eD ai;subst this;replace h:=iK h;obtain⟨hi,h⟩:=h;cases h;obtain⟨ao,O⟩:=z2.1 hi;rename_i e l;have O:i<(n:Int):=O;obtain⟨b,o,m,cap,g1,rfl⟩:=aek (by first|exact ac.2|exact ac.2.1:hu phx id e off n ck) J;refine⟨rfl,_,Ik ht ao O b _ w,?_⟩;simp only[a?,dZ,bM,aB];exact⟨by unfold bQ aa;omega,b,o,m,0,e,g1,Mx e,by simp only[aa,bQ,fH,te,jv]⟩
 |ptr id p=>
  simp only[xw,aw.aY]at h;have ac:bM phx (view w M) B (.ptr id p) ck:=dP;simp only[bM]at ac;generalize aB:B id=bl at h ac;cases bl<;>try(cases h)
  obtain⟨b,o,n,off,t',O,R,rfl⟩:=ac;obtain⟨ne,rfl,m,e,rfl,aN,dJ,gQ,oJ⟩:=Pk h;rw[rq R]at aN;cases aN;refine⟨ne,_,UJ ht gQ oJ b (o+off) w,?_⟩;simp only[a?,dZ,bM,aB];exact⟨b,o,n,off+(aa i)*e.size,e,O,DB R (TO (by unfold aa;omega)),by rw[jv];rfl⟩
 |ipt e l j p =>obtain⟨hi,b,o,cap,off,t',O,R,rfl⟩:=(dP:bM phx (view w M) B (.ipt e l j p) ck);obtain⟨ne,rfl,m,bC,rfl,aN,dJ,gQ,oJ⟩:=Pk h;rw[rq R]at aN;cases aN;exact⟨ne,_,UJ ht gQ oJ b _ w,hi,b,o,cap,off+(aa i)*bC.size,bC,O,DB R (TO (by unfold aa;omega)),by rw[jv (o+j*e.size)];rfl⟩
 |opt id j p=>
  simp only[xw,aw.aY]at h;have ac:bM phx (view w M) B (.opt id j p) ck:=dP;simp only[bM]at ac;generalize aB:B id=bl at h ac;cases bl<;>try(cases h)
  all_goals
   rename_i e l;obtain⟨hi,b,o,n,off,t',O,R,rfl⟩:=ac;obtain⟨ne,rfl,m,bC,rfl,aN,dJ,gQ,oJ⟩:=Pk h;rw[rq R]at aN;cases aN;refine⟨ne,_,UJ ht gQ oJ b _ w,?_⟩;simp only[a?,dZ,bM,aB];exact⟨hi,b,o,n,off+(aa i)*bC.size,bC,O,DB R (TO (by unfold aa;omega)),by rw[jv (o+j*e.size)];rfl⟩
 |psl id n=>
  simp only[xw,aw.aY]at h;have ac:bM phx (view w M) B (.psl id n) ck:=dP;simp only[bM]at ac;generalize aB:B id=bl at h ac;cases bl<;>try(cases h)
  replace h:=gx h;obtain⟨ai,h⟩:=h;have:=eD ai;subst this;replace h:=iK h;obtain⟨hi,h⟩:=h;cases h;obtain⟨ao,O⟩:=z2.1 hi;have O:i<(n:Int):=O;obtain⟨rfl,b,o,m,cap,g1,rfl⟩:=ac;refine⟨rfl,_,Ik ht ao O b _ w,?_⟩;simp only[a?,dZ,bM,aB];exact⟨b,o,m,aa i,.op 3,g1,adH (by unfold aa;omega),by simp[aa,ae.size]⟩
 |_=>cases h
end
end Yp
namespace Yp
open Go
def k3:=@List.length_eq_zero_iff
def jw:=@Nat.zero_add
def m3:=@Array.ext'
def JT:=@Int.max_eq_left
variable {P:Program}
section
variable {K:Kp} {w0 w:World} {phx:cc} {M:Nat->Prop} {B B':Nat->aQ} {g:Nat->au}
def a?.ue(H:cg)(n:Nat):a? phx H B (Yp.int (n:Int)) (goInt n):=a?.sI phx H B .i64 (n:Int)
def asJ{fV:ae}{tid:TypeId}(ht:(cP P fV).1 tid){a r:au}{ck:Value}(h:(Hw fV a).aY g B=some (r,B'))(dP:a? phx (view w M) B a ck)
  {eg:Array TypeId} (ao:eg[0]?=some tid) (ty:TypeId):B'=B/\∃v,(Builtin.len_ eg ty #[ck]).run P w=.ok v w/\a? phx (view w M) B r v:=by
 have gm:∀{n c:Nat} {ad:Option Addr} {e:ae},(cP P (.sl e)).1 tid->(Builtin.len_ eg ty #[.slice ad n c]).run P w=.ok (goInt n) w:=by intro n c ad e hf;obtain⟨⟨bc,aL,_⟩,_⟩:=hf;simp[Builtin.len_,ao,run_underlying aL]
 cases fV<;>try(cases h;done)
 case str=>
  cases a<;>try(cases h)
  rename_i t x;cases t<;>try(cases h;done)
  cases h;rw[dP.str];exact⟨rfl,_,by simp[Builtin.len_,ao,run_underlying ht.1];rfl,a?.ue _ (x:List UInt8).length⟩
 case ar n e =>cases h;obtain⟨⟨bc,aL,_⟩,_⟩:=ht;exact⟨rfl,goInt n,by simp[Builtin.len_,ao,run_underlying aL],a?.ue _ n⟩
 case sl e=>
  cases a<;>try(cases h;done)
  case sc t x=>
   cases t<;>try(cases h;done)
   cases h;obtain⟨cs,cx,rfl⟩:=dP;obtain⟨ad,cap,rfl,_⟩:=aH.x?.1 cx;exact⟨rfl,_,gm ht,a?.ue _ _⟩
  case csl bC l =>cases h;obtain⟨ad,rfl,_⟩:=dP;exact⟨rfl,_,gm ht,a?.ue _ _⟩
  case nil =>cases h;subst dP;exact⟨rfl,_,gm ht,a?.ue _ 0⟩
  case own id d'=>
   simp only[Hw,aw.aY]at h;have ac:bM phx (view w M) B (.own id d') ck:=dP;simp only[bM]at ac;generalize aB:B id=bl at h ac;cases bl<;>try(cases h;done)
   all_goals
    cases h;obtain⟨ad,c,rfl⟩:=ac.1.slice;exact⟨rfl,_,gm ht,a?.ue _ _⟩
  case psl id n=>
   simp only[Hw,aw.aY]at h;have ac:bM phx (view w M) B (.psl id n) ck:=dP;simp only[bM]at ac;generalize aB:B id=bl at h ac;cases bl<;>try(cases h;done)
   cases h;obtain⟨_,b,o,m,cap,_,rfl⟩:=ac;exact⟨rfl,_,gm ht,a?.ue _ _⟩
  case osl id off n=>
   simp only[Hw,aw.aY]at h;have ac:bM phx (view w M) B (.osl id off n) ck:=dP;simp only[bM]at ac;generalize aB:B id=bl at h ac;cases bl<;>try(cases h;done)
   all_goals
    cases h;obtain⟨ad,c,rfl⟩:=(by first|exact ac.2.slice|exact ac.2.1.slice:∃a c,ck=.slice a n c);exact⟨rfl,_,gm ht,a?.ue _ _⟩
def D2{t:ae}{tid:TypeId}(h:(cP P t).1 tid){cs:Array Value}(aj:off+t.size<=cs.size)(w:World):(part tid cs off).run P w=.ok (cv t (cH cs off t.size)) w:=by
 unfold part;cases bu:t.isAgg with
 |true=>
  have aA:cs.extract off (off+t.size)=(cH cs off t.size).toArray:=by apply m3;simp[cH]
  simp[Nf h,bu,od h,cv,aA]
 |false=>
  have O:=agr bu;have bm:off<cs.size:=J;have ac:cH cs off 1=[cs[off]]:=by
   have hl:=pX (c:=cs) (o:=off) (n:=1) J;have hg:=uz (c:=cs) (o:=off) (n:=1) (i:=0) J;match aq3:cH cs off 1,hl,hg with
   |[x],_,hg=>simp[bm]at hg;rw[hg]
  simp[Nf h,bu,yW bm,cv,O,ac]
def anj{E:db}(hT:mV P E.b8){tid:TypeId}{a r:au}{ck:Value}(h:(Q8 E tid f a).aY g B=some (r,B'))(dP:a? phx (view w M) B a ck):
  B'=B/\∃v,(Instr.field tid ck f).run P w=.ok v w/\a? phx (view w M) B r v:=by
 unfold Q8 at h;cases ht:E.b8 tid with
 |none=>rw[ht]at h;cases h
 |some t=>
  rw[ht]at h;have hf:=hT _ _ ht;obtain⟨_,cS,O,bL⟩:=aw.cA h;obtain⟨rfl,cu,lL,sq⟩:=K8 O dP;cases xk:t.at (gb f) with
  |none=>rw[xk]at bL;cases bL
  |some dV=>
   cases hg:iN (yg a) (gb f) with
   |none=>rw[xk,hg]at bL;cases bL
   |some v=>
    rw[xk,hg]at bL;cases bL;obtain⟨d,aK⟩:=Pq xk;obtain⟨e8,fd,g1,bw,cX,gd⟩:=ZY hf aK;have bY:=uh aK;have hl:=sq.length;have i2:t.isAgg=true:=by cases f<;>cases t<;>first|rfl|cases aK
    have ao7:ck=.agg cu.toArray:=by
     cases a<;>try(cases O)
     case kb b=>obtain⟨hi,_⟩:=kD O;have:=eD hi;subst this;cases i2
     case nil=>cases t<;>first|cases i2;done|cases O
     case csl e l=>obtain⟨hi,_⟩:=kD O;have:=eD hi;subst this;cases i2
     case own id d'=>
      simp only[se,aw.aY]at O;generalize B' id=bl at O;cases bl<;>try(cases O)
      all_goals
       obtain⟨hi,_⟩:=kD O;have:=eD hi;subst this;cases i2
     case osl id off n=>
      simp only[se,aw.aY]at O;generalize B' id=bl at O;cases bl<;>try(cases O)
      case box t' _=>
       cases t'<;>try(cases O)
       obtain⟨hi,_⟩:=kD O;have:=eD hi;subst this;cases i2
      all_goals
       obtain⟨hi,_⟩:=kD O;have:=eD hi;subst this;cases i2
     case sc s x =>obtain⟨hi,_⟩:=kD O;have:=eD hi;subst this;obtain⟨cs,bG,rfl⟩:=dP;rw[HB bG]at lL;simp only[cv,i2,if_true];rw[<- lL]
     case agg s x =>obtain⟨_,cs,bG,rfl⟩:=dP;simp only[Value.cells]at lL;rw[<- lL]
     case ptr id p=>cases f<;>cases hg
     case mpp id=>cases f<;>cases hg
     case ifc i s x=>cases f<;>cases hg
     case clo u6 dQ cW=>cases f<;>cases hg
    subst ao7;refine⟨rfl,cv dV (cH cu.toArray d dV.size),?_,Bz (Rv sq aK hg)⟩;have hp:=D2 (P:=P) gd (cs:=cu.toArray) (off:=d) fs w;simp[Instr.field,run_underlying g1,bw,asAgg,cX,hp]
def arU{e:ae}{tid:TypeId}(ht:(cP P (.ar n e)).1 tid){a r:au}{ck:Value}{i:Int}(h:(Hb (.ar n e) a i).aY g B=some (r,B'))(dP:a? phx (view w M) B a ck)(k:IntKind):
  B'=B/\∃v,(Instr.index tid ck (.int k i)).run P w=.ok v w/\a? phx (view w M) B r v:=by
 have bL:((aw.opt (ie (.ar n e) a)).bind λl=>.chk (aU i (bf n)) (.ret (.sc e (ak (l:List e.aD) (aa i) e.zero)))).aY g B=some (r,B'):=by
  unfold Hb at h;split at h
  .cases h
  exact h
 obtain⟨l,cS,O,R⟩:=aw.cA bL;obtain⟨aF,rfl⟩:=dE O;obtain⟨hi,R⟩:=iK R;cases R;obtain⟨cs,cx,rfl⟩:=nA aF dP;obtain⟨bG,b_,cp⟩:=aH.u0.1 cx;have bG:(l:List e.aD).length=n:=bG;obtain⟨⟨bc,aL,aA⟩,_⟩:=ht;obtain⟨ao,O⟩:=z2.1 hi;have O:i<(n:Int):=O;have bm:i.toNat<(l:List e.aD).length:=J;have bj:=od aA w;have le:(i.toNat+1)*e.size<=n*e.size:=iq _ J;rw[fH]at le;have hp:=D2 (P:=P) aA (cs:=cs.toArray) (off:=i.toNat*e.size) fs w;refine⟨rfl,cv e (cH cs.toArray (i.toNat*e.size) e.size),?_,?_⟩
 .simp[Instr.index,asIntOf,run_underlying aL,cv,ae.isAgg,ao,O,bj,hp]
 exact⟨_,cp _ _ (Ah (d:=e.zero) bm),rfl⟩
def Il{e:ae}{tid:TypeId}(ht:(cP P (.sl e)).1 tid){ad:Option Addr}{cap:Nat}{lo hi:Option Int}{ks kh:IntKind}(ld:n<=cap)(h:ca (bT lo 0) (bT hi n) n=true)(w:World):
  (Instr.sliceAt tid (.slice ad n cap) (lo.map λi=>.int ks i) (hi.map λi=>.int kh i) none).run P w =
   .ok (.slice (if cap=(bT lo 0).toNat then ad else ad.map (·.add ((bT lo 0).toNat*e.size))) ((bT hi n).toNat-(bT lo 0).toNat) (cap-(bT lo 0).toNat)) w:=by
 obtain⟨⟨bc,aL,aA⟩,_⟩:=ht;have Y:=UW (P:=P) (isSlice:=true) (ks:=ks) (kh:=kh) ld h w;have bj:=od aA w;simp[Instr.sliceAt,Instr.slice,run_underlying aL,Y,bj]
def aH.sub{H:cg}{e:ae}{l:List e.aD}{ad:Option Addr}{cap:Nat}(cx:aH H (.sl e) l [.slice ad l.length cap]){cap':Nat}(bY:L+N<=l.length)(ld:N<=cap')(azq:cap'<=cap-L):
  aH H (.sl e) (cut l L N) [.slice (if cap'=0 then ad else ad.map (·.add (L*e.size))) N cap']:=by
 obtain⟨a',cL,O,R,af,aq⟩:=aH.ic.1 cx;obtain⟨rfl,_,rfl⟩:=O;refine aH.ic.2 ⟨_,cap',by rw[k_ bY],by rw[k_ bY];exact ld,J,?_⟩;by_cases fM:N=0
 .left;exact k3.1 ((k_ bY).trans fM)
 rcases aq with aq|⟨b,o,c,el,fz,rfl,bw,cX,gd⟩
 .grind
 right;rw[if_neg J];refine⟨b,o+L*e.size,c,el,fz,by simp[qc],bw,?_,λi x hi => ?_⟩
 .rw[k_ bY]
  have:(L+N)*e.size<=l.length*e.size:=iq _ bY
  grind
 have fA:i<N:=by
  rcases y2 i N with h|h
  .exact h
  have:(cut l L N).length<=i:=by rw[k_ bY];exact h
  grind
 rw[FM fA]at hi
 grind
def UX{H:cg}{e:ae}{tid:TypeId}(ht:(cP P (.sl e)).1 tid){l:List e.aD}{ck:Value}(cx:aH H (.sl e) l [ck]){lo hi:Option Int}{ks kh:IntKind}(h:ca (bT lo 0) (bT hi (len l)) (len l)=true)(w:World):
  ∃v,(Instr.sliceAt tid ck (lo.map λi=>.int ks i) (hi.map λi=>.int kh i) none).run P w=.ok v w/\a? phx H B (.sc (.sl e) (sub l (bT lo 0) (bT hi (len l)))) v:=by
 obtain⟨ad,cap,O,R,af,aq⟩:=aH.ic.1 cx;simp at O;subst O;have ah:=Il (P:=P) ht (ad:=ad) (ks:=ks) (kh:=kh) R h w;refine⟨_,ah,?_⟩;obtain⟨bF,b3,dp⟩:=rk.1 h;have dp:bT hi (len l)<=(l.length:Int):=dp;have:=cx.sub (L:=(bT lo 0).toNat) (N:=(bT hi (len l)).toNat-(bT lo 0).toNat) (cap':=cap-(bT lo 0).toNat) J J (bU _);refine⟨_,this,?_⟩;congr 1
 grind
def hu.sub{id:Nat}{e:ae}{ad:Option Addr}{cap:Nat}(h:hu phx id e off n (.slice ad n cap))(bY:L+N<=n):
  hu phx id e (off+L) N (.slice (if cap=L then ad else ad.map (·.add (L*e.size))) N (cap-L)):=by
 rcases h with⟨O,a,R⟩|⟨b,o,m,cap',O,R,af,aq,a8⟩
 .simp at R
  obtain⟨rfl,_,rfl⟩:=R;left;exact⟨J,_,by rw[show N=0 by omega,show 0-L=0 by omega]⟩
 simp at R;obtain⟨rfl,_,rfl⟩:=R;by_cases ai:cap=L
 .left;exact⟨J,_,by rw[show N=0 by omega,show cap-L=0 by omega]⟩
 right;refine⟨b,o,m,cap-L,O,?_,J,J,by rw[show off+L+(cap-L)=off+cap by omega];exact a8⟩;rw[if_neg ai];simp[qc,fH,jv]
def ti.sub{id:Nat}{e:ae}{ad:Option Addr}{cap:Nat}(h:ti phx id e off N (.slice ad n cap)){n':Nat}(bY:L+n'<=cap):
  ti phx id e (off+L) N (.slice (if cap=L then ad else ad.map (·.add (L*e.size))) n' (cap-L)):=by
 rcases h with⟨O,a,R⟩|⟨b,o,m,adc,cap',O,R,af⟩
 .simp at R
  obtain⟨rfl,_,rfl⟩:=R;left;exact⟨J,_,by rw[show n'=0 by omega,show 0-L=0 by omega]⟩
 simp at R;obtain⟨rfl,_,rfl⟩:=R;by_cases ai:cap=L
 .left;exact⟨J,_,by rw[show n'=0 by omega,show cap-L=0 by omega]⟩
 right;refine⟨b,o,m,n',cap-L,O,?_,J⟩;rw[if_neg ai];simp[qc,fH,jv]
def UY{e:ae}{tid:TypeId}(ht:(cP P (.sl e)).1 tid){a r:au}{ck:Value}{lo hi:Option Int}(h:(wb (.sl e) a lo hi none).aY g B=some (r,B'))
  (hm:Mem K w0 phx M B w) (dP:a? phx (view w M) B a ck) (ks kh:IntKind) :
  B'=B/\∃v,(Instr.sliceAt tid ck (lo.map λi=>.int ks i) (hi.map λi=>.int kh i) none).run P w=.ok v w/\a? phx (view w M) B r v:=by
 cases a<;>try(cases h)
 case nil=>
  simp only[wb]at h;replace h:=iK h;obtain⟨Y,h⟩:=h;cases h;have ah:=dP;subst ah;have kz:=Y;have a2:=rk.1 kz;refine⟨rfl,_,Il (P:=P) (ad:=none) (n:=0) (cap:=0) ht (bU _) kz w,?_⟩
  grind
 case sc t x =>replace h:=aw.cA h;obtain⟨l,cS,O,h⟩:=h;obtain⟨ai,rfl⟩:=dE O;obtain⟨bC,rfl⟩:=u2 ai;subst bC;replace h:=iK h;obtain⟨Y,h⟩:=h;cases h;obtain⟨cs,cx,rfl⟩:=dP;obtain⟨ad,cap,rfl,_⟩:=aH.x?.1 cx;exact⟨rfl,UX ht cx Y w⟩
 case csl bC l =>replace h:=gx h;obtain⟨ai,h⟩:=h;have:=eD ai;cases this;replace h:=iK h;obtain⟨Y,h⟩:=h;cases h;obtain⟨ad,_,cx⟩:=dP;exact⟨rfl,UX ht cx Y w⟩
 case own id d'=>
  simp only[wb,aw.aY]at h;have ac:bM phx (view w M) B (.own id d') ck:=dP;have dD:=hm.blks id;simp only[bM]at ac;generalize aB:B id=bl at h ac dD;cases bl<;>try(cases h)
  .replace h:=gx h;obtain⟨ai,h⟩:=h
   have:=eD ai;cases this;replace h:=iK h;obtain⟨Y,h⟩:=h;cases h;rename_i l;obtain⟨ad,cap,rfl⟩:=ac.1.slice;have ld:l.length<=cap:=by
    rcases ac.1 with⟨O,a,R⟩|⟨b,o,m,cap',O,R,af,aq,a8⟩
    .omega
    simp only[Value.slice.injEq]at R;omega
   refine⟨rfl,_,Il ht ld Y w,?_⟩;obtain⟨bF,b3,dp⟩:=rk.1 Y;have dp:bT hi (len l)<=(l.length:Int):=dp;have pE:=ac.1.cap.sub (L:=(bT lo 0).toNat) (n':=(bT hi (len l)).toNat-(bT lo 0).toNat) J;have:=ac.1.sub (L:=(bT lo 0).toNat) (N:=(bT hi (len l)).toNat-(bT lo 0).toNat) J;simp only[a?,dZ,bM,aB];simp only[jw]at this pE;exact⟨by unfold aa cd;omega,this,pE⟩
  replace h:=gx h;obtain⟨ai,h⟩:=h;have:=eD ai;cases this;replace h:=iK h;obtain⟨Y,h⟩:=h;cases h;exact⟨rfl,UX ht (T1 ac.1 dD.2) Y w⟩
 case osl id off n=>
  simp only[wb,aw.aY]at h;have ac:bM phx (view w M) B (.osl id off n) ck:=dP;have dD:=hm.blks id;simp only[bM]at ac;generalize aB:B id=bl at h ac dD;cases bl<;>try(cases h)
  .replace h:=gx h;obtain⟨ai,h⟩:=h
   have:=eD ai;cases this;replace h:=iK h;obtain⟨Y,h⟩:=h;cases h;obtain⟨bY,ac,lK⟩:=ac;obtain⟨ad,cap,rfl⟩:=ac.slice;have ld:n<=cap:=by
    rcases ac with⟨O,a,R⟩|⟨b,o,m,cap',O,R,af,aq,a8⟩
    .omega
    simp only[Value.slice.injEq]at R;omega
   refine⟨rfl,_,Il ht ld Y w,?_⟩;obtain⟨bF,b3,dp⟩:=rk.1 Y;have dp:bT hi (bf n)<=(n:Int):=dp;have:=ac.sub (L:=(bT lo 0).toNat) (N:=(bT hi (bf n)).toNat-(bT lo 0).toNat) J;have pE:=lK.sub (L:=(bT lo 0).toNat) (n':=(bT hi (bf n)).toNat-(bT lo 0).toNat) J;simp only[a?,dZ,bM,aB];exact⟨by unfold aa cd bQ;omega,this,pE⟩
  replace h:=gx h;obtain⟨ai,h⟩:=h;have:=eD ai;cases this;replace h:=iK h;obtain⟨Y,h⟩:=h;cases h;obtain⟨bY,ac⟩:=ac;obtain⟨ad,cap,rfl⟩:=ac.slice;have ld:n<=cap:=by
   rcases ac with⟨O,a,R⟩|⟨b,o,m,cap',O,R,af,aq,a8⟩
   .omega
   simp only[Value.slice.injEq]at R;omega
  refine⟨rfl,_,Il ht ld Y w,?_⟩;obtain⟨bF,b3,dp⟩:=rk.1 Y;have dp:bT hi (bf n)<=(n:Int):=dp;have:=ac.sub (L:=(bT lo 0).toNat) (N:=(bT hi (bf n)).toNat-(bT lo 0).toNat) J;simp only[a?,dZ,bM,aB];exact⟨by unfold aa cd bQ;omega,this⟩
def axl{fV:ae}{tid:TypeId}(ht:(cP P fV).1 tid){a r:au}{ck:Value}{lo hi:Option Int}{m:Int}(h:(wb fV a lo hi (some m)).aY g B=some (r,B'))
  (dP:a? phx (view w M) B a ck) (ks kh Hn:IntKind) :
  B'=B/\∃v,(Instr.sliceAt tid ck (lo.map λi=>.int ks i) (hi.map λi=>.int kh i) (some (.int Hn m))).run P w=.ok v w/\a? phx (view w M) B r v:=by
 cases hi with
 |none=>cases h
 |some hi=>
  cases a<;>try(cases h)
  rename_i t x;cases fV<;>try(cases h)
  rename_i e;replace h:=aw.cA h;obtain⟨l,cS,O,h⟩:=h;obtain⟨ai,rfl⟩:=dE O;obtain⟨bC,rfl⟩:=u2 ai;subst bC;replace h:=iK h;obtain⟨Y,h⟩:=h;cases h;simp only[cZ,cM,Yp.ag,beq_iff_eq]at Y;obtain⟨Y,rfl⟩:=Y;obtain⟨bF,b3,dp⟩:=rk.1 Y;obtain⟨cs,cx,rfl⟩:=dP;obtain⟨ad,cap,rfl,b_,_⟩:=aH.x?.1 cx;have dp:hi<=((x:List e.aD).length:Int):=dp;obtain⟨⟨bc,aL,aA⟩,_⟩:=ht;have bj:=od aA w;have g1:0<=hi/\hi<=(cap:Int):=⟨J,J⟩;have g0:=g1.1;have GX:(Instr.sliceBounds true (x:List e.aD).length cap (lo.map λi=>.int ks i) (some (.int kh hi)) (some (.int Hn hi))).run P w=.ok ((bT lo 0).toNat,hi.toNat,hi.toNat) w:=by
   cases lo with
   |none=>simp[Instr.sliceBounds,Instr.sliceBound,asIntOf,g1,bT,g0,JT g0]
   |some lo =>simp only[bT]at bF b3 ⊢;simp[Instr.sliceBounds,Instr.sliceBound,asIntOf,g1,g0,JT g0,bF,b3]
  refine⟨rfl,.slice (if hi.toNat=(bT lo 0).toNat then ad else ad.map (·.add ((bT lo 0).toNat*e.size))) (hi.toNat-(bT lo 0).toNat) (hi.toNat-(bT lo 0).toNat),?_,?_⟩
  .simp[Instr.sliceAt,Instr.slice,run_underlying aL,GX,bj,cv,ae.isAgg]
  have:=cx.sub (L:=(bT lo 0).toNat) (N:=hi.toNat-(bT lo 0).toNat) (cap':=hi.toNat-(bT lo 0).toNat) J J J;have cr:(Yp.sub (x:List e.aD) (bT lo 0) hi).length=hi.toNat-(bT lo 0).toNat:=k_ (α:=e.aD) (l:=(x:List e.aD)) J;have tR:(if hi.toNat=(bT lo 0).toNat then ad else ad.map (·.add ((bT lo 0).toNat*e.size)))=if hi.toNat-(bT lo 0).toNat=0 then ad else ad.map (·.add ((bT lo 0).toNat*e.size)):=by
   grind
  rw[tR];exact⟨_,by rw[cr],this⟩
def hu.YA{id:Nat}{e:ae}{ad:Option Addr}{cap:Nat}(h:hu phx id e off n (.slice ad m cap)):m=n/\n<=cap:=by
 rcases h with⟨O,a,R⟩|⟨b,o,m,cap',O,R,af,aq,a8⟩
 .simp only[Value.slice.injEq]at R;omega
 simp only[Value.slice.injEq]at R;omega
def hu.anb{id:Nat}{e:ae}{ad:Option Addr}{cap:Nat}(h:hu phx id e off n (.slice ad n cap))(bY:L+N<=cap):
  hu phx id e (off+L) N (.slice (if cap=L then ad else ad.map (·.add (L*e.size))) N (cap-L)):=by
 rcases h with⟨O,a,R⟩|⟨b,o,m,cap',O,R,af,aq,a8⟩
 .simp only[Value.slice.injEq]at R
  obtain⟨rfl,_,rfl⟩:=R;left;exact⟨J,_,by rw[show N=0 by omega,show 0-L=0 by omega]⟩
 simp only[Value.slice.injEq]at R;obtain⟨rfl,_,rfl⟩:=R;by_cases ai:cap=L
 .left;exact⟨J,_,by rw[show N=0 by omega,show cap-L=0 by omega]⟩
 right;refine⟨b,o,m,cap-L,O,?_,J,J,by rw[show off+L+(cap-L)=off+cap by omega];exact a8⟩;rw[if_neg ai];simp[qc,fH,jv]
def axm{e:ae}{tid:TypeId}(ht:(cP P (.sl e)).1 tid){a r:au}{ck:Value}{lo hi qC:Option Int}(h:(UU (.sl e) a lo hi qC).aY g B=some (r,B'))
  (hm:Mem K w0 phx M B w) (dP:a? phx (view w M) B a ck) (ks kh Hn:IntKind) :
  B'=B/\∃v,(Instr.sliceAt tid ck (lo.map λi=>.int ks i) (hi.map λi=>.int kh i) (qC.map λi=>.int Hn i)).run P w=.ok v w/\a? phx (view w M) B r v:=by
 unfold UU at h;split at h
 .split at h
  .rename_i hh
   split at h
   .rename_i id off n
    simp only[aw.aY]at h;have ac:bM phx (view w M) B (.osl id off n) ck:=dP;simp only[bM]at ac;generalize aB:B id=bl at h ac;cases bl<;>try(cases h)
    replace h:=gx h;obtain⟨ai,h⟩:=h;have:=eD ai;cases this;replace h:=iK h;obtain⟨Y,h⟩:=h;cases h;rename_i l;simp only[cZ,cM]at Y;obtain⟨rf,Y⟩:=Y;obtain⟨bY,aK,pE⟩:=ac;obtain⟨ad,cap,rfl⟩:=aK.slice;obtain⟨bF,b3,dp⟩:=rk.1 Y;have dp:hh<=(l.length:Int)-(off:Int):=dp;have fM:l.length<=off+cap:=by
     rcases pE with⟨O,a,R⟩|⟨b,o,m,adc,cap',O,R,af⟩
     .omega
     simp at R;omega
    have g1:0<=hh/\hh<=(cap:Int):=⟨J,J⟩;have GX:(Instr.sliceBounds true n cap (lo.map λi=>.int ks i) (some (.int kh hh)) none).run P w=.ok ((bT lo 0).toNat,hh.toNat,cap) w:=by
     cases lo with
     |none=>simp[Instr.sliceBounds,Instr.sliceBound,asIntOf,g1,bT]
     |some lo =>simp only[bT]at bF b3 ⊢;have bw:0<=lo/\lo<=max hh 0:=⟨bF,J⟩;simp[Instr.sliceBounds,Instr.sliceBound,asIntOf,g1,bw,bF,b3]
    obtain⟨⟨bc,aL,aA⟩,_⟩:=ht;have bj:=od aA w;refine⟨rfl,.slice (if cap=(bT lo 0).toNat then ad else ad.map (·.add ((bT lo 0).toNat*e.size))) (hh.toNat-(bT lo 0).toNat) (cap-(bT lo 0).toNat),?_,?_⟩
    .simp[Instr.sliceAt,Instr.slice,run_underlying aL,GX,bj]
    have O:=aK.anb (L:=(bT lo 0).toNat) (N:=hh.toNat-(bT lo 0).toNat) J;have R:=pE.sub (L:=(bT lo 0).toNat) (n':=hh.toNat-(bT lo 0).toNat) J;simp only[a?,dZ,bM,aB];exact⟨by unfold aa cd bQ;omega,O,R⟩
   exact UY ht h hm dP ks kh
  exact UY ht h hm dP ks kh
 rename_i m;split at h
 .rename_i hh
  split at h
  .rename_i id d'
   simp only[aw.aY]at h;have ac:bM phx (view w M) B (.own id d') ck:=dP;simp only[bM]at ac;generalize aB:B id=bl at h ac;cases bl<;>try(cases h)
   replace h:=gx h;obtain⟨ai,h⟩:=h;replace h:=iK h;obtain⟨Y,h⟩:=h;cases h;rename_i l;simp only[cZ,cM,bE,decide_eq_true_eq]at Y;obtain⟨Y,zL⟩:=Y;have zL:m<=(l.length:Int):=zL;obtain⟨bF,b3,dp⟩:=rk.1 Y;obtain⟨ad,cap,rfl⟩:=ac.1.slice;obtain⟨_,ld⟩:=ac.1.YA;obtain⟨⟨bc,aL,aA⟩,_⟩:=ht;have bj:=od aA w;have g1:0<=m/\m<=(cap:Int):=⟨J,J⟩;have g0:=g1.1;have bw:0<=hh/\hh<=m:=⟨J,dp⟩;have GX:(Instr.sliceBounds true l.length cap (lo.map λi=>.int ks i) (some (.int kh hh)) (some (.int Hn m))).run P w=.ok ((bT lo 0).toNat,hh.toNat,m.toNat) w:=by
    cases lo with
    |none=>simp[Instr.sliceBounds,Instr.sliceBound,asIntOf,g1,bT,g0,bw,JT g0]
    |some lo =>simp only[bT]at bF b3 ⊢;have cX:0<=lo/\lo<=max hh 0:=⟨bF,J⟩;simp[Instr.sliceBounds,Instr.sliceBound,asIntOf,g1,g0,bw,JT g0,cX,bF,b3]
   exact⟨rfl,_,by simp[Instr.sliceAt,Instr.slice,run_underlying aL,GX,bj];rfl,trivial⟩
  cases h
 cases h
end
end Yp
namespace Yp
open Go
def oy:=@List.length_replicate
def lY:=@Nat.mod_eq_of_lt
def BJ:=@Nat.mul_le_mul_left
def JA:=@Nat.le_of_lt
variable {P:Program}
def dq(K:Kp)(w0:World)(phx:cc)(M:Nat->Prop)(B:Nat->aQ)(w:World)(B':Nat->aQ)(v:au)(r:Value)(w':World):Prop:=
 ∃phx' ay,Mem K w0 phx' ay B' w'/\cm phx M B w phx' ay B' w'/\a? phx' (view w' ay) B' v r
section
variable {K:Kp} {w0 w:World} {phx:cc} {M:Nat->Prop} {B B':Nat->aQ} {g:Nat->au}
def dq.same(hm:Mem K w0 phx M B w){v:au}{r:Value}(h:B'=B)(ah:a? phx (view w M) B v r):dq K w0 phx M B w B' v r w:=by subst h;exact⟨phx,M,hm,cm.refl _ _ _ _,ah⟩
def CC{id:Nat}{k:aw au}{r:au×(Nat->aQ)}(h:(Yp.tK id k).aY g B=some r):B id=.new/\k.aY g B=some r:=by simp only[Yp.tK,aw.aY]at h;generalize aB:B id=b at h;cases b<;>first|exact⟨rfl,h⟩|cases h
def lC.lt{id:Nat}{b:aQ}{H:cg}(h:lC phx M w H B id b)(hm:b.fv=true){x:Nat×Nat×Nat}(hx:phx id=some x):x.1<w.heap.size:=by
 have bm:∀{b:Nat} {o:Obj},w.heap[b]?=some o->b<w.heap.size:=λaK=>(ip.1 aK).1;cases b with
 |new=>cases hm
 |e9=>cases hm
 |fz e l=>cases hm
 |box t v=>obtain⟨b,o,c,el,fz,O,R,_⟩:=h;rw[O]at hx;cases hx;exact bm R
 |ob e l=>
  rcases h.2 with⟨O,_⟩|⟨b,o,c,el,fz,O,R,_⟩
  .grind
  grind
 |it s p=>obtain⟨b,O,R,_⟩:=h;rw[O]at hx;cases hx;exact bm R
 |mp kt vt l=>obtain⟨b,es,m',O,R,_⟩:=h;rw[O]at hx;cases hx;exact bm R
def Mem.born(hm:Mem K w0 phx M B w){id:Nat}(hid:B id=.new){w':World}(O:w'.os=w.os)(R:w'.tape=w.tape)(af:w'.output=w.output)(ac:w.heap.size<w'.heap.size)
  (Y:∀b,b<w.heap.size->w'.heap[b]?=w.heap[b]?) (j6:aQ) (n:Nat)
  (ah:∀phx' ay,cm phx M B w phx' ay (cV B id j6) w'->phx' id=some (w.heap.size,0,n)->ay w.heap.size->lC phx' ay w' (view w' ay) (cV B id j6) id j6) :
  ∃phx' ay,Mem K w0 phx' ay (cV B id j6) w'/\cm phx M B w phx' ay (cV B id j6) w'/\phx' id=some (w.heap.size,0,n):=by
 obtain⟨bD,e1⟩:=hm.CJ O R af (JA ac) Y (λb=>b=w.heap.size) (λb h=>J);obtain⟨cn,aN⟩:=bD.uY hid j6 (some (w.heap.size,0,n)) (λ_ y hy ap=>by cases hy;have O:=hm.klt _ ap;have R:=hm.size;omega) (λ_ y hy j an z bj=>by cases hy;have:=(hm.blks j).lt an bj;omega) (λaA=>ah _ _ (e1.trans aA) (lU _ _ _) (.inr rfl))
 exact⟨_,_,cn,e1.trans aN,lU _ _ _⟩
def q4(w:World)(o:Obj)(b:Nat)(h:b<w.heap.size):(w.alloc o).heap[b]?=w.heap[b]?:=by
 show(w.heap.push o)[b]?=_
 grind
def q3(w:World)(o:Obj):(w.alloc o).heap[w.heap.size]?=some o:=by show(w.heap.push o)[w.heap.size]?=_;simp
def iv(w:World)(o:Obj):(w.alloc o).heap.size=w.heap.size+1:=bh
def xO(c:Array Value):h4 c (0,0):=.inl rfl
def Iq{c:Array Value}{cu:List Value}(h:c.toList=cu)(aj:cu.length=n):cH c 0 n=cu:=by simp only[cH,h];subst aj;simp
def Xk{t:ae}{tid:TypeId}(ht:(cP P t).1 tid){id:Nat}(hid:B id=.new){pv:au}{v:Value}{cu:List Value}(hm:Mem K w0 phx M B w)(aC:v.cells.toList=cu)(hT:e2 phx (view w M) B pv t cu):
  ∃r w',(Instr.box tid v).run P w=.ok r w'/\dq K w0 phx M B w (cV B id (.box t pv)) (.ptr id []) r w':=by
 have cQ:v.cells.size=t.size:=by rw[<- hT.length,<- aC];simp
 refine⟨.pointer (some ⟨w.heap.size,0,none⟩),w.alloc (.cells v.cells tid),by simp[Instr.box,newVar,Go.newRow],?_⟩;obtain⟨phx',ay,bD,e1,O⟩:=hm.born hid (w':=w.alloc (.cells v.cells tid)) rfl rfl rfl bh (q4 w _) (.box t pv) v.cells.size λphx' ay aA hp dS=>by refine⟨w.heap.size,0,v.cells,tid,(0,0),hp,q3 w _,J,?_,xO _,dS⟩;rw[Iq aC hT.length];exact aA.b8 hT
 refine⟨phx',ay,bD,e1,?_⟩;simp only[a?,dZ,bM,eM];exact⟨_,_,_,0,t,O,Mx t,rfl⟩
def yG{H:cg}:∀t:ae,e2 phx H B (m0 t) t (dz t)
 |.bool=>⟨rfl,aH.zero _ .bool⟩
 |.int k=>⟨rfl,aH.zero _ (.int k)⟩
 |.str=>⟨rfl,aH.zero _ .str⟩
 |.sl e=>⟨rfl,_,rfl,rfl,rfl⟩
 |.unit=>⟨rfl,aH.zero _ .unit⟩
 |.pair a b=>⟨_,_,rfl,yG a,yG b⟩
 |.ar n e=>⟨rfl,aH.zero _ (.ar n e)⟩
 |.op k=>⟨rfl,aH.zero _ (.op k)⟩
 |.fn l=>⟨rfl,aH.zero _ (.fn l)⟩
def A0{t:ae}{tid:TypeId}(ht:(cP P t).1 tid)(w:World):(zeroValue tid).run P w=.ok (cv t (dz t)) w:=by obtain⟨i,O,R,af,aq⟩:=nc ht;unfold zeroValue;simp[afl O,aq]
def s?(t:ae):(cv t (dz t)).cells=(dz t).toArray:=HB (aH.zero (λ_=>none) t)
def aiO{t:ae}{tid:TypeId}(ht:(cP P t).1 tid){id:Nat}(hid:B id=.new)(hm:Mem K w0 phx M B w):
  ∃r w',(Instr.alloc tid true (.tuple #[])).run P w=.ok r w'/\dq K w0 phx M B w (cV B id (.box t (m0 t))) (.ptr id []) r w':=by
 obtain⟨r,w',O,R⟩:=Xk ht hid hm (v:=cv t (dz t)) (cu:=dz t) (by rw[s?]) (yG t);refine⟨r,w',?_,R⟩;simp only[Instr.box]at O;simp[Instr.alloc,A0 ht]at O ⊢;exact O
def D0(hm:Mem K w0 phx M B w){id:Nat}(hid:B id=.new){w':World}(O:w'.os=w.os)(R:w'.tape=w.tape)(af:w'.output=w.output)(ac:w.heap.size<w'.heap.size)
  (Y:∀b,b<w.heap.size->w'.heap[b]?=w.heap[b]?) {e:ae} (dB:0<e.size) {l:List e.aD} {gF:Array Value} {el:TypeId} {fz:Nat×Nat} (ai:w'.heap[w.heap.size]?=some (.cells gF el fz)) (hf:h4 gF fz)
  {H:cg} (cy:H.cb (full w)) (d9:e3 (view w M) e l gF 0) {cap:Nat} (ld:l.length<=cap) (i6:cap<=maxLen) (cQ:cap*e.size<=gF.size) (d':Bool) (eC:d'=true->l.length≠0) :
  dq K w0 phx M B w (cV B id (.ob e l)) (.own id d') (.slice (some ⟨w.heap.size,0,none⟩) l.length cap) w':=by
 obtain⟨phx',ay,bD,e1,dF⟩:=hm.born hid O R af ac Y (.ob e l) gF.size λphx' ay aA hp dS=>
  ⟨dB,.inr ⟨w.heap.size,0,gF,el,fz,hp,ai,d9.mono aA.vw,hf,dS⟩⟩
 refine⟨phx',ay,bD,e1,?_⟩;simp only[a?,dZ,bM,eM];exact⟨.inr ⟨_,0,_,cap,dF,bh,ld,i6,by simpa using cQ⟩,eC⟩
def vS{id:Nat}{e:ae}{l:List e.aD}{r:au}(h:(Yp.vR id e l d').aY g B=some (r,B')):0<e.size/\B id=.new/\r=.own id d'/\B'=cV B id (.ob e l):=by replace h:=gx h;obtain⟨ao,h⟩:=h;replace h:=CC h;obtain⟨O,h⟩:=h;cases h;exact⟨by simpa using ao,O,rfl,rfl⟩
def ayZ{z:List Value}(h:i<n):(madeCells z.toArray n)[i]?=some (z.toArray[i%z.length]!):=by simp[madeCells,h]
def ay0{z:List Value}(bj:0<z.length)(h:i<m):cH (madeCells z.toArray (m*z.length)) (i*z.length) z.length=z:=by
 have le:(i+1)*z.length<=m*z.length:=iq _ h;rw[fH]at le;apply tf;intro j;by_cases an:j<z.length
 .rw[uz an,ayZ J]
  have:(i*z.length+j)%z.length=j:=by rw[Nat.add_comm,Nat.add_mul_mod_self_right,lY an]
  grind
 have hl:=pX (c:=madeCells z.toArray (m*z.length)) (o:=i*z.length) (n:=z.length) (by rw[size_madeCells];omega)
 grind
def Ow(H:cg){e:ae}(dB:0<e.size)(h:n<=m):e3 H e (bO n e.zero) (madeCells (dz e).toArray (m*e.size)) 0:=by
 refine⟨?_,λi x hi => ?_⟩
 .rw[size_madeCells];simp only[bO,oy,jw];exact iq _ h
 simp only[ bO,Wv]at hi;split at hi
 .rename_i fA
  cases hi;have hl:=rU e;have:=ay0 (z:=dz e) (m:=m) (i:=i) J J;rw[hl]at this;rw[jw,this];exact aH.zero H e
 cases hi
def ajX(e:ae):0<e.bytes:=by unfold ae.bytes;split<;>omega
def ae8{e:ae}:g7 e n=true↔n*e.bytes<=140737488355328:=by exact decide_eq_true_iff
def Nb{e:ae}(h:g7 e n=true):n<=maxLen:=by rw[ae8]at h;have:n*1<=n*e.bytes:=BJ _ (ajX e);unfold maxLen;omega
def Na{e:ae}(h:g7 e n=true)(Y:b<=e.bytes):n*b<=140737488355328:=by rw[ae8]at h;have:n*b<=n*e.bytes:=BJ _ Y;omega
def asZ{e:ae}{tid:TypeId}(ht:(cP P (.sl e)).1 tid){id:Nat}{l c:Int}{kl kc:IntKind}{r:au}(hm:Mem K w0 phx M B w)
  (h:(aw.chk (cZ (ca 0 l c) (g7 e (aa c))) (Yp.vR id e (bO (aa l) e.zero) false)).aY g B=some (r,B')) :
  ∃v w',(Instr.makeSlice tid (.int kl l) (.int kc c)).run P w=.ok v w'/\dq K w0 phx M B w B' r v w':=by
 replace h:=iK h;obtain⟨ai,h⟩:=h;simp only[cZ,cM]at ai;obtain⟨ao,hid,rfl,rfl⟩:=vS h;obtain⟨_,bF,b3⟩:=rk.1 ai.1;have fT:=ai.2;obtain⟨⟨bc,aL,aA⟩,_⟩:=ht;obtain⟨i,g1,bw,cX,gd⟩:=nc aA;have CR:=Na fT cX;have i6:=Nb fT;have aj:((aa c:Nat):Int)=c:=by unfold aa;omega
 have apb:(i.bytes:Int)*c<=281474976710656:=by
  grind
 have ah:=run_make (P:=P) w tid bc i _ aL g1 gd kl kc l c bF b3 apb (by unfold maxLen at i6;omega);refine⟨_,_,ah,?_⟩;rw[s?,bw];have cr:(bO (aa l) e.zero).length=l.toNat:=by simp[bO,aa]
 have:=D0 (K:=K) (w0:=w0) (phx:=phx) (M:=M) (B:=B) (w:=w) hm hid (w':=w.alloc (.cells (madeCells (dz e).toArray (c.toNat*e.size)) bc)) rfl rfl rfl bh (q4 w _) ao
  (l:=bO (aa l) e.zero) (q3 w _) (xO _) (rO w M) (Ow _ ao (by unfold aa;omega)) (cap:=c.toNat) J J (by rw[size_madeCells];exact bU _) false (λh=>by cases h)
 grind
def avw{tid:TypeId}(aL:P.underlying tid=some .string){id:Nat}(hid:B id=.new)(hm:Mem K w0 phx M B w):
  ∃v w',(Instr.range tid (.string ⟨l.toArray⟩)).run P w=.ok v w'/\dq K w0 phx M B w (cV B id (.it l 0)) (.itp id) v w':=by
 refine⟨.pointer (some ⟨w.heap.size,0,none⟩),w.alloc (.stringIter ⟨l.toArray⟩ 0),by simp[Instr.range,run_underlying aL],?_⟩;obtain⟨phx',ay,bD,e1,dF⟩:=hm.born hid (w':=w.alloc (.stringIter ⟨l.toArray⟩ 0)) rfl rfl rfl bh (q4 w _) (.it l 0) 0 λphx' ay aA hp dS=>
  ⟨w.heap.size,hp,q3 w _,dS⟩
 refine⟨phx',ay,bD,e1,?_⟩;simp only[a?,dZ,bM,eM]
 grind
end
end Yp
namespace Yp
open Go
def ov:=@List.length_map
def mw:=@Nat.mul_one
def BL:=@List.getElem?_append_right
def EU:=@List.getElem?_append_left
def yU:=@List.cons.injEq
variable {P:Program}
section
variable {K:Kp} {w0 w:World} {phx:cc} {M:Nat->Prop} {B B':Nat->aQ} {g:Nat->au} {H:cg}
def eU(H:cg)(e:ae)(l:List e.aD)(cs:List Value):Prop:=cs.length=l.length*e.size/\∀(i:Nat) (x:e.aD),hO l i=some x->aH H e x ((cs.drop (i*e.size)).take e.size)
def Dg{l:List α}{x:α}(h:hO l i=some x):i<l.length:=(mt.1 h).1
def xJ{s:Nat}(h:i<n):i*s+s<=n*s:=by
 have:=iq s (show i+1<=n from h)
 grind
def e3.r?{e:ae}{l:List e.aD}{c:Array Value}(h:e3 H e l c o):eU H e l (cH c o (l.length*e.size)):=by refine⟨pX h.1,λi x hi => ?_⟩;rw[D5 _ _ _ _ _ (xJ (Dg hi))];exact h.2 i x hi
def eU.row{e:ae}{l:List e.aD}{c:Array Value}(aj:o+l.length*e.size<=c.size)(h:eU H e l (cH c o (l.length*e.size))):e3 H e l c o:=by
 refine⟨aj,λi x hi => ?_⟩;have:=h.2 i x hi
 rwa [D5 _ _ _ _ _ (xJ (Dg hi))]at this
def eU.nil(e:ae):eU H e [] []:=⟨bh,λi x hi=>by simp[hO]at hi⟩
def eU.append{e:ae}{l m:List e.aD}{cs ds:List Value}(h:eU H e l cs)(k:eU H e m ds):eU H e (l++m) (cs++ds):=by
 refine⟨by rw[cG,cG,h.1,k.1,fH],λi x hi => ?_⟩;by_cases hl:i<l.length
 .simp only[hO]at hi
  rw[EU hl]at hi;rw[QD _ _ _ _ (by rw[h.1];exact xJ hl)];exact h.2 i x hi
 simp only[hO]at hi;rw[BL J]at hi;have:=k.2 (i-l.length) x hi;rw[<- QF cs ds,h.1,<- fH]at this
 grind
def eU.one{e:ae}{l:List e.aD}{cs:List Value}(h:eU H e l cs):∀v∈cs,v.oneCell'=true:=by intro v aC;obtain⟨i,hi,hm⟩:=ac2 _ _ cs h.1 v aC;exact(h.2 i _ (jN hi)).one v hm
def eU.bytes(l:List UInt8):eU H (.int .u8) (l:List (bH .u8)) (l.map λb=>Value.int .u8 b.toNat):=by
 refine⟨by simp only[ov,ae.size,mw];rfl,λi x hi => ?_⟩;simp only[ae.size,mw];have:((l.map λb=>Value.int .u8 (b.toNat:Int)).drop i).take 1=[Value.int .u8 (bH.to .u8 x)]:=by
  apply tf;intro j;cases j with
  |zero =>have gG:l[i]?=some (x:UInt8):=hi;simp[gG];rfl
  |succ j=>simp[ER]
 rw[this];rfl
def awp{id:Nat}{e:ae}{x:List e.aD}(h:(AY false id e).aY g B=some (x,B'))(hm:Mem K w0 phx M B w):
  B'=B/\OV B id e x/\((phx id=none/\x.length=0)\/∃b o c el fz,phx id=some (b,o,c.size)/\w.heap[b]?=some (.cells c el fz)/\e3 (view w M) e x c o):=by
 have Y:=hm.blks id;simp only[AY,aw.aY]at h;cases aB:B id with
 |ob bC l=>
  rw[aB]at h Y;obtain⟨y,cS,O,R⟩:=aw.cA h;obtain⟨ai,rfl⟩:=dE O;obtain⟨fm,rfl⟩:=jg ai;subst fm;cases R;refine⟨rfl,.inl aB,?_⟩;rcases Y.2 with h|⟨b,o,c,el,fz,g1,bw,cX,_⟩
  .exact .inl h
  exact .inr ⟨b,o,c,el,fz,g1,bw,cX⟩
 |fz bC l=>
  rw[aB]at h Y;obtain⟨ai,rfl⟩:=dE h;obtain⟨fm,rfl⟩:=jg ai;subst fm;refine⟨rfl,.inr (.inl aB),?_⟩;rcases Y.2 with h|⟨b,o,c,el,fz,g1,bw,cX⟩
  .exact .inl h
  exact .inr ⟨b,o,c,el,fz,g1,(js.1 bw).2,cX⟩
 |box t v=>
  rw[aB]at h Y;cases t<;>try(cases h;done)
  rename_i n bC;obtain⟨l,cS,O,R⟩:=aw.cA h;clear h;obtain⟨hl,rfl⟩:=dE O;obtain⟨y,b4,af,aq⟩:=aw.cA R;clear R;obtain⟨ai,rfl⟩:=dE af;obtain⟨fm,rfl⟩:=jg ai;subst fm;obtain⟨_,h⟩:=gx aq;clear aq;cases h;obtain⟨eh,sM,c0,r',si,g1,bw,cX,gd,kw,sj⟩:=Y;obtain⟨cr,d9⟩:=J3 (rJ hl gd) cX;exact⟨rfl,.inr (.inr ⟨v,by show _=aQ.box (.ar (List.length (α:=bC.aD) l) bC) v;rw[cr];exact aB⟩),.inr ⟨eh,sM,c0,r',si,g1,bw,d9⟩⟩
 |new=>rw[aB]at h;cases h
 |e9=>rw[aB]at h;cases h
 |it s p=>rw[aB]at h;cases h
 |mp kt vt l=>rw[aB]at h;cases h
def UN{e:ae}{x:au}{gU:Value}{bs:List e.aD}(h:(lT false (.sl e) x).aY g B=some (bs,B'))(hm:Mem K w0 phx M B w)(ah:a? phx (view w M) B x gU):
  B'=B/\∃ad cap,gU=.slice ad bs.length cap/\(bs=[]\/∃b o c el fz,ad=some ⟨b,o,none⟩/\w.heap[b]?=some (.cells c el fz)/\e3 (view w M) e bs c o):=by
 have plain:∀{v:Value},aH (view w M) (.sl e) bs [v]->∃ad cap,v=.slice ad bs.length cap/\(bs=[]\/∃b o c el fz,ad=some ⟨b,o,none⟩/\w.heap[b]?=some (.cells c el fz)/\e3 (view w M) e bs c o):=by
  intro v cx;obtain⟨ad,cap,O,_,_,aq⟩:=aH.ic.1 cx;simp only[yU,and_true]at O;refine⟨ad,cap,O,?_⟩;rcases aq with aq|⟨b,o,c,el,fz,g1,bw,cX⟩
  .exact .inl aq
  exact .inr ⟨b,o,c,el,fz,g1,(js.1 bw).2,cX⟩
 have row:∀{id:Nat} {bC:ae} {l:List bC.aD},(B id=.ob bC l\/B id=.fz bC l)->(phx id=none/\l.length=0)\/∃b o c el fz,phx id=some (b,o,c.size)/\w.heap[b]?=some (.cells c el fz)/\e3 (view w M) bC l c o:=by
  intro id bC l Y;have dD:=hm.blks id;rcases Y with Y|Y<;>rw[Y]at dD
  .rcases dD.2 with h|⟨b,o,c,el,fz,g1,bw,cX,_⟩
   .exact .inl h
   exact .inr ⟨b,o,c,el,fz,g1,bw,cX⟩
  rcases dD.2 with h|⟨b,o,c,el,fz,g1,bw,cX⟩
  .exact .inl h
  exact .inr ⟨b,o,c,el,fz,g1,(js.1 bw).2,cX⟩
 have Ua:∀{id:Nat} {l:List e.aD} {off n:Nat} {v:Value},((phx id=none/\l.length=0)\/∃b o c el fz,phx id=some (b,o,c.size)/\w.heap[b]?=some (.cells c el fz)/\e3 (view w M) e l c o)->hu phx id e off n v->off+n<=l.length ->
   ∃ad cap,v=.slice ad (cut l off n).length cap/\(cut l off n=[]\/∃b o c el fz,ad=some ⟨b,o,none⟩/\w.heap[b]?=some (.cells c el fz)/\e3 (view w M) e (cut l off n) c o):=by
  intro id l off n v Y aK bY;rw[k_ bY];rcases aK with⟨O,a,R⟩|⟨b,o,m,cap,O,R,af,aq,a8⟩
  .subst O;exact⟨a,0,R,.inl (by simp[cut])⟩
  refine⟨_,cap,R,?_⟩;rcases Y with⟨bF,b3⟩|⟨b',di,c,el,fz,bF,b3,dp⟩
  .exact .inl (k3.1 (by rw[k_ bY];omega))
  rw[O]at bF;cases bF;refine .inr ⟨b,o+off*e.size,c,el,fz,rfl,b3,?_,λi x hi => ?_⟩
  .rw[k_ bY]
   have cT:=dp.1;have:(off+n)*e.size<=l.length*e.size:=iq _ bY;rw[fH]at this;omega
  have fA:=Dg hi;rw[k_ bY]at fA;rw[FM fA]at hi;have:=dp.2 (off+i) x hi;rw[fH,<- jv]at this;exact this
 unfold lT at h;cases x<;>try(cases h;done)
 case sc t y =>obtain⟨ai,rfl⟩:=dE h;obtain⟨bC,rfl⟩:=u2 ai;subst bC;obtain⟨cs,cx,rfl⟩:=ah;obtain⟨ad,cap,rfl,_⟩:=aH.x?.1 cx;exact⟨rfl,plain cx⟩
 case nil =>have h:(aw.opt (Tz (.sl e))).aY g B=some (bs,B'):=h;obtain⟨ai,rfl⟩:=dE h;cases ai;simp only[a?,dZ,bM]at ah;subst ah;exact⟨rfl,none,0,rfl,.inl rfl⟩
 case csl bC l =>obtain⟨ai,rfl⟩:=dE h;obtain⟨fm,rfl⟩:=jg ai;subst fm;obtain⟨ad,_,cx⟩:=ah;exact⟨rfl,plain cx⟩
 case agg t u =>exfalso;obtain⟨bu,_⟩:=ah;have bL:(bif ae.is t (.sl e) then yl false u (.sl e) else .fail:aw (ae.sl e).aD).aY g B=some (bs,B'):=h;obtain⟨hi,_⟩:=gx bL;have:=eD hi;subst this;cases bu
 case own id d'=>
  have ac:bM phx (view w M) B (.own id d') gU:=ah;have bL:(sW false id e).aY g B=some (bs,B'):=h;simp only[sW,aw.aY]at bL;simp only[bM]at ac;generalize aB:B id=bl at bL ac;cases bl<;>try(cases bL;done)
  .obtain⟨y,cS,O,R⟩:=aw.cA bL
   obtain⟨ai,rfl⟩:=dE O;obtain⟨fm,rfl⟩:=jg ai;subst fm;cases R;have:=Ua (row (.inl aB)) ac.1 J;rw[Ci]at this;exact⟨rfl,this⟩
  obtain⟨ai,rfl⟩:=dE bL;obtain⟨fm,rfl⟩:=jg ai;subst fm;have:=Ua (row (.inr aB)) ac.1 J;rw[Ci]at this;exact⟨rfl,this⟩
 case osl id off n =>have ac:bM phx (view w M) B (.osl id off n) gU:=ah;have bL:((AY false id e).bind λx=>.ret (cut x off n)).aY g B=some (bs,B'):=h;obtain⟨z,cS,af,aq⟩:=aw.cA bL;cases aq;obtain⟨rfl,a8,cT⟩:=awp af hm;obtain⟨dN,cz⟩:=aec a8 ac;exact⟨rfl,Ua cT cz dN⟩
def m5(P:Program)(w:World)(size n:Nat)(x:Value)(news:List Value):Prop:=
 (∀w':World,(Builtin.lenOf x).run P w'=.ok n w')/\∀w':World,w'.heap=w.heap->(Builtin.firstCells size n x).run P w'=.ok news.toArray w'
def Vf{e:ae}{l:List e.aD}{c:Array Value}{el:TypeId}{fz:Nat×Nat}{cap:Nat}(Y:w.heap[b]?=some (.cells c el fz))(ah:e3 H e l c o):
  m5 P w e.size l.length (.slice (some ⟨b,o,none⟩) l.length cap) (cH c o (l.length*e.size)):=by
 refine⟨λ_=>rfl,λw' bb => ?_⟩;exact D1 (by rw[bb];exact Y) ah.1
def Ve(s:Nat)(ad:Option Addr)(cap:Nat):m5 P w s 0 (.slice ad 0 cap) []:=by refine⟨λ_=>rfl,λw' _ => ?_⟩;cases ad<;>simp[Builtin.firstCells,loadCells,loadCellsFrom]
def axJ(l:List UInt8):m5 P w 1 l.length (.string ⟨l.toArray⟩) (l.map λb=>Value.int .u8 b.toNat):=by refine⟨λ_=>rfl,λw' _ => ?_⟩;simp only[Builtin.firstCells];simp
def Nd{t u ty bc:TypeId}{i:TypeInfo}{d:TypeDesc}(ht:P.underlying t=some (.slice bc))(aL:P.underlying u=some d)(aF:d=.string\/∃q,d=.slice q)(hi:P.info? bc=some i)
  {x:Value} {n:Nat} {news:List Value} (hx:m5 P w i.size n x news) {b o sLen sCap:Nat} (fT:sLen+n<=sCap) {c:Array Value} {el:TypeId} {fz:Nat×Nat} (Y:w.heap[b]?=some (.cells c el fz)) (hf:h4 c fz)
  (aj:o+sLen*i.size+news.length<=c.size) (O:∀v∈news,v.oneCell'=true) :
  ∃w',(Builtin.append_ #[t,u] ty #[.slice (some ⟨b,o,none⟩) sLen sCap,x]).run P w=.ok (.slice (some ⟨b,o,none⟩) (sLen+n) sCap) w' /\
   ∃cL:Array Value,JK w w' b (.cells cL el fz)/\cL.toList=hC c.toList (o+sLen*i.size) news:=by
 obtain⟨w',R,cL,af,aq⟩:=Im (P:=P) (b:=b) (el:=el) (fz:=fz) (o:=o+sLen*i.size) news 0 c w Y hf J O;refine⟨w',?_,cL,af,by simpa using aq⟩;have e1:=hx.1 w;have aN:=hx.2 w rfl;rcases aF with rfl|⟨q,rfl⟩<;>simp[Builtin.append_,run_underlying ht,run_underlying aL,Go.sizeOf,typeInfo,hi,e1,aN,fT,qc,R]
def UH{t u ty bc:TypeId}{i:TypeInfo}{d:TypeDesc}(ht:P.underlying t=some (.slice bc))(aL:P.underlying u=some d)(aF:d=.string\/∃q,d=.slice q)(hi:P.info? bc=some i)
  {x:Value} (hx:m5 P w i.size 0 x []) {ad:Option Addr} {sCap:Nat} :
  (Builtin.append_ #[t,u] ty #[.slice ad 0 sCap,x]).run P w=.ok (.slice ad 0 sCap) w:=by
 have e1:=hx.1 w;have aN:=hx.2 w rfl;cases ad<;>(rcases aF with rfl|⟨q,rfl⟩<;>simp[Builtin.append_,run_underlying ht,run_underlying aL,Go.sizeOf,typeInfo,hi,e1,aN,storeCells])
def UG{t u ty bc:TypeId}{i:TypeInfo}{z:Value}{d:TypeDesc}(ht:P.underlying t=some (.slice bc))(aL:P.underlying u=some d)(aF:d=.string\/∃q,d=.slice q)(hi:P.info? bc=some i)(bj:i.zero=some z)
  {x:Value} {n:Nat} {news:List Value} (hx:m5 P w i.size n x news) {ad:Option Addr} {sLen sCap:Nat} {olds:List Value} (aK:m5 P w i.size sLen (.slice ad sLen sCap) olds) (hg:sCap<sLen+n)
  (i6:sLen+n<=maxLen) (hK:(sLen+n)*i.bytes<=140737488355328) :
  (Builtin.append_ #[t,u] ty #[.slice ad sLen sCap,x]).run P w =
   .ok (.slice (some ⟨w.heap.size,0,none⟩) (sLen+n) (grownCap w (sLen+n) sCap bc))
    (w.drew.alloc (.cells (olds.toArray++news.toArray++Builtin.zeroCells z.cells (grownCap w (sLen+n) sCap bc-(sLen+n))) bc)):=by
 have aj:¬(sLen+n<=sCap):=J;have RH:¬(9223372036854775807<((sLen:Int)+(n:Int))):=by unfold maxLen at i6;omega
 have apU:=growslice_fits hg hK;have RG:¬(281474976710656<Builtin.nextslicecap (sLen+n) sCap*i.bytes):=J;have e1:=hx.1 w;have aN:=hx.2 w.drew rfl;have dJ:=aK.2 w.drew rfl;rcases aF with rfl|⟨q,rfl⟩<;>simp[Builtin.append_,run_underlying ht,run_underlying aL,Go.sizeOf,typeInfo,zeroValue,hi,bj,e1,aj,RH,RG,Question.forced,aN,dJ,Go.newRow,grownCap]<;>(congr 2;apply m3;simp)
end
end Yp
namespace Yp
open Go
def gu:=@List.length_nil
def hF:=@List.append_nil
def pg:=@List.size_toArray
def nD:=@List.drop_zero
def wI:=@Array.size_append
def qa:=@Nat.le_succ
def wB:=@List.take_left
def E?:=@Nat.lt_succ_self
def J1:=@Array.toList_append
variable {P:Program}
section
variable {K:Kp} {w0 w:World} {phx:cc} {M:Nat->Prop} {B B':Nat->aQ} {g:Nat->au} {H:cg}
def af4{c cL:Array Value}{vs:List Value}(ai:cL.toList=hC c.toList o vs)(aj:o+vs.length<=c.size)(h:a+n<=o):cH cL a n=cH c a n:=by rw[rF,ai,IM J (.inl h),<- rF]
def af5{c cL:Array Value}{vs:List Value}(ai:cL.toList=hC c.toList o vs)(aj:o+vs.length<=c.size):cH cL o vs.length=vs:=by
 rw[rF,ai];unfold hC
 grind
def ags{c cL:Array Value}{vs:List Value}(ai:cL.toList=hC c.toList o vs)(aj:o+vs.length<=c.size):cL.size=c.size:=by have:=congrArg List.length ai;rw[Eg J]at this;omega
def e3.cut{H:cg}{e:ae}{l:List e.aD}{c:Array Value}(h:e3 H e l c o)(bY:off+m<=l.length):e3 H e (cut l off m) c (o+off*e.size):=by
 have hl:=k_ bY;have le:(off+m)*e.size<=l.length*e.size:=iq _ bY;rw[fH]at le;refine⟨by rw[hl];have:=h.1;omega,λi x hi => ?_⟩;have bm:=Dg hi;rw[hl]at bm;rw[FM bm]at hi;have:=h.2 (off+i) x hi
 rwa [fH,<- jv]at this
def W0{e:ae}(dB:0<e.size){t u ty bc:TypeId}{d:TypeDesc}(ht:P.underlying t=some (.slice bc))(aA:(cP P e).1 bc)(aL:P.underlying u=some d)(aF:d=.string\/∃q,d=.slice q)
  (hm:Mem K w0 phx M B w) {x:Value} {bs:List e.aD} {news:List Value} (hx:m5 P w e.size bs.length x news) (b?:eU (view w M) e bs news)
  {id off m:Nat} {l:List e.aD} {vs:Value} (aB:B id=.ob e l) (bY:off+m<=l.length) (vx:hu phx id e off m vs) (fT:g7 e (m+aT bs)=true) {jV:Nat} (gg:B jV=.new) :
  ∃r w',(Builtin.append_ #[t,u] ty #[vs,x]).run P w=.ok r w'/\dq K w0 phx M B w (cV (cV B id .e9) jV (.ob e (Yp.cut l off m++bs))) (.own jV false) r w':=by
 have eC:jV≠id:=λe=>by rw[e,aB]at gg;cases gg
 obtain⟨i,g1,bw,cX,gd⟩:=nc aA;have CR:=Na fT cX;have i6:=Nb fT;have dD:=hm.blks id;rw[aB]at dD;have ve:=b?.1;have eB:=k_ bY

 have CJ:∀{ad:Option Addr} {cap:Nat} {olds:List Value},m5 P w e.size m (.slice ad m cap) olds->eU (view w M) e (Yp.cut l off m) olds->cap<m+bs.length ->
   ∃r w',(Builtin.append_ #[t,u] ty #[.slice ad m cap,x]).run P w=.ok r w'/\dq K w0 phx M B w (cV (cV B id .e9) jV (.ob e (Yp.cut l off m++bs))) (.own jV false) r w':=by
  intro ad cap olds aK Gl hg;have ah:=UG (P:=P) (w:=w) (ty:=ty) ht aL aF g1 gd (x:=x) (n:=bs.length) (news:=news) (by rw[bw];exact hx) (ad:=ad) (sLen:=m) (sCap:=cap) (olds:=olds) (by rw[bw];exact aK) hg i6 CR;refine⟨_,_,ah,?_⟩;obtain⟨bD,e1⟩:=hm.e9 id;have n0:=grownCap_ge w (m+bs.length) cap bc;have nZ:=grownCap_le_maxLen w (m+bs.length) cap bc i6;have Gk:=Gl.append b?;have cr:(Yp.cut l off m++bs).length=m+bs.length:=by rw[cG,eB]
  have tW:cH (olds.toArray++news.toArray++Builtin.zeroCells (cv e (dz e)).cells (grownCap w (m+bs.length) cap bc-(m+bs.length))) 0 ((Yp.cut l off m++bs).length*e.size)=olds++news:=by rw[rF,<- Gk.1];simp only[J1,nD];exact wB
  have cQ:grownCap w (m+bs.length) cap bc*e.size=(olds.toArray++news.toArray++Builtin.zeroCells (cv e (dz e)).cells (grownCap w (m+bs.length) cap bc-(m+bs.length))).size:=by rw[wI,size_zeroCells,s?];simp only[wI,pg,rU,Gl.1,ve,eB,<- fH];congr 1;omega
  have d9:e3 (view w M) e (Yp.cut l off m++bs) (olds.toArray++news.toArray++Builtin.zeroCells (cv e (dz e)).cells (grownCap w (m+bs.length) cap bc-(m+bs.length))) 0:=by
   refine eU.row ?_ ?_
   .rw[<- cQ,jw,cr];exact iq _ n0
   rw[tW];exact Gk
  have:=D0 (K:=K) (w0:=w0) (phx:=phx) (M:=M) (B:=cV B id .e9) (w:=w) bD (id:=jV) (by rw[d6 _ _ eC];exact gg)
   (w':=w.drew.alloc (.cells (olds.toArray++news.toArray++Builtin.zeroCells (cv e (dz e)).cells (grownCap w (m+bs.length) cap bc-(m+bs.length))) bc))
   rfl rfl rfl (by rw[iv];exact E? _) (q4 w.drew _) dB (l:=Yp.cut l off m++bs) (q3 w.drew _) (xO _) (rO w M) d9 (cap:=grownCap w (m+bs.length) cap bc) (by rw[cr];exact n0) nZ (by rw[cQ];exact bU _) false (λh=>by cases h)
  obtain⟨phx',ay,cn,aN,R⟩:=this;rw[cr]at R;exact⟨phx',ay,cn,e1.trans aN,R⟩
 rcases vx with⟨O,ad,R⟩|⟨b,o,n,cap,O,R,af,aq,a8⟩
 .subst O;subst R
  have ng:Yp.cut l off 0=[]:=by simp[Yp.cut]
  by_cases hy:bs.length=0
  .have nl:bs=[]:=k3.1 hy
   subst nl;have aj:news=[]:=k3.1 (by rw[ve];simp);subst aj;refine⟨_,_,UH (P:=P) ht aL aF g1 (by rw[bw];exact hx),?_⟩;obtain⟨bD,e1⟩:=hm.e9 id;rw[ng];obtain⟨cn,aN⟩:=bD.uY (id:=jV) (by rw[d6 _ _ eC];exact gg) (.ob e ([]++[])) none (λ_ y hy=>by cases hy) (λ_ y hy=>by cases hy) (λ_=>⟨dB,.inl ⟨lU _ _ _,rfl⟩⟩);refine⟨_,_,cn,e1.trans aN,?_⟩;simp only[a?,dZ,bM,eM];exact⟨.inl ⟨rfl,ad,rfl⟩,λh=>by cases h⟩
  exact CJ (olds:=[]) (Ve _ _ _) (by rw[ng];exact eU.nil e) J
 subst R;rcases dD.2 with⟨bF,_⟩|⟨b',di,c,el,fz,bF,b3,dp,fP,go⟩
 .rw[O]at bF;cases bF
 rw[O]at bF;cases bF;have Hk:=dp.cut bY;have aK:m5 P w e.size m (.slice (some ⟨b,o+off*e.size,none⟩) m cap) (cH c (o+off*e.size) (m*e.size)):=by
  have:=Vf (P:=P) (cap:=cap) b3 Hk
  rwa [eB]at this
 by_cases hg:cap<m+bs.length
 .have:=Hk.r?
  rw[eB]at this;exact CJ aK this hg
 have SF:m+bs.length<=cap:=J;have le:(m+bs.length)*e.size<=cap*e.size:=iq _ SF;rw[fH]at le a8;obtain⟨w',ah,cL,hp,nf⟩:=Nd (P:=P) (w:=w) (ty:=ty) ht aL aF g1 (x:=x) (n:=bs.length) (news:=news) (by rw[bw];exact hx) (b:=b) (o:=o+off*e.size) (sLen:=m) (sCap:=cap) SF b3 fP (by rw[bw];omega) b?.one;rw[bw]at nf;have hK:o+off*e.size+m*e.size+news.length<=c.size:=J;have cQ:=ags nf hK;refine⟨_,w',ah,?_⟩;obtain⟨cn,Zg⟩:=hm.put (id:=id) (x:=(b,o,c.size)) (w':=w') (by rw[aB];rfl) O go hp.os hp.tape hp.output hp.size hp.other .e9 (by rw[aB];trivial) λaA=>trivial;obtain⟨gJ,dJ⟩:=cn.uY (id:=jV) (by rw[d6 _ _ eC];exact gg) (.ob e (Yp.cut l off m++bs)) (some (b,o+off*e.size,c.size)) (λ_ y hy=>by cases hy;exact hm.own id (by rw[aB];rfl) (b,o,c.size) O) (λ_ y hy j an z bj=>by
   cases hy;have dK:j≠id:=λe=>by subst e;rw[eM]at an;cases an
   rw[d6 _ _ dK]at an;exact hm.sep j id dK an (by rw[aB];rfl) z (b,o,c.size) bj O) (λaA=>by
  refine⟨dB,.inr ⟨b,o+off*e.size,cL,el,fz,by rw[lU,cQ],hp.iQ,?_,fP.same cQ,go⟩⟩;refine eU.row (by rw[cG,eB,fH];omega) ?_;rw[cG,eB,fH,Nq,af4 nf hK (bU _),<- ve,af5 nf hK];have bY:=Zg.vw;have dN:=(Hk.mono bY).r?;rw[eB]at dN;exact dN.append ⟨ve,λi x hi=>(b?.2 i x hi).mono bY⟩)
 refine⟨_,_,gJ,Zg.trans dJ,?_⟩;simp only[a?,dZ,bM,eM];refine⟨.inr ⟨b,o+off*e.size,c.size,cap,lU _ _ _,by rw[Nat.zero_mul,te,cG,eB],by rw[cG,eB];exact SF,aq,by rw[jw];omega⟩,λh=>by cases h⟩
def aiY{e:ae}(dB:0<e.size){t u ty bc:TypeId}{d:TypeDesc}(ht:P.underlying t=some (.slice bc))(aA:(cP P e).1 bc)(aL:P.underlying u=some d)(aF:d=.string\/∃q,d=.slice q)
  (hm:Mem K w0 phx M B w) {x:Value} {bs:List e.aD} {news:List Value} (hx:m5 P w e.size bs.length x news) (b?:eU (view w M) e bs news)
  {id:Nat} {l:List e.aD} {d':Bool} {vs:Value} (aB:B id=.ob e l) (ah:bM phx (view w M) B (.own id d') vs) (fT:g7 e (aT l+aT bs)=true) {jV:Nat} (gg:B jV=.new) :
  ∃r w',(Builtin.append_ #[t,u] ty #[vs,x]).run P w=.ok r w'/\dq K w0 phx M B w (cV (cV B id .e9) jV (.ob e (l++bs))) (.own jV false) r w':=by
 simp only[bM,aB]at ah;have:=W0 (ty:=ty) dB ht aA aL aF hm hx b? aB (off:=0) (m:=l.length) J ah.1 fT gg
 rwa [Ci]at this
def WZ{e:ae}(dB:0<e.size){t u ty bc:TypeId}{d:TypeDesc}(ht:P.underlying t=some (.slice bc))(aA:(cP P e).1 bc)(aL:P.underlying u=some d)(aF:d=.string\/∃q,d=.slice q)
  (hm:Mem K w0 phx M B w) {x:Value} {bs:List e.aD} {news:List Value} (hx:m5 P w e.size bs.length x news) (b?:eU (view w M) e bs news)
  {l:List e.aD} {ad:Option Addr} (cx:aH (view w M) (.sl e) l [.slice ad l.length l.length]) (fT:g7 e (aT l+aT bs)=true) :
  (∃r w',(Builtin.append_ #[t,u] ty #[.slice ad l.length l.length,x]).run P w=.ok r w'/\dq K w0 phx M B w B (.sc (.sl e) (l++bs)) r w') /\
  (bs.length≠0->∀jV,B jV=.new->∃r w',(Builtin.append_ #[t,u] ty #[.slice ad l.length l.length,x]).run P w=.ok r w'/\dq K w0 phx M B w (cV B jV (.ob e (l++bs))) (.own jV false) r w'):=by
 obtain⟨i,g1,bw,cX,gd⟩:=nc aA;have CR:=Na fT cX;have i6:=Nb fT;have ve:=b?.1;obtain⟨olds,aK,Gl⟩:∃olds,m5 P w e.size l.length (.slice ad l.length l.length) olds/\eU (view w M) e l olds:=by
  obtain⟨a',cL,bG,_,_,b_⟩:=aH.ic.1 cx;simp only[yU,Value.slice.injEq,and_true]at bG;rcases b_ with b_|⟨b,o,c,el,fz,cp,dl,eQ⟩
  .subst b_;exact⟨[],Ve _ _ _,eU.nil e⟩
  rw[<- bG.1]at cp;subst cp;exact⟨_,Vf (js.1 dl).2 eQ,e3.r? eQ⟩
 by_cases hy:bs.length=0
 .have nl:bs=[]:=k3.1 hy
  subst nl;have aj:news=[]:=k3.1 (by rw[ve];simp);subst aj;refine⟨?_,λh=>absurd hy h⟩;have jS:(Builtin.append_ #[t,u] ty #[.slice ad l.length l.length,x]).run P w=.ok (.slice ad l.length l.length) w:=by have e1:=hx.1 w;have aN:=hx.2 w rfl;rw[<- bw]at aN;simp only[gu]at e1 aN;cases ad<;>(rcases aF with rfl|⟨q,rfl⟩<;>simp[Builtin.append_,run_underlying ht,run_underlying aL,Go.sizeOf,typeInfo,g1,e1,aN,storeCells])
  refine⟨_,_,jS,dq.same hm rfl ?_⟩;rw[hF];exact⟨_,cx,rfl⟩
 have hg:l.length<l.length+bs.length:=J;have ah:=UG (P:=P) (w:=w) (ty:=ty) ht aL aF g1 gd (x:=x) (n:=bs.length) (news:=news) (by rw[bw];exact hx) (ad:=ad) (sLen:=l.length) (sCap:=l.length) (olds:=olds) (by rw[bw];exact aK) hg i6 CR;have n0:=grownCap_ge w (l.length+bs.length) l.length bc;have nZ:=grownCap_le_maxLen w (l.length+bs.length) l.length bc i6;have Gk:=Gl.append b?;generalize zF:(olds.toArray++news.toArray++Builtin.zeroCells (cv e (dz e)).cells (grownCap w (l.length+bs.length) l.length bc-(l.length+bs.length)))=gF at ah;have tW:cH gF 0 ((l++bs).length*e.size)=olds++news:=by rw[<- zF,rF,<- Gk.1];simp only[J1,nD];exact wB
 have cQ:grownCap w (l.length+bs.length) l.length bc*e.size=gF.size:=by rw[<- zF,wI,size_zeroCells,s?];simp only[wI,pg,rU,Gl.1,ve,<- fH];congr 1;omega
 have d9:e3 (view w M) e (l++bs) gF 0:=by
  refine eU.row ?_ ?_
  .rw[<- cQ,jw,cG];exact iq _ n0
  rw[tW];exact Gk
 refine⟨⟨_,_,ah,?_⟩,λ_ jV gg=>⟨_,_,ah,?_⟩⟩
 .obtain⟨bD,e1⟩:=hm.CJ (w':=w.drew.alloc (.cells gF bc)) rfl rfl rfl (by rw[iv];exact qa _) (q4 w.drew _) (λ_=>False) (λb h=>h.elim)
  refine⟨_,_,bD,e1,[_],aH.ic.2 ⟨some ⟨w.heap.size,0,none⟩,grownCap w (l.length+bs.length) l.length bc,by rw[cG],by rw[cG];exact n0,nZ,.inr ⟨w.heap.size,0,gF,bc,(0,0),rfl,?_,(d9.mono e1.vw).1,λi x hi=>(d9.mono e1.vw).2 i x hi⟩⟩,rfl⟩;refine js.2 ⟨λh=>h.elim (λh => ?_) id,q3 w.drew _⟩;have:=hm.mlt _ h;omega
 have:=D0 (K:=K) (w0:=w0) (phx:=phx) (M:=M) (B:=B) (w:=w) hm (id:=jV) gg
  (w':=w.drew.alloc (.cells gF bc)) rfl rfl rfl (by rw[iv];exact E? _) (q4 w.drew _) dB (l:=l++bs) (q3 w.drew _) (xO _) (rO w M) d9 (cap:=grownCap w (l.length+bs.length) l.length bc) (by rw[cG];exact n0) nZ (by rw[cQ];exact bU _) false (λh=>by cases h)
 rw[cG]at this;exact this
def aiX{e:ae}(dB:0<e.size){t u ty bc:TypeId}{d:TypeDesc}(ht:P.underlying t=some (.slice bc))(aA:(cP P e).1 bc)(aL:P.underlying u=some d)(aF:d=.string\/∃q,d=.slice q)
  (hm:Mem K w0 phx M B w) {x:Value} {bs:List e.aD} {news:List Value} (hx:m5 P w e.size bs.length x news) (b?:eU (view w M) e bs news) (fT:g7 e (aT bs)=true) {jV:Nat} (gg:B jV=.new) :
  ∃r w',(Builtin.append_ #[t,u] ty #[.slice none 0 0,x]).run P w=.ok r w'/\dq K w0 phx M B w (cV B jV (.ob e bs)) (.own jV false) r w':=by
 by_cases hy:bs.length=0
 .have nl:=k3.1 hy
  subst nl;have aj:=k3.1 (by rw[b?.1];simp);obtain⟨i,g1,bw,cX,gd⟩:=nc aA;refine⟨_,_,UH (P:=P) ht aL aF g1 (by grind),?_⟩;obtain⟨cn,aN⟩:=hm.uY (id:=jV) gg (.ob e []) none (λ_ y hy=>by cases hy) (λ_ y hy=>by cases hy) (λ_=>⟨dB,.inl ⟨lU _ _ _,rfl⟩⟩);refine⟨_,_,cn,aN,?_⟩;simp only[a?,dZ,bM,eM];exact⟨.inl ⟨rfl,none,rfl⟩,λh=>by cases h⟩
 have:=(WZ (ty:=ty) dB ht aA aL aF hm hx b? (l:=[]) (ad:=none) (aH.ic.2 ⟨none,0,rfl,bU _,J,.inl rfl⟩) (by simpa[aT]using fT)).2 hy jV gg
 grind
def awx{t u ty bc:TypeId}{i:TypeInfo}{z:Value}(ht:P.underlying t=some (.slice bc))(aL:P.underlying u=some (.int .i64))(hi:P.info? bc=some i)(bj:i.zero=some z){n:Int}(ao:0<=n)(aj:0<n.toNat)
  (i6:n.toNat<=maxLen) (hK:n.toNat*i.bytes<=140737488355328) (ac:0<i.size) :
  (Builtin.append_ #[t,u] ty #[.slice none 0 0,.int .i64 n]).run P w =
   .ok (.slice (some ⟨w.heap.size,0,none⟩) n.toNat (grownCap w n.toNat 0 bc))
    (w.drew.alloc (.cells (Builtin.zeroCells z.cells n.toNat++Builtin.zeroCells z.cells (grownCap w n.toNat 0 bc-n.toNat)) bc)):=by
 have C6:=ahJ .i64 n (by show(-9223372036854775808:Int)<=n;omega) (by show n<=(9223372036854775807:Int);unfold maxLen at i6;omega);have bm:¬n<0:=J;have hb1:¬(281474976710656<n*(i.bytes:Int)):=by
  grind
 have eC:¬(n.toNat*i.size=0):=by have:=Nat.mul_pos aj ac;omega
 have aqw:=J;have aqz:=J;have pG:=J;have RH:=J;have apU:=growslice_fits (need:=n.toNat) (old:=0) J hK;have RG:¬(281474976710656<Builtin.nextslicecap n.toNat 0*i.bytes):=J;have aqo:¬n<=0:=J;have CM:¬(9223372036854775807<n):=by unfold maxLen at i6;omega
 have aqn:max n 0=n:=J;simp[Builtin.append_,run_underlying ht,run_underlying aL,Go.sizeOf,typeInfo,zeroValue,hi,bj,C6,bm,hb1,eC,pG,aqw,aqz,RH,RG,Question.forced,asInt,asIntOf,Go.newRow,grownCap,Builtin.firstCells,aqo,CM,aqn,ao]
end
end Yp
namespace Yp
open Go
def nF:=@List.take_length
def pj:=@List.map_cons
def yM:=@List.foldl_cons
variable {P:Program}
section
variable {K:Kp} {w0 w:World} {phx:cc} {M:Nat->Prop} {B B':Nat->aQ} {g:Nat->au} {H:cg}
def W1{e:ae}{x:au}{gU:Value}{bs:List e.aD}(h:(Fj e x).aY g B=some (bs,B'))(hm:Mem K w0 phx M B w)(ah:a? phx (view w M) B x gU):
  B'=B/\∃news,m5 P w e.size bs.length gU news/\eU (view w M) e bs news:=by
 by_cases ac:∃l,x=.sc .str l
 .obtain⟨l,rfl⟩:=ac
  obtain⟨ai,rfl⟩:=dE h;obtain⟨bC,rfl⟩:=jg ai;subst bC;rw[a?.str ah];exact⟨rfl,_,axJ l,eU.bytes l⟩
 have hx:Fj e x=lT false (.sl e) x:=by
  cases x with
  |sc t l=>
   cases t with
   |str=>exact absurd ⟨_,rfl⟩ ac
   |_=>rfl
  |_=>rfl
 rw[hx]at h;obtain⟨aB,ad,cap,rfl,R⟩:=UN h hm ah;refine⟨aB,?_⟩;rcases R with R|⟨b,o,c,el,fz,rfl,bw,cX⟩
 .subst R;exact⟨[],Ve _ _ _,eU.nil e⟩
 exact⟨_,Vf bw cX,cX.r?⟩
def atq{e:ae}{x:au}{gU:Value}{bs:List e.aD}(aj:Tw x=true)(h:(Fj e x).aY g B=some (bs,B'))(ah:a? phx (view w M) B x gU):bs.length≠0:=by
 cases x<;>try(cases aj)
 rename_i id d';cases d'<;>try(cases aj)
 have ac:bM phx (view w M) B (.own id true) gU:=ah;have bL:(sW false id e).aY g B=some (bs,B'):=h;simp only[sW,aw.aY]at bL;simp only[bM]at ac;generalize aB:B id=bl at bL ac;cases bl<;>try(cases bL)
 .obtain⟨y,cS,O,R⟩:=aw.cA bL
  obtain⟨ai,rfl⟩:=dE O;obtain⟨fm,rfl⟩:=jg ai;cases R
  grind
 obtain⟨ai,rfl⟩:=dE bL;obtain⟨fm,rfl⟩:=jg ai
 grind
def af8{t:ae}{tid:TypeId}(h:(cP P t).1 tid)(ac:LV t=true):∃d,P.underlying tid=some d/\(d=.string\/∃q,d=.slice q):=by
 cases t<;>try(cases ac)
 .exact⟨_,h.1,.inl rfl⟩
 obtain⟨⟨bc,aL,_⟩,_⟩:=h;exact⟨_,aL,.inr ⟨_,rfl⟩⟩
def aiV{e u:ae}{tid uid ty:TypeId}(ht:(cP P (.sl e)).1 tid)(aL:(cP P u).1 uid)(a2:LV u=true){s x r:au}{vs gU:Value}(h:(Pi d e s x).aY g B=some (r,B'))
  (hm:Mem K w0 phx M B w) (vz:a? phx (view w M) B s vs) (mb:a? phx (view w M) B x gU) :
  ∃v w',(Builtin.append_ #[tid,uid] ty #[vs,gU]).run P w=.ok v w'/\dq K w0 phx M B w B' r v w':=by
 unfold Pi at h;replace h:=gx h;obtain⟨dB,h⟩:=h;have dB:0<e.size:=by simpa using dB
 obtain⟨bs,cS,O,R⟩:=aw.cA h;clear h;obtain⟨rfl,news,hx,b?⟩:=W1 (P:=P) O hm mb;obtain⟨⟨bc,pJ,aA⟩,_⟩:=ht;obtain⟨Ck,xr,aF⟩:=af8 aL a2;cases s<;>try(cases R;done)
 case nil =>replace R:=iK R;obtain⟨fT,R⟩:=R;obtain⟨_,gg,rfl,rfl⟩:=vS R;simp only[a?,dZ,bM]at vz;subst vz;exact aiX dB pJ aA xr aF hm hx b? fT gg
 case own id d'=>
  simp only[aw.aY]at R;generalize aB:cS id=bl at R;cases bl<;>try(cases R;done)
  rename_i bC l;obtain⟨g6,b4,af,R⟩:=aw.cA R;obtain⟨ai,rfl⟩:=dE af;obtain⟨fm,rfl⟩:=jg ai;subst fm;replace R:=iK R;obtain⟨fT,R⟩:=R;simp only[aw.aY]at R;obtain⟨_,gg,rfl,rfl⟩:=vS R;have eC:16*d≠id:=λe=>by rw[e,eM]at gg;cases gg
  rw[d6 _ _ eC]at gg;exact aiY dB pJ aA xr aF hm hx b? aB vz fT gg
 case osl id off n=>
  simp only[aw.aY]at R;have ac:bM phx (view w M) cS (.osl id off n) vs:=vz;simp only[bM]at ac;generalize aB:cS id=bl at R ac;cases bl<;>try(cases R;done)
  rename_i bC l;obtain⟨g6,b4,af,R⟩:=aw.cA R;obtain⟨ai,rfl⟩:=dE af;obtain⟨fm,rfl⟩:=jg ai;subst fm;replace R:=iK R;obtain⟨fT,R⟩:=R;simp only[aw.aY]at R;obtain⟨_,gg,rfl,rfl⟩:=vS R;have eC:16*d≠id:=λe=>by rw[e,eM]at gg;cases gg
  rw[d6 _ _ eC]at gg;exact W0 dB pJ aA xr aF hm hx b? aB ac.1 ac.2.1 fT gg
 case csl bC l=>
  obtain⟨g6,b4,af,R⟩:=aw.cA R;obtain⟨ai,rfl⟩:=dE af;obtain⟨fm,rfl⟩:=jg ai;subst fm;replace R:=iK R;obtain⟨fT,R⟩:=R;obtain⟨ad,rfl,cx⟩:=vz;have key:=WZ (ty:=ty) dB pJ aA xr aF hm hx b? cx fT;cases aj:Tw x with
  |true =>rw[aj]at R;obtain⟨_,gg,rfl,rfl⟩:=vS R;exact key.2 (atq aj O mb) _ gg
  |false =>rw[aj]at R;cases R;exact key.1
def aiW{e:ae}(dB:0<e.size){tid uid ty:TypeId}(ht:(cP P (.sl e)).1 tid)(aL:P.underlying uid=some (.int .i64)){n:Int}(ao:0<=n)(fT:g7 e n.toNat=true){id:Nat}(gg:B id=.new)(hm:Mem K w0 phx M B w):
  ∃v w',(Builtin.append_ #[tid,uid] ty #[.slice none 0 0,.int .i64 n]).run P w=.ok v w'/\dq K w0 phx M B w (cV B id (.ob e (bO n.toNat e.zero))) (.own id false) v w':=by
 obtain⟨⟨bc,pJ,aA⟩,_⟩:=ht;obtain⟨i,g1,bw,cX,gd⟩:=nc aA;by_cases aj:n.toNat=0
 .have bj:n=0:=J
  subst bj;refine⟨.slice none 0 0,w,by simp[Builtin.append_,run_underlying pJ,run_underlying aL,Go.sizeOf,typeInfo,g1,asInt,asIntOf,IntKind.wrap,IntKind.bits],?_⟩;obtain⟨cn,aN⟩:=hm.uY (id:=id) gg (.ob e (bO (0:Int).toNat e.zero)) none (λ_ y hy=>by cases hy) (λ_ y hy=>by cases hy) (λ_=>⟨dB,.inl ⟨lU _ _ _,rfl⟩⟩);refine⟨_,_,cn,aN,?_⟩;simp only[a?,dZ,bM,eM];exact⟨.inl ⟨rfl,none,rfl⟩,λh=>by cases h⟩
 have CR:=Na fT cX;have i6:=Nb fT;have ah:=awx (P:=P) (w:=w) (ty:=ty) pJ aL g1 gd ao J i6 CR (by rw[bw];exact dB);refine⟨_,_,ah,?_⟩;have n0:=grownCap_ge w n.toNat 0 bc;have nZ:=grownCap_le_maxLen w n.toNat 0 bc i6;have Gx:∀m,Builtin.zeroCells (cv e (dz e)).cells m=madeCells (dz e).toArray (m*e.size):=λm=>by rw[s?];simp[Builtin.zeroCells,madeCells,rU]
 have cQ:(Builtin.zeroCells (cv e (dz e)).cells n.toNat++Builtin.zeroCells (cv e (dz e)).cells (grownCap w n.toNat 0 bc-n.toNat)).size=grownCap w n.toNat 0 bc*e.size:=by rw[wI,size_zeroCells,size_zeroCells,s?];simp only[pg,rU,<- fH];congr 1;omega
 have d9:e3 (view w M) e (bO n.toNat e.zero) (Builtin.zeroCells (cv e (dz e)).cells n.toNat++Builtin.zeroCells (cv e (dz e)).cells (grownCap w n.toNat 0 bc-n.toNat)) 0:=by
  have O:=Ow (view w M) dB (bU n.toNat);rw[<- Gx]at O;refine eU.row (by rw[cQ,jw];simp only[bO,oy];exact iq _ n0) ?_;have R:=O.r?;have hl:(bO n.toNat e.zero).length*e.size=(Builtin.zeroCells (cv e (dz e)).cells n.toNat).size:=by rw[size_zeroCells,s?];simp[bO,rU]
  have abS:cH (Builtin.zeroCells (cv e (dz e)).cells n.toNat++Builtin.zeroCells (cv e (dz e)).cells (grownCap w n.toNat 0 bc-n.toNat)) 0 ((bO n.toNat e.zero).length*e.size)=cH (Builtin.zeroCells (cv e (dz e)).cells n.toNat) 0 ((bO n.toNat e.zero).length*e.size):=by rw[hl];simp only[cH,J1,nD];have:(Builtin.zeroCells (cv e (dz e)).cells n.toNat).size=(Builtin.zeroCells (cv e (dz e)).cells n.toNat).toList.length:=bh;rw[this,wB,nF]
  rw[abS];exact R
 have:=D0 (K:=K) (w0:=w0) (phx:=phx) (M:=M) (B:=B) (w:=w) hm (id:=id) gg
  (w':=w.drew.alloc (.cells (Builtin.zeroCells (cv e (dz e)).cells n.toNat++Builtin.zeroCells (cv e (dz e)).cells (grownCap w n.toNat 0 bc-n.toNat)) bc))
  rfl rfl rfl (by rw[iv];exact E? _) (q4 w.drew _) dB (l:=bO n.toNat e.zero) (q3 w.drew _) (xO _) (rO w M) d9 (cap:=grownCap w n.toNat 0 bc) (by simpa[bO]using n0) nZ (by rw[cQ];exact bU _) false (λh=>by cases h)
 have cr:(bO n.toNat e.zero).length=n.toNat:=by simp[bO]
 rw[cr]at this;exact this
def aad{c:Array Value}{el:TypeId}{fz:Nat×Nat}(hf:h4 c fz)(o:Nat)(Y:w.heap[b]?=some (.cells c el fz)):
  ∃w',(markStringish ⟨b,o,none⟩).run P w=.ok () w'/\∃pB,h4 c pB/\JK w w' b (.cells c el pB):=by
 refine⟨w.freeze ⟨b,c.size,none⟩ 1,?_,(if fz.1==fz.2 then(c.size,c.size+1) else(min fz.1 c.size,max fz.2 (c.size+1))),?_,?_⟩
 .have ac:w.shape? b=some (el,c.size):=by simp[World.shape?,Y]
  simp[markStringish,shape,Sem.run,ac,freeze]
 .unfold h4 at hf ⊢
  grind
 refine⟨rfl,rfl,rfl,by simp[World.freeze],?_,λj an => ?_⟩
 .simp[World.freeze,JV,Y]
 simp[World.freeze,JV,nI an]
def amc{rG c7:TypeId}(ac:P.underlying rG=some .string)(ht:(cP P (.sl (.int .u8))).1 c7){id:Nat}(hid:B id=.new)(hl:l.length<=140737488355328)(hm:Mem K w0 phx M B w):
  ∃v w',(convert rG c7 (.string ⟨l.toArray⟩)).run P w=.ok v w'/\dq K w0 phx M B w (cV B id (.ob (.int .u8) (l:List (bH .u8)))) (.own id false) v w':=by
 obtain⟨⟨bc,aL,aA⟩,_⟩:=ht;have i6:l.length<=maxLen:=by unfold maxLen;omega
 have n0:=grownCap_ge w l.length 0 bc;have nZ:=grownCap_le_maxLen w l.length 0 bc i6;have cQ:(⟨l.toArray⟩:ByteArray).size=l.length:=rfl;generalize zF:((⟨l.toArray⟩:ByteArray).data.map (λb=>Value.int .u8 (b.toNat:Int))++Array.replicate (grownCap w l.length 0 bc-l.length) (.int .u8 0))=gF;have lK:gF.size=grownCap w l.length 0 bc:=by rw[<- zF];simp;omega
 obtain⟨w',O,pB,ap0,R⟩:=aad (P:=P) (w:=w.drew.alloc (.cells gF bc)) (b:=w.heap.size) (xO gF) 0 (q3 w.drew _);refine⟨.slice (some ⟨w.heap.size,0,none⟩) l.length (grownCap w l.length 0 bc),w',?_,?_⟩
 .have ap2:(Question.appendCap l.length 0 bc).cut (w.tape w.drawn (Question.appendCap l.length 0 bc))=grownCap w l.length 0 bc:=rfl
  have azr:(Array.map (λb=>Value.int .u8 (b.toNat:Int)) l.toArray++Array.replicate (grownCap w l.length 0 bc-l.length) (.int .u8 0))=gF:=zF;have pI:=aA.1;unfold convert;simp only[Sem.run_bind,run_underlying ac,run_underlying aL,Result.andThen,run_underlying pI];unfold Conv.stringToBytes;simp only[Sem.run_bind,run_choose_drew,Question.forced,O9,if_false,Result.andThen,cQ,ap2,Go.newRow,run_newObj_alloc,Sem.run_pure];rw[zF];have sm:(markStringish ⟨w.drew.heap.size,0,none⟩).run P (w.drew.alloc (.cells gF bc))=.ok () w':=O;simp only[sm,Result.andThen];rfl
 have d9:e3 (view w M) (.int .u8) (l:List (bH .u8)) gF 0:=by
  refine eU.row ?_ ?_
  .simp only[ae.size,mw];rw[lK]
   show 0+l.length<=_;omega
  have:cH gF 0 ((l:List (bH .u8)).length*(ae.int .u8).size)=l.map λb=>Value.int .u8 b.toNat:=by rw[rF,<- zF];simp only[ae.size,mw,nD,J1,Array.toList_map];have hl:((⟨l.toArray⟩:ByteArray).data.toList.map λb=>Value.int .u8 (b.toNat:Int)).length=l.length:=bh;show List.take l.length _=_;rw[<- hl];exact wB
  exact Eq.mpr (congrArg (eU (view w M) (ae.int .u8) l) this) (eU.bytes l)
 refine D0 (K:=K) (w0:=w0) (phx:=phx) (M:=M) (B:=B) (w:=w) hm hid R.os R.tape R.output (by rw[R.size,iv];exact E? _) (λb Y=>(R.other b J).trans (q4 w.drew _ b Y)) (e:=.int .u8) bP (l:=(l:List (bH .u8))) R.iQ ?_ (rO w M) d9 (cap:=grownCap w l.length 0 bc) n0 nZ ?_ false (λh=>by cases h)
 .exact ap0
 simp only[ae.size,mw];omega
def amb{t:TypeId}(ht:(cP P (.sl (.int .u8))).1 t){id:Nat}{e:ae}{l:List e.aD}{ck:Value}(aB:B id=.ob e l)(hm:Mem K w0 phx M B w)(ah:bM phx (view w M) B (.own id true) ck):
  ∃v w',(convert t t ck).run P w=.ok v w'/\dq K w0 phx M B w B (.own id true) v w':=by
 obtain⟨⟨bc,aL,aA⟩,_⟩:=ht;have dD:=hm.blks id;rw[aB]at dD;have C1:=ah;simp only[bM,aB]at ah;obtain⟨vx,eC⟩:=ah;rcases vx with⟨O,_⟩|⟨b,o,n,cap,O,R,af,aq,a8⟩
 .exact absurd O (eC trivial)
 subst R;rcases dD.2 with⟨bF,_⟩|⟨b',di,c,el,fz,bF,b3,dp,fP,go⟩
 .rw[O]at bF;cases bF
 rw[O]at bF;cases bF;obtain⟨w',bG,pB,b_,cp⟩:=aad (P:=P) fP (o+0*e.size) b3;refine⟨.slice (some ⟨b,o+0*e.size,none⟩) l.length cap,w',?_,?_⟩
 .have pI:=aA.1
  unfold convert;simp only[Sem.run_bind,run_underlying aL,Result.andThen_ok,beq_self_eq_true,run_underlying pI,bG,Sem.run_pure]
 obtain⟨bD,e1⟩:=hm.put (id:=id) (x:=(b,o,c.size)) (w':=w') (by rw[aB];rfl) O go cp.os cp.tape cp.output cp.size cp.other (.ob e l) (by rw[aB];exact⟨rfl,rfl⟩) λhx=>
  ⟨dD.1,.inr ⟨b,o,c,el,pB,O,cp.iQ,dp.mono hx.vw,b_,go⟩⟩
 have Gj:cV B id (.ob e l)=B:=by
  funext j;by_cases an:j=id
  .subst an;rw[eM,aB]
  rw[d6 _ _ an]
 rw[Gj]at bD e1;exact⟨phx,M,bD,e1,C1.mono e1.pl e1.vw e1.bl⟩
def ama{rG c7:TypeId}(ac:(cP P (.sl (.int .u8))).1 rG)(aF:P.underlying c7=some .string){a:au}{ck:Value}(h:(lT false (.sl (.int .u8)) a).aY g B=some ((l:List (bH .u8)),B'))
  (hm:Mem K w0 phx M B w) (ah:a? phx (view w M) B a ck):B'=B/\(convert rG c7 ck).run P w=.ok (.string ⟨l.toArray⟩) w:=by
 obtain⟨⟨bc,aL,aA⟩,_⟩:=ac;obtain⟨aB,ad,cap,rfl,R⟩:=UN h hm ah;refine⟨aB,?_⟩;rw[run_convert_bytes_string w rG c7 bc _ _ _ aL aA.1 aF];rcases R with R|⟨b,o,c,el,fz,rfl,bw,cX⟩
 .have tM:=R
  subst tM;cases ad with
  |none=>simp[Conv.bytesToString];rfl
  |some ad =>rfl
 have b?:=cX.r?;have tW:cH c o ((l:List (bH .u8)).length*(ae.int .u8).size)=(l.map λx=>(x.toNat:Int)).map (Value.int .u8):=by
  apply tf;intro i;by_cases hi:i<l.length
  .have a8:=b?.2 i l[i] (jN hi)
   simp only[ae.size,mw]at a8 ⊢;have cT:=aH.ia.1 a8;have dN:((cH c o (l:List (bH .u8)).length).drop i)[0]?=some (Value.int .u8 (bH.to .u8 l[i])):=by have cz:=congrArg (λq:List Value=>q[0]?) cT;simp only[ER]at cz;exact cz
   rw[JP,te]at dN;rw[dN];simp[hi];rfl
  have hl:=b?.1;simp only[ae.size,mw]at hl ⊢;have GP:(cH c o (l:List (bH .u8)).length).length=l.length:=hl
  grind
 have abE:=D1 (P:=P) (w:=w) (b:=b) (o:=o) (n:=l.length) bw (by have:=cX.1;simp only[ae.size,mw]at this;exact this);have aq0:=by have:=tW;simp only[ae.size,mw]at this;exact this
 rw[aq0]at abE;have jS:=run_bytesToString (P:=P) w ⟨b,o,none⟩ l.length cap _ abE;have apW:∀(l:List UInt8) (s:ByteArray),(l.map λx=>(x.toNat:Int)).foldl (λr n=>r.push (UInt8.ofNat n.toNat)) s=⟨s.data++l.toArray⟩:=by
  intro l;induction l with
  |nil=>intro s;simp
  |cons x l ih =>simp only[pj,yM,ih];simp
 rw[apW]at jS;have:(⟨ByteArray.empty.data++l.toArray⟩:ByteArray)=⟨l.toArray⟩:=bh;rw[this]at jS;exact jS
end
end Yp
namespace Yp
open Go
def pi:=@List.all_eq_true
def pd:=@Bool.eq_iff_iff
def ox:=@List.mem_range
def wx:=@Bool.not_eq_true'
def JC:=@Nat.one_pos
variable {P:Program}
def ae.nT:ae->Nat
 |.pair a b=>max (a.nT+1) b.nT
 |.ar _ e=>e.nT+1
 |_=>1
def ae.QK:∀t:ae,0<t.nT
 |.pair a b=>by have:=ae.QK b;simp only[ae.nT];omega
 |.ar _ e=>by simp only[ae.nT];omega
 |.bool=>by decide|.int _=>JC|.str=>by decide|.sl _=>JC|.unit=>by decide|.op _=>JC|.fn _=>JC
def oH(P:Program):ae->(TypeId->Bool)×(List Field->Bool)
 |.bool=>(λ_=>true,λ_=>false)
 |.int _=>(λ_=>true,λ_=>false)
 |.str=>(λ_=>true,λ_=>false)
 |.unit=>(λt=>!(P.stoodInHeld t),λl=>l.isEmpty)
 |.pair a b=>
  (λt=>!(P.stoodInHeld t)&&(match P.underlying t with
   | some (.struct e8) => (match e8.toList with | f :: r => !(f.name == "_") && (oH P a).1 f.type && (oH P b).2 r | [] => false)
   |_=>false),
   fun l => match l with | f :: r => !(f.name == "_") && (oH P a).1 f.type && (oH P b).2 r | [] => false)
 |.ar _ e=>(λt=>match P.underlying t with|some (.array _ bc)=>(oH P e).1 bc|_=>false,λ_=>false)
 |.sl _=>(λ_=>false,λ_=>false)
 |.op _=>(λ_=>false,λ_=>false)
 |.fn _=>(λ_=>false,λ_=>false)
def Qx(P:Program)(t:ae)(tid:TypeId):Bool:=t.isAgg&&Nat.ble t.nT 100&&(oH P t).1 tid && !(P.eqGuardType P.depth tid)
def K3{tid:TypeId}{e8:Array Field}(h:P.underlying tid=some (.struct e8)):P.fieldsOf tid=e8:=by simp[Program.fieldsOf,h]
def vM{t:ae}(h:t.isAgg=true)(cs:List Value):cv t cs=.agg cs.toArray:=by simp[cv,h]
def alY{t:ae}{tid:TypeId}(h:(cP P t).1 tid):P.cellsOf tid=t.size:=by obtain⟨i,O,R,_⟩:=nc h;simp[Program.cellsOf,O,R]
section
variable {H H':cg}
def Zv{e:ae}{bc:TypeId}(aA:(cP P e).1 bc){d n:Nat}{a b:List e.aD}{cs ds:Array Value}{w:World}(bu:a.length=n)(Y:b.length=n)
  (lK:cs.size=n*e.size) (apE:ds.size=n*e.size)
  (ih:∀j,j<n->(Op.equalIn d bc (cv e (cH cs (j*e.size) e.size)) (cv e (cH ds (j*e.size) e.size))).run P w=.ok (e.nV (ak a j e.zero) (ak b j e.zero)) w) :
  ∀is:List Nat,(∀j∈is,j<n)->(Op.eqItems d bc (P.cellsOf bc) cs ds is).run P w=.ok (is.all λj=>e.nV (ak a j e.zero) (ak b j e.zero)) w
 |[],_=>by simp[Op.eqItems]
 |j::is,an=>by
  have bm:=an j bh;have le:(j+1)*e.size<=n*e.size:=iq _ bm;rw[fH]at le;have dF:=D2 (P:=P) aA (cs:=cs) (off:=j*e.size) J w;have gp:=D2 (P:=P) aA (cs:=ds) (off:=j*e.size) J w;have acl:=Zv aA bu Y lK apE ih is (λk ap=>an k (by grind));rw[alY aA]at acl ⊢;simp only[Op.eqItems,Sem.run_bind,dF,gp,Result.andThen_ok,ih j bm];cases h:e.nV (ak a j e.zero) (ak b j e.zero) with
  |false=>simp[h]
  |true=>simp[h,acl]
def aiL(f:α->α->Bool)(z:α){a b:List α}(bu:a.length=n)(Y:b.length=n):uZ f a b=(List.range n).all λj=>f (ak a j z) (ak b j z):=by
 rw[pd];unfold uZ;rw[pi,pi];constructor
 .intro h j an
  have l_:=ox.1 an;have:=h (a[j]'J,b[j]'J) (by rw[EQ];exact⟨j,fs,bh⟩)
  simpa[ak,nE,show j<a.length by omega,show j<b.length by omega]using this
 intro h p hp;obtain⟨j,an,rfl⟩:=EQ.1 hp;have l_:j<n:=by simp at an;omega
 have:=h j (ox.2 l_);simpa[ak,nE,show j<a.length by omega,show j<b.length by omega]using this
def KV(w:World):∀(t:ae),
  (∀(tid:TypeId) (d:Nat) (x y:t.aD) (cs ds:List Value),(oH P t).1 tid=true->(cP P t).1 tid->aH H t x cs->aH H' t y ds->t.nT<=d->(Op.equalIn d tid (cv t cs) (cv t ds)).run P w=.ok (t.nV x y) w) /\
  (∀(l:List Field) (off d:Nat) (x y:t.aD) (cs ds:Array Value),(oH P t).2 l=true->(cP P t).2 l off->aH H t x (cH cs off t.size)->aH H' t y (cH ds off t.size)->off+t.size<=cs.size->off+t.size<=ds.size->t.nT<=d+1 ->
   (Op.eqFields d cs ds l).run P w=.ok (t.nV x y) w)
 |.bool=>by refine⟨λtid d x y cs ds _ hf hx hy aF => ?_,λl off d x y cs ds ai=>by cases ai⟩;obtain⟨n,rfl⟩:∃n,d=n+1:=⟨d-1,by simp only[ae.nT]at aF;omega⟩;have O:=aH.nP.1 hx;have R:=aH.nP.1 hy;subst O;subst R;exact run_equalIn_bool w n tid _ _ hf.1
 |.int k=>by refine⟨λtid d x y cs ds _ hf hx hy aF => ?_,λl off d x y cs ds ai=>by cases ai⟩;obtain⟨n,rfl⟩:∃n,d=n+1:=⟨d-1,by simp only[ae.nT]at aF;omega⟩;have O:=aH.ia.1 hx;have R:=aH.ia.1 hy;subst O;subst R;exact run_equalIn_int w n tid k k _ _ hf.1
 |.str=>by refine⟨λtid d x y cs ds _ hf hx hy aF => ?_,λl off d x y cs ds ai=>by cases ai⟩;obtain⟨n,rfl⟩:∃n,d=n+1:=⟨d-1,by simp only[ae.nT]at aF;omega⟩;have O:=aH.ml.1 hx;have R:=aH.ml.1 hy;subst O;subst R;have:=run_equalIn_string (P:=P) w n tid ⟨(x:List UInt8).toArray⟩ ⟨(y:List UInt8).toArray⟩ hf.1;rw[ByteArray.toList_eq,ByteArray.toList_eq]at this;exact this
 |.unit=>by
  refine⟨λtid d x y cs ds ai hf hx hy aF => ?_,λl off d x y cs ds ai hf hx hy O R aF => ?_⟩
  .obtain⟨n,rfl⟩:∃n,d=n+1:=⟨d-1,by simp only[ae.nT]at aF;omega⟩
   obtain⟨⟨e8,aL,qr⟩,_⟩:=hf;simp only[oH,wx]at ai;rw[vM rfl,vM rfl,run_equalIn_struct w n tid _ _ (by rw[K3 aL];exact aL) ai,K3 aL,qr];rfl
  simp only[oH,List.isEmpty_iff]at ai;subst ai;rfl
 |.pair a b=>by
  have ZG:∀(l:List Field) (off d:Nat) (x y:(ae.pair a b).aD) (cs ds:Array Value),(oH P (.pair a b)).2 l=true->(cP P (.pair a b)).2 l off->aH H (.pair a b) x (cH cs off (ae.pair a b).size)->aH H' (.pair a b) y (cH ds off (ae.pair a b).size) ->
    off+(ae.pair a b).size<=cs.size->off+(ae.pair a b).size<=ds.size->(ae.pair a b).nT<=d+1->(Op.eqFields d cs ds l).run P w=.ok ((ae.pair a b).nV x y) w:=by
   intro l off d x y cs ds ai hf hx hy O R aF;obtain⟨f,r,rfl,Sr,GF,Sa⟩:=hf;simp only[oH,cM,wx,beq_eq_false_iff_ne]at ai;obtain⟨⟨aj,bu⟩,Y⟩:=ai;have cQ:(ae.pair a b).size=a.size+b.size:=rfl;have split:∀{K:cg} {z:(ae.pair a b).aD} {es:Array Value},aH K (.pair a b) z (cH es off (a.size+b.size))->off+(a.size+b.size)<=es.size->aH K a z.1 (cH es off a.size)/\aH K b z.2 (cH es (off+a.size) b.size):=by
    intro K z es bj bY;obtain⟨c1,c2,aA,bF,b3⟩:=aH.mh.1 bj;rw[Nq]at aA;have hl:(cH es off a.size).length=c1.length:=by rw[pX J,bF.length]
    obtain⟨e1,aN⟩:=List.append_inj aA hl;rw[e1,aN];exact⟨bF,b3⟩
   obtain⟨zV,mO⟩:=split hx O;obtain⟨ars,art⟩:=split hy R;simp only[ae.nT]at aF;have dF:=D2 (P:=P) GF (cs:=cs) (off:=off) J w;have gp:=D2 (P:=P) GF (cs:=ds) (off:=off) J w;have bG:=(KV w a).1 f.type d x.1 y.1 _ _ bu GF zV ars J;have b_:=(KV w b).2 r (off+a.size) d x.2 y.2 cs ds Y Sa mO art J J J;simp only[Op.eqFields];rw[if_pos aj,Sr];simp only[Sem.run_bind,dF,gp,Result.andThen_ok,bG];show _=Result.ok (cZ (a.nV x.1 y.1) (b.nV x.2 y.2)) w;cases h:a.nV x.1 y.1 with
   |false=>simp[h,cZ]
   |true=>simp[h,cZ,b_]
  refine⟨λtid d x y cs ds ai hf hx hy aF => ?_,ZG⟩;obtain⟨n,rfl⟩:∃n,d=n+1:=⟨d-1,by have:=ae.QK (.pair a b);omega⟩;obtain⟨⟨e8,aL,f,r,qr,aK,GF,Sa⟩,_⟩:=hf;simp only[oH,cM,wx,aL,qr]at ai;rw[vM rfl,vM rfl,run_equalIn_struct w n tid _ _ (by rw[K3 aL];exact aL) ai.1,K3 aL,qr];have eW:=hx.length;have f7:=hy.length;have bp:cH cs.toArray 0 (ae.pair a b).size=cs:=by simp[cH,<- eW]
  have ax:cH ds.toArray 0 (ae.pair a b).size=ds:=by simp[cH,<- f7]
  refine ZG (f::r) 0 n x y cs.toArray ds.toArray (by simp only[oH,cM,wx];exact ai.2) ⟨f,r,rfl,aK,GF,by rw[jw];exact Sa⟩ (by rw[bp];exact hx) (by rw[ax];exact hy) (by simp[eW]) (by simp[f7]) aF
 |.ar n e=>by
  refine⟨λtid d x y cs ds ai hf hx hy aF => ?_,λl off d x y cs ds ai=>by cases ai⟩;obtain⟨m,rfl⟩:∃m,d=m+1:=⟨d-1,by have:=ae.QK (.ar n e);omega⟩;obtain⟨⟨bc,aL,aA⟩,_⟩:=hf;simp only[oH,aL]at ai;obtain⟨i,hi,_⟩:=nc aA;simp only[ae.nT]at aF;obtain⟨cI,cR,a3⟩:=aH.u0.1 hx;obtain⟨eS,ei,jy⟩:=aH.u0.1 hy;rw[vM rfl,vM rfl,run_equalIn_array w m _ _ aL hi];rw[Zv aA (a:=(x:List e.aD)) (b:=(y:List e.aD)) (n:=n) cI eS (by simp[cR]) (by simp[ei]) (λj an => ?_) _ (λj an=>ox.1 an)]
  .show _=Result.ok (uZ (λp q=>e.nV p q) (x:List e.aD) (y:List e.aD)) w
   rw[aiL _ e.zero cI eS]
  exact(KV w e).1 bc m _ _ _ _ ai aA (a3 j _ (Ah J)) (jy j _ (Ah J)) J
 |.sl _=>by refine⟨λtid d x y cs ds ai=>(by cases ai),λl off d x y cs ds ai=>by cases ai⟩
 |.op _=>by refine⟨λtid d x y cs ds ai=>(by cases ai),λl off d x y cs ds ai=>by cases ai⟩
 |.fn _=>by refine⟨λtid d x y cs ds ai=>(by cases ai),λl off d x y cs ds ai=>by cases ai⟩
end
def ps(P:Program)(b8:Nat->Option ae)(C:Nat->Bool):Prop:=∀tid t,C tid=true->b8 tid=some t->Qx P t tid=true
def YL(P:Program)(b8:Nat->Option ae):∀(l:List Nat),(l.all λi=>match b8 i with|some t=>Qx P t i|none=>true)=true->ps P b8 (Hy l)
 |[],_=>λtid t h=>by cases h
 |i::r,h=>λtid t cx hT=>by
  simp only[uO,cM]at h;simp only[Hy]at cx;cases Y:Nat.beq i tid with
  |true=>rw[fy Y]at h;rw[hT]at h;exact h.1
  |false=>rw[Y]at cx;exact YL P b8 r h.2 tid t cx hT
end Yp