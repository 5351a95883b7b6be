/- A part of the proof of the statements of this seat: the engine that turns code into plain functions, and its soundness. No condition of its own. -/
import Derived.WalkKit
import Derived.ChangeKeysEq
set_option linter.unusedVariables false
set_option linter.unusedSimpArgs false
set_option linter.defProp false
noncomputable section
variable {d' eJ:Bool}{l:List UInt8}{L N a b d f i j k m n o off:Nat}{α β:Type}
namespace Yp
def J{p:Prop}(h:p:=by omega):p:=h
def bh{p:Prop}(h:p:=by simp):p:=h
def bP{p:Prop}(h:p:=by decide):p:=h
def fv{p:Prop}(h:p:=by simp;omega):p:=h
end Yp
namespace Yp
open Go
def lA:=@List.cons_append
def i64(n:Int):Int:=IntKind.i64.wrap n
def G5(n:Int):Int:=IntKind.i32.wrap n
def ab3(n:Int):Int:=IntKind.i16.wrap n
def ab4(n:Int):Int:=IntKind.i8.wrap n
def u8(n:Int):UInt8:=UInt8.ofInt n
def u16(n:Int):UInt16:=UInt16.ofInt n
def u32(n:Int):UInt32:=UInt32.ofInt n
def u64(n:Int):UInt64:=UInt64.ofInt n
def aI(x:UInt8):Int:=(x.toNat:Int)
def HB(x:UInt16):Int:=(x.toNat:Int)
def aS(x:UInt32):Int:=(x.toNat:Int)
def cB(x:UInt64):Int:=(x.toNat:Int)
def aa(n:Int):Nat:=n.toNat
def bf(n:Nat):Int:=(n:Int)
def av(a b:Int):Int:=a+b
def bi(a b:Int):Int:=a-b
def e?(a b:Int):Int:=a*b
def fg(a b:Int):Int:=Int.tdiv a b
def dh(a b:Int):Int:=Int.tmod a b
def bQ(a b:Nat):Nat:=a+b
def cd(a b:Nat):Nat:=a-b
def i6(a b:Nat):Bool:=Nat.blt a b
def bZ(a b:Nat):Bool:=Nat.beq a b
def a_(a:Bool):Bool:=!a
def cY(a b:Bool):Bool:=a&&b
def l2(a b:Bool):Bool:=a||b
def y5(a b:Bool):Bool:=a==b
def aJ(a b:Int):Bool:=decide (a<b)
def bE(a b:Int):Bool:=decide (a<=b)
def ag(a b:Int):Bool:=a==b
def seq(a b:List UInt8):Bool:=a==b
def aO(α:Type):List α:=[]
def aT{α:Type}(l:List α):Nat:=l.length
def cz(c n:Nat):Bool:=decide (n*c<=140737488355328)
def aU(i:Int)(n:Int):Bool:=decide (0<=i)&&decide (i<n)
def ca(lo hi n:Int):Bool:=decide (0<=lo)&&decide (lo<=hi)&&decide (hi<=n)
def fE(a b:Int):Int:=if b<a then b else a
def cT(a b:Int):Int:=if b > a then b else a
def iI(k:IntKind)(x y:Int):Int:=((BitVec.ofInt k.bits x&&&BitVec.ofInt k.bits y).toNat:Int)
def gM(k:IntKind)(x y:Int):Int:=((BitVec.ofInt k.bits x|||BitVec.ofInt k.bits y).toNat:Int)
def fA(k:IntKind)(x y:Int):Int:=((BitVec.ofInt k.bits x^^^BitVec.ofInt k.bits y).toNat:Int)
def HF(k:IntKind)(x y:Int):Int:=((BitVec.ofInt k.bits x &&& ~~~(BitVec.ofInt k.bits y)).toNat:Int)
def ho(k:IntKind)(x y:Int):Int:=x*2^(Nat.min y.toNat k.bits)
def fr(k:IntKind)(x y:Int):Int:=Int.fdiv x (2^(Nat.min y.toNat k.bits))
def gA(s:List UInt8)(i:Nat):Nat×Nat:=Utf8.decode ⟨s.toArray⟩ i
def wO(a b:List UInt8):Bool:=Op.bytesLess a b
def sub{α:Type}(l:List α)(lo hi:Int):List α:=(l.drop lo.toNat).take (hi.toNat-lo.toNat)
def uX{α:Type}(f:α->α->Bool)(a b:List α):Bool:=(a.zip b).all λp=>f p.1 p.2
def bv{α:Type}(l m:List α):List α:=l++m
def ak{α:Type}(l:List α)(i:Nat)(d:α):α:=l.getD i d
def cj{α:Type}(l:List α)(i:Nat)(x:α):List α:=l.set i x
def bO{α:Type}(n:Nat)(x:α):List α:=List.replicate n x
def cut{α:Type}(l:List α)(off n:Nat):List α:=(l.drop off).take n
def len{α:Type}(l:List α):Int:=(l.length:Int)
def T{α:Type}(c:Bool)(a b:α):α:=bif c then a else b
def am{α:Type}(c:Bool)(a:Option α):Option α:=bif c then a else none
def ob{α β:Type}(o:Option α)(k:α->Option β):Option β:=match o with|some a=>k a|none=>none
def bH:IntKind->Type
 |.u8=>UInt8|.u16=>UInt16|.u32=>UInt32|.u64=>UInt64
 |.i8=>Int|.i16=>Int|.i32=>Int|.i64=>Int
def bH.of:(k:IntKind)->Int->bH k
 |.u8,n=>u8 n|.u16,n=>u16 n|.u32,n=>u32 n|.u64,n=>u64 n
 |.i8,n=>ab4 n|.i16,n=>ab3 n|.i32,n=>G5 n|.i64,n=>i64 n
def bH.lit:(k:IntKind)->Int->bH k
 |.u8,n=>u8 n|.u16,n=>u16 n|.u32,n=>u32 n|.u64,n=>u64 n
 |.i8,n=>n|.i16,n=>n|.i32,n=>n|.i64,n=>n
def bH.to:(k:IntKind)->bH k->Int
 |.u8,x=>aI x|.u16,x=>HB x|.u32,x=>aS x|.u64,x=>cB x
 |.i8,x=>x|.i16,x=>x|.i32,x=>x|.i64,x=>x
def bH.zero:(k:IntKind)->bH k
 |.u8=>u8 0|.u16=>u16 0|.u32=>u32 0|.u64=>u64 0
 |.i8=>(0:Int)|.i16=>(0:Int)|.i32=>(0:Int)|.i64=>(0:Int)
inductive ae where
 |bool|int (k:IntKind)|str|sl (e:ae)|unit|pair (a b:ae)|ar (n:Nat) (e:ae)
 |op (k:Nat)
 |fn (l:List Nat)
 deriving Inhabited
def ae.aD:ae->Type
 |.bool=>Bool
 |.int k=>bH k
 |.str=>List UInt8
 |.sl e=>List e.aD
 |.unit=>Unit
 |.pair a b=>a.aD×b.aD
 |.ar _ e=>List e.aD
 |.op _=>Unit
 |.fn _=>Nat
def ae.zero:(t:ae)->t.aD
 |.bool=>false
 |.int k=>bH.zero k
 |.str=>([]:List UInt8)
 |.sl e=>([]:List e.aD)
 |.unit=>()
 |.pair a b=>(a.zero,b.zero)
 |.ar n e=>List.replicate n e.zero
 |.op _=>()
 |.fn _=>(0:Nat)
instance (t:ae):Inhabited t.aD:=⟨t.zero⟩
def ae.size:ae->Nat
 |.bool=>1|.int _=>1|.str=>1|.sl _=>1|.unit=>0
 |.pair a b=>a.size+b.size
 |.ar n e=>n*e.size
 |.op _=>1|.fn _=>1
def ae.bytes:ae->Nat
 |.bool=>1|.int .u8=>1|t=>24*t.size+8
def ae.isAgg:ae->Bool
 |.unit=>true|.pair _ _=>true|.ar _ _=>true|_=>false
def ae.l5:ae->Bool
 |.sl _=>false|.pair a b=>a.l5&&b.l5|.ar _ e=>e.l5|_=>true
def ae.same:(a b:ae)->Option (PLift (a=b))
 |.bool,.bool=>some ⟨rfl⟩
 |.str,.str=>some ⟨rfl⟩
 |.unit,.unit=>some ⟨rfl⟩
 |.int k,.int k'=>if h:k=k' then some ⟨h▸rfl⟩ else none
 |.sl a,.sl b=>match ae.same a b with|some ⟨h⟩=>some ⟨h▸rfl⟩|none=>none
 |.pair a b,.pair c d=>match ae.same a c,ae.same b d with|some ⟨h⟩,some ⟨bL⟩=>some ⟨h▸bL▸rfl⟩|_,_=>none
 |.ar n a,.ar m b=>if h:n=m then(match ae.same a b with|some ⟨bL⟩=>some ⟨h▸bL▸rfl⟩|none=>none) else none
 |.op k,.op k'=>if h:k=k' then some ⟨h▸rfl⟩ else none
 |.fn k,.fn k'=>if h:k=k' then some ⟨h▸rfl⟩ else none
 |_,_=>none
def ae.is(a b:ae):Bool:=(ae.same a b).isSome
def ae.cast(a b:ae)(x:a.aD):Option b.aD:=match ae.same a b with|some ⟨h⟩=>some (h▸x)|none=>none
def ae.kK(a b:ae)(x:List a.aD):Option (List b.aD):=match ae.same a b with|some ⟨h⟩=>some (h▸x)|none=>none
def ae.nV:(t:ae)->t.aD->t.aD->Bool
 |.bool,a,b=>y5 a b
 |.int k,a,b=>ag (bH.to k a) (bH.to k b)
 |.str,a,b=>seq a b
 |.sl _,_,_=>false
 |.unit,_,_=>true
 |.pair s t,a,b=>cY (s.nV a.1 b.1) (t.nV a.2 b.2)
 |.ar _ e,a,b=>uX (λp q=>e.nV p q) (a:List e.aD) (b:List e.aD)
 |.op _,_,_=>false
 |.fn _,_,_=>false
def mq:Nat->ae
 |0=>.unit|n+1=>.pair (.op 3) (mq n)
inductive ef where
 |im (t:ae)
 |ow (e:ae)
 |cl (e:ae)
 deriving Inhabited
def ef.aD:ef->Type
 |.im t=>t.aD|.ow e=>List e.aD|.cl e=>List e.aD
def hZ:List ae->Type
 |[]=>Unit|t::ts=>t.aD×hZ ts
def d8:List ef->Type
 |[]=>Unit|t::ts=>t.aD×d8 ts
def ef.zero:(t:ef)->t.aD
 |.im t=>t.zero|.ow e=>([]:List e.aD)|.cl e=>([]:List e.aD)
def yD:(l:List ef)->d8 l
 |[]=>()|t::ts=>(t.zero,yD ts)
instance (l:List ef):Inhabited (d8 l):=⟨yD l⟩
def ef.l5:ef->Bool
 |.im t=>t.l5|_=>false
structure eA where
 args:List ae
 res:List ef
 fn:hZ args->Option (d8 res)
structure ik where
 ty:ae
 args:List ae
 res:List ef
 fn:ty.aD×hZ args->Option (ty.aD×d8 res)
structure nJ where
 ty:ae
 args:List ae
 rt:ae
 ks:List Nat
 fn:ty.aD×hZ args->Option (ty.aD×Nat×d8 [.im rt])
def Dc:List (Nat×nJ)->Nat->Option nJ
 |[],_=>none
 |(i,t)::r,j=>bif Nat.beq i j then some t else Dc r j
def xD:List (Nat×ik)->Nat->Option ik
 |[],_=>none
 |(i,t)::r,j=>bif Nat.beq i j then some t else xD r j
def Dd:List (Nat×ae)->Nat->Option ae
 |[],_=>none
 |(i,t)::r,j=>bif Nat.beq i j then some t else Dd r j
def t8:List (Nat×eA)->Nat->Option eA
 |[],_=>none
 |(i,t)::r,j=>bif Nat.beq i j then some t else t8 r j
inductive mx where
 |fst|snd|ix (i:Nat)
inductive il where
 |ptr (id:Nat) (p:List mx)
 |iw (t:ae) (x:t.aD)
inductive au where
 |bad|undef
 |kb (b:Bool)
 |nq (c:Bool)
 |sc (t:ae) (x:t.aD)
 |nil
 |own (id:Nat) (d':Bool)
 |osl (id off len:Nat)
 |csl (e:ae) (l:List e.aD)
 |ptr (id:Nat) (p:List mx)
 |opt (id i:Nat) (p:List mx)
 |ipt (e:ae) (l:List e.aD) (i:Nat) (p:List mx)
 |itp (id:Nat)
 |two (a b:au)
 |agg (t:ae) (a:au)
 |tup (a:au)
 |clo (f dQ:Nat) (cV:List il)
 |ifc (tid:Nat) (t:ae) (x:t.aD)
 |mpp (id:Nat)
 |psl (id n:Nat)
 deriving Inhabited
inductive aQ where
 |new
 |e'
 |box (t:ae) (v:au)
 |ob (e:ae) (l:List e.aD)
 |fz (e:ae) (l:List e.aD)
 |it (s:List UInt8) (i9:Nat)
 |mp (kt vt:ae) (l:List (kt.aD×au))
 deriving Inhabited
inductive dH where
 |e
 |n (v:au) (l r:dH)
 deriving Inhabited
def dH.lH:Nat->dH->Nat->au
 |0,_,_=>.bad
 |_+1,.e,_=>.bad
 |f+1,.n v l r,i=>bif Nat.beq i 0 then v else bif Nat.beq (i%2) 1 then l.lH f (i/2) else r.lH f (i/2-1)
def dH.set:Nat->dH->Nat->au->dH
 |0,t,_,_=>t
 |f+1,.e,i,u=>bif Nat.beq i 0 then .n u .e .e else bif Nat.beq (i%2) 1 then .n .bad (dH.set f .e (i/2) u) .e else .n .bad .e (dH.set f .e (i/2-1) u)
 |f+1,.n v l r,i,u=>bif Nat.beq i 0 then .n u l r else bif Nat.beq (i%2) 1 then .n v (l.set f (i/2) u) r else .n v l (r.set f (i/2-1) u)
structure aM where
 t:dH
 h:List (Nat×aQ)
 w:List Nat
 deriving Inhabited
def aM.bX(s:aM)(i:Nat):au:=s.t.lH 40 i
def qA:List (Nat×aQ)->Nat->aQ
 |[],_=>.new
 |(i,b)::r,j=>bif Nat.beq i j then b else qA r j
def aM.aR(s:aM)(id:Nat):aQ:=qA s.h id
def aM.lu(s:aM)(i:Nat)(v:au):aM:={ s with t:=s.t.set 40 i v }
def AF:List (Nat×aQ)->Nat->aQ->List (Nat×aQ)
 |[],j,b=>[(j,b)]
 |(i,c)::r,j,b=>bif Nat.beq i j then(j,b)::r else(i,c)::AF r j b
def aM.nw(s:aM)(id:Nat)(b:aQ):aM:={ s with h:=AF s.h id b,w:=id::s.w }
def aM.ek(s:aM):List (Nat×aQ)->aM
 |[]=>s
 |(i,b)::r=>(s.ek r).nw i b
def FW{β:Type 1}:List il->(List il->β)->β
 |[],k=>k []
 |.ptr id p::r,k=>FW r λr=>k (.ptr id p::r)
 |.iw t x::r,k=>FW r λr=>k (.iw t x::r)
def amX{β:Type 1}(l:List il)(k:List il->β):FW l k=k l:=by
 induction l generalizing k with
 |nil=>rfl
 |cons c r ih=>cases c<;>simp only[FW,ih]
def mH{β:Type 1}:au->(au->β)->β
 |.bad,k=>k .bad
 |.undef,k=>k .undef
 |.kb true,k=>k (.kb true)
 |.kb false,k=>k (.kb false)
 |.nq c,k=>k (.nq c)
 |.sc t x,k=>k (.sc t x)
 |.nil,k=>k .nil
 |.own id d',k=>k (.own id d')
 |.osl id off n,k=>k (.osl id off n)
 |.csl e l,k=>k (.csl e l)
 |.ptr id p,k=>k (.ptr id p)
 |.opt id i p,k=>k (.opt id i p)
 |.ipt e l i p,k=>k (.ipt e l i p)
 |.itp id,k=>k (.itp id)
 |.two a b,k=>mH a λa=>mH b λb=>k (.two a b)
 |.agg t a,k=>mH a λa=>k (.agg t a)
 |.tup a,k=>mH a λa=>k (.tup a)
 |.clo f dQ cV,k=>FW cV λcV=>k (.clo f dQ cV)
 |.ifc i t x,k=>k (.ifc i t x)
 |.mpp id,k=>k (.mpp id)
 |.psl id n,k=>k (.psl id n)
def w7{β:Type 1}(v:au)(k:au->β):mH v k=k v:=by
 induction v generalizing k with
 |kb b=>cases b<;>rfl
 |two a b bu Y=>simp only[mH,bu,Y]
 |agg t a bu=>simp only[mH,bu]
 |tup a bu=>simp only[mH,bu]
 |clo f dQ cV=>simp only[mH,amX]
 |_=>rfl
def KS{α:Type}{β:Type 1}:List (α×au)->(List (α×au)->β)->β
 |[],k=>k []
 |(a,v)::r,k=>mH v λv=>KS r λr=>k ((a,v)::r)
def amZ{β:Type 1}(l:List (α×au))(k:List (α×au)->β):KS l k=k l:=by
 induction l generalizing k with
 |nil=>rfl
 |cons c r ih=>simp only[KS,w7,ih]
def QZ{β:Type 1}:aQ->(aQ->β)->β
 |.new,k=>k .new
 |.e',k=>k .e'
 |.box t v,k=>mH v λv=>k (.box t v)
 |.ob e l,k=>k (.ob e l)
 |.fz e l,k=>k (.fz e l)
 |.it s p,k=>k (.it s p)
 |.mp kt vt l,k=>KS l λl=>k (.mp kt vt l)
def amW{β:Type 1}(v:aQ)(k:aQ->β):QZ v k=k v:=by cases v<;>simp only[QZ,w7,amZ]
def uA{β:Type 1}:Nat->dH->Nat->au->(dH->β)->β
 |0,t,_,_,k=>k t
 |f+1,.e,i,u,k=>bif Nat.beq i 0 then k (.n u .e .e) else bif Nat.beq (i%2) 1 then uA f .e (i/2) u λl=>k (.n .bad l .e) else uA f .e (i/2-1) u λr=>k (.n .bad .e r)
 |f+1,.n v l r,i,u,k=>bif Nat.beq i 0 then k (.n u l r) else bif Nat.beq (i%2) 1 then uA f l (i/2) u λl=>k (.n v l r) else uA f r (i/2-1) u λr=>k (.n v l r)
def UJ{β:Type 1}(f:Nat)(t:dH)(i:Nat)(u:au)(k:dH->β):uA f t i u k=k (t.set f i u):=by
 induction f generalizing t i k with
 |zero=>rfl
 |succ f ih=>
  cases t with
  |e=>simp only[uA,dH.set,ih];cases Nat.beq i 0<;>cases Nat.beq (i%2) 1<;>rfl
  |n v l r=>simp only[uA,dH.set,ih];cases Nat.beq i 0<;>cases Nat.beq (i%2) 1<;>rfl
def ML{β:Type 1}:List (Nat×aQ)->Nat->aQ->(List (Nat×aQ)->β)->β
 |[],j,b,k=>k [(j,b)]
 |(i,c)::r,j,b,k=>bif Nat.beq i j then k ((j,b)::r) else ML r j b λr=>k ((i,c)::r)
def au2{β:Type 1}(l:List (Nat×aQ))(i:Nat)(v:aQ)(k:List (Nat×aQ)->β):ML l i v k=k (AF l i v):=by
 induction l generalizing k with
 |nil=>rfl
 |cons x r ih=>cases h:Nat.beq x.1 i<;>simp only[ML,AF,ih,h,cond]
def aM.A1{β:Type 1}(s:aM)(i:Nat)(v:au)(k:aM->β):β:=
 match s with|⟨t,h,w⟩=>mH v λv=>uA 40 t i v λt=>k ⟨t,h,w⟩
def aM.Im{β:Type 1}(s:aM)(i:Nat)(v:au)(k:aM->β):s.A1 i v k=k (s.lu i v):=by simp only[aM.A1,w7,UJ,aM.lu]
def aM.A0{β:Type 1}(s:aM)(id:Nat)(b:aQ)(k:aM->β):β:=
 match s with|⟨t,h,w⟩=>QZ b λb=>ML h id b λh=>k ⟨t,h,id::w⟩
def aM.Ik{β:Type 1}(s:aM)(i:Nat)(v:aQ)(k:aM->β):s.A0 i v k=k (s.nw i v):=by simp only[aM.A0,amW,au2,aM.nw]
def aM.v8{β:Type 1}(s:aM):List (Nat×aQ)->(aM->β)->β
 |[],k=>k s
 |(i,b)::r,k=>s.v8 r λs=>s.A0 i b k
def aM.Il{β:Type 1}(s:aM)(l:List (Nat×aQ))(k:aM->β):s.v8 l k=k (s.ek l):=by
 induction l generalizing k with
 |nil=>rfl
 |cons x r ih=>simp only[aM.v8,aM.Ik,ih,aM.ek]
inductive aE (σ ρ:Type) where
 |nx (x:σ)|ex (k:Nat) (x:σ)|rt (r:ρ)
 deriving Inhabited
def ci{σ ρ β:Type}(o:Option (aE σ ρ))(kn:σ->Option β)(g5:Nat->σ->Option β)(hb:ρ->Option β):Option β:=
 match o with
 |some (.nx a)=>kn a|some (.ex i a)=>g5 i a|some (.rt r)=>hb r|none=>none
inductive aP (β:Type):Type 1 where
 |fail
 |leaf (a:β)
 |br (c:Bool) (x y:aP β)
 |chk (c:Bool) (x:aP β)
 |bo {α:Type} (d:α) (o:Option α) (k:α->aP β)
 |cs {σ ρ:Type} (d:σ) (e:ρ) (o:Option (aE σ ρ)) (kn:σ->aP β) (g5:Nat->σ->aP β) (hb:ρ->aP β)
def aP.bind{α β:Type}:aP α->(α->aP β)->aP β
 |.fail,_=>.fail
 |.leaf a,f=>f a
 |.br c x y,f=>.br c (x.bind f) (y.bind f)
 |.chk c x,f=>.chk c (x.bind f)
 |.bo d o k,f=>.bo d o λa=>(k a).bind f
 |.cs d e o kn g5 hb,f=>.cs d e o (λa=>(kn a).bind f) (λk a=>(g5 k a).bind f) (λa=>(hb a).bind f)
def aP.bI{α:Type}:aP α->Option α
 |.fail=>none
 |.leaf a=>some a
 |.br c x y=>T c x.bI y.bI
 |.chk c x=>am c x.bI
 |.bo _ o k=>ob o λa=>(k a).bI
 |.cs _ _ o kn g5 hb=>ci o (λa=>(kn a).bI) (λi a=>(g5 i a).bI) (λr=>(hb r).bI)
def aP.n3{α:Type}:aP α->List α
 |.fail=>[]
 |.leaf a=>[a]
 |.br _ x y=>x.n3++y.n3
 |.chk _ x=>x.n3
 |.bo d _ k=>(k d).n3
 |.cs d e _ kn g5 hb=>(kn d).n3++(g5 0 d).n3++(hb e).n3
def BV{α:Type}{β:Type 1}:List α->List α->(List α->β)->β
 |[],m,k=>k m
 |a::r,m,k=>BV r m λr=>k (a::r)
def WP{β:Type 1}(l m:List α)(k:List α->β):BV l m k=k (l++m):=by
 induction l generalizing k with
 |nil=>rfl
 |cons a r ih=>simp only[BV,ih,lA]
def aP.pM{α:Type}{β:Type 1}:aP α->(List α->β)->β
 |.fail,k=>k []
 |.leaf a,k=>k [a]
 |.br _ x y,k=>x.pM λl=>y.pM λm=>BV l m k
 |.chk _ x,k=>x.pM k
 |.bo d _ f,k=>(f d).pM k
 |.cs d e _ kn g5 hb,k=>(kn d).pM λl=>(g5 0 d).pM λm=>(hb e).pM λn=>BV l m λl=>BV l n k
def aP.acB{β:Type 1}(t:aP α)(k:List α->β):t.pM k=k t.n3:=by
 induction t generalizing k with
 |fail=>rfl
 |leaf a=>rfl
 |br c x y hx hy=>simp only[aP.pM,hx,hy,WP,aP.n3]
 |chk c x hx=>simp only[aP.pM,hx,aP.n3]
 |bo d o f hf=>simp only[aP.pM,hf,aP.n3]
 |cs d e o kn g5 hb aj aA ah=>simp only[aP.pM,aj,aA,ah,WP,aP.n3]
def pK:List UInt32:=[u32 1116352408,u32 1899447441,u32 3049323471,u32 3921009573,u32 961987163,u32 1508970993,u32 2453635748,u32 2870763221,u32 3624381080,u32 310598401,u32 607225278,u32 1426881987,u32 1925078388,u32 2162078206,u32 2614888103,u32 3248222580,u32 3835390401,u32 4022224774,u32 264347078,u32 604807628,u32 770255983,u32 1249150122,u32 1555081692,u32 1996064986,u32 2554220882,u32 2821834349,u32 2952996808,u32 3210313671,u32 3336571891,u32 3584528711,u32 113926993,u32 338241895,u32 666307205,u32 773529912,u32 1294757372,u32 1396182291,u32 1695183700,u32 1986661051,u32 2177026350,u32 2456956037,u32 2730485921,u32 2820302411,u32 3259730800,u32 3345764771,u32 3516065817,u32 3600352804,u32 4094571909,u32 275423344,u32 430227734,u32 506948616,u32 659060556,u32 883997877,u32 958139571,u32 1322822218,u32 1537002063,u32 1747873779,u32 1955562222,u32 2024104815,u32 2227730452,u32 2361852424,u32 2428436474,u32 2756734187,u32 3204031479,u32 3329325298]
def fL:Type 1:=Nat->List au->aM->aP (au×aM)
structure da where
 b8:Nat->Option ae
 G:Nat->Option eA
 I:Nat->Option fL:=λ_=>none
 /-- maps' types -/
 M:Nat->Option (ae×ae):=λ_=>none
 /-- types whose values may be compared -/
 C:Nat->Bool:=λ_=>false
 /-- the program's variable -/
 K:Option Nat:=none
 b:Nat:=0
 /-- functions that change a variable of their alI -/
 X:Nat->Option ik:=λ_=>none
 /-- are loops unrolled,and tests decided? -/
 U:Bool:=false
 /-- the function that aoY up what goes ayK,and the type of what it aoY up -/
 Pn:Option (Nat×Nat):=none
 /-- functions that change a variable of their alI,and may hand up what goes ayK -/
 Q:Nat->Option nJ:=λ_=>none
 /-- are pieces of own slices appended to in place? -/
 A:Bool:=false
def t_:List (Nat×fL)->Nat->Option fL
 |[],_=>none
 |(i,t)::r,j=>bif Nat.beq i j then some t else t_ r j
def Ht:List (Nat×ae×ae)->Nat->Option (ae×ae)
 |[],_=>none
 |(i,t)::r,j=>bif Nat.beq i j then some t else Ht r j
def Hs:List Nat->Nat->Bool
 |[],_=>false
 |i::r,j=>bif Nat.beq i j then true else Hs r j
inductive aw (α:Type):Type 1 where
 |fail
 |ret (a:α)
 |chk (c:Bool) (k:aw α)
 |br (c:Bool) (x y:aw α)
 |bo {β:Type} (d:β) (o:Option β) (k:β->aw α)
 |rt (i:Nat) (k:au->aw α)
 |rb (id:Nat) (k:aQ->aw α)
 |eI (id:Nat) (b:aQ) (k:aw α)
def aw.bind{α β:Type}:aw α->(α->aw β)->aw β
 |.fail,_=>.fail
 |.ret a,f=>f a
 |.chk c k,f=>.chk c (k.bind f)
 |.br c x y,f=>.br c (x.bind f) (y.bind f)
 |.bo d o k,f=>.bo d o λa=>(k a).bind f
 |.rt i k,f=>.rt i λv=>(k v).bind f
 |.rb i k,f=>.rb i λv=>(k v).bind f
 |.eI i b k,f=>.eI i b (k.bind f)
instance:Monad aw where
 pure:=.ret
 bind:=.bind
structure Ov where
 rt:Nat
 rb:List Nat
 wr:List (Nat×aQ)
def nr:List (Nat×aQ)->Nat->aQ->aQ
 |[],_,d=>d
 |(i,b)::r,j,d=>bif Nat.beq i j then b else nr r j d
def aw.run{α:Type}(s:aM):aw α->Nat->List Nat->List (Nat×aQ)->aP (α×Ov)
 |.fail,_,_,_=>.fail
 |.ret a,fh,fa,wr=>.leaf (a,⟨fh,fa,wr⟩)
 |.chk c k,fh,fa,wr=>.chk c (k.run s fh fa wr)
 |.br c x y,fh,fa,wr=>.br c (x.run s fh fa wr) (y.run s fh fa wr)
 |.bo d o k,fh,fa,wr=>.bo d o λa=>(k a).run s fh fa wr
 |.rt i k,fh,fa,wr=>(k (s.bX i)).run s (fh|||2^i) fa wr
 |.rb i k,fh,fa,wr=>(k (nr wr i (s.aR i))).run s fh (i::fa) wr
 |.eI i b k,fh,fa,wr=>k.run s fh fa ((i,b)::wr)
def aw.opt{α:Type}:Option α->aw α
 |some a=>.ret a|none=>.fail
def aw.need(b:Bool):aw Unit:=bif b then .ret () else .fail
def ae.at:ae->List mx->Option ae
 |t,[]=>some t
 |.pair a _,.fst::p=>a.at p
 |.pair _ b,.snd::p=>b.at p
 |.ar _ e,.ix _::p=>e.at p
 |_,_=>none
def iN:au->List mx->Option au
 |v,[]=>some v
 |.two a _,.fst::p=>iN a p
 |.two _ b,.snd::p=>iN b p
 |.sc (.pair s _) x,.fst::p=>iN (.sc s x.1) p
 |.sc (.pair _ t) x,.snd::p=>iN (.sc t x.2) p
 |.sc (.ar _ e) l,.ix i::p=>iN (.sc e (ak (l:List e.aD) i e.zero)) p
 |_,_=>none
def gd:Nat->List mx
 |0=>[.fst]|n+1=>.snd::gd n
def acn(b:Bool):(t:ae)->Option t.aD
 |.bool=>some b
 |_=>none
def Tt:(t:ae)->Option t.aD
 |.sl e=>some ([]:List e.aD)
 |_=>none
def YQ(bC:ae)(l:List bC.aD):(t:ae)->Option t.aD
 |.sl e=>ae.kK bC e l
 |_=>none
def ahc{α β:Type}:Option α->Option β->Option (α×β)
 |some x,some y=>some (x,y)
 |_,_=>none
def axY(f g:(t:ae)->Option t.aD):(t:ae)->Option t.aD
 |.pair a b=>ahc (f a) (g b)
 |_=>none
def aiz(t':ae)(f:(t:ae)->Option t.aD)(t:ae):Option t.aD:=bif ae.is t' t then f t else none
def G6(f:Nat):List Nat->Nat->Option Nat
 |[],_=>none
 |a::r,n=>bif Nat.beq a f then some n else G6 f r (n+1)
def Qo(f:Nat)(cV:List il):(t:ae)->Option t.aD
 |.fn l=>match cV with|[]=>G6 f l 1|_=>none
 |_=>none
def s4:au->(t:ae)->Option t.aD
 |.sc t' x=>λt=>ae.cast t' t x
 |.kb b=>acn b
 |.nil=>Tt
 |.csl bC l=>YQ bC l
 |.two u v=>axY (s4 u) (s4 v)
 |.agg t' u=>aiz t' (s4 u)
 |.bad=>λ_=>none
 |.undef=>λ_=>none
 |.nq _=>λ_=>none
 |.own _ _=>λ_=>none
 |.osl _ _ _=>λ_=>none
 |.ptr _ _=>λ_=>none
 |.opt _ _ _=>λ_=>none
 |.ipt _ _ _ _=>λ_=>none
 |.itp _=>λ_=>none
 |.tup _=>λ_=>none
 |.clo f _ cV=>Qo f cV
 |.ifc _ _ _=>λ_=>none
 |.mpp _=>λ_=>none
 |.psl _ _=>λ_=>none
def ie(t:ae)(v:au):Option t.aD:=s4 v t
def mj:au->List mx->au->Option au
 |_,[],u=>some u
 |.two a b,.fst::p,u=>(mj a p u).map (au.two · b)
 |.two a b,.snd::p,u=>(mj b p u).map (au.two a ·)
 |.sc (.pair s t) x,.fst::p,u=>(mj (.sc s x.1) p u).map (au.two · (.sc t x.2))
 |.sc (.pair s t) x,.snd::p,u=>(mj (.sc t x.2) p u).map (au.two (.sc s x.1) ·)
 |.sc (.ar n e) l,.ix i::p,u=>match mj (.sc e (ak (l:List e.aD) i e.zero)) p u with
  |some v=>(ie e v).map λy=>.sc (.ar n e) (cj (l:List e.aD) i y)
  |none=>none
 |_,_,_=>none
def m0:ae->au
 |.sl _=>.nil
 |.pair a b=>.two (m0 a) (m0 b)
 |t=>.sc t t.zero
def sV(eJ:Bool)(id:Nat)(e:ae):aw (List e.aD):=.rb id λb=>match b with
 |.ob bC l=>(aw.opt (ae.kK bC e l)).bind λx=>bif eJ then .eI id (.fz bC l) (.ret x) else .ret x
 |.fz bC l=>aw.opt (ae.kK bC e l)
 |_=>.fail
def AU(eJ:Bool)(id:Nat)(e:ae):aw (List e.aD):=.rb id λb=>match b with
 |.ob bC l=>(aw.opt (ae.kK bC e l)).bind λx=>bif eJ then .eI id (.fz bC l) (.ret x) else .ret x
 |.fz bC l=>aw.opt (ae.kK bC e l)
 | .box t v=>(match t with
  |.ar n bC=>(aw.opt (ie (.ar n bC) v)).bind λl=>(aw.opt (ae.kK bC e l)).bind λx=>bif Nat.blt 0 bC.size then(bif eJ then .eI id (.fz bC l) (.ret x) else .ret x) else .fail
  |_=>.fail)
 |_=>.fail
def ad7(eJ:Bool)(id:Nat):(t:ae)->aw t.aD
 |.sl e=>sV eJ id e
 |_=>.fail
def ad1(eJ:Bool)(id off n:Nat):(t:ae)->aw t.aD
 |.sl e=>(AU eJ id e).bind λx=>.ret (cut x off n)
 |_=>.fail
def axZ(f g:(t:ae)->aw t.aD):(t:ae)->aw t.aD
 |.pair a b=>(f a).bind λx=>(g b).bind λy=>.ret (x,y)
 |_=>.fail
def aiA(t':ae)(f:(t:ae)->aw t.aD)(t:ae):aw t.aD:=bif ae.is t' t then f t else .fail
def yj(eJ:Bool):au->(t:ae)->aw t.aD
 |.own id _=>ad7 eJ id
 |.osl id off n=>ad1 eJ id off n
 |.two u v=>axZ (yj eJ u) (yj eJ v)
 |.agg t' u=>aiA t' (yj eJ u)
 |.sc t' x=>λt=>aw.opt (ae.cast t' t x)
 |.kb b=>λt=>aw.opt (acn b t)
 |.nil=>λt=>aw.opt (Tt t)
 |.csl e l=>λt=>aw.opt (YQ e l t)
 |.bad=>λ_=>.fail
 |.undef=>λ_=>.fail
 |.nq _=>λ_=>.fail
 |.ptr _ _=>λ_=>.fail
 |.opt _ _ _=>λ_=>.fail
 |.ipt _ _ _ _=>λ_=>.fail
 |.itp _=>λ_=>.fail
 |.tup _=>λ_=>.fail
 |.clo f _ cV=>λt=>aw.opt (Qo f cV t)
 |.ifc _ _ _=>λ_=>.fail
 |.mpp _=>λ_=>.fail
 |.psl _ _=>λ_=>.fail
def lT(eJ:Bool)(t:ae)(v:au):aw t.aD:=yj eJ v t
def Am:au->Bool
 |.osl _ _ _=>false
 |.two u v=>Am u&&Am v
 |.agg _ u=>Am u
 |_=>true
def ad4(t:ae)(v:au):aw t.aD:=bif Am v then lT true t v else .fail
def p4(t:ae):au->au
 |.two a b=>.agg t (.two a b)
 |v=>v
def ye:au->au
 |.agg _ a=>a
 |.kb b=>.sc .bool b
 |v=>v
def ach:ae->Bool
 |.fn _=>true|.op k=>Nat.beq k 0|_=>false
def sd(t:ae):au->aw Unit
 |.sc t' _=>aw.need (ae.is t' t)
 |.kb _=>aw.need (ae.is t .bool)
 |.agg t' _=>aw.need (ae.is t' t)
 |.nil=>match t with|.sl _=>.ret ()|_=>.fail
 |.csl e _=>aw.need (ae.is (.sl e) t)
 |.own id _=>.rb id fun|.ob e _=>aw.need (ae.is (.sl e) t)|.fz e _=>aw.need (ae.is (.sl e) t)|_=>.fail
 |.osl id _ _=>.rb id fun|.ob e _=>aw.need (ae.is (.sl e) t)|.fz e _=>aw.need (ae.is (.sl e) t)|.box t' _=>(match t' with|.ar _ e=>aw.need (ae.is (.sl e) t)|_=>.fail)|_=>.fail
 |.clo _ _ _=>aw.need (ach t)
 |.ifc _ _ _=>aw.need (ae.is t (.op 1))
 |.mpp id=>.rb id fun|.mp _ _ _=>aw.need (ae.is t (.op 2))|_=>.fail
 |.ptr id _=>.rb id fun|.box _ _=>aw.need (ae.is t (.op 3))|_=>.fail
 |_=>.fail
def g7(e:ae)(n:Nat):Bool:=cz e.bytes n
def int(n:Int):au:=.sc (.int .i64) n
def Hr:IntKind->Int->Bool
 |.u8,.ofNat m=>Nat.blt m 256|.u16,.ofNat m=>Nat.blt m 65536|.u32,.ofNat m=>Nat.blt m 4294967296|.u64,.ofNat m=>Nat.blt m 18446744073709551616
 |.i8,_=>true|.i16,_=>true|.i32,_=>true|.i64,_=>true
 |_,_=>false
def Qs:Value->aw au
 |.bool b=>.ret (.kb b)
 |.int k n=>bif Hr k n then .ret (.sc (.int k) (bH.lit k n)) else .fail
 |.string s=>.ret (.sc .str s.data.toList)
 |.slice none 0 0=>.ret .nil
 |.nilFunc=>.ret (.sc (.op 0) ())
 |.nilIface=>.ret (.sc (.op 1) ())
 |.map none=>.ret (.sc (.op 2) ())
 |.pointer none=>.ret (.sc (.op 3) ())
 |_=>.fail
def ea:Operand->aw au
 |.tmp t=>.rt t .ret
 |.const v=>Qs v
 |.func f=>.ret (.clo f 0 [])
 |.global _=>.fail
def Rr(E:da):Operand->aw au
 |.global g=>match E.K with|some k=>bif Nat.beq k g then .ret (.ipt (.ar 64 (.int .u32)) [(pK:List (bH .u32))] 0 []) else .fail|none=>.fail
 |x=>ea x
def y2:au->aw Int
 |.sc (.int k) x=>.ret (bH.to k x)
 |_=>.fail
def y?(b:Bool)(c:Bool)(k:aw au):aw au:=bif b then k else .chk c k
def Mr:Operand->Bool
 |.const (.int _ (.ofNat (_+1)))=>true
 |.const (.int _ (.negSucc _))=>true
 |_=>false
def Mk:Operand->Bool
 |.const (.int _ (.ofNat _))=>true
 |_=>false
def Et:IntKind->Bool
 |.u8=>true|.u16=>true|.u32=>true|.u64=>true|_=>false
def Pr(rp:Bool)(op:BinOp)(k:IntKind)(x y:bH k):aw au:=
 let a:=bH.to k x;let b:=bH.to k y
 match op with
 |.add=>.ret (.sc (.int k) (bH.of k (av a b)))
 |.sub=>.ret (.sc (.int k) (bH.of k (bi a b)))
 |.mul=>.ret (.sc (.int k) (bH.of k (e? a b)))
 |.quo=>y? rp (a_ (ag b 0)) (.ret (.sc (.int k) (bH.of k (fg a b))))
 |.rem=>y? rp (a_ (ag b 0)) (.ret (.sc (.int k) (bH.lit k (dh a b))))
 |.and=>.ret (.sc (.int k) (bH.of k (iI k a b)))
 |.or=>.ret (.sc (.int k) (bH.of k (gM k a b)))
 |.xor=>.ret (.sc (.int k) (bH.of k (fA k a b)))
 |.andNot=>.ret (.sc (.int k) (bH.of k (HF k a b)))
 |.eql=>.ret (.sc .bool (ag a b))
 |.neq=>.ret (.sc .bool (a_ (ag a b)))
 |.lss=>.ret (.sc .bool (aJ a b))
 |.leq=>.ret (.sc .bool (bE a b))
 |.gtr=>.ret (.sc .bool (aJ b a))
 |.geq=>.ret (.sc .bool (bE b a))
 |_=>.fail
def Ps(op:BinOp)(a b:List UInt8):aw au:=
 match op with
 |.add=>.chk (bE (av (len a) (len b)) 140737488355328) (.ret (.sc .str (bv a b)))
 |.eql=>.ret (.sc .bool (seq a b))
 |.neq=>.ret (.sc .bool (a_ (seq a b)))
 |.lss=>.ret (.sc .bool (wO a b))
 |.leq=>.ret (.sc .bool (l2 (wO a b) (seq a b)))
 |.gtr=>.ret (.sc .bool (a_ (l2 (wO a b) (seq a b))))
 |.geq=>.ret (.sc .bool (a_ (wO a b)))
 |_=>.fail
def ac9(t:ae)(op:BinOp)(a b:au):aw au:=
 match op,t,a,b with
 |.eql,.sl e,.sc t' x,.nil=>(aw.opt (ae.cast t' (.sl e) x)).bind λl=>.ret (.nq (ag (len (l:List e.aD)) 0))
 |_,_,_,_=>.fail
def Pq(E:da)(op:BinOp)(xT:Nat)(a b:au):aw au:=
 match E.b8 xT with
 |some t=>bif ae.is t .bool then
   (match ie .bool a,ie .bool b with
    | some x,some y=>(match op with
     |.eql=>.ret (.sc .bool (y5 x y))
     |.neq=>.ret (.sc .bool (a_ (y5 x y)))
     |_=>.fail)
    |_,_=>.fail)
   else bif E.C xT then
   (match ie t a,ie t b with
    | some x,some y=>(match op with
     |.eql=>.ret (.sc .bool (t.nV x y))
     |.neq=>.ret (.sc .bool (a_ (t.nV x y)))
     |_=>.fail)
    |_,_=>.fail)
   else ac9 t op a b
 |none=>.fail
def J8(E:da)(rp HE:Bool)(op:BinOp)(xT:Nat)(a b:au):aw au:=
 match a,b with
 |.sc (.int k) x,.sc (.int k') y=>
  (match op with
  |.shl=>y? (HE||Et k') (bE 0 (bH.to k' y)) (.ret (.sc (.int k) (bH.of k (ho k (bH.to k x) (bH.to k' y)))))
  |.shr=>y? (HE||Et k') (bE 0 (bH.to k' y)) (.ret (.sc (.int k) (bH.lit k (fr k (bH.to k x) (bH.to k' y)))))
  | op=>(match ae.cast (.int k') (.int k) y with | some y=>Pr rp op k x y | none => .fail))
 |.sc .str x,.sc .str y=>Ps op x y
 |a,b=>Pq E op xT a b
def VK(op:UnOp)(a:au):aw au:=
 match op,a with
 |.not,.kb b=>.ret (.kb (!b))
 |.not,.sc .bool b=>.ret (.sc .bool (a_ b))
 |.neg,.sc (.int k) x=>.ret (.sc (.int k) (bH.of k (bi 0 (bH.to k x))))
 |.xor,.sc (.int k) x=>.ret (.sc (.int k) (bH.of k (fA k (match k with|.u8=>255|.u16=>65535|.u32=>4294967295|.u64=>18446744073709551615|_ => -1) (bH.to k x))))
 |_,_=>.fail
def T5(c a b:au):aw au:=
 match c with
 |.kb c=>.ret (bif c then a else b)
 | .sc .bool c=>(match a,b with
  |.sc t x,b=>(match ie t b with|some y=>.ret (.sc t (T c x y))|none=>.fail)
  |.kb x,b=>(match ie .bool b with|some y=>.ret (.sc .bool (T (c:Bool) x y))|none=>.fail)
  |_,_=>.fail)
 |_=>.fail
def Hq(fW:ae)(a:au):aw au:=
 match fW with
 |.str=>(match a with|.sc .str l=>.ret (int (len (l:List UInt8)))|_=>.fail)
 |.ar n _=>.ret (int (bf n))
 |.sl _=>
  (match a with
  |.sc (.sl e) l=>.ret (int (len (l:List e.aD)))
  |.csl _ l=>.ret (int (len l))
  |.nil=>.ret (int 0)
  |.own id _=>.rb id fun|.ob _ l=>.ret (int (len l))|.fz _ l=>.ret (int (len l))|_=>.fail
  |.osl id _ n=>.rb id fun|.ob _ _=>.ret (int (bf n))|.fz _ _=>.ret (int (bf n))|_=>.fail
  |.psl id n=>.rb id fun|.box _ _=>.ret (int (bf n))|_=>.fail
  |_=>.fail)
 |_=>.fail
def tI(id:Nat)(k:aw au):aw au:=.rb id fun|.new=>k|_=>.fail
def vP(id:Nat)(e:ae)(l:List e.aD)(d':Bool):aw au:=bif Nat.blt 0 e.size then tI id (.eI id (.ob e l) (.ret (.own id d'))) else .fail
def zZ:ae->Bool
 |.sl (.int .u8)=>true|_=>false
def YL(E:da)(d:Nat)(rG c6:Nat)(a:au):aw au:=
 (aw.opt (E.b8 rG)).bind λs=>(aw.opt (E.b8 c6)).bind λt=>
 match t with
 |.int k=>(match a with|.sc (.int k') x=>.ret (.sc (.int k) (bH.of k (bH.to k' x)))|_=>.fail)
 | .str=>(match s with
  |.str=>(match a with|.sc .str x=>.ret (.sc .str x)|_=>.fail)
  |.sl e=>bif zZ (.sl e) then(lT false (.sl (.int .u8)) a).bind λx=>.ret (.sc .str (x:List UInt8)) else .fail
  |_=>.fail)
 | .sl e=>(match s,a with
  |.str,.sc .str x=>bif zZ (.sl e) then .chk (cz 1 (aT (x:List UInt8))) (vP (16*d) (.int .u8) (x:List UInt8) false) else .fail
  |.sl bC,.own id true=>bif zZ (.sl e)&&(zZ (.sl bC)&&Nat.beq rG c6) then .rb id (fun|.ob _ _=>.ret (.own id true)|_=>.fail) else .fail
  |_,_=>.fail)
 |_=>.fail
def xB(t:ae)(a:au):aw au:=
 match a with
 |.ptr id p=>.rb id fun
  |.box rt v=>(match rt.at p,iN v p with|some t',some pv=>bif ae.is t' t then .ret (p4 t pv) else .fail|_,_=>.fail)
  |_=>.fail
 |.ipt e l i p=>(match e.at p,iN (.sc e (ak l i e.zero)) p with|some t',some pv=>bif ae.is t' t then .ret pv else .fail|_,_=>.fail)
 |.opt id i p=>.rb id fun
  |.ob e l=>(match e.at p,iN (.sc e (ak l i e.zero)) p with|some t',some pv=>bif ae.is t' t then .ret pv else .fail|_,_=>.fail)
  |.fz e l=>(match e.at p,iN (.sc e (ak l i e.zero)) p with|some t',some pv=>bif ae.is t' t then .ret pv else .fail|_,_=>.fail)
  |_=>.fail
 |_=>.fail
def IJ(t:ae)(a v:au):aw au:=
 match a with
 |.ptr id p=>.rb id fun
  | .box rt c=>(match rt.at p,mj c p (ye v) with
    |some t',some cK=>bif ae.is t' t then(sd t v).bind λ_=>.eI id (.box rt cK) (.ret .undef) else .fail
    |_,_=>.fail)
  |_=>.fail
 |.opt id i p=>(lT true t v).bind λx=>.rb id fun
  | .ob e l=>(match e.at p with
   | some t'=>bif ae.is t' t then (match mj (.sc e (ak l i e.zero)) p (.sc t x) with
     |some c=>(match ie e c with|some y=>.eI id (.ob e (cj l i y)) (.ret .undef)|none=>.fail)
     |none=>.fail) else .fail
   |none=>.fail)
  |_=>.fail
 |_=>.fail
def arT:mx->Bool
 |.ix _=>true
 |_=>false
def ad6:au->au->Bool
 |.ptr _ p,.own _ _=>p.any arT
 |_,_=>false
def U5(t:ae)(a v:au):aw au:=bif ad6 a v then(lT true t v).bind λx=>IJ t a (.sc t x) else IJ t a v
def Cr(t' cH:Option ae)(f:Nat):Bool:=
 match t',cH with
 |some t',some cH=>ae.is t' cH&&(match cH.at (gd f) with|some dV=>Nat.blt 0 dV.size|none=>false)
 |_,_=>false
def KV(cH:Option ae)(f:Nat)(a:au):aw au:=
 match a with
 |.ptr id p=>.rb id fun
  |.box t _=>bif Cr (t.at p) cH f then .ret (.ptr id (p++gd f)) else .fail
  |_=>.fail
 |.ipt e l i p=>bif Cr (e.at p) cH f then .ret (.ipt e l i (p++gd f)) else .fail
 |.opt id i p=>.rb id fun
  |.ob e _=>bif Cr (e.at p) cH f then .ret (.opt id i (p++gd f)) else .fail
  |.fz e _=>bif Cr (e.at p) cH f then .ret (.opt id i (p++gd f)) else .fail
  |_=>.fail
 |_=>.fail
def BX(t':Option ae)(fW:ae)(i:Int)(v:au):aw au:=
 match t',fW with
 |some t',.ar n e=>bif ae.is t' (.ar n e)&&Nat.blt 0 e.size then .chk (aU i (bf n)) (.ret v) else .fail
 |_,_=>.fail
def xu(fW:ae)(a:au)(i:Int):aw au:=
 match a with
 | .sc t l=>(match fW with
  |.sl e=>(aw.opt (ae.cast t (.sl e) l)).bind λl=>.chk (aU i (len (l:List e.aD))) (.ret (.ipt e l (aa i) []))
  |_=>.fail)
 |.csl e l=>bif ae.is (.sl e) fW then .chk (aU i (len l)) (.ret (.ipt e l (aa i) [])) else .fail
 |.own id _=>.rb id fun
  |.ob e l=>bif ae.is (.sl e) fW then .chk (aU i (len l)) (.ret (.opt id (aa i) [])) else .fail
  |.fz e l=>bif ae.is (.sl e) fW then .chk (aU i (len l)) (.ret (.opt id (aa i) [])) else .fail
  |_=>.fail
 |.osl id off n=>.rb id fun
  |.ob e _=>bif ae.is (.sl e) fW then .chk (aU i (bf n)) (.ret (.opt id (bQ off (aa i)) [])) else .fail
  |.fz e _=>bif ae.is (.sl e) fW then .chk (aU i (bf n)) (.ret (.opt id (bQ off (aa i)) [])) else .fail
  |_=>.fail
 |.ptr id p=>.rb id fun
  |.box t _=>BX (t.at p) fW i (.ptr id (p++[.ix (aa i)]))
  |_=>.fail
 |.ipt e l j p=>BX (e.at p) fW i (.ipt e l j (p++[.ix (aa i)]))
 |.psl id n=>.rb id fun
  |.box _ _=>bif ae.is (.sl (.op 3)) fW then .chk (aU i (bf n)) (.ret (.ptr id (gd (aa i)))) else .fail
  |_=>.fail
 |.opt id j p=>.rb id fun
  |.ob e _=>BX (e.at p) fW i (.opt id j (p++[.ix (aa i)]))
  |.fz e _=>BX (e.at p) fW i (.opt id j (p++[.ix (aa i)]))
  |_=>.fail
 |_=>.fail
def G8(fW:ae)(a:au)(i:Int):aw au:=
 match a with
 | .sc .str l=>(match fW with
  |.str=>.chk (aU i (len (l:List UInt8))) (.ret (.sc (.int .u8) (ak (l:List UInt8) (aa i) (u8 0))))
  |_=>.fail)
 | a=>(match fW with
  |.ar n e=>(aw.opt (ie (.ar n e) a)).bind λl=>.chk (aU i (bf n)) (.ret (.sc e (ak (l:List e.aD) (aa i) e.zero)))
  |_=>.fail)
def Q2(E:da)(xT:Nat)(f:Nat)(a:au):aw au:=
 match E.b8 xT with
 |some t=>(sd t a).bind λ_=>(match t.at (gd f),iN (ye a) (gd f) with|some dV,some v=>.ret (p4 dV v)|_,_=>.fail)
 |none=>.fail
def bT(i:Option Int)(d:Int):Int:=match i with|some i=>i|none=>d
def UP(n:Nat)(jt:ae)(a:au)(lo hi:Int):aw au:=
 match a with
 |.ptr id []=>.rb id fun
  |.box t _=>bif ae.is t (.ar n jt)&&(Nat.blt 0 jt.size&&Nat.ble n 16777216) then .chk (ca lo hi (bf n)) (.ret (.osl id (aa lo) (cd (aa hi) (aa lo)))) else .fail
  |.fz e l=>bif ae.is e jt&&Nat.ble n 16777216 then .chk (cY (bZ (aT l) n) (ca lo hi (bf n))) (.ret (.sc (.sl e) (sub l lo hi))) else .fail
  |_=>.fail
 |_=>.fail
def v?(fW:ae)(a:au)(lo hi qD:Option Int):aw au:=
 match qD with
 |none=>
  (match fW with
  | .str=>(match a with
   |.sc t l=>(aw.opt (ae.cast t .str l)).bind λl=>.chk (ca (bT lo 0) (bT hi (len (l:List UInt8))) (len (l:List UInt8))) (.ret (.sc .str (sub (l:List UInt8) (bT lo 0) (bT hi (len (l:List UInt8))))))
   |_=>.fail)
  | .sl jt=>(match a with
   |.nil=>.chk (ca (bT lo 0) (bT hi 0) 0) (.ret .nil)
   |.sc t l=>(aw.opt (ae.cast t (.sl jt) l)).bind λl=>.chk (ca (bT lo 0) (bT hi (len (l:List jt.aD))) (len (l:List jt.aD))) (.ret (.sc (.sl jt) (sub (l:List jt.aD) (bT lo 0) (bT hi (len (l:List jt.aD))))))
   |.csl e l=>bif ae.is (.sl e) (.sl jt) then .chk (ca (bT lo 0) (bT hi (len l)) (len l)) (.ret (.sc (.sl e) (sub l (bT lo 0) (bT hi (len l))))) else .fail
   |.own id _=>.rb id fun
    |.ob e l=>bif ae.is (.sl e) (.sl jt) then .chk (ca (bT lo 0) (bT hi (len l)) (len l)) (.ret (.osl id (aa (bT lo 0)) (cd (aa (bT hi (len l))) (aa (bT lo 0))))) else .fail
    |.fz e l=>bif ae.is (.sl e) (.sl jt) then .chk (ca (bT lo 0) (bT hi (len l)) (len l)) (.ret (.sc (.sl e) (sub l (bT lo 0) (bT hi (len l))))) else .fail
    |_=>.fail
   |.osl id off n=>.rb id fun
    |.ob e _=>bif ae.is (.sl e) (.sl jt) then .chk (ca (bT lo 0) (bT hi (bf n)) (bf n)) (.ret (.osl id (bQ off (aa (bT lo 0))) (cd (aa (bT hi (bf n))) (aa (bT lo 0))))) else .fail
    |.fz e _=>bif ae.is (.sl e) (.sl jt) then .chk (ca (bT lo 0) (bT hi (bf n)) (bf n)) (.ret (.osl id (bQ off (aa (bT lo 0))) (cd (aa (bT hi (bf n))) (aa (bT lo 0))))) else .fail
    |_=>.fail
   |_=>.fail)
  |.ar n jt=>UP n jt a (bT lo 0) (bT hi (bf n))
  |_=>.fail)
 |some m=>
  (match hi with
  |some h=>
   (match a with
   | .sc t l=>(match fW with
    |.sl e=>(aw.opt (ae.cast t (.sl e) l)).bind λl=>.chk (cY (ca (bT lo 0) h (len (l:List e.aD))) (ag h m)) (.ret (.csl e (sub (l:List e.aD) (bT lo 0) h)))
    |_=>.fail)
   |_=>.fail)
  |none=>.fail)
def UO(fW:ae)(a:au)(lo hi qD:Option Int):aw au:=
 match qD with
 | none=>(match hi with
  | some h=>(match a with
   | .osl id off n=>(match fW with
    |.sl jt=>.rb id fun
     |.ob e l=>bif ae.is (.sl e) (.sl jt) then .chk (cY (i6 off (bQ (aT l) 1)) (ca (bT lo 0) h (bi (len l) (bf off)))) (.ret (.osl id (bQ off (aa (bT lo 0))) (cd (aa h) (aa (bT lo 0))))) else .fail
     |_=>.fail
    |_=>.fail)
   | a=>v? fW a lo (some h) none)
  |none=>v? fW a lo none none)
 | some m=>(match hi with
  | some h=>(match a with
   | .own id _=>(match fW with
    |.sl jt=>.rb id fun
     |.ob e l=>bif ae.is (.sl e) (.sl jt) then .chk (cY (ca (bT lo 0) h m) (bE m (len l))) (.ret .bad) else .fail
     |_=>.fail
    |_=>.fail)
   |_=>.fail)
  |none=>.fail)
def FV(a:au)(i:Nat):aw au:=
 match a with
 |.tup a=>aw.opt (iN a (gd i))
 |_=>.fail
def IY(eJ:Bool):(ts:List ae)->List au->aw (hZ ts)
 |[],[]=>.ret ()
 |t::ts,v::vs=>(lT eJ t v).bind λx=>(IY eJ ts vs).bind λy=>.ret (x,y)
 |_,_=>.fail
def Up(id:Nat):(r:ef)->r.aD->aw au
 |.im t,x=>.ret (.sc t x)
 |.ow e,l=>vP id e l false
 |.cl e,l=>.ret (.csl e l)
def Uo(id:Nat):(rs:List ef)->d8 rs->aw au
 |[],_=>.ret (.sc .unit ())
 |r::rs,x=>(Up id r x.1).bind λv=>(Uo (id+1) rs x.2).bind λw=>.ret (.two v w)
def P?(d:Nat):(rs:List ef)->d8 rs->aw au
 |[],_=>.ret (.tup (.sc .unit ()))
 |[t],r=>Up (16*d) t r.1
 |t::t'::ts,r=>(Uo (16*d) (t::t'::ts) r).bind λv=>.ret (.tup v)
def Py(d:Nat)(s:ik):List au->aw au
 |.ptr id []::as=>.rb id λb=>match b with
  |.box t v=>bif ae.is t s.ty then(lT true s.ty v).bind λx=>(IY true s.args as).bind λy=>.rb id λei=>match ei with
   |.box ev _=>bif ae.is ev s.ty then .bo (s.ty.zero,yD s.res) (s.fn (x,y)) λr=>.eI id (.box s.ty (.sc s.ty r.1)) (P? d s.res r.2) else .fail
   |_=>.fail
   else .fail
  |_=>.fail
 |_=>.fail
def P'(s:nJ):List au->aw (Nat×au)
 |.ptr id []::as=>.rb id λb=>match b with
  |.box t v=>bif ae.is t s.ty then(lT true s.ty v).bind λx=>(IY true s.args as).bind λy=>.rb id λei=>match ei with
   |.box ev _=>bif ae.is ev s.ty then .bo (s.ty.zero,(0:Nat),yD [.im s.rt]) (s.fn (x,y)) λr=>.eI id (.box s.ty (.sc s.ty r.1)) (.ret (r.2.1,.sc s.rt r.2.2.1)) else .fail
   |_=>.fail
   else .fail
  |_=>.fail
 |_=>.fail
def Fw(E:da)(d:Nat)(f:Nat)(args:List au):aw au:=
 match E.G f with
 |none=>(match E.X f with|some s=>Py d s args|none=>.fail)
 |some g=>(IY (!(g.res.all ef.l5)) g.args args).bind λx=>.bo (yD g.res) (g.fn x) λr=>P? d g.res r
def lO{α β:Type}(f:α->aw β):List α->aw (List β)
 |[]=>.ret []
 |a::r=>(f a).bind λb=>(lO f r).bind λb9=>.ret (b::b9)
def il.pv:il->au
 |.ptr id p=>.ptr id p
 |.iw t x=>.sc t x
def Cd:au->aw il
 |.ptr id p=>.ret (.ptr id p)
 |.sc t x=>.ret (.iw t x)
 |.kb b=>.ret (.iw .bool b)
 |.agg t u=>(lT true t (.agg t u)).bind λx=>.ret (.iw t x)
 |.clo f _ []=>.ret (.iw (.fn [f]) (1:Nat))
 |_=>.fail
def Kq(E:da)(d:Nat):List Nat->Nat->List au->aw au
 |[],_,_=>.fail
 |[f],x,args=>.chk (bZ x 1) (Fw E d f args)
 |f::u4::r,x,args=>.br (bZ x 1) (Fw E d f args) (Kq E d (u4::r) (cd x 1) args)
def u1(dQ:Nat)(cV:List il)(args:List au):List au:=(cV.take dQ).map il.pv++(args++(cV.drop dQ).map il.pv)
def alH(E:da)(d:Nat)(f:au)(args:List au):aw au:=
 match f with
 |.clo f dQ cV=>Fw E d f (u1 dQ cV args)
 |.sc (.fn l) x=>Kq E d l x args
 |_=>.fail
def vF:ae->Bool
 |.int _=>true|.str=>true|_=>false
def agF(a b:List UInt8):Bool:=!(decide (a=b))
def acf(a b:Int):Bool:=!(decide (a=b))
def Hf:(t:ae)->t.aD->t.aD->Bool
 |.int k,a,b=>acf (bH.to k a) (bH.to k b)
 |.str,a,b=>agF (a:List UInt8) (b:List UInt8)
 |_,_,_=>false
def vE:(t:ae)->t.aD->t.aD->Bool
 |.int k,a,b=>ag (bH.to k a) (bH.to k b)
 |.str,a,b=>seq (a:List UInt8) (b:List UInt8)
 |_,_,_=>false
def vR:au->Bool
 |.tup _=>false|_=>true
def LP(q:ae×ae)(m k v:au):aw au:=
 match m with
 |.mpp id=>.rb id fun
  |.mp kt vt l=>(aw.opt (ie kt k)).bind λkey=>(aw.need (ae.is kt q.1&&vF kt&&(vR v&&l.all λp=>Hf kt key p.1))).bind λ_=>.eI id (.mp kt vt (l++[(key,v)])) (.ret .undef)
  |_=>.fail
 |_=>.fail
def x3(ok:Bool)(v b:au):au:=bif ok then .tup (.two v (.two b (.sc .unit ()))) else v
def BT(kt vt:ae):List (kt.aD×au)->Option (List (kt.aD×vt.aD))
 |[]=>some []
 |(k,v)::r=>match ie vt v,BT kt vt r with|some x,some et=>some ((k,x)::et)|_,_=>none
def D0(kt vt:ae)(key:kt.aD):List (kt.aD×vt.aD)->vt.aD
 |[]=>vt.zero
 |(k,x)::r=>T (vE kt key k) x (D0 kt vt key r)
def CJ(kt vt:ae)(key:kt.aD):List (kt.aD×vt.aD)->Bool
 |[]=>false
 |(k,_)::r=>T (vE kt key k) true (CJ kt vt key r)
def Le(kt vt:ae)(ok:Bool)(key:kt.aD):List (kt.aD×au)->aw au
 |[]=>.ret (x3 ok (p4 vt (m0 vt)) (.kb false))
 |(k,v)::r=>.br (vE kt key k) (.ret (x3 ok v (.kb true))) (Le kt vt ok key r)
def ZL(kt vt:ae)(ok:Bool)(key:kt.aD)(l:List (kt.aD×au)):aw au:=
 match BT kt vt l with
 |some et=>.ret (x3 ok (.sc vt (D0 kt vt key et)) (.sc .bool (CJ kt vt key et)))
 |none=>Le kt vt ok key l
def Tc(E:da)(xT:Nat)(x k:au)(ok:Bool):aw au:=
 (aw.opt (E.M xT)).bind λp=>
 match x with
 |.mpp id=>.rb id fun
  |.mp kt vt l=>(aw.need (ae.is kt p.1&&(ae.is vt p.2&&vF kt))).bind λ_=>(aw.opt (ie kt k)).bind λkey=>ZL kt vt ok key l
  |_=>.fail
 |.sc (.op 2) _=>(aw.need (vF p.1)).bind λ_=>(aw.opt (ie p.1 k)).bind λ_=>.ret (x3 ok (p4 p.2 (m0 p.2)) (.kb false))
 |_=>.fail
def WY(E:da)(tp:Nat)(x:au)(ok:Bool):aw au:=
 match x with
 |.ifc tid t y=>(aw.opt (E.b8 tp)).bind λt'=>bif ae.is t' (.op 1) then .fail else
   bif Nat.beq tid tp then .ret (x3 ok (.sc t y) (.kb true)) else bif ok then .ret (x3 ok (p4 t' (m0 t')) (.kb false)) else .fail
 |.sc (.op 1) _=>(aw.opt (E.b8 tp)).bind λt'=>bif ae.is t' (.op 1) then .fail else bif ok then .ret (x3 ok (p4 t' (m0 t')) (.kb false)) else .fail
 |_=>.fail
def Fd(e:ae)(x:au):aw (List e.aD):=
 match x with
 |.sc .str l=>aw.opt (ae.kK (.int .u8) e (l:List UInt8))
 |x=>lT false (.sl e) x
def Tq:au->Bool
 |.own _ true=>true|_=>false
def Pc(d:Nat)(e:ae)(s x:au):aw au:=
 bif Nat.blt 0 e.size then(Fd e x).bind λbs=>
 match s with
 |.nil=>.chk (g7 e (aT bs)) (vP (16*d) e bs false)
 |.own id _=>.rb id fun
  |.ob bC l=>(aw.opt (ae.kK bC e l)).bind λl=>.chk (g7 e (bQ (aT l) (aT bs))) (.eI id .e' (vP (16*d) e (bv l bs) false))
  |_=>.fail
 |.osl id off n=>.rb id fun
  |.ob bC l=>(aw.opt (ae.kK bC e l)).bind λl=>.chk (g7 e (bQ n (aT bs))) (.eI id .e' (vP (16*d) e (bv (cut l off n) bs) false))
  |_=>.fail
 |.csl bC l=>(aw.opt (ae.kK bC e l)).bind λl=>.chk (g7 e (bQ (aT l) (aT bs))) (bif Tq x then vP (16*d) e (bv l bs) false else .ret (.sc (.sl e) (bv l bs)))
 |_=>.fail
 else .fail
def dU{α:Type}(l:List α)(off n:Nat)(bs:List α):List α:=l.take off++(bs.take n++l.drop (off+min n bs.length))
def Pb(e:ae)(s x:au):aw au:=
 bif Nat.blt 0 e.size then(Fd e x).bind λbs=>
 match s with
 |.osl id off n=>.rb id fun
  |.ob bC l=>(aw.opt (ae.kK e bC bs)).bind λhD=>.chk (i6 (bQ off (bQ n (aT hD))) (bQ (aT l) 1)) (.eI id (.ob bC (dU l (bQ off n) (aT hD) hD)) (.ret (.osl id off (bQ n (aT hD)))))
  |_=>.fail
 |_=>.fail
 else .fail
def YM(e:ae)(a x:au):aw au:=
 bif Nat.blt 0 e.size then(lT false (.sl e) x).bind λbs=>
 match a with
 |.nil=>.ret (int 0)
 |.own id _=>.rb id fun
  |.ob bC l=>(aw.opt (ae.kK e bC bs)).bind λhD=>.eI id (.ob bC (dU l 0 (aT l) hD)) (.ret (int (fE (len l) (len hD))))
  |_=>.fail
 |.osl id off n=>.rb id fun
  |.ob bC l=>(aw.opt (ae.kK e bC bs)).bind λhD=>.eI id (.ob bC (dU l off n hD)) (.ret (int (fE (bf n) (len hD))))
  | .box t v=>(match t with
   |.ar m bC=>(aw.opt (ie (.ar m bC) v)).bind λl=>(aw.opt (ae.kK e bC bs)).bind λhD=>.eI id (.box (.ar m bC) (.sc (.ar m bC) (dU (l:List bC.aD) off n hD))) (.ret (int (fE (bf n) (len hD))))
   |_=>.fail)
  |_=>.fail
 |_=>.fail
 else .fail
def Ql(e:ae)(a:au):aw au:=
 bif Nat.blt 0 e.size then
 match a with
 |.own id _=>.rb id fun
  |.ob bC l=>bif ae.is bC e then .eI id (.ob bC (dU l 0 (aT l) (bO (aT l) bC.zero))) (.ret (.tup (.sc .unit ()))) else .fail
  |_=>.fail
 |.osl id off n=>.rb id fun
  |.ob bC l=>bif ae.is bC e then .eI id (.ob bC (dU l off n (bO n bC.zero))) (.ret (.tup (.sc .unit ()))) else .fail
  |_=>.fail
 |_=>.fail
 else .fail
def QR:ae->Option ae
 |.sl e=>some e|_=>none
def aci:ae->Bool
 |.sl _=>true|_=>false
def LQ:ae->Bool
 |.sl _=>true|.str=>true|_=>false
def PD(E:da)(d:Nat)(b:Builtin)(eg:List Nat)(args:List au):aw au:=
 match b with
 | .len=>(match eg,args with
  |t::_,[a]=>(aw.opt (E.b8 t)).bind λt=>Hq t a
  |_,_=>.fail)
 | .cap=>(match eg,args with
  |t::_,[.nil]=>(aw.opt (E.b8 t)).bind λt=>bif aci t then .ret (int 0) else .fail
  |_,_=>.fail)
 | .append=>(match eg,args with
  | [t,u],[s,x]=>(match E.b8 t,E.b8 u with
   | some (.sl e),some (.int .i64)=>(match s,x with
    |.nil,.sc (.int .i64) n=>.chk (cY (bE 0 n) (g7 e (aa n))) (vP (16*d) e (bO (aa n) e.zero) false)
    |_,_=>.fail)
   |some (.sl e),some u=>bif LQ u then(bif E.A then Pb e s x else Pc d e s x) else .fail
   |_,_=>.fail)
  |_,_=>.fail)
 | .copy=>(match eg,args with
  | [t,u],[a,x]=>(match E.b8 t,E.b8 u with
   |some (.sl e),some (.sl _)=>YM e a x
   |_,_=>.fail)
  |_,_=>.fail)
 | .clear=>(match eg,args with
  | [t],[a]=>(match E.b8 t with
   |some (.sl e)=>Ql e a
   |_=>.fail)
  |_,_=>.fail)
 |.min=>(match args with|[.sc (.int .i64) a,.sc (.int .i64) b]=>.ret (int (fE a b))|_=>.fail)
 |.max=>(match args with|[.sc (.int .i64) a,.sc (.int .i64) b]=>.ret (int (cT a b))|_=>.fail)
 |_=>.fail
def D3(t:ae):au->List (Nat×au)->Option au
 |v,[]=>some v
 |v,(i,u)::r=>match mj v (gd i) (ye u) with|some cX=>D3 t cX r|none=>none
def Ct(t:ae):List (Nat×au)->aw Unit
 |[]=>.ret ()
 |(i,u)::r=>match t.at (gd i) with|some dV=>(sd dV u).bind λ_=>Ct t r|none=>.fail
def I0(e:ae):List (Nat×au)->aw (List (Nat×e.aD))
 |[]=>.ret []
 |(i,u)::r=>(lT true e u).bind λx=>(I0 e r).bind λet=>.ret ((i,x)::et)
def uy{α:Type}:List α->List (Nat×α)->List α
 |l,[]=>l
 |l,(i,x)::r=>uy (l.set i x) r
def acj:ae->Bool
 |.unit=>true|.pair _ _=>true|_=>false
def ajG(t:ae)(aZ:List (Nat×au)):aw au:=
 match t with
 |.ar n e=>(aw.need (aZ.all λp=>Nat.blt p.1 n)).bind λ_=>(I0 e aZ).bind λet=>.ret (.sc (.ar n e) (uy (List.replicate n e.zero) et))
 |t=>bif acj t then(Ct t aZ).bind λ_=>(aw.opt (D3 t (m0 t) aZ)).bind λv=>.ret (p4 t v) else .fail
def Xh(d:Nat)(e:ae)(n:Nat)(aZ:List (Nat×au)):aw au:=
 (aw.need (aZ.all (λp=>Nat.blt p.1 n)&&Nat.ble (n*e.size) 16777216)).bind λ_=>(I0 e aZ).bind λet=>
  vP (16*d) e (uy (List.replicate n e.zero) et) (Nat.blt 0 n)
def aep(d n:Nat)(aZ:List (Nat×au)):aw au:=
 bif Nat.blt 0 n&&Nat.ble n 64 then(Ct (mq n) aZ).bind λ_=>(aw.opt (D3 (mq n) (m0 (mq n)) aZ)).bind λv=>tI (16*d) (.eI (16*d) (.box (mq n) v) (.ret (.psl (16*d) n))) else .fail
def HR:Option Operand->aw (Option Int)
 |none=>.ret none
 |some o=>(ea o).bind λv=>(y2 v).bind λn=>.ret (some n)
def ME(aZ:List (Nat×Operand)):aw (List (Nat×au)):=lO (λp=>(ea p.2).bind λv=>.ret (p.1,v)) aZ
def Mg(v:au):aw au:=
 match v with
 |.ptr id p=>.rb id fun|.box _ _=>.ret (.ptr id p)|_=>.fail
 |.ipt e l i p=>.ret (.ipt e l i p)
 |.opt id i p=>.rb id fun|.ob _ _=>.ret (.opt id i p)|.fz _ _=>.ret (.opt id i p)|_=>.fail
 |.clo f dQ cV=>.ret (.clo f dQ cV)
 |_=>.fail
def avl(id:Nat)(x:au):aw au:=
 match x with
 |.sc .str l=>tI id (.eI id (.it l 0) (.ret (.itp id)))
 |_=>.fail
def Ts(x:au):aw au:=
 match x with
 |.itp id=>.rb id fun
  |.it s p=>.br (i6 p (aT s))
    (.eI id (.it s (bQ p (gA s p).2)) (.ret (.tup (.two (.kb true) (.two (int (bf p)) (.two (.sc (.int .i32) (bf (gA s p).1)) (.sc .unit ())))))))
    (.ret (.tup (.two (.kb false) (.sc .unit ()))))
  |_=>.fail
 |_=>.fail
def HD:BinOp->Operand->Bool
 |.eql,.const .nilIface=>true
 |_,_=>false
def LN(t:ae)(a:au):aw au:=
 bif ae.is t (.op 1) then(match a with
  |.ifc _ _ _=>.ret (.kb false)
  |.sc (.op 1) _=>.ret (.kb true)
  |_=>.fail) else .fail
def rv(E:da)(o:Oper):aw au:=
 let d:=E.b+o.dst.getD 0
 match o.op with
 |.move x=>ea x
 |.assign x=>ea x
 |.pick c a b=>(ea c).bind λc=>(ea a).bind λa=>(ea b).bind λb=>T5 c a b
 |.alloc t=>(aw.opt (E.b8 t)).bind λt=>tI (16*d) (.eI (16*d) (.box t (m0 t)) (.ret (.ptr (16*d) [])))
 |.box t x=>(aw.opt (E.b8 t)).bind λt=>(ea x).bind λv=>(sd t v).bind λ_=>tI (16*d) (.eI (16*d) (.box t (ye v)) (.ret (.ptr (16*d) [])))
 |.build t aZ=>(aw.opt (E.b8 t)).bind λt=>(ME aZ.toList).bind λaZ=>ajG t aZ
 |.buildSlice t n aZ=>(aw.opt (E.b8 t)).bind λt=>(aw.opt (QR t)).bind λe=>(ME aZ.toList).bind λaZ=>bif ae.is e (.op 3) then aep d n aZ else Xh d e n aZ
 |.load t a=>(aw.opt (E.b8 t)).bind λt=>(ea a).bind λa=>xB t a
 |.store t a x=>(aw.opt (E.b8 t)).bind λt=>(ea a).bind λa=>(ea x).bind λx=>U5 t a x
 |.nilCheck x=>(ea x).bind λv=>Mg v
 |.binOp op t x y _=>bif HD op y then(aw.opt (E.b8 t)).bind λty=>(ea x).bind λa=>LN ty a else(ea x).bind λa=>(ea y).bind λb=>J8 E (Mr y) (Mk y) op t a b
 |.unOp op _ x=>(ea x).bind λx=>VK op x
 |.convert s t x=>(ea x).bind λx=>YL E d s t x
 |.makeSlice t l c=>(aw.opt (E.b8 t)).bind λt=>(aw.opt (QR t)).bind λe=>(ea l).bind λl=>(y2 l).bind λl=>(ea c).bind λc=>(y2 c).bind λc=>
   .chk (cY (ca 0 l c) (g7 e (aa c))) (vP (16*d) e (bO (aa l) e.zero) false)
 |.slice t x lo hi qD=>(aw.opt (E.b8 t)).bind λt=>(ea x).bind λx=>(HR lo).bind λlo=>(HR hi).bind λhi=>(HR qD).bind λqD=>bif E.A then(match t with|.sl e=>UO (.sl e) x lo hi qD|_=>.fail) else v? t x lo hi qD
 |.fieldAddr s x f=>(ea x).bind λx=>KV (E.b8 s) f x
 |.field t x f=>(ea x).bind λx=>Q2 E t f x
 |.indexAddr t x i=>(aw.opt (E.b8 t)).bind λt=>(Rr E x).bind λx=>(ea i).bind λi=>(y2 i).bind λi=>xu t x i
 |.index t x i=>(aw.opt (E.b8 t)).bind λt=>(ea x).bind λx=>(ea i).bind λi=>(y2 i).bind λi=>G8 t x i
 |.range t x=>(aw.opt (E.b8 t)).bind λt=>(aw.need (ae.is t .str)).bind λ_=>(ea x).bind λx=>avl (16*d) x
 |.next x true=>(ea x).bind λx=>Ts x
 |.extract x i=>(ea x).bind λx=>FV x i
 |.makeFunc (.func f) first cap=>(lO ea first.toList).bind λa=>(lO ea cap.toList).bind λb=>(lO Cd (a++b)).bind λcV=>.ret (.clo f a.length cV)
 |.makeMap t none=>(aw.opt (E.M t)).bind λp=>tI (16*d) (.eI (16*d) (.mp p.1 p.2 []) (.ret (.mpp (16*d))))
 |.insert t m k v=>(aw.opt (E.M t)).bind λq=>(ea m).bind λm=>(ea k).bind λk=>(ea v).bind λv=>LP q m k v
 |.mapUpdate t m k v=>(aw.opt (E.M t)).bind λq=>(ea m).bind λm=>(ea k).bind λk=>(ea v).bind λv=>LP q m k v
 |.lookup t x i ok=>(ea x).bind λx=>(ea i).bind λi=>Tc E t x i ok
 |.makeInterface t x=>(aw.opt (E.b8 t)).bind λty=>(aw.need (!(ae.is ty (.op 1)))).bind λ_=>(ea x).bind λx=>(lT true ty x).bind λy=>.ret (.ifc t ty y)
 |.typeAssert x _ a ok=>(ea x).bind λx=>WY E a x ok
 | .call c=>(match c.callee with
  |.builtin b=>(lO ea c.args.toList).bind λargs=>PD E d b c.argTypes.toList args
  |.value f=>(ea f).bind λf=>(lO ea c.args.toList).bind λargs=>alH E d f args
  |.invoke .. => .fail)
 |_=>.fail
end Yp
namespace Yp
open Go
structure ot where
 i:Nat
 al:Bool
 rb:List Nat
 eI:List Nat
def L?(a b:List Nat):Bool:=a.any λk=>b.any (Nat.beq k)
def UW:List Nat->Bool
 |[]=>false|_=>true
def ot.Ks(a b:ot):Bool:=L? a.eI b.rb||L? a.eI b.eI||L? a.rb b.eI||(a.al&&UW b.eI)||(b.al&&UW a.eI)
def qK(nO:List Nat):List ot->Bool
 |[]=>true
 |f::r=>r.all (λg=>!(f.Ks g)||Nat.testBit (nO.getD g.i 0) f.i)&&qK nO r
def bits:List Nat->Nat
 |[]=>0
 |i::r=>2^i|||bits r
def VC:List Operand->List Nat
 |[]=>[]
 |.tmp t::r=>t::VC r
 |_::r=>VC r
def Y7(ops:List Oper)(j:Nat):List Nat:=match ops[j]? with|some o=>(match o.dst with|some d=>[d]|none=>[])|none=>[]
def kg(ops:List Oper)(o:Oper):Nat:=bits (VC o.op.operands.toList++(match o.guard with|some (g,_)=>Y7 ops g|none=>[]))
def Ex(o:Oper):Nat:=match o.dst with|some d=>2^d|none=>0
def IE(ops:List Oper)(nO:List Nat):Nat->List Oper->List (Nat×Nat×Nat)->Bool
 |_,[],_=>true
 |i,o::r,l=>
  let pS:=kg ops o
  let wr:=Ex o
  l.all (λp=>(Nat.beq (Nat.land p.2.2 (pS|||wr)) 0&&Nat.beq (Nat.land p.2.1 wr) 0)||Nat.testBit (nO.getD i 0) p.1) &&
  IE ops nO (i+1) r ((i,pS,wr)::l)
def lE:List Oper->List Nat->List Nat
 |[],db=>db
 |o::r,db=>lE r (db++[o.after.toList.foldl (λs e=>bif Region.binds .any e then s|||2^e.on|||db.getD e.on 0 else s) 0])
def u2:Nat->List Oper->Bool
 |_,[]=>true
 |i,o::r=>o.after.toList.all (λe=>!(Region.binds .any e)||Nat.blt e.on i)&&u2 (i+1) r
def xd:List Oper->Nat
 |[]=>0
 |o::r=>match o.guard with|some (g,_)=>2^g|||xd r|none=>xd r
def H5(ops:List Oper):Bool:=u2 0 ops&&IE ops (lE ops []) 0 ops []
def en:List Oper->List Nat
 |[]=>[]
 |o::r=>match o.dst with|some d=>d::en r|none=>en r
def jN(ρ:Type):Type:=aE aM ρ
def VJ:au->Option ae
 |.sc t _=>some t|.kb _=>some .bool|_=>none
def px{β:Type 1}:ae->(ae->β)->β
 |.bool,k=>k .bool|.str,k=>k .str|.unit,k=>k .unit
 |.int i,k=>(match i with|.u8=>k (.int .u8)|.u16=>k (.int .u16)|.u32=>k (.int .u32)|.u64=>k (.int .u64)|.i8=>k (.int .i8)|.i16=>k (.int .i16)|.i32=>k (.int .i32)|.i64=>k (.int .i64))
 |.sl e,k=>px e λe=>k (.sl e)
 |.pair a b,k=>px a λa=>px b λb=>k (.pair a b)
 |.ar n e,k=>px e λe=>k (.ar n e)
 |.op i,k=>k (.op i)|.fn l,k=>k (.fn l)
def KT{β:Type 1}(t:ae)(k:ae->β):px t k=k t:=by
 induction t generalizing k with
 |int i=>cases i<;>rfl
 |sl e h=>simp only[px,h]
 |pair a b h g=>simp only[px,h,g]
 |ar n e h=>simp only[px,h]
 |_=>rfl
def afQ(i:Nat)(t:ae)(s:aM):Bool:=match VJ (s.bX i) with|some t'=>ae.is t' t|none=>false
def wW{β:Type 1}(l:List aM):List Nat->(List (Nat×ae)->β)->β
 |[],k=>k []
 |i::r,k=>match l with
  | s :: m=>(match VJ (s.bX i) with
   |some t=>bif m.all (afQ i t) then wW l r λks=>px t λt=>k ((i,t)::ks) else wW l r k
   |none=>wW l r k)
  |[]=>k []
def Cf:List (Nat×ae)->Type
 |[]=>Unit|p::r=>p.2.aD×Cf r
def ahM:(l:List (Nat×ae))->Cf l
 |[]=>()|p::r=>(p.2.zero,ahM r)
def ql(s:aM):(l:List (Nat×ae))->Option (Cf l)
 |[]=>some ()
 |p::r=>match ie p.2 (s.bX p.1),ql s r with|some x,some y=>some (x,y)|_,_=>none
def Nm{β:Type 1}(s:aM)(k:aM->β):(l:List (Nat×ae))->Cf l->β
 |[],_=>k s
 |p::r,x=>s.A1 p.1 (.sc p.2 x.1) λs=>Nm s k r x.2
def aP.mR{α β:Type}(f:α->Option β):aP α->aP β
 |.fail=>.fail
 |.leaf a=>match f a with|some b=>.leaf b|none=>.fail
 |.br c x y=>.br c (x.mR f) (y.mR f)
 |.chk c x=>.chk c (x.mR f)
 |.bo d o k=>.bo d o λa=>(k a).mR f
 |.cs d e o kn g5 hb=>.cs d e o (λa=>(kn a).mR f) (λk a=>(g5 k a).mR f) (λa=>(hb a).mR f)
def Ja{β:Type 1}(s:aM):List Nat->(aM->β)->β
 |[],k=>k s
 |i::r,k=>s.A1 i .bad λs=>Ja s r k
def acm(s:aM)(keep:List Nat)(cp:aM):Bool:=Nat.beq cp.w.length s.w.length&&keep.all λi=>match cp.bX i with|.own _ _=>false|_=>true
def Hd(s:aM)(all keep:List Nat)(t:aP aM):aP aM:=
 t.pM λl=>
 bif l.all (acm s keep) then
  wW l keep λks=>
  bif Nat.beq ks.length 0 then t else
  .bo (ahM ks) (t.mR (λcp=>bif Nat.beq cp.w.length s.w.length then ql cp ks else none)).bI λp=>Ja s all λs=>Nm s .leaf ks p
 else t
def S6:List Oper->List Nat
 |[]=>[]
 |[o]=>(match o.dst with|some d=>[d]|none=>[])
 |_::r=>S6 r
def ib{β:Type}(nt:Nat)(c6:Option Nat)(s:aM)(v:au)(k:aM->aP β):aP β:=
 match c6 with|some d=>bif Nat.blt d nt then s.A1 d v k else .fail|none=>k s
def q9(dk:Bool)(i:Nat)(rb:List Nat)(wr:List (Nat×aQ))(g?:List ot):List ot:=
 bif dk then(match rb,wr with|[],[]=>g?|_,_=>⟨i,false,rb,wr.map λp=>p.1⟩::g?) else g?
def tz:au->Option Bool
 |.sc .bool c=>some c
 |_=>none
def Lh(ops:List Oper)(o:Oper)(s:aM)(FT skip:aP aM):aP aM:=
 match o.guard with
 |none=>FT
 | some (j,lV)=>(match (ops[j]?).bind (·.dst) with
  |none=>.fail
  | some g=>(match s.bX g with
   |.kb b=>bif b==lV then FT else skip
   |.undef=>skip
   |_=>.fail))
def Cx(s:aM):Operand->au
 |.tmp t=>s.bX t
 |.func f=>.clo f 0 []
 |_=>.bad
def sS:List il->List Nat
 |[]=>[]
 |.ptr id _::r=>id::sS r
 |.iw _ _::r=>sS r
def dM:au->List Nat
 |.own id _=>[id]|.osl id _ _=>[id]|.ptr id _=>[id]|.opt id _ _=>[id]|.itp id=>[id]|.mpp id=>[id]|.psl id _=>[id]|.clo _ _ cV=>sS cV
 |.two a b=>dM a++dM b|.agg _ a=>dM a|.tup a=>dM a
 |_=>[]
def x1:aQ->List Nat
 |.box _ v=>dM v
 |.mp _ _ l=>l.flatMap λp=>dM p.2
 |_=>[]
def pJ(s:aM):List Nat:=s.h.map λp=>p.1
def FB(s:aM)(aZ:List au):Bool:=s.h.all (λp=>(x1 p.2).all λj=>(pJ s).any (Nat.beq j))&&aZ.all λp=>(dM p).all λj=>(pJ s).any (Nat.beq j)
def adf:List Nat->Bool
 |[]=>true|_=>false
def Uj(ops:List Oper)(o:Oper):Operand->Bool
 |.tmp t=>Nat.testBit (kg ops o) t|.func _=>true|_=>false
def adg:List (Nat×aQ)->Bool
 |[]=>true|_=>false
def LO(E:da)(ops:List Oper)(o:Oper)(s:aM):Option (aP (au×aM)):=
 match o.op with
 | .call ⟨.value f,args,_⟩=>(match Cx s f with
  | .clo F dQ cV=>(match E.I F with
   | some g=>some (((lO ea args.toList).run s 0 [] []).bind λr =>
     bif Nat.beq (r.2.rt|||kg ops o) (kg ops o)&&(adg r.2.wr&&(adf r.2.rb&&(Uj ops o f&&FB s (u1 dQ cV r.1)))) then g ((E.b+o.dst.getD 0+1)*65536) (u1 dQ cV r.1) s else .fail)
   |none=>none)
  |_=>none)
 |_=>none
def Tr(s ax:aM):List Nat:=ax.w.take (ax.w.length-s.w.length)
def mZ(s ax:aM):List (Nat×aQ):=(Tr s ax).map λid=>(id,ax.aR id)
def oc(E:da)(ops:List Oper)(nv nt:Nat)(dk:Bool):Bool->Nat->List Oper->aM->List ot->aP aM
 |_,_,[],s,g?=>bif !dk||(H5 ops&&qK (lE ops []) g?.reverse) then .leaf s else .fail
 |top,i,o::rest,s,g?=>
  Lh ops o s
   (match(bif dk then LO E ops o s else none) with
   |some t=>t.bind λr=>bif Nat.testBit (xd ops) i then .fail else s.v8 (mZ s r.2) λbp=>mH r.1 λv=>ib nt o.dst bp v λax=>oc E ops nv nt dk top (i+1) rest ax (q9 dk i (pJ s) (mZ s r.2) g?)
   |none=>((rv E o).run s 0 [] []).bind λr=>s.v8 r.2.wr λbp=>mH r.1 λv=>
    bif dk && !(Nat.beq (r.2.rt|||kg ops o) (kg ops o)) then .fail else
    bif Nat.testBit (xd ops) i&&(tz v).isSome then
     (match tz v with
     |some c=>
      bif top then ib nt o.dst bp (.sc .bool c) λax=>Hd ax (en rest) ((en rest).filter λk=>Nat.blt k nv||(S6 rest).any (Nat.beq k))
       (.br c (ib nt o.dst bp (.kb true) λs=>oc E ops nv nt dk false (i+1) rest s (q9 dk i r.2.rb r.2.wr g?)) (ib nt o.dst bp (.kb false) λs=>oc E ops nv nt dk false (i+1) rest s (q9 dk i r.2.rb r.2.wr g?)))
      else .br c (ib nt o.dst bp (.kb true) λs=>oc E ops nv nt dk false (i+1) rest s (q9 dk i r.2.rb r.2.wr g?)) (ib nt o.dst bp (.kb false) λs=>oc E ops nv nt dk false (i+1) rest s (q9 dk i r.2.rb r.2.wr g?))
     |none=>.fail)
    else ib nt o.dst bp v λs=>oc E ops nv nt dk top (i+1) rest s (q9 dk i r.2.rb r.2.wr g?))
   (ib nt o.dst s .undef λs=>oc E ops nv nt dk top (i+1) rest s g?)
def aw.iQ{α:Type}(s:aM)(m:aw α):aP (α×aM):=(m.run s 0 [] []).bind λr=>s.v8 r.2.wr λs=>.leaf (r.1,s)
def SR(E:da)(d:Nat)(f:au)(args:List Operand)(s:aM):Option (aP (au×aM)):=
 match f with
 | .clo F dQ cV=>(match E.I F with
  |some g=>some ((aw.iQ s (lO ea args)).bind λr=>g ((E.b+d+1)*65536) (u1 dQ cV r.1) r.2)
  |none=>none)
 |_=>none
def TN(E:da)(o:Oper)(s:aM):aP (au×aM):=
 let plain:aP (au×aM):=((rv E o).run s 0 [] []).bind λr=>s.v8 r.2.wr λbp=>mH r.1 λv=>.leaf (v,bp)
 match o.op with
 | .call ⟨.value f,args,_⟩=>(match SR E (o.dst.getD 0) (Cx s f) args.toList s with
  |some t=>t.bind λr=>mH r.1 λv=>.leaf (v,r.2)
  |none=>plain)
 |_=>plain
def o2(E:da)(ops:List Oper)(nv nt:Nat):Bool->Nat->List Oper->aM->aP aM
 |_,_,[],s=>.leaf s
 |top,i,o::rest,s=>
  Lh ops o s
   ((TN E o s).bind λr=>
    bif Nat.testBit (xd ops) i&&(tz r.1).isSome then
     (match tz r.1 with
     |some c=>
      bif top then ib nt o.dst r.2 (.sc .bool c) λax=>Hd ax (en rest) ((en rest).filter λk=>Nat.blt k nv||(S6 rest).any (Nat.beq k))
       (.br c (ib nt o.dst r.2 (.kb true) λs=>o2 E ops nv nt false (i+1) rest s) (ib nt o.dst r.2 (.kb false) λs=>o2 E ops nv nt false (i+1) rest s))
      else .br c (ib nt o.dst r.2 (.kb true) λs=>o2 E ops nv nt false (i+1) rest s) (ib nt o.dst r.2 (.kb false) λs=>o2 E ops nv nt false (i+1) rest s)
     |none=>.fail)
    else ib nt o.dst r.2 r.1 λs=>o2 E ops nv nt top (i+1) rest s)
   (ib nt o.dst s .undef λs=>o2 E ops nv nt top (i+1) rest s)
def Qc(E:da):List Oper->Bool
 |[]=>false
 | o :: r=>(match o.op with
  |.call ⟨.value (.func f),_,_⟩=>(E.I f).isSome
  |.call ⟨.value _,_,_⟩=>true
  |_=>false)||Qc E r
def aeR(E:da)(s:aM):ResultVar->aw au
 |.tmp t=>.rt t .ret
 |.cell a t=>(aw.opt (E.b8 t)).bind λt=>.rt a λv=>xB t v
def NQ(e:ae):au->aw (List e.aD)
 |.own id _=>.rb id fun
  |.ob bC l=>(aw.opt (ae.kK bC e l)).bind λx=>.eI id .e' (.ret x)
  |_=>.fail
 |.osl id off n=>.rb id fun
  |.ob bC l=>(aw.opt (ae.kK bC e l)).bind λx=>.eI id .e' (.ret (cut x off n))
  |_=>.fail
 |.nil=>.ret []
 |_=>.fail
def alQ(e:ae):au->aw (List e.aD)
 |.csl bC l=>aw.opt (ae.kK bC e l)
 |.nil=>.ret []
 |_=>.fail
def ag4:(r:ef)->au->aw r.aD
 |.im t,v=>lT true t v
 |.ow e,v=>NQ e v
 |.cl e,v=>alQ e v
def n_(s:aM):(rs:List ef)->List au->aP (d8 rs)
 |[],[]=>.leaf ()
 |r::rs,v::vs=>(aw.iQ s (ag4 r v)).bind λx=>(n_ x.2 rs vs).bind λy=>.leaf (x.1,y)
 |_,_=>.fail
def mT(E:da)(s:aM):List ResultVar->aP (List au)
 |[]=>.leaf []
 |r::rs=>(aw.iQ s (aeR E s r)).bind λv=>(mT E s rs).bind λvs=>.leaf (v.1::vs)
def d2:Code->List Nat
 |.region _ ops _=>en ops.toList
 |.seq a b=>d2 a++d2 b
 |.cond _ a b=>d2 a++d2 b
 |.block _ b=>d2 b
 |.loop b=>d2 b
 |.scope b=>d2 b
 |.rangeFunc _ aZ a b=>aZ.toList++d2 a++d2 b
 |_=>[]
def nS:List Nat->List Nat
 |[]=>[]
 |i::r=>bif r.any (Nat.beq i) then nS r else i::nS r
inductive j3 where
 |d (t:ae)|o (id:Nat) (e:ae)|p (a b:j3)
 deriving Inhabited
def j3.aD:j3->Type
 |.d t=>t.aD|.o _ e=>List e.aD|.p a b=>a.aD×b.aD
def j3.zero:(s:j3)->s.aD
 |.d t=>t.zero|.o _ e=>([]:List e.aD)|.p a b=>(a.zero,b.zero)
inductive eY where
 |sl (i:Nat) (t:ae)|ow (i id:Nat) (e:ae)|bk (id:Nat) (e:ae)|bx (id:Nat) (t:ae) (s:j3)|it (id:Nat) (s:List UInt8)
 deriving Inhabited
def eY.aD:eY->Type
 |.sl _ t=>t.aD|.ow _ _ e=>List e.aD|.bk _ e=>List e.aD|.bx _ _ s=>s.aD|.it _ _=>Nat
def eY.zero:(e:eY)->e.aD
 |.sl _ t=>t.zero|.ow _ _ e=>([]:List e.aD)|.bk _ e=>([]:List e.aD)|.bx _ _ s=>s.zero|.it _ _=>(0:Nat)
def mC:List eY->Type
 |[]=>Unit|e::r=>e.aD×mC r
def ahL:(l:List eY)->mC l
 |[]=>()|e::r=>(e.zero,ahL r)
def v'(O R:aM):Nat->Nat->au->au->Option j3
 |0,_,_,_=>none
 |fu+1,n,.two a b,.two c d=>match v' O R fu (2*n) a c,v' O R fu (2*n+1) b d with
  |some (.d t),some (.d u)=>some (.d (.pair t u))
  |some x,some y=>some (.p x y)|_,_=>none
 |fu+1,n,.two a b,.sc (.pair s t) x=>match v' O R fu (2*n) a (.sc s x.1),v' O R fu (2*n+1) b (.sc t x.2) with
  |some (.d t),some (.d u)=>some (.d (.pair t u))
  |some x,some y=>some (.p x y)|_,_=>none
 |fu+1,n,.sc (.pair s t) x,.two c d=>match v' O R fu (2*n) (.sc s x.1) c,v' O R fu (2*n+1) (.sc t x.2) d with
  |some (.d t),some (.d u)=>some (.d (.pair t u))
  |some x,some y=>some (.p x y)|_,_=>none
 |_+1,_,.sc t _,.sc t' _=>bif ae.is t t' then some (.d t) else none
 |_+1,_,.sc t _,.kb _=>bif ae.is t .bool then some (.d .bool) else none
 |_+1,_,.kb _,.sc t _=>bif ae.is t .bool then some (.d .bool) else none
 |_+1,_,.kb _,.kb _=>some (.d .bool)
 |_+1,_,.nil,.sc (.sl e) _=>some (.d (.sl e))
 |_+1,_,.sc (.sl e) _,.nil=>some (.d (.sl e))
 |_+1,n,.nil,.own id _=>(match R.aR id with|.ob e _=>some (.o n e)|.fz e _=>some (.d (.sl e))|_=>none)
 |_+1,n,.own id _,.nil=>(match O.aR id with|.ob e _=>some (.o n e)|.fz e _=>some (.d (.sl e))|_=>none)
 | _+1,n, .own id _, .own oQ _=>(match O.aR id,R.aR oQ with
   |.ob e _,.ob bC _=>bif ae.is e bC then some (.o n e) else none
   |.fz e _,.ob bC _=>bif ae.is e bC then some (.d (.sl e)) else none
   |.ob e _,.fz bC _=>bif ae.is e bC then some (.d (.sl e)) else none
   |.fz e _,.fz bC _=>bif ae.is e bC then some (.d (.sl e)) else none
   |_,_=>none)
 |_+1,_,.sc (.sl e) _,.own id _=>(match R.aR id with|.ob bC _=>bif ae.is e bC then some (.d (.sl e)) else none|.fz bC _=>bif ae.is e bC then some (.d (.sl e)) else none|_=>none)
 |_+1,_,.own id _,.sc (.sl e) _=>(match O.aR id with|.ob bC _=>bif ae.is e bC then some (.d (.sl e)) else none|.fz bC _=>bif ae.is e bC then some (.d (.sl e)) else none|_=>none)
 |_+1,n,.nil,.osl id _ _=>(match R.aR id with|.ob e _=>some (.o n e)|.fz e _=>some (.d (.sl e))|_=>none)
 |_+1,n,.osl id _ _,.nil=>(match O.aR id with|.ob e _=>some (.o n e)|.fz e _=>some (.d (.sl e))|_=>none)
 | _+1,n, .osl id _ _, .own oQ _=>(match O.aR id,R.aR oQ with
   |.ob e _,.ob bC _=>bif ae.is e bC then some (.o n e) else none
   |.fz e _,.ob bC _=>bif ae.is e bC then some (.d (.sl e)) else none
   |.ob e _,.fz bC _=>bif ae.is e bC then some (.d (.sl e)) else none
   |.fz e _,.fz bC _=>bif ae.is e bC then some (.d (.sl e)) else none
   |_,_=>none)
 | _+1,n, .own id _, .osl oQ _ _=>(match O.aR id,R.aR oQ with
   |.ob e _,.ob bC _=>bif ae.is e bC then some (.o n e) else none
   |.fz e _,.ob bC _=>bif ae.is e bC then some (.d (.sl e)) else none
   |.ob e _,.fz bC _=>bif ae.is e bC then some (.d (.sl e)) else none
   |.fz e _,.fz bC _=>bif ae.is e bC then some (.d (.sl e)) else none
   |_,_=>none)
 |_+1,_,.osl _ _ _,.osl _ _ _=>none
 |_+1,_,_,_=>none
def D5:j3->ae
 |.d t=>t|.o _ e=>.sl e|.p a b=>.pair (D5 a) (D5 b)
def lv:j3->List Nat
 |.d _=>[]|.o id _=>[id]|.p a b=>lv a++lv b
def hP:List eY->List Nat
 |[]=>[]
 |.ow _ id _::r=>id::hP r
 |.bx _ _ sh::r=>lv sh++hP r
 |_::r=>hP r
def dv:List eY->List Nat
 |[]=>[]
 |.bk id _::r=>id::dv r
 |.bx id _ _::r=>id::dv r
 |.it id _::r=>id::dv r
 |_::r=>dv r
def u3:List eY->List Nat
 |[]=>[]
 |.sl i _::r=>i::u3 r
 |.ow i _ _::r=>i::u3 r
 |_::r=>u3 r
def z1:aQ->Bool
 |.new=>true|_=>false
def zY:eY->Bool
 |.bk _ _=>true|_=>false
def Ml:List Nat->Bool
 |[]=>true
 |i::r=>!(r.any (Nat.beq i))&&Ml r
def Lp(base:aM)(es:List eY)(BZ:List Nat):Bool:=
 Ml (hP es++dv es)&&(hP es).all (λid=>z1 (base.aR id))&&(dv es).all (λid=>!(z1 (base.aR id)))&&(u3 es).all (λi=>BZ.any (Nat.beq i))
def Ck(base:aM)(es:List eY)(s:aM):Bool:=
 (s.w.take (s.w.length-base.w.length)).all λid=>z1 (base.aR id)||(dv es).any (Nat.beq id)
def xP(e:ae):au->aw (List e.aD)
 |.nil=>bif Nat.blt 0 e.size then .ret []else .fail
 |.own id _=>.rb id fun|.ob bC l=>(aw.opt (ae.kK bC e l)).bind λx=>.eI id .e' (.ret x)|_=>.fail
 |.osl id off n=>.rb id fun|.ob bC l=>(aw.opt (ae.kK bC e l)).bind λx=>.eI id .e' (.ret (cut x off n))|_=>.fail
 |_=>.fail
def NK:au->Option (au×au)
 |.two u v=>some (u,v)
 |.sc (.pair t u) x=>some (.sc t x.1,.sc u x.2)
 |_=>none
def Ay:(sh:j3)->au->aw sh.aD
 |.d t,v=>ad4 t v
 |.o _ e,v=>xP e v
 |.p a b,v=>match NK v with
  |some (u,w)=>(Ay a u).bind λx=>(Ay b w).bind λy=>.ret (x,y)
  |none=>.fail
def gI:(sh:j3)->sh.aD->au×List (Nat×aQ)
 |.d t,x=>(.sc t x,[])
 |.o id e,l=>(.own id false,[(id,.ob e l)])
 |.p a b,x=>(.two (gI a x.1).1 (gI b x.2).1,(gI a x.1).2++(gI b x.2).2)
def Aw(s:aM):(e:eY)->aP (e.aD×aM)
 |.sl i t=>aw.iQ s (.rt i λv=>ad4 t v)
 |.ow i _ e=>aw.iQ s (.rt i λv=>xP e v)
 |.bk id e=>aw.iQ s (.rb id fun|.ob bC l=>aw.opt (ae.kK bC e l)|_=>.fail)
 |.bx id t sh=>aw.iQ s (.rb id fun|.box t' v=>bif ae.is t' t&&ae.is (D5 sh) t then Ay sh v else .fail|_=>.fail)
 |.it id _=>aw.iQ s (.rb id fun|.it _ p=>.ret p|_=>.fail)
def ry(s:aM):(l:List eY)->aP (mC l×aM)
 |[]=>.leaf ((),s)
 |e::r=>bif zY e then(ry s r).bind λy=>(Aw y.2 e).bind λx=>.leaf ((x.1,y.1),x.2)
  else(Aw s e).bind λx=>(ry x.2 r).bind λy=>.leaf ((x.1,y.1),y.2)
def Me(h:List (Nat×aQ)):Nat->Nat->Nat
 |0,i=>i
 |n+1,i=>match qA h i with|.new=>i|_=>Me h n (i+1000000)
def C3{β:Type 1}(s:aM):(e:eY)->e.aD->(aM->β)->β
 |.sl i t,x,k=>s.A1 i (.sc t x) k
 |.ow i id e,l,k=>s.A0 id (.ob e l) λs=>s.A1 i (.own id false) k
 |.bk id e,l,k=>s.A0 id (.ob e l) k
 |.bx id t sh,x,k=>s.v8 (gI sh x).2 λs=>s.A0 id (.box t (gI sh x).1) k
 |.it id _,p,k=>(match s.aR id with|.it str _=>s.A0 id (.it str p) k|_=>k s)
def qy{β:Type 1}(s:aM):(l:List eY)->mC l->(aM->β)->β
 |[],_,k=>k s
 |e::r,x,k=>C3 s e x.1 λs=>qy s r x.2 k
def af5(s:aM)(n i:Nat)(v:au):List aM->Option j3
 |[]=>none
 |cp::r=>match v' s cp 60 n v (cp.bX i) with|some x=>some x|none=>af5 s n i v r
def agm(b:Nat)(s:aM)(zf:List aM):List Nat->List eY
 |[]=>[]
 |i::r=>
  let rest:=agm b s zf r
  match zf with
  |[]=>(match s.bX i with|.sc t _=>.sl i t::rest|.kb _=>.sl i .bool::rest|_=>rest)
  |_::_=>match af5 s (Me s.h 9 (16*(b+i)+15)) i (s.bX i) zf with
   |some (.d t)=>.sl i t::rest
   |some (.o id e)=>.ow i id e::rest
   |_=>rest
def DC:ae->au->au->au×au
 |.sl e,.nil,.nil=>(.sc (.sl e) ([]:List e.aD),.sc (.sl e) ([]:List e.aD))
 |.pair a b,.two u v,.two u' cX=>(.two (DC a u u').1 (DC b v cX).1,.two (DC a u u').2 (DC b v cX).2)
 |_,v,cX=>(v,cX)
def Xa(s:aM)(zf:List aM)(agT:List Nat):List (Nat×aQ)->List eY
 |[]=>[]
 |(id,b)::r=>
  let rest:=Xa s zf agT r
  bif zf.any (λcp=>(cp.w.take (cp.w.length-s.w.length)).any (Nat.beq id)) && !(agT.any (Nat.beq id)) then
   match b,zf with
   | .box t v,cp :: _=>(match cp.aR id with
    |.box _ cX=>(match v' s cp 60 (Me s.h 9 (1000003*(id+1))) (DC t v cX).1 (DC t v cX).2 with|some sh=>.bx id t sh::rest|none=>rest)
    |_=>rest)
   |.box t v,[]=>(match v' s s 60 (Me s.h 9 (1000003*(id+1))) v v with|some sh=>.bx id t sh::rest|none=>rest)
   |.ob e _,_=>.bk id e::rest
   |.it str _,_=>.it id str::rest
   |_,_=>rest
  else rest
def DA(s:aM):List eY->List Nat
 |[]=>[]
 |.ow i _ _::r=>(match s.bX i with|.own id _=>id::DA s r|.osl id _ _=>id::DA s r|_=>DA s r)
 |.bx id _ _::r=>id::DA s r
 |_::r=>DA s r
def zi{β:Type 1}:j3->(j3->β)->β
 |.d t,k=>px t λt=>k (.d t)
 |.o i e,k=>px e λe=>k (.o i e)
 |.p a b,k=>zi a λa=>zi b λb=>k (.p a b)
def am0{β:Type 1}(t:j3)(k:j3->β):zi t k=k t:=by
 induction t generalizing k with
 |d t=>simp only[zi,KT]
 |o i e=>simp only[zi,KT]
 |p a b bu Y=>simp only[zi,bu,Y]
def w6{β:Type 1}:List eY->(List eY->β)->β
 |[],k=>k []
 |.sl i t::r,k=>px t λt=>w6 r λr=>k (.sl i t::r)
 |.ow i id e::r,k=>px e λe=>w6 r λr=>k (.ow i id e::r)
 |.bk i e::r,k=>px e λe=>w6 r λr=>k (.bk i e::r)
 |.bx i t s::r,k=>zi s λs=>w6 r λr=>k (.bx i t s::r)
 |.it i s::r,k=>w6 r λr=>k (.it i s::r)
def amY{β:Type 1}(l:List eY)(k:List eY->β):w6 l k=k l:=by
 induction l generalizing k with
 |nil=>rfl
 |cons e r ih=>cases e<;>simp only[w6,KT,am0,ih]
def TF{ρ:Type}:List (jN ρ)->List aM
 |[]=>[]
 |.nx s::r=>s::TF r
 |_::r=>TF r
def Ap{ρ:Type}:jN ρ->Option aM
 |.nx s=>some s
 |_=>none
def Cp{ρ:Type}:List (jN ρ)->List Nat
 |[]=>[]
 |.ex k _::r=>bif (Cp r).any (Nat.beq k) then Cp r else k::Cp r
 |_::r=>Cp r
def NL{ρ:Type}:List (jN ρ)->List aM
 |[]=>[]
 |.nx s::r=>s::NL r
 |.ex _ s::r=>s::NL r
 |_::r=>NL r
def n6{σ ρ:Type}(f:σ->Option (aE σ ρ)):Nat->σ->Option (aE σ ρ)
 |0,_=>none
 |n+1,x=>match f x with
  |some (.nx wj)=>n6 f n wj
  |r=>r
open Classical in
def bN{σ ρ:Type}(f:σ->Option (aE σ ρ))(x:σ):Option (aE σ ρ):=
 if h:∃n,(n6 f n x).isSome then n6 f (choose h) x else none
def PF(s:aM):List eY->List Nat
 |[]=>[]
 |.bx id _ _::r=>(match s.aR id with|.box _ v=>dM v|_=>[])++PF s r
 |_::r=>PF s r
def ajs(l:List Nat):eY->Bool
 |.bk id _=>!(l.any (Nat.beq id))
 |_=>false
def entries{ρ:Type}(b:Nat)(s:aM)(Hj:List (jN ρ))(BZ:List Nat):List eY:=
 let Zg:=agm b s (TF Hj) BZ
 let QP:=Xa s (NL Hj) (DA s Zg) s.h
 Zg++(QP.filter (λe=>!(zY e))++QP.filter (ajs (PF s QP)))
def Ic{ρ:Type}(base:aM)(es:List eY):jN ρ->aP (aE (mC es) ρ)
 |.nx cp=>(ry cp es).bind λy=>bif Ck base es y.2 then .leaf (aE.nx y.1) else .fail
 |.ex k cp=>(ry cp es).bind λy=>bif Ck base es y.2 then .leaf (aE.ex k y.1) else .fail
 |.rt r=>.leaf (aE.rt r)
def Cq{ρ:Type}(k:Nat)(s:aM):List Nat->aP (jN ρ)
 |[]=>.fail
 |[i]=>.chk (bZ k i) (.leaf (.ex i s))
 |i::r=>.br (bZ k i) (.leaf (.ex i s)) (Cq k s r)
def pQ:List Nat->Code->Bool
 |_,.skip=>true
 |_,.label _=>true
 |_,.region _ _ _=>true
 |b9,.seq a b=>pQ b9 a&&pQ b9 b
 |b9,.cond _ a b=>pQ b9 a&&pQ b9 b
 |b9,.block i b=>pQ (i::b9) b
 |b9,.loop b=>pQ b9 b
 |b9,.exit i=>b9.any (Nat.beq i)
 |_,_=>false
def ade(E:da):Bool:=match E.Pn with|none=>true|some _=>false
def ir:Nat:=999999999
def hs:Nat:=1000000000
def Hy(m:Nat):List Oper->Option (List Oper×Option Nat×Operand×Nat×Oper)
 |[]=>none
 |o::r=>match Hy m r with
  |some q=>some (o::q.1,q.2)
  | none=>(match r,o with
   | [],⟨c6, .call ⟨.value (.func f),args,eg⟩,ty,i9,pm,none⟩=>bif Nat.beq f m then (match args.toList with
    |[c,.const (.int .i64 (.ofNat k))]=>some ([],c6,c,k,⟨c6,.call ⟨.value (.func f),args,eg⟩,ty,i9,pm,none⟩)
    |_=>none) else none
   |_,_=>none)
def Md(E:da)(ops:List Oper):Option (List Oper×Option Nat×Operand×Nat×Oper):=match E.Pn with|some p=>Hy p.1 ops|none=>none
def Lg(n:Nat):List Oper->Bool
 |[]=>true
 |o::r=>(match o.guard with|some (g,_)=>Nat.blt g n|none=>true)&&Lg n r
def Hn(l:List Oper)(o:Oper):Bool:=u2 0 (l++[o])&&Lg l.length l&&(List.range l.length).all λi=>Nat.testBit ((lE (l++[o]) []).getD l.length 0) i
def Ua(E:da):Oper->Option (Nat×Option Nat×nJ×List Operand)
 |⟨c6,.call ⟨.value (.func f),args,_⟩,_,_,_,none⟩=>(match E.Q f with|some s=>some (f,c6,s,args.toList)|none=>none)
 |_=>none
def DL(E:da):List Oper->Option (List Oper×(Nat×Option Nat×nJ×List Operand)×Oper×List Oper)
 |[]=>none
 | o :: r=>(match Ua E o with
  |some q=>some ([],q,o,r)
  | none=>(match DL E r with | some p=>some (o :: p.1,p.2) | none=>none))
def FU{ρ:Type}(k:Nat)(s:aM):List Nat->aP (jN ρ)
 |[]=>.fail
 |[i]=>.chk (bZ k i) (.leaf (.ex (hs+i) s))
 |i::r=>.br (bZ k i) (.leaf (.ex (hs+i) s)) (FU k s r)
def Hx{ρ:Type}(nt:Nat)(c6:Option Nat)(c:Operand)(k:Nat)(s:aM):aP (jN ρ):=
 (aw.iQ s (ea c)).bind λr=>match r.1 with
   |.sc .bool v=>.br v (ib nt c6 s .bad λs=>.leaf (.nx s)) (.leaf (.ex (hs+k) s))
   |.kb v=>bif v then ib nt c6 s .bad λs=>.leaf (.nx s) else .leaf (.ex (hs+k) s)
   |_=>.fail
def NX{ρ:Type}(f:aM->aP (jN ρ)):Nat->aM->aP (jN ρ)
 |0,_=>.fail
 |n+1,s=>(f s).bind fun
  |.nx cp=>NX f n cp
  |o=>.leaf o
section
variable (E:da) (rs:List ef) (res:List ResultVar) (nv nt:Nat) (inl:Bool)
def run:Code->aM->aP (jN (d8 rs))
 |.skip,s=>.leaf (.nx s)
 |.label _,s=>.leaf (.nx s)
 | .region _ ops dk,s=>(match Md E ops.toList with
  |some q=>bif dk then(bif Hn q.1 q.2.2.2.2 then(oc E q.1 nv nt true true 0 q.1 s []).bind λs=>Hx nt q.2.1 q.2.2.1 q.2.2.2.1 s else .fail) else(o2 E ops.toList nv nt true 0 q.1 s).bind λs=>Hx nt q.2.1 q.2.2.1 q.2.2.2.1 s
  |none=>match DL E ops.toList with
  |some (eX,q,_,f8)=>bif dk then .fail else(o2 E ops.toList nv nt true 0 eX s).bind λbp=>(aw.iQ bp ((lO ea q.2.2.2).bind λaZ=>P' q.2.2.1 aZ)).bind λr=>
    .br (bZ r.1.1 0) (ib nt q.2.1 r.2 r.1.2 λd5=>(o2 E ops.toList nv nt true (eX.length+1) f8 d5).bind λeu=>.leaf (.nx eu)) (FU r.1.1 r.2 q.2.2.1.ks)
  | none=>bif !dk && Qc E ops.toList then (o2 E ops.toList nv nt true 0 ops.toList s).bind λs => .leaf (.nx s) else (oc E ops.toList nv nt dk true 0 ops.toList s []).bind λs => .leaf (.nx s))
 |.seq a b,s=>(run a s).bind fun
  |.nx cp=>run b cp
  |o=>.leaf o
 |.cond c a b,s=>(aw.iQ s (ea c)).bind λr=>match r.1 with
  |.kb v=>bif v then run a s else run b s
  |.sc .bool v=>
   bif E.U && !(pQ [] a&&pQ [] b) then(bif v then run a s else run b s) else
   bif pQ [] a&&pQ [] b&&ade E then
    (Hd s (nS (d2 a++d2 b)) ((nS (d2 a++d2 b)).filter λk=>Nat.blt k nv)
     (.br v ((run a s).mR Ap) ((run b s).mR Ap))).bind λs=>.leaf (.nx s)
   else .br v (run a s) (run b s)
  |_=>.fail
 |.block id b,s=>bif Nat.ble ir id then .fail else(run b s).bind fun
  |.ex k cp=>bif Nat.beq k id then .leaf (.nx cp) else .leaf (.ex k cp)
  |o=>.leaf o
 |.exit id,s=>bif Nat.ble ir id then .fail else .leaf (.ex id s)
 |.scope b,s=>run b s
 |.ret,s=>bif inl then .leaf (.ex ir s) else(mT E s res).bind λvs=>(n_ s rs vs).bind λr=>.leaf (.rt r)
 |.loop b,s=>bif E.U then NX (λs=>run b s) 64 s else
  (run b s).pM λHj=>
  w6 (entries E.b s Hj (nS (d2 b))) λes=>
  (ry s es).bind λrR=>Ja rR.2 (nS (d2 b)) λbase=>
   bif Lp base es (nS (d2 b)) then
    .cs (ahL es) (yD rs) (bN (λx=>(qy base es x λs=>aP.bind (run b s) (Ic base es)).bI) rR.1) (λ_=>.fail) (λk x=>qy base es x λs=>Cq k s (Cp Hj)) (λr=>.leaf (.rt r))
   else .fail
 |_,_=>.fail
end
def m7:(ts:List ae)->hZ ts->List au
 |[],_=>[]
 |t::ts,x=>.sc t x.1::m7 ts x.2
def K1{β:Type 1}:Nat->Nat->dH->(dH->β)->β
 |0,_,t,k=>k t
 |n+1,i,t,k=>uA 40 t i .undef λt=>K1 n (i+1) t k
def fill{β:Type 1}(n:Nat):List au->Nat->dH->(dH->β)->β
 |[],i,t,k=>K1 (n-i) i t k
 |v::r,i,t,k=>mH v λv=>uA 40 t i v λt=>fill n r (i+1) t k
def Ma(E:da)(fn:Func)(nv:Nat)(ts:List ae)(rs:List ef)(x:hZ ts):Option (d8 rs):=
 match fn.body with
 |none=>none
 | some c=>bif !(Nat.ble fn.ntmps 1000000) then none else (fill fn.ntmps (m7 ts x) 0 .e λt=>aP.bind (run E rs fn.results.toList nv fn.ntmps false c ⟨t,[],[]⟩) fun
   |.rt r=>.leaf r
   |.nx s=>(mT E s fn.results.toList).bind λvs=>n_ s rs vs
   |.ex _ _=>.fail).bI
def Fk(t:ae):aw t.aD:=.rb 3 λb=>match b with
 |.box t' v=>bif ae.is t' t then(lT true t v).bind λx=>.rb 3 λei=>match ei with
  |.box ev _=>bif ae.is ev t then .eI 3 .e' (.ret x) else .fail
  |_=>.fail
  else .fail
 |_=>.fail
def sb(E:da)(t:ae)(rs:List ef)(res:List ResultVar)(s:aM):aP (t.aD×d8 rs):=
 (mT E s res).bind λvs=>(aw.iQ s (Fk t)).bind λz=>(n_ z.2 rs vs).bind λr=>.leaf (z.1,r)
def Hw(E:da)(fn:Func)(nv:Nat)(t:ae)(ts:List ae)(rs:List ef)(x:t.aD×hZ ts):Option (t.aD×d8 rs):=
 match fn.body with
 |none=>none
 | some c=>bif !(Nat.ble fn.ntmps 1000000) then none else (fill fn.ntmps (.ptr 3 [] :: m7 ts x.2) 0 .e λbz=>aP.bind (run E [] fn.results.toList nv fn.ntmps true c ⟨bz,[(3, .box t (.sc t x.1))],[]⟩) fun
   |.nx s=>sb E t rs fn.results.toList s
   |.ex k s=>bif Nat.beq k ir then sb E t rs fn.results.toList s else .fail
   |.rt _=>.fail).bI
def Mb(E:da)(fn:Func)(nv:Nat)(t:ae)(ts:List ae)(rs:List ef)(x:t.aD×hZ ts):Option (t.aD×Nat×d8 rs):=
 match fn.body with
 |none=>none
 | some c=>bif !(Nat.ble fn.ntmps 1000000) then none else (fill fn.ntmps (.ptr 3 [] :: m7 ts x.2) 0 .e λbz=>aP.bind (run E [] fn.results.toList nv fn.ntmps true c ⟨bz,[(3, .box t (.sc t x.1))],[]⟩) fun
   |.nx s=>(sb E t rs fn.results.toList s).bind λz=>.leaf (z.1,0,z.2)
   |.ex k s=>bif Nat.beq k ir then(sb E t rs fn.results.toList s).bind λz=>.leaf (z.1,0,z.2) else
     bif Nat.blt hs k then(aw.iQ s (Fk t)).bind λz=>.leaf (z.1,k-hs,yD rs) else .fail
   |.rt _=>.fail).bI
def Al:List Operand->Bool
 |[]=>true|_=>false
def x0(bc:Nat):Option Nat->au
 |none=>.sc (.op 1) ()|some k=>.ifc bc (.int .i64) (bf k)
def FH:Code->Option (Nat×Nat×List Operand)
 |.region _ ops dk=>bif dk then none else match ops.toList with
  |[⟨some d,.makeFunc (.func F) first wS,_,_,_,none⟩,⟨none,.defer ⟨.value (.tmp l4),args,_⟩,_,_,_,none⟩]=>bif Nat.beq d l4&&(Al first.toList&&Al args.toList) then some (d,F,wS.toList) else none
  |_=>none
 |_=>none
def ya:Code->Option (Code×(Nat×Nat×List Operand)×Code)
 | .seq a b=>(match FH a with
  |some q=>some (.skip,q,b)
  | none=>(match ya b with | some p=>some (.seq a p.1,p.2) | none=>none))
 |_=>none
def IG:Code->Option (Nat×Code)
 | .seq (.region _ ops false) b=>(match ops.toList with
  |[⟨some d,.call ⟨.builtin .recover,args,_⟩,_,_,_,none⟩]=>bif Al args.toList then some (d,b) else none
  |_=>none)
 |_=>none
def r6(E EC:da)(fn e9:Func)(lQ iM bc:Nat)(C:Code)(rs:List ef)(cV:List il)(o:Option Nat)(s:aM):aP (d8 rs):=
 fill e9.ntmps (cV.map il.pv) 0 .e λaxB=>ib e9.ntmps (some iM) ⟨axB,s.h,s.w⟩ (x0 bc o) λqO=>
  aP.bind (run EC [] e9.results.toList lQ e9.ntmps true C qO) fun
   |.nx eu=>(mT E ⟨s.t,eu.h,eu.w⟩ fn.results.toList).bind λvs=>n_ ⟨s.t,eu.h,eu.w⟩ rs vs
   |.ex k eu=>bif Nat.beq k ir then(mT E ⟨s.t,eu.h,eu.w⟩ fn.results.toList).bind λvs=>n_ ⟨s.t,eu.h,eu.w⟩ rs vs else .fail
   |.rt _=>.fail
def Tm(E EC:da)(fn e9:Func)(nv lQ bc:Nat)(ts:List ae)(rs:List ef)(x:hZ ts):Option (d8 rs):=
 match fn.body,e9.body with
 | some c,some bd=>(match ya c,IG bd with
  |some (A,q,B),some (iM,C)=>bif !(Nat.ble fn.ntmps 1000000&&(Nat.ble e9.ntmps 1000000&&Nat.beq e9.results.size 0)) then none else
   (fill fn.ntmps (m7 ts x) 0 .e λt=>aP.bind (run E [] fn.results.toList nv fn.ntmps true A ⟨t,[],[]⟩) fun
    |.nx bp=>(aw.iQ bp ((lO ea q.2.2).bind λb=>lO Cd b)).bind λcV=>ib fn.ntmps (some q.1) cV.2 .bad λax=>
     aP.bind (run E [] fn.results.toList nv fn.ntmps true B ax) fun
      |.nx d5=>r6 E EC fn e9 lQ iM bc C rs cV.1 none d5
      |.ex k d5=>bif Nat.beq k ir then r6 E EC fn e9 lQ iM bc C rs cV.1 none d5 else bif Nat.blt hs k then r6 E EC fn e9 lQ iM bc C rs cV.1 (some (k-hs)) d5 else .fail
      |.rt _=>.fail
    |_=>.fail).bI
  |_,_=>none)
 |_,_=>none
def Bd:List au->au
 |[v]=>v
 |vs=>.tup (vs.foldr au.two (.sc .unit ()))
def h1(E:da)(fn:Func)(nv:Nat):fL:=λb args s=>
 match fn.body with
 |none=>.fail
 |some c=>bif !(Nat.ble fn.ntmps 1000000) then .fail else fill fn.ntmps args 0 .e λt=>aP.bind (run { E with b:=b } [] fn.results.toList nv fn.ntmps true c ⟨t,s.h,s.w⟩) fun
   |.nx ax=>(mT { E with b:=b } ax fn.results.toList).bind λvs=>bif vs.all vR then .leaf (Bd vs,⟨s.t,ax.h,ax.w⟩) else .fail
   |.ex k ax=>bif Nat.beq k ir then(mT { E with b:=b } ax fn.results.toList).bind λvs=>bif vs.all vR then .leaf (Bd vs,⟨s.t,ax.h,ax.w⟩) else .fail else .fail
   |.rt _=>.fail
end Yp
namespace Yp
open Go
def cE:=@List.length_append
def jM:=@List.getElem?_eq_getElem
def io:=@List.mem_append
def uN:=@List.getElem_of_mem
def uO:=@UInt8.toNat_ofNat'
def qY:=@List.drop_drop
def EJ:=@List.mem_iff_getElem
def tc:=@Nat.mod_lt
def E':=@Nat.min_eq_left
def O3:=@Bool.false_eq_true
def EH:=@Nat.blt_eq
def Ju:=@Nat.mul_comm
def bH.NS(k:IntKind)(n:Int):bH.to k (bH.of k n)=k.wrap n:=by
 cases k<;>simp only[bH.to,bH.of,i64,G5,ab3,ab4,u8,u16,u32,u64,aI,HB,aS,cB]
 .rw[UInt8.ofInt];simp[IntKind.wrap,IntKind.signed,IntKind.bits];omega
 .rw[UInt16.ofInt];simp[IntKind.wrap,IntKind.signed,IntKind.bits];omega
 .rw[UInt32.ofInt];simp[IntKind.wrap,IntKind.signed,IntKind.bits];omega
 rw[UInt64.ofInt];simp[IntKind.wrap,IntKind.signed,IntKind.bits];omega
def bH.ag5(k:IntKind)(n:Int)(h:Hr k n=true):bH.to k (bH.lit k n)=n:=by
 cases k<;>cases n<;>simp only[bH.to,bH.lit,u8,u16,u32,u64,aI,HB,aS,cB,Hr,EH,O3]at h ⊢
 .rw[UInt8.ofInt,uO];simp;omega
 .rw[UInt16.ofInt,UInt16.toNat_ofNat'];simp;omega
 .rw[UInt32.ofInt,UInt32.toNat_ofNat'];simp;omega
 rw[UInt64.ofInt,UInt64.toNat_ofNat'];simp;omega
def cF(c:Array Value)(o n:Nat):List Value:=(c.toList.drop o).take n
abbrev hO{α:Type}(l:List α)(i:Nat):Option α:=l[i]?
abbrev cg:=Nat->Option Obj
def cg.cb(H H':cg):Prop:=∀b o,H b=some o->H' b=some o
def cg.cb.refl(H:cg):H.cb H:=λ_ _ h=>h
def cg.cb.trans{H H' Wk:cg}(h:H.cb H')(g:H'.cb Wk):H.cb Wk:=λb o e=>g b o (h b o e)
def Aj:Nat->Value
 |0=>.nilFunc|1=>.nilIface|2=>.map none|_=>.pointer none
def sf(l:List Nat):Nat->Value
 |0=>.nilFunc
 |n+1=>match l[n]? with|some f=>.func (.func f) #[] #[]|none=>.nilFunc
def aH(H:cg):(t:ae)->t.aD->List Value->Prop
 |.bool,b,cs=>cs=[.bool b]
 |.int k,x,cs=>cs=[.int k (bH.to k x)]
 |.str,s,cs=>cs=[.string ⟨(s:List UInt8).toArray⟩]
 |.sl e,l,cs=>∃a cap,cs=[.slice a (l:List e.aD).length cap]/\(l:List e.aD).length<=cap/\cap<=maxLen /\
   ((l:List e.aD)=[]\/∃b o c el fz,a=some ⟨b,o,none⟩/\H b=some (.cells c el fz)/\o+(l:List e.aD).length*e.size<=c.size /\
    ∀(i:Nat) (x:e.aD),hO (α:=e.aD) l i=some x->aH H e x (cF c (o+i*e.size) e.size))
 |.unit,_,cs=>cs=[]
 |.pair a b,x,cs=>∃c1 c2,cs=c1++c2/\aH H a x.1 c1/\aH H b x.2 c2
 |.ar n e,l,cs=>(l:List e.aD).length=n/\cs.length=n*e.size /\
   ∀(i:Nat) (x:e.aD),hO (α:=e.aD) l i=some x->aH H e x ((cs.drop (i*e.size)).take e.size)
 |.op k,_,cs=>cs=[Aj k]
 |.fn l,x,cs=>cs=[sf l x]
def atl(k:Nat):(Aj k).oneCell'=true:=by unfold Aj;split<;>simp[Value.oneCell']
def ann(l:List Nat)(x:Nat):(sf l x).oneCell'=true:=by
 cases x with
 |zero=>simp[sf,Value.oneCell']
 |succ n=>simp only[sf];split<;>simp[Value.oneCell']
def aH.length{H:cg}:∀{t:ae} {x:t.aD} {cs:List Value},aH H t x cs->cs.length=t.size
 |.bool,_,_,h=>by rw[h];rfl
 |.int _,_,_,h=>by rw[h];rfl
 |.str,_,_,h=>by rw[h];rfl
 |.sl _,_,_,h=>by obtain⟨a,cap,h,_⟩:=h;rw[h];rfl
 |.unit,_,_,h=>by rw[h];rfl
 |.pair a b,_,_,h=>by obtain⟨c1,c2,h,O,R⟩:=h;rw[h,cE,aH.length O,aH.length R];rfl
 |.ar n e,_,_,h=>by exact h.2.1
 |.op k,_,_,h=>by rw[h];rfl
 |.fn l,_,_,h=>by rw[h];rfl
def aH.mono{H H':cg}(hl:H.cb H'):∀{t:ae} {x:t.aD} {cs:List Value},aH H t x cs->aH H' t x cs
 |.bool,_,_,h=>by exact h
 |.int _,_,_,h=>by exact h
 |.str,_,_,h=>by exact h
 |.sl e,_,_,h=>by
  obtain⟨a,cap,h,ai,hm,R⟩:=h;refine⟨a,cap,h,ai,hm,?_⟩;rcases R with R|⟨b,o,c,el,fz,bu,Y,ac,hx⟩
  .grind
  exact .inr ⟨b,o,c,el,fz,bu,hl _ _ Y,ac,λi x hi=>aH.mono hl (hx i x hi)⟩
 |.unit,_,_,h=>by exact h
 |.pair a b,_,_,h=>by obtain⟨c1,c2,h,O,R⟩:=h;exact⟨c1,c2,h,aH.mono hl O,aH.mono hl R⟩
 |.ar n e,_,_,h=>by exact⟨h.1,h.2.1,λi x hi=>aH.mono hl (h.2.2 i x hi)⟩
 |.op k,_,_,h=>by exact h
 |.fn l,_,_,h=>by exact h
def acT(n e:Nat)(cs:List α)(h:cs.length=n*e)(v:α)(aC:v∈cs):∃i,i<n/\v∈(cs.drop (i*e)).take e:=by
 obtain⟨j,an,rfl⟩:=uN aC;have aA:0<e:=by
  rcases Nat.eq_zero_or_pos e with ao|ao;· subst ao;simp at h;subst h;simp at an
  exact ao
 refine⟨j/e,?_,?_⟩
 .exact Nat.div_lt_of_lt_mul (by grind)
 rw[EJ];have hm:j%e<e:=tc _ aA;have aF:j/e*e+j%e=j:=by rw[Ju];exact Nat.div_add_mod j e
 have cq:j%e<((cs.drop (j/e*e)).take e).length:=by
  grind
 grind
def aH.one{H:cg}:∀{t:ae} {x:t.aD} {cs:List Value},aH H t x cs->∀v∈cs,v.oneCell'=true
 |.bool,_,_,h=>by rw[aH]at h;subst h;simp[Value.oneCell']
 |.int _,_,_,h=>by rw[aH]at h;subst h;simp[Value.oneCell']
 |.str,_,_,h=>by rw[aH]at h;subst h;simp[Value.oneCell']
 |.sl _,_,_,h=>by rw[aH]at h;obtain⟨a,cap,h,_⟩:=h;subst h;simp[Value.oneCell']
 |.unit,_,_,h=>by rw[aH]at h;subst h;simp
 |.pair a b,_,_,h=>by
  rw[aH]at h;obtain⟨c1,c2,h,O,R⟩:=h;subst h;intro v aC;rcases io.1 aC with aC|aC
  .exact aH.one O v aC
  exact aH.one R v aC
 |.ar n e,x,cs,h=>by rw[aH]at h;obtain⟨aj,hl,hx⟩:=h;intro v aC;obtain⟨i,hi,hm⟩:=acT n e.size cs hl v aC;have:i<(x:List e.aD).length:=J;exact aH.one (hx i _ (jM this)) v hm
 |.op k,_,_,h=>by rw[aH]at h;subst h;intro v aC;simp at aC;rw[aC];exact atl k
 |.fn l,_,_,h=>by rw[aH]at h;subst h;intro v aC;simp at aC;rw[aC];exact ann l _
def ct(t:ae)(cs:List Value):Value:=if t.isAgg then .agg cs.toArray else cs.headD undef
def Hv{H:cg}{t:ae}{x:t.aD}{cs:List Value}(h:aH H t x cs):(ct t cs).cells=cs.toArray:=by
 cases t with
 |unit=>rfl
 |pair a b=>rfl
 |ar n e=>rfl
 |bool=>rw[aH]at h;subst h;rfl
 |int k=>rw[aH]at h;subst h;rfl
 |str=>rw[aH]at h;subst h;rfl
 |sl e=>rw[aH]at h;obtain⟨a,cap,h,_⟩:=h;subst h;rfl
 |op k =>subst h;unfold Aj;split<;>rfl
 |fn l =>subst h;unfold sf;split<;>(try split)<;>rfl
def pW{c:Array Value}(h:o+n<=c.size):(cF c o n).length=n:=by simp[cF];omega
def ux{c:Array Value}(h:i<n):(cF c o n)[i]?=c[o+i]?:=by simp[cF,h]
def DZ(c:Array Value)(o n p m:Nat)(h:p+m<=n):((cF c o n).drop p).take m=cF c (o+p) m:=by unfold cF;rw[List.drop_take,List.take_take,qY,E' J]
def Nk(c:Array Value)(o m n:Nat):cF c o (m+n)=cF c o m++cF c (o+m) n:=by unfold cF;rw[List.take_add,qY]
def aH.ia{H:cg}{k:IntKind}{x:(ae.int k).aD}{cs:List Value}:aH H (.int k) x cs↔cs=[.int k (bH.to k x)]:=by rw[aH]
def aH.nP{H:cg}{x:ae.bool.aD}{cs:List Value}:aH H .bool x cs↔cs=[.bool x]:=by rw[aH]
def aH.ml{H:cg}{x:ae.str.aD}{cs:List Value}:aH H .str x cs↔cs=[.string ⟨(x:List UInt8).toArray⟩]:=by rw[aH]
def aH.Bn{H:cg}{x:ae.unit.aD}{cs:List Value}:aH H .unit x cs↔cs=[]:=by rw[aH]
def aH.mh{H:cg}{a b:ae}{x:(ae.pair a b).aD}{cs:List Value}:aH H (.pair a b) x cs↔∃c1 c2,cs=c1++c2/\aH H a x.1 c1/\aH H b x.2 c2:=by rw[aH]
def aH.uY{H:cg}{e:ae}{l:(ae.ar n e).aD}{cs:List Value}:aH H (.ar n e) l cs↔(l:List e.aD).length=n/\cs.length=n*e.size /\
  ∀(i:Nat) (x:e.aD),hO (α:=e.aD) l i=some x->aH H e x ((cs.drop (i*e.size)).take e.size):=by rw[aH]
def aH.BW{H:cg}{e:ae}{l:List e.aD}{cs:List Value}:aH H (.ar n e) l cs↔l.length=n/\cs.length=n*e.size /\
  ∀(i:Nat) (x:e.aD),hO l i=some x->aH H e x ((cs.drop (i*e.size)).take e.size):=aH.uY
def aH.x_{H:cg}{e:ae}{l:(ae.sl e).aD}{cs:List Value}:aH H (.sl e) l cs↔∃a cap,cs=[.slice a (l:List e.aD).length cap]/\(l:List e.aD).length<=cap/\cap<=maxLen /\
 ((l:List e.aD)=[]\/∃b o c el fz,a=some ⟨b,o,none⟩/\H b=some (.cells c el fz)/\o+(l:List e.aD).length*e.size<=c.size /\
  ∀(i:Nat) (x:e.aD),hO (α:=e.aD) l i=some x->aH H e x (cF c (o+i*e.size) e.size)):=by rw[aH]
def aH.ic{H:cg}{e:ae}{l:List e.aD}{cs:List Value}:aH H (.sl e) l cs↔∃a cap,cs=[.slice a l.length cap]/\l.length<=cap/\cap<=maxLen /\
 (l=[]\/∃b o c el fz,a=some ⟨b,o,none⟩/\H b=some (.cells c el fz)/\o+l.length*e.size<=c.size /\
  ∀(i:Nat) (x:e.aD),hO l i=some x->aH H e x (cF c (o+i*e.size) e.size)):=aH.x_
def aH.vU{H:cg}{x:(ae.op k).aD}{cs:List Value}:aH H (.op k) x cs↔cs=[Aj k]:=by rw[aH]
def aH.F2{H:cg}{l:List Nat}{x:(ae.fn l).aD}{cs:List Value}:aH H (.fn l) x cs↔cs=[sf l x]:=by rw[aH]
def cL:=@Bool.and_eq_true
def bU:=@Nat.le_refl
def fB:=@Nat.eq_of_beq_eq_true
def fJ:=@Nat.add_mul
def uM:=@List.all_cons
def JV:=@List.replicate_succ
def EZ:=@List.drop_left
def Wm:=@List.getElem?_replicate
def Jp:=@Nat.beq_eq
def dz:ae->List Value
 |.bool=>[.bool false]|.int k=>[.int k 0]|.str=>[.string ⟨#[]⟩]|.sl _=>[.slice none 0 0]|.unit=>[]
 |.pair a b=>dz a++dz b
 |.ar n e=>(List.replicate n (dz e)).flatten
 |.op k=>[Aj k]|.fn _=>[.nilFunc]
def rT:∀t:ae,(dz t).length=t.size
 |.bool=>rfl|.int _=>rfl|.str=>rfl|.sl _=>rfl|.unit=>rfl
 |.pair a b=>by simp[dz,ae.size,rT a,rT b]
 |.ar n e=>by simp[dz,ae.size,rT e]
 |.op _=>rfl|.fn _=>rfl
def anl(l:List α)(n i:Nat)(h:i<n):((List.replicate n l).flatten.drop (i*l.length)).take l.length=l:=by
 induction n generalizing i with
 |zero=>omega
 |succ n ih=>
  rw[JV,List.flatten_cons];cases i with
  |zero=>simp
  |succ i=>
   have:(i+1)*l.length=l.length+i*l.length:=by rw[fJ];omega
   rw[this,<- qY,EZ]
   grind
def bH.axS(k:IntKind):bH.to k (bH.zero k)=0:=by cases k<;>first|rfl|decide
def aH.zero(H:cg):∀t:ae,aH H t t.zero (dz t)
 |.bool=>by rw[aH];rfl
 |.int k=>by rw[aH];simp[dz,ae.zero,bH.axS]
 |.str=>by rw[aH];rfl
 |.sl e=>by rw[aH];exact⟨none,0,rfl,bU _,by unfold maxLen;omega,.inl rfl⟩
 |.unit=>by rw[aH];rfl
 |.pair a b=>by rw[aH];exact⟨_,_,rfl,aH.zero H a,aH.zero H b⟩
 |.ar n e=>by
  rw[aH];refine⟨by simp[ae.zero],by simp[dz,rT e],λi x hi => ?_⟩;simp only[hO,ae.zero,Wm]at hi;split at hi
  .rename_i h
   cases hi;have:=anl (dz e) n i h;rw[rT]at this;simp only[dz];rw[this];exact aH.zero H e
  cases hi
 |.op k=>by rw[aH];rfl
 |.fn l=>by rw[aH];rfl
def sB(P:Program)(tid:TypeId)(t:ae):Prop:=
 ∃i,P.info? tid=some i/\i.size=t.size/\i.bytes<=t.bytes/\i.zero=some (ct t (dz t))
def HQ:Nat->Option TypeDesc->Prop
 |0,d=>∃a b c,d=some (.func a b c)
 |1,d=>∃a,d=some (.interface a)
 |2,d=>∃a b,d=some (.map a b)
 |3,d=>∃a,d=some (.pointer a)
 |_,_=>False
def cO(P:Program):ae->(TypeId->Prop)×(List Field->Nat->Prop)
 |.bool=>(λt=>P.underlying t=some .bool/\sB P t .bool,λ_ _=>False)
 |.int k=>(λt=>P.underlying t=some (.int k)/\sB P t (.int k),λ_ _=>False)
 |.str=>(λt=>P.underlying t=some .string/\sB P t .str,λ_ _=>False)
 |.sl e=>(λt=>(∃bc,P.underlying t=some (.slice bc)/\(cO P e).1 bc)/\sB P t (.sl e),λ_ _=>False)
 |.unit=>(λt=>(∃e_,P.underlying t=some (.struct e_)/\e_.toList=[])/\sB P t .unit,λl _=>l=[])
 |.pair a b=>
  (λt=>(∃e_,P.underlying t=some (.struct e_)/\∃f r,e_.toList=f::r/\f.offset=0/\(cO P a).1 f.type/\(cO P b).2 r a.size)/\sB P t (.pair a b),
   λl off=>∃f r,l=f::r/\f.offset=off/\(cO P a).1 f.type/\(cO P b).2 r (off+a.size))
 |.ar n e=>(λt=>(∃bc,P.underlying t=some (.array n bc)/\(cO P e).1 bc)/\sB P t (.ar n e),λ_ _=>False)
 |.op k=>(λt=>HQ k (P.underlying t)/\sB P t (.op k),λ_ _=>False)
 |.fn l=>(λt=>HQ 0 (P.underlying t)/\sB P t (.fn l),λ_ _=>False)
def nc{P:Program}:∀{t:ae} {tid:TypeId},(cO P t).1 tid->sB P tid t
 |.bool,_,h=>h.2|.int _,_,h=>h.2|.str,_,h=>h.2|.sl _,_,h=>h.2|.unit,_,h=>h.2|.pair _ _,_,h=>h.2|.ar _ _,_,h=>h.2|.op _,_,h=>h.2|.fn _,_,h=>h.2
def Qg:Value->Value->Bool
 |.bool a,.bool b=>a==b
 |.int k n,.int k' m=>decide (k=k')&&decide (n=m)
 |.string s,.string t=>s.data.toList.isEmpty&&t.data.toList.isEmpty
 |.slice none 0 0,.slice none 0 0=>true
 |.nilFunc,.nilFunc=>true
 |.nilIface,.nilIface=>true
 |.map none,.map none=>true
 |.pointer none,.pointer none=>true
 |_,_=>false
def alN{a b:Value}(h:Qg a b=true):a=b:=by
 unfold Qg at h;split at h
 .grind
 .grind
 .rename_i s t
  rcases s with⟨s⟩;rcases t with⟨t⟩
  grind
 .rfl
 .rfl
 .rfl
 .rfl
 .rfl
 cases h
def Fz:List Value->List Value->Bool
 |[],[]=>true
 |a::l,b::m=>Qg a b&&Fz l m
 |_,_=>false
def Qh:∀{l m:List Value},Fz l m=true->l=m
 |[],[],_=>rfl
 |a::l,b::m,h=>by simp only[Fz,cL]at h;rw[alN h.1,Qh h.2]
def Wf(t:ae):Option Value->Bool
 |some (.agg cs)=>t.isAgg&&Fz cs.toList (dz t)
 |some v=>!t.isAgg&&Fz [v] (dz t)
 |none=>false
def ayN{t:ae}{o:Option Value}(h:Wf t o=true):o=some (ct t (dz t)):=by
 unfold Wf at h;split at h
 .rename_i cs
  simp at h;rw[<- Qh h.2,ct,if_pos h.1]
 .rename_i v _
  simp at h;rw[<- Qh h.2,ct,if_neg (by grind)];rfl
 cases h
def sA(P:Program)(tid:TypeId)(t:ae):Bool:=
 match P.info? tid with
 |some i=>Nat.beq i.size t.size&&Nat.ble i.bytes t.bytes&&Wf t i.zero
 |none=>false
def vA{P:Program}{tid:TypeId}{t:ae}(h:sA P tid t=true):sB P tid t:=by
 unfold sA at h;split at h
 .rename_i i hi
  simp at h;exact⟨i,hi,h.1.1,h.1.2,ayN h.2⟩
 cases h
def Mx:Nat->Option TypeDesc->Bool
 |0,some (.func _ _ _)=>true
 |1,some (.interface _)=>true
 |2,some (.map _ _)=>true
 |3,some (.pointer _)=>true
 |_,_=>false
def adZ{d:Option TypeDesc}(h:Mx k d=true):HQ k d:=by unfold Mx at h;split at h<;>first|exact⟨_,_,_,rfl⟩|exact⟨_,_,rfl⟩|exact⟨_,rfl⟩|cases h
def kv(P:Program):ae->(TypeId->Bool)×(List Field->Nat->Bool)
 |.bool=>(λt=>(match P.underlying t with|some .bool=>true|_=>false)&&sA P t .bool,λ_ _=>false)
 |.int k=>(λt=>(match P.underlying t with|some (.int k')=>decide (k'=k)|_=>false)&&sA P t (.int k),λ_ _=>false)
 |.str=>(λt=>(match P.underlying t with|some .string=>true|_=>false)&&sA P t .str,λ_ _=>false)
 |.sl e=>(λt=>(match P.underlying t with|some (.slice bc)=>(kv P e).1 bc|_=>false)&&sA P t (.sl e),λ_ _=>false)
 |.unit=>(λt=>(match P.underlying t with|some (.struct e_)=>e_.toList.isEmpty|_=>false)&&sA P t .unit,λl _=>l.isEmpty)
 |.pair a b=>
  (λt=>(match P.underlying t with
   |some (.struct e_)=>(match e_.toList with|f::r=>Nat.beq f.offset 0&&(kv P a).1 f.type&&(kv P b).2 r a.size|[]=>false)
   | _=>false) && sA P t (.pair a b),
   λl off=>match l with|f::r=>Nat.beq f.offset off&&(kv P a).1 f.type&&(kv P b).2 r (off+a.size)|[]=>false)
 |.ar n e=>(λt=>(match P.underlying t with|some (.array m bc)=>Nat.beq m n&&(kv P e).1 bc|_=>false)&&sA P t (.ar n e),λ_ _=>false)
 |.op k=>(λt=>Mx k (P.underlying t)&&sA P t (.op k),λ_ _=>false)
 |.fn l=>(λt=>Mx 0 (P.underlying t)&&sA P t (.fn l),λ_ _=>false)
def tG{P:Program}:∀(t:ae),(∀tid,(kv P t).1 tid=true->(cO P t).1 tid)/\(∀l off,(kv P t).2 l off=true->(cO P t).2 l off)
 |.bool=>by refine⟨λtid h => ?_,λl off h=>by cases h⟩;simp only[kv,cL]at h;refine⟨?_,vA h.2⟩;have O:=h.1;split at O<;>first|assumption|cases O
 |.int k=>by
  refine⟨λtid h => ?_,λl off h=>by cases h⟩;simp only[kv,cL]at h;refine⟨?_,vA h.2⟩;have O:=h.1;split at O
  .rename_i aL;simp at O;rw[<- O];exact aL
  cases O
 |.str=>by refine⟨λtid h => ?_,λl off h=>by cases h⟩;simp only[kv,cL]at h;refine⟨?_,vA h.2⟩;have O:=h.1;split at O<;>first|assumption|cases O
 |.sl e=>by
  refine⟨λtid h => ?_,λl off h=>by cases h⟩;simp only[kv,cL]at h;refine⟨?_,vA h.2⟩;have O:=h.1;split at O
  .rename_i bc aL;exact⟨bc,aL,(tG e).1 _ O⟩
  cases O
 |.unit=>by
  refine⟨λtid h => ?_,λl off h=>by simpa[kv,cO]using h⟩;simp only[kv,cL]at h;refine⟨?_,vA h.2⟩;have O:=h.1;split at O
  .rename_i e_ aL;exact⟨e_,aL,by simpa using O⟩
  cases O
 |.pair a b=>by
  refine⟨λtid h => ?_,λl off h => ?_⟩
  .simp only[kv,cL]at h
   refine⟨?_,vA h.2⟩;have O:=h.1;split at O
   .rename_i e_ aL
    split at O
    .rename_i f r hf
     simp only[cL,Jp]at O;exact⟨e_,aL,f,r,hf,O.1.1,(tG a).1 _ O.1.2,(tG b).2 _ _ O.2⟩
    cases O
   cases O
  simp only[kv]at h;split at h
  .rename_i f r
   simp only[cL,Jp]at h;exact⟨f,r,rfl,h.1.1,(tG a).1 _ h.1.2,(tG b).2 _ _ h.2⟩
  cases h
 |.ar n e=>by
  refine⟨λtid h => ?_,λl off h=>by cases h⟩;simp only[kv,cL]at h;refine⟨?_,vA h.2⟩;have O:=h.1;split at O
  .rename_i m bc aL
   simp only[cL,Jp]at O;rw[<- O.1];exact⟨bc,aL,(tG e).1 _ O.2⟩
  cases O
 |.op k=>by refine⟨λtid h => ?_,λl off h=>by cases h⟩;simp only[kv,cL]at h;exact⟨adZ h.1,vA h.2⟩
 |.fn k=>by refine⟨λtid h => ?_,λl off h=>by cases h⟩;simp only[kv,cL]at h;exact⟨adZ h.1,vA h.2⟩
def mV(P:Program)(b8:Nat->Option ae):Prop:=∀tid t,b8 tid=some t->(cO P t).1 tid
def agN(P:Program):∀(l:List (Nat×ae)),(l.all λp=>(kv P p.2).1 p.1)=true->mV P (Dd l)
 |[],_=>λtid t h=>by cases h
 |(i,u)::r,h=>λtid t ht=>by
  simp only[uM,cL]at h;simp only[Dd]at ht;cases Y:Nat.beq i tid with
  |true=>rw[Y]at ht;cases ht;rw[<- fB Y];exact(tG _).1 _ h.1
  |false=>rw[Y]at ht;exact agN P r h.2 tid t ht
end Yp
namespace Yp
open Go
def km:=@Option.some.injEq
def kH:=@Prod.mk.injEq
abbrev cc:=Nat->Option (Nat×Nat×Nat)
def ae.d?: ae->List mx->Option (Nat×ae)
 |t,[]=>some (0,t)
 |.pair a _,.fst::p=>a.d? p
 |.pair a b,.snd::p=>(b.d? p).map λq=>(a.size+q.1,q.2)
 |.ar n e,.ix i::p=>if i<n then(e.d? p).map λq=>(i*e.size+q.1,q.2) else none
 |_,_=>none
def hu(phx:cc)(id:Nat)(e:ae)(off len:Nat)(v:Value):Prop:=
 (len=0/\∃a,v=.slice a 0 0) \/
 ∃b o n cap,phx id=some (b,o,n)/\v=.slice (some ⟨b,o+off*e.size,none⟩) len cap/\len<=cap/\cap<=maxLen/\o+(off+cap)*e.size<=n
def th(phx:cc)(id:Nat)(e:ae)(off N:Nat)(v:Value):Prop:=
 (N<=off/\∃a,v=.slice a 0 0)\/∃b o n m cap,phx id=some (b,o,n)/\v=.slice (some ⟨b,o+off*e.size,none⟩) m cap/\N<=off+cap
section
variable (phx:cc) (H:cg) (B:Nat->aQ)
def uQ:il->Value->Prop
 | .ptr id p,v=>(match B id with
  |.box t _=>∃b o n off t',phx id=some (b,o,n)/\t.d? p=some (off,t')/\v=.pointer (some ⟨b,o+off,none⟩)
  |.fz _ _=>∃b o n,phx id=some (b,o,n)/\(p=[]->v=.pointer (some ⟨b,o,none⟩))
  |.e'=>True
  |_=>False)
 |.iw t x,v=>∃cs,aH H t x cs/\v=ct t cs
def jw:List il->List Value->Prop
 |[],vs=>vs=[]
 |c::r,vs=>∃v d3,vs=v::d3/\uQ phx H B c v/\jw r d3
def bM:au->Value->Prop
 |.bad,_=>True
 |.undef,v=>v=Go.undef
 |.kb b,v=>v=.bool b
 |.nq c,v=>∃b,v=.bool b/\(b=true->c=true)
 |.nil,v=>v=.slice none 0 0
 | .own id d',v=>(match B id with
  |.ob e l=>hu phx id e 0 l.length v/\(d'=true->l.length≠0)
  |.fz e l=>hu phx id e 0 l.length v/\(d'=true->l.length≠0)
  |.e'=>True
  |_=>False)
 | .osl id off n,v=>(match B id with
  |.ob e l=>off+n<=l.length/\hu phx id e off n v/\th phx id e off l.length v
  |.fz e l=>off+n<=l.length/\hu phx id e off n v
  |.box t _=>(match t with|.ar m e=>0<e.size/\off+n<=m/\hu phx id e off n v|_=>False)
  |.e'=>True
  |_=>False)
 |.csl e l,v=>∃a,v=.slice a l.length l.length/\aH H (.sl e) l [v]
 | .ptr id p,v=>(match B id with
  |.box t _=>∃b o n off t',phx id=some (b,o,n)/\t.d? p=some (off,t')/\v=.pointer (some ⟨b,o+off,none⟩)
  |.fz _ _=>∃b o n,phx id=some (b,o,n)/\(p=[]->v=.pointer (some ⟨b,o,none⟩))
  |.e'=>True
  |_=>False)
 | .opt id i p,v=>(match B id with
  |.ob e l=>i<l.length/\∃b o n off t',phx id=some (b,o,n)/\e.d? p=some (off,t')/\v=.pointer (some ⟨b,o+i*e.size+off,none⟩)
  |.fz e l=>i<l.length/\∃b o n off t',phx id=some (b,o,n)/\e.d? p=some (off,t')/\v=.pointer (some ⟨b,o+i*e.size+off,none⟩)
  |.e'=>True
  |_=>False)
 |.ipt e l i p,v=>i<l.length/\∃b o cap off t',aH H (.sl e) l [.slice (some ⟨b,o,none⟩) l.length cap]/\e.d? p=some (off,t')/\v=.pointer (some ⟨b,o+i*e.size+off,none⟩)
 | .itp id,v=>(match B id with
  |.it _ _=>∃b,phx id=some (b,0,0)/\v=.pointer (some ⟨b,0,none⟩)
  |.e'=>True
  |_=>False)
 |.clo f dQ cV,v=>∃vs,jw phx H B cV vs/\v=.func (.func f) (vs.take dQ).toArray (vs.drop dQ).toArray
 |.ifc tid t x,v=>∃cs,aH H t x cs/\v=.iface tid (ct t cs)
 | .mpp id,v=>(match B id with
  |.mp _ _ _=>∃b,phx id=some (b,0,0)/\v=.map (some b)
  |.e'=>True
  |_=>False)
 | .psl id n,v=>(match B id with
  |.box t _=>t=mq n/\∃b o m cap,phx id=some (b,o,m)/\v=.slice (some ⟨b,o,none⟩) n cap
  |.e'=>True
  |_=>False)
 |.sc _ _,_=>False
 |.two _ _,_=>False
 |.agg _ _,_=>False
 |.tup _,_=>False
def e3:au->ae->List Value->Prop
 |.two u v,t,cs=>(match t with|.pair a b=>∃c1 c2,cs=c1++c2/\e3 u a c1/\e3 v b c2|_=>False)
 |.sc t' x,t,cs=>∃h:t'=t,aH H t (h▸x) cs
 |.agg _ _,_,_=>False
 |.tup _,_,_=>False
 |.bad,t,cs=>cs.length=t.size/\∀v∈cs,v.oneCell'=true
 |pv,t,cs=>t.isAgg=false/\∃v,cs=[v]/\v.oneCell'=true/\bM phx H B pv v
def dZ:au->Value->Prop
 |.sc t x,v=>∃cs,aH H t x cs/\v=ct t cs
 |.agg t a,v=>t.isAgg=true/\∃cs,e3 phx H B a t cs/\v=.agg cs.toArray
 |pv,v=>bM phx H B pv v
def lD:au->List Value->Prop
 |.two u r,vs=>∃v d3,vs=v::d3/\dZ phx H B u v/\lD r d3
 |.sc .unit _,vs=>vs=[]
 |_,_=>False
def a?: au->Value->Prop
 |.tup a,v=>∃vs,lD phx H B a vs/\v=.tuple vs.toArray
 |pv,v=>dZ phx H B pv v
end
def aQ.cb:aQ->aQ->Prop
 |.new,_=>True
 |_,.e'=>True
 |.box t _,.box t' _=>t=t'
 |.box t _,.fz e l=>t=.ar l.length e/\0<e.size
 |.ob e l,.ob bC g6=>e=bC/\l.length=g6.length
 |.ob e l,.fz bC g6=>e=bC/\l.length=g6.length
 |.fz e l,.fz bC g6=>e=bC/\l.length=g6.length
 |.it s _,.it cp _=>s=cp
 |.mp k v _,.mp k' cX _=>k=k'/\v=cX
 |_,_=>False
def aQ.cb.refl:∀b:aQ,b.cb b
 |.new=>trivial|.e'=>trivial|.box _ _=>rfl|.ob _ _=>⟨rfl,rfl⟩|.fz _ _=>⟨rfl,rfl⟩|.it _ _=>rfl|.mp _ _ _=>⟨rfl,rfl⟩
def aQ.iC:aQ->Bool
 |.new=>false|_=>true
def th.congr{phx phx':cc}{id:Nat}{e:ae}{v:Value}(h:phx' id=phx id)(ah:th phx id e off N v):th phx' id e off N v:=by unfold th at *;rw[h];exact ah
def hu.cap{phx:cc}{id:Nat}{e:ae}{v:Value}(h:hu phx id e 0 n v):th phx id e 0 n v:=by
 rcases h with⟨O,a,R⟩|⟨b,o,m,cap,O,R,af,_⟩
 .exact .inl ⟨J,a,R⟩
 exact .inr ⟨b,o,m,n,cap,O,R,J⟩
def hu.congr{phx phx':cc}{id:Nat}{e:ae}{len:Nat}{v:Value}(h:phx' id=phx id)(ah:hu phx id e off len v):hu phx' id e off len v:=by unfold hu at *;rw[h];exact ah
section
variable {phx phx':cc} {H H':cg} {B B':Nat->aQ}
def uQ.mono(dO:∀id,(B id).iC=true->phx' id=phx id)(cw:H.cb H')(aB:∀id,(B id).cb (B' id)){c:il}{v:Value}(h:uQ phx H B c v):uQ phx' H' B' c v:=by
 cases c with
 |iw t x=>obtain⟨cs,O,R⟩:=h;exact⟨cs,O.mono cw,R⟩
 |ptr id p=>
  have Y:=aB id;have hf:=dO id;simp only[uQ]at h ⊢;cases jA:B id<;>cases hb1:B' id<;>simp only[jA,hb1,aQ.iC]at Y hf h ⊢ <;> try(first|exact h.elim|exact Y.elim|trivial)
  all_goals first
   |(subst Y;rw[hf trivial];exact h)
   |(obtain⟨b,o,n,O,R⟩:=h;exact⟨b,o,n,(hf trivial).trans O,R⟩)
   | (
    obtain⟨b,o,n,off,t',O,R,af⟩:=h;exact⟨b,o,n,(hf trivial).trans O,λhp=>by subst hp;simp only[ae.d?,km,kH]at R;rw[af,<- R.1];rfl⟩)
def jw.mono(dO:∀id,(B id).iC=true->phx' id=phx id)(cw:H.cb H')(aB:∀id,(B id).cb (B' id)):∀{l:List il} {vs:List Value},jw phx H B l vs->jw phx' H' B' l vs
 |[],_,h=>h
 |_::_,_,⟨v,d3,h,O,R⟩=>⟨v,d3,h,uQ.mono dO cw aB O,jw.mono dO cw aB R⟩
def bM.mono(dO:∀id,(B id).iC=true->phx' id=phx id)(cw:H.cb H')(aB:∀id,(B id).cb (B' id)):∀{pv:au} {v:Value},bM phx H B pv v->bM phx' H' B' pv v:=by
 intro pv v h;cases pv with
 |bad=>trivial
 |undef=>exact h
 |kb b=>exact h
 |nq c=>exact h
 |nil=>exact h
 |sc t x=>exact h
 |two a b=>exact h
 |agg t a=>exact h
 |tup a=>exact h
 |clo f dQ cV=>obtain⟨vs,O,R⟩:=h;exact⟨vs,O.mono dO cw aB,R⟩
 |ifc i t x=>obtain⟨cs,O,R⟩:=h;exact⟨cs,O.mono cw,R⟩
 |csl e l=>obtain⟨a,O,R⟩:=h;exact⟨a,O,R.mono cw⟩
 |ipt e l i p=>obtain⟨ao,b,o,cap,off,t',O,R,af⟩:=h;exact⟨ao,b,o,cap,off,t',O.mono cw,R,af⟩
 |own id d'=>
  have Y:=aB id;have hf:=dO id;simp only[bM]at h ⊢;cases jA:B id<;>cases hb1:B' id<;>simp only[jA,hb1,aQ.iC]at Y hf h ⊢ <;> try(first|exact h.elim|exact Y.elim|trivial)
  all_goals
   obtain⟨rfl,hl⟩:=Y;rw[<- hl];exact⟨h.1.congr (hf trivial),h.2⟩
 |osl id off n=>
  have Y:=aB id;have hf:=dO id;simp only[bM]at h ⊢;cases jA:B id<;>cases hb1:B' id<;>simp only[jA,hb1,aQ.cb,aQ.iC]at Y hf h ⊢ <;> try(first|exact h.elim|exact Y.elim|trivial)
  all_goals first
   |(obtain⟨rfl,hl⟩:=Y;rw[<- hl];exact⟨h.1,h.2.1.congr (hf trivial),h.2.2.congr (hf trivial)⟩)
   |(obtain⟨rfl,hl⟩:=Y;rw[<- hl];exact⟨h.1,h.2.1.congr (hf trivial)⟩)
   |(obtain⟨rfl,hl⟩:=Y;rw[<- hl];exact⟨h.1,h.2.congr (hf trivial)⟩)
   | (
    subst Y;rename_i t _ _;cases t<;>try exact h.elim
    exact⟨h.1,h.2.1,h.2.2.congr (hf trivial)⟩)
   |(obtain⟨Y,_⟩:=Y;subst Y;exact⟨h.2.1,h.2.2.congr (hf trivial)⟩)
 |ptr id p=>
  have Y:=aB id;have hf:=dO id;simp only[bM]at h ⊢;cases jA:B id<;>cases hb1:B' id<;>simp only[jA,hb1,aQ.cb,aQ.iC]at Y hf h ⊢ <;> try(first|exact h.elim|exact Y.elim|trivial)
  all_goals first
   |(subst Y;rw[hf trivial];exact h)
   |(obtain⟨b,o,n,O,R⟩:=h;exact⟨b,o,n,(hf trivial).trans O,R⟩)
   | (
    obtain⟨b,o,n,off,t',O,R,af⟩:=h;exact⟨b,o,n,(hf trivial).trans O,λhp=>by subst hp;simp only[ae.d?,km,kH]at R;rw[af,<- R.1];rfl⟩)
 |opt id i p=>
  have Y:=aB id;have hf:=dO id;simp only[bM]at h ⊢;cases jA:B id<;>cases hb1:B' id<;>simp only[jA,hb1,aQ.cb,aQ.iC]at Y hf h ⊢ <;> try(first|exact h.elim|exact Y.elim|trivial)
  all_goals
   grind
 |itp id=>
  have Y:=aB id;have hf:=dO id;simp only[bM]at h ⊢;cases jA:B id<;>cases hb1:B' id<;>simp only[jA,hb1,aQ.cb,aQ.iC]at Y hf h ⊢ <;> try(first|exact h.elim|exact Y.elim|trivial)
  all_goals
   rw[hf trivial];exact h
 |mpp id=>
  have Y:=aB id;have hf:=dO id;simp only[bM]at h ⊢;cases jA:B id<;>cases hb1:B' id<;>simp only[jA,hb1,aQ.cb,aQ.iC]at Y hf h ⊢ <;> try(first|exact h.elim|exact Y.elim|trivial)
  all_goals
   rw[hf trivial];exact h
 |psl id n=>
  have Y:=aB id;have hf:=dO id;simp only[bM]at h ⊢;cases jA:B id<;>cases hb1:B' id<;>simp only[jA,hb1,aQ.cb,aQ.iC]at Y hf h ⊢ <;> try(first|exact h.elim|exact Y.elim|trivial)
  all_goals first
   |(subst Y;rw[hf trivial];exact h)
   |(obtain⟨h,_⟩:=h;cases n<;>exact absurd (Y.1.symm.trans h) (by simp[mq]))
def e3.mono(dO:∀id,(B id).iC=true->phx' id=phx id)(cw:H.cb H')(aB:∀id,(B id).cb (B' id)):∀{pv:au} {t:ae} {cs:List Value},e3 phx H B pv t cs->e3 phx' H' B' pv t cs:=by
 intro pv;induction pv with
 |two u v aL aC=>
  intro t cs h;cases t<;>simp only[e3]at h ⊢ <;> try exact h
  grind
 |sc t' x=>intro t cs h;obtain⟨ao,h⟩:=h;exact⟨ao,h.mono cw⟩
 |agg t a=>intro t cs h;exact h
 |tup a=>intro t cs h;exact h
 |bad=>intro t cs h;exact h
 |_=>intro t cs h;obtain⟨ao,v,O,R,af⟩:=h;exact⟨ao,v,O,R,bM.mono dO cw aB af⟩
def dZ.mono(dO:∀id,(B id).iC=true->phx' id=phx id)(cw:H.cb H')(aB:∀id,(B id).cb (B' id)){pv:au}{v:Value}(h:dZ phx H B pv v):dZ phx' H' B' pv v:=by
 cases pv with
 |sc t x=>obtain⟨cs,O,R⟩:=h;exact⟨cs,O.mono cw,R⟩
 |agg t a=>obtain⟨ao,cs,O,R⟩:=h;exact⟨ao,cs,e3.mono dO cw aB O,R⟩
 |_=>simp only[dZ]at h ⊢;exact bM.mono dO cw aB h
def lD.mono(dO:∀id,(B id).iC=true->phx' id=phx id)(cw:H.cb H')(aB:∀id,(B id).cb (B' id)):∀{pv:au} {vs:List Value},lD phx H B pv vs->lD phx' H' B' pv vs:=by
 intro pv;induction pv with
 |two u r aL ah=>intro vs h;obtain⟨v,d3,ao,O,R⟩:=h;exact⟨v,d3,ao,dZ.mono dO cw aB O,ah R⟩
 |sc t x=>intro vs h;cases t<;>exact h
 |_=>intro vs h;exact h
def a?.mono(dO:∀id,(B id).iC=true->phx' id=phx id)(cw:H.cb H')(aB:∀id,(B id).cb (B' id)){pv:au}{v:Value}(h:a? phx H B pv v):a? phx' H' B' pv v:=by
 cases pv with
 |tup a=>obtain⟨vs,O,R⟩:=h;exact⟨vs,lD.mono dO cw aB O,R⟩
 |_=>simp only[a?]at h ⊢;exact dZ.mono dO cw aB h
end
def e3.length{phx:cc}{H:cg}{B:Nat->aQ}:∀{pv:au} {t:ae} {cs:List Value},e3 phx H B pv t cs->cs.length=t.size:=by
 intro pv;induction pv with
 |two u v aL aC =>intro t cs h;cases t<;>simp only[e3]at h;obtain⟨c1,c2,h,O,R⟩:=h;rw[h,cE,aL O,aC R];rfl
 |sc t' x=>intro t cs h;obtain⟨ao,h⟩:=h;exact h.length
 |agg t a=>intro t cs h;exact h.elim
 |tup a=>intro t cs h;exact h.elim
 |bad=>intro t cs h;exact h.1
 |_ =>intro t cs h;obtain⟨ao,v,O,R,af⟩:=h;subst O;cases t<;>first|rfl|cases ao
def e3.one{phx:cc}{H:cg}{B:Nat->aQ}:∀{pv:au} {t:ae} {cs:List Value},e3 phx H B pv t cs->∀v∈cs,v.oneCell'=true:=by
 intro pv;induction pv with
 |two u v aL aC=>
  intro t cs h;cases t<;>simp only[e3]at h
  grind
 |sc t' x=>intro t cs h;obtain⟨ao,h⟩:=h;exact h.one
 |agg t a=>intro t cs h;exact h.elim
 |tup a=>intro t cs h;exact h.elim
 |bad=>intro t cs h;exact h.2
 |_=>
  intro t cs h;obtain⟨ao,v,O,R,af⟩:=h
  grind
end Yp
namespace Yp
open Go
def ip:=@Array.getElem?_eq_some_iff
def hU:=@Nat.lt_of_lt_of_le
def e0:=@Nat.le_trans
def k2:=@Classical.byContradiction
open Classical in
def view(w:World)(M:Nat->Prop):cg:=λb=>if M b then none else w.heap[b]?
def jr{w:World}{M:Nat->Prop}{o:Obj}:view w M b=some o↔¬M b/\w.heap[b]?=some o:=by unfold view;simp
def yr{w w':World}{M ay:Nat->Prop}(h:∀b o,¬M b->w.heap[b]?=some o->¬ay b/\w'.heap[b]?=some o):(view w M).cb (view w' ay):=by intro b o Y;rw[jr]at Y ⊢;exact h b o Y.1 Y.2
def h4(c:Array Value)(fz:Nat×Nat):Prop:=fz.1=fz.2\/c.size<=fz.1
def h4.no{c:Array Value}{fz:Nat×Nat}(h:h4 c fz):∀i,i<c.size->¬(fz.1<=i/\i<fz.2):=λi hi ai=>by unfold h4 at h;omega
def h4.same{c cK:Array Value}{fz:Nat×Nat}(h:h4 c fz)(ac:cK.size=c.size):h4 cK fz:=by unfold h4 at *;rw[ac];exact h
def e4(H:cg)(e:ae)(l:List e.aD)(c:Array Value)(o:Nat):Prop:=
 o+l.length*e.size<=c.size/\∀(i:Nat) (x:e.aD),hO l i=some x->aH H e x (cF c (o+i*e.size) e.size)
def e4.mono{H H':cg}(hl:H.cb H'){e:ae}{l:List e.aD}{c:Array Value}(h:e4 H e l c o):e4 H' e l c o:=
 ⟨h.1,λi x hi=>(h.2 i x hi).mono hl⟩
section
variable (phx:cc) (M:Nat->Prop) (w:World) (H:cg) (B:Nat->aQ)
def k5(kt:ae):List (kt.aD×au)->List MapEntry->Prop
 |[],es=>es=[]
 |(k,v)::r,es=>∃e es',es=e::es'/\(∃am,aH H kt k am/\e.key=ct kt am)/\dZ phx H B v e.val/\k5 kt r es'
def lC(id:Nat):aQ->Prop
 |.new=>True
 |.e'=>True
 |.box t v=>∃b o c el fz,phx id=some (b,o,c.size)/\w.heap[b]?=some (.cells c el fz)/\o+t.size<=c.size/\e3 phx H B v t (cF c o t.size)/\h4 c fz/\M b
 |.ob e l=>0<e.size/\((phx id=none/\l.length=0)\/∃b o c el fz,phx id=some (b,o,c.size)/\w.heap[b]?=some (.cells c el fz)/\e4 H e l c o/\h4 c fz/\M b)
 |.fz e l=>0<e.size/\((phx id=none/\l.length=0)\/∃b o c el fz,phx id=some (b,o,c.size)/\H b=some (.cells c el fz)/\e4 H e l c o)
 |.it s p=>∃b,phx id=some (b,0,0)/\w.heap[b]?=some (.stringIter ⟨s.toArray⟩ p)/\M b
 |.mp kt _ l=>∃b es m',phx id=some (b,0,0)/\w.heap[b]?=some (.map es m')/\k5 phx H B kt l es.toList/\M b
end
def aQ.fx:aQ->Bool
 |.box _ _=>true|.ob _ _=>true|.it _ _=>true|.mp _ _ _=>true|_=>false
structure Kp where
 k:Nat->Prop
 x:Nat->Prop
structure Mem(K:Kp)(w0:World)(phx:cc)(M:Nat->Prop)(B:Nat->aQ)(w:World):Prop where
 os:w.os=w0.os
 tape:w.tape=w0.tape
 output:w.output=w0.output
 size:w0.heap.size<=w.heap.size
 keep:∀b,K.k b->w.heap[b]?=w0.heap[b]?
 klt:∀b,K.k b->b<w0.heap.size
 hid:∀b,K.k b->(M b↔K.x b)
 own:∀id,(B id).fx=true->∀x,phx id=some x->¬K.k x.1
 mlt:∀b,M b->b<w.heap.size
 blks:∀id,lC phx M w (view w M) B id (B id)
 sep:∀i j,i≠j->(B i).fx=true->(B j).fx=true->∀x y,phx i=some x->phx j=some y->x.1≠y.1
structure cm(phx:cc)(M:Nat->Prop)(B:Nat->aQ)(w:World)(phx':cc)(ay:Nat->Prop)(B':Nat->aQ)(w':World):Prop where
 pl:∀id,(B id).iC=true->phx' id=phx id
 vw:(view w M).cb (view w' ay)
 bl:∀id,(B id).cb (B' id)
def cm.refl(phx:cc)(M:Nat->Prop)(B:Nat->aQ)(w:World):cm phx M B w phx M B w:=
 ⟨λ_ _=>rfl,cg.cb.refl _,λ_=>aQ.cb.refl _⟩
def cm.p{phx phx':cc}{M ay:Nat->Prop}{B B':Nat->aQ}{w w':World}(h:cm phx M B w phx' ay B' w'){pv:au}{v:Value}(hp:a? phx (view w M) B pv v):a? phx' (view w' ay) B' pv v:=
 hp.mono h.pl h.vw h.bl
def cU(B:Nat->aQ)(id:Nat)(b:aQ):Nat->aQ:=λj=>if j=id then b else B j
def eM(B:Nat->aQ)(id:Nat)(b:aQ):cU B id b id=b:=by simp[cU]
def d6(B:Nat->aQ){id:Nat}(b:aQ)(h:j≠id):cU B id b j=B j:=by simp[cU,h]
def k5.mono{phx phx':cc}{H H':cg}{B B':Nat->aQ}(dO:∀id,(B id).iC=true->phx' id=phx id)(cw:H.cb H')(aB:∀id,(B id).cb (B' id)){kt:ae}:∀{l:List (kt.aD×au)} {es:List MapEntry},k5 phx H B kt l es->k5 phx' H' B' kt l es
 |[],_,h=>h
 |_::_,_,⟨e,es',h,⟨am,O,R⟩,af,aq⟩=>⟨e,es',h,⟨am,O.mono cw,R⟩,af.mono dO cw aB,k5.mono dO cw aB aq⟩
def lC.congr{phx phx':cc}{M ay:Nat->Prop}{w w':World}{H H':cg}{B B':Nat->aQ}{id:Nat}{b:aQ}
  (hid:phx' id=phx id) (dO:∀id,(B id).iC=true->phx' id=phx id) (cw:H.cb H') (aB:∀id,(B id).cb (B' id))
  (bb:∀x,phx id=some x->b.fx=true->w'.heap[x.1]?=w.heap[x.1]?) (dS:∀x,phx id=some x->b.fx=true->M x.1->ay x.1)
  (h:lC phx M w H B id b):lC phx' ay w' H' B' id b:=by
 cases b with
 |new=>trivial
 |e'=>trivial
 |box t v =>obtain⟨b,o,c,el,fz,O,R,af,aq,a8,cS⟩:=h;exact⟨b,o,c,el,fz,hid.trans O,(bb _ O rfl).trans R,af,aq.mono dO cw aB,a8,dS _ O rfl cS⟩
 |ob e l=>
  refine⟨h.1,?_⟩;rcases h.2 with⟨O,R⟩|⟨b,o,c,el,fz,O,R,af,aq,a8⟩
  .exact .inl ⟨hid.trans O,R⟩
  exact .inr ⟨b,o,c,el,fz,hid.trans O,(bb _ O rfl).trans R,af.mono cw,aq,dS _ O rfl a8⟩
 |fz e l=>
  refine⟨h.1,?_⟩;rcases h.2 with⟨O,R⟩|⟨b,o,c,el,fz,O,R,af⟩
  .exact .inl ⟨hid.trans O,R⟩
  exact .inr ⟨b,o,c,el,fz,hid.trans O,cw _ _ R,af.mono cw⟩
 |it s p =>obtain⟨b,O,R,af⟩:=h;exact⟨b,hid.trans O,(bb _ O rfl).trans R,dS _ O rfl af⟩
 |mp kt vt l =>obtain⟨b,es,m',O,R,af,aq⟩:=h;exact⟨b,es,m',hid.trans O,(bb _ O rfl).trans R,af.mono dO cw aB,dS _ O rfl aq⟩
section
variable {K:Kp} {w0 w:World} {phx:cc} {M:Nat->Prop} {B:Nat->aQ}
def Mem.e'(h:Mem K w0 phx M B w)(id:Nat):Mem K w0 phx M (cU B id .e') w/\cm phx M B w phx M (cU B id .e') w:=by
 have aA:cm phx M B w phx M (cU B id .e') w:=⟨λ_ _=>rfl,cg.cb.refl _,λj=>by
  by_cases an:j=id
  .subst an;rw[eM];cases B j<;>trivial
  rw[d6 _ _ an];exact aQ.cb.refl _⟩
 refine⟨{ h with own:=λj an => ?_,blks:=λj => ?_,sep:=λi j i2 hi an => ?_ },aA⟩
 .by_cases O:j=id
  .subst O;rw[eM]at an;cases an
  rw[d6 _ _ O]at an;exact h.own j an
 .by_cases an:j=id
  .subst an;rw[eM];trivial
  rw[d6 _ _ an];exact(h.blks j).congr rfl aA.pl aA.vw aA.bl (λ_ _ _=>rfl) (λ_ _ _ h=>h)
 by_cases O:i=id
 .subst O;rw[eM]at hi;cases hi
 by_cases R:j=id
 .subst R;rw[eM]at an;cases an
 rw[d6 _ _ O]at hi;rw[d6 _ _ R]at an;exact h.sep i j i2 hi an
def nL(phx:cc)(M:Nat->Prop)(B:Nat->aQ)(ay:Nat->Prop)(B':Nat->aQ):Prop:=
 (∀b,M b->¬ay b->∃j,(B j).fx=true/\∃z,phx j=some z/\z.1=b)/\∀j,(B' j).fx=true->(B j).fx=true
def nL.refl(phx:cc)(M:Nat->Prop)(B:Nat->aQ):nL phx M B M B:=⟨λb h bL=>absurd h bL,λ_ h=>h⟩
def nL.trans{phx:cc}{M ay qZ:Nat->Prop}{B B' EE:Nat->aQ}(h:nL phx M B ay B')(k:nL phx ay B' qZ EE):nL phx M B qZ EE:=by
 refine⟨λb O R => ?_,λj an=>h.2 j (k.2 j an)⟩;by_cases hm:ay b
 .obtain⟨j,an,z,bj⟩:=k.1 b hm R
  exact⟨j,h.2 j an,z,bj⟩
 exact h.1 b O hm
def Mem.freeze(h:Mem K w0 phx M B w){id:Nat}{e:ae}{l:List e.aD}(Y:B id=.ob e l):
  ∃ay,Mem K w0 phx ay (cU B id (.fz e l)) w/\cm phx M B w phx ay (cU B id (.fz e l)) w/\nL phx M B ay (cU B id (.fz e l)):=by
 refine⟨λb=>M b/\∀x,phx id=some x->b≠x.1,?_⟩;have aC:(view w M).cb (view w λb=>M b/\∀x,phx id=some x->b≠x.1):=yr λb o dS aK=>⟨λai=>dS ai.1,aK⟩;have aA:cm phx M B w phx (λb=>M b/\∀x,phx id=some x->b≠x.1) (cU B id (.fz e l)) w:=⟨λ_ _=>rfl,aC,λj=>by
  by_cases an:j=id
  .subst an;rw[eM,Y];exact⟨rfl,rfl⟩
  rw[d6 _ _ an];exact aQ.cb.refl _⟩
 refine⟨{ h with hid:=λb ap=>⟨λhm=>(h.hid b ap).1 hm.1,λhx=>⟨(h.hid b ap).2 hx,λx mO e=>h.own id (by rw[Y];rfl) x mO (e▸ap)⟩⟩,mlt:=λb hm=>h.mlt b hm.1,own:=λj an => ?_,blks:=λj => ?_,sep:=λi j i2 hi an => ?_ },aA,⟨λb Y aj => ?_,λj an => ?_⟩⟩
 .by_cases O:j=id
  .subst O;rw[eM]at an;cases an
  rw[d6 _ _ O]at an;exact h.own j an
 .by_cases an:j=id
  .subst an;rw[eM]
   have ah:=h.blks j;rw[Y]at ah;refine⟨ah.1,?_⟩;rcases ah.2 with⟨O,R⟩|⟨b,o,c,el,fz,O,R,af,aq,a8⟩
   .exact .inl ⟨O,R⟩
   exact .inr ⟨b,o,c,el,fz,O,jr.2 ⟨λai=>ai.2 _ O rfl,R⟩,af.mono aC⟩
  rw[d6 _ _ an];refine(h.blks j).congr rfl aA.pl aA.vw aA.bl (λ_ _ _=>rfl) λx hx hm dS=>⟨dS,λy hy => ?_⟩;exact h.sep j id an hm (by rw[Y];rfl) x y hx hy
 .by_cases O:i=id
  .subst O;rw[eM]at hi;cases hi
  by_cases R:j=id
  .subst R;rw[eM]at an;cases an
  rw[d6 _ _ O]at hi;rw[d6 _ _ R]at an;exact h.sep i j i2 hi an
 .refine k2 λai=>aj ⟨Y,λx hx e=>ai ⟨id,by rw[‹B id=_›];rfl,x,hx,e.symm⟩⟩
 by_cases O:j=id
 .subst O;rw[eM]at an;cases an
 rw[d6 _ _ O]at an;exact an
def wd(phx:cc)(id:Nat)(x:Option (Nat×Nat×Nat)):cc:=λj=>if j=id then x else phx j
def lU(phx:cc)(id:Nat)(x:Option (Nat×Nat×Nat)):wd phx id x id=x:=by simp[wd]
def qT(phx:cc){id:Nat}(x:Option (Nat×Nat×Nat))(h:j≠id):wd phx id x j=phx j:=by simp[wd,h]
def Mem.CD(h:Mem K w0 phx M B w){w':World}(O:w'.os=w.os)(R:w'.tape=w.tape)(af:w'.output=w.output)(ac:w.heap.size<=w'.heap.size)
 (Y:∀b,b<w.heap.size->w'.heap[b]?=w.heap[b]?) (N:Nat->Prop) (fO:∀b,N b->w.heap.size<=b/\b<w'.heap.size) :
 Mem K w0 phx (λb=>M b\/N b) B w'/\cm phx M B w phx (λb=>M b\/N b) B w':=by
 have bm:∀b o,w.heap[b]?=some o->b<w.heap.size:=λb o aK=>(ip.1 aK).1;have aC:(view w M).cb (view w' λb=>M b\/N b):=yr λb o dS aK=>
  ⟨λai=>ai.elim dS λaj=>by have:=fO b aj;have:=bm b o aK;omega,(Y b (bm b o aK)).trans aK⟩
 have aA:cm phx M B w phx (λb=>M b\/N b) B w':=⟨λ_ _=>rfl,aC,λ_=>aQ.cb.refl _⟩;refine⟨{ os:=O.trans h.os,tape:=R.trans h.tape,output:=af.trans h.output,size:=e0 h.size ac,keep:=λb ap => ?_,klt:=h.klt,hid:=λb ap=>⟨λhm => ?_,λhx=>.inl ((h.hid b ap).2 hx)⟩,own:=h.own,mlt:=λb hm => ?_,blks:=λj => ?_,sep:=h.sep },aA⟩
 .exact(Y b (hU (h.klt b ap) h.size)).trans (h.keep b ap)
 .rcases hm with hm|hm
  .exact(h.hid b ap).1 hm
  have:=fO b hm;have:=h.klt b ap;have:=h.size;omega
 .rcases hm with hm|hm
  .exact hU (h.mlt b hm) ac
  exact(fO b hm).2
 refine(h.blks j).congr rfl aA.pl aA.vw aA.bl (λx hx hm=>Y _ ?_) (λx _ _ hm=>.inl hm);have ah:=h.blks j;generalize B j=bl at ah hm;cases bl with
 |new=>cases hm
 |e'=>cases hm
 |fz e l=>cases hm
 |box t v=>obtain⟨b,o,c,el,fz,O,R,_⟩:=ah;rw[O]at hx;cases hx;exact bm _ _ R
 |ob e l=>
  rcases ah.2 with⟨O,_⟩|⟨b,o,c,el,fz,O,R,_⟩
  .rw[O]at hx;cases hx
  rw[O]at hx;cases hx;exact bm _ _ R
 |it s p=>obtain⟨b,O,R,_⟩:=ah;rw[O]at hx;cases hx;exact bm _ _ R
 |mp kt vt l=>obtain⟨b,es,m',O,R,_⟩:=ah;rw[O]at hx;cases hx;exact bm _ _ R
def Mem.uW(h:Mem K w0 phx M B w){id:Nat}(hid:B id=.new)(j5:aQ)(x:Option (Nat×Nat×Nat))
  (vu:j5.fx=true->∀y,x=some y->¬K.k y.1) (abK:j5.fx=true->∀y,x=some y->∀j,(B j).fx=true->∀z,phx j=some z->z.1≠y.1)
  (ah:cm phx M B w (wd phx id x) M (cU B id j5) w->lC (wd phx id x) M w (view w M) (cU B id j5) id j5) :
  Mem K w0 (wd phx id x) M (cU B id j5) w/\cm phx M B w (wd phx id x) M (cU B id j5) w:=by
 have aA:cm phx M B w (wd phx id x) M (cU B id j5) w:=⟨λj an=>qT _ _ (λe=>by subst e;rw[hid]at an;cases an),cg.cb.refl _,λj=>by
  by_cases an:j=id
  .subst an;rw[eM,hid];trivial
  rw[d6 _ _ an];exact aQ.cb.refl _⟩
 refine⟨{ h with own:=λj an y hy => ?_,blks:=λj => ?_,sep:=λi j i2 hi an y z hy bj => ?_ },aA⟩
 .by_cases O:j=id
  .subst O;rw[eM]at an;rw[lU]at hy;exact vu an y hy
  rw[d6 _ _ O]at an;rw[qT _ _ O]at hy;exact h.own j an y hy
 .by_cases an:j=id
  .subst an;rw[eM];exact ah aA
  rw[d6 _ _ an];exact(h.blks j).congr (qT _ _ an) aA.pl aA.vw aA.bl (λ_ _ _=>rfl) (λ_ _ _ h=>h)
 by_cases O:i=id
 .subst O
  have R:j≠i:=λe=>i2 e.symm;rw[eM]at hi;rw[d6 _ _ R]at an;rw[lU]at hy;rw[qT _ _ R]at bj;exact(abK hi y hy j an z bj).symm
 by_cases R:j=id
 .subst R
  rw[eM]at an;rw[d6 _ _ O]at hi;rw[lU]at bj;rw[qT _ _ O]at hy;exact abK an z bj i hi y hy
 rw[d6 _ _ O]at hi;rw[d6 _ _ R]at an;rw[qT _ _ O]at hy;rw[qT _ _ R]at bj;exact h.sep i j i2 hi an y z hy bj
def Mem.put(h:Mem K w0 phx M B w){id:Nat}{x:Nat×Nat×Nat}(hm:(B id).fx=true)(hx:phx id=some x)(RN:M x.1){w':World}
 (O:w'.os=w.os) (R:w'.tape=w.tape) (af:w'.output=w.output) (ac:w'.heap.size=w.heap.size)
 (Y:∀b,b≠x.1->w'.heap[b]?=w.heap[b]?) (j5:aQ) (bY:(B id).cb j5)
 (ah:cm phx M B w phx M (cU B id j5) w'->lC phx M w' (view w' M) (cU B id j5) id j5) :
 Mem K w0 phx M (cU B id j5) w'/\cm phx M B w phx M (cU B id j5) w':=by
 have aC:(view w M).cb (view w' M):=yr λb o dS aK=>⟨dS,(Y b λe=>dS (e▸RN)).trans aK⟩;have aA:cm phx M B w phx M (cU B id j5) w':=⟨λ_ _=>rfl,aC,λj=>by
  by_cases an:j=id
  .subst an;rw[eM];exact bY
  rw[d6 _ _ an];exact aQ.cb.refl _⟩
 refine⟨{ os:=O.trans h.os,tape:=R.trans h.tape,output:=af.trans h.output,size:=ac▸h.size,keep:=λb ap => ?_,klt:=h.klt,hid:=h.hid,own:=λj an => ?_,mlt:=λb hm=>ac▸h.mlt b hm,blks:=λj => ?_,sep:=λi j i2 hi an => ?_ },aA⟩
 .exact(Y b λe=>h.own id hm x hx (e▸ap)).trans (h.keep b ap)
 .by_cases O:j=id
  .subst O;exact h.own j hm
  rw[d6 _ _ O]at an;exact h.own j an
 .by_cases an:j=id
  .subst an;rw[eM];exact ah aA
  rw[d6 _ _ an];exact(h.blks j).congr rfl aA.pl aA.vw aA.bl (λy hy qv=>Y _ (h.sep j id an qv hm y x hy hx)) (λ_ _ _ h=>h)
 have key:∀k,((cU B id j5) k).fx=true->(B k).fx=true:=λk ap=>by
  by_cases qt:k=id
  .subst qt;exact hm
  rw[d6 _ _ qt]at ap;exact ap
 exact h.sep i j i2 (key i hi) (key j an)
def cm.trans{hk jG:cc}{ft c7:Nat->Prop}{cR b4:Nat->aQ}{cf cN:World}(h:cm phx M B w hk ft cR cf)(g:cm hk ft cR cf jG c7 b4 cN):cm phx M B w jG c7 b4 cN:=by
 refine⟨λid hl => ?_,h.vw.trans g.vw,λid => ?_⟩
 .have O:=h.pl id hl;have Y:=h.bl id
  rw[<- O];refine g.pl id ?_;generalize B id=b at *;generalize cR id=eT at *
  cases b<;>cases eT<;>simp only[aQ.cb]at Y<;>first|rfl|cases hl
 have Y:=h.bl id;have xb:=g.bl id;generalize B id=b at *;generalize cR id=eT at *;generalize b4 id=ei at *
 cases b<;>cases eT<;>cases ei<;>simp only[aQ.cb]at Y xb ⊢ <;> first|exact Y.elim|exact xb.elim|trivial|exact Y.trans xb|exact⟨Y.1.trans xb.1,Y.2.trans xb.2⟩|exact⟨Y.trans xb.1,xb.2⟩|(obtain⟨O,R⟩:=Y;obtain⟨rfl,aq⟩:=xb;exact⟨by rw[O,aq],R⟩)
end
end Yp
namespace Yp
open Go
def nI:=@Ne.symm
def BM:=@Nat.beq_refl
def aw.aX{α:Type}(g:Nat->au):aw α->(Nat->aQ)->Option (α×(Nat->aQ))
 |.fail,_=>none
 |.ret a,B=>some (a,B)
 |.chk c k,B=>if c=true then k.aX g B else none
 |.br c x y,B=>if c=true then x.aX g B else y.aX g B
 |.bo _ o k,B=>(match o with|some a=>(k a).aX g B|none=>none)
 |.rt i k,B=>(k (g i)).aX g B
 |.rb i k,B=>(k (B i)).aX g B
 |.eI i b k,B=>k.aX g (cU B i b)
def aw.Rq(g:Nat->au)(m:aw α)(f:α->aw β)(B:Nat->aQ):
  (m.bind f).aX g B=(match m.aX g B with|some (a,B')=>(f a).aX g B'|none=>none):=by
 induction m generalizing B with
 |fail=>rfl
 |ret a=>rfl
 |chk c k ih=>simp only[aw.bind,aw.aX];split<;>simp[ih]
 |br c x y hx hy=>simp only[aw.bind,aw.aX];split<;>simp[hx,hy]
 |bo d o k ih=>cases o<;>simp only[aw.bind,aw.aX,ih]
 |rt i k ih=>simp only[aw.bind,aw.aX,ih]
 |rb i k ih=>simp only[aw.bind,aw.aX,ih]
 |eI i b k ih=>simp only[aw.bind,aw.aX,ih]
def aw.cy{g:Nat->au}{m:aw α}{f:α->aw β}{B:Nat->aQ}{r:β×(Nat->aQ)}(h:(m.bind f).aX g B=some r):
  ∃a B',m.aX g B=some (a,B')/\(f a).aX g B'=some r:=by
 rw[aw.Rq]at h;split at h
 .rename_i a B' hm;exact⟨a,B',hm,h⟩
 cases h
def dx(B:Nat->aQ)(wr:List (Nat×aQ)):Nat->aQ:=λid=>nr wr id (B id)
def xO(B:Nat->aQ)(i:Nat)(b:aQ)(wr:List (Nat×aQ)):dx B ((i,b)::wr)=cU (dx B wr) i b:=by
 funext j;simp only[dx,nr,cU];by_cases h:i=j
 .subst h;rw[BM];simp
 have:Nat.beq i j=false:=by cases Y:Nat.beq i j with
  |false=>rfl
  |true=>exact absurd (fB Y) h
 rw[this];simp[nI h]
def aw.ae8(s:aM)(m:aw α):∀(fh:Nat) (fa:List Nat) (wr:List (Nat×aQ)) (k:α×Ov->aP β) (r:β),((m.run s fh fa wr).bind k).bI=some r ->
  ∃a e,m.aX s.bX (dx s.aR wr)=some (a,dx s.aR e.wr)/\(k (a,e)).bI=some r:=by
 induction m with
 |fail=>intro fh fa wr k r h;cases h
 |ret a=>intro fh fa wr k r h;exact⟨a,_,rfl,h⟩
 |chk c m ih=>
  intro fh fa wr k r h;simp only[aw.run,aP.bind,aP.bI,am,aw.aX]at h ⊢;cases c with
  |true=>simpa using ih fh fa wr k r h
  |false=>cases h
 |br c x y hx hy=>
  intro fh fa wr k r h;simp only[aw.run,aP.bind,aP.bI,T,aw.aX]at h ⊢;cases c with
  |true=>simpa using hx fh fa wr k r h
  |false=>simpa using hy fh fa wr k r h
 |bo d o m ih=>
  intro fh fa wr k r h;cases o with
  |some a=>exact ih a fh fa wr k r h
  |none=>cases h
 |rt i m ih=>intro fh fa wr k r h;exact ih (s.bX i) _ fa wr k r h
 |rb i m ih=>intro fh fa wr k r h;exact ih _ fh (i::fa) wr k r h
 |eI i b m ih =>intro fh fa wr k r h;obtain⟨a,e,O,R⟩:=ih fh fa ((i,b)::wr) k r h;refine⟨a,e,?_,R⟩;simp only[aw.aX];rw[<- xO];exact O
def dw(phx:cc)(H:cg)(B:Nat->aQ)(g:Nat->au)(a:Act):Prop:=∀t,a? phx H B (g t) (a.tmps.getD t undef)
def dw.ext{phx phx':cc}{M ay:Nat->Prop}{B B':Nat->aQ}{w w':World}{g:Nat->au}{a:Act}(h:dw phx (view w M) B g a)(aA:cm phx M B w phx' ay B' w'):dw phx' (view w' ay) B' g a:=
 λt=>aA.p (h t)
def dE{g:Nat->au}{o:Option α}{B B':Nat->aQ}{a:α}(h:(aw.opt o).aX g B=some (a,B')):o=some a/\B'=B:=by
 cases o with
 |none=>cases h
 |some b=>simp only[aw.opt,aw.aX,km,kH]at h;exact⟨by rw[h.1],h.2.symm⟩
def kD{g:Nat->au}{b:Bool}{B B':Nat->aQ}{a:Unit}(h:(aw.need b).aX g B=some (a,B')):b=true/\B'=B:=by
 cases b with
 |false=>cases h
 |true=>simp only[aw.need,cond,aw.aX,km,kH]at h;exact⟨rfl,h.2.symm⟩
def alZ{g:Nat->au}{c:Value}{B B':Nat->aQ}{v:au}(h:(Qs c).aX g B=some (v,B'))(phx:cc)(H:cg):B'=B/\a? phx H B v c:=by
 unfold Qs at h;split at h
 .cases h;exact⟨rfl,rfl⟩
 .rename_i k n
  cases hl:Hr k n with
  |false=>rw[hl]at h;cases h
  |true =>rw[hl]at h;cases h;exact⟨rfl,[.int k n],aH.ia.2 (by rw[bH.ag5 k n hl]),rfl⟩
 .rename_i s
  cases h;exact⟨rfl,[.string s],aH.ml.2 rfl,rfl⟩
 .cases h;exact⟨rfl,rfl⟩
 .cases h;exact⟨rfl,_,aH.vU.2 rfl,rfl⟩
 .cases h;exact⟨rfl,_,aH.vU.2 rfl,rfl⟩
 .cases h;exact⟨rfl,_,aH.vU.2 rfl,rfl⟩
 .cases h;exact⟨rfl,_,aH.vU.2 rfl,rfl⟩
 cases h
def xN{g:Nat->au}{x:Operand}{B B':Nat->aQ}{v:au}(h:(ea x).aX g B=some (v,B')){phx:cc}{H:cg}{a:Act}(ac:dw phx H B g a):B'=B/\a? phx H B v (a.eval x):=by
 cases x with
 |tmp t=>cases h;exact⟨rfl,ac t⟩
 |const c=>exact alZ h phx H
 |global i=>cases h
 |func f=>cases h;exact⟨rfl,[],rfl,rfl⟩
def a?.int{phx:cc}{H:cg}{B:Nat->aQ}{k:IntKind}{x:bH k}{v:Value}(h:a? phx H B (.sc (.int k) x) v):v=.int k (bH.to k x):=by obtain⟨cs,h,rfl⟩:=h;rw[aH.ia.1 h];rfl
def a?.sH(phx:cc)(H:cg)(B:Nat->aQ)(k:IntKind)(x:bH k):a? phx H B (.sc (.int k) x) (.int k (bH.to k x)):=
 ⟨[.int k (bH.to k x)],aH.ia.2 rfl,rfl⟩
def a?.bool{phx:cc}{H:cg}{B:Nat->aQ}{x:Bool}{v:Value}(h:a? phx H B (.sc .bool x) v):v=.bool x:=by obtain⟨cs,h,rfl⟩:=h;rw[aH.nP.1 h];rfl
def a?.ub(phx:cc)(H:cg)(B:Nat->aQ)(x:Bool):a? phx H B (.sc .bool x) (.bool x):=⟨[.bool x],aH.nP.2 rfl,rfl⟩
def a?.str{phx:cc}{H:cg}{B:Nat->aQ}{x:List UInt8}{v:Value}(h:a? phx H B (.sc .str x) v):v=.string ⟨x.toArray⟩:=by obtain⟨cs,h,rfl⟩:=h;rw[aH.ml.1 h];rfl
def a?.Tk(phx:cc)(H:cg)(B:Nat->aQ)(x:List UInt8):a? phx H B (.sc .str x) (.string ⟨x.toArray⟩):=⟨[.string ⟨x.toArray⟩],aH.ml.2 rfl,rfl⟩
end Yp
namespace Yp
open Go
variable {P:Program}
def ayB{o:Oper}{a:Act}{w w':World}{v:Value}{K:Act->World->Prop}{Q:Exit->Act->World->Prop}
  (h:(execOp a.eval o).run P w=.ok (.value v) w') (ap:K (a.put o.dst v) w'):o.wp P a w K Q:=by
 unfold Oper.wp;rw[h];exact ap
def V5{o:Oper}{a:Act}{w w':World}{K:Act->World->Prop}{Q:Exit->Act->World->Prop}
  (h:(execOp a.eval o).run P w=.ok .skip w') (ap:K (a.put o.dst undef) w'):o.wp P a w K Q:=by
 unfold Oper.wp;rw[h];exact ap
def amQ(op:BinOp)(t:TypeId)(x y:Operand)(k k':IntKind)(n m:Int)(w:World):(eqGuard op t x y (.int k n) (.int k' m)).run P w=.ok () w:=by cases op<;>rfl
def amR(op:BinOp)(t:TypeId)(x y:Operand)(n m:ByteArray)(w:World):(eqGuard op t x y (.string n) (.string m)).run P w=.ok () w:=by cases op<;>rfl
def ahA(k:IntKind)(n:Int)(O:k.min<=n)(R:n<=k.max):k.wrap n=n:=by cases k<;>simp[IntKind.min,IntKind.max,IntKind.signed,IntKind.bits,IntKind.wrap]at * <;> omega
def bH.I1(k:IntKind)(x:bH k)(h:Et k=true):0<=bH.to k x:=by cases k<;>first|cases h;done|exact Int.natCast_nonneg _
def bH.S?(k:IntKind)(n:Int)(h:Et k=true->0<=n/\n<=k.max):bH.to k (bH.lit k n)=n:=by
 apply bH.ag5;cases k<;>first
  |rfl
  | (have:=h rfl;cases n with
    |ofNat m=>simp[Hr,IntKind.max,IntKind.signed,IntKind.bits]at *;omega
    |negSucc m=>omega)
def bH.ag6(k:IntKind)(x:bH k)(h:Et k=true):bH.to k x<=k.max:=by
 cases k with
 |u8=>have:=UInt8.toNat_lt x;simp only[bH.to,aI,IntKind.max,IntKind.signed,IntKind.bits];simp;omega
 |u16=>have:=UInt16.toNat_lt x;simp only[bH.to,HB,IntKind.max,IntKind.signed,IntKind.bits];simp;omega
 |u32=>have:=UInt32.toNat_lt x;simp only[bH.to,aS,IntKind.max,IntKind.signed,IntKind.bits];simp;omega
 |u64=>have:=UInt64.toNat_lt x;simp only[bH.to,cB,IntKind.max,IntKind.signed,IntKind.bits];simp;omega
 |_=>cases h
def ajl{rp:Bool}{op:BinOp}{k:IntKind}{x y:bH k}{g:Nat->au}{B B':Nat->aQ}{v:au}(h:(Pr rp op k x y).aX g B=some (v,B'))
  (Lz:rp=true->bH.to k y≠0) (t:TypeId) (w:World) (phx:cc) (H:cg) :
  B'=B/\∃cX,(binOp op t (.int k (bH.to k x)) (.int k (bH.to k y))).run P w=.ok cX w/\a? phx H B v cX:=by
 have rf:=λn=>by
  have:=a?.sH phx H B k (bH.of k n)
  rwa [bH.NS]at this
 have Y:=a?.ub phx H B;cases op<;>simp only[Pr]at h
 all_goals try(cases h;done)
 case add=>cases h;exact⟨rfl,_,by simp[binOp,Op.intArith,av,bi,e?],rf _⟩
 case sub=>cases h;exact⟨rfl,_,by simp[binOp,Op.intArith,av,bi,e?],rf _⟩
 case mul=>cases h;exact⟨rfl,_,by simp[binOp,Op.intArith,av,bi,e?],rf _⟩
 case and=>cases h;exact⟨rfl,_,by simp[binOp,Op.intBits,iI,gM,fA,HF],rf _⟩
 case or=>cases h;exact⟨rfl,_,by simp[binOp,Op.intBits,iI,gM,fA,HF],rf _⟩
 case xor=>cases h;exact⟨rfl,_,by simp[binOp,Op.intBits,iI,gM,fA,HF],rf _⟩
 case andNot=>cases h;exact⟨rfl,_,by simp[binOp,Op.intBits,iI,gM,fA,HF],rf _⟩
 case eql=>cases h;exact⟨rfl,_,by simp[binOp,Op.intCmp,ag,a_,aJ,bE,bne],Y _⟩
 case neq=>cases h;exact⟨rfl,_,by simp[binOp,Op.intCmp,ag,a_,aJ,bE,bne],Y _⟩
 case lss=>cases h;exact⟨rfl,_,by simp[binOp,Op.intCmp,ag,a_,aJ,bE,bne],Y _⟩
 case leq=>cases h;exact⟨rfl,_,by simp[binOp,Op.intCmp,ag,a_,aJ,bE,bne],Y _⟩
 case gtr=>cases h;exact⟨rfl,_,by simp[binOp,Op.intCmp,ag,a_,aJ,bE,bne],Y _⟩
 case geq=>cases h;exact⟨rfl,_,by simp[binOp,Op.intCmp,ag,a_,aJ,bE,bne],Y _⟩
 case quo=>
  have key:bH.to k y≠0/\B'=B/\v=.sc (.int k) (bH.of k (fg (bH.to k x) (bH.to k y))):=by
   cases rp with
   |true=>cases h;exact⟨Lz rfl,rfl,rfl⟩
   |false=>
    simp only[y?,cond,aw.aX]at h;split at h
    .rename_i ai;cases h;exact⟨by simpa[a_,ag]using ai,rfl,rfl⟩
    cases h
  obtain⟨ao,aB,rfl⟩:=key;exact⟨aB,_,by simp[binOp,Op.intDiv,ao,fg],rf _⟩
 case rem=>
  have key:bH.to k y≠0/\B'=B/\v=.sc (.int k) (bH.lit k (dh (bH.to k x) (bH.to k y))):=by
   cases rp with
   |true=>cases h;exact⟨Lz rfl,rfl,rfl⟩
   |false=>
    simp only[y?,cond,aw.aX]at h;split at h
    .rename_i ai;cases h;exact⟨by simpa[a_,ag]using ai,rfl,rfl⟩
    cases h
  obtain⟨ao,aB,rfl⟩:=key;refine⟨aB,_,by simp[binOp,Op.intDiv,ao];rfl,?_⟩;have hm:=a?.sH phx H B k (bH.lit k (dh (bH.to k x) (bH.to k y)));rw[bH.S?]at hm
  .exact hm
  intro aL;have O:=bH.I1 k x aL;have R:=bH.I1 k y aL;have af:=bH.ag6 k y aL;unfold dh;have aq:=Int.tmod_nonneg (bH.to k y) O;have a8:(bH.to k x).tmod (bH.to k y)<bH.to k y:=Int.tmod_lt_of_pos _ J;omega
def ajn{op:BinOp}{x y:List UInt8}{g:Nat->au}{B B':Nat->aQ}{v:au}(h:(Ps op x y).aX g B=some (v,B'))(t:TypeId)(w:World)(phx:cc)(H:cg):
  B'=B/\∃cX,(binOp op t (.string ⟨x.toArray⟩) (.string ⟨y.toArray⟩)).run P w=.ok cX w/\a? phx H B v cX:=by
 have Y:=a?.ub phx H B;have hl:∀z:List UInt8,ByteArray.toList ⟨z.toArray⟩=z:=λz=>by rw[ByteArray.toList_eq]
 cases op<;>simp only[Ps]at h
 all_goals try(cases h;done)
 case add=>
  simp only[aw.aX]at h;split at h
  .rename_i ai
   cases h;refine⟨rfl,_,?_,a?.Tk phx H B (bv x y)⟩;have ac:¬((x.length+y.length:Nat):Int) > IntKind.i64.max:=by have nf:((x.length:Int)+(y.length:Int))<=140737488355328:=of_decide_eq_true ai;simp;omega
   have O:(⟨x.toArray⟩:ByteArray).size=x.length:=rfl;have R:(⟨y.toArray⟩:ByteArray).size=y.length:=rfl;simp only[binOp,Op.stringOp,O,R,if_neg ac];rfl
  cases h
 case eql=>cases h;exact⟨rfl,_,by simp[binOp,Op.stringOp,hl,seq],Y _⟩
 case neq=>cases h;exact⟨rfl,_,by simp[binOp,Op.stringOp,hl,seq,a_],Y _⟩
 case lss=>cases h;exact⟨rfl,_,by simp[binOp,Op.stringOp,hl,seq,wO],Y _⟩
 case leq=>cases h;exact⟨rfl,_,by simp[binOp,Op.stringOp,hl,seq,wO,l2],Y _⟩
 case gtr=>cases h;exact⟨rfl,_,by simp[binOp,Op.stringOp,hl,seq,wO,l2,a_],Y _⟩
 case geq=>cases h;exact⟨rfl,_,by simp[binOp,Op.stringOp,hl,seq,wO,l2,a_],Y _⟩
end Yp
namespace Yp
open Go
def u0{a b:ae}{x:a.aD}{y:b.aD}(h:ae.cast a b x=some y):∃e:a=b,e▸x=y:=by
 unfold ae.cast at h
 grind
def jf{a b:ae}{x:List a.aD}{y:List b.aD}(h:ae.kK a b x=some y):∃e:a=b,e▸x=y:=by
 unfold ae.kK at h
 grind
def eD{a b:ae}(h:ae.is a b=true):a=b:=by
 unfold ae.is at h;cases ac:ae.same a b with
 |none=>rw[ac]at h;cases h
 |some e=>exact e.down
section
variable {phx:cc} {H:cg} {B:Nat->aQ}
def acb{f:Nat}:∀{l:List Nat} {n m:Nat},G6 f l n=some m->∃j,m=j+n/\l[j]?=some f
 |a::l,n,m,h=>by
  simp only[G6]at h;cases Y:Nat.beq a f with
  |true=>rw[Y]at h;cases h;exact⟨0,J,by rw[fB Y];rfl⟩
  |false =>rw[Y]at h;obtain⟨j,O,R⟩:=acb h;exact⟨j+1,J,by simpa using R⟩
def Yz{dQ:Nat}{cV:List il}{t:ae}{x:t.aD}{v:Value}(h:Qo f cV t=some x)(ah:bM phx H B (.clo f dQ cV) v):aH H t x [v]/\t.isAgg=false:=by
 cases t<;>try(cases h;done)
 rename_i l;cases cV with
 |cons c r=>cases h
 |nil =>obtain⟨vs,O,rfl⟩:=ah;have O:vs=[]:=O;subst O;obtain⟨j,R,af⟩:=acb (show G6 f l 1=some x from h);refine⟨aH.F2.2 ?_,rfl⟩;have R:x=j+1:=R;subst R;simp only[List.take_nil,List.drop_nil,sf,af]
def rI:∀{pv:au} {t:ae} {x:t.aD} {cs:List Value},s4 pv t=some x->e3 phx H B pv t cs->aH H t x cs:=by
 intro pv;induction pv with
 |sc t' y =>intro t x cs h ah;obtain⟨e,rfl⟩:=u0 h;obtain⟨bC,ah⟩:=ah;exact ah
 |kb b=>
  intro t x cs h ah;cases t<;>try(cases h;done)
  obtain⟨_,v,rfl,_,af⟩:=ah;cases h;simp only[bM]at af;rw[af];exact aH.nP.2 rfl
 |nil=>
  intro t x cs h ah;cases t<;>try(cases h;done)
  obtain⟨_,v,rfl,_,af⟩:=ah;cases h;simp only[bM]at af;rw[af];exact aH.ic.2 ⟨none,0,rfl,bU _,by unfold maxLen;omega,.inl rfl⟩
 |csl e l=>
  intro t x cs h ah;cases t<;>try(cases h;done)
  obtain⟨_,v,rfl,_,af⟩:=ah;obtain⟨bC,rfl⟩:=jf h;subst bC;obtain⟨a,_,aq⟩:=af;exact aq
 |two u v aL aC=>
  intro t x cs h ah;cases t<;>try(cases h;done)
  rename_i a b;obtain⟨c1,c2,rfl,O,R⟩:=ah;have bL:ahc (s4 u a) (s4 v b)=some x:=h;cases hy:s4 u a with
  |none=>rw[hy]at bL;cases bL
  |some y=>
   cases bj:s4 v b with
   |none=>rw[hy,bj]at bL;cases bL
   |some z =>rw[hy,bj]at bL;cases bL;exact aH.mh.2 ⟨c1,c2,rfl,aL hy O,aC bj R⟩
 |agg t' u _=>intro t x cs h ah;exact ah.elim
 |clo f dQ cV =>intro t x cs h ah;obtain⟨_,v,rfl,_,af⟩:=ah;exact(Yz h af).1
 |_=>intro t x cs h;cases h
def e3.arS{u v:au}{t:ae}{cs:List Value}(h:e3 phx H B (.two u v) t cs):t.isAgg=true:=by cases t<;>first|rfl|exact h.elim
def nA{pv:au}{t:ae}{x:t.aD}{v:Value}(h:ie t pv=some x)(ah:a? phx H B pv v):a? phx H B (.sc t x) v:=by
 unfold ie at h;cases pv<;>try(cases h;done)
 case kb b=>
  cases t<;>try(cases h;done)
  cases h;simp only[a?,dZ,bM]at ah;rw[ah];exact a?.ub _ _ _ _
 case sc t' y =>obtain⟨e,rfl⟩:=u0 h;subst e;exact ah
 case nil=>
  cases t<;>try(cases h;done)
  cases h;simp only[a?,dZ,bM]at ah;rw[ah];exact⟨[_],aH.ic.2 ⟨none,0,rfl,bU _,by unfold maxLen;omega,.inl rfl⟩,rfl⟩
 case csl e l=>
  cases t<;>try(cases h;done)
  obtain⟨bC,rfl⟩:=jf h;subst bC;obtain⟨a,af,aq⟩:=ah;exact⟨[v],aq,rfl⟩
 case two u w=>exact ah.elim
 case clo f dQ cV =>obtain⟨O,R⟩:=Yz h ah;exact⟨[v],O,by simp[ct,R]⟩
 case agg t' u=>
  have bL:(bif ae.is t' t then s4 u t else none)=some x:=h;cases hi:ae.is t' t with
  |false=>rw[hi]at bL;cases bL
  |true =>rw[hi]at bL;have h:s4 u t=some x:=bL;have e:=eD hi;subst e;obtain⟨bu,cs,O,R⟩:=ah;exact⟨cs,rI h O,by rw[R,ct,if_pos bu]⟩
end
end Yp
namespace Yp
open Go
def iq:=@Nat.mul_le_mul_right
def mt:=@List.getElem?_eq_some_iff
def ju:=@Nat.add_assoc
def wA:=@List.getElem?_eq_none
def EK:=@List.getElem?_take
def yY:=@Nat.lt_or_ge
def full(w:World):cg:=λb=>w.heap[b]?
def rN(w:World)(M:Nat->Prop):(view w M).cb (full w):=λ_ _ h=>(jr.1 h).2
def k_{l:List α}(h:off+n<=l.length):(cut l off n).length=n:=by simp[cut];omega
def FF{l:List α}(h:i<n):hO (cut l off n) i=hO l (off+i):=by simp[hO,cut,EK,h]
def Cc(l:List α):cut l 0 l.length=l:=by simp[cut]
def TU{phx:cc}{H:cg}{id:Nat}{e:ae}{l:List e.aD}{v:Value}(ah:hu phx id e off n v)(bY:off+n<=l.length)
  (Y:(phx id=none/\l.length=0)\/∃b o c el fz,phx id=some (b,o,c.size)/\H b=some (.cells c el fz)/\e4 H e l c o):aH H (.sl e) (cut l off n) [v]:=by
 refine aH.ic.2 ?_;rw[k_ bY];rcases ah with⟨O,a,R⟩|⟨b,o,m,cap,O,R,af,aq,a8⟩
 .subst O R
  exact⟨a,0,rfl,bU _,by unfold maxLen;omega,.inl (by simp[cut])⟩
 refine⟨_,cap,by rw[R],af,aq,?_⟩;rcases Y with⟨g1,bw⟩|⟨b',di,c,el,fz,g1,bw,cW⟩
 .rw[O]at g1;cases g1
 rw[O]at g1;cases g1;refine .inr ⟨b,o+off*e.size,c,el,fz,rfl,bw,?_,λi x hi => ?_⟩
 .have:(off+n)*e.size<=(off+cap)*e.size:=iq _ J
  rw[fJ]at this;have cS:=a8;omega
 have fC:i<n:=by
  rcases yY i n with h|h
  .exact h
  have:(cut l off n).length<=i:=by rw[k_ bY];exact h
  simp only[hO,wA this]at hi;cases hi
 rw[FF fC]at hi;have:=cW.2 (off+i) x hi;rw[fJ,<- ju]at this;exact this
def TV{phx:cc}{H:cg}{id:Nat}{e:ae}{l:List e.aD}{v:Value}(ah:hu phx id e 0 l.length v)
  (Y:(phx id=none/\l.length=0)\/∃b o c el fz,phx id=some (b,o,c.size)/\H b=some (.cells c el fz)/\e4 H e l c o):aH H (.sl e) l [v]:=by
 have:=TU ah J Y
 rwa [Cc]at this
section
variable {K:Kp} {w0 w:World} {phx:cc} {M:Nat->Prop} {B B':Nat->aQ} {g:Nat->au}
def adw{e:ae}{l:List e.aD}(h:lC phx M w (view w M) B i (.ob e l)):(phx i=none/\l.length=0)\/∃b o c el fz,phx i=some (b,o,c.size)/\full w b=some (.cells c el fz)/\e4 (full w) e l c o:=by
 rcases h.2 with h|⟨b,o,c,el,fz,O,R,af,_⟩
 .grind
 exact .inr ⟨b,o,c,el,fz,O,R,af.mono (rN w M)⟩
def ae3{id:Nat}{e:ae}{x:List e.aD}(h:(sV eJ id e).aX g B=some (x,B'))(hm:Mem K w0 phx M B w):
  ∃ay,Mem K w0 phx ay B' w/\cm phx M B w phx ay B' w/\nL phx M B ay B'/\(B id=.ob e x\/B id=.fz e x) /\
   ((phx id=none/\x.length=0)\/∃b o c el fz,phx id=some (b,o,c.size)/\full w b=some (.cells c el fz)/\e4 (full w) e x c o) /\
   (eJ=true->(phx id=none/\x.length=0)\/∃b o c el fz,phx id=some (b,o,c.size)/\view w ay b=some (.cells c el fz)/\e4 (view w ay) e x c o):=by
 simp only[sV,aw.aX]at h;have Y:=hm.blks id;cases aB:B id with
 |ob bC l=>
  rw[aB]at h Y;obtain⟨y,cR,O,R⟩:=aw.cy h;obtain⟨ai,rfl⟩:=dE O;obtain⟨fp,rfl⟩:=jf ai;subst fp;cases eJ with
  |false =>cases R;exact⟨M,hm,cm.refl _ _ _ _,nL.refl _ _ _,.inl rfl,adw Y,λh=>by cases h⟩
  |true =>obtain⟨ay,h?,jB,vy⟩:=hm.freeze aB;cases R;have kz:=h?.blks id;rw[eM]at kz;exact⟨ay,h?,jB,vy,.inl rfl,adw Y,λ_=>kz.2⟩
 |fz bC l=>
  rw[aB]at h Y;obtain⟨ai,rfl⟩:=dE h;obtain⟨fp,rfl⟩:=jf ai;subst fp;refine⟨M,hm,cm.refl _ _ _ _,nL.refl _ _ _,.inr rfl,?_,λ_=>Y.2⟩;rcases Y.2 with h|⟨b,o,c,el,fz,O,R,af⟩
  .grind
  exact .inr ⟨b,o,c,el,fz,O,rN w M _ _ R,af.mono (rN w M)⟩
 |new=>rw[aB]at h;cases h
 |e'=>rw[aB]at h;cases h
 |box t v=>rw[aB]at h;cases h
 |it s p=>rw[aB]at h;cases h
 |mp kt vt l=>rw[aB]at h;cases h
def JY{H:cg}{e:ae}{l:List e.aD}{c:Array Value}(h:aH H (.ar n e) l (cF c o (n*e.size)))(aj:o+n*e.size<=c.size):l.length=n/\e4 H e l c o:=by
 obtain⟨O,_,af⟩:=aH.BW.1 h;refine⟨O,by rw[O];exact aj,λi x hi => ?_⟩;have bm:i<l.length:=(mt.1 hi).1;have:=af i x hi;have hm:=iq e.size (show i+1<=n by omega);rw[fJ,Nat.one_mul]at hm
 rwa [DZ _ _ _ _ _ hm]at this
def Mem.anF(h:Mem K w0 phx M B w){id:Nat}{e:ae}{v:au}{l:List e.aD}(Y:B id=.box (.ar n e) v)(hl:ie (.ar n e) v=some l)(dB:0<e.size):
  ∃ay,Mem K w0 phx ay (cU B id (.fz e l)) w/\cm phx M B w phx ay (cU B id (.fz e l)) w/\nL phx M B ay (cU B id (.fz e l)):=by
 have ah:=h.blks id;rw[Y]at ah;obtain⟨eh,sL,c0,r_,sg,g1,bw,cW,gg,kw,si⟩:=ah;obtain⟨cq,d9⟩:=JY (rI hl gg) cW;refine⟨λb=>M b/\∀x,phx id=some x->b≠x.1,?_⟩;have aC:(view w M).cb (view w λb=>M b/\∀x,phx id=some x->b≠x.1):=yr λb o dS aK=>⟨λai=>dS ai.1,aK⟩;have aA:cm phx M B w phx (λb=>M b/\∀x,phx id=some x->b≠x.1) (cU B id (.fz e l)) w:=⟨λ_ _=>rfl,aC,λj=>by
  by_cases an:j=id
  .subst an;rw[eM,Y];exact⟨by rw[cq],dB⟩
  rw[d6 _ _ an];exact aQ.cb.refl _⟩
 refine⟨{ h with hid:=λb ap=>⟨λhm=>(h.hid b ap).1 hm.1,λhx=>⟨(h.hid b ap).2 hx,λx mO e=>h.own id (by rw[Y];rfl) x mO (e▸ap)⟩⟩,mlt:=λb hm=>h.mlt b hm.1,own:=λj an => ?_,blks:=λj => ?_,sep:=λi j i2 hi an => ?_ },aA,
  λb Y aj => ?_,λj an => ?_⟩
 .by_cases O:j=id
  .subst O;rw[eM]at an;cases an
  rw[d6 _ _ O]at an;exact h.own j an
 .by_cases an:j=id
  .subst an;rw[eM]
   exact⟨dB,.inr ⟨eh,sL,c0,r_,sg,g1,jr.2 ⟨λai=>ai.2 _ g1 rfl,bw⟩,d9.mono aC⟩⟩
  rw[d6 _ _ an];refine(h.blks j).congr rfl aA.pl aA.vw aA.bl (λ_ _ _=>rfl) λx hx hm dS=>⟨dS,λy hy => ?_⟩;exact h.sep j id an hm (by rw[Y];rfl) x y hx hy
 .by_cases O:i=id
  .subst O;rw[eM]at hi;cases hi
  by_cases R:j=id
  .subst R;rw[eM]at an;cases an
  rw[d6 _ _ O]at hi;rw[d6 _ _ R]at an;exact h.sep i j i2 hi an
 .refine k2 λai=>aj ⟨Y,λx hx e=>ai ⟨id,by rw[‹B id=_›];rfl,x,hx,e.symm⟩⟩
 by_cases O:j=id
 .subst O;rw[eM]at an;cases an
 rw[d6 _ _ O]at an;exact an
def OR(B:Nat->aQ)(id:Nat)(e:ae)(x:List e.aD):Prop:=
 B id=.ob e x\/B id=.fz e x\/∃v,B id=.box (.ar x.length e) v
def awg{id:Nat}{e:ae}{x:List e.aD}(h:(AU eJ id e).aX g B=some (x,B'))(hm:Mem K w0 phx M B w):
  ∃ay,Mem K w0 phx ay B' w/\cm phx M B w phx ay B' w/\nL phx M B ay B'/\OR B id e x /\
   ((phx id=none/\x.length=0)\/∃b o c el fz,phx id=some (b,o,c.size)/\full w b=some (.cells c el fz)/\e4 (full w) e x c o) /\
   (eJ=true->(phx id=none/\x.length=0)\/∃b o c el fz,phx id=some (b,o,c.size)/\view w ay b=some (.cells c el fz)/\e4 (view w ay) e x c o):=by
 cases aB:B id with
 |box t v=>
  simp only[AU,aw.aX]at h;have Y:=hm.blks id;rw[aB]at h Y;cases t<;>try(cases h)
  rename_i n bC;obtain⟨l,cR,O,R⟩:=aw.cy h;obtain⟨hl,rfl⟩:=dE O;obtain⟨y,b4,af,aq⟩:=aw.cy R;obtain⟨ai,rfl⟩:=dE af;obtain⟨fp,rfl⟩:=jf ai;subst fp;have hp:Nat.blt 0 bC.size=true:=by
   cases a2:Nat.blt 0 bC.size with
   |true=>rfl
   |false=>rw[a2]at aq;cases aq
  have h:=aq;rw[hp]at h;have dB:=by simpa using hp
  obtain⟨eh,sL,c0,r_,sg,g1,bw,cW,gg,kw,si⟩:=Y;obtain⟨cq,d9⟩:=JY (rI hl gg) cW;have hf:∃b o c el fz,phx id=some (b,o,c.size)/\full w b=some (.cells c el fz)/\e4 (full w) bC l c o:=⟨eh,sL,c0,r_,sg,g1,bw,d9.mono (rN w M)⟩;cases eJ with
  |false =>cases h;exact⟨M,hm,cm.refl _ _ _ _,nL.refl _ _ _,.inr (.inr ⟨v,by rw[cq];exact aB⟩),.inr hf,λh=>by cases h⟩
  |true =>obtain⟨ay,h?,jB,vy⟩:=hm.anF aB hl dB;cases h;have kz:=h?.blks id;rw[eM]at kz;exact⟨ay,h?,jB,vy,.inr (.inr ⟨v,by rw[cq];exact aB⟩),.inr hf,λ_=>kz.2⟩
 |_=>
  have bL:(sV eJ id e).aX g B=some (x,B'):=by
   simp only[AU,aw.aX]at h;simp only[sV,aw.aX]
   grind
  obtain⟨ay,O,R,af,aq,a8⟩:=ae3 bL hm;exact⟨ay,O,R,af,aq.elim .inl λh=>.inr (.inl h),a8⟩
def cm.b8{phx':cc}{ay:Nat->Prop}{w':World}(h:cm phx M B w phx' ay B' w'){pv:au}{t:ae}{cs:List Value}(hp:e3 phx (view w M) B pv t cs):e3 phx' (view w' ay) B' pv t cs:=
 hp.mono h.pl h.vw h.bl
def p?(K:Kp)(w0 w:World)(phx:cc)(M:Nat->Prop)(B B':Nat->aQ)(eJ:Bool)(t:ae)(x:t.aD)(cs:List Value):Prop:=
 ∃ay,Mem K w0 phx ay B' w/\cm phx M B w phx ay B' w/\nL phx M B ay B'/\aH (full w) t x cs/\(eJ=true->aH (view w ay) t x cs)
def p?.plain(hm:Mem K w0 phx M B w){t:ae}{x:t.aD}{cs:List Value}(h:aH (view w M) t x cs):p? K w0 w phx M B B eJ t x cs:=
 ⟨M,hm,cm.refl _ _ _ _,nL.refl _ _ _,h.mono (rN w M),λ_=>h⟩
def aug{e:ae}{x:List e.aD}{id:Nat}{H:cg}{v:Value}(Y:B id=.ob e x\/B id=.fz e x)(h:bM phx H B (.own id d') v):hu phx id e 0 x.length v:=by rcases Y with Y|Y<;>simp only[bM,Y]at h<;>exact h.1
def ad3{e:ae}{x:List e.aD}{id:Nat}{H:cg}{v:Value}(Y:OR B id e x)(h:bM phx H B (.osl id off n) v):off+n<=x.length/\hu phx id e off n v:=by
 rcases Y with Y|Y|⟨u,Y⟩<;>simp only[bM,Y]at h
 .grind
 .exact h
 exact h.2
def aea{id:Nat}{t:ae}{x:t.aD}{v:Value}(h:(ad7 eJ id t).aX g B=some (x,B'))(hm:Mem K w0 phx M B w)(ah:bM phx (view w M) B (.own id d') v):
  p? K w0 w phx M B B' eJ t x [v]:=by
 cases t<;>try(cases h)
 obtain⟨ay,O,R,ht,af,aq,a8⟩:=ae3 h hm;have aK:=aug af ah;exact⟨ay,O,R,ht,TV aK aq,λhf=>TV aK (a8 hf)⟩
def ad2{id:Nat}{t:ae}{x:t.aD}{v:Value}(h:(ad1 eJ id off n t).aX g B=some (x,B'))(hm:Mem K w0 phx M B w)(ah:bM phx (view w M) B (.osl id off n) v):
  p? K w0 w phx M B B' eJ t x [v]:=by
 cases t<;>try(cases h)
 obtain⟨y,cR,hy,h⟩:=aw.cy h;cases h;obtain⟨ay,O,R,ht,af,aq,a8⟩:=awg hy hm;have aK:=ad3 af ah;exact⟨ay,O,R,ht,TU aK.2 aK.1 aq,λhf=>TU aK.2 aK.1 (a8 hf)⟩
def IZ:∀{pv:au} {B B':Nat->aQ} {M:Nat->Prop} {t:ae} {x:t.aD} {cs:List Value},(yj eJ pv t).aX g B=some (x,B')->Mem K w0 phx M B w->e3 phx (view w M) B pv t cs ->
  p? K w0 w phx M B B' eJ t x cs:=by
 intro pv;induction pv with
 |own id d' =>intro B B' M t x cs h hm ah;obtain⟨_,v,rfl,_,af⟩:=ah;exact aea h hm af
 |osl id off n =>intro B B' M t x cs h hm ah;obtain⟨_,v,rfl,_,af⟩:=ah;exact ad2 h hm af
 |two u v aL aC=>
  intro B B' M t x cs h hm ah;cases t<;>try(cases h)
  obtain⟨c1,c2,rfl,eG,gt⟩:=ah;obtain⟨y,cR,hy,h⟩:=aw.cy h;obtain⟨z,b4,bj,h⟩:=aw.cy h;cases h;obtain⟨ft,bD,e1,dT,f1,rL⟩:=aL hy hm eG;obtain⟨c7,cn,aN,ev,f2,yq⟩:=aC bj bD (e1.b8 gt);exact⟨c7,cn,e1.trans aN,dT.trans ev,aH.mh.2 ⟨c1,c2,rfl,f1,f2⟩,λhf=>aH.mh.2 ⟨c1,c2,rfl,(rL hf).mono aN.vw,yq hf⟩⟩
 |sc t' y =>intro B B' M t x cs h hm ah;obtain⟨ai,rfl⟩:=dE h;exact p?.plain hm (rI (pv:=.sc t' y) ai ah)
 |kb b =>intro B B' M t x cs h hm ah;obtain⟨ai,rfl⟩:=dE h;exact p?.plain hm (rI (pv:=.kb b) ai ah)
 |nil =>intro B B' M t x cs h hm ah;obtain⟨ai,rfl⟩:=dE h;exact p?.plain hm (rI (pv:=.nil) ai ah)
 |csl e l =>intro B B' M t x cs h hm ah;obtain⟨ai,rfl⟩:=dE h;exact p?.plain hm (rI (pv:=.csl e l) ai ah)
 |clo f dQ cV =>intro B B' M t x cs h hm ah;obtain⟨ai,rfl⟩:=dE h;exact p?.plain hm (rI (pv:=.clo f dQ cV) ai ah)
 |agg t' u _=>intro B B' M t x cs h hm ah;exact ah.elim
 |_=>intro B B' M t x cs h;cases h
def yk{pv:au}{t:ae}{x:t.aD}{v:Value}(h:(lT eJ t pv).aX g B=some (x,B'))(hm:Mem K w0 phx M B w)(ah:a? phx (view w M) B pv v):
  ∃cs,v=ct t cs/\p? K w0 w phx M B B' eJ t x cs:=by
 have plain:∀{t:ae} {x:t.aD},a? phx (view w M) B (.sc t x) v->∃cs,v=ct t cs/\p? K w0 w phx M B B eJ t x cs:=λ⟨cs,O,R⟩=>⟨cs,R,p?.plain hm O⟩;cases pv<;>try(cases h)
 case own id d'=>
  have hg:=aea h hm ah;cases t<;>try(cases h)
  exact⟨[v],rfl,hg⟩
 case osl id off n=>
  have hg:=ad2 h hm ah;cases t<;>try(cases h)
  exact⟨[v],rfl,hg⟩
 case two u w=>exact ah.elim
 case sc t' y =>obtain⟨ai,rfl⟩:=dE h;exact plain (nA (pv:=.sc t' y) ai ah)
 case kb b =>obtain⟨ai,rfl⟩:=dE h;exact plain (nA (pv:=.kb b) ai ah)
 case nil =>obtain⟨ai,rfl⟩:=dE h;exact plain (nA (pv:=.nil) ai ah)
 case csl e l =>obtain⟨ai,rfl⟩:=dE h;exact plain (nA (pv:=.csl e l) ai ah)
 case clo f dQ cV =>obtain⟨ai,rfl⟩:=dE h;exact plain (nA (pv:=.clo f dQ cV) ai ah)
 case agg t' u=>
  have bL:(bif ae.is t' t then yj eJ u t else .fail:aw t.aD).aX g B=some (x,B'):=h;cases hi:ae.is t' t with
  |false=>rw[hi]at bL;cases bL
  |true =>rw[hi]at bL;have e:=eD hi;subst e;obtain⟨bu,cs,O,R⟩:=ah;exact⟨cs,by rw[R,ct,if_pos bu],IZ bL hm O⟩
end
end Yp
namespace Yp
open Go
def EX:=@Option.map_some
variable {P:Program}
def ax4{op:UnOp}{p:au}{g:Nat->au}{B B':Nat->aQ}{v:au}(h:(VK op p).aX g B=some (v,B')){x:Value}{phx:cc}{H:cg}(hx:a? phx H B p x)(w:World):
  B'=B/\∃cX,(Op.unary op x).run P w=.ok cX w/\a? phx H B v cX:=by
 have rf:=λk n=>by
  have:=a?.sH phx H B k (bH.of k n)
  rwa [bH.NS]at this
 unfold VK at h;split at h
 .rename_i b
  cases h;subst hx;exact⟨rfl,_,rfl,rfl⟩
 .rename_i b
  cases h;rw[hx.bool];exact⟨rfl,_,rfl,a?.ub _ _ _ _⟩
 .rename_i k n
  cases h;rw[hx.int];exact⟨rfl,_,by rfl,by simpa[bi]using rf k (0-bH.to k n)⟩
 .rename_i k n
  cases h;rw[hx.int];exact⟨rfl,_,by cases k<;>rfl,rf k _⟩
 cases h
def amU{p:au}{g:Nat->au}{B B':Nat->aQ}{v:au}(h:(FV p i).aX g B=some (v,B')){x:Value}{phx:cc}{H:cg}(hx:a? phx H B p x)(w:World):
  B'=B/\∃cX,(Instr.extract x i).run P w=.ok cX w/\dZ phx H B v cX:=by
 unfold FV at h;split at h
 .rename_i a
  obtain⟨h,aB⟩:=dE h;obtain⟨vs,hl,rfl⟩:=hx;refine⟨aB,?_⟩;have key:∀(i:Nat) (a:au) (vs:List Value),iN a (gd i)=some v->lD phx H B a vs->∃cX,vs[i]?=some cX/\dZ phx H B v cX:=by
   intro i;induction i with
   |zero=>
    intro a vs h hl;cases a<;>simp only[gd]at h<;>try(cases h;done)
    .rename_i t y
     cases t<;>(try simp at h)<;>try(cases h)
     exact hl.elim
    obtain⟨u,us,rfl,O,R⟩:=hl;cases h
    grind
   |succ i ih=>
    intro a vs h hl;cases a<;>simp only[gd]at h<;>try(cases h)
    .rename_i t y
     cases t<;>(try simp at h)<;>try(cases h)
     exact hl.elim
    obtain⟨u,us,rfl,O,R⟩:=hl;obtain⟨cX,af,aq⟩:=ih _ _ h R
    grind
  obtain⟨cX,O,R⟩:=key i a vs h hl;refine⟨cX,?_,R⟩;simp[Instr.extract,O]
 cases h
def auG{c a b:au}{g:Nat->au}{B B':Nat->aQ}{v:au}(h:(T5 c a b).aX g B=some (v,B')){x y z:Value}{phx:cc}{H:cg}
  (ai:a? phx H B c x) (bu:a? phx H B a y) (Y:a? phx H B b z) (w:World) :
  B'=B/\∃cX,(do pure (Next.value (if <- asBool x then y else z)):Sem Next).run P w=.ok (.value cX) w/\a? phx H B v cX:=by
 have go:∀(t:ae) (c:Bool) (p q:t.aD),a? phx H B (.sc t p) y->a? phx H B (.sc t q) z->x=.bool c ->
   ∃cX,(do pure (Next.value (if <- asBool x then y else z)):Sem Next).run P w=.ok (.value cX) w/\a? phx H B (.sc t (T c p q)) cX:=by
  intro t c p q O R af;subst af;cases c with
  |true=>exact⟨y,rfl,O⟩
  |false=>exact⟨z,rfl,R⟩
 unfold T5 at h;split at h
 .rename_i c
  cases h;subst ai;cases c with
  |true=>exact⟨rfl,y,rfl,bu⟩
  |false=>exact⟨rfl,z,rfl,Y⟩
 .rename_i c
  split at h
  .rename_i t p
   split at h
   .rename_i q a2
    cases h;exact⟨rfl,go t c p q bu (nA a2 Y) ai.bool⟩
   cases h
  .rename_i p
   split at h
   .rename_i q a2
    cases h;refine⟨rfl,go .bool c p q ?_ (nA a2 Y) ai.bool⟩;rw[bu];exact a?.ub _ _ _ _
   cases h
  cases h
 cases h
def zX{i n:Int}:aU i n=true↔0<=i/\i<n:=by simp[aU]
def arL{i:Int}{g:Nat->au}{B B':Nat->aQ}{v:au}(h:(G8 .str (.sc .str l) i).aX g B=some (v,B')){tid:TypeId}(aL:P.underlying tid=some .string)(k:IntKind)
  {phx:cc} {H:cg} (w:World):B'=B/\∃cX,(Instr.index tid (.string ⟨l.toArray⟩) (.int k i)).run P w=.ok cX w/\a? phx H B v cX:=by
 simp only[G8,aw.aX]at h;split at h
 .rename_i ai
  cases h;obtain⟨ao,O⟩:=zX.1 ai;have bm:i.toNat<l.length:=by unfold len at O;omega
  have ac:=bm;have hg:(⟨l.toArray⟩:ByteArray)[i.toNat]?=some l[i.toNat]:=by rw[getElem?_pos (⟨l.toArray⟩:ByteArray) i.toNat ac];rfl
  refine⟨rfl,.int .u8 (l[i.toNat].toNat:Int),?_,?_⟩
  .simp[Instr.index,asIntOf,run_underlying aL,ao,hg]
  have e:ak l (aa i) (u8 0)=l[i.toNat]:=by simp[ak,aa,bm]
  show a? phx H B (.sc (.int .u8) (ak l (aa i) (u8 0):bH .u8)) _;rw[show(ak l (aa i) (u8 0):bH .u8)=l[i.toNat] from e];exact a?.sH phx H B .u8 l[i.toNat]
 cases h
def rk{lo hi n:Int}:ca lo hi n=true↔0<=lo/\lo<=hi/\hi<=n:=by simp[ca,and_assoc]
def UQ{isSlice:Bool}{cap:Nat}{lo hi:Option Int}{ks kh:IntKind}(ld:n<=cap)(h:ca (bT lo 0) (bT hi n) n=true)(w:World):
  (Instr.sliceBounds isSlice n cap (lo.map λi=>.int ks i) (hi.map λi=>.int kh i) none).run P w=.ok ((bT lo 0).toNat,(bT hi n).toNat,cap) w:=by
 obtain⟨O,R,af⟩:=rk.1 h;cases lo with
 |none=>
  cases hi with
  |none=>simp[Instr.sliceBounds,bT]
  |some hi =>simp only[bT]at O R af ⊢;have g1:0<=hi/\hi<=(cap:Int):=⟨J,J⟩;simp[Instr.sliceBounds,Instr.sliceBound,asIntOf,g1]
 |some lo=>
  cases hi with
  |none =>simp only[bT]at O R af ⊢;have g1:0<=lo/\lo<=(n:Int):=⟨O,J⟩;simp[Instr.sliceBounds,Instr.sliceBound,asIntOf,g1]
  |some hi =>simp only[bT]at O R af ⊢;have g1:0<=hi/\hi<=(cap:Int):=⟨J,J⟩;have bw:0<=lo/\lo<=((hi.toNat:Nat):Int):=⟨O,J⟩;simp[Instr.sliceBounds,Instr.sliceBound,asIntOf,g1,bw];omega
def at9{o:Option Operand}{g:Nat->au}{B B':Nat->aQ}{r:Option Int}(h:(HR o).aX g B=some (r,B')){phx:cc}{H:cg}{a:Act}(ac:dw phx H B g a):
  B'=B/\∃k,o.map a.eval=r.map λi=>.int k i:=by
 cases o with
 |none=>cases h;exact⟨rfl,.i64,rfl⟩
 |some x=>
  obtain⟨v,cR,O,h⟩:=aw.cy h;obtain⟨aB,aC⟩:=xN O ac;obtain⟨n,b4,R,h⟩:=aw.cy h;cases h;cases v<;>try(cases R)
  rename_i t y;cases t<;>try(cases R;done)
  rename_i k;cases R;exact⟨aB,k,by simp only[EX,aC.int]⟩
def axe{lo hi:Option Int}{g:Nat->au}{B B':Nat->aQ}{v:au}(h:(v? .str (.sc .str l) lo hi none).aX g B=some (v,B')){tid:TypeId}(aL:P.underlying tid=some .string)
  (ks kh:IntKind) {phx:cc} {H:cg} (w:World) :
  B'=B/\∃cX,(Instr.sliceAt tid (.string ⟨l.toArray⟩) (lo.map λi=>.int ks i) (hi.map λi=>.int kh i) none).run P w=.ok cX w/\a? phx H B v cX:=by
 have h:(if ca (bT lo 0) (bT hi (len l)) (len l)=true then some (au.sc .str (sub l (bT lo 0) (bT hi (len l))),B) else none)=some (v,B'):=h;split at h
 .rename_i ai
  cases h;have Y:=UQ (P:=P) (isSlice:=false) (ks:=ks) (kh:=kh) (bU l.length) ai w;have cP:(⟨l.toArray⟩:ByteArray).size=l.length:=rfl;refine⟨rfl,.string ⟨(sub l (bT lo 0) (bT hi l.length)).toArray⟩,?_,a?.Tk _ _ _ _⟩;have aA:(⟨l.toArray⟩:ByteArray).extract (bT lo 0).toNat (bT hi l.length).toNat=⟨(sub l (bT lo 0) (bT hi l.length)).toArray⟩:=by apply ByteArray.ext;simp[sub,ByteArray.data_extract]
  simp[Instr.sliceAt,Instr.slice,run_underlying aL,cP,Y,aA]
 cases h
end Yp
namespace Yp
open Go
def k4:=@Option.map_eq_some_iff
def nE:=@List.getD_eq_getElem?_getD
def yS:=@Array.getElem?_eq_getElem
variable {P:Program}
def My{d:Option TypeDesc}(h:HQ k d):(∃a b c,d=some (.func a b c))\/(∃a,d=some (.interface a))\/(∃a b,d=some (.map a b))\/∃a,d=some (.pointer a):=by
 unfold HQ at h
 grind
def ank{t:ae}{tid:TypeId}(h:(cO P t).1 tid):∃d,P.underlying tid=some d:=by
 cases t with
 |bool=>exact⟨_,h.1⟩|int k=>exact⟨_,h.1⟩|str=>exact⟨_,h.1⟩
 |sl e=>obtain⟨⟨bc,h,_⟩,_⟩:=h;exact⟨_,h⟩
 |unit=>obtain⟨⟨bc,h,_⟩,_⟩:=h;exact⟨_,h⟩
 |pair a b=>obtain⟨⟨bc,h,_⟩,_⟩:=h;exact⟨_,h⟩
 |ar n e=>obtain⟨⟨bc,h,_⟩,_⟩:=h;exact⟨_,h⟩
 |op k=>rcases My h.1 with⟨_,_,_,h⟩|⟨_,h⟩|⟨_,_,h⟩|⟨_,h⟩<;>exact⟨_,h⟩
 |fn l=>rcases My h.1 with⟨_,_,_,h⟩|⟨_,h⟩|⟨_,_,h⟩|⟨_,h⟩<;>exact⟨_,h⟩
def awp{rG c6:TypeId}{k k':IntKind}{d:TypeDesc}(ac:P.underlying rG=some d)(aF:P.underlying c6=some (.int k))(n:Int)(w:World):
  (convert rG c6 (.int k' n)).run P w=.ok (.int k (k.wrap n)) w:=by
 unfold convert;simp[run_underlying ac,run_underlying aF];cases d<;>simp[Conv.intToInt]
def Fy{w:World}{c:Array Value}{el:TypeId}{fz:Nat×Nat}(h:w.heap[b]?=some (.cells c el fz))(i:Nat):w.cell? ⟨b,i,none⟩=c[i]?:=by simp[World.cell?,h]
def qd(b o n:Nat):(⟨b,o,none⟩:Addr).add n=⟨b,o+n,none⟩:=by
 unfold Addr.add;split
 .simp
 rfl
def DV{w:World}{c:Array Value}{el:TypeId}{fz:Nat×Nat}(h:w.heap[b]?=some (.cells c el fz))(aj:o+n<=c.size):
  (loadCells ⟨b,o,none⟩ n).run P w=.ok (cF c o n).toArray w:=by
 have:=run_loadCells_list (P:=P) (w:=w) ⟨b,o,none⟩ (cF c o n) (λj v an=>by
  rw[qd,Fy h];have bm:j<n:=by
   rcases yY j n with h|h
   .exact h
   have:=pW aj;rw[wA J]at an;cases an
  rw[ux bm]at an;exact an)
 rwa [pW aj]at this
def M?{t:ae}{tid:TypeId}(h:(cO P t).1 tid)(w:World):(isAgg tid).run P w=.ok t.isAgg w:=by
 unfold isAgg;cases t with
 |bool=>simp[run_underlying h.1,ae.isAgg]
 |int k=>simp[run_underlying h.1,ae.isAgg]
 |str=>simp[run_underlying h.1,ae.isAgg]
 |sl e=>obtain⟨⟨bc,h,_⟩,_⟩:=h;simp[run_underlying h,ae.isAgg]
 |unit=>obtain⟨⟨bc,h,_⟩,_⟩:=h;simp[run_underlying h,ae.isAgg]
 |pair a b=>obtain⟨⟨bc,h,_⟩,_⟩:=h;simp[run_underlying h,ae.isAgg]
 |ar n e=>obtain⟨⟨bc,h,_⟩,_⟩:=h;simp[run_underlying h,ae.isAgg]
 |op k=>rcases My h.1 with⟨_,_,_,h⟩|⟨_,h⟩|⟨_,_,h⟩|⟨_,h⟩<;>simp[run_underlying h,ae.isAgg]
 |fn l=>rcases My h.1 with⟨_,_,_,h⟩|⟨_,h⟩|⟨_,_,h⟩|⟨_,h⟩<;>simp[run_underlying h,ae.isAgg]
def afc{t:TypeId}{i:TypeInfo}(h:P.info? t=some i)(w:World):(typeInfo t).run P w=.ok i w:=by unfold typeInfo;simp[h]
def od{t:ae}{tid:TypeId}(h:(cO P t).1 tid)(w:World):(Go.sizeOf tid).run P w=.ok t.size w:=by obtain⟨i,O,R,_⟩:=nc h;unfold Go.sizeOf;simp[afc O,R]
def agi{t:ae}(h:t.isAgg=false):t.size=1:=by cases t<;>first|rfl|cases h
def awu{t:ae}{tid:TypeId}(h:(cO P t).1 tid){w:World}{c:Array Value}{el:TypeId}{fz:Nat×Nat}(Y:w.heap[b]?=some (.cells c el fz))(aj:o+t.size<=c.size):
  (loadVar tid ⟨b,o,none⟩).run P w=.ok (ct t (cF c o t.size)) w:=by
 unfold loadVar;cases bu:t.isAgg with
 |true=>simp[M? h,bu,od h,DV Y aj,ct]
 |false=>
  have O:=agi bu;have bm:o<c.size:=J;have ai:w.cell? ⟨b,o,none⟩=some c[o]:=by rw[Fy Y];exact yS bm
  have ac:cF c o 1=[c[o]]:=by
   have hl:=pW (c:=c) (o:=o) (n:=1) J;have hg:=ux (c:=c) (o:=o) (n:=1) (i:=0) J;match aqT:cF c o 1,hl,hg with
   |[x],_,hg=>simp[bm]at hg;rw[hg]
  simp[M? h,bu,load,Sem.run,ai,ct,O,ac]
def anj:∀(f:Nat) {t:ae} {l:List Field} {off d:Nat} {dV:ae},(cO P t).2 l off->t.d? (gd f)=some (d,dV) ->
  ∃fd,l[f]?=some fd/\fd.offset=off+d/\(cO P dV).1 fd.type:=by
 intro f;induction f with
 |zero=>
  intro t l off d dV h aK;cases t<;>try(cases aK)
  obtain⟨fd,r,rfl,O,R,af⟩:=h;simp only[gd,ae.d?]at aK
  grind
 |succ f ih=>
  intro t l off d dV h aK;cases t<;>try(cases aK)
  rename_i a b;obtain⟨fd,r,rfl,O,R,af⟩:=h;simp only[gd,ae.d?]at aK;cases Y:b.d? (gd f) with
  |none=>rw[Y]at aK;cases aK
  |some q=>
   grind
def ZP{t:ae}{tid:TypeId}{dV:ae}(h:(cO P t).1 tid)(aK:t.d? (gd f)=some (d,dV)):
  ∃e_ fd,P.underlying tid=some (.struct e_)/\e_[f]?=some fd/\fd.offset=d/\(cO P dV).1 fd.type:=by
 have hp:∃a b,t=.pair a b:=by cases f<;>cases t<;>simp only[gd]at aK<;>first|exact⟨_,_,rfl⟩|cases aK
 obtain⟨a,b,rfl⟩:=hp;obtain⟨⟨e_,aL,fd,r,O,R,af,aq⟩,_⟩:=h;have:(cO P (.pair a b)).2 e_.toList 0:=⟨fd,r,O,R,af,by simpa using aq⟩;obtain⟨ay0,g1,bw,cW⟩:=anj f this aK
 grind
def UC{t:ae}{tid:TypeId}{dV:ae}(h:(cO P t).1 tid)(aK:t.d? (gd f)=some (d,dV))(ac:0<dV.size)(b o:Nat)(w:World):
  (Instr.fieldAt tid (.pointer (some ⟨b,o,none⟩)) f).run P w=.ok (.pointer (some ⟨b,o+d,none⟩)) w:=by
 obtain⟨e_,fd,O,R,af,aq⟩:=ZP h aK;have bj:=od aq w;have eC:dV.size≠0:=J;simp[Instr.fieldAt,run_underlying O,R,Instr.sureAddr,fieldPlace,bj,eC,af,qd]
def rq:∀{p:List mx} {t t':ae} {o:Nat},t.d? p=some (o,t')->t.at p=some t':=by
 intro p;induction p with
 |nil=>intro t t' o h;cases t<;>simp only[ae.d?]at h<;>(obtain⟨_,rfl⟩:=h;rfl)
 |cons s p ih=>
  intro t t' o h;cases s with
  |fst=>
   cases t<;>try(cases h)
   exact ih h
  |snd=>
   cases t<;>try(cases h)
   simp only[ae.d?,k4]at h;obtain⟨q,a2,aA⟩:=h;cases aA;exact ih a2
  |ix i=>
   cases t<;>try(cases h)
   simp only[ae.d?]at h;split at h
   .simp at h
    obtain⟨q,a2,aA⟩:=h;exact ih a2
   cases h
def Dv:∀{p q:List mx} {t dT ev:ae} {li mf:Nat},t.d? p=some (li,dT)->dT.d? q=some (mf,ev)->t.d? (p++q)=some (li+mf,ev):=by
 intro p;induction p with
 |nil=>
  intro q t dT ev li mf h g;have:t=dT/\li=0:=by cases t<;>simp only[ae.d?,km,kH]at h<;>exact⟨h.2,h.1.symm⟩
  grind
 |cons s p ih=>
  intro q t dT ev li mf h g;cases s with
  |fst=>
   cases t<;>try(cases h)
   exact ih h g
  |snd=>
   cases t<;>try(cases h)
   simp only[ae.d?,k4]at h;obtain⟨r,ah,aA⟩:=h;cases aA;simp only[lA,ae.d?,ih ah g,EX,ju]
  |ix i=>
   cases t<;>try(cases h)
   simp only[ae.d?]at h;split at h
   .rename_i hi
    simp at h;obtain⟨r,ah,aA⟩:=h;cases aA;simp only[lA,ae.d?,if_pos hi,ih ah g,EX,ju]
   cases h
section
variable {phx:cc} {H:cg} {B:Nat->aQ}
def axG(cs:List α)(n:Nat)(h:cs.length=n):(cs.drop 0).take n=cs:=by subst h;simp
def uf:∀{p:List mx} {t t':ae} {off:Nat},t.d? p=some (off,t')->off+t'.size<=t.size:=by
 intro p;induction p with
 |nil=>
  intro t t' off aK;have:t=t'/\off=0:=by cases t<;>simp only[ae.d?,km,kH]at aK<;>exact⟨aK.2,aK.1.symm⟩
  grind
 |cons s p ih=>
  intro t t' off aK;cases s with
  |fst=>
   cases t<;>try(cases aK)
   rename_i a b;have:=ih (t:=a) aK;simp only[ae.size];omega
  |snd=>
   cases t<;>try(cases aK)
   rename_i a b;simp only[ae.d?,k4]at aK;obtain⟨r,ah,aA⟩:=aK;cases aA;have:=ih (t:=b) (off:=r.1) (t':=r.2) ah;simp only[ae.size];omega
  |ix i=>
   cases t<;>try(cases aK)
   rename_i n e;simp only[ae.d?]at aK;split at aK
   .rename_i hi
    simp only[k4]at aK;obtain⟨r,ah,aA⟩:=aK;cases aA;have:=ih (t:=e) (off:=r.1) (t':=r.2) ah;have R:(i+1)*e.size<=n*e.size:=iq _ hi;rw[fJ]at R;simp only[ae.size];omega
   cases aK
def Qx(c1 c2:List α)(o n:Nat)(h:o+n<=c1.length):((c1++c2).drop o).take n=(c1.drop o).take n:=by grind
def Qz(c1 c2:List α)(o n:Nat):((c1++c2).drop (c1.length+o)).take n=(c2.drop o).take n:=bh
def al7(cs:List α)(a m o n:Nat)(h:o+n<=m):((((cs.drop a).take m).drop o).take n)=(cs.drop (a+o)).take n:=by rw[List.drop_take,List.take_take,qY,E' J]
def Ad{l:List α}{d:α}(h:i<l.length):hO l i=some (ak l i d):=by
 simp only[hO,ak,nE]
 grind
def Rp:∀{p:List mx} {pv u:au} {t t':ae} {off:Nat} {cs:List Value},e3 phx H B pv t cs->t.d? p=some (off,t')->iN pv p=some u ->
  e3 phx H B u t' ((cs.drop off).take t'.size):=by
 intro p;induction p with
 |nil=>
  intro pv u t t' off cs h aK hg;have:t=t'/\off=0:=by cases t<;>simp only[ae.d?,km,kH]at aK<;>exact⟨aK.2,aK.1.symm⟩
  obtain⟨rfl,rfl⟩:=this;have:u=pv:=by cases pv<;>simp only[iN,km]at hg<;>exact hg.symm
  subst this;rw[axG cs _ h.length];exact h
 |cons s p ih=>
  intro pv u t t' off cs h aK hg;cases s with
  |fst=>
   cases t<;>try(cases aK)
   rename_i a b;have bY:=uf (t:=a) aK;cases pv<;>try(cases hg)
   .rename_i s x
    obtain⟨eL,hx⟩:=h;subst eL;obtain⟨c1,c2,rfl,O,R⟩:=aH.mh.1 hx;rw[Qx _ _ _ _ (by rw[O.length];exact bY)];exact ih (pv:=.sc a x.1) (t:=a) ⟨rfl,O⟩ aK hg
   rename_i rL yq;obtain⟨c1,c2,rfl,O,R⟩:=h;rw[Qx _ _ _ _ (by rw[O.length];exact bY)];exact ih O aK hg
  |snd=>
   cases t<;>try(cases aK)
   rename_i a b;simp only[ae.d?,k4]at aK;obtain⟨r,ah,aA⟩:=aK;cases aA;cases pv<;>try(cases hg)
   .rename_i s x
    obtain⟨eL,hx⟩:=h;subst eL;obtain⟨c1,c2,rfl,O,R⟩:=aH.mh.1 hx;rw[<- O.length,Qz];exact ih (pv:=.sc b x.2) (t:=b) ⟨rfl,R⟩ ah hg
   rename_i rL yq;obtain⟨c1,c2,rfl,O,R⟩:=h;rw[<- O.length,Qz];exact ih R ah hg
  |ix i=>
   cases t<;>try(cases aK)
   rename_i n e;simp only[ae.d?]at aK;split at aK
   .rename_i hi
    simp only[k4]at aK;obtain⟨r,ah,aA⟩:=aK;cases aA;have bY:=uf (t:=e) (off:=r.1) (t':=r.2) ah;cases pv<;>try(cases hg)
    rename_i s x;obtain⟨eL,hx⟩:=h;subst eL;obtain⟨O,R,af⟩:=aH.uY.1 hx;rw[<- al7 cs (i*e.size) e.size r.1 r.2.size bY];refine ih (pv:=.sc e (ak (x:List e.aD) i e.zero)) (t:=e) ⟨rfl,?_⟩ ah hg;have bm:i<(x:List e.aD).length:=by have aq:(x:List e.aD).length=n:=O;omega
    refine af i _ ?_;exact Ad bm
   cases aK
end
end Yp
namespace Yp
open Go
variable {P:Program}
section
variable {K:Kp} {w0 w:World} {phx:cc} {M:Nat->Prop} {B B':Nat->aQ} {H:cg}
def Bt{pv:au}{t:ae}{cs:List Value}(h:e3 phx H B pv t cs):a? phx H B (p4 t pv) (ct t cs):=by
 cases pv with
 |two u v =>have bu:=h.arS;refine⟨bu,cs,h,?_⟩;simp[ct,bu]
 |sc s x =>obtain⟨rfl,ai⟩:=h;exact⟨cs,ai,rfl⟩
 |agg t a=>exact h.elim
 |tup a=>exact h.elim
 |bad=>trivial
 |_=>
  obtain⟨bu,v,rfl,_,ah⟩:=h;have:ct t [v]=v:=by simp[ct,bu]
  rw[this];exact ah
def anY:∀{p:List mx} {s:ae} {x:s.aD} {u:au},iN (.sc s x) p=some u->∃cp wj,u=.sc cp wj:=by
 intro p;induction p with
 |nil=>intro s x u h;simp only[iN,km]at h;exact⟨s,x,h.symm⟩
 |cons q p ih=>
  intro s x u h;cases q<;>cases s<;>try(cases h)
  .exact ih h
  .exact ih h
  exact ih h
def ayJ{p:List mx}{s t:ae}{x:s.aD}{u:au}(h:iN (.sc s x) p=some u):p4 t u=u:=by obtain⟨cp,wj,rfl⟩:=anY h;rfl
def Uz{e t:ae}{l:List e.aD}{p:List mx}{pv:au}{c:Array Value}(d9:e4 H e l c o)(hi:i<l.length)
  (aK:e.d? p=some (off,t)) (hg:iN (.sc e (ak l i e.zero)) p=some pv) :
  o+i*e.size+off+t.size<=c.size/\a? phx H B pv (ct t (cF c (o+i*e.size+off) t.size)):=by
 have bY:=uf aK;have O:(i+1)*e.size<=l.length*e.size:=iq _ hi;rw[fJ]at O;have R:=d9.1;refine⟨J,?_⟩;have af:=d9.2 i _ (Ad (d:=e.zero) hi);have aq:=Rp (phx:=phx) (H:=H) (B:=B) (pv:=.sc e (ak l i e.zero)) (t:=e) ⟨rfl,af⟩ aK hg;rw[DZ _ _ _ _ _ bY]at aq;have a8:=Bt aq
 rwa [ayJ hg]at a8
def acA{t:ae}{tid:TypeId}(ht:(cO P t).1 tid){g:Nat->au}{a v:au}{ck:Value}(h:(xB t a).aX g B=some (v,B'))(hm:Mem K w0 phx M B w)
  (ah:a? phx (view w M) B a ck):B'=B/\∃r,(Instr.loadAt tid ck).run P w=.ok r w/\a? phx (view w M) B v r:=by
 have key:∀{b o:Nat} {c:Array Value} {el:TypeId} {fz:Nat×Nat} {q:Nat},w.heap[b]?=some (.cells c el fz)->q+t.size<=c.size ->
   (Instr.loadAt tid (.pointer (some ⟨b,q,none⟩))).run P w=.ok (ct t (cF c q t.size)) w:=by
  intro b o c el fz q Y a2;simp[Instr.loadAt,Instr.sureAddr,awu ht Y a2]
 cases a with
 |ptr id p=>
  simp only[xB,aw.aX]at h;have Y:=hm.blks id;have ac:bM phx (view w M) B (.ptr id p) ck:=ah;simp only[bM]at ac;generalize aB:B id=bl at h Y ac;cases bl<;>try(cases h)
  rename_i rt u;obtain⟨b,o,n,off,t',O,R,rfl⟩:=ac;obtain⟨b',di,c,el,fz,g1,bw,cW,gg,kw,si⟩:=Y;rw[O]at g1;cases g1;simp only[rq R]at h;cases l9:iN u p with
  |none=>rw[l9]at h;cases h
  |some pv=>
   simp only[l9]at h;cases gH:ae.is t' t with
   |false=>rw[gH]at h;cases h
   |true =>rw[gH]at h;obtain⟨rfl,rfl⟩:=h;have:=eD gH;subst this;have bY:=uf R;refine⟨rfl,_,key (o:=0) bw J,?_⟩;have aq:=Rp gg R l9;rw[DZ _ _ _ _ _ bY]at aq;exact Bt aq
 |ipt e l i p=>
  have ac:=ah;obtain⟨hi,b,o,cap,off,t',O,R,rfl⟩:=ac;simp only[xB,rq R]at h;cases l9:iN (.sc e (ak l i e.zero)) p with
  |none=>rw[l9]at h;cases h
  |some pv=>
   simp only[l9]at h;cases gH:ae.is t' t with
   |false=>rw[gH]at h;cases h
   |true=>
    rw[gH]at h;obtain⟨rfl,rfl⟩:=h;have:=eD gH;subst this;obtain⟨a',cap',bG,b_,co,dl⟩:=aH.ic.1 O;simp at bG;rcases dl with dl|⟨b',di,c,el,fz,dF,gr,lk,xQ⟩
    .subst dl;cases hi
    rw[<- bG.1]at dF;cases dF;obtain⟨eG,gt⟩:=Uz (phx:=phx) (B:=B) (H:=view w M) ⟨lk,xQ⟩ hi R l9;exact⟨rfl,_,key (o:=0) (jr.1 gr).2 eG,gt⟩
 |opt id i p=>
  simp only[xB,aw.aX]at h;have Y:=hm.blks id;have ac:bM phx (view w M) B (.opt id i p) ck:=ah;simp only[bM]at ac;generalize aB:B id=bl at h Y ac;cases bl<;>try(cases h)
  .rename_i e l
   obtain⟨hi,b,o,n,off,t',O,R,rfl⟩:=ac;rcases Y.2 with⟨g1,_⟩|⟨b',di,c,el,fz,g1,bw,cW,_⟩
   .rw[g1]at O;cases O
   rw[O]at g1;cases g1;simp only[rq R]at h;cases l9:iN (.sc e (ak l i e.zero)) p with
   |none=>rw[l9]at h;cases h
   |some pv=>
    simp only[l9]at h;cases gH:ae.is t' t with
    |false=>rw[gH]at h;cases h
    |true =>rw[gH]at h;obtain⟨rfl,rfl⟩:=h;have:=eD gH;subst this;obtain⟨eG,gt⟩:=Uz (phx:=phx) (B:=B) (H:=view w M) cW hi R l9;exact⟨rfl,_,key (o:=0) bw eG,gt⟩
  rename_i e l;obtain⟨hi,b,o,n,off,t',O,R,rfl⟩:=ac;rcases Y.2 with⟨g1,_⟩|⟨b',di,c,el,fz,g1,bw,cW⟩
  .rw[g1]at O;cases O
  rw[O]at g1;cases g1;simp only[rq R]at h;cases l9:iN (.sc e (ak l i e.zero)) p with
  |none=>rw[l9]at h;cases h
  |some pv=>
   simp only[l9]at h;cases gH:ae.is t' t with
   |false=>rw[gH]at h;cases h
   |true =>rw[gH]at h;obtain⟨rfl,rfl⟩:=h;have:=eD gH;subst this;obtain⟨eG,gt⟩:=Uz (phx:=phx) (B:=B) (H:=view w M) cW hi R l9;exact⟨rfl,_,key (o:=0) (jr.1 bw).2 eG,gt⟩
 |_=>cases h
end
end Yp
namespace Yp
open Go
def hS:=@List.take_of_length_le
def ko:=@List.length_set
def te:=@List.ext_getElem?
def BH:=@Nat.add_sub_cancel_left
def JQ:=@Array.getElem?_modify
def E5:=@List.getElem?_set
def JK:=@List.getElem?_drop
def O4:=@Nat.lt_or_gt_of_ne
variable {P:Program}
structure JF(w w':World)(b:Nat)(ob:Obj):Prop where
 os:w'.os=w.os
 tape:w'.tape=w.tape
 output:w'.output=w.output
 size:w'.heap.size=w.heap.size
 iQ:w'.heap[b]?=some ob
 other:∀j,j≠b->w'.heap[j]?=w.heap[j]?
def hC(cs:List Value)(o:Nat)(vs:List Value):List Value:=cs.take o++vs++cs.drop (o+vs.length)
def Ea{cs:List Value}{vs:List Value}(h:o+vs.length<=cs.length):(hC cs o vs).length=cs.length:=by simp[hC];omega
def x?{cs:List Value}{vs:List Value}(h:o+vs.length<=cs.length)(i:Nat):
  (hC cs o vs)[i]?=if i<o then cs[i]? else if i<o+vs.length then vs[i-o]? else cs[i]?:=by
 unfold hC
 grind
def Ig{b:Nat}{el:TypeId}{fz:Nat×Nat}{o:Nat}:∀(vs:List Value) (i:Nat) (c:Array Value) (w:World),w.heap[b]?=some (.cells c el fz)->h4 c fz ->
  o+i+vs.length<=c.size->(∀v∈vs,v.oneCell'=true) ->
  ∃w',(storeCells ⟨b,o,none⟩ vs i).run P w=.ok () w'/\∃cK:Array Value,JF w w' b (.cells cK el fz)/\cK.toList=hC c.toList (o+i) vs
 |[],i,c,w,Y,_,_,_=>⟨w,rfl,c,⟨rfl,rfl,rfl,rfl,Y,λ_ _=>rfl⟩,by simp[hC]⟩
 |v::vs,i,c,w,Y,hf,aj,O=>by
  have bm:o+i<c.size:=by simp at aj;omega
  have hcell:w.cell? ⟨b,o+i,none⟩=some c[o+i]:=by rw[Fy Y];exact yS bm
  have Gx:=hf.no;have xm:w.frozen? ⟨b,o+i,none⟩=false:=by have:=Gx (o+i) bm;simp only[World.frozen?,Y];simp;omega
  have nj:(w.setCell ⟨b,o+i,none⟩ v).heap[b]?=some (.cells (c.setIfInBounds (o+i) v) el fz):=by simp[World.setCell,JQ,Y]
  have eL:(store ((⟨b,o,none⟩:Addr).add i) v).run P w=.ok () (w.setCell ⟨b,o+i,none⟩ v):=by rw[qd,run_store P w _ v _ (O v bh),hcell,xm];rfl
  obtain⟨w',R,cK,af,aq⟩:=Ig (o:=o) vs (i+1) (c.setIfInBounds (o+i) v) (w.setCell ⟨b,o+i,none⟩ v) nj
   (hf.same bh) (by grind) (λu aL=>O u (by grind))
  refine⟨w',?_,cK,?_,?_⟩
  .unfold storeCells
   simp[eL,R]
  .refine⟨af.os,af.tape,af.output,af.size.trans bh,af.iQ,λj an=>(af.other j an).trans ?_⟩
   simp[World.setCell,JQ,nI an]
  rw[aq];have kQ:=by simpa using aj
  apply te;intro j;rw[x? (by grind),x? kQ]
  grind
def agv{c1 c2:List Value}{vs:List Value}(h:o+vs.length<=c1.length):hC (c1++c2) o vs=hC c1 o vs++c2:=by
 unfold hC
 grind
def agw{c1 c2:List Value}{vs:List Value}:hC (c1++c2) (c1.length+o) vs=c1++hC c2 o vs:=by unfold hC;rw[List.take_append,List.drop_append,hS J];simp[ju,BH]
def agu{cs vs:List Value}(h:vs.length=cs.length):hC cs 0 vs=vs:=by simp[hC,h]
def IF{cs vs:List Value}(h:o+vs.length<=cs.length)(aF:a+n<=o\/o+vs.length<=a):((hC cs o vs).drop a).take n=(cs.drop a).take n:=by
 apply te;intro j;simp only[EK,JK];split
 .rename_i an
  rw[x? h];split
  .rfl
  split
  .omega
  rfl
 rfl
def NJ{cs vs:List Value}(h:a+o+vs.length<=cs.length)(aF:o+vs.length<=n):((hC cs (a+o) vs).drop a).take n=hC ((cs.drop a).take n) o vs:=by
 apply te;intro j;have hl:o+vs.length<=((cs.drop a).take n).length:=fv;rw[x? hl];simp only[EK,JK];rw[x? h]
 grind
section
variable {phx:cc} {H:cg} {B:Nat->aQ}
def S_{l:List α}{x:α}(h:i<l.length):hO (cj l i x) i=some x:=by simp[hO,cj,h]
def S9{l:List α}{x:α}(h:j≠i):hO (cj l i x) j=hO l j:=by simp[hO,cj,E5,nI h]
def UK:∀{p:List mx} {pv u H0:au} {t t':ae} {off:Nat} {cs cu:List Value},e3 phx H B pv t cs->t.d? p=some (off,t')->mj pv p u=some H0->e3 phx H B u t' cu ->
  e3 phx H B H0 t (hC cs off cu):=by
 intro p;induction p with
 |nil=>
  intro pv u H0 t t' off cs cu h aK ac aL;have:t=t'/\off=0:=by cases t<;>simp only[ae.d?,km,kH]at aK<;>exact⟨aK.2,aK.1.symm⟩
  obtain⟨rfl,rfl⟩:=this;have:u=H0:=by cases pv<;>simp only[mj,km]at ac<;>exact ac
  subst this;rw[agu (by rw[aL.length,h.length])];exact aL
 |cons s p ih=>
  intro pv u H0 t t' off cs cu h aK ac aL;cases s with
  |fst=>
   cases t<;>try(cases aK;done)
   rename_i a b;have bY:=uf (t:=a) aK;cases pv<;>try(cases ac;done)
   .rename_i s x
    obtain⟨eL,hx⟩:=h;subst eL;obtain⟨c1,c2,rfl,O,R⟩:=aH.mh.1 hx;simp only[mj,k4]at ac;obtain⟨q,a2,rfl⟩:=ac;rw[agv (by rw[aL.length,O.length];exact bY)];exact⟨_,_,rfl,ih (pv:=.sc a x.1) (t:=a) ⟨rfl,O⟩ aK a2 aL,rfl,R⟩
   rename_i rL yq;obtain⟨c1,c2,rfl,O,R⟩:=h;simp only[mj,k4]at ac;obtain⟨q,a2,rfl⟩:=ac;rw[agv (by rw[aL.length,O.length];exact bY)];exact⟨_,_,rfl,ih O aK a2 aL,R⟩
  |snd=>
   cases t<;>try(cases aK;done)
   rename_i a b;simp only[ae.d?,k4]at aK;obtain⟨r,ah,aA⟩:=aK;cases aA;cases pv<;>try(cases ac;done)
   .rename_i s x
    obtain⟨eL,hx⟩:=h;subst eL;obtain⟨c1,c2,rfl,O,R⟩:=aH.mh.1 hx;simp only[mj,k4]at ac;obtain⟨q,a2,rfl⟩:=ac;rw[<- O.length,agw];exact⟨_,_,rfl,⟨rfl,O⟩,ih (pv:=.sc b x.2) (t:=b) ⟨rfl,R⟩ ah a2 aL⟩
   rename_i rL yq;obtain⟨c1,c2,rfl,O,R⟩:=h;simp only[mj,k4]at ac;obtain⟨q,a2,rfl⟩:=ac;rw[<- O.length,agw];exact⟨_,_,rfl,O,ih R ah a2 aL⟩
  |ix i=>
   cases t<;>try(cases aK;done)
   rename_i n e;simp only[ae.d?]at aK;split at aK
   .rename_i hi
    simp only[k4]at aK;obtain⟨r,ah,aA⟩:=aK;cases aA;have bY:=uf (t:=e) (off:=r.1) (t':=r.2) ah;cases pv<;>try(cases ac;done)
    rename_i s x;obtain⟨eL,hx⟩:=h;subst eL;obtain⟨O,R,af⟩:=aH.uY.1 hx;have O:(x:List e.aD).length=n:=O;simp only[mj]at ac;generalize a2:mj (.sc e (ak (x:List e.aD) i e.zero)) p u=q at ac;cases q with
    |none=>cases ac
    |some q=>
     simp only[k4]at ac;obtain⟨y,hy,rfl⟩:=ac;have bm:i<(x:List e.aD).length:=J;have abS:=aL.length;have le:(i+1)*e.size<=n*e.size:=iq _ hi;rw[fJ]at le;have hK:i*e.size+r.1+cu.length<=cs.length:=J;have aq:=ih (pv:=.sc e (ak (x:List e.aD) i e.zero)) (t:=e) ⟨rfl,af i _ (Ad bm)⟩ ah a2 aL;have a8:=rI hy aq;refine⟨rfl,(aH.BW (l:=cj (x:List e.aD) i y)).2 ⟨(ko (as:=(x:List e.aD))).trans O,by rw[Ea hK,R],λj z an => ?_⟩⟩;by_cases dK:j=i
     .subst dK
      rw[S_ bm]at an;cases an;rw[NJ hK J];exact a8
     have an:hO (x:List e.aD) j=some z:=(S9 (l:=(x:List e.aD)) dK).symm.trans an;rw[IF hK]
     .exact af j z an
     rcases O4 dK with h|h
     .have:=iq e.size (show j+1<=i from h)
      rw[fJ]at this;left;omega
     have:=iq e.size (show i+1<=j from h);rw[fJ]at this;right;omega
   cases aK
end
end Yp
namespace Yp
open Go
variable {P:Program}
section
variable {K:Kp} {w0 w:World} {phx:cc} {M:Nat->Prop} {B B':Nat->aQ} {g:Nat->au}
def hu.slice{id:Nat}{e:ae}{len:Nat}{v:Value}(h:hu phx id e off len v):∃a c,v=.slice a len c:=by rcases h with⟨rfl,a,rfl⟩|⟨b,o,n,cap,_,rfl,_⟩<;>exact⟨_,_,rfl⟩
def K3{t:ae}{v:au}{ck:Value}{H:cg}(h:(sd t v).aX g B=some ((),B'))(ah:a? phx H B v ck):B'=B/\∃cu,ck.cells.toList=cu/\e3 phx H B (ye v) t cu:=by
 cases v<;>try(cases h)
 case kb b =>obtain⟨hi,aB⟩:=kD h;have:=eD hi;subst this;subst ah;exact⟨aB,[.bool b],rfl,rfl,aH.nP.2 rfl⟩
 case sc s x =>obtain⟨hi,aB⟩:=kD h;have:=eD hi;subst this;obtain⟨cs,O,rfl⟩:=ah;exact⟨aB,cs,by rw[Hv O],rfl,O⟩
 case nil=>
  cases t<;>try(cases h;done)
  cases h;subst ah;exact⟨rfl,_,rfl,rfl,_,rfl,rfl,rfl⟩
 case csl e l =>obtain⟨hi,aB⟩:=kD h;have:=eD hi;subst this;obtain⟨a,O,R⟩:=ah;exact⟨aB,[ck],by subst O;rfl,rfl,ck,rfl,by subst O;rfl,a,O,R⟩
 case agg s x =>obtain⟨hi,aB⟩:=kD h;have:=eD hi;subst this;obtain⟨bu,cs,O,rfl⟩:=ah;exact⟨aB,cs,rfl,O⟩
 case own id d'=>
  simp only[sd,aw.aX]at h;have gD:bM phx H B (.own id d') ck:=ah;have ac:=gD;simp only[bM]at ac;generalize aB:B id=bl at h ac;cases bl<;>try(cases h)
  all_goals
   obtain⟨hi,ne⟩:=kD h;have:=eD hi;subst this;obtain⟨a,c,rfl⟩:=ac.1.slice;exact⟨ne,_,rfl,rfl,_,rfl,rfl,gD⟩
 case osl id off n=>
  simp only[sd,aw.aX]at h;have gD:bM phx H B (.osl id off n) ck:=ah;have ac:=gD;simp only[bM]at ac;generalize aB:B id=bl at h ac;cases bl<;>try(cases h)
  case box t' v=>
   cases t'<;>try(cases h)
   obtain⟨hi,ne⟩:=kD h;have:=eD hi;subst this;obtain⟨a,c,rfl⟩:=ac.2.2.slice;exact⟨ne,_,rfl,rfl,_,rfl,rfl,gD⟩
  all_goals
   obtain⟨hi,ne⟩:=kD h;have:=eD hi;subst this;obtain⟨a,c,rfl⟩:=(by first|exact ac.2.slice|exact ac.2.1.slice:∃a c,ck=.slice a n c);exact⟨ne,_,rfl,rfl,_,rfl,rfl,gD⟩
 case ptr id p=>
  simp only[sd,aw.aX]at h;have gD:bM phx H B (.ptr id p) ck:=ah;have ac:=gD;simp only[bM]at ac;generalize aB:B id=bl at h ac;cases bl<;>try(cases h)
  obtain⟨hi,ne⟩:=kD h;have:=eD hi;subst this;obtain⟨b,o,n,off,t',_,_,rfl⟩:=ac;exact⟨ne,_,rfl,rfl,_,rfl,by simp[Value.oneCell'],gD⟩
 case mpp id=>
  simp only[sd,aw.aX]at h;have gD:bM phx H B (.mpp id) ck:=ah;have ac:=gD;simp only[bM]at ac;generalize aB:B id=bl at h ac;cases bl<;>try(cases h)
  obtain⟨hi,ne⟩:=kD h;have:=eD hi;subst this;obtain⟨b,_,rfl⟩:=ac;exact⟨ne,_,rfl,rfl,_,rfl,by simp[Value.oneCell'],gD⟩
 case ifc i s x =>obtain⟨hi,aB⟩:=kD h;have:=eD hi;subst this;have gD:=ah;obtain⟨cs,O,rfl⟩:=ah;exact⟨aB,_,rfl,rfl,_,rfl,by simp[Value.oneCell'],gD⟩
 case clo f dQ cV=>
  obtain⟨hi,aB⟩:=kD h;have ht:t.isAgg=false:=by
   unfold ach at hi;split at hi
   .rfl
   .rfl
   cases hi
  have gD:=ah;obtain⟨vs,O,rfl⟩:=ah;exact⟨aB,_,rfl,by exact⟨ht,_,rfl,by simp[Value.oneCell'],gD⟩⟩
def afb{t:ae}{tid:TypeId}(h:(cO P t).1 tid){c:Array Value}{el:TypeId}{fz:Nat×Nat}(Y:w.heap[b]?=some (.cells c el fz))(hf:h4 c fz)
  {v:Value} {cu:List Value} (aC:v.cells.toList=cu) (hl:cu.length=t.size) (O:∀v∈cu,v.oneCell'=true) (aj:o+t.size<=c.size) :
  ∃w',(storeVar tid ⟨b,o,none⟩ v).run P w=.ok () w'/\∃cK:Array Value,JF w w' b (.cells cK el fz)/\cK.toList=hC c.toList o cu:=by
 obtain⟨w',R,cK,af,aq⟩:=Ig (P:=P) (b:=b) (el:=el) (fz:=fz) (o:=o) cu 0 c w Y hf J O;refine⟨w',?_,cK,af,by simpa using aq⟩;unfold storeVar;have cP:v.cells.size=t.size:=by rw[<- hl,<- aC];simp
 simp[od h,cP,aC,R]
theorem rF(c:Array Value)(o n:Nat):cF c o n=(c.toList.drop o).take n:=rfl
def e4.put{H:cg}{e:ae}{l:List e.aD}{c cK:Array Value}{y:e.aD}{cu:List Value}(h:e4 H e l c o)(hi:i<l.length)(Sk:off+cu.length<=e.size)
  (ai:cK.toList=hC c.toList (o+i*e.size+off) cu) (hy:aH H e y (hC (cF c (o+i*e.size) e.size) off cu)):cK.size=c.size/\e4 H e (cj l i y) cK o:=by
 have O:=h.1;have le:(i+1)*e.size<=l.length*e.size:=iq _ hi;rw[fJ]at le;have hK:o+i*e.size+off+cu.length<=c.toList.length:=fv;have cP:cK.size=c.size:=by have:=congrArg List.length ai;rw[Ea hK]at this;omega
 refine⟨cP,by simp only[cj,ko];omega,λj z an => ?_⟩;by_cases dK:j=i
 .subst dK
  rw[S_ hi]at an;cases an;rw[rF,ai,NJ J Sk];exact hy
 rw[S9 dK]at an;rw[rF,ai,IF hK]
 .exact h.2 j z an
 rcases O4 dK with h|h
 .have:=iq e.size (show j+1<=i from h)
  grind
 have:=iq e.size (show i+1<=j from h)
 grind
def agE{t:ae}{tid:TypeId}(ht:(cO P t).1 tid){a v r:au}{ck s9:Value}(h:(IJ t a v).aX g B=some (r,B'))(hm:Mem K w0 phx M B w)
  (dP:a? phx (view w M) B a ck) (zO:a? phx (view w M) B v s9) :
  r=.undef/\∃w' ay,(Instr.storeAt tid ck s9).run P w=.ok () w'/\Mem K w0 phx ay B' w'/\cm phx M B w phx ay B' w':=by
 cases a with
 |ptr id p=>
  simp only[IJ,aw.aX]at h;have Y:=hm.blks id;have ac:bM phx (view w M) B (.ptr id p) ck:=dP;simp only[bM]at ac;generalize aB:B id=bl at h Y ac;cases bl<;>try(cases h;done)
  rename_i rt u;obtain⟨b,o,n,off,t',O,R,rfl⟩:=ac;obtain⟨b',di,c,el,fz,g1,bw,cW,gg,kw,si⟩:=Y;rw[O]at g1;cases g1;simp only[rq R]at h;generalize l9:mj u p (ye v)=q at h;cases q with
  |none=>cases h
  |some pv=>
   simp only at h;cases gH:ae.is t' t with
   |false=>rw[gH]at h;cases h
   |true=>
    rw[gH]at h;simp only[cond]at h;have:=eD gH;subst this;obtain⟨_,cR,hf,bL⟩:=aw.cy h;clear h;obtain⟨rfl,cu,lL,hT⟩:=K3 hf zO;cases bL;have bY:=uf R;obtain⟨w',bb,cK,hp,nf⟩:=afb (P:=P) (w:=w) ht (o:=o+off) bw kw lL hT.length hT.one J;have RP:=hT.length;have cP:cK.size=c.size:=by have:=congrArg List.length nf;rw[Ea fv]at this;simpa using this
    obtain⟨h?,jB⟩:=hm.put (id:=id) (x:=(b,o,c.size)) (w':=w') (by rw[aB];rfl) O si hp.os hp.tape hp.output hp.size hp.other (.box rt pv) (by rw[aB];rfl) λaA=>by refine⟨b,o,cK,el,fz,by rw[O,cP],hp.iQ,J,?_,kw.same J,si⟩;have sp:=aA.b8 (UK gg R l9 hT);rw[rF,nf,NJ fv J,<- rF];exact sp
    exact⟨rfl,w',M,by simp[Instr.storeAt,Instr.sureAddr,bb],h?,jB⟩
 |opt id i p=>
  simp only[IJ]at h;obtain⟨x,cR,hx,h⟩:=aw.cy h;obtain⟨cu,rfl,ft,ss,sr,_,_,lL⟩:=yk hx hm zO;have lL:=lL rfl;simp only[aw.aX]at h;have Y:=ss.blks id;have ac:bM phx (view w ft) cR (.opt id i p) ck:=sr.p dP;simp only[bM]at ac;generalize aB:cR id=bl at h Y ac;cases bl<;>try(cases h;done)
  rename_i e l;obtain⟨hi,b,o,n,off,t',O,R,rfl⟩:=ac;rcases Y with⟨dB,⟨g1,_⟩|⟨b',di,c,el,fz,g1,bw,cW,gg,kw⟩⟩
  .rw[g1]at O;cases O
  rw[O]at g1;cases g1;simp only[rq R]at h;cases gH:ae.is t' t with
  |false=>rw[gH]at h;cases h
  |true=>
   rw[gH]at h;simp only[cond]at h;have:=eD gH;subst this;generalize l9:mj (.sc e (ak l i e.zero)) p (.sc t' x)=q at h;cases q with
   |none=>cases h
   |some pv=>
    simp only at h;generalize hy:ie e pv=y at h;cases y with
    |none=>cases h
    |some y=>
     cases h;have bY:=uf R;have eB:=lL.length;have g31:=cW.1;have le:(i+1)*e.size<=l.length*e.size:=iq _ hi;rw[fJ]at le;obtain⟨w',bb,cK,hp,nf⟩:=afb (P:=P) (w:=w) ht (o:=o+i*e.size+off) (v:=ct t' cu) bw gg (by rw[Hv lL]) eB lL.one J;have tU:=cW.2 i _ (Ad (d:=e.zero) hi);have hT:=UK (phx:=phx) (H:=view w ft) (B:=cR) (pv:=.sc e (ak l i e.zero)) (t:=e) ⟨rfl,tU⟩ R l9 (cu:=cu) ⟨rfl,lL⟩;have ark:=rI hy hT;obtain⟨cP,d9⟩:=cW.put hi J nf ark;obtain⟨h?,jB⟩:=ss.put (id:=id) (x:=(b,o,c.size)) (w':=w') (by rw[aB];rfl) O kw hp.os hp.tape hp.output hp.size hp.other (.ob e (cj l i y)) (by rw[aB];exact⟨rfl,by simp[cj]⟩) λaA=>by exact⟨dB,.inr ⟨b,o,cK,el,fz,by rw[O,cP],hp.iQ,d9.mono aA.vw,gg.same cP,kw⟩⟩
     exact⟨rfl,w',ft,by simp[Instr.storeAt,Instr.sureAddr,bb],h?,sr.trans jB⟩
 |_=>cases h
def axw{t:ae}{tid:TypeId}(ht:(cO P t).1 tid){a v r:au}{ck s9:Value}(h:(U5 t a v).aX g B=some (r,B'))(hm:Mem K w0 phx M B w)
  (dP:a? phx (view w M) B a ck) (zO:a? phx (view w M) B v s9) :
  r=.undef/\∃w' ay,(Instr.storeAt tid ck s9).run P w=.ok () w'/\Mem K w0 phx ay B' w'/\cm phx M B w phx ay B' w':=by
 unfold U5 at h;cases aK:ad6 a v with
 |false=>rw[aK]at h;exact agE ht h hm dP zO
 |true =>rw[aK]at h;obtain⟨x,cR,hx,h⟩:=aw.cy h;obtain⟨cu,rfl,ft,ss,sr,_,_,lL⟩:=yk hx hm zO;obtain⟨O,w',ay,R,af,aq⟩:=agE ht h ss (sr.p dP) ⟨cu,lL rfl,rfl⟩;exact⟨O,w',ay,R,af,sr.trans aq⟩
end
end Yp
namespace Yp
open Go
def lZ:=@Option.some.inj
def td:=@Nat.add_zero
variable {P:Program}
section
variable {K:Kp} {w0 w:World} {phx:cc} {M:Nat->Prop} {B B':Nat->aQ} {g:Nat->au}
def Pj:∀{f:Nat} {t dV:ae},t.at (gd f)=some dV->∃d,t.d? (gd f)=some (d,dV):=by
 intro f;induction f with
 |zero=>
  intro t dV h;cases t<;>try(cases h)
  rename_i a b;have:a=dV:=by cases a<;>exact lZ h
  subst this;exact⟨0,by cases a<;>rfl⟩
 |succ f ih=>
  intro t dV h;cases t<;>try(cases h)
  rename_i a b;obtain⟨d,aF⟩:=ih (t:=b) h;exact⟨a.size+d,by simp only[gd,ae.d?,aF,EX]⟩
def Q1{t' cH:Option ae}(h:Cr t' cH f=true):∃s d dV,t'=some s/\cH=some s/\s.d? (gd f)=some (d,dV)/\0<dV.size:=by
 unfold Cr at h;split at h
 .rename_i a b
  simp at h;obtain⟨O,R⟩:=h;have:=eD O;subst this;split at R
  .rename_i dV apO
   obtain⟨d,aF⟩:=Pj apO;exact⟨a,d,dV,rfl,rfl,aF,by simpa using R⟩
  cases R
 cases h
def gx{c:Bool}{x:aw α}{r:α×(Nat->aQ)}(h:(bif c then x else .fail:aw α).aX g B=some r):c=true/\x.aX g B=some r:=by
 cases c with
 |true=>exact⟨rfl,h⟩
 |false=>cases h
def iK{c:Bool}{x:aw α}{r:α×(Nat->aQ)}(h:(aw.chk c x).aX g B=some r):c=true/\x.aX g B=some r:=by
 simp only[aw.aX]at h
 grind
def am3{cH:Option ae}{tid:TypeId}(ht:∀t,cH=some t->(cO P t).1 tid){a r:au}{ck:Value}(h:(KV cH f a).aX g B=some (r,B'))
  (dP:a? phx (view w M) B a ck):B'=B/\∃v,(Instr.fieldAt tid ck f).run P w=.ok v w/\a? phx (view w M) B r v:=by
 cases a with
 |ptr id p=>
  simp only[KV,aw.aX]at h;have ac:bM phx (view w M) B (.ptr id p) ck:=dP;simp only[bM]at ac;generalize aB:B id=bl at h ac;cases bl<;>try(cases h)
  obtain⟨b,o,n,off,t',O,R,rfl⟩:=ac;replace h:=gx h;obtain⟨ai,h⟩:=h;cases h;obtain⟨s,d,dV,e1,aN,dJ,gQ⟩:=Q1 ai;rw[rq R]at e1;cases e1;refine⟨rfl,_,UC (ht _ aN) dJ gQ b (o+off) w,?_⟩;simp only[a?,dZ,bM,aB];exact⟨b,o,n,off+d,dV,O,Dv R dJ,by rw[ju]⟩
 |ipt e l i p =>obtain⟨hi,b,o,cap,off,t',O,R,rfl⟩:=(dP:bM phx (view w M) B (.ipt e l i p) ck);replace h:=gx h;obtain⟨ai,h⟩:=h;cases h;obtain⟨s,d,dV,e1,aN,dJ,gQ⟩:=Q1 ai;rw[rq R]at e1;cases e1;exact⟨rfl,_,UC (ht _ aN) dJ gQ b _ w,hi,b,o,cap,off+d,dV,O,Dv R dJ,by rw[ju]⟩
 |opt id i p=>
  simp only[KV,aw.aX]at h;have ac:bM phx (view w M) B (.opt id i p) ck:=dP;simp only[bM]at ac;generalize aB:B id=bl at h ac;cases bl<;>try(cases h)
  all_goals
   obtain⟨hi,b,o,n,off,t',O,R,rfl⟩:=ac;replace h:=gx h;obtain⟨ai,h⟩:=h;cases h;obtain⟨s,d,dV,e1,aN,dJ,gQ⟩:=Q1 ai;rw[rq R]at e1;cases e1;refine⟨rfl,_,UC (ht _ aN) dJ gQ b _ w,?_⟩;simp only[a?,dZ,bM,aB];exact⟨hi,b,o,n,off+d,dV,O,Dv R dJ,by rw[ju]⟩
 |_=>cases h
def Pe{t':Option ae}{fW:ae}{i:Int}{v r:au}(h:(BX t' fW i v).aX g B=some (r,B')):B'=B/\r=v/\∃n e,fW=.ar n e/\t'=some (.ar n e)/\0<e.size/\0<=i/\i<n:=by
 unfold BX at h;split at h
 .rename_i t' n e
  replace h:=gx h;obtain⟨ai,h⟩:=h;replace h:=iK h;obtain⟨hi,h⟩:=h;cases h;simp at ai;have:=eD ai.1;subst this;obtain⟨O,R⟩:=zX.1 hi;exact⟨rfl,rfl,n,e,rfl,rfl,ai.2,O,R⟩
 cases h
def TI{e:ae}(h:i<n):(ae.ar n e).d? [.ix i]=some (i*e.size,e):=by simp only[ae.d?,if_pos h];rfl
def UD{e:ae}{tid:TypeId}(ht:(cO P (.ar n e)).1 tid){k:IntKind}{i:Int}(ao:0<=i)(O:i<n)(b o:Nat)(w:World):
  (Instr.indexAt tid (.pointer (some ⟨b,o,none⟩)) (.int k i)).run P w=.ok (.pointer (some ⟨b,o+i.toNat*e.size,none⟩)) w:=by
 obtain⟨⟨bc,aL,aA⟩,_⟩:=ht;have bj:=od aA w;simp[Instr.indexAt,asIntOf,run_underlying aL,Instr.sureAddr,ao,O,bj,qd]
def Id{e:ae}{tid:TypeId}(ht:(cO P (.sl e)).1 tid){k:IntKind}{i:Int}{cap:Nat}(ao:0<=i)(O:i<n)(b o:Nat)(w:World):
  (Instr.indexAt tid (.slice (some ⟨b,o,none⟩) n cap) (.int k i)).run P w=.ok (.pointer (some ⟨b,o+i.toNat*e.size,none⟩)) w:=by
 obtain⟨⟨bc,aL,aA⟩,_⟩:=ht;have bj:=od aA w;simp[Instr.indexAt,asIntOf,run_underlying aL,ao,O,bj,qd]
def Ms(e:ae):e.d? []=some (0,e):=by cases e<;>rfl
def axa{H:cg}{e:ae}{l:List e.aD}{v:Value}(h:aH H (.sl e) l [v])(aj:l≠[]):∃b o cap,v=.slice (some ⟨b,o,none⟩) l.length cap:=by
 obtain⟨a,cap,O,_,_,R⟩:=aH.ic.1 h
 grind
def acl{H:cg}{e:ae}{l:List e.aD}{v:Value}(h:aH H (.sl e) l [v]){tid:TypeId}(ht:(cO P (.sl e)).1 tid){k:IntKind}{i:Int}(hi:aU i (len l)=true)(w:World):
  ∃r,(Instr.indexAt tid v (.int k i)).run P w=.ok r w/\a? phx H B (.ipt e l (aa i) []) r:=by
 obtain⟨ao,O⟩:=zX.1 hi;have O:i<(l.length:Int):=O;have bm:i.toNat<l.length:=J;obtain⟨b,o,cap,rfl⟩:=axa h (λe=>by subst e;simp at bm);exact⟨_,Id ht ao O b o w,bm,b,o,cap,0,e,h,Ms e,rfl⟩
def aeb{id:Nat}{e:ae}{v:Value}(h:hu phx id e off n v)(aj:0<n):∃b o m cap,phx id=some (b,o,m)/\v=.slice (some ⟨b,o+off*e.size,none⟩) n cap:=by
 rcases h with⟨h,_⟩|⟨b,o,m,cap,O,R,_⟩
 .omega
 grind
def ady:∀{n i:Nat},i<n->(mq n).d? (gd i)=some (i,.op 3)
 |n+1,0,_=>rfl
 |n+1,i+1,h=>by
  have:=ady (n:=n) (i:=i) J;simp only[mq,gd,ae.d?,this,EX,ae.size]
  grind
def arJ{fW:ae}{tid:TypeId}(ht:(cO P fW).1 tid){a r:au}{ck:Value}{k:IntKind}{i:Int}(h:(xu fW a i).aX g B=some (r,B'))
  (dP:a? phx (view w M) B a ck):B'=B/\∃v,(Instr.indexAt tid ck (.int k i)).run P w=.ok v w/\a? phx (view w M) B r v:=by
 cases a with
 |sc t l=>
  cases fW<;>try(cases h)
  rename_i e;simp only[xu]at h;replace h:=aw.cy h;obtain⟨y,cR,O,h⟩:=h;obtain⟨ai,rfl⟩:=dE O;obtain⟨bC,rfl⟩:=u0 ai;subst bC;replace h:=iK h;obtain⟨hi,h⟩:=h;cases h;obtain⟨cs,cv,rfl⟩:=dP;obtain⟨a,cap,rfl,_⟩:=aH.x_.1 cv;exact⟨rfl,acl cv ht hi w⟩
 |csl e l =>replace h:=gx h;obtain⟨ai,h⟩:=h;have:=eD ai;subst this;replace h:=iK h;obtain⟨hi,h⟩:=h;cases h;obtain⟨a,_,cv⟩:=dP;exact⟨rfl,acl cv ht hi w⟩
 |own id d'=>
  simp only[xu,aw.aX]at h;have ac:bM phx (view w M) B (.own id d') ck:=dP;simp only[bM]at ac;generalize aB:B id=bl at h ac;cases bl<;>try(cases h)
  all_goals
   replace h:=gx h;obtain⟨ai,h⟩:=h;have:=eD ai;subst this;replace h:=iK h;obtain⟨hi,h⟩:=h;cases h;obtain⟨ao,O⟩:=zX.1 hi;rename_i e l;have O:i<(l.length:Int):=O;obtain⟨b,o,m,cap,g1,rfl⟩:=aeb ac.1 J;refine⟨rfl,_,Id ht ao O b _ w,?_⟩;simp only[a?,dZ,bM,aB];exact⟨by unfold aa;omega,b,o,m,0,e,g1,Ms e,by simp[aa]⟩
 |osl id off n=>
  simp only[xu,aw.aX]at h;have ac:bM phx (view w M) B (.osl id off n) ck:=dP;simp only[bM]at ac;generalize aB:B id=bl at h ac;cases bl<;>try(cases h)
  all_goals
   replace h:=gx h;obtain⟨ai,h⟩:=h;have:=eD ai;subst this;replace h:=iK h;obtain⟨hi,h⟩:=h;cases h;obtain⟨ao,O⟩:=zX.1 hi;rename_i e l;have O:i<(n:Int):=O;obtain⟨b,o,m,cap,g1,rfl⟩:=aeb (by first|exact ac.2|exact ac.2.1:hu phx id e off n ck) J;refine⟨rfl,_,Id ht ao O b _ w,?_⟩;simp only[a?,dZ,bM,aB];exact⟨by unfold bQ aa;omega,b,o,m,0,e,g1,Ms e,by simp only[aa,bQ,fJ,td,ju]⟩
 |ptr id p=>
  simp only[xu,aw.aX]at h;have ac:bM phx (view w M) B (.ptr id p) ck:=dP;simp only[bM]at ac;generalize aB:B id=bl at h ac;cases bl<;>try(cases h)
  obtain⟨b,o,n,off,t',O,R,rfl⟩:=ac;obtain⟨ne,rfl,m,e,rfl,aN,dJ,gQ,oI⟩:=Pe h;rw[rq R]at aN;cases aN;refine⟨ne,_,UD ht gQ oI b (o+off) w,?_⟩;simp only[a?,dZ,bM,aB];exact⟨b,o,n,off+(aa i)*e.size,e,O,Dv R (TI (by unfold aa;omega)),by rw[ju];rfl⟩
 |ipt e l j p =>obtain⟨hi,b,o,cap,off,t',O,R,rfl⟩:=(dP:bM phx (view w M) B (.ipt e l j p) ck);obtain⟨ne,rfl,m,bC,rfl,aN,dJ,gQ,oI⟩:=Pe h;rw[rq R]at aN;cases aN;exact⟨ne,_,UD ht gQ oI b _ w,hi,b,o,cap,off+(aa i)*bC.size,bC,O,Dv R (TI (by unfold aa;omega)),by rw[ju (o+j*e.size)];rfl⟩
 |opt id j p=>
  simp only[xu,aw.aX]at h;have ac:bM phx (view w M) B (.opt id j p) ck:=dP;simp only[bM]at ac;generalize aB:B id=bl at h ac;cases bl<;>try(cases h)
  all_goals
   rename_i e l;obtain⟨hi,b,o,n,off,t',O,R,rfl⟩:=ac;obtain⟨ne,rfl,m,bC,rfl,aN,dJ,gQ,oI⟩:=Pe h;rw[rq R]at aN;cases aN;refine⟨ne,_,UD ht gQ oI b _ w,?_⟩;simp only[a?,dZ,bM,aB];exact⟨hi,b,o,n,off+(aa i)*bC.size,bC,O,Dv R (TI (by unfold aa;omega)),by rw[ju (o+j*e.size)];rfl⟩
 |psl id n=>
  simp only[xu,aw.aX]at h;have ac:bM phx (view w M) B (.psl id n) ck:=dP;simp only[bM]at ac;generalize aB:B id=bl at h ac;cases bl<;>try(cases h)
  replace h:=gx h;obtain⟨ai,h⟩:=h;have:=eD ai;subst this;replace h:=iK h;obtain⟨hi,h⟩:=h;cases h;obtain⟨ao,O⟩:=zX.1 hi;have O:i<(n:Int):=O;obtain⟨rfl,b,o,m,cap,g1,rfl⟩:=ac;refine⟨rfl,_,Id ht ao O b _ w,?_⟩;simp only[a?,dZ,bM,aB];exact⟨b,o,m,aa i,.op 3,g1,ady (by unfold aa;omega),by simp[aa,ae.size]⟩
 |_=>cases h
end
end Yp
namespace Yp
open Go
def k3:=@List.length_eq_zero_iff
def jv:=@Nat.zero_add
def m3:=@Array.ext'
def JO:=@Int.max_eq_left
variable {P:Program}
section
variable {K:Kp} {w0 w:World} {phx:cc} {M:Nat->Prop} {B B':Nat->aQ} {g:Nat->au}
def a?.uc(H:cg)(n:Nat):a? phx H B (Yp.int (n:Int)) (goInt n):=a?.sH phx H B .i64 (n:Int)
def asz{fW:ae}{tid:TypeId}(ht:(cO P fW).1 tid){a r:au}{ck:Value}(h:(Hq fW a).aX g B=some (r,B'))(dP:a? phx (view w M) B a ck)
  {eg:Array TypeId} (ao:eg[0]?=some tid) (ty:TypeId):B'=B/\∃v,(Builtin.len_ eg ty #[ck]).run P w=.ok v w/\a? phx (view w M) B r v:=by
 have go:∀{n c:Nat} {ad:Option Addr} {e:ae},(cO P (.sl e)).1 tid->(Builtin.len_ eg ty #[.slice ad n c]).run P w=.ok (goInt n) w:=by intro n c ad e hf;obtain⟨⟨bc,aL,_⟩,_⟩:=hf;simp[Builtin.len_,ao,run_underlying aL]
 cases fW<;>try(cases h;done)
 case str=>
  cases a<;>try(cases h)
  rename_i t x;cases t<;>try(cases h;done)
  cases h;rw[dP.str];exact⟨rfl,_,by simp[Builtin.len_,ao,run_underlying ht.1];rfl,a?.uc _ (x:List UInt8).length⟩
 case ar n e =>cases h;obtain⟨⟨bc,aL,_⟩,_⟩:=ht;exact⟨rfl,goInt n,by simp[Builtin.len_,ao,run_underlying aL],a?.uc _ n⟩
 case sl e=>
  cases a<;>try(cases h;done)
  case sc t x=>
   cases t<;>try(cases h;done)
   cases h;obtain⟨cs,cv,rfl⟩:=dP;obtain⟨ad,cap,rfl,_⟩:=aH.x_.1 cv;exact⟨rfl,_,go ht,a?.uc _ _⟩
  case csl bC l =>cases h;obtain⟨ad,rfl,_⟩:=dP;exact⟨rfl,_,go ht,a?.uc _ _⟩
  case nil =>cases h;subst dP;exact⟨rfl,_,go ht,a?.uc _ 0⟩
  case own id d'=>
   simp only[Hq,aw.aX]at h;have ac:bM phx (view w M) B (.own id d') ck:=dP;simp only[bM]at ac;generalize aB:B id=bl at h ac;cases bl<;>try(cases h;done)
   all_goals
    cases h;obtain⟨ad,c,rfl⟩:=ac.1.slice;exact⟨rfl,_,go ht,a?.uc _ _⟩
  case psl id n=>
   simp only[Hq,aw.aX]at h;have ac:bM phx (view w M) B (.psl id n) ck:=dP;simp only[bM]at ac;generalize aB:B id=bl at h ac;cases bl<;>try(cases h;done)
   cases h;obtain⟨_,b,o,m,cap,_,rfl⟩:=ac;exact⟨rfl,_,go ht,a?.uc _ _⟩
  case osl id off n=>
   simp only[Hq,aw.aX]at h;have ac:bM phx (view w M) B (.osl id off n) ck:=dP;simp only[bM]at ac;generalize aB:B id=bl at h ac;cases bl<;>try(cases h;done)
   all_goals
    cases h;obtain⟨ad,c,rfl⟩:=(by first|exact ac.2.slice|exact ac.2.1.slice:∃a c,ck=.slice a n c);exact⟨rfl,_,go ht,a?.uc _ _⟩
def DW{t:ae}{tid:TypeId}(h:(cO P t).1 tid){cs:Array Value}(aj:off+t.size<=cs.size)(w:World):(part tid cs off).run P w=.ok (ct t (cF cs off t.size)) w:=by
 unfold part;cases bu:t.isAgg with
 |true=>
  have aA:cs.extract off (off+t.size)=(cF cs off t.size).toArray:=by apply m3;simp[cF]
  simp[M? h,bu,od h,ct,aA]
 |false=>
  have O:=agi bu;have bm:off<cs.size:=J;have ac:cF cs off 1=[cs[off]]:=by
   have hl:=pW (c:=cs) (o:=off) (n:=1) J;have hg:=ux (c:=cs) (o:=off) (n:=1) (i:=0) J;match aqT:cF cs off 1,hl,hg with
   |[x],_,hg=>simp[bm]at hg;rw[hg]
  simp[M? h,bu,yS bm,ct,O,ac]
def am8{E:da}(hT:mV P E.b8){tid:TypeId}{a r:au}{ck:Value}(h:(Q2 E tid f a).aX g B=some (r,B'))(dP:a? phx (view w M) B a ck):
  B'=B/\∃v,(Instr.field tid ck f).run P w=.ok v w/\a? phx (view w M) B r v:=by
 unfold Q2 at h;cases ht:E.b8 tid with
 |none=>rw[ht]at h;cases h
 |some t=>
  rw[ht]at h;have hf:=hT _ _ ht;obtain⟨_,cR,O,bL⟩:=aw.cy h;obtain⟨rfl,cu,lL,sp⟩:=K3 O dP;cases xi:t.at (gd f) with
  |none=>rw[xi]at bL;cases bL
  |some dV=>
   cases hg:iN (ye a) (gd f) with
   |none=>rw[xi,hg]at bL;cases bL
   |some v=>
    rw[xi,hg]at bL;cases bL;obtain⟨d,aK⟩:=Pj xi;obtain⟨e_,fd,g1,bw,cW,gg⟩:=ZP hf aK;have bY:=uf aK;have hl:=sp.length;have i1:t.isAgg=true:=by cases f<;>cases t<;>first|rfl|cases aK
    have aoX:ck=.agg cu.toArray:=by
     cases a<;>try(cases O)
     case kb b=>obtain⟨hi,_⟩:=kD O;have:=eD hi;subst this;cases i1
     case nil=>cases t<;>first|cases i1;done|cases O
     case csl e l=>obtain⟨hi,_⟩:=kD O;have:=eD hi;subst this;cases i1
     case own id d'=>
      simp only[sd,aw.aX]at O;generalize B' id=bl at O;cases bl<;>try(cases O)
      all_goals
       obtain⟨hi,_⟩:=kD O;have:=eD hi;subst this;cases i1
     case osl id off n=>
      simp only[sd,aw.aX]at O;generalize B' id=bl at O;cases bl<;>try(cases O)
      case box t' _=>
       cases t'<;>try(cases O)
       obtain⟨hi,_⟩:=kD O;have:=eD hi;subst this;cases i1
      all_goals
       obtain⟨hi,_⟩:=kD O;have:=eD hi;subst this;cases i1
     case sc s x =>obtain⟨hi,_⟩:=kD O;have:=eD hi;subst this;obtain⟨cs,bG,rfl⟩:=dP;rw[Hv bG]at lL;simp only[ct,i1,if_true];rw[<- lL]
     case agg s x =>obtain⟨_,cs,bG,rfl⟩:=dP;simp only[Value.cells]at lL;rw[<- lL]
     case ptr id p=>cases f<;>cases hg
     case mpp id=>cases f<;>cases hg
     case ifc i s x=>cases f<;>cases hg
     case clo u4 dQ cV=>cases f<;>cases hg
    subst aoX;refine⟨rfl,ct dV (cF cu.toArray d dV.size),?_,Bt (Rp sp aK hg)⟩;have hp:=DW (P:=P) gg (cs:=cu.toArray) (off:=d) fv w;simp[Instr.field,run_underlying g1,bw,asAgg,cW,hp]
def arK{e:ae}{tid:TypeId}(ht:(cO P (.ar n e)).1 tid){a r:au}{ck:Value}{i:Int}(h:(G8 (.ar n e) a i).aX g B=some (r,B'))(dP:a? phx (view w M) B a ck)(k:IntKind):
  B'=B/\∃v,(Instr.index tid ck (.int k i)).run P w=.ok v w/\a? phx (view w M) B r v:=by
 have bL:((aw.opt (ie (.ar n e) a)).bind λl=>.chk (aU i (bf n)) (.ret (.sc e (ak (l:List e.aD) (aa i) e.zero)))).aX g B=some (r,B'):=by
  unfold G8 at h;split at h
  .cases h
  exact h
 obtain⟨l,cR,O,R⟩:=aw.cy bL;obtain⟨aF,rfl⟩:=dE O;obtain⟨hi,R⟩:=iK R;cases R;obtain⟨cs,cv,rfl⟩:=nA aF dP;obtain⟨bG,b_,co⟩:=aH.uY.1 cv;have bG:(l:List e.aD).length=n:=bG;obtain⟨⟨bc,aL,aA⟩,_⟩:=ht;obtain⟨ao,O⟩:=zX.1 hi;have O:i<(n:Int):=O;have bm:i.toNat<(l:List e.aD).length:=J;have bj:=od aA w;have le:(i.toNat+1)*e.size<=n*e.size:=iq _ J;rw[fJ]at le;have hp:=DW (P:=P) aA (cs:=cs.toArray) (off:=i.toNat*e.size) fv w;refine⟨rfl,ct e (cF cs.toArray (i.toNat*e.size) e.size),?_,?_⟩
 .simp[Instr.index,asIntOf,run_underlying aL,ct,ae.isAgg,ao,O,bj,hp]
 exact⟨_,co _ _ (Ad (d:=e.zero) bm),rfl⟩
def Ie{e:ae}{tid:TypeId}(ht:(cO P (.sl e)).1 tid){ad:Option Addr}{cap:Nat}{lo hi:Option Int}{ks kh:IntKind}(ld:n<=cap)(h:ca (bT lo 0) (bT hi n) n=true)(w:World):
  (Instr.sliceAt tid (.slice ad n cap) (lo.map λi=>.int ks i) (hi.map λi=>.int kh i) none).run P w =
   .ok (.slice (if cap=(bT lo 0).toNat then ad else ad.map (·.add ((bT lo 0).toNat*e.size))) ((bT hi n).toNat-(bT lo 0).toNat) (cap-(bT lo 0).toNat)) w:=by
 obtain⟨⟨bc,aL,aA⟩,_⟩:=ht;have Y:=UQ (P:=P) (isSlice:=true) (ks:=ks) (kh:=kh) ld h w;have bj:=od aA w;simp[Instr.sliceAt,Instr.slice,run_underlying aL,Y,bj]
def aH.sub{H:cg}{e:ae}{l:List e.aD}{ad:Option Addr}{cap:Nat}(cv:aH H (.sl e) l [.slice ad l.length cap]){cap':Nat}(bY:L+N<=l.length)(ld:N<=cap')(azg:cap'<=cap-L):
  aH H (.sl e) (cut l L N) [.slice (if cap'=0 then ad else ad.map (·.add (L*e.size))) N cap']:=by
 obtain⟨a',cK,O,R,af,aq⟩:=aH.ic.1 cv;obtain⟨rfl,_,rfl⟩:=O;refine aH.ic.2 ⟨_,cap',by rw[k_ bY],by rw[k_ bY];exact ld,J,?_⟩;by_cases fO:N=0
 .left;exact k3.1 ((k_ bY).trans fO)
 rcases aq with aq|⟨b,o,c,el,fz,rfl,bw,cW,gg⟩
 .grind
 right;rw[if_neg J];refine⟨b,o+L*e.size,c,el,fz,by simp[qd],bw,?_,λi x hi => ?_⟩
 .rw[k_ bY]
  have:(L+N)*e.size<=l.length*e.size:=iq _ bY
  grind
 have fC:i<N:=by
  rcases yY i N with h|h
  .exact h
  have:(cut l L N).length<=i:=by rw[k_ bY];exact h
  grind
 rw[FF fC]at hi
 grind
def UR{H:cg}{e:ae}{tid:TypeId}(ht:(cO P (.sl e)).1 tid){l:List e.aD}{ck:Value}(cv:aH H (.sl e) l [ck]){lo hi:Option Int}{ks kh:IntKind}(h:ca (bT lo 0) (bT hi (len l)) (len l)=true)(w:World):
  ∃v,(Instr.sliceAt tid ck (lo.map λi=>.int ks i) (hi.map λi=>.int kh i) none).run P w=.ok v w/\a? phx H B (.sc (.sl e) (sub l (bT lo 0) (bT hi (len l)))) v:=by
 obtain⟨ad,cap,O,R,af,aq⟩:=aH.ic.1 cv;simp at O;subst O;have ah:=Ie (P:=P) ht (ad:=ad) (ks:=ks) (kh:=kh) R h w;refine⟨_,ah,?_⟩;obtain⟨bF,b3,dp⟩:=rk.1 h;have dp:bT hi (len l)<=(l.length:Int):=dp;have:=cv.sub (L:=(bT lo 0).toNat) (N:=(bT hi (len l)).toNat-(bT lo 0).toNat) (cap':=cap-(bT lo 0).toNat) J J (bU _);refine⟨_,this,?_⟩;congr 1
 grind
def hu.sub{id:Nat}{e:ae}{ad:Option Addr}{cap:Nat}(h:hu phx id e off n (.slice ad n cap))(bY:L+N<=n):
  hu phx id e (off+L) N (.slice (if cap=L then ad else ad.map (·.add (L*e.size))) N (cap-L)):=by
 rcases h with⟨O,a,R⟩|⟨b,o,m,cap',O,R,af,aq,a8⟩
 .simp at R
  obtain⟨rfl,_,rfl⟩:=R;left;exact⟨J,_,by rw[show N=0 by omega,show 0-L=0 by omega]⟩
 simp at R;obtain⟨rfl,_,rfl⟩:=R;by_cases ai:cap=L
 .left;exact⟨J,_,by rw[show N=0 by omega,show cap-L=0 by omega]⟩
 right;refine⟨b,o,m,cap-L,O,?_,J,J,by rw[show off+L+(cap-L)=off+cap by omega];exact a8⟩;rw[if_neg ai];simp[qd,fJ,ju]
def th.sub{id:Nat}{e:ae}{ad:Option Addr}{cap:Nat}(h:th phx id e off N (.slice ad n cap)){n':Nat}(bY:L+n'<=cap):
  th phx id e (off+L) N (.slice (if cap=L then ad else ad.map (·.add (L*e.size))) n' (cap-L)):=by
 rcases h with⟨O,a,R⟩|⟨b,o,m,ac3,cap',O,R,af⟩
 .simp at R
  obtain⟨rfl,_,rfl⟩:=R;left;exact⟨J,_,by rw[show n'=0 by omega,show 0-L=0 by omega]⟩
 simp at R;obtain⟨rfl,_,rfl⟩:=R;by_cases ai:cap=L
 .left;exact⟨J,_,by rw[show n'=0 by omega,show cap-L=0 by omega]⟩
 right;refine⟨b,o,m,n',cap-L,O,?_,J⟩;rw[if_neg ai];simp[qd,fJ,ju]
def US{e:ae}{tid:TypeId}(ht:(cO P (.sl e)).1 tid){a r:au}{ck:Value}{lo hi:Option Int}(h:(v? (.sl e) a lo hi none).aX g B=some (r,B'))
  (hm:Mem K w0 phx M B w) (dP:a? phx (view w M) B a ck) (ks kh:IntKind) :
  B'=B/\∃v,(Instr.sliceAt tid ck (lo.map λi=>.int ks i) (hi.map λi=>.int kh i) none).run P w=.ok v w/\a? phx (view w M) B r v:=by
 cases a<;>try(cases h)
 case nil=>
  simp only[v?]at h;replace h:=iK h;obtain⟨Y,h⟩:=h;cases h;have ah:=dP;subst ah;have kz:=Y;have a2:=rk.1 kz;refine⟨rfl,_,Ie (P:=P) (ad:=none) (n:=0) (cap:=0) ht (bU _) kz w,?_⟩
  grind
 case sc t x =>replace h:=aw.cy h;obtain⟨l,cR,O,h⟩:=h;obtain⟨ai,rfl⟩:=dE O;obtain⟨bC,rfl⟩:=u0 ai;subst bC;replace h:=iK h;obtain⟨Y,h⟩:=h;cases h;obtain⟨cs,cv,rfl⟩:=dP;obtain⟨ad,cap,rfl,_⟩:=aH.x_.1 cv;exact⟨rfl,UR ht cv Y w⟩
 case csl bC l =>replace h:=gx h;obtain⟨ai,h⟩:=h;have:=eD ai;cases this;replace h:=iK h;obtain⟨Y,h⟩:=h;cases h;obtain⟨ad,_,cv⟩:=dP;exact⟨rfl,UR ht cv Y w⟩
 case own id d'=>
  simp only[v?,aw.aX]at h;have ac:bM phx (view w M) B (.own id d') ck:=dP;have dD:=hm.blks id;simp only[bM]at ac;generalize aB:B id=bl at h ac dD;cases bl<;>try(cases h)
  .replace h:=gx h;obtain⟨ai,h⟩:=h
   have:=eD ai;cases this;replace h:=iK h;obtain⟨Y,h⟩:=h;cases h;rename_i l;obtain⟨ad,cap,rfl⟩:=ac.1.slice;have ld:l.length<=cap:=by
    rcases ac.1 with⟨O,a,R⟩|⟨b,o,m,cap',O,R,af,aq,a8⟩
    .omega
    simp only[Value.slice.injEq]at R;omega
   refine⟨rfl,_,Ie ht ld Y w,?_⟩;obtain⟨bF,b3,dp⟩:=rk.1 Y;have dp:bT hi (len l)<=(l.length:Int):=dp;have pD:=ac.1.cap.sub (L:=(bT lo 0).toNat) (n':=(bT hi (len l)).toNat-(bT lo 0).toNat) J;have:=ac.1.sub (L:=(bT lo 0).toNat) (N:=(bT hi (len l)).toNat-(bT lo 0).toNat) J;simp only[a?,dZ,bM,aB];simp only[jv]at this pD;exact⟨by unfold aa cd;omega,this,pD⟩
  replace h:=gx h;obtain⟨ai,h⟩:=h;have:=eD ai;cases this;replace h:=iK h;obtain⟨Y,h⟩:=h;cases h;exact⟨rfl,UR ht (TV ac.1 dD.2) Y w⟩
 case osl id off n=>
  simp only[v?,aw.aX]at h;have ac:bM phx (view w M) B (.osl id off n) ck:=dP;have dD:=hm.blks id;simp only[bM]at ac;generalize aB:B id=bl at h ac dD;cases bl<;>try(cases h)
  .replace h:=gx h;obtain⟨ai,h⟩:=h
   have:=eD ai;cases this;replace h:=iK h;obtain⟨Y,h⟩:=h;cases h;obtain⟨bY,ac,lK⟩:=ac;obtain⟨ad,cap,rfl⟩:=ac.slice;have ld:n<=cap:=by
    rcases ac with⟨O,a,R⟩|⟨b,o,m,cap',O,R,af,aq,a8⟩
    .omega
    simp only[Value.slice.injEq]at R;omega
   refine⟨rfl,_,Ie ht ld Y w,?_⟩;obtain⟨bF,b3,dp⟩:=rk.1 Y;have dp:bT hi (bf n)<=(n:Int):=dp;have:=ac.sub (L:=(bT lo 0).toNat) (N:=(bT hi (bf n)).toNat-(bT lo 0).toNat) J;have pD:=lK.sub (L:=(bT lo 0).toNat) (n':=(bT hi (bf n)).toNat-(bT lo 0).toNat) J;simp only[a?,dZ,bM,aB];exact⟨by unfold aa cd bQ;omega,this,pD⟩
  replace h:=gx h;obtain⟨ai,h⟩:=h;have:=eD ai;cases this;replace h:=iK h;obtain⟨Y,h⟩:=h;cases h;obtain⟨bY,ac⟩:=ac;obtain⟨ad,cap,rfl⟩:=ac.slice;have ld:n<=cap:=by
   rcases ac with⟨O,a,R⟩|⟨b,o,m,cap',O,R,af,aq,a8⟩
   .omega
   simp only[Value.slice.injEq]at R;omega
  refine⟨rfl,_,Ie ht ld Y w,?_⟩;obtain⟨bF,b3,dp⟩:=rk.1 Y;have dp:bT hi (bf n)<=(n:Int):=dp;have:=ac.sub (L:=(bT lo 0).toNat) (N:=(bT hi (bf n)).toNat-(bT lo 0).toNat) J;simp only[a?,dZ,bM,aB];exact⟨by unfold aa cd bQ;omega,this⟩
def axb{fW:ae}{tid:TypeId}(ht:(cO P fW).1 tid){a r:au}{ck:Value}{lo hi:Option Int}{m:Int}(h:(v? fW a lo hi (some m)).aX g B=some (r,B'))
  (dP:a? phx (view w M) B a ck) (ks kh Hh:IntKind) :
  B'=B/\∃v,(Instr.sliceAt tid ck (lo.map λi=>.int ks i) (hi.map λi=>.int kh i) (some (.int Hh m))).run P w=.ok v w/\a? phx (view w M) B r v:=by
 cases hi with
 |none=>cases h
 |some hi=>
  cases a<;>try(cases h)
  rename_i t x;cases fW<;>try(cases h)
  rename_i e;replace h:=aw.cy h;obtain⟨l,cR,O,h⟩:=h;obtain⟨ai,rfl⟩:=dE O;obtain⟨bC,rfl⟩:=u0 ai;subst bC;replace h:=iK h;obtain⟨Y,h⟩:=h;cases h;simp only[cY,cL,Yp.ag,beq_iff_eq]at Y;obtain⟨Y,rfl⟩:=Y;obtain⟨bF,b3,dp⟩:=rk.1 Y;obtain⟨cs,cv,rfl⟩:=dP;obtain⟨ad,cap,rfl,b_,_⟩:=aH.x_.1 cv;have dp:hi<=((x:List e.aD).length:Int):=dp;obtain⟨⟨bc,aL,aA⟩,_⟩:=ht;have bj:=od aA w;have g1:0<=hi/\hi<=(cap:Int):=⟨J,J⟩;have g0:=g1.1;have GR:(Instr.sliceBounds true (x:List e.aD).length cap (lo.map λi=>.int ks i) (some (.int kh hi)) (some (.int Hh hi))).run P w=.ok ((bT lo 0).toNat,hi.toNat,hi.toNat) w:=by
   cases lo with
   |none=>simp[Instr.sliceBounds,Instr.sliceBound,asIntOf,g1,bT,g0,JO g0]
   |some lo =>simp only[bT]at bF b3 ⊢;simp[Instr.sliceBounds,Instr.sliceBound,asIntOf,g1,g0,JO g0,bF,b3]
  refine⟨rfl,.slice (if hi.toNat=(bT lo 0).toNat then ad else ad.map (·.add ((bT lo 0).toNat*e.size))) (hi.toNat-(bT lo 0).toNat) (hi.toNat-(bT lo 0).toNat),?_,?_⟩
  .simp[Instr.sliceAt,Instr.slice,run_underlying aL,GR,bj,ct,ae.isAgg]
  have:=cv.sub (L:=(bT lo 0).toNat) (N:=hi.toNat-(bT lo 0).toNat) (cap':=hi.toNat-(bT lo 0).toNat) J J J;have cq:(Yp.sub (x:List e.aD) (bT lo 0) hi).length=hi.toNat-(bT lo 0).toNat:=k_ (α:=e.aD) (l:=(x:List e.aD)) J;have tP:(if hi.toNat=(bT lo 0).toNat then ad else ad.map (·.add ((bT lo 0).toNat*e.size)))=if hi.toNat-(bT lo 0).toNat=0 then ad else ad.map (·.add ((bT lo 0).toNat*e.size)):=by
   grind
  rw[tP];exact⟨_,by rw[cq],this⟩
def hu.Yr{id:Nat}{e:ae}{ad:Option Addr}{cap:Nat}(h:hu phx id e off n (.slice ad m cap)):m=n/\n<=cap:=by
 rcases h with⟨O,a,R⟩|⟨b,o,m,cap',O,R,af,aq,a8⟩
 .simp only[Value.slice.injEq]at R;omega
 simp only[Value.slice.injEq]at R;omega
def hu.am1{id:Nat}{e:ae}{ad:Option Addr}{cap:Nat}(h:hu phx id e off n (.slice ad n cap))(bY:L+N<=cap):
  hu phx id e (off+L) N (.slice (if cap=L then ad else ad.map (·.add (L*e.size))) N (cap-L)):=by
 rcases h with⟨O,a,R⟩|⟨b,o,m,cap',O,R,af,aq,a8⟩
 .simp only[Value.slice.injEq]at R
  obtain⟨rfl,_,rfl⟩:=R;left;exact⟨J,_,by rw[show N=0 by omega,show 0-L=0 by omega]⟩
 simp only[Value.slice.injEq]at R;obtain⟨rfl,_,rfl⟩:=R;by_cases ai:cap=L
 .left;exact⟨J,_,by rw[show N=0 by omega,show cap-L=0 by omega]⟩
 right;refine⟨b,o,m,cap-L,O,?_,J,J,by rw[show off+L+(cap-L)=off+cap by omega];exact a8⟩;rw[if_neg ai];simp[qd,fJ,ju]
def axc{e:ae}{tid:TypeId}(ht:(cO P (.sl e)).1 tid){a r:au}{ck:Value}{lo hi qD:Option Int}(h:(UO (.sl e) a lo hi qD).aX g B=some (r,B'))
  (hm:Mem K w0 phx M B w) (dP:a? phx (view w M) B a ck) (ks kh Hh:IntKind) :
  B'=B/\∃v,(Instr.sliceAt tid ck (lo.map λi=>.int ks i) (hi.map λi=>.int kh i) (qD.map λi=>.int Hh i)).run P w=.ok v w/\a? phx (view w M) B r v:=by
 unfold UO at h;split at h
 .split at h
  .rename_i hh
   split at h
   .rename_i id off n
    simp only[aw.aX]at h;have ac:bM phx (view w M) B (.osl id off n) ck:=dP;simp only[bM]at ac;generalize aB:B id=bl at h ac;cases bl<;>try(cases h)
    replace h:=gx h;obtain⟨ai,h⟩:=h;have:=eD ai;cases this;replace h:=iK h;obtain⟨Y,h⟩:=h;cases h;rename_i l;simp only[cY,cL]at Y;obtain⟨rf,Y⟩:=Y;obtain⟨bY,aK,pD⟩:=ac;obtain⟨ad,cap,rfl⟩:=aK.slice;obtain⟨bF,b3,dp⟩:=rk.1 Y;have dp:hh<=(l.length:Int)-(off:Int):=dp;have fO:l.length<=off+cap:=by
     rcases pD with⟨O,a,R⟩|⟨b,o,m,ac3,cap',O,R,af⟩
     .omega
     simp at R;omega
    have g1:0<=hh/\hh<=(cap:Int):=⟨J,J⟩;have GR:(Instr.sliceBounds true n cap (lo.map λi=>.int ks i) (some (.int kh hh)) none).run P w=.ok ((bT lo 0).toNat,hh.toNat,cap) w:=by
     cases lo with
     |none=>simp[Instr.sliceBounds,Instr.sliceBound,asIntOf,g1,bT]
     |some lo =>simp only[bT]at bF b3 ⊢;have bw:0<=lo/\lo<=max hh 0:=⟨bF,J⟩;simp[Instr.sliceBounds,Instr.sliceBound,asIntOf,g1,bw,bF,b3]
    obtain⟨⟨bc,aL,aA⟩,_⟩:=ht;have bj:=od aA w;refine⟨rfl,.slice (if cap=(bT lo 0).toNat then ad else ad.map (·.add ((bT lo 0).toNat*e.size))) (hh.toNat-(bT lo 0).toNat) (cap-(bT lo 0).toNat),?_,?_⟩
    .simp[Instr.sliceAt,Instr.slice,run_underlying aL,GR,bj]
    have O:=aK.am1 (L:=(bT lo 0).toNat) (N:=hh.toNat-(bT lo 0).toNat) J;have R:=pD.sub (L:=(bT lo 0).toNat) (n':=hh.toNat-(bT lo 0).toNat) J;simp only[a?,dZ,bM,aB];exact⟨by unfold aa cd bQ;omega,O,R⟩
   exact US ht h hm dP ks kh
  exact US ht h hm dP ks kh
 rename_i m;split at h
 .rename_i hh
  split at h
  .rename_i id d'
   simp only[aw.aX]at h;have ac:bM phx (view w M) B (.own id d') ck:=dP;simp only[bM]at ac;generalize aB:B id=bl at h ac;cases bl<;>try(cases h)
   replace h:=gx h;obtain⟨ai,h⟩:=h;replace h:=iK h;obtain⟨Y,h⟩:=h;cases h;rename_i l;simp only[cY,cL,bE,decide_eq_true_eq]at Y;obtain⟨Y,zH⟩:=Y;have zH:m<=(l.length:Int):=zH;obtain⟨bF,b3,dp⟩:=rk.1 Y;obtain⟨ad,cap,rfl⟩:=ac.1.slice;obtain⟨_,ld⟩:=ac.1.Yr;obtain⟨⟨bc,aL,aA⟩,_⟩:=ht;have bj:=od aA w;have g1:0<=m/\m<=(cap:Int):=⟨J,J⟩;have g0:=g1.1;have bw:0<=hh/\hh<=m:=⟨J,dp⟩;have GR:(Instr.sliceBounds true l.length cap (lo.map λi=>.int ks i) (some (.int kh hh)) (some (.int Hh m))).run P w=.ok ((bT lo 0).toNat,hh.toNat,m.toNat) w:=by
    cases lo with
    |none=>simp[Instr.sliceBounds,Instr.sliceBound,asIntOf,g1,bT,g0,bw,JO g0]
    |some lo =>simp only[bT]at bF b3 ⊢;have cW:0<=lo/\lo<=max hh 0:=⟨bF,J⟩;simp[Instr.sliceBounds,Instr.sliceBound,asIntOf,g1,g0,bw,JO g0,cW,bF,b3]
   exact⟨rfl,_,by simp[Instr.sliceAt,Instr.slice,run_underlying aL,GR,bj];rfl,trivial⟩
  cases h
 cases h
end
end Yp
namespace Yp
open Go
def ox:=@List.length_replicate
def lY:=@Nat.mod_eq_of_lt
def BE:=@Nat.mul_le_mul_left
def Jv:=@Nat.le_of_lt
variable {P:Program}
def dq(K:Kp)(w0:World)(phx:cc)(M:Nat->Prop)(B:Nat->aQ)(w:World)(B':Nat->aQ)(v:au)(r:Value)(w':World):Prop:=
 ∃phx' ay,Mem K w0 phx' ay B' w'/\cm phx M B w phx' ay B' w'/\a? phx' (view w' ay) B' v r
section
variable {K:Kp} {w0 w:World} {phx:cc} {M:Nat->Prop} {B B':Nat->aQ} {g:Nat->au}
def dq.same(hm:Mem K w0 phx M B w){v:au}{r:Value}(h:B'=B)(ah:a? phx (view w M) B v r):dq K w0 phx M B w B' v r w:=by subst h;exact⟨phx,M,hm,cm.refl _ _ _ _,ah⟩
def Cw{id:Nat}{k:aw au}{r:au×(Nat->aQ)}(h:(Yp.tI id k).aX g B=some r):B id=.new/\k.aX g B=some r:=by simp only[Yp.tI,aw.aX]at h;generalize aB:B id=b at h;cases b<;>first|exact⟨rfl,h⟩|cases h
def lC.lt{id:Nat}{b:aQ}{H:cg}(h:lC phx M w H B id b)(hm:b.fx=true){x:Nat×Nat×Nat}(hx:phx id=some x):x.1<w.heap.size:=by
 have bm:∀{b:Nat} {o:Obj},w.heap[b]?=some o->b<w.heap.size:=λaK=>(ip.1 aK).1;cases b with
 |new=>cases hm
 |e'=>cases hm
 |fz e l=>cases hm
 |box t v=>obtain⟨b,o,c,el,fz,O,R,_⟩:=h;rw[O]at hx;cases hx;exact bm R
 |ob e l=>
  rcases h.2 with⟨O,_⟩|⟨b,o,c,el,fz,O,R,_⟩
  .grind
  grind
 |it s p=>obtain⟨b,O,R,_⟩:=h;rw[O]at hx;cases hx;exact bm R
 |mp kt vt l=>obtain⟨b,es,m',O,R,_⟩:=h;rw[O]at hx;cases hx;exact bm R
def Mem.born(hm:Mem K w0 phx M B w){id:Nat}(hid:B id=.new){w':World}(O:w'.os=w.os)(R:w'.tape=w.tape)(af:w'.output=w.output)(ac:w.heap.size<w'.heap.size)
  (Y:∀b,b<w.heap.size->w'.heap[b]?=w.heap[b]?) (j5:aQ) (n:Nat)
  (ah:∀phx' ay,cm phx M B w phx' ay (cU B id j5) w'->phx' id=some (w.heap.size,0,n)->ay w.heap.size->lC phx' ay w' (view w' ay) (cU B id j5) id j5) :
  ∃phx' ay,Mem K w0 phx' ay (cU B id j5) w'/\cm phx M B w phx' ay (cU B id j5) w'/\phx' id=some (w.heap.size,0,n):=by
 obtain⟨bD,e1⟩:=hm.CD O R af (Jv ac) Y (λb=>b=w.heap.size) (λb h=>J);obtain⟨cn,aN⟩:=bD.uW hid j5 (some (w.heap.size,0,n)) (λ_ y hy ap=>by cases hy;have O:=hm.klt _ ap;have R:=hm.size;omega) (λ_ y hy j an z bj=>by cases hy;have:=(hm.blks j).lt an bj;omega) (λaA=>ah _ _ (e1.trans aA) (lU _ _ _) (.inr rfl))
 exact⟨_,_,cn,e1.trans aN,lU _ _ _⟩
def q4(w:World)(o:Obj)(b:Nat)(h:b<w.heap.size):(w.alloc o).heap[b]?=w.heap[b]?:=by
 show(w.heap.push o)[b]?=_
 grind
def q3(w:World)(o:Obj):(w.alloc o).heap[w.heap.size]?=some o:=by show(w.heap.push o)[w.heap.size]?=_;simp
def iv(w:World)(o:Obj):(w.alloc o).heap.size=w.heap.size+1:=bh
def xM(c:Array Value):h4 c (0,0):=.inl rfl
def Ij{c:Array Value}{cu:List Value}(h:c.toList=cu)(aj:cu.length=n):cF c 0 n=cu:=by simp only[cF,h];subst aj;simp
def Xb{t:ae}{tid:TypeId}(ht:(cO P t).1 tid){id:Nat}(hid:B id=.new){pv:au}{v:Value}{cu:List Value}(hm:Mem K w0 phx M B w)(aC:v.cells.toList=cu)(hT:e3 phx (view w M) B pv t cu):
  ∃r w',(Instr.box tid v).run P w=.ok r w'/\dq K w0 phx M B w (cU B id (.box t pv)) (.ptr id []) r w':=by
 have cP:v.cells.size=t.size:=by rw[<- hT.length,<- aC];simp
 refine⟨.pointer (some ⟨w.heap.size,0,none⟩),w.alloc (.cells v.cells tid),by simp[Instr.box,newVar,Go.newRow],?_⟩;obtain⟨phx',ay,bD,e1,O⟩:=hm.born hid (w':=w.alloc (.cells v.cells tid)) rfl rfl rfl bh (q4 w _) (.box t pv) v.cells.size λphx' ay aA hp dS=>by refine⟨w.heap.size,0,v.cells,tid,(0,0),hp,q3 w _,J,?_,xM _,dS⟩;rw[Ij aC hT.length];exact aA.b8 hT
 refine⟨phx',ay,bD,e1,?_⟩;simp only[a?,dZ,bM,eM];exact⟨_,_,_,0,t,O,Ms t,rfl⟩
def yC{H:cg}:∀t:ae,e3 phx H B (m0 t) t (dz t)
 |.bool=>⟨rfl,aH.zero _ .bool⟩
 |.int k=>⟨rfl,aH.zero _ (.int k)⟩
 |.str=>⟨rfl,aH.zero _ .str⟩
 |.sl e=>⟨rfl,_,rfl,rfl,rfl⟩
 |.unit=>⟨rfl,aH.zero _ .unit⟩
 |.pair a b=>⟨_,_,rfl,yC a,yC b⟩
 |.ar n e=>⟨rfl,aH.zero _ (.ar n e)⟩
 |.op k=>⟨rfl,aH.zero _ (.op k)⟩
 |.fn l=>⟨rfl,aH.zero _ (.fn l)⟩
def AW{t:ae}{tid:TypeId}(ht:(cO P t).1 tid)(w:World):(zeroValue tid).run P w=.ok (ct t (dz t)) w:=by obtain⟨i,O,R,af,aq⟩:=nc ht;unfold zeroValue;simp[afc O,aq]
def s'(t:ae):(ct t (dz t)).cells=(dz t).toArray:=Hv (aH.zero (λ_=>none) t)
def aiE{t:ae}{tid:TypeId}(ht:(cO P t).1 tid){id:Nat}(hid:B id=.new)(hm:Mem K w0 phx M B w):
  ∃r w',(Instr.alloc tid true (.tuple #[])).run P w=.ok r w'/\dq K w0 phx M B w (cU B id (.box t (m0 t))) (.ptr id []) r w':=by
 obtain⟨r,w',O,R⟩:=Xb ht hid hm (v:=ct t (dz t)) (cu:=dz t) (by rw[s']) (yC t);refine⟨r,w',?_,R⟩;simp only[Instr.box]at O;simp[Instr.alloc,AW ht]at O ⊢;exact O
def DU(hm:Mem K w0 phx M B w){id:Nat}(hid:B id=.new){w':World}(O:w'.os=w.os)(R:w'.tape=w.tape)(af:w'.output=w.output)(ac:w.heap.size<w'.heap.size)
  (Y:∀b,b<w.heap.size->w'.heap[b]?=w.heap[b]?) {e:ae} (dB:0<e.size) {l:List e.aD} {gF:Array Value} {el:TypeId} {fz:Nat×Nat} (ai:w'.heap[w.heap.size]?=some (.cells gF el fz)) (hf:h4 gF fz)
  {H:cg} (cw:H.cb (full w)) (d9:e4 (view w M) e l gF 0) {cap:Nat} (ld:l.length<=cap) (i5:cap<=maxLen) (cP:cap*e.size<=gF.size) (d':Bool) (eC:d'=true->l.length≠0) :
  dq K w0 phx M B w (cU B id (.ob e l)) (.own id d') (.slice (some ⟨w.heap.size,0,none⟩) l.length cap) w':=by
 obtain⟨phx',ay,bD,e1,dF⟩:=hm.born hid O R af ac Y (.ob e l) gF.size λphx' ay aA hp dS=>
  ⟨dB,.inr ⟨w.heap.size,0,gF,el,fz,hp,ai,d9.mono aA.vw,hf,dS⟩⟩
 refine⟨phx',ay,bD,e1,?_⟩;simp only[a?,dZ,bM,eM];exact⟨.inr ⟨_,0,_,cap,dF,bh,ld,i5,by simpa using cP⟩,eC⟩
def vQ{id:Nat}{e:ae}{l:List e.aD}{r:au}(h:(Yp.vP id e l d').aX g B=some (r,B')):0<e.size/\B id=.new/\r=.own id d'/\B'=cU B id (.ob e l):=by replace h:=gx h;obtain⟨ao,h⟩:=h;replace h:=Cw h;obtain⟨O,h⟩:=h;cases h;exact⟨by simpa using ao,O,rfl,rfl⟩
def ayP{z:List Value}(h:i<n):(madeCells z.toArray n)[i]?=some (z.toArray[i%z.length]!):=by simp[madeCells,h]
def ayQ{z:List Value}(bj:0<z.length)(h:i<m):cF (madeCells z.toArray (m*z.length)) (i*z.length) z.length=z:=by
 have le:(i+1)*z.length<=m*z.length:=iq _ h;rw[fJ]at le;apply te;intro j;by_cases an:j<z.length
 .rw[ux an,ayP J]
  have:(i*z.length+j)%z.length=j:=by rw[Nat.add_comm,Nat.add_mul_mod_self_right,lY an]
  grind
 have hl:=pW (c:=madeCells z.toArray (m*z.length)) (o:=i*z.length) (n:=z.length) (by rw[size_madeCells];omega)
 grind
def Oq(H:cg){e:ae}(dB:0<e.size)(h:n<=m):e4 H e (bO n e.zero) (madeCells (dz e).toArray (m*e.size)) 0:=by
 refine⟨?_,λi x hi => ?_⟩
 .rw[size_madeCells];simp only[bO,ox,jv];exact iq _ h
 simp only[ bO,Wm]at hi;split at hi
 .rename_i fC
  cases hi;have hl:=rT e;have:=ayQ (z:=dz e) (m:=m) (i:=i) J J;rw[hl]at this;rw[jv,this];exact aH.zero H e
 cases hi
def ajN(e:ae):0<e.bytes:=by unfold ae.bytes;split<;>omega
def aeZ{e:ae}:g7 e n=true↔n*e.bytes<=140737488355328:=by exact decide_eq_true_iff
def M9{e:ae}(h:g7 e n=true):n<=maxLen:=by rw[aeZ]at h;have:n*1<=n*e.bytes:=BE _ (ajN e);unfold maxLen;omega
def M8{e:ae}(h:g7 e n=true)(Y:b<=e.bytes):n*b<=140737488355328:=by rw[aeZ]at h;have:n*b<=n*e.bytes:=BE _ Y;omega
def asP{e:ae}{tid:TypeId}(ht:(cO P (.sl e)).1 tid){id:Nat}{l c:Int}{kl kc:IntKind}{r:au}(hm:Mem K w0 phx M B w)
  (h:(aw.chk (cY (ca 0 l c) (g7 e (aa c))) (Yp.vP id e (bO (aa l) e.zero) false)).aX g B=some (r,B')) :
  ∃v w',(Instr.makeSlice tid (.int kl l) (.int kc c)).run P w=.ok v w'/\dq K w0 phx M B w B' r v w':=by
 replace h:=iK h;obtain⟨ai,h⟩:=h;simp only[cY,cL]at ai;obtain⟨ao,hid,rfl,rfl⟩:=vQ h;obtain⟨_,bF,b3⟩:=rk.1 ai.1;have fV:=ai.2;obtain⟨⟨bc,aL,aA⟩,_⟩:=ht;obtain⟨i,g1,bw,cW,gg⟩:=nc aA;have CL:=M8 fV cW;have i5:=M9 fV;have aj:((aa c:Nat):Int)=c:=by unfold aa;omega
 have ao1:(i.bytes:Int)*c<=281474976710656:=by
  grind
 have ah:=run_make (P:=P) w tid bc i _ aL g1 gg kl kc l c bF b3 ao1 (by unfold maxLen at i5;omega);refine⟨_,_,ah,?_⟩;rw[s',bw];have cq:(bO (aa l) e.zero).length=l.toNat:=by simp[bO,aa]
 have:=DU (K:=K) (w0:=w0) (phx:=phx) (M:=M) (B:=B) (w:=w) hm hid (w':=w.alloc (.cells (madeCells (dz e).toArray (c.toNat*e.size)) bc)) rfl rfl rfl bh (q4 w _) ao
  (l:=bO (aa l) e.zero) (q3 w _) (xM _) (rN w M) (Oq _ ao (by unfold aa;omega)) (cap:=c.toNat) J J (by rw[size_madeCells];exact bU _) false (λh=>by cases h)
 grind
def avm{tid:TypeId}(aL:P.underlying tid=some .string){id:Nat}(hid:B id=.new)(hm:Mem K w0 phx M B w):
  ∃v w',(Instr.range tid (.string ⟨l.toArray⟩)).run P w=.ok v w'/\dq K w0 phx M B w (cU B id (.it l 0)) (.itp id) v w':=by
 refine⟨.pointer (some ⟨w.heap.size,0,none⟩),w.alloc (.stringIter ⟨l.toArray⟩ 0),by simp[Instr.range,run_underlying aL],?_⟩;obtain⟨phx',ay,bD,e1,dF⟩:=hm.born hid (w':=w.alloc (.stringIter ⟨l.toArray⟩ 0)) rfl rfl rfl bh (q4 w _) (.it l 0) 0 λphx' ay aA hp dS=>
  ⟨w.heap.size,hp,q3 w _,dS⟩
 refine⟨phx',ay,bD,e1,?_⟩;simp only[a?,dZ,bM,eM]
 grind
end
end Yp
namespace Yp
open Go
def ou:=@List.length_map
def mw:=@Nat.mul_one
def BG:=@List.getElem?_append_right
def EN:=@List.getElem?_append_left
def yQ:=@List.cons.injEq
variable {P:Program}
section
variable {K:Kp} {w0 w:World} {phx:cc} {M:Nat->Prop} {B B':Nat->aQ} {g:Nat->au} {H:cg}
def eV(H:cg)(e:ae)(l:List e.aD)(cs:List Value):Prop:=cs.length=l.length*e.size/\∀(i:Nat) (x:e.aD),hO l i=some x->aH H e x ((cs.drop (i*e.size)).take e.size)
def Da{l:List α}{x:α}(h:hO l i=some x):i<l.length:=(mt.1 h).1
def xH{s:Nat}(h:i<n):i*s+s<=n*s:=by
 have:=iq s (show i+1<=n from h)
 grind
def e4.r'{e:ae}{l:List e.aD}{c:Array Value}(h:e4 H e l c o):eV H e l (cF c o (l.length*e.size)):=by refine⟨pW h.1,λi x hi => ?_⟩;rw[DZ _ _ _ _ _ (xH (Da hi))];exact h.2 i x hi
def eV.row{e:ae}{l:List e.aD}{c:Array Value}(aj:o+l.length*e.size<=c.size)(h:eV H e l (cF c o (l.length*e.size))):e4 H e l c o:=by
 refine⟨aj,λi x hi => ?_⟩;have:=h.2 i x hi
 rwa [DZ _ _ _ _ _ (xH (Da hi))]at this
def eV.nil(e:ae):eV H e [] []:=⟨bh,λi x hi=>by simp[hO]at hi⟩
def eV.append{e:ae}{l m:List e.aD}{cs ds:List Value}(h:eV H e l cs)(k:eV H e m ds):eV H e (l++m) (cs++ds):=by
 refine⟨by rw[cE,cE,h.1,k.1,fJ],λi x hi => ?_⟩;by_cases hl:i<l.length
 .simp only[hO]at hi
  rw[EN hl]at hi;rw[Qx _ _ _ _ (by rw[h.1];exact xH hl)];exact h.2 i x hi
 simp only[hO]at hi;rw[BG J]at hi;have:=k.2 (i-l.length) x hi;rw[<- Qz cs ds,h.1,<- fJ]at this
 grind
def eV.one{e:ae}{l:List e.aD}{cs:List Value}(h:eV H e l cs):∀v∈cs,v.oneCell'=true:=by intro v aC;obtain⟨i,hi,hm⟩:=acT _ _ cs h.1 v aC;exact(h.2 i _ (jM hi)).one v hm
def eV.bytes(l:List UInt8):eV H (.int .u8) (l:List (bH .u8)) (l.map λb=>Value.int .u8 b.toNat):=by
 refine⟨by simp only[ou,ae.size,mw];rfl,λi x hi => ?_⟩;simp only[ae.size,mw];have:((l.map λb=>Value.int .u8 (b.toNat:Int)).drop i).take 1=[Value.int .u8 (bH.to .u8 x)]:=by
  apply te;intro j;cases j with
  |zero =>have gG:l[i]?=some (x:UInt8):=hi;simp[gG];rfl
  |succ j=>simp[EK]
 rw[this];rfl
def awf{id:Nat}{e:ae}{x:List e.aD}(h:(AU false id e).aX g B=some (x,B'))(hm:Mem K w0 phx M B w):
  B'=B/\OR B id e x/\((phx id=none/\x.length=0)\/∃b o c el fz,phx id=some (b,o,c.size)/\w.heap[b]?=some (.cells c el fz)/\e4 (view w M) e x c o):=by
 have Y:=hm.blks id;simp only[AU,aw.aX]at h;cases aB:B id with
 |ob bC l=>
  rw[aB]at h Y;obtain⟨y,cR,O,R⟩:=aw.cy h;obtain⟨ai,rfl⟩:=dE O;obtain⟨fp,rfl⟩:=jf ai;subst fp;cases R;refine⟨rfl,.inl aB,?_⟩;rcases Y.2 with h|⟨b,o,c,el,fz,g1,bw,cW,_⟩
  .exact .inl h
  exact .inr ⟨b,o,c,el,fz,g1,bw,cW⟩
 |fz bC l=>
  rw[aB]at h Y;obtain⟨ai,rfl⟩:=dE h;obtain⟨fp,rfl⟩:=jf ai;subst fp;refine⟨rfl,.inr (.inl aB),?_⟩;rcases Y.2 with h|⟨b,o,c,el,fz,g1,bw,cW⟩
  .exact .inl h
  exact .inr ⟨b,o,c,el,fz,g1,(jr.1 bw).2,cW⟩
 |box t v=>
  rw[aB]at h Y;cases t<;>try(cases h;done)
  rename_i n bC;obtain⟨l,cR,O,R⟩:=aw.cy h;clear h;obtain⟨hl,rfl⟩:=dE O;obtain⟨y,b4,af,aq⟩:=aw.cy R;clear R;obtain⟨ai,rfl⟩:=dE af;obtain⟨fp,rfl⟩:=jf ai;subst fp;obtain⟨_,h⟩:=gx aq;clear aq;cases h;obtain⟨eh,sL,c0,r_,sg,g1,bw,cW,gg,kw,si⟩:=Y;obtain⟨cq,d9⟩:=JY (rI hl gg) cW;exact⟨rfl,.inr (.inr ⟨v,by show _=aQ.box (.ar (List.length (α:=bC.aD) l) bC) v;rw[cq];exact aB⟩),.inr ⟨eh,sL,c0,r_,sg,g1,bw,d9⟩⟩
 |new=>rw[aB]at h;cases h
 |e'=>rw[aB]at h;cases h
 |it s p=>rw[aB]at h;cases h
 |mp kt vt l=>rw[aB]at h;cases h
def UH{e:ae}{x:au}{gU:Value}{bs:List e.aD}(h:(lT false (.sl e) x).aX g B=some (bs,B'))(hm:Mem K w0 phx M B w)(ah:a? phx (view w M) B x gU):
  B'=B/\∃ad cap,gU=.slice ad bs.length cap/\(bs=[]\/∃b o c el fz,ad=some ⟨b,o,none⟩/\w.heap[b]?=some (.cells c el fz)/\e4 (view w M) e bs c o):=by
 have plain:∀{v:Value},aH (view w M) (.sl e) bs [v]->∃ad cap,v=.slice ad bs.length cap/\(bs=[]\/∃b o c el fz,ad=some ⟨b,o,none⟩/\w.heap[b]?=some (.cells c el fz)/\e4 (view w M) e bs c o):=by
  intro v cv;obtain⟨ad,cap,O,_,_,aq⟩:=aH.ic.1 cv;simp only[yQ,and_true]at O;refine⟨ad,cap,O,?_⟩;rcases aq with aq|⟨b,o,c,el,fz,g1,bw,cW⟩
  .exact .inl aq
  exact .inr ⟨b,o,c,el,fz,g1,(jr.1 bw).2,cW⟩
 have row:∀{id:Nat} {bC:ae} {l:List bC.aD},(B id=.ob bC l\/B id=.fz bC l)->(phx id=none/\l.length=0)\/∃b o c el fz,phx id=some (b,o,c.size)/\w.heap[b]?=some (.cells c el fz)/\e4 (view w M) bC l c o:=by
  intro id bC l Y;have dD:=hm.blks id;rcases Y with Y|Y<;>rw[Y]at dD
  .rcases dD.2 with h|⟨b,o,c,el,fz,g1,bw,cW,_⟩
   .exact .inl h
   exact .inr ⟨b,o,c,el,fz,g1,bw,cW⟩
  rcases dD.2 with h|⟨b,o,c,el,fz,g1,bw,cW⟩
  .exact .inl h
  exact .inr ⟨b,o,c,el,fz,g1,(jr.1 bw).2,cW⟩
 have T7:∀{id:Nat} {l:List e.aD} {off n:Nat} {v:Value},((phx id=none/\l.length=0)\/∃b o c el fz,phx id=some (b,o,c.size)/\w.heap[b]?=some (.cells c el fz)/\e4 (view w M) e l c o)->hu phx id e off n v->off+n<=l.length ->
   ∃ad cap,v=.slice ad (cut l off n).length cap/\(cut l off n=[]\/∃b o c el fz,ad=some ⟨b,o,none⟩/\w.heap[b]?=some (.cells c el fz)/\e4 (view w M) e (cut l off n) c o):=by
  intro id l off n v Y aK bY;rw[k_ bY];rcases aK with⟨O,a,R⟩|⟨b,o,m,cap,O,R,af,aq,a8⟩
  .subst O;exact⟨a,0,R,.inl (by simp[cut])⟩
  refine⟨_,cap,R,?_⟩;rcases Y with⟨bF,b3⟩|⟨b',di,c,el,fz,bF,b3,dp⟩
  .exact .inl (k3.1 (by rw[k_ bY];omega))
  rw[O]at bF;cases bF;refine .inr ⟨b,o+off*e.size,c,el,fz,rfl,b3,?_,λi x hi => ?_⟩
  .rw[k_ bY]
   have cS:=dp.1;have:(off+n)*e.size<=l.length*e.size:=iq _ bY;rw[fJ]at this;omega
  have fC:=Da hi;rw[k_ bY]at fC;rw[FF fC]at hi;have:=dp.2 (off+i) x hi;rw[fJ,<- ju]at this;exact this
 unfold lT at h;cases x<;>try(cases h;done)
 case sc t y =>obtain⟨ai,rfl⟩:=dE h;obtain⟨bC,rfl⟩:=u0 ai;subst bC;obtain⟨cs,cv,rfl⟩:=ah;obtain⟨ad,cap,rfl,_⟩:=aH.x_.1 cv;exact⟨rfl,plain cv⟩
 case nil =>have h:(aw.opt (Tt (.sl e))).aX g B=some (bs,B'):=h;obtain⟨ai,rfl⟩:=dE h;cases ai;simp only[a?,dZ,bM]at ah;subst ah;exact⟨rfl,none,0,rfl,.inl rfl⟩
 case csl bC l =>obtain⟨ai,rfl⟩:=dE h;obtain⟨fp,rfl⟩:=jf ai;subst fp;obtain⟨ad,_,cv⟩:=ah;exact⟨rfl,plain cv⟩
 case agg t u =>exfalso;obtain⟨bu,_⟩:=ah;have bL:(bif ae.is t (.sl e) then yj false u (.sl e) else .fail:aw (ae.sl e).aD).aX g B=some (bs,B'):=h;obtain⟨hi,_⟩:=gx bL;have:=eD hi;subst this;cases bu
 case own id d'=>
  have ac:bM phx (view w M) B (.own id d') gU:=ah;have bL:(sV false id e).aX g B=some (bs,B'):=h;simp only[sV,aw.aX]at bL;simp only[bM]at ac;generalize aB:B id=bl at bL ac;cases bl<;>try(cases bL;done)
  .obtain⟨y,cR,O,R⟩:=aw.cy bL
   obtain⟨ai,rfl⟩:=dE O;obtain⟨fp,rfl⟩:=jf ai;subst fp;cases R;have:=T7 (row (.inl aB)) ac.1 J;rw[Cc]at this;exact⟨rfl,this⟩
  obtain⟨ai,rfl⟩:=dE bL;obtain⟨fp,rfl⟩:=jf ai;subst fp;have:=T7 (row (.inr aB)) ac.1 J;rw[Cc]at this;exact⟨rfl,this⟩
 case osl id off n =>have ac:bM phx (view w M) B (.osl id off n) gU:=ah;have bL:((AU false id e).bind λx=>.ret (cut x off n)).aX g B=some (bs,B'):=h;obtain⟨z,cR,af,aq⟩:=aw.cy bL;cases aq;obtain⟨rfl,a8,cS⟩:=awf af hm;obtain⟨dN,cx⟩:=ad3 a8 ac;exact⟨rfl,T7 cS cx dN⟩
def m5(P:Program)(w:World)(size n:Nat)(x:Value)(news:List Value):Prop:=
 (∀w':World,(Builtin.lenOf x).run P w'=.ok n w')/\∀w':World,w'.heap=w.heap->(Builtin.firstCells size n x).run P w'=.ok news.toArray w'
def U?{e:ae}{l:List e.aD}{c:Array Value}{el:TypeId}{fz:Nat×Nat}{cap:Nat}(Y:w.heap[b]?=some (.cells c el fz))(ah:e4 H e l c o):
  m5 P w e.size l.length (.slice (some ⟨b,o,none⟩) l.length cap) (cF c o (l.length*e.size)):=by
 refine⟨λ_=>rfl,λw' bb => ?_⟩;exact DV (by rw[bb];exact Y) ah.1
def U'(s:Nat)(ad:Option Addr)(cap:Nat):m5 P w s 0 (.slice ad 0 cap) []:=by refine⟨λ_=>rfl,λw' _ => ?_⟩;cases ad<;>simp[Builtin.firstCells,loadCells,loadCellsFrom]
def axz(l:List UInt8):m5 P w 1 l.length (.string ⟨l.toArray⟩) (l.map λb=>Value.int .u8 b.toNat):=by refine⟨λ_=>rfl,λw' _ => ?_⟩;simp only[Builtin.firstCells];simp
def M'{t u ty bc:TypeId}{i:TypeInfo}{d:TypeDesc}(ht:P.underlying t=some (.slice bc))(aL:P.underlying u=some d)(aF:d=.string\/∃q,d=.slice q)(hi:P.info? bc=some i)
  {x:Value} {n:Nat} {news:List Value} (hx:m5 P w i.size n x news) {b o sLen sCap:Nat} (fV:sLen+n<=sCap) {c:Array Value} {el:TypeId} {fz:Nat×Nat} (Y:w.heap[b]?=some (.cells c el fz)) (hf:h4 c fz)
  (aj:o+sLen*i.size+news.length<=c.size) (O:∀v∈news,v.oneCell'=true) :
  ∃w',(Builtin.append_ #[t,u] ty #[.slice (some ⟨b,o,none⟩) sLen sCap,x]).run P w=.ok (.slice (some ⟨b,o,none⟩) (sLen+n) sCap) w' /\
   ∃cK:Array Value,JF w w' b (.cells cK el fz)/\cK.toList=hC c.toList (o+sLen*i.size) news:=by
 obtain⟨w',R,cK,af,aq⟩:=Ig (P:=P) (b:=b) (el:=el) (fz:=fz) (o:=o+sLen*i.size) news 0 c w Y hf J O;refine⟨w',?_,cK,af,by simpa using aq⟩;have e1:=hx.1 w;have aN:=hx.2 w rfl;rcases aF with rfl|⟨q,rfl⟩<;>simp[Builtin.append_,run_underlying ht,run_underlying aL,Go.sizeOf,typeInfo,hi,e1,aN,fV,qd,R]
def UB{t u ty bc:TypeId}{i:TypeInfo}{d:TypeDesc}(ht:P.underlying t=some (.slice bc))(aL:P.underlying u=some d)(aF:d=.string\/∃q,d=.slice q)(hi:P.info? bc=some i)
  {x:Value} (hx:m5 P w i.size 0 x []) {ad:Option Addr} {sCap:Nat} :
  (Builtin.append_ #[t,u] ty #[.slice ad 0 sCap,x]).run P w=.ok (.slice ad 0 sCap) w:=by
 have e1:=hx.1 w;have aN:=hx.2 w rfl;cases ad<;>(rcases aF with rfl|⟨q,rfl⟩<;>simp[Builtin.append_,run_underlying ht,run_underlying aL,Go.sizeOf,typeInfo,hi,e1,aN,storeCells])
def UA{t u ty bc:TypeId}{i:TypeInfo}{z:Value}{d:TypeDesc}(ht:P.underlying t=some (.slice bc))(aL:P.underlying u=some d)(aF:d=.string\/∃q,d=.slice q)(hi:P.info? bc=some i)(bj:i.zero=some z)
  {x:Value} {n:Nat} {news:List Value} (hx:m5 P w i.size n x news) {ad:Option Addr} {sLen sCap:Nat} {olds:List Value} (aK:m5 P w i.size sLen (.slice ad sLen sCap) olds) (hg:sCap<sLen+n)
  (i5:sLen+n<=maxLen) (hK:(sLen+n)*i.bytes<=140737488355328) :
  (Builtin.append_ #[t,u] ty #[.slice ad sLen sCap,x]).run P w =
   .ok (.slice (some ⟨w.heap.size,0,none⟩) (sLen+n) (grownCap w (sLen+n) sCap bc))
    (w.drew.alloc (.cells (olds.toArray++news.toArray++Builtin.zeroCells z.cells (grownCap w (sLen+n) sCap bc-(sLen+n))) bc)):=by
 have aj:¬(sLen+n<=sCap):=J;have RB:¬(9223372036854775807<((sLen:Int)+(n:Int))):=by unfold maxLen at i5;omega
 have apK:=growslice_fits hg hK;have RA:¬(281474976710656<Builtin.nextslicecap (sLen+n) sCap*i.bytes):=J;have e1:=hx.1 w;have aN:=hx.2 w.drew rfl;have dJ:=aK.2 w.drew rfl;rcases aF with rfl|⟨q,rfl⟩<;>simp[Builtin.append_,run_underlying ht,run_underlying aL,Go.sizeOf,typeInfo,zeroValue,hi,bj,e1,aj,RB,RA,Question.forced,aN,dJ,Go.newRow,grownCap]<;>(congr 2;apply m3;simp)
end
end Yp
namespace Yp
open Go
def gw:=@List.length_nil
def hF:=@List.append_nil
def pf:=@List.size_toArray
def nD:=@List.drop_zero
def wG:=@Array.size_append
def qa:=@Nat.le_succ
def wz:=@List.take_left
def E6:=@Nat.lt_succ_self
def JW:=@Array.toList_append
variable {P:Program}
section
variable {K:Kp} {w0 w:World} {phx:cc} {M:Nat->Prop} {B B':Nat->aQ} {g:Nat->au} {H:cg}
def afV{c cK:Array Value}{vs:List Value}(ai:cK.toList=hC c.toList o vs)(aj:o+vs.length<=c.size)(h:a+n<=o):cF cK a n=cF c a n:=by rw[rF,ai,IF J (.inl h),<- rF]
def afW{c cK:Array Value}{vs:List Value}(ai:cK.toList=hC c.toList o vs)(aj:o+vs.length<=c.size):cF cK o vs.length=vs:=by
 rw[rF,ai];unfold hC
 grind
def agj{c cK:Array Value}{vs:List Value}(ai:cK.toList=hC c.toList o vs)(aj:o+vs.length<=c.size):cK.size=c.size:=by have:=congrArg List.length ai;rw[Ea J]at this;omega
def e4.cut{H:cg}{e:ae}{l:List e.aD}{c:Array Value}(h:e4 H e l c o)(bY:off+m<=l.length):e4 H e (cut l off m) c (o+off*e.size):=by
 have hl:=k_ bY;have le:(off+m)*e.size<=l.length*e.size:=iq _ bY;rw[fJ]at le;refine⟨by rw[hl];have:=h.1;omega,λi x hi => ?_⟩;have bm:=Da hi;rw[hl]at bm;rw[FF bm]at hi;have:=h.2 (off+i) x hi
 rwa [fJ,<- ju]at this
def WR{e:ae}(dB:0<e.size){t u ty bc:TypeId}{d:TypeDesc}(ht:P.underlying t=some (.slice bc))(aA:(cO P e).1 bc)(aL:P.underlying u=some d)(aF:d=.string\/∃q,d=.slice q)
  (hm:Mem K w0 phx M B w) {x:Value} {bs:List e.aD} {news:List Value} (hx:m5 P w e.size bs.length x news) (b?:eV (view w M) e bs news)
  {id off m:Nat} {l:List e.aD} {vs:Value} (aB:B id=.ob e l) (bY:off+m<=l.length) (vu:hu phx id e off m vs) (fV:g7 e (m+aT bs)=true) {jU:Nat} (gi:B jU=.new) :
  ∃r w',(Builtin.append_ #[t,u] ty #[vs,x]).run P w=.ok r w'/\dq K w0 phx M B w (cU (cU B id .e') jU (.ob e (Yp.cut l off m++bs))) (.own jU false) r w':=by
 have eC:jU≠id:=λe=>by rw[e,aB]at gi;cases gi
 obtain⟨i,g1,bw,cW,gg⟩:=nc aA;have CL:=M8 fV cW;have i5:=M9 fV;have dD:=hm.blks id;rw[aB]at dD;have vc:=b?.1;have eB:=k_ bY

 have CD:∀{ad:Option Addr} {cap:Nat} {olds:List Value},m5 P w e.size m (.slice ad m cap) olds->eV (view w M) e (Yp.cut l off m) olds->cap<m+bs.length ->
   ∃r w',(Builtin.append_ #[t,u] ty #[.slice ad m cap,x]).run P w=.ok r w'/\dq K w0 phx M B w (cU (cU B id .e') jU (.ob e (Yp.cut l off m++bs))) (.own jU false) r w':=by
  intro ad cap olds aK Gf hg;have ah:=UA (P:=P) (w:=w) (ty:=ty) ht aL aF g1 gg (x:=x) (n:=bs.length) (news:=news) (by rw[bw];exact hx) (ad:=ad) (sLen:=m) (sCap:=cap) (olds:=olds) (by rw[bw];exact aK) hg i5 CL;refine⟨_,_,ah,?_⟩;obtain⟨bD,e1⟩:=hm.e' id;have n0:=grownCap_ge w (m+bs.length) cap bc;have nZ:=grownCap_le_maxLen w (m+bs.length) cap bc i5;have Ge:=Gf.append b?;have cq:(Yp.cut l off m++bs).length=m+bs.length:=by rw[cE,eB]
  have tU:cF (olds.toArray++news.toArray++Builtin.zeroCells (ct e (dz e)).cells (grownCap w (m+bs.length) cap bc-(m+bs.length))) 0 ((Yp.cut l off m++bs).length*e.size)=olds++news:=by rw[rF,<- Ge.1];simp only[JW,nD];exact wz
  have cP:grownCap w (m+bs.length) cap bc*e.size=(olds.toArray++news.toArray++Builtin.zeroCells (ct e (dz e)).cells (grownCap w (m+bs.length) cap bc-(m+bs.length))).size:=by rw[wG,size_zeroCells,s'];simp only[wG,pf,rT,Gf.1,vc,eB,<- fJ];congr 1;omega
  have d9:e4 (view w M) e (Yp.cut l off m++bs) (olds.toArray++news.toArray++Builtin.zeroCells (ct e (dz e)).cells (grownCap w (m+bs.length) cap bc-(m+bs.length))) 0:=by
   refine eV.row ?_ ?_
   .rw[<- cP,jv,cq];exact iq _ n0
   rw[tU];exact Ge
  have:=DU (K:=K) (w0:=w0) (phx:=phx) (M:=M) (B:=cU B id .e') (w:=w) bD (id:=jU) (by rw[d6 _ _ eC];exact gi)
   (w':=w.drew.alloc (.cells (olds.toArray++news.toArray++Builtin.zeroCells (ct e (dz e)).cells (grownCap w (m+bs.length) cap bc-(m+bs.length))) bc))
   rfl rfl rfl (by rw[iv];exact E6 _) (q4 w.drew _) dB (l:=Yp.cut l off m++bs) (q3 w.drew _) (xM _) (rN w M) d9 (cap:=grownCap w (m+bs.length) cap bc) (by rw[cq];exact n0) nZ (by rw[cP];exact bU _) false (λh=>by cases h)
  obtain⟨phx',ay,cn,aN,R⟩:=this;rw[cq]at R;exact⟨phx',ay,cn,e1.trans aN,R⟩
 rcases vu with⟨O,ad,R⟩|⟨b,o,n,cap,O,R,af,aq,a8⟩
 .subst O;subst R
  have ng:Yp.cut l off 0=[]:=by simp[Yp.cut]
  by_cases hy:bs.length=0
  .have nl:bs=[]:=k3.1 hy
   subst nl;have aj:news=[]:=k3.1 (by rw[vc];simp);subst aj;refine⟨_,_,UB (P:=P) ht aL aF g1 (by rw[bw];exact hx),?_⟩;obtain⟨bD,e1⟩:=hm.e' id;rw[ng];obtain⟨cn,aN⟩:=bD.uW (id:=jU) (by rw[d6 _ _ eC];exact gi) (.ob e ([]++[])) none (λ_ y hy=>by cases hy) (λ_ y hy=>by cases hy) (λ_=>⟨dB,.inl ⟨lU _ _ _,rfl⟩⟩);refine⟨_,_,cn,e1.trans aN,?_⟩;simp only[a?,dZ,bM,eM];exact⟨.inl ⟨rfl,ad,rfl⟩,λh=>by cases h⟩
  exact CD (olds:=[]) (U' _ _ _) (by rw[ng];exact eV.nil e) J
 subst R;rcases dD.2 with⟨bF,_⟩|⟨b',di,c,el,fz,bF,b3,dp,fR,gq⟩
 .rw[O]at bF;cases bF
 rw[O]at bF;cases bF;have He:=dp.cut bY;have aK:m5 P w e.size m (.slice (some ⟨b,o+off*e.size,none⟩) m cap) (cF c (o+off*e.size) (m*e.size)):=by
  have:=U? (P:=P) (cap:=cap) b3 He
  rwa [eB]at this
 by_cases hg:cap<m+bs.length
 .have:=He.r'
  rw[eB]at this;exact CD aK this hg
 have Sz:m+bs.length<=cap:=J;have le:(m+bs.length)*e.size<=cap*e.size:=iq _ Sz;rw[fJ]at le a8;obtain⟨w',ah,cK,hp,nf⟩:=M' (P:=P) (w:=w) (ty:=ty) ht aL aF g1 (x:=x) (n:=bs.length) (news:=news) (by rw[bw];exact hx) (b:=b) (o:=o+off*e.size) (sLen:=m) (sCap:=cap) Sz b3 fR (by rw[bw];omega) b?.one;rw[bw]at nf;have hK:o+off*e.size+m*e.size+news.length<=c.size:=J;have cP:=agj nf hK;refine⟨_,w',ah,?_⟩;obtain⟨cn,Y_⟩:=hm.put (id:=id) (x:=(b,o,c.size)) (w':=w') (by rw[aB];rfl) O gq hp.os hp.tape hp.output hp.size hp.other .e' (by rw[aB];trivial) λaA=>trivial;obtain⟨gJ,dJ⟩:=cn.uW (id:=jU) (by rw[d6 _ _ eC];exact gi) (.ob e (Yp.cut l off m++bs)) (some (b,o+off*e.size,c.size)) (λ_ y hy=>by cases hy;exact hm.own id (by rw[aB];rfl) (b,o,c.size) O) (λ_ y hy j an z bj=>by
   cases hy;have dK:j≠id:=λe=>by subst e;rw[eM]at an;cases an
   rw[d6 _ _ dK]at an;exact hm.sep j id dK an (by rw[aB];rfl) z (b,o,c.size) bj O) (λaA=>by
  refine⟨dB,.inr ⟨b,o+off*e.size,cK,el,fz,by rw[lU,cP],hp.iQ,?_,fR.same cP,gq⟩⟩;refine eV.row (by rw[cE,eB,fJ];omega) ?_;rw[cE,eB,fJ,Nk,afV nf hK (bU _),<- vc,afW nf hK];have bY:=Y_.vw;have dN:=(He.mono bY).r';rw[eB]at dN;exact dN.append ⟨vc,λi x hi=>(b?.2 i x hi).mono bY⟩)
 refine⟨_,_,gJ,Y_.trans dJ,?_⟩;simp only[a?,dZ,bM,eM];refine⟨.inr ⟨b,o+off*e.size,c.size,cap,lU _ _ _,by rw[Nat.zero_mul,td,cE,eB],by rw[cE,eB];exact Sz,aq,by rw[jv];omega⟩,λh=>by cases h⟩
def aiO{e:ae}(dB:0<e.size){t u ty bc:TypeId}{d:TypeDesc}(ht:P.underlying t=some (.slice bc))(aA:(cO P e).1 bc)(aL:P.underlying u=some d)(aF:d=.string\/∃q,d=.slice q)
  (hm:Mem K w0 phx M B w) {x:Value} {bs:List e.aD} {news:List Value} (hx:m5 P w e.size bs.length x news) (b?:eV (view w M) e bs news)
  {id:Nat} {l:List e.aD} {d':Bool} {vs:Value} (aB:B id=.ob e l) (ah:bM phx (view w M) B (.own id d') vs) (fV:g7 e (aT l+aT bs)=true) {jU:Nat} (gi:B jU=.new) :
  ∃r w',(Builtin.append_ #[t,u] ty #[vs,x]).run P w=.ok r w'/\dq K w0 phx M B w (cU (cU B id .e') jU (.ob e (l++bs))) (.own jU false) r w':=by
 simp only[bM,aB]at ah;have:=WR (ty:=ty) dB ht aA aL aF hm hx b? aB (off:=0) (m:=l.length) J ah.1 fV gi
 rwa [Cc]at this
def WQ{e:ae}(dB:0<e.size){t u ty bc:TypeId}{d:TypeDesc}(ht:P.underlying t=some (.slice bc))(aA:(cO P e).1 bc)(aL:P.underlying u=some d)(aF:d=.string\/∃q,d=.slice q)
  (hm:Mem K w0 phx M B w) {x:Value} {bs:List e.aD} {news:List Value} (hx:m5 P w e.size bs.length x news) (b?:eV (view w M) e bs news)
  {l:List e.aD} {ad:Option Addr} (cv:aH (view w M) (.sl e) l [.slice ad l.length l.length]) (fV:g7 e (aT l+aT bs)=true) :
  (∃r w',(Builtin.append_ #[t,u] ty #[.slice ad l.length l.length,x]).run P w=.ok r w'/\dq K w0 phx M B w B (.sc (.sl e) (l++bs)) r w') /\
  (bs.length≠0->∀jU,B jU=.new->∃r w',(Builtin.append_ #[t,u] ty #[.slice ad l.length l.length,x]).run P w=.ok r w'/\dq K w0 phx M B w (cU B jU (.ob e (l++bs))) (.own jU false) r w'):=by
 obtain⟨i,g1,bw,cW,gg⟩:=nc aA;have CL:=M8 fV cW;have i5:=M9 fV;have vc:=b?.1;obtain⟨olds,aK,Gf⟩:∃olds,m5 P w e.size l.length (.slice ad l.length l.length) olds/\eV (view w M) e l olds:=by
  obtain⟨a',cK,bG,_,_,b_⟩:=aH.ic.1 cv;simp only[yQ,Value.slice.injEq,and_true]at bG;rcases b_ with b_|⟨b,o,c,el,fz,co,dl,eQ⟩
  .subst b_;exact⟨[],U' _ _ _,eV.nil e⟩
  rw[<- bG.1]at co;subst co;exact⟨_,U? (jr.1 dl).2 eQ,e4.r' eQ⟩
 by_cases hy:bs.length=0
 .have nl:bs=[]:=k3.1 hy
  subst nl;have aj:news=[]:=k3.1 (by rw[vc];simp);subst aj;refine⟨?_,λh=>absurd hy h⟩;have jR:(Builtin.append_ #[t,u] ty #[.slice ad l.length l.length,x]).run P w=.ok (.slice ad l.length l.length) w:=by have e1:=hx.1 w;have aN:=hx.2 w rfl;rw[<- bw]at aN;simp only[gw]at e1 aN;cases ad<;>(rcases aF with rfl|⟨q,rfl⟩<;>simp[Builtin.append_,run_underlying ht,run_underlying aL,Go.sizeOf,typeInfo,g1,e1,aN,storeCells])
  refine⟨_,_,jR,dq.same hm rfl ?_⟩;rw[hF];exact⟨_,cv,rfl⟩
 have hg:l.length<l.length+bs.length:=J;have ah:=UA (P:=P) (w:=w) (ty:=ty) ht aL aF g1 gg (x:=x) (n:=bs.length) (news:=news) (by rw[bw];exact hx) (ad:=ad) (sLen:=l.length) (sCap:=l.length) (olds:=olds) (by rw[bw];exact aK) hg i5 CL;have n0:=grownCap_ge w (l.length+bs.length) l.length bc;have nZ:=grownCap_le_maxLen w (l.length+bs.length) l.length bc i5;have Ge:=Gf.append b?;generalize zB:(olds.toArray++news.toArray++Builtin.zeroCells (ct e (dz e)).cells (grownCap w (l.length+bs.length) l.length bc-(l.length+bs.length)))=gF at ah;have tU:cF gF 0 ((l++bs).length*e.size)=olds++news:=by rw[<- zB,rF,<- Ge.1];simp only[JW,nD];exact wz
 have cP:grownCap w (l.length+bs.length) l.length bc*e.size=gF.size:=by rw[<- zB,wG,size_zeroCells,s'];simp only[wG,pf,rT,Gf.1,vc,<- fJ];congr 1;omega
 have d9:e4 (view w M) e (l++bs) gF 0:=by
  refine eV.row ?_ ?_
  .rw[<- cP,jv,cE];exact iq _ n0
  rw[tU];exact Ge
 refine⟨⟨_,_,ah,?_⟩,λ_ jU gi=>⟨_,_,ah,?_⟩⟩
 .obtain⟨bD,e1⟩:=hm.CD (w':=w.drew.alloc (.cells gF bc)) rfl rfl rfl (by rw[iv];exact qa _) (q4 w.drew _) (λ_=>False) (λb h=>h.elim)
  refine⟨_,_,bD,e1,[_],aH.ic.2 ⟨some ⟨w.heap.size,0,none⟩,grownCap w (l.length+bs.length) l.length bc,by rw[cE],by rw[cE];exact n0,nZ,.inr ⟨w.heap.size,0,gF,bc,(0,0),rfl,?_,(d9.mono e1.vw).1,λi x hi=>(d9.mono e1.vw).2 i x hi⟩⟩,rfl⟩;refine jr.2 ⟨λh=>h.elim (λh => ?_) id,q3 w.drew _⟩;have:=hm.mlt _ h;omega
 have:=DU (K:=K) (w0:=w0) (phx:=phx) (M:=M) (B:=B) (w:=w) hm (id:=jU) gi
  (w':=w.drew.alloc (.cells gF bc)) rfl rfl rfl (by rw[iv];exact E6 _) (q4 w.drew _) dB (l:=l++bs) (q3 w.drew _) (xM _) (rN w M) d9 (cap:=grownCap w (l.length+bs.length) l.length bc) (by rw[cE];exact n0) nZ (by rw[cP];exact bU _) false (λh=>by cases h)
 rw[cE]at this;exact this
def aiN{e:ae}(dB:0<e.size){t u ty bc:TypeId}{d:TypeDesc}(ht:P.underlying t=some (.slice bc))(aA:(cO P e).1 bc)(aL:P.underlying u=some d)(aF:d=.string\/∃q,d=.slice q)
  (hm:Mem K w0 phx M B w) {x:Value} {bs:List e.aD} {news:List Value} (hx:m5 P w e.size bs.length x news) (b?:eV (view w M) e bs news) (fV:g7 e (aT bs)=true) {jU:Nat} (gi:B jU=.new) :
  ∃r w',(Builtin.append_ #[t,u] ty #[.slice none 0 0,x]).run P w=.ok r w'/\dq K w0 phx M B w (cU B jU (.ob e bs)) (.own jU false) r w':=by
 by_cases hy:bs.length=0
 .have nl:=k3.1 hy
  subst nl;have aj:=k3.1 (by rw[b?.1];simp);obtain⟨i,g1,bw,cW,gg⟩:=nc aA;refine⟨_,_,UB (P:=P) ht aL aF g1 (by grind),?_⟩;obtain⟨cn,aN⟩:=hm.uW (id:=jU) gi (.ob e []) none (λ_ y hy=>by cases hy) (λ_ y hy=>by cases hy) (λ_=>⟨dB,.inl ⟨lU _ _ _,rfl⟩⟩);refine⟨_,_,cn,aN,?_⟩;simp only[a?,dZ,bM,eM];exact⟨.inl ⟨rfl,none,rfl⟩,λh=>by cases h⟩
 have:=(WQ (ty:=ty) dB ht aA aL aF hm hx b? (l:=[]) (ad:=none) (aH.ic.2 ⟨none,0,rfl,bU _,J,.inl rfl⟩) (by simpa[aT]using fV)).2 hy jU gi
 grind
def awn{t u ty bc:TypeId}{i:TypeInfo}{z:Value}(ht:P.underlying t=some (.slice bc))(aL:P.underlying u=some (.int .i64))(hi:P.info? bc=some i)(bj:i.zero=some z){n:Int}(ao:0<=n)(aj:0<n.toNat)
  (i5:n.toNat<=maxLen) (hK:n.toNat*i.bytes<=140737488355328) (ac:0<i.size) :
  (Builtin.append_ #[t,u] ty #[.slice none 0 0,.int .i64 n]).run P w =
   .ok (.slice (some ⟨w.heap.size,0,none⟩) n.toNat (grownCap w n.toNat 0 bc))
    (w.drew.alloc (.cells (Builtin.zeroCells z.cells n.toNat++Builtin.zeroCells z.cells (grownCap w n.toNat 0 bc-n.toNat)) bc)):=by
 have C0:=ahA .i64 n (by show(-9223372036854775808:Int)<=n;omega) (by show n<=(9223372036854775807:Int);unfold maxLen at i5;omega);have bm:¬n<0:=J;have hb1:¬(281474976710656<n*(i.bytes:Int)):=by
  grind
 have eC:¬(n.toNat*i.size=0):=by have:=Nat.mul_pos aj ac;omega
 have aqm:=J;have aqp:=J;have pF:=J;have RB:=J;have apK:=growslice_fits (need:=n.toNat) (old:=0) J hK;have RA:¬(281474976710656<Builtin.nextslicecap n.toNat 0*i.bytes):=J;have aqe:¬n<=0:=J;have CG:¬(9223372036854775807<n):=by unfold maxLen at i5;omega
 have aqd:max n 0=n:=J;simp[Builtin.append_,run_underlying ht,run_underlying aL,Go.sizeOf,typeInfo,zeroValue,hi,bj,C0,bm,hb1,eC,pF,aqm,aqp,RB,RA,Question.forced,asInt,asIntOf,Go.newRow,grownCap,Builtin.firstCells,aqe,CG,aqd,ao]
end
end Yp
namespace Yp
open Go
def nF:=@List.take_length
def pi:=@List.map_cons
def yI:=@List.foldl_cons
variable {P:Program}
section
variable {K:Kp} {w0 w:World} {phx:cc} {M:Nat->Prop} {B B':Nat->aQ} {g:Nat->au} {H:cg}
def WS{e:ae}{x:au}{gU:Value}{bs:List e.aD}(h:(Fd e x).aX g B=some (bs,B'))(hm:Mem K w0 phx M B w)(ah:a? phx (view w M) B x gU):
  B'=B/\∃news,m5 P w e.size bs.length gU news/\eV (view w M) e bs news:=by
 by_cases ac:∃l,x=.sc .str l
 .obtain⟨l,rfl⟩:=ac
  obtain⟨ai,rfl⟩:=dE h;obtain⟨bC,rfl⟩:=jf ai;subst bC;rw[a?.str ah];exact⟨rfl,_,axz l,eV.bytes l⟩
 have hx:Fd e x=lT false (.sl e) x:=by
  cases x with
  |sc t l=>
   cases t with
   |str=>exact absurd ⟨_,rfl⟩ ac
   |_=>rfl
  |_=>rfl
 rw[hx]at h;obtain⟨aB,ad,cap,rfl,R⟩:=UH h hm ah;refine⟨aB,?_⟩;rcases R with R|⟨b,o,c,el,fz,rfl,bw,cW⟩
 .subst R;exact⟨[],U' _ _ _,eV.nil e⟩
 exact⟨_,U? bw cW,cW.r'⟩
def atg{e:ae}{x:au}{gU:Value}{bs:List e.aD}(aj:Tq x=true)(h:(Fd e x).aX g B=some (bs,B'))(ah:a? phx (view w M) B x gU):bs.length≠0:=by
 cases x<;>try(cases aj)
 rename_i id d';cases d'<;>try(cases aj)
 have ac:bM phx (view w M) B (.own id true) gU:=ah;have bL:(sV false id e).aX g B=some (bs,B'):=h;simp only[sV,aw.aX]at bL;simp only[bM]at ac;generalize aB:B id=bl at bL ac;cases bl<;>try(cases bL)
 .obtain⟨y,cR,O,R⟩:=aw.cy bL
  obtain⟨ai,rfl⟩:=dE O;obtain⟨fp,rfl⟩:=jf ai;cases R
  grind
 obtain⟨ai,rfl⟩:=dE bL;obtain⟨fp,rfl⟩:=jf ai
 grind
def afZ{t:ae}{tid:TypeId}(h:(cO P t).1 tid)(ac:LQ t=true):∃d,P.underlying tid=some d/\(d=.string\/∃q,d=.slice q):=by
 cases t<;>try(cases ac)
 .exact⟨_,h.1,.inl rfl⟩
 obtain⟨⟨bc,aL,_⟩,_⟩:=h;exact⟨_,aL,.inr ⟨_,rfl⟩⟩
def aiL{e u:ae}{tid uid ty:TypeId}(ht:(cO P (.sl e)).1 tid)(aL:(cO P u).1 uid)(a2:LQ u=true){s x r:au}{vs gU:Value}(h:(Pc d e s x).aX g B=some (r,B'))
  (hm:Mem K w0 phx M B w) (vx:a? phx (view w M) B s vs) (mb:a? phx (view w M) B x gU) :
  ∃v w',(Builtin.append_ #[tid,uid] ty #[vs,gU]).run P w=.ok v w'/\dq K w0 phx M B w B' r v w':=by
 unfold Pc at h;replace h:=gx h;obtain⟨dB,h⟩:=h;have dB:0<e.size:=by simpa using dB
 obtain⟨bs,cR,O,R⟩:=aw.cy h;clear h;obtain⟨rfl,news,hx,b?⟩:=WS (P:=P) O hm mb;obtain⟨⟨bc,pI,aA⟩,_⟩:=ht;obtain⟨Ce,xp,aF⟩:=afZ aL a2;cases s<;>try(cases R;done)
 case nil =>replace R:=iK R;obtain⟨fV,R⟩:=R;obtain⟨_,gi,rfl,rfl⟩:=vQ R;simp only[a?,dZ,bM]at vx;subst vx;exact aiN dB pI aA xp aF hm hx b? fV gi
 case own id d'=>
  simp only[aw.aX]at R;generalize aB:cR id=bl at R;cases bl<;>try(cases R;done)
  rename_i bC l;obtain⟨g6,b4,af,R⟩:=aw.cy R;obtain⟨ai,rfl⟩:=dE af;obtain⟨fp,rfl⟩:=jf ai;subst fp;replace R:=iK R;obtain⟨fV,R⟩:=R;simp only[aw.aX]at R;obtain⟨_,gi,rfl,rfl⟩:=vQ R;have eC:16*d≠id:=λe=>by rw[e,eM]at gi;cases gi
  rw[d6 _ _ eC]at gi;exact aiO dB pI aA xp aF hm hx b? aB vx fV gi
 case osl id off n=>
  simp only[aw.aX]at R;have ac:bM phx (view w M) cR (.osl id off n) vs:=vx;simp only[bM]at ac;generalize aB:cR id=bl at R ac;cases bl<;>try(cases R;done)
  rename_i bC l;obtain⟨g6,b4,af,R⟩:=aw.cy R;obtain⟨ai,rfl⟩:=dE af;obtain⟨fp,rfl⟩:=jf ai;subst fp;replace R:=iK R;obtain⟨fV,R⟩:=R;simp only[aw.aX]at R;obtain⟨_,gi,rfl,rfl⟩:=vQ R;have eC:16*d≠id:=λe=>by rw[e,eM]at gi;cases gi
  rw[d6 _ _ eC]at gi;exact WR dB pI aA xp aF hm hx b? aB ac.1 ac.2.1 fV gi
 case csl bC l=>
  obtain⟨g6,b4,af,R⟩:=aw.cy R;obtain⟨ai,rfl⟩:=dE af;obtain⟨fp,rfl⟩:=jf ai;subst fp;replace R:=iK R;obtain⟨fV,R⟩:=R;obtain⟨ad,rfl,cv⟩:=vx;have key:=WQ (ty:=ty) dB pI aA xp aF hm hx b? cv fV;cases aj:Tq x with
  |true =>rw[aj]at R;obtain⟨_,gi,rfl,rfl⟩:=vQ R;exact key.2 (atg aj O mb) _ gi
  |false =>rw[aj]at R;cases R;exact key.1
def aiM{e:ae}(dB:0<e.size){tid uid ty:TypeId}(ht:(cO P (.sl e)).1 tid)(aL:P.underlying uid=some (.int .i64)){n:Int}(ao:0<=n)(fV:g7 e n.toNat=true){id:Nat}(gi:B id=.new)(hm:Mem K w0 phx M B w):
  ∃v w',(Builtin.append_ #[tid,uid] ty #[.slice none 0 0,.int .i64 n]).run P w=.ok v w'/\dq K w0 phx M B w (cU B id (.ob e (bO n.toNat e.zero))) (.own id false) v w':=by
 obtain⟨⟨bc,pI,aA⟩,_⟩:=ht;obtain⟨i,g1,bw,cW,gg⟩:=nc aA;by_cases aj:n.toNat=0
 .have bj:n=0:=J
  subst bj;refine⟨.slice none 0 0,w,by simp[Builtin.append_,run_underlying pI,run_underlying aL,Go.sizeOf,typeInfo,g1,asInt,asIntOf,IntKind.wrap,IntKind.bits],?_⟩;obtain⟨cn,aN⟩:=hm.uW (id:=id) gi (.ob e (bO (0:Int).toNat e.zero)) none (λ_ y hy=>by cases hy) (λ_ y hy=>by cases hy) (λ_=>⟨dB,.inl ⟨lU _ _ _,rfl⟩⟩);refine⟨_,_,cn,aN,?_⟩;simp only[a?,dZ,bM,eM];exact⟨.inl ⟨rfl,none,rfl⟩,λh=>by cases h⟩
 have CL:=M8 fV cW;have i5:=M9 fV;have ah:=awn (P:=P) (w:=w) (ty:=ty) pI aL g1 gg ao J i5 CL (by rw[bw];exact dB);refine⟨_,_,ah,?_⟩;have n0:=grownCap_ge w n.toNat 0 bc;have nZ:=grownCap_le_maxLen w n.toNat 0 bc i5;have Gr:∀m,Builtin.zeroCells (ct e (dz e)).cells m=madeCells (dz e).toArray (m*e.size):=λm=>by rw[s'];simp[Builtin.zeroCells,madeCells,rT]
 have cP:(Builtin.zeroCells (ct e (dz e)).cells n.toNat++Builtin.zeroCells (ct e (dz e)).cells (grownCap w n.toNat 0 bc-n.toNat)).size=grownCap w n.toNat 0 bc*e.size:=by rw[wG,size_zeroCells,size_zeroCells,s'];simp only[pf,rT,<- fJ];congr 1;omega
 have d9:e4 (view w M) e (bO n.toNat e.zero) (Builtin.zeroCells (ct e (dz e)).cells n.toNat++Builtin.zeroCells (ct e (dz e)).cells (grownCap w n.toNat 0 bc-n.toNat)) 0:=by
  have O:=Oq (view w M) dB (bU n.toNat);rw[<- Gr]at O;refine eV.row (by rw[cP,jv];simp only[bO,ox];exact iq _ n0) ?_;have R:=O.r';have hl:(bO n.toNat e.zero).length*e.size=(Builtin.zeroCells (ct e (dz e)).cells n.toNat).size:=by rw[size_zeroCells,s'];simp[bO,rT]
  have abJ:cF (Builtin.zeroCells (ct e (dz e)).cells n.toNat++Builtin.zeroCells (ct e (dz e)).cells (grownCap w n.toNat 0 bc-n.toNat)) 0 ((bO n.toNat e.zero).length*e.size)=cF (Builtin.zeroCells (ct e (dz e)).cells n.toNat) 0 ((bO n.toNat e.zero).length*e.size):=by rw[hl];simp only[cF,JW,nD];have:(Builtin.zeroCells (ct e (dz e)).cells n.toNat).size=(Builtin.zeroCells (ct e (dz e)).cells n.toNat).toList.length:=bh;rw[this,wz,nF]
  rw[abJ];exact R
 have:=DU (K:=K) (w0:=w0) (phx:=phx) (M:=M) (B:=B) (w:=w) hm (id:=id) gi
  (w':=w.drew.alloc (.cells (Builtin.zeroCells (ct e (dz e)).cells n.toNat++Builtin.zeroCells (ct e (dz e)).cells (grownCap w n.toNat 0 bc-n.toNat)) bc))
  rfl rfl rfl (by rw[iv];exact E6 _) (q4 w.drew _) dB (l:=bO n.toNat e.zero) (q3 w.drew _) (xM _) (rN w M) d9 (cap:=grownCap w n.toNat 0 bc) (by simpa[bO]using n0) nZ (by rw[cP];exact bU _) false (λh=>by cases h)
 have cq:(bO n.toNat e.zero).length=n.toNat:=by simp[bO]
 rw[cq]at this;exact this
def Z7{c:Array Value}{el:TypeId}{fz:Nat×Nat}(hf:h4 c fz)(o:Nat)(Y:w.heap[b]?=some (.cells c el fz)):
  ∃w',(markStringish ⟨b,o,none⟩).run P w=.ok () w'/\∃pA,h4 c pA/\JF w w' b (.cells c el pA):=by
 refine⟨w.freeze ⟨b,c.size,none⟩ 1,?_,(if fz.1==fz.2 then(c.size,c.size+1) else(min fz.1 c.size,max fz.2 (c.size+1))),?_,?_⟩
 .have ac:w.shape? b=some (el,c.size):=by simp[World.shape?,Y]
  simp[markStringish,shape,Sem.run,ac,freeze]
 .unfold h4 at hf ⊢
  grind
 refine⟨rfl,rfl,rfl,by simp[World.freeze],?_,λj an => ?_⟩
 .simp[World.freeze,JQ,Y]
 simp[World.freeze,JQ,nI an]
def al2{rG c6:TypeId}(ac:P.underlying rG=some .string)(ht:(cO P (.sl (.int .u8))).1 c6){id:Nat}(hid:B id=.new)(hl:l.length<=140737488355328)(hm:Mem K w0 phx M B w):
  ∃v w',(convert rG c6 (.string ⟨l.toArray⟩)).run P w=.ok v w'/\dq K w0 phx M B w (cU B id (.ob (.int .u8) (l:List (bH .u8)))) (.own id false) v w':=by
 obtain⟨⟨bc,aL,aA⟩,_⟩:=ht;have i5:l.length<=maxLen:=by unfold maxLen;omega
 have n0:=grownCap_ge w l.length 0 bc;have nZ:=grownCap_le_maxLen w l.length 0 bc i5;have cP:(⟨l.toArray⟩:ByteArray).size=l.length:=rfl;generalize zB:((⟨l.toArray⟩:ByteArray).data.map (λb=>Value.int .u8 (b.toNat:Int))++Array.replicate (grownCap w l.length 0 bc-l.length) (.int .u8 0))=gF;have lK:gF.size=grownCap w l.length 0 bc:=by rw[<- zB];simp;omega
 obtain⟨w',O,pA,apQ,R⟩:=Z7 (P:=P) (w:=w.drew.alloc (.cells gF bc)) (b:=w.heap.size) (xM gF) 0 (q3 w.drew _);refine⟨.slice (some ⟨w.heap.size,0,none⟩) l.length (grownCap w l.length 0 bc),w',?_,?_⟩
 .have apS:(Question.appendCap l.length 0 bc).cut (w.tape w.drawn (Question.appendCap l.length 0 bc))=grownCap w l.length 0 bc:=rfl
  have azh:(Array.map (λb=>Value.int .u8 (b.toNat:Int)) l.toArray++Array.replicate (grownCap w l.length 0 bc-l.length) (.int .u8 0))=gF:=zB;have pH:=aA.1;unfold convert;simp only[Sem.run_bind,run_underlying ac,run_underlying aL,Result.andThen,run_underlying pH];unfold Conv.stringToBytes;simp only[Sem.run_bind,run_choose_drew,Question.forced,O3,if_false,Result.andThen,cP,apS,Go.newRow,run_newObj_alloc,Sem.run_pure];rw[zB];have sk:(markStringish ⟨w.drew.heap.size,0,none⟩).run P (w.drew.alloc (.cells gF bc))=.ok () w':=O;simp only[sk,Result.andThen];rfl
 have d9:e4 (view w M) (.int .u8) (l:List (bH .u8)) gF 0:=by
  refine eV.row ?_ ?_
  .simp only[ae.size,mw];rw[lK]
   show 0+l.length<=_;omega
  have:cF gF 0 ((l:List (bH .u8)).length*(ae.int .u8).size)=l.map λb=>Value.int .u8 b.toNat:=by rw[rF,<- zB];simp only[ae.size,mw,nD,JW,Array.toList_map];have hl:((⟨l.toArray⟩:ByteArray).data.toList.map λb=>Value.int .u8 (b.toNat:Int)).length=l.length:=bh;show List.take l.length _=_;rw[<- hl];exact wz
  exact Eq.mpr (congrArg (eV (view w M) (ae.int .u8) l) this) (eV.bytes l)
 refine DU (K:=K) (w0:=w0) (phx:=phx) (M:=M) (B:=B) (w:=w) hm hid R.os R.tape R.output (by rw[R.size,iv];exact E6 _) (λb Y=>(R.other b J).trans (q4 w.drew _ b Y)) (e:=.int .u8) bP (l:=(l:List (bH .u8))) R.iQ ?_ (rN w M) d9 (cap:=grownCap w l.length 0 bc) n0 nZ ?_ false (λh=>by cases h)
 .exact apQ
 simp only[ae.size,mw];omega
def al1{t:TypeId}(ht:(cO P (.sl (.int .u8))).1 t){id:Nat}{e:ae}{l:List e.aD}{ck:Value}(aB:B id=.ob e l)(hm:Mem K w0 phx M B w)(ah:bM phx (view w M) B (.own id true) ck):
  ∃v w',(convert t t ck).run P w=.ok v w'/\dq K w0 phx M B w B (.own id true) v w':=by
 obtain⟨⟨bc,aL,aA⟩,_⟩:=ht;have dD:=hm.blks id;rw[aB]at dD;have CV:=ah;simp only[bM,aB]at ah;obtain⟨vu,eC⟩:=ah;rcases vu with⟨O,_⟩|⟨b,o,n,cap,O,R,af,aq,a8⟩
 .exact absurd O (eC trivial)
 subst R;rcases dD.2 with⟨bF,_⟩|⟨b',di,c,el,fz,bF,b3,dp,fR,gq⟩
 .rw[O]at bF;cases bF
 rw[O]at bF;cases bF;obtain⟨w',bG,pA,b_,co⟩:=Z7 (P:=P) fR (o+0*e.size) b3;refine⟨.slice (some ⟨b,o+0*e.size,none⟩) l.length cap,w',?_,?_⟩
 .have pH:=aA.1
  unfold convert;simp only[Sem.run_bind,run_underlying aL,Result.andThen_ok,beq_self_eq_true,run_underlying pH,bG,Sem.run_pure]
 obtain⟨bD,e1⟩:=hm.put (id:=id) (x:=(b,o,c.size)) (w':=w') (by rw[aB];rfl) O gq co.os co.tape co.output co.size co.other (.ob e l) (by rw[aB];exact⟨rfl,rfl⟩) λhx=>
  ⟨dD.1,.inr ⟨b,o,c,el,pA,O,co.iQ,dp.mono hx.vw,b_,gq⟩⟩
 have Gd:cU B id (.ob e l)=B:=by
  funext j;by_cases an:j=id
  .subst an;rw[eM,aB]
  rw[d6 _ _ an]
 rw[Gd]at bD e1;exact⟨phx,M,bD,e1,CV.mono e1.pl e1.vw e1.bl⟩
def al0{rG c6:TypeId}(ac:(cO P (.sl (.int .u8))).1 rG)(aF:P.underlying c6=some .string){a:au}{ck:Value}(h:(lT false (.sl (.int .u8)) a).aX g B=some ((l:List (bH .u8)),B'))
  (hm:Mem K w0 phx M B w) (ah:a? phx (view w M) B a ck):B'=B/\(convert rG c6 ck).run P w=.ok (.string ⟨l.toArray⟩) w:=by
 obtain⟨⟨bc,aL,aA⟩,_⟩:=ac;obtain⟨aB,ad,cap,rfl,R⟩:=UH h hm ah;refine⟨aB,?_⟩;rw[run_convert_bytes_string w rG c6 bc _ _ _ aL aA.1 aF];rcases R with R|⟨b,o,c,el,fz,rfl,bw,cW⟩
 .have tK:=R
  subst tK;cases ad with
  |none=>simp[Conv.bytesToString];rfl
  |some ad =>rfl
 have b?:=cW.r';have tU:cF c o ((l:List (bH .u8)).length*(ae.int .u8).size)=(l.map λx=>(x.toNat:Int)).map (Value.int .u8):=by
  apply te;intro i;by_cases hi:i<l.length
  .have a8:=b?.2 i l[i] (jM hi)
   simp only[ae.size,mw]at a8 ⊢;have cS:=aH.ia.1 a8;have dN:((cF c o (l:List (bH .u8)).length).drop i)[0]?=some (Value.int .u8 (bH.to .u8 l[i])):=by have cx:=congrArg (λq:List Value=>q[0]?) cS;simp only[EK]at cx;exact cx
   rw[JK,td]at dN;rw[dN];simp[hi];rfl
  have hl:=b?.1;simp only[ae.size,mw]at hl ⊢;have GJ:(cF c o (l:List (bH .u8)).length).length=l.length:=hl
  grind
 have abv:=DV (P:=P) (w:=w) (b:=b) (o:=o) (n:=l.length) bw (by have:=cW.1;simp only[ae.size,mw]at this;exact this);have aqQ:=by have:=tU;simp only[ae.size,mw]at this;exact this
 rw[aqQ]at abv;have jR:=run_bytesToString (P:=P) w ⟨b,o,none⟩ l.length cap _ abv;have apM:∀(l:List UInt8) (s:ByteArray),(l.map λx=>(x.toNat:Int)).foldl (λr n=>r.push (UInt8.ofNat n.toNat)) s=⟨s.data++l.toArray⟩:=by
  intro l;induction l with
  |nil=>intro s;simp
  |cons x l ih =>simp only[pi,yI,ih];simp
 rw[apM]at jR;have:(⟨ByteArray.empty.data++l.toArray⟩:ByteArray)=⟨l.toArray⟩:=bh;rw[this]at jR;exact jR
end
end Yp
namespace Yp
open Go
def pg:=@List.all_eq_true
def pc:=@Bool.eq_iff_iff
def ov:=@List.mem_range
def wv:=@Bool.not_eq_true'
def Jx:=@Nat.one_pos
variable {P:Program}
def ae.nT:ae->Nat
 |.pair a b=>max (a.nT+1) b.nT
 |.ar _ e=>e.nT+1
 |_=>1
def ae.QE:∀t:ae,0<t.nT
 |.pair a b=>by have:=ae.QE b;simp only[ae.nT];omega
 |.ar _ e=>by simp only[ae.nT];omega
 |.bool=>by decide|.int _=>Jx|.str=>by decide|.sl _=>Jx|.unit=>by decide|.op _=>Jx|.fn _=>Jx
def oG(P:Program):ae->(TypeId->Bool)×(List Field->Bool)
 |.bool=>(λ_=>true,λ_=>false)
 |.int _=>(λ_=>true,λ_=>false)
 |.str=>(λ_=>true,λ_=>false)
 |.unit=>(λt=>!(P.stoodInHeld t),λl=>l.isEmpty)
 |.pair a b=>
  (λt=>!(P.stoodInHeld t)&&(match P.underlying t with
   | some (.struct e_) => (match e_.toList with | f :: r => !(f.name == "_") && (oG P a).1 f.type && (oG P b).2 r | [] => false)
   |_=>false),
   fun l => match l with | f :: r => !(f.name == "_") && (oG P a).1 f.type && (oG P b).2 r | [] => false)
 |.ar _ e=>(λt=>match P.underlying t with|some (.array _ bc)=>(oG P e).1 bc|_=>false,λ_=>false)
 |.sl _=>(λ_=>false,λ_=>false)
 |.op _=>(λ_=>false,λ_=>false)
 |.fn _=>(λ_=>false,λ_=>false)
def Qr(P:Program)(t:ae)(tid:TypeId):Bool:=t.isAgg&&Nat.ble t.nT 100&&(oG P t).1 tid && !(P.eqGuardType P.depth tid)
def KY{tid:TypeId}{e_:Array Field}(h:P.underlying tid=some (.struct e_)):P.fieldsOf tid=e_:=by simp[Program.fieldsOf,h]
def vK{t:ae}(h:t.isAgg=true)(cs:List Value):ct t cs=.agg cs.toArray:=by simp[ct,h]
def alO{t:ae}{tid:TypeId}(h:(cO P t).1 tid):P.cellsOf tid=t.size:=by obtain⟨i,O,R,_⟩:=nc h;simp[Program.cellsOf,O,R]
section
variable {H H':cg}
def Zm{e:ae}{bc:TypeId}(aA:(cO P e).1 bc){d n:Nat}{a b:List e.aD}{cs ds:Array Value}{w:World}(bu:a.length=n)(Y:b.length=n)
  (lK:cs.size=n*e.size) (apu:ds.size=n*e.size)
  (ih:∀j,j<n->(Op.equalIn d bc (ct e (cF cs (j*e.size) e.size)) (ct e (cF ds (j*e.size) e.size))).run P w=.ok (e.nV (ak a j e.zero) (ak b j e.zero)) w) :
  ∀is:List Nat,(∀j∈is,j<n)->(Op.eqItems d bc (P.cellsOf bc) cs ds is).run P w=.ok (is.all λj=>e.nV (ak a j e.zero) (ak b j e.zero)) w
 |[],_=>by simp[Op.eqItems]
 |j::is,an=>by
  have bm:=an j bh;have le:(j+1)*e.size<=n*e.size:=iq _ bm;rw[fJ]at le;have dF:=DW (P:=P) aA (cs:=cs) (off:=j*e.size) J w;have gr:=DW (P:=P) aA (cs:=ds) (off:=j*e.size) J w;have acc:=Zm aA bu Y lK apu ih is (λk ap=>an k (by grind));rw[alO aA]at acc ⊢;simp only[Op.eqItems,Sem.run_bind,dF,gr,Result.andThen_ok,ih j bm];cases h:e.nV (ak a j e.zero) (ak b j e.zero) with
  |false=>simp[h]
  |true=>simp[h,acc]
def aiB(f:α->α->Bool)(z:α){a b:List α}(bu:a.length=n)(Y:b.length=n):uX f a b=(List.range n).all λj=>f (ak a j z) (ak b j z):=by
 rw[pc];unfold uX;rw[pg,pg];constructor
 .intro h j an
  have l_:=ov.1 an;have:=h (a[j]'J,b[j]'J) (by rw[EJ];exact⟨j,fv,bh⟩)
  simpa[ak,nE,show j<a.length by omega,show j<b.length by omega]using this
 intro h p hp;obtain⟨j,an,rfl⟩:=EJ.1 hp;have l_:j<n:=by simp at an;omega
 have:=h j (ov.2 l_);simpa[ak,nE,show j<a.length by omega,show j<b.length by omega]using this
def KQ(w:World):∀(t:ae),
  (∀(tid:TypeId) (d:Nat) (x y:t.aD) (cs ds:List Value),(oG P t).1 tid=true->(cO P t).1 tid->aH H t x cs->aH H' t y ds->t.nT<=d->(Op.equalIn d tid (ct t cs) (ct t ds)).run P w=.ok (t.nV x y) w) /\
  (∀(l:List Field) (off d:Nat) (x y:t.aD) (cs ds:Array Value),(oG P t).2 l=true->(cO P t).2 l off->aH H t x (cF cs off t.size)->aH H' t y (cF ds off t.size)->off+t.size<=cs.size->off+t.size<=ds.size->t.nT<=d+1 ->
   (Op.eqFields d cs ds l).run P w=.ok (t.nV x y) w)
 |.bool=>by refine⟨λtid d x y cs ds _ hf hx hy aF => ?_,λl off d x y cs ds ai=>by cases ai⟩;obtain⟨n,rfl⟩:∃n,d=n+1:=⟨d-1,by simp only[ae.nT]at aF;omega⟩;have O:=aH.nP.1 hx;have R:=aH.nP.1 hy;subst O;subst R;exact run_equalIn_bool w n tid _ _ hf.1
 |.int k=>by refine⟨λtid d x y cs ds _ hf hx hy aF => ?_,λl off d x y cs ds ai=>by cases ai⟩;obtain⟨n,rfl⟩:∃n,d=n+1:=⟨d-1,by simp only[ae.nT]at aF;omega⟩;have O:=aH.ia.1 hx;have R:=aH.ia.1 hy;subst O;subst R;exact run_equalIn_int w n tid k k _ _ hf.1
 |.str=>by refine⟨λtid d x y cs ds _ hf hx hy aF => ?_,λl off d x y cs ds ai=>by cases ai⟩;obtain⟨n,rfl⟩:∃n,d=n+1:=⟨d-1,by simp only[ae.nT]at aF;omega⟩;have O:=aH.ml.1 hx;have R:=aH.ml.1 hy;subst O;subst R;have:=run_equalIn_string (P:=P) w n tid ⟨(x:List UInt8).toArray⟩ ⟨(y:List UInt8).toArray⟩ hf.1;rw[ByteArray.toList_eq,ByteArray.toList_eq]at this;exact this
 |.unit=>by
  refine⟨λtid d x y cs ds ai hf hx hy aF => ?_,λl off d x y cs ds ai hf hx hy O R aF => ?_⟩
  .obtain⟨n,rfl⟩:∃n,d=n+1:=⟨d-1,by simp only[ae.nT]at aF;omega⟩
   obtain⟨⟨e_,aL,qs⟩,_⟩:=hf;simp only[oG,wv]at ai;rw[vK rfl,vK rfl,run_equalIn_struct w n tid _ _ (by rw[KY aL];exact aL) ai,KY aL,qs];rfl
  simp only[oG,List.isEmpty_iff]at ai;subst ai;rfl
 |.pair a b=>by
  have Zx:∀(l:List Field) (off d:Nat) (x y:(ae.pair a b).aD) (cs ds:Array Value),(oG P (.pair a b)).2 l=true->(cO P (.pair a b)).2 l off->aH H (.pair a b) x (cF cs off (ae.pair a b).size)->aH H' (.pair a b) y (cF ds off (ae.pair a b).size) ->
    off+(ae.pair a b).size<=cs.size->off+(ae.pair a b).size<=ds.size->(ae.pair a b).nT<=d+1->(Op.eqFields d cs ds l).run P w=.ok ((ae.pair a b).nV x y) w:=by
   intro l off d x y cs ds ai hf hx hy O R aF;obtain⟨f,r,rfl,Sk,Gz,R7⟩:=hf;simp only[oG,cL,wv,beq_eq_false_iff_ne]at ai;obtain⟨⟨aj,bu⟩,Y⟩:=ai;have cP:(ae.pair a b).size=a.size+b.size:=rfl;have split:∀{K:cg} {z:(ae.pair a b).aD} {es:Array Value},aH K (.pair a b) z (cF es off (a.size+b.size))->off+(a.size+b.size)<=es.size->aH K a z.1 (cF es off a.size)/\aH K b z.2 (cF es (off+a.size) b.size):=by
    intro K z es bj bY;obtain⟨c1,c2,aA,bF,b3⟩:=aH.mh.1 bj;rw[Nk]at aA;have hl:(cF es off a.size).length=c1.length:=by rw[pW J,bF.length]
    obtain⟨e1,aN⟩:=List.append_inj aA hl;rw[e1,aN];exact⟨bF,b3⟩
   obtain⟨zR,mO⟩:=split hx O;obtain⟨ari,arj⟩:=split hy R;simp only[ae.nT]at aF;have dF:=DW (P:=P) Gz (cs:=cs) (off:=off) J w;have gr:=DW (P:=P) Gz (cs:=ds) (off:=off) J w;have bG:=(KQ w a).1 f.type d x.1 y.1 _ _ bu Gz zR ari J;have b_:=(KQ w b).2 r (off+a.size) d x.2 y.2 cs ds Y R7 mO arj J J J;simp only[Op.eqFields];rw[if_pos aj,Sk];simp only[Sem.run_bind,dF,gr,Result.andThen_ok,bG];show _=Result.ok (cY (a.nV x.1 y.1) (b.nV x.2 y.2)) w;cases h:a.nV x.1 y.1 with
   |false=>simp[h,cY]
   |true=>simp[h,cY,b_]
  refine⟨λtid d x y cs ds ai hf hx hy aF => ?_,Zx⟩;obtain⟨n,rfl⟩:∃n,d=n+1:=⟨d-1,by have:=ae.QE (.pair a b);omega⟩;obtain⟨⟨e_,aL,f,r,qs,aK,Gz,R7⟩,_⟩:=hf;simp only[oG,cL,wv,aL,qs]at ai;rw[vK rfl,vK rfl,run_equalIn_struct w n tid _ _ (by rw[KY aL];exact aL) ai.1,KY aL,qs];have eX:=hx.length;have f8:=hy.length;have bp:cF cs.toArray 0 (ae.pair a b).size=cs:=by simp[cF,<- eX]
  have ax:cF ds.toArray 0 (ae.pair a b).size=ds:=by simp[cF,<- f8]
  refine Zx (f::r) 0 n x y cs.toArray ds.toArray (by simp only[oG,cL,wv];exact ai.2) ⟨f,r,rfl,aK,Gz,by rw[jv];exact R7⟩ (by rw[bp];exact hx) (by rw[ax];exact hy) (by simp[eX]) (by simp[f8]) aF
 |.ar n e=>by
  refine⟨λtid d x y cs ds ai hf hx hy aF => ?_,λl off d x y cs ds ai=>by cases ai⟩;obtain⟨m,rfl⟩:∃m,d=m+1:=⟨d-1,by have:=ae.QE (.ar n e);omega⟩;obtain⟨⟨bc,aL,aA⟩,_⟩:=hf;simp only[oG,aL]at ai;obtain⟨i,hi,_⟩:=nc aA;simp only[ae.nT]at aF;obtain⟨cG,cQ,a3⟩:=aH.uY.1 hx;obtain⟨eT,ei,jx⟩:=aH.uY.1 hy;rw[vK rfl,vK rfl,run_equalIn_array w m _ _ aL hi];rw[Zm aA (a:=(x:List e.aD)) (b:=(y:List e.aD)) (n:=n) cG eT (by simp[cQ]) (by simp[ei]) (λj an => ?_) _ (λj an=>ov.1 an)]
  .show _=Result.ok (uX (λp q=>e.nV p q) (x:List e.aD) (y:List e.aD)) w
   rw[aiB _ e.zero cG eT]
  exact(KQ w e).1 bc m _ _ _ _ ai aA (a3 j _ (Ad J)) (jx j _ (Ad J)) J
 |.sl _=>by refine⟨λtid d x y cs ds ai=>(by cases ai),λl off d x y cs ds ai=>by cases ai⟩
 |.op _=>by refine⟨λtid d x y cs ds ai=>(by cases ai),λl off d x y cs ds ai=>by cases ai⟩
 |.fn _=>by refine⟨λtid d x y cs ds ai=>(by cases ai),λl off d x y cs ds ai=>by cases ai⟩
end
def pr(P:Program)(b8:Nat->Option ae)(C:Nat->Bool):Prop:=∀tid t,C tid=true->b8 tid=some t->Qr P t tid=true
def YC(P:Program)(b8:Nat->Option ae):∀(l:List Nat),(l.all λi=>match b8 i with|some t=>Qr P t i|none=>true)=true->pr P b8 (Hs l)
 |[],_=>λtid t h=>by cases h
 |i::r,h=>λtid t cv hT=>by
  simp only[uM,cL]at h;simp only[Hs]at cv;cases Y:Nat.beq i tid with
  |true=>rw[fB Y]at h;rw[hT]at h;exact h.1
  |false=>rw[Y]at cv;exact YC P b8 r h.2 tid t cv hT
end Yp