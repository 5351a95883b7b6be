/- A part of the proof of the statements of this seat: the engine that turns code into plain functions, and its soundness. No condition of its own. -/
import Derived.Test.YtoamgndhhiohaaaGreatDoorE1
import Derived.ProofKit
import Derived.OpenShut
import Derived.Recover
set_option linter.unusedVariables false
set_option linter.unusedSimpArgs false
set_option linter.defProp false
open _root_ renaming Array->cO,Array.replicate->hK,Bool->aE,False->fI,Int->O,List->ab,List.length->T,Nat->R,Nat.beq->cT,Nat.blt->hv,Option->au,Go.Program->d_,Go.TypeId->cD,Go.Value->aS,Go.World->bu,cond_false->k1,cond_true->km,Bool.false->ag,if_neg->aD,if_pos->aH,Option.none->aq,Option.some->J,Bool.true->af
noncomputable section
open Go Yp
variable {F f f0:R}
namespace Yp
open Go
def yF:=@Array.getElem?_replicate
def AZ:=@Array.getElem?_append_left
def wY:=@Array.getElem?_append_right
def Hn:=@Bool.not_true
variable {P:d_}
def agt:∀(n i:R) (s:bd),∃c':bd,c'.h=s.h/\c'.w=s.w/\(∀(γ:Type 1) (k:ey->γ),OC n i s.t k=k c'.t)/\(∀j,c'.cw j=s.cw j\/(i<=j/\(c'.cw j=.undef\/c'.cw j=.bad)))
 |0,i,s=>⟨s,rfl,rfl,λ_ _=>rfl,λ_=>.inl rfl⟩
 |n+1,i,s=>by
  obtain⟨c',Y,ac,av,aJ⟩:=agt n (i+1)<|s.mJ i .undef;refine⟨c',Y,ac,λγ k => ?_,λj => ?_⟩
  .simp only[OC,aaZ];exact av γ k
  rcases aJ j with h|⟨h,ce⟩
  .by_cases aF:j=i
   .subst aF
    right;refine⟨cx _,?_⟩;rw[h];exact s.Ix j .undef
   left;rw[h,s.xm _ aF]
  grind
def Ip(n:R):∀(vs:ab aP) (i:R) (s:bd),∃c':bd,c'.h=s.h/\c'.w=s.w/\(∀(γ:Type 1) (k:ey->γ),fill n vs i s.t k=k c'.t) /\
  ∀j,c'.cw j=s.cw j\/(∃v,i<=j/\vs[j-i]?=J v/\(c'.cw j=v\/c'.cw j=.bad))\/(i+T vs<=j/\(c'.cw j=.undef\/c'.cw j=.bad))
 |[],i,s=>by obtain⟨c',Y,ac,av,aJ⟩:=agt (n-i) i s;exact⟨c',Y,ac,av,λj=>(aJ j).imp id λh=>.inr ⟨by simpa using h.1,h.2⟩⟩
 |v::vs,i,s=>by
  obtain⟨c',Y,ac,av,aJ⟩:=Ip n vs (i+1)<|s.mJ i v;refine⟨c',Y,ac,λγ k => ?_,λj => ?_⟩
  .simp only[fill,zf,aaZ];exact av γ k
  rcases aJ j with h|⟨u,aF,h,ce⟩|⟨h,ce⟩
  .by_cases aF:j=i
   .subst aF
    right;left;refine⟨v,cx _,bP,?_⟩;rw[h];exact s.Ix j v
   left;rw[h,s.xm _ aF]
  .grind
  grind
def Us{H:cX}{phx:cV}{B:R->bm}:∀{ts:ab aw} {x:i_ ts} {vs:ab aS},qF H ts x vs->T (oG ts x)=T vs/\∀(j:R) (p:aP),(oG ts x)[j]?=J p->∃v:aS,vs[j]?=J v/\bI phx H B p v
 |[],x,vs,h=>by have h:vs=[]:=h;subst h;exact⟨rfl,λj p h=>by simp[oG]at h⟩
 |t::ts,x,vs,h=>by
  obtain⟨cs,eV,rfl,Y,ac⟩:=h;obtain⟨b0,bT⟩:=Us (phx:=phx) (B:=B) ac;refine⟨by simp[oG,b0],λj p aF => ?_⟩;cases j with
  |zero =>simp only[oG,T9,jN]at aF;subst aF;exact⟨_,rfl,cs,Y,rfl⟩
  |succ j =>simp only[oG,MI]at aF;obtain⟨v,av,aJ⟩:=bT j p aF;exact⟨v,aOD,aJ⟩
structure o'(P:d_)(E:dO):Prop where
 cp:ou P E.cp
 C:qS P E.cp E.C
 M:sf P E.M
 G:∀f s,E.G f=J s->h5 P f s
 K : ∀ g, E.K = J g → P.globalNamed "yett/sha.keys" = J g
 I:∀f g,E.I f=J g->lh P f g
 X:∀f s,E.X f=J s->jL P f s
 Q:∀f s,E.Q f=J s->Hd P E f s
 P:∀m t,E.Pn=J (m,t)->A_ P m t
def abh{w:bu}{X:R->Prop}{ts:ab aw}{x:i_ ts}{vs:ab aS}(ep:∀b,X b->b<w.heap.size)(md:na P<|view w X)(jV:qF (view w X) ts x vs)(n:R):
  ∃s:bd,(∀(γ:Type 1) (k:ey->γ),fill n (oG ts x) 0 .e k=k s.t)/\(⟨s.t,[],[]⟩:bd)=s/\cd ⟨λb=>b<w.heap.size,X⟩ w (λ_=>aq) X s.bz w /\
   eh (λ_=>aq) (view w X) s.bz s.cw { tmps:=vs.toArray++hK (n-vs.toArray.size) undef,defers:=[] }/\n<=(vs.toArray++hK (n-vs.toArray.size) undef).size/\qG P ⟨λb=>b<w.heap.size,X⟩ w:=by
 obtain⟨s,Y,ac,av,aJ⟩:=Ip n (oG ts x) 0 ⟨.e,[],[]⟩;have hs:(⟨s.t,[],[]⟩:bd)=s:=aOs
 let K:Kp:=⟨λb=>b<w.heap.size,X⟩
 have a4:s.bz=λ_=>bm.new:=by funext j;unfold bd.bz;rw[Y];rfl
 have hm:cd K w (λ_=>aq) X s.bz w:=by rw[a4];exact⟨rfl,rfl,rfl,cx _,λ_ _=>rfl,λ_ h=>h,λ_ _=>sU,(λ_ h=>by cases h),ep,λ_=>trivial,(λ_ _ _ h=>by cases h)⟩
 obtain⟨b0,bT⟩:=Us (phx:=λ_=>aq) (B:=s.bz) jV;have qe:eh (λ_=>aq) (view w X) s.bz s.cw { tmps:=vs.toArray++hK (n-vs.toArray.size) undef,defers:=[] }:=by
  intro j;have q0:(⟨.e,[],[]⟩:bd).cw j=.bad:=ey.xn 40 j;rcases aJ j with h|⟨p,_,h,ce⟩|⟨h,ce⟩
  .rw[h,q0];trivial
  .exact No
  rcases ce with ce|ce<;>rw[ce]
  .exact ae_
  trivial
 have oe:n<=(vs.toArray++hK (n-vs.toArray.size) undef).size:=e8;have he:qG P K w:=⟨λg hg=>by
  obtain⟨a,cap,Y,_,_,aJ⟩:=ba.jt.1<|md g hg;simp only[D0,Value.slice.injEq,and_true]at Y;obtain⟨rfl,_,rfl⟩:=Y;rcases aJ with aJ|⟨b,o,c,el,fz,cn,cR,_⟩
  .cases aJ
  cases cn;exact(jO.1 (kY.1 cR).2).1,md⟩
 exact⟨s,λγ k=>av γ k,hs,hm,qe,oe,he⟩
def aBy {E : dO} (c4 : o' P E) (jX : P.follows .mixedOrders = af)  {fn : Func} (hf : P.funcs[f]? = J fn) (uv : (fn.name == "runtime.NumGoroutine") = ag)
  (nv:R) (ts:ab aw) (rs:ab e6) (ak:fn.body.isSome=af):h5 P f ⟨ts,rs,PS E fn nv ts rs⟩:=by
 refine⟨⟨fn,hf,ak,uv⟩,?_⟩;intro w X x vs r ep md jV fA;unfold PS at fA;cases i?:fn.body with
 |none=>exact aOl
 |some c=>
  rw[i?]at fA;simp only at fA;cases ct:Nat.ble fn.ntmps 1000000 with
  |false=>rw[ct]at fA;cases fA
  |true=>
   rw[ct]at fA;have fg:=aNO
   obtain⟨s,av,hs,hm,qe,oe,he⟩:=abh (P:=P) ep md jV fn.ntmps;rw[av,hs]at fA;refine calls_of_wp hf i? ?_
   let K:Kp:=⟨λb=>b<w.heap.size,X⟩
   refine qr (P:=P) (w0:=w) (K:=K) c4.cp c4.C c4.M ⟨c4.G,c4.K,λ_=>he,λf s h=>⟨c4.X f s h,he⟩,c4.P,λf s h=>⟨c4.Q f s h,he⟩⟩ c4.I jX (λ_ b=>sU) fg c s (e0 rs) _ r fA (λ_=>aq) X w _ hm qe oe _ (λaT phx' aZ w' bn aB ax => ?_) (λid aT phx' aZ w' bn aB ax=>aMW)<|λy w' bn aB a? bq => ?_
   .obtain⟨oz,us,cn,cR,da⟩:=Ao c4.cp aB ax.iF ax.slots
    have Z_:((pN aT rs oz).bind bi.leaf).cf=J r:=by rw[lJ];exact cn
    obtain⟨y,dF,cJ,d9,b',yx,_,wz⟩:=Gl (K:=K) (w0:=w) Z_ ax.iF cR (U:=λ_=>fI) ⟨λ_ _ _ _ h=>h,λ_ h=>h.elim⟩;cases d9;exact⟨ax.keep.2.1,kj us,yn da,kj us,rfl,dF,b'.os,b'.tape,b'.output,b'.size,λb ak=>b'.keep b ak,λb ak=>b'.hid b ak,b'.mlt,us,wz,rfl⟩
   cases aB;obtain⟨us,cn,cR⟩:=bq;exact aNm
def PD{ρ:Type}:bi (k3 ρ)->bd
 |.leaf (.nx s)=>s
 |_=>default
def PZ {E : dO} (c4 : o' P E) (jX : P.follows .mixedOrders = af)  {fn : Func} (hf : P.funcs[f]? = J fn) (uv : (fn.name == "runtime.NumGoroutine") = ag)
  (nv:R) (ts:ab aw) (rs:ab e6) {A C X Z:Code} {k:R} (i?:fn.body=J (.seq A<|.seq (.seq C<|.cond (.tmp k) X .skip) Z)) (fg:fn.ntmps<=1000000) {m:i_ ts->au (e0 rs)} (cI:i_ ts->bd) (c:i_ ts->aE)
  (Y:∀x,(fill fn.ntmps (oG ts x) 0 .e λt=>bi.bind (run E rs fn.results.toList nv fn.ntmps ag A ⟨t,[],[]⟩) fun|.nx s=>run E rs fn.results.toList nv fn.ntmps ag C s|o=>.leaf o)=.leaf (.nx<|cI x))
  (ac:∀x,(cI x).cw k=.nq (c x)) (av:∀x r,c x=af->m x=J r->(run E rs fn.results.toList nv fn.ntmps ag X<|cI x).cf=J (.rt r))
  (aJ:∀x r,m x=J r->(run E rs fn.results.toList nv fn.ntmps ag Z<|cI x).cf=J (.rt r)):h5 P f ⟨ts,rs,m⟩:=by
 refine⟨⟨fn,hf,by rw[i?];rfl,uv⟩,?_⟩;intro w Ui x vs r ep md jV fA;have fA:m x=J r:=fA;obtain⟨s,ei,hs,hm,qe,oe,he⟩:=abh (P:=P) ep md jV fn.ntmps;have zj:=Y x;rw[ei,hs]at zj;refine calls_of_wp hf i? ?_
 let K:Kp:=⟨λb=>b<w.heap.size,Ui⟩
 have dY:pV P E K w:=⟨c4.G,c4.K,λ_=>he,λf s h=>⟨c4.X f s h,he⟩,c4.P,λf s h=>⟨c4.Q f s h,he⟩⟩;have bC:=λ(c:Code)=>qr (P:=P) (w0:=w) (K:=K) (rs:=rs) (res:=fn.results.toList) (nv:=nv) (nt:=fn.ntmps) (inl:=ag) c4.cp c4.C c4.M dY c4.I jX (λ_ b=>sU) fg c;have jo:((run E rs fn.results.toList nv fn.ntmps ag A s).bind fun|.nx s=>run E rs fn.results.toList nv fn.ntmps ag C s|o=>.leaf o).cf=J (.nx<|cI x):=by rw[zj];rfl
 refine wp_seq<|bC A s _ _ _ jo _ Ui w _ hm qe oe _ (λaT phx' aZ w' bn aB ax => ?_) (λid aT phx' aZ w' bn aB ax=>aMW)<|λy w' bn aB a? bq=>aMW;have aB:((run E rs fn.results.toList nv fn.ntmps ag C aT).bind .leaf).cf=J (.nx<|cI x):=aND
 refine wp_seq<|wp_seq<|bC C aT _ _ _ aB phx' aZ w' bn ax.iF ax.slots (by rw[ax.keep.1];exact oe) _ (λeX kF kp fQ dB gi me => ?_) (λid eX kF kp fQ dB gi me=>by cases gi) (λy fQ dB gi a? bq=>by cases gi);cases gi;have m_:=ax.trans me (Mq:=eS A++eS C) (λt h=>A8 _ h)<|λt h=>DM _ h;have aza:fn.ntmps<=dB.tmps.size:=by rw[m_.keep.1];exact oe
 have hC:∀(G8:Code) (Q:Exit->Act->bu->Prop),(run E rs fn.results.toList nv fn.ntmps ag G8<|cI x).cf=J (.rt r) ->
   (∀bn w',bn.defers=[]->(∃us,uQ P bn.tmps w' fn.results.toList us/\jP w Ui w' rs r (kj us))->Q .ret bn w')->G8.wp P Q dB fQ:=λG8 Q aX bD=>by
  have aX:((run E rs fn.results.toList nv fn.ntmps ag G8<|cI x).bind .leaf).cf=J (.rt r):=by rw[lJ];exact aX
  refine bC G8 (cI x) _ _ _ aX kF kp fQ dB m_.iF m_.slots aza Q (λfj ZX apG h3 fp kR ayX=>by cases kR) (λid fj ZX apG h3 fp kR ayX=>by cases kR)<|λy h3 fp kR a? bq => ?_;cases kR;exact bD fp h3 (a?.trans m_.keep.2.1) bq
 have bD:bI kF (view fQ kp) (cI x).bz (.nq<|c x)<|dB.eval<|.tmp k:=by rw[<- ac x];exact m_.slots k
 obtain⟨b,ak,aA⟩:=bD;cases b with
 |true =>refine wp_cond_true ak<|hC X _ (av x r (aA rfl) fA) λfp h3 a? ⟨us,cn,cR⟩ => ?_;exact aNm
 |false =>refine wp_cond_false ak<|wp_skip<|hC Z _ (aJ x r fA) λfp h3 a? ⟨us,cn,cR⟩ => ?_;exact aNm
def aHv{phx:cV}{H:cX}{B:R->bm}{vs:ab aP}{us:ab aS}(h:ha phx H B vs us)(ax:vs.all x6=af):bI phx H B (Dr vs)<|kj us:=by
 have aA6:∀{vs:ab aP} {us:ab aS},ha phx H B vs us->vs.all x6=af->mZ phx H B (vs.foldr aP.two<|.sc .unit ()) us:=by
  intro vs;induction vs with
  |nil=>intro us h _;cases us with
   |nil=>rfl
   |cons=>exact h.elim
  |cons v vs ih=>
   intro us h ax;cases us with
   |nil=>exact h.elim
   |cons u us =>simp only[yL,d5]at ax;exact⟨u,us,rfl,GU h.1<|aka ax.1,ih h.2 ax.2⟩
 match vs,us,h,ax with
 |[],[],_,_=>exact⟨[],rfl,rfl⟩
 |[v],[u],h,_=>exact h.1
 |v::dH::vs,u::u'::us,h,ax=>exact⟨_,aA6 h ax,rfl⟩
def Z9{H:cX}{phx:cV}{B:R->bm}:∀{bE:ab aP} {vs:ab aS},ha phx H B bE vs->∀(j:R) (p:aP),bE[j]?=J p->∃v:aS,vs[j]?=J v/\bI phx H B p v
 |[],[],_,j,p,h=>aLm
 |p::bE,v::vs,h,j,q,aF=>by
  cases j with
  |zero=>simp only[T9,jN]at aF;subst aF;exact⟨v,rfl,h.1⟩
  |succ j =>simp only[MI]at aF;obtain⟨u,Y,ac⟩:=Z9 h.2 j q aF;exact⟨u,aPy,ac⟩
 |[],_::_,h,_,_,_=>h.elim
 |_::_,[],h,_,_,_=>h.elim
def aAv {E : dO} (c4 : o' P E) (jX : P.follows .mixedOrders = af)  {fn : Func} (hf : P.funcs[f]? = J fn) (uv : (fn.name == "runtime.NumGoroutine") = ag)
  (nv:R) (ak:fn.body.isSome=af):lh P f<|j0 E fn nv:=by
 refine⟨⟨fn,hf,ak,uv⟩,?_⟩;intro K w0 he cQ bE s ρ k r h phx M w vs hm dQ;unfold j0 at h;cases i?:fn.body with
 |none=>exact aOl
 |some c=>
  rw[i?]at h;simp only at h;cases ct:Nat.ble fn.ntmps 1000000 with
  |false=>rw[ct]at h;cases h
  |true=>
   rw[ct]at h;simp only[Hn,k1]at h;have fg:fn.ntmps<=1000000:=aNO
   obtain⟨bX,Y,ac,av,aJ⟩:=Ip fn.ntmps bE 0 ⟨.e,s.h,s.w⟩;rw[av]at h;have hs:(⟨bX.t,s.h,s.w⟩:bd)=bX:=aOm
   rw[hs,bi.gg]at h;refine calls_of_wp hf i? ?_;have a4:bX.bz=s.bz:=by funext j;unfold bd.bz;rw[Y]
   have pA:cd K w0 phx M bX.bz w:=aOZ
   have b0:=dQ.length;have bT:=Z9 dQ;have qe:eh phx (view w M) bX.bz bX.cw { tmps:=vs.toArray++hK (fn.ntmps-vs.toArray.size) undef,defers:=[] }:=by
    intro j;rw[a4];have q0:(⟨.e,s.h,s.w⟩:bd).cw j=.bad:=ey.xn 40 j;rcases aJ j with h|⟨p,_,h,ce⟩|⟨h,ce⟩
    .rw[h,q0];trivial
    .rcases ce with ce|ce<;>rw[ce]
     .obtain⟨v,a3,az⟩:=bT j p aKP
      have bK:j<T vs:=(oC.1 a3).1;have:(vs.toArray++hK (fn.ntmps-vs.toArray.size) undef).getD j undef=v:=by rw[o?,AZ aK2];simp[a3]
      show bI _ _ _ p<|(vs.toArray++hK (fn.ntmps-vs.toArray.size) undef).getD j undef;rw[this];exact az
     trivial
    rcases ce with ce|ce<;>rw[ce]
    .have bK:T vs<=j:=by rw[b0]at h;simpa using h
     have:(vs.toArray++hK (fn.ntmps-vs.toArray.size) undef).getD j undef=undef:=by
      rw[o?,wY aK2];by_cases aF:j-vs.toArray.size<fn.ntmps-vs.toArray.size
      .rw[yF,aH aF];rfl
      rw[yF,aD aF];rfl
     exact this
    trivial
   have oe:fn.ntmps<=(vs.toArray++hK (fn.ntmps-vs.toArray.size) undef).size:=e8

   have hC:∀aT phx' aZ w' bn,(((oq { E with b:=cQ } aT fn.results.toList).bind λvs=>bif vs.all x6 then .leaf (Dr vs,(⟨s.t,aT.h,aT.w⟩:bd)) else .fail).bind k).cf=J r ->
     gN K w0 (eS c) bX phx M w { tmps:=vs.toArray++hK (fn.ntmps-vs.toArray.size) undef,defers:=[] } aT phx' aZ w' bn ->
     bn.defers=[]/\∃v,(results fn bn.tmps).run P w'=.ok v w'/\(∃cF,Ending.returned v=.returned cF/\∃v aT phx' aZ,(k (v,aT)).cf=J r/\cd K w0 phx' aZ aT.bz w'/\c8 phx M s.bz w phx' aZ aT.bz w'/\bI phx' (view w' aZ) aT.bz v cF/\eQ [] s aT):=by
    intro aT phx' aZ w' bn aB ax;rw[bi.gg]at aB;obtain⟨oz,us,cn,cR,da⟩:=Ao (E:={ E with b:=cQ }) c4.cp aB ax.iF ax.slots;cases hall:oz.all x6 with
    |false=>rw[hall]at cn;cases cn
    |true =>rw[hall,km]at cn;have cn:(k (Dr oz,(⟨s.t,aT.h,aT.w⟩:bd))).cf=J r:=cn;have lq:(⟨s.t,aT.h,aT.w⟩:bd).bz=aT.bz:=rfl;refine⟨ax.keep.2.1,kj us,yn da,kj us,rfl,Dr oz,⟨s.t,aT.h,aT.w⟩,phx',aZ,cn,ax.iF,by rw[<- a4];exact ax.ext,aHv cR hall,λ_ _=>rfl,?_⟩;obtain⟨_,gJ,f1,f2⟩:=ax.i';exact⟨gJ,by show aT.w=gJ++s.w;rw[f1,ac],λid hid=>by show aT.bz id=s.bz id;rw[f2 id hid,a4]⟩
   refine qr (P:=P) (w0:=w0) (K:=K) (E:={ E with b:=cQ }) (inl:=af) c4.cp c4.C c4.M ⟨c4.G,c4.K,λ_=>he,λf s h=>⟨c4.X f s h,he⟩,c4.P,λf s h=>⟨c4.Q f s h,he⟩⟩ c4.I jX (λh=>by cases h) fg c bX ρ _ r h phx M w _ pA qe oe _ (λaT phx' aZ w' bn aB ax => ?_) (λid aT phx' aZ w' bn aB ax => ?_)<|λy w' bn aB a? bq=>aMW
   .exact hC aT phx' aZ w' bn aB ax
   replace aB:((bif cT id jx then(oq { E with b:=cQ } aT fn.results.toList).bind λvs=>bif vs.all x6 then .leaf (Dr vs,(⟨s.t,aT.h,aT.w⟩:bd)) else .fail else .fail:bi<|aP×bd).bind k).cf=J r:=aB;cases ak:cT id jx with
   |false=>rw[ak]at aB;cases aB
   |true =>rw[ak,km]at aB;unfold m3;rw[aH<|iM ak];exact hC aT phx' aZ w' bn aB ax
def anW{w:bu}{X:R->Prop}{ts:ab aw}{x:i_ ts}{vs:ab aS}{t:aw}{y:t.a_}{b o:R}{c:cO aS}{el:cD}{fz:R×R}(ep:∀k,X k->k<w.heap.size)(md:na P<|view w X)(xs:X b)
  (hh:w.heap[b]?=J (.cells c el fz)) (bg:o+t.size<=c.size) (BM:jc c fz) (bW:ba (view w X) t y<|dg c o t.size) (jV:qF (view w X) ts x vs) (n:R) :
  ∃s:bd,(∀(γ:Type 1) (k:ey->γ),fill n (.ptr 3 []::oG ts x) 0 .e k=k s.t)/\(⟨s.t,[(3,.box t<|.sc t y)],[]⟩:bd)=s/\cd ⟨λk=>k<w.heap.size/\k≠b,X⟩ w (λj=>if j=3 then J (b,o,c.size) else aq) X s.bz w /\
   eh (λj=>if j=3 then J (b,o,c.size) else aq) (view w X) s.bz s.cw { tmps:=(Value.pointer (J ⟨b,o,aq⟩)::vs).toArray++hK (n-(Value.pointer (J ⟨b,o,aq⟩)::vs).toArray.size) undef,defers:=[] } /\
   n<=((Value.pointer (J ⟨b,o,aq⟩)::vs).toArray++hK (n-(Value.pointer (J ⟨b,o,aq⟩)::vs).toArray.size) undef).size/\qG P ⟨λk=>k<w.heap.size/\k≠b,X⟩ w:=by
 obtain⟨s,Y,ac,av,aJ⟩:=Ip n (.ptr 3 []::oG ts x) 0 ⟨.e,[(3,.box t<|.sc t y)],[]⟩;have hs:(⟨s.t,[(3,.box t<|.sc t y)],[]⟩:bd)=s:=aOs
 have a4:s.bz=λj=>if j=3 then bm.box t (.sc t y) else .new:=by
  grind [bd.bz,se,cT,Nat.eq_of_beq_eq_true]
 have oc:∀j,(s.bz j).gB=af->j=3:=λj aF=>by
  rw[a4]at aF;by_cases h:j=3
  .exact h
  simp only[aD h]at aF;cases aF
 have hm:cd ⟨λk=>k<w.heap.size/\k≠b,X⟩ w (λj=>if j=3 then J (b,o,c.size) else aq) X s.bz w:=by
  refine⟨rfl,rfl,rfl,cx _,λ_ _=>rfl,λ_ h=>h.1,λ_ _=>sU,λj aF z bN aB => ?_,ep,λj => ?_,λi j j? ao aF=>absurd ((oc i ao).trans (oc j aF).symm) j?⟩
  .grind
  by_cases h:j=3
  .subst h
   rw[a4];exact⟨b,o,c,el,fz,rfl,hh,bg,⟨rfl,bW⟩,BM,xs⟩
  rw[a4];simp only[aD h];exact trivial
 obtain⟨b0,bT⟩:=Us (phx:=λj=>if j=3 then J (b,o,c.size) else aq) (B:=s.bz) jV;have qe:eh (λj=>if j=3 then J (b,o,c.size) else aq) (view w X) s.bz s.cw { tmps:=(Value.pointer (J ⟨b,o,aq⟩)::vs).toArray++hK (n-(Value.pointer (J ⟨b,o,aq⟩)::vs).toArray.size) undef,defers:=[] }:=by
  intro j;have q0:(⟨.e,[(3,.box t<|.sc t y)],[]⟩:bd).cw j=.bad:=ey.xn 40 j;rcases aJ j with h|⟨p,_,h,ce⟩|⟨h,ce⟩
  .rw[h,q0];trivial
  .rcases ce with ce|ce<;>rw[ce]
   .have a3:∃v:aS,(Value.pointer (J ⟨b,o,aq⟩)::vs)[j]?=J v/\bI (λj=>if j=3 then J (b,o,c.size) else aq) (view w X) s.bz p v:=by
     rw[Nat.sub_zero]at h;cases j with
     |zero =>simp at h;subst h;refine⟨_,rfl,?_⟩;rw[a4];exact⟨b,o,c.size,0,t,rfl,by simp only[aw.e2],rfl⟩
     |succ j =>exact bT j p h
    obtain⟨v,a3,az⟩:=a3;have bK:=(oC.1 a3).1;have:((Value.pointer (J ⟨b,o,aq⟩)::vs).toArray++hK (n-(Value.pointer (J ⟨b,o,aq⟩)::vs).toArray.size) undef).getD j undef=v:=by rw[o?,AZ aK2,rL,a3];rfl
    rw[this];exact az
   trivial
  rcases ce with ce|ce<;>rw[ce]
  .have bK:T (Value.pointer (J ⟨b,o,aq⟩)::vs)<=j:=by simp at h ⊢;omega
   have:((Value.pointer (J ⟨b,o,aq⟩)::vs).toArray++hK (n-(Value.pointer (J ⟨b,o,aq⟩)::vs).toArray.size) undef).getD j undef=undef:=by
    rw[o?,wY aK2];by_cases aF:j-(Value.pointer (J ⟨b,o,aq⟩)::vs).toArray.size<n-(Value.pointer (J ⟨b,o,aq⟩)::vs).toArray.size
    .rw[yF,aH aF];rfl
    rw[yF,aD aF];rfl
   exact this
  trivial
 have oe:n<=((Value.pointer (J ⟨b,o,aq⟩)::vs).toArray++hK (n-(Value.pointer (J ⟨b,o,aq⟩)::vs).toArray.size) undef).size:=by rw[yI,Array.size_replicate];omega
 have he:qG P ⟨λk=>k<w.heap.size/\k≠b,X⟩ w:=⟨λg hg=>by
  obtain⟨a,cap,Y,_,_,aJ⟩:=ba.jt.1<|md g hg;obtain⟨rfl,_,rfl⟩:=Y;rcases aJ with aJ|⟨eH,dZ,dj,zb,qY,cn,cR,_⟩
  .cases aJ
  cases cn;obtain⟨da,d9⟩:=kY.1 cR;exact⟨(jO.1 d9).1,λe=>da<|e▸xs⟩,md⟩
 exact⟨s,λγ k=>av γ k,hs,hm,qe,oe,he⟩
def UN{K:Kp}{w0 w:bu}{phx:cV}{M:R->Prop}{B B':R->bm}{g:R->aP}{t:aw}{x:t.a_}{b o n:R}(h:(HF t).bC g B=J (x,B'))(hm:cd K w0 phx M B w)(hx:phx 3=J (b,o,n)):
  ∃aZ,cd K w0 phx aZ B' w/\c8 phx M B w phx aZ B' w/\aZ b/\B' 3=.ga/\∃c el fz,w.heap[b]?=J (.cells c el fz)/\c.size=n/\jc c fz/\ba (view w aZ) t x (dg c o t.size)/\∀j,j≠3->(B' j).gB=af->∀z,phx j=J z->z.1≠b:=by
 simp only[HF,aR.bC]at h;have ak:=hm.blks 3;generalize a4:B 3=bl at h ak;cases bl<;>try(cases h;done)
 rename_i t' u;dsimp only at h;cases hX:aw.is t' t with
 |false=>exact aMe
 |true=>
  rw[hX]at h;simp only[cond]at h;have ht:=ft hX;subst ht;obtain⟨eH,dZ,c,el,fz,cn,cR,da,d9,fO,nQ⟩:=ak;rw[hx,jN,mV,mV]at cn;obtain⟨rfl,rfl,rfl⟩:=cn;obtain⟨y,du,Y,ac⟩:=aR.dd h;obtain⟨gw,b',e1,_,f1,f2⟩:=L2 Y hm d9;simp only[aR.bC]at ac;have hb2:=b'.blks 3;generalize lq:du 3=bl2 at ac hb2;cases bl2<;>try(cases ac;done)
  rename_i fP wM;dsimp only at ac;cases vZ:aw.is fP t' with
  |false=>rw[vZ]at ac;cases ac
  |true =>rw[vZ]at ac;simp only[cond,aR.bC]at ac;cases ac;obtain⟨e7,oj,c2,af7,agW,dN,fC,jd,qj,tA,rf⟩:=hb2;rw[hx,jN,mV,mV]at dN;obtain⟨rfl,rfl,_⟩:=dN;obtain⟨cN,bh⟩:=b'.ga 3;refine⟨gw,cN,e1.trans bh,rf,fH _ _ _,c,el,fz,cR,rfl,fO,f2 rfl,λj aF r6 z bN e => ?_⟩;rw[eY _ _ aF]at r6;exact b'.sep j 3 aF r6 (by rw[lq];rfl) z _ bN hx e
def aBv {E : dO} (c4 : o' P E) (jX : P.follows .mixedOrders = af)  {fn : Func} (hf : P.funcs[f]? = J fn) (uv : (fn.name == "runtime.NumGoroutine") = ag)
  (nv:R) (t:aw) (ts:ab aw) (rs:ab e6) (ak:fn.body.isSome=af):jL P f ⟨t,ts,rs,JZ E fn nv t ts rs⟩:=by
 refine⟨⟨fn,hf,ak,uv⟩,?_⟩;intro w X b o c el fz x y vs r ep md xs hh bg BM hx jV fA;have fA:JZ E fn nv t ts rs (x,y)=J r:=fA;unfold JZ at fA;cases i?:fn.body with
 |none=>exact aOl
 |some Ee=>
  rw[i?]at fA;simp only at fA;cases ct:Nat.ble fn.ntmps 1000000 with
  |false=>rw[ct]at fA;cases fA
  |true=>
   rw[ct]at fA;simp only[Hn,k1]at fA;have fg:fn.ntmps<=1000000:=aNO
   obtain⟨s,av,hs,hm,qe,oe,he⟩:=anW (P:=P) ep md xs hh bg BM hx jV fn.ntmps;rw[av,hs]at fA;refine calls_of_wp hf i? ?_
   let K:Kp:=⟨λk=>k<w.heap.size/\k≠b,X⟩
   have hC:∀aT phx' aZ w' bn,((ue E t rs fn.results.toList aT).bind bi.leaf).cf=J r->gN K w (eS Ee) s (λj=>if j=3 then J (b,o,c.size) else aq) X w { tmps:=(Value.pointer (J ⟨b,o,aq⟩)::vs).toArray++hK (fn.ntmps-(Value.pointer (J ⟨b,o,aq⟩)::vs).toArray.size) undef,defers:=[] } aT phx' aZ w' bn ->
     bn.defers=[]/\∃v,(results fn bn.tmps).run P w'=.ok v w'/\∃cF,Ending.returned v=.returned cF/\He w X b o c.size w' t r.1 rs r.2 cF:=by
    intro aT phx' aZ w' bn aB ax;unfold ue at aB;rw[bi.gg]at aB;obtain⟨oz,us,cn,cR,da⟩:=Ao c4.cp aB ax.iF ax.slots;rw[bi.gg]at cn;obtain⟨z,wr,dN,fC⟩:=qa cn;have B1:phx' 3=J (b,o,c.size):=(ax.ext.pl 3 aLd).trans<|if_pos rfl;obtain⟨dF,cN,bh,b4,cz,dj,zb,qY,dw,f6,hj,kT,lv⟩:=UN dN ax.iF B1;rw[bi.gg]at fC;rw[<- bd.oN]at cN bh cz lv;have xQ:l4 phx' dF (aT.fc wr).bz<|λk=>k=b:=aLl
    obtain⟨aoY,kp,wR,d9,hD,abY,Xh,wz⟩:=Gl (K:=K) (w0:=w) fC cN (cR.ext bh) xQ;cases d9;refine⟨ax.keep.2.1,kj us,yn da,kj us,rfl,kp,hD.os,hD.tape,hD.output,hD.size,λk aB nE=>hD.keep k ⟨aB,nE⟩,λk aB => ?_,hD.mlt,⟨dj,zb,qY,dw,f6,hj,kT.mono abY⟩,us,wz.lo ?_,rfl⟩
    .exact aMw
    intro k r5 ef aB;exact r5 ⟨aB,ef⟩
   refine qr (P:=P) (w0:=w) (K:=K) (inl:=af) c4.cp c4.C c4.M ⟨c4.G,c4.K,λ_=>he,λf s h=>⟨c4.X f s h,he⟩,c4.P,λf s h=>⟨c4.Q f s h,he⟩⟩ c4.I jX (λh=>by cases h) fg Ee s (t.a_×e0 rs) _ r fA (λj=>if j=3 then J (b,o,c.size) else aq) X w _ hm qe oe _ (λaT phx' aZ w' bn aB ax => ?_) (λid aT phx' aZ w' bn aB ax => ?_)<|λy w' bn aB a? bq=>aMW
   .exact hC aT phx' aZ w' bn aND ax
   replace aB:((bif cT id jx then ue E t rs fn.results.toList aT else .fail:bi<|t.a_×e0 rs)).cf=J r:=aB;cases ak:cT id jx with
   |false=>rw[ak]at aB;cases aB
   |true =>rw[ak,km]at aB;unfold m3;rw[aH<|iM ak];exact hC aT phx' aZ w' bn aND ax
def jL.congr{t:aw}{ts:ab aw}{rs:ab e6}{m oh:t.a_×i_ ts->au (t.a_×e0 rs)}(h:jL P f ⟨t,ts,rs,m⟩)(aX:∀x,m x=oh x):jL P f ⟨t,ts,rs,oh⟩:=by
 have:=funext aX
 grind
def kC(f:R)(s:jM):zT [] f=J s->jL P f s:=λh=>by cases h
def i2{l:ab<|Nat×jM}(h:∀f s,zT l f=J s->jL P f s){sw:jM}(aC:jL P f0 sw):∀f s,zT ((f0,sw)::l) f=J s->jL P f s:=by
 grind [zT,Nat.eq_of_beq_eq_true]
def a1(f:R)(g:g3):v8 [] f=J g->lh P f g:=λh=>by cases h
def g1{l:ab<|Nat×g3}(h:∀f g,v8 l f=J g->lh P f g){g0:g3}(aC:lh P f0 g0):∀f g,v8 ((f0,g0)::l) f=J g->lh P f g:=by
 intro f g hs;simp only[v8]at hs;cases ak:cT f0 f with
 |true=>rw[ak]at hs;cases hs;rw[<- iM ak];exact aC
 |false=>rw[ak]at hs;exact h f g hs
def a0(f:R)(s:fV):v7 [] f=J s->h5 P f s:=λh=>by cases h
def ay{l:ab<|Nat×fV}(h:∀f s,v7 l f=J s->h5 P f s){sw:fV}(aC:h5 P f0 sw):∀f s,v7 ((f0,sw)::l) f=J s->h5 P f s:=by
 grind [v7,Nat.eq_of_beq_eq_true]
def h5.congr{ts:ab aw}{rs:ab e6}{m oh:i_ ts->au (e0 rs)}(h:h5 P f ⟨ts,rs,m⟩)(aX:∀x,m x=oh x):h5 P f ⟨ts,rs,oh⟩:=by
 have:=funext aX
 grind
end Yp
namespace Yp
open Go Go.ChangeShapes Go.WideShapes Go.ChangeAt Go.RowKit
def ea:=@Nat.zero_le
def M8:=@List.length_range
def TS:=@Option.bind_eq_some_iff
variable {P:d_} {H:Type} {enc:cD×aS->H}
def Ef{t:aw}{tid:cD}(h:(dz P t).1 tid):P.cellsOf tid=t.size:=aOT
def auG{w:bu}{base:R}{a:Addr}{n:R}{cs:ab aS}(h:w.cells? base a n=J cs)(ax:0<n)(hs:a.spot=aq):
  ∃c el fz,w.heap[a.block]?=J (.cells c el fz)/\a.off+n<=c.size/\cs=dg c a.off n:=by
 unfold World.cells? at h;split at h
 .have cP:=mapM_some_length h
  have zu:=mapM_some_get h;simp at cP;have ahD:∀i,a.add i=⟨a.block,a.off+i,aq⟩:=λi=>by
   obtain⟨b,o,s⟩:=a
   grind [rN]
  have cM:∀i,i<n->w.cell? ⟨a.block,a.off+i,aq⟩=cs[i]?:=λi ao=>by
   grind
  have aC:=cM 0 ax;rw[lg V]at aC;cases ak:w.heap[a.block]? with
  |none=>simp[World.cell?,ak]at aC
  |some ob=>
   cases ob with
   |cells c el fz=>
    have aA:∀i,i<n->c[a.off+i]?=cs[i]?:=λi ao=>by rw[<- cM i ao,N3 ak]
    have ct:a.off+n<=c.size:=by
     have:=aA (n-1) V
     grind
    refine⟨c,el,fz,rfl,ct,?_⟩;apply vf
    grind [yp,sx]
   |_=>simp[World.cell?,ak]at aC
 cases h
def YU{α:Type}{p:R->α->Prop}:∀(n:R),(∀i,i<n->∃x,p i x)->∃l:ab α,T l=n/\∀i x,jq l i=J x->p i x
 |0,_=>⟨[],rfl,λi x h=>by simp[jq]at h⟩
 |n+1,h=>by
  obtain⟨l,Y,ac⟩:=YU n λi ao=>h i V;obtain⟨x,hx⟩:=h n V;refine⟨l++[x],by simp[Y],λi y bW => ?_⟩;simp only[jq]at bW;by_cases ao:i<n
  .rw[G? V]at bW;exact ac i y bW
  rw[DP V]at bW;have:i=n:=by
   rcases DX (i-T l) 1 with h|h
   .omega
   rw[A7 aKP]at bW;cases bW
  subst this;rw[Y]at bW;simp at bW;rw[<- bW];exact hx
def wi:aw->aE
 |.sl e=>hv 0 e.size&&wi e|.pair a b=>wi a&&wi b|.ar _ e=>wi e|.op _=>ag|.fn _=>ag|_=>af
def sq:(t:aw)->t.a_->Prop
 |.int k,x=>k.min<=cj.to k x/\cj.to k x<=k.max
 |.sl e,l=>T (l:ab e.a_)<=maxLen/\∀(i:R) (x:e.a_),jq (α:=e.a_) l i=J x->sq e x
 |.ar n e,l=>T (l:ab e.a_)=n/\∀(i:R) (x:e.a_),jq (α:=e.a_) l i=J x->sq e x
 |.pair a b,x=>sq a x.1/\sq b x.2
 |.bool,_=>True
 |.str,_=>True
 |.unit,_=>True
 |.op _,_=>True
 |.fn _,_=>True
def P_:(ts:ab aw)->i_ ts->Prop
 |[],_=>True
 |t::ts,x=>sq t x.1/\P_ ts x.2
def L5{w:bu}{base:R}{ni:R->aE}{held:aE}:∀(t:aw),wi t=af->(∀(tid:cD) (h7:R) (cs:ab aS) (x:DataW H×ab MemPlace),(dz P t).1 tid->DataW.trod enc P w base ni held h7 tid cs=J x->∃d:t.a_,ba (full w) t d cs/\sq t d) /\
  ∀(l:ab Field) (off h7:R) (cs:ab aS),(dz P t).2 l off->T cs=off+t.size->(∀f∈l,∃x,DataW.trod enc P w base ni held h7 f.type ((cs.drop f.offset).take<|P.cellsOf f.type)=J x)->∃d:t.a_,ba (full w) t d (cs.drop off)/\sq t d
 |.op _,hp=>by cases hp
 |.fn _,hp=>by cases hp
 |.bool,_=>by refine⟨λtid h7 cs x hf h => ?_,λl off h7 cs hf=>hf.elim⟩;obtain⟨b,rfl,_⟩:=DataW.trod_bool hf.1 h;exact⟨(b:aE),ba.pm.2 rfl,trivial⟩
 |.int k,_=>by
  refine⟨λtid h7 cs x hf h => ?_,λl off h7 cs hf=>hf.elim⟩;obtain⟨n,rfl,_,bR⟩:=DataW.trod_int hf.1 h;have ak:k.min<=n/\n<=k.max:=by simpa[Lit.wf]using bR
  have aX:cj.to k (cj.lit k n)=n:=cj.YV k n λbq=>⟨by cases k<;>simp_all[GX,IntKind.min,IntKind.signed],ak.2⟩;refine⟨cj.lit k n,ba.j1.2<|by rw[aX],?_⟩;simp only[sq];rw[aX];exact ak
 |.str,_=>by refine⟨λtid h7 cs x hf h => ?_,λl off h7 cs hf=>hf.elim⟩;obtain⟨s,rfl,_⟩:=DataW.trod_string hf.1 h;exact⟨(s.data.toList:ab UInt8),ba.u2.2 bP,trivial⟩
 |.sl e,hp=>by
  refine⟨λtid h7 cs x hf h => ?_,λl off h7 cs hf=>hf.elim⟩;obtain⟨⟨bM,bq,aX⟩,_⟩:=hf;simp only[wi,d5,ME]at hp;rcases DataW.trod_slice bq h with⟨rfl,_⟩|⟨a,len,cap,elems,rest,n,_,rfl,_,Y,ac,av,aJ,bv,_⟩
  .exact⟨([]:ab e.a_),ba.jt.2 ⟨aq,0,rfl,cx _,ai_,.inl rfl⟩,ea _,λi x h=>by simp[jq]at h⟩
  have hcell:=Ef aX;rw[hcell]at bv;by_cases hl:len=0
  .subst hl
   exact⟨([]:ab e.a_),ba.jt.2 ⟨J a,cap,rfl,ac,av,.inl rfl⟩,ea _,λi x h=>by simp[jq]at h⟩
  have iT:a.spot=aq:=by
   have:=bv 0 V;rw[lg V,TS]at this;obtain⟨q,bD,_⟩:=this;unfold World.cells? at bD;split at bD
   .have hg:=mapM_some_get bD 0 0 (by simp[hp.1])
    have azq:=mapM_some_length bD;simp only[M8]at azq;rw[lg V]at hg;have b6:((a.add<|0*e.size).add 0)=a:=by simp[Addr.add]
    rw[b6]at hg;cases hs:a.spot with
    |none=>rfl
    |some s =>simp only[World.cell?,hs]at hg;split at hg<;>simp at hg
   cases bD
  have ahD:∀i,a.add (i*e.size)=⟨a.block,a.off+i*e.size,aq⟩:=λi=>by obtain⟨b,o,s⟩:=a;simp only at iT;subst iT;exact rN b o _
  have key:∀i,i<len->∃x:e.a_,∃c el fz,w.heap[a.block]?=J (.cells c el fz)/\a.off+i*e.size+e.size<=c.size/\ba (full w) e x (dg c (a.off+i*e.size) e.size)/\sq e x:=λi ao=>by have:=bv i ao;rw[lg V,TS]at this;obtain⟨q,bD,a?⟩:=this;rw[ahD]at bD;obtain⟨c,el,fz,b0,bT,rfl⟩:=auG bD hp.1 rfl;obtain⟨d,a?⟩:=(L5 e hp.2).1 bM n _ _ aX a?;exact⟨d,c,el,fz,b0,bT,a?⟩
  obtain⟨_,c,el,fz,b0,_,_⟩:=key 0 V;have aje:∀i,i<len->∃x:e.a_,a.off+i*e.size+e.size<=c.size/\ba (full w) e x (dg c (a.off+i*e.size) e.size)/\sq e x:=λi ao=>by obtain⟨x,dj,zb,qY,b4,cz,dw⟩:=key i ao;rw[b0]at b4;cases b4;exact⟨x,cz,dw⟩
  obtain⟨l,gZ,iE⟩:=YU len aje;have nC:a.off+len*e.size<=c.size:=by
   obtain⟨x,cz,_⟩:=aje (len-1) V;have:len*e.size=(len-1)*e.size+e.size:=by
    conv=>lhs;rw[show len=(len-1)+1 by omega,lf,Nat.one_mul]
   omega
  obtain⟨b,o,s⟩:=a;simp only at iT;subst iT;exact⟨(l:ab e.a_),ba.jt.2 ⟨_,cap,by rw[gZ],by rw[gZ];exact ac,av,.inr ⟨b,o,c,el,fz,rfl,b0,by rw[gZ];exact nC,λi x ao=>(iE i x ao).2.1⟩⟩,by show T l<=_;rw[gZ];omega,λi x ao=>(iE i x ao).2.2⟩
 |.unit,_=>by refine⟨λtid h7 cs x hf h => ?_,λl off h7 cs hf hl _=>⟨(),ba.Dy.2<|mW.1 (by rw[dV,hl];simp[aw.size]),trivial⟩⟩;obtain⟨⟨f',bq,r3⟩,ao⟩:=hf;obtain⟨f7,n,_,_,hl,_⟩:=DataW.trod_struct bq h;have aA:P.cellsOf tid=aw.unit.size:=Ef (t:=.unit) ⟨⟨f',bq,r3⟩,ao⟩;exact⟨(),ba.Dy.2<|mW.1 (by rw[hl,aA];rfl),trivial⟩
 |.pair a b,hp=>by
  simp only[wi,d5]at hp;have am8:∀(l:ab Field) (off h7:R) (cs:ab aS),(dz P<|.pair a b).2 l off->T cs=off+(aw.pair a b).size->(∀f∈l,∃x,DataW.trod enc P w base ni held h7 f.type ((cs.drop f.offset).take<|P.cellsOf f.type)=J x)->∃d:(aw.pair a b).a_,ba (full w) (.pair a b) d (cs.drop off)/\sq (.pair a b) d:=by intro l off h7 cs hf hl hx;obtain⟨f,r,rfl,Y,ac,av⟩:=hf;obtain⟨x,E?⟩:=hx f bP;rw[Ef ac,Y]at E?;obtain⟨au7,tf,azc⟩:=(L5 a hp.1).1 f.type h7 _ _ ac E?;simp only[aw.size]at hl;obtain⟨au8,ax9,Jg⟩:=(L5 b hp.2).2 r (off+a.size) h7 cs av V λxg O9=>hx xg (by simp[O9]);refine⟨(au7,au8),ba.nO.2 ⟨_,_,?_,tf,ax9⟩,azc,Jg⟩;rw[<- Hc,ML]
  refine⟨λtid h7 cs x hf h => ?_,am8⟩;have aA:=Ef hf;obtain⟨⟨f',bq,f,r,e1,bh,ei,hQ⟩,ao⟩:=hf;obtain⟨f7,n,rfl,_,hl,zC,hx⟩:=DataW.trod_struct bq h;have I3:(dz P<|.pair a b).2 f'.toList 0:=⟨f,r,e1,bh,ei,by simpa using hQ⟩;obtain⟨d,a?⟩:=am8 f'.toList 0 n cs I3 (by rw[hl,aA];omega) λxg O9=>by
   obtain⟨i,ao,rfl⟩:=sO O9;have ej:i<f'.size:=by simpa using ao
   have:=hx i f'[i]<|w2 ej;rw[lg V]at this;exact⟨_,by simpa using this⟩
  exact⟨d,by simpa using a?⟩
 |.ar n e,hp=>by
  refine⟨λtid h7 cs x hf h => ?_,λl off h7 cs hf=>hf.elim⟩;have aA:=Ef hf;obtain⟨⟨bM,bq,aX⟩,_⟩:=hf;obtain⟨f7,m,rfl,_,hl,zC,hx⟩:=DataW.trod_array bq h;rw[Ef aX]at hx;obtain⟨l,gZ,iE⟩:=YU (p:=λi (x:e.a_)=>ba (full w) e x ((cs.drop<|i*e.size).take e.size)/\sq e x) n λi ao=>by have:=hx i ao;rw[lg V]at this;exact(L5 e hp).1 bM m _ _ aX this
  exact⟨(l:ab e.a_),ba.D6.2 ⟨gZ,by rw[hl,aA];rfl,λi x h=>(iE i x h).1⟩,gZ,λi x h=>(iE i x h).2⟩
def aqi{w:bu}{base:R}{ni:R->aE}{held:aE}{t:aw}(hp:wi t=af){tid:cD}(hf:(dz P t).1 tid){r:Reach}{eZ:R}{v:aS}{d:DataW H}{bE:ab MemPlace}(jZ:Value.okWide P w r eZ tid v)(h:DataW.Trod enc P w base ni held tid v d bE):
  ∃(x:t.a_) (cs:ab aS),v=db t cs/\ba (full w) t x cs/\sq t x:=by
 obtain⟨h7,h⟩:=h;obtain⟨x,hx⟩:=(L5 t hp).1 tid h7 _ _ hf h;refine⟨x,_,?_,hx⟩;cases t with
 |op k=>cases hp
 |fn k=>cases hp
 |bool=>obtain⟨b,rfl⟩:=okWide_bool hf.1 jZ;rfl
 |int k=>obtain⟨n,rfl⟩:=okWide_int hf.1 jZ;rfl
 |str=>obtain⟨s,rfl⟩:=okWide_string hf.1 jZ;rfl
 |sl e=>obtain⟨⟨bM,bq,_⟩,_⟩:=hf;obtain⟨a,l,c,rfl⟩:=okWide_slice bq jZ;rfl
 |unit=>exact aLF
 |pair a b=>exact aLF
 |ar n e =>obtain⟨⟨bM,bq,_⟩,_⟩:=hf;unfold Value.okWide at jZ;rw[bq]at jZ;obtain⟨cs,rfl,_⟩:=jZ;simp[db,aw.isAgg,Value.cells]
def WB(P:d_):ab cD->ab aw->Prop
 |[],[]=>True
 |i::is,t::ts=>((dz P t).1 i/\wi t=af)/\WB P is ts
 |_,_=>fI
def OE(P:d_):ab cD->ab aw->aE
 |[],[]=>af
 |i::is,t::ts=>((lO P t).1 i&&wi t)&&OE P is ts
 |_,_=>ag
def agH:∀{is:ab cD} {ts:ab aw},OE P is ts=af->WB P is ts
 |[],[],_=>trivial
 |i::is,t::ts,h=>by simp only[OE,d5]at h;exact⟨⟨(vL t).1 i h.1.1,h.1.2⟩,agH h.2⟩
def ac5{w:bu}{base:R}{ni:R->aE}{held:aE}{r:Reach}{eZ:R}:∀{is:ab cD} {ts:ab aw} {vs:ab aS} {ds:ab<|DataW H} {bE:ab MemPlace},WB P is ts->(∀(j:R) t v,is[j]?=J t->vs[j]?=J v->Value.okWide P w r eZ t v) ->
  DataW.TrodAll enc P w base ni held is vs ds bE->∃x:i_ ts,qF (full w) ts x vs/\P_ ts x
 |[],[],[],[],_,_,_,_=>⟨(),rfl,trivial⟩
 |i::is,t::ts,v::vs,d::ds,bE,hf,a3,h=>by obtain⟨p,q,Y,ac,_⟩:=h;obtain⟨x,cs,e1,bh,ei⟩:=aqi hf.1.2 hf.1.1 (a3 0 i v rfl rfl) Y;obtain⟨y,bW,azZ⟩:=ac5 hf.2 (λj t v aF aIY=>a3 (j+1) t v (by grind)<|by grind) ac;exact⟨(x,y),⟨cs,vs,by rw[e1],bh,bW⟩,ei,azZ⟩
def aou{W gO:bu}{anM:R->aE}(hl:laidOutB P=af):∀{is:ab cD} {vs:ab aS} {ds:ab<|DataW H} {bE:ab MemPlace},(is.all λt=>P.readableRec t&&hv t P.types.size)=af ->
  DataW.TrodAll enc P W 0 (λ_=>af) af is vs ds bE->(∀p∈bE,W.sameAt gO p)->(∀p∈bE,anM p.block=af)->DataW.TrodAll enc P gO 0 anM af is vs ds bE
 |[],[],[],_,_,h,_,_=>h
 |t::is,v::vs,d::ds,bE,az,h,hs,iT=>by obtain⟨p,q,Y,ac,rfl⟩:=h;simp at az;exact⟨p,q,WideElems.Trod_stays hl az.1.1 az.1.2 Y (λx hx=>hs x<|by grind)<|λx hx=>iT x<|by grind,aou hl (by simpa using az.2) ac (λx hx=>hs x<|by grind)<|λx hx=>iT x<|by grind,rfl⟩
def aC8{f:Func}{s:ChangeSpec}{apart vN axK apX:aE}{W gO:bu}{args:cO aS}{v:aS}{ds n9:ab<|DataW H}{before pa pv:ab MemPlace}
  (hW:DataW.Whole enc P f.params.toList s.vars apart W args.toList ds n9 before)
  (xM:∀(b:R) (ni:R->aE) (a?:aE),DataW.TrodAll enc P gO b ni a? f.resultTypes.toList (v.resultList f.resultTypes.size) (s.fn H<|ds++n9).results [])
  (jV:∀ni:R->aE,(∀p∈before,ni p.block=af)->DataW.TrodAll enc P gO 0 ni af f.params.toList args.toList (s.fn H<|ds++n9).args pa)
  (Jr:∀ni:R->aE,(∀p∈before,ni p.block=af)->DataW.TrodVars enc P gO ni s.vars (s.fn H<|ds++n9).vars pv)
  (dQ:before=pa++pv) (ak:Below W.heap.size W gO)
  (fa:∀(j:R) (t:cD) (r:aS),f.resultTypes[j]?=J t->(v.resultList f.resultTypes.size)[j]?=J r->Value.okWide P gO .any 0 t r) :
  s.post enc P f apart vN axK apX W args v gO:=by
 have bK:∀p∈before,p.block<W.heap.size:=λp hp=>hW.lt p hp;have hold:∀p∈before,(λb=>decide (b<W.heap.size)) p.block=af:=λp hp=>by simpa using bK p hp
 refine⟨ds,n9,before,[],pa,pv,hW,xM _ _ _,jV _ hold,Jr _ hold,World.keptBut_mono (λp hp=>⟨hp,?_⟩)<|ak.frame (·∈before),λ_ => ?_⟩
 .rw[dQ,i7]at hp
  exact Or.inr hp
 obtain⟨_,_,_,_,_,bN,ax⟩:=hW;refine⟨fa,_,_,([]++pa)++pv,⟨[]++pa,pv,trodAll_append (jV _<|λ_ _=>rfl)<|xM _ _ _,Jr _<|λ_ _=>rfl,rfl,?_,?_⟩,?_⟩
 .intro b off hp
  have dP:MemPlace.cell b off∈before:=by rw[dQ];simpa using hp
  rw[ak.frozen<|bK _ dP];exact bN b off dP
 .intro b6
  have:=ax b6;rw[dQ]at this;simpa using this
 intro p hp _;rw[dQ];simpa using hp
def aAY{fn:Func}{ts:ab aw}{m:i_ ts->au (e0 [.im .bool])}{s:ChangeSpec}(fa:h5 P F ⟨ts,[.im .bool],m⟩)(iS:OE P fn.params.toList ts=af)(hl:laidOutB P=af)
  (azs:(fn.params.toList.all λt=>P.readableRec t&&hv t P.types.size)=af) {bt:cD} (xM:fn.resultTypes=#[bt]) (ahN:P.underlying bt=J .bool) (Jr:s.vars=[]) {apart:aE}
  {W:bu} {base:R} {args:cO aS} {ds n9:ab<|DataW H} {before:ab MemPlace} (hfn:T ds=fn.params.size->(s.fn H<|ds++n9).results=[.lit<|.bool af]/\(s.fn H<|ds++n9).args=ds/\(s.fn H<|ds++n9).vars=[])
  (jZ:∀(j:R) t v,fn.params[j]?=J t->args[j]?=J v->Value.okWide P W .any base t v) (hW:DataW.Whole enc P fn.params.toList s.vars apart W args.toList ds n9 before)
  (md:na P<|full W) (azI:∀x:i_ ts,P_ ts x->m x=J (af,())) :
  Calls P F args W λe gO=>∃v,e=.returned v/\s.post enc P fn apart af ag ag W args v gO:=by
 have ahC:=hW;obtain⟨p,q,ee,hV,X1,BM,ja⟩:=hW;have cP:T ds=fn.params.size:=by
  have:∀(is:ab cD) (vs:ab aS) (ds:ab<|DataW H) (bE:ab MemPlace),DataW.TrodAll enc P W 0 (λ_=>af) af is vs ds bE->T ds=is.length:=by
   intro is;induction is with
   |nil=>intro vs ds bE h;cases vs<;>cases ds<;>first|rfl|exact h.elim
   |cons i is ih=>
    intro vs ds bE h;cases vs<;>cases ds<;>first|exact h.elim|skip
    obtain⟨_,_,_,ac,_⟩:=h;simp[ih _ _ _ ac]
  have:=this _ _ _ _ ee;simpa using this
 obtain⟨f1,f2,f3⟩:=hfn cP;obtain⟨x,hx,azg⟩:=ac5 (agH iS) (λj t v aF a3=>jZ j t v (by simpa using aF)<|by simpa using a3) ee;have bD:q=[]:=by
  rw[Jr]at hV;cases n9 with
  |nil=>exact hV
  |cons=>exact hV.elim
 subst bD;have BL:(full W).cU<|view W λ_=>fI:=λb o ak=>kY.2 ⟨λh=>h,ak⟩;have aA:=fa.2 W (λ_=>fI) x args.toList (af,()) (λ_ h=>h.elim) (md.mono λb o ak=>kY.2 ⟨λh=>h,ak⟩) (hx.mono BL)<|azI x azg;rw[Array.toArray_toList]at aA;refine aA.mono ?_;rintro e gO ⟨cF,rfl,aZ,b4,cz,dw,f6,hj,kT,lv,us,m?,rfl⟩;obtain⟨cs,u7,rfl,e9,gK⟩:=m?;have azQ:u7=[]:=gK;subst azQ;have m9:=ba.pm.1 e9;subst m9;have ak:Below W.heap.size W gO:=⟨b4,cz,dw,f6,hj⟩;refine⟨.bool af,rfl,?_⟩;refine aC8 (pa:=p) (pv:=[]) ahC (λb ni a? => ?_) (λni iT => ?_) (λni _ => ?_) X1 ak ?_
 .rw[xM,f1]
  exact trodAll_cons_mk (p:=[]) (shut_bool ahN af) trodAll_mk0
 .rw[f2]
  refine aou hl azs ee (λy bW=>ak.same (by have:=ahC.lt y (by rw[X1];simpa using bW);exact this)) λy bW=>iT y (by rw[X1];simpa using bW)
 .rw[Jr,f3];rfl
 exact ok_one xM rfl<|okWide_bool_mk ahN af
end Yp
namespace Yp
open Go
def MJ:=@Nat.add_sub_cancel_left
variable {P:d_}
def wS.congr{bM:R}{t:aw}{ts:ab aw}{rs:ab e6}{m oh:t.a_×i_ ts->au (t.a_×R×e0 rs)}(h:wS P f bM t ts rs m)(aX:∀x,m x=oh x):wS P f bM t ts rs oh:=by have:m=oh:=funext aX;rw[<- this];exact h
def aBx {E : dO} (c4 : o' P E) (jX : P.follows .mixedOrders = af)  {fn : Func} (hf : P.funcs[f]? = J fn) (uv : (fn.name == "runtime.NumGoroutine") = ag)
  (nv:R) (t:aw) (ts:ab aw) (rs:ab e6) (ak:fn.body.isSome=af) {m bM:R} (k7:E.Pn=J (m,bM)):wS P f bM t ts rs<|PT E fn nv t ts rs:=by
 refine⟨⟨fn,hf,ak,uv⟩,?_⟩;intro w X b o c el fz x y vs r ep md xs hh bg BM hx jV fA;have fA:PT E fn nv t ts rs (x,y)=J r:=fA;unfold PT at fA;cases i?:fn.body with
 |none=>exact aOl
 |some Ee=>
  rw[i?]at fA;simp only at fA;cases ct:Nat.ble fn.ntmps 1000000 with
  |false=>rw[ct]at fA;cases fA
  |true=>
   rw[ct]at fA;simp only[Hn,k1]at fA;have fg:fn.ntmps<=1000000:=aNO
   obtain⟨s,av,hs,hm,qe,oe,he⟩:=anW (P:=P) ep md xs hh bg BM hx jV fn.ntmps;rw[av,hs]at fA;refine calls_of_wp hf i? ?_
   let K:Kp:=⟨λk=>k<w.heap.size/\k≠b,X⟩
   have hC:∀aT phx' aZ w' bn,((ue E t rs fn.results.toList aT).bind λz=>.leaf (z.1,0,z.2)).cf=J r->gN K w (eS Ee) s (λj=>if j=3 then J (b,o,c.size) else aq) X w { tmps:=(Value.pointer (J ⟨b,o,aq⟩)::vs).toArray++hK (fn.ntmps-(Value.pointer (J ⟨b,o,aq⟩)::vs).toArray.size) undef,defers:=[] } aT phx' aZ w' bn ->
     bn.defers=[]/\∃v,(results fn bn.tmps).run P w'=.ok v w'/\∃cF,Ending.returned v=.returned cF/\(r.2.1=0/\He w X b o c.size w' t r.1 rs r.2.2 cF):=by
    intro aT phx' aZ w' bn aB ax;unfold ue at aB;rw[bi.gg]at aB;obtain⟨oz,us,cn,cR,da⟩:=Ao c4.cp aB ax.iF ax.slots;rw[bi.gg]at cn;obtain⟨z,wr,dN,fC⟩:=qa cn;have B1:phx' 3=J (b,o,c.size):=(ax.ext.pl 3 aLd).trans<|if_pos rfl;obtain⟨dF,cN,bh,b4,cz,dj,zb,qY,dw,f6,hj,kT,lv⟩:=UN dN ax.iF B1;rw[bi.gg]at fC;rw[<- bd.oN]at cN bh cz lv;have xQ:l4 phx' dF (aT.fc wr).bz<|λk=>k=b:=aLl
    obtain⟨aoY,kp,wR,d9,hD,abY,Xh,wz⟩:=Gl (K:=K) (w0:=w) fC cN (cR.ext bh) xQ;cases d9;refine⟨ax.keep.2.1,kj us,yn da,kj us,rfl,rfl,kp,hD.os,hD.tape,hD.output,hD.size,λk aB nE=>hD.keep k ⟨aB,nE⟩,λk aB => ?_,hD.mlt,⟨dj,zb,qY,dw,f6,hj,kT.mono abY⟩,us,wz.lo ?_,rfl⟩
    .exact aMw
    intro k r5 ef aB;exact r5 ⟨aB,ef⟩
   have agx:∀aT phx' aZ w' bn,((ue E t rs fn.results.toList aT).bind λz=>.leaf (z.1,0,z.2)).cf=J r->gN K w (eS Ee) s (λj=>if j=3 then J (b,o,c.size) else aq) X w { tmps:=(Value.pointer (J ⟨b,o,aq⟩)::vs).toArray++hK (fn.ntmps-(Value.pointer (J ⟨b,o,aq⟩)::vs).toArray.size) undef,defers:=[] } aT phx' aZ w' bn ->
     bn.defers=[]/\∃v,(results fn bn.tmps).run P w'=.ok v w'/\((r.2.1=0/\∃cF,Ending.returned v=.returned cF/\He w X b o c.size w' t r.1 rs r.2.2 cF)\/(r.2.1≠0/\Ending.returned v=.panicked [{ v:=.iface bM<|.int .i64 (r.2.1:O),recovered:=ag }]/\acO w X b o c.size w' t r.1)):=by
    intro aT phx' aZ w' bn aB ax;obtain⟨Y,v,ac,cF,av,aJ,bv⟩:=hC aT phx' aZ w' bn aB ax;exact⟨Y,v,ac,.inl ⟨aJ,cF,av,bv⟩⟩
   refine qr (P:=P) (w0:=w) (K:=K) (inl:=af) c4.cp c4.C c4.M ⟨c4.G,c4.K,λ_=>he,λf s h=>⟨c4.X f s h,he⟩,c4.P,λf s h=>⟨c4.Q f s h,he⟩⟩ c4.I jX (λh=>by cases h) fg Ee s (t.a_×R×e0 rs) _ r fA (λj=>if j=3 then J (b,o,c.size) else aq) X w _ hm qe oe _ (λaT phx' aZ w' bn aB ax => ?_) (λid aT phx' aZ w' bn aB ax => ?_)<|λy w' bn aB a? bq=>aMW
   .exact agx aT phx' aZ w' bn aB ax
   replace aB:((bif cT id jx then(ue E t rs fn.results.toList aT).bind λz=>.leaf (z.1,0,z.2) else bif hv iN id then(aR.jW aT<|HF t).bind λz=>.leaf (z.1,id-iN,AW rs) else .fail:bi<|t.a_×R×e0 rs)).cf=J r:=aB;cases ak:cT id jx with
   |true =>rw[ak,km]at aB;unfold m3;rw[aH<|iM ak];exact agx aT phx' aZ w' bn aB ax
   |false=>
    rw[ak,k1]at aB;cases hp:hv iN id with
    |false=>rw[hp]at aB;cases aB
    |true=>
     rw[hp,km]at aB;have bK:iN<id:=by simpa using hp
     obtain⟨z,wr,dN,fC⟩:=qa aB;have B1:phx' 3=J (b,o,c.size):=(ax.ext.pl 3 aLd).trans<|if_pos rfl;obtain⟨dF,cN,bh,b4,cz,dj,zb,qY,dw,f6,hj,kT,lv⟩:=UN dN ax.iF B1;cases fC;obtain⟨k,rfl⟩:∃k,id=iN+k:=⟨id-iN,V⟩;rw[Oq k7];refine⟨ax.keep.2.1,.inr ⟨by show iN+k-iN≠0;omega,by show Ending.panicked _=Ending.panicked [{ v:=.iface bM<|.int .i64 ((iN+k-iN:R):O),recovered:=ag }];rw[MJ],dF,cN.os,cN.tape,cN.output,cN.size,λk aB nE=>cN.keep k ⟨aB,nE⟩,λk aB => ?_,cN.mlt,⟨dj,zb,qY,dw,f6,hj,kT⟩⟩⟩;by_cases nE:k=b
     .subst nE;exact⟨λ_=>xs,λ_=>b4⟩
     exact cN.hid k ⟨aB,nE⟩
end Yp
namespace Yp
open Go
variable {P:d_}
def Zh{a:cO Operand}(h:Cp a.toList=af):a=#[]:=by
 apply pe;cases b6:a.toList with
 |nil=>rfl
 |cons x l=>rw[b6]at h;cases h
def avb{D:Code}{q:R×R×ab Operand}(h:HZ D=J q):∃id ops y8 e_ dN c9 e? fP fC dl,D=.region id ops ag/\q.2.2=y8.toList /\
  ops.toList=[⟨J q.1,.makeFunc (.func q.2.1) #[] y8,e_,dN,c9,aq⟩,⟨aq,.defer ⟨.value<|.tmp q.1, #[],e?⟩,fP,fC,dl,aq⟩]:=by
 cases D<;>try(cases h)
 rename_i id ops dX;simp only[HZ]at h;cases dX with
 |true=>cases h
 |false=>
  split at h
  .rename_i d F first y8 e_ dN c9 y? args e? fP fC dl od
   cases ak:(cT d y?&&(Cp first.toList&&Cp args.toList)) with
   |false=>exact aNC
   |true=>
    simp only[d5]at ak;have:=iM ak.1;rw[Zh ak.2.1,Zh ak.2.2]at od
    grind
  cases h
def aG4{c:Code}{p:R×Code}(h:LS c=J p):∃id ops e? e_ dN c9,c=.seq (.region id ops ag) p.2/\ops.toList=[⟨J p.1,.call ⟨.builtin .recover, #[],e?⟩,e_,dN,c9,aq⟩]:=by
 unfold LS at h;split at h
 .rename_i id ops b
  split at h
  .rename_i d args e? e_ dN c9 od
   cases ak:Cp args.toList with
   |false=>exact aNC
   |true =>rw[ak,km]at h;cases h;rw[Zh ak]at od;exact⟨_,_,_,_,_,_,rfl,od⟩
  cases h
 cases h
def anQ{E:dO}{rs:ab e6}{res:ab ResultVar}{nv nt:R}{inl:aE}{K:Kp}{w0:bu}(bC:∀c:Code,DT P K w0 E rs res nv nt inl c):∀(c A B:Code) (q:R×R×ab Operand),Aw c=J (A,q,B) ->
  ∀(s:bd) (ρ:Type) (k:k3 (e0 rs)->bi ρ) (r:ρ),((run E rs res nv nt inl A s).bind k).cf=J r->∀(phx:cV) (M:R->Prop) (w:bu) (a:Act),cd K w0 phx M s.bz w->eh phx (view w M) s.bz s.cw a->nt<=a.tmps.size ->
  ∀(Q:Exit->Act->bu->Prop),
   (∀D Mr aT phx' aZ w' bn,HZ D=J q->(k<|.nx aT).cf=J r->gN K w0 Mr s phx M w a aT phx' aZ w' bn->(Code.seq D B).wp P Q bn w') ->
   (∀id aT,(k<|.ex id aT).cf=aq)->(∀x,(k<|.rt x).cf=aq)->c.wp P Q a w
 |.seq x y,A,B,q,iT,s,ρ,k,r,h,phx,M,w,a,hm,hs,g8,Q,Y,ac,av=>by
  simp only[Aw]at iT;cases a?:HZ x with
  |some Qr =>rw[a?]at iT;cases iT;simp only[run]at h;exact Y x [] s phx M w a a? h<|gN.refl hm hs
  |none=>
   rw[a?]at iT;simp only at iT;cases bW:Aw y with
   |none=>rw[bW]at iT;cases iT
   |some p=>
    rw[bW]at iT;obtain⟨Ty,Qr,B'⟩:=p;cases iT;simp only[run]at h;rw[bi.gg]at h;refine wp_seq<|bC x s ρ _ r h phx M w a hm hs g8 _ (λaT phx' aZ w' bn aB ax => ?_) (λid aT phx' aZ w' bn aB ax => ?_) (λv w' bn aB a? bq => ?_)
    .exact anQ bC y _ _ _ bW aT ρ k r aB phx' aZ w' bn ax.iF ax.slots aK6 Q (λD Mr eX kF kp fQ dB jD gi me=>Y D (eS x++Mr) eX kF kp fQ dB jD gi<|ax.trans me (λt h=>A8 _ h)<|λt h=>DM _ h) ac av
    .exact absurd (aB.symm.trans<|ac id aT) bP
    exact absurd (aB.symm.trans<|av v) bP
 |.skip,A,B,q,h,_,_,_,_,_,_,_,_,_,_,_,_,_,_,_,_=>by cases h
 |.label _,A,B,q,h,_,_,_,_,_,_,_,_,_,_,_,_,_,_,_,_=>by cases h
 |.region _ _ _,A,B,q,h,_,_,_,_,_,_,_,_,_,_,_,_,_,_,_,_=>by cases h
 |.cond _ _ _,A,B,q,h,_,_,_,_,_,_,_,_,_,_,_,_,_,_,_,_=>by cases h
 |.block _ _,A,B,q,h,_,_,_,_,_,_,_,_,_,_,_,_,_,_,_,_=>by cases h
 |.exit _,A,B,q,h,_,_,_,_,_,_,_,_,_,_,_,_,_,_,_,_=>by cases h
 |.scope _,A,B,q,h,_,_,_,_,_,_,_,_,_,_,_,_,_,_,_,_=>by cases h
 |.ret,A,B,q,h,_,_,_,_,_,_,_,_,_,_,_,_,_,_,_,_=>by cases h
 |.loop _,A,B,q,h,_,_,_,_,_,_,_,_,_,_,_,_,_,_,_,_=>by cases h
 |.goto _,A,B,q,h,_,_,_,_,_,_,_,_,_,_,_,_,_,_,_,_=>by cases h
 |.refuse _,A,B,q,h,_,_,_,_,_,_,_,_,_,_,_,_,_,_,_,_=>by cases h
 |.rangeFunc _ _ _ _,A,B,q,h,_,_,_,_,_,_,_,_,_,_,_,_,_,_,_,_=>by cases h
def av8{phx:cV}{H:cX}{B:R->bm}{s:bd}{bE:ab aP}{vs:ab aS}(a4:s.bz=B)(dQ:ha phx H B bE vs)(n:R):∃bX:bd,(⟨bX.t,s.h,s.w⟩:bd)=bX/\(∀(γ:Type 1) (k:ey->γ),fill n bE 0 .e k=k bX.t)/\bX.bz=B /\
  eh phx H B bX.cw { tmps:=vs.toArray++hK (n-vs.toArray.size) undef,defers:=[] }:=by
 obtain⟨bX,Y,ac,av,aJ⟩:=Ip n bE 0 ⟨.e,s.h,s.w⟩;have hs:(⟨bX.t,s.h,s.w⟩:bd)=bX:=aOm
 have b0:=dQ.length;have bT:=Z9 dQ;refine⟨bX,hs,λγ k=>av γ k,by rw[<- a4];funext j;unfold bd.bz;rw[Y],λj => ?_⟩;have q0:(⟨.e,s.h,s.w⟩:bd).cw j=.bad:=ey.xn 40 j;rcases aJ j with h|⟨p,_,h,ce⟩|⟨h,ce⟩
 .rw[h,q0];trivial
 .exact No
 rcases ce with ce|ce<;>rw[ce]
 .exact ae_
 trivial
def auM{E EC:dO}(c4:o' P E)(r0:o' P EC)(jX:P.follows .mixedOrders=af){fn f_:Func}{jT bM ne:R}{a9 C:Code}(dY:P.funcs[F]?=J f_)(BG:f_.body=J a9)(iT:LS a9=J (jT,C))(Pd:f_.ntmps<=1000000)(xM:f_.results.size=0)
  {w:bu} {X:R->Prop} (he:qG P ⟨λb=>b<w.heap.size,X⟩ w) {rs:ab e6} {dy:ab jw} {o:au R} {s:bd} {r:e0 rs} (aB:(t? E EC fn f_ ne jT bM C rs dy o s).cf=J r) {phx:cV} {M:R->Prop} {w':bu} {bn:Act} {vs:ab aS}
  (hm:cd ⟨λb=>b<w.heap.size,X⟩ w phx M s.bz w') (hs:eh phx (view w' M) s.bz s.cw bn) (O7:kM phx (view w' M) s.bz dy vs) {u:FrameMode} (bq:(o=aq/\u=.returning)\/∃k,o=J k/\u=.panicking [{ v:=.iface bM<|.int .i64 (k:O),recovered:=ag }]) :
  CallsD P F vs.toArray u w' fun
   |.returned _,u',dp=>Leaves P fn bn.tmps (λe dp=>∃cF,e=.returned cF/\jP w X dp rs r cF) [] (settle u') dp
   |.panicked Eg,u',dp=>Leaves P fn bn.tmps (λe dp=>∃cF,e=.returned cF/\jP w X dp rs r cF) [] (raised u' Eg) dp
   |.outgrown,_,dp=>(λe dp=>∃cF,e=Ending.returned cF/\jP w X dp rs r cF) .outgrown dp:=by
 let K:Kp:=⟨λb=>b<w.heap.size,X⟩
 obtain⟨id,ops,e?,e_,dN,c9,rfl,od⟩:=aG4 iT;simp only at od BG;obtain⟨bX,e1,bh,ei,hQ⟩:=av8 (s:=s) rfl O7.args f_.ntmps;unfold t? at aB;rw[bh]at aB;have aB:((js f_.ntmps (J jT) ⟨bX.t,s.h,s.w⟩ (z9 bM o) λsw=>
  bi.bind (run EC [] f_.results.toList ne f_.ntmps af C sw) fun
   |.nx fj=>(oq E ⟨s.t,fj.h,fj.w⟩ fn.results.toList).bind λvs=>pN ⟨s.t,fj.h,fj.w⟩ rs vs
   |.ex k fj=>bif cT k jx then(oq E ⟨s.t,fj.h,fj.w⟩ fn.results.toList).bind λvs=>pN ⟨s.t,fj.h,fj.w⟩ rs vs else .fail
   | .rt _ => .fail:bi<|e0 rs).bind bi.leaf).cf=J r:=by rw [lJ];exact aB
 rw[e1]at aB;obtain⟨hd,aB⟩:=wD aB;rw[lJ]at aB;have ax8:jT<f_.ntmps:=hd jT rfl
 let hM:Act:={ tmps:=vs.toArray++hK (f_.ntmps-vs.toArray.size) undef,defers:=[] }
 have dA:f_.ntmps<=hM.tmps.size:=by show f_.ntmps<=(vs.toArray++hK (f_.ntmps-vs.toArray.size) undef).size;simp;omega
 refine callsD_of_wpS dY BG λc₀ cs XS => ?_

 have ale:∀(qv:FrameMode) (x:aS),(match u with|.panicking [{ v,recovered:=ag,goexit:=ag }]=>qv=.panicking [{ v,recovered:=af }]/\x=v|_=>qv=u/\x=.nilIface)->settle qv=.returning ->
   bI phx (view w' M) s.bz (z9 bM o) x ->
   C.wpS P (bodyPostS P f_ c₀ cs (fun
   |.returned _,u',dp=>Leaves P fn bn.tmps (λe dp=>∃cF,e=.returned cF/\jP w X dp rs r cF) [] (settle u') dp
   |.panicked Eg,u',dp=>Leaves P fn bn.tmps (λe dp=>∃cF,e=.returned cF/\jP w X dp rs r cF) [] (raised u' Eg) dp
   | .outgrown,_,dp=>(λe dp=>∃cF,e=Ending.returned cF/\jP w X dp rs r cF) .outgrown dp)) (hM.put (J jT) x) ({ c₀ with mode:=qv } :: cs) w':=by
  intro qv x _ lu hx;refine wpS_of_wp ?_;have sl:eh phx (view w' M) (kG bX (J jT)<|z9 bM o).bz (kG bX (J jT)<|z9 bM o).cw<|hM.put (J jT) x:=by rw[mH,tB Pd hd,ei];exact eh.put hQ (λd a?=>by cases a?;exact ge ax8 dA) hx
  have Y7:cd K w phx M (kG bX (J jT)<|z9 bM o).bz w':=by rw[mH,ei];exact hm
  have hC:∀fj phx' aZ dp fp,((oq E ⟨s.t,fj.h,fj.w⟩ fn.results.toList).bind λvs=>pN ⟨s.t,fj.h,fj.w⟩ rs vs).cf=J r->gN K w (eS C) (kG bX (J jT)<|z9 bM o) phx M w' (hM.put (J jT) x) fj phx' aZ dp fp ->
    fp.defers=[]/\∃u',({ c₀ with mode:=qv } :: cs:ab Frame)={ c₀ with mode:=u' } :: cs/\∃v,(results f_ fp.tmps).run P dp=.ok v dp/\Leaves P fn bn.tmps (λe dp=>∃cF,e=.returned cF/\jP w X dp rs r cF) [] (settle u') dp:=by
   intro fj phx' aZ dp fp kR ax;have xz:c8 phx M s.bz w' phx' aZ fj.bz dp:=by have:=ax.ext;rwa [mH,ei]at this
   have aGS:eh phx' (view dp aZ) (⟨s.t,fj.h,fj.w⟩:bd).bz (⟨s.t,fj.h,fj.w⟩:bd).cw bn:=hs.ext xz;have xZ:cd K w phx' aZ (⟨s.t,fj.h,fj.w⟩:bd).bz dp:=ax.iF;obtain⟨oz,us,cn,cR,da⟩:=Ao c4.cp kR xZ aGS;have Z_:((pN ⟨s.t,fj.h,fj.w⟩ rs oz).bind bi.leaf).cf=J r:=by rw[lJ];exact cn
   obtain⟨y,dF,cJ,d9,Ck,yx,_,wz⟩:=Gl (K:=K) (w0:=w) Z_ xZ cR (U:=λ_=>fI) ⟨λ_ _ _ _ h=>h,λ_ h=>h.elim⟩;cases d9;have E6:f_.results.toList=[]:=by rw[<- mW];simpa using xM
   refine⟨by rw[ax.keep.2.1];show(hM.put (J jT) x).defers=[];rfl,qv,rfl,kj [],yn (us:=[]) (by rw[E6];rfl),?_⟩;rw[lu];exact⟨kj us,yn da,kj us,rfl,dF,Ck.os,Ck.tape,Ck.output,Ck.size,λb ak=>Ck.keep b ak,λb ak=>Ck.hid b ak,Ck.mlt,us,wz,rfl⟩
  have XL:((run EC [] f_.results.toList ne f_.ntmps af C<|kG bX (J jT)<|z9 bM o).bind fun
   |.nx fj=>(oq E ⟨s.t,fj.h,fj.w⟩ fn.results.toList).bind λvs=>pN ⟨s.t,fj.h,fj.w⟩ rs vs
   |.ex k fj=>bif cT k jx then(oq E ⟨s.t,fj.h,fj.w⟩ fn.results.toList).bind λvs=>pN ⟨s.t,fj.h,fj.w⟩ rs vs else .fail
   |.rt _=>.fail).cf=J r:=aB
  refine qr (P:=P) (w0:=w) (K:=K) (E:=EC) (inl:=af) r0.cp r0.C r0.M ⟨r0.G,r0.K,λ_=>he,λf s h=>⟨r0.X f s h,he⟩,r0.P,λf s h=>⟨r0.Q f s h,he⟩⟩ r0.I jX (λh=>by cases h) Pd C _ (e0 rs) _ r XL phx M w' _ Y7 sl (by simpa[Act.put]using dA) _ (λfj phx' aZ dp fp kR ax => ?_) (λid fj phx' aZ dp fp kR ax => ?_) (λy dp fp kR a? bq=>by cases kR)
  .exact hC fj phx' aZ dp fp kR ax
  replace kR:((bif cT id jx then(oq E ⟨s.t,fj.h,fj.w⟩ fn.results.toList).bind λvs=>pN ⟨s.t,fj.h,fj.w⟩ rs vs else .fail:bi<|e0 rs)).cf=J r:=kR;cases ak:cT id jx with
  |false=>rw[ak]at kR;cases kR
  |true =>rw[ak,km]at kR;unfold m3;rw[aH<|iM ak];exact hC fj phx' aZ dp fp kR ax
 refine wpS_seq<|wpS_region ?_;have azE:ops.size=1:=by rw[<- T8,od];rfl
 have zu:ops[0]?=J ⟨J jT,.call ⟨.builtin .recover, #[],e?⟩,e_,dN,c9,aq⟩:=by rw[<- yM,od];rfl
 rw[azE];show wpOpsS P ops _ [0] hM (c₀::cs) w';have lR:(execOp hM.eval ⟨J jT,.call ⟨.builtin .recover, #[],e?⟩,e_,dN,c9,aq⟩).run P w'=.ok .recover w':=rfl;simp only[wpOpsS,zu,Region.wanted];rw[lR];simp only[if_true];rcases bq with⟨rfl,rfl⟩|⟨k,rfl,rfl⟩
 .have kd:recoverD (c₀::cs)=aq:=by simp only[recoverD,XS]
  rw[kd];have aA:({ c₀ with mode:=.returning }:Frame)=c₀:=by rw[<- XS]
  have:=ale .returning .nilIface ⟨rfl,rfl⟩ rfl ⟨[.nilIface],ba.x_.2 rfl,rfl⟩;rw[aA]at this;exact this
 have kd:recoverD (c₀::cs)=J (.iface bM<|.int .i64 (k:O),{ c₀ with mode:=.panicking [{ v:=.iface bM<|.int .i64 (k:O),recovered:=af }] } :: cs):=by simp only[recoverD,XS]
 rw[kd];exact ale (.panicking [{ v:=.iface bM<|.int .i64 (k:O),recovered:=af }]) _ ⟨rfl,rfl⟩ rfl ⟨[.int .i64 (k:O)],ba.j1.2 rfl,rfl⟩
def aBw {E EC : dO} (c4 : o' P E) (r0 : o' P EC) (jX : P.follows .mixedOrders = af)  {fn f_ : Func} (hf : P.funcs[f]? = J fn) (uv : (fn.name == "runtime.NumGoroutine") = ag) (dY : P.funcs[F]? = J f_) (ay1 : (f_.name == "runtime.NumGoroutine") = ag)
  (nv ne:R) (ts:ab aw) (rs:ab e6) {m bM:R} (k7:E.Pn=J (m,bM)) (ak:fn.body.isSome=af) (Xc:∀c A B q,fn.body=J c->Aw c=J (A,q,B)->q.2.1=F):h5 P f ⟨ts,rs,Y8 E EC fn f_ nv ne bM ts rs⟩:=by
 refine⟨⟨fn,hf,ak,uv⟩,?_⟩;intro w X x vs r ep md jV fA;unfold Y8 at fA;cases i?:fn.body with
 |none=>exact aOl
 |some c=>
  cases BG:f_.body with
  |none=>rw[i?,BG]at fA;cases fA
  |some a9=>
   rw[i?,BG]at fA;simp only at fA;cases iT:Aw c with
   |none=>rw[iT]at fA;cases fA
   |some p=>
    obtain⟨A,q,B⟩:=p;cases Yc:LS a9 with
    |none=>rw[iT,Yc]at fA;cases fA
    |some aCL=>
     obtain⟨jT,C⟩:=aCL;rw[iT,Yc]at fA;simp only at fA;cases ct:(Nat.ble fn.ntmps 1000000&&(Nat.ble f_.ntmps 1000000&&cT f_.results.size 0)) with
     |false=>rw[ct]at fA;cases fA
     |true=>
      rw[ct]at fA;simp only[d5,acy]at ct;obtain⟨fg,Pd,X9⟩:=ct;have X9:=iM X9;have aiv:=Xc c A B q i? iT;obtain⟨s,av,hs,hm,qe,oe,he⟩:=abh (P:=P) ep md jV fn.ntmps;rw[av,hs]at fA
      let K:Kp:=⟨λb=>b<w.heap.size,X⟩
      have bC:=λc=>qr (P:=P) (w0:=w) (K:=K) (E:=E) (rs:=[]) (res:=fn.results.toList) (nv:=nv) (nt:=fn.ntmps) (inl:=af) c4.cp c4.C c4.M ⟨c4.G,c4.K,λ_=>he,λf s h=>⟨c4.X f s h,he⟩,c4.P,λf s h=>⟨c4.Q f s h,he⟩⟩ c4.I jX (λh=>by cases h) fg c;have ayp:pV P E K w:=⟨c4.G,c4.K,λ_=>he,λf s h=>⟨c4.X f s h,he⟩,c4.P,λf s h=>⟨c4.Q f s h,he⟩⟩;refine calls_of_wp_defers hf i? ?_;refine anQ bC c A B q iT s _ _ r fA (λ_=>aq) X w _ hm qe oe _ (λD Mr bX iI gw cW c9 jD qc r8 => ?_) (λ_ _=>rfl)<|λ_=>rfl;obtain⟨id,ops,y8,e_,dN,avq,e?,fP,fC,avr,rfl,axW,od⟩:=avb jD;obtain⟨dy,wr,b0,bT⟩:=qa qc;obtain⟨b,du,JD,zJ⟩:=aR.dd b0;rw[axW]at JD;have xI:(tv E ⟨J q.1,.makeFunc (.func q.2.1) #[] y8,e_,dN,avq,aq⟩).bC bX.cw bX.bz=J (.clo q.2.1 0 dy,en bX.bz wr):=by show((nb e3 y8.toList).bind λb=>(nb El b).bind λdy=>.ret (.clo q.2.1 0 dy):aR aP).bC bX.cw bX.bz=_;rw[aR.WY,JD];show((nb El b).bind λdy=>.ret (.clo q.2.1 0 dy):aR aP).bC bX.cw du=_;rw[aR.WY,zJ];rfl
      have bT:((js fn.ntmps (J q.1) (bX.fc wr) .bad λaT=>bi.bind (run E [] fn.results.toList nv fn.ntmps af B aT) fun
       |.nx eX=>t? E EC fn f_ ne jT bM C rs dy aq eX
       |.ex k eX=>bif cT k jx then t? E EC fn f_ ne jT bM C rs dy aq eX else bif hv iN k then t? E EC fn f_ ne jT bM C rs dy (J<|k-iN) eX else .fail
       | .rt _ => .fail:bi<|e0 rs).bind bi.leaf).cf=J r:=by rw [lJ];exact bT
      obtain⟨hd,dE⟩:=wD bT;rw[lJ]at dE;have ail:fn.ntmps<=c9.tmps.size:=by rw[r8.keep.1];exact oe
      have tf:=λd a?=>ge (hd d a?) ail;refine wp_seq<|wp_region_list ?_;rw[od];left;refine ZK c4.cp c4.C c4.M ayp xI r8.iF r8.slots λhU dp axH => ?_;obtain⟨kU,dF,cN,bh,oz,O7,r4⟩:=axH;rw[<- bd.oN]at cN bh O7;left;have jo:(c9.put (J q.1) hU).eval (.tmp q.1)=hU:=by show(c9.put (J q.1) hU).tmps.getD q.1 undef=hU;have:=tf q.1 rfl;simp[Act.put,this]
      have ayt:hU=.func (.func q.2.1) #[] oz.toArray:=by rw[r4];simp
      have lR:(execOp (c9.put (J q.1) hU).eval ⟨aq,.defer ⟨.value<|.tmp q.1, #[],e?⟩,fP,fC,avr,aq⟩).run P dp=.ok (.defer { target:=.fn (.func q.2.1) oz.toArray,args:=#[] }) dp:=by simp only[execOp,resolve];rw[jo,ayt];simp[Deferred.ofValue]
      unfold Oper.wp;rw[lR]
      let Em:Deferred:={ target:=.fn (.func q.2.1) oz.toArray,args:=#[] }
      let dl:Act:={ c9.put (J q.1) hU with defers:=Em::c9.defers }
      have SH:eh kU (view dp dF) (kG (bX.fc wr) (J q.1) .bad).bz (kG (bX.fc wr) (J q.1) .bad).cw dl:=by
       rw[mH,tB fg hd];have aC:eh kU (view dp dF) (bX.fc wr).bz (bX.fc wr).cw c9:=by rw[(eQ.fc wr []).cp];exact r8.slots.ext bh
       exact eh.put aC tf trivial
      have zr:dl.defers=[Em]:=by show Em::c9.defers=[Em];rw[r8.keep.2.1]
      have YQ:∀(o:au R) (u:FrameMode) eX kF kp fQ dB,(t? E EC fn f_ ne jT bM C rs dy o eX).cf=J r->gN K w (eS B) (kG (bX.fc wr) (J q.1) .bad) kU dF dp dl eX kF kp fQ dB ->
        ((o=aq/\u=.returning)\/∃k,o=J k/\u=.panicking [{ v:=.iface bM<|.int .i64 (k:O),recovered:=ag }]) ->
        Leaves P fn dB.tmps (λe dp=>∃cF,e=.returned cF/\jP w X dp rs r cF) dB.defers u fQ:=by
       intro o u eX kF kp fQ dB gi me bq;rw[me.keep.2.1,zr];refine leaves_cons (f:=q.2.1) (args:=oz.toArray) (by rcases bq with⟨_,rfl⟩|⟨k,_,rfl⟩<;>simp) ?_ ?_
       .rw[aiv]
        have xw:¬f_.body=aq:=by rw[BG];simp
        have m_:=by simpa using ay1
        simp[invoke,callFunc,dY,m_,xw]
       rw[aiv];have E0:=by have:=me.ext;rwa [mH]at this
       exact auM c4 r0 jX dY BG Yc Pd X9 he gi me.iF me.slots (O7.mono E0.pl E0.vw E0.bl) bq
      refine bC B _ _ _ _ dE kU dF dp dl (by exact cN) SH (by show fn.ntmps<=(c9.put (J q.1) hU).tmps.size;simpa[Act.put]using ail) _ (λeX kF kp fQ dB gi me => ?_) (λid eX kF kp fQ dB gi me => ?_) (λy fQ dB gi a? bq=>by cases gi)
      .exact aNq
      replace gi:((bif cT id jx then t? E EC fn f_ ne jT bM C rs dy aq eX else bif hv iN id then t? E EC fn f_ ne jT bM C rs dy (J<|id-iN) eX else .fail:bi<|e0 rs)).cf=J r:=gi;cases ak:cT id jx with
      |true =>rw[ak]at gi;unfold m3;rw[aH<|iM ak];exact aNq
      |false=>
       rw[ak]at gi;cases hp:hv iN id with
       |false=>rw[hp]at gi;cases gi
       |true=>
        rw[hp]at gi;have bK:=by simpa using hp
        obtain⟨k,rfl⟩:∃k,id=iN+k:=⟨id-iN,V⟩;rw[Oq k7];rw[MJ]at gi;exact YQ (J k) _ eX kF kp fQ dB gi me<|.inr ⟨k,rfl,rfl⟩
end Yp