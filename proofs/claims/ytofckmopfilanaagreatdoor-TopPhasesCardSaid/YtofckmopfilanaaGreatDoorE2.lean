/- A part of the proof of the statements of this seat: the engine that turns code into plain functions, and its soundness. No condition of its own. -/
import Derived.Test.YtofckmopfilanaaGreatDoorE1
import Derived.Scope
import Derived.ProofKit
import Derived.OpenShut
import Derived.Recover
set_option linter.unusedVariables false
set_option linter.unusedSimpArgs false
set_option linter.defProp false
noncomputable section
open Go Yp
variable {D:List Nat}{f f0 t:Nat}
namespace Yp
open Go
variable {P:Program}
section
variable {K:Kp} {w0 w:World} {phx:cf} {M:Nat->Prop} {B B':Nat->aT} {g:Nat->av} {a:Act} {E:dk} {rs:List eC} {res:List ResultVar} {nv nt:Nat} {inl:Bool}
def gg.refl{s:aM}(hm:bM K w0 phx M s.aW w)(ab:dF phx (view w M) s.aW s.b0 a):gg K w0 D s phx M w a s phx M w a:=⟨d5.refl _ _,hm,ct.refl _ _ _ _,ab,hI.refl _ _⟩
def gg.trans{kI Kr:List Nat}{s bz ay:aM}{hU jS:cf}{fV db:Nat->Prop}{co cV:World}{cN cX:Act}(h:gg K w0 D s phx M w a bz hU fV co cN)(k:gg K w0 kI bz hU fV co cN ay jS db cV cX)
  (aJ:∀t,t∈D->t∈Kr) (DE:∀t,t∈kI->t∈Kr):gg K w0 Kr s phx M w a ay jS db cV cX:=⟨h.iw.sub k.iw aJ DE,k.hS,h.ext.trans k.ext,k.slots,h.keep.sub k.keep aJ DE⟩
def gg.mono{kI:List Nat}{s bz:aM}{hU:cf}{fV:Nat->Prop}{co:World}{cN:Act}(h:gg K w0 D s phx M w a bz hU fV co cN)(aJ:∀t,t∈D->t∈kI):gg K w0 kI s phx M w a bz hU fV co cN:=
 ⟨h.iw.mono aJ,h.hS,h.ext,h.slots,h.keep.1,h.keep.2.1,λt ht=>h.keep.2.2 t λah=>ht (aJ t ah)⟩
def aA9{b:Code}(dD:E.U=true)(ih:CA P K w0 E rs res nv nt inl b):CA P K w0 E rs res nv nt inl (.loop b):=by
 intro s ρ k r h phx M w a hm ab gH Q ji T1 T2;simp only[run,dD]at h;refine ajw (λn cX cV=>∃ay jS db,((Po (λs=>run E rs res nv nt inl b s) n ay).bind k).bH=some r/\gg K w0 (dV (.loop b)) s phx M w a ay jS db cV cX) (λcX cV ⟨ay,jS,db,aq,_⟩=>by cases aq) ?_ ⟨s,phx,M,h,gg.refl hm ab⟩;rintro n cX cV ⟨ay,jS,db,R,ak⟩;simp only[Po]at R;rw[aP.fA]at R;have EX:∀t,t∈dV b->t∈dV (.loop b):=λt h=>h;refine ih ay ρ _ r R jS db cV cX ak.hS ak.slots (by rw[ak.keep.1];exact gH) _ (λeh jy jn fy a3 am lG => ?_) (λid eh jy jn fy a3 am lG => ?_) (λv fy a3 am aJ aL => ?_)
 .exact⟨eh,jy,jn,am,ak.trans lG (λt h=>h) EX⟩
 .have aQ:=T1 id eh jy jn fy a3 am (ak.trans lG (λt h=>h) EX)
  revert aQ;unfold ms;(repeat' split)<;>exact λh=>h
 exact T2 v fy a3 am (aJ.trans ak.keep.2.1) aL
def ae3{m:Nat}:∀{l:List Oper} {q:List Oper×Option Nat×Operand×Nat×Oper},It m l=some q->∃d' ty jz p?,q.2.2.2.2=⟨q.2.1,.call ⟨.value (.func m), #[q.2.2.1,.const (.int .i64 (q.2.2.2.1:Int))],d'⟩,ty,jz,p?,none⟩/\l=q.1++[q.2.2.2.2]
 |[],q,h=>by cases h
 |o::r,q,h=>by
  simp only[It]at h;cases ai:It m r with
  |some NV=>
   obtain⟨d',ty,jz,p?,e,bB⟩:=ae3 ai
   grind
  |none=>
   rw[ai]at h;simp only at h;split at h
   .rename_i c? f args d' ty jz p?
    cases aa:Nat.beq f m with
    |false=>rw[aa]at h;cases h
    |true=>
     rw[aa]at h;split at h
     .rename_i c k jb
      cases h;have:=fU aa;subst this;have bh:args=#[c,.const (.int .i64 (k:Int))]:=by apply Cy;exact jb
      subst bh;simp
     cases h
   cases h
def avH{ops:List Oper}{q:List Oper×Option Nat×Operand×Nat×Oper}(h:Nn E ops=some q):∃m t d' ty jz p?,E.Pn=some (m,t)/\q.2.2.2.2=⟨q.2.1,.call ⟨.value (.func m), #[q.2.2.1,.const (.int .i64 (q.2.2.2.1:Int))],d'⟩,ty,jz,p?,none⟩/\ops=q.1++[q.2.2.2.2]:=by
 unfold Nn at h;cases hp:E.Pn with
 |none=>rw[hp]at h;cases h
 |some p=>
  rw[hp]at h;obtain⟨d',ty,jz,p?,e⟩:=ae3 h
  grind
def agv:∀{l:List Oper} {p:List Oper×(Nat×Option Nat×oJ×List Operand)×Oper×List Oper},EI E l=some p ->
  l=p.1++p.2.2.1::p.2.2.2/\E.Q p.2.1.1=some p.2.1.2.2.1/\∃args d' ty jz p?,p.2.1.2.2.2=args.toList/\p.2.2.1=⟨p.2.1.2.1,.call ⟨.value (.func p.2.1.1),args,d'⟩,ty,jz,p?,none⟩
 |[],p,h=>by cases h
 |o::r,p,h=>by
  simp only[EI]at h;cases aQ:V7 E o with
  |some q=>
   rw[aQ]at h;unfold V7 at aQ
   grind
  |none=>
   rw[aQ]at h;cases ai:EI E r with
   |none=>rw[ai]at h;cases h
   |some sM=>
    obtain⟨O,R⟩:=agv ai
    grind
def aa9{dZ fc:List Oper}(h:t∈er dZ):t∈er (dZ++fc):=by
 induction dZ with
 |nil=>cases h
 |cons o r ih=>
  simp only[er,mi]at h ⊢
  grind
def ajx{c:Operand}{c?:Option Nat}{k m:Nat}{d':Array TypeId}{type:TypeId}{jz:String}{after:Array Edge}(hp:zW P m t){b:Bool}(aa:a.eval c=.bool b){Kn:Act->World->Prop}{Q:Exit->Act->World->Prop}
  (O:b=true->∀v,Kn (a.put c? v) w) (R:b=false->Q (.panic [{ v:=.iface t (.int .i64 (k:Int)),recovered:=false }]) a w):Oper.wp P ⟨c?,.call ⟨.value (.func m), #[c,.const (.int .i64 (k:Int))],d'⟩,type,jz,after,none⟩ a w Kn Q:=by
 obtain⟨⟨fn,c1,c2,hN⟩,ah⟩:=hp;have u7:¬fn.body=none:=by intro aa;rw[aa]at c2;cases c2
 have Gk : ¬ fn.name = "runtime.NumGoroutine" := by simpa using hN
 have kv:(execOp a.eval ⟨c?,.call ⟨.value (.func m), #[c,.const (.int .i64 (k:Int))],d'⟩,type,jz,after,none⟩).run P w=.ok (.enter m #[.bool b,.int .i64 (k:Int)]) w:=by have mz:a.eval (.const (.int .i64 (k:Int)))=.int .i64 (k:Int):=rfl;have AN:a.eval (.func m)=.func (.func m) #[] #[]:=rfl;simp only[execOp,resolve];simp[aa,mz,AN,Deferred.ofValue,invoke,callFunc,c1,Gk,u7]
 unfold Oper.wp;rw[kv,Oper.upon_enter];refine(ah b k w).mono ?_;rintro e w' ⟨rfl,rfl⟩;cases b with
 |true=>exact O rfl _
 |false=>exact R rfl
def ae2{c?:Option Nat}{c:Operand}{jQ m:Nat}{d':Array TypeId}{ty:TypeId}{jz:String}{p?:Array Edge}(hp:zW P m t)(m3:E.Pn=some (m,t))(eE:nt<=1000000){s ay:aM}{phx':cf}{aD:Nat->Prop}{w':World}{a':Act}{ρ ρ':Type}
  {k:ko ρ'->aP ρ} {r:ρ} (h:((Is nt c? c jQ ay).bind k).bH=some r) (ak:gg K w0 D s phx M w a ay phx' aD w' a') (gH:nt<=a'.tmps.size) {kI:List Nat} (jp:∀t,t∈D->t∈kI) (aJ:∀d,c?=some d->d∈kI) {Kn:Act->World->Prop} {Q:Exit->Act->World->Prop}
  (ji:∀ay phx' aD w' a',(k (.nx ay)).bH=some r->gg K w0 kI s phx M w a ay phx' aD w' a'->Kn a' w')
  (kX:∀id ay phx' aD w' a',(k (.ex id ay)).bH=some r->gg K w0 kI s phx M w a ay phx' aD w' a'->Q (ms E id) a' w') :
  Oper.wp P ⟨c?,.call ⟨.value (.func m), #[c,.const (.int .i64 (jQ:Int))],d'⟩,ty,jz,p?,none⟩ a' w' Kn Q:=by
 unfold Is at h;rw[aP.fA]at h;obtain⟨v,wr,O,R⟩:=pF h;obtain⟨_,aB⟩:=y2 O ak.slots;simp only at R;have hx:=L0 (k:=jQ) m3;have acn:((iL nt c? ay .bad λs=>aP.leaf (aF.nx s)).bind k).bH=some r->∀v,Kn (a'.put c? v) w':=λhg v=>by obtain⟨gt,hg⟩:=vS hg;refine ji (jA ay c? .bad) phx' aD w' _ hg ?_;have sn:∀d,c?=some d->d<a'.tmps.size:=λd aJ=>gN (gt d aJ) gH;exact gg.trans ak ⟨xh (D:=kI) aJ,by rw[lJ];exact ak.hS,by rw[lJ];exact ct.refl _ _ _ _,by rw[lJ,sN eE gt];exact ak.slots.put sn trivial,hI.put (D:=kI) aJ⟩ jp λt h=>h
 have bad:(k (.ex (hJ+jQ) ay)).bH=some r->Q (.panic [{ v:=.iface t (.int .i64 (jQ:Int)),recovered:=false }]) a' w':=λaa=>by rw[<- hx];exact kX (hJ+jQ) ay phx' aD w' a' aa (ak.mono jp)
 cases v<;>try(cases R;done)
 case kb b=>
  have aa:a'.eval c=.bool b:=aB;refine ajx hp aa (λe => ?_) (λe => ?_)
  .subst e;exact acn R
  subst e;exact bad R
 case sc ajg b=>
  cases ajg<;>try(cases R;done)
  have aa:a'.eval c=.bool b:=ba.bool aB;have ht:∃oA:Bool,oA=b:=⟨b,rfl⟩;obtain⟨oA,AK⟩:=ht;subst AK;simp only[aP.bind,aP.bH,T]at R;refine ajx hp aa (λe => ?_) (λe => ?_)
  .subst e;exact acn R
  subst e;exact bad R
def aBy{c?:Option Nat}{F:Operand}{args:Array Operand}{d':Array TypeId}{type:TypeId}{jz:String}{after:Array Edge}{RN Ly:Array Value}(aB:a.eval F=.func (.func f) RN Ly)(ah:s7 P f){Kn:Act->World->Prop}{Q:Exit->Act->World->Prop}
  (h:Calls P f (RN++args.map a.eval++Ly) w fun
   |.returned v,w'=>Kn (a.put c? v) w'
   |.panicked c,w'=>Q (.panic c) a w'
   |.outgrown,_=>LetsOut Q):Oper.wp P ⟨c?,.call ⟨.value F,args,d'⟩,type,jz,after,none⟩ a w Kn Q:=by
 obtain⟨fn,c1,c2,hN⟩:=ah;have u7:¬fn.body=none:=by intro aa;rw[aa]at c2;cases c2
 have Gk : ¬ fn.name = "runtime.NumGoroutine" := by simpa using hN
 have kv:(execOp a.eval ⟨c?,.call ⟨.value F,args,d'⟩,type,jz,after,none⟩).run P w=.ok (.enter f (RN++args.map a.eval++Ly)) w:=by simp only[execOp,resolve];simp[aB,Deferred.ofValue,invoke,callFunc,c1,Gk,u7]
 unfold Oper.wp;rw[kv];exact h
def abv{ρ' ρ:Type}{n:Nat}{s:aM}:∀{l:List Nat} {k:ko ρ'->aP ρ} {r:ρ},((GN n s l).bind k).bH=some r->((k (.ex (hJ+n) s)).bH=some r)
 |[i],k,r,h=>by
  simp only[GN]at h;cases aa:bX n i with
  |false=>rw[aa]at h;cases h
  |true=>rw[aa]at h;rw[fU aa];exact h
 |i::j::l,k,r,h=>by
  simp only[GN]at h;cases aa:bX n i with
  |false=>rw[aa]at h;exact abv (l:=j::l) h
  |true=>rw[aa]at h;rw[fU aa];exact h
def pQ(hT:nP P E.bv)(cC:qj P E.bv E.C)(hz:ru P E.M)(dC:pm P E K w0)(dW:∀f g,E.I f=some g->kK P f g)(jg:P.follows .mixedOrders=true)(gb:inl=false->∀b,K.k b↔b<w0.heap.size)(eE:nt<=1000000):∀c:Code,CA P K w0 E rs res nv nt inl c
 |.skip=>λs ρ k r h phx M w a hm ab gH Q ji kX pH=>wp_skip (ji s phx M w a h (gg.refl hm ab))
 |.label l=>λs ρ k r h phx M w a hm ab gH Q ji kX pH=>wp_label (ji s phx M w a h (gg.refl hm ab))
 |.region id ops dt=>λs ρ k r h phx M w a hm ab gH Q ji kX pH=>by
  simp only[run]at h;cases vc:Nn E ops.toList with
  |some q=>
   rw[vc]at h;obtain⟨y_,agw,sO,axS,EJ⟩:=q;obtain⟨m,t,d',ty,jz,p?,m3,ML,l5⟩:=avH vc;simp only at ML l5 h;have jp:∀t,t∈er y_->t∈dV (.region id ops dt):=λt ht=>by simp only[dV];rw[l5];exact aa9 ht
   have aJ:∀d,agw=some d->d∈dV (.region id ops dt):=λd aJ=>by
    simp only[dV];rw[l5];have:∀l:List Oper,d∈er (l++[EJ]):=λl=>by
     induction l with
     |nil=>rw[ML,aJ];exact KH
     |cons o r ih=>exact(uW o (r++[EJ])).2 d ih
    grind
   cases dt with
   |true=>
    simp only[cond_true]at h;cases hl:Ii y_ EJ with
    |false=>rw[hl]at h;cases h
    |true =>rw[hl,cond_true,aP.fA]at h;refine ayC jg hl (by rw[<- l5]) (ayA (ops:=y_.toArray) hT cC hz dC dW eE (k:=λs=>(Is nt agw sO axS s).bind k) (by simpa using h) hm ab gH λay phx' aD w' a' am hf bD e1 bz bF => ?_);have ak:gg K w0 (er y_) s phx M w a ay phx' aD w' a':=⟨by simpa using hf,bD,e1,bz,by simpa using bF⟩;unfold Ff wpOp;rw[show(y_++[EJ]).toArray[y_.length]?=some EJ by rw[v7,uC (b1 _),YF];rfl];simp only;rw[ML,if_pos (by simp[Region.wanted])];left;exact ae2 (dC.pn m t m3) m3 eE am ak (by rw[ak.keep.1];exact gH) jp aJ ji kX
   |false =>simp only[cond_false]at h;rw[aP.fA]at h;refine wp_region_list ?_;rw[l5];refine Oq (tail:=[EJ]) hT cC hz dC dW eE y_ true 0 s _ r h phx M w a hm ab gH λay phx' aD w' a' am hf bD e1 bz bF => ?_;have ak:gg K w0 (er y_) s phx M w a ay phx' aD w' a':=⟨hf,bD,e1,bz,bF⟩;simp only[wpList];rw[ML,if_pos (by simp[Region.wanted])];left;exact ae2 (dC.pn m t m3) m3 eE am ak (by rw[ak.keep.1];exact gH) jp aJ ji kX
  |none=>
  rw[vc]at h;simp only at h;cases tL:EI E ops.toList with
  |some p=>
   rw[tL]at h;obtain⟨dZ,⟨f,c?,mM,aBU⟩,o,fc⟩:=p;cases dt with
   |true=>cases h
   |false=>
    simp only[cond_false]at h;obtain⟨l5,lD,args,d',ty,jz,p?,jb,aK⟩:=agv tL;simp only at l5 lD jb aK;subst jb;obtain⟨⟨m,bf,m3,arA⟩,gQ⟩:=dC.qn f mM lD;rw[aP.fA]at h;refine wp_region_list ?_;rw[l5];have Tb:∀t,t∈er dZ->t∈dV (.region id ops false):=λt ht=>by simp only[dV];rw[l5];exact aa9 ht
    have aqX:∀dZ:List Oper,∀t,t∈er (o::fc)->t∈er (dZ++o::fc):=λdZ t ht=>by
     induction dZ with
     |nil=>exact ht
     |cons dz r ih=>exact(uW dz _).2 t ih
    have acM:∀t,t∈er (o::fc)->t∈dV (.region id ops false):=λt ht=>by simp only[dV];rw[l5];exact aqX dZ t ht
    refine Oq (tail:=o::fc) hT cC hz dC dW eE dZ true 0 s _ r h phx M w a hm ab gH λay phx' aD w' a' am hf bD e1 bz bF => ?_;have ak:gg K w0 (er dZ) s phx M w a ay phx' aD w' a':=⟨hf,bD,e1,bz,bF⟩;rw[aP.fA]at am;obtain⟨⟨n,v⟩,wr,O,R⟩:=pF am;obtain⟨a_,c7,dQ,gS⟩:=ax.cK O;obtain⟨Sf,dl⟩:=yV bz dQ;subst Sf;simp only at R;simp only[wpList];rw[aK,if_pos (by simp[Region.wanted])];left;have bh:(args.toList.map a'.eval).toArray=args.map a'.eval:=by apply Cy;simp
    obtain⟨wE,DD⟩:=axR arA gQ gS bD dl;rw[bh]at DD;have pG:a'.eval (.func f)=.func (.func f) #[] #[]:=rfl;have asP:nt<=a'.tmps.size:=by rw[ak.keep.1];exact gH
    refine aBy pG wE ?_;simp only[Array.empty_append,Array.append_empty];refine DD.mono ?_;rintro e cV ⟨db,cr,aU,ac6⟩;rw[<- aM.oc]at cr aU ac6;have aB2:d5 (er dZ) s (ay.ek wr):=hf.sub (d5.ek wr (er dZ)) (λt h=>h) (λt h=>h);have OX:dF phx' (view cV db) (ay.ek wr).aW (ay.ek wr).b0 a':=by rw[(d5.ek wr []).bv];exact bz.ext aU
    simp only[aP.bind,aP.bH,T]at R;rcases ac6 with⟨qs,b5,rfl,rm⟩|⟨qs,rfl⟩
    .subst qs
     rw[show bX 0 0=true from rfl,cond_true]at R;obtain⟨gt,R⟩:=vS R;have sn:∀d,c?=some d->d<a'.tmps.size:=λd aJ=>gN (gt d aJ) asP;have ada:∀d,c?=some d->d∈er (o::fc):=λd aJ=>(uW o fc).1 d (by rw[aK];exact aJ);rw[aP.fA]at R;have wN:gg K w0 (dV (.region id ops false)) s phx M w a (jA (ay.ek wr) c? v) phx' db cV (a'.put c? b5):=
      gg.trans ak ⟨(d5.ek wr []).sub (xh (D:=er (o::fc)) ada) (λt h=>by simp at h) (λt h=>h),by rw[lJ];exact cr,by rw[lJ];exact aU,by rw[lJ,sN eE gt];exact OX.put sn rm,hI.put (D:=er (o::fc)) ada⟩ Tb acM
     show wpList P ops Q fc (a'.put c? b5) cV;have aq:=Oq (P:=P) (tail:=[]) (ops:=ops) (Q:=Q) hT cC hz dC dW eE fc true (dZ.length+1) _ _ r R phx' db cV _ wN.hS wN.slots (by rw[wN.keep.1];exact gH) λeh jy jn fy a3 fC TE gR d8 azm dy => ?_
     .rwa [nU]at aq
     exact ji eh jy jn fy a3 fC (wN.trans ⟨TE,gR,d8,azm,dy⟩ (λt h=>h) λt ht=>acM t ((uW o fc).2 t ht))
    have asR:bX n 0=false:=by
     cases aa:bX n 0 with
     |false=>rfl
     |true=>exact absurd (fU aa) qs
    rw[asR,cond_false]at R;have af:=abv R;have aQ:=kX (hJ+n) (ay.ek wr) phx' db cV a' af (gg.trans ak ⟨d5.ek wr (er dZ),cr,aU,OX,hI.refl _ _⟩ Tb Tb);rw[L0 m3]at aQ;exact aQ
  |none=>
  rw[tL]at h;simp only at h;cases ah:(!dt&&RM E ops.toList) with
  |false =>rw[ah,cond_false,aP.fA]at h;exact ayB hT cC hz dC dW jg eE h hm ab gH λay phx' aD w' a' am hf bD e1 bz bF=>ji ay phx' aD w' a' am ⟨hf,bD,e1,bz,bF⟩
  |true=>
   rw[ah,cond_true,aP.fA]at h;simp only[cP,Cs]at ah;rw[ah.1];refine wp_region_list ?_;have aq:=Oq (tail:=[]) hT cC hz dC dW eE ops.toList true 0 s _ r h phx M w a hm ab gH λay phx' aD w' a' am hf bD e1 bz bF=>ji ay phx' aD w' a' am ⟨hf,bD,e1,bz,bF⟩
   rwa [nU]at aq
 |.seq x y=>λs ρ k r h phx M w a hm ab gH Q ji kX pH=>by
  simp only[run]at h;rw[aP.fA]at h;have A_:∀t,t∈dV x->t∈dV (.seq x y):=λt h=>xN _ h;have Eb:∀t,t∈dV y->t∈dV (.seq x y):=λt h=>xR _ h;refine wp_seq (pQ hT cC hz dC dW jg gb eE x s ρ _ r h phx M w a hm ab gH _ (λay phx' aD w' a' am ak => ?_) (λid ay phx' aD w' a' am ak => ?_) (λv w' a' am aJ aL => ?_))
  .exact pQ hT cC hz dC dW jg gb eE y ay ρ k r am phx' aD w' a' ak.hS ak.slots (by rw[ak.keep.1];exact gH) Q (λeh jy jn fy a3 fC lG=>ji eh jy jn fy a3 fC (ak.trans lG A_ Eb))
    (λid eh jy jn fy a3 fC lG=>kX id eh jy jn fy a3 fC (ak.trans lG A_ Eb)) (λv fy a3 fC aJ aL=>pH v fy a3 fC (aJ.trans ak.keep.2.1) aL)
  .have aQ:=kX id ay phx' aD w' a' am (ak.mono A_)
   revert aQ;unfold ms;(repeat' split)<;>exact λh=>h
  exact pH v w' a' am aJ aL
 |.cond c x y=>λs ρ k r h phx M w a hm ab gH Q ji kX pH=>by
  simp only[run]at h;rw[aP.fA]at h;have A_:∀t,t∈dV x->t∈dV (.cond c x y):=λt h=>xN _ h;have Eb:∀t,t∈dV y->t∈dV (.cond c x y):=λt h=>xR _ h;obtain⟨v,wr,O,R⟩:=pF h;obtain⟨_,aB⟩:=y2 O ab;simp only at R;have acl:∀{ρ:Type} (k:ko (eq rs)->aP ρ) (r:ρ),((run E rs res nv nt inl x s).bind k).bH=some r->(∀ay phx' aD w' a',(k (.nx ay)).bH=some r->gg K w0 (dV x) s phx M w a ay phx' aD w' a'->Q .normal a' w') ->
   (∀id ay phx' aD w' a',(k (.ex id ay)).bH=some r->gg K w0 (dV x) s phx M w a ay phx' aD w' a'->Q (ms E id) a' w') ->
   (∀v w' a',(k (.rt v)).bH=some r->a'.defers=a.defers->(∃us,t7 P a'.tmps w' res us/\iT w0 K.x w' rs v (jD us))->Q .ret a' w')->x.wp P Q a w:=
   λk r hx g1 cD cQ=>pQ hT cC hz dC dW jg gb eE x s _ k r hx phx M w a hm ab gH Q g1 cD cQ
  have acm:∀{ρ:Type} (k:ko (eq rs)->aP ρ) (r:ρ),((run E rs res nv nt inl y s).bind k).bH=some r->(∀ay phx' aD w' a',(k (.nx ay)).bH=some r->gg K w0 (dV y) s phx M w a ay phx' aD w' a'->Q .normal a' w') ->
   (∀id ay phx' aD w' a',(k (.ex id ay)).bH=some r->gg K w0 (dV y) s phx M w a ay phx' aD w' a'->Q (ms E id) a' w') ->
   (∀v w' a',(k (.rt v)).bH=some r->a'.defers=a.defers->(∃us,t7 P a'.tmps w' res us/\iT w0 K.x w' rs v (jD us))->Q .ret a' w')->y.wp P Q a w:=
   λk r hx g1 cD cQ=>pQ hT cC hz dC dW jg gb eE y s _ k r hx phx M w a hm ab gH Q g1 cD cQ
  have XN:((run E rs res nv nt inl x s).bind k).bH=some r->x.wp P Q a w:=λhx=>acl k r hx (λay phx' aD w' a' am ak=>ji ay phx' aD w' a' am (ak.mono A_)) (λid ay phx' aD w' a' am ak=>kX id ay phx' aD w' a' am (ak.mono A_)) pH;have XO:((run E rs res nv nt inl y s).bind k).bH=some r->y.wp P Q a w:=λhx=>acm k r hx (λay phx' aD w' a' am ak=>ji ay phx' aD w' a' am (ak.mono Eb)) (λid ay phx' aD w' a' am ak=>kX id ay phx' aD w' a' am (ak.mono Eb)) pH;cases v<;>try(cases R;done)
  case kb t=>
   have aB:a.eval c=.bool t:=aB;cases t with
   |true=>exact wp_cond_true aB (XN R)
   |false=>exact wp_cond_false aB (XO R)
  case sc ty t=>
   cases ty<;>try(cases R;done)
   have aB:a.eval c=.bool t:=ba.bool aB;cases dD:(E.U && !(qI [] x&&qI [] y)) with
   |true=>
    rw[dD]at R;simp only[cond_true]at R;have ht:∃oA:Bool,oA=t:=⟨t,rfl⟩;obtain⟨oA,AK⟩:=ht;subst AK;cases oA with
    |true=>exact wp_cond_true aB (XN R)
    |false=>exact wp_cond_false aB (XO R)
   |false=>
   rw[dD]at R;simp only[cond_false]at R;have br:((aP.br t (run E rs res nv nt inl x s) (run E rs res nv nt inl y s)).bind k).bH=some r->(Code.cond c x y).wp P Q a w:=λaa=>by
    simp only[aP.bind,aP.bH,T]at aa;have ht:∃oA:Bool,oA=t:=⟨t,rfl⟩;obtain⟨oA,AK⟩:=ht;subst AK;cases oA with
    |true=>exact wp_cond_true aB (XN aa)
    |false=>exact wp_cond_false aB (XO aa)
   generalize(qI [] x&&qI [] y&&afr E)=c1 at R;cases c1 with
   |false=>exact br R
   |true=>
    simp only[cond_true]at R;rw[aP.fA]at R

    have WF:∀{ρ:Type} (k':aM->aP ρ) (rI:ρ),(((aP.br t ((run E rs res nv nt inl x s).nI Bf) ((run E rs res nv nt inl y s).nI Bf))).bind k').bH=some rI ->
     (∀ay phx' aD w' a',(k' ay).bH=some rI->gg K w0 (dV (.cond c x y)) s phx M w a ay phx' aD w' a'->Q .normal a' w')->(Code.cond c x y).wp P Q a w:=by
     intro ρ k' rI aa lF;simp only[aP.bind,aP.bH,T,aP.xb,aP.fA]at aa;have gP:∀{D:List Nat} (jp:∀t,t∈D->t∈dV (.cond c x y)),(∀ay phx' aD w' a',((aP.vD (Bf (.nx ay:ko (eq rs)))).bind k').bH=some rI->gg K w0 D s phx M w a ay phx' aD w' a'->Q .normal a' w') /\
      (∀id ay phx' aD w' a',((aP.vD (Bf (.ex id ay:ko (eq rs)))).bind k').bH=some rI->gg K w0 D s phx M w a ay phx' aD w' a'->Q (ms E id) a' w') /\
      (∀v w' a',((aP.vD (Bf (.rt v:ko (eq rs)))).bind k').bH=some rI->a'.defers=a.defers->(∃us,t7 P a'.tmps w' res us/\iT w0 K.x w' rs v (jD us))->Q .ret a' w'):=
      λjp=>⟨λay phx' aD w' a' am ak=>lF ay phx' aD w' a' am (ak.mono jp),(λid ay phx' aD w' a' am _=>by cases am),(λv w' a' am _ _=>by cases am)⟩
     have ht:∃oA:Bool,oA=t:=⟨t,rfl⟩;obtain⟨oA,AK⟩:=ht;subst AK;cases oA with
     |true=>obtain⟨f1,f2,f3⟩:=gP A_;exact wp_cond_true aB (acl _ rI aa f1 f2 f3)
     |false=>obtain⟨f1,f2,f3⟩:=gP Eb;exact wp_cond_false aB (acm _ rI aa f1 f2 f3)
    rcases UC (λt ht=>(xW.1 ht).1) R with af|⟨ks,p,hp,hrest⟩
    .exact WF _ r af λay phx' aD w' a' am ak=>ji ay phx' aD w' a' am ak
    refine WF _ p hp λay phx' aD w' a' am ak => ?_;have l3:((aP.vD (bif Nat.beq ay.w.length s.w.length then rc ay ks else none)).bind aP.leaf).bH=some p:=by rw[k8];exact am
    obtain⟨sM,qu,jh⟩:=aP.Vo l3;cases jh;cases cm:Nat.beq ay.w.length s.w.length with
    |false=>rw[cm]at qu;cases qu
    |true =>rw[cm,cond_true]at qu;have TH:d5 (nr (dV x++dV y)) s ay:=ak.iw.mono λt ht=>Ec.2 ht;obtain⟨eh,co,cV,fy⟩:=hrest ay TH.ap5 (fU cm) qu;refine ji eh phx' aD w' a' fy ⟨cV.mono λt ht=>Ec.1 ht,by rw[co.2];exact ak.hS,by rw[co.2];exact ak.ext,ak.slots.Pz co,ak.keep⟩
 |.block id x=>λs ρ k r h phx M w a hm ab gH Q ji kX pH=>by
  simp only[run]at h;cases AH:Nat.ble iS id with
  |true=>rw[AH]at h;cases h
  |false=>
  rw[AH,cond_false,aP.fA]at h;have eR:id<iS:=by rw[<- Nat.not_le,<- P2,AH];simp
  refine wp_block (pQ hT cC hz dC dW jg gb eE x s ρ _ r h phx M w a hm ab gH _ (λay phx' aD w' a' am ak=>ji ay phx' aD w' a' am ak) (λi ay phx' aD w' a' am ak => ?_) (λv w' a' am aJ aL=>pH v w' a' am aJ aL));replace am:((bif Nat.beq i id then aP.leaf (aF.nx ay) else aP.leaf (aF.ex i ay):aP (ko (eq rs))).bind k).bH=some r:=am;cases aa:Nat.beq i id with
  |true =>rw[aa]at am;have ac:=fU aa;rw[abu (by rw[ac];exact eR)];simp only[Exit.inBlock];rw[if_pos ac];exact ji ay phx' aD w' a' am ak
  |false=>
   rw[aa]at am;have aQ:=kX i ay phx' aD w' a' am ak;revert aQ;unfold ms
   (repeat' split)<;>first
    |exact λh=>h
    | (
     simp only[Exit.inBlock];rw[if_neg (by rintro rfl;rw[F8]at aa;cases aa)];exact λh=>h)
 |.exit id=>λs ρ k r h phx M w a hm ab gH Q ji kX pH=>by
  simp only[run]at h;cases AH:Nat.ble iS id with
  |true=>rw[AH]at h;cases h
  |false=>
   rw[AH,cond_false]at h;have eR:id<iS:=by rw[<- Nat.not_le,<- P2,AH];simp
   have aQ:=kX id s phx M w a h (gg.refl hm ab);rw[abu eR]at aQ;exact wp_exit aQ
 |.ret=>λs ρ k r h phx M w a hm ab gH Q ji kX pH=>by
  simp only[run]at h;cases TL:inl with
  |true =>rw[TL,cond_true]at h;have aQ:=kX iS s phx M w a h (gg.refl hm ab);exact wp_ret aQ
  |false=>
  rw[TL,cond_false,aP.fA]at h;obtain⟨vs,us,O,R,af⟩:=zg hT h hm ab;rw[aP.fA]at O;obtain⟨x,aD,B',au,bD,sY,_,vO⟩:=EQ O hm R (U:=λ_=>False) ⟨λ_ _ _ _ h=>h,λ_ h=>h.elim⟩;have l1:=gb TL;rw[show(λb=>¬K.k b)=(λb=>¬b<w0.heap.size) from funext λb=>by rw[l1 b]]at vO;refine wp_ret (pH x w a au rfl ⟨us,af,aD,bD.os,bD.tape,bD.output,bD.size,λb aa=>bD.keep b ((l1 b).2 aa),λb aa=>bD.hid b ((l1 b).2 aa),bD.mlt,us,vO,rfl⟩)
 |.loop b=>by
  cases dD:E.U with
  |false=>exact ave dD (pQ hT cC hz dC dW jg gb eE b)
  |true=>exact aA9 dD (pQ hT cC hz dC dW jg gb eE b)
 |.goto l=>λs ρ k r h=>by simp only[run]at h;cases h
 |.scope c=>λs ρ k r h phx M w a hm ab gH Q ji kX pH=>by refine wp_scope_straight (pQ hT cC hz dC dW jg gb eE c s ρ k r h phx M w a hm ab gH _ ji (λid ay phx' aD w' a' am ak => ?_) pH);have aQ:=kX id ay phx' aD w' a' am ak;revert aQ;unfold ms;(repeat' split)<;>exact λh=>h
 |.refuse why=>λs ρ k r h=>by simp only[run]at h;cases h
 |.rangeFunc f a_ x y=>λs ρ k r h=>by simp only[run]at h;cases h
end
end Yp
namespace Yp
open Go
def uz:=@Array.getElem?_replicate
def zU:=@Array.getElem?_append_left
def q6:=@Array.getElem?_append_right
def KT:=@Bool.not_true
variable {P:Program}
def abE:∀(n i:Nat) (s:aM),∃cy:aM,cy.h=s.h/\cy.w=s.w/\(∀(γ:Type 1) (k:dR->γ),L_ n i s.t k=k cy.t)/\(∀j,cy.b0 j=s.b0 j\/(i<=j/\(cy.b0 j=.undef\/cy.b0 j=.bad)))
 |0,i,s=>⟨s,rfl,rfl,λ_ _=>rfl,λ_=>.inl rfl⟩
 |n+1,i,s=>by
  obtain⟨cy,O,R,af,au⟩:=abE n (i+1) (s.mc i .undef);refine⟨cy,O,R,λγ k => ?_,λj => ?_⟩
  .simp only[L_,WC];exact af γ k
  rcases au j with h|⟨h,bE⟩
  .by_cases ap:j=i
   .subst ap
    right;refine⟨b1 _,?_⟩;rw[h];exact s.G0 j .undef
   left;rw[h,s.wx _ ap]
  grind
def GT(n:Nat):∀(vs:List av) (i:Nat) (s:aM),∃cy:aM,cy.h=s.h/\cy.w=s.w/\(∀(γ:Type 1) (k:dR->γ),fill n vs i s.t k=k cy.t) /\
  ∀j,cy.b0 j=s.b0 j\/(∃v,i<=j/\vs[j-i]?=some v/\(cy.b0 j=v\/cy.b0 j=.bad))\/(i+vs.length<=j/\(cy.b0 j=.undef\/cy.b0 j=.bad))
 |[],i,s=>by obtain⟨cy,O,R,af,au⟩:=abE (n-i) i s;exact⟨cy,O,R,af,λj=>(au j).imp id λh=>.inr ⟨by simpa using h.1,h.2⟩⟩
 |v::vs,i,s=>by
  obtain⟨cy,O,R,af,au⟩:=GT n vs (i+1) (s.mc i v);refine⟨cy,O,R,λγ k => ?_,λj => ?_⟩
  .simp only[fill,yl,WC];exact af γ k
  rcases au j with h|⟨u,ap,h,bE⟩|⟨h,bE⟩
  .by_cases ap:j=i
   .subst ap
    right;left;refine⟨v,b1 _,bp,?_⟩;rw[h];exact s.G0 j v
   left;rw[h,s.wx _ ap]
  .grind
  grind
def QJ{H:cj}{phx:cf}{B:Nat->aT}:∀{ts:List ag} {x:iu ts} {vs:List Value},pY H ts x vs->(n4 ts x).length=vs.length/\∀(j:Nat) (p:av),(n4 ts x)[j]?=some p->∃v:Value,vs[j]?=some v/\ba phx H B p v
 |[],x,vs,h=>by have h:vs=[]:=h;subst h;exact⟨rfl,λj p h=>by simp[n4]at h⟩
 |t::ts,x,vs,h=>by
  obtain⟨cs,ei,rfl,O,R⟩:=h;obtain⟨g1,cD⟩:=QJ (phx:=phx) (B:=B) R;refine⟨by simp[n4,g1],λj p ap => ?_⟩;cases j with
  |zero =>simp only[n4,KR,kJ]at ap;subst ap;exact⟨_,rfl,cs,O,rfl⟩
  |succ j =>simp only[n4,FI]at ap;obtain⟨v,af,au⟩:=cD j p ap;exact⟨v,by simpa using af,au⟩
structure oH(P:Program)(E:dk):Prop where
 bv:nP P E.bv
 C:qj P E.bv E.C
 M:ru P E.M
 G:∀f s,E.G f=some s->gK P f s
 K : ∀ g, E.K = some g → P.globalNamed "yett/sha.keys" = some g
 I:∀f g,E.I f=some g->kK P f g
 X:∀f s,E.X f=some s->i4 P f s
 Q:∀f s,E.Q f=some s->FP P E f s
 P:∀m t,E.Pn=some (m,t)->zW P m t
def WT{w:World}{X:Nat->Prop}{ts:List ag}{x:iu ts}{vs:List Value}(dq:∀b,X b->b<w.heap.size)(lE:mA P (view w X))(jb:pY (view w X) ts x vs)(n:Nat):
  ∃s:aM,(∀(γ:Type 1) (k:dR->γ),fill n (n4 ts x) 0 .e k=k s.t)/\(⟨s.t,[],[]⟩:aM)=s/\bM ⟨λb=>b<w.heap.size,X⟩ w (λ_=>none) X s.aW w /\
   dF (λ_=>none) (view w X) s.aW s.b0 { tmps:=vs.toArray++Array.replicate (n-vs.toArray.size) undef,defers:=[] }/\n<=(vs.toArray++Array.replicate (n-vs.toArray.size) undef).size/\p1 P ⟨λb=>b<w.heap.size,X⟩ w:=by
 obtain⟨s,O,R,af,au⟩:=GT n (n4 ts x) 0 ⟨.e,[],[]⟩;have ab:(⟨s.t,[],[]⟩:aM)=s:=by cases s;simp only at O R;rw[O,R]
 let K:Kp:=⟨λb=>b<w.heap.size,X⟩
 have az:s.aW=λ_=>aT.new:=by funext j;unfold aM.aW;rw[O];rfl
 have hm:bM K w (λ_=>none) X s.aW w:=by rw[az];exact⟨rfl,rfl,rfl,b1 _,λ_ _=>rfl,λ_ h=>h,λ_ _=>Qw,(λ_ h=>by cases h),dq,λ_=>trivial,(λ_ _ _ h=>by cases h)⟩
 obtain⟨g1,cD⟩:=QJ (phx:=λ_=>none) (B:=s.aW) jb;have pI:dF (λ_=>none) (view w X) s.aW s.b0 { tmps:=vs.toArray++Array.replicate (n-vs.toArray.size) undef,defers:=[] }:=by
  intro j;have Ax:(⟨.e,[],[]⟩:aM).b0 j=.bad:=dR.wy 40 j;rcases au j with h|⟨p,_,h,bE⟩|⟨h,bE⟩
  .rw[h,Ax];trivial
  .rcases bE with bE|bE<;>rw[bE]
   .obtain⟨v,aB,ai⟩:=cD j p (by simpa using h)
    have bn:j<vs.length:=(mR.1 aB).1;have:(vs.toArray++Array.replicate (n-vs.toArray.size) undef).getD j undef=v:=by rw[nk,zU (by simpa using bn)];simp[aB]
    show ba _ _ _ p ((vs.toArray++Array.replicate (n-vs.toArray.size) undef).getD j undef);rw[this];exact ai
   trivial
  rcases bE with bE|bE<;>rw[bE]
  .have bn:vs.length<=j:=by rw[g1]at h;simpa using h
   have:(vs.toArray++Array.replicate (n-vs.toArray.size) undef).getD j undef=undef:=by
    rw[nk,q6 (by simpa using bn)];by_cases ap:j-vs.toArray.size<n-vs.toArray.size
    .rw[uz,if_pos ap];rfl
    rw[uz,if_neg ap];rfl
   exact this
  trivial
 have nF:n<=(vs.toArray++Array.replicate (n-vs.toArray.size) undef).size:=fK;have gQ:p1 P K w:=⟨λg hg=>by
  obtain⟨a,cap,O,_,_,au⟩:=aI.iM.1 (lE g hg);simp only[zS,Value.slice.injEq,and_true]at O;obtain⟨rfl,_,rfl⟩:=O;rcases au with au|⟨b,o,c,el,fz,bL,ca,_⟩
  .cases au
  cases bL;exact(iP.1 (jZ.1 ca).2).1,lE⟩
 exact⟨s,λγ k=>af γ k,ab,hm,pI,nF,gQ⟩
def avG {E : dk} (bQ : oH P E) (jg : P.follows .mixedOrders = true)  {fn : Func} (hf : P.funcs[f]? = some fn) (tI : (fn.name == "runtime.NumGoroutine") = false)
  (nv:Nat) (ts:List ag) (rs:List eC) (aa:fn.body.isSome=true):gK P f ⟨ts,rs,Nk E fn nv ts rs⟩:=by
 refine⟨⟨fn,hf,aa,tI⟩,?_⟩;intro w X x vs r dq lE jb e3;unfold Nk at e3;cases jc:fn.body with
 |none=>rw[jc]at aa;cases aa
 |some c=>
  rw[jc]at e3;simp only at e3;cases bW:Nat.ble fn.ntmps 1000000 with
  |false=>rw[bW]at e3;cases e3
  |true=>
   rw[bW]at e3;have eE:fn.ntmps<=1000000:=by simpa using bW
   obtain⟨s,af,ab,hm,pI,nF,gQ⟩:=WT (P:=P) dq lE jb fn.ntmps;rw[af,ab]at e3;refine calls_of_wp hf jc ?_
   let K:Kp:=⟨λb=>b<w.heap.size,X⟩
   refine pQ (P:=P) (w0:=w) (K:=K) bQ.bv bQ.C bQ.M ⟨bQ.G,bQ.K,λ_=>gQ,λf s h=>⟨bQ.X f s h,gQ⟩,bQ.P,λf s h=>⟨bQ.Q f s h,gQ⟩⟩ bQ.I jg (λ_ b=>Qw) eE c s (eq rs) _ r e3 (λ_=>none) X w _ hm pI nF _ (λay phx' aD w' a' am ak => ?_) (λid ay phx' aD w' a' am ak=>by cases am) (λy w' a' am aJ aL => ?_)
   .obtain⟨nR,us,bL,ca,cq⟩:=zg bQ.bv am ak.hS ak.slots
    have V6:((o_ ay rs nR).bind aP.leaf).bH=some r:=by rw[k8];exact bL
    obtain⟨y,db,b9,dv,bD,sY,_,vO⟩:=EQ (K:=K) (w0:=w) V6 ak.hS ca (U:=λ_=>False) ⟨λ_ _ _ _ h=>h,λ_ h=>h.elim⟩;cases dv;exact⟨ak.keep.2.1,jD us,xl cq,jD us,rfl,db,bD.os,bD.tape,bD.output,bD.size,λb aa=>bD.keep b aa,λb aa=>bD.hid b aa,bD.mlt,us,vO,rfl⟩
   cases am;obtain⟨us,bL,ca⟩:=aL;exact⟨aJ,jD us,xl bL,jD us,rfl,ca⟩
def M'{ρ:Type}:aP (ko ρ)->aM
 |.leaf (.nx s)=>s
 |_=>default
def Nv {E : dk} (bQ : oH P E) (jg : P.follows .mixedOrders = true)  {fn : Func} (hf : P.funcs[f]? = some fn) (tI : (fn.name == "runtime.NumGoroutine") = false)
  (nv:Nat) (ts:List ag) (rs:List eC) {A C X Z:Code} {k:Nat} (jc:fn.body=some (.seq A (.seq (.seq C (.cond (.tmp k) X .skip)) Z))) (eE:fn.ntmps<=1000000) {m:iu ts->Option (eq rs)} (bS:iu ts->aM) (c:iu ts->Bool)
  (O:∀x,(fill fn.ntmps (n4 ts x) 0 .e λt=>aP.bind (run E rs fn.results.toList nv fn.ntmps false A ⟨t,[],[]⟩) fun|.nx s=>run E rs fn.results.toList nv fn.ntmps false C s|o=>.leaf o)=.leaf (.nx (bS x)))
  (R:∀x,(bS x).b0 k=.nq (c x)) (af:∀x r,c x=true->m x=some r->(run E rs fn.results.toList nv fn.ntmps false X (bS x)).bH=some (.rt r))
  (au:∀x r,m x=some r->(run E rs fn.results.toList nv fn.ntmps false Z (bS x)).bH=some (.rt r)):gK P f ⟨ts,rs,m⟩:=by
 refine⟨⟨fn,hf,by rw[jc];rfl,tI⟩,?_⟩;intro w Qz x vs r dq lE jb e3;have e3:m x=some r:=e3;obtain⟨s,d8,ab,hm,pI,nF,gQ⟩:=WT (P:=P) dq lE jb fn.ntmps;have yr:=O x;rw[d8,ab]at yr;refine calls_of_wp hf jc ?_
 let K:Kp:=⟨λb=>b<w.heap.size,Qz⟩
 have dn:pm P E K w:=⟨bQ.G,bQ.K,λ_=>gQ,λf s h=>⟨bQ.X f s h,gQ⟩,bQ.P,λf s h=>⟨bQ.Q f s h,gQ⟩⟩;have a7:=λ(c:Code)=>pQ (P:=P) (w0:=w) (K:=K) (rs:=rs) (res:=fn.results.toList) (nv:=nv) (nt:=fn.ntmps) (inl:=false) bQ.bv bQ.C bQ.M dn bQ.I jg (λ_ b=>Qw) eE c;have je:((run E rs fn.results.toList nv fn.ntmps false A s).bind fun|.nx s=>run E rs fn.results.toList nv fn.ntmps false C s|o=>.leaf o).bH=some (.nx (bS x)):=by rw[yr];rfl
 refine wp_seq (a7 A s _ _ _ je _ Qz w _ hm pI nF _ (λay phx' aD w' a' am ak => ?_) (λid ay phx' aD w' a' am ak=>by cases am) (λy w' a' am aJ aL=>by cases am));have am:((run E rs fn.results.toList nv fn.ntmps false C ay).bind .leaf).bH=some (.nx (bS x)):=by rw[k8];exact am
 refine wp_seq (wp_seq (a7 C ay _ _ _ am phx' aD w' a' ak.hS ak.slots (by rw[ak.keep.1];exact nF) _ (λeh jy jn fy a3 fC lG => ?_) (λid eh jy jn fy a3 fC lG=>by cases fC) (λy fy a3 fC aJ aL=>by cases fC)));cases fC;have lF:=ak.trans lG (Kr:=dV A++dV C) (λt h=>xN _ h) (λt h=>xR _ h);have asZ:fn.ntmps<=a3.tmps.size:=by rw[lF.keep.1];exact nF
 have gP:∀(FD:Code) (Q:Exit->Act->World->Prop),(run E rs fn.results.toList nv fn.ntmps false FD (bS x)).bH=some (.rt r) ->
   (∀a' w',a'.defers=[]->(∃us,t7 P a'.tmps w' fn.results.toList us/\iT w Qz w' rs r (jD us))->Q .ret a' w')->FD.wp P Q a3 fy:=λFD Q aC aQ=>by
  have aC:((run E rs fn.results.toList nv fn.ntmps false FD (bS x)).bind .leaf).bH=some (.rt r):=by rw[k8];exact aC
  refine a7 FD (bS x) _ _ _ aC jy jn fy a3 lF.hS lF.slots asZ Q (λeP VV aka h1 a4 ka asN=>by cases ka) (λid eP VV aka h1 a4 ka asN=>by cases ka) (λy h1 a4 ka aJ aL => ?_);cases ka;exact aQ a4 h1 (aJ.trans lF.keep.2.1) aL
 have aQ:ba jy (view fy jn) (bS x).aW (.nq (c x)) (a3.eval (.tmp k)):=by rw[<- R x];exact lF.slots k
 obtain⟨b,aa,ah⟩:=aQ;cases b with
 |true =>refine wp_cond_true aa (gP X _ (af x r (ah rfl) e3) λa4 h1 aJ ⟨us,bL,ca⟩ => ?_);exact⟨aJ,jD us,xl bL,jD us,rfl,ca⟩
 |false =>refine wp_cond_false aa (wp_skip (gP Z _ (au x r e3) λa4 h1 aJ ⟨us,bL,ca⟩ => ?_));exact⟨aJ,jD us,xl bL,jD us,rfl,ca⟩
def aAZ{phx:cf}{H:cj}{B:Nat->aT}{vs:List av}{us:List Value}(h:gO phx H B vs us)(ak:vs.all w?=true):ba phx H B (B5 vs) (jD us):=by
 have avb:∀{vs:List av} {us:List Value},gO phx H B vs us->vs.all w?=true->mm phx H B (vs.foldr av.two (.sc .unit ())) us:=by
  intro vs;induction vs with
  |nil=>intro us h _;cases us with
   |nil=>rfl
   |cons=>exact h.elim
  |cons v vs ih=>
   intro us h ak;cases us with
   |nil=>exact h.elim
   |cons u us =>simp only[FN,cP]at ak;exact⟨u,us,rfl,Fj h.1 (afw ak.1),ih h.2 ak.2⟩
 match vs,us,h,ak with
 |[],[],_,_=>exact⟨[],rfl,rfl⟩
 |[v],[u],h,_=>exact h.1
 |v::cT::vs,u::u'::us,h,ak=>exact⟨_,avb h ak,rfl⟩
def V5{H:cj}{phx:cf}{B:Nat->aT}:∀{a_:List av} {vs:List Value},gO phx H B a_ vs->∀(j:Nat) (p:av),a_[j]?=some p->∃v:Value,vs[j]?=some v/\ba phx H B p v
 |[],[],_,j,p,h=>by simp at h
 |p::a_,v::vs,h,j,q,ap=>by
  cases j with
  |zero=>simp only[KR,kJ]at ap;subst ap;exact⟨v,rfl,h.1⟩
  |succ j =>simp only[FI]at ap;obtain⟨u,O,R⟩:=V5 h.2 j q ap;exact⟨u,by simpa using O,R⟩
 |[],_::_,h,_,_,_=>h.elim
 |_::_,[],h,_,_,_=>h.elim
def aun {E : dk} (bQ : oH P E) (jg : P.follows .mixedOrders = true)  {fn : Func} (hf : P.funcs[f]? = some fn) (tI : (fn.name == "runtime.NumGoroutine") = false)
  (nv:Nat) (aa:fn.body.isSome=true):kK P f (jj E fn nv):=by
 refine⟨⟨fn,hf,aa,tI⟩,?_⟩;intro K w0 gQ b? a_ s ρ k r h phx M w vs hm dl;unfold jj at h;cases jc:fn.body with
 |none=>rw[jc]at aa;cases aa
 |some c=>
  rw[jc]at h;simp only at h;cases bW:Nat.ble fn.ntmps 1000000 with
  |false=>rw[bW]at h;cases h
  |true=>
   rw[bW]at h;simp only[KT,cond_false]at h;have eE:fn.ntmps<=1000000:=by simpa using bW
   obtain⟨bz,O,R,af,au⟩:=GT fn.ntmps a_ 0 ⟨.e,s.h,s.w⟩;rw[af]at h;have ab:(⟨bz.t,s.h,s.w⟩:aM)=bz:=by cases bz;simp only at O R;rw[O,R]
   rw[ab,aP.fA]at h;refine calls_of_wp hf jc ?_;have az:bz.aW=s.aW:=by funext j;unfold aM.aW;rw[O]
   have wL:bM K w0 phx M bz.aW w:=by rw[az];exact hm
   have g1:=dl.length;have cD:=V5 dl;have pI:dF phx (view w M) bz.aW bz.b0 { tmps:=vs.toArray++Array.replicate (fn.ntmps-vs.toArray.size) undef,defers:=[] }:=by
    intro j;rw[az];have Ax:(⟨.e,s.h,s.w⟩:aM).b0 j=.bad:=dR.wy 40 j;rcases au j with h|⟨p,_,h,bE⟩|⟨h,bE⟩
    .rw[h,Ax];trivial
    .rcases bE with bE|bE<;>rw[bE]
     .obtain⟨v,aB,ai⟩:=cD j p (by simpa using h)
      have bn:j<vs.length:=(mR.1 aB).1;have:(vs.toArray++Array.replicate (fn.ntmps-vs.toArray.size) undef).getD j undef=v:=by rw[nk,zU (by simpa using bn)];simp[aB]
      show ba _ _ _ p ((vs.toArray++Array.replicate (fn.ntmps-vs.toArray.size) undef).getD j undef);rw[this];exact ai
     trivial
    rcases bE with bE|bE<;>rw[bE]
    .have bn:vs.length<=j:=by rw[g1]at h;simpa using h
     have:(vs.toArray++Array.replicate (fn.ntmps-vs.toArray.size) undef).getD j undef=undef:=by
      rw[nk,q6 (by simpa using bn)];by_cases ap:j-vs.toArray.size<fn.ntmps-vs.toArray.size
      .rw[uz,if_pos ap];rfl
      rw[uz,if_neg ap];rfl
     exact this
    trivial
   have nF:fn.ntmps<=(vs.toArray++Array.replicate (fn.ntmps-vs.toArray.size) undef).size:=fK

   have gP:∀ay phx' aD w' a',(((nN { E with b:=b? } ay fn.results.toList).bind λvs=>bif vs.all w? then .leaf (B5 vs,(⟨s.t,ay.h,ay.w⟩:aM)) else .fail).bind k).bH=some r ->
     gg K w0 (dV c) bz phx M w { tmps:=vs.toArray++Array.replicate (fn.ntmps-vs.toArray.size) undef,defers:=[] } ay phx' aD w' a' ->
     a'.defers=[]/\∃v,(results fn a'.tmps).run P w'=.ok v w'/\(∃b5,Ending.returned v=.returned b5/\∃v ay phx' aD,(k (v,ay)).bH=some r/\bM K w0 phx' aD ay.aW w'/\ct phx M s.aW w phx' aD ay.aW w'/\ba phx' (view w' aD) ay.aW v b5/\d5 [] s ay):=by
    intro ay phx' aD w' a' am ak;rw[aP.fA]at am;obtain⟨nR,us,bL,ca,cq⟩:=zg (E:={ E with b:=b? }) bQ.bv am ak.hS ak.slots;cases hall:nR.all w? with
    |false=>rw[hall]at bL;cases bL
    |true =>rw[hall,cond_true]at bL;have bL:(k (B5 nR,(⟨s.t,ay.h,ay.w⟩:aM))).bH=some r:=bL;have kU:(⟨s.t,ay.h,ay.w⟩:aM).aW=ay.aW:=rfl;refine⟨ak.keep.2.1,jD us,xl cq,jD us,rfl,B5 nR,⟨s.t,ay.h,ay.w⟩,phx',aD,bL,ak.hS,by rw[<- az];exact ak.ext,aAZ ca hall,λ_ _=>rfl,?_⟩;obtain⟨_,ge,f1,f2⟩:=ak.iw;exact⟨ge,by show ay.w=ge++s.w;rw[f1,R],λid hid=>by show ay.aW id=s.aW id;rw[f2 id hid,az]⟩
   refine pQ (P:=P) (w0:=w0) (K:=K) (E:={ E with b:=b? }) (inl:=true) bQ.bv bQ.C bQ.M ⟨bQ.G,bQ.K,λ_=>gQ,λf s h=>⟨bQ.X f s h,gQ⟩,bQ.P,λf s h=>⟨bQ.Q f s h,gQ⟩⟩ bQ.I jg (λh=>by cases h) eE c bz ρ _ r h phx M w _ wL pI nF _ (λay phx' aD w' a' am ak => ?_) (λid ay phx' aD w' a' am ak => ?_) (λy w' a' am aJ aL=>by cases am)
   .exact gP ay phx' aD w' a' am ak
   replace am:((bif Nat.beq id iS then(nN { E with b:=b? } ay fn.results.toList).bind λvs=>bif vs.all w? then .leaf (B5 vs,(⟨s.t,ay.h,ay.w⟩:aM)) else .fail else .fail:aP (av×aM)).bind k).bH=some r:=am;cases aa:Nat.beq id iS with
   |false=>rw[aa]at am;cases am
   |true =>rw[aa,cond_true]at am;unfold ms;rw[if_pos (fU aa)];exact gP ay phx' aD w' a' am ak
def aiG{w:World}{X:Nat->Prop}{ts:List ag}{x:iu ts}{vs:List Value}{t:ag}{y:t.aG}{b o:Nat}{c:Array Value}{el:TypeId}{fz:Nat×Nat}(dq:∀k,X k->k<w.heap.size)(lE:mA P (view w X))(wB:X b)
  (hh:w.heap[b]?=some (.cells c el fz)) (aK:o+t.size<=c.size) (yB:iD c fz) (hy:aI (view w X) t y (cM c o t.size)) (jb:pY (view w X) ts x vs) (n:Nat) :
  ∃s:aM,(∀(γ:Type 1) (k:dR->γ),fill n (.ptr 3 []::n4 ts x) 0 .e k=k s.t)/\(⟨s.t,[(3,.box t (.sc t y))],[]⟩:aM)=s/\bM ⟨λk=>k<w.heap.size/\k≠b,X⟩ w (λj=>if j=3 then some (b,o,c.size) else none) X s.aW w /\
   dF (λj=>if j=3 then some (b,o,c.size) else none) (view w X) s.aW s.b0 { tmps:=(Value.pointer (some ⟨b,o,none⟩)::vs).toArray++Array.replicate (n-(Value.pointer (some ⟨b,o,none⟩)::vs).toArray.size) undef,defers:=[] } /\
   n<=((Value.pointer (some ⟨b,o,none⟩)::vs).toArray++Array.replicate (n-(Value.pointer (some ⟨b,o,none⟩)::vs).toArray.size) undef).size/\p1 P ⟨λk=>k<w.heap.size/\k≠b,X⟩ w:=by
 obtain⟨s,O,R,af,au⟩:=GT n (.ptr 3 []::n4 ts x) 0 ⟨.e,[(3,.box t (.sc t y))],[]⟩;have ab:(⟨s.t,[(3,.box t (.sc t y))],[]⟩:aM)=s:=by cases s;simp only at O R;rw[O,R]
 have az:s.aW=λj=>if j=3 then aT.box t (.sc t y) else .new:=by
  funext j;unfold aM.aW;rw[O];simp only[rr];by_cases ap:j=3
  .subst ap;rw[ F8];rfl
  rw[if_neg ap];cases aa:Nat.beq 3 j with
  |true=>exact absurd (fU aa).symm ap
  |false=>rfl
 have nE:∀j,(s.aW j).fS=true->j=3:=λj ap=>by
  rw[az]at ap;by_cases h:j=3
  .exact h
  simp only[if_neg h]at ap;cases ap
 have hm:bM ⟨λk=>k<w.heap.size/\k≠b,X⟩ w (λj=>if j=3 then some (b,o,c.size) else none) X s.aW w:=by
  refine⟨rfl,rfl,rfl,b1 _,λ_ _=>rfl,λ_ h=>h.1,λ_ _=>Qw,λj ap z bs am => ?_,dq,λj => ?_,λi j js ac ap=>absurd ((nE i ac).trans (nE j ap).symm) js⟩
  .grind
  by_cases h:j=3
  .subst h
   rw[az];exact⟨b,o,c,el,fz,rfl,hh,aK,⟨rfl,hy⟩,yB,wB⟩
  rw[az];simp only[if_neg h];exact trivial
 obtain⟨g1,cD⟩:=QJ (phx:=λj=>if j=3 then some (b,o,c.size) else none) (B:=s.aW) jb;have pI:dF (λj=>if j=3 then some (b,o,c.size) else none) (view w X) s.aW s.b0 { tmps:=(Value.pointer (some ⟨b,o,none⟩)::vs).toArray++Array.replicate (n-(Value.pointer (some ⟨b,o,none⟩)::vs).toArray.size) undef,defers:=[] }:=by
  intro j;have Ax:(⟨.e,[(3,.box t (.sc t y))],[]⟩:aM).b0 j=.bad:=dR.wy 40 j;rcases au j with h|⟨p,_,h,bE⟩|⟨h,bE⟩
  .rw[h,Ax];trivial
  .rcases bE with bE|bE<;>rw[bE]
   .have aB:∃v:Value,(Value.pointer (some ⟨b,o,none⟩)::vs)[j]?=some v/\ba (λj=>if j=3 then some (b,o,c.size) else none) (view w X) s.aW p v:=by
     rw[Nat.sub_zero]at h;cases j with
     |zero =>simp at h;subst h;refine⟨_,rfl,?_⟩;rw[az];exact⟨b,o,c.size,0,t,rfl,by simp only[ag.ew],rfl⟩
     |succ j =>exact cD j p h
    obtain⟨v,aB,ai⟩:=aB;have bn:j<(Value.pointer (some ⟨b,o,none⟩)::vs).length:=(mR.1 aB).1;have:((Value.pointer (some ⟨b,o,none⟩)::vs).toArray++Array.replicate (n-(Value.pointer (some ⟨b,o,none⟩)::vs).toArray.size) undef).getD j undef=v:=by rw[nk,zU (by simpa using bn),v7,aB];rfl
    rw[this];exact ai
   trivial
  rcases bE with bE|bE<;>rw[bE]
  .have bn:(Value.pointer (some ⟨b,o,none⟩)::vs).length<=j:=by simp at h ⊢;omega
   have:((Value.pointer (some ⟨b,o,none⟩)::vs).toArray++Array.replicate (n-(Value.pointer (some ⟨b,o,none⟩)::vs).toArray.size) undef).getD j undef=undef:=by
    rw[nk,q6 (by simpa using bn)];by_cases ap:j-(Value.pointer (some ⟨b,o,none⟩)::vs).toArray.size<n-(Value.pointer (some ⟨b,o,none⟩)::vs).toArray.size
    .rw[uz,if_pos ap];rfl
    rw[uz,if_neg ap];rfl
   exact this
  trivial
 have nF:n<=((Value.pointer (some ⟨b,o,none⟩)::vs).toArray++Array.replicate (n-(Value.pointer (some ⟨b,o,none⟩)::vs).toArray.size) undef).size:=by rw[Cr,Array.size_replicate];omega
 have gQ:p1 P ⟨λk=>k<w.heap.size/\k≠b,X⟩ w:=⟨λg hg=>by
  obtain⟨a,cap,O,_,_,au⟩:=aI.iM.1 (lE g hg);obtain⟨rfl,_,rfl⟩:=O;rcases au with au|⟨b',dz,cO,yg,qo,bL,ca,_⟩
  .cases au
  cases bL;obtain⟨cq,dv⟩:=jZ.1 ca;exact⟨(iP.1 dv).1,λe=>cq (e▸wB)⟩,lE⟩
 exact⟨s,λγ k=>af γ k,ab,hm,pI,nF,gQ⟩
def Q6{K:Kp}{w0 w:World}{phx:cf}{M:Nat->Prop}{B B':Nat->aT}{g:Nat->av}{t:ag}{x:t.aG}{b o n:Nat}(h:(Gh t).a7 g B=some (x,B'))(hm:bM K w0 phx M B w)(hx:phx 3=some (b,o,n)):
  ∃aD,bM K w0 phx aD B' w/\ct phx M B w phx aD B' w/\aD b/\B' 3=.ft/\∃c el fz,w.heap[b]?=some (.cells c el fz)/\c.size=n/\iD c fz/\aI (view w aD) t x (cM c o t.size)/\∀j,j≠3->(B' j).fS=true->∀z,phx j=some z->z.1≠b:=by
 simp only[Gh,ax.a7]at h;have aa:=hm.blks 3;generalize az:B 3=bl at h aa;cases bl<;>try(cases h;done)
 rename_i t' u;dsimp only at h;cases g7:ag.is t' t with
 |false=>rw[g7]at h;cases h
 |true=>
  rw[g7]at h;simp only[cond]at h;have ht:=eX g7;subst ht;obtain⟨b',dz,c,el,fz,bL,ca,cq,dv,e',ma⟩:=aa;rw[hx,kJ,pr,pr]at bL;obtain⟨rfl,rfl,rfl⟩:=bL;obtain⟨y,c7,O,R⟩:=ax.cK h;obtain⟨fV,bD,e1,_,f1,f2⟩:=J3 O hm dv;simp only[ax.a7]at R;have hb2:=bD.blks 3;generalize kU:c7 3=bl2 at R hb2;cases bl2<;>try(cases R;done)
  rename_i e? qV;dsimp only at R;cases vf:ag.is e? t' with
  |false=>rw[vf]at R;cases R
  |true =>rw[vf]at R;simp only[cond,ax.a7]at R;cases R;obtain⟨eo,m7,c2,abf,ab7,dQ,gS,l_,y5,y6,tY⟩:=hb2;rw[hx,kJ,pr,pr]at dQ;obtain⟨rfl,rfl,_⟩:=dQ;obtain⟨cr,aU⟩:=bD.ft 3;refine⟨fV,cr,e1.trans aU,tY,e5 _ _ _,c,el,fz,ca,rfl,e',f2 rfl,λj ap rl z bs e => ?_⟩;rw[en _ _ ap]at rl;exact bD.sep j 3 ap rl (by rw[kU];rfl) z _ bs hx e
def avD {E : dk} (bQ : oH P E) (jg : P.follows .mixedOrders = true)  {fn : Func} (hf : P.funcs[f]? = some fn) (tI : (fn.name == "runtime.NumGoroutine") = false)
  (nv:Nat) (t:ag) (ts:List ag) (rs:List eC) (aa:fn.body.isSome=true):i4 P f ⟨t,ts,rs,Ir E fn nv t ts rs⟩:=by
 refine⟨⟨fn,hf,aa,tI⟩,?_⟩;intro w X b o c el fz x y vs r dq lE wB hh aK yB hx jb e3;have e3:Ir E fn nv t ts rs (x,y)=some r:=e3;unfold Ir at e3;cases jc:fn.body with
 |none=>rw[jc]at aa;cases aa
 |some CX=>
  rw[jc]at e3;simp only at e3;cases bW:Nat.ble fn.ntmps 1000000 with
  |false=>rw[bW]at e3;cases e3
  |true=>
   rw[bW]at e3;simp only[KT,cond_false]at e3;have eE:fn.ntmps<=1000000:=by simpa using bW
   obtain⟨s,af,ab,hm,pI,nF,gQ⟩:=aiG (P:=P) dq lE wB hh aK yB hx jb fn.ntmps;rw[af,ab]at e3;refine calls_of_wp hf jc ?_
   let K:Kp:=⟨λk=>k<w.heap.size/\k≠b,X⟩
   have gP:∀ay phx' aD w' a',((tr E t rs fn.results.toList ay).bind aP.leaf).bH=some r->gg K w (dV CX) s (λj=>if j=3 then some (b,o,c.size) else none) X w { tmps:=(Value.pointer (some ⟨b,o,none⟩)::vs).toArray++Array.replicate (fn.ntmps-(Value.pointer (some ⟨b,o,none⟩)::vs).toArray.size) undef,defers:=[] } ay phx' aD w' a' ->
     a'.defers=[]/\∃v,(results fn a'.tmps).run P w'=.ok v w'/\∃b5,Ending.returned v=.returned b5/\FQ w X b o c.size w' t r.1 rs r.2 b5:=by
    intro ay phx' aD w' a' am ak;unfold tr at am;rw[aP.fA]at am;obtain⟨nR,us,bL,ca,cq⟩:=zg bQ.bv am ak.hS ak.slots;rw[aP.fA]at bL;obtain⟨z,wr,dQ,gS⟩:=pF bL;have AN:phx' 3=some (b,o,c.size):=(ak.ext.pl 3 (by rw[show s.aW 3=.box t (.sc t x) by rw[<- ab];rfl];rfl)).trans (if_pos rfl);obtain⟨db,cr,aU,bF,b2,cO,yg,qo,dy,fl,fZ,kd,kY⟩:=Q6 dQ ak.hS AN;rw[aP.fA]at gS;rw[<- aM.oc]at cr aU b2 kY;have sz:lu phx' db (ay.ek wr).aW (λk=>k=b):=by
     refine⟨λj ap y hy Ul => ?_,λk am=>am▸bF⟩;by_cases Hz:j=3
     .subst Hz;rw[b2]at ap;cases ap
     exact kY j Hz ap y hy Ul
    obtain⟨aBM,jn,vY,dv,gR,v3,Ti,vO⟩:=EQ (K:=K) (w0:=w) gS cr (ca.ext aU) sz;cases dv;refine⟨ak.keep.2.1,jD us,xl cq,jD us,rfl,jn,gR.os,gR.tape,gR.output,gR.size,λk am m2=>gR.keep k ⟨am,m2⟩,λk am => ?_,gR.mlt,⟨cO,yg,qo,dy,fl,fZ,kd.mono v3⟩,us,vO.lo ?_,rfl⟩
    .by_cases m2:k=b
     .subst m2;exact⟨λ_=>wB,λ_=>Ti k rfl⟩
     exact gR.hid k ⟨am,m2⟩
    intro k rk dD am;exact rk ⟨am,dD⟩
   refine pQ (P:=P) (w0:=w) (K:=K) (inl:=true) bQ.bv bQ.C bQ.M ⟨bQ.G,bQ.K,λ_=>gQ,λf s h=>⟨bQ.X f s h,gQ⟩,bQ.P,λf s h=>⟨bQ.Q f s h,gQ⟩⟩ bQ.I jg (λh=>by cases h) eE CX s (t.aG×eq rs) _ r e3 (λj=>if j=3 then some (b,o,c.size) else none) X w _ hm pI nF _ (λay phx' aD w' a' am ak => ?_) (λid ay phx' aD w' a' am ak => ?_) (λy w' a' am aJ aL=>by cases am)
   .exact gP ay phx' aD w' a' (by rw[k8];exact am) ak
   replace am:((bif Nat.beq id iS then tr E t rs fn.results.toList ay else .fail:aP (t.aG×eq rs))).bH=some r:=am;cases aa:Nat.beq id iS with
   |false=>rw[aa]at am;cases am
   |true =>rw[aa,cond_true]at am;unfold ms;rw[if_pos (fU aa)];exact gP ay phx' aD w' a' (by rw[k8];exact am) ak
def i4.congr{t:ag}{ts:List ag}{rs:List eC}{m mC:t.aG×iu ts->Option (t.aG×eq rs)}(h:i4 P f ⟨t,ts,rs,m⟩)(aC:∀x,m x=mC x):i4 P f ⟨t,ts,rs,mC⟩:=by
 have:m=mC:=funext aC
 grind
def jR(f:Nat)(s:i5):yS [] f=some s->i4 P f s:=λh=>by cases h
def ie{l:List (Nat×i5)}(h:∀f s,yS l f=some s->i4 P f s){rN:i5}(aq:i4 P f0 rN):∀f s,yS ((f0,rN)::l) f=some s->i4 P f s:=by
 intro f s ab;simp only[yS]at ab;cases aa:Nat.beq f0 f with
 |true=>rw[aa]at ab;cases ab;rw[<- fU aa];exact aq
 |false=>rw[aa]at ab;exact h f s ab
def a1(f:Nat)(g:gz):vp [] f=some g->kK P f g:=λh=>by cases h
def gw{l:List (Nat×gz)}(h:∀f g,vp l f=some g->kK P f g){g0:gz}(aq:kK P f0 g0):∀f g,vp ((f0,g0)::l) f=some g->kK P f g:=by
 intro f g ab;simp only[vp]at ab;cases aa:Nat.beq f0 f with
 |true=>rw[aa]at ab;cases ab;rw[<- fU aa];exact aq
 |false=>rw[aa]at ab;exact h f g ab
def aZ(f:Nat)(s:e6):vo [] f=some s->gK P f s:=λh=>by cases h
def aA{l:List (Nat×e6)}(h:∀f s,vo l f=some s->gK P f s){rN:e6}(aq:gK P f0 rN):∀f s,vo ((f0,rN)::l) f=some s->gK P f s:=by
 intro f s ab;simp only[vo]at ab;cases aa:Nat.beq f0 f with
 |true=>rw[aa]at ab;cases ab;rw[<- fU aa];exact aq
 |false=>rw[aa]at ab;exact h f s ab
def gK.congr{ts:List ag}{rs:List eC}{m mC:iu ts->Option (eq rs)}(h:gK P f ⟨ts,rs,m⟩)(aC:∀x,m x=mC x):gK P f ⟨ts,rs,mC⟩:=by
 have:m=mC:=funext aC
 grind
end Yp
namespace Yp
open Go Go.ChangeShapes Go.WideShapes Go.ChangeAt Go.RowKit
def nV:=@Nat.zero_le
def zZ:=@List.length_range
def KE:=@Option.bind_eq_some_iff
variable {P:Program} {H:Type} {enc:TypeId×Value->H}
def CY{t:ag}{tid:TypeId}(h:(cY P t).1 tid):P.cellsOf tid=t.size:=by obtain⟨i,O,R,_⟩:=oa h;simp[Program.cellsOf,O,R]
def an7{w:World}{base:Nat}{a:Addr}{n:Nat}{cs:List Value}(h:w.cells? base a n=some cs)(ak:0<n)(ab:a.spot=none):
  ∃c el fz,w.heap[a.block]?=some (.cells c el fz)/\a.off+n<=c.size/\cs=cM c a.off n:=by
 unfold World.cells? at h;split at h
 .have cm:=mapM_some_length h
  have Hw:=mapM_some_get h;simp at cm;have acY:∀i,a.add i=⟨a.block,a.off+i,none⟩:=λi=>by obtain⟨b,o,s⟩:=a;simp only at ab;subst ab;exact q8 b o i
  have df:∀i,i<n->w.cell? ⟨a.block,a.off+i,none⟩=cs[i]?:=λi ac=>by
   grind
  have aq:=df 0 ak;rw[km J]at aq;cases aa:w.heap[a.block]? with
  |none=>simp[World.cell?,aa]at aq
  |some ob=>
   cases ob with
   |cells c el fz=>
    have ah:∀i,i<n->c[a.off+i]?=cs[i]?:=λi ac=>by rw[<- df i ac,Gv aa]
    have bW:a.off+n<=c.size:=by
     have:=ah (n-1) J
     grind
    refine⟨c,el,fz,rfl,bW,?_⟩;apply Cx;intro i;by_cases ac:i<n
    .rw[vP ac,ah i ac]
    have hl:=qQ bW
    grind
   |_=>simp[World.cell?,aa]at aq
 cases h
def US{α:Type}{p:Nat->α->Prop}:∀(n:Nat),(∀i,i<n->∃x,p i x)->∃l:List α,l.length=n/\∀i x,ic l i=some x->p i x
 |0,_=>⟨[],rfl,λi x h=>by simp[ic]at h⟩
 |n+1,h=>by
  obtain⟨l,O,R⟩:=US n λi ac=>h i J;obtain⟨x,hx⟩:=h n J;refine⟨l++[x],by simp[O],λi y hy => ?_⟩;simp only[ic]at hy;by_cases ac:i<n
  .rw[zO J]at hy;exact R i y hy
  rw[uC J]at hy;have:i=n:=by
   rcases oI (i-l.length) 1 with h|h
   .omega
   rw[uA (by simpa using h)]at hy;cases hy
  subst this;rw[O]at hy;simp at hy;rw[<- hy];exact hx
def vI:ag->Bool
 |.sl e=>Nat.blt 0 e.size&&vI e|.pair a b=>vI a&&vI b|.ar _ e=>vI e|.op _=>false|.fn _=>false|_=>true
def rE:(t:ag)->t.aG->Prop
 |.int k,x=>k.min<=bG.to k x/\bG.to k x<=k.max
 |.sl e,l=>(l:List e.aG).length<=maxLen/\∀(i:Nat) (x:e.aG),ic (α:=e.aG) l i=some x->rE e x
 |.ar n e,l=>(l:List e.aG).length=n/\∀(i:Nat) (x:e.aG),ic (α:=e.aG) l i=some x->rE e x
 |.pair a b,x=>rE a x.1/\rE b x.2
 |.bool,_=>True
 |.str,_=>True
 |.unit,_=>True
 |.op _,_=>True
 |.fn _,_=>True
def NE:(ts:List ag)->iu ts->Prop
 |[],_=>True
 |t::ts,x=>rE t x.1/\NE ts x.2
def J?{w:World}{base:Nat}{mM:Nat->Bool}{held:Bool}:∀(t:ag),vI t=true->(∀(tid:TypeId) (gG:Nat) (cs:List Value) (x:DataW H×List MemPlace),(cY P t).1 tid->DataW.trod enc P w base mM held gG tid cs=some x->∃d:t.aG,aI (full w) t d cs/\rE t d) /\
  ∀(l:List Field) (off gG:Nat) (cs:List Value),(cY P t).2 l off->cs.length=off+t.size->(∀f∈l,∃x,DataW.trod enc P w base mM held gG f.type ((cs.drop f.offset).take (P.cellsOf f.type))=some x)->∃d:t.aG,aI (full w) t d (cs.drop off)/\rE t d
 |.op _,hp=>by cases hp
 |.fn _,hp=>by cases hp
 |.bool,_=>by refine⟨λtid gG cs x hf h => ?_,λl off gG cs hf=>hf.elim⟩;obtain⟨b,rfl,_⟩:=DataW.trod_bool hf.1 h;exact⟨(b:Bool),aI.oM.2 rfl,trivial⟩
 |.int k,_=>by
  refine⟨λtid gG cs x hf h => ?_,λl off gG cs hf=>hf.elim⟩;obtain⟨n,rfl,_,bw⟩:=DataW.trod_int hf.1 h;have aa:k.min<=n/\n<=k.max:=by simpa[Lit.wf]using bw
  have aC:bG.to k (bG.lit k n)=n:=bG.UT k n λaL=>⟨by cases k<;>simp_all[Fr,IntKind.min,IntKind.signed],aa.2⟩;refine⟨bG.lit k n,aI.iK.2 (by rw[aC]),?_⟩;simp only[rE];rw[aC];exact aa
 |.str,_=>by refine⟨λtid gG cs x hf h => ?_,λl off gG cs hf=>hf.elim⟩;obtain⟨s,rfl,_⟩:=DataW.trod_string hf.1 h;exact⟨(s.data.toList:List UInt8),aI.m?.2 bp,trivial⟩
 |.sl e,hp=>by
  refine⟨λtid gG cs x hf h => ?_,λl off gG cs hf=>hf.elim⟩;obtain⟨⟨bf,aL,aC⟩,_⟩:=hf;simp only[vI,cP,P?]at hp;rcases DataW.trod_slice aL h with⟨rfl,_⟩|⟨a,len,cap,elems,rest,n,_,rfl,_,O,R,af,au,aY,_⟩
  .exact⟨([]:List e.aG),aI.iM.2 ⟨none,0,rfl,b1 _,by unfold maxLen;omega,.inl rfl⟩,nV _,λi x h=>by simp[ic]at h⟩
  have hcell:=CY aC;rw[hcell]at aY;by_cases hl:len=0
  .subst hl
   exact⟨([]:List e.aG),aI.iM.2 ⟨some a,cap,rfl,R,af,.inl rfl⟩,nV _,λi x h=>by simp[ic]at h⟩
  have h6:a.spot=none:=by
   have:=aY 0 J;rw[km J,KE]at this;obtain⟨q,aQ,_⟩:=this;unfold World.cells? at aQ;split at aQ
   .have hg:=mapM_some_get aQ 0 0 (by simp[hp.1])
    have ati:=mapM_some_length aQ;simp only[zZ]at ati;rw[km J]at hg;have bh:((a.add (0*e.size)).add 0)=a:=by simp[Addr.add]
    rw[bh]at hg;cases ab:a.spot with
    |none=>rfl
    |some s =>simp only[World.cell?,ab]at hg;split at hg<;>simp at hg
   cases aQ
  have acY:∀i,a.add (i*e.size)=⟨a.block,a.off+i*e.size,none⟩:=λi=>by obtain⟨b,o,s⟩:=a;simp only at h6;subst h6;exact q8 b o _
  have key:∀i,i<len->∃x:e.aG,∃c el fz,w.heap[a.block]?=some (.cells c el fz)/\a.off+i*e.size+e.size<=c.size/\aI (full w) e x (cM c (a.off+i*e.size) e.size)/\rE e x:=λi ac=>by have:=aY i ac;rw[km J,KE]at this;obtain⟨q,aQ,aJ⟩:=this;rw[acY]at aQ;obtain⟨c,el,fz,g1,cD,rfl⟩:=an7 aQ hp.1 rfl;obtain⟨d,aJ⟩:=(J? e hp.2).1 bf n _ _ aC aJ;exact⟨d,c,el,fz,g1,cD,aJ⟩
  obtain⟨_,c,el,fz,g1,_,_⟩:=key 0 J;have aep:∀i,i<len->∃x:e.aG,a.off+i*e.size+e.size<=c.size/\aI (full w) e x (cM c (a.off+i*e.size) e.size)/\rE e x:=λi ac=>by obtain⟨x,cO,yg,qo,bF,b2,dy⟩:=key i ac;rw[g1]at bF;cases bF;exact⟨x,b2,dy⟩
  obtain⟨l,dZ,fc⟩:=US len aep;have oX:a.off+len*e.size<=c.size:=by
   obtain⟨x,b2,_⟩:=aep (len-1) J;have:len*e.size=(len-1)*e.size+e.size:=by
    conv=>lhs;rw[show len=(len-1)+1 by omega,nh,Nat.one_mul]
   omega
  obtain⟨b,o,s⟩:=a;simp only at h6;subst h6;exact⟨(l:List e.aG),aI.iM.2 ⟨_,cap,by rw[dZ],by rw[dZ];exact R,af,.inr ⟨b,o,c,el,fz,rfl,g1,by rw[dZ];exact oX,λi x ac=>(fc i x ac).2.1⟩⟩,by show l.length<=_;rw[dZ];omega,λi x ac=>(fc i x ac).2.2⟩
 |.unit,_=>by refine⟨λtid gG cs x hf h => ?_,λl off gG cs hf hl _=>⟨(),aI.Cb.2 (iR.1 (by rw[eU,hl];simp[ag.size])),trivial⟩⟩;obtain⟨⟨fs,aL,ri⟩,ac⟩:=hf;obtain⟨eL,n,_,_,hl,_⟩:=DataW.trod_struct aL h;have ah:P.cellsOf tid=ag.unit.size:=CY (t:=.unit) ⟨⟨fs,aL,ri⟩,ac⟩;exact⟨(),aI.Cb.2 (iR.1 (by rw[hl,ah];rfl)),trivial⟩
 |.pair a b,hp=>by
  simp only[vI,cP]at hp;have ahT:∀(l:List Field) (off gG:Nat) (cs:List Value),(cY P (.pair a b)).2 l off->cs.length=off+(ag.pair a b).size->(∀f∈l,∃x,DataW.trod enc P w base mM held gG f.type ((cs.drop f.offset).take (P.cellsOf f.type))=some x)->∃d:(ag.pair a b).aG,aI (full w) (.pair a b) d (cs.drop off)/\rE (.pair a b) d:=by intro l off gG cs hf hl hx;obtain⟨f,r,rfl,O,R,af⟩:=hf;obtain⟨x,ad3⟩:=hx f bp;rw[CY R,O]at ad3;obtain⟨aot,sn,as1⟩:=(J? a hp.1).1 f.type gG _ _ R ad3;simp only[ag.size]at hl;obtain⟨aox,arT,HG⟩:=(J? b hp.2).2 r (off+a.size) gG cs af J λwn Hr=>hx wn (by simp[Hr]);refine⟨(aot,aox),aI.m9.2 ⟨_,_,?_,sn,arT⟩,as1,HG⟩;rw[<- p8,zQ]
  refine⟨λtid gG cs x hf h => ?_,ahT⟩;have ah:=CY hf;obtain⟨⟨fs,aL,f,r,e1,aU,d8,hc⟩,ac⟩:=hf;obtain⟨eL,n,rfl,_,hl,DT,hx⟩:=DataW.trod_struct aL h;have Hs:(cY P (.pair a b)).2 fs.toList 0:=⟨f,r,e1,aU,d8,by simpa using hc⟩;obtain⟨d,aJ⟩:=ahT fs.toList 0 n cs Hs (by rw[hl,ah];omega) λwn Hr=>by
   obtain⟨i,ac,rfl⟩:=pp Hr;have fk:i<fs.size:=by simpa using ac
   have:=hx i fs[i] (xV fk);rw[km J]at this;exact⟨_,by simpa using this⟩
  exact⟨d,by simpa using aJ⟩
 |.ar n e,hp=>by
  refine⟨λtid gG cs x hf h => ?_,λl off gG cs hf=>hf.elim⟩;have ah:=CY hf;obtain⟨⟨bf,aL,aC⟩,_⟩:=hf;obtain⟨eL,m,rfl,_,hl,DT,hx⟩:=DataW.trod_array aL h;rw[CY aC]at hx;obtain⟨l,dZ,fc⟩:=US (p:=λi (x:e.aG)=>aI (full w) e x ((cs.drop (i*e.size)).take e.size)/\rE e x) n λi ac=>by have:=hx i ac;rw[km J]at this;exact(J? e hp).1 bf m _ _ aC this
  exact⟨(l:List e.aG),aI.CL.2 ⟨dZ,by rw[hl,ah];rfl,λi x h=>(fc i x h).1⟩,dZ,λi x h=>(fc i x h).2⟩
def akN{w:World}{base:Nat}{mM:Nat->Bool}{held:Bool}{t:ag}(hp:vI t=true){tid:TypeId}(hf:(cY P t).1 tid){r:Reach}{eD:Nat}{v:Value}{d:DataW H}{a_:List MemPlace}(l7:Value.okWide P w r eD tid v)(h:DataW.Trod enc P w base mM held tid v d a_):
  ∃(x:t.aG) (cs:List Value),v=cB t cs/\aI (full w) t x cs/\rE t x:=by
 obtain⟨gG,h⟩:=h;obtain⟨x,hx⟩:=(J? t hp).1 tid gG _ _ hf h;refine⟨x,_,?_,hx⟩;cases t with
 |op k=>cases hp
 |fn k=>cases hp
 |bool=>obtain⟨b,rfl⟩:=okWide_bool hf.1 l7;rfl
 |int k=>obtain⟨n,rfl⟩:=okWide_int hf.1 l7;rfl
 |str=>obtain⟨s,rfl⟩:=okWide_string hf.1 l7;rfl
 |sl e=>obtain⟨⟨bf,aL,_⟩,_⟩:=hf;obtain⟨a,l,c,rfl⟩:=okWide_slice aL l7;rfl
 |unit=>obtain⟨⟨fs,aL,_⟩,_⟩:=hf;obtain⟨cs,rfl,_⟩:=okWide_struct aL l7;simp[cB,ag.isAgg,Value.cells]
 |pair a b=>obtain⟨⟨fs,aL,_⟩,_⟩:=hf;obtain⟨cs,rfl,_⟩:=okWide_struct aL l7;simp[cB,ag.isAgg,Value.cells]
 |ar n e =>obtain⟨⟨bf,aL,_⟩,_⟩:=hf;unfold Value.okWide at l7;rw[aL]at l7;obtain⟨cs,rfl,_⟩:=l7;simp[cB,ag.isAgg,Value.cells]
def SD(P:Program):List TypeId->List ag->Prop
 |[],[]=>True
 |i::is,t::ts=>((cY P t).1 i/\vI t=true)/\SD P is ts
 |_,_=>False
def L'(P:Program):List TypeId->List ag->Bool
 |[],[]=>true
 |i::is,t::ts=>((la P t).1 i&&vI t)&&L' P is ts
 |_,_=>false
def abT:∀{is:List TypeId} {ts:List ag},L' P is ts=true->SD P is ts
 |[],[],_=>trivial
 |i::is,t::ts,h=>by simp only[L',cP]at h;exact⟨⟨(u0 t).1 i h.1.1,h.1.2⟩,abT h.2⟩
def YP{w:World}{base:Nat}{mM:Nat->Bool}{held:Bool}{r:Reach}{eD:Nat}:∀{is:List TypeId} {ts:List ag} {vs:List Value} {ds:List (DataW H)} {a_:List MemPlace},SD P is ts->(∀(j:Nat) t v,is[j]?=some t->vs[j]?=some v->Value.okWide P w r eD t v) ->
  DataW.TrodAll enc P w base mM held is vs ds a_->∃x:iu ts,pY (full w) ts x vs/\NE ts x
 |[],[],[],[],_,_,_,_=>⟨(),rfl,trivial⟩
 |i::is,t::ts,v::vs,d::ds,a_,hf,aB,h=>by obtain⟨p,q,O,R,_⟩:=h;obtain⟨x,cs,e1,aU,d8⟩:=akN hf.1.2 hf.1.1 (aB 0 i v rfl rfl) O;obtain⟨y,hy,atQ⟩:=YP hf.2 (λj t v ap aCo=>aB (j+1) t v (by grind) (by grind)) R;exact⟨(x,y),⟨cs,vs,by rw[e1],aU,hy⟩,d8,atQ⟩
def ajc{W gh:World}{aix:Nat->Bool}(hl:laidOutB P=true):∀{is:List TypeId} {vs:List Value} {ds:List (DataW H)} {a_:List MemPlace},(is.all λt=>P.readableRec t&&Nat.blt t P.types.size)=true ->
  DataW.TrodAll enc P W 0 (λ_=>true) true is vs ds a_->(∀p∈a_,W.sameAt gh p)->(∀p∈a_,aix p.block=true)->DataW.TrodAll enc P gh 0 aix true is vs ds a_
 |[],[],[],_,_,h,_,_=>h
 |t::is,v::vs,d::ds,a_,ai,h,ab,h6=>by obtain⟨p,q,O,R,rfl⟩:=h;simp at ai;exact⟨p,q,WideElems.Trod_stays hl ai.1.1 ai.1.2 O (λx hx=>ab x (by grind)) (λx hx=>h6 x (by grind)),ajc hl (by simpa using ai.2) R (λx hx=>ab x (by grind)) (λx hx=>h6 x (by grind)),rfl⟩
def axs{f:Func}{s:ChangeSpec}{apart u1 arr akr:Bool}{W gh:World}{args:Array Value}{v:Value}{ds ny:List (DataW H)}{before pa pv:List MemPlace}
  (hW:DataW.Whole enc P f.params.toList s.vars apart W args.toList ds ny before)
  (wR:∀(b:Nat) (mM:Nat->Bool) (aJ:Bool),DataW.TrodAll enc P gh b mM aJ f.resultTypes.toList (v.resultList f.resultTypes.size) (s.fn H (ds++ny)).results [])
  (jb:∀mM:Nat->Bool,(∀p∈before,mM p.block=true)->DataW.TrodAll enc P gh 0 mM true f.params.toList args.toList (s.fn H (ds++ny)).args pa)
  (HQ:∀mM:Nat->Bool,(∀p∈before,mM p.block=true)->DataW.TrodVars enc P gh mM s.vars (s.fn H (ds++ny)).vars pv)
  (dl:before=pa++pv) (aa:Below W.heap.size W gh)
  (eF:∀(j:Nat) (t:TypeId) (r:Value),f.resultTypes[j]?=some t->(v.resultList f.resultTypes.size)[j]?=some r->Value.okWide P gh .any 0 t r) :
  s.post enc P f apart u1 arr akr W args v gh:=by
 have bn:∀p∈before,p.block<W.heap.size:=λp hp=>hW.lt p hp;have hold:∀p∈before,(λb=>decide (b<W.heap.size)) p.block=true:=λp hp=>by simpa using bn p hp
 refine⟨ds,ny,before,[],pa,pv,hW,wR _ _ _,jb _ hold,HQ _ hold,World.keptBut_mono (λp hp=>⟨hp,?_⟩) (aa.frame (·∈before)),λ_ => ?_⟩
 .rw[dl,hG]at hp
  exact Or.inr hp
 obtain⟨_,_,_,_,_,bs,ak⟩:=hW;refine⟨eF,_,_,([]++pa)++pv,⟨[]++pa,pv,trodAll_append (jb _ (λ_ _=>rfl)) (wR _ _ _),HQ _ (λ_ _=>rfl),rfl,?_,?_⟩,?_⟩
 .intro b off hp
  have et:MemPlace.cell b off∈before:=by rw[dl];simpa using hp
  rw[aa.frozen (bn _ et)];exact bs b off et
 .intro bh
  have:=ak bh;rw[dl]at this;simpa using this
 intro p hp _;rw[dl];simpa using hp
def auY{F:Nat}{fn:Func}{ts:List ag}{m:iu ts->Option (eq [.im .bool])}{s:ChangeSpec}(eF:gK P F ⟨ts,[.im .bool],m⟩)(he:L' P fn.params.toList ts=true)(hl:laidOutB P=true)
  (atj:(fn.params.toList.all λt=>P.readableRec t&&Nat.blt t P.types.size)=true) {bt:TypeId} (wR:fn.resultTypes=#[bt]) (ac3:P.underlying bt=some .bool) (HQ:s.vars=[]) {apart:Bool}
  {W:World} {base:Nat} {args:Array Value} {ds ny:List (DataW H)} {before:List MemPlace} (hfn:ds.length=fn.params.size->(s.fn H (ds++ny)).results=[.lit (.bool true)]/\(s.fn H (ds++ny)).args=ds/\(s.fn H (ds++ny)).vars=[])
  (l7:∀(j:Nat) t v,fn.params[j]?=some t->args[j]?=some v->Value.okWide P W .any base t v) (hW:DataW.Whole enc P fn.params.toList s.vars apart W args.toList ds ny before)
  (lE:mA P (full W)) (atC:∀x:iu ts,NE ts x->m x=some (true,())) :
  Calls P F args W λe gh=>∃v,e=.returned v/\s.post enc P fn apart true false false W args v gh:=by
 have acW:=hW;obtain⟨p,q,dx,hV,TZ,yB,hA⟩:=hW;have cm:ds.length=fn.params.size:=by
  have:∀(is:List TypeId) (vs:List Value) (ds:List (DataW H)) (a_:List MemPlace),DataW.TrodAll enc P W 0 (λ_=>true) true is vs ds a_->ds.length=is.length:=by
   intro is;induction is with
   |nil=>intro vs ds a_ h;cases vs<;>cases ds<;>first|rfl|exact h.elim
   |cons i is ih=>
    intro vs ds a_ h;cases vs<;>cases ds<;>first|exact h.elim|skip
    obtain⟨_,_,_,R,_⟩:=h;simp[ih _ _ _ R]
  have:=this _ _ _ _ dx;simpa using this
 obtain⟨f1,f2,f3⟩:=hfn cm;obtain⟨x,hx,as7⟩:=YP (abT he) (λj t v ap aB=>l7 j t v (by simpa using ap) (by simpa using aB)) dx;have aQ:q=[]:=by
  rw[HQ]at hV;cases ny with
  |nil=>exact hV
  |cons=>exact hV.elim
 subst aQ;have va:(full W).cd (view W λ_=>False):=λb o aa=>jZ.2 ⟨λh=>h,aa⟩;have ah:=eF.2 W (λ_=>False) x args.toList (true,()) (λ_ h=>h.elim) (lE.mono λb o aa=>jZ.2 ⟨λh=>h,aa⟩) (hx.mono va) (atC x as7);rw[Array.toArray_toList]at ah;refine ah.mono ?_;rintro e gh ⟨b5,rfl,aD,bF,b2,dy,fl,fZ,kd,kY,us,kZ,rfl⟩;obtain⟨cs,um,rfl,eY,gT⟩:=kZ;have atJ:um=[]:=gT;subst atJ;have my:=aI.oM.1 eY;subst my;have aa:Below W.heap.size W gh:=⟨bF,b2,dy,fl,fZ⟩;refine⟨.bool true,rfl,?_⟩;refine axs (pa:=p) (pv:=[]) acW (λb mM aJ => ?_) (λmM h6 => ?_) (λmM _ => ?_) TZ aa ?_
 .rw[wR,f1]
  exact trodAll_cons_mk (p:=[]) (shut_bool ac3 true) trodAll_mk0
 .rw[f2]
  refine ajc hl atj dx (λy hy=>aa.same (by have:=acW.lt y (by rw[TZ];simpa using hy);exact this)) λy hy=>h6 y (by rw[TZ];simpa using hy)
 .rw[HQ,f3];rfl
 exact ok_one wR rfl (okWide_bool_mk ac3 true)
end Yp
namespace Yp
open Go
variable {P:Program}
def vZ.congr{bf:Nat}{t:ag}{ts:List ag}{rs:List eC}{m mC:t.aG×iu ts->Option (t.aG×Nat×eq rs)}(h:vZ P f bf t ts rs m)(aC:∀x,m x=mC x):vZ P f bf t ts rs mC:=by have:m=mC:=funext aC;rw[<- this];exact h
def avF {E : dk} (bQ : oH P E) (jg : P.follows .mixedOrders = true)  {fn : Func} (hf : P.funcs[f]? = some fn) (tI : (fn.name == "runtime.NumGoroutine") = false)
  (nv:Nat) (t:ag) (ts:List ag) (rs:List eC) (aa:fn.body.isSome=true) {m bf:Nat} (m3:E.Pn=some (m,bf)):vZ P f bf t ts rs (Nl E fn nv t ts rs):=by
 refine⟨⟨fn,hf,aa,tI⟩,?_⟩;intro w X b o c el fz x y vs r dq lE wB hh aK yB hx jb e3;have e3:Nl E fn nv t ts rs (x,y)=some r:=e3;unfold Nl at e3;cases jc:fn.body with
 |none=>rw[jc]at aa;cases aa
 |some CX=>
  rw[jc]at e3;simp only at e3;cases bW:Nat.ble fn.ntmps 1000000 with
  |false=>rw[bW]at e3;cases e3
  |true=>
   rw[bW]at e3;simp only[KT,cond_false]at e3;have eE:fn.ntmps<=1000000:=by simpa using bW
   obtain⟨s,af,ab,hm,pI,nF,gQ⟩:=aiG (P:=P) dq lE wB hh aK yB hx jb fn.ntmps;rw[af,ab]at e3;refine calls_of_wp hf jc ?_
   let K:Kp:=⟨λk=>k<w.heap.size/\k≠b,X⟩
   have gP:∀ay phx' aD w' a',((tr E t rs fn.results.toList ay).bind λz=>.leaf (z.1,0,z.2)).bH=some r->gg K w (dV CX) s (λj=>if j=3 then some (b,o,c.size) else none) X w { tmps:=(Value.pointer (some ⟨b,o,none⟩)::vs).toArray++Array.replicate (fn.ntmps-(Value.pointer (some ⟨b,o,none⟩)::vs).toArray.size) undef,defers:=[] } ay phx' aD w' a' ->
     a'.defers=[]/\∃v,(results fn a'.tmps).run P w'=.ok v w'/\∃b5,Ending.returned v=.returned b5/\(r.2.1=0/\FQ w X b o c.size w' t r.1 rs r.2.2 b5):=by
    intro ay phx' aD w' a' am ak;unfold tr at am;rw[aP.fA]at am;obtain⟨nR,us,bL,ca,cq⟩:=zg bQ.bv am ak.hS ak.slots;rw[aP.fA]at bL;obtain⟨z,wr,dQ,gS⟩:=pF bL;have AN:phx' 3=some (b,o,c.size):=(ak.ext.pl 3 (by rw[show s.aW 3=.box t (.sc t x) by rw[<- ab];rfl];rfl)).trans (if_pos rfl);obtain⟨db,cr,aU,bF,b2,cO,yg,qo,dy,fl,fZ,kd,kY⟩:=Q6 dQ ak.hS AN;rw[aP.fA]at gS;rw[<- aM.oc]at cr aU b2 kY;have sz:lu phx' db (ay.ek wr).aW (λk=>k=b):=by
     refine⟨λj ap y hy Ul => ?_,λk am=>am▸bF⟩;by_cases Hz:j=3
     .subst Hz;rw[b2]at ap;cases ap
     exact kY j Hz ap y hy Ul
    obtain⟨aBM,jn,vY,dv,gR,v3,Ti,vO⟩:=EQ (K:=K) (w0:=w) gS cr (ca.ext aU) sz;cases dv;refine⟨ak.keep.2.1,jD us,xl cq,jD us,rfl,rfl,jn,gR.os,gR.tape,gR.output,gR.size,λk am m2=>gR.keep k ⟨am,m2⟩,λk am => ?_,gR.mlt,⟨cO,yg,qo,dy,fl,fZ,kd.mono v3⟩,us,vO.lo ?_,rfl⟩
    .by_cases m2:k=b
     .subst m2;exact⟨λ_=>wB,λ_=>Ti k rfl⟩
     exact gR.hid k ⟨am,m2⟩
    intro k rk dD am;exact rk ⟨am,dD⟩
   have abJ:∀ay phx' aD w' a',((tr E t rs fn.results.toList ay).bind λz=>.leaf (z.1,0,z.2)).bH=some r->gg K w (dV CX) s (λj=>if j=3 then some (b,o,c.size) else none) X w { tmps:=(Value.pointer (some ⟨b,o,none⟩)::vs).toArray++Array.replicate (fn.ntmps-(Value.pointer (some ⟨b,o,none⟩)::vs).toArray.size) undef,defers:=[] } ay phx' aD w' a' ->
     a'.defers=[]/\∃v,(results fn a'.tmps).run P w'=.ok v w'/\((r.2.1=0/\∃b5,Ending.returned v=.returned b5/\FQ w X b o c.size w' t r.1 rs r.2.2 b5)\/(r.2.1≠0/\Ending.returned v=.panicked [{ v:=.iface bf (.int .i64 (r.2.1:Int)),recovered:=false }]/\Yy w X b o c.size w' t r.1)):=by
    intro ay phx' aD w' a' am ak;obtain⟨O,v,R,b5,af,au,aY⟩:=gP ay phx' aD w' a' am ak;exact⟨O,v,R,.inl ⟨au,b5,af,aY⟩⟩
   refine pQ (P:=P) (w0:=w) (K:=K) (inl:=true) bQ.bv bQ.C bQ.M ⟨bQ.G,bQ.K,λ_=>gQ,λf s h=>⟨bQ.X f s h,gQ⟩,bQ.P,λf s h=>⟨bQ.Q f s h,gQ⟩⟩ bQ.I jg (λh=>by cases h) eE CX s (t.aG×Nat×eq rs) _ r e3 (λj=>if j=3 then some (b,o,c.size) else none) X w _ hm pI nF _ (λay phx' aD w' a' am ak => ?_) (λid ay phx' aD w' a' am ak => ?_) (λy w' a' am aJ aL=>by cases am)
   .exact abJ ay phx' aD w' a' am ak
   replace am:((bif Nat.beq id iS then(tr E t rs fn.results.toList ay).bind λz=>.leaf (z.1,0,z.2) else bif Nat.blt hJ id then(ax.jd ay (Gh t)).bind λz=>.leaf (z.1,id-hJ,zI rs) else .fail:aP (t.aG×Nat×eq rs))).bH=some r:=am;cases aa:Nat.beq id iS with
   |true =>rw[aa,cond_true]at am;unfold ms;rw[if_pos (fU aa)];exact abJ ay phx' aD w' a' am ak
   |false=>
    rw[aa,cond_false]at am;cases hp:Nat.blt hJ id with
    |false=>rw[hp]at am;cases am
    |true=>
     rw[hp,cond_true]at am;have bn:hJ<id:=by simpa using hp
     obtain⟨z,wr,dQ,gS⟩:=pF am;have AN:phx' 3=some (b,o,c.size):=(ak.ext.pl 3 (by rw[show s.aW 3=.box t (.sc t x) by rw[<- ab];rfl];rfl)).trans (if_pos rfl);obtain⟨db,cr,aU,bF,b2,cO,yg,qo,dy,fl,fZ,kd,kY⟩:=Q6 dQ ak.hS AN;cases gS;obtain⟨k,rfl⟩:∃k,id=hJ+k:=⟨id-hJ,J⟩;rw[L0 m3];refine⟨ak.keep.2.1,.inr ⟨by show hJ+k-hJ≠0;omega,by show Ending.panicked _=Ending.panicked [{ v:=.iface bf (.int .i64 ((hJ+k-hJ:Nat):Int)),recovered:=false }];rw[FO],db,cr.os,cr.tape,cr.output,cr.size,λk am m2=>cr.keep k ⟨am,m2⟩,λk am => ?_,cr.mlt,⟨cO,yg,qo,dy,fl,fZ,kd⟩⟩⟩;by_cases m2:k=b
     .subst m2;exact⟨λ_=>wB,λ_=>bF⟩
     exact cr.hid k ⟨am,m2⟩
end Yp
namespace Yp
open Go
variable {P:Program}
def Vc{a:Array Operand}(h:Bc a.toList=true):a=#[]:=by
 apply Cy;cases bh:a.toList with
 |nil=>rfl
 |cons x l=>rw[bh]at h;cases h
def aoA{D:Code}{q:Nat×Nat×List Operand}(h:GD D=some q):∃id ops x' eA dQ cN d' e? gS cX,D=.region id ops false/\q.2.2=x'.toList /\
  ops.toList=[⟨some q.1,.makeFunc (.func q.2.1) #[] x',eA,dQ,cN,none⟩,⟨none,.defer ⟨.value (.tmp q.1), #[],d'⟩,e?,gS,cX,none⟩]:=by
 cases D<;>try(cases h;done)
 rename_i id ops dt;simp only[GD]at h;cases dt with
 |true=>cases h
 |false=>
  split at h
  .rename_i d F first x' eA dQ cN yd args d' e? gS cX l5
   cases aa:(Nat.beq d yd&&(Bc first.toList&&Bc args.toList)) with
   |false=>rw[aa]at h;cases h
   |true=>
    simp only[cP]at aa;have:=fU aa.1;rw[Vc aa.2.1,Vc aa.2.2]at l5
    grind
  cases h
def aAa{c:Code}{p:Nat×Code}(h:JQ c=some p):∃id ops d' eA dQ cN,c=.seq (.region id ops false) p.2/\ops.toList=[⟨some p.1,.call ⟨.builtin .recover, #[],d'⟩,eA,dQ,cN,none⟩]:=by
 unfold JQ at h;split at h
 .rename_i id ops b
  split at h
  .rename_i d args d' eA dQ cN l5
   cases aa:Bc args.toList with
   |false=>rw[aa]at h;cases h
   |true =>rw[aa,cond_true]at h;cases h;rw[Vc aa]at l5;exact⟨_,_,_,_,_,_,rfl,l5⟩
  cases h
 cases h
def aiB{E:dk}{rs:List eC}{res:List ResultVar}{nv nt:Nat}{inl:Bool}{K:Kp}{w0:World}(a7:∀c:Code,CA P K w0 E rs res nv nt inl c):∀(c A B:Code) (q:Nat×Nat×List Operand),zo c=some (A,q,B) ->
  ∀(s:aM) (ρ:Type) (k:ko (eq rs)->aP ρ) (r:ρ),((run E rs res nv nt inl A s).bind k).bH=some r->∀(phx:cf) (M:Nat->Prop) (w:World) (a:Act),bM K w0 phx M s.aW w->dF phx (view w M) s.aW s.b0 a->nt<=a.tmps.size ->
  ∀(Q:Exit->Act->World->Prop),
   (∀D Ks ay phx' aD w' a',GD D=some q->(k (.nx ay)).bH=some r->gg K w0 Ks s phx M w a ay phx' aD w' a'->(Code.seq D B).wp P Q a' w') ->
   (∀id ay,(k (.ex id ay)).bH=none)->(∀x,(k (.rt x)).bH=none)->c.wp P Q a w
 |.seq x y,A,B,q,h6,s,ρ,k,r,h,phx,M,w,a,hm,ab,gH,Q,O,R,af=>by
  simp only[zo]at h6;cases aJ:GD x with
  |some NV =>rw[aJ]at h6;cases h6;simp only[run]at h;exact O x [] s phx M w a aJ h (gg.refl hm ab)
  |none=>
   rw[aJ]at h6;simp only at h6;cases hy:zo y with
   |none=>rw[hy]at h6;cases h6
   |some p=>
    rw[hy]at h6;obtain⟨PU,NV,B'⟩:=p;cases h6;simp only[run]at h;rw[aP.fA]at h;refine wp_seq (a7 x s ρ _ r h phx M w a hm ab gH _ (λay phx' aD w' a' am ak => ?_) (λid ay phx' aD w' a' am ak => ?_) (λv w' a' am aJ aL => ?_))
    .exact aiB a7 y _ _ _ hy ay ρ k r am phx' aD w' a' ak.hS ak.slots (by rw[ak.keep.1];exact gH) Q (λD Ks eh jy jn fy a3 jp fC lG=>O D (dV x++Ks) eh jy jn fy a3 jp fC (ak.trans lG (λt h=>xN _ h) (λt h=>xR _ h))) R af
    .exact absurd (am.symm.trans (R id ay)) bp
    exact absurd (am.symm.trans (af v)) bp
 |.skip,A,B,q,h,_,_,_,_,_,_,_,_,_,_,_,_,_,_,_,_=>by cases h
 |.label _,A,B,q,h,_,_,_,_,_,_,_,_,_,_,_,_,_,_,_,_=>by cases h
 |.region _ _ _,A,B,q,h,_,_,_,_,_,_,_,_,_,_,_,_,_,_,_,_=>by cases h
 |.cond _ _ _,A,B,q,h,_,_,_,_,_,_,_,_,_,_,_,_,_,_,_,_=>by cases h
 |.block _ _,A,B,q,h,_,_,_,_,_,_,_,_,_,_,_,_,_,_,_,_=>by cases h
 |.exit _,A,B,q,h,_,_,_,_,_,_,_,_,_,_,_,_,_,_,_,_=>by cases h
 |.scope _,A,B,q,h,_,_,_,_,_,_,_,_,_,_,_,_,_,_,_,_=>by cases h
 |.ret,A,B,q,h,_,_,_,_,_,_,_,_,_,_,_,_,_,_,_,_=>by cases h
 |.loop _,A,B,q,h,_,_,_,_,_,_,_,_,_,_,_,_,_,_,_,_=>by cases h
 |.goto _,A,B,q,h,_,_,_,_,_,_,_,_,_,_,_,_,_,_,_,_=>by cases h
 |.refuse _,A,B,q,h,_,_,_,_,_,_,_,_,_,_,_,_,_,_,_,_=>by cases h
 |.rangeFunc _ _ _ _,A,B,q,h,_,_,_,_,_,_,_,_,_,_,_,_,_,_,_,_=>by cases h
def apA{phx:cf}{H:cj}{B:Nat->aT}{s:aM}{a_:List av}{vs:List Value}(az:s.aW=B)(dl:gO phx H B a_ vs)(n:Nat):∃bz:aM,(⟨bz.t,s.h,s.w⟩:aM)=bz/\(∀(γ:Type 1) (k:dR->γ),fill n a_ 0 .e k=k bz.t)/\bz.aW=B /\
  dF phx H B bz.b0 { tmps:=vs.toArray++Array.replicate (n-vs.toArray.size) undef,defers:=[] }:=by
 obtain⟨bz,O,R,af,au⟩:=GT n a_ 0 ⟨.e,s.h,s.w⟩;have ab:(⟨bz.t,s.h,s.w⟩:aM)=bz:=by cases bz;simp only at O R;rw[O,R]
 have g1:=dl.length;have cD:=V5 dl;refine⟨bz,ab,λγ k=>af γ k,by rw[<- az];funext j;unfold aM.aW;rw[O],λj => ?_⟩;have Ax:(⟨.e,s.h,s.w⟩:aM).b0 j=.bad:=dR.wy 40 j;rcases au j with h|⟨p,_,h,bE⟩|⟨h,bE⟩
 .rw[h,Ax];trivial
 .rcases bE with bE|bE<;>rw[bE]
  .obtain⟨v,aB,ai⟩:=cD j p (by simpa using h)
   have bn:j<vs.length:=(mR.1 aB).1;have:(vs.toArray++Array.replicate (n-vs.toArray.size) undef).getD j undef=v:=by rw[nk,zU (by simpa using bn)];simp[aB]
   show ba _ _ _ p ((vs.toArray++Array.replicate (n-vs.toArray.size) undef).getD j undef);rw[this];exact ai
  trivial
 rcases bE with bE|bE<;>rw[bE]
 .have bn:vs.length<=j:=by rw[g1]at h;simpa using h
  have:(vs.toArray++Array.replicate (n-vs.toArray.size) undef).getD j undef=undef:=by
   rw[nk,q6 (by simpa using bn)];by_cases ap:j-vs.toArray.size<n-vs.toArray.size
   .rw[uz,if_pos ap];rfl
   rw[uz,if_neg ap];rfl
  exact this
 trivial
def aof{E EC:dk}(bQ:oH P E)(rf:oH P EC)(jg:P.follows .mixedOrders=true){fn fj:Func}{F i? bf mG:Nat}{bb C:Code}(dn:P.funcs[F]?=some fj)(Aw:fj.body=some bb)(h6:JQ bb=some (i?,C))(MH:fj.ntmps<=1000000)(wR:fj.results.size=0)
  {w:World} {X:Nat->Prop} (gQ:p1 P ⟨λb=>b<w.heap.size,X⟩ w) {rs:List eC} {c_:List iO} {o:Option Nat} {s:aM} {r:eq rs} (am:(tj E EC fn fj mG i? bf C rs c_ o s).bH=some r) {phx:cf} {M:Nat->Prop} {w':World} {a':Act} {vs:List Value}
  (hm:bM ⟨λb=>b<w.heap.size,X⟩ w phx M s.aW w') (ab:dF phx (view w' M) s.aW s.b0 a') (My:j5 phx (view w' M) s.aW c_ vs) {u:FrameMode} (aL:(o=none/\u=.returning)\/∃k,o=some k/\u=.panicking [{ v:=.iface bf (.int .i64 (k:Int)),recovered:=false }]) :
  CallsD P F vs.toArray u w' fun
   |.returned _,u',cV=>Leaves P fn a'.tmps (λe cV=>∃b5,e=.returned b5/\iT w X cV rs r b5) [] (settle u') cV
   |.panicked CZ,u',cV=>Leaves P fn a'.tmps (λe cV=>∃b5,e=.returned b5/\iT w X cV rs r b5) [] (raised u' CZ) cV
   |.outgrown,_,cV=>(λe cV=>∃b5,e=Ending.returned b5/\iT w X cV rs r b5) .outgrown cV:=by
 let K:Kp:=⟨λb=>b<w.heap.size,X⟩
 obtain⟨id,ops,d',eA,dQ,cN,rfl,l5⟩:=aAa h6;simp only at l5 Aw;obtain⟨bz,e1,aU,d8,hc⟩:=apA (s:=s) rfl My.args fj.ntmps;unfold tj at am;rw[aU]at am;have am:((iL fj.ntmps (some i?) ⟨bz.t,s.h,s.w⟩ (zb bf o) λrN=>
  aP.bind (run EC [] fj.results.toList mG fj.ntmps true C rN) fun
   |.nx eP=>(nN E ⟨s.t,eP.h,eP.w⟩ fn.results.toList).bind λvs=>o_ ⟨s.t,eP.h,eP.w⟩ rs vs
   |.ex k eP=>bif Nat.beq k iS then(nN E ⟨s.t,eP.h,eP.w⟩ fn.results.toList).bind λvs=>o_ ⟨s.t,eP.h,eP.w⟩ rs vs else .fail
   | .rt _ => .fail:aP (eq rs)).bind aP.leaf).bH=some r:=by rw [k8];exact am
 rw[e1]at am;obtain⟨gt,am⟩:=vS am;rw[k8]at am;have arS:i?<fj.ntmps:=gt i? rfl
 let a0:Act:={ tmps:=vs.toArray++Array.replicate (fj.ntmps-vs.toArray.size) undef,defers:=[] }
 have cZ:fj.ntmps<=a0.tmps.size:=by show fj.ntmps<=(vs.toArray++Array.replicate (fj.ntmps-vs.toArray.size) undef).size;simp;omega
 refine callsD_of_wpS dn Aw λc₀ cs TT => ?_

 have agA:∀(nd:FrameMode) (x:Value),(match u with|.panicking [{ v,recovered:=false,goexit:=false }]=>nd=.panicking [{ v,recovered:=true }]/\x=v|_=>nd=u/\x=.nilIface)->settle nd=.returning ->
   ba phx (view w' M) s.aW (zb bf o) x ->
   C.wpS P (bodyPostS P fj c₀ cs (fun
   |.returned _,u',cV=>Leaves P fn a'.tmps (λe cV=>∃b5,e=.returned b5/\iT w X cV rs r b5) [] (settle u') cV
   |.panicked CZ,u',cV=>Leaves P fn a'.tmps (λe cV=>∃b5,e=.returned b5/\iT w X cV rs r b5) [] (raised u' CZ) cV
   | .outgrown,_,cV=>(λe cV=>∃b5,e=Ending.returned b5/\iT w X cV rs r b5) .outgrown cV)) (a0.put (some i?) x) ({ c₀ with mode:=nd } :: cs) w':=by
  intro nd x _ l6 hx;refine wpS_of_wp ?_;have sl:dF phx (view w' M) (jA bz (some i?) (zb bf o)).aW (jA bz (some i?) (zb bf o)).b0 (a0.put (some i?) x):=by rw[lJ,sN MH gt,d8];exact dF.put hc (λd aJ=>by cases aJ;exact gN arS cZ) hx
  have U6:bM K w phx M (jA bz (some i?) (zb bf o)).aW w':=by rw[lJ,d8];exact hm
  have gP:∀eP phx' aD cV a4,((nN E ⟨s.t,eP.h,eP.w⟩ fn.results.toList).bind λvs=>o_ ⟨s.t,eP.h,eP.w⟩ rs vs).bH=some r->gg K w (dV C) (jA bz (some i?) (zb bf o)) phx M w' (a0.put (some i?) x) eP phx' aD cV a4 ->
    a4.defers=[]/\∃u',({ c₀ with mode:=nd } :: cs:List Frame)={ c₀ with mode:=u' } :: cs/\∃v,(results fj a4.tmps).run P cV=.ok v cV/\Leaves P fn a'.tmps (λe cV=>∃b5,e=.returned b5/\iT w X cV rs r b5) [] (settle u') cV:=by
   intro eP phx' aD cV a4 ka ak;have u?:ct phx M s.aW w' phx' aD eP.aW cV:=by have:=ak.ext;rwa [lJ,d8]at this
   have azW:dF phx' (view cV aD) (⟨s.t,eP.h,eP.w⟩:aM).aW (⟨s.t,eP.h,eP.w⟩:aM).b0 a':=ab.ext u?;have w5:bM K w phx' aD (⟨s.t,eP.h,eP.w⟩:aM).aW cV:=ak.hS;obtain⟨nR,us,bL,ca,cq⟩:=zg bQ.bv ka w5 azW;have V6:((o_ ⟨s.t,eP.h,eP.w⟩ rs nR).bind aP.leaf).bH=some r:=by rw[k8];exact bL
   obtain⟨y,db,b9,dv,A9,sY,_,vO⟩:=EQ (K:=K) (w0:=w) V6 w5 ca (U:=λ_=>False) ⟨λ_ _ _ _ h=>h,λ_ h=>h.elim⟩;cases dv;have DM:fj.results.toList=[]:=by rw[<- iR];simpa using wR
   refine⟨by rw[ak.keep.2.1];show(a0.put (some i?) x).defers=[];rfl,nd,rfl,jD [],xl (us:=[]) (by rw[DM];rfl),?_⟩;rw[l6];exact⟨jD us,xl cq,jD us,rfl,db,A9.os,A9.tape,A9.output,A9.size,λb aa=>A9.keep b aa,λb aa=>A9.hid b aa,A9.mlt,us,vO,rfl⟩
  have TM:((run EC [] fj.results.toList mG fj.ntmps true C (jA bz (some i?) (zb bf o))).bind fun
   |.nx eP=>(nN E ⟨s.t,eP.h,eP.w⟩ fn.results.toList).bind λvs=>o_ ⟨s.t,eP.h,eP.w⟩ rs vs
   |.ex k eP=>bif Nat.beq k iS then(nN E ⟨s.t,eP.h,eP.w⟩ fn.results.toList).bind λvs=>o_ ⟨s.t,eP.h,eP.w⟩ rs vs else .fail
   |.rt _=>.fail).bH=some r:=am
  refine pQ (P:=P) (w0:=w) (K:=K) (E:=EC) (inl:=true) rf.bv rf.C rf.M ⟨rf.G,rf.K,λ_=>gQ,λf s h=>⟨rf.X f s h,gQ⟩,rf.P,λf s h=>⟨rf.Q f s h,gQ⟩⟩ rf.I jg (λh=>by cases h) MH C _ (eq rs) _ r TM phx M w' _ U6 sl (by simpa[Act.put]using cZ) _ (λeP phx' aD cV a4 ka ak => ?_) (λid eP phx' aD cV a4 ka ak => ?_) (λy cV a4 ka aJ aL=>by cases ka)
  .exact gP eP phx' aD cV a4 ka ak
  replace ka:((bif Nat.beq id iS then(nN E ⟨s.t,eP.h,eP.w⟩ fn.results.toList).bind λvs=>o_ ⟨s.t,eP.h,eP.w⟩ rs vs else .fail:aP (eq rs))).bH=some r:=ka;cases aa:Nat.beq id iS with
  |false=>rw[aa]at ka;cases ka
  |true =>rw[aa,cond_true]at ka;unfold ms;rw[if_pos (fU aa)];exact gP eP phx' aD cV a4 ka ak
 refine wpS_seq (wpS_region ?_);have atw:ops.size=1:=by rw[<- Ql,l5];rfl
 have Hw:ops[0]?=some ⟨some i?,.call ⟨.builtin .recover, #[],d'⟩,eA,dQ,cN,none⟩:=by rw[<- uB,l5];rfl
 rw[atw];show wpOpsS P ops _ [0] a0 (c₀::cs) w';have kv:(execOp a0.eval ⟨some i?,.call ⟨.builtin .recover, #[],d'⟩,eA,dQ,cN,none⟩).run P w'=.ok .recover w':=rfl;simp only[wpOpsS,Hw,Region.wanted];rw[kv];simp only[if_true];rcases aL with⟨rfl,rfl⟩|⟨k,rfl,rfl⟩
 .have h5:recoverD (c₀::cs)=none:=by simp only[recoverD,TT]
  rw[h5];have ah:({ c₀ with mode:=.returning }:Frame)=c₀:=by rw[<- TT]
  have:=agA .returning .nilIface ⟨rfl,rfl⟩ rfl ⟨[.nilIface],aI.xc.2 rfl,rfl⟩;rw[ah]at this;exact this
 have h5:recoverD (c₀::cs)=some (.iface bf (.int .i64 (k:Int)),{ c₀ with mode:=.panicking [{ v:=.iface bf (.int .i64 (k:Int)),recovered:=true }] } :: cs):=by simp only[recoverD,TT]
 rw[h5];exact agA (.panicking [{ v:=.iface bf (.int .i64 (k:Int)),recovered:=true }]) _ ⟨rfl,rfl⟩ rfl ⟨[.int .i64 (k:Int)],aI.iK.2 rfl,rfl⟩
def avE {E EC : dk} (bQ : oH P E) (rf : oH P EC) (jg : P.follows .mixedOrders = true) {F:Nat} {fn fj : Func} (hf : P.funcs[f]? = some fn) (tI : (fn.name == "runtime.NumGoroutine") = false) (dn : P.funcs[F]? = some fj) (asQ : (fj.name == "runtime.NumGoroutine") = false)
  (nv mG:Nat) (ts:List ag) (rs:List eC) {m bf:Nat} (m3:E.Pn=some (m,bf)) (aa:fn.body.isSome=true) (Td:∀c A B q,fn.body=some c->zo c=some (A,q,B)->q.2.1=F):gK P f ⟨ts,rs,U7 E EC fn fj nv mG bf ts rs⟩:=by
 refine⟨⟨fn,hf,aa,tI⟩,?_⟩;intro w X x vs r dq lE jb e3;unfold U7 at e3;cases jc:fn.body with
 |none=>rw[jc]at aa;cases aa
 |some c=>
  cases Aw:fj.body with
  |none=>rw[jc,Aw]at e3;cases e3
  |some bb=>
   rw[jc,Aw]at e3;simp only at e3;cases h6:zo c with
   |none=>rw[h6]at e3;cases e3
   |some p=>
    obtain⟨A,q,B⟩:=p;cases Ua:JQ bb with
    |none=>rw[h6,Ua]at e3;cases e3
    |some aw6=>
     obtain⟨i?,C⟩:=aw6;rw[h6,Ua]at e3;simp only at e3;cases bW:(Nat.ble fn.ntmps 1000000&&(Nat.ble fj.ntmps 1000000&&Nat.beq fj.results.size 0)) with
     |false=>rw[bW]at e3;cases e3
     |true=>
      rw[bW]at e3;simp only[cP,P2]at bW;obtain⟨eE,MH,T8⟩:=bW;have T8:=fU T8;have adI:q.2.1=F:=Td c A B q jc h6;obtain⟨s,af,ab,hm,pI,nF,gQ⟩:=WT (P:=P) dq lE jb fn.ntmps;rw[af,ab]at e3
      let K:Kp:=⟨λb=>b<w.heap.size,X⟩
      have a7:=λc=>pQ (P:=P) (w0:=w) (K:=K) (E:=E) (rs:=[]) (res:=fn.results.toList) (nv:=nv) (nt:=fn.ntmps) (inl:=true) bQ.bv bQ.C bQ.M ⟨bQ.G,bQ.K,λ_=>gQ,λf s h=>⟨bQ.X f s h,gQ⟩,bQ.P,λf s h=>⟨bQ.Q f s h,gQ⟩⟩ bQ.I jg (λh=>by cases h) eE c;have asi:pm P E K w:=⟨bQ.G,bQ.K,λ_=>gQ,λf s h=>⟨bQ.X f s h,gQ⟩,bQ.P,λf s h=>⟨bQ.Q f s h,gQ⟩⟩;refine calls_of_wp_defers hf jc ?_;refine aiB a7 c A B q h6 s _ _ r e3 (λ_=>none) X w _ hm pI nF _ (λD Ks bz hU fV co cN jp su qt => ?_) (λ_ _=>rfl) (λ_=>rfl);obtain⟨id,ops,x',eA,dQ,aoR,d',e?,gS,aoS,rfl,arE,l5⟩:=aoA jp;obtain⟨c_,wr,g1,cD⟩:=pF su;obtain⟨b,c7,H8,qx⟩:=ax.cK g1;rw[arE]at H8;have tK:(sJ E ⟨some q.1,.makeFunc (.func q.2.1) #[] x',eA,dQ,aoR,none⟩).a7 bz.b0 bz.aW=some (.clo q.2.1 0 c_,dG bz.aW wr):=by show((mD ey x'.toList).bind λb=>(mD C5 b).bind λc_=>.ret (.clo q.2.1 0 c_):ax av).a7 bz.b0 bz.aW=_;rw[ax.SX,H8];show((mD C5 b).bind λc_=>.ret (.clo q.2.1 0 c_):ax av).a7 bz.b0 c7=_;rw[ax.SX,qx];rfl
      have cD:((iL fn.ntmps (some q.1) (bz.ek wr) .bad λay=>aP.bind (run E [] fn.results.toList nv fn.ntmps true B ay) fun
       |.nx eh=>tj E EC fn fj mG i? bf C rs c_ none eh
       |.ex k eh=>bif Nat.beq k iS then tj E EC fn fj mG i? bf C rs c_ none eh else bif Nat.blt hJ k then tj E EC fn fj mG i? bf C rs c_ (some (k-hJ)) eh else .fail
       | .rt _ => .fail:aP (eq rs)).bind aP.leaf).bH=some r:=by rw [k8];exact cD
      obtain⟨gt,cQ⟩:=vS cD;rw[k8]at cQ;have adx:fn.ntmps<=cN.tmps.size:=by rw[qt.keep.1];exact nF
      have sn:∀d,some q.1=some d->d<cN.tmps.size:=λd aJ=>gN (gt d aJ) adx;refine wp_seq (wp_region_list ?_);rw[l5];left;refine VE bQ.bv bQ.C bQ.M asi tK qt.hS qt.slots λgY cV aro => ?_;obtain⟨jS,db,cr,aU,nR,My,pG⟩:=aro;rw[<- aM.oc]at cr aU My;left;have je:(cN.put (some q.1) gY).eval (.tmp q.1)=gY:=by show(cN.put (some q.1) gY).tmps.getD q.1 undef=gY;have:=sn q.1 rfl;simp[Act.put,this]
      have asn:gY=.func (.func q.2.1) #[] nR.toArray:=by rw[pG];simp
      have kv:(execOp (cN.put (some q.1) gY).eval ⟨none,.defer ⟨.value (.tmp q.1), #[],d'⟩,e?,gS,aoS,none⟩).run P cV=.ok (.defer { target:=.fn (.func q.2.1) nR.toArray,args:=#[] }) cV:=by simp only[execOp,resolve];rw[je,asn];simp[Deferred.ofValue]
      unfold Oper.wp;rw[kv]
      let C6:Deferred:={ target:=.fn (.func q.2.1) nR.toArray,args:=#[] }
      let cX:Act:={ cN.put (some q.1) gY with defers:=C6::cN.defers }
      have OX:dF jS (view cV db) (jA (bz.ek wr) (some q.1) .bad).aW (jA (bz.ek wr) (some q.1) .bad).b0 cX:=by
       rw[lJ,sN eE gt];have aq:dF jS (view cV db) (bz.ek wr).aW (bz.ek wr).b0 cN:=by rw[(d5.ek wr []).bv];exact qt.slots.ext aU
       exact dF.put aq sn trivial
      have yw:cX.defers=[C6]:=by show C6::cN.defers=[C6];rw[qt.keep.2.1]
      have D6:∀(o:Option Nat) (u:FrameMode) eh jy jn fy a3,(tj E EC fn fj mG i? bf C rs c_ o eh).bH=some r->gg K w (dV B) (jA (bz.ek wr) (some q.1) .bad) jS db cV cX eh jy jn fy a3 ->
        ((o=none/\u=.returning)\/∃k,o=some k/\u=.panicking [{ v:=.iface bf (.int .i64 (k:Int)),recovered:=false }]) ->
        Leaves P fn a3.tmps (λe cV=>∃b5,e=.returned b5/\iT w X cV rs r b5) a3.defers u fy:=by
       intro o u eh jy jn fy a3 fC lG aL;rw[lG.keep.2.1,yw];refine leaves_cons (f:=q.2.1) (args:=nR.toArray) (by rcases aL with⟨_,rfl⟩|⟨k,_,rfl⟩<;>simp) ?_ ?_
       .rw[adI]
        have u7:¬fj.body=none:=by rw[Aw];simp
        have lF : ¬ fj.name = "runtime.NumGoroutine" := by simpa using asQ
        simp[invoke,callFunc,dn,lF,u7]
       rw[adI];have DF:ct jS db (bz.ek wr).aW cV jy jn eh.aW fy:=by have:=lG.ext;rwa [lJ]at this
       exact aof bQ rf jg dn Aw Ua MH T8 gQ fC lG.hS lG.slots (My.mono DF.pl DF.vw DF.bl) aL
      refine a7 B _ _ _ _ cQ jS db cV cX (by rw[lJ];exact cr) OX (by show fn.ntmps<=(cN.put (some q.1) gY).tmps.size;simpa[Act.put]using adx) _ (λeh jy jn fy a3 fC lG => ?_) (λid eh jy jn fy a3 fC lG => ?_) (λy fy a3 fC aJ aL=>by cases fC)
      .exact D6 none .returning eh jy jn fy a3 fC lG (.inl ⟨rfl,rfl⟩)
      replace fC:((bif Nat.beq id iS then tj E EC fn fj mG i? bf C rs c_ none eh else bif Nat.blt hJ id then tj E EC fn fj mG i? bf C rs c_ (some (id-hJ)) eh else .fail:aP (eq rs))).bH=some r:=fC;cases aa:Nat.beq id iS with
      |true =>rw[aa]at fC;unfold ms;rw[if_pos (fU aa)];exact D6 none .returning eh jy jn fy a3 fC lG (.inl ⟨rfl,rfl⟩)
      |false=>
       rw[aa]at fC;cases hp:Nat.blt hJ id with
       |false=>rw[hp]at fC;cases fC
       |true=>
        rw[hp]at fC;have bn:hJ<id:=by simpa using hp
        obtain⟨k,rfl⟩:∃k,id=hJ+k:=⟨id-hJ,J⟩;rw[L0 m3];rw[FO]at fC;exact D6 (some k) _ eh jy jn fy a3 fC lG (.inr ⟨k,rfl,rfl⟩)
end Yp