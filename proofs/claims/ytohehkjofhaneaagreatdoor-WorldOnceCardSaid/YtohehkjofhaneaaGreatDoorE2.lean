/- A part of the proof of the statements of this seat: the engine that turns code into plain functions, and its soundness. No condition of its own. -/
import Derived.Test.YtohehkjofhaneaaGreatDoorE1
import Derived.Scope
import Derived.ProofKit
import Derived.OpenShut
import Derived.Recover
set_option linter.unusedVariables false
set_option linter.unusedSimpArgs false
set_option linter.defProp false
noncomputable section
open Go Yp
variable {D:List Nat}{F f f0 t:Nat}
namespace Yp
open Go
variable {P:Program}
section
variable {K:Kp} {w0 w:World} {phx:cd} {M:Nat->Prop} {B B':Nat->aU} {g:Nat->av} {a:Act} {E:dl} {rs:List ez} {res:List ResultVar} {nv nt:Nat} {inl:Bool}
def gd.refl{s:aR}(hm:bK K w0 phx M s.aW w)(ae:dE phx (view w M) s.aW s.bW a):gd K w0 D s phx M w a s phx M w a:=⟨d5.refl _ _,hm,co.refl _ _ _ _,ae,hF.refl _ _⟩
def gd.trans{kE JA:List Nat}{s bp ax:aR}{hS jS:cd}{fR c':Nat->Prop}{ck cR:World}{cK cU:Act}(h:gd K w0 D s phx M w a bp hS fR ck cK)(k:gd K w0 kE bp hS fR ck cK ax jS c' cR cU)
  (aI:∀t,t∈D->t∈JA) (C8:∀t,t∈kE->t∈JA):gd K w0 JA s phx M w a ax jS c' cR cU:=⟨h.iv.sub k.iv aI C8,k.hR,h.ext.trans k.ext,k.slots,h.keep.sub k.keep aI C8⟩
def gd.mono{kE:List Nat}{s bp:aR}{hS:cd}{fR:Nat->Prop}{ck:World}{cK:Act}(h:gd K w0 D s phx M w a bp hS fR ck cK)(aI:∀t,t∈D->t∈kE):gd K w0 kE s phx M w a bp hS fR ck cK:=
 ⟨h.iv.mono aI,h.hR,h.ext,h.slots,h.keep.1,h.keep.2.1,λt ht=>h.keep.2.2 t λah=>ht (aI t ah)⟩
def ayB{b:Code}(dC:E.U=true)(ih:B4 P K w0 E rs res nv nt inl b):B4 P K w0 E rs res nv nt inl (.loop b):=by
 intro s ρ k r h phx M w a hm ae gI Q jj Tb Tc;simp only[run,dC]at h;refine aif (λn cU cR=>∃ax jS c',((Oz (λs=>run E rs res nv nt inl b s) n ax).bind k).bI=some r/\gd K w0 (dY (.loop b)) s phx M w a ax jS c' cR cU) (λcU cR ⟨ax,jS,c',aq,_⟩=>by cases aq) ?_ ⟨s,phx,M,h,gd.refl hm ae⟩;rintro n cU cR ⟨ax,jS,c',R,am⟩;simp only[Oz]at R;rw[aS.fw]at R;have Eh:∀t,t∈dY b->t∈dY (.loop b):=λt h=>h;refine ih ax ρ _ r R jS c' cR cU am.hR am.slots (by rw[am.keep.1];exact gI) _ (λd_ jF jt ft dj ap lx => ?_) (λid d_ jF jt ft dj ap lx => ?_) (λv ft dj ap aI aM => ?_)
 .exact⟨d_,jF,jt,ap,am.trans lx (λt h=>h) Eh⟩
 .have a_:=Tb id d_ jF jt ft dj ap (am.trans lx (λt h=>h) Eh)
  revert a_;unfold md;(repeat' split)<;>exact λh=>h
 exact Tc v ft dj ap (aI.trans am.keep.2.1) aM
def adC{m:Nat}:∀{l:List Oper} {q:List Oper×Option Nat×Operand×Nat×Oper},HK m l=some q->∃d? ty jG pK,q.2.2.2.2=⟨q.2.1,.call ⟨.value (.func m), #[q.2.2.1,.const (.int .i64 (q.2.2.2.1:Int))],d?⟩,ty,jG,pK,none⟩/\l=q.1++[q.2.2.2.2]
 |[],q,h=>by cases h
 |o::r,q,h=>by
  simp only[HK]at h;cases aj:HK m r with
  |some M1=>
   obtain⟨d?,ty,jG,pK,e,bA⟩:=adC aj
   grind
  |none=>
   rw[aj]at h;simp only at h;split at h
   .rename_i c7 f args d? ty jG pK
    cases Y:Nat.beq f m with
    |false=>rw[Y]at h;cases h
    |true=>
     rw[Y]at h;split at h
     .rename_i c k jd
      cases h;have:=fP Y;subst this;have bc:args=#[c,.const (.int .i64 (k:Int))]:=by apply B1;exact jd
      subst bc;simp
     cases h
   cases h
def atE{ops:List Oper}{q:List Oper×Option Nat×Operand×Nat×Oper}(h:Mx E ops=some q):∃m t d? ty jG pK,E.Pn=some (m,t)/\q.2.2.2.2=⟨q.2.1,.call ⟨.value (.func m), #[q.2.2.1,.const (.int .i64 (q.2.2.2.1:Int))],d?⟩,ty,jG,pK,none⟩/\ops=q.1++[q.2.2.2.2]:=by
 unfold Mx at h;cases hp:E.Pn with
 |none=>rw[hp]at h;cases h
 |some p=>
  rw[hp]at h;obtain⟨d?,ty,jG,pK,e⟩:=adC h
  grind
def afc:∀{l:List Oper} {p:List Oper×(Nat×Option Nat×ot×List Operand)×Oper×List Oper},D4 E l=some p ->
  l=p.1++p.2.2.1::p.2.2.2/\E.Q p.2.1.1=some p.2.1.2.2.1/\∃args d? ty jG pK,p.2.1.2.2.2=args.toList/\p.2.2.1=⟨p.2.1.2.1,.call ⟨.value (.func p.2.1.1),args,d?⟩,ty,jG,pK,none⟩
 |[],p,h=>by cases h
 |o::r,p,h=>by
  simp only[D4]at h;cases a_:U_ E o with
  |some q=>
   rw[a_]at h;unfold U_ at a_
   grind
  |none=>
   rw[a_]at h;cases aj:D4 E r with
   |none=>rw[aj]at h;cases h
   |some fW=>
    obtain⟨O,R⟩:=afc aj
    grind
def Z5{fk gO:List Oper}(h:t∈er fk):t∈er (fk++gO):=by
 induction fk with
 |nil=>cases h
 |cons o r ih=>
  simp only[er,l9]at h ⊢
  grind
def aig{c:Operand}{c7:Option Nat}{k m:Nat}{d?:Array TypeId}{type:TypeId}{jG:String}{after:Array Edge}(hp:zj P m t){b:Bool}(Y:a.eval c=.bool b){Kn:Act->World->Prop}{Q:Exit->Act->World->Prop}
  (O:b=true->∀v,Kn (a.put c7 v) w) (R:b=false->Q (.panic [{ v:=.iface t (.int .i64 (k:Int)),recovered:=false }]) a w):Oper.wp P ⟨c7,.call ⟨.value (.func m), #[c,.const (.int .i64 (k:Int))],d?⟩,type,jG,after,none⟩ a w Kn Q:=by
 obtain⟨⟨fn,c1,c2,hd⟩,ah⟩:=hp;have ut:¬fn.body=none:=by intro Y;rw[Y]at c2;cases c2
 have FE : ¬ fn.name = "runtime.NumGoroutine" := by simpa using hd
 have iJ:(execOp a.eval ⟨c7,.call ⟨.value (.func m), #[c,.const (.int .i64 (k:Int))],d?⟩,type,jG,after,none⟩).run P w=.ok (.enter m #[.bool b,.int .i64 (k:Int)]) w:=by have np:a.eval (.const (.int .i64 (k:Int)))=.int .i64 (k:Int):=rfl;have Ae:a.eval (.func m)=.func (.func m) #[] #[]:=rfl;simp only[execOp,resolve];simp[Y,np,Ae,Deferred.ofValue,invoke,callFunc,c1,FE,ut]
 unfold Oper.wp;rw[iJ,Oper.upon_enter];refine(ah b k w).mono ?_;rintro e w' ⟨rfl,rfl⟩;cases b with
 |true=>exact O rfl _
 |false=>exact R rfl
def adB{c7:Option Nat}{c:Operand}{jQ m:Nat}{d?:Array TypeId}{ty:TypeId}{jG:String}{pK:Array Edge}(hp:zj P m t)(mO:E.Pn=some (m,t))(eD:nt<=1000000){s ax:aR}{phx':cd}{aA:Nat->Prop}{w':World}{a':Act}{ρ ρ':Type}
  {k:ki ρ'->aS ρ} {r:ρ} (h:((HJ nt c7 c jQ ax).bind k).bI=some r) (am:gd K w0 D s phx M w a ax phx' aA w' a') (gI:nt<=a'.tmps.size) {kE:List Nat} (jv:∀t,t∈D->t∈kE) (aI:∀d,c7=some d->d∈kE) {Kn:Act->World->Prop} {Q:Exit->Act->World->Prop}
  (jj:∀ax phx' aA w' a',(k (.nx ax)).bI=some r->gd K w0 kE s phx M w a ax phx' aA w' a'->Kn a' w')
  (kO:∀id ax phx' aA w' a',(k (.ex id ax)).bI=some r->gd K w0 kE s phx M w a ax phx' aA w' a'->Q (md E id) a' w') :
  Oper.wp P ⟨c7,.call ⟨.value (.func m), #[c,.const (.int .i64 (jQ:Int))],d?⟩,ty,jG,pK,none⟩ a' w' Kn Q:=by
 unfold HJ at h;rw[aS.fw]at h;obtain⟨v,wr,O,R⟩:=pd h;obtain⟨_,aD⟩:=ys O am.slots;simp only at R;have hx:=K9 (k:=jQ) mO;have abd:((iK nt c7 ax .bad λs=>aS.leaf (aE.nx s)).bind k).bI=some r->∀v,Kn (a'.put c7 v) w':=λhg v=>by obtain⟨gx,hg⟩:=vb hg;refine jj (jH ax c7 .bad) phx' aA w' _ hg ?_;have rI:∀d,c7=some d->d<a'.tmps.size:=λd aI=>iF (gx d aI) gI;exact gd.trans am ⟨wJ (D:=kE) aI,by rw[lA];exact am.hR,by rw[lA];exact co.refl _ _ _ _,by rw[lA,r9 eD gx];exact am.slots.put rI trivial,hF.put (D:=kE) aI⟩ jv λt h=>h
 have bad:(k (.ex (hG+jQ) ax)).bI=some r->Q (.panic [{ v:=.iface t (.int .i64 (jQ:Int)),recovered:=false }]) a' w':=λY=>by rw[<- hx];exact kO (hG+jQ) ax phx' aA w' a' Y (am.mono jv)
 cases v<;>try(cases R;done)
 case kb b=>
  have Y:a'.eval c=.bool b:=aD;refine aig hp Y (λe => ?_) (λe => ?_)
  .subst e;exact abd R
  subst e;exact bad R
 case sc ahX b=>
  cases ahX<;>try(cases R;done)
  have Y:a'.eval c=.bool b:=a9.bool aD;have ht:∃od:Bool,od=b:=⟨b,rfl⟩;obtain⟨od,Aa⟩:=ht;subst Aa;simp only[aS.bind,aS.bI,T]at R;refine aig hp Y (λe => ?_) (λe => ?_)
  .subst e;exact abd R
  subst e;exact bad R
def ayZ{c7:Option Nat}{F:Operand}{args:Array Operand}{d?:Array TypeId}{type:TypeId}{jG:String}{after:Array Edge}{QV KG:Array Value}(aD:a.eval F=.func (.func f) QV KG)(ah:sp P f){Kn:Act->World->Prop}{Q:Exit->Act->World->Prop}
  (h:Calls P f (QV++args.map a.eval++KG) w fun
   |.returned v,w'=>Kn (a.put c7 v) w'
   |.panicked c,w'=>Q (.panic c) a w'
   |.outgrown,_=>LetsOut Q):Oper.wp P ⟨c7,.call ⟨.value F,args,d?⟩,type,jG,after,none⟩ a w Kn Q:=by
 obtain⟨fn,c1,c2,hd⟩:=ah;have ut:¬fn.body=none:=by intro Y;rw[Y]at c2;cases c2
 have FE : ¬ fn.name = "runtime.NumGoroutine" := by simpa using hd
 have iJ:(execOp a.eval ⟨c7,.call ⟨.value F,args,d?⟩,type,jG,after,none⟩).run P w=.ok (.enter f (QV++args.map a.eval++KG)) w:=by simp only[execOp,resolve];simp[aD,Deferred.ofValue,invoke,callFunc,c1,FE,ut]
 unfold Oper.wp;rw[iJ];exact h
def aan{ρ' ρ:Type}{n:Nat}{s:aR}:∀{l:List Nat} {k:ki ρ'->aS ρ} {r:ρ},((F5 n s l).bind k).bI=some r->((k (.ex (hG+n) s)).bI=some r)
 |[i],k,r,h=>by
  simp only[F5]at h;cases Y:bP n i with
  |false=>rw[Y]at h;cases h
  |true=>rw[Y]at h;rw[fP Y];exact h
 |i::j::l,k,r,h=>by
  simp only[F5]at h;cases Y:bP n i with
  |false=>rw[Y]at h;exact aan (l:=j::l) h
  |true=>rw[Y]at h;rw[fP Y];exact h
def pr(hT:nA P E.b6)(cA:pP P E.b6 E.C)(hv:qW P E.M)(dK:o1 P E K w0)(dZ:∀f g,E.I f=some g->kF P f g)(jh:P.follows .mixedOrders=true)(fH:inl=false->∀b,K.k b↔b<w0.heap.size)(eD:nt<=1000000):∀c:Code,B4 P K w0 E rs res nv nt inl c
 |.skip=>λs ρ k r h phx M w a hm ae gI Q jj kO pg=>wp_skip (jj s phx M w a h (gd.refl hm ae))
 |.label l=>λs ρ k r h phx M w a hm ae gI Q jj kO pg=>wp_label (jj s phx M w a h (gd.refl hm ae))
 |.region id ops dx=>λs ρ k r h phx M w a hm ae gI Q jj kO pg=>by
  simp only[run]at h;cases ux:Mx E ops.toList with
  |some q=>
   rw[ux]at h;obtain⟨yy,afd,tf,avs,D5⟩:=q;obtain⟨m,t,d?,ty,jG,pK,mO,LU,lU⟩:=atE ux;simp only at LU lU h;have jv:∀t,t∈er yy->t∈dY (.region id ops dx):=λt ht=>by simp only[dY];rw[lU];exact Z5 ht
   have aI:∀d,afd=some d->d∈dY (.region id ops dx):=λd aI=>by
    simp only[dY];rw[lU];have:∀l:List Oper,d∈er (l++[D5]):=λl=>by
     induction l with
     |nil=>rw[LU,aI];exact BV
     |cons o r ih=>exact(ue o (r++[D5])).2 d ih
    grind
   cases dx with
   |true=>
    simp only[cond_true]at h;cases hl:Hx yy D5 with
    |false=>rw[hl]at h;cases h
    |true =>rw[hl,cond_true,aS.fw]at h;refine awf jh hl (by rw[<- lU]) (awd (ops:=yy.toArray) hT cA hv dK dZ eD (k:=λs=>(HJ nt afd tf avs s).bind k) (by simpa using h) hm ae gI λax phx' aA w' a' ap hf bE e1 bp bD => ?_);have am:gd K w0 (er yy) s phx M w a ax phx' aA w' a':=⟨by simpa using hf,bE,e1,bp,by simpa using bD⟩;unfold EE wpOp;rw[show(yy++[D5]).toArray[yy.length]?=some D5 by rw[BW,o7 (bX _),PH];rfl];simp only;rw[LU,if_pos (by simp[Region.wanted])];left;exact adB (dK.pn m t mO) mO eD ap am (by rw[am.keep.1];exact gI) jv aI jj kO
   |false =>simp only[cond_false]at h;rw[aS.fw]at h;refine wp_region_list ?_;rw[lU];refine NG (tail:=[D5]) hT cA hv dK dZ eD yy true 0 s _ r h phx M w a hm ae gI λax phx' aA w' a' ap hf bE e1 bp bD => ?_;have am:gd K w0 (er yy) s phx M w a ax phx' aA w' a':=⟨hf,bE,e1,bp,bD⟩;simp only[wpList];rw[LU,if_pos (by simp[Region.wanted])];left;exact adB (dK.pn m t mO) mO eD ap am (by rw[am.keep.1];exact gI) jv aI jj kO
  |none=>
  rw[ux]at h;simp only at h;cases z8:D4 E ops.toList with
  |some p=>
   rw[z8]at h;obtain⟨fk,⟨f,c7,mu,azk⟩,o,gO⟩:=p;cases dx with
   |true=>cases h
   |false=>
    simp only[cond_false]at h;obtain⟨lU,zR,args,d?,ty,jG,pK,jd,aO⟩:=afc z8;simp only at lU zR jd aO;subst jd;obtain⟨⟨m,bd,mO,apR⟩,gM⟩:=dK.qn f mu zR;rw[aS.fw]at h;refine wp_region_list ?_;rw[lU];have Sm:∀t,t∈er fk->t∈dY (.region id ops false):=λt ht=>by simp only[dY];rw[lU];exact Z5 ht
    have api:∀fk:List Oper,∀t,t∈er (o::gO)->t∈er (fk++o::gO):=λfk t ht=>by
     induction fk with
     |nil=>exact ht
     |cons dz r ih=>exact(ue dz _).2 t ih
    have aby:∀t,t∈er (o::gO)->t∈dY (.region id ops false):=λt ht=>by simp only[dY];rw[lU];exact api fk t ht
    refine NG (tail:=o::gO) hT cA hv dK dZ eD fk true 0 s _ r h phx M w a hm ae gI λax phx' aA w' a' ap hf bE e1 bp bD => ?_;have am:gd K w0 (er fk) s phx M w a ax phx' aA w' a':=⟨hf,bE,e1,bp,bD⟩;rw[aS.fw]at ap;obtain⟨⟨n,v⟩,wr,O,R⟩:=pd ap;obtain⟨a5,cY,dG,gz⟩:=aw.cH O;obtain⟨Rr,dm⟩:=yn bp dG;subst Rr;simp only at R;simp only[wpList];rw[aO,if_pos (by simp[Region.wanted])];left;have bc:(args.toList.map a'.eval).toArray=args.map a'.eval:=by apply B1;simp
    obtain⟨v2,C7⟩:=avr apR gM gz bE dm;rw[bc]at C7;have pe:a'.eval (.func f)=.func (.func f) #[] #[]:=rfl;have aq4:nt<=a'.tmps.size:=by rw[am.keep.1];exact gI
    refine ayZ pe v2 ?_;simp only[Array.empty_append,Array.append_empty];refine C7.mono ?_;rintro e cR ⟨c',cq,aT,abQ⟩;rw[<- aR.nW]at cq aT abQ;have azu:d5 (er fk) s (ax.em wr):=hf.sub (d5.em wr (er fk)) (λt h=>h) (λt h=>h);have N?:dE phx' (view cR c') (ax.em wr).aW (ax.em wr).bW a':=by rw[(d5.em wr []).b6];exact bp.ext aT
    simp only[aS.bind,aS.bI,T]at R;rcases abQ with⟨p2,bY,rfl,qR⟩|⟨p2,rfl⟩
    .subst p2
     rw[show bP 0 0=true from rfl,cond_true]at R;obtain⟨gx,R⟩:=vb R;have rI:∀d,c7=some d->d<a'.tmps.size:=λd aI=>iF (gx d aI) aq4;have abU:∀d,c7=some d->d∈er (o::gO):=λd aI=>(ue o gO).1 d (by rw[aO];exact aI);rw[aS.fw]at R;have v_:gd K w0 (dY (.region id ops false)) s phx M w a (jH (ax.em wr) c7 v) phx' c' cR (a'.put c7 bY):=
      gd.trans am ⟨(d5.em wr []).sub (wJ (D:=er (o::gO)) abU) (λt h=>by simp at h) (λt h=>h),by rw[lA];exact cq,by rw[lA];exact aT,by rw[lA,r9 eD gx];exact N?.put rI qR,hF.put (D:=er (o::gO)) abU⟩ Sm aby
     show wpList P ops Q gO (a'.put c7 bY) cR;have aq:=NG (P:=P) (tail:=[]) (ops:=ops) (Q:=Q) hT cA hv dK dZ eD gO true (fk.length+1) _ _ r R phx' c' cR _ v_.hR v_.slots (by rw[v_.keep.1];exact gI) λd_ jF jt ft dj fy SO g7 dI awW dy => ?_
     .rwa [iE]at aq
     exact jj d_ jF jt ft dj fy (v_.trans ⟨SO,g7,dI,awW,dy⟩ (λt h=>h) λt ht=>aby t ((ue o gO).2 t ht))
    have aq6:bP n 0=false:=by
     cases Y:bP n 0 with
     |false=>rfl
     |true=>exact absurd (fP Y) p2
    rw[aq6,cond_false]at R;have ai:=aan R;have a_:=kO (hG+n) (ax.em wr) phx' c' cR a' ai (gd.trans am ⟨d5.em wr (er fk),cq,aT,N?,hF.refl _ _⟩ Sm Sm);rw[K9 mO]at a_;exact a_
  |none=>
  rw[z8]at h;simp only at h;cases ah:(!dx&&QU E ops.toList) with
  |false =>rw[ah,cond_false,aS.fw]at h;exact awe hT cA hv dK dZ jh eD h hm ae gI λax phx' aA w' a' ap hf bE e1 bp bD=>jj ax phx' aA w' a' ap ⟨hf,bE,e1,bp,bD⟩
  |true=>
   rw[ah,cond_true,aS.fw]at h;simp only[cM,xe]at ah;rw[ah.1];refine wp_region_list ?_;have aq:=NG (tail:=[]) hT cA hv dK dZ eD ops.toList true 0 s _ r h phx M w a hm ae gI λax phx' aA w' a' ap hf bE e1 bp bD=>jj ax phx' aA w' a' ap ⟨hf,bE,e1,bp,bD⟩
   rwa [iE]at aq
 |.seq x y=>λs ρ k r h phx M w a hm ae gI Q jj kO pg=>by
  simp only[run]at h;rw[aS.fw]at h;have AA:∀t,t∈dY x->t∈dY (.seq x y):=λt h=>B2 _ h;have DA:∀t,t∈dY y->t∈dY (.seq x y):=λt h=>qy _ h;refine wp_seq (pr hT cA hv dK dZ jh fH eD x s ρ _ r h phx M w a hm ae gI _ (λax phx' aA w' a' ap am => ?_) (λid ax phx' aA w' a' ap am => ?_) (λv w' a' ap aI aM => ?_))
  .exact pr hT cA hv dK dZ jh fH eD y ax ρ k r ap phx' aA w' a' am.hR am.slots (by rw[am.keep.1];exact gI) Q (λd_ jF jt ft dj fy lx=>jj d_ jF jt ft dj fy (am.trans lx AA DA))
    (λid d_ jF jt ft dj fy lx=>kO id d_ jF jt ft dj fy (am.trans lx AA DA)) (λv ft dj fy aI aM=>pg v ft dj fy (aI.trans am.keep.2.1) aM)
  .have a_:=kO id ax phx' aA w' a' ap (am.mono AA)
   revert a_;unfold md;(repeat' split)<;>exact λh=>h
  exact pg v w' a' ap aI aM
 |.cond c x y=>λs ρ k r h phx M w a hm ae gI Q jj kO pg=>by
  simp only[run]at h;rw[aS.fw]at h;have AA:∀t,t∈dY x->t∈dY (.cond c x y):=λt h=>B2 _ h;have DA:∀t,t∈dY y->t∈dY (.cond c x y):=λt h=>qy _ h;obtain⟨v,wr,O,R⟩:=pd h;obtain⟨_,aD⟩:=ys O ae;simp only at R;have abb:∀{ρ:Type} (k:ki (eq rs)->aS ρ) (r:ρ),((run E rs res nv nt inl x s).bind k).bI=some r->(∀ax phx' aA w' a',(k (.nx ax)).bI=some r->gd K w0 (dY x) s phx M w a ax phx' aA w' a'->Q .normal a' w') ->
   (∀id ax phx' aA w' a',(k (.ex id ax)).bI=some r->gd K w0 (dY x) s phx M w a ax phx' aA w' a'->Q (md E id) a' w') ->
   (∀v w' a',(k (.rt v)).bI=some r->a'.defers=a.defers->(∃us,tk P a'.tmps w' res us/\i4 w0 K.x w' rs v (jI us))->Q .ret a' w')->x.wp P Q a w:=
   λk r hx bj bm cW=>pr hT cA hv dK dZ jh fH eD x s _ k r hx phx M w a hm ae gI Q bj bm cW
  have abc:∀{ρ:Type} (k:ki (eq rs)->aS ρ) (r:ρ),((run E rs res nv nt inl y s).bind k).bI=some r->(∀ax phx' aA w' a',(k (.nx ax)).bI=some r->gd K w0 (dY y) s phx M w a ax phx' aA w' a'->Q .normal a' w') ->
   (∀id ax phx' aA w' a',(k (.ex id ax)).bI=some r->gd K w0 (dY y) s phx M w a ax phx' aA w' a'->Q (md E id) a' w') ->
   (∀v w' a',(k (.rt v)).bI=some r->a'.defers=a.defers->(∃us,tk P a'.tmps w' res us/\i4 w0 K.x w' rs v (jI us))->Q .ret a' w')->y.wp P Q a w:=
   λk r hx bj bm cW=>pr hT cA hv dK dZ jh fH eD y s _ k r hx phx M w a hm ae gI Q bj bm cW
  have WO:((run E rs res nv nt inl x s).bind k).bI=some r->x.wp P Q a w:=λhx=>abb k r hx (λax phx' aA w' a' ap am=>jj ax phx' aA w' a' ap (am.mono AA)) (λid ax phx' aA w' a' ap am=>kO id ax phx' aA w' a' ap (am.mono AA)) pg;have WP:((run E rs res nv nt inl y s).bind k).bI=some r->y.wp P Q a w:=λhx=>abc k r hx (λax phx' aA w' a' ap am=>jj ax phx' aA w' a' ap (am.mono DA)) (λid ax phx' aA w' a' ap am=>kO id ax phx' aA w' a' ap (am.mono DA)) pg;cases v<;>try(cases R;done)
  case kb t=>
   have aD:a.eval c=.bool t:=aD;cases t with
   |true=>exact wp_cond_true aD (WO R)
   |false=>exact wp_cond_false aD (WP R)
  case sc ty t=>
   cases ty<;>try(cases R;done)
   have aD:a.eval c=.bool t:=a9.bool aD;cases dC:(E.U && !(qa [] x&&qa [] y)) with
   |true=>
    rw[dC]at R;simp only[cond_true]at R;have ht:∃od:Bool,od=t:=⟨t,rfl⟩;obtain⟨od,Aa⟩:=ht;subst Aa;cases od with
    |true=>exact wp_cond_true aD (WO R)
    |false=>exact wp_cond_false aD (WP R)
   |false=>
   rw[dC]at R;simp only[cond_false]at R;have br:((aS.br t (run E rs res nv nt inl x s) (run E rs res nv nt inl y s)).bind k).bI=some r->(Code.cond c x y).wp P Q a w:=λY=>by
    simp only[aS.bind,aS.bI,T]at Y;have ht:∃od:Bool,od=t:=⟨t,rfl⟩;obtain⟨od,Aa⟩:=ht;subst Aa;cases od with
    |true=>exact wp_cond_true aD (WO Y)
    |false=>exact wp_cond_false aD (WP Y)
   generalize(qa [] x&&qa [] y&&adQ E)=c1 at R;cases c1 with
   |false=>exact br R
   |true=>
    simp only[cond_true]at R;rw[aS.fw]at R

    have VK:∀{ρ:Type} (k':aR->aS ρ) (q_:ρ),(((aS.br t ((run E rs res nv nt inl x s).nu AH) ((run E rs res nv nt inl y s).nu AH))).bind k').bI=some q_ ->
     (∀ax phx' aA w' a',(k' ax).bI=some q_->gd K w0 (dY (.cond c x y)) s phx M w a ax phx' aA w' a'->Q .normal a' w')->(Code.cond c x y).wp P Q a w:=by
     intro ρ k' q_ Y lw;simp only[aS.bind,aS.bI,T,aS.wE,aS.fw]at Y;have f':∀{D:List Nat} (jv:∀t,t∈D->t∈dY (.cond c x y)),(∀ax phx' aA w' a',((aS.uS (AH (.nx ax:ki (eq rs)))).bind k').bI=some q_->gd K w0 D s phx M w a ax phx' aA w' a'->Q .normal a' w') /\
      (∀id ax phx' aA w' a',((aS.uS (AH (.ex id ax:ki (eq rs)))).bind k').bI=some q_->gd K w0 D s phx M w a ax phx' aA w' a'->Q (md E id) a' w') /\
      (∀v w' a',((aS.uS (AH (.rt v:ki (eq rs)))).bind k').bI=some q_->a'.defers=a.defers->(∃us,tk P a'.tmps w' res us/\i4 w0 K.x w' rs v (jI us))->Q .ret a' w'):=
      λjv=>⟨λax phx' aA w' a' ap am=>lw ax phx' aA w' a' ap (am.mono jv),(λid ax phx' aA w' a' ap _=>by cases ap),(λv w' a' ap _ _=>by cases ap)⟩
     have ht:∃od:Bool,od=t:=⟨t,rfl⟩;obtain⟨od,Aa⟩:=ht;subst Aa;cases od with
     |true=>obtain⟨f1,f2,f3⟩:=f' AA;exact wp_cond_true aD (abb _ q_ Y f1 f2 f3)
     |false=>obtain⟨f1,f2,f3⟩:=f' DA;exact wp_cond_false aD (abc _ q_ Y f1 f2 f3)
    rcases TL (λt ht=>(xn.1 ht).1) R with ai|⟨ks,p,hp,hrest⟩
    .exact VK _ r ai λax phx' aA w' a' ap am=>jj ax phx' aA w' a' ap am
    refine VK _ p hp λax phx' aA w' a' ap am => ?_;have n1:((aS.uS (bif Nat.beq ax.w.length s.w.length then qI ax ks else none)).bind aS.leaf).bI=some p:=by rw[k1];exact ap
    obtain⟨fW,p4,ji⟩:=aS.UD n1;cases ji;cases b9:Nat.beq ax.w.length s.w.length with
    |false=>rw[b9]at p4;cases p4
    |true =>rw[b9,cond_true]at p4;have SS:d5 (nb (dY x++dY y)) s ax:=am.iv.mono λt ht=>DB.2 ht;obtain⟨d_,ck,cR,ft⟩:=hrest ax SS.aov (fP b9) p4;refine jj d_ phx' aA w' a' ft ⟨cR.mono λt ht=>DB.1 ht,by rw[ck.2];exact am.hR,by rw[ck.2];exact am.ext,am.slots.OL ck,am.keep⟩
 |.block id x=>λs ρ k r h phx M w a hm ae gI Q jj kO pg=>by
  simp only[run]at h;cases z_:Nat.ble iU id with
  |true=>rw[z_]at h;cases h
  |false=>
  rw[z_,cond_false,aS.fw]at h;have e3:id<iU:=by rw[<- Nat.not_le,<- Xf,z_];simp
  refine wp_block (pr hT cA hv dK dZ jh fH eD x s ρ _ r h phx M w a hm ae gI _ (λax phx' aA w' a' ap am=>jj ax phx' aA w' a' ap am) (λi ax phx' aA w' a' ap am => ?_) (λv w' a' ap aI aM=>pg v w' a' ap aI aM));replace ap:((bif Nat.beq i id then aS.leaf (aE.nx ax) else aS.leaf (aE.ex i ax):aS (ki (eq rs))).bind k).bI=some r:=ap;cases Y:Nat.beq i id with
  |true =>rw[Y]at ap;have ac:=fP Y;rw[aam (by rw[ac];exact e3)];simp only[Exit.inBlock];rw[if_pos ac];exact jj ax phx' aA w' a' ap am
  |false=>
   rw[Y]at ap;have a_:=kO i ax phx' aA w' a' ap am;revert a_;unfold md
   (repeat' split)<;>first
    |exact λh=>h
    | (
     simp only[Exit.inBlock];rw[if_neg (by rintro rfl;rw[Fj]at Y;cases Y)];exact λh=>h)
 |.exit id=>λs ρ k r h phx M w a hm ae gI Q jj kO pg=>by
  simp only[run]at h;cases z_:Nat.ble iU id with
  |true=>rw[z_]at h;cases h
  |false=>
   rw[z_,cond_false]at h;have e3:id<iU:=by rw[<- Nat.not_le,<- Xf,z_];simp
   have a_:=kO id s phx M w a h (gd.refl hm ae);rw[aam e3]at a_;exact wp_exit a_
 |.ret=>λs ρ k r h phx M w a hm ae gI Q jj kO pg=>by
  simp only[run]at h;cases SX:inl with
  |true =>rw[SX,cond_true]at h;have a_:=kO iU s phx M w a h (gd.refl hm ae);exact wp_ret a_
  |false=>
  rw[SX,cond_false,aS.fw]at h;obtain⟨vs,us,O,R,ai⟩:=yH hT h hm ae;rw[aS.fw]at O;obtain⟨x,aA,B',au,bE,w5,_,u_⟩:=Ea O hm R (U:=λ_=>False) ⟨λ_ _ _ _ h=>h,λ_ h=>h.elim⟩;have lS:=fH SX;rw[show(λb=>¬K.k b)=(λb=>¬b<w0.heap.size) from funext λb=>by rw[lS b]]at u_;refine wp_ret (pg x w a au rfl ⟨us,ai,aA,bE.os,bE.tape,bE.output,bE.size,λb Y=>bE.keep b ((lS b).2 Y),λb Y=>bE.hid b ((lS b).2 Y),bE.mlt,us,u_,rfl⟩)
 |.loop b=>by
  cases dC:E.U with
  |false=>exact atb dC (pr hT cA hv dK dZ jh fH eD b)
  |true=>exact ayB dC (pr hT cA hv dK dZ jh fH eD b)
 |.goto l=>λs ρ k r h=>by simp only[run]at h;cases h
 |.scope c=>λs ρ k r h phx M w a hm ae gI Q jj kO pg=>by refine wp_scope_straight (pr hT cA hv dK dZ jh fH eD c s ρ k r h phx M w a hm ae gI _ jj (λid ax phx' aA w' a' ap am => ?_) pg);have a_:=kO id ax phx' aA w' a' ap am;revert a_;unfold md;(repeat' split)<;>exact λh=>h
 |.refuse why=>λs ρ k r h=>by simp only[run]at h;cases h
 |.rangeFunc f a5 x y=>λs ρ k r h=>by simp only[run]at h;cases h
end
end Yp
namespace Yp
open Go
def tM:=@Array.getElem?_replicate
def pF:=@Array.getElem?_append_left
def tP:=@Array.getElem?_append_right
def Pc:=@Bool.not_true
variable {P:Program}
def aaw:∀(n i:Nat) (s:aR),∃cv:aR,cv.h=s.h/\cv.w=s.w/\(∀(γ:Type 1) (k:dR->γ),Le n i s.t k=k cv.t)/\(∀j,cv.bW j=s.bW j\/(i<=j/\(cv.bW j=.undef\/cv.bW j=.bad)))
 |0,i,s=>⟨s,rfl,rfl,λ_ _=>rfl,λ_=>.inl rfl⟩
 |n+1,i,s=>by
  obtain⟨cv,O,R,ai,au⟩:=aaw n (i+1) (s.l3 i .undef);refine⟨cv,O,R,λγ k => ?_,λj => ?_⟩
  .simp only[Le,VG];exact ai γ k
  rcases au j with h|⟨h,bB⟩
  .by_cases ao:j=i
   .subst ao
    right;refine⟨bX _,?_⟩;rw[h];exact s.Ge j .undef
   left;rw[h,s.vV _ ao]
  grind
def F'(n:Nat):∀(vs:List av) (i:Nat) (s:aR),∃cv:aR,cv.h=s.h/\cv.w=s.w/\(∀(γ:Type 1) (k:dR->γ),fill n vs i s.t k=k cv.t) /\
  ∀j,cv.bW j=s.bW j\/(∃v,i<=j/\vs[j-i]?=some v/\(cv.bW j=v\/cv.bW j=.bad))\/(i+vs.length<=j/\(cv.bW j=.undef\/cv.bW j=.bad))
 |[],i,s=>by obtain⟨cv,O,R,ai,au⟩:=aaw (n-i) i s;exact⟨cv,O,R,ai,λj=>(au j).imp id λh=>.inr ⟨by simpa using h.1,h.2⟩⟩
 |v::vs,i,s=>by
  obtain⟨cv,O,R,ai,au⟩:=F' n vs (i+1) (s.l3 i v);refine⟨cv,O,R,λγ k => ?_,λj => ?_⟩
  .simp only[fill,xP,VG];exact ai γ k
  rcases au j with h|⟨u,ao,h,bB⟩|⟨h,bB⟩
  .by_cases ao:j=i
   .subst ao
    right;left;refine⟨v,bX _,bf,?_⟩;rw[h];exact s.Ge j v
   left;rw[h,s.vV _ ao]
  .grind
  grind
def PV{H:cf}{phx:cd}{B:Nat->aU}:∀{ts:List ag} {x:h3 ts} {vs:List Value},pB H ts x vs->(nO ts x).length=vs.length/\∀(j:Nat) (p:av),(nO ts x)[j]?=some p->∃v:Value,vs[j]?=some v/\a9 phx H B p v
 |[],x,vs,h=>by have h:vs=[]:=h;subst h;exact⟨rfl,λj p h=>by simp[nO]at h⟩
 |t::ts,x,vs,h=>by
  obtain⟨cs,ei,rfl,O,R⟩:=h;obtain⟨bj,bm⟩:=PV (phx:=phx) (B:=B) R;refine⟨by simp[nO,bj],λj p ao => ?_⟩;cases j with
  |zero =>simp only[nO,JX,kY]at ao;subst ao;exact⟨_,rfl,cs,O,rfl⟩
  |succ j =>simp only[nO,za]at ao;obtain⟨v,ai,au⟩:=bm j p ao;exact⟨v,by simpa using ai,au⟩
structure ol(P:Program)(E:dl):Prop where
 b6:nA P E.b6
 C:pP P E.b6 E.C
 M:qW P E.M
 G:∀f s,E.G f=some s->hb P f s
 K : ∀ g, E.K = some g → P.globalNamed "yett/sha.keys" = some g
 I:∀f g,E.I f=some g->kF P f g
 X:∀f s,E.X f=some s->i2 P f s
 Q:∀f s,E.Q f=some s->E6 P E f s
 P:∀m t,E.Pn=some (m,t)->zj P m t
def VY{w:World}{X:Nat->Prop}{ts:List ag}{x:h3 ts}{vs:List Value}(dL:∀b,X b->b<w.heap.size)(lv:ly P (view w X))(jd:pB (view w X) ts x vs)(n:Nat):
  ∃s:aR,(∀(γ:Type 1) (k:dR->γ),fill n (nO ts x) 0 .e k=k s.t)/\(⟨s.t,[],[]⟩:aR)=s/\bK ⟨λb=>b<w.heap.size,X⟩ w (λ_=>none) X s.aW w /\
   dE (λ_=>none) (view w X) s.aW s.bW { tmps:=vs.toArray++Array.replicate (n-vs.toArray.size) undef,defers:=[] }/\n<=(vs.toArray++Array.replicate (n-vs.toArray.size) undef).size/\pC P ⟨λb=>b<w.heap.size,X⟩ w:=by
 obtain⟨s,O,R,ai,au⟩:=F' n (nO ts x) 0 ⟨.e,[],[]⟩;have ae:(⟨s.t,[],[]⟩:aR)=s:=by cases s;simp only at O R;rw[O,R]
 let K:Kp:=⟨λb=>b<w.heap.size,X⟩
 have aB:s.aW=λ_=>aU.new:=by funext j;unfold aR.aW;rw[O];rfl
 have hm:bK K w (λ_=>none) X s.aW w:=by rw[aB];exact⟨rfl,rfl,rfl,bX _,λ_ _=>rfl,λ_ h=>h,λ_ _=>PB,(λ_ h=>by cases h),dL,λ_=>trivial,(λ_ _ _ h=>by cases h)⟩
 obtain⟨bj,bm⟩:=PV (phx:=λ_=>none) (B:=s.aW) jd;have pi:dE (λ_=>none) (view w X) s.aW s.bW { tmps:=vs.toArray++Array.replicate (n-vs.toArray.size) undef,defers:=[] }:=by
  intro j;have zY:(⟨.e,[],[]⟩:aR).bW j=.bad:=dR.vW 40 j;rcases au j with h|⟨p,_,h,bB⟩|⟨h,bB⟩
  .rw[h,zY];trivial
  .rcases bB with bB|bB<;>rw[bB]
   .obtain⟨v,aD,aj⟩:=bm j p (by simpa using h)
    have bi:j<vs.length:=(nF.1 aD).1;have:(vs.toArray++Array.replicate (n-vs.toArray.size) undef).getD j undef=v:=by rw[m8,pF (by simpa using bi)];simp[aD]
    show a9 _ _ _ p ((vs.toArray++Array.replicate (n-vs.toArray.size) undef).getD j undef);rw[this];exact aj
   trivial
  rcases bB with bB|bB<;>rw[bB]
  .have bi:vs.length<=j:=by rw[bj]at h;simpa using h
   have:(vs.toArray++Array.replicate (n-vs.toArray.size) undef).getD j undef=undef:=by
    rw[m8,tP (by simpa using bi)];by_cases ao:j-vs.toArray.size<n-vs.toArray.size
    .rw[tM,if_pos ao];rfl
    rw[tM,if_neg ao];rfl
   exact this
  trivial
 have nn:n<=(vs.toArray++Array.replicate (n-vs.toArray.size) undef).size:=fS;have gM:pC P K w:=⟨λg hg=>by
  obtain⟨a,cap,O,_,_,au⟩:=aJ.iL.1 (lv g hg);simp only[oq,Value.slice.injEq,and_true]at O;obtain⟨rfl,_,rfl⟩:=O;rcases au with au|⟨b,o,c,el,fz,bG,ca,_⟩
  .cases au
  cases bG;exact(iR.1 (kd.1 ca).2).1,lv⟩
 exact⟨s,λγ k=>ai γ k,ae,hm,pi,nn,gM⟩
def atD {E : dl} (cb : ol P E) (jh : P.follows .mixedOrders = true)  {fn : Func} (hf : P.funcs[f]? = some fn) (sZ : (fn.name == "runtime.NumGoroutine") = false)
  (nv:Nat) (ts:List ag) (rs:List ez) (Y:fn.body.isSome=true):hb P f ⟨ts,rs,Mu E fn nv ts rs⟩:=by
 refine⟨⟨fn,hf,Y,sZ⟩,?_⟩;intro w X x vs r dL lv jd e2;unfold Mu at e2;cases je:fn.body with
 |none=>rw[je]at Y;cases Y
 |some c=>
  rw[je]at e2;simp only at e2;cases bV:Nat.ble fn.ntmps 1000000 with
  |false=>rw[bV]at e2;cases e2
  |true=>
   rw[bV]at e2;have eD:fn.ntmps<=1000000:=by simpa using bV
   obtain⟨s,ai,ae,hm,pi,nn,gM⟩:=VY (P:=P) dL lv jd fn.ntmps;rw[ai,ae]at e2;refine calls_of_wp hf je ?_
   let K:Kp:=⟨λb=>b<w.heap.size,X⟩
   refine pr (P:=P) (w0:=w) (K:=K) cb.b6 cb.C cb.M ⟨cb.G,cb.K,λ_=>gM,λf s h=>⟨cb.X f s h,gM⟩,cb.P,λf s h=>⟨cb.Q f s h,gM⟩⟩ cb.I jh (λ_ b=>PB) eD c s (eq rs) _ r e2 (λ_=>none) X w _ hm pi nn _ (λax phx' aA w' a' ap am => ?_) (λid ax phx' aA w' a' ap am=>by cases ap) (λy w' a' ap aI aM => ?_)
   .obtain⟨nB,us,bG,ca,cr⟩:=yH cb.b6 ap am.hR am.slots
    have U9:((oP ax rs nB).bind aS.leaf).bI=some r:=by rw[k1];exact bG
    obtain⟨y,c',b2,du,bE,w5,_,u_⟩:=Ea (K:=K) (w0:=w) U9 am.hR ca (U:=λ_=>False) ⟨λ_ _ _ _ h=>h,λ_ h=>h.elim⟩;cases du;exact⟨am.keep.2.1,jI us,wP cr,jI us,rfl,c',bE.os,bE.tape,bE.output,bE.size,λb Y=>bE.keep b Y,λb Y=>bE.hid b Y,bE.mlt,us,u_,rfl⟩
   cases ap;obtain⟨us,bG,ca⟩:=aM;exact⟨aI,jI us,wP bG,jI us,rfl,ca⟩
def Mh{ρ:Type}:aS (ki ρ)->aR
 |.leaf (.nx s)=>s
 |_=>default
def MC {E : dl} (cb : ol P E) (jh : P.follows .mixedOrders = true)  {fn : Func} (hf : P.funcs[f]? = some fn) (sZ : (fn.name == "runtime.NumGoroutine") = false)
  (nv:Nat) (ts:List ag) (rs:List ez) {A C X Z:Code} {k:Nat} (je:fn.body=some (.seq A (.seq (.seq C (.cond (.tmp k) X .skip)) Z))) (eD:fn.ntmps<=1000000) {m:h3 ts->Option (eq rs)} (bR:h3 ts->aR) (c:h3 ts->Bool)
  (O:∀x,(fill fn.ntmps (nO ts x) 0 .e λt=>aS.bind (run E rs fn.results.toList nv fn.ntmps false A ⟨t,[],[]⟩) fun|.nx s=>run E rs fn.results.toList nv fn.ntmps false C s|o=>.leaf o)=.leaf (.nx (bR x)))
  (R:∀x,(bR x).bW k=.nq (c x)) (ai:∀x r,c x=true->m x=some r->(run E rs fn.results.toList nv fn.ntmps false X (bR x)).bI=some (.rt r))
  (au:∀x r,m x=some r->(run E rs fn.results.toList nv fn.ntmps false Z (bR x)).bI=some (.rt r)):hb P f ⟨ts,rs,m⟩:=by
 refine⟨⟨fn,hf,by rw[je];rfl,sZ⟩,?_⟩;intro w PL x vs r dL lv jd e2;have e2:m x=some r:=e2;obtain⟨s,dI,ae,hm,pi,nn,gM⟩:=VY (P:=P) dL lv jd fn.ntmps;have xY:=O x;rw[dI,ae]at xY;refine calls_of_wp hf je ?_
 let K:Kp:=⟨λb=>b<w.heap.size,PL⟩
 have dp:o1 P E K w:=⟨cb.G,cb.K,λ_=>gM,λf s h=>⟨cb.X f s h,gM⟩,cb.P,λf s h=>⟨cb.Q f s h,gM⟩⟩;have a2:=λ(c:Code)=>pr (P:=P) (w0:=w) (K:=K) (rs:=rs) (res:=fn.results.toList) (nv:=nv) (nt:=fn.ntmps) (inl:=false) cb.b6 cb.C cb.M dp cb.I jh (λ_ b=>PB) eD c;have jg:((run E rs fn.results.toList nv fn.ntmps false A s).bind fun|.nx s=>run E rs fn.results.toList nv fn.ntmps false C s|o=>.leaf o).bI=some (.nx (bR x)):=by rw[xY];rfl
 refine wp_seq (a2 A s _ _ _ jg _ PL w _ hm pi nn _ (λax phx' aA w' a' ap am => ?_) (λid ax phx' aA w' a' ap am=>by cases ap) (λy w' a' ap aI aM=>by cases ap));have ap:((run E rs fn.results.toList nv fn.ntmps false C ax).bind .leaf).bI=some (.nx (bR x)):=by rw[k1];exact ap
 refine wp_seq (wp_seq (a2 C ax _ _ _ ap phx' aA w' a' am.hR am.slots (by rw[am.keep.1];exact nn) _ (λd_ jF jt ft dj fy lx => ?_) (λid d_ jF jt ft dj fy lx=>by cases fy) (λy ft dj fy aI aM=>by cases fy)));cases fy;have lw:=am.trans lx (JA:=dY A++dY C) (λt h=>B2 _ h) (λt h=>qy _ h);have arf:fn.ntmps<=dj.tmps.size:=by rw[lw.keep.1];exact nn
 have f':∀(EY:Code) (Q:Exit->Act->World->Prop),(run E rs fn.results.toList nv fn.ntmps false EY (bR x)).bI=some (.rt r) ->
   (∀a' w',a'.defers=[]->(∃us,tk P a'.tmps w' fn.results.toList us/\i4 w PL w' rs r (jI us))->Q .ret a' w')->EY.wp P Q dj ft:=λEY Q az a_=>by
  have az:((run E rs fn.results.toList nv fn.ntmps false EY (bR x)).bind .leaf).bI=some (.rt r):=by rw[k1];exact az
  refine a2 EY (bR x) _ _ _ az jF jt ft dj lw.hR lw.slots arf Q (λeL UY aiW hX eT j8 aq2=>by cases j8) (λid eL UY aiW hX eT j8 aq2=>by cases j8) (λy hX eT j8 aI aM => ?_);cases j8;exact a_ eT hX (aI.trans lw.keep.2.1) aM
 have a_:a9 jF (view ft jt) (bR x).aW (.nq (c x)) (dj.eval (.tmp k)):=by rw[<- R x];exact lw.slots k
 obtain⟨b,Y,ah⟩:=a_;cases b with
 |true =>refine wp_cond_true Y (f' X _ (ai x r (ah rfl) e2) λeT hX aI ⟨us,bG,ca⟩ => ?_);exact⟨aI,jI us,wP bG,jI us,rfl,ca⟩
 |false =>refine wp_cond_false Y (wp_skip (f' Z _ (au x r e2) λeT hX aI ⟨us,bG,ca⟩ => ?_));exact⟨aI,jI us,wP bG,jI us,rfl,ca⟩
def ayq{phx:cd}{H:cf}{B:Nat->aU}{vs:List av}{us:List Value}(h:gL phx H B vs us)(am:vs.all wD=true):a9 phx H B (Bv vs) (jI us):=by
 have as8:∀{vs:List av} {us:List Value},gL phx H B vs us->vs.all wD=true->ma phx H B (vs.foldr av.two (.sc .unit ())) us:=by
  intro vs;induction vs with
  |nil=>intro us h _;cases us with
   |nil=>rfl
   |cons=>exact h.elim
  |cons v vs ih=>
   intro us h am;cases us with
   |nil=>exact h.elim
   |cons u us =>simp only[vy,cM]at am;exact⟨u,us,rfl,EJ h.1 (adW am.1),ih h.2 am.2⟩
 match vs,us,h,am with
 |[],[],_,_=>exact⟨[],rfl,rfl⟩
 |[v],[u],h,_=>exact h.1
 |v::c9::vs,u::u'::us,h,am=>exact⟨_,as8 h am,rfl⟩
def U8{H:cf}{phx:cd}{B:Nat->aU}:∀{a5:List av} {vs:List Value},gL phx H B a5 vs->∀(j:Nat) (p:av),a5[j]?=some p->∃v:Value,vs[j]?=some v/\a9 phx H B p v
 |[],[],_,j,p,h=>by simp at h
 |p::a5,v::vs,h,j,q,ao=>by
  cases j with
  |zero=>simp only[JX,kY]at ao;subst ao;exact⟨v,rfl,h.1⟩
  |succ j =>simp only[za]at ao;obtain⟨u,O,R⟩:=U8 h.2 j q ao;exact⟨u,by simpa using O,R⟩
 |[],_::_,h,_,_,_=>h.elim
 |_::_,[],h,_,_,_=>h.elim
def asz {E : dl} (cb : ol P E) (jh : P.follows .mixedOrders = true)  {fn : Func} (hf : P.funcs[f]? = some fn) (sZ : (fn.name == "runtime.NumGoroutine") = false)
  (nv:Nat) (Y:fn.body.isSome=true):kF P f (jk E fn nv):=by
 refine⟨⟨fn,hf,Y,sZ⟩,?_⟩;intro K w0 gM b8 a5 s ρ k r h phx M w vs hm dm;unfold jk at h;cases je:fn.body with
 |none=>rw[je]at Y;cases Y
 |some c=>
  rw[je]at h;simp only at h;cases bV:Nat.ble fn.ntmps 1000000 with
  |false=>rw[bV]at h;cases h
  |true=>
   rw[bV]at h;simp only[Pc,cond_false]at h;have eD:fn.ntmps<=1000000:=by simpa using bV
   obtain⟨bp,O,R,ai,au⟩:=F' fn.ntmps a5 0 ⟨.e,s.h,s.w⟩;rw[ai]at h;have ae:(⟨bp.t,s.h,s.w⟩:aR)=bp:=by cases bp;simp only at O R;rw[O,R]
   rw[ae,aS.fw]at h;refine calls_of_wp hf je ?_;have aB:bp.aW=s.aW:=by funext j;unfold aR.aW;rw[O]
   have v8:bK K w0 phx M bp.aW w:=by rw[aB];exact hm
   have bj:=dm.length;have bm:=U8 dm;have pi:dE phx (view w M) bp.aW bp.bW { tmps:=vs.toArray++Array.replicate (fn.ntmps-vs.toArray.size) undef,defers:=[] }:=by
    intro j;rw[aB];have zY:(⟨.e,s.h,s.w⟩:aR).bW j=.bad:=dR.vW 40 j;rcases au j with h|⟨p,_,h,bB⟩|⟨h,bB⟩
    .rw[h,zY];trivial
    .rcases bB with bB|bB<;>rw[bB]
     .obtain⟨v,aD,aj⟩:=bm j p (by simpa using h)
      have bi:j<vs.length:=(nF.1 aD).1;have:(vs.toArray++Array.replicate (fn.ntmps-vs.toArray.size) undef).getD j undef=v:=by rw[m8,pF (by simpa using bi)];simp[aD]
      show a9 _ _ _ p ((vs.toArray++Array.replicate (fn.ntmps-vs.toArray.size) undef).getD j undef);rw[this];exact aj
     trivial
    rcases bB with bB|bB<;>rw[bB]
    .have bi:vs.length<=j:=by rw[bj]at h;simpa using h
     have:(vs.toArray++Array.replicate (fn.ntmps-vs.toArray.size) undef).getD j undef=undef:=by
      rw[m8,tP (by simpa using bi)];by_cases ao:j-vs.toArray.size<fn.ntmps-vs.toArray.size
      .rw[tM,if_pos ao];rfl
      rw[tM,if_neg ao];rfl
     exact this
    trivial
   have nn:fn.ntmps<=(vs.toArray++Array.replicate (fn.ntmps-vs.toArray.size) undef).size:=fS

   have f':∀ax phx' aA w' a',(((ny { E with b:=b8 } ax fn.results.toList).bind λvs=>bif vs.all wD then .leaf (Bv vs,(⟨s.t,ax.h,ax.w⟩:aR)) else .fail).bind k).bI=some r ->
     gd K w0 (dY c) bp phx M w { tmps:=vs.toArray++Array.replicate (fn.ntmps-vs.toArray.size) undef,defers:=[] } ax phx' aA w' a' ->
     a'.defers=[]/\∃v,(results fn a'.tmps).run P w'=.ok v w'/\(∃bY,Ending.returned v=.returned bY/\∃v ax phx' aA,(k (v,ax)).bI=some r/\bK K w0 phx' aA ax.aW w'/\co phx M s.aW w phx' aA ax.aW w'/\a9 phx' (view w' aA) ax.aW v bY/\d5 [] s ax):=by
    intro ax phx' aA w' a' ap am;rw[aS.fw]at ap;obtain⟨nB,us,bG,ca,cr⟩:=yH (E:={ E with b:=b8 }) cb.b6 ap am.hR am.slots;cases hall:nB.all wD with
    |false=>rw[hall]at bG;cases bG
    |true =>rw[hall,cond_true]at bG;have bG:(k (Bv nB,(⟨s.t,ax.h,ax.w⟩:aR))).bI=some r:=bG;have kN:(⟨s.t,ax.h,ax.w⟩:aR).aW=ax.aW:=rfl;refine⟨am.keep.2.1,jI us,wP cr,jI us,rfl,Bv nB,⟨s.t,ax.h,ax.w⟩,phx',aA,bG,am.hR,by rw[<- aB];exact am.ext,ayq ca hall,λ_ _=>rfl,?_⟩;obtain⟨_,gc,f1,f2⟩:=am.iv;exact⟨gc,by show ax.w=gc++s.w;rw[f1,R],λid hid=>by show ax.aW id=s.aW id;rw[f2 id hid,aB]⟩
   refine pr (P:=P) (w0:=w0) (K:=K) (E:={ E with b:=b8 }) (inl:=true) cb.b6 cb.C cb.M ⟨cb.G,cb.K,λ_=>gM,λf s h=>⟨cb.X f s h,gM⟩,cb.P,λf s h=>⟨cb.Q f s h,gM⟩⟩ cb.I jh (λh=>by cases h) eD c bp ρ _ r h phx M w _ v8 pi nn _ (λax phx' aA w' a' ap am => ?_) (λid ax phx' aA w' a' ap am => ?_) (λy w' a' ap aI aM=>by cases ap)
   .exact f' ax phx' aA w' a' ap am
   replace ap:((bif Nat.beq id iU then(ny { E with b:=b8 } ax fn.results.toList).bind λvs=>bif vs.all wD then .leaf (Bv vs,(⟨s.t,ax.h,ax.w⟩:aR)) else .fail else .fail:aS (av×aR)).bind k).bI=some r:=ap;cases Y:Nat.beq id iU with
   |false=>rw[Y]at ap;cases ap
   |true =>rw[Y,cond_true]at ap;unfold md;rw[if_pos (fP Y)];exact f' ax phx' aA w' a' ap am
def ahk{w:World}{X:Nat->Prop}{ts:List ag}{x:h3 ts}{vs:List Value}{t:ag}{y:t.aG}{b o:Nat}{c:Array Value}{el:TypeId}{fz:Nat×Nat}(dL:∀k,X k->k<w.heap.size)(lv:ly P (view w X))(vZ:X b)
  (hh:w.heap[b]?=some (.cells c el fz)) (aO:o+t.size<=c.size) (x7:iA c fz) (bs:aJ (view w X) t y (cJ c o t.size)) (jd:pB (view w X) ts x vs) (n:Nat) :
  ∃s:aR,(∀(γ:Type 1) (k:dR->γ),fill n (.ptr 3 []::nO ts x) 0 .e k=k s.t)/\(⟨s.t,[(3,.box t (.sc t y))],[]⟩:aR)=s/\bK ⟨λk=>k<w.heap.size/\k≠b,X⟩ w (λj=>if j=3 then some (b,o,c.size) else none) X s.aW w /\
   dE (λj=>if j=3 then some (b,o,c.size) else none) (view w X) s.aW s.bW { tmps:=(Value.pointer (some ⟨b,o,none⟩)::vs).toArray++Array.replicate (n-(Value.pointer (some ⟨b,o,none⟩)::vs).toArray.size) undef,defers:=[] } /\
   n<=((Value.pointer (some ⟨b,o,none⟩)::vs).toArray++Array.replicate (n-(Value.pointer (some ⟨b,o,none⟩)::vs).toArray.size) undef).size/\pC P ⟨λk=>k<w.heap.size/\k≠b,X⟩ w:=by
 obtain⟨s,O,R,ai,au⟩:=F' n (.ptr 3 []::nO ts x) 0 ⟨.e,[(3,.box t (.sc t y))],[]⟩;have ae:(⟨s.t,[(3,.box t (.sc t y))],[]⟩:aR)=s:=by cases s;simp only at O R;rw[O,R]
 have aB:s.aW=λj=>if j=3 then aU.box t (.sc t y) else .new:=by
  funext j;unfold aR.aW;rw[O];simp only[qV];by_cases ao:j=3
  .subst ao;rw[ Fj];rfl
  rw[if_neg ao];cases Y:Nat.beq 3 j with
  |true=>exact absurd (fP Y).symm ao
  |false=>rfl
 have nm:∀j,(s.aW j).fN=true->j=3:=λj ao=>by
  rw[aB]at ao;by_cases h:j=3
  .exact h
  simp only[if_neg h]at ao;cases ao
 have hm:bK ⟨λk=>k<w.heap.size/\k≠b,X⟩ w (λj=>if j=3 then some (b,o,c.size) else none) X s.aW w:=by
  refine⟨rfl,rfl,rfl,bX _,λ_ _=>rfl,λ_ h=>h.1,λ_ _=>PB,λj ao z bh ap => ?_,dL,λj => ?_,λi j jy ac ao=>absurd ((nm i ac).trans (nm j ao).symm) jy⟩
  .grind
  by_cases h:j=3
  .subst h
   rw[aB];exact⟨b,o,c,el,fz,rfl,hh,aO,⟨rfl,bs⟩,x7,vZ⟩
  rw[aB];simp only[if_neg h];exact trivial
 obtain⟨bj,bm⟩:=PV (phx:=λj=>if j=3 then some (b,o,c.size) else none) (B:=s.aW) jd;have pi:dE (λj=>if j=3 then some (b,o,c.size) else none) (view w X) s.aW s.bW { tmps:=(Value.pointer (some ⟨b,o,none⟩)::vs).toArray++Array.replicate (n-(Value.pointer (some ⟨b,o,none⟩)::vs).toArray.size) undef,defers:=[] }:=by
  intro j;have zY:(⟨.e,[(3,.box t (.sc t y))],[]⟩:aR).bW j=.bad:=dR.vW 40 j;rcases au j with h|⟨p,_,h,bB⟩|⟨h,bB⟩
  .rw[h,zY];trivial
  .rcases bB with bB|bB<;>rw[bB]
   .have aD:∃v:Value,(Value.pointer (some ⟨b,o,none⟩)::vs)[j]?=some v/\a9 (λj=>if j=3 then some (b,o,c.size) else none) (view w X) s.aW p v:=by
     rw[Nat.sub_zero]at h;cases j with
     |zero =>simp at h;subst h;refine⟨_,rfl,?_⟩;rw[aB];exact⟨b,o,c.size,0,t,rfl,by simp only[ag.et],rfl⟩
     |succ j =>exact bm j p h
    obtain⟨v,aD,aj⟩:=aD;have bi:j<(Value.pointer (some ⟨b,o,none⟩)::vs).length:=(nF.1 aD).1;have:((Value.pointer (some ⟨b,o,none⟩)::vs).toArray++Array.replicate (n-(Value.pointer (some ⟨b,o,none⟩)::vs).toArray.size) undef).getD j undef=v:=by rw[m8,pF (by simpa using bi),BW,aD];rfl
    rw[this];exact aj
   trivial
  rcases bB with bB|bB<;>rw[bB]
  .have bi:(Value.pointer (some ⟨b,o,none⟩)::vs).length<=j:=by simp at h ⊢;omega
   have:((Value.pointer (some ⟨b,o,none⟩)::vs).toArray++Array.replicate (n-(Value.pointer (some ⟨b,o,none⟩)::vs).toArray.size) undef).getD j undef=undef:=by
    rw[m8,tP (by simpa using bi)];by_cases ao:j-(Value.pointer (some ⟨b,o,none⟩)::vs).toArray.size<n-(Value.pointer (some ⟨b,o,none⟩)::vs).toArray.size
    .rw[tM,if_pos ao];rfl
    rw[tM,if_neg ao];rfl
   exact this
  trivial
 have nn:n<=((Value.pointer (some ⟨b,o,none⟩)::vs).toArray++Array.replicate (n-(Value.pointer (some ⟨b,o,none⟩)::vs).toArray.size) undef).size:=by rw[E5,Array.size_replicate];omega
 have gM:pC P ⟨λk=>k<w.heap.size/\k≠b,X⟩ w:=⟨λg hg=>by
  obtain⟨a,cap,O,_,_,au⟩:=aJ.iL.1 (lv g hg);obtain⟨rfl,_,rfl⟩:=O;rcases au with au|⟨b',dz,cN,xK,pW,bG,ca,_⟩
  .cases au
  cases bG;obtain⟨cr,du⟩:=kd.1 ca;exact⟨(iR.1 du).1,λe=>cr (e▸vZ)⟩,lv⟩
 exact⟨s,λγ k=>ai γ k,ae,hm,pi,nn,gM⟩
def Qc{K:Kp}{w0 w:World}{phx:cd}{M:Nat->Prop}{B B':Nat->aU}{g:Nat->av}{t:ag}{x:t.aG}{b o n:Nat}(h:(FC t).a2 g B=some (x,B'))(hm:bK K w0 phx M B w)(hx:phx 3=some (b,o,n)):
  ∃aA,bK K w0 phx aA B' w/\co phx M B w phx aA B' w/\aA b/\B' 3=.fq/\∃c el fz,w.heap[b]?=some (.cells c el fz)/\c.size=n/\iA c fz/\aJ (view w aA) t x (cJ c o t.size)/\∀j,j≠3->(B' j).fN=true->∀z,phx j=some z->z.1≠b:=by
 simp only[FC,aw.a2]at h;have Y:=hm.blks 3;generalize aB:B 3=bl at h Y;cases bl<;>try(cases h;done)
 rename_i t' u;dsimp only at h;cases g5:ag.is t' t with
 |false=>rw[g5]at h;cases h
 |true=>
  rw[g5]at h;simp only[cond]at h;have ht:=eV g5;subst ht;obtain⟨b',dz,c,el,fz,bG,ca,cr,du,eW,lh⟩:=Y;rw[hx,kY,lk,lk]at bG;obtain⟨rfl,rfl,rfl⟩:=bG;obtain⟨y,cY,O,R⟩:=aw.cH h;obtain⟨fR,bE,e1,_,f1,f2⟩:=Jb O hm du;simp only[aw.a2]at R;have hb2:=bE.blks 3;generalize kN:cY 3=bl2 at R hb2;cases bl2<;>try(cases R;done)
  rename_i eF tD;dsimp only at R;cases uA:ag.is eF t' with
  |false=>rw[uA]at R;cases R
  |true =>rw[uA]at R;simp only[cond,aw.a2]at R;cases R;obtain⟨eC,mR,c2,Z_,aa0,dG,gz,le,uW,uX,q7⟩:=hb2;rw[hx,kY,lk,lk]at dG;obtain⟨rfl,rfl,_⟩:=dG;obtain⟨cq,aT⟩:=bE.fq 3;refine⟨fR,cq,e1.trans aT,q7,e6 _ _ _,c,el,fz,ca,rfl,eW,f2 rfl,λj ao qQ z bh e => ?_⟩;rw[eo _ _ ao]at qQ;exact bE.sep j 3 ao qQ (by rw[kN];rfl) z _ bh hx e
def atA {E : dl} (cb : ol P E) (jh : P.follows .mixedOrders = true)  {fn : Func} (hf : P.funcs[f]? = some fn) (sZ : (fn.name == "runtime.NumGoroutine") = false)
  (nv:Nat) (t:ag) (ts:List ag) (rs:List ez) (Y:fn.body.isSome=true):i2 P f ⟨t,ts,rs,HI E fn nv t ts rs⟩:=by
 refine⟨⟨fn,hf,Y,sZ⟩,?_⟩;intro w X b o c el fz x y vs r dL lv vZ hh aO x7 hx jd e2;have e2:HI E fn nv t ts rs (x,y)=some r:=e2;unfold HI at e2;cases je:fn.body with
 |none=>rw[je]at Y;cases Y
 |some Ct=>
  rw[je]at e2;simp only at e2;cases bV:Nat.ble fn.ntmps 1000000 with
  |false=>rw[bV]at e2;cases e2
  |true=>
   rw[bV]at e2;simp only[Pc,cond_false]at e2;have eD:fn.ntmps<=1000000:=by simpa using bV
   obtain⟨s,ai,ae,hm,pi,nn,gM⟩:=ahk (P:=P) dL lv vZ hh aO x7 hx jd fn.ntmps;rw[ai,ae]at e2;refine calls_of_wp hf je ?_
   let K:Kp:=⟨λk=>k<w.heap.size/\k≠b,X⟩
   have f':∀ax phx' aA w' a',((sN E t rs fn.results.toList ax).bind aS.leaf).bI=some r->gd K w (dY Ct) s (λj=>if j=3 then some (b,o,c.size) else none) X w { tmps:=(Value.pointer (some ⟨b,o,none⟩)::vs).toArray++Array.replicate (fn.ntmps-(Value.pointer (some ⟨b,o,none⟩)::vs).toArray.size) undef,defers:=[] } ax phx' aA w' a' ->
     a'.defers=[]/\∃v,(results fn a'.tmps).run P w'=.ok v w'/\∃bY,Ending.returned v=.returned bY/\E7 w X b o c.size w' t r.1 rs r.2 bY:=by
    intro ax phx' aA w' a' ap am;unfold sN at ap;rw[aS.fw]at ap;obtain⟨nB,us,bG,ca,cr⟩:=yH cb.b6 ap am.hR am.slots;rw[aS.fw]at bG;obtain⟨z,wr,dG,gz⟩:=pd bG;have Ae:phx' 3=some (b,o,c.size):=(am.ext.pl 3 (by rw[show s.aW 3=.box t (.sc t x) by rw[<- ae];rfl];rfl)).trans (if_pos rfl);obtain⟨c',cq,aT,bD,b1,cN,xK,pW,dy,gb,gN,j9,kP⟩:=Qc dG am.hR Ae;rw[aS.fw]at gz;rw[<- aR.nW]at cq aT b1 kP;have x_:ll phx' c' (ax.em wr).aW (λk=>k=b):=by
     refine⟨λj ao y bs Tx => ?_,λk ap=>ap▸bD⟩;by_cases GO:j=3
     .subst GO;rw[b1]at ao;cases ao
     exact kP j GO ao y bs Tx
    obtain⟨ain,jt,vm,du,g7,WG,St,u_⟩:=Ea (K:=K) (w0:=w) gz cq (ca.ext aT) x_;cases du;refine⟨am.keep.2.1,jI us,wP cr,jI us,rfl,jt,g7.os,g7.tape,g7.output,g7.size,λk ap mM=>g7.keep k ⟨ap,mM⟩,λk ap => ?_,g7.mlt,⟨cN,xK,pW,dy,gb,gN,j9.mono WG⟩,us,u_.lo ?_,rfl⟩
    .by_cases mM:k=b
     .subst mM;exact⟨λ_=>vZ,λ_=>St k rfl⟩
     exact g7.hid k ⟨ap,mM⟩
    intro k qP dC ap;exact qP ⟨ap,dC⟩
   refine pr (P:=P) (w0:=w) (K:=K) (inl:=true) cb.b6 cb.C cb.M ⟨cb.G,cb.K,λ_=>gM,λf s h=>⟨cb.X f s h,gM⟩,cb.P,λf s h=>⟨cb.Q f s h,gM⟩⟩ cb.I jh (λh=>by cases h) eD Ct s (t.aG×eq rs) _ r e2 (λj=>if j=3 then some (b,o,c.size) else none) X w _ hm pi nn _ (λax phx' aA w' a' ap am => ?_) (λid ax phx' aA w' a' ap am => ?_) (λy w' a' ap aI aM=>by cases ap)
   .exact f' ax phx' aA w' a' (by rw[k1];exact ap) am
   replace ap:((bif Nat.beq id iU then sN E t rs fn.results.toList ax else .fail:aS (t.aG×eq rs))).bI=some r:=ap;cases Y:Nat.beq id iU with
   |false=>rw[Y]at ap;cases ap
   |true =>rw[Y,cond_true]at ap;unfold md;rw[if_pos (fP Y)];exact f' ax phx' aA w' a' (by rw[k1];exact ap) am
def i2.congr{t:ag}{ts:List ag}{rs:List ez}{m ml:t.aG×h3 ts->Option (t.aG×eq rs)}(h:i2 P f ⟨t,ts,rs,m⟩)(az:∀x,m x=ml x):i2 P f ⟨t,ts,rs,ml⟩:=by
 have:m=ml:=funext az
 grind
def jR(f:Nat)(s:i3):yl [] f=some s->i2 P f s:=λh=>by cases h
def ik{l:List (Nat×i3)}(h:∀f s,yl l f=some s->i2 P f s){rc:i3}(aq:i2 P f0 rc):∀f s,yl ((f0,rc)::l) f=some s->i2 P f s:=by
 intro f s ae;simp only[yl]at ae;cases Y:Nat.beq f0 f with
 |true=>rw[Y]at ae;cases ae;rw[<- fP Y];exact aq
 |false=>rw[Y]at ae;exact h f s ae
def aY(f:Nat)(g:gA):uI [] f=some g->kF P f g:=λh=>by cases h
def gy{l:List (Nat×gA)}(h:∀f g,uI l f=some g->kF P f g){g0:gA}(aq:kF P f0 g0):∀f g,uI ((f0,g0)::l) f=some g->kF P f g:=by
 intro f g ae;simp only[uI]at ae;cases Y:Nat.beq f0 f with
 |true=>rw[Y]at ae;cases ae;rw[<- fP Y];exact aq
 |false=>rw[Y]at ae;exact h f g ae
def aX(f:Nat)(s:ff):uH [] f=some s->hb P f s:=λh=>by cases h
def ay{l:List (Nat×ff)}(h:∀f s,uH l f=some s->hb P f s){rc:ff}(aq:hb P f0 rc):∀f s,uH ((f0,rc)::l) f=some s->hb P f s:=by
 intro f s ae;simp only[uH]at ae;cases Y:Nat.beq f0 f with
 |true=>rw[Y]at ae;cases ae;rw[<- fP Y];exact aq
 |false=>rw[Y]at ae;exact h f s ae
def hb.congr{ts:List ag}{rs:List ez}{m ml:h3 ts->Option (eq rs)}(h:hb P f ⟨ts,rs,m⟩)(az:∀x,m x=ml x):hb P f ⟨ts,rs,ml⟩:=by
 have:m=ml:=funext az
 grind
end Yp
namespace Yp
open Go Go.ChangeShapes Go.WideShapes Go.ChangeAt Go.RowKit
def eS:=@Nat.zero_le
def ru:=@List.length_range
def Xc:=@Option.bind_eq_some_iff
variable {P:Program} {H:Type} {enc:TypeId×Value->H}
def Cu{t:ag}{tid:TypeId}(h:(cT P t).1 tid):P.cellsOf tid=t.size:=by obtain⟨i,O,R,_⟩:=nV h;simp[Program.cellsOf,O,R]
def amB{w:World}{base:Nat}{a:Addr}{n:Nat}{cs:List Value}(h:w.cells? base a n=some cs)(am:0<n)(ae:a.spot=none):
  ∃c el fz,w.heap[a.block]?=some (.cells c el fz)/\a.off+n<=c.size/\cs=cJ c a.off n:=by
 unfold World.cells? at h;split at h
 .have b9:=mapM_some_length h
  have LI:=mapM_some_get h;simp at b9;have abK:∀i,a.add i=⟨a.block,a.off+i,none⟩:=λi=>by obtain⟨b,o,s⟩:=a;simp only at ae;subst ae;exact qB b o i
  have df:∀i,i<n->w.cell? ⟨a.block,a.off+i,none⟩=cs[i]?:=λi ac=>by
   grind
  have aq:=df 0 am;rw[kg J]at aq;cases Y:w.heap[a.block]? with
  |none=>simp[World.cell?,Y]at aq
  |some ob=>
   cases ob with
   |cells c el fz=>
    have ah:∀i,i<n->c[a.off+i]?=cs[i]?:=λi ac=>by rw[<- df i ac,KH Y]
    have bV:a.off+n<=c.size:=by
     have:=ah (n-1) J
     grind
    refine⟨c,el,fz,rfl,bV,?_⟩;apply xm;intro i;by_cases ac:i<n
    .rw[wR ac,ah i ac]
    have hl:=qh bV
    grind
   |_=>simp[World.cell?,Y]at aq
 cases h
def T5{α:Type}{p:Nat->α->Prop}:∀(n:Nat),(∀i,i<n->∃x,p i x)->∃l:List α,l.length=n/\∀i x,ij l i=some x->p i x
 |0,_=>⟨[],rfl,λi x h=>by simp[ij]at h⟩
 |n+1,h=>by
  obtain⟨l,O,R⟩:=T5 n λi ac=>h i J;obtain⟨x,hx⟩:=h n J;refine⟨l++[x],by simp[O],λi y bs => ?_⟩;simp only[ij]at bs;by_cases ac:i<n
  .rw[vu J]at bs;exact R i y bs
  rw[o7 J]at bs;have:i=n:=by
   rcases J7 (i-l.length) 1 with h|h
   .omega
   rw[nG (by simpa using h)]at bs;cases bs
  subst this;rw[O]at bs;simp at bs;rw[<- bs];exact hx
def u2:ag->Bool
 |.sl e=>Nat.blt 0 e.size&&u2 e|.pair a b=>u2 a&&u2 b|.ar _ e=>u2 e|.op _=>false|.fn _=>false|_=>true
def q5:(t:ag)->t.aG->Prop
 |.int k,x=>k.min<=bH.to k x/\bH.to k x<=k.max
 |.sl e,l=>(l:List e.aG).length<=maxLen/\∀(i:Nat) (x:e.aG),ij (α:=e.aG) l i=some x->q5 e x
 |.ar n e,l=>(l:List e.aG).length=n/\∀(i:Nat) (x:e.aG),ij (α:=e.aG) l i=some x->q5 e x
 |.pair a b,x=>q5 a x.1/\q5 b x.2
 |.bool,_=>True
 |.str,_=>True
 |.unit,_=>True
 |.op _,_=>True
 |.fn _,_=>True
def DQ:(ts:List ag)->h3 ts->Prop
 |[],_=>True
 |t::ts,x=>q5 t x.1/\DQ ts x.2
def Jg{w:World}{base:Nat}{mu:Nat->Bool}{held:Bool}:∀(t:ag),u2 t=true->(∀(tid:TypeId) (gY:Nat) (cs:List Value) (x:DataW H×List MemPlace),(cT P t).1 tid->DataW.trod enc P w base mu held gY tid cs=some x->∃d:t.aG,aJ (full w) t d cs/\q5 t d) /\
  ∀(l:List Field) (off gY:Nat) (cs:List Value),(cT P t).2 l off->cs.length=off+t.size->(∀f∈l,∃x,DataW.trod enc P w base mu held gY f.type ((cs.drop f.offset).take (P.cellsOf f.type))=some x)->∃d:t.aG,aJ (full w) t d (cs.drop off)/\q5 t d
 |.op _,hp=>by cases hp
 |.fn _,hp=>by cases hp
 |.bool,_=>by refine⟨λtid gY cs x hf h => ?_,λl off gY cs hf=>hf.elim⟩;obtain⟨b,rfl,_⟩:=DataW.trod_bool hf.1 h;exact⟨(b:Bool),aJ.oA.2 rfl,trivial⟩
 |.int k,_=>by
  refine⟨λtid gY cs x hf h => ?_,λl off gY cs hf=>hf.elim⟩;obtain⟨n,rfl,_,bu⟩:=DataW.trod_int hf.1 h;have Y:k.min<=n/\n<=k.max:=by simpa[Lit.wf]using bu
  have az:bH.to k (bH.lit k n)=n:=bH.T6 k n λaM=>⟨by cases k<;>simp_all[EN,IntKind.min,IntKind.signed],Y.2⟩;refine⟨bH.lit k n,aJ.jl.2 (by rw[az]),?_⟩;simp only[q5];rw[az];exact Y
 |.str,_=>by refine⟨λtid gY cs x hf h => ?_,λl off gY cs hf=>hf.elim⟩;obtain⟨s,rfl,_⟩:=DataW.trod_string hf.1 h;exact⟨(s.data.toList:List UInt8),aJ.tv.2 bf,trivial⟩
 |.sl e,hp=>by
  refine⟨λtid gY cs x hf h => ?_,λl off gY cs hf=>hf.elim⟩;obtain⟨⟨bd,aM,az⟩,_⟩:=hf;simp only[u2,cM,Xd]at hp;rcases DataW.trod_slice aM h with⟨rfl,_⟩|⟨a,len,cap,elems,rest,n,_,rfl,_,O,R,ai,au,a4,_⟩
  .exact⟨([]:List e.aG),aJ.iL.2 ⟨none,0,rfl,bX _,by unfold maxLen;omega,.inl rfl⟩,eS _,λi x h=>by simp[ij]at h⟩
  have hcell:=Cu az;rw[hcell]at a4;by_cases hl:len=0
  .subst hl
   exact⟨([]:List e.aG),aJ.iL.2 ⟨some a,cap,rfl,R,ai,.inl rfl⟩,eS _,λi x h=>by simp[ij]at h⟩
  have h7:a.spot=none:=by
   have:=a4 0 J;rw[kg J,Xc]at this;obtain⟨q,a_,_⟩:=this;unfold World.cells? at a_;split at a_
   .have hg:=mapM_some_get a_ 0 0 (by simp[hp.1])
    have arw:=mapM_some_length a_;simp only[ru]at arw;rw[kg J]at hg;have bc:((a.add (0*e.size)).add 0)=a:=by simp[Addr.add]
    rw[bc]at hg;cases ae:a.spot with
    |none=>rfl
    |some s =>simp only[World.cell?,ae]at hg;split at hg<;>simp at hg
   cases a_
  have abK:∀i,a.add (i*e.size)=⟨a.block,a.off+i*e.size,none⟩:=λi=>by obtain⟨b,o,s⟩:=a;simp only at h7;subst h7;exact qB b o _
  have key:∀i,i<len->∃x:e.aG,∃c el fz,w.heap[a.block]?=some (.cells c el fz)/\a.off+i*e.size+e.size<=c.size/\aJ (full w) e x (cJ c (a.off+i*e.size) e.size)/\q5 e x:=λi ac=>by have:=a4 i ac;rw[kg J,Xc]at this;obtain⟨q,a_,aI⟩:=this;rw[abK]at a_;obtain⟨c,el,fz,bj,bm,rfl⟩:=amB a_ hp.1 rfl;obtain⟨d,aI⟩:=(Jg e hp.2).1 bd n _ _ az aI;exact⟨d,c,el,fz,bj,bm,aI⟩
  obtain⟨_,c,el,fz,bj,_,_⟩:=key 0 J;have ac1:∀i,i<len->∃x:e.aG,a.off+i*e.size+e.size<=c.size/\aJ (full w) e x (cJ c (a.off+i*e.size) e.size)/\q5 e x:=λi ac=>by obtain⟨x,cN,xK,pW,bD,b1,dy⟩:=key i ac;rw[bj]at bD;cases bD;exact⟨x,b1,dy⟩
  obtain⟨l,fk,gO⟩:=T5 len ac1;have oI:a.off+len*e.size<=c.size:=by
   obtain⟨x,b1,_⟩:=ac1 (len-1) J;have:len*e.size=(len-1)*e.size+e.size:=by
    conv=>lhs;rw[show len=(len-1)+1 by omega,f9,Nat.one_mul]
   omega
  obtain⟨b,o,s⟩:=a;simp only at h7;subst h7;exact⟨(l:List e.aG),aJ.iL.2 ⟨_,cap,by rw[fk],by rw[fk];exact R,ai,.inr ⟨b,o,c,el,fz,rfl,bj,by rw[fk];exact oI,λi x ac=>(gO i x ac).2.1⟩⟩,by show l.length<=_;rw[fk];omega,λi x ac=>(gO i x ac).2.2⟩
 |.unit,_=>by refine⟨λtid gY cs x hf h => ?_,λl off gY cs hf hl _=>⟨(),aJ.BF.2 (lJ.1 (by rw[ep,hl];simp[ag.size])),trivial⟩⟩;obtain⟨⟨fp,aM,qN⟩,ac⟩:=hf;obtain⟨fm,n,_,_,hl,_⟩:=DataW.trod_struct aM h;have ah:P.cellsOf tid=ag.unit.size:=Cu (t:=.unit) ⟨⟨fp,aM,qN⟩,ac⟩;exact⟨(),aJ.BF.2 (lJ.1 (by rw[hl,ah];rfl)),trivial⟩
 |.pair a b,hp=>by
  simp only[u2,cM]at hp;have agB:∀(l:List Field) (off gY:Nat) (cs:List Value),(cT P (.pair a b)).2 l off->cs.length=off+(ag.pair a b).size->(∀f∈l,∃x,DataW.trod enc P w base mu held gY f.type ((cs.drop f.offset).take (P.cellsOf f.type))=some x)->∃d:(ag.pair a b).aG,aJ (full w) (.pair a b) d (cs.drop off)/\q5 (.pair a b) d:=by intro l off gY cs hf hl hx;obtain⟨f,r,rfl,O,R,ai⟩:=hf;obtain⟨x,acF⟩:=hx f bf;rw[Cu R,O]at acF;obtain⟨amX,rI,arh⟩:=(Jg a hp.1).1 f.type gY _ _ R acF;simp only[ag.size]at hl;obtain⟨amZ,ap9,GV⟩:=(Jg b hp.2).2 r (off+a.size) gY cs ai J λvO GH=>hx vO (by simp[GH]);refine⟨(amX,amZ),aJ.mU.2 ⟨_,_,?_,rI,ap9⟩,arh,GV⟩;rw[<- su,vx]
  refine⟨λtid gY cs x hf h => ?_,agB⟩;have ah:=Cu hf;obtain⟨⟨fp,aM,f,r,e1,aT,dI,gX⟩,ac⟩:=hf;obtain⟨fm,n,rfl,_,hl,ya,hx⟩:=DataW.trod_struct aM h;have GI:(cT P (.pair a b)).2 fp.toList 0:=⟨f,r,e1,aT,dI,by simpa using gX⟩;obtain⟨d,aI⟩:=agB fp.toList 0 n cs GI (by rw[hl,ah];omega) λvO GH=>by
   obtain⟨i,ac,rfl⟩:=o3 GH;have eH:i<fp.size:=by simpa using ac
   have:=hx i fp[i] (tT eH);rw[kg J]at this;exact⟨_,by simpa using this⟩
  exact⟨d,by simpa using aI⟩
 |.ar n e,hp=>by
  refine⟨λtid gY cs x hf h => ?_,λl off gY cs hf=>hf.elim⟩;have ah:=Cu hf;obtain⟨⟨bd,aM,az⟩,_⟩:=hf;obtain⟨fm,m,rfl,_,hl,ya,hx⟩:=DataW.trod_array aM h;rw[Cu az]at hx;obtain⟨l,fk,gO⟩:=T5 (p:=λi (x:e.aG)=>aJ (full w) e x ((cs.drop (i*e.size)).take e.size)/\q5 e x) n λi ac=>by have:=hx i ac;rw[kg J]at this;exact(Jg e hp).1 bd m _ _ az this
  exact⟨(l:List e.aG),aJ.Cg.2 ⟨fk,by rw[hl,ah];rfl,λi x h=>(gO i x h).1⟩,fk,λi x h=>(gO i x h).2⟩
def ajt{w:World}{base:Nat}{mu:Nat->Bool}{held:Bool}{t:ag}(hp:u2 t=true){tid:TypeId}(hf:(cT P t).1 tid){r:Reach}{eB:Nat}{v:Value}{d:DataW H}{a5:List MemPlace}(lW:Value.okWide P w r eB tid v)(h:DataW.Trod enc P w base mu held tid v d a5):
  ∃(x:t.aG) (cs:List Value),v=cB t cs/\aJ (full w) t x cs/\q5 t x:=by
 obtain⟨gY,h⟩:=h;obtain⟨x,hx⟩:=(Jg t hp).1 tid gY _ _ hf h;refine⟨x,_,?_,hx⟩;cases t with
 |op k=>cases hp
 |fn k=>cases hp
 |bool=>obtain⟨b,rfl⟩:=okWide_bool hf.1 lW;rfl
 |int k=>obtain⟨n,rfl⟩:=okWide_int hf.1 lW;rfl
 |str=>obtain⟨s,rfl⟩:=okWide_string hf.1 lW;rfl
 |sl e=>obtain⟨⟨bd,aM,_⟩,_⟩:=hf;obtain⟨a,l,c,rfl⟩:=okWide_slice aM lW;rfl
 |unit=>obtain⟨⟨fp,aM,_⟩,_⟩:=hf;obtain⟨cs,rfl,_⟩:=okWide_struct aM lW;simp[cB,ag.isAgg,Value.cells]
 |pair a b=>obtain⟨⟨fp,aM,_⟩,_⟩:=hf;obtain⟨cs,rfl,_⟩:=okWide_struct aM lW;simp[cB,ag.isAgg,Value.cells]
 |ar n e =>obtain⟨⟨bd,aM,_⟩,_⟩:=hf;unfold Value.okWide at lW;rw[aM]at lW;obtain⟨cs,rfl,_⟩:=lW;simp[cB,ag.isAgg,Value.cells]
def RO(P:Program):List TypeId->List ag->Prop
 |[],[]=>True
 |i::is,t::ts=>((cT P t).1 i/\u2 t=true)/\RO P is ts
 |_,_=>False
def Lg(P:Program):List TypeId->List ag->Bool
 |[],[]=>true
 |i::is,t::ts=>((k6 P t).1 i&&u2 t)&&Lg P is ts
 |_,_=>false
def aaL:∀{is:List TypeId} {ts:List ag},Lg P is ts=true->RO P is ts
 |[],[],_=>trivial
 |i::is,t::ts,h=>by simp only[Lg,cM]at h;exact⟨⟨(ui t).1 i h.1.1,h.1.2⟩,aaL h.2⟩
def XL{w:World}{base:Nat}{mu:Nat->Bool}{held:Bool}{r:Reach}{eB:Nat}:∀{is:List TypeId} {ts:List ag} {vs:List Value} {ds:List (DataW H)} {a5:List MemPlace},RO P is ts->(∀(j:Nat) t v,is[j]?=some t->vs[j]?=some v->Value.okWide P w r eB t v) ->
  DataW.TrodAll enc P w base mu held is vs ds a5->∃x:h3 ts,pB (full w) ts x vs/\DQ ts x
 |[],[],[],[],_,_,_,_=>⟨(),rfl,trivial⟩
 |i::is,t::ts,v::vs,d::ds,a5,hf,aD,h=>by obtain⟨p,q,O,R,_⟩:=h;obtain⟨x,cs,e1,aT,dI⟩:=ajt hf.1.2 hf.1.1 (aD 0 i v rfl rfl) O;obtain⟨y,bs,ar2⟩:=XL hf.2 (λj t v ao azV=>aD (j+1) t v (by grind) (by grind)) R;exact⟨(x,y),⟨cs,vs,by rw[e1],aT,bs⟩,dI,ar2⟩
def ahT{W gg:World}{ahb:Nat->Bool}(hl:laidOutB P=true):∀{is:List TypeId} {vs:List Value} {ds:List (DataW H)} {a5:List MemPlace},(is.all λt=>P.readableRec t&&Nat.blt t P.types.size)=true ->
  DataW.TrodAll enc P W 0 (λ_=>true) true is vs ds a5->(∀p∈a5,W.sameAt gg p)->(∀p∈a5,ahb p.block=true)->DataW.TrodAll enc P gg 0 ahb true is vs ds a5
 |[],[],[],_,_,h,_,_=>h
 |t::is,v::vs,d::ds,a5,aj,h,ae,h7=>by obtain⟨p,q,O,R,rfl⟩:=h;simp at aj;exact⟨p,q,WideElems.Trod_stays hl aj.1.1 aj.1.2 O (λx hx=>ae x (by grind)) (λx hx=>h7 x (by grind)),ahT hl (by simpa using aj.2) R (λx hx=>ae x (by grind)) (λx hx=>h7 x (by grind)),rfl⟩
def au3{f:Func}{s:ChangeSpec}{apart uk apJ ajb:Bool}{W gg:World}{args:Array Value}{v:Value}{ds ls:List (DataW H)}{before pa pv:List MemPlace}
  (hW:DataW.Whole enc P f.params.toList s.vars apart W args.toList ds ls before)
  (wb:∀(b:Nat) (mu:Nat->Bool) (aI:Bool),DataW.TrodAll enc P gg b mu aI f.resultTypes.toList (v.resultList f.resultTypes.size) (s.fn H (ds++ls)).results [])
  (jd:∀mu:Nat->Bool,(∀p∈before,mu p.block=true)->DataW.TrodAll enc P gg 0 mu true f.params.toList args.toList (s.fn H (ds++ls)).args pa)
  (G7:∀mu:Nat->Bool,(∀p∈before,mu p.block=true)->DataW.TrodVars enc P gg mu s.vars (s.fn H (ds++ls)).vars pv)
  (dm:before=pa++pv) (Y:Below W.heap.size W gg)
  (gn:∀(j:Nat) (t:TypeId) (r:Value),f.resultTypes[j]?=some t->(v.resultList f.resultTypes.size)[j]?=some r->Value.okWide P gg .any 0 t r) :
  s.post enc P f apart uk apJ ajb W args v gg:=by
 have bi:∀p∈before,p.block<W.heap.size:=λp hp=>hW.lt p hp;have hold:∀p∈before,(λb=>decide (b<W.heap.size)) p.block=true:=λp hp=>by simpa using bi p hp
 refine⟨ds,ls,before,[],pa,pv,hW,wb _ _ _,jd _ hold,G7 _ hold,World.keptBut_mono (λp hp=>⟨hp,?_⟩) (Y.frame (·∈before)),λ_ => ?_⟩
 .rw[dm,iQ]at hp
  exact Or.inr hp
 obtain⟨_,_,_,_,_,bh,am⟩:=hW;refine⟨gn,_,_,([]++pa)++pv,⟨[]++pa,pv,trodAll_append (jd _ (λ_ _=>rfl)) (wb _ _ _),G7 _ (λ_ _=>rfl),rfl,?_,?_⟩,?_⟩
 .intro b off hp
  have fb:MemPlace.cell b off∈before:=by rw[dm];simpa using hp
  rw[Y.frozen (bi _ fb)];exact bh b off fb
 .intro bc
  have:=am bc;rw[dm]at this;simpa using this
 intro p hp _;rw[dm];simpa using hp
def T0{fn:Func}{ts:List ag}{m:h3 ts->Option (eq [.im .bool])}{s:ChangeSpec}(gn:hb P F ⟨ts,[.im .bool],m⟩)(hi:Lg P fn.params.toList ts=true)(hl:laidOutB P=true)
  (arx:(fn.params.toList.all λt=>P.readableRec t&&Nat.blt t P.types.size)=true) {bt:TypeId} (wb:fn.resultTypes=#[bt]) (uu:P.underlying bt=some .bool) (G7:s.vars=[]) {apart:Bool}
  {W:World} {base:Nat} {args:Array Value} {ds ls:List (DataW H)} {before:List MemPlace} (hfn:ds.length=fn.params.size->(s.fn H (ds++ls)).results=[.lit (.bool true)]/\(s.fn H (ds++ls)).args=ds/\(s.fn H (ds++ls)).vars=[])
  (lW:∀(j:Nat) t v,fn.params[j]?=some t->args[j]?=some v->Value.okWide P W .any base t v) (hW:DataW.Whole enc P fn.params.toList s.vars apart W args.toList ds ls before)
  (lv:ly P (full W)) (arN:∀x:h3 ts,DQ ts x->m x=some (true,())) :
  Calls P F args W λe gg=>∃v,e=.returned v/\s.post enc P fn apart true false false W args v gg:=by
 have abI:=hW;obtain⟨p,q,dJ,hV,S?,x7,h6⟩:=hW;have b9:ds.length=fn.params.size:=by
  have:∀(is:List TypeId) (vs:List Value) (ds:List (DataW H)) (a5:List MemPlace),DataW.TrodAll enc P W 0 (λ_=>true) true is vs ds a5->ds.length=is.length:=by
   intro is;induction is with
   |nil=>intro vs ds a5 h;cases vs<;>cases ds<;>first|rfl|exact h.elim
   |cons i is ih=>
    intro vs ds a5 h;cases vs<;>cases ds<;>first|exact h.elim|skip
    obtain⟨_,_,_,R,_⟩:=h;simp[ih _ _ _ R]
  have:=this _ _ _ _ dJ;simpa using this
 obtain⟨f1,f2,f3⟩:=hfn b9;obtain⟨x,hx,arm⟩:=XL (aaL hi) (λj t v ao aD=>lW j t v (by simpa using ao) (by simpa using aD)) dJ;have a_:q=[]:=by
  rw[G7]at hV;cases ls with
  |nil=>exact hV
  |cons=>exact hV.elim
 subst a_;have z2:(full W).cc (view W λ_=>False):=λb o Y=>kd.2 ⟨λh=>h,Y⟩;have ah:=gn.2 W (λ_=>False) x args.toList (true,()) (λ_ h=>h.elim) (lv.mono λb o Y=>kd.2 ⟨λh=>h,Y⟩) (hx.mono z2) (arN x arm);rw[Array.toArray_toList]at ah;refine ah.mono ?_;rintro e gg ⟨bY,rfl,aA,bD,b1,dy,gb,gN,j9,kP,us,kQ,rfl⟩;obtain⟨cs,tE,rfl,ek,e8⟩:=kQ;have arV:tE=[]:=e8;subst arV;have mi:=aJ.oA.1 ek;subst mi;have Y:Below W.heap.size W gg:=⟨bD,b1,dy,gb,gN⟩;refine⟨.bool true,rfl,?_⟩;refine au3 (pa:=p) (pv:=[]) abI (λb mu aI => ?_) (λmu h7 => ?_) (λmu _ => ?_) S? Y ?_
 .rw[wb,f1]
  exact trodAll_cons_mk (p:=[]) (shut_bool uu true) trodAll_mk0
 .rw[f2]
  refine ahT hl arx dJ (λy bs=>Y.same (by have:=abI.lt y (by rw[S?];simpa using bs);exact this)) λy bs=>h7 y (by rw[S?];simpa using bs)
 .rw[G7,f3];rfl
 exact ok_one wb rfl (okWide_bool_mk uu true)
end Yp
namespace Yp
open Go
variable {P:Program}
def vn.congr{bd:Nat}{t:ag}{ts:List ag}{rs:List ez}{m ml:t.aG×h3 ts->Option (t.aG×Nat×eq rs)}(h:vn P f bd t ts rs m)(az:∀x,m x=ml x):vn P f bd t ts rs ml:=by have:m=ml:=funext az;rw[<- this];exact h
def atC {E : dl} (cb : ol P E) (jh : P.follows .mixedOrders = true)  {fn : Func} (hf : P.funcs[f]? = some fn) (sZ : (fn.name == "runtime.NumGoroutine") = false)
  (nv:Nat) (t:ag) (ts:List ag) (rs:List ez) (Y:fn.body.isSome=true) {m bd:Nat} (mO:E.Pn=some (m,bd)):vn P f bd t ts rs (Mv E fn nv t ts rs):=by
 refine⟨⟨fn,hf,Y,sZ⟩,?_⟩;intro w X b o c el fz x y vs r dL lv vZ hh aO x7 hx jd e2;have e2:Mv E fn nv t ts rs (x,y)=some r:=e2;unfold Mv at e2;cases je:fn.body with
 |none=>rw[je]at Y;cases Y
 |some Ct=>
  rw[je]at e2;simp only at e2;cases bV:Nat.ble fn.ntmps 1000000 with
  |false=>rw[bV]at e2;cases e2
  |true=>
   rw[bV]at e2;simp only[Pc,cond_false]at e2;have eD:fn.ntmps<=1000000:=by simpa using bV
   obtain⟨s,ai,ae,hm,pi,nn,gM⟩:=ahk (P:=P) dL lv vZ hh aO x7 hx jd fn.ntmps;rw[ai,ae]at e2;refine calls_of_wp hf je ?_
   let K:Kp:=⟨λk=>k<w.heap.size/\k≠b,X⟩
   have f':∀ax phx' aA w' a',((sN E t rs fn.results.toList ax).bind λz=>.leaf (z.1,0,z.2)).bI=some r->gd K w (dY Ct) s (λj=>if j=3 then some (b,o,c.size) else none) X w { tmps:=(Value.pointer (some ⟨b,o,none⟩)::vs).toArray++Array.replicate (fn.ntmps-(Value.pointer (some ⟨b,o,none⟩)::vs).toArray.size) undef,defers:=[] } ax phx' aA w' a' ->
     a'.defers=[]/\∃v,(results fn a'.tmps).run P w'=.ok v w'/\∃bY,Ending.returned v=.returned bY/\(r.2.1=0/\E7 w X b o c.size w' t r.1 rs r.2.2 bY):=by
    intro ax phx' aA w' a' ap am;unfold sN at ap;rw[aS.fw]at ap;obtain⟨nB,us,bG,ca,cr⟩:=yH cb.b6 ap am.hR am.slots;rw[aS.fw]at bG;obtain⟨z,wr,dG,gz⟩:=pd bG;have Ae:phx' 3=some (b,o,c.size):=(am.ext.pl 3 (by rw[show s.aW 3=.box t (.sc t x) by rw[<- ae];rfl];rfl)).trans (if_pos rfl);obtain⟨c',cq,aT,bD,b1,cN,xK,pW,dy,gb,gN,j9,kP⟩:=Qc dG am.hR Ae;rw[aS.fw]at gz;rw[<- aR.nW]at cq aT b1 kP;have x_:ll phx' c' (ax.em wr).aW (λk=>k=b):=by
     refine⟨λj ao y bs Tx => ?_,λk ap=>ap▸bD⟩;by_cases GO:j=3
     .subst GO;rw[b1]at ao;cases ao
     exact kP j GO ao y bs Tx
    obtain⟨ain,jt,vm,du,g7,WG,St,u_⟩:=Ea (K:=K) (w0:=w) gz cq (ca.ext aT) x_;cases du;refine⟨am.keep.2.1,jI us,wP cr,jI us,rfl,rfl,jt,g7.os,g7.tape,g7.output,g7.size,λk ap mM=>g7.keep k ⟨ap,mM⟩,λk ap => ?_,g7.mlt,⟨cN,xK,pW,dy,gb,gN,j9.mono WG⟩,us,u_.lo ?_,rfl⟩
    .by_cases mM:k=b
     .subst mM;exact⟨λ_=>vZ,λ_=>St k rfl⟩
     exact g7.hid k ⟨ap,mM⟩
    intro k qP dC ap;exact qP ⟨ap,dC⟩
   have aaB:∀ax phx' aA w' a',((sN E t rs fn.results.toList ax).bind λz=>.leaf (z.1,0,z.2)).bI=some r->gd K w (dY Ct) s (λj=>if j=3 then some (b,o,c.size) else none) X w { tmps:=(Value.pointer (some ⟨b,o,none⟩)::vs).toArray++Array.replicate (fn.ntmps-(Value.pointer (some ⟨b,o,none⟩)::vs).toArray.size) undef,defers:=[] } ax phx' aA w' a' ->
     a'.defers=[]/\∃v,(results fn a'.tmps).run P w'=.ok v w'/\((r.2.1=0/\∃bY,Ending.returned v=.returned bY/\E7 w X b o c.size w' t r.1 rs r.2.2 bY)\/(r.2.1≠0/\Ending.returned v=.panicked [{ v:=.iface bd (.int .i64 (r.2.1:Int)),recovered:=false }]/\Xq w X b o c.size w' t r.1)):=by
    intro ax phx' aA w' a' ap am;obtain⟨O,v,R,bY,ai,au,a4⟩:=f' ax phx' aA w' a' ap am;exact⟨O,v,R,.inl ⟨au,bY,ai,a4⟩⟩
   refine pr (P:=P) (w0:=w) (K:=K) (inl:=true) cb.b6 cb.C cb.M ⟨cb.G,cb.K,λ_=>gM,λf s h=>⟨cb.X f s h,gM⟩,cb.P,λf s h=>⟨cb.Q f s h,gM⟩⟩ cb.I jh (λh=>by cases h) eD Ct s (t.aG×Nat×eq rs) _ r e2 (λj=>if j=3 then some (b,o,c.size) else none) X w _ hm pi nn _ (λax phx' aA w' a' ap am => ?_) (λid ax phx' aA w' a' ap am => ?_) (λy w' a' ap aI aM=>by cases ap)
   .exact aaB ax phx' aA w' a' ap am
   replace ap:((bif Nat.beq id iU then(sN E t rs fn.results.toList ax).bind λz=>.leaf (z.1,0,z.2) else bif Nat.blt hG id then(aw.jf ax (FC t)).bind λz=>.leaf (z.1,id-hG,y9 rs) else .fail:aS (t.aG×Nat×eq rs))).bI=some r:=ap;cases Y:Nat.beq id iU with
   |true =>rw[Y,cond_true]at ap;unfold md;rw[if_pos (fP Y)];exact aaB ax phx' aA w' a' ap am
   |false=>
    rw[Y,cond_false]at ap;cases hp:Nat.blt hG id with
    |false=>rw[hp]at ap;cases ap
    |true=>
     rw[hp,cond_true]at ap;have bi:hG<id:=by simpa using hp
     obtain⟨z,wr,dG,gz⟩:=pd ap;have Ae:phx' 3=some (b,o,c.size):=(am.ext.pl 3 (by rw[show s.aW 3=.box t (.sc t x) by rw[<- ae];rfl];rfl)).trans (if_pos rfl);obtain⟨c',cq,aT,bD,b1,cN,xK,pW,dy,gb,gN,j9,kP⟩:=Qc dG am.hR Ae;cases gz;obtain⟨k,rfl⟩:∃k,id=hG+k:=⟨id-hG,J⟩;rw[K9 mO];refine⟨am.keep.2.1,.inr ⟨by show hG+k-hG≠0;omega,by show Ending.panicked _=Ending.panicked [{ v:=.iface bd (.int .i64 ((hG+k-hG:Nat):Int)),recovered:=false }];rw[qA],c',cq.os,cq.tape,cq.output,cq.size,λk ap mM=>cq.keep k ⟨ap,mM⟩,λk ap => ?_,cq.mlt,⟨cN,xK,pW,dy,gb,gN,j9⟩⟩⟩;by_cases mM:k=b
     .subst mM;exact⟨λ_=>vZ,λ_=>bD⟩
     exact cq.hid k ⟨ap,mM⟩
end Yp
namespace Yp
open Go
variable {P:Program}
def Us{a:Array Operand}(h:AE a.toList=true):a=#[]:=by
 apply B1;cases bc:a.toList with
 |nil=>rfl
 |cons x l=>rw[bc]at h;cases h
def am3{D:Code}{q:Nat×Nat×List Operand}(h:FV D=some q):∃id ops xB dW dG cK d? eF gz cU,D=.region id ops false/\q.2.2=xB.toList /\
  ops.toList=[⟨some q.1,.makeFunc (.func q.2.1) #[] xB,dW,dG,cK,none⟩,⟨none,.defer ⟨.value (.tmp q.1), #[],d?⟩,eF,gz,cU,none⟩]:=by
 cases D<;>try(cases h;done)
 rename_i id ops dx;simp only[FV]at h;cases dx with
 |true=>cases h
 |false=>
  split at h
  .rename_i d F first xB dW dG cK xH args d? eF gz cU lU
   cases Y:(Nat.beq d xH&&(AE first.toList&&AE args.toList)) with
   |false=>rw[Y]at h;cases h
   |true=>
    simp only[cM]at Y;have:=fP Y.1;rw[Us Y.2.1,Us Y.2.2]at lU
    grind
  cases h
def axM{c:Code}{p:Nat×Code}(h:I6 c=some p):∃id ops d? dW dG cK,c=.seq (.region id ops false) p.2/\ops.toList=[⟨some p.1,.call ⟨.builtin .recover, #[],d?⟩,dW,dG,cK,none⟩]:=by
 unfold I6 at h;split at h
 .rename_i id ops b
  split at h
  .rename_i d args d? dW dG cK lU
   cases Y:AE args.toList with
   |false=>rw[Y]at h;cases h
   |true =>rw[Y,cond_true]at h;cases h;rw[Us Y]at lU;exact⟨_,_,_,_,_,_,rfl,lU⟩
  cases h
 cases h
def ahf{E:dl}{rs:List ez}{res:List ResultVar}{nv nt:Nat}{inl:Bool}{K:Kp}{w0:World}(a2:∀c:Code,B4 P K w0 E rs res nv nt inl c):∀(c A B:Code) (q:Nat×Nat×List Operand),yO c=some (A,q,B) ->
  ∀(s:aR) (ρ:Type) (k:ki (eq rs)->aS ρ) (r:ρ),((run E rs res nv nt inl A s).bind k).bI=some r->∀(phx:cd) (M:Nat->Prop) (w:World) (a:Act),bK K w0 phx M s.aW w->dE phx (view w M) s.aW s.bW a->nt<=a.tmps.size ->
  ∀(Q:Exit->Act->World->Prop),
   (∀D JB ax phx' aA w' a',FV D=some q->(k (.nx ax)).bI=some r->gd K w0 JB s phx M w a ax phx' aA w' a'->(Code.seq D B).wp P Q a' w') ->
   (∀id ax,(k (.ex id ax)).bI=none)->(∀x,(k (.rt x)).bI=none)->c.wp P Q a w
 |.seq x y,A,B,q,h7,s,ρ,k,r,h,phx,M,w,a,hm,ae,gI,Q,O,R,ai=>by
  simp only[yO]at h7;cases aI:FV x with
  |some M1 =>rw[aI]at h7;cases h7;simp only[run]at h;exact O x [] s phx M w a aI h (gd.refl hm ae)
  |none=>
   rw[aI]at h7;simp only at h7;cases bs:yO y with
   |none=>rw[bs]at h7;cases h7
   |some p=>
    rw[bs]at h7;obtain⟨O7,M1,B'⟩:=p;cases h7;simp only[run]at h;rw[aS.fw]at h;refine wp_seq (a2 x s ρ _ r h phx M w a hm ae gI _ (λax phx' aA w' a' ap am => ?_) (λid ax phx' aA w' a' ap am => ?_) (λv w' a' ap aI aM => ?_))
    .exact ahf a2 y _ _ _ bs ax ρ k r ap phx' aA w' a' am.hR am.slots (by rw[am.keep.1];exact gI) Q (λD JB d_ jF jt ft dj jv fy lx=>O D (dY x++JB) d_ jF jt ft dj jv fy (am.trans lx (λt h=>B2 _ h) (λt h=>qy _ h))) R ai
    .exact absurd (ap.symm.trans (R id ax)) bf
    exact absurd (ap.symm.trans (ai v)) bf
 |.skip,A,B,q,h,_,_,_,_,_,_,_,_,_,_,_,_,_,_,_,_=>by cases h
 |.label _,A,B,q,h,_,_,_,_,_,_,_,_,_,_,_,_,_,_,_,_=>by cases h
 |.region _ _ _,A,B,q,h,_,_,_,_,_,_,_,_,_,_,_,_,_,_,_,_=>by cases h
 |.cond _ _ _,A,B,q,h,_,_,_,_,_,_,_,_,_,_,_,_,_,_,_,_=>by cases h
 |.block _ _,A,B,q,h,_,_,_,_,_,_,_,_,_,_,_,_,_,_,_,_=>by cases h
 |.exit _,A,B,q,h,_,_,_,_,_,_,_,_,_,_,_,_,_,_,_,_=>by cases h
 |.scope _,A,B,q,h,_,_,_,_,_,_,_,_,_,_,_,_,_,_,_,_=>by cases h
 |.ret,A,B,q,h,_,_,_,_,_,_,_,_,_,_,_,_,_,_,_,_=>by cases h
 |.loop _,A,B,q,h,_,_,_,_,_,_,_,_,_,_,_,_,_,_,_,_=>by cases h
 |.goto _,A,B,q,h,_,_,_,_,_,_,_,_,_,_,_,_,_,_,_,_=>by cases h
 |.refuse _,A,B,q,h,_,_,_,_,_,_,_,_,_,_,_,_,_,_,_,_=>by cases h
 |.rangeFunc _ _ _ _,A,B,q,h,_,_,_,_,_,_,_,_,_,_,_,_,_,_,_,_=>by cases h
def anZ{phx:cd}{H:cf}{B:Nat->aU}{s:aR}{a5:List av}{vs:List Value}(aB:s.aW=B)(dm:gL phx H B a5 vs)(n:Nat):∃bp:aR,(⟨bp.t,s.h,s.w⟩:aR)=bp/\(∀(γ:Type 1) (k:dR->γ),fill n a5 0 .e k=k bp.t)/\bp.aW=B /\
  dE phx H B bp.bW { tmps:=vs.toArray++Array.replicate (n-vs.toArray.size) undef,defers:=[] }:=by
 obtain⟨bp,O,R,ai,au⟩:=F' n a5 0 ⟨.e,s.h,s.w⟩;have ae:(⟨bp.t,s.h,s.w⟩:aR)=bp:=by cases bp;simp only at O R;rw[O,R]
 have bj:=dm.length;have bm:=U8 dm;refine⟨bp,ae,λγ k=>ai γ k,by rw[<- aB];funext j;unfold aR.aW;rw[O],λj => ?_⟩;have zY:(⟨.e,s.h,s.w⟩:aR).bW j=.bad:=dR.vW 40 j;rcases au j with h|⟨p,_,h,bB⟩|⟨h,bB⟩
 .rw[h,zY];trivial
 .rcases bB with bB|bB<;>rw[bB]
  .obtain⟨v,aD,aj⟩:=bm j p (by simpa using h)
   have bi:j<vs.length:=(nF.1 aD).1;have:(vs.toArray++Array.replicate (n-vs.toArray.size) undef).getD j undef=v:=by rw[m8,pF (by simpa using bi)];simp[aD]
   show a9 _ _ _ p ((vs.toArray++Array.replicate (n-vs.toArray.size) undef).getD j undef);rw[this];exact aj
  trivial
 rcases bB with bB|bB<;>rw[bB]
 .have bi:vs.length<=j:=by rw[bj]at h;simpa using h
  have:(vs.toArray++Array.replicate (n-vs.toArray.size) undef).getD j undef=undef:=by
   rw[m8,tP (by simpa using bi)];by_cases ao:j-vs.toArray.size<n-vs.toArray.size
   .rw[tM,if_pos ao];rfl
   rw[tM,if_neg ao];rfl
  exact this
 trivial
def amJ{E EC:dl}(cb:ol P E)(qK:ol P EC)(jh:P.follows .mixedOrders=true){fn fj:Func}{jb bd mq:Nat}{a7 C:Code}(dp:P.funcs[F]?=some fj)(zX:fj.body=some a7)(h7:I6 a7=some (jb,C))(LQ:fj.ntmps<=1000000)(wb:fj.results.size=0)
  {w:World} {X:Nat->Prop} (gM:pC P ⟨λb=>b<w.heap.size,X⟩ w) {rs:List ez} {cZ:List iP} {o:Option Nat} {s:aR} {r:eq rs} (ap:(sE E EC fn fj mq jb bd C rs cZ o s).bI=some r) {phx:cd} {M:Nat->Prop} {w':World} {a':Act} {vs:List Value}
  (hm:bK ⟨λb=>b<w.heap.size,X⟩ w phx M s.aW w') (ae:dE phx (view w' M) s.aW s.bW a') (LF:jZ phx (view w' M) s.aW cZ vs) {u:FrameMode} (aM:(o=none/\u=.returning)\/∃k,o=some k/\u=.panicking [{ v:=.iface bd (.int .i64 (k:Int)),recovered:=false }]) :
  CallsD P F vs.toArray u w' fun
   |.returned _,u',cR=>Leaves P fn a'.tmps (λe cR=>∃bY,e=.returned bY/\i4 w X cR rs r bY) [] (settle u') cR
   |.panicked Cv,u',cR=>Leaves P fn a'.tmps (λe cR=>∃bY,e=.returned bY/\i4 w X cR rs r bY) [] (raised u' Cv) cR
   |.outgrown,_,cR=>(λe cR=>∃bY,e=Ending.returned bY/\i4 w X cR rs r bY) .outgrown cR:=by
 let K:Kp:=⟨λb=>b<w.heap.size,X⟩
 obtain⟨id,ops,d?,dW,dG,cK,rfl,lU⟩:=axM h7;simp only at lU zX;obtain⟨bp,e1,aT,dI,gX⟩:=anZ (s:=s) rfl LF.args fj.ntmps;unfold sE at ap;rw[aT]at ap;have ap:((iK fj.ntmps (some jb) ⟨bp.t,s.h,s.w⟩ (yB bd o) λrc=>
  aS.bind (run EC [] fj.results.toList mq fj.ntmps true C rc) fun
   |.nx eL=>(ny E ⟨s.t,eL.h,eL.w⟩ fn.results.toList).bind λvs=>oP ⟨s.t,eL.h,eL.w⟩ rs vs
   |.ex k eL=>bif Nat.beq k iU then(ny E ⟨s.t,eL.h,eL.w⟩ fn.results.toList).bind λvs=>oP ⟨s.t,eL.h,eL.w⟩ rs vs else .fail
   | .rt _ => .fail:aS (eq rs)).bind aS.leaf).bI=some r:=by rw [k1];exact ap
 rw[e1]at ap;obtain⟨gx,ap⟩:=vb ap;rw[k1]at ap;have ap8:jb<fj.ntmps:=gx jb rfl
 let gT:Act:={ tmps:=vs.toArray++Array.replicate (fj.ntmps-vs.toArray.size) undef,defers:=[] }
 have c3:fj.ntmps<=gT.tmps.size:=by show fj.ntmps<=(vs.toArray++Array.replicate (fj.ntmps-vs.toArray.size) undef).size;simp;omega
 refine callsD_of_wpS dp zX λc₀ cs S6 => ?_

 have afi:∀(oh:FrameMode) (x:Value),(match u with|.panicking [{ v,recovered:=false,goexit:=false }]=>oh=.panicking [{ v,recovered:=true }]/\x=v|_=>oh=u/\x=.nilIface)->settle oh=.returning ->
   a9 phx (view w' M) s.aW (yB bd o) x ->
   C.wpS P (bodyPostS P fj c₀ cs (fun
   |.returned _,u',cR=>Leaves P fn a'.tmps (λe cR=>∃bY,e=.returned bY/\i4 w X cR rs r bY) [] (settle u') cR
   |.panicked Cv,u',cR=>Leaves P fn a'.tmps (λe cR=>∃bY,e=.returned bY/\i4 w X cR rs r bY) [] (raised u' Cv) cR
   | .outgrown,_,cR=>(λe cR=>∃bY,e=Ending.returned bY/\i4 w X cR rs r bY) .outgrown cR)) (gT.put (some jb) x) ({ c₀ with mode:=oh } :: cs) w':=by
  intro oh x _ k8 hx;refine wpS_of_wp ?_;have sl:dE phx (view w' M) (jH bp (some jb) (yB bd o)).aW (jH bp (some jb) (yB bd o)).bW (gT.put (some jb) x):=by rw[lA,r9 LQ gx,dI];exact dE.put gX (λd aI=>by cases aI;exact iF ap8 c3) hx
  have Ui:bK K w phx M (jH bp (some jb) (yB bd o)).aW w':=by rw[lA,dI];exact hm
  have f':∀eL phx' aA cR eT,((ny E ⟨s.t,eL.h,eL.w⟩ fn.results.toList).bind λvs=>oP ⟨s.t,eL.h,eL.w⟩ rs vs).bI=some r->gd K w (dY C) (jH bp (some jb) (yB bd o)) phx M w' (gT.put (some jb) x) eL phx' aA cR eT ->
    eT.defers=[]/\∃u',({ c₀ with mode:=oh } :: cs:List Frame)={ c₀ with mode:=u' } :: cs/\∃v,(results fj eT.tmps).run P cR=.ok v cR/\Leaves P fn a'.tmps (λe cR=>∃bY,e=.returned bY/\i4 w X cR rs r bY) [] (settle u') cR:=by
   intro eL phx' aA cR eT j8 am;have uw:co phx M s.aW w' phx' aA eL.aW cR:=by have:=am.ext;rwa [lA,dI]at this
   have axy:dE phx' (view cR aA) (⟨s.t,eL.h,eL.w⟩:aR).aW (⟨s.t,eL.h,eL.w⟩:aR).bW a':=ae.ext uw;have Ax:bK K w phx' aA (⟨s.t,eL.h,eL.w⟩:aR).aW cR:=am.hR;obtain⟨nB,us,bG,ca,cr⟩:=yH cb.b6 j8 Ax axy;have U9:((oP ⟨s.t,eL.h,eL.w⟩ rs nB).bind aS.leaf).bI=some r:=by rw[k1];exact bG
   obtain⟨y,c',b2,du,Ay,w5,_,u_⟩:=Ea (K:=K) (w0:=w) U9 Ax ca (U:=λ_=>False) ⟨λ_ _ _ _ h=>h,λ_ h=>h.elim⟩;cases du;have Db:fj.results.toList=[]:=by rw[<- lJ];simpa using wb
   refine⟨by rw[am.keep.2.1];show(gT.put (some jb) x).defers=[];rfl,oh,rfl,jI [],wP (us:=[]) (by rw[Db];rfl),?_⟩;rw[k8];exact⟨jI us,wP cr,jI us,rfl,c',Ay.os,Ay.tape,Ay.output,Ay.size,λb Y=>Ay.keep b Y,λb Y=>Ay.hid b Y,Ay.mlt,us,u_,rfl⟩
  have SY:((run EC [] fj.results.toList mq fj.ntmps true C (jH bp (some jb) (yB bd o))).bind fun
   |.nx eL=>(ny E ⟨s.t,eL.h,eL.w⟩ fn.results.toList).bind λvs=>oP ⟨s.t,eL.h,eL.w⟩ rs vs
   |.ex k eL=>bif Nat.beq k iU then(ny E ⟨s.t,eL.h,eL.w⟩ fn.results.toList).bind λvs=>oP ⟨s.t,eL.h,eL.w⟩ rs vs else .fail
   |.rt _=>.fail).bI=some r:=ap
  refine pr (P:=P) (w0:=w) (K:=K) (E:=EC) (inl:=true) qK.b6 qK.C qK.M ⟨qK.G,qK.K,λ_=>gM,λf s h=>⟨qK.X f s h,gM⟩,qK.P,λf s h=>⟨qK.Q f s h,gM⟩⟩ qK.I jh (λh=>by cases h) LQ C _ (eq rs) _ r SY phx M w' _ Ui sl (by simpa[Act.put]using c3) _ (λeL phx' aA cR eT j8 am => ?_) (λid eL phx' aA cR eT j8 am => ?_) (λy cR eT j8 aI aM=>by cases j8)
  .exact f' eL phx' aA cR eT j8 am
  replace j8:((bif Nat.beq id iU then(ny E ⟨s.t,eL.h,eL.w⟩ fn.results.toList).bind λvs=>oP ⟨s.t,eL.h,eL.w⟩ rs vs else .fail:aS (eq rs))).bI=some r:=j8;cases Y:Nat.beq id iU with
  |false=>rw[Y]at j8;cases j8
  |true =>rw[Y,cond_true]at j8;unfold md;rw[if_pos (fP Y)];exact f' eL phx' aA cR eT j8 am
 refine wpS_seq (wpS_region ?_);have arI:ops.size=1:=by rw[<- B9,lU];rfl
 have LI:ops[0]?=some ⟨some jb,.call ⟨.builtin .recover, #[],d?⟩,dW,dG,cK,none⟩:=by rw[<- xk,lU];rfl
 rw[arI];show wpOpsS P ops _ [0] gT (c₀::cs) w';have iJ:(execOp gT.eval ⟨some jb,.call ⟨.builtin .recover, #[],d?⟩,dW,dG,cK,none⟩).run P w'=.ok .recover w':=rfl;simp only[wpOpsS,LI,Region.wanted];rw[iJ];simp only[if_true];rcases aM with⟨rfl,rfl⟩|⟨k,rfl,rfl⟩
 .have hO:recoverD (c₀::cs)=none:=by simp only[recoverD,S6]
  rw[hO];have ah:({ c₀ with mode:=.returning }:Frame)=c₀:=by rw[<- S6]
  have:=afi .returning .nilIface ⟨rfl,rfl⟩ rfl ⟨[.nilIface],aJ.wF.2 rfl,rfl⟩;rw[ah]at this;exact this
 have hO:recoverD (c₀::cs)=some (.iface bd (.int .i64 (k:Int)),{ c₀ with mode:=.panicking [{ v:=.iface bd (.int .i64 (k:Int)),recovered:=true }] } :: cs):=by simp only[recoverD,S6]
 rw[hO];exact afi (.panicking [{ v:=.iface bd (.int .i64 (k:Int)),recovered:=true }]) _ ⟨rfl,rfl⟩ rfl ⟨[.int .i64 (k:Int)],aJ.jl.2 rfl,rfl⟩
def atB {E EC : dl} (cb : ol P E) (qK : ol P EC) (jh : P.follows .mixedOrders = true)  {fn fj : Func} (hf : P.funcs[f]? = some fn) (sZ : (fn.name == "runtime.NumGoroutine") = false) (dp : P.funcs[F]? = some fj) (aq5 : (fj.name == "runtime.NumGoroutine") = false)
  (nv mq:Nat) (ts:List ag) (rs:List ez) {m bd:Nat} (mO:E.Pn=some (m,bd)) (Y:fn.body.isSome=true) (Sn:∀c A B q,fn.body=some c->yO c=some (A,q,B)->q.2.1=F):hb P f ⟨ts,rs,Uk E EC fn fj nv mq bd ts rs⟩:=by
 refine⟨⟨fn,hf,Y,sZ⟩,?_⟩;intro w X x vs r dL lv jd e2;unfold Uk at e2;cases je:fn.body with
 |none=>rw[je]at Y;cases Y
 |some c=>
  cases zX:fj.body with
  |none=>rw[je,zX]at e2;cases e2
  |some a7=>
   rw[je,zX]at e2;simp only at e2;cases h7:yO c with
   |none=>rw[h7]at e2;cases e2
   |some p=>
    obtain⟨A,q,B⟩:=p;cases To:I6 a7 with
    |none=>rw[h7,To]at e2;cases e2
    |some auI=>
     obtain⟨jb,C⟩:=auI;rw[h7,To]at e2;simp only at e2;cases bV:(Nat.ble fn.ntmps 1000000&&(Nat.ble fj.ntmps 1000000&&Nat.beq fj.results.size 0)) with
     |false=>rw[bV]at e2;cases e2
     |true=>
      rw[bV]at e2;simp only[cM,Xf]at bV;obtain⟨eD,LQ,Ti⟩:=bV;have Ti:=fP Ti;have acn:q.2.1=F:=Sn c A B q je h7;obtain⟨s,ai,ae,hm,pi,nn,gM⟩:=VY (P:=P) dL lv jd fn.ntmps;rw[ai,ae]at e2
      let K:Kp:=⟨λb=>b<w.heap.size,X⟩
      have a2:=λc=>pr (P:=P) (w0:=w) (K:=K) (E:=E) (rs:=[]) (res:=fn.results.toList) (nv:=nv) (nt:=fn.ntmps) (inl:=true) cb.b6 cb.C cb.M ⟨cb.G,cb.K,λ_=>gM,λf s h=>⟨cb.X f s h,gM⟩,cb.P,λf s h=>⟨cb.Q f s h,gM⟩⟩ cb.I jh (λh=>by cases h) eD c;have aqA:o1 P E K w:=⟨cb.G,cb.K,λ_=>gM,λf s h=>⟨cb.X f s h,gM⟩,cb.P,λf s h=>⟨cb.Q f s h,gM⟩⟩;refine calls_of_wp_defers hf je ?_;refine ahf a2 c A B q h7 s _ _ r e2 (λ_=>none) X w _ hm pi nn _ (λD JB bp hS fR ck cK jv rN p3 => ?_) (λ_ _=>rfl) (λ_=>rfl);obtain⟨id,ops,xB,dW,dG,ang,d?,eF,gz,anh,rfl,apV,lU⟩:=am3 jv;obtain⟨cZ,wr,bj,bm⟩:=pd rN;obtain⟨b,cY,Hm,wl⟩:=aw.cH bj;rw[apV]at Hm;have s1:(r6 E ⟨some q.1,.makeFunc (.func q.2.1) #[] xB,dW,dG,ang,none⟩).a2 bp.bW bp.aW=some (.clo q.2.1 0 cZ,dF bp.aW wr):=by show((mm eu xB.toList).bind λb=>(mm Cy b).bind λcZ=>.ret (.clo q.2.1 0 cZ):aw av).a2 bp.bW bp.aW=_;rw[aw.R9,Hm];show((mm Cy b).bind λcZ=>.ret (.clo q.2.1 0 cZ):aw av).a2 bp.bW cY=_;rw[aw.R9,wl];rfl
      have bm:((iK fn.ntmps (some q.1) (bp.em wr) .bad λax=>aS.bind (run E [] fn.results.toList nv fn.ntmps true B ax) fun
       |.nx d_=>sE E EC fn fj mq jb bd C rs cZ none d_
       |.ex k d_=>bif Nat.beq k iU then sE E EC fn fj mq jb bd C rs cZ none d_ else bif Nat.blt hG k then sE E EC fn fj mq jb bd C rs cZ (some (k-hG)) d_ else .fail
       | .rt _ => .fail:aS (eq rs)).bind aS.leaf).bI=some r:=by rw [k1];exact bm
      obtain⟨gx,cW⟩:=vb bm;rw[k1]at cW;have acf:fn.ntmps<=cK.tmps.size:=by rw[p3.keep.1];exact nn
      have rI:∀d,some q.1=some d->d<cK.tmps.size:=λd aI=>iF (gx d aI) acf;refine wp_seq (wp_region_list ?_);rw[lU];left;refine UK cb.b6 cb.C cb.M aqA s1 p3.hR p3.slots λgZ cR apG => ?_;obtain⟨jS,c',cq,aT,nB,LF,pe⟩:=apG;rw[<- aR.nW]at cq aT LF;left;have jg:(cK.put (some q.1) gZ).eval (.tmp q.1)=gZ:=by show(cK.put (some q.1) gZ).tmps.getD q.1 undef=gZ;have:=rI q.1 rfl;simp[Act.put,this]
      have aqE:gZ=.func (.func q.2.1) #[] nB.toArray:=by rw[pe];simp
      have iJ:(execOp (cK.put (some q.1) gZ).eval ⟨none,.defer ⟨.value (.tmp q.1), #[],d?⟩,eF,gz,anh,none⟩).run P cR=.ok (.defer { target:=.fn (.func q.2.1) nB.toArray,args:=#[] }) cR:=by simp only[execOp,resolve];rw[jg,aqE];simp[Deferred.ofValue]
      unfold Oper.wp;rw[iJ]
      let Cz:Deferred:={ target:=.fn (.func q.2.1) nB.toArray,args:=#[] }
      let cU:Act:={ cK.put (some q.1) gZ with defers:=Cz::cK.defers }
      have N?:dE jS (view cR c') (jH (bp.em wr) (some q.1) .bad).aW (jH (bp.em wr) (some q.1) .bad).bW cU:=by
       rw[lA,r9 eD gx];have aq:dE jS (view cR c') (bp.em wr).aW (bp.em wr).bW cK:=by rw[(d5.em wr []).b6];exact p3.slots.ext aT
       exact dE.put aq rI trivial
      have x2:cU.defers=[Cz]:=by show Cz::cK.defers=[Cz];rw[p3.keep.2.1]
      have T1:∀(o:Option Nat) (u:FrameMode) d_ jF jt ft dj,(sE E EC fn fj mq jb bd C rs cZ o d_).bI=some r->gd K w (dY B) (jH (bp.em wr) (some q.1) .bad) jS c' cR cU d_ jF jt ft dj ->
        ((o=none/\u=.returning)\/∃k,o=some k/\u=.panicking [{ v:=.iface bd (.int .i64 (k:Int)),recovered:=false }]) ->
        Leaves P fn dj.tmps (λe cR=>∃bY,e=.returned bY/\i4 w X cR rs r bY) dj.defers u ft:=by
       intro o u d_ jF jt ft dj fy lx aM;rw[lx.keep.2.1,x2];refine leaves_cons (f:=q.2.1) (args:=nB.toArray) (by rcases aM with⟨_,rfl⟩|⟨k,_,rfl⟩<;>simp) ?_ ?_
       .rw[acn]
        have ut:¬fj.body=none:=by rw[zX];simp
        have lw : ¬ fj.name = "runtime.NumGoroutine" := by simpa using aq5
        simp[invoke,callFunc,dp,lw,ut]
       rw[acn];have C9:co jS c' (bp.em wr).aW cR jF jt d_.aW ft:=by have:=lx.ext;rwa [lA]at this
       exact amJ cb qK jh dp zX To LQ Ti gM fy lx.hR lx.slots (LF.mono C9.pl C9.vw C9.bl) aM
      refine a2 B _ _ _ _ cW jS c' cR cU (by rw[lA];exact cq) N? (by show fn.ntmps<=(cK.put (some q.1) gZ).tmps.size;simpa[Act.put]using acf) _ (λd_ jF jt ft dj fy lx => ?_) (λid d_ jF jt ft dj fy lx => ?_) (λy ft dj fy aI aM=>by cases fy)
      .exact T1 none .returning d_ jF jt ft dj fy lx (.inl ⟨rfl,rfl⟩)
      replace fy:((bif Nat.beq id iU then sE E EC fn fj mq jb bd C rs cZ none d_ else bif Nat.blt hG id then sE E EC fn fj mq jb bd C rs cZ (some (id-hG)) d_ else .fail:aS (eq rs))).bI=some r:=fy;cases Y:Nat.beq id iU with
      |true =>rw[Y]at fy;unfold md;rw[if_pos (fP Y)];exact T1 none .returning d_ jF jt ft dj fy lx (.inl ⟨rfl,rfl⟩)
      |false=>
       rw[Y]at fy;cases hp:Nat.blt hG id with
       |false=>rw[hp]at fy;cases fy
       |true=>
        rw[hp]at fy;have bi:hG<id:=by simpa using hp
        obtain⟨k,rfl⟩:∃k,id=hG+k:=⟨id-hG,J⟩;rw[K9 mO];rw[qA]at fy;exact T1 (some k) _ d_ jF jt ft dj fy lx (.inr ⟨k,rfl,rfl⟩)
end Yp