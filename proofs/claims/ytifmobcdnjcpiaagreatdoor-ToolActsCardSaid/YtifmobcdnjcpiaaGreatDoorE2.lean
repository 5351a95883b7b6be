/- A part of the proof of the statements of this seat: the engine that turns code into plain functions, and its soundness. No condition of its own. -/
import Derived.Test.YtifmobcdnjcpiaaGreatDoorE1
import Derived.Scope
import Derived.ProofKit
import Derived.OpenShut
import Derived.Recover
set_option linter.unusedVariables false
set_option linter.unusedSimpArgs false
set_option linter.defProp false
noncomputable section
open Go Yp
variable {D:List Nat}{F f f0 t:Nat}
namespace Yp
open Go
variable {P:Program}
section
variable {K:Kp} {w0 w:World} {phx:cc} {M:Nat->Prop} {B B':Nat->aQ} {g:Nat->au} {a:Act} {E:db} {rs:List ef} {res:List ResultVar} {nv nt:Nat} {inl:Bool}
def fR.refl{s:aM}(hm:Mem K w0 phx M s.aR w)(ac:dw phx (view w M) s.aR s.bX a):fR K w0 D s phx M w a s phx M w a:=⟨dY.refl _ _,hm,cm.refl _ _ _ _,ac,g9.refl _ _⟩
def fR.trans{j2 Jq:List Nat}{s bp ax:aM}{hk jH:cc}{fr c8:Nat->Prop}{cf cO:World}{cI cR:Act}(h:fR K w0 D s phx M w a bp hk fr cf cI)(k:fR K w0 j2 bp hk fr cf cI ax jH c8 cO cR)
  (aF:∀t,t∈D->t∈Jq) (CT:∀t,t∈j2->t∈Jq):fR K w0 Jq s phx M w a ax jH c8 cO cR:=⟨h.iz.sub k.iz aF CT,k.hd,h.ext.trans k.ext,k.slots,h.keep.sub k.keep aF CT⟩
def fR.mono{j2:List Nat}{s bp:aM}{hk:cc}{fr:Nat->Prop}{cf:World}{cI:Act}(h:fR K w0 D s phx M w a bp hk fr cf cI)(aF:∀t,t∈D->t∈j2):fR K w0 j2 s phx M w a bp hk fr cf cI:=
 ⟨h.iz.mono aF,h.hd,h.ext,h.slots,h.keep.1,h.keep.2.1,λt ht=>h.keep.2.2 t λai=>ht (aF t ai)⟩
def ayh{b:Code}(du:E.U=true)(ih:BO P K w0 E rs res nv nt inl b):BO P K w0 E rs res nv nt inl (.loop b):=by
 intro s ρ k r h phx M w a hm ac ge Q iU Sx Sy;simp only[run,du]at h;refine ahF (λn cR cO=>∃ax jH c8,((N2 (λs=>run E rs res nv nt inl b s) n ax).bind k).bI=some r/\fR K w0 (d2 (.loop b)) s phx M w a ax jH c8 cO cR) (λcR cO ⟨ax,jH,c8,ao,_⟩=>by cases ao) ?_ ⟨s,phx,M,h,fR.refl hm ac⟩;rintro n cR cO ⟨ax,jH,c8,R,aj⟩;simp only[N2]at R;rw[aP.fb]at R;have D4:∀t,t∈d2 b->t∈d2 (.loop b):=λt h=>h;refine ih ax ρ _ r R jH c8 cO cR aj.hd aj.slots (by rw[aj.keep.1];exact ge) _ (λd5 jn jc fi a3 ap kR => ?_) (λid d5 jn jc fi a3 ap kR => ?_) (λv fi a3 ap aF aL => ?_)
 .exact⟨d5,jn,jc,ap,aj.trans kR (λt h=>h) D4⟩
 .have a2:=Sx id d5 jn jc fi a3 ap (aj.trans kR (λt h=>h) D4)
  revert a2;unfold lG;(repeat' split)<;>exact λh=>h
 exact Sy v fi a3 ap (aF.trans aj.keep.2.1) aL
def ada{m:Nat}:∀{l:List Oper} {q:List Oper×Option Nat×Operand×Nat×Oper},HE m l=some q->∃eg ty i_ po,q.2.2.2.2=⟨q.2.1,.call ⟨.value (.func m), #[q.2.2.1,.const (.int .i64 (q.2.2.2.1:Int))],eg⟩,ty,i_,po,none⟩/\l=q.1++[q.2.2.2.2]
 |[],q,h=>by cases h
 |o::r,q,h=>by
  simp only[HE]at h;cases ah:HE m r with
  |some MS=>
   obtain⟨eg,ty,i_,po,e,bC⟩:=ada ah
   grind
  |none=>
   rw[ah]at h;simp only at h;split at h
   .rename_i c7 f args eg ty i_ po
    cases Y:Nat.beq f m with
    |false=>rw[Y]at h;cases h
    |true=>
     rw[Y]at h;split at h
     .rename_i c k iO
      cases h;have:=fy Y;subst this;have bu:=by apply m3;exact iO
      subst bu;simp
     cases h
   cases h
def atj{ops:List Oper}{q:List Oper×Option Nat×Operand×Nat×Oper}(h:Mi E ops=some q):∃m t eg ty i_ po,E.Pn=some (m,t)/\q.2.2.2.2=⟨q.2.1,.call ⟨.value (.func m), #[q.2.2.1,.const (.int .i64 (q.2.2.2.1:Int))],eg⟩,ty,i_,po,none⟩/\ops=q.1++[q.2.2.2.2]:=by
 unfold Mi at h;cases hp:E.Pn with
 |none=>rw[hp]at h;cases h
 |some p=>
  rw[hp]at h;obtain⟨eg,ty,i_,po,e⟩:=ada h
  grind
def aeF:∀{l:List Oper} {p:List Oper×(Nat×Option Nat×nJ×List Operand)×Oper×List Oper},DR E l=some p ->
  l=p.1++p.2.2.1::p.2.2.2/\E.Q p.2.1.1=some p.2.1.2.2.1/\∃args eg ty i_ po,p.2.1.2.2.2=args.toList/\p.2.2.1=⟨p.2.1.2.1,.call ⟨.value (.func p.2.1.1),args,eg⟩,ty,i_,po,none⟩
 |[],p,h=>by cases h
 |o::r,p,h=>by
  simp only[DR]at h;cases a2:Uh E o with
  |some q=>
   rw[a2]at h;unfold Uh at a2
   grind
  |none=>
   rw[a2]at h;cases ah:DR E r with
   |none=>rw[ah]at h;cases h
   |some rz=>
    obtain⟨O,R⟩:=aeF ah
    grind
def Ze{eW f7:List Oper}(h:t∈en eW):t∈en (eW++f7):=by
 induction eW with
 |nil=>cases h
 |cons o r ih=>
  simp only[en,lA]at h ⊢
  grind
def ahG{c:Operand}{c7:Option Nat}{k m:Nat}{eg:Array TypeId}{type:TypeId}{i_:String}{after:Array Edge}(hp:yY P m t){b:Bool}(Y:a.eval c=.bool b){Kn:Act->World->Prop}{Q:Exit->Act->World->Prop}
  (O:b=true->∀v,Kn (a.put c7 v) w) (R:b=false->Q (.panic [{ v:=.iface t (.int .i64 (k:Int)),recovered:=false }]) a w):Oper.wp P ⟨c7,.call ⟨.value (.func m), #[c,.const (.int .i64 (k:Int))],eg⟩,type,i_,after,none⟩ a w Kn Q:=by
 obtain⟨⟨fn,c1,c2,hw⟩,ai⟩:=hp;have tQ:¬fn.body=none:=by intro Y;rw[Y]at c2;cases c2
 have Ft : ¬ fn.name = "runtime.NumGoroutine" := by simpa using hw
 have jS:(execOp a.eval ⟨c7,.call ⟨.value (.func m), #[c,.const (.int .i64 (k:Int))],eg⟩,type,i_,after,none⟩).run P w=.ok (.enter m #[.bool b,.int .i64 (k:Int)]) w:=by have mO:a.eval (.const (.int .i64 (k:Int)))=.int .i64 (k:Int):=rfl;have zW:a.eval (.func m)=.func (.func m) #[] #[]:=rfl;simp only[execOp,resolve];simp[Y,mO,zW,Deferred.ofValue,invoke,callFunc,c1,Ft,tQ]
 unfold Oper.wp;rw[jS,Oper.upon_enter];refine(ai b k w).mono ?_;rintro e w' ⟨rfl,rfl⟩;cases b with
 |true=>exact O rfl _
 |false=>exact R rfl
def ac9{c7:Option Nat}{c:Operand}{jm m:Nat}{eg:Array TypeId}{ty:TypeId}{i_:String}{po:Array Edge}(hp:yY P m t)(ma:E.Pn=some (m,t))(ej:nt<=1000000){s ax:aM}{phx':cc}{ay:Nat->Prop}{w':World}{a':Act}{ρ ρ':Type}
  {k:jO ρ'->aP ρ} {r:ρ} (h:((HD nt c7 c jm ax).bind k).bI=some r) (aj:fR K w0 D s phx M w a ax phx' ay w' a') (ge:nt<=a'.tmps.size) {j2:List Nat} (hJ:∀t,t∈D->t∈j2) (aF:∀d,c7=some d->d∈j2) {Kn:Act->World->Prop} {Q:Exit->Act->World->Prop}
  (iU:∀ax phx' ay w' a',(k (.nx ax)).bI=some r->fR K w0 j2 s phx M w a ax phx' ay w' a'->Kn a' w')
  (j?:∀id ax phx' ay w' a',(k (.ex id ax)).bI=some r->fR K w0 j2 s phx M w a ax phx' ay w' a'->Q (lG E id) a' w') :
  Oper.wp P ⟨c7,.call ⟨.value (.func m), #[c,.const (.int .i64 (jm:Int))],eg⟩,ty,i_,po,none⟩ a' w' Kn Q:=by
 unfold HD at h;rw[aP.fb]at h;obtain⟨v,wr,O,R⟩:=oM h;obtain⟨_,aC⟩:=xP O aj.slots;simp only at R;have hx:=KW (k:=jm) ma;have aat:((ib nt c7 ax .bad λs=>aP.leaf (aE.nx s)).bind k).bI=some r->∀v,Kn (a'.put c7 v) w':=λhg v=>by obtain⟨fZ,hg⟩:=uB hg;refine iU (i' ax c7 .bad) phx' ay w' _ hg ?_;have q':∀d,c7=some d->d<a'.tmps.size:=λd aF=>hU (fZ d aF) ge;exact fR.trans aj ⟨vZ (D:=j2) aF,by rw[lp];exact aj.hd,by rw[lp];exact cm.refl _ _ _ _,by rw[lp,rA ej fZ];exact aj.slots.put q' trivial,g9.put (D:=j2) aF⟩ hJ λt h=>h
 have bad:(k (.ex (hs+jm) ax)).bI=some r->Q (.panic [{ v:=.iface t (.int .i64 (jm:Int)),recovered:=false }]) a' w':=λY=>by rw[<- hx];exact j? (hs+jm) ax phx' ay w' a' Y (aj.mono hJ)
 cases v<;>try(cases R;done)
 case kb b=>
  have Y:a'.eval c=.bool b:=aC;refine ahG hp Y (λe => ?_) (λe => ?_)
  .subst e;exact aat R
  subst e;exact bad R
 case sc aho b=>
  cases aho<;>try(cases R;done)
  have Y:a'.eval c=.bool b:=a?.bool aC;have ht:∃ny:Bool,ny=b:=⟨b,rfl⟩;obtain⟨ny,zT⟩:=ht;subst zT;simp only[aP.bind,aP.bI,T]at R;refine ahG hp Y (λe => ?_) (λe => ?_)
  .subst e;exact aat R
  subst e;exact bad R
def ayK{c7:Option Nat}{F:Operand}{args:Array Operand}{eg:Array TypeId}{type:TypeId}{i_:String}{after:Array Edge}{Qj Kw:Array Value}(aC:a.eval F=.func (.func f) Qj Kw)(ai:rV P f){Kn:Act->World->Prop}{Q:Exit->Act->World->Prop}
  (h:Calls P f (Qj++args.map a.eval++Kw) w fun
   |.returned v,w'=>Kn (a.put c7 v) w'
   |.panicked c,w'=>Q (.panic c) a w'
   |.outgrown,_=>LetsOut Q):Oper.wp P ⟨c7,.call ⟨.value F,args,eg⟩,type,i_,after,none⟩ a w Kn Q:=by
 obtain⟨fn,c1,c2,hw⟩:=ai;have tQ:¬fn.body=none:=by intro Y;rw[Y]at c2;cases c2
 have Ft:=by simpa using hw
 have jS:(execOp a.eval ⟨c7,.call ⟨.value F,args,eg⟩,type,i_,after,none⟩).run P w=.ok (.enter f (Qj++args.map a.eval++Kw)) w:=by simp only[execOp,resolve];simp[aC,Deferred.ofValue,invoke,callFunc,c1,Ft,tQ]
 unfold Oper.wp;rw[jS];exact h
def Zy{ρ' ρ:Type}{n:Nat}{s:aM}:∀{l:List Nat} {k:jO ρ'->aP ρ} {r:ρ},((F0 n s l).bind k).bI=some r->((k (.ex (hs+n) s)).bI=some r)
 |[i],k,r,h=>by
  simp only[F0]at h;cases Y:bZ n i with
  |false=>rw[Y]at h;cases h
  |true=>rw[Y]at h;rw[fy Y];exact h
 |i::j::l,k,r,h=>by
  simp only[F0]at h;cases Y:bZ n i with
  |false=>rw[Y]at h;exact Zy (l:=j::l) h
  |true=>rw[Y]at h;rw[fy Y];exact h
def o4(hT:mV P E.b8)(cx:ps P E.b8 E.C)(g3:qA P E.M)(dA:ot P E K w0)(eo:∀f g,E.I f=some g->j3 P f g)(iS:P.follows .mixedOrders=true)(fL:inl=false->∀b,K.k b↔b<w0.heap.size)(ej:nt<=1000000):∀c:Code,BO P K w0 E rs res nv nt inl c
 |.skip=>λs ρ k r h phx M w a hm ac ge Q iU j? oP=>wp_skip (iU s phx M w a h (fR.refl hm ac))
 |.label l=>λs ρ k r h phx M w a hm ac ge Q iU j? oP=>wp_label (iU s phx M w a h (fR.refl hm ac))
 |.region id ops dk=>λs ρ k r h phx M w a hm ac ge Q iU j? oP=>by
  simp only[run]at h;cases tT:Mi E ops.toList with
  |some q=>
   rw[tT]at h;obtain⟨xZ,aeG,rB,avl,DS⟩:=q;obtain⟨m,t,eg,ty,i_,po,ma,LH,lf⟩:=atj tT;simp only at LH lf h;have hJ:∀t,t∈en xZ->t∈d2 (.region id ops dk):=λt ht=>by simp only[d2];rw[lf];exact Ze ht
   have aF:∀d,aeG=some d->d∈d2 (.region id ops dk):=λd aF=>by
    simp only[d2];rw[lf];have:∀l:List Oper,d∈en (l++[DS]):=λl=>by
     induction l with
     |nil=>rw[LH,aF];exact ES
     |cons o r ih=>exact(tG o (r++[DS])).2 d ih
    grind
   cases dk with
   |true=>
    simp only[cond_true]at h;cases hl:Ht xZ DS with
    |false=>rw[hl]at h;cases h
    |true =>rw[hl,cond_true,aP.fb]at h;refine avW iS hl (by rw[<- lf]) (avU (ops:=xZ.toArray) hT cx g3 dA eo ej (k:=λs=>(HD nt aeG rB avl s).bind k) (by simpa using h) hm ac ge λax phx' ay w' a' ap hf bD e1 bp bF => ?_);have aj:fR K w0 (en xZ) s phx M w a ax phx' ay w' a':=⟨by simpa using hf,bD,e1,bp,by simpa using bF⟩;unfold I1 wpOp;rw[show(xZ++[DS]).toArray[xZ.length]?=some DS by rw[wF,BL (bU _),BT];rfl];simp only;rw[LH,if_pos (by simp[Region.wanted])];left;exact ac9 (dA.pn m t ma) ma ej ap aj (by rw[aj.keep.1];exact ge) hJ aF iU j?
   |false =>simp only[cond_false]at h;rw[aP.fb]at h;refine wp_region_list ?_;rw[lf];refine Nc (tail:=[DS]) hT cx g3 dA eo ej xZ true 0 s _ r h phx M w a hm ac ge λax phx' ay w' a' ap hf bD e1 bp bF => ?_;have aj:fR K w0 (en xZ) s phx M w a ax phx' ay w' a':=⟨hf,bD,e1,bp,bF⟩;simp only[wpList];rw[LH,if_pos (by simp[Region.wanted])];left;exact ac9 (dA.pn m t ma) ma ej ap aj (by rw[aj.keep.1];exact ge) hJ aF iU j?
  |none=>
  rw[tT]at h;simp only at h;cases zP:DR E ops.toList with
  |some p=>
   rw[zP]at h;obtain⟨eW,⟨f,c7,lS,ay4⟩,o,f7⟩:=p;cases dk with
   |true=>cases h
   |false=>
    simp only[cond_false]at h;obtain⟨lf,zx,args,eg,ty,i_,po,iO,aK⟩:=aeF zP;simp only at lf zx iO aK;subst iO;obtain⟨⟨m,bc,ma,api⟩,gn⟩:=dA.qn f lS zx;rw[aP.fb]at h;refine wp_region_list ?_;rw[lf];have RL:∀t,t∈en eW->t∈d2 (.region id ops false):=λt ht=>by simp only[d2];rw[lf];exact Ze ht
    have aoE:∀eW:List Oper,∀t,t∈en (o::f7)->t∈en (eW++o::f7):=λeW t ht=>by
     induction eW with
     |nil=>exact ht
     |cons di r ih=>exact(tG di _).2 t ih
    have aaO:∀t,t∈en (o::f7)->t∈d2 (.region id ops false):=λt ht=>by simp only[d2];rw[lf];exact aoE eW t ht
    refine Nc (tail:=o::f7) hT cx g3 dA eo ej eW true 0 s _ r h phx M w a hm ac ge λax phx' ay w' a' ap hf bD e1 bp bF => ?_;have aj:fR K w0 (en eW) s phx M w a ax phx' ay w' a':=⟨hf,bD,e1,bp,bF⟩;rw[aP.fb]at ap;obtain⟨⟨n,v⟩,wr,O,R⟩:=oM ap;obtain⟨aZ,cS,dF,gp⟩:=aw.cA O;obtain⟨QS,dd⟩:=xH bp dF;subst QS;simp only at R;simp only[wpList];rw[aK,if_pos (by simp[Region.wanted])];left;have bu:(args.toList.map a'.eval).toArray=args.map a'.eval:=by apply m3;simp
    obtain⟨vk,CS⟩:=avk api gn gp bD dd;rw[bu]at CS;have oN:a'.eval (.func f)=.func (.func f) #[] #[]:=rfl;have aqr:nt<=a'.tmps.size:=by rw[aj.keep.1];exact ge
    refine ayK oN vk ?_;simp only[Array.empty_append,Array.append_empty];refine CS.mono ?_;rintro e cO ⟨c8,cn,aN,aba⟩;rw[<- aM.nd]at cn aN aba;have azc:=hf.sub (dY.ek wr (en eW)) (λt h=>h) (λt h=>h);have NG:dw phx' (view cO c8) (ax.ek wr).aR (ax.ek wr).bX a':=by rw[(dY.ek wr []).b8];exact bp.ext aN
    simp only[aP.bind,aP.bI,T]at R;rcases aba with⟨pG,b2,rfl,qv⟩|⟨pG,rfl⟩
    .subst pG
     rw[show bZ 0 0=true from rfl,cond_true]at R;obtain⟨fZ,R⟩:=uB R;have q':=λd aF=>hU (fZ d aF) aqr;have abe:=λd aF=>(tG o f7).1 d (by rw[aK];exact aF);rw[aP.fb]at R;have vu:fR K w0 (d2 (.region id ops false)) s phx M w a (i' (ax.ek wr) c7 v) phx' c8 cO (a'.put c7 b2):=
      fR.trans aj ⟨(dY.ek wr []).sub (vZ (D:=en (o::f7)) abe) (λt h=>by simp at h) (λt h=>h),by rw[lp];exact cn,by rw[lp];exact aN,by rw[lp,rA ej fZ];exact NG.put q' qv,g9.put (D:=en (o::f7)) abe⟩ RL aaO
     show wpList P ops Q f7 (a'.put c7 b2) cO;have ao:=Nc (P:=P) (tail:=[]) (ops:=ops) (Q:=Q) hT cx g3 dA eo ej f7 true (eW.length+1) _ _ r R phx' c8 cO _ vu.hd vu.slots (by rw[vu.keep.1];exact ge) λd5 jn jc fi a3 fc R? gJ dJ awG dp => ?_
     .rwa [hF]at ao
     exact iU d5 jn jc fi a3 fc (vu.trans ⟨R?,gJ,dJ,awG,dp⟩ (λt h=>h) λt ht=>aaO t ((tG o f7).2 t ht))
    have aqt:bZ n 0=false:=by
     cases Y:bZ n 0 with
     |false=>rfl
     |true=>exact absurd (fy Y) pG
    rw[aqt,cond_false]at R;have af:=Zy R;have a2:=j? (hs+n) (ax.ek wr) phx' c8 cO a' af (fR.trans aj ⟨dY.ek wr (en eW),cn,aN,NG,g9.refl _ _⟩ RL RL);rw[KW ma]at a2;exact a2
  |none=>
  rw[zP]at h;simp only at h;cases ai:(!dk&&Qi E ops.toList) with
  |false =>rw[ai,cond_false,aP.fb]at h;exact avV hT cx g3 dA eo iS ej h hm ac ge λax phx' ay w' a' ap hf bD e1 bp bF=>iU ax phx' ay w' a' ap ⟨hf,bD,e1,bp,bF⟩
  |true=>
   rw[ai,cond_true,aP.fb]at h;simp only[cM,wx]at ai;rw[ai.1];refine wp_region_list ?_;have ao:=Nc (tail:=[]) hT cx g3 dA eo ej ops.toList true 0 s _ r h phx M w a hm ac ge λax phx' ay w' a' ap hf bD e1 bp bF=>iU ax phx' ay w' a' ap ⟨hf,bD,e1,bp,bF⟩
   rwa [hF]at ao
 |.seq x y=>λs ρ k r h phx M w a hm ac ge Q iU j? oP=>by
  simp only[run]at h;rw[aP.fb]at h;have Ak:∀t,t∈d2 x->t∈d2 (.seq x y):=λt h=>yX _ h;have Dn:∀t,t∈d2 y->t∈d2 (.seq x y):=λt h=>wE _ h;refine wp_seq (o4 hT cx g3 dA eo iS fL ej x s ρ _ r h phx M w a hm ac ge _ (λax phx' ay w' a' ap aj => ?_) (λid ax phx' ay w' a' ap aj => ?_) (λv w' a' ap aF aL => ?_))
  .exact o4 hT cx g3 dA eo iS fL ej y ax ρ k r ap phx' ay w' a' aj.hd aj.slots (by rw[aj.keep.1];exact ge) Q (λd5 jn jc fi a3 fc kR=>iU d5 jn jc fi a3 fc (aj.trans kR Ak Dn))
    (λid d5 jn jc fi a3 fc kR=>j? id d5 jn jc fi a3 fc (aj.trans kR Ak Dn)) (λv fi a3 fc aF aL=>oP v fi a3 fc (aF.trans aj.keep.2.1) aL)
  .have a2:=j? id ax phx' ay w' a' ap (aj.mono Ak)
   revert a2;unfold lG;(repeat' split)<;>exact λh=>h
  exact oP v w' a' ap aF aL
 |.cond c x y=>λs ρ k r h phx M w a hm ac ge Q iU j? oP=>by
  simp only[run]at h;rw[aP.fb]at h;have Ak:∀t,t∈d2 x->t∈d2 (.cond c x y):=λt h=>yX _ h;have Dn:∀t,t∈d2 y->t∈d2 (.cond c x y):=λt h=>wE _ h;obtain⟨v,wr,O,R⟩:=oM h;obtain⟨_,aC⟩:=xP O ac;simp only at R;have aar:∀{ρ:Type} (k:jO (d8 rs)->aP ρ) (r:ρ),((run E rs res nv nt inl x s).bind k).bI=some r->(∀ax phx' ay w' a',(k (.nx ax)).bI=some r->fR K w0 (d2 x) s phx M w a ax phx' ay w' a'->Q .normal a' w') ->
   (∀id ax phx' ay w' a',(k (.ex id ax)).bI=some r->fR K w0 (d2 x) s phx M w a ax phx' ay w' a'->Q (lG E id) a' w') ->
   (∀v w' a',(k (.rt v)).bI=some r->a'.defers=a.defers->(∃us,sV P a'.tmps w' res us/\iu w0 K.x w' rs v (ja us))->Q .ret a' w')->x.wp P Q a w:=
   λk r hx g1 bw cX=>o4 hT cx g3 dA eo iS fL ej x s _ k r hx phx M w a hm ac ge Q g1 bw cX
  have aas:∀{ρ:Type} (k:jO (d8 rs)->aP ρ) (r:ρ),((run E rs res nv nt inl y s).bind k).bI=some r->(∀ax phx' ay w' a',(k (.nx ax)).bI=some r->fR K w0 (d2 y) s phx M w a ax phx' ay w' a'->Q .normal a' w') ->
   (∀id ax phx' ay w' a',(k (.ex id ax)).bI=some r->fR K w0 (d2 y) s phx M w a ax phx' ay w' a'->Q (lG E id) a' w') ->
   (∀v w' a',(k (.rt v)).bI=some r->a'.defers=a.defers->(∃us,sV P a'.tmps w' res us/\iu w0 K.x w' rs v (ja us))->Q .ret a' w')->y.wp P Q a w:=
   λk r hx g1 bw cX=>o4 hT cx g3 dA eo iS fL ej y s _ k r hx phx M w a hm ac ge Q g1 bw cX
  have V3:=λhx=>aar k r hx (λax phx' ay w' a' ap aj=>iU ax phx' ay w' a' ap (aj.mono Ak)) (λid ax phx' ay w' a' ap aj=>j? id ax phx' ay w' a' ap (aj.mono Ak)) oP;have V4:=λhx=>aas k r hx (λax phx' ay w' a' ap aj=>iU ax phx' ay w' a' ap (aj.mono Dn)) (λid ax phx' ay w' a' ap aj=>j? id ax phx' ay w' a' ap (aj.mono Dn)) oP;cases v<;>try(cases R)
  case kb t=>
   have aC:=aC;cases t with
   |true=>exact wp_cond_true aC (V3 R)
   |false=>exact wp_cond_false aC (V4 R)
  case sc ty t=>
   cases ty<;>try(cases R)
   have aC:=a?.bool aC;cases du:(E.U && !(pR [] x&&pR [] y)) with
   |true=>
    rw[du]at R;simp only[cond_true]at R;have ht:∃ny:Bool,ny=t:=⟨t,rfl⟩;obtain⟨ny,zT⟩:=ht;subst zT;cases ny with
    |true=>exact wp_cond_true aC (V3 R)
    |false=>exact wp_cond_false aC (V4 R)
   |false=>
   rw[du]at R;simp only[cond_false]at R;have br:((aP.br t (run E rs res nv nt inl x s) (run E rs res nv nt inl y s)).bind k).bI=some r->(Code.cond c x y).wp P Q a w:=λY=>by
    simp only[aP.bind,aP.bI,T]at Y;have ht:∃ny:Bool,ny=t:=⟨t,rfl⟩;obtain⟨ny,zT⟩:=ht;subst zT;cases ny with
    |true=>exact wp_cond_true aC (V3 Y)
    |false=>exact wp_cond_false aC (V4 Y)
   generalize(pR [] x&&pR [] y&&adn E)=c1 at R;cases c1 with
   |false=>exact br R
   |true=>
    simp only[cond_true]at R;rw[aP.fb]at R

    have UT:∀{ρ:Type} (k':aM->aP ρ) (qL:ρ),(((aP.br t ((run E rs res nv nt inl x s).mR At) ((run E rs res nv nt inl y s).mR At))).bind k').bI=some qL ->
     (∀ax phx' ay w' a',(k' ax).bI=some qL->fR K w0 (d2 (.cond c x y)) s phx M w a ax phx' ay w' a'->Q .normal a' w')->(Code.cond c x y).wp P Q a w:=by
     intro ρ k' qL Y kQ;simp only[aP.bind,aP.bI,T,aP.vV,aP.fb]at Y;have gm:∀{D:List Nat} (hJ:∀t,t∈D->t∈d2 (.cond c x y)),(∀ax phx' ay w' a',((aP.ug (At (.nx ax:jO (d8 rs)))).bind k').bI=some qL->fR K w0 D s phx M w a ax phx' ay w' a'->Q .normal a' w') /\
      (∀id ax phx' ay w' a',((aP.ug (At (.ex id ax:jO (d8 rs)))).bind k').bI=some qL->fR K w0 D s phx M w a ax phx' ay w' a'->Q (lG E id) a' w') /\
      (∀v w' a',((aP.ug (At (.rt v:jO (d8 rs)))).bind k').bI=some qL->a'.defers=a.defers->(∃us,sV P a'.tmps w' res us/\iu w0 K.x w' rs v (ja us))->Q .ret a' w'):=
      λhJ=>⟨λax phx' ay w' a' ap aj=>kQ ax phx' ay w' a' ap (aj.mono hJ),(λid ax phx' ay w' a' ap _=>by cases ap),(λv w' a' ap _ _=>by cases ap)⟩
     have ht:∃ny:Bool,ny=t:=⟨t,rfl⟩;obtain⟨ny,zT⟩:=ht;subst zT;cases ny with
     |true=>obtain⟨f1,f2,f3⟩:=gm Ak;exact wp_cond_true aC (aar _ qL Y f1 f2 f3)
     |false=>obtain⟨f1,f2,f3⟩:=gm Dn;exact wp_cond_false aC (aas _ qL Y f1 f2 f3)
    rcases S2 (λt ht=>(r0.1 ht).1) R with af|⟨ks,p,hp,hrest⟩
    .exact UT _ r af λax phx' ay w' a' ap aj=>iU ax phx' ay w' a' ap aj
    refine UT _ p hp λax phx' ay w' a' ap aj => ?_;have ni:((aP.ug (bif Nat.beq ax.w.length s.w.length then qk ax ks else none)).bind aP.leaf).bI=some p:=by rw[kq];exact ap
    obtain⟨rz,pH,iB⟩:=aP.TN ni;cases iB;cases cr:Nat.beq ax.w.length s.w.length with
    |false=>rw[cr]at pH;cases pH
    |true =>rw[cr,cond_true]at pH;have Sb:=aj.iz.mono λt ht=>Do.2 ht;obtain⟨d5,cf,cO,fi⟩:=hrest ax Sb.anS (fy cr) pH;refine iU d5 phx' ay w' a' fi ⟨cO.mono λt ht=>Do.1 ht,by rw[cf.2];exact aj.hd,by rw[cf.2];exact aj.ext,aj.slots.Oa cf,aj.keep⟩
 |.block id x=>λs ρ k r h phx M w a hm ac ge Q iU j? oP=>by
  simp only[run]at h;cases zR:Nat.ble ir id with
  |true=>rw[zR]at h;cases h
  |false=>
  rw[zR,cond_false,aP.fb]at h;have eC:id<ir:=by rw[<- Nat.not_le,<- EP,zR];simp
  refine wp_block (o4 hT cx g3 dA eo iS fL ej x s ρ _ r h phx M w a hm ac ge _ (λax phx' ay w' a' ap aj=>iU ax phx' ay w' a' ap aj) (λi ax phx' ay w' a' ap aj => ?_) (λv w' a' ap aF aL=>oP v w' a' ap aF aL));replace ap:((bif Nat.beq i id then aP.leaf (aE.nx ax) else aP.leaf (aE.ex i ax):aP (jO (d8 rs))).bind k).bI=some r:=ap;cases Y:Nat.beq i id with
  |true =>rw[Y]at ap;have hi:=fy Y;rw[Zx (by rw[hi];exact eC)];simp only[Exit.inBlock];rw[if_pos hi];exact iU ax phx' ay w' a' ap aj
  |false=>
   rw[Y]at ap;have a2:=j? i ax phx' ay w' a' ap aj;revert a2;unfold lG
   (repeat' split)<;>first
    |exact λh=>h
    | (
     simp only[Exit.inBlock];rw[if_neg (by rintro rfl;rw[BS]at Y;cases Y)];exact λh=>h)
 |.exit id=>λs ρ k r h phx M w a hm ac ge Q iU j? oP=>by
  simp only[run]at h;cases zR:Nat.ble ir id with
  |true=>rw[zR]at h;cases h
  |false=>
   rw[zR,cond_false]at h;have eC:id<ir:=by rw[<- Nat.not_le,<- EP,zR];simp
   have a2:=j? id s phx M w a h (fR.refl hm ac);rw[Zx eC]at a2;exact wp_exit a2
 |.ret=>λs ρ k r h phx M w a hm ac ge Q iU j? oP=>by
  simp only[run]at h;cases Sh:inl with
  |true =>rw[Sh,cond_true]at h;have a2:=j? ir s phx M w a h (fR.refl hm ac);exact wp_ret a2
  |false=>
  rw[Sh,cond_false,aP.fb]at h;obtain⟨vs,us,O,R,af⟩:=x7 hT h hm ac;rw[aP.fb]at O;obtain⟨x,ay,B',aq,bD,rM,_,ux⟩:=DW O hm R (U:=λ_=>False) ⟨λ_ _ _ _ h=>h,λ_ h=>h.elim⟩;have lc:=fL Sh;rw[show(λb=>¬K.k b)=(λb=>¬b<w0.heap.size) from funext λb=>by rw[lc b]]at ux;refine wp_ret (oP x w a aq rfl ⟨us,af,ay,bD.os,bD.tape,bD.output,bD.size,λb Y=>bD.keep b ((lc b).2 Y),λb Y=>bD.hid b ((lc b).2 Y),bD.mlt,us,ux,rfl⟩)
 |.loop b=>by
  cases du:E.U with
  |false=>exact asQ du (o4 hT cx g3 dA eo iS fL ej b)
  |true=>exact ayh du (o4 hT cx g3 dA eo iS fL ej b)
 |.goto l=>λs ρ k r h=>by simp only[run]at h;cases h
 |.scope c=>λs ρ k r h phx M w a hm ac ge Q iU j? oP=>by refine wp_scope_straight (o4 hT cx g3 dA eo iS fL ej c s ρ k r h phx M w a hm ac ge _ iU (λid ax phx' ay w' a' ap aj => ?_) oP);have a2:=j? id ax phx' ay w' a' ap aj;revert a2;unfold lG;(repeat' split)<;>exact λh=>h
 |.refuse why=>λs ρ k r h=>by simp only[run]at h;cases h
 |.rangeFunc f aZ x y=>λs ρ k r h=>by simp only[run]at h;cases h
end
end Yp
namespace Yp
open Go
def wu:=@Array.getElem?_replicate
def yV:=@Array.getElem?_append_left
def EW:=@Array.getElem?_append_right
def Jw:=@Bool.not_true
variable {P:Program}
def ZN:∀(n i:Nat) (s:aM),∃cq:aM,cq.h=s.h/\cq.w=s.w/\(∀(γ:Type 1) (k:dH->γ),K6 n i s.t k=k cq.t)/\(∀j,cq.bX j=s.bX j\/(i<=j/\(cq.bX j=.undef\/cq.bX j=.bad)))
 |0,i,s=>⟨s,rfl,rfl,λ_ _=>rfl,λ_=>.inl rfl⟩
 |n+1,i,s=>by
  obtain⟨cq,O,R,af,aq⟩:=ZN n (i+1) (s.lu i .undef);refine⟨cq,O,R,λγ k => ?_,λj => ?_⟩
  .simp only[K6,UP];exact af γ k
  rcases aq j with h|⟨h,bL⟩
  .by_cases an:j=i
   .subst an
    right;refine⟨bU _,?_⟩;rw[h];exact s.Ga j .undef
   left;rw[h,s.vc _ an]
  grind
def F7(n:Nat):∀(vs:List au) (i:Nat) (s:aM),∃cq:aM,cq.h=s.h/\cq.w=s.w/\(∀(γ:Type 1) (k:dH->γ),fill n vs i s.t k=k cq.t) /\
  ∀j,cq.bX j=s.bX j\/(∃v,i<=j/\vs[j-i]?=some v/\(cq.bX j=v\/cq.bX j=.bad))\/(i+vs.length<=j/\(cq.bX j=.undef\/cq.bX j=.bad))
 |[],i,s=>by obtain⟨cq,O,R,af,aq⟩:=ZN (n-i) i s;exact⟨cq,O,R,af,λj=>(aq j).imp id λh=>.inr ⟨by simpa using h.1,h.2⟩⟩
 |v::vs,i,s=>by
  obtain⟨cq,O,R,af,aq⟩:=F7 n vs (i+1) (s.lu i v);refine⟨cq,O,R,λγ k => ?_,λj => ?_⟩
  .simp only[fill,w9,UP];exact af γ k
  rcases aq j with h|⟨u,an,h,bL⟩|⟨h,bL⟩
  .by_cases an:j=i
   .subst an
    right;left;refine⟨v,bU _,bh,?_⟩;rw[h];exact s.Ga j v
   left;rw[h,s.vc _ an]
  .grind
  grind
def Pj{H:cg}{phx:cc}{B:Nat->aQ}:∀{ts:List ae} {x:hZ ts} {vs:List Value},pc H ts x vs->(m7 ts x).length=vs.length/\∀(j:Nat) (p:au),(m7 ts x)[j]?=some p->∃v:Value,vs[j]?=some v/\a? phx H B p v
 |[],x,vs,h=>by have h:vs=[]:=h;subst h;exact⟨rfl,λj p h=>by simp[m7]at h⟩
 |t::ts,x,vs,h=>by
  obtain⟨cs,d3,rfl,O,R⟩:=h;obtain⟨g1,bw⟩:=Pj (phx:=phx) (B:=B) R;refine⟨by simp[m7,g1],λj p an => ?_⟩;cases j with
  |zero =>simp only[m7,O2,km]at an;subst an;exact⟨_,rfl,cs,O,rfl⟩
  |succ j =>simp only[m7,JF]at an;obtain⟨v,af,aq⟩:=bw j p an;exact⟨v,by simpa using af,aq⟩
structure nC(P:Program)(E:db):Prop where
 b8:mV P E.b8
 C:ps P E.b8 E.C
 M:qA P E.M
 G:∀f s,E.G f=some s->fG P f s
 K : ∀ g, E.K = some g → P.globalNamed "yett/sha.keys" = some g
 I:∀f g,E.I f=some g->j3 P f g
 X:∀f s,E.X f=some s->ij P f s
 Q:∀f s,E.Q f=some s->EX P E f s
 P:∀m t,E.Pn=some (m,t)->yY P m t
def U7{w:World}{X:Nat->Prop}{ts:List ae}{x:hZ ts}{vs:List Value}(dg:∀b,X b->b<w.heap.size)(kP:lM P (view w X))(iO:pc (view w X) ts x vs)(n:Nat):
  ∃s:aM,(∀(γ:Type 1) (k:dH->γ),fill n (m7 ts x) 0 .e k=k s.t)/\(⟨s.t,[],[]⟩:aM)=s/\Mem ⟨λb=>b<w.heap.size,X⟩ w (λ_=>none) X s.aR w /\
   dw (λ_=>none) (view w X) s.aR s.bX { tmps:=vs.toArray++Array.replicate (n-vs.toArray.size) undef,defers:=[] }/\n<=(vs.toArray++Array.replicate (n-vs.toArray.size) undef).size/\pe P ⟨λb=>b<w.heap.size,X⟩ w:=by
 obtain⟨s,O,R,af,aq⟩:=F7 n (m7 ts x) 0 ⟨.e,[],[]⟩;have ac:(⟨s.t,[],[]⟩:aM)=s:=by cases s;simp only at O R;rw[O,R]
 let K:Kp:=⟨λb=>b<w.heap.size,X⟩
 have aB:s.aR=λ_=>aQ.new:=by funext j;unfold aM.aR;rw[O];rfl
 have hm:Mem K w (λ_=>none) X s.aR w:=by rw[aB];exact⟨rfl,rfl,rfl,bU _,λ_ _=>rfl,λ_ h=>h,λ_ _=>pm,(λ_ h=>by cases h),dg,λ_=>trivial,(λ_ _ _ h=>by cases h)⟩
 obtain⟨g1,bw⟩:=Pj (phx:=λ_=>none) (B:=s.aR) iO;have oQ:dw (λ_=>none) (view w X) s.aR s.bX { tmps:=vs.toArray++Array.replicate (n-vs.toArray.size) undef,defers:=[] }:=by
  intro j;have zD:(⟨.e,[],[]⟩:aM).bX j=.bad:=dH.vd 40 j;rcases aq j with h|⟨p,_,h,bL⟩|⟨h,bL⟩
  .rw[h,zD];trivial
  .rcases bL with bL|bL<;>rw[bL]
   .obtain⟨v,aC,ah⟩:=bw j p (by simpa using h)
    have bm:j<vs.length:=(mt.1 aC).1;have:(vs.toArray++Array.replicate (n-vs.toArray.size) undef).getD j undef=v:=by rw[mv,yV (by simpa using bm)];simp[aC]
    show a? _ _ _ p ((vs.toArray++Array.replicate (n-vs.toArray.size) undef).getD j undef);rw[this];exact ah
   trivial
  rcases bL with bL|bL<;>rw[bL]
  .have bm:vs.length<=j:=by rw[g1]at h;simpa using h
   have:(vs.toArray++Array.replicate (n-vs.toArray.size) undef).getD j undef=undef:=by
    rw[mv,EW (by simpa using bm)];by_cases an:j-vs.toArray.size<n-vs.toArray.size
    .rw[wu,if_pos an];rfl
    rw[wu,if_neg an];rfl
   exact this
  trivial
 have mN:n<=(vs.toArray++Array.replicate (n-vs.toArray.size) undef).size:=fs;have gn:pe P K w:=⟨λg hg=>by
  obtain⟨a,cap,O,_,_,aq⟩:=aH.ic.1 (kP g hg);simp only[yU,Value.slice.injEq,and_true]at O;obtain⟨rfl,_,rfl⟩:=O;rcases aq with aq|⟨b,o,c,el,fz,bG,b_,_⟩
  .cases aq
  cases bG;exact(ip.1 (js.1 b_).2).1,kP⟩
 exact⟨s,λγ k=>af γ k,ac,hm,oQ,mN,gn⟩
def ati {E : db} (b? : nC P E) (iS : P.follows .mixedOrders = true)  {fn : Func} (hf : P.funcs[f]? = some fn) (su : (fn.name == "runtime.NumGoroutine") = false)
  (nv:Nat) (ts:List ae) (rs:List ef) (Y:fn.body.isSome=true):fG P f ⟨ts,rs,Mf E fn nv ts rs⟩:=by
 refine⟨⟨fn,hf,Y,su⟩,?_⟩;intro w X x vs r dg kP iO eK;unfold Mf at eK;cases iP:fn.body with
 |none=>rw[iP]at Y;cases Y
 |some c=>
  rw[iP]at eK;simp only at eK;cases bY:Nat.ble fn.ntmps 1000000 with
  |false=>rw[bY]at eK;cases eK
  |true=>
   rw[bY]at eK;have ej:=by simpa using bY
   obtain⟨s,af,ac,hm,oQ,mN,gn⟩:=U7 (P:=P) dg kP iO fn.ntmps;rw[af,ac]at eK;refine calls_of_wp hf iP ?_
   let K:Kp:=⟨λb=>b<w.heap.size,X⟩
   refine o4 (P:=P) (w0:=w) (K:=K) b?.b8 b?.C b?.M ⟨b?.G,b?.K,λ_=>gn,λf s h=>⟨b?.X f s h,gn⟩,b?.P,λf s h=>⟨b?.Q f s h,gn⟩⟩ b?.I iS (λ_ b=>pm) ej c s (d8 rs) _ r eK (λ_=>none) X w _ hm oQ mN _ (λax phx' ay w' a' ap aj => ?_) (λid ax phx' ay w' a' ap aj=>by cases ap) (λy w' a' ap aF aL => ?_)
   .obtain⟨mX,us,bG,b_,cp⟩:=x7 b?.b8 ap aj.hd aj.slots
    have Ug:((n_ ax rs mX).bind aP.leaf).bI=some r:=by rw[kq];exact bG
    obtain⟨y,c8,b4,dl,bD,rM,_,ux⟩:=DW (K:=K) (w0:=w) Ug aj.hd b_ (U:=λ_=>False) ⟨λ_ _ _ _ h=>h,λ_ h=>h.elim⟩;cases dl;exact⟨aj.keep.2.1,ja us,v7 cp,ja us,rfl,c8,bD.os,bD.tape,bD.output,bD.size,λb Y=>bD.keep b Y,λb Y=>bD.hid b Y,bD.mlt,us,ux,rfl⟩
   cases ap;obtain⟨us,bG,b_⟩:=aL;exact⟨aF,ja us,v7 bG,ja us,rfl,b_⟩
def L7{ρ:Type}:aP (jO ρ)->aM
 |.leaf (.nx s)=>s
 |_=>default
def Mn {E : db} (b? : nC P E) (iS : P.follows .mixedOrders = true)  {fn : Func} (hf : P.funcs[f]? = some fn) (su : (fn.name == "runtime.NumGoroutine") = false)
  (nv:Nat) (ts:List ae) (rs:List ef) {A C X Z:Code} {k:Nat} (iP:fn.body=some (.seq A (.seq (.seq C (.cond (.tmp k) X .skip)) Z))) (ej:fn.ntmps<=1000000) {m:hZ ts->Option (d8 rs)} (cJ:hZ ts->aM) (c:hZ ts->Bool)
  (O:∀x,(fill fn.ntmps (m7 ts x) 0 .e λt=>aP.bind (run E rs fn.results.toList nv fn.ntmps false A ⟨t,[],[]⟩) fun|.nx s=>run E rs fn.results.toList nv fn.ntmps false C s|o=>.leaf o)=.leaf (.nx (cJ x)))
  (R:∀x,(cJ x).bX k=.nq (c x)) (af:∀x r,c x=true->m x=some r->(run E rs fn.results.toList nv fn.ntmps false X (cJ x)).bI=some (.rt r))
  (aq:∀x r,m x=some r->(run E rs fn.results.toList nv fn.ntmps false Z (cJ x)).bI=some (.rt r)):fG P f ⟨ts,rs,m⟩:=by
 refine⟨⟨fn,hf,by rw[iP];rfl,su⟩,?_⟩;intro w Pa x vs r dg kP iO eK;have eK:m x=some r:=eK;obtain⟨s,dJ,ac,hm,oQ,mN,gn⟩:=U7 (P:=P) dg kP iO fn.ntmps;have sm:=O x;rw[dJ,ac]at sm;refine calls_of_wp hf iP ?_
 let K:Kp:=⟨λb=>b<w.heap.size,Pa⟩
 have dW:ot P E K w:=⟨b?.G,b?.K,λ_=>gn,λf s h=>⟨b?.X f s h,gn⟩,b?.P,λf s h=>⟨b?.Q f s h,gn⟩⟩;have aY:=λ(c:Code)=>o4 (P:=P) (w0:=w) (K:=K) (rs:=rs) (res:=fn.results.toList) (nv:=nv) (nt:=fn.ntmps) (inl:=false) b?.b8 b?.C b?.M dW b?.I iS (λ_ b=>pm) ej c;have iR:((run E rs fn.results.toList nv fn.ntmps false A s).bind fun|.nx s=>run E rs fn.results.toList nv fn.ntmps false C s|o=>.leaf o).bI=some (.nx (cJ x)):=by rw[sm];rfl
 refine wp_seq (aY A s _ _ _ iR _ Pa w _ hm oQ mN _ (λax phx' ay w' a' ap aj => ?_) (λid ax phx' ay w' a' ap aj=>by cases ap) (λy w' a' ap aF aL=>by cases ap));have ap:((run E rs fn.results.toList nv fn.ntmps false C ax).bind .leaf).bI=some (.nx (cJ x)):=by rw[kq];exact ap
 refine wp_seq (wp_seq (aY C ax _ _ _ ap phx' ay w' a' aj.hd aj.slots (by rw[aj.keep.1];exact mN) _ (λd5 jn jc fi a3 fc kR => ?_) (λid d5 jn jc fi a3 fc kR=>by cases fc) (λy fi a3 fc aF aL=>by cases fc)));cases fc;have kQ:=aj.trans kR (Jq:=d2 A++d2 C) (λt h=>yX _ h) (λt h=>wE _ h);have aqB:fn.ntmps<=a3.tmps.size:=by rw[kQ.keep.1];exact mN
 have gm:∀(EN:Code) (Q:Exit->Act->World->Prop),(run E rs fn.results.toList nv fn.ntmps false EN (cJ x)).bI=some (.rt r) ->
   (∀a' w',a'.defers=[]->(∃us,sV P a'.tmps w' fn.results.toList us/\iu w Pa w' rs r (ja us))->Q .ret a' w')->EN.wp P Q a3 fi:=λEN Q aA a2=>by
  have aA:((run E rs fn.results.toList nv fn.ntmps false EN (cJ x)).bind .leaf).bI=some (.rt r):=by rw[kq];exact aA
  refine aY EN (cJ x) _ _ _ aA jn jc fi a3 kQ.hd kQ.slots aqB Q (λeu T8 aip hq a4 jD aqp=>by cases jD) (λid eu T8 aip hq a4 jD aqp=>by cases jD) (λy hq a4 jD aF aL => ?_);cases jD;exact a2 a4 hq (aF.trans kQ.keep.2.1) aL
 have a2:a? jn (view fi jc) (cJ x).aR (.nq (c x)) (a3.eval (.tmp k)):=by rw[<- R x];exact kQ.slots k
 obtain⟨b,Y,ai⟩:=a2;cases b with
 |true =>refine wp_cond_true Y (gm X _ (af x r (ai rfl) eK) λa4 hq aF ⟨us,bG,b_⟩ => ?_);exact⟨aF,ja us,v7 bG,ja us,rfl,b_⟩
 |false =>refine wp_cond_false Y (wp_skip (gm Z _ (aq x r eK) λa4 hq aF ⟨us,bG,b_⟩ => ?_));exact⟨aF,ja us,v7 bG,ja us,rfl,b_⟩
def ax7{phx:cc}{H:cg}{B:Nat->aQ}{vs:List au}{us:List Value}(h:gi phx H B vs us)(aj:vs.all vT=true):a? phx H B (Bi vs) (ja us):=by
 have asM:∀{vs:List au} {us:List Value},gi phx H B vs us->vs.all vT=true->lD phx H B (vs.foldr au.two (.sc .unit ())) us:=by
  intro vs;induction vs with
  |nil=>intro us h _;cases us with
   |nil=>rfl
   |cons=>exact h.elim
  |cons v vs ih=>
   intro us h aj;cases us with
   |nil=>exact h.elim
   |cons u us =>simp only[uO,cM]at aj;exact⟨u,us,rfl,Ep h.1 (ads aj.1),ih h.2 aj.2⟩
 match vs,us,h,aj with
 |[],[],_,_=>exact⟨[],rfl,rfl⟩
 |[v],[u],h,_=>exact h.1
 |v::cY::vs,u::u'::us,h,aj=>exact⟨_,asM h aj,rfl⟩
def Ue{H:cg}{phx:cc}{B:Nat->aQ}:∀{aZ:List au} {vs:List Value},gi phx H B aZ vs->∀(j:Nat) (p:au),aZ[j]?=some p->∃v:Value,vs[j]?=some v/\a? phx H B p v
 |[],[],_,j,p,h=>by simp at h
 |p::aZ,v::vs,h,j,q,an=>by
  cases j with
  |zero=>simp only[O2,km]at an;subst an;exact⟨v,rfl,h.1⟩
  |succ j =>simp only[JF]at an;obtain⟨u,O,R⟩:=Ue h.2 j q an;exact⟨u,by simpa using O,R⟩
 |[],_::_,h,_,_,_=>h.elim
 |_::_,[],h,_,_,_=>h.elim
def ar1 {E : db} (b? : nC P E) (iS : P.follows .mixedOrders = true)  {fn : Func} (hf : P.funcs[f]? = some fn) (su : (fn.name == "runtime.NumGoroutine") = false)
  (nv:Nat) (Y:fn.body.isSome=true):j3 P f (h1 E fn nv):=by
 refine⟨⟨fn,hf,Y,su⟩,?_⟩;intro K w0 gn b9 aZ s ρ k r h phx M w vs hm dd;unfold h1 at h;cases iP:fn.body with
 |none=>rw[iP]at Y;cases Y
 |some c=>
  rw[iP]at h;simp only at h;cases bY:Nat.ble fn.ntmps 1000000 with
  |false=>rw[bY]at h;cases h
  |true=>
   rw[bY]at h;simp only[Jw,cond_false]at h;have ej:fn.ntmps<=1000000:=by simpa using bY
   obtain⟨bp,O,R,af,aq⟩:=F7 fn.ntmps aZ 0 ⟨.e,s.h,s.w⟩;rw[af]at h;have ac:(⟨bp.t,s.h,s.w⟩:aM)=bp:=by cases bp;simp only at O R;rw[O,R]
   rw[ac,aP.fb]at h;refine calls_of_wp hf iP ?_;have aB:bp.aR=s.aR:=by funext j;unfold aM.aR;rw[O]
   have st:Mem K w0 phx M bp.aR w:=by rw[aB];exact hm
   have g1:=dd.length;have bw:=Ue dd;have oQ:dw phx (view w M) bp.aR bp.bX { tmps:=vs.toArray++Array.replicate (fn.ntmps-vs.toArray.size) undef,defers:=[] }:=by
    intro j;rw[aB];have zD:(⟨.e,s.h,s.w⟩:aM).bX j=.bad:=dH.vd 40 j;rcases aq j with h|⟨p,_,h,bL⟩|⟨h,bL⟩
    .rw[h,zD];trivial
    .rcases bL with bL|bL<;>rw[bL]
     .obtain⟨v,aC,ah⟩:=bw j p (by simpa using h)
      have bm:j<vs.length:=(mt.1 aC).1;have:(vs.toArray++Array.replicate (fn.ntmps-vs.toArray.size) undef).getD j undef=v:=by rw[mv,yV (by simpa using bm)];simp[aC]
      show a? _ _ _ p ((vs.toArray++Array.replicate (fn.ntmps-vs.toArray.size) undef).getD j undef);rw[this];exact ah
     trivial
    rcases bL with bL|bL<;>rw[bL]
    .have bm:vs.length<=j:=by rw[g1]at h;simpa using h
     have:(vs.toArray++Array.replicate (fn.ntmps-vs.toArray.size) undef).getD j undef=undef:=by
      rw[mv,EW (by simpa using bm)];by_cases an:j-vs.toArray.size<fn.ntmps-vs.toArray.size
      .rw[wu,if_pos an];rfl
      rw[wu,if_neg an];rfl
     exact this
    trivial
   have mN:fn.ntmps<=(vs.toArray++Array.replicate (fn.ntmps-vs.toArray.size) undef).size:=fs

   have gm:∀ax phx' ay w' a',(((mT { E with b:=b9 } ax fn.results.toList).bind λvs=>bif vs.all vT then .leaf (Bi vs,(⟨s.t,ax.h,ax.w⟩:aM)) else .fail).bind k).bI=some r ->
     fR K w0 (d2 c) bp phx M w { tmps:=vs.toArray++Array.replicate (fn.ntmps-vs.toArray.size) undef,defers:=[] } ax phx' ay w' a' ->
     a'.defers=[]/\∃v,(results fn a'.tmps).run P w'=.ok v w'/\(∃b2,Ending.returned v=.returned b2/\∃v ax phx' ay,(k (v,ax)).bI=some r/\Mem K w0 phx' ay ax.aR w'/\cm phx M s.aR w phx' ay ax.aR w'/\a? phx' (view w' ay) ax.aR v b2/\dY [] s ax):=by
    intro ax phx' ay w' a' ap aj;rw[aP.fb]at ap;obtain⟨mX,us,bG,b_,cp⟩:=x7 (E:={ E with b:=b9 }) b?.b8 ap aj.hd aj.slots;cases hall:mX.all vT with
    |false=>rw[hall]at bG;cases bG
    |true =>rw[hall,cond_true]at bG;have bG:(k (Bi mX,(⟨s.t,ax.h,ax.w⟩:aM))).bI=some r:=bG;have j_:(⟨s.t,ax.h,ax.w⟩:aM).aR=ax.aR:=rfl;refine⟨aj.keep.2.1,ja us,v7 cp,ja us,rfl,Bi mX,⟨s.t,ax.h,ax.w⟩,phx',ay,bG,aj.hd,by rw[<- aB];exact aj.ext,ax7 b_ hall,λ_ _=>rfl,?_⟩;obtain⟨_,fQ,f1,f2⟩:=aj.iz;exact⟨fQ,by show ax.w=fQ++s.w;rw[f1,R],λid hid=>by show ax.aR id=s.aR id;rw[f2 id hid,aB]⟩
   refine o4 (P:=P) (w0:=w0) (K:=K) (E:={ E with b:=b9 }) (inl:=true) b?.b8 b?.C b?.M ⟨b?.G,b?.K,λ_=>gn,λf s h=>⟨b?.X f s h,gn⟩,b?.P,λf s h=>⟨b?.Q f s h,gn⟩⟩ b?.I iS (λh=>by cases h) ej c bp ρ _ r h phx M w _ st oQ mN _ (λax phx' ay w' a' ap aj => ?_) (λid ax phx' ay w' a' ap aj => ?_) (λy w' a' ap aF aL=>by cases ap)
   .exact gm ax phx' ay w' a' ap aj
   replace ap:((bif Nat.beq id ir then(mT { E with b:=b9 } ax fn.results.toList).bind λvs=>bif vs.all vT then .leaf (Bi vs,(⟨s.t,ax.h,ax.w⟩:aM)) else .fail else .fail:aP (au×aM)).bind k).bI=some r:=ap;cases Y:Nat.beq id ir with
   |false=>rw[Y]at ap;cases ap
   |true =>rw[Y,cond_true]at ap;unfold lG;rw[if_pos (fy Y)];exact gm ax phx' ay w' a' ap aj
def agJ{w:World}{X:Nat->Prop}{ts:List ae}{x:hZ ts}{vs:List Value}{t:ae}{y:t.aD}{b o:Nat}{c:Array Value}{el:TypeId}{fz:Nat×Nat}(dg:∀k,X k->k<w.heap.size)(kP:lM P (view w X))(vg:X b)
  (hh:w.heap[b]?=some (.cells c el fz)) (aK:o+t.size<=c.size) (xo:h4 c fz) (hy:aH (view w X) t y (cH c o t.size)) (iO:pc (view w X) ts x vs) (n:Nat) :
  ∃s:aM,(∀(γ:Type 1) (k:dH->γ),fill n (.ptr 3 []::m7 ts x) 0 .e k=k s.t)/\(⟨s.t,[(3,.box t (.sc t y))],[]⟩:aM)=s/\Mem ⟨λk=>k<w.heap.size/\k≠b,X⟩ w (λj=>if j=3 then some (b,o,c.size) else none) X s.aR w /\
   dw (λj=>if j=3 then some (b,o,c.size) else none) (view w X) s.aR s.bX { tmps:=(Value.pointer (some ⟨b,o,none⟩)::vs).toArray++Array.replicate (n-(Value.pointer (some ⟨b,o,none⟩)::vs).toArray.size) undef,defers:=[] } /\
   n<=((Value.pointer (some ⟨b,o,none⟩)::vs).toArray++Array.replicate (n-(Value.pointer (some ⟨b,o,none⟩)::vs).toArray.size) undef).size/\pe P ⟨λk=>k<w.heap.size/\k≠b,X⟩ w:=by
 obtain⟨s,O,R,af,aq⟩:=F7 n (.ptr 3 []::m7 ts x) 0 ⟨.e,[(3,.box t (.sc t y))],[]⟩;have ac:(⟨s.t,[(3,.box t (.sc t y))],[]⟩:aM)=s:=by cases s;simp only at O R;rw[O,R]
 have aB:s.aR=λj=>if j=3 then aQ.box t (.sc t y) else .new:=by
  funext j;unfold aM.aR;rw[O];simp only[qz];by_cases an:j=3
  .subst an;rfl
  rw[if_neg an];cases Y:Nat.beq 3 j with
  |true=>exact absurd (fy Y).symm an
  |false=>rfl
 have mM:∀j,(s.aR j).fv=true->j=3:=λj an=>by
  rw[aB]at an;by_cases h:j=3
  .exact h
  simp only[if_neg h]at an;cases an
 have hm:Mem ⟨λk=>k<w.heap.size/\k≠b,X⟩ w (λj=>if j=3 then some (b,o,c.size) else none) X s.aR w:=by
  refine⟨rfl,rfl,rfl,bU _,λ_ _=>rfl,λ_ h=>h.1,λ_ _=>pm,λj an z bj ap => ?_,dg,λj => ?_,λi j i3 hi an=>absurd ((mM i hi).trans (mM j an).symm) i3⟩
  .grind
  by_cases h:j=3
  .subst h
   rw[aB];exact⟨b,o,c,el,fz,rfl,hh,aK,⟨rfl,hy⟩,xo,vg⟩
  rw[aB];simp only[if_neg h];exact trivial
 obtain⟨g1,bw⟩:=Pj (phx:=λj=>if j=3 then some (b,o,c.size) else none) (B:=s.aR) iO;have oQ:dw (λj=>if j=3 then some (b,o,c.size) else none) (view w X) s.aR s.bX { tmps:=(Value.pointer (some ⟨b,o,none⟩)::vs).toArray++Array.replicate (n-(Value.pointer (some ⟨b,o,none⟩)::vs).toArray.size) undef,defers:=[] }:=by
  intro j;have zD:(⟨.e,[(3,.box t (.sc t y))],[]⟩:aM).bX j=.bad:=dH.vd 40 j;rcases aq j with h|⟨p,_,h,bL⟩|⟨h,bL⟩
  .rw[h,zD];trivial
  .rcases bL with bL|bL<;>rw[bL]
   .have aC:∃v:Value,(Value.pointer (some ⟨b,o,none⟩)::vs)[j]?=some v/\a? (λj=>if j=3 then some (b,o,c.size) else none) (view w X) s.aR p v:=by
     rw[Nat.sub_zero]at h;cases j with
     |zero =>simp at h;subst h;refine⟨_,rfl,?_⟩;rw[aB];exact⟨b,o,c.size,0,t,rfl,by simp only[ae.d?],rfl⟩
     |succ j =>exact bw j p h
    obtain⟨v,aC,ah⟩:=aC;have bm:=(mt.1 aC).1;have:((Value.pointer (some ⟨b,o,none⟩)::vs).toArray++Array.replicate (n-(Value.pointer (some ⟨b,o,none⟩)::vs).toArray.size) undef).getD j undef=v:=by rw[mv,yV (by simpa using bm),wF,aC];rfl
    rw[this];exact ah
   trivial
  rcases bL with bL|bL<;>rw[bL]
  .have bm:(Value.pointer (some ⟨b,o,none⟩)::vs).length<=j:=by simp at h ⊢;omega
   have:((Value.pointer (some ⟨b,o,none⟩)::vs).toArray++Array.replicate (n-(Value.pointer (some ⟨b,o,none⟩)::vs).toArray.size) undef).getD j undef=undef:=by
    rw[mv,EW (by simpa using bm)];by_cases an:j-(Value.pointer (some ⟨b,o,none⟩)::vs).toArray.size<n-(Value.pointer (some ⟨b,o,none⟩)::vs).toArray.size
    .rw[wu,if_pos an];rfl
    rw[wu,if_neg an];rfl
   exact this
  trivial
 have mN:n<=((Value.pointer (some ⟨b,o,none⟩)::vs).toArray++Array.replicate (n-(Value.pointer (some ⟨b,o,none⟩)::vs).toArray.size) undef).size:=by rw[wI,Array.size_replicate];omega
 have gn:pe P ⟨λk=>k<w.heap.size/\k≠b,X⟩ w:=⟨λg hg=>by
  obtain⟨a,cap,O,_,_,aq⟩:=aH.ic.1 (kP g hg);obtain⟨rfl,_,rfl⟩:=O;rcases aq with aq|⟨b',di,cL,w5,pB,bG,b_,_⟩
  .cases aq
  cases bG;obtain⟨cp,dl⟩:=js.1 b_;exact⟨(ip.1 dl).1,λe=>cp (e▸vg)⟩,kP⟩
 exact⟨s,λγ k=>af γ k,ac,hm,oQ,mN,gn⟩
def PD{K:Kp}{w0 w:World}{phx:cc}{M:Nat->Prop}{B B':Nat->aQ}{g:Nat->au}{t:ae}{x:t.aD}{b o n:Nat}(h:(Fr t).aY g B=some (x,B'))(hm:Mem K w0 phx M B w)(hx:phx 3=some (b,o,n)):
  ∃ay,Mem K w0 phx ay B' w/\cm phx M B w phx ay B' w/\ay b/\B' 3=.e9/\∃c el fz,w.heap[b]?=some (.cells c el fz)/\c.size=n/\h4 c fz/\aH (view w ay) t x (cH c o t.size)/\∀j,j≠3->(B' j).fv=true->∀z,phx j=some z->z.1≠b:=by
 simp only[Fr,aw.aY]at h;have Y:=hm.blks 3;generalize aB:B 3=bl at h Y;cases bl<;>try(cases h;done)
 rename_i t' u;dsimp only at h;cases gH:ae.is t' t with
 |false=>rw[gH]at h;cases h
 |true=>
  rw[gH]at h;simp only[cond]at h;have ht:=eD gH;subst ht;obtain⟨b',di,c,el,fz,bG,b_,cp,dl,eQ,lq⟩:=Y;rw[hx,km,kH,kH]at bG;obtain⟨rfl,rfl,rfl⟩:=bG;obtain⟨y,cS,O,R⟩:=aw.cA h;obtain⟨fr,bD,e1,_,f1,f2⟩:=I4 O hm dl;simp only[aw.aY]at R;have hb2:=bD.blks 3;generalize j_:cS 3=bl2 at R hb2;cases bl2<;>try(cases R;done)
  rename_i ev uF;dsimp only at R;cases tX:ae.is ev t' with
  |false=>rw[tX]at R;cases R
  |true =>rw[tX]at R;simp only[cond,aw.aY]at R;cases R;obtain⟨ei,mf,c2,Zk,aae,dF,gp,lk,xS,xU,sO⟩:=hb2;rw[hx,km,kH,kH]at dF;obtain⟨rfl,rfl,_⟩:=dF;obtain⟨cn,aN⟩:=bD.e9 3;refine⟨fr,cn,e1.trans aN,sO,eM _ _ _,c,el,fz,b_,rfl,eQ,f2 rfl,λj an qu z bj e => ?_⟩;rw[d6 _ _ an]at qu;exact bD.sep j 3 an qu (by rw[j_];rfl) z _ bj hx e
def atf {E : db} (b? : nC P E) (iS : P.follows .mixedOrders = true)  {fn : Func} (hf : P.funcs[f]? = some fn) (su : (fn.name == "runtime.NumGoroutine") = false)
  (nv:Nat) (t:ae) (ts:List ae) (rs:List ef) (Y:fn.body.isSome=true):ij P f ⟨t,ts,rs,HC E fn nv t ts rs⟩:=by
 refine⟨⟨fn,hf,Y,su⟩,?_⟩;intro w X b o c el fz x y vs r dg kP vg hh aK xo hx iO eK;have eK:HC E fn nv t ts rs (x,y)=some r:=eK;unfold HC at eK;cases iP:fn.body with
 |none=>rw[iP]at Y;cases Y
 |some Ce=>
  rw[iP]at eK;simp only at eK;cases bY:Nat.ble fn.ntmps 1000000 with
  |false=>rw[bY]at eK;cases eK
  |true=>
   rw[bY]at eK;simp only[Jw,cond_false]at eK;have ej:fn.ntmps<=1000000:=by simpa using bY
   obtain⟨s,af,ac,hm,oQ,mN,gn⟩:=agJ (P:=P) dg kP vg hh aK xo hx iO fn.ntmps;rw[af,ac]at eK;refine calls_of_wp hf iP ?_
   let K:Kp:=⟨λk=>k<w.heap.size/\k≠b,X⟩
   have gm:∀ax phx' ay w' a',((sd E t rs fn.results.toList ax).bind aP.leaf).bI=some r->fR K w (d2 Ce) s (λj=>if j=3 then some (b,o,c.size) else none) X w { tmps:=(Value.pointer (some ⟨b,o,none⟩)::vs).toArray++Array.replicate (fn.ntmps-(Value.pointer (some ⟨b,o,none⟩)::vs).toArray.size) undef,defers:=[] } ax phx' ay w' a' ->
     a'.defers=[]/\∃v,(results fn a'.tmps).run P w'=.ok v w'/\∃b2,Ending.returned v=.returned b2/\EY w X b o c.size w' t r.1 rs r.2 b2:=by
    intro ax phx' ay w' a' ap aj;unfold sd at ap;rw[aP.fb]at ap;obtain⟨mX,us,bG,b_,cp⟩:=x7 b?.b8 ap aj.hd aj.slots;rw[aP.fb]at bG;obtain⟨z,wr,dF,gp⟩:=oM bG;have zW:phx' 3=some (b,o,c.size):=(aj.ext.pl 3 (by rw[show s.aR 3=.box t (.sc t x) by rw[<- ac];rfl];rfl)).trans (if_pos rfl);obtain⟨c8,cn,aN,bF,b3,cL,w5,pB,dp,fP,go,jE,ka⟩:=PD dF aj.hd zW;rw[aP.fb]at gp;rw[<- aM.nd]at cn aN b3 ka;have xq:kI phx' c8 (ax.ek wr).aR (λk=>k=b):=by
     refine⟨λj an y hy SP => ?_,λk ap=>ap▸bF⟩;by_cases GL:j=3
     .subst GL;rw[b3]at an;cases an
     exact ka j GL an y hy SP
    obtain⟨ayW,jc,uJ,dl,gJ,v3,RR,ux⟩:=DW (K:=K) (w0:=w) gp cn (b_.ext aN) xq;cases dl;refine⟨aj.keep.2.1,ja us,v7 cp,ja us,rfl,jc,gJ.os,gJ.tape,gJ.output,gJ.size,λk ap l'=>gJ.keep k ⟨ap,l'⟩,λk ap => ?_,gJ.mlt,⟨cL,w5,pB,dp,fP,go,jE.mono v3⟩,us,ux.lo ?_,rfl⟩
    .by_cases l':k=b
     .subst l';exact⟨λ_=>vg,λ_=>RR k rfl⟩
     exact gJ.hid k ⟨ap,l'⟩
    intro k qt du ap;exact qt ⟨ap,du⟩
   refine o4 (P:=P) (w0:=w) (K:=K) (inl:=true) b?.b8 b?.C b?.M ⟨b?.G,b?.K,λ_=>gn,λf s h=>⟨b?.X f s h,gn⟩,b?.P,λf s h=>⟨b?.Q f s h,gn⟩⟩ b?.I iS (λh=>by cases h) ej Ce s (t.aD×d8 rs) _ r eK (λj=>if j=3 then some (b,o,c.size) else none) X w _ hm oQ mN _ (λax phx' ay w' a' ap aj => ?_) (λid ax phx' ay w' a' ap aj => ?_) (λy w' a' ap aF aL=>by cases ap)
   .exact gm ax phx' ay w' a' (by rw[kq];exact ap) aj
   replace ap:((bif Nat.beq id ir then sd E t rs fn.results.toList ax else .fail:aP (t.aD×d8 rs))).bI=some r:=ap;cases Y:Nat.beq id ir with
   |false=>rw[Y]at ap;cases ap
   |true =>rw[Y,cond_true]at ap;unfold lG;rw[if_pos (fy Y)];exact gm ax phx' ay w' a' (by rw[kq];exact ap) aj
def ij.congr{t:ae}{ts:List ae}{rs:List ef}{m mQ:t.aD×hZ ts->Option (t.aD×d8 rs)}(h:ij P f ⟨t,ts,rs,m⟩)(aA:∀x,m x=mQ x):ij P f ⟨t,ts,rs,mQ⟩:=by
 have:=funext aA
 grind
def iD(f:Nat)(s:ik):xF [] f=some s->ij P f s:=λh=>by cases h
def hB{l:List (Nat×ik)}(h:∀f s,xF l f=some s->ij P f s){qN:ik}(ao:ij P f0 qN):∀f s,xF ((f0,qN)::l) f=some s->ij P f s:=by
 intro f s ac;simp only[xF]at ac;cases Y:Nat.beq f0 f with
 |true=>rw[Y]at ac;cases ac;rw[<- fy Y];exact ao
 |false=>rw[Y]at ac;exact h f s ac
def aX(f:Nat)(g:fJ):ua [] f=some g->j3 P f g:=λh=>by cases h
def fB{l:List (Nat×fJ)}(h:∀f g,ua l f=some g->j3 P f g){g0:fJ}(ao:j3 P f0 g0):∀f g,ua ((f0,g0)::l) f=some g->j3 P f g:=by
 intro f g ac;simp only[ua]at ac;cases Y:Nat.beq f0 f with
 |true=>rw[Y]at ac;cases ac;rw[<- fy Y];exact ao
 |false=>rw[Y]at ac;exact h f g ac
def aW(f:Nat)(s:eA):t? [] f=some s->fG P f s:=λh=>by cases h
def az{l:List (Nat×eA)}(h:∀f s,t? l f=some s->fG P f s){qN:eA}(ao:fG P f0 qN):∀f s,t? ((f0,qN)::l) f=some s->fG P f s:=by
 intro f s ac;simp only[t?]at ac;cases Y:Nat.beq f0 f with
 |true=>rw[Y]at ac;cases ac;rw[<- fy Y];exact ao
 |false=>rw[Y]at ac;exact h f s ac
def fG.congr{ts:List ae}{rs:List ef}{m mQ:hZ ts->Option (d8 rs)}(h:fG P f ⟨ts,rs,m⟩)(aA:∀x,m x=mQ x):fG P f ⟨ts,rs,mQ⟩:=by
 have:=funext aA
 grind
end Yp
namespace Yp
open Go Go.ChangeShapes Go.WideShapes Go.ChangeAt Go.RowKit
def fI:=@Nat.zero_le
def JS:=@List.length_range
def Ww:=@Option.bind_eq_some_iff
variable {P:Program} {H:Type} {enc:TypeId×Value->H}
def Cf{t:ae}{tid:TypeId}(h:(cP P t).1 tid):P.cellsOf tid=t.size:=by obtain⟨i,O,R,_⟩:=nc h;simp[Program.cellsOf,O,R]
def alZ{w:World}{base:Nat}{a:Addr}{n:Nat}{cs:List Value}(h:w.cells? base a n=some cs)(aj:0<n)(ac:a.spot=none):
  ∃c el fz,w.heap[a.block]?=some (.cells c el fz)/\a.off+n<=c.size/\cs=cH c a.off n:=by
 unfold World.cells? at h;split at h
 .have cr:=mapM_some_length h
  have GJ:=mapM_some_get h;simp at cr;have aa1:∀i,a.add i=⟨a.block,a.off+i,none⟩:=λi=>by obtain⟨b,o,s⟩:=a;subst ac;exact qc b o i
  have c':∀i,i<n->w.cell? ⟨a.block,a.off+i,none⟩=cs[i]?:=λi hi=>by
   grind
  have ao:=c' 0 aj;rw[jN J]at ao;cases Y:w.heap[a.block]? with
  |none=>simp[World.cell?,Y]at ao
  |some ob=>
   cases ob with
   |cells c el fz=>
    have ai:∀i,i<n->c[a.off+i]?=cs[i]?:=λi hi=>by rw[<- c' i hi,FE Y]
    have bY:a.off+n<=c.size:=by
     have:=ai (n-1) J
     grind
    refine⟨c,el,fz,rfl,bY,?_⟩;apply tf;intro i;by_cases hi:i<n
    .rw[uz hi,ai i hi]
    have hl:=pX bY
    grind
   |_=>simp[World.cell?,Y]at ao
 cases h
def Te{α:Type}{p:Nat->α->Prop}:∀(n:Nat),(∀i,i<n->∃x,p i x)->∃l:List α,l.length=n/\∀i x,hO l i=some x->p i x
 |0,_=>⟨[],rfl,λi x h=>by simp[hO]at h⟩
 |n+1,h=>by
  obtain⟨l,O,R⟩:=Te n λi hi=>h i J;obtain⟨x,hx⟩:=h n J;refine⟨l++[x],by simp[O],λi y hy => ?_⟩;simp only[hO]at hy;by_cases hi:i<n
  .rw[EU J]at hy;exact R i y hy
  rw[BL J]at hy;have:i=n:=by
   rcases y2 (i-l.length) 1 with h|h
   .omega
   rw[wC (by simpa using h)]at hy;cases hy
  subst this;rw[O]at hy;simp at hy;rw[<- hy];exact hx
def uo:ae->Bool
 |.sl e=>Nat.blt 0 e.size&&uo e|.pair a b=>uo a&&uo b|.ar _ e=>uo e|.op _=>false|.fn _=>false|_=>true
def qI:(t:ae)->t.aD->Prop
 |.int k,x=>k.min<=bH.to k x/\bH.to k x<=k.max
 |.sl e,l=>(l:List e.aD).length<=maxLen/\∀(i:Nat) (x:e.aD),hO (α:=e.aD) l i=some x->qI e x
 |.ar n e,l=>(l:List e.aD).length=n/\∀(i:Nat) (x:e.aD),hO (α:=e.aD) l i=some x->qI e x
 |.pair a b,x=>qI a x.1/\qI b x.2
 |.bool,_=>True
 |.str,_=>True
 |.unit,_=>True
 |.op _,_=>True
 |.fn _,_=>True
def My:(ts:List ae)->hZ ts->Prop
 |[],_=>True
 |t::ts,x=>qI t x.1/\My ts x.2
def I9{w:World}{base:Nat}{lS:Nat->Bool}{held:Bool}:∀(t:ae),uo t=true->(∀(tid:TypeId) (gC:Nat) (cs:List Value) (x:DataW H×List MemPlace),(cP P t).1 tid->DataW.trod enc P w base lS held gC tid cs=some x->∃d:t.aD,aH (full w) t d cs/\qI t d) /\
  ∀(l:List Field) (off gC:Nat) (cs:List Value),(cP P t).2 l off->cs.length=off+t.size->(∀f∈l,∃x,DataW.trod enc P w base lS held gC f.type ((cs.drop f.offset).take (P.cellsOf f.type))=some x)->∃d:t.aD,aH (full w) t d (cs.drop off)/\qI t d
 |.op _,hp=>by cases hp
 |.fn _,hp=>by cases hp
 |.bool,_=>by refine⟨λtid gC cs x hf h => ?_,λl off gC cs hf=>hf.elim⟩;obtain⟨b,rfl,_⟩:=DataW.trod_bool hf.1 h;exact⟨(b:Bool),aH.nP.2 rfl,trivial⟩
 |.int k,_=>by
  refine⟨λtid gC cs x hf h => ?_,λl off gC cs hf=>hf.elim⟩;obtain⟨n,rfl,_,bb⟩:=DataW.trod_int hf.1 h;have Y:k.min<=n/\n<=k.max:=by simpa[Lit.wf]using bb
  have aA:bH.to k (bH.lit k n)=n:=bH.Tf k n λaL=>⟨by cases k<;>simp_all[Ez,IntKind.min,IntKind.signed],Y.2⟩;refine⟨bH.lit k n,aH.ia.2 (by rw[aA]),?_⟩;simp only[qI];rw[aA];exact Y
 |.str,_=>by refine⟨λtid gC cs x hf h => ?_,λl off gC cs hf=>hf.elim⟩;obtain⟨s,rfl,_⟩:=DataW.trod_string hf.1 h;exact⟨(s.data.toList:List UInt8),aH.ml.2 bh,trivial⟩
 |.sl e,hp=>by
  refine⟨λtid gC cs x hf h => ?_,λl off gC cs hf=>hf.elim⟩;obtain⟨⟨bc,aL,aA⟩,_⟩:=hf;simp only[uo,cM,EO]at hp;rcases DataW.trod_slice aL h with⟨rfl,_⟩|⟨a,len,cap,elems,rest,n,_,rfl,_,O,R,af,aq,a8,_⟩
  .exact⟨([]:List e.aD),aH.ic.2 ⟨none,0,rfl,bU _,by unfold maxLen;omega,.inl rfl⟩,fI _,λi x h=>by simp[hO]at h⟩
  have hcell:=Cf aA;rw[hcell]at a8;by_cases hl:len=0
  .subst hl
   exact⟨([]:List e.aD),aH.ic.2 ⟨some a,cap,rfl,R,af,.inl rfl⟩,fI _,λi x h=>by simp[hO]at h⟩
  have hA:a.spot=none:=by
   have:=a8 0 J;rw[jN J,Ww]at this;obtain⟨q,a2,_⟩:=this;unfold World.cells? at a2;split at a2
   .have hg:=mapM_some_get a2 0 0 (by simp[hp.1])
    have aqT:=mapM_some_length a2;simp only[JS]at aqT;rw[jN J]at hg;have bu:((a.add (0*e.size)).add 0)=a:=by simp[Addr.add]
    rw[bu]at hg;cases ac:a.spot with
    |none=>rfl
    |some s =>simp only[World.cell?,ac]at hg;split at hg<;>simp at hg
   cases a2
  have aa1:∀i,a.add (i*e.size)=⟨a.block,a.off+i*e.size,none⟩:=λi=>by obtain⟨b,o,s⟩:=a;simp only at hA;subst hA;exact qc b o _
  have key:∀i,i<len->∃x:e.aD,∃c el fz,w.heap[a.block]?=some (.cells c el fz)/\a.off+i*e.size+e.size<=c.size/\aH (full w) e x (cH c (a.off+i*e.size) e.size)/\qI e x:=λi hi=>by have:=a8 i hi;rw[jN J,Ww]at this;obtain⟨q,a2,aF⟩:=this;rw[aa1]at a2;obtain⟨c,el,fz,g1,bw,rfl⟩:=alZ a2 hp.1 rfl;obtain⟨d,aF⟩:=(I9 e hp.2).1 bc n _ _ aA aF;exact⟨d,c,el,fz,g1,bw,aF⟩
  obtain⟨_,c,el,fz,g1,_,_⟩:=key 0 J;have acx:∀i,i<len->∃x:e.aD,a.off+i*e.size+e.size<=c.size/\aH (full w) e x (cH c (a.off+i*e.size) e.size)/\qI e x:=λi hi=>by obtain⟨x,cL,w5,pB,bF,b3,dp⟩:=key i hi;rw[g1]at bF;cases bF;exact⟨x,b3,dp⟩
  obtain⟨l,eW,f7⟩:=Te len acx;have n0:a.off+len*e.size<=c.size:=by
   obtain⟨x,b3,_⟩:=acx (len-1) J;have:len*e.size=(len-1)*e.size+e.size:=by
    conv=>lhs;rw[show len=(len-1)+1 by omega,fH,Nat.one_mul]
   omega
  obtain⟨b,o,s⟩:=a;simp only at hA;subst hA;exact⟨(l:List e.aD),aH.ic.2 ⟨_,cap,by rw[eW],by rw[eW];exact R,af,.inr ⟨b,o,c,el,fz,rfl,g1,by rw[eW];exact n0,λi x hi=>(f7 i x hi).2.1⟩⟩,by show l.length<=_;rw[eW];omega,λi x hi=>(f7 i x hi).2.2⟩
 |.unit,_=>by refine⟨λtid gC cs x hf h => ?_,λl off gC cs hf hl _=>⟨(),aH.Bs.2 (k3.1 (by rw[e?,hl];simp[ae.size])),trivial⟩⟩;obtain⟨⟨e8,aL,qr⟩,hi⟩:=hf;obtain⟨et,n,_,_,hl,_⟩:=DataW.trod_struct aL h;have ai:P.cellsOf tid=ae.unit.size:=Cf (t:=.unit) ⟨⟨e8,aL,qr⟩,hi⟩;exact⟨(),aH.Bs.2 (k3.1 (by rw[hl,ai];rfl)),trivial⟩
 |.pair a b,hp=>by
  simp only[uo,cM]at hp;have af2:∀(l:List Field) (off gC:Nat) (cs:List Value),(cP P (.pair a b)).2 l off->cs.length=off+(ae.pair a b).size->(∀f∈l,∃x,DataW.trod enc P w base lS held gC f.type ((cs.drop f.offset).take (P.cellsOf f.type))=some x)->∃d:(ae.pair a b).aD,aH (full w) (.pair a b) d (cs.drop off)/\qI (.pair a b) d:=by intro l off gC cs hf hl hx;obtain⟨f,r,rfl,O,R,af⟩:=hf;obtain⟨x,ab9⟩:=hx f bh;rw[Cf R,O]at ab9;obtain⟨amj,q',aqD⟩:=(I9 a hp.1).1 f.type gC _ _ R ab9;simp only[ae.size]at hl;obtain⟨aml,apA,GT⟩:=(I9 b hp.2).2 r (off+a.size) gC cs af J λu6 GD=>hx u6 (by simp[GD]);refine⟨(amj,aml),aH.mh.2 ⟨_,_,?_,q',apA⟩,aqD,GT⟩;rw[<- qX,EV]
  refine⟨λtid gC cs x hf h => ?_,af2⟩;have ai:=Cf hf;obtain⟨⟨e8,aL,f,r,e1,aN,dJ,gQ⟩,hi⟩:=hf;obtain⟨et,n,rfl,_,hl,C7,hx⟩:=DataW.trod_struct aL h;have GE:(cP P (.pair a b)).2 e8.toList 0:=⟨f,r,e1,aN,dJ,by simpa using gQ⟩;obtain⟨d,aF⟩:=af2 e8.toList 0 n cs GE (by rw[hl,ai];omega) λu6 GD=>by
   obtain⟨i,hi,rfl⟩:=uP GD;have gG:i<e8.size:=by simpa using hi
   have:=hx i e8[i] (yW gG);rw[jN J]at this;exact⟨_,by simpa using this⟩
  exact⟨d,by simpa using aF⟩
 |.ar n e,hp=>by
  refine⟨λtid gC cs x hf h => ?_,λl off gC cs hf=>hf.elim⟩;have ai:=Cf hf;obtain⟨⟨bc,aL,aA⟩,_⟩:=hf;obtain⟨et,m,rfl,_,hl,C7,hx⟩:=DataW.trod_array aL h;rw[Cf aA]at hx;obtain⟨l,eW,f7⟩:=Te (p:=λi (x:e.aD)=>aH (full w) e x ((cs.drop (i*e.size)).take e.size)/\qI e x) n λi hi=>by have:=hx i hi;rw[jN J]at this;exact(I9 e hp).1 bc m _ _ aA this
  exact⟨(l:List e.aD),aH.B4.2 ⟨eW,by rw[hl,ai];rfl,λi x h=>(f7 i x h).1⟩,eW,λi x h=>(f7 i x h).2⟩
def aiZ{w:World}{base:Nat}{lS:Nat->Bool}{held:Bool}{t:ae}(hp:uo t=true){tid:TypeId}(hf:(cP P t).1 tid){r:Reach}{eh:Nat}{v:Value}{d:DataW H}{aZ:List MemPlace}(lg:Value.okWide P w r eh tid v)(h:DataW.Trod enc P w base lS held tid v d aZ):
  ∃(x:t.aD) (cs:List Value),v=cv t cs/\aH (full w) t x cs/\qI t x:=by
 obtain⟨gC,h⟩:=h;obtain⟨x,hx⟩:=(I9 t hp).1 tid gC _ _ hf h;refine⟨x,_,?_,hx⟩;cases t with
 |op k=>cases hp
 |fn k=>cases hp
 |bool=>obtain⟨b,rfl⟩:=okWide_bool hf.1 lg;rfl
 |int k=>obtain⟨n,rfl⟩:=okWide_int hf.1 lg;rfl
 |str=>obtain⟨s,rfl⟩:=okWide_string hf.1 lg;rfl
 |sl e=>obtain⟨⟨bc,aL,_⟩,_⟩:=hf;obtain⟨a,l,c,rfl⟩:=okWide_slice aL lg;rfl
 |unit=>obtain⟨⟨e8,aL,_⟩,_⟩:=hf;obtain⟨cs,rfl,_⟩:=okWide_struct aL lg;simp[cv,ae.isAgg,Value.cells]
 |pair a b=>obtain⟨⟨e8,aL,_⟩,_⟩:=hf;obtain⟨cs,rfl,_⟩:=okWide_struct aL lg;simp[cv,ae.isAgg,Value.cells]
 |ar n e =>obtain⟨⟨bc,aL,_⟩,_⟩:=hf;unfold Value.okWide at lg;rw[aL]at lg;obtain⟨cs,rfl,_⟩:=lg;simp[cv,ae.isAgg,Value.cells]
def Rd(P:Program):List TypeId->List ae->Prop
 |[],[]=>True
 |i::is,t::ts=>((cP P t).1 i/\uo t=true)/\Rd P is ts
 |_,_=>False
def K7(P:Program):List TypeId->List ae->Bool
 |[],[]=>true
 |i::is,t::ts=>((kv P t).1 i&&uo t)&&K7 P is ts
 |_,_=>false
def Z3:∀{is:List TypeId} {ts:List ae},K7 P is ts=true->Rd P is ts
 |[],[],_=>trivial
 |i::is,t::ts,h=>by simp only[K7,cM]at h;exact⟨⟨(tI t).1 i h.1.1,h.1.2⟩,Z3 h.2⟩
def W3{w:World}{base:Nat}{lS:Nat->Bool}{held:Bool}{r:Reach}{eh:Nat}:∀{is:List TypeId} {ts:List ae} {vs:List Value} {ds:List (DataW H)} {aZ:List MemPlace},Rd P is ts->(∀(j:Nat) t v,is[j]?=some t->vs[j]?=some v->Value.okWide P w r eh t v) ->
  DataW.TrodAll enc P w base lS held is vs ds aZ->∃x:hZ ts,pc (full w) ts x vs/\My ts x
 |[],[],[],[],_,_,_,_=>⟨(),rfl,trivial⟩
 |i::is,t::ts,v::vs,d::ds,aZ,hf,aC,h=>by obtain⟨p,q,O,R,_⟩:=h;obtain⟨x,cs,e1,aN,dJ⟩:=aiZ hf.1.2 hf.1.1 (aC 0 i v rfl rfl) O;obtain⟨y,hy,arr⟩:=W3 hf.2 (λj t v an azE=>aC (j+1) t v (by grind) (by grind)) R;exact⟨(x,y),⟨cs,vs,by rw[e1],aN,hy⟩,dJ,arr⟩
def ahk{W W':World}{agC:Nat->Bool}(hl:laidOutB P=true):∀{is:List TypeId} {vs:List Value} {ds:List (DataW H)} {aZ:List MemPlace},(is.all λt=>P.readableRec t&&Nat.blt t P.types.size)=true ->
  DataW.TrodAll enc P W 0 (λ_=>true) true is vs ds aZ->(∀p∈aZ,W.sameAt W' p)->(∀p∈aZ,agC p.block=true)->DataW.TrodAll enc P W' 0 agC true is vs ds aZ
 |[],[],[],_,_,h,_,_=>h
 |t::is,v::vs,d::ds,aZ,ah,h,ac,hA=>by obtain⟨p,q,O,R,rfl⟩:=h;simp at ah;exact⟨p,q,WideElems.Trod_stays hl ah.1.1 ah.1.2 O (λx hx=>ac x (by grind)) (λx hx=>hA x (by grind)),ahk hl (by simpa using ah.2) R (λx hx=>ac x (by grind)) (λx hx=>hA x (by grind)),rfl⟩
def auV{f:Func}{s:ChangeSpec}{apart tK ao9 aiH:Bool}{W W':World}{args:Array Value}{v:Value}{ds mI:List (DataW H)}{before pa pv:List MemPlace}
  (hW:DataW.Whole enc P f.params.toList s.vars apart W args.toList ds mI before)
  (vy:∀(b:Nat) (lS:Nat->Bool) (aF:Bool),DataW.TrodAll enc P W' b lS aF f.resultTypes.toList (v.resultList f.resultTypes.size) (s.fn H (ds++mI)).results [])
  (iO:∀lS:Nat->Bool,(∀p∈before,lS p.block=true)->DataW.TrodAll enc P W' 0 lS true f.params.toList args.toList (s.fn H (ds++mI)).args pa)
  (G3:∀lS:Nat->Bool,(∀p∈before,lS p.block=true)->DataW.TrodVars enc P W' lS s.vars (s.fn H (ds++mI)).vars pv)
  (dd:before=pa++pv) (Y:Below W.heap.size W W')
  (fS:∀(j:Nat) (t:TypeId) (r:Value),f.resultTypes[j]?=some t->(v.resultList f.resultTypes.size)[j]?=some r->Value.okWide P W' .any 0 t r) :
  s.post enc P f apart tK ao9 aiH W args v W':=by
 have bm:∀p∈before,p.block<W.heap.size:=λp hp=>hW.lt p hp;have hold:∀p∈before,(λb=>decide (b<W.heap.size)) p.block=true:=λp hp=>by simpa using bm p hp
 refine⟨ds,mI,before,[],pa,pv,hW,vy _ _ _,iO _ hold,G3 _ hold,World.keptBut_mono (λp hp=>⟨hp,?_⟩) (Y.frame (·∈before)),λ_ => ?_⟩
 .rw[dd,io]at hp
  exact Or.inr hp
 obtain⟨_,_,_,_,_,bj,aj⟩:=hW;refine⟨fS,_,_,([]++pa)++pv,⟨[]++pa,pv,trodAll_append (iO _ (λ_ _=>rfl)) (vy _ _ _),G3 _ (λ_ _=>rfl),rfl,?_,?_⟩,?_⟩
 .intro b off hp
  have fA:MemPlace.cell b off∈before:=by rw[dd];simpa using hp
  rw[Y.frozen (bm _ fA)];exact bj b off fA
 .intro bu
  have:=aj bu;rw[dd]at this;simpa using this
 intro p hp _;rw[dd];simpa using hp
def asz{fn:Func}{ts:List ae}{m:hZ ts->Option (d8 [.im .bool])}{s:ChangeSpec}(fS:fG P F ⟨ts,[.im .bool],m⟩)(hK:K7 P fn.params.toList ts=true)(hl:laidOutB P=true)
  (aqU:(fn.params.toList.all λt=>P.readableRec t&&Nat.blt t P.types.size)=true) {bt:TypeId} (vy:fn.resultTypes=#[bt]) (aa7:P.underlying bt=some .bool) (G3:s.vars=[]) {apart:Bool}
  {W:World} {base:Nat} {args:Array Value} {ds mI:List (DataW H)} {before:List MemPlace} (hfn:ds.length=fn.params.size->(s.fn H (ds++mI)).results=[.lit (.bool true)]/\(s.fn H (ds++mI)).args=ds/\(s.fn H (ds++mI)).vars=[])
  (lg:∀(j:Nat) t v,fn.params[j]?=some t->args[j]?=some v->Value.okWide P W .any base t v) (hW:DataW.Whole enc P fn.params.toList s.vars apart W args.toList ds mI before)
  (kP:lM P (full W)) (arb:∀x:hZ ts,My ts x->m x=some (true,())) :
  Calls P F args W λe W'=>∃v,e=.returned v/\s.post enc P fn apart true false false W args v W':=by
 have aaZ:=hW;obtain⟨p,q,dn,hV,Sv,xo,iT⟩:=hW;have cr:ds.length=fn.params.size:=by
  have:∀(is:List TypeId) (vs:List Value) (ds:List (DataW H)) (aZ:List MemPlace),DataW.TrodAll enc P W 0 (λ_=>true) true is vs ds aZ->ds.length=is.length:=by
   intro is;induction is with
   |nil=>intro vs ds aZ h;cases vs<;>cases ds<;>first|rfl|exact h.elim
   |cons i is ih=>
    intro vs ds aZ h;cases vs<;>cases ds<;>first|exact h.elim|skip
    obtain⟨_,_,_,R,_⟩:=h;simp[ih _ _ _ R]
  have:=this _ _ _ _ dn;simpa using this
 obtain⟨f1,f2,f3⟩:=hfn cr;obtain⟨x,hx,aqI⟩:=W3 (Z3 hK) (λj t v an aC=>lg j t v (by simpa using an) (by simpa using aC)) dn;have a2:q=[]:=by
  rw[G3]at hV;cases mI with
  |nil=>exact hV
  |cons=>exact hV.elim
 subst a2;have zJ:(full W).cb (view W λ_=>False):=λb o Y=>js.2 ⟨λh=>h,Y⟩;have ai:=fS.2 W (λ_=>False) x args.toList (true,()) (λ_ h=>h.elim) (kP.mono λb o Y=>js.2 ⟨λh=>h,Y⟩) (hx.mono zJ) (arb x aqI);rw[Array.toArray_toList]at ai;refine ai.mono ?_;rintro e W' ⟨b2,rfl,ay,bF,b3,dp,fP,go,jE,ka,us,kd,rfl⟩;obtain⟨cs,s7,rfl,eG,gr⟩:=kd;have arj:s7=[]:=gr;subst arj;have lK:=aH.nP.1 eG;subst lK;have Y:Below W.heap.size W W':=⟨bF,b3,dp,fP,go⟩;refine⟨.bool true,rfl,?_⟩;refine auV (pa:=p) (pv:=[]) aaZ (λb lS aF => ?_) (λlS hA => ?_) (λlS _ => ?_) Sv Y ?_
 .rw[vy,f1]
  exact trodAll_cons_mk (p:=[]) (shut_bool aa7 true) trodAll_mk0
 .rw[f2]
  refine ahk hl aqU dn (λy hy=>Y.same (by have:=aaZ.lt y (by rw[Sv];simpa using hy);exact this)) λy hy=>hA y (by rw[Sv];simpa using hy)
 .rw[G3,f3];rfl
 exact ok_one vy rfl (okWide_bool_mk aa7 true)
end Yp
namespace Yp
open Go
variable {P:Program}
def uK.congr{bc:Nat}{t:ae}{ts:List ae}{rs:List ef}{m mQ:t.aD×hZ ts->Option (t.aD×Nat×d8 rs)}(h:uK P f bc t ts rs m)(aA:∀x,m x=mQ x):uK P f bc t ts rs mQ:=by have:m=mQ:=funext aA;rw[<- this];exact h
def ath {E : db} (b? : nC P E) (iS : P.follows .mixedOrders = true)  {fn : Func} (hf : P.funcs[f]? = some fn) (su : (fn.name == "runtime.NumGoroutine") = false)
  (nv:Nat) (t:ae) (ts:List ae) (rs:List ef) (Y:fn.body.isSome=true) {m bc:Nat} (ma:E.Pn=some (m,bc)):uK P f bc t ts rs (Mg E fn nv t ts rs):=by
 refine⟨⟨fn,hf,Y,su⟩,?_⟩;intro w X b o c el fz x y vs r dg kP vg hh aK xo hx iO eK;have eK:Mg E fn nv t ts rs (x,y)=some r:=eK;unfold Mg at eK;cases iP:fn.body with
 |none=>rw[iP]at Y;cases Y
 |some Ce=>
  rw[iP]at eK;simp only at eK;cases bY:Nat.ble fn.ntmps 1000000 with
  |false=>rw[bY]at eK;cases eK
  |true=>
   rw[bY]at eK;simp only[Jw,cond_false]at eK;have ej:fn.ntmps<=1000000:=by simpa using bY
   obtain⟨s,af,ac,hm,oQ,mN,gn⟩:=agJ (P:=P) dg kP vg hh aK xo hx iO fn.ntmps;rw[af,ac]at eK;refine calls_of_wp hf iP ?_
   let K:Kp:=⟨λk=>k<w.heap.size/\k≠b,X⟩
   have gm:∀ax phx' ay w' a',((sd E t rs fn.results.toList ax).bind λz=>.leaf (z.1,0,z.2)).bI=some r->fR K w (d2 Ce) s (λj=>if j=3 then some (b,o,c.size) else none) X w { tmps:=(Value.pointer (some ⟨b,o,none⟩)::vs).toArray++Array.replicate (fn.ntmps-(Value.pointer (some ⟨b,o,none⟩)::vs).toArray.size) undef,defers:=[] } ax phx' ay w' a' ->
     a'.defers=[]/\∃v,(results fn a'.tmps).run P w'=.ok v w'/\∃b2,Ending.returned v=.returned b2/\(r.2.1=0/\EY w X b o c.size w' t r.1 rs r.2.2 b2):=by
    intro ax phx' ay w' a' ap aj;unfold sd at ap;rw[aP.fb]at ap;obtain⟨mX,us,bG,b_,cp⟩:=x7 b?.b8 ap aj.hd aj.slots;rw[aP.fb]at bG;obtain⟨z,wr,dF,gp⟩:=oM bG;have zW:phx' 3=some (b,o,c.size):=(aj.ext.pl 3 (by rw[show s.aR 3=.box t (.sc t x) by rw[<- ac];rfl];rfl)).trans (if_pos rfl);obtain⟨c8,cn,aN,bF,b3,cL,w5,pB,dp,fP,go,jE,ka⟩:=PD dF aj.hd zW;rw[aP.fb]at gp;rw[<- aM.nd]at cn aN b3 ka;have xq:kI phx' c8 (ax.ek wr).aR (λk=>k=b):=by
     refine⟨λj an y hy SP => ?_,λk ap=>ap▸bF⟩;by_cases GL:j=3
     .subst GL;rw[b3]at an;cases an
     exact ka j GL an y hy SP
    obtain⟨ayW,jc,uJ,dl,gJ,v3,RR,ux⟩:=DW (K:=K) (w0:=w) gp cn (b_.ext aN) xq;cases dl;refine⟨aj.keep.2.1,ja us,v7 cp,ja us,rfl,rfl,jc,gJ.os,gJ.tape,gJ.output,gJ.size,λk ap l'=>gJ.keep k ⟨ap,l'⟩,λk ap => ?_,gJ.mlt,⟨cL,w5,pB,dp,fP,go,jE.mono v3⟩,us,ux.lo ?_,rfl⟩
    .by_cases l':k=b
     .subst l';exact⟨λ_=>vg,λ_=>RR k rfl⟩
     exact gJ.hid k ⟨ap,l'⟩
    intro k qt du ap;exact qt ⟨ap,du⟩
   have ZS:∀ax phx' ay w' a',((sd E t rs fn.results.toList ax).bind λz=>.leaf (z.1,0,z.2)).bI=some r->fR K w (d2 Ce) s (λj=>if j=3 then some (b,o,c.size) else none) X w { tmps:=(Value.pointer (some ⟨b,o,none⟩)::vs).toArray++Array.replicate (fn.ntmps-(Value.pointer (some ⟨b,o,none⟩)::vs).toArray.size) undef,defers:=[] } ax phx' ay w' a' ->
     a'.defers=[]/\∃v,(results fn a'.tmps).run P w'=.ok v w'/\((r.2.1=0/\∃b2,Ending.returned v=.returned b2/\EY w X b o c.size w' t r.1 rs r.2.2 b2)\/(r.2.1≠0/\Ending.returned v=.panicked [{ v:=.iface bc (.int .i64 (r.2.1:Int)),recovered:=false }]/\WJ w X b o c.size w' t r.1)):=by
    intro ax phx' ay w' a' ap aj;obtain⟨O,v,R,b2,af,aq,a8⟩:=gm ax phx' ay w' a' ap aj;exact⟨O,v,R,.inl ⟨aq,b2,af,a8⟩⟩
   refine o4 (P:=P) (w0:=w) (K:=K) (inl:=true) b?.b8 b?.C b?.M ⟨b?.G,b?.K,λ_=>gn,λf s h=>⟨b?.X f s h,gn⟩,b?.P,λf s h=>⟨b?.Q f s h,gn⟩⟩ b?.I iS (λh=>by cases h) ej Ce s (t.aD×Nat×d8 rs) _ r eK (λj=>if j=3 then some (b,o,c.size) else none) X w _ hm oQ mN _ (λax phx' ay w' a' ap aj => ?_) (λid ax phx' ay w' a' ap aj => ?_) (λy w' a' ap aF aL=>by cases ap)
   .exact ZS ax phx' ay w' a' ap aj
   replace ap:((bif Nat.beq id ir then(sd E t rs fn.results.toList ax).bind λz=>.leaf (z.1,0,z.2) else bif Nat.blt hs id then(aw.iQ ax (Fr t)).bind λz=>.leaf (z.1,id-hs,yH rs) else .fail:aP (t.aD×Nat×d8 rs))).bI=some r:=ap;cases Y:Nat.beq id ir with
   |true =>rw[Y,cond_true]at ap;unfold lG;rw[if_pos (fy Y)];exact ZS ax phx' ay w' a' ap aj
   |false=>
    rw[Y,cond_false]at ap;cases hp:Nat.blt hs id with
    |false=>rw[hp]at ap;cases ap
    |true=>
     rw[hp,cond_true]at ap;have bm:hs<id:=by simpa using hp
     obtain⟨z,wr,dF,gp⟩:=oM ap;have zW:phx' 3=some (b,o,c.size):=(aj.ext.pl 3 (by rw[show s.aR 3=.box t (.sc t x) by rw[<- ac];rfl];rfl)).trans (if_pos rfl);obtain⟨c8,cn,aN,bF,b3,cL,w5,pB,dp,fP,go,jE,ka⟩:=PD dF aj.hd zW;cases gp;obtain⟨k,rfl⟩:∃k,id=hs+k:=⟨id-hs,J⟩;rw[KW ma];refine⟨aj.keep.2.1,.inr ⟨by show hs+k-hs≠0;omega,by show Ending.panicked _=Ending.panicked [{ v:=.iface bc (.int .i64 ((hs+k-hs:Nat):Int)),recovered:=false }];rw[BM],c8,cn.os,cn.tape,cn.output,cn.size,λk ap l'=>cn.keep k ⟨ap,l'⟩,λk ap => ?_,cn.mlt,⟨cL,w5,pB,dp,fP,go,jE⟩⟩⟩;by_cases l':k=b
     .subst l';exact⟨λ_=>vg,λ_=>bF⟩
     exact cn.hid k ⟨ap,l'⟩
end Yp
namespace Yp
open Go
variable {P:Program}
def TA{a:Array Operand}(h:Ap a.toList=true):a=#[]:=by
 apply m3;cases bu:a.toList with
 |nil=>rfl
 |cons x l=>rw[bu]at h;cases h
def amp{D:Code}{q:Nat×Nat×List Operand}(h:FO D=some q):∃id ops wU dT dF cI eg ev gp cR,D=.region id ops false/\q.2.2=wU.toList /\
  ops.toList=[⟨some q.1,.makeFunc (.func q.2.1) #[] wU,dT,dF,cI,none⟩,⟨none,.defer ⟨.value (.tmp q.1), #[],eg⟩,ev,gp,cR,none⟩]:=by
 cases D<;>try(cases h)
 rename_i id ops dk;simp only[FO]at h;cases dk with
 |true=>cases h
 |false=>
  split at h
  .rename_i d F first wU dT dF cI l4 args eg ev gp cR lf
   cases Y:(Nat.beq d l4&&(Ap first.toList&&Ap args.toList)) with
   |false=>rw[Y]at h;cases h
   |true=>
    simp only[cM]at Y;have:=fy Y.1;rw[TA Y.2.1,TA Y.2.2]at lf
    grind
  cases h
def axu{c:Code}{p:Nat×Code}(h:IP c=some p):∃id ops eg dT dF cI,c=.seq (.region id ops false) p.2/\ops.toList=[⟨some p.1,.call ⟨.builtin .recover, #[],eg⟩,dT,dF,cI,none⟩]:=by
 unfold IP at h;split at h
 .rename_i id ops b
  split at h
  .rename_i d args eg dT dF cI lf
   cases Y:Ap args.toList with
   |false=>rw[Y]at h;cases h
   |true =>rw[Y,cond_true]at h;cases h;rw[TA Y]at lf;exact⟨_,_,_,_,_,_,rfl,lf⟩
  cases h
 cases h
def agG{E:db}{rs:List ef}{res:List ResultVar}{nv nt:Nat}{inl:Bool}{K:Kp}{w0:World}(aY:∀c:Code,BO P K w0 E rs res nv nt inl c):∀(c A B:Code) (q:Nat×Nat×List Operand),yc c=some (A,q,B) ->
  ∀(s:aM) (ρ:Type) (k:jO (d8 rs)->aP ρ) (r:ρ),((run E rs res nv nt inl A s).bind k).bI=some r->∀(phx:cc) (M:Nat->Prop) (w:World) (a:Act),Mem K w0 phx M s.aR w->dw phx (view w M) s.aR s.bX a->nt<=a.tmps.size ->
  ∀(Q:Exit->Act->World->Prop),
   (∀D Jr ax phx' ay w' a',FO D=some q->(k (.nx ax)).bI=some r->fR K w0 Jr s phx M w a ax phx' ay w' a'->(Code.seq D B).wp P Q a' w') ->
   (∀id ax,(k (.ex id ax)).bI=none)->(∀x,(k (.rt x)).bI=none)->c.wp P Q a w
 |.seq x y,A,B,q,hA,s,ρ,k,r,h,phx,M,w,a,hm,ac,ge,Q,O,R,af=>by
  simp only[yc]at hA;cases aF:FO x with
  |some MS =>rw[aF]at hA;cases hA;simp only[run]at h;exact O x [] s phx M w a aF h (fR.refl hm ac)
  |none=>
   rw[aF]at hA;simp only at hA;cases hy:yc y with
   |none=>rw[hy]at hA;cases hA
   |some p=>
    rw[hy]at hA;obtain⟨Ox,MS,B'⟩:=p;cases hA;simp only[run]at h;rw[aP.fb]at h;refine wp_seq (aY x s ρ _ r h phx M w a hm ac ge _ (λax phx' ay w' a' ap aj => ?_) (λid ax phx' ay w' a' ap aj => ?_) (λv w' a' ap aF aL => ?_))
    .exact agG aY y _ _ _ hy ax ρ k r ap phx' ay w' a' aj.hd aj.slots (by rw[aj.keep.1];exact ge) Q (λD Jr d5 jn jc fi a3 hJ fc kR=>O D (d2 x++Jr) d5 jn jc fi a3 hJ fc (aj.trans kR (λt h=>yX _ h) (λt h=>wE _ h))) R af
    .exact absurd (ap.symm.trans (R id ax)) bh
    exact absurd (ap.symm.trans (af v)) bh
 |.skip,A,B,q,h,_,_,_,_,_,_,_,_,_,_,_,_,_,_,_,_=>by cases h
 |.label _,A,B,q,h,_,_,_,_,_,_,_,_,_,_,_,_,_,_,_,_=>by cases h
 |.region _ _ _,A,B,q,h,_,_,_,_,_,_,_,_,_,_,_,_,_,_,_,_=>by cases h
 |.cond _ _ _,A,B,q,h,_,_,_,_,_,_,_,_,_,_,_,_,_,_,_,_=>by cases h
 |.block _ _,A,B,q,h,_,_,_,_,_,_,_,_,_,_,_,_,_,_,_,_=>by cases h
 |.exit _,A,B,q,h,_,_,_,_,_,_,_,_,_,_,_,_,_,_,_,_=>by cases h
 |.scope _,A,B,q,h,_,_,_,_,_,_,_,_,_,_,_,_,_,_,_,_=>by cases h
 |.ret,A,B,q,h,_,_,_,_,_,_,_,_,_,_,_,_,_,_,_,_=>by cases h
 |.loop _,A,B,q,h,_,_,_,_,_,_,_,_,_,_,_,_,_,_,_,_=>by cases h
 |.goto _,A,B,q,h,_,_,_,_,_,_,_,_,_,_,_,_,_,_,_,_=>by cases h
 |.refuse _,A,B,q,h,_,_,_,_,_,_,_,_,_,_,_,_,_,_,_,_=>by cases h
 |.rangeFunc _ _ _ _,A,B,q,h,_,_,_,_,_,_,_,_,_,_,_,_,_,_,_,_=>by cases h
def anp{phx:cc}{H:cg}{B:Nat->aQ}{s:aM}{aZ:List au}{vs:List Value}(aB:s.aR=B)(dd:gi phx H B aZ vs)(n:Nat):∃bp:aM,(⟨bp.t,s.h,s.w⟩:aM)=bp/\(∀(γ:Type 1) (k:dH->γ),fill n aZ 0 .e k=k bp.t)/\bp.aR=B /\
  dw phx H B bp.bX { tmps:=vs.toArray++Array.replicate (n-vs.toArray.size) undef,defers:=[] }:=by
 obtain⟨bp,O,R,af,aq⟩:=F7 n aZ 0 ⟨.e,s.h,s.w⟩;have ac:(⟨bp.t,s.h,s.w⟩:aM)=bp:=by cases bp;simp only at O R;rw[O,R]
 have g1:=dd.length;have bw:=Ue dd;refine⟨bp,ac,λγ k=>af γ k,by rw[<- aB];funext j;unfold aM.aR;rw[O],λj => ?_⟩;have zD:(⟨.e,s.h,s.w⟩:aM).bX j=.bad:=dH.vd 40 j;rcases aq j with h|⟨p,_,h,bL⟩|⟨h,bL⟩
 .rw[h,zD];trivial
 .rcases bL with bL|bL<;>rw[bL]
  .obtain⟨v,aC,ah⟩:=bw j p (by simpa using h)
   have bm:j<vs.length:=(mt.1 aC).1;have:(vs.toArray++Array.replicate (n-vs.toArray.size) undef).getD j undef=v:=by rw[mv,yV (by simpa using bm)];simp[aC]
   show a? _ _ _ p ((vs.toArray++Array.replicate (n-vs.toArray.size) undef).getD j undef);rw[this];exact ah
  trivial
 rcases bL with bL|bL<;>rw[bL]
 .have bm:vs.length<=j:=by rw[g1]at h;simpa using h
  have:(vs.toArray++Array.replicate (n-vs.toArray.size) undef).getD j undef=undef:=by
   rw[mv,EW (by simpa using bm)];by_cases an:j-vs.toArray.size<n-vs.toArray.size
   .rw[wu,if_pos an];rfl
   rw[wu,if_neg an];rfl
  exact this
 trivial
def al5{E EC:db}(b?:nC P E)(qm:nC P EC)(iS:P.follows .mixedOrders=true){fn e7:Func}{iM bc lQ:Nat}{bd C:Code}(dW:P.funcs[F]?=some e7)(zC:e7.body=some bd)(hA:IP bd=some (iM,C))(LD:e7.ntmps<=1000000)(vy:e7.results.size=0)
  {w:World} {X:Nat->Prop} (gn:pe P ⟨λb=>b<w.heap.size,X⟩ w) {rs:List ef} {cW:List il} {o:Option Nat} {s:aM} {r:d8 rs} (ap:(r7 E EC fn e7 lQ iM bc C rs cW o s).bI=some r) {phx:cc} {M:Nat->Prop} {w':World} {a':Act} {vs:List Value}
  (hm:Mem ⟨λb=>b<w.heap.size,X⟩ w phx M s.aR w') (ac:dw phx (view w' M) s.aR s.bX a') (Lv:jx phx (view w' M) s.aR cW vs) {u:FrameMode} (aL:(o=none/\u=.returning)\/∃k,o=some k/\u=.panicking [{ v:=.iface bc (.int .i64 (k:Int)),recovered:=false }]) :
  CallsD P F vs.toArray u w' fun
   |.returned _,u',cO=>Leaves P fn a'.tmps (λe cO=>∃b2,e=.returned b2/\iu w X cO rs r b2) [] (settle u') cO
   |.panicked Cg,u',cO=>Leaves P fn a'.tmps (λe cO=>∃b2,e=.returned b2/\iu w X cO rs r b2) [] (raised u' Cg) cO
   |.outgrown,_,cO=>(λe cO=>∃b2,e=Ending.returned b2/\iu w X cO rs r b2) .outgrown cO:=by
 let K:Kp:=⟨λb=>b<w.heap.size,X⟩
 obtain⟨id,ops,eg,dT,dF,cI,rfl,lf⟩:=axu hA;simp only at lf zC;obtain⟨bp,e1,aN,dJ,gQ⟩:=anp (s:=s) rfl Lv.args e7.ntmps;unfold r7 at ap;rw[aN]at ap;have ap:((ib e7.ntmps (some iM) ⟨bp.t,s.h,s.w⟩ (x2 bc o) λqN=>
  aP.bind (run EC [] e7.results.toList lQ e7.ntmps true C qN) fun
   |.nx eu=>(mT E ⟨s.t,eu.h,eu.w⟩ fn.results.toList).bind λvs=>n_ ⟨s.t,eu.h,eu.w⟩ rs vs
   |.ex k eu=>bif Nat.beq k ir then(mT E ⟨s.t,eu.h,eu.w⟩ fn.results.toList).bind λvs=>n_ ⟨s.t,eu.h,eu.w⟩ rs vs else .fail
   | .rt _ => .fail:aP (d8 rs)).bind aP.leaf).bI=some r:=by rw [kq];exact ap
 rw[e1]at ap;obtain⟨fZ,ap⟩:=uB ap;rw[kq]at ap;have apz:iM<e7.ntmps:=fZ iM rfl
 let a0:Act:={ tmps:=vs.toArray++Array.replicate (e7.ntmps-vs.toArray.size) undef,defers:=[] }
 have cQ:e7.ntmps<=a0.tmps.size:=by show e7.ntmps<=(vs.toArray++Array.replicate (e7.ntmps-vs.toArray.size) undef).size;simp;omega
 refine callsD_of_wpS dW zC λc₀ cs So => ?_

 have aeL:∀(o8:FrameMode) (x:Value),(match u with|.panicking [{ v,recovered:=false,goexit:=false }]=>o8=.panicking [{ v,recovered:=true }]/\x=v|_=>o8=u/\x=.nilIface)->settle o8=.returning ->
   a? phx (view w' M) s.aR (x2 bc o) x ->
   C.wpS P (bodyPostS P e7 c₀ cs (fun
   |.returned _,u',cO=>Leaves P fn a'.tmps (λe cO=>∃b2,e=.returned b2/\iu w X cO rs r b2) [] (settle u') cO
   |.panicked Cg,u',cO=>Leaves P fn a'.tmps (λe cO=>∃b2,e=.returned b2/\iu w X cO rs r b2) [] (raised u' Cg) cO
   | .outgrown,_,cO=>(λe cO=>∃b2,e=Ending.returned b2/\iu w X cO rs r b2) .outgrown cO)) (a0.put (some iM) x) ({ c₀ with mode:=o8 } :: cs) w':=by
  intro o8 x _ nj hx;refine wpS_of_wp ?_;have sl:dw phx (view w' M) (i' bp (some iM) (x2 bc o)).aR (i' bp (some iM) (x2 bc o)).bX (a0.put (some iM) x):=by rw[lp,rA LD fZ,dJ];exact dw.put gQ (λd aF=>by cases aF;exact hU apz cQ) hx
  have Tr:Mem K w phx M (i' bp (some iM) (x2 bc o)).aR w':=by rw[lp,dJ];exact hm
  have gm:∀eu phx' ay cO a4,((mT E ⟨s.t,eu.h,eu.w⟩ fn.results.toList).bind λvs=>n_ ⟨s.t,eu.h,eu.w⟩ rs vs).bI=some r->fR K w (d2 C) (i' bp (some iM) (x2 bc o)) phx M w' (a0.put (some iM) x) eu phx' ay cO a4 ->
    a4.defers=[]/\∃u',({ c₀ with mode:=o8 } :: cs:List Frame)={ c₀ with mode:=u' } :: cs/\∃v,(results e7 a4.tmps).run P cO=.ok v cO/\Leaves P fn a'.tmps (λe cO=>∃b2,e=.returned b2/\iu w X cO rs r b2) [] (settle u') cO:=by
   intro eu phx' ay cO a4 jD aj;have tS:cm phx M s.aR w' phx' ay eu.aR cO:=by have:=aj.ext;rwa [lp,dJ]at this
   have axj:dw phx' (view cO ay) (⟨s.t,eu.h,eu.w⟩:aM).aR (⟨s.t,eu.h,eu.w⟩:aM).bX a':=ac.ext tS;have Ai:Mem K w phx' ay (⟨s.t,eu.h,eu.w⟩:aM).aR cO:=aj.hd;obtain⟨mX,us,bG,b_,cp⟩:=x7 b?.b8 jD Ai axj;have Ug:((n_ ⟨s.t,eu.h,eu.w⟩ rs mX).bind aP.leaf).bI=some r:=by rw[kq];exact bG
   obtain⟨y,c8,b4,dl,Aj,rM,_,ux⟩:=DW (K:=K) (w0:=w) Ug Ai b_ (U:=λ_=>False) ⟨λ_ _ _ _ h=>h,λ_ h=>h.elim⟩;cases dl;have C1:e7.results.toList=[]:=by rw[<- k3];simpa using vy
   refine⟨by rw[aj.keep.2.1];show(a0.put (some iM) x).defers=[];rfl,o8,rfl,ja [],v7 (us:=[]) (by rw[C1];rfl),?_⟩;rw[nj];exact⟨ja us,v7 cp,ja us,rfl,c8,Aj.os,Aj.tape,Aj.output,Aj.size,λb Y=>Aj.keep b Y,λb Y=>Aj.hid b Y,Aj.mlt,us,ux,rfl⟩
  have Si:((run EC [] e7.results.toList lQ e7.ntmps true C (i' bp (some iM) (x2 bc o))).bind fun
   |.nx eu=>(mT E ⟨s.t,eu.h,eu.w⟩ fn.results.toList).bind λvs=>n_ ⟨s.t,eu.h,eu.w⟩ rs vs
   |.ex k eu=>bif Nat.beq k ir then(mT E ⟨s.t,eu.h,eu.w⟩ fn.results.toList).bind λvs=>n_ ⟨s.t,eu.h,eu.w⟩ rs vs else .fail
   |.rt _=>.fail).bI=some r:=ap
  refine o4 (P:=P) (w0:=w) (K:=K) (E:=EC) (inl:=true) qm.b8 qm.C qm.M ⟨qm.G,qm.K,λ_=>gn,λf s h=>⟨qm.X f s h,gn⟩,qm.P,λf s h=>⟨qm.Q f s h,gn⟩⟩ qm.I iS (λh=>by cases h) LD C _ (d8 rs) _ r Si phx M w' _ Tr sl (by simpa[Act.put]using cQ) _ (λeu phx' ay cO a4 jD aj => ?_) (λid eu phx' ay cO a4 jD aj => ?_) (λy cO a4 jD aF aL=>by cases jD)
  .exact gm eu phx' ay cO a4 jD aj
  replace jD:((bif Nat.beq id ir then(mT E ⟨s.t,eu.h,eu.w⟩ fn.results.toList).bind λvs=>n_ ⟨s.t,eu.h,eu.w⟩ rs vs else .fail:aP (d8 rs))).bI=some r:=jD;cases Y:Nat.beq id ir with
  |false=>rw[Y]at jD;cases jD
  |true =>rw[Y,cond_true]at jD;unfold lG;rw[if_pos (fy Y)];exact gm eu phx' ay cO a4 jD aj
 refine wpS_seq (wpS_region ?_);have aq6:ops.size=1:=by rw[<- O7,lf];rfl
 have GJ:ops[0]?=some ⟨some iM,.call ⟨.builtin .recover, #[],eg⟩,dT,dF,cI,none⟩:=by rw[<- wD,lf];rfl
 rw[aq6];show wpOpsS P ops _ [0] a0 (c₀::cs) w';have jS:(execOp a0.eval ⟨some iM,.call ⟨.builtin .recover, #[],eg⟩,dT,dF,cI,none⟩).run P w'=.ok .recover w':=rfl;simp only[wpOpsS,GJ,Region.wanted];rw[jS];simp only[if_true];rcases aL with⟨rfl,rfl⟩|⟨k,rfl,rfl⟩
 .have hz:recoverD (c₀::cs)=none:=by simp only[recoverD,So]
  rw[hz];have ai:({ c₀ with mode:=.returning }:Frame)=c₀:=by rw[<- So]
  have:=aeL .returning .nilIface ⟨rfl,rfl⟩ rfl ⟨[.nilIface],aH.vW.2 rfl,rfl⟩;rw[ai]at this;exact this
 have hz:recoverD (c₀::cs)=some (.iface bc (.int .i64 (k:Int)),{ c₀ with mode:=.panicking [{ v:=.iface bc (.int .i64 (k:Int)),recovered:=true }] } :: cs):=by simp only[recoverD,So]
 rw[hz];exact aeL (.panicking [{ v:=.iface bc (.int .i64 (k:Int)),recovered:=true }]) _ ⟨rfl,rfl⟩ rfl ⟨[.int .i64 (k:Int)],aH.ia.2 rfl,rfl⟩
def atg {E EC : db} (b? : nC P E) (qm : nC P EC) (iS : P.follows .mixedOrders = true)  {fn e7 : Func} (hf : P.funcs[f]? = some fn) (su : (fn.name == "runtime.NumGoroutine") = false) (dW : P.funcs[F]? = some e7) (aqs : (e7.name == "runtime.NumGoroutine") = false)
  (nv lQ:Nat) (ts:List ae) (rs:List ef) {m bc:Nat} (ma:E.Pn=some (m,bc)) (Y:fn.body.isSome=true) (RM:∀c A B q,fn.body=some c->yc c=some (A,q,B)->q.2.1=F):fG P f ⟨ts,rs,Ts E EC fn e7 nv lQ bc ts rs⟩:=by
 refine⟨⟨fn,hf,Y,su⟩,?_⟩;intro w X x vs r dg kP iO eK;unfold Ts at eK;cases iP:fn.body with
 |none=>rw[iP]at Y;cases Y
 |some c=>
  cases zC:e7.body with
  |none=>rw[iP,zC]at eK;cases eK
  |some bd=>
   rw[iP,zC]at eK;simp only at eK;cases hA:yc c with
   |none=>rw[hA]at eK;cases eK
   |some p=>
    obtain⟨A,q,B⟩:=p;cases SI:IP bd with
    |none=>rw[hA,SI]at eK;cases eK
    |some aur=>
     obtain⟨iM,C⟩:=aur;rw[hA,SI]at eK;simp only at eK;cases bY:(Nat.ble fn.ntmps 1000000&&(Nat.ble e7.ntmps 1000000&&Nat.beq e7.results.size 0)) with
     |false=>rw[bY]at eK;cases eK
     |true=>
      rw[bY]at eK;simp only[cM,EP]at bY;obtain⟨ej,LD,SE⟩:=bY;have SE:=fy SE;have abN:=RM c A B q iP hA;obtain⟨s,af,ac,hm,oQ,mN,gn⟩:=U7 (P:=P) dg kP iO fn.ntmps;rw[af,ac]at eK
      let K:Kp:=⟨λb=>b<w.heap.size,X⟩
      have aY:=λc=>o4 (P:=P) (w0:=w) (K:=K) (E:=E) (rs:=[]) (res:=fn.results.toList) (nv:=nv) (nt:=fn.ntmps) (inl:=true) b?.b8 b?.C b?.M ⟨b?.G,b?.K,λ_=>gn,λf s h=>⟨b?.X f s h,gn⟩,b?.P,λf s h=>⟨b?.Q f s h,gn⟩⟩ b?.I iS (λh=>by cases h) ej c;have apV:ot P E K w:=⟨b?.G,b?.K,λ_=>gn,λf s h=>⟨b?.X f s h,gn⟩,b?.P,λf s h=>⟨b?.Q f s h,gn⟩⟩;refine calls_of_wp_defers hf iP ?_;refine agG aY c A B q hA s _ _ r eK (λ_=>none) X w _ hm oQ mN _ (λD Jr bp hk fr cf cI hJ re n1 => ?_) (λ_ _=>rfl) (λ_=>rfl);obtain⟨id,ops,wU,dT,dF,amD,eg,ev,gp,amE,rfl,apm,lf⟩:=amp hJ;obtain⟨cW,wr,g1,bw⟩:=oM re;obtain⟨b,cS,Hi,vE⟩:=aw.cA g1;rw[apm]at Hi;have sw:(rv E ⟨some q.1,.makeFunc (.func q.2.1) #[] wU,dT,dF,amD,none⟩).aY bp.bX bp.aR=some (.clo q.2.1 0 cW,dx bp.aR wr):=by show((lO ea wU.toList).bind λb=>(lO Cj b).bind λcW=>.ret (.clo q.2.1 0 cW):aw au).aY bp.bX bp.aR=_;rw[aw.Rw,Hi];show((lO Cj b).bind λcW=>.ret (.clo q.2.1 0 cW):aw au).aY bp.bX cS=_;rw[aw.Rw,vE];rfl
      have bw:((ib fn.ntmps (some q.1) (bp.ek wr) .bad λax=>aP.bind (run E [] fn.results.toList nv fn.ntmps true B ax) fun
       |.nx d5=>r7 E EC fn e7 lQ iM bc C rs cW none d5
       |.ex k d5=>bif Nat.beq k ir then r7 E EC fn e7 lQ iM bc C rs cW none d5 else bif Nat.blt hs k then r7 E EC fn e7 lQ iM bc C rs cW (some (k-hs)) d5 else .fail
       | .rt _ => .fail:aP (d8 rs)).bind aP.leaf).bI=some r:=by rw [kq];exact bw
      obtain⟨fZ,cX⟩:=uB bw;rw[kq]at cX;have abF:fn.ntmps<=cI.tmps.size:=by rw[n1.keep.1];exact mN
      have q':=λd aF=>hU (fZ d aF) abF;refine wp_seq (wp_region_list ?_);rw[lf];left;refine TU b?.b8 b?.C b?.M apV sw n1.hd n1.slots λg2 cO ao6 => ?_;obtain⟨jH,c8,cn,aN,mX,Lv,oN⟩:=ao6;rw[<- aM.nd]at cn aN Lv;left;have iR:(cI.put (some q.1) g2).eval (.tmp q.1)=g2:=by show(cI.put (some q.1) g2).tmps.getD q.1 undef=g2;have:=q' q.1 rfl;simp[Act.put,this]
      have apZ:g2=.func (.func q.2.1) #[] mX.toArray:=by rw[oN];simp
      have jS:(execOp (cI.put (some q.1) g2).eval ⟨none,.defer ⟨.value (.tmp q.1), #[],eg⟩,ev,gp,amE,none⟩).run P cO=.ok (.defer { target:=.fn (.func q.2.1) mX.toArray,args:=#[] }) cO:=by simp only[execOp,resolve];rw[iR,apZ];simp[Deferred.ofValue]
      unfold Oper.wp;rw[jS]
      let Ck:Deferred:={ target:=.fn (.func q.2.1) mX.toArray,args:=#[] }
      let cR:Act:={ cI.put (some q.1) g2 with defers:=Ck::cI.defers }
      have NG:dw jH (view cO c8) (i' (bp.ek wr) (some q.1) .bad).aR (i' (bp.ek wr) (some q.1) .bad).bX cR:=by
       rw[lp,rA ej fZ];have ao:dw jH (view cO c8) (bp.ek wr).aR (bp.ek wr).bX cI:=by rw[(dY.ek wr []).b8];exact n1.slots.ext aN
       exact dw.put ao q' trivial
      have xl:cR.defers=[Ck]:=by show Ck::cI.defers=[Ck];rw[n1.keep.2.1]
      have Ta:∀(o:Option Nat) (u:FrameMode) d5 jn jc fi a3,(r7 E EC fn e7 lQ iM bc C rs cW o d5).bI=some r->fR K w (d2 B) (i' (bp.ek wr) (some q.1) .bad) jH c8 cO cR d5 jn jc fi a3 ->
        ((o=none/\u=.returning)\/∃k,o=some k/\u=.panicking [{ v:=.iface bc (.int .i64 (k:Int)),recovered:=false }]) ->
        Leaves P fn a3.tmps (λe cO=>∃b2,e=.returned b2/\iu w X cO rs r b2) a3.defers u fi:=by
       intro o u d5 jn jc fi a3 fc kR aL;rw[kR.keep.2.1,xl];refine leaves_cons (f:=q.2.1) (args:=mX.toArray) (by rcases aL with⟨_,rfl⟩|⟨k,_,rfl⟩<;>simp) ?_ ?_
       .rw[abN]
        have tQ:¬e7.body=none:=by rw[zC];simp
        have kQ:=by simpa using aqs
        simp[invoke,callFunc,dW,kQ,tQ]
       rw[abN];have CU:=by have:=kR.ext;rwa [lp]at this
       exact al5 b? qm iS dW zC SI LD SE gn fc kR.hd kR.slots (Lv.mono CU.pl CU.vw CU.bl) aL
      refine aY B _ _ _ _ cX jH c8 cO cR (by exact cn) NG (by show fn.ntmps<=(cI.put (some q.1) g2).tmps.size;simpa[Act.put]using abF) _ (λd5 jn jc fi a3 fc kR => ?_) (λid d5 jn jc fi a3 fc kR => ?_) (λy fi a3 fc aF aL=>by cases fc)
      .exact Ta none .returning d5 jn jc fi a3 fc kR (.inl ⟨rfl,rfl⟩)
      replace fc:((bif Nat.beq id ir then r7 E EC fn e7 lQ iM bc C rs cW none d5 else bif Nat.blt hs id then r7 E EC fn e7 lQ iM bc C rs cW (some (id-hs)) d5 else .fail:aP (d8 rs))).bI=some r:=fc;cases Y:Nat.beq id ir with
      |true =>rw[Y]at fc;unfold lG;rw[if_pos (fy Y)];exact Ta none .returning d5 jn jc fi a3 fc kR (.inl ⟨rfl,rfl⟩)
      |false=>
       rw[Y]at fc;cases hp:Nat.blt hs id with
       |false=>rw[hp]at fc;cases fc
       |true=>
        rw[hp]at fc;have bm:=by simpa using hp
        obtain⟨k,rfl⟩:∃k,id=hs+k:=⟨id-hs,J⟩;rw[KW ma];rw[BM]at fc;exact Ta (some k) _ d5 jn jc fi a3 fc kR (.inr ⟨k,rfl,rfl⟩)
end Yp