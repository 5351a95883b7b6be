/- A part of the proof of the statements of this seat: the engine that turns code into plain functions, and its soundness. No condition of its own. -/
import Derived.Test.YtifmobcdnjcpiaaGreatDoorE1
import Derived.Scope
import Derived.ProofKit
import Derived.OpenShut
import Derived.Recover
set_option linter.unusedVariables false
set_option linter.unusedSimpArgs false
set_option linter.defProp false
noncomputable section
open Go Yp
variable {D:List Nat}{F f f0 t:Nat}
namespace Yp
open Go
variable {P:Program}
section
variable {K:Kp} {w0 w:World} {phx:cc} {M:Nat->Prop} {B B':Nat->aQ} {g:Nat->au} {a:Act} {E:da} {rs:List ef} {res:List ResultVar} {nv nt:Nat} {inl:Bool}
def fT.refl{s:aM}(hm:Mem K w0 phx M s.aR w)(ac:dw phx (view w M) s.aR s.bX a):fT K w0 D s phx M w a s phx M w a:=⟨dY.refl _ _,hm,cm.refl _ _ _ _,ac,g9.refl _ _⟩
def fT.trans{j1 Jl:List Nat}{s bp ax:aM}{hk jG:cc}{ft c7:Nat->Prop}{cf cN:World}{cG cQ:Act}(h:fT K w0 D s phx M w a bp hk ft cf cG)(k:fT K w0 j1 bp hk ft cf cG ax jG c7 cN cQ)
  (aF:∀t,t∈D->t∈Jl) (CN:∀t,t∈j1->t∈Jl):fT K w0 Jl s phx M w a ax jG c7 cN cQ:=⟨h.iz.sub k.iz aF CN,k.hd,h.ext.trans k.ext,k.slots,h.keep.sub k.keep aF CN⟩
def fT.mono{j1:List Nat}{s bp:aM}{hk:cc}{ft:Nat->Prop}{cf:World}{cG:Act}(h:fT K w0 D s phx M w a bp hk ft cf cG)(aF:∀t,t∈D->t∈j1):fT K w0 j1 s phx M w a bp hk ft cf cG:=
 ⟨h.iz.mono aF,h.hd,h.ext,h.slots,h.keep.1,h.keep.2.1,λt ht=>h.keep.2.2 t λai=>ht (aF t ai)⟩
def ax7{b:Code}(du:E.U=true)(ih:BJ P K w0 E rs res nv nt inl b):BJ P K w0 E rs res nv nt inl (.loop b):=by
 intro s ρ k r h phx M w a hm ac gh Q iU Sr Ss;simp only[run,du]at h;refine ahw (λn cQ cN=>∃ax jG c7,((NX (λs=>run E rs res nv nt inl b s) n ax).bind k).bI=some r/\fT K w0 (d2 (.loop b)) s phx M w a ax jG c7 cN cQ) (λcQ cN ⟨ax,jG,c7,ao,_⟩=>by cases ao) ?_ ⟨s,phx,M,h,fT.refl hm ac⟩;rintro n cQ cN ⟨ax,jG,c7,R,aj⟩;simp only[NX]at R;rw[aP.fe]at R;have DY:∀t,t∈d2 b->t∈d2 (.loop b):=λt h=>h;refine ih ax ρ _ r R jG c7 cN cQ aj.hd aj.slots (by rw[aj.keep.1];exact gh) _ (λd5 jm jb fk a3 ap kR => ?_) (λid d5 jm jb fk a3 ap kR => ?_) (λv fk a3 ap aF aL => ?_)
 .exact⟨d5,jm,jb,ap,aj.trans kR (λt h=>h) DY⟩
 .have a2:=Sr id d5 jm jb fk a3 ap (aj.trans kR (λt h=>h) DY)
  revert a2;unfold lG;(repeat' split)<;>exact λh=>h
 exact Ss v fk a3 ap (aF.trans aj.keep.2.1) aL
def ac1{m:Nat}:∀{l:List Oper} {q:List Oper×Option Nat×Operand×Nat×Oper},Hy m l=some q->∃eg ty i9 pm,q.2.2.2.2=⟨q.2.1,.call ⟨.value (.func m), #[q.2.2.1,.const (.int .i64 (q.2.2.2.1:Int))],eg⟩,ty,i9,pm,none⟩/\l=q.1++[q.2.2.2.2]
 |[],q,h=>by cases h
 |o::r,q,h=>by
  simp only[Hy]at h;cases ah:Hy m r with
  |some MN=>
   obtain⟨eg,ty,i9,pm,e,bC⟩:=ac1 ah
   grind
  |none=>
   rw[ah]at h;simp only at h;split at h
   .rename_i c6 f args eg ty i9 pm
    cases Y:Nat.beq f m with
    |false=>rw[Y]at h;cases h
    |true=>
     rw[Y]at h;split at h
     .rename_i c k iO
      cases h;have:=fB Y;subst this;have bu:=by apply m3;exact iO
      subst bu;simp
     cases h
   cases h
def as9{ops:List Oper}{q:List Oper×Option Nat×Operand×Nat×Oper}(h:Md E ops=some q):∃m t eg ty i9 pm,E.Pn=some (m,t)/\q.2.2.2.2=⟨q.2.1,.call ⟨.value (.func m), #[q.2.2.1,.const (.int .i64 (q.2.2.2.1:Int))],eg⟩,ty,i9,pm,none⟩/\ops=q.1++[q.2.2.2.2]:=by
 unfold Md at h;cases hp:E.Pn with
 |none=>rw[hp]at h;cases h
 |some p=>
  rw[hp]at h;obtain⟨eg,ty,i9,pm,e⟩:=ac1 h
  grind
def aew:∀{l:List Oper} {p:List Oper×(Nat×Option Nat×nJ×List Operand)×Oper×List Oper},DL E l=some p ->
  l=p.1++p.2.2.1::p.2.2.2/\E.Q p.2.1.1=some p.2.1.2.2.1/\∃args eg ty i9 pm,p.2.1.2.2.2=args.toList/\p.2.2.1=⟨p.2.1.2.1,.call ⟨.value (.func p.2.1.1),args,eg⟩,ty,i9,pm,none⟩
 |[],p,h=>by cases h
 |o::r,p,h=>by
  simp only[DL]at h;cases a2:Ua E o with
  |some q=>
   rw[a2]at h;unfold Ua at a2
   grind
  |none=>
   rw[a2]at h;cases ah:DL E r with
   |none=>rw[ah]at h;cases h
   |some rz=>
    obtain⟨O,R⟩:=aew ah
    grind
def Y8{eX f8:List Oper}(h:t∈en eX):t∈en (eX++f8):=by
 induction eX with
 |nil=>cases h
 |cons o r ih=>
  simp only[en,lA]at h ⊢
  grind
def ahx{c:Operand}{c6:Option Nat}{k m:Nat}{eg:Array TypeId}{type:TypeId}{i9:String}{after:Array Edge}(hp:yU P m t){b:Bool}(Y:a.eval c=.bool b){Kn:Act->World->Prop}{Q:Exit->Act->World->Prop}
  (O:b=true->∀v,Kn (a.put c6 v) w) (R:b=false->Q (.panic [{ v:=.iface t (.int .i64 (k:Int)),recovered:=false }]) a w):Oper.wp P ⟨c6,.call ⟨.value (.func m), #[c,.const (.int .i64 (k:Int))],eg⟩,type,i9,after,none⟩ a w Kn Q:=by
 obtain⟨⟨fn,c1,c2,hw⟩,ai⟩:=hp;have tO:¬fn.body=none:=by intro Y;rw[Y]at c2;cases c2
 have Fm : ¬ fn.name = "runtime.NumGoroutine" := by simpa using hw
 have jR:(execOp a.eval ⟨c6,.call ⟨.value (.func m), #[c,.const (.int .i64 (k:Int))],eg⟩,type,i9,after,none⟩).run P w=.ok (.enter m #[.bool b,.int .i64 (k:Int)]) w:=by have mO:a.eval (.const (.int .i64 (k:Int)))=.int .i64 (k:Int):=rfl;have zS:a.eval (.func m)=.func (.func m) #[] #[]:=rfl;simp only[execOp,resolve];simp[Y,mO,zS,Deferred.ofValue,invoke,callFunc,c1,Fm,tO]
 unfold Oper.wp;rw[jR,Oper.upon_enter];refine(ai b k w).mono ?_;rintro e w' ⟨rfl,rfl⟩;cases b with
 |true=>exact O rfl _
 |false=>exact R rfl
def ac0{c6:Option Nat}{c:Operand}{jl m:Nat}{eg:Array TypeId}{ty:TypeId}{i9:String}{pm:Array Edge}(hp:yU P m t)(ma:E.Pn=some (m,t))(ej:nt<=1000000){s ax:aM}{phx':cc}{ay:Nat->Prop}{w':World}{a':Act}{ρ ρ':Type}
  {k:jN ρ'->aP ρ} {r:ρ} (h:((Hx nt c6 c jl ax).bind k).bI=some r) (aj:fT K w0 D s phx M w a ax phx' ay w' a') (gh:nt<=a'.tmps.size) {j1:List Nat} (hJ:∀t,t∈D->t∈j1) (aF:∀d,c6=some d->d∈j1) {Kn:Act->World->Prop} {Q:Exit->Act->World->Prop}
  (iU:∀ax phx' ay w' a',(k (.nx ax)).bI=some r->fT K w0 j1 s phx M w a ax phx' ay w' a'->Kn a' w')
  (j':∀id ax phx' ay w' a',(k (.ex id ax)).bI=some r->fT K w0 j1 s phx M w a ax phx' ay w' a'->Q (lG E id) a' w') :
  Oper.wp P ⟨c6,.call ⟨.value (.func m), #[c,.const (.int .i64 (jl:Int))],eg⟩,ty,i9,pm,none⟩ a' w' Kn Q:=by
 unfold Hx at h;rw[aP.fe]at h;obtain⟨v,wr,O,R⟩:=oL h;obtain⟨_,aC⟩:=xN O aj.slots;simp only at R;have hx:=KR (k:=jl) ma;have aak:((ib nt c6 ax .bad λs=>aP.leaf (aE.nx s)).bind k).bI=some r->∀v,Kn (a'.put c6 v) w':=λhg v=>by obtain⟨f6,hg⟩:=uz hg;refine iU (i_ ax c6 .bad) phx' ay w' _ hg ?_;have q':∀d,c6=some d->d<a'.tmps.size:=λd aF=>hU (f6 d aF) gh;exact fT.trans aj ⟨vX (D:=j1) aF,by rw[lp];exact aj.hd,by rw[lp];exact cm.refl _ _ _ _,by rw[lp,rA ej f6];exact aj.slots.put q' trivial,g9.put (D:=j1) aF⟩ hJ λt h=>h
 have bad:(k (.ex (hs+jl) ax)).bI=some r->Q (.panic [{ v:=.iface t (.int .i64 (jl:Int)),recovered:=false }]) a' w':=λY=>by rw[<- hx];exact j' (hs+jl) ax phx' ay w' a' Y (aj.mono hJ)
 cases v<;>try(cases R;done)
 case kb b=>
  have Y:a'.eval c=.bool b:=aC;refine ahx hp Y (λe => ?_) (λe => ?_)
  .subst e;exact aak R
  subst e;exact bad R
 case sc ahf b=>
  cases ahf<;>try(cases R;done)
  have Y:a'.eval c=.bool b:=a?.bool aC;have ht:∃ny:Bool,ny=b:=⟨b,rfl⟩;obtain⟨ny,zP⟩:=ht;subst zP;simp only[aP.bind,aP.bI,T]at R;refine ahx hp Y (λe => ?_) (λe => ?_)
  .subst e;exact aak R
  subst e;exact bad R
def ayA{c6:Option Nat}{F:Operand}{args:Array Operand}{eg:Array TypeId}{type:TypeId}{i9:String}{after:Array Edge}{Qd Kr:Array Value}(aC:a.eval F=.func (.func f) Qd Kr)(ai:rU P f){Kn:Act->World->Prop}{Q:Exit->Act->World->Prop}
  (h:Calls P f (Qd++args.map a.eval++Kr) w fun
   |.returned v,w'=>Kn (a.put c6 v) w'
   |.panicked c,w'=>Q (.panic c) a w'
   |.outgrown,_=>LetsOut Q):Oper.wp P ⟨c6,.call ⟨.value F,args,eg⟩,type,i9,after,none⟩ a w Kn Q:=by
 obtain⟨fn,c1,c2,hw⟩:=ai;have tO:¬fn.body=none:=by intro Y;rw[Y]at c2;cases c2
 have Fm:=by simpa using hw
 have jR:(execOp a.eval ⟨c6,.call ⟨.value F,args,eg⟩,type,i9,after,none⟩).run P w=.ok (.enter f (Qd++args.map a.eval++Kr)) w:=by simp only[execOp,resolve];simp[aC,Deferred.ofValue,invoke,callFunc,c1,Fm,tO]
 unfold Oper.wp;rw[jR];exact h
def Zp{ρ' ρ:Type}{n:Nat}{s:aM}:∀{l:List Nat} {k:jN ρ'->aP ρ} {r:ρ},((FU n s l).bind k).bI=some r->((k (.ex (hs+n) s)).bI=some r)
 |[i],k,r,h=>by
  simp only[FU]at h;cases Y:bZ n i with
  |false=>rw[Y]at h;cases h
  |true=>rw[Y]at h;rw[fB Y];exact h
 |i::j::l,k,r,h=>by
  simp only[FU]at h;cases Y:bZ n i with
  |false=>rw[Y]at h;exact Zp (l:=j::l) h
  |true=>rw[Y]at h;rw[fB Y];exact h
def o3(hT:mV P E.b8)(cv:pr P E.b8 E.C)(g3:qB P E.M)(dA:oq P E K w0)(eo:∀f g,E.I f=some g->j2 P f g)(iS:P.follows .mixedOrders=true)(fN:inl=false->∀b,K.k b↔b<w0.heap.size)(ej:nt<=1000000):∀c:Code,BJ P K w0 E rs res nv nt inl c
 |.skip=>λs ρ k r h phx M w a hm ac gh Q iU j' oO=>wp_skip (iU s phx M w a h (fT.refl hm ac))
 |.label l=>λs ρ k r h phx M w a hm ac gh Q iU j' oO=>wp_label (iU s phx M w a h (fT.refl hm ac))
 |.region id ops dk=>λs ρ k r h phx M w a hm ac gh Q iU j' oO=>by
  simp only[run]at h;cases tR:Md E ops.toList with
  |some q=>
   rw[tR]at h;obtain⟨xX,aex,rB,avb,DM⟩:=q;obtain⟨m,t,eg,ty,i9,pm,ma,LC,lf⟩:=as9 tR;simp only at LC lf h;have hJ:∀t,t∈en xX->t∈d2 (.region id ops dk):=λt ht=>by simp only[d2];rw[lf];exact Y8 ht
   have aF:∀d,aex=some d->d∈d2 (.region id ops dk):=λd aF=>by
    simp only[d2];rw[lf];have:∀l:List Oper,d∈en (l++[DM]):=λl=>by
     induction l with
     |nil=>rw[LC,aF];exact EL
     |cons o r ih=>exact(tE o (r++[DM])).2 d ih
    grind
   cases dk with
   |true=>
    simp only[cond_true]at h;cases hl:Hn xX DM with
    |false=>rw[hl]at h;cases h
    |true =>rw[hl,cond_true,aP.fe]at h;refine avM iS hl (by rw[<- lf]) (avK (ops:=xX.toArray) hT cv g3 dA eo ej (k:=λs=>(Hx nt aex rB avb s).bind k) (by simpa using h) hm ac gh λax phx' ay w' a' ap hf bD e1 bp bF => ?_);have aj:fT K w0 (en xX) s phx M w a ax phx' ay w' a':=⟨by simpa using hf,bD,e1,bp,by simpa using bF⟩;unfold IW wpOp;rw[show(xX++[DM]).toArray[xX.length]?=some DM by rw[wD,BG (bU _),BN];rfl];simp only;rw[LC,if_pos (by simp[Region.wanted])];left;exact ac0 (dA.pn m t ma) ma ej ap aj (by rw[aj.keep.1];exact gh) hJ aF iU j'
   |false =>simp only[cond_false]at h;rw[aP.fe]at h;refine wp_region_list ?_;rw[lf];refine M_ (tail:=[DM]) hT cv g3 dA eo ej xX true 0 s _ r h phx M w a hm ac gh λax phx' ay w' a' ap hf bD e1 bp bF => ?_;have aj:fT K w0 (en xX) s phx M w a ax phx' ay w' a':=⟨hf,bD,e1,bp,bF⟩;simp only[wpList];rw[LC,if_pos (by simp[Region.wanted])];left;exact ac0 (dA.pn m t ma) ma ej ap aj (by rw[aj.keep.1];exact gh) hJ aF iU j'
  |none=>
  rw[tR]at h;simp only at h;cases zL:DL E ops.toList with
  |some p=>
   rw[zL]at h;obtain⟨eX,⟨f,c6,lS,ayU⟩,o,f8⟩:=p;cases dk with
   |true=>cases h
   |false=>
    simp only[cond_false]at h;obtain⟨lf,zt,args,eg,ty,i9,pm,iO,aK⟩:=aew zL;simp only at lf zt iO aK;subst iO;obtain⟨⟨m,bc,ma,ao8⟩,gp⟩:=dA.qn f lS zt;rw[aP.fe]at h;refine wp_region_list ?_;rw[lf];have RF:∀t,t∈en eX->t∈d2 (.region id ops false):=λt ht=>by simp only[d2];rw[lf];exact Y8 ht
    have aou:∀eX:List Oper,∀t,t∈en (o::f8)->t∈en (eX++o::f8):=λeX t ht=>by
     induction eX with
     |nil=>exact ht
     |cons di r ih=>exact(tE di _).2 t ih
    have aaF:∀t,t∈en (o::f8)->t∈d2 (.region id ops false):=λt ht=>by simp only[d2];rw[lf];exact aou eX t ht
    refine M_ (tail:=o::f8) hT cv g3 dA eo ej eX true 0 s _ r h phx M w a hm ac gh λax phx' ay w' a' ap hf bD e1 bp bF => ?_;have aj:fT K w0 (en eX) s phx M w a ax phx' ay w' a':=⟨hf,bD,e1,bp,bF⟩;rw[aP.fe]at ap;obtain⟨⟨n,v⟩,wr,O,R⟩:=oL ap;obtain⟨aZ,cR,dF,gr⟩:=aw.cy O;obtain⟨QM,dc⟩:=xF bp dF;subst QM;simp only at R;simp only[wpList];rw[aK,if_pos (by simp[Region.wanted])];left;have bu:(args.toList.map a'.eval).toArray=args.map a'.eval:=by apply m3;simp
    obtain⟨vi,CM⟩:=ava ao8 gp gr bD dc;rw[bu]at CM;have oM:a'.eval (.func f)=.func (.func f) #[] #[]:=rfl;have aqh:nt<=a'.tmps.size:=by rw[aj.keep.1];exact gh
    refine ayA oM vi ?_;simp only[Array.empty_append,Array.append_empty];refine CM.mono ?_;rintro e cN ⟨c7,cn,aN,aa1⟩;rw[<- aM.nd]at cn aN aa1;have ay2:=hf.sub (dY.ek wr (en eX)) (λt h=>h) (λt h=>h);have NB:dw phx' (view cN c7) (ax.ek wr).aR (ax.ek wr).bX a':=by rw[(dY.ek wr []).b8];exact bp.ext aN
    simp only[aP.bind,aP.bI,T]at R;rcases aa1 with⟨pF,b2,rfl,qw⟩|⟨pF,rfl⟩
    .subst pF
     rw[show bZ 0 0=true from rfl,cond_true]at R;obtain⟨f6,R⟩:=uz R;have q':=λd aF=>hU (f6 d aF) aqh;have aa5:=λd aF=>(tE o f8).1 d (by rw[aK];exact aF);rw[aP.fe]at R;have vq:fT K w0 (d2 (.region id ops false)) s phx M w a (i_ (ax.ek wr) c6 v) phx' c7 cN (a'.put c6 b2):=
      fT.trans aj ⟨(dY.ek wr []).sub (vX (D:=en (o::f8)) aa5) (λt h=>by simp at h) (λt h=>h),by rw[lp];exact cn,by rw[lp];exact aN,by rw[lp,rA ej f6];exact NB.put q' qw,g9.put (D:=en (o::f8)) aa5⟩ RF aaF
     show wpList P ops Q f8 (a'.put c6 b2) cN;have ao:=M_ (P:=P) (tail:=[]) (ops:=ops) (Q:=Q) hT cv g3 dA eo ej f8 true (eX.length+1) _ _ r R phx' c7 cN _ vq.hd vq.slots (by rw[vq.keep.1];exact gh) λd5 jm jb fk a3 ff R6 gJ dJ aww dp => ?_
     .rwa [hF]at ao
     exact iU d5 jm jb fk a3 ff (vq.trans ⟨R6,gJ,dJ,aww,dp⟩ (λt h=>h) λt ht=>aaF t ((tE o f8).2 t ht))
    have aqj:bZ n 0=false:=by
     cases Y:bZ n 0 with
     |false=>rfl
     |true=>exact absurd (fB Y) pF
    rw[aqj,cond_false]at R;have af:=Zp R;have a2:=j' (hs+n) (ax.ek wr) phx' c7 cN a' af (fT.trans aj ⟨dY.ek wr (en eX),cn,aN,NB,g9.refl _ _⟩ RF RF);rw[KR ma]at a2;exact a2
  |none=>
  rw[zL]at h;simp only at h;cases ai:(!dk&&Qc E ops.toList) with
  |false =>rw[ai,cond_false,aP.fe]at h;exact avL hT cv g3 dA eo iS ej h hm ac gh λax phx' ay w' a' ap hf bD e1 bp bF=>iU ax phx' ay w' a' ap ⟨hf,bD,e1,bp,bF⟩
  |true=>
   rw[ai,cond_true,aP.fe]at h;simp only[cL,wv]at ai;rw[ai.1];refine wp_region_list ?_;have ao:=M_ (tail:=[]) hT cv g3 dA eo ej ops.toList true 0 s _ r h phx M w a hm ac gh λax phx' ay w' a' ap hf bD e1 bp bF=>iU ax phx' ay w' a' ap ⟨hf,bD,e1,bp,bF⟩
   rwa [hF]at ao
 |.seq x y=>λs ρ k r h phx M w a hm ac gh Q iU j' oO=>by
  simp only[run]at h;rw[aP.fe]at h;have Ag:∀t,t∈d2 x->t∈d2 (.seq x y):=λt h=>yT _ h;have Dh:∀t,t∈d2 y->t∈d2 (.seq x y):=λt h=>wC _ h;refine wp_seq (o3 hT cv g3 dA eo iS fN ej x s ρ _ r h phx M w a hm ac gh _ (λax phx' ay w' a' ap aj => ?_) (λid ax phx' ay w' a' ap aj => ?_) (λv w' a' ap aF aL => ?_))
  .exact o3 hT cv g3 dA eo iS fN ej y ax ρ k r ap phx' ay w' a' aj.hd aj.slots (by rw[aj.keep.1];exact gh) Q (λd5 jm jb fk a3 ff kR=>iU d5 jm jb fk a3 ff (aj.trans kR Ag Dh))
    (λid d5 jm jb fk a3 ff kR=>j' id d5 jm jb fk a3 ff (aj.trans kR Ag Dh)) (λv fk a3 ff aF aL=>oO v fk a3 ff (aF.trans aj.keep.2.1) aL)
  .have a2:=j' id ax phx' ay w' a' ap (aj.mono Ag)
   revert a2;unfold lG;(repeat' split)<;>exact λh=>h
  exact oO v w' a' ap aF aL
 |.cond c x y=>λs ρ k r h phx M w a hm ac gh Q iU j' oO=>by
  simp only[run]at h;rw[aP.fe]at h;have Ag:∀t,t∈d2 x->t∈d2 (.cond c x y):=λt h=>yT _ h;have Dh:∀t,t∈d2 y->t∈d2 (.cond c x y):=λt h=>wC _ h;obtain⟨v,wr,O,R⟩:=oL h;obtain⟨_,aC⟩:=xN O ac;simp only at R;have aai:∀{ρ:Type} (k:jN (d8 rs)->aP ρ) (r:ρ),((run E rs res nv nt inl x s).bind k).bI=some r->(∀ax phx' ay w' a',(k (.nx ax)).bI=some r->fT K w0 (d2 x) s phx M w a ax phx' ay w' a'->Q .normal a' w') ->
   (∀id ax phx' ay w' a',(k (.ex id ax)).bI=some r->fT K w0 (d2 x) s phx M w a ax phx' ay w' a'->Q (lG E id) a' w') ->
   (∀v w' a',(k (.rt v)).bI=some r->a'.defers=a.defers->(∃us,sU P a'.tmps w' res us/\iu w0 K.x w' rs v (i? us))->Q .ret a' w')->x.wp P Q a w:=
   λk r hx g1 bw cW=>o3 hT cv g3 dA eo iS fN ej x s _ k r hx phx M w a hm ac gh Q g1 bw cW
  have aaj:∀{ρ:Type} (k:jN (d8 rs)->aP ρ) (r:ρ),((run E rs res nv nt inl y s).bind k).bI=some r->(∀ax phx' ay w' a',(k (.nx ax)).bI=some r->fT K w0 (d2 y) s phx M w a ax phx' ay w' a'->Q .normal a' w') ->
   (∀id ax phx' ay w' a',(k (.ex id ax)).bI=some r->fT K w0 (d2 y) s phx M w a ax phx' ay w' a'->Q (lG E id) a' w') ->
   (∀v w' a',(k (.rt v)).bI=some r->a'.defers=a.defers->(∃us,sU P a'.tmps w' res us/\iu w0 K.x w' rs v (i? us))->Q .ret a' w')->y.wp P Q a w:=
   λk r hx g1 bw cW=>o3 hT cv g3 dA eo iS fN ej y s _ k r hx phx M w a hm ac gh Q g1 bw cW
  have VW:=λhx=>aai k r hx (λax phx' ay w' a' ap aj=>iU ax phx' ay w' a' ap (aj.mono Ag)) (λid ax phx' ay w' a' ap aj=>j' id ax phx' ay w' a' ap (aj.mono Ag)) oO;have VX:=λhx=>aaj k r hx (λax phx' ay w' a' ap aj=>iU ax phx' ay w' a' ap (aj.mono Dh)) (λid ax phx' ay w' a' ap aj=>j' id ax phx' ay w' a' ap (aj.mono Dh)) oO;cases v<;>try(cases R)
  case kb t=>
   have aC:=aC;cases t with
   |true=>exact wp_cond_true aC (VW R)
   |false=>exact wp_cond_false aC (VX R)
  case sc ty t=>
   cases ty<;>try(cases R)
   have aC:=a?.bool aC;cases du:(E.U && !(pQ [] x&&pQ [] y)) with
   |true=>
    rw[du]at R;simp only[cond_true]at R;have ht:∃ny:Bool,ny=t:=⟨t,rfl⟩;obtain⟨ny,zP⟩:=ht;subst zP;cases ny with
    |true=>exact wp_cond_true aC (VW R)
    |false=>exact wp_cond_false aC (VX R)
   |false=>
   rw[du]at R;simp only[cond_false]at R;have br:((aP.br t (run E rs res nv nt inl x s) (run E rs res nv nt inl y s)).bind k).bI=some r->(Code.cond c x y).wp P Q a w:=λY=>by
    simp only[aP.bind,aP.bI,T]at Y;have ht:∃ny:Bool,ny=t:=⟨t,rfl⟩;obtain⟨ny,zP⟩:=ht;subst zP;cases ny with
    |true=>exact wp_cond_true aC (VW Y)
    |false=>exact wp_cond_false aC (VX Y)
   generalize(pQ [] x&&pQ [] y&&ade E)=c1 at R;cases c1 with
   |false=>exact br R
   |true=>
    simp only[cond_true]at R;rw[aP.fe]at R

    have UN:∀{ρ:Type} (k':aM->aP ρ) (qM:ρ),(((aP.br t ((run E rs res nv nt inl x s).mR Ap) ((run E rs res nv nt inl y s).mR Ap))).bind k').bI=some qM ->
     (∀ax phx' ay w' a',(k' ax).bI=some qM->fT K w0 (d2 (.cond c x y)) s phx M w a ax phx' ay w' a'->Q .normal a' w')->(Code.cond c x y).wp P Q a w:=by
     intro ρ k' qM Y kQ;simp only[aP.bind,aP.bI,T,aP.vT,aP.fe]at Y;have go:∀{D:List Nat} (hJ:∀t,t∈D->t∈d2 (.cond c x y)),(∀ax phx' ay w' a',((aP.ue (Ap (.nx ax:jN (d8 rs)))).bind k').bI=some qM->fT K w0 D s phx M w a ax phx' ay w' a'->Q .normal a' w') /\
      (∀id ax phx' ay w' a',((aP.ue (Ap (.ex id ax:jN (d8 rs)))).bind k').bI=some qM->fT K w0 D s phx M w a ax phx' ay w' a'->Q (lG E id) a' w') /\
      (∀v w' a',((aP.ue (Ap (.rt v:jN (d8 rs)))).bind k').bI=some qM->a'.defers=a.defers->(∃us,sU P a'.tmps w' res us/\iu w0 K.x w' rs v (i? us))->Q .ret a' w'):=
      λhJ=>⟨λax phx' ay w' a' ap aj=>kQ ax phx' ay w' a' ap (aj.mono hJ),(λid ax phx' ay w' a' ap _=>by cases ap),(λv w' a' ap _ _=>by cases ap)⟩
     have ht:∃ny:Bool,ny=t:=⟨t,rfl⟩;obtain⟨ny,zP⟩:=ht;subst zP;cases ny with
     |true=>obtain⟨f1,f2,f3⟩:=go Ag;exact wp_cond_true aC (aai _ qM Y f1 f2 f3)
     |false=>obtain⟨f1,f2,f3⟩:=go Dh;exact wp_cond_false aC (aaj _ qM Y f1 f2 f3)
    rcases SW (λt ht=>(rZ.1 ht).1) R with af|⟨ks,p,hp,hrest⟩
    .exact UN _ r af λax phx' ay w' a' ap aj=>iU ax phx' ay w' a' ap aj
    refine UN _ p hp λax phx' ay w' a' ap aj => ?_;have ni:((aP.ue (bif Nat.beq ax.w.length s.w.length then ql ax ks else none)).bind aP.leaf).bI=some p:=by rw[kq];exact ap
    obtain⟨rz,pG,iB⟩:=aP.TH ni;cases iB;cases cq:Nat.beq ax.w.length s.w.length with
    |false=>rw[cq]at pG;cases pG
    |true =>rw[cq,cond_true]at pG;have R8:=aj.iz.mono λt ht=>Di.2 ht;obtain⟨d5,cf,cN,fk⟩:=hrest ax R8.anI (fB cq) pG;refine iU d5 phx' ay w' a' fk ⟨cN.mono λt ht=>Di.1 ht,by rw[cf.2];exact aj.hd,by rw[cf.2];exact aj.ext,aj.slots.N8 cf,aj.keep⟩
 |.block id x=>λs ρ k r h phx M w a hm ac gh Q iU j' oO=>by
  simp only[run]at h;cases zN:Nat.ble ir id with
  |true=>rw[zN]at h;cases h
  |false=>
  rw[zN,cond_false,aP.fe]at h;have eC:id<ir:=by rw[<- Nat.not_le,<- EI,zN];simp
  refine wp_block (o3 hT cv g3 dA eo iS fN ej x s ρ _ r h phx M w a hm ac gh _ (λax phx' ay w' a' ap aj=>iU ax phx' ay w' a' ap aj) (λi ax phx' ay w' a' ap aj => ?_) (λv w' a' ap aF aL=>oO v w' a' ap aF aL));replace ap:((bif Nat.beq i id then aP.leaf (aE.nx ax) else aP.leaf (aE.ex i ax):aP (jN (d8 rs))).bind k).bI=some r:=ap;cases Y:Nat.beq i id with
  |true =>rw[Y]at ap;have hi:=fB Y;rw[Zo (by rw[hi];exact eC)];simp only[Exit.inBlock];rw[if_pos hi];exact iU ax phx' ay w' a' ap aj
  |false=>
   rw[Y]at ap;have a2:=j' i ax phx' ay w' a' ap aj;revert a2;unfold lG
   (repeat' split)<;>first
    |exact λh=>h
    | (
     simp only[Exit.inBlock];rw[if_neg (by rintro rfl;rw[BM]at Y;cases Y)];exact λh=>h)
 |.exit id=>λs ρ k r h phx M w a hm ac gh Q iU j' oO=>by
  simp only[run]at h;cases zN:Nat.ble ir id with
  |true=>rw[zN]at h;cases h
  |false=>
   rw[zN,cond_false]at h;have eC:id<ir:=by rw[<- Nat.not_le,<- EI,zN];simp
   have a2:=j' id s phx M w a h (fT.refl hm ac);rw[Zo eC]at a2;exact wp_exit a2
 |.ret=>λs ρ k r h phx M w a hm ac gh Q iU j' oO=>by
  simp only[run]at h;cases Sb:inl with
  |true =>rw[Sb,cond_true]at h;have a2:=j' ir s phx M w a h (fT.refl hm ac);exact wp_ret a2
  |false=>
  rw[Sb,cond_false,aP.fe]at h;obtain⟨vs,us,O,R,af⟩:=x5 hT h hm ac;rw[aP.fe]at O;obtain⟨x,ay,B',aq,bD,rL,_,uv⟩:=DQ O hm R (U:=λ_=>False) ⟨λ_ _ _ _ h=>h,λ_ h=>h.elim⟩;have lc:=fN Sb;rw[show(λb=>¬K.k b)=(λb=>¬b<w0.heap.size) from funext λb=>by rw[lc b]]at uv;refine wp_ret (oO x w a aq rfl ⟨us,af,ay,bD.os,bD.tape,bD.output,bD.size,λb Y=>bD.keep b ((lc b).2 Y),λb Y=>bD.hid b ((lc b).2 Y),bD.mlt,us,uv,rfl⟩)
 |.loop b=>by
  cases du:E.U with
  |false=>exact asG du (o3 hT cv g3 dA eo iS fN ej b)
  |true=>exact ax7 du (o3 hT cv g3 dA eo iS fN ej b)
 |.goto l=>λs ρ k r h=>by simp only[run]at h;cases h
 |.scope c=>λs ρ k r h phx M w a hm ac gh Q iU j' oO=>by refine wp_scope_straight (o3 hT cv g3 dA eo iS fN ej c s ρ k r h phx M w a hm ac gh _ iU (λid ax phx' ay w' a' ap aj => ?_) oO);have a2:=j' id ax phx' ay w' a' ap aj;revert a2;unfold lG;(repeat' split)<;>exact λh=>h
 |.refuse why=>λs ρ k r h=>by simp only[run]at h;cases h
 |.rangeFunc f aZ x y=>λs ρ k r h=>by simp only[run]at h;cases h
end
end Yp
namespace Yp
open Go
def wq:=@Array.getElem?_replicate
def yR:=@Array.getElem?_append_left
def EP:=@Array.getElem?_append_right
def Jr:=@Bool.not_true
variable {P:Program}
def ZE:∀(n i:Nat) (s:aM),∃cp:aM,cp.h=s.h/\cp.w=s.w/\(∀(γ:Type 1) (k:dH->γ),K1 n i s.t k=k cp.t)/\(∀j,cp.bX j=s.bX j\/(i<=j/\(cp.bX j=.undef\/cp.bX j=.bad)))
 |0,i,s=>⟨s,rfl,rfl,λ_ _=>rfl,λ_=>.inl rfl⟩
 |n+1,i,s=>by
  obtain⟨cp,O,R,af,aq⟩:=ZE n (i+1) (s.lu i .undef);refine⟨cp,O,R,λγ k => ?_,λj => ?_⟩
  .simp only[K1,UJ];exact af γ k
  rcases aq j with h|⟨h,bL⟩
  .by_cases an:j=i
   .subst an
    right;refine⟨bU _,?_⟩;rw[h];exact s.F7 j .undef
   left;rw[h,s.va _ an]
  grind
def F1(n:Nat):∀(vs:List au) (i:Nat) (s:aM),∃cp:aM,cp.h=s.h/\cp.w=s.w/\(∀(γ:Type 1) (k:dH->γ),fill n vs i s.t k=k cp.t) /\
  ∀j,cp.bX j=s.bX j\/(∃v,i<=j/\vs[j-i]?=some v/\(cp.bX j=v\/cp.bX j=.bad))\/(i+vs.length<=j/\(cp.bX j=.undef\/cp.bX j=.bad))
 |[],i,s=>by obtain⟨cp,O,R,af,aq⟩:=ZE (n-i) i s;exact⟨cp,O,R,af,λj=>(aq j).imp id λh=>.inr ⟨by simpa using h.1,h.2⟩⟩
 |v::vs,i,s=>by
  obtain⟨cp,O,R,af,aq⟩:=F1 n vs (i+1) (s.lu i v);refine⟨cp,O,R,λγ k => ?_,λj => ?_⟩
  .simp only[fill,w7,UJ];exact af γ k
  rcases aq j with h|⟨u,an,h,bL⟩|⟨h,bL⟩
  .by_cases an:j=i
   .subst an
    right;left;refine⟨v,bU _,bh,?_⟩;rw[h];exact s.F7 j v
   left;rw[h,s.va _ an]
  .grind
  grind
def Pd{H:cg}{phx:cc}{B:Nat->aQ}:∀{ts:List ae} {x:hZ ts} {vs:List Value},pb H ts x vs->(m7 ts x).length=vs.length/\∀(j:Nat) (p:au),(m7 ts x)[j]?=some p->∃v:Value,vs[j]?=some v/\a? phx H B p v
 |[],x,vs,h=>by have h:vs=[]:=h;subst h;exact⟨rfl,λj p h=>by simp[m7]at h⟩
 |t::ts,x,vs,h=>by
  obtain⟨cs,d3,rfl,O,R⟩:=h;obtain⟨g1,bw⟩:=Pd (phx:=phx) (B:=B) R;refine⟨by simp[m7,g1],λj p an => ?_⟩;cases j with
  |zero =>simp only[m7,OW,km]at an;subst an;exact⟨_,rfl,cs,O,rfl⟩
  |succ j =>simp only[m7,JA]at an;obtain⟨v,af,aq⟩:=bw j p an;exact⟨v,by simpa using af,aq⟩
structure nC(P:Program)(E:da):Prop where
 b8:mV P E.b8
 C:pr P E.b8 E.C
 M:qB P E.M
 G:∀f s,E.G f=some s->fI P f s
 K : ∀ g, E.K = some g → P.globalNamed "yett/sha.keys" = some g
 I:∀f g,E.I f=some g->j2 P f g
 X:∀f s,E.X f=some s->ij P f s
 Q:∀f s,E.Q f=some s->EQ P E f s
 P:∀m t,E.Pn=some (m,t)->yU P m t
def U1{w:World}{X:Nat->Prop}{ts:List ae}{x:hZ ts}{vs:List Value}(dg:∀b,X b->b<w.heap.size)(kP:lM P (view w X))(iO:pb (view w X) ts x vs)(n:Nat):
  ∃s:aM,(∀(γ:Type 1) (k:dH->γ),fill n (m7 ts x) 0 .e k=k s.t)/\(⟨s.t,[],[]⟩:aM)=s/\Mem ⟨λb=>b<w.heap.size,X⟩ w (λ_=>none) X s.aR w /\
   dw (λ_=>none) (view w X) s.aR s.bX { tmps:=vs.toArray++Array.replicate (n-vs.toArray.size) undef,defers:=[] }/\n<=(vs.toArray++Array.replicate (n-vs.toArray.size) undef).size/\pd P ⟨λb=>b<w.heap.size,X⟩ w:=by
 obtain⟨s,O,R,af,aq⟩:=F1 n (m7 ts x) 0 ⟨.e,[],[]⟩;have ac:(⟨s.t,[],[]⟩:aM)=s:=by cases s;simp only at O R;rw[O,R]
 let K:Kp:=⟨λb=>b<w.heap.size,X⟩
 have aB:s.aR=λ_=>aQ.new:=by funext j;unfold aM.aR;rw[O];rfl
 have hm:Mem K w (λ_=>none) X s.aR w:=by rw[aB];exact⟨rfl,rfl,rfl,bU _,λ_ _=>rfl,λ_ h=>h,λ_ _=>pk,(λ_ h=>by cases h),dg,λ_=>trivial,(λ_ _ _ h=>by cases h)⟩
 obtain⟨g1,bw⟩:=Pd (phx:=λ_=>none) (B:=s.aR) iO;have oP:dw (λ_=>none) (view w X) s.aR s.bX { tmps:=vs.toArray++Array.replicate (n-vs.toArray.size) undef,defers:=[] }:=by
  intro j;have zz:(⟨.e,[],[]⟩:aM).bX j=.bad:=dH.vb 40 j;rcases aq j with h|⟨p,_,h,bL⟩|⟨h,bL⟩
  .rw[h,zz];trivial
  .rcases bL with bL|bL<;>rw[bL]
   .obtain⟨v,aC,ah⟩:=bw j p (by simpa using h)
    have bm:j<vs.length:=(mt.1 aC).1;have:(vs.toArray++Array.replicate (n-vs.toArray.size) undef).getD j undef=v:=by rw[mv,yR (by simpa using bm)];simp[aC]
    show a? _ _ _ p ((vs.toArray++Array.replicate (n-vs.toArray.size) undef).getD j undef);rw[this];exact ah
   trivial
  rcases bL with bL|bL<;>rw[bL]
  .have bm:vs.length<=j:=by rw[g1]at h;simpa using h
   have:(vs.toArray++Array.replicate (n-vs.toArray.size) undef).getD j undef=undef:=by
    rw[mv,EP (by simpa using bm)];by_cases an:j-vs.toArray.size<n-vs.toArray.size
    .rw[wq,if_pos an];rfl
    rw[wq,if_neg an];rfl
   exact this
  trivial
 have mN:n<=(vs.toArray++Array.replicate (n-vs.toArray.size) undef).size:=fv;have gp:pd P K w:=⟨λg hg=>by
  obtain⟨a,cap,O,_,_,aq⟩:=aH.ic.1 (kP g hg);simp only[yQ,Value.slice.injEq,and_true]at O;obtain⟨rfl,_,rfl⟩:=O;rcases aq with aq|⟨b,o,c,el,fz,bG,b_,_⟩
  .cases aq
  cases bG;exact(ip.1 (jr.1 b_).2).1,kP⟩
 exact⟨s,λγ k=>af γ k,ac,hm,oP,mN,gp⟩
def as8 {E : da} (b? : nC P E) (iS : P.follows .mixedOrders = true)  {fn : Func} (hf : P.funcs[f]? = some fn) (st : (fn.name == "runtime.NumGoroutine") = false)
  (nv:Nat) (ts:List ae) (rs:List ef) (Y:fn.body.isSome=true):fI P f ⟨ts,rs,Ma E fn nv ts rs⟩:=by
 refine⟨⟨fn,hf,Y,st⟩,?_⟩;intro w X x vs r dg kP iO eK;unfold Ma at eK;cases iP:fn.body with
 |none=>rw[iP]at Y;cases Y
 |some c=>
  rw[iP]at eK;simp only at eK;cases bY:Nat.ble fn.ntmps 1000000 with
  |false=>rw[bY]at eK;cases eK
  |true=>
   rw[bY]at eK;have ej:=by simpa using bY
   obtain⟨s,af,ac,hm,oP,mN,gp⟩:=U1 (P:=P) dg kP iO fn.ntmps;rw[af,ac]at eK;refine calls_of_wp hf iP ?_
   let K:Kp:=⟨λb=>b<w.heap.size,X⟩
   refine o3 (P:=P) (w0:=w) (K:=K) b?.b8 b?.C b?.M ⟨b?.G,b?.K,λ_=>gp,λf s h=>⟨b?.X f s h,gp⟩,b?.P,λf s h=>⟨b?.Q f s h,gp⟩⟩ b?.I iS (λ_ b=>pk) ej c s (d8 rs) _ r eK (λ_=>none) X w _ hm oP mN _ (λax phx' ay w' a' ap aj => ?_) (λid ax phx' ay w' a' ap aj=>by cases ap) (λy w' a' ap aF aL => ?_)
   .obtain⟨mX,us,bG,b_,co⟩:=x5 b?.b8 ap aj.hd aj.slots
    have T?:((n_ ax rs mX).bind aP.leaf).bI=some r:=by rw[kq];exact bG
    obtain⟨y,c7,b4,dl,bD,rL,_,uv⟩:=DQ (K:=K) (w0:=w) T? aj.hd b_ (U:=λ_=>False) ⟨λ_ _ _ _ h=>h,λ_ h=>h.elim⟩;cases dl;exact⟨aj.keep.2.1,i? us,v2 co,i? us,rfl,c7,bD.os,bD.tape,bD.output,bD.size,λb Y=>bD.keep b Y,λb Y=>bD.hid b Y,bD.mlt,us,uv,rfl⟩
   cases ap;obtain⟨us,bG,b_⟩:=aL;exact⟨aF,i? us,v2 bG,i? us,rfl,b_⟩
def L2{ρ:Type}:aP (jN ρ)->aM
 |.leaf (.nx s)=>s
 |_=>default
def Mi {E : da} (b? : nC P E) (iS : P.follows .mixedOrders = true)  {fn : Func} (hf : P.funcs[f]? = some fn) (st : (fn.name == "runtime.NumGoroutine") = false)
  (nv:Nat) (ts:List ae) (rs:List ef) {A C X Z:Code} {k:Nat} (iP:fn.body=some (.seq A (.seq (.seq C (.cond (.tmp k) X .skip)) Z))) (ej:fn.ntmps<=1000000) {m:hZ ts->Option (d8 rs)} (cH:hZ ts->aM) (c:hZ ts->Bool)
  (O:∀x,(fill fn.ntmps (m7 ts x) 0 .e λt=>aP.bind (run E rs fn.results.toList nv fn.ntmps false A ⟨t,[],[]⟩) fun|.nx s=>run E rs fn.results.toList nv fn.ntmps false C s|o=>.leaf o)=.leaf (.nx (cH x)))
  (R:∀x,(cH x).bX k=.nq (c x)) (af:∀x r,c x=true->m x=some r->(run E rs fn.results.toList nv fn.ntmps false X (cH x)).bI=some (.rt r))
  (aq:∀x r,m x=some r->(run E rs fn.results.toList nv fn.ntmps false Z (cH x)).bI=some (.rt r)):fI P f ⟨ts,rs,m⟩:=by
 refine⟨⟨fn,hf,by rw[iP];rfl,st⟩,?_⟩;intro w O7 x vs r dg kP iO eK;have eK:m x=some r:=eK;obtain⟨s,dJ,ac,hm,oP,mN,gp⟩:=U1 (P:=P) dg kP iO fn.ntmps;have sk:=O x;rw[dJ,ac]at sk;refine calls_of_wp hf iP ?_
 let K:Kp:=⟨λb=>b<w.heap.size,O7⟩
 have dW:oq P E K w:=⟨b?.G,b?.K,λ_=>gp,λf s h=>⟨b?.X f s h,gp⟩,b?.P,λf s h=>⟨b?.Q f s h,gp⟩⟩;have aX:=λ(c:Code)=>o3 (P:=P) (w0:=w) (K:=K) (rs:=rs) (res:=fn.results.toList) (nv:=nv) (nt:=fn.ntmps) (inl:=false) b?.b8 b?.C b?.M dW b?.I iS (λ_ b=>pk) ej c;have iR:((run E rs fn.results.toList nv fn.ntmps false A s).bind fun|.nx s=>run E rs fn.results.toList nv fn.ntmps false C s|o=>.leaf o).bI=some (.nx (cH x)):=by rw[sk];rfl
 refine wp_seq (aX A s _ _ _ iR _ O7 w _ hm oP mN _ (λax phx' ay w' a' ap aj => ?_) (λid ax phx' ay w' a' ap aj=>by cases ap) (λy w' a' ap aF aL=>by cases ap));have ap:((run E rs fn.results.toList nv fn.ntmps false C ax).bind .leaf).bI=some (.nx (cH x)):=by rw[kq];exact ap
 refine wp_seq (wp_seq (aX C ax _ _ _ ap phx' ay w' a' aj.hd aj.slots (by rw[aj.keep.1];exact mN) _ (λd5 jm jb fk a3 ff kR => ?_) (λid d5 jm jb fk a3 ff kR=>by cases ff) (λy fk a3 ff aF aL=>by cases ff)));cases ff;have kQ:=aj.trans kR (Jl:=d2 A++d2 C) (λt h=>yT _ h) (λt h=>wC _ h);have aqr:fn.ntmps<=a3.tmps.size:=by rw[kQ.keep.1];exact mN
 have go:∀(EG:Code) (Q:Exit->Act->World->Prop),(run E rs fn.results.toList nv fn.ntmps false EG (cH x)).bI=some (.rt r) ->
   (∀a' w',a'.defers=[]->(∃us,sU P a'.tmps w' fn.results.toList us/\iu w O7 w' rs r (i? us))->Q .ret a' w')->EG.wp P Q a3 fk:=λEG Q aA a2=>by
  have aA:((run E rs fn.results.toList nv fn.ntmps false EG (cH x)).bind .leaf).bI=some (.rt r):=by rw[kq];exact aA
  refine aX EG (cH x) _ _ _ aA jm jb fk a3 kQ.hd kQ.slots aqr Q (λeu T2 aif hq a4 jC aqf=>by cases jC) (λid eu T2 aif hq a4 jC aqf=>by cases jC) (λy hq a4 jC aF aL => ?_);cases jC;exact a2 a4 hq (aF.trans kQ.keep.2.1) aL
 have a2:a? jm (view fk jb) (cH x).aR (.nq (c x)) (a3.eval (.tmp k)):=by rw[<- R x];exact kQ.slots k
 obtain⟨b,Y,ai⟩:=a2;cases b with
 |true =>refine wp_cond_true Y (go X _ (af x r (ai rfl) eK) λa4 hq aF ⟨us,bG,b_⟩ => ?_);exact⟨aF,i? us,v2 bG,i? us,rfl,b_⟩
 |false =>refine wp_cond_false Y (wp_skip (go Z _ (aq x r eK) λa4 hq aF ⟨us,bG,b_⟩ => ?_));exact⟨aF,i? us,v2 bG,i? us,rfl,b_⟩
def axX{phx:cc}{H:cg}{B:Nat->aQ}{vs:List au}{us:List Value}(h:gm phx H B vs us)(aj:vs.all vR=true):a? phx H B (Bd vs) (i? us):=by
 have asC:∀{vs:List au} {us:List Value},gm phx H B vs us->vs.all vR=true->lD phx H B (vs.foldr au.two (.sc .unit ())) us:=by
  intro vs;induction vs with
  |nil=>intro us h _;cases us with
   |nil=>rfl
   |cons=>exact h.elim
  |cons v vs ih=>
   intro us h aj;cases us with
   |nil=>exact h.elim
   |cons u us =>simp only[uM,cL]at aj;exact⟨u,us,rfl,Ei h.1 (adj aj.1),ih h.2 aj.2⟩
 match vs,us,h,aj with
 |[],[],_,_=>exact⟨[],rfl,rfl⟩
 |[v],[u],h,_=>exact h.1
 |v::cX::vs,u::u'::us,h,aj=>exact⟨_,asC h aj,rfl⟩
def T'{H:cg}{phx:cc}{B:Nat->aQ}:∀{aZ:List au} {vs:List Value},gm phx H B aZ vs->∀(j:Nat) (p:au),aZ[j]?=some p->∃v:Value,vs[j]?=some v/\a? phx H B p v
 |[],[],_,j,p,h=>by simp at h
 |p::aZ,v::vs,h,j,q,an=>by
  cases j with
  |zero=>simp only[OW,km]at an;subst an;exact⟨v,rfl,h.1⟩
  |succ j =>simp only[JA]at an;obtain⟨u,O,R⟩:=T' h.2 j q an;exact⟨u,by simpa using O,R⟩
 |[],_::_,h,_,_,_=>h.elim
 |_::_,[],h,_,_,_=>h.elim
def arR {E : da} (b? : nC P E) (iS : P.follows .mixedOrders = true)  {fn : Func} (hf : P.funcs[f]? = some fn) (st : (fn.name == "runtime.NumGoroutine") = false)
  (nv:Nat) (Y:fn.body.isSome=true):j2 P f (h1 E fn nv):=by
 refine⟨⟨fn,hf,Y,st⟩,?_⟩;intro K w0 gp b9 aZ s ρ k r h phx M w vs hm dc;unfold h1 at h;cases iP:fn.body with
 |none=>rw[iP]at Y;cases Y
 |some c=>
  rw[iP]at h;simp only at h;cases bY:Nat.ble fn.ntmps 1000000 with
  |false=>rw[bY]at h;cases h
  |true=>
   rw[bY]at h;simp only[Jr,cond_false]at h;have ej:fn.ntmps<=1000000:=by simpa using bY
   obtain⟨bp,O,R,af,aq⟩:=F1 fn.ntmps aZ 0 ⟨.e,s.h,s.w⟩;rw[af]at h;have ac:(⟨bp.t,s.h,s.w⟩:aM)=bp:=by cases bp;simp only at O R;rw[O,R]
   rw[ac,aP.fe]at h;refine calls_of_wp hf iP ?_;have aB:bp.aR=s.aR:=by funext j;unfold aM.aR;rw[O]
   have ss:Mem K w0 phx M bp.aR w:=by rw[aB];exact hm
   have g1:=dc.length;have bw:=T' dc;have oP:dw phx (view w M) bp.aR bp.bX { tmps:=vs.toArray++Array.replicate (fn.ntmps-vs.toArray.size) undef,defers:=[] }:=by
    intro j;rw[aB];have zz:(⟨.e,s.h,s.w⟩:aM).bX j=.bad:=dH.vb 40 j;rcases aq j with h|⟨p,_,h,bL⟩|⟨h,bL⟩
    .rw[h,zz];trivial
    .rcases bL with bL|bL<;>rw[bL]
     .obtain⟨v,aC,ah⟩:=bw j p (by simpa using h)
      have bm:j<vs.length:=(mt.1 aC).1;have:(vs.toArray++Array.replicate (fn.ntmps-vs.toArray.size) undef).getD j undef=v:=by rw[mv,yR (by simpa using bm)];simp[aC]
      show a? _ _ _ p ((vs.toArray++Array.replicate (fn.ntmps-vs.toArray.size) undef).getD j undef);rw[this];exact ah
     trivial
    rcases bL with bL|bL<;>rw[bL]
    .have bm:vs.length<=j:=by rw[g1]at h;simpa using h
     have:(vs.toArray++Array.replicate (fn.ntmps-vs.toArray.size) undef).getD j undef=undef:=by
      rw[mv,EP (by simpa using bm)];by_cases an:j-vs.toArray.size<fn.ntmps-vs.toArray.size
      .rw[wq,if_pos an];rfl
      rw[wq,if_neg an];rfl
     exact this
    trivial
   have mN:fn.ntmps<=(vs.toArray++Array.replicate (fn.ntmps-vs.toArray.size) undef).size:=fv

   have go:∀ax phx' ay w' a',(((mT { E with b:=b9 } ax fn.results.toList).bind λvs=>bif vs.all vR then .leaf (Bd vs,(⟨s.t,ax.h,ax.w⟩:aM)) else .fail).bind k).bI=some r ->
     fT K w0 (d2 c) bp phx M w { tmps:=vs.toArray++Array.replicate (fn.ntmps-vs.toArray.size) undef,defers:=[] } ax phx' ay w' a' ->
     a'.defers=[]/\∃v,(results fn a'.tmps).run P w'=.ok v w'/\(∃b2,Ending.returned v=.returned b2/\∃v ax phx' ay,(k (v,ax)).bI=some r/\Mem K w0 phx' ay ax.aR w'/\cm phx M s.aR w phx' ay ax.aR w'/\a? phx' (view w' ay) ax.aR v b2/\dY [] s ax):=by
    intro ax phx' ay w' a' ap aj;rw[aP.fe]at ap;obtain⟨mX,us,bG,b_,co⟩:=x5 (E:={ E with b:=b9 }) b?.b8 ap aj.hd aj.slots;cases hall:mX.all vR with
    |false=>rw[hall]at bG;cases bG
    |true =>rw[hall,cond_true]at bG;have bG:(k (Bd mX,(⟨s.t,ax.h,ax.w⟩:aM))).bI=some r:=bG;have j9:(⟨s.t,ax.h,ax.w⟩:aM).aR=ax.aR:=rfl;refine⟨aj.keep.2.1,i? us,v2 co,i? us,rfl,Bd mX,⟨s.t,ax.h,ax.w⟩,phx',ay,bG,aj.hd,by rw[<- aB];exact aj.ext,axX b_ hall,λ_ _=>rfl,?_⟩;obtain⟨_,fS,f1,f2⟩:=aj.iz;exact⟨fS,by show ax.w=fS++s.w;rw[f1,R],λid hid=>by show ax.aR id=s.aR id;rw[f2 id hid,aB]⟩
   refine o3 (P:=P) (w0:=w0) (K:=K) (E:={ E with b:=b9 }) (inl:=true) b?.b8 b?.C b?.M ⟨b?.G,b?.K,λ_=>gp,λf s h=>⟨b?.X f s h,gp⟩,b?.P,λf s h=>⟨b?.Q f s h,gp⟩⟩ b?.I iS (λh=>by cases h) ej c bp ρ _ r h phx M w _ ss oP mN _ (λax phx' ay w' a' ap aj => ?_) (λid ax phx' ay w' a' ap aj => ?_) (λy w' a' ap aF aL=>by cases ap)
   .exact go ax phx' ay w' a' ap aj
   replace ap:((bif Nat.beq id ir then(mT { E with b:=b9 } ax fn.results.toList).bind λvs=>bif vs.all vR then .leaf (Bd vs,(⟨s.t,ax.h,ax.w⟩:aM)) else .fail else .fail:aP (au×aM)).bind k).bI=some r:=ap;cases Y:Nat.beq id ir with
   |false=>rw[Y]at ap;cases ap
   |true =>rw[Y,cond_true]at ap;unfold lG;rw[if_pos (fB Y)];exact go ax phx' ay w' a' ap aj
def agA{w:World}{X:Nat->Prop}{ts:List ae}{x:hZ ts}{vs:List Value}{t:ae}{y:t.aD}{b o:Nat}{c:Array Value}{el:TypeId}{fz:Nat×Nat}(dg:∀k,X k->k<w.heap.size)(kP:lM P (view w X))(ve:X b)
  (hh:w.heap[b]?=some (.cells c el fz)) (aK:o+t.size<=c.size) (xm:h4 c fz) (hy:aH (view w X) t y (cF c o t.size)) (iO:pb (view w X) ts x vs) (n:Nat) :
  ∃s:aM,(∀(γ:Type 1) (k:dH->γ),fill n (.ptr 3 []::m7 ts x) 0 .e k=k s.t)/\(⟨s.t,[(3,.box t (.sc t y))],[]⟩:aM)=s/\Mem ⟨λk=>k<w.heap.size/\k≠b,X⟩ w (λj=>if j=3 then some (b,o,c.size) else none) X s.aR w /\
   dw (λj=>if j=3 then some (b,o,c.size) else none) (view w X) s.aR s.bX { tmps:=(Value.pointer (some ⟨b,o,none⟩)::vs).toArray++Array.replicate (n-(Value.pointer (some ⟨b,o,none⟩)::vs).toArray.size) undef,defers:=[] } /\
   n<=((Value.pointer (some ⟨b,o,none⟩)::vs).toArray++Array.replicate (n-(Value.pointer (some ⟨b,o,none⟩)::vs).toArray.size) undef).size/\pd P ⟨λk=>k<w.heap.size/\k≠b,X⟩ w:=by
 obtain⟨s,O,R,af,aq⟩:=F1 n (.ptr 3 []::m7 ts x) 0 ⟨.e,[(3,.box t (.sc t y))],[]⟩;have ac:(⟨s.t,[(3,.box t (.sc t y))],[]⟩:aM)=s:=by cases s;simp only at O R;rw[O,R]
 have aB:s.aR=λj=>if j=3 then aQ.box t (.sc t y) else .new:=by
  funext j;unfold aM.aR;rw[O];simp only[qA];by_cases an:j=3
  .subst an;rfl
  rw[if_neg an];cases Y:Nat.beq 3 j with
  |true=>exact absurd (fB Y).symm an
  |false=>rfl
 have mM:∀j,(s.aR j).fx=true->j=3:=λj an=>by
  rw[aB]at an;by_cases h:j=3
  .exact h
  simp only[if_neg h]at an;cases an
 have hm:Mem ⟨λk=>k<w.heap.size/\k≠b,X⟩ w (λj=>if j=3 then some (b,o,c.size) else none) X s.aR w:=by
  refine⟨rfl,rfl,rfl,bU _,λ_ _=>rfl,λ_ h=>h.1,λ_ _=>pk,λj an z bj ap => ?_,dg,λj => ?_,λi j i2 hi an=>absurd ((mM i hi).trans (mM j an).symm) i2⟩
  .grind
  by_cases h:j=3
  .subst h
   rw[aB];exact⟨b,o,c,el,fz,rfl,hh,aK,⟨rfl,hy⟩,xm,ve⟩
  rw[aB];simp only[if_neg h];exact trivial
 obtain⟨g1,bw⟩:=Pd (phx:=λj=>if j=3 then some (b,o,c.size) else none) (B:=s.aR) iO;have oP:dw (λj=>if j=3 then some (b,o,c.size) else none) (view w X) s.aR s.bX { tmps:=(Value.pointer (some ⟨b,o,none⟩)::vs).toArray++Array.replicate (n-(Value.pointer (some ⟨b,o,none⟩)::vs).toArray.size) undef,defers:=[] }:=by
  intro j;have zz:(⟨.e,[(3,.box t (.sc t y))],[]⟩:aM).bX j=.bad:=dH.vb 40 j;rcases aq j with h|⟨p,_,h,bL⟩|⟨h,bL⟩
  .rw[h,zz];trivial
  .rcases bL with bL|bL<;>rw[bL]
   .have aC:∃v:Value,(Value.pointer (some ⟨b,o,none⟩)::vs)[j]?=some v/\a? (λj=>if j=3 then some (b,o,c.size) else none) (view w X) s.aR p v:=by
     rw[Nat.sub_zero]at h;cases j with
     |zero =>simp at h;subst h;refine⟨_,rfl,?_⟩;rw[aB];exact⟨b,o,c.size,0,t,rfl,by simp only[ae.d?],rfl⟩
     |succ j =>exact bw j p h
    obtain⟨v,aC,ah⟩:=aC;have bm:=(mt.1 aC).1;have:((Value.pointer (some ⟨b,o,none⟩)::vs).toArray++Array.replicate (n-(Value.pointer (some ⟨b,o,none⟩)::vs).toArray.size) undef).getD j undef=v:=by rw[mv,yR (by simpa using bm),wD,aC];rfl
    rw[this];exact ah
   trivial
  rcases bL with bL|bL<;>rw[bL]
  .have bm:(Value.pointer (some ⟨b,o,none⟩)::vs).length<=j:=by simp at h ⊢;omega
   have:((Value.pointer (some ⟨b,o,none⟩)::vs).toArray++Array.replicate (n-(Value.pointer (some ⟨b,o,none⟩)::vs).toArray.size) undef).getD j undef=undef:=by
    rw[mv,EP (by simpa using bm)];by_cases an:j-(Value.pointer (some ⟨b,o,none⟩)::vs).toArray.size<n-(Value.pointer (some ⟨b,o,none⟩)::vs).toArray.size
    .rw[wq,if_pos an];rfl
    rw[wq,if_neg an];rfl
   exact this
  trivial
 have mN:n<=((Value.pointer (some ⟨b,o,none⟩)::vs).toArray++Array.replicate (n-(Value.pointer (some ⟨b,o,none⟩)::vs).toArray.size) undef).size:=by rw[wG,Array.size_replicate];omega
 have gp:pd P ⟨λk=>k<w.heap.size/\k≠b,X⟩ w:=⟨λg hg=>by
  obtain⟨a,cap,O,_,_,aq⟩:=aH.ic.1 (kP g hg);obtain⟨rfl,_,rfl⟩:=O;rcases aq with aq|⟨b',di,cK,w3,pA,bG,b_,_⟩
  .cases aq
  cases bG;obtain⟨co,dl⟩:=jr.1 b_;exact⟨(ip.1 dl).1,λe=>co (e▸ve)⟩,kP⟩
 exact⟨s,λγ k=>af γ k,ac,hm,oP,mN,gp⟩
def Px{K:Kp}{w0 w:World}{phx:cc}{M:Nat->Prop}{B B':Nat->aQ}{g:Nat->au}{t:ae}{x:t.aD}{b o n:Nat}(h:(Fk t).aX g B=some (x,B'))(hm:Mem K w0 phx M B w)(hx:phx 3=some (b,o,n)):
  ∃ay,Mem K w0 phx ay B' w/\cm phx M B w phx ay B' w/\ay b/\B' 3=.e'/\∃c el fz,w.heap[b]?=some (.cells c el fz)/\c.size=n/\h4 c fz/\aH (view w ay) t x (cF c o t.size)/\∀j,j≠3->(B' j).fx=true->∀z,phx j=some z->z.1≠b:=by
 simp only[Fk,aw.aX]at h;have Y:=hm.blks 3;generalize aB:B 3=bl at h Y;cases bl<;>try(cases h;done)
 rename_i t' u;dsimp only at h;cases gH:ae.is t' t with
 |false=>rw[gH]at h;cases h
 |true=>
  rw[gH]at h;simp only[cond]at h;have ht:=eD gH;subst ht;obtain⟨b',di,c,el,fz,bG,b_,co,dl,eQ,lq⟩:=Y;rw[hx,km,kH,kH]at bG;obtain⟨rfl,rfl,rfl⟩:=bG;obtain⟨y,cR,O,R⟩:=aw.cy h;obtain⟨ft,bD,e1,_,f1,f2⟩:=IZ O hm dl;simp only[aw.aX]at R;have hb2:=bD.blks 3;generalize j9:cR 3=bl2 at R hb2;cases bl2<;>try(cases R;done)
  rename_i ev uD;dsimp only at R;cases tV:ae.is ev t' with
  |false=>rw[tV]at R;cases R
  |true =>rw[tV]at R;simp only[cond,aw.aX]at R;cases R;obtain⟨ei,mf,c2,Zb,Z8,dF,gr,lk,xQ,xR,sN⟩:=hb2;rw[hx,km,kH,kH]at dF;obtain⟨rfl,rfl,_⟩:=dF;obtain⟨cn,aN⟩:=bD.e' 3;refine⟨ft,cn,e1.trans aN,sN,eM _ _ _,c,el,fz,b_,rfl,eQ,f2 rfl,λj an qv z bj e => ?_⟩;rw[d6 _ _ an]at qv;exact bD.sep j 3 an qv (by rw[j9];rfl) z _ bj hx e
def as5 {E : da} (b? : nC P E) (iS : P.follows .mixedOrders = true)  {fn : Func} (hf : P.funcs[f]? = some fn) (st : (fn.name == "runtime.NumGoroutine") = false)
  (nv:Nat) (t:ae) (ts:List ae) (rs:List ef) (Y:fn.body.isSome=true):ij P f ⟨t,ts,rs,Hw E fn nv t ts rs⟩:=by
 refine⟨⟨fn,hf,Y,st⟩,?_⟩;intro w X b o c el fz x y vs r dg kP ve hh aK xm hx iO eK;have eK:Hw E fn nv t ts rs (x,y)=some r:=eK;unfold Hw at eK;cases iP:fn.body with
 |none=>rw[iP]at Y;cases Y
 |some B_=>
  rw[iP]at eK;simp only at eK;cases bY:Nat.ble fn.ntmps 1000000 with
  |false=>rw[bY]at eK;cases eK
  |true=>
   rw[bY]at eK;simp only[Jr,cond_false]at eK;have ej:fn.ntmps<=1000000:=by simpa using bY
   obtain⟨s,af,ac,hm,oP,mN,gp⟩:=agA (P:=P) dg kP ve hh aK xm hx iO fn.ntmps;rw[af,ac]at eK;refine calls_of_wp hf iP ?_
   let K:Kp:=⟨λk=>k<w.heap.size/\k≠b,X⟩
   have go:∀ax phx' ay w' a',((sb E t rs fn.results.toList ax).bind aP.leaf).bI=some r->fT K w (d2 B_) s (λj=>if j=3 then some (b,o,c.size) else none) X w { tmps:=(Value.pointer (some ⟨b,o,none⟩)::vs).toArray++Array.replicate (fn.ntmps-(Value.pointer (some ⟨b,o,none⟩)::vs).toArray.size) undef,defers:=[] } ax phx' ay w' a' ->
     a'.defers=[]/\∃v,(results fn a'.tmps).run P w'=.ok v w'/\∃b2,Ending.returned v=.returned b2/\ER w X b o c.size w' t r.1 rs r.2 b2:=by
    intro ax phx' ay w' a' ap aj;unfold sb at ap;rw[aP.fe]at ap;obtain⟨mX,us,bG,b_,co⟩:=x5 b?.b8 ap aj.hd aj.slots;rw[aP.fe]at bG;obtain⟨z,wr,dF,gr⟩:=oL bG;have zS:phx' 3=some (b,o,c.size):=(aj.ext.pl 3 (by rw[show s.aR 3=.box t (.sc t x) by rw[<- ac];rfl];rfl)).trans (if_pos rfl);obtain⟨c7,cn,aN,bF,b3,cK,w3,pA,dp,fR,gq,jD,j?⟩:=Px dF aj.hd zS;rw[aP.fe]at gr;rw[<- aM.nd]at cn aN b3 j?;have xo:kI phx' c7 (ax.ek wr).aR (λk=>k=b):=by
     refine⟨λj an y hy SJ => ?_,λk ap=>ap▸bF⟩;by_cases GF:j=3
     .subst GF;rw[b3]at an;cases an
     exact j? j GF an y hy SJ
    obtain⟨ayM,jb,uH,dl,gJ,v3,RL,uv⟩:=DQ (K:=K) (w0:=w) gr cn (b_.ext aN) xo;cases dl;refine⟨aj.keep.2.1,i? us,v2 co,i? us,rfl,jb,gJ.os,gJ.tape,gJ.output,gJ.size,λk ap l'=>gJ.keep k ⟨ap,l'⟩,λk ap => ?_,gJ.mlt,⟨cK,w3,pA,dp,fR,gq,jD.mono v3⟩,us,uv.lo ?_,rfl⟩
    .by_cases l':k=b
     .subst l';exact⟨λ_=>ve,λ_=>RL k rfl⟩
     exact gJ.hid k ⟨ap,l'⟩
    intro k qu du ap;exact qu ⟨ap,du⟩
   refine o3 (P:=P) (w0:=w) (K:=K) (inl:=true) b?.b8 b?.C b?.M ⟨b?.G,b?.K,λ_=>gp,λf s h=>⟨b?.X f s h,gp⟩,b?.P,λf s h=>⟨b?.Q f s h,gp⟩⟩ b?.I iS (λh=>by cases h) ej B_ s (t.aD×d8 rs) _ r eK (λj=>if j=3 then some (b,o,c.size) else none) X w _ hm oP mN _ (λax phx' ay w' a' ap aj => ?_) (λid ax phx' ay w' a' ap aj => ?_) (λy w' a' ap aF aL=>by cases ap)
   .exact go ax phx' ay w' a' (by rw[kq];exact ap) aj
   replace ap:((bif Nat.beq id ir then sb E t rs fn.results.toList ax else .fail:aP (t.aD×d8 rs))).bI=some r:=ap;cases Y:Nat.beq id ir with
   |false=>rw[Y]at ap;cases ap
   |true =>rw[Y,cond_true]at ap;unfold lG;rw[if_pos (fB Y)];exact go ax phx' ay w' a' (by rw[kq];exact ap) aj
def ij.congr{t:ae}{ts:List ae}{rs:List ef}{m mQ:t.aD×hZ ts->Option (t.aD×d8 rs)}(h:ij P f ⟨t,ts,rs,m⟩)(aA:∀x,m x=mQ x):ij P f ⟨t,ts,rs,mQ⟩:=by
 have:=funext aA
 grind
def iD(f:Nat)(s:ik):xD [] f=some s->ij P f s:=λh=>by cases h
def hB{l:List (Nat×ik)}(h:∀f s,xD l f=some s->ij P f s){qO:ik}(ao:ij P f0 qO):∀f s,xD ((f0,qO)::l) f=some s->ij P f s:=by
 intro f s ac;simp only[xD]at ac;cases Y:Nat.beq f0 f with
 |true=>rw[Y]at ac;cases ac;rw[<- fB Y];exact ao
 |false=>rw[Y]at ac;exact h f s ac
def aW(f:Nat)(g:fL):t_ [] f=some g->j2 P f g:=λh=>by cases h
def fD{l:List (Nat×fL)}(h:∀f g,t_ l f=some g->j2 P f g){g0:fL}(ao:j2 P f0 g0):∀f g,t_ ((f0,g0)::l) f=some g->j2 P f g:=by
 intro f g ac;simp only[t_]at ac;cases Y:Nat.beq f0 f with
 |true=>rw[Y]at ac;cases ac;rw[<- fB Y];exact ao
 |false=>rw[Y]at ac;exact h f g ac
def aV(f:Nat)(s:eA):t8 [] f=some s->fI P f s:=λh=>by cases h
def az{l:List (Nat×eA)}(h:∀f s,t8 l f=some s->fI P f s){qO:eA}(ao:fI P f0 qO):∀f s,t8 ((f0,qO)::l) f=some s->fI P f s:=by
 intro f s ac;simp only[t8]at ac;cases Y:Nat.beq f0 f with
 |true=>rw[Y]at ac;cases ac;rw[<- fB Y];exact ao
 |false=>rw[Y]at ac;exact h f s ac
def fI.congr{ts:List ae}{rs:List ef}{m mQ:hZ ts->Option (d8 rs)}(h:fI P f ⟨ts,rs,m⟩)(aA:∀x,m x=mQ x):fI P f ⟨ts,rs,mQ⟩:=by
 have:=funext aA
 grind
end Yp
namespace Yp
open Go Go.ChangeShapes Go.WideShapes Go.ChangeAt Go.RowKit
def fK:=@Nat.zero_le
def JN:=@List.length_range
def Wn:=@Option.bind_eq_some_iff
variable {P:Program} {H:Type} {enc:TypeId×Value->H}
def B?{t:ae}{tid:TypeId}(h:(cO P t).1 tid):P.cellsOf tid=t.size:=by obtain⟨i,O,R,_⟩:=nc h;simp[Program.cellsOf,O,R]
def alP{w:World}{base:Nat}{a:Addr}{n:Nat}{cs:List Value}(h:w.cells? base a n=some cs)(aj:0<n)(ac:a.spot=none):
  ∃c el fz,w.heap[a.block]?=some (.cells c el fz)/\a.off+n<=c.size/\cs=cF c a.off n:=by
 unfold World.cells? at h;split at h
 .have cq:=mapM_some_length h
  have GD:=mapM_some_get h;simp at cq;have aaS:∀i,a.add i=⟨a.block,a.off+i,none⟩:=λi=>by obtain⟨b,o,s⟩:=a;subst ac;exact qd b o i
  have c9:∀i,i<n->w.cell? ⟨a.block,a.off+i,none⟩=cs[i]?:=λi hi=>by
   grind
  have ao:=c9 0 aj;rw[jM J]at ao;cases Y:w.heap[a.block]? with
  |none=>simp[World.cell?,Y]at ao
  |some ob=>
   cases ob with
   |cells c el fz=>
    have ai:∀i,i<n->c[a.off+i]?=cs[i]?:=λi hi=>by rw[<- c9 i hi,Fy Y]
    have bY:a.off+n<=c.size:=by
     have:=ai (n-1) J
     grind
    refine⟨c,el,fz,rfl,bY,?_⟩;apply te;intro i;by_cases hi:i<n
    .rw[ux hi,ai i hi]
    have hl:=pW bY
    grind
   |_=>simp[World.cell?,Y]at ao
 cases h
def S'{α:Type}{p:Nat->α->Prop}:∀(n:Nat),(∀i,i<n->∃x,p i x)->∃l:List α,l.length=n/\∀i x,hO l i=some x->p i x
 |0,_=>⟨[],rfl,λi x h=>by simp[hO]at h⟩
 |n+1,h=>by
  obtain⟨l,O,R⟩:=S' n λi hi=>h i J;obtain⟨x,hx⟩:=h n J;refine⟨l++[x],by simp[O],λi y hy => ?_⟩;simp only[hO]at hy;by_cases hi:i<n
  .rw[EN J]at hy;exact R i y hy
  rw[BG J]at hy;have:i=n:=by
   rcases yY (i-l.length) 1 with h|h
   .omega
   rw[wA (by simpa using h)]at hy;cases hy
  subst this;rw[O]at hy;simp at hy;rw[<- hy];exact hx
def ul:ae->Bool
 |.sl e=>Nat.blt 0 e.size&&ul e|.pair a b=>ul a&&ul b|.ar _ e=>ul e|.op _=>false|.fn _=>false|_=>true
def qJ:(t:ae)->t.aD->Prop
 |.int k,x=>k.min<=bH.to k x/\bH.to k x<=k.max
 |.sl e,l=>(l:List e.aD).length<=maxLen/\∀(i:Nat) (x:e.aD),hO (α:=e.aD) l i=some x->qJ e x
 |.ar n e,l=>(l:List e.aD).length=n/\∀(i:Nat) (x:e.aD),hO (α:=e.aD) l i=some x->qJ e x
 |.pair a b,x=>qJ a x.1/\qJ b x.2
 |.bool,_=>True
 |.str,_=>True
 |.unit,_=>True
 |.op _,_=>True
 |.fn _,_=>True
def Mt:(ts:List ae)->hZ ts->Prop
 |[],_=>True
 |t::ts,x=>qJ t x.1/\Mt ts x.2
def I4{w:World}{base:Nat}{lS:Nat->Bool}{held:Bool}:∀(t:ae),ul t=true->(∀(tid:TypeId) (gC:Nat) (cs:List Value) (x:DataW H×List MemPlace),(cO P t).1 tid->DataW.trod enc P w base lS held gC tid cs=some x->∃d:t.aD,aH (full w) t d cs/\qJ t d) /\
  ∀(l:List Field) (off gC:Nat) (cs:List Value),(cO P t).2 l off->cs.length=off+t.size->(∀f∈l,∃x,DataW.trod enc P w base lS held gC f.type ((cs.drop f.offset).take (P.cellsOf f.type))=some x)->∃d:t.aD,aH (full w) t d (cs.drop off)/\qJ t d
 |.op _,hp=>by cases hp
 |.fn _,hp=>by cases hp
 |.bool,_=>by refine⟨λtid gC cs x hf h => ?_,λl off gC cs hf=>hf.elim⟩;obtain⟨b,rfl,_⟩:=DataW.trod_bool hf.1 h;exact⟨(b:Bool),aH.nP.2 rfl,trivial⟩
 |.int k,_=>by
  refine⟨λtid gC cs x hf h => ?_,λl off gC cs hf=>hf.elim⟩;obtain⟨n,rfl,_,bb⟩:=DataW.trod_int hf.1 h;have Y:k.min<=n/\n<=k.max:=by simpa[Lit.wf]using bb
  have aA:bH.to k (bH.lit k n)=n:=bH.S? k n λaL=>⟨by cases k<;>simp_all[Et,IntKind.min,IntKind.signed],Y.2⟩;refine⟨bH.lit k n,aH.ia.2 (by rw[aA]),?_⟩;simp only[qJ];rw[aA];exact Y
 |.str,_=>by refine⟨λtid gC cs x hf h => ?_,λl off gC cs hf=>hf.elim⟩;obtain⟨s,rfl,_⟩:=DataW.trod_string hf.1 h;exact⟨(s.data.toList:List UInt8),aH.ml.2 bh,trivial⟩
 |.sl e,hp=>by
  refine⟨λtid gC cs x hf h => ?_,λl off gC cs hf=>hf.elim⟩;obtain⟨⟨bc,aL,aA⟩,_⟩:=hf;simp only[ul,cL,EH]at hp;rcases DataW.trod_slice aL h with⟨rfl,_⟩|⟨a,len,cap,elems,rest,n,_,rfl,_,O,R,af,aq,a8,_⟩
  .exact⟨([]:List e.aD),aH.ic.2 ⟨none,0,rfl,bU _,by unfold maxLen;omega,.inl rfl⟩,fK _,λi x h=>by simp[hO]at h⟩
  have hcell:=B? aA;rw[hcell]at a8;by_cases hl:len=0
  .subst hl
   exact⟨([]:List e.aD),aH.ic.2 ⟨some a,cap,rfl,R,af,.inl rfl⟩,fK _,λi x h=>by simp[hO]at h⟩
  have hA:a.spot=none:=by
   have:=a8 0 J;rw[jM J,Wn]at this;obtain⟨q,a2,_⟩:=this;unfold World.cells? at a2;split at a2
   .have hg:=mapM_some_get a2 0 0 (by simp[hp.1])
    have aqJ:=mapM_some_length a2;simp only[JN]at aqJ;rw[jM J]at hg;have bu:((a.add (0*e.size)).add 0)=a:=by simp[Addr.add]
    rw[bu]at hg;cases ac:a.spot with
    |none=>rfl
    |some s =>simp only[World.cell?,ac]at hg;split at hg<;>simp at hg
   cases a2
  have aaS:∀i,a.add (i*e.size)=⟨a.block,a.off+i*e.size,none⟩:=λi=>by obtain⟨b,o,s⟩:=a;simp only at hA;subst hA;exact qd b o _
  have key:∀i,i<len->∃x:e.aD,∃c el fz,w.heap[a.block]?=some (.cells c el fz)/\a.off+i*e.size+e.size<=c.size/\aH (full w) e x (cF c (a.off+i*e.size) e.size)/\qJ e x:=λi hi=>by have:=a8 i hi;rw[jM J,Wn]at this;obtain⟨q,a2,aF⟩:=this;rw[aaS]at a2;obtain⟨c,el,fz,g1,bw,rfl⟩:=alP a2 hp.1 rfl;obtain⟨d,aF⟩:=(I4 e hp.2).1 bc n _ _ aA aF;exact⟨d,c,el,fz,g1,bw,aF⟩
  obtain⟨_,c,el,fz,g1,_,_⟩:=key 0 J;have aco:∀i,i<len->∃x:e.aD,a.off+i*e.size+e.size<=c.size/\aH (full w) e x (cF c (a.off+i*e.size) e.size)/\qJ e x:=λi hi=>by obtain⟨x,cK,w3,pA,bF,b3,dp⟩:=key i hi;rw[g1]at bF;cases bF;exact⟨x,b3,dp⟩
  obtain⟨l,eX,f8⟩:=S' len aco;have n0:a.off+len*e.size<=c.size:=by
   obtain⟨x,b3,_⟩:=aco (len-1) J;have:len*e.size=(len-1)*e.size+e.size:=by
    conv=>lhs;rw[show len=(len-1)+1 by omega,fJ,Nat.one_mul]
   omega
  obtain⟨b,o,s⟩:=a;simp only at hA;subst hA;exact⟨(l:List e.aD),aH.ic.2 ⟨_,cap,by rw[eX],by rw[eX];exact R,af,.inr ⟨b,o,c,el,fz,rfl,g1,by rw[eX];exact n0,λi x hi=>(f8 i x hi).2.1⟩⟩,by show l.length<=_;rw[eX];omega,λi x hi=>(f8 i x hi).2.2⟩
 |.unit,_=>by refine⟨λtid gC cs x hf h => ?_,λl off gC cs hf hl _=>⟨(),aH.Bn.2 (k3.1 (by rw[fb,hl];simp[ae.size])),trivial⟩⟩;obtain⟨⟨e_,aL,qs⟩,hi⟩:=hf;obtain⟨et,n,_,_,hl,_⟩:=DataW.trod_struct aL h;have ai:P.cellsOf tid=ae.unit.size:=B? (t:=.unit) ⟨⟨e_,aL,qs⟩,hi⟩;exact⟨(),aH.Bn.2 (k3.1 (by rw[hl,ai];rfl)),trivial⟩
 |.pair a b,hp=>by
  simp only[ul,cL]at hp;have afT:∀(l:List Field) (off gC:Nat) (cs:List Value),(cO P (.pair a b)).2 l off->cs.length=off+(ae.pair a b).size->(∀f∈l,∃x,DataW.trod enc P w base lS held gC f.type ((cs.drop f.offset).take (P.cellsOf f.type))=some x)->∃d:(ae.pair a b).aD,aH (full w) (.pair a b) d (cs.drop off)/\qJ (.pair a b) d:=by intro l off gC cs hf hl hx;obtain⟨f,r,rfl,O,R,af⟩:=hf;obtain⟨x,ab0⟩:=hx f bh;rw[B? R,O]at ab0;obtain⟨al9,q',aqt⟩:=(I4 a hp.1).1 f.type gC _ _ R ab0;simp only[ae.size]at hl;obtain⟨amb,apq,GN⟩:=(I4 b hp.2).2 r (off+a.size) gC cs af J λu4 Gx=>hx u4 (by simp[Gx]);refine⟨(al9,amb),aH.mh.2 ⟨_,_,?_,q',apq⟩,aqt,GN⟩;rw[<- qY,EO]
  refine⟨λtid gC cs x hf h => ?_,afT⟩;have ai:=B? hf;obtain⟨⟨e_,aL,f,r,e1,aN,dJ,gQ⟩,hi⟩:=hf;obtain⟨et,n,rfl,_,hl,C1,hx⟩:=DataW.trod_struct aL h;have Gy:(cO P (.pair a b)).2 e_.toList 0:=⟨f,r,e1,aN,dJ,by simpa using gQ⟩;obtain⟨d,aF⟩:=afT e_.toList 0 n cs Gy (by rw[hl,ai];omega) λu4 Gx=>by
   obtain⟨i,hi,rfl⟩:=uN Gx;have gG:i<e_.size:=by simpa using hi
   have:=hx i e_[i] (yS gG);rw[jM J]at this;exact⟨_,by simpa using this⟩
  exact⟨d,by simpa using aF⟩
 |.ar n e,hp=>by
  refine⟨λtid gC cs x hf h => ?_,λl off gC cs hf=>hf.elim⟩;have ai:=B? hf;obtain⟨⟨bc,aL,aA⟩,_⟩:=hf;obtain⟨et,m,rfl,_,hl,C1,hx⟩:=DataW.trod_array aL h;rw[B? aA]at hx;obtain⟨l,eX,f8⟩:=S' (p:=λi (x:e.aD)=>aH (full w) e x ((cs.drop (i*e.size)).take e.size)/\qJ e x) n λi hi=>by have:=hx i hi;rw[jM J]at this;exact(I4 e hp).1 bc m _ _ aA this
  exact⟨(l:List e.aD),aH.BW.2 ⟨eX,by rw[hl,ai];rfl,λi x h=>(f8 i x h).1⟩,eX,λi x h=>(f8 i x h).2⟩
def aiP{w:World}{base:Nat}{lS:Nat->Bool}{held:Bool}{t:ae}(hp:ul t=true){tid:TypeId}(hf:(cO P t).1 tid){r:Reach}{eh:Nat}{v:Value}{d:DataW H}{aZ:List MemPlace}(lg:Value.okWide P w r eh tid v)(h:DataW.Trod enc P w base lS held tid v d aZ):
  ∃(x:t.aD) (cs:List Value),v=ct t cs/\aH (full w) t x cs/\qJ t x:=by
 obtain⟨gC,h⟩:=h;obtain⟨x,hx⟩:=(I4 t hp).1 tid gC _ _ hf h;refine⟨x,_,?_,hx⟩;cases t with
 |op k=>cases hp
 |fn k=>cases hp
 |bool=>obtain⟨b,rfl⟩:=okWide_bool hf.1 lg;rfl
 |int k=>obtain⟨n,rfl⟩:=okWide_int hf.1 lg;rfl
 |str=>obtain⟨s,rfl⟩:=okWide_string hf.1 lg;rfl
 |sl e=>obtain⟨⟨bc,aL,_⟩,_⟩:=hf;obtain⟨a,l,c,rfl⟩:=okWide_slice aL lg;rfl
 |unit=>obtain⟨⟨e_,aL,_⟩,_⟩:=hf;obtain⟨cs,rfl,_⟩:=okWide_struct aL lg;simp[ct,ae.isAgg,Value.cells]
 |pair a b=>obtain⟨⟨e_,aL,_⟩,_⟩:=hf;obtain⟨cs,rfl,_⟩:=okWide_struct aL lg;simp[ct,ae.isAgg,Value.cells]
 |ar n e =>obtain⟨⟨bc,aL,_⟩,_⟩:=hf;unfold Value.okWide at lg;rw[aL]at lg;obtain⟨cs,rfl,_⟩:=lg;simp[ct,ae.isAgg,Value.cells]
def Q9(P:Program):List TypeId->List ae->Prop
 |[],[]=>True
 |i::is,t::ts=>((cO P t).1 i/\ul t=true)/\Q9 P is ts
 |_,_=>False
def K2(P:Program):List TypeId->List ae->Bool
 |[],[]=>true
 |i::is,t::ts=>((kv P t).1 i&&ul t)&&K2 P is ts
 |_,_=>false
def ZU:∀{is:List TypeId} {ts:List ae},K2 P is ts=true->Q9 P is ts
 |[],[],_=>trivial
 |i::is,t::ts,h=>by simp only[K2,cL]at h;exact⟨⟨(tG t).1 i h.1.1,h.1.2⟩,ZU h.2⟩
def WU{w:World}{base:Nat}{lS:Nat->Bool}{held:Bool}{r:Reach}{eh:Nat}:∀{is:List TypeId} {ts:List ae} {vs:List Value} {ds:List (DataW H)} {aZ:List MemPlace},Q9 P is ts->(∀(j:Nat) t v,is[j]?=some t->vs[j]?=some v->Value.okWide P w r eh t v) ->
  DataW.TrodAll enc P w base lS held is vs ds aZ->∃x:hZ ts,pb (full w) ts x vs/\Mt ts x
 |[],[],[],[],_,_,_,_=>⟨(),rfl,trivial⟩
 |i::is,t::ts,v::vs,d::ds,aZ,hf,aC,h=>by obtain⟨p,q,O,R,_⟩:=h;obtain⟨x,cs,e1,aN,dJ⟩:=aiP hf.1.2 hf.1.1 (aC 0 i v rfl rfl) O;obtain⟨y,hy,arh⟩:=WU hf.2 (λj t v an azu=>aC (j+1) t v (by grind) (by grind)) R;exact⟨(x,y),⟨cs,vs,by rw[e1],aN,hy⟩,dJ,arh⟩
def ahb{W W':World}{agt:Nat->Bool}(hl:laidOutB P=true):∀{is:List TypeId} {vs:List Value} {ds:List (DataW H)} {aZ:List MemPlace},(is.all λt=>P.readableRec t&&Nat.blt t P.types.size)=true ->
  DataW.TrodAll enc P W 0 (λ_=>true) true is vs ds aZ->(∀p∈aZ,W.sameAt W' p)->(∀p∈aZ,agt p.block=true)->DataW.TrodAll enc P W' 0 agt true is vs ds aZ
 |[],[],[],_,_,h,_,_=>h
 |t::is,v::vs,d::ds,aZ,ah,h,ac,hA=>by obtain⟨p,q,O,R,rfl⟩:=h;simp at ah;exact⟨p,q,WideElems.Trod_stays hl ah.1.1 ah.1.2 O (λx hx=>ac x (by grind)) (λx hx=>hA x (by grind)),ahb hl (by simpa using ah.2) R (λx hx=>ac x (by grind)) (λx hx=>hA x (by grind)),rfl⟩
def auL{f:Func}{s:ChangeSpec}{apart tI aoZ aix:Bool}{W W':World}{args:Array Value}{v:Value}{ds mI:List (DataW H)}{before pa pv:List MemPlace}
  (hW:DataW.Whole enc P f.params.toList s.vars apart W args.toList ds mI before)
  (vv:∀(b:Nat) (lS:Nat->Bool) (aF:Bool),DataW.TrodAll enc P W' b lS aF f.resultTypes.toList (v.resultList f.resultTypes.size) (s.fn H (ds++mI)).results [])
  (iO:∀lS:Nat->Bool,(∀p∈before,lS p.block=true)->DataW.TrodAll enc P W' 0 lS true f.params.toList args.toList (s.fn H (ds++mI)).args pa)
  (GX:∀lS:Nat->Bool,(∀p∈before,lS p.block=true)->DataW.TrodVars enc P W' lS s.vars (s.fn H (ds++mI)).vars pv)
  (dc:before=pa++pv) (Y:Below W.heap.size W W')
  (fU:∀(j:Nat) (t:TypeId) (r:Value),f.resultTypes[j]?=some t->(v.resultList f.resultTypes.size)[j]?=some r->Value.okWide P W' .any 0 t r) :
  s.post enc P f apart tI aoZ aix W args v W':=by
 have bm:∀p∈before,p.block<W.heap.size:=λp hp=>hW.lt p hp;have hold:∀p∈before,(λb=>decide (b<W.heap.size)) p.block=true:=λp hp=>by simpa using bm p hp
 refine⟨ds,mI,before,[],pa,pv,hW,vv _ _ _,iO _ hold,GX _ hold,World.keptBut_mono (λp hp=>⟨hp,?_⟩) (Y.frame (·∈before)),λ_ => ?_⟩
 .rw[dc,io]at hp
  exact Or.inr hp
 obtain⟨_,_,_,_,_,bj,aj⟩:=hW;refine⟨fU,_,_,([]++pa)++pv,⟨[]++pa,pv,trodAll_append (iO _ (λ_ _=>rfl)) (vv _ _ _),GX _ (λ_ _=>rfl),rfl,?_,?_⟩,?_⟩
 .intro b off hp
  have fC:MemPlace.cell b off∈before:=by rw[dc];simpa using hp
  rw[Y.frozen (bm _ fC)];exact bj b off fC
 .intro bu
  have:=aj bu;rw[dc]at this;simpa using this
 intro p hp _;rw[dc];simpa using hp
def asp{fn:Func}{ts:List ae}{m:hZ ts->Option (d8 [.im .bool])}{s:ChangeSpec}(fU:fI P F ⟨ts,[.im .bool],m⟩)(hK:K2 P fn.params.toList ts=true)(hl:laidOutB P=true)
  (aqK:(fn.params.toList.all λt=>P.readableRec t&&Nat.blt t P.types.size)=true) {bt:TypeId} (vv:fn.resultTypes=#[bt]) (aaY:P.underlying bt=some .bool) (GX:s.vars=[]) {apart:Bool}
  {W:World} {base:Nat} {args:Array Value} {ds mI:List (DataW H)} {before:List MemPlace} (hfn:ds.length=fn.params.size->(s.fn H (ds++mI)).results=[.lit (.bool true)]/\(s.fn H (ds++mI)).args=ds/\(s.fn H (ds++mI)).vars=[])
  (lg:∀(j:Nat) t v,fn.params[j]?=some t->args[j]?=some v->Value.okWide P W .any base t v) (hW:DataW.Whole enc P fn.params.toList s.vars apart W args.toList ds mI before)
  (kP:lM P (full W)) (aq1:∀x:hZ ts,Mt ts x->m x=some (true,())) :
  Calls P F args W λe W'=>∃v,e=.returned v/\s.post enc P fn apart true false false W args v W':=by
 have aaQ:=hW;obtain⟨p,q,dn,hV,So,xm,iT⟩:=hW;have cq:ds.length=fn.params.size:=by
  have:∀(is:List TypeId) (vs:List Value) (ds:List (DataW H)) (aZ:List MemPlace),DataW.TrodAll enc P W 0 (λ_=>true) true is vs ds aZ->ds.length=is.length:=by
   intro is;induction is with
   |nil=>intro vs ds aZ h;cases vs<;>cases ds<;>first|rfl|exact h.elim
   |cons i is ih=>
    intro vs ds aZ h;cases vs<;>cases ds<;>first|exact h.elim|skip
    obtain⟨_,_,_,R,_⟩:=h;simp[ih _ _ _ R]
  have:=this _ _ _ _ dn;simpa using this
 obtain⟨f1,f2,f3⟩:=hfn cq;obtain⟨x,hx,aqy⟩:=WU (ZU hK) (λj t v an aC=>lg j t v (by simpa using an) (by simpa using aC)) dn;have a2:q=[]:=by
  rw[GX]at hV;cases mI with
  |nil=>exact hV
  |cons=>exact hV.elim
 subst a2;have zF:(full W).cb (view W λ_=>False):=λb o Y=>jr.2 ⟨λh=>h,Y⟩;have ai:=fU.2 W (λ_=>False) x args.toList (true,()) (λ_ h=>h.elim) (kP.mono λb o Y=>jr.2 ⟨λh=>h,Y⟩) (hx.mono zF) (aq1 x aqy);rw[Array.toArray_toList]at ai;refine ai.mono ?_;rintro e W' ⟨b2,rfl,ay,bF,b3,dp,fR,gq,jD,j?,us,ka,rfl⟩;obtain⟨cs,s6,rfl,eG,gt⟩:=ka;have aq8:s6=[]:=gt;subst aq8;have lK:=aH.nP.1 eG;subst lK;have Y:Below W.heap.size W W':=⟨bF,b3,dp,fR,gq⟩;refine⟨.bool true,rfl,?_⟩;refine auL (pa:=p) (pv:=[]) aaQ (λb lS aF => ?_) (λlS hA => ?_) (λlS _ => ?_) So Y ?_
 .rw[vv,f1]
  exact trodAll_cons_mk (p:=[]) (shut_bool aaY true) trodAll_mk0
 .rw[f2]
  refine ahb hl aqK dn (λy hy=>Y.same (by have:=aaQ.lt y (by rw[So];simpa using hy);exact this)) λy hy=>hA y (by rw[So];simpa using hy)
 .rw[GX,f3];rfl
 exact ok_one vv rfl (okWide_bool_mk aaY true)
end Yp
namespace Yp
open Go
variable {P:Program}
def uI.congr{bc:Nat}{t:ae}{ts:List ae}{rs:List ef}{m mQ:t.aD×hZ ts->Option (t.aD×Nat×d8 rs)}(h:uI P f bc t ts rs m)(aA:∀x,m x=mQ x):uI P f bc t ts rs mQ:=by have:m=mQ:=funext aA;rw[<- this];exact h
def as7 {E : da} (b? : nC P E) (iS : P.follows .mixedOrders = true)  {fn : Func} (hf : P.funcs[f]? = some fn) (st : (fn.name == "runtime.NumGoroutine") = false)
  (nv:Nat) (t:ae) (ts:List ae) (rs:List ef) (Y:fn.body.isSome=true) {m bc:Nat} (ma:E.Pn=some (m,bc)):uI P f bc t ts rs (Mb E fn nv t ts rs):=by
 refine⟨⟨fn,hf,Y,st⟩,?_⟩;intro w X b o c el fz x y vs r dg kP ve hh aK xm hx iO eK;have eK:Mb E fn nv t ts rs (x,y)=some r:=eK;unfold Mb at eK;cases iP:fn.body with
 |none=>rw[iP]at Y;cases Y
 |some B_=>
  rw[iP]at eK;simp only at eK;cases bY:Nat.ble fn.ntmps 1000000 with
  |false=>rw[bY]at eK;cases eK
  |true=>
   rw[bY]at eK;simp only[Jr,cond_false]at eK;have ej:fn.ntmps<=1000000:=by simpa using bY
   obtain⟨s,af,ac,hm,oP,mN,gp⟩:=agA (P:=P) dg kP ve hh aK xm hx iO fn.ntmps;rw[af,ac]at eK;refine calls_of_wp hf iP ?_
   let K:Kp:=⟨λk=>k<w.heap.size/\k≠b,X⟩
   have go:∀ax phx' ay w' a',((sb E t rs fn.results.toList ax).bind λz=>.leaf (z.1,0,z.2)).bI=some r->fT K w (d2 B_) s (λj=>if j=3 then some (b,o,c.size) else none) X w { tmps:=(Value.pointer (some ⟨b,o,none⟩)::vs).toArray++Array.replicate (fn.ntmps-(Value.pointer (some ⟨b,o,none⟩)::vs).toArray.size) undef,defers:=[] } ax phx' ay w' a' ->
     a'.defers=[]/\∃v,(results fn a'.tmps).run P w'=.ok v w'/\∃b2,Ending.returned v=.returned b2/\(r.2.1=0/\ER w X b o c.size w' t r.1 rs r.2.2 b2):=by
    intro ax phx' ay w' a' ap aj;unfold sb at ap;rw[aP.fe]at ap;obtain⟨mX,us,bG,b_,co⟩:=x5 b?.b8 ap aj.hd aj.slots;rw[aP.fe]at bG;obtain⟨z,wr,dF,gr⟩:=oL bG;have zS:phx' 3=some (b,o,c.size):=(aj.ext.pl 3 (by rw[show s.aR 3=.box t (.sc t x) by rw[<- ac];rfl];rfl)).trans (if_pos rfl);obtain⟨c7,cn,aN,bF,b3,cK,w3,pA,dp,fR,gq,jD,j?⟩:=Px dF aj.hd zS;rw[aP.fe]at gr;rw[<- aM.nd]at cn aN b3 j?;have xo:kI phx' c7 (ax.ek wr).aR (λk=>k=b):=by
     refine⟨λj an y hy SJ => ?_,λk ap=>ap▸bF⟩;by_cases GF:j=3
     .subst GF;rw[b3]at an;cases an
     exact j? j GF an y hy SJ
    obtain⟨ayM,jb,uH,dl,gJ,v3,RL,uv⟩:=DQ (K:=K) (w0:=w) gr cn (b_.ext aN) xo;cases dl;refine⟨aj.keep.2.1,i? us,v2 co,i? us,rfl,rfl,jb,gJ.os,gJ.tape,gJ.output,gJ.size,λk ap l'=>gJ.keep k ⟨ap,l'⟩,λk ap => ?_,gJ.mlt,⟨cK,w3,pA,dp,fR,gq,jD.mono v3⟩,us,uv.lo ?_,rfl⟩
    .by_cases l':k=b
     .subst l';exact⟨λ_=>ve,λ_=>RL k rfl⟩
     exact gJ.hid k ⟨ap,l'⟩
    intro k qu du ap;exact qu ⟨ap,du⟩
   have ZJ:∀ax phx' ay w' a',((sb E t rs fn.results.toList ax).bind λz=>.leaf (z.1,0,z.2)).bI=some r->fT K w (d2 B_) s (λj=>if j=3 then some (b,o,c.size) else none) X w { tmps:=(Value.pointer (some ⟨b,o,none⟩)::vs).toArray++Array.replicate (fn.ntmps-(Value.pointer (some ⟨b,o,none⟩)::vs).toArray.size) undef,defers:=[] } ax phx' ay w' a' ->
     a'.defers=[]/\∃v,(results fn a'.tmps).run P w'=.ok v w'/\((r.2.1=0/\∃b2,Ending.returned v=.returned b2/\ER w X b o c.size w' t r.1 rs r.2.2 b2)\/(r.2.1≠0/\Ending.returned v=.panicked [{ v:=.iface bc (.int .i64 (r.2.1:Int)),recovered:=false }]/\WA w X b o c.size w' t r.1)):=by
    intro ax phx' ay w' a' ap aj;obtain⟨O,v,R,b2,af,aq,a8⟩:=go ax phx' ay w' a' ap aj;exact⟨O,v,R,.inl ⟨aq,b2,af,a8⟩⟩
   refine o3 (P:=P) (w0:=w) (K:=K) (inl:=true) b?.b8 b?.C b?.M ⟨b?.G,b?.K,λ_=>gp,λf s h=>⟨b?.X f s h,gp⟩,b?.P,λf s h=>⟨b?.Q f s h,gp⟩⟩ b?.I iS (λh=>by cases h) ej B_ s (t.aD×Nat×d8 rs) _ r eK (λj=>if j=3 then some (b,o,c.size) else none) X w _ hm oP mN _ (λax phx' ay w' a' ap aj => ?_) (λid ax phx' ay w' a' ap aj => ?_) (λy w' a' ap aF aL=>by cases ap)
   .exact ZJ ax phx' ay w' a' ap aj
   replace ap:((bif Nat.beq id ir then(sb E t rs fn.results.toList ax).bind λz=>.leaf (z.1,0,z.2) else bif Nat.blt hs id then(aw.iQ ax (Fk t)).bind λz=>.leaf (z.1,id-hs,yD rs) else .fail:aP (t.aD×Nat×d8 rs))).bI=some r:=ap;cases Y:Nat.beq id ir with
   |true =>rw[Y,cond_true]at ap;unfold lG;rw[if_pos (fB Y)];exact ZJ ax phx' ay w' a' ap aj
   |false=>
    rw[Y,cond_false]at ap;cases hp:Nat.blt hs id with
    |false=>rw[hp]at ap;cases ap
    |true=>
     rw[hp,cond_true]at ap;have bm:hs<id:=by simpa using hp
     obtain⟨z,wr,dF,gr⟩:=oL ap;have zS:phx' 3=some (b,o,c.size):=(aj.ext.pl 3 (by rw[show s.aR 3=.box t (.sc t x) by rw[<- ac];rfl];rfl)).trans (if_pos rfl);obtain⟨c7,cn,aN,bF,b3,cK,w3,pA,dp,fR,gq,jD,j?⟩:=Px dF aj.hd zS;cases gr;obtain⟨k,rfl⟩:∃k,id=hs+k:=⟨id-hs,J⟩;rw[KR ma];refine⟨aj.keep.2.1,.inr ⟨by show hs+k-hs≠0;omega,by show Ending.panicked _=Ending.panicked [{ v:=.iface bc (.int .i64 ((hs+k-hs:Nat):Int)),recovered:=false }];rw[BH],c7,cn.os,cn.tape,cn.output,cn.size,λk ap l'=>cn.keep k ⟨ap,l'⟩,λk ap => ?_,cn.mlt,⟨cK,w3,pA,dp,fR,gq,jD⟩⟩⟩;by_cases l':k=b
     .subst l';exact⟨λ_=>ve,λ_=>bF⟩
     exact cn.hid k ⟨ap,l'⟩
end Yp
namespace Yp
open Go
variable {P:Program}
def Tu{a:Array Operand}(h:Al a.toList=true):a=#[]:=by
 apply m3;cases bu:a.toList with
 |nil=>rfl
 |cons x l=>rw[bu]at h;cases h
def amf{D:Code}{q:Nat×Nat×List Operand}(h:FH D=some q):∃id ops wS dT dF cG eg ev gr cQ,D=.region id ops false/\q.2.2=wS.toList /\
  ops.toList=[⟨some q.1,.makeFunc (.func q.2.1) #[] wS,dT,dF,cG,none⟩,⟨none,.defer ⟨.value (.tmp q.1), #[],eg⟩,ev,gr,cQ,none⟩]:=by
 cases D<;>try(cases h)
 rename_i id ops dk;simp only[FH]at h;cases dk with
 |true=>cases h
 |false=>
  split at h
  .rename_i d F first wS dT dF cG l4 args eg ev gr cQ lf
   cases Y:(Nat.beq d l4&&(Al first.toList&&Al args.toList)) with
   |false=>rw[Y]at h;cases h
   |true=>
    simp only[cL]at Y;have:=fB Y.1;rw[Tu Y.2.1,Tu Y.2.2]at lf
    grind
  cases h
def axk{c:Code}{p:Nat×Code}(h:IG c=some p):∃id ops eg dT dF cG,c=.seq (.region id ops false) p.2/\ops.toList=[⟨some p.1,.call ⟨.builtin .recover, #[],eg⟩,dT,dF,cG,none⟩]:=by
 unfold IG at h;split at h
 .rename_i id ops b
  split at h
  .rename_i d args eg dT dF cG lf
   cases Y:Al args.toList with
   |false=>rw[Y]at h;cases h
   |true =>rw[Y,cond_true]at h;cases h;rw[Tu Y]at lf;exact⟨_,_,_,_,_,_,rfl,lf⟩
  cases h
 cases h
def agx{E:da}{rs:List ef}{res:List ResultVar}{nv nt:Nat}{inl:Bool}{K:Kp}{w0:World}(aX:∀c:Code,BJ P K w0 E rs res nv nt inl c):∀(c A B:Code) (q:Nat×Nat×List Operand),ya c=some (A,q,B) ->
  ∀(s:aM) (ρ:Type) (k:jN (d8 rs)->aP ρ) (r:ρ),((run E rs res nv nt inl A s).bind k).bI=some r->∀(phx:cc) (M:Nat->Prop) (w:World) (a:Act),Mem K w0 phx M s.aR w->dw phx (view w M) s.aR s.bX a->nt<=a.tmps.size ->
  ∀(Q:Exit->Act->World->Prop),
   (∀D Jm ax phx' ay w' a',FH D=some q->(k (.nx ax)).bI=some r->fT K w0 Jm s phx M w a ax phx' ay w' a'->(Code.seq D B).wp P Q a' w') ->
   (∀id ax,(k (.ex id ax)).bI=none)->(∀x,(k (.rt x)).bI=none)->c.wp P Q a w
 |.seq x y,A,B,q,hA,s,ρ,k,r,h,phx,M,w,a,hm,ac,gh,Q,O,R,af=>by
  simp only[ya]at hA;cases aF:FH x with
  |some MN =>rw[aF]at hA;cases hA;simp only[run]at h;exact O x [] s phx M w a aF h (fT.refl hm ac)
  |none=>
   rw[aF]at hA;simp only at hA;cases hy:ya y with
   |none=>rw[hy]at hA;cases hA
   |some p=>
    rw[hy]at hA;obtain⟨Ot,MN,B'⟩:=p;cases hA;simp only[run]at h;rw[aP.fe]at h;refine wp_seq (aX x s ρ _ r h phx M w a hm ac gh _ (λax phx' ay w' a' ap aj => ?_) (λid ax phx' ay w' a' ap aj => ?_) (λv w' a' ap aF aL => ?_))
    .exact agx aX y _ _ _ hy ax ρ k r ap phx' ay w' a' aj.hd aj.slots (by rw[aj.keep.1];exact gh) Q (λD Jm d5 jm jb fk a3 hJ ff kR=>O D (d2 x++Jm) d5 jm jb fk a3 hJ ff (aj.trans kR (λt h=>yT _ h) (λt h=>wC _ h))) R af
    .exact absurd (ap.symm.trans (R id ax)) bh
    exact absurd (ap.symm.trans (af v)) bh
 |.skip,A,B,q,h,_,_,_,_,_,_,_,_,_,_,_,_,_,_,_,_=>by cases h
 |.label _,A,B,q,h,_,_,_,_,_,_,_,_,_,_,_,_,_,_,_,_=>by cases h
 |.region _ _ _,A,B,q,h,_,_,_,_,_,_,_,_,_,_,_,_,_,_,_,_=>by cases h
 |.cond _ _ _,A,B,q,h,_,_,_,_,_,_,_,_,_,_,_,_,_,_,_,_=>by cases h
 |.block _ _,A,B,q,h,_,_,_,_,_,_,_,_,_,_,_,_,_,_,_,_=>by cases h
 |.exit _,A,B,q,h,_,_,_,_,_,_,_,_,_,_,_,_,_,_,_,_=>by cases h
 |.scope _,A,B,q,h,_,_,_,_,_,_,_,_,_,_,_,_,_,_,_,_=>by cases h
 |.ret,A,B,q,h,_,_,_,_,_,_,_,_,_,_,_,_,_,_,_,_=>by cases h
 |.loop _,A,B,q,h,_,_,_,_,_,_,_,_,_,_,_,_,_,_,_,_=>by cases h
 |.goto _,A,B,q,h,_,_,_,_,_,_,_,_,_,_,_,_,_,_,_,_=>by cases h
 |.refuse _,A,B,q,h,_,_,_,_,_,_,_,_,_,_,_,_,_,_,_,_=>by cases h
 |.rangeFunc _ _ _ _,A,B,q,h,_,_,_,_,_,_,_,_,_,_,_,_,_,_,_,_=>by cases h
def anf{phx:cc}{H:cg}{B:Nat->aQ}{s:aM}{aZ:List au}{vs:List Value}(aB:s.aR=B)(dc:gm phx H B aZ vs)(n:Nat):∃bp:aM,(⟨bp.t,s.h,s.w⟩:aM)=bp/\(∀(γ:Type 1) (k:dH->γ),fill n aZ 0 .e k=k bp.t)/\bp.aR=B /\
  dw phx H B bp.bX { tmps:=vs.toArray++Array.replicate (n-vs.toArray.size) undef,defers:=[] }:=by
 obtain⟨bp,O,R,af,aq⟩:=F1 n aZ 0 ⟨.e,s.h,s.w⟩;have ac:(⟨bp.t,s.h,s.w⟩:aM)=bp:=by cases bp;simp only at O R;rw[O,R]
 have g1:=dc.length;have bw:=T' dc;refine⟨bp,ac,λγ k=>af γ k,by rw[<- aB];funext j;unfold aM.aR;rw[O],λj => ?_⟩;have zz:(⟨.e,s.h,s.w⟩:aM).bX j=.bad:=dH.vb 40 j;rcases aq j with h|⟨p,_,h,bL⟩|⟨h,bL⟩
 .rw[h,zz];trivial
 .rcases bL with bL|bL<;>rw[bL]
  .obtain⟨v,aC,ah⟩:=bw j p (by simpa using h)
   have bm:j<vs.length:=(mt.1 aC).1;have:(vs.toArray++Array.replicate (n-vs.toArray.size) undef).getD j undef=v:=by rw[mv,yR (by simpa using bm)];simp[aC]
   show a? _ _ _ p ((vs.toArray++Array.replicate (n-vs.toArray.size) undef).getD j undef);rw[this];exact ah
  trivial
 rcases bL with bL|bL<;>rw[bL]
 .have bm:vs.length<=j:=by rw[g1]at h;simpa using h
  have:(vs.toArray++Array.replicate (n-vs.toArray.size) undef).getD j undef=undef:=by
   rw[mv,EP (by simpa using bm)];by_cases an:j-vs.toArray.size<n-vs.toArray.size
   .rw[wq,if_pos an];rfl
   rw[wq,if_neg an];rfl
  exact this
 trivial
def alV{E EC:da}(b?:nC P E)(qo:nC P EC)(iS:P.follows .mixedOrders=true){fn e9:Func}{iM bc lQ:Nat}{bd C:Code}(dW:P.funcs[F]?=some e9)(zy:e9.body=some bd)(hA:IG bd=some (iM,C))(Ly:e9.ntmps<=1000000)(vv:e9.results.size=0)
  {w:World} {X:Nat->Prop} (gp:pd P ⟨λb=>b<w.heap.size,X⟩ w) {rs:List ef} {cV:List il} {o:Option Nat} {s:aM} {r:d8 rs} (ap:(r6 E EC fn e9 lQ iM bc C rs cV o s).bI=some r) {phx:cc} {M:Nat->Prop} {w':World} {a':Act} {vs:List Value}
  (hm:Mem ⟨λb=>b<w.heap.size,X⟩ w phx M s.aR w') (ac:dw phx (view w' M) s.aR s.bX a') (Lq:jw phx (view w' M) s.aR cV vs) {u:FrameMode} (aL:(o=none/\u=.returning)\/∃k,o=some k/\u=.panicking [{ v:=.iface bc (.int .i64 (k:Int)),recovered:=false }]) :
  CallsD P F vs.toArray u w' fun
   |.returned _,u',cN=>Leaves P fn a'.tmps (λe cN=>∃b2,e=.returned b2/\iu w X cN rs r b2) [] (settle u') cN
   |.panicked Ca,u',cN=>Leaves P fn a'.tmps (λe cN=>∃b2,e=.returned b2/\iu w X cN rs r b2) [] (raised u' Ca) cN
   |.outgrown,_,cN=>(λe cN=>∃b2,e=Ending.returned b2/\iu w X cN rs r b2) .outgrown cN:=by
 let K:Kp:=⟨λb=>b<w.heap.size,X⟩
 obtain⟨id,ops,eg,dT,dF,cG,rfl,lf⟩:=axk hA;simp only at lf zy;obtain⟨bp,e1,aN,dJ,gQ⟩:=anf (s:=s) rfl Lq.args e9.ntmps;unfold r6 at ap;rw[aN]at ap;have ap:((ib e9.ntmps (some iM) ⟨bp.t,s.h,s.w⟩ (x0 bc o) λqO=>
  aP.bind (run EC [] e9.results.toList lQ e9.ntmps true C qO) fun
   |.nx eu=>(mT E ⟨s.t,eu.h,eu.w⟩ fn.results.toList).bind λvs=>n_ ⟨s.t,eu.h,eu.w⟩ rs vs
   |.ex k eu=>bif Nat.beq k ir then(mT E ⟨s.t,eu.h,eu.w⟩ fn.results.toList).bind λvs=>n_ ⟨s.t,eu.h,eu.w⟩ rs vs else .fail
   | .rt _ => .fail:aP (d8 rs)).bind aP.leaf).bI=some r:=by rw [kq];exact ap
 rw[e1]at ap;obtain⟨f6,ap⟩:=uz ap;rw[kq]at ap;have app:iM<e9.ntmps:=f6 iM rfl
 let a0:Act:={ tmps:=vs.toArray++Array.replicate (e9.ntmps-vs.toArray.size) undef,defers:=[] }
 have cP:e9.ntmps<=a0.tmps.size:=by show e9.ntmps<=(vs.toArray++Array.replicate (e9.ntmps-vs.toArray.size) undef).size;simp;omega
 refine callsD_of_wpS dW zy λc₀ cs Si => ?_

 have aeC:∀(o7:FrameMode) (x:Value),(match u with|.panicking [{ v,recovered:=false,goexit:=false }]=>o7=.panicking [{ v,recovered:=true }]/\x=v|_=>o7=u/\x=.nilIface)->settle o7=.returning ->
   a? phx (view w' M) s.aR (x0 bc o) x ->
   C.wpS P (bodyPostS P e9 c₀ cs (fun
   |.returned _,u',cN=>Leaves P fn a'.tmps (λe cN=>∃b2,e=.returned b2/\iu w X cN rs r b2) [] (settle u') cN
   |.panicked Ca,u',cN=>Leaves P fn a'.tmps (λe cN=>∃b2,e=.returned b2/\iu w X cN rs r b2) [] (raised u' Ca) cN
   | .outgrown,_,cN=>(λe cN=>∃b2,e=Ending.returned b2/\iu w X cN rs r b2) .outgrown cN)) (a0.put (some iM) x) ({ c₀ with mode:=o7 } :: cs) w':=by
  intro o7 x _ nj hx;refine wpS_of_wp ?_;have sl:dw phx (view w' M) (i_ bp (some iM) (x0 bc o)).aR (i_ bp (some iM) (x0 bc o)).bX (a0.put (some iM) x):=by rw[lp,rA Ly f6,dJ];exact dw.put gQ (λd aF=>by cases aF;exact hU app cP) hx
  have Tl:Mem K w phx M (i_ bp (some iM) (x0 bc o)).aR w':=by rw[lp,dJ];exact hm
  have go:∀eu phx' ay cN a4,((mT E ⟨s.t,eu.h,eu.w⟩ fn.results.toList).bind λvs=>n_ ⟨s.t,eu.h,eu.w⟩ rs vs).bI=some r->fT K w (d2 C) (i_ bp (some iM) (x0 bc o)) phx M w' (a0.put (some iM) x) eu phx' ay cN a4 ->
    a4.defers=[]/\∃u',({ c₀ with mode:=o7 } :: cs:List Frame)={ c₀ with mode:=u' } :: cs/\∃v,(results e9 a4.tmps).run P cN=.ok v cN/\Leaves P fn a'.tmps (λe cN=>∃b2,e=.returned b2/\iu w X cN rs r b2) [] (settle u') cN:=by
   intro eu phx' ay cN a4 jC aj;have tQ:cm phx M s.aR w' phx' ay eu.aR cN:=by have:=aj.ext;rwa [lp,dJ]at this
   have aw9:dw phx' (view cN ay) (⟨s.t,eu.h,eu.w⟩:aM).aR (⟨s.t,eu.h,eu.w⟩:aM).bX a':=ac.ext tQ;have Ae:Mem K w phx' ay (⟨s.t,eu.h,eu.w⟩:aM).aR cN:=aj.hd;obtain⟨mX,us,bG,b_,co⟩:=x5 b?.b8 jC Ae aw9;have T?:((n_ ⟨s.t,eu.h,eu.w⟩ rs mX).bind aP.leaf).bI=some r:=by rw[kq];exact bG
   obtain⟨y,c7,b4,dl,Af,rL,_,uv⟩:=DQ (K:=K) (w0:=w) T? Ae b_ (U:=λ_=>False) ⟨λ_ _ _ _ h=>h,λ_ h=>h.elim⟩;cases dl;have CV:e9.results.toList=[]:=by rw[<- k3];simpa using vv
   refine⟨by rw[aj.keep.2.1];show(a0.put (some iM) x).defers=[];rfl,o7,rfl,i? [],v2 (us:=[]) (by rw[CV];rfl),?_⟩;rw[nj];exact⟨i? us,v2 co,i? us,rfl,c7,Af.os,Af.tape,Af.output,Af.size,λb Y=>Af.keep b Y,λb Y=>Af.hid b Y,Af.mlt,us,uv,rfl⟩
  have Sc:((run EC [] e9.results.toList lQ e9.ntmps true C (i_ bp (some iM) (x0 bc o))).bind fun
   |.nx eu=>(mT E ⟨s.t,eu.h,eu.w⟩ fn.results.toList).bind λvs=>n_ ⟨s.t,eu.h,eu.w⟩ rs vs
   |.ex k eu=>bif Nat.beq k ir then(mT E ⟨s.t,eu.h,eu.w⟩ fn.results.toList).bind λvs=>n_ ⟨s.t,eu.h,eu.w⟩ rs vs else .fail
   |.rt _=>.fail).bI=some r:=ap
  refine o3 (P:=P) (w0:=w) (K:=K) (E:=EC) (inl:=true) qo.b8 qo.C qo.M ⟨qo.G,qo.K,λ_=>gp,λf s h=>⟨qo.X f s h,gp⟩,qo.P,λf s h=>⟨qo.Q f s h,gp⟩⟩ qo.I iS (λh=>by cases h) Ly C _ (d8 rs) _ r Sc phx M w' _ Tl sl (by simpa[Act.put]using cP) _ (λeu phx' ay cN a4 jC aj => ?_) (λid eu phx' ay cN a4 jC aj => ?_) (λy cN a4 jC aF aL=>by cases jC)
  .exact go eu phx' ay cN a4 jC aj
  replace jC:((bif Nat.beq id ir then(mT E ⟨s.t,eu.h,eu.w⟩ fn.results.toList).bind λvs=>n_ ⟨s.t,eu.h,eu.w⟩ rs vs else .fail:aP (d8 rs))).bI=some r:=jC;cases Y:Nat.beq id ir with
  |false=>rw[Y]at jC;cases jC
  |true =>rw[Y,cond_true]at jC;unfold lG;rw[if_pos (fB Y)];exact go eu phx' ay cN a4 jC aj
 refine wpS_seq (wpS_region ?_);have aqW:ops.size=1:=by rw[<- O1,lf];rfl
 have GD:ops[0]?=some ⟨some iM,.call ⟨.builtin .recover, #[],eg⟩,dT,dF,cG,none⟩:=by rw[<- wB,lf];rfl
 rw[aqW];show wpOpsS P ops _ [0] a0 (c₀::cs) w';have jR:(execOp a0.eval ⟨some iM,.call ⟨.builtin .recover, #[],eg⟩,dT,dF,cG,none⟩).run P w'=.ok .recover w':=rfl;simp only[wpOpsS,GD,Region.wanted];rw[jR];simp only[if_true];rcases aL with⟨rfl,rfl⟩|⟨k,rfl,rfl⟩
 .have hz:recoverD (c₀::cs)=none:=by simp only[recoverD,Si]
  rw[hz];have ai:({ c₀ with mode:=.returning }:Frame)=c₀:=by rw[<- Si]
  have:=aeC .returning .nilIface ⟨rfl,rfl⟩ rfl ⟨[.nilIface],aH.vU.2 rfl,rfl⟩;rw[ai]at this;exact this
 have hz:recoverD (c₀::cs)=some (.iface bc (.int .i64 (k:Int)),{ c₀ with mode:=.panicking [{ v:=.iface bc (.int .i64 (k:Int)),recovered:=true }] } :: cs):=by simp only[recoverD,Si]
 rw[hz];exact aeC (.panicking [{ v:=.iface bc (.int .i64 (k:Int)),recovered:=true }]) _ ⟨rfl,rfl⟩ rfl ⟨[.int .i64 (k:Int)],aH.ia.2 rfl,rfl⟩
def as6 {E EC : da} (b? : nC P E) (qo : nC P EC) (iS : P.follows .mixedOrders = true)  {fn e9 : Func} (hf : P.funcs[f]? = some fn) (st : (fn.name == "runtime.NumGoroutine") = false) (dW : P.funcs[F]? = some e9) (aqi : (e9.name == "runtime.NumGoroutine") = false)
  (nv lQ:Nat) (ts:List ae) (rs:List ef) {m bc:Nat} (ma:E.Pn=some (m,bc)) (Y:fn.body.isSome=true) (RG:∀c A B q,fn.body=some c->ya c=some (A,q,B)->q.2.1=F):fI P f ⟨ts,rs,Tm E EC fn e9 nv lQ bc ts rs⟩:=by
 refine⟨⟨fn,hf,Y,st⟩,?_⟩;intro w X x vs r dg kP iO eK;unfold Tm at eK;cases iP:fn.body with
 |none=>rw[iP]at Y;cases Y
 |some c=>
  cases zy:e9.body with
  |none=>rw[iP,zy]at eK;cases eK
  |some bd=>
   rw[iP,zy]at eK;simp only at eK;cases hA:ya c with
   |none=>rw[hA]at eK;cases eK
   |some p=>
    obtain⟨A,q,B⟩:=p;cases SC:IG bd with
    |none=>rw[hA,SC]at eK;cases eK
    |some auh=>
     obtain⟨iM,C⟩:=auh;rw[hA,SC]at eK;simp only at eK;cases bY:(Nat.ble fn.ntmps 1000000&&(Nat.ble e9.ntmps 1000000&&Nat.beq e9.results.size 0)) with
     |false=>rw[bY]at eK;cases eK
     |true=>
      rw[bY]at eK;simp only[cL,EI]at bY;obtain⟨ej,Ly,Sy⟩:=bY;have Sy:=fB Sy;have abE:=RG c A B q iP hA;obtain⟨s,af,ac,hm,oP,mN,gp⟩:=U1 (P:=P) dg kP iO fn.ntmps;rw[af,ac]at eK
      let K:Kp:=⟨λb=>b<w.heap.size,X⟩
      have aX:=λc=>o3 (P:=P) (w0:=w) (K:=K) (E:=E) (rs:=[]) (res:=fn.results.toList) (nv:=nv) (nt:=fn.ntmps) (inl:=true) b?.b8 b?.C b?.M ⟨b?.G,b?.K,λ_=>gp,λf s h=>⟨b?.X f s h,gp⟩,b?.P,λf s h=>⟨b?.Q f s h,gp⟩⟩ b?.I iS (λh=>by cases h) ej c;have apL:oq P E K w:=⟨b?.G,b?.K,λ_=>gp,λf s h=>⟨b?.X f s h,gp⟩,b?.P,λf s h=>⟨b?.Q f s h,gp⟩⟩;refine calls_of_wp_defers hf iP ?_;refine agx aX c A B q hA s _ _ r eK (λ_=>none) X w _ hm oP mN _ (λD Jm bp hk ft cf cG hJ re n1 => ?_) (λ_ _=>rfl) (λ_=>rfl);obtain⟨id,ops,wS,dT,dF,amt,eg,ev,gr,amu,rfl,apc,lf⟩:=amf hJ;obtain⟨cV,wr,g1,bw⟩:=oL re;obtain⟨b,cR,Hc,vC⟩:=aw.cy g1;rw[apc]at Hc;have sv:(rv E ⟨some q.1,.makeFunc (.func q.2.1) #[] wS,dT,dF,amt,none⟩).aX bp.bX bp.aR=some (.clo q.2.1 0 cV,dx bp.aR wr):=by show((lO ea wS.toList).bind λb=>(lO Cd b).bind λcV=>.ret (.clo q.2.1 0 cV):aw au).aX bp.bX bp.aR=_;rw[aw.Rq,Hc];show((lO Cd b).bind λcV=>.ret (.clo q.2.1 0 cV):aw au).aX bp.bX cR=_;rw[aw.Rq,vC];rfl
      have bw:((ib fn.ntmps (some q.1) (bp.ek wr) .bad λax=>aP.bind (run E [] fn.results.toList nv fn.ntmps true B ax) fun
       |.nx d5=>r6 E EC fn e9 lQ iM bc C rs cV none d5
       |.ex k d5=>bif Nat.beq k ir then r6 E EC fn e9 lQ iM bc C rs cV none d5 else bif Nat.blt hs k then r6 E EC fn e9 lQ iM bc C rs cV (some (k-hs)) d5 else .fail
       | .rt _ => .fail:aP (d8 rs)).bind aP.leaf).bI=some r:=by rw [kq];exact bw
      obtain⟨f6,cW⟩:=uz bw;rw[kq]at cW;have abw:fn.ntmps<=cG.tmps.size:=by rw[n1.keep.1];exact mN
      have q':=λd aF=>hU (f6 d aF) abw;refine wp_seq (wp_region_list ?_);rw[lf];left;refine TO b?.b8 b?.C b?.M apL sv n1.hd n1.slots λg2 cN aoW => ?_;obtain⟨jG,c7,cn,aN,mX,Lq,oM⟩:=aoW;rw[<- aM.nd]at cn aN Lq;left;have iR:(cG.put (some q.1) g2).eval (.tmp q.1)=g2:=by show(cG.put (some q.1) g2).tmps.getD q.1 undef=g2;have:=q' q.1 rfl;simp[Act.put,this]
      have apP:g2=.func (.func q.2.1) #[] mX.toArray:=by rw[oM];simp
      have jR:(execOp (cG.put (some q.1) g2).eval ⟨none,.defer ⟨.value (.tmp q.1), #[],eg⟩,ev,gr,amu,none⟩).run P cN=.ok (.defer { target:=.fn (.func q.2.1) mX.toArray,args:=#[] }) cN:=by simp only[execOp,resolve];rw[iR,apP];simp[Deferred.ofValue]
      unfold Oper.wp;rw[jR]
      let Ce:Deferred:={ target:=.fn (.func q.2.1) mX.toArray,args:=#[] }
      let cQ:Act:={ cG.put (some q.1) g2 with defers:=Ce::cG.defers }
      have NB:dw jG (view cN c7) (i_ (bp.ek wr) (some q.1) .bad).aR (i_ (bp.ek wr) (some q.1) .bad).bX cQ:=by
       rw[lp,rA ej f6];have ao:dw jG (view cN c7) (bp.ek wr).aR (bp.ek wr).bX cG:=by rw[(dY.ek wr []).b8];exact n1.slots.ext aN
       exact dw.put ao q' trivial
      have xj:cQ.defers=[Ce]:=by show Ce::cG.defers=[Ce];rw[n1.keep.2.1]
      have S7:∀(o:Option Nat) (u:FrameMode) d5 jm jb fk a3,(r6 E EC fn e9 lQ iM bc C rs cV o d5).bI=some r->fT K w (d2 B) (i_ (bp.ek wr) (some q.1) .bad) jG c7 cN cQ d5 jm jb fk a3 ->
        ((o=none/\u=.returning)\/∃k,o=some k/\u=.panicking [{ v:=.iface bc (.int .i64 (k:Int)),recovered:=false }]) ->
        Leaves P fn a3.tmps (λe cN=>∃b2,e=.returned b2/\iu w X cN rs r b2) a3.defers u fk:=by
       intro o u d5 jm jb fk a3 ff kR aL;rw[kR.keep.2.1,xj];refine leaves_cons (f:=q.2.1) (args:=mX.toArray) (by rcases aL with⟨_,rfl⟩|⟨k,_,rfl⟩<;>simp) ?_ ?_
       .rw[abE]
        have tO:¬e9.body=none:=by rw[zy];simp
        have kQ:=by simpa using aqi
        simp[invoke,callFunc,dW,kQ,tO]
       rw[abE];have CO:=by have:=kR.ext;rwa [lp]at this
       exact alV b? qo iS dW zy SC Ly Sy gp ff kR.hd kR.slots (Lq.mono CO.pl CO.vw CO.bl) aL
      refine aX B _ _ _ _ cW jG c7 cN cQ (by exact cn) NB (by show fn.ntmps<=(cG.put (some q.1) g2).tmps.size;simpa[Act.put]using abw) _ (λd5 jm jb fk a3 ff kR => ?_) (λid d5 jm jb fk a3 ff kR => ?_) (λy fk a3 ff aF aL=>by cases ff)
      .exact S7 none .returning d5 jm jb fk a3 ff kR (.inl ⟨rfl,rfl⟩)
      replace ff:((bif Nat.beq id ir then r6 E EC fn e9 lQ iM bc C rs cV none d5 else bif Nat.blt hs id then r6 E EC fn e9 lQ iM bc C rs cV (some (id-hs)) d5 else .fail:aP (d8 rs))).bI=some r:=ff;cases Y:Nat.beq id ir with
      |true =>rw[Y]at ff;unfold lG;rw[if_pos (fB Y)];exact S7 none .returning d5 jm jb fk a3 ff kR (.inl ⟨rfl,rfl⟩)
      |false=>
       rw[Y]at ff;cases hp:Nat.blt hs id with
       |false=>rw[hp]at ff;cases ff
       |true=>
        rw[hp]at ff;have bm:=by simpa using hp
        obtain⟨k,rfl⟩:∃k,id=hs+k:=⟨id-hs,J⟩;rw[KR ma];rw[BH]at ff;exact S7 (some k) _ d5 jm jb fk a3 ff kR (.inr ⟨k,rfl,rfl⟩)
end Yp