/- A part of the proof of the statements of this seat: plain functions, and laws on them. No condition of its own. -/
import Derived.Test.YtoamgndhhiohaaaGreatDoorQ2
set_option linter.unusedVariables false
set_option linter.unusedSimpArgs false
set_option linter.defProp false
open _root_ renaming Bool->aE,Int->O,List->ab,List.length->T,Nat->R,Nat.beq->cT,Option->au,UInt64->hw,UInt8->aN,Unit->aj,absurd->ev,congrArg->d4,Bool.false->ag,if_neg->aD,if_pos->aH,Option.none->aq,Option.some->J,Bool.true->af
noncomputable section
open Go Yp
variable {i:aE}{c x:O}{l:ab O}{N a k m n r:R}{α:Type}
namespace Yp
open Go
set_option maxRecDepth 100000
set_option maxHeartbeats 1000000
def aB(s:aU):ab aE×ab j6:=(s.e.hub.1,s.e.hub.2.1)
def mT(s x:aU):Prop:=x.e.hub.1=s.e.hub.1\/x.e.hub.1=[ag,ag,ag,ag]
theorem oK{s x:aU}(h:aB x=aB s):mT s x:=.inl (TG h).1
def mT.trans{s x y:aU}(h:mT s x)(k:mT x y):mT s y:=k.elim (λk=>h.elim (λh=>.inl<|k.trans h) λh=>.inr<|k.trans h) .inr
def aC5(h:f8):((lz h).1.1,(lz h).1.2.1)=(h.1,h.2.1):=aME
theorem Wk(s:aU)(v:d6)(k:ai):aB (lm s v k).1=aB s:=by
 unfold lm;split
 .exact aC5 _
 rfl
theorem Ss(s:aU)(o:O)(b:ai):aB (nU s o b).1=aB s:=by
 grind [nU,Wk]
theorem C_(s:aU)(b:ai):aB (gs s b).1=aB s:=by
 unfold gs;dsimp only;split
 .rfl
 split
 .rfl
 split
 .rfl
 split
 .exact Wk _ _ _
 exact Wk _ _ _
def CH(s:aU)(q:eb):aB (lA s q)=aB s:=by
 unfold lA;split
 .split
  .exact Ss _ _ _
  exact C_ _ _
 rfl
def FQ:∀(k:R) (s:aU),aB (ri k s)=aB s
 |0,s=>rfl
 |k+1,s=>by
  unfold ri;split
  .rfl
  split
  .exact(FQ k _).trans (C_ s _)
  rfl
theorem afY(s:aU):mT s<|oJ s:=by
 unfold oJ;split
 .exact aKB
 exact aOU
def H6(s:aU):mT s (fN s).1:=by
 unfold fN;split
 .exact aKB
 grind [mT,GK,afY]
theorem af0(s:aU):mT s (pJ s).1:=by
 unfold pJ;split
 .exact aKB
 split
 .exact H6 s
 exact(H6 s).trans<|oK (CH _ _)
def avi(s:aU)(q:eb)(x:O):mT s<|rP s q x:=by
 unfold rP;split
 .exact aKB
 split
 .grind [oK,Ss]
 split
 .exact aKB
 split
 .exact(H6 s).trans (oK<|Ss _ _ _)
 split
 .exact H6 s
 exact(H6 s).trans<|.inl rfl
def avm(s:aU)(v:d6)(q:eb):mT s<|tg s v q:=by
 unfold tg;dsimp only;split
 .exact aKB
 split
 .exact avi _ _ _
 split
 .exact oK (CH _ _)
 exact aKB
def awS(s:aU):aB (s? s)=aB s:=by unfold s?;split<;>rfl
def auR(s:aU):aB (s2 s)=aB s:=by
 unfold s2 p? rY
 repeat' split
 all_goals first|rfl|exact awS s
theorem aGv(s:aU)(n:eb):aB (sy s n)=aB s:=by
 unfold sy;split
 .split
  .unfold uJ
   exact aLj
  unfold vv p?
  repeat' split
  all_goals first|rfl|exact CH _ _
 split
 .split
  .exact C_ _ _
  unfold vr
  repeat' split
  all_goals rfl
 unfold wb
 exact aLj
theorem Wy(s:aU):aB (p' s)=aB s:=by unfold p';split<;>rfl
def avk(s:aU)(v:d6):mT s<|s6 s v:=by
 unfold s6;split
 .split
  .grind [oK,aGv,Wy]
  split
  .refine oK (MN ?_<|Wy s)
   unfold wK
   exact aLj
  exact oK<|Wy s
 split
 .exact avm _ _ _
 exact aKB
theorem aoe(s:aU)(b:ai):aB (ir s b).1=aB s:=by
 unfold ir
 repeat' split
 all_goals rfl
def avl(s:aU)(b:ai):mT s<|pu s b:=by
 unfold pu;split
 .grind [oK,aoe]
 exact(oK<|aoe s b).trans<|(avk _ _).trans (oK<|FQ _ _)
theorem afZ:∀(l:ab ai) (s:aU),mT s (qX s l)
 |[],s=>.inl rfl
 |b::l,s=>by
  unfold qX;split
  .exact aKB
  exact(avl s b).trans<|afZ l _
def avh(s:aU)(c:O)(b:ai):mT s<|p4 s c b:=by
 grind [p4,mT,s9,afZ,fL]
def apZ(s:aU)(a:go):aB (t6 s a)=aB s:=by
 grind [t6,Ss,C_]
def aoj(s:aU):aB (qu s)=aB s:=by
 unfold qu;split
 .exact apZ _ _
 split
 .exact auR _
 rfl
def Wb(s:aU):mT s<|rv s:=by
 unfold rv;split
 .exact aKB
 split
 .split
  .grind [mT,As,af0]
  exact oK<|(FQ _ _).trans (aoj<|As s)
 exact oK<|(FQ _ _).trans (aoj s)
def avj(s:aU)(a:gF):mT s (pq s a).1:=by
 unfold pq;split
 .unfold sB
  repeat' split
  all_goals first|exact .inl rfl|exact oK<|FQ _ _
 split
 .exact af0 s
 split
 .unfold s1
  exact aH_
 split
 .unfold s8
  exact aH_
 split
 .unfold tq
  exact aH_
 split
 .unfold s4
  exact aH_
 split
 .exact Wb s
 split
 .exact afY s
 split
 .split
  .unfold vz
   repeat' split
   all_goals exact .inl rfl
  exact aKB
 split
 .exact aKB
 exact aKB
def aJJ(s:aU):(fN s).1.e.ph=8/\(fN s).2.2=11\/aB (fN s).1=aB s/\¬(fN s).2.2=11:=by
 unfold fN;split
 .exact .inr ⟨rfl,by show ¬(0:O)=11;decide⟩
 split
 .refine .inl ⟨?_,rfl⟩
  unfold oJ;split
  .assumption
  rfl
 rename_i Y ac;exact .inr ⟨rfl,ac⟩
def aKn(s:aU)(q:eb)(x:O):(rP s q x).e.ph=8\/aB (rP s q x)=aB s:=by
 have aX:=aJJ s;unfold rP;split
 .exact aOU
 split
 .grind [Ss]
 split
 .exact aOU
 split
 .rename_i h
  rcases aX with e|e
  .grind
  exact .inr<|(Ss _ _ _).trans e.1
 split
 .grind
 rename_i h;rcases aX with e|e
 .exact ev e.2 h
 exact .inr e.1
def aKo(s:aU)(v:d6):(s6 s v).e.ph=8\/aB (s6 s v)=aB s:=by
 unfold s6;split
 .right
  split
  .grind [aGv,Wy]
  split
  .refine MN ?_ (Wy s)
   unfold wK
   exact aLj
  exact Wy s
 split
 .unfold tg
  dsimp only;split
  .exact aOU
  split
  .exact aKn _ _ _
  split
  .exact .inr (CH _ _)
  exact aOU
 exact aOU
def AJ:ab aE:=[ag,ag,ag,ag]
structure g2(w:bQ):Prop where
 len:∀i,(w.e i).hub.1.length=4
 dn:∀i,(w.e i).ph=8->∀j,(w.e j).hub.1=AJ
def agR{l:ab aE}(h:T l=4)(aC:∀c,c<4->ap l c ag=ag):l=AJ:=by
 match l,h with
 |[a,b,c,d],_=>exact congr (d4 _<|aC 0 V)<|congr (d4 _<|aC 1 V) (congr (d4 _<|aC 2 V)<|congrArg (λx=>[x])<|aC 3 V)
def Ej(h:f8)(c:O):(iB h c).1.1.length=T h.1:=by
 unfold iB;split
 .rfl
 split
 .rfl
 exact jj
def Ek(h:f8)(c:O)(k:R):ap (iB h c).1.1 k ag=af->ap h.1 k ag=af/\(k<4->¬(k:O)=c):=by
 unfold iB;split
 .rename_i Y
  refine λaB=>⟨aB,λf6 e=>Y ?_⟩;subst e;exact⟨V,V⟩
 split
 .grind [ld]
 rename_i Y ac;intro aB;replace aB:ap (h.1.set c.toNat ag) k ag=af:=aB
 grind [ap]
def au4{h:f8}(bq:h.1=AJ)(c:O):(iB h c).1.1=AJ:=by
 refine agR (by rw[Ej,bq];rfl) λk aB => ?_;cases ak:ap (iB h c).1.1 k ag
 .rfl
 have:=(Ek h c k ak).1;rw[bq]at this;match k,aB with
 |0,_|1,_|2,_|3,_=>cases this
def g2.aqV{w:bQ}(h:g2 w)(c:O):g2<|gG w c:=⟨λi=>(Ej _ c).trans<|h.len i,λi ao j=>au4 (h.dn i ao j) c⟩
def Up{w:bQ}(h:∀i,(w.e i).hub.1.length=4)(j:aE):((t_ w).e j).hub.1=AJ:=by
 refine agR (((Ej _ _).trans<|(Ej _ _).trans<|(Ej _ _).trans<|Ej _ _).trans<|h j) λk aB => ?_;cases ak:ap ((t_ w).e j).hub.1 k ag
 .rfl
 have av:=Ek _ 3 k ak;have ac:=Ek _ 2 k av.1;have Y:=Ek _ 1 k ac.1;have aC:=Ek _ 0 k Y.1;omega
theorem EK(w:bQ)(i:aE)(x:aU):(h8 w i x).e i={ x.e with bV:=[],got:=[] }:=by show ho w.e i _ i=_;unfold ho;rw[aH rfl]
theorem Iw(w:bQ)(i:aE)(x:aU){j:aE}(h:¬j=i):(h8 w i x).e j=w.e j:=by show ho w.e i _ j=_;unfold ho;rw[aD h]
def g2.ag0{w:bQ}(h:g2 w){x:aU}(hl:T x.e.hub.1=4)(a?:(∃j,(w.e j).ph=8)->x.e.hub.1=AJ):g2<|f? w i x:=by
 have len:∀j,((h8 w i x).e j).hub.1.length=4:=λj=>by
  by_cases aF:j=i
  .grind [EK]
  rw[Iw w i x aF];exact h.len j
 unfold f?;split
 .exact⟨λj=>by rw[Up len];rfl,λ_ _ j=>Up len j⟩
 rename_i aA;have hx:x.e.ph=8->(w.e i).ph=8:=λcH=>sL.1 λax=>aA ⟨cH,ax⟩;refine⟨len,λj aF k => ?_⟩;have jE:∃j,(w.e j).ph=8:=by
  by_cases eT:j=i
  .grind [EK]
  grind [Iw]
 by_cases uu:k=i
 .grind [EK]
 rw[Iw w i x uu];obtain⟨uD,ayH⟩:=jE;exact h.dn uD ayH k
def g2.f?{w:bQ}(h:g2 w){x:aU}(a?:mT (w.at i) x):g2<|f? w i x:=by
 refine h.ag0 ?_ ?_
 .rcases a? with e|e
  .rw[e];exact h.len i
  rw[e];rfl
 rintro⟨j,aF⟩;rcases a? with e|e
 .exact e.trans (h.dn j aF i)
 exact e
def g2.a'{w:bQ}(h:g2 w)(l:ab gD):g2 { w with a':=l }:=⟨h.len,h.dn⟩
def g2.Bc{w:bQ}(h:g2 w)(i:aE)(c:O)(b:ai):g2<|lj w i c b:=h.f?<|avh _ c b
def g2.EM{w:bQ}(h:g2 w)(n m:O):g2 (h9 w n m).1:=aMt
def g2.H1:∀(k:R) {w:bQ},g2 w->g2 (lM k w)
 |0,w,h=>h
 |k+1,w,h=>by
  unfold lM;split
  .exact h
  exact g2.H1 k<|h.EM 0 0
def g2.rS:∀(k:R) {w:bQ},g2 w->g2 (l' k w)
 |0,w,h=>h
 |k+1,w,h=>g2.rS k<|((g2.H1 _ h).f? (i:=ag)<|Wb _).f? (i:=af) (Wb _)
def aDF(s:aU)(c:O)(h:T s.e.hub.1=4):(pL s c).1.e.hub.1.length=4/\(pL s c).1.e.ph=s.e.ph:=by
 unfold pL;split
 .exact⟨h,rfl⟩
 split
 .exact⟨h,rfl⟩
 refine⟨?_,aDk _⟩;rw[show(rj ⟨{ s.e with hub:=(k? s.e.hub c).1 },s.p⟩).e.hub.1=(k? s.e.hub c).1.1 from(TG<|FQ _ _).1];unfold k?;split
 .exact h
 split
 .exact h
 exact jj.trans h
def awK(w:bQ)(i j:aE)(x:aU)(h:¬x.e.ph=8)(bR:¬(w.e j).ph=8):¬((Yp.f? w i x).e j).ph=8:=by
 obtain⟨b0,bT⟩:=awJ w i x;by_cases aF:j=i
 .grind
 rw[show j=!i by cases i<;>cases j<;>simp at aF ⊢]at bR ⊢;rw[bT];exact bR
def g2.rk{w:bQ}(h:g2 w)(i:aE)(c:O)(cH:∀j,¬(w.e j).ph=8):g2 (rk w i c)/\∀j,¬((Yp.rk w i c).e j).ph=8:=by obtain⟨e9,gK⟩:=aDF (w.at i) c<|h.len i;exact⟨h.ag0 e9 λ⟨j,aF⟩=>ev aF<|cH j,λj=>awK w i j _ (by rw[gK];exact cH i)<|cH j⟩
def g2.step{w:bQ}(h:g2 w)(a:gF):g2 (jf w a).1:=by
 unfold jf;split
 .exact h.EM _ _
 split
 .unfold s7;split;exact h;exact h.a' _
 split
 .unfold yX;split;exact h;exact h.a' _
 split
 .unfold Ax;split;exact h;exact h.a' _
 split
 .unfold zH;split;exact h;exact h.Bc _ _ _
 split
 .unfold wm
  split
  .exact h
  rename_i cH;split
  .exact h
  split
  .exact h
  obtain⟨b4,cz⟩:=h.rk ag a.2.2.1<|λj aF=>cH (by cases j;exact .inl aF;exact .inr aF);exact(b4.rk af a.2.2.1 cz).1
 split
 .unfold vD;split;exact h;exact h.aqV _
 split
 .split;exact h;exact h.rS _
 split
 .unfold sV
  split
  .exact h
  exact h.f?<|avj _ a
 exact h
theorem g2.run:∀(l:ab gF) {w:bQ},g2 w->g2 (pR w l).1
 |[],_,h=>h
 |a::l,_,h=>g2.run l<|h.step a
def api(key:ai)(mA:aE):g2<|tR key mA:=⟨λ_=>rfl,λ_ h=>ev h (by show ¬(0:O)=8;decide)⟩
def tV(w:gx):Prop:=∀p:R,p<1024->w.1<=(p:O)->gW w p=ag
def j8(s x:aU):Prop:=tV s.e.win->tV x.e.win
theorem fe{s x:aU}(h:x.e.win=s.e.win):j8 s x:=λk=>by rw[h];exact k
def ao5:tV wa:=λp hp _=>by
 unfold gW;have:ap wa.2.1 (p/64) (u64 0)=u64 0:=by have h:p/64<16:=V;generalize p/64=q at h;rcases(by omega:q=0\/q=1\/q=2\/q=3\/q=4\/q=5\/q=6\/q=7\/q=8\/q=9\/q=10\/q=11\/q=12\/q=13\/q=14\/q=15) with e|e|e|e|e|e|e|e|e|e|e|e|e|e|e|e<;>rw[e]<;>rfl
 rw[this];show(0/2^(p%64)%2==1)=ag;rw[Nat.zero_div];rfl
def G5{s x:aU}(h:x.e.win=wa):j8 s x:=λ_=>by rw[h];exact ao5
def j8.trans{s x y:aU}(h:j8 s x)(k:j8 x y):j8 s y:=λq=>k<|h q
def aIc{w:gx}(h:tV w)(n:O):tV (kD w n).1:=by
 by_cases aC:(kD w n).2=0
 .obtain⟨Y,_,ac⟩:=Y4 aC
  rw[ac];intro p hp ht;rw[Bg _ _ hp];replace ht:max w.1 (n+1)<=(p:O):=ht;have ax:=Y.1;rw[b1 V,h p hp V];rfl
 grind [zW]
theorem aga(s:aU)(v:d6)(k:ai):(lm s v k).1.e.win=s.e.win:=by unfold lm;split<;>rfl
theorem St(s:aU)(o:O)(b:ai):(nU s o b).1.e.win=s.e.win:=by
 grind [nU,aga]
def C'(s:aU)(b:ai):(gs s b).1.e.win=s.e.win:=by
 grind [gs,aga]
def CI(s:aU)(q:eb):(lA s q).e.win=s.e.win:=by
 unfold lA;split
 .split
  .exact St _ _ _
  exact C' _ _
 rfl
def FR:∀(k:R) (s:aU),(ri k s).e.win=s.e.win
 |0,s=>rfl
 |k+1,s=>by
  unfold ri;split
  .rfl
  split
  .exact(FR k _).trans (C' s _)
  rfl
def ao9(s:aU):j8 s<|oJ s:=by
 unfold oJ;split
 .exact fe rfl
 exact G5 rfl
def acq(s:aU):j8 s (fN s).1:=by
 unfold fN;split
 .exact fe rfl
 split
 .exact j8.trans (x:=GK s (nV s.e.store s.e.power).1) (fe rfl) (ao9 _)
 exact fe rfl
def apc(s:aU):j8 s (pJ s).1:=by
 unfold pJ;split
 .exact fe rfl
 split
 .exact acq s
 exact G5<|CI _ _
def aIh(s:aU)(q:eb)(x:O):j8 s<|rP s q x:=by
 unfold rP;split
 .exact fe rfl
 split
 .grind [fe,St]
 split
 .exact fe rfl
 split
 .exact G5 (St _ _ _)
 split
 .exact acq s
 exact(acq s).trans<|fe rfl
def aIi(s:aU):j8 s<|s2 s:=by
 unfold s2 p? rY s?
 repeat' split
 all_goals first|exact fe rfl|exact G5 rfl
def aIl(s:aU)(n:eb):j8 s<|sy s n:=by
 unfold sy;split
 .split
  .unfold uJ
   exact aNW
  unfold vv p?
  exact aKG
 split
 .split
  .exact fe (C' _ _)
  unfold vr
  repeat' split
  all_goals exact fe rfl
 unfold wb
 repeat' split
 all_goals first|exact fe rfl|exact G5 rfl|exact fe<|C' _ _
def acr(s:aU):j8 s<|p' s:=by unfold p';split<;>exact fe rfl
def aIk(s:aU)(v:d6):j8 s<|s6 s v:=by
 unfold s6;split
 .split
  .exact(acr s).trans (aIl _ _)
  split
  .refine(acr s).trans ?_
   unfold wK
   exact aNW
  exact(acr s).trans<|fe rfl
 split
 .unfold tg
  dsimp only;split
  .exact fe rfl
  split
  .exact aIh _ _ _
  split
  .exact fe (CI _ _)
  exact fe rfl
 exact fe rfl
def ape(s:aU)(b:ai):j8 s (ir s b).1:=by
 unfold ir
 repeat' split
 all_goals first|exact fe rfl|exact λh=>aIc h _
def apa(s:aU)(b:ai):j8 s<|pu s b:=by
 unfold pu;split
 .exact ape s b
 exact(ape s b).trans<|(aIk _ _).trans (fe<|FR _ _)
def apb:∀(l:ab ai) (s:aU),j8 s (qX s l)
 |[],s=>fe rfl
 |b::l,s=>by
  unfold qX;split
  .exact fe rfl
  exact(apa s b).trans<|apb l _
def aIg(s:aU)(c:O)(b:ai):j8 s<|p4 s c b:=by
 unfold p4;split
 .exact fe rfl
 exact j8.trans (x:=s9 s c b) (fe rfl)<|apb _ _
def acs(s:aU):j8 s<|rv s:=by
 have ht:∀s,j8 s<|qu s:=λs=>by
  unfold qu t6;split
  .split
   .exact fe (St _ _ _)
   exact fe<|C' _ _
  split
  .exact j8.trans (x:=qy s (j3 s.e.ask).1) (fe rfl) (aIi _)
  exact fe rfl
 unfold rv;split
 .exact fe rfl
 split
 .split
  .exact j8.trans (x:=As s) (fe rfl) (apc _)
  exact j8.trans (x:=As s) (fe rfl)<|(ht _).trans (fe<|FR _ _)
 exact(ht s).trans<|fe (FR _ _)
def aIj(s:aU)(a:gF):j8 s (pq s a).1:=by
 unfold pq;split
 .unfold sB
  repeat' split
  all_goals first|exact fe rfl|exact fe<|FR _ _
 split
 .exact apc s
 split
 .unfold s1
  repeat' split
  all_goals first|exact fe rfl|exact G5 rfl|exact fe<|CI _ _
 split
 .unfold s8
  exact aKG
 split
 .unfold tq
  exact aKG
 split
 .unfold s4
  exact aKG
 split
 .exact acs s
 split
 .exact ao9 s
 split
 .split
  .unfold vz
   repeat' split
   all_goals exact fe rfl
  exact fe rfl
 split
 .exact fe rfl
 exact fe rfl
def h6(w:bQ):Prop:=∀i,tV (w.e i).win
def h6.f?{w:bQ}(h:h6 w){x:aU}(hx:j8 (w.at i) x):h6<|f? w i x:=by
 have key:h6<|h8 w i x:=λj=>by
  by_cases aF:j=i
  .subst aF;rw[EK];exact hx<|h j
  rw[Iw w i x aF];exact h j
 unfold Yp.f?;split
 .exact key
 exact key
def h6.Bc{w:bQ}(h:h6 w)(i:aE)(c:O)(b:ai):h6<|lj w i c b:=h.f?<|aIg _ c b
def h6.a'{w:bQ}(h:h6 w)(l:ab gD):h6 { w with a':=l }:=h
def h6.EM{w:bQ}(h:h6 w)(n m:O):h6 (h9 w n m).1:=aMt
def h6.H1:∀(k:R) {w:bQ},h6 w->h6 (lM k w)
 |0,w,h=>h
 |k+1,w,h=>by
  unfold lM;split
  .exact h
  exact h6.H1 k<|h.EM 0 0
def h6.rS:∀(k:R) {w:bQ},h6 w->h6 (l' k w)
 |0,w,h=>h
 |k+1,w,h=>h6.rS k<|((h6.H1 _ h).f? (i:=ag)<|acs _).f? (i:=af) (acs _)
def apd(s:aU)(c:O):j8 s (pL s c).1:=by
 unfold pL;split
 .exact fe rfl
 split
 .exact fe rfl
 exact fe<|FR _ _
def h6.step{w:bQ}(h:h6 w)(a:gF):h6 (jf w a).1:=by
 unfold jf;split
 .exact h.EM _ _
 split
 .unfold s7;split<;>exact h
 split
 .unfold yX;split<;>exact h
 split
 .unfold Ax;split<;>exact h
 split
 .unfold zH;split;exact h;exact h.Bc _ _ _
 split
 .unfold wm
  repeat(first|exact h|exact h6.f? (i:=af) (h6.f? (i:=ag) h<|apd _ _) (apd _ _)|split)
 split
 .unfold vD;split;exact h;exact h
 split
 .split;exact h;exact h.rS _
 split
 .unfold sV
  split
  .exact h
  exact h.f?<|aIj _ a
 exact h
def apO(key:ai)(mA:aE):h6<|tR key mA:=λ_=>ao5
theorem Fy{b:R}(h:¬a=b):cT a b=ag:=aK3
theorem SS{g f:R->aE}:∀n,(∀j,j<n->g j=f j)->nk g n=nk f n
 |0,_=>rfl
 |n+1,h=>by show nk g n+_=nk f n+_;rw[SS n<|λj aF=>h j V,h n V]
def an1{g:R->aE}{k:R}(aB:g k=ag):∀n,k<n->nk (λj=>iP (g j)<|Nat.beq j k) n=nk g n+2^k
 |n+1,h=>by
  show nk (λj=>iP (g j)<|Nat.beq j k) n+(if iP (g n) (cT n k)=af then 2^n else 0)=nk g n+(if g n=af then 2^n else 0)+2^k;by_cases ax:n=k
  .grind [SS,Fy,iP,Nat.beq_refl]
  rw[an1 aB n V,show cT n k=ag from Fy ax,g39];omega
def Uo(l:ab hw)(p:R):ab hw:=cA l (p/64)<|ap l (p/64) (u64 0)+UInt64.ofNat (2^(p%64))
def apS{g:R->aE}{p:R}(hp:p<1024)(hg:g p=ag):Uo (iA g) p=iA (λq=>iP (g q)<|Nat.beq q p):=by
 have bK:p/64<16:=V;have ax:ap (iA g) (p/64) (u64 0)=UInt64.ofNat (nk (λj=>g<|64*(p/64)+j) 64):=by unfold ap iA;rw[nr,M6,List.getElem?_range bK];rfl
 unfold Uo cA;rw[ax,<- UInt64.ofNat_add];refine sK ?_ λi Y ac => ?_
 .rw[jj,y0,y0]
 have ao:i<16:=by rw[y0]at ac;exact ac
 rw[TT];have az:∀(f:R->aE) (h:i<T (iA f)),(iA f)[i]=UInt64.ofNat (nk (λj=>f<|64*i+j) 64):=λf h=>by unfold iA at h ⊢;rw[sM,yQ]
 rw[az,az];split
 .rename_i aX
  subst aX;have aB:g (64*(p/64)+p%64)=ag:=by rw[TD];exact hg
  rw[<- an1 (g:=λj=>g<|64*(p/64)+j) aB 64 (DK _ V)];refine d4 UInt64.ofNat<|SS _ λj aF => ?_;show iP _ (cT j<|p%64)=iP _ (cT (64*(p/64)+j) p);congr 1;by_cases aX:j=p%64
  .rw[aX,TD,Ha,Ha]
  rw[Fy aX,Fy V]
 rename_i aX;refine d4 UInt64.ofNat<|SS _ λj aF => ?_;rw[show cT (64*i+j) p=ag from Fy V];exact g39.symm
def oP(t:O)(l:ab O)(q:R):aE:=l.any λx=>df (bL (t-1024) x)<|am (x%1024) (q:O)
def ahJ(t:O)(l:ab O)(x:O)(q:R):oP t (l++[x]) q=iP (oP t l q) (df (bL (t-1024) x)<|am (x%1024) (q:O)):=by
 grind [oP,iP]
def ahI{t:O}{q:R}:oP t l q=af↔∃x∈l,t-1024<=x/\x%1024=(q:O):=by
 grind [oP,bL,am,df]
theorem axM(t:O):iA (oP t [])=wa.2.1:=rfl
def apT{t:O}(hx:0<=x)(fs:∀y∈l,t-1024<=y->¬y%1024=x%1024)(ht:t-1024<=x):Uo (iA<|oP t l) (x%1024).toNat=iA (oP t<|l++[x]):=by
 rw[apS V (M9.2 λh=>by obtain⟨y,Y,ac,av⟩:=ahI.1 h;exact fs y Y ac V)]
 refine HD λq bD => ?_;rw[ahJ,show bL (t-1024) x=af from by rw[g09];exact bS ht];show iP _ _=iP _ (am (x%1024) (q:O))
 grind [Nat.beq_refl,ck,Fy,cc]
def aGR{t:O}(ht:¬t-1024<=x):iA (oP t<|l++[x])=iA (oP t l):=
 HD λq _=>by rw[ahJ,show bL (t-1024) x=ag from by rw[g09];exact b1 ht];show iP _ ag=_;exact g39
def aBi{w:gx}(bN:tV w){n:O}(h:(kD w n).2=0)(hl:∀x,x∈l↔(0<=x/\w.1-1024<=x/\x<w.1)/\gW w (x%1024).toNat=af):
  (kD w n).1=(max w.1<|n+1,iA<|oP (max w.1<|n+1)<|l++[n],()):=by
 obtain⟨Y,ac,av⟩:=Y4 h;rw[av];show((max w.1<|n+1,_,()):gx)=_;congr 2;refine HD λp hp => ?_;rw[rH,ahI];have ax:=Y.1;constructor
 .intro ak
  cases e1:D<|(p:O)=n%1024
  .rw[e1]at ak
   replace ak:df (gW w p) (D<|¬p9 w n p)=af:=ak;have hb1:gW w p=af:=by cases e:gW w p;rw[e]at ak;cases ak;rfl
   rw[hb1]at ak;have aA:¬p9 w n p:=o_.1 ak;have k7:¬(p:O)=n%1024:=g55.mp e1;have Ji:(p:O)<w.1:=by
    rcases Int.lt_or_le (p:O) w.1 with h|h
    .exact h
    rw[bN p hp h]at hb1;cases hb1

   have hx:∃x,0<=x/\w.1-1024<=x/\x<w.1/\x%1024=(p:O):=⟨w.1-1-(w.1-1-p)%1024,V,V,V,V⟩;obtain⟨x,oA,DE,acf,aoW⟩:=hx;refine⟨x,i7.2<|.inl<|(hl x).2 ⟨⟨oA,DE,acf⟩,by rw[aoW,ie];exact hb1⟩,?_,aoW⟩

   rcases Int.lt_or_le x (max w.1 (n+1)-1024) with bK|nC
   .exfalso
    exact aA ⟨x+1024,V,V,V⟩
   exact nC
  have k7:(p:O)=n%1024:=o_.1 e1;refine⟨n,i7.2<|.inr<|nZ.2 rfl,?_,k7.symm⟩;rcases ac with ac|ac
  .omega
  omega
 rintro⟨x,hx,aI5,aiK⟩;rcases i7.1 hx with hx|hx
 .obtain⟨⟨oA,DE,acf⟩,BH⟩:=(hl x).1 hx
  have Xu:gW w p=af:=by rw[<- BH,aiK,ie]
  by_cases k7:(p:O)=n%1024
  .rw[bS k7];rfl
  rw[b1 k7,Xu];refine bS ?_;rintro⟨m,b',cN,hD⟩;omega
 rw[nZ]at hx;subst hx;rw[bS aiK.symm];rfl
def aoy(k:R):u64 (k:O)=UInt64.ofNat k:=by
 refine T0.1 ?_;show(UInt64.ofNat ((k:O)%2^64).toNat).toNat=_
 grind [UInt64.toNat_ofNat']
def aHz(a b:hw):u64 (aG (cC a)<|cC b)=a+b:=by show u64 ((a.toNat:O)+(b.toNat:O))=_;rw[<- Int.natCast_add,aoy,UInt64.ofNat_add,UInt64.ofNat_toNat,UInt64.ofNat_toNat]
def aEv{w:gx}(bR:T w.2.1=16)(ht:0<=w.1/\w.1<=4611686018427387905)(n:O):QY (w,n,())=J (D<|dv n/\uh w n,()):=by
 unfold QY;dsimp only;rw[show i64 (bw w.1 1024)=w.1-1024 from fF aLS aPg];by_cases h:dv n/\w.1-1024<=n
 .obtain⟨⟨aC,Y⟩,ac⟩:=h
  refine aW (a:=(ag,())) (a8 (cm V)<|a8 (cm V) aOR)<|a8 rfl ?_;by_cases av:w.1<=n
  .rw[bS ⟨⟨aC,Y⟩,.inl av⟩]
   grind [b3,bj,il]
  obtain⟨k,aB⟩:∃k:R,n=(k:O):=⟨n.toNat,V⟩;subst aB;have hm:cY (k:O) 1024=((k%1024:R):O):=aL6
  have hi:((k:O)%1024).toNat=k%1024:=V;rw[hm];refine(bs<|bf<|jG av).trans<|(bs<|bs<|alx w bR _ V).trans ?_;cases ak:gW w<|k%1024
  .rw[bS ⟨⟨aC,Y⟩,.inr ⟨ac,by rw[hi];exact ak⟩⟩];rfl
  rw[b1 (by rintro⟨_,h|⟨_,h⟩⟩;exact av h;rw[hi,ak]at h;cases h)];rfl
 rw[b1 (by rintro⟨b6,ak|ak⟩;exact h ⟨b6,V⟩;exact h ⟨b6,ak.1⟩)];refine aW (a:=(af,())) ?_<|bj rfl;by_cases aC:n<0
 .grind [bj,cB]
 refine a8 (cm aC) ?_;by_cases Y:4611686018427387904<n
 .grind [bj,cB]
 refine a8 (cm Y) ?_;rw[cB];by_cases ac:n<w.1-1024
 .exact ac
 exact ev ⟨⟨V,by show n<=4611686018427387904;omega⟩,V⟩ h
def aEx{w:gx}(bR:T w.2.1=16)(aC:0<=w.1/\w.1<=4611686018427387905):∃l:ab O,QZ (w,())=J (l,())/\(∀x,x∈l↔(0<=x/\w.1-1024<=x/\x<w.1)/\gW w (x%1024).toNat=af)/\l.Pairwise (· < ·)/\T l<=1024:=by
 unfold QZ;dsimp only;obtain⟨cp,aIB⟩:∃cp:R,w.1=(cp:O):=⟨w.1.toNat,V⟩;obtain⟨a,b6,aID,aIC⟩:∃a:R,dk 0 (i64<|bw w.1 1024)=(a:O)/\a<=cp/\(a:O)=max 0 (w.1-1024):=by rw[show i64 (bw w.1 1024)=w.1-1024 from fF aLS aPg,g58];exact⟨(max 0<|w.1-1024).toNat,V,V,V⟩
 rw[b6];generalize hf:(λ(ae:ab O×O×aj)=>(_:au<|aL (ab O×O×aj)<|List O×aj))=f;have key:=aA9 (f:=f) (λi x=>x.2.1=((a+i:R):O)/\(∀m,m∈x.1↔((a:O)<=m/\m<((a+i:R):O))/\gW w (m%1024).toNat=af)/\x.1.Pairwise (· < ·)/\T x.1<=i) (λx=>(∀m,m∈x.1↔(0<=m/\w.1-1024<=m/\m<w.1)/\gW w (m%1024).toNat=af)/\x.1.Pairwise (· < ·)/\T x.1<=1024) (cp-a) 0 (λi ao x hp => ?_) (λx hp => ?_) (x:=(aI O,(a:O),())) ⟨rfl,λm=>⟨λh=>ev h DL,λh=>by exfalso;have:=h.1;omega⟩,TP,cx _⟩
 .obtain⟨⟨l,j,⟨⟩⟩,Y,ac,av,aJ⟩:=key
  exact⟨l,(cE Y).trans<|c3 g62,ac,av,aJ⟩
 .subst hf
  obtain⟨l,j,⟨⟩⟩:=x;obtain⟨dN,fC,jd,qj⟩:=hp;dsimp only at dN fC jd qj;subst dN;have ej:i64 (aG ((a+i:R):O) 1)=((a+(i+1):R):O):=dK (by show((a+i:R):O)+1=_;omega) V;have hm:cY ((a+i:R):O) 1024=(((a+i)%1024:R):O):=aL6
  have hi:(((a+i:R):O)%1024).toNat=(a+i)%1024:=V;have e1:∀(A B:au<|aL (ab O×O×aj)<|List O×aj),aa (aK ((a+i:R):O) w.1) A B=A:=λA B=>bj<|cB V;dsimp only;rw[e1,hm,alx w bR _ V,ej];cases ak:gW w<|(a+i)%1024
  .refine⟨(l,((a+(i+1):R):O),()),rfl,rfl,λm => ?_,jd,aMA⟩
   rw[fC];refine⟨λh=>⟨⟨h.1.1,V⟩,h.2⟩,λh=>⟨⟨h.1.1,?_⟩,h.2⟩⟩;rcases Int.lt_or_le m ((a+i:R):O) with ce|ce
   .exact ce
   exfalso;have:m=((a+i:R):O):=V;rw[this,hi,ak]at h;exact ev h.2 bP
  refine⟨(l++[((a+i:R):O)],((a+(i+1):R):O),()),aW rfl<|bA rfl<|c3 By,rfl,λm => ?_,?_,e8⟩
  .rw[i7,nZ,fC]
   constructor
   .rintro(h|h)
    .exact⟨⟨h.1.1,V⟩,h.2⟩
    rw[h,hi,ak];exact⟨⟨V,V⟩,rfl⟩
   intro h;rcases Int.lt_or_le m ((a+i:R):O) with ce|ce
   .exact .inl ⟨⟨h.1.1,ce⟩,h.2⟩
   exact .inr V
  refine List.pairwise_append.2 ⟨jd,List.pairwise_singleton _ _,λx hx y bW => ?_⟩;rw[nZ]at bW;have:=((fC x).1 hx).1;omega
 subst hf;obtain⟨l,j,⟨⟩⟩:=x;obtain⟨dN,fC,jd,qj⟩:=hp;dsimp only at dN fC jd qj;refine⟨(l,j,()),bf<|cm aMA,λm => ?_,jd,aMA⟩;rw[fC];refine and_congr_left λ_ => ?_;omega
def aA0(t:O)(q:ab O)(ht:0<=t/\t<=4611686018427387905)(aC:∀x∈q,0<=x)(bD:T q<=2000)
 (a?:∀(i:R) (ao:i<T q),∀y∈q.take i,t-1024<=y->t-1024<=q[i]->¬y%1024=q[i]%1024) :
 b? (bG (λ(ae:O×(O×ab hw×aj)×aj)=>
 aa (aK ae.1<|len q)
 (an (aO ae.1<|len q)
 (an (aO ae.1<|len q)
 (aa (bL (i64<|bw t 1024)<|ap q (ah ae.1) 0)
 (an (aO (i64<|de (cY (ap q (ah ae.1) 0) 1024) 64)<|bc 16)
 (ob (F6 (cY (cY (ap q (ah ae.1) 0) 1024) 64,()))
 λ(a:hw×aj)=>
 an (aO (i64<|de (cY (ap q (ah ae.1) 0) 1024) 64)<|bc 16)
 (J (aL.nx (i64<|aG ae.1 1,(ae.2.1.1,cA ae.2.1.2.1 (ah<|i64<|de (cY (ap q (ah ae.1) 0) 1024) 64)
 (u64<|aG (cC<|ap ae.2.1.2.1 (ah<|i64<|de (cY (ap q (ah ae.1) 0) 1024) 64)<|u64 0)<|cC a.1),ae.2.1.2.2),())))))
 (J<|aL.nx (i64<|aG ae.1 1,ae.2.1,())))))
 (J<|aL.ex 0 (ae.1,ae.2.1,())))
 (0,(t,wa.2.1,()),()))
 (λ(a:O×(O×ab hw×aj)×aj)=>aq)
 (λ(i:R) (a:O×(O×ab hw×aj)×aj)=>an (bU i 0)<|some (a.2.1,0,()))
 (λ(r:(O×ab hw×aj)×O×aj)=>J r)=J ((t,iA<|oP t q,()),0,()):=by
 generalize hg:(λ(ae:O×(O×ab hw×aj)×aj)=>(_:au<|aL (O×(O×ab hw×aj)×aj)<|(O×ab hw×aj)×O×aj))=g;have step:∀i:R,i<T q->g ((i:O),(t,iA<|oP t<|q.take i,()),())=J (.nx (((i+1:R):O),(t,iA<|oP t<|q.take<|i+1,()),())):=by
  intro i ao;subst hg;have ej:i64 (aG (i:O) 1)=((i+1:R):O):=dK IS V;have dP:aO (i:O) (len q)=af:=fq;refine bA fq<|a7 dP<|a7 dP ?_;dsimp only;have ax:ap q (ah (i:O)) 0=q[i]:=aPn
  have ahV:=a? i ao;have E?:=aC q[i]<|j7 ao;rw[ax,ej,show i64 (bw t 1024)=t-1024 from fF (by show -9223372036854775808<=t-1024;omega) (by show t-1024<=9223372036854775807;omega),pX ao];generalize q[i]=x at ahV E? ⊢;by_cases aB:t-1024<=x
  .refine bA (il aB) ?_
   obtain⟨p,hp,azh⟩:∃p:R,cY x 1024=(p:O)/\p=(x%1024).toNat:=⟨(x%1024).toNat,by rw[g32 E?];omega,rfl⟩;have jF:p<1024:=V;have e1:i64 (de (p:O) 64)=((p/64:R):O):=by rw[g31 V];exact dK V V
   have bh:cY (p:O) 64=((p%64:R):O):=aL6
   have Er:aO ((p/64:R):O) (bc 16)=af:=fq;rw[hp,e1,bh];refine a7 Er<|aW (aly _ V)<|a7 Er ?_;dsimp only;rw[aHz,aoy,eO,<- apT E? (λy bW Y=>ahV y bW Y aB) aB,<- azh];rfl
  refine a8 (jG aB) ?_;rw[aGR aB]
 have dh:g ((T q:O),(t,iA<|oP t<|q.take<|List.length q,()),())=J (.ex 0 ((T q:O),(t,iA<|oP t<|q.take<|List.length q,()),())):=by subst hg;exact bf fq
 have dU:=(gS (f:=g) (λi=>((i:O),(t,iA<|oP t<|q.take i,()),())) (T q) step 0<|ea _).trans<|dr dh;rw[qH,show q.take 0=[] from rfl,axM]at dU;exact(cE dU).trans<|c3 g62
def aEw{w:gx}(bR:T w.2.1=16)(ht:0<=w.1/\w.1<=4611686018427387905)(bN:tV w)(n:O):KU (w,n,())=J ((kD w n).1,(kD w n).2,()):=by
 unfold KU;dsimp only;by_cases h:dv n
 .have aC:0<=n:=h.1
  have Y:n<=4611686018427387904:=h.2;refine aW (a:=(ag,())) (a8 (cm V) aOR)<|a8 rfl ?_;rw[aEv bR ht];refine aW rfl ?_;by_cases hf:uh w n
  .rw[bS ⟨h,hf⟩]
   refine a8 rfl ?_;have fa:(kD w n).2=0:=by rw[zW];rw[aD<|not_not_intro h,aD<|not_not_intro hf]
   obtain⟨l,hl,hm,hp,ayO⟩:=aEx bR ht;have ak:=aBi bN fa hm;have e1:(aa (bL w.1 n) (J (i64<|aG n 1,())) (J (w.1,())):au<|Int×aj)=J (max w.1<|n+1,()):=by
    by_cases av:w.1<=n
    .grind [bj,il,aG,fF]
    refine a8 (jG av) ?_;simp;omega
   refine aW e1<|aW hl<|a7 By ?_;have I6:=aA0 (max w.1<|n+1) (l++[n]) V (λx hx=>by
    rcases i7.1 hx with hx|hx
    .grind
    rw[nZ]at hx;omega) e8<|λi ao y bW aiL v1 => ?_
   .refine(show _=_ from I6).trans ?_
    rw[ak,fa]
   by_cases py:i<T l
   .have e:(l++[n])[i]=l[i]:=acD py
    rw[e]at v1 ⊢;rw[M1 V]at bW;have Fa:=(hm y).1<|acS bW;have zC:=(hm l[i]).1<|j7 py;have bK:y<l[i]:=by obtain⟨j,aF,rfl⟩:=sO bW;rw[jl]at aF;rw[TQ];exact Uh.1 hp j i V py V
    omega
   have ayC:i=T l:=by rw[d7]at ao;simp at ao;omega
   subst ayC;rw[List.getElem_concat_length rfl]at v1 ⊢;rw[T1]at bW;have Fa:=(hm y).1 bW;rcases hf with hf|hf
   .omega
   grind
  rw[b1<|λce=>hf ce.2];refine bA rfl ?_
  grind [zW]
 have e:kD w n=(w,1):=by rw[zW];rw[aH h]
 rw[e];by_cases aC:n<0
 .grind [b3,bj,cB]
 refine aW (a:=(af,())) (a8 (cm aC) (by rw[cB];by_cases Y:4611686018427387904<n;exact Y;exact ev ⟨V,V⟩ h))<|bj rfl
def Ih{o dZ:au<|eK×d6×O×aj}{t:eK}{v:d6}{p:Prop}(h:o=dZ)(k:∃ps:O,dZ=J (t,v,ps,())/\(ps=0↔p)):∃ps:O,o=J (t,v,ps,())/\(ps=0↔p):=by rw[h];exact k
def aJq(l:ab O)(a b c d:O)(hl:l=[a,b]):(l=[c,d])↔(a=c/\b=d):=by subst hl;simp
def aCP(e:ew):∃a b:O,hk e=[a,b]:=by
 unfold hk;split
 .exact⟨_,_,rfl⟩
 split<;>exact⟨_,_,rfl⟩
def aES{e:ew}(h:sn n e){v:d6}(a3:v.1=1\/v.1=2)(mf:v.2.2.1=[dM v,e1 v]):Rk (e.t,v,())=J (D<|mm e v,()):=by
 unfold Rk;dsimp only;have hid:=h.id;have H8:i64 (bw 1 e.id)=1-e.id:=fF (by show -9223372036854775808<=1-e.id;omega) (by show 1-e.id<=9223372036854775807;omega);have fst:(aa (a2<|am v.2.1<|i64<|bw 1 e.id) (J (af,())) (aa (am e.ph 7) (J (af,()))<|some (am e.ph 8,())):au<|Bool×aj)=J (D<|¬v.2.1=1-e.id\/e.ph=7\/e.ph=8,()):=by
  grind [bf,eI,bS,bj,ck,cc,b1,ff]
 refine(bs<|fst).trans<|(b3 rfl).trans ?_;by_cases ee:¬v.2.1=1-e.id\/e.ph=7\/e.ph=8
 .rw[bS ee,bS]
  .rfl
  grind [mm]
 rw[b1 ee];rcases a3 with Y|ac
 .rw[b1 (p:=mm e v)]
  .exact bj (ck Y)
  grind [mm]
 refine(bf<|cc V).trans<|(bs<|Ah e).trans<|(b3 rfl).trans<|(bs<|show ww (e.ph,())=_ from K1 _).trans<|(b3 rfl).trans<|(bs<|show F7 (e.ring,v.2.2.2.1,())=_ from alA _ _).trans<|(b3 rfl).trans ?_;obtain⟨a,b,axD⟩:=aCP e;have ayD:mm e v↔¬i1 e.ph\/(pt e.ring v.2.2.2.1).2.1=ag\/¬dM v=a\/¬e1 v=b:=by
  grind [mm]
 rw[show D (mm e v)=D (¬i1 e.ph\/(pt e.ring v.2.2.2.1).2.1=ag\/¬dM v=a\/¬e1 v=b) from d4 D<|propext ayD,axD,mf];rw[ show ap [dM v,e1 v] (ah 1) 0=e1 v from rfl,show ap [a,b] (ah 1) 0=b from rfl];by_cases b4:i1 e.ph
 .rw[bS b4]
  cases cz:(pt e.ring v.2.2.2.1).2.1
  .rw[bS<|.inr<|.inl rfl];rfl
  refine(bs<|bf rfl).trans<|(bs<|(c3 rfl).trans<|c3 rfl).trans ?_;by_cases dw:dM v=a
  .refine(bs<|bf<|eI dw).trans ((bs<|(c3 rfl).trans<|c3 rfl).trans ?_)
   by_cases f6:e1 v=b
   .rw[eI f6,b1 (by rintro(h|h|h|h);exact h b4;cases h;exact h dw;exact h f6)];rfl
   rw[ff f6,bS<|.inr<|.inr<|.inr f6];rfl
  refine(bs<|bj<|ff dw).trans ?_;rw[bS<|.inr<|.inr<|.inl dw];rfl
 rw[b1 b4,bS<|.inl b4];rfl
def aER{s:aU}(hs:bJ n s)(ax:n<=999999999000)(bN:tV s.e.win){b:ai}(ak:T b<=1000000):∃ps:O,aaz (s.t,b,())=J ((ir s b).1.t,(ir s b).2.getD sj,ps,())/\(ps=0↔¬(ir s b).2=aq):=by
 by_cases aC:(eo b).2.1=0
 .obtain⟨az,ahm,_,_⟩:=Kw aC
  have mf:=Kx aC;have eU:=aES hs.e az.1.1 mf;have kd:=alC b ak;have fv:∀x:aU×au d6,x=(if mm s.e (eo b).1 then(fZ s 3,aq)
    else if(hb s (eo b).1).2.1=ag then(fZ ⟨s.e,(hb s (eo b).1).1⟩ 1,aq)
    else if(eo b).1.1=1 then(⟨s.e,(hb s (eo b).1).1⟩,J (eo b).1)
    else if ¬(kD s.e.win (eo b).1.2.2.2.2.1).2=0 then(fZ ⟨s.e,(hb s (eo b).1).1⟩ 2,aq)
    else(⟨{ s.e with win:=(kD s.e.win (eo b).1.2.2.2.2.1).1,ring:=r1 s.e (eo b).1.2.2.2.1 },(hb s (eo b).1).1⟩,J (eo b).1))->ir s b=x:=by
   grind [ir]
  have azr:eo b=((eo b).1,0,()):=T6 rfl<|T6 aC rfl;rw[azr]at kd;generalize(eo b).1=v at az mf eU kd fv;refine Ih (aW kd<|a8 rfl<|(bs eU).trans<|b3 rfl) ?_;by_cases Y:mm s.e v
  .rw[fv _<|by rw[aH Y],bS Y]
   exact⟨13,bA rfl<|(bs<|alL s).trans rfl,bP⟩
  rw[b1 Y];refine Ih (a8 rfl<|(bs<|aax s.e.key (by have:=hs.e.key;omega)).trans<|b3 rfl) ?_;dsimp only;have i?:=az.1.2.2.2.2.2.2.2;have dP:=zI v;have hp:=hs.p;have zq:∀k:ai,T k<=1000000->hb s v=uM s.p k (i0 v) v.2.2.2.2.2.2.1->F3 (s.p,k,i0 v,v.2.2.2.2.2.2.1,())=J ((hb s v).1,(hb s v).2.1,()):=λk aB aA=>by
   grind [aEa]
  by_cases av:v.1=1
  .have aA:hb s v=uM s.p (yZ s.e.key) (i0 v) v.2.2.2.2.2.2.1:=by unfold hb JH;rw[aD V]
   refine Ih (a8 (cc V)<|aW (Q3 v az.1)<|(bs<|zq _ aPD aA).trans<|b3 rfl) ?_;by_cases ac:(hb s v).2.1=ag
   .exact aLc
   rw[fv _<|by rw[aD Y,aH av],(Hq _).mp ac];exact⟨0,a8 rfl<|bj<|ck av,bP⟩
  have ID:v.1=2:=az.1.1.resolve_left av;have aA:hb s v=uM s.p (pt s.e.ring v.2.2.2.1).1 (i0 v) v.2.2.2.2.2.2.1:=by unfold hb JH;rw[aH ID]
  refine Ih (bA (ck ID)<|aW (alA _ _)<|aW (Q3 v az.1)<|(bs<|zq _ aOr aA).trans<|b3 rfl) ?_;by_cases ac:(hb s v).2.1=ag
  .exact aLc
  rw[(Hq _).mp ac];refine Ih (a8 rfl<|a8 (cc av)<|(bs<|aEw hs.e.win hs.e.top bN _).trans<|b3 rfl) ?_;by_cases aJ:(kD s.e.win v.2.2.2.2.1).2=0
  .rw[fv _<|by rw[aD Y,aD ac,aD av,aD<|not_not_intro aJ]]
   have hh:(aa (am s.e.ring.2.2.1.1 v.2.2.2.1) (J (a2<|am s.e.ph 4,())) (J (ag,())):au<|Bool×aj)=J (D<|s.e.ring.2.2.1.1=v.2.2.2.1/\¬s.e.ph=4,()):=aLQ
   refine⟨0,a8 (eI aJ)<|aW hh ?_,bP⟩;by_cases bv:s.e.ring.2.2.1.1=v.2.2.2.1/\¬s.e.ph=4
   .rw[bS bv,show r1 s.e v.2.2.2.1=(wL s.e.ring).1 by unfold r1;rw[aH bv]]
    refine bA rfl<|(bs<|alB _<|ame hs.e.ring).trans rfl
   rw[b1 bv,show r1 s.e v.2.2.2.1=s.e.ring by unfold r1;rw[aD bv]];rfl
  rw[fv _<|by rw[aD Y,aD ac,aD av,aH aJ]];exact⟨6,bA (ff aJ)<|(bs<|show o0 ((⟨s.e,(hb s v).1⟩:aU).t,6,())=_ from aEQ _).trans rfl,bP⟩
 have bh:ir s b=(fZ s 0,aq):=by unfold ir;rw[aH aC]
 rw[bh];exact⟨2,aW (alC b ak)<|bA (ff aC)<|(bs<|aay s).trans rfl,bP⟩
def avF{s:aU}(hs:bJ n s)(ax:n<=999999000000)(a:go):Et (s.t,a,())=J ((t6 s a).t,()):=by
 unfold Et t6;by_cases h:a.1=1
 .rw[aH h]
  exact bA (ck h)<|(bs<|YK hs V 0 a.2.2.2.2.1)
 rw[aD h];exact a8 (cc h)<|(bs<|zP hs V a.2.2.2.2.1)
def avG{s:aU}(hs:bJ n s)(ax:n<=999999000000):Eu (s.t,())=J ((s2 s).t,()):=by
 unfold Eu s2;by_cases aJ:s.e.ph=4
 .rw[aH aJ]
  exact bA (ck aJ)<|(bs<|al5 s)
 rw[aD aJ];refine a8 (cc aJ) ?_;by_cases bv:s.e.ph=5
 .rw[aH bv]
  exact bA (ck bv)<|(bs<|awD s)
 rw[aD bv];exact a8 (cc bv)<|(bs<|aGK hs V)
def ami{r:eW}(h:mI r):0<=r.2.2.2.1/\r.2.2.2.1<=1000000:=by
 rcases h with rfl|⟨_,_,_,_,ac,_⟩
 .exact⟨by show(0:O)<=0;omega,by show(0:O)<=1000000;omega⟩
 omega
def aoi{s:aU}(hs:bJ n s)(ax:n<=999998000000):
  (ob (D9 (s.e.ask,())) λ(a5:go×aE×aE×aj)=>aa a5.2.1 (ob (Et ((qy s a5.1).t,a5.1,())) λ(a:eK×aj)=>ob (ln (a.1,())) λ(a:eK×aj)=>J (a.1,()))
   (aa a5.2.2.1 (ob (Eu ((qy s a5.1).t,())) λ(a:eK×aj)=>ob (ln (a.1,())) λ(a:eK×aj)=>J (a.1,()))
    (ob (ln ((qy s a5.1).t,())) λ(a:eK×aj)=>J (a.1,()))):au<|eK×aj)=J ((rj<|qu s).t,()):=by
 refine aW (aqn hs.e.askr) ?_;have bR:=ZI hs<|R1 hs.e.askr;have ht:=ZG hs;unfold qu at ht ⊢;cases Y:(j3 s.e.ask).2.1
 .rw[Y]at ht
  refine a8 rfl ?_;cases ac:(j3 s.e.ask).2.2
  .rw[ac]at ht
   exact a8 rfl<|yc bR V
  rw[ac]at ht;exact bA rfl<|aW (avG bR V) (yc ht V)
 rw[Y]at ht;exact bA rfl<|aW (avF bR V _) (yc ht V)
def agd{s:aU}(hs:bJ n s)(ax:n<=999998000000):Ia (s.t,())=J ((rv s).t,()):=by
 unfold Ia rv;by_cases xp:s.e.ph=7\/s.e.ph=8
 .exact aKS
 rw[aD xp];have eJ:=λh=>xp<|.inl h;have cH:=λh=>xp<|.inr h;refine aW (a:=(ag,())) (a8 (cc eJ) aN_)<|?_;refine(bs<|show wg (s.e.ph,())=_ from Ko _).trans<|?_;by_cases hl:i1 s.e.ph
 .rw[bS hl,aH hl]
  refine((bs<|aFO<|ami hs.e.ring).trans<|?_);by_cases bD:s.e.seq=4611686018427387904
  .rw[aH bD]
   exact bA (ck bD)<|(bs<|anv (FI hs) V)
  rw[aD bD];exact a8 (cc bD)<|aoi (FI hs) ax
 rw[b1 hl,aD hl];exact(aoi hs ax)
def avA{s:aU}(hs:bJ n s)(ax:n<=999998000000)(a:gF)(ak:T a.2.2.2.2.1<=1000000):Oj (s.t,a,())=J ((pq s a).1.t,(pq s a).2,()):=by
 unfold Oj pq;by_cases aC:a.1=0
 .rw[aH aC];exact bA (ck aC)<|(bs<|awF hs V _ ak)
 rw[aD aC];refine a8 (cc aC) ?_;by_cases Y:a.1=1
 .rw[aH Y];exact bA (ck Y)<|(bs<|anv hs V)
 rw[aD Y];refine a8 (cc Y) ?_;by_cases ac:a.1=2
 .rw[aH ac];exact bA (ck ac)<|(bs<|aGN hs V)
 rw[aD ac];refine a8 (cc ac) ?_;by_cases av:a.1=3
 .rw[aH av];exact bA (ck av)<|(bs<|aGI hs V)
 rw[aD av];refine a8 (cc av) ?_;by_cases aJ:a.1=4
 .rw[aH aJ];exact bA (ck aJ)<|(bs<|aFx hs V _)
 rw[aD aJ];refine a8 (cc aJ) ?_;by_cases bv:a.1=5
 .rw[aH bv];exact bA (ck bv)<|(bs<|awB hs V _)
 rw[aD bv];refine a8 (cc bv) ?_;by_cases c_:a.1=6
 .rw[aH c_];exact bA (ck c_)<|(bs<|agd hs ax)
 rw[aD c_];refine a8 (cc c_) ?_;by_cases ta:a.1=14
 .rw[aH ta];exact bA (ck ta)<|(bs<|anu hs V)
 rw[aD ta];refine a8 (cc ta) ?_;by_cases tb:a.1=15
 .rw[aH tb]
  refine bA (ck tb) ?_;by_cases cH:s.e.ph=8
  .rw[aH cH];exact a8 (eI cH)<|(bs<|aGH hs)
  rw[aD cH];exact bj<|ff cH
 exact aL0
def aE9{m:M}(az:iJ m=af):RE (m,())=J (D<|rU m,()):=by
 have hf:=qo.1 az;have hl:=(uR az).1;unfold RE rU;dsimp only;rw[alZ V,agr hf.2];by_cases hs:o2 m
 .rw[bS hs]
  by_cases Y:n8 m.1=1
  .rw[ck Y,show D ((n8 m.1=1\/n8 m.1=3)/\o2 m)=af from bS ⟨.inl Y,hs⟩];rfl
  by_cases av:n8 m.1=3
  .rw[cc Y,ck av,show D ((n8 m.1=1\/n8 m.1=3)/\o2 m)=af from bS ⟨.inr av,hs⟩];rfl
  rw[cc Y,cc av,show D ((n8 m.1=1\/n8 m.1=3)/\o2 m)=ag from b1<|λh=>Or.elim h.1 Y av];rfl
 rw[b1 hs,show D ((n8 m.1=1\/n8 m.1=3)/\o2 m)=ag from b1<|λh=>hs h.2];rfl
def N8(c:O):(aa (aK c 0) (J (af,())) (J (aK 3 c,())):au<|Bool×aj)=J (D<|¬iR c,()):=by
 grind [iR,bj,cB,bf,g08]
def aEr(h:f8)(c:O):QT (h,c,())=J ((iB h c).1,(iB h c).2,()):=by
 unfold QT iB;refine aW (N8 c) ?_;by_cases aA:iR c
 .have aJ:aO c (bc 4)=af:=by unfold iR at aA;simp only[go_sem];exact aA
  rw[b1<|not_not_intro aA,aD<|not_not_intro aA];refine a8 rfl<|a7 aJ ?_;by_cases bq:ld h c
  .rw[aD<|not_not_intro bq]
   refine a8 aNi<|a7 aJ (a7 aJ rfl)
  exact aMi
 rw[bS aA,aH aA];rfl
def aEu(h:f8)(c:O):QW (h,c,())=J ((k? h c).1,(k? h c).2,()):=by
 unfold QW k?;refine aW (N8 c) ?_;by_cases aA:iR c
 .have aJ:aO c (bc 4)=af:=by unfold iR at aA;simp only[go_sem];exact aA
  rw[b1<|not_not_intro aA,aD<|not_not_intro aA];refine a8 rfl<|a7 aJ ?_;by_cases bq:ld h c
  .rw[aH bq]
   exact bj (by rw[g33];exact bq)
  rw[aD bq];refine a8 (by rw[g33];exact(w3 _).mp bq)<|a7 aJ (a7 aJ<|a7 aJ<|a7 aJ rfl)
 rw[bS aA,aH aA];rfl
def aEt{h:f8}(hf:∀c,la<|ap h.2.1 c iG)(c:O){b:ai}(ak:T b<=1000000):QV (h,c,b,())=J ((fL h c b).1,(fL h c b).2.1,(fL h c b).2.2,()):=by
 unfold QV fL;refine aW (N8 c) ?_;by_cases aA:iR c
 .have aJ:aO c (bc 4)=af:=by unfold iR at aA;simp only[go_sem];exact aA
  rw[b1<|not_not_intro aA,aD<|not_not_intro aA];refine a8 rfl<|a7 aJ ?_;by_cases bq:ld h c
  .rw[aD<|not_not_intro bq]
   refine a8 aNi<|a7 aJ ?_;refine aW (aEo (hf c.toNat) ak)<|a7 aJ rfl
  exact aMi
 rw[bS aA,aH aA];rfl
def aEB{r:eW}(h:0<=r.2.2.2.1/\r.2.2.2.1<=1000000):Q2 (r,())=J (Do r,()):=by
 unfold Q2 Do;dsimp only;by_cases hl:r.2.2.2.1<=1
 .rw[aH hl,show max 0 (r.2.2.2.1-1)=0 by omega]
  exact bf<|cm V
 grind [bj,cB,bw,fF]
def aEK{a:go}(h:Aq a):Rb (a,())=J ((j3 a).1,(j3 a).2.1,(j3 a).2.2,()):=by
 unfold Rb j3;rw[alI];by_cases aC:a=mi
 .rw[bS aC,aH aC];rfl
 rw[b1 aC,aD aC];rcases h with h|⟨_,Y,ac,av,aJ⟩
 .exact ev h aC
 have e1:i64 (bw a.2.2.1 1)=a.2.2.1-1:=fF aPO aPW;have bh:i64 (bw a.2.2.2.1 1)=a.2.2.2.1-1:=fF aNJ aPw;rw[e1,bh];by_cases bv:1<a.2.2.1
 .exact aOG
 rw[aD bv];refine(bf<|cm bv).trans ?_;by_cases c_:0<a.2.2.2.1
 .grind [bj,cB]
 rw[aD c_];exact bf<|cm c_
def alU{s:aU}(hs:bJ n s)(a b:O):Rv (s.t,a,b,())=J ((x0 s a b).t,()):=by
 have aB:=hs.e.key;have tail:∀e:ew,e.key=s.e.key->e={ s.e with own:=a,oth:=b,seen:=dk s.e.seen b }->(ob (qm (e.t,())) λ(a:ab O×aj)=>ob (Ag (s.e.key,a.1,1,aI aN,())) λ(a:ai×aj)=>ob (F8 (a.1,())) λ(a:eW×O×aj)=>(J ((({ e with ring:=a.1 }:ew).t,s.p,()),()):au<|eK×aj))=J ((x0 s a b).t,()):=by intro e _ aX;refine aW (Ah e)<|aW (alN s.e.key (hk e) 1 [] V bP)<|aW (aEy _) ?_;subst aX;rfl
 by_cases h:s.e.seen<b
 .refine bA (cB<|h) ?_
  exact tail { s.e with own:=a,oth:=b,seen:=b } rfl (by rw[show dk s.e.seen b=b by rw[g58];omega])
 refine a8 (cm<|h) ?_;exact tail { s.e with own:=a,oth:=b } rfl (by rw[show dk s.e.seen b=s.e.seen by rw[g58];omega])
def aE1{s:aU}(hs:bJ n s)(ax:n<=999999000000)(m':dv x)(q:eb):Rt (s.t,q,x,())=J ((rP s q x).t,()):=by
 unfold Rt rP;have hC:(aa (am s.e.ph 7) (J (af,())) (J (am s.e.ph 8,())):au<|Bool×aj)=J (D<|s.e.ph=7\/s.e.ph=8,()):=by
  grind [bj,ck,bf,g10]
 have fst:(aa (am s.e.ph 1) (aa (am s.e.id 0) (J (af,()))<|aa (am s.e.ph 7) (J (af,()))<|some (am s.e.ph 8,())) (aa (am s.e.ph 7) (J (af,()))<|some (am s.e.ph 8,())):au<|Bool×aj)=J (D<|(s.e.ph=1/\s.e.id=0)\/s.e.ph=7\/s.e.ph=8,()):=by
  grind [bj,ck,bS,bf,cc]
 refine(bs fst).trans<|(b3 rfl).trans ?_;by_cases aC:(s.e.ph=1/\s.e.id=0)\/s.e.ph=7\/s.e.ph=8
 .grind [bS,bj,qs]
 rw[aD aC,b1 aC];refine(bf rfl).trans<|(bs<|K1 s.e.ph).trans<|(b3 rfl).trans ?_;have snd:(aa (D<|i1 s.e.ph) (J (am s.e.oth x,())) (J (ag,())):au<|Bool×aj)=J (D<|i1 s.e.ph/\s.e.oth=x,()):=aLQ
 refine(bs<|snd).trans<|(b3 rfl).trans ?_;have aF1:=K7 q 0;by_cases hl:i1 s.e.ph/\s.e.oth=x
 .grind [bS,bj,b3,Ri]
 rw[aD hl,b1 hl];by_cases xO:x<=s.e.seen
 .rw[aH xO]
  exact(bj<|il<|xO).trans<|qs s
 rw[aD xO];refine(bf<|jG<|xO).trans<|(bs<|alS hs V).trans<|(b3 rfl).trans ?_;dsimp only;by_cases aX:(fN s).2.2=0
 .rw[aH aX]
  have Y:=z1 (x8 hs) (p:=2) V V;have ac:=FH Y (On aX) m';refine(bf<|cc V).trans<|(bf<|eI aX).trans<|(bs<|Gi (x8 hs) V 2).trans<|(b3 rfl).trans<|(bs<|alU Y _ _).trans<|(b3 rfl).trans<|(bs aF1).trans<|(b3 rfl).trans ?_;exact(bs<|Ri ac V x _).trans rfl
 rw[aD aX];by_cases nA:(fN s).2.2=11
 .grind [bj,ck]
 rw[aD nA];have BU:(fN s).1=s:=by
  grind [fN]
 grind [bf,cc,bj,ff,qs]
def aEX{s:aU}(hs:bJ n s)(ax:n<=999999000000){v:d6}(a3:∀i:R,dv<|ap v.2.2.1 i 0)(q:eb):Rp (s.t,v,q,())=J ((tg s v q).t,()):=by
 have hid:=hs.e.id;unfold Rp tg;rw[show s.t.1.1=s.e.id from rfl,ai9 hid];refine a7 b2<|a7 b2 ?_;have hx:=a3<|ah<|1-s.e.id;have bW:=a3<|ah s.e.id;generalize ap v.2.2.1 (ah<|1-s.e.id) 0=x at hx ⊢;generalize ap v.2.2.1 (ah s.e.id) 0=y at bW ⊢;by_cases Y:¬q.2.1=1\/x<1
 .grind [b3,bj,qs,bf,cB,ff]
 rw[aD Y];have aA:q.2.1=1:=V;refine aW (a:=(ag,())) ?_<|a8 rfl ?_
 .grind [bf,eI,cm]
 cases bD:q.1
 .refine a8 rfl ?_
  rw[aD<|λh=>by cases h.1];refine aW (Q_ _ _ _) ?_;have cond:(aa (a2<|am q.2.2.2.1 0) (J (af,())) (aa (a2<|am s.e.ph 1) (J (af,()))<|aa (a2<|am y s.e.own) (J (af,()))<|some (a2<|D<|nc s.e.ask 1 q.2.2.1,())):au<|Bool×aj)=J (D<|¬(q.2.2.2.1=0/\s.e.ph=1/\y=s.e.own/\nc s.e.ask 1 q.2.2.1),()):=by
   grind [bf,eI,g12,bS,bj,ff]
  refine aW (cond) ?_;rw[aA];by_cases av:q.2.2.2.1=0/\s.e.ph=1/\y=s.e.own/\nc s.e.ask 1 q.2.2.1
  .rw[b1<|not_not_intro av,aH ⟨rfl,av⟩]
   have bg:=ZC hs hx;have hm:=FH hs hs.e.own hx;have aB:bJ n (⟨{ JX s.e s.e.own x with ph:=3,ask:=mi },s.p⟩:aU):=⟨{ hm.e with ph:=⟨aLX,aPf⟩,askr:=.inl rfl },hm.p⟩;refine a8 rfl<|aW (alU hs _ _) ?_;refine aW (alT aB V 4) ?_;exact(bs<|Ru bg V 301).trans rfl
  grind [bS,bj,qs]
 refine bA rfl ?_;by_cases ac:y=0
 .rw[aH ⟨rfl,ac⟩]
  exact a8 (eI ac)<|(bs<|aE1 hs ax hx q).trans rfl
 grind [bj,ff,qs]
set_option maxHeartbeats 2000000
abbrev ach:=au<|List j6×O
def arZ(h:f8):ach->f8
 |none=>h
 |some x=>(h.1,x.1,h.2.2)
def aIb(c:ab O):ach->ab O
 |none=>c
 |some x=>UB c x.2
def apN(e:ew)(F:ach)(d:ab tZ):ew:={ e with hub:=arZ e.hub F,ec:=aIb e.ec F,got:=d++e.got }
def YO(s:aU)(F:ach)(d:ab tZ):aU:=⟨apN s.e F d,s.p⟩
def aH9(r:aU×O)(F:ach)(d:ab tZ):aU×O:=(YO r.1 F d,r.2)
theorem az4(a b:O):i64 (i64 a+b)=i64 (a+b):=by
 have e:∀n:O,i64 n=(if n%18446744073709551616 ≥ 9223372036854775808 then n%18446744073709551616-18446744073709551616 else n%18446744073709551616):=λn=>by show(if(af&&decide (n%18446744073709551616 ≥ 9223372036854775808))=af then n%18446744073709551616-18446744073709551616 else n%18446744073709551616)=_;simp
 rw[e,e,e];split<;>split<;>split<;>omega
def aKA(l:ab O)(x:O):ap (cA l 0 x) 0 0=if l=[]then 0 else x:=by cases l<;>rfl
def aJ5(c:ab O)(d:O)(i:R):UV (UB c d) i=UB (UV c i) d:=by
 cases i with
 |zero=>
  cases c with
  |nil=>rfl
  |cons a l =>show i64 (i64 (a+d)+1)::l=i64 (i64 (a+1)+d)::l;rw[az4,az4,show a+d+1=a+1+d by omega]
 |succ i=>
  cases c with
  |nil=>rfl
  |cons a l=>rfl
def aKs(h:f8)(F:ach):lz (arZ h F)=(arZ (lz h).1 F,(lz h).2):=by
 cases F with
 |none=>rfl
 |some x =>unfold lz arZ;dsimp only;split<;>rfl
def aJI(s:aU)(F:ach)(d:ab tZ)(v:d6)(k:ai):lm (YO s F d) v k=aH9 (lm s v k) F d:=by unfold lm;rw[show(YO s F d).e.hub=arZ s.e.hub F from rfl,aKs];split<;>rfl
def ao0(s:aU)(F:ach)(d:ab tZ)(i:R):fZ (YO s F d) i=YO (fZ s i) F d:=by
 cases F with
 |none=>rfl
 |some x =>unfold fZ;dsimp only[YO,apN,aIb];rw[aJ5]
def aJK(s:aU)(F:ach)(d:ab tZ)(k:O):Ex (YO s F d) k=YO (Ex s k) F d:=by unfold Ex;dsimp only[YO,apN];rw[kL];rfl
def aqA(s:aU)(F:ach)(d:ab tZ)(x:ai):gs (YO s F d) x=aH9 (gs s x) F d:=by
 unfold gs;dsimp only;rw[ show(YO s F d).e.ph=s.e.ph from rfl,show(YO s F d).e.seq=s.e.seq from rfl,aJI];split
 .rfl
 split
 .rfl
 split
 .rfl
 show(if(lm s (yq s.e x) s.e.ring.1.2.1).2=0 then _ else _)=_;split<;>rfl
def aJG(s:aU)(F:ach)(d:ab tZ)(o:O)(x:ai):nU (YO s F d) o x=aH9 (nU s o x) F d:=by unfold nU;rw[aJI];split<;>rfl
def aJY(s:aU)(F:ach)(d:ab tZ)(q:eb):lA (YO s F d) q=YO (lA s q) F d:=by
 unfold lA;rw[show D_ (YO s F d) q=YO (D_ s q) F d from rfl,aJG,aqA,show(YO s F d).e.stan=s.e.stan from rfl];split
 .split<;>rfl
 rfl
def aKd(s:aU)(F:ach)(d:ab tZ):p' (YO s F d)=YO (p' s) F d:=by unfold p';rw[show(YO s F d).e.ph=s.e.ph from rfl,show ya (YO s F d) 3=YO (ya s 3) F d from rfl,aJK];split<;>rfl
def aJS(e:ew)(F:ach)(d:ab tZ)(p:O):Ci (apN e F d) p=apN (Ci e p) F d:=by
 have hg:(Ci (apN e F d) p).got=d++(Ci e p).got:=by
  show(if i1 e.ph then(d++e.got)++[(5,hk e,0,[],())]else d++e.got)=d++(if i1 e.ph then e.got++[(5,hk e,0,[],())]else e.got);split
  .exact kL ..
  rfl
 show({ Ci (apN e F d) p with got:=(Ci (apN e F d) p).got }:ew)=_;rw[hg];rfl
def aJF(s:aU)(F:ach)(d:ab tZ)(p:O):qg (YO s F d) p=YO (qg s p) F d:=by unfold qg;rw[show(YO s F d).e=apN s.e F d from rfl,aJS];rfl
def aKq(s:aU)(F:ach)(d:ab tZ)(n:eb):wb (YO s F d) n=YO (wb s n) F d:=by
 unfold wb;rw[aqA,ao0,show(YO s F d).e.ask=s.e.ask from rfl,aJF,show(aH9 (gs s<|kV n 0) F d).1=YO (gs s<|kV n 0).1 F d from rfl,aJF]
 exact aKO
def aJH(s:aU)(F:ach)(d:ab tZ):(oJ<|YO s F d).e.ph=8/\(F=aq->oJ (YO s F d)=YO (oJ s) F d):=by
 unfold oJ;rw[show(YO s F d).e.ph=s.e.ph from rfl];split
 .rename_i h;exact⟨h,λ_=>rfl⟩
 refine⟨rfl,λh => ?_⟩;subst h;show(⟨HY<|apN s.e aq d,s.p⟩:aU)=_;unfold HY;rw[aJS];rfl
def aKc(s:aU)(F:ach)(d:ab tZ):(fN<|YO s F d).2=(fN s).2/\(¬(fN s).2.2=11\/F=aq->(fN<|YO s F d).1=YO (fN s).1 F d)/\((fN s).2.2=11->(fN<|YO s F d).1.e.ph=8):=by
 unfold fN;rw[show(YO s F d).e.store=s.e.store from rfl,show(YO s F d).e.power=s.e.power from rfl];split
 .exact⟨rfl,λ_=>rfl,λh=>ev (show(0:O)=11 from h) di⟩
 split
 .exact⟨rfl,λh=>(aJH (GK s _) F d).2<|h.elim (λh=>ev rfl h) id,λ_=>(aJH (GK s _) F d).1⟩
 rename_i Y ac;exact⟨rfl,λ_=>rfl,λh=>ev h ac⟩
def au2(F:ach)(d:ab tZ)(x y:aU):Prop:=y=YO x F d\/(¬F=aq)/\x.e.ph=8/\y.e.ph=8
def aJ4(s:aU)(F:ach)(d:ab tZ)(q:eb)(x:O):au2 F d (rP s q x)<|rP (YO s F d) q x:=by
 obtain⟨bh,e1,avn⟩:=aKc s F d;have dM:=aJJ s;unfold rP;rw[ao0,aJG,bh,show(YO s F d).e.ph=s.e.ph from rfl,show(YO s F d).e.id=s.e.id from rfl,show(YO s F d).e.oth=s.e.oth from rfl,show(YO s F d).e.seen=s.e.seen from rfl];split
 .exact aKB
 split
 .exact aKB
 split
 .exact aKB
 split
 .rename_i h
  left;rw[e1<|.inl (by rw[h];decide),aJF,show x0 (YO (qg (fN s).1 2) F d) (fN s).2.1 x=YO (x0 (qg (fN s).1 2) (fN s).2.1 x) F d from rfl,aJG];rfl
 split
 .rename_i h
  rcases dM with e|e
  .by_cases dY:F=aq
   .exact .inl (e1<|.inr dY)
   exact .inr ⟨dY,e.1,avn h⟩
  exact ev h e.2
 rename_i h;left;rw[e1<|.inl h,ao0]
def aKr(s:aU)(F:ach)(d:ab tZ)(n:eb):uJ (YO s F d) n=YO (uJ s n) F d:=by
 unfold uJ;rw[aqA,aqA,ao0,show(YO s F d).e.ph=s.e.ph from rfl,show(YO s F d).e.id=s.e.id from rfl,show(YO s F d).e.ring=s.e.ring from rfl,show n5 (YO s F d).e=n5 s.e from rfl,
  show ∀r,(⟨S7 (YO s F d).e r,(YO s F d).p⟩:aU)=YO ⟨S7 s.e r,s.p⟩ F d from λ_=>rfl,show ∀r,(⟨aor (YO s F d).e r,(YO s F d).p⟩:aU)=YO ⟨aor s.e r,s.p⟩ F d from λ_=>rfl,aqA,aqA]
 exact aKO
def aJ1(s:aU)(F:ach)(d:ab tZ)(n:eb):vv (YO s F d) n=YO (vv s n) F d:=by
 unfold vv p?;rw[ao0,show(YO s F d).e.ph=s.e.ph from rfl,show(YO s F d).e.ask=s.e.ask from rfl,show ∀r,(⟨S7 (YO s F d).e r,(YO s F d).p⟩:aU)=YO ⟨S7 s.e r,s.p⟩ F d from λ_=>rfl,aJY]
 exact aKO
def aJ0(s:aU)(F:ach)(d:ab tZ)(n:eb):vr (YO s F d) n=YO (vr s n) F d:=by
 unfold vr;rw[ao0,show(YO s F d).e.ph=s.e.ph from rfl,show(YO s F d).e.ask=s.e.ask from rfl]
 exact aKO
def aKw(s:aU)(F:ach)(d:ab tZ)(q:O)(x:ai)(m:M):wK (YO s F d) q x m=YO (wK s q x m) F d:=by
 unfold wK;rw[ao0,aqA,show(YO s F d).e.ph=s.e.ph from rfl,show ∀k,Id (YO s F d) k q x=YO (Id s k q x) F d from λk=>by unfold Id;dsimp only[YO,apN];rw[kL];rfl]
 exact aKO
def aKt(s:aU)(F:ach)(d:ab tZ)(n:eb):sy (YO s F d) n=YO (sy s n) F d:=by
 unfold sy;rw[aKr,aJ1,aJ0,aKq,show N' (YO s F d) n=YO (N' s n) F d from d4 Prod.fst<|aqA (zQ s n.2.2.2.2.2.2.2.1) F d<|kV n 0]
 exact aKO
def aKj(s:aU)(F:ach)(d:ab tZ)(v:d6)(q:eb):au2 F d (tg s v q)<|tg (YO s F d) v q:=by
 unfold tg;dsimp only;rw[ao0,show ∀x,Qf (YO s F d) x=YO (Qf s x) F d from λx=>aJK ⟨{ JX s.e s.e.own x with ph:=3,ask:=mi },s.p⟩ F d 4,aJY,show(YO s F d).e.ph=s.e.ph from rfl,show(YO s F d).e.id=s.e.id from rfl,show(YO s F d).e.own=s.e.own from rfl,show(YO s F d).e.ask=s.e.ask from rfl];split
 .exact aKB
 split
 .exact aJ4 s F d q _
 split
 .exact aKB
 exact aKB
def aKa(s:aU)(F:ach)(d:ab tZ)(v:d6):au2 F d (s6 s v)<|s6 (YO s F d) v:=by
 unfold s6;rw[aKd,aKt,aKw,ao0,ao0];split
 .left
  exact aKO
 split
 .exact aKj s F d v _
 exact aKB
def aJV(F:ach)(d:ab tZ):∀(k:R) (s:aU),ri k (YO s F d)=YO (ri k s) F d
 |0,s=>rfl
 |k+1,s=>by
  unfold ri;rw[show(YO s F d).e.queue=s.e.queue from rfl];split
  .rfl
  rename_i x q h;rw[aqA];show(if(gs s x).2=0 then ri k (YO (wh (gs s x).1 q) F d) else _)=_;rw[aJV F d k];split<;>rfl
def aKv(s:aU)(F:ach)(d:ab tZ)(b:ai):ir (YO s F d) b=(YO (ir s b).1 F d,(ir s b).2):=by
 unfold ir;simp only[show mm (YO s F d).e (eo b).1=mm s.e (eo b).1 from rfl];rw[ao0,ao0,show hb (YO s F d) (eo b).1=hb s (eo b).1 from rfl,show(YO s F d).e.win=s.e.win from rfl,
  show ∀p,(⟨(YO s F d).e,p⟩:aU)=YO ⟨s.e,p⟩ F d from λ_=>rfl,ao0,ao0]
 exact aKO
def aJL(s:aU)(F:ach)(d:ab tZ)(b:ai):au2 F d (pu s b)<|pu (YO s F d) b:=by
 unfold pu;rw[aKv];dsimp only;split
 .exact aKB
 rename_i v _;rcases aKa (ir s b).1 F d v with e|⟨dM,e1,bh⟩
 .rw[e]
  exact .inl<|aJV F d _ _
 exact .inr ⟨dM,(aDk _).trans e1,(aDk _).trans bh⟩
def aJN(d:ab tZ):∀(l:ab ai) (s:aU),qX (YO s aq d) l=YO (qX s l) aq d
 |[],s=>rfl
 |b::l,s=>by
  unfold qX;rw[show(YO s aq d).e.ph=s.e.ph from rfl];split
  .rfl
  rcases aJL s aq d b with e|e
  .rw[e];exact aJN d l _
  exact ev rfl e.1
def aJ2(s:aU)(d:ab tZ)(c:O)(b:ai):p4 (YO s aq d) c b=YO (p4 s c b) aq d:=by
 unfold p4;rw[show(YO s aq d).e.hub=s.e.hub from rfl];split
 .rfl
 rw[show s9 (YO s aq d) c b=YO (s9 s c b) aq d from rfl];exact aJN d _ _
def aJO(F:ach)(d:ab tZ):∀(l:ab ai) (s:aU),¬(qX s l).e.ph=8->qX (YO s F d) l=YO (qX s l) F d/\aB (qX s l)=aB s
 |[],s,_=>⟨rfl,rfl⟩
 |b::l,s,h=>by
  unfold qX at h ⊢;by_cases cH:s.e.ph=8
  .rw[aH cH]at h;exact ev cH h
  rw[aD cH]at h;have aKh:¬(YO s F d).e.ph=8:=cH;rw[aD cH,aD aKh];have ax:¬(pu s b).e.ph=8:=λe=>h (by
   cases l with
   |nil=>exact e
   |cons c l=>unfold qX;rw[aH e];exact e)
  have hf:aB (pu s b)=aB s:=by
   unfold pu at ax ⊢;split
   .exact aoe s b
   rename_i v a3;rw[a3]at ax;rcases aKo (ir s b).1 v with e|e
   .exact ev ((aDk _).trans e) ax
   exact(FQ _ _).trans<|e.trans (aoe s b)
  obtain⟨b4,cz⟩:=aJO F d l (pu s b) h;rcases aJL s F d b with e|e
  .rw[e];exact⟨b4,cz.trans hf⟩
  exact ev e.2.1 ax
theorem aJB(s:aU)(b:ai)(l:ab ai):qX s (b::l)=if s.e.ph=8 then s else qX (pu s b) l:=rfl
def aKe{s:aU}(h:s.e.ph=8)(l:ab ai):qX s l=s:=by
 cases l with
 |nil=>rfl
 |cons b l=>rw[aJB,aH h]
def aJM:∀(l m:ab ai) (s:aU),qX s (l++m)=qX (qX s l) m
 |[],m,s=>rfl
 |b::l,m,s=>by
  rw[sN,aJB,aJB];by_cases h:s.e.ph=8
  .rw[aH h,aH h,aKe h]
  rw[aD h,aD h];exact aJM l m _
def aFc{s:aU}(hs:bJ n s)(ax:n<=1000000000000){m:M}(az:iJ m=af)(v:d6):RI (s.t,v,m,())=J ((wK s v.2.2.2.2.1 v.2.2.2.2.2.1 m).t,()):=by
 unfold RI wK;have ah6:=hs.e.got;have hl:=(uR az).1;refine aW (alX m)<|aW (K0 s.e.ph) ?_;have fst:(aa (D<|mN m.1) (J (D<|k4 s.e.ph,())) (J (ag,())):au<|Bool×aj)=J (D<|mN m.1/\k4 s.e.ph,()):=by
  by_cases h:mN m.1
  .grind [bS,bj]
  rw[b1 h,b1 (p:=mN m.1/\k4 s.e.ph)<|λk=>h k.1];rfl
 refine aW fst ?_;by_cases hg:mN m.1/\k4 s.e.ph
 .rw[bS hg,aD<|not_not_intro hg.1,aH hg.2]
  refine bA rfl<|aW (aE9 az) ?_;have ais:(aa (D<|rU m) (J ((3:O),())) (J (2,())):au<|Int×aj)=J ((if rU m then 3 else 2),()):=aNF
  refine aW ais<|aW (Ah s.e) ?_;exact(bs<|Rg s.e _ _ _ _ V).trans rfl
 rw[b1 hg];refine a8 rfl<|aW (aEj m.1) ?_;have snd:(aa (a2<|D<|mN m.1) (J (af,())) (aa (a2<|am s.e.ph 6) (J (af,()))<|some (a2 (lW m.1).2.1,())):au<|Bool×aj)=J (D<|¬mN m.1\/¬s.e.ph=6\/¬(lW m.1).2.1=af,()):=by
  by_cases Y:mN m.1
  .refine a8 (by rw[bS Y];rfl) ?_
   by_cases ac:s.e.ph=6
   .refine a8 (eI ac) ?_
    cases av:(lW m.1).2.1
    .rw[bS<|.inr<|.inr bP];rfl
    rw[b1 (by rintro(h|h|h);exact h Y;exact h ac;exact h rfl)];rfl
   grind [bS,bj,ff]
  rw[bS (p:=¬mN m.1\/¬s.e.ph=6\/¬(lW m.1).2.1=af)<|.inl Y];exact bj (by rw[b1 Y];rfl)
 refine aW (snd) ?_;by_cases a4:¬mN m.1\/¬s.e.ph=6\/¬(lW m.1).2.1=af
 .grind [bS,bj,qs]
 have Y:mN m.1:=sL.1 λh=>a4<|.inl h;have ac:¬(¬s.e.ph=6\/¬(lW m.1).2.1=af):=λh=>a4<|.inr h;have hp:(lW m.1).2.1=af:=sL.1 λh=>ac<|.inr h;rw[b1 a4,aD<|not_not_intro Y,aD<|λh=>hg ⟨Y,h⟩,aD ac];have ht:(lW m.1).1=m.1+10:=by
  grind [lW]
 have a?:=afL az hp;have bR:=QO _ (uR a?).2;rw[aH a?]at bR;refine a8 rfl<|aW (QL m 11 V) ?_;rw[ht];cases hh:(g7 11 m.2.1).2.1
 .have e:rT m=(m.1+10,[s5],()):=by unfold rT;rw[hh];rfl
  rw[e]at bR ⊢;refine a8 rfl<|a7 rfl<|aW (bR) ?_;exact(bs<|yj hs ax _).trans rfl
 have e:rT m=(m.1+10,[(11,(g7 11 m.2.1).1,()),s5],()):=by unfold rT;rw[hh];rfl
 rw[e]at bR ⊢;refine bA rfl<|a7 rfl<|a7 rfl<|aW (bR) ?_;exact(bs<|yj hs ax _).trans rfl
def aFk{s:aU}(hs:bJ m s)(hm:m<=999999000000)(n:eb)(ax:T n.2.2.2.2.2.1<=1000):RN (s.t,n,())=J ((sy s n).t,()):=by
 unfold RN sy;by_cases Y:n.2.1=101
 .grind [bj,ck,b3,bf,aE2,aE5]
 rw[aD Y];refine aW ((bf<|cc Y))<|a8 rfl<|a8 (cc Y) ?_;by_cases ac:n.2.1=201
 .rw[aH ac]
  refine aW ((bj<|ck ac)) ?_;cases bD:n.1
  .rw[aD bP]
   refine a8 rfl<|bA (ck ac) ?_;exact(bs<|aE6 n (by have:=Ux hs.e.askr;omega)).trans rfl
  rw[aH rfl];exact(bs<|aE8 hs V n).trans rfl
 grind [bf,cc,b3,aEY]
theorem aFj{s:aU}(aB:bJ n s)(ax:n<=999998000000){v:d6}(az:ng v)(mf:v.2.2.1=[dM v,e1 v]):aaD (s.t,v,())=J ((s6 s v).t,()):=by
 have E_:∀k:R,dv<|ap v.2.2.1 k 0:=λk=>by
  rw[mf];exact au_
 have i?:T v.2.2.2.2.2.1<=1000000:=aO7
 unfold s6;have hf:=Zy aB;have XU:=aj8 (b:=v.2.2.2.2.2.1);refine aW (alJ v.2.2.2.2.2.1 i?)<|aW (aap v.2.2.2.2.2.1 i?) ?_;by_cases Y:v.1=1
 .rw[aD V]
  refine bA (ck Y) ?_;by_cases av:(nf v.2.2.2.2.2.1).2.1=0
  .rw[aH av]
   exact a8 (eI av)<|(bs<|aEX aB V E_ _).trans rfl
  rw[aD av];exact bA (ff av)<|(bs<|aay _).trans rfl
 have ac:v.1=2:=az.1.1.resolve_left Y;rw[aH ac];refine a8 (cc Y)<|aW (aEV aB V) ?_;by_cases av:(nf v.2.2.2.2.2.1).2.1=0
 .rw[aH av]
  exact bA (ck av)<|(bs<|aFk hf V _ XU).trans rfl
 rw[aD av];refine a8 (cc av) ?_;by_cases aJ:(gc v.2.2.2.2.2.1).2.1=0
 .rw[aH aJ]
  exact bA (ck aJ)<|(bs<|aFc hf V (Kv aJ).1 v).trans rfl
 rw[aD aJ];exact a8 (cc aJ)<|(bs<|aay _).trans rfl
def aFg{s:aU}(hs:bJ n s)(ax:n<=999990000000)(bN:tV s.e.win){b:ai}(ak:T b<=1000000):Lb (s.t,b,())=J ((pu s b).t,()):=by
 unfold Lb pu;obtain⟨ps,hT,aX⟩:=aER hs V bN ak;refine aW hT ?_;have aB:=ZF hs b;cases bg:(ir s b).2 with
 |none=>
  grind [bj,ff]
 |some v=>
  have I1:ps=0:=aX.2 (by rw[bg];simp);refine a8 (eI I1) ?_;obtain⟨aC,a3⟩:=S2 bg;obtain⟨az,_,_,_⟩:=Kw aC;have mf:=Kx aC;rw[<- a3]at az mf;have E_:∀k:R,dv<|ap v.2.2.1 k 0:=λk=>by
   rw[mf];exact au_
  have a?:=Zw aB E_
  grind [aFj,b3,RF]
def aFd{s:aU}(hs:bJ n s)(ax:n<=990000000000)(bN:tV s.e.win)(c:O){b:ai}(ak:T b<=1000000):RJ (s.t,c,b,())=J ((p4 s c b).t,()):=by
 unfold RJ p4;refine aW (aEt hs.e.fd c ak) ?_;by_cases aC:(fL s.e.hub c b).2.2=0
 .rw[aD<|not_not_intro aC]
  have aA:iR c:=by
   grind [fL]
  have azB:∀x∈(fL s.e.hub c b).2.1,T x<=1024:=by
   unfold fL;split
   .intro x hx;cases hx
   split
   .intro x hx;cases hx
   exact ak5 b<|hs.e.fd c.toNat
  have aJ:aO c (bc 4)=af:=by unfold iR at aA;simp only[go_sem];exact aA
  have hl:(fL s.e.hub c b).2.1.length<=600000:=aPe
  have O4:∀x y z:O,i64 (bw (i64<|aG x y) z)=i64 (x+i64 (y-z)):=λx y z=>by
   show i64 (i64 (x+y)-z)=_
   grind [az4]
  refine a8 (eI aC)<|a7 rfl<|a7 aJ<|a7 aJ<|a7 rfl ?_;rw[O4];generalize hg:(λ(x:O×eK×aj)=>(_:au<|aL (O×eK×aj)<|eK×aj))=F;have key:∀(l:ab ai) (i:R) (t:aU) (m:R),(fL s.e.hub c b).2.1.drop i=l->i<=(fL s.e.hub c b).2.1.length->bJ m t->m<=990000000000+1003*i->tV t.e.win ->
    ∃j:O,bG F ((i:O),t.t,())=J (.ex 0 (j,(qX t l).t,())):=by
   intro l;induction l with
   |nil =>intro i t m a? ao ht hm Yn;have cP:=d4 T a?;rw[dV,gM]at cP;refine⟨(i:O),dr ?_⟩;subst hg;exact(bs<|bf<|cm aM4).trans rfl
   |cons x l ih=>
    intro i t m a? ao ht hm Yn;have cP:=d4 T a?;rw[dV,gd]at cP;have bK:i<(fL s.e.hub c b).2.1.length:=V;have hx:(fL s.e.hub c b).2.1[i]=x/\(fL s.e.hub c b).2.1.drop (i+1)=l:=aK5
    have aI4:T x<=1024:=azB x<|hx.1▸j7 bK;have ej:i64 (aG (i:O) 1)=((i+1:R):O):=dK IS V;unfold qX;have dY:F ((i:O),t.t,())=(aa (a2<|am t.e.ph 8) (ob (Lb (t.t,x,())) λ(a:eK×aj)=>J<|.nx (((i+1:R):O),a.1,()))<|some<|.ex 0 ((i:O),t.t,())):=by subst hg;refine aW (bj<|cB aPr) ?_;rw[eO,show ap (fL s.e.hub c b).2.1 i (aI aN)=x by rw[nth_get bK];exact hx.1,ej];exact d4 (λz=>aa _ z _)<|c3 b2
    by_cases cH:t.e.ph=8
    .grind [dr,bf,eI]
    rw[aD cH];have I7:=aFg ht V Yn (b:=x) V;have fE:F ((i:O),t.t,())=J (.nx (((i+1:R):O),(pu t x).t,())):=dY.trans<|bA (ff cH)<|(bs I7).trans<|b3 rfl;obtain⟨j,aF⟩:=ih (i+1) (pu t x) (m+1003) hx.2 V (Zz ht x) V<|apa t x Yn
    grind [dT]
  obtain⟨j,aF⟩:=key _ 0 (s9 s c b) n rfl (ea _) (Zx hs c b) V bN;exact(cE<|aF).trans<|lc_ex'.trans (c3 g62)
 grind [bj,ff]
def aFi{s:aU}(hs:bJ n s)(ax:n<=999998000000):Ld (s.t,())=J ((qu s).t,()):=by
 refine(bs<|aEK hs.e.askr).trans<|(b3 rfl).trans ?_;have bR:=ZI hs<|R1 hs.e.askr;unfold qu;cases Y:(j3 s.e.ask).2.1
 .rw[aD bP]
  refine(bs<|bf rfl).trans<|(b3 rfl).trans<|(bf rfl).trans<|(bf rfl).trans ?_;cases ac:(j3 s.e.ask).2.2
  .rw[aD bP];exact bj rfl
  rw[aH rfl];unfold s2;by_cases aJ:s.e.ph=4
  .rw[aH<|show(qy s (j3 s.e.ask).1).e.ph=4 from aJ]
   exact(bj<|ck aJ).trans<|(bs<|aE3<|qy s (j3 s.e.ask).1).trans rfl
  rw[aD<|show ¬(qy s (j3 s.e.ask).1).e.ph=4 from aJ];refine(bf<|cc aJ).trans ?_;by_cases bv:s.e.ph=5
  .rw[aH<|show(qy s (j3 s.e.ask).1).e.ph=5 from bv]
   exact(bj<|ck bv).trans<|(bs<|alW<|qy s (j3 s.e.ask).1).trans rfl
  rw[aD<|show ¬(qy s (j3 s.e.ask).1).e.ph=5 from bv];exact(bf<|cc bv).trans<|(bs<|aEW bR V).trans rfl
 rw[aH rfl];unfold t6;by_cases h:(j3 s.e.ask).1.1=1
 .rw[aH h]
  exact(bj<|ck h).trans<|(bs<|Ri bR V 0 _).trans rfl
 rw[aD h];exact(bf<|cc h).trans<|(bj rfl).trans ((bs<|yj bR V _).trans rfl)
def al0{s:aU}(hs:bJ n s)(ax:n<=999990000000):Lc (s.t,())=J ((rv s).t,()):=by
 unfold Lc rv;have tail:∀{t:aU},bJ n t->(ob (Ld (t.t,())) λ(a:eK×aj)=>ob (Ai (a.1,())) λ(a:eK×aj)=>(J (a.1,()):au<|eK×aj))=J ((rj<|qu t).t,()):=λht=>
  (aW (aFi ht V)<|(bs<|RF (ZG ht) V).trans rfl)
 by_cases xp:s.e.ph=7\/s.e.ph=8
 .exact aKS
 rw[aD xp];have eJ:¬s.e.ph=7:=λh=>xp<|.inl h;have cH:¬s.e.ph=8:=λh=>xp<|.inr h;refine aW (a:=(ag,())) (a8 (cc eJ) aN_)<|a8 rfl ?_;refine aW (show ww (s.e.ph,())=_ from K1 _) ?_;by_cases hl:i1 s.e.ph
 .rw[bS hl,aH hl]
  refine bA rfl<|aW (aEB<|ami hs.e.ring)<|aW (bj rfl) ?_;by_cases bD:s.e.seq=4611686018427387904
  .rw[aH bD]
   exact bA (ck bD)<|(bs<|alR (FI hs) V).trans rfl
  rw[aD bD];exact a8 (cc bD)<|tail (FI hs)
 grind [b1,bf,b3]
def aFe(s:aU)(c:O):aaC (s.t,c,())=J ((⟨n3 s.e c,s.p⟩:aU).t,(iB s.e.hub c).2,()):=by exact(bs<|aEr _ _).trans rfl
def aFh{s:aU}(hs:bJ n s)(ax:n<=999999000000)(c:O):RM (s.t,c,())=J ((pL s c).1.t,(pL s c).2,()):=by
 unfold RM pL;by_cases cH:s.e.ph=8
 .rw[aH cH];exact bj<|ck cH
 rw[aD cH];refine a8 (cc cH)<|aW (aEu _ _) ?_;by_cases aC:(k? s.e.hub c).2=0
 .rw[aD<|not_not_intro aC]
  refine a8 (eI aC) ?_;exact(bs<|RF (ZD hs c) V).trans rfl
 exact aM2
def aFf{s:aU}(hs:bJ n s)(ax:n<=999990000000)(a:gF)(ak:T a.2.2.2.2.1<=1000000):RK (s.t,a,())=J ((pq s a).1.t,(pq s a).2,()):=by
 unfold RK pq;by_cases aC:a.1=0
 .rw[aH aC];exact bA (ck aC)<|(bs<|aFb hs V _ ak).trans rfl
 rw[aD aC];refine a8 (cc aC) ?_;by_cases Y:a.1=1
 .rw[aH Y];exact bA (ck Y)<|(bs<|alR hs V).trans rfl
 rw[aD Y];refine a8 (cc Y) ?_;by_cases ac:a.1=2
 .rw[aH ac];exact bA (ck ac)<|(bs<|aEZ hs V).trans rfl
 rw[aD ac];refine a8 (cc ac) ?_;by_cases av:a.1=3
 .rw[aH av];exact bA (ck av)<|(bs<|aEU hs V).trans rfl
 rw[aD av];refine a8 (cc av) ?_;by_cases aJ:a.1=4
 .rw[aH aJ];exact bA (ck aJ)<|(bs<|aE4 hs V _).trans rfl
 rw[aD aJ];refine a8 (cc aJ) ?_;by_cases bv:a.1=5
 .rw[aH bv];exact bA (ck bv)<|(bs<|aE7 hs V _).trans rfl
 rw[aD bv];refine a8 (cc bv) ?_;by_cases c_:a.1=6
 .rw[aH c_];exact bA (ck c_)<|(bs<|al0 hs ax).trans rfl
 rw[aD c_];refine a8 (cc c_) ?_;by_cases ta:a.1=14
 .rw[aH ta];exact bA (ck ta)<|(bs<|alQ hs V).trans rfl
 rw[aD ta];refine a8 (cc ta) ?_;by_cases tb:a.1=15
 .rw[aH tb]
  refine bA (ck tb) ?_;by_cases cH:s.e.ph=8
  .rw[aH cH];exact a8 (eI cH)<|(bs<|aET hs).trans rfl
  rw[aD cH];exact bj<|ff cH
 exact aL0
def bQ.t(w:bQ):dR:=([(w.e ag).t,(w.e af).t],w.p,w.a',w.old,[w.d8 ag,w.d8 af],())
def yA(n l:O):sF (n,l,())=J (D<|0<=n/\n<l,()):=by unfold sF;simp only[go_sem]
def N5(l:ab gD):GF (l,())=J (l,()):=by refine a7 b2 ?_;simp_all[sub,len]
def VT(l:ab gD)(h:T l<=1500000000000):LM (l,())=J (l,()):=by refine c3 ?_;rw[g21];refine bS ?_;show T l*80<=_;omega
def FN(w:bQ)(i:aE):DC ((w.t,()),ez i,())=J ((w.t,()),(w.at i).t,()):=by
 cases i
 .rfl
 rfl
def V2{e:ew}(h:¬(iB e.hub c).2=0):n3 e c=e:=by
 unfold n3;unfold iB at h ⊢;split
 .rfl
 split
 .rfl
 grind
def OD(p:α->aE){l:ab α}{j:R}(h:j<T l):(l.take<|j+1).filter p=(l.take j).filter p++(if p l[j]then[l[j]]else[]):=by
 grind [List.take_succ_eq_append_getElem]
def auY{l bZ:ab α}{i:R}(h:i<=T l):(eL l i n bZ).take i=l.take i:=by
 unfold eL
 grind
def afE{l bZ:ab α}{i:R}(h:i+min n (T bZ)<=T l):T (eL l i n bZ)=T l:=by
 unfold eL
 grind
theorem adp(w:bQ)(c:O)(hl:T w.a'<=1500000000000):Mh ((w.t,()),c,())=J (((gG w c).t,()),()):=by
 unfold Mh;dsimp only;generalize hg:(λae=>(_:au<|aL (O×(dR×aj)×aj) aj))=F;have Qu:F (0,(w.t,()),())=J (.nx (1,(({ w with e:=ho w.e ag (n3 (w.e ag) c) }:bQ).t,()),())):=by
  subst hg;refine bA rfl<|(bs<|FN w ag).trans<|((bs<|agc (w.at ag) c).trans<|?_);dsimp only;by_cases h:(iB (w.at ag).e.hub c).2=0
  .exact bA (ck h) (c3 rfl)
  refine a8 (cc h) ?_;have:=V2 h;rw[show ho w.e ag (n3 (w.e ag) c)=w.e by funext j;unfold ho;split;(rename_i aF;rw[aF];exact this);rfl];rfl
 have e9:∀w:bQ,F (1,(w.t,()),())=J (.nx (2,(({ w with e:=ho w.e af (n3 (w.e af) c) }:bQ).t,()),())):=by
  intro w;subst hg;refine bA rfl<|(bs<|FN w af).trans<|((bs<|agc (w.at af) c).trans<|?_);dsimp only;by_cases h:(iB (w.at af).e.hub c).2=0
  .exact bA (ck h) (c3 rfl)
  refine a8 (cc h) ?_;have:=V2 h;rw[show ho w.e af (n3 (w.e af) c)=w.e by funext j;unfold ho;split;(rename_i aF;rw[aF];exact this);rfl];rfl
 have gK:∀w:bQ,F (2,(w.t,()),())=J (.ex 0 (2,(w.t,()),())):=by intro w;subst hg;rfl
 have bh:(ho (ho w.e ag<|n3 (w.e ag) c) af<|n3 (ho w.e ag (n3 (w.e ag) c) af) c)=λi=>n3 (w.e i) c:=by funext j;cases j<;>rfl
 refine(cE<|(dT Qu).trans<|(dT<|e9 _).trans<|dr<|gK _).trans<|(?_);dsimp only;rw[bh];refine aW (VT w.a' hl) ?_;dsimp only;generalize hp:(λ(f:gD)=>decide (¬f.2.1=c))=p;have Ji:∀{f:gD},¬f.2.1=c->p f=af:=λh=>by rw[<- hp];exact decide_eq_true h
 have azk:∀{f:gD},f.2.1=c->p f=ag:=λh=>by rw[<- hp];exact decide_eq_false<|not_not_intro h
 have a4:(gG w c).t=([(n3 (w.e ag) c).t,(n3 (w.e af) c).t],w.p,w.a'.filter p,w.old,[w.d8 ag,w.d8 af],()):=by rw[<- hp];rfl
 rw[a4];generalize dG:(λae=>(_:au<|aL (O×O×aj) aj))=G;generalize c6:(λae=>(_:au<|aL (O×O×ab gD×aj) aj))=H;have find:∀(r:ab gD) (i:R),w.a'.drop i=r->i<=T w.a'->(w.a'.take i).filter p=w.a'.take i ->
   (w.a'.filter p=w.a'/\∃j,bG G (0,(i:O),())=J (.ex 0 (0,j,())))\/(∃k:R,k<T w.a'/\(w.a'.take<|k+1).filter p=w.a'.take k/\bG G (0,(i:O),())=J (.ex 999999999 ((k:O),(k:O),()))):=by
  intro r;induction r with
  |nil =>intro i a? ao hf;have cP:=d4 T a?;rw[dV,gM]at cP;refine .inl ⟨by rw[i5 V]at hf;exact hf,(i:O),dr ?_⟩;subst dG;exact bf<|cm (by show ¬(i:O)<(T w.a':O);omega)
  |cons x r ih=>
   intro i a? ao hf;have cP:=d4 T a?;rw[dV,gd]at cP;have bK:i<T w.a':=V;have hx:w.a'[i]=x/\w.a'.drop (i+1)=r:=aK5
   have ej:i64 (aG (i:O) 1)=((i+1:R):O):=dK IS V;have dY:G (0,(i:O),())=(aa (am x.2.1 c) (J<|.ex 999999999 ((i:O),(i:O),()))<|some<|.nx (0,((i+1:R):O),())):=by
    subst dG;refine bA (cB aPP)<|a7 fq ?_
    grind [eO,nth_get]
   have hs:=OD p bK;rw[hx.1]at hs;by_cases aA:x.2.1=c
   .refine .inr ⟨i,bK,?_,dr<|dY.trans<|bj<|ck aA⟩
    grind
   have q5:(w.a'.take<|i+1).filter p=w.a'.take (i+1):=by rw[hs,hf,Ji aA,aH rfl,pX bK,hx.1]
   have fE:=dY.trans<|bf<|cc aA;rcases ih (i+1) hx.2 V q5 with⟨Y,j,ac⟩|⟨k,Y,ac,av⟩
   .exact .inl ⟨Y,j,(dT fE).trans ac⟩
   exact .inr ⟨k,Y,ac,(dT fE).trans av⟩
 have H0:∀(r:ab gD) (i j:R) (l:ab gD),w.a'.drop j=r->j<=T w.a'->i<j->T l=T w.a'->l.take i=(w.a'.take j).filter p->l.drop j=w.a'.drop j ->
   ∃(k:R) (ik:ab gD) (z:O),bG H ((i:O),(j:O),l,())=J (.ex 0 ((k:O),z,ik,()))/\k<=T w.a'/\T ik=T w.a'/\ik.take k=w.a'.filter p:=by
  intro r;induction r with
  |nil =>intro i j l a? aF j? xD ht h';have cP:=d4 T a?;rw[dV,gM]at cP;refine⟨i,l,(j:O),dr ?_,V,xD,by rw[ht,i5 V]⟩;subst c6;exact bf<|cm (by show ¬(j:O)<(T l:O);omega)
  |cons x r ih=>
   intro i j l a? aF j? xD ht h';have cP:=d4 T a?;rw[dV,gd]at cP;have bK:j<T w.a':=V;have xE:j<T l:=V;have hx:w.a'[j]=x/\w.a'.drop (j+1)=r:=aNG
   have aiJ:l[j]=x:=by rw[oE bK,oE xE]at h';rw[(pc h').1];exact hx.1
   have ahW:=by rw[oE bK,oE xE]at h';exact(pc h').2
   have jE:i64 (aG (j:O) 1)=((j+1:R):O):=dK aMF V;have ej:i64 (aG (i:O) 1)=((i+1:R):O):=dK IS V;have dY:H ((i:O),(j:O),l,())=(aa (a2<|am x.2.1 c) (J<|.nx (((i+1:R):O),((j+1:R):O),l.set i x,()))<|some<|.nx ((i:O),((j+1:R):O),l,())):=by subst c6;refine bA (cB (by show(j:O)<(T l:O);omega))<|a7 fq ?_;rw[eO,nth_get xE,aiJ,ej,jE,eO];refine d4 (λz=>aa (a2<|am x.2.1 c) z _) ?_;exact c3 fq
   have hs:=OD p bK;rw[hx.1]at hs;by_cases aA:x.2.1=c
   .have fE:=dY.trans (bf<|eI aA)
    obtain⟨k,ik,z,b4,cz⟩:=ih i (j+1) l hx.2 V V xD (by rw[hs,azk aA,aD bP,g?];exact ht) ahW;exact⟨k,ik,z,(dT fE).trans b4,cz⟩
   have fE:=dY.trans<|bj<|ff aA;have e_:(l.set i x).take (i+1)=l.take i++[x]:=by
    have py:i<T (l.set i x):=by rw[jj];omega
    rw[pX py,M_,List.take_set_of_le<|cx i]
   obtain⟨k,ik,z,b4,cz⟩:=ih (i+1) (j+1) (l.set i x) hx.2 V V (by rw[jj];exact xD) (by rw[e_,hs,Ji aA,aH rfl,ht]) (by rw[List.drop_set_of_lt V];exact ahW);exact⟨k,ik,z,(dT fE).trans b4,cz⟩
 rcases find w.a' 0 rfl (ea _) rfl with⟨Y,j,ac⟩|⟨k,Y,ac,av⟩
 .refine(cE ac).trans ((a8 rfl<|(?_)))
  rw[Y];rfl
 refine(cE av).trans<|lc_ex'.trans<|bA rfl<|a8 (cc V) ?_;have qb:i64 (aG (k:O) 1)=((k+1:R):O):=dK (by show(k:O)+1=_;omega) V;rw[qb];obtain⟨i,l,z,d1,d2,d3,afJ⟩:=H0 _ k (k+1) w.a' rfl V V rfl ac.symm rfl;refine(cE d1).trans<|(a7 g62<|a7 fq ?_);have q2:T (eL l i (T l-i)<|cb (T l-i) (dL:gD))=T l:=afE (by unfold cb;rw[wU];omega);simp only[eO,show ah (len l)=T l from rfl,show ∀a b:R,cy a b=a-b from λ_ _=>rfl];refine a7 (by rw[g22,q2];simp(disch:=first|assumption|omega|(dsimp only;omega)|decide) only[go_sem,Int.reduceToNat];omega) ?_;have ayn:cut (eL l i (T l-i)<|cb (T l-i) (dL:gD)) (ah 0) (i-ah 0)=w.a'.filter p:=by unfold cut;rw[show ah 0=0 from rfl,Nat.sub_zero,vi,auY V,afJ]
 rw[ayn];rfl
def aqY(w:bQ)(hl:T w.a'<=1500000000000):Ti ((w.t,()),())=J (((t_ w).t,()),()):=by
 unfold Ti t_;generalize hg:(λx=>(_:au<|aL (O×(dR×aj)×aj) aj))=F;have WD:∀(w:bQ) (c:O),(gG w c).a'.length<=T w.a':=λw c=>np _ _;have cI:∀(w:bQ) (i:R),i<4->T w.a'<=1500000000000->F ((i:O),(w.t,()),())=J (.nx (((i+1:R):O),((gG w (i:O)).t,()),())):=by
  intro w i ao bR;subst hg;have ej:i64 (aG (i:O) 1)=((i+1:R):O):=dK rfl V
  grind [bj,cB,adp,b3]
 have f1:=WD w ((0:R):O);have f2:=WD (gG w ((0:R):O)) ((1:R):O);have f3:=WD (gG (gG w ((0:R):O)) ((1:R):O)) ((2:R):O);have dh:∀w:bQ,F (4,(w.t,()),())=J (.ex 0 (4,(w.t,()),())):=λw=>aLh
 refine(cE<|(dT<|cI w 0 V hl).trans<|(dT<|cI _ 1 V V).trans<|(dT<|cI _ 2 V V).trans<|(dT<|cI _ 3 V V).trans<|dr<|dh _).trans ?_;rfl
def Ct(i:aE):0<=ez i/\ez i<2:=by cases i<;>decide
def zZ{n:O}(h:n=0\/n=1):ez (mM n)=n:=by rcases h with rfl|rfl<;>decide
def pD(i:aE):aO (ez i) (bc 2)=af:=aE_
def awM(w:bQ)(i:aE)(x:aU)(bg:T x.e.bV<=1000000)(BN:T x.e.got<=1000000)(hf:T w.a'<=1000000000000)(hold:T w.old<=1000000000000)(ayQ:T (w.d8 i)<=1000000000000):
  AP ((w.t,()),ez i,x.t,())=J (((f? w i x).t,()),()):=by
 unfold AP;dsimp only;refine a7 (pD i)<|aW (avz x.e)<|a7 (pD i)<|a7 (pD i) ?_;have hl:ap w.t.2.2.2.2.1 (ah<|ez i) (aI tZ)=w.d8 i:=aE_
 have ax2:Av (ap w.t.2.2.2.2.1 (ah<|ez i)<|aI tZ,())=J (w.d8 i,()):=by rw[hl];exact N6 _
 refine aW ax2<|a7 ?_ (a7 (pD i) ?_)
 .exact aMH
 generalize hg:(λ(ae:O×(dR×aj)×aj)=>(_:au<|aL (O×(dR×aj)×aj) aj))=F;have e1:i64 (bw 1<|ez i)=1-ez i:=aE_
 have key:∀(l:ab qM) (j:R),x.e.bV.drop j=l->j<=T x.e.bV ->
   bG F ((j:O),(({ h8 w i x with a':=w.a'++(x.e.bV.take j).map (iH i),old:=w.old++(x.e.bV.take j).map (iH i) }:bQ).t,()),())=J (.ex 0 ((T x.e.bV:O),((h8 w i x).t,()),())):=by
  intro l;induction l with
  |nil =>intro j a? aF;have cP:=d4 T a?;rw[dV,gM]at cP;have:j=T x.e.bV:=V;subst this;rw[qH];refine dr ?_;subst hg;exact bf<|cm aMI
  |cons v l ih=>
   intro j a? aF;have cP:=d4 T a?;rw[dV,gd]at cP;have bK:j<T x.e.bV:=V;have hx:x.e.bV[j]=v/\x.e.bV.drop (j+1)=l:=aNG
   have jE:i64 (aG (j:O) 1)=((j+1:R):O):=dK aMF V;refine MN (dT ?_)<|ih (j+1) hx.2 V;have e_:(x.e.bV.take<|j+1).map (iH i)=(x.e.bV.take j).map (iH i)++[iH i v]:=by rw[pX bK,Ud,hx.1];rfl
   have gZ:T ((x.e.bV.take j).map<|iH i)<=1000000:=by rw[qJ,jl];omega
   rw[e_,<- kL,<- kL];subst hg;refine bA (cB aNP)<|a7 fq ?_;dsimp only;refine aW (N5<|w.a'++(x.e.bV.take j).map (iH i)) ?_;have ax:ap x.e.bV (ah (j:O)) hr=v:=by rw[eO,nth_get bK];exact hx.1
   rw[e1,ax,jE];refine a7 ?_<|aW (N5<|w.old++(x.e.bV.take j).map (iH i)) (a7 ?_ ?_)
   .rw[g21];refine bS ?_;show(T (w.a'++(x.e.bV.take j).map (iH i))+1)*80<=_;rw[d7];omega
   .rw[g21];refine bS ?_;show(T (w.old++(x.e.bV.take j).map (iH i))+1)*80<=_;rw[d7];omega
   rfl
 have aC:=key x.e.bV 0 rfl<|ea _;rw[Ue,TI,g?,g?]at aC;have eU:(({ h8 w i x with a':=w.a',old:=w.old }:bQ).t)=(cA w.t.1 (ah<|ez i) ({ x.e with bV:=[],got:=[] }:ew).t,x.p,w.a',w.old,cA w.t.2.2.2.2.1 (ah<|ez i)<|bb (w.d8 i) x.e.got,()):=aE_
 rw[eU]at aC;refine(cE<|show bG F (0,((cA w.t.1 (ah<|ez i) ({ x.e with bV:=[],got:=[] }:ew).t,x.p,w.a',w.old,cA w.t.2.2.2.2.1 (ah<|ez i)<|bb (w.d8 i) x.e.got,()),()),())=_ from aC).trans<|lc_ex'.trans<|a7 g62 ?_;dsimp only;have XZ:(ap w.t.1 (ah<|ez i) hJ).2.2.1=(w.e i).ph:=aE_
 rw[XZ];unfold f?;have k6:(h8 w i x).a'.length<=1500000000000:=by show T (w.a'++x.e.bV.map (iH i))<=_;rw[d7,qJ];omega
 by_cases cH:x.e.ph=8
 .by_cases kO:(w.e i).ph=8
  .rw[aD<|λh=>h.2 kO]
   exact aW (bj<|ck cH)<|bf (eI kO)
  rw[aH ⟨cH,kO⟩];exact aW (bj<|ck cH)<|bA (ff kO) ((bs<|aqY _ k6).trans rfl)
 rw[aD<|λh=>cH h.1];exact aW (bf<|cc cH)<|bf rfl
structure fJ(w:bQ):Prop where
 ok:hF w
 z:e' w<=990000000000
def fJ.s{w:bQ}(h:fJ w)(i:aE):bJ 990000000000<|w.at i:=by
 obtain⟨n,ax⟩:=h.ok.s i;have bN:=h.z;unfold e' at bN;refine⟨{ ax.e with bV := ?_,got := ?_ },?_⟩
 .show(w.e i).bV.length<=_;rw[h.ok.bV i];simp
 .show(w.e i).got.length<=_;rw[h.ok.got i];simp
 show T w.p.2.1<=_;omega
def fJ.a'{w:bQ}(h:fJ w):T w.a'<=990000000000:=aMl
def fJ.old{w:bQ}(h:fJ w):T w.old<=990000000000:=aMl
def fJ.d8{w:bQ}(h:fJ w)(i:aE):T (w.d8 i)<=990000000000:=by have bN:=h.z;unfold e' at bN;cases i<;>omega
def fJ.f?{w:bQ}(h:fJ w)(i:aE)(x:aU)(bg:T x.e.bV<=1000000)(BN:T x.e.got<=1000000):AP ((w.t,()),ez i,x.t,())=J (((Yp.f? w i x).t,()),()):=
 awM w i x bg BN aNs aPS aPE
def fJ.bV{w:bQ}(h:fJ w)(i:aE):(w.at i).e.bV=[]:=h.ok.bV i
def fJ.got{w:bQ}(h:fJ w)(i:aE):(w.at i).e.got=[]:=h.ok.got i
def adr{s:aU}(hs:bJ n s):f9 s.e.hub<=4100:=am_
def fJ.EN{w:bQ}(h:fJ w){x:aU}{t g:R}(hg:cL m t g (w.at i) x)(ht:t<=1000)(aIM:g<=1000):T x.e.bV<=1000000/\T x.e.got<=1000000:=by obtain⟨c9,dl,dB,fp,mu⟩:=hg;have bD:=(h.s i).e.queue;rw[h.bV i]at dl;rw[h.got i]at fp;rw[gM]at dl fp;exact⟨V,V⟩
def Uv{w:bQ}(h:fJ w)(i:aE)(c:O){b:ai}(ak:T b<=1000000):G1 ((w.t,()),ez i,c,b,())=J (((lj w i c b).t,()),()):=by refine(bs<|FN w i).trans<|((bs<|avy (h.s i) V c ak).trans<|?_);have Is:=WP (h.s i).e.feed c b;have bD:=(h.s i).e.queue;have axT:=adr<|h.s i;have b0:=Is.Cs;have bT:=Is.got;rw[h.bV i]at b0;rw[h.got i]at bT;rw[gM]at b0 bT;exact(bs<|h.f? i _ V V)
def afO{l:ab gD}(h:N<T l):
  cut (eL (eL l (bB (ah 0)<|cy (ah (N:O))<|ah 0) (aQ<|l.drop<|N+1)<|l.drop<|N+1) (bB (ah 0)<|ah<|bc<|bB (cy (ah (N:O))<|ah 0)<|aQ<|l.drop<|N+1)
   (cy (ah<|len l)<|ah<|bc<|bB (cy (ah (N:O))<|ah 0)<|aQ<|l.drop<|N+1) (cb (cy (ah<|len l)<|ah<|bc<|bB (cy (ah (N:O))<|ah 0)<|aQ<|l.drop<|N+1) (dL:gD)))
   (ah 0) (bB (cy (ah (N:O))<|ah 0)<|aQ<|l.drop<|N+1)=l.eraseIdx N:=by
 have e:bB (cy (ah (N:O))<|ah 0) (aQ<|l.drop<|N+1)=N+T (l.drop<|N+1):=rfl;have bh:bB (ah 0) (cy (ah (N:O))<|ah 0)=N:=oD _;have a?:T (l.drop<|N+1)=T l-(N+1):=dV;rw[e,bh,show bB (ah 0) (ah<|bc<|N+T (l.drop<|N+1))=N+T (l.drop<|N+1) from oD _]
 grind [cut,ah,eL,aQ]
def aj2{b:R}(h:a<b):k_ a b=af:=by unfold k_;rw[ME];exact h
def afN{l:ab gD}(h:N<T l)(apD K:au α):
  (an (df (cq (N:O) ((N+1:R):O)<|len l)<|bL (len l)<|len l) (aa (am (N:O) ((N+1:R):O)) apD (an (cq 0 (N:O)<|len l) (an (cq ((N+1:R):O) (len l)<|len l)
   (an (k_ (bB (ah 0)<|bB (cy (ah (N:O))<|ah 0)<|aQ<|l.drop<|N+1)<|bB (aQ l) 1) (an (df (k_ (ah 0)<|bB (aQ<|eL l (bB (ah 0)<|cy (ah (N:O))<|ah 0) (aQ<|l.drop<|N+1)<|l.drop<|N+1) 1)
    (cq (bc<|bB (cy (ah (N:O))<|ah 0)<|aQ<|l.drop<|N+1) (len l)<|bw (len<|eL l (bB (ah 0)<|cy (ah (N:O))<|ah 0) (aQ<|l.drop<|N+1)<|l.drop<|N+1)<|bc<|ah 0)) K))))))=K:=by
 have e:bB (cy (ah (N:O))<|ah 0) (aQ<|l.drop<|N+1)=N+T (l.drop<|N+1):=rfl;have bh:bB (ah 0) (cy (ah (N:O))<|ah 0)=N:=oD _;have a?:T (l.drop<|N+1)=T l-(N+1):=dV;have aA:T (eL l N (aQ<|l.drop<|N+1)<|l.drop<|N+1)=T l:=afE (by rw[show aQ (l.drop<|N+1)=T (l.drop<|N+1) from rfl];omega);rw[e,bh];refine a7 fq<|a8 (cc V) (a7 fq<|a7 fq<|a7 ?_<|c3 ?_)
 .refine aj2 ?_
  show 0+(N+T (l.drop<|N+1))<T l+1;omega
 rw[aj2<|show ah 0<bB (aQ<|eL l N (aQ<|l.drop<|N+1)<|l.drop<|N+1) 1 from Nat.succ_pos _,g36,g19];refine bS ?_;rw[g22,g22,aA];show(0:O)<=((N+T (l.drop<|N+1):R):O)/\((N+T (l.drop<|N+1):R):O)<=(T l:O)/\(T l:O)<=(T l:O)-((0:R):O);omega
def afH{l:ab gD}(N:R):cut l (ah ((N+1:R):O)) (cy (ah<|len l)<|ah ((N+1:R):O))=l.drop (N+1):=by
 grind [cut,ah,len,cy,List.take_of_length_le]
def Ik{w:bQ}(h:fJ w){l:ab gD}(hl:∀f∈l,Cw f)(ax:T l<=T w.a'):fJ { w with a':=l }:=by
 refine⟨Kc h.ok hl,?_⟩;have bN:=h.z
 grind [e',gn]
def ag6{w:bQ}(h:fJ w)(a:gF):Mi ((w.t,()),a,())=J (((h9 w a.2.2.1 a.2.2.2.1).1.t,()),(h9 w a.2.2.1 a.2.2.2.1).2,()):=by
 unfold Mi h9;have k6:=h.a';refine(bs<|yA a.2.2.1<|len w.a').trans<|?_;by_cases aC:0<=a.2.2.1/\a.2.2.1<(T w.a':O)
 .rw[bS<|show 0<=a.2.2.1/\a.2.2.1<len w.a' from aC,aD<|not_not_intro aC]
  obtain⟨N,fE⟩:∃N:R,a.2.2.1=(N:O):=⟨a.2.2.1.toNat,V⟩;rw[fE,ie];have bK:N<T w.a':=V;have fa:=h.ok.a' _<|Cr bK;refine(a7 (by show aO (N:O) (len w.a')=af;simp only[go_sem];omega)<|aW (VT w.a' V) ?_);rw[show ap w.t.2.2.1 (ah (N:O)) dL=ap w.a' N mD from rfl,show ap w.a' (ah (N:O)) dL=ap w.a' N mD from rfl];generalize ap w.a' N mD=f at fa;generalize hm:a.2.2.2.1=m;by_cases Y:0<m/\m<(T f.2.2.1:O)
  .rw[aH Y]
   refine(bs<|bA (cB Y.1)<|show _=J (af,()) by rw[cB<|show m<len f.2.2.1 from Y.2]).trans<|(?_);refine a7 b2<|a7 b2<|a7 b2 ?_;rw[show sub f.2.2.1 m (len f.2.2.1)=f.2.2.1.drop m.toNat from Dj _ V];have vU:fJ { w with a':=w.a'.set N (f.1,f.2.1,f.2.2.1.drop m.toNat,()) }:=aKV
   have:=Uv vU (mM f.1) f.2.1 (b:=f.2.2.1.take m.toNat) aNh;rw[zZ fa.1]at this;exact(bs this)
  rw[aD Y];have azz:(aa (aK 0 m) (J (aK m<|len f.2.2.1,())) (J (ag,())):au<|Bool×aj)=J (ag,()):=by
   grind [bj,cm,len,bf]
  refine(bs azz).trans<|(?_);have IJ:i64 (aG (N:O) 1)=((N+1:R):O):=dK (by show(N:O)+1=_;omega) V;rw[IJ];simp only[afH];rw[afO bK];refine(afN bK _ _).trans ?_;have vU:fJ { w with a':=w.a'.eraseIdx N }:=Ik h (λg hg=>h.ok.a' g<|TY hg)<|vl _ _;have:=Uv vU (mM f.1) f.2.1 (b:=f.2.2.1) aOj;rw[zZ fa.1]at this;exact(bs this)
 exact aNj
def avg{w:bQ}(h:fJ w)(a:gF):Tl ((w.t,()),a,())=J (((s7 w a.2.2.1).1.t,()),(s7 w a.2.2.1).2,()):=by
 unfold Tl s7;have k6:=h.a';refine(bs<|yA a.2.2.1<|len w.a').trans<|?_;by_cases aC:0<=a.2.2.1/\a.2.2.1<(T w.a':O)
 .rw[bS<|show 0<=a.2.2.1/\a.2.2.1<len w.a' from aC,aD<|not_not_intro aC]
  obtain⟨N,fE⟩:∃N:R,a.2.2.1=(N:O):=⟨a.2.2.1.toNat,V⟩;rw[fE];have bK:N<T w.a':=V;refine((bs<|VT w.a' V).trans<|(b3 rfl).trans ?_);have IJ:i64 (aG (N:O) 1)=((N+1:R):O):=dK rfl V;rw[IJ];simp only[afH];rw[afO bK];exact(afN bK _ _)
 exact aNj
def apY{w:bQ}(h:fJ w)(a:gF):Th ((w.t,()),a,())=J (((yX w a.2.2.1).1.t,()),(yX w a.2.2.1).2,()):=by
 unfold Th yX;have k6:=h.a';refine(bs<|yA a.2.2.1<|len w.old).trans<|?_;by_cases aC:0<=a.2.2.1/\a.2.2.1<(T w.old:O)
 .rw[bS<|show 0<=a.2.2.1/\a.2.2.1<len w.old from aC,aD<|not_not_intro aC]
  refine((bs<|N5 w.a').trans<|(a7 aM_<|(c3 ?_)));exact aPB
 rw[b1<|show ¬(0<=a.2.2.1/\a.2.2.1<len w.old) from aC,aH aC];rfl
def aG6{w:bQ}(h:fJ w)(a:gF):To ((w.t,()),a,())=J (((Ax w a.2.2.1 a.2.2.2.1 a.2.2.2.2.1).1.t,()),(Ax w a.2.2.1 a.2.2.2.1 a.2.2.2.2.1).2,()):=by
 unfold To Ax;have k6:=h.a';refine(bs<|yA a.2.2.1<|len w.old).trans<|?_;by_cases aC:0<=a.2.2.1/\a.2.2.1<(T w.old:O)
 .rw[bS<|show 0<=a.2.2.1/\a.2.2.1<len w.old from aC]
  have dP:aO a.2.2.1 (len w.old)=af:=aM_
  have nF:=h.ok.old _<|Cr (show a.2.2.1.toNat<T w.old by omega);rw[show ap w.t.2.2.2.1 (ah a.2.2.1) dL=ap w.old a.2.2.1.toNat mD from rfl];generalize ap w.old a.2.2.1.toNat mD=f at nF;have Yd:(aa (a2 af) (J (af,())) (an (aO a.2.2.1<|len w.t.2.2.2.1)<|ob (sF (a.2.2.2.1,len f.2.2.1,())) λa5=>aa (a2 a5.1) (J (af,()))<|some (am (len a.2.2.2.2.1) 0,())):au<|Bool×aj) =
    J (D<|¬(0<=a.2.2.2.1/\a.2.2.2.1<(T f.2.2.1:O))\/a.2.2.2.2.1=[],()):=by
   refine(a7 dP<|(bs<|yA _ _).trans<|?_);by_cases Y:0<=a.2.2.2.1/\a.2.2.2.1<(T f.2.2.1:O)
   .rw[bS<|show 0<=a.2.2.2.1/\a.2.2.2.1<len f.2.2.1 from Y]
    rw[g10];refine lZ ?_;constructor
    .intro hx;exact .inr<|mW.1 (by have:(T a.2.2.2.2.1:O)=0:=hx;omega)
    rintro(hx|hx)
    .omega
    rw[hx];rfl
   rw[b1<|show ¬(0<=a.2.2.2.1/\a.2.2.2.1<len f.2.2.1) from Y,bS<|.inl Y];rfl
  refine(bs Yd).trans<|?_;by_cases ac:¬(0<=a.2.2.2.1/\a.2.2.2.1<(T f.2.2.1:O))\/a.2.2.2.2.1=[]
  .rw[bS ac,aH<|ac.elim (λh=>.inr<|.inl h)<|λh=>.inr<|.inr h];rfl
  have av:=sL.1 λh=>ac<|.inl h;have aJ:=λh=>ac<|.inr h;have bv:=Nf.2 aJ;rw[b1 ac,aD<|by grind];refine(a7 dP<|(bs<|HU f.2.2.1 (by have:=nF.2.2;omega)).trans<|?_);refine a7 (by simp only[go_sem];exact av)<|a7 b2 (a7 (by simp only[go_sem];exact av)<|(bs<|N5 w.a').trans<|(a7 ?_ ?_))
  .exact aPB
  rw[acg];rfl
 rw[b1<|show ¬(0<=a.2.2.1/\a.2.2.1<len w.old) from aC,aH<|.inl aC];rfl
def aAs{w:bQ}(h:fJ w)(a:gF)(ak:T a.2.2.2.2.1<=1000000):Tm ((w.t,()),a,())=J (((zH w a.2.1 a.2.2.1 a.2.2.2.2.1).1.t,()),(zH w a.2.1 a.2.2.1 a.2.2.2.2.1).2,()):=by
 unfold Tm zH;refine(bs<|yA a.2.1 2).trans<|?_;by_cases aC:0<=a.2.1/\a.2.1<2
 .rw[bS aC,aD<|not_not_intro aC]
  have:=Uv h (mM a.2.1) a.2.2.1 ak;rw[zZ V]at this;exact((bs this))
 rw[b1 aC,aH aC];rfl
def au0{w:bQ}(h:fJ w)(a:gF):Tk ((w.t,()),a,())=J (((vD w a.2.2.1).1.t,()),(vD w a.2.2.1).2,()):=by
 unfold Tk vD;refine(bs<|yA a.2.2.1 4).trans<|?_;by_cases aC:iR a.2.2.1
 .rw[bS<|show 0<=a.2.2.1/\a.2.2.1<4 from aC,aD<|not_not_intro aC]
  exact((bs<|adp w _ aNs))
 exact aNL
def ave{w:bQ}(h:fJ w)(a:gF)(ak:T a.2.2.2.2.1<=1000000):rA ((w.t,()),a,())=J (((sV w a).1.t,()),(sV w a).2,()):=by
 unfold rA sV;refine(bs<|yA a.2.1 2).trans<|?_;by_cases aC:0<=a.2.1/\a.2.1<2
 .rw[bS aC,aD<|not_not_intro aC]
  have e:=zZ (n:=a.2.1) V;generalize mM a.2.1=i at e;rw[<- e];have hg:=h.EN (W0 (h.s i) a) V V;refine((bs<|FN w i).trans<|((bs<|avA (h.s i) V a ak).trans<|?_));exact(bs<|h.f? i _ hg.1 hg.2)
 rw[b1 aC,aH aC];rfl
def aDG{w:bQ}(h:fJ w)(a:gF):Tn ((w.t,()),a,())=J (((wm w a.2.2.1).1.t,()),(wm w a.2.2.1).2,()):=by
 unfold Tn wm;have hp:(aa (am (w.e ag).ph 8) (J (af,())) (an (aO 1<|bc 2)<|some (am (w.e af).ph 8,())):au<|Bool×aj)=J (D<|(w.e ag).ph=8\/(w.e af).ph=8,()):=AI
 refine(bs<|hp).trans<|?_;by_cases cH:(w.e ag).ph=8\/(w.e af).ph=8
 .rw[bS cH,aH cH];rfl
 rw[b1 cH,aD cH];refine((bs<|yA a.2.2.1 4).trans<|?_);by_cases aC:iR a.2.2.1
 .rw[bS<|show 0<=a.2.2.1/\a.2.2.1<4 from aC,aD<|not_not_intro aC]
  have aJ:aO a.2.2.1 (bc 4)=af:=aM_
  refine((a7 aJ ?_));have bq:(aa (ap (w.e ag).hub.1 (ah a.2.2.1) ag) (J (af,())) (an (aO 1<|bc 2)<|an (aO a.2.2.1<|bc 4)<|some (ap (w.e af).hub.1 (ah a.2.2.1) ag,())):au<|Bool×aj)=J (D<|ld (w.e ag).hub a.2.2.1\/ld (w.e af).hub a.2.2.1,()):=by
   unfold ld;rw[aJ,show ah a.2.2.1=a.2.2.1.toNat from rfl];cases ap (w.e ag).hub.1 a.2.2.1.toNat ag
   .cases ap (w.e af).hub.1 a.2.2.1.toNat ag
    .rw[b1 bP];rfl
    rw[bS<|.inr rfl];rfl
   rw[bS<|.inl rfl];rfl
  refine(bs<|bq).trans<|?_;by_cases Y:ld (w.e ag).hub a.2.2.1\/ld (w.e af).hub a.2.2.1
  .rw[bS Y,aH Y];rfl
  rw[b1 Y,aD Y];generalize hg:(λae=>(_:au<|aL (O×(dR×aj)×aj) aj))=F;have cI:∀(w:bQ) (i:aE),fJ w->F (ez i,(w.t,()),())=J (.nx (ez i+1,((rk w i a.2.2.1).t,()),())):=by intro w i bR;have az:=bR.EN (W3 (w.at i) (bR.s i).e.feed a.2.2.1) V V;subst hg;refine bA (cB (Ct i).2)<|(bs<|FN w i).trans<|((bs<|avE (bR.s i) V a.2.2.1).trans<|((bs<|bR.f? i _ az.1 az.2).trans<|?_));cases i<;>rfl
  have dh:∀w:bQ,F (2,(w.t,()),())=J (.ex 1 (2,(w.t,()),())):=λw=>aLh
  obtain⟨b4,cz,dw⟩:=Qw h.ok ag a.2.2.1;refine(cE<|(dT<|cI w ag h).trans<|(dT<|cI _ af ⟨b4,i6 dw h.z⟩).trans<|dr<|dh _).trans ?_;rfl
 exact aNL
def Lh(w:bQ)(i:aE):CY (w.t,ez i,())=J ((w.at i).t,()):=aE_
def RT(l:ab gD)(f:gD)(hl:T l<=1500000000000):wx (l,f,())=J (l++[f],()):=by
 refine a7 ?_<|a7 ?_ rfl
 .rw[g21];refine bS ?_;show(0+T l)*80<=_;omega
 rw[g21];refine bS ?_;show(T l+1)*80<=_;omega
def al1(w:bQ)(c:O)(hl:T w.a'<=1500000000000):Lf (w.t,c,())=J ((gG w c).t,()):=by
 unfold Lf;generalize hg:(λ(ae:O×dR×aj)=>(_:au<|aL (O×dR×aj)<|dR×aj))=F;have cI:∀(v:bQ) (i:aE),F (ez i,v.t,())=J (.nx (ez i+1,({ v with e:=ho v.e i (n3 (v.e i) c) }:bQ).t,())):=by
  intro v i;subst hg;refine bA (cB (Ct i).2)<|aW (Lh v i)<|aW (aFe (v.at i) c) ?_;by_cases aC:(iB (v.e i).hub c).2=0
  .refine bA (ck aC) (a7 (pD i) ?_)
   exact aE_
  refine a8 (cc aC) ?_;rw[V2 aC];cases i
  .exact aN1
  exact aN1
 have dh:∀v:bQ,F (2,v.t,())=J (.ex 0 (2,v.t,())):=λv=>aLh
 refine(cE<|(dT<|cI w ag).trans<|(dT<|cI _ af).trans<|dr<|dh _).trans<|lc_ex'.trans<|a7 g62 ?_;have ei:∀E:aE->ew,({ w with e:=E }:bQ).t.2.2.1=w.a':=λ_=>rfl;simp only[ei];generalize dG:(λ(ae:ab gD×O×aj)=>(_:au<|aL (ab gD×O×aj)<|dR×aj))=G;have step:∀i:R,i<T w.a'->G ((w.a'.take i).filter<|λf=>decide (¬f.2.1=c),(i:O),())=J (.nx ((w.a'.take<|i+1).filter<|λf=>decide (¬f.2.1=c),((i+1:R):O),())):=by
  intro i ao;subst dG;have ej:i64 (aG (i:O) 1)=((i+1:R):O):=dK IS V;have dP:aO (i:O) (len w.a')=af:=b2;refine bA (cB aPP)<|a7 dP ?_;rw[show ap w.a' (ah (i:O)) dL=w.a'[i] from aPn,ej,OD _ ao];have cP:T ((w.a'.take i).filter<|λf=>decide (¬f.2.1=c))<=i:=by
   grind
  by_cases aA:w.a'[i].2.1=c
  .grind [bf,eI]
  rw[aH<|by simp[aA]];refine bA (ff aA)<|a7 dP<|a7 ?_ rfl;rw[g21];refine bS ?_;show(T ((w.a'.take i).filter<|λf=>decide (¬f.2.1=c))+1)*80<=_;omega
 have Xz:G ((w.a'.take<|List.length w.a').filter<|λf=>decide (¬f.2.1=c),(T w.a':O),())=J (.ex 2 ((w.a'.take<|List.length w.a').filter<|λf=>decide (¬f.2.1=c),(T w.a':O),())):=by subst dG;exact bf<|cm (by show ¬(T w.a':O)<(T w.a':O);omega)
 have dU:=(gS (f:=G) (λi=>((w.a'.take i).filter<|λf=>decide (¬f.2.1=c),(i:O),())) (T w.a') step 0<|ea _).trans<|dr Xz;rw[qH]at dU;refine(cE<|dU).trans<|lc_ex'.trans<|a7 g62 ?_;rfl
def aFp(w:bQ)(i:aE)(x:aU)(bg:T x.e.bV<=1000000)(BN:T x.e.got<=1000000)(hf:T w.a'<=1000000000000)(hold:T w.old<=1000000000000)(ayQ:T (w.d8 i)<=1000000000000):
  Aj (w.t,ez i,x.t,())=J ((f? w i x).t,()):=by
 unfold Aj;have XZ:(ap w.t.1 (ah<|ez i) hJ).2.2.1=(w.e i).ph:=aE_
 rw[XZ];have a?:(aa (a2<|am (w.e i).ph 8) (J (am x.e.ph 8,())) (J (ag,())):au<|Bool×aj)=J (D<|x.e.ph=8/\¬(w.e i).ph=8,()):=by
  grind [b1,bf,eI,bj,ff,g10]
 refine a7 (pD i)<|aW (a?)<|(b3 (o:=aaB (x.e.t,())) rfl).trans<|a7 (pD i)<|a7 (pD i) ?_;have hl:ap w.t.2.2.2.2.1 (ah<|ez i) (aI tZ)=w.d8 i:=aE_
 rw[show ap w.t.2.2.2.2.1 (ah<|ez i) (aI<|Int×ab O×O×ai×aj)=w.d8 i from hl];refine a7 ?_<|a7 ?_ (a7 (pD i) ?_)
 .rw[g21];refine bS ?_;show(0+T (w.d8 i))*128<=_;omega
 .exact aMH
 have e1:i64 (bw 1<|ez i)=1-ez i:=aE_
 rw[e1];generalize hg:(λ(ae:O×dR×aj)=>aa (aK ae.1 _) _ _)=F;have step:∀j:R,j<T x.e.bV->F ((j:O),({ h8 w i x with a':=w.a'++(x.e.bV.take j).map (iH i),old:=w.old++(x.e.bV.take j).map (iH i) }:bQ).t,()) =
   J (.nx (((j+1:R):O),({ h8 w i x with a':=w.a'++(x.e.bV.take<|j+1).map (iH i),old:=w.old++(x.e.bV.take<|j+1).map (iH i) }:bQ).t,())):=by
  intro j bK;have jE:i64 (aG (j:O) 1)=((j+1:R):O):=dK aMF V;have e_:(x.e.bV.take<|j+1).map (iH i)=(x.e.bV.take j).map (iH i)++[iH i x.e.bV[j]]:=by rw[pX bK,Ud];rfl
  have gZ:T ((x.e.bV.take j).map<|iH i)<=1000000:=by rw[qJ,jl];omega
  rw[e_,<- kL,<- kL];have dP:aO (j:O) (len x.e.bV)=af:=b2;subst hg;refine bA (cB aNP)<|a7 dP<|a7 dP ?_;have ax:ap x.e.bV (ah (j:O)) hr=x.e.bV[j]:=by rw[eO,nth_get bK]
  rw[jE];refine aW (show wx (w.a'++(x.e.bV.take j).map (iH i),(1-ez i,(ap x.e.bV (ah (j:O)) hr).1,(ap x.e.bV (ah (j:O)) hr).2.1,()),())=_ from RT _ _ aLt) ?_;refine aW (show wx (w.old++(x.e.bV.take j).map (iH i),(1-ez i,(ap x.e.bV (ah (j:O)) hr).1,(ap x.e.bV (ah (j:O)) hr).2.1,()),())=_ from RT _ _ aLt) ?_;rw[ax];rfl
 have dh:F ((T x.e.bV:O),({ h8 w i x with a':=w.a'++(x.e.bV.take<|List.length x.e.bV).map (iH i),old:=w.old++(x.e.bV.take<|List.length x.e.bV).map (iH i) }:bQ).t,()) =
   J (.ex 0 ((T x.e.bV:O),({ h8 w i x with a':=w.a'++(x.e.bV.take<|List.length x.e.bV).map (iH i),old:=w.old++(x.e.bV.take<|List.length x.e.bV).map (iH i) }:bQ).t,())):=by
  subst hg;exact bf<|cm aMI
 have aC:=(gS (f:=F) (λj=>((j:O),({ h8 w i x with a':=w.a'++(x.e.bV.take j).map (iH i),old:=w.old++(x.e.bV.take j).map (iH i) }:bQ).t,())) (T x.e.bV) step 0<|ea _).trans<|dr dh;rw[qH,Ue,TI,g?,g?]at aC;have eU:(({ h8 w i x with a':=w.a',old:=w.old }:bQ).t)=(cA w.t.1 (ah<|ez i) ({ x.e with bV:=[],got:=[] }:ew).t,x.p,w.a',w.old,cA w.t.2.2.2.2.1 (ah<|ez i)<|bb (bb (aI tZ)<|w.d8 i) x.e.got,()):=aE_
 rw[eU]at aC;refine(cE<|aC).trans<|lc_ex'.trans<|a7 g62 ?_;generalize dG:(λ(ae:O×dR×aj)=>(_:au<|aL (O×dR×aj)<|dR×aj))=G;have k6:(h8 w i x).a'.length<=1500000000000:=by
  show T (w.a'++x.e.bV.map (iH i))<=_
  grind
 unfold f?;by_cases cH:x.e.ph=8/\¬(w.e i).ph=8
 .rw[bS cH]at dG
  rw[aH cH];have bl:∀(v:bQ) (c:O),(gG v c).a'.length<=T v.a':=λv c=>np _ _;have cI:∀(v:bQ) (c:R),c<4->T v.a'<=1500000000000->G ((c:O),v.t,())=J (.nx (((c+1:R):O),(gG v c).t,())):=by intro v c aA a3;have m8:i64 (aG (c:O) 1)=((c+1:R):O):=dK (by show(c:O)+1=_;omega) V;subst dG;refine aW (bj<|cB (by show(c:O)<4;omega))<|bA rfl<|aW (al1 v c a3) ?_;rw[m8]
  have dh:∀v:bQ,G (4,v.t,())=J (.ex 2 (4,v.t,())):=λv=>by subst dG;exact(bs<|bf rfl).trans rfl
  have eZ:=bl (h8 w i x) ((0:R):O);have fx:=bl (gG (h8 w i x) ((0:R):O)) ((1:R):O);have e7:=bl (gG (gG (h8 w i x) ((0:R):O)) ((1:R):O)) ((2:R):O);exact(cE<|(dT<|cI _ 0 V k6).trans<|(dT<|cI _ 1 V V).trans<|(dT<|cI _ 2 V V).trans<|(dT<|cI _ 3 V V).trans<|dr<|dh _).trans<|lc_ex'.trans (c3 g62)
 rw[b1 cH]at dG;rw[aD cH];have dh:G (0,(h8 w i x).t,())=J (.ex 2 (0,(h8 w i x).t,())):=by subst dG;exact(bs<|bj rfl).trans rfl
 exact(cE<|dr dh).trans<|lc_ex'.trans (c3 g62)
def fJ.OS{w:bQ}(h:fJ w)(i:aE)(x:aU)(bg:T x.e.bV<=1000000)(BN:T x.e.got<=1000000):Aj (w.t,ez i,x.t,())=J ((Yp.f? w i x).t,()):=
 aFp w i x bg BN aNs aPS aPE
def aaF{w:bQ}(h:fJ w)(bN:h6 w)(i:aE)(c:O){b:ai}(ak:T b<=1000000):Gj (w.t,ez i,c,b,())=J ((lj w i c b).t,()):=by unfold Gj;dsimp only;refine aW (Lh w i)<|aW (aFd (h.s i) V (bN i) c ak) ?_;dsimp only;have Is:=WP (h.s i).e.feed c b;have bD:=(h.s i).e.queue;have axT:=adr<|h.s i;have b0:=Is.Cs;have bT:=Is.got;rw[h.bV i]at b0;rw[h.got i]at bT;rw[gM]at b0 bT;exact(bs<|h.OS i _ V V).trans rfl
def al3{l:ab gD}(h:N<T l)(hl:T l<=1500000000000):CZ (l,(N:O),())=J (l.eraseIdx N,()):=by
 unfold CZ;have IJ:i64 (aG (N:O) 1)=((N+1:R):O):=dK (by show(N:O)+1=_;omega) V;rw[IJ,show sub l ((N+1:R):O) (len l)=l.drop (N+1) from Dj _ V];have ht:T (l.take N)=N:=aLJ
 have a?:T (l.drop<|N+1)=T l-(N+1):=dV;refine a7 b2<|a7 ?_ (a7 b2<|a7 ?_ ?_)
 .rw[g21];refine bS ?_;show(0+T (l.take N))*80<=_;omega
 .rw[g21];refine bS ?_;show(T (l.take N)+T (l.drop<|N+1))*80<=_;omega
 rw[List.eraseIdx_eq_take_drop_succ];rfl
theorem al2{w:bQ}(h:fJ w)(bN:h6 w){n m:O}(aC:0<=n/\n<(T w.a':O)):Lg (w.t,n,m,())=J ((h9 w n m).1.t,()):=by
 unfold Lg h9;dsimp only;have k6:=h.a';rw[aD<|not_not_intro aC];obtain⟨N,fE⟩:∃N:R,n=(N:O):=⟨n.toNat,V⟩;subst fE;rw[ie];have bK:N<T w.a':=V;have fa:=h.ok.a' _<|Cr bK;have aIP:ap w.a' N mD=w.a'[N]:=nth_get bK;refine a7 aKT ?_;rw[show ap w.t.2.2.1 (ah (N:O)) dL=ap w.a' N mD from rfl];have e1:∀f:gD,(aa (aK 0 m) (J (aK m<|len f.2.2.1,())) (J (ag,())):au<|Bool×aj)=J (D<|0<m/\m<(T f.2.2.1:O),()):=λf=>by
  by_cases ac:0<m
  .refine bA (cB ac) ?_
   rw[g08];exact lZ ⟨λk=>⟨ac,k⟩,λk=>k.2⟩
  rw[b1<|λk=>ac k.1];exact bf<|cm ac
 refine aW (e1 _) ?_;dsimp only;generalize ap w.a' N mD=f at fa;by_cases Y:0<m/\m<(T f.2.2.1:O)
 .rw[aH Y,bS Y]
  refine bA rfl<|a7 ?_ (a7 fq<|a7 aKT<|a7 fq ?_)
  .rw[g21];refine bS ?_;show(0+T w.a')*80<=_;omega
  rw[show sub f.2.2.1 m (len f.2.2.1)=f.2.2.1.drop m.toNat from Dj _ V,show sub f.2.2.1 0 m=f.2.2.1.take m.toNat from rfl];have vU:fJ { w with a':=w.a'.set N (f.1,f.2.1,f.2.2.1.drop m.toNat,()) }:=aKV
  have:=aaF vU (bN.a' _) (mM f.1) f.2.1 (b:=f.2.2.1.take m.toNat) aNh;rw[zZ fa.1]at this;exact(bs this).trans rfl
 rw[aD Y,b1 Y];refine a8 rfl<|aW (show CZ (w.a',(N:O),())=_ from al3 bK V) ?_;have vU:fJ { w with a':=w.a'.eraseIdx N }:=Ik h (λg hg=>h.ok.a' g<|TY hg)<|vl _ _;have:=aaF vU (bN.a' _) (mM f.1) f.2.1 (b:=f.2.2.1) aOj;rw[zZ fa.1]at this;exact(bs this).trans rfl
structure wT(w:bQ):Prop where
 ok:hF w
 z:20*e' w+4*i9 w+240<=19800000000000
theorem wT.kx{w:bQ}(h:wT w):fJ w:=⟨h.ok,by have:=h.z;omega⟩
def ag5{w:bQ}(h:hF w){f:gD}{r:ab gD}(hf:w.a'=f::r)(aB:k<=T r):
  hF (h9 w 0 0).1/\(k<=(h9 w 0 0).1.a'.length\/(h9 w 0 0).1.a'=[])/\20*e' (h9 w 0 0).1+4*(gC (h9 w 0 0).1+fB ((h9 w 0 0).1.a'.take k))<=20*e' w+4*(gC w+fB (w.a'.take<|k+1)):=by
 have e:(h9 w 0 0).1=lj { w with a':=r } (mM f.1) f.2.1 f.2.2.1:=aOA
 have Y:hF { w with a':=r }:=⟨h.s,h.bV,h.got,λg hg=>h.a' g<|by grind,h.old⟩
 grind [Uu,gn,gC,e',fB]
def acw{w:bQ}(k:O)(h:∀j:R,(j:O)<k->wT (l' j w))(aB:k<=1000000):G0 (w.t,k,())=J ((l' k.toNat w).t,()):=by
 unfold G0;generalize hg:(λae=>(_:au<|aL (O×(dR×aj)×aj)<|dR×aj))=F;have round:∀(i:R) (v:bQ),(i:O)<k->wT v->F ((i:O),(v.t,()),())=J (.nx (((i+1:R):O),((pP v).t,()),())):=by
  intro i v ao a3;have ej:i64 (aG (i:O) 1)=((i+1:R):O):=dK IS V;subst hg;refine bA (cB (by show(i:O)<dk 0 k;rw[g58];omega)) ?_;generalize dG:(λ(x:O×(dR×aj)×aj)=>ob (aa (aK 0 x.1) _ _) _)=G;generalize c6:(λ(x:O×(dR×aj)×aj)=>aa (aK x.1 2) _ _)=H;have H0:∀(n:R) (u:bQ),hF u->(n<=T u.a'\/u.a'=[])->20*e' u+4*(gC u+fB (u.a'.take n))<=19800000000000->n<=1000000000000 ->
    ∃j:O,bG G ((n:O),(u.t,()),())=J (.ex 2 (j,((lM n u).t,()),())):=by
   intro n;induction n with
   |zero =>intro u bq ax bN ak;refine⟨0,dr ?_⟩;subst dG;rfl
   |succ n ih=>
    intro u bq ax bN ak;unfold lM;by_cases aC:u.a'=[]
    .rw[aH aC]
     refine⟨((n+1:R):O),dr ?_⟩;subst dG;refine aW (a:=(ag,())) (bA (cB V) ?_)<|bf rfl;show J (aK 0<|len u.a',())=_;rw[aC];rfl
    rw[aD aC];obtain⟨f,r,hf⟩:=Hr aC;have Jc:n<=T r:=by
     grind
    obtain⟨dN,fC,jd⟩:=ag5 bq hf Jc;obtain⟨j,aF⟩:=ih (h9 u 0 0).1 dN fC V V;refine⟨j,MN (dT ?_) aF⟩;have vU:fJ u:=⟨bq,V⟩;have m_:i64 (bw ((n+1:R):O) 1)=((n:R):O):=dK (by show((n+1:R):O)-1=_;omega) V;subst dG;refine aW (a:=(af,())) (bA (cB V) ?_)<|?_
    .exact aLN
    dsimp only;refine aW (ag6 vU i4) ?_;rw[m_]
  have k6:=a3.kx.a';have axo:i9 v=fB v.a'+gC v+950*gn v:=rfl;have bN:=a3.z;obtain⟨j,aF⟩:=H0 (T v.a') v a3.ok (.inl<|cx _) (by rw[qH];omega) V;obtain⟨d1,d2,d3⟩:=H2 (T v.a') a3.ok<|.inl<|cx _;rw[qH]at d3;have L0:∀(u:bQ) (i:aE),fJ u->H (ez i,(u.t,()),())=J (.nx (ez i+1,((sC u i).t,()),())):=by intro u i bq;have az:=bq.EN (OV<|bq.s i) V V;subst c6;refine bA (cB (Ct i).2)<|(bs<|FN u i).trans<|((bs<|agd (bq.s i) V).trans<|((bs<|bq.f? i _ az.1 az.2).trans<|?_));cases i<;>rfl
  have dh:∀u:bQ,H (2,(u.t,()),())=J (.ex 4 (2,(u.t,()),())):=λu=>by subst c6;exact bf rfl
  refine(cE<|aF).trans<|(?_);have f1:fJ<|lM (T v.a') v:=⟨d1,V⟩;obtain⟨e_,fP,qt⟩:=S3 d1 ag;have f2:fJ<|sC (lM (T v.a') v) ag:=⟨e_,V⟩;refine(cE<|(dT<|L0 _ ag f1).trans<|(dT<|L0 _ af f2).trans<|dr<|dh _).trans<|(?_);rw[ej];rfl
 have VH:∀(j:R) (v:bQ),pP (l' j v)=l' (j+1) v:=by
  intro j;exact aNe
 have run:∀(m j:R),j+m=k.toNat->bG F ((j:O),((l' j w).t,()),())=J (.ex 0 ((k.toNat:O),((l' k.toNat w).t,()),())):=by
  intro m;induction m with
  |zero=>
   grind [dr,bf,cm,g58]
  |succ m ih =>intro j aF;refine MN (dT ?_)<|ih (j+1) V;rw[round j _ V<|h j V,VH]
 exact(cE<|run k.toNat 0<|oD _).trans<|(c3 g62)
def auB{w:bQ}(a:gF)(h:∀j:R,j<(min a.2.2.1 100).toNat->wT (l' j w)):Tj ((w.t,()),a,()) =
  J (((if a.2.2.1<0 then(w,(1:O)) else(l' (min a.2.2.1 100).toNat w,0)).1.t,()),(if a.2.2.1<0 then(w,(1:O)) else(l' (min a.2.2.1 100).toNat w,0)).2,()):=by
 unfold Tj;dsimp only;by_cases aC:a.2.2.1<0
 .rw[aH aC];exact bj<|cB aC
 rw[aD aC];refine a8 (cm aC) ?_;rw[g57];exact(bs<|acw (min a.2.2.1 100) (λj aF=>h j V) V).trans rfl
structure Mt(w:bQ)(a:gF):Prop where
 kx:fJ w
 b:T a.2.2.2.2.1<=1000000
 rS:a.1=17->∀j:R,j<(min a.2.2.1 100).toNat->wT (l' j w)
def DU{w:bQ}{a:gF}(h:Mt w a):rz (w.t,a,())=J ((jf w a).1.t,(jf w a).2,()):=by
 unfold rz jf;dsimp only;have a?:=ave h.kx a h.b;have vJ:(ob (rA ((w.t,()),a,())) λx=>(J (x.1.1,x.2.1,()):au<|dR×O×aj))=J ((sV w a).1.t,(sV w a).2,()):=(bs a?).trans rfl;by_cases eJ:a.1=7
 .rw[aH eJ];exact bA (ck eJ)<|(bs<|ag6 h.kx a).trans rfl
 rw[aD eJ];refine a8 (cc eJ) ?_;by_cases cH:a.1=8
 .rw[aH cH];exact bA (ck cH)<|(bs<|avg h.kx a).trans rfl
 rw[aD cH];refine a8 (cc cH) ?_;by_cases kO:a.1=9
 .rw[aH kO];exact bA (ck kO)<|(bs<|apY h.kx a).trans rfl
 rw[aD kO];refine a8 (cc kO) ?_;by_cases n_:a.1=10
 .rw[aH n_];exact bA (ck n_)<|(bs<|aG6 h.kx a).trans rfl
 rw[aD n_];refine a8 (cc n_) ?_;by_cases nA:a.1=11
 .rw[aH nA];exact bA (ck nA)<|(bs<|aAs h.kx a h.b).trans rfl
 rw[aD nA];refine a8 (cc nA) ?_;by_cases xo:a.1=12
 .rw[aH xo];exact bA (ck xo)<|(bs<|aDG h.kx a).trans rfl
 rw[aD xo];refine a8 (cc xo) ?_;by_cases zk:a.1=13
 .rw[aH zk];exact bA (ck zk)<|(bs<|au0 h.kx a).trans rfl
 rw[aD zk];refine a8 (cc zk) ?_;by_cases lQ:a.1=17
 .rw[aH lQ]
  exact bA (ck lQ)<|(bs<|auB a<|h.rS lQ).trans rfl
 rw[aD lQ];refine a8 (cc lQ) ?_;by_cases aC:a.1=0
 .rw[aH V];exact bA (ck aC) vJ
 refine a8 (cc aC) ?_;by_cases Y:a.1=1
 .rw[aH V];exact bA (ck Y) vJ
 refine a8 (cc Y) ?_;by_cases ac:a.1=2
 .rw[aH V];exact bA (ck ac) vJ
 refine a8 (cc ac) ?_;by_cases av:a.1=3
 .rw[aH V];exact bA (ck av) vJ
 refine a8 (cc av) ?_;by_cases aJ:a.1=4
 .rw[aH V];exact bA (ck aJ) vJ
 refine a8 (cc aJ) ?_;by_cases bv:a.1=5
 .rw[aH V];exact bA (ck bv) vJ
 refine a8 (cc bv) ?_;by_cases c_:a.1=6
 .rw[aH V];exact bA (ck c_) vJ
 refine a8 (cc c_) ?_;by_cases ta:a.1=14
 .rw[aH V];exact bA (ck ta) vJ
 refine a8 (cc ta) ?_;by_cases tb:a.1=15
 .rw[aH V];exact bA (ck tb) vJ
 refine a8 (cc tb) ?_;by_cases mc:a.1=16
 .rw[aH V];exact bA (ck mc) vJ
 refine a8 (cc mc) ?_;rw[aD V]
def DI:bQ->ab gF->Prop
 |_,[]=>True
 |w,a::l=>Mt w a/\DI (jf w a).1 l
def apH{w:bQ}{iz:ab gF}(h:DI w iz)(hl:T iz<=1000000):Tg (w.t,iz,())=J ((pR w iz).1.t,(pR w iz).2,()):=by
 unfold Tg;generalize hg:(λae=>(_:au<|aL (ab O×O×dR×aj)<|dR×ab O×aj))=F;have key:∀(l:ab gF) (i:R) (v:bQ) (e:ab O),iz.drop i=l->i<=T iz->T e=i->DI v l ->
   bG F (e,(i:O),v.t,())=J (.ex 0 (e++(pR v l).2,(T iz:O),(pR v l).1.t,())):=by
  intro l;induction l with
  |nil =>intro i v e a? ao aX a3;have cP:=d4 T a?;rw[dV,gM]at cP;have:i=T iz:=V;subst this;refine dr ?_;subst hg;refine a8 (cm aM5) ?_;show _=J (aL.ex 0 (e++[],(T iz:O),v.t,()));simp
  |cons a l ih=>
   intro i v e a? ao aX a3;have cP:=d4 T a?;rw[dV,gd]at cP;have bK:i<T iz:=V;have hx:iz[i]=a/\iz.drop (i+1)=l:=aK5
   have ej:i64 (aG (i:O) 1)=((i+1:R):O):=dK IS V;have:=ih (i+1) (jf v a).1 (e++[(jf v a).2]) hx.2 V (by rw[d7,aX];rfl) a3.2;rw[kL]at this;refine MN (dT ?_) this;subst hg;refine bA (cB aPC)<|a7 b2 ?_;rw[eO,nth_get bK,hx.1,ej];refine(bs<|DU a3.1).trans<|((c3 ?_));exact aPQ
 exact(cE<|key iz 0 w [] rfl (ea _) rfl h).trans<|(c3 g62)
def aGY:SN ()=J (Zc,()):=by unfold SN;rw[aba _ di];rfl
def avD(i:aE){key:ai}(aB:T key=32):H? (ez i,key,())=J ((H9 i key).t,0,()):=by
 have h:(aa (aK (ez i) 0) (J (af,())) (aa (aK 1<|ez i) (J (af,()))<|some (a2<|am (len key) 32,())):au<|Bool×aj)=J (ag,()):=aLo
 refine(bs h).trans<|(((bs aGY).trans ?_));rfl
def avC(i:aE){key:ai}(aB:¬T key=32):∃e,H? (ez i,key,())=J (e,1,()):=by
 have h:(aa (aK (ez i) 0) (J (af,())) (aa (aK 1<|ez i) (J (af,()))<|some (a2<|am (len key) 32,())):au<|Bool×aj)=J (af,()):=by have ak:a2 (am (len key) 32)=af:=ff (by show ¬(T key:O)=32;omega);rw[ak];cases i<;>rfl
 exact⟨_,(bs h).trans<|(bj rfl)⟩
def aHW{key:ai}(aB:T key=32)(mA:aE):AO (key,mA,())=J ((tR key mA).t,0,()):=by
 unfold AO;generalize hg:(λae=>(_:au<|aL (O×O×dR×aj)<|dR×O×aj))=F;have cI:∀(i:aE) (e:O) (W:dR),F (e,ez i,W,())=J (.nx (e,ez i+1,(cA W.1 (ah<|ez i) (H9 i key).t,W.2),())):=by intro i e W;subst hg;refine bA (cB (Ct i).2)<|(bs<|avD i aB).trans<|((a7 (pD i) ?_));cases i<;>rfl
 have dh:∀(e:O) (W:dR),F (e,2,W,())=J (.ex 0 (e,2,W,())):=λe W=>aLh
 refine(cE<|(dT<|cI ag 0 _).trans<|(dT<|cI af 0 _).trans<|dr<|dh _ _).trans<|(?_);rfl
def aHV{key:ai}(aB:¬T key=32)(mA:aE):∃W,AO (key,mA,())=J (W,1,()):=by
 unfold AO;dsimp only;generalize hg:(λ(ae:O×O×dR×aj)=>(_:au<|aL (O×O×dR×aj)<|dR×O×aj))=F;obtain⟨e,aX⟩:=avC ag aB;have cI:∀(z:O) (W:dR),∃b5,F (z,0,W,())=J (.rt (b5,1,())):=by intro z W;subst hg;exact⟨_,bA rfl<|aW (show H? (0,key,())=_ from aX)<|bj rfl⟩
 obtain⟨b5,hV⟩:=cI 0 _;exact⟨b5,(cE<|oY hV).trans rfl⟩
def JV:M:=(200,[],())
def Uz:ai:=iu JV
def ajC:iJ JV=af:=di
def aCT:PE (200,())=J (Uz,()):=by unfold PE;rw[show wv ((200,aI b5,()),())=wv (JV,()) from rfl,QO _ (uR ajC).2];rfl
def aqt:T Uz<=1200:=by have:=aH3 ajC;have h:(JV.2.1.map<|λv=>T v.2.1+2).sum=0:=rfl;show T (iu JV)<=1200;omega
def agI(l:ab gD)(hl:T l<=1500000000000):CX (l,l,())=J (af,()):=by
 unfold CX;generalize hg:(λae=>(_:au<|aL (aE×O×aj)<|Bool×aj))=F;refine a8 (eI rfl) ?_;have key:∀(r:ab gD) (i:R),l.drop i=r->i<=T l->∃j:O,bG F (ag,(i:O),())=J (.ex 0 (ag,j,())):=by
  intro r;induction r with
  |nil =>intro i a? ao;have cP:=d4 T a?;rw[dV,gM]at cP;refine⟨(i:O),dr ?_⟩;exact aNk
  |cons x r ih=>
   intro i a? ao;have cP:=d4 T a?;rw[dV,gd]at cP;have bK:i<T l:=V;have hx:l[i]=x/\l.drop (i+1)=r:=by
    rw[oE bK]at a?
    grind
   have ej:i64 (aG (i:O) 1)=((i+1:R):O):=dK rfl V;have aA:aO (i:O) (len l)=af:=b2;obtain⟨j,aF⟩:=ih (i+1) hx.2 V;refine⟨j,MN (dT ?_) aF⟩;subst hg;refine bA (cB aOe)<|a7 aA<|a7 aA ?_;rw[ej];refine aW (a:=(ag,())) ?_<|bf rfl;refine a8 (eI rfl)<|a7 aA<|a7 aA<|a8 (eI rfl)<|a7 aA<|a7 aA ?_;rw[pM];rw[At rfl];rfl
 obtain⟨j,aF⟩:=key l 0 rfl<|ea _;exact(cE<|aF).trans<|(c3 g62)
def apI{w:bQ}(h:fJ w):RR (w.t,w.t,())=J (af,()):=by
 have ee:RO (w.t,w.t,())=J (af,()):=by
  unfold RO;dsimp only;generalize hg:(λ(ae:aE×O×aj)=>(_:au<|aL (aE×O×aj)<|Bool×aj))=F;have cI:∀i:aE,F (ag,ez i,())=J (.nx (ag,ez i+1,())):=by
   intro i;have hs:=aGn (h.s i).e V;have aX:=agj (w.d8 i) aPE;have e1:ap w.t.1 (ah<|ez i) hJ=(w.e i).t:=aE_
   have bh:ap w.t.2.2.2.2.1 (ah<|ez i) (aI tZ)=w.d8 i:=aE_
   subst hg;refine bA (cB (Ct i).2)<|a7 (pD i)<|a7 (pD i) ?_;dsimp only;rw[e1,bh];refine aW hs<|a7 (pD i)<|a7 (pD i)<|aW aX ?_;exact aE_
  have dh:F (ag,2,())=J (.ex 0 (ag,2,())):=aLh
  refine(cE<|(dT<|cI ag).trans<|(dT<|cI af).trans<|dr dh).trans<|lc_ex'.trans<|a7 g62 ?_;refine aW (show CX (w.a',w.a',())=_ from agI w.a' aNs) ?_;refine aW (a:=(af,())) (bA rfl ?_) rfl;exact(bs<|show CX (w.old,w.old,())=_ from agI w.old aPS).trans rfl
 unfold RR;dsimp only;refine aW ee<|aW (a:=(af,())) (bA rfl ?_) rfl;exact(bs<|show KK (w.p,w.p,())=_ from aEb w.p aMl).trans rfl
def aB6(i:aE){key:ai}(aB:T key<=1000):sn 0 (H9 i key) where
 id:=by cases i;exact .inl rfl;exact .inr rfl
 key:=aB
 ph:=⟨aLg,by show(0:O)<=8;decide⟩
 store:=⟨Ky 1,wU⟩
 own:=(⟨di,di⟩:dv 0)
 oth:=(⟨di,di⟩:dv 0)
 seq:=(⟨di,di⟩:dv 0)
 ring:=.inl rfl
 up:=rfl
 next:=⟨aLg,by show(0:O)<4;decide⟩
 bV:=cx _
 got:=cx _
 ec:=rfl
 win:=rfl
 feed:=rfl
 life:=rfl
 queue:=aK4
 top:=⟨aLg,aPh⟩
 fd:=aiC
 askr:=.inl rfl
 outs:=λx hx=>by cases hx
def aCx{key:ai}(aB:T key<=1000)(mA:aE):hF<|tR key mA:=
 ⟨λi=>⟨0,aB6 i aB,cx _⟩,λ_=>rfl,λ_=>rfl,λf hf=>(by cases hf),λf hf=>(by cases hf)⟩
def acu{key:ai}(aB:T key<=1000)(mA:aE):k2 0 0<|tR key mA:=by
 refine⟨aCx aB mA,?_,?_⟩
 .have:i9 (tR key mA)=0:=rfl
  omega
 have:e' (tR key mA)=0:=rfl;omega
def k2.Ow{w:bQ}(h:k2 a r w)(b6:a<=41)(az:r<=66):wT w:=by
 have ak:=h.mono b6 az;have Y:=ak.Cs;have ac:=by have hL:=ak.L;omega
 exact⟨h.ok,V⟩
def Nx(l:ab gF):Prop:=∀a∈l,T a.2.2.2.2.1<=1200
def tE(a:gF):R:=if a.1=17 then(min a.2.2.1 100).toNat else 0
def wq:ab gF->R
 |[]=>0
 |a::l=>tE a+wq l
def aG8{w:bQ}{a:gF}(h:a.1=17):(jf w a).1=l' (tE a) w:=by
 unfold jf tE;rw[aD V,aD V,aD V,aD V,aD V,aD V,aD V,aH h];split
 .have:(min a.2.2.1 100).toNat=0:=V
  rw[this];rfl
 rfl
def aqz{w:bQ}(h:k2 a r w){x:gF}(ak:T x.2.2.2.2.1<=1200):k2 (a+1) (r+tE x) (jf w x).1:=by
 by_cases lQ:x.1=17
 .rw[aG8 lQ]
  exact(h.rS<|tE x).mono (Na a)<|cx _
 have:tE x=0:=aD lQ;rw[this];exact h.apR<|aG0 h.ok x ak lQ
def avZ{w:bQ}(h:k2 a r w)(b6:a<=41){x:gF}(az:r+tE x<=66)(ak:T x.2.2.2.2.1<=1200):Mt w x:=by refine⟨(h.Ow b6 V).kx,V,λlQ j aF => ?_⟩;have:tE x=(min x.2.2.1 100).toNat:=aH lQ;exact(h.rS j).Ow b6 V
def Wr:∀(l:ab gF) {a r:R} {w:bQ},k2 a r w->a+T l<=41->r+wq l<=66->Nx l->DI w l/\k2 (a+T l) (r+wq l) (pR w l).1
 |[],a,r,w,h,_,_,_=>⟨trivial,h⟩
 |x::l,a,r,w,h,b6,az,ak=>by
  rw[gd]at b6;have gq:r+(tE x+wq l)<=66:=az;have BI:=ak x<|M3 ..;obtain⟨b4,cz⟩:=Wr l (aqz h BI) V V<|λy bW=>ak y<|yO _ bW;refine⟨⟨avZ h V V BI,b4⟩,?_⟩;show k2 (a+(T l+1)) (r+(tE x+wq l)) (pR (jf w x).1 l).1
  grind
def aFq{w:bQ}(h:fJ w)(bN:h6 w)(a:gF)(aB:7<=a.1/\a.1<=10):RU (w.t,a,())=J ((jf w a).1.t,(jf w a).2,()):=by
 unfold RU jf;dsimp only;have k6:=h.a';have c1:(aa (bL 0 a.2.2.1) (J (aK a.2.2.1<|len w.a',())) (J (ag,())):au<|Bool×aj)=J (D<|0<=a.2.2.1/\a.2.2.1<(T w.a':O),()):=aLQ
 have c2:(aa (bL 0 a.2.2.1) (J (aK a.2.2.1<|len w.old,())) (J (ag,())):au<|Bool×aj)=J (D<|0<=a.2.2.1/\a.2.2.1<(T w.old:O),()):=aLQ
 refine aW (c1)<|aW (c2) ?_;by_cases eJ:a.1=7
 .grind [bj,ck,b3,bS,h9,al2,b1,bf,cc]
 rw[aD eJ];refine aW (bf<|cc eJ)<|a8 rfl ?_;by_cases cH:a.1=8
 .rw[aH cH]
  refine aW (bj<|ck cH) ?_;unfold s7;by_cases ax:0<=a.2.2.1/\a.2.2.1<(T w.a':O)
  .rw[bS ax,aD<|not_not_intro ax]
   obtain⟨N,fE⟩:∃N:R,a.2.2.1=(N:O):=⟨a.2.2.1.toNat,V⟩;rw[fE];exact bA rfl<|(bs<|show CZ (w.a',(N:O),())=_ from al3 V V).trans rfl
  grind [b1,bf,cc,b3]
 rw[aD cH];refine aW (bf<|cc cH)<|a8 rfl ?_;by_cases kO:a.1=9
 .rw[aH kO]
  refine aW (bj<|ck kO) ?_;unfold yX;by_cases ax:0<=a.2.2.1/\a.2.2.1<(T w.old:O)
  .rw[bS ax,aD<|not_not_intro ax]
   refine bA rfl<|a7 (by show aO a.2.2.1 (len w.old)=af;simp only[go_sem];exact ax) ?_;exact(bs<|show wx (w.a',ap w.old a.2.2.1.toNat mD,())=_ from RT _ _ V).trans rfl
  grind [b1,bf,cc,b3]
 rw[aD kO];refine aW (bf<|cc kO)<|a8 rfl ?_;have n_:a.1=10:=V;rw[aH n_];unfold Ax;by_cases ax:0<=a.2.2.1/\a.2.2.1<(T w.old:O)
 .rw[bS ax]
  have dP:aO a.2.2.1 (len w.old)=af:=by simp only[go_sem];exact ax
  have nF:=h.ok.old _<|Cr (show a.2.2.1.toNat<T w.old by omega);rw[show ap w.t.2.2.2.1 (ah a.2.2.1) dL=ap w.old a.2.2.1.toNat mD from rfl];generalize ap w.old a.2.2.1.toNat mD=f at nF;have Yd:(aa (am a.1 10) (aa af (aa (bL 0 a.2.2.2.1) (an (aO a.2.2.1<|len w.t.2.2.2.1)<|aa (aK a.2.2.2.1<|len f.2.2.1) (J (aK 0<|len a.2.2.2.2.1,()))<|some (ag,()))<|some (ag,()))<|some (ag,())) (J (ag,())):au<|Bool×aj) =
    J (D<|¬(¬(0<=a.2.2.2.1/\a.2.2.2.1<(T f.2.2.1:O))\/a.2.2.2.2.1=[]),()):=by
   refine bA (ck n_)<|bA rfl ?_;by_cases Y:0<=a.2.2.2.1
   .refine bA (il Y) (a7 dP ?_)
    by_cases ac:a.2.2.2.1<(T f.2.2.1:O)
    .refine bA (cB<|ac) ?_
     rw[g08];refine lZ ?_;constructor
     .rintro hx (bW|bW)
      .exact bW ⟨Y,ac⟩
      rw[bW]at hx;exact ev hx (by show ¬(0:O)<0;omega)
     intro hx;have:0<T a.2.2.2.2.1:=Nf.2 λbW=>hx<|.inr bW;show(0:O)<(T a.2.2.2.2.1:O);omega
    rw[b1<|not_not_intro<|.inl λk=>ac k.2];exact bf<|cm (ac)
   grind [b1,bf,jG]
  refine aW (Yd) ?_;by_cases ac:¬(0<=a.2.2.2.1/\a.2.2.2.1<(T f.2.2.1:O))\/a.2.2.2.2.1=[]
  .rw[b1<|not_not_intro ac,aH<|ac.elim (λh=>.inr<|.inl h)<|λh=>.inr<|.inr h];rfl
  have av:0<=a.2.2.2.1/\a.2.2.2.1<(T f.2.2.1:O):=sL.1 λh=>ac<|.inl h;have aJ:¬a.2.2.2.2.1=[]:=λh=>ac<|.inr h;have bv:0<T a.2.2.2.2.1:=Nf.2 aJ;rw[bS ac,aD (by rintro(h|h|h);exact h ax;exact h av;exact aJ h)];have hb1:aO a.2.2.2.1 (len<|bb (aI aN) f.2.2.1)=af:=by show aO a.2.2.2.1 (len f.2.2.1)=af;simp only[go_sem];exact av
  refine bA rfl<|a7 dP (a7 ?_<|a7 hb1<|a7 b2<|a7 hb1 ?_)
  .rw[g21];refine bS ?_;show(0+T f.2.2.1)*1<=_;have:=nF.2.2;omega
  rw[ acg];exact(bs<|show wx (w.a',(f.1,f.2.1,anR f.2.2.1 a.2.2.2.1.toNat<|ap a.2.2.2.2.1 0<|u8 0,()),())=_ from RT _ _ V).trans rfl
 rw[b1 ax,aH<|.inl ax];refine aW (bA (ck n_)<|bf rfl)<|bf rfl
def aFr{w:bQ}(h:fJ w)(c:O):RV (w.t,c,())=J ((wm w c).1.t,(wm w c).2,()):=by
 unfold RV wm;have hp:(aa (am (w.e ag).ph 8) (J (af,())) (an (aO 1<|bc 2)<|some (am (w.e af).ph 8,())):au<|Bool×aj)=J (D<|(w.e ag).ph=8\/(w.e af).ph=8,()):=AI
 refine aW (hp) ?_;by_cases cH:(w.e ag).ph=8\/(w.e af).ph=8
 .rw[bS cH,aH cH];rfl
 rw[b1 cH,aD cH];refine a8 rfl<|aW (N8 c) ?_;by_cases aC:iR c
 .rw[b1<|not_not_intro aC,aD<|not_not_intro aC]
  have aJ:aO c (bc 4)=af:=by unfold iR at aC;simp only[go_sem];exact aC
  refine a8 rfl<|a7 rfl<|a7 aJ ?_;have bq:(aa (ap (w.e ag).hub.1 (ah c) ag) (J (af,())) (an (aO 1<|bc 2)<|an (aO c<|bc 4)<|some (ap (w.e af).hub.1 (ah c) ag,())):au<|Bool×aj)=J (D<|ld (w.e ag).hub c\/ld (w.e af).hub c,()):=by
   unfold ld;rw[aJ,show ah c=c.toNat from rfl];cases ap (w.e ag).hub.1 c.toNat ag
   .cases ap (w.e af).hub.1 c.toNat ag
    .rw[b1 bP];rfl
    rw[bS<|.inr rfl];rfl
   rw[bS<|.inl rfl];rfl
  refine aW (bq) ?_;by_cases Y:ld (w.e ag).hub c\/ld (w.e af).hub c
  .rw[bS Y,aH Y];rfl
  rw[b1 Y,aD Y];generalize hg:(λ(ae:O×dR×aj)=>(_:au<|aL (O×dR×aj)<|dR×O×aj))=F;have cI:∀(w:bQ) (i:aE),fJ w->F (ez i,w.t,())=J (.nx (ez i+1,(rk w i c).t,())):=by intro w i bR;have az:=bR.EN (W3 (w.at i) (bR.s i).e.feed c) V V;subst hg;refine bA (cB (Ct i).2)<|aW (Lh w i)<|aW (aFh (bR.s i) V c)<|aW (bR.OS i _ az.1 az.2) ?_;cases i<;>rfl
  have dh:∀w:bQ,F (2,w.t,())=J (.ex 0 (2,w.t,())):=λw=>aLh
  obtain⟨b4,cz,dw⟩:=Qw h.ok ag c;refine(cE<|(dT<|cI w ag h).trans<|(dT<|cI _ af ⟨b4,i6 dw h.z⟩).trans<|dr<|dh _).trans ?_;exact lc_ex'.trans<|c3 g62
 rw[bS aC,aH aC];rfl
def aFl{w:bQ}(k:O)(h:∀j:R,(j:O)<k->wT (l' j w))(bN:h6 w)(aB:k<=1000000):RP (w.t,k,())=J ((l' k.toNat w).t,()):=by
 unfold RP;dsimp only;generalize hg:(λ(ae:O×dR×aj)=>(_:au<|aL (O×dR×aj)<|dR×aj))=F;have round:∀(i:R) (v:bQ),(i:O)<k->wT v->h6 v->F ((i:O),v.t,())=J (.nx (((i+1:R):O),(pP v).t,())):=by
  intro i v ao a3 v2;have ej:i64 (aG (i:O) 1)=((i+1:R):O):=dK IS V;subst hg;refine bA (cB ao) ?_;generalize dG:(λ(x:O×dR×aj)=>ob (aa (aK x.1 _) _ _) _)=G;generalize c6:(λ(x:O×dR×aj)=>aa (aK x.1 2) _ _)=H;have k6:=a3.kx.a';have H0:∀(n j:R) (u:bQ),j+n=T v.a'->hF u->h6 u->(n<=T u.a'\/u.a'=[])->20*e' u+4*(gC u+fB (u.a'.take n))<=19800000000000 ->
    ∃uD:O,bG G ((j:O),u.t,())=J (.ex 2 (uD,(lM n u).t,())):=by
   intro n;induction n with
   |zero =>intro j u aF bq aiP ax bN;refine⟨(j:O),dr ?_⟩;subst dG;exact aW (bf<|cm (by show ¬(j:O)<(T v.a':O);omega))<|bf rfl
   |succ n ih=>
    intro j u aF bq aiP ax bN;unfold lM;have bK:aK (j:O) (len v.a')=af:=cB (by show(j:O)<(T v.a':O);omega);by_cases aC:u.a'=[]
    .rw[aH aC]
     refine⟨(j:O),dr ?_⟩;subst dG;refine aW (a:=(ag,())) (bA bK ?_)<|bf rfl;show J (aK 0<|len u.a',())=_;rw[aC];rfl
    rw[aD aC];obtain⟨f,r,hf⟩:=Hr aC;have Jc:n<=T r:=by
     grind
    obtain⟨dN,fC,jd⟩:=ag5 bq hf Jc;obtain⟨uD,jE⟩:=ih (j+1) (h9 u 0 0).1 V dN (aiP.EM 0 0) fC V;refine⟨uD,MN (dT ?_) jE⟩;have vU:fJ u:=⟨bq,V⟩;have aIN:i64 (aG (j:O) 1)=((j+1:R):O):=dK aMF V;subst dG;refine aW (a:=(af,())) (bA bK ?_)<|bA rfl ?_
    .exact aLN
    grind [al2,b3]
  have axo:i9 v=fB v.a'+gC v+950*gn v:=rfl;have bN:=a3.z;obtain⟨j,aF⟩:=H0 (T v.a') 0 v (oD _) a3.ok v2 (.inl<|cx _) (by rw[qH];omega);obtain⟨d1,d2,d3⟩:=H2 (T v.a') a3.ok<|.inl<|cx _;rw[qH]at d3;have L0:∀(u:bQ) (i:aE),fJ u->H (ez i,u.t,())=J (.nx (ez i+1,(sC u i).t,())):=by intro u i bq;have az:=bq.EN (OV<|bq.s i) V V;subst c6;refine bA (cB (Ct i).2)<|aW (Lh u i)<|aW (al0 (bq.s i) V)<|aW (bq.OS i _ az.1 az.2) ?_;cases i<;>rfl
  have dh:∀u:bQ,H (2,u.t,())=J (.ex 4 (2,u.t,())):=λu=>by subst c6;exact bf rfl
  refine(cE<|aF).trans<|lc_ex'.trans<|a7 g62 ?_;have f1:fJ<|lM (T v.a') v:=⟨d1,V⟩;obtain⟨e_,fP,qt⟩:=S3 d1 ag;have f2:fJ<|sC (lM (T v.a') v) ag:=⟨e_,V⟩;refine(cE<|(dT<|L0 _ ag f1).trans<|(dT<|L0 _ af f2).trans<|dr<|dh _).trans<|lc_ex'.trans<|a7 g62 ?_;rw[ej];rfl
 have VH:∀(j:R) (v:bQ),pP (l' j v)=l' (j+1) v:=by
  intro j;exact aNe
 have run:∀(m j:R),j+m=k.toNat->bG F ((j:O),(l' j w).t,())=J (.ex 0 ((k.toNat:O),(l' k.toNat w).t,())):=by
  intro m;induction m with
  |zero =>intro j aF;have:j=k.toNat:=V;subst this;refine dr ?_;subst hg;exact bf<|cm V
  |succ m ih =>intro j aF;refine MN (dT ?_)<|ih (j+1) V;rw[round j _ V (h j V)<|bN.rS j,VH]
 exact(cE<|run k.toNat 0<|oD _).trans<|lc_ex'.trans (c3 g62)
def aFo{w:bQ}{a:gF}(h:Mt w a)(bN:h6 w):RS (w.t,a,())=J ((jf w a).1.t,(jf w a).2,()):=by
 unfold RS;dsimp only;have dh:(aa (am a.2.1 0) (J (af,())) (J (am a.2.1 1,())):au<|Bool×aj)=J (D<|a.2.1=0\/a.2.1=1,()):=If
 have ay6:(aa (bL 7 a.1) (J (bL a.1 10,())) (J (ag,())):au<|Bool×aj)=J (D<|7<=a.1/\a.1<=10,()):=If
 refine(bs dh).trans<|(b3 rfl).trans<|(bs ay6).trans<|(b3 rfl).trans ?_;dsimp only;by_cases ax:7<=a.1/\a.1<=10
 .rw[bS ax]
  exact(bj rfl).trans<|(bs<|aFq h.kx bN a ax).trans rfl
 rw[b1 ax];unfold jf;rw[aD<|show ¬a.1=7 by omega,aD<|show ¬a.1=8 by omega,aD<|show ¬a.1=9 by omega,aD<|show ¬a.1=10 by omega];by_cases xo:a.1=12
 .rw[aD<|show ¬a.1=11 by omega,aH xo]
  exact(bj<|ck xo).trans<|(bs<|aFr h.kx a.2.2.1).trans rfl
 refine(bf<|cc xo).trans ?_;rw[aD xo];by_cases zk:a.1=13
 .rw[aD<|show ¬a.1=11 by omega,aH zk]
  have aA:(aa (am a.1 13) (aa (bL 0 a.2.2.1) (J (bL a.2.2.1 3,()))<|some (ag,())) (J (ag,())):au<|Bool×aj)=J (D<|iR a.2.2.1,()):=by
   grind [bj,ck,iR,g09,bf,jG]
  refine(bs aA).trans<|(b3 rfl).trans ?_;unfold vD;by_cases aC:iR a.2.2.1
  .rw[bS aC,aD<|not_not_intro aC]
   exact(bj rfl).trans<|(bs<|al1 w _ (by have:=h.kx.a';omega)).trans rfl
  grind [bf,cc,b3,bj,il,jG]
 rw[aD zk];refine(bs<|bf<|cc zk).trans<|(b3 rfl).trans<|(bf rfl).trans ?_;by_cases lQ:a.1=17
 .rw[aD<|show ¬a.1=11 by omega,aH lQ]
  refine(bs<|bj<|ck lQ).trans<|(b3 rfl).trans ?_;by_cases aC:a.2.2.1<0
  .grind [bf,jG,cc,b3,bj,il]
  rw[aD aC];refine(bj<|il V).trans ?_;have:=h.rS lQ;rw[g57];exact(bs<|aFl (min a.2.2.1 100) (λj aF=>this j V) bN V).trans rfl
 rw[aD lQ];refine(bs<|bf<|cc lQ).trans<|(b3 rfl).trans<|(bf rfl).trans ?_;by_cases nA:a.1=11
 .rw[aH nA]
  refine(bs<|bj<|ck nA).trans<|(b3 rfl).trans ?_;unfold zH;by_cases aC:0<=a.2.1/\a.2.1<2
  .rw[aD<|not_not_intro aC,bS<|show a.2.1=0\/a.2.1=1 by omega]
   have:=aaF h.kx bN (mM a.2.1) a.2.2.1 h.b;rw[zZ V]at this;exact(bj rfl).trans<|(bs this).trans rfl
  grind [b1,bf,b3,il,jG]
 rw[aD nA];refine(bs<|bf<|cc nA).trans<|(b3 rfl).trans<|(bf rfl).trans ?_;have O5:(aa (bL 0 a.1) (aa (bL a.1 6) (J (D<|a.2.1=0\/a.2.1=1,()))<|aa (bL 14 a.1) (aa (bL a.1 16) (J (D<|a.2.1=0\/a.2.1=1,()))<|some (ag,()))<|some (ag,())) (aa (bL 14 a.1) (aa (bL a.1 16) (J (D<|a.2.1=0\/a.2.1=1,()))<|some (ag,()))<|some (ag,())):au<|Bool×aj) =
   J (D<|(0<=a.1/\a.1<=6\/14<=a.1/\a.1<=16)/\(a.2.1=0\/a.2.1=1),()):=by
  grind [bj,il,bf,jG]
 refine(bs O5).trans<|(b3 rfl).trans ?_;unfold sV;by_cases aB:0<=a.1/\a.1<=6\/14<=a.1/\a.1<=16
 .rw[aH aB]
  by_cases aC:0<=a.2.1/\a.2.1<2
  .rw[aD<|not_not_intro aC,bS<|show(0<=a.1/\a.1<=6\/14<=a.1/\a.1<=16)/\(a.2.1=0\/a.2.1=1) from⟨aB,V⟩]
   have e:=zZ (n:=a.2.1) V;generalize mM a.2.1=i at e;rw[<- e];have hg:=h.kx.EN (W0 (h.kx.s i) a) V V;refine(bj rfl).trans<|(bs<|Lh w i).trans<|(b3 rfl).trans<|(bs<|aFf (h.kx.s i) V a h.b).trans<|(b3 rfl).trans ?_;exact(bs<|h.kx.OS i _ hg.1 hg.2).trans rfl
  rw[aH aC,b1<|λk=>aC V];rfl
 rw[aD aB,b1<|λk=>aB k.1];rfl
def aFn{w:bQ}{iz:ab gF}(h:DI w iz)(bN:h6 w)(hl:T iz<=1000000):Le (w.t,iz,())=J ((pR w iz).1.t,(pR w iz).2,()):=by
 unfold Le;generalize hg:(λ(ae:ab O×O×dR×aj)=>(_:au<|aL (ab O×O×dR×aj)<|dR×ab O×aj))=F;have key:∀(l:ab gF) (i:R) (v:bQ) (e:ab O),iz.drop i=l->i<=T iz->T e=i->DI v l->h6 v ->
   bG F (e,(i:O),v.t,())=J (.ex 0 (e++(pR v l).2,(T iz:O),(pR v l).1.t,())):=by
  intro l;induction l with
  |nil =>intro i v e a? ao aX a3 v2;have cP:=d4 T a?;rw[dV,gM]at cP;have:i=T iz:=V;subst this;refine dr ?_;subst hg;refine a8 (cm aM5) ?_;show _=J (aL.ex 0 (e++[],(T iz:O),v.t,()));rw[g?]
  |cons a l ih=>
   intro i v e a? ao aX a3 v2;have cP:=d4 T a?;rw[dV,gd]at cP;have bK:i<T iz:=V;have hx:iz[i]=a/\iz.drop (i+1)=l:=aK5
   have ej:i64 (aG (i:O) 1)=((i+1:R):O):=dK IS V;have:=ih (i+1) (jf v a).1 (e++[(jf v a).2]) hx.2 V (by rw[d7,aX];rfl) a3.2<|v2.step a;rw[kL]at this;refine MN (dT ?_) this;subst hg;refine bA (cB aPC)<|a7 b2 ?_;rw[eO,nth_get bK,hx.1,ej];refine aW (aFo a3.1 v2)<|a7 ?_ rfl;exact aPQ
 exact(cE<|key iz 0 w [] rfl (ea _) rfl h bN).trans<|lc_ex'.trans (c3 g62)
def aFm{key:ai}(aB:T key=32)(mA:aE):aaE (key,mA,())=J ((tR key mA).t,0,()):=by
 have ax:∀i:aE,RL (ez i,key,())=J ((H9 i key).t,0,()):=by
  intro i;have h:(aa (aK (ez i) 0) (J (af,())) (aa (aK 1<|ez i) (J (af,()))<|some (a2<|am (len key) 32,())):au<|Bool×aj)=J (ag,()):=aLo
  refine aW h<|a8 rfl<|(bs aEE).trans ?_;rfl
 refine a8 (eI (by show(T key:O)=32;omega))<|aW (ax ag)<|aW (ax af) ?_;exact(b3 (o:=aal (mA,())) rfl).trans rfl
def aJ6(c:ab O)(x y z:O):UB (UB c<|i64<|y-x) (i64<|z-y)=UB c (i64<|z-x):=by
 cases c with
 |nil=>rfl
 |cons a l=>
  show i64 (i64 (a+i64 (y-x))+i64 (z-y))::l=i64 (a+i64 (z-x))::l;have k:∀p q:O,i64 (p+i64 q)=i64 (p+q):=λp q=>by rw[Int.add_comm,az4,Int.add_comm]
  rw[az4,k,show a+i64 (y-x)+(z-y)=a+(z-y)+i64 (y-x) by omega,k,k,show a+(z-y)+(y-x)=a+(z-x) by omega]
def aJT{l:ab α}(h:k<T l)(x d:α):ap (cA l k x) k d=x:=by unfold ap cA;rw[nr,List.getElem?_set_self h];rfl
def aJX{h:f8}(aA:iR c)(bq:ld h c)(b:ai):fL h c b=((h.1,cA h.2.1 c.toNat (hn (ap h.2.1 c.toNat iG) b).1,h.2.2),(hn (ap h.2.1 c.toNat iG) b).2,0):=by unfold fL;rw[aD<|not_not_intro aA,aD<|not_not_intro bq]
def au3{s:aU}(h:¬(iR c/\ld s.e.hub c))(b:ai):p4 s c b=s:=by
 unfold p4;rw[aH];unfold fL;by_cases aA:iR c
 .rw[aD<|not_not_intro aA,aH<|λbq=>h ⟨aA,bq⟩];show ¬(11:O)=0;decide
 rw[aH aA];show ¬(1:O)=0;decide
def au5{s:aU}(aA:iR c)(bq:ld s.e.hub c)(b:ai):p4 s c b=qX (s9 s c b) (hn (ap s.e.hub.2.1 c.toNat iG) b).2:=by unfold p4;rw[aJX aA bq];exact aD (by show ¬ ¬(0:O)=0;decide)
def aJA{s:aU}(aA:iR c)(bq:ld s.e.hub c)(hl:c.toNat<T s.e.hub.2.1)(b:ai):s9 s c b =
  YO s (J (cA s.e.hub.2.1 c.toNat (hn (ap s.e.hub.2.1 c.toNat iG) b).1,i64<|(hn (ap s.e.hub.2.1 c.toNat iG) b).1.2.2.1-(ap s.e.hub.2.1 c.toNat iG).2.2.1)) []:=by
 unfold s9;rw[aJX aA bq];rw[aJT hl];rfl
def aKx(s:aU)(F G:ab j6)(x y:O)(z:O)(h:∀c,UB (UB c x) y=UB c z):YO (YO s (J (F,x)) []) (J (G,y)) []=YO s (J (G,z)) []:=by unfold YO apN arZ aIb;dsimp only;rw[h];rfl
def aJ3{s:aU}(hs:bJ n s)(c:O)(a b:ai)(h:¬(p4 s c a).e.ph=8):p4 s c (a++b)=p4 (p4 s c a) c b:=by
 by_cases px:iR c/\ld s.e.hub c
 .obtain⟨aA,bq⟩:=px
  have hl:c.toNat<T s.e.hub.2.1:=by rw[hs.e.feed];unfold iR at aA;omega
  rw[au5 aA bq]at h;rw[au5 aA bq,au5 aA bq,aJA aA bq hl,aJW a (hs.e.fd _) b];rw[aJA aA bq hl]at h ⊢;generalize aKy:ap s.e.hub.2.1 c.toNat iG=f0 at h;generalize XC:hn f0 a=e9 at h;generalize I3:hn e9.1 b=gK;rw[aJM,<- aKx s (cA s.e.hub.2.1 c.toNat e9.1) _ (i64<|e9.1.2.2.1-f0.2.2.1) (i64<|gK.1.2.2.1-e9.1.2.2.1) _ (λc=>aJ6 c _ _ _)];obtain⟨b4,cz⟩:=aJO (J (cA s.e.hub.2.1 c.toNat gK.1,i64<|gK.1.2.2.1-e9.1.2.2.1)) [] e9.2 _ h;rw[b4];generalize qX (YO s (J (cA s.e.hub.2.1 c.toNat e9.1,i64<|e9.1.2.2.1-f0.2.2.1)) []) e9.2=x at cz;obtain⟨cn,cR⟩:=TG cz;replace cR:x.e.hub.2.1=cA s.e.hub.2.1 c.toNat e9.1:=cR;have aJR:ld x.e.hub c:=by unfold ld;rw[cn];exact bq
  have Jd:c.toNat<T x.e.hub.2.1:=by rw[cR];unfold cA;rw[jj];exact hl
  have ax:ap x.e.hub.2.1 c.toNat iG=e9.1:=by rw[cR];exact aJT hl _ _
  rw[au5 aA aJR,aJA aA aJR Jd,ax,I3,cR,show cA (cA s.e.hub.2.1 c.toNat e9.1) c.toNat gK.1=cA s.e.hub.2.1 c.toNat gK.1 from List.set_set ..]
 rw[au3 px,au3 px,au3 px]
def aJz{w:bQ}(a?:g2 w)(h:(w.e i).ph=8)(c:O)(b:ai):p4 (w.at i) c b=w.at i:=by refine au3 (λbq => ?_) b;have Y:ap (w.e i).hub.1 c.toNat ag=af:=bq.2;rw[a?.dn i h i]at Y;have aA:=bq.1;unfold iR at aA;rcases(by omega:c.toNat=0\/c.toNat=1\/c.toNat=2\/c.toNat=3) with e|e|e|e<;>rw[e]at Y<;>cases Y
def ap4{w:bQ}(h:∀f∈w.a',0<=f.2.1/\f.2.1<4):(t_ w).a'=[]:=by show(((w.a'.filter _).filter _).filter _).filter _=[];rw[yP,yP,yP];refine Hb.2 λf hf => ?_;have:=h f hf;simp;omega
def aKu{l:ab gD}(k:R)(x:gD):(l.set k x).eraseIdx k=l.eraseIdx k:=by grind
def aJU{w:bQ}(bR:hF w)(a?:g2 w)(aB:k<T w.a'){m:O}(aC:0<m)(hm:m<((ap w.a' k mD).2.2.1.length:O))
  (cP:(h9 w k m).1.a'.length=T w.a'):h9 (h9 w k m).1 k 0=h9 w k 0:=by
 have dP:¬ ¬(0<=(k:O)/\(k:O)<(T w.a':O)):=not_not_intro ⟨V,V⟩;have g0:h9 w k 0=(lj { w with a':=w.a'.eraseIdx k } (mM (ap w.a' k mD).1) (ap w.a' k mD).2.1 (ap w.a' k mD).2.2.1,0):=by unfold h9;rw[aD dP];rw[ie,aD<|λh=>ev h.1 V]
 have aKg:h9 w k m=(lj { w with a':=w.a'.set k ((ap w.a' k mD).1,(ap w.a' k mD).2.1,(ap w.a' k mD).2.2.1.drop m.toNat,()) } (mM (ap w.a' k mD).1) (ap w.a' k mD).2.1 ((ap w.a' k mD).2.2.1.take m.toNat),0):=by unfold h9;rw[aD dP];rw[ie,aH ⟨aC,hm⟩]
 rw[aKg]at cP ⊢;rw[g0];generalize hf:ap w.a' k mD=f at hm cP ⊢;generalize hX:mM f.1=i at cP ⊢;have k6:∀x∈w.a'.set k (f.1,f.2.1,f.2.2.1.drop m.toNat,()),0<=x.2.1/\x.2.1<4:=λx hx=>by
  rcases A3 hx with hx|hx
  .exact(bR.a' x hx).2.1
  subst hx;have:f∈w.a':=by rw[<- hf,nth_get aB];exact j7 aB
  exact(bR.a' f this).2.1
 have lu:T (w.a'.set k (f.1,f.2.1,f.2.2.1.drop m.toNat,()))=T w.a':=jj;have aJP:∀y:bQ,y.a'=w.a'.set k (f.1,f.2.1,f.2.2.1.drop m.toNat,())->h9 y k 0=(lj { y with a':=w.a'.eraseIdx k } i f.2.1 (f.2.2.1.drop m.toNat),0):=by intro y bW;unfold h9;rw[aD (by rw[bW,lu];exact dP)];rw[ie,bW,nth_get (by rw[lu];exact aB),M_,aD<|λh=>ev h.1 V,aKu,hX]
 by_cases cH:(w.e i).ph=8
 .have e1:lj { w with a':=w.a'.set k (f.1,f.2.1,f.2.2.1.drop m.toNat,()) } i f.2.1 (f.2.2.1.take m.toNat)={ w with a':=w.a'.set k (f.1,f.2.1,f.2.2.1.drop m.toNat,()) }:=by unfold lj;rw[show p4 (bQ.at { w with a':=w.a'.set k (f.1,f.2.1,f.2.2.1.drop m.toNat,()) } i) f.2.1 (f.2.2.1.take m.toNat)=w.at i from aJz a? cH _ _];exact awL { w with a':=w.a'.set k (f.1,f.2.1,f.2.2.1.drop m.toNat,()) } i (bR.bV i) (bR.got i)
  rw[e1,aJP _ rfl];unfold lj;rw[show p4 (bQ.at { w with a':=w.a'.eraseIdx k } i) f.2.1 (f.2.2.1.drop m.toNat)=w.at i from aJz a? cH _ _,show p4 (bQ.at { w with a':=w.a'.eraseIdx k } i) f.2.1 f.2.2.1=w.at i from aJz a? cH _ _]
 have hx:tu<|p4 (w.at i) f.2.1<|f.2.2.1.take m.toNat:=aB7 (bR.s i) _ _;have a4:f.2.2.1=f.2.2.1.take m.toNat++f.2.2.1.drop m.toNat:=(ML ..).symm;have hp:¬(p4 (w.at i) f.2.1<|f.2.2.1.take m.toNat).e.ph=8->p4 (w.at i) f.2.1 f.2.2.1=p4 (p4 (w.at i) f.2.1<|f.2.2.1.take m.toNat) f.2.1 (f.2.2.1.drop m.toNat):=λh=>by
  obtain⟨n,ax⟩:=bR.s i
  conv=>lhs;rw[a4]
  exact aJ3 ax f.2.1 _ _ h
 unfold lj at cP ⊢;rw[show bQ.at { w with a':=w.a'.set k (f.1,f.2.1,f.2.2.1.drop m.toNat,()) } i=w.at i from rfl]at cP ⊢;rw[show bQ.at { w with a':=w.a'.eraseIdx k } i=w.at i from rfl];generalize p4 (w.at i) f.2.1 (f.2.2.1.take m.toNat)=x at cP hp hx ⊢;by_cases aHE:x.e.ph=8
 ·
  unfold f? at cP;rw[aH ⟨aHE,cH⟩,ap4<|λg hg => ?_]at cP
  .rw[gM]at cP;omega
  rcases i7.1 hg with hg|hg
  .exact k6 g hg
  obtain⟨y,bW,rfl⟩:=DR.1 hg;obtain⟨n,ax⟩:=hx;exact(ax.e.outs y bW).1
 rw[hp aHE];have e1:f? { w with a':=w.a'.set k (f.1,f.2.1,f.2.2.1.drop m.toNat,()) } i x=h8 { w with a':=w.a'.set k (f.1,f.2.1,f.2.2.1.drop m.toNat,()) } i x:=aD<|λh=>aHE h.1;rw[e1]at cP ⊢;have bg:x.e.bV=[]:=by have hl:T (w.a'.set k (f.1,f.2.1,f.2.2.1.drop m.toNat,())++x.e.bV.map (iH i))=T w.a':=cP;rw[d7,lu,qJ]at hl;exact yJ V
 have bW:(h8 { w with a':=w.a'.set k (f.1,f.2.1,f.2.2.1.drop m.toNat,()) } i x).a'=w.a'.set k (f.1,f.2.1,f.2.2.1.drop m.toNat,()):=by show w.a'.set k (f.1,f.2.1,f.2.2.1.drop m.toNat,())++x.e.bV.map (iH i)=_;rw[bg];exact g? _
 rw[aJP _ bW];have aKm:(h8 { w with a':=w.a'.set k (f.1,f.2.1,f.2.2.1.drop m.toNat,()) } i x).old=w.old:=by show w.old++x.e.bV.map (iH i)=_;rw[bg];exact g? _
 have zp:(h8 { w with a':=w.a'.set k (f.1,f.2.1,f.2.2.1.drop m.toNat,()) } i x).at i=⟨{ x.e with bV:=[],got:=[] },x.p⟩:=by show(⟨ho w.e i _ i,x.p⟩:aU)=_;unfold ho;rw[aH rfl]
 have aI5:x=YO ⟨{ x.e with bV:=[],got:=[] },x.p⟩ aq x.e.got:=by show x=⟨{ x.e with bV:=[],got:=x.e.got++[] },x.p⟩;rw[g?,<- bg]
 unfold lj;rw[show bQ.at { h8 { w with a':=w.a'.set k (f.1,f.2.1,f.2.2.1.drop m.toNat,()) } i x with a':=w.a'.eraseIdx k } i=(h8 { w with a':=w.a'.set k (f.1,f.2.1,f.2.2.1.drop m.toNat,()) } i x).at i from rfl,zp]
 conv=>rhs;rw[aI5,aJ2]
 generalize p4 ⟨{ x.e with bV:=[],got:=[] },x.p⟩ f.2.1 (f.2.2.1.drop m.toNat)=z;have aKb:((h8 { w with a':=w.a'.set k (f.1,f.2.1,f.2.2.1.drop m.toNat,()) } i x).e i).ph=x.e.ph:=by rw[EK]
 have avt:h8 { h8 { w with a':=w.a'.set k (f.1,f.2.1,f.2.2.1.drop m.toNat,()) } i x with a':=w.a'.eraseIdx k } i z=h8 { w with a':=w.a'.eraseIdx k } i (YO z aq x.e.got):=by
  have dN:∀a b,ho (ho w.e i a) i b=ho w.e i b:=λa b=>by funext j;unfold ho;split<;>rfl
  have fC:ho (ho w.d8 i<|w.d8 i++x.e.got) i (ho w.d8 i (w.d8 i++x.e.got) i++z.e.got)=ho w.d8 i (w.d8 i++(x.e.got++z.e.got)):=by
   funext j;unfold ho;split
   .rw[aH rfl,kL]
   rfl
  show(⟨ho (ho w.e i _) i _,z.p,w.a'.eraseIdx k++z.e.bV.map (iH i),(h8 { w with a':=w.a'.set k (f.1,f.2.1,f.2.2.1.drop m.toNat,()) } i x).old++z.e.bV.map (iH i),_⟩:bQ)=⟨ho w.e i _,z.p,w.a'.eraseIdx k++z.e.bV.map (iH i),w.old++z.e.bV.map (iH i),_⟩;rw[dN,aKm];exact d4 (bQ.mk _ _ _ _) fC
 unfold f?;rw[avt];by_cases bN:z.e.ph=8
 .rw[aH ⟨bN,by show ¬((h8 _ i x).e i).ph=8;rw[aKb];exact aHE⟩,aH ⟨bN,cH⟩]
 rw[aD<|λh=>bN h.1,aD<|λh=>bN h.1]
def Ba:ai:=List.replicate 32<|u8 0
def Ng:T Ba=32:=wU
def Nh:ab gF:=[(12,0,0,0,[],()),(1,0,0,0,[],()),(17,0,4,0,[],()),(0,1,0,0,Uz,())]
def xZ:(λr:bQ×ab O=>(r.2,T r.1.a',(r.1.e ag).ph,(r.1.e af).ph,(h9 r.1 0 0).2,(h9 r.1 0 0).1.a'.length,((h9 r.1 0 0).1.d8 ag).map (·.1))) (pR (tR Ba af) Nh)=([0,0,0,0],1,3,3,0,0,[4,2]):=BY
def aGG:PF ()=J (af,()):=by
 obtain⟨az,ak⟩:=Wr Nh (acu (show T Ba<=1000 by rw[Ng];omega) af) (show 0+4<=41 by omega) (show 0+(0+(0+(4+(0+0))))<=66 by omega) (by intro a b6;simp only[Nh,mU,DL,or_false]at b6;rcases b6 with rfl|rfl|rfl|rfl<;>first|exact aqt|simp)
 have hs:=apH az (show 4<=1000000 by omega);have m:=xZ;generalize pR (tR Ba af) Nh=r at m hs ak;obtain⟨w,l⟩:=r;simp only[mV]at m;obtain⟨rfl,hf,aC,Y,g0,b0,bT⟩:=m;have XE:fJ w:=(ak.Ow (show 4<=41 by omega)<|show 4<=66 by omega).kx;dsimp only at hs;have q3:fJ { w with a':=[] }:=Ik XE (λf hf=>by cases hf)<|ea _;have d0:s7 w 0=({ w with a':=[] },0):=by unfold s7;rw[aD V,show w.a'.eraseIdx (Int.toNat 0)=[] from List.eraseIdx_eq_nil_iff.2<|.inr ⟨hf,rfl⟩]
 have aGh:rz (w.t,(7,0,0,0,aI aN,()),())=J ((h9 w 0 0).1.t,(h9 w 0 0).2,()):=DU (a:=(7,0,0,0,[],())) ⟨XE,bP,λh=>by cases h⟩;have amy:rz (w.t,(8,0,0,0,aI aN,()),())=J ((s7 w 0).1.t,(s7 w 0).2,()):=DU (a:=(8,0,0,0,[],())) ⟨XE,bP,λh=>by cases h⟩;have aGi:rz ((({ w with a':=[] }:bQ).t),(8,0,0,0,aI aN,()),())=J ((({ w with a':=[] }:bQ).t),12,()):=DU (a:=(8,0,0,0,[],())) ⟨q3,bP,λh=>by cases h⟩;have aA:G0 ((({ w with a':=[] }:bQ).t),0,())=J (({ w with a':=[] }:bQ).t,()):=acw (w:={ w with a':=[] }) 0 (λj aF=>V) V;obtain⟨b5,hV⟩:=aHV (key:=[]) bP af;rw[d0]at amy;unfold PF;refine(c3 rfl).trans<|(bs<|show AO (cb (ah 32)<|u8 0,af,())=_ from aHW Ng af).trans<|(bs hV).trans<|(bs aCT).trans<|(bs hs).trans<|(bs aGh).trans<|(bs amy).trans<|(b3 rfl).trans<|(bs aGi).trans ?_;have gZ:len w.t.2.2.1=1:=d4 Int.ofNat hf;have iE:len ((h9 w 0 0).1.d8 ag)=2:=by have:=d4 T bT;rw[qJ]at this;exact d4 Int.ofNat this
 have zM:(ap ((h9 w 0 0).1.d8 ag) 1 (0,[0,0],0,[],())).1=2:=by rcases h:(h9 w 0 0).1.d8 ag with _|⟨a,_|⟨b,t⟩⟩<;>rw[h]at bT<;>simp at bT;exact bT.2.1
 have JM:len (h9 w 0 0).1.t.2.2.1=0:=d4 Int.ofNat b0;refine(b3 rfl).trans<|(b3 (a:=(ag,()))<|(bf rfl).trans<|(bf (show a2 (am (len w.t.2.2.1) 1)=ag by rw[gZ];rfl)).trans<|(c3 rfl).trans (show J (a2<|am (len<|(h9 w 0 0).1.d8 ag) 2,())=_ by rw[iE];rfl)).trans<|(bf rfl).trans<|(b3 (a:=(af,())) ?_).trans rfl;refine(bj rfl).trans<|(bj rfl).trans<|(c3 rfl).trans<|(bj rfl).trans<|(c3 rfl).trans<|(bj rfl).trans<|(c3 rfl).trans<|(bj<|ck aC).trans<|(c3 rfl).trans<|(bj<|ck Y).trans<|(bj<|ck g0).trans<|(bj<|ck JM).trans<|(c3 rfl).trans ?_;refine(c3 (show aO 1 (len<|(h9 w 0 0).1.d8 ag)=af by rw[iE];rfl)).trans<|(bj<|ck zM).trans ((bj rfl).trans<|(bj rfl).trans<|(bj rfl).trans<|(bs aA).trans<|(b3 rfl).trans<|(bs<|apI q3).trans rfl)
def apF(l:ab gF)(n:R)(ax:n<=1000):∃b:aE,RQ (l,(n:O),())=J (b,())/\(b=af->T l<=n/\Nx l/\wq l<=60):=by
 unfold RQ;by_cases aC:(n:O)<(T l:O)
 .exact⟨ag,bj<|cB aC,λh=>by cases h⟩
 generalize hg:(λae=>(_:au<|aL (O×aE×O×aj)<|Bool×aj))=F;have Pb:T l<=n:=V;have key:∀(r:ab gF) (i c:R),l.drop i=r->i<=T l->c<=6 ->
   bG F ((c:O),ag,(i:O),())=J (.rt (ag,()))\/∃z j:O,bG F ((c:O),ag,(i:O),())=J (.ex 0 (z,ag,j,()))/\Nx r/\wq r+10*c<=60:=by
  intro r;induction r with
  |nil =>intro i c a? ao aA;have cP:=d4 T a?;rw[dV,gM]at cP;refine .inr ⟨(c:O),(i:O),dr ?_,λa b6=>(by cases b6),show 0+10*c<=60 by omega⟩;exact aNk
  |cons x r ih=>
   intro i c a? ao aA;have cP:=d4 T a?;rw[dV,gd]at cP;have bK:i<T l:=V;have hx:l[i]=x/\l.drop (i+1)=r:=aK5
   have ej:i64 (aG (i:O) 1)=((i+1:R):O):=dK IS V;have m8:i64 (aG (c:O) 1)=((c+1:R):O):=dK (by show(c:O)+1=_;omega) V;have dP:aO (i:O) (len l)=af:=b2;have dY:F ((c:O),ag,(i:O),())=(aa (aK 1200<|len x.2.2.2.2.1) (J<|.rt (ag,())) (ob (aa (am x.1 17) (J (((c+1:R):O),()))<|some ((c:O),())) λa=>
     ob (aa (am x.1 17) (aa (aK 10 x.2.2.1) (J (af,()))<|some (aK 6 a.1,()))<|some (aK 6 a.1,())) λa5=>aa a5.1 (J<|.rt (ag,()))<|some<|.nx (a.1,ag,((i+1:R):O),()))):=by
    subst hg;refine bA (cB aOe)<|a7 dP ?_;rw[eO,nth_get bK,hx.1,ej,m8,dP];rfl
   by_cases ak:1200<T x.2.2.2.2.1
   .exact .inl (oY<|dY.trans<|bj<|cB (by show(1200:O)<(T x.2.2.2.2.1:O);omega))
   replace dY:=dY.trans<|bf<|cm (by show ¬(1200:O)<(T x.2.2.2.2.1:O);omega);by_cases lQ:x.1=17
   .replace dY:=dY.trans ((bs<|bj<|ck lQ).trans<|b3 rfl)
    by_cases n_:10<x.2.2.1
    .exact .inl (oY<|dY.trans<|(bs<|bA (ck lQ)<|bj<|cB n_).trans<|(bj rfl))
    replace dY:=dY.trans<|(bs<|bA (ck lQ)<|bf<|cm n_).trans<|b3 rfl;by_cases c_:6<((c+1:R):O)
    .grind [oY,bj,cB]
    replace dY:=dY.trans<|bf<|cm c_;rcases ih (i+1) (c+1) hx.2 V V with h|⟨z,j,Y,ac,av⟩
    .grind [dT]
    exact aLv
   replace dY:=dY.trans<|(bs<|bf<|cc lQ).trans<|b3 rfl;have c_:¬6<(c:O):=V;replace dY:=dY.trans<|(bs<|bf<|cc lQ).trans<|(bf<|cm c_);rcases ih (i+1) c hx.2 V aA with h|⟨z,j,Y,ac,av⟩
   .grind [dT]
   exact aLv
 rcases key l 0 0 rfl (ea _) (ea _) with h|⟨z,j,Y,ac,av⟩
 .exact⟨ag,a8 (cm aC)<|(cE h),λh=>by cases h⟩
 exact⟨af,a8 (cm aC)<|(cE Y).trans<|(c3 g62),λ_=>⟨Pb,ac,V⟩⟩
def ajM(c:aN)(hm:0<m):cY (i64<|aV c) (m:O)=((c.toNat%m:R):O):=by
 have aA:=c.toNat_lt
 grind [fF,Ir,g32]
abbrev aox:aw:=.pair (.int .i64)<|.pair (.int .i64) (.pair (.int .i64)<|.pair (.int .i64)<|.pair (.sl<|.int .u8) .unit)
def aF2{l:ab gF}(Y:T l<=30)(ac:Nx l)(av:wq l<=60):∃w:bQ,Le ((tR Ba af).t,l,())=J (w.t,(pR (tR Ba af) l).2,())/\k2 30 60 w/\g2 w:=by
 have bN:T Ba<=1000:=by rw[Ng];omega
 obtain⟨e9,gK⟩:=Wr l (acu bN af) V V ac;exact⟨_,aFn e9 (apO _ _) V,gK.mono V V,g2.run l<|api _ _⟩
def aKp(c:UInt16)(hm:0<m):cY (i64<|J4 c) (m:O)=((c.toNat%m:R):O):=by
 have aA:=c.toNat_lt
 grind [J4,fF,g32]
def aJC{w:bQ}{n m:O}(h:0<=n/\n<(T w.a':O)):(h9 w n m).2=0:=by
 grind [h9]
def WorldPieces'(l:ab gF)(c:aN)(d:UInt16):aJE (l,c,d,())=J (af,()):=by
 refine aW aGG ?_;obtain⟨b,hL,ak⟩:=apF l 30 V;refine aW (hL) ?_;cases b with
 |false=>exact bj rfl
 |true=>
  obtain⟨Y,ac,av⟩:=ak rfl;obtain⟨w,az,a4,jD⟩:=aF2 Y ac av;refine a8 rfl<|a7 rfl<|aW (aFm Ng af)<|aW az ?_;have hf:=(a4.Ow V V).kx;by_cases aC:T w.a'=0
  .exact bj (ck (by show(T w.a':O)=0;omega))
  have fs:am (len w.t.2.2.1) 0=ag:=cc (by show ¬(T w.a':O)=0;omega);refine a8 fs<|a7 (by rw[fs];rfl) ?_;have hm:cY (i64<|aV c) (len w.t.2.2.1)=((c.toNat%T w.a':R):O):=ajM c (m:=T w.a') V;rw[hm];have aB:c.toNat%T w.a'<T w.a':=DK _ V;generalize c.toNat%T w.a'=k at aB;have dP:aO (k:O) (len w.t.2.2.1)=af:=by show aO (k:O) (len w.a')=af;simp only[go_sem];omega
  refine a7 dP ?_;rw[show ap w.t.2.2.1 (ah (k:O)) dL=ap w.a' k mD from rfl];generalize aJQ:ap w.a' k mD=f;have fa:=hf.ok.a' _<|Cr aB;rw[aJQ]at fa;have XF:=fa.2.2;by_cases aKz:T f.2.2.1<2
  .exact bj (cB (by show(T f.2.2.1:O)<2;omega))
  refine a8 (cm (by show ¬(T f.2.2.1:O)<2;omega)) ?_;rw[show i64 (bw (len f.2.2.1) 1)=((T f.2.2.1-1:R):O) from dK (by show(T f.2.2.1:O)-1=_;omega) V,aKp d (m:=T f.2.2.1-1) V];have aKl:d.toNat%(T f.2.2.1-1)<T f.2.2.1-1:=DK _ V;generalize d.toNat%(T f.2.2.1-1)=m at aKl;rw[show i64 (aG 1 (m:O))=((m+1:R):O) from dK (by show 1+(m:O)=_;omega) V];have aJD:0<=(k:O)/\(k:O)<(T w.a':O):=V;have bX:rz (w.t,(7,0,(k:O),0,aI aN,()),())=J ((h9 w k 0).1.t,0,()):=by have:=DU (w:=w) (a:=(7,0,(k:O),0,[],())) ⟨hf,bP,λh=>by cases h⟩;rw[show jf w (7,0,(k:O),0,[],())=h9 w k 0 from rfl,aJC aJD]at this;exact this
  have aT:rz (w.t,(7,0,(k:O),((m+1:R):O),aI aN,()),())=J ((h9 w k ((m+1:R):O)).1.t,0,()):=by have:=DU (w:=w) (a:=(7,0,(k:O),((m+1:R):O),[],())) ⟨hf,bP,λh=>by cases h⟩;rw[show jf w (7,0,(k:O),((m+1:R):O),[],())=h9 w k ((m+1:R):O) from rfl,aJC aJD]at this;exact this
  refine a7 (by rw[cc V];rfl)<|aW bX<|aW aT<|aW (a:=(ag,())) rfl<|a8 rfl ?_;have aJ8:=aqz a4 (x:=(7,0,(k:O),((m+1:R):O),[],())) bP;have aJ7:=aqz a4 (x:=(7,0,(k:O),0,[],())) bP;have avK:=(aJ8.Ow V (by show 60+0<=66;omega)).kx;have aKf:=(aJ7.Ow V (by show 60+0<=66;omega)).kx;replace avK:fJ (h9 w k ((m+1:R):O)).1:=avK;have aCU:=aJU hf.ok jD aB (m:=((m+1:R):O)) V (by rw[aJQ];omega);generalize bW:(h9 w k ((m+1:R):O)).1=y at aCU avK;by_cases cP:T y.a'=T w.a'
  .replace aCU:=aCU cP
   have aKk:aO (k:O) (len y.t.2.2.1)=af:=by show aO (k:O) (len y.a')=af;simp only[go_sem];omega
   have xz:∃b:aE,(aa (a2<|am (len y.t.2.2.1)<|len w.t.2.2.1) (J (af,())) (an (aO (k:O)<|len y.t.2.2.1) (an (aO (k:O)<|len w.t.2.2.1) (an (cq ((m+1:R):O) (len f.2.2.1)<|len f.2.2.1)
     (ob (nR ((ap y.t.2.2.1 (ah (k:O)) dL).2.2.1,sub f.2.2.1 ((m+1:R):O)<|len f.2.2.1,())) λ(a:aE×aj)=>J (a2 a.1,()))))):au<|Bool×aj)=J (b,()):=
    ⟨_,a8 (eI (by show(T y.a':O)=(T w.a':O);omega))<|a7 aKk<|a7 dP<|a7 b2<|(bs<|pM _ _).trans<|b3 rfl⟩
   obtain⟨b,aKi⟩:=xz;refine aW (aKi) ?_;cases b
   .refine a8 rfl ?_
    have eX:rz (y.t,(7,0,(k:O),0,aI aN,()),())=J ((h9 w k 0).1.t,0,()):=by have:=DU (w:=y) (a:=(7,0,(k:O),0,[],())) ⟨avK,bP,λh=>by cases h⟩;rw[show jf y (7,0,(k:O),0,[],())=h9 y k 0 from rfl,aCU,aJC aJD]at this;exact this
    refine aW eX ?_;refine aW (a:=(af,())) ?_ rfl;exact bA rfl<|bA rfl ((bs<|apI aKf).trans rfl)
   exact bj rfl
  refine aW (bj<|ff (by show ¬(T y.a':O)=(T w.a':O);omega))<|bj rfl
def aJZ(x:i_ [.sl aox,.int .u8,.int .u16])(_:P_ [.sl aox,.int .u8,.int .u16] x):aJE x=J (af,()):=WorldPieces' x.1 x.2.1 x.2.2.1
end Yp