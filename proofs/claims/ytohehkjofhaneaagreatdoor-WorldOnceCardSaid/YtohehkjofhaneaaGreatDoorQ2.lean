/- A part of the proof of the statements of this seat: plain functions, and laws on them. No condition of its own. -/
import Derived.Test.YtohehkjofhaneaaGreatDoorQ1
set_option linter.unusedVariables false
set_option linter.unusedSimpArgs false
set_option linter.defProp false
noncomputable section
open Go Yp
variable {i:Bool}{x:Int}{ct:List Int}{a c g g' k m ml n r t':Nat}{α:Type}
namespace Yp
open Go
set_option maxRecDepth 100000
set_option maxHeartbeats 2000000
def UX{s:aH}(h:bw n s):s.e.ph=0\/s.e.ph=1\/s.e.ph=2\/s.e.ph=3\/s.e.ph=4\/s.e.ph=5\/s.e.ph=6\/s.e.ph=7\/s.e.ph=8:=by have:=h.e.ph;omega
def Q7(s:aH):aH:=⟨{ s.e with ph:=6,ring:=BJ s.e.ring,queue:=[] },s.p⟩
def aeg{s:aH}(h:bw n s):bw n (Q7 s):=⟨{ h.e with ph:=⟨by show(0:Int)<=6;omega,by show(6:Int)<=8;omega⟩,ring:=Nw h.e.ring,queue:=by show([]:List aa).length<=8;simp },h.p⟩
def zv(s:aH):aH×Int:=
 if s.e.ph=0\/s.e.ph=7\/s.e.ph=8 then(s,7) else if s.e.ph=6 then(s,9) else if s.e.ph=1\/s.e.ph=2 then(k? s 0,0) else(lB (Q7 s) (iu 2),0)
def aud{s:aH}(h:bw n s):bw (n+1) (zv s).1:=by
 unfold zv;split
 .exact dq h J
 split
 .exact dq h J
 split
 .exact AL h J J
 exact AM (aeg h) _
def axt{s:aH}(ae:bw n s)(am:n<=1000000000000):N7 (s.t,())=some ((zv s).1.t,(zv s).2,()):=by
 have hl:=Es ae am 0;have a_:=N' (aeg ae) am 2;have hp:=UX ae;unfold N7 zv;rw[show s.t.1.2.2.1=s.e.ph from rfl];rcases hp with h|h|h|h|h|h|h|h|h<;>rw[h]
 .rfl
 .refine aL rfl (a0 rfl (a0 rfl (a? rfl ?_)))
  exact(cE hl).trans rfl
 .refine aL rfl (a0 rfl (a0 rfl (a? rfl ?_)))
  exact(cE hl).trans rfl
 .refine aL rfl (a0 rfl (a0 rfl (a0 rfl (aL rfl ?_))))
  exact(cE a_).trans rfl
 .refine aL rfl (a0 rfl (a0 rfl (a0 rfl (aL rfl ?_))))
  exact(cE a_).trans rfl
 .refine aL rfl (a0 rfl (a0 rfl (a0 rfl (aL rfl ?_))))
  exact(cE a_).trans rfl
 .rfl
 .rfl
 rfl
def zB(s:aH):aH×Int:=if ¬nh s.e.ph then(s,7) else if ¬s.e.ask.1=0 then(s,9) else(lB s (iu 301),0)
def auj{s:aH}(h:bw n s):bw (n+1) (zB s).1:=by
 unfold zB;split
 .exact dq h J
 split
 .exact dq h J
 exact AM h _
def axo{s:aH}(ae:bw n s)(am:n<=1000000000000):N3 (s.t,())=some ((zB s).1.t,(zB s).2,()):=by
 unfold N3 zB;rw[show s.t.1.2.2.1=s.e.ph from rfl,H?];by_cases R:nh s.e.ph
 .rw[cC R,if_neg (not_not_intro R)]
  by_cases ai:s.e.ask.1=0
  .rw[if_neg (not_not_intro ai)]
   refine(bU (i_ ai)).trans ?_;exact(cE (N' ae am 301)).trans rfl
  rw[if_pos ai];exact b4 (lO ai)
 rw[cG R,if_pos R];rfl
def uZ(s:aH)(p:Int):aH:=⟨{ s.e with ph:=p },s.p⟩
def Co(s:aH):aH:=if s.e.ph=8 then(if(j1 s.e.store).2.2.1=true then uZ s 0 else uZ s 7) else s
def DS{s:aH}(h:bw n s){p:Int}(aq:0<=p)(cy:p<=8):bw n (uZ s p):=⟨{ h.e with ph:=⟨aq,cy⟩ },h.p⟩
def auc{s:aH}(h:bw n s):bw n (Co s):=by
 unfold Co;split
 .split
  .exact DS h J J
  exact DS h J J
 exact h
def axn{s:aH}(ae:bw n s):N2 (s.t,())=some ((Co s).t,()):=by
 have O:=ae.e.store.1;have R:=ae.e.store.2;have hp:=UX ae;unfold N2 Co;rw[show s.t.1.2.2.2.1=s.e.store from rfl,ag4 _ J J];have wy:q9 (s.e.ph,11,())=some (if s.e.ph=8 then(0,true,()) else(s.e.ph,false,())):=by rcases hp with h|h|h|h|h|h|h|h|h<;>rw[h]<;>rfl
 have qZ:q9 (s.e.ph,12,())=some (if s.e.ph=8 then(7,true,()) else(s.e.ph,false,())):=by rcases hp with h|h|h|h|h|h|h|h|h<;>rw[h]<;>rfl
 by_cases Y:(j1 s.e.store).2.2.1=true
 .refine a? Y ?_
  rw[if_pos Y];unfold tu;rw[show s.t.1.2.2.1=s.e.ph from rfl,wy];by_cases cy:s.e.ph=8
  .rw[if_pos cy,if_pos cy];rfl
  rw[if_neg cy,if_neg cy];rfl
 refine a0 (by grind) ?_;rw[if_neg Y];unfold tu;rw[show s.t.1.2.2.1=s.e.ph from rfl,qZ];by_cases cy:s.e.ph=8
 .rw[if_pos cy,if_pos cy];rfl
 rw[if_neg cy,if_neg cy];rfl
def zE(s:aH)(k:Int):aH:=⟨{ s.e with got:=s.e.got++[(k,fX s.e,0,[],())] },s.p⟩
def aek{s:aH}(h:bw n s)(k:Int):bw (n+1) (zE s k):=by
 refine⟨{ DP h.e (vq n) with got := ?_ },J5 h.p⟩;have:=h.e.got;show(s.e.got++[(k,fX s.e,0,[],())]).length<=n+1
 grind
def agW{s:aH}(ae:bw n s)(am:n<=1000000000000)(k:Int):IV (s.t,k,())=some ((zE s k).t,()):=by have hg:=ae.e.got;unfold IV;rw[show s.t.1.2.2.2.2.2.2.2.2.2.2.2.2.2.2.2.2.2.1=s.e.got from rfl,KK];rw[show n4 (s.t.1,())=_ from yh s.e];refine a6 (by simp only[go_sem];simp;omega) ?_;rfl
def pV(s:aH):aH:=if s.e.ph=2 then zE (uZ s 3) 4 else s
def aem{s:aH}(h:bw n s):bw (n+1) (pV s):=by
 unfold pV;split
 .exact aek (DS h J J) 4
 exact dq h (vq n)
def axp{s:aH}(ae:bw n s)(am:n<=1000000000000):N4 (s.t,())=some ((pV s).t,()):=by
 unfold N4 pV;by_cases h:s.e.ph=2
 .rw[if_pos h]
  refine a0 (i_ h) ?_;rw[show tu (s.t,3,())=some ((uZ s 3).t,()) by unfold tu;rw[show s.t.1.2.2.1=s.e.ph from rfl,h];rfl]
  exact(cE (agW (DS ae (p:=3) J J) am 4)).trans rfl
 rw[if_neg h];exact b4 (lO h)
def zN(s:aH):aH:=if s.e.ph=1\/s.e.ph=3\/s.e.ph=6 then k? s 0 else s
def aul{s:aH}(h:bw n s):bw (n+1) (zN s):=by
 unfold zN;split
 .exact AL h J J
 exact dq h (vq n)
def axq{s:aH}(ae:bw n s)(am:n<=1000000000000):N5 (s.t,())=some ((zN s).t,()):=by
 have hl:=Es ae am 0;have hp:=UX ae;unfold N5 zN;rw[show s.t.1.2.2.1=s.e.ph from rfl];rcases hp with h|h|h|h|h|h|h|h|h<;>rw[h]
 .rfl
 .refine a? rfl (a? rfl ?_)
  exact(cE hl).trans rfl
 .rfl
 .refine a0 rfl (a? rfl (a? rfl ?_))
  exact(cE hl).trans rfl
 .rfl
 .rfl
 .refine a0 rfl (a0 rfl (a? rfl ?_))
  exact(cE hl).trans rfl
 .rfl
 rfl
def IX(s:aH):tt (s.t,())=some ((gV s 3).t,()):=by exact(cE (TS s)).trans rfl
def axw{s:aH}(ae:bw n s)(am:n<=1000000000000)(q:d'):IW (s.t,q,())=some ((gp s (kV q 0)).1.t,()):=by unfold IW;dsimp only;rw[Ut];refine aL rfl ?_;rw[MF];refine aL rfl ?_;exact(cE (yi ae am (kV q 0))).trans rfl
def Zt(s:aH):aH:=⟨{ s.e with ask:=kw },s.p⟩
def yp(s:aH)(n:d'):aH:=
 if n.1=true then(if n.2.1=301 then(gp s (kV n 0)).1 else if n.2.1=2 then k? (gp s (kV n 0)).1 0 else gV s 3)
 else if qX s.e.ask n.2.1 n.2.2.1 then(if n.2.1=301 then Zt s else if n.2.1=2 then k? s 0 else gV s 3) else gV s 3
def auo{s:aH}(h:bw m s)(n:d'):bw (m+2) (yp s n):=by
 unfold yp;split
 .split
  .exact dq (q4 h _) J
  split
  .exact AL (q4 h _) J J
  exact dq (oO h 3) J
 split
 .split
  .exact⟨DP (n:=m) { h.e with askr:=.inl rfl } J,fv h.p J⟩
  split
  .exact dq (AL h J J) J
  exact dq (oO h 3) J
 exact dq (oO h 3) J
def axs{s:aH}(ae:bw m s)(hm:m<=999999000000)(n:d'):N6 (s.t,n,())=some ((yp s n).t,()):=by
 have e4:(ob (tt (s.t,())) λ(a:fa×Unit)=>(some (a.1,()):Option (fa×Unit)))=some ((gV s 3).t,()):=(cE (IX s)).trans rfl;have acq:=axw ae J n;have gn:=q4 ae (kV n 0);unfold N6 yp;rw[show s.t.1.2.2.2.2.2.2.2.2.2.2.2.1=s.e.ask from rfl,Kd];by_cases O:n.2.1=301
 .refine a? (cL O) ?_
  cases a_:n.1
  .rw[ O]
   by_cases hm:qX s.e.ask 301 n.2.2.1
   .rw[cC hm,if_pos hm];rfl
   rw[cG hm,if_neg hm];exact a0 rfl e4
  rw[ if_pos O];exact a? rfl ((cE acq).trans rfl)
 refine a0 (cx O) ?_;by_cases R:n.2.1=2
 .refine a? (cL R) ?_
  cases a_:n.1
  .rw[ R]
   refine a0 rfl (aL rfl ?_);by_cases hm:qX s.e.ask 2 n.2.2.1
   .rw[cC hm,if_pos hm]
    exact a? rfl ((cE (Es ae J 0)).trans rfl)
   rw[cG hm,if_neg hm];exact a0 rfl e4
  rw[ if_neg O,if_pos R];rw[acq];exact(cE (Es gn J 0)).trans rfl
 refine a0 (cx R) ?_
 grind
def awu{x:aa}(hx:x.length=32):ms ((1,x,()),j',j',0,1,()):=by
 refine .inr ⟨⟨?_,?_,hx⟩,?_,?_,?_,.inl ⟨rfl,rfl⟩,.inl rfl⟩
 .show(1:Int)<=1;omega
 .show(1:Int)<=2147483647;omega
 .show(1:Int)<=2147483647;omega
 .show(1:Int)<=1;omega
 show(0:Int)<=1;omega
def Dz(e:c_)(own oth:Int):c_:={ e with own:=own,oth:=oth,seen:=cX e.seen oth,ring:=(DF (wm e.key (fX { e with own:=own,oth:=oth }) 1 [])).1 }
def wv(s:aH)(own oth:Int):aH:=⟨Dz s.e own oth,s.p⟩
def awt(k:aa):ms (DF k).1:=by
 unfold DF;split
 .rename_i h
  exact awu h
 exact .inl rfl
def MM{s:aH}(h:bw n s){a b:Int}(bc:dP a)(Y:dP b):bw n (wv s a b):=⟨{ h.e with own:=bc,oth:=Y,ring:=awt _ },h.p⟩
def agX{s:aH}(ae:bw n s)(a b:Int):Et (s.t,a,b,())=some ((wv s a b).t,()):=by have ap:=ae.e.key;unfold Et;rw[show n4 ((s.t.1.1,s.t.1.2.1,s.t.1.2.2.1,s.t.1.2.2.2.1,s.t.1.2.2.2.2.1,a,b,cX s.t.1.2.2.2.2.2.2.2.1 b,s.t.1.2.2.2.2.2.2.2.2),())=_ from yh { s.e with own:=a,oth:=b,seen:=cX s.e.seen b }];refine aL rfl ?_;rw[show As (s.t.1.2.1,fX { s.e with own:=a,oth:=b,seen:=cX s.e.seen b },1,aP UInt8,())=_ from ac6 s.e.key (fX { s.e with own:=a,oth:=b,seen:=cX s.e.seen b }) 1 [] J bf];refine aL rfl ?_;rw[awy];rfl
def agY{s:aH}(ae:bw n s)(am:n<=1000000000000)(q:d')(x:Int):IY (s.t,q,x,())=some ((ps s x (kV q 0)).1.t,()):=by unfold IY;rw[Ut];refine aL rfl ?_;rw[MF];exact(cE (TT ae am x (kV q 0))).trans rfl
def AO(s:aH)(x:Int):aH:=zE ⟨{ Dz s.e s.e.own x with ph:=3,ask:=kw },s.p⟩ 4
def aes{s:aH}(h:bw n s)(hx:dP x):bw (n+1) (AO s x):=by have O:=MM h h.e.own hx;exact aek (s:=⟨{ Dz s.e s.e.own x with ph:=3,ask:=kw },s.p⟩) ⟨{ O.e with askr:=.inl rfl,ph:=⟨by show(0:Int)<=3;omega,by show(3:Int)<=8;omega⟩ },O.p⟩ 4
def axu{s:aH}(ae:bw n s)(am:n<=999999000000)(O:s.e.ph=1)(hx:dP x):N9 (s.t,x,())=some ((lB (AO s x) (iu 301)).t,()):=by
 have hm:=MM ae ae.e.own hx;have aO:=aes ae hx;unfold N9;rw[show Et (s.t,s.t.1.2.2.2.2.2.1,x,())=_ from agX ae s.e.own x];refine(d9 rfl).trans ?_;rw[show tu ((wv s s.e.own x).t,1,())=some ((uZ (wv s s.e.own x) 3).t,()) by unfold tu;rw[show(wv s s.e.own x).t.1.2.2.1=s.e.ph from rfl,O];rfl]
 have ap:bw n (⟨{ Dz s.e s.e.own x with ph:=3,ask:=kw },s.p⟩:aH):=⟨{ hm.e with askr:=.inl rfl,ph:=⟨by show(0:Int)<=3;omega,by show(3:Int)<=8;omega⟩ },hm.p⟩;refine(cE (agW ap J 4)).trans ((d9 rfl).trans ?_);exact(cE (N' aO J 301)).trans rfl
def t4(s:aH)(q:d')(x:Int):aH:=
 if(s.e.ph=1/\s.e.id=0)\/s.e.ph=7\/s.e.ph=8 then gV s 3
 else if kq s.e.ph/\s.e.oth=x then(ps s x (kV q 0)).1
 else if x<=s.e.seen then gV s 3
 else if(gw s).2.2=0 then(ps (wv (k? (gw s).1 2) (gw s).2.1 x) x (kV q 0)).1
 else if(gw s).2.2=11 then(gw s).1
 else gV (gw s).1 3
def axv{s:aH}(ae:bw n s)(am:n<=999999000000)(np:dP x)(q:d'):N_ (s.t,q,x,())=some ((t4 s q x).t,()):=by
 unfold N_ t4;rw[show s.t.1.2.2.1=s.e.ph from rfl,IX];by_cases aq:(s.e.ph=1/\s.e.id=0)\/s.e.ph=7\/s.e.ph=8
 .rw[if_pos aq]
  refine aL (a:=(true,())) ?_ (a? rfl rfl);by_cases O:s.e.ph=1
  .refine a? (cL O) ?_
   have R:s.e.id=0:=J;exact b4 (cL R)
  refine a0 (cx O) ?_;by_cases eh:s.e.ph=7
  .exact b4 (cL eh)
  refine a0 (cx eh) ?_;rw[cL J]
 rw[if_neg aq];refine aL (a:=(false,())) ?_ (a0 rfl ?_)
 .have eh:¬s.e.ph=7:=J
  have cy:¬s.e.ph=8:=J;have f':T (af s.e.ph 7) (some (true,())) (some (af s.e.ph 8,()))=some (false,()):=by rw[cx eh,cx cy];rfl
  by_cases O:s.e.ph=1
  .have R:¬s.e.id=0:=J
   exact a? (cL O) (a0 (cx R) f')
  exact a0 (cx O) f'
 rw[Ia];refine aL rfl ?_;by_cases hl:kq s.e.ph/\s.e.oth=x
 .rw[if_pos hl]
  refine aL (a:=(true,())) ?_ (a? rfl ?_)
  .rw[cC hl.1]
   refine a? rfl ?_;rw[show af s.t.1.2.2.2.2.2.2.1 x=true from cL hl.2]
  exact(cE (agY ae J q x)).trans rfl
 rw[if_neg hl];refine aL (a:=(false,())) ?_ (a0 rfl ?_)
 .by_cases O:kq s.e.ph
  .rw[cC O]
   refine a? rfl ?_;rw[show af s.t.1.2.2.2.2.2.2.1 x=false from cx (λh=>hl ⟨O,h⟩)]
  rw[cG O];rfl
 by_cases LX:x<=s.e.seen
 .rw[if_pos LX]
  exact a? (lz (LX)) rfl
 rw[if_neg LX];refine a0 (n6 (LX)) ?_;rw[agV ae J];by_cases az:(gw s).2.2=0
 .rw[if_pos az]
  have O:=AL (DR ae) (p:=2) J J;have R:=MM O (RD az) np;refine a? (cL az) ?_;rw[Es (DR ae) J];refine aL rfl ?_;rw[agX O];exact(cE (agY R J q x)).trans rfl
 rw[if_neg az];refine a0 (cx az) ?_;by_cases pY:(gw s).2.2=11
 .rw[if_pos pY]
  exact b4 (cL pY)
 rw[if_neg pY];refine a0 (cx pY) ?_;rw[IX];rfl
def HZ{s:aH}(h:bw n s)(i:Nat):bw n (gV s i):=⟨{ h.e with cS:=by show(cg _ _ _).length=4;unfold cg;rw[kf];exact h.e.cS },h.p⟩
def aub{s:aH}(h:bw n s)(q:d')(hx:dP x):bw (n+3) (t4 s q x):=by
 have az:=DR h;unfold t4;split
 .exact dq (HZ h _) J
 split
 .exact dq (MO h _ _) J
 split
 .exact dq (HZ h _) J
 split
 .rename_i aq
  exact dq (MO (MM (AL az (p:=2) J J) (RD aq) hx) _ _) J
 split
 .exact dq az J
 exact dq (HZ az _) J
def qL(s:aH)(v:dr)(q:d'):aH:=
 let x:=an v.2.2.1 (ab (1-s.e.id)) 0
 let y:=an v.2.2.1 (ab s.e.id) 0
 if ¬q.2.1=1\/x<1 then gV s 3
 else if q.1=true/\y=0 then t4 s q x
 else if q.1=false/\q.2.2.2.1=0/\s.e.ph=1/\y=s.e.own/\qX s.e.ask q.2.1 q.2.2.1 then lB (AO s x) (iu 301)
 else gV s 3
def axr{s:aH}(ae:bw n s)(am:n<=999999000000){v:dr}(aD:∀i:Nat,dP (an v.2.2.1 i 0))(q:d'):IQ (s.t,v,q,())=some ((qL s v q).t,()):=by
 have hid:=ae.e.id;unfold IQ qL;rw[show s.t.1.1=s.e.id from rfl,asK hid];refine a6 cp (a6 cp ?_);have hx:=aD (ab (1-s.e.id));have bs:=aD (ab s.e.id);generalize an v.2.2.1 (ab (1-s.e.id)) 0=x at hx ⊢;generalize an v.2.2.1 (ab s.e.id) 0=y at bs ⊢;by_cases O:¬q.2.1=1\/x<1
 .rw[if_pos O,IX]
  refine aL (a:=(true,())) ?_ (a? rfl rfl);by_cases ah:q.2.1=1
  .refine a0 (i_ ah) ?_
   rw[di J]
  exact b4 (lO ah)
 rw[if_neg O];have ah:q.2.1=1:=J;refine aL (a:=(false,())) ?_ (a0 rfl ?_)
 .refine a0 (i_ ah) ?_
  rw[cP J]
 by_cases R:q.1=true/\y=0
 .rw[if_pos R]
  refine aL (a:=(true,())) ?_ (a? rfl ?_)
  .rw[R.1,cL R.2];rfl
  exact(cE (axv ae am hx q)).trans rfl
 rw[if_neg R];refine aL (a:=(false,())) ?_ (a0 rfl ?_)
 .cases a_:q.1
  .rfl
  rw[cx (λh=>R ⟨a_,h⟩)];rfl
 rw[ show s.t.1.2.2.2.2.2.2.2.2.2.2.2.1=s.e.ask from rfl,Kd];by_cases ai:q.1=false/\q.2.2.2.1=0/\s.e.ph=1/\y=s.e.own/\qX s.e.ask q.2.1 q.2.2.1
 .rw[if_pos ai]
  obtain⟨cK,cU,dj,eT,lm⟩:=ai;refine aL (a:=(true,())) ?_ (a? rfl ?_)
  .refine a? (by rw[cK];rfl) (a? (cL cU) (a? (cL dj) (a? (cL eT) ?_)))
   rw[cC lm];rfl
  exact(cE (axu ae am dj hx)).trans rfl
 rw[if_neg ai,IX];refine aL (a:=(false,())) ?_ (a0 rfl rfl);by_cases cK:q.1=false
 .refine a? (by rw[cK];rfl) ?_
  by_cases cU:q.2.2.2.1=0
  .refine a? (cL cU) ?_
   by_cases dj:s.e.ph=1
   .refine a? (cL dj) ?_
    by_cases eT:y=s.e.own
    .refine a? (cL eT) ?_
     rw[cG (λh=>ai ⟨cK,cU,dj,eT,h⟩)];rfl
    exact bU (cx eT)
   exact bU (cx dj)
  exact bU (cx cU)
 refine bU ?_;cases a_:q.1
 .grind
 rfl
def aum{s:aH}(h:bw n s){v:dr}(aD:∀i:Nat,dP (an v.2.2.1 i 0))(q:d'):bw (n+3) (qL s v q):=by
 unfold qL;dsimp only;split
 .exact dq (HZ h _) J
 split
 .exact aub h q (aD _)
 split
 .exact dq (AM (aes h (aD _)) _) J
 exact dq (HZ h _) J
def awm{l:List bT}:∀{last:Int},last<=128->fZ last l=true->(l.length:Int)<=128-last:=by
 induction l with
 |nil=>intro last h _;simp;omega
 |cons v l ih=>
  intro last h aj;have O:=r' aj v (BV ..);have R:=RN O.2;have ai:fZ v.1 l=true:=by
   unfold fZ at aj
   grind
  grind
def Eb{m:M}(h:h_ m=true):m.2.1.length<=128/\uh m:=by have aj:=(qf.1 h).1;have hl:=awm J aj;exact⟨J,J,λv aD=>by have:=RP (r' aj v aD).2;omega⟩
def FR(m:Int):Int:=if hD m then m/100 else 0
def vf(m:Int):Prop:=FR m=1\/FR m=2\/FR m=4
instance (m:Int):Decidable (vf m):=by unfold vf;infer_instance
def aa5(m:M):Gc (m,())=some (D (vf m.1),()):=by
 unfold Gc vf;rw[show Hh (m.1,())=some (FR m.1,()) from asF m.1];refine aL rfl ?_;generalize FR m.1=c;by_cases O:c=1
 .subst O;rw[cC (.inl rfl)];rfl
 by_cases R:c=2
 .subst R;rw[cC (.inr (.inl rfl))];rfl
 by_cases au:c=4
 .subst au;rw[cC (.inr (.inr rfl))];rfl
 rw[cG J,cx O,cx R,cx au];rfl
def u?(m:M):Prop:=(ii 39 m.2.1).2.1=true/\(ii 39 m.2.1).1=[57,49]
instance (m:M):Decidable (u? m):=by unfold u?;infer_instance
def aw4(g:aa×Bool×Unit):(ob (T g.2.1 (some (seq g.1 [57,49],())) (some (false,()))) λ(a:Bool×Unit)=>(some (a.1,()):Option (Bool×Unit)))=some (D (g.2.1=true/\g.1=[57,49]),()):=by
 obtain⟨b,e,⟨⟩⟩:=g;cases e
 .rw[cG (λh=>Py h.1)];rfl
 refine aL rfl ?_;by_cases h:b=[57,49]
 .rw[cC ⟨rfl,h⟩,IG h]
 rw[cG (λx=>h x.2),NV h]
def aa4{m:M}(aj:fZ 0 m.2.1=true)(hl:m.2.1.length<=1000000):CT (m,())=some (D (u? m),()):=by unfold CT u?;rw[TH _ _ hl,R6 aj];exact aL rfl (aw4 _)
def sb(m:M)(day:Int):M:=(m.1,wU m.2.1 (15,dt day 6,()),())
def P4(b:aa)(day:Int):Prop:=day<0\/999999<day\/¬(e9 b).2.1=0\/¬vf (e9 b).1.1\/u? (e9 b).1
instance (b:aa) (day:Int):Decidable (P4 b day):=by unfold P4;infer_instance
def mY(b:aa)(day:Int):aa×Int:=
 if P4 b day then([],1) else if 900<(f7 (sb (e9 b).1 day)).length then([],4) else(f7 (sb (e9 b).1 day),0)
def aaH(day:Int):fT 15 (dt day 6)=true:=sP (no:=15) (w:=6) RQ J
def ahi{m:M}(h:h_ m=true)(day:Int):h_ (sb m day)=true:=by have O:=qf.1 h;exact qf.2 ⟨axg (x:=(15,dt day 6,())) (aaH day) J O.1,O.2⟩
def Vb{b:aa}(h:(e9 b).2.1=0):h_ (e9 b).1=true/\f7 (e9 b).1=b:=by exact M5 (b:=b) (J1 rfl (J1 h rfl))
def axx{day:Int}(aq:0<=day)(O:day<=999999):uc (day,6,())=some (dt day 6,0,())/\yC (day,6,())=some (dt day 6,0,()):=by rw[KR _ _ J,Vh _ _ J,if_pos ⟨J,J,aq,by show day<10^6;omega⟩];exact⟨rfl,rfl⟩
def axT{m:M}(hm:h_ m=true)(day:Int){e:Int}:(T (aF 900 (len (f7 (sb m day)))) (some (aP UInt8,4,())) (some (f7 (sb m day),0,())):Option (aa×Int×Unit))=some ((if 900<(f7 (sb m day)).length then(([]:aa),(4:Int)) else(f7 (sb m day),0)).1,(if 900<(f7 (sb m day)).length then(([]:aa),(4:Int)) else(f7 (sb m day),0)).2,()):=by
 by_cases h:900<(f7 (sb m day)).length
 .rw[if_pos h];exact b4 cp
 rw[if_neg h];exact bU cp
def aoA(b:aa)(day:Int)(Y:b.length<=1000000):Lo (b,day,())=some ((mY b day).1,(mY b day).2,()):=by
 unfold Lo mY;rw[TI _ Y];refine aL rfl ?_;dsimp only;by_cases O:day<0
 .rw[if_pos (.inl O)]
  exact aL (b4 cp) rfl
 by_cases R:999999<day
 .rw[if_pos (.inr (.inl R))]
  exact aL (a0 cp (b4 cp)) rfl
 by_cases ai:(e9 b).2.1=0
 .obtain⟨aj,bu⟩:=Vb ai
  obtain⟨hl,hf⟩:=Eb aj;have Db:=(qf.1 aj).1;rw[aa5,aa4 Db J];by_cases au:vf (e9 b).1.1
  .by_cases a4:u? (e9 b).1
   .rw[if_pos (.inr (.inr (.inr (.inr a4)))),cC au,cC a4]
    exact aL (a0 cp (a0 cp (a0 (i_ ai) rfl))) rfl
   rw[if_neg (by rintro(h|h|h|h|h)<;>first|exact O h|exact R h|exact h ai|exact h au|exact a4 h),cC au,cG a4];refine aL (a:=(false,())) (a0 cp (a0 cp (a0 (i_ ai) rfl))) (a0 rfl ?_);rw[(axx J J).1];refine aL rfl (a6 rfl ?_);rw[show ko ((e9 b).1,15,(dt day 6,(0:Int),()).1,())=some (sb (e9 b).1 day,0,()) by rw[L? _ _ _ J (by rw[nS];omega)];unfold El;rw[ if_pos (aaH day),ayT Db];rfl]
   refine aL rfl ?_;have ae:=ahi aj day;rw[TJ _ (Eb ae).2,if_pos ae];exact aL rfl (axT aj day (e:=0))
  rw[if_pos (.inr (.inr (.inr (.inl au)))),cG au];exact aL (a0 cp (a0 cp (a0 (i_ ai) rfl))) rfl
 rw[if_pos (.inr (.inr (.inl ai)))];exact aL (a0 cp (a0 cp (b4 (lO ai)))) rfl
def ug(s:aH)(k n:Int)(b:aa):aH:=⟨{ s.e with got:=s.e.got++[(k,fX s.e,n,b,())] },s.p⟩
def UG{s:aH}(h:bw n s)(k q:Int)(b:aa):bw (n+1) (ug s k q b):=by
 refine⟨{ DP h.e (vq n) with got := ?_ },J5 h.p⟩;have:=h.e.got;show(s.e.got++[(k,fX s.e,q,b,())]).length<=n+1
 grind
def aa3{s:aH}(ae:bw n s)(am:n<=1000000000000)(k q:Int)(b:aa):Gb (s.t,k,q,b,())=some ((ug s k q b).t,()):=by have hg:=ae.e.got;unfold Gb;rw[show s.t.1.2.2.2.2.2.2.2.2.2.2.2.2.2.2.2.2.2.1=s.e.got from rfl,KK];rw[show n4 (s.t.1,())=_ from yh s.e];refine a6 (by simp only[go_sem];simp;omega) ?_;rfl
def u1(s:aH)(q:List aa):aH:=⟨{ s.e with queue:=q },s.p⟩
def MN{s:aH}(h:bw n s){q:List aa}(a_:q.length<=8):bw n (u1 s q):=⟨{ h.e with queue:=a_ },h.p⟩
def te:Nat->aH->aH
 |0,s=>s
 |n+1,s=>match s.e.queue with
  |[]=>s
  |b::q=>if(gp s b).2=0 then te n (u1 (gp s b).1 q) else s
def mV(s:aH):aH:=te s.e.queue.length s
def avh{f:fa×Unit->Option (aE (fa×Unit) (fa×Unit))}
  (aq:∀s n,bw n s->n<=1000000000000->s.e.queue=[]->f (s.t,())=some (.ex 0 (s.t,())))
  (O:∀s n b q,bw n s->n<=1000000000000->s.e.queue=b::q->(gp s b).2=0->f (s.t,())=some (.nx ((u1 (gp s b).1 q).t,())))
  (R:∀s n b q,bw n s->n<=1000000000000->s.e.queue=b::q->¬(gp s b).2=0->f (s.t,())=some (.ex 0 (s.t,()))\/f (s.t,())=some (.rt (s.t,()))) :
  ∀k (s:aH) n,bw n s->n+k<=1000000000000->s.e.queue.length=k ->
   b_ (bC f (s.t,())) (λ(_:fa×Unit)=>none) (λ(i:Nat) (a:fa×Unit)=>ak (bP i 0) (some (a.1,()))) (λ(r:fa×Unit)=>some r)=some ((te k s).t,()):=by
 intro k;induction k with
 |zero =>intro s n ae am ap;exact(cO (dT (aq s n ae J (lJ.1 ap)))).trans rfl
 |succ k ih=>
  intro s n ae am ap;obtain⟨b,q,a_⟩:∃b q,s.e.queue=b::q:=by
   cases h:s.e.queue with
   |nil=>rw[h]at ap;cases ap
   |cons b q=>exact⟨b,q,rfl⟩
  have hl:q.length=k:=by rw[a_,fQ]at ap;omega
  have jj:=ae.e.queue;unfold te;rw[a_];dsimp only;by_cases h:(gp s b).2=0
  .rw[if_pos h]
   exact(cO (eE (O s n b q ae J a_ h))).trans (ih _ (n+1) (MN (q4 ae b) J) J hl)
  rw[if_neg h];rcases R s n b q ae J a_ h with bB|bB
  .exact(cO (dT bB)).trans rfl
  exact(cO (n8 bB)).trans rfl
def ax9{q:List aa}(h:q=[]):M3 (q,())=some ([],[],false,()):=by subst h;rfl
def ahy{q r:List aa}{b:aa}(h:q=b::r)(hl:q.length<=1000000):M3 (q,())=some (b,r,true,()):=by subst h;have GS:r.length+1<=1000000:=hl;refine a0 rfl (a6 (by simp only[go_sem];simp only[fQ];omega) (a6 (by simp only[go_sem];simp;omega) ?_));rw[show sub (b::r) 1 (len (b::r))=r by simp[sub,len]];refine aL (eG cp) rfl
def R2{s:aH}(ae:bw n s)(am:n<=999999000000):kM (s.t,())=some ((mV s).t,()):=by
 have a_:=ae.e.queue;refine avh ?_ ?_ ?_ s.e.queue.length s n ae J rfl
 .intro s n ae am h
  exact(cE (ax9 h)).trans rfl
 .intro s n b q ae am h bh
  have a_:=ae.e.queue;refine(cE (ahy h J)).trans ((d9 rfl).trans ((bU rfl).trans ?_));refine(cE (yi ae am b)).trans ((d9 rfl).trans ((bU (i_ bh)).trans ?_));rfl
 intro s n b q ae am h bh;have a_:=ae.e.queue;refine .inl ((cE (ahy h J)).trans ((d9 rfl).trans ((bU rfl).trans ?_)));exact(cE (yi ae am b)).trans ((d9 rfl).trans (b4 (lO bh)))
def aet:∀(k:Nat) {n:Nat} {s:aH},bw n s->bw (n+k) (te k s)
 |0,n,s,h=>h
 |k+1,n,s,h=>by
  unfold te;split
  .exact dq h J
  rename_i b q a_;split
  .have jj:=h.e.queue
   rw[a_,fQ]at jj;have:=aet k (MN (q4 h b) (q:=q) J)
   grind
  exact dq h J
def HX{s:aH}(h:bw n s):bw (n+1000) (mV s):=dq (aet _ h) (by have:=h.e.queue;omega)
def pm(q:List aa)(b:aa):List aa×Int:=if 8<=q.length then(q,8) else(q++[b],0)
def avt(q:List aa)(b:aa):M2 (q,b,8,())=some ((pm q b).1,(pm q b).2,()):=by
 unfold M2 pm Ig;dsimp only;rw[if_neg J];by_cases h:8<(q.length:Int)
 .rw[if_pos h,if_pos J];rfl
 rw[if_neg h];rw[show(8:Int).toNat=8 from rfl,List.length_singleton];by_cases cy:q.length=8
 .rw[ cy];rfl
 rw[if_neg J,show min (8-q.length) 1=1 by omega,iS (by grind)];rfl
def tw(s:aH)(b:aa):aH×Int:=
 if ¬(mY b s.e.day).2=0 then(s,(mY b s.e.day).2) else if ¬nh s.e.ph then(s,7)
 else if ¬(pm s.e.queue (mY b s.e.day).1).2=0 then(s,(pm s.e.queue (mY b s.e.day).1).2)
 else(mV (ug (u1 s (pm s.e.queue (mY b s.e.day).1).1) 1 0 (mY b s.e.day).1),0)
def ae8{q:List aa}{b:aa}(h:q.length<=8):(pm q b).1.length<=8:=by
 unfold pm
 grind
def auu{s:aH}(h:bw n s)(b:aa):bw (n+1001) (tw s b).1:=by
 unfold tw;split
 .exact dq h J
 split
 .exact dq h J
 split
 .exact dq h J
 exact dq (HX (UG (MN h (ae8 h.e.queue)) _ _ _)) J
def aoB{s:aH}(ae:bw n s)(am:n<=999998000000)(b:aa)(Y:b.length<=1000000):Lp (s.t,b,())=some ((tw s b).1.t,(tw s b).2,()):=by
 unfold Lp tw;refine aL (aoA b s.e.day Y) ?_;generalize mY b s.e.day=r;obtain⟨o,e⟩:=r;by_cases aq:e=0
 .subst aq
  refine a0 rfl (aL (H? s.e.ph) ?_);by_cases hg:nh s.e.ph
  .rw[if_neg (not_not_intro hg)]
   refine a0 (by rw[cC hg];rfl) (aL (avt s.e.queue o) ?_);have hl:=ae8 (b:=o) ae.e.queue;generalize pm s.e.queue o=p at hl ⊢;obtain⟨q,c⟩:=p;by_cases ah:c=0
   .subst ah
    have O:=MN ae hl;refine a0 rfl (aL (aa3 O J 1 0 o) ?_);exact(cE (R2 (UG O 1 0 o) J)).trans rfl
   rw[if_pos ah];exact b4 (lO ah)
  rw[if_pos hg];exact b4 (by rw[cG hg];rfl)
 rw[if_pos aq];exact b4 (lO aq)
def ZS(day:Int):d':=(true,201,0,0,0,[],[],day,())
def zA(s:aH)(day:Int):aH×Int:=
 if day<=s.e.day\/999999<day then(s,1) else if ¬nh s.e.ph then(s,7) else if ¬s.e.ph=3\/¬s.e.ask.1=0 then(s,9)
 else(lB (uZ s 5) (ZS day),0)
def auh{s:aH}(h:bw n s)(day:Int):bw (n+1) (zA s day).1:=by
 unfold zA;split
 .exact dq h J
 split
 .exact dq h J
 split
 .exact dq h J
 exact AM (DS h J J) _
theorem aAb:q9 (3,7,())=some (5,true,()):=rfl
theorem aAd:q9 (5,8,())=some (3,true,()):=rfl
def aox{s:aH}(ae:bw n s)(am:n<=1000000000000)(day:Int):Lm (s.t,day,())=some ((zA s day).1.t,(zA s day).2,()):=by
 unfold Lm zA;rw[show s.t.1.2.2.2.2.2.2.2.2.2.2.2.2.2.1=s.e.day from rfl,show s.t.1.2.2.1=s.e.ph from rfl];by_cases O:day<=s.e.day\/999999<day
 .rw[if_pos O]
  refine aL (a:=(true,())) ?_ rfl;simp only[go_sem];exact Ew O
 rw[if_neg O];refine aL (a:=(false,())) (by simp only[go_sem];exact VV J) (a0 rfl ?_);rw[H?];refine aL rfl ?_;by_cases R:nh s.e.ph
 .rw[if_neg (not_not_intro R),cC R]
  by_cases ai:¬s.e.ph=3\/¬s.e.ask.1=0
  .rw[if_pos ai]
   refine aL (a:=(true,())) (by simp only[go_sem];exact Ew ai) rfl
  rw[if_neg ai];refine aL (a:=(false,())) (by simp(disch:=omega) only[go_sem];exact VV (λh=>ai (.inr h))) (a0 rfl ?_);simp at ai;rw[ai.1];exact(cE (N8 (DS ae (p:=5) J J) am (ZS day))).trans rfl
 rw[if_pos R,cG R];rfl
def zM(s:aH):aH:=if s.e.ph=5 then⟨AN s.e,s.p⟩ else s
def R3{s:aH}(h:s.e.ph=5):CS (s.t,())=some ((⟨AN s.e,s.p⟩:aH).t,()):=by unfold CS;rw[show(s.t,()).1.1.2.2.1=5 from h];rfl
def aoz(s:aH):Ln (s.t,())=some ((zM s).t,()):=by
 unfold Ln zM;by_cases h:s.e.ph=5
 .rw[if_pos h]
  refine a0 (i_ h) ?_;exact(cE (R3 h)).trans rfl
 rw[if_neg h];exact b4 (lO h)
def Mi(s:aH)(day:Int):aH:=⟨{ s.e with day:=cX s.e.day day },s.p⟩
def UH{s:aH}(h:bw n s)(day:Int):bw n (Mi s day):=⟨{ h.e with },h.p⟩
def Rh(s:aH)(n:d'):aH:=(gp (Mi s n.2.2.2.2.2.2.2.1) (kV n 0)).1
def aug{s:aH}(h:bw m s)(n:d'):bw (m+1) (Rh s n):=q4 (UH h _) _
def aoy{s:aH}(ae:bw m s)(hm:m<=1000000000000)(n:d'):R1 (s.t,n,())=some ((Rh s n).t,()):=by exact Fv (UH ae n.2.2.2.2.2.2.2.1) hm n 0
def Cc(s:aH)(n:d'):aH:=
 if ¬s.e.ph=5\/¬qX s.e.ask n.2.1 n.2.2.1 then gV s 3
 else if n.2.2.2.1=0 then Mi ⟨AN s.e,s.p⟩ (ky s.e.ask.2.2.2.2.1).1.2.2.2.2.2.2.2.1 else⟨AN s.e,s.p⟩
def aow{s:aH}(n:d')(Y:s.e.ask.2.2.2.2.1.length<=1000000):Ll (s.t,n,())=some ((Cc s n).t,()):=by
 unfold Ll Cc;rw[ show s.t.1.2.2.2.2.2.2.2.2.2.2.2.1=s.e.ask from rfl,Kd];by_cases a4:s.e.ph=5
 .by_cases hm:qX s.e.ask n.2.1 n.2.2.1
  .rw[if_neg (λh=>h.elim (λh=>h a4) (λh=>h hm)),cC hm]
   refine aL (a:=(false,())) (a0 (i_ a4) rfl) (a0 rfl ?_);rw[adX _ Y];by_cases aj:n.2.2.2.1=0
   .rw[if_pos aj]
    refine a? (cL aj) ?_;exact(cE (R3 (s:=Mi s (ky s.e.ask.2.2.2.2.1).1.2.2.2.2.2.2.2.1) a4)).trans rfl
   rw[if_neg aj];refine a0 (cx aj) ?_;exact(cE (R3 a4)).trans rfl
  rw[if_pos (.inr hm),cG hm];exact aL (a:=(true,())) (a0 (i_ a4) rfl) (a? rfl (t? s))
 rw[if_pos (.inl a4)];exact aL (a:=(true,())) (b4 (lO a4)) (a? rfl (t? s))
def at9{s:aH}(h:bw m s)(n:d'):bw m (Cc s n):=by
 have aO:bw m ⟨AN s.e,s.p⟩:=⟨{ h.e with askr:=.inl rfl,ph:=⟨by show(0:Int)<=3;omega,by show(3:Int)<=8;omega⟩ },h.p⟩;unfold Cc;split
 .exact oO h 3
 split
 .exact UH aO _
 exact aO
def rC(t:Int):Int:=t/10%10
def sG(m:M):Prop:=(rC m.1=1\/rC m.1=3)/\u? m
instance (m:M):Decidable (sG m):=by unfold sG;infer_instance
def sF:bT:=(39,[57,49],())
def ua(m:M):M:=(m.1+10,(if(ii 11 m.2.1).2.1=true then[(11,(ii 11 m.2.1).1,()),sF]else[sF]),())
def yV(s:aH)(q:Int)(b:aa)(m:M):aH:=
 if ¬vf m.1 then gV s 3 else if nh s.e.ph then ug s (if sG m then 3 else 2) q b
 else if ¬s.e.ph=6\/¬(tj m.1).2.1=true then gV s 3 else(gp s (f7 (ua m))).1
def aaI:fT 39 [57,49]=true:=bN
def aa8{no:Int}:∀{l:List bT},(ii no l).2.1=true->∃v∈l,v.1=no/\(ii no l).1=v.2.1
 |v::l,h=>by
  unfold ii at h ⊢;split at h
  .grind
  rename_i e;obtain⟨u,aM,O,R⟩:=aa8 h
  grind
def Ww{m:M}(aj:h_ m=true)(h:(ii 11 m.2.1).2.1=true):fT 11 (ii 11 m.2.1).1=true:=by
 obtain⟨v,aD,O,R⟩:=aa8 h;have:=(r' (qf.1 aj).1 v aD).2
 grind
def am0{m:M}(aj:h_ m=true)(hp:(tj m.1).2.1=true):h_ (ua m)=true:=by
 refine qf.2 ⟨?_,?_⟩
 .unfold ua
  dsimp only;split
  .rename_i h
   unfold fZ fZ fZ sF;rw[cM,cM,cM,cM];exact⟨decide_eq_true J,Ww aj h,decide_eq_true J,aaI,rfl⟩
  decide
 unfold tj at hp;split at hp
 .rename_i h
  obtain⟨⟨dW,eF,mv,yS⟩,R⟩:=h;show hD (m.1+10);unfold hD;omega
 cases hp
def anX{t:Int}(h:hD t):ej (i64 (ga t 10)) 10=rC t:=by have O:=h.1;have R:=h.2.1;unfold rC;simp(disch:=omega) only[go_sem]
def aoE{m:M}(aj:h_ m=true):Lr (m,())=some (D (sG m),()):=by
 have hf:=qf.1 aj;have hl:=(Eb aj).1;unfold Lr sG;rw[aa4 hf.1 J,anX hf.2];by_cases O:rC m.1=1
 .rw[cL O]
  refine aL (a:=(D (u? m),())) rfl (pt ⟨λh=>⟨.inl O,h⟩,λh=>h.2⟩)
 rw[cx O];by_cases ai:rC m.1=3
 .rw[cL ai]
  refine aL (a:=(D (u? m),())) rfl (pt ⟨λh=>⟨.inr ai,h⟩,λh=>h.2⟩)
 rw[cx ai,show D ((rC m.1=1\/rC m.1=3)/\u? m)=false from cG (λh=>Or.elim h.1 O ai)];rfl
def aoD{s:aH}(ae:bw n s)(am:n<=1000000000000){m:M}(aj:h_ m=true):Lq (s.t,m,())=some ((if ¬(tj m.1).2.1=true then gV s 3 else(gp s (f7 (ua m))).1).t,()):=by
 have hf:=qf.1 aj;have hl:=(Eb aj).1;unfold Lq;dsimp only;rw[asG];by_cases hp:(tj m.1).2.1=true
 .rw[if_neg (not_not_intro hp)]
  refine a0 (by rw[hp];rfl) ?_;have ht:(tj m.1).1=m.1+10:=by
   unfold tj at hp ⊢
   grind
  have aI:=am0 aj hp;have aqb:=(Eb aI).2;have bu:=TJ _ aqb;rw[if_pos aI]at bu;rw[ht,show ko ((m.1+10,aP (Int×aa×Unit),()),39,[u8 57,u8 49],())=some ((m.1+10,[sF],()),0,()) by rw[L? _ _ _ (by show(0:Nat)<=100000;omega) bf];unfold El;rw[ if_pos (show fT 39 [u8 57,u8 49]=true from aaI)];rfl]
  refine aL rfl ?_;rw[TH _ _ J,R6 hf.1];refine aL rfl ?_;cases hh:(ii 11 m.2.1).2.1
  .refine a0 rfl ?_
   have e:ua m=(m.1+10,[sF],()):=by unfold ua;rw[hh];rfl
   rw[e]at bu ⊢;refine aL bu ?_;exact(cE (yi ae am _)).trans rfl
  refine a? rfl ?_;have e:ua m=(m.1+10,[(11,(ii 11 m.2.1).1,()),sF],()):=by unfold ua;rw[hh];rfl
  rw[e]at bu ⊢;have pY:=Ww aj hh;have au:=RP pY;rw[show ko ((m.1+10,[sF],()),11,(ii 11 m.2.1).1,())=some ((m.1+10,[(11,(ii 11 m.2.1).1,()),sF],()),0,()) by rw[L? _ _ _ bf J];unfold El;rw[ if_pos pY];rfl]
  refine aL rfl (aL bu ?_);exact(cE (yi ae am _)).trans rfl
 rw[if_pos hp];refine a? (by rw[O?.2 hp];rfl) (t? s)
def aoC{s:aH}(ae:bw n s)(am:n<=1000000000000){m:M}(aj:h_ m=true)(v:dr):Ga (s.t,v,m,())=some ((yV s v.2.2.2.2.1 v.2.2.2.2.2.1 m).t,()):=by
 unfold Ga yV;rw[aa5];by_cases ht:vf m.1
 .rw[if_neg (not_not_intro ht)]
  refine a0 (by rw[cC ht];rfl) ?_;refine aL (H? s.e.ph) ?_;by_cases hg:nh s.e.ph
  .rw[if_pos hg]
   refine a? (cC hg) (aL (aoE aj) ?_);have ars:R4 ((D (sG m),()).1,3,2,())=some ((if sG m then 3 else 2),()):=by
    by_cases aI:sG m
    .rw[cC aI,if_pos aI];rfl
    rw[cG aI,if_neg aI];rfl
   refine aL ars ?_;exact(cE (aa3 ae am _ _ _)).trans rfl
  rw[if_neg hg];refine a0 (cG hg) ?_;by_cases cQ:s.e.ph=6
  .refine a? (cL cQ) ((cE (aoD ae am aj)).trans ?_)
   by_cases hp:(tj m.1).2.1=true
   .rw[if_neg (not_not_intro hp),if_neg (λh=>h.elim (λh=>h cQ) (λh=>h hp))];rfl
   rw[if_pos hp,if_pos (.inr hp)];rfl
  rw[if_pos (.inl cQ)];exact a0 (cx cQ) (t? s)
 rw[if_pos ht];exact a? (by rw[cG ht];rfl) (t? s)
def auv{s:aH}(h:bw n s)(q:Int)(b:aa)(m:M):bw (n+1) (yV s q b m):=by
 unfold yV;split
 .exact dq (oO h 3) J
 split
 .exact UG h _ _ _
 split
 .exact dq (oO h 3) J
 exact q4 h _
def ey(a:aa):Nat:=256*(a.getD 0 0).toNat+(a.getD 1 0).toNat
def ie:Nat->Int->aa->aa×Nat×Int×List aa
 |0,bad,a=>(a,0,bad,[])
 |k+1,bad,a=>
  if a.length<2 then(a,0,bad,[])
  else if ey a=0\/1024<ey a then
   (if 2+ey a<=a.length then ie k (i64 (bad+1)) (a.drop (2+ey a)) else([],2+ey a-a.length,i64 (bad+1),[]))
  else if a.length<2+ey a then(a,0,bad,[])
  else((ie k bad (a.drop (2+ey a))).1,(ie k bad (a.drop (2+ey a))).2.1,(ie k bad (a.drop (2+ey a))).2.2.1,(a.drop 2).take (ey a)::(ie k bad (a.drop (2+ey a))).2.2.2)
def jm(f:o0)(b:aa):o0×List aa:=
 if(f.1++b).length<f.2.1.toNat then(([],f.2.1-((f.1++b).length:Int),f.2.2.1,()),[])
 else let r:=ie (f.1++b).length f.2.2.1 ((f.1++b).drop f.2.1.toNat)
  ((r.1,(r.2.1:Int),r.2.2.1,()),r.2.2.2)
def kj(c:Int):Prop:=0<=c/\c<4
instance (c:Int):Decidable (kj c):=by unfold kj;infer_instance
def mw(h:ef)(c:Int):Prop:=an h.1 c.toNat false=true
instance (h:ef) (c:Int):Decidable (mw h c):=by unfold mw;infer_instance
def l2(h:ef)(c:Int):ef×Int:=
 if ¬kj c then(h,1) else if mw h c then(h,9) else((cg h.1 c.toNat true,cg h.2.1 c.toNat ec,cg h.2.2.1 c.toNat (i64 (an h.2.2.1 c.toNat 0+1)),h.2.2.2),0)
def lP(h:ef)(c:Int):ef×Int:=
 if ¬kj c then(h,1) else if ¬mw h c then(h,9) else((cg h.1 c.toNat false,cg h.2.1 c.toNat ec,h.2.2),0)
def hn(h:ef)(c:Int)(b:aa):ef×List aa×Int:=
 if ¬kj c then(h,[],1) else if ¬mw h c then(h,[],11)
 else((h.1,cg h.2.1 c.toNat (jm (an h.2.1 c.toNat ec) b).1,h.2.2),(jm (an h.2.1 c.toNat ec) b).2,0)
def vd(g:Nat->Bool):Nat->Nat
 |0=>0
 |k+1=>vd g k+(if g k then 2^k else 0)
def o_(g:Nat->Bool):List UInt64:=(List.range 16).map λi=>UInt64.ofNat (vd (λj=>g (64*i+j)) 64)
def xS(w:gS)(n:Int):Prop:=w.1<=n\/w.1-1024<=n/\jL w (n%1024).toNat=false
instance (w:gS) (n:Int):Decidable (xS w n):=by unfold xS;infer_instance
def xE(w:gS)(n:Int)(p:Nat):Prop:=∃m,w.1<=m/\m<n/\m%1024=(p:Int)
def j_(w:gS)(n:Int):gS×Int:=
 if ¬dP n then(w,1) else if ¬xS w n then(w,6)
 else((max w.1 (n+1),o_ (λp=>mB (D ((p:Int)=n%1024)) (cV (jL w p) (D (¬xE w n p)))),()),0)
def I?(r:e?):e?:=(r.1,if r.2.2.2.1<=1 then j' else r.2.1,r.2.2.1,max 0 (r.2.2.2.1-1),r.2.2.2.2)
def m1(a:gB):gB×Bool×Bool:=
 if a=kw then(a,false,false) else if 1<a.2.2.1 then((a.1,a.2.1,a.2.2.1-1,a.2.2.2),false,false)
 else if 0<a.2.2.2.1 then((a.1,a.2.1,8,a.2.2.2.1-1,a.2.2.2.2),true,false) else(kw,false,true)
def pw(e:c_)(v:dr):Prop:=¬v.2.1=1-e.id\/e.ph=7\/e.ph=8\/v.1=2/\(¬kq e.ph\/¬v.2.2.1=fX e\/(qH e.ring v.2.2.2.1).2.1=false)
instance (e:c_) (v:dr):Decidable (pw e v):=by unfold pw kq;infer_instance
def wq(e:c_)(v:dr):aa:=if v.1=2 then(qH e.ring v.2.2.2.1).1 else hs e.key
def hJ(s:aH)(v:dr):dw×Bool×Unit:=uY s.p (wq s.e v) (cn v) v.2.2.2.2.2.2.1
def gR(s:aH)(b:aa):aH×Option dr:=
 if ¬(ev b).2.1=0 then(gV s 0,none)
 else if pw s.e (ev b).1 then(gV s 3,none)
 else if(hJ s (ev b).1).2.1=false then(gV ⟨s.e,(hJ s (ev b).1).1⟩ 1,none)
 else if(ev b).1.1=1 then(⟨s.e,(hJ s (ev b).1).1⟩,some (ev b).1)
 else if ¬(j_ s.e.win (ev b).1.2.2.2.2.1).2=0 then(gV ⟨s.e,(hJ s (ev b).1).1⟩ 2,none)
 else(⟨{ s.e with win:=(j_ s.e.win (ev b).1.2.2.2.2.1).1,ring:=pc s.e (ev b).1.2.2.2.1 },(hJ s (ev b).1).1⟩,some (ev b).1)
def wS(s:aH)(n:d'):aH:=
 if n.2.1=101 then(if n.1=true then AJ s n else Ce s n) else if n.2.1=201 then(if n.1=true then Rh s n else Cc s n) else yp s n
def mD(s:aH)(v:dr):aH:=
 if v.1=2 then
  (if(ky v.2.2.2.2.2.1).2.1=0 then wS (pV s) (ky v.2.2.2.2.2.1).1
   else if(e9 v.2.2.2.2.2.1).2.1=0 then yV (pV s) v.2.2.2.2.1 v.2.2.2.2.2.1 (e9 v.2.2.2.2.2.1).1 else gV (pV s) 0)
 else(if(ky v.2.2.2.2.2.1).2.1=0 then qL s v (ky v.2.2.2.2.2.1).1 else gV s 0)
def iG(s:aH)(b:aa):aH:=match(gR s b).2 with|none=>(gR s b).1|some v=>mV (mD (gR s b).1 v)
def uj(s:aH):List aa->aH
 |[]=>s
 |b::l=>if s.e.ph=8 then s else uj (iG s b) l
def xu(cS:List Int)(d:Int):List Int:=cg cS 0 (i64 (an cS 0 0+d))
def qF(s:aH)(c:Int)(b:aa):aH:=
 ⟨{ s.e with cS:=xu s.e.cS (i64 ((an (hn s.e.hub c b).1.2.1 c.toNat ec).2.2.1-(an s.e.hub.2.1 c.toNat ec).2.2.1)),hub:=(hn s.e.hub c b).1 },s.p⟩
def o9(s:aH)(c:Int)(b:aa):aH:=if ¬(hn s.e.hub c b).2.2=0 then s else uj (qF s c b) (hn s.e.hub c b).2.1
def zq(s:aH)(a:gB):aH:=if a.1=1 then(ps s 0 a.2.2.2.2.1).1 else(gp s a.2.2.2.2.1).1
def zy(s:aH):aH:=if s.e.ph=4 then xW s else if s.e.ph=5 then zM s else zN s
def Iv(s:aH):aH:=⟨{ s.e with ring:=I? s.e.ring },s.p⟩
def y3(s:aH)(a:gB):aH:=⟨{ s.e with ask:=a },s.p⟩
def ve(s:aH):aH:=
 if(m1 s.e.ask).2.1=true then zq (y3 s (m1 s.e.ask).1) (m1 s.e.ask).1
 else if(m1 s.e.ask).2.2=true then zy (y3 s (m1 s.e.ask).1) else y3 s (m1 s.e.ask).1
def lj(s:aH):aH:=
 if s.e.ph=7\/s.e.ph=8 then s
 else if kq s.e.ph then(if s.e.seq=4611686018427387904 then(r5 (Iv s)).1 else mV (ve (Iv s)))
 else mV (ve s)
def wM(s:aH)(c:Int):aH×Int:=
 if s.e.ph=8 then(s,11) else if ¬(l2 s.e.hub c).2=0 then(s,(l2 s.e.hub c).2) else(mV ⟨{ s.e with hub:=(l2 s.e.hub c).1 },s.p⟩,0)
def oC(e:c_)(c:Int):c_:={ e with hub:=(lP e.hub c).1 }
abbrev ge:=Int×Int×Int×Int×aa×Unit
def sI(s:aH)(a:ge):aH×Int:=
 if a.1=0 then tw s a.2.2.2.2.1 else if a.1=1 then r5 s else if a.1=2 then zv s else if a.1=3 then zB s else if a.1=4 then AC s a.2.2.2.2.1
 else if a.1=5 then zA s a.2.2.1 else if a.1=6 then(lj s,0) else if a.1=14 then(xG s,0)
 else if a.1=15 then(if s.e.ph=8 then(Co s,0) else(s,9)) else if a.1=16 then(⟨{ s.e with power:=a.2.2.1 },s.p⟩,0) else(s,1)
abbrev dX:=Int×Int×aa×Unit
structure bO where
 e:Bool->c_
 p:dw
 a8:List dX
 old:List dX
 eJ:Bool->List jr
def jn{α:Type}(f:Bool->α)(i:Bool)(x:α):Bool->α:=λj=>if j=i then x else f j
def bO.at(w:bO)(i:Bool):aH:=⟨w.e i,w.p⟩
def dn(i:Bool):Int:=if i then 1 else 0
def i'(w:bO)(c:Int):bO:={ w with e:=λi=>oC (w.e i) c,a8:=w.a8.filter λf=>decide (¬f.2.1=c) }
def zu(w:bO):bO:=i' (i' (i' (i' w 0) 1) 2) 3
def jE(i:Bool)(x:pI):dX:=(1-dn i,x.1,x.2.1,())
def mG(w:bO)(i:Bool)(s:aH):bO:=
 { e:=jn w.e i { s.e with bz:=[],got:=[] },p:=s.p,a8:=w.a8++s.e.bz.map (jE i),old:=w.old++s.e.bz.map (jE i),eJ:=jn w.eJ i (w.eJ i++s.e.got) }
def j4(w:bO)(i:Bool)(s:aH):bO:=if s.e.ph=8/\¬(w.e i).ph=8 then zu (mG w i s) else mG w i s
def lE(n:Int):Bool:=decide (n=1)
def lM(w:bO)(i:Bool)(c:Int)(b:aa):bO:=j4 w i (o9 (w.at i) c b)
def ns:dX:=(0,0,[],())
def j5(w:bO)(n m:Int):bO×Int:=
 if ¬(0<=n/\n<(w.a8.length:Int)) then(w,12)
 else let f:=an w.a8 n.toNat ns
  if 0<m/\m<(f.2.2.1.length:Int) then(lM { w with a8:=w.a8.set n.toNat (f.1,f.2.1,f.2.2.1.drop m.toNat,()) } (lE f.1) f.2.1 (f.2.2.1.take m.toNat),0)
  else(lM { w with a8:=w.a8.eraseIdx n.toNat } (lE f.1) f.2.1 f.2.2.1,0)
def sJ(w:bO)(n:Int):bO×Int:=if ¬(0<=n/\n<(w.a8.length:Int)) then(w,12) else({ w with a8:=w.a8.eraseIdx n.toNat },0)
def Ft(w:bO)(n:Int):bO×Int:=if ¬(0<=n/\n<(w.old.length:Int)) then(w,12) else({ w with a8:=w.a8++[an w.old n.toNat ns] },0)
def pu(b:aa)(m:Nat)(x:UInt8):aa:=cg b m (an b m (u8 0)^^^x)
def Bi(w:bO)(n m:Int)(b:aa):bO×Int:=
 if ¬(0<=n/\n<(w.old.length:Int))\/¬(0<=m/\m<((an w.old n.toNat ns).2.2.1.length:Int))\/b=[]then(w,12)
 else let f:=an w.old n.toNat ns
  ({ w with a8:=w.a8++[(f.1,f.2.1,pu f.2.2.1 m.toNat (an b 0 (u8 0)),())] },0)
def Hg(w:bO)(i c:Int)(b:aa):bO×Int:=if ¬(0<=i/\i<2) then(w,1) else(lM w (lE i) c b,0)
def r_(w:bO)(i:Bool)(c:Int):bO:=j4 w i (wM (w.at i) c).1
def A1(w:bO)(c:Int):bO×Int:=
 if(w.e false).ph=8\/(w.e true).ph=8 then(w,11) else if ¬kj c then(w,1)
 else if mw (w.e false).hub c\/mw (w.e true).hub c then(w,9) else(r_ (r_ w false c) true c,0)
def FT(w:bO)(c:Int):bO×Int:=if ¬kj c then(w,1) else(i' w c,0)
def nc:Nat->bO->bO
 |0,w=>w
 |k+1,w=>if w.a8=[]then w else nc k (j5 w 0 0).1
def oe(w:bO)(i:Bool):bO:=j4 w i (lj (w.at i))
def jV(w:bO):bO:=oe (oe (nc w.a8.length w) false) true
def k2:Nat->bO->bO
 |0,w=>w
 |k+1,w=>k2 k (jV w)
def sB(w:bO)(a:ge):bO×Int:=if ¬(0<=a.2.1/\a.2.1<2) then(w,1) else(j4 w (lE a.2.1) (sI (w.at (lE a.2.1)) a).1,(sI (w.at (lE a.2.1)) a).2)
def eX(w:bO)(a:ge):bO×Int:=
 if a.1=7 then j5 w a.2.2.1 a.2.2.2.1 else if a.1=8 then sJ w a.2.2.1 else if a.1=9 then Ft w a.2.2.1 else if a.1=10 then Bi w a.2.2.1 a.2.2.2.1 a.2.2.2.2.1
 else if a.1=11 then Hg w a.2.1 a.2.2.1 a.2.2.2.2.1 else if a.1=12 then A1 w a.2.2.1 else if a.1=13 then FT w a.2.2.1
 else if a.1=17 then(if a.2.2.1<0 then(w,1) else(k2 (min a.2.2.1 100).toNat w,0))
 else if 0<=a.1/\a.1<=6\/14<=a.1/\a.1<=16 then sB w a else(w,1)
def hB(w:bO):List ge->bO×List Int
 |[]=>(w,[])
 |a::l=>((hB (eX w a).1 l).1,(eX w a).2::(hB (eX w a).1 l).2)
def sM(i:Bool)(key:aa):c_:=⟨dn i,key,0,DG, -1,0,0,0,0,tb,oN,kw,0,0,[],dv,[],[],[0,0,0,0]⟩
def hY(key:aa)(e5:Bool):bO:=⟨λi=>sM i key,(e5,[],false,()),[],[],λ_=>[]⟩
def azv{n:Int}(h:aah n):mH (pp n)=(n,true,()):=by
 have ht:jq (pp n) 0 8=(n,8,0,()):=by
  refine ahw (b:=pp n) (A:=0) (W:=8) (n:=n) J J (by rw[M8];omega) (by have:=h.1;omega) ?_ h.2 ?_
  .have:=h.2
   omega
  rfl
 unfold mH;rw[ht,if_pos ⟨rfl,h,rfl⟩]
def Pj:=@Nat.mul_assoc
def V4(g:Nat->Bool):∀k,vd g k<2^k
 |0=>by simp[vd]
 |k+1=>by
  have:=V4 g k;unfold vd
  grind
def aho(g:Nat->Bool)(j:Nat):∀k,j<k->vd g k/2^j%2=if g j then 1 else 0
 |k+1,h=>by
  unfold vd;by_cases aqR:j=k
  .subst aqR
   have:=V4 g j;have hp:0<2^j:=PE J;split
   .rw[Nat.add_div_right _ hp,zn this]
   rw[xj,zn this]
  have ih:=aho g j k J;split
  .obtain⟨d,rfl⟩:∃d,k=j+1+d:=⟨k-j-1,J⟩
   have hp:0<2^j:=PE J;have e:2^(j+1+d)=2^j*(2*2^d):=by rw[Nat.pow_add,J0,Pj]
   rw[<- ih,e,Nat.add_mul_div_left _ _ hp];omega
  omega
def FB(g:Nat->Bool):(o_ g).length=16:=by simp[o_]
def Cn(t:Int)(g:Nat->Bool){p:Nat}(hp:p<1024):jL (t,o_ g,()) p=g p:=by
 have e:an (o_ g) (p/64) (u64 0)=UInt64.ofNat (vd (λj=>g (64*(p/64)+j)) 64):=by
  unfold an o_
  grind
 have bi:=V4 (λj=>g (64*(p/64)+j)) 64;have hm:(UInt64.ofNat (vd (λj=>g (64*(p/64)+j)) 64)).toNat=vd (λj=>g (64*(p/64)+j)) 64:=by rw[UInt64.toNat_ofNat'];exact tN bi
 unfold jL;rw[ e,hm,aho _ _ 64 (sx _ J)]
 grind
def yU(w:gS)(q:Int):Prop:=q<w.1-1024\/q<w.1/\jL w (q%1024).toNat=true
def atl{w:gS}{n:Int}(h:(j_ w n).2=0):dP n/\xS w n/\j_ w n=((max w.1 (n+1),o_ (λp=>mB (D ((p:Int)=n%1024)) (cV (jL w p) (D (¬xE w n p)))),()),0):=by
 by_cases O:dP n
 .by_cases R:xS w n
  .refine⟨O,R,?_⟩
   unfold j_
   grind
  unfold j_ at h
  grind
 unfold j_ at h
 grind
def adz(m:Int):0<=m%1024/\(m%1024).toNat<1024/\(((m%1024).toNat:Nat):Int)=m%1024:=⟨J,J,J⟩
def atm{w:gS}{n:Int}(hf:xS w n):¬yU w n:=by
 rintro(h|⟨ai,au⟩)
 .rcases hf with a4|⟨a4,_⟩<;>omega
 rcases hf with a4|⟨_,a4⟩
 .omega
 grind
def adt{t n:Int}(h:n<t){g:Nat->Bool}(hg:g (n%1024).toNat=true):yU (t,o_ g,()) n:=by refine .inr ⟨h,?_⟩;rw[Cn _ _ (adz n).2.1];exact hg
def atn{w:gS}{n m:Int}(h:yU w m):yU (max w.1 (n+1),o_ (λp=>mB (D ((p:Int)=n%1024)) (cV (jL w p) (D (¬xE w n p)))),()) m:=by
 rcases h with hm|⟨hm,aqZ⟩
 .refine .inl ?_
  omega
 by_cases aqX:m<max w.1 (n+1)-1024
 .exact .inl aqX
 refine adt J ?_;rw[aqZ];by_cases ah:xE w n (m%1024).toNat
 .exfalso
  obtain⟨x,a4,cQ,eh⟩:=ah;omega
 rw[cC ah];exact g47
def Ue{w:gS}{n:Int}(h:(j_ w n).2=0):dP n/\¬yU w n/\yU (j_ w n).1 n/\(∀m,yU w m->yU (j_ w n).1 m)/\(j_ w n).1.1=max w.1 (n+1)/\(j_ w n).1.2.1.length=16:=by
 have hh:=atl h;refine⟨hh.1,atm hh.2.1,?_,λm hm => ?_,congrArg (λx:gS×Int=>x.1.1) hh.2.2,?_⟩
 .rw[hh.2.2]
  refine adt J ?_;rw[cC (adz n).2.2];exact g46
 .rw[hh.2.2]
  exact atn hm
 rw[hh.2.2];dsimp only;exact FB _
def R_(b:aa):Prop:=¬(ky b).2.1=0/\(e9 b).2.1=0/\vf (e9 b).1.1/\¬sG (e9 b).1
def Id{p:dw}{k b:aa}{x:BR}:x∈(h9 p k b).2.1↔x∈p.2.1\/x=(k,b,()):=by
 unfold h9
 grind
def M7{b:aa}(h:(ev b).2.1=0):oQ (ev b).1/\(ev b).1=po b/\47<=b.length/\b.length<=946:=by
 unfold ev at h ⊢
 grind
def amC(s:aH)(v:dr):(hJ s v).1.1=s.p.1/\(hJ s v).1.2.1=s.p.2.1:=by
 unfold hJ uY
 grind
def amD{s:aH}{v:dr}(ac:s.p.1=true)(h:¬(hJ s v).2.1=false):(wq s.e v,cn v,())∈s.p.2.1:=by
 unfold hJ uY at h;split at h
 .split at h
  .assumption
  rw[ac]at h;exact absurd rfl h
 exact absurd rfl h
def aaa(s:aH)(v:dr)(k:aa):(nf s v k).1.e.ph=s.e.ph/\(nf s v k).1.e.queue=s.e.queue/\(nf s v k).1.e.got=s.e.got:=by unfold nf;split<;>exact⟨rfl,rfl,rfl⟩
def axa(s:aH)(b:aa):(gp s b).1.e.ph=s.e.ph/\(gp s b).1.e.queue=s.e.queue/\(gp s b).1.e.got=s.e.got:=by
 unfold gp;split
 .exact⟨rfl,rfl,rfl⟩
 split
 .exact⟨rfl,rfl,rfl⟩
 split
 .exact⟨rfl,rfl,rfl⟩
 dsimp only;split
 .exact aaa _ _ _
 exact aaa _ _ _
def r4(s:aH):Prop:=∃n,bw n s
def Vc{b:aa}(h:(ev b).2.1=0):(ev b).1.2.2.1=[eM (ev b).1,e1 (ev b).1]:=by
 unfold ev at h ⊢;split at h
 .cases h
 split at h
 .cases h
 split at h
 .rename_i O R ai
  rw[if_neg O,if_neg R,if_pos ai];rfl
 cases h
def Oq{s:aH}{b:aa}{v:dr}(h:(gR s b).2=some v):(ev b).2.1=0/\v=(ev b).1:=by
 unfold gR at h
 grind
def Zr(s:aH)(v:dr):(hJ s v).1.2.1=s.p.2.1:=by
 unfold hJ uY
 repeat(first|rfl|split)
def awr{e:c_}(h:ms e.ring)(g:Int):ms (pc e g):=by
 unfold pc;split
 .exact Vr h
 exact h
def aew{s:aH}(h:bw n s)(b:aa):bw n (gR s b).1:=by
 have hp:∀v,bw n ⟨s.e,(hJ s v).1⟩:=λv=>⟨h.e,by show(hJ s v).1.2.1.length<=n;rw[Zr];exact h.p⟩;unfold gR;split
 .exact oO h 0
 split
 .exact oO h 3
 split
 .exact oO (hp _) 1
 split
 .grind
 split
 .exact oO (hp _) 2
 rename_i O R ai au a4;have hm:=Ue (zg.1 a4);have cy:=hm.1;have mg:=h.e.top;unfold dP at cy;refine⟨{ (hp (ev b).1).e with win:=hm.2.2.2.2.2,ring:=awr h.e.ring _,top := ?_ },(hp _).p⟩
 grind
def aup{s:aH}(h:bw n s)(q:d'):bw (n+1) (AJ s q):=by
 unfold AJ;split
 .exact dq (oO h 3) J
 split
 .exact q4 h _
 split
 .exact q4 h _
 split
 .split
  .exact q4 (H0 h (Iu (Nw h.e.ring) _ _)) _
  exact dq (oO h 3) J
 split
 .exact q4 (aey h (Iu h.e.ring _ _)) _
 exact dq (oO h 3) J
def aeo{s:aH}(h:bw n s):bw n (xW s):=by
 unfold xW;split
 .exact H0 h (Nw h.e.ring)
 exact h
def aua{s:aH}(h:bw n s)(q:d'):bw (n+1) (Ce s q):=by
 unfold Ce;split
 .exact dq (oO h 3) J
 split
 .exact dq (aeo h) J
 exact AM (H0 h (Vr h.e.ring)) _
def aun{s:aH}(h:bw n s)(b:aa):bw (n+1) (AC s b).1:=by
 unfold AC;split
 .exact dq h J
 split
 .exact dq h J
 split
 .exact dq h J
 split
 .exact dq h J
 exact AM (aep h _ _) _
def aus{s:aH}(h:bw n s)(q:d'):bw (n+2) (wS s q):=by
 unfold wS;split
 .split
  .exact dq (aup h q) J
  exact dq (aua h q) J
 split
 .split
  .exact dq (aug h q) J
  exact dq (at9 h q) J
 exact auo h q
def aei{s:aH}(h:bw n s){v:dr}(aD:∀k:Nat,dP (an v.2.2.1 k 0)):bw (n+3) (mD s v):=by
 have hf:=aem h;unfold mD;split
 .split
  .exact aus hf _
  split
  .exact dq (auv hf _ _ _) J
  exact dq (oO hf 0) J
 split
 .exact aum h aD _
 exact dq (oO h 0) J
def aen{s:aH}(h:bw n s)(b:aa):bw (n+1003) (iG s b):=by
 have ht:=aew h b;unfold iG;split
 .exact dq ht J
 rename_i v aD;obtain⟨O,rfl⟩:=Oq aD;have aj:oQ (ev b).1:=by
  unfold ev at O ⊢
  grind
 refine HX (aei ht λk => ?_);rw[Vc O];match k with
 |0=>exact aj.1.2.1
 |1=>exact aj.1.2.2.1
 |k+2=>show dP 0;decide
def aee:∀(l:List aa) {s:aH},r4 s->r4 (uj s l)
 |[],s,h=>h
 |b::l,s,h=>by
  unfold uj;split
  .exact h
  obtain⟨n,h⟩:=h;exact aee l ⟨_,aen h b⟩
def RF{l:List o0}{x:o0}(hx:qe x)(hl:∀c,qe (an l c ec))(i c:Nat):qe (an (cg l i x) c ec):=by
 unfold an cg;rw[nE,B_];split
 .split
  .exact hx
  exact yJ
 rw[<- nE];exact hl c
theorem azt(a:aa)(s b:Int):K? (a,s,b,())=(ey a:Int):=rfl
def ayn(a:aa):ey a<=65535:=by have O:=(a.getD 0 0).toNat_lt;have R:=(a.getD 1 0).toNat_lt;unfold ey;omega
def Rd:∀(k:Nat) (bad:Int) (a:aa),a.length<=k->qe ((ie k bad a).1,((ie k bad a).2.1:Int),(ie k bad a).2.2.1,())
 |0,bad,a,h=>by have bc:a=[]:=List.eq_nil_of_length_eq_zero J;subst bc;exact⟨by show ¬((0:Int)<0\/(65535:Int)<0\/(0:Int)<0/\0<0);omega,.inl (by show 0<2;omega)⟩
 |k+1,bad,a,h=>by
  have ht:=ayn a;unfold ie;split
  .rename_i O
   exact⟨by show ¬((0:Int)<0\/(65535:Int)<0\/(0:Int)<0/\0<a.length);omega,.inl O⟩
  split
  .split
   .exact Rd k _ _ (by grind)
   rename_i R ai;refine⟨?_,.inl bf⟩
   grind
  split
  .rename_i R ai
   refine⟨by show ¬((0:Int)<0\/(65535:Int)<0\/(0:Int)<0/\0<a.length);omega,.inr ?_⟩;show 1<=(ey a:Int)/\(ey a:Int)<=1024/\(a.length:Int)<(ey a:Int)+2;omega
  exact Rd k _ _ (by grind)
def avj{f:o0}(h:qe f)(b:aa):qe (jm f b).1:=by
 have O:=h.1;unfold jm;split
 .rename_i R
  refine⟨?_,.inl bf⟩
  grind
 exact Rd _ _ _ bf
def ael{s:aH}(h:bw n s)(c:Int)(b:aa):bw n (qF s c b):=by
 have key:(hn s.e.hub c b).1.1.length=4/\(0<=(hn s.e.hub c b).1.2.2.2.1/\(hn s.e.hub c b).1.2.2.2.1<4)/\(hn s.e.hub c b).1.2.1.length=4/\(hn s.e.hub c b).1.2.2.1.length=4/\∀k,qe (an (hn s.e.hub c b).1.2.1 k ec):=by
  unfold hn;split
  .exact⟨h.e.up,h.e.next,h.e.feed,h.e.life,h.e.fd⟩
  split
  .exact⟨h.e.up,h.e.next,h.e.feed,h.e.life,h.e.fd⟩
  refine⟨h.e.up,h.e.next,?_,h.e.life,RF (avj (h.e.fd _) b) h.e.fd _⟩;unfold cg;rw[kf];exact h.e.feed
 refine⟨{ h.e with cS := ?_,up:=key.1,next:=key.2.1,feed:=key.2.2.1,life:=key.2.2.2.1,fd:=key.2.2.2.2 },h.p⟩;show(xu _ _).length=4;unfold xu cg;rw[kf];exact h.e.cS
def at6{s:aH}(h:r4 s)(c:Int)(b:aa):r4 (o9 s c b):=by
 unfold o9;split
 .exact h
 obtain⟨n,h⟩:=h;exact aee _ ⟨n,ael h c b⟩
def auf{e:c_}(h:r3 n e)(c:Int):r3 n (oC e c):=by
 have key:(lP e.hub c).1.1.length=4/\(0<=(lP e.hub c).1.2.2.2.1/\(lP e.hub c).1.2.2.2.1<4)/\(lP e.hub c).1.2.1.length=4/\(lP e.hub c).1.2.2.1.length=4/\∀k,qe (an (lP e.hub c).1.2.1 k ec):=by
  unfold lP;split
  .exact⟨h.up,h.next,h.feed,h.life,h.fd⟩
  split
  .exact⟨h.up,h.next,h.feed,h.life,h.fd⟩
  refine⟨?_,h.next,?_,h.life,RF yJ h.fd _⟩
  .unfold cg;rw[kf];exact h.up
  unfold cg;rw[kf];exact h.feed
 exact{ h with up:=key.1,next:=key.2.1,feed:=key.2.2.1,life:=key.2.2.2.1,fd:=key.2.2.2.2 }
def aeu{s:aH}(h:bw n s)(c:Int):bw n ⟨{ s.e with hub:=(l2 s.e.hub c).1 },s.p⟩:=by
 have key:(l2 s.e.hub c).1.1.length=4/\(0<=(l2 s.e.hub c).1.2.2.2.1/\(l2 s.e.hub c).1.2.2.2.1<4)/\(l2 s.e.hub c).1.2.1.length=4/\(l2 s.e.hub c).1.2.2.1.length=4/\∀k,qe (an (l2 s.e.hub c).1.2.1 k ec):=by
  unfold l2;split
  .exact⟨h.e.up,h.e.next,h.e.feed,h.e.life,h.e.fd⟩
  split
  .exact⟨h.e.up,h.e.next,h.e.feed,h.e.life,h.e.fd⟩
  refine⟨?_,h.e.next,?_,?_,RF yJ h.e.fd _⟩
  .unfold cg;rw[kf];exact h.e.up
  .unfold cg;rw[kf];exact h.e.feed
  unfold cg;rw[kf];exact h.e.life
 exact⟨{ h.e with up:=key.1,next:=key.2.1,feed:=key.2.2.1,life:=key.2.2.2.1,fd:=key.2.2.2.2 },h.p⟩
def aur{s:aH}(h:bw n s)(c:Int):bw (n+1000) (wM s c).1:=by
 unfold wM;split
 .exact dq h J
 split
 .exact dq h J
 exact HX (aeu h c)
def awv{r:e?}(h:ms r):ms (I? r):=by
 unfold I?;rcases h with rfl|⟨O,R,ai,au,a4,cQ⟩
 .exact .inl rfl
 refine .inr ⟨O,R,ai,au,?_,cQ⟩
 grind
def HY{s:aH}(h:bw n s):bw n (Iv s):=⟨{ h.e with ring:=awv h.e.ring },h.p⟩
def Vq{a:gB}(h:A7 a):A7 (m1 a).1:=by
 unfold m1;split
 .exact h
 rename_i aq;obtain⟨O,R,ai,au,a4⟩:=h.resolve_left aq;split
 .refine .inr ⟨O,?_,?_,au,a4⟩
  .grind
  grind
 split
 .refine .inr ⟨O,by show(1:Int)<=8;decide,by show(8:Int)<=8;decide,?_,?_⟩
  .grind
  grind
 exact .inl rfl
def aez{s:aH}(h:bw n s){a:gB}(bc:A7 a):bw n (y3 s a):=⟨{ h.e with askr:=bc },h.p⟩
def auk{s:aH}(h:bw n s):bw n (zM s):=by
 unfold zM;split
 .exact⟨{ h.e with askr:=.inl rfl,ph:=⟨by show(0:Int)<=3;omega,by show(3:Int)<=8;omega⟩ },h.p⟩
 exact h
def at8{s:aH}(h:bw n s)(a:gB):bw (n+1) (zq s a):=by
 unfold zq;split
 .exact MO h _ _
 exact q4 h _
def aue{s:aH}(h:bw n s):bw (n+1) (zy s):=by
 unfold zy;split
 .exact dq (aeo h) J
 split
 .exact dq (auk h) J
 exact aul h
def UI{s:aH}(h:bw n s):bw (n+1) (ve s):=by
 have bu:=aez h (Vq h.e.askr);unfold ve;split
 .exact at8 bu _
 split
 .exact aue bu
 exact dq bu J
def aex{s:aH}(h:bw n s):bw (n+1001) (lj s):=by
 unfold lj;split
 .exact dq h J
 split
 .split
  .exact dq (aeq (HY h)) J
  exact HX (UI (HY h))
 exact HX (UI h)
def aui{s:aH}(h:bw n s)(a:ge):bw (n+1001) (sI s a).1:=by
 unfold sI;split
 .exact auu h _
 split
 .exact dq (aeq h) J
 split
 .exact dq (aud h) J
 split
 .exact dq (auj h) J
 split
 .exact dq (aun h _) J
 split
 .exact dq (auh h _) J
 split
 .exact aex h
 split
 .exact dq (aeh h) J
 split
 .split
  .exact dq (auc h) J
  exact dq h J
 split
 .exact dq ⟨{ h.e with },h.p⟩ J
 exact dq h J
def acw(c:Int):G3 (c,())=some (D (kj c),()):=by unfold G3 kj;simp only[go_sem]
def acx(h:ef)(c:Int)(b:Bool):G4 (h,c,b,()) =
  (if ¬kj c then some (h,1,()) else if an h.1 c.toNat false=b then some (h,9,()) else some ((cg h.1 c.toNat b,cg h.2.1 c.toNat ec,h.2.2),0,())):=by
 unfold G4;rw[acw];by_cases ah:kj c
 .rw[cC ah,if_neg (not_not_intro ah)]
  have au:aK c (bb 4)=true:=by unfold kj at ah;simp only[go_sem];exact ah
  refine a0 rfl (a6 au ?_);by_cases az:an h.1 c.toNat false=b
  .rw[if_pos az]
   exact b4 (by rw[g43,g33];exact cC az)
  rw[if_neg az];exact a0 (by rw[g43,g33];exact cG az) (a6 au (eG au))
 rw[cG ah,if_pos ah];rfl
def arQ(h:ef)(c:Int):LZ (h,c,())=some ((lP h c).1,(lP h c).2,()):=by
 unfold LZ lP;rw[acx];by_cases ah:kj c
 .rw[if_neg (not_not_intro ah),if_neg (not_not_intro ah)]
  by_cases az:an h.1 c.toNat false=false
  .rw[if_pos az,if_pos (by unfold mw;rw[az];simp)];rfl
  rw[if_neg az,if_neg (by unfold mw;rw[Xb]at az;exact not_not_intro az)];rfl
 rw[if_pos ah,if_pos ah];rfl
def arT(h:ef)(c:Int):L1 (h,c,())=some ((l2 h c).1,(l2 h c).2,()):=by
 unfold L1 l2;rw[acx];by_cases ah:kj c
 .rw[if_neg (not_not_intro ah),if_neg (not_not_intro ah)]
  have au:aK c (bb 4)=true:=by unfold kj at ah;simp only[go_sem];exact ah
  by_cases az:an h.1 c.toNat false=true
  .rw[if_pos az,if_pos (show mw h c from az)];rfl
  rw[if_neg az,if_neg (show ¬mw h c from az)];exact aL rfl (a? rfl (a6 au (eG au)))
 rw[if_pos ah,if_pos ah];rfl
def awA{r:e?}(h:0<=r.2.2.2.1/\r.2.2.2.1<=1000000):Nz (r,())=some (I? r,()):=by
 unfold Nz I?;have e:cX 0 (i64 (bg r.2.2.2.1 1))=max 0 (r.2.2.2.1-1):=by rw[g58,show i64 (bg r.2.2.2.1 1)=r.2.2.2.1-1 from hw (by show -9223372036854775808<=r.2.2.2.1-1;omega) (by show r.2.2.2.1-1<=9223372036854775807;omega)]
 rw[e];by_cases hl:r.2.2.2.1<=1
 .rw[if_pos hl];exact b4 (cL J)
 rw[if_neg hl];exact bU (cx J)
theorem aAg(r:e?):NB ((r,()),())=some ([r.1,r.2.1,r.2.2.1],()):=rfl
def awx(r:e?)(no:Int):Iw (r,no,())=some (qH r no):=by
 unfold Iw qH;refine aL rfl ?_;dsimp only;generalize hf:(λ(V:Bool×Int×Unit)=>(_:Option (aE (Bool×Int×Unit) (aa×Bool×Unit))))=f;have g:∀(i:Nat) (gt:xc),i<3->an [r.1,r.2.1,r.2.2.1] i ke=gt->f (false,(i:Int),())=if no<1\/¬gt.1=no then some (.nx (false,((i+1:Nat):Int),())) else some (.rt (gt.2.1,true,())):=by
  intro i gt ac hg;subst hf;have eH:i64 (aC (i:Int) 1)=((i+1:Nat):Int):=fL (by show(i:Int)+1=_;omega) J;refine a? (di (by show(i:Int)<3;omega)) (a6 cp ?_);rw[g1,hg,eH];by_cases aq:no<1
  .rw[if_pos (.inl aq)]
   exact aL (bU (cP J)) (bU rfl)
  by_cases O:gt.1=no
  .rw[if_neg (by rintro(h|h);exact aq h;exact h O)]
   exact aL (a:=(true,())) (a? (di J) (by rw[cL O])) (b4 rfl)
  rw[if_pos (.inr O)];exact aL (a:=(false,())) (a? (di J) (by rw[cx O])) (bU rfl)
 have e0:f (false,3,())=some (.ex 0 (false,3,())):=by subst hf;exact bU (cP (by show ¬(3:Int)<3;omega))
 have g0:=g 0 r.1 J rfl;have bj:=g 1 r.2.1 J rfl;have bm:=g 2 r.2.2.1 J rfl;by_cases aq:no<1
 .rw[if_pos aq]
  rw[if_pos (.inl aq)]at g0 bj bm;exact(cO ((eE g0).trans ((eE bj).trans ((eE bm).trans (dT e0))))).trans rfl
 rw[if_neg aq];by_cases O:r.1.1=no
 .rw[if_pos O]
  rw[if_neg (by rintro(h|h);exact aq h;exact h O)]at g0;exact(cO (n8 g0)).trans rfl
 rw[if_neg O];rw[if_pos (.inr O)]at g0;by_cases R:r.2.1.1=no
 .rw[if_pos R]
  rw[if_neg (by rintro(h|h);exact aq h;exact h R)]at bj;exact(cO ((eE g0).trans (n8 bj))).trans rfl
 rw[if_neg R];rw[if_pos (.inr R)]at bj;by_cases ai:r.2.2.1.1=no
 .rw[if_pos ai]
  rw[if_neg (by rintro(h|h);exact aq h;exact h ai)]at bm;exact(cO ((eE g0).trans ((eE bj).trans (n8 bm)))).trans rfl
 rw[if_neg ai];rw[if_pos (.inr ai)]at bm;exact(cO ((eE g0).trans ((eE bj).trans ((eE bm).trans (dT e0))))).trans rfl
def ajA{a:gB}(h:A7 a):Cj (a,())=some ((m1 a).1,(m1 a).2.1,(m1 a).2.2,()):=by
 unfold Cj m1;rw[XN];by_cases aq:a=kw
 .rw[cC aq,if_pos aq];rfl
 rw[cG aq,if_neg aq];rcases h with h|⟨_,O,R,ai,au⟩
 .grind
 have e1:i64 (bg a.2.2.1 1)=a.2.2.1-1:=hw (by show -9223372036854775808<=a.2.2.1-1;omega) (by show a.2.2.1-1<=9223372036854775807;omega);have aT:i64 (bg a.2.2.2.1 1)=a.2.2.2.1-1:=hw (by show -9223372036854775808<=a.2.2.2.1-1;omega) (by show a.2.2.2.1-1<=9223372036854775807;omega);rw[e1,aT];by_cases a4:1<a.2.2.1
 .rw[if_pos a4];exact b4 (di J)
 rw[if_neg a4];refine(bU (cP J)).trans ?_;by_cases cQ:0<a.2.2.2.1
 .rw[if_pos cQ,di cQ];rfl
 rw[if_neg cQ,cP cQ];rfl
def avb(p:dw)(k b t:aa)(ap:k.length<=1000000)(Y:b.length<=1000000):DY (p,k,b,t,())=some (uY p k b t):=by
 unfold DY;rw[U5 _ _ ap Y];refine aL rfl ?_;rw[Mq _ _ (by rw[yK];omega)];unfold uY;obtain⟨i,l,f,⟨⟩⟩:=p;by_cases ht:iC k b=t
 .rw[if_pos ht]
  refine a0 (by first|rw[IG ht];rfl|rw[cC ht];rfl) ?_;rw[ae1];by_cases h:(k,b,())∈l
  .rw[cC h,if_pos h];cases f<;>rfl
  rw[cG h,if_neg h];cases f<;>rfl
 rw[if_neg ht];exact b4 (by first|rw[NV ht];rfl|rw[cG ht];rfl)
def Fl:=@UInt64.toNat_inj
def tY:=@List.getElem_set_self
def auD(a b:UInt64):u64 (g? .u64 (cz a) (cz b))=a|||b:=by
 unfold g?;refine Fl.1 ?_;have bc:(BitVec.ofInt IntKind.u64.bits (cz a))=a.toBitVec:=by show BitVec.ofInt 64 ((a.toNat:Nat):Int)=_;rw[tL];exact xl bf
 have Y:(BitVec.ofInt IntKind.u64.bits (cz b))=b.toBitVec:=by show BitVec.ofInt 64 ((b.toNat:Nat):Int)=_;rw[tL];exact xl bf
 rw[bc,Y];have:=DE (a:=(((a|||b).toNat:Nat):Int)) (by have:=(a|||b).toNat_lt;omega);exact Fp this
def ajk(a b:UInt64):u64 (i9 .u64 (cz a) (cz b))=a&&&b:=by
 unfold i9;refine Fl.1 ?_;have bc:(BitVec.ofInt IntKind.u64.bits (cz a))=a.toBitVec:=by show BitVec.ofInt 64 ((a.toNat:Nat):Int)=_;rw[tL];exact xl bf
 have Y:(BitVec.ofInt IntKind.u64.bits (cz b))=b.toBitVec:=by show BitVec.ofInt 64 ((b.toNat:Nat):Int)=_;rw[tL];exact xl bf
 rw[bc,Y];have:=DE (a:=(((a&&&b).toNat:Nat):Int)) (by have:=(a&&&b).toNat_lt;omega);exact Fp this
def aza(a b:UInt64):u64 (fO .u64 (cz a) (cz b))=a^^^b:=by
 unfold fO;refine Fl.1 ?_;have bc:(BitVec.ofInt IntKind.u64.bits (cz a))=a.toBitVec:=by show BitVec.ofInt 64 ((a.toNat:Nat):Int)=_;rw[tL];exact xl bf
 have Y:(BitVec.ofInt IntKind.u64.bits (cz b))=b.toBitVec:=by show BitVec.ofInt 64 ((b.toNat:Nat):Int)=_;rw[tL];exact xl bf
 rw[bc,Y];have:=DE (a:=(((a^^^b).toNat:Nat):Int)) (by have:=(a^^^b).toNat_lt;omega);exact Fp this
def FA(w:gS)(p:Nat):jL w p=(an w.2.1 (p/64) (u64 0)).toNat.testBit (p%64):=by rw[Nat.testBit_eq_decide_div_mod_eq];rfl
def X2{l m:List UInt64}(hl:l.length=16)(hm:m.length=16){t u:Int}(h:∀p,p<1024->jL (t,l,()) p=jL (u,m,()) p):l=m:=by
 refine sv (hl.trans hm.symm) λi O R => ?_;refine Fl.1 (Nat.eq_of_testBit_eq λj => ?_);by_cases ao:j<64
 .have:=h (64*i+j) J
  rw[FA,FA,show(64*i+j)/64=i by omega,show(64*i+j)%64=j by omega]at this;rw[show an (((t,l,()):gS).2.1) i (u64 0)=l[i] from nth_get O,show an (((u,m,()):gS).2.1) i (u64 0)=m[i] from nth_get R]at this;exact this
 have hp:2^64<=2^j:=vr J J;rw[Nat.testBit_lt_two_pow (iF (l[i]).toNat_lt hp),Nat.testBit_lt_two_pow (iF (m[i]).toNat_lt hp)]
def X0{g g':Nat->Bool}(h:∀p,p<1024->g p=g' p):o_ g=o_ g':=
 X2 (t:=0) (u:=0) (FB g) (FB g') λp hp=>by rw[Cn _ _ hp,Cn _ _ hp];exact h p hp
def Qa{l:List UInt64}(hl:l.length=16){t:Int}{g:Nat->Bool}(h:∀p,p<1024->jL (t,l,()) p=g p):l=o_ g:=
 X2 (t:=t) (u:=0) hl (FB g) λp hp=>by rw[Cn _ _ hp];exact h p hp
def t8(k:Nat):UInt64:=UInt64.ofNat (2^k)
def Qf(h:k<64):(t8 k).toNat=2^k:=by exact tN (Nat.pow_lt_pow_right J h)
def X7(h:k<64)(j:Nat):(t8 k).toNat.testBit j=decide (k=j):=by rw[Qf h,Nat.testBit_two_pow]
def aic{n:Int}(h:0<=n):Jp (n,())=some ((((n%1024).toNat/64:Nat):Int),t8 ((n%1024).toNat%64),()):=by
 unfold Jp;obtain⟨q,a_⟩:∃q:Nat,n%1024=(q:Int):=⟨(n%1024).toNat,J⟩;have e1:ej n 1024=(q:Int):=by rw[g32 h];exact a_
 have aT:ej (q:Int) 64=((q%64:Nat):Int):=by rw[g32 J];omega
 have dI:i64 (ga (q:Int) 64)=((q/64:Nat):Int):=by rw[g31 J];exact fL rfl J
 rw[e1,aT,dI,a_,iq];refine a6 rfl ?_;have gX:u64 (hU IntKind.u64 (cz (u64 1)) ((q%64:Nat):Int))=t8 (q%64):=by
  refine Fl.1 ?_;rw[Qf (sx _ J)];have nT:hU IntKind.u64 (cz (u64 1)) ((q%64:Nat):Int)=((2^(q%64):Nat):Int):=by unfold hU;rw[iq,show IntKind.u64.bits=64 from rfl,show cz (u64 1)=1 from DE bN,Int.one_mul,show Nat.min (q%64) 64=q%64 from Ca J];rfl
  rw[nT];have ao7:=au8 (k:=q%64) J;have:∀m:Nat,m<=9223372036854775808->cz (u64 (m:Int))=(m:Int):=λm hm=>DE J;exact Fp (this _ ao7)
 rw[gX]
def ayS{w:gS}(bu:w.2.1.length=16){n:Int}(h:0<=n):ON (w,n,())=some (jL w (n%1024).toNat,()):=by
 unfold ON;rw[aic h];have s2:(n%1024).toNat<1024:=J;generalize(n%1024).toNat=q at s2;refine a6 cp ?_;rw[ajk,g1,FA];generalize an w.2.1 (q/64) (u64 0)=x;congr 2;have e:(x&&&t8 (q%64)).toNat=if x.toNat.testBit (q%64) then 2^(q%64) else 0:=by
  rw[UInt64.toNat_and,Qf (sx _ J)];refine Nat.eq_of_testBit_eq λj => ?_
  grind
 have hp:0<2^(q%64):=PE J;rw[ atH,e];generalize 2^(q%64)=m at hp;cases x.toNat.testBit (q%64)
 .rfl
 show aZ (af ((m:Nat):Int) 0)=true;rw[cx J];rfl
def ayQ{w:gS}(bu:w.2.1.length=16)(ht:0<=w.1/\w.1<=4611686018427387905)(n:Int):WS (w,n,())=some (D (dP n/\xS w n),()):=by
 by_cases h:dP n
 .have aq:0<=n:=h.1
  have O:n<=4611686018427387904:=h.2;by_cases R:w.1<=n
  .refine aL (a:=(true,())) (a? (lz aq) (a? (lz O) (b4 (lz R)))) ?_
   rw[cC ⟨h,.inl R⟩]
  have e:i64 (bg w.1 1024)=w.1-1024:=hw (by show -9223372036854775808<=w.1-1024;omega) (by show w.1-1024<=9223372036854775807;omega);by_cases ai:w.1-1024<=n
  .refine aL (a:=(aZ (jL w (n%1024).toNat),())) (a? (lz aq) (a? (lz O) (a0 (n6 R) (a? (by rw[e];exact lz ai) ?_)))) ?_
   .rw[ayS bu aq];rfl
   cases Y:jL w (n%1024).toNat
   .rw[cC ⟨h,.inr ⟨ai,Y⟩⟩];rfl
   rw[cG (λbB=>bB.2.elim R (λLx=>by rw[Y]at Lx;exact absurd Lx.2 bf))];rfl
  refine aL (a:=(false,())) (a? (lz aq) (a? (lz O) (a0 (n6 R) (bU (by rw[e];exact n6 ai))))) ?_;rw[cG (λbB=>bB.2.elim R (λLx=>ai Lx.1))]
 rw[cG (λbB=>h bB.1)];by_cases aq:0<=n
 .refine aL (a:=(false,())) (a? (lz aq) (bU (n6 λO=>h ⟨aq,O⟩))) rfl
 exact aL (a:=(false,())) (bU (n6 aq)) rfl
def IL(w:gS)(n:Int)(b:Bool):gS:=(w.1,o_ (λp=>if p=(n%1024).toNat then b else jL w p),())
def P'{l:List UInt64}(hl:l.length=16){t:Int}{q:Nat}(a_:q<1024){x:UInt64}{b:Bool}
  (hx:∀j,x.toNat.testBit j=if j=q%64 then b else(an l (q/64) (u64 0)).toNat.testBit j) {p:Nat} (hp:p<1024) :
  jL (t,cg l (q/64) x,()) p=if p=q then b else jL (t,l,()) p:=by
 rw[FA,FA];have ao:p/64<l.length:=J;have lu:p/64<(l.set (q/64) x).length:=by rw[kf];exact ao
 show(an (l.set (q/64) x) (p/64) (u64 0)).toNat.testBit (p%64)=_;rw[nth_get lu,JI];by_cases h:q/64=p/64
 .grind
 rw[if_neg h,if_neg J,nth_get ao]
def aid{w:gS}(bu:w.2.1.length=16){n:Int}(h:0<=n)(b:Bool):y2 (w,n,b,())=some (IL w n b,()):=by
 unfold y2 IL;rw[aic h];have s2:(n%1024).toNat<1024:=J;generalize(n%1024).toNat=q at s2;have ac:q/64<w.2.1.length:=J;refine a6 cp (a6 cp ?_);simp only[auD,aza,g1];have lX:∀j,(an w.2.1 (q/64) (u64 0)|||t8 (q%64)).toNat.testBit j=if j=q%64 then true else(an w.2.1 (q/64) (u64 0)).toNat.testBit j:=by
  intro j;rw[UInt64.toNat_or,PA,X7 (sx _ J)]
  grind
 have rO:(cg w.2.1 (q/64) (an w.2.1 (q/64) (u64 0)|||t8 (q%64))).length=16:=by unfold cg;rw[kf];exact bu
 cases b
 .refine a? rfl (a6 cp (a6 cp ?_))
  congr 4;have am:an (cg w.2.1 (q/64) (an w.2.1 (q/64) (u64 0)|||t8 (q%64))) (q/64) (u64 0)=an w.2.1 (q/64) (u64 0)|||t8 (q%64):=by
   have:q/64<(w.2.1.set (q/64) (an w.2.1 (q/64) (u64 0)|||t8 (q%64))).length:=by rw[kf];exact ac
   show an (w.2.1.set (q/64) _) (q/64) (u64 0)=_;rw[nth_get this,tY]
  refine Qa (t:=w.1) (by unfold cg at rO ⊢;rw[kf];exact rO) λp hp => ?_;rw[P' rO s2 (b:=false) (λj => ?_) hp]
  .by_cases R:p=q
   .grind
   rw[if_neg R,if_neg R,P' bu s2 lX hp,if_neg R]
  rw[am,UInt64.toNat_xor,Nat.testBit_xor,lX,X7 (sx _ J)]
  grind
 refine a0 rfl ?_;congr 4;refine Qa (t:=w.1) rO λp hp => ?_;exact P' bu s2 lX hp
def k3(w:gS)(t:Int)(k:Nat):gS:=(w.1,o_ (λp=>cV (jL w p) (D (¬∃m,t<=m/\m<t+k/\m%1024=(p:Int)))),())
def Zx(w:gS)(t:Int)(k:Nat):(k3 w t k).1=w.1:=by unfold k3;rfl
def Zw(w:gS)(t:Int)(k:Nat):(k3 w t k).2.1.length=16:=by unfold k3;dsimp only;exact FB _
def amK(w:gS)(t:Int)(k:Nat)(u:Int){p:Nat}(hp:p<1024):jL (u,(k3 w t k).2) p=cV (jL w p) (D (¬∃m,t<=m/\m<t+k/\m%1024=(p:Int))):=by unfold k3;exact Cn _ _ hp
def amM{w:gS}(bu:w.2.1.length=16)(t:Int):k3 w t 0=w:=by obtain⟨a,l,⟨⟩⟩:=w;unfold k3;congr 2;refine(Qa (t:=a) bu λp hp => ?_).symm;rw[cC J];cases jL (a,l,()) p<;>rfl
def amL(w:gS){t:Int}(ht:0<=t)(k:Nat):IL (k3 w t k) (t+k) false=k3 w t (k+1):=by
 unfold IL;unfold k3;congr 2;refine X0 λp hp => ?_;rw[Cn _ _ hp];by_cases h:p=((t+(k:Int))%1024).toNat
 .rw[if_pos h,cG]
  .cases jL w p<;>rfl
  exact not_not_intro ⟨t+k,J,J,J⟩
 rw[if_neg h];congr 2;refine propext (not_congr ⟨λ⟨m,O,R,ai⟩=>⟨m,O,J,ai⟩,λ⟨m,O,R,ai⟩=>⟨m,O,?_,ai⟩⟩);omega
def ayR{w:gS}(bu:w.2.1.length=16)(ht:0<=w.1/\w.1<=4611686018427387905)(n:Int):EP (w,n,())=some ((j_ w n).1,(j_ w n).2,()):=by
 unfold EP j_;dsimp only;by_cases h:dP n
 .have aq:0<=n:=h.1
  have O:n<=4611686018427387904:=h.2;rw[if_neg (not_not_intro h)];refine(d9 (a:=(false,())) ((bU (cP J)).trans (by rw[cP J]))).trans ((bU rfl).trans ?_);rw[ayQ bu ht];by_cases hf:xS w n
  .rw[cC ⟨h,hf⟩,if_neg (not_not_intro hf)]
   have e1:i64 (bg n w.1)=n-w.1:=hw (by show -9223372036854775808<=n-w.1;omega) (by show n-w.1<=9223372036854775807;omega);have aT:cX w.1 (i64 (aC n 1))=max w.1 (n+1):=by rw[g58,show i64 (aC n 1)=n+1 from hw (by show -9223372036854775808<=n+1;omega) (by show n+1<=9223372036854775807;omega)]
   obtain⟨K,fH⟩:∃K:Nat,g8 (cX (n-w.1) 0) 1024=(K:Int):=⟨(g8 (cX (n-w.1) 0) 1024).toNat,by rw[g57,g58];omega⟩;have lS:(K:Int)=min (max (n-w.1) 0) 1024:=by rw[<- fH,g57,g58]
   simp only[e1];generalize hg:(λ(V:Int×gS×Unit)=>(_:Option (aE (Int×gS×Unit) (gS×Int×Unit))))=f;have run:∀w0:gS,w0.1=w.1->w0.2.1.length=16->bC f (0,w0,())=some (.ex 0 ((K:Int),k3 w0 w.1 K,())):=by
    intro w0 Sf Sg;have step:∀i:Nat,i<K->f ((i:Int),k3 w0 w.1 i,())=some (.nx (((i+1:Nat):Int),k3 w0 w.1 (i+1),())):=by
     intro i ac;subst hg;have eH:i64 (aC (i:Int) 1)=((i+1:Nat):Int):=fL (by show(i:Int)+1=_;omega) J;refine(b4 (di J)).trans ?_;have dI:i64 (aC (k3 w0 w.1 i).1 (i:Int))=w.1+i:=by rw[Zx,Sf];exact hw (by show -9223372036854775808<=w.1+(i:Int);omega) (by show w.1+(i:Int)<=9223372036854775807;omega)
     rw[dI,aid (Zw _ _ _) J,amL w0 J,eH];rfl
    have e0:f ((K:Int),k3 w0 w.1 K,())=some (.ex 0 ((K:Int),k3 w0 w.1 K,())):=by subst hg;exact bU (cP J)
    have:=(kr (f:=f) (λi=>((i:Int),k3 w0 w.1 i,())) K step 0 (eS _)).trans (dT e0);rw[show k3 w0 w.1 0=w0 from amM Sg w.1]at this;exact this
   have last:∀w0:gS,w0.1=w.1->(∀p,p<1024->cV (jL w0 p) (D (¬xE w n p))=cV (jL w p) (D (¬xE w n p))) ->
     (ak (bP 0 0) (ob (y2 ((cX (k3 w0 w.1 K).1 (i64 (aC n 1)),(k3 w0 w.1 K).2),n,true,())) λ(a:gS×Unit)=>some (a.1,0,())):Option (gS×Int×Unit)) =
     some ((max w.1 (n+1),o_ (λp=>mB (D ((p:Int)=n%1024)) (cV (jL w p) (D (¬xE w n p)))),()),0,()):=by
    intro w0 Sf Sg;refine(eG g62).trans ?_;rw[Zx,Sf,aT,aid (w:=(max w.1 (n+1),(k3 w0 w.1 K).2)) (Zw w0 w.1 K) aq];refine(d9 rfl).trans ?_;unfold IL;dsimp only;congr 4;refine X0 λp hp => ?_;have gX:jL (max w.1 (n+1),(k3 w0 w.1 K).2) p=cV (jL w0 p) (D (¬∃m,w.1<=m/\m<w.1+K/\m%1024=(p:Int))):=amK _ _ _ _ hp;rw[gX];by_cases mO:p=(n%1024).toNat
    .rw[if_pos mO,cC (show(p:Int)=n%1024 by omega)];rfl
    rw[if_neg mO,cG (show ¬(p:Int)=n%1024 by omega),<- Sg p hp];congr 2;refine propext (not_congr ?_);constructor
    .rintro⟨m,bE,cq,g7⟩;exact⟨m,bE,J,g7⟩
    rintro⟨m,bE,cq,g7⟩;refine⟨w.1+(m-w.1)%1024,J,J,J⟩
   by_cases Y:1024<=n-w.1
   .refine(b4 (lz Y)).trans ?_
    refine(cO (run (w.1,tb.2.1,w.2.2) rfl rfl)).trans (lc_ex'.trans ?_);refine last (w.1,tb.2.1,w.2.2) rfl λp hp => ?_;rw[cG (p:=¬xE w n p) (not_not_intro ⟨w.1+((p:Int)-w.1)%1024,J,J,J⟩),g45,g45]
   refine(bU (n6 Y)).trans ?_;refine(cO (run w rfl bu)).trans (lc_ex'.trans ?_);exact last w rfl λp hp=>rfl
  rw[cG (λbB=>hf bB.2),if_pos hf];refine(d9 rfl).trans (b4 rfl)
 rw[if_pos h];by_cases aq:n<0
 .exact(d9 (a:=(true,())) (b4 (di aq))).trans (b4 rfl)
 refine(d9 (a:=(true,())) ((bU (cP aq)).trans (by rw[di];by_cases O:4611686018427387904<n;exact O;exact absurd ⟨J,J⟩ h))).trans (b4 rfl)
def FP(l:aa)(h:l.length<=100000000):nz (l,())=some (l,()):=by exact eG cp
def Wo{b:aa}{a w:Int}(bu:1<=w/\w<8)(bc:0<=a/\a+w<=b.length):jq b a w=(ew b a w,a+w,0,()):=by
 have:jq b a w=((mc (dA b a.toNat w.toNat):Int),a+w,0,()):=by
  unfold jq
  grind
 unfold ew
 grind
def Wn{b:aa}{a:Int}(bc:0<=a/\a+8<=b.length):jq b a 8=(ew b a 8,a+8,0,())\/jq b a 8=(0,0,2,())/\ew b a 8 = -1:=by
 by_cases h:(8:Int)=8/\127<(an b a.toNat (u8 0)).toNat
 .have:jq b a 8=(0,0,2,()):=by
   unfold jq
   grind
  unfold ew
  grind
 have:jq b a 8=((mc (dA b a.toNat (8:Int).toNat):Int),a+8,0,()):=by
  unfold jq
  grind
 unfold ew
 grind
def anA(b:aa):K6 (b,())=some (ev b):=by
 unfold K6 ev;by_cases O:b.length<47
 .rw[if_pos O];exact b4 (di (by show(b.length:Int)<47;omega))
 rw[if_neg O];refine a0 (cP (by show ¬(b.length:Int)<47;omega)) ?_;by_cases R:946<b.length
 .rw[if_pos R];exact b4 (di (by show(946:Int)<(b.length:Int);omega))
 rw[if_neg R];refine a0 (cP (by show ¬(946:Int)<(b.length:Int);omega)) ?_;have Y:b.length<=1000000:=J;have e:i64 (bg (len b) 16)=((b.length-16:Nat):Int):=fL (by show(b.length:Int)-16=_;omega) J;have bp:sub b 30 ((b.length-16:Nat):Int)=(b.drop 30).take (b.length-46):=by rfl
 have ax:sub b ((b.length-16:Nat):Int) (len b)=b.drop (b.length-16):=by unfold sub;rw[iq,iS];rw[ep];show _<=(b.length:Int).toNat-_;omega
 have c1:b5 30 ((b.length-16:Nat):Int) (len b)=true:=cp;have c2:b5 ((b.length-16:Nat):Int) (len b) (len b)=true:=cp;have fk:((b.drop 30).take (b.length-46)).length<=1000000:=by rw[ib];omega
 have gO:(b.drop (b.length-16)).length<=1000000:=by rw[ep];omega
 have two:∀k:aa×Unit->aa×Unit->Option (dr×Int×Unit),(ak (b5 30 (i64 (bg (len b) 16)) (len b)) (ob (nz (sub b 30 (i64 (bg (len b) 16)),())) λc=>
   ak (b5 (i64 (bg (len b) 16)) (len b) (len b)) (ob (nz (sub b (i64 (bg (len b) 16)) (len b),())) λd=>k c d)))=k ((b.drop 30).take (b.length-46),()) (b.drop (b.length-16),()):=by
  intro k;rw[e,bp,ax];exact a6 c1 (aL (FP _ J) (a6 c2 ((cE (FP _ J)).trans (d9 rfl))))
 have qc:∀(a w:Int) (k:Int×Int×Int×Unit->Option (dr×Int×Unit)),ob (lR (b,a,w,())) k=k (jq b a w):=λa w k=>(cE (Z0 b a w Y)).trans (d9 rfl);have Dh:aK 0 (bb 2)=true:=rfl;have we:aK (i64 (aC 0 1)) (bb 2)=true:=rfl;have Tz:aK 1 (bb 2)=true:=rfl;have Ah:aK 0 (bb 1)=true:=rfl;have u3:=Wo (b:=b) (a:=0) (w:=1) J J;have bG:=Wo (b:=b) (a:=1) (w:=1) J J;have du:=Wo (b:=b) (a:=18) (w:=4) J J;rw[show(0:Int)+1=1 from rfl]at u3;rw[show(1:Int)+1=2 from rfl]at bG;rw[show(18:Int)+4=22 from rfl]at du;have atc:cX 0 1=1:=rfl;have atd:cX 1 2=2:=rfl;have Uz:ew b 2 8 = -1\/ew b 10 8 = -1\/ew b 22 8 = -1->¬oQ (po b):=by
  intro h aj;have hp:lZ (po b):=by unfold oQ at aj;first|exact aj.1|exact aj.2|exact aj
  unfold lZ dP at hp;have ait:eM (po b)=ew b 2 8:=rfl;have aAs:e1 (po b)=ew b 10 8:=rfl;have aAt:(po b).2.2.2.2.1=ew b 22 8:=rfl;omega
 refine a6 Dh ((qc _ _ _).trans (a6 we ((qc _ _ _).trans ?_)));rw[u3];rw[atc,bG];rw[atd];refine a? rfl (a6 Dh (a6 Tz (a6 Dh ((qc _ _ _).trans (a? rfl (a6 we ((qc _ _ _).trans ?_)))))));rcases Wn (b:=b) (a:=2) J with ca|⟨ca,qZ⟩
 .rw[show(2:Int)+8=10 from rfl]at ca
  rw[ca];rw[show cX 2 10=10 from rfl];refine a? rfl (a6 Ah ((qc _ _ _).trans ?_));rcases Wn (b:=b) (a:=10) J with cr|⟨cr,HN⟩
  .rw[show(10:Int)+8=18 from rfl]at cr
   rw[cr];rw[show cX 10 18=18 from rfl,du];rw[show cX 18 22=22 from rfl];refine a? rfl (a6 Ah ((qc _ _ _).trans (a? rfl ((two _).trans ?_))));have aD:CG ((ew b 0 1,ew b 1 1,cg (cg [0,0] (ab 0) (ew b 2 8)) (ab 1) (ew b 10 8),ew b 18 4,(jq b 22 8).1,(b.drop 30).take (b.length-46),b.drop (b.length-16),()),())=some (D (oQ (ew b 0 1,ew b 1 1,[ew b 2 8,ew b 10 8],ew b 18 4,(jq b 22 8).1,(b.drop 30).take (b.length-46),b.drop (b.length-16),())),()):=aaf _;rcases Wn (b:=b) (a:=22) J with eW|⟨eW,atG⟩
   .rw[eW]at aD ⊢
    rw[aD];by_cases aj:oQ (po b)
    .rw[show oQ (ew b 0 1,ew b 1 1,[ew b 2 8,ew b 10 8],ew b 18 4,ew b 22 8,(b.drop 30).take (b.length-46),b.drop (b.length-16),())=oQ (po b) from rfl,cC aj,if_pos aj];rfl
    rw[show oQ (ew b 0 1,ew b 1 1,[ew b 2 8,ew b 10 8],ew b 18 4,ew b 22 8,(b.drop 30).take (b.length-46),b.drop (b.length-16),())=oQ (po b) from rfl,cG aj,if_neg aj];rfl
   rw[eW,if_neg (Uz (.inr (.inr atG)))];rfl
  rw[cr,if_neg (Uz (.inr (.inl HN)))];exact a0 rfl (a6 Ah ((qc _ _ _).trans (two _)))
 rw[ca,if_neg (Uz (.inl qZ))];exact a0 rfl (a6 Ah ((qc _ _ _).trans (a6 Ah ((qc _ _ _).trans (two _)))))
def XE:∀{l m:List Int},l.length=m.length->(nN (λ(p q:Int)=>af p q) l m=true↔l=m)
 |[],[],_=>by simp[nN]
 |a::l,b::m,h=>by have ih:=XE (l:=l) (m:=m) (by grind);unfold nN at ih ⊢;rw[Fb,vy,cM,ih,oq];refine and_congr_left λ_ => ?_;exact beq_iff_eq
def Me(s:aH):kS (s.t,2,())=some ((gV s 0).t,()):=by exact(cO (uJ 5 rfl)).trans rfl
def asV(s:aH):kS (s.t,5,())=some ((gV s 1).t,()):=by exact(cO (uJ 5 rfl)).trans rfl
def asW(s:aH):kS (s.t,6,())=some ((gV s 2).t,()):=by exact(cO (uJ 5 rfl)).trans rfl
def Vf{g:xc}(h:g=j'\/th g):g.2.1.length<=32:=by
 rcases h with rfl|h
 .show([]:aa).length<=32;simp
 exact J3 h.2.2
def aws{r:e?}(h:ms r):r.1.2.1.length<=32/\r.2.1.2.1.length<=32/\r.2.2.1.2.1.length<=32:=by
 rcases h with rfl|⟨O,_,_,_,R,ai⟩
 .exact⟨by show([]:aa).length<=32;simp,by show([]:aa).length<=32;simp,by show([]:aa).length<=32;simp⟩
 refine⟨Vf (.inr O),Vf ?_,Vf ?_⟩
 .grind
 grind
def an2{r:e?}(h:ms r)(n:Int):(qH r n).1.length<=32:=by
 obtain⟨O,R,ai⟩:=aws h;unfold qH
 grind
def auO(e:c_):(fX e).length=2:=by
 unfold fX;split
 .rfl
 split<;>rfl
def r7(s:aH)(b:aa):aH×Nat×dr:=
 if ¬(ev b).2.1=0 then(s,2,r0) else if pw s.e (ev b).1 then(s,13,r0)
 else if(hJ s (ev b).1).2.1=false then(⟨s.e,(hJ s (ev b).1).1⟩,5,r0) else(⟨s.e,(hJ s (ev b).1).1⟩,0,(ev b).1)
def asY{s:aH}(ae:bw n s)(b:aa):Mg (s.t,b,())=some ((r7 s b).1.t,(r7 s b).2.1,(r7 s b).2.2,()):=by
 unfold Mg r7;dsimp only;rw[anA];refine aL rfl ?_;by_cases aq:(ev b).2.1=0
 .rw[if_neg (not_not_intro aq)]
  refine a? (cL aq) ?_;obtain⟨aj,ao3,_,_⟩:=M7 aq;have rS:=Vc aq;generalize(ev b).1=v at aj rS ao3;have hid:=ae.e.id;have ap:=ae.e.key;have e1:i64 (bg 1 s.e.id)=1-s.e.id:=hw (by show -9223372036854775808<=1-s.e.id;omega) (by show 1-s.e.id<=9223372036854775807;omega);have fst:(T (af v.2.1 (i64 (bg 1 s.e.id))) (T (aZ (af s.e.ph 7)) (some (aZ (af s.e.ph 8),())) (some (false,()))) (some (false,())):Option (Bool×Unit))=some (D (v.2.1=1-s.e.id/\¬s.e.ph=7/\¬s.e.ph=8),()):=by rw[e1];simp(disch:=first|assumption|omega|(dsimp only;omega)|decide) only[go_sem,Int.reduceToNat];exact pt and_assoc
  refine aL (show _=some (D (v.2.1=1-s.e.id/\¬s.e.ph=7/\¬s.e.ph=8),()) from fst) ?_;dsimp only;have fb:=wj v;have je:=aj.1.2.2.2.2.2.2.2;have chk:∀k:aa,k.length<=1000000->hJ s v=uY s.p k (cn v) v.2.2.2.2.2.2.1->(ob (xM (v,())) λ(kH:aa×Int×Unit)=>ob (DY (s.p,k,kH.1,v.2.2.2.2.2.2.1,())) λ(i7:dw×Bool×Unit)=>
    T i7.2.1 (some ((s.e.t,i7.1,()),0,v,())) (some ((s.e.t,i7.1,()),5,r0,())):Option (fa×Nat×dr×Unit)) =
    (if(hJ s v).2.1=false then some ((⟨s.e,(hJ s v).1⟩:aH).t,5,r0,()) else some ((⟨s.e,(hJ s v).1⟩:aH).t,0,v,())):=by
   intro k ap ah;refine aL (RA v aj.1) (aL (avb s.p k (cn v) _ ap J) ?_);rw[ah];cases Y:(uY s.p k (cn v) v.2.2.2.2.2.2.1).2.1
   .rw[if_pos rfl];exact bU rfl
   rw[if_neg bf];exact b4 rfl
  by_cases O:v.2.1=1-s.e.id/\¬s.e.ph=7/\¬s.e.ph=8
  .rw[cC O]
   refine a? rfl (aL (show Ar (s.e.key,())=_ from ac5 s.e.key J) ?_);by_cases R:v.1=2
   .refine a? (cL R) (aL (show Iw (s.e.ring,v.2.2.2.1,())=_ from awx _ _) (aL (show u0 (s.e.ph,())=_ from Ia _) ?_))
    dsimp only;have snd:(T (D (kq s.e.ph)) (ob (n4 (s.e.t,())) λ(fE:List Int×Unit)=>T (nN (λ(p q:Int)=>af p q) v.2.2.1 fE.1) (some ((qH s.e.ring v.2.2.2.1).2.1,())) (some (false,()))) (some (false,())):Option (Bool×Unit)) =
      some (D (kq s.e.ph/\v.2.2.1=fX s.e/\(qH s.e.ring v.2.2.2.1).2.1=true),()):=by
     by_cases hl:kq s.e.ph
     .rw[cC hl]
      refine a? rfl (aL (yh s.e) ?_);have bc:=XE (l:=v.2.2.1) (m:=fX s.e) (by rw[rS,auO];rfl);by_cases hp:v.2.2.1=fX s.e
      .refine a? (bc.2 hp) ?_
       cases hf:(qH s.e.ring v.2.2.2.1).2.1
       .rw[cG (by rintro⟨_,_,h⟩;cases h)]
       rw[cC ⟨hl,hp,rfl⟩]
      refine a0 ((zi _).mp (λh=>hp (bc.1 h))) ?_;rw[cG (λh=>hp h.2.1)]
     rw[cG hl,cG (λh=>hl h.1)];rfl
    refine aL snd ?_;dsimp only;by_cases ai:kq s.e.ph/\v.2.2.1=fX s.e/\(qH s.e.ring v.2.2.2.1).2.1=true
    .rw[cC ai]
     have e4:¬pw s.e v:=by
      unfold pw;rintro(h|h|h|⟨_,h⟩)
      .exact h O.1
      .exact O.2.1 h
      .exact O.2.2 h
      rcases h with h|h|h
      .exact h ai.1
      .exact h ai.2.1
      rw[ai.2.2]at h;cases h
     rw[if_neg e4];refine a? rfl ((chk _ (by have:=an2 ae.e.ring v.2.2.2.1;omega) (by unfold hJ wq;rw[if_pos R])).trans ?_);split<;>rfl
    rw[cG ai];have e4:pw s.e v:=by
     unfold pw;by_cases bc:kq s.e.ph
     .by_cases Y:v.2.2.1=fX s.e
      .refine .inr (.inr (.inr ⟨R,.inr (.inr ((zi _).mp λah=>ai ⟨bc,Y,ah⟩))⟩))
      exact .inr (.inr (.inr ⟨R,.inr (.inl Y)⟩))
     exact .inr (.inr (.inr ⟨R,.inl bc⟩))
    rw[if_pos e4];rfl
   refine a0 (cx R) ?_;have e4:¬pw s.e v:=by
    unfold pw;rintro(h|h|h|⟨h,_⟩)
    .exact h O.1
    .exact O.2.1 h
    .exact O.2.2 h
    exact R h
   rw[if_neg e4];refine(chk _ (by rw[XS];omega) (by unfold hJ wq;rw[if_neg R])).trans ?_;split<;>rfl
  rw[cG O];have e4:pw s.e v:=by
   unfold pw;by_cases bc:v.2.1=1-s.e.id
   .by_cases Y:s.e.ph=7
    .exact .inr (.inl Y)
    refine .inr (.inr (.inl (kZ λah=>O ⟨bc,Y,ah⟩)))
   exact .inl bc
  rw[if_pos e4];rfl
 rw[if_pos aq];exact bU (cx aq)
def asX{s:aH}(ae:bw n s)(b:aa):∃rB:Int,Mf (s.t,b,())=some ((gR s b).1.t,(gR s b).2.getD r0,rB,())/\(rB=0↔¬(gR s b).2=none):=by
 unfold Mf;dsimp only;rw[asY ae];by_cases aq:(ev b).2.1=0
 .by_cases O:pw s.e (ev b).1
  .have e1:r7 s b=(s,13,r0):=by unfold r7;rw[if_neg (not_not_intro aq),if_pos O]
   have aT:gR s b=(gV s 3,none):=by unfold gR;rw[if_neg (not_not_intro aq),if_pos O]
   rw[e1,aT];refine⟨13,aL rfl (a0 rfl (a0 rfl (a? rfl ?_))),bf⟩;exact(cE (TS s)).trans rfl
  by_cases R:(hJ s (ev b).1).2.1=false
  .have e1:r7 s b=(⟨s.e,(hJ s (ev b).1).1⟩,5,r0):=by unfold r7;rw[if_neg (not_not_intro aq),if_neg O,if_pos R]
   have aT:gR s b=(gV ⟨s.e,(hJ s (ev b).1).1⟩ 1,none):=by unfold gR;rw[if_neg (not_not_intro aq),if_neg O,if_pos R]
   rw[e1,aT];refine⟨5,aL rfl (a0 rfl (a0 rfl (a0 rfl (a6 rfl ?_)))),bf⟩;exact(cE (asV _)).trans rfl
  have e1:r7 s b=(⟨s.e,(hJ s (ev b).1).1⟩,0,(ev b).1):=by unfold r7;rw[if_neg (not_not_intro aq),if_neg O,if_neg R]
  rw[e1];generalize aD:(ev b).1=v;rw[aD]at O R;generalize hp:(hJ s v).1=p;by_cases ai:v.1=1
  .have aT:gR s b=(⟨s.e,p⟩,some v):=by unfold gR;rw[if_neg (not_not_intro aq),aD,if_neg O,if_neg R,if_pos ai,hp]
   rw[aT];refine⟨0,aL rfl (a? rfl ?_),bf⟩;exact b4 (lO (by dsimp only;omega))
  have abt:v.1=2:=by
   obtain⟨aj,_⟩:=M7 aq;rw[aD]at aj;rcases aj.1.1 with h|h
   .exact absurd h ai
   exact h
  have hm:=ayR ae.e.win ae.e.top v.2.2.2.2.1;have oV:∀x:aH×Option dr,x=(if ¬(j_ s.e.win v.2.2.2.2.1).2=0 then(gV ⟨s.e,p⟩ 2,none) else(⟨{ s.e with win:=(j_ s.e.win v.2.2.2.2.1).1,ring:=pc s.e v.2.2.2.1 },p⟩,some v))->gR s b=x:=by intro x hx;unfold gR;rw[if_neg (not_not_intro aq),aD,if_neg O,if_neg R,if_neg ai,hp];exact hx.symm
  by_cases au:(j_ s.e.win v.2.2.2.2.1).2=0
  .rw[oV _ (by rw[if_neg (not_not_intro au)])]
   refine⟨0,aL rfl (a? rfl (a0 (i_ abt) ?_)),bf⟩;refine aL (show EP (s.e.win,v.2.2.2.2.1,())=_ from hm) (a? (cL au) ?_);have hh:(T (af v.2.2.2.1 s.e.ring.2.2.1.1) (some (aZ (af s.e.ph 4),())) (some (false,())):Option (Bool×Unit))=some (D (v.2.2.2.1=s.e.ring.2.2.1.1/\¬s.e.ph=4),()):=by simp(disch:=first|assumption|omega|(dsimp only;omega)|decide) only[go_sem,Int.reduceToNat]
   refine aL hh ?_;dsimp only;by_cases a4:s.e.ring.2.2.1.1=v.2.2.2.1/\¬s.e.ph=4
   .rw[cC ⟨a4.1.symm,a4.2⟩,show pc s.e v.2.2.2.1=(Bw s.e.ring).1 by unfold pc;rw[if_pos a4]]
    refine a? rfl ((cE (show A8 (s.e.ring,())=_ from afG _)).trans rfl)
   rw[cG (λh=>a4 ⟨h.1.symm,h.2⟩),show pc s.e v.2.2.2.1=s.e.ring by unfold pc;rw[if_neg a4]];rfl
  rw[oV _ (by rw[if_pos au])];refine⟨6,aL rfl (a? rfl (a0 (i_ abt) ?_)),bf⟩;refine aL (show EP (s.e.win,v.2.2.2.2.1,())=_ from hm) (a0 (cx au) ?_);exact(cE (show kS ((⟨s.e,p⟩:aH).t,6,())=_ from asW _)).trans rfl
 have e1:r7 s b=(s,2,r0):=by unfold r7;rw[if_pos aq]
 have aT:gR s b=(gV s 0,none):=by unfold gR;rw[if_pos aq]
 rw[e1,aT];refine⟨2,aL rfl (a0 rfl (a? rfl ?_)),bf⟩;exact(cE (Me s)).trans rfl
def ayo(x y:UInt8):i64 (g? IntKind.i64 (i64 (hU IntKind.i64 (i64 (aN x)) (cz (u64 8)))) (i64 (aN y)))=((256*x.toNat+y.toNat:Nat):Int):=by
 have hx:=x.toNat_lt;have bs:=y.toNat_lt;have e1:i64 (aN x)=(x.toNat:Int):=hw (by rw[xU];omega) (by rw[xU];omega);have aT:i64 (aN y)=(y.toNat:Int):=hw (by rw[xU];omega) (by rw[xU];omega);have dI:hU IntKind.i64 (x.toNat:Int) (cz (u64 8))=((256*x.toNat:Nat):Int):=by unfold hU;rw[show cz (u64 8)=8 from DE bN,show(2:Int)^(Nat.min (8:Int).toNat IntKind.i64.bits)=256 from rfl];omega
 rw[e1,aT,dI,hw (n:=((256*x.toNat:Nat):Int)) J J];show i64 (((BitVec.ofInt 64 ((256*x.toNat:Nat):Int)|||BitVec.ofInt 64 ((y.toNat:Nat):Int)).toNat:Nat):Int)=_;rw[tL,tL,BitVec.toNat_or,JR,JR,tN J,tN J];have gX:256*x.toNat|||y.toNat=256*x.toNat+y.toNat:=by
  have:=Nat.shiftLeft_add_eq_or_of_lt (b:=y.toNat) (i:=8) J x.toNat;rw[Nat.shiftLeft_eq]at this
  grind
 rw[gX];exact hw J J
def aor{b:aa}(h:2<=b.length):RX (b,())=some ((ey b:Int),()):=by refine a6 cp (a6 cp ?_);rw[ayo];rfl
def aym(b:aa):ey b<65536:=by unfold ey;have aq:=(b.getD 0 0).toNat_lt;have O:=(b.getD 1 0).toNat_lt;omega
def Ey(l:List α){a:Int}(h:a=(n:Int)):sub l a (len l)=l.drop n:=by unfold sub;rw[h,iq,iS];rw[ep];show _<=(l.length:Int).toNat-_;omega
def aop{f:o0}{b:aa}(hf:f.1.length<=1000000)(Y:b.length<=1000000)(ae:0<=f.2.1/\f.2.1<=65535):Lk (f,b,())=some ((jm f b).1,(jm f b).2,()):=by
 obtain⟨buf,skip,bad,⟨⟩⟩:=f;replace hf:buf.length<=1000000:=hf;replace ae:0<=skip/\skip<=65535:=ae;unfold Lk jm;dsimp only;refine aL (ZE buf b hf Y) ?_;dsimp only;have hall:(buf++b).length<=2000000:=by rw[db];omega
 generalize buf++b=all at hall;generalize hg:(λ(x:List aa×aa×o0×Unit)=>(_:Option (aE (List aa×aa×o0×Unit) (o0×List aa×Unit))))=F

 have ab3:∀{a:aa} {gQ:Int},0<=gQ->gQ<=a.length->g8 gQ (len a)=((gQ.toNat:Nat):Int):=λO R=>by rw[g57,g22];omega
 have run:∀(k:Nat) (bz:List aa) (a:aa) (gQ:Int) (nP:Int),0<=gQ->gQ<=a.length->a.length<=2000000->(a.drop gQ.toNat).length<=k->bz.length+k<=2000000 ->
   bC F (bz,a,(buf,gQ,nP,()),())=some (.ex 0 (bz++(ie k nP (a.drop gQ.toNat)).2.2.2,(ie k nP (a.drop gQ.toNat)).1,(buf,((ie k nP (a.drop gQ.toNat)).2.1:Int),(ie k nP (a.drop gQ.toNat)).2.2.1,()),())):=by
  intro k;induction k with
  |zero=>
   intro bz a gQ nP O R ai au a4;refine dT ?_;subst hg;have bh:i64 (bg gQ ((gQ.toNat:Nat):Int))=0:=by rw[hw (by show -9223372036854775808<=gQ-((gQ.toNat:Nat):Int);omega) (by show gQ-((gQ.toNat:Nat):Int)<=9223372036854775807;omega)];show gQ-((gQ.toNat:Nat):Int)=0;omega
   dsimp only;rw[ab3 O R,Ey a rfl,bh];refine a6 jN (a? (di (by show((a.drop gQ.toNat).length:Int)<2;omega)) ?_);rw[show(ie 0 nP (a.drop gQ.toNat))=(a.drop gQ.toNat,0,nP,[]) from rfl];simp
  |succ k ih=>
   intro bz a gQ nP O R ai au a4;have bh:i64 (bg gQ ((gQ.toNat:Nat):Int))=0:=by rw[hw (by show -9223372036854775808<=gQ-((gQ.toNat:Nat):Int);omega) (by show gQ-((gQ.toNat:Nat):Int)<=9223372036854775807;omega)];show gQ-((gQ.toNat:Nat):Int)=0;omega
   have dp:F (bz,a,(buf,gQ,nP,()),())=F (bz,a,(buf,gQ,nP,()),()):=rfl
   conv at dp=>rhs;rw[<- hg]
   dsimp only at dp;rw[ab3 O R,Ey a rfl,bh]at dp;have ah:b5 ((gQ.toNat:Nat):Int) (len a) (len a)=true:=jN;replace dp:=dp.trans (eG ah);have GE:(a.drop gQ.toNat).length=a.length-gQ.toNat:=ep;unfold ie;generalize a.drop gQ.toNat=c at au dp GE;by_cases c1:c.length<2
   .rw[if_pos c1]
    refine dT (dp.trans (a? (di (by show(c.length:Int)<2;omega)) ?_));dsimp only;rw[iE];rfl
   rw[if_neg c1];have am:=aym c;have aT:i64 (aC 2 ((ey c:Nat):Int))=((2+ey c:Nat):Int):=fL (by show(2:Int)+((ey c:Nat):Int)=_;omega) J;replace dp:=dp.trans (a0 (cP (by show ¬(c.length:Int)<2;omega)) ((cE (aor J)).trans (d9 rfl)));dsimp only at dp;rw[aT]at dp;by_cases c2:ey c=0\/1024<ey c
   .rw[if_pos c2]
    have S_:(T (af ((ey c:Nat):Int) 0) (some (true,())) (some (aF 1024 ((ey c:Nat):Int),())):Option (Bool×Unit))=some (true,()):=by
     rcases c2 with h|h
     .rw[h];rfl
     by_cases aq:ey c=0
     .rw[aq];rfl
     exact a0 (cx J) (by rw[di J])
    replace dp:=dp.trans (aL S_ (b4 rfl));by_cases hd:2+ey c<=c.length
    .rw[if_pos hd]
     replace dp:=dp.trans (b4 (lz (by show((2+ey c:Nat):Int)<=(c.length:Int);omega)));refine(eE dp).trans ?_;have:=ih bz c ((2+ey c:Nat):Int) (i64 (nP+1)) J J J (by rw[iq,ep];omega) J;rw[iq]at this;exact this
    rw[if_neg hd];have gX:i64 (bg ((2+ey c:Nat):Int) (len c))=((2+ey c-c.length:Nat):Int):=fL (by show((2+ey c:Nat):Int)-(c.length:Int)=_;omega) J;rw[gX]at dp;replace dp:=dp.trans (bU (n6 (by show ¬((2+ey c:Nat):Int)<=(c.length:Int);omega)));refine dT (dp.trans ?_);rw[iE];rfl
   rw[if_neg c2];have S_:(T (af ((ey c:Nat):Int) 0) (some (true,())) (some (aF 1024 ((ey c:Nat):Int),())):Option (Bool×Unit))=some (false,()):=a0 (cx J) (by rw[cP J]);replace dp:=dp.trans (aL S_ (bU rfl));by_cases hd:c.length<2+ey c
   .rw[if_pos hd]
    replace dp:=dp.trans (b4 (di (by show(c.length:Int)<((2+ey c:Nat):Int);omega)));refine dT (dp.trans ?_);rw[iE];rfl
   rw[if_neg hd];have apX:cV (b5 2 ((2+ey c:Nat):Int) (len c)) (af ((2+ey c:Nat):Int) ((2+ey c:Nat):Int))=true:=by rw[cL rfl];simp(disch:=first|assumption|omega|(dsimp only;omega)|decide) only[go_sem,Int.reduceToNat];omega
   have apY:∀y:aa,cj 32 (bF (aV bz) (aV [y]))=true:=λy=>by rw[g21];refine cC ?_;show(bz.length+1)*32<=_;omega
   have apZ:b5 ((2+ey c:Nat):Int) (len c) (len c)=true:=jN;replace dp:=dp.trans (a0 (cP (by show ¬(c.length:Int)<((2+ey c:Nat):Int);omega)) (a6 apX (a6 (apY _) (eG apZ))));have nT:sub c 2 ((2+ey c:Nat):Int)=(c.drop 2).take (ey c):=by unfold sub;rw[show(2:Int).toNat=2 from rfl,iq,qA]
   rw[nT,Ey c rfl]at dp;refine(eE dp).trans ?_;have:=ih (bz++[(c.drop 2).take (ey c)]) (c.drop (2+ey c)) 0 nP J J (by rw[ep];omega) (by rw[show(0:Int).toNat=0 from rfl,rm,ep];omega) (by rw[db];show bz.length+1+k<=_;omega);refine tQ this ?_;rw[h0];rfl
 by_cases acu:all.length<skip.toNat
 .rw[if_pos acu]
  have dp:F (aP aa,all,(buf,skip,bad,()),())=some (.ex 0 ([],[],(buf,skip-(all.length:Int),bad,()),())):=by
   subst hg;dsimp only;have e1:g8 skip (len all)=((all.length:Nat):Int):=by rw[g57,g22];omega
   have aT:i64 (bg skip ((all.length:Nat):Int))=skip-(all.length:Int):=hw (by show -9223372036854775808<=skip-(all.length:Int);omega) (by show skip-(all.length:Int)<=9223372036854775807;omega);rw[e1,Ey all rfl,aT,List.drop_length];exact a6 jN (b4 rfl)
  refine(cO (dT dp)).trans (lc_ex'.trans (a6 g62 ?_));exact(cE (FP [] bf)).trans rfl
 rw[if_neg acu];have:=run all.length [] all skip bad ae.1 J hall (by rw[ep];omega) fS;refine(cO (show bC F (aP aa,all,(buf,skip,bad,()),())=_ from this)).trans (lc_ex'.trans (a6 g62 ?_));dsimp only;refine(cE (FP _ ?_)).trans rfl;have cl:∀(k:Nat) (nP:Int) (a:aa),(ie k nP a).1.length<=a.length:=by
  intro k;induction k with
  |zero=>intro nP a;exact bX _
  |succ k ih=>
   intro nP a;unfold ie;split
   .exact bX _
   split
   .split
    .exact fv (ih _ _) (by rw[ep];omega)
    simp
   split
   .exact bX _
   exact fv (ih _ _) (by rw[ep];omega)
 have:=cl all.length bad (all.drop skip.toNat);rw[ep]at this;omega
def mQ(l:List pI):Nat:=(l.map λx=>x.2.1.length).sum
def as4(l:List pI)(x:pI):mQ (l++[x])=mQ l+x.2.1.length:=by unfold mQ;simp
def fF(h:ef):Nat:=(an h.2.1 0 ec).1.length+(an h.2.1 1 ec).1.length+(an h.2.1 2 ec).1.length+(an h.2.1 3 ec).1.length
structure b3(m t g:Nat)(s x:aH):Prop where
 bz:mQ x.e.bz+950*x.e.queue.length<=mQ s.e.bz+950*s.e.queue.length+m
 DL:x.e.bz.length+x.e.queue.length<=s.e.bz.length+s.e.queue.length+t
 tab:x.p.2.1.length+x.e.queue.length<=s.p.2.1.length+s.e.queue.length+t
 got:x.e.got.length<=s.e.got.length+g
 buf:fF x.e.hub<=fF s.e.hub
def b3.refl(s:aH):b3 0 0 0 s s:=⟨J,J,J,J,J⟩
def b3.trans{t:Nat}{s x y:aH}(h:b3 m t g s x)(k:b3 ml t' g' x y):b3 (m+ml) (t+t') (g+g') s y:=by obtain⟨cK,cU,dj,eT,lm⟩:=h;obtain⟨e_,eC,j0,ox,qC⟩:=k;exact⟨J,J,J,J,J⟩
def b3.mono{t:Nat}{s x:aH}(h:b3 m t g s x)(hm:m<=ml)(ht:t<=t')(hg:g<=g'):b3 ml t' g' s x:=by obtain⟨cK,cU,dj,eT,lm⟩:=h;exact⟨J,J,J,J,J⟩
def b3.to{t:Nat}{s x y:aH}(h:b3 m t g s x)(k:b3 ml t' g' x y){cq eF bm:Nat}(hm:m+ml<=cq)(ht:t+t'<=eF)(hg:g+g'<=bm):b3 cq eF bm s y:=(h.trans k).mono hm ht hg
def b3.same(s x:aH)(aO:x.e.bz=s.e.bz)(a_:x.e.queue.length<=s.e.queue.length)(hp:x.p.2.1=s.p.2.1)(hg:x.e.got=s.e.got)(Y:x.e.hub.2.1=s.e.hub.2.1):b3 0 0 0 s x:=by refine⟨by rw[aO];omega,by rw[aO];omega,by rw[hp];omega,by rw[hg];omega,?_⟩;unfold fF;rw[Y];exact bX _
def ave(p:dw)(k b:aa):(h9 p k b).2.1.length<=p.2.1.length+1:=by
 unfold h9
 grind
def abi(s:aH)(v:dr)(k:aa):b3 (48+v.2.2.2.2.2.1.length) 1 0 s (nf s v k).1:=by
 unfold nf;split
 .have O:=ave s.p k (cn v)
  have R:(dO (cn v++iC k (cn v))).length=48+v.2.2.2.2.2.1.length:=by rw[MT,db,yK,wj];omega
  refine⟨?_,?_,?_,by dsimp only;omega,by dsimp only;unfold fF;rw[U0];omega⟩
  .dsimp only;rw[as4,R];omega
  .grind
  grind
 exact(b3.refl s).mono J J J
def Gj(s:aH)(b:aa):b3 (48+b.length) 1 0 s (gp s b).1:=by
 have aq:b3 (48+b.length) 1 0 s s:=(b3.refl s).mono J J J;unfold gp;split
 .exact aq
 split
 .exact aq
 split
 .exact aq
 have:=abi s (gq s.e b) s.e.ring.1.2.1;dsimp only;split
 .exact⟨this.bz,this.DL,this.tab,this.got,this.buf⟩
 exact this
def Lu(s:aH)(o:Int)(b:aa):b3 (48+b.length) 1 0 s (ps s o b).1:=by
 unfold ps;split
 .exact abi s (hC s.e o b) (hs s.e.key)
 exact(b3.refl s).mono J J J
def qJ(s:aH)(k:Nat):b3 0 0 0 s (gV s k):=b3.same _ _ rfl (bX _) rfl rfl rfl
def ajM{c n:Int}{b:aa}(h:(oy c n b).2.1=0):b.length<=900:=by
 unfold oy at h;split at h
 .rename_i hf;exact hf.2.2.2.2
 cases h
def Sb(s:aH)(q:d')(hm:(m5 (q.1,q.2.1,l5 s.e.stan,q.2.2.2)).1.length<=m):b3 (48+min m 900) 1 0 s (lB s q):=by
 have aq:b3 0 0 0 s (xt s q):=b3.same _ _ rfl (bX _) rfl rfl rfl;unfold lB;split
 .rename_i h
  have Y:=ajM h.2;split
  .exact aq.to (Lu _ _ _) J J J
  exact aq.to (Gj _ _) J J J
 exact(b3.refl s).mono J J J
def CW(s:aH)(p:Int):b3 0 0 1 s (k? s p):=by refine⟨by show mQ s.e.bz+950*([]:List aa).length<=_;simp,by show s.e.bz.length+([]:List aa).length<=_;simp,by show s.p.2.1.length+([]:List aa).length<=_;simp,Mk s.e p,bX _⟩
def abg(s:aH):b3 0 0 1 s (xG s):=by
 unfold xG;split
 .exact(b3.refl s).mono J J J
 refine⟨by show mQ []+950*([]:List aa).length<=_;simp[mQ],by show([]:List pI).length+([]:List aa).length<=_;simp,by show s.p.2.1.length+([]:List aa).length<=_;simp,Mk s.e 8,?_⟩;exact eS _
def Gg(s:aH):b3 0 0 1 s (gw s).1:=by
 unfold gw;split
 .exact b3.mono (b3.same s (qj s _) rfl (bX _) rfl rfl rfl) J J J
 split
 .exact b3.to (b3.same s (Ol s (mZ s.e.store s.e.power).1) rfl (bX _) rfl rfl rfl) (abg (Ol s (mZ s.e.store s.e.power).1)) J J J
 exact(b3.refl s).mono J J J
def abk(s:aH):b3 948 1 3 s (r5 s).1:=by
 unfold r5;split
 .exact(b3.refl s).mono J J J
 split
 .exact(Gg s).mono J J J
 have O:=(Gg s).trans (CW (gw s).1 1);have R:b3 0 0 0 (k? (gw s).1 1) (uV (k? (gw s).1 1) (gw s).2.1):=b3.same _ _ rfl (bX _) rfl rfl rfl;exact(O.trans R).to (Sb _ _ (bX _)) J J J
def abl:∀(k:Nat) (s:aH),b3 0 0 0 s (te k s)
 |0,s=>b3.refl s
 |k+1,s=>by
  unfold te;split
  .exact b3.refl s
  rename_i b q a_;split
  .rename_i aq
   have Y:b.length<=900:=by
    unfold gp at aq;split at aq
    .cases aq
    rename_i h;exact(zg.1 h).2
   have O:=Gj s b;have z8:=(axa s b).2.1;have R:b3 0 0 0 s (u1 (gp s b).1 q):=by
    obtain⟨cK,cU,dj,eT,lm⟩:=O;rw[z8]at cK cU dj;have hl:s.e.queue.length=q.length+1:=by rw[a_];rfl
    exact⟨by show mQ (gp s b).1.e.bz+950*q.length<=_;omega,by show(gp s b).1.e.bz.length+q.length<=_;omega,by show(gp s b).1.p.2.1.length+q.length<=_;omega,eT,lm⟩
   exact R.to (abl k _) J J J
  exact b3.refl s
def Gh(s:aH):b3 0 0 0 s (mV s):=abl _ s
def Ju{no k l:Int}(h:e7 no=some (k,l))(aq:cS k=0)(v:aa):(gr (no,v,())).length<=(body k v).length:=by
 unfold gr qp;rw[h];dsimp only;split
 .unfold kA f?;rw[aq];simp
 simp
def adY(n:d')(h:n.1=false\/¬n.2.1=101/\¬n.2.1=201):(f7 (jD n)).length<=25:=by
 have pY:∀x:aa,x.length=6->(gr (11,x,())).length<=3:=λx hx=>by have:=Ju CO rfl x;rw[xv,hx]at this;simpa using this
 have ao5:∀x:aa,x.length=2->(gr (39,x,())).length<=2:=λx hx=>by have:=Ju Li rfl x;rw[xv,hx]at this;simpa using this
 have ao8:∀x:aa,x.length=3->(gr (70,x,())).length<=2:=λx hx=>by have:=Ju RR rfl x;rw[xv,hx]at this;simpa using this
 have Y:∀l,(fx l).length<=16:=λl=>by rw[o'];split<;>omega
 have cK:=pY (dt n.2.2.1 6) nS;have cU:=ao5 (dt n.2.2.2.1 2) nS;have dj:=ao8 (dt n.2.1 3) nS;unfold f7 jD;rw[ db,yX];split
 .have:=Y (hz [(11,dt n.2.2.1 6,()),(39,dt n.2.2.2.1 2,()),(70,dt n.2.1 3,())])
  simp;omega
 grind
def ad0(n:d'):18<=(f7 (jD n)).length:=by
 have bu:lF (hz (jD n).2.1)=true:=by
  unfold jD
  repeat(first|rfl|split)
 unfold f7;rw[db,db,yX,o',if_pos bu];omega
def afy(n:d')(r:Int):(kV n r).length<=25:=by
 unfold kV m5;split
 .refine adY _ (.inl ?_)
  unfold Fu
  repeat(first|rfl|split)
 simp
def ajI(c s:Int)(h:¬c=101/\¬c=201):(m5 ((iu c).1,(iu c).2.1,s,(iu c).2.2.2)).1.length<=25:=by
 unfold m5;split
 .exact adY _ (.inr h)
 simp
def am1{m:M}(aj:h_ m=true):(f7 (ua m)).length<=17:=by
 have cU:(gr sF).length<=2:=by have:=Ju Li bN [57,49];rw[xv]at this;exact this
 unfold f7 ua;rw[db,db,yX];split
 .rename_i h
  have O:=Ww aj h;obtain⟨k,l,R,ai⟩:=vU.1 O;rw[CO]at R;obtain⟨rfl,rfl⟩:=Prod.mk.inj (om R);have au:=(R0 CO ai).2.1;have cK:=Ju CO bN (ii 11 m.2.1).1;rw[xv]at cK;have:(fx (hz [(11,(ii 11 m.2.1).1,()),sF])).length=8:=by rw[o'];rfl
  simp only[BZ,Fk,db,gu];simp only[show((1:Int)<=2)=True from by simp]at cK;simp at cK;omega
 have:(fx (hz [sF])).length=8:=by rw[o'];rfl
 simp only[BZ,Fk,db,gu];omega
def abf(s:aH)(c:Int)(h:¬c=101/\¬c=201):b3 73 1 0 s (lB s (iu c)):=(Sb s (iu c) (ajI c _ h)).mono J J J
def Gi(s:aH)(n:d')(r:Int):b3 73 1 0 s (gp s (kV n r)).1:=(Gj s _).mono (by have:=afy n r;omega) J J
def Sc{s x:aH}(h:b3 0 0 0 s x)(n:d')(r:Int):b3 73 1 0 s (gp x (kV n r)).1:=h.to (Gi x n r) J J J
def aoQ(s:aH)(q:d')(x:Int):b3 73 1 2 s (t4 s q x):=by
 have aj:=afy q 0;unfold t4;split
 .exact(qJ s 3).mono J J J
 split
 .exact(Lu s _ _).mono J J J
 split
 .exact(qJ s 3).mono J J J
 split
 .have O:=(Gg s).trans (CW (gw s).1 2)
  have R:b3 0 0 0 (k? (gw s).1 2) (wv (k? (gw s).1 2) (gw s).2.1 x):=b3.same _ _ rfl (bX _) rfl rfl rfl;exact(O.trans R).to (Lu _ _ _) J J J
 split
 .exact(Gg s).mono J J J
 exact(Gg s).to (qJ _ 3) J J J
def Sa(s:aH)(k q:Int)(b:aa):b3 0 0 1 s (ug s k q b):=by refine⟨bX _,bX _,bX _,?_,bX _⟩;show(s.e.got++[(k,fX s.e,q,b,())]).length<=_;simp
def aoT(s:aH)(k:Int):b3 0 0 1 s (zE s k):=Sa s k 0 []
def aoW(s:aH)(v:dr)(q:d'):b3 73 1 2 s (qL s v q):=by
 unfold qL;dsimp only;split
 .exact(qJ s 3).mono J J J
 split
 .exact aoQ s q _
 split
 .have O:b3 0 0 1 s (AO s (an v.2.2.1 (ab (1-s.e.id)) 0)):=by refine⟨bX _,bX _,bX _,?_,bX _⟩;show(s.e.got++[_]).length<=_;simp
  exact O.to (abf _ 301 bN) J J J
 exact(qJ s 3).mono J J J
def CV(s:aH):b3 0 0 1 s (pV s):=by
 unfold pV;split
 .exact b3.to (b3.same s (uZ s 3) rfl (bX _) rfl rfl rfl) (aoT _ 4) J J J
 exact(b3.refl s).mono J J J
def aoX(s:aH)(n:d'):b3 73 1 1 s (AJ s n):=by
 have ah:b3 73 1 1 s (gV s 3):=(qJ s 3).mono J J J;unfold AJ;split
 .exact ah
 split
 .exact(Gi s n _).mono J J J
 split
 .exact(Gi s n _).mono J J J
 split
 .split
  .exact b3.mono (m:=73) (t:=1) (g:=0) (Sc (by exact b3.same _ _ rfl (bX _) rfl rfl rfl) n _) J J J
  exact ah
 split
 .exact b3.mono (m:=73) (t:=1) (g:=0) (Sc (by exact b3.same _ _ rfl (bX _) rfl rfl rfl) n _) J J J
 exact ah
def abj(s:aH):b3 0 0 0 s (xW s):=by
 unfold xW;split
 .exact b3.same _ _ rfl (bX _) rfl rfl rfl
 exact b3.refl s
def aoU(s:aH):b3 0 0 0 s (zM s):=by
 unfold zM;split
 .exact b3.same _ _ rfl (bX _) rfl rfl rfl
 exact b3.refl s
def aoV(s:aH):b3 0 0 1 s (zN s):=by
 unfold zN;split
 .exact CW s 0
 exact(b3.refl s).mono J J J
def aoY(s:aH)(n:d'):b3 73 1 1 s (wS s n):=by
 have ah:b3 73 1 1 s (gV s 3):=(qJ s 3).mono J J J;unfold wS;split
 .split
  .exact aoX s n
  unfold Ce;split
  .exact ah
  split
  .exact(abj s).mono J J J
  exact b3.to (b3.same s (⟨Ov s.e _,s.p⟩) rfl (bX _) rfl rfl rfl) (abf _ 301 bN) J J J
 split
 .split
  .exact b3.mono (m:=73) (t:=1) (g:=0) (Sc (by exact b3.same _ _ rfl (bX _) rfl rfl rfl) n 0) J J J
  unfold Cc;split
  .exact ah
  split
  .exact b3.mono (b3.same _ _ rfl (bX _) rfl rfl rfl) J J J
  exact b3.mono (b3.same _ _ rfl (bX _) rfl rfl rfl) J J J
 unfold yp;split
 .split
  .exact(Gi s n 0).mono J J J
  split
  .exact(Gi s n 0).to (CW _ 0) J J J
  exact ah
 split
 .split
  .exact b3.mono (b3.same s (Zt s) rfl (bX _) rfl rfl rfl) J J J
  split
  .exact(CW s 0).mono J J J
  exact ah
 exact ah
def afp{b:aa}(h:(ky b).2.1=0):18<=b.length:=by
 rcases afo b with⟨n,O,R,ai⟩|⟨e,O,R⟩
 .rw[<- ai];exact ad0 n
 grind
def ay4(m:M):10<=(f7 m).length:=by
 unfold f7;rw[db,db,yX,o']
 grind
def aoS(s:aH)(v:dr):∃m t g,b3 m t g s (mD s v)/\4*m<=5*(48+v.2.2.2.2.2.1.length)/\20*t<=48+v.2.2.2.2.2.1.length/\20*g<=48+v.2.2.2.2.2.1.length:=by
 unfold mD;split
 .split
  .rename_i O R
   have:=afp R;exact⟨73,1,2,(CV s).to (aoY _ _) J J J,J,J,J⟩
  split
  .rename_i O R ai
   obtain⟨au,a4⟩:=Vb ai;have cQ:=ay4 (e9 v.2.2.2.2.2.1).1;rw[a4]at cQ;unfold yV;split
   .exact⟨0,0,1,(CV s).to (qJ _ 3) J J J,J,J,J⟩
   split
   .exact⟨0,0,2,(CV s).to (Sa _ _ _ _) J J J,J,J,J⟩
   split
   .exact⟨0,0,1,(CV s).to (qJ _ 3) J J J,J,J,J⟩
   have eh:=am1 au;exact⟨65,1,1,(CV s).to (Gj _ _) J J J,J,J,J⟩
  exact⟨0,0,1,(CV s).to (qJ _ 0) J J J,J,J,J⟩
 split
 .rename_i O R
  have:=afp R;exact⟨73,1,2,aoW s v _,J,J,J⟩
 exact⟨0,0,0,qJ s 0,J,J,J⟩
def ao0(s:aH)(b:aa):b3 0 0 0 s (gR s b).1:=by
 have hp:=Zr s (ev b).1;have O:∀k,b3 0 0 0 s (gV ⟨s.e,(hJ s (ev b).1).1⟩ k):=λk=>b3.same _ _ rfl (bX _) hp rfl rfl;unfold gR;split
 .exact qJ s 0
 split
 .exact qJ s 3
 split
 .exact O 1
 split
 .exact b3.same _ _ rfl (bX _) hp rfl rfl
 split
 .exact O 2
 exact b3.same _ _ rfl (bX _) hp rfl rfl
structure y?(C:Nat)(s x:aH):Prop where
 bz:4*(mQ x.e.bz+950*x.e.queue.length)<=4*(mQ s.e.bz+950*s.e.queue.length)+5*C
 DL:20*(x.e.bz.length+x.e.queue.length)<=20*(s.e.bz.length+s.e.queue.length)+C
 tab:20*(x.p.2.1.length+x.e.queue.length)<=20*(s.p.2.1.length+s.e.queue.length)+C
 got:20*x.e.got.length<=20*s.e.got.length+C
 buf:fF x.e.hub<=fF s.e.hub
def b3.ls{t C:Nat}{s x:aH}(h:b3 m t g s x)(hm:4*m<=5*C)(ht:20*t<=C)(hg:20*g<=C):y? C s x:=by obtain⟨cK,cU,dj,eT,lm⟩:=h;exact⟨J,J,J,J,lm⟩
def y?.trans{C D:Nat}{s x y:aH}(h:y? C s x)(k:y? D x y):y? (C+D) s y:=by obtain⟨cK,cU,dj,eT,lm⟩:=h;obtain⟨e_,eC,j0,ox,qC⟩:=k;exact⟨J,J,J,J,J⟩
def avN{b:aa}(h:(ev b).2.1=0):(ev b).1.2.2.2.2.2.1.length+46=b.length:=by
 unfold ev at h ⊢;split at h
 .cases h
 split at h
 .cases h
 split at h
 .rename_i O R ai
  rw[if_neg O,if_neg R,if_pos ai];show((b.drop 30).take (b.length-46)).length+46=_
  grind
 cases h
def ao2(s:aH)(b:aa):y? (b.length+2) s (iG s b):=by
 have aq:=ao0 s b;unfold iG;split
 .exact aq.ls J J J
 rename_i v aD;obtain⟨O,rfl⟩:=Oq aD;have hl:=avN O;obtain⟨m,t,g,R,ai,au,a4⟩:=aoS (gR s b).1 (ev b).1;exact((aq.trans R).trans (Gh _)).ls J J J
def lf(l:List aa):Nat:=(l.map λx=>x.length+2).sum
def abp:∀(l:List aa) (s:aH),y? (lf l) s (uj s l)
 |[],s=>(b3.refl s).ls J J J
 |b::l,s=>by
  have hp:lf (b::l)=b.length+2+lf l:=by unfold lf;simp
  unfold uj;split
  .exact(b3.refl s).ls J J J
  rw[hp];exact(ao2 s b).trans (abp l _)
def Rf:∀(k:Nat) (bad:Int) (a:aa),(ie k bad a).1.length+lf (ie k bad a).2.2.2<=a.length
 |0,bad,a=>by show a.length+lf []<=a.length;exact bX _
 |k+1,bad,a=>by
  unfold ie;split
  .exact bX _
  split
  .split
   .have:=Rf k (i64 (bad+1)) (a.drop (2+ey a))
    grind
   exact eS _
  split
  .exact bX _
  rename_i O R ai;have:=Rf k bad (a.drop (2+ey a));rw[ep]at this;show(ie k bad (a.drop (2+ey a))).1.length+lf ((a.drop 2).take (ey a)::(ie k bad (a.drop (2+ey a))).2.2.2)<=a.length;have hp:lf ((a.drop 2).take (ey a)::(ie k bad (a.drop (2+ey a))).2.2.2)=min (ey a) (a.length-2)+2+lf (ie k bad (a.drop (2+ey a))).2.2.2:=by unfold lf;simp
  omega
def avi(f:o0)(b:aa):(jm f b).1.1.length+lf (jm f b).2<=f.1.length+b.length:=by
 unfold jm;split
 .exact eS _
 have:=Rf (f.1++b).length f.2.2.1 ((f.1++b).drop f.2.1.toNat)
 grind
def X9(h:ef)(c:Int)(b:aa)(aq:(hn h c b).2.2=0)(au:h.2.1.length=4):fF (hn h c b).1+lf (hn h c b).2.1<=fF h+b.length:=by
 unfold hn at aq ⊢;split at aq
 .cases aq
 split at aq
 .cases aq
 rename_i O R;rw[if_neg O,if_neg R];have ah:=zg.1 O;have hp:=avi (an h.2.1 c.toNat ec) b;obtain⟨x,y,z,u,hx⟩:=aaU au;have SE:c=0\/c=1\/c=2\/c=3:=by unfold kj at ah;omega
 unfold fF;dsimp only;rcases SE with rfl|rfl|rfl|rfl
 all_goals
  rw[hx]at hp ⊢;show _+lf (jm (an [x,y,z,u] _ ec) b).2<=_
  first
   | (
    show(jm x b).1.1.length+y.1.length+z.1.length+u.1.length+lf (jm x b).2<=x.1.length+y.1.length+z.1.length+u.1.length+b.length;have:(jm x b).1.1.length+lf (jm x b).2<=x.1.length+b.length:=hp;omega)
   | (
    show x.1.length+(jm y b).1.1.length+z.1.length+u.1.length+lf (jm y b).2<=x.1.length+y.1.length+z.1.length+u.1.length+b.length;have:(jm y b).1.1.length+lf (jm y b).2<=y.1.length+b.length:=hp;omega)
   | (
    show x.1.length+y.1.length+(jm z b).1.1.length+u.1.length+lf (jm z b).2<=x.1.length+y.1.length+z.1.length+u.1.length+b.length;have:(jm z b).1.1.length+lf (jm z b).2<=z.1.length+b.length:=hp;omega)
   | (
    show x.1.length+y.1.length+z.1.length+(jm u b).1.1.length+lf (jm u b).2<=x.1.length+y.1.length+z.1.length+u.1.length+b.length;have:(jm u b).1.1.length+lf (jm u b).2<=u.1.length+b.length:=hp;omega)
structure aiC(C:Nat)(s x:aH):Prop where
 bz:4*(mQ x.e.bz+950*x.e.queue.length)+5*fF x.e.hub<=4*(mQ s.e.bz+950*s.e.queue.length)+5*(fF s.e.hub+C)
 DL:20*(x.e.bz.length+x.e.queue.length)+fF x.e.hub<=20*(s.e.bz.length+s.e.queue.length)+fF s.e.hub+C
 tab:20*(x.p.2.1.length+x.e.queue.length)+fF x.e.hub<=20*(s.p.2.1.length+s.e.queue.length)+fF s.e.hub+C
 got:20*x.e.got.length+fF x.e.hub<=20*s.e.got.length+fF s.e.hub+C
def aa2{s:aH}(au:s.e.hub.2.1.length=4)(c:Int)(b:aa):aiC b.length s (o9 s c b):=by
 unfold o9;split
 .exact⟨J,J,J,J⟩
 rename_i aq;have Y:=X9 s.e.hub c b (zg.1 aq) au;obtain⟨cK,cU,dj,eT,lm⟩:=abp (hn s.e.hub c b).2.1 (qF s c b);have e1:(qF s c b).e.hub=(hn s.e.hub c b).1:=rfl;have aT:(qF s c b).e.bz=s.e.bz:=rfl;have dI:(qF s c b).e.queue=s.e.queue:=rfl;have gX:(qF s c b).p=s.p:=rfl;have nT:(qF s c b).e.got=s.e.got:=rfl;rw[e1]at lm;rw[aT,dI]at cK cU;rw[dI,gX]at dj;rw[nT]at eT;exact⟨J,J,J,J⟩
def eO(l:List dX):Nat:=(l.map λf=>f.2.2.1.length).sum
def Ml(l m:List dX):eO (l++m)=eO l+eO m:=by unfold eO;rw[Xx,List.sum_append]
theorem s9(f:dX)(l:List dX):eO (f::l)=f.2.2.1.length+eO l:=rfl
def AK(f:dX):Prop:=(f.1=0\/f.1=1)/\(0<=f.2.1/\f.2.1<4)/\f.2.2.1.length<=948
structure hk(w:bO):Prop where
 s:∀i,r4 (w.at i)
 bz:∀i,(w.e i).bz=[]
 got:∀i,(w.e i).got=[]
 a8:∀f∈w.a8,AK f
 old:∀f∈w.old,AK f
def fD(w:bO):Nat:=(w.e false).queue.length+(w.e true).queue.length
def f8(w:bO):Nat:=fF (w.e false).hub+fF (w.e true).hub
def eA(w:bO):Nat:=w.p.2.1.length+w.old.length+w.a8.length+(w.eJ false).length+(w.eJ true).length+3*fD w
def ir(w:bO):Nat:=eO w.a8+f8 w+950*fD w
def D1(f:Bool->α)(i:Bool)(x:α):jn f i x i=x:=by unfold jn;rw[if_pos rfl]
def D2(f:Bool->α)(i:Bool)(x:α):jn f i x (!i)=f (!i):=by unfold jn;rw[if_neg (by cases i<;>decide)]
def Wz(f:Bool->Nat)(i:Bool):f false+f true=f i+f (!i):=by cases i<;>(show f false+f true=_)<;>first|rfl|exact Nat.add_comm _ _
def Pr(w:bO)(i:Bool):fD w=(w.e i).queue.length+(w.e (!i)).queue.length:=Wz (λj=>(w.e j).queue.length) i
def O8(w:bO)(i:Bool):f8 w=fF (w.e i).hub+fF (w.e (!i)).hub:=Wz (λj=>fF (w.e j).hub) i
def T7(w:bO)(i:Bool):(w.eJ false).length+(w.eJ true).length=(w.eJ i).length+(w.eJ (!i)).length:=Wz (λj=>(w.eJ j).length) i
structure aiD(w:bO)(i:Bool)(x:aH)(v:bO):Prop where
 a8:v.a8=w.a8++x.e.bz.map (jE i)\/v.a8=[]
 Q:fD v=x.e.queue.length+(w.e (!i)).queue.length
 B:f8 v<=fF x.e.hub+fF (w.e (!i)).hub
 Z:eA v<=x.p.2.1.length+(w.old.length+x.e.bz.length)+(w.a8.length+x.e.bz.length)+((w.eJ i).length+x.e.got.length)+(w.eJ (!i)).length+3*fD v
def X8(h:ef)(c:Int):fF (lP h c).1<=fF h:=by
 have key:∀k,(an (lP h c).1.2.1 k ec).1.length<=(an h.2.1 k ec).1.length:=by
  intro k;unfold lP;split
  .simp
  split
  .simp
  show(an (cg h.2.1 c.toNat ec) k ec).1.length<=_;unfold an cg;rw[nE,B_];split
  .split<;>exact eS _
  simp
 unfold fF
 grind
def FD(w:bO)(c:Int):fD (i' w c)=fD w/\f8 (i' w c)<=f8 w/\eA (i' w c)<=eA w/\eO (i' w c).a8<=eO w.a8:=by
 have hf:((w.a8.filter λf=>decide (¬f.2.1=c))).length<=w.a8.length:=sr _ _;have aq:=X8 (w.e false).hub c;have O:=X8 (w.e true).hub c;refine⟨rfl,?_,?_,?_⟩
 .show fF (lP (w.e false).hub c).1+fF (lP (w.e true).hub c).1<=fF (w.e false).hub+fF (w.e true).hub
  omega
 .show w.p.2.1.length+w.old.length+(w.a8.filter λf=>decide (¬f.2.1=c)).length+(w.eJ false).length+(w.eJ true).length+3*fD w<=eA w
  unfold eA;omega
 show eO (w.a8.filter λf=>decide (¬f.2.1=c))<=eO w.a8;generalize w.a8=l;induction l with
 |nil=>exact bX _
 |cons f l ih=>
  rw[List.filter_cons];split
  .rw[s9,s9];omega
  rw[s9];omega
def akd{w:bO}(h:∀f∈w.a8,AK f):(zu w).a8=[]:=by
 show((((w.a8.filter λf=>decide (¬f.2.1=0)).filter λf=>decide (¬f.2.1=1)).filter λf=>decide (¬f.2.1=2)).filter λf=>decide (¬f.2.1=3))=[];rw[E3,E3,E3,Ff];intro f hf;have:=(h f hf).2.1
 grind
def ake(w:bO):fD (zu w)=fD w/\f8 (zu w)<=f8 w/\eA (zu w)<=eA w:=by obtain⟨cK,cU,dj,_⟩:=FD w 0;obtain⟨e_,eC,j0,_⟩:=FD (i' w 0) 1;obtain⟨c1,c2,hd,_⟩:=FD (i' (i' w 0) 1) 2;obtain⟨d1,d2,d3,_⟩:=FD (i' (i' (i' w 0) 1) 2) 3;exact⟨rfl,by show f8 (i' _ 3)<=_;omega,by show eA (i' _ 3)<=_;omega⟩
def at7{s:aH}(h:r4 s)(c:Int):r4 ⟨oC s.e c,s.p⟩:=by obtain⟨n,h⟩:=h;exact⟨n,auf h.e c,h.p⟩
def H1{w:bO}(h:hk w)(c:Int):hk (i' w c):=
 ⟨λi=>at7 (h.s i) c,h.bz,h.got,λf hf=>h.a8 f (xn.1 hf).1,h.old⟩
def aef{x:aH}(h:bw n x):∀f∈x.e.bz.map (jE i),AK f:=by intro f hf;obtain⟨y,bs,rfl⟩:=zh.1 hf;obtain⟨O,R⟩:=h.e.outs y bs;exact⟨by cases i<;>first|exact .inl rfl|exact .inr rfl,O,R⟩
def aux{w:bO}(h:hk w){x:aH}(hx:r4 x):hk (mG w i x):=by
 obtain⟨n,am⟩:=hx;have aI:r3 n { x.e with bz:=[],got:=[] }:={ am.e with bz:=eS _,got:=eS _,outs:=λ_ hx=>by cases hx };refine⟨λj => ?_,λj => ?_,λj => ?_,λf hf => ?_,λf hf => ?_⟩
 .by_cases ao:j=i
  .subst ao
   exact⟨n,by show r3 n (jn w.e j _ j);rw[D1];exact aI,am.p⟩
  have dS:j=!i:=by cases i<;>cases j<;>simp_all
  subst dS;obtain⟨m,hm⟩:=h.s (!i);refine⟨max n m,?_,fv am.p (Nat.le_max_left _ _)⟩;show r3 _ (jn w.e i _ (!i));rw[D2];exact DP hm.e (Nat.le_max_right _ _)
 .by_cases ao:j=i
  .subst ao;show(jn w.e j _ j).bz=[];rw[D1]
  have dS:j=!i:=by cases i<;>cases j<;>simp_all
  subst dS;show(jn w.e i _ (!i)).bz=[];rw[D2];exact h.bz _
 .by_cases ao:j=i
  .subst ao;show(jn w.e j _ j).got=[];rw[D1]
  have dS:j=!i:=by cases i<;>cases j<;>simp_all
  subst dS;show(jn w.e i _ (!i)).got=[];rw[D2];exact h.got _
 .rcases iQ.1 hf with hf|hf
  .exact h.a8 f hf
  exact aef am f hf
 rcases iQ.1 hf with hf|hf
 .exact h.old f hf
 exact aef am f hf
def aeA{w:bO}(h:hk w){x:aH}(hx:r4 x):hk (j4 w i x)/\aiD w i x (j4 w i x):=by
 have aq:=aux (i:=i) h hx;have zR:fD (mG w i x)=x.e.queue.length+(w.e (!i)).queue.length:=by rw[Pr _ i];show(jn w.e i _ i).queue.length+(jn w.e i _ (!i)).queue.length=_;rw[D1,D2]
 have aB:f8 (mG w i x)=fF x.e.hub+fF (w.e (!i)).hub:=by rw[O8 _ i];show fF (jn w.e i _ i).hub+fF (jn w.e i _ (!i)).hub=_;rw[D1,D2]
 have zT:eA (mG w i x)=x.p.2.1.length+(w.old.length+x.e.bz.length)+(w.a8.length+x.e.bz.length)+((w.eJ i).length+x.e.got.length)+(w.eJ (!i)).length+3*fD (mG w i x):=by
  have hl:=T7 (mG w i x) i;have e1:((mG w i x).eJ i).length=(w.eJ i).length+x.e.got.length:=by show(jn w.eJ i _ i).length=_;rw[D1,db]
  have aT:((mG w i x).eJ (!i)).length=(w.eJ (!i)).length:=by show(jn w.eJ i _ (!i)).length=_;rw[D2]
  unfold eA;rw[show(mG w i x).p=x.p from rfl,show(mG w i x).old=w.old++x.e.bz.map (jE i) from rfl,show(mG w i x).a8=w.a8++x.e.bz.map (jE i) from rfl,db,db,xf];omega
 unfold j4;split
 .obtain⟨e_,eC,j0⟩:=ake (mG w i x)
  refine⟨H1 (H1 (H1 (H1 aq 0) 1) 2) 3,.inr (akd aq.a8),e_.trans zR,fv eC (J3 aB),?_⟩;omega
 exact⟨aq,.inl rfl,zR,J3 aB,J3 zT⟩
def adf(i:Bool)(l:List pI):eO (l.map (jE i))=mQ l:=by unfold eO mQ;rw[List.map_map];rfl
def PX{w:bO}(h:hk w)(i:Bool)(c:Int)(b:aa):hk (lM w i c b)/\((lM w i c b).a8=[]\/∃o,(lM w i c b).a8=w.a8++o/\4*(eO o+950*fD (lM w i c b))+5*f8 (lM w i c b)<=4*(950*fD w)+5*(f8 w+b.length)) /\
  4*(950*fD (lM w i c b))+5*f8 (lM w i c b)<=4*(950*fD w)+5*(f8 w+b.length)/\20*eA (lM w i c b)+4*f8 (lM w i c b)<=20*eA w+4*(f8 w+b.length):=by
 have hf:r4 (o9 (w.at i) c b):=at6 (h.s i) c b;obtain⟨n,am⟩:=h.s i;obtain⟨cK,cU,dj,eT⟩:=aa2 (s:=w.at i) am.e.feed c b;have aO:(w.at i).e.bz=[]:=h.bz i;have hg:(w.at i).e.got=[]:=h.got i;rw[aO]at cK cU;rw[hg]at eT;have eM:mQ ([]:List pI)=0:=rfl;have e1:([]:List pI).length=0:=rfl;have aT:([]:List jr).length=0:=rfl;rw[eM]at cK;rw[e1]at cU;rw[aT]at eT;obtain⟨O,R,ai,au,a4⟩:=aeA (i:=i) h hf;have a_:=Pr w i;have Y:=O8 w i;have bh:=T7 w i;have bG:(w.at i).e.queue.length=(w.e i).queue.length:=rfl;have ca:fF (w.at i).e.hub=fF (w.e i).hub:=rfl;have cr:(w.at i).p.2.1.length=w.p.2.1.length:=rfl;have zT:eA w=w.p.2.1.length+w.old.length+w.a8.length+(w.eJ false).length+(w.eJ true).length+3*fD w:=rfl;rw[show lM w i c b=j4 w i (o9 (w.at i) c b) from rfl];refine⟨O,?_,J,J⟩;rcases R with R|R
 .refine .inr ⟨_,R,?_⟩
  rw[adf];omega
 exact .inl R
def V0{w:bO}(h:hk w)(i:Bool){x:aH}(hx:r4 x){t:Nat}(hg:b3 m t g (w.at i) x):hk (j4 w i x)/\ir (j4 w i x)<=ir w+m/\eA (j4 w i x)<=eA w+3*t+g:=by
 obtain⟨cK,cU,dj,eT,lm⟩:=hg;have aO:(w.at i).e.bz=[]:=h.bz i;have LJ:(w.at i).e.got=[]:=h.got i;rw[aO]at cK cU;rw[LJ]at eT;have eM:mQ ([]:List pI)=0:=rfl;have e1:([]:List pI).length=0:=rfl;have aT:([]:List jr).length=0:=rfl;rw[eM]at cK;rw[e1]at cU;rw[aT]at eT;obtain⟨O,R,ai,au,a4⟩:=aeA (i:=i) h hx;have a_:=Pr w i;have Y:=O8 w i;have bh:=T7 w i;have bG:(w.at i).e.queue.length=(w.e i).queue.length:=rfl;have ca:fF (w.at i).e.hub=fF (w.e i).hub:=rfl;have cr:(w.at i).p.2.1.length=w.p.2.1.length:=rfl;have zT:eA w=w.p.2.1.length+w.old.length+w.a8.length+(w.eJ false).length+(w.eJ true).length+3*fD w:=rfl;have n0:eO (j4 w i x).a8<=eO w.a8+mQ x.e.bz:=by
  rcases R with R|R
  .rw[R,Ml,adf];exact bX _
  rw[R];exact eS _
 refine⟨O,?_,?_⟩
 .unfold ir;omega
 omega
def J9:=@List.mem_of_mem_eraseIdx
def JY:=@List.length_eraseIdx_le
def Xv:=@List.exists_cons_of_ne_nil
def Pz:=@List.mem_or_eq_of_mem_set
def Pi:=@Nat.mul_add
def XM{a:gB}(h:A7 a):a.2.2.2.2.1.length<=900:=by
 rcases h with rfl|h
 .exact eS _
 exact h.1.2.2.2.2
def aoP(s:aH){a:gB}(h:a.2.2.2.2.1.length<=900):b3 948 1 0 s (zq s a):=by
 unfold zq;split
 .exact(Lu s _ _).mono J J J
 exact(Gj s _).mono J J J
def aoR(s:aH):b3 0 0 1 s (zy s):=by
 unfold zy;split
 .exact(abj s).mono J J J
 split
 .exact(aoU s).mono J J J
 exact aoV s
def ao1(s:aH)(a:gB):b3 0 0 0 s (y3 s a):=b3.same _ _ rfl (bX _) rfl rfl rfl
def abn{s:aH}(ae:bw n s):b3 948 1 1 s (ve s):=by
 have aq:=ao1 s (m1 s.e.ask).1;unfold ve;split
 .exact aq.to (aoP _ (XM (Vq ae.e.askr))) J J J
 split
 .exact aq.to (aoR _) J J J
 exact aq.mono J J J
def Sd{s:aH}(ae:bw n s):b3 948 1 3 s (lj s):=by
 have aj:b3 0 0 0 s (Iv s):=b3.same _ _ rfl (bX _) rfl rfl rfl;unfold lj;split
 .exact(b3.refl s).mono J J J
 split
 .split
  .exact aj.to (abk _) J J J
  exact(aj.trans (abn (HY ae))).to (Gh _) J J J
 exact(abn ae).to (Gh _) J J J
def aoZ(s:aH)(b:aa):b3 950 1 1 s (tw s b).1:=by
 have aq:b3 950 1 1 s s:=(b3.refl s).mono J J J;unfold tw;split
 .exact aq
 split
 .exact aq
 split
 .exact aq
 have a_:(pm s.e.queue (mY b s.e.day).1).1.length<=s.e.queue.length+1:=by
  unfold pm
  grind
 have O:b3 950 1 0 s (u1 s (pm s.e.queue (mY b s.e.day).1).1):=by
  refine⟨?_,?_,?_,bX _,bX _⟩
  .show mQ s.e.bz+950*(pm s.e.queue (mY b s.e.day).1).1.length<=_;omega
  .show s.e.bz.length+(pm s.e.queue (mY b s.e.day).1).1.length<=_;omega
  show s.p.2.1.length+(pm s.e.queue (mY b s.e.day).1).1.length<=_;omega
 exact(O.trans (Sa _ 1 0 (mY b s.e.day).1)).to (Gh _) J J J
def abh{s:aH}(ae:bw n s)(a:ge):b3 950 1 3 s (sI s a).1:=by
 have aq:b3 950 1 3 s s:=(b3.refl s).mono J J J;have a_:∀(x:aH) (q:d'),b3 948 1 0 x (lB x q):=λx q=>(Sb x q (bX _)).mono J J J;unfold sI;split
 .exact(aoZ s _).mono J J J
 split
 .exact(abk s).mono J J J
 split
 .unfold zv
  split
  .exact aq
  split
  .exact aq
  split
  .exact(CW s 0).mono J J J
  have O:b3 0 0 0 s (Q7 s):=b3.same _ _ rfl (eS _) rfl rfl rfl;exact O.to (a_ _ _) J J J
 split
 .unfold zB
  split
  .exact aq
  split
  .exact aq
  exact(a_ _ _).mono J J J
 split
 .unfold AC
  split
  .exact aq
  split
  .exact aq
  split
  .exact aq
  split
  .exact aq
  have O:b3 0 0 0 s ⟨{ s.e with ph:=4,ring:=(mS s.e.ring (rY s.e.ring).1 (pS s.e (rY s.e.ring).1 a.2.2.2.2.1)).1 },s.p⟩:=b3.same _ _ rfl (bX _) rfl rfl rfl;exact O.to (a_ _ _) J J J
 split
 .unfold zA
  split
  .exact aq
  split
  .exact aq
  split
  .exact aq
  have O:b3 0 0 0 s (uZ s 5):=b3.same _ _ rfl (bX _) rfl rfl rfl;exact O.to (a_ _ _) J J J
 split
 .exact(Sd ae).mono J J J
 split
 .exact(abg s).mono J J J
 split
 .unfold Co
  repeat(first|exact aq|exact b3.mono (m:=0) (t:=0) (g:=0) (by exact b3.same _ _ rfl (bX _) rfl rfl rfl) J J J|split)
 split
 .exact b3.mono (m:=0) (t:=0) (g:=0) (by exact b3.same _ _ rfl (bX _) rfl rfl rfl) J J J
 exact aq
def KP:∀(k:Nat) {w:bO},hk w->(k<=w.a8.length\/w.a8=[])->hk (nc k w) /\
  4*(eO (nc k w).a8+950*fD (nc k w))+5*f8 (nc k w)<=5*(eO (w.a8.take k)+f8 w)+4*(eO (w.a8.drop k)+950*fD w) /\
  20*eA (nc k w)+4*f8 (nc k w)<=20*eA w+4*(f8 w+eO (w.a8.take k))
 |0,w,h,ap=>⟨h,by show 4*(eO w.a8+950*fD w)+5*f8 w<=5*(eO []+f8 w)+4*(eO w.a8+950*fD w);omega,by show 20*eA w+4*f8 w<=_;omega⟩
 |k+1,w,h,ap=>by
  unfold nc;split
  .grind
  rename_i aq;obtain⟨f,r,hf⟩:=Xv aq;have LK:k<=r.length:=by
   grind
  have e:(j5 w 0 0).1=lM { w with a8:=r } (lE f.1) f.2.1 f.2.2.1:=by unfold j5;rw[hf];rw[if_neg bf];rfl
  have O:hk { w with a8:=r }:=⟨h.s,h.bz,h.got,λg hg=>h.a8 g (by grind),h.old⟩;obtain⟨e_,eC,j0,ox⟩:=PX O (lE f.1) f.2.1 f.2.2.1;rw[e];generalize lM { w with a8:=r } (lE f.1) f.2.1 f.2.2.1=v at e_ eC j0 ox;have bG:fD ({ w with a8:=r }:bO)=fD w:=rfl;have ca:f8 ({ w with a8:=r }:bO)=f8 w:=rfl;have cr:eA ({ w with a8:=r }:bO)+1=eA w:=by unfold eA;rw[bG,hf];simp;omega
  have dW:eO ((f::r).take (k+1))=f.2.2.1.length+eO (r.take k):=rfl;rcases eC with aD|⟨o,aD,eC⟩
  .obtain⟨c1,c2,hd⟩:=KP k e_ (.inr aD)
   have ait:eO (([]:List dX).take k)=0:=by cases k<;>rfl
   grind
  have b9:k<=v.a8.length:=by rw[aD,db];exact fv LK (Nat.le_add_right _ _)
  obtain⟨c1,c2,hd⟩:=KP k e_ (.inl b9);have aT:v.a8.drop k=r.drop k++o:=by rw[aD];exact PG LK
  rw[aT,Ml]at c2
  grind
def Wt{w:bO}(h:hk w)(i:Bool):hk (oe w i)/\ir (oe w i)<=ir w+948/\eA (oe w i)<=eA w+6:=by obtain⟨n,am⟩:=h.s i;exact V0 h i ⟨_,aex am⟩ (Sd am)
def awE{w:bO}(h:hk w):hk (jV w)/\4*ir (jV w)<=5*ir w+7600/\20*eA (jV w)<=20*eA w+4*ir w+240:=by
 obtain⟨cK,cU,dj⟩:=KP w.a8.length h (.inl (bX _));rw[o5]at cU dj;rw[List.drop_length]at cU;obtain⟨e_,eC,j0⟩:=Wt cK false;obtain⟨c1,c2,hd⟩:=Wt e_ true;have eM:eO ([]:List dX)=0:=rfl;rw[eM]at cU;refine⟨c1,?_,?_⟩
 .show 4*ir (oe (oe (nc w.a8.length w) false) true)<=_
  unfold ir at *
  omega
 show 20*eA (oe (oe (nc w.a8.length w) false) true)<=_;unfold ir;omega
def qG{f:o0}(h:qe f):f.1.length<=1025:=by rcases h.2 with h|h<;>omega
def aiz{w:bO}(h:hk w):f8 w<=8200:=by
 have key:∀i,fF (w.e i).hub<=4100:=λi=>by obtain⟨n,am⟩:=h.s i;have aq:=qG (am.e.fd 0);have O:=qG (am.e.fd 1);have R:=qG (am.e.fd 2);have ai:=qG (am.e.fd 3);show(an (w.at i).e.hub.2.1 0 ec).1.length+(an (w.at i).e.hub.2.1 1 ec).1.length+(an (w.at i).e.hub.2.1 2 ec).1.length+(an (w.at i).e.hub.2.1 3 ec).1.length<=4100;omega
 have aq:=key false;have O:=key true;unfold f8;omega
structure lL(w v:bO):Prop where
 ok:hk v
 L:ir v<=ir w+4000
 Z:eA v<=eA w+4000
def lL.refl{w:bO}(h:hk w):lL w w:=⟨h,J,J⟩
def VS{w u:bO}(h:hk u)(i:Bool)(c:Int){b:aa}(Y:b.length<=1200)(hL:ir u+b.length<=ir w+1200)(zT:eA u<=eA w):lL w (lM u i c b):=by
 obtain⟨cK,cU,dj,eT⟩:=PX h i c b;have aB:=aiz h;have aM:ir u=eO u.a8+f8 u+950*fD u:=rfl;refine⟨cK,?_,J⟩;show eO (lM u i c b).a8+f8 (lM u i c b)+950*fD (lM u i c b)<=_;rcases cU with cU|⟨o,cU,lm⟩
 .rw[cU,show eO ([]:List dX)=0 from rfl];omega
 rw[cU,Ml];omega
def T2:∀(l:List dX) (n:Nat),n<l.length->eO (l.eraseIdx n)+(an l n ns).2.2.1.length=eO l
 |f::l,0,h=>by show eO l+f.2.2.1.length=_;rw[s9];omega
 |f::l,n+1,h=>by have:=T2 l n (by grind);show eO (f::l.eraseIdx n)+(an l n ns).2.2.1.length=_;rw[s9,s9];omega
def adg:∀(l:List dX) (n:Nat) (g:dX),n<l.length->eO (l.set n g)+(an l n ns).2.2.1.length=eO l+g.2.2.1.length
 |f::l,0,g,h=>by show eO (g::l)+f.2.2.1.length=_;rw[s9,s9];omega
 |f::l,n+1,g,h=>by have:=adg l n g (by grind);show eO (f::l.set n g)+(an l n ns).2.2.1.length=_;rw[s9,s9];omega
def HV{l:List dX}(h:n<l.length):an l n ns∈l:=by unfold an;rw[nE,kg h];exact lI h
def H2{w:bO}(h:hk w){l:List dX}(hl:∀f∈l,AK f):hk { w with a8:=l }:=⟨h.s,h.bz,h.got,hl,h.old⟩
def axH{w:bO}(h:hk w)(n m:Int):lL w (j5 w n m).1:=by
 unfold j5;split
 .exact lL.refl h
 have am:n.toNat<w.a8.length:=J;have gn:=h.a8 _ (HV am);dsimp only;split
 .rename_i hm
  refine VS (H2 h λf hf => ?_) _ _ (by rw[ib];have:=gn.2.2;omega) ?_ ?_
  .rcases Pz hf with hf|rfl
   .exact h.a8 f hf
   exact⟨gn.1,gn.2.1,by rw[ep];have:=gn.2.2;omega⟩
  .have:=adg w.a8 n.toNat ((an w.a8 n.toNat ns).1,(an w.a8 n.toNat ns).2.1,(an w.a8 n.toNat ns).2.2.1.drop m.toNat,()) am
   rw[ep]at this;rw[ib];show eO (w.a8.set n.toNat _)+f8 w+950*fD w+_<=eO w.a8+f8 w+950*fD w+1200;omega
  show w.p.2.1.length+w.old.length+(w.a8.set n.toNat _).length+(w.eJ false).length+(w.eJ true).length+3*fD w<=eA w;rw[kf];exact bX _
 refine VS (H2 h λf hf=>h.a8 f (J9 hf)) _ _ (by have:=gn.2.2;omega) ?_ ?_
 .have:=T2 w.a8 n.toNat am
  show eO (w.a8.eraseIdx n.toNat)+f8 w+950*fD w+_<=eO w.a8+f8 w+950*fD w+1200;omega
 have:(w.a8.eraseIdx n.toNat).length<=w.a8.length:=JY _ _;show w.p.2.1.length+w.old.length+(w.a8.eraseIdx n.toNat).length+(w.eJ false).length+(w.eJ true).length+3*fD w<=w.p.2.1.length+w.old.length+w.a8.length+(w.eJ false).length+(w.eJ true).length+3*fD w;omega
def ag7{w:bO}(h:hk w){f:dX}(hf:AK f):lL w { w with a8:=w.a8++[f] }:=by
 have ai:=hf.2.2;refine⟨H2 h λg hg => ?_,?_,?_⟩
 .rcases iQ.1 hg with hg|hg
  .exact h.a8 g hg
  grind
 .show eO (w.a8++[f])+f8 w+950*fD w<=eO w.a8+f8 w+950*fD w+4000
  rw[Ml,s9,show eO ([]:List dX)=0 from rfl];omega
 show w.p.2.1.length+w.old.length+(w.a8++[f]).length+(w.eJ false).length+(w.eJ true).length+3*fD w<=w.p.2.1.length+w.old.length+w.a8.length+(w.eJ false).length+(w.eJ true).length+3*fD w+4000
 grind
def axI{w:bO}(h:hk w){x:aH}(hx:r4 x)(hg:b3 950 1 3 (w.at i) x):lL w (j4 w i x):=by obtain⟨cK,cU,dj⟩:=V0 h i hx hg;exact⟨cK,J,J⟩
def abm(s:aH)(au:s.e.hub.2.1.length=4)(c:Int):b3 0 0 0 s (wM s c).1:=by
 have Y:fF (l2 s.e.hub c).1<=fF s.e.hub:=by
  have key:∀k,(an (l2 s.e.hub c).1.2.1 k ec).1.length<=(an s.e.hub.2.1 k ec).1.length:=by
   intro k;unfold l2;split
   .simp
   split
   .simp
   show(an (cg s.e.hub.2.1 c.toNat ec) k ec).1.length<=_;unfold an cg;rw[nE,B_];split
   .split<;>exact eS _
   simp
  unfold fF
  grind
 unfold wM;split
 .exact b3.refl s
 split
 .exact b3.refl s
 have O:b3 0 0 0 s ⟨{ s.e with hub:=(l2 s.e.hub c).1 },s.p⟩:=⟨bX _,bX _,bX _,bX _,Y⟩;exact O.to (Gh _) J J J
def Va{w:bO}(h:hk w)(i:Bool)(c:Int):hk (r_ w i c)/\ir (r_ w i c)<=ir w/\eA (r_ w i c)<=eA w:=by obtain⟨n,am⟩:=h.s i;exact V0 h i ⟨_,aur am c⟩ (abm _ am.e.feed c)
def axG{w:bO}(h:hk w)(a:ge)(Y:a.2.2.2.2.1.length<=1200)(ah:¬a.1=17):lL w (eX w a).1:=by
 unfold eX;split
 .exact axH h _ _
 split
 .unfold sJ
  split
  .exact lL.refl h
  rename_i am;have lw:a.2.2.1.toNat<w.a8.length:=J;have O:=T2 w.a8 a.2.2.1.toNat lw;have R:(w.a8.eraseIdx a.2.2.1.toNat).length<=w.a8.length:=JY _ _;refine⟨H2 h λf hf=>h.a8 f (J9 hf),?_,?_⟩
  .show eO (w.a8.eraseIdx a.2.2.1.toNat)+f8 w+950*fD w<=eO w.a8+f8 w+950*fD w+4000;omega
  show w.p.2.1.length+w.old.length+(w.a8.eraseIdx a.2.2.1.toNat).length+(w.eJ false).length+(w.eJ true).length+3*fD w<=w.p.2.1.length+w.old.length+w.a8.length+(w.eJ false).length+(w.eJ true).length+3*fD w+4000;omega
 split
 .unfold Ft
  split
  .exact lL.refl h
  rename_i am;exact ag7 h (h.old _ (HV J))
 split
 .unfold Bi
  split
  .exact lL.refl h
  rename_i am;have p3:0<=a.2.2.1/\a.2.2.1<(w.old.length:Int):=kZ λq=>am (.inl q);have aO:=h.old _ (HV (l:=w.old) (n:=a.2.2.1.toNat) J);refine ag7 h ⟨aO.1,aO.2.1,?_⟩;show(cg _ _ _).length<=948;unfold cg;rw[kf];exact aO.2.2
 split
 .unfold Hg
  split
  .exact lL.refl h
  exact VS h _ _ Y J (bX _)
 split
 .unfold A1
  split
  .exact lL.refl h
  split
  .exact lL.refl h
  split
  .exact lL.refl h
  show lL w (r_ (r_ w false a.2.2.1) true a.2.2.1);obtain⟨cK,cU,dj⟩:=Va h false a.2.2.1;obtain⟨e_,eC,j0⟩:=Va cK true a.2.2.1;exact⟨e_,J,J⟩
 split
 .unfold FT
  split
  .exact lL.refl h
  show lL w (i' w a.2.2.1);obtain⟨cK,cU,dj,eT⟩:=FD w a.2.2.1;refine⟨H1 h _,?_,J⟩;show eO (i' w a.2.2.1).a8+f8 (i' w a.2.2.1)+950*fD (i' w a.2.2.1)<=eO w.a8+f8 w+950*fD w+4000;omega
 split
 .unfold sB
  split
  .exact lL.refl h
  obtain⟨n,am⟩:=h.s (lE a.2.1);exact axI h ⟨_,aui am a⟩ (abh am a)
 exact lL.refl h
structure ia(a r:Nat)(w:bO):Prop where
 ok:hk w
 L:4^r*(ir w+7600)<=5^r*(4000*a+7600)
 Z:4^r*eA w<=5^r*(8000*a+9000)
def U3(r:Nat):4^r<=5^r:=Nat.pow_le_pow_left J r
def ia.ai7{w v:bO}(h:ia a r w)(k:lL w v):ia (a+1) r v:=by
 have hp:=U3 r;refine⟨k.ok,?_,?_⟩
 .calc 4^r*(ir v+7600)<=4^r*(ir w+7600+4000):=xi _ (by have:=k.L;omega)
   _=4^r*(ir w+7600)+4^r*4000:=Pi _ _ _
   _<=5^r*(4000*a+7600)+5^r*4000:=Nat.add_le_add h.L (iT _ hp)
   _=5^r*(4000*(a+1)+7600):=by rw[<- Pi,show 4000*a+7600+4000=4000*(a+1)+7600 by omega]
 calc 4^r*eA v<=4^r*(eA w+4000):=xi _ k.Z
  _=4^r*eA w+4^r*4000:=Pi _ _ _
  _<=5^r*(8000*a+9000)+5^r*8000:=Nat.add_le_add h.Z (Xu hp J)
  _=5^r*(8000*(a+1)+9000):=by rw[<- Pi,show 8000*a+9000+8000=8000*(a+1)+9000 by omega]
def ia.round  {w : bO} (h : ia a r w) : ia a (r + 1) (jV w) := by
  have hp := U3 r
  obtain ⟨bD, b1, dy⟩ := awE h.ok
  have hL := h.L
  have zT := h.Z
  refine ⟨bD, ?_, ?_⟩
  · calc 4 ^ (r + 1) * (ir (jV w) + 7600) = 4 ^ r * (4 * (ir (jV w) + 7600)) := by rw [Nat.pow_succ, Nat.mul_assoc]
      _ ≤ 4 ^ r * (5 * (ir w + 7600)) := Nat.mul_le_mul_left _ J
      _ = 5 * (4 ^ r * (ir w + 7600)) := Nat.mul_left_comm _ _ _
      _ ≤ 5 * (5 ^ r * (4000 * a + 7600)) := Nat.mul_le_mul_left _ hL
      _ = 5 ^ (r + 1) * (4000 * a + 7600) := by rw [Nat.pow_succ, Nat.mul_comm (5 ^ r) 5, Nat.mul_assoc]
  · have O : 5 * (4 ^ (r + 1) * eA (jV w)) ≤ 5 * (5 ^ (r + 1) * (8000 * a + 9000)) := by
      calc 5 * (4 ^ (r + 1) * eA (jV w)) = 4 ^ r * (20 * eA (jV w)) := by
            rw [Nat.pow_succ, Nat.mul_assoc, Nat.mul_left_comm, ← Nat.mul_assoc 5 4]
        _ ≤ 4 ^ r * (20 * eA w + (4 * (ir w + 7600))) := Nat.mul_le_mul_left _ J
        _ = 20 * (4 ^ r * eA w) + 4 * (4 ^ r * (ir w + 7600)) := by rw [Nat.mul_add, Nat.mul_left_comm, Nat.mul_left_comm _ 4]
        _ ≤ 20 * (5 ^ r * (8000 * a + 9000)) + 4 * (5 ^ r * (4000 * a + 7600)) := Nat.add_le_add (Nat.mul_le_mul_left _ zT) (Nat.mul_le_mul_left _ hL)
        _ = 5 ^ r * (20 * (8000 * a + 9000) + 4 * (4000 * a + 7600)) := by rw [Nat.mul_add (5 ^ r) (20 * _), Nat.mul_left_comm (5 ^ r) 20, Nat.mul_left_comm (5 ^ r) 4]
        _ ≤ 5 ^ r * (25 * (8000 * a + 9000)) := Nat.mul_le_mul_left _ J
        _ = 5 * (5 ^ (r + 1) * (8000 * a + 9000)) := by rw [Nat.pow_succ, Nat.mul_assoc, Nat.mul_left_comm 5 (5 ^ r), ← Nat.mul_assoc 5 5]
    exact Nat.le_of_mul_le_mul_left O J
def ia.t_{a:Nat}:∀(k:Nat) {r:Nat} {w:bO},ia a r w->ia a (r+k) (k2 k w)
 |0,r,w,h=>h
 |k+1,r,w,h=>by
  have:=ia.t_ k h.round;rw[Nat.add_right_comm]at *
  exact this
def ia.mono{b s:Nat}{w:bO}(h:ia a r w)(bc:a<=b)(aj:r<=s):ia b s w:=by
 obtain⟨d,rfl⟩:∃d,s=d+r:=⟨s-r,J⟩;have hp:=U3 d;have key:∀{x y z:Nat},4^r*x<=5^r*y->y<=z->4^(d+r)*x<=5^(d+r)*z:=fun{x y z} O R=>by rw[Nat.pow_add,Nat.pow_add,Pj,Pj];exact Xu hp (fv O (xi _ R))
 exact⟨h.ok,key h.L J,key h.Z J⟩
def ia.DL{w:bO}(h:ia 41 66 w):eA w<=900000000000:=by have zT:=h.Z;omega
def arS{h:ef}(hf:∀c,qe (an h.2.1 c ec))(c:Int){b:aa}(Y:b.length<=1000000):L0 (h,c,b,())=some ((hn h c b).1,(hn h c b).2.1,(hn h c b).2.2,()):=by
 unfold L0 hn;rw[acw];by_cases ah:kj c
 .rw[cC ah,if_neg (not_not_intro ah)]
  have au:aK c (bb 4)=true:=by unfold kj at ah;simp only[go_sem];exact ah
  refine(bU rfl).trans ((eG au).trans ?_);by_cases az:mw h c
  .rw[if_neg (not_not_intro az)]
   have aj:=hf c.toNat;refine(bU (by rw[g33,show an h.1 c.toNat false=true from az];rfl)).trans ((eG au).trans ?_);have ae:0<=(an h.2.1 c.toNat ec).2.1/\(an h.2.1 c.toNat ec).2.1<=65535:=by have:=aj.1;omega
   refine(cE (aop (by have:=qG aj;omega) Y ae)).trans ((d9 rfl).trans ((eG au).trans rfl))
  rw[if_pos az];exact b4 (by rw[g33];cases hx:an h.1 c.toNat false;rfl;exact absurd hx az)
 rw[cG ah,if_pos ah];rfl
theorem anq(e:c_):Ry (e.t,())=some (({ e with bz:=[],got:=[] }:c_).t,e.bz,e.got,()):=rfl
def aad(s:aH)(c:Int):Rz (s.t,c,())=some ((⟨oC s.e c,s.p⟩:aH).t,(lP s.e.hub c).2,()):=by exact(cE (arQ _ _)).trans rfl
def anv{s:aH}(ae:bw n s)(am:n<=999999000000)(c:Int):K5 (s.t,c,())=some ((wM s c).1.t,(wM s c).2,()):=by
 unfold K5 wM;by_cases cy:s.e.ph=8
 .rw[if_pos cy];exact b4 (cL cy)
 rw[if_neg cy];refine a0 (cx cy) (aL (arT _ _) ?_);by_cases aq:(l2 s.e.hub c).2=0
 .rw[if_neg (not_not_intro aq)]
  refine a0 (i_ aq) ?_;exact(cE (R2 (aeu ae c) am)).trans rfl
 rw[if_pos aq];exact b4 (lO aq)
def anz{s:aH}(ae:bw m s)(hm:m<=999999000000)(n:d')(am:n.2.2.2.2.2.1.length<=1000):F2 (s.t,n,())=some ((wS s n).t,()):=by
 unfold F2 wS;by_cases O:n.2.1=101
 .rw[if_pos O]
  refine aL ((b4 (cL O))) ?_;cases a_:n.1
  .rw[if_neg bf]
   refine a0 rfl (a? (cL O) ?_);exact(cE (awg ae J n)).trans rfl
  rw[if_pos rfl];exact(cE (awi ae J n am)).trans rfl
 rw[if_neg O];refine aL ((bU (cx O))) (a0 rfl (a0 (cx O) ?_));by_cases R:n.2.1=201
 .rw[if_pos R]
  refine aL ((b4 (cL R))) ?_;cases a_:n.1
  .rw[if_neg bf]
   refine a0 rfl (a? (cL R) ?_);exact(cE (aow n (by have:=XM ae.e.askr;omega))).trans rfl
  rw[if_pos rfl];exact(cE (aoy ae J n)).trans rfl
 rw[if_neg R];refine aL ((bU (cx R))) (a0 rfl (a0 (cx R) ?_));exact(cE (axs ae J n)).trans rfl
def atS{b:aa}:(ky b).1.2.2.2.2.2.1.length<=1000:=by
 rcases afo b with⟨n,h,aj,_⟩|⟨e,_,h⟩
 .rw[h]
  have ap:=aj.2.2.2.2.2.2;unfold Hq at ap
  grind
 rw[h];show([]:aa).length<=1000;simp
def wI{s:aH}(ae:bw n s)(am:n<=999999000000):(ob (kM (s.t,())) λ(a:fa×Unit)=>(some (a.1,()):Option (fa×Unit)))=some ((mV s).t,()):=(cE (R2 ae am)).trans rfl
def ans{s:aH}(ae:bw n s)(am:n<=999990000000)(b:aa):FZ (s.t,b,())=some ((iG s b).t,()):=by
 unfold FZ iG;obtain⟨rB,hT,az⟩:=asX ae b;refine aL hT ?_;have ap:=aew ae b;cases aO:(gR s b).2 with
 |none =>have SK:¬rB=0:=λh=>(az.1 h) aO;exact b4 (lO SK)
 |some v=>
  have SK:rB=0:=az.2 (by rw[aO];simp);refine a0 (i_ SK) ?_;dsimp only;obtain⟨aq,aD⟩:=Oq aO;obtain⟨aj,_,_,_⟩:=M7 aq;have rS:=Vc aq;rw[<- aD]at aj rS;have acC:∀k:Nat,dP (an v.2.2.1 k 0):=λk=>by
   rw[rS];match k with
   |0=>exact aj.1.2.1
   |1=>exact aj.1.2.2.1
   |k+2=>show dP 0;decide
  have je:v.2.2.2.2.2.1.length<=1000000:=by have:=aj.1.2.2.2.2.2.2.2;omega
  have aI:=aei ap acC;unfold mD at aI ⊢;have hf:=aem ap;have fV:=adX v.2.2.2.2.2.1 je;have d8:=TI v.2.2.2.2.2.1 je;have arb:=atS (b:=v.2.2.2.2.2.1);by_cases R:v.1=2
  .rw[if_pos R]at aI ⊢
   refine a? (cL R) (aL (axp ap J) (aL fV ?_));by_cases ai:(ky v.2.2.2.2.2.1).2.1=0
   .rw[if_pos ai]at aI ⊢
    refine a? (cL ai) (a? (cL R) ?_);exact aL (anz hf J _ arb) (wI aI J)
   rw[if_neg ai]at aI ⊢;refine a0 (cx ai) (aL d8 ?_);by_cases au:(e9 v.2.2.2.2.2.1).2.1=0
   .rw[if_pos au]at aI ⊢
    refine a? (cL au) (a? (cL R) ?_);exact aL (aoC hf J (Vb au).1 v) (wI aI J)
   rw[if_neg au]at aI ⊢;refine a0 (cx au) ?_;exact aL (Me _) (wI aI J)
  rw[if_neg R]at aI ⊢;refine a0 (cx R) (aL fV ?_);by_cases ai:(ky v.2.2.2.2.2.1).2.1=0
  .rw[if_pos ai]at aI ⊢
   refine a? (cL ai) (a0 (cx R) ?_);exact aL (axr ap J acC _) (wI aI J)
  rw[if_neg ai]at aI ⊢;refine a0 (cx ai) (aL d8 ?_);by_cases au:(e9 v.2.2.2.2.2.1).2.1=0
  .refine a? (cL au) (a0 (cx R) ?_)
   exact aL (Me _) (wI aI J)
  refine a0 (cx au) ?_;exact aL (Me _) (wI aI J)
def aeU:∀l:List aa,2*l.length<=lf l
 |[]=>bX _
 |b::l=>by have:=aeU l;unfold lf at *;simp;omega
def anp{s:aH}(ae:bw n s)(am:n<=990000000000)(c:Int){b:aa}(Y:b.length<=1000000):K3 (s.t,c,b,())=some ((o9 s c b).t,()):=by
 unfold K3 o9;refine aL (arS ae.e.fd c Y) ?_;by_cases aq:(hn s.e.hub c b).2.2=0
 .rw[if_neg (not_not_intro aq)]
  have ah:kj c:=by
   unfold hn at aq
   grind
  have au:aK c (bb 4)=true:=by unfold kj at ah;simp only[go_sem];exact ah
  have hl:(hn s.e.hub c b).2.1.length<=600000:=by
   have O:=X9 s.e.hub c b aq ae.e.feed;have R:=aeU (hn s.e.hub c b).2.1;have a4:fF s.e.hub<=4100:=by have aq:=qG (ae.e.fd 0);have O:=qG (ae.e.fd 1);have R:=qG (ae.e.fd 2);have ai:=qG (ae.e.fd 3);unfold fF;omega
   omega
  refine a0 (i_ aq) (a6 rfl (a6 au (a6 au (a6 rfl ?_))));generalize hg:(λ(x:Int×fa×Unit)=>(_:Option (aE (Int×fa×Unit) (fa×Unit))))=F;have key:∀(l:List aa) (i:Nat) (t:aH) (m:Nat),(hn s.e.hub c b).2.1.drop i=l->i<=(hn s.e.hub c b).2.1.length->bw m t->m<=990000000000+1003*i ->
    ∃j:Int,bC F ((i:Int),t.t,())=some (.ex 0 (j,(uj t l).t,())):=by
   intro l;induction l with
   |nil =>intro i t m aI ac ht hm;have b9:=congrArg List.length aI;rw[ep,gu]at b9;refine⟨(i:Int),dT ?_⟩;subst hg;exact bU (cP (by show ¬(i:Int)<((hn s.e.hub c b).2.1.length:Int);omega))
   |cons x l ih=>
    intro i t m aI ac ht hm;have b9:=congrArg List.length aI;rw[ep,fQ]at b9;have bi:i<(hn s.e.hub c b).2.1.length:=J;have hx:(hn s.e.hub c b).2.1[i]=x/\(hn s.e.hub c b).2.1.drop (i+1)=l:=by
     rw[l_ bi]at aI
     grind
    have eH:i64 (aC (i:Int) 1)=((i+1:Nat):Int):=fL (by show(i:Int)+1=_;omega) J;unfold uj;have dp:F ((i:Int),t.t,())=(T (af t.e.ph 8) (some (.ex 0 ((i:Int),t.t,()))) (ob (FZ (t.t,x,())) λ(a:fa×Unit)=>some (.nx (((i+1:Nat):Int),a.1,())))):=by subst hg;refine a? (di (by show(i:Int)<((hn s.e.hub c b).2.1.length:Int);omega)) (a6 cp ?_);rw[g1,show an (hn s.e.hub c b).2.1 i (aP UInt8)=x by rw[nth_get bi];exact hx.1,eH];rfl
    by_cases cy:t.e.ph=8
    .rw[if_pos cy]
     exact⟨(i:Int),dT (dp.trans (b4 (cL cy)))⟩
    rw[if_neg cy];have SS:=ans ht J x;have fV:F ((i:Int),t.t,())=some (.nx (((i+1:Nat):Int),(iG t x).t,())):=dp.trans (a0 (cx cy) ((cE SS).trans (d9 rfl)));obtain⟨j,ao⟩:=ih (i+1) (iG t x) (m+1003) hx.2 J (aen ht x) J;exact⟨j,(eE fV).trans ao⟩
  obtain⟨j,ao⟩:=key _ 0 (qF s c b) n rfl (eS _) (ael ae c b) J;exact(cO (ao)).trans (lc_ex'.trans (eG g62))
 rw[if_pos aq];exact b4 (lO aq)
def anw{s:aH}(ae:bw n s)(am:n<=999999000000)(a:gB):CE (s.t,a,())=some ((zq s a).t,()):=by
 unfold CE zq;by_cases h:a.1=1
 .rw[if_pos h]
  exact a? (cL h) ((cE (TT ae J 0 a.2.2.2.2.1)).trans rfl)
 rw[if_neg h];exact a0 (cx h) ((cE (yi ae J a.2.2.2.2.1)).trans rfl)
def anx{s:aH}(ae:bw n s)(am:n<=999999000000):CF (s.t,())=some ((zy s).t,()):=by
 unfold CF zy;by_cases au:s.e.ph=4
 .rw[if_pos au]
  exact a? (cL au) ((cE (afv s)).trans rfl)
 rw[if_neg au];refine a0 (cx au) ?_;by_cases a4:s.e.ph=5
 .rw[if_pos a4]
  exact a? (cL a4) ((cE (aoz s)).trans rfl)
 rw[if_neg a4];exact a0 (cx a4) ((cE (axq ae J)).trans rfl)
def awB{r:e?}(h:ms r):0<=r.2.2.2.1/\r.2.2.2.1<=1000000:=by
 rcases h with rfl|⟨_,_,_,_,R,_⟩
 .exact⟨by show(0:Int)<=0;omega,by show(0:Int)<=1000000;omega⟩
 omega
def ahI{s:aH}(ae:bw n s)(am:n<=999998000000):
  (ob (Cj (s.e.ask,())) λ(ba:gB×Bool×Bool×Unit)=>T ba.2.1 (ob (CE ((y3 s ba.1).t,ba.1,())) λ(a:fa×Unit)=>ob (kM (a.1,())) λ(a:fa×Unit)=>some (a.1,()))
   (T ba.2.2.1 (ob (CF ((y3 s ba.1).t,())) λ(a:fa×Unit)=>ob (kM (a.1,())) λ(a:fa×Unit)=>some (a.1,()))
    (ob (kM ((y3 s ba.1).t,())) λ(a:fa×Unit)=>some (a.1,()))):Option (fa×Unit))=some ((mV (ve s)).t,()):=by
 refine aL (ajA ae.e.askr) ?_;have bu:=aez ae (Vq ae.e.askr);have ht:=UI ae;unfold ve at ht ⊢;cases O:(m1 s.e.ask).2.1
 .rw[O]at ht
  refine a0 rfl ?_;cases R:(m1 s.e.ask).2.2
  .rw[R]at ht
   exact a0 rfl (wI bu J)
  rw[R]at ht;exact a? rfl (aL (anx bu J) (wI ht J))
 rw[O]at ht;exact a? rfl (aL (anw bu J _) (wI ht J))
def aae{s:aH}(ae:bw n s)(am:n<=999998000000):F1 (s.t,())=some ((lj s).t,()):=by
 unfold F1 lj;by_cases Gk:s.e.ph=7\/s.e.ph=8
 .rw[if_pos Gk]
  refine aL (a:=(true,())) ?_ (b4 rfl);by_cases eh:s.e.ph=7
  .exact b4 (cL eh)
  refine a0 (cx eh) ?_;show some (af s.e.ph 8,())=_;rw[cL (Gk.resolve_left eh)]
 rw[if_neg Gk];have eh:¬s.e.ph=7:=λh=>Gk (.inl h);have cy:¬s.e.ph=8:=λh=>Gk (.inr h);refine aL (a:=(false,())) (a0 (cx eh) (by show some (af s.e.ph 8,())=_;rw[cx cy])) (a0 rfl ?_);refine aL (show u0 (s.e.ph,())=_ from Ia _) ?_;by_cases hl:kq s.e.ph
 .rw[cC hl,if_pos hl]
  refine a? rfl (aL (awA (awB ae.e.ring)) ?_);by_cases a_:s.e.seq=4611686018427387904
  .rw[if_pos a_]
   exact a? (cL a_) ((cE (agU (HY ae) J)).trans rfl)
  rw[if_neg a_];exact a0 (cx a_) (ahI (HY ae) am)
 rw[cG hl,if_neg hl];exact a0 rfl (ahI ae am)
def anr{s:aH}(ae:bw n s)(am:n<=999998000000)(a:ge)(Y:a.2.2.2.2.1.length<=1000000):K4 (s.t,a,())=some ((sI s a).1.t,(sI s a).2,()):=by
 unfold K4 sI;by_cases aq:a.1=0
 .rw[if_pos aq];exact a? (cL aq) ((cE (aoB ae J _ Y)).trans rfl)
 rw[if_neg aq];refine a0 (cx aq) ?_;by_cases O:a.1=1
 .rw[if_pos O];exact a? (cL O) ((cE (agU ae J)).trans rfl)
 rw[if_neg O];refine a0 (cx O) ?_;by_cases R:a.1=2
 .rw[if_pos R];exact a? (cL R) ((cE (axt ae J)).trans rfl)
 rw[if_neg R];refine a0 (cx R) ?_;by_cases ai:a.1=3
 .rw[if_pos ai];exact a? (cL ai) ((cE (axo ae J)).trans rfl)
 rw[if_neg ai];refine a0 (cx ai) ?_;by_cases au:a.1=4
 .rw[if_pos au];exact a? (cL au) ((cE (awh ae J _)).trans rfl)
 rw[if_neg au];refine a0 (cx au) ?_;by_cases a4:a.1=5
 .rw[if_pos a4];exact a? (cL a4) ((cE (aox ae J _)).trans rfl)
 rw[if_neg a4];refine a0 (cx a4) ?_;by_cases cQ:a.1=6
 .rw[if_pos cQ];exact a? (cL cQ) ((cE (aae ae am)).trans rfl)
 rw[if_neg cQ];refine a0 (cx cQ) ?_;by_cases zO:a.1=14
 .rw[if_pos zO];exact a? (cL zO) ((cE (agT ae J)).trans rfl)
 rw[if_neg zO];refine a0 (cx zO) ?_;by_cases zP:a.1=15
 .rw[if_pos zP]
  refine a? (cL zP) ?_;by_cases cy:s.e.ph=8
  .rw[if_pos cy];exact a0 (i_ cy) ((cE (axn ae)).trans rfl)
  rw[if_neg cy];exact b4 (lO cy)
 rw[if_neg zP];refine a0 (cx zP) ?_;by_cases oF:a.1=16
 .rw[if_pos oF];exact b4 (cL oF)
 rw[if_neg oF];exact bU (cx oF)
def bO.t(w:bO):dg:=([(w.e false).t,(w.e true).t],w.p,w.a8,w.old,[w.eJ false,w.eJ true],())
def w7(n l:Int):rh (n,l,())=some (D (0<=n/\n<l),()):=by unfold rh;simp only[go_sem]
def KJ(l:List dX):Eu (l,())=some (l,()):=by refine a6 (by rw[cL rfl];simp only[go_sem];omega) ?_;rw[show sub l 0 (len l)=l by simp[sub,len]]
def Q6(l:List dX)(h:l.length<=1500000000000):I0 (l,())=some (l,()):=by refine eG ?_;rw[g21];refine cC ?_;show l.length*80<=_;omega
def DX(w:bO)(i:Bool):BK ((w.t,()),dn i,())=some ((w.t,()),(w.at i).t,()):=by
 cases i
 .rfl
 rfl
def ZN{e:c_}{c:Int}(h:¬(lP e.hub c).2=0):oC e c=e:=by
 unfold oC;unfold lP at h ⊢;split
 .rfl
 split
 .rfl
 grind
def aaA(p:α->Bool){l:List α}{j:Nat}(h:j<l.length):(l.take (j+1)).filter p=(l.take j).filter p++(if p l[j]then[l[j]]else[]):=by
 rw[o6 h,E4]
 grind
def ZL{l bn:List α}{i:Nat}(h:i<=l.length):(ea l i n bn).take i=l.take i:=by
 unfold ea
 grind
def Rb{l bn:List α}{i:Nat}(h:i+min n bn.length<=l.length):(ea l i n bn).length=l.length:=by
 unfold ea
 grind
def X6(w:bO)(c:Int)(hl:w.a8.length<=1500000000000):Jr ((w.t,()),c,())=some (((i' w c).t,()),()):=by
 unfold Jr;dsimp only;generalize hg:(λ(V:Int×(dg×Unit)×Unit)=>(_:Option (aE (Int×(dg×Unit)×Unit) Unit)))=F;have M4:F (0,(w.t,()),())=some (.nx (1,(({ w with e:=jn w.e false (oC (w.e false) c) }:bO).t,()),())):=by
  subst hg;refine a? rfl (aL (DX w false) (aL (aad (w.at false) c) ?_));dsimp only;by_cases h:(lP (w.at false).e.hub c).2=0
  .exact a? (cL h) (eG rfl)
  refine a0 (cx h) ?_;have:=ZN h;rw[show jn w.e false (oC (w.e false) c)=w.e by funext j;unfold jn;split;(rename_i ao;rw[ao];exact this);rfl];rfl
 have ek:∀w:bO,F (1,(w.t,()),())=some (.nx (2,(({ w with e:=jn w.e true (oC (w.e true) c) }:bO).t,()),())):=by
  intro w;subst hg;refine a? rfl (aL (DX w true) (aL (aad (w.at true) c) ?_));dsimp only;by_cases h:(lP (w.at true).e.hub c).2=0
  .exact a? (cL h) (eG rfl)
  refine a0 (cx h) ?_;have:=ZN h;rw[show jn w.e true (oC (w.e true) c)=w.e by funext j;unfold jn;split;(rename_i ao;rw[ao];exact this);rfl];rfl
 have e8:∀w:bO,F (2,(w.t,()),())=some (.ex 0 (2,(w.t,()),())):=by intro w;subst hg;rfl
 have aT:(jn (jn w.e false (oC (w.e false) c)) true (oC (jn w.e false (oC (w.e false) c) true) c))=λi=>oC (w.e i) c:=by funext j;cases j<;>rfl
 refine(cO ((eE M4).trans ((eE (ek _)).trans (dT (e8 _))))).trans (lc_ex'.trans (a6 g62 ?_));dsimp only;rw[aT];refine aL (Q6 w.a8 hl) ?_;dsimp only;generalize hp:(λ(f:dX)=>decide (¬f.2.1=c))=p;have LT:∀{f:dX},¬f.2.1=c->p f=true:=λh=>by rw[<- hp];exact decide_eq_true h
 have ack:∀{f:dX},f.2.1=c->p f=false:=λh=>by rw[<- hp];exact decide_eq_false (not_not_intro h)
 have aB:(i' w c).t=([(oC (w.e false) c).t,(oC (w.e true) c).t],w.p,w.a8.filter p,w.old,[w.eJ false,w.eJ true],()):=by rw[<- hp];rfl
 rw[aB];generalize dK:(λ(V:Int×Int×Unit)=>(_:Option (aE (Int×Int×Unit) Unit)))=G;generalize cD:(λ(V:Int×Int×List dX×Unit)=>(_:Option (aE (Int×Int×List dX×Unit) Unit)))=H;have find:∀(r:List dX) (i:Nat),w.a8.drop i=r->i<=w.a8.length->(w.a8.take i).filter p=w.a8.take i ->
   (w.a8.filter p=w.a8/\∃j,bC G (0,(i:Int),())=some (.ex 0 (0,j,())))\/(∃k:Nat,k<w.a8.length/\(w.a8.take (k+1)).filter p=w.a8.take k/\bC G (0,(i:Int),())=some (.ex 999999999 ((k:Int),(k:Int),()))):=by
  intro r;induction r with
  |nil =>intro i aI ac hf;have b9:=congrArg List.length aI;rw[ep,gu]at b9;refine .inl ⟨by rw[iS J]at hf;exact hf,(i:Int),dT ?_⟩;subst dK;exact bU (cP (by show ¬(i:Int)<(w.a8.length:Int);omega))
  |cons x r ih=>
   intro i aI ac hf;have b9:=congrArg List.length aI;rw[ep,fQ]at b9;have bi:i<w.a8.length:=J;have hx:w.a8[i]=x/\w.a8.drop (i+1)=r:=by rw[l_ bi]at aI;exact⟨(sw aI).1,(sw aI).2⟩
   have eH:i64 (aC (i:Int) 1)=((i+1:Nat):Int):=fL (by show(i:Int)+1=_;omega) J;have dp:G (0,(i:Int),())=(T (af x.2.1 c) (some (.ex 999999999 ((i:Int),(i:Int),()))) (some (.nx (0,((i+1:Nat):Int),())))):=by subst dK;refine a? (di (by show(i:Int)<(w.a8.length:Int);omega)) (a6 jN ?_);rw[g1,nth_get bi,hx.1,eH]
   have ae:=aaA p bi;rw[hx.1]at ae;by_cases ah:x.2.1=c
   .refine .inr ⟨i,bi,?_,dT (dp.trans (b4 (cL ah)))⟩
    rw[ae,hf,ack ah,if_neg bf,iE]
   have p5:(w.a8.take (i+1)).filter p=w.a8.take (i+1):=by rw[ae,hf,LT ah,if_pos rfl,o6 bi,hx.1]
   have fV:=dp.trans (bU (cx ah));rcases ih (i+1) hx.2 J p5 with⟨O,j,R⟩|⟨k,O,R,ai⟩
   .exact .inl ⟨O,j,(eE fV).trans R⟩
   exact .inr ⟨k,O,R,(eE fV).trans ai⟩
 have Rj:∀(r:List dX) (i j:Nat) (l:List dX),w.a8.drop j=r->j<=w.a8.length->i<j->l.length=w.a8.length->l.take i=(w.a8.take j).filter p->l.drop j=w.a8.drop j ->
   ∃(k:Nat) (hj:List dX) (z:Int),bC H ((i:Int),(j:Int),l,())=some (.ex 0 ((k:Int),z,hj,()))/\k<=w.a8.length/\hj.length=w.a8.length/\hj.take k=w.a8.filter p:=by
  intro r;induction r with
  |nil =>intro i j l aI ao jy rO ht f?;have b9:=congrArg List.length aI;rw[ep,gu]at b9;refine⟨i,l,(j:Int),dT ?_,J,rO,by rw[ht,iS J]⟩;subst cD;exact bU (cP (by show ¬(j:Int)<(l.length:Int);omega))
  |cons x r ih=>
   intro i j l aI ao jy rO ht f?;have b9:=congrArg List.length aI;rw[ep,fQ]at b9;have bi:j<w.a8.length:=J;have v7:j<l.length:=J;have hx:w.a8[j]=x/\w.a8.drop (j+1)=r:=by rw[l_ bi]at aI;exact⟨(sw aI).1,(sw aI).2⟩
   have acE:l[j]=x:=by rw[l_ bi,l_ v7]at f?;rw[(sw f?).1];exact hx.1
   have abV:l.drop (j+1)=w.a8.drop (j+1):=by rw[l_ bi,l_ v7]at f?;exact(sw f?).2
   have lu:i64 (aC (j:Int) 1)=((j+1:Nat):Int):=fL (by show(j:Int)+1=_;omega) J;have eH:i64 (aC (i:Int) 1)=((i+1:Nat):Int):=fL (by show(i:Int)+1=_;omega) J;have dp:H ((i:Int),(j:Int),l,())=(T (aZ (af x.2.1 c)) (some (.nx (((i+1:Nat):Int),((j+1:Nat):Int),l.set i x,()))) (some (.nx ((i:Int),((j+1:Nat):Int),l,())))):=by subst cD;refine a? (di (by show(j:Int)<(l.length:Int);omega)) (a6 jN ?_);rw[g1,nth_get v7,acE,eH,lu,g1];refine congrArg (λz=>T (aZ (af x.2.1 c)) z _) ?_;exact eG jN
   have ae:=aaA p bi;rw[hx.1]at ae;by_cases ah:x.2.1=c
   .have fV:=dp.trans (bU (i_ ah))
    obtain⟨k,hj,z,bD,b1⟩:=ih i (j+1) l hx.2 J J rO (by rw[ae,ack ah,if_neg bf,iE];exact ht) abV;exact⟨k,hj,z,(eE fV).trans bD,b1⟩
   have fV:=dp.trans (b4 (lO ah));have dW:(l.set i x).take (i+1)=l.take i++[x]:=by
    have rL:i<(l.set i x).length:=by rw[kf];omega
    rw[o6 rL,tY,List.take_set_of_le (bX i)]
   obtain⟨k,hj,z,bD,b1⟩:=ih (i+1) (j+1) (l.set i x) hx.2 J J (by rw[kf];exact rO) (by rw[dW,ae,LT ah,if_pos rfl,ht]) (by rw[List.drop_set_of_lt J];exact abV);exact⟨k,hj,z,(eE fV).trans bD,b1⟩
 rcases find w.a8 0 rfl (eS _) rfl with⟨O,j,R⟩|⟨k,O,R,ai⟩
 .refine(cO R).trans (lc_ex'.trans (a0 rfl (a6 g62 (a? rfl ?_))))
  rw[O];rfl
 refine(cO ai).trans (lc_ex'.trans (a? rfl (a0 (cx J) ?_)));have qO:i64 (aC (k:Int) 1)=((k+1:Nat):Int):=fL (by show(k:Int)+1=_;omega) J;rw[qO];obtain⟨i,l,z,d1,d2,d3,ZQ⟩:=Rj _ k (k+1) w.a8 rfl J J rfl R.symm rfl;refine(cO d1).trans (lc_ex'.trans (a6 g62 (a6 jN ?_)));have pZ:(ea l i (l.length-i) (bM (l.length-i) (eR:dX))).length=l.length:=Rb (by unfold bM;rw[qv];omega);simp only[g1,show ab (len l)=l.length from rfl,show ∀a b:Nat,ce a b=a-b from λ_ _=>rfl];refine a6 (by rw[g22,pZ];simp(disch:=first|assumption|omega|(dsimp only;omega)|decide) only[go_sem,Int.reduceToNat];omega) ?_;have aqx:cut (ea l i (l.length-i) (bM (l.length-i) (eR:dX))) (ab 0) (i-ab 0)=w.a8.filter p:=by unfold cut;rw[show ab 0=0 from rfl,Nat.sub_zero,rm,ZL J,ZQ]
 rw[aqx];rfl
def akf(w:bO)(hl:w.a8.length<=1500000000000):OQ ((w.t,()),())=some (((zu w).t,()),()):=by
 unfold OQ zu;generalize hg:(λ(x:Int×(dg×Unit)×Unit)=>(_:Option (aE (Int×(dg×Unit)×Unit) Unit)))=F;have gj:∀(w:bO) (c:Int),(i' w c).a8.length<=w.a8.length:=λw c=>sr _ _;have bR:∀(w:bO) (i:Nat),i<4->w.a8.length<=1500000000000->F ((i:Int),(w.t,()),())=some (.nx (((i+1:Nat):Int),((i' w (i:Int)).t,()),())):=by intro w i ac bu;subst hg;have eH:i64 (aC (i:Int) 1)=((i+1:Nat):Int):=fL rfl J;refine a? (di J) (aL (X6 w _ bu) ?_);rw[eH]
 have f1:=gj w ((0:Nat):Int);have f2:=gj (i' w ((0:Nat):Int)) ((1:Nat):Int);have f3:=gj (i' (i' w ((0:Nat):Int)) ((1:Nat):Int)) ((2:Nat):Int);have e0:∀w:bO,F (4,(w.t,()),())=some (.ex 0 (4,(w.t,()),())):=λw=>by subst hg;exact bU rfl
 refine(cO ((eE (bR w 0 J hl)).trans ((eE (bR _ 1 J J)).trans ((eE (bR _ 2 J J)).trans ((eE (bR _ 3 J J)).trans (dT (e0 _))))))).trans ?_;rfl
def MI(i:Bool):0<=dn i/\dn i<2:=by cases i<;>decide
def MJ{n:Int}(h:n=0\/n=1):dn (lE n)=n:=by rcases h with rfl|rfl<;>decide
def wg(i:Bool):aK (dn i) (bb 2)=true:=by cases i<;>rfl
def aoF(w:bO)(i:Bool)(x:aH)(aO:x.e.bz.length<=1000000)(LJ:x.e.got.length<=1000000)(hf:w.a8.length<=1000000000000)(hold:w.old.length<=1000000000000)(azN:(w.eJ i).length<=1000000000000):
  y6 ((w.t,()),dn i,x.t,())=some (((j4 w i x).t,()),()):=by
 unfold y6;dsimp only;refine a6 (wg i) (aL (anq x.e) (a6 (wg i) (a6 (wg i) ?_)));have hl:an w.t.2.2.2.2.1 (ab (dn i)) (aP jr)=w.eJ i:=by cases i<;>rfl
 have ap1:yM (an w.t.2.2.2.2.1 (ab (dn i)) (aP jr),())=some (w.eJ i,()):=by rw[hl];exact KK _
 refine aL ap1 (a6 ?_ (a6 (wg i) ?_))
 .rw[g21];refine cC ?_;show((w.eJ i).length+x.e.got.length)*128<=_;omega
 generalize hg:(λ(V:Int×(dg×Unit)×Unit)=>(_:Option (aE (Int×(dg×Unit)×Unit) Unit)))=F;have e1:i64 (bg 1 (dn i))=1-dn i:=by cases i<;>rfl
 have key:∀(l:List pI) (j:Nat),x.e.bz.drop j=l->j<=x.e.bz.length ->
   bC F ((j:Int),(({ mG w i x with a8:=w.a8++(x.e.bz.take j).map (jE i),old:=w.old++(x.e.bz.take j).map (jE i) }:bO).t,()),())=some (.ex 0 ((x.e.bz.length:Int),((mG w i x).t,()),())):=by
  intro l;induction l with
  |nil =>intro j aI ao;have b9:=congrArg List.length aI;rw[ep,gu]at b9;have:j=x.e.bz.length:=J;subst this;rw[o5];refine dT ?_;subst hg;exact bU (cP (by show ¬(x.e.bz.length:Int)<(x.e.bz.length:Int);omega))
  |cons v l ih=>
   intro j aI ao;have b9:=congrArg List.length aI;rw[ep,fQ]at b9;have bi:j<x.e.bz.length:=J;have hx:x.e.bz[j]=v/\x.e.bz.drop (j+1)=l:=by rw[l_ bi]at aI;exact⟨(sw aI).1,(sw aI).2⟩
   have lu:i64 (aC (j:Int) 1)=((j+1:Nat):Int):=fL (by show(j:Int)+1=_;omega) J;refine tQ (eE ?_) (ih (j+1) hx.2 J);have dW:(x.e.bz.take (j+1)).map (jE i)=(x.e.bz.take j).map (jE i)++[jE i v]:=by rw[o6 bi,Xx,hx.1];rfl
   have fk:((x.e.bz.take j).map (jE i)).length<=1000000:=by rw[xf,ib];omega
   rw[dW,<- h0,<- h0];subst hg;refine a? (di (by show(j:Int)<(x.e.bz.length:Int);omega)) (a6 jN ?_);dsimp only;refine aL (KJ (w.a8++(x.e.bz.take j).map (jE i))) ?_;have am:an x.e.bz (ab (j:Int)) ke=v:=by rw[g1,nth_get bi];exact hx.1
   rw[e1,am,lu];refine a6 ?_ (aL (KJ (w.old++(x.e.bz.take j).map (jE i))) (a6 ?_ ?_))
   .rw[g21];refine cC ?_;show((w.a8++(x.e.bz.take j).map (jE i)).length+1)*80<=_;rw[db];omega
   .rw[g21];refine cC ?_;show((w.old++(x.e.bz.take j).map (jE i)).length+1)*80<=_;rw[db];omega
   rfl
 have aq:=key x.e.bz 0 rfl (eS _);rw[Fi,List.map_nil,iE,iE]at aq;have e4:(({ mG w i x with a8:=w.a8,old:=w.old }:bO).t)=(cg w.t.1 (ab (dn i)) ({ x.e with bz:=[],got:=[] }:c_).t,x.p,w.a8,w.old,cg w.t.2.2.2.2.1 (ab (dn i)) (cm (w.eJ i) x.e.got),()):=by cases i<;>rfl
 rw[e4]at aq;refine(cO (show bC F (0,((cg w.t.1 (ab (dn i)) ({ x.e with bz:=[],got:=[] }:c_).t,x.p,w.a8,w.old,cg w.t.2.2.2.2.1 (ab (dn i)) (cm (w.eJ i) x.e.got),()),()),())=_ from aq)).trans (lc_ex'.trans (a6 g62 ?_));dsimp only;have arp:(an w.t.1 (ab (dn i)) kD).2.2.1=(w.e i).ph:=by cases i<;>rfl
 rw[arp];unfold j4;have n0:(mG w i x).a8.length<=1500000000000:=by show(w.a8++x.e.bz.map (jE i)).length<=_;rw[db,xf];omega
 by_cases cy:x.e.ph=8
 .by_cases mg:(w.e i).ph=8
  .rw[if_neg (λh=>h.2 mg)]
   exact aL (b4 (cL cy)) (bU (i_ mg))
  rw[if_pos ⟨cy,mg⟩];exact aL (b4 (cL cy)) (a? (lO mg) ((cE (akf _ n0)).trans rfl))
 rw[if_neg (λh=>cy h.1)];exact aL (bU (cx cy)) (bU rfl)
structure g2(w:bO):Prop where
 ok:hk w
 z:eA w<=990000000000
def g2.s{w:bO}(h:g2 w)(i:Bool):bw 990000000000 (w.at i):=by
 obtain⟨n,am⟩:=h.ok.s i;have bh:=h.z;unfold eA at bh;refine⟨{ am.e with bz := ?_,got := ?_ },?_⟩
 .show(w.e i).bz.length<=_;rw[h.ok.bz i];simp
 .show(w.e i).got.length<=_;rw[h.ok.got i];simp
 show w.p.2.1.length<=_;omega
def g2.a8{w:bO}(h:g2 w):w.a8.length<=990000000000:=by have bh:=h.z;unfold eA at bh;omega
def g2.old{w:bO}(h:g2 w):w.old.length<=990000000000:=by have bh:=h.z;unfold eA at bh;omega
def g2.eJ{w:bO}(h:g2 w)(i:Bool):(w.eJ i).length<=990000000000:=by have bh:=h.z;unfold eA at bh;cases i<;>omega
def g2.j4{w:bO}(h:g2 w)(i:Bool)(x:aH)(aO:x.e.bz.length<=1000000)(LJ:x.e.got.length<=1000000):y6 ((w.t,()),dn i,x.t,())=some (((Yp.j4 w i x).t,()),()):=
 aoF w i x aO LJ (by have:=h.a8;omega) (by have:=h.old;omega) (by have:=h.eJ i;omega)
def g2.bz{w:bO}(h:g2 w)(i:Bool):(w.at i).e.bz=[]:=h.ok.bz i
def g2.got{w:bO}(h:g2 w)(i:Bool):(w.at i).e.got=[]:=h.ok.got i
def akh{s:aH}(ae:bw n s):fF s.e.hub<=4100:=by have aq:=qG (ae.e.fd 0);have O:=qG (ae.e.fd 1);have R:=qG (ae.e.fd 2);have ai:=qG (ae.e.fd 3);unfold fF;omega
def g2.R?{w:bO}(h:g2 w){x:aH}{t:Nat}(hg:b3 m t g (w.at i) x)(ht:t<=1000)(azL:g<=1000):x.e.bz.length<=1000000/\x.e.got.length<=1000000:=by obtain⟨cK,cU,dj,eT,lm⟩:=hg;have a_:=(h.s i).e.queue;rw[h.bz i]at cU;rw[h.got i]at eT;rw[gu]at cU eT;exact⟨J,J⟩
def PY{w:bO}(h:g2 w)(i:Bool)(c:Int){b:aa}(Y:b.length<=1000000):EQ ((w.t,()),dn i,c,b,())=some (((lM w i c b).t,()),()):=by refine(cE (DX w i)).trans ((d9 rfl).trans ((cE (anp (h.s i) J c Y)).trans ((d9 rfl).trans ?_)));have aa1:=aa2 (h.s i).e.feed c b;have a_:=(h.s i).e.queue;have azE:=akh (h.s i);have bj:=aa1.DL;have bm:=aa1.got;rw[h.bz i]at bj;rw[h.got i]at bm;rw[gu]at bj bm;exact(cE (h.j4 i _ J J)).trans rfl
def ZV{l:List dX}{N:Nat}(h:N<l.length):
  cut (ea (ea l (bF (ab 0) (ce (ab (N:Int)) (ab 0))) (aV (l.drop (N+1))) (l.drop (N+1))) (bF (ab 0) (ab (bb (bF (ce (ab (N:Int)) (ab 0)) (aV (l.drop (N+1)))))))
   (ce (ab (len l)) (ab (bb (bF (ce (ab (N:Int)) (ab 0)) (aV (l.drop (N+1))))))) (bM (ce (ab (len l)) (ab (bb (bF (ce (ab (N:Int)) (ab 0)) (aV (l.drop (N+1))))))) (eR:dX)))
   (ab 0) (bF (ce (ab (N:Int)) (ab 0)) (aV (l.drop (N+1))))=l.eraseIdx N:=by
 have e:bF (ce (ab (N:Int)) (ab 0)) (aV (l.drop (N+1)))=N+(l.drop (N+1)).length:=rfl;have aT:bF (ab 0) (ce (ab (N:Int)) (ab 0))=N:=js _;have aI:(l.drop (N+1)).length=l.length-(N+1):=ep;rw[e,aT,show bF (ab 0) (ab (bb (N+(l.drop (N+1)).length)))=N+(l.drop (N+1)).length from js _];unfold cut;rw[show ab 0=0 from rfl,rm,ZL]
 .unfold ea
  rw[show aV (l.drop (N+1))=(l.drop (N+1)).length from rfl,o5,<- h0,B8 (by grind),iS (by grind),List.eraseIdx_eq_take_drop_succ]
 rw[Rb J];omega
def adO{b:Nat}(h:a<b):kv a b=true:=by unfold kv;rw[Xd];exact h
def ZU{l:List dX}{N:Nat}(h:N<l.length)(aiT K:Option α):
  (ak (cV (b5 (N:Int) ((N+1:Nat):Int) (len l)) (b? (len l) (len l))) (T (af (N:Int) ((N+1:Nat):Int)) aiT (ak (b5 0 (N:Int) (len l)) (ak (b5 ((N+1:Nat):Int) (len l) (len l))
   (ak (kv (bF (ab 0) (bF (ce (ab (N:Int)) (ab 0)) (aV (l.drop (N+1))))) (bF (aV l) 1)) (ak (cV (kv (ab 0) (bF (aV (ea l (bF (ab 0) (ce (ab (N:Int)) (ab 0))) (aV (l.drop (N+1))) (l.drop (N+1)))) 1))
    (b5 (bb (bF (ce (ab (N:Int)) (ab 0)) (aV (l.drop (N+1))))) (len l) (bg (len (ea l (bF (ab 0) (ce (ab (N:Int)) (ab 0))) (aV (l.drop (N+1))) (l.drop (N+1)))) (bb (ab 0))))) K))))))=K:=by
 have e:bF (ce (ab (N:Int)) (ab 0)) (aV (l.drop (N+1)))=N+(l.drop (N+1)).length:=rfl;have aT:bF (ab 0) (ce (ab (N:Int)) (ab 0))=N:=js _;have aI:(l.drop (N+1)).length=l.length-(N+1):=ep;have ah:(ea l N (aV (l.drop (N+1))) (l.drop (N+1))).length=l.length:=Rb (by rw[show aV (l.drop (N+1))=(l.drop (N+1)).length from rfl];omega);rw[e,aT];refine a6 jN (a0 (cx J) (a6 jN (a6 jN (a6 ?_ (eG ?_)))))
 .refine adO ?_
  show 0+(N+(l.drop (N+1)).length)<l.length+1;omega
 rw[adO (show ab 0<bF (aV (ea l N (aV (l.drop (N+1))) (l.drop (N+1)))) 1 from Nat.succ_pos _),g36,g19];refine cC ?_;rw[g22,g22,ah];show(0:Int)<=((N+(l.drop (N+1)).length:Nat):Int)/\((N+(l.drop (N+1)).length:Nat):Int)<=(l.length:Int)/\(l.length:Int)<=(l.length:Int)-((0:Nat):Int);omega
def ZO{l:List dX}(N:Nat):cut l (ab ((N+1:Nat):Int)) (ce (ab (len l)) (ab ((N+1:Nat):Int)))=l.drop (N+1):=by unfold cut;rw[show ab ((N+1:Nat):Int)=N+1 from rfl,show ab (len l)=l.length from rfl,show ce l.length (N+1)=l.length-(N+1) from rfl,iS bf]
def RG{w:bO}(h:g2 w){l:List dX}(hl:∀f∈l,AK f)(am:l.length<=w.a8.length):g2 { w with a8:=l }:=by refine⟨H2 h.ok hl,?_⟩;have bh:=h.z;unfold eA at bh ⊢;show w.p.2.1.length+w.old.length+l.length+(w.eJ false).length+(w.eJ true).length+3*fD w<=_;omega
def aba{w:bO}(h:g2 w)(a:ge):Js ((w.t,()),a,())=some (((j5 w a.2.2.1 a.2.2.2.1).1.t,()),(j5 w a.2.2.1 a.2.2.2.1).2,()):=by
 unfold Js j5;have n0:=h.a8;refine aL (w7 a.2.2.1 (len w.a8)) ?_;by_cases aq:0<=a.2.2.1/\a.2.2.1<(w.a8.length:Int)
 .rw[cC (show 0<=a.2.2.1/\a.2.2.1<len w.a8 from aq),if_neg (not_not_intro aq)]
  obtain⟨N,fV⟩:∃N:Nat,a.2.2.1=(N:Int):=⟨a.2.2.1.toNat,J⟩;rw[fV,iq];have bi:N<w.a8.length:=J;have gn:=h.ok.a8 _ (HV bi);refine a0 rfl (a6 (by show aK (N:Int) (len w.a8)=true;simp only[go_sem];omega) (aL (Q6 w.a8 J) ?_));rw[show an w.t.2.2.1 (ab (N:Int)) eR=an w.a8 N ns from rfl,show an w.a8 (ab (N:Int)) eR=an w.a8 N ns from rfl];generalize an w.a8 N ns=f at gn;generalize hm:a.2.2.2.1=m;by_cases O:0<m/\m<(f.2.2.1.length:Int)
  .rw[if_pos O]
   refine aL (a? (di O.1) (show _=some (true,()) by rw[di (show m<len f.2.2.1 from O.2)])) (a? rfl ?_);refine a6 cp (a6 cp (a6 cp ?_));rw[show sub f.2.2.1 m (len f.2.2.1)=f.2.2.1.drop m.toNat from Ey _ J];have GK:g2 { w with a8:=w.a8.set N (f.1,f.2.1,f.2.2.1.drop m.toNat,()) }:=by
    refine RG h (λg hg => ?_) (by rw[kf];exact bX _);rcases Pz hg with hg|rfl
    .exact h.ok.a8 g hg
    exact⟨gn.1,gn.2.1,by rw[ep];have:=gn.2.2;omega⟩
   have:=PY GK (lE f.1) f.2.1 (b:=f.2.2.1.take m.toNat) (by rw[ib];have:=gn.2.2;omega);rw[MJ gn.1]at this;exact(cE this).trans rfl
  rw[if_neg O];have Tn:(T (aF 0 m) (some (aF m (len f.2.2.1),())) (some (false,())):Option (Bool×Unit))=some (false,()):=by
   by_cases R:0<m
   .exact a? (di R) (by rw[cP (show ¬m<len f.2.2.1 from λai=>O ⟨R,ai⟩)])
   exact bU (cP R)
  refine aL Tn (a0 rfl ?_);have Gr:i64 (aC (N:Int) 1)=((N+1:Nat):Int):=fL (by show(N:Int)+1=_;omega) J;rw[Gr];simp only[ZO];rw[ZV bi];refine(ZU bi _ _).trans ?_;have GK:g2 { w with a8:=w.a8.eraseIdx N }:=RG h (λg hg=>h.ok.a8 g (J9 hg)) (JY _ _);have:=PY GK (lE f.1) f.2.1 (b:=f.2.2.1) (by have:=gn.2.2;omega);rw[MJ gn.1]at this;exact(cE this).trans rfl
 rw[cG (show ¬(0<=a.2.2.1/\a.2.2.1<len w.a8) from aq),if_pos aq];rfl
def am8{w:bO}(h:g2 w)(a:ge):OT ((w.t,()),a,())=some (((sJ w a.2.2.1).1.t,()),(sJ w a.2.2.1).2,()):=by
 unfold OT sJ;have n0:=h.a8;refine aL (w7 a.2.2.1 (len w.a8)) ?_;by_cases aq:0<=a.2.2.1/\a.2.2.1<(w.a8.length:Int)
 .rw[cC (show 0<=a.2.2.1/\a.2.2.1<len w.a8 from aq),if_neg (not_not_intro aq)]
  obtain⟨N,fV⟩:∃N:Nat,a.2.2.1=(N:Int):=⟨a.2.2.1.toNat,J⟩;rw[fV];have bi:N<w.a8.length:=J;refine a0 rfl (aL (Q6 w.a8 J) ?_);have Gr:i64 (aC (N:Int) 1)=((N+1:Nat):Int):=fL rfl J;rw[Gr];simp only[ZO];rw[ZV bi];exact(ZU bi _ _).trans rfl
 rw[cG (show ¬(0<=a.2.2.1/\a.2.2.1<len w.a8) from aq),if_pos aq];rfl
def ajd{w:bO}(h:g2 w)(a:ge):OP ((w.t,()),a,())=some (((Ft w a.2.2.1).1.t,()),(Ft w a.2.2.1).2,()):=by
 unfold OP Ft;have n0:=h.a8;refine aL (w7 a.2.2.1 (len w.old)) ?_;by_cases aq:0<=a.2.2.1/\a.2.2.1<(w.old.length:Int)
 .rw[cC (show 0<=a.2.2.1/\a.2.2.1<len w.old from aq),if_neg (not_not_intro aq)]
  refine a0 rfl (aL (KJ w.a8) (a6 (by show aK a.2.2.1 (len w.old)=true;simp only[go_sem];exact aq) (a6 ?_ rfl)));rw[g21];refine cC ?_;show(w.a8.length+1)*80<=_;omega
 rw[cG (show ¬(0<=a.2.2.1/\a.2.2.1<len w.old) from aq),if_pos aq];rfl
def axR{w:bO}(h:g2 w)(a:ge):OW ((w.t,()),a,())=some (((Bi w a.2.2.1 a.2.2.2.1 a.2.2.2.2.1).1.t,()),(Bi w a.2.2.1 a.2.2.2.1 a.2.2.2.2.1).2,()):=by
 unfold OW Bi;have n0:=h.a8;refine aL (w7 a.2.2.1 (len w.old)) ?_;by_cases aq:0<=a.2.2.1/\a.2.2.1<(w.old.length:Int)
 .rw[cC (show 0<=a.2.2.1/\a.2.2.1<len w.old from aq)]
  have fb:aK a.2.2.1 (len w.old)=true:=by simp only[go_sem];exact aq
  have mN:=h.ok.old _ (HV (show a.2.2.1.toNat<w.old.length by omega));rw[show an w.t.2.2.2.1 (ab a.2.2.1) eR=an w.old a.2.2.1.toNat ns from rfl];generalize an w.old a.2.2.1.toNat ns=f at mN;have arM:(T (aZ true) (some (true,())) (ak (aK a.2.2.1 (len w.t.2.2.2.1)) (ob (rh (a.2.2.2.1,len f.2.2.1,())) λ(ba:Bool×Unit)=>T (aZ ba.1) (some (true,())) (some (af (len a.2.2.2.2.1) 0,())))):Option (Bool×Unit)) =
    some (D (¬(0<=a.2.2.2.1/\a.2.2.2.1<(f.2.2.1.length:Int))\/a.2.2.2.2.1=[]),()):=by
   refine a0 rfl (a6 fb (aL (w7 _ _) ?_));by_cases O:0<=a.2.2.2.1/\a.2.2.2.1<(f.2.2.1.length:Int)
   .rw[cC (show 0<=a.2.2.2.1/\a.2.2.2.1<len f.2.2.1 from O)]
    rw[g10];refine pt ?_;constructor
    .intro hx;exact .inr (lJ.1 (by have:(a.2.2.2.2.1.length:Int)=0:=hx;omega))
    rintro(hx|hx)
    .omega
    rw[hx];rfl
   rw[cG (show ¬(0<=a.2.2.2.1/\a.2.2.2.1<len f.2.2.1) from O),cC (.inl O)];rfl
  refine aL arM ?_;by_cases R:¬(0<=a.2.2.2.1/\a.2.2.2.1<(f.2.2.1.length:Int))\/a.2.2.2.2.1=[]
  .rw[cC R,if_pos (R.elim (λh=>.inr (.inl h)) (λh=>.inr (.inr h)))];rfl
  have ai:0<=a.2.2.2.1/\a.2.2.2.1<(f.2.2.1.length:Int):=zg.1 λh=>R (.inl h);have au:¬a.2.2.2.2.1=[]:=λh=>R (.inr h);have a4:0<a.2.2.2.2.1.length:=List.length_pos_iff.2 au;rw[cG R,if_neg (by grind)];refine a0 rfl (a6 fb (aL (FP f.2.2.1 (by have:=mN.2.2;omega)) ?_));refine a6 (by simp only[go_sem];exact ai) (a6 cp (a6 (by simp only[go_sem];exact ai) (aL (KJ w.a8) (a6 ?_ ?_))))
  .rw[g21];refine cC ?_;show(w.a8.length+1)*80<=_;omega
  rw[ail];rfl
 rw[cG (show ¬(0<=a.2.2.1/\a.2.2.1<len w.old) from aq),if_pos (.inl aq)];rfl
def asw{w:bO}(h:g2 w)(a:ge)(Y:a.2.2.2.2.1.length<=1000000):OU ((w.t,()),a,())=some (((Hg w a.2.1 a.2.2.1 a.2.2.2.2.1).1.t,()),(Hg w a.2.1 a.2.2.1 a.2.2.2.2.1).2,()):=by
 unfold OU Hg;refine aL (w7 a.2.1 2) ?_;by_cases aq:0<=a.2.1/\a.2.1<2
 .rw[cC aq,if_neg (not_not_intro aq)]
  have:=PY h (lE a.2.1) a.2.2.1 Y;rw[MJ J]at this;exact a0 rfl ((cE this).trans rfl)
 rw[cG aq,if_pos aq];rfl
def amU{w:bO}(h:g2 w)(a:ge):OS ((w.t,()),a,())=some (((FT w a.2.2.1).1.t,()),(FT w a.2.2.1).2,()):=by
 unfold OS FT;refine aL (w7 a.2.2.1 4) ?_;by_cases aq:kj a.2.2.1
 .rw[cC (show 0<=a.2.2.1/\a.2.2.1<4 from aq),if_neg (not_not_intro aq)]
  exact a0 rfl ((cE (X6 w _ (by have:=h.a8;omega))).trans rfl)
 rw[cG (show ¬(0<=a.2.2.1/\a.2.2.1<4) from aq),if_pos aq];rfl
def am7{w:bO}(h:g2 w)(a:ge)(Y:a.2.2.2.2.1.length<=1000000):qo ((w.t,()),a,())=some (((sB w a).1.t,()),(sB w a).2,()):=by
 unfold qo sB;refine aL (w7 a.2.1 2) ?_;by_cases aq:0<=a.2.1/\a.2.1<2
 .rw[cC aq,if_neg (not_not_intro aq)]
  have e:=MJ (n:=a.2.1) J;generalize lE a.2.1=i at e;rw[<- e];have hg:=h.R? (abh (h.s i) a) J J;refine a0 rfl (aL (DX w i) (aL (anr (h.s i) J a Y) ?_));exact(cE (h.j4 i _ hg.1 hg.2)).trans rfl
 rw[cG aq,if_pos aq];rfl
def avB{w:bO}(h:g2 w)(a:ge):OV ((w.t,()),a,())=some (((A1 w a.2.2.1).1.t,()),(A1 w a.2.2.1).2,()):=by
 unfold OV A1;have hp:(T (af (w.e false).ph 8) (some (true,())) (ak (aK 1 (bb 2)) (some (af (w.e true).ph 8,()))):Option (Bool×Unit))=some (D ((w.e false).ph=8\/(w.e true).ph=8),()):=by simp(disch:=omega) only[go_sem]
 refine aL (hp) ?_;by_cases cy:(w.e false).ph=8\/(w.e true).ph=8
 .rw[cC cy,if_pos cy];rfl
 rw[cG cy,if_neg cy];refine a0 rfl (aL (w7 a.2.2.1 4) ?_);by_cases aq:kj a.2.2.1
 .rw[cC (show 0<=a.2.2.1/\a.2.2.1<4 from aq),if_neg (not_not_intro aq)]
  have au:aK a.2.2.1 (bb 4)=true:=by unfold kj at aq;simp only[go_sem];exact aq
  refine a0 rfl (a6 rfl (a6 au ?_));have aM:(T (an (w.e false).hub.1 (ab a.2.2.1) false) (some (true,())) (ak (aK 1 (bb 2)) (ak (aK a.2.2.1 (bb 4)) (some (an (w.e true).hub.1 (ab a.2.2.1) false,())))):Option (Bool×Unit))=some (D (mw (w.e false).hub a.2.2.1\/mw (w.e true).hub a.2.2.1),()):=by
   unfold mw;rw[au,show ab a.2.2.1=a.2.2.1.toNat from rfl];cases an (w.e false).hub.1 a.2.2.1.toNat false
   .cases an (w.e true).hub.1 a.2.2.1.toNat false
    .rw[cG bf];rfl
    rw[cC (.inr rfl)];rfl
   rw[cC (.inl rfl)];rfl
  refine aL (aM) ?_;by_cases O:mw (w.e false).hub a.2.2.1\/mw (w.e true).hub a.2.2.1
  .rw[cC O,if_pos O];rfl
  rw[cG O,if_neg O];generalize hg:(λ(V:Int×(dg×Unit)×Unit)=>(_:Option (aE (Int×(dg×Unit)×Unit) Unit)))=F;have bR:∀(w:bO) (i:Bool),g2 w->F (dn i,(w.t,()),())=some (.nx (dn i+1,((r_ w i a.2.2.1).t,()),())):=by intro w i bu;have aj:=bu.R? (abm (w.at i) (bu.s i).e.feed a.2.2.1) J J;subst hg;refine a? (di (MI i).2) (aL (DX w i) (aL (anv (bu.s i) J a.2.2.1) (aL (bu.j4 i _ aj.1 aj.2) ?_)));cases i<;>rfl
  have e0:∀w:bO,F (2,(w.t,()),())=some (.ex 1 (2,(w.t,()),())):=λw=>by subst hg;exact bU rfl
  obtain⟨bD,b1,dy⟩:=Va h.ok false a.2.2.1;refine(cO ((eE (bR w false h)).trans ((eE (bR _ true ⟨bD,fv dy h.z⟩)).trans (dT (e0 _))))).trans ?_;rfl
 rw[cG (show ¬(0<=a.2.2.1/\a.2.2.1<4) from aq),if_pos aq];rfl
structure y'(w:bO):Prop where
 ok:hk w
 z:20*eA w+4*ir w+240<=19800000000000
def y'.mE{w:bO}(h:y' w):g2 w:=⟨h.ok,by have:=h.z;omega⟩
def aoN{w:bO}(h:hk w){f:dX}{r:List dX}(hf:w.a8=f::r)(ap:k<=r.length):
  hk (j5 w 0 0).1/\(k<=(j5 w 0 0).1.a8.length\/(j5 w 0 0).1.a8=[])/\20*eA (j5 w 0 0).1+4*(f8 (j5 w 0 0).1+eO ((j5 w 0 0).1.a8.take k))<=20*eA w+4*(f8 w+eO (w.a8.take (k+1))):=by
 have e:(j5 w 0 0).1=lM { w with a8:=r } (lE f.1) f.2.1 f.2.2.1:=by unfold j5;rw[hf];rw[if_neg bf];rfl
 have O:hk { w with a8:=r }:=⟨h.s,h.bz,h.got,λg hg=>h.a8 g (by grind),h.old⟩;obtain⟨e_,eC,j0,ox⟩:=PX O (lE f.1) f.2.1 f.2.2.1;rw[e];have bG:fD ({ w with a8:=r }:bO)=fD w:=rfl;have ca:f8 ({ w with a8:=r }:bO)=f8 w:=rfl;have cr:eA ({ w with a8:=r }:bO)+1=eA w:=by unfold eA;rw[bG,hf];simp;omega
 have dW:eO ((f::r).take (k+1))=f.2.2.1.length+eO (r.take k):=rfl;rcases eC with aD|⟨o,aD,eC⟩
 .rw[aD]
  have ait:eO (([]:List dX).take k)=0:=by cases k<;>rfl
  grind
 grind
def EX{w:bO}(k:Int)(h:∀j:Nat,(j:Int)<k->y' (k2 j w))(ap:k<=1000000):sk (w.t,k,())=some ((k2 k.toNat w).t,()):=by
 unfold sk;generalize hg:(λ(V:Int×(dg×Unit)×Unit)=>(_:Option (aE (Int×(dg×Unit)×Unit) (dg×Unit))))=F;have round:∀(i:Nat) (v:bO),(i:Int)<k->y' v->F ((i:Int),(v.t,()),())=some (.nx (((i+1:Nat):Int),((jV v).t,()),())):=by
  intro i v ac aD;have eH:i64 (aC (i:Int) 1)=((i+1:Nat):Int):=fL (by show(i:Int)+1=_;omega) J;subst hg;refine a? (di (by show(i:Int)<cX 0 k;rw[g58];omega)) ?_;generalize dK:(λ(x:Int×(dg×Unit)×Unit)=>ob (T (aF 0 x.1) _ _) _)=G;generalize cD:(λ(x:Int×(dg×Unit)×Unit)=>T (aF x.1 2) _ _)=H;have Rj:∀(n:Nat) (u:bO),hk u->(n<=u.a8.length\/u.a8=[])->20*eA u+4*(f8 u+eO (u.a8.take n))<=19800000000000->n<=1000000000000 ->
    ∃j:Int,bC G ((n:Int),(u.t,()),())=some (.ex 2 (j,((nc n u).t,()),())):=by
   intro n;induction n with
   |zero =>intro u aM am bh Y;refine⟨0,dT ?_⟩;subst dK;rfl
   |succ n ih=>
    intro u aM am bh Y;unfold nc;by_cases aq:u.a8=[]
    .rw[if_pos aq]
     refine⟨((n+1:Nat):Int),dT ?_⟩;subst dK;refine aL (a:=(false,())) (a? (di (by show(0:Int)<((n+1:Nat):Int);omega)) ?_) (bU rfl);show some (aF 0 (len u.a8),())=_;rw[aq];rfl
    rw[if_neg aq];obtain⟨f,r,hf⟩:=Xv aq;have LK:n<=r.length:=by
     grind
    obtain⟨dG,gz,le⟩:=aoN aM hf LK;obtain⟨j,ao⟩:=ih (j5 u 0 0).1 dG gz J J;refine⟨j,tQ (eE ?_) ao⟩;have GK:g2 u:=⟨aM,J⟩;have lw:i64 (bg ((n+1:Nat):Int) 1)=((n:Nat):Int):=fL (by show((n+1:Nat):Int)-1=_;omega) J;subst dK;refine aL (a:=(true,())) (a? (di (by show(0:Int)<((n+1:Nat):Int);omega)) ?_) (a? rfl ?_)
    .show some (aF 0 (len u.a8),())=_
     rw[hf,di (by show(0:Int)<(((f::r).length:Nat):Int);rw[fQ];omega)]
    dsimp only;refine aL (aba GK m6) ?_;rw[lw]
  have n0:=aD.mE.a8;have azA:ir v=eO v.a8+f8 v+950*fD v:=rfl;have bh:=aD.z;obtain⟨j,ao⟩:=Rj v.a8.length v aD.ok (.inl (bX _)) (by rw[o5];omega) J;obtain⟨d1,d2,d3⟩:=KP v.a8.length aD.ok (.inl (bX _));rw[o5]at d3;have ahE:∀(u:bO) (i:Bool),g2 u->H (dn i,(u.t,()),())=some (.nx (dn i+1,((oe u i).t,()),())):=by intro u i aM;have aj:=aM.R? (Sd (aM.s i)) J J;subst cD;refine a? (di (MI i).2) (aL (DX u i) (aL (aae (aM.s i) J) (aL (aM.j4 i _ aj.1 aj.2) ?_)));cases i<;>rfl
  have e0:∀u:bO,H (2,(u.t,()),())=some (.ex 4 (2,(u.t,()),())):=λu=>by subst cD;exact bU rfl
  refine(cO (ao)).trans (lc_ex'.trans (a6 g62 ?_));have f1:g2 (nc v.a8.length v):=⟨d1,J⟩;obtain⟨dW,eF,mv⟩:=Wt d1 false;have f2:g2 (oe (nc v.a8.length v) false):=⟨dW,J⟩;refine(cO ((eE (ahE _ false f1)).trans ((eE (ahE _ true f2)).trans (dT (e0 _))))).trans (lc_ex'.trans (a6 g62 ?_));rw[eH];rfl
 have amv:∀(j:Nat) (v:bO),jV (k2 j v)=k2 (j+1) v:=by
  intro j;induction j with
  |zero=>intro v;rfl
  |succ j ih=>intro v;exact ih (jV v)
 have run:∀(m j:Nat),j+m=k.toNat->bC F ((j:Int),((k2 j w).t,()),())=some (.ex 0 ((k.toNat:Int),((k2 k.toNat w).t,()),())):=by
  intro m;induction m with
  |zero =>intro j ao;have:j=k.toNat:=J;subst this;refine dT ?_;subst hg;exact bU (cP (by show ¬(k.toNat:Int)<cX 0 k;rw[g58];omega))
  |succ m ih =>intro j ao;refine tQ (eE ?_) (ih (j+1) J);rw[round j _ J (h j J),amv]
 exact(cO (run k.toNat 0 (js _))).trans (lc_ex'.trans (eG g62))
def amw{w:bO}(a:ge)(h:∀j:Nat,j<(min a.2.2.1 100).toNat->y' (k2 j w)):OR ((w.t,()),a,()) =
  some (((if a.2.2.1<0 then(w,(1:Int)) else(k2 (min a.2.2.1 100).toNat w,0)).1.t,()),(if a.2.2.1<0 then(w,(1:Int)) else(k2 (min a.2.2.1 100).toNat w,0)).2,()):=by
 unfold OR;dsimp only;by_cases aq:a.2.2.1<0
 .rw[if_pos aq];exact b4 (di aq)
 rw[if_neg aq];refine a0 (cP aq) ?_;rw[g57];exact(cE (EX (min a.2.2.1 100) (λj ao=>h j J) J)).trans rfl
structure JD(w:bO)(a:ge):Prop where
 mE:g2 w
 b:a.2.2.2.2.1.length<=1000000
 t_:a.1=17->∀j:Nat,j<(min a.2.2.1 100).toNat->y' (k2 j w)
def JV{w:bO}{a:ge}(h:JD w a):vi (w.t,a,())=some ((eX w a).1.t,(eX w a).2,()):=by
 unfold vi eX;dsimp only;have aI:=am7 h.mE a h.b;have uf:(ob (qo ((w.t,()),a,())) λx=>(some (x.1.1,x.2.1,()):Option (dg×Int×Unit)))=some ((sB w a).1.t,(sB w a).2,()):=(cE aI).trans rfl;by_cases eh:a.1=7
 .rw[if_pos eh];exact a? (cL eh) ((cE (aba h.mE a)).trans rfl)
 rw[if_neg eh];refine a0 (cx eh) ?_;by_cases cy:a.1=8
 .rw[if_pos cy];exact a? (cL cy) ((cE (am8 h.mE a)).trans rfl)
 rw[if_neg cy];refine a0 (cx cy) ?_;by_cases mg:a.1=9
 .rw[if_pos mg];exact a? (cL mg) ((cE (ajd h.mE a)).trans rfl)
 rw[if_neg mg];refine a0 (cx mg) ?_;by_cases pX:a.1=10
 .rw[if_pos pX];exact a? (cL pX) ((cE (axR h.mE a)).trans rfl)
 rw[if_neg pX];refine a0 (cx pX) ?_;by_cases pY:a.1=11
 .rw[if_pos pY];exact a? (cL pY) ((cE (asw h.mE a h.b)).trans rfl)
 rw[if_neg pY];refine a0 (cx pY) ?_;by_cases Ly:a.1=12
 .rw[if_pos Ly];exact a? (cL Ly) ((cE (avB h.mE a)).trans rfl)
 rw[if_neg Ly];refine a0 (cx Ly) ?_;by_cases Lz:a.1=13
 .rw[if_pos Lz];exact a? (cL Lz) ((cE (amU h.mE a)).trans rfl)
 rw[if_neg Lz];refine a0 (cx Lz) ?_;by_cases mI:a.1=17
 .rw[if_pos mI]
  exact a? (cL mI) ((cE (amw a (h.t_ mI))).trans rfl)
 rw[if_neg mI];refine a0 (cx mI) ?_;by_cases aq:a.1=0
 .rw[if_pos J];exact a? (cL aq) uf
 refine a0 (cx aq) ?_;by_cases O:a.1=1
 .rw[if_pos J];exact a? (cL O) uf
 refine a0 (cx O) ?_;by_cases R:a.1=2
 .rw[if_pos J];exact a? (cL R) uf
 refine a0 (cx R) ?_;by_cases ai:a.1=3
 .rw[if_pos J];exact a? (cL ai) uf
 refine a0 (cx ai) ?_;by_cases au:a.1=4
 .rw[if_pos J];exact a? (cL au) uf
 refine a0 (cx au) ?_;by_cases a4:a.1=5
 .rw[if_pos J];exact a? (cL a4) uf
 refine a0 (cx a4) ?_;by_cases cQ:a.1=6
 .rw[if_pos J];exact a? (cL cQ) uf
 refine a0 (cx cQ) ?_;by_cases zO:a.1=14
 .rw[if_pos J];exact a? (cL zO) uf
 refine a0 (cx zO) ?_;by_cases zP:a.1=15
 .rw[if_pos J];exact a? (cL zP) uf
 refine a0 (cx zP) ?_;by_cases oF:a.1=16
 .rw[if_pos J];exact a? (cL oF) uf
 refine a0 (cx oF) ?_;rw[if_neg J]
def EZ:bO->List ge->Prop
 |_,[]=>True
 |w,a::l=>JD w a/\EZ (eX w a).1 l
def NI:∀(l:List ge) (w:bO),(hB w l).2.length=l.length
 |[],w=>rfl
 |a::l,w=>by unfold hB;rw[fQ,fQ,NI l]
def xo{w:bO}{nM:List ge}(h:EZ w nM)(hl:nM.length<=1000000):my (w.t,nM,())=some ((hB w nM).1.t,(hB w nM).2,()):=by
 unfold my;generalize hg:(λ(V:List Int×Int×dg×Unit)=>(_:Option (aE (List Int×Int×dg×Unit) (dg×List Int×Unit))))=F;have key:∀(l:List ge) (i:Nat) (v:bO) (e:List Int),nM.drop i=l->i<=nM.length->e.length=i->EZ v l ->
   bC F (e,(i:Int),v.t,())=some (.ex 0 (e++(hB v l).2,(nM.length:Int),(hB v l).1.t,())):=by
  intro l;induction l with
  |nil =>intro i v e aI ac az aD;have b9:=congrArg List.length aI;rw[ep,gu]at b9;have:i=nM.length:=J;subst this;refine dT ?_;subst hg;refine a0 (cP (by show ¬(nM.length:Int)<(nM.length:Int);omega)) ?_;show _=some (aE.ex 0 (e++[],(nM.length:Int),v.t,()));simp
  |cons a l ih=>
   intro i v e aI ac az aD;have b9:=congrArg List.length aI;rw[ep,fQ]at b9;have bi:i<nM.length:=J;have hx:nM[i]=a/\nM.drop (i+1)=l:=by
    rw[l_ bi]at aI
    grind
   have eH:i64 (aC (i:Int) 1)=((i+1:Nat):Int):=fL (by show(i:Int)+1=_;omega) J;have:=ih (i+1) (eX v a).1 (e++[(eX v a).2]) hx.2 J (by rw[db,az];rfl) aD.2;rw[h0]at this;refine tQ (eE ?_) this;subst hg;refine a? (di (by show(i:Int)<(nM.length:Int);omega)) (a6 cp ?_);rw[g1,nth_get bi,hx.1,eH];refine aL (JV aD.1) (a6 ?_ rfl);rw[g21];refine cC ?_;show(e.length+1)*32<=_;omega
 exact(cO (key nM 0 w [] rfl (eS _) rfl h)).trans (lc_ex'.trans (eG g62))
def eg(n:d'):aa:=f7 (jD n)
def pN{n:d'}(h:jo n):lq (eg n):=⟨by unfold eg f7;rw[db,db,o'];split<;>omega,ay3 h⟩
def ov(n:d')(res:Int):d':=(false,n.2.1,n.2.2.1,res,0,[],[],0,())
def PQ{n:d'}(h:jo n){res:Int}(aq:0<=res)(mg:res<=99):jo (ov n res):=by refine⟨h.1,h.2.1,h.2.2.1,aq,mg,(λh=>by cases h),?_⟩;refine⟨rfl,rfl,rfl,?_⟩;rfl
def afx{n:d'}(h:jo n)(a_:n.1=true){res:Int}(aq:0<=res)(mg:res<=99):kV n res=eg (ov n res):=by unfold kV Fu;rw[if_neg (by rw[a_];intro h;cases h),if_neg J];exact congrArg Prod.fst (WY (PQ h aq mg))
def ip:d':=(true,1,1,0,0,[],[],0,())
def m_:d':=ov ip 0
def aix:aa:=List.replicate 16 (u8 0)
theorem azw:mH aix=(0,false,()):=rfl
theorem ajS:j1 DG=(1,0,true,()):=by rfl
def oU:m9:=(pp 1,yg 1 (-1) aix,())
def ax8:mZ DG (-1)=(oU,1,0,()):=by unfold mZ;rw[ajS];rw[ if_pos rfl];rfl
structure m4(c:Nat)(h:ef):Prop where
 c4:c<4
 up:h.1=[decide (c=0),decide (c=1),decide (c=2),decide (c=3)]
 feed:h.2.1=[ec,ec,ec,ec]
 next:0<=h.2.2.2.1/\h.2.2.2.1<4
def Ib{h:ef}(aM:m4 c h):(ee h).2.1=(c:Int)/\(ee h).2.2.1=0/\m4 c (ee h).1:=by
 obtain⟨O,R,ai,au⟩:=aM;have key:UZ h.1 h.2.2.2.1.toNat=some c:=by
  have:∀c<4,∀n<4,UZ [decide (c=0),decide (c=1),decide (c=2),decide (c=3)] n=some c:=bN
  grind
 unfold ee;rw[key];exact⟨rfl,rfl,O,R,ai,by show(0:Int)<=((c+1)%4:Nat)/\(((c+1)%4:Nat):Int)<4;omega⟩
def ah4{h:ef}(aM:m4 c h):mw h (c:Int):=by unfold mw;rw[aM.up,iq];have:∀c<4,an [decide (c=0),decide (c=1),decide (c=2),decide (c=3)] c false=true:=bN;exact this c aM.c4
def ae6{x:aa}(O:1<=x.length)(R:x.length<=1024):jm ec (dO x)=(ec,[x]):=by
 have hl:(dO x).length=x.length+2:=MT x;have ht:ey (dO x)=x.length:=by
  unfold ey dO;show 256*(u8 (fB .i64 (len x) (cz (u64 8)))).toNat+(u8 (len x)).toNat=x.length;have e1:(u8 (len x)).toNat=x.length%256:=by show(UInt8.ofInt (x.length:Int)).toNat=_;simp[UInt8.ofInt,JG];omega
  have aT:fB .i64 (len x) (cz (u64 8))=((x.length/256:Nat):Int):=by show Int.fdiv (x.length:Int) (2^(Nat.min ((cz (u64 8)).toNat) 64))=_;rw[show(cz (u64 8)).toNat=8 from rfl,show Nat.min 8 64=8 from rfl,E' _ bN];omega
  have dI:(u8 (fB .i64 (len x) (cz (u64 8)))).toNat=x.length/256%256:=by rw[aT];show(UInt8.ofInt ((x.length/256:Nat):Int)).toNat=_;simp[UInt8.ofInt,JG];omega
  rw[e1,dI];omega
 unfold jm;rw[if_neg (by show ¬(([]:aa)++dO x).length<(0:Int).toNat;simp)];show(((ie (dO x).length 0 ((dO x).drop 0)).1,_),_)=_;rw[rm,hl];have e:ie (x.length+2) 0 (dO x)=([],0,0,[x]):=by
  unfold ie;rw[if_neg J,if_neg J,if_neg J];have aI:(dO x).drop (2+ey (dO x))=[]:=by rw[ht];exact List.drop_eq_nil_of_le J
  have ap:∀k,ie k 0 ([]:aa)=([],0,0,[]):=by intro k;cases k<;>rfl
  rw[aI,ap,ht];have:((dO x).drop 2).take x.length=x:=by show(x).take x.length=x;exact o5
  rw[this]
 rw[show(ec.1++dO x).length=x.length+2 from hl];show(((ie (x.length+2) 0 (dO x)).1,((ie (x.length+2) 0 (dO x)).2.1:Int),(ie (x.length+2) 0 (dO x)).2.2.1,()),(ie (x.length+2) 0 (dO x)).2.2.2)=_;rw[e];rfl
def ajv{s:aH}(aM:m4 c s.e.hub)(ah:s.e.cS=[0,0,0,0])(cy:¬s.e.ph=8){x:aa}(O:1<=x.length)(R:x.length<=1024):o9 s (c:Int) (dO x)=iG s x:=by
 have am:an s.e.hub.2.1 c ec=ec:=by
  rw[aM.feed];have:∀c<4,an [ec,ec,ec,ec] c ec=ec:=by
   intro c ah;match c,ah with
   |0,_=>rfl
   |1,_=>rfl
   |2,_=>rfl
   |3,_=>rfl
  exact this c aM.c4
 have k8:cg s.e.hub.2.1 c ec=s.e.hub.2.1:=by
  rw[aM.feed];have au:=aM.c4;match c,au with
  |0,_=>rfl
  |1,_=>rfl
  |2,_=>rfl
  |3,_=>rfl
 have hp:hn s.e.hub (c:Int) (dO x)=(s.e.hub,[x],0):=by unfold hn;rw[if_neg (not_not_intro (show kj (c:Int) from⟨J,by have:=aM.c4;omega⟩)),if_neg (not_not_intro (ah4 aM)),iq,am,ae6 O R];dsimp only;rw[k8]
 have hf:qF s (c:Int) (dO x)=s:=by
  unfold qF;rw[hp,iq,am];have e1:xu s.e.cS (i64 (ec.2.2.1-ec.2.2.1))=s.e.cS:=by rw[ah];rfl
  rw[e1]
 unfold o9;rw[hp,if_neg (not_not_intro rfl),hf];show(if s.e.ph=8 then s else uj (iG s x) [])=_;rw[if_neg cy];rfl
def ahA{s:aH}{a:c_}{o:Int}{b:aa}(hid:s.e.id=1-a.id)(p1:s.e.key=a.key)(eh:¬s.e.ph=7/\¬s.e.ph=8)(aD:lZ (hC a o b))(hm:(hs a.key,cn (hC a o b),())∈s.p.2.1):
  gR s (cn (hC a o b)++iC (hs a.key) (cn (hC a o b)))=(s,some (iO (hC a o b) (iC (hs a.key) (cn (hC a o b))))):=by
 have aj:=afq aD (show(hC a o b).2.2.1=_ from aeV { a with oth:=o }) (yK (hs a.key) (cn (hC a o b)));generalize Tp:iC (hs a.key) (cn (hC a o b))=t at aj;have ap:wq s.e (iO (hC a o b) t)=hs a.key:=by unfold wq;rw[if_neg (by show ¬(1:Int)=2;decide),p1]
 have ah:hJ s (iO (hC a o b) t)=(s.p,true,()):=by unfold hJ;rw[ap];unfold uY;exact(if_pos Tp).trans (if_pos hm)
 have ae:¬pw s.e (iO (hC a o b) t):=by
  rintro(h|h|h|h)
  .exact h (show a.id=1-s.e.id by omega)
  .exact eh.1 h
  .exact eh.2 h
  exact absurd h.1 (by show ¬(1:Int)=2;decide)
 unfold gR;rw[aj];refine(if_neg (not_not_intro rfl)).trans ((if_neg ae).trans ?_);rw[ah];exact(if_neg (λh=>Bool.noConfusion h)).trans ((if_pos rfl).trans rfl)
def Oo{s:aH}{a:c_}{b:aa}(hid:s.e.id=1-a.id)(hp:fX a=fX s.e)(hl:kq s.e.ph)(hf:qH s.e.ring a.ring.1.1=(a.ring.1.2.1,true,()))(aD:lZ (gq a b))(hm:(a.ring.1.2.1,cn (gq a b),())∈s.p.2.1)(bu:(j_ s.e.win a.seq).2=0):
  gR s (cn (gq a b)++iC a.ring.1.2.1 (cn (gq a b)))=(⟨{ s.e with win:=(j_ s.e.win a.seq).1,ring:=pc s.e a.ring.1.1 },s.p⟩,some (iO (gq a b) (iC a.ring.1.2.1 (cn (gq a b))))):=by
 have aj:=afq aD (aeV a) (yK a.ring.1.2.1 (cn (gq a b)));generalize Tp:iC a.ring.1.2.1 (cn (gq a b))=t at aj;have ap:wq s.e (iO (gq a b) t)=a.ring.1.2.1:=by exact congrArg Prod.fst hf
 have ah:hJ s (iO (gq a b) t)=(s.p,true,()):=by unfold hJ;rw[ap];exact(if_pos Tp).trans (if_pos hm)
 have ae:¬pw s.e (iO (gq a b) t):=by
  unfold kq at hl;rintro(h|h|h|h)
  .exact h (show a.id=1-s.e.id by omega)
  .omega
  .omega
  rcases h.2 with h|h|h
  .exact h hl
  .exact h hp
  have:(qH s.e.ring a.ring.1.1).2.1=false:=h
  grind
 unfold gR;rw[aj];refine(if_neg (not_not_intro rfl)).trans ((if_neg ae).trans ?_);rw[ah];exact(if_neg (λh=>Bool.noConfusion h)).trans ((if_neg (show ¬(2:Int)=1 by decide)).trans ((if_neg (not_not_intro bu)).trans rfl))
def iW:List Int:=[0,0,0,0]
def h4:d':=(true,301,2,0,0,[],[],0,())
def fM(key:aa):aa:=wm key [1,1] 1 []
def jU(key:aa):e?:=((1,fM key,()),j',j',0,1,())
def k0:gS:=(j_ tb 0).1
def gv(i:Bool)(key:aa)(h:ef):c_:=⟨dn i,key,0,DG, -1,0,0,0,0,tb,oN,kw,0,0,[],h,[],[],iW⟩
def hu(i:Bool)(key:aa)(gD:Int)(h:ef):c_:=⟨dn i,key,1,oU, -1,1,0,0,0,tb,oN,(1,1,gD,3,eg ip,()),1,0,[],h,[],[],iW⟩
def gF(i:Bool)(key:aa)(h:ef):c_:=⟨dn i,key,2,oU, -1,1,1,1,0,tb,jU key,kw,0,0,[],h,[],[],iW⟩
def hK(i:Bool)(key:aa)(gD:Int)(h:ef):c_:=⟨dn i,key,3,oU, -1,1,1,1,1,tb,jU key,(301,2,gD,3,eg h4,()),2,0,[],h,[],[],iW⟩
def dh(i:Bool)(key:aa)(stan:Int)(h:ef):c_:=⟨dn i,key,3,oU, -1,1,1,1,1,k0,jU key,kw,stan,0,[],h,[],[],iW⟩
def hM:List jr:=[(4,[1,1],0,[],())]
def rg(i:Bool)(key:aa):dr:=hC (hu i key 8 dv) 0 (eg ip)
def tF(i:Bool)(key:aa):dr:=hC (gF i key dv) 1 (eg m_)
def vh(i:Bool)(key:aa):dr:=gq { hK i key 8 dv with seq:=0 } (eg h4)
def vg(i:Bool)(key:aa):dr:=gq (gF i key dv) (eg (ov h4 0))
def iH(k:aa)(v:dr):aa:=cn v++iC k (cn v)
def yx:jo ip:=by refine⟨.inl rfl,bN,bN,bN,bN,λ_=>rfl,?_⟩;refine⟨rfl,rfl,rfl,?_⟩;rfl
def xJ:jo h4:=by refine⟨.inr (.inr (.inr (.inr rfl))),bN,bN,bN,bN,λ_=>rfl,?_⟩;refine⟨rfl,rfl,rfl,?_⟩;rfl
def J_:jo m_:=PQ yx J J
def Kh:jo (ov h4 0):=PQ xJ J J
def aab{s:aH}(aM:m4 c s.e.hub)(v:dr)(k:aa):nf s v k=(⟨{ s.e with hub:=(ee s.e.hub).1,bz:=s.e.bz++[((c:Int),dO (iH k v),())] },h9 s.p k (cn v)⟩,0):=by obtain⟨O,R,_⟩:=Ib aM;unfold nf;rw[if_pos R,O];rfl
def agL{s:aH}(aM:m4 c s.e.hub){o:Int}(aO:dP o){b:aa}(Y:lq b):ps s o b=(⟨{ s.e with hub:=(ee s.e.hub).1,bz:=s.e.bz++[((c:Int),dO (iH (hs s.e.key) (hC s.e o b)),())] },h9 s.p (hs s.e.key) (cn (hC s.e o b))⟩,0):=by unfold ps;rw[if_pos ⟨aO,Y⟩,aab aM]
def VD{s:aH}(aM:m4 c s.e.hub)(hl:kq s.e.ph)(a_:¬s.e.seq=4611686018427387904){b:aa}(Y:lq b):gp s b=(⟨{ s.e with hub:=(ee s.e.hub).1,bz:=s.e.bz++[((c:Int),dO (iH s.e.ring.1.2.1 (gq s.e b)),())],seq:=s.e.seq+1 },h9 s.p s.e.ring.1.2.1 (cn (gq s.e b))⟩,0):=by unfold gp;rw[if_neg (not_not_intro Y),if_neg (not_not_intro hl),if_neg a_,aab aM];rfl
def yq:dP 0:=⟨bN,bN⟩
def uR:dP 1:=⟨bN,bN⟩
def auy(i:Bool)(key:aa){h:ef}(aM:m4 c h)(p:dw):r5 ⟨gv i key h,p⟩=(⟨{ hu i key 8 (ee h).1 with bz:=[((c:Int),dO (iH (hs key) (rg i key)),())] },h9 p (hs key) (cn (rg i key))⟩,0):=by
 have az:gw ⟨gv i key h,p⟩=(qj ⟨gv i key h,p⟩ oU,1,0):=by unfold gw;rw[show mZ (gv i key h).store (gv i key h).power=_ from ax8];rfl
 have a_:(m5 ip)=(eg ip,0,()):=WY yx;have Y:oy 1 1 (eg ip)=((1,1,8,3,eg ip,()),0,()):=by unfold oy;rw[if_pos ⟨.inl rfl,bN,bN,pN yx⟩]
 unfold r5;rw[if_neg (by rintro(h|h)<;>exact absurd (show(0:Int)=_ from h) bN),az,if_neg (not_not_intro rfl)];refine J1 ?_ rfl;show lB (uV (k? (qj ⟨gv i key h,p⟩ oU) 1) 1) (iu 1)=_;unfold lB;rw[show((iu 1).1,(iu 1).2.1,l5 (uV (k? (qj ⟨gv i key h,p⟩ oU) 1) 1).e.stan,(iu 1).2.2.2)=ip from rfl,show l5 (uV (k? (qj ⟨gv i key h,p⟩ oU) 1) 1).e.stan=1 from rfl,a_];rw[show oy (iu 1).2.1 1 (eg ip,(0:Int),()).1=_ from Y,if_pos ⟨rfl,rfl⟩,if_pos (show(iu 1).2.1=1 from rfl)];have bc:xt (uV (k? (qj ⟨gv i key h,p⟩ oU) 1) 1) (iu 1)=⟨hu i key 8 h,p⟩:=by unfold xt;rw[show((iu 1).1,(iu 1).2.1,l5 (uV (k? (qj ⟨gv i key h,p⟩ oU) 1) 1).e.stan,(iu 1).2.2.2)=ip from rfl,show l5 (uV (k? (qj ⟨gv i key h,p⟩ oU) 1) 1).e.stan=1 from rfl,a_];rw[show oy (iu 1).2.1 1 (eg ip,(0:Int),()).1=_ from Y];rfl
 rw[bc,agL (s:=⟨hu i key 8 h,p⟩) aM yq (pN yx)];rfl
def CP{s x:aH}{b:aa}{v:dr}(h:gR s b=(x,some v)):iG s b=mV (mD x v):=by unfold iG;rw[h]
def D0{s:aH}(h:s.e.queue=[]):mV s=s:=by unfold mV;rw[h];rfl
def anC{s:aH}(O:s.e.store=DG)(R:s.e.power = -1):gw s=(qj s oU,1,0):=by unfold gw;rw[O,R];rfl
def ED(p:dw)(k b:aa):(k,b,())∈(h9 p k b).2.1:=by
 unfold h9;split
 .omega
 simp
theorem adK(key:aa):(DF (wm key [1,1] 1 [])).1=jU key:=rfl
def H9{v:dr}{y g q:Int}(ap:v.1=1\/v.1=2)(cb:v.2.2.1=[x,y])(hx:dP x)(bs:dP y)(a_:v.2.2.2.2.1=q)(s2:dP q)(aI:v.2.1=0\/v.2.1=1)(hg:v.2.2.2.1=g)(SU:0<=g/\g<=2147483647)(Y:lq v.2.2.2.2.2.1):lZ v:=by unfold lZ eM e1;rw[cb,a_,hg];exact⟨ap,hx,bs,s2,aI,SU,Y.1,Y.2⟩
def kL(i:Bool):dn i=0\/dn i=1:=by cases i<;>first|exact .inl rfl|exact .inr rfl
def ayH(i:Bool)(key:aa):(rg i key).2.2.1=[if i then 0 else 1,if i then 1 else 0]:=by cases i<;>rfl
def mT{e:c_}(aq:e.id=0\/e.id=1)(O:e.own=1)(R:e.oth=1):fX e=[1,1]:=by
 unfold fX
 grind
def ayI(i:Bool)(key:aa):lZ (rg i key):=H9 (x:=if i then 0 else 1) (y:=if i then 1 else 0) (q:=0) (g:=0) (.inl rfl) (ayH i key) (by cases i<;>decide) (by cases i<;>decide) rfl yq (kL i) rfl bN (pN yx)
def ah6(i:Bool)(key:aa):(tF i key).2.2.1=[1,1]:=mT (e:={ gF i key dv with oth:=1 }) (kL i) rfl rfl
def ayE(i:Bool)(key:aa):lZ (tF i key):=H9 (q:=0) (g:=0) (.inl rfl) (ah6 i key) uR uR rfl yq (kL i) rfl bN (pN J_)
def ayG(i:Bool)(key:aa):lZ (vh i key):=H9 (q:=0) (g:=1) (.inr rfl) (mT (e:={ hK i key 8 dv with seq:=0 }) (kL i) rfl rfl) uR uR rfl yq (kL i) rfl bN (pN xJ)
def ayF(i:Bool)(key:aa):lZ (vg i key):=H9 (q:=0) (g:=1) (.inr rfl) (mT (e:=gF i key dv) (kL i) rfl rfl) uR uR rfl yq (kL i) rfl bN (pN Kh)
def aql(i:Bool)(key:aa){h:ef}(aM:m4 c h){p:dw}(hm:(hs key,cn (rg i key),())∈p.2.1):
  iG ⟨gv (!i) key h,p⟩ (iH (hs key) (rg i key))=⟨{ gF (!i) key (ee h).1 with bz:=[((c:Int),dO (iH (hs key) (tF (!i) key)),())] },h9 p (hs key) (cn (tF (!i) key))⟩:=by
 have ht:=ahA (s:=⟨gv (!i) key h,p⟩) (a:=hu i key 8 dv) (o:=0) (b:=eg ip) (by cases i<;>rfl) rfl ⟨by show ¬(0:Int)=7;decide,by show ¬(0:Int)=8;decide⟩ (ayI i key) hm;rw[show iH (hs key) (rg i key)=cn (hC (hu i key 8 dv) 0 (eg ip))++iC (hs (hu i key 8 dv).key) (cn (hC (hu i key 8 dv) 0 (eg ip))) from rfl,CP ht];generalize iC (hs (hu i key 8 dv).key) (cn (hC (hu i key 8 dv) 0 (eg ip)))=t;have hO:ky (eg ip)=(ip,0,()):=M6 yx;have aI:mD ⟨gv (!i) key h,p⟩ (iO (hC (hu i key 8 dv) 0 (eg ip)) t)=qL ⟨gv (!i) key h,p⟩ (iO (hC (hu i key 8 dv) 0 (eg ip)) t) ip:=by unfold mD;refine(if_neg (show ¬(1:Int)=2 by decide)).trans ?_;rw[show(iO (hC (hu i key 8 dv) 0 (eg ip)) t).2.2.2.2.2.1=eg ip from rfl,hO];exact if_pos rfl
 have hh:qL ⟨gv (!i) key h,p⟩ (iO (hC (hu i key 8 dv) 0 (eg ip)) t) ip=t4 ⟨gv (!i) key h,p⟩ ip 1:=by
  unfold qL;dsimp only;have e1:an (iO (hC (hu i key 8 dv) 0 (eg ip)) t).2.2.1 (ab (1-(gv (!i) key h).id)) 0=1:=by cases i<;>rfl
  have aT:an (iO (hC (hu i key 8 dv) 0 (eg ip)) t).2.2.1 (ab (gv (!i) key h).id) 0=0:=by cases i<;>rfl
  rw[e1,aT];exact(if_neg (by rintro(h|h);exact h rfl;exact absurd h bN)).trans (if_pos ⟨rfl,rfl⟩)
 have bc:t4 ⟨gv (!i) key h,p⟩ ip 1=(ps ⟨gF (!i) key h,p⟩ 1 (kV ip 0)).1:=by
  unfold t4;refine(if_neg (by rintro(h|h|h);exact absurd (show(0:Int)=1 from h.1) bN;exact absurd (show(0:Int)=7 from h) bN;exact absurd (show(0:Int)=8 from h) bN)).trans ?_;refine(if_neg (λh=>absurd h.1.1 (by show ¬(2:Int)<=0;decide))).trans ?_;refine(if_neg (by show ¬(1:Int)<=0;decide)).trans ?_;rw[anC (s:=⟨gv (!i) key h,p⟩) rfl rfl];refine(if_pos rfl).trans ?_;have e:wv (k? (qj ⟨gv (!i) key h,p⟩ oU) 2) 1 1=⟨gF (!i) key h,p⟩:=by
   unfold wv Dz;have RC:fX { (k? (qj ⟨gv (!i) key h,p⟩ oU) 2).e with own:=1,oth:=1 }=[1,1]:=by cases i<;>rfl
   rw[RC,show(k? (qj ⟨gv (!i) key h,p⟩ oU) 2).e.key=key from rfl,adK];rfl
  rw[e]
 rw[aI,hh,bc,afx yx rfl J J,show ov ip 0=m_ from rfl,agL (s:=⟨gF (!i) key h,p⟩) aM uR (pN J_),D0 (by rfl)];rfl
def aqh(i:Bool)(key:aa)(gD:Int){h:ef}(aM:m4 c h){p:dw}(hm:(hs key,cn (tF (!i) key),())∈p.2.1):
  iG ⟨hu i key gD h,p⟩ (iH (hs key) (tF (!i) key))=⟨{ hK i key 8 (ee h).1 with bz:=[((c:Int),dO (iH (fM key) (vh i key)),())],got:=hM },h9 p (fM key) (cn (vh i key))⟩:=by
 have ht:=ahA (s:=⟨hu i key gD h,p⟩) (a:=gF (!i) key dv) (o:=1) (b:=eg m_) (by cases i<;>rfl) rfl ⟨by show ¬(1:Int)=7;decide,by show ¬(1:Int)=8;decide⟩ (ayE (!i) key) hm;rw[show iH (hs key) (tF (!i) key)=cn (hC (gF (!i) key dv) 1 (eg m_))++iC (hs (gF (!i) key dv).key) (cn (hC (gF (!i) key dv) 1 (eg m_))) from rfl,CP ht];generalize iC (hs (gF (!i) key dv).key) (cn (hC (gF (!i) key dv) 1 (eg m_)))=t;have hO:ky (eg m_)=(m_,0,()):=M6 J_;have aI:mD ⟨hu i key gD h,p⟩ (iO (hC (gF (!i) key dv) 1 (eg m_)) t)=qL ⟨hu i key gD h,p⟩ (iO (hC (gF (!i) key dv) 1 (eg m_)) t) m_:=by unfold mD;refine(if_neg (show ¬(1:Int)=2 by decide)).trans ?_;rw[show(iO (hC (gF (!i) key dv) 1 (eg m_)) t).2.2.2.2.2.1=eg m_ from rfl,hO];exact if_pos rfl
 have cb:(iO (hC (gF (!i) key dv) 1 (eg m_)) t).2.2.1=[1,1]:=ah6 (!i) key;have hh:qL ⟨hu i key gD h,p⟩ (iO (hC (gF (!i) key dv) 1 (eg m_)) t) m_=lB (AO ⟨hu i key gD h,p⟩ 1) (iu 301):=by
  unfold qL;dsimp only;rw[cb];have e1:an ([1,1]:List Int) (ab (1-(hu i key gD h).id)) 0=1:=by cases i<;>rfl
  have aT:an ([1,1]:List Int) (ab (hu i key gD h).id) 0=1:=by cases i<;>rfl
  rw[e1,aT];refine(if_neg (by rintro(h|h);exact h rfl;exact absurd h bN)).trans ((if_neg (λh=>Bool.noConfusion h.1)).trans (if_pos ⟨rfl,rfl,rfl,rfl,?_,rfl,rfl⟩));intro h;have:(1:Int)=0:=congrArg Prod.fst h;omega
 have s1:AO ⟨hu i key gD h,p⟩ 1=⟨{ hK i key 8 h with seq:=0,ask:=kw,stan:=1,got:=hM },p⟩:=by unfold AO zE Dz;have RC:fX { (hu i key gD h) with own:=1,oth:=1 }=[1,1]:=mT (kL i) rfl rfl;rw[show fX { (⟨hu i key gD h,p⟩:aH).e with own:=(⟨hu i key gD h,p⟩:aH).e.own,oth:=1 }=[1,1] from RC,show(⟨hu i key gD h,p⟩:aH).e.key=key from rfl,adK];dsimp only;rw[mT (e:=_) (kL i) rfl rfl];rfl
 have a_:m5 h4=(eg h4,0,()):=WY xJ;have Y:oy 301 2 (eg h4)=((301,2,8,3,eg h4,()),0,()):=by unfold oy;rw[if_pos ⟨.inr (.inr (.inr (.inr rfl))),bN,bN,pN xJ⟩]
 have z8:lB ⟨{ hK i key 8 h with seq:=0,ask:=kw,stan:=1,got:=hM },p⟩ (iu 301)=(gp ⟨{ hK i key 8 h with seq:=0,got:=hM },p⟩ (eg h4)).1:=by unfold lB xt;rw[show((iu 301).1,(iu 301).2.1,l5 (⟨{ hK i key 8 h with seq:=0,ask:=kw,stan:=1,got:=hM },p⟩:aH).e.stan,(iu 301).2.2.2)=h4 from rfl,show l5 (⟨{ hK i key 8 h with seq:=0,ask:=kw,stan:=1,got:=hM },p⟩:aH).e.stan=2 from rfl,a_];rw[show oy (iu 301).2.1 2 (eg h4,(0:Int),()).1=_ from Y,if_pos ⟨rfl,rfl⟩,if_neg (show ¬(iu 301).2.1=1 by decide)];rfl
 rw[aI,hh,s1,z8,VD (s:=⟨{ hK i key 8 h with seq:=0,got:=hM },p⟩) aM ⟨by show(2:Int)<=3;decide,by show(3:Int)<=6;decide⟩ (by show ¬(0:Int)=4611686018427387904;decide) (pN xJ),D0 (by rfl)];rfl
theorem Lf(key:aa):qH (jU key) 1=(fM key,true,()):=rfl
theorem ads:(j_ tb 0).2=0:=rfl
def LE{e:c_}{key:aa}(h:e.ring=jU key):pc e 1=jU key:=by unfold pc;rw[h];exact if_neg (λq=>absurd (show(0:Int)=1 from q.1) bN)
def aqk(i:Bool)(key:aa){h:ef}(aM:m4 c h){p:dw}(hm:(fM key,cn (vh i key),())∈p.2.1):
  iG ⟨gF (!i) key h,p⟩ (iH (fM key) (vh i key))=⟨{ dh (!i) key 0 (ee h).1 with bz:=[((c:Int),dO (iH (fM key) (vg (!i) key)),())],got:=hM },h9 p (fM key) (cn (vg (!i) key))⟩:=by
 have ht:=Oo (s:=⟨gF (!i) key h,p⟩) (a:={ hK i key 8 dv with seq:=0 }) (b:=eg h4) (by cases i<;>rfl) ((mT (kL i) rfl rfl).trans (mT (e:=gF (!i) key h) (kL (!i)) rfl rfl).symm) ⟨by show(2:Int)<=2;decide,by show(2:Int)<=6;decide⟩ (Lf key) (ayG i key) hm ads;rw[show iH (fM key) (vh i key)=cn (gq { hK i key 8 dv with seq:=0 } (eg h4))++iC ({ hK i key 8 dv with seq:=0 }:c_).ring.1.2.1 (cn (gq { hK i key 8 dv with seq:=0 } (eg h4))) from rfl,CP ht];generalize iC ({ hK i key 8 dv with seq:=0 }:c_).ring.1.2.1 (cn (gq { hK i key 8 dv with seq:=0 } (eg h4)))=t;rw[show pc (⟨gF (!i) key h,p⟩:aH).e ({ hK i key 8 dv with seq:=0 }:c_).ring.1.1=jU key from LE rfl];have hO:ky (eg h4)=(h4,0,()):=M6 xJ;have hf:pV ⟨{ gF (!i) key h with win:=k0,ring:=jU key },p⟩=⟨{ dh (!i) key 0 h with seq:=0,got:=hM },p⟩:=by unfold pV;refine(if_pos rfl).trans ?_;unfold zE;rw[show fX (uZ ⟨{ gF (!i) key h with win:=k0,ring:=jU key },p⟩ 3).e=[1,1] from mT (kL (!i)) rfl rfl];rfl
 have aI:mD ⟨{ gF (!i) key h with win:=k0,ring:=jU key },p⟩ (iO (gq { hK i key 8 dv with seq:=0 } (eg h4)) t)=(gp ⟨{ dh (!i) key 0 h with seq:=0,got:=hM },p⟩ (kV h4 0)).1:=by unfold mD;refine(if_pos rfl).trans ?_;rw[show(iO (gq { hK i key 8 dv with seq:=0 } (eg h4)) t).2.2.2.2.2.1=eg h4 from rfl,hO,hf];refine(if_pos rfl).trans ?_;unfold wS;refine(if_neg (show ¬(301:Int)=101 by decide)).trans ((if_neg (show ¬(301:Int)=201 by decide)).trans ?_);unfold yp;exact(if_pos rfl).trans (if_pos rfl)
 refine(congrArg mV aI).trans ?_;rw[afx xJ rfl J J,VD (s:=⟨{ dh (!i) key 0 h with seq:=0,got:=hM },p⟩) aM ⟨by show(2:Int)<=3;decide,by show(3:Int)<=6;decide⟩ (by show ¬(0:Int)=4611686018427387904;decide) (pN Kh),D0 (by rfl)];rfl
def aqi(i:Bool)(key:aa)(gD:Int){h:ef}{p:dw}(hm:(fM key,cn (vg (!i) key),())∈p.2.1):
  iG ⟨hK i key gD h,p⟩ (iH (fM key) (vg (!i) key))=⟨dh i key 2 h,p⟩:=by
 have ht:=Oo (s:=⟨hK i key gD h,p⟩) (a:=gF (!i) key dv) (b:=eg (ov h4 0)) (by cases i<;>rfl) ((mT (kL (!i)) rfl rfl).trans (mT (e:=hK i key gD h) (kL i) rfl rfl).symm) ⟨by show(2:Int)<=3;decide,by show(3:Int)<=6;decide⟩ (Lf key) (ayF (!i) key) hm ads;rw[show iH (fM key) (vg (!i) key)=cn (gq (gF (!i) key dv) (eg (ov h4 0)))++iC (gF (!i) key dv).ring.1.2.1 (cn (gq (gF (!i) key dv) (eg (ov h4 0)))) from rfl,CP ht];generalize iC (gF (!i) key dv).ring.1.2.1 (cn (gq (gF (!i) key dv) (eg (ov h4 0))))=t;rw[show pc (⟨hK i key gD h,p⟩:aH).e (gF (!i) key dv).ring.1.1=jU key from LE rfl];have hO:ky (eg (ov h4 0))=(ov h4 0,0,()):=M6 Kh;have aI:mD ⟨{ hK i key gD h with win:=k0,ring:=jU key },p⟩ (iO (gq (gF (!i) key dv) (eg (ov h4 0))) t)=⟨dh i key 2 h,p⟩:=by unfold mD;refine(if_pos rfl).trans ?_;rw[show(iO (gq (gF (!i) key dv) (eg (ov h4 0))) t).2.2.2.2.2.1=eg (ov h4 0) from rfl,hO];refine(if_pos rfl).trans ?_;rw[show pV ⟨{ hK i key gD h with win:=k0,ring:=jU key },p⟩=⟨{ hK i key gD h with win:=k0,ring:=jU key },p⟩ from if_neg (show ¬(3:Int)=2 by decide)];unfold wS;refine(if_neg (show ¬(301:Int)=101 by decide)).trans ((if_neg (show ¬(301:Int)=201 by decide)).trans ?_);unfold yp;refine(if_neg (λq=>Bool.noConfusion q)).trans ((if_pos ⟨?_,rfl,rfl⟩).trans ((if_pos rfl).trans rfl));intro q;have:(301:Int)=0:=congrArg Prod.fst q;omega
 refine(congrArg mV aI).trans (D0 rfl)
def two{α:Type}(i:Bool)(a b:α):Bool->α:=λj=>if j=i then a else b
def eQ(i:Bool)(a b:c_)(p:dw)(f o:List dX)(eN lb:List jr):bO:=⟨two i a b,p,f,o,two i eN lb⟩
def ahV(i:Bool)(a b:α):two i a b i=a:=if_pos rfl
def ayu(i:Bool)(a b:α):two i a b (!i)=b:=if_neg (by cases i<;>decide)
def ae9(i:Bool)(a b x:α):jn (two i a b) i x=two i x b:=by
 unfold jn two
 grind
def ahW(i:Bool)(a b:α):two (!i) b a=two i a b:=by funext j;cases i<;>cases j<;>rfl
def y5(i:Bool)(a b:c_)(p:dw)(f o:List dX)(eN lb:List jr):eQ (!i) b a p f o lb eN=eQ i a b p f o eN lb:=by unfold eQ;rw[ahW,ahW]
def Kg(i:Bool)(a b:c_)(p:dw)(f o:List dX)(eN lb:List jr):(eQ i a b p f o eN lb).at i=⟨a,p⟩:=by show(⟨two i a b i,p⟩:aH)=_;rw[ahV]
def XQ(i:Bool)(a b:c_)(p:dw)(f o:List dX)(eN lb:List jr):(eQ i a b p f o eN lb).at (!i)=⟨b,p⟩:=by show(⟨two i a b (!i),p⟩:aH)=_;rw[ayu]
def Gd(i:Bool)(a b:c_)(p:dw)(f o:List dX)(eN lb:List jr){x:aH}(h:¬x.e.ph=8):
  j4 (eQ i a b p f o eN lb) i x=eQ i { x.e with bz:=[],got:=[] } b x.p (f++x.e.bz.map (jE i)) (o++x.e.bz.map (jE i)) (eN++x.e.got) lb:=by
 unfold j4;rw[if_neg (λq=>h q.1)];unfold mG eQ;dsimp only;rw[ae9,ae9,ahV]
def R5(i:Bool)(a b:c_)(p:dw)(f o:List dX)(eN lb:List jr){x:aH}(h:¬x.e.ph=8):
  j4 (eQ i a b p f o eN lb) (!i) x=eQ i a { x.e with bz:=[],got:=[] } x.p (f++x.e.bz.map (jE (!i))) (o++x.e.bz.map (jE (!i))) eN (lb++x.e.got):=by
 rw[<- y5 i a b,Gd (!i) b a p f o lb eN h,y5]
def Ws(i:Bool){a a':c_}(b:c_){p:dw}(f o:List dX)(eN lb:List jr)(h:lj ⟨a,p⟩=⟨a',p⟩)(cy:¬a'.ph=8)(aO:a'.bz=[])(hg:a'.got=[]):
  oe (eQ i a b p f o eN lb) i=eQ i a' b p f o eN lb:=by
 unfold oe;rw[Kg,h,Gd _ _ _ _ _ _ _ _ (x:=⟨a',p⟩) cy];have e:({ a' with bz:=[],got:=[] }:c_)=a':=by cases a';cases aO;cases hg;rfl
 dsimp only;rw[aO,hg,List.map_nil,iE,iE,iE];rw[e]
def ahH(i:Bool)(a:c_){b b':c_}{p:dw}(f o:List dX)(eN lb:List jr)(h:lj ⟨b,p⟩=⟨b',p⟩)(cy:¬b'.ph=8)(aO:b'.bz=[])(hg:b'.got=[]):
  oe (eQ i a b p f o eN lb) (!i)=eQ i a b' p f o eN lb:=by
 rw[<- y5 i a b,Ws (!i) a f o lb eN h cy aO hg,y5]
def aye(i:Bool){a a' b b':c_}{p:dw}(f o:List dX)(eN lb:List jr)(bc:lj ⟨a,p⟩=⟨a',p⟩)(Y:lj ⟨b,p⟩=⟨b',p⟩)(cy:¬a'.ph=8/\¬b'.ph=8)(aO:a'.bz=[]/\b'.bz=[])(hg:a'.got=[]/\b'.got=[]):
  oe (oe (eQ i a b p f o eN lb) false) true=eQ i a' b' p f o eN lb:=by
 cases i
 .rw[Ws false b f o eN lb bc cy.1 aO.1 hg.1]
  exact ahH false a' f o eN lb Y cy.2 aO.2 hg.2
 rw[show oe (eQ true a b p f o eN lb) false=_ from ahH true a f o eN lb Y cy.2 aO.2 hg.2];exact Ws true b' f o eN lb bc cy.1 aO.1 hg.1
def atW(i:Bool):lE (1-dn i)=!i:=by cases i<;>rfl
def ZW(i:Bool)(a b:c_)(p:dw)(o:List dX)(eN lb:List jr){x:aa}{y:aH}(aM:m4 c b.hub)(ah:b.cS=[0,0,0,0])(cy:¬b.ph=8)(O:1<=x.length)(R:x.length<=1024)(bs:iG ⟨b,p⟩ x=y)(Gl:¬y.e.ph=8):
  nc 1 (eQ i a b p [(1-dn i,(c:Int),dO x,())] o eN lb)=eQ i a { y.e with bz:=[],got:=[] } y.p (y.e.bz.map (jE (!i))) (o++y.e.bz.map (jE (!i))) eN (lb++y.e.got):=by
 unfold nc;rw[if_neg (by intro h;cases h)];show(j5 _ 0 0).1=_;unfold j5;rw[if_neg (by show ¬ ¬((0:Int)<=0/\(0:Int)<1);decide)];dsimp only;rw[if_neg (by intro h;exact absurd h.1 bN)];show j4 (eQ i a b p [] o eN lb) (lE (1-dn i)) (o9 ((eQ i a b p [] o eN lb).at (lE (1-dn i))) (c:Int) (dO x))=_;rw[atW,XQ,ajv (s:=⟨b,p⟩) aM ah cy O R,bs,R5 _ _ _ _ _ _ _ _ Gl];rfl
def RY{k:aa}{v:dr}(h:lq v.2.2.2.2.2.1):1<=(iH k v).length/\(iH k v).length<=1024:=by unfold iH;rw[db,wj,yK];have O:=h.1;have R:=h.2;omega
def ayd(i:Bool)(key:aa)(gD:Int)(aI:1<gD)(h:ef)(p:dw):lj ⟨hu i key gD h,p⟩=⟨hu i key (gD-1) h,p⟩:=by
 have ht:m1 (hu i key gD h).ask=((1,1,gD-1,3,eg ip,()),false,false):=by unfold m1;rw[ if_pos (show 1<(hu i key gD h).ask.2.2.1 from aI)];rfl
 unfold lj;unfold ve;rw[ ht];rfl
def ahF(i:Bool)(key:aa)(gD:Int)(aI:1<gD)(h:ef)(p:dw):lj ⟨hK i key gD h,p⟩=⟨hK i key (gD-1) h,p⟩:=by
 have aj:Iv ⟨hK i key gD h,p⟩=⟨hK i key gD h,p⟩:=rfl;have ht:m1 (hK i key gD h).ask=((301,2,gD-1,3,eg h4,()),false,false):=by unfold m1;rw[ if_pos (show 1<(hK i key gD h).ask.2.2.1 from aI)];rfl
 unfold lj;rw[if_neg (by rintro(q|q);exact absurd (show(3:Int)=7 from q) bN;exact absurd (show(3:Int)=8 from q) bN),if_pos ⟨by show(2:Int)<=3;decide,by show(3:Int)<=6;decide⟩,aj];unfold ve;rw[ ht];rfl
theorem ahG(i:Bool)(key:aa)(h:ef)(p:dw):lj ⟨gF i key h,p⟩=⟨gF i key h,p⟩:=rfl
def Wr(i:Bool)(key:aa)(bR:Int)(h:ef)(p:dw):lj ⟨dh i key bR h,p⟩=⟨dh i key bR h,p⟩:=by unfold lj;rw[if_neg (by rintro(q|q);exact absurd (show(3:Int)=7 from q) bN;exact absurd (show(3:Int)=8 from q) bN),if_pos ⟨by show(2:Int)<=3;decide,by show(3:Int)<=6;decide⟩,if_neg (by show ¬(1:Int)=4611686018427387904;decide)];rfl
def hP(c:Nat):ef:=(l2 dv (c:Int)).1
def Tr(h:c<4):m4 c (hP c)/\(l2 dv (c:Int)).2=0:=by
 match c,h with
 |0,_=>exact⟨⟨bN,rfl,rfl,bN⟩,rfl⟩
 |1,_=>exact⟨⟨bN,rfl,rfl,bN⟩,rfl⟩
 |2,_=>exact⟨⟨bN,rfl,rfl,bN⟩,rfl⟩
 |3,_=>exact⟨⟨bN,rfl,rfl,bN⟩,rfl⟩
def afh(i:Bool)(key:aa)(h:c<4)(p:dw):(wM ⟨sM i key,p⟩ (c:Int)).1=⟨gv i key (hP c),p⟩:=by exact(congrArg Prod.fst (if_neg (not_not_intro (Tr h).2))).trans rfl
def ato(key:aa)(e5 i:Bool)(h:c<4):eX (hY key e5) (12,0,(c:Int),0,[],())=(eQ i (gv i key (hP c)) (gv (!i) key (hP c)) (e5,[],false,()) [] [] [] [],0):=by
 have bu:hY key e5=eQ false (sM false key) (sM true key) (e5,[],false,()) [] [] [] []:=by
  unfold hY eQ two
  grind
 have aI:¬mw dv (c:Int):=by have:∀c<4,¬an [false,false,false,false] c false=true:=bN;exact this c h
 have aj:eX (hY key e5) (12,0,(c:Int),0,[],())=A1 (hY key e5) (c:Int):=rfl;rw[aj];unfold A1;rw[if_neg (by rintro(q|q)<;>exact absurd (show(0:Int)=8 from q) bN),if_neg (not_not_intro (⟨J,J⟩)),if_neg (by rintro(q|q)<;>exact aI q)];refine J1 ?_ rfl;have e1:r_ (hY key e5) false (c:Int)=eQ false (gv false key (hP c)) (sM true key) (e5,[],false,()) [] [] [] []:=by rw[bu];unfold r_;rw[Kg,afh false key h,Gd _ _ _ _ _ _ _ _ (by show ¬(0:Int)=8;decide)];rfl
 have aT:r_ (eQ false (gv false key (hP c)) (sM true key) (e5,[],false,()) [] [] [] []) true (c:Int)=eQ false (gv false key (hP c)) (gv true key (hP c)) (e5,[],false,()) [] [] [] []:=by unfold r_;rw[show(eQ false (gv false key (hP c)) (sM true key) (e5,[],false,()) [] [] [] []).at true=⟨sM true key,_⟩ from XQ false _ _ _ _ _ _ _,afh true key h];exact(R5 false _ _ _ _ _ _ _ (x:=⟨gv true key (hP c),(e5,[],false,())⟩) (by show ¬(0:Int)=8;decide)).trans rfl
 rw[e1,aT];cases i
 .rfl
 exact(y5 false _ _ _ _ _ _ _).symm
def Vu{a b a':c_}{p:dw}{o:List dX}{eN lb:List jr}{x:aa}{y:aH}{b':c_}(aM:m4 c b.hub)(ah:b.cS=[0,0,0,0])(cy:¬b.ph=8)(hx:1<=x.length/\x.length<=1024)(bs:iG ⟨b,p⟩ x=y)(Gl:¬y.e.ph=8)
  (bc:lj ⟨a,y.p⟩=⟨a',y.p⟩) (Y:lj ⟨{ y.e with bz:=[],got:=[] },y.p⟩=⟨b',y.p⟩) (kQ:¬a'.ph=8/\¬b'.ph=8) (aO:a'.bz=[]/\b'.bz=[]) (hg:a'.got=[]/\b'.got=[]) :
  jV (eQ i a b p [(1-dn i,(c:Int),dO x,())] o eN lb)=eQ i a' b' y.p (y.e.bz.map (jE (!i))) (o++y.e.bz.map (jE (!i))) eN (lb++y.e.got):=by
 unfold jV;rw[show(eQ i a b p [(1-dn i,(c:Int),dO x,())] o eN lb).a8.length=1 from rfl,ZW i a b p o eN lb aM ah cy hx.1 hx.2 bs Gl];exact aye i _ _ _ _ bc Y kQ aO hg
def afJ{a b b':c_}{p:dw}{o:List dX}{eN lb:List jr}{x:aa}{y:aH}{a':c_}(aM:m4 c a.hub)(ah:a.cS=[0,0,0,0])(cy:¬a.ph=8)(hx:1<=x.length/\x.length<=1024)(bs:iG ⟨a,p⟩ x=y)(Gl:¬y.e.ph=8)
  (Y:lj ⟨b,y.p⟩=⟨b',y.p⟩) (bc:lj ⟨{ y.e with bz:=[],got:=[] },y.p⟩=⟨a',y.p⟩) (kQ:¬a'.ph=8/\¬b'.ph=8) (aO:a'.bz=[]/\b'.bz=[]) (hg:a'.got=[]/\b'.got=[]) :
  jV (eQ i a b p [(1-dn (!i),(c:Int),dO x,())] o eN lb)=eQ i a' b' y.p (y.e.bz.map (jE i)) (o++y.e.bz.map (jE i)) (eN++y.e.got) lb:=by
 rw[<- y5,Vu (i:=!i) aM ah cy hx bs Gl Y bc kQ.symm aO.symm hg.symm,y5,Bool.not_not]
def q8(key:aa)(e5 i:Bool):dw:=h9 (h9 (h9 (h9 (e5,[],false,()) (hs key) (cn (rg i key))) (hs key) (cn (tF (!i) key))) (fM key) (cn (vh i key))) (fM key) (cn (vg (!i) key))
def rD(i:Bool)(c:Nat)(k:aa)(v:dr):dX:=(1-dn i,(c:Int),dO (iH k v),())
def q3(key:aa)(i:Bool)(c:Nat):List dX:=[rD i c (hs key) (rg i key),rD (!i) c (hs key) (tF (!i) key),rD i c (fM key) (vh i key),rD (!i) c (fM key) (vg (!i) key)]
def lV(c:Nat):ef:=(ee (ee (hP c)).1).1
def LY(h:c<4):m4 c (lV c):=(Ib (Ib (Tr h).1).2.2).2.2
def auJ(key:aa)(e5 i:Bool):(q8 key e5 i).1=e5/\(q8 key e5 i).2.2.1=false:=by
 have rU:∀(p:dw) (k b:aa),(h9 p k b).1=p.1/\(h9 p k b).2.2.1=p.2.2.1:=by intro p k b;unfold h9;split<;>exact⟨rfl,rfl⟩
 refine⟨?_,?_⟩<;>simp only[q8,rU]
def atp(key:aa)(e5 i:Bool)(h:c<4):
  hB (hY key e5) [(12,0,(c:Int),0,[],()),(1,dn i,0,0,[],()),(17,0,4,0,[],())]=(eQ i (dh i key 2 (lV c)) (dh (!i) key 0 (lV c)) (q8 key e5 i) [] (q3 key i c) hM hM,[0,0,0]):=by
 have aM:=(Tr h).1;have O:=(Ib aM).2.2;have R:=(Ib O).2.2

 have ax:∀p,eX (eQ i (gv i key (hP c)) (gv (!i) key (hP c)) p [] [] [] []) (1,dn i,0,0,[],())=(eQ i (hu i key 8 (ee (hP c)).1) (gv (!i) key (hP c)) (h9 p (hs key) (cn (rg i key))) [(1-dn i,(c:Int),dO (iH (hs key) (rg i key)),())] [(1-dn i,(c:Int),dO (iH (hs key) (rg i key)),())] [] [],0):=by
  intro p;have eM:eX (eQ i (gv i key (hP c)) (gv (!i) key (hP c)) p [] [] [] []) (1,dn i,0,0,[],())=sB (eQ i (gv i key (hP c)) (gv (!i) key (hP c)) p [] [] [] []) (1,dn i,0,0,[],()):=rfl;rw[eM];unfold sB;rw[if_neg (by cases i<;>decide)];have bd:lE (dn i)=i:=by cases i<;>rfl
  dsimp only;rw[bd,Kg];have ed:sI ⟨gv i key (hP c),p⟩ (1,dn i,0,0,[],())=r5 ⟨gv i key (hP c),p⟩:=rfl;rw[ed,auy i key aM p,Gd _ _ _ _ _ _ _ _ (by show ¬(1:Int)=8;decide)];rfl
 have cT:=λ(v:dr) (k:aa) (aD:lq v.2.2.2.2.2.1)=>RY (k:=k) aD;show((k2 4 (eX (eX (hY key e5) (12,0,(c:Int),0,[],())).1 (1,dn i,0,0,[],())).1),[(eX (hY key e5) (12,0,(c:Int),0,[],())).2,(eX (eX (hY key e5) (12,0,(c:Int),0,[],())).1 (1,dn i,0,0,[],())).2,0])=_;rw[ato key e5 i h,ax];refine J1 ?_ rfl;show jV (jV (jV (jV _)))=_;rw[Vu (y:=_) (a':=hu i key 7 (ee (hP c)).1) (b':=gF (!i) key (ee (hP c)).1) aM rfl (by show ¬(0:Int)=8;decide) (cT _ _ (pN yx)) (aql i key aM (ED _ _ _)) (by show ¬(2:Int)=8;decide) (ayd i key 8 bN _ _) (ahG (!i) key _ _) ⟨by show ¬(1:Int)=8;decide,by show ¬(2:Int)=8;decide⟩ ⟨rfl,rfl⟩ ⟨rfl,rfl⟩];show jV (jV (jV (eQ i (hu i key 7 (ee (hP c)).1) (gF (!i) key (ee (hP c)).1) _ [(1-dn (!i),(c:Int),dO (iH (hs key) (tF (!i) key)),())] _ [] [])))=_;rw[afJ (y:=_) (a':=hK i key 7 (ee (ee (hP c)).1).1) (b':=gF (!i) key (ee (hP c)).1) O rfl (by show ¬(1:Int)=8;decide) (cT _ _ (pN J_)) (aqh i key 7 O (ED _ _ _)) (by show ¬(3:Int)=8;decide) (ahG (!i) key _ _) (ahF i key 8 bN _ _) ⟨by show ¬(3:Int)=8;decide,by show ¬(2:Int)=8;decide⟩ ⟨rfl,rfl⟩ ⟨rfl,rfl⟩];show jV (jV (eQ i (hK i key 7 (ee (ee (hP c)).1).1) (gF (!i) key (ee (hP c)).1) _ [(1-dn i,(c:Int),dO (iH (fM key) (vh i key)),())] _ hM []))=_;rw[Vu (y:=_) (a':=hK i key 6 (ee (ee (hP c)).1).1) (b':=dh (!i) key 0 (ee (ee (hP c)).1).1) O rfl (by show ¬(2:Int)=8;decide) (cT _ _ (pN xJ)) (aqk i key O (ED _ _ _)) (by show ¬(3:Int)=8;decide) (ahF i key 7 bN _ _) (Wr (!i) key 0 _ _) ⟨by show ¬(3:Int)=8;decide,by show ¬(3:Int)=8;decide⟩ ⟨rfl,rfl⟩ ⟨rfl,rfl⟩];show jV (eQ i (hK i key 6 (ee (ee (hP c)).1).1) (dh (!i) key 0 (ee (ee (hP c)).1).1) _ [(1-dn (!i),(c:Int),dO (iH (fM key) (vg (!i) key)),())] _ hM hM)=_;rw[afJ (y:=_) (a':=dh i key 2 (ee (ee (hP c)).1).1) (b':=dh (!i) key 0 (ee (ee (hP c)).1).1) R rfl (by show ¬(3:Int)=8;decide) (cT _ _ (pN Kh)) (aqi i key 6 (ED _ _ _)) (by show ¬(3:Int)=8;decide) (Wr (!i) key 0 _ _) (Wr i key 2 _ _) ⟨by show ¬(3:Int)=8;decide,by show ¬(3:Int)=8;decide⟩ ⟨rfl,rfl⟩ ⟨rfl,rfl⟩];rfl
def xL(i:Bool)(key:aa)(bR:Int)(h:ef):c_:={ dh i key bR h with seq:=2 }
def nL:gS:=(j_ k0 1).1
def FY(i:Bool)(key:aa)(bR:Int)(h:ef):c_:={ dh i key bR h with win:=nL }
def iN(i:Bool)(key:aa)(B:aa):dr:=gq (dh i key 0 dv) B
theorem azg:k0.1=1:=rfl
theorem Ud:(j_ k0 1).2=0:=rfl
def ah7(i:Bool)(key:aa){B:aa}(aB:lq B):lZ (iN i key B):=H9 (q:=1) (g:=1) (.inr rfl) (mT (e:=dh i key 0 dv) (kL i) rfl rfl) uR uR rfl uR (kL i) rfl bN aB
def axZ(i:Bool)(key:aa)(bR:Int){h:ef}(aM:m4 c h)(p:dw){b B:aa}(ae:mY b 0=(B,0))(aB:lq B):
  tw ⟨dh i key bR h,p⟩ b=(⟨{ xL i key bR (ee h).1 with bz:=[((c:Int),dO (iH (fM key) (iN i key B)),())],got:=[(1,[1,1],0,B,())] },h9 p (fM key) (cn (iN i key B))⟩,0):=by
 have hp:fX (u1 ⟨dh i key bR h,p⟩ [B]).e=[1,1]:=mT (kL i) rfl rfl;unfold tw;rw[show(⟨dh i key bR h,p⟩:aH).e.day=0 from rfl,ae];refine(if_neg (not_not_intro rfl)).trans ((if_neg (not_not_intro (show nh 3 from .inl rfl))).trans ((if_neg (not_not_intro rfl)).trans ?_));refine J1 ?_ rfl;show mV (ug (u1 ⟨dh i key bR h,p⟩ [B]) 1 0 B)=_;have e:ug (u1 ⟨dh i key bR h,p⟩ [B]) 1 0 B=⟨{ dh i key bR h with queue:=[B],got:=[(1,[1,1],0,B,())] },p⟩:=by unfold ug;rw[hp];rfl
 rw[e];have Dc:=VD (s:=⟨{ dh i key bR h with queue:=[B],got:=[(1,[1,1],0,B,())] },p⟩) aM ⟨by show(2:Int)<=3;decide,by show(3:Int)<=6;decide⟩ (by show ¬(1:Int)=4611686018427387904;decide) aB;unfold mV;show te 1 _=_;unfold te;show(if(gp ⟨{ dh i key bR h with queue:=[B],got:=[(1,[1,1],0,B,())] },p⟩ B).2=0 then te 0 (u1 (gp ⟨{ dh i key bR h with queue:=[B],got:=[(1,[1,1],0,B,())] },p⟩ B).1 []) else _)=_;rw[Dc];exact(if_pos rfl).trans rfl
def aqm(i:Bool)(key:aa)(bR:Int){h:ef}{p:dw}{B:aa}(aB:lq B)(hg:R_ B)(hm:(fM key,cn (iN i key B),())∈p.2.1):
  iG ⟨dh (!i) key bR h,p⟩ (iH (fM key) (iN i key B))=⟨{ FY (!i) key bR h with got:=[(2,[1,1],1,B,())] },p⟩:=by
 have ht:=Oo (s:=⟨dh (!i) key bR h,p⟩) (a:=dh i key 0 dv) (b:=B) (by cases i<;>rfl) ((mT (kL i) rfl rfl).trans (mT (e:=dh (!i) key bR h) (kL (!i)) rfl rfl).symm) ⟨by show(2:Int)<=3;decide,by show(3:Int)<=6;decide⟩ (Lf key) (ah7 i key aB) hm Ud;rw[show iH (fM key) (iN i key B)=cn (gq (dh i key 0 dv) B)++iC (dh i key 0 dv).ring.1.2.1 (cn (gq (dh i key 0 dv) B)) from rfl,CP ht];generalize iC (dh i key 0 dv).ring.1.2.1 (cn (gq (dh i key 0 dv) B))=t;rw[show pc (⟨dh (!i) key bR h,p⟩:aH).e (dh i key 0 dv).ring.1.1=jU key from LE rfl];obtain⟨bj,bm,cW,fU⟩:=hg;have aI:mD ⟨{ dh (!i) key bR h with win:=nL,ring:=jU key },p⟩ (iO (gq (dh i key 0 dv) B) t)=⟨{ FY (!i) key bR h with got:=[(2,[1,1],1,B,())] },p⟩:=by unfold mD;refine(if_pos rfl).trans ((if_neg bj).trans ((if_pos bm).trans ?_));rw[show pV ⟨{ dh (!i) key bR h with win:=nL,ring:=jU key },p⟩=⟨{ dh (!i) key bR h with win:=nL,ring:=jU key },p⟩ from if_neg (show ¬(3:Int)=2 by decide)];unfold yV;refine(if_neg (not_not_intro cW)).trans ((if_pos (show nh 3 from .inl rfl)).trans ?_);rw[if_neg (show ¬sG (e9 (iO (gq (dh i key 0 dv) B) t).2.2.2.2.2.1).1 from fU)];unfold ug;rw[show fX (⟨{ dh (!i) key bR h with win:=nL,ring:=jU key },p⟩:aH).e=[1,1] from mT (kL (!i)) rfl rfl];rfl
 refine(congrArg mV aI).trans (D0 rfl)
def Xz(key:aa){bR Oj:Int}{bc Y:ef}(aM:m4 c bc)(p:dw)(o:List dX)(eN lb:List jr){b B:aa}(ae:mY b 0=(B,0))(aB:lq B)(x:Int):
  eX (eQ i (dh i key bR bc) (dh (!i) key Oj Y) p [] o eN lb) (0,dn i,x,0,b,())=(eQ i (xL i key bR (ee bc).1) (dh (!i) key Oj Y) (h9 p (fM key) (cn (iN i key B))) [rD i c (fM key) (iN i key B)] (o++[rD i c (fM key) (iN i key B)]) (eN++[(1,[1,1],0,B,())]) lb,0):=by
 have eM:eX (eQ i (dh i key bR bc) (dh (!i) key Oj Y) p [] o eN lb) (0,dn i,x,0,b,())=sB (eQ i (dh i key bR bc) (dh (!i) key Oj Y) p [] o eN lb) (0,dn i,x,0,b,()):=rfl;rw[eM];unfold sB;refine(if_neg (not_not_intro (show 0<=dn i/\dn i<2 by cases i<;>decide))).trans ?_;have bd:lE (dn i)=i:=by cases i<;>rfl
 dsimp only;rw[bd,Kg];have ed:sI ⟨dh i key bR bc,p⟩ (0,dn i,x,0,b,())=tw ⟨dh i key bR bc,p⟩ b:=rfl;rw[ed,axZ i key bR aM p ae aB,Gd _ _ _ _ _ _ _ _ (by show ¬(3:Int)=8;decide)];rfl
def axE:Of ()=some (DG,()):=by unfold Of;rw[VQ _ bN];rfl
def anu(i:Bool){key:aa}(ap:key.length=32):F0 (dn i,key,())=some ((sM i key).t,0,()):=by
 have h:(T (aF (dn i) 0) (some (true,())) (T (aF 1 (dn i)) (some (true,())) (some (aZ (af (len key) 32),()))):Option (Bool×Unit))=some (false,()):=by have Y:aZ (af (len key) 32)=false:=i_ (by show(key.length:Int)=32;omega);rw[Y];cases i<;>rfl
 refine aL h (a0 rfl ((cE axE).trans ?_));rfl
def ant(i:Bool){key:aa}(ap:¬key.length=32):∃e,F0 (dn i,key,())=some (e,1,()):=by
 have h:(T (aF (dn i) 0) (some (true,())) (T (aF 1 (dn i)) (some (true,())) (some (aZ (af (len key) 32),()))):Option (Bool×Unit))=some (true,()):=by have Y:aZ (af (len key) 32)=true:=lO (by show ¬(key.length:Int)=32;omega);rw[Y];cases i<;>rfl
 exact⟨_,aL h (b4 rfl)⟩
def OO{key:aa}(ap:key.length=32)(e5:Bool):tI (key,e5,())=some ((hY key e5).t,0,()):=by
 unfold tI;generalize hg:(λ(V:Int×Int×dg×Unit)=>(_:Option (aE (Int×Int×dg×Unit) (dg×Int×Unit))))=F;have bR:∀(i:Bool) (e:Int) (W:dg),F (e,dn i,W,())=some (.nx (e,dn i+1,(cg W.1 (ab (dn i)) (sM i key).t,W.2),())):=by intro i e W;subst hg;refine a? (di (MI i).2) (aL (anu i ap) (a0 rfl (a6 (wg i) ?_)));cases i<;>rfl
 have e0:∀(e:Int) (W:dg),F (e,2,W,())=some (.ex 0 (e,2,W,())):=λe W=>by subst hg;exact bU rfl
 refine(cO ((eE (bR false 0 _)).trans ((eE (bR true 0 _)).trans (dT (e0 _ _))))).trans (lc_ex'.trans (a6 g62 ?_));rfl
def ayW{key:aa}(ap:¬key.length=32)(e5:Bool):∃W,tI (key,e5,())=some (W,1,()):=by
 unfold tI;dsimp only;generalize hg:(λ(V:Int×Int×dg×Unit)=>(_:Option (aE (Int×Int×dg×Unit) (dg×Int×Unit))))=F;obtain⟨e,az⟩:=ant false ap;have bR:∀(z:Int) (W:dg),∃bT,F (z,0,W,())=some (.rt (bT,1,())):=by intro z W;subst hg;exact⟨_,a? rfl (aL (show F0 (0,key,())=_ from az) (b4 rfl))⟩
 obtain⟨bT,hV⟩:=bR 0 _;exact⟨bT,(cO (n8 hV)).trans rfl⟩
def Az:M:=(200,[],())
def m':aa:=f7 Az
def ym:M:=sb Az 0
def h2:aa:=f7 ym
def Mo:h_ Az=true:=bN
def Ua:h_ ym=true:=ahi Mo 0
def aeX:Hy (200,())=some (m',()):=by unfold Hy;rw[show D9 ((200,aP bT,()),())=D9 (Az,()) from rfl,av7 _ (Eb Mo).2];rfl
def Ck:lq h2:=by
 refine⟨?_,?_⟩
 .unfold h2 f7
  rw[db,db,o']
  grind
 have:=WX Ua;have h:(ym.2.1.map (λv=>v.2.1.length+2)).sum=8:=by rfl
 show(f7 ym).length<=900;omega
def P2:m'.length<=1200:=by have:=WX Mo;have h:(Az.2.1.map (λv=>v.2.1.length+2)).sum=0:=rfl;show(f7 Az).length<=1200;omega
def azm:e9 m'=(Az,0,()):=Ih Mo
def P1:e9 h2=(ym,0,()):=Ih Ua
theorem ahj:mY m' 0=(h2,0):=rfl
def ajG:ky h2=(uQ,2,()):=avM Ua λn am h=>by
 have O:=congrArg (λm:M=>m.1) h;unfold jD at O;split at O
 .exact absurd O (show ¬(810:Int)=200 by decide)
 split at O
 .exact absurd O (show ¬(800:Int)=200 by decide)
 split at O<;>exact absurd O (show ¬(800:Int)=200 by decide)
def XR:R_ h2:=by
 refine⟨?_,?_,?_,?_⟩
 .rw[ajG];show ¬(2:Int)=0;decide
 .rw[P1]
 .rw[P1];show vf 200;decide
 rw[P1];rintro⟨h,_⟩;have:rC ym.1=0:=by show rC 200=0;decide
 rcases h with h|h
 .have bB:rC ym.1=1:=h
  rw[this]at bB;exact absurd bB bN
 have bB:rC ym.1=3:=h;rw[this]at bB;exact absurd bB bN
def aaM(l:List dX)(hl:l.length<=1500000000000):A4 (l,l,())=some (true,()):=by
 unfold A4;generalize hg:(λ(V:Bool×Int×Unit)=>(_:Option (aE (Bool×Int×Unit) (Bool×Unit))))=F;refine a0 (i_ rfl) ?_;have key:∀(r:List dX) (i:Nat),l.drop i=r->i<=l.length->∃j:Int,bC F (false,(i:Int),())=some (.ex 0 (false,j,())):=by
  intro r;induction r with
  |nil =>intro i aI ac;have b9:=congrArg List.length aI;rw[ep,gu]at b9;refine⟨(i:Int),dT ?_⟩;subst hg;exact bU (cP (by show ¬(i:Int)<(l.length:Int);omega))
  |cons x r ih=>
   intro i aI ac;have b9:=congrArg List.length aI;rw[ep,fQ]at b9;have bi:i<l.length:=J;have hx:l[i]=x/\l.drop (i+1)=r:=by
    rw[l_ bi]at aI
    grind
   have eH:i64 (aC (i:Int) 1)=((i+1:Nat):Int):=fL rfl J;have ah:aK (i:Int) (len l)=true:=cp;obtain⟨j,ao⟩:=ih (i+1) hx.2 J;refine⟨j,tQ (eE ?_) ao⟩;subst hg;refine a? (di (by show(i:Int)<(l.length:Int);omega)) (a6 ah (a6 ah ?_));rw[eH];refine aL (a:=(false,())) ?_ (bU rfl);refine a0 (i_ rfl) (a6 ah (a6 ah (a0 (i_ rfl) (a6 ah (a6 ah ?_)))));rw[wN];rw[IG rfl];rfl
 obtain⟨j,ao⟩:=key l 0 rfl (eS _);exact(cO (ao)).trans (lc_ex'.trans (eG g62))
def Pt{w:bO}(h:g2 w):D' (w.t,w.t,())=some (true,()):=by
 have dJ:Nn (w.t,w.t,())=some (true,()):=by
  unfold Nn;dsimp only;generalize hg:(λ(V:Bool×Int×Unit)=>(_:Option (aE (Bool×Int×Unit) (Bool×Unit))))=F;have bR:∀i:Bool,F (false,dn i,())=some (.nx (false,dn i+1,())):=by
   intro i;have ae:=aw3 (h.s i).e J;have az:=aal (w.eJ i) (by have:=h.eJ i;omega);have e1:an w.t.1 (ab (dn i)) kD=(w.e i).t:=by cases i<;>rfl
   have aT:an w.t.2.2.2.2.1 (ab (dn i)) (aP jr)=w.eJ i:=by cases i<;>rfl
   subst hg;refine a? (di (MI i).2) (a6 (wg i) (a6 (wg i) ?_));dsimp only;rw[e1,aT];refine aL ae (a6 (wg i) (a6 (wg i) (aL az ?_)));cases i<;>rfl
  have e0:F (false,2,())=some (.ex 0 (false,2,())):=by subst hg;exact bU rfl
  refine(cO ((eE (bR false)).trans ((eE (bR true)).trans (dT e0)))).trans (lc_ex'.trans (a6 g62 ?_));refine aL (show A4 (w.a8,w.a8,())=_ from aaM w.a8 (by have:=h.a8;omega)) ?_;refine aL (a:=(true,())) (a? rfl ?_) rfl;exact(cE (show A4 (w.old,w.old,())=_ from aaM w.old (by have:=h.old;omega))).trans rfl
 unfold D';dsimp only;refine aL dJ (aL (a:=(true,())) (a? rfl ?_) rfl);exact(cE (show Ii (w.p,w.p,())=_ from avZ w.p (by have bh:=h.z;unfold eA at bh;omega))).trans rfl
def at5(i:Bool){key:aa}(ap:key.length<=1000):r3 0 (sM i key) where
 id:=by cases i;exact .inl rfl;exact .inr rfl
 key:=ap
 ph:=⟨by show(0:Int)<=0;decide,by show(0:Int)<=8;decide⟩
 store:=⟨M8 1,qv⟩
 own:=yq
 oth:=yq
 seq:=yq
 ring:=.inl rfl
 up:=rfl
 next:=⟨by show(0:Int)<=0;decide,by show(0:Int)<4;decide⟩
 bz:=bX _
 got:=bX _
 cS:=rfl
 win:=rfl
 feed:=rfl
 life:=rfl
 queue:=by show([]:List aa).length<=8;simp
 top:=⟨by show(0:Int)<=0;decide,by show(0:Int)<=4611686018427387905;decide⟩
 fd:=acv
 askr:=.inl rfl
 outs:=λx hx=>by cases hx
def auw{key:aa}(ap:key.length<=1000)(e5:Bool):hk (hY key e5):=
 ⟨λi=>⟨0,at5 i ap,bX _⟩,λ_=>rfl,λ_=>rfl,λf hf=>(by cases hf),λf hf=>(by cases hf)⟩
def Jz{key:aa}(ap:key.length<=1000)(e5:Bool):ia 0 0 (hY key e5):=by
 refine⟨auw ap e5,?_,?_⟩
 .have:ir (hY key e5)=0:=rfl
  omega
 have:eA (hY key e5)=0:=rfl;omega
def ia.xQ{w:bO}(h:ia a r w)(bc:a<=41)(aj:r<=66):y' w:=by
 have Y:=h.mono bc aj;have O:=Y.DL;have R:ir w<=430000000000:=by have hL:=Y.L;omega
 exact⟨h.ok,J⟩
def xw(l:List ge):Prop:=∀a∈l,a.2.2.2.2.1.length<=1200
def oa(a:ge):Nat:=if a.1=17 then(min a.2.2.1 100).toNat else 0
def nw:List ge->Nat
 |[]=>0
 |a::l=>oa a+nw l
def axU{w:bO}{a:ge}(h:a.1=17):(eX w a).1=k2 (oa a) w:=by
 unfold eX oa;rw[if_neg J,if_neg J,if_neg J,if_neg J,if_neg J,if_neg J,if_neg J,if_pos h];split
 .have:(min a.2.2.1 100).toNat=0:=J
  rw[this];rfl
 rfl
def P5{w:bO}(h:ia a r w){x:ge}(Y:x.2.2.2.2.1.length<=1200):ia (a+1) (r+oa x) (eX w x).1:=by
 by_cases mI:x.1=17
 .rw[axU mI]
  exact(h.t_ (oa x)).mono (vq a) (bX _)
 have:oa x=0:=if_neg mI;rw[this];exact h.ai7 (axG h.ok x Y mI)
def aar{w:bO}(h:ia a r w)(bc:a<=41){x:ge}(aj:r+oa x<=66)(Y:x.2.2.2.2.1.length<=1200):JD w x:=by refine⟨(h.xQ bc J).mE,J,λmI j ao => ?_⟩;have:oa x=(min x.2.2.1 100).toNat:=if_pos mI;exact(h.t_ j).xQ bc J
def vR:∀(l:List ge) {a r:Nat} {w:bO},ia a r w->a+l.length<=41->r+nw l<=66->xw l->EZ w l/\ia (a+l.length) (r+nw l) (hB w l).1
 |[],a,r,w,h,_,_,_=>⟨trivial,h⟩
 |x::l,a,r,w,h,bc,aj,Y=>by
  rw[fQ]at bc;have fI:r+(oa x+nw l)<=66:=aj;have zZ:=Y x (BV ..);obtain⟨bD,b1⟩:=vR l (P5 h zZ) J J (λy bs=>Y y (vv _ bs));refine⟨⟨aar h J J zZ,bD⟩,?_⟩;show ia (a+(l.length+1)) (r+(oa x+nw l)) (hB (eX w x).1 l).1
  grind
def NH:∀(l m:List ge) (w:bO),hB w (l++m)=((hB (hB w l).1 m).1,(hB w l).2++(hB (hB w l).1 m).2)
 |[],m,w=>rfl
 |a::l,m,w=>by show((hB (eX w a).1 (l++m)).1,(eX w a).2::(hB (eX w a).1 (l++m)).2)=_;rw[NH l m];rfl
def vE(c:Nat)(i:Bool):List ge:=[(12,0,(c:Int),0,[],()),(1,dn i,0,0,[],()),(17,0,4,0,[],())]
def rX(key:aa)(e5 i:Bool)(c:Nat):bO:=eQ i (dh i key 2 (lV c)) (dh (!i) key 0 (lV c)) (q8 key e5 i) [] (q3 key i c) hM hM
def Qg(c:Nat)(i:Bool):xw (vE c i):=by
 intro a bc;simp only[vE,hc,zb,or_false]at bc
 grind
def NF{key:aa}(ap:key.length=32)(e5 i:Bool)(h:c<4):EZ (hY key e5) (vE c i)/\ia 3 4 (rX key e5 i c)/\hB (hY key e5) (vE c i)=(rX key e5 i c,[0,0,0]):=by obtain⟨O,R⟩:=vR (vE c i) (Jz (show key.length<=1000 by omega) e5) (show 0+3<=41 by omega) (show 0+(0+(0+(4+0)))<=66 by omega) (Qg c i);have hm:hB (hY key e5) (vE c i)=(rX key e5 i c,[0,0,0]):=atp key e5 i h;rw[hm]at R;exact⟨O,R,hm⟩
def awM{key:aa}(ap:key.length=32)(e5 i:Bool)(h:c<4):my ((hY key e5).t,vE c i,())=some ((rX key e5 i c).t,[0,0,0],()):=by obtain⟨O,_,ai⟩:=NF ap e5 i h;rw[xo O (show 3<=1000000 by omega),ai]
def cI:aa:=List.replicate 32 (u8 0)
def vD:cI.length=32:=qv
def lC:bO:=eQ true (xL true cI 0 (ee (lV 0)).1) (dh false cI 2 (lV 0)) (h9 (q8 cI true false) (fM cI) (cn (iN true cI h2))) [rD true 0 (fM cI) (iN true cI h2)] (q3 cI false 0++[rD true 0 (fM cI) (iN true cI h2)]) (hM++[(1,[1,1],0,h2,())]) hM
def atq:rX cI true false 0=eQ true (dh true cI 0 (lV 0)) (dh false cI 2 (lV 0)) (q8 cI true false) [] (q3 cI false 0) hM hM:=(y5 false _ _ _ _ _ _ _).symm
def ag8:eX (rX cI true false 0) (0,1,0,0,m',())=(lC,0):=by rw[atq];exact Xz (i:=true) cI (LY J) (q8 cI true false) (q3 cI false 0) hM hM ahj Ck 0
def axJ:JD (rX cI true false 0) (0,1,0,0,m',())/\ia 4 4 lC:=by obtain⟨_,R,_⟩:=NF vD true false (c:=0) J;have Y:((0,1,0,0,m',()):ge).2.2.2.2.1.length<=1200:=P2;refine⟨aar R J (show 4+0<=66 by omega) Y,?_⟩;have:=P5 R Y;rw[ag8]at this;exact this
def Fs:List ge:=[(12,0,0,0,[],()),(1,0,0,0,[],()),(17,0,4,0,[],()),(0,1,0,0,m',())]
theorem XA:Fs=vE 0 false++[(0,1,0,0,m',())]:=rfl
def axL:my ((hY cI true).t,Fs,())=some (lC.t,[0,0,0,0],()):=by
 obtain⟨O,R,ai⟩:=NF vD true false (c:=0) J;have Y:((0,1,0,0,m',()):ge).2.2.2.2.1.length<=1200:=P2;have uu:xw Fs:=by
  intro a bc;rw[XA]at bc;rcases iQ.1 bc with bc|bc
  .exact Qg 0 false a bc
  rw[qw]at bc;rw[bc];exact Y
 obtain⟨bD,_⟩:=vR Fs (Jz (show cI.length<=1000 by rw[vD];omega) true) (show 0+4<=41 by omega) (show 0+(0+(0+(4+(0+0))))<=66 by omega) uu;rw[xo bD (show 4<=1000000 by omega),XA,NH,ai];show some ((eX (rX cI true false 0) (0,1,0,0,m',())).1.t,[0,0,0]++[(eX (rX cI true false 0) (0,1,0,0,m',())).2],())=_;rw[ag8];rfl
def axK:(j5 lC 0 0).1=eQ true (xL true cI 0 (ee (lV 0)).1) (FY false cI 2 (lV 0)) (h9 (q8 cI true false) (fM cI) (cn (iN true cI h2))) [] (q3 cI false 0++[rD true 0 (fM cI) (iN true cI h2)]) (hM++[(1,[1,1],0,h2,())]) (hM++[(2,[1,1],1,h2,())]):=by
 have aI:=ZW true (xL true cI 0 (ee (lV 0)).1) (dh false cI 2 (lV 0)) (h9 (q8 cI true false) (fM cI) (cn (iN true cI h2))) (q3 cI false 0++[rD true 0 (fM cI) (iN true cI h2)]) (hM++[(1,[1,1],0,h2,())]) hM (c:=0) (x:=iH (fM cI) (iN true cI h2))
  (LY J) rfl (by show ¬(3:Int)=8;decide) (RY (k:=fM cI) (v:=iN true cI h2) Ck).1 (RY (k:=fM cI) (v:=iN true cI h2) Ck).2
  (aqm true cI 2 Ck XR (ED _ _ _)) (by show ¬(3:Int)=8;decide)
 unfold nc at aI;rw[if_neg (by intro h;cases h)]at aI;refine tQ (tQ ?_ aI) ?_
 .rfl
 show eQ true _ _ _ ([]:List dX) ((q3 cI false 0++[rD true 0 (fM cI) (iN true cI h2)])++[]) _ _=_;rw[iE];rfl
def VJ:Ds ()=some (true,()):=by
 unfold Ds;obtain⟨bT,hV⟩:=ayW (key:=[]) bf true;obtain⟨_,zW⟩:=axJ;have SP:=(zW.xQ J J).mE;refine a6 rfl (aL (show tI (bM (ab 32) (u8 0),true,())=_ from OO vD true) (aL hV (aL aeX ?_)));dsimp only;refine aL (show my ((hY cI true).t,Fs,())=_ from axL) ?_;dsimp only;have afY:vi (lC.t,(7,0,0,0,aP UInt8,()),())=some ((j5 lC 0 0).1.t,(j5 lC 0 0).2,()):=JV (a:=(7,0,0,0,[],())) ⟨SP,bf,λh=>by cases h⟩;have afZ:vi (lC.t,(8,0,0,0,aP UInt8,()),())=some ((sJ lC 0).1.t,(sJ lC 0).2,()):=JV (a:=(8,0,0,0,[],())) ⟨SP,bf,λh=>by cases h⟩;have f?:sJ lC 0=({ lC with a8:=[] },0):=rfl;have GM:(j5 lC 0 0).2=0:=rfl;have p0:g2 { lC with a8:=[] }:=RG SP (λf hf=>by cases hf) (eS _);have af0:vi ((({ lC with a8:=[] }:bO).t),(8,0,0,0,aP UInt8,()),())=some ((sJ { lC with a8:=[] } 0).1.t,(sJ { lC with a8:=[] } 0).2,()):=JV (a:=(8,0,0,0,[],())) ⟨p0,bf,λh=>by cases h⟩;have aqc:sJ ({ lC with a8:=[] }:bO) 0=({ lC with a8:=[] },12):=rfl;rw[f?]at afZ;rw[aqc]at af0;rw[GM,axK]at afY;refine aL afY (aL afZ (aL af0 ?_));dsimp only;refine aL (a:=(false,())) ?_ (a0 rfl ?_)
 .exact a0 rfl (a0 rfl (a6 rfl rfl))
 have ah:sk ((({ lC with a8:=[] }:bO).t),0,())=some (({ lC with a8:=[] }:bO).t,()):=EX (w:={ lC with a8:=[] }) 0 (λj ao=>J) J;refine aL (a:=(true,())) ?_ rfl;refine a? rfl (a? rfl (a6 rfl (a? rfl (a6 rfl (a? rfl (a6 rfl (a? rfl (a6 rfl (a? rfl ?_)))))))));refine a? rfl (a? rfl (a6 rfl (a6 rfl (a? rfl (a? rfl (a? rfl (a? rfl ?_)))))));exact aL ah ((cE (Pt p0)).trans rfl)
def ady(c:UInt8):ej (i64 (aN c)) 4=((c.toNat%4:Nat):Int):=by have ah:=c.toNat_lt;rw[show i64 (aN c)=(c.toNat:Int) from hw (by rw[xU];omega) (by rw[xU];omega),g32 J];omega
def WorldMeets'(key:aa)(i:Bool)(c:UInt8)(ap:key.length=32):TX (key,i,c,())=some (true,()):=by
 refine(cE VJ).trans ((d9 rfl).trans ((eG rfl).trans ?_));have ap6:cut key (ab 0) (ce (ab (bb 32)) (ab 0))=key:=by
  show(List.drop 0 key).take 32=key
  grind
 rw[ap6,ady];have Tn:(T i (some ((1:Int),())) (some (0,())):Option (Int×Unit))=some (dn i,()):=by cases i<;>rfl
 refine(cE (OO ap true)).trans ((d9 rfl).trans ((cE Tn).trans ((d9 rfl).trans ((cE (awM ap true i (sx _ J))).trans ((d9 rfl).trans ?_)))));refine(d9 (a:=(false,())) ((bU rfl).trans rfl)).trans ((bU rfl).trans ((eG rfl).trans ((eG rfl).trans ?_)));refine(d9 (a:=(true,())) ?_).trans rfl;cases i
 .refine(b4 rfl).trans ((b4 rfl).trans ((b4 rfl).trans ((cE (show A3 ((dh false key 2 (lV (UInt8.toNat c%4))).t,())=some ([1,1],()) from(afu (dh false key 2 (lV (UInt8.toNat c%4)))).trans rfl)).trans ((d9 rfl).trans ((b4 rfl).trans ?_)))))
  exact(cE (Vk (jU key))).trans ((d9 rfl).trans rfl)
 refine(b4 rfl).trans ((b4 rfl).trans ((b4 rfl).trans ((cE (show A3 ((dh false key 0 (lV (UInt8.toNat c%4))).t,())=some ([1,1],()) from(afu (dh false key 0 (lV (UInt8.toNat c%4)))).trans rfl)).trans ((d9 rfl).trans ((b4 rfl).trans ?_)))));exact(cE (Vk (jU key))).trans ((d9 rfl).trans rfl)
def ai2(x:h3 [.ar 32 (.int .u8),.bool,.int .u8])(h:DQ [.ar 32 (.int .u8),.bool,.int .u8] x):TX x=some (true,()):=WorldMeets' x.1 x.2.1 x.2.2.1 h.1.1
def aiV(l:List ge)(n:Nat)(am:n<=1000):∃b:Bool,Np (l,(n:Int),())=some (b,())/\(b=true->l.length<=n/\xw l/\nw l<=60):=by
 unfold Np;by_cases aq:(n:Int)<(l.length:Int)
 .exact⟨false,b4 (di aq),λh=>by cases h⟩
 generalize hg:(λ(V:Int×Bool×Int×Unit)=>(_:Option (aE (Int×Bool×Int×Unit) (Bool×Unit))))=F;have LO:l.length<=n:=J;have key:∀(r:List ge) (i c:Nat),l.drop i=r->i<=l.length->c<=6 ->
   bC F ((c:Int),false,(i:Int),())=some (.rt (false,()))\/∃z j:Int,bC F ((c:Int),false,(i:Int),())=some (.ex 0 (z,false,j,()))/\xw r/\nw r+10*c<=60:=by
  intro r;induction r with
  |nil =>intro i c aI ac ah;have b9:=congrArg List.length aI;rw[ep,gu]at b9;refine .inr ⟨(c:Int),(i:Int),dT ?_,λa bc=>(by cases bc),show 0+10*c<=60 by omega⟩;subst hg;exact bU (cP (by show ¬(i:Int)<(l.length:Int);omega))
  |cons x r ih=>
   intro i c aI ac ah;have b9:=congrArg List.length aI;rw[ep,fQ]at b9;have bi:i<l.length:=J;have hx:l[i]=x/\l.drop (i+1)=r:=by
    rw[l_ bi]at aI
    grind
   have eH:i64 (aC (i:Int) 1)=((i+1:Nat):Int):=fL (by show(i:Int)+1=_;omega) J;have mK:i64 (aC (c:Int) 1)=((c+1:Nat):Int):=fL (by show(c:Int)+1=_;omega) J;have fb:aK (i:Int) (len l)=true:=cp;have dp:F ((c:Int),false,(i:Int),())=(T (aF 1200 (len x.2.2.2.2.1)) (some (.rt (false,()))) (ob (T (af x.1 17) (some (((c+1:Nat):Int),())) (some ((c:Int),()))) λ(a:Int×Unit)=>
     ob (T (af x.1 17) (T (aF 10 x.2.2.1) (some (true,())) (some (aF 6 a.1,()))) (some (aF 6 a.1,()))) λ(ba:Bool×Unit)=>T ba.1 (some (.rt (false,()))) (some (.nx (a.1,false,((i+1:Nat):Int),()))))):=by
    subst hg;refine a? (di (by show(i:Int)<(l.length:Int);omega)) (a6 fb ?_);rw[g1,nth_get bi,hx.1,eH,mK,fb];rfl
   by_cases Y:1200<x.2.2.2.2.1.length
   .exact .inl (n8 (dp.trans (b4 (di (by show(1200:Int)<(x.2.2.2.2.1.length:Int);omega)))))
   replace dp:=dp.trans (bU (cP (by show ¬(1200:Int)<(x.2.2.2.2.1.length:Int);omega)));by_cases mI:x.1=17
   .replace dp:=dp.trans ((cE (b4 (cL mI))).trans (d9 rfl))
    by_cases pX:10<x.2.2.1
    .exact .inl (n8 (dp.trans (aL (a? (cL mI) (b4 (di pX))) (b4 rfl))))
    replace dp:=dp.trans ((cE (a? (cL mI) (bU (cP pX)))).trans (d9 rfl));by_cases cQ:6<((c+1:Nat):Int)
    .exact .inl (n8 (dp.trans (b4 (di cQ))))
    replace dp:=dp.trans (bU (cP cQ));rcases ih (i+1) (c+1) hx.2 J J with h|⟨z,j,O,R,ai⟩
    .exact .inl ((eE dp).trans h)
    refine .inr ⟨z,j,(eE dp).trans O,λa bc => ?_,?_⟩
    .rcases hc.1 bc with rfl|bc
     .omega
     exact R a bc
    have:oa x<=10:=by unfold oa;rw[if_pos mI];omega
    show oa x+nw r+10*c<=60;omega
   replace dp:=dp.trans ((cE (bU (cx mI))).trans (d9 rfl));have cQ:¬6<(c:Int):=J;replace dp:=dp.trans (aL (bU (cx mI)) (bU (cP cQ)));rcases ih (i+1) c hx.2 J ah with h|⟨z,j,O,R,ai⟩
   .exact .inl ((eE dp).trans h)
   refine .inr ⟨z,j,(eE dp).trans O,λa bc => ?_,?_⟩
   .rcases hc.1 bc with rfl|bc
    .omega
    exact R a bc
   have:oa x=0:=if_neg mI;show oa x+nw r+10*c<=60;omega
 rcases key l 0 0 rfl (eS _) (eS _) with h|⟨z,j,O,R,ai⟩
 .exact⟨false,a0 (cP aq) ((cO h).trans rfl),λh=>by cases h⟩
 exact⟨true,a0 (cP aq) ((cO O).trans (lc_ex'.trans (eG g62))),λ_=>⟨LO,R,J⟩⟩
def Pq(l:List Int)(hl:l.length<=1000000):D_ (l,())=some (l,()):=by
 unfold D_;generalize hg:(λ(V:List Int×Int×Unit)=>(_:Option (aE (List Int×Int×Unit) (List Int×Unit))))=F;have key:∀(r:List Int) (i:Nat) (e:List Int),l.drop i=r->i<=l.length->e.length=i->bC F (e,(i:Int),())=some (.ex 0 (e++r,(l.length:Int),())):=by
  intro r;induction r with
  |nil =>intro i e aI ac az;have b9:=congrArg List.length aI;rw[ep,gu]at b9;have:i=l.length:=J;subst this;rw[iE];refine dT ?_;subst hg;exact bU (cP (by show ¬(l.length:Int)<(l.length:Int);omega))
  |cons x r ih=>
   intro i e aI ac az;have b9:=congrArg List.length aI;rw[ep,fQ]at b9;have bi:i<l.length:=J;have hx:l[i]=x/\l.drop (i+1)=r:=by
    rw[l_ bi]at aI
    grind
   have eH:i64 (aC (i:Int) 1)=((i+1:Nat):Int):=fL (by show(i:Int)+1=_;omega) J;have:=ih (i+1) (e++[x]) hx.2 J (by rw[db,az];rfl);rw[h0]at this;refine tQ (eE ?_) this;subst hg;refine a? (di (by show(i:Int)<(l.length:Int);omega)) (a6 cp (a6 ?_ ?_))
   .rw[g21];refine cC ?_;show(e.length+1)*32<=_;omega
   dsimp only;rw[g1,nth_get bi,hx.1,eH];rfl
 exact(cO (key l 0 [] rfl (eS _) rfl)).trans (lc_ex'.trans (eG g62))
def aiS(l:List Int)(hl:l.length<=1000000):Na (l,l,())=some (true,()):=by
 unfold Na;generalize hg:(λ(V:Bool×Int×Unit)=>(_:Option (aE (Bool×Int×Unit) (Bool×Unit))))=F;refine a0 (i_ rfl) ?_;have key:∀(r:List Int) (i:Nat),l.drop i=r->i<=l.length->bC F (false,(i:Int),())=some (.ex 0 (false,(l.length:Int),())):=by
  intro r;induction r with
  |nil =>intro i aI ac;have b9:=congrArg List.length aI;rw[ep,gu]at b9;have:i=l.length:=J;subst this;refine dT ?_;subst hg;exact bU (cP (by show ¬(l.length:Int)<(l.length:Int);omega))
  |cons x r ih=>
   intro i aI ac;have b9:=congrArg List.length aI;rw[ep,fQ]at b9;have hx:l.drop (i+1)=r:=by
    rw[l_ J]at aI
    grind
   have eH:i64 (aC (i:Int) 1)=((i+1:Nat):Int):=fL rfl J;refine tQ (eE ?_) (ih (i+1) hx J);subst hg;refine a? (di (by show(i:Int)<(l.length:Int);omega)) (a6 cp (a6 cp (a0 (i_ rfl) ?_)));rw[eH]
 exact(cO (key l 0 rfl (eS _))).trans (lc_ex'.trans (eG g62))
def afr:∀(l m:List ge),nw (l++m)=nw l+nw m
 |[],m=>(js _).symm
 |a::l,m=>by show oa a+nw (l++m)=oa a+nw l+nw m;rw[afr l m,jJ]
def Zm:∀(j k:Nat) (w:bO),k2 k (k2 j w)=k2 (j+k) w
 |0,k,w=>by rw[js];rfl
 |j+1,k,w=>by rw[show j+1+k=(j+k)+1 by omega];exact Zm j k (jV w)
def Uj(c:UInt8)(hm:0<m):ej (i64 (aN c)) (m:Int)=((c.toNat%m:Nat):Int):=by have ah:=c.toNat_lt;rw[show i64 (aN c)=(c.toNat:Int) from hw (by rw[xU];omega) (by rw[xU];omega),g32 J,Int.natCast_emod]
def WorldParts'(l:List ge)(c n:UInt8):TZ (l,c,n,())=some (true,()):=by
 refine(cE VJ).trans ((d9 rfl).trans ?_);obtain⟨b,hL,Y⟩:=aiV l 30 J;refine(cE (hL)).trans ((d9 rfl).trans ?_);cases b with
 |false=>exact b4 rfl
 |true=>
  obtain⟨O,R,ai⟩:=Y rfl;refine(bU rfl).trans ((eG rfl).trans ((cE (OO vD true)).trans ((d9 rfl).trans ?_)));have e1:i64 (aC (len l) 1)=((l.length+1:Nat):Int):=fL (by show(l.length:Int)+1=_;omega) J;rw[e1,Uj c J];have ap:c.toNat%(l.length+1)<l.length+1:=sx _ J;generalize c.toNat%(l.length+1)=k at ap;have bh:cI.length<=1000:=by rw[vD];omega
  have aB:=Jz bh true;obtain⟨ek,e8⟩:=vR l aB J J R;have acb:l.take k++l.drop k=l:=vx k l;have hO:nw (l.take k)+nw (l.drop k)=nw l:=by rw[<- afr,acb]
  have ht:(l.take k).length=k:=by rw[ib];omega
  have aI:(l.drop k).length=l.length-k:=ep;obtain⟨dW,eF⟩:=vR (l.take k) aB J J (λa bc=>R a (List.mem_of_mem_take bc));obtain⟨oh,tD⟩:=vR (l.drop k) eF J J (λa bc=>R a (List.mem_of_mem_drop bc));have C3:=NH (l.take k) (l.drop k) (hY cI true);rw[acb]at C3;have bp:sub l 0 (k:Int)=l.take k:=by unfold sub;rw[iq];rfl
  have ax:sub l (k:Int) (len l)=l.drop k:=Ey l rfl;rw[bp,ax];refine(eG (by rw[cx J];rfl)).trans ((cE (xo ek J)).trans ((d9 rfl).trans ((eG cp).trans ((cE (xo dW J)).trans ((d9 rfl).trans ((eG cp).trans ((cE (xo oh J)).trans ((d9 rfl).trans ?_))))))));have bu:(hB (hB (hY cI true) (l.take k)).1 (l.drop k)).1=(hB (hY cI true) l).1:=by rw[C3]
  have az:(hB (hY cI true) (l.take k)).2++(hB (hB (hY cI true) (l.take k)).1 (l.drop k)).2=(hB (hY cI true) l).2:=by rw[C3]
  have rO:=NI l (hY cI true);have LL:=NI (l.take k) (hY cI true);have LM:=NI (l.drop k) (hB (hY cI true) (l.take k)).1;rw[bu];generalize(hB (hB (hY cI true) (l.take k)).1 (l.drop k)).2=dI at az LM;generalize(hB (hY cI true) (l.take k)).2=aT at az LL;generalize(hB (hY cI true) l).2=rB at az rO;generalize(hB (hY cI true) l).1=w at e8;have hf:=(e8.xQ J J).mE;refine(b4 rfl).trans ((b4 rfl).trans ((cE (Pt hf)).trans ((d9 rfl).trans ((b4 rfl).trans ((b4 (cL (by show(rB.length:Int)=(l.length:Int);omega))).trans ?_)))));refine(cE (Pq rB J)).trans ((d9 rfl).trans ((cE (Pq aT J)).trans ((d9 rfl).trans ((cE (Pq dI J)).trans ((d9 rfl).trans ((eG ?_).trans ?_))))))
  .rw[g21];refine cC ?_;show(aT.length+dI.length)*32<=_;omega
  rw[show cm aT dI=rB from az];refine(cE (aiS rB J)).trans ((d9 rfl).trans ((b4 rfl).trans ?_));rw[show ej (i64 (aN n)) 5=((n.toNat%5:Nat):Int) from Uj n (m:=5) J];have hm:n.toNat%5<5:=sx _ J;generalize n.toNat%5=m at hm;have ana:i64 (aC (m:Int) 2)=((m+2:Nat):Int):=fL (by show(m:Int)+2=_;omega) J;rw[ana];have c1:sk (w.t,(m:Int),())=some ((k2 m w).t,()):=EX (m:Int) (λj ao=>(e8.t_ j).xQ J J) J;have c2:sk ((k2 m w).t,2,())=some ((k2 2 (k2 m w)).t,()):=EX 2 (λj ao=>((e8.t_ m).t_ j).xQ J J) J;have hd:sk (w.t,((m+2:Nat):Int),())=some ((k2 (m+2) w).t,()):=EX ((m+2:Nat):Int) (λj ao=>(e8.t_ j).xQ J J) J;rw[Zm]at c2;refine(cE c1).trans ((d9 rfl).trans ((cE c2).trans ((d9 rfl).trans ((cE hd).trans ((d9 rfl).trans ?_)))));exact(cE (Pt ((e8.t_ (m+2)).xQ J J).mE)).trans rfl
abbrev ahY:ag:=.pair (.int .i64) (.pair (.int .i64) (.pair (.int .i64) (.pair (.int .i64) (.pair (.sl (.int .u8)) .unit))))
def ai4(x:h3 [.sl ahY,.int .u8,.int .u8])(_:DQ [.sl ahY,.int .u8,.int .u8] x):TZ x=some (true,()):=WorldParts' x.1 x.2.1 x.2.2.1
def Cm{b:aa}{A W:Nat}(O:1<=W)(cy:W<=8)(hl:A+W<=b.length)(h:0<=ew b (A:Int) (W:Int)):gh W (ew b (A:Int) (W:Int))=dA b A W:=by
 have e:ew b (A:Int) (W:Int)=(mc (dA b A W):Int):=by
  unfold ew at h ⊢;by_cases aq:(jq b (A:Int) (W:Int)).2.2.1=0
  .rw[if_pos aq]
   unfold jq at aq ⊢
   grind
  omega
 unfold gh;have b9:(dA b A W).length=W:=wZ hl;have:=avd (dA b A W)
 grind
def Bq(b:aa)(A W:Nat):dA b A W++b.drop (A+W)=b.drop A:=by unfold dA;rw[<- su];exact vx W (b.drop A)
def avO{b:aa}(h:(ev b).2.1=0):cn (ev b).1++(ev b).1.2.2.2.2.2.2.1=b:=by
 obtain⟨aj,az,rO,LL⟩:=M7 h;have hp:=aj.1;rw[az]at hp ⊢;obtain⟨dG,gz,le,uW,uX,q7,_⟩:=hp;have bG:0<=ew b 0 1:=by rcases dG with h|h<;>(have bB:ew b 0 1=_:=h;omega)
 have ca:0<=ew b 1 1:=by rcases uX with h|h<;>(have bB:ew b 1 1=_:=h;omega)
 have cr:0<=ew b 2 8:=gz.1;have du:0<=ew b 10 8:=le.1;have eW:0<=ew b 18 4:=q7.1;have lh:0<=ew b 22 8:=uW.1;have dW:=Cm (b:=b) (A:=0) (W:=1) J J J bG;have eF:=Cm (b:=b) (A:=1) (W:=1) J J J ca;have mv:=Cm (b:=b) (A:=2) (W:=8) J J J cr;have yS:=Cm (b:=b) (A:=10) (W:=8) J J J du;have wY:=Cm (b:=b) (A:=18) (W:=4) J J J eW;have Bl:=Cm (b:=b) (A:=22) (W:=8) J J J lh;have ac:cn (po b)=dA b 0 1++dA b 1 1++dA b 2 8++dA b 10 8++dA b 18 4++dA b 22 8++(b.drop 30).take (b.length-46):=by rw[<- dW,<- eF,<- mv,<- yS,<- wY,<- Bl];rfl
 rw[ac,show(po b).2.2.2.2.2.2.1=b.drop (b.length-16) from rfl];simp only[h0];have Rt:(b.drop 30).take (b.length-46)++b.drop (b.length-16)=b.drop 30:=by have:=Bq b 30 (b.length-46);rw[show 30+(b.length-46)=b.length-16 by omega]at this;exact this
 rw[Rt,Bq b 22 8,Bq b 18 4,Bq b 10 8,Bq b 2 8,Bq b 1 1,Bq b 0 1,rm]
def ahz{s:aH}{b:aa}{v:dr}(h:(gR s b).2=some v):(ev b).2.1=0/\v=(ev b).1/\¬(hJ s v).2.1=false/\(v.1=1\/(j_ s.e.win v.2.2.2.2.1).2=0):=by
 obtain⟨aq,aD⟩:=Oq h;refine⟨aq,aD,?_⟩;rw[aD];unfold gR at h;rw[if_neg (not_not_intro aq)]at h;split at h
 .cases h
 split at h
 .cases h
 rename_i R ai;refine⟨ai,?_⟩;split at h
 .rename_i au;exact .inl au
 split at h
 .cases h
 rename_i a4;exact .inr (zg.1 a4)
def ayb{s:aH}{b:aa}{v:dr}(ac:s.p.1=true)(h:(gR s b).2=some v):∃k:aa,(k,cn v,())∈s.p.2.1/\b=cn v++iC k (cn v):=by
 obtain⟨aq,aD,ah,_⟩:=ahz h;refine⟨wq s.e v,amD ac ah,?_⟩;have ht:iC (wq s.e v) (cn v)=v.2.2.2.2.2.2.1:=by
  unfold hJ uY at ah;split at ah
  .assumption
  exact absurd rfl ah
 rw[ht,aD];exact(avO aq).symm
def aya{s:aH}{b:aa}(h:(gR s b).2=none):∃(k:Nat) (p:dw),(gR s b).1=⟨{ s.e with cS:=rz s.e.cS k },p⟩/\p.1=s.p.1/\p.2.1=s.p.2.1:=by
 unfold gR at h ⊢;split
 .exact⟨0,s.p,rfl,rfl,rfl⟩
 rename_i O;rw[if_neg O]at h;split
 .exact⟨3,s.p,rfl,rfl,rfl⟩
 rename_i R;rw[if_neg R]at h;obtain⟨c1,c2⟩:=amC s (ev b).1;split
 .exact⟨1,_,rfl,c1,c2⟩
 rename_i ai;rw[if_neg ai]at h;split
 .rename_i au;rw[if_pos au]at h;cases h
 rename_i au;rw[if_neg au]at h;split
 .exact⟨2,_,rfl,c1,c2⟩
 rename_i a4;rw[if_neg a4]at h;cases h
def aoq{s:aH}{b:aa}(h:(gR s b).2=none):iG s b=(gR s b).1:=by
 unfold iG;split
 .rfl
 rename_i O;rw[h]at O;cases O
def aju{s:aH}(aM:m4 c s.e.hub)(ah:xu s.e.cS 0=s.e.cS)(cy:¬s.e.ph=8){x:aa}(O:1<=x.length)(R:x.length<=1024):o9 s (c:Int) (dO x)=iG s x:=by
 have am:an s.e.hub.2.1 c ec=ec:=by
  rw[aM.feed];have au:=aM.c4;match c,au with
  |0,_=>rfl
  |1,_=>rfl
  |2,_=>rfl
  |3,_=>rfl
 have k8:cg s.e.hub.2.1 c ec=s.e.hub.2.1:=by
  rw[aM.feed];have au:=aM.c4;match c,au with
  |0,_=>rfl
  |1,_=>rfl
  |2,_=>rfl
  |3,_=>rfl
 have hp:hn s.e.hub (c:Int) (dO x)=(s.e.hub,[x],0):=by unfold hn;rw[if_neg (not_not_intro (show kj (c:Int) from⟨J,by have:=aM.c4;omega⟩)),if_neg (not_not_intro (ah4 aM)),iq,am,ae6 O R];dsimp only;rw[k8]
 have hf:qF s (c:Int) (dO x)=s:=by unfold qF;rw[hp,iq,am];have e1:xu s.e.cS (i64 (ec.2.2.1-ec.2.2.1))=s.e.cS:=ah;rw[e1]
 unfold o9;rw[hp,if_neg (not_not_intro rfl),hf];show(if s.e.ph=8 then s else uj (iG s x) [])=_;rw[if_neg cy];rfl
def pQ(n:Nat)(c:List Int):Prop:=∃x y z u:Int,c=[x,y,z,u]/\0<=x/\x<=n/\0<=y/\y<=n/\0<=z/\z<=n/\0<=u/\u<=n
def KM{c:List Int}(h:pQ n c)(am:n<=1000000):xu c 0=c:=by obtain⟨x,y,z,u,rfl,h⟩:=h;show[i64 (x+0),y,z,u]=_;rw[hw J J,Int.add_zero]
def Zz{c:List Int}(h:pQ n c)(am:n<=1000000)(k:Nat):pQ (n+1) (rz c k):=by
 obtain⟨x,y,z,u,rfl,h⟩:=h;have b:∀a:Int,0<=a->a<=n->i64 (aC a 1)=a+1:=λa O R=>hw (by show -9223372036854775808<=a+1;omega) (by show a+1<=9223372036854775807;omega);match k with
 |0=>exact⟨x+1,y,z,u,by show[i64 (aC x 1),y,z,u]=_;rw[b x J J],J,J,J,J,J,J,J,J⟩
 |1=>exact⟨x,y+1,z,u,by show[x,i64 (aC y 1),z,u]=_;rw[b y J J],J,J,J,J,J,J,J,J⟩
 |2=>exact⟨x,y,z+1,u,by show[x,y,i64 (aC z 1),u]=_;rw[b z J J],J,J,J,J,J,J,J,J⟩
 |3=>exact⟨x,y,z,u+1,by show[x,y,z,i64 (aC u 1)]=_;rw[b u J J],J,J,J,J,J,J,J,J⟩
 |k+4=>exact⟨x,y,z,u,rfl,J,J,J,J,J,J,J,J⟩
def xT:aa:=iH (fM cI) (iN false cI h2)
def ju(c:Nat):dX:=rD false c (fM cI) (iN false cI h2)
def j?: dw:=h9 (q8 cI true false) (fM cI) (cn (iN false cI h2))
def aaj:jr:=(2,[1,1],1,h2,())
def mr(g:Bool)(c:Nat)(ct:List Int):c_:={ dh true cI 0 (lV c) with win:=if g then nL else k0,cS:=ct }
def Hz(g:Bool):List jr:=if g then hM++[aaj]else hM
def fY(g:Bool)(c:Nat)(ct:List Int)(p:dw)(gj:List dX):bO:=eQ false (xL false cI 2 (ee (lV c)).1) (mr g c ct) p gj (q3 cI false c++[ju c]) (hM++[(1,[1,1],0,h2,())]) (Hz g)
def n_(p:dw):Prop:=p.1=true/\p.2.1=j?.2.1
def azl:h2.length=13:=bN
theorem aik:xT.length=59:=rfl
def aAo:(iN false cI h2).2.2.1=[1,1]:=mT (e:=dh false cI 0 dv) (kL false) rfl rfl
def ay9:ev xT=(iO (iN false cI h2) (iC (fM cI) (cn (iN false cI h2))),0,()):=
 rfl
def auK:(fM cI,cn (iN false cI h2),())∈j?.2.1:=ED _ _ _
def aqj(i:Bool)(key:aa)(bR:Int)(ct:List Int){h:ef}{p:dw}{B:aa}(aB:lq B)(hg:R_ B)(hm:(fM key,cn (iN i key B),())∈p.2.1):
  iG ⟨{ dh (!i) key bR h with cS:=ct },p⟩ (iH (fM key) (iN i key B))=⟨{ FY (!i) key bR h with cS:=ct,got:=[(2,[1,1],1,B,())] },p⟩:=by
 have ht:=Oo (s:=⟨{ dh (!i) key bR h with cS:=ct },p⟩) (a:=dh i key 0 dv) (b:=B) (by cases i<;>rfl) ((mT (kL i) rfl rfl).trans (mT (e:={ dh (!i) key bR h with cS:=ct }) (kL (!i)) rfl rfl).symm) ⟨by show(2:Int)<=3;decide,by show(3:Int)<=6;decide⟩ (Lf key) (ah7 i key aB) hm Ud;rw[show iH (fM key) (iN i key B)=cn (gq (dh i key 0 dv) B)++iC (dh i key 0 dv).ring.1.2.1 (cn (gq (dh i key 0 dv) B)) from rfl,CP ht];generalize iC (dh i key 0 dv).ring.1.2.1 (cn (gq (dh i key 0 dv) B))=t;rw[show pc (⟨{ dh (!i) key bR h with cS:=ct },p⟩:aH).e (dh i key 0 dv).ring.1.1=jU key from LE rfl];obtain⟨bj,bm,cW,fU⟩:=hg;have aI:mD ⟨{ dh (!i) key bR h with cS:=ct,win:=nL,ring:=jU key },p⟩ (iO (gq (dh i key 0 dv) B) t)=⟨{ FY (!i) key bR h with cS:=ct,got:=[(2,[1,1],1,B,())] },p⟩:=by unfold mD;refine(if_pos rfl).trans ((if_neg bj).trans ((if_pos bm).trans ?_));rw[show pV ⟨{ dh (!i) key bR h with cS:=ct,win:=nL,ring:=jU key },p⟩=⟨{ dh (!i) key bR h with cS:=ct,win:=nL,ring:=jU key },p⟩ from if_neg (show ¬(3:Int)=2 by decide)];unfold yV;refine(if_neg (not_not_intro cW)).trans ((if_pos (show nh 3 from .inl rfl)).trans ?_);rw[if_neg (show ¬sG (e9 (iO (gq (dh i key 0 dv) B) t).2.2.2.2.2.1).1 from fU)];unfold ug;rw[show fX (⟨{ dh (!i) key bR h with cS:=ct,win:=nL,ring:=jU key },p⟩:aH).e=[1,1] from mT (kL (!i)) rfl rfl];rfl
 refine(congrArg mV aI).trans (D0 rfl)
def aaY{p:dw}(hp:n_ p):iG ⟨mr false c ct,p⟩ xT=⟨{ mr true c ct with got:=[aaj] },p⟩:=
 aqj false cI 0 ct Ck XR (by rw[hp.2];exact auK)
def adU{g:Bool}{p:dw}(hp:n_ p){x:aa}(h:(gR ⟨mr g c ct,p⟩ x).2=none):∃(k:Nat) (fW:dw),iG ⟨mr g c ct,p⟩ x=⟨mr g c (rz ct k),fW⟩/\n_ fW:=by obtain⟨k,fW,O,R,ai⟩:=aya h;exact⟨k,fW,(aoq h).trans O,R.trans hp.1,ai.trans hp.2⟩
def aom{p:dw}(hp:n_ p):∃(k:Nat) (fW:dw),iG ⟨mr true c ct,p⟩ xT=⟨mr true c (rz ct k),fW⟩/\n_ fW:=by
 refine adU hp ?_;cases aO:(gR ⟨mr true c ct,p⟩ xT).2 with
 |none=>rfl
 |some v=>
  obtain⟨_,aD,_,h⟩:=ahz aO;rw[ay9]at aD;rw[aD]at h;rcases h with h|h
  .exact absurd h (show ¬(2:Int)=1 by decide)
  have bB:(j_ nL 1).2=0:=h;exact absurd (Ue Ud).2.2.1 (Ue bB).2.1
def aon{g:Bool}{p:dw}(hp:n_ p){x:aa}(hx:¬x=xT)(hl:x.length=59):∃(k:Nat) (fW:dw),iG ⟨mr g c ct,p⟩ x=⟨mr g c (rz ct k),fW⟩/\n_ fW:=by
 refine adU hp ?_;cases aO:(gR ⟨mr g c ct,p⟩ x).2 with
 |none=>rfl
 |some v=>
  obtain⟨k,hm,Y⟩:=ayb (s:=⟨mr g c ct,p⟩) hp.1 aO;rw[show(⟨mr g c ct,p⟩:aH).p.2.1=j?.2.1 from hp.2]at hm;have b9:(cn v).length=43:=by have:=congrArg List.length Y;rw[db,yK]at this;omega
  exfalso;have HD:∀{u:dr} {n:d'} {q:aa},u.2.2.2.2.2.1=eg n->¬(k,cn v,())=((q,cn u,()):BR):=by intro u n q aM h;have O:cn v=cn u:=congrArg (λz:BR=>z.2.1) h;have R:=ad0 n;have ai:=wj u;rw[<- O,b9,aM]at ai;unfold eg at ai;omega
  have x9:=hm;unfold j? q8 at x9;rcases Id.1 x9 with hm3|h
  rcases Id.1 hm3 with hm4|h;rcases Id.1 hm4 with hm5|h;rcases Id.1 hm5 with hm6|h;rcases Id.1 hm6 with hm7|h
  .cases hm7
  .exact HD (u:=rg false cI) (n:=ip) rfl h
  .exact HD (u:=tF (!false) cI) (n:=m_) rfl h
  .exact HD (u:=vh false cI) (n:=h4) rfl h
  .exact HD (u:=vg (!false) cI) (n:=ov h4 0) rfl h
  have O:cn v=cn (iN false cI h2):=congrArg (λz:BR=>z.2.1) h;have R:k=fM cI:=congrArg (λz:BR=>z.1) h;rw[O,R]at Y;exact hx Y
def Lt{g g':Bool}(au:c<4){ct':List Int}{p fW:dw}{gt:List jr}{x:aa}(ah:xu ct 0=ct)(O:1<=x.length)(R:x.length<=1024)(bs:iG ⟨mr g c ct,p⟩ x=⟨{ mr g' c ct' with got:=gt },fW⟩)(gj:List dX):
  eX (fY g c ct p ((1-dn false,(c:Int),dO x,())::gj)) (7,0,0,0,[],())=(eQ false (xL false cI 2 (ee (lV c)).1) (mr g' c ct') fW gj (q3 cI false c++[ju c]) (hM++[(1,[1,1],0,h2,())]) (Hz g++gt),0):=by
 show j5 (fY g c ct p ((1-dn false,(c:Int),dO x,())::gj)) 0 0=_;unfold j5;rw[if_neg (not_not_intro ⟨bN,by show(0:Int)<(((1-dn false,(c:Int),dO x,())::gj).length:Int);rw[fQ];omega⟩)];dsimp only;rw[if_neg (by intro h;exact absurd h.1 bN)];refine J1 ?_ rfl;show j4 (eQ false (xL false cI 2 (ee (lV c)).1) (mr g c ct) p gj (q3 cI false c++[ju c]) (hM++[(1,[1,1],0,h2,())]) (Hz g)) (!false) (o9 ⟨mr g c ct,p⟩ (c:Int) (dO x))=_;rw[aju (s:=⟨mr g c ct,p⟩) (LY au) ah (by show ¬(3:Int)=8;decide) O R,bs,R5 _ _ _ _ _ _ _ _ (by show ¬(3:Int)=8;decide)];show eQ false _ _ fW (gj++[]) ((q3 cI false c++[ju c])++[]) _ _=_;rw[iE,iE];rfl
theorem aap(c:Nat):ju c=(1-dn false,(c:Int),dO xT,()):=rfl
def aoM{g:Bool}(au:c<4)(ah:pQ n ct)(am:n<=1000){p:dw}(hp:n_ p)(gj:List dX):
  ∃ct' fW,eX (fY g c ct p (ju c::gj)) (7,0,0,0,[],())=(fY true c ct' fW gj,0)/\pQ (n+1) ct'/\n_ fW:=by
 have fk:=aik;cases g with
 |false=>
  refine⟨ct,p,?_,?_,hp⟩
  .rw[aap,Lt au (KM ah J) J J (aaY hp) gj];rfl
  obtain⟨x,y,z,u,rfl,h⟩:=ah;exact⟨x,y,z,u,rfl,J,J,J,J,J,J,J,J⟩
 |true =>obtain⟨k,fW,hf,GX⟩:=aom (c:=c) (ct:=ct) hp;refine⟨rz ct k,fW,?_,Zz ah J k,GX⟩;rw[aap,Lt au (KM ah J) J J (gt:=[]) (g':=true) (ct':=rz ct k) hf gj];show(eQ false _ _ fW gj _ _ (Hz true++[]),(0:Int))=_;rw[iE];rfl
theorem ajc(g:Bool)(c:Nat)(ct:List Int)(p:dw)(gj:List dX):eX (fY g c ct p gj) (9,0,4,0,[],())=(fY g c ct p (gj++[ju c]),0):=rfl
def Fr:List ge:=[(9,0,4,0,[],()),(7,0,0,0,[],())]
def ayr{g:Bool}(au:c<4)(ah:pQ n ct)(am:n<=1000){p:dw}(hp:n_ p){gj:List dX}(n0:gj=[]\/gj=[ju c])(Y:ia a 4 (fY g c ct p gj))(bc:a+2<=41):
  ∃ct' fW,my ((fY g c ct p gj).t,Fr,())=some ((fY true c ct' fW gj).t,[0,0],())/\pQ (n+1) ct'/\n_ fW/\ia (a+2) 4 (fY true c ct' fW gj):=by
 have uu:xw Fr:=by intro x hx;simp only[Fr,hc,zb,or_false]at hx;rcases hx with rfl|rfl<;>simp
 obtain⟨ek,e8⟩:=vR Fr Y bc (show 4+(0+(0+0))<=66 by omega) uu;have aqz:gj++[ju c]=ju c::gj:=by rcases n0 with rfl|rfl<;>rfl
 obtain⟨ct',fW,O,R,ai⟩:=aoM (g:=g) au ah am hp gj;have iJ:hB (fY g c ct p gj) Fr=(fY true c ct' fW gj,[0,0]):=by show((eX (eX (fY g c ct p gj) (9,0,4,0,[],())).1 (7,0,0,0,[],())).1,[(eX (fY g c ct p gj) (9,0,4,0,[],())).2,(eX (eX (fY g c ct p gj) (9,0,4,0,[],())).1 (7,0,0,0,[],())).2])=_;rw[ajc,aqz,O]
 rw[iJ]at e8;refine⟨ct',fW,?_,R,ai,e8⟩;rw[xo ek (show 2<=1000000 by omega),iJ]
def aeC(K:Int)(V:Bool×Int×dg×Unit):Option (aE (Bool×Int×dg×Unit) (Bool×Unit)):=
 T (aF V.2.1 K)
  (ob (my (V.2.2.1,[(9,0,4,0,aP UInt8,()),(7,0,0,0,aP UInt8,())],())) λ(a:dg×List Int×Unit)=>
   ob (T (aZ (af (len a.2.1) 2)) (some (true,())) (ak (aK 0 (len a.2.1)) (T (aZ (af (an a.2.1 (ab 0) 0) 0)) (some (true,())) (ak (aK 1 (len a.2.1)) (T (aZ (af (an a.2.1 (ab 1) 0) 0)) (some (true,())) (ak (aK 1 (bb 2)) (some (aF 2 (len (an a.1.2.2.2.2.1 (ab 1) (aP jr))),())))))))) λ(i7:Bool×Unit)=>
   T i7.1 (some (aE.rt (false,()))) (some (aE.nx (V.1,i64 (aC V.2.1 1),a.1,()))))
  (some (aE.ex 0 (V.1,V.2.1,V.2.2.1,())))
def aeD(au:c<4)(K:Nat)(fH:K<=11){g:Bool}{p:dw}(ah:pQ 1 ct)(hp:n_ p){gj:List dX}(n0:gj=[]\/gj=[ju c])(Y:ia a 4 (fY g c ct p gj))(bc:a<=10):
  ∃W:dg,bC (aeC (K:Int)) (false,0,(fY g c ct p gj).t,())=some (.ex 0 (false,(K:Int),W,())):=by
 have key:∀(m i:Nat) (g:Bool) (ct:List Int) (p:dw) (n a:Nat),i+m=K->pQ n ct->n<=1+i->n_ p->ia a 4 (fY g c ct p gj)->a<=10+2*i ->
   ∃W:dg,bC (aeC (K:Int)) (false,(i:Int),(fY g c ct p gj).t,())=some (.ex 0 (false,(K:Int),W,())):=by
  intro m;induction m with
  |zero =>intro i g ct p n a ac ah am hp Y bc;have:i=K:=J;subst this;exact⟨_,dT (bU (cP bf))⟩
  |succ m ih =>intro i g ct p n a ac ah am hp Y bc;have eH:i64 (aC (i:Int) 1)=((i+1:Nat):Int):=fL rfl J;obtain⟨ct',fW,dW,eF,mv,yS⟩:=ayr au ah J hp n0 Y J;obtain⟨W,hW⟩:=ih (i+1) true ct' fW (n+1) (a+2) J eF J mv yS J;refine⟨W,tQ (eE ?_) hW⟩;refine a? (di (by grind)) (aL (dW) ?_);refine aL (a:=(false,())) ?_ (a0 rfl (by rw[eH]));rfl
 exact key K 0 g ct p 1 a J ah J hp Y J
def KO:pQ 1 iW:=⟨0,0,0,0,rfl,bN,bN,bN,bN,bN,bN,bN,bN⟩
def MS:n_ j?:=by
 refine⟨?_,rfl⟩;have h:∀(p:dw) (k b:aa),(h9 p k b).1=p.1:=λp k b=>by unfold h9;split<;>rfl
 unfold j?;rw[h,(auJ cI true false).1]
def J'(c:Nat):List ge:=[(12,0,(c:Int),0,[],()),(1,0,0,0,[],()),(17,0,4,0,[],()),(0,0,0,0,m',())]
theorem XB(c:Nat):J' c=vE c false++[(0,0,0,0,m',())]:=rfl
def aeF(au:c<4):eX (rX cI true false c) (0,0,0,0,m',())=(fY false c iW j? [ju c],0):=
 Xz (i:=false) cI (LY au) (q8 cI true false) (q3 cI false c) hM hM ahj Ck 0
def aeE(au:c<4):my ((hY cI true).t,J' c,())=some ((fY false c iW j? [ju c]).t,[0,0,0,0],())/\ia 4 4 (fY false c iW j? [ju c]):=by
 obtain⟨O,R,ai⟩:=NF vD true false au;have Y:((0,0,0,0,m',()):ge).2.2.2.2.1.length<=1200:=P2;have uu:xw (J' c):=by
  intro a bc;rw[XB]at bc;rcases iQ.1 bc with bc|bc
  .exact Qg c false a bc
  grind
 obtain⟨bD,_⟩:=vR (J' c) (Jz (by rw[vD];omega) true) (show 0+4<=41 by omega) (show 0+(0+(0+(4+(0+0))))<=66 by omega) uu;have aB:=P5 R Y;rw[aeF au]at aB;refine⟨?_,aB⟩;rw[xo bD (show 4<=1000000 by omega),XB,NH,ai];show some ((eX (rX cI true false c) (0,0,0,0,m',())).1.t,[0,0,0]++[(eX (rX cI true false c) (0,0,0,0,m',())).2],())=_;rw[aeF au];rfl
theorem aeW(x:aa):(dO x).length=x.length+2:=rfl
def axP(x:aa)(m:Nat)(b:UInt8):pu (dO x) (m+2) b=dO (pu x m b):=by
 have hl:(pu x m b).length=x.length:=by unfold pu cg;rw[kf]
 have O:dO (pu x m b)=[u8 (fB .i64 (len x) (cz (u64 8))),u8 (len x)]++pu x m b:=by unfold dO;rw[show len (pu x m b)=len x from congrArg (λn:Nat=>(n:Int)) hl]
 rw[O];rfl
def azb{x y:UInt8}(h:x^^^y=x):y=0:=by have:=congrArg (x ^^^ ·) h;simpa[<- UInt8.xor_assoc]using this
def axO{x:aa}(hm:m<x.length)(b:UInt8):pu x m b=x↔b=0:=by
 unfold pu cg;rw[nth_get hm];constructor
 .intro h
  have O:(x.set m (x[m]^^^b))[m]'(by grind)=x[m]:=by simp only[h]
  rw[tY]at O;exact azb O
 rintro rfl;simp
def Cb(k:Nat)(b:UInt8):List ge:=[(8,0,0,0,[],()),(10,0,4,(k:Int),[b],()),(7,0,0,0,[],())]
def axQ(au:c<4)(ap:1<k)(hl:k<61)(b:UInt8):∃g ct p,my ((fY false c iW j? [ju c]).t,Cb k b,())=some ((fY g c ct p []).t,[0,0,0],())/\(g=true↔b=0)/\pQ 1 ct/\n_ p/\ia 7 4 (fY g c ct p []):=by
 have aB:=(aeE au).2;have uu:xw (Cb k b):=by intro a bc;simp only[Cb,hc,zb,or_false]at bc;rcases bc with rfl|rfl|rfl<;>simp
 obtain⟨ek,e8⟩:=vR (Cb k b) aB (show 4+3<=41 by omega) (show 4+(0+(0+(0+0)))<=66 by omega) uu;have ya:=aik;have d1:eX (fY false c iW j? [ju c]) (8,0,0,0,[],())=(fY false c iW j? [],0):=rfl;obtain⟨m,rfl⟩:∃m,k=m+2:=⟨k-2,J⟩;have d2:eX (fY false c iW j? []) (10,0,4,((m+2:Nat):Int),[b],())=(fY false c iW j? [(1-dn false,(c:Int),dO (pu xT m b),())],0):=by
  show Bi (fY false c iW j? []) 4 ((m+2:Nat):Int) [b]=_;unfold Bi;have hold:an (fY false c iW j? []).old (4:Int).toNat ns=ju c:=rfl;rw[hold];rw[if_neg]
  .dsimp only
   rw[iq,show(ju c).2.2.1=dO xT from rfl,axP];rfl
  rintro(h|h|h)
  .exact h ⟨bN,by show(4:Int)<((5:Nat):Int);decide⟩
  .refine h ⟨J,?_⟩
   show((m+2:Nat):Int)<((dO xT).length:Int);rw[aeW];omega
  cases h
 have p6:(pu xT m b).length=59:=by unfold pu cg;rw[kf];exact ya
 have e3:=axO (x:=xT) (m:=m) J b;have f':∀{g ct p},eX (fY false c iW j? [(1-dn false,(c:Int),dO (pu xT m b),())]) (7,0,0,0,[],())=(fY g c ct p [],0)->(g=true↔b=0)->pQ 1 ct->n_ p ->
   ∃g ct p,my ((fY false c iW j? [ju c]).t,Cb (m+2) b,())=some ((fY g c ct p []).t,[0,0,0],())/\(g=true↔b=0)/\pQ 1 ct/\n_ p/\ia 7 4 (fY g c ct p []):=by
  intro g ct p O R ai a4;have iJ:hB (fY false c iW j? [ju c]) (Cb (m+2) b)=(fY g c ct p [],[0,0,0]):=by show((eX (eX (eX (fY false c iW j? [ju c]) (8,0,0,0,[],())).1 (10,0,4,((m+2:Nat):Int),[b],())).1 (7,0,0,0,[],())).1,[(eX (fY false c iW j? [ju c]) (8,0,0,0,[],())).2,(eX (eX (fY false c iW j? [ju c]) (8,0,0,0,[],())).1 (10,0,4,((m+2:Nat):Int),[b],())).2,(eX (eX (eX (fY false c iW j? [ju c]) (8,0,0,0,[],())).1 (10,0,4,((m+2:Nat):Int),[b],())).1 (7,0,0,0,[],())).2])=_;rw[d1,d2,O]
  rw[iJ]at e8;refine⟨g,ct,p,?_,R,ai,a4,e8⟩;rw[xo ek (show 3<=1000000 by omega),iJ]
 by_cases Y:b=0
 .have az:=e3.2 Y
  rw[az]at f';refine f' (g:=true) (ct:=iW) (p:=j?) ?_ ⟨λ_=>Y,λ_=>rfl⟩ KO MS;rw[Lt au (KM KO J) J J (aaY MS) []];rfl
 have az:¬pu xT m b=xT:=λh=>Y (e3.1 h);obtain⟨j,fW,hf,GX⟩:=aon (g:=false) (c:=c) (ct:=iW) MS az p6;refine f' (g:=false) (ct:=rz iW j) (p:=fW) ?_ ⟨λh=>absurd h bf,λh=>absurd h Y⟩ ?_ GX
 .rw[Lt au (KM KO J) J J (gt:=[]) (g':=false) (ct':=rz iW j) hf []]
  show(eQ false _ _ fW [] _ _ (Hz false++[]),(0:Int))=_;rw[iE];rfl
 have bh:pQ 0 iW:=⟨0,0,0,0,rfl,bN,bN,bN,bN,bN,bN,bN,bN⟩;exact Zz bh J j
def atz(a:UInt16):ej (i64 (wz a)) 61=((a.toNat%61:Nat):Int):=by have bc:=a.toNat_lt;rw[show i64 (wz a)=(a.toNat:Int) from hw (by rw[g60];omega) (by rw[g60];omega),g32 J];omega
def WorldOnce'(EF:UInt8)(a:UInt16)(b Q_:UInt8):TY ((EF,a,b,Q_,()),())=some (true,()):=by
 have au:Q_.toNat%4<4:=sx _ J;refine aL VJ (a6 rfl (aL (OO vD true) (aL aeX ?_)));rw[ady];generalize Q_.toNat%4=c at au;obtain⟨iJ,aB⟩:=aeE au;refine aL (iJ) ?_;have dp:len (dO xT)=61:=by show((dO xT).length:Int)=61;rw[aeW];rfl
 have gX:i64 (bg (len (fY false c iW j? [ju c]).t.2.2.2.1) 1)=4:=rfl;rw[gX];have nT:an (fY false c iW j? [ju c]).t.2.2.2.1 (ab 4) eR=ju c:=rfl;rw[nT,show(ju c).2.2.1=dO xT from rfl,dp,atz];refine aL (a:=(false,())) ?_ (a0 rfl (a6 rfl (a6 rfl ?_)))
 .rfl
 have ap:a.toNat%61<61:=sx _ J;generalize a.toNat%61=k at ap;have KV:ej (i64 (aN EF)) 12=((EF.toNat%12:Nat):Int):=Uj EF (m:=12) J;rw[KV];have fH:EF.toNat%12<12:=sx _ J;generalize EF.toNat%12=K at fH;by_cases O:1<k
 .refine a? (di J) ?_
  obtain⟨g,ct,p,bp,ax,d_,awX,awY⟩:=axQ au O ap b;refine aL (bp) ?_;have SG:(T (aZ (af (len [(0:Int),0,0]) 3)) (some (true,())) (ak (aK 2 (len [(0:Int),0,0])) (T (aZ (af (an [(0:Int),0,0] (ab 2) 0) 0)) (some (true,())) (ak (aK 1 (bb 2)) (some (aZ (qD (af (len (an (fY g c ct p []).t.2.2.2.2.1 (ab 1) (aP jr))) 1) (aZ (af (aN b) (aN (u8 0))))),())))))  : Option (Bool×Unit))=some (false,()):=by
   by_cases Y:b=0
   .have hg:=ax.2 Y
    subst Y;subst hg;rfl
   have hg:g=false:=(zi _).mp (λh=>Y (ax.1 h));subst hg;have cy:¬aN b=aN (u8 0):=by intro h;refine Y (zf.1 ?_);exact Fp h
   rw[cx cy];rfl
  refine aL SG (a0 rfl ?_);obtain⟨W,hW⟩:=aeD au K J d_ awX (.inl rfl) awY J;exact(cO (hW)).trans (lc_ex'.trans (eG g62))
 refine a0 (cP J) ?_;obtain⟨W,hW⟩:=aeD au K J KO MS (.inr rfl) aB J;exact(cO (hW)).trans (lc_ex'.trans (eG g62))
abbrev ahZ:ag:=.pair (.int .u8) (.pair (.int .u16) (.pair (.int .u8) (.pair (.int .u8) .unit)))
def ai3(x:h3 [ahZ])(_:DQ [ahZ] x):TY x=some (true,()):=WorldOnce' x.1.1 x.1.2.1 x.1.2.2.1 x.1.2.2.2.1
end Yp