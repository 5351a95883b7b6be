/- A part of the proof of the statements of this seat: plain functions, and laws on them. No condition of its own. -/
import Derived.Test.YtifmobcdnjcpiaaGreatDoorQ1
import Derived.KernelRfl
set_option linter.unusedVariables false
set_option linter.unusedSimpArgs false
set_option linter.defProp false
noncomputable section
open Go Yp
variable {i:Bool}{q:List V}{a c g hi i1 k m mQ n r t':Nat}{α:Type}{b dG key line w x:V}
namespace Yp
open Go
set_option maxRecDepth 100000
set_option maxHeartbeats 2000000
def FY(s:aG)(k n:Int)(b:V):aG:=⟨{ s.e with got:=s.e.got++[(k,gq s.e,n,b,())] },s.p⟩
def TQ{s:aG}(h:bA n s)(k q:Int)(b:V):bA (n+1) (FY s k q b):=by
 refine⟨{ DD h.e (qa n) with got := ?_ },yR h.p⟩;have:=h.e.got;show(s.e.got++[(k,gq s.e,q,b,())]).length<=n+1
 grind
def aah{s:aG}(ac:bA n s)(aj:n<=1000000000000)(k q:Int)(b:V):F' (s.t,k,q,b,())=some ((FY s k q b).t,()):=by have hg:=ac.e.got;unfold F';rw[show s.t.1.2.2.2.2.2.2.2.2.2.2.2.2.2.2.2.2.2.1=s.e.got from rfl,Kz];rw[show nn (s.t.1,())=_ from xB s.e];refine bn (by simp only[go_sem];simp;omega) ?_;rfl
def DL(s:aG)(q:List V):aG:=⟨{ s.e with queue:=q },s.p⟩
def MA{s:aG}(h:bA n s)(a2:q.length<=8):bA n (DL s q):=⟨{ h.e with queue:=a2 },h.p⟩
def xW:Nat->aG->aG
 |0,s=>s
 |n+1,s=>match s.e.queue with
  |[]=>s
  |b::q=>if(gh s b).2=0 then xW n (DL (gh s b).1 q) else s
def oY(s:aG):aG:=xW s.e.queue.length s
def au8{f:e4×Unit->Option (aE (e4×Unit) (e4×Unit))}
  (ao:∀s n,bA n s->n<=1000000000000->s.e.queue=[]->f (s.t,())=some (.ex 0 (s.t,())))
  (O:∀s n b q,bA n s->n<=1000000000000->s.e.queue=b::q->(gh s b).2=0->f (s.t,())=some (.nx ((DL (gh s b).1 q).t,())))
  (R:∀s n b q,bA n s->n<=1000000000000->s.e.queue=b::q->¬(gh s b).2=0->f (s.t,())=some (.ex 0 (s.t,()))\/f (s.t,())=some (.rt (s.t,()))) :
  ∀k (s:aG) n,bA n s->n+k<=1000000000000->s.e.queue.length=k ->
   ci (bN f (s.t,())) (λ(_:e4×Unit)=>none) (λ(i:Nat) (a:e4×Unit)=>am (bZ i 0) (some (a.1,()))) (λ(r:e4×Unit)=>some r)=some ((xW k s).t,()):=by
 intro k;induction k with
 |zero =>intro s n ac aj ap;exact(da (d_ (ao s n ac J (k3.1 ap)))).trans rfl
 |succ k ih=>
  intro s n ac aj ap;obtain⟨b,q,a2⟩:∃b q,s.e.queue=b::q:=by
   cases h:s.e.queue with
   |nil=>rw[h]at ap;cases ap
   |cons b q=>exact⟨b,q,rfl⟩
  have hl:q.length=k:=by rw[a2,ew]at ap;omega
  have iU:=ac.e.queue;unfold xW;rw[a2];dsimp only;by_cases h:(gh s b).2=0
  .rw[if_pos h]
   exact(da (ez (O s n b q ac J a2 h))).trans (ih _ (n+1) (MA (qH ac b) J) J hl)
  rw[if_neg h];rcases R s n b q ac J a2 h with bL|bL
  .exact(da (d_ bL)).trans rfl
  exact(da (pO bL)).trans rfl
def axS(h:q=[]):MU (q,())=some ([],[],false,()):=by subst h;rfl
def agZ{r:List V}(h:q=b::r)(hl:q.length<=1000000):MU (q,())=some (b,r,true,()):=by subst h;have GP:r.length+1<=1000000:=hl;refine a1 rfl (bn (by simp only[go_sem];simp only[ew];omega) (bn (by simp only[go_sem];simp;omega) ?_));rw[show sub (b::r) 1 (len (b::r))=r by simp[sub,len]];refine bg (dR cN) rfl
def Rq{s:aG}(ac:bA n s)(aj:n<=999999000000):j9 (s.t,())=some ((oY s).t,()):=by
 have a2:=ac.e.queue;refine au8 ?_ ?_ ?_ s.e.queue.length s n ac J rfl
 .intro s n ac aj h
  exact(bJ (axS h)).trans rfl
 .intro s n b q ac aj h bj
  have a2:=ac.e.queue;refine(bJ (agZ h J)).trans ((dL rfl).trans ((b1 rfl).trans ?_));refine(bJ (xC ac aj b)).trans ((dL rfl).trans ((b1 (j7 bj)).trans ?_));rfl
 intro s n b q ac aj h bj;have a2:=ac.e.queue;refine .inl ((bJ (agZ h J)).trans ((dL rfl).trans ((b1 rfl).trans ?_)));exact(bJ (xC ac aj b)).trans ((dL rfl).trans (ce (lF bj)))
def adZ:∀(k:Nat) {n:Nat} {s:aG},bA n s->bA (n+k) (xW k s)
 |0,n,s,h=>h
 |k+1,n,s,h=>by
  unfold xW;split
  .exact df h J
  rename_i b q a2;split
  .have iU:=h.e.queue
   rw[a2,ew]at iU;have:=adZ k (MA (qH h b) (q:=q) J)
   grind
  exact df h J
def HQ{s:aG}(h:bA n s):bA (n+1000) (oY s):=df (adZ _ h) (by have:=h.e.queue;omega)
def oZ(q:List V)(b:V):List V×Int:=if 8<=q.length then(q,8) else(q++[b],0)
def avm(q:List V)(b:V):MT (q,b,8,())=some ((oZ q b).1,(oZ q b).2,()):=by
 unfold MT oZ H7;dsimp only;rw[if_neg J];by_cases h:8<(q.length:Int)
 .rw[if_pos h,if_pos J];rfl
 rw[if_neg h];rw[show(8:Int).toNat=8 from rfl,JX];by_cases cz:q.length=8
 .rw[ cz];rfl
 rw[if_neg J,show min (8-q.length) 1=1 by omega,hS (by grind)];rfl
def yh(s:aG)(b:V):aG×Int:=
 if ¬(oe b s.e.day).2=0 then(s,(oe b s.e.day).2) else if ¬oK s.e.ph then(s,7)
 else if ¬(oZ s.e.queue (oe b s.e.day).1).2=0 then(s,(oZ s.e.queue (oe b s.e.day).1).2)
 else(oY (FY (DL s (oZ s.e.queue (oe b s.e.day).1).1) 1 0 (oe b s.e.day).1),0)
def aeB(h:q.length<=8):(oZ q b).1.length<=8:=by
 unfold oZ
 grind
def aud{s:aG}(h:bA n s)(b:V):bA (n+1001) (yh s b).1:=by
 unfold yh;split
 .exact df h J
 split
 .exact df h J
 split
 .exact df h J
 exact df (HQ (TQ (MA h (aeB h.e.queue)) _ _ _)) J
def anY{s:aG}(ac:bA n s)(aj:n<=999998000000)(b:V)(Y:b.length<=1000000):Lf (s.t,b,())=some ((yh s b).1.t,(yh s b).2,()):=by
 unfold Lf yh;refine bg (anX b s.e.day Y) ?_;generalize oe b s.e.day=r;obtain⟨o,e⟩:=r;by_cases ao:e=0
 .subst ao
  refine a1 rfl (bg (H3 s.e.ph) ?_);by_cases hg:oK s.e.ph
  .rw[if_neg (not_not_intro hg)]
   refine a1 (by rw[cF hg];rfl) (bg (avm s.e.queue o) ?_);have hl:=aeB (b:=o) ac.e.queue;generalize oZ s.e.queue o=p at hl ⊢;obtain⟨q,c⟩:=p;by_cases ai:c=0
   .subst ai
    have O:=MA ac hl;refine a1 rfl (bg (aah O J 1 0 o) ?_);exact(bJ (Rq (TQ O 1 0 o) J)).trans rfl
   rw[if_pos ai];exact ce (lF ai)
  rw[if_pos hg];exact ce (by rw[cE hg];rfl)
 rw[if_pos ao];exact ce (lF ao)
def Y4(day:Int):d1:=(true,201,0,0,0,[],[],day,())
def zg(s:aG)(day:Int):aG×Int:=
 if day<=s.e.day\/999999<day then(s,1) else if ¬oK s.e.ph then(s,7) else if ¬s.e.ph=3\/¬s.e.ask.1=0 then(s,9)
 else(kW (ul s 5) (Y4 day),0)
def at0{s:aG}(h:bA n s)(day:Int):bA (n+1) (zg s day).1:=by
 unfold zg;split
 .exact df h J
 split
 .exact df h J
 split
 .exact df h J
 exact Ax (DF h J J) _
theorem azU:qK (3,7,())=some (5,true,()):=rfl
theorem azW:qK (5,8,())=some (3,true,()):=rfl
def anU{s:aG}(ac:bA n s)(aj:n<=1000000000000)(day:Int):Lc (s.t,day,())=some ((zg s day).1.t,(zg s day).2,()):=by
 unfold Lc zg;rw[show s.t.1.2.2.2.2.2.2.2.2.2.2.2.2.2.1=s.e.day from rfl,show s.t.1.2.2.1=s.e.ph from rfl];by_cases O:day<=s.e.day\/999999<day
 .rw[if_pos O]
  refine bg (a:=(true,())) ?_ rfl;simp only[go_sem];exact Ef O
 rw[if_neg O];refine bg (a:=(false,())) (by simp only[go_sem];exact U4 J) (a1 rfl ?_);rw[H3];refine bg rfl ?_;by_cases R:oK s.e.ph
 .rw[if_neg (not_not_intro R),cF R]
  by_cases af:¬s.e.ph=3\/¬s.e.ask.1=0
  .rw[if_pos af]
   refine bg (a:=(true,())) (by simp only[go_sem];exact Ef af) rfl
  rw[if_neg af];refine bg (a:=(false,())) (by simp(disch:=omega) only[go_sem];exact U4 (λh=>af (.inr h))) (a1 rfl ?_);simp at af;rw[af.1];exact(bJ (NC (DF ac (p:=5) J J) aj (Y4 day))).trans rfl
 rw[if_pos R,cE R];rfl
def zs(s:aG):aG:=if s.e.ph=5 then⟨Ay s.e,s.p⟩ else s
def Rr{s:aG}(h:s.e.ph=5):CE (s.t,())=some ((⟨Ay s.e,s.p⟩:aG).t,()):=by unfold CE;rw[show(s.t,()).1.1.2.2.1=5 from h];rfl
def anW(s:aG):Ld (s.t,())=some ((zs s).t,()):=by
 unfold Ld zs;by_cases h:s.e.ph=5
 .rw[if_pos h]
  refine a1 (j7 h) ?_;exact(bJ (Rr h)).trans rfl
 rw[if_neg h];exact ce (lF h)
def L8(s:aG)(day:Int):aG:=⟨{ s.e with day:=cU s.e.day day },s.p⟩
def TR{s:aG}(h:bA n s)(day:Int):bA n (L8 s day):=⟨{ h.e with },h.p⟩
def QG(s:aG)(n:d1):aG:=(gh (L8 s n.2.2.2.2.2.2.2.1) (kj n 0)).1
def atZ{s:aG}(h:bA m s)(n:d1):bA (m+1) (QG s n):=qH (TR h _) _
def anV{s:aG}(ac:bA m s)(hm:m<=1000000000000)(n:d1):Rp (s.t,n,())=some ((QG s n).t,()):=by exact Fi (TR ac n.2.2.2.2.2.2.2.1) hm n 0
def BZ(s:aG)(n:d1):aG:=
 if ¬s.e.ph=5\/¬qB s.e.ask n.2.1 n.2.2.1 then gy s 3
 else if n.2.2.2.1=0 then L8 ⟨Ay s.e,s.p⟩ (ls s.e.ask.2.2.2.2.1).1.2.2.2.2.2.2.2.1 else⟨Ay s.e,s.p⟩
def anT{s:aG}(n:d1)(Y:s.e.ask.2.2.2.2.1.length<=1000000):Lb (s.t,n,())=some ((BZ s n).t,()):=by
 unfold Lb BZ;rw[ show s.t.1.2.2.2.2.2.2.2.2.2.2.2.1=s.e.ask from rfl,J7];by_cases a8:s.e.ph=5
 .by_cases hm:qB s.e.ask n.2.1 n.2.2.1
  .rw[if_neg (λh=>h.elim (λh=>h a8) (λh=>h hm)),cF hm]
   refine bg (a:=(false,())) (a1 (j7 a8) rfl) (a1 rfl ?_);rw[adt _ Y];by_cases ah:n.2.2.2.1=0
   .rw[if_pos ah]
    refine bq (cK ah) ?_;exact(bJ (Rr (s:=L8 s (ls s.e.ask.2.2.2.2.1).1.2.2.2.2.2.2.2.1) a8)).trans rfl
   rw[if_neg ah];refine a1 (ct ah) ?_;exact(bJ (Rr a8)).trans rfl
  rw[if_pos (.inr hm),cE hm];exact bg (a:=(true,())) (a1 (j7 a8) rfl) (bq rfl (tC s))
 rw[if_pos (.inl a8)];exact bg (a:=(true,())) (ce (lF a8)) (bq rfl (tC s))
def atS{s:aG}(h:bA m s)(n:d1):bA m (BZ s n):=by
 have aK:bA m ⟨Ay s.e,s.p⟩:=⟨{ h.e with askr:=.inl rfl,ph:=⟨by show(0:Int)<=3;omega,by show(3:Int)<=8;omega⟩ },h.p⟩;unfold BZ;split
 .exact n9 h 3
 split
 .exact TR aK _
 exact aK
def xa(t:Int):Int:=t/10%10
def w2(m:M):Prop:=(xa m.1=1\/xa m.1=3)/\uy m
instance (m:M):Decidable (w2 m):=by unfold w2;infer_instance
def r8:b0:=(39,[57,49],())
def tD(m:M):M:=(m.1+10,(if(hI 11 m.2.1).2.1=true then[(11,(hI 11 m.2.1).1,()),r8]else[r8]),())
def Ew(s:aG)(q:Int)(b:V)(m:M):aG:=
 if ¬yp m.1 then gy s 3 else if oK s.e.ph then FY s (if w2 m then 3 else 2) q b
 else if ¬s.e.ph=6\/¬(sU m.1).2.1=true then gy s 3 else(gh s (gO (tD m))).1
def Z0:gB 39 [57,49]=true:=bP
def aan{no:Int}:∀{l:List b0},(hI no l).2.1=true->∃v∈l,v.1=no/\(hI no l).1=v.2.1
 |v::l,h=>by
  unfold hI at h ⊢;split at h
  .grind
  rename_i e;obtain⟨u,aL,O,R⟩:=aan h
  grind
def VM{m:M}(ah:jJ m=true)(h:(hI 11 m.2.1).2.1=true):gB 11 (hI 11 m.2.1).1=true:=by
 obtain⟨v,aC,O,R⟩:=aan h;have:=(v8 (pW.1 ah).1 v aC).2
 grind
def amm{m:M}(ah:jJ m=true)(hp:(sU m.1).2.1=true):jJ (tD m)=true:=by
 refine pW.2 ⟨?_,?_⟩
 .unfold tD
  dsimp only;split
  .rename_i h
   unfold fD fD fD r8;rw[cM,cM,cM,cM];exact⟨decide_eq_true J,VM ah h,decide_eq_true J,Z0,rfl⟩
  decide
 unfold sU at hp;split at hp
 .rename_i h
  obtain⟨⟨dT,ev,t3,t4⟩,R⟩:=h;show ig (m.1+10);unfold ig;omega
 cases hp
def anm{t:Int}(h:ig t):dh (i64 (fe t 10)) 10=xa t:=by have O:=h.1;have R:=h.2.1;unfold xa;simp(disch:=omega) only[go_sem]
def an1{m:M}(ah:jJ m=true):Lh (m,())=some (D (w2 m),()):=by
 have hf:=pW.1 ah;have hl:=(Ic ah).1;unfold Lh w2;rw[aai hf.1 J,anm hf.2];by_cases O:xa m.1=1
 .rw[cK O]
  refine bg (a:=(D (uy m),())) rfl (pZ ⟨λh=>⟨.inl O,h⟩,λh=>h.2⟩)
 rw[ct O];by_cases af:xa m.1=3
 .rw[cK af]
  refine bg (a:=(D (uy m),())) rfl (pZ ⟨λh=>⟨.inr af,h⟩,λh=>h.2⟩)
 rw[ct af,show D ((xa m.1=1\/xa m.1=3)/\uy m)=false from cE (λh=>Or.elim h.1 O af)];rfl
def an0{s:aG}(ac:bA n s)(aj:n<=1000000000000){m:M}(ah:jJ m=true):Lg (s.t,m,())=some ((if ¬(sU m.1).2.1=true then gy s 3 else(gh s (gO (tD m))).1).t,()):=by
 have hf:=pW.1 ah;have hl:=(Ic ah).1;unfold Lg;dsimp only;rw[ar9];by_cases hp:(sU m.1).2.1=true
 .rw[if_neg (not_not_intro hp)]
  refine a1 (by rw[hp];rfl) ?_;have ht:(sU m.1).1=m.1+10:=by
   unfold sU at hp ⊢
   grind
  have aF:=amm ah hp;have apC:=(Ic aF).2;have bb:=S0 _ apC;rw[if_pos aF]at bb;rw[ht,show jT ((m.1+10,aO (Int×V×Unit),()),39,[u8 57,u8 49],())=some ((m.1+10,[r8],()),0,()) by rw[LZ _ _ _ (by show(0:Nat)<=100000;omega) bh];unfold D8;rw[ if_pos (show gB 39 [u8 57,u8 49]=true from Z0)];rfl]
  refine bg rfl ?_;rw[SY _ _ J,Rt hf.1];refine bg rfl ?_;cases hh:(hI 11 m.2.1).2.1
  .refine a1 rfl ?_
   have e:tD m=(m.1+10,[r8],()):=by unfold tD;rw[hh];rfl
   rw[e]at bb ⊢;refine bg bb ?_;exact(bJ (xC ac aj _)).trans rfl
  refine bq rfl ?_;have e:tD m=(m.1+10,[(11,(hI 11 m.2.1).1,()),r8],()):=by unfold tD;rw[hh];rfl
  rw[e]at bb ⊢;have pC:=VM ah hh;have aq:=Re pC;rw[show jT ((m.1+10,[r8],()),11,(hI 11 m.2.1).1,())=some ((m.1+10,[(11,(hI 11 m.2.1).1,()),r8],()),0,()) by rw[LZ _ _ _ bh J];unfold D8;rw[ if_pos pC];rfl]
  refine bg rfl (bg bb ?_);exact(bJ (xC ac aj _)).trans rfl
 rw[if_pos hp];refine bq (by rw[OG.2 hp];rfl) (tC s)
def anZ{s:aG}(ac:bA n s)(aj:n<=1000000000000){m:M}(ah:jJ m=true)(v:dr):F_ (s.t,v,m,())=some ((Ew s v.2.2.2.2.1 v.2.2.2.2.2.1 m).t,()):=by
 unfold F_ Ew;rw[aaj];by_cases ht:yp m.1
 .rw[if_neg (not_not_intro ht)]
  refine a1 (by rw[cF ht];rfl) ?_;refine bg (H3 s.e.ph) ?_;by_cases hg:oK s.e.ph
  .rw[if_pos hg]
   refine bq (cF hg) (bg (an1 ah) ?_);have aqP:Rs ((D (w2 m),()).1,3,2,())=some ((if w2 m then 3 else 2),()):=by
    by_cases aF:w2 m
    .rw[cF aF,if_pos aF];rfl
    rw[cE aF,if_neg aF];rfl
   refine bg aqP ?_;exact(bJ (aah ac aj _ _ _)).trans rfl
  rw[if_neg hg];refine a1 (cE hg) ?_;by_cases cT:s.e.ph=6
  .refine bq (cK cT) ((bJ (an0 ac aj ah)).trans ?_)
   by_cases hp:(sU m.1).2.1=true
   .rw[if_neg (not_not_intro hp),if_neg (λh=>h.elim (λh=>h cT) (λh=>h hp))];rfl
   rw[if_pos hp,if_pos (.inr hp)];rfl
  rw[if_pos (.inl cT)];exact a1 (ct cT) (tC s)
 rw[if_pos ht];exact bq (by rw[cE ht];rfl) (tC s)
def aue{s:aG}(h:bA n s)(q:Int)(b:V)(m:M):bA (n+1) (Ew s q b m):=by
 unfold Ew;split
 .exact df (n9 h 3) J
 split
 .exact TQ h _ _ _
 split
 .exact df (n9 h 3) J
 exact qH h _
def ee(a:V):Nat:=256*(a.getD 0 0).toNat+(a.getD 1 0).toNat
def hH:Nat->Int->V->V×Nat×Int×List V
 |0,bad,a=>(a,0,bad,[])
 |k+1,bad,a=>
  if a.length<2 then(a,0,bad,[])
  else if ee a=0\/1024<ee a then
   (if 2+ee a<=a.length then hH k (i64 (bad+1)) (a.drop (2+ee a)) else([],2+ee a-a.length,i64 (bad+1),[]))
  else if a.length<2+ee a then(a,0,bad,[])
  else((hH k bad (a.drop (2+ee a))).1,(hH k bad (a.drop (2+ee a))).2.1,(hH k bad (a.drop (2+ee a))).2.2.1,(a.drop 2).take (ee a)::(hH k bad (a.drop (2+ee a))).2.2.2)
def iV(f:p_)(b:V):p_×List V:=
 if(f.1++b).length<f.2.1.toNat then(([],f.2.1-((f.1++b).length:Int),f.2.2.1,()),[])
 else let r:=hH (f.1++b).length f.2.2.1 ((f.1++b).drop f.2.1.toNat)
  ((r.1,(r.2.1:Int),r.2.2.1,()),r.2.2.2)
def l3(c:Int):Prop:=0<=c/\c<4
instance (c:Int):Decidable (l3 c):=by unfold l3;infer_instance
def mW(h:eO)(c:Int):Prop:=ak h.1 c.toNat false=true
instance (h:eO) (c:Int):Decidable (mW h c):=by unfold mW;infer_instance
def lr(h:eO)(c:Int):eO×Int:=
 if ¬l3 c then(h,1) else if mW h c then(h,9) else((cj h.1 c.toNat true,cj h.2.1 c.toNat ep,cj h.2.2.1 c.toNat (i64 (ak h.2.2.1 c.toNat 0+1)),h.2.2.2),0)
def k9(h:eO)(c:Int):eO×Int:=
 if ¬l3 c then(h,1) else if ¬mW h c then(h,9) else((cj h.1 c.toNat false,cj h.2.1 c.toNat ep,h.2.2),0)
def hn(h:eO)(c:Int)(b:V):eO×List V×Int:=
 if ¬l3 c then(h,[],1) else if ¬mW h c then(h,[],11)
 else((h.1,cj h.2.1 c.toNat (iV (ak h.2.1 c.toNat ep) b).1,h.2.2),(iV (ak h.2.1 c.toNat ep) b).2,0)
def uD(g:Nat->Bool):Nat->Nat
 |0=>0
 |k+1=>uD g k+(if g k then 2^k else 0)
def oE(g:Nat->Bool):List UInt64:=(List.range 16).map λi=>UInt64.ofNat (uD (λj=>g (64*i+j)) 64)
def xc(w:gX)(n:Int):Prop:=w.1<=n\/w.1-1024<=n/\je w (n%1024).toNat=false
instance (w:gX) (n:Int):Decidable (xc w n):=by unfold xc;infer_instance
def wX(w:gX)(n:Int)(p:Nat):Prop:=∃m,w.1<=m/\m<n/\m%1024=(p:Int)
def kT(w:gX)(n:Int):gX×Int:=
 if ¬dC n then(w,1) else if ¬xc w n then(w,6)
 else((max w.1 (n+1),oE (λp=>l2 (D ((p:Int)=n%1024)) (cZ (je w p) (D (¬wX w n p)))),()),0)
def I2(r:fa):fa:=(r.1,if r.2.2.2.1<=1 then jG else r.2.1,r.2.2.1,max 0 (r.2.2.2.1-1),r.2.2.2.2)
def mo(a:gv):gv×Bool×Bool:=
 if a=jW then(a,false,false) else if 1<a.2.2.1 then((a.1,a.2.1,a.2.2.1-1,a.2.2.2),false,false)
 else if 0<a.2.2.2.1 then((a.1,a.2.1,8,a.2.2.2.1-1,a.2.2.2.2),true,false) else(jW,false,true)
def o7(e:c?)(v:dr):Prop:=¬v.2.1=1-e.id\/e.ph=7\/e.ph=8\/v.1=2/\(¬jU e.ph\/¬v.2.2.1=gq e\/(qj e.ring v.2.2.2.1).2.1=false)
instance (e:c?) (v:dr):Decidable (o7 e v):=by unfold o7 jU;infer_instance
def Db(e:c?)(v:dr):V:=if v.1=2 then(qj e.ring v.2.2.2.1).1 else gY e.key
def jh(s:aG)(v:dr):fk×Bool×Unit:=AF s.p (Db s.e v) (c3 v) v.2.2.2.2.2.2.1
def iY(s:aG)(b:V):aG×Option dr:=
 if ¬(eR b).2.1=0 then(gy s 0,none)
 else if o7 s.e (eR b).1 then(gy s 3,none)
 else if(jh s (eR b).1).2.1=false then(gy ⟨s.e,(jh s (eR b).1).1⟩ 1,none)
 else if(eR b).1.1=1 then(⟨s.e,(jh s (eR b).1).1⟩,some (eR b).1)
 else if ¬(kT s.e.win (eR b).1.2.2.2.2.1).2=0 then(gy ⟨s.e,(jh s (eR b).1).1⟩ 2,none)
 else(⟨{ s.e with win:=(kT s.e.win (eR b).1.2.2.2.2.1).1,ring:=qo s.e (eR b).1.2.2.2.1 },(jh s (eR b).1).1⟩,some (eR b).1)
def v_(s:aG)(n:d1):aG:=
 if n.2.1=101 then(if n.1=true then Au s n else B2 s n) else if n.2.1=201 then(if n.1=true then QG s n else BZ s n) else xM s n
def oI(s:aG)(v:dr):aG:=
 if v.1=2 then
  (if(ls v.2.2.2.2.2.1).2.1=0 then v_ (q8 s) (ls v.2.2.2.2.2.1).1
   else if(fw v.2.2.2.2.2.1).2.1=0 then Ew (q8 s) v.2.2.2.2.1 v.2.2.2.2.2.1 (fw v.2.2.2.2.2.1).1 else gy (q8 s) 0)
 else(if(ls v.2.2.2.2.2.1).2.1=0 then qp s v (ls v.2.2.2.2.2.1).1 else gy s 0)
def l6(s:aG)(b:V):aG:=match(iY s b).2 with|none=>(iY s b).1|some v=>oY (oI (iY s b).1 v)
def vb(s:aG):List V->aG
 |[]=>s
 |b::l=>if s.e.ph=8 then s else vb (l6 s b) l
def J?(dt:List Int)(d:Int):List Int:=cj dt 0 (i64 (ak dt 0 0+d))
def sb(s:aG)(c:Int)(b:V):aG:=
 ⟨{ s.e with dt:=J? s.e.dt (i64 ((ak (hn s.e.hub c b).1.2.1 c.toNat ep).2.2.1-(ak s.e.hub.2.1 c.toNat ep).2.2.1)),hub:=(hn s.e.hub c b).1 },s.p⟩
def q5(s:aG)(c:Int)(b:V):aG:=if ¬(hn s.e.hub c b).2.2=0 then s else vb (sb s c b) (hn s.e.hub c b).2.1
def y5(s:aG)(a:gv):aG:=if a.1=1 then(o6 s 0 a.2.2.2.2.1).1 else(gh s a.2.2.2.2.1).1
def ze(s:aG):aG:=if s.e.ph=4 then xe s else if s.e.ph=5 then zs s else zt s
def Ie(s:aG):aG:=⟨{ s.e with ring:=I2 s.e.ring },s.p⟩
def yy(s:aG)(a:gv):aG:=⟨{ s.e with ask:=a },s.p⟩
def uE(s:aG):aG:=
 if(mo s.e.ask).2.1=true then y5 (yy s (mo s.e.ask).1) (mo s.e.ask).1
 else if(mo s.e.ask).2.2=true then ze (yy s (mo s.e.ask).1) else yy s (mo s.e.ask).1
def kG(s:aG):aG:=
 if s.e.ph=7\/s.e.ph=8 then s
 else if jU s.e.ph then(if s.e.seq=4611686018427387904 then(ru (Ie s)).1 else oY (uE (Ie s)))
 else oY (uE s)
def v2(s:aG)(c:Int):aG×Int:=
 if s.e.ph=8 then(s,11) else if ¬(lr s.e.hub c).2=0 then(s,(lr s.e.hub c).2) else(oY ⟨{ s.e with hub:=(lr s.e.hub c).1 },s.p⟩,0)
def nR(e:c?)(c:Int):c?:={ e with hub:=(k9 e.hub c).1 }
abbrev dy:=Int×Int×Int×Int×V×Unit
def tF(s:aG)(a:dy):aG×Int:=
 if a.1=0 then yh s a.2.2.2.2.1 else if a.1=1 then ru s else if a.1=2 then za s else if a.1=3 then zh s else if a.1=4 then Am s a.2.2.2.2.1
 else if a.1=5 then zg s a.2.2.1 else if a.1=6 then(kG s,0) else if a.1=14 then(wZ s,0)
 else if a.1=15 then(if s.e.ph=8 then(B? s,0) else(s,9)) else if a.1=16 then(⟨{ s.e with power:=a.2.2.1 },s.p⟩,0) else(s,1)
abbrev eN:=Int×Int×V×Unit
structure bW where
 e:Bool->c?
 p:fk
 ba:List eN
 old:List eN
 eE:Bool->List lz
def iW{α:Type}(f:Bool->α)(i:Bool)(x:α):Bool->α:=λj=>if j=i then x else f j
def bW.at(w:bW)(i:Bool):aG:=⟨w.e i,w.p⟩
def eq(i:Bool):Int:=if i then 1 else 0
def iJ(w:bW)(c:Int):bW:={ w with e:=λi=>nR (w.e i) c,ba:=w.ba.filter λf=>decide (¬f.2.1=c) }
def y?(w:bW):bW:=iJ (iJ (iJ (iJ w 0) 1) 2) 3
def i9(i:Bool)(x:qb):eN:=(1-eq i,x.1,x.2.1,())
def l7(w:bW)(i:Bool)(s:aG):bW:=
 { e:=iW w.e i { s.e with bB:=[],got:=[] },p:=s.p,ba:=w.ba++s.e.bB.map (i9 i),old:=w.old++s.e.bB.map (i9 i),eE:=iW w.eE i (w.eE i++s.e.got) }
def jQ(w:bW)(i:Bool)(s:aG):bW:=if s.e.ph=8/\¬(w.e i).ph=8 then y? (l7 w i s) else l7 w i s
def lx(n:Int):Bool:=decide (n=1)
def k7(w:bW)(i:Bool)(c:Int)(b:V):bW:=jQ w i (q5 (w.at i) c b)
def ns:eN:=(0,0,[],())
def lI(w:bW)(n m:Int):bW×Int:=
 if ¬(0<=n/\n<(w.ba.length:Int)) then(w,12)
 else let f:=ak w.ba n.toNat ns
  if 0<m/\m<(f.2.2.1.length:Int) then(k7 { w with ba:=w.ba.set n.toNat (f.1,f.2.1,f.2.2.1.drop m.toNat,()) } (lx f.1) f.2.1 (f.2.2.1.take m.toNat),0)
  else(k7 { w with ba:=w.ba.eraseIdx n.toNat } (lx f.1) f.2.1 f.2.2.1,0)
def FR(w:bW)(n:Int):bW×Int:=if ¬(0<=n/\n<(w.ba.length:Int)) then(w,12) else({ w with ba:=w.ba.eraseIdx n.toNat },0)
def Fg(w:bW)(n:Int):bW×Int:=if ¬(0<=n/\n<(w.old.length:Int)) then(w,12) else({ w with ba:=w.ba++[ak w.old n.toNat ns] },0)
def axw(b:V)(m:Nat)(x:UInt8):V:=cj b m (ak b m (u8 0)^^^x)
def IQ(w:bW)(n m:Int)(b:V):bW×Int:=
 if ¬(0<=n/\n<(w.old.length:Int))\/¬(0<=m/\m<((ak w.old n.toNat ns).2.2.1.length:Int))\/b=[]then(w,12)
 else let f:=ak w.old n.toNat ns
  ({ w with ba:=w.ba++[(f.1,f.2.1,axw f.2.2.1 m.toNat (ak b 0 (u8 0)),())] },0)
def Hc(w:bW)(i c:Int)(b:V):bW×Int:=if ¬(0<=i/\i<2) then(w,1) else(k7 w (lx i) c b,0)
def rC(w:bW)(i:Bool)(c:Int):bW:=jQ w i (v2 (w.at i) c).1
def AN(w:bW)(c:Int):bW×Int:=
 if(w.e false).ph=8\/(w.e true).ph=8 then(w,11) else if ¬l3 c then(w,1)
 else if mW (w.e false).hub c\/mW (w.e true).hub c then(w,9) else(rC (rC w false c) true c,0)
def FL(w:bW)(c:Int):bW×Int:=if ¬l3 c then(w,1) else(iJ w c,0)
def m?: Nat->bW->bW
 |0,w=>w
 |k+1,w=>if w.ba=[]then w else m? k (lI w 0 0).1
def nz(w:bW)(i:Bool):bW:=jQ w i (kG (w.at i))
def jK(w:bW):bW:=nz (nz (m? w.ba.length w) false) true
def oG:Nat->bW->bW
 |0,w=>w
 |k+1,w=>oG k (jK w)
def uX(w:bW)(a:dy):bW×Int:=if ¬(0<=a.2.1/\a.2.1<2) then(w,1) else(jQ w (lx a.2.1) (tF (w.at (lx a.2.1)) a).1,(tF (w.at (lx a.2.1)) a).2)
def gT(w:bW)(a:dy):bW×Int:=
 if a.1=7 then lI w a.2.2.1 a.2.2.2.1 else if a.1=8 then FR w a.2.2.1 else if a.1=9 then Fg w a.2.2.1 else if a.1=10 then IQ w a.2.2.1 a.2.2.2.1 a.2.2.2.2.1
 else if a.1=11 then Hc w a.2.1 a.2.2.1 a.2.2.2.2.1 else if a.1=12 then AN w a.2.2.1 else if a.1=13 then FL w a.2.2.1
 else if a.1=17 then(if a.2.2.1<0 then(w,1) else(oG (min a.2.2.1 100).toNat w,0))
 else if 0<=a.1/\a.1<=6\/14<=a.1/\a.1<=16 then uX w a else(w,1)
def AZ(w:bW):List dy->bW×List Int
 |[]=>(w,[])
 |a::l=>((AZ (gT w a).1 l).1,(gT w a).2::(AZ (gT w a).1 l).2)
def sa(i:Bool)(key:V):c?:=⟨eq i,key,0,Du, -1,0,0,0,0,sK,n7,jW,0,0,[],eP,[],[],[0,0,0,0]⟩
def jt(key:V)(fO:Bool):bW:=⟨λi=>sa i key,(fO,[],false,()),[],[],λ_=>[]⟩
end Yp
namespace Yp
open Go
set_option maxRecDepth 100000
set_option maxHeartbeats 1000000
def pA:List (V×V):=[([115,101,110,100],[105,98]),([111,110],[105]),([111,102,102],[105]),([101,99,104,111],[105]),([107,101,121],[105,98]),([100,97,121],[105,110]),([116,105,99,107],[105]),([103,105,118,101],[110]),([100,114,111,112],[110]),([97,103,97,105,110],[110]),([115,112,111,105,108],[110,109,98]),([105,110,106,101,99,116],[105,110,98]),([114,97,105,115,101],[110]),([99,117,116],[110]),([99,114,97,115,104],[105]),([98,111,111,116],[105]),([97,114,109],[105,110]),([99,97,108,109],[110])]
def sL(w:V)(hi:Nat):Prop:=(1<=w.length/\w.length<=18/\fY w)/\val w<=hi/\(w=[48]\/w.head?≠some 48)
def zH(w:V):Prop:=(w.length%2=0/\zI w)/\2<=w.length/\w.length<=1800
instance (w:V) (hi:Nat):Decidable (sL w hi):=by unfold sL;infer_instance
instance (w:V):Decidable (zH w):=by unfold zH;infer_instance
def uH(r:UInt8)(w:V)(a:dy):Option dy:=
 if r=105 then(if sL w 1 then some (a.1,(val w:Int),a.2.2.1,a.2.2.2.1,a.2.2.2.2.1,()) else none)
 else if r=110 then(if sL w 999999 then some (a.1,a.2.1,(val w:Int),a.2.2.2.1,a.2.2.2.2.1,()) else none)
 else if r=109 then(if sL w 999999 then some (a.1,a.2.1,a.2.2.1,(val w:Int),a.2.2.2.2.1,()) else none)
 else if zH w then some (a.1,a.2.1,a.2.2.1,a.2.2.2.1,oj w,()) else none
def xg:V->List V->dy->Option dy
 |[],_,a=>some a
 |r::rs,w::dG,a=>(uH r w a).bind (xg rs dG)
 |_::_,[],_=>none
def qi(w:V):Nat->List (V×V)->Option (Nat×V)
 |_,[]=>none
 |i,p::r=>if w=p.1 then some (i,p.2) else qi w (i+1) r
def rQ(k:Nat)(dG:V)(n:Nat):V:=if k=7/\n=3 then[110,109]else dG
def AE(l:List V):Option dy:=
 match qi (l.headD []) 0 pA with
 |none=>none
 |some (k,dG)=>if l.length=1+(rQ k dG l.length).length then xg (rQ k dG l.length) l.tail ((k:Int),0,0,0,[],()) else none
def mS(line:V):Option dy:=AE (gN 32 line)
def adm(h:fY w):w.count 32=0:=by rw[List.count_eq_zero];intro hm;obtain⟨i,hi,e⟩:=EQ.1 hm;have:=h i hi;rw[e]at this;exact absurd this.1 bP
def aty(b:V):(eV b).count 32=0:=by rw[List.count_eq_zero];intro hm;obtain⟨i,hi,e⟩:=EQ.1 hm;have:=R9 b i hi;rw[e]at this;exact absurd this (by unfold rm;decide)
def adw(h:n<=hi)(hh:hi<=999999):sL (pz n) hi:=by
 have hp:n<10^20:=J;obtain⟨j,an,aA,hl,hg⟩:=F6 hp;refine⟨⟨(K5 hp).1,?_,Q? hp⟩,by rw[VV hp];exact h,anl hp⟩;rw[aA,lm];rcases hg with rfl|hg
 .omega
 have:j<6:=(Nat.pow_lt_pow_iff_right (by omega:1<10)).1 (Nat.lt_of_le_of_lt hg (show n<10^6 by omega));omega
def apQ(h:1<=b.length)(bL:b.length<=900):zH (eV b):=by refine⟨⟨by rw[nh];omega,R9 b⟩,by rw[nh];omega,by rw[nh];omega⟩
def oU:V->List V->V
 |a,[]=>a
 |a,w::dG=>oU (a++32::w) dG
def V?: ∀(dG:List V) (a:V),(∀w∈dG,w.count 32=0)->∀(u:List V),gN 32 a=u->gN 32 (oU a dG)=u++dG
 |[],a,_,u,h=>by rw[hF];exact h
 |w::dG,a,bb,u,h=>by
  have O:∀(a:V) u,gN 32 a=u->gN 32 (a++32::w)=u++[w]:=by
   intro a;induction a with
   |nil=>intro u aL;rw[<- aL];show(if(32:UInt8)=32 then _ else _)=_;rw[if_pos rfl,Jg 32 w (bb w (.head _))];rfl
   |cons x a ih=>
    intro u aL;rw[<- aL];show(if x=32 then _ else _)=(if x=32 then _ else _)++[w];rw[show a.append (32::w)=a++32::w from rfl,ih _ rfl];split
    .rfl
    have eC:=ahE 32 a;cases ai:gN 32 a with
    |nil=>exact absurd ai eC
    |cons y t=>rfl
  rw[show oU a (w::dG)=oU (a++32::w) dG from rfl,V? dG (a++32::w) (λx hx=>bb x (.tail _ hx)) _ (O a u h),gt];rfl
def hX(i:Bool)(n m:Nat)(b:V)(r:UInt8):V:=if r=105 then(if i=true then[49]else[48]) else if r=110 then pz n else if r=109 then pz m else eV b
def sP(i:Bool)(n m:Nat)(b:V)(a:dy)(r:UInt8):dy:=
 if r=105 then(a.1,(if i=true then 1 else 0),a.2.2.1,a.2.2.2.1,a.2.2.2.2.1,())
 else if r=110 then(a.1,a.2.1,(n:Int),a.2.2.2.1,a.2.2.2.2.1,())
 else if r=109 then(a.1,a.2.1,a.2.2.1,(m:Int),a.2.2.2.2.1,())
 else(a.1,a.2.1,a.2.2.1,a.2.2.2.1,b,())
section
variable {i:Bool} {n m:Nat} {b:V} (aj:n<=999999) (hm:m<=999999) (Y:1<=b.length/\b.length<=900)
include aj hm Y
def ayD(r:UInt8)(a:dy):uH r (hX i n m b r) a=some (sP i n m b a r):=by
 unfold uH hX sP;by_cases O:r=105
 .simp only[if_pos O]
  cases i
  .exact if_pos bP
  exact if_pos bP
 simp only[if_neg O];by_cases R:r=110
 .simp only[if_pos R];rw[if_pos (adw aj J),VV J]
 simp only[if_neg R];by_cases af:r=109
 .simp only[if_pos af];rw[if_pos (adw hm J),VV J]
 simp only[if_neg af];rw[if_pos (apQ Y.1 Y.2),ahu]
def aaq:∀(rs:V) (a:dy),xg rs (rs.map (hX i n m b)) a=some (rs.foldl (sP i n m b) a)
 |[],_=>rfl
 |r::rs,a=>by show(uH r (hX i n m b r) a).bind (xg rs (rs.map (hX i n m b)))=_;rw[ayD aj hm Y];exact aaq rs _
omit Y in
def W2(r:UInt8):(hX i n m b r).count 32=0:=by
 unfold hX;split
 .cases i<;>decide
 split
 .exact adm (Q? J)
 split
 .exact adm (Q? J)
 exact aty b
omit Y in
def ayG(a:V)(bu:a.count 32=0)(rs:V):gN 32 (oU a (rs.map (hX i n m b)))=a::rs.map (hX i n m b):=by rw[V? (rs.map (hX i n m b)) a (λw bb=>by obtain⟨r,_,rfl⟩:=m1.1 bb;exact W2 aj hm r) _ (Jg 32 a bu)];rfl
def auH{a:V}(bu:a.count 32=0)(hf:qi a 0 pA=some (k,dG))(rs:V)(ah:rQ k dG (1+rs.length)=rs):
  mS (oU a (rs.map (hX i n m b)))=some (rs.foldl (sP i n m b) ((k:Int),0,0,0,[],())):=by
 have hl:(a::rs.map (hX i n m b)).length=1+rs.length:=by rw[ew,ov];omega
 unfold mS AE;rw[ayG aj hm a bu rs,show(a::rs.map (hX i n m b)).headD []=a from rfl,hf];dsimp only;rw[hl,ah,if_pos rfl];exact aaq aj hm Y rs _
omit Y in
def auI{a:V}(bu:a.count 32=0)(hf:qi a 0 pA=some (k,dG))(rs:V)(ah:(rQ k dG (2+rs.length)).length≠1+rs.length):
  mS (oU a (rs.map (hX i n m b))++[32])=none:=by
 have hx:oU a (rs.map (hX i n m b))++[32]=oU a (rs.map (hX i n m b)++[[]]):=by
  generalize rs.map (hX i n m b)=l;induction l generalizing a with
  |nil=>rfl
  |cons w l ih=>
   have:∀(l:List V) (a:V),oU a l++[32]=oU a (l++[[]]):=by
    intro l;induction l with
    |nil=>intro a;rfl
    |cons w l ih=>intro a;exact ih _
   exact this (w::l) a
 have hl:(a::(rs.map (hX i n m b)++[[]])).length=2+rs.length:=by rw[ew,cG,ov];show rs.length+1+1=_;omega
 unfold mS AE;rw[hx,V? (rs.map (hX i n m b)++[[]]) a (λw bb=>by
  rcases io.1 bb with bb|bb
  .obtain⟨r,_,rfl⟩:=m1.1 bb;exact W2 aj hm r
  rw[pf.1 bb];rfl) _ (Jg 32 a bu)]
 rw[show[a]++(rs.map (hX i n m b)++[[]])=a::(rs.map (hX i n m b)++[[]]) from rfl,show(a::(rs.map (hX i n m b)++[[]])).headD []=a from rfl,hf];dsimp only;rw[hl,if_neg J]
end
def auG(s:V):mS (32::s)=none:=by unfold mS AE;rw[show gN 32 (32::s)=[]::gN 32 s from if_pos rfl];rfl
end Yp
namespace Yp
open Go
set_option maxRecDepth 100000
set_option maxHeartbeats 2000000
def aze{n:Int}(h:Zu n):l8 (o0 n)=(n,true,()):=by
 have ht:jq (o0 n) 0 8=(n,8,0,()):=by
  refine agX (b:=o0 n) (A:=0) (W:=8) (n:=n) J J (by rw[MY];omega) (by have:=h.1;omega) ?_ h.2 ?_
  .have:=h.2
   omega
  rfl
 unfold l8;rw[ht,if_pos ⟨rfl,h,rfl⟩]
def OB:=@Nat.mul_assoc
def Vd(g:Nat->Bool):∀k,uD g k<2^k
 |0=>by simp[uD]
 |k+1=>by
  have:=Vd g k;unfold uD
  grind
def agQ(g:Nat->Bool)(j:Nat):∀k,j<k->uD g k/2^j%2=if g j then 1 else 0
 |k+1,h=>by
  unfold uD;by_cases aqc:j=k
  .subst aqc
   have:=Vd g j;have hp:0<2^j:=wL J;split
   .rw[Nat.add_div_right _ hp,Fb this]
   rw[te,Fb this]
  have ih:=agQ g j k J;split
  .obtain⟨d,rfl⟩:∃d,k=j+1+d:=⟨k-j-1,J⟩
   have hp:0<2^j:=wL J;have e:2^(j+1+d)=2^j*(2*2^d):=by rw[Nat.pow_add,qW,OB]
   rw[<- ih,e,Nat.add_mul_div_left _ _ hp];omega
  omega
def Fq(g:Nat->Bool):(oE g).length=16:=by simp[oE]
def B_(t:Int)(g:Nat->Bool){p:Nat}(hp:p<1024):je (t,oE g,()) p=g p:=by
 have e:ak (oE g) (p/64) (u64 0)=UInt64.ofNat (uD (λj=>g (64*(p/64)+j)) 64):=by
  unfold ak oE
  grind
 have bm:=Vd (λj=>g (64*(p/64)+j)) 64;have hm:(UInt64.ofNat (uD (λj=>g (64*(p/64)+j)) 64)).toNat=uD (λj=>g (64*(p/64)+j)) 64:=by exact lY bm
 unfold je;rw[ e,hm,agQ _ _ 64 (td _ J)]
 grind
def yn(w:gX)(q:Int):Prop:=q<w.1-1024\/q<w.1/\je w (q%1024).toNat=true
def as0{w:gX}{n:Int}(h:(kT w n).2=0):dC n/\xc w n/\kT w n=((max w.1 (n+1),oE (λp=>l2 (D ((p:Int)=n%1024)) (cZ (je w p) (D (¬wX w n p)))),()),0):=by
 by_cases O:dC n
 .by_cases R:xc w n
  .refine⟨O,R,?_⟩
   unfold kT
   grind
  unfold kT at h
  grind
 unfold kT at h
 grind
def ac7(m:Int):0<=m%1024/\(m%1024).toNat<1024/\(((m%1024).toNat:Nat):Int)=m%1024:=⟨J,J,J⟩
def as1{w:gX}{n:Int}(hf:xc w n):¬yn w n:=by
 rintro(h|⟨af,aq⟩)
 .rcases hf with a8|⟨a8,_⟩<;>omega
 rcases hf with a8|⟨_,a8⟩
 .omega
 grind
def ac1{t n:Int}(h:n<t){g:Nat->Bool}(hg:g (n%1024).toNat=true):yn (t,oE g,()) n:=by refine .inr ⟨h,?_⟩;rw[B_ _ _ (ac7 n).2.1];exact hg
def as3{w:gX}{n m:Int}(h:yn w m):yn (max w.1 (n+1),oE (λp=>l2 (D ((p:Int)=n%1024)) (cZ (je w p) (D (¬wX w n p)))),()) m:=by
 rcases h with hm|⟨hm,aqm⟩
 .refine .inl ?_
  omega
 by_cases aqj:m<max w.1 (n+1)-1024
 .exact .inl aqj
 refine ac1 J ?_;rw[aqm];by_cases ai:wX w n (m%1024).toNat
 .exfalso
  obtain⟨x,a8,cT,dN⟩:=ai;omega
 rw[cF ai];exact g47
def as2{w:gX}{n:Int}(h:(kT w n).2=0):dC n/\¬yn w n/\yn (kT w n).1 n/\(∀m,yn w m->yn (kT w n).1 m)/\(kT w n).1.1=max w.1 (n+1)/\(kT w n).1.2.1.length=16:=by
 have hh:=as0 h;refine⟨hh.1,as1 hh.2.1,?_,λm hm => ?_,congrArg (λx:gX×Int=>x.1.1) hh.2.2,?_⟩
 .rw[hh.2.2]
  refine ac1 J ?_;rw[cF (ac7 n).2.2];exact g46
 .rw[hh.2.2]
  exact as3 hm
 rw[hh.2.2];dsimp only;exact Fq _
def Um(h:(eR b).2.1=0):o1 (eR b).1/\(eR b).1=rD b/\47<=b.length/\b.length<=946:=by
 unfold eR at h ⊢
 grind
def Zn(s:aG)(v:dr)(k:V):(mF s v k).1.e.ph=s.e.ph/\(mF s v k).1.e.queue=s.e.queue/\(mF s v k).1.e.got=s.e.got:=by unfold mF;split<;>exact⟨rfl,rfl,rfl⟩
def awT(s:aG)(b:V):(gh s b).1.e.ph=s.e.ph/\(gh s b).1.e.queue=s.e.queue/\(gh s b).1.e.got=s.e.got:=by
 unfold gh;split
 .exact⟨rfl,rfl,rfl⟩
 split
 .exact⟨rfl,rfl,rfl⟩
 split
 .exact⟨rfl,rfl,rfl⟩
 dsimp only;split
 .exact Zn _ _ _
 exact Zn _ _ _
def rr(s:aG):Prop:=∃n,bA n s
def Un(h:(eR b).2.1=0):(eR b).1.2.2.1=[d4 (eR b).1,e1 (eR b).1]:=by
 unfold eR at h ⊢;split at h
 .cases h
 split at h
 .cases h
 split at h
 .rename_i O R af
  rw[if_neg O,if_neg R,if_pos af];rfl
 cases h
def VE{s:aG}{v:dr}(h:(iY s b).2=some v):(eR b).2.1=0/\v=(eR b).1:=by
 unfold iY at h
 grind
def YE(s:aG)(v:dr):(jh s v).1.2.1=s.p.2.1:=by
 unfold jh AF
 repeat(first|rfl|split)
def av9{e:c?}(h:lR e.ring)(g:Int):lR (qo e g):=by
 unfold qo;split
 .exact UB h
 exact h
def ad2{s:aG}(h:bA n s)(b:V):bA n (iY s b).1:=by
 have hp:∀v,bA n ⟨s.e,(jh s v).1⟩:=λv=>⟨h.e,by rw[YE];exact h.p⟩;unfold iY;split
 .exact n9 h 0
 split
 .exact n9 h 3
 split
 .exact n9 (hp _) 1
 split
 .grind
 split
 .exact n9 (hp _) 2
 rename_i O R af aq a8;have hm:=as2 (wy.1 a8);have cz:=hm.1;have lJ:=h.e.top;unfold dC at cz;refine⟨{ (hp (eR b).1).e with win:=hm.2.2.2.2.2,ring:=av9 h.e.ring _,top := ?_ },(hp _).p⟩
 grind
def at8{s:aG}(h:bA n s)(q:d1):bA (n+1) (Au s q):=by
 unfold Au;split
 .exact df (n9 h 3) J
 split
 .exact qH h _
 split
 .exact qH h _
 split
 .split
  .exact qH (HT h (Id (M6 h.e.ring) _ _)) _
  exact df (n9 h 3) J
 split
 .exact qH (ad4 h (Id h.e.ring _ _)) _
 exact df (n9 h 3) J
def adU{s:aG}(h:bA n s):bA n (xe s):=by
 unfold xe;split
 .exact HT h (M6 h.e.ring)
 exact h
def atT{s:aG}(h:bA n s)(q:d1):bA (n+1) (B2 s q):=by
 unfold B2;split
 .exact df (n9 h 3) J
 split
 .exact df (adU h) J
 exact Ax (HT h (UB h.e.ring)) _
def at6{s:aG}(h:bA n s)(b:V):bA (n+1) (Am s b).1:=by
 unfold Am;split
 .exact df h J
 split
 .exact df h J
 split
 .exact df h J
 split
 .exact df h J
 exact Ax (adV h _ _) _
def aub{s:aG}(h:bA n s)(q:d1):bA (n+2) (v_ s q):=by
 unfold v_;split
 .split
  .exact df (at8 h q) J
  exact df (atT h q) J
 split
 .split
  .exact df (atZ h q) J
  exact df (atS h q) J
 exact at7 h q
def adO{s:aG}(h:bA n s){v:dr}(aC:∀k:Nat,dC (ak v.2.2.1 k 0)):bA (n+3) (oI s v):=by
 have hf:=adS h;unfold oI;split
 .split
  .exact aub hf _
  split
  .exact df (aue hf _ _ _) J
  exact df (n9 hf 0) J
 split
 .exact at5 h aC _
 exact df (n9 h 0) J
def adT{s:aG}(h:bA n s)(b:V):bA (n+1003) (l6 s b):=by
 have ht:=ad2 h b;unfold l6;split
 .exact df ht J
 rename_i v aC;obtain⟨O,rfl⟩:=VE aC;have ah:o1 (eR b).1:=by
  unfold eR at O ⊢
  grind
 refine HQ (adO ht λk => ?_);rw[Un O];match k with
 |0=>exact ah.1.2.1
 |1=>exact ah.1.2.2.1
 |k+2=>show dC 0;decide
def adK:∀(l:List V) {s:aG},rr s->rr (vb s l)
 |[],s,h=>h
 |b::l,s,h=>by
  unfold vb;split
  .exact h
  obtain⟨n,h⟩:=h;exact adK l ⟨_,adT h b⟩
def Q6{l:List p_}{x:p_}(hx:pV x)(hl:∀c,pV (ak l c ep))(i c:Nat):pV (ak (cj l i x) c ep):=by
 unfold ak cj;rw[nE,E'];split
 .split
  .exact hx
  exact x9
 exact hl c
theorem azb(a:V)(s b:Int):KZ (a,s,b,())=(ee a:Int):=rfl
def ax4(a:V):ee a<=65535:=by have O:=(a.getD 0 0).toNat_lt;have R:=(a.getD 1 0).toNat_lt;unfold ee;omega
def QC:∀(k:Nat) (bad:Int) (a:V),a.length<=k->pV ((hH k bad a).1,((hH k bad a).2.1:Int),(hH k bad a).2.2.1,())
 |0,bad,a,h=>by have bu:a=[]:=List.eq_nil_of_length_eq_zero J;subst bu;exact⟨by show ¬((0:Int)<0\/(65535:Int)<0\/(0:Int)<0/\0<0);omega,.inl (by show 0<2;omega)⟩
 |k+1,bad,a,h=>by
  have ht:=ax4 a;unfold hH;split
  .rename_i O
   exact⟨by show ¬((0:Int)<0\/(65535:Int)<0\/(0:Int)<0/\0<a.length);omega,.inl O⟩
  split
  .split
   .exact QC k _ _ (by grind)
   rename_i R af;refine⟨?_,.inl bh⟩
   grind
  split
  .rename_i R af
   refine⟨by show ¬((0:Int)<0\/(65535:Int)<0\/(0:Int)<0/\0<a.length);omega,.inr ?_⟩;show 1<=(ee a:Int)/\(ee a:Int)<=1024/\(a.length:Int)<(ee a:Int)+2;omega
  exact QC k _ _ (by grind)
def avb{f:p_}(h:pV f)(b:V):pV (iV f b).1:=by
 have O:=h.1;unfold iV;split
 .rename_i R
  refine⟨?_,.inl bh⟩
  grind
 exact QC _ _ _ bh
def adR{s:aG}(h:bA n s)(c:Int)(b:V):bA n (sb s c b):=by
 have key:(hn s.e.hub c b).1.1.length=4/\(0<=(hn s.e.hub c b).1.2.2.2.1/\(hn s.e.hub c b).1.2.2.2.1<4)/\(hn s.e.hub c b).1.2.1.length=4/\(hn s.e.hub c b).1.2.2.1.length=4/\∀k,pV (ak (hn s.e.hub c b).1.2.1 k ep):=by
  unfold hn;split
  .exact⟨h.e.up,h.e.next,h.e.feed,h.e.life,h.e.fd⟩
  split
  .exact⟨h.e.up,h.e.next,h.e.feed,h.e.life,h.e.fd⟩
  refine⟨h.e.up,h.e.next,?_,h.e.life,Q6 (avb (h.e.fd _) b) h.e.fd _⟩;unfold cj;rw[ko];exact h.e.feed
 refine⟨{ h.e with dt := ?_,up:=key.1,next:=key.2.1,feed:=key.2.2.1,life:=key.2.2.2.1,fd:=key.2.2.2.2 },h.p⟩;show(J? _ _).length=4;unfold J? cj;rw[ko];exact h.e.dt
def atP{s:aG}(h:rr s)(c:Int)(b:V):rr (q5 s c b):=by
 unfold q5;split
 .exact h
 obtain⟨n,h⟩:=h;exact adK _ ⟨n,adR h c b⟩
def atY{e:c?}(h:qG n e)(c:Int):qG n (nR e c):=by
 have key:(k9 e.hub c).1.1.length=4/\(0<=(k9 e.hub c).1.2.2.2.1/\(k9 e.hub c).1.2.2.2.1<4)/\(k9 e.hub c).1.2.1.length=4/\(k9 e.hub c).1.2.2.1.length=4/\∀k,pV (ak (k9 e.hub c).1.2.1 k ep):=by
  unfold k9;split
  .exact⟨h.up,h.next,h.feed,h.life,h.fd⟩
  split
  .exact⟨h.up,h.next,h.feed,h.life,h.fd⟩
  refine⟨?_,h.next,?_,h.life,Q6 x9 h.fd _⟩
  .unfold cj;rw[ko];exact h.up
  unfold cj;rw[ko];exact h.feed
 exact{ h with up:=key.1,next:=key.2.1,feed:=key.2.2.1,life:=key.2.2.2.1,fd:=key.2.2.2.2 }
def ad0{s:aG}(h:bA n s)(c:Int):bA n ⟨{ s.e with hub:=(lr s.e.hub c).1 },s.p⟩:=by
 have key:(lr s.e.hub c).1.1.length=4/\(0<=(lr s.e.hub c).1.2.2.2.1/\(lr s.e.hub c).1.2.2.2.1<4)/\(lr s.e.hub c).1.2.1.length=4/\(lr s.e.hub c).1.2.2.1.length=4/\∀k,pV (ak (lr s.e.hub c).1.2.1 k ep):=by
  unfold lr;split
  .exact⟨h.e.up,h.e.next,h.e.feed,h.e.life,h.e.fd⟩
  split
  .exact⟨h.e.up,h.e.next,h.e.feed,h.e.life,h.e.fd⟩
  refine⟨?_,h.e.next,?_,?_,Q6 x9 h.e.fd _⟩
  .unfold cj;rw[ko];exact h.e.up
  .unfold cj;rw[ko];exact h.e.feed
  unfold cj;rw[ko];exact h.e.life
 exact⟨{ h.e with up:=key.1,next:=key.2.1,feed:=key.2.2.1,life:=key.2.2.2.1,fd:=key.2.2.2.2 },h.p⟩
def aua{s:aG}(h:bA n s)(c:Int):bA (n+1000) (v2 s c).1:=by
 unfold v2;split
 .exact df h J
 split
 .exact df h J
 exact HQ (ad0 h c)
def awd{r:fa}(h:lR r):lR (I2 r):=by
 unfold I2;rcases h with rfl|⟨O,R,af,aq,a8,cT⟩
 .exact .inl rfl
 refine .inr ⟨O,R,af,aq,?_,cT⟩
 grind
def HR{s:aG}(h:bA n s):bA n (Ie s):=⟨{ h.e with ring:=awd h.e.ring },h.p⟩
def Uz{a:gv}(h:AR a):AR (mo a).1:=by
 unfold mo;split
 .exact h
 rename_i ao;obtain⟨O,R,af,aq,a8⟩:=h.resolve_left ao;split
 .refine .inr ⟨O,?_,?_,aq,a8⟩
  .grind
  grind
 split
 .refine .inr ⟨O,by show(1:Int)<=8;decide,by show(8:Int)<=8;decide,?_,?_⟩
  .grind
  grind
 exact .inl rfl
def ad5{s:aG}(h:bA n s){a:gv}(bu:AR a):bA n (yy s a):=⟨{ h.e with askr:=bu },h.p⟩
def at3{s:aG}(h:bA n s):bA n (zs s):=by
 unfold zs;split
 .exact⟨{ h.e with askr:=.inl rfl,ph:=⟨by show(0:Int)<=3;omega,by show(3:Int)<=8;omega⟩ },h.p⟩
 exact h
def atR{s:aG}(h:bA n s)(a:gv):bA (n+1) (y5 s a):=by
 unfold y5;split
 .exact MB h _ _
 exact qH h _
def atX{s:aG}(h:bA n s):bA (n+1) (ze s):=by
 unfold ze;split
 .exact df (adU h) J
 split
 .exact df (at3 h) J
 exact at4 h
def TS{s:aG}(h:bA n s):bA (n+1) (uE s):=by
 have bb:=ad5 h (Uz h.e.askr);unfold uE;split
 .exact atR bb _
 split
 .exact atX bb
 exact df bb J
def ad3{s:aG}(h:bA n s):bA (n+1001) (kG s):=by
 unfold kG;split
 .exact df h J
 split
 .split
  .exact df (adW (HR h)) J
  exact HQ (TS (HR h))
 exact HQ (TS h)
def at1{s:aG}(h:bA n s)(a:dy):bA (n+1001) (tF s a).1:=by
 unfold tF;split
 .exact aud h _
 split
 .exact df (adW h) J
 split
 .exact df (atW h) J
 split
 .exact df (at2 h) J
 split
 .exact df (at6 h _) J
 split
 .exact df (at0 h _) J
 split
 .exact ad3 h
 split
 .exact df (adN h) J
 split
 .split
  .exact df (atV h) J
  exact df h J
 split
 .exact df ⟨{ h.e with },h.p⟩ J
 exact df h J
def abZ(c:Int):G0 (c,())=some (D (l3 c),()):=by unfold G0 l3;simp only[go_sem]
def ab0(h:eO)(c:Int)(b:Bool):G1 (h,c,b,()) =
  (if ¬l3 c then some (h,1,()) else if ak h.1 c.toNat false=b then some (h,9,()) else some ((cj h.1 c.toNat b,cj h.2.1 c.toNat ep,h.2.2),0,())):=by
 unfold G1;rw[abZ];by_cases ai:l3 c
 .rw[cF ai,if_neg (not_not_intro ai)]
  have aq:aU c (bf 4)=true:=by simp only[go_sem];exact ai
  refine(bn aq ?_);by_cases aA:ak h.1 c.toNat false=b
  .rw[if_pos aA]
   exact ce (by rw[g43,g33];exact cF aA)
  rw[if_neg aA];exact a1 (by rw[g43,g33];exact cE aA) (bn aq (dR aq))
 rw[cE ai,if_pos ai];rfl
def arf(h:eO)(c:Int):LM (h,c,())=some ((k9 h c).1,(k9 h c).2,()):=by
 unfold LM k9;rw[ab0];by_cases ai:l3 c
 .rw[if_neg (not_not_intro ai),if_neg (not_not_intro ai)]
  by_cases aA:ak h.1 c.toNat false=false
  .rw[if_pos aA,if_pos (by unfold mW;rw[aA];simp)];rfl
  rw[if_neg aA,if_neg (by rw[Bool.not_eq_false]at aA;exact not_not_intro aA)];rfl
 rw[if_pos ai,if_pos ai];rfl
def ari(h:eO)(c:Int):LO (h,c,())=some ((lr h c).1,(lr h c).2,()):=by
 unfold LO lr;rw[ab0];by_cases ai:l3 c
 .rw[if_neg (not_not_intro ai),if_neg (not_not_intro ai)]
  have aq:aU c (bf 4)=true:=by simp only[go_sem];exact ai
  by_cases aA:ak h.1 c.toNat false=true
  .rw[if_pos aA,if_pos (show mW h c from aA)];rfl
  rw[if_neg aA,if_neg (show ¬mW h c from aA)];exact((bn aq (dR aq)))
 rw[if_pos ai,if_pos ai];rfl
def awi{r:fa}(h:0<=r.2.2.2.1/\r.2.2.2.1<=1000000):M9 (r,())=some (I2 r,()):=by
 unfold M9 I2;have e:cU 0 (i64 (bi r.2.2.2.1 1))=max 0 (r.2.2.2.1-1):=by rw[g58,show i64 (bi r.2.2.2.1 1)=r.2.2.2.1-1 from hM (by show -9223372036854775808<=r.2.2.2.1-1;omega) (by show r.2.2.2.1-1<=9223372036854775807;omega)]
 rw[e];by_cases hl:r.2.2.2.1<=1
 .rw[if_pos hl];exact ce (cK J)
 rw[if_neg hl];exact b1 (ct J)
theorem azZ(r:fa):M' ((r,()),())=some ([r.1,r.2.1,r.2.2.1],()):=rfl
def awf(r:fa)(no:Int):Ig (r,no,())=some (qj r no):=by
 unfold Ig qj;refine bg rfl ?_;dsimp only;generalize hf:(λab=>(_:Option (aE (Bool×Int×Unit) (V×Bool×Unit))))=f;have g:∀(i:Nat) (Gg:wv),i<3->ak [r.1,r.2.1,r.2.2.1] i j1=Gg->f (false,(i:Int),())=if no<1\/¬Gg.1=no then some (.nx (false,((i+1:Nat):Int),())) else some (.rt (Gg.2.1,true,())):=by
  intro i Gg hi hg;subst hf;have gG:i64 (av (i:Int) 1)=((i+1:Nat):Int):=fN (by show(i:Int)+1=_;omega) J;refine bq (dj (by show(i:Int)<3;omega)) (bn cN ?_);rw[he,hg,gG];by_cases ao:no<1
  .rw[if_pos (.inl ao)]
   exact bg (b1 (c6 J)) (b1 rfl)
  by_cases O:Gg.1=no
  .rw[if_neg (by rintro(h|h);exact ao h;exact h O)]
   exact bg (a:=(true,())) (bq (dj J) (by rw[cK O])) (ce rfl)
  rw[if_pos (.inr O)];exact bg (a:=(false,())) (bq (dj J) (by rw[ct O])) (b1 rfl)
 have f6:f (false,3,())=some (.ex 0 (false,3,())):=by subst hf;exact b1 (c6 (by show ¬(3:Int)<3;omega))
 have g0:=g 0 r.1 J rfl;have g1:=g 1 r.2.1 J rfl;have bw:=g 2 r.2.2.1 J rfl;by_cases ao:no<1
 .rw[if_pos ao]
  rw[if_pos (.inl ao)]at g0 g1 bw;exact(da ((ez g0).trans ((ez g1).trans ((ez bw).trans (d_ f6)))))
 rw[if_neg ao];by_cases O:r.1.1=no
 .rw[if_pos O]
  rw[if_neg (by rintro(h|h);exact ao h;exact h O)]at g0;exact(da (pO g0))
 rw[if_neg O];rw[if_pos (.inr O)]at g0;by_cases R:r.2.1.1=no
 .rw[if_pos R]
  rw[if_neg (by rintro(h|h);exact ao h;exact h R)]at g1;exact(da ((ez g0).trans (pO g1)))
 rw[if_neg R];rw[if_pos (.inr R)]at g1;by_cases af:r.2.2.1.1=no
 .rw[if_pos af]
  rw[if_neg (by rintro(h|h);exact ao h;exact h af)]at bw;exact(da ((ez g0).trans ((ez g1).trans (pO bw))))
 rw[if_neg af];rw[if_pos (.inr af)]at bw;exact(da ((ez g0).trans ((ez g1).trans ((ez bw).trans (d_ f6)))))
def ai5{a:gv}(h:AR a):B7 (a,())=some ((mo a).1,(mo a).2.1,(mo a).2.2,()):=by
 unfold B7 mo;rw[W5];by_cases ao:a=jW
 .rw[cF ao,if_pos ao];rfl
 rw[cE ao,if_neg ao];rcases h with h|⟨_,O,R,af,aq⟩
 .grind
 have e1:i64 (bi a.2.2.1 1)=a.2.2.1-1:=hM (by show -9223372036854775808<=a.2.2.1-1;omega) (by show a.2.2.1-1<=9223372036854775807;omega);have aN:i64 (bi a.2.2.2.1 1)=a.2.2.2.1-1:=hM (by show -9223372036854775808<=a.2.2.2.1-1;omega) (by show a.2.2.2.1-1<=9223372036854775807;omega);rw[e1,aN];by_cases a8:1<a.2.2.1
 .rw[if_pos a8];exact ce (dj J)
 rw[if_neg a8];refine(b1 (c6 J)).trans ?_;by_cases cT:0<a.2.2.2.1
 .rw[if_pos cT,dj cT];rfl
 rw[if_neg cT,c6 cT];rfl
def au3(p:fk)(k b t:V)(ap:k.length<=1000000)(Y:b.length<=1000000):DM (p,k,b,t,())=some (AF p k b t):=by
 unfold DM;rw[Ud _ _ ap Y];refine bg rfl ?_;rw[Mc _ _ (by rw[AV];omega)];unfold AF;obtain⟨i,l,f,⟨⟩⟩:=p;by_cases ht:jY k b=t
 .rw[if_pos ht]
  refine a1 (by first|rw[A3 ht];rfl) ?_;rw[aeu];by_cases h:(k,b,())∈l
  .rw[cF h,if_pos h];cases f<;>rfl
  rw[cE h,if_neg h];cases f<;>rfl
 rw[if_neg ht];exact ce (by first|rw[o5 ht];rfl)
def Fd:=@UInt64.toNat_inj
def aum(a b:UInt64):u64 (gM .u64 (cD a) (cD b))=a|||b:=by
 unfold gM;refine Fd.1 ?_;have bu:(BitVec.ofInt IntKind.u64.bits (cD a))=a.toBitVec:=by show BitVec.ofInt 64 ((a.toNat:Nat):Int)=_;exact wG bh
 have Y:(BitVec.ofInt IntKind.u64.bits (cD b))=b.toBitVec:=by show BitVec.ofInt 64 ((b.toNat:Nat):Int)=_;exact wG bh
 rw[bu,Y];have:=Ds (a:=(((a|||b).toNat:Nat):Int)) (by have:=(a|||b).toNat_lt;omega);exact E7 this
def aiP(a b:UInt64):u64 (iI .u64 (cD a) (cD b))=a&&&b:=by
 unfold iI;refine Fd.1 ?_;have bu:(BitVec.ofInt IntKind.u64.bits (cD a))=a.toBitVec:=by show BitVec.ofInt 64 ((a.toNat:Nat):Int)=_;exact wG bh
 have Y:(BitVec.ofInt IntKind.u64.bits (cD b))=b.toBitVec:=by show BitVec.ofInt 64 ((b.toNat:Nat):Int)=_;exact wG bh
 rw[bu,Y];have:=Ds (a:=(((a&&&b).toNat:Nat):Int)) (by have:=(a&&&b).toNat_lt;omega);exact E7 this
def ayV(a b:UInt64):u64 (fx .u64 (cD a) (cD b))=a^^^b:=by
 unfold fx;refine Fd.1 ?_;have bu:(BitVec.ofInt IntKind.u64.bits (cD a))=a.toBitVec:=by show BitVec.ofInt 64 ((a.toNat:Nat):Int)=_;exact wG bh
 have Y:(BitVec.ofInt IntKind.u64.bits (cD b))=b.toBitVec:=by show BitVec.ofInt 64 ((b.toNat:Nat):Int)=_;exact wG bh
 rw[bu,Y];have:=Ds (a:=(((a^^^b).toNat:Nat):Int)) (by have:=(a^^^b).toNat_lt;omega);exact E7 this
def Fp(w:gX)(p:Nat):je w p=(ak w.2.1 (p/64) (u64 0)).toNat.testBit (p%64):=by rw[Nat.testBit_eq_decide_div_mod_eq];rfl
def Xi{l m:List UInt64}(hl:l.length=16)(hm:m.length=16){t u:Int}(h:∀p,p<1024->je (t,l,()) p=je (u,m,()) p):l=m:=by
 refine th (hl.trans hm.symm) λi O R => ?_;refine Fd.1 (Nat.eq_of_testBit_eq λj => ?_);by_cases an:j<64
 .have:=h (64*i+j) J
  rw[Fp,Fp,show(64*i+j)/64=i by omega,show(64*i+j)%64=j by omega]at this;rw[show ak (((t,l,()):gX).2.1) i (u64 0)=l[i] from nth_get O,show ak (((u,m,()):gX).2.1) i (u64 0)=m[i] from nth_get R]at this;exact this
 have hp:2^64<=2^j:=BI J J;rw[Nat.testBit_lt_two_pow (hU (l[i]).toNat_lt hp),Nat.testBit_lt_two_pow (hU (m[i]).toNat_lt hp)]
def Xg{g i1:Nat->Bool}(h:∀p,p<1024->g p=i1 p):oE g=oE i1:=
 Xi (t:=0) (u:=0) (Fq g) (Fq i1) λp hp=>by rw[B_ _ _ hp,B_ _ _ hp];exact h p hp
def PB{l:List UInt64}(hl:l.length=16){t:Int}{g:Nat->Bool}(h:∀p,p<1024->je (t,l,()) p=g p):l=oE g:=
 Xi (t:=t) (u:=0) hl (Fq g) λp hp=>by rw[B_ _ _ hp];exact h p hp
def tA(k:Nat):UInt64:=UInt64.ofNat (2^k)
def PG(h:k<64):(tA k).toNat=2^k:=by exact lY (Nat.pow_lt_pow_right J h)
def Xm(h:k<64)(j:Nat):(tA k).toNat.testBit j=decide (k=j):=by rw[PG h,Nat.testBit_two_pow]
def ahA{n:Int}(h:0<=n):Je (n,())=some ((((n%1024).toNat/64:Nat):Int),tA ((n%1024).toNat%64),()):=by
 unfold Je;obtain⟨q,a2⟩:∃q:Nat,n%1024=(q:Int):=⟨(n%1024).toNat,J⟩;have e1:dh n 1024=(q:Int):=by rw[g32 h];exact a2
 have aN:dh (q:Int) 64=((q%64:Nat):Int):=by rw[g32 J];omega
 have dJ:i64 (fe (q:Int) 64)=((q/64:Nat):Int):=by exact fN rfl J
 rw[e1,aN,dJ,a2,i0];refine bn rfl ?_;have gQ:u64 (ho IntKind.u64 (cD (u64 1)) ((q%64:Nat):Int))=tA (q%64):=by
  refine Fd.1 ?_;rw[PG (td _ J)];have oJ:ho IntKind.u64 (cD (u64 1)) ((q%64:Nat):Int)=((2^(q%64):Nat):Int):=by unfold ho;rw[i0,show IntKind.u64.bits=64 from rfl,show cD (u64 1)=1 from Ds bP,Int.one_mul,show Nat.min (q%64) 64=q%64 from Fe J];rfl
  rw[oJ];have aot:=au0 (k:=q%64) J;have:∀m:Nat,m<=9223372036854775808->cD (u64 (m:Int))=(m:Int):=λm hm=>Ds J;exact E7 (this _ aot)
 rw[gQ]
def ayA{w:gX}(bb:w.2.1.length=16){n:Int}(h:0<=n):Ob (w,n,())=some (je w (n%1024).toNat,()):=by
 unfold Ob;rw[ahA h];have sx:(n%1024).toNat<1024:=J;generalize(n%1024).toNat=q at sx;refine bn cN ?_;rw[aiP,he,Fp];generalize ak w.2.1 (q/64) (u64 0)=x;congr 2;have e:(x&&&tA (q%64)).toNat=if x.toNat.testBit (q%64) then 2^(q%64) else 0:=by
  rw[UInt64.toNat_and,PG (td _ J)];refine Nat.eq_of_testBit_eq λj => ?_
  grind
 have hp:0<2^(q%64):=wL J;rw[ atm,e];generalize 2^(q%64)=m at hp;cases x.toNat.testBit (q%64)
 .rfl
 show a_ (ag ((m:Nat):Int) 0)=true;rw[ct J];rfl
def ayy{w:gX}(bb:w.2.1.length=16)(ht:0<=w.1/\w.1<=4611686018427387905)(n:Int):V7 (w,n,())=some (D (dC n/\xc w n),()):=by
 by_cases h:dC n
 .have ao:=h.1
  have O:=h.2;by_cases R:w.1<=n
  .refine bg (a:=(true,())) (bq (hN ao) (bq (hN O) (ce (hN R)))) ?_
   rw[cF ⟨h,.inl R⟩]
  have e:i64 (bi w.1 1024)=w.1-1024:=hM (by show -9223372036854775808<=w.1-1024;omega) (by show w.1-1024<=9223372036854775807;omega);by_cases af:w.1-1024<=n
  .refine bg (a:=(a_ (je w (n%1024).toNat),())) (bq (hN ao) (bq (hN O) (a1 (oT R) (bq (by rw[e];exact hN af) ?_)))) ?_
   .rw[ayA bb ao];rfl
   cases Y:je w (n%1024).toNat
   .rw[cF ⟨h,.inr ⟨af,Y⟩⟩];rfl
   rw[cE (λbL=>bL.2.elim R (λLn=>by rw[Y]at Ln;exact absurd Ln.2 bh))];rfl
  refine bg (a:=(false,())) (bq (hN ao) (bq (hN O) (a1 (oT R) (b1 (by rw[e];exact oT af))))) ?_;rw[cE (λbL=>bL.2.elim R (λLn=>af Ln.1))]
 rw[cE (λbL=>h bL.1)];by_cases ao:0<=n
 .refine(dL (a:=(false,())) (bq (hN ao) (b1 (oT λO=>h ⟨ao,O⟩))))
 exact(dL (a:=(false,())) (b1 (oT ao)))
def Iu(w:gX)(n:Int)(b:Bool):gX:=(w.1,oE (λp=>if p=(n%1024).toNat then b else je w p),())
def Pz{l:List UInt64}(hl:l.length=16){t:Int}{q:Nat}(a2:q<1024){x:UInt64}{b:Bool}
  (hx:∀j,x.toNat.testBit j=if j=q%64 then b else(ak l (q/64) (u64 0)).toNat.testBit j) {p:Nat} (hp:p<1024) :
  je (t,cj l (q/64) x,()) p=if p=q then b else je (t,l,()) p:=by
 rw[Fp,Fp];have an:p/64<l.length:=J;have l_:p/64<(l.set (q/64) x).length:=by rw[ko];exact an
 show(ak (l.set (q/64) x) (p/64) (u64 0)).toNat.testBit (p%64)=_;rw[nth_get l_,OI];by_cases h:q/64=p/64
 .grind
 rw[if_neg h,if_neg J,nth_get an]
def ahB{w:gX}(bb:w.2.1.length=16){n:Int}(h:0<=n)(b:Bool):yx (w,n,b,())=some (Iu w n b,()):=by
 unfold yx Iu;rw[ahA h];have sx:(n%1024).toNat<1024:=J;generalize(n%1024).toNat=q at sx;have hi:q/64<w.2.1.length:=J;refine bn cN (bn cN ?_);simp only[aum,ayV,he];have li:∀j,(ak w.2.1 (q/64) (u64 0)|||tA (q%64)).toNat.testBit j=if j=q%64 then true else(ak w.2.1 (q/64) (u64 0)).toNat.testBit j:=by
  intro j;rw[UInt64.toNat_or,E6,Xm (td _ J)]
  grind
 have vp:(cj w.2.1 (q/64) (ak w.2.1 (q/64) (u64 0)|||tA (q%64))).length=16:=by unfold cj;rw[ko];exact bb
 cases b
 .refine(bn cN (bn cN ?_))
  congr 4;have aj:ak (cj w.2.1 (q/64) (ak w.2.1 (q/64) (u64 0)|||tA (q%64))) (q/64) (u64 0)=ak w.2.1 (q/64) (u64 0)|||tA (q%64):=by
   have:q/64<(w.2.1.set (q/64) (ak w.2.1 (q/64) (u64 0)|||tA (q%64))).length:=by rw[ko];exact hi
   show ak (w.2.1.set (q/64) _) (q/64) (u64 0)=_;rw[nth_get this,List.getElem_set_self]
  refine PB (t:=w.1) (by unfold cj at vp ⊢;rw[ko];exact vp) λp hp => ?_;rw[Pz vp sx (b:=false) (λj => ?_) hp]
  .by_cases R:p=q
   .grind
   rw[if_neg R,if_neg R,Pz bb sx li hp,if_neg R]
  rw[aj,UInt64.toNat_xor,Nat.testBit_xor,li,Xm (td _ J)]
  grind
 refine a1 rfl ?_;congr 4;refine PB (t:=w.1) vp λp hp => ?_;exact Pz bb sx li hp
def kL(w:gX)(t:Int)(k:Nat):gX:=(w.1,oE (λp=>cZ (je w p) (D (¬∃m,t<=m/\m<t+k/\m%1024=(p:Int)))),())
def YK(w:gX)(t:Int)(k:Nat):(kL w t k).1=w.1:=by unfold kL;rfl
def YJ(w:gX)(t:Int)(k:Nat):(kL w t k).2.1.length=16:=by unfold kL;dsimp only;exact Fq _
def al6(w:gX)(t:Int)(k:Nat)(u:Int){p:Nat}(hp:p<1024):je (u,(kL w t k).2) p=cZ (je w p) (D (¬∃m,t<=m/\m<t+k/\m%1024=(p:Int))):=by exact B_ _ _ hp
def al8{w:gX}(bb:w.2.1.length=16)(t:Int):kL w t 0=w:=by obtain⟨a,l,⟨⟩⟩:=w;unfold kL;congr 2;refine(PB (t:=a) bb λp hp => ?_).symm;rw[cF J];cases je (a,l,()) p<;>rfl
def al7(w:gX){t:Int}(ht:0<=t)(k:Nat):Iu (kL w t k) (t+k) false=kL w t (k+1):=by
 unfold Iu;unfold kL;congr 2;refine Xg λp hp => ?_;rw[B_ _ _ hp];by_cases h:p=((t+(k:Int))%1024).toNat
 .rw[if_pos h,cE]
  .cases je w p<;>rfl
  exact not_not_intro ⟨t+k,J,J,J⟩
 rw[if_neg h];congr 2;refine propext (not_congr ⟨λ⟨m,O,R,af⟩=>⟨m,O,J,af⟩,λ⟨m,O,R,af⟩=>⟨m,O,?_,af⟩⟩);omega
def ayz{w:gX}(bb:w.2.1.length=16)(ht:0<=w.1/\w.1<=4611686018427387905)(n:Int):ED (w,n,())=some ((kT w n).1,(kT w n).2,()):=by
 unfold ED kT;dsimp only;by_cases h:dC n
 .have ao:=h.1
  have O:=h.2;rw[if_neg (not_not_intro h)];refine(dL (a:=(false,())) ((b1 (c6 J)).trans (by rw[c6 J]))).trans ((b1 rfl).trans ?_);rw[ayy bb ht];by_cases hf:xc w n
  .rw[cF ⟨h,hf⟩,if_neg (not_not_intro hf)]
   have e1:i64 (bi n w.1)=n-w.1:=hM (by show -9223372036854775808<=n-w.1;omega) (by show n-w.1<=9223372036854775807;omega);have aN:cU w.1 (i64 (av n 1))=max w.1 (n+1):=by rw[g58,show i64 (av n 1)=n+1 from hM (by show -9223372036854775808<=n+1;omega) (by show n+1<=9223372036854775807;omega)]
   obtain⟨K,fL⟩:∃K:Nat,fC (cU (n-w.1) 0) 1024=(K:Int):=⟨(fC (cU (n-w.1) 0) 1024).toNat,by rw[g57,g58];omega⟩;have lc:(K:Int)=min (max (n-w.1) 0) 1024:=by rw[<- fL,g57,g58]
   simp only[e1];generalize hg:(λab=>(_:Option (aE (Int×gX×Unit) (gX×Int×Unit))))=f;have run:∀w0:gX,w0.1=w.1->w0.2.1.length=16->bN f (0,w0,())=some (.ex 0 ((K:Int),kL w0 w.1 K,())):=by
    intro w0 RE RF;have step:∀i:Nat,i<K->f ((i:Int),kL w0 w.1 i,())=some (.nx (((i+1:Nat):Int),kL w0 w.1 (i+1),())):=by
     intro i hi;subst hg;have gG:i64 (av (i:Int) 1)=((i+1:Nat):Int):=fN (by show(i:Int)+1=_;omega) J;refine(ce (dj J)).trans ?_;have dJ:i64 (av (kL w0 w.1 i).1 (i:Int))=w.1+i:=by rw[YK,RE];exact hM (by show -9223372036854775808<=w.1+(i:Int);omega) (by show w.1+(i:Int)<=9223372036854775807;omega)
     rw[dJ,ahB (YJ _ _ _) J,al7 w0 J,gG];rfl
    have f6:f ((K:Int),kL w0 w.1 K,())=some (.ex 0 ((K:Int),kL w0 w.1 K,())):=by subst hg;exact b1 (c6 J)
    have:=(md (f:=f) (λi=>((i:Int),kL w0 w.1 i,())) K step 0 (fI _)).trans (d_ f6);rw[show kL w0 w.1 0=w0 from al8 RF w.1]at this;exact this
   have last:∀w0:gX,w0.1=w.1->(∀p,p<1024->cZ (je w0 p) (D (¬wX w n p))=cZ (je w p) (D (¬wX w n p))) ->
     (am (bZ 0 0) (ob (yx ((cU (kL w0 w.1 K).1 (i64 (av n 1)),(kL w0 w.1 K).2),n,true,())) λa=>some (a.1,0,())):Option (gX×Int×Unit)) =
     some ((max w.1 (n+1),oE (λp=>l2 (D ((p:Int)=n%1024)) (cZ (je w p) (D (¬wX w n p)))),()),0,()):=by
    intro w0 RE RF;refine(dR g62).trans ?_;rw[YK,RE,aN,ahB (w:=(max w.1 (n+1),(kL w0 w.1 K).2)) (YJ w0 w.1 K) ao];refine(dL rfl).trans ?_;unfold Iu;dsimp only;congr 4;refine Xg λp hp => ?_;have gQ:je (max w.1 (n+1),(kL w0 w.1 K).2) p=cZ (je w0 p) (D (¬∃m,w.1<=m/\m<w.1+K/\m%1024=(p:Int))):=al6 _ _ _ _ hp;rw[gQ];by_cases ma:p=(n%1024).toNat
    .rw[if_pos ma,cF (show(p:Int)=n%1024 by omega)];rfl
    rw[if_neg ma,cE (show ¬(p:Int)=n%1024 by omega),<- RF p hp];congr 2;refine propext (not_congr ?_);constructor
    .rintro⟨m,bD,cn,gJ⟩;exact⟨m,bD,J,gJ⟩
    rintro⟨m,bD,cn,gJ⟩;refine⟨w.1+(m-w.1)%1024,J,J,J⟩
   by_cases Y:1024<=n-w.1
   .refine(ce (hN Y)).trans ?_
    refine(da (run (w.1,sK.2.1,w.2.2) rfl rfl)).trans (?_);refine last (w.1,sK.2.1,w.2.2) rfl λp hp => ?_;rw[cE (p:=¬wX w n p) (not_not_intro ⟨w.1+((p:Int)-w.1)%1024,J,J,J⟩),g45,g45]
   refine(b1 (oT Y)).trans ?_;refine(da (run w rfl bb)).trans (?_);exact last w rfl λp hp=>rfl
  rw[cE (λbL=>hf bL.2),if_pos hf];refine(ce rfl)
 rw[if_pos h];by_cases ao:n<0
 .exact(dL (a:=(true,())) (ce (dj ao))).trans (ce rfl)
 refine(dL (a:=(true,())) ((b1 (c6 ao)).trans (by rw[dj];by_cases O:4611686018427387904<n;exact O;exact absurd ⟨J,J⟩ h))).trans (ce rfl)
def FG(l:V)(h:l.length<=100000000):mU (l,())=some (l,()):=by exact dR cN
def VC{a w:Int}(bb:1<=w/\w<8)(bu:0<=a/\a+w<=b.length):jq b a w=(fh b a w,a+w,0,()):=by
 have:jq b a w=((my (ec b a.toNat w.toNat):Int),a+w,0,()):=by
  unfold jq
  grind
 unfold fh
 grind
def VB{a:Int}(bu:0<=a/\a+8<=b.length):jq b a 8=(fh b a 8,a+8,0,())\/jq b a 8=(0,0,2,())/\fh b a 8 = -1:=by
 by_cases h:(8:Int)=8/\127<(ak b a.toNat (u8 0)).toNat
 .have:jq b a 8=(0,0,2,()):=by
   unfold jq
   grind
  unfold fh
  grind
 have:jq b a 8=((my (ec b a.toNat (8:Int).toNat):Int),a+8,0,()):=by
  unfold jq
  grind
 unfold fh
 grind
def amW(b:V):KT (b,())=some (eR b):=by
 unfold KT eR;by_cases O:b.length<47
 .rw[if_pos O];exact ce (dj (by show(b.length:Int)<47;omega))
 rw[if_neg O];refine a1 (c6 (by show ¬(b.length:Int)<47;omega)) ?_;by_cases R:946<b.length
 .rw[if_pos R];exact ce (dj (by show(946:Int)<(b.length:Int);omega))
 rw[if_neg R];refine a1 (c6 (by show ¬(946:Int)<(b.length:Int);omega)) ?_;have Y:b.length<=1000000:=J;have e:i64 (bi (len b) 16)=((b.length-16:Nat):Int):=fN (by show(b.length:Int)-16=_;omega) J;have bp:sub b 30 ((b.length-16:Nat):Int)=(b.drop 30).take (b.length-46):=by rfl
 have ax:sub b ((b.length-16:Nat):Int) (len b)=b.drop (b.length-16):=by unfold sub;rw[i0,hS];rw[e?];show _<=(b.length:Int).toNat-_;omega
 have c1:ca 30 ((b.length-16:Nat):Int) (len b)=true:=cN;have c2:ca ((b.length-16:Nat):Int) (len b) (len b)=true:=cN;have eW:((b.drop 30).take (b.length-46)).length<=1000000:=by rw[hE];omega
 have f7:(b.drop (b.length-16)).length<=1000000:=by rw[e?];omega
 have two:∀k:V×Unit->V×Unit->Option (dr×Int×Unit),(am (ca 30 (i64 (bi (len b) 16)) (len b)) (ob (mU (sub b 30 (i64 (bi (len b) 16)),())) λc=>
   am (ca (i64 (bi (len b) 16)) (len b) (len b)) (ob (mU (sub b (i64 (bi (len b) 16)) (len b),())) λd=>k c d)))=k ((b.drop 30).take (b.length-46),()) (b.drop (b.length-16),()):=by
  intro k;rw[e,bp,ax];exact bn c1 ((bJ (FG _ J)).trans ((bn c2 ((bJ (FG _ J)).trans (dL rfl)))))
 have pT:∀(a w:Int) (k:Int×Int×Int×Unit->Option (dr×Int×Unit)),ob (la (b,a,w,())) k=k (jq b a w):=λa w k=>(bJ (Y_ b a w Y)).trans (dL rfl);have C8:aU 0 (bf 2)=true:=rfl;have sz:aU (i64 (av 0 1)) (bf 2)=true:=rfl;have G_:aU 1 (bf 2)=true:=rfl;have zZ:aU 0 (bf 1)=true:=rfl;have uq:=VC (b:=b) (a:=0) (w:=1) J J;have bG:=VC (b:=b) (a:=1) (w:=1) J J;have dl:=VC (b:=b) (a:=18) (w:=4) J J;rw[show(0:Int)+1=1 from rfl]at uq;rw[show(1:Int)+1=2 from rfl]at bG;rw[show(18:Int)+4=22 from rfl]at dl;have asR:cU 0 1=1:=rfl;have asS:cU 1 2=2:=rfl;have TH:fh b 2 8 = -1\/fh b 10 8 = -1\/fh b 22 8 = -1->¬o1 (rD b):=by
  intro h ah;have hp:=by first|exact ah.1|exact ah.2|exact ah
  unfold mi dC at hp;have ahS:d4 (rD b)=fh b 2 8:=rfl;have az9:e1 (rD b)=fh b 10 8:=rfl;have z3:(rD b).2.2.2.2.1=fh b 22 8:=rfl;omega
 refine bn C8 ((pT _ _ _).trans (bn sz ((pT _ _ _).trans ?_)));rw[uq];rw[asR,bG];rw[asS];refine(bn C8 (bn G_ (bn C8 ((pT _ _ _).trans ((bn sz ((pT _ _ _).trans ?_)))))));rcases VB (b:=b) (a:=2) J with b_|⟨b_,qD⟩
 .rw[show(2:Int)+8=10 from rfl]at b_
  rw[b_];rw[show cU 2 10=10 from rfl];refine(bn zZ ((pT _ _ _).trans ?_));rcases VB (b:=b) (a:=10) J with cp|⟨cp,HI⟩
  .rw[show(10:Int)+8=18 from rfl]at cp
   rw[cp];rw[show cU 10 18=18 from rfl,dl];rw[show cU 18 22=22 from rfl];refine(bn zZ ((pT _ _ _).trans (((two _).trans ?_))));have aC:Ct ((fh b 0 1,fh b 1 1,cj (cj [0,0] (aa 0) (fh b 2 8)) (aa 1) (fh b 10 8),fh b 18 4,(jq b 22 8).1,(b.drop 30).take (b.length-46),b.drop (b.length-16),()),())=some (D (o1 (fh b 0 1,fh b 1 1,[fh b 2 8,fh b 10 8],fh b 18 4,(jq b 22 8).1,(b.drop 30).take (b.length-46),b.drop (b.length-16),())),()):=Zs _;rcases VB (b:=b) (a:=22) J with eQ|⟨eQ,atl⟩
   .rw[eQ]at aC ⊢
    rw[aC];by_cases ah:o1 (rD b)
    .rw[show o1 (fh b 0 1,fh b 1 1,[fh b 2 8,fh b 10 8],fh b 18 4,fh b 22 8,(b.drop 30).take (b.length-46),b.drop (b.length-16),())=o1 (rD b) from rfl,cF ah,if_pos ah];rfl
    rw[show o1 (fh b 0 1,fh b 1 1,[fh b 2 8,fh b 10 8],fh b 18 4,fh b 22 8,(b.drop 30).take (b.length-46),b.drop (b.length-16),())=o1 (rD b) from rfl,cE ah,if_neg ah];rfl
   rw[eQ,if_neg (TH (.inr (.inr atl)))];rfl
  rw[cp,if_neg (TH (.inr (.inl HI)))];exact(bn zZ ((pT _ _ _).trans (two _)))
 rw[b_,if_neg (TH (.inl qD))];exact(bn zZ ((pT _ _ _).trans (bn zZ ((pT _ _ _).trans (two _)))))
def WX:∀{l m:List Int},l.length=m.length->(uZ (λ(p q:Int)=>ag p q) l m=true↔l=m)
 |[],[],_=>by simp[uZ]
 |a::l,b::m,h=>by have ih:=WX (l:=l) (m:=m) (by grind);unfold uZ at ih ⊢;rw[List.zip_cons_cons,uO,cM,ih,yU];refine and_congr_left λ_ => ?_;exact beq_iff_eq
def L4(s:aG):kf (s.t,2,())=some ((gy s 0).t,()):=by exact(da (ub 5 rfl)).trans rfl
def asu(s:aG):kf (s.t,5,())=some ((gy s 1).t,()):=by exact(da (ub 5 rfl)).trans rfl
def asv(s:aG):kf (s.t,6,())=some ((gy s 2).t,()):=by exact(da (ub 5 rfl)).trans rfl
def Uq{g:wv}(h:g=jG\/sS g):g.2.1.length<=32:=by
 rcases h with rfl|h
 .show([]:V).length<=32;simp
 exact E8 h.2.2
def awa{r:fa}(h:lR r):r.1.2.1.length<=32/\r.2.1.2.1.length<=32/\r.2.2.1.2.1.length<=32:=by
 rcases h with rfl|⟨O,_,_,_,R,af⟩
 .exact⟨by show([]:V).length<=32;simp,by show([]:V).length<=32;simp,by show([]:V).length<=32;simp⟩
 refine⟨Uq (.inr O),Uq ?_,Uq ?_⟩
 .grind
 grind
def ans{r:fa}(h:lR r)(n:Int):(qj r n).1.length<=32:=by
 obtain⟨O,R,af⟩:=awa h;unfold qj
 grind
def auB(e:c?):(gq e).length=2:=by
 unfold gq;split
 .rfl
 split<;>rfl
def rx(s:aG)(b:V):aG×Nat×dr:=
 if ¬(eR b).2.1=0 then(s,2,ro) else if o7 s.e (eR b).1 then(s,13,ro)
 else if(jh s (eR b).1).2.1=false then(⟨s.e,(jh s (eR b).1).1⟩,5,ro) else(⟨s.e,(jh s (eR b).1).1⟩,0,(eR b).1)
def asx{s:aG}(ac:bA n s)(b:V):L6 (s.t,b,())=some ((rx s b).1.t,(rx s b).2.1,(rx s b).2.2,()):=by
 unfold L6 rx;dsimp only;rw[amW];refine bg rfl ?_;by_cases ao:(eR b).2.1=0
 .rw[if_neg (not_not_intro ao)]
  refine bq (cK ao) ?_;obtain⟨ah,aop,_,_⟩:=Um ao;have ri:=Un ao;generalize(eR b).1=v at ah ri aop;have hid:=ac.e.id;have ap:=ac.e.key;have e1:i64 (bi 1 s.e.id)=1-s.e.id:=hM (by show -9223372036854775808<=1-s.e.id;omega) (by show 1-s.e.id<=9223372036854775807;omega);have fst:(T (ag v.2.1 (i64 (bi 1 s.e.id))) (T (a_ (ag s.e.ph 7)) (some (a_ (ag s.e.ph 8),())) (some (false,()))) (some (false,())):Option (Bool×Unit))=some (D (v.2.1=1-s.e.id/\¬s.e.ph=7/\¬s.e.ph=8),()):=by rw[e1];simp(disch:=first|assumption|omega|(dsimp only;omega)|decide) only[go_sem,Int.reduceToNat];exact pZ and_assoc
  refine bg (show _=some (D (v.2.1=1-s.e.id/\¬s.e.ph=7/\¬s.e.ph=8),()) from fst) ?_;dsimp only;have fA:=xx v;have iP:=ah.1.2.2.2.2.2.2.2;have chk:∀k:V,k.length<=1000000->jh s v=AF s.p k (c3 v) v.2.2.2.2.2.2.1->(ob (w6 (v,())) λ(oB:V×Int×Unit)=>ob (DM (s.p,k,oB.1,v.2.2.2.2.2.2.1,())) λ(l1:fk×Bool×Unit)=>
    T l1.2.1 (some ((s.e.t,l1.1,()),0,v,())) (some ((s.e.t,l1.1,()),5,ro,())):Option (e4×Nat×dr×Unit)) =
    (if(jh s v).2.1=false then some ((⟨s.e,(jh s v).1⟩:aG).t,5,ro,()) else some ((⟨s.e,(jh s v).1⟩:aG).t,0,v,())):=by
   intro k ap ai;refine bg (Q1 v ah.1) (bg (au3 s.p k (c3 v) _ ap J) ?_);rw[ai];cases Y:(AF s.p k (c3 v) v.2.2.2.2.2.2.1).2.1
   .rw[if_pos rfl];exact b1 rfl
   rw[if_neg bh];exact ce rfl
  by_cases O:v.2.1=1-s.e.id/\¬s.e.ph=7/\¬s.e.ph=8
  .rw[cF O]
   refine bq rfl (bg (show Ad (s.e.key,())=_ from acB s.e.key J) ?_);by_cases R:v.1=2
   .refine bq (cK R) (bg (show Ig (s.e.ring,v.2.2.2.1,())=_ from awf _ _) (bg (show um (s.e.ph,())=_ from H4 _) ?_))
    dsimp only;have snd:(T (D (jU s.e.ph)) (ob (nn (s.e.t,())) λ(j5:List Int×Unit)=>T (uZ (λ(p q:Int)=>ag p q) v.2.2.1 j5.1) (some ((qj s.e.ring v.2.2.2.1).2.1,())) (some (false,()))) (some (false,())):Option (Bool×Unit)) =
      some (D (jU s.e.ph/\v.2.2.1=gq s.e/\(qj s.e.ring v.2.2.2.1).2.1=true),()):=by
     by_cases hl:jU s.e.ph
     .rw[cF hl]
      refine bq rfl (bg (xB s.e) ?_);have bu:=WX (l:=v.2.2.1) (m:=gq s.e) (by rw[ri,auB];rfl);by_cases hp:v.2.2.1=gq s.e
      .refine bq (bu.2 hp) ?_
       cases hf:(qj s.e.ring v.2.2.2.1).2.1
       .rw[cE (by rintro⟨_,_,h⟩;cases h)]
       rw[cF ⟨hl,hp,rfl⟩]
      refine a1 ((yT _).mp (λh=>hp (bu.1 h))) ?_;rw[cE (λh=>hp h.2.1)]
     rw[cE hl,cE (λh=>hl h.1)];rfl
    refine bg snd ?_;dsimp only;by_cases af:jU s.e.ph/\v.2.2.1=gq s.e/\(qj s.e.ring v.2.2.2.1).2.1=true
    .rw[cF af]
     have eL:¬o7 s.e v:=by
      unfold o7;rintro(h|h|h|⟨_,h⟩)
      .exact h O.1
      .exact O.2.1 h
      .exact O.2.2 h
      rcases h with h|h|h
      .exact h af.1
      .exact h af.2.1
      rw[af.2.2]at h;cases h
     rw[if_neg eL];refine bq rfl ((chk _ (by have:=ans ac.e.ring v.2.2.2.1;omega) (by unfold jh Db;rw[if_pos R])).trans ?_);split<;>rfl
    rw[cE af];have eL:o7 s.e v:=by
     unfold o7;by_cases bu:jU s.e.ph
     .by_cases Y:v.2.2.1=gq s.e
      .refine .inr (.inr (.inr ⟨R,.inr (.inr ((yT _).mp λai=>af ⟨bu,Y,ai⟩))⟩))
      exact .inr (.inr (.inr ⟨R,.inr (.inl Y)⟩))
     exact .inr (.inr (.inr ⟨R,.inl bu⟩))
    rw[if_pos eL];rfl
   refine a1 (ct R) ?_;have eL:¬o7 s.e v:=by
    unfold o7;rintro(h|h|h|⟨h,_⟩)
    .exact h O.1
    .exact O.2.1 h
    .exact O.2.2 h
    exact R h
   rw[if_neg eL];refine(chk _ (by rw[W_];omega) (by unfold jh Db;rw[if_neg R])).trans ?_;split<;>rfl
  rw[cE O];have eL:o7 s.e v:=by
   unfold o7;by_cases bu:v.2.1=1-s.e.id
   .by_cases Y:s.e.ph=7
    .exact .inr (.inl Y)
    refine .inr (.inr (.inl (k2 λai=>O ⟨bu,Y,ai⟩)))
   exact .inl bu
  rw[if_pos eL];rfl
 rw[if_pos ao];exact b1 (ct ao)
def asw{s:aG}(ac:bA n s)(b:V):∃FX:Int,L5 (s.t,b,())=some ((iY s b).1.t,(iY s b).2.getD ro,FX,())/\(FX=0↔¬(iY s b).2=none):=by
 unfold L5;dsimp only;rw[asx ac];by_cases ao:(eR b).2.1=0
 .by_cases O:o7 s.e (eR b).1
  .have e1:rx s b=(s,13,ro):=by unfold rx;rw[if_neg (not_not_intro ao),if_pos O]
   have aN:iY s b=(gy s 3,none):=by unfold iY;rw[if_neg (not_not_intro ao),if_pos O]
   rw[e1,aN];refine⟨13,bg rfl (a1 rfl (a1 rfl (bq rfl ?_))),bh⟩;exact(bJ (S8 s)).trans rfl
  by_cases R:(jh s (eR b).1).2.1=false
  .have e1:rx s b=(⟨s.e,(jh s (eR b).1).1⟩,5,ro):=by unfold rx;rw[if_neg (not_not_intro ao),if_neg O,if_pos R]
   have aN:iY s b=(gy ⟨s.e,(jh s (eR b).1).1⟩ 1,none):=by unfold iY;rw[if_neg (not_not_intro ao),if_neg O,if_pos R]
   rw[e1,aN];refine⟨5,bg rfl (a1 rfl (a1 rfl (a1 rfl (bn rfl ?_)))),bh⟩;exact(bJ (asu _)).trans rfl
  have e1:rx s b=(⟨s.e,(jh s (eR b).1).1⟩,0,(eR b).1):=by unfold rx;rw[if_neg (not_not_intro ao),if_neg O,if_neg R]
  rw[e1];generalize aC:(eR b).1=v;rw[aC]at O R;generalize hp:(jh s v).1=p;by_cases af:v.1=1
  .have aN:iY s b=(⟨s.e,p⟩,some v):=by unfold iY;rw[if_neg (not_not_intro ao),aC,if_neg O,if_neg R,if_pos af,hp]
   rw[aN];refine⟨0,bg rfl (bq rfl ?_),bh⟩;exact ce (lF (by dsimp only;omega))
  have aaJ:v.1=2:=by
   obtain⟨ah,_⟩:=Um ao;rw[aC]at ah;rcases ah.1.1 with h|h
   .exact absurd h af
   exact h
  have hm:=ayz ac.e.win ac.e.top v.2.2.2.2.1;have oh:∀x:aG×Option dr,x=(if ¬(kT s.e.win v.2.2.2.2.1).2=0 then(gy ⟨s.e,p⟩ 2,none) else(⟨{ s.e with win:=(kT s.e.win v.2.2.2.2.1).1,ring:=qo s.e v.2.2.2.1 },p⟩,some v))->iY s b=x:=by intro x hx;unfold iY;rw[if_neg (not_not_intro ao),aC,if_neg O,if_neg R,if_neg af,hp];exact hx.symm
  by_cases aq:(kT s.e.win v.2.2.2.2.1).2=0
  .rw[oh _ (by rw[if_neg (not_not_intro aq)])]
   refine⟨0,bg rfl (bq rfl (a1 (j7 aaJ) ?_)),bh⟩;refine bg (show ED (s.e.win,v.2.2.2.2.1,())=_ from hm) (bq (cK aq) ?_);have hh:(T (ag v.2.2.2.1 s.e.ring.2.2.1.1) (some (a_ (ag s.e.ph 4),())) (some (false,())):Option (Bool×Unit))=some (D (v.2.2.2.1=s.e.ring.2.2.1.1/\¬s.e.ph=4),()):=by simp(disch:=first|assumption|omega|(dsimp only;omega)|decide) only[go_sem,Int.reduceToNat]
   refine bg hh ?_;dsimp only;by_cases a8:s.e.ring.2.2.1.1=v.2.2.2.1/\¬s.e.ph=4
   .rw[cF ⟨a8.1.symm,a8.2⟩,show qo s.e v.2.2.2.1=(Bj s.e.ring).1 by unfold qo;rw[if_pos a8]]
    refine bq rfl ((bJ (show AW (s.e.ring,())=_ from ae6 _)).trans rfl)
   rw[cE (λh=>a8 ⟨h.1.symm,h.2⟩),show qo s.e v.2.2.2.1=s.e.ring by unfold qo;rw[if_neg a8]];rfl
  rw[oh _ (by rw[if_pos aq])];refine⟨6,bg rfl (bq rfl (a1 (j7 aaJ) ?_)),bh⟩;refine bg (show ED (s.e.win,v.2.2.2.2.1,())=_ from hm) (a1 (ct aq) ?_);exact(bJ (show kf ((⟨s.e,p⟩:aG).t,6,())=_ from asv _)).trans rfl
 have e1:rx s b=(s,2,ro):=by unfold rx;rw[if_pos ao]
 have aN:iY s b=(gy s 0,none):=by unfold iY;rw[if_pos ao]
 rw[e1,aN];refine⟨2,bg rfl (a1 rfl (bq rfl ?_)),bh⟩;exact(bJ (L4 s)).trans rfl
def OJ:=@List.drop_length
def ax5(x y:UInt8):i64 (gM IntKind.i64 (i64 (ho IntKind.i64 (i64 (aI x)) (cD (u64 8)))) (i64 (aI y)))=((256*x.toNat+y.toNat:Nat):Int):=by
 have hx:=x.toNat_lt;have hy:=y.toNat_lt;have e1:i64 (aI x)=(x.toNat:Int):=hM (by rw[La];omega) (by rw[La];omega);have aN:i64 (aI y)=(y.toNat:Int):=hM (by rw[La];omega) (by rw[La];omega);have dJ:ho IntKind.i64 (x.toNat:Int) (cD (u64 8))=((256*x.toNat:Nat):Int):=by unfold ho;rw[show cD (u64 8)=8 from Ds bP,show(2:Int)^(Nat.min (8:Int).toNat IntKind.i64.bits)=256 from rfl];omega
 rw[e1,aN,dJ,hM (n:=((256*x.toNat:Nat):Int)) J J];show i64 (((BitVec.ofInt 64 ((256*x.toNat:Nat):Int)|||BitVec.ofInt 64 ((y.toNat:Nat):Int)).toNat:Nat):Int)=_;rw[JZ,JZ,BitVec.toNat_or,BK,BK,lY J,lY J];have gQ:256*x.toNat|||y.toNat=256*x.toNat+y.toNat:=by
  have:=Nat.shiftLeft_add_eq_or_of_lt (b:=y.toNat) (i:=8) J x.toNat;rw[Nat.shiftLeft_eq]at this
  grind
 rw[gQ];exact hM J J
def anO(h:2<=b.length):Rm (b,())=some ((ee b:Int),()):=by refine bn cN (bn cN ?_);rw[ax5];rfl
def ax3(b:V):ee b<65536:=by unfold ee;have ao:=(b.getD 0 0).toNat_lt;have O:=(b.getD 1 0).toNat_lt;omega
def IV(l:List α){a:Int}(h:a=(n:Int)):sub l a (len l)=l.drop n:=by unfold sub;rw[h,i0,hS];rw[e?];show _<=(l.length:Int).toNat-_;omega
def anN{f:p_}(hf:f.1.length<=1000000)(Y:b.length<=1000000)(ac:0<=f.2.1/\f.2.1<=65535):K' (f,b,())=some ((iV f b).1,(iV f b).2,()):=by
 obtain⟨buf,skip,bad,⟨⟩⟩:=f;replace hf:buf.length<=1000000:=hf;replace ac:0<=skip/\skip<=65535:=ac;unfold K' iV;dsimp only;refine bg (YR buf b hf Y) ?_;dsimp only;have hall:(buf++b).length<=2000000:=by rw[cG];omega
 generalize buf++b=all at hall;generalize hg:(λx=>(_:Option (aE (List V×V×p_×Unit) (p_×List V×Unit))))=F

 have abq:∀{a:V} {gs:Int},0<=gs->gs<=a.length->fC gs (len a)=((gs.toNat:Nat):Int):=λO R=>by rw[g57,g22];omega
 have run:∀(k:Nat) (bB:List V) (a:V) (gs:Int) (m8:Int),0<=gs->gs<=a.length->a.length<=2000000->(a.drop gs.toNat).length<=k->bB.length+k<=2000000 ->
   bN F (bB,a,(buf,gs,m8,()),())=some (.ex 0 (bB++(hH k m8 (a.drop gs.toNat)).2.2.2,(hH k m8 (a.drop gs.toNat)).1,(buf,((hH k m8 (a.drop gs.toNat)).2.1:Int),(hH k m8 (a.drop gs.toNat)).2.2.1,()),())):=by
  intro k;induction k with
  |zero=>
   intro bB a gs m8 O R af aq a8;refine d_ ?_;subst hg;have bj:i64 (bi gs ((gs.toNat:Nat):Int))=0:=by rw[hM (by show -9223372036854775808<=gs-((gs.toNat:Nat):Int);omega) (by show gs-((gs.toNat:Nat):Int)<=9223372036854775807;omega)];show gs-((gs.toNat:Nat):Int)=0;omega
   dsimp only;rw[abq O R,IV a rfl,bj];refine bn (by simp(disch:=first|assumption|omega|(omega)|decide) only[go_sem,Int.reduceToNat];omega) (bq (dj (by show((a.drop gs.toNat).length:Int)<2;omega)) ?_);rw[show(hH 0 m8 (a.drop gs.toNat))=(a.drop gs.toNat,0,m8,[]) from rfl];simp
  |succ k ih=>
   intro bB a gs m8 O R af aq a8;have bj:i64 (bi gs ((gs.toNat:Nat):Int))=0:=by rw[hM (by show -9223372036854775808<=gs-((gs.toNat:Nat):Int);omega) (by show gs-((gs.toNat:Nat):Int)<=9223372036854775807;omega)];show gs-((gs.toNat:Nat):Int)=0;omega
   have dW:F (bB,a,(buf,gs,m8,()),())=F (bB,a,(buf,gs,m8,()),()):=rfl
   conv at dW=>rhs;rw[<- hg]
   dsimp only at dW;rw[abq O R,IV a rfl,bj]at dW;have ai:ca ((gs.toNat:Nat):Int) (len a) (len a)=true:=by simp(disch:=first|assumption|omega|(omega)|decide) only[go_sem,Int.reduceToNat];omega
   replace dW:=dW.trans (dR ai);have GB:(a.drop gs.toNat).length=a.length-gs.toNat:=e?;unfold hH;generalize a.drop gs.toNat=c at aq dW GB;by_cases c1:c.length<2
   .rw[if_pos c1]
    refine d_ (dW.trans (bq (dj (by show(c.length:Int)<2;omega)) ?_));dsimp only;rw[hF];rfl
   rw[if_neg c1];have aj:=ax3 c;have aN:i64 (av 2 ((ee c:Nat):Int))=((2+ee c:Nat):Int):=fN (by show(2:Int)+((ee c:Nat):Int)=_;omega) J;replace dW:=dW.trans (a1 (c6 (by show ¬(c.length:Int)<2;omega)) ((bJ (anO J)).trans (dL rfl)));dsimp only at dW;rw[aN]at dW;by_cases c2:ee c=0\/1024<ee c
   .rw[if_pos c2]
    have St:(T (ag ((ee c:Nat):Int) 0) (some (true,())) (some (aJ 1024 ((ee c:Nat):Int),())):Option (Bool×Unit))=some (true,()):=by
     rcases c2 with h|h
     .rw[h];rfl
     by_cases ao:ee c=0
     .rw[ao];rfl
     exact a1 (ct J) (by rw[dj J])
    replace dW:=dW.trans ((bJ St).trans ((ce rfl)));by_cases hw:2+ee c<=c.length
    .rw[if_pos hw]
     replace dW:=dW.trans (ce (hN (by show((2+ee c:Nat):Int)<=(c.length:Int);omega)));refine(ez dW).trans ?_;have:=ih bB c ((2+ee c:Nat):Int) (i64 (m8+1)) J J J (by rw[i0,e?];omega) J;rw[i0]at this;exact this
    rw[if_neg hw];have gQ:i64 (bi ((2+ee c:Nat):Int) (len c))=((2+ee c-c.length:Nat):Int):=fN (by show((2+ee c:Nat):Int)-(c.length:Int)=_;omega) J;rw[gQ]at dW;replace dW:=dW.trans (b1 (oT (by show ¬((2+ee c:Nat):Int)<=(c.length:Int);omega)));refine d_ (dW.trans ?_);rw[hF];rfl
   rw[if_neg c2];have St:(T (ag ((ee c:Nat):Int) 0) (some (true,())) (some (aJ 1024 ((ee c:Nat):Int),())):Option (Bool×Unit))=some (false,()):=a1 (ct J) (by rw[c6 J]);replace dW:=dW.trans ((bJ St).trans ((b1 rfl)));by_cases hw:c.length<2+ee c
   .rw[if_pos hw]
    replace dW:=dW.trans (ce (dj (by show(c.length:Int)<((2+ee c:Nat):Int);omega)));refine d_ (dW.trans ?_);rw[hF];rfl
   rw[if_neg hw];have apo:cZ (ca 2 ((2+ee c:Nat):Int) (len c)) (ag ((2+ee c:Nat):Int) ((2+ee c:Nat):Int))=true:=by rw[cK rfl];simp(disch:=first|assumption|omega|(dsimp only;omega)|decide) only[go_sem,Int.reduceToNat];omega
   have app:∀y:V,cB 32 (bQ (aT bB) (aT [y]))=true:=λy=>by rw[g21];refine cF ?_;show(bB.length+1)*32<=_;omega
   have apq:ca ((2+ee c:Nat):Int) (len c) (len c)=true:=jP;replace dW:=dW.trans (a1 (c6 (by show ¬(c.length:Int)<((2+ee c:Nat):Int);omega)) (bn apo (bn (app _) (dR apq))));have oJ:sub c 2 ((2+ee c:Nat):Int)=(c.drop 2).take (ee c):=by unfold sub;rw[show(2:Int).toNat=2 from rfl,i0,BM]
   rw[oJ,IV c rfl]at dW;refine(ez dW).trans ?_;have:=ih (bB++[(c.drop 2).take (ee c)]) (c.drop (2+ee c)) 0 m8 J J (by rw[e?];omega) (by rw[show(0:Int).toNat=0 from rfl,nD,e?];omega) (by rw[cG];show bB.length+1+k<=_;omega);refine uV this ?_;rw[gt];rfl
 by_cases abV:all.length<skip.toNat
 .rw[if_pos abV]
  have dW:F (aO V,all,(buf,skip,bad,()),())=some (.ex 0 ([],[],(buf,skip-(all.length:Int),bad,()),())):=by
   subst hg;dsimp only;have e1:fC skip (len all)=((all.length:Nat):Int):=by rw[g57,g22];omega
   have aN:i64 (bi skip ((all.length:Nat):Int))=skip-(all.length:Int):=hM (by show -9223372036854775808<=skip-(all.length:Int);omega) (by show skip-(all.length:Int)<=9223372036854775807;omega);rw[e1,IV all rfl,aN,OJ];exact bn jP (ce rfl)
  refine(da (d_ dW)).trans ((bn g62 ?_));exact(bJ (FG [] bh))
 rw[if_neg abV];have:=run all.length [] all skip bad ac.1 J hall (by rw[e?];omega) fs;refine(da (show bN F (aO V,all,(buf,skip,bad,()),())=_ from this)).trans ((bn g62 ?_));dsimp only;refine(bJ (FG _ ?_));have cl:∀(k:Nat) (m8:Int) (a:V),(hH k m8 a).1.length<=a.length:=by
  intro k;induction k with
  |zero=>intro m8 a;exact bU _
  |succ k ih=>
   intro m8 a;unfold hH;split
   .exact bU _
   split
   .split
    .exact eZ (ih _ _) (by rw[e?];omega)
    simp
   split
   .exact bU _
   exact eZ (ih _ _) (by rw[e?];omega)
 have:=cl all.length bad (all.drop skip.toNat);rw[e?]at this;omega
def mc(l:List qb):Nat:=(l.map λx=>x.2.1.length).sum
def asI(l:List qb)(x:qb):mc (l++[x])=mc l+x.2.1.length:=by unfold mc;simp
def fl(h:eO):Nat:=(ak h.2.1 0 ep).1.length+(ak h.2.1 1 ep).1.length+(ak h.2.1 2 ep).1.length+(ak h.2.1 3 ep).1.length
structure b5(m t g:Nat)(s x:aG):Prop where
 bB:mc x.e.bB+950*x.e.queue.length<=mc s.e.bB+950*s.e.queue.length+m
 Dz:x.e.bB.length+x.e.queue.length<=s.e.bB.length+s.e.queue.length+t
 tab:x.p.2.1.length+x.e.queue.length<=s.p.2.1.length+s.e.queue.length+t
 got:x.e.got.length<=s.e.got.length+g
 buf:fl x.e.hub<=fl s.e.hub
def b5.refl(s:aG):b5 0 0 0 s s:=⟨J,J,J,J,J⟩
def b5.trans{t:Nat}{s x y:aG}(h:b5 m t g s x)(k:b5 mQ t' i1 x y):b5 (m+mQ) (t+t') (g+i1) s y:=by obtain⟨cI,cR,a3,a4,a5⟩:=h;obtain⟨eS,ei,jy,nM,qd⟩:=k;exact⟨J,J,J,J,J⟩
def b5.mono{t:Nat}{s x:aG}(h:b5 m t g s x)(hm:m<=mQ)(ht:t<=t')(hg:g<=i1):b5 mQ t' i1 s x:=by obtain⟨cI,cR,a3,a4,a5⟩:=h;exact⟨J,J,J,J,J⟩
def b5.to{t:Nat}{s x y:aG}(h:b5 m t g s x)(k:b5 mQ t' i1 x y){cn ev bw:Nat}(hm:m+mQ<=cn)(ht:t+t'<=ev)(hg:g+i1<=bw):b5 cn ev bw s y:=(h.trans k).mono hm ht hg
def b5.same(s x:aG)(aK:x.e.bB=s.e.bB)(a2:x.e.queue.length<=s.e.queue.length)(hp:x.p.2.1=s.p.2.1)(hg:x.e.got=s.e.got)(Y:x.e.hub.2.1=s.e.hub.2.1):b5 0 0 0 s x:=by refine⟨by rw[aK];omega,by rw[aK];omega,by rw[hp];omega,by rw[hg];omega,?_⟩;unfold fl;rw[Y];exact bU _
def au5(p:fk)(k b:V):(ln p k b).2.1.length<=p.2.1.length+1:=by
 unfold ln
 grind
def aay(s:aG)(v:dr)(k:V):b5 (48+v.2.2.2.2.2.1.length) 1 0 s (mF s v k).1:=by
 unfold mF;split
 .have O:=au5 s.p k (c3 v)
  have R:(fo (c3 v++jY k (c3 v))).length=48+v.2.2.2.2.2.1.length:=by rw[MG,cG,AV,xx];omega
  refine⟨?_,?_,?_,by dsimp only;omega,by unfold fl;rw[T_];omega⟩
  .dsimp only;rw[asI,R];omega
  .grind
  grind
 exact(b5.refl s).mono J J J
def Gf(s:aG)(b:V):b5 (48+b.length) 1 0 s (gh s b).1:=by
 have ao:b5 (48+b.length) 1 0 s s:=(b5.refl s).mono J J J;unfold gh;split
 .exact ao
 split
 .exact ao
 split
 .exact ao
 have:=aay s (h9 s.e b) s.e.ring.1.2.1;dsimp only;split
 .exact⟨this.bB,this.Dz,this.tab,this.got,this.buf⟩
 exact this
def Lk(s:aG)(o:Int)(b:V):b5 (48+b.length) 1 0 s (o6 s o b).1:=by
 unfold o6;split
 .exact aay s (g8 s.e o b) (gY s.e.key)
 exact(b5.refl s).mono J J J
def ql(s:aG)(k:Nat):b5 0 0 0 s (gy s k):=b5.same _ _ rfl (bU _) rfl rfl rfl
def aji{c n:Int}(h:(nN c n b).2.1=0):b.length<=900:=by
 unfold nN at h;split at h
 .rename_i hf;exact hf.2.2.2.2
 cases h
def RA(s:aG)(q:d1)(hm:(mr (q.1,q.2.1,lw s.e.stan,q.2.2.2)).1.length<=m):b5 (48+min m 900) 1 0 s (kW s q):=by
 have ao:b5 0 0 0 s (wP s q):=b5.same _ _ rfl (bU _) rfl rfl rfl;unfold kW;split
 .rename_i h
  have Y:=aji h.2;split
  .exact ao.to (Lk _ _ _) J J J
  exact ao.to (Gf _ _) J J J
 exact(b5.refl s).mono J J J
def CI(s:aG)(p:Int):b5 0 0 1 s (kB s p):=by refine⟨by show mc s.e.bB+950*([]:List V).length<=_;simp,by show s.e.bB.length+([]:List V).length<=_;simp,by show s.p.2.1.length+([]:List V).length<=_;simp,L' s.e p,bU _⟩
def aaw(s:aG):b5 0 0 1 s (wZ s):=by
 unfold wZ;split
 .exact(b5.refl s).mono J J J
 refine⟨by show mc []+950*([]:List V).length<=_;simp[mc],by show([]:List qb).length+([]:List V).length<=_;simp,by show s.p.2.1.length+([]:List V).length<=_;simp,L' s.e 8,?_⟩;exact fI _
def Gc(s:aG):b5 0 0 1 s (fX s).1:=by
 unfold fX;split
 .exact b5.mono (b5.same s (p0 s _) rfl (bU _) rfl rfl rfl) J J J
 split
 .exact b5.to (b5.same s (NR s (mm s.e.store s.e.power).1) rfl (bU _) rfl rfl rfl) (aaw (NR s (mm s.e.store s.e.power).1)) J J J
 exact(b5.refl s).mono J J J
def aaA(s:aG):b5 948 1 3 s (ru s).1:=by
 unfold ru;split
 .exact(b5.refl s).mono J J J
 split
 .exact(Gc s).mono J J J
 have O:=(Gc s).trans (CI (fX s).1 1);have R:b5 0 0 0 (kB (fX s).1 1) (uj (kB (fX s).1 1) (fX s).2.1):=b5.same _ _ rfl (bU _) rfl rfl rfl;exact(O.trans R).to (RA _ _ (bU _)) J J J
def aaB:∀(k:Nat) (s:aG),b5 0 0 0 s (xW k s)
 |0,s=>b5.refl s
 |k+1,s=>by
  unfold xW;split
  .exact b5.refl s
  rename_i b q a2;split
  .rename_i ao
   have Y:b.length<=900:=by
    unfold gh at ao;split at ao
    .cases ao
    rename_i h;exact(wy.1 h).2
   have O:=Gf s b;have zP:=(awT s b).2.1;have R:b5 0 0 0 s (DL (gh s b).1 q):=by
    obtain⟨cI,cR,a3,a4,a5⟩:=O;rw[zP]at cI cR a3;have hl:s.e.queue.length=q.length+1:=by rw[a2];rfl
    exact⟨by show mc (gh s b).1.e.bB+950*q.length<=_;omega,by show(gh s b).1.e.bB.length+q.length<=_;omega,by show(gh s b).1.p.2.1.length+q.length<=_;omega,a4,a5⟩
   exact R.to (aaB k _) J J J
  exact b5.refl s
def Gd(s:aG):b5 0 0 0 s (oY s):=aaB _ s
def Jl{no k l:Int}(h:fK no=some (k,l))(ao:dt k=0)(v:V):(hR (no,v,())).length<=(body k v).length:=by
 unfold hR rR;rw[h];dsimp only;split
 .unfold kY g4;rw[ao];simp
 simp
def adu(n:d1)(h:n.1=false\/¬n.2.1=101/\¬n.2.1=201):(gO (jF n)).length<=25:=by
 have pC:∀x:V,x.length=6->(hR (11,x,())).length<=3:=λx hx=>by have:=Jl CB rfl x;rw[y',hx]at this;simpa using this
 have aor:∀x:V,x.length=2->(hR (39,x,())).length<=2:=λx hx=>by have:=Jl K_ rfl x;rw[y',hx]at this;simpa using this
 have aou:∀x:V,x.length=3->(hR (70,x,())).length<=2:=λx hx=>by have:=Jl Rh rfl x;rw[y',hx]at this;simpa using this
 have Y:∀l,(gj l).length<=16:=λl=>by rw[qe];split<;>omega
 have cI:=pC (de n.2.2.1 6) na;have cR:=aor (de n.2.2.2.1 2) na;have a3:=aou (de n.2.1 3) na;unfold gO jF;rw[ cG,Bk];split
 .have:=Y (iE [(11,de n.2.2.1 6,()),(39,de n.2.2.2.1 2,()),(70,de n.2.1 3,())])
  simp;omega
 grind
def atC(n:d1):18<=(gO (jF n)).length:=by
 have bb:lW (iE (jF n).2.1)=true:=by
  unfold jF
  repeat(first|rfl|split)
 unfold gO;rw[cG,cG,Bk,qe,if_pos bb];omega
def aeY(n:d1)(r:Int):(kj n r).length<=25:=by
 unfold kj mr;split
 .refine adu _ (.inl ?_)
  unfold Fh
  repeat(first|rfl|split)
 simp
def ajc(c s:Int)(h:¬c=101/\¬c=201):(mr ((hY c).1,(hY c).2.1,s,(hY c).2.2.2)).1.length<=25:=by
 unfold mr;split
 .exact adu _ (.inr h)
 simp
def amn{m:M}(ah:jJ m=true):(gO (tD m)).length<=17:=by
 have cR:(hR r8).length<=2:=by have:=Jl K_ bP [57,49];rw[y']at this;exact this
 unfold gO tD;rw[cG,cG,Bk];split
 .rename_i h
  have O:=VM ah h;obtain⟨k,l,R,af⟩:=va.1 O;rw[CB]at R;obtain⟨rfl,rfl⟩:=Prod.mk.inj (lZ R);have aq:=(Ro CB af).2.1;have cI:=Jl CB bP (hI 11 m.2.1).1;rw[y']at cI;have:(gj (iE [(11,(hI 11 m.2.1).1,()),r8])).length=8:=by rw[qe];rfl
  simp only[yQ,Fc,cG,gu];simp only[show((1:Int)<=2)=True from by simp]at cI;simp at cI;omega
 have:(gj (iE [r8])).length=8:=by rw[qe];rfl
 simp only[yQ,Fc,cG,gu];omega
def aav(s:aG)(c:Int)(h:¬c=101/\¬c=201):b5 73 1 0 s (kW s (hY c)):=(RA s (hY c) (ajc c _ h)).mono J J J
def Ge(s:aG)(n:d1)(r:Int):b5 73 1 0 s (gh s (kj n r)).1:=(Gf s _).mono (by have:=aeY n r;omega) J J
def RB{s x:aG}(h:b5 0 0 0 s x)(n:d1)(r:Int):b5 73 1 0 s (gh x (kj n r)).1:=h.to (Ge x n r) J J J
def aoc(s:aG)(q:d1)(x:Int):b5 73 1 2 s (tw s q x):=by
 have ah:=aeY q 0;unfold tw;split
 .exact(ql s 3).mono J J J
 split
 .exact(Lk s _ _).mono J J J
 split
 .exact(ql s 3).mono J J J
 split
 .have O:=(Gc s).trans (CI (fX s).1 2)
  have R:b5 0 0 0 (kB (fX s).1 2) (vL (kB (fX s).1 2) (fX s).2.1 x):=b5.same _ _ rfl (bU _) rfl rfl rfl;exact(O.trans R).to (Lk _ _ _) J J J
 split
 .exact(Gc s).mono J J J
 exact(Gc s).to (ql _ 3) J J J
def Rz(s:aG)(k q:Int)(b:V):b5 0 0 1 s (FY s k q b):=by refine⟨bU _,bU _,bU _,?_,bU _⟩;show(s.e.got++[(k,gq s.e,q,b,())]).length<=_;simp
def aof(s:aG)(k:Int):b5 0 0 1 s (zk s k):=Rz s k 0 []
def aoi(s:aG)(v:dr)(q:d1):b5 73 1 2 s (qp s v q):=by
 unfold qp;dsimp only;split
 .exact(ql s 3).mono J J J
 split
 .exact aoc s q _
 split
 .have O:b5 0 0 1 s (Az s (ak v.2.2.1 (aa (1-s.e.id)) 0)):=by refine⟨bU _,bU _,bU _,?_,bU _⟩;show(s.e.got++[_]).length<=_;simp
  exact O.to (aav _ 301 bP) J J J
 exact(ql s 3).mono J J J
def CH(s:aG):b5 0 0 1 s (q8 s):=by
 unfold q8;split
 .exact b5.to (b5.same s (ul s 3) rfl (bU _) rfl rfl rfl) (aof _ 4) J J J
 exact(b5.refl s).mono J J J
def aoj(s:aG)(n:d1):b5 73 1 1 s (Au s n):=by
 have ai:b5 73 1 1 s (gy s 3):=(ql s 3).mono J J J;unfold Au;split
 .exact ai
 split
 .exact(Ge s n _).mono J J J
 split
 .exact(Ge s n _).mono J J J
 split
 .split
  .exact b5.mono (m:=73) (t:=1) (g:=0) (RB (by exact b5.same _ _ rfl (bU _) rfl rfl rfl) n _) J J J
  exact ai
 split
 .exact b5.mono (m:=73) (t:=1) (g:=0) (RB (by exact b5.same _ _ rfl (bU _) rfl rfl rfl) n _) J J J
 exact ai
def aaz(s:aG):b5 0 0 0 s (xe s):=by
 unfold xe;split
 .exact b5.same _ _ rfl (bU _) rfl rfl rfl
 exact b5.refl s
def aog(s:aG):b5 0 0 0 s (zs s):=by
 unfold zs;split
 .exact b5.same _ _ rfl (bU _) rfl rfl rfl
 exact b5.refl s
def aoh(s:aG):b5 0 0 1 s (zt s):=by
 unfold zt;split
 .exact CI s 0
 exact(b5.refl s).mono J J J
def aok(s:aG)(n:d1):b5 73 1 1 s (v_ s n):=by
 have ai:b5 73 1 1 s (gy s 3):=(ql s 3).mono J J J;unfold v_;split
 .split
  .exact aoj s n
  unfold B2;split
  .exact ai
  split
  .exact(aaz s).mono J J J
  exact b5.to (b5.same s (⟨NY s.e _,s.p⟩) rfl (bU _) rfl rfl rfl) (aav _ 301 bP) J J J
 split
 .split
  .exact b5.mono (m:=73) (t:=1) (g:=0) (RB (by exact b5.same _ _ rfl (bU _) rfl rfl rfl) n 0) J J J
  unfold BZ;split
  .exact ai
  split
  .exact b5.mono (b5.same _ _ rfl (bU _) rfl rfl rfl) J J J
  exact b5.mono (b5.same _ _ rfl (bU _) rfl rfl rfl) J J J
 unfold xM;split
 .split
  .exact(Ge s n 0).mono J J J
  split
  .exact(Ge s n 0).to (CI _ 0) J J J
  exact ai
 split
 .split
  .exact b5.mono (b5.same s (YG s) rfl (bU _) rfl rfl rfl) J J J
  split
  .exact(CI s 0).mono J J J
  exact ai
 exact ai
def aeT(h:(ls b).2.1=0):18<=b.length:=by
 rcases aeS b with⟨n,O,R,af⟩|⟨e,O,R⟩
 .rw[<- af];exact atC n
 grind
def ayQ(m:M):10<=(gO m).length:=by
 unfold gO;rw[cG,cG,Bk,qe]
 grind
def aoe(s:aG)(v:dr):∃m t g,b5 m t g s (oI s v)/\4*m<=5*(48+v.2.2.2.2.2.1.length)/\20*t<=48+v.2.2.2.2.2.1.length/\20*g<=48+v.2.2.2.2.2.1.length:=by
 unfold oI;split
 .split
  .rename_i O R
   have:=aeT R;exact⟨73,1,2,(CH s).to (aok _ _) J J J,J,J,J⟩
  split
  .rename_i O R af
   obtain⟨aq,a8⟩:=Ul af;have cT:=ayQ (fw v.2.2.2.2.2.1).1;rw[a8]at cT;unfold Ew;split
   .exact⟨0,0,1,(CH s).to (ql _ 3) J J J,J,J,J⟩
   split
   .exact⟨0,0,2,(CH s).to (Rz _ _ _ _) J J J,J,J,J⟩
   split
   .exact⟨0,0,1,(CH s).to (ql _ 3) J J J,J,J,J⟩
   have dN:=amn aq;exact⟨65,1,1,(CH s).to (Gf _ _) J J J,J,J,J⟩
  exact⟨0,0,1,(CH s).to (ql _ 0) J J J,J,J,J⟩
 split
 .rename_i O R
  have:=aeT R;exact⟨73,1,2,aoi s v _,J,J,J⟩
 exact⟨0,0,0,ql s 0,J,J,J⟩
def aom(s:aG)(b:V):b5 0 0 0 s (iY s b).1:=by
 have hp:=YE s (eR b).1;have O:∀k,b5 0 0 0 s (gy ⟨s.e,(jh s (eR b).1).1⟩ k):=λk=>b5.same _ _ rfl (bU _) hp rfl rfl;unfold iY;split
 .exact ql s 0
 split
 .exact ql s 3
 split
 .exact O 1
 split
 .exact b5.same _ _ rfl (bU _) hp rfl rfl
 split
 .exact O 2
 exact b5.same _ _ rfl (bU _) hp rfl rfl
structure yL(C:Nat)(s x:aG):Prop where
 bB:4*(mc x.e.bB+950*x.e.queue.length)<=4*(mc s.e.bB+950*s.e.queue.length)+5*C
 Dz:20*(x.e.bB.length+x.e.queue.length)<=20*(s.e.bB.length+s.e.queue.length)+C
 tab:20*(x.p.2.1.length+x.e.queue.length)<=20*(s.p.2.1.length+s.e.queue.length)+C
 got:20*x.e.got.length<=20*s.e.got.length+C
 buf:fl x.e.hub<=fl s.e.hub
def b5.mI{t C:Nat}{s x:aG}(h:b5 m t g s x)(hm:4*m<=5*C)(ht:20*t<=C)(hg:20*g<=C):yL C s x:=by obtain⟨cI,cR,a3,a4,a5⟩:=h;exact⟨J,J,J,J,a5⟩
def yL.trans{C D:Nat}{s x y:aG}(h:yL C s x)(k:yL D x y):yL (C+D) s y:=by obtain⟨cI,cR,a3,a4,a5⟩:=h;obtain⟨eS,ei,jy,nM,qd⟩:=k;exact⟨J,J,J,J,J⟩
def avF(h:(eR b).2.1=0):(eR b).1.2.2.2.2.2.1.length+46=b.length:=by
 unfold eR at h ⊢;split at h
 .cases h
 split at h
 .cases h
 split at h
 .rename_i O R af
  rw[if_neg O,if_neg R,if_pos af];show((b.drop 30).take (b.length-46)).length+46=_
  grind
 cases h
def aoo(s:aG)(b:V):yL (b.length+2) s (l6 s b):=by
 have ao:=aom s b;unfold l6;split
 .exact ao.mI J J J
 rename_i v aC;obtain⟨O,rfl⟩:=VE aC;have hl:=avF O;obtain⟨m,t,g,R,af,aq,a8⟩:=aoe (iY s b).1 (eR b).1;exact((ao.trans R).trans (Gd _)).mI J J J
def kV(l:List V):Nat:=(l.map λx=>x.length+2).sum
def aaF:∀(l:List V) (s:aG),yL (kV l) s (vb s l)
 |[],s=>(b5.refl s).mI J J J
 |b::l,s=>by
  have hp:kV (b::l)=b.length+2+kV l:=by unfold kV;simp
  unfold vb;split
  .exact(b5.refl s).mI J J J
  exact(aoo s b).trans (aaF l _)
def QE:∀(k:Nat) (bad:Int) (a:V),(hH k bad a).1.length+kV (hH k bad a).2.2.2<=a.length
 |0,bad,a=>by exact bU _
 |k+1,bad,a=>by
  unfold hH;split
  .exact bU _
  split
  .split
   .have:=QE k (i64 (bad+1)) (a.drop (2+ee a))
    grind
   exact fI _
  split
  .exact bU _
  rename_i O R af;have:=QE k bad (a.drop (2+ee a));rw[e?]at this;show(hH k bad (a.drop (2+ee a))).1.length+kV ((a.drop 2).take (ee a)::(hH k bad (a.drop (2+ee a))).2.2.2)<=a.length;have hp:kV ((a.drop 2).take (ee a)::(hH k bad (a.drop (2+ee a))).2.2.2)=min (ee a) (a.length-2)+2+kV (hH k bad (a.drop (2+ee a))).2.2.2:=by unfold kV;simp
  omega
def au9(f:p_)(b:V):(iV f b).1.1.length+kV (iV f b).2<=f.1.length+b.length:=by
 unfold iV;split
 .exact fI _
 have:=QE (f.1++b).length f.2.2.1 ((f.1++b).drop f.2.1.toNat)
 grind
def Xp(h:eO)(c:Int)(b:V)(ao:(hn h c b).2.2=0)(aq:h.2.1.length=4):fl (hn h c b).1+kV (hn h c b).2.1<=fl h+b.length:=by
 unfold hn at ao ⊢;split at ao
 .cases ao
 split at ao
 .cases ao
 rename_i O R;rw[if_neg O,if_neg R];have ai:=wy.1 O;have hp:=au9 (ak h.2.1 c.toNat ep) b;obtain⟨x,y,z,u,hx⟩:=aaa aq;have R3:c=0\/c=1\/c=2\/c=3:=by unfold l3 at ai;omega
 unfold fl;dsimp only;rcases R3 with rfl|rfl|rfl|rfl
 all_goals
  rw[hx]at hp ⊢;show _+kV (iV (ak [x,y,z,u] _ ep) b).2<=_
  first
   | (
    show(iV x b).1.1.length+y.1.length+z.1.length+u.1.length+kV (iV x b).2<=x.1.length+y.1.length+z.1.length+u.1.length+b.length;have:(iV x b).1.1.length+kV (iV x b).2<=x.1.length+b.length:=hp;omega)
   | (
    show x.1.length+(iV y b).1.1.length+z.1.length+u.1.length+kV (iV y b).2<=x.1.length+y.1.length+z.1.length+u.1.length+b.length;have:(iV y b).1.1.length+kV (iV y b).2<=y.1.length+b.length:=hp;omega)
   | (
    show x.1.length+y.1.length+(iV z b).1.1.length+u.1.length+kV (iV z b).2<=x.1.length+y.1.length+z.1.length+u.1.length+b.length;have:(iV z b).1.1.length+kV (iV z b).2<=z.1.length+b.length:=hp;omega)
   | (
    show x.1.length+y.1.length+z.1.length+(iV u b).1.1.length+kV (iV u b).2<=x.1.length+y.1.length+z.1.length+u.1.length+b.length;have:(iV u b).1.1.length+kV (iV u b).2<=u.1.length+b.length:=hp;omega)
structure ah5(C:Nat)(s x:aG):Prop where
 bB:4*(mc x.e.bB+950*x.e.queue.length)+5*fl x.e.hub<=4*(mc s.e.bB+950*s.e.queue.length)+5*(fl s.e.hub+C)
 Dz:20*(x.e.bB.length+x.e.queue.length)+fl x.e.hub<=20*(s.e.bB.length+s.e.queue.length)+fl s.e.hub+C
 tab:20*(x.p.2.1.length+x.e.queue.length)+fl x.e.hub<=20*(s.p.2.1.length+s.e.queue.length)+fl s.e.hub+C
 got:20*x.e.got.length+fl x.e.hub<=20*s.e.got.length+fl s.e.hub+C
def aag{s:aG}(aq:s.e.hub.2.1.length=4)(c:Int)(b:V):ah5 b.length s (q5 s c b):=by
 unfold q5;split
 .exact⟨J,J,J,J⟩
 rename_i ao;have Y:=Xp s.e.hub c b (wy.1 ao) aq;obtain⟨cI,cR,a3,a4,a5⟩:=aaF (hn s.e.hub c b).2.1 (sb s c b);have e1:(sb s c b).e.hub=(hn s.e.hub c b).1:=rfl;have aN:(sb s c b).e.bB=s.e.bB:=rfl;have dJ:(sb s c b).e.queue=s.e.queue:=rfl;have gQ:(sb s c b).p=s.p:=rfl;have oJ:(sb s c b).e.got=s.e.got:=rfl;rw[e1]at a5;rw[aN,dJ]at cI cR;rw[dJ,gQ]at a3;rw[oJ]at a4;exact⟨J,J,J,J⟩
def ey(l:List eN):Nat:=(l.map λf=>f.2.2.1.length).sum
def L?(l m:List eN):ey (l++m)=ey l+ey m:=by unfold ey;rw[E4,List.sum_append]
theorem sE(f:eN)(l:List eN):ey (f::l)=f.2.2.1.length+ey l:=rfl
def Av(f:eN):Prop:=(f.1=0\/f.1=1)/\(0<=f.2.1/\f.2.1<4)/\f.2.2.1.length<=948
structure gS(w:bW):Prop where
 s:∀i,rr (w.at i)
 bB:∀i,(w.e i).bB=[]
 got:∀i,(w.e i).got=[]
 ba:∀f∈w.ba,Av f
 old:∀f∈w.old,Av f
def fj(w:bW):Nat:=(w.e false).queue.length+(w.e true).queue.length
def fF(w:bW):Nat:=fl (w.e false).hub+fl (w.e true).hub
def em(w:bW):Nat:=w.p.2.1.length+w.old.length+w.ba.length+(w.eE false).length+(w.eE true).length+3*fj w
def h'(w:bW):Nat:=ey w.ba+fF w+950*fj w
def DO(f:Bool->α)(i:Bool)(x:α):iW f i x i=x:=by unfold iW;rw[if_pos rfl]
def DP(f:Bool->α)(i:Bool)(x:α):iW f i x (!i)=f (!i):=by unfold iW;rw[if_neg (by cases i<;>decide)]
def VP(f:Bool->Nat)(i:Bool):f false+f true=f i+f (!i):=by cases i<;>(show f false+f true=_)<;>first|rfl|exact Nat.add_comm _ _
def OU(w:bW)(i:Bool):fj w=(w.e i).queue.length+(w.e (!i)).queue.length:=VP (λj=>(w.e j).queue.length) i
def Oy(w:bW)(i:Bool):fF w=fl (w.e i).hub+fl (w.e (!i)).hub:=VP (λj=>fl (w.e j).hub) i
def Tg(w:bW)(i:Bool):(w.eE false).length+(w.eE true).length=(w.eE i).length+(w.eE (!i)).length:=VP (λj=>(w.eE j).length) i
structure ah6(w:bW)(i:Bool)(x:aG)(v:bW):Prop where
 ba:v.ba=w.ba++x.e.bB.map (i9 i)\/v.ba=[]
 Q:fj v=x.e.queue.length+(w.e (!i)).queue.length
 B:fF v<=fl x.e.hub+fl (w.e (!i)).hub
 Z:em v<=x.p.2.1.length+(w.old.length+x.e.bB.length)+(w.ba.length+x.e.bB.length)+((w.eE i).length+x.e.got.length)+(w.eE (!i)).length+3*fj v
def Xo(h:eO)(c:Int):fl (k9 h c).1<=fl h:=by
 have key:∀k,(ak (k9 h c).1.2.1 k ep).1.length<=(ak h.2.1 k ep).1.length:=by
  intro k;unfold k9;split
  .simp
  split
  .simp
  show(ak (cj h.2.1 c.toNat ep) k ep).1.length<=_;unfold ak cj;rw[nE,E'];split
  .split<;>exact fI _
  simp
 unfold fl
 grind
def Fs(w:bW)(c:Int):fj (iJ w c)=fj w/\fF (iJ w c)<=fF w/\em (iJ w c)<=em w/\ey (iJ w c).ba<=ey w.ba:=by
 have hf:((w.ba.filter λf=>decide (¬f.2.1=c))).length<=w.ba.length:=rW _ _;have ao:=Xo (w.e false).hub c;have O:=Xo (w.e true).hub c;refine⟨rfl,?_,?_,?_⟩
 .show fl (k9 (w.e false).hub c).1+fl (k9 (w.e true).hub c).1<=fl (w.e false).hub+fl (w.e true).hub
  omega
 .show w.p.2.1.length+w.old.length+(w.ba.filter λf=>decide (¬f.2.1=c)).length+(w.eE false).length+(w.eE true).length+3*fj w<=em w
  unfold em;omega
 show ey (w.ba.filter λf=>decide (¬f.2.1=c))<=ey w.ba;generalize w.ba=l;induction l with
 |nil=>exact bU _
 |cons f l ih=>
  rw[List.filter_cons];split
  .rw[sE,sE];omega
  rw[sE];omega
def ajK{w:bW}(h:∀f∈w.ba,Av f):(y? w).ba=[]:=by
 show((((w.ba.filter λf=>decide (¬f.2.1=0)).filter λf=>decide (¬f.2.1=1)).filter λf=>decide (¬f.2.1=2)).filter λf=>decide (¬f.2.1=3))=[];rw[E9,E9,E9,JU];intro f hf;have:=(h f hf).2.1
 grind
def ajL(w:bW):fj (y? w)=fj w/\fF (y? w)<=fF w/\em (y? w)<=em w:=by obtain⟨cI,cR,a3,_⟩:=Fs w 0;obtain⟨eS,ei,jy,_⟩:=Fs (iJ w 0) 1;obtain⟨c1,c2,hw,_⟩:=Fs (iJ (iJ w 0) 1) 2;obtain⟨k?,mB,w1,_⟩:=Fs (iJ (iJ (iJ w 0) 1) 2) 3;exact⟨rfl,by show fF (iJ _ 3)<=_;omega,by show em (iJ _ 3)<=_;omega⟩
def atQ{s:aG}(h:rr s)(c:Int):rr ⟨nR s.e c,s.p⟩:=by obtain⟨n,h⟩:=h;exact⟨n,atY h.e c,h.p⟩
def HU{w:bW}(h:gS w)(c:Int):gS (iJ w c):=
 ⟨λi=>atQ (h.s i) c,h.bB,h.got,λf hf=>h.ba f (r0.1 hf).1,h.old⟩
def adL{x:aG}(h:bA n x):∀f∈x.e.bB.map (i9 i),Av f:=by intro f hf;obtain⟨y,hy,rfl⟩:=m1.1 hf;obtain⟨O,R⟩:=h.e.outs y hy;exact⟨by cases i<;>first|exact .inl rfl|exact .inr rfl,O,R⟩
def aug{w:bW}(h:gS w){x:aG}(hx:rr x):gS (l7 w i x):=by
 obtain⟨n,aj⟩:=hx;have aF:qG n { x.e with bB:=[],got:=[] }:={ aj.e with bB:=fI _,got:=fI _,outs:=λ_ hx=>by cases hx };refine⟨λj => ?_,λj => ?_,λj => ?_,λf hf => ?_,λf hf => ?_⟩
 .by_cases an:j=i
  .subst an
   exact⟨n,by show qG n (iW w.e j _ j);rw[DO];exact aF,aj.p⟩
  have dK:j=!i:=by cases i<;>cases j<;>simp_all
  subst dK;obtain⟨m,hm⟩:=h.s (!i);refine⟨max n m,?_,eZ aj.p (Nat.le_max_left _ _)⟩;show qG _ (iW w.e i _ (!i));rw[DP];exact DD hm.e (Nat.le_max_right _ _)
 .by_cases an:j=i
  .subst an;show(iW w.e j _ j).bB=[];rw[DO]
  have dK:j=!i:=by cases i<;>cases j<;>simp_all
  subst dK;show(iW w.e i _ (!i)).bB=[];rw[DP];exact h.bB _
 .by_cases an:j=i
  .subst an;show(iW w.e j _ j).got=[];rw[DO]
  have dK:j=!i:=by cases i<;>cases j<;>simp_all
  subst dK;show(iW w.e i _ (!i)).got=[];rw[DP];exact h.got _
 .rcases io.1 hf with hf|hf
  .exact h.ba f hf
  exact adL aj f hf
 rcases io.1 hf with hf|hf
 .exact h.old f hf
 exact adL aj f hf
def ad6{w:bW}(h:gS w){x:aG}(hx:rr x):gS (jQ w i x)/\ah6 w i x (jQ w i x):=by
 have ao:=aug (i:=i) h hx;have zx:fj (l7 w i x)=x.e.queue.length+(w.e (!i)).queue.length:=by rw[OU _ i];show(iW w.e i _ i).queue.length+(iW w.e i _ (!i)).queue.length=_;rw[DO,DP]
 have aB:fF (l7 w i x)=fl x.e.hub+fl (w.e (!i)).hub:=by rw[Oy _ i];show fl (iW w.e i _ i).hub+fl (iW w.e i _ (!i)).hub=_;rw[DO,DP]
 have zz:em (l7 w i x)=x.p.2.1.length+(w.old.length+x.e.bB.length)+(w.ba.length+x.e.bB.length)+((w.eE i).length+x.e.got.length)+(w.eE (!i)).length+3*fj (l7 w i x):=by
  have hl:=Tg (l7 w i x) i;have e1:((l7 w i x).eE i).length=(w.eE i).length+x.e.got.length:=by show(iW w.eE i _ i).length=_;rw[DO,cG]
  have aN:((l7 w i x).eE (!i)).length=(w.eE (!i)).length:=by show(iW w.eE i _ (!i)).length=_;rw[DP]
  unfold em;rw[show(l7 w i x).p=x.p from rfl,show(l7 w i x).old=w.old++x.e.bB.map (i9 i) from rfl,show(l7 w i x).ba=w.ba++x.e.bB.map (i9 i) from rfl,cG,cG,ov];omega
 unfold jQ;split
 .obtain⟨eS,ei,jy⟩:=ajL (l7 w i x)
  refine⟨HU (HU (HU (HU ao 0) 1) 2) 3,.inr (ajK ao.ba),eS.trans zx,eZ ei (E8 aB),?_⟩;omega
 exact⟨ao,.inl rfl,zx,E8 aB,E8 zz⟩
def acM(i:Bool)(l:List qb):ey (l.map (i9 i))=mc l:=by unfold ey mc;rw[JB];rfl
def Pl{w:bW}(h:gS w)(i:Bool)(c:Int)(b:V):gS (k7 w i c b)/\((k7 w i c b).ba=[]\/∃o,(k7 w i c b).ba=w.ba++o/\4*(ey o+950*fj (k7 w i c b))+5*fF (k7 w i c b)<=4*(950*fj w)+5*(fF w+b.length)) /\
  4*(950*fj (k7 w i c b))+5*fF (k7 w i c b)<=4*(950*fj w)+5*(fF w+b.length)/\20*em (k7 w i c b)+4*fF (k7 w i c b)<=20*em w+4*(fF w+b.length):=by
 have hf:rr (q5 (w.at i) c b):=atP (h.s i) c b;obtain⟨n,aj⟩:=h.s i;obtain⟨cI,cR,a3,a4⟩:=aag (s:=w.at i) aj.e.feed c b;have aK:(w.at i).e.bB=[]:=h.bB i;have hg:(w.at i).e.got=[]:=h.got i;rw[aK]at cI cR;rw[hg]at a4;have d4:mc ([]:List qb)=0:=rfl;have e1:([]:List qb).length=0:=rfl;have aN:([]:List lz).length=0:=rfl;rw[d4]at cI;rw[e1]at cR;rw[aN]at a4;obtain⟨O,R,af,aq,a8⟩:=ad6 (i:=i) h hf;have a2:=OU w i;have Y:=Oy w i;have bj:=Tg w i;have bG:(w.at i).e.queue.length=(w.e i).queue.length:=rfl;have b_:fl (w.at i).e.hub=fl (w.e i).hub:=rfl;have cp:(w.at i).p.2.1.length=w.p.2.1.length:=rfl;have zz:em w=w.p.2.1.length+w.old.length+w.ba.length+(w.eE false).length+(w.eE true).length+3*fj w:=rfl;rw[show k7 w i c b=jQ w i (q5 (w.at i) c b) from rfl];refine⟨O,?_,J,J⟩;rcases R with R|R
 .refine .inr ⟨_,R,?_⟩
  rw[acM];omega
 exact .inl R
def U_{w:bW}(h:gS w)(i:Bool){x:aG}(hx:rr x){t:Nat}(hg:b5 m t g (w.at i) x):gS (jQ w i x)/\h' (jQ w i x)<=h' w+m/\em (jQ w i x)<=em w+3*t+g:=by
 obtain⟨cI,cR,a3,a4,a5⟩:=hg;have aK:(w.at i).e.bB=[]:=h.bB i;have Ly:(w.at i).e.got=[]:=h.got i;rw[aK]at cI cR;rw[Ly]at a4;have d4:mc ([]:List qb)=0:=rfl;have e1:([]:List qb).length=0:=rfl;have aN:([]:List lz).length=0:=rfl;rw[d4]at cI;rw[e1]at cR;rw[aN]at a4;obtain⟨O,R,af,aq,a8⟩:=ad6 (i:=i) h hx;have a2:=OU w i;have Y:=Oy w i;have bj:=Tg w i;have bG:(w.at i).e.queue.length=(w.e i).queue.length:=rfl;have b_:fl (w.at i).e.hub=fl (w.e i).hub:=rfl;have cp:(w.at i).p.2.1.length=w.p.2.1.length:=rfl;have zz:em w=w.p.2.1.length+w.old.length+w.ba.length+(w.eE false).length+(w.eE true).length+3*fj w:=rfl;have q?:ey (jQ w i x).ba<=ey w.ba+mc x.e.bB:=by
  rcases R with R|R
  .rw[R,L?,acM];exact bU _
  rw[R];exact fI _
 refine⟨O,?_,?_⟩
 .unfold h';omega
 omega
def O?:=@List.mem_of_mem_eraseIdx
def O3:=@List.length_eraseIdx_le
def WQ:=@List.exists_cons_of_ne_nil
def WR:=@List.mem_or_eq_of_mem_set
def JD:=@Nat.mul_add
def W4{a:gv}(h:AR a):a.2.2.2.2.1.length<=900:=by
 rcases h with rfl|h
 .exact fI _
 exact h.1.2.2.2.2
def aob(s:aG){a:gv}(h:a.2.2.2.2.1.length<=900):b5 948 1 0 s (y5 s a):=by
 unfold y5;split
 .exact(Lk s _ _).mono J J J
 exact(Gf s _).mono J J J
def aod(s:aG):b5 0 0 1 s (ze s):=by
 unfold ze;split
 .exact(aaz s).mono J J J
 split
 .exact(aog s).mono J J J
 exact aoh s
def aon(s:aG)(a:gv):b5 0 0 0 s (yy s a):=b5.same _ _ rfl (bU _) rfl rfl rfl
def aaD{s:aG}(ac:bA n s):b5 948 1 1 s (uE s):=by
 have ao:=aon s (mo s.e.ask).1;unfold uE;split
 .exact ao.to (aob _ (W4 (Uz ac.e.askr))) J J J
 split
 .exact ao.to (aod _) J J J
 exact ao.mono J J J
def RC{s:aG}(ac:bA n s):b5 948 1 3 s (kG s):=by
 have ah:b5 0 0 0 s (Ie s):=b5.same _ _ rfl (bU _) rfl rfl rfl;unfold kG;split
 .exact(b5.refl s).mono J J J
 split
 .split
  .exact ah.to (aaA _) J J J
  exact(ah.trans (aaD (HR ac))).to (Gd _) J J J
 exact(aaD ac).to (Gd _) J J J
def aol(s:aG)(b:V):b5 950 1 1 s (yh s b).1:=by
 have ao:b5 950 1 1 s s:=(b5.refl s).mono J J J;unfold yh;split
 .exact ao
 split
 .exact ao
 split
 .exact ao
 have a2:(oZ s.e.queue (oe b s.e.day).1).1.length<=s.e.queue.length+1:=by
  unfold oZ
  grind
 have O:b5 950 1 0 s (DL s (oZ s.e.queue (oe b s.e.day).1).1):=by
  refine⟨?_,?_,?_,bU _,bU _⟩
  .show mc s.e.bB+950*(oZ s.e.queue (oe b s.e.day).1).1.length<=_;omega
  .show s.e.bB.length+(oZ s.e.queue (oe b s.e.day).1).1.length<=_;omega
  show s.p.2.1.length+(oZ s.e.queue (oe b s.e.day).1).1.length<=_;omega
 exact(O.trans (Rz _ 1 0 (oe b s.e.day).1)).to (Gd _) J J J
def aax{s:aG}(ac:bA n s)(a:dy):b5 950 1 3 s (tF s a).1:=by
 have ao:b5 950 1 3 s s:=(b5.refl s).mono J J J;have a2:∀(x:aG) (q:d1),b5 948 1 0 x (kW x q):=λx q=>(RA x q (bU _)).mono J J J;unfold tF;split
 .exact(aol s _).mono J J J
 split
 .exact(aaA s).mono J J J
 split
 .unfold za
  split
  .exact ao
  split
  .exact ao
  split
  .exact(CI s 0).mono J J J
  have O:b5 0 0 0 s (Qw s):=b5.same _ _ rfl (fI _) rfl rfl rfl;exact O.to (a2 _ _) J J J
 split
 .unfold zh
  split
  .exact ao
  split
  .exact ao
  exact(a2 _ _).mono J J J
 split
 .unfold Am
  split
  .exact ao
  split
  .exact ao
  split
  .exact ao
  split
  .exact ao
  have O:b5 0 0 0 s ⟨{ s.e with ph:=4,ring:=(mg s.e.ring (rn s.e.ring).1 (pu s.e (rn s.e.ring).1 a.2.2.2.2.1)).1 },s.p⟩:=b5.same _ _ rfl (bU _) rfl rfl rfl;exact O.to (a2 _ _) J J J
 split
 .unfold zg
  split
  .exact ao
  split
  .exact ao
  split
  .exact ao
  have O:b5 0 0 0 s (ul s 5):=b5.same _ _ rfl (bU _) rfl rfl rfl;exact O.to (a2 _ _) J J J
 split
 .exact(RC ac).mono J J J
 split
 .exact(aaw s).mono J J J
 split
 .unfold B?
  repeat(first|exact ao|exact b5.mono (m:=0) (t:=0) (g:=0) (by exact b5.same _ _ rfl (bU _) rfl rfl rfl) J J J|split)
 split
 .exact b5.mono (m:=0) (t:=0) (g:=0) (by exact b5.same _ _ rfl (bU _) rfl rfl rfl) J J J
 exact ao
def KD:∀(k:Nat) {w:bW},gS w->(k<=w.ba.length\/w.ba=[])->gS (m? k w) /\
  4*(ey (m? k w).ba+950*fj (m? k w))+5*fF (m? k w)<=5*(ey (w.ba.take k)+fF w)+4*(ey (w.ba.drop k)+950*fj w) /\
  20*em (m? k w)+4*fF (m? k w)<=20*em w+4*(fF w+ey (w.ba.take k))
 |0,w,h,ap=>⟨h,by show 4*(ey w.ba+950*fj w)+5*fF w<=5*(ey []+fF w)+4*(ey w.ba+950*fj w);omega,by show 20*em w+4*fF w<=_;omega⟩
 |k+1,w,h,ap=>by
  unfold m?;split
  .grind
  rename_i ao;obtain⟨f,r,hf⟩:=WQ ao;have LA:k<=r.length:=by
   grind
  have e:(lI w 0 0).1=k7 { w with ba:=r } (lx f.1) f.2.1 f.2.2.1:=by unfold lI;rw[hf];rw[if_neg bh];rfl
  have O:gS { w with ba:=r }:=⟨h.s,h.bB,h.got,λg hg=>h.ba g (by grind),h.old⟩;obtain⟨eS,ei,jy,nM⟩:=Pl O (lx f.1) f.2.1 f.2.2.1;rw[e];generalize k7 { w with ba:=r } (lx f.1) f.2.1 f.2.2.1=v at eS ei jy nM;have bG:fj ({ w with ba:=r }:bW)=fj w:=rfl;have b_:fF ({ w with ba:=r }:bW)=fF w:=rfl;have cp:em ({ w with ba:=r }:bW)+1=em w:=by unfold em;rw[bG,hf];simp;omega
  have dT:ey ((f::r).take (k+1))=f.2.2.1.length+ey (r.take k):=rfl;rcases ei with aC|⟨o,aC,ei⟩
  .obtain⟨c1,c2,hw⟩:=KD k eS (.inr aC)
   have ahS:ey (([]:List eN).take k)=0:=by cases k<;>rfl
   grind
  have cr:k<=v.ba.length:=by rw[aC,cG];exact eZ LA (Nat.le_add_right _ _)
  obtain⟨c1,c2,hw⟩:=KD k eS (.inl cr);have aN:v.ba.drop k=r.drop k++o:=by rw[aC];exact WS LA
  rw[aN,L?]at c2
  grind
def VI{w:bW}(h:gS w)(i:Bool):gS (nz w i)/\h' (nz w i)<=h' w+948/\em (nz w i)<=em w+6:=by obtain⟨n,aj⟩:=h.s i;exact U_ h i ⟨_,ad3 aj⟩ (RC aj)
def awn{w:bW}(h:gS w):gS (jK w)/\4*h' (jK w)<=5*h' w+7600/\20*em (jK w)<=20*em w+4*h' w+240:=by
 obtain⟨cI,cR,a3⟩:=KD w.ba.length h (.inl (bU _));rw[nF]at cR a3;rw[OJ]at cR;obtain⟨eS,ei,jy⟩:=VI cI false;obtain⟨c1,c2,hw⟩:=VI eS true;have d4:ey ([]:List eN)=0:=rfl;rw[d4]at cR;refine⟨c1,?_,?_⟩
 .show 4*h' (nz (nz (m? w.ba.length w) false) true)<=_
  unfold h' at *
  omega
 show 20*em (nz (nz (m? w.ba.length w) false) true)<=_;unfold h';omega
def qg{f:p_}(h:pV f):f.1.length<=1025:=by rcases h.2 with h|h<;>omega
def ahZ{w:bW}(h:gS w):fF w<=8200:=by
 have key:∀i,fl (w.e i).hub<=4100:=λi=>by obtain⟨n,aj⟩:=h.s i;have ao:=qg (aj.e.fd 0);have O:=qg (aj.e.fd 1);have R:=qg (aj.e.fd 2);have af:=qg (aj.e.fd 3);show(ak (w.at i).e.hub.2.1 0 ep).1.length+(ak (w.at i).e.hub.2.1 1 ep).1.length+(ak (w.at i).e.hub.2.1 2 ep).1.length+(ak (w.at i).e.hub.2.1 3 ep).1.length<=4100;omega
 have ao:=key false;have O:=key true;unfold fF;omega
structure k6(w v:bW):Prop where
 ok:gS v
 L:h' v<=h' w+4000
 Z:em v<=em w+4000
def k6.refl{w:bW}(h:gS w):k6 w w:=⟨h,J,J⟩
def U1{w u:bW}(h:gS u)(i:Bool)(c:Int)(Y:b.length<=1200)(hL:h' u+b.length<=h' w+1200)(zz:em u<=em w):k6 w (k7 u i c b):=by
 obtain⟨cI,cR,a3,a4⟩:=Pl h i c b;have aB:=ahZ h;have aL:h' u=ey u.ba+fF u+950*fj u:=rfl;refine⟨cI,?_,J⟩;show ey (k7 u i c b).ba+fF (k7 u i c b)+950*fj (k7 u i c b)<=_;rcases cR with cR|⟨o,cR,a5⟩
 .rw[cR,show ey ([]:List eN)=0 from rfl];omega
 rw[cR,L?];omega
def Tb:∀(l:List eN) (n:Nat),n<l.length->ey (l.eraseIdx n)+(ak l n ns).2.2.1.length=ey l
 |f::l,0,h=>by show ey l+f.2.2.1.length=_;rw[sE];omega
 |f::l,n+1,h=>by have:=Tb l n (by grind);show ey (f::l.eraseIdx n)+(ak l n ns).2.2.1.length=_;rw[sE,sE];omega
def acN:∀(l:List eN) (n:Nat) (g:eN),n<l.length->ey (l.set n g)+(ak l n ns).2.2.1.length=ey l+g.2.2.1.length
 |f::l,0,g,h=>by show ey (g::l)+f.2.2.1.length=_;rw[sE,sE];omega
 |f::l,n+1,g,h=>by have:=acN l n g (by grind);show ey (f::l.set n g)+(ak l n ns).2.2.1.length=_;rw[sE,sE];omega
def HO{l:List eN}(h:n<l.length):ak l n ns∈l:=by unfold ak;rw[nE,jN h];exact mu h
def HV{w:bW}(h:gS w){l:List eN}(hl:∀f∈l,Av f):gS { w with ba:=l }:=⟨h.s,h.bB,h.got,hl,h.old⟩
def axs{w:bW}(h:gS w)(n m:Int):k6 w (lI w n m).1:=by
 unfold lI;split
 .exact k6.refl h
 have aj:n.toNat<w.ba.length:=J;have fS:=h.ba _ (HO aj);dsimp only;split
 .rename_i hm
  refine U1 (HV h λf hf => ?_) _ _ (by rw[hE];have:=fS.2.2;omega) ?_ ?_
  .rcases WR hf with hf|rfl
   .exact h.ba f hf
   exact⟨fS.1,fS.2.1,by rw[e?];have:=fS.2.2;omega⟩
  .have:=acN w.ba n.toNat ((ak w.ba n.toNat ns).1,(ak w.ba n.toNat ns).2.1,(ak w.ba n.toNat ns).2.2.1.drop m.toNat,()) aj
   rw[e?]at this;rw[hE];show ey (w.ba.set n.toNat _)+fF w+950*fj w+_<=ey w.ba+fF w+950*fj w+1200;omega
  show w.p.2.1.length+w.old.length+(w.ba.set n.toNat _).length+(w.eE false).length+(w.eE true).length+3*fj w<=em w;rw[ko];exact bU _
 refine U1 (HV h λf hf=>h.ba f (O? hf)) _ _ (by have:=fS.2.2;omega) ?_ ?_
 .have:=Tb w.ba n.toNat aj
  show ey (w.ba.eraseIdx n.toNat)+fF w+950*fj w+_<=ey w.ba+fF w+950*fj w+1200;omega
 have:(w.ba.eraseIdx n.toNat).length<=w.ba.length:=O3 _ _;show w.p.2.1.length+w.old.length+(w.ba.eraseIdx n.toNat).length+(w.eE false).length+(w.eE true).length+3*fj w<=w.p.2.1.length+w.old.length+w.ba.length+(w.eE false).length+(w.eE true).length+3*fj w;omega
def agz{w:bW}(h:gS w){f:eN}(hf:Av f):k6 w { w with ba:=w.ba++[f] }:=by
 have af:=hf.2.2;refine⟨HV h λg hg => ?_,?_,?_⟩
 .rcases io.1 hg with hg|hg
  .exact h.ba g hg
  grind
 .show ey (w.ba++[f])+fF w+950*fj w<=ey w.ba+fF w+950*fj w+4000
  rw[L?,sE,show ey ([]:List eN)=0 from rfl];omega
 show w.p.2.1.length+w.old.length+(w.ba++[f]).length+(w.eE false).length+(w.eE true).length+3*fj w<=w.p.2.1.length+w.old.length+w.ba.length+(w.eE false).length+(w.eE true).length+3*fj w+4000
 grind
def axt{w:bW}(h:gS w){x:aG}(hx:rr x)(hg:b5 950 1 3 (w.at i) x):k6 w (jQ w i x):=by obtain⟨cI,cR,a3⟩:=U_ h i hx hg;exact⟨cI,J,J⟩
def aaC(s:aG)(aq:s.e.hub.2.1.length=4)(c:Int):b5 0 0 0 s (v2 s c).1:=by
 have Y:fl (lr s.e.hub c).1<=fl s.e.hub:=by
  have key:∀k,(ak (lr s.e.hub c).1.2.1 k ep).1.length<=(ak s.e.hub.2.1 k ep).1.length:=by
   intro k;unfold lr;split
   .simp
   split
   .simp
   show(ak (cj s.e.hub.2.1 c.toNat ep) k ep).1.length<=_;unfold ak cj;rw[nE,E'];split
   .split<;>exact fI _
   simp
  unfold fl
  grind
 unfold v2;split
 .exact b5.refl s
 split
 .exact b5.refl s
 have O:b5 0 0 0 s ⟨{ s.e with hub:=(lr s.e.hub c).1 },s.p⟩:=⟨bU _,bU _,bU _,bU _,Y⟩;exact O.to (Gd _) J J J
def Uk{w:bW}(h:gS w)(i:Bool)(c:Int):gS (rC w i c)/\h' (rC w i c)<=h' w/\em (rC w i c)<=em w:=by obtain⟨n,aj⟩:=h.s i;exact U_ h i ⟨_,aua aj c⟩ (aaC _ aj.e.feed c)
def axr{w:bW}(h:gS w)(a:dy)(Y:a.2.2.2.2.1.length<=1200)(ai:¬a.1=17):k6 w (gT w a).1:=by
 unfold gT;split
 .exact axs h _ _
 split
 .unfold FR
  split
  .exact k6.refl h
  rename_i aj;have kQ:a.2.2.1.toNat<w.ba.length:=J;have O:=Tb w.ba a.2.2.1.toNat kQ;have R:(w.ba.eraseIdx a.2.2.1.toNat).length<=w.ba.length:=O3 _ _;refine⟨HV h λf hf=>h.ba f (O? hf),?_,?_⟩
  .show ey (w.ba.eraseIdx a.2.2.1.toNat)+fF w+950*fj w<=ey w.ba+fF w+950*fj w+4000;omega
  show w.p.2.1.length+w.old.length+(w.ba.eraseIdx a.2.2.1.toNat).length+(w.eE false).length+(w.eE true).length+3*fj w<=w.p.2.1.length+w.old.length+w.ba.length+(w.eE false).length+(w.eE true).length+3*fj w+4000;omega
 split
 .unfold Fg
  split
  .exact k6.refl h
  rename_i aj;exact agz h (h.old _ (HO J))
 split
 .unfold IQ
  split
  .exact k6.refl h
  rename_i aj;have n1:0<=a.2.2.1/\a.2.2.1<(w.old.length:Int):=k2 λq=>aj (.inl q);have aK:=h.old _ (HO (l:=w.old) (n:=a.2.2.1.toNat) J);refine agz h ⟨aK.1,aK.2.1,?_⟩;show(cj _ _ _).length<=948;unfold cj;rw[ko];exact aK.2.2
 split
 .unfold Hc
  split
  .exact k6.refl h
  exact U1 h _ _ Y J (bU _)
 split
 .unfold AN
  split
  .exact k6.refl h
  split
  .exact k6.refl h
  split
  .exact k6.refl h
  show k6 w (rC (rC w false a.2.2.1) true a.2.2.1);obtain⟨cI,cR,a3⟩:=Uk h false a.2.2.1;obtain⟨eS,ei,jy⟩:=Uk cI true a.2.2.1;exact⟨eS,J,J⟩
 split
 .unfold FL
  split
  .exact k6.refl h
  show k6 w (iJ w a.2.2.1);obtain⟨cI,cR,a3,a4⟩:=Fs w a.2.2.1;refine⟨HU h _,?_,J⟩;show ey (iJ w a.2.2.1).ba+fF (iJ w a.2.2.1)+950*fj (iJ w a.2.2.1)<=ey w.ba+fF w+950*fj w+4000;omega
 split
 .unfold uX
  split
  .exact k6.refl h
  obtain⟨n,aj⟩:=h.s (lx a.2.1);exact axt h ⟨_,at1 aj a⟩ (aax aj a)
 exact k6.refl h
structure jM(a r:Nat)(w:bW):Prop where
 ok:gS w
 L:4^r*(h' w+7600)<=5^r*(4000*a+7600)
 Z:4^r*em w<=5^r*(8000*a+9000)
def Ub(r:Nat):4^r<=5^r:=Nat.pow_le_pow_left J r
def jM.aiE{w v:bW}(h:jM a r w)(k:k6 w v):jM (a+1) r v:=by
 have hp:=Ub r;refine⟨k.ok,?_,?_⟩
 .calc 4^r*(h' v+7600)<=4^r*(h' w+7600+4000):=BJ _ (by have:=k.L;omega)
   _=4^r*(h' w+7600)+4^r*4000:=JD _ _ _
   _<=5^r*(4000*a+7600)+5^r*4000:=Nat.add_le_add h.L (iq _ hp)
   _=5^r*(4000*(a+1)+7600):=by rw[<- JD,show 4000*a+7600+4000=4000*(a+1)+7600 by omega]
 calc 4^r*em v<=4^r*(em w+4000):=BJ _ k.Z
  _=4^r*em w+4^r*4000:=JD _ _ _
  _<=5^r*(8000*a+9000)+5^r*8000:=Nat.add_le_add h.Z (JO hp J)
  _=5^r*(8000*(a+1)+9000):=by rw[<- JD,show 8000*a+9000+8000=8000*(a+1)+9000 by omega]
def jM.round  {w : bW} (h : jM a r w) : jM a (r + 1) (jK w) := by
  have hp := Ub r
  obtain ⟨bF, b3, dp⟩ := awn h.ok
  have hL := h.L
  have zz := h.Z
  refine ⟨bF, ?_, ?_⟩
  · calc 4 ^ (r + 1) * (h' (jK w) + 7600) = 4 ^ r * (4 * (h' (jK w) + 7600)) := by rw [Nat.pow_succ, Nat.mul_assoc]
      _ ≤ 4 ^ r * (5 * (h' w + 7600)) := Nat.mul_le_mul_left _ J
      _ = 5 * (4 ^ r * (h' w + 7600)) := Nat.mul_left_comm _ _ _
      _ ≤ 5 * (5 ^ r * (4000 * a + 7600)) := Nat.mul_le_mul_left _ hL
      _ = 5 ^ (r + 1) * (4000 * a + 7600) := by rw [Nat.pow_succ, Nat.mul_comm (5 ^ r) 5, Nat.mul_assoc]
  · have O : 5 * (4 ^ (r + 1) * em (jK w)) ≤ 5 * (5 ^ (r + 1) * (8000 * a + 9000)) := by
      calc 5 * (4 ^ (r + 1) * em (jK w)) = 4 ^ r * (20 * em (jK w)) := by
            rw [Nat.pow_succ, Nat.mul_assoc, Nat.mul_left_comm, ← Nat.mul_assoc 5 4]
        _ ≤ 4 ^ r * (20 * em w + (4 * (h' w + 7600))) := Nat.mul_le_mul_left _ J
        _ = 20 * (4 ^ r * em w) + 4 * (4 ^ r * (h' w + 7600)) := by rw [Nat.mul_add, Nat.mul_left_comm, Nat.mul_left_comm _ 4]
        _ ≤ 20 * (5 ^ r * (8000 * a + 9000)) + 4 * (5 ^ r * (4000 * a + 7600)) := Nat.add_le_add (Nat.mul_le_mul_left _ zz) (Nat.mul_le_mul_left _ hL)
        _ = 5 ^ r * (20 * (8000 * a + 9000) + 4 * (4000 * a + 7600)) := by rw [Nat.mul_add (5 ^ r) (20 * _), Nat.mul_left_comm (5 ^ r) 20, Nat.mul_left_comm (5 ^ r) 4]
        _ ≤ 5 ^ r * (25 * (8000 * a + 9000)) := Nat.mul_le_mul_left _ J
        _ = 5 * (5 ^ (r + 1) * (8000 * a + 9000)) := by rw [Nat.pow_succ, Nat.mul_assoc, Nat.mul_left_comm 5 (5 ^ r), ← Nat.mul_assoc 5 5]
    exact Nat.le_of_mul_le_mul_left O J
def jM.FD{a:Nat}:∀(k:Nat) {r:Nat} {w:bW},jM a r w->jM a (r+k) (oG k w)
 |0,r,w,h=>h
 |k+1,r,w,h=>by
  have:=jM.FD k h.round;rw[Nat.add_right_comm]at *
  exact this
def jM.mono{b s:Nat}{w:bW}(h:jM a r w)(bu:a<=b)(ah:r<=s):jM b s w:=by
 obtain⟨d,rfl⟩:∃d,s=d+r:=⟨s-r,J⟩;have hp:=Ub d;have key:∀{x y z:Nat},4^r*x<=5^r*y->y<=z->4^(d+r)*x<=5^(d+r)*z:=fun{x y z} O R=>by rw[Nat.pow_add,Nat.pow_add,OB,OB];exact JO hp (eZ O (BJ _ R))
 exact⟨h.ok,key h.L J,key h.Z J⟩
def jM.Dz{w:bW}(h:jM 41 66 w):em w<=900000000000:=by have zz:=h.Z;omega
def arh{h:eO}(hf:∀c,pV (ak h.2.1 c ep))(c:Int)(Y:b.length<=1000000):LN (h,c,b,())=some ((hn h c b).1,(hn h c b).2.1,(hn h c b).2.2,()):=by
 unfold LN hn;rw[abZ];by_cases ai:l3 c
 .rw[cF ai,if_neg (not_not_intro ai)]
  have aq:aU c (bf 4)=true:=by simp only[go_sem];exact ai
  refine((dR aq).trans ?_);by_cases aA:mW h c
  .rw[if_neg (not_not_intro aA)]
   have ah:=hf c.toNat;refine(b1 (by rw[g33,show ak h.1 c.toNat false=true from aA];rfl)).trans ((dR aq).trans ?_);have ac:0<=(ak h.2.1 c.toNat ep).2.1/\(ak h.2.1 c.toNat ep).2.1<=65535:=by have:=ah.1;omega
   refine(bJ (anN (by have:=qg ah;omega) Y ac)).trans (((dR aq)))
  rw[if_pos aA];exact ce (by rw[g33];cases hx:ak h.1 c.toNat false;rfl;exact absurd hx aA)
 rw[cE ai,if_pos ai];rfl
theorem amO(e:c?):QY (e.t,())=some (({ e with bB:=[],got:=[] }:c?).t,e.bB,e.got,()):=rfl
def Zq(s:aG)(c:Int):QZ (s.t,c,())=some ((⟨nR s.e c,s.p⟩:aG).t,(k9 s.e.hub c).2,()):=by exact(bJ (arf _ _))
def amS{s:aG}(ac:bA n s)(aj:n<=999999000000)(c:Int):KS (s.t,c,())=some ((v2 s c).1.t,(v2 s c).2,()):=by
 unfold KS v2;by_cases cz:s.e.ph=8
 .rw[if_pos cz];exact ce (cK cz)
 rw[if_neg cz];refine a1 (ct cz) ((bJ (ari _ _)).trans (?_));by_cases ao:(lr s.e.hub c).2=0
 .rw[if_neg (not_not_intro ao)]
  refine a1 (j7 ao) ?_;exact(bJ (Rq (ad0 ac c) aj))
 rw[if_pos ao];exact ce (lF ao)
def amV{s:aG}(ac:bA m s)(hm:m<=999999000000)(n:d1)(aj:n.2.2.2.2.2.1.length<=1000):FV (s.t,n,())=some ((v_ s n).t,()):=by
 unfold FV v_;by_cases O:n.2.1=101
 .rw[if_pos O]
  refine(bJ ((ce (cK O)))).trans (?_);cases a2:n.1
  .rw[if_neg bh]
   refine((ce (cK O)).trans ?_);exact(bJ (avX ac J n))
  rw[if_pos rfl];exact(bJ (avZ ac J n aj))
 rw[if_neg O];refine(bJ ((b1 (ct O)))).trans ((((b1 (ct O)).trans ?_)));by_cases R:n.2.1=201
 .rw[if_pos R]
  refine(bJ ((ce (cK R)))).trans (?_);cases a2:n.1
  .rw[if_neg bh]
   refine((ce (cK R)).trans ?_);exact(bJ (anT n (by have:=W4 ac.e.askr;omega)))
  rw[if_pos rfl];exact(bJ (anV ac J n))
 rw[if_neg R];refine(bJ ((b1 (ct R)))).trans ((((b1 (ct R)).trans ?_)));exact(bJ (axd ac J n))
def atz:(ls b).1.2.2.2.2.2.1.length<=1000:=by
 rcases aeS b with⟨n,h,ah,_⟩|⟨e,_,h⟩
 .rw[h]
  have ap:=ah.2.2.2.2.2.2;unfold Hm at ap
  grind
 rw[h];show([]:V).length<=1000;simp
def vY{s:aG}(ac:bA n s)(aj:n<=999999000000):(ob (j9 (s.t,())) λ(a:e4×Unit)=>(some (a.1,()):Option (e4×Unit)))=some ((oY s).t,()):=(bJ (Rq ac aj)).trans rfl
def amQ{s:aG}(ac:bA n s)(aj:n<=999990000000)(b:V):FT (s.t,b,())=some ((l6 s b).t,()):=by
 unfold FT l6;obtain⟨FX,hT,aA⟩:=asw ac b;refine(bJ hT).trans (?_);have ap:=ad2 ac b;cases aK:(iY s b).2 with
 |none =>have R7:=λh=>(aA.1 h) aK;exact ce (lF R7)
 |some v=>
  have R7:=aA.2 (by rw[aK];simp);refine a1 (j7 R7) ?_;dsimp only;obtain⟨ao,aC⟩:=VE aK;obtain⟨ah,_,_,_⟩:=Um ao;have ri:=Un ao;rw[<- aC]at ah ri;have ab6:∀k:Nat,dC (ak v.2.2.1 k 0):=λk=>by
   rw[ri];match k with
   |0=>exact ah.1.2.1
   |1=>exact ah.1.2.2.1
   |k+2=>show dC 0;decide
  have iP:v.2.2.2.2.2.1.length<=1000000:=by have:=ah.1.2.2.2.2.2.2.2;omega
  have aF:=adO ap ab6;unfold oI at aF ⊢;have hf:=adS ap;have fM:=adt v.2.2.2.2.2.1 iP;have dS:=SZ v.2.2.2.2.2.1 iP;have aqy:=atz (b:=v.2.2.2.2.2.1);by_cases R:v.1=2
  .rw[if_pos R]at aF ⊢
   refine bq (cK R) ((bJ (axa ap J)).trans (((bJ fM).trans (?_))));by_cases af:(ls v.2.2.2.2.2.1).2.1=0
   .rw[if_pos af]at aF ⊢
    refine bq (cK af) (bq (cK R) ?_);exact(bJ (amV hf J _ aqy)).trans ((vY aF J))
   rw[if_neg af]at aF ⊢;refine a1 (ct af) ((bJ dS).trans (?_));by_cases aq:(fw v.2.2.2.2.2.1).2.1=0
   .rw[if_pos aq]at aF ⊢
    refine bq (cK aq) (bq (cK R) ?_);exact(bJ (anZ hf J (Ul aq).1 v)).trans ((vY aF J))
   rw[if_neg aq]at aF ⊢;refine a1 (ct aq) ?_;exact(bJ (L4 _)).trans ((vY aF J))
  rw[if_neg R]at aF ⊢;refine a1 (ct R) ((bJ fM).trans (?_));by_cases af:(ls v.2.2.2.2.2.1).2.1=0
  .rw[if_pos af]at aF ⊢
   refine bq (cK af) (a1 (ct R) ?_);exact(bJ (axc ap J ab6 _)).trans ((vY aF J))
  rw[if_neg af]at aF ⊢;refine a1 (ct af) ((bJ dS).trans (?_));by_cases aq:(fw v.2.2.2.2.2.1).2.1=0
  .refine bq (cK aq) (a1 (ct R) ?_)
   exact(bJ (L4 _)).trans ((vY aF J))
  refine a1 (ct aq) ?_;exact(bJ (L4 _)).trans ((vY aF J))
def aeo:∀l:List V,2*l.length<=kV l
 |[]=>bU _
 |b::l=>by have:=aeo l;unfold kV at *;simp;omega
def amN{s:aG}(ac:bA n s)(aj:n<=990000000000)(c:Int)(Y:b.length<=1000000):KQ (s.t,c,b,())=some ((q5 s c b).t,()):=by
 unfold KQ q5;refine(bJ (arh ac.e.fd c Y)).trans (?_);by_cases ao:(hn s.e.hub c b).2.2=0
 .rw[if_neg (not_not_intro ao)]
  have ai:l3 c:=by
   unfold hn at ao
   grind
  have aq:aU c (bf 4)=true:=by simp only[go_sem];exact ai
  have hl:(hn s.e.hub c b).2.1.length<=600000:=by
   have O:=Xp s.e.hub c b ao ac.e.feed;have R:=aeo (hn s.e.hub c b).2.1;have a8:fl s.e.hub<=4100:=by have ao:=qg (ac.e.fd 0);have O:=qg (ac.e.fd 1);have R:=qg (ac.e.fd 2);have af:=qg (ac.e.fd 3);unfold fl;omega
   omega
  refine(b1 (j7 ao)).trans (((dR aq).trans ((dR aq).trans (?_))));generalize hg:(λx=>(_:Option (aE (Int×e4×Unit) (e4×Unit))))=F;have key:∀(l:List V) (i:Nat) (t:aG) (m:Nat),(hn s.e.hub c b).2.1.drop i=l->i<=(hn s.e.hub c b).2.1.length->bA m t->m<=990000000000+1003*i ->
    ∃j:Int,bN F ((i:Int),t.t,())=some (.ex 0 (j,(vb t l).t,())):=by
   intro l;induction l with
   |nil =>intro i t m aF hi ht hm;have cr:=congrArg List.length aF;rw[e?,gu]at cr;refine⟨(i:Int),d_ ?_⟩;subst hg;exact b1 (c6 (by show ¬(i:Int)<((hn s.e.hub c b).2.1.length:Int);omega))
   |cons x l ih=>
    intro i t m aF hi ht hm;have cr:=congrArg List.length aF;rw[e?,ew]at cr;have bm:i<(hn s.e.hub c b).2.1.length:=J;have hx:(hn s.e.hub c b).2.1[i]=x/\(hn s.e.hub c b).2.1.drop (i+1)=l:=by
     rw[m2 bm]at aF
     grind
    have gG:i64 (av (i:Int) 1)=((i+1:Nat):Int):=fN (by show(i:Int)+1=_;omega) J;unfold vb;have dW:F ((i:Int),t.t,())=(T (ag t.e.ph 8) (some (.ex 0 ((i:Int),t.t,()))) (ob (FT (t.t,x,())) λa=>some (.nx (((i+1:Nat):Int),a.1,())))):=by subst hg;refine(ce (dj (by show(i:Int)<((hn s.e.hub c b).2.1.length:Int);omega))).trans ((dR cN).trans ?_);rw[he,show ak (hn s.e.hub c b).2.1 i (aO UInt8)=x by rw[nth_get bm];exact hx.1,gG];rfl
    by_cases cz:t.e.ph=8
    .rw[if_pos cz]
     exact⟨(i:Int),d_ (dW.trans (ce (cK cz)))⟩
    rw[if_neg cz];have Sb:=amQ ht J x;have fM:=dW.trans ((b1 (ct cz)).trans ((bJ Sb).trans (dL rfl)));obtain⟨j,an⟩:=ih (i+1) (l6 t x) (m+1003) hx.2 J (adT ht x) J;exact⟨j,(ez fM).trans an⟩
  obtain⟨j,an⟩:=key _ 0 (sb s c b) n rfl (fI _) (adR ac c b) J;exact(da (an)).trans ((dR g62))
 rw[if_pos ao];exact ce (lF ao)
def amT{s:aG}(ac:bA n s)(aj:n<=999999000000)(a:gv):Cr (s.t,a,())=some ((y5 s a).t,()):=by
 unfold Cr y5;by_cases h:a.1=1
 .rw[if_pos h]
  exact bq (cK h) ((bJ (S9 ac J 0 a.2.2.2.2.1)))
 rw[if_neg h];exact a1 (ct h) ((bJ (xC ac J a.2.2.2.2.1)))
def amU{s:aG}(ac:bA n s)(aj:n<=999999000000):Cs (s.t,())=some ((ze s).t,()):=by
 unfold Cs ze;by_cases aq:s.e.ph=4
 .rw[if_pos aq]
  exact bq (cK aq) ((bJ (aeW s)))
 rw[if_neg aq];refine a1 (ct aq) ?_;by_cases a8:s.e.ph=5
 .rw[if_pos a8]
  exact bq (cK a8) ((bJ (anW s)))
 rw[if_neg a8];exact a1 (ct a8) ((bJ (axb ac J)))
def awj{r:fa}(h:lR r):0<=r.2.2.2.1/\r.2.2.2.1<=1000000:=by
 rcases h with rfl|⟨_,_,_,_,R,_⟩
 .exact⟨by show(0:Int)<=0;omega,by show(0:Int)<=1000000;omega⟩
 omega
def ag9{s:aG}(ac:bA n s)(aj:n<=999998000000):
  (ob (B7 (s.e.ask,())) λ(a6:gv×Bool×Bool×Unit)=>T a6.2.1 (ob (Cr ((yy s a6.1).t,a6.1,())) λ(a:e4×Unit)=>ob (j9 (a.1,())) λ(a:e4×Unit)=>some (a.1,()))
   (T a6.2.2.1 (ob (Cs ((yy s a6.1).t,())) λ(a:e4×Unit)=>ob (j9 (a.1,())) λ(a:e4×Unit)=>some (a.1,()))
    (ob (j9 ((yy s a6.1).t,())) λ(a:e4×Unit)=>some (a.1,()))):Option (e4×Unit))=some ((oY (uE s)).t,()):=by
 refine bg (ai5 ac.e.askr) ?_;have bb:=ad5 ac (Uz ac.e.askr);have ht:=TS ac;unfold uE at ht ⊢;cases O:(mo s.e.ask).2.1
 .rw[O]at ht
  refine a1 rfl ?_;cases R:(mo s.e.ask).2.2
  .rw[R]at ht
   exact a1 rfl (vY bb J)
  rw[R]at ht;exact bq rfl (bg (amU bb J) (vY ht J))
 rw[O]at ht;exact bq rfl (bg (amT bb J _) (vY ht J))
def Zr{s:aG}(ac:bA n s)(aj:n<=999998000000):FU (s.t,())=some ((kG s).t,()):=by
 unfold FU kG;by_cases Gh:s.e.ph=7\/s.e.ph=8
 .rw[if_pos Gh]
  refine bg (a:=(true,())) ?_ (ce rfl);by_cases dN:s.e.ph=7
  .exact ce (cK dN)
  refine a1 (ct dN) ?_;show some (ag s.e.ph 8,())=_;rw[cK (Gh.resolve_left dN)]
 rw[if_neg Gh];have dN:=λh=>Gh (.inl h);have cz:=λh=>Gh (.inr h);refine bg (a:=(false,())) (a1 (ct dN) (by show some (ag s.e.ph 8,())=_;rw[ct cz])) (?_);refine(bJ (show um (s.e.ph,())=_ from H4 _)).trans (?_);by_cases hl:jU s.e.ph
 .rw[cF hl,if_pos hl]
  refine((bJ (awi (awj ac.e.ring))).trans (?_));by_cases a2:s.e.seq=4611686018427387904
  .rw[if_pos a2]
   exact bq (cK a2) ((bJ (agm (HR ac) J)))
  rw[if_neg a2];exact a1 (ct a2) (ag9 (HR ac) aj)
 rw[cE hl,if_neg hl];exact(ag9 ac aj)
def amP{s:aG}(ac:bA n s)(aj:n<=999998000000)(a:dy)(Y:a.2.2.2.2.1.length<=1000000):KR (s.t,a,())=some ((tF s a).1.t,(tF s a).2,()):=by
 unfold KR tF;by_cases ao:a.1=0
 .rw[if_pos ao];exact bq (cK ao) ((bJ (anY ac J _ Y)))
 rw[if_neg ao];refine a1 (ct ao) ?_;by_cases O:a.1=1
 .rw[if_pos O];exact bq (cK O) ((bJ (agm ac J)))
 rw[if_neg O];refine a1 (ct O) ?_;by_cases R:a.1=2
 .rw[if_pos R];exact bq (cK R) ((bJ (axe ac J)))
 rw[if_neg R];refine a1 (ct R) ?_;by_cases af:a.1=3
 .rw[if_pos af];exact bq (cK af) ((bJ (aw9 ac J)))
 rw[if_neg af];refine a1 (ct af) ?_;by_cases aq:a.1=4
 .rw[if_pos aq];exact bq (cK aq) ((bJ (avY ac J _)))
 rw[if_neg aq];refine a1 (ct aq) ?_;by_cases a8:a.1=5
 .rw[if_pos a8];exact bq (cK a8) ((bJ (anU ac J _)))
 rw[if_neg a8];refine a1 (ct a8) ?_;by_cases cT:a.1=6
 .rw[if_pos cT];exact bq (cK cT) ((bJ (Zr ac aj)))
 rw[if_neg cT];refine a1 (ct cT) ?_;by_cases zu:a.1=14
 .rw[if_pos zu];exact bq (cK zu) ((bJ (agl ac J)))
 rw[if_neg zu];refine a1 (ct zu) ?_;by_cases zv:a.1=15
 .rw[if_pos zv]
  refine bq (cK zv) ?_;by_cases cz:s.e.ph=8
  .rw[if_pos cz];exact a1 (j7 cz) ((bJ (aw8 ac)))
  rw[if_neg cz];exact ce (lF cz)
 rw[if_neg zv];refine a1 (ct zv) ?_;by_cases nY:a.1=16
 .rw[if_pos nY];exact ce (cK nY)
 rw[if_neg nY];exact b1 (ct nY)
def bW.t(w:bW):gw:=([(w.e false).t,(w.e true).t],w.p,w.ba,w.old,[w.eE false,w.eE true],())
def wk(n l:Int):qT (n,l,())=some (D (0<=n/\n<l),()):=by unfold qT;simp only[go_sem]
def Ky(l:List eN):Ed (l,())=some (l,()):=by refine bn cN ?_;rw[show sub l 0 (len l)=l by simp[sub,len]]
def Qv(l:List eN)(h:l.length<=1500000000000):IG (l,())=some (l,()):=by refine dR ?_;rw[g21];refine cF ?_;show l.length*80<=_;omega
def DK(w:bW)(i:Bool):Bx ((w.t,()),eq i,())=some ((w.t,()),(w.at i).t,()):=by
 cases i
 .rfl
 rfl
def Y0{e:c?}{c:Int}(h:¬(k9 e.hub c).2=0):nR e c=e:=by
 unfold nR;unfold k9 at h ⊢;split
 .rfl
 split
 .rfl
 grind
def ZR(p:α->Bool){l:List α}{j:Nat}(h:j<l.length):(l.take (j+1)).filter p=(l.take j).filter p++(if p l[j]then[l[j]]else[]):=by
 rw[nH h,E_]
 grind
def YY{l bs:List α}{i:Nat}(h:i<=l.length):(dU l i n bs).take i=l.take i:=by
 unfold dU
 grind
def QA{l bs:List α}{i:Nat}(h:i+min n bs.length<=l.length):(dU l i n bs).length=l.length:=by
 unfold dU
 grind
def Xl(w:bW)(c:Int)(hl:w.ba.length<=1500000000000):Jj ((w.t,()),c,())=some (((iJ w c).t,()),()):=by
 unfold Jj;dsimp only;generalize hg:(λab=>(_:Option (aE (Int×(gw×Unit)×Unit) Unit)))=F;have MV:F (0,(w.t,()),())=some (.nx (1,(({ w with e:=iW w.e false (nR (w.e false) c) }:bW).t,()),())):=by
  subst hg;refine bq rfl ((bJ (DK w false)).trans (((bJ (Zq (w.at false) c)).trans (?_))));dsimp only;by_cases h:(k9 (w.at false).e.hub c).2=0
  .exact bq (cK h) (dR rfl)
  refine a1 (ct h) ?_;have:=Y0 h;rw[show iW w.e false (nR (w.e false) c)=w.e by funext j;unfold iW;split;(rename_i an;rw[an];exact this);rfl];rfl
 have eG:∀w:bW,F (1,(w.t,()),())=some (.nx (2,(({ w with e:=iW w.e true (nR (w.e true) c) }:bW).t,()),())):=by
  intro w;subst hg;refine bq rfl ((bJ (DK w true)).trans (((bJ (Zq (w.at true) c)).trans (?_))));dsimp only;by_cases h:(k9 (w.at true).e.hub c).2=0
  .exact bq (cK h) (dR rfl)
  refine a1 (ct h) ?_;have:=Y0 h;rw[show iW w.e true (nR (w.e true) c)=w.e by funext j;unfold iW;split;(rename_i an;rw[an];exact this);rfl];rfl
 have gr:∀w:bW,F (2,(w.t,()),())=some (.ex 0 (2,(w.t,()),())):=by intro w;subst hg;rfl
 have aN:(iW (iW w.e false (nR (w.e false) c)) true (nR (iW w.e false (nR (w.e false) c) true) c))=λi=>nR (w.e i) c:=by funext j;cases j<;>rfl
 refine(da ((ez MV).trans ((ez (eG _)).trans (d_ (gr _))))).trans ((?_));dsimp only;rw[aN];refine bg (Qv w.ba hl) ?_;dsimp only;generalize hp:(λ(f:eN)=>decide (¬f.2.1=c))=p;have LG:∀{f:eN},¬f.2.1=c->p f=true:=λh=>by rw[<- hp];exact decide_eq_true h
 have abK:∀{f:eN},f.2.1=c->p f=false:=λh=>by rw[<- hp];exact decide_eq_false (not_not_intro h)
 have aB:(iJ w c).t=([(nR (w.e false) c).t,(nR (w.e true) c).t],w.p,w.ba.filter p,w.old,[w.eE false,w.eE true],()):=by rw[<- hp];rfl
 rw[aB];generalize dA:(λab=>(_:Option (aE (Int×Int×Unit) Unit)))=G;generalize cy:(λab=>(_:Option (aE (Int×Int×List eN×Unit) Unit)))=H;have find:∀(r:List eN) (i:Nat),w.ba.drop i=r->i<=w.ba.length->(w.ba.take i).filter p=w.ba.take i ->
   (w.ba.filter p=w.ba/\∃j,bN G (0,(i:Int),())=some (.ex 0 (0,j,())))\/(∃k:Nat,k<w.ba.length/\(w.ba.take (k+1)).filter p=w.ba.take k/\bN G (0,(i:Int),())=some (.ex 999999999 ((k:Int),(k:Int),()))):=by
  intro r;induction r with
  |nil =>intro i aF hi hf;have cr:=congrArg List.length aF;rw[e?,gu]at cr;refine .inl ⟨by rw[hS J]at hf;exact hf,(i:Int),d_ ?_⟩;subst dA;exact b1 (c6 (by show ¬(i:Int)<(w.ba.length:Int);omega))
  |cons x r ih=>
   intro i aF hi hf;have cr:=congrArg List.length aF;rw[e?,ew]at cr;have bm:i<w.ba.length:=J;have hx:w.ba[i]=x/\w.ba.drop (i+1)=r:=by rw[m2 bm]at aF;exact⟨(oz aF).1,(oz aF).2⟩
   have gG:i64 (av (i:Int) 1)=((i+1:Nat):Int):=fN (by show(i:Int)+1=_;omega) J;have dW:G (0,(i:Int),())=(T (ag x.2.1 c) (some (.ex 999999999 ((i:Int),(i:Int),()))) (some (.nx (0,((i+1:Nat):Int),())))):=by subst dA;refine bq (dj (by show(i:Int)<(w.ba.length:Int);omega)) (bn jP ?_);rw[he,nth_get bm,hx.1,gG]
   have ac:=ZR p bm;rw[hx.1]at ac;by_cases ai:x.2.1=c
   .refine .inr ⟨i,bm,?_,d_ (dW.trans (ce (cK ai)))⟩
    rw[ac,hf,abK ai,if_neg bh,hF]
   have pI:(w.ba.take (i+1)).filter p=w.ba.take (i+1):=by rw[ac,hf,LG ai,if_pos rfl,nH bm,hx.1]
   have fM:=dW.trans (b1 (ct ai));rcases ih (i+1) hx.2 J pI with⟨O,j,R⟩|⟨k,O,R,af⟩
   .exact .inl ⟨O,j,(ez fM).trans R⟩
   exact .inr ⟨k,O,R,(ez fM).trans af⟩
 have QJ:∀(r:List eN) (i j:Nat) (l:List eN),w.ba.drop j=r->j<=w.ba.length->i<j->l.length=w.ba.length->l.take i=(w.ba.take j).filter p->l.drop j=w.ba.drop j ->
   ∃(k:Nat) (g6:List eN) (z:Int),bN H ((i:Int),(j:Int),l,())=some (.ex 0 ((k:Int),z,g6,()))/\k<=w.ba.length/\g6.length=w.ba.length/\g6.take k=w.ba.filter p:=by
  intro r;induction r with
  |nil =>intro i j l aF an i3 vp ht g4;have cr:=congrArg List.length aF;rw[e?,gu]at cr;refine⟨i,l,(j:Int),d_ ?_,J,vp,by rw[ht,hS J]⟩;subst cy;exact b1 (c6 (by show ¬(j:Int)<(l.length:Int);omega))
  |cons x r ih=>
   intro i j l aF an i3 vp ht g4;have cr:=congrArg List.length aF;rw[e?,ew]at cr;have bm:j<w.ba.length:=J;have vq:j<l.length:=J;have hx:w.ba[j]=x/\w.ba.drop (j+1)=r:=by rw[m2 bm]at aF;exact⟨(oz aF).1,(oz aF).2⟩
   have ab8:l[j]=x:=by rw[m2 bm,m2 vq]at g4;rw[(oz g4).1];exact hx.1
   have abf:=by rw[m2 bm,m2 vq]at g4;exact(oz g4).2
   have l_:i64 (av (j:Int) 1)=((j+1:Nat):Int):=fN (by show(j:Int)+1=_;omega) J;have gG:i64 (av (i:Int) 1)=((i+1:Nat):Int):=fN (by show(i:Int)+1=_;omega) J;have dW:H ((i:Int),(j:Int),l,())=(T (a_ (ag x.2.1 c)) (some (.nx (((i+1:Nat):Int),((j+1:Nat):Int),l.set i x,()))) (some (.nx ((i:Int),((j+1:Nat):Int),l,())))):=by subst cy;refine bq (dj (by show(j:Int)<(l.length:Int);omega)) (bn jP ?_);rw[he,nth_get vq,ab8,gG,l_,he];refine congrArg (λz=>T (a_ (ag x.2.1 c)) z _) ?_;exact dR jP
   have ac:=ZR p bm;rw[hx.1]at ac;by_cases ai:x.2.1=c
   .have fM:=dW.trans (b1 (j7 ai))
    obtain⟨k,g6,z,bF,b3⟩:=ih i (j+1) l hx.2 J J vp (by rw[ac,abK ai,if_neg bh,hF];exact ht) abf;exact⟨k,g6,z,(ez fM).trans bF,b3⟩
   have fM:=dW.trans (ce (lF ai));have dT:(l.set i x).take (i+1)=l.take i++[x]:=by
    have rc:i<(l.set i x).length:=by rw[ko];omega
    rw[nH rc,List.getElem_set_self,List.take_set_of_le (bU i)]
   obtain⟨k,g6,z,bF,b3⟩:=ih (i+1) (j+1) (l.set i x) hx.2 J J (by rw[ko];exact vp) (by rw[dT,ac,LG ai,if_pos rfl,ht]) (by rw[List.drop_set_of_lt J];exact abf);exact⟨k,g6,z,(ez fM).trans bF,b3⟩
 rcases find w.ba 0 rfl (fI _) rfl with⟨O,j,R⟩|⟨k,O,R,af⟩
 .refine(da R).trans ((a1 rfl ((?_))))
  rw[O];rfl
 refine(da af).trans (lc_ex'.trans (bq rfl (a1 (ct J) ?_)));have qs:i64 (av (k:Int) 1)=((k+1:Nat):Int):=fN (by show(k:Int)+1=_;omega) J;rw[qs];obtain⟨i,l,z,k?,mB,w1,KC⟩:=QJ _ k (k+1) w.ba rfl J J rfl R.symm rfl;refine(da k?).trans ((bn g62 (bn jP ?_)));have pE:(dU l i (l.length-i) (bO (l.length-i) (fE:eN))).length=l.length:=QA (by unfold bO;rw[oy];omega);simp only[he,show aa (len l)=l.length from rfl,show ∀a b:Nat,cd a b=a-b from λ_ _=>rfl];refine bn (by rw[g22,pE];simp(disch:=first|assumption|omega|(dsimp only;omega)|decide) only[go_sem,Int.reduceToNat];omega) ?_;have apT:cut (dU l i (l.length-i) (bO (l.length-i) (fE:eN))) (aa 0) (i-aa 0)=w.ba.filter p:=by unfold cut;rw[show aa 0=0 from rfl,Nat.sub_zero,nD,YY J,KC]
 rw[apT];rfl
def ajM(w:bW)(hl:w.ba.length<=1500000000000):Oe ((w.t,()),())=some (((y? w).t,()),()):=by
 unfold Oe y?;generalize hg:(λx=>(_:Option (aE (Int×(gw×Unit)×Unit) Unit)))=F;have Rf:∀(w:bW) (c:Int),(iJ w c).ba.length<=w.ba.length:=λw c=>rW _ _;have cJ:∀(w:bW) (i:Nat),i<4->w.ba.length<=1500000000000->F ((i:Int),(w.t,()),())=some (.nx (((i+1:Nat):Int),((iJ w (i:Int)).t,()),())):=by intro w i hi bb;subst hg;have gG:i64 (av (i:Int) 1)=((i+1:Nat):Int):=fN rfl J;refine bq (dj J) (bg (Xl w _ bb) ?_);rw[gG]
 have f1:=Rf w ((0:Nat):Int);have f2:=Rf (iJ w ((0:Nat):Int)) ((1:Nat):Int);have f3:=Rf (iJ (iJ w ((0:Nat):Int)) ((1:Nat):Int)) ((2:Nat):Int);have f6:∀w:bW,F (4,(w.t,()),())=some (.ex 0 (4,(w.t,()),())):=λw=>by subst hg;exact b1 rfl
 refine(da ((ez (cJ w 0 J hl)).trans ((ez (cJ _ 1 J J)).trans ((ez (cJ _ 2 J J)).trans ((ez (cJ _ 3 J J)).trans (d_ (f6 _))))))).trans ?_;rfl
def WT:=@List.take_append_of_le_length
def TI(i:Bool):0<=eq i/\eq i<2:=by cases i<;>decide
def Mv{n:Int}(h:n=0\/n=1):eq (lx n)=n:=by rcases h with rfl|rfl<;>decide
def Ha(i:Bool):aU (eq i) (bf 2)=true:=by cases i<;>rfl
def an2(w:bW)(i:Bool)(x:aG)(aK:x.e.bB.length<=1000000)(Ly:x.e.got.length<=1000000)(hf:w.ba.length<=1000000000000)(hold:w.old.length<=1000000000000)(azw:(w.eE i).length<=1000000000000):
  yA ((w.t,()),eq i,x.t,())=some (((jQ w i x).t,()),()):=by
 unfold yA;dsimp only;refine bn (Ha i) (bg (amO x.e) (bn (Ha i) (bn (Ha i) ?_)));have hl:ak w.t.2.2.2.2.1 (aa (eq i)) (aO lz)=w.eE i:=by cases i<;>rfl
 have aps:ya (ak w.t.2.2.2.2.1 (aa (eq i)) (aO lz),())=some (w.eE i,()):=by rw[hl];exact Kz _
 refine bg aps (bn ?_ (bn (Ha i) ?_))
 .rw[g21];refine cF ?_;show((w.eE i).length+x.e.got.length)*128<=_;omega
 generalize hg:(λ(ab:Int×(gw×Unit)×Unit)=>(_:Option (aE (Int×(gw×Unit)×Unit) Unit)))=F;have e1:i64 (bi 1 (eq i))=1-eq i:=by cases i<;>rfl
 have key:∀(l:List qb) (j:Nat),x.e.bB.drop j=l->j<=x.e.bB.length ->
   bN F ((j:Int),(({ l7 w i x with ba:=w.ba++(x.e.bB.take j).map (i9 i),old:=w.old++(x.e.bB.take j).map (i9 i) }:bW).t,()),())=some (.ex 0 ((x.e.bB.length:Int),((l7 w i x).t,()),())):=by
  intro l;induction l with
  |nil =>intro j aF an;have cr:=congrArg List.length aF;rw[e?,gu]at cr;have:j=x.e.bB.length:=J;subst this;rw[nF];refine d_ ?_;subst hg;exact b1 (c6 (by show ¬(x.e.bB.length:Int)<(x.e.bB.length:Int);omega))
  |cons v l ih=>
   intro j aF an;have cr:=congrArg List.length aF;rw[e?,ew]at cr;have bm:j<x.e.bB.length:=J;have hx:x.e.bB[j]=v/\x.e.bB.drop (j+1)=l:=by rw[m2 bm]at aF;exact⟨(oz aF).1,(oz aF).2⟩
   have l_:i64 (av (j:Int) 1)=((j+1:Nat):Int):=fN (by show(j:Int)+1=_;omega) J;refine uV (ez ?_) (ih (j+1) hx.2 J);have dT:(x.e.bB.take (j+1)).map (i9 i)=(x.e.bB.take j).map (i9 i)++[i9 i v]:=by rw[nH bm,E4,hx.1];rfl
   have eW:((x.e.bB.take j).map (i9 i)).length<=1000000:=by rw[ov,hE];omega
   rw[dT,<- gt,<- gt];subst hg;refine bq (dj (by show(j:Int)<(x.e.bB.length:Int);omega)) (bn jP ?_);dsimp only;refine bg (Ky (w.ba++(x.e.bB.take j).map (i9 i))) ?_;have aj:ak x.e.bB (aa (j:Int)) j1=v:=by rw[he,nth_get bm];exact hx.1
   rw[e1,aj,l_];refine bn ?_ (bg (Ky (w.old++(x.e.bB.take j).map (i9 i))) (bn ?_ ?_))
   .rw[g21];refine cF ?_;show((w.ba++(x.e.bB.take j).map (i9 i)).length+1)*80<=_;rw[cG];omega
   .rw[g21];refine cF ?_;show((w.old++(x.e.bB.take j).map (i9 i)).length+1)*80<=_;rw[cG];omega
   rfl
 have ao:=key x.e.bB 0 rfl (fI _);rw[BW,List.map_nil,hF,hF]at ao;have eL:(({ l7 w i x with ba:=w.ba,old:=w.old }:bW).t)=(cj w.t.1 (aa (eq i)) ({ x.e with bB:=[],got:=[] }:c?).t,x.p,w.ba,w.old,cj w.t.2.2.2.2.1 (aa (eq i)) (bv (w.eE i) x.e.got),()):=by cases i<;>rfl
 rw[eL]at ao;refine(da (show bN F (0,((cj w.t.1 (aa (eq i)) ({ x.e with bB:=[],got:=[] }:c?).t,x.p,w.ba,w.old,cj w.t.2.2.2.2.1 (aa (eq i)) (bv (w.eE i) x.e.got),()),()),())=_ from ao)).trans (lc_ex'.trans (bn g62 ?_));dsimp only;have aqM:(ak w.t.1 (aa (eq i)) p8).2.2.1=(w.e i).ph:=by cases i<;>rfl
 rw[aqM];unfold jQ;have q?:(l7 w i x).ba.length<=1500000000000:=by show(w.ba++x.e.bB.map (i9 i)).length<=_;rw[cG,ov];omega
 by_cases cz:x.e.ph=8
 .by_cases lJ:(w.e i).ph=8
  .rw[if_neg (λh=>h.2 lJ)]
   exact bg (ce (cK cz)) (b1 (j7 lJ))
  rw[if_pos ⟨cz,lJ⟩];exact bg (ce (cK cz)) (bq (lF lJ) ((bJ (ajM _ q?)).trans rfl))
 rw[if_neg (λh=>cz h.1)];exact bg (b1 (ct cz)) (b1 rfl)
structure gV(w:bW):Prop where
 ok:gS w
 z:em w<=990000000000
def gV.s{w:bW}(h:gV w)(i:Bool):bA 990000000000 (w.at i):=by
 obtain⟨n,aj⟩:=h.ok.s i;have bj:=h.z;unfold em at bj;refine⟨{ aj.e with bB := ?_,got := ?_ },?_⟩
 .show(w.e i).bB.length<=_;rw[h.ok.bB i];simp
 .show(w.e i).got.length<=_;rw[h.ok.got i];simp
 show w.p.2.1.length<=_;omega
def gV.ba{w:bW}(h:gV w):w.ba.length<=990000000000:=by have bj:=h.z;unfold em at bj;omega
def gV.old{w:bW}(h:gV w):w.old.length<=990000000000:=by have bj:=h.z;unfold em at bj;omega
def gV.eE{w:bW}(h:gV w)(i:Bool):(w.eE i).length<=990000000000:=by have bj:=h.z;unfold em at bj;cases i<;>omega
def gV.jQ{w:bW}(h:gV w)(i:Bool)(x:aG)(aK:x.e.bB.length<=1000000)(Ly:x.e.got.length<=1000000):yA ((w.t,()),eq i,x.t,())=some (((Yp.jQ w i x).t,()),()):=
 an2 w i x aK Ly (by have:=h.ba;omega) (by have:=h.old;omega) (by have:=h.eE i;omega)
def gV.bB{w:bW}(h:gV w)(i:Bool):(w.at i).e.bB=[]:=h.ok.bB i
def gV.got{w:bW}(h:gV w)(i:Bool):(w.at i).e.got=[]:=h.ok.got i
def ajP{s:aG}(ac:bA n s):fl s.e.hub<=4100:=by have ao:=qg (ac.e.fd 0);have O:=qg (ac.e.fd 1);have R:=qg (ac.e.fd 2);have af:=qg (ac.e.fd 3);unfold fl;omega
def gV.Ry{w:bW}(h:gV w){x:aG}{t:Nat}(hg:b5 m t g (w.at i) x)(ht:t<=1000)(azv:g<=1000):x.e.bB.length<=1000000/\x.e.got.length<=1000000:=by obtain⟨cI,cR,a3,a4,a5⟩:=hg;have a2:=(h.s i).e.queue;rw[h.bB i]at cR;rw[h.got i]at a4;rw[gu]at cR a4;exact⟨J,J⟩
def Pm{w:bW}(h:gV w)(i:Bool)(c:Int)(Y:b.length<=1000000):EE ((w.t,()),eq i,c,b,())=some (((k7 w i c b).t,()),()):=by refine(bJ (DK w i)).trans (((bJ (amN (h.s i) J c Y)).trans (?_)));have aaf:=aag (h.s i).e.feed c b;have a2:=(h.s i).e.queue;have azo:=ajP (h.s i);have g1:=aaf.Dz;have bw:=aaf.got;rw[h.bB i]at g1;rw[h.got i]at bw;rw[gu]at g1 bw;exact(bJ (h.jQ i _ J J))
def Y6{l:List eN}{N:Nat}(h:N<l.length):
  cut (dU (dU l (bQ (aa 0) (cd (aa (N:Int)) (aa 0))) (aT (l.drop (N+1))) (l.drop (N+1))) (bQ (aa 0) (aa (bf (bQ (cd (aa (N:Int)) (aa 0)) (aT (l.drop (N+1)))))))
   (cd (aa (len l)) (aa (bf (bQ (cd (aa (N:Int)) (aa 0)) (aT (l.drop (N+1))))))) (bO (cd (aa (len l)) (aa (bf (bQ (cd (aa (N:Int)) (aa 0)) (aT (l.drop (N+1))))))) (fE:eN)))
   (aa 0) (bQ (cd (aa (N:Int)) (aa 0)) (aT (l.drop (N+1))))=l.eraseIdx N:=by
 have e:bQ (cd (aa (N:Int)) (aa 0)) (aT (l.drop (N+1)))=N+(l.drop (N+1)).length:=rfl;have aN:bQ (aa 0) (cd (aa (N:Int)) (aa 0))=N:=jw _;have aF:(l.drop (N+1)).length=l.length-(N+1):=e?;rw[e,aN,show bQ (aa 0) (aa (bf (N+(l.drop (N+1)).length)))=N+(l.drop (N+1)).length from jw _];unfold cut;rw[show aa 0=0 from rfl,nD,YY]
 .unfold dU
  rw[show aT (l.drop (N+1))=(l.drop (N+1)).length from rfl,nF,<- gt,WT (by grind),hS (by grind),List.eraseIdx_eq_take_drop_succ]
 rw[QA J];omega
def adk{b:Nat}(h:a<b):i7 a b=true:=by unfold i7;rw[EO];exact h
def Y5{l:List eN}{N:Nat}(h:N<l.length)(ain K:Option α):
  (am (cZ (ca (N:Int) ((N+1:Nat):Int) (len l)) (bE (len l) (len l))) (T (ag (N:Int) ((N+1:Nat):Int)) ain (am (ca 0 (N:Int) (len l)) (am (ca ((N+1:Nat):Int) (len l) (len l))
   (am (i7 (bQ (aa 0) (bQ (cd (aa (N:Int)) (aa 0)) (aT (l.drop (N+1))))) (bQ (aT l) 1)) (am (cZ (i7 (aa 0) (bQ (aT (dU l (bQ (aa 0) (cd (aa (N:Int)) (aa 0))) (aT (l.drop (N+1))) (l.drop (N+1)))) 1))
    (ca (bf (bQ (cd (aa (N:Int)) (aa 0)) (aT (l.drop (N+1))))) (len l) (bi (len (dU l (bQ (aa 0) (cd (aa (N:Int)) (aa 0))) (aT (l.drop (N+1))) (l.drop (N+1)))) (bf (aa 0))))) K))))))=K:=by
 have e:bQ (cd (aa (N:Int)) (aa 0)) (aT (l.drop (N+1)))=N+(l.drop (N+1)).length:=rfl;have aN:bQ (aa 0) (cd (aa (N:Int)) (aa 0))=N:=jw _;have aF:(l.drop (N+1)).length=l.length-(N+1):=e?;have ai:(dU l N (aT (l.drop (N+1))) (l.drop (N+1))).length=l.length:=QA (by rw[show aT (l.drop (N+1))=(l.drop (N+1)).length from rfl];omega);rw[e,aN];refine bn jP (a1 (ct J) (bn jP (bn jP (bn ?_ (dR ?_)))))
 .refine adk ?_
  show 0+(N+(l.drop (N+1)).length)<l.length+1;omega
 rw[adk (show aa 0<bQ (aT (dU l N (aT (l.drop (N+1))) (l.drop (N+1)))) 1 from Nat.succ_pos _),g36,g19];refine cF ?_;rw[g22,g22,ai];show(0:Int)<=((N+(l.drop (N+1)).length:Nat):Int)/\((N+(l.drop (N+1)).length:Nat):Int)<=(l.length:Int)/\(l.length:Int)<=(l.length:Int)-((0:Nat):Int);omega
def Y1{l:List eN}(N:Nat):cut l (aa ((N+1:Nat):Int)) (cd (aa (len l)) (aa ((N+1:Nat):Int)))=l.drop (N+1):=by unfold cut;rw[show aa ((N+1:Nat):Int)=N+1 from rfl,show aa (len l)=l.length from rfl,show cd l.length (N+1)=l.length-(N+1) from rfl,hS bh]
def ZD{w:bW}(h:gV w){l:List eN}(hl:∀f∈l,Av f)(aj:l.length<=w.ba.length):gV { w with ba:=l }:=by refine⟨HV h.ok hl,?_⟩;have bj:=h.z;unfold em at bj ⊢;show w.p.2.1.length+w.old.length+l.length+(w.eE false).length+(w.eE true).length+3*fj w<=_;omega
def aap{w:bW}(h:gV w)(a:dy):Jk ((w.t,()),a,())=some (((lI w a.2.2.1 a.2.2.2.1).1.t,()),(lI w a.2.2.1 a.2.2.2.1).2,()):=by
 unfold Jk lI;have q?:=h.ba;refine(bJ (wk a.2.2.1 (len w.ba))).trans (?_);by_cases ao:0<=a.2.2.1/\a.2.2.1<(w.ba.length:Int)
 .rw[cF (show 0<=a.2.2.1/\a.2.2.1<len w.ba from ao),if_neg (not_not_intro ao)]
  obtain⟨N,fM⟩:∃N:Nat,a.2.2.1=(N:Int):=⟨a.2.2.1.toNat,J⟩;rw[fM,i0];have bm:N<w.ba.length:=J;have fS:=h.ok.ba _ (HO bm);refine(bn (by show aU (N:Int) (len w.ba)=true;simp only[go_sem];omega) (bg (Qv w.ba J) ?_));rw[show ak w.t.2.2.1 (aa (N:Int)) fE=ak w.ba N ns from rfl,show ak w.ba (aa (N:Int)) fE=ak w.ba N ns from rfl];generalize ak w.ba N ns=f at fS;generalize hm:a.2.2.2.1=m;by_cases O:0<m/\m<(f.2.2.1.length:Int)
  .rw[if_pos O]
   refine(bJ (bq (dj O.1) (show _=some (true,()) by rw[dj (show m<len f.2.2.1 from O.2)]))).trans ((?_));refine bn cN (bn cN (bn cN ?_));rw[show sub f.2.2.1 m (len f.2.2.1)=f.2.2.1.drop m.toNat from IV _ J];have GG:gV { w with ba:=w.ba.set N (f.1,f.2.1,f.2.2.1.drop m.toNat,()) }:=by
    refine ZD h (λg hg => ?_) (by rw[ko];exact bU _);rcases WR hg with hg|rfl
    .exact h.ok.ba g hg
    exact⟨fS.1,fS.2.1,by rw[e?];have:=fS.2.2;omega⟩
   have:=Pm GG (lx f.1) f.2.1 (b:=f.2.2.1.take m.toNat) (by rw[hE];have:=fS.2.2;omega);rw[Mv fS.1]at this;exact(bJ this)
  rw[if_neg O];have aq2:(T (aJ 0 m) (some (aJ m (len f.2.2.1),())) (some (false,())):Option (Bool×Unit))=some (false,()):=by
   by_cases R:0<m
   .exact bq (dj R) (by rw[c6 (show ¬m<len f.2.2.1 from λaf=>O ⟨R,af⟩)])
   exact b1 (c6 R)
  refine(bJ aq2).trans ((?_));have Gn:i64 (av (N:Int) 1)=((N+1:Nat):Int):=fN (by show(N:Int)+1=_;omega) J;rw[Gn];simp only[Y1];rw[Y6 bm];refine(Y5 bm _ _).trans ?_;have GG:gV { w with ba:=w.ba.eraseIdx N }:=ZD h (λg hg=>h.ok.ba g (O? hg)) (O3 _ _);have:=Pm GG (lx f.1) f.2.1 (b:=f.2.2.1) (by have:=fS.2.2;omega);rw[Mv fS.1]at this;exact(bJ this)
 rw[cE (show ¬(0<=a.2.2.1/\a.2.2.1<len w.ba) from ao),if_pos ao];rfl
def amw{w:bW}(h:gV w)(a:dy):Oh ((w.t,()),a,())=some (((FR w a.2.2.1).1.t,()),(FR w a.2.2.1).2,()):=by
 unfold Oh FR;have q?:=h.ba;refine(bJ (wk a.2.2.1 (len w.ba))).trans (?_);by_cases ao:0<=a.2.2.1/\a.2.2.1<(w.ba.length:Int)
 .rw[cF (show 0<=a.2.2.1/\a.2.2.1<len w.ba from ao),if_neg (not_not_intro ao)]
  obtain⟨N,fM⟩:∃N:Nat,a.2.2.1=(N:Int):=⟨a.2.2.1.toNat,J⟩;rw[fM];have bm:N<w.ba.length:=J;refine((bJ (Qv w.ba J)).trans ((dL rfl).trans ?_));have Gn:i64 (av (N:Int) 1)=((N+1:Nat):Int):=fN rfl J;rw[Gn];simp only[Y1];rw[Y6 bm];exact(Y5 bm _ _)
 rw[cE (show ¬(0<=a.2.2.1/\a.2.2.1<len w.ba) from ao),if_pos ao];rfl
def aiI{w:bW}(h:gV w)(a:dy):Od ((w.t,()),a,())=some (((Fg w a.2.2.1).1.t,()),(Fg w a.2.2.1).2,()):=by
 unfold Od Fg;have q?:=h.ba;refine(bJ (wk a.2.2.1 (len w.old))).trans (?_);by_cases ao:0<=a.2.2.1/\a.2.2.1<(w.old.length:Int)
 .rw[cF (show 0<=a.2.2.1/\a.2.2.1<len w.old from ao),if_neg (not_not_intro ao)]
  refine((bJ (Ky w.ba)).trans ((bn (by simp only[go_sem];exact ao) ((dR ?_)))));rw[g21];refine cF ?_;show(w.ba.length+1)*80<=_;omega
 rw[cE (show ¬(0<=a.2.2.1/\a.2.2.1<len w.old) from ao),if_pos ao];rfl
def axx{w:bW}(h:gV w)(a:dy):Ok ((w.t,()),a,())=some (((IQ w a.2.2.1 a.2.2.2.1 a.2.2.2.2.1).1.t,()),(IQ w a.2.2.1 a.2.2.2.1 a.2.2.2.2.1).2,()):=by
 unfold Ok IQ;have q?:=h.ba;refine(bJ (wk a.2.2.1 (len w.old))).trans (?_);by_cases ao:0<=a.2.2.1/\a.2.2.1<(w.old.length:Int)
 .rw[cF (show 0<=a.2.2.1/\a.2.2.1<len w.old from ao)]
  have fA:aU a.2.2.1 (len w.old)=true:=by simp only[go_sem];exact ao
  have l?:=h.ok.old _ (HO (show a.2.2.1.toNat<w.old.length by omega));rw[show ak w.t.2.2.2.1 (aa a.2.2.1) fE=ak w.old a.2.2.1.toNat ns from rfl];generalize ak w.old a.2.2.1.toNat ns=f at l?;have ara:(T (a_ true) (some (true,())) (am (aU a.2.2.1 (len w.t.2.2.2.1)) (ob (qT (a.2.2.2.1,len f.2.2.1,())) λa6=>T (a_ a6.1) (some (true,())) (some (ag (len a.2.2.2.2.1) 0,())))):Option (Bool×Unit)) =
    some (D (¬(0<=a.2.2.2.1/\a.2.2.2.1<(f.2.2.1.length:Int))\/a.2.2.2.2.1=[]),()):=by
   refine(bn fA ((bJ (wk _ _)).trans (?_)));by_cases O:0<=a.2.2.2.1/\a.2.2.2.1<(f.2.2.1.length:Int)
   .rw[cF (show 0<=a.2.2.2.1/\a.2.2.2.1<len f.2.2.1 from O)]
    rw[g10];refine pZ ?_;constructor
    .intro hx;exact .inr (k3.1 (by have:(a.2.2.2.2.1.length:Int)=0:=hx;omega))
    rintro(hx|hx)
    .omega
    rw[hx];rfl
   rw[cE (show ¬(0<=a.2.2.2.1/\a.2.2.2.1<len f.2.2.1) from O),cF (.inl O)];rfl
  refine(bJ ara).trans (?_);by_cases R:¬(0<=a.2.2.2.1/\a.2.2.2.1<(f.2.2.1.length:Int))\/a.2.2.2.2.1=[]
  .rw[cF R,if_pos (R.elim (λh=>.inr (.inl h)) (λh=>.inr (.inr h)))];rfl
  have af:=wy.1 λh=>R (.inl h);have aq:=λh=>R (.inr h);have a8:=List.length_pos_iff.2 aq;rw[cE R,if_neg (by grind)];refine(bn fA ((bJ (FG f.2.2.1 (by have:=l?.2.2;omega))).trans (?_)));refine bn (by simp only[go_sem];exact af) (bn cN (bn (by simp only[go_sem];exact af) ((bJ (Ky w.ba)).trans ((bn ?_ ?_)))))
  .rw[g21];refine cF ?_;show(w.ba.length+1)*80<=_;omega
  rw[ahL];rfl
 rw[cE (show ¬(0<=a.2.2.1/\a.2.2.1<len w.old) from ao),if_pos (.inl ao)];rfl
def arY{w:bW}(h:gV w)(a:dy)(Y:a.2.2.2.2.1.length<=1000000):Oi ((w.t,()),a,())=some (((Hc w a.2.1 a.2.2.1 a.2.2.2.2.1).1.t,()),(Hc w a.2.1 a.2.2.1 a.2.2.2.2.1).2,()):=by
 unfold Oi Hc;refine(bJ (wk a.2.1 2)).trans (?_);by_cases ao:0<=a.2.1/\a.2.1<2
 .rw[cF ao,if_neg (not_not_intro ao)]
  have:=Pm h (lx a.2.1) a.2.2.1 Y;rw[Mv J]at this;exact((bJ this))
 rw[cE ao,if_pos ao];rfl
def amg{w:bW}(h:gV w)(a:dy):Og ((w.t,()),a,())=some (((FL w a.2.2.1).1.t,()),(FL w a.2.2.1).2,()):=by
 unfold Og FL;refine(bJ (wk a.2.2.1 4)).trans (?_);by_cases ao:l3 a.2.2.1
 .rw[cF (show 0<=a.2.2.1/\a.2.2.1<4 from ao),if_neg (not_not_intro ao)]
  exact((bJ (Xl w _ (by have:=h.ba;omega))))
 rw[cE (show ¬(0<=a.2.2.1/\a.2.2.1<4) from ao),if_pos ao];rfl
def amu{w:bW}(h:gV w)(a:dy)(Y:a.2.2.2.2.1.length<=1000000):p3 ((w.t,()),a,())=some (((uX w a).1.t,()),(uX w a).2,()):=by
 unfold p3 uX;refine(bJ (wk a.2.1 2)).trans (?_);by_cases ao:0<=a.2.1/\a.2.1<2
 .rw[cF ao,if_neg (not_not_intro ao)]
  have e:=Mv (n:=a.2.1) J;generalize lx a.2.1=i at e;rw[<- e];have hg:=h.Ry (aax (h.s i) a) J J;refine((bJ (DK w i)).trans (((bJ (amP (h.s i) J a Y)).trans (?_))));exact(bJ (h.jQ i _ hg.1 hg.2))
 rw[cE ao,if_pos ao];rfl
def avu{w:bW}(h:gV w)(a:dy):Oj ((w.t,()),a,())=some (((AN w a.2.2.1).1.t,()),(AN w a.2.2.1).2,()):=by
 unfold Oj AN;have hp:(T (ag (w.e false).ph 8) (some (true,())) (am (aU 1 (bf 2)) (some (ag (w.e true).ph 8,()))):Option (Bool×Unit))=some (D ((w.e false).ph=8\/(w.e true).ph=8),()):=by simp(disch:=omega) only[go_sem]
 refine(bJ (hp)).trans (?_);by_cases cz:(w.e false).ph=8\/(w.e true).ph=8
 .rw[cF cz,if_pos cz];rfl
 rw[cE cz,if_neg cz];refine((bJ (wk a.2.2.1 4)).trans (?_));by_cases ao:l3 a.2.2.1
 .rw[cF (show 0<=a.2.2.1/\a.2.2.1<4 from ao),if_neg (not_not_intro ao)]
  have aq:aU a.2.2.1 (bf 4)=true:=by simp only[go_sem];exact ao
  refine((bn aq ?_));have aL:(T (ak (w.e false).hub.1 (aa a.2.2.1) false) (some (true,())) (am (aU 1 (bf 2)) (am (aU a.2.2.1 (bf 4)) (some (ak (w.e true).hub.1 (aa a.2.2.1) false,())))):Option (Bool×Unit))=some (D (mW (w.e false).hub a.2.2.1\/mW (w.e true).hub a.2.2.1),()):=by
   unfold mW;rw[aq,show aa a.2.2.1=a.2.2.1.toNat from rfl];cases ak (w.e false).hub.1 a.2.2.1.toNat false
   .cases ak (w.e true).hub.1 a.2.2.1.toNat false
    .rw[cE bh];rfl
    rw[cF (.inr rfl)];rfl
   rw[cF (.inl rfl)];rfl
  refine(bJ (aL)).trans (?_);by_cases O:mW (w.e false).hub a.2.2.1\/mW (w.e true).hub a.2.2.1
  .rw[cF O,if_pos O];rfl
  rw[cE O,if_neg O];generalize hg:(λab=>(_:Option (aE (Int×(gw×Unit)×Unit) Unit)))=F;have cJ:∀(w:bW) (i:Bool),gV w->F (eq i,(w.t,()),())=some (.nx (eq i+1,((rC w i a.2.2.1).t,()),())):=by intro w i bb;have ah:=bb.Ry (aaC (w.at i) (bb.s i).e.feed a.2.2.1) J J;subst hg;refine bq (dj (TI i).2) ((bJ (DK w i)).trans (((bJ (amS (bb.s i) J a.2.2.1)).trans (((bJ (bb.jQ i _ ah.1 ah.2)).trans (?_))))));cases i<;>rfl
  have f6:∀w:bW,F (2,(w.t,()),())=some (.ex 1 (2,(w.t,()),())):=λw=>by subst hg;exact b1 rfl
  obtain⟨bF,b3,dp⟩:=Uk h.ok false a.2.2.1;refine(da ((ez (cJ w false h)).trans ((ez (cJ _ true ⟨bF,eZ dp h.z⟩)).trans (d_ (f6 _))))).trans ?_;rfl
 rw[cE (show ¬(0<=a.2.2.1/\a.2.2.1<4) from ao),if_pos ao];rfl
structure yJ(w:bW):Prop where
 ok:gS w
 z:20*em w+4*h' w+240<=19800000000000
def yJ.nW{w:bW}(h:yJ w):gV w:=⟨h.ok,by have:=h.z;omega⟩
def an9{w:bW}(h:gS w){f:eN}{r:List eN}(hf:w.ba=f::r)(ap:k<=r.length):
  gS (lI w 0 0).1/\(k<=(lI w 0 0).1.ba.length\/(lI w 0 0).1.ba=[])/\20*em (lI w 0 0).1+4*(fF (lI w 0 0).1+ey ((lI w 0 0).1.ba.take k))<=20*em w+4*(fF w+ey (w.ba.take (k+1))):=by
 have e:(lI w 0 0).1=k7 { w with ba:=r } (lx f.1) f.2.1 f.2.2.1:=by unfold lI;rw[hf];rw[if_neg bh];rfl
 have O:gS { w with ba:=r }:=⟨h.s,h.bB,h.got,λg hg=>h.ba g (by grind),h.old⟩;obtain⟨eS,ei,jy,nM⟩:=Pl O (lx f.1) f.2.1 f.2.2.1;rw[e];have bG:fj ({ w with ba:=r }:bW)=fj w:=rfl;have b_:fF ({ w with ba:=r }:bW)=fF w:=rfl;have cp:em ({ w with ba:=r }:bW)+1=em w:=by unfold em;rw[bG,hf];simp;omega
 have dT:ey ((f::r).take (k+1))=f.2.2.1.length+ey (r.take k):=rfl;rcases ei with aC|⟨o,aC,ei⟩
 .rw[aC]
  have ahS:ey (([]:List eN).take k)=0:=by cases k<;>rfl
  grind
 grind
def ah1{w:bW}(k:Int)(h:∀j:Nat,(j:Int)<k->yJ (oG j w))(ap:k<=1000000):Oc (w.t,k,())=some ((oG k.toNat w).t,()):=by
 unfold Oc;generalize hg:(λab=>(_:Option (aE (Int×(gw×Unit)×Unit) (gw×Unit))))=F;have round:∀(i:Nat) (v:bW),(i:Int)<k->yJ v->F ((i:Int),(v.t,()),())=some (.nx (((i+1:Nat):Int),((jK v).t,()),())):=by
  intro i v hi aC;have gG:i64 (av (i:Int) 1)=((i+1:Nat):Int):=fN (by show(i:Int)+1=_;omega) J;subst hg;refine bq (dj (by show(i:Int)<cU 0 k;rw[g58];omega)) ?_;generalize dA:(λ(x:Int×(gw×Unit)×Unit)=>ob (T (aJ 0 x.1) _ _) _)=G;generalize cy:(λ(x:Int×(gw×Unit)×Unit)=>T (aJ x.1 2) _ _)=H;have QJ:∀(n:Nat) (u:bW),gS u->(n<=u.ba.length\/u.ba=[])->20*em u+4*(fF u+ey (u.ba.take n))<=19800000000000->n<=1000000000000 ->
    ∃j:Int,bN G ((n:Int),(u.t,()),())=some (.ex 2 (j,((m? n u).t,()),())):=by
   intro n;induction n with
   |zero =>intro u aL aj bj Y;refine⟨0,d_ ?_⟩;subst dA;rfl
   |succ n ih=>
    intro u aL aj bj Y;unfold m?;by_cases ao:u.ba=[]
    .rw[if_pos ao]
     refine⟨((n+1:Nat):Int),d_ ?_⟩;subst dA;refine bg (a:=(false,())) (bq (dj J) ?_) (b1 rfl);show some (aJ 0 (len u.ba),())=_;rw[ao];rfl
    rw[if_neg ao];obtain⟨f,r,hf⟩:=WQ ao;have LA:n<=r.length:=by
     grind
    obtain⟨dF,gp,lk⟩:=an9 aL hf LA;obtain⟨j,an⟩:=ih (lI u 0 0).1 dF gp J J;refine⟨j,uV (ez ?_) an⟩;have GG:gV u:=⟨aL,J⟩;have kQ:i64 (bi ((n+1:Nat):Int) 1)=((n:Nat):Int):=fN (by show((n+1:Nat):Int)-1=_;omega) J;subst dA;refine bg (a:=(true,())) (bq (dj J) ?_) (?_)
    .show some (aJ 0 (len u.ba),())=_
     rw[hf,dj (by show(0:Int)<(((f::r).length:Nat):Int);rw[ew];omega)]
    dsimp only;refine bg (aap GG om) ?_;rw[kQ]
  have q?:=aC.nW.ba;have azj:h' v=ey v.ba+fF v+950*fj v:=rfl;have bj:=aC.z;obtain⟨j,an⟩:=QJ v.ba.length v aC.ok (.inl (bU _)) (by rw[nF];omega) J;obtain⟨k?,mB,w1⟩:=KD v.ba.length aC.ok (.inl (bU _));rw[nF]at w1;have ag5:∀(u:bW) (i:Bool),gV u->H (eq i,(u.t,()),())=some (.nx (eq i+1,((nz u i).t,()),())):=by intro u i aL;have ah:=aL.Ry (RC (aL.s i)) J J;subst cy;refine bq (dj (TI i).2) ((bJ (DK u i)).trans (((bJ (Zr (aL.s i) J)).trans (((bJ (aL.jQ i _ ah.1 ah.2)).trans (?_))))));cases i<;>rfl
  have f6:∀u:bW,H (2,(u.t,()),())=some (.ex 4 (2,(u.t,()),())):=λu=>by subst cy;exact b1 rfl
  refine(da (an)).trans ((?_));have f1:gV (m? v.ba.length v):=⟨k?,J⟩;obtain⟨dT,ev,t3⟩:=VI k? false;have f2:gV (nz (m? v.ba.length v) false):=⟨dT,J⟩;refine(da ((ez (ag5 _ false f1)).trans ((ez (ag5 _ true f2)).trans (d_ (f6 _))))).trans ((?_));rw[gG];rfl
 have alT:∀(j:Nat) (v:bW),jK (oG j v)=oG (j+1) v:=by
  intro j;induction j with
  |zero=>intro v;rfl
  |succ j ih=>intro v;exact ih (jK v)
 have run:∀(m j:Nat),j+m=k.toNat->bN F ((j:Int),((oG j w).t,()),())=some (.ex 0 ((k.toNat:Int),((oG k.toNat w).t,()),())):=by
  intro m;induction m with
  |zero =>intro j an;have:=J;subst this;refine d_ ?_;subst hg;exact b1 (c6 (by show ¬(k.toNat:Int)<cU 0 k;rw[g58];omega))
  |succ m ih =>intro j an;refine uV (ez ?_) (ih (j+1) J);rw[round j _ J (h j J),alT]
 exact(da (run k.toNat 0 (jw _))).trans ((dR g62))
def alU{w:bW}(a:dy)(h:∀j:Nat,j<(min a.2.2.1 100).toNat->yJ (oG j w)):Of ((w.t,()),a,()) =
  some (((if a.2.2.1<0 then(w,(1:Int)) else(oG (min a.2.2.1 100).toNat w,0)).1.t,()),(if a.2.2.1<0 then(w,(1:Int)) else(oG (min a.2.2.1 100).toNat w,0)).2,()):=by
 unfold Of;dsimp only;by_cases ao:a.2.2.1<0
 .rw[if_pos ao];exact ce (dj ao)
 rw[if_neg ao];refine a1 (c6 ao) ?_;rw[g57];exact(bJ (ah1 (min a.2.2.1 100) (λj an=>h j J) J)).trans rfl
structure yK(w:bW)(a:dy):Prop where
 nW:gV w
 b:a.2.2.2.2.1.length<=1000000
 FD:a.1=17->∀j:Nat,j<(min a.2.2.1 100).toNat->yJ (oG j w)
def aiu{w:bW}{a:dy}(h:yK w a):Ji (w.t,a,())=some ((gT w a).1.t,(gT w a).2,()):=by
 unfold Ji gT;dsimp only;have aF:=amu h.nW a h.b;have tH:(ob (p3 ((w.t,()),a,())) λx=>(some (x.1.1,x.2.1,()):Option (gw×Int×Unit)))=some ((uX w a).1.t,(uX w a).2,()):=(bJ aF).trans rfl;by_cases dN:a.1=7
 .rw[if_pos dN];exact bq (cK dN) ((bJ (aap h.nW a)).trans rfl)
 rw[if_neg dN];refine a1 (ct dN) ?_;by_cases cz:a.1=8
 .rw[if_pos cz];exact bq (cK cz) ((bJ (amw h.nW a)).trans rfl)
 rw[if_neg cz];refine a1 (ct cz) ?_;by_cases lJ:a.1=9
 .rw[if_pos lJ];exact bq (cK lJ) ((bJ (aiI h.nW a)).trans rfl)
 rw[if_neg lJ];refine a1 (ct lJ) ?_;by_cases kO:a.1=10
 .rw[if_pos kO];exact bq (cK kO) ((bJ (axx h.nW a)).trans rfl)
 rw[if_neg kO];refine a1 (ct kO) ?_;by_cases pC:a.1=11
 .rw[if_pos pC];exact bq (cK pC) ((bJ (arY h.nW a h.b)).trans rfl)
 rw[if_neg pC];refine a1 (ct pC) ?_;by_cases Lo:a.1=12
 .rw[if_pos Lo];exact bq (cK Lo) ((bJ (avu h.nW a)).trans rfl)
 rw[if_neg Lo];refine a1 (ct Lo) ?_;by_cases Lp:a.1=13
 .rw[if_pos Lp];exact bq (cK Lp) ((bJ (amg h.nW a)).trans rfl)
 rw[if_neg Lp];refine a1 (ct Lp) ?_;by_cases sn:a.1=17
 .rw[if_pos sn]
  exact bq (cK sn) ((bJ (alU a (h.FD sn))).trans rfl)
 rw[if_neg sn];refine a1 (ct sn) ?_;by_cases ao:a.1=0
 .rw[if_pos J];exact bq (cK ao) tH
 refine a1 (ct ao) ?_;by_cases O:a.1=1
 .rw[if_pos J];exact bq (cK O) tH
 refine a1 (ct O) ?_;by_cases R:a.1=2
 .rw[if_pos J];exact bq (cK R) tH
 refine a1 (ct R) ?_;by_cases af:a.1=3
 .rw[if_pos J];exact bq (cK af) tH
 refine a1 (ct af) ?_;by_cases aq:a.1=4
 .rw[if_pos J];exact bq (cK aq) tH
 refine a1 (ct aq) ?_;by_cases a8:a.1=5
 .rw[if_pos J];exact bq (cK a8) tH
 refine a1 (ct a8) ?_;by_cases cT:a.1=6
 .rw[if_pos J];exact bq (cK cT) tH
 refine a1 (ct cT) ?_;by_cases zu:a.1=14
 .rw[if_pos J];exact bq (cK zu) tH
 refine a1 (ct zu) ?_;by_cases zv:a.1=15
 .rw[if_pos J];exact bq (cK zv) tH
 refine a1 (ct zv) ?_;by_cases nY:a.1=16
 .rw[if_pos J];exact bq (cK nY) tH
 refine a1 (ct nY) ?_;rw[if_neg J]
def OA:bW->List dy->Prop
 |_,[]=>True
 |w,a::l=>yK w a/\OA (gT w a).1 l
def d7(n:d1):V:=gO (jF n)
def pr{n:d1}(h:i? n):nX (d7 n):=⟨by unfold d7 gO;rw[cG,cG,qe];split<;>omega,ayO h⟩
def oC(n:d1)(res:Int):d1:=(false,n.2.1,n.2.2.1,res,0,[],[],0,())
def Pf{n:d1}(h:i? n){res:Int}(ao:0<=res)(lJ:res<=99):i? (oC n res):=by refine⟨h.1,h.2.1,h.2.2.1,ao,lJ,(λh=>by cases h),?_⟩;refine⟨rfl,rfl,rfl,?_⟩;rfl
def aeX{n:d1}(h:i? n)(a2:n.1=true){res:Int}(ao:0<=res)(lJ:res<=99):kj n res=d7 (oC n res):=by unfold kj Fh;rw[if_neg (by rw[a2];intro h;cases h),if_neg J];exact congrArg Prod.fst (Wc (Pf h ao lJ))
def h6:d1:=(true,1,1,0,0,[],[],0,())
def m6:d1:=oC h6 0
def ahX:V:=List.replicate 16 (u8 0)
theorem azf:l8 ahX=(0,false,()):=rfl
theorem ajo:jz Du=(1,0,true,()):=by rfl
def og:m4:=(o0 1,xA 1 (-1) ahX,())
def axR:mm Du (-1)=(og,1,0,()):=by unfold mm;rw[ajo];rw[ if_pos rfl];rfl
structure o9(c:Nat)(h:eO):Prop where
 c4:c<4
 up:h.1=[decide (c=0),decide (c=1),decide (c=2),decide (c=3)]
 feed:h.2.1=[ep,ep,ep,ep]
 next:0<=h.2.2.2.1/\h.2.2.2.1<4
def T?{h:eO}(aL:o9 c h):(eF h).2.1=(c:Int)/\(eF h).2.2.1=0/\o9 c (eF h).1:=by
 obtain⟨O,R,af,aq⟩:=aL;have key:T9 h.1 h.2.2.2.1.toNat=some c:=by
  have:∀c<4,∀n<4,T9 [decide (c=0),decide (c=1),decide (c=2),decide (c=3)] n=some c:=bP
  grind
 unfold eF;rw[key];exact⟨rfl,rfl,O,R,af,by show(0:Int)<=((c+1)%4:Nat)/\(((c+1)%4:Nat):Int)<4;omega⟩
def ayi{h:eO}(aL:o9 c h):mW h (c:Int):=by unfold mW;rw[aL.up,i0];have:∀c<4,ak [decide (c=0),decide (c=1),decide (c=2),decide (c=3)] c false=true:=bP;exact this c aL.c4
def ava(O:1<=x.length)(R:x.length<=1024):iV ep (fo x)=(ep,[x]):=by
 have hl:(fo x).length=x.length+2:=MG x;have ht:ee (fo x)=x.length:=by
  unfold ee fo;show 256*(u8 (fp .i64 (len x) (cD (u64 8)))).toNat+(u8 (len x)).toNat=x.length;have e1:(u8 (len x)).toNat=x.length%256:=by show(UInt8.ofInt (x.length:Int)).toNat=_;simp[UInt8.ofInt,OD];omega
  have aN:fp .i64 (len x) (cD (u64 8))=((x.length/256:Nat):Int):=by show Int.fdiv (x.length:Int) (2^(Nat.min ((cD (u64 8)).toNat) 64))=_;rw[show(cD (u64 8)).toNat=8 from rfl,show Nat.min 8 64=8 from rfl,WO _ bP];omega
  have dJ:(u8 (fp .i64 (len x) (cD (u64 8)))).toNat=x.length/256%256:=by rw[aN];show(UInt8.ofInt ((x.length/256:Nat):Int)).toNat=_;simp[UInt8.ofInt,OD];omega
  rw[e1,dJ];omega
 unfold iV;rw[if_neg (by show ¬(([]:V)++fo x).length<(0:Int).toNat;simp)];show(((hH (fo x).length 0 ((fo x).drop 0)).1,_),_)=_;rw[nD,hl];have e:hH (x.length+2) 0 (fo x)=([],0,0,[x]):=by
  unfold hH;rw[if_neg J,if_neg J,if_neg J];have aF:(fo x).drop (2+ee (fo x))=[]:=by rw[ht];exact O5 J
  have ap:∀k,hH k 0 ([]:V)=([],0,0,[]):=by intro k;cases k<;>rfl
  rw[aF,ap,ht];have:((fo x).drop 2).take x.length=x:=by show(x).take x.length=x;exact nF
  rw[this]
 rw[show(ep.1++fo x).length=x.length+2 from hl];show(((hH (x.length+2) 0 (fo x)).1,((hH (x.length+2) 0 (fo x)).2.1:Int),(hH (x.length+2) 0 (fo x)).2.2.1,()),(hH (x.length+2) 0 (fo x)).2.2.2)=_;rw[e];rfl
def ai0{s:aG}(aL:o9 c s.e.hub)(ai:s.e.dt=[0,0,0,0])(cz:¬s.e.ph=8)(O:1<=x.length)(R:x.length<=1024):q5 s (c:Int) (fo x)=l6 s x:=by
 have aj:ak s.e.hub.2.1 c ep=ep:=by
  rw[aL.feed];have:∀c<4,ak [ep,ep,ep,ep] c ep=ep:=by
   intro c ai;match c,ai with
   |0,_=>rfl
   |1,_=>rfl
   |2,_=>rfl
   |3,_=>rfl
  exact this c aL.c4
 have nj:cj s.e.hub.2.1 c ep=s.e.hub.2.1:=by
  rw[aL.feed];have aq:=aL.c4;match c,aq with
  |0,_=>rfl
  |1,_=>rfl
  |2,_=>rfl
  |3,_=>rfl
 have hp:hn s.e.hub (c:Int) (fo x)=(s.e.hub,[x],0):=by unfold hn;rw[if_neg (not_not_intro (show l3 (c:Int) from⟨J,by have:=aL.c4;omega⟩)),if_neg (not_not_intro (ayi aL)),i0,aj,ava O R];dsimp only;rw[nj]
 have hf:sb s (c:Int) (fo x)=s:=by
  unfold sb;rw[hp,i0,aj];have e1:J? s.e.dt (i64 (ep.2.2.1-ep.2.2.1))=s.e.dt:=by rw[ai];rfl
  rw[e1]
 unfold q5;rw[hp,if_neg (not_not_intro rfl),hf];show(if s.e.ph=8 then s else vb (l6 s x) [])=_;rw[if_neg cz];rfl
def ag1{s:aG}{a:c?}{o:Int}(hid:s.e.id=1-a.id)(pF:s.e.key=a.key)(dN:¬s.e.ph=7/\¬s.e.ph=8)(aC:mi (g8 a o b))(hm:(gY a.key,c3 (g8 a o b),())∈s.p.2.1):
  iY s (c3 (g8 a o b)++jY (gY a.key) (c3 (g8 a o b)))=(s,some (jL (g8 a o b) (jY (gY a.key) (c3 (g8 a o b))))):=by
 have ah:=aeU aC (show(g8 a o b).2.2.1=_ from aep { a with oth:=o }) (AV (gY a.key) (c3 (g8 a o b)));generalize SJ:jY (gY a.key) (c3 (g8 a o b))=t at ah;have ap:Db s.e (jL (g8 a o b) t)=gY a.key:=by unfold Db;rw[if_neg (by show ¬(1:Int)=2;decide),pF]
 have ai:jh s (jL (g8 a o b) t)=(s.p,true,()):=by unfold jh;rw[ap];unfold AF;exact(if_pos SJ).trans (if_pos hm)
 have ac:¬o7 s.e (jL (g8 a o b) t):=by
  rintro(h|h|h|h)
  .exact h (show a.id=1-s.e.id by omega)
  .exact dN.1 h
  .exact dN.2 h
  exact absurd h.1 (by show ¬(1:Int)=2;decide)
 unfold iY;rw[ah];refine(if_neg (not_not_intro rfl)).trans ((if_neg ac).trans ?_);rw[ai];exact(if_neg (λh=>Bool.noConfusion h)).trans ((if_pos rfl).trans rfl)
def ag0{s:aG}{a:c?}(hid:s.e.id=1-a.id)(hp:gq a=gq s.e)(hl:jU s.e.ph)(hf:qj s.e.ring a.ring.1.1=(a.ring.1.2.1,true,()))(aC:mi (h9 a b))(hm:(a.ring.1.2.1,c3 (h9 a b),())∈s.p.2.1)(bb:(kT s.e.win a.seq).2=0):
  iY s (c3 (h9 a b)++jY a.ring.1.2.1 (c3 (h9 a b)))=(⟨{ s.e with win:=(kT s.e.win a.seq).1,ring:=qo s.e a.ring.1.1 },s.p⟩,some (jL (h9 a b) (jY a.ring.1.2.1 (c3 (h9 a b))))):=by
 have ah:=aeU aC (aep a) (AV a.ring.1.2.1 (c3 (h9 a b)));generalize SJ:jY a.ring.1.2.1 (c3 (h9 a b))=t at ah;have ap:Db s.e (jL (h9 a b) t)=a.ring.1.2.1:=by exact congrArg Prod.fst hf
 have ai:jh s (jL (h9 a b) t)=(s.p,true,()):=by unfold jh;rw[ap];exact(if_pos SJ).trans (if_pos hm)
 have ac:¬o7 s.e (jL (h9 a b) t):=by
  unfold jU at hl;rintro(h|h|h|h)
  .exact h (show a.id=1-s.e.id by omega)
  .omega
  .omega
  rcases h.2 with h|h|h
  .exact h hl
  .exact h hp
  have:(qj s.e.ring a.ring.1.1).2.1=false:=h
  grind
 unfold iY;rw[ah];refine(if_neg (not_not_intro rfl)).trans ((if_neg ac).trans ?_);rw[ai];exact(if_neg (λh=>Bool.noConfusion h)).trans ((if_neg (show ¬(2:Int)=1 by decide)).trans ((if_neg (not_not_intro bb))))
def FN:List Int:=[0,0,0,0]
def h0:d1:=(true,301,2,0,0,[],[],0,())
def mP(key:V):V:=vF key [1,1] 1 []
def o2(key:V):fa:=((1,mP key,()),jG,jG,0,1,())
def l0:gX:=(kT sK 0).1
def fW(i:Bool)(key:V)(h:eO):c?:=⟨eq i,key,0,Du, -1,0,0,0,0,sK,n7,jW,0,0,[],h,[],[],FN⟩
def gZ(i:Bool)(key:V)(f':Int)(h:eO):c?:=⟨eq i,key,1,og, -1,1,0,0,0,sK,n7,(1,1,f',3,d7 h6,()),1,0,[],h,[],[],FN⟩
def ga(i:Bool)(key:V)(h:eO):c?:=⟨eq i,key,2,og, -1,1,1,1,0,sK,o2 key,jW,0,0,[],h,[],[],FN⟩
def g'(i:Bool)(key:V)(f':Int)(h:eO):c?:=⟨eq i,key,3,og, -1,1,1,1,1,sK,o2 key,(301,2,f',3,d7 h0,()),2,0,[],h,[],[],FN⟩
def nU(i:Bool)(key:V)(stan:Int)(h:eO):c?:=⟨eq i,key,3,og, -1,1,1,1,1,l0,o2 key,jW,stan,0,[],h,[],[],FN⟩
def mG:List lz:=[(4,[1,1],0,[],())]
def rN(i:Bool)(key:V):dr:=g8 (gZ i key 8 eP) 0 (d7 h6)
def uG(i:Bool)(key:V):dr:=g8 (ga i key eP) 1 (d7 m6)
def wi(i:Bool)(key:V):dr:=h9 { g' i key 8 eP with seq:=0 } (d7 h0)
def wh(i:Bool)(key:V):dr:=h9 (ga i key eP) (d7 (oC h0 0))
def j8(k:V)(v:dr):V:=c3 v++jY k (c3 v)
def xY:i? h6:=by refine⟨.inl rfl,bP,bP,bP,bP,λ_=>rfl,?_⟩;refine⟨rfl,rfl,rfl,?_⟩;rfl
def w4:i? h0:=by refine⟨.inr (.inr (.inr (.inr rfl))),bP,bP,bP,bP,λ_=>rfl,?_⟩;refine⟨rfl,rfl,rfl,?_⟩;rfl
def J2:i? m6:=Pf xY J J
def J':i? (oC h0 0):=Pf w4 J J
def Zo{s:aG}(aL:o9 c s.e.hub)(v:dr)(k:V):mF s v k=(⟨{ s.e with hub:=(eF s.e.hub).1,bB:=s.e.bB++[((c:Int),fo (j8 k v),())] },ln s.p k (c3 v)⟩,0):=by obtain⟨O,R,_⟩:=T? aL;unfold mF;rw[if_pos R,O];rfl
def agc{s:aG}(aL:o9 c s.e.hub){o:Int}(aK:dC o)(Y:nX b):o6 s o b=(⟨{ s.e with hub:=(eF s.e.hub).1,bB:=s.e.bB++[((c:Int),fo (j8 (gY s.e.key) (g8 s.e o b)),())] },ln s.p (gY s.e.key) (c3 (g8 s.e o b))⟩,0):=by unfold o6;rw[if_pos ⟨aK,Y⟩,Zo aL]
def af7{s:aG}(aL:o9 c s.e.hub)(hl:jU s.e.ph)(a2:¬s.e.seq=4611686018427387904)(Y:nX b):gh s b=(⟨{ s.e with hub:=(eF s.e.hub).1,bB:=s.e.bB++[((c:Int),fo (j8 s.e.ring.1.2.1 (h9 s.e b)),())],seq:=s.e.seq+1 },ln s.p s.e.ring.1.2.1 (c3 (h9 s.e b))⟩,0):=by unfold gh;rw[if_neg (not_not_intro Y),if_neg (not_not_intro hl),if_neg a2,Zo aL];rfl
def xN:dC 0:=⟨bP,bP⟩
def Ar:dC 1:=⟨bP,bP⟩
def auh(i:Bool)(key:V){h:eO}(aL:o9 c h)(p:fk):ru ⟨fW i key h,p⟩=(⟨{ gZ i key 8 (eF h).1 with bB:=[((c:Int),fo (j8 (gY key) (rN i key)),())] },ln p (gY key) (c3 (rN i key))⟩,0):=by
 have aA:fX ⟨fW i key h,p⟩=(p0 ⟨fW i key h,p⟩ og,1,0):=by unfold fX;rw[show mm (fW i key h).store (fW i key h).power=_ from axR];rfl
 have a2:(mr h6)=(d7 h6,0,()):=Wc xY;have Y:nN 1 1 (d7 h6)=((1,1,8,3,d7 h6,()),0,()):=by unfold nN;rw[if_pos ⟨.inl rfl,bP,bP,pr xY⟩]
 unfold ru;rw[if_neg (by rintro(h|h)<;>exact absurd (show(0:Int)=_ from h) bP),aA,if_neg (not_not_intro rfl)];refine wK ?_ rfl;show kW (uj (kB (p0 ⟨fW i key h,p⟩ og) 1) 1) (hY 1)=_;unfold kW;rw[show((hY 1).1,(hY 1).2.1,lw (uj (kB (p0 ⟨fW i key h,p⟩ og) 1) 1).e.stan,(hY 1).2.2.2)=h6 from rfl,show lw (uj (kB (p0 ⟨fW i key h,p⟩ og) 1) 1).e.stan=1 from rfl,a2];rw[show nN (hY 1).2.1 1 (d7 h6,(0:Int),()).1=_ from Y,if_pos ⟨rfl,rfl⟩,if_pos (show(hY 1).2.1=1 from rfl)];have bu:wP (uj (kB (p0 ⟨fW i key h,p⟩ og) 1) 1) (hY 1)=⟨gZ i key 8 h,p⟩:=by unfold wP;rw[show((hY 1).1,(hY 1).2.1,lw (uj (kB (p0 ⟨fW i key h,p⟩ og) 1) 1).e.stan,(hY 1).2.2.2)=h6 from rfl,show lw (uj (kB (p0 ⟨fW i key h,p⟩ og) 1) 1).e.stan=1 from rfl,a2];rw[show nN (hY 1).2.1 1 (d7 h6,(0:Int),()).1=_ from Y];rfl
 rw[bu,agc (s:=⟨gZ i key 8 h,p⟩) aL xN (pr xY)];rfl
def K?{s x:aG}{v:dr}(h:iY s b=(x,some v)):l6 s b=oY (oI x v):=by unfold l6;rw[h]
def MP{s:aG}(h:s.e.queue=[]):oY s=s:=by unfold oY;rw[h];rfl
def amY{s:aG}(O:s.e.store=Du)(R:s.e.power = -1):fX s=(p0 s og,1,0):=by unfold fX;rw[O,R];rfl
def NU(p:fk)(k b:V):(k,b,())∈(ln p k b).2.1:=by
 unfold ln;split
 .omega
 simp
theorem adg(key:V):(Dt (vF key [1,1] 1 [])).1=o2 key:=rfl
def MK{v:dr}{x y g q:Int}(ap:v.1=1\/v.1=2)(b?:v.2.2.1=[x,y])(hx:dC x)(hy:dC y)(a2:v.2.2.2.2.1=q)(sx:dC q)(aF:v.2.1=0\/v.2.1=1)(hg:v.2.2.2.1=g)(Sd:0<=g/\g<=2147483647)(Y:nX v.2.2.2.2.2.1):mi v:=by unfold mi d4 e1;rw[b?,a2,hg];exact⟨ap,hx,hy,sx,aF,Sd,Y.1,Y.2⟩
def px(i:Bool):eq i=0\/eq i=1:=by cases i<;>first|exact .inl rfl|exact .inr rfl
def ayo(i:Bool)(key:V):(rN i key).2.2.1=[if i then 0 else 1,if i then 1 else 0]:=by cases i<;>rfl
def uk{e:c?}(ao:e.id=0\/e.id=1)(O:e.own=1)(R:e.oth=1):gq e=[1,1]:=by
 unfold gq
 grind
def ayp(i:Bool)(key:V):mi (rN i key):=MK (x:=if i then 0 else 1) (y:=if i then 1 else 0) (q:=0) (g:=0) (.inl rfl) (ayo i key) (by cases i<;>decide) (by cases i<;>decide) rfl xN (px i) rfl bP (pr xY)
def ahw(i:Bool)(key:V):(uG i key).2.2.1=[1,1]:=uk (e:={ ga i key eP with oth:=1 }) (px i) rfl rfl
def ayl(i:Bool)(key:V):mi (uG i key):=MK (q:=0) (g:=0) (.inl rfl) (ahw i key) Ar Ar rfl xN (px i) rfl bP (pr J2)
def ayn(i:Bool)(key:V):mi (wi i key):=MK (q:=0) (g:=1) (.inr rfl) (uk (e:={ g' i key 8 eP with seq:=0 }) (px i) rfl rfl) Ar Ar rfl xN (px i) rfl bP (pr w4)
def aym(i:Bool)(key:V):mi (wh i key):=MK (q:=0) (g:=1) (.inr rfl) (uk (e:=ga i key eP) (px i) rfl rfl) Ar Ar rfl xN (px i) rfl bP (pr J')
def apK(i:Bool)(key:V){h:eO}(aL:o9 c h){p:fk}(hm:(gY key,c3 (rN i key),())∈p.2.1):
  l6 ⟨fW (!i) key h,p⟩ (j8 (gY key) (rN i key))=⟨{ ga (!i) key (eF h).1 with bB:=[((c:Int),fo (j8 (gY key) (uG (!i) key)),())] },ln p (gY key) (c3 (uG (!i) key))⟩:=by
 have ht:=ag1 (s:=⟨fW (!i) key h,p⟩) (a:=gZ i key 8 eP) (o:=0) (b:=d7 h6) (by cases i<;>rfl) rfl ⟨by show ¬(0:Int)=7;decide,by show ¬(0:Int)=8;decide⟩ (ayp i key) hm;rw[show j8 (gY key) (rN i key)=c3 (g8 (gZ i key 8 eP) 0 (d7 h6))++jY (gY (gZ i key 8 eP).key) (c3 (g8 (gZ i key 8 eP) 0 (d7 h6))) from rfl,K? ht];generalize jY (gY (gZ i key 8 eP).key) (c3 (g8 (gZ i key 8 eP) 0 (d7 h6)))=t;have hz:ls (d7 h6)=(h6,0,()):=MX xY;have aF:oI ⟨fW (!i) key h,p⟩ (jL (g8 (gZ i key 8 eP) 0 (d7 h6)) t)=qp ⟨fW (!i) key h,p⟩ (jL (g8 (gZ i key 8 eP) 0 (d7 h6)) t) h6:=by unfold oI;refine(if_neg (show ¬(1:Int)=2 by decide)).trans ?_;rw[show(jL (g8 (gZ i key 8 eP) 0 (d7 h6)) t).2.2.2.2.2.1=d7 h6 from rfl,hz];exact if_pos rfl
 have hh:qp ⟨fW (!i) key h,p⟩ (jL (g8 (gZ i key 8 eP) 0 (d7 h6)) t) h6=tw ⟨fW (!i) key h,p⟩ h6 1:=by
  unfold qp;dsimp only;have e1:ak (jL (g8 (gZ i key 8 eP) 0 (d7 h6)) t).2.2.1 (aa (1-(fW (!i) key h).id)) 0=1:=by cases i<;>rfl
  have aN:ak (jL (g8 (gZ i key 8 eP) 0 (d7 h6)) t).2.2.1 (aa (fW (!i) key h).id) 0=0:=by cases i<;>rfl
  rw[e1,aN];exact(if_neg (by rintro(h|h);exact h rfl;exact absurd h bP)).trans (if_pos ⟨rfl,rfl⟩)
 have bu:tw ⟨fW (!i) key h,p⟩ h6 1=(o6 ⟨ga (!i) key h,p⟩ 1 (kj h6 0)).1:=by
  unfold tw;refine(if_neg (by rintro(h|h|h);exact absurd (show(0:Int)=1 from h.1) bP;exact absurd (show(0:Int)=7 from h) bP;exact absurd (show(0:Int)=8 from h) bP)).trans ?_;refine(if_neg (λh=>absurd h.1.1 (by show ¬(2:Int)<=0;decide))).trans ?_;refine(if_neg (by show ¬(1:Int)<=0;decide)).trans ?_;rw[amY (s:=⟨fW (!i) key h,p⟩) rfl rfl];refine(if_pos rfl).trans ?_;have e:vL (kB (p0 ⟨fW (!i) key h,p⟩ og) 2) 1 1=⟨ga (!i) key h,p⟩:=by
   unfold vL Dm;have Q3:gq { (kB (p0 ⟨fW (!i) key h,p⟩ og) 2).e with own:=1,oth:=1 }=[1,1]:=by cases i<;>rfl
   rw[Q3,show(kB (p0 ⟨fW (!i) key h,p⟩ og) 2).e.key=key from rfl,adg];rfl
  rw[e]
 rw[aF,hh,bu,aeX xY rfl J J,show oC h6 0=m6 from rfl,agc (s:=⟨ga (!i) key h,p⟩) aL Ar (pr J2),MP (by rfl)];rfl
def apH(i:Bool)(key:V)(f':Int){h:eO}(aL:o9 c h){p:fk}(hm:(gY key,c3 (uG (!i) key),())∈p.2.1):
  l6 ⟨gZ i key f' h,p⟩ (j8 (gY key) (uG (!i) key))=⟨{ g' i key 8 (eF h).1 with bB:=[((c:Int),fo (j8 (mP key) (wi i key)),())],got:=mG },ln p (mP key) (c3 (wi i key))⟩:=by
 have ht:=ag1 (s:=⟨gZ i key f' h,p⟩) (a:=ga (!i) key eP) (o:=1) (b:=d7 m6) (by cases i<;>rfl) rfl ⟨by show ¬(1:Int)=7;decide,by show ¬(1:Int)=8;decide⟩ (ayl (!i) key) hm;rw[show j8 (gY key) (uG (!i) key)=c3 (g8 (ga (!i) key eP) 1 (d7 m6))++jY (gY (ga (!i) key eP).key) (c3 (g8 (ga (!i) key eP) 1 (d7 m6))) from rfl,K? ht];generalize jY (gY (ga (!i) key eP).key) (c3 (g8 (ga (!i) key eP) 1 (d7 m6)))=t;have hz:ls (d7 m6)=(m6,0,()):=MX J2;have aF:oI ⟨gZ i key f' h,p⟩ (jL (g8 (ga (!i) key eP) 1 (d7 m6)) t)=qp ⟨gZ i key f' h,p⟩ (jL (g8 (ga (!i) key eP) 1 (d7 m6)) t) m6:=by unfold oI;refine(if_neg (show ¬(1:Int)=2 by decide)).trans ?_;rw[show(jL (g8 (ga (!i) key eP) 1 (d7 m6)) t).2.2.2.2.2.1=d7 m6 from rfl,hz];exact if_pos rfl
 have b?:(jL (g8 (ga (!i) key eP) 1 (d7 m6)) t).2.2.1=[1,1]:=ahw (!i) key;have hh:qp ⟨gZ i key f' h,p⟩ (jL (g8 (ga (!i) key eP) 1 (d7 m6)) t) m6=kW (Az ⟨gZ i key f' h,p⟩ 1) (hY 301):=by
  unfold qp;dsimp only;rw[b?];have e1:ak ([1,1]:List Int) (aa (1-(gZ i key f' h).id)) 0=1:=by cases i<;>rfl
  have aN:ak ([1,1]:List Int) (aa (gZ i key f' h).id) 0=1:=by cases i<;>rfl
  rw[e1,aN];refine(if_neg (by rintro(h|h);exact h rfl;exact absurd h bP)).trans ((if_neg (λh=>Bool.noConfusion h.1)).trans (if_pos ⟨rfl,rfl,rfl,rfl,?_,rfl,rfl⟩));intro h;have:(1:Int)=0:=congrArg Prod.fst h;omega
 have sw:Az ⟨gZ i key f' h,p⟩ 1=⟨{ g' i key 8 h with seq:=0,ask:=jW,stan:=1,got:=mG },p⟩:=by unfold Az zk Dm;have Q3:gq { (gZ i key f' h) with own:=1,oth:=1 }=[1,1]:=uk (px i) rfl rfl;rw[show gq { (⟨gZ i key f' h,p⟩:aG).e with own:=(⟨gZ i key f' h,p⟩:aG).e.own,oth:=1 }=[1,1] from Q3,show(⟨gZ i key f' h,p⟩:aG).e.key=key from rfl,adg];dsimp only;rw[uk (e:=_) (px i) rfl rfl];rfl
 have a2:mr h0=(d7 h0,0,()):=Wc w4;have Y:nN 301 2 (d7 h0)=((301,2,8,3,d7 h0,()),0,()):=by unfold nN;rw[if_pos ⟨.inr (.inr (.inr (.inr rfl))),bP,bP,pr w4⟩]
 have zP:kW ⟨{ g' i key 8 h with seq:=0,ask:=jW,stan:=1,got:=mG },p⟩ (hY 301)=(gh ⟨{ g' i key 8 h with seq:=0,got:=mG },p⟩ (d7 h0)).1:=by unfold kW wP;rw[show((hY 301).1,(hY 301).2.1,lw (⟨{ g' i key 8 h with seq:=0,ask:=jW,stan:=1,got:=mG },p⟩:aG).e.stan,(hY 301).2.2.2)=h0 from rfl,show lw (⟨{ g' i key 8 h with seq:=0,ask:=jW,stan:=1,got:=mG },p⟩:aG).e.stan=2 from rfl,a2];rw[show nN (hY 301).2.1 2 (d7 h0,(0:Int),()).1=_ from Y,if_pos ⟨rfl,rfl⟩,if_neg (show ¬(hY 301).2.1=1 by decide)];rfl
 rw[aF,hh,sw,zP,af7 (s:=⟨{ g' i key 8 h with seq:=0,got:=mG },p⟩) aL ⟨by show(2:Int)<=3;decide,by show(3:Int)<=6;decide⟩ (by show ¬(0:Int)=4611686018427387904;decide) (pr w4),MP (by rfl)];rfl
theorem ZV(key:V):qj (o2 key) 1=(mP key,true,()):=rfl
theorem ac0:(kT sK 0).2=0:=rfl
def abk{e:c?}(h:e.ring=o2 key):qo e 1=o2 key:=by unfold qo;rw[h];exact if_neg (λq=>absurd (show(0:Int)=1 from q.1) bP)
def apJ(i:Bool)(key:V){h:eO}(aL:o9 c h){p:fk}(hm:(mP key,c3 (wi i key),())∈p.2.1):
  l6 ⟨ga (!i) key h,p⟩ (j8 (mP key) (wi i key))=⟨{ nU (!i) key 0 (eF h).1 with bB:=[((c:Int),fo (j8 (mP key) (wh (!i) key)),())],got:=mG },ln p (mP key) (c3 (wh (!i) key))⟩:=by
 have ht:=ag0 (s:=⟨ga (!i) key h,p⟩) (a:={ g' i key 8 eP with seq:=0 }) (b:=d7 h0) (by cases i<;>rfl) ((uk (px i) rfl rfl).trans (uk (e:=ga (!i) key h) (px (!i)) rfl rfl).symm) ⟨by show(2:Int)<=2;decide,by show(2:Int)<=6;decide⟩ (ZV key) (ayn i key) hm ac0;rw[show j8 (mP key) (wi i key)=c3 (h9 { g' i key 8 eP with seq:=0 } (d7 h0))++jY ({ g' i key 8 eP with seq:=0 }:c?).ring.1.2.1 (c3 (h9 { g' i key 8 eP with seq:=0 } (d7 h0))) from rfl,K? ht];generalize jY ({ g' i key 8 eP with seq:=0 }:c?).ring.1.2.1 (c3 (h9 { g' i key 8 eP with seq:=0 } (d7 h0)))=t;rw[show qo (⟨ga (!i) key h,p⟩:aG).e ({ g' i key 8 eP with seq:=0 }:c?).ring.1.1=o2 key from abk rfl];have hz:ls (d7 h0)=(h0,0,()):=MX w4;have hf:q8 ⟨{ ga (!i) key h with win:=l0,ring:=o2 key },p⟩=⟨{ nU (!i) key 0 h with seq:=0,got:=mG },p⟩:=by unfold q8;refine(if_pos rfl).trans ?_;unfold zk;rw[show gq (ul ⟨{ ga (!i) key h with win:=l0,ring:=o2 key },p⟩ 3).e=[1,1] from uk (px (!i)) rfl rfl];rfl
 have aF:oI ⟨{ ga (!i) key h with win:=l0,ring:=o2 key },p⟩ (jL (h9 { g' i key 8 eP with seq:=0 } (d7 h0)) t)=(gh ⟨{ nU (!i) key 0 h with seq:=0,got:=mG },p⟩ (kj h0 0)).1:=by unfold oI;refine(if_pos rfl).trans ?_;rw[show(jL (h9 { g' i key 8 eP with seq:=0 } (d7 h0)) t).2.2.2.2.2.1=d7 h0 from rfl,hz,hf];refine(if_pos rfl).trans ?_;unfold v_;refine(if_neg (show ¬(301:Int)=101 by decide)).trans ((if_neg (show ¬(301:Int)=201 by decide)).trans ?_);unfold xM;exact(if_pos rfl).trans (if_pos rfl)
 refine(congrArg oY aF).trans ?_;rw[aeX w4 rfl J J,af7 (s:=⟨{ nU (!i) key 0 h with seq:=0,got:=mG },p⟩) aL ⟨by show(2:Int)<=3;decide,by show(3:Int)<=6;decide⟩ (by show ¬(0:Int)=4611686018427387904;decide) (pr J'),MP (by rfl)];rfl
def apI(i:Bool)(key:V)(f':Int){h:eO}{p:fk}(hm:(mP key,c3 (wh (!i) key),())∈p.2.1):
  l6 ⟨g' i key f' h,p⟩ (j8 (mP key) (wh (!i) key))=⟨nU i key 2 h,p⟩:=by
 have ht:=ag0 (s:=⟨g' i key f' h,p⟩) (a:=ga (!i) key eP) (b:=d7 (oC h0 0)) (by cases i<;>rfl) ((uk (px (!i)) rfl rfl).trans (uk (e:=g' i key f' h) (px i) rfl rfl).symm) ⟨by show(2:Int)<=3;decide,by show(3:Int)<=6;decide⟩ (ZV key) (aym (!i) key) hm ac0;rw[show j8 (mP key) (wh (!i) key)=c3 (h9 (ga (!i) key eP) (d7 (oC h0 0)))++jY (ga (!i) key eP).ring.1.2.1 (c3 (h9 (ga (!i) key eP) (d7 (oC h0 0)))) from rfl,K? ht];generalize jY (ga (!i) key eP).ring.1.2.1 (c3 (h9 (ga (!i) key eP) (d7 (oC h0 0))))=t;rw[show qo (⟨g' i key f' h,p⟩:aG).e (ga (!i) key eP).ring.1.1=o2 key from abk rfl];have hz:ls (d7 (oC h0 0))=(oC h0 0,0,()):=MX J';have aF:oI ⟨{ g' i key f' h with win:=l0,ring:=o2 key },p⟩ (jL (h9 (ga (!i) key eP) (d7 (oC h0 0))) t)=⟨nU i key 2 h,p⟩:=by unfold oI;refine(if_pos rfl).trans ?_;rw[show(jL (h9 (ga (!i) key eP) (d7 (oC h0 0))) t).2.2.2.2.2.1=d7 (oC h0 0) from rfl,hz];refine(if_pos rfl).trans ?_;rw[show q8 ⟨{ g' i key f' h with win:=l0,ring:=o2 key },p⟩=⟨{ g' i key f' h with win:=l0,ring:=o2 key },p⟩ from if_neg (show ¬(3:Int)=2 by decide)];unfold v_;refine(if_neg (show ¬(301:Int)=101 by decide)).trans ((if_neg (show ¬(301:Int)=201 by decide)).trans ?_);unfold xM;refine(if_neg (λq=>Bool.noConfusion q)).trans ((if_pos ⟨?_,rfl,rfl⟩).trans ((if_pos rfl).trans rfl));intro q;have:(301:Int)=0:=congrArg Prod.fst q;omega
 refine(congrArg oY aF).trans (MP rfl)
def two{α:Type}(i:Bool)(a b:α):Bool->α:=λj=>if j=i then a else b
def f8(i:Bool)(a b:c?)(p:fk)(f o:List eN)(eT lb:List lz):bW:=⟨two i a b,p,f,o,two i eT lb⟩
def ahm(i:Bool)(a b:α):two i a b i=a:=if_pos rfl
def aya(i:Bool)(a b:α):two i a b (!i)=b:=if_neg (by cases i<;>decide)
def aeC(i:Bool)(a b x:α):iW (two i a b) i x=two i x b:=by
 unfold iW two
 grind
def ahn(i:Bool)(a b:α):two (!i) b a=two i a b:=by funext j;cases i<;>cases j<;>rfl
def Bw(i:Bool)(a b:c?)(p:fk)(f o:List eN)(eT lb:List lz):f8 (!i) b a p f o lb eT=f8 i a b p f o eT lb:=by unfold f8;rw[ahn,ahn]
def Pp(i:Bool)(a b:c?)(p:fk)(f o:List eN)(eT lb:List lz):(f8 i a b p f o eT lb).at i=⟨a,p⟩:=by show(⟨two i a b i,p⟩:aG)=_;rw[ahm]
def W8(i:Bool)(a b:c?)(p:fk)(f o:List eN)(eT lb:List lz):(f8 i a b p f o eT lb).at (!i)=⟨b,p⟩:=by show(⟨two i a b (!i),p⟩:aG)=_;rw[aya]
def Li(i:Bool)(a b:c?)(p:fk)(f o:List eN)(eT lb:List lz){x:aG}(h:¬x.e.ph=8):
  jQ (f8 i a b p f o eT lb) i x=f8 i { x.e with bB:=[],got:=[] } b x.p (f++x.e.bB.map (i9 i)) (o++x.e.bB.map (i9 i)) (eT++x.e.got) lb:=by
 unfold jQ;rw[if_neg (λq=>h q.1)];unfold l7 f8;dsimp only;rw[aeC,aeC,ahm]
def aak(i:Bool)(a b:c?)(p:fk)(f o:List eN)(eT lb:List lz){x:aG}(h:¬x.e.ph=8):
  jQ (f8 i a b p f o eT lb) (!i) x=f8 i a { x.e with bB:=[],got:=[] } x.p (f++x.e.bB.map (i9 (!i))) (o++x.e.bB.map (i9 (!i))) eT (lb++x.e.got):=by
 rw[<- Bw i a b,Li (!i) b a p f o lb eT h,Bw]
def VH(i:Bool){a a':c?}(b:c?){p:fk}(f o:List eN)(eT lb:List lz)(h:kG ⟨a,p⟩=⟨a',p⟩)(cz:¬a'.ph=8)(aK:a'.bB=[])(hg:a'.got=[]):
  nz (f8 i a b p f o eT lb) i=f8 i a' b p f o eT lb:=by
 unfold nz;rw[Pp,h,Li _ _ _ _ _ _ _ _ (x:=⟨a',p⟩) cz];have e:({ a' with bB:=[],got:=[] }:c?)=a':=by cases a';cases aK;cases hg;rfl
 dsimp only;rw[aK,hg,List.map_nil,hF,hF,hF];rw[e]
def ag8(i:Bool)(a:c?){b b':c?}{p:fk}(f o:List eN)(eT lb:List lz)(h:kG ⟨b,p⟩=⟨b',p⟩)(cz:¬b'.ph=8)(aK:b'.bB=[])(hg:b'.got=[]):
  nz (f8 i a b p f o eT lb) (!i)=f8 i a b' p f o eT lb:=by
 rw[<- Bw i a b,VH (!i) a f o lb eT h cz aK hg,Bw]
def axV(i:Bool){a a' b b':c?}{p:fk}(f o:List eN)(eT lb:List lz)(bu:kG ⟨a,p⟩=⟨a',p⟩)(Y:kG ⟨b,p⟩=⟨b',p⟩)(cz:¬a'.ph=8/\¬b'.ph=8)(aK:a'.bB=[]/\b'.bB=[])(hg:a'.got=[]/\b'.got=[]):
  nz (nz (f8 i a b p f o eT lb) false) true=f8 i a' b' p f o eT lb:=by
 cases i
 .rw[VH false b f o eT lb bu cz.1 aK.1 hg.1]
  exact ag8 false a' f o eT lb Y cz.2 aK.2 hg.2
 rw[show nz (f8 true a b p f o eT lb) false=_ from ag8 true a f o eT lb Y cz.2 aK.2 hg.2];exact VH true b' f o eT lb bu cz.1 aK.1 hg.1
def atE(i:Bool):lx (1-eq i)=!i:=by cases i<;>rfl
def amq(i:Bool)(a b:c?)(p:fk)(o:List eN)(eT lb:List lz){y:aG}(aL:o9 c b.hub)(ai:b.dt=[0,0,0,0])(cz:¬b.ph=8)(O:1<=x.length)(R:x.length<=1024)(hy:l6 ⟨b,p⟩ x=y)(Gi:¬y.e.ph=8):
  m? 1 (f8 i a b p [(1-eq i,(c:Int),fo x,())] o eT lb)=f8 i a { y.e with bB:=[],got:=[] } y.p (y.e.bB.map (i9 (!i))) (o++y.e.bB.map (i9 (!i))) eT (lb++y.e.got):=by
 unfold m?;rw[if_neg (by intro h;cases h)];show(lI _ 0 0).1=_;unfold lI;rw[if_neg (by show ¬ ¬((0:Int)<=0/\(0:Int)<1);decide)];dsimp only;rw[if_neg (by intro h;exact absurd h.1 bP)];show jQ (f8 i a b p [] o eT lb) (lx (1-eq i)) (q5 ((f8 i a b p [] o eT lb).at (lx (1-eq i))) (c:Int) (fo x))=_;rw[atE,W8,ai0 (s:=⟨b,p⟩) aL ai cz O R,hy,aak _ _ _ _ _ _ _ _ Gi];rfl
def anQ{k:V}{v:dr}(h:nX v.2.2.2.2.2.1):1<=(j8 k v).length/\(j8 k v).length<=1024:=by unfold j8;rw[cG,xx,AV];have O:=h.1;have R:=h.2;omega
def axU(i:Bool)(key:V)(f':Int)(aF:1<f')(h:eO)(p:fk):kG ⟨gZ i key f' h,p⟩=⟨gZ i key (f'-1) h,p⟩:=by
 have ht:mo (gZ i key f' h).ask=((1,1,f'-1,3,d7 h6,()),false,false):=by unfold mo;rw[ if_pos (show 1<(gZ i key f' h).ask.2.2.1 from aF)];rfl
 unfold kG;unfold uE;rw[ ht];rfl
def ag6(i:Bool)(key:V)(f':Int)(aF:1<f')(h:eO)(p:fk):kG ⟨g' i key f' h,p⟩=⟨g' i key (f'-1) h,p⟩:=by
 have ah:Ie ⟨g' i key f' h,p⟩=⟨g' i key f' h,p⟩:=rfl;have ht:mo (g' i key f' h).ask=((301,2,f'-1,3,d7 h0,()),false,false):=by unfold mo;rw[ if_pos (show 1<(g' i key f' h).ask.2.2.1 from aF)];rfl
 unfold kG;rw[if_neg (by rintro(q|q);exact absurd (show(3:Int)=7 from q) bP;exact absurd (show(3:Int)=8 from q) bP),if_pos ⟨by show(2:Int)<=3;decide,by show(3:Int)<=6;decide⟩,ah];unfold uE;rw[ ht];rfl
theorem ag7(i:Bool)(key:V)(h:eO)(p:fk):kG ⟨ga i key h,p⟩=⟨ga i key h,p⟩:=rfl
def VG(i:Bool)(key:V)(cJ:Int)(h:eO)(p:fk):kG ⟨nU i key cJ h,p⟩=⟨nU i key cJ h,p⟩:=by unfold kG;rw[if_neg (by rintro(q|q);exact absurd (show(3:Int)=7 from q) bP;exact absurd (show(3:Int)=8 from q) bP),if_pos ⟨by show(2:Int)<=3;decide,by show(3:Int)<=6;decide⟩,if_neg (by show ¬(1:Int)=4611686018427387904;decide)];rfl
def ha(c:Nat):eO:=(lr eP (c:Int)).1
def abY(h:c<4):o9 c (ha c)/\(lr eP (c:Int)).2=0:=by
 match c,h with
 |0,_=>exact⟨⟨bP,rfl,rfl,bP⟩,rfl⟩
 |1,_=>exact⟨⟨bP,rfl,rfl,bP⟩,rfl⟩
 |2,_=>exact⟨⟨bP,rfl,rfl,bP⟩,rfl⟩
 |3,_=>exact⟨⟨bP,rfl,rfl,bP⟩,rfl⟩
def aeK(i:Bool)(key:V)(h:c<4)(p:fk):(v2 ⟨sa i key,p⟩ (c:Int)).1=⟨fW i key (ha c),p⟩:=by exact(congrArg Prod.fst (if_neg (not_not_intro (abY h).2)))
def as4(key:V)(fO i:Bool)(h:c<4):gT (jt key fO) (12,0,(c:Int),0,[],())=(f8 i (fW i key (ha c)) (fW (!i) key (ha c)) (fO,[],false,()) [] [] [] [],0):=by
 have bb:jt key fO=f8 false (sa false key) (sa true key) (fO,[],false,()) [] [] [] []:=by
  unfold jt f8 two
  grind
 have aF:=by have:∀c<4,¬ak [false,false,false,false] c false=true:=bP;exact this c h
 have ah:gT (jt key fO) (12,0,(c:Int),0,[],())=AN (jt key fO) (c:Int):=rfl;rw[ah];unfold AN;rw[if_neg (by rintro(q|q)<;>exact absurd (show(0:Int)=8 from q) bP),if_neg (not_not_intro (⟨J,J⟩)),if_neg (by rintro(q|q)<;>exact aF q)];refine wK ?_ rfl;have e1:rC (jt key fO) false (c:Int)=f8 false (fW false key (ha c)) (sa true key) (fO,[],false,()) [] [] [] []:=by rw[bb];unfold rC;rw[Pp,aeK false key h,Li _ _ _ _ _ _ _ _ (by show ¬(0:Int)=8;decide)];rfl
 have aN:rC (f8 false (fW false key (ha c)) (sa true key) (fO,[],false,()) [] [] [] []) true (c:Int)=f8 false (fW false key (ha c)) (fW true key (ha c)) (fO,[],false,()) [] [] [] []:=by unfold rC;rw[show(f8 false (fW false key (ha c)) (sa true key) (fO,[],false,()) [] [] [] []).at true=⟨sa true key,_⟩ from W8 false _ _ _ _ _ _ _,aeK true key h];exact(aak false _ _ _ _ _ _ _ (x:=⟨fW true key (ha c),(fO,[],false,())⟩) (by show ¬(0:Int)=8;decide))
 rw[e1,aN];cases i
 .rfl
 exact(Bw false _ _ _ _ _ _ _).symm
def UE{a b a':c?}{p:fk}{o:List eN}{eT lb:List lz}{y:aG}{b':c?}(aL:o9 c b.hub)(ai:b.dt=[0,0,0,0])(cz:¬b.ph=8)(hx:1<=x.length/\x.length<=1024)(hy:l6 ⟨b,p⟩ x=y)(Gi:¬y.e.ph=8)
  (bu:kG ⟨a,y.p⟩=⟨a',y.p⟩) (Y:kG ⟨{ y.e with bB:=[],got:=[] },y.p⟩=⟨b',y.p⟩) (kd:¬a'.ph=8/\¬b'.ph=8) (aK:a'.bB=[]/\b'.bB=[]) (hg:a'.got=[]/\b'.got=[]) :
  jK (f8 i a b p [(1-eq i,(c:Int),fo x,())] o eT lb)=f8 i a' b' y.p (y.e.bB.map (i9 (!i))) (o++y.e.bB.map (i9 (!i))) eT (lb++y.e.got):=by
 unfold jK;rw[show(f8 i a b p [(1-eq i,(c:Int),fo x,())] o eT lb).ba.length=1 from rfl,amq i a b p o eT lb aL ai cz hx.1 hx.2 hy Gi];exact axV i _ _ _ _ bu Y kd aK hg
def ae9{a b b':c?}{p:fk}{o:List eN}{eT lb:List lz}{y:aG}{a':c?}(aL:o9 c a.hub)(ai:a.dt=[0,0,0,0])(cz:¬a.ph=8)(hx:1<=x.length/\x.length<=1024)(hy:l6 ⟨a,p⟩ x=y)(Gi:¬y.e.ph=8)
  (Y:kG ⟨b,y.p⟩=⟨b',y.p⟩) (bu:kG ⟨{ y.e with bB:=[],got:=[] },y.p⟩=⟨a',y.p⟩) (kd:¬a'.ph=8/\¬b'.ph=8) (aK:a'.bB=[]/\b'.bB=[]) (hg:a'.got=[]/\b'.got=[]) :
  jK (f8 i a b p [(1-eq (!i),(c:Int),fo x,())] o eT lb)=f8 i a' b' y.p (y.e.bB.map (i9 i)) (o++y.e.bB.map (i9 i)) (eT++y.e.got) lb:=by
 rw[<- Bw,UE (i:=!i) aL ai cz hx hy Gi Y bu kd.symm aK.symm hg.symm,Bw,Bool.not_not]
def aem(key:V)(fO i:Bool):fk:=ln (ln (ln (ln (fO,[],false,()) (gY key) (c3 (rN i key))) (gY key) (c3 (uG (!i) key))) (mP key) (c3 (wi i key))) (mP key) (c3 (wh (!i) key))
def K9(i:Bool)(c:Nat)(k:V)(v:dr):eN:=(1-eq i,(c:Int),fo (j8 k v),())
def adE(key:V)(i:Bool)(c:Nat):List eN:=[K9 i c (gY key) (rN i key),K9 (!i) c (gY key) (uG (!i) key),K9 i c (mP key) (wi i key),K9 (!i) c (mP key) (wh (!i) key)]
def LL(c:Nat):eO:=(eF (eF (ha c)).1).1
def as5(key:V)(fO i:Bool)(h:c<4):
  AZ (jt key fO) [(12,0,(c:Int),0,[],()),(1,eq i,0,0,[],()),(17,0,4,0,[],())]=(f8 i (nU i key 2 (LL c)) (nU (!i) key 0 (LL c)) (aem key fO i) [] (adE key i c) mG mG,[0,0,0]):=by
 have aL:=(abY h).1;have O:=(T? aL).2.2;have R:=(T? O).2.2

 have ax:∀p,gT (f8 i (fW i key (ha c)) (fW (!i) key (ha c)) p [] [] [] []) (1,eq i,0,0,[],())=(f8 i (gZ i key 8 (eF (ha c)).1) (fW (!i) key (ha c)) (ln p (gY key) (c3 (rN i key))) [(1-eq i,(c:Int),fo (j8 (gY key) (rN i key)),())] [(1-eq i,(c:Int),fo (j8 (gY key) (rN i key)),())] [] [],0):=by
  intro p;have d4:gT (f8 i (fW i key (ha c)) (fW (!i) key (ha c)) p [] [] [] []) (1,eq i,0,0,[],())=uX (f8 i (fW i key (ha c)) (fW (!i) key (ha c)) p [] [] [] []) (1,eq i,0,0,[],()):=rfl;rw[d4];unfold uX;rw[if_neg (by cases i<;>decide)];have bc:lx (eq i)=i:=by cases i<;>rfl
  dsimp only;rw[bc,Pp];have ed:tF ⟨fW i key (ha c),p⟩ (1,eq i,0,0,[],())=ru ⟨fW i key (ha c),p⟩:=rfl;rw[ed,auh i key aL p,Li _ _ _ _ _ _ _ _ (by show ¬(1:Int)=8;decide)];rfl
 have cP:=λ(v:dr) (k:V) (aC:nX v.2.2.2.2.2.1)=>anQ (k:=k) aC;show((oG 4 (gT (gT (jt key fO) (12,0,(c:Int),0,[],())).1 (1,eq i,0,0,[],())).1),[(gT (jt key fO) (12,0,(c:Int),0,[],())).2,(gT (gT (jt key fO) (12,0,(c:Int),0,[],())).1 (1,eq i,0,0,[],())).2,0])=_;rw[as4 key fO i h,ax];refine wK ?_ rfl;show jK (jK (jK (jK _)))=_;rw[UE (y:=_) (a':=gZ i key 7 (eF (ha c)).1) (b':=ga (!i) key (eF (ha c)).1) aL rfl (by show ¬(0:Int)=8;decide) (cP _ _ (pr xY)) (apK i key aL (NU _ _ _)) (by show ¬(2:Int)=8;decide) (axU i key 8 bP _ _) (ag7 (!i) key _ _) ⟨by show ¬(1:Int)=8;decide,by show ¬(2:Int)=8;decide⟩ ⟨rfl,rfl⟩ ⟨rfl,rfl⟩];show jK (jK (jK (f8 i (gZ i key 7 (eF (ha c)).1) (ga (!i) key (eF (ha c)).1) _ [(1-eq (!i),(c:Int),fo (j8 (gY key) (uG (!i) key)),())] _ [] [])))=_;rw[ae9 (y:=_) (a':=g' i key 7 (eF (eF (ha c)).1).1) (b':=ga (!i) key (eF (ha c)).1) O rfl (by show ¬(1:Int)=8;decide) (cP _ _ (pr J2)) (apH i key 7 O (NU _ _ _)) (by show ¬(3:Int)=8;decide) (ag7 (!i) key _ _) (ag6 i key 8 bP _ _) ⟨by show ¬(3:Int)=8;decide,by show ¬(2:Int)=8;decide⟩ ⟨rfl,rfl⟩ ⟨rfl,rfl⟩];show jK (jK (f8 i (g' i key 7 (eF (eF (ha c)).1).1) (ga (!i) key (eF (ha c)).1) _ [(1-eq i,(c:Int),fo (j8 (mP key) (wi i key)),())] _ mG []))=_;rw[UE (y:=_) (a':=g' i key 6 (eF (eF (ha c)).1).1) (b':=nU (!i) key 0 (eF (eF (ha c)).1).1) O rfl (by show ¬(2:Int)=8;decide) (cP _ _ (pr w4)) (apJ i key O (NU _ _ _)) (by show ¬(3:Int)=8;decide) (ag6 i key 7 bP _ _) (VG (!i) key 0 _ _) ⟨by show ¬(3:Int)=8;decide,by show ¬(3:Int)=8;decide⟩ ⟨rfl,rfl⟩ ⟨rfl,rfl⟩];show jK (f8 i (g' i key 6 (eF (eF (ha c)).1).1) (nU (!i) key 0 (eF (eF (ha c)).1).1) _ [(1-eq (!i),(c:Int),fo (j8 (mP key) (wh (!i) key)),())] _ mG mG)=_;rw[ae9 (y:=_) (a':=nU i key 2 (eF (eF (ha c)).1).1) (b':=nU (!i) key 0 (eF (eF (ha c)).1).1) R rfl (by show ¬(3:Int)=8;decide) (cP _ _ (pr J')) (apI i key 6 (NU _ _ _)) (by show ¬(3:Int)=8;decide) (VG (!i) key 0 _ _) (VG i key 2 _ _) ⟨by show ¬(3:Int)=8;decide,by show ¬(3:Int)=8;decide⟩ ⟨rfl,rfl⟩ ⟨rfl,rfl⟩];rfl
def axp:NM ()=some (Du,()):=by unfold NM;rw[UZ _ bP];rfl
def amR(i:Bool)(ap:key.length=32):Q0 (eq i,key,())=some ((sa i key).t,0,()):=by
 have h:(T (aJ (eq i) 0) (some (true,())) (T (aJ 1 (eq i)) (some (true,())) (some (a_ (ag (len key) 32),()))):Option (Bool×Unit))=some (false,()):=by have Y:a_ (ag (len key) 32)=false:=j7 (by show(key.length:Int)=32;omega);rw[Y];cases i<;>rfl
 refine(bJ h).trans ((((bJ axp).trans ?_)));rfl
def ayH(ap:key.length=32)(fO:Bool):Jh (key,fO,())=some ((jt key fO).t,0,()):=by
 unfold Jh;generalize hg:(λab=>(_:Option (aE (Int×Int×gw×Unit) (gw×Int×Unit))))=F;have cJ:∀(i:Bool) (e:Int) (W:gw),F (e,eq i,W,())=some (.nx (e,eq i+1,(cj W.1 (aa (eq i)) (sa i key).t,W.2),())):=by intro i e W;subst hg;refine bq (dj (TI i).2) ((bJ (amR i ap)).trans (((bn (Ha i) ?_))));cases i<;>rfl
 have f6:∀(e:Int) (W:gw),F (e,2,W,())=some (.ex 0 (e,2,W,())):=λe W=>by subst hg;exact b1 rfl
 refine(da ((ez (cJ false 0 _)).trans ((ez (cJ true 0 _)).trans (d_ (f6 _ _))))).trans ((?_));rfl
def atO(i:Bool)(ap:key.length<=1000):qG 0 (sa i key) where
 id:=by cases i;exact .inl rfl;exact .inr rfl
 key:=ap
 ph:=⟨by show(0:Int)<=0;decide,by show(0:Int)<=8;decide⟩
 store:=⟨MY 1,oy⟩
 own:=xN
 oth:=xN
 seq:=xN
 ring:=.inl rfl
 up:=rfl
 next:=⟨by show(0:Int)<=0;decide,by show(0:Int)<4;decide⟩
 bB:=bU _
 got:=bU _
 dt:=rfl
 win:=rfl
 feed:=rfl
 life:=rfl
 queue:=by show([]:List V).length<=8;simp
 top:=⟨by show(0:Int)<=0;decide,by show(0:Int)<=4611686018427387905;decide⟩
 fd:=abX
 askr:=.inl rfl
 outs:=λx hx=>by cases hx
def auf(ap:key.length<=1000)(fO:Bool):gS (jt key fO):=
 ⟨λi=>⟨0,atO i ap,bU _⟩,λ_=>rfl,λ_=>rfl,λf hf=>(by cases hf),λf hf=>(by cases hf)⟩
def ah0(ap:key.length<=1000)(fO:Bool):jM 0 0 (jt key fO):=by
 refine⟨auf ap fO,?_,?_⟩
 .have:h' (jt key fO)=0:=rfl
  omega
 have:em (jt key fO)=0:=rfl;omega
def jM.ZB{w:bW}(h:jM a r w)(bu:a<=41)(ah:r<=66):yJ w:=by
 have Y:=h.mono bu ah;have O:=Y.Dz;have R:=by have hL:=Y.L;omega
 exact⟨h.ok,J⟩
def Xn(l:List dy):Prop:=∀a∈l,a.2.2.2.2.1.length<=1200
def ut(a:dy):Nat:=if a.1=17 then(min a.2.2.1 100).toNat else 0
def H8:List dy->Nat
 |[]=>0
 |a::l=>ut a+H8 l
def axD{w:bW}{a:dy}(h:a.1=17):(gT w a).1=oG (ut a) w:=by
 unfold gT ut;rw[if_neg J,if_neg J,if_neg J,if_neg J,if_neg J,if_neg J,if_neg J,if_pos h];split
 .have:(min a.2.2.1 100).toNat=0:=J
  rw[this];rfl
 rfl
def ajh{w:bW}(h:jM a r w){x:dy}(Y:x.2.2.2.2.1.length<=1200):jM (a+1) (r+ut x) (gT w x).1:=by
 by_cases sn:x.1=17
 .rw[axD sn]
  exact(h.FD (ut x)).mono (qa a) (bU _)
 have:ut x=0:=if_neg sn;rw[this];exact h.aiE (axr h.ok x Y sn)
def anc{w:bW}(h:jM a r w)(bu:a<=41){x:dy}(ah:r+ut x<=66)(Y:x.2.2.2.2.1.length<=1200):yK w x:=by refine⟨(h.ZB bu J).nW,J,λsn j an => ?_⟩;have:ut x=(min x.2.2.1 100).toNat:=if_pos sn;exact(h.FD j).ZB bu J
def ZC:∀(l:List dy) {a r:Nat} {w:bW},jM a r w->a+l.length<=41->r+H8 l<=66->Xn l->OA w l/\jM (a+l.length) (r+H8 l) (AZ w l).1
 |[],a,r,w,h,_,_,_=>⟨trivial,h⟩
 |x::l,a,r,w,h,bu,ah,Y=>by
  rw[ew]at bu;have gD:r+(ut x+H8 l)<=66:=ah;have zE:=Y x (ES ..);obtain⟨bF,b3⟩:=ZC l (ajh h zE) J J (λy hy=>Y y (wH _ hy));refine⟨⟨anc h J J zE,bF⟩,?_⟩;show jM (a+(l.length+1)) (r+(ut x+H8 l)) (AZ (gT w x).1 l).1
  grind
def ZH(n:Int)(h:n<=9223372036854775807):(q7 n).length<=20:=by
 unfold q7;split
 .split<;>decide
 exact(K5 J).2
def DZ(l:List Int):V:=[32].intercalate (l.map q7)
def acp(l:List V)(h:∀w∈l,w.length<=20):([32].intercalate l).length<=21*l.length:=by
 induction l with
 |nil=>decide
 |cons a r ih=>
  cases r with
  |nil=>rw[List.intercalate_singleton];have:=h a (.head _);show _<=21*1;omega
  |cons b r =>rw[List.intercalate_cons_cons,cG,cG];have O:=ih (λw bb=>h w (.tail _ bb));have R:=h a (.head _);show a.length+1+_<=21*(r.length+1+1);have:(b::r).length=r.length+1:=rfl;omega
def awt(l:List Int)(hl:l.length<=1000)(h:∀n∈l,n<=9223372036854775807):Be (l,())=some (DZ l,()):=by
 unfold Be;dsimp only;generalize hg:(λ(ab:List V×Int×Unit)=>(_:Option (aE (List V×Int×Unit) (V×Unit))))=F;have key:∀(r d:List Int),d++r=l->bN F (d.map q7,(d.length:Int),())=some (.ex 0 (l.map q7,(l.length:Int),())):=by
  intro r;induction r with
  |nil =>intro d aF;rw[hF]at aF;subst aF;subst hg;exact d_ (b1 (c6 (by show ¬(d.length:Int)<(d.length:Int);omega)))
  |cons x r ih=>
   intro d aF;have bm:d.length<l.length:=by rw[<- aF,cG,ew];omega
   have hx:ak l (aa (d.length:Int)) 0=x:=by rw[show aa (d.length:Int)=d.length from rfl,nth_get bm];subst aF;rw[JI (bU _)];simp
   have hm:x∈l:=by rw[<- aF];exact wE _ (.head _)
   refine(ez ?_).trans (ih (d++[x]) (by rw[gt];exact aF));subst hg;refine bq (dj (by show(d.length:Int)<(l.length:Int);omega)) (bn (sA (show(0:Int)<=(d.length:Int) by omega) (by show(d.length:Int)<(l.length:Int);omega)) ?_);dsimp only;rw[hx,ann (h x hm),hj];dsimp only;refine bn (n? (by show((d.map q7).length+1)*32<=_;rw[ov];omega)) ?_;rw[fN (n:=(d++[x]).length) (a:=av (d.length:Int) 1) (by rw[cG];rfl) (by rw[cG];show _+1<=_;omega),E4];rfl
 refine(da (key l [] rfl)).trans ?_;have cr:=acp (l.map q7) (λw bb=>by obtain⟨n,aj,rfl⟩:=m1.1 bb;exact ZH n (h n aj));rw[ov]at cr;have an:NT (l.map q7,[32],())=some (DZ l,()):=if_pos ⟨by rw[ov];omega,eZ cr J⟩;show am (bZ 0 0) (ob (NT (l.map q7,[32],())) _)=_;rw[an];rfl
def vQ(p:Int):V:=ak [[111,102,102],[97,115,107,101,100],[116,111,108,100],[111,112,101,110],[114,101,107,101,121],[99,117,116,116,105,110,103],[99,108,111,115,105,110,103],[102,97,105,108,101,100],[100,97,114,107]] p.toNat []
def air{p:Int}(h:0<=p/\p<=8):ML (p,())=some (vQ p,()):=by rcases(by omega:p=0\/p=1\/p=2\/p=3\/p=4\/p=5\/p=6\/p=7\/p=8) with rfl|rfl|rfl|rfl|rfl|rfl|rfl|rfl|rfl<;>rfl
def atp{p:Int}(h:0<=p/\p<=8):3<=(vQ p).length/\(vQ p).length<=7:=by rcases(by omega:p=0\/p=1\/p=2\/p=3\/p=4\/p=5\/p=6\/p=7\/p=8) with rfl|rfl|rfl|rfl|rfl|rfl|rfl|rfl|rfl<;>decide
def vU(e:c?):List Int:=[e.own,e.oth,e.ring.1.1,e.day,(e.queue.length:Int)]
def US(e:c?):V:=vQ e.ph++[32]++DZ (vU e)++[10]
def aw6{e:c?}(h:qG n e)(aF:e.day<=9223372036854775807)(ah:e.ring.1.1<=9223372036854775807):Eu (e.t,())=some (US e,()):=by
 have aK:=h.own;have ht:=h.oth;have a2:=h.queue;unfold dC at aK ht;have aj:=atp h.ph;have abP:(DZ (vU e)).length<=105:=acp ((vU e).map q7) (λw bb=>by obtain⟨n,aj,rfl⟩:=m1.1 bb;refine ZH n ?_;simp only[vU,gE,yS,or_false]at aj;rcases aj with rfl|rfl|rfl|rfl|rfl<;>omega)
 have d9:=awt (vU e) (by show 5<=1000;omega) (λn aj=>by simp only[vU,gE,yS,or_false]at aj;rcases aj with rfl|rfl|rfl|rfl|rfl<;>omega)
 unfold Eu;refine bg (show ML (e.ph,())=_ from air h.ph) (bn (hN (by show(((vQ e.ph).length:Nat):Int)+((1:Nat):Int)<=140737488355328;omega)) ?_);refine bg (show Be (vU e,())=_ from d9) ?_;dsimp only;have e1:(bv (vQ e.ph) [32]).length=(vQ e.ph).length+1:=by simp[bv]
 have aN:(bv (bv (vQ e.ph) [32]) (DZ (vU e))).length=(vQ e.ph).length+1+(DZ (vU e)).length:=by simp[bv];omega
 refine bn (hN (by simp only[av,len,e1];omega)) (bn (hN (by simp only[av,len,aN,JX];omega)) rfl)
def TK(h:sL w hi):p2 (w,(hi:Int),())=some ((val w:Int),true,()):=by
 obtain⟨hf,aC,bj⟩:=h;unfold p2;rw[FQ,if_pos hf,hj];dsimp only;refine(bJ (bq rfl (ce (hN J)))).trans ?_;by_cases ao:w=[48]
 .exact(bJ (ce (A3 ao))).trans rfl
 have eC:=bj.resolve_left ao;refine(bJ (a1 (o5 ao) (dR (sA (BU 0) (by show(0:Int)<(w.length:Int);omega))))).trans ?_;have ai:a_ (ag (aI (ak w (aa 0) (u8 0))) (aI (u8 48)))=true:=by
  cases w with
  |nil=>exact absurd hf.1 bP
  |cons c r=>
   show a_ (ag (c.toNat:Int) 48)=true;rw[ct (λe=>eC ?_)];rfl;have:c.toNat=(48:UInt8).toNat:=by show c.toNat=48;omega
   rw[uN.1 this];rfl
 rw[ai];rfl
def TJ(h:¬sL w hi):∃q,p2 (w,(hi:Int),())=some (q,false,()):=by
 unfold p2;rw[FQ];by_cases hf:1<=w.length/\w.length<=18/\fY w
 .rw[if_pos hf,hj]
  dsimp only;refine⟨(val w:Int),(bJ (ce rfl)).trans ?_⟩;by_cases aC:val w<=hi
  .have bj:¬(w=[48]\/w.head?≠some 48):=λbj=>h ⟨hf,aC,bj⟩
   have ao:¬w=[48]:=λe=>bj (.inl e);have hh:w.head?=some 48:=k2 λe=>bj (.inr e);refine(bJ (bq (hN J) (a1 (o5 ao) (dR (sA (BU 0) (by show(0:Int)<(w.length:Int);omega)))))).trans ?_;cases w with
   |nil=>exact absurd hf.1 bP
   |cons c r =>cases lZ hh;rfl
  exact(bJ (b1 (oT J))).trans rfl
 rw[if_neg hf,hj];exact⟨0,rfl⟩
def ajY(h:zH w):Es (w,())=some (oj w,true,()):=by obtain⟨hh,R,af⟩:=h;unfold Es;rw[QQ w J,if_pos hh,hj];dsimp only;have e1:bE 2 (len w)=true:=hN (by show(2:Int)<=(w.length:Int);omega);have aN:bE (len w) 1800=true:=hN (by show(w.length:Int)<=1800;omega);rw[e1,aN];rfl
def ajW(hl:w.length<=1000000)(h:¬zH w):∃q,Es (w,())=some (q,false,()):=by
 unfold Es;rw[QQ w hl];by_cases hh:w.length%2=0/\zI w
 .rw[if_pos hh,hj]
  dsimp only;by_cases R:2<=w.length
  .have af:¬w.length<=1800:=λaf=>h ⟨hh,R,af⟩
   have e1:bE 2 (len w)=true:=hN (by show(2:Int)<=(w.length:Int);omega);have aN:bE (len w) 1800=false:=oT (by show ¬(w.length:Int)<=1800;omega);rw[e1,aN];exact⟨_,rfl⟩
  have e1:bE 2 (len w)=false:=oT (by show ¬(2:Int)<=(w.length:Int);omega);rw[e1];exact⟨_,rfl⟩
 rw[if_neg hh,hj];exact⟨_,rfl⟩
def ayF(a:dy)(r:UInt8)(hl:w.length<=1000000):
  (∀a',uH r w a=some a'->yo (a,(r.toNat:Int),w,())=some (a',true,()))/\(uH r w a=none->∃a',yo (a,(r.toNat:Int),w,())=some (a',false,())):=by
 unfold uH yo;have d':∀{c:UInt8},¬r=c->¬(r.toNat:Int)=(c.toNat:Int):=λh e=>h (uN.1 J);by_cases O:r=105
 .subst O
  simp only[if_pos];rw[ce (show ag ((105:UInt8).toNat:Int) 105=true from rfl)];by_cases h:sL w 1
  .rw[if_pos h,show p2 (w,1,())=_ from TK (hi:=1) h]
   exact⟨λa' e=>by cases e;rfl,λe=>by cases e⟩
  obtain⟨q,a2⟩:=TJ h;rw[if_neg h,show p2 (w,1,())=_ from a2];exact⟨λa' e=>(by cases e),λ_=>⟨_,rfl⟩⟩
 simp only[if_neg O];rw[b1 (show ag (r.toNat:Int) 105=false from ct (d' O))];by_cases R:r=110
 .subst R
  simp only[if_pos];rw[ce (show ag ((110:UInt8).toNat:Int) 110=true from rfl)];by_cases h:sL w 999999
  .rw[if_pos h,show p2 (w,999999,())=_ from TK (hi:=999999) h]
   exact⟨λa' e=>by cases e;rfl,λe=>by cases e⟩
  obtain⟨q,a2⟩:=TJ h;rw[if_neg h,show p2 (w,999999,())=_ from a2];exact⟨λa' e=>(by cases e),λ_=>⟨_,rfl⟩⟩
 simp only[if_neg R];rw[b1 (show ag (r.toNat:Int) 110=false from ct (d' R))];by_cases af:r=109
 .subst af
  simp only[if_pos];rw[ce (show ag ((109:UInt8).toNat:Int) 109=true from rfl)];by_cases h:sL w 999999
  .rw[if_pos h,show p2 (w,999999,())=_ from TK (hi:=999999) h]
   exact⟨λa' e=>by cases e;rfl,λe=>by cases e⟩
  obtain⟨q,a2⟩:=TJ h;rw[if_neg h,show p2 (w,999999,())=_ from a2];exact⟨λa' e=>(by cases e),λ_=>⟨_,rfl⟩⟩
 simp only[if_neg af];rw[b1 (show ag (r.toNat:Int) 109=false from ct (d' af))];by_cases h:zH w
 .rw[if_pos h,ajY h]
  exact⟨λa' e=>by cases e;rfl,λe=>by cases e⟩
 obtain⟨q,a2⟩:=ajW hl h;rw[if_neg h,a2];exact⟨λa' e=>(by cases e),λ_=>⟨_,rfl⟩⟩
def zc{α:Type}(w:V)(d:α)(g:Nat->V->α):Nat->List (V×V)->α
 |_,[]=>d
 |i,p::r=>T (seq w p.1) (g i p.2) (zc w d g (i+1) r)
def Qp{α:Type}{w:V}{d:α}{g:Nat->V->α}:∀{l:List (V×V)} {i k:Nat} {dG:V},qi w i l=some (k,dG)->zc w d g i l=g k dG
 |p::r,i,k,dG,h=>by
  unfold qi at h;by_cases e:w=p.1
  .rw[if_pos e]at h;cases h
   exact ce (A3 e)
  rw[if_neg e]at h;exact a1 (o5 e) (Qp h)
def Qo{α:Type}{w:V}{d:α}{g:Nat->V->α}:∀{l:List (V×V)} {i:Nat},qi w i l=none->zc w d g i l=d
 |[],_,_=>rfl
 |p::r,i,h=>by
  unfold qi at h;by_cases e:w=p.1
  .rw[if_pos e]at h;cases h
  rw[if_neg e]at h;exact a1 (o5 e) (Qo h)
def BD:dy:=(0,0,0,0,[],())
def MF(l:List V):Option (dy×Bool×Unit):=
 ob (T (ag (zc (ak l (aa 0) []) ((0:Int),([]:V),()) (λi dG=>((i:Int),dG,())) 0 pA).1 7) (some (ag (len l) 3,())) (some (false,()))) λa6:Bool×Unit=>
 ob (T a6.1 (some ([110,109],())) (some ((zc (ak l (aa 0) []) ((0:Int),([]:V),()) (λi dG=>((i:Int),dG,())) 0 pA).2.1,()))) λbR:V×Unit=>
 ob (T (a_ (zc (ak l (aa 0) []) false (λ_ _=>true) 0 pA)) (some (true,())) (some (a_ (ag (len l) (i64 (av 1 (len bR.1)))),()))) λbS:Bool×Unit=>
 T bS.1 (some (BD,false,()))
  (ci (bN (λx:Bool×dy×Nat×Unit=>
   T (i7 x.2.2.1 (aT bR.1))
    (am (aU (i64 (av (bf x.2.2.1) 1)) (len l))
     (ob (yo (x.2.1,bf (gA bR.1 x.2.2.1).1,ak l (aa (i64 (av (bf x.2.2.1) 1))) [],())) λa:dy×Bool×Unit=>
      T (a_ a.2.1) (some (aE.rt (BD,false,()))) (some (aE.nx (x.1,a.1,bQ x.2.2.1 (gA bR.1 x.2.2.1).2,())))))
    (some (aE.ex 0 (x.1,x.2.1,x.2.2.1,()))))
   (false,((zc (ak l (aa 0) []) ((0:Int),([]:V),()) (λi dG=>((i:Int),dG,())) 0 pA).1,0,0,0,[],()),0,()))
   (λ_:Bool×dy×Nat×Unit=>none)
   (λ(i:Nat) (a:Bool×dy×Nat×Unit)=>am (bZ i 0) (some (a.2.1,true,())))
   λr:dy×Bool×Unit=>some r)
def ais(x:V×Unit):p1 x=ob (Eh (x.1,[32],())) λa:List V×Unit=>am (aU 0 (len a.1)) (MF a.1):=by kernel_rfl
def ZT{w:V}:∀{l:List (V×V)} {i k:Nat} {dG:V},qi w i l=some (k,dG)->∃p∈l,p.2=dG
 |p::r,i,k,dG,h=>by
  unfold qi at h;by_cases e:w=p.1
  .rw[if_pos e]at h;cases h
   exact⟨p,.head _,rfl⟩
  rw[if_neg e]at h;obtain⟨q,a2,e⟩:=ZT h;exact⟨q,.tail _ a2,e⟩
def anI(h:qi w 0 pA=some (k,dG))(n:Nat):(∀r∈rQ k dG n,r.toNat<128)/\(rQ k dG n).length<=3:=by
 have bu:∀p∈pA,(∀r∈p.2,r.toNat<128)/\p.2.length<=3:=bP;obtain⟨p,hp,rfl⟩:=ZT h;unfold rQ;split
 .decide
 exact bu p hp
def V'(c:UInt8):∀s,(gN c s).length=s.count c+1/\∀w∈gN c s,w.length<=s.length
 |[]=>⟨rfl,λw bb=>by rw[pf.1 bb];exact bU _⟩
 |x::s=>by
  obtain⟨O,R⟩:=V' c s;unfold gN;by_cases e:x=c
  .rw[if_pos e,e,List.count_cons_self]
   exact⟨by rw[ew,O],λw bb=>by
    rcases gE.1 bb with rfl|bb
    .exact fI _
    exact yR (R w bb)⟩
  rw[if_neg e,List.count_cons_of_ne e];cases ai:gN c s with
  |nil=>exact absurd ai (ahE c s)
  |cons y t=>
   rw[ai]at O R;refine⟨O,λw bb => ?_⟩;rcases gE.1 bb with rfl|bb
   .exact Nat.succ_le_succ (R y (.head _))
   exact yR (R w (.tail _ bb))
def auE{l:List V}(hl:l.length=1+dG.length)(bb:∀r∈dG,r.toNat<128)(af:dG.length<=3)(Y:∀w∈l,w.length<=1000000)(F:Bool×dy×Nat×Unit->Option (aE (Bool×dy×Nat×Unit) (dy×Bool×Unit)))
 (dW:F=λx:Bool×dy×Nat×Unit=>
  T (i7 x.2.2.1 (aT dG))
   (am (aU (i64 (av (bf x.2.2.1) 1)) (len l))
    (ob (yo (x.2.1,bf (gA dG x.2.2.1).1,ak l (aa (i64 (av (bf x.2.2.1) 1))) [],())) λa:dy×Bool×Unit=>
     T (a_ a.2.1) (some (aE.rt (BD,false,()))) (some (aE.nx (x.1,a.1,bQ x.2.2.1 (gA dG x.2.2.1).2,())))))
   (some (aE.ex 0 (x.1,x.2.1,x.2.2.1,())))) :
 ∀(n i:Nat) (a:dy),i+n=dG.length->(∀a',xg (dG.drop i) (l.tail.drop i) a=some a'->bN F (false,a,i,())=some (.ex 0 (false,a',dG.length,())))/\(xg (dG.drop i) (l.tail.drop i) a=none->bN F (false,a,i,())=some (.rt (BD,false,()))):=by
 intro n;induction n with
 |zero =>intro i a h;have hi:i=dG.length:=J;subst hi;rw[OJ];refine⟨λa' e => ?_,λe=>by cases e⟩;cases e;subst dW;exact d_ (b1 (Mo (Jx _)))
 |succ n ih=>
  intro i a h;have hi:i<dG.length:=J;have abr:i+1<l.length:=J;have ht:i<l.tail.length:=by rw[List.length_tail];omega
  have e1:dG.drop i=dG[i]::dG.drop (i+1):=m2 hi;have aN:l.tail.drop i=l[i+1]::l.tail.drop (i+1):=by rw[m2 ht,List.getElem_tail]
  have hx:i64 (av (bf i) 1)=((i+1:Nat):Int):=fN rfl J;have aF:=QI hi (bb _ (mu hi));have aj:ak l (aa ((i+1:Nat):Int)) []=l[i+1]:=nth_get abr;obtain⟨cf,cO⟩:=ayF a dG[i] (Y _ (mu abr));have ac:F (false,a,i,())=ob (yo (a,(dG[i].toNat:Int),l[i+1],())) λa:dy×Bool×Unit=>
   T (a_ a.2.1) (some (aE.rt (BD,false,()))) (some (aE.nx (false,a.1,i+1,()))):=by
   subst dW;refine bq (Ao hi) ?_;dsimp only;rw[hx,aF,aj];exact dR (sA J (by show((i+1:Nat):Int)<(l.length:Int);omega))
  rw[e1,aN];show(∀a',(uH dG[i] l[i+1] a).bind (xg (dG.drop (i+1)) (l.tail.drop (i+1)))=some a'->_)/\((uH dG[i] l[i+1] a).bind (xg (dG.drop (i+1)) (l.tail.drop (i+1)))=none->_);cases aC:uH dG[i] l[i+1] a with
  |none =>obtain⟨a',bu⟩:=cO aC;refine⟨λa' e=>(by cases e),λ_=>pO ?_⟩;rw[ac,bu];rfl
  |some b=>
   have abW:F (false,a,i,())=some (.nx (false,b,i+1,())):=by rw[ac,cf b aC];rfl
   obtain⟨sz,G_⟩:=ih (i+1) b J;exact⟨λa' e=>(ez abW).trans (sz a' e),λe=>(ez abW).trans (G_ e)⟩
def auF{l:List V}(aj:l.length<=1000001)(Y:∀w∈l,w.length<=1000000):
  (∀a,AE l=some a->MF l=some (a,true,()))/\(AE l=none->MF l=some (BD,false,())):=by
 have ao:ak l (aa 0) []=l.headD []:=by cases l<;>rfl
 unfold AE MF;rw[ao];cases hf:qi (l.headD []) 0 pA with
 |none =>rw[Qo hf,Qo hf];exact⟨λa e=>(by cases e),λ_=>rfl⟩
 |some p=>
  obtain⟨k,dG⟩:=p;rw[Qp hf,Qp hf];dsimp only;obtain⟨bb,af⟩:=anI hf l.length;have ap:(T (ag (k:Int) 7) (some (ag (len l) 3,())) (some (false,())):Option (Bool×Unit))=some (decide (k=7/\l.length=3),()):=by
   by_cases dN:k=7
   .rw[ce (cK J)]
    by_cases hl:l.length=3
    .rw[cK (show len l=3 by show(l.length:Int)=3;omega),decide_eq_true ⟨dN,hl⟩]
    rw[ct (show ¬len l=3 by show ¬(l.length:Int)=3;omega),decide_eq_false (λh=>hl h.2)]
   rw[b1 (ct J),decide_eq_false (λh=>dN h.1)]
  have xt:(T (decide (k=7/\l.length=3)) (some (([110,109]:V),())) (some (dG,())):Option (V×Unit))=some (rQ k dG l.length,()):=by
   unfold rQ;by_cases h:k=7/\l.length=3
   .rw[decide_eq_true h,if_pos h];rfl
   rw[decide_eq_false h,if_neg h];rfl
  rw[ap,hj,xt,hj];dsimp only;generalize rQ k dG l.length=u at bb af;have cr:i64 (av 1 (len u))=((1+u.length:Nat):Int):=fN (by show(1:Int)+(u.length:Int)=_;omega) J;rw[cr];by_cases hl:l.length=1+u.length
  .rw[if_pos hl,cK (show len l=((1+u.length:Nat):Int) by show(l.length:Int)=_;omega)]
   obtain⟨bG,b_⟩:=auE hl bb af Y _ rfl u.length 0 ((k:Int),0,0,0,[],()) J;exact⟨λa e=>(da (bG a e)).trans rfl,λe=>(da (b_ e)).trans rfl⟩
  rw[if_neg hl,ct (show ¬len l=((1+u.length:Nat):Int) by show ¬(l.length:Int)=_;omega)];exact⟨λa e=>(by cases e),λ_=>rfl⟩
def yZ(line:V)(hl:line.length<=1000000):
  (∀a,mS line=some a->p1 (line,())=some (a,true,()))/\(mS line=none->p1 (line,())=some (BD,false,())):=by
 obtain⟨O,R⟩:=V' 32 line;have ai:line.count 32<=line.length:=List.count_le_length;rw[ais,WM 32 line hl,hj];rw[dR (sA (BU 0) (by show(0:Int)<((gN 32 line).length:Int);omega))];exact auF J (λw bb=>eZ (R w bb) hl)
def BX(c:Nat)(i:Bool):List dy:=[(12,0,(c:Int),0,[],()),(1,eq i,0,0,[],()),(17,0,4,0,[],())]
def xI(key:V)(fO i:Bool)(c:Nat):bW:=f8 i (nU i key 2 (LL c)) (nU (!i) key 0 (LL c)) (aem key fO i) [] (adE key i c) mG mG
def ajO(c:Nat)(i:Bool):Xn (BX c i):=by
 intro a bu;simp only[BX,gE,yS,or_false]at bu
 grind
def aww(ap:key.length=32)(fO i:Bool)(h:c<4):OA (jt key fO) (BX c i)/\jM 3 4 (xI key fO i c)/\AZ (jt key fO) (BX c i)=(xI key fO i c,[0,0,0]):=by obtain⟨O,R⟩:=ZC (BX c i) (ah0 (show key.length<=1000 by omega) fO) (show 0+3<=41 by omega) (show 0+(0+(0+(4+0)))<=66 by omega) (ajO c i);have hm:AZ (jt key fO) (BX c i)=(xI key fO i c,[0,0,0]):=as5 key fO i h;rw[hm]at R;exact⟨O,R,hm⟩
def oA:V:=List.replicate 32 (u8 0)
def aiB:oA.length=32:=oy
def EZ:gw->List V->gw->V->Prop
 |W,[],W',o=>W'=W/\o=[]
 |W,l::hc,W',o=>if l=[]then EZ W hc W' o else ∃(X:gw) (a di:V),qR (W,l,())=some (X,a,())/\EZ X hc W' di/\o=a++di
def ait{s o:V}{W W':gw}(hl:s.length<=1000000)(ac:Er ()=some (W,()))(h:EZ W (gN 10 s) W' o)(aK:o.length<=140737488355328):I7 (s,())=some (o,()):=by
 have ai:s.count 10<=s.length:=List.count_le_length;have aj:=(V' 10 s).1;unfold I7;rw[ac,hj];dsimp only;rw[WM 10 s hl,hj];dsimp only;generalize gN 10 s=L at h aj;generalize hg:(λ(x:V×Int×gw×Unit)=>(_:Option (aE (V×Int×gw×Unit) (V×Unit))))=F;have key:∀(r d:List V) (W:gw) (p q:V),d++r=L->EZ W r W' q->p++q=o->bN F (p,(d.length:Int),W,())=some (.ex 0 (o,(L.length:Int),W',())):=by
  intro r;induction r with
  |nil =>intro d W p q aF ah hp;obtain⟨rfl,rfl⟩:=ah;rw[hF]at aF hp;subst aF;subst hp;subst hg;exact d_ (b1 (c6 (by show ¬(d.length:Int)<(d.length:Int);omega)))
  |cons x r ih=>
   intro d W p q aF ah hp;have bm:d.length<L.length:=by rw[<- aF,cG,ew];omega
   have hx:ak L (aa (d.length:Int)) []=x:=by rw[show aa (d.length:Int)=d.length from rfl,nth_get bm];subst aF;rw[JI (bU _)];simp
   have hi:i64 (av (d.length:Int) 1)=(((d++[x]).length:Nat):Int):=fN (by rw[cG];rfl) (by rw[cG];show _+1<=_;omega);have tV:F (p,(d.length:Int),W,())=T (seq x []) (some (aE.nx (p,(((d++[x]).length:Nat):Int),W,()))) (ob (qR (W,x,())) λa:gw×V×Unit=>am (bE (av (len p) (len a.2.1)) 140737488355328) (some (aE.nx (bv p a.2.1,(((d++[x]).length:Nat):Int),a.1,())))):=by subst hg;refine bq (dj (by show(d.length:Int)<(L.length:Int);omega)) (bn (sA (show(0:Int)<=(d.length:Int) by omega) (by show(d.length:Int)<(L.length:Int);omega)) ?_);dsimp only;rw[hi,show aO UInt8=[] from rfl,hx]
   unfold EZ at ah;by_cases ao:x=[]
   .rw[if_pos ao]at ah
    exact(ez (tV.trans (ce (A3 ao)))).trans (ih (d++[x]) W p q (by rw[gt];exact aF) ah hp)
   rw[if_neg ao]at ah;obtain⟨X,a,di,O,R,af⟩:=ah;subst af;have iB:p.length+a.length<=140737488355328:=by rw[<- hp,cG,cG]at aK;omega
   refine(ez (tV.trans (a1 (o5 ao) (by rw[O,hj];exact dR (hN (by show(p.length:Int)+(a.length:Int)<=_;omega)))))).trans (ih (d++[x]) X (p++a) di (by rw[gt];exact aF) R (by rw[gt];exact hp))
 rw[show(aO UInt8,(0:Int),W,())=(([]:V),(([]:List V).length:Int),W,()) from rfl];exact(da (key L [] W [] o rfl h rfl)).trans rfl
def J_:List V:=[[115,104,111,119,32,48],[115,104,111,119,32,49],[108,111,103,32,48],[108,111,103,32,49],[110,101,116]]
def Zb{W:gw}(h:line∉J_):qR (W,line,())=ob (p1 (line,())) λa:dy×Bool×Unit=>
 T (a_ a.2.1) (some (W,[119,104,97,116,10],()))
  (ob (Ji (W,a.1,())) λa:gw×Int×Unit=>
   T (a_ (ag a.2.1 0))
    (ob (Et (a.2.1,())) λa6:V×Unit=>
     am (bE (av (len [101,114,114,111,114,32]) (len a6.1)) 140737488355328)
      (am (bE (av (len (bv [101,114,114,111,114,32] a6.1)) (len [10])) 140737488355328)
      (some (a.1,bv (bv [101,114,114,111,114,32] a6.1) [10],()))))
    (some (a.1,[111,107,10],()))):=by
 simp only[J_,gE,yS,or_false,not_or]at h;obtain⟨O,R,af,aq,a8⟩:=h;unfold qR;exact a1 (o5 O) (a1 (o5 R) (a1 (o5 af) (a1 (o5 aq) (b1 (o5 a8)))))
def QR{w:bW}{a:dy}(aj:line∉J_)(hl:line.length<=1000000)(hp:mS line=some a)(hf:yK w a)(ao:(gT w a).2=0):qR (w.t,line,())=some ((gT w a).1.t,[111,107,10],()):=by rw[Zb aj,(yZ line hl).1 a hp,hj];refine a1 rfl ?_;dsimp only;rw[aiu hf,hj,ao];rfl
def amv{w:bW}(aj:line∉J_)(hl:line.length<=1000000)(hp:mS line=none):qR (w.t,line,())=some (w.t,[119,104,97,116,10],()):=by rw[Zb aj,(yZ line hl).2 hp,hj];rfl
def agK:Er ()=some ((jt oA false).t,()):=by unfold Er;exact bn rfl ((bJ (show Jh (bO (aa 32) (u8 0),false,())=_ from ayH (oy (n:=32)) false)).trans rfl)
def amt{w:bW}(h:qG n (w.e true))(aF:(w.e true).day<=9223372036854775807)(ah:(w.e true).ring.1.1<=9223372036854775807):qR (w.t,[115,104,111,119,32,49],())=some (w.t,US (w.e true),()):=by unfold qR;refine a1 rfl (bq rfl (bn rfl ((bJ (show Eu ((w.e true).t,())=_ from aw6 h aF ah)).trans rfl)))
def auw:mS [114,97,105,115,101,32,48]=some (12,0,0,0,[],()):=by kernel_rfl
def aux:mS [114,97,105,115,101,32,48,48]=none:=by kernel_rfl
def auv:mS [111,110,32,48]=some (1,0,0,0,[],()):=by kernel_rfl
def aus:mS [99,97,108,109,32,52]=some (17,0,4,0,[],()):=by kernel_rfl
def aut:mS [103,105,118,101,32,51,32,52]=some (7,0,3,4,[],()):=by kernel_rfl
def auu:mS [103,105,118,101]=none:=by kernel_rfl
def aw7:Hu ()=some (true,()):=by
 obtain⟨dW,aB,jl⟩:=aww aiB false false (c:=0) J;have f1:yK (jt oA false) (12,0,0,0,[],()):=dW.1;have f2:yK (gT (jt oA false) (12,0,0,0,[],())).1 (1,0,0,0,[],()):=dW.2.1;have f3:yK (gT (gT (jt oA false) (12,0,0,0,[],())).1 (1,0,0,0,[],())).1 (17,0,4,0,[],()):=dW.2.2.1;have aaU:((gT (gT (gT (jt oA false) (12,0,0,0,[],())).1 (1,0,0,0,[],())).1 (17,0,4,0,[],())).1,[(gT (jt oA false) (12,0,0,0,[],())).2,(gT (gT (jt oA false) (12,0,0,0,[],())).1 (1,0,0,0,[],())).2,(gT (gT (gT (jt oA false) (12,0,0,0,[],())).1 (1,0,0,0,[],())).1 (17,0,4,0,[],())).2])=(xI oA false false 0,[0,0,0]):=jl;have d4:=congrArg Prod.fst aaU;have e1:=oz (congrArg Prod.snd aaU);have aN:=oz e1.2;have dJ:=oz aN.2;have k?:=QR (line:=[114,97,105,115,101,32,48]) bP bP auw f1 e1.1;have mB:=QR (line:=[111,110,32,48]) bP bP auv f2 aN.1;have w1:=QR (line:=[99,97,108,109,32,52]) bP bP aus f3 dJ.1;have KC:=amv (w:=(gT (jt oA false) (12,0,0,0,[],())).1) (line:=[114,97,105,115,101,32,48,48]) bP bP aux;dsimp only at d4;rw[d4]at w1;have ac:qR ((xI oA false false 0).t,[115,104,111,119,32,49],())=some ((xI oA false false 0).t,[111,112,101,110,32,49,32,49,32,49,32,48,32,48,10],()):=by obtain⟨n,aj⟩:=aB.ok.s true;rw[amt aj.e (by show(0:Int)<=_;omega) (by show(1:Int)<=_;omega)];exact congrArg (λz=>some (_,z,())) (by decide +kernel:US ((xI oA false false 0).e true)=_)
 have jS:I7 ([114,97,105,115,101,32,48,10,111,110,32,48,10,99,97,108,109,32,52,10,115,104,111,119,32,49,10],())=some ([111,107,10,111,107,10,111,107,10,111,112,101,110,32,49,32,49,32,49,32,48,32,48,10],()):=by refine ait (W':=(xI oA false false 0).t) bP agK ?_ bP;rw[show gN 10 [114,97,105,115,101,32,48,10,111,110,32,48,10,99,97,108,109,32,52,10,115,104,111,119,32,49,10]=[[114,97,105,115,101,32,48],[111,110,32,48],[99,97,108,109,32,52],[115,104,111,119,32,49],[]] by decide +kernel];refine(if_neg bP).mpr ⟨_,_,_,k?,(if_neg bP).mpr ⟨_,_,_,mB,(if_neg bP).mpr ⟨_,_,_,w1,(if_neg bP).mpr ⟨_,_,_,ac,(if_pos rfl).mpr ⟨rfl,rfl⟩,rfl⟩,rfl⟩,rfl⟩,rfl⟩
 unfold Hu;rw[agK,hj];dsimp only;rw[k?,hj];dsimp only;rw[KC,hj];dsimp only;rw[(yZ _ bP).1 _ aut,hj];dsimp only;rw[(yZ _ bP).2 auu,hj];dsimp only;rw[jS,hj];rfl
end Yp
namespace Yp
open Go
set_option maxRecDepth 100000
set_option maxHeartbeats 2000000
def aes(n:Nat)(h:n<=999999):vJ ((n:Int),())=some (pz n,()):=by
 unfold vJ;dsimp only;generalize hg:(λ(x:V×Int×Unit)=>(_:Option (aE (V×Int×Unit) (V×Unit))))=F;have de:∀m:Nat,m<10->u8 (i64 (av 48 (m:Int)))=dI m:=bP;have key:∀(k m:Nat) (dc:V),m<10^(k+1)->m<=999999->dc.length+k<=30->∃(d:Nat) (r4:V),d<10/\r4.length<=30/\bN F (dc,(m:Int),())=some (.ex 0 (r4,(d:Int),()))/\dI d::r4=qh k m++dc:=by
  intro k;induction k with
  |zero =>intro m dc hm _ bu;refine⟨m,dc,J,J,?_,by rw[K4 J];rfl⟩;subst hg;exact d_ (b1 (c6 (by show ¬(9:Int)<(m:Int);omega)))
  |succ k ih=>
   intro m dc hm Y bu;by_cases kO:m<10
   .refine⟨m,dc,J,J,?_,by rw[K4 kO];rfl⟩
    subst hg;exact d_ (b1 (c6 (by show ¬(9:Int)<(m:Int);omega)))
   obtain⟨d,r4,O,R,af,aq⟩:=ih (m/10) (dI (m%10)::dc) (by rw[qW]at hm;omega) J (by rw[ew];omega);refine⟨d,r4,O,R,(ez ?_).trans af,?_⟩
   .subst hg
    have e1:dh (m:Int) 10=((m%10:Nat):Int):=vB;have aN:i64 (fe (m:Int) 10)=((m/10:Nat):Int):=z1 (a:=m) (b:=10) J;refine bq (dj (by show(9:Int)<(m:Int);omega)) ?_;dsimp only;rw[e1,aN,de _ J];exact dR (hN (by show((1:Nat):Int)+(dc.length:Int)<=_;omega))
   rw[aq,show qh (k+1) m=qh k (m/10)++[dI (m%10)] from if_neg kO,gt];rfl
 obtain⟨d,r4,O,R,af,aq⟩:=key 19 n [] J h bh;refine(da af).trans ?_;show am (bZ 0 0) (am (bE (av (len [u8 (i64 (av 48 (d:Int)))]) (len r4)) 140737488355328) (some (bv [u8 (i64 (av 48 (d:Int)))] r4,())))=_;rw[de d O];refine bn rfl (bn (hN (by show((1:Nat):Int)+(r4.length:Int)<=_;omega)) ?_);rw[show bv [dI d] r4=dI d::r4 from rfl,aq,hF];rfl
def mY:List V:=[[105,98],[105],[105],[105],[105,98],[105,110],[105],[110,109],[110],[110],[110,109,98],[105,110,98],[110],[110],[105],[105],[105,110],[110]]
def Dw:List V:=[[115,101,110,100],[111,110],[111,102,102],[101,99,104,111],[107,101,121],[100,97,121],[116,105,99,107],[103,105,118,101],[100,114,111,112],[97,103,97,105,110],[115,112,111,105,108],[105,110,106,101,99,116],[114,97,105,115,101],[99,117,116],[99,114,97,115,104],[98,111,111,116],[97,114,109],[99,97,108,109]]
def axM:∀k,k<18->qi (ak Dw k []) 0 pA=some (k,(ak pA k ([],[])).2)/\(ak Dw k []).count 32=0/\(ak Dw k []).length<=6/\rQ k (ak pA k ([],[])).2 (1+(ak mY k []).length)=ak mY k [] /\
  (rQ k (ak pA k ([],[])).2 (2+(ak mY k []).length)).length≠1+(ak mY k []).length/\(ak mY k []).length<=3/\∀r∈ak mY k [],r=105\/r=110\/r=109\/r=98:=iL
def Fk(aj:n<=999999)(hm:m<=999999)(Y:b.length<=900)(r:UInt8):(hX i n m b r).length<=1800:=by
 unfold hX;split
 .cases i<;>decide
 split
 .have:=(K5 (n:=n) J).2;omega
 split
 .have:=(K5 (n:=m) J).2;omega
 rw[nh];omega
def acO{f:UInt8->V}(hf:∀r,(f r).length<=1800):∀(rs:V) (a:V),(oU a (rs.map f)).length<=a.length+1801*rs.length
 |[],a=>bU _
 |r::rs,a=>by have h:=acO hf rs (a++32::f r);have:=hf r;rw[cG,ew]at h;show(oU (a++32::f r) (rs.map f)).length<=a.length+1801*(rs.length+1);omega
def ate(c:UInt8):dh (i64 (aI c)) 18=((c.toNat%18:Nat):Int):=by have h:=c.toNat_lt;rw[show aI c=(c.toNat:Int) from rfl,rj J];exact vB
def ac6(c:UInt32):i64 (aS (u32 (dh (aS c) (aS (u32 1000000)))))=((c.toNat%1000000:Nat):Int):=by have h:=c.toNat_lt;rw[show dh (aS c) (aS (u32 1000000))=((c.toNat%1000000:Nat):Int) from vB,show aS (u32 ((c.toNat%1000000:Nat):Int))=((c.toNat%1000000:Nat):Int) from ?_,rj J];show((u32 ((c.toNat%1000000:Nat):Int)).toNat:Int)=_;rw[Eo J]
section
variable {k:Nat} {i:Bool} {n m:Nat} {b:V} (aj:n<=999999) (hm:m<=999999) (Y:1<=b.length/\b.length<=900)
def IR(rs:V)(i:Bool)(N M:Int)(b:V)(x:V×Int×dy×Unit):Option (aE (V×Int×dy×Unit) (Bool×Unit)):=
 T (aJ x.2.1 (len rs))
  (am (aU x.2.1 (len rs))
   (T (ag (aI (ak rs (aa x.2.1) (u8 0))) (aI (u8 105)))
    (am (bE (av (len x.1) (len [32,48])) 140737488355328)
     (T i
      (am (ca 0 (i64 (bi (len (bv x.1 [32,48])) 1)) (len (bv x.1 [32,48])))
       (am (bE (av (len (sub (bv x.1 [32,48]) 0 (i64 (bi (len (bv x.1 [32,48])) 1)))) (len [49])) 140737488355328)
        (some (aE.nx (bv (sub (bv x.1 [32,48]) 0 (i64 (bi (len (bv x.1 [32,48])) 1))) [49],i64 (av x.2.1 1),(x.2.2.1.1,1,x.2.2.1.2.2),())))))
      (some (aE.nx (bv x.1 [32,48],i64 (av x.2.1 1),x.2.2.1,())))))
    (T (ag (aI (ak rs (aa x.2.1) (u8 0))) (aI (u8 110)))
     (am (bE (av (len x.1) (len [32])) 140737488355328)
      (ob (vJ (N,())) λa:V×Unit=>am (bE (av (len (bv x.1 [32])) (len a.1)) 140737488355328) (some (aE.nx (bv (bv x.1 [32]) a.1,i64 (av x.2.1 1),(x.2.2.1.1,x.2.2.1.2.1,N,x.2.2.1.2.2.2),())))))
     (T (ag (aI (ak rs (aa x.2.1) (u8 0))) (aI (u8 109)))
      (am (bE (av (len x.1) (len [32])) 140737488355328)
       (ob (vJ (M,())) λa:V×Unit=>am (bE (av (len (bv x.1 [32])) (len a.1)) 140737488355328) (some (aE.nx (bv (bv x.1 [32]) a.1,i64 (av x.2.1 1),(x.2.2.1.1,x.2.2.1.2.1,x.2.2.1.2.2.1,M,x.2.2.1.2.2.2.2),())))))
      (T (ag (aI (ak rs (aa x.2.1) (u8 0))) (aI (u8 98)))
       (am (bE (av (len x.1) (len [32])) 140737488355328)
        (ob (DU (b,())) λa:V×Unit=>am (bE (av (len (bv x.1 [32])) (len a.1)) 140737488355328) (some (aE.nx (bv (bv x.1 [32]) a.1,i64 (av x.2.1 1),(x.2.2.1.1,x.2.2.1.2.1,x.2.2.1.2.2.1,x.2.2.1.2.2.2.1,b,x.2.2.1.2.2.2.2.2),())))))
       (some (aE.nx (x.1,i64 (av x.2.1 1),x.2.2.1,()))))))))
  (some (aE.ex 0 (x.1,x.2.1,x.2.2.1,())))
include aj hm Y in
def axC{rs:V}{j:Nat}{l:V}{a:dy}(h:j<rs.length)(af:rs.length<=3)(hl:l.length<=10000)(bu:i=false->a.2.1=0)(ah:rs[j]=105\/rs[j]=110\/rs[j]=109\/rs[j]=98):
  IR rs i (n:Int) (m:Int) b (l,(j:Int),a,())=some (.nx (l++32::hX i n m b rs[j],((j+1:Nat):Int),sP i n m b a rs[j],())):=by
 have hx:ak rs (aa (j:Int)) (u8 0)=rs[j]:=nth_get h;have an:i64 (av (j:Int) 1)=((j+1:Nat):Int):=fN rfl J;have kz:=Y.2;unfold IR;refine bq (dj (by show(j:Int)<(rs.length:Int);omega)) (bn (sA (show(0:Int)<=(j:Int) by omega) (by show(j:Int)<(rs.length:Int);omega)) ?_);dsimp only;rw[hx,an];generalize rs[j]=r at ah;have eW:=Fk (i:=i) aj hm kz 110;have f7:=Fk (i:=i) aj hm kz 109;have oS:=Fk (i:=i) aj hm kz 98;rw[show hX i n m b 110=pz n from rfl]at eW;rw[show hX i n m b 109=pz m from rfl]at f7;rw[show hX i n m b 98=eV b from rfl]at oS;have bp:∀w:V,bv (bv l [32]) w=l++32::w:=λw=>by simp[bv]
 have c1:bE (av (len l) (len [32])) 140737488355328=true:=hN (by simp only[av,len,bv,cG,ew,gu];omega);have c2:∀w:V,w.length<=1800->bE (av (len (bv l [32])) (len w)) 140737488355328=true:=λw bb=>hN (by simp only[av,len,bv,cG,ew,gu];omega);rcases ah with rfl|rfl|rfl|rfl
 .refine bq rfl (bn (hN (by simp only[av,len,bv,cG,ew,gu];omega)) ?_)
  cases i
  .have ao:=bu rfl
   rw[show sP false n m b a 105=a from by show(a.1,(0:Int),a.2.2)=a;rw[<- ao]];rfl
  have e1:i64 (bi (len (bv l [32,48])) 1)=((l.length+1:Nat):Int):=by rw[show len (bv l [32,48])=((l.length+2:Nat):Int) by simp[len,bv],hM]<;>simp only[bi]<;>omega
  have aN:sub (bv l [32,48]) 0 ((l.length+1:Nat):Int)=l++[32]:=by unfold sub;rw[show((l.length+1:Nat):Int).toNat-(0:Int).toNat=l.length+1 from rfl,show(0:Int).toNat=0 from rfl,nD];show(l++[32,48]).take (l.length+1)=_;rw[show l++[32,48]=(l++[32])++[48] by simp,WT bh,hS bh]
  refine bq rfl ?_;rw[e1,aN];refine bn (rl J J (by simp only[av,len,bv,cG,ew,gu];omega)) (bn (hN (by simp only[av,len,bv,cG,ew,gu];omega)) ?_);rw[show bv (l++[32]) [49]=l++32::[49] by simp[bv]];rfl
 .refine a1 rfl (bq rfl (bn c1 ?_))
  rw[aes n aj,hj];exact bn (c2 _ eW) (by rw[bp];rfl)
 .refine a1 rfl (a1 rfl (bq rfl (bn c1 ?_)))
  rw[aes m hm,hj];exact bn (c2 _ f7) (by rw[bp];rfl)
 refine a1 rfl (a1 rfl (a1 rfl (bq rfl (bn c1 ?_))));rw[avQ b J,hj];exact bn (c2 _ oS) (by rw[bp];rfl)
def avd(a:dy)(bu:i=false->a.2.1=0)(r:UInt8):i=false->(sP i n m b a r).2.1=0:=by
 intro h;subst h;unfold sP;split
 .rfl
 split
 .exact bu rfl
 split
 .exact bu rfl
 exact bu rfl
include aj hm Y in
def agL{rs:V}(af:rs.length<=3)(ah:∀r∈rs,r=105\/r=110\/r=109\/r=98):∀(q p:V) (l:V) (a:dy),p++q=rs->l.length+1801*q.length<=10000->(i=false->a.2.1=0) ->
  bN (IR rs i (n:Int) (m:Int) b) (l,(p.length:Int),a,())=some (.ex 0 (oU l (q.map (hX i n m b)),(rs.length:Int),q.foldl (sP i n m b) a,()))
 |[],p,l,a,hp,_,_=>by rw[hF]at hp;subst hp;refine d_ ?_;unfold IR;exact b1 (c6 (by show ¬(p.length:Int)<(p.length:Int);omega))
 |r::q,p,l,a,hp,hl,bu=>by
  have bm:p.length<rs.length:=by rw[<- hp,cG,ew];omega
  have hx:rs[p.length]=r:=by subst hp;rw[JI (bU _)];simp
  rw[ew]at hl;have ac:=axC (i:=i) aj hm Y (l:=l) (a:=a) bm af J bu (by rw[hx];exact ah r (by rw[<- hp];exact wE _ (.head _)));rw[hx]at ac;have azm:=Fk (i:=i) aj hm Y.2 r;have abv:=agL af ah q (p++[r]) (l++32::hX i n m b r) (sP i n m b a r) (by rw[gt];exact hp) (by rw[cG,ew];omega) (avd a bu r);rw[show(((p++[r]).length:Nat):Int)=((p.length+1:Nat):Int) by rw[cG];rfl]at abv;exact(ez ac).trans abv
end
def U8(k:Int)(i:Bool)(N M:Int)(b:V)(x:V×Int×dy×Unit):Option (aE (V×Int×dy×Unit) (Bool×Unit)):=
 T (aJ x.2.1 (len (ak mY (aa k) [])))
  (am (aU k (len mY)) (am (aU x.2.1 (len (ak mY (aa k) [])))
   (T (ag (aI (ak (ak mY (aa k) []) (aa x.2.1) (u8 0))) (aI (u8 105)))
    (am (bE (av (len x.1) (len [32,48])) 140737488355328)
     (T i
      (am (ca 0 (i64 (bi (len (bv x.1 [32,48])) 1)) (len (bv x.1 [32,48])))
       (am (bE (av (len (sub (bv x.1 [32,48]) 0 (i64 (bi (len (bv x.1 [32,48])) 1)))) (len [49])) 140737488355328)
        (some (aE.nx (bv (sub (bv x.1 [32,48]) 0 (i64 (bi (len (bv x.1 [32,48])) 1))) [49],i64 (av x.2.1 1),(x.2.2.1.1,1,x.2.2.1.2.2),())))))
      (some (aE.nx (bv x.1 [32,48],i64 (av x.2.1 1),x.2.2.1,())))))
    (T (ag (aI (ak (ak mY (aa k) []) (aa x.2.1) (u8 0))) (aI (u8 110)))
     (am (bE (av (len x.1) (len [32])) 140737488355328)
      (ob (vJ (N,())) λa:V×Unit=>am (bE (av (len (bv x.1 [32])) (len a.1)) 140737488355328) (some (aE.nx (bv (bv x.1 [32]) a.1,i64 (av x.2.1 1),(x.2.2.1.1,x.2.2.1.2.1,N,x.2.2.1.2.2.2),())))))
     (T (ag (aI (ak (ak mY (aa k) []) (aa x.2.1) (u8 0))) (aI (u8 109)))
      (am (bE (av (len x.1) (len [32])) 140737488355328)
       (ob (vJ (M,())) λa:V×Unit=>am (bE (av (len (bv x.1 [32])) (len a.1)) 140737488355328) (some (aE.nx (bv (bv x.1 [32]) a.1,i64 (av x.2.1 1),(x.2.2.1.1,x.2.2.1.2.1,x.2.2.1.2.2.1,M,x.2.2.1.2.2.2.2),())))))
      (T (ag (aI (ak (ak mY (aa k) []) (aa x.2.1) (u8 0))) (aI (u8 98)))
       (am (bE (av (len x.1) (len [32])) 140737488355328)
        (ob (DU (b,())) λa:V×Unit=>am (bE (av (len (bv x.1 [32])) (len a.1)) 140737488355328) (some (aE.nx (bv (bv x.1 [32]) a.1,i64 (av x.2.1 1),(x.2.2.1.1,x.2.2.1.2.1,x.2.2.1.2.2.1,x.2.2.1.2.2.2.1,b,x.2.2.1.2.2.2.2.2),())))))
       (some (aE.nx (x.1,i64 (av x.2.1 1),x.2.2.1,())))))))))
  (some (aE.ex 0 (x.1,x.2.1,x.2.2.1,())))
def KP(up:Bool)(bR:V×Int×dy×Unit):Option (Bool×Unit):=
 ob (p1 (bR.1,())) λbS:dy×Bool×Unit=>
 am (bE (av (len bR.1) (len [32])) 140737488355328) (ob (p1 (bv bR.1 [32],())) λdm:dy×Bool×Unit=>
 am (bE (av (len [32]) (len bR.1)) 140737488355328) (ob (p1 (bv [32] bR.1,())) λj5:dy×Bool×Unit=>
 ob (T up (T bS.2.1 (T (a_ dm.2.1) (T (a_ j5.2.1) (T (ag bS.1.1 bR.2.2.1.1) (T (ag bS.1.2.1 bR.2.2.1.2.1) (T (ag bS.1.2.2.1 bR.2.2.1.2.2.1) (T (ag bS.1.2.2.2.1 bR.2.2.1.2.2.2.1)
  (ob (M0 (bS.1.2.2.2.2.1,bR.2.2.1.2.2.2.2.1,())) λa:Bool×Unit=>some (a.1,()))
  (some (false,()))) (some (false,()))) (some (false,()))) (some (false,()))) (some (false,()))) (some (false,()))) (some (false,()))) (some (false,())))
  λa:Bool×Unit=>some (a.1,())))
def aiw(x:(UInt8×Bool×UInt32×UInt32×V×Unit)×Unit):L9 x=ob (Hu ()) λa:Bool×Unit=>
 ob (T (aJ (len x.1.2.2.2.2.1) 1) (some (true,())) (some (aJ 900 (len x.1.2.2.2.2.1),()))) λa6:Bool×Unit=>
  T a6.1 (some (a.1,()))
   (am (aU (dh (i64 (aI x.1.1)) 18) (len Dw))
    (ci (bN (λab=>am (aU (dh (i64 (aI x.1.1)) 18) (len mY)) (U8 (dh (i64 (aI x.1.1)) 18) x.1.2.1 (i64 (aS (u32 (dh (aS x.1.2.2.1) (aS (u32 1000000)))))) (i64 (aS (u32 (dh (aS x.1.2.2.2.1) (aS (u32 1000000)))))) x.1.2.2.2.2.1 ab))
     (ak Dw (aa (dh (i64 (aI x.1.1)) 18)) [],0,(dh (i64 (aI x.1.1)) 18,0,0,0,[],()),()))
     (λ_:V×Int×dy×Unit=>none)
     (λ(i:Nat) (bR:V×Int×dy×Unit)=>am (bZ i 0) (KP a.1 bR))
     λr:Bool×Unit=>some r)):=by kernel_rfl
def axB(ap:k<18)(i:Bool)(N M:Int)(b:V):(λab=>am (aU (k:Int) (len mY)) (U8 (k:Int) i N M b ab))=IR (ak mY k []) i N M b:=by funext x;have h:aU (k:Int) (len mY)=true:=sA J (by show(k:Int)<18;omega);rw[dR h];unfold U8;rw[h];rfl
def amL{a:dy}{l:V}(hl:l.length<=10000)(O:mS l=some a)(R:mS (l++[32])=none)(n:Int):KP true (l,n,a,())=some (true,()):=by unfold KP;dsimp only;rw[(yZ l J).1 a O,hj];refine bn (hN (by simp only[av,len,ew,gu];omega)) ?_;rw[show bv l [32]=l++[32] from rfl,(yZ (l++[32]) (by rw[cG];show l.length+1<=_;omega)).2 R,hj];refine bn (hN (by simp only[av,len,ew,gu];omega)) ?_;rw[show bv [32] l=32::l from rfl,(yZ (32::l) (by rw[ew];omega)).2 (auG l),hj];dsimp only;refine(bJ (bq rfl (bq rfl (bq rfl (bq rfl (bq (cK rfl) (bq (cK rfl) (bq (cK rfl) (ce (cK rfl)))))))))).trans ?_;rw[avR,A3 rfl];rfl
def ToolActs'(t_:UInt8)(i:Bool)(n m:UInt32)(b:V):L9 ((t_,i,n,m,b,()),())=some (true,()):=by
 rw[aiw,aw7,hj];dsimp only;by_cases hb1:b.length<1
 .rw[ce (dj (show len b<1 by show(b.length:Int)<1;omega)),hj];rfl
 rw[b1 (c6 (show ¬len b<1 by show ¬(b.length:Int)<1;omega)),hj];by_cases hb2:900<b.length
 .rw[dj (show 900<len b by show(900:Int)<(b.length:Int);omega)];rfl
 rw[c6 (show ¬900<len b by show ¬(900:Int)<(b.length:Int);omega)];refine a1 rfl ?_;rw[ate,ac6,ac6];have ap:t_.toNat%18<18:=td _ J;have aj:n.toNat%1000000<=999999:=J;have hm:m.toNat%1000000<=999999:=J;generalize t_.toNat%18=k at ap;generalize n.toNat%1000000=n at aj;generalize m.toNat%1000000=m at hm;obtain⟨dT,ev,t3,t4,t5,yi,agS⟩:=axM k ap;refine bn (sA J (by show(k:Int)<18;omega)) ?_;rw[axB ap,show aa (k:Int)=k from rfl];have Y:1<=b.length/\b.length<=900:=J;generalize ak mY k []=rs at t4 t5 yi agS;generalize ak Dw k []=nm at dT ev t3;have hL:=agL (i:=i) aj hm Y yi agS rs [] nm ((k:Int),0,0,0,[],()) rfl J (λ_=>rfl);refine(da hL).trans ?_;have cr:=acO (f:=hX i n m b) (Fk aj hm Y.2) rs nm;refine(show ci _ _ _ _=am (bZ 0 0) (KP true (oU nm (rs.map (hX i n m b)),(rs.length:Int),rs.foldl (sP i n m b) ((k:Int),0,0,0,[],()),())) from ?_).trans ?_
 .show ci (some (aE.ex 0 _)) _ _ _=_
  rfl
 rw[amL J (auH aj hm Y ev dT rs t4) (auI aj hm ev dT rs t5)];rfl
def aiv(x:hZ [.pair (.int .u8) (.pair .bool (.pair (.int .u32) (.pair (.int .u32) (.pair (.sl (.int .u8)) .unit))))])(h:My [.pair (.int .u8) (.pair .bool (.pair (.int .u32) (.pair (.int .u32) (.pair (.sl (.int .u8)) .unit))))] x):L9 x=some (true,()):=
 ToolActs' x.1.1 x.1.2.1 x.1.2.2.1 x.1.2.2.2.1 x.1.2.2.2.2.1
end Yp