/- A part of the proof of the statements of this seat: plain functions, and laws on them. No condition of its own. -/
import Derived.Test.YtifmobcdnjcpiaaGreatDoorQ1
import Derived.KernelRfl
set_option linter.unusedVariables false
set_option linter.unusedSimpArgs false
set_option linter.defProp false
noncomputable section
open Go Yp
variable {i:Bool}{q:List V}{a c g hi i0 k m mQ n r t':Nat}{α:Type}{b dG key line w x:V}
namespace Yp
open Go
set_option maxRecDepth 100000
set_option maxHeartbeats 2000000
def tu(s:aG)(q:d1)(x:Int):aG:=
 if(s.e.ph=1/\s.e.id=0)\/s.e.ph=7\/s.e.ph=8 then gy s 3
 else if jT s.e.ph/\s.e.oth=x then(o5 s x (ki q 0)).1
 else if x<=s.e.seen then gy s 3
 else if(fY s).2.2=0 then(o5 (vJ (kB (fY s).1 2) (fY s).2.1 x) x (ki q 0)).1
 else if(fY s).2.2=11 then(fY s).1
 else gy (fY s).1 3
def aw6{s:aG}(ac:bA n s)(aj:n<=999999000000){x:Int}(mO:dC x)(q:d1):Nz (s.t,q,x,())=some ((tu s q x).t,()):=by
 unfold Nz tu;rw[show s.t.1.2.2.1=s.e.ph from rfl,Ix];by_cases ao:(s.e.ph=1/\s.e.id=0)\/s.e.ph=7\/s.e.ph=8
 .rw[if_pos ao]
  refine bg (a:=(true,())) ?_ (bq rfl rfl);by_cases O:s.e.ph=1
  .refine bq (cJ O) ?_
   have R:s.e.id=0:=J;exact ce (cJ R)
  refine a1 (cr O) ?_;by_cases dN:s.e.ph=7
  .exact ce (cJ dN)
  refine a1 (cr dN) ?_;rw[cJ J]
 rw[if_neg ao];refine bg (a:=(false,())) ?_ (a1 rfl ?_)
 .have dN:¬s.e.ph=7:=J
  have cx:¬s.e.ph=8:=J;have go:T (ag s.e.ph 7) (some (true,())) (some (ag s.e.ph 8,()))=some (false,()):=by rw[cr dN,cr cx];rfl
  by_cases O:s.e.ph=1
  .have R:¬s.e.id=0:=J
   exact bq (cJ O) (a1 (cr R) go)
  exact a1 (cr O) go
 rw[HY];refine bg rfl ?_;by_cases hl:jT s.e.ph/\s.e.oth=x
 .rw[if_pos hl]
  refine bg (a:=(true,())) ?_ (bq rfl ?_)
  .rw[cD hl.1]
   refine bq rfl ?_;rw[show ag s.t.1.2.2.2.2.2.2.1 x=true from cJ hl.2]
  exact(bJ (agh ac J q x)).trans rfl
 rw[if_neg hl];refine bg (a:=(false,())) ?_ (a1 rfl ?_)
 .by_cases O:jT s.e.ph
  .rw[cD O]
   refine bq rfl ?_;rw[show ag s.t.1.2.2.2.2.2.2.1 x=false from cr (λh=>hl ⟨O,h⟩)]
  rw[cC O];rfl
 by_cases LF:x<=s.e.seen
 .rw[if_pos LF]
  exact bq (hN (LF)) rfl
 rw[if_neg LF];refine a1 (oS (LF)) ?_;rw[agd ac J];by_cases aA:(fY s).2.2=0
 .rw[if_pos aA]
  have O:=As (Dy ac) (p:=2) J J;have R:=Mu O (QY aA) mO;refine bq (cJ aA) ?_;rw[D8 (Dy ac) J];refine bg rfl ?_;rw[agf O];exact(bJ (agh R J q x)).trans rfl
 rw[if_neg aA];refine a1 (cr aA) ?_;by_cases pB:(fY s).2.2=11
 .rw[if_pos pB]
  exact ce (cJ pB)
 rw[if_neg pB];refine a1 (cr pB) ?_;rw[Ix];rfl
def HM{s:aG}(h:bA n s)(i:Nat):bA n (gy s i):=⟨{ h.e with dt:=by show(cj _ _ _).length=4;unfold cj;rw[ko];exact h.e.dt },h.p⟩
def atK{s:aG}(h:bA n s)(q:d1){x:Int}(hx:dC x):bA (n+3) (tu s q x):=by
 have aA:=Dy h;unfold tu;split
 .exact df (HM h _) J
 split
 .exact df (Mw h _ _) J
 split
 .exact df (HM h _) J
 split
 .rename_i ao
  exact df (Mw (Mu (As aA (p:=2) J J) (QY ao) hx) _ _) J
 split
 .exact df aA J
 exact df (HM aA _) J
def qq(s:aG)(v:dr)(q:d1):aG:=
 let x:=ak v.2.2.1 (aa (1-s.e.id)) 0
 let y:=ak v.2.2.1 (aa s.e.id) 0
 if ¬q.2.1=1\/x<1 then gy s 3
 else if q.1=true/\y=0 then tu s q x
 else if q.1=false/\q.2.2.2.1=0/\s.e.ph=1/\y=s.e.own/\qC s.e.ask q.2.1 q.2.2.1 then kW (Av s x) (hY 301)
 else gy s 3
def aw2{s:aG}(ac:bA n s)(aj:n<=999999000000){v:dr}(aC:∀i:Nat,dC (ak v.2.2.1 i 0))(q:d1):Is (s.t,v,q,())=some ((qq s v q).t,()):=by
 have hid:=ac.e.id;unfold Is qq;rw[show s.t.1.1=s.e.id from rfl,ar3 hid];refine bn cM (bn cM ?_);have hx:=aC (aa (1-s.e.id));have hy:=aC (aa s.e.id);generalize ak v.2.2.1 (aa (1-s.e.id)) 0=x at hx ⊢;generalize ak v.2.2.1 (aa s.e.id) 0=y at hy ⊢;by_cases O:¬q.2.1=1\/x<1
 .rw[if_pos O,Ix]
  refine bg (a:=(true,())) ?_ (bq rfl rfl);by_cases ai:q.2.1=1
  .refine a1 (j6 ai) ?_
   rw[dj J]
  exact ce (lF ai)
 rw[if_neg O];have ai:q.2.1=1:=J;refine bg (a:=(false,())) ?_ (a1 rfl ?_)
 .refine a1 (j6 ai) ?_
  rw[c3 J]
 by_cases R:q.1=true/\y=0
 .rw[if_pos R]
  refine bg (a:=(true,())) ?_ (bq rfl ?_)
  .rw[R.1,cJ R.2];rfl
  exact(bJ (aw6 ac aj hx q)).trans rfl
 rw[if_neg R];refine bg (a:=(false,())) ?_ (a1 rfl ?_)
 .cases a2:q.1
  .rfl
  rw[cr (λh=>R ⟨a2,h⟩)];rfl
 rw[ show s.t.1.2.2.2.2.2.2.2.2.2.2.2.1=s.e.ask from rfl,J2];by_cases af:q.1=false/\q.2.2.2.1=0/\s.e.ph=1/\y=s.e.own/\qC s.e.ask q.2.1 q.2.2.1
 .rw[if_pos af]
  obtain⟨cG,cQ,a3,a4,a5⟩:=af;refine bg (a:=(true,())) ?_ (bq rfl ?_)
  .refine bq (by rw[cG];rfl) (bq (cJ cQ) (bq (cJ a3) (bq (cJ a4) ?_)))
   rw[cD a5];rfl
  exact(bJ (aw5 ac aj a3 hx)).trans rfl
 rw[if_neg af,Ix];refine bg (a:=(false,())) ?_ (a1 rfl rfl);by_cases cG:q.1=false
 .refine bq (by rw[cG];rfl) ?_
  by_cases cQ:q.2.2.2.1=0
  .refine bq (cJ cQ) ?_
   by_cases a3:s.e.ph=1
   .refine bq (cJ a3) ?_
    by_cases a4:y=s.e.own
    .refine bq (cJ a4) ?_
     rw[cC (λh=>af ⟨cG,cQ,a3,a4,h⟩)];rfl
    exact b1 (cr a4)
   exact b1 (cr a3)
  exact b1 (cr cQ)
 refine b1 ?_;cases a2:q.1
 .grind
 rfl
def atV{s:aG}(h:bA n s){v:dr}(aC:∀i:Nat,dC (ak v.2.2.1 i 0))(q:d1):bA (n+3) (qq s v q):=by
 unfold qq;dsimp only;split
 .exact df (HM h _) J
 split
 .exact atK h q (aC _)
 split
 .exact df (At (adP h (aC _)) _) J
 exact df (HM h _) J
def avU{l:List b0}:∀{last:Int},last<=128->fF last l=true->(l.length:Int)<=128-last:=by
 induction l with
 |nil=>intro last h _;simp;omega
 |cons v l ih=>
  intro last h ah;have O:=v6 ah v (EL ..);have R:=Q8 O.2;have af:fF v.1 l=true:=by
   unfold fF at ah
   grind
  grind
def H8{m:M}(h:jI m=true):m.2.1.length<=128/\w9 m:=by have ah:=(pV.1 h).1;have hl:=avU J ah;exact⟨J,J,λv aC=>by have:=Q_ (v6 ah v aC).2;omega⟩
def FC(m:Int):Int:=if ig m then m/100 else 0
def yn(m:Int):Prop:=FC m=1\/FC m=2\/FC m=4
instance (m:Int):Decidable (yn m):=by unfold yn;infer_instance
def aaa(m:M):F6 (m,())=some (D (yn m.1),()):=by
 unfold F6 yn;rw[show G_ (m.1,())=some (FC m.1,()) from arY m.1];refine bg rfl ?_;generalize FC m.1=c;by_cases O:c=1
 .subst O;rw[cD (.inl rfl)];rfl
 by_cases R:c=2
 .subst R;rw[cD (.inr (.inl rfl))];rfl
 by_cases aq:c=4
 .subst aq;rw[cD (.inr (.inr rfl))];rfl
 rw[cC J,cr O,cr R,cr aq];rfl
def uw(m:M):Prop:=(hI 39 m.2.1).2.1=true/\(hI 39 m.2.1).1=[57,49]
instance (m:M):Decidable (uw m):=by unfold uw;infer_instance
def awD(g:V×Bool×Unit):(ob (T g.2.1 (some (seq g.1 [57,49],())) (some (false,()))) λ(a:Bool×Unit)=>(some (a.1,()):Option (Bool×Unit)))=some (D (g.2.1=true/\g.1=[57,49]),()):=by
 obtain⟨b,e,⟨⟩⟩:=g;cases e
 .rw[cC (λh=>Bool.false_ne_true h.1)];rfl
 refine bg rfl ?_;by_cases h:b=[57,49]
 .rw[cD ⟨rfl,h⟩,AZ h]
 rw[cC (λx=>h x.2),o4 h]
def Z?{m:M}(ah:fF 0 m.2.1=true)(hl:m.2.1.length<=1000000):Cz (m,())=some (D (uw m),()):=by unfold Cz uw;rw[SS _ _ hl,Rn ah];exact bg rfl (awD _)
def s1(m:M)(day:Int):M:=(m.1,v_ m.2.1 (15,dd day 6,()),())
def Pl(b:V)(day:Int):Prop:=day<0\/999999<day\/¬(fy b).2.1=0\/¬yn (fy b).1.1\/uw (fy b).1
instance (b:V) (day:Int):Decidable (Pl b day):=by unfold Pl;infer_instance
def oe(b:V)(day:Int):V×Int:=
 if Pl b day then([],1) else if 900<(gO (s1 (fy b).1 day)).length then([],4) else(gO (s1 (fy b).1 day),0)
def ZQ(day:Int):gB 15 (dd day 6)=true:=se (no:=15) (w:=6) Ra J
def axp{m:M}(h:jI m=true)(day:Int):jI (s1 m day)=true:=by have O:=pV.1 h;exact pV.2 ⟨awO (x:=(15,dd day 6,())) (ZQ day) J O.1,O.2⟩
def Ue(h:(fy b).2.1=0):jI (fy b).1=true/\gO (fy b).1=b:=by exact MR (b:=b) (wI rfl (wI h rfl))
def aw8{day:Int}(ao:0<=day)(O:day<=999999):mD (day,6,())=some (dd day 6,0,())/\MU (day,6,())=some (dd day 6,0,()):=by rw[FI _ _ J,aeM _ _ J,if_pos ⟨J,J,ao,by show day<10^6;omega⟩];exact⟨rfl,rfl⟩
def axq{m:M}(hm:jI m=true)(day:Int){e:Int}:(T (aJ 900 (len (gO (s1 m day)))) (some (aO UInt8,4,())) (some (gO (s1 m day),0,())):Option (V×Int×Unit))=some ((if 900<(gO (s1 m day)).length then(([]:V),(4:Int)) else(gO (s1 m day),0)).1,(if 900<(gO (s1 m day)).length then(([]:V),(4:Int)) else(gO (s1 m day),0)).2,()):=by
 by_cases h:900<(gO (s1 m day)).length
 .rw[if_pos h];exact ce cM
 rw[if_neg h];exact b1 cM
def anN(b:V)(day:Int)(Y:b.length<=1000000):K? (b,day,())=some ((oe b day).1,(oe b day).2,()):=by
 unfold K? oe;rw[ST _ Y];refine bg rfl ?_;dsimp only;by_cases O:day<0
 .rw[if_pos (.inl O)]
  exact bg (ce cM) rfl
 by_cases R:999999<day
 .rw[if_pos (.inr (.inl R))]
  exact bg (a1 cM (ce cM)) rfl
 by_cases af:(fy b).2.1=0
 .obtain⟨ah,bb⟩:=Ue af
  obtain⟨hl,hf⟩:=H8 ah;have CV:=(pV.1 ah).1;rw[aaa,Z? CV J];by_cases aq:yn (fy b).1.1
  .by_cases a8:uw (fy b).1
   .rw[if_pos (.inr (.inr (.inr (.inr a8)))),cD aq,cD a8]
    exact bg (a1 cM (a1 cM (a1 (j6 af) rfl))) rfl
   rw[if_neg (by rintro(h|h|h|h|h)<;>first|exact O h|exact R h|exact h af|exact h aq|exact a8 h),cD aq,cC a8];refine bg (a:=(false,())) (a1 cM (a1 cM (a1 (j6 af) rfl))) (a1 rfl ?_);rw[(aw8 J J).1];refine bg rfl (bn rfl ?_);rw[show jS ((fy b).1,15,(dd day 6,(0:Int),()).1,())=some (s1 (fy b).1 day,0,()) by rw[LU _ _ _ J (by rw[na];omega)];unfold D2;rw[ if_pos (ZQ day),ayr CV];rfl]
   refine bg rfl ?_;have ac:=axp ah day;rw[SU _ (H8 ac).2,if_pos ac];exact bg rfl (axq ah day (e:=0))
  rw[if_pos (.inr (.inr (.inr (.inl aq)))),cC aq];exact bg (a1 cM (a1 cM (a1 (j6 af) rfl))) rfl
 rw[if_pos (.inr (.inr (.inl af)))];exact bg (a1 cM (a1 cM (ce (lF af)))) rfl
def FR(s:aG)(k n:Int)(b:V):aG:=⟨{ s.e with got:=s.e.got++[(k,gs s.e,n,b,())] },s.p⟩
def TK{s:aG}(h:bA n s)(k q:Int)(b:V):bA (n+1) (FR s k q b):=by
 refine⟨{ Dx h.e (qa n) with got := ?_ },yN h.p⟩;have:=h.e.got;show(s.e.got++[(k,gs s.e,q,b,())]).length<=n+1
 grind
def Z'{s:aG}(ac:bA n s)(aj:n<=1000000000000)(k q:Int)(b:V):F5 (s.t,k,q,b,())=some ((FR s k q b).t,()):=by have hg:=ac.e.got;unfold F5;rw[show s.t.1.2.2.2.2.2.2.2.2.2.2.2.2.2.2.2.2.2.1=s.e.got from rfl,Ku];rw[show nn (s.t.1,())=_ from xz s.e];refine bn (by simp only[go_sem];simp;omega) ?_;rfl
def DF(s:aG)(q:List V):aG:=⟨{ s.e with queue:=q },s.p⟩
def Mv{s:aG}(h:bA n s)(a2:q.length<=8):bA n (DF s q):=⟨{ h.e with queue:=a2 },h.p⟩
def xU:Nat->aG->aG
 |0,s=>s
 |n+1,s=>match s.e.queue with
  |[]=>s
  |b::q=>if(gj s b).2=0 then xU n (DF (gj s b).1 q) else s
def oX(s:aG):aG:=xU s.e.queue.length s
def auY{f:e6×Unit->Option (aE (e6×Unit) (e6×Unit))}
  (ao:∀s n,bA n s->n<=1000000000000->s.e.queue=[]->f (s.t,())=some (.ex 0 (s.t,())))
  (O:∀s n b q,bA n s->n<=1000000000000->s.e.queue=b::q->(gj s b).2=0->f (s.t,())=some (.nx ((DF (gj s b).1 q).t,())))
  (R:∀s n b q,bA n s->n<=1000000000000->s.e.queue=b::q->¬(gj s b).2=0->f (s.t,())=some (.ex 0 (s.t,()))\/f (s.t,())=some (.rt (s.t,()))) :
  ∀k (s:aG) n,bA n s->n+k<=1000000000000->s.e.queue.length=k ->
   ci (bN f (s.t,())) (λ(_:e6×Unit)=>none) (λ(i:Nat) (a:e6×Unit)=>am (bZ i 0) (some (a.1,()))) (λ(r:e6×Unit)=>some r)=some ((xU k s).t,()):=by
 intro k;induction k with
 |zero =>intro s n ac aj ap;exact(c' (d_ (ao s n ac J (k3.1 ap)))).trans rfl
 |succ k ih=>
  intro s n ac aj ap;obtain⟨b,q,a2⟩:∃b q,s.e.queue=b::q:=by
   cases h:s.e.queue with
   |nil=>rw[h]at ap;cases ap
   |cons b q=>exact⟨b,q,rfl⟩
  have hl:q.length=k:=by rw[a2,ew]at ap;omega
  have iU:=ac.e.queue;unfold xU;rw[a2];dsimp only;by_cases h:(gj s b).2=0
  .rw[if_pos h]
   exact(c' (ez (O s n b q ac J a2 h))).trans (ih _ (n+1) (Mv (qI ac b) J) J hl)
  rw[if_neg h];rcases R s n b q ac J a2 h with bL|bL
  .exact(c' (d_ bL)).trans rfl
  exact(c' (pN bL)).trans rfl
def axI(h:q=[]):MP (q,())=some ([],[],false,()):=by subst h;rfl
def agQ{r:List V}(h:q=b::r)(hl:q.length<=1000000):MP (q,())=some (b,r,true,()):=by subst h;have GJ:r.length+1<=1000000:=hl;refine a1 rfl (bn (by simp only[go_sem];simp only[ew];omega) (bn (by simp only[go_sem];simp;omega) ?_));rw[show sub (b::r) 1 (len (b::r))=r by simp[sub,len]];refine bg (dR cM) rfl
def Rk{s:aG}(ac:bA n s)(aj:n<=999999000000):j8 (s.t,())=some ((oX s).t,()):=by
 have a2:=ac.e.queue;refine auY ?_ ?_ ?_ s.e.queue.length s n ac J rfl
 .intro s n ac aj h
  exact(bJ (axI h)).trans rfl
 .intro s n b q ac aj h bj
  have a2:=ac.e.queue;refine(bJ (agQ h J)).trans ((dL rfl).trans ((b1 rfl).trans ?_));refine(bJ (xA ac aj b)).trans ((dL rfl).trans ((b1 (j6 bj)).trans ?_));rfl
 intro s n b q ac aj h bj;have a2:=ac.e.queue;refine .inl ((bJ (agQ h J)).trans ((dL rfl).trans ((b1 rfl).trans ?_)));exact(bJ (xA ac aj b)).trans ((dL rfl).trans (ce (lF bj)))
def adQ:∀(k:Nat) {n:Nat} {s:aG},bA n s->bA (n+k) (xU k s)
 |0,n,s,h=>h
 |k+1,n,s,h=>by
  unfold xU;split
  .exact df h J
  rename_i b q a2;split
  .have iU:=h.e.queue
   rw[a2,ew]at iU;have:=adQ k (Mv (qI h b) (q:=q) J)
   grind
  exact df h J
def HK{s:aG}(h:bA n s):bA (n+1000) (oX s):=df (adQ _ h) (by have:=h.e.queue;omega)
def oY(q:List V)(b:V):List V×Int:=if 8<=q.length then(q,8) else(q++[b],0)
def avc(q:List V)(b:V):MO (q,b,8,())=some ((oY q b).1,(oY q b).2,()):=by
 unfold MO oY H1;dsimp only;rw[if_neg J];by_cases h:8<(q.length:Int)
 .rw[if_pos h,if_pos J];rfl
 rw[if_neg h];rw[show(8:Int).toNat=8 from rfl,JS];by_cases cx:q.length=8
 .rw[ cx];rfl
 rw[if_neg J,show min (8-q.length) 1=1 by omega,hS (by grind)];rfl
def yf(s:aG)(b:V):aG×Int:=
 if ¬(oe b s.e.day).2=0 then(s,(oe b s.e.day).2) else if ¬oJ s.e.ph then(s,7)
 else if ¬(oY s.e.queue (oe b s.e.day).1).2=0 then(s,(oY s.e.queue (oe b s.e.day).1).2)
 else(oX (FR (DF s (oY s.e.queue (oe b s.e.day).1).1) 1 0 (oe b s.e.day).1),0)
def aes(h:q.length<=8):(oY q b).1.length<=8:=by
 unfold oY
 grind
def at3{s:aG}(h:bA n s)(b:V):bA (n+1001) (yf s b).1:=by
 unfold yf;split
 .exact df h J
 split
 .exact df h J
 split
 .exact df h J
 exact df (HK (TK (Mv h (aes h.e.queue)) _ _ _)) J
def anO{s:aG}(ac:bA n s)(aj:n<=999998000000)(b:V)(Y:b.length<=1000000):La (s.t,b,())=some ((yf s b).1.t,(yf s b).2,()):=by
 unfold La yf;refine bg (anN b s.e.day Y) ?_;generalize oe b s.e.day=r;obtain⟨o,e⟩:=r;by_cases ao:e=0
 .subst ao
  refine a1 rfl (bg (HX s.e.ph) ?_);by_cases hg:oJ s.e.ph
  .rw[if_neg (not_not_intro hg)]
   refine a1 (by rw[cD hg];rfl) (bg (avc s.e.queue o) ?_);have hl:=aes (b:=o) ac.e.queue;generalize oY s.e.queue o=p at hl ⊢;obtain⟨q,c⟩:=p;by_cases ai:c=0
   .subst ai
    have O:=Mv ac hl;refine a1 rfl (bg (Z' O J 1 0 o) ?_);exact(bJ (Rk (TK O 1 0 o) J)).trans rfl
   rw[if_pos ai];exact ce (lF ai)
  rw[if_pos hg];exact ce (by rw[cC hg];rfl)
 rw[if_pos ao];exact ce (lF ao)
def YV(day:Int):d1:=(true,201,0,0,0,[],[],day,())
def zc(s:aG)(day:Int):aG×Int:=
 if day<=s.e.day\/999999<day then(s,1) else if ¬oJ s.e.ph then(s,7) else if ¬s.e.ph=3\/¬s.e.ask.1=0 then(s,9)
 else(kW (uj s 5) (YV day),0)
def atQ{s:aG}(h:bA n s)(day:Int):bA (n+1) (zc s day).1:=by
 unfold zc;split
 .exact df h J
 split
 .exact df h J
 split
 .exact df h J
 exact At (Dz h J J) _
theorem azK:qL (3,7,())=some (5,true,()):=rfl
theorem azM:qL (5,8,())=some (3,true,()):=rfl
def anK{s:aG}(ac:bA n s)(aj:n<=1000000000000)(day:Int):K_ (s.t,day,())=some ((zc s day).1.t,(zc s day).2,()):=by
 unfold K_ zc;rw[show s.t.1.2.2.2.2.2.2.2.2.2.2.2.2.2.1=s.e.day from rfl,show s.t.1.2.2.1=s.e.ph from rfl];by_cases O:day<=s.e.day\/999999<day
 .rw[if_pos O]
  refine bg (a:=(true,())) ?_ rfl;simp only[go_sem];exact D? O
 rw[if_neg O];refine bg (a:=(false,())) (by simp only[go_sem];exact UY J) (a1 rfl ?_);rw[HX];refine bg rfl ?_;by_cases R:oJ s.e.ph
 .rw[if_neg (not_not_intro R),cD R]
  by_cases af:¬s.e.ph=3\/¬s.e.ask.1=0
  .rw[if_pos af]
   refine bg (a:=(true,())) (by simp only[go_sem];exact D? af) rfl
  rw[if_neg af];refine bg (a:=(false,())) (by simp(disch:=omega) only[go_sem];exact UY (λh=>af (.inr h))) (a1 rfl ?_);simp at af;rw[af.1];exact(bJ (Nx (Dz ac (p:=5) J J) aj (YV day))).trans rfl
 rw[if_pos R,cC R];rfl
def zo(s:aG):aG:=if s.e.ph=5 then⟨Au s.e,s.p⟩ else s
def Rl{s:aG}(h:s.e.ph=5):Cy (s.t,())=some ((⟨Au s.e,s.p⟩:aG).t,()):=by unfold Cy;rw[show(s.t,()).1.1.2.2.1=5 from h];rfl
def anM(s:aG):K' (s.t,())=some ((zo s).t,()):=by
 unfold K' zo;by_cases h:s.e.ph=5
 .rw[if_pos h]
  refine a1 (j6 h) ?_;exact(bJ (Rl h)).trans rfl
 rw[if_neg h];exact ce (lF h)
def L3(s:aG)(day:Int):aG:=⟨{ s.e with day:=cT s.e.day day },s.p⟩
def TL{s:aG}(h:bA n s)(day:Int):bA n (L3 s day):=⟨{ h.e with },h.p⟩
def QA(s:aG)(n:d1):aG:=(gj (L3 s n.2.2.2.2.2.2.2.1) (ki n 0)).1
def atP{s:aG}(h:bA m s)(n:d1):bA (m+1) (QA s n):=qI (TL h _) _
def anL{s:aG}(ac:bA m s)(hm:m<=1000000000000)(n:d1):Rj (s.t,n,())=some ((QA s n).t,()):=by exact Fc (TL ac n.2.2.2.2.2.2.2.1) hm n 0
def BS(s:aG)(n:d1):aG:=
 if ¬s.e.ph=5\/¬qC s.e.ask n.2.1 n.2.2.1 then gy s 3
 else if n.2.2.2.1=0 then L3 ⟨Au s.e,s.p⟩ (ls s.e.ask.2.2.2.2.1).1.2.2.2.2.2.2.2.1 else⟨Au s.e,s.p⟩
def anJ{s:aG}(n:d1)(Y:s.e.ask.2.2.2.2.1.length<=1000000):K9 (s.t,n,())=some ((BS s n).t,()):=by
 unfold K9 BS;rw[ show s.t.1.2.2.2.2.2.2.2.2.2.2.2.1=s.e.ask from rfl,J2];by_cases a8:s.e.ph=5
 .by_cases hm:qC s.e.ask n.2.1 n.2.2.1
  .rw[if_neg (λh=>h.elim (λh=>h a8) (λh=>h hm)),cD hm]
   refine bg (a:=(false,())) (a1 (j6 a8) rfl) (a1 rfl ?_);rw[adk _ Y];by_cases ah:n.2.2.2.1=0
   .rw[if_pos ah]
    refine bq (cJ ah) ?_;exact(bJ (Rl (s:=L3 s (ls s.e.ask.2.2.2.2.1).1.2.2.2.2.2.2.2.1) a8)).trans rfl
   rw[if_neg ah];refine a1 (cr ah) ?_;exact(bJ (Rl a8)).trans rfl
  rw[if_pos (.inr hm),cC hm];exact bg (a:=(true,())) (a1 (j6 a8) rfl) (bq rfl (tA s))
 rw[if_pos (.inl a8)];exact bg (a:=(true,())) (ce (lF a8)) (bq rfl (tA s))
def atI{s:aG}(h:bA m s)(n:d1):bA m (BS s n):=by
 have aK:bA m ⟨Au s.e,s.p⟩:=⟨{ h.e with askr:=.inl rfl,ph:=⟨by show(0:Int)<=3;omega,by show(3:Int)<=8;omega⟩ },h.p⟩;unfold BS;split
 .exact n9 h 3
 split
 .exact TL aK _
 exact aK
def w_(t:Int):Int:=t/10%10
def wZ(m:M):Prop:=(w_ m.1=1\/w_ m.1=3)/\uw m
instance (m:M):Decidable (wZ m):=by unfold wZ;infer_instance
def r7:b0:=(39,[57,49],())
def tB(m:M):M:=(m.1+10,(if(hI 11 m.2.1).2.1=true then[(11,(hI 11 m.2.1).1,()),r7]else[r7]),())
def Ep(s:aG)(q:Int)(b:V)(m:M):aG:=
 if ¬yn m.1 then gy s 3 else if oJ s.e.ph then FR s (if wZ m then 3 else 2) q b
 else if ¬s.e.ph=6\/¬(sT m.1).2.1=true then gy s 3 else(gj s (gO (tB m))).1
def ZR:gB 39 [57,49]=true:=bP
def aae{no:Int}:∀{l:List b0},(hI no l).2.1=true->∃v∈l,v.1=no/\(hI no l).1=v.2.1
 |v::l,h=>by
  unfold hI at h ⊢;split at h
  .grind
  rename_i e;obtain⟨u,aL,O,R⟩:=aae h
  grind
def VF{m:M}(ah:jI m=true)(h:(hI 11 m.2.1).2.1=true):gB 11 (hI 11 m.2.1).1=true:=by
 obtain⟨v,aC,O,R⟩:=aae h;have:=(v6 (pV.1 ah).1 v aC).2
 grind
def amc{m:M}(ah:jI m=true)(hp:(sT m.1).2.1=true):jI (tB m)=true:=by
 refine pV.2 ⟨?_,?_⟩
 .unfold tB
  dsimp only;split
  .rename_i h
   unfold fF fF fF r7;rw[cL,cL,cL,cL];exact⟨decide_eq_true J,VF ah h,decide_eq_true J,ZR,rfl⟩
  decide
 unfold sT at hp;split at hp
 .rename_i h
  obtain⟨⟨dT,ev,t3,t4⟩,R⟩:=h;show ig (m.1+10);unfold ig;omega
 cases hp
def anb{t:Int}(h:ig t):dh (i64 (fg t 10)) 10=w_ t:=by have O:=h.1;have R:=h.2.1;unfold w_;simp(disch:=omega) only[go_sem]
def anR{m:M}(ah:jI m=true):Lc (m,())=some (D (wZ m),()):=by
 have hf:=pV.1 ah;have hl:=(H8 ah).1;unfold Lc wZ;rw[Z? hf.1 J,anb hf.2];by_cases O:w_ m.1=1
 .rw[cJ O]
  refine bg (a:=(D (uw m),())) rfl (pY ⟨λh=>⟨.inl O,h⟩,λh=>h.2⟩)
 rw[cr O];by_cases af:w_ m.1=3
 .rw[cJ af]
  refine bg (a:=(D (uw m),())) rfl (pY ⟨λh=>⟨.inr af,h⟩,λh=>h.2⟩)
 rw[cr af,show D ((w_ m.1=1\/w_ m.1=3)/\uw m)=false from cC (λh=>Or.elim h.1 O af)];rfl
def anQ{s:aG}(ac:bA n s)(aj:n<=1000000000000){m:M}(ah:jI m=true):Lb (s.t,m,())=some ((if ¬(sT m.1).2.1=true then gy s 3 else(gj s (gO (tB m))).1).t,()):=by
 have hf:=pV.1 ah;have hl:=(H8 ah).1;unfold Lb;dsimp only;rw[arZ];by_cases hp:(sT m.1).2.1=true
 .rw[if_neg (not_not_intro hp)]
  refine a1 (by rw[hp];rfl) ?_;have ht:(sT m.1).1=m.1+10:=by
   unfold sT at hp ⊢
   grind
  have aF:=amc ah hp;have aps:=(H8 aF).2;have bb:=SU _ aps;rw[if_pos aF]at bb;rw[ht,show jS ((m.1+10,aO (Int×V×Unit),()),39,[u8 57,u8 49],())=some ((m.1+10,[r7],()),0,()) by rw[LU _ _ _ (by show(0:Nat)<=100000;omega) bh];unfold D2;rw[ if_pos (show gB 39 [u8 57,u8 49]=true from ZR)];rfl]
  refine bg rfl ?_;rw[SS _ _ J,Rn hf.1];refine bg rfl ?_;cases hh:(hI 11 m.2.1).2.1
  .refine a1 rfl ?_
   have e:tB m=(m.1+10,[r7],()):=by unfold tB;rw[hh];rfl
   rw[e]at bb ⊢;refine bg bb ?_;exact(bJ (xA ac aj _)).trans rfl
  refine bq rfl ?_;have e:tB m=(m.1+10,[(11,(hI 11 m.2.1).1,()),r7],()):=by unfold tB;rw[hh];rfl
  rw[e]at bb ⊢;have pB:=VF ah hh;have aq:=Q_ pB;rw[show jS ((m.1+10,[r7],()),11,(hI 11 m.2.1).1,())=some ((m.1+10,[(11,(hI 11 m.2.1).1,()),r7],()),0,()) by rw[LU _ _ _ bh J];unfold D2;rw[ if_pos pB];rfl]
  refine bg rfl (bg bb ?_);exact(bJ (xA ac aj _)).trans rfl
 rw[if_pos hp];refine bq (by rw[OB.2 hp];rfl) (tA s)
def anP{s:aG}(ac:bA n s)(aj:n<=1000000000000){m:M}(ah:jI m=true)(v:dr):F4 (s.t,v,m,())=some ((Ep s v.2.2.2.2.1 v.2.2.2.2.2.1 m).t,()):=by
 unfold F4 Ep;rw[aaa];by_cases ht:yn m.1
 .rw[if_neg (not_not_intro ht)]
  refine a1 (by rw[cD ht];rfl) ?_;refine bg (HX s.e.ph) ?_;by_cases hg:oJ s.e.ph
  .rw[if_pos hg]
   refine bq (cD hg) (bg (anR ah) ?_);have aqF:Rm ((D (wZ m),()).1,3,2,())=some ((if wZ m then 3 else 2),()):=by
    by_cases aF:wZ m
    .rw[cD aF,if_pos aF];rfl
    rw[cC aF,if_neg aF];rfl
   refine bg aqF ?_;exact(bJ (Z' ac aj _ _ _)).trans rfl
  rw[if_neg hg];refine a1 (cC hg) ?_;by_cases cS:s.e.ph=6
  .refine bq (cJ cS) ((bJ (anQ ac aj ah)).trans ?_)
   by_cases hp:(sT m.1).2.1=true
   .rw[if_neg (not_not_intro hp),if_neg (λh=>h.elim (λh=>h cS) (λh=>h hp))];rfl
   rw[if_pos hp,if_pos (.inr hp)];rfl
  rw[if_pos (.inl cS)];exact a1 (cr cS) (tA s)
 rw[if_pos ht];exact bq (by rw[cC ht];rfl) (tA s)
def at4{s:aG}(h:bA n s)(q:Int)(b:V)(m:M):bA (n+1) (Ep s q b m):=by
 unfold Ep;split
 .exact df (n9 h 3) J
 split
 .exact TK h _ _ _
 split
 .exact df (n9 h 3) J
 exact qI h _
def ee(a:V):Nat:=256*(a.getD 0 0).toNat+(a.getD 1 0).toNat
def hH:Nat->Int->V->V×Nat×Int×List V
 |0,bad,a=>(a,0,bad,[])
 |k+1,bad,a=>
  if a.length<2 then(a,0,bad,[])
  else if ee a=0\/1024<ee a then
   (if 2+ee a<=a.length then hH k (i64 (bad+1)) (a.drop (2+ee a)) else([],2+ee a-a.length,i64 (bad+1),[]))
  else if a.length<2+ee a then(a,0,bad,[])
  else((hH k bad (a.drop (2+ee a))).1,(hH k bad (a.drop (2+ee a))).2.1,(hH k bad (a.drop (2+ee a))).2.2.1,(a.drop 2).take (ee a)::(hH k bad (a.drop (2+ee a))).2.2.2)
def iV(f:p_)(b:V):p_×List V:=
 if(f.1++b).length<f.2.1.toNat then(([],f.2.1-((f.1++b).length:Int),f.2.2.1,()),[])
 else let r:=hH (f.1++b).length f.2.2.1 ((f.1++b).drop f.2.1.toNat)
  ((r.1,(r.2.1:Int),r.2.2.1,()),r.2.2.2)
def l3(c:Int):Prop:=0<=c/\c<4
instance (c:Int):Decidable (l3 c):=by unfold l3;infer_instance
def mW(h:eO)(c:Int):Prop:=ak h.1 c.toNat false=true
instance (h:eO) (c:Int):Decidable (mW h c):=by unfold mW;infer_instance
def lr(h:eO)(c:Int):eO×Int:=
 if ¬l3 c then(h,1) else if mW h c then(h,9) else((cj h.1 c.toNat true,cj h.2.1 c.toNat ep,cj h.2.2.1 c.toNat (i64 (ak h.2.2.1 c.toNat 0+1)),h.2.2.2),0)
def k9(h:eO)(c:Int):eO×Int:=
 if ¬l3 c then(h,1) else if ¬mW h c then(h,9) else((cj h.1 c.toNat false,cj h.2.1 c.toNat ep,h.2.2),0)
def hn(h:eO)(c:Int)(b:V):eO×List V×Int:=
 if ¬l3 c then(h,[],1) else if ¬mW h c then(h,[],11)
 else((h.1,cj h.2.1 c.toNat (iV (ak h.2.1 c.toNat ep) b).1,h.2.2),(iV (ak h.2.1 c.toNat ep) b).2,0)
def uB(g:Nat->Bool):Nat->Nat
 |0=>0
 |k+1=>uB g k+(if g k then 2^k else 0)
def oD(g:Nat->Bool):List UInt64:=(List.range 16).map λi=>UInt64.ofNat (uB (λj=>g (64*i+j)) 64)
def xa(w:gX)(n:Int):Prop:=w.1<=n\/w.1-1024<=n/\jd w (n%1024).toNat=false
instance (w:gX) (n:Int):Decidable (xa w n):=by unfold xa;infer_instance
def wV(w:gX)(n:Int)(p:Nat):Prop:=∃m,w.1<=m/\m<n/\m%1024=(p:Int)
def kT(w:gX)(n:Int):gX×Int:=
 if ¬dC n then(w,1) else if ¬xa w n then(w,6)
 else((max w.1 (n+1),oD (λp=>l2 (D ((p:Int)=n%1024)) (cY (jd w p) (D (¬wV w n p)))),()),0)
def IX(r:fc):fc:=(r.1,if r.2.2.2.1<=1 then jF else r.2.1,r.2.2.1,max 0 (r.2.2.2.1-1),r.2.2.2.2)
def mo(a:eS):eS×Bool×Bool:=
 if a=jV then(a,false,false) else if 1<a.2.2.1 then((a.1,a.2.1,a.2.2.1-1,a.2.2.2),false,false)
 else if 0<a.2.2.2.1 then((a.1,a.2.1,8,a.2.2.2.1-1,a.2.2.2.2),true,false) else(jV,false,true)
def o6(e:c_)(v:dr):Prop:=¬v.2.1=1-e.id\/e.ph=7\/e.ph=8\/v.1=2/\(¬jT e.ph\/¬v.2.2.1=gs e\/(qk e.ring v.2.2.2.1).2.1=false)
instance (e:c_) (v:dr):Decidable (o6 e v):=by unfold o6 jT;infer_instance
def C8(e:c_)(v:dr):V:=if v.1=2 then(qk e.ring v.2.2.2.1).1 else gY e.key
def jg(s:aG)(v:dr):fm×Bool×Unit:=AB s.p (C8 s.e v) (cZ v) v.2.2.2.2.2.2.1
def iY(s:aG)(b:V):aG×Option dr:=
 if ¬(eR b).2.1=0 then(gy s 0,none)
 else if o6 s.e (eR b).1 then(gy s 3,none)
 else if(jg s (eR b).1).2.1=false then(gy ⟨s.e,(jg s (eR b).1).1⟩ 1,none)
 else if(eR b).1.1=1 then(⟨s.e,(jg s (eR b).1).1⟩,some (eR b).1)
 else if ¬(kT s.e.win (eR b).1.2.2.2.2.1).2=0 then(gy ⟨s.e,(jg s (eR b).1).1⟩ 2,none)
 else(⟨{ s.e with win:=(kT s.e.win (eR b).1.2.2.2.2.1).1,ring:=qp s.e (eR b).1.2.2.2.1 },(jg s (eR b).1).1⟩,some (eR b).1)
def v7(s:aG)(n:d1):aG:=
 if n.2.1=101 then(if n.1=true then Aq s n else BU s n) else if n.2.1=201 then(if n.1=true then QA s n else BS s n) else xK s n
def oH(s:aG)(v:dr):aG:=
 if v.1=2 then
  (if(ls v.2.2.2.2.2.1).2.1=0 then v7 (q8 s) (ls v.2.2.2.2.2.1).1
   else if(fy v.2.2.2.2.2.1).2.1=0 then Ep (q8 s) v.2.2.2.2.1 v.2.2.2.2.2.1 (fy v.2.2.2.2.2.1).1 else gy (q8 s) 0)
 else(if(ls v.2.2.2.2.2.1).2.1=0 then qq s v (ls v.2.2.2.2.2.1).1 else gy s 0)
def l6(s:aG)(b:V):aG:=match(iY s b).2 with|none=>(iY s b).1|some v=>oX (oH (iY s b).1 v)
def u?(s:aG):List V->aG
 |[]=>s
 |b::l=>if s.e.ph=8 then s else u? (l6 s b) l
def J7(dt:List Int)(d:Int):List Int:=cj dt 0 (i64 (ak dt 0 0+d))
def sa(s:aG)(c:Int)(b:V):aG:=
 ⟨{ s.e with dt:=J7 s.e.dt (i64 ((ak (hn s.e.hub c b).1.2.1 c.toNat ep).2.2.1-(ak s.e.hub.2.1 c.toNat ep).2.2.1)),hub:=(hn s.e.hub c b).1 },s.p⟩
def q5(s:aG)(c:Int)(b:V):aG:=if ¬(hn s.e.hub c b).2.2=0 then s else u? (sa s c b) (hn s.e.hub c b).2.1
def y1(s:aG)(a:eS):aG:=if a.1=1 then(o5 s 0 a.2.2.2.2.1).1 else(gj s a.2.2.2.2.1).1
def za(s:aG):aG:=if s.e.ph=4 then xc s else if s.e.ph=5 then zo s else zp s
def H_(s:aG):aG:=⟨{ s.e with ring:=IX s.e.ring },s.p⟩
def yv(s:aG)(a:eS):aG:=⟨{ s.e with ask:=a },s.p⟩
def uC(s:aG):aG:=
 if(mo s.e.ask).2.1=true then y1 (yv s (mo s.e.ask).1) (mo s.e.ask).1
 else if(mo s.e.ask).2.2=true then za (yv s (mo s.e.ask).1) else yv s (mo s.e.ask).1
def kG(s:aG):aG:=
 if s.e.ph=7\/s.e.ph=8 then s
 else if jT s.e.ph then(if s.e.seq=4611686018427387904 then(ru (H_ s)).1 else oX (uC (H_ s)))
 else oX (uC s)
def vZ(s:aG)(c:Int):aG×Int:=
 if s.e.ph=8 then(s,11) else if ¬(lr s.e.hub c).2=0 then(s,(lr s.e.hub c).2) else(oX ⟨{ s.e with hub:=(lr s.e.hub c).1 },s.p⟩,0)
def nR(e:c_)(c:Int):c_:={ e with hub:=(k9 e.hub c).1 }
abbrev dy:=Int×Int×Int×Int×V×Unit
def tD(s:aG)(a:dy):aG×Int:=
 if a.1=0 then yf s a.2.2.2.2.1 else if a.1=1 then ru s else if a.1=2 then y9 s else if a.1=3 then zd s else if a.1=4 then Ai s a.2.2.2.2.1
 else if a.1=5 then zc s a.2.2.1 else if a.1=6 then(kG s,0) else if a.1=14 then(wX s,0)
 else if a.1=15 then(if s.e.ph=8 then(B5 s,0) else(s,9)) else if a.1=16 then(⟨{ s.e with power:=a.2.2.1 },s.p⟩,0) else(s,1)
abbrev eN:=Int×Int×V×Unit
structure bW where
 e:Bool->c_
 p:fm
 ba:List eN
 old:List eN
 eE:Bool->List lz
def iW{α:Type}(f:Bool->α)(i:Bool)(x:α):Bool->α:=λj=>if j=i then x else f j
def bW.at(w:bW)(i:Bool):aG:=⟨w.e i,w.p⟩
def eq(i:Bool):Int:=if i then 1 else 0
def iJ(w:bW)(c:Int):bW:={ w with e:=λi=>nR (w.e i) c,ba:=w.ba.filter λf=>decide (¬f.2.1=c) }
def y8(w:bW):bW:=iJ (iJ (iJ (iJ w 0) 1) 2) 3
def i7(i:Bool)(x:qb):eN:=(1-eq i,x.1,x.2.1,())
def l7(w:bW)(i:Bool)(s:aG):bW:=
 { e:=iW w.e i { s.e with bB:=[],got:=[] },p:=s.p,ba:=w.ba++s.e.bB.map (i7 i),old:=w.old++s.e.bB.map (i7 i),eE:=iW w.eE i (w.eE i++s.e.got) }
def jP(w:bW)(i:Bool)(s:aG):bW:=if s.e.ph=8/\¬(w.e i).ph=8 then y8 (l7 w i s) else l7 w i s
def lx(n:Int):Bool:=decide (n=1)
def k7(w:bW)(i:Bool)(c:Int)(b:V):bW:=jP w i (q5 (w.at i) c b)
def ns:eN:=(0,0,[],())
def lI(w:bW)(n m:Int):bW×Int:=
 if ¬(0<=n/\n<(w.ba.length:Int)) then(w,12)
 else let f:=ak w.ba n.toNat ns
  if 0<m/\m<(f.2.2.1.length:Int) then(k7 { w with ba:=w.ba.set n.toNat (f.1,f.2.1,f.2.2.1.drop m.toNat,()) } (lx f.1) f.2.1 (f.2.2.1.take m.toNat),0)
  else(k7 { w with ba:=w.ba.eraseIdx n.toNat } (lx f.1) f.2.1 f.2.2.1,0)
def FL(w:bW)(n:Int):bW×Int:=if ¬(0<=n/\n<(w.ba.length:Int)) then(w,12) else({ w with ba:=w.ba.eraseIdx n.toNat },0)
def Fa(w:bW)(n:Int):bW×Int:=if ¬(0<=n/\n<(w.old.length:Int)) then(w,12) else({ w with ba:=w.ba++[ak w.old n.toNat ns] },0)
def axm(b:V)(m:Nat)(x:UInt8):V:=cj b m (ak b m (u8 0)^^^x)
def IH(w:bW)(n m:Int)(b:V):bW×Int:=
 if ¬(0<=n/\n<(w.old.length:Int))\/¬(0<=m/\m<((ak w.old n.toNat ns).2.2.1.length:Int))\/b=[]then(w,12)
 else let f:=ak w.old n.toNat ns
  ({ w with ba:=w.ba++[(f.1,f.2.1,axm f.2.2.1 m.toNat (ak b 0 (u8 0)),())] },0)
def G9(w:bW)(i c:Int)(b:V):bW×Int:=if ¬(0<=i/\i<2) then(w,1) else(k7 w (lx i) c b,0)
def rC(w:bW)(i:Bool)(c:Int):bW:=jP w i (vZ (w.at i) c).1
def AJ(w:bW)(c:Int):bW×Int:=
 if(w.e false).ph=8\/(w.e true).ph=8 then(w,11) else if ¬l3 c then(w,1)
 else if mW (w.e false).hub c\/mW (w.e true).hub c then(w,9) else(rC (rC w false c) true c,0)
def FE(w:bW)(c:Int):bW×Int:=if ¬l3 c then(w,1) else(iJ w c,0)
def m?: Nat->bW->bW
 |0,w=>w
 |k+1,w=>if w.ba=[]then w else m? k (lI w 0 0).1
def nz(w:bW)(i:Bool):bW:=jP w i (kG (w.at i))
def jJ(w:bW):bW:=nz (nz (m? w.ba.length w) false) true
def oF:Nat->bW->bW
 |0,w=>w
 |k+1,w=>oF k (jJ w)
def uV(w:bW)(a:dy):bW×Int:=if ¬(0<=a.2.1/\a.2.1<2) then(w,1) else(jP w (lx a.2.1) (tD (w.at (lx a.2.1)) a).1,(tD (w.at (lx a.2.1)) a).2)
def gT(w:bW)(a:dy):bW×Int:=
 if a.1=7 then lI w a.2.2.1 a.2.2.2.1 else if a.1=8 then FL w a.2.2.1 else if a.1=9 then Fa w a.2.2.1 else if a.1=10 then IH w a.2.2.1 a.2.2.2.1 a.2.2.2.2.1
 else if a.1=11 then G9 w a.2.1 a.2.2.1 a.2.2.2.2.1 else if a.1=12 then AJ w a.2.2.1 else if a.1=13 then FE w a.2.2.1
 else if a.1=17 then(if a.2.2.1<0 then(w,1) else(oF (min a.2.2.1 100).toNat w,0))
 else if 0<=a.1/\a.1<=6\/14<=a.1/\a.1<=16 then uV w a else(w,1)
def AV(w:bW):List dy->bW×List Int
 |[]=>(w,[])
 |a::l=>((AV (gT w a).1 l).1,(gT w a).2::(AV (gT w a).1 l).2)
def r?(i:Bool)(key:V):c_:=⟨eq i,key,0,Do, -1,0,0,0,0,sJ,n7,jV,0,0,[],eP,[],[],[0,0,0,0]⟩
def js(key:V)(fQ:Bool):bW:=⟨λi=>r? i key,(fQ,[],false,()),[],[],λ_=>[]⟩
end Yp
namespace Yp
open Go
set_option maxRecDepth 100000
set_option maxHeartbeats 1000000
def pz:List (V×V):=[([115,101,110,100],[105,98]),([111,110],[105]),([111,102,102],[105]),([101,99,104,111],[105]),([107,101,121],[105,98]),([100,97,121],[105,110]),([116,105,99,107],[105]),([103,105,118,101],[110]),([100,114,111,112],[110]),([97,103,97,105,110],[110]),([115,112,111,105,108],[110,109,98]),([105,110,106,101,99,116],[105,110,98]),([114,97,105,115,101],[110]),([99,117,116],[110]),([99,114,97,115,104],[105]),([98,111,111,116],[105]),([97,114,109],[105,110]),([99,97,108,109],[110])]
def sK(w:V)(hi:Nat):Prop:=(1<=w.length/\w.length<=18/\fZ w)/\val w<=hi/\(w=[48]\/w.head?≠some 48)
def zD(w:V):Prop:=(w.length%2=0/\zE w)/\2<=w.length/\w.length<=1800
instance (w:V) (hi:Nat):Decidable (sK w hi):=by unfold sK;infer_instance
instance (w:V):Decidable (zD w):=by unfold zD;infer_instance
def uF(r:UInt8)(w:V)(a:dy):Option dy:=
 if r=105 then(if sK w 1 then some (a.1,(val w:Int),a.2.2.1,a.2.2.2.1,a.2.2.2.2.1,()) else none)
 else if r=110 then(if sK w 999999 then some (a.1,a.2.1,(val w:Int),a.2.2.2.1,a.2.2.2.2.1,()) else none)
 else if r=109 then(if sK w 999999 then some (a.1,a.2.1,a.2.2.1,(val w:Int),a.2.2.2.2.1,()) else none)
 else if zD w then some (a.1,a.2.1,a.2.2.1,a.2.2.2.1,oi w,()) else none
def xe:V->List V->dy->Option dy
 |[],_,a=>some a
 |r::rs,w::dG,a=>(uF r w a).bind (xe rs dG)
 |_::_,[],_=>none
def qj(w:V):Nat->List (V×V)->Option (Nat×V)
 |_,[]=>none
 |i,p::r=>if w=p.1 then some (i,p.2) else qj w (i+1) r
def rP(k:Nat)(dG:V)(n:Nat):V:=if k=7/\n=3 then[110,109]else dG
def AA(l:List V):Option dy:=
 match qj (l.headD []) 0 pz with
 |none=>none
 |some (k,dG)=>if l.length=1+(rP k dG l.length).length then xe (rP k dG l.length) l.tail ((k:Int),0,0,0,[],()) else none
def mS(line:V):Option dy:=AA (gN 32 line)
def adc(h:fZ w):w.count 32=0:=by rw[List.count_eq_zero];intro hm;obtain⟨i,hi,e⟩:=EJ.1 hm;have:=h i hi;rw[e]at this;exact absurd this.1 bP
def ato(b:V):(eW b).count 32=0:=by rw[List.count_eq_zero];intro hm;obtain⟨i,hi,e⟩:=EJ.1 hm;have:=R3 b i hi;rw[e]at this;exact absurd this (by unfold rm;decide)
def adn(h:n<=hi)(hh:hi<=999999):sK (py n) hi:=by
 have hp:n<10^20:=J;obtain⟨j,an,aA,hl,hg⟩:=F0 hp;refine⟨⟨(K0 hp).1,?_,Q5 hp⟩,by rw[VO hp];exact h,ana hp⟩;rw[aA,lm];rcases hg with rfl|hg
 .omega
 have:j<6:=(Nat.pow_lt_pow_iff_right (by omega:1<10)).1 (Nat.lt_of_le_of_lt hg (show n<10^6 by omega));omega
def apG(h:1<=b.length)(bL:b.length<=900):zD (eW b):=by refine⟨⟨by rw[nh];omega,R3 b⟩,by rw[nh];omega,by rw[nh];omega⟩
def oT:V->List V->V
 |a,[]=>a
 |a,w::dG=>oT (a++32::w) dG
def V4:∀(dG:List V) (a:V),(∀w∈dG,w.count 32=0)->∀(u:List V),gN 32 a=u->gN 32 (oT a dG)=u++dG
 |[],a,_,u,h=>by rw[hF];exact h
 |w::dG,a,bb,u,h=>by
  have O:∀(a:V) u,gN 32 a=u->gN 32 (a++32::w)=u++[w]:=by
   intro a;induction a with
   |nil=>intro u aL;rw[<- aL];show(if(32:UInt8)=32 then _ else _)=_;rw[if_pos rfl,Jb 32 w (bb w (.head _))];rfl
   |cons x a ih=>
    intro u aL;rw[<- aL];show(if x=32 then _ else _)=(if x=32 then _ else _)++[w];rw[show a.append (32::w)=a++32::w from rfl,ih _ rfl];split
    .rfl
    have eC:=ahv 32 a;cases ai:gN 32 a with
    |nil=>exact absurd ai eC
    |cons y t=>rfl
  rw[show oT a (w::dG)=oT (a++32::w) dG from rfl,V4 dG (a++32::w) (λx hx=>bb x (.tail _ hx)) _ (O a u h),gv];rfl
def hX(i:Bool)(n m:Nat)(b:V)(r:UInt8):V:=if r=105 then(if i=true then[49]else[48]) else if r=110 then py n else if r=109 then py m else eW b
def sO(i:Bool)(n m:Nat)(b:V)(a:dy)(r:UInt8):dy:=
 if r=105 then(a.1,(if i=true then 1 else 0),a.2.2.1,a.2.2.2.1,a.2.2.2.2.1,())
 else if r=110 then(a.1,a.2.1,(n:Int),a.2.2.2.1,a.2.2.2.2.1,())
 else if r=109 then(a.1,a.2.1,a.2.2.1,(m:Int),a.2.2.2.2.1,())
 else(a.1,a.2.1,a.2.2.1,a.2.2.2.1,b,())
section
variable {i:Bool} {n m:Nat} {b:V} (aj:n<=999999) (hm:m<=999999) (Y:1<=b.length/\b.length<=900)
include aj hm Y
def ayt(r:UInt8)(a:dy):uF r (hX i n m b r) a=some (sO i n m b a r):=by
 unfold uF hX sO;by_cases O:r=105
 .simp only[if_pos O]
  cases i
  .exact if_pos bP
  exact if_pos bP
 simp only[if_neg O];by_cases R:r=110
 .simp only[if_pos R];rw[if_pos (adn aj J),VO J]
 simp only[if_neg R];by_cases af:r=109
 .simp only[if_pos af];rw[if_pos (adn hm J),VO J]
 simp only[if_neg af];rw[if_pos (apG Y.1 Y.2),ahl]
def aah:∀(rs:V) (a:dy),xe rs (rs.map (hX i n m b)) a=some (rs.foldl (sO i n m b) a)
 |[],_=>rfl
 |r::rs,a=>by show(uF r (hX i n m b r) a).bind (xe rs (rs.map (hX i n m b)))=_;rw[ayt aj hm Y];exact aah rs _
omit Y in
def WT(r:UInt8):(hX i n m b r).count 32=0:=by
 unfold hX;split
 .cases i<;>decide
 split
 .exact adc (Q5 J)
 split
 .exact adc (Q5 J)
 exact ato b
omit Y in
def ayw(a:V)(bu:a.count 32=0)(rs:V):gN 32 (oT a (rs.map (hX i n m b)))=a::rs.map (hX i n m b):=by rw[V4 (rs.map (hX i n m b)) a (λw bb=>by obtain⟨r,_,rfl⟩:=m1.1 bb;exact WT aj hm r) _ (Jb 32 a bu)];rfl
def aux{a:V}(bu:a.count 32=0)(hf:qj a 0 pz=some (k,dG))(rs:V)(ah:rP k dG (1+rs.length)=rs):
  mS (oT a (rs.map (hX i n m b)))=some (rs.foldl (sO i n m b) ((k:Int),0,0,0,[],())):=by
 have hl:(a::rs.map (hX i n m b)).length=1+rs.length:=by rw[ew,ou];omega
 unfold mS AA;rw[ayw aj hm a bu rs,show(a::rs.map (hX i n m b)).headD []=a from rfl,hf];dsimp only;rw[hl,ah,if_pos rfl];exact aah aj hm Y rs _
omit Y in
def auy{a:V}(bu:a.count 32=0)(hf:qj a 0 pz=some (k,dG))(rs:V)(ah:(rP k dG (2+rs.length)).length≠1+rs.length):
  mS (oT a (rs.map (hX i n m b))++[32])=none:=by
 have hx:oT a (rs.map (hX i n m b))++[32]=oT a (rs.map (hX i n m b)++[[]]):=by
  generalize rs.map (hX i n m b)=l;induction l generalizing a with
  |nil=>rfl
  |cons w l ih=>
   have:∀(l:List V) (a:V),oT a l++[32]=oT a (l++[[]]):=by
    intro l;induction l with
    |nil=>intro a;rfl
    |cons w l ih=>intro a;exact ih _
   exact this (w::l) a
 have hl:(a::(rs.map (hX i n m b)++[[]])).length=2+rs.length:=by rw[ew,cE,ou];show rs.length+1+1=_;omega
 unfold mS AA;rw[hx,V4 (rs.map (hX i n m b)++[[]]) a (λw bb=>by
  rcases io.1 bb with bb|bb
  .obtain⟨r,_,rfl⟩:=m1.1 bb;exact WT aj hm r
  rw[pe.1 bb];rfl) _ (Jb 32 a bu)]
 rw[show[a]++(rs.map (hX i n m b)++[[]])=a::(rs.map (hX i n m b)++[[]]) from rfl,show(a::(rs.map (hX i n m b)++[[]])).headD []=a from rfl,hf];dsimp only;rw[hl,if_neg J]
end
def auw(s:V):mS (32::s)=none:=by unfold mS AA;rw[show gN 32 (32::s)=[]::gN 32 s from if_pos rfl];rfl
end Yp
namespace Yp
open Go
set_option maxRecDepth 100000
set_option maxHeartbeats 2000000
def ay4{n:Int}(h:Zl n):l8 (oZ n)=(n,true,()):=by
 have ht:jp (oZ n) 0 8=(n,8,0,()):=by
  refine agO (b:=oZ n) (A:=0) (W:=8) (n:=n) J J (by rw[MT];omega) (by have:=h.1;omega) ?_ h.2 ?_
  .have:=h.2
   omega
  rfl
 unfold l8;rw[ht,if_pos ⟨rfl,h,rfl⟩]
def Ox:=@Nat.mul_assoc
def U_(g:Nat->Bool):∀k,uB g k<2^k
 |0=>by simp[uB]
 |k+1=>by
  have:=U_ g k;unfold uB
  grind
def agH(g:Nat->Bool)(j:Nat):∀k,j<k->uB g k/2^j%2=if g j then 1 else 0
 |k+1,h=>by
  unfold uB;by_cases ap2:j=k
  .subst ap2
   have:=U_ g j;have hp:0<2^j:=wJ J;split
   .rw[Nat.add_div_right _ hp,E8 this]
   rw[td,E8 this]
  have ih:=agH g j k J;split
  .obtain⟨d,rfl⟩:∃d,k=j+1+d:=⟨k-j-1,J⟩
   have hp:0<2^j:=wJ J;have e:2^(j+1+d)=2^j*(2*2^d):=by rw[Nat.pow_add,qX,Ox]
   rw[<- ih,e,Nat.add_mul_div_left _ _ hp];omega
  omega
def Fj(g:Nat->Bool):(oD g).length=16:=by simp[oD]
def B4(t:Int)(g:Nat->Bool){p:Nat}(hp:p<1024):jd (t,oD g,()) p=g p:=by
 have e:ak (oD g) (p/64) (u64 0)=UInt64.ofNat (uB (λj=>g (64*(p/64)+j)) 64):=by
  unfold ak oD
  grind
 have bm:=U_ (λj=>g (64*(p/64)+j)) 64;have hm:(UInt64.ofNat (uB (λj=>g (64*(p/64)+j)) 64)).toNat=uB (λj=>g (64*(p/64)+j)) 64:=by exact lY bm
 unfold jd;rw[ e,hm,agH _ _ 64 (tc _ J)]
 grind
def yl(w:gX)(q:Int):Prop:=q<w.1-1024\/q<w.1/\jd w (q%1024).toNat=true
def asQ{w:gX}{n:Int}(h:(kT w n).2=0):dC n/\xa w n/\kT w n=((max w.1 (n+1),oD (λp=>l2 (D ((p:Int)=n%1024)) (cY (jd w p) (D (¬wV w n p)))),()),0):=by
 by_cases O:dC n
 .by_cases R:xa w n
  .refine⟨O,R,?_⟩
   unfold kT
   grind
  unfold kT at h
  grind
 unfold kT at h
 grind
def acY(m:Int):0<=m%1024/\(m%1024).toNat<1024/\(((m%1024).toNat:Nat):Int)=m%1024:=⟨J,J,J⟩
def asR{w:gX}{n:Int}(hf:xa w n):¬yl w n:=by
 rintro(h|⟨af,aq⟩)
 .rcases hf with a8|⟨a8,_⟩<;>omega
 rcases hf with a8|⟨_,a8⟩
 .omega
 grind
def acS{t n:Int}(h:n<t){g:Nat->Bool}(hg:g (n%1024).toNat=true):yl (t,oD g,()) n:=by refine .inr ⟨h,?_⟩;rw[B4 _ _ (acY n).2.1];exact hg
def asT{w:gX}{n m:Int}(h:yl w m):yl (max w.1 (n+1),oD (λp=>l2 (D ((p:Int)=n%1024)) (cY (jd w p) (D (¬wV w n p)))),()) m:=by
 rcases h with hm|⟨hm,aqc⟩
 .refine .inl ?_
  omega
 by_cases ap9:m<max w.1 (n+1)-1024
 .exact .inl ap9
 refine acS J ?_;rw[aqc];by_cases ai:wV w n (m%1024).toNat
 .exfalso
  obtain⟨x,a8,cS,dN⟩:=ai;omega
 rw[cD ai];exact g47
def asS{w:gX}{n:Int}(h:(kT w n).2=0):dC n/\¬yl w n/\yl (kT w n).1 n/\(∀m,yl w m->yl (kT w n).1 m)/\(kT w n).1.1=max w.1 (n+1)/\(kT w n).1.2.1.length=16:=by
 have hh:=asQ h;refine⟨hh.1,asR hh.2.1,?_,λm hm => ?_,congrArg (λx:gX×Int=>x.1.1) hh.2.2,?_⟩
 .rw[hh.2.2]
  refine acS J ?_;rw[cD (acY n).2.2];exact g46
 .rw[hh.2.2]
  exact asT hm
 rw[hh.2.2];dsimp only;exact Fj _
def Ug(h:(eR b).2.1=0):o0 (eR b).1/\(eR b).1=rD b/\47<=b.length/\b.length<=946:=by
 unfold eR at h ⊢
 grind
def Ze(s:aG)(v:dr)(k:V):(mF s v k).1.e.ph=s.e.ph/\(mF s v k).1.e.queue=s.e.queue/\(mF s v k).1.e.got=s.e.got:=by unfold mF;split<;>exact⟨rfl,rfl,rfl⟩
def awJ(s:aG)(b:V):(gj s b).1.e.ph=s.e.ph/\(gj s b).1.e.queue=s.e.queue/\(gj s b).1.e.got=s.e.got:=by
 unfold gj;split
 .exact⟨rfl,rfl,rfl⟩
 split
 .exact⟨rfl,rfl,rfl⟩
 split
 .exact⟨rfl,rfl,rfl⟩
 dsimp only;split
 .exact Ze _ _ _
 exact Ze _ _ _
def rr(s:aG):Prop:=∃n,bA n s
def Uh(h:(eR b).2.1=0):(eR b).1.2.2.1=[d4 (eR b).1,e1 (eR b).1]:=by
 unfold eR at h ⊢;split at h
 .cases h
 split at h
 .cases h
 split at h
 .rename_i O R af
  rw[if_neg O,if_neg R,if_pos af];rfl
 cases h
def Vx{s:aG}{v:dr}(h:(iY s b).2=some v):(eR b).2.1=0/\v=(eR b).1:=by
 unfold iY at h
 grind
def Yv(s:aG)(v:dr):(jg s v).1.2.1=s.p.2.1:=by
 unfold jg AB
 repeat(first|rfl|split)
def avZ{e:c_}(h:lR e.ring)(g:Int):lR (qp e g):=by
 unfold qp;split
 .exact Uv h
 exact h
def adT{s:aG}(h:bA n s)(b:V):bA n (iY s b).1:=by
 have hp:∀v,bA n ⟨s.e,(jg s v).1⟩:=λv=>⟨h.e,by rw[Yv];exact h.p⟩;unfold iY;split
 .exact n9 h 0
 split
 .exact n9 h 3
 split
 .exact n9 (hp _) 1
 split
 .grind
 split
 .exact n9 (hp _) 2
 rename_i O R af aq a8;have hm:=asS (ww.1 a8);have cx:=hm.1;have lJ:=h.e.top;unfold dC at cx;refine⟨{ (hp (eR b).1).e with win:=hm.2.2.2.2.2,ring:=avZ h.e.ring _,top := ?_ },(hp _).p⟩
 grind
def atY{s:aG}(h:bA n s)(q:d1):bA (n+1) (Aq s q):=by
 unfold Aq;split
 .exact df (n9 h 3) J
 split
 .exact qI h _
 split
 .exact qI h _
 split
 .split
  .exact qI (HN h (H9 (M1 h.e.ring) _ _)) _
  exact df (n9 h 3) J
 split
 .exact qI (adV h (H9 h.e.ring _ _)) _
 exact df (n9 h 3) J
def adL{s:aG}(h:bA n s):bA n (xc s):=by
 unfold xc;split
 .exact HN h (M1 h.e.ring)
 exact h
def atJ{s:aG}(h:bA n s)(q:d1):bA (n+1) (BU s q):=by
 unfold BU;split
 .exact df (n9 h 3) J
 split
 .exact df (adL h) J
 exact At (HN h (Uv h.e.ring)) _
def atW{s:aG}(h:bA n s)(b:V):bA (n+1) (Ai s b).1:=by
 unfold Ai;split
 .exact df h J
 split
 .exact df h J
 split
 .exact df h J
 split
 .exact df h J
 exact At (adM h _ _) _
def at1{s:aG}(h:bA n s)(q:d1):bA (n+2) (v7 s q):=by
 unfold v7;split
 .split
  .exact df (atY h q) J
  exact df (atJ h q) J
 split
 .split
  .exact df (atP h q) J
  exact df (atI h q) J
 exact atX h q
def adF{s:aG}(h:bA n s){v:dr}(aC:∀k:Nat,dC (ak v.2.2.1 k 0)):bA (n+3) (oH s v):=by
 have hf:=adJ h;unfold oH;split
 .split
  .exact at1 hf _
  split
  .exact df (at4 hf _ _ _) J
  exact df (n9 hf 0) J
 split
 .exact atV h aC _
 exact df (n9 h 0) J
def adK{s:aG}(h:bA n s)(b:V):bA (n+1003) (l6 s b):=by
 have ht:=adT h b;unfold l6;split
 .exact df ht J
 rename_i v aC;obtain⟨O,rfl⟩:=Vx aC;have ah:o0 (eR b).1:=by
  unfold eR at O ⊢
  grind
 refine HK (adF ht λk => ?_);rw[Uh O];match k with
 |0=>exact ah.1.2.1
 |1=>exact ah.1.2.2.1
 |k+2=>show dC 0;decide
def adB:∀(l:List V) {s:aG},rr s->rr (u? s l)
 |[],s,h=>h
 |b::l,s,h=>by
  unfold u?;split
  .exact h
  obtain⟨n,h⟩:=h;exact adB l ⟨_,adK h b⟩
def Q0{l:List p_}{x:p_}(hx:pU x)(hl:∀c,pU (ak l c ep))(i c:Nat):pU (ak (cj l i x) c ep):=by
 unfold ak cj;rw[nE,E5];split
 .split
  .exact hx
  exact x7
 exact hl c
theorem ay1(a:V)(s b:Int):KU (a,s,b,())=(ee a:Int):=rfl
def axU(a:V):ee a<=65535:=by have O:=(a.getD 0 0).toNat_lt;have R:=(a.getD 1 0).toNat_lt;unfold ee;omega
def Qw:∀(k:Nat) (bad:Int) (a:V),a.length<=k->pU ((hH k bad a).1,((hH k bad a).2.1:Int),(hH k bad a).2.2.1,())
 |0,bad,a,h=>by have bu:a=[]:=List.eq_nil_of_length_eq_zero J;subst bu;exact⟨by show ¬((0:Int)<0\/(65535:Int)<0\/(0:Int)<0/\0<0);omega,.inl (by show 0<2;omega)⟩
 |k+1,bad,a,h=>by
  have ht:=axU a;unfold hH;split
  .rename_i O
   exact⟨by show ¬((0:Int)<0\/(65535:Int)<0\/(0:Int)<0/\0<a.length);omega,.inl O⟩
  split
  .split
   .exact Qw k _ _ (by grind)
   rename_i R af;refine⟨?_,.inl bh⟩
   grind
  split
  .rename_i R af
   refine⟨by show ¬((0:Int)<0\/(65535:Int)<0\/(0:Int)<0/\0<a.length);omega,.inr ?_⟩;show 1<=(ee a:Int)/\(ee a:Int)<=1024/\(a.length:Int)<(ee a:Int)+2;omega
  exact Qw k _ _ (by grind)
def au1{f:p_}(h:pU f)(b:V):pU (iV f b).1:=by
 have O:=h.1;unfold iV;split
 .rename_i R
  refine⟨?_,.inl bh⟩
  grind
 exact Qw _ _ _ bh
def adI{s:aG}(h:bA n s)(c:Int)(b:V):bA n (sa s c b):=by
 have key:(hn s.e.hub c b).1.1.length=4/\(0<=(hn s.e.hub c b).1.2.2.2.1/\(hn s.e.hub c b).1.2.2.2.1<4)/\(hn s.e.hub c b).1.2.1.length=4/\(hn s.e.hub c b).1.2.2.1.length=4/\∀k,pU (ak (hn s.e.hub c b).1.2.1 k ep):=by
  unfold hn;split
  .exact⟨h.e.up,h.e.next,h.e.feed,h.e.life,h.e.fd⟩
  split
  .exact⟨h.e.up,h.e.next,h.e.feed,h.e.life,h.e.fd⟩
  refine⟨h.e.up,h.e.next,?_,h.e.life,Q0 (au1 (h.e.fd _) b) h.e.fd _⟩;unfold cj;rw[ko];exact h.e.feed
 refine⟨{ h.e with dt := ?_,up:=key.1,next:=key.2.1,feed:=key.2.2.1,life:=key.2.2.2.1,fd:=key.2.2.2.2 },h.p⟩;show(J7 _ _).length=4;unfold J7 cj;rw[ko];exact h.e.dt
def atF{s:aG}(h:rr s)(c:Int)(b:V):rr (q5 s c b):=by
 unfold q5;split
 .exact h
 obtain⟨n,h⟩:=h;exact adB _ ⟨n,adI h c b⟩
def atO{e:c_}(h:qH n e)(c:Int):qH n (nR e c):=by
 have key:(k9 e.hub c).1.1.length=4/\(0<=(k9 e.hub c).1.2.2.2.1/\(k9 e.hub c).1.2.2.2.1<4)/\(k9 e.hub c).1.2.1.length=4/\(k9 e.hub c).1.2.2.1.length=4/\∀k,pU (ak (k9 e.hub c).1.2.1 k ep):=by
  unfold k9;split
  .exact⟨h.up,h.next,h.feed,h.life,h.fd⟩
  split
  .exact⟨h.up,h.next,h.feed,h.life,h.fd⟩
  refine⟨?_,h.next,?_,h.life,Q0 x7 h.fd _⟩
  .unfold cj;rw[ko];exact h.up
  unfold cj;rw[ko];exact h.feed
 exact{ h with up:=key.1,next:=key.2.1,feed:=key.2.2.1,life:=key.2.2.2.1,fd:=key.2.2.2.2 }
def adR{s:aG}(h:bA n s)(c:Int):bA n ⟨{ s.e with hub:=(lr s.e.hub c).1 },s.p⟩:=by
 have key:(lr s.e.hub c).1.1.length=4/\(0<=(lr s.e.hub c).1.2.2.2.1/\(lr s.e.hub c).1.2.2.2.1<4)/\(lr s.e.hub c).1.2.1.length=4/\(lr s.e.hub c).1.2.2.1.length=4/\∀k,pU (ak (lr s.e.hub c).1.2.1 k ep):=by
  unfold lr;split
  .exact⟨h.e.up,h.e.next,h.e.feed,h.e.life,h.e.fd⟩
  split
  .exact⟨h.e.up,h.e.next,h.e.feed,h.e.life,h.e.fd⟩
  refine⟨?_,h.e.next,?_,?_,Q0 x7 h.e.fd _⟩
  .unfold cj;rw[ko];exact h.e.up
  .unfold cj;rw[ko];exact h.e.feed
  unfold cj;rw[ko];exact h.e.life
 exact⟨{ h.e with up:=key.1,next:=key.2.1,feed:=key.2.2.1,life:=key.2.2.2.1,fd:=key.2.2.2.2 },h.p⟩
def at0{s:aG}(h:bA n s)(c:Int):bA (n+1000) (vZ s c).1:=by
 unfold vZ;split
 .exact df h J
 split
 .exact df h J
 exact HK (adR h c)
def av3{r:fc}(h:lR r):lR (IX r):=by
 unfold IX;rcases h with rfl|⟨O,R,af,aq,a8,cS⟩
 .exact .inl rfl
 refine .inr ⟨O,R,af,aq,?_,cS⟩
 grind
def HL{s:aG}(h:bA n s):bA n (H_ s):=⟨{ h.e with ring:=av3 h.e.ring },h.p⟩
def Ut{a:eS}(h:AN a):AN (mo a).1:=by
 unfold mo;split
 .exact h
 rename_i ao;obtain⟨O,R,af,aq,a8⟩:=h.resolve_left ao;split
 .refine .inr ⟨O,?_,?_,aq,a8⟩
  .grind
  grind
 split
 .refine .inr ⟨O,by show(1:Int)<=8;decide,by show(8:Int)<=8;decide,?_,?_⟩
  .grind
  grind
 exact .inl rfl
def adW{s:aG}(h:bA n s){a:eS}(bu:AN a):bA n (yv s a):=⟨{ h.e with askr:=bu },h.p⟩
def atT{s:aG}(h:bA n s):bA n (zo s):=by
 unfold zo;split
 .exact⟨{ h.e with askr:=.inl rfl,ph:=⟨by show(0:Int)<=3;omega,by show(3:Int)<=8;omega⟩ },h.p⟩
 exact h
def atH{s:aG}(h:bA n s)(a:eS):bA (n+1) (y1 s a):=by
 unfold y1;split
 .exact Mw h _ _
 exact qI h _
def atN{s:aG}(h:bA n s):bA (n+1) (za s):=by
 unfold za;split
 .exact df (adL h) J
 split
 .exact df (atT h) J
 exact atU h
def TM{s:aG}(h:bA n s):bA (n+1) (uC s):=by
 have bb:=adW h (Ut h.e.askr);unfold uC;split
 .exact atH bb _
 split
 .exact atN bb
 exact df bb J
def adU{s:aG}(h:bA n s):bA (n+1001) (kG s):=by
 unfold kG;split
 .exact df h J
 split
 .split
  .exact df (adN (HL h)) J
  exact HK (TM (HL h))
 exact HK (TM h)
def atR{s:aG}(h:bA n s)(a:dy):bA (n+1001) (tD s a).1:=by
 unfold tD;split
 .exact at3 h _
 split
 .exact df (adN h) J
 split
 .exact df (atM h) J
 split
 .exact df (atS h) J
 split
 .exact df (atW h _) J
 split
 .exact df (atQ h _) J
 split
 .exact adU h
 split
 .exact df (adE h) J
 split
 .split
  .exact df (atL h) J
  exact df h J
 split
 .exact df ⟨{ h.e with },h.p⟩ J
 exact df h J
def abQ(c:Int):GU (c,())=some (D (l3 c),()):=by unfold GU l3;simp only[go_sem]
def abR(h:eO)(c:Int)(b:Bool):GV (h,c,b,()) =
  (if ¬l3 c then some (h,1,()) else if ak h.1 c.toNat false=b then some (h,9,()) else some ((cj h.1 c.toNat b,cj h.2.1 c.toNat ep,h.2.2),0,())):=by
 unfold GV;rw[abQ];by_cases ai:l3 c
 .rw[cD ai,if_neg (not_not_intro ai)]
  have aq:aU c (bf 4)=true:=by simp only[go_sem];exact ai
  refine(bn aq ?_);by_cases aA:ak h.1 c.toNat false=b
  .rw[if_pos aA]
   exact ce (by rw[g43,g33];exact cD aA)
  rw[if_neg aA];exact a1 (by rw[g43,g33];exact cC aA) (bn aq (dR aq))
 rw[cC ai,if_pos ai];rfl
def aq4(h:eO)(c:Int):LH (h,c,())=some ((k9 h c).1,(k9 h c).2,()):=by
 unfold LH k9;rw[abR];by_cases ai:l3 c
 .rw[if_neg (not_not_intro ai),if_neg (not_not_intro ai)]
  by_cases aA:ak h.1 c.toNat false=false
  .rw[if_pos aA,if_pos (by unfold mW;rw[aA];simp)];rfl
  rw[if_neg aA,if_neg (by rw[Bool.not_eq_false]at aA;exact not_not_intro aA)];rfl
 rw[if_pos ai,if_pos ai];rfl
def aq7(h:eO)(c:Int):LJ (h,c,())=some ((lr h c).1,(lr h c).2,()):=by
 unfold LJ lr;rw[abR];by_cases ai:l3 c
 .rw[if_neg (not_not_intro ai),if_neg (not_not_intro ai)]
  have aq:aU c (bf 4)=true:=by simp only[go_sem];exact ai
  by_cases aA:ak h.1 c.toNat false=true
  .rw[if_pos aA,if_pos (show mW h c from aA)];rfl
  rw[if_neg aA,if_neg (show ¬mW h c from aA)];exact((bn aq (dR aq)))
 rw[if_pos ai,if_pos ai];rfl
def av8{r:fc}(h:0<=r.2.2.2.1/\r.2.2.2.1<=1000000):M4 (r,())=some (IX r,()):=by
 unfold M4 IX;have e:cT 0 (i64 (bi r.2.2.2.1 1))=max 0 (r.2.2.2.1-1):=by rw[g58,show i64 (bi r.2.2.2.1 1)=r.2.2.2.1-1 from hM (by show -9223372036854775808<=r.2.2.2.1-1;omega) (by show r.2.2.2.1-1<=9223372036854775807;omega)]
 rw[e];by_cases hl:r.2.2.2.1<=1
 .rw[if_pos hl];exact ce (cJ J)
 rw[if_neg hl];exact b1 (cr J)
theorem azP(r:fc):M6 ((r,()),())=some ([r.1,r.2.1,r.2.2.1],()):=rfl
def av5(r:fc)(no:Int):H? (r,no,())=some (qk r no):=by
 unfold H? qk;refine bg rfl ?_;dsimp only;generalize hf:(λab=>(_:Option (aE (Bool×Int×Unit) (V×Bool×Unit))))=f;have g:∀(i:Nat) (Ga:ws),i<3->ak [r.1,r.2.1,r.2.2.1] i j0=Ga->f (false,(i:Int),())=if no<1\/¬Ga.1=no then some (.nx (false,((i+1:Nat):Int),())) else some (.rt (Ga.2.1,true,())):=by
  intro i Ga hi hg;subst hf;have gG:i64 (av (i:Int) 1)=((i+1:Nat):Int):=fP (by show(i:Int)+1=_;omega) J;refine bq (dj (by show(i:Int)<3;omega)) (bn cM ?_);rw[he,hg,gG];by_cases ao:no<1
  .rw[if_pos (.inl ao)]
   exact bg (b1 (c3 J)) (b1 rfl)
  by_cases O:Ga.1=no
  .rw[if_neg (by rintro(h|h);exact ao h;exact h O)]
   exact bg (a:=(true,())) (bq (dj J) (by rw[cJ O])) (ce rfl)
  rw[if_pos (.inr O)];exact bg (a:=(false,())) (bq (dj J) (by rw[cr O])) (b1 rfl)
 have f7:f (false,3,())=some (.ex 0 (false,3,())):=by subst hf;exact b1 (c3 (by show ¬(3:Int)<3;omega))
 have g0:=g 0 r.1 J rfl;have g1:=g 1 r.2.1 J rfl;have bw:=g 2 r.2.2.1 J rfl;by_cases ao:no<1
 .rw[if_pos ao]
  rw[if_pos (.inl ao)]at g0 g1 bw;exact(c' ((ez g0).trans ((ez g1).trans ((ez bw).trans (d_ f7)))))
 rw[if_neg ao];by_cases O:r.1.1=no
 .rw[if_pos O]
  rw[if_neg (by rintro(h|h);exact ao h;exact h O)]at g0;exact(c' (pN g0))
 rw[if_neg O];rw[if_pos (.inr O)]at g0;by_cases R:r.2.1.1=no
 .rw[if_pos R]
  rw[if_neg (by rintro(h|h);exact ao h;exact h R)]at g1;exact(c' ((ez g0).trans (pN g1)))
 rw[if_neg R];rw[if_pos (.inr R)]at g1;by_cases af:r.2.2.1.1=no
 .rw[if_pos af]
  rw[if_neg (by rintro(h|h);exact ao h;exact h af)]at bw;exact(c' ((ez g0).trans ((ez g1).trans (pN bw))))
 rw[if_neg af];rw[if_pos (.inr af)]at bw;exact(c' ((ez g0).trans ((ez g1).trans ((ez bw).trans (d_ f7)))))
def aiV{a:eS}(h:AN a):B1 (a,())=some ((mo a).1,(mo a).2.1,(mo a).2.2,()):=by
 unfold B1 mo;rw[WW];by_cases ao:a=jV
 .rw[cD ao,if_pos ao];rfl
 rw[cC ao,if_neg ao];rcases h with h|⟨_,O,R,af,aq⟩
 .grind
 have e1:i64 (bi a.2.2.1 1)=a.2.2.1-1:=hM (by show -9223372036854775808<=a.2.2.1-1;omega) (by show a.2.2.1-1<=9223372036854775807;omega);have aN:i64 (bi a.2.2.2.1 1)=a.2.2.2.1-1:=hM (by show -9223372036854775808<=a.2.2.2.1-1;omega) (by show a.2.2.2.1-1<=9223372036854775807;omega);rw[e1,aN];by_cases a8:1<a.2.2.1
 .rw[if_pos a8];exact ce (dj J)
 rw[if_neg a8];refine(b1 (c3 J)).trans ?_;by_cases cS:0<a.2.2.2.1
 .rw[if_pos cS,dj cS];rfl
 rw[if_neg cS,c3 cS];rfl
def auT(p:fm)(k b t:V)(ap:k.length<=1000000)(Y:b.length<=1000000):DG (p,k,b,t,())=some (AB p k b t):=by
 unfold DG;rw[T_ _ _ ap Y];refine bg rfl ?_;rw[L_ _ _ (by rw[AP];omega)];unfold AB;obtain⟨i,l,f,⟨⟩⟩:=p;by_cases ht:jX k b=t
 .rw[if_pos ht]
  refine a1 (by first|rw[AZ ht];rfl) ?_;rw[ael];by_cases h:(k,b,())∈l
  .rw[cD h,if_pos h];cases f<;>rfl
  rw[cC h,if_neg h];cases f<;>rfl
 rw[if_neg ht];exact ce (by first|rw[o4 ht];rfl)
def E_:=@UInt64.toNat_inj
def auc(a b:UInt64):u64 (gM .u64 (cB a) (cB b))=a|||b:=by
 unfold gM;refine E_.1 ?_;have bu:(BitVec.ofInt IntKind.u64.bits (cB a))=a.toBitVec:=by show BitVec.ofInt 64 ((a.toNat:Nat):Int)=_;exact wE bh
 have Y:(BitVec.ofInt IntKind.u64.bits (cB b))=b.toBitVec:=by show BitVec.ofInt 64 ((b.toNat:Nat):Int)=_;exact wE bh
 rw[bu,Y];have:=Dm (a:=(((a|||b).toNat:Nat):Int)) (by have:=(a|||b).toNat_lt;omega);exact E1 this
def aiF(a b:UInt64):u64 (iI .u64 (cB a) (cB b))=a&&&b:=by
 unfold iI;refine E_.1 ?_;have bu:(BitVec.ofInt IntKind.u64.bits (cB a))=a.toBitVec:=by show BitVec.ofInt 64 ((a.toNat:Nat):Int)=_;exact wE bh
 have Y:(BitVec.ofInt IntKind.u64.bits (cB b))=b.toBitVec:=by show BitVec.ofInt 64 ((b.toNat:Nat):Int)=_;exact wE bh
 rw[bu,Y];have:=Dm (a:=(((a&&&b).toNat:Nat):Int)) (by have:=(a&&&b).toNat_lt;omega);exact E1 this
def ayL(a b:UInt64):u64 (fA .u64 (cB a) (cB b))=a^^^b:=by
 unfold fA;refine E_.1 ?_;have bu:(BitVec.ofInt IntKind.u64.bits (cB a))=a.toBitVec:=by show BitVec.ofInt 64 ((a.toNat:Nat):Int)=_;exact wE bh
 have Y:(BitVec.ofInt IntKind.u64.bits (cB b))=b.toBitVec:=by show BitVec.ofInt 64 ((b.toNat:Nat):Int)=_;exact wE bh
 rw[bu,Y];have:=Dm (a:=(((a^^^b).toNat:Nat):Int)) (by have:=(a^^^b).toNat_lt;omega);exact E1 this
def Fi(w:gX)(p:Nat):jd w p=(ak w.2.1 (p/64) (u64 0)).toNat.testBit (p%64):=by rw[Nat.testBit_eq_decide_div_mod_eq];rfl
def W?{l m:List UInt64}(hl:l.length=16)(hm:m.length=16){t u:Int}(h:∀p,p<1024->jd (t,l,()) p=jd (u,m,()) p):l=m:=by
 refine tg (hl.trans hm.symm) λi O R => ?_;refine E_.1 (Nat.eq_of_testBit_eq λj => ?_);by_cases an:j<64
 .have:=h (64*i+j) J
  rw[Fi,Fi,show(64*i+j)/64=i by omega,show(64*i+j)%64=j by omega]at this;rw[show ak (((t,l,()):gX).2.1) i (u64 0)=l[i] from nth_get O,show ak (((u,m,()):gX).2.1) i (u64 0)=m[i] from nth_get R]at this;exact this
 have hp:2^64<=2^j:=BD J J;rw[Nat.testBit_lt_two_pow (hU (l[i]).toNat_lt hp),Nat.testBit_lt_two_pow (hU (m[i]).toNat_lt hp)]
def W9{g i0:Nat->Bool}(h:∀p,p<1024->g p=i0 p):oD g=oD i0:=
 W? (t:=0) (u:=0) (Fj g) (Fj i0) λp hp=>by rw[B4 _ _ hp,B4 _ _ hp];exact h p hp
def Pv{l:List UInt64}(hl:l.length=16){t:Int}{g:Nat->Bool}(h:∀p,p<1024->jd (t,l,()) p=g p):l=oD g:=
 W? (t:=t) (u:=0) hl (Fj g) λp hp=>by rw[B4 _ _ hp];exact h p hp
def tx(k:Nat):UInt64:=UInt64.ofNat (2^k)
def PA(h:k<64):(tx k).toNat=2^k:=by exact lY (Nat.pow_lt_pow_right J h)
def Xd(h:k<64)(j:Nat):(tx k).toNat.testBit j=decide (k=j):=by rw[PA h,Nat.testBit_two_pow]
def ahr{n:Int}(h:0<=n):I? (n,())=some ((((n%1024).toNat/64:Nat):Int),tx ((n%1024).toNat%64),()):=by
 unfold I?;obtain⟨q,a2⟩:∃q:Nat,n%1024=(q:Int):=⟨(n%1024).toNat,J⟩;have e1:dh n 1024=(q:Int):=by rw[g32 h];exact a2
 have aN:dh (q:Int) 64=((q%64:Nat):Int):=by rw[g32 J];omega
 have dJ:i64 (fg (q:Int) 64)=((q/64:Nat):Int):=by exact fP rfl J
 rw[e1,aN,dJ,a2,iZ];refine bn rfl ?_;have gQ:u64 (ho IntKind.u64 (cB (u64 1)) ((q%64:Nat):Int))=tx (q%64):=by
  refine E_.1 ?_;rw[PA (tc _ J)];have oI:ho IntKind.u64 (cB (u64 1)) ((q%64:Nat):Int)=((2^(q%64):Nat):Int):=by unfold ho;rw[iZ,show IntKind.u64.bits=64 from rfl,show cB (u64 1)=1 from Dm bP,Int.one_mul,show Nat.min (q%64) 64=q%64 from E' J];rfl
  rw[oI];have aoj:=auQ (k:=q%64) J;have:∀m:Nat,m<=9223372036854775808->cB (u64 (m:Int))=(m:Int):=λm hm=>Dm J;exact E1 (this _ aoj)
 rw[gQ]
def ayq{w:gX}(bb:w.2.1.length=16){n:Int}(h:0<=n):N_ (w,n,())=some (jd w (n%1024).toNat,()):=by
 unfold N_;rw[ahr h];have sw:(n%1024).toNat<1024:=J;generalize(n%1024).toNat=q at sw;refine bn cM ?_;rw[aiF,he,Fi];generalize ak w.2.1 (q/64) (u64 0)=x;congr 2;have e:(x&&&tx (q%64)).toNat=if x.toNat.testBit (q%64) then 2^(q%64) else 0:=by
  rw[UInt64.toNat_and,PA (tc _ J)];refine Nat.eq_of_testBit_eq λj => ?_
  grind
 have hp:0<2^(q%64):=wJ J;rw[ atc,e];generalize 2^(q%64)=m at hp;cases x.toNat.testBit (q%64)
 .rfl
 show a_ (ag ((m:Nat):Int) 0)=true;rw[cr J];rfl
def ayo{w:gX}(bb:w.2.1.length=16)(ht:0<=w.1/\w.1<=4611686018427387905)(n:Int):V0 (w,n,())=some (D (dC n/\xa w n),()):=by
 by_cases h:dC n
 .have ao:=h.1
  have O:=h.2;by_cases R:w.1<=n
  .refine bg (a:=(true,())) (bq (hN ao) (bq (hN O) (ce (hN R)))) ?_
   rw[cD ⟨h,.inl R⟩]
  have e:i64 (bi w.1 1024)=w.1-1024:=hM (by show -9223372036854775808<=w.1-1024;omega) (by show w.1-1024<=9223372036854775807;omega);by_cases af:w.1-1024<=n
  .refine bg (a:=(a_ (jd w (n%1024).toNat),())) (bq (hN ao) (bq (hN O) (a1 (oS R) (bq (by rw[e];exact hN af) ?_)))) ?_
   .rw[ayq bb ao];rfl
   cases Y:jd w (n%1024).toNat
   .rw[cD ⟨h,.inr ⟨af,Y⟩⟩];rfl
   rw[cC (λbL=>bL.2.elim R (λLi=>by rw[Y]at Li;exact absurd Li.2 bh))];rfl
  refine bg (a:=(false,())) (bq (hN ao) (bq (hN O) (a1 (oS R) (b1 (by rw[e];exact oS af))))) ?_;rw[cC (λbL=>bL.2.elim R (λLi=>af Li.1))]
 rw[cC (λbL=>h bL.1)];by_cases ao:0<=n
 .refine(dL (a:=(false,())) (bq (hN ao) (b1 (oS λO=>h ⟨ao,O⟩))))
 exact(dL (a:=(false,())) (b1 (oS ao)))
def Io(w:gX)(n:Int)(b:Bool):gX:=(w.1,oD (λp=>if p=(n%1024).toNat then b else jd w p),())
def Pt{l:List UInt64}(hl:l.length=16){t:Int}{q:Nat}(a2:q<1024){x:UInt64}{b:Bool}
  (hx:∀j,x.toNat.testBit j=if j=q%64 then b else(ak l (q/64) (u64 0)).toNat.testBit j) {p:Nat} (hp:p<1024) :
  jd (t,cj l (q/64) x,()) p=if p=q then b else jd (t,l,()) p:=by
 rw[Fi,Fi];have an:p/64<l.length:=J;have l_:p/64<(l.set (q/64) x).length:=by rw[ko];exact an
 show(ak (l.set (q/64) x) (p/64) (u64 0)).toNat.testBit (p%64)=_;rw[nth_get l_,OD];by_cases h:q/64=p/64
 .grind
 rw[if_neg h,if_neg J,nth_get an]
def ahs{w:gX}(bb:w.2.1.length=16){n:Int}(h:0<=n)(b:Bool):yu (w,n,b,())=some (Io w n b,()):=by
 unfold yu Io;rw[ahr h];have sw:(n%1024).toNat<1024:=J;generalize(n%1024).toNat=q at sw;have hi:q/64<w.2.1.length:=J;refine bn cM (bn cM ?_);simp only[auc,ayL,he];have li:∀j,(ak w.2.1 (q/64) (u64 0)|||tx (q%64)).toNat.testBit j=if j=q%64 then true else(ak w.2.1 (q/64) (u64 0)).toNat.testBit j:=by
  intro j;rw[UInt64.toNat_or,E0,Xd (tc _ J)]
  grind
 have vn:(cj w.2.1 (q/64) (ak w.2.1 (q/64) (u64 0)|||tx (q%64))).length=16:=by unfold cj;rw[ko];exact bb
 cases b
 .refine(bn cM (bn cM ?_))
  congr 4;have aj:ak (cj w.2.1 (q/64) (ak w.2.1 (q/64) (u64 0)|||tx (q%64))) (q/64) (u64 0)=ak w.2.1 (q/64) (u64 0)|||tx (q%64):=by
   have:q/64<(w.2.1.set (q/64) (ak w.2.1 (q/64) (u64 0)|||tx (q%64))).length:=by rw[ko];exact hi
   show ak (w.2.1.set (q/64) _) (q/64) (u64 0)=_;rw[nth_get this,List.getElem_set_self]
  refine Pv (t:=w.1) (by unfold cj at vn ⊢;rw[ko];exact vn) λp hp => ?_;rw[Pt vn sw (b:=false) (λj => ?_) hp]
  .by_cases R:p=q
   .grind
   rw[if_neg R,if_neg R,Pt bb sw li hp,if_neg R]
  rw[aj,UInt64.toNat_xor,Nat.testBit_xor,li,Xd (tc _ J)]
  grind
 refine a1 rfl ?_;congr 4;refine Pv (t:=w.1) vn λp hp => ?_;exact Pt bb sw li hp
def kL(w:gX)(t:Int)(k:Nat):gX:=(w.1,oD (λp=>cY (jd w p) (D (¬∃m,t<=m/\m<t+k/\m%1024=(p:Int)))),())
def YB(w:gX)(t:Int)(k:Nat):(kL w t k).1=w.1:=by unfold kL;rfl
def YA(w:gX)(t:Int)(k:Nat):(kL w t k).2.1.length=16:=by unfold kL;dsimp only;exact Fj _
def alW(w:gX)(t:Int)(k:Nat)(u:Int){p:Nat}(hp:p<1024):jd (u,(kL w t k).2) p=cY (jd w p) (D (¬∃m,t<=m/\m<t+k/\m%1024=(p:Int))):=by exact B4 _ _ hp
def alY{w:gX}(bb:w.2.1.length=16)(t:Int):kL w t 0=w:=by obtain⟨a,l,⟨⟩⟩:=w;unfold kL;congr 2;refine(Pv (t:=a) bb λp hp => ?_).symm;rw[cD J];cases jd (a,l,()) p<;>rfl
def alX(w:gX){t:Int}(ht:0<=t)(k:Nat):Io (kL w t k) (t+k) false=kL w t (k+1):=by
 unfold Io;unfold kL;congr 2;refine W9 λp hp => ?_;rw[B4 _ _ hp];by_cases h:p=((t+(k:Int))%1024).toNat
 .rw[if_pos h,cC]
  .cases jd w p<;>rfl
  exact not_not_intro ⟨t+k,J,J,J⟩
 rw[if_neg h];congr 2;refine propext (not_congr ⟨λ⟨m,O,R,af⟩=>⟨m,O,J,af⟩,λ⟨m,O,R,af⟩=>⟨m,O,?_,af⟩⟩);omega
def ayp{w:gX}(bb:w.2.1.length=16)(ht:0<=w.1/\w.1<=4611686018427387905)(n:Int):Ev (w,n,())=some ((kT w n).1,(kT w n).2,()):=by
 unfold Ev kT;dsimp only;by_cases h:dC n
 .have ao:=h.1
  have O:=h.2;rw[if_neg (not_not_intro h)];refine(dL (a:=(false,())) ((b1 (c3 J)).trans (by rw[c3 J]))).trans ((b1 rfl).trans ?_);rw[ayo bb ht];by_cases hf:xa w n
  .rw[cD ⟨h,hf⟩,if_neg (not_not_intro hf)]
   have e1:i64 (bi n w.1)=n-w.1:=hM (by show -9223372036854775808<=n-w.1;omega) (by show n-w.1<=9223372036854775807;omega);have aN:cT w.1 (i64 (av n 1))=max w.1 (n+1):=by rw[g58,show i64 (av n 1)=n+1 from hM (by show -9223372036854775808<=n+1;omega) (by show n+1<=9223372036854775807;omega)]
   obtain⟨K,fN⟩:∃K:Nat,fE (cT (n-w.1) 0) 1024=(K:Int):=⟨(fE (cT (n-w.1) 0) 1024).toNat,by rw[g57,g58];omega⟩;have lc:(K:Int)=min (max (n-w.1) 0) 1024:=by rw[<- fN,g57,g58]
   simp only[e1];generalize hg:(λab=>(_:Option (aE (Int×gX×Unit) (gX×Int×Unit))))=f;have run:∀w0:gX,w0.1=w.1->w0.2.1.length=16->bN f (0,w0,())=some (.ex 0 ((K:Int),kL w0 w.1 K,())):=by
    intro w0 Ry Rz;have step:∀i:Nat,i<K->f ((i:Int),kL w0 w.1 i,())=some (.nx (((i+1:Nat):Int),kL w0 w.1 (i+1),())):=by
     intro i hi;subst hg;have gG:i64 (av (i:Int) 1)=((i+1:Nat):Int):=fP (by show(i:Int)+1=_;omega) J;refine(ce (dj J)).trans ?_;have dJ:i64 (av (kL w0 w.1 i).1 (i:Int))=w.1+i:=by rw[YB,Ry];exact hM (by show -9223372036854775808<=w.1+(i:Int);omega) (by show w.1+(i:Int)<=9223372036854775807;omega)
     rw[dJ,ahs (YA _ _ _) J,alX w0 J,gG];rfl
    have f7:f ((K:Int),kL w0 w.1 K,())=some (.ex 0 ((K:Int),kL w0 w.1 K,())):=by subst hg;exact b1 (c3 J)
    have:=(md (f:=f) (λi=>((i:Int),kL w0 w.1 i,())) K step 0 (fK _)).trans (d_ f7);rw[show kL w0 w.1 0=w0 from alY Rz w.1]at this;exact this
   have last:∀w0:gX,w0.1=w.1->(∀p,p<1024->cY (jd w0 p) (D (¬wV w n p))=cY (jd w p) (D (¬wV w n p))) ->
     (am (bZ 0 0) (ob (yu ((cT (kL w0 w.1 K).1 (i64 (av n 1)),(kL w0 w.1 K).2),n,true,())) λa=>some (a.1,0,())):Option (gX×Int×Unit)) =
     some ((max w.1 (n+1),oD (λp=>l2 (D ((p:Int)=n%1024)) (cY (jd w p) (D (¬wV w n p)))),()),0,()):=by
    intro w0 Ry Rz;refine(dR g62).trans ?_;rw[YB,Ry,aN,ahs (w:=(max w.1 (n+1),(kL w0 w.1 K).2)) (YA w0 w.1 K) ao];refine(dL rfl).trans ?_;unfold Io;dsimp only;congr 4;refine W9 λp hp => ?_;have gQ:jd (max w.1 (n+1),(kL w0 w.1 K).2) p=cY (jd w0 p) (D (¬∃m,w.1<=m/\m<w.1+K/\m%1024=(p:Int))):=alW _ _ _ _ hp;rw[gQ];by_cases ma:p=(n%1024).toNat
    .rw[if_pos ma,cD (show(p:Int)=n%1024 by omega)];rfl
    rw[if_neg ma,cC (show ¬(p:Int)=n%1024 by omega),<- Rz p hp];congr 2;refine propext (not_congr ?_);constructor
    .rintro⟨m,bD,cn,gJ⟩;exact⟨m,bD,J,gJ⟩
    rintro⟨m,bD,cn,gJ⟩;refine⟨w.1+(m-w.1)%1024,J,J,J⟩
   by_cases Y:1024<=n-w.1
   .refine(ce (hN Y)).trans ?_
    refine(c' (run (w.1,sJ.2.1,w.2.2) rfl rfl)).trans (?_);refine last (w.1,sJ.2.1,w.2.2) rfl λp hp => ?_;rw[cC (p:=¬wV w n p) (not_not_intro ⟨w.1+((p:Int)-w.1)%1024,J,J,J⟩),g45,g45]
   refine(b1 (oS Y)).trans ?_;refine(c' (run w rfl bb)).trans (?_);exact last w rfl λp hp=>rfl
  rw[cC (λbL=>hf bL.2),if_pos hf];refine(ce rfl)
 rw[if_pos h];by_cases ao:n<0
 .exact(dL (a:=(true,())) (ce (dj ao))).trans (ce rfl)
 refine(dL (a:=(true,())) ((b1 (c3 ao)).trans (by rw[dj];by_cases O:4611686018427387904<n;exact O;exact absurd ⟨J,J⟩ h))).trans (ce rfl)
def FA(l:V)(h:l.length<=100000000):mU (l,())=some (l,()):=by exact dR cM
def Vv{a w:Int}(bb:1<=w/\w<8)(bu:0<=a/\a+w<=b.length):jp b a w=(fj b a w,a+w,0,()):=by
 have:jp b a w=((my (ec b a.toNat w.toNat):Int),a+w,0,()):=by
  unfold jp
  grind
 unfold fj
 grind
def Vu{a:Int}(bu:0<=a/\a+8<=b.length):jp b a 8=(fj b a 8,a+8,0,())\/jp b a 8=(0,0,2,())/\fj b a 8 = -1:=by
 by_cases h:(8:Int)=8/\127<(ak b a.toNat (u8 0)).toNat
 .have:jp b a 8=(0,0,2,()):=by
   unfold jp
   grind
  unfold fj
  grind
 have:jp b a 8=((my (ec b a.toNat (8:Int).toNat):Int),a+8,0,()):=by
  unfold jp
  grind
 unfold fj
 grind
def amM(b:V):KO (b,())=some (eR b):=by
 unfold KO eR;by_cases O:b.length<47
 .rw[if_pos O];exact ce (dj (by show(b.length:Int)<47;omega))
 rw[if_neg O];refine a1 (c3 (by show ¬(b.length:Int)<47;omega)) ?_;by_cases R:946<b.length
 .rw[if_pos R];exact ce (dj (by show(946:Int)<(b.length:Int);omega))
 rw[if_neg R];refine a1 (c3 (by show ¬(946:Int)<(b.length:Int);omega)) ?_;have Y:b.length<=1000000:=J;have e:i64 (bi (len b) 16)=((b.length-16:Nat):Int):=fP (by show(b.length:Int)-16=_;omega) J;have bp:sub b 30 ((b.length-16:Nat):Int)=(b.drop 30).take (b.length-46):=by rfl
 have ax:sub b ((b.length-16:Nat):Int) (len b)=b.drop (b.length-16):=by unfold sub;rw[iZ,hS];rw[fb];show _<=(b.length:Int).toNat-_;omega
 have c1:ca 30 ((b.length-16:Nat):Int) (len b)=true:=cM;have c2:ca ((b.length-16:Nat):Int) (len b) (len b)=true:=cM;have eX:((b.drop 30).take (b.length-46)).length<=1000000:=by rw[hE];omega
 have f8:(b.drop (b.length-16)).length<=1000000:=by rw[fb];omega
 have two:∀k:V×Unit->V×Unit->Option (dr×Int×Unit),(am (ca 30 (i64 (bi (len b) 16)) (len b)) (ob (mU (sub b 30 (i64 (bi (len b) 16)),())) λc=>
   am (ca (i64 (bi (len b) 16)) (len b) (len b)) (ob (mU (sub b (i64 (bi (len b) 16)) (len b),())) λd=>k c d)))=k ((b.drop 30).take (b.length-46),()) (b.drop (b.length-16),()):=by
  intro k;rw[e,bp,ax];exact bn c1 ((bJ (FA _ J)).trans ((bn c2 ((bJ (FA _ J)).trans (dL rfl)))))
 have pS:∀(a w:Int) (k:Int×Int×Int×Unit->Option (dr×Int×Unit)),ob (la (b,a,w,())) k=k (jp b a w):=λa w k=>(bJ (Y1 b a w Y)).trans (dL rfl);have C2:aU 0 (bf 2)=true:=rfl;have sy:aU (i64 (av 0 1)) (bf 2)=true:=rfl;have G4:aU 1 (bf 2)=true:=rfl;have zV:aU 0 (bf 1)=true:=rfl;have um:=Vv (b:=b) (a:=0) (w:=1) J J;have bG:=Vv (b:=b) (a:=1) (w:=1) J J;have dl:=Vv (b:=b) (a:=18) (w:=4) J J;rw[show(0:Int)+1=1 from rfl]at um;rw[show(1:Int)+1=2 from rfl]at bG;rw[show(18:Int)+4=22 from rfl]at dl;have asH:cT 0 1=1:=rfl;have asI:cT 1 2=2:=rfl;have TB:fj b 2 8 = -1\/fj b 10 8 = -1\/fj b 22 8 = -1->¬o0 (rD b):=by
  intro h ah;have hp:=by first|exact ah.1|exact ah.2|exact ah
  unfold mi dC at hp;have ahJ:d4 (rD b)=fj b 2 8:=rfl;have azZ:e1 (rD b)=fj b 10 8:=rfl;have z3:(rD b).2.2.2.2.1=fj b 22 8:=rfl;omega
 refine bn C2 ((pS _ _ _).trans (bn sy ((pS _ _ _).trans ?_)));rw[um];rw[asH,bG];rw[asI];refine(bn C2 (bn G4 (bn C2 ((pS _ _ _).trans ((bn sy ((pS _ _ _).trans ?_)))))));rcases Vu (b:=b) (a:=2) J with b_|⟨b_,qE⟩
 .rw[show(2:Int)+8=10 from rfl]at b_
  rw[b_];rw[show cT 2 10=10 from rfl];refine(bn zV ((pS _ _ _).trans ?_));rcases Vu (b:=b) (a:=10) J with co|⟨co,HC⟩
  .rw[show(10:Int)+8=18 from rfl]at co
   rw[co];rw[show cT 10 18=18 from rfl,dl];rw[show cT 18 22=22 from rfl];refine(bn zV ((pS _ _ _).trans (((two _).trans ?_))));have aC:Cn ((fj b 0 1,fj b 1 1,cj (cj [0,0] (aa 0) (fj b 2 8)) (aa 1) (fj b 10 8),fj b 18 4,(jp b 22 8).1,(b.drop 30).take (b.length-46),b.drop (b.length-16),()),())=some (D (o0 (fj b 0 1,fj b 1 1,[fj b 2 8,fj b 10 8],fj b 18 4,(jp b 22 8).1,(b.drop 30).take (b.length-46),b.drop (b.length-16),())),()):=Zj _;rcases Vu (b:=b) (a:=22) J with eQ|⟨eQ,atb⟩
   .rw[eQ]at aC ⊢
    rw[aC];by_cases ah:o0 (rD b)
    .rw[show o0 (fj b 0 1,fj b 1 1,[fj b 2 8,fj b 10 8],fj b 18 4,fj b 22 8,(b.drop 30).take (b.length-46),b.drop (b.length-16),())=o0 (rD b) from rfl,cD ah,if_pos ah];rfl
    rw[show o0 (fj b 0 1,fj b 1 1,[fj b 2 8,fj b 10 8],fj b 18 4,fj b 22 8,(b.drop 30).take (b.length-46),b.drop (b.length-16),())=o0 (rD b) from rfl,cC ah,if_neg ah];rfl
   rw[eQ,if_neg (TB (.inr (.inr atb)))];rfl
  rw[co,if_neg (TB (.inr (.inl HC)))];exact(bn zV ((pS _ _ _).trans (two _)))
 rw[b_,if_neg (TB (.inl qE))];exact(bn zV ((pS _ _ _).trans (bn zV ((pS _ _ _).trans (two _)))))
def WO:∀{l m:List Int},l.length=m.length->(uX (λ(p q:Int)=>ag p q) l m=true↔l=m)
 |[],[],_=>by simp[uX]
 |a::l,b::m,h=>by have ih:=WO (l:=l) (m:=m) (by grind);unfold uX at ih ⊢;rw[List.zip_cons_cons,uM,cL,ih,yQ];refine and_congr_left λ_ => ?_;exact beq_iff_eq
def LZ(s:aG):ke (s.t,2,())=some ((gy s 0).t,()):=by exact(c' (t? 5 rfl)).trans rfl
def asj(s:aG):ke (s.t,5,())=some ((gy s 1).t,()):=by exact(c' (t? 5 rfl)).trans rfl
def asl(s:aG):ke (s.t,6,())=some ((gy s 2).t,()):=by exact(c' (t? 5 rfl)).trans rfl
def Uk{g:ws}(h:g=jF\/sR g):g.2.1.length<=32:=by
 rcases h with rfl|h
 .show([]:V).length<=32;simp
 exact E2 h.2.2
def av0{r:fc}(h:lR r):r.1.2.1.length<=32/\r.2.1.2.1.length<=32/\r.2.2.1.2.1.length<=32:=by
 rcases h with rfl|⟨O,_,_,_,R,af⟩
 .exact⟨by show([]:V).length<=32;simp,by show([]:V).length<=32;simp,by show([]:V).length<=32;simp⟩
 refine⟨Uk (.inr O),Uk ?_,Uk ?_⟩
 .grind
 grind
def ani{r:fc}(h:lR r)(n:Int):(qk r n).1.length<=32:=by
 obtain⟨O,R,af⟩:=av0 h;unfold qk
 grind
def aur(e:c_):(gs e).length=2:=by
 unfold gs;split
 .rfl
 split<;>rfl
def rx(s:aG)(b:V):aG×Nat×dr:=
 if ¬(eR b).2.1=0 then(s,2,ro) else if o6 s.e (eR b).1 then(s,13,ro)
 else if(jg s (eR b).1).2.1=false then(⟨s.e,(jg s (eR b).1).1⟩,5,ro) else(⟨s.e,(jg s (eR b).1).1⟩,0,(eR b).1)
def asn{s:aG}(ac:bA n s)(b:V):L1 (s.t,b,())=some ((rx s b).1.t,(rx s b).2.1,(rx s b).2.2,()):=by
 unfold L1 rx;dsimp only;rw[amM];refine bg rfl ?_;by_cases ao:(eR b).2.1=0
 .rw[if_neg (not_not_intro ao)]
  refine bq (cJ ao) ?_;obtain⟨ah,aof,_,_⟩:=Ug ao;have ri:=Uh ao;generalize(eR b).1=v at ah ri aof;have hid:=ac.e.id;have ap:=ac.e.key;have e1:i64 (bi 1 s.e.id)=1-s.e.id:=hM (by show -9223372036854775808<=1-s.e.id;omega) (by show 1-s.e.id<=9223372036854775807;omega);have fst:(T (ag v.2.1 (i64 (bi 1 s.e.id))) (T (a_ (ag s.e.ph 7)) (some (a_ (ag s.e.ph 8),())) (some (false,()))) (some (false,())):Option (Bool×Unit))=some (D (v.2.1=1-s.e.id/\¬s.e.ph=7/\¬s.e.ph=8),()):=by rw[e1];simp(disch:=first|assumption|omega|(dsimp only;omega)|decide) only[go_sem,Int.reduceToNat];exact pY and_assoc
  refine bg (show _=some (D (v.2.1=1-s.e.id/\¬s.e.ph=7/\¬s.e.ph=8),()) from fst) ?_;dsimp only;have fC:=xv v;have iP:=ah.1.2.2.2.2.2.2.2;have chk:∀k:V,k.length<=1000000->jg s v=AB s.p k (cZ v) v.2.2.2.2.2.2.1->(ob (w4 (v,())) λ(oA:V×Int×Unit)=>ob (DG (s.p,k,oA.1,v.2.2.2.2.2.2.1,())) λ(l1:fm×Bool×Unit)=>
    T l1.2.1 (some ((s.e.t,l1.1,()),0,v,())) (some ((s.e.t,l1.1,()),5,ro,())):Option (e6×Nat×dr×Unit)) =
    (if(jg s v).2.1=false then some ((⟨s.e,(jg s v).1⟩:aG).t,5,ro,()) else some ((⟨s.e,(jg s v).1⟩:aG).t,0,v,())):=by
   intro k ap ai;refine bg (QV v ah.1) (bg (auT s.p k (cZ v) _ ap J) ?_);rw[ai];cases Y:(AB s.p k (cZ v) v.2.2.2.2.2.2.1).2.1
   .rw[if_pos rfl];exact b1 rfl
   rw[if_neg bh];exact ce rfl
  by_cases O:v.2.1=1-s.e.id/\¬s.e.ph=7/\¬s.e.ph=8
  .rw[cD O]
   refine bq rfl (bg (show z? (s.e.key,())=_ from acs s.e.key J) ?_);by_cases R:v.1=2
   .refine bq (cJ R) (bg (show H? (s.e.ring,v.2.2.2.1,())=_ from av5 _ _) (bg (show uk (s.e.ph,())=_ from HY _) ?_))
    dsimp only;have snd:(T (D (jT s.e.ph)) (ob (nn (s.e.t,())) λ(j4:List Int×Unit)=>T (uX (λ(p q:Int)=>ag p q) v.2.2.1 j4.1) (some ((qk s.e.ring v.2.2.2.1).2.1,())) (some (false,()))) (some (false,())):Option (Bool×Unit)) =
      some (D (jT s.e.ph/\v.2.2.1=gs s.e/\(qk s.e.ring v.2.2.2.1).2.1=true),()):=by
     by_cases hl:jT s.e.ph
     .rw[cD hl]
      refine bq rfl (bg (xz s.e) ?_);have bu:=WO (l:=v.2.2.1) (m:=gs s.e) (by rw[ri,aur];rfl);by_cases hp:v.2.2.1=gs s.e
      .refine bq (bu.2 hp) ?_
       cases hf:(qk s.e.ring v.2.2.2.1).2.1
       .rw[cC (by rintro⟨_,_,h⟩;cases h)]
       rw[cD ⟨hl,hp,rfl⟩]
      refine a1 ((yP _).mp (λh=>hp (bu.1 h))) ?_;rw[cC (λh=>hp h.2.1)]
     rw[cC hl,cC (λh=>hl h.1)];rfl
    refine bg snd ?_;dsimp only;by_cases af:jT s.e.ph/\v.2.2.1=gs s.e/\(qk s.e.ring v.2.2.2.1).2.1=true
    .rw[cD af]
     have eL:¬o6 s.e v:=by
      unfold o6;rintro(h|h|h|⟨_,h⟩)
      .exact h O.1
      .exact O.2.1 h
      .exact O.2.2 h
      rcases h with h|h|h
      .exact h af.1
      .exact h af.2.1
      rw[af.2.2]at h;cases h
     rw[if_neg eL];refine bq rfl ((chk _ (by have:=ani ac.e.ring v.2.2.2.1;omega) (by unfold jg C8;rw[if_pos R])).trans ?_);split<;>rfl
    rw[cC af];have eL:o6 s.e v:=by
     unfold o6;by_cases bu:jT s.e.ph
     .by_cases Y:v.2.2.1=gs s.e
      .refine .inr (.inr (.inr ⟨R,.inr (.inr ((yP _).mp λai=>af ⟨bu,Y,ai⟩))⟩))
      exact .inr (.inr (.inr ⟨R,.inr (.inl Y)⟩))
     exact .inr (.inr (.inr ⟨R,.inl bu⟩))
    rw[if_pos eL];rfl
   refine a1 (cr R) ?_;have eL:¬o6 s.e v:=by
    unfold o6;rintro(h|h|h|⟨h,_⟩)
    .exact h O.1
    .exact O.2.1 h
    .exact O.2.2 h
    exact R h
   rw[if_neg eL];refine(chk _ (by rw[W1];omega) (by unfold jg C8;rw[if_neg R])).trans ?_;split<;>rfl
  rw[cC O];have eL:o6 s.e v:=by
   unfold o6;by_cases bu:v.2.1=1-s.e.id
   .by_cases Y:s.e.ph=7
    .exact .inr (.inl Y)
    refine .inr (.inr (.inl (k2 λai=>O ⟨bu,Y,ai⟩)))
   exact .inl bu
  rw[if_pos eL];rfl
 rw[if_pos ao];exact b1 (cr ao)
def asm{s:aG}(ac:bA n s)(b:V):∃FQ:Int,L0 (s.t,b,())=some ((iY s b).1.t,(iY s b).2.getD ro,FQ,())/\(FQ=0↔¬(iY s b).2=none):=by
 unfold L0;dsimp only;rw[asn ac];by_cases ao:(eR b).2.1=0
 .by_cases O:o6 s.e (eR b).1
  .have e1:rx s b=(s,13,ro):=by unfold rx;rw[if_neg (not_not_intro ao),if_pos O]
   have aN:iY s b=(gy s 3,none):=by unfold iY;rw[if_neg (not_not_intro ao),if_pos O]
   rw[e1,aN];refine⟨13,bg rfl (a1 rfl (a1 rfl (bq rfl ?_))),bh⟩;exact(bJ (S2 s)).trans rfl
  by_cases R:(jg s (eR b).1).2.1=false
  .have e1:rx s b=(⟨s.e,(jg s (eR b).1).1⟩,5,ro):=by unfold rx;rw[if_neg (not_not_intro ao),if_neg O,if_pos R]
   have aN:iY s b=(gy ⟨s.e,(jg s (eR b).1).1⟩ 1,none):=by unfold iY;rw[if_neg (not_not_intro ao),if_neg O,if_pos R]
   rw[e1,aN];refine⟨5,bg rfl (a1 rfl (a1 rfl (a1 rfl (bn rfl ?_)))),bh⟩;exact(bJ (asj _)).trans rfl
  have e1:rx s b=(⟨s.e,(jg s (eR b).1).1⟩,0,(eR b).1):=by unfold rx;rw[if_neg (not_not_intro ao),if_neg O,if_neg R]
  rw[e1];generalize aC:(eR b).1=v;rw[aC]at O R;generalize hp:(jg s v).1=p;by_cases af:v.1=1
  .have aN:iY s b=(⟨s.e,p⟩,some v):=by unfold iY;rw[if_neg (not_not_intro ao),aC,if_neg O,if_neg R,if_pos af,hp]
   rw[aN];refine⟨0,bg rfl (bq rfl ?_),bh⟩;exact ce (lF (by dsimp only;omega))
  have aaA:v.1=2:=by
   obtain⟨ah,_⟩:=Ug ao;rw[aC]at ah;rcases ah.1.1 with h|h
   .exact absurd h af
   exact h
  have hm:=ayp ac.e.win ac.e.top v.2.2.2.2.1;have oh:∀x:aG×Option dr,x=(if ¬(kT s.e.win v.2.2.2.2.1).2=0 then(gy ⟨s.e,p⟩ 2,none) else(⟨{ s.e with win:=(kT s.e.win v.2.2.2.2.1).1,ring:=qp s.e v.2.2.2.1 },p⟩,some v))->iY s b=x:=by intro x hx;unfold iY;rw[if_neg (not_not_intro ao),aC,if_neg O,if_neg R,if_neg af,hp];exact hx.symm
  by_cases aq:(kT s.e.win v.2.2.2.2.1).2=0
  .rw[oh _ (by rw[if_neg (not_not_intro aq)])]
   refine⟨0,bg rfl (bq rfl (a1 (j6 aaA) ?_)),bh⟩;refine bg (show Ev (s.e.win,v.2.2.2.2.1,())=_ from hm) (bq (cJ aq) ?_);have hh:(T (ag v.2.2.2.1 s.e.ring.2.2.1.1) (some (a_ (ag s.e.ph 4),())) (some (false,())):Option (Bool×Unit))=some (D (v.2.2.2.1=s.e.ring.2.2.1.1/\¬s.e.ph=4),()):=by simp(disch:=first|assumption|omega|(dsimp only;omega)|decide) only[go_sem,Int.reduceToNat]
   refine bg hh ?_;dsimp only;by_cases a8:s.e.ring.2.2.1.1=v.2.2.2.1/\¬s.e.ph=4
   .rw[cD ⟨a8.1.symm,a8.2⟩,show qp s.e v.2.2.2.1=(Be s.e.ring).1 by unfold qp;rw[if_pos a8]]
    refine bq rfl ((bJ (show AQ (s.e.ring,())=_ from aeX _)).trans rfl)
   rw[cC (λh=>a8 ⟨h.1.symm,h.2⟩),show qp s.e v.2.2.2.1=s.e.ring by unfold qp;rw[if_neg a8]];rfl
  rw[oh _ (by rw[if_pos aq])];refine⟨6,bg rfl (bq rfl (a1 (j6 aaA) ?_)),bh⟩;refine bg (show Ev (s.e.win,v.2.2.2.2.1,())=_ from hm) (a1 (cr aq) ?_);exact(bJ (show ke ((⟨s.e,p⟩:aG).t,6,())=_ from asl _)).trans rfl
 have e1:rx s b=(s,2,ro):=by unfold rx;rw[if_pos ao]
 have aN:iY s b=(gy s 0,none):=by unfold iY;rw[if_pos ao]
 rw[e1,aN];refine⟨2,bg rfl (a1 rfl (bq rfl ?_)),bh⟩;exact(bJ (LZ s)).trans rfl
def OE:=@List.drop_length
def axV(x y:UInt8):i64 (gM IntKind.i64 (i64 (ho IntKind.i64 (i64 (aI x)) (cB (u64 8)))) (i64 (aI y)))=((256*x.toNat+y.toNat:Nat):Int):=by
 have hx:=x.toNat_lt;have hy:=y.toNat_lt;have e1:i64 (aI x)=(x.toNat:Int):=hM (by rw[K8];omega) (by rw[K8];omega);have aN:i64 (aI y)=(y.toNat:Int):=hM (by rw[K8];omega) (by rw[K8];omega);have dJ:ho IntKind.i64 (x.toNat:Int) (cB (u64 8))=((256*x.toNat:Nat):Int):=by unfold ho;rw[show cB (u64 8)=8 from Dm bP,show(2:Int)^(Nat.min (8:Int).toNat IntKind.i64.bits)=256 from rfl];omega
 rw[e1,aN,dJ,hM (n:=((256*x.toNat:Nat):Int)) J J];show i64 (((BitVec.ofInt 64 ((256*x.toNat:Nat):Int)|||BitVec.ofInt 64 ((y.toNat:Nat):Int)).toNat:Nat):Int)=_;rw[JU,JU,BitVec.toNat_or,BF,BF,lY J,lY J];have gQ:256*x.toNat|||y.toNat=256*x.toNat+y.toNat:=by
  have:=Nat.shiftLeft_add_eq_or_of_lt (b:=y.toNat) (i:=8) J x.toNat;rw[Nat.shiftLeft_eq]at this
  grind
 rw[gQ];exact hM J J
def anE(h:2<=b.length):Rg (b,())=some ((ee b:Int),()):=by refine bn cM (bn cM ?_);rw[axV];rfl
def axT(b:V):ee b<65536:=by unfold ee;have ao:=(b.getD 0 0).toNat_lt;have O:=(b.getD 1 0).toNat_lt;omega
def IL(l:List α){a:Int}(h:a=(n:Int)):sub l a (len l)=l.drop n:=by unfold sub;rw[h,iZ,hS];rw[fb];show _<=(l.length:Int).toNat-_;omega
def anD{f:p_}(hf:f.1.length<=1000000)(Y:b.length<=1000000)(ac:0<=f.2.1/\f.2.1<=65535):K6 (f,b,())=some ((iV f b).1,(iV f b).2,()):=by
 obtain⟨buf,skip,bad,⟨⟩⟩:=f;replace hf:buf.length<=1000000:=hf;replace ac:0<=skip/\skip<=65535:=ac;unfold K6 iV;dsimp only;refine bg (YI buf b hf Y) ?_;dsimp only;have hall:(buf++b).length<=2000000:=by rw[cE];omega
 generalize buf++b=all at hall;generalize hg:(λx=>(_:Option (aE (List V×V×p_×Unit) (p_×List V×Unit))))=F

 have abg:∀{a:V} {gu:Int},0<=gu->gu<=a.length->fE gu (len a)=((gu.toNat:Nat):Int):=λO R=>by rw[g57,g22];omega
 have run:∀(k:Nat) (bB:List V) (a:V) (gu:Int) (m8:Int),0<=gu->gu<=a.length->a.length<=2000000->(a.drop gu.toNat).length<=k->bB.length+k<=2000000 ->
   bN F (bB,a,(buf,gu,m8,()),())=some (.ex 0 (bB++(hH k m8 (a.drop gu.toNat)).2.2.2,(hH k m8 (a.drop gu.toNat)).1,(buf,((hH k m8 (a.drop gu.toNat)).2.1:Int),(hH k m8 (a.drop gu.toNat)).2.2.1,()),())):=by
  intro k;induction k with
  |zero=>
   intro bB a gu m8 O R af aq a8;refine d_ ?_;subst hg;have bj:i64 (bi gu ((gu.toNat:Nat):Int))=0:=by rw[hM (by show -9223372036854775808<=gu-((gu.toNat:Nat):Int);omega) (by show gu-((gu.toNat:Nat):Int)<=9223372036854775807;omega)];show gu-((gu.toNat:Nat):Int)=0;omega
   dsimp only;rw[abg O R,IL a rfl,bj];refine bn (by simp(disch:=first|assumption|omega|(omega)|decide) only[go_sem,Int.reduceToNat];omega) (bq (dj (by show((a.drop gu.toNat).length:Int)<2;omega)) ?_);rw[show(hH 0 m8 (a.drop gu.toNat))=(a.drop gu.toNat,0,m8,[]) from rfl];simp
  |succ k ih=>
   intro bB a gu m8 O R af aq a8;have bj:i64 (bi gu ((gu.toNat:Nat):Int))=0:=by rw[hM (by show -9223372036854775808<=gu-((gu.toNat:Nat):Int);omega) (by show gu-((gu.toNat:Nat):Int)<=9223372036854775807;omega)];show gu-((gu.toNat:Nat):Int)=0;omega
   have dW:F (bB,a,(buf,gu,m8,()),())=F (bB,a,(buf,gu,m8,()),()):=rfl
   conv at dW=>rhs;rw[<- hg]
   dsimp only at dW;rw[abg O R,IL a rfl,bj]at dW;have ai:ca ((gu.toNat:Nat):Int) (len a) (len a)=true:=by simp(disch:=first|assumption|omega|(omega)|decide) only[go_sem,Int.reduceToNat];omega
   replace dW:=dW.trans (dR ai);have Gv:(a.drop gu.toNat).length=a.length-gu.toNat:=fb;unfold hH;generalize a.drop gu.toNat=c at aq dW Gv;by_cases c1:c.length<2
   .rw[if_pos c1]
    refine d_ (dW.trans (bq (dj (by show(c.length:Int)<2;omega)) ?_));dsimp only;rw[hF];rfl
   rw[if_neg c1];have aj:=axT c;have aN:i64 (av 2 ((ee c:Nat):Int))=((2+ee c:Nat):Int):=fP (by show(2:Int)+((ee c:Nat):Int)=_;omega) J;replace dW:=dW.trans (a1 (c3 (by show ¬(c.length:Int)<2;omega)) ((bJ (anE J)).trans (dL rfl)));dsimp only at dW;rw[aN]at dW;by_cases c2:ee c=0\/1024<ee c
   .rw[if_pos c2]
    have Sm:(T (ag ((ee c:Nat):Int) 0) (some (true,())) (some (aJ 1024 ((ee c:Nat):Int),())):Option (Bool×Unit))=some (true,()):=by
     rcases c2 with h|h
     .rw[h];rfl
     by_cases ao:ee c=0
     .rw[ao];rfl
     exact a1 (cr J) (by rw[dj J])
    replace dW:=dW.trans ((bJ Sm).trans ((ce rfl)));by_cases hw:2+ee c<=c.length
    .rw[if_pos hw]
     replace dW:=dW.trans (ce (hN (by show((2+ee c:Nat):Int)<=(c.length:Int);omega)));refine(ez dW).trans ?_;have:=ih bB c ((2+ee c:Nat):Int) (i64 (m8+1)) J J J (by rw[iZ,fb];omega) J;rw[iZ]at this;exact this
    rw[if_neg hw];have gQ:i64 (bi ((2+ee c:Nat):Int) (len c))=((2+ee c-c.length:Nat):Int):=fP (by show((2+ee c:Nat):Int)-(c.length:Int)=_;omega) J;rw[gQ]at dW;replace dW:=dW.trans (b1 (oS (by show ¬((2+ee c:Nat):Int)<=(c.length:Int);omega)));refine d_ (dW.trans ?_);rw[hF];rfl
   rw[if_neg c2];have Sm:(T (ag ((ee c:Nat):Int) 0) (some (true,())) (some (aJ 1024 ((ee c:Nat):Int),())):Option (Bool×Unit))=some (false,()):=a1 (cr J) (by rw[c3 J]);replace dW:=dW.trans ((bJ Sm).trans ((b1 rfl)));by_cases hw:c.length<2+ee c
   .rw[if_pos hw]
    replace dW:=dW.trans (ce (dj (by show(c.length:Int)<((2+ee c:Nat):Int);omega)));refine d_ (dW.trans ?_);rw[hF];rfl
   rw[if_neg hw];have ape:cY (ca 2 ((2+ee c:Nat):Int) (len c)) (ag ((2+ee c:Nat):Int) ((2+ee c:Nat):Int))=true:=by rw[cJ rfl];simp(disch:=first|assumption|omega|(dsimp only;omega)|decide) only[go_sem,Int.reduceToNat];omega
   have apf:∀y:V,cz 32 (bQ (aT bB) (aT [y]))=true:=λy=>by rw[g21];refine cD ?_;show(bB.length+1)*32<=_;omega
   have apg:ca ((2+ee c:Nat):Int) (len c) (len c)=true:=jO;replace dW:=dW.trans (a1 (c3 (by show ¬(c.length:Int)<((2+ee c:Nat):Int);omega)) (bn ape (bn (apf _) (dR apg))));have oI:sub c 2 ((2+ee c:Nat):Int)=(c.drop 2).take (ee c):=by unfold sub;rw[show(2:Int).toNat=2 from rfl,iZ,BH]
   rw[oI,IL c rfl]at dW;refine(ez dW).trans ?_;have:=ih (bB++[(c.drop 2).take (ee c)]) (c.drop (2+ee c)) 0 m8 J J (by rw[fb];omega) (by rw[show(0:Int).toNat=0 from rfl,nD,fb];omega) (by rw[cE];show bB.length+1+k<=_;omega);refine uT this ?_;rw[gv];rfl
 by_cases abM:all.length<skip.toNat
 .rw[if_pos abM]
  have dW:F (aO V,all,(buf,skip,bad,()),())=some (.ex 0 ([],[],(buf,skip-(all.length:Int),bad,()),())):=by
   subst hg;dsimp only;have e1:fE skip (len all)=((all.length:Nat):Int):=by rw[g57,g22];omega
   have aN:i64 (bi skip ((all.length:Nat):Int))=skip-(all.length:Int):=hM (by show -9223372036854775808<=skip-(all.length:Int);omega) (by show skip-(all.length:Int)<=9223372036854775807;omega);rw[e1,IL all rfl,aN,OE];exact bn jO (ce rfl)
  refine(c' (d_ dW)).trans ((bn g62 ?_));exact(bJ (FA [] bh))
 rw[if_neg abM];have:=run all.length [] all skip bad ac.1 J hall (by rw[fb];omega) fv;refine(c' (show bN F (aO V,all,(buf,skip,bad,()),())=_ from this)).trans ((bn g62 ?_));dsimp only;refine(bJ (FA _ ?_));have cl:∀(k:Nat) (m8:Int) (a:V),(hH k m8 a).1.length<=a.length:=by
  intro k;induction k with
  |zero=>intro m8 a;exact bU _
  |succ k ih=>
   intro m8 a;unfold hH;split
   .exact bU _
   split
   .split
    .exact e0 (ih _ _) (by rw[fb];omega)
    simp
   split
   .exact bU _
   exact e0 (ih _ _) (by rw[fb];omega)
 have:=cl all.length bad (all.drop skip.toNat);rw[fb]at this;omega
def mc(l:List qb):Nat:=(l.map λx=>x.2.1.length).sum
def asy(l:List qb)(x:qb):mc (l++[x])=mc l+x.2.1.length:=by unfold mc;simp
def fo(h:eO):Nat:=(ak h.2.1 0 ep).1.length+(ak h.2.1 1 ep).1.length+(ak h.2.1 2 ep).1.length+(ak h.2.1 3 ep).1.length
structure b5(m t g:Nat)(s x:aG):Prop where
 bB:mc x.e.bB+950*x.e.queue.length<=mc s.e.bB+950*s.e.queue.length+m
 Dt:x.e.bB.length+x.e.queue.length<=s.e.bB.length+s.e.queue.length+t
 tab:x.p.2.1.length+x.e.queue.length<=s.p.2.1.length+s.e.queue.length+t
 got:x.e.got.length<=s.e.got.length+g
 buf:fo x.e.hub<=fo s.e.hub
def b5.refl(s:aG):b5 0 0 0 s s:=⟨J,J,J,J,J⟩
def b5.trans{t:Nat}{s x y:aG}(h:b5 m t g s x)(k:b5 mQ t' i0 x y):b5 (m+mQ) (t+t') (g+i0) s y:=by obtain⟨cG,cQ,a3,a4,a5⟩:=h;obtain⟨eT,ei,jx,nM,qe⟩:=k;exact⟨J,J,J,J,J⟩
def b5.mono{t:Nat}{s x:aG}(h:b5 m t g s x)(hm:m<=mQ)(ht:t<=t')(hg:g<=i0):b5 mQ t' i0 s x:=by obtain⟨cG,cQ,a3,a4,a5⟩:=h;exact⟨J,J,J,J,J⟩
def b5.to{t:Nat}{s x y:aG}(h:b5 m t g s x)(k:b5 mQ t' i0 x y){cn ev bw:Nat}(hm:m+mQ<=cn)(ht:t+t'<=ev)(hg:g+i0<=bw):b5 cn ev bw s y:=(h.trans k).mono hm ht hg
def b5.same(s x:aG)(aK:x.e.bB=s.e.bB)(a2:x.e.queue.length<=s.e.queue.length)(hp:x.p.2.1=s.p.2.1)(hg:x.e.got=s.e.got)(Y:x.e.hub.2.1=s.e.hub.2.1):b5 0 0 0 s x:=by refine⟨by rw[aK];omega,by rw[aK];omega,by rw[hp];omega,by rw[hg];omega,?_⟩;unfold fo;rw[Y];exact bU _
def auV(p:fm)(k b:V):(ln p k b).2.1.length<=p.2.1.length+1:=by
 unfold ln
 grind
def aap(s:aG)(v:dr)(k:V):b5 (48+v.2.2.2.2.2.1.length) 1 0 s (mF s v k).1:=by
 unfold mF;split
 .have O:=auV s.p k (cZ v)
  have R:(fq (cZ v++jX k (cZ v))).length=48+v.2.2.2.2.2.1.length:=by rw[MB,cE,AP,xv];omega
  refine⟨?_,?_,?_,by dsimp only;omega,by unfold fo;rw[T4];omega⟩
  .dsimp only;rw[asy,R];omega
  .grind
  grind
 exact(b5.refl s).mono J J J
def F?(s:aG)(b:V):b5 (48+b.length) 1 0 s (gj s b).1:=by
 have ao:b5 (48+b.length) 1 0 s s:=(b5.refl s).mono J J J;unfold gj;split
 .exact ao
 split
 .exact ao
 split
 .exact ao
 have:=aap s (h9 s.e b) s.e.ring.1.2.1;dsimp only;split
 .exact⟨this.bB,this.Dt,this.tab,this.got,this.buf⟩
 exact this
def Lf(s:aG)(o:Int)(b:V):b5 (48+b.length) 1 0 s (o5 s o b).1:=by
 unfold o5;split
 .exact aap s (g8 s.e o b) (gY s.e.key)
 exact(b5.refl s).mono J J J
def qm(s:aG)(k:Nat):b5 0 0 0 s (gy s k):=b5.same _ _ rfl (bU _) rfl rfl rfl
def ai8{c n:Int}(h:(nN c n b).2.1=0):b.length<=900:=by
 unfold nN at h;split at h
 .rename_i hf;exact hf.2.2.2.2
 cases h
def Ru(s:aG)(q:d1)(hm:(mr (q.1,q.2.1,lw s.e.stan,q.2.2.2)).1.length<=m):b5 (48+min m 900) 1 0 s (kW s q):=by
 have ao:b5 0 0 0 s (wN s q):=b5.same _ _ rfl (bU _) rfl rfl rfl;unfold kW;split
 .rename_i h
  have Y:=ai8 h.2;split
  .exact ao.to (Lf _ _ _) J J J
  exact ao.to (F? _ _) J J J
 exact(b5.refl s).mono J J J
def CC(s:aG)(p:Int):b5 0 0 1 s (kB s p):=by refine⟨by show mc s.e.bB+950*([]:List V).length<=_;simp,by show s.e.bB.length+([]:List V).length<=_;simp,by show s.p.2.1.length+([]:List V).length<=_;simp,L6 s.e p,bU _⟩
def aan(s:aG):b5 0 0 1 s (wX s):=by
 unfold wX;split
 .exact(b5.refl s).mono J J J
 refine⟨by show mc []+950*([]:List V).length<=_;simp[mc],by show([]:List qb).length+([]:List V).length<=_;simp,by show s.p.2.1.length+([]:List V).length<=_;simp,L6 s.e 8,?_⟩;exact fK _
def F9(s:aG):b5 0 0 1 s (fY s).1:=by
 unfold fY;split
 .exact b5.mono (b5.same s (pZ s _) rfl (bU _) rfl rfl rfl) J J J
 split
 .exact b5.to (b5.same s (NM s (mm s.e.store s.e.power).1) rfl (bU _) rfl rfl rfl) (aan (NM s (mm s.e.store s.e.power).1)) J J J
 exact(b5.refl s).mono J J J
def aar(s:aG):b5 948 1 3 s (ru s).1:=by
 unfold ru;split
 .exact(b5.refl s).mono J J J
 split
 .exact(F9 s).mono J J J
 have O:=(F9 s).trans (CC (fY s).1 1);have R:b5 0 0 0 (kB (fY s).1 1) (uh (kB (fY s).1 1) (fY s).2.1):=b5.same _ _ rfl (bU _) rfl rfl rfl;exact(O.trans R).to (Ru _ _ (bU _)) J J J
def aas:∀(k:Nat) (s:aG),b5 0 0 0 s (xU k s)
 |0,s=>b5.refl s
 |k+1,s=>by
  unfold xU;split
  .exact b5.refl s
  rename_i b q a2;split
  .rename_i ao
   have Y:b.length<=900:=by
    unfold gj at ao;split at ao
    .cases ao
    rename_i h;exact(ww.1 h).2
   have O:=F? s b;have zL:=(awJ s b).2.1;have R:b5 0 0 0 s (DF (gj s b).1 q):=by
    obtain⟨cG,cQ,a3,a4,a5⟩:=O;rw[zL]at cG cQ a3;have hl:s.e.queue.length=q.length+1:=by rw[a2];rfl
    exact⟨by show mc (gj s b).1.e.bB+950*q.length<=_;omega,by show(gj s b).1.e.bB.length+q.length<=_;omega,by show(gj s b).1.p.2.1.length+q.length<=_;omega,a4,a5⟩
   exact R.to (aas k _) J J J
  exact b5.refl s
def F_(s:aG):b5 0 0 0 s (oX s):=aas _ s
def Jg{no k l:Int}(h:fM no=some (k,l))(ao:dt k=0)(v:V):(hR (no,v,())).length<=(body k v).length:=by
 unfold hR rQ;rw[h];dsimp only;split
 .unfold kY g4;rw[ao];simp
 simp
def adl(n:d1)(h:n.1=false\/¬n.2.1=101/\¬n.2.1=201):(gO (jE n)).length<=25:=by
 have pB:∀x:V,x.length=6->(hR (11,x,())).length<=3:=λx hx=>by have:=Jg Cv rfl x;rw[y7,hx]at this;simpa using this
 have aoh:∀x:V,x.length=2->(hR (39,x,())).length<=2:=λx hx=>by have:=Jg K5 rfl x;rw[y7,hx]at this;simpa using this
 have aok:∀x:V,x.length=3->(hR (70,x,())).length<=2:=λx hx=>by have:=Jg Rb rfl x;rw[y7,hx]at this;simpa using this
 have Y:∀l,(gn l).length<=16:=λl=>by rw[qf];split<;>omega
 have cG:=pB (dd n.2.2.1 6) na;have cQ:=aoh (dd n.2.2.2.1 2) na;have a3:=aok (dd n.2.1 3) na;unfold gO jE;rw[ cE,Bf];split
 .have:=Y (iE [(11,dd n.2.2.1 6,()),(39,dd n.2.2.2.1 2,()),(70,dd n.2.1 3,())])
  simp;omega
 grind
def ats(n:d1):18<=(gO (jE n)).length:=by
 have bb:lW (iE (jE n).2.1)=true:=by
  unfold jE
  repeat(first|rfl|split)
 unfold gO;rw[cE,cE,Bf,qf,if_pos bb];omega
def aeP(n:d1)(r:Int):(ki n r).length<=25:=by
 unfold ki mr;split
 .refine adl _ (.inl ?_)
  unfold Fb
  repeat(first|rfl|split)
 simp
def ai2(c s:Int)(h:¬c=101/\¬c=201):(mr ((hY c).1,(hY c).2.1,s,(hY c).2.2.2)).1.length<=25:=by
 unfold mr;split
 .exact adl _ (.inr h)
 simp
def amd{m:M}(ah:jI m=true):(gO (tB m)).length<=17:=by
 have cQ:(hR r7).length<=2:=by have:=Jg K5 bP [57,49];rw[y7]at this;exact this
 unfold gO tB;rw[cE,cE,Bf];split
 .rename_i h
  have O:=VF ah h;obtain⟨k,l,R,af⟩:=u_.1 O;rw[Cv]at R;obtain⟨rfl,rfl⟩:=Prod.mk.inj (lZ R);have aq:=(Ri Cv af).2.1;have cG:=Jg Cv bP (hI 11 m.2.1).1;rw[y7]at cG;have:(gn (iE [(11,(hI 11 m.2.1).1,()),r7])).length=8:=by rw[qf];rfl
  simp only[yM,E9,cE,gw];simp only[show((1:Int)<=2)=True from by simp]at cG;simp at cG;omega
 have:(gn (iE [r7])).length=8:=by rw[qf];rfl
 simp only[yM,E9,cE,gw];omega
def aam(s:aG)(c:Int)(h:¬c=101/\¬c=201):b5 73 1 0 s (kW s (hY c)):=(Ru s (hY c) (ai2 c _ h)).mono J J J
def F'(s:aG)(n:d1)(r:Int):b5 73 1 0 s (gj s (ki n r)).1:=(F? s _).mono (by have:=aeP n r;omega) J J
def Rv{s x:aG}(h:b5 0 0 0 s x)(n:d1)(r:Int):b5 73 1 0 s (gj x (ki n r)).1:=h.to (F' x n r) J J J
def an2(s:aG)(q:d1)(x:Int):b5 73 1 2 s (tu s q x):=by
 have ah:=aeP q 0;unfold tu;split
 .exact(qm s 3).mono J J J
 split
 .exact(Lf s _ _).mono J J J
 split
 .exact(qm s 3).mono J J J
 split
 .have O:=(F9 s).trans (CC (fY s).1 2)
  have R:b5 0 0 0 (kB (fY s).1 2) (vJ (kB (fY s).1 2) (fY s).2.1 x):=b5.same _ _ rfl (bU _) rfl rfl rfl;exact(O.trans R).to (Lf _ _ _) J J J
 split
 .exact(F9 s).mono J J J
 exact(F9 s).to (qm _ 3) J J J
def Rt(s:aG)(k q:Int)(b:V):b5 0 0 1 s (FR s k q b):=by refine⟨bU _,bU _,bU _,?_,bU _⟩;show(s.e.got++[(k,gs s.e,q,b,())]).length<=_;simp
def an5(s:aG)(k:Int):b5 0 0 1 s (zg s k):=Rt s k 0 []
def an8(s:aG)(v:dr)(q:d1):b5 73 1 2 s (qq s v q):=by
 unfold qq;dsimp only;split
 .exact(qm s 3).mono J J J
 split
 .exact an2 s q _
 split
 .have O:b5 0 0 1 s (Av s (ak v.2.2.1 (aa (1-s.e.id)) 0)):=by refine⟨bU _,bU _,bU _,?_,bU _⟩;show(s.e.got++[_]).length<=_;simp
  exact O.to (aam _ 301 bP) J J J
 exact(qm s 3).mono J J J
def CB(s:aG):b5 0 0 1 s (q8 s):=by
 unfold q8;split
 .exact b5.to (b5.same s (uj s 3) rfl (bU _) rfl rfl rfl) (an5 _ 4) J J J
 exact(b5.refl s).mono J J J
def an9(s:aG)(n:d1):b5 73 1 1 s (Aq s n):=by
 have ai:b5 73 1 1 s (gy s 3):=(qm s 3).mono J J J;unfold Aq;split
 .exact ai
 split
 .exact(F' s n _).mono J J J
 split
 .exact(F' s n _).mono J J J
 split
 .split
  .exact b5.mono (m:=73) (t:=1) (g:=0) (Rv (by exact b5.same _ _ rfl (bU _) rfl rfl rfl) n _) J J J
  exact ai
 split
 .exact b5.mono (m:=73) (t:=1) (g:=0) (Rv (by exact b5.same _ _ rfl (bU _) rfl rfl rfl) n _) J J J
 exact ai
def aaq(s:aG):b5 0 0 0 s (xc s):=by
 unfold xc;split
 .exact b5.same _ _ rfl (bU _) rfl rfl rfl
 exact b5.refl s
def an6(s:aG):b5 0 0 0 s (zo s):=by
 unfold zo;split
 .exact b5.same _ _ rfl (bU _) rfl rfl rfl
 exact b5.refl s
def an7(s:aG):b5 0 0 1 s (zp s):=by
 unfold zp;split
 .exact CC s 0
 exact(b5.refl s).mono J J J
def aoa(s:aG)(n:d1):b5 73 1 1 s (v7 s n):=by
 have ai:b5 73 1 1 s (gy s 3):=(qm s 3).mono J J J;unfold v7;split
 .split
  .exact an9 s n
  unfold BU;split
  .exact ai
  split
  .exact(aaq s).mono J J J
  exact b5.to (b5.same s (⟨NT s.e _,s.p⟩) rfl (bU _) rfl rfl rfl) (aam _ 301 bP) J J J
 split
 .split
  .exact b5.mono (m:=73) (t:=1) (g:=0) (Rv (by exact b5.same _ _ rfl (bU _) rfl rfl rfl) n 0) J J J
  unfold BS;split
  .exact ai
  split
  .exact b5.mono (b5.same _ _ rfl (bU _) rfl rfl rfl) J J J
  exact b5.mono (b5.same _ _ rfl (bU _) rfl rfl rfl) J J J
 unfold xK;split
 .split
  .exact(F' s n 0).mono J J J
  split
  .exact(F' s n 0).to (CC _ 0) J J J
  exact ai
 split
 .split
  .exact b5.mono (b5.same s (Yx s) rfl (bU _) rfl rfl rfl) J J J
  split
  .exact(CC s 0).mono J J J
  exact ai
 exact ai
def aeK(h:(ls b).2.1=0):18<=b.length:=by
 rcases aeJ b with⟨n,O,R,af⟩|⟨e,O,R⟩
 .rw[<- af];exact ats n
 grind
def ayG(m:M):10<=(gO m).length:=by
 unfold gO;rw[cE,cE,Bf,qf]
 grind
def an4(s:aG)(v:dr):∃m t g,b5 m t g s (oH s v)/\4*m<=5*(48+v.2.2.2.2.2.1.length)/\20*t<=48+v.2.2.2.2.2.1.length/\20*g<=48+v.2.2.2.2.2.1.length:=by
 unfold oH;split
 .split
  .rename_i O R
   have:=aeK R;exact⟨73,1,2,(CB s).to (aoa _ _) J J J,J,J,J⟩
  split
  .rename_i O R af
   obtain⟨aq,a8⟩:=Ue af;have cS:=ayG (fy v.2.2.2.2.2.1).1;rw[a8]at cS;unfold Ep;split
   .exact⟨0,0,1,(CB s).to (qm _ 3) J J J,J,J,J⟩
   split
   .exact⟨0,0,2,(CB s).to (Rt _ _ _ _) J J J,J,J,J⟩
   split
   .exact⟨0,0,1,(CB s).to (qm _ 3) J J J,J,J,J⟩
   have dN:=amd aq;exact⟨65,1,1,(CB s).to (F? _ _) J J J,J,J,J⟩
  exact⟨0,0,1,(CB s).to (qm _ 0) J J J,J,J,J⟩
 split
 .rename_i O R
  have:=aeK R;exact⟨73,1,2,an8 s v _,J,J,J⟩
 exact⟨0,0,0,qm s 0,J,J,J⟩
def aoc(s:aG)(b:V):b5 0 0 0 s (iY s b).1:=by
 have hp:=Yv s (eR b).1;have O:∀k,b5 0 0 0 s (gy ⟨s.e,(jg s (eR b).1).1⟩ k):=λk=>b5.same _ _ rfl (bU _) hp rfl rfl;unfold iY;split
 .exact qm s 0
 split
 .exact qm s 3
 split
 .exact O 1
 split
 .exact b5.same _ _ rfl (bU _) hp rfl rfl
 split
 .exact O 2
 exact b5.same _ _ rfl (bU _) hp rfl rfl
structure yH(C:Nat)(s x:aG):Prop where
 bB:4*(mc x.e.bB+950*x.e.queue.length)<=4*(mc s.e.bB+950*s.e.queue.length)+5*C
 Dt:20*(x.e.bB.length+x.e.queue.length)<=20*(s.e.bB.length+s.e.queue.length)+C
 tab:20*(x.p.2.1.length+x.e.queue.length)<=20*(s.p.2.1.length+s.e.queue.length)+C
 got:20*x.e.got.length<=20*s.e.got.length+C
 buf:fo x.e.hub<=fo s.e.hub
def b5.mI{t C:Nat}{s x:aG}(h:b5 m t g s x)(hm:4*m<=5*C)(ht:20*t<=C)(hg:20*g<=C):yH C s x:=by obtain⟨cG,cQ,a3,a4,a5⟩:=h;exact⟨J,J,J,J,a5⟩
def yH.trans{C D:Nat}{s x y:aG}(h:yH C s x)(k:yH D x y):yH (C+D) s y:=by obtain⟨cG,cQ,a3,a4,a5⟩:=h;obtain⟨eT,ei,jx,nM,qe⟩:=k;exact⟨J,J,J,J,J⟩
def avv(h:(eR b).2.1=0):(eR b).1.2.2.2.2.2.1.length+46=b.length:=by
 unfold eR at h ⊢;split at h
 .cases h
 split at h
 .cases h
 split at h
 .rename_i O R af
  rw[if_neg O,if_neg R,if_pos af];show((b.drop 30).take (b.length-46)).length+46=_
  grind
 cases h
def aoe(s:aG)(b:V):yH (b.length+2) s (l6 s b):=by
 have ao:=aoc s b;unfold l6;split
 .exact ao.mI J J J
 rename_i v aC;obtain⟨O,rfl⟩:=Vx aC;have hl:=avv O;obtain⟨m,t,g,R,af,aq,a8⟩:=an4 (iY s b).1 (eR b).1;exact((ao.trans R).trans (F_ _)).mI J J J
def kV(l:List V):Nat:=(l.map λx=>x.length+2).sum
def aaw:∀(l:List V) (s:aG),yH (kV l) s (u? s l)
 |[],s=>(b5.refl s).mI J J J
 |b::l,s=>by
  have hp:kV (b::l)=b.length+2+kV l:=by unfold kV;simp
  unfold u?;split
  .exact(b5.refl s).mI J J J
  exact(aoe s b).trans (aaw l _)
def Qy:∀(k:Nat) (bad:Int) (a:V),(hH k bad a).1.length+kV (hH k bad a).2.2.2<=a.length
 |0,bad,a=>by exact bU _
 |k+1,bad,a=>by
  unfold hH;split
  .exact bU _
  split
  .split
   .have:=Qy k (i64 (bad+1)) (a.drop (2+ee a))
    grind
   exact fK _
  split
  .exact bU _
  rename_i O R af;have:=Qy k bad (a.drop (2+ee a));rw[fb]at this;show(hH k bad (a.drop (2+ee a))).1.length+kV ((a.drop 2).take (ee a)::(hH k bad (a.drop (2+ee a))).2.2.2)<=a.length;have hp:kV ((a.drop 2).take (ee a)::(hH k bad (a.drop (2+ee a))).2.2.2)=min (ee a) (a.length-2)+2+kV (hH k bad (a.drop (2+ee a))).2.2.2:=by unfold kV;simp
  omega
def auZ(f:p_)(b:V):(iV f b).1.1.length+kV (iV f b).2<=f.1.length+b.length:=by
 unfold iV;split
 .exact fK _
 have:=Qy (f.1++b).length f.2.2.1 ((f.1++b).drop f.2.1.toNat)
 grind
def Xg(h:eO)(c:Int)(b:V)(ao:(hn h c b).2.2=0)(aq:h.2.1.length=4):fo (hn h c b).1+kV (hn h c b).2.1<=fo h+b.length:=by
 unfold hn at ao ⊢;split at ao
 .cases ao
 split at ao
 .cases ao
 rename_i O R;rw[if_neg O,if_neg R];have ai:=ww.1 O;have hp:=auZ (ak h.2.1 c.toNat ep) b;obtain⟨x,y,z,u,hx⟩:=Z4 aq;have RX:c=0\/c=1\/c=2\/c=3:=by unfold l3 at ai;omega
 unfold fo;dsimp only;rcases RX with rfl|rfl|rfl|rfl
 all_goals
  rw[hx]at hp ⊢;show _+kV (iV (ak [x,y,z,u] _ ep) b).2<=_
  first
   | (
    show(iV x b).1.1.length+y.1.length+z.1.length+u.1.length+kV (iV x b).2<=x.1.length+y.1.length+z.1.length+u.1.length+b.length;have:(iV x b).1.1.length+kV (iV x b).2<=x.1.length+b.length:=hp;omega)
   | (
    show x.1.length+(iV y b).1.1.length+z.1.length+u.1.length+kV (iV y b).2<=x.1.length+y.1.length+z.1.length+u.1.length+b.length;have:(iV y b).1.1.length+kV (iV y b).2<=y.1.length+b.length:=hp;omega)
   | (
    show x.1.length+y.1.length+(iV z b).1.1.length+u.1.length+kV (iV z b).2<=x.1.length+y.1.length+z.1.length+u.1.length+b.length;have:(iV z b).1.1.length+kV (iV z b).2<=z.1.length+b.length:=hp;omega)
   | (
    show x.1.length+y.1.length+z.1.length+(iV u b).1.1.length+kV (iV u b).2<=x.1.length+y.1.length+z.1.length+u.1.length+b.length;have:(iV u b).1.1.length+kV (iV u b).2<=u.1.length+b.length:=hp;omega)
structure ahV(C:Nat)(s x:aG):Prop where
 bB:4*(mc x.e.bB+950*x.e.queue.length)+5*fo x.e.hub<=4*(mc s.e.bB+950*s.e.queue.length)+5*(fo s.e.hub+C)
 Dt:20*(x.e.bB.length+x.e.queue.length)+fo x.e.hub<=20*(s.e.bB.length+s.e.queue.length)+fo s.e.hub+C
 tab:20*(x.p.2.1.length+x.e.queue.length)+fo x.e.hub<=20*(s.p.2.1.length+s.e.queue.length)+fo s.e.hub+C
 got:20*x.e.got.length+fo x.e.hub<=20*s.e.got.length+fo s.e.hub+C
def Z_{s:aG}(aq:s.e.hub.2.1.length=4)(c:Int)(b:V):ahV b.length s (q5 s c b):=by
 unfold q5;split
 .exact⟨J,J,J,J⟩
 rename_i ao;have Y:=Xg s.e.hub c b (ww.1 ao) aq;obtain⟨cG,cQ,a3,a4,a5⟩:=aaw (hn s.e.hub c b).2.1 (sa s c b);have e1:(sa s c b).e.hub=(hn s.e.hub c b).1:=rfl;have aN:(sa s c b).e.bB=s.e.bB:=rfl;have dJ:(sa s c b).e.queue=s.e.queue:=rfl;have gQ:(sa s c b).p=s.p:=rfl;have oI:(sa s c b).e.got=s.e.got:=rfl;rw[e1]at a5;rw[aN,dJ]at cG cQ;rw[dJ,gQ]at a3;rw[oI]at a4;exact⟨J,J,J,J⟩
def ey(l:List eN):Nat:=(l.map λf=>f.2.2.1.length).sum
def L7(l m:List eN):ey (l++m)=ey l+ey m:=by unfold ey;rw[EY,List.sum_append]
theorem sD(f:eN)(l:List eN):ey (f::l)=f.2.2.1.length+ey l:=rfl
def Ar(f:eN):Prop:=(f.1=0\/f.1=1)/\(0<=f.2.1/\f.2.1<4)/\f.2.2.1.length<=948
structure gS(w:bW):Prop where
 s:∀i,rr (w.at i)
 bB:∀i,(w.e i).bB=[]
 got:∀i,(w.e i).got=[]
 ba:∀f∈w.ba,Ar f
 old:∀f∈w.old,Ar f
def fl(w:bW):Nat:=(w.e false).queue.length+(w.e true).queue.length
def fH(w:bW):Nat:=fo (w.e false).hub+fo (w.e true).hub
def em(w:bW):Nat:=w.p.2.1.length+w.old.length+w.ba.length+(w.eE false).length+(w.eE true).length+3*fl w
def h'(w:bW):Nat:=ey w.ba+fH w+950*fl w
def DI(f:Bool->α)(i:Bool)(x:α):iW f i x i=x:=by unfold iW;rw[if_pos rfl]
def DJ(f:Bool->α)(i:Bool)(x:α):iW f i x (!i)=f (!i):=by unfold iW;rw[if_neg (by cases i<;>decide)]
def VI(f:Bool->Nat)(i:Bool):f false+f true=f i+f (!i):=by cases i<;>(show f false+f true=_)<;>first|rfl|exact Nat.add_comm _ _
def OQ(w:bW)(i:Bool):fl w=(w.e i).queue.length+(w.e (!i)).queue.length:=VI (λj=>(w.e j).queue.length) i
def Ou(w:bW)(i:Bool):fH w=fo (w.e i).hub+fo (w.e (!i)).hub:=VI (λj=>fo (w.e j).hub) i
def Ta(w:bW)(i:Bool):(w.eE false).length+(w.eE true).length=(w.eE i).length+(w.eE (!i)).length:=VI (λj=>(w.eE j).length) i
structure ahW(w:bW)(i:Bool)(x:aG)(v:bW):Prop where
 ba:v.ba=w.ba++x.e.bB.map (i7 i)\/v.ba=[]
 Q:fl v=x.e.queue.length+(w.e (!i)).queue.length
 B:fH v<=fo x.e.hub+fo (w.e (!i)).hub
 Z:em v<=x.p.2.1.length+(w.old.length+x.e.bB.length)+(w.ba.length+x.e.bB.length)+((w.eE i).length+x.e.got.length)+(w.eE (!i)).length+3*fl v
def Xf(h:eO)(c:Int):fo (k9 h c).1<=fo h:=by
 have key:∀k,(ak (k9 h c).1.2.1 k ep).1.length<=(ak h.2.1 k ep).1.length:=by
  intro k;unfold k9;split
  .simp
  split
  .simp
  show(ak (cj h.2.1 c.toNat ep) k ep).1.length<=_;unfold ak cj;rw[nE,E5];split
  .split<;>exact fK _
  simp
 unfold fo
 grind
def Fl(w:bW)(c:Int):fl (iJ w c)=fl w/\fH (iJ w c)<=fH w/\em (iJ w c)<=em w/\ey (iJ w c).ba<=ey w.ba:=by
 have hf:((w.ba.filter λf=>decide (¬f.2.1=c))).length<=w.ba.length:=rV _ _;have ao:=Xf (w.e false).hub c;have O:=Xf (w.e true).hub c;refine⟨rfl,?_,?_,?_⟩
 .show fo (k9 (w.e false).hub c).1+fo (k9 (w.e true).hub c).1<=fo (w.e false).hub+fo (w.e true).hub
  omega
 .show w.p.2.1.length+w.old.length+(w.ba.filter λf=>decide (¬f.2.1=c)).length+(w.eE false).length+(w.eE true).length+3*fl w<=em w
  unfold em;omega
 show ey (w.ba.filter λf=>decide (¬f.2.1=c))<=ey w.ba;generalize w.ba=l;induction l with
 |nil=>exact bU _
 |cons f l ih=>
  rw[List.filter_cons];split
  .rw[sD,sD];omega
  rw[sD];omega
def ajA{w:bW}(h:∀f∈w.ba,Ar f):(y8 w).ba=[]:=by
 show((((w.ba.filter λf=>decide (¬f.2.1=0)).filter λf=>decide (¬f.2.1=1)).filter λf=>decide (¬f.2.1=2)).filter λf=>decide (¬f.2.1=3))=[];rw[E3,E3,E3,JP];intro f hf;have:=(h f hf).2.1
 grind
def ajB(w:bW):fl (y8 w)=fl w/\fH (y8 w)<=fH w/\em (y8 w)<=em w:=by obtain⟨cG,cQ,a3,_⟩:=Fl w 0;obtain⟨eT,ei,jx,_⟩:=Fl (iJ w 0) 1;obtain⟨c1,c2,hw,_⟩:=Fl (iJ (iJ w 0) 1) 2;obtain⟨k?,mB,wY,_⟩:=Fl (iJ (iJ (iJ w 0) 1) 2) 3;exact⟨rfl,by show fH (iJ _ 3)<=_;omega,by show em (iJ _ 3)<=_;omega⟩
def atG{s:aG}(h:rr s)(c:Int):rr ⟨nR s.e c,s.p⟩:=by obtain⟨n,h⟩:=h;exact⟨n,atO h.e c,h.p⟩
def HO{w:bW}(h:gS w)(c:Int):gS (iJ w c):=
 ⟨λi=>atG (h.s i) c,h.bB,h.got,λf hf=>h.ba f (rZ.1 hf).1,h.old⟩
def adC{x:aG}(h:bA n x):∀f∈x.e.bB.map (i7 i),Ar f:=by intro f hf;obtain⟨y,hy,rfl⟩:=m1.1 hf;obtain⟨O,R⟩:=h.e.outs y hy;exact⟨by cases i<;>first|exact .inl rfl|exact .inr rfl,O,R⟩
def at6{w:bW}(h:gS w){x:aG}(hx:rr x):gS (l7 w i x):=by
 obtain⟨n,aj⟩:=hx;have aF:qH n { x.e with bB:=[],got:=[] }:={ aj.e with bB:=fK _,got:=fK _,outs:=λ_ hx=>by cases hx };refine⟨λj => ?_,λj => ?_,λj => ?_,λf hf => ?_,λf hf => ?_⟩
 .by_cases an:j=i
  .subst an
   exact⟨n,by show qH n (iW w.e j _ j);rw[DI];exact aF,aj.p⟩
  have dK:j=!i:=by cases i<;>cases j<;>simp_all
  subst dK;obtain⟨m,hm⟩:=h.s (!i);refine⟨max n m,?_,e0 aj.p (Nat.le_max_left _ _)⟩;show qH _ (iW w.e i _ (!i));rw[DJ];exact Dx hm.e (Nat.le_max_right _ _)
 .by_cases an:j=i
  .subst an;show(iW w.e j _ j).bB=[];rw[DI]
  have dK:j=!i:=by cases i<;>cases j<;>simp_all
  subst dK;show(iW w.e i _ (!i)).bB=[];rw[DJ];exact h.bB _
 .by_cases an:j=i
  .subst an;show(iW w.e j _ j).got=[];rw[DI]
  have dK:j=!i:=by cases i<;>cases j<;>simp_all
  subst dK;show(iW w.e i _ (!i)).got=[];rw[DJ];exact h.got _
 .rcases io.1 hf with hf|hf
  .exact h.ba f hf
  exact adC aj f hf
 rcases io.1 hf with hf|hf
 .exact h.old f hf
 exact adC aj f hf
def adX{w:bW}(h:gS w){x:aG}(hx:rr x):gS (jP w i x)/\ahW w i x (jP w i x):=by
 have ao:=at6 (i:=i) h hx;have zt:fl (l7 w i x)=x.e.queue.length+(w.e (!i)).queue.length:=by rw[OQ _ i];show(iW w.e i _ i).queue.length+(iW w.e i _ (!i)).queue.length=_;rw[DI,DJ]
 have aB:fH (l7 w i x)=fo x.e.hub+fo (w.e (!i)).hub:=by rw[Ou _ i];show fo (iW w.e i _ i).hub+fo (iW w.e i _ (!i)).hub=_;rw[DI,DJ]
 have zv:em (l7 w i x)=x.p.2.1.length+(w.old.length+x.e.bB.length)+(w.ba.length+x.e.bB.length)+((w.eE i).length+x.e.got.length)+(w.eE (!i)).length+3*fl (l7 w i x):=by
  have hl:=Ta (l7 w i x) i;have e1:((l7 w i x).eE i).length=(w.eE i).length+x.e.got.length:=by show(iW w.eE i _ i).length=_;rw[DI,cE]
  have aN:((l7 w i x).eE (!i)).length=(w.eE (!i)).length:=by show(iW w.eE i _ (!i)).length=_;rw[DJ]
  unfold em;rw[show(l7 w i x).p=x.p from rfl,show(l7 w i x).old=w.old++x.e.bB.map (i7 i) from rfl,show(l7 w i x).ba=w.ba++x.e.bB.map (i7 i) from rfl,cE,cE,ou];omega
 unfold jP;split
 .obtain⟨eT,ei,jx⟩:=ajB (l7 w i x)
  refine⟨HO (HO (HO (HO ao 0) 1) 2) 3,.inr (ajA ao.ba),eT.trans zt,e0 ei (E2 aB),?_⟩;omega
 exact⟨ao,.inl rfl,zt,E2 aB,E2 zv⟩
def acD(i:Bool)(l:List qb):ey (l.map (i7 i))=mc l:=by unfold ey mc;rw[Jw];rfl
def Pf{w:bW}(h:gS w)(i:Bool)(c:Int)(b:V):gS (k7 w i c b)/\((k7 w i c b).ba=[]\/∃o,(k7 w i c b).ba=w.ba++o/\4*(ey o+950*fl (k7 w i c b))+5*fH (k7 w i c b)<=4*(950*fl w)+5*(fH w+b.length)) /\
  4*(950*fl (k7 w i c b))+5*fH (k7 w i c b)<=4*(950*fl w)+5*(fH w+b.length)/\20*em (k7 w i c b)+4*fH (k7 w i c b)<=20*em w+4*(fH w+b.length):=by
 have hf:rr (q5 (w.at i) c b):=atF (h.s i) c b;obtain⟨n,aj⟩:=h.s i;obtain⟨cG,cQ,a3,a4⟩:=Z_ (s:=w.at i) aj.e.feed c b;have aK:(w.at i).e.bB=[]:=h.bB i;have hg:(w.at i).e.got=[]:=h.got i;rw[aK]at cG cQ;rw[hg]at a4;have d4:mc ([]:List qb)=0:=rfl;have e1:([]:List qb).length=0:=rfl;have aN:([]:List lz).length=0:=rfl;rw[d4]at cG;rw[e1]at cQ;rw[aN]at a4;obtain⟨O,R,af,aq,a8⟩:=adX (i:=i) h hf;have a2:=OQ w i;have Y:=Ou w i;have bj:=Ta w i;have bG:(w.at i).e.queue.length=(w.e i).queue.length:=rfl;have b_:fo (w.at i).e.hub=fo (w.e i).hub:=rfl;have co:(w.at i).p.2.1.length=w.p.2.1.length:=rfl;have zv:em w=w.p.2.1.length+w.old.length+w.ba.length+(w.eE false).length+(w.eE true).length+3*fl w:=rfl;rw[show k7 w i c b=jP w i (q5 (w.at i) c b) from rfl];refine⟨O,?_,J,J⟩;rcases R with R|R
 .refine .inr ⟨_,R,?_⟩
  rw[acD];omega
 exact .inl R
def U4{w:bW}(h:gS w)(i:Bool){x:aG}(hx:rr x){t:Nat}(hg:b5 m t g (w.at i) x):gS (jP w i x)/\h' (jP w i x)<=h' w+m/\em (jP w i x)<=em w+3*t+g:=by
 obtain⟨cG,cQ,a3,a4,a5⟩:=hg;have aK:(w.at i).e.bB=[]:=h.bB i;have Lt:(w.at i).e.got=[]:=h.got i;rw[aK]at cG cQ;rw[Lt]at a4;have d4:mc ([]:List qb)=0:=rfl;have e1:([]:List qb).length=0:=rfl;have aN:([]:List lz).length=0:=rfl;rw[d4]at cG;rw[e1]at cQ;rw[aN]at a4;obtain⟨O,R,af,aq,a8⟩:=adX (i:=i) h hx;have a2:=OQ w i;have Y:=Ou w i;have bj:=Ta w i;have bG:(w.at i).e.queue.length=(w.e i).queue.length:=rfl;have b_:fo (w.at i).e.hub=fo (w.e i).hub:=rfl;have co:(w.at i).p.2.1.length=w.p.2.1.length:=rfl;have zv:em w=w.p.2.1.length+w.old.length+w.ba.length+(w.eE false).length+(w.eE true).length+3*fl w:=rfl;have q?:ey (jP w i x).ba<=ey w.ba+mc x.e.bB:=by
  rcases R with R|R
  .rw[R,L7,acD];exact bU _
  rw[R];exact fK _
 refine⟨O,?_,?_⟩
 .unfold h';omega
 omega
def O6:=@List.mem_of_mem_eraseIdx
def OX:=@List.length_eraseIdx_le
def WH:=@List.exists_cons_of_ne_nil
def WI:=@List.mem_or_eq_of_mem_set
def Jy:=@Nat.mul_add
def WV{a:eS}(h:AN a):a.2.2.2.2.1.length<=900:=by
 rcases h with rfl|h
 .exact fK _
 exact h.1.2.2.2.2
def an1(s:aG){a:eS}(h:a.2.2.2.2.1.length<=900):b5 948 1 0 s (y1 s a):=by
 unfold y1;split
 .exact(Lf s _ _).mono J J J
 exact(F? s _).mono J J J
def an3(s:aG):b5 0 0 1 s (za s):=by
 unfold za;split
 .exact(aaq s).mono J J J
 split
 .exact(an6 s).mono J J J
 exact an7 s
def aod(s:aG)(a:eS):b5 0 0 0 s (yv s a):=b5.same _ _ rfl (bU _) rfl rfl rfl
def aau{s:aG}(ac:bA n s):b5 948 1 1 s (uC s):=by
 have ao:=aod s (mo s.e.ask).1;unfold uC;split
 .exact ao.to (an1 _ (WV (Ut ac.e.askr))) J J J
 split
 .exact ao.to (an3 _) J J J
 exact ao.mono J J J
def Rw{s:aG}(ac:bA n s):b5 948 1 3 s (kG s):=by
 have ah:b5 0 0 0 s (H_ s):=b5.same _ _ rfl (bU _) rfl rfl rfl;unfold kG;split
 .exact(b5.refl s).mono J J J
 split
 .split
  .exact ah.to (aar _) J J J
  exact(ah.trans (aau (HL ac))).to (F_ _) J J J
 exact(aau ac).to (F_ _) J J J
def aob(s:aG)(b:V):b5 950 1 1 s (yf s b).1:=by
 have ao:b5 950 1 1 s s:=(b5.refl s).mono J J J;unfold yf;split
 .exact ao
 split
 .exact ao
 split
 .exact ao
 have a2:(oY s.e.queue (oe b s.e.day).1).1.length<=s.e.queue.length+1:=by
  unfold oY
  grind
 have O:b5 950 1 0 s (DF s (oY s.e.queue (oe b s.e.day).1).1):=by
  refine⟨?_,?_,?_,bU _,bU _⟩
  .show mc s.e.bB+950*(oY s.e.queue (oe b s.e.day).1).1.length<=_;omega
  .show s.e.bB.length+(oY s.e.queue (oe b s.e.day).1).1.length<=_;omega
  show s.p.2.1.length+(oY s.e.queue (oe b s.e.day).1).1.length<=_;omega
 exact(O.trans (Rt _ 1 0 (oe b s.e.day).1)).to (F_ _) J J J
def aao{s:aG}(ac:bA n s)(a:dy):b5 950 1 3 s (tD s a).1:=by
 have ao:b5 950 1 3 s s:=(b5.refl s).mono J J J;have a2:∀(x:aG) (q:d1),b5 948 1 0 x (kW x q):=λx q=>(Ru x q (bU _)).mono J J J;unfold tD;split
 .exact(aob s _).mono J J J
 split
 .exact(aar s).mono J J J
 split
 .unfold y9
  split
  .exact ao
  split
  .exact ao
  split
  .exact(CC s 0).mono J J J
  have O:b5 0 0 0 s (Qq s):=b5.same _ _ rfl (fK _) rfl rfl rfl;exact O.to (a2 _ _) J J J
 split
 .unfold zd
  split
  .exact ao
  split
  .exact ao
  exact(a2 _ _).mono J J J
 split
 .unfold Ai
  split
  .exact ao
  split
  .exact ao
  split
  .exact ao
  split
  .exact ao
  have O:b5 0 0 0 s ⟨{ s.e with ph:=4,ring:=(mg s.e.ring (rn s.e.ring).1 (pt s.e (rn s.e.ring).1 a.2.2.2.2.1)).1 },s.p⟩:=b5.same _ _ rfl (bU _) rfl rfl rfl;exact O.to (a2 _ _) J J J
 split
 .unfold zc
  split
  .exact ao
  split
  .exact ao
  split
  .exact ao
  have O:b5 0 0 0 s (uj s 5):=b5.same _ _ rfl (bU _) rfl rfl rfl;exact O.to (a2 _ _) J J J
 split
 .exact(Rw ac).mono J J J
 split
 .exact(aan s).mono J J J
 split
 .unfold B5
  repeat(first|exact ao|exact b5.mono (m:=0) (t:=0) (g:=0) (by exact b5.same _ _ rfl (bU _) rfl rfl rfl) J J J|split)
 split
 .exact b5.mono (m:=0) (t:=0) (g:=0) (by exact b5.same _ _ rfl (bU _) rfl rfl rfl) J J J
 exact ao
def Ky:∀(k:Nat) {w:bW},gS w->(k<=w.ba.length\/w.ba=[])->gS (m? k w) /\
  4*(ey (m? k w).ba+950*fl (m? k w))+5*fH (m? k w)<=5*(ey (w.ba.take k)+fH w)+4*(ey (w.ba.drop k)+950*fl w) /\
  20*em (m? k w)+4*fH (m? k w)<=20*em w+4*(fH w+ey (w.ba.take k))
 |0,w,h,ap=>⟨h,by show 4*(ey w.ba+950*fl w)+5*fH w<=5*(ey []+fH w)+4*(ey w.ba+950*fl w);omega,by show 20*em w+4*fH w<=_;omega⟩
 |k+1,w,h,ap=>by
  unfold m?;split
  .grind
  rename_i ao;obtain⟨f,r,hf⟩:=WH ao;have Lv:k<=r.length:=by
   grind
  have e:(lI w 0 0).1=k7 { w with ba:=r } (lx f.1) f.2.1 f.2.2.1:=by unfold lI;rw[hf];rw[if_neg bh];rfl
  have O:gS { w with ba:=r }:=⟨h.s,h.bB,h.got,λg hg=>h.ba g (by grind),h.old⟩;obtain⟨eT,ei,jx,nM⟩:=Pf O (lx f.1) f.2.1 f.2.2.1;rw[e];generalize k7 { w with ba:=r } (lx f.1) f.2.1 f.2.2.1=v at eT ei jx nM;have bG:fl ({ w with ba:=r }:bW)=fl w:=rfl;have b_:fH ({ w with ba:=r }:bW)=fH w:=rfl;have co:em ({ w with ba:=r }:bW)+1=em w:=by unfold em;rw[bG,hf];simp;omega
  have dT:ey ((f::r).take (k+1))=f.2.2.1.length+ey (r.take k):=rfl;rcases ei with aC|⟨o,aC,ei⟩
  .obtain⟨c1,c2,hw⟩:=Ky k eT (.inr aC)
   have ahJ:ey (([]:List eN).take k)=0:=by cases k<;>rfl
   grind
  have cq:k<=v.ba.length:=by rw[aC,cE];exact e0 Lv (Nat.le_add_right _ _)
  obtain⟨c1,c2,hw⟩:=Ky k eT (.inl cq);have aN:v.ba.drop k=r.drop k++o:=by rw[aC];exact WJ Lv
  rw[aN,L7]at c2
  grind
def VB{w:bW}(h:gS w)(i:Bool):gS (nz w i)/\h' (nz w i)<=h' w+948/\em (nz w i)<=em w+6:=by obtain⟨n,aj⟩:=h.s i;exact U4 h i ⟨_,adU aj⟩ (Rw aj)
def awd{w:bW}(h:gS w):gS (jJ w)/\4*h' (jJ w)<=5*h' w+7600/\20*em (jJ w)<=20*em w+4*h' w+240:=by
 obtain⟨cG,cQ,a3⟩:=Ky w.ba.length h (.inl (bU _));rw[nF]at cQ a3;rw[OE]at cQ;obtain⟨eT,ei,jx⟩:=VB cG false;obtain⟨c1,c2,hw⟩:=VB eT true;have d4:ey ([]:List eN)=0:=rfl;rw[d4]at cQ;refine⟨c1,?_,?_⟩
 .show 4*h' (nz (nz (m? w.ba.length w) false) true)<=_
  unfold h' at *
  omega
 show 20*em (nz (nz (m? w.ba.length w) false) true)<=_;unfold h';omega
def qh{f:p_}(h:pU f):f.1.length<=1025:=by rcases h.2 with h|h<;>omega
def ahP{w:bW}(h:gS w):fH w<=8200:=by
 have key:∀i,fo (w.e i).hub<=4100:=λi=>by obtain⟨n,aj⟩:=h.s i;have ao:=qh (aj.e.fd 0);have O:=qh (aj.e.fd 1);have R:=qh (aj.e.fd 2);have af:=qh (aj.e.fd 3);show(ak (w.at i).e.hub.2.1 0 ep).1.length+(ak (w.at i).e.hub.2.1 1 ep).1.length+(ak (w.at i).e.hub.2.1 2 ep).1.length+(ak (w.at i).e.hub.2.1 3 ep).1.length<=4100;omega
 have ao:=key false;have O:=key true;unfold fH;omega
structure k6(w v:bW):Prop where
 ok:gS v
 L:h' v<=h' w+4000
 Z:em v<=em w+4000
def k6.refl{w:bW}(h:gS w):k6 w w:=⟨h,J,J⟩
def UV{w u:bW}(h:gS u)(i:Bool)(c:Int)(Y:b.length<=1200)(hL:h' u+b.length<=h' w+1200)(zv:em u<=em w):k6 w (k7 u i c b):=by
 obtain⟨cG,cQ,a3,a4⟩:=Pf h i c b;have aB:=ahP h;have aL:h' u=ey u.ba+fH u+950*fl u:=rfl;refine⟨cG,?_,J⟩;show ey (k7 u i c b).ba+fH (k7 u i c b)+950*fl (k7 u i c b)<=_;rcases cQ with cQ|⟨o,cQ,a5⟩
 .rw[cQ,show ey ([]:List eN)=0 from rfl];omega
 rw[cQ,L7];omega
def S8:∀(l:List eN) (n:Nat),n<l.length->ey (l.eraseIdx n)+(ak l n ns).2.2.1.length=ey l
 |f::l,0,h=>by show ey l+f.2.2.1.length=_;rw[sD];omega
 |f::l,n+1,h=>by have:=S8 l n (by grind);show ey (f::l.eraseIdx n)+(ak l n ns).2.2.1.length=_;rw[sD,sD];omega
def acE:∀(l:List eN) (n:Nat) (g:eN),n<l.length->ey (l.set n g)+(ak l n ns).2.2.1.length=ey l+g.2.2.1.length
 |f::l,0,g,h=>by show ey (g::l)+f.2.2.1.length=_;rw[sD,sD];omega
 |f::l,n+1,g,h=>by have:=acE l n g (by grind);show ey (f::l.set n g)+(ak l n ns).2.2.1.length=_;rw[sD,sD];omega
def HI{l:List eN}(h:n<l.length):ak l n ns∈l:=by unfold ak;rw[nE,jM h];exact mu h
def HP{w:bW}(h:gS w){l:List eN}(hl:∀f∈l,Ar f):gS { w with ba:=l }:=⟨h.s,h.bB,h.got,hl,h.old⟩
def axi{w:bW}(h:gS w)(n m:Int):k6 w (lI w n m).1:=by
 unfold lI;split
 .exact k6.refl h
 have aj:n.toNat<w.ba.length:=J;have fU:=h.ba _ (HI aj);dsimp only;split
 .rename_i hm
  refine UV (HP h λf hf => ?_) _ _ (by rw[hE];have:=fU.2.2;omega) ?_ ?_
  .rcases WI hf with hf|rfl
   .exact h.ba f hf
   exact⟨fU.1,fU.2.1,by rw[fb];have:=fU.2.2;omega⟩
  .have:=acE w.ba n.toNat ((ak w.ba n.toNat ns).1,(ak w.ba n.toNat ns).2.1,(ak w.ba n.toNat ns).2.2.1.drop m.toNat,()) aj
   rw[fb]at this;rw[hE];show ey (w.ba.set n.toNat _)+fH w+950*fl w+_<=ey w.ba+fH w+950*fl w+1200;omega
  show w.p.2.1.length+w.old.length+(w.ba.set n.toNat _).length+(w.eE false).length+(w.eE true).length+3*fl w<=em w;rw[ko];exact bU _
 refine UV (HP h λf hf=>h.ba f (O6 hf)) _ _ (by have:=fU.2.2;omega) ?_ ?_
 .have:=S8 w.ba n.toNat aj
  show ey (w.ba.eraseIdx n.toNat)+fH w+950*fl w+_<=ey w.ba+fH w+950*fl w+1200;omega
 have:(w.ba.eraseIdx n.toNat).length<=w.ba.length:=OX _ _;show w.p.2.1.length+w.old.length+(w.ba.eraseIdx n.toNat).length+(w.eE false).length+(w.eE true).length+3*fl w<=w.p.2.1.length+w.old.length+w.ba.length+(w.eE false).length+(w.eE true).length+3*fl w;omega
def agq{w:bW}(h:gS w){f:eN}(hf:Ar f):k6 w { w with ba:=w.ba++[f] }:=by
 have af:=hf.2.2;refine⟨HP h λg hg => ?_,?_,?_⟩
 .rcases io.1 hg with hg|hg
  .exact h.ba g hg
  grind
 .show ey (w.ba++[f])+fH w+950*fl w<=ey w.ba+fH w+950*fl w+4000
  rw[L7,sD,show ey ([]:List eN)=0 from rfl];omega
 show w.p.2.1.length+w.old.length+(w.ba++[f]).length+(w.eE false).length+(w.eE true).length+3*fl w<=w.p.2.1.length+w.old.length+w.ba.length+(w.eE false).length+(w.eE true).length+3*fl w+4000
 grind
def axj{w:bW}(h:gS w){x:aG}(hx:rr x)(hg:b5 950 1 3 (w.at i) x):k6 w (jP w i x):=by obtain⟨cG,cQ,a3⟩:=U4 h i hx hg;exact⟨cG,J,J⟩
def aat(s:aG)(aq:s.e.hub.2.1.length=4)(c:Int):b5 0 0 0 s (vZ s c).1:=by
 have Y:fo (lr s.e.hub c).1<=fo s.e.hub:=by
  have key:∀k,(ak (lr s.e.hub c).1.2.1 k ep).1.length<=(ak s.e.hub.2.1 k ep).1.length:=by
   intro k;unfold lr;split
   .simp
   split
   .simp
   show(ak (cj s.e.hub.2.1 c.toNat ep) k ep).1.length<=_;unfold ak cj;rw[nE,E5];split
   .split<;>exact fK _
   simp
  unfold fo
  grind
 unfold vZ;split
 .exact b5.refl s
 split
 .exact b5.refl s
 have O:b5 0 0 0 s ⟨{ s.e with hub:=(lr s.e.hub c).1 },s.p⟩:=⟨bU _,bU _,bU _,bU _,Y⟩;exact O.to (F_ _) J J J
def Ud{w:bW}(h:gS w)(i:Bool)(c:Int):gS (rC w i c)/\h' (rC w i c)<=h' w/\em (rC w i c)<=em w:=by obtain⟨n,aj⟩:=h.s i;exact U4 h i ⟨_,at0 aj c⟩ (aat _ aj.e.feed c)
def axh{w:bW}(h:gS w)(a:dy)(Y:a.2.2.2.2.1.length<=1200)(ai:¬a.1=17):k6 w (gT w a).1:=by
 unfold gT;split
 .exact axi h _ _
 split
 .unfold FL
  split
  .exact k6.refl h
  rename_i aj;have kQ:a.2.2.1.toNat<w.ba.length:=J;have O:=S8 w.ba a.2.2.1.toNat kQ;have R:(w.ba.eraseIdx a.2.2.1.toNat).length<=w.ba.length:=OX _ _;refine⟨HP h λf hf=>h.ba f (O6 hf),?_,?_⟩
  .show ey (w.ba.eraseIdx a.2.2.1.toNat)+fH w+950*fl w<=ey w.ba+fH w+950*fl w+4000;omega
  show w.p.2.1.length+w.old.length+(w.ba.eraseIdx a.2.2.1.toNat).length+(w.eE false).length+(w.eE true).length+3*fl w<=w.p.2.1.length+w.old.length+w.ba.length+(w.eE false).length+(w.eE true).length+3*fl w+4000;omega
 split
 .unfold Fa
  split
  .exact k6.refl h
  rename_i aj;exact agq h (h.old _ (HI J))
 split
 .unfold IH
  split
  .exact k6.refl h
  rename_i aj;have n1:0<=a.2.2.1/\a.2.2.1<(w.old.length:Int):=k2 λq=>aj (.inl q);have aK:=h.old _ (HI (l:=w.old) (n:=a.2.2.1.toNat) J);refine agq h ⟨aK.1,aK.2.1,?_⟩;show(cj _ _ _).length<=948;unfold cj;rw[ko];exact aK.2.2
 split
 .unfold G9
  split
  .exact k6.refl h
  exact UV h _ _ Y J (bU _)
 split
 .unfold AJ
  split
  .exact k6.refl h
  split
  .exact k6.refl h
  split
  .exact k6.refl h
  show k6 w (rC (rC w false a.2.2.1) true a.2.2.1);obtain⟨cG,cQ,a3⟩:=Ud h false a.2.2.1;obtain⟨eT,ei,jx⟩:=Ud cG true a.2.2.1;exact⟨eT,J,J⟩
 split
 .unfold FE
  split
  .exact k6.refl h
  show k6 w (iJ w a.2.2.1);obtain⟨cG,cQ,a3,a4⟩:=Fl w a.2.2.1;refine⟨HO h _,?_,J⟩;show ey (iJ w a.2.2.1).ba+fH (iJ w a.2.2.1)+950*fl (iJ w a.2.2.1)<=ey w.ba+fH w+950*fl w+4000;omega
 split
 .unfold uV
  split
  .exact k6.refl h
  obtain⟨n,aj⟩:=h.s (lx a.2.1);exact axj h ⟨_,atR aj a⟩ (aao aj a)
 exact k6.refl h
structure jL(a r:Nat)(w:bW):Prop where
 ok:gS w
 L:4^r*(h' w+7600)<=5^r*(4000*a+7600)
 Z:4^r*em w<=5^r*(8000*a+9000)
def T8(r:Nat):4^r<=5^r:=Nat.pow_le_pow_left J r
def jL.aiu{w v:bW}(h:jL a r w)(k:k6 w v):jL (a+1) r v:=by
 have hp:=T8 r;refine⟨k.ok,?_,?_⟩
 .calc 4^r*(h' v+7600)<=4^r*(h' w+7600+4000):=BE _ (by have:=k.L;omega)
   _=4^r*(h' w+7600)+4^r*4000:=Jy _ _ _
   _<=5^r*(4000*a+7600)+5^r*4000:=Nat.add_le_add h.L (iq _ hp)
   _=5^r*(4000*(a+1)+7600):=by rw[<- Jy,show 4000*a+7600+4000=4000*(a+1)+7600 by omega]
 calc 4^r*em v<=4^r*(em w+4000):=BE _ k.Z
  _=4^r*em w+4^r*4000:=Jy _ _ _
  _<=5^r*(8000*a+9000)+5^r*8000:=Nat.add_le_add h.Z (JJ hp J)
  _=5^r*(8000*(a+1)+9000):=by rw[<- Jy,show 8000*a+9000+8000=8000*(a+1)+9000 by omega]
def jL.round  {w : bW} (h : jL a r w) : jL a (r + 1) (jJ w) := by
  have hp := T8 r
  obtain ⟨bF, b3, dp⟩ := awd h.ok
  have hL := h.L
  have zv := h.Z
  refine ⟨bF, ?_, ?_⟩
  · calc 4 ^ (r + 1) * (h' (jJ w) + 7600) = 4 ^ r * (4 * (h' (jJ w) + 7600)) := by rw [Nat.pow_succ, Nat.mul_assoc]
      _ ≤ 4 ^ r * (5 * (h' w + 7600)) := Nat.mul_le_mul_left _ J
      _ = 5 * (4 ^ r * (h' w + 7600)) := Nat.mul_left_comm _ _ _
      _ ≤ 5 * (5 ^ r * (4000 * a + 7600)) := Nat.mul_le_mul_left _ hL
      _ = 5 ^ (r + 1) * (4000 * a + 7600) := by rw [Nat.pow_succ, Nat.mul_comm (5 ^ r) 5, Nat.mul_assoc]
  · have O : 5 * (4 ^ (r + 1) * em (jJ w)) ≤ 5 * (5 ^ (r + 1) * (8000 * a + 9000)) := by
      calc 5 * (4 ^ (r + 1) * em (jJ w)) = 4 ^ r * (20 * em (jJ w)) := by
            rw [Nat.pow_succ, Nat.mul_assoc, Nat.mul_left_comm, ← Nat.mul_assoc 5 4]
        _ ≤ 4 ^ r * (20 * em w + (4 * (h' w + 7600))) := Nat.mul_le_mul_left _ J
        _ = 20 * (4 ^ r * em w) + 4 * (4 ^ r * (h' w + 7600)) := by rw [Nat.mul_add, Nat.mul_left_comm, Nat.mul_left_comm _ 4]
        _ ≤ 20 * (5 ^ r * (8000 * a + 9000)) + 4 * (5 ^ r * (4000 * a + 7600)) := Nat.add_le_add (Nat.mul_le_mul_left _ zv) (Nat.mul_le_mul_left _ hL)
        _ = 5 ^ r * (20 * (8000 * a + 9000) + 4 * (4000 * a + 7600)) := by rw [Nat.mul_add (5 ^ r) (20 * _), Nat.mul_left_comm (5 ^ r) 20, Nat.mul_left_comm (5 ^ r) 4]
        _ ≤ 5 ^ r * (25 * (8000 * a + 9000)) := Nat.mul_le_mul_left _ J
        _ = 5 * (5 ^ (r + 1) * (8000 * a + 9000)) := by rw [Nat.pow_succ, Nat.mul_assoc, Nat.mul_left_comm 5 (5 ^ r), ← Nat.mul_assoc 5 5]
    exact Nat.le_of_mul_le_mul_left O J
def jL.Fx{a:Nat}:∀(k:Nat) {r:Nat} {w:bW},jL a r w->jL a (r+k) (oF k w)
 |0,r,w,h=>h
 |k+1,r,w,h=>by
  have:=jL.Fx k h.round;rw[Nat.add_right_comm]at *
  exact this
def jL.mono{b s:Nat}{w:bW}(h:jL a r w)(bu:a<=b)(ah:r<=s):jL b s w:=by
 obtain⟨d,rfl⟩:∃d,s=d+r:=⟨s-r,J⟩;have hp:=T8 d;have key:∀{x y z:Nat},4^r*x<=5^r*y->y<=z->4^(d+r)*x<=5^(d+r)*z:=fun{x y z} O R=>by rw[Nat.pow_add,Nat.pow_add,Ox,Ox];exact JJ hp (e0 O (BE _ R))
 exact⟨h.ok,key h.L J,key h.Z J⟩
def jL.Dt{w:bW}(h:jL 41 66 w):em w<=900000000000:=by have zv:=h.Z;omega
def aq6{h:eO}(hf:∀c,pU (ak h.2.1 c ep))(c:Int)(Y:b.length<=1000000):LI (h,c,b,())=some ((hn h c b).1,(hn h c b).2.1,(hn h c b).2.2,()):=by
 unfold LI hn;rw[abQ];by_cases ai:l3 c
 .rw[cD ai,if_neg (not_not_intro ai)]
  have aq:aU c (bf 4)=true:=by simp only[go_sem];exact ai
  refine((dR aq).trans ?_);by_cases aA:mW h c
  .rw[if_neg (not_not_intro aA)]
   have ah:=hf c.toNat;refine(b1 (by rw[g33,show ak h.1 c.toNat false=true from aA];rfl)).trans ((dR aq).trans ?_);have ac:0<=(ak h.2.1 c.toNat ep).2.1/\(ak h.2.1 c.toNat ep).2.1<=65535:=by have:=ah.1;omega
   refine(bJ (anD (by have:=qh ah;omega) Y ac)).trans (((dR aq)))
  rw[if_pos aA];exact ce (by rw[g33];cases hx:ak h.1 c.toNat false;rfl;exact absurd hx aA)
 rw[cC ai,if_pos ai];rfl
theorem amE(e:c_):QS (e.t,())=some (({ e with bB:=[],got:=[] }:c_).t,e.bB,e.got,()):=rfl
def Zh(s:aG)(c:Int):QT (s.t,c,())=some ((⟨nR s.e c,s.p⟩:aG).t,(k9 s.e.hub c).2,()):=by exact(bJ (aq4 _ _))
def amI{s:aG}(ac:bA n s)(aj:n<=999999000000)(c:Int):KN (s.t,c,())=some ((vZ s c).1.t,(vZ s c).2,()):=by
 unfold KN vZ;by_cases cx:s.e.ph=8
 .rw[if_pos cx];exact ce (cJ cx)
 rw[if_neg cx];refine a1 (cr cx) ((bJ (aq7 _ _)).trans (?_));by_cases ao:(lr s.e.hub c).2=0
 .rw[if_neg (not_not_intro ao)]
  refine a1 (j6 ao) ?_;exact(bJ (Rk (adR ac c) aj))
 rw[if_pos ao];exact ce (lF ao)
def amL{s:aG}(ac:bA m s)(hm:m<=999999000000)(n:d1)(aj:n.2.2.2.2.2.1.length<=1000):FO (s.t,n,())=some ((v7 s n).t,()):=by
 unfold FO v7;by_cases O:n.2.1=101
 .rw[if_pos O]
  refine(bJ ((ce (cJ O)))).trans (?_);cases a2:n.1
  .rw[if_neg bh]
   refine(bq (cJ O) ?_);exact(bJ (avN ac J n))
  rw[if_pos rfl];exact(bJ (avP ac J n aj))
 rw[if_neg O];refine(bJ ((b1 (cr O)))).trans (((a1 (cr O) ?_)));by_cases R:n.2.1=201
 .rw[if_pos R]
  refine(bJ ((ce (cJ R)))).trans (?_);cases a2:n.1
  .rw[if_neg bh]
   refine(bq (cJ R) ?_);exact(bJ (anJ n (by have:=WV ac.e.askr;omega)))
  rw[if_pos rfl];exact(bJ (anL ac J n))
 rw[if_neg R];refine(bJ ((b1 (cr R)))).trans (((a1 (cr R) ?_)));exact(bJ (aw3 ac J n))
def atp:(ls b).1.2.2.2.2.2.1.length<=1000:=by
 rcases aeJ b with⟨n,h,ah,_⟩|⟨e,_,h⟩
 .rw[h]
  have ap:=ah.2.2.2.2.2.2;unfold Hg at ap
  grind
 rw[h];show([]:V).length<=1000;simp
def vW{s:aG}(ac:bA n s)(aj:n<=999999000000):(ob (j8 (s.t,())) λ(a:e6×Unit)=>(some (a.1,()):Option (e6×Unit)))=some ((oX s).t,()):=(bJ (Rk ac aj)).trans rfl
def amG{s:aG}(ac:bA n s)(aj:n<=999990000000)(b:V):FM (s.t,b,())=some ((l6 s b).t,()):=by
 unfold FM l6;obtain⟨FQ,hT,aA⟩:=asm ac b;refine(bJ hT).trans (?_);have ap:=adT ac b;cases aK:(iY s b).2 with
 |none =>have R1:=λh=>(aA.1 h) aK;exact ce (lF R1)
 |some v=>
  have R1:=aA.2 (by rw[aK];simp);refine a1 (j6 R1) ?_;dsimp only;obtain⟨ao,aC⟩:=Vx aK;obtain⟨ah,_,_,_⟩:=Ug ao;have ri:=Uh ao;rw[<- aC]at ah ri;have abX:∀k:Nat,dC (ak v.2.2.1 k 0):=λk=>by
   rw[ri];match k with
   |0=>exact ah.1.2.1
   |1=>exact ah.1.2.2.1
   |k+2=>show dC 0;decide
  have iP:v.2.2.2.2.2.1.length<=1000000:=by have:=ah.1.2.2.2.2.2.2.2;omega
  have aF:=adF ap abX;unfold oH at aF ⊢;have hf:=adJ ap;have fO:=adk v.2.2.2.2.2.1 iP;have dS:=ST v.2.2.2.2.2.1 iP;have aqo:=atp (b:=v.2.2.2.2.2.1);by_cases R:v.1=2
  .rw[if_pos R]at aF ⊢
   refine bq (cJ R) ((bJ (aw0 ap J)).trans (((bJ fO).trans (?_))));by_cases af:(ls v.2.2.2.2.2.1).2.1=0
   .rw[if_pos af]at aF ⊢
    refine bq (cJ af) (bq (cJ R) ?_);exact(bJ (amL hf J _ aqo)).trans ((vW aF J))
   rw[if_neg af]at aF ⊢;refine a1 (cr af) ((bJ dS).trans (?_));by_cases aq:(fy v.2.2.2.2.2.1).2.1=0
   .rw[if_pos aq]at aF ⊢
    refine bq (cJ aq) (bq (cJ R) ?_);exact(bJ (anP hf J (Ue aq).1 v)).trans ((vW aF J))
   rw[if_neg aq]at aF ⊢;refine a1 (cr aq) ?_;exact(bJ (LZ _)).trans ((vW aF J))
  rw[if_neg R]at aF ⊢;refine a1 (cr R) ((bJ fO).trans (?_));by_cases af:(ls v.2.2.2.2.2.1).2.1=0
  .rw[if_pos af]at aF ⊢
   refine bq (cJ af) (a1 (cr R) ?_);exact(bJ (aw2 ap J abX _)).trans ((vW aF J))
  rw[if_neg af]at aF ⊢;refine a1 (cr af) ((bJ dS).trans (?_));by_cases aq:(fy v.2.2.2.2.2.1).2.1=0
  .refine bq (cJ aq) (a1 (cr R) ?_)
   exact(bJ (LZ _)).trans ((vW aF J))
  refine a1 (cr aq) ?_;exact(bJ (LZ _)).trans ((vW aF J))
def aef:∀l:List V,2*l.length<=kV l
 |[]=>bU _
 |b::l=>by have:=aef l;unfold kV at *;simp;omega
def amD{s:aG}(ac:bA n s)(aj:n<=990000000000)(c:Int)(Y:b.length<=1000000):KL (s.t,c,b,())=some ((q5 s c b).t,()):=by
 unfold KL q5;refine(bJ (aq6 ac.e.fd c Y)).trans (?_);by_cases ao:(hn s.e.hub c b).2.2=0
 .rw[if_neg (not_not_intro ao)]
  have ai:l3 c:=by
   unfold hn at ao
   grind
  have aq:aU c (bf 4)=true:=by simp only[go_sem];exact ai
  have hl:(hn s.e.hub c b).2.1.length<=600000:=by
   have O:=Xg s.e.hub c b ao ac.e.feed;have R:=aef (hn s.e.hub c b).2.1;have a8:fo s.e.hub<=4100:=by have ao:=qh (ac.e.fd 0);have O:=qh (ac.e.fd 1);have R:=qh (ac.e.fd 2);have af:=qh (ac.e.fd 3);unfold fo;omega
   omega
  refine a1 (j6 ao) ((bn aq (bn aq (?_))));generalize hg:(λx=>(_:Option (aE (Int×e6×Unit) (e6×Unit))))=F;have key:∀(l:List V) (i:Nat) (t:aG) (m:Nat),(hn s.e.hub c b).2.1.drop i=l->i<=(hn s.e.hub c b).2.1.length->bA m t->m<=990000000000+1003*i ->
    ∃j:Int,bN F ((i:Int),t.t,())=some (.ex 0 (j,(u? t l).t,())):=by
   intro l;induction l with
   |nil =>intro i t m aF hi ht hm;have cq:=congrArg List.length aF;rw[fb,gw]at cq;refine⟨(i:Int),d_ ?_⟩;subst hg;exact b1 (c3 (by show ¬(i:Int)<((hn s.e.hub c b).2.1.length:Int);omega))
   |cons x l ih=>
    intro i t m aF hi ht hm;have cq:=congrArg List.length aF;rw[fb,ew]at cq;have bm:i<(hn s.e.hub c b).2.1.length:=J;have hx:(hn s.e.hub c b).2.1[i]=x/\(hn s.e.hub c b).2.1.drop (i+1)=l:=by
     rw[m2 bm]at aF
     grind
    have gG:i64 (av (i:Int) 1)=((i+1:Nat):Int):=fP (by show(i:Int)+1=_;omega) J;unfold u?;have dW:F ((i:Int),t.t,())=(T (ag t.e.ph 8) (some (.ex 0 ((i:Int),t.t,()))) (ob (FM (t.t,x,())) λa=>some (.nx (((i+1:Nat):Int),a.1,())))):=by subst hg;refine bq (dj (by show(i:Int)<((hn s.e.hub c b).2.1.length:Int);omega)) (bn cM ?_);rw[he,show ak (hn s.e.hub c b).2.1 i (aO UInt8)=x by rw[nth_get bm];exact hx.1,gG];rfl
    by_cases cx:t.e.ph=8
    .rw[if_pos cx]
     exact⟨(i:Int),d_ (dW.trans (ce (cJ cx)))⟩
    rw[if_neg cx];have R8:=amG ht J x;have fO:=dW.trans (a1 (cr cx) ((bJ R8).trans (dL rfl)));obtain⟨j,an⟩:=ih (i+1) (l6 t x) (m+1003) hx.2 J (adK ht x) J;exact⟨j,(ez fO).trans an⟩
  obtain⟨j,an⟩:=key _ 0 (sa s c b) n rfl (fK _) (adI ac c b) J;exact(c' (an)).trans ((dR g62))
 rw[if_pos ao];exact ce (lF ao)
def amJ{s:aG}(ac:bA n s)(aj:n<=999999000000)(a:eS):Cl (s.t,a,())=some ((y1 s a).t,()):=by
 unfold Cl y1;by_cases h:a.1=1
 .rw[if_pos h]
  exact bq (cJ h) ((bJ (S3 ac J 0 a.2.2.2.2.1)))
 rw[if_neg h];exact a1 (cr h) ((bJ (xA ac J a.2.2.2.2.1)))
def amK{s:aG}(ac:bA n s)(aj:n<=999999000000):Cm (s.t,())=some ((za s).t,()):=by
 unfold Cm za;by_cases aq:s.e.ph=4
 .rw[if_pos aq]
  exact bq (cJ aq) ((bJ (aeN s)))
 rw[if_neg aq];refine a1 (cr aq) ?_;by_cases a8:s.e.ph=5
 .rw[if_pos a8]
  exact bq (cJ a8) ((bJ (anM s)))
 rw[if_neg a8];exact a1 (cr a8) ((bJ (aw1 ac J)))
def av9{r:fc}(h:lR r):0<=r.2.2.2.1/\r.2.2.2.1<=1000000:=by
 rcases h with rfl|⟨_,_,_,_,R,_⟩
 .exact⟨by show(0:Int)<=0;omega,by show(0:Int)<=1000000;omega⟩
 omega
def ag0{s:aG}(ac:bA n s)(aj:n<=999998000000):
  (ob (B1 (s.e.ask,())) λ(a6:eS×Bool×Bool×Unit)=>T a6.2.1 (ob (Cl ((yv s a6.1).t,a6.1,())) λ(a:e6×Unit)=>ob (j8 (a.1,())) λ(a:e6×Unit)=>some (a.1,()))
   (T a6.2.2.1 (ob (Cm ((yv s a6.1).t,())) λ(a:e6×Unit)=>ob (j8 (a.1,())) λ(a:e6×Unit)=>some (a.1,()))
    (ob (j8 ((yv s a6.1).t,())) λ(a:e6×Unit)=>some (a.1,()))):Option (e6×Unit))=some ((oX (uC s)).t,()):=by
 refine bg (aiV ac.e.askr) ?_;have bb:=adW ac (Ut ac.e.askr);have ht:=TM ac;unfold uC at ht ⊢;cases O:(mo s.e.ask).2.1
 .rw[O]at ht
  refine a1 rfl ?_;cases R:(mo s.e.ask).2.2
  .rw[R]at ht
   exact a1 rfl (vW bb J)
  rw[R]at ht;exact bq rfl (bg (amK bb J) (vW ht J))
 rw[O]at ht;exact bq rfl (bg (amJ bb J _) (vW ht J))
def Zi{s:aG}(ac:bA n s)(aj:n<=999998000000):FN (s.t,())=some ((kG s).t,()):=by
 unfold FN kG;by_cases Gb:s.e.ph=7\/s.e.ph=8
 .rw[if_pos Gb]
  refine bg (a:=(true,())) ?_ (ce rfl);by_cases dN:s.e.ph=7
  .exact ce (cJ dN)
  refine a1 (cr dN) ?_;show some (ag s.e.ph 8,())=_;rw[cJ (Gb.resolve_left dN)]
 rw[if_neg Gb];have dN:=λh=>Gb (.inl h);have cx:=λh=>Gb (.inr h);refine bg (a:=(false,())) (a1 (cr dN) (by show some (ag s.e.ph 8,())=_;rw[cr cx])) (?_);refine(bJ (show uk (s.e.ph,())=_ from HY _)).trans (?_);by_cases hl:jT s.e.ph
 .rw[cD hl,if_pos hl]
  refine((bJ (av8 (av9 ac.e.ring))).trans (?_));by_cases a2:s.e.seq=4611686018427387904
  .rw[if_pos a2]
   exact bq (cJ a2) ((bJ (agc (HL ac) J)))
  rw[if_neg a2];exact a1 (cr a2) (ag0 (HL ac) aj)
 rw[cC hl,if_neg hl];exact(ag0 ac aj)
def amF{s:aG}(ac:bA n s)(aj:n<=999998000000)(a:dy)(Y:a.2.2.2.2.1.length<=1000000):KM (s.t,a,())=some ((tD s a).1.t,(tD s a).2,()):=by
 unfold KM tD;by_cases ao:a.1=0
 .rw[if_pos ao];exact bq (cJ ao) ((bJ (anO ac J _ Y)))
 rw[if_neg ao];refine a1 (cr ao) ?_;by_cases O:a.1=1
 .rw[if_pos O];exact bq (cJ O) ((bJ (agc ac J)))
 rw[if_neg O];refine a1 (cr O) ?_;by_cases R:a.1=2
 .rw[if_pos R];exact bq (cJ R) ((bJ (aw4 ac J)))
 rw[if_neg R];refine a1 (cr R) ?_;by_cases af:a.1=3
 .rw[if_pos af];exact bq (cJ af) ((bJ (awZ ac J)))
 rw[if_neg af];refine a1 (cr af) ?_;by_cases aq:a.1=4
 .rw[if_pos aq];exact bq (cJ aq) ((bJ (avO ac J _)))
 rw[if_neg aq];refine a1 (cr aq) ?_;by_cases a8:a.1=5
 .rw[if_pos a8];exact bq (cJ a8) ((bJ (anK ac J _)))
 rw[if_neg a8];refine a1 (cr a8) ?_;by_cases cS:a.1=6
 .rw[if_pos cS];exact bq (cJ cS) ((bJ (Zi ac aj)))
 rw[if_neg cS];refine a1 (cr cS) ?_;by_cases zq:a.1=14
 .rw[if_pos zq];exact bq (cJ zq) ((bJ (agb ac J)))
 rw[if_neg zq];refine a1 (cr zq) ?_;by_cases zr:a.1=15
 .rw[if_pos zr]
  refine bq (cJ zr) ?_;by_cases cx:s.e.ph=8
  .rw[if_pos cx];exact a1 (j6 cx) ((bJ (awY ac)))
  rw[if_neg cx];exact ce (lF cx)
 rw[if_neg zr];refine a1 (cr zr) ?_;by_cases nY:a.1=16
 .rw[if_pos nY];exact ce (cJ nY)
 rw[if_neg nY];exact b1 (cr nY)
def bW.t(w:bW):e5:=([(w.e false).t,(w.e true).t],w.p,w.ba,w.old,[w.eE false,w.eE true],())
def wi(n l:Int):qU (n,l,())=some (D (0<=n/\n<l),()):=by unfold qU;simp only[go_sem]
def Kt(l:List eN):D_ (l,())=some (l,()):=by refine bn cM ?_;rw[show sub l 0 (len l)=l by simp[sub,len]]
def Qp(l:List eN)(h:l.length<=1500000000000):IA (l,())=some (l,()):=by refine dR ?_;rw[g21];refine cD ?_;show l.length*80<=_;omega
def DE(w:bW)(i:Bool):Bs ((w.t,()),eq i,())=some ((w.t,()),(w.at i).t,()):=by
 cases i
 .rfl
 rfl
def YR{e:c_}{c:Int}(h:¬(k9 e.hub c).2=0):nR e c=e:=by
 unfold nR;unfold k9 at h ⊢;split
 .rfl
 split
 .rfl
 grind
def ZI(p:α->Bool){l:List α}{j:Nat}(h:j<l.length):(l.take (j+1)).filter p=(l.take j).filter p++(if p l[j]then[l[j]]else[]):=by
 rw[nH h,E4]
 grind
def YP{l bs:List α}{i:Nat}(h:i<=l.length):(dU l i n bs).take i=l.take i:=by
 unfold dU
 grind
def Qu{l bs:List α}{i:Nat}(h:i+min n bs.length<=l.length):(dU l i n bs).length=l.length:=by
 unfold dU
 grind
def Xc(w:bW)(c:Int)(hl:w.ba.length<=1500000000000):Je ((w.t,()),c,())=some (((iJ w c).t,()),()):=by
 unfold Je;dsimp only;generalize hg:(λab=>(_:Option (aE (Int×(e5×Unit)×Unit) Unit)))=F;have MQ:F (0,(w.t,()),())=some (.nx (1,(({ w with e:=iW w.e false (nR (w.e false) c) }:bW).t,()),())):=by
  subst hg;refine bq rfl ((bJ (DE w false)).trans (((bJ (Zh (w.at false) c)).trans (?_))));dsimp only;by_cases h:(k9 (w.at false).e.hub c).2=0
  .exact bq (cJ h) (dR rfl)
  refine a1 (cr h) ?_;have:=YR h;rw[show iW w.e false (nR (w.e false) c)=w.e by funext j;unfold iW;split;(rename_i an;rw[an];exact this);rfl];rfl
 have eG:∀w:bW,F (1,(w.t,()),())=some (.nx (2,(({ w with e:=iW w.e true (nR (w.e true) c) }:bW).t,()),())):=by
  intro w;subst hg;refine bq rfl ((bJ (DE w true)).trans (((bJ (Zh (w.at true) c)).trans (?_))));dsimp only;by_cases h:(k9 (w.at true).e.hub c).2=0
  .exact bq (cJ h) (dR rfl)
  refine a1 (cr h) ?_;have:=YR h;rw[show iW w.e true (nR (w.e true) c)=w.e by funext j;unfold iW;split;(rename_i an;rw[an];exact this);rfl];rfl
 have gt:∀w:bW,F (2,(w.t,()),())=some (.ex 0 (2,(w.t,()),())):=by intro w;subst hg;rfl
 have aN:(iW (iW w.e false (nR (w.e false) c)) true (nR (iW w.e false (nR (w.e false) c) true) c))=λi=>nR (w.e i) c:=by funext j;cases j<;>rfl
 refine(c' ((ez MQ).trans ((ez (eG _)).trans (d_ (gt _))))).trans ((?_));dsimp only;rw[aN];refine bg (Qp w.ba hl) ?_;dsimp only;generalize hp:(λ(f:eN)=>decide (¬f.2.1=c))=p;have LB:∀{f:eN},¬f.2.1=c->p f=true:=λh=>by rw[<- hp];exact decide_eq_true h
 have abB:∀{f:eN},f.2.1=c->p f=false:=λh=>by rw[<- hp];exact decide_eq_false (not_not_intro h)
 have aB:(iJ w c).t=([(nR (w.e false) c).t,(nR (w.e true) c).t],w.p,w.ba.filter p,w.old,[w.eE false,w.eE true],()):=by rw[<- hp];rfl
 rw[aB];generalize dA:(λab=>(_:Option (aE (Int×Int×Unit) Unit)))=G;generalize cw:(λab=>(_:Option (aE (Int×Int×List eN×Unit) Unit)))=H;have find:∀(r:List eN) (i:Nat),w.ba.drop i=r->i<=w.ba.length->(w.ba.take i).filter p=w.ba.take i ->
   (w.ba.filter p=w.ba/\∃j,bN G (0,(i:Int),())=some (.ex 0 (0,j,())))\/(∃k:Nat,k<w.ba.length/\(w.ba.take (k+1)).filter p=w.ba.take k/\bN G (0,(i:Int),())=some (.ex 999999999 ((k:Int),(k:Int),()))):=by
  intro r;induction r with
  |nil =>intro i aF hi hf;have cq:=congrArg List.length aF;rw[fb,gw]at cq;refine .inl ⟨by rw[hS J]at hf;exact hf,(i:Int),d_ ?_⟩;subst dA;exact b1 (c3 (by show ¬(i:Int)<(w.ba.length:Int);omega))
  |cons x r ih=>
   intro i aF hi hf;have cq:=congrArg List.length aF;rw[fb,ew]at cq;have bm:i<w.ba.length:=J;have hx:w.ba[i]=x/\w.ba.drop (i+1)=r:=by rw[m2 bm]at aF;exact⟨(oy aF).1,(oy aF).2⟩
   have gG:i64 (av (i:Int) 1)=((i+1:Nat):Int):=fP (by show(i:Int)+1=_;omega) J;have dW:G (0,(i:Int),())=(T (ag x.2.1 c) (some (.ex 999999999 ((i:Int),(i:Int),()))) (some (.nx (0,((i+1:Nat):Int),())))):=by subst dA;refine bq (dj (by show(i:Int)<(w.ba.length:Int);omega)) (bn jO ?_);rw[he,nth_get bm,hx.1,gG]
   have ac:=ZI p bm;rw[hx.1]at ac;by_cases ai:x.2.1=c
   .refine .inr ⟨i,bm,?_,d_ (dW.trans (ce (cJ ai)))⟩
    rw[ac,hf,abB ai,if_neg bh,hF]
   have pH:(w.ba.take (i+1)).filter p=w.ba.take (i+1):=by rw[ac,hf,LB ai,if_pos rfl,nH bm,hx.1]
   have fO:=dW.trans (b1 (cr ai));rcases ih (i+1) hx.2 J pH with⟨O,j,R⟩|⟨k,O,R,af⟩
   .exact .inl ⟨O,j,(ez fO).trans R⟩
   exact .inr ⟨k,O,R,(ez fO).trans af⟩
 have QD:∀(r:List eN) (i j:Nat) (l:List eN),w.ba.drop j=r->j<=w.ba.length->i<j->l.length=w.ba.length->l.take i=(w.ba.take j).filter p->l.drop j=w.ba.drop j ->
   ∃(k:Nat) (g6:List eN) (z:Int),bN H ((i:Int),(j:Int),l,())=some (.ex 0 ((k:Int),z,g6,()))/\k<=w.ba.length/\g6.length=w.ba.length/\g6.take k=w.ba.filter p:=by
  intro r;induction r with
  |nil =>intro i j l aF an i2 vn ht g4;have cq:=congrArg List.length aF;rw[fb,gw]at cq;refine⟨i,l,(j:Int),d_ ?_,J,vn,by rw[ht,hS J]⟩;subst cw;exact b1 (c3 (by show ¬(j:Int)<(l.length:Int);omega))
  |cons x r ih=>
   intro i j l aF an i2 vn ht g4;have cq:=congrArg List.length aF;rw[fb,ew]at cq;have bm:j<w.ba.length:=J;have vo:j<l.length:=J;have hx:w.ba[j]=x/\w.ba.drop (j+1)=r:=by rw[m2 bm]at aF;exact⟨(oy aF).1,(oy aF).2⟩
   have abZ:l[j]=x:=by rw[m2 bm,m2 vo]at g4;rw[(oy g4).1];exact hx.1
   have aa6:=by rw[m2 bm,m2 vo]at g4;exact(oy g4).2
   have l_:i64 (av (j:Int) 1)=((j+1:Nat):Int):=fP (by show(j:Int)+1=_;omega) J;have gG:i64 (av (i:Int) 1)=((i+1:Nat):Int):=fP (by show(i:Int)+1=_;omega) J;have dW:H ((i:Int),(j:Int),l,())=(T (a_ (ag x.2.1 c)) (some (.nx (((i+1:Nat):Int),((j+1:Nat):Int),l.set i x,()))) (some (.nx ((i:Int),((j+1:Nat):Int),l,())))):=by subst cw;refine bq (dj (by show(j:Int)<(l.length:Int);omega)) (bn jO ?_);rw[he,nth_get vo,abZ,gG,l_,he];refine congrArg (λz=>T (a_ (ag x.2.1 c)) z _) ?_;exact dR jO
   have ac:=ZI p bm;rw[hx.1]at ac;by_cases ai:x.2.1=c
   .have fO:=dW.trans (b1 (j6 ai))
    obtain⟨k,g6,z,bF,b3⟩:=ih i (j+1) l hx.2 J J vn (by rw[ac,abB ai,if_neg bh,hF];exact ht) aa6;exact⟨k,g6,z,(ez fO).trans bF,b3⟩
   have fO:=dW.trans (ce (lF ai));have dT:(l.set i x).take (i+1)=l.take i++[x]:=by
    have rc:i<(l.set i x).length:=by rw[ko];omega
    rw[nH rc,List.getElem_set_self,List.take_set_of_le (bU i)]
   obtain⟨k,g6,z,bF,b3⟩:=ih (i+1) (j+1) (l.set i x) hx.2 J J (by rw[ko];exact vn) (by rw[dT,ac,LB ai,if_pos rfl,ht]) (by rw[List.drop_set_of_lt J];exact aa6);exact⟨k,g6,z,(ez fO).trans bF,b3⟩
 rcases find w.ba 0 rfl (fK _) rfl with⟨O,j,R⟩|⟨k,O,R,af⟩
 .refine(c' R).trans ((a1 rfl ((?_))))
  rw[O];rfl
 refine(c' af).trans (lc_ex'.trans (bq rfl (a1 (cr J) ?_)));have qt:i64 (av (k:Int) 1)=((k+1:Nat):Int):=fP (by show(k:Int)+1=_;omega) J;rw[qt];obtain⟨i,l,z,k?,mB,wY,Kx⟩:=QD _ k (k+1) w.ba rfl J J rfl R.symm rfl;refine(c' k?).trans ((bn g62 (bn jO ?_)));have pD:(dU l i (l.length-i) (bO (l.length-i) (fG:eN))).length=l.length:=Qu (by unfold bO;rw[ox];omega);simp only[he,show aa (len l)=l.length from rfl,show ∀a b:Nat,cd a b=a-b from λ_ _=>rfl];refine bn (by rw[g22,pD];simp(disch:=first|assumption|omega|(dsimp only;omega)|decide) only[go_sem,Int.reduceToNat];omega) ?_;have apJ:cut (dU l i (l.length-i) (bO (l.length-i) (fG:eN))) (aa 0) (i-aa 0)=w.ba.filter p:=by unfold cut;rw[show aa 0=0 from rfl,Nat.sub_zero,nD,YP J,Kx]
 rw[apJ];rfl
def ajC(w:bW)(hl:w.ba.length<=1500000000000):Oa ((w.t,()),())=some (((y8 w).t,()),()):=by
 unfold Oa y8;generalize hg:(λx=>(_:Option (aE (Int×(e5×Unit)×Unit) Unit)))=F;have Q?:∀(w:bW) (c:Int),(iJ w c).ba.length<=w.ba.length:=λw c=>rV _ _;have cH:∀(w:bW) (i:Nat),i<4->w.ba.length<=1500000000000->F ((i:Int),(w.t,()),())=some (.nx (((i+1:Nat):Int),((iJ w (i:Int)).t,()),())):=by intro w i hi bb;subst hg;have gG:i64 (av (i:Int) 1)=((i+1:Nat):Int):=fP rfl J;refine bq (dj J) (bg (Xc w _ bb) ?_);rw[gG]
 have f1:=Q? w ((0:Nat):Int);have f2:=Q? (iJ w ((0:Nat):Int)) ((1:Nat):Int);have f3:=Q? (iJ (iJ w ((0:Nat):Int)) ((1:Nat):Int)) ((2:Nat):Int);have f7:∀w:bW,F (4,(w.t,()),())=some (.ex 0 (4,(w.t,()),())):=λw=>by subst hg;exact b1 rfl
 refine(c' ((ez (cH w 0 J hl)).trans ((ez (cH _ 1 J J)).trans ((ez (cH _ 2 J J)).trans ((ez (cH _ 3 J J)).trans (d_ (f7 _))))))).trans ?_;rfl
def WK:=@List.take_append_of_le_length
def TC(i:Bool):0<=eq i/\eq i<2:=by cases i<;>decide
def Mq{n:Int}(h:n=0\/n=1):eq (lx n)=n:=by rcases h with rfl|rfl<;>decide
def G7(i:Bool):aU (eq i) (bf 2)=true:=by cases i<;>rfl
def anS(w:bW)(i:Bool)(x:aG)(aK:x.e.bB.length<=1000000)(Lt:x.e.got.length<=1000000)(hf:w.ba.length<=1000000000000)(hold:w.old.length<=1000000000000)(azm:(w.eE i).length<=1000000000000):
  yx ((w.t,()),eq i,x.t,())=some (((jP w i x).t,()),()):=by
 unfold yx;dsimp only;refine bn (G7 i) (bg (amE x.e) (bn (G7 i) (bn (G7 i) ?_)));have hl:ak w.t.2.2.2.2.1 (aa (eq i)) (aO lz)=w.eE i:=by cases i<;>rfl
 have api:x' (ak w.t.2.2.2.2.1 (aa (eq i)) (aO lz),())=some (w.eE i,()):=by rw[hl];exact Ku _
 refine bg api (bn ?_ (bn (G7 i) ?_))
 .rw[g21];refine cD ?_;show((w.eE i).length+x.e.got.length)*128<=_;omega
 generalize hg:(λ(ab:Int×(e5×Unit)×Unit)=>(_:Option (aE (Int×(e5×Unit)×Unit) Unit)))=F;have e1:i64 (bi 1 (eq i))=1-eq i:=by cases i<;>rfl
 have key:∀(l:List qb) (j:Nat),x.e.bB.drop j=l->j<=x.e.bB.length ->
   bN F ((j:Int),(({ l7 w i x with ba:=w.ba++(x.e.bB.take j).map (i7 i),old:=w.old++(x.e.bB.take j).map (i7 i) }:bW).t,()),())=some (.ex 0 ((x.e.bB.length:Int),((l7 w i x).t,()),())):=by
  intro l;induction l with
  |nil =>intro j aF an;have cq:=congrArg List.length aF;rw[fb,gw]at cq;have:j=x.e.bB.length:=J;subst this;rw[nF];refine d_ ?_;subst hg;exact b1 (c3 (by show ¬(x.e.bB.length:Int)<(x.e.bB.length:Int);omega))
  |cons v l ih=>
   intro j aF an;have cq:=congrArg List.length aF;rw[fb,ew]at cq;have bm:j<x.e.bB.length:=J;have hx:x.e.bB[j]=v/\x.e.bB.drop (j+1)=l:=by rw[m2 bm]at aF;exact⟨(oy aF).1,(oy aF).2⟩
   have l_:i64 (av (j:Int) 1)=((j+1:Nat):Int):=fP (by show(j:Int)+1=_;omega) J;refine uT (ez ?_) (ih (j+1) hx.2 J);have dT:(x.e.bB.take (j+1)).map (i7 i)=(x.e.bB.take j).map (i7 i)++[i7 i v]:=by rw[nH bm,EY,hx.1];rfl
   have eX:((x.e.bB.take j).map (i7 i)).length<=1000000:=by rw[ou,hE];omega
   rw[dT,<- gv,<- gv];subst hg;refine bq (dj (by show(j:Int)<(x.e.bB.length:Int);omega)) (bn jO ?_);dsimp only;refine bg (Kt (w.ba++(x.e.bB.take j).map (i7 i))) ?_;have aj:ak x.e.bB (aa (j:Int)) j0=v:=by rw[he,nth_get bm];exact hx.1
   rw[e1,aj,l_];refine bn ?_ (bg (Kt (w.old++(x.e.bB.take j).map (i7 i))) (bn ?_ ?_))
   .rw[g21];refine cD ?_;show((w.ba++(x.e.bB.take j).map (i7 i)).length+1)*80<=_;rw[cE];omega
   .rw[g21];refine cD ?_;show((w.old++(x.e.bB.take j).map (i7 i)).length+1)*80<=_;rw[cE];omega
   rfl
 have ao:=key x.e.bB 0 rfl (fK _);rw[BQ,List.map_nil,hF,hF]at ao;have eL:(({ l7 w i x with ba:=w.ba,old:=w.old }:bW).t)=(cj w.t.1 (aa (eq i)) ({ x.e with bB:=[],got:=[] }:c_).t,x.p,w.ba,w.old,cj w.t.2.2.2.2.1 (aa (eq i)) (bv (w.eE i) x.e.got),()):=by cases i<;>rfl
 rw[eL]at ao;refine(c' (show bN F (0,((cj w.t.1 (aa (eq i)) ({ x.e with bB:=[],got:=[] }:c_).t,x.p,w.ba,w.old,cj w.t.2.2.2.2.1 (aa (eq i)) (bv (w.eE i) x.e.got),()),()),())=_ from ao)).trans (lc_ex'.trans (bn g62 ?_));dsimp only;have aqC:(ak w.t.1 (aa (eq i)) p8).2.2.1=(w.e i).ph:=by cases i<;>rfl
 rw[aqC];unfold jP;have q?:(l7 w i x).ba.length<=1500000000000:=by show(w.ba++x.e.bB.map (i7 i)).length<=_;rw[cE,ou];omega
 by_cases cx:x.e.ph=8
 .by_cases lJ:(w.e i).ph=8
  .rw[if_neg (λh=>h.2 lJ)]
   exact bg (ce (cJ cx)) (b1 (j6 lJ))
  rw[if_pos ⟨cx,lJ⟩];exact bg (ce (cJ cx)) (bq (lF lJ) ((bJ (ajC _ q?)).trans rfl))
 rw[if_neg (λh=>cx h.1)];exact bg (b1 (cr cx)) (b1 rfl)
structure gV(w:bW):Prop where
 ok:gS w
 z:em w<=990000000000
def gV.s{w:bW}(h:gV w)(i:Bool):bA 990000000000 (w.at i):=by
 obtain⟨n,aj⟩:=h.ok.s i;have bj:=h.z;unfold em at bj;refine⟨{ aj.e with bB := ?_,got := ?_ },?_⟩
 .show(w.e i).bB.length<=_;rw[h.ok.bB i];simp
 .show(w.e i).got.length<=_;rw[h.ok.got i];simp
 show w.p.2.1.length<=_;omega
def gV.ba{w:bW}(h:gV w):w.ba.length<=990000000000:=by have bj:=h.z;unfold em at bj;omega
def gV.old{w:bW}(h:gV w):w.old.length<=990000000000:=by have bj:=h.z;unfold em at bj;omega
def gV.eE{w:bW}(h:gV w)(i:Bool):(w.eE i).length<=990000000000:=by have bj:=h.z;unfold em at bj;cases i<;>omega
def gV.jP{w:bW}(h:gV w)(i:Bool)(x:aG)(aK:x.e.bB.length<=1000000)(Lt:x.e.got.length<=1000000):yx ((w.t,()),eq i,x.t,())=some (((Yp.jP w i x).t,()),()):=
 anS w i x aK Lt (by have:=h.ba;omega) (by have:=h.old;omega) (by have:=h.eE i;omega)
def gV.bB{w:bW}(h:gV w)(i:Bool):(w.at i).e.bB=[]:=h.ok.bB i
def gV.got{w:bW}(h:gV w)(i:Bool):(w.at i).e.got=[]:=h.ok.got i
def ajF{s:aG}(ac:bA n s):fo s.e.hub<=4100:=by have ao:=qh (ac.e.fd 0);have O:=qh (ac.e.fd 1);have R:=qh (ac.e.fd 2);have af:=qh (ac.e.fd 3);unfold fo;omega
def gV.Rs{w:bW}(h:gV w){x:aG}{t:Nat}(hg:b5 m t g (w.at i) x)(ht:t<=1000)(azl:g<=1000):x.e.bB.length<=1000000/\x.e.got.length<=1000000:=by obtain⟨cG,cQ,a3,a4,a5⟩:=hg;have a2:=(h.s i).e.queue;rw[h.bB i]at cQ;rw[h.got i]at a4;rw[gw]at cQ a4;exact⟨J,J⟩
def Pg{w:bW}(h:gV w)(i:Bool)(c:Int)(Y:b.length<=1000000):Ew ((w.t,()),eq i,c,b,())=some (((k7 w i c b).t,()),()):=by refine(bJ (DE w i)).trans (((bJ (amD (h.s i) J c Y)).trans (?_)));have Z9:=Z_ (h.s i).e.feed c b;have a2:=(h.s i).e.queue;have aze:=ajF (h.s i);have g1:=Z9.Dt;have bw:=Z9.got;rw[h.bB i]at g1;rw[h.got i]at bw;rw[gw]at g1 bw;exact(bJ (h.jP i _ J J))
def YX{l:List eN}{N:Nat}(h:N<l.length):
  cut (dU (dU l (bQ (aa 0) (cd (aa (N:Int)) (aa 0))) (aT (l.drop (N+1))) (l.drop (N+1))) (bQ (aa 0) (aa (bf (bQ (cd (aa (N:Int)) (aa 0)) (aT (l.drop (N+1)))))))
   (cd (aa (len l)) (aa (bf (bQ (cd (aa (N:Int)) (aa 0)) (aT (l.drop (N+1))))))) (bO (cd (aa (len l)) (aa (bf (bQ (cd (aa (N:Int)) (aa 0)) (aT (l.drop (N+1))))))) (fG:eN)))
   (aa 0) (bQ (cd (aa (N:Int)) (aa 0)) (aT (l.drop (N+1))))=l.eraseIdx N:=by
 have e:bQ (cd (aa (N:Int)) (aa 0)) (aT (l.drop (N+1)))=N+(l.drop (N+1)).length:=rfl;have aN:bQ (aa 0) (cd (aa (N:Int)) (aa 0))=N:=jv _;have aF:(l.drop (N+1)).length=l.length-(N+1):=fb;rw[e,aN,show bQ (aa 0) (aa (bf (N+(l.drop (N+1)).length)))=N+(l.drop (N+1)).length from jv _];unfold cut;rw[show aa 0=0 from rfl,nD,YP]
 .unfold dU
  rw[show aT (l.drop (N+1))=(l.drop (N+1)).length from rfl,nF,<- gv,WK (by grind),hS (by grind),List.eraseIdx_eq_take_drop_succ]
 rw[Qu J];omega
def ada{b:Nat}(h:a<b):i6 a b=true:=by unfold i6;rw[EH];exact h
def YW{l:List eN}{N:Nat}(h:N<l.length)(aid K:Option α):
  (am (cY (ca (N:Int) ((N+1:Nat):Int) (len l)) (bE (len l) (len l))) (T (ag (N:Int) ((N+1:Nat):Int)) aid (am (ca 0 (N:Int) (len l)) (am (ca ((N+1:Nat):Int) (len l) (len l))
   (am (i6 (bQ (aa 0) (bQ (cd (aa (N:Int)) (aa 0)) (aT (l.drop (N+1))))) (bQ (aT l) 1)) (am (cY (i6 (aa 0) (bQ (aT (dU l (bQ (aa 0) (cd (aa (N:Int)) (aa 0))) (aT (l.drop (N+1))) (l.drop (N+1)))) 1))
    (ca (bf (bQ (cd (aa (N:Int)) (aa 0)) (aT (l.drop (N+1))))) (len l) (bi (len (dU l (bQ (aa 0) (cd (aa (N:Int)) (aa 0))) (aT (l.drop (N+1))) (l.drop (N+1)))) (bf (aa 0))))) K))))))=K:=by
 have e:bQ (cd (aa (N:Int)) (aa 0)) (aT (l.drop (N+1)))=N+(l.drop (N+1)).length:=rfl;have aN:bQ (aa 0) (cd (aa (N:Int)) (aa 0))=N:=jv _;have aF:(l.drop (N+1)).length=l.length-(N+1):=fb;have ai:(dU l N (aT (l.drop (N+1))) (l.drop (N+1))).length=l.length:=Qu (by rw[show aT (l.drop (N+1))=(l.drop (N+1)).length from rfl];omega);rw[e,aN];refine bn jO (a1 (cr J) (bn jO (bn jO (bn ?_ (dR ?_)))))
 .refine ada ?_
  show 0+(N+(l.drop (N+1)).length)<l.length+1;omega
 rw[ada (show aa 0<bQ (aT (dU l N (aT (l.drop (N+1))) (l.drop (N+1)))) 1 from Nat.succ_pos _),g36,g19];refine cD ?_;rw[g22,g22,ai];show(0:Int)<=((N+(l.drop (N+1)).length:Nat):Int)/\((N+(l.drop (N+1)).length:Nat):Int)<=(l.length:Int)/\(l.length:Int)<=(l.length:Int)-((0:Nat):Int);omega
def YS{l:List eN}(N:Nat):cut l (aa ((N+1:Nat):Int)) (cd (aa (len l)) (aa ((N+1:Nat):Int)))=l.drop (N+1):=by unfold cut;rw[show aa ((N+1:Nat):Int)=N+1 from rfl,show aa (len l)=l.length from rfl,show cd l.length (N+1)=l.length-(N+1) from rfl,hS bh]
def Zu{w:bW}(h:gV w){l:List eN}(hl:∀f∈l,Ar f)(aj:l.length<=w.ba.length):gV { w with ba:=l }:=by refine⟨HP h.ok hl,?_⟩;have bj:=h.z;unfold em at bj ⊢;show w.p.2.1.length+w.old.length+l.length+(w.eE false).length+(w.eE true).length+3*fl w<=_;omega
def aag{w:bW}(h:gV w)(a:dy):Jf ((w.t,()),a,())=some (((lI w a.2.2.1 a.2.2.2.1).1.t,()),(lI w a.2.2.1 a.2.2.2.1).2,()):=by
 unfold Jf lI;have q?:=h.ba;refine(bJ (wi a.2.2.1 (len w.ba))).trans (?_);by_cases ao:0<=a.2.2.1/\a.2.2.1<(w.ba.length:Int)
 .rw[cD (show 0<=a.2.2.1/\a.2.2.1<len w.ba from ao),if_neg (not_not_intro ao)]
  obtain⟨N,fO⟩:∃N:Nat,a.2.2.1=(N:Int):=⟨a.2.2.1.toNat,J⟩;rw[fO,iZ];have bm:N<w.ba.length:=J;have fU:=h.ok.ba _ (HI bm);refine(bn (by show aU (N:Int) (len w.ba)=true;simp only[go_sem];omega) (bg (Qp w.ba J) ?_));rw[show ak w.t.2.2.1 (aa (N:Int)) fG=ak w.ba N ns from rfl,show ak w.ba (aa (N:Int)) fG=ak w.ba N ns from rfl];generalize ak w.ba N ns=f at fU;generalize hm:a.2.2.2.1=m;by_cases O:0<m/\m<(f.2.2.1.length:Int)
  .rw[if_pos O]
   refine(bJ (bq (dj O.1) (show _=some (true,()) by rw[dj (show m<len f.2.2.1 from O.2)]))).trans ((?_));refine bn cM (bn cM (bn cM ?_));rw[show sub f.2.2.1 m (len f.2.2.1)=f.2.2.1.drop m.toNat from IL _ J];have GA:gV { w with ba:=w.ba.set N (f.1,f.2.1,f.2.2.1.drop m.toNat,()) }:=by
    refine Zu h (λg hg => ?_) (by rw[ko];exact bU _);rcases WI hg with hg|rfl
    .exact h.ok.ba g hg
    exact⟨fU.1,fU.2.1,by rw[fb];have:=fU.2.2;omega⟩
   have:=Pg GA (lx f.1) f.2.1 (b:=f.2.2.1.take m.toNat) (by rw[hE];have:=fU.2.2;omega);rw[Mq fU.1]at this;exact(bJ this)
  rw[if_neg O];have aqS:(T (aJ 0 m) (some (aJ m (len f.2.2.1),())) (some (false,())):Option (Bool×Unit))=some (false,()):=by
   by_cases R:0<m
   .exact bq (dj R) (by rw[c3 (show ¬m<len f.2.2.1 from λaf=>O ⟨R,af⟩)])
   exact b1 (c3 R)
  refine(bJ aqS).trans ((?_));have Gh:i64 (av (N:Int) 1)=((N+1:Nat):Int):=fP (by show(N:Int)+1=_;omega) J;rw[Gh];simp only[YS];rw[YX bm];refine(YW bm _ _).trans ?_;have GA:gV { w with ba:=w.ba.eraseIdx N }:=Zu h (λg hg=>h.ok.ba g (O6 hg)) (OX _ _);have:=Pg GA (lx f.1) f.2.1 (b:=f.2.2.1) (by have:=fU.2.2;omega);rw[Mq fU.1]at this;exact(bJ this)
 rw[cC (show ¬(0<=a.2.2.1/\a.2.2.1<len w.ba) from ao),if_pos ao];rfl
def amm{w:bW}(h:gV w)(a:dy):Od ((w.t,()),a,())=some (((FL w a.2.2.1).1.t,()),(FL w a.2.2.1).2,()):=by
 unfold Od FL;have q?:=h.ba;refine(bJ (wi a.2.2.1 (len w.ba))).trans (?_);by_cases ao:0<=a.2.2.1/\a.2.2.1<(w.ba.length:Int)
 .rw[cD (show 0<=a.2.2.1/\a.2.2.1<len w.ba from ao),if_neg (not_not_intro ao)]
  obtain⟨N,fO⟩:∃N:Nat,a.2.2.1=(N:Int):=⟨a.2.2.1.toNat,J⟩;rw[fO];have bm:N<w.ba.length:=J;refine(bg (Qp w.ba J) ?_);have Gh:i64 (av (N:Int) 1)=((N+1:Nat):Int):=fP rfl J;rw[Gh];simp only[YS];rw[YX bm];exact(YW bm _ _)
 rw[cC (show ¬(0<=a.2.2.1/\a.2.2.1<len w.ba) from ao),if_pos ao];rfl
def aiy{w:bW}(h:gV w)(a:dy):N? ((w.t,()),a,())=some (((Fa w a.2.2.1).1.t,()),(Fa w a.2.2.1).2,()):=by
 unfold N? Fa;have q?:=h.ba;refine(bJ (wi a.2.2.1 (len w.old))).trans (?_);by_cases ao:0<=a.2.2.1/\a.2.2.1<(w.old.length:Int)
 .rw[cD (show 0<=a.2.2.1/\a.2.2.1<len w.old from ao),if_neg (not_not_intro ao)]
  refine((bJ (Kt w.ba)).trans ((bn (by simp only[go_sem];exact ao) ((dR ?_)))));rw[g21];refine cD ?_;show(w.ba.length+1)*80<=_;omega
 rw[cC (show ¬(0<=a.2.2.1/\a.2.2.1<len w.old) from ao),if_pos ao];rfl
def axn{w:bW}(h:gV w)(a:dy):Og ((w.t,()),a,())=some (((IH w a.2.2.1 a.2.2.2.1 a.2.2.2.2.1).1.t,()),(IH w a.2.2.1 a.2.2.2.1 a.2.2.2.2.1).2,()):=by
 unfold Og IH;have q?:=h.ba;refine(bJ (wi a.2.2.1 (len w.old))).trans (?_);by_cases ao:0<=a.2.2.1/\a.2.2.1<(w.old.length:Int)
 .rw[cD (show 0<=a.2.2.1/\a.2.2.1<len w.old from ao)]
  have fC:aU a.2.2.1 (len w.old)=true:=by simp only[go_sem];exact ao
  have l?:=h.ok.old _ (HI (show a.2.2.1.toNat<w.old.length by omega));rw[show ak w.t.2.2.2.1 (aa a.2.2.1) fG=ak w.old a.2.2.1.toNat ns from rfl];generalize ak w.old a.2.2.1.toNat ns=f at l?;have aq0:(T (a_ true) (some (true,())) (am (aU a.2.2.1 (len w.t.2.2.2.1)) (ob (qU (a.2.2.2.1,len f.2.2.1,())) λa6=>T (a_ a6.1) (some (true,())) (some (ag (len a.2.2.2.2.1) 0,())))):Option (Bool×Unit)) =
    some (D (¬(0<=a.2.2.2.1/\a.2.2.2.1<(f.2.2.1.length:Int))\/a.2.2.2.2.1=[]),()):=by
   refine(bn fC ((bJ (wi _ _)).trans (?_)));by_cases O:0<=a.2.2.2.1/\a.2.2.2.1<(f.2.2.1.length:Int)
   .rw[cD (show 0<=a.2.2.2.1/\a.2.2.2.1<len f.2.2.1 from O)]
    rw[g10];refine pY ?_;constructor
    .intro hx;exact .inr (k3.1 (by have:(a.2.2.2.2.1.length:Int)=0:=hx;omega))
    rintro(hx|hx)
    .omega
    rw[hx];rfl
   rw[cC (show ¬(0<=a.2.2.2.1/\a.2.2.2.1<len f.2.2.1) from O),cD (.inl O)];rfl
  refine(bJ aq0).trans (?_);by_cases R:¬(0<=a.2.2.2.1/\a.2.2.2.1<(f.2.2.1.length:Int))\/a.2.2.2.2.1=[]
  .rw[cD R,if_pos (R.elim (λh=>.inr (.inl h)) (λh=>.inr (.inr h)))];rfl
  have af:=ww.1 λh=>R (.inl h);have aq:=λh=>R (.inr h);have a8:=List.length_pos_iff.2 aq;rw[cC R,if_neg (by grind)];refine(bn fC ((bJ (FA f.2.2.1 (by have:=l?.2.2;omega))).trans (?_)));refine bn (by simp only[go_sem];exact af) (bn cM (bn (by simp only[go_sem];exact af) ((bJ (Kt w.ba)).trans ((bn ?_ ?_)))))
  .rw[g21];refine cD ?_;show(w.ba.length+1)*80<=_;omega
  rw[ahC];rfl
 rw[cC (show ¬(0<=a.2.2.1/\a.2.2.1<len w.old) from ao),if_pos (.inl ao)];rfl
def arO{w:bW}(h:gV w)(a:dy)(Y:a.2.2.2.2.1.length<=1000000):Oe ((w.t,()),a,())=some (((G9 w a.2.1 a.2.2.1 a.2.2.2.2.1).1.t,()),(G9 w a.2.1 a.2.2.1 a.2.2.2.2.1).2,()):=by
 unfold Oe G9;refine(bJ (wi a.2.1 2)).trans (?_);by_cases ao:0<=a.2.1/\a.2.1<2
 .rw[cD ao,if_neg (not_not_intro ao)]
  have:=Pg h (lx a.2.1) a.2.2.1 Y;rw[Mq J]at this;exact((bJ this))
 rw[cC ao,if_pos ao];rfl
def al6{w:bW}(h:gV w)(a:dy):Oc ((w.t,()),a,())=some (((FE w a.2.2.1).1.t,()),(FE w a.2.2.1).2,()):=by
 unfold Oc FE;refine(bJ (wi a.2.2.1 4)).trans (?_);by_cases ao:l3 a.2.2.1
 .rw[cD (show 0<=a.2.2.1/\a.2.2.1<4 from ao),if_neg (not_not_intro ao)]
  exact((bJ (Xc w _ (by have:=h.ba;omega))))
 rw[cC (show ¬(0<=a.2.2.1/\a.2.2.1<4) from ao),if_pos ao];rfl
def amk{w:bW}(h:gV w)(a:dy)(Y:a.2.2.2.2.1.length<=1000000):p3 ((w.t,()),a,())=some (((uV w a).1.t,()),(uV w a).2,()):=by
 unfold p3 uV;refine(bJ (wi a.2.1 2)).trans (?_);by_cases ao:0<=a.2.1/\a.2.1<2
 .rw[cD ao,if_neg (not_not_intro ao)]
  have e:=Mq (n:=a.2.1) J;generalize lx a.2.1=i at e;rw[<- e];have hg:=h.Rs (aao (h.s i) a) J J;refine((bJ (DE w i)).trans (((bJ (amF (h.s i) J a Y)).trans (?_))));exact(bJ (h.jP i _ hg.1 hg.2))
 rw[cC ao,if_pos ao];rfl
def avk{w:bW}(h:gV w)(a:dy):Of ((w.t,()),a,())=some (((AJ w a.2.2.1).1.t,()),(AJ w a.2.2.1).2,()):=by
 unfold Of AJ;have hp:(T (ag (w.e false).ph 8) (some (true,())) (am (aU 1 (bf 2)) (some (ag (w.e true).ph 8,()))):Option (Bool×Unit))=some (D ((w.e false).ph=8\/(w.e true).ph=8),()):=by simp(disch:=omega) only[go_sem]
 refine(bJ (hp)).trans (?_);by_cases cx:(w.e false).ph=8\/(w.e true).ph=8
 .rw[cD cx,if_pos cx];rfl
 rw[cC cx,if_neg cx];refine((bJ (wi a.2.2.1 4)).trans (?_));by_cases ao:l3 a.2.2.1
 .rw[cD (show 0<=a.2.2.1/\a.2.2.1<4 from ao),if_neg (not_not_intro ao)]
  have aq:aU a.2.2.1 (bf 4)=true:=by simp only[go_sem];exact ao
  refine((bn aq ?_));have aL:(T (ak (w.e false).hub.1 (aa a.2.2.1) false) (some (true,())) (am (aU 1 (bf 2)) (am (aU a.2.2.1 (bf 4)) (some (ak (w.e true).hub.1 (aa a.2.2.1) false,())))):Option (Bool×Unit))=some (D (mW (w.e false).hub a.2.2.1\/mW (w.e true).hub a.2.2.1),()):=by
   unfold mW;rw[aq,show aa a.2.2.1=a.2.2.1.toNat from rfl];cases ak (w.e false).hub.1 a.2.2.1.toNat false
   .cases ak (w.e true).hub.1 a.2.2.1.toNat false
    .rw[cC bh];rfl
    rw[cD (.inr rfl)];rfl
   rw[cD (.inl rfl)];rfl
  refine(bJ (aL)).trans (?_);by_cases O:mW (w.e false).hub a.2.2.1\/mW (w.e true).hub a.2.2.1
  .rw[cD O,if_pos O];rfl
  rw[cC O,if_neg O];generalize hg:(λab=>(_:Option (aE (Int×(e5×Unit)×Unit) Unit)))=F;have cH:∀(w:bW) (i:Bool),gV w->F (eq i,(w.t,()),())=some (.nx (eq i+1,((rC w i a.2.2.1).t,()),())):=by intro w i bb;have ah:=bb.Rs (aat (w.at i) (bb.s i).e.feed a.2.2.1) J J;subst hg;refine bq (dj (TC i).2) ((bJ (DE w i)).trans (((bJ (amI (bb.s i) J a.2.2.1)).trans (((bJ (bb.jP i _ ah.1 ah.2)).trans (?_))))));cases i<;>rfl
  have f7:∀w:bW,F (2,(w.t,()),())=some (.ex 1 (2,(w.t,()),())):=λw=>by subst hg;exact b1 rfl
  obtain⟨bF,b3,dp⟩:=Ud h.ok false a.2.2.1;refine(c' ((ez (cH w false h)).trans ((ez (cH _ true ⟨bF,e0 dp h.z⟩)).trans (d_ (f7 _))))).trans ?_;rfl
 rw[cC (show ¬(0<=a.2.2.1/\a.2.2.1<4) from ao),if_pos ao];rfl
structure yF(w:bW):Prop where
 ok:gS w
 z:20*em w+4*h' w+240<=19800000000000
def yF.nW{w:bW}(h:yF w):gV w:=⟨h.ok,by have:=h.z;omega⟩
def anZ{w:bW}(h:gS w){f:eN}{r:List eN}(hf:w.ba=f::r)(ap:k<=r.length):
  gS (lI w 0 0).1/\(k<=(lI w 0 0).1.ba.length\/(lI w 0 0).1.ba=[])/\20*em (lI w 0 0).1+4*(fH (lI w 0 0).1+ey ((lI w 0 0).1.ba.take k))<=20*em w+4*(fH w+ey (w.ba.take (k+1))):=by
 have e:(lI w 0 0).1=k7 { w with ba:=r } (lx f.1) f.2.1 f.2.2.1:=by unfold lI;rw[hf];rw[if_neg bh];rfl
 have O:gS { w with ba:=r }:=⟨h.s,h.bB,h.got,λg hg=>h.ba g (by grind),h.old⟩;obtain⟨eT,ei,jx,nM⟩:=Pf O (lx f.1) f.2.1 f.2.2.1;rw[e];have bG:fl ({ w with ba:=r }:bW)=fl w:=rfl;have b_:fH ({ w with ba:=r }:bW)=fH w:=rfl;have co:em ({ w with ba:=r }:bW)+1=em w:=by unfold em;rw[bG,hf];simp;omega
 have dT:ey ((f::r).take (k+1))=f.2.2.1.length+ey (r.take k):=rfl;rcases ei with aC|⟨o,aC,ei⟩
 .rw[aC]
  have ahJ:ey (([]:List eN).take k)=0:=by cases k<;>rfl
  grind
 grind
def ahR{w:bW}(k:Int)(h:∀j:Nat,(j:Int)<k->yF (oF j w))(ap:k<=1000000):N' (w.t,k,())=some ((oF k.toNat w).t,()):=by
 unfold N';generalize hg:(λab=>(_:Option (aE (Int×(e5×Unit)×Unit) (e5×Unit))))=F;have round:∀(i:Nat) (v:bW),(i:Int)<k->yF v->F ((i:Int),(v.t,()),())=some (.nx (((i+1:Nat):Int),((jJ v).t,()),())):=by
  intro i v hi aC;have gG:i64 (av (i:Int) 1)=((i+1:Nat):Int):=fP (by show(i:Int)+1=_;omega) J;subst hg;refine bq (dj (by show(i:Int)<cT 0 k;rw[g58];omega)) ?_;generalize dA:(λ(x:Int×(e5×Unit)×Unit)=>ob (T (aJ 0 x.1) _ _) _)=G;generalize cw:(λ(x:Int×(e5×Unit)×Unit)=>T (aJ x.1 2) _ _)=H;have QD:∀(n:Nat) (u:bW),gS u->(n<=u.ba.length\/u.ba=[])->20*em u+4*(fH u+ey (u.ba.take n))<=19800000000000->n<=1000000000000 ->
    ∃j:Int,bN G ((n:Int),(u.t,()),())=some (.ex 2 (j,((m? n u).t,()),())):=by
   intro n;induction n with
   |zero =>intro u aL aj bj Y;refine⟨0,d_ ?_⟩;subst dA;rfl
   |succ n ih=>
    intro u aL aj bj Y;unfold m?;by_cases ao:u.ba=[]
    .rw[if_pos ao]
     refine⟨((n+1:Nat):Int),d_ ?_⟩;subst dA;refine bg (a:=(false,())) (bq (dj J) ?_) (b1 rfl);show some (aJ 0 (len u.ba),())=_;rw[ao];rfl
    rw[if_neg ao];obtain⟨f,r,hf⟩:=WH ao;have Lv:n<=r.length:=by
     grind
    obtain⟨dF,gr,lk⟩:=anZ aL hf Lv;obtain⟨j,an⟩:=ih (lI u 0 0).1 dF gr J J;refine⟨j,uT (ez ?_) an⟩;have GA:gV u:=⟨aL,J⟩;have kQ:i64 (bi ((n+1:Nat):Int) 1)=((n:Nat):Int):=fP (by show((n+1:Nat):Int)-1=_;omega) J;subst dA;refine bg (a:=(true,())) (bq (dj J) ?_) (?_)
    .show some (aJ 0 (len u.ba),())=_
     rw[hf,dj (by show(0:Int)<(((f::r).length:Nat):Int);rw[ew];omega)]
    dsimp only;refine bg (aag GA ol) ?_;rw[kQ]
  have q?:=aC.nW.ba;have ay9:h' v=ey v.ba+fH v+950*fl v:=rfl;have bj:=aC.z;obtain⟨j,an⟩:=QD v.ba.length v aC.ok (.inl (bU _)) (by rw[nF];omega) J;obtain⟨k?,mB,wY⟩:=Ky v.ba.length aC.ok (.inl (bU _));rw[nF]at wY;have agW:∀(u:bW) (i:Bool),gV u->H (eq i,(u.t,()),())=some (.nx (eq i+1,((nz u i).t,()),())):=by intro u i aL;have ah:=aL.Rs (Rw (aL.s i)) J J;subst cw;refine bq (dj (TC i).2) ((bJ (DE u i)).trans (((bJ (Zi (aL.s i) J)).trans (((bJ (aL.jP i _ ah.1 ah.2)).trans (?_))))));cases i<;>rfl
  have f7:∀u:bW,H (2,(u.t,()),())=some (.ex 4 (2,(u.t,()),())):=λu=>by subst cw;exact b1 rfl
  refine(c' (an)).trans ((?_));have f1:gV (m? v.ba.length v):=⟨k?,J⟩;obtain⟨dT,ev,t3⟩:=VB k? false;have f2:gV (nz (m? v.ba.length v) false):=⟨dT,J⟩;refine(c' ((ez (agW _ false f1)).trans ((ez (agW _ true f2)).trans (d_ (f7 _))))).trans ((?_));rw[gG];rfl
 have alJ:∀(j:Nat) (v:bW),jJ (oF j v)=oF (j+1) v:=by
  intro j;induction j with
  |zero=>intro v;rfl
  |succ j ih=>intro v;exact ih (jJ v)
 have run:∀(m j:Nat),j+m=k.toNat->bN F ((j:Int),((oF j w).t,()),())=some (.ex 0 ((k.toNat:Int),((oF k.toNat w).t,()),())):=by
  intro m;induction m with
  |zero =>intro j an;have:=J;subst this;refine d_ ?_;subst hg;exact b1 (c3 (by show ¬(k.toNat:Int)<cT 0 k;rw[g58];omega))
  |succ m ih =>intro j an;refine uT (ez ?_) (ih (j+1) J);rw[round j _ J (h j J),alJ]
 exact(c' (run k.toNat 0 (jv _))).trans ((dR g62))
def alK{w:bW}(a:dy)(h:∀j:Nat,j<(min a.2.2.1 100).toNat->yF (oF j w)):Ob ((w.t,()),a,()) =
  some (((if a.2.2.1<0 then(w,(1:Int)) else(oF (min a.2.2.1 100).toNat w,0)).1.t,()),(if a.2.2.1<0 then(w,(1:Int)) else(oF (min a.2.2.1 100).toNat w,0)).2,()):=by
 unfold Ob;dsimp only;by_cases ao:a.2.2.1<0
 .rw[if_pos ao];exact ce (dj ao)
 rw[if_neg ao];refine a1 (c3 ao) ?_;rw[g57];exact(bJ (ahR (min a.2.2.1 100) (λj an=>h j J) J)).trans rfl
structure yG(w:bW)(a:dy):Prop where
 nW:gV w
 b:a.2.2.2.2.1.length<=1000000
 Fx:a.1=17->∀j:Nat,j<(min a.2.2.1 100).toNat->yF (oF j w)
def aik{w:bW}{a:dy}(h:yG w a):Jd (w.t,a,())=some ((gT w a).1.t,(gT w a).2,()):=by
 unfold Jd gT;dsimp only;have aF:=amk h.nW a h.b;have tF:(ob (p3 ((w.t,()),a,())) λx=>(some (x.1.1,x.2.1,()):Option (e5×Int×Unit)))=some ((uV w a).1.t,(uV w a).2,()):=(bJ aF).trans rfl;by_cases dN:a.1=7
 .rw[if_pos dN];exact bq (cJ dN) ((bJ (aag h.nW a)).trans rfl)
 rw[if_neg dN];refine a1 (cr dN) ?_;by_cases cx:a.1=8
 .rw[if_pos cx];exact bq (cJ cx) ((bJ (amm h.nW a)).trans rfl)
 rw[if_neg cx];refine a1 (cr cx) ?_;by_cases lJ:a.1=9
 .rw[if_pos lJ];exact bq (cJ lJ) ((bJ (aiy h.nW a)).trans rfl)
 rw[if_neg lJ];refine a1 (cr lJ) ?_;by_cases kO:a.1=10
 .rw[if_pos kO];exact bq (cJ kO) ((bJ (axn h.nW a)).trans rfl)
 rw[if_neg kO];refine a1 (cr kO) ?_;by_cases pB:a.1=11
 .rw[if_pos pB];exact bq (cJ pB) ((bJ (arO h.nW a h.b)).trans rfl)
 rw[if_neg pB];refine a1 (cr pB) ?_;by_cases Lj:a.1=12
 .rw[if_pos Lj];exact bq (cJ Lj) ((bJ (avk h.nW a)).trans rfl)
 rw[if_neg Lj];refine a1 (cr Lj) ?_;by_cases Lk:a.1=13
 .rw[if_pos Lk];exact bq (cJ Lk) ((bJ (al6 h.nW a)).trans rfl)
 rw[if_neg Lk];refine a1 (cr Lk) ?_;by_cases sm:a.1=17
 .rw[if_pos sm]
  exact bq (cJ sm) ((bJ (alK a (h.Fx sm))).trans rfl)
 rw[if_neg sm];refine a1 (cr sm) ?_;by_cases ao:a.1=0
 .rw[if_pos J];exact bq (cJ ao) tF
 refine a1 (cr ao) ?_;by_cases O:a.1=1
 .rw[if_pos J];exact bq (cJ O) tF
 refine a1 (cr O) ?_;by_cases R:a.1=2
 .rw[if_pos J];exact bq (cJ R) tF
 refine a1 (cr R) ?_;by_cases af:a.1=3
 .rw[if_pos J];exact bq (cJ af) tF
 refine a1 (cr af) ?_;by_cases aq:a.1=4
 .rw[if_pos J];exact bq (cJ aq) tF
 refine a1 (cr aq) ?_;by_cases a8:a.1=5
 .rw[if_pos J];exact bq (cJ a8) tF
 refine a1 (cr a8) ?_;by_cases cS:a.1=6
 .rw[if_pos J];exact bq (cJ cS) tF
 refine a1 (cr cS) ?_;by_cases zq:a.1=14
 .rw[if_pos J];exact bq (cJ zq) tF
 refine a1 (cr zq) ?_;by_cases zr:a.1=15
 .rw[if_pos J];exact bq (cJ zr) tF
 refine a1 (cr zr) ?_;by_cases nY:a.1=16
 .rw[if_pos J];exact bq (cJ nY) tF
 refine a1 (cr nY) ?_;rw[if_neg J]
def Ow:bW->List dy->Prop
 |_,[]=>True
 |w,a::l=>yG w a/\Ow (gT w a).1 l
def d7(n:d1):V:=gO (jE n)
def pq{n:d1}(h:i' n):nX (d7 n):=⟨by unfold d7 gO;rw[cE,cE,qf];split<;>omega,ayE h⟩
def oB(n:d1)(res:Int):d1:=(false,n.2.1,n.2.2.1,res,0,[],[],0,())
def O?{n:d1}(h:i' n){res:Int}(ao:0<=res)(lJ:res<=99):i' (oB n res):=by refine⟨h.1,h.2.1,h.2.2.1,ao,lJ,(λh=>by cases h),?_⟩;refine⟨rfl,rfl,rfl,?_⟩;rfl
def aeO{n:d1}(h:i' n)(a2:n.1=true){res:Int}(ao:0<=res)(lJ:res<=99):ki n res=d7 (oB n res):=by unfold ki Fb;rw[if_neg (by rw[a2];intro h;cases h),if_neg J];exact congrArg Prod.fst (V7 (O? h ao lJ))
def h6:d1:=(true,1,1,0,0,[],[],0,())
def m6:d1:=oB h6 0
def ahN:V:=List.replicate 16 (u8 0)
theorem ay5:l8 ahN=(0,false,()):=rfl
theorem aje:jy Do=(1,0,true,()):=by rfl
def og:m4:=(oZ 1,xy 1 (-1) ahN,())
def axH:mm Do (-1)=(og,1,0,()):=by unfold mm;rw[aje];rw[ if_pos rfl];rfl
structure o8(c:Nat)(h:eO):Prop where
 c4:c<4
 up:h.1=[decide (c=0),decide (c=1),decide (c=2),decide (c=3)]
 feed:h.2.1=[ep,ep,ep,ep]
 next:0<=h.2.2.2.1/\h.2.2.2.1<4
def T6{h:eO}(aL:o8 c h):(eF h).2.1=(c:Int)/\(eF h).2.2.1=0/\o8 c (eF h).1:=by
 obtain⟨O,R,af,aq⟩:=aL;have key:T3 h.1 h.2.2.2.1.toNat=some c:=by
  have:∀c<4,∀n<4,T3 [decide (c=0),decide (c=1),decide (c=2),decide (c=3)] n=some c:=bP
  grind
 unfold eF;rw[key];exact⟨rfl,rfl,O,R,af,by show(0:Int)<=((c+1)%4:Nat)/\(((c+1)%4:Nat):Int)<4;omega⟩
def ax8{h:eO}(aL:o8 c h):mW h (c:Int):=by unfold mW;rw[aL.up,iZ];have:∀c<4,ak [decide (c=0),decide (c=1),decide (c=2),decide (c=3)] c false=true:=bP;exact this c aL.c4
def au0(O:1<=x.length)(R:x.length<=1024):iV ep (fq x)=(ep,[x]):=by
 have hl:(fq x).length=x.length+2:=MB x;have ht:ee (fq x)=x.length:=by
  unfold ee fq;show 256*(u8 (fr .i64 (len x) (cB (u64 8)))).toNat+(u8 (len x)).toNat=x.length;have e1:(u8 (len x)).toNat=x.length%256:=by show(UInt8.ofInt (x.length:Int)).toNat=_;simp[UInt8.ofInt,Oz];omega
  have aN:fr .i64 (len x) (cB (u64 8))=((x.length/256:Nat):Int):=by show Int.fdiv (x.length:Int) (2^(Nat.min ((cB (u64 8)).toNat) 64))=_;rw[show(cB (u64 8)).toNat=8 from rfl,show Nat.min 8 64=8 from rfl,WF _ bP];omega
  have dJ:(u8 (fr .i64 (len x) (cB (u64 8)))).toNat=x.length/256%256:=by rw[aN];show(UInt8.ofInt ((x.length/256:Nat):Int)).toNat=_;simp[UInt8.ofInt,Oz];omega
  rw[e1,dJ];omega
 unfold iV;rw[if_neg (by show ¬(([]:V)++fq x).length<(0:Int).toNat;simp)];show(((hH (fq x).length 0 ((fq x).drop 0)).1,_),_)=_;rw[nD,hl];have e:hH (x.length+2) 0 (fq x)=([],0,0,[x]):=by
  unfold hH;rw[if_neg J,if_neg J,if_neg J];have aF:(fq x).drop (2+ee (fq x))=[]:=by rw[ht];exact OZ J
  have ap:∀k,hH k 0 ([]:V)=([],0,0,[]):=by intro k;cases k<;>rfl
  rw[aF,ap,ht];have:((fq x).drop 2).take x.length=x:=by show(x).take x.length=x;exact nF
  rw[this]
 rw[show(ep.1++fq x).length=x.length+2 from hl];show(((hH (x.length+2) 0 (fq x)).1,((hH (x.length+2) 0 (fq x)).2.1:Int),(hH (x.length+2) 0 (fq x)).2.2.1,()),(hH (x.length+2) 0 (fq x)).2.2.2)=_;rw[e];rfl
def aiQ{s:aG}(aL:o8 c s.e.hub)(ai:s.e.dt=[0,0,0,0])(cx:¬s.e.ph=8)(O:1<=x.length)(R:x.length<=1024):q5 s (c:Int) (fq x)=l6 s x:=by
 have aj:ak s.e.hub.2.1 c ep=ep:=by
  rw[aL.feed];have:∀c<4,ak [ep,ep,ep,ep] c ep=ep:=by
   intro c ai;match c,ai with
   |0,_=>rfl
   |1,_=>rfl
   |2,_=>rfl
   |3,_=>rfl
  exact this c aL.c4
 have nj:cj s.e.hub.2.1 c ep=s.e.hub.2.1:=by
  rw[aL.feed];have aq:=aL.c4;match c,aq with
  |0,_=>rfl
  |1,_=>rfl
  |2,_=>rfl
  |3,_=>rfl
 have hp:hn s.e.hub (c:Int) (fq x)=(s.e.hub,[x],0):=by unfold hn;rw[if_neg (not_not_intro (show l3 (c:Int) from⟨J,by have:=aL.c4;omega⟩)),if_neg (not_not_intro (ax8 aL)),iZ,aj,au0 O R];dsimp only;rw[nj]
 have hf:sa s (c:Int) (fq x)=s:=by
  unfold sa;rw[hp,iZ,aj];have e1:J7 s.e.dt (i64 (ep.2.2.1-ep.2.2.1))=s.e.dt:=by rw[ai];rfl
  rw[e1]
 unfold q5;rw[hp,if_neg (not_not_intro rfl),hf];show(if s.e.ph=8 then s else u? (l6 s x) [])=_;rw[if_neg cx];rfl
def agS{s:aG}{a:c_}{o:Int}(hid:s.e.id=1-a.id)(pE:s.e.key=a.key)(dN:¬s.e.ph=7/\¬s.e.ph=8)(aC:mi (g8 a o b))(hm:(gY a.key,cZ (g8 a o b),())∈s.p.2.1):
  iY s (cZ (g8 a o b)++jX (gY a.key) (cZ (g8 a o b)))=(s,some (jK (g8 a o b) (jX (gY a.key) (cZ (g8 a o b))))):=by
 have ah:=aeL aC (show(g8 a o b).2.2.1=_ from aeg { a with oth:=o }) (AP (gY a.key) (cZ (g8 a o b)));generalize SD:jX (gY a.key) (cZ (g8 a o b))=t at ah;have ap:C8 s.e (jK (g8 a o b) t)=gY a.key:=by unfold C8;rw[if_neg (by show ¬(1:Int)=2;decide),pE]
 have ai:jg s (jK (g8 a o b) t)=(s.p,true,()):=by unfold jg;rw[ap];unfold AB;exact(if_pos SD).trans (if_pos hm)
 have ac:¬o6 s.e (jK (g8 a o b) t):=by
  rintro(h|h|h|h)
  .exact h (show a.id=1-s.e.id by omega)
  .exact dN.1 h
  .exact dN.2 h
  exact absurd h.1 (by show ¬(1:Int)=2;decide)
 unfold iY;rw[ah];refine(if_neg (not_not_intro rfl)).trans ((if_neg ac).trans ?_);rw[ai];exact(if_neg (λh=>Bool.noConfusion h)).trans ((if_pos rfl).trans rfl)
def agR{s:aG}{a:c_}(hid:s.e.id=1-a.id)(hp:gs a=gs s.e)(hl:jT s.e.ph)(hf:qk s.e.ring a.ring.1.1=(a.ring.1.2.1,true,()))(aC:mi (h9 a b))(hm:(a.ring.1.2.1,cZ (h9 a b),())∈s.p.2.1)(bb:(kT s.e.win a.seq).2=0):
  iY s (cZ (h9 a b)++jX a.ring.1.2.1 (cZ (h9 a b)))=(⟨{ s.e with win:=(kT s.e.win a.seq).1,ring:=qp s.e a.ring.1.1 },s.p⟩,some (jK (h9 a b) (jX a.ring.1.2.1 (cZ (h9 a b))))):=by
 have ah:=aeL aC (aeg a) (AP a.ring.1.2.1 (cZ (h9 a b)));generalize SD:jX a.ring.1.2.1 (cZ (h9 a b))=t at ah;have ap:C8 s.e (jK (h9 a b) t)=a.ring.1.2.1:=by exact congrArg Prod.fst hf
 have ai:jg s (jK (h9 a b) t)=(s.p,true,()):=by unfold jg;rw[ap];exact(if_pos SD).trans (if_pos hm)
 have ac:¬o6 s.e (jK (h9 a b) t):=by
  unfold jT at hl;rintro(h|h|h|h)
  .exact h (show a.id=1-s.e.id by omega)
  .omega
  .omega
  rcases h.2 with h|h|h
  .exact h hl
  .exact h hp
  have:(qk s.e.ring a.ring.1.1).2.1=false:=h
  grind
 unfold iY;rw[ah];refine(if_neg (not_not_intro rfl)).trans ((if_neg ac).trans ?_);rw[ai];exact(if_neg (λh=>Bool.noConfusion h)).trans ((if_neg (show ¬(2:Int)=1 by decide)).trans ((if_neg (not_not_intro bb))))
def FG:List Int:=[0,0,0,0]
def h0:d1:=(true,301,2,0,0,[],[],0,())
def mP(key:V):V:=vD key [1,1] 1 []
def o1(key:V):fc:=((1,mP key,()),jF,jF,0,1,())
def l0:gX:=(kT sJ 0).1
def fX(i:Bool)(key:V)(h:eO):c_:=⟨eq i,key,0,Do, -1,0,0,0,0,sJ,n7,jV,0,0,[],h,[],[],FG⟩
def gZ(i:Bool)(key:V)(ga:Int)(h:eO):c_:=⟨eq i,key,1,og, -1,1,0,0,0,sJ,n7,(1,1,ga,3,d7 h6,()),1,0,[],h,[],[],FG⟩
def gc(i:Bool)(key:V)(h:eO):c_:=⟨eq i,key,2,og, -1,1,1,1,0,sJ,o1 key,jV,0,0,[],h,[],[],FG⟩
def g'(i:Bool)(key:V)(ga:Int)(h:eO):c_:=⟨eq i,key,3,og, -1,1,1,1,1,sJ,o1 key,(301,2,ga,3,d7 h0,()),2,0,[],h,[],[],FG⟩
def nU(i:Bool)(key:V)(stan:Int)(h:eO):c_:=⟨eq i,key,3,og, -1,1,1,1,1,l0,o1 key,jV,stan,0,[],h,[],[],FG⟩
def mG:List lz:=[(4,[1,1],0,[],())]
def rM(i:Bool)(key:V):dr:=g8 (gZ i key 8 eP) 0 (d7 h6)
def uE(i:Bool)(key:V):dr:=g8 (gc i key eP) 1 (d7 m6)
def wg(i:Bool)(key:V):dr:=h9 { g' i key 8 eP with seq:=0 } (d7 h0)
def we(i:Bool)(key:V):dr:=h9 (gc i key eP) (d7 (oB h0 0))
def j7(k:V)(v:dr):V:=cZ v++jX k (cZ v)
def xW:i' h6:=by refine⟨.inl rfl,bP,bP,bP,bP,λ_=>rfl,?_⟩;refine⟨rfl,rfl,rfl,?_⟩;rfl
def w2:i' h0:=by refine⟨.inr (.inr (.inr (.inr rfl))),bP,bP,bP,bP,λ_=>rfl,?_⟩;refine⟨rfl,rfl,rfl,?_⟩;rfl
def JX:i' m6:=O? xW J J
def J6:i' (oB h0 0):=O? w2 J J
def Zf{s:aG}(aL:o8 c s.e.hub)(v:dr)(k:V):mF s v k=(⟨{ s.e with hub:=(eF s.e.hub).1,bB:=s.e.bB++[((c:Int),fq (j7 k v),())] },ln s.p k (cZ v)⟩,0):=by obtain⟨O,R,_⟩:=T6 aL;unfold mF;rw[if_pos R,O];rfl
def af3{s:aG}(aL:o8 c s.e.hub){o:Int}(aK:dC o)(Y:nX b):o5 s o b=(⟨{ s.e with hub:=(eF s.e.hub).1,bB:=s.e.bB++[((c:Int),fq (j7 (gY s.e.key) (g8 s.e o b)),())] },ln s.p (gY s.e.key) (cZ (g8 s.e o b))⟩,0):=by unfold o5;rw[if_pos ⟨aK,Y⟩,Zf aL]
def afY{s:aG}(aL:o8 c s.e.hub)(hl:jT s.e.ph)(a2:¬s.e.seq=4611686018427387904)(Y:nX b):gj s b=(⟨{ s.e with hub:=(eF s.e.hub).1,bB:=s.e.bB++[((c:Int),fq (j7 s.e.ring.1.2.1 (h9 s.e b)),())],seq:=s.e.seq+1 },ln s.p s.e.ring.1.2.1 (cZ (h9 s.e b))⟩,0):=by unfold gj;rw[if_neg (not_not_intro Y),if_neg (not_not_intro hl),if_neg a2,Zf aL];rfl
def xL:dC 0:=⟨bP,bP⟩
def An:dC 1:=⟨bP,bP⟩
def at7(i:Bool)(key:V){h:eO}(aL:o8 c h)(p:fm):ru ⟨fX i key h,p⟩=(⟨{ gZ i key 8 (eF h).1 with bB:=[((c:Int),fq (j7 (gY key) (rM i key)),())] },ln p (gY key) (cZ (rM i key))⟩,0):=by
 have aA:fY ⟨fX i key h,p⟩=(pZ ⟨fX i key h,p⟩ og,1,0):=by unfold fY;rw[show mm (fX i key h).store (fX i key h).power=_ from axH];rfl
 have a2:(mr h6)=(d7 h6,0,()):=V7 xW;have Y:nN 1 1 (d7 h6)=((1,1,8,3,d7 h6,()),0,()):=by unfold nN;rw[if_pos ⟨.inl rfl,bP,bP,pq xW⟩]
 unfold ru;rw[if_neg (by rintro(h|h)<;>exact absurd (show(0:Int)=_ from h) bP),aA,if_neg (not_not_intro rfl)];refine wI ?_ rfl;show kW (uh (kB (pZ ⟨fX i key h,p⟩ og) 1) 1) (hY 1)=_;unfold kW;rw[show((hY 1).1,(hY 1).2.1,lw (uh (kB (pZ ⟨fX i key h,p⟩ og) 1) 1).e.stan,(hY 1).2.2.2)=h6 from rfl,show lw (uh (kB (pZ ⟨fX i key h,p⟩ og) 1) 1).e.stan=1 from rfl,a2];rw[show nN (hY 1).2.1 1 (d7 h6,(0:Int),()).1=_ from Y,if_pos ⟨rfl,rfl⟩,if_pos (show(hY 1).2.1=1 from rfl)];have bu:wN (uh (kB (pZ ⟨fX i key h,p⟩ og) 1) 1) (hY 1)=⟨gZ i key 8 h,p⟩:=by unfold wN;rw[show((hY 1).1,(hY 1).2.1,lw (uh (kB (pZ ⟨fX i key h,p⟩ og) 1) 1).e.stan,(hY 1).2.2.2)=h6 from rfl,show lw (uh (kB (pZ ⟨fX i key h,p⟩ og) 1) 1).e.stan=1 from rfl,a2];rw[show nN (hY 1).2.1 1 (d7 h6,(0:Int),()).1=_ from Y];rfl
 rw[bu,af3 (s:=⟨gZ i key 8 h,p⟩) aL xL (pq xW)];rfl
def K7{s x:aG}{v:dr}(h:iY s b=(x,some v)):l6 s b=oX (oH x v):=by unfold l6;rw[h]
def MK{s:aG}(h:s.e.queue=[]):oX s=s:=by unfold oX;rw[h];rfl
def amO{s:aG}(O:s.e.store=Do)(R:s.e.power = -1):fY s=(pZ s og,1,0):=by unfold fY;rw[O,R];rfl
def NP(p:fm)(k b:V):(k,b,())∈(ln p k b).2.1:=by
 unfold ln;split
 .omega
 simp
theorem ac6(key:V):(Dn (vD key [1,1] 1 [])).1=o1 key:=rfl
def MF{v:dr}{x y g q:Int}(ap:v.1=1\/v.1=2)(b?:v.2.2.1=[x,y])(hx:dC x)(hy:dC y)(a2:v.2.2.2.2.1=q)(sw:dC q)(aF:v.2.1=0\/v.2.1=1)(hg:v.2.2.2.1=g)(R_:0<=g/\g<=2147483647)(Y:nX v.2.2.2.2.2.1):mi v:=by unfold mi d4 e1;rw[b?,a2,hg];exact⟨ap,hx,hy,sw,aF,R_,Y.1,Y.2⟩
def pw(i:Bool):eq i=0\/eq i=1:=by cases i<;>first|exact .inl rfl|exact .inr rfl
def aye(i:Bool)(key:V):(rM i key).2.2.1=[if i then 0 else 1,if i then 1 else 0]:=by cases i<;>rfl
def ui{e:c_}(ao:e.id=0\/e.id=1)(O:e.own=1)(R:e.oth=1):gs e=[1,1]:=by
 unfold gs
 grind
def ayf(i:Bool)(key:V):mi (rM i key):=MF (x:=if i then 0 else 1) (y:=if i then 1 else 0) (q:=0) (g:=0) (.inl rfl) (aye i key) (by cases i<;>decide) (by cases i<;>decide) rfl xL (pw i) rfl bP (pq xW)
def ahn(i:Bool)(key:V):(uE i key).2.2.1=[1,1]:=ui (e:={ gc i key eP with oth:=1 }) (pw i) rfl rfl
def ayb(i:Bool)(key:V):mi (uE i key):=MF (q:=0) (g:=0) (.inl rfl) (ahn i key) An An rfl xL (pw i) rfl bP (pq JX)
def ayd(i:Bool)(key:V):mi (wg i key):=MF (q:=0) (g:=1) (.inr rfl) (ui (e:={ g' i key 8 eP with seq:=0 }) (pw i) rfl rfl) An An rfl xL (pw i) rfl bP (pq w2)
def ayc(i:Bool)(key:V):mi (we i key):=MF (q:=0) (g:=1) (.inr rfl) (ui (e:=gc i key eP) (pw i) rfl rfl) An An rfl xL (pw i) rfl bP (pq J6)
def apA(i:Bool)(key:V){h:eO}(aL:o8 c h){p:fm}(hm:(gY key,cZ (rM i key),())∈p.2.1):
  l6 ⟨fX (!i) key h,p⟩ (j7 (gY key) (rM i key))=⟨{ gc (!i) key (eF h).1 with bB:=[((c:Int),fq (j7 (gY key) (uE (!i) key)),())] },ln p (gY key) (cZ (uE (!i) key))⟩:=by
 have ht:=agS (s:=⟨fX (!i) key h,p⟩) (a:=gZ i key 8 eP) (o:=0) (b:=d7 h6) (by cases i<;>rfl) rfl ⟨by show ¬(0:Int)=7;decide,by show ¬(0:Int)=8;decide⟩ (ayf i key) hm;rw[show j7 (gY key) (rM i key)=cZ (g8 (gZ i key 8 eP) 0 (d7 h6))++jX (gY (gZ i key 8 eP).key) (cZ (g8 (gZ i key 8 eP) 0 (d7 h6))) from rfl,K7 ht];generalize jX (gY (gZ i key 8 eP).key) (cZ (g8 (gZ i key 8 eP) 0 (d7 h6)))=t;have hz:ls (d7 h6)=(h6,0,()):=MS xW;have aF:oH ⟨fX (!i) key h,p⟩ (jK (g8 (gZ i key 8 eP) 0 (d7 h6)) t)=qq ⟨fX (!i) key h,p⟩ (jK (g8 (gZ i key 8 eP) 0 (d7 h6)) t) h6:=by unfold oH;refine(if_neg (show ¬(1:Int)=2 by decide)).trans ?_;rw[show(jK (g8 (gZ i key 8 eP) 0 (d7 h6)) t).2.2.2.2.2.1=d7 h6 from rfl,hz];exact if_pos rfl
 have hh:qq ⟨fX (!i) key h,p⟩ (jK (g8 (gZ i key 8 eP) 0 (d7 h6)) t) h6=tu ⟨fX (!i) key h,p⟩ h6 1:=by
  unfold qq;dsimp only;have e1:ak (jK (g8 (gZ i key 8 eP) 0 (d7 h6)) t).2.2.1 (aa (1-(fX (!i) key h).id)) 0=1:=by cases i<;>rfl
  have aN:ak (jK (g8 (gZ i key 8 eP) 0 (d7 h6)) t).2.2.1 (aa (fX (!i) key h).id) 0=0:=by cases i<;>rfl
  rw[e1,aN];exact(if_neg (by rintro(h|h);exact h rfl;exact absurd h bP)).trans (if_pos ⟨rfl,rfl⟩)
 have bu:tu ⟨fX (!i) key h,p⟩ h6 1=(o5 ⟨gc (!i) key h,p⟩ 1 (ki h6 0)).1:=by
  unfold tu;refine(if_neg (by rintro(h|h|h);exact absurd (show(0:Int)=1 from h.1) bP;exact absurd (show(0:Int)=7 from h) bP;exact absurd (show(0:Int)=8 from h) bP)).trans ?_;refine(if_neg (λh=>absurd h.1.1 (by show ¬(2:Int)<=0;decide))).trans ?_;refine(if_neg (by show ¬(1:Int)<=0;decide)).trans ?_;rw[amO (s:=⟨fX (!i) key h,p⟩) rfl rfl];refine(if_pos rfl).trans ?_;have e:vJ (kB (pZ ⟨fX (!i) key h,p⟩ og) 2) 1 1=⟨gc (!i) key h,p⟩:=by
   unfold vJ Dg;have QX:gs { (kB (pZ ⟨fX (!i) key h,p⟩ og) 2).e with own:=1,oth:=1 }=[1,1]:=by cases i<;>rfl
   rw[QX,show(kB (pZ ⟨fX (!i) key h,p⟩ og) 2).e.key=key from rfl,ac6];rfl
  rw[e]
 rw[aF,hh,bu,aeO xW rfl J J,show oB h6 0=m6 from rfl,af3 (s:=⟨gc (!i) key h,p⟩) aL An (pq JX),MK (by rfl)];rfl
def apx(i:Bool)(key:V)(ga:Int){h:eO}(aL:o8 c h){p:fm}(hm:(gY key,cZ (uE (!i) key),())∈p.2.1):
  l6 ⟨gZ i key ga h,p⟩ (j7 (gY key) (uE (!i) key))=⟨{ g' i key 8 (eF h).1 with bB:=[((c:Int),fq (j7 (mP key) (wg i key)),())],got:=mG },ln p (mP key) (cZ (wg i key))⟩:=by
 have ht:=agS (s:=⟨gZ i key ga h,p⟩) (a:=gc (!i) key eP) (o:=1) (b:=d7 m6) (by cases i<;>rfl) rfl ⟨by show ¬(1:Int)=7;decide,by show ¬(1:Int)=8;decide⟩ (ayb (!i) key) hm;rw[show j7 (gY key) (uE (!i) key)=cZ (g8 (gc (!i) key eP) 1 (d7 m6))++jX (gY (gc (!i) key eP).key) (cZ (g8 (gc (!i) key eP) 1 (d7 m6))) from rfl,K7 ht];generalize jX (gY (gc (!i) key eP).key) (cZ (g8 (gc (!i) key eP) 1 (d7 m6)))=t;have hz:ls (d7 m6)=(m6,0,()):=MS JX;have aF:oH ⟨gZ i key ga h,p⟩ (jK (g8 (gc (!i) key eP) 1 (d7 m6)) t)=qq ⟨gZ i key ga h,p⟩ (jK (g8 (gc (!i) key eP) 1 (d7 m6)) t) m6:=by unfold oH;refine(if_neg (show ¬(1:Int)=2 by decide)).trans ?_;rw[show(jK (g8 (gc (!i) key eP) 1 (d7 m6)) t).2.2.2.2.2.1=d7 m6 from rfl,hz];exact if_pos rfl
 have b?:(jK (g8 (gc (!i) key eP) 1 (d7 m6)) t).2.2.1=[1,1]:=ahn (!i) key;have hh:qq ⟨gZ i key ga h,p⟩ (jK (g8 (gc (!i) key eP) 1 (d7 m6)) t) m6=kW (Av ⟨gZ i key ga h,p⟩ 1) (hY 301):=by
  unfold qq;dsimp only;rw[b?];have e1:ak ([1,1]:List Int) (aa (1-(gZ i key ga h).id)) 0=1:=by cases i<;>rfl
  have aN:ak ([1,1]:List Int) (aa (gZ i key ga h).id) 0=1:=by cases i<;>rfl
  rw[e1,aN];refine(if_neg (by rintro(h|h);exact h rfl;exact absurd h bP)).trans ((if_neg (λh=>Bool.noConfusion h.1)).trans (if_pos ⟨rfl,rfl,rfl,rfl,?_,rfl,rfl⟩));intro h;have:(1:Int)=0:=congrArg Prod.fst h;omega
 have sv:Av ⟨gZ i key ga h,p⟩ 1=⟨{ g' i key 8 h with seq:=0,ask:=jV,stan:=1,got:=mG },p⟩:=by unfold Av zg Dg;have QX:gs { (gZ i key ga h) with own:=1,oth:=1 }=[1,1]:=ui (pw i) rfl rfl;rw[show gs { (⟨gZ i key ga h,p⟩:aG).e with own:=(⟨gZ i key ga h,p⟩:aG).e.own,oth:=1 }=[1,1] from QX,show(⟨gZ i key ga h,p⟩:aG).e.key=key from rfl,ac6];dsimp only;rw[ui (e:=_) (pw i) rfl rfl];rfl
 have a2:mr h0=(d7 h0,0,()):=V7 w2;have Y:nN 301 2 (d7 h0)=((301,2,8,3,d7 h0,()),0,()):=by unfold nN;rw[if_pos ⟨.inr (.inr (.inr (.inr rfl))),bP,bP,pq w2⟩]
 have zL:kW ⟨{ g' i key 8 h with seq:=0,ask:=jV,stan:=1,got:=mG },p⟩ (hY 301)=(gj ⟨{ g' i key 8 h with seq:=0,got:=mG },p⟩ (d7 h0)).1:=by unfold kW wN;rw[show((hY 301).1,(hY 301).2.1,lw (⟨{ g' i key 8 h with seq:=0,ask:=jV,stan:=1,got:=mG },p⟩:aG).e.stan,(hY 301).2.2.2)=h0 from rfl,show lw (⟨{ g' i key 8 h with seq:=0,ask:=jV,stan:=1,got:=mG },p⟩:aG).e.stan=2 from rfl,a2];rw[show nN (hY 301).2.1 2 (d7 h0,(0:Int),()).1=_ from Y,if_pos ⟨rfl,rfl⟩,if_neg (show ¬(hY 301).2.1=1 by decide)];rfl
 rw[aF,hh,sv,zL,afY (s:=⟨{ g' i key 8 h with seq:=0,got:=mG },p⟩) aL ⟨by show(2:Int)<=3;decide,by show(3:Int)<=6;decide⟩ (by show ¬(0:Int)=4611686018427387904;decide) (pq w2),MK (by rfl)];rfl
theorem ZM(key:V):qk (o1 key) 1=(mP key,true,()):=rfl
theorem acR:(kT sJ 0).2=0:=rfl
def aba{e:c_}(h:e.ring=o1 key):qp e 1=o1 key:=by unfold qp;rw[h];exact if_neg (λq=>absurd (show(0:Int)=1 from q.1) bP)
def apz(i:Bool)(key:V){h:eO}(aL:o8 c h){p:fm}(hm:(mP key,cZ (wg i key),())∈p.2.1):
  l6 ⟨gc (!i) key h,p⟩ (j7 (mP key) (wg i key))=⟨{ nU (!i) key 0 (eF h).1 with bB:=[((c:Int),fq (j7 (mP key) (we (!i) key)),())],got:=mG },ln p (mP key) (cZ (we (!i) key))⟩:=by
 have ht:=agR (s:=⟨gc (!i) key h,p⟩) (a:={ g' i key 8 eP with seq:=0 }) (b:=d7 h0) (by cases i<;>rfl) ((ui (pw i) rfl rfl).trans (ui (e:=gc (!i) key h) (pw (!i)) rfl rfl).symm) ⟨by show(2:Int)<=2;decide,by show(2:Int)<=6;decide⟩ (ZM key) (ayd i key) hm acR;rw[show j7 (mP key) (wg i key)=cZ (h9 { g' i key 8 eP with seq:=0 } (d7 h0))++jX ({ g' i key 8 eP with seq:=0 }:c_).ring.1.2.1 (cZ (h9 { g' i key 8 eP with seq:=0 } (d7 h0))) from rfl,K7 ht];generalize jX ({ g' i key 8 eP with seq:=0 }:c_).ring.1.2.1 (cZ (h9 { g' i key 8 eP with seq:=0 } (d7 h0)))=t;rw[show qp (⟨gc (!i) key h,p⟩:aG).e ({ g' i key 8 eP with seq:=0 }:c_).ring.1.1=o1 key from aba rfl];have hz:ls (d7 h0)=(h0,0,()):=MS w2;have hf:q8 ⟨{ gc (!i) key h with win:=l0,ring:=o1 key },p⟩=⟨{ nU (!i) key 0 h with seq:=0,got:=mG },p⟩:=by unfold q8;refine(if_pos rfl).trans ?_;unfold zg;rw[show gs (uj ⟨{ gc (!i) key h with win:=l0,ring:=o1 key },p⟩ 3).e=[1,1] from ui (pw (!i)) rfl rfl];rfl
 have aF:oH ⟨{ gc (!i) key h with win:=l0,ring:=o1 key },p⟩ (jK (h9 { g' i key 8 eP with seq:=0 } (d7 h0)) t)=(gj ⟨{ nU (!i) key 0 h with seq:=0,got:=mG },p⟩ (ki h0 0)).1:=by unfold oH;refine(if_pos rfl).trans ?_;rw[show(jK (h9 { g' i key 8 eP with seq:=0 } (d7 h0)) t).2.2.2.2.2.1=d7 h0 from rfl,hz,hf];refine(if_pos rfl).trans ?_;unfold v7;refine(if_neg (show ¬(301:Int)=101 by decide)).trans ((if_neg (show ¬(301:Int)=201 by decide)).trans ?_);unfold xK;exact(if_pos rfl).trans (if_pos rfl)
 refine(congrArg oX aF).trans ?_;rw[aeO w2 rfl J J,afY (s:=⟨{ nU (!i) key 0 h with seq:=0,got:=mG },p⟩) aL ⟨by show(2:Int)<=3;decide,by show(3:Int)<=6;decide⟩ (by show ¬(0:Int)=4611686018427387904;decide) (pq J6),MK (by rfl)];rfl
def apy(i:Bool)(key:V)(ga:Int){h:eO}{p:fm}(hm:(mP key,cZ (we (!i) key),())∈p.2.1):
  l6 ⟨g' i key ga h,p⟩ (j7 (mP key) (we (!i) key))=⟨nU i key 2 h,p⟩:=by
 have ht:=agR (s:=⟨g' i key ga h,p⟩) (a:=gc (!i) key eP) (b:=d7 (oB h0 0)) (by cases i<;>rfl) ((ui (pw (!i)) rfl rfl).trans (ui (e:=g' i key ga h) (pw i) rfl rfl).symm) ⟨by show(2:Int)<=3;decide,by show(3:Int)<=6;decide⟩ (ZM key) (ayc (!i) key) hm acR;rw[show j7 (mP key) (we (!i) key)=cZ (h9 (gc (!i) key eP) (d7 (oB h0 0)))++jX (gc (!i) key eP).ring.1.2.1 (cZ (h9 (gc (!i) key eP) (d7 (oB h0 0)))) from rfl,K7 ht];generalize jX (gc (!i) key eP).ring.1.2.1 (cZ (h9 (gc (!i) key eP) (d7 (oB h0 0))))=t;rw[show qp (⟨g' i key ga h,p⟩:aG).e (gc (!i) key eP).ring.1.1=o1 key from aba rfl];have hz:ls (d7 (oB h0 0))=(oB h0 0,0,()):=MS J6;have aF:oH ⟨{ g' i key ga h with win:=l0,ring:=o1 key },p⟩ (jK (h9 (gc (!i) key eP) (d7 (oB h0 0))) t)=⟨nU i key 2 h,p⟩:=by unfold oH;refine(if_pos rfl).trans ?_;rw[show(jK (h9 (gc (!i) key eP) (d7 (oB h0 0))) t).2.2.2.2.2.1=d7 (oB h0 0) from rfl,hz];refine(if_pos rfl).trans ?_;rw[show q8 ⟨{ g' i key ga h with win:=l0,ring:=o1 key },p⟩=⟨{ g' i key ga h with win:=l0,ring:=o1 key },p⟩ from if_neg (show ¬(3:Int)=2 by decide)];unfold v7;refine(if_neg (show ¬(301:Int)=101 by decide)).trans ((if_neg (show ¬(301:Int)=201 by decide)).trans ?_);unfold xK;refine(if_neg (λq=>Bool.noConfusion q)).trans ((if_pos ⟨?_,rfl,rfl⟩).trans ((if_pos rfl).trans rfl));intro q;have:(301:Int)=0:=congrArg Prod.fst q;omega
 refine(congrArg oX aF).trans (MK rfl)
def two{α:Type}(i:Bool)(a b:α):Bool->α:=λj=>if j=i then a else b
def f_(i:Bool)(a b:c_)(p:fm)(f o:List eN)(eU lb:List lz):bW:=⟨two i a b,p,f,o,two i eU lb⟩
def ahd(i:Bool)(a b:α):two i a b i=a:=if_pos rfl
def ax0(i:Bool)(a b:α):two i a b (!i)=b:=if_neg (by cases i<;>decide)
def aet(i:Bool)(a b x:α):iW (two i a b) i x=two i x b:=by
 unfold iW two
 grind
def ahe(i:Bool)(a b:α):two (!i) b a=two i a b:=by funext j;cases i<;>cases j<;>rfl
def Br(i:Bool)(a b:c_)(p:fm)(f o:List eN)(eU lb:List lz):f_ (!i) b a p f o lb eU=f_ i a b p f o eU lb:=by unfold f_;rw[ahe,ahe]
def Pi(i:Bool)(a b:c_)(p:fm)(f o:List eN)(eU lb:List lz):(f_ i a b p f o eU lb).at i=⟨a,p⟩:=by show(⟨two i a b i,p⟩:aG)=_;rw[ahd]
def WZ(i:Bool)(a b:c_)(p:fm)(f o:List eN)(eU lb:List lz):(f_ i a b p f o eU lb).at (!i)=⟨b,p⟩:=by show(⟨two i a b (!i),p⟩:aG)=_;rw[ax0]
def Ld(i:Bool)(a b:c_)(p:fm)(f o:List eN)(eU lb:List lz){x:aG}(h:¬x.e.ph=8):
  jP (f_ i a b p f o eU lb) i x=f_ i { x.e with bB:=[],got:=[] } b x.p (f++x.e.bB.map (i7 i)) (o++x.e.bB.map (i7 i)) (eU++x.e.got) lb:=by
 unfold jP;rw[if_neg (λq=>h q.1)];unfold l7 f_;dsimp only;rw[aet,aet,ahd]
def aab(i:Bool)(a b:c_)(p:fm)(f o:List eN)(eU lb:List lz){x:aG}(h:¬x.e.ph=8):
  jP (f_ i a b p f o eU lb) (!i) x=f_ i a { x.e with bB:=[],got:=[] } x.p (f++x.e.bB.map (i7 (!i))) (o++x.e.bB.map (i7 (!i))) eU (lb++x.e.got):=by
 rw[<- Br i a b,Ld (!i) b a p f o lb eU h,Br]
def VA(i:Bool){a a':c_}(b:c_){p:fm}(f o:List eN)(eU lb:List lz)(h:kG ⟨a,p⟩=⟨a',p⟩)(cx:¬a'.ph=8)(aK:a'.bB=[])(hg:a'.got=[]):
  nz (f_ i a b p f o eU lb) i=f_ i a' b p f o eU lb:=by
 unfold nz;rw[Pi,h,Ld _ _ _ _ _ _ _ _ (x:=⟨a',p⟩) cx];have e:({ a' with bB:=[],got:=[] }:c_)=a':=by cases a';cases aK;cases hg;rfl
 dsimp only;rw[aK,hg,List.map_nil,hF,hF,hF];rw[e]
def agZ(i:Bool)(a:c_){b b':c_}{p:fm}(f o:List eN)(eU lb:List lz)(h:kG ⟨b,p⟩=⟨b',p⟩)(cx:¬b'.ph=8)(aK:b'.bB=[])(hg:b'.got=[]):
  nz (f_ i a b p f o eU lb) (!i)=f_ i a b' p f o eU lb:=by
 rw[<- Br i a b,VA (!i) a f o lb eU h cx aK hg,Br]
def axL(i:Bool){a a' b b':c_}{p:fm}(f o:List eN)(eU lb:List lz)(bu:kG ⟨a,p⟩=⟨a',p⟩)(Y:kG ⟨b,p⟩=⟨b',p⟩)(cx:¬a'.ph=8/\¬b'.ph=8)(aK:a'.bB=[]/\b'.bB=[])(hg:a'.got=[]/\b'.got=[]):
  nz (nz (f_ i a b p f o eU lb) false) true=f_ i a' b' p f o eU lb:=by
 cases i
 .rw[VA false b f o eU lb bu cx.1 aK.1 hg.1]
  exact agZ false a' f o eU lb Y cx.2 aK.2 hg.2
 rw[show nz (f_ true a b p f o eU lb) false=_ from agZ true a f o eU lb Y cx.2 aK.2 hg.2];exact VA true b' f o eU lb bu cx.1 aK.1 hg.1
def atu(i:Bool):lx (1-eq i)=!i:=by cases i<;>rfl
def amg(i:Bool)(a b:c_)(p:fm)(o:List eN)(eU lb:List lz){y:aG}(aL:o8 c b.hub)(ai:b.dt=[0,0,0,0])(cx:¬b.ph=8)(O:1<=x.length)(R:x.length<=1024)(hy:l6 ⟨b,p⟩ x=y)(Gc:¬y.e.ph=8):
  m? 1 (f_ i a b p [(1-eq i,(c:Int),fq x,())] o eU lb)=f_ i a { y.e with bB:=[],got:=[] } y.p (y.e.bB.map (i7 (!i))) (o++y.e.bB.map (i7 (!i))) eU (lb++y.e.got):=by
 unfold m?;rw[if_neg (by intro h;cases h)];show(lI _ 0 0).1=_;unfold lI;rw[if_neg (by show ¬ ¬((0:Int)<=0/\(0:Int)<1);decide)];dsimp only;rw[if_neg (by intro h;exact absurd h.1 bP)];show jP (f_ i a b p [] o eU lb) (lx (1-eq i)) (q5 ((f_ i a b p [] o eU lb).at (lx (1-eq i))) (c:Int) (fq x))=_;rw[atu,WZ,aiQ (s:=⟨b,p⟩) aL ai cx O R,hy,aab _ _ _ _ _ _ _ _ Gc];rfl
def anG{k:V}{v:dr}(h:nX v.2.2.2.2.2.1):1<=(j7 k v).length/\(j7 k v).length<=1024:=by unfold j7;rw[cE,xv,AP];have O:=h.1;have R:=h.2;omega
def axK(i:Bool)(key:V)(ga:Int)(aF:1<ga)(h:eO)(p:fm):kG ⟨gZ i key ga h,p⟩=⟨gZ i key (ga-1) h,p⟩:=by
 have ht:mo (gZ i key ga h).ask=((1,1,ga-1,3,d7 h6,()),false,false):=by unfold mo;rw[ if_pos (show 1<(gZ i key ga h).ask.2.2.1 from aF)];rfl
 unfold kG;unfold uC;rw[ ht];rfl
def agX(i:Bool)(key:V)(ga:Int)(aF:1<ga)(h:eO)(p:fm):kG ⟨g' i key ga h,p⟩=⟨g' i key (ga-1) h,p⟩:=by
 have ah:H_ ⟨g' i key ga h,p⟩=⟨g' i key ga h,p⟩:=rfl;have ht:mo (g' i key ga h).ask=((301,2,ga-1,3,d7 h0,()),false,false):=by unfold mo;rw[ if_pos (show 1<(g' i key ga h).ask.2.2.1 from aF)];rfl
 unfold kG;rw[if_neg (by rintro(q|q);exact absurd (show(3:Int)=7 from q) bP;exact absurd (show(3:Int)=8 from q) bP),if_pos ⟨by show(2:Int)<=3;decide,by show(3:Int)<=6;decide⟩,ah];unfold uC;rw[ ht];rfl
theorem agY(i:Bool)(key:V)(h:eO)(p:fm):kG ⟨gc i key h,p⟩=⟨gc i key h,p⟩:=rfl
def Vz(i:Bool)(key:V)(cH:Int)(h:eO)(p:fm):kG ⟨nU i key cH h,p⟩=⟨nU i key cH h,p⟩:=by unfold kG;rw[if_neg (by rintro(q|q);exact absurd (show(3:Int)=7 from q) bP;exact absurd (show(3:Int)=8 from q) bP),if_pos ⟨by show(2:Int)<=3;decide,by show(3:Int)<=6;decide⟩,if_neg (by show ¬(1:Int)=4611686018427387904;decide)];rfl
def ha(c:Nat):eO:=(lr eP (c:Int)).1
def abP(h:c<4):o8 c (ha c)/\(lr eP (c:Int)).2=0:=by
 match c,h with
 |0,_=>exact⟨⟨bP,rfl,rfl,bP⟩,rfl⟩
 |1,_=>exact⟨⟨bP,rfl,rfl,bP⟩,rfl⟩
 |2,_=>exact⟨⟨bP,rfl,rfl,bP⟩,rfl⟩
 |3,_=>exact⟨⟨bP,rfl,rfl,bP⟩,rfl⟩
def aeB(i:Bool)(key:V)(h:c<4)(p:fm):(vZ ⟨r? i key,p⟩ (c:Int)).1=⟨fX i key (ha c),p⟩:=by exact(congrArg Prod.fst (if_neg (not_not_intro (abP h).2)))
def asU(key:V)(fQ i:Bool)(h:c<4):gT (js key fQ) (12,0,(c:Int),0,[],())=(f_ i (fX i key (ha c)) (fX (!i) key (ha c)) (fQ,[],false,()) [] [] [] [],0):=by
 have bb:js key fQ=f_ false (r? false key) (r? true key) (fQ,[],false,()) [] [] [] []:=by
  unfold js f_ two
  grind
 have aF:=by have:∀c<4,¬ak [false,false,false,false] c false=true:=bP;exact this c h
 have ah:gT (js key fQ) (12,0,(c:Int),0,[],())=AJ (js key fQ) (c:Int):=rfl;rw[ah];unfold AJ;rw[if_neg (by rintro(q|q)<;>exact absurd (show(0:Int)=8 from q) bP),if_neg (not_not_intro (⟨J,J⟩)),if_neg (by rintro(q|q)<;>exact aF q)];refine wI ?_ rfl;have e1:rC (js key fQ) false (c:Int)=f_ false (fX false key (ha c)) (r? true key) (fQ,[],false,()) [] [] [] []:=by rw[bb];unfold rC;rw[Pi,aeB false key h,Ld _ _ _ _ _ _ _ _ (by show ¬(0:Int)=8;decide)];rfl
 have aN:rC (f_ false (fX false key (ha c)) (r? true key) (fQ,[],false,()) [] [] [] []) true (c:Int)=f_ false (fX false key (ha c)) (fX true key (ha c)) (fQ,[],false,()) [] [] [] []:=by unfold rC;rw[show(f_ false (fX false key (ha c)) (r? true key) (fQ,[],false,()) [] [] [] []).at true=⟨r? true key,_⟩ from WZ false _ _ _ _ _ _ _,aeB true key h];exact(aab false _ _ _ _ _ _ _ (x:=⟨fX true key (ha c),(fQ,[],false,())⟩) (by show ¬(0:Int)=8;decide))
 rw[e1,aN];cases i
 .rfl
 exact(Br false _ _ _ _ _ _ _).symm
def Uy{a b a':c_}{p:fm}{o:List eN}{eU lb:List lz}{y:aG}{b':c_}(aL:o8 c b.hub)(ai:b.dt=[0,0,0,0])(cx:¬b.ph=8)(hx:1<=x.length/\x.length<=1024)(hy:l6 ⟨b,p⟩ x=y)(Gc:¬y.e.ph=8)
  (bu:kG ⟨a,y.p⟩=⟨a',y.p⟩) (Y:kG ⟨{ y.e with bB:=[],got:=[] },y.p⟩=⟨b',y.p⟩) (ka:¬a'.ph=8/\¬b'.ph=8) (aK:a'.bB=[]/\b'.bB=[]) (hg:a'.got=[]/\b'.got=[]) :
  jJ (f_ i a b p [(1-eq i,(c:Int),fq x,())] o eU lb)=f_ i a' b' y.p (y.e.bB.map (i7 (!i))) (o++y.e.bB.map (i7 (!i))) eU (lb++y.e.got):=by
 unfold jJ;rw[show(f_ i a b p [(1-eq i,(c:Int),fq x,())] o eU lb).ba.length=1 from rfl,amg i a b p o eU lb aL ai cx hx.1 hx.2 hy Gc];exact axL i _ _ _ _ bu Y ka aK hg
def ae0{a b b':c_}{p:fm}{o:List eN}{eU lb:List lz}{y:aG}{a':c_}(aL:o8 c a.hub)(ai:a.dt=[0,0,0,0])(cx:¬a.ph=8)(hx:1<=x.length/\x.length<=1024)(hy:l6 ⟨a,p⟩ x=y)(Gc:¬y.e.ph=8)
  (Y:kG ⟨b,y.p⟩=⟨b',y.p⟩) (bu:kG ⟨{ y.e with bB:=[],got:=[] },y.p⟩=⟨a',y.p⟩) (ka:¬a'.ph=8/\¬b'.ph=8) (aK:a'.bB=[]/\b'.bB=[]) (hg:a'.got=[]/\b'.got=[]) :
  jJ (f_ i a b p [(1-eq (!i),(c:Int),fq x,())] o eU lb)=f_ i a' b' y.p (y.e.bB.map (i7 i)) (o++y.e.bB.map (i7 i)) (eU++y.e.got) lb:=by
 rw[<- Br,Uy (i:=!i) aL ai cx hx hy Gc Y bu ka.symm aK.symm hg.symm,Br,Bool.not_not]
def aed(key:V)(fQ i:Bool):fm:=ln (ln (ln (ln (fQ,[],false,()) (gY key) (cZ (rM i key))) (gY key) (cZ (uE (!i) key))) (mP key) (cZ (wg i key))) (mP key) (cZ (we (!i) key))
def K4(i:Bool)(c:Nat)(k:V)(v:dr):eN:=(1-eq i,(c:Int),fq (j7 k v),())
def adv(key:V)(i:Bool)(c:Nat):List eN:=[K4 i c (gY key) (rM i key),K4 (!i) c (gY key) (uE (!i) key),K4 i c (mP key) (wg i key),K4 (!i) c (mP key) (we (!i) key)]
def LG(c:Nat):eO:=(eF (eF (ha c)).1).1
def asV(key:V)(fQ i:Bool)(h:c<4):
  AV (js key fQ) [(12,0,(c:Int),0,[],()),(1,eq i,0,0,[],()),(17,0,4,0,[],())]=(f_ i (nU i key 2 (LG c)) (nU (!i) key 0 (LG c)) (aed key fQ i) [] (adv key i c) mG mG,[0,0,0]):=by
 have aL:=(abP h).1;have O:=(T6 aL).2.2;have R:=(T6 O).2.2

 have ax:∀p,gT (f_ i (fX i key (ha c)) (fX (!i) key (ha c)) p [] [] [] []) (1,eq i,0,0,[],())=(f_ i (gZ i key 8 (eF (ha c)).1) (fX (!i) key (ha c)) (ln p (gY key) (cZ (rM i key))) [(1-eq i,(c:Int),fq (j7 (gY key) (rM i key)),())] [(1-eq i,(c:Int),fq (j7 (gY key) (rM i key)),())] [] [],0):=by
  intro p;have d4:gT (f_ i (fX i key (ha c)) (fX (!i) key (ha c)) p [] [] [] []) (1,eq i,0,0,[],())=uV (f_ i (fX i key (ha c)) (fX (!i) key (ha c)) p [] [] [] []) (1,eq i,0,0,[],()):=rfl;rw[d4];unfold uV;rw[if_neg (by cases i<;>decide)];have bc:lx (eq i)=i:=by cases i<;>rfl
  dsimp only;rw[bc,Pi];have ed:tD ⟨fX i key (ha c),p⟩ (1,eq i,0,0,[],())=ru ⟨fX i key (ha c),p⟩:=rfl;rw[ed,at7 i key aL p,Ld _ _ _ _ _ _ _ _ (by show ¬(1:Int)=8;decide)];rfl
 have cO:=λ(v:dr) (k:V) (aC:nX v.2.2.2.2.2.1)=>anG (k:=k) aC;show((oF 4 (gT (gT (js key fQ) (12,0,(c:Int),0,[],())).1 (1,eq i,0,0,[],())).1),[(gT (js key fQ) (12,0,(c:Int),0,[],())).2,(gT (gT (js key fQ) (12,0,(c:Int),0,[],())).1 (1,eq i,0,0,[],())).2,0])=_;rw[asU key fQ i h,ax];refine wI ?_ rfl;show jJ (jJ (jJ (jJ _)))=_;rw[Uy (y:=_) (a':=gZ i key 7 (eF (ha c)).1) (b':=gc (!i) key (eF (ha c)).1) aL rfl (by show ¬(0:Int)=8;decide) (cO _ _ (pq xW)) (apA i key aL (NP _ _ _)) (by show ¬(2:Int)=8;decide) (axK i key 8 bP _ _) (agY (!i) key _ _) ⟨by show ¬(1:Int)=8;decide,by show ¬(2:Int)=8;decide⟩ ⟨rfl,rfl⟩ ⟨rfl,rfl⟩];show jJ (jJ (jJ (f_ i (gZ i key 7 (eF (ha c)).1) (gc (!i) key (eF (ha c)).1) _ [(1-eq (!i),(c:Int),fq (j7 (gY key) (uE (!i) key)),())] _ [] [])))=_;rw[ae0 (y:=_) (a':=g' i key 7 (eF (eF (ha c)).1).1) (b':=gc (!i) key (eF (ha c)).1) O rfl (by show ¬(1:Int)=8;decide) (cO _ _ (pq JX)) (apx i key 7 O (NP _ _ _)) (by show ¬(3:Int)=8;decide) (agY (!i) key _ _) (agX i key 8 bP _ _) ⟨by show ¬(3:Int)=8;decide,by show ¬(2:Int)=8;decide⟩ ⟨rfl,rfl⟩ ⟨rfl,rfl⟩];show jJ (jJ (f_ i (g' i key 7 (eF (eF (ha c)).1).1) (gc (!i) key (eF (ha c)).1) _ [(1-eq i,(c:Int),fq (j7 (mP key) (wg i key)),())] _ mG []))=_;rw[Uy (y:=_) (a':=g' i key 6 (eF (eF (ha c)).1).1) (b':=nU (!i) key 0 (eF (eF (ha c)).1).1) O rfl (by show ¬(2:Int)=8;decide) (cO _ _ (pq w2)) (apz i key O (NP _ _ _)) (by show ¬(3:Int)=8;decide) (agX i key 7 bP _ _) (Vz (!i) key 0 _ _) ⟨by show ¬(3:Int)=8;decide,by show ¬(3:Int)=8;decide⟩ ⟨rfl,rfl⟩ ⟨rfl,rfl⟩];show jJ (f_ i (g' i key 6 (eF (eF (ha c)).1).1) (nU (!i) key 0 (eF (eF (ha c)).1).1) _ [(1-eq (!i),(c:Int),fq (j7 (mP key) (we (!i) key)),())] _ mG mG)=_;rw[ae0 (y:=_) (a':=nU i key 2 (eF (eF (ha c)).1).1) (b':=nU (!i) key 0 (eF (eF (ha c)).1).1) R rfl (by show ¬(3:Int)=8;decide) (cO _ _ (pq J6)) (apy i key 6 (NP _ _ _)) (by show ¬(3:Int)=8;decide) (Vz (!i) key 0 _ _) (Vz i key 2 _ _) ⟨by show ¬(3:Int)=8;decide,by show ¬(3:Int)=8;decide⟩ ⟨rfl,rfl⟩ ⟨rfl,rfl⟩];rfl
def axf:NH ()=some (Do,()):=by unfold NH;rw[UT _ bP];rfl
def amH(i:Bool)(ap:key.length=32):QU (eq i,key,())=some ((r? i key).t,0,()):=by
 have h:(T (aJ (eq i) 0) (some (true,())) (T (aJ 1 (eq i)) (some (true,())) (some (a_ (ag (len key) 32),()))):Option (Bool×Unit))=some (false,()):=by have Y:a_ (ag (len key) 32)=false:=j6 (by show(key.length:Int)=32;omega);rw[Y];cases i<;>rfl
 refine(bJ h).trans ((((bJ axf).trans ?_)));rfl
def ayx(ap:key.length=32)(fQ:Bool):Jc (key,fQ,())=some ((js key fQ).t,0,()):=by
 unfold Jc;generalize hg:(λab=>(_:Option (aE (Int×Int×e5×Unit) (e5×Int×Unit))))=F;have cH:∀(i:Bool) (e:Int) (W:e5),F (e,eq i,W,())=some (.nx (e,eq i+1,(cj W.1 (aa (eq i)) (r? i key).t,W.2),())):=by intro i e W;subst hg;refine bq (dj (TC i).2) ((bJ (amH i ap)).trans (((bn (G7 i) ?_))));cases i<;>rfl
 have f7:∀(e:Int) (W:e5),F (e,2,W,())=some (.ex 0 (e,2,W,())):=λe W=>by subst hg;exact b1 rfl
 refine(c' ((ez (cH false 0 _)).trans ((ez (cH true 0 _)).trans (d_ (f7 _ _))))).trans ((?_));rfl
def atE(i:Bool)(ap:key.length<=1000):qH 0 (r? i key) where
 id:=by cases i;exact .inl rfl;exact .inr rfl
 key:=ap
 ph:=⟨by show(0:Int)<=0;decide,by show(0:Int)<=8;decide⟩
 store:=⟨MT 1,ox⟩
 own:=xL
 oth:=xL
 seq:=xL
 ring:=.inl rfl
 up:=rfl
 next:=⟨by show(0:Int)<=0;decide,by show(0:Int)<4;decide⟩
 bB:=bU _
 got:=bU _
 dt:=rfl
 win:=rfl
 feed:=rfl
 life:=rfl
 queue:=by show([]:List V).length<=8;simp
 top:=⟨by show(0:Int)<=0;decide,by show(0:Int)<=4611686018427387905;decide⟩
 fd:=abO
 askr:=.inl rfl
 outs:=λx hx=>by cases hx
def at5(ap:key.length<=1000)(fQ:Bool):gS (js key fQ):=
 ⟨λi=>⟨0,atE i ap,bU _⟩,λ_=>rfl,λ_=>rfl,λf hf=>(by cases hf),λf hf=>(by cases hf)⟩
def ahQ(ap:key.length<=1000)(fQ:Bool):jL 0 0 (js key fQ):=by
 refine⟨at5 ap fQ,?_,?_⟩
 .have:h' (js key fQ)=0:=rfl
  omega
 have:em (js key fQ)=0:=rfl;omega
def jL.Zs{w:bW}(h:jL a r w)(bu:a<=41)(ah:r<=66):yF w:=by
 have Y:=h.mono bu ah;have O:=Y.Dt;have R:=by have hL:=Y.L;omega
 exact⟨h.ok,J⟩
def Xe(l:List dy):Prop:=∀a∈l,a.2.2.2.2.1.length<=1200
def uq(a:dy):Nat:=if a.1=17 then(min a.2.2.1 100).toNat else 0
def H2:List dy->Nat
 |[]=>0
 |a::l=>uq a+H2 l
def axt{w:bW}{a:dy}(h:a.1=17):(gT w a).1=oF (uq a) w:=by
 unfold gT uq;rw[if_neg J,if_neg J,if_neg J,if_neg J,if_neg J,if_neg J,if_neg J,if_pos h];split
 .have:(min a.2.2.1 100).toNat=0:=J
  rw[this];rfl
 rfl
def ai7{w:bW}(h:jL a r w){x:dy}(Y:x.2.2.2.2.1.length<=1200):jL (a+1) (r+uq x) (gT w x).1:=by
 by_cases sm:x.1=17
 .rw[axt sm]
  exact(h.Fx (uq x)).mono (qa a) (bU _)
 have:uq x=0:=if_neg sm;rw[this];exact h.aiu (axh h.ok x Y sm)
def am2{w:bW}(h:jL a r w)(bu:a<=41){x:dy}(ah:r+uq x<=66)(Y:x.2.2.2.2.1.length<=1200):yG w x:=by refine⟨(h.Zs bu J).nW,J,λsm j an => ?_⟩;have:uq x=(min x.2.2.1 100).toNat:=if_pos sm;exact(h.Fx j).Zs bu J
def Zt:∀(l:List dy) {a r:Nat} {w:bW},jL a r w->a+l.length<=41->r+H2 l<=66->Xe l->Ow w l/\jL (a+l.length) (r+H2 l) (AV w l).1
 |[],a,r,w,h,_,_,_=>⟨trivial,h⟩
 |x::l,a,r,w,h,bu,ah,Y=>by
  rw[ew]at bu;have gD:r+(uq x+H2 l)<=66:=ah;have zA:=Y x (EL ..);obtain⟨bF,b3⟩:=Zt l (ai7 h zA) J J (λy hy=>Y y (wF _ hy));refine⟨⟨am2 h J J zA,bF⟩,?_⟩;show jL (a+(l.length+1)) (r+(uq x+H2 l)) (AV (gT w x).1 l).1
  grind
def Zy(n:Int)(h:n<=9223372036854775807):(q7 n).length<=20:=by
 unfold q7;split
 .split<;>decide
 exact(K0 J).2
def DT(l:List Int):V:=[32].intercalate (l.map q7)
def acg(l:List V)(h:∀w∈l,w.length<=20):([32].intercalate l).length<=21*l.length:=by
 induction l with
 |nil=>decide
 |cons a r ih=>
  cases r with
  |nil=>rw[List.intercalate_singleton];have:=h a (.head _);show _<=21*1;omega
  |cons b r =>rw[List.intercalate_cons_cons,cE,cE];have O:=ih (λw bb=>h w (.tail _ bb));have R:=h a (.head _);show a.length+1+_<=21*(r.length+1+1);have:(b::r).length=r.length+1:=rfl;omega
def awj(l:List Int)(hl:l.length<=1000)(h:∀n∈l,n<=9223372036854775807):A? (l,())=some (DT l,()):=by
 unfold A?;dsimp only;generalize hg:(λ(ab:List V×Int×Unit)=>(_:Option (aE (List V×Int×Unit) (V×Unit))))=F;have key:∀(r d:List Int),d++r=l->bN F (d.map q7,(d.length:Int),())=some (.ex 0 (l.map q7,(l.length:Int),())):=by
  intro r;induction r with
  |nil =>intro d aF;rw[hF]at aF;subst aF;subst hg;exact d_ (b1 (c3 (by show ¬(d.length:Int)<(d.length:Int);omega)))
  |cons x r ih=>
   intro d aF;have bm:d.length<l.length:=by rw[<- aF,cE,ew];omega
   have hx:ak l (aa (d.length:Int)) 0=x:=by rw[show aa (d.length:Int)=d.length from rfl,nth_get bm];subst aF;rw[JD (bU _)];simp
   have hm:x∈l:=by rw[<- aF];exact wC _ (.head _)
   refine(ez ?_).trans (ih (d++[x]) (by rw[gv];exact aF));subst hg;refine bq (dj (by show(d.length:Int)<(l.length:Int);omega)) (bn (sz (show(0:Int)<=(d.length:Int) by omega) (by show(d.length:Int)<(l.length:Int);omega)) ?_);dsimp only;rw[hx,anc (h x hm),hj];dsimp only;refine bn (n? (by show((d.map q7).length+1)*32<=_;rw[ou];omega)) ?_;rw[fP (n:=(d++[x]).length) (a:=av (d.length:Int) 1) (by rw[cE];rfl) (by rw[cE];show _+1<=_;omega),EY];rfl
 refine(c' (key l [] rfl)).trans ?_;have cq:=acg (l.map q7) (λw bb=>by obtain⟨n,aj,rfl⟩:=m1.1 bb;exact Zy n (h n aj));rw[ou]at cq;have an:NO (l.map q7,[32],())=some (DT l,()):=if_pos ⟨by rw[ou];omega,e0 cq J⟩;show am (bZ 0 0) (ob (NO (l.map q7,[32],())) _)=_;rw[an];rfl
def vO(p:Int):V:=ak [[111,102,102],[97,115,107,101,100],[116,111,108,100],[111,112,101,110],[114,101,107,101,121],[99,117,116,116,105,110,103],[99,108,111,115,105,110,103],[102,97,105,108,101,100],[100,97,114,107]] p.toNat []
def aih{p:Int}(h:0<=p/\p<=8):MG (p,())=some (vO p,()):=by rcases(by omega:p=0\/p=1\/p=2\/p=3\/p=4\/p=5\/p=6\/p=7\/p=8) with rfl|rfl|rfl|rfl|rfl|rfl|rfl|rfl|rfl<;>rfl
def atf{p:Int}(h:0<=p/\p<=8):3<=(vO p).length/\(vO p).length<=7:=by rcases(by omega:p=0\/p=1\/p=2\/p=3\/p=4\/p=5\/p=6\/p=7\/p=8) with rfl|rfl|rfl|rfl|rfl|rfl|rfl|rfl|rfl<;>decide
def vS(e:c_):List Int:=[e.own,e.oth,e.ring.1.1,e.day,(e.queue.length:Int)]
def UM(e:c_):V:=vO e.ph++[32]++DT (vS e)++[10]
def awW{e:c_}(h:qH n e)(aF:e.day<=9223372036854775807)(ah:e.ring.1.1<=9223372036854775807):En (e.t,())=some (UM e,()):=by
 have aK:=h.own;have ht:=h.oth;have a2:=h.queue;unfold dC at aK ht;have aj:=atf h.ph;have abG:(DT (vS e)).length<=105:=acg ((vS e).map q7) (λw bb=>by obtain⟨n,aj,rfl⟩:=m1.1 bb;refine Zy n ?_;simp only[vS,gE,yO,or_false]at aj;rcases aj with rfl|rfl|rfl|rfl|rfl<;>omega)
 have d9:=awj (vS e) (by show 5<=1000;omega) (λn aj=>by simp only[vS,gE,yO,or_false]at aj;rcases aj with rfl|rfl|rfl|rfl|rfl<;>omega)
 unfold En;refine bg (show MG (e.ph,())=_ from aih h.ph) (bn (hN (by show(((vO e.ph).length:Nat):Int)+((1:Nat):Int)<=140737488355328;omega)) ?_);refine bg (show A? (vS e,())=_ from d9) ?_;dsimp only;have e1:(bv (vO e.ph) [32]).length=(vO e.ph).length+1:=by simp[bv]
 have aN:(bv (bv (vO e.ph) [32]) (DT (vS e))).length=(vO e.ph).length+1+(DT (vS e)).length:=by simp[bv];omega
 refine bn (hN (by simp only[av,len,e1];omega)) (bn (hN (by simp only[av,len,aN,JS];omega)) rfl)
def TE(h:sK w hi):p1 (w,(hi:Int),())=some ((val w:Int),true,()):=by
 obtain⟨hf,aC,bj⟩:=h;unfold p1;rw[FJ,if_pos hf,hj];dsimp only;refine(bJ (bq rfl (ce (hN J)))).trans ?_;by_cases ao:w=[48]
 .exact(bJ (ce (AZ ao))).trans rfl
 have eC:=bj.resolve_left ao;refine(bJ (a1 (o4 ao) (dR (sz (BO 0) (by show(0:Int)<(w.length:Int);omega))))).trans ?_;have ai:a_ (ag (aI (ak w (aa 0) (u8 0))) (aI (u8 48)))=true:=by
  cases w with
  |nil=>exact absurd hf.1 bP
  |cons c r=>
   show a_ (ag (c.toNat:Int) 48)=true;rw[cr (λe=>eC ?_)];rfl;have:c.toNat=(48:UInt8).toNat:=by show c.toNat=48;omega
   rw[uL.1 this];rfl
 rw[ai];rfl
def TD(h:¬sK w hi):∃q,p1 (w,(hi:Int),())=some (q,false,()):=by
 unfold p1;rw[FJ];by_cases hf:1<=w.length/\w.length<=18/\fZ w
 .rw[if_pos hf,hj]
  dsimp only;refine⟨(val w:Int),(bJ (ce rfl)).trans ?_⟩;by_cases aC:val w<=hi
  .have bj:¬(w=[48]\/w.head?≠some 48):=λbj=>h ⟨hf,aC,bj⟩
   have ao:¬w=[48]:=λe=>bj (.inl e);have hh:w.head?=some 48:=k2 λe=>bj (.inr e);refine(bJ (bq (hN J) (a1 (o4 ao) (dR (sz (BO 0) (by show(0:Int)<(w.length:Int);omega)))))).trans ?_;cases w with
   |nil=>exact absurd hf.1 bP
   |cons c r =>cases lZ hh;rfl
  exact(bJ (b1 (oS J))).trans rfl
 rw[if_neg hf,hj];exact⟨0,rfl⟩
def ajO(h:zD w):El (w,())=some (oi w,true,()):=by obtain⟨hh,R,af⟩:=h;unfold El;rw[QK w J,if_pos hh,hj];dsimp only;have e1:bE 2 (len w)=true:=hN (by show(2:Int)<=(w.length:Int);omega);have aN:bE (len w) 1800=true:=hN (by show(w.length:Int)<=1800;omega);rw[e1,aN];rfl
def ajM(hl:w.length<=1000000)(h:¬zD w):∃q,El (w,())=some (q,false,()):=by
 unfold El;rw[QK w hl];by_cases hh:w.length%2=0/\zE w
 .rw[if_pos hh,hj]
  dsimp only;by_cases R:2<=w.length
  .have af:¬w.length<=1800:=λaf=>h ⟨hh,R,af⟩
   have e1:bE 2 (len w)=true:=hN (by show(2:Int)<=(w.length:Int);omega);have aN:bE (len w) 1800=false:=oS (by show ¬(w.length:Int)<=1800;omega);rw[e1,aN];exact⟨_,rfl⟩
  have e1:bE 2 (len w)=false:=oS (by show ¬(2:Int)<=(w.length:Int);omega);rw[e1];exact⟨_,rfl⟩
 rw[if_neg hh,hj];exact⟨_,rfl⟩
def ayv(a:dy)(r:UInt8)(hl:w.length<=1000000):
  (∀a',uF r w a=some a'->ym (a,(r.toNat:Int),w,())=some (a',true,()))/\(uF r w a=none->∃a',ym (a,(r.toNat:Int),w,())=some (a',false,())):=by
 unfold uF ym;have d':∀{c:UInt8},¬r=c->¬(r.toNat:Int)=(c.toNat:Int):=λh e=>h (uL.1 J);by_cases O:r=105
 .subst O
  simp only[if_pos];rw[ce (show ag ((105:UInt8).toNat:Int) 105=true from rfl)];by_cases h:sK w 1
  .rw[if_pos h,show p1 (w,1,())=_ from TE (hi:=1) h]
   exact⟨λa' e=>by cases e;rfl,λe=>by cases e⟩
  obtain⟨q,a2⟩:=TD h;rw[if_neg h,show p1 (w,1,())=_ from a2];exact⟨λa' e=>(by cases e),λ_=>⟨_,rfl⟩⟩
 simp only[if_neg O];rw[b1 (show ag (r.toNat:Int) 105=false from cr (d' O))];by_cases R:r=110
 .subst R
  simp only[if_pos];rw[ce (show ag ((110:UInt8).toNat:Int) 110=true from rfl)];by_cases h:sK w 999999
  .rw[if_pos h,show p1 (w,999999,())=_ from TE (hi:=999999) h]
   exact⟨λa' e=>by cases e;rfl,λe=>by cases e⟩
  obtain⟨q,a2⟩:=TD h;rw[if_neg h,show p1 (w,999999,())=_ from a2];exact⟨λa' e=>(by cases e),λ_=>⟨_,rfl⟩⟩
 simp only[if_neg R];rw[b1 (show ag (r.toNat:Int) 110=false from cr (d' R))];by_cases af:r=109
 .subst af
  simp only[if_pos];rw[ce (show ag ((109:UInt8).toNat:Int) 109=true from rfl)];by_cases h:sK w 999999
  .rw[if_pos h,show p1 (w,999999,())=_ from TE (hi:=999999) h]
   exact⟨λa' e=>by cases e;rfl,λe=>by cases e⟩
  obtain⟨q,a2⟩:=TD h;rw[if_neg h,show p1 (w,999999,())=_ from a2];exact⟨λa' e=>(by cases e),λ_=>⟨_,rfl⟩⟩
 simp only[if_neg af];rw[b1 (show ag (r.toNat:Int) 109=false from cr (d' af))];by_cases h:zD w
 .rw[if_pos h,ajO h]
  exact⟨λa' e=>by cases e;rfl,λe=>by cases e⟩
 obtain⟨q,a2⟩:=ajM hl h;rw[if_neg h,a2];exact⟨λa' e=>(by cases e),λ_=>⟨_,rfl⟩⟩
def y'{α:Type}(w:V)(d:α)(g:Nat->V->α):Nat->List (V×V)->α
 |_,[]=>d
 |i,p::r=>T (seq w p.1) (g i p.2) (y' w d g (i+1) r)
def Qj{α:Type}{w:V}{d:α}{g:Nat->V->α}:∀{l:List (V×V)} {i k:Nat} {dG:V},qj w i l=some (k,dG)->y' w d g i l=g k dG
 |p::r,i,k,dG,h=>by
  unfold qj at h;by_cases e:w=p.1
  .rw[if_pos e]at h;cases h
   exact ce (AZ e)
  rw[if_neg e]at h;exact a1 (o4 e) (Qj h)
def Qi{α:Type}{w:V}{d:α}{g:Nat->V->α}:∀{l:List (V×V)} {i:Nat},qj w i l=none->y' w d g i l=d
 |[],_,_=>rfl
 |p::r,i,h=>by
  unfold qj at h;by_cases e:w=p.1
  .rw[if_pos e]at h;cases h
  rw[if_neg e]at h;exact a1 (o4 e) (Qi h)
def Bx:dy:=(0,0,0,0,[],())
def MA(l:List V):Option (dy×Bool×Unit):=
 ob (T (ag (y' (ak l (aa 0) []) ((0:Int),([]:V),()) (λi dG=>((i:Int),dG,())) 0 pz).1 7) (some (ag (len l) 3,())) (some (false,()))) λa6:Bool×Unit=>
 ob (T a6.1 (some ([110,109],())) (some ((y' (ak l (aa 0) []) ((0:Int),([]:V),()) (λi dG=>((i:Int),dG,())) 0 pz).2.1,()))) λbR:V×Unit=>
 ob (T (a_ (y' (ak l (aa 0) []) false (λ_ _=>true) 0 pz)) (some (true,())) (some (a_ (ag (len l) (i64 (av 1 (len bR.1)))),()))) λbS:Bool×Unit=>
 T bS.1 (some (Bx,false,()))
  (ci (bN (λx:Bool×dy×Nat×Unit=>
   T (i6 x.2.2.1 (aT bR.1))
    (am (aU (i64 (av (bf x.2.2.1) 1)) (len l))
     (ob (ym (x.2.1,bf (gA bR.1 x.2.2.1).1,ak l (aa (i64 (av (bf x.2.2.1) 1))) [],())) λa:dy×Bool×Unit=>
      T (a_ a.2.1) (some (aE.rt (Bx,false,()))) (some (aE.nx (x.1,a.1,bQ x.2.2.1 (gA bR.1 x.2.2.1).2,())))))
    (some (aE.ex 0 (x.1,x.2.1,x.2.2.1,()))))
   (false,((y' (ak l (aa 0) []) ((0:Int),([]:V),()) (λi dG=>((i:Int),dG,())) 0 pz).1,0,0,0,[],()),0,()))
   (λ_:Bool×dy×Nat×Unit=>none)
   (λ(i:Nat) (a:Bool×dy×Nat×Unit)=>am (bZ i 0) (some (a.2.1,true,())))
   λr:dy×Bool×Unit=>some r)
def aii(x:V×Unit):p0 x=ob (Eb (x.1,[32],())) λa:List V×Unit=>am (aU 0 (len a.1)) (MA a.1):=by kernel_rfl
def ZK{w:V}:∀{l:List (V×V)} {i k:Nat} {dG:V},qj w i l=some (k,dG)->∃p∈l,p.2=dG
 |p::r,i,k,dG,h=>by
  unfold qj at h;by_cases e:w=p.1
  .rw[if_pos e]at h;cases h
   exact⟨p,.head _,rfl⟩
  rw[if_neg e]at h;obtain⟨q,a2,e⟩:=ZK h;exact⟨q,.tail _ a2,e⟩
def anx(h:qj w 0 pz=some (k,dG))(n:Nat):(∀r∈rP k dG n,r.toNat<128)/\(rP k dG n).length<=3:=by
 have bu:∀p∈pz,(∀r∈p.2,r.toNat<128)/\p.2.length<=3:=bP;obtain⟨p,hp,rfl⟩:=ZK h;unfold rP;split
 .decide
 exact bu p hp
def V3(c:UInt8):∀s,(gN c s).length=s.count c+1/\∀w∈gN c s,w.length<=s.length
 |[]=>⟨rfl,λw bb=>by rw[pe.1 bb];exact bU _⟩
 |x::s=>by
  obtain⟨O,R⟩:=V3 c s;unfold gN;by_cases e:x=c
  .rw[if_pos e,e,List.count_cons_self]
   exact⟨by rw[ew,O],λw bb=>by
    rcases gE.1 bb with rfl|bb
    .exact fK _
    exact yN (R w bb)⟩
  rw[if_neg e,List.count_cons_of_ne e];cases ai:gN c s with
  |nil=>exact absurd ai (ahv c s)
  |cons y t=>
   rw[ai]at O R;refine⟨O,λw bb => ?_⟩;rcases gE.1 bb with rfl|bb
   .exact Nat.succ_le_succ (R y (.head _))
   exact yN (R w (.tail _ bb))
def auu{l:List V}(hl:l.length=1+dG.length)(bb:∀r∈dG,r.toNat<128)(af:dG.length<=3)(Y:∀w∈l,w.length<=1000000)(F:Bool×dy×Nat×Unit->Option (aE (Bool×dy×Nat×Unit) (dy×Bool×Unit)))
 (dW:F=λx:Bool×dy×Nat×Unit=>
  T (i6 x.2.2.1 (aT dG))
   (am (aU (i64 (av (bf x.2.2.1) 1)) (len l))
    (ob (ym (x.2.1,bf (gA dG x.2.2.1).1,ak l (aa (i64 (av (bf x.2.2.1) 1))) [],())) λa:dy×Bool×Unit=>
     T (a_ a.2.1) (some (aE.rt (Bx,false,()))) (some (aE.nx (x.1,a.1,bQ x.2.2.1 (gA dG x.2.2.1).2,())))))
   (some (aE.ex 0 (x.1,x.2.1,x.2.2.1,())))) :
 ∀(n i:Nat) (a:dy),i+n=dG.length->(∀a',xe (dG.drop i) (l.tail.drop i) a=some a'->bN F (false,a,i,())=some (.ex 0 (false,a',dG.length,())))/\(xe (dG.drop i) (l.tail.drop i) a=none->bN F (false,a,i,())=some (.rt (Bx,false,()))):=by
 intro n;induction n with
 |zero =>intro i a h;have hi:i=dG.length:=J;subst hi;rw[OE];refine⟨λa' e => ?_,λe=>by cases e⟩;cases e;subst dW;exact d_ (b1 (Mj (Js _)))
 |succ n ih=>
  intro i a h;have hi:i<dG.length:=J;have abh:i+1<l.length:=J;have ht:i<l.tail.length:=by rw[List.length_tail];omega
  have e1:dG.drop i=dG[i]::dG.drop (i+1):=m2 hi;have aN:l.tail.drop i=l[i+1]::l.tail.drop (i+1):=by rw[m2 ht,List.getElem_tail]
  have hx:i64 (av (bf i) 1)=((i+1:Nat):Int):=fP rfl J;have aF:=QC hi (bb _ (mu hi));have aj:ak l (aa ((i+1:Nat):Int)) []=l[i+1]:=nth_get abh;obtain⟨cf,cN⟩:=ayv a dG[i] (Y _ (mu abh));have ac:F (false,a,i,())=ob (ym (a,(dG[i].toNat:Int),l[i+1],())) λa:dy×Bool×Unit=>
   T (a_ a.2.1) (some (aE.rt (Bx,false,()))) (some (aE.nx (false,a.1,i+1,()))):=by
   subst dW;refine bq (Ak hi) ?_;dsimp only;rw[hx,aF,aj];exact dR (sz J (by show((i+1:Nat):Int)<(l.length:Int);omega))
  rw[e1,aN];show(∀a',(uF dG[i] l[i+1] a).bind (xe (dG.drop (i+1)) (l.tail.drop (i+1)))=some a'->_)/\((uF dG[i] l[i+1] a).bind (xe (dG.drop (i+1)) (l.tail.drop (i+1)))=none->_);cases aC:uF dG[i] l[i+1] a with
  |none =>obtain⟨a',bu⟩:=cN aC;refine⟨λa' e=>(by cases e),λ_=>pN ?_⟩;rw[ac,bu];rfl
  |some b=>
   have abN:F (false,a,i,())=some (.nx (false,b,i+1,())):=by rw[ac,cf b aC];rfl
   obtain⟨sy,G4⟩:=ih (i+1) b J;exact⟨λa' e=>(ez abN).trans (sy a' e),λe=>(ez abN).trans (G4 e)⟩
def auv{l:List V}(aj:l.length<=1000001)(Y:∀w∈l,w.length<=1000000):
  (∀a,AA l=some a->MA l=some (a,true,()))/\(AA l=none->MA l=some (Bx,false,())):=by
 have ao:ak l (aa 0) []=l.headD []:=by cases l<;>rfl
 unfold AA MA;rw[ao];cases hf:qj (l.headD []) 0 pz with
 |none =>rw[Qi hf,Qi hf];exact⟨λa e=>(by cases e),λ_=>rfl⟩
 |some p=>
  obtain⟨k,dG⟩:=p;rw[Qj hf,Qj hf];dsimp only;obtain⟨bb,af⟩:=anx hf l.length;have ap:(T (ag (k:Int) 7) (some (ag (len l) 3,())) (some (false,())):Option (Bool×Unit))=some (decide (k=7/\l.length=3),()):=by
   by_cases dN:k=7
   .rw[ce (cJ J)]
    by_cases hl:l.length=3
    .rw[cJ (show len l=3 by show(l.length:Int)=3;omega),decide_eq_true ⟨dN,hl⟩]
    rw[cr (show ¬len l=3 by show ¬(l.length:Int)=3;omega),decide_eq_false (λh=>hl h.2)]
   rw[b1 (cr J),decide_eq_false (λh=>dN h.1)]
  have xr:(T (decide (k=7/\l.length=3)) (some (([110,109]:V),())) (some (dG,())):Option (V×Unit))=some (rP k dG l.length,()):=by
   unfold rP;by_cases h:k=7/\l.length=3
   .rw[decide_eq_true h,if_pos h];rfl
   rw[decide_eq_false h,if_neg h];rfl
  rw[ap,hj,xr,hj];dsimp only;generalize rP k dG l.length=u at bb af;have cq:i64 (av 1 (len u))=((1+u.length:Nat):Int):=fP (by show(1:Int)+(u.length:Int)=_;omega) J;rw[cq];by_cases hl:l.length=1+u.length
  .rw[if_pos hl,cJ (show len l=((1+u.length:Nat):Int) by show(l.length:Int)=_;omega)]
   obtain⟨bG,b_⟩:=auu hl bb af Y _ rfl u.length 0 ((k:Int),0,0,0,[],()) J;exact⟨λa e=>(c' (bG a e)).trans rfl,λe=>(c' (b_ e)).trans rfl⟩
  rw[if_neg hl,cr (show ¬len l=((1+u.length:Nat):Int) by show ¬(l.length:Int)=_;omega)];exact⟨λa e=>(by cases e),λ_=>rfl⟩
def yV(line:V)(hl:line.length<=1000000):
  (∀a,mS line=some a->p0 (line,())=some (a,true,()))/\(mS line=none->p0 (line,())=some (Bx,false,())):=by
 obtain⟨O,R⟩:=V3 32 line;have ai:line.count 32<=line.length:=List.count_le_length;rw[aii,WD 32 line hl,hj];rw[dR (sz (BO 0) (by show(0:Int)<((gN 32 line).length:Int);omega))];exact auv J (λw bb=>e0 (R w bb) hl)
def BR(c:Nat)(i:Bool):List dy:=[(12,0,(c:Int),0,[],()),(1,eq i,0,0,[],()),(17,0,4,0,[],())]
def xG(key:V)(fQ i:Bool)(c:Nat):bW:=f_ i (nU i key 2 (LG c)) (nU (!i) key 0 (LG c)) (aed key fQ i) [] (adv key i c) mG mG
def ajE(c:Nat)(i:Bool):Xe (BR c i):=by
 intro a bu;simp only[BR,gE,yO,or_false]at bu
 grind
def awm(ap:key.length=32)(fQ i:Bool)(h:c<4):Ow (js key fQ) (BR c i)/\jL 3 4 (xG key fQ i c)/\AV (js key fQ) (BR c i)=(xG key fQ i c,[0,0,0]):=by obtain⟨O,R⟩:=Zt (BR c i) (ahQ (show key.length<=1000 by omega) fQ) (show 0+3<=41 by omega) (show 0+(0+(0+(4+0)))<=66 by omega) (ajE c i);have hm:AV (js key fQ) (BR c i)=(xG key fQ i c,[0,0,0]):=asV key fQ i h;rw[hm]at R;exact⟨O,R,hm⟩
def oz:V:=List.replicate 32 (u8 0)
def air:oz.length=32:=ox
def ES:e5->List V->e5->V->Prop
 |W,[],W',o=>W'=W/\o=[]
 |W,l::hc,W',o=>if l=[]then ES W hc W' o else ∃(X:e5) (a di:V),qS (W,l,())=some (X,a,())/\ES X hc W' di/\o=a++di
def aij{s o:V}{W W':e5}(hl:s.length<=1000000)(ac:Ek ()=some (W,()))(h:ES W (gN 10 s) W' o)(aK:o.length<=140737488355328):I2 (s,())=some (o,()):=by
 have ai:s.count 10<=s.length:=List.count_le_length;have aj:=(V3 10 s).1;unfold I2;rw[ac,hj];dsimp only;rw[WD 10 s hl,hj];dsimp only;generalize gN 10 s=L at h aj;generalize hg:(λ(x:V×Int×e5×Unit)=>(_:Option (aE (V×Int×e5×Unit) (V×Unit))))=F;have key:∀(r d:List V) (W:e5) (p q:V),d++r=L->ES W r W' q->p++q=o->bN F (p,(d.length:Int),W,())=some (.ex 0 (o,(L.length:Int),W',())):=by
  intro r;induction r with
  |nil =>intro d W p q aF ah hp;obtain⟨rfl,rfl⟩:=ah;rw[hF]at aF hp;subst aF;subst hp;subst hg;exact d_ (b1 (c3 (by show ¬(d.length:Int)<(d.length:Int);omega)))
  |cons x r ih=>
   intro d W p q aF ah hp;have bm:d.length<L.length:=by rw[<- aF,cE,ew];omega
   have hx:ak L (aa (d.length:Int)) []=x:=by rw[show aa (d.length:Int)=d.length from rfl,nth_get bm];subst aF;rw[JD (bU _)];simp
   have hi:i64 (av (d.length:Int) 1)=(((d++[x]).length:Nat):Int):=fP (by rw[cE];rfl) (by rw[cE];show _+1<=_;omega);have tT:F (p,(d.length:Int),W,())=T (seq x []) (some (aE.nx (p,(((d++[x]).length:Nat):Int),W,()))) (ob (qS (W,x,())) λa:e5×V×Unit=>am (bE (av (len p) (len a.2.1)) 140737488355328) (some (aE.nx (bv p a.2.1,(((d++[x]).length:Nat):Int),a.1,())))):=by subst hg;refine bq (dj (by show(d.length:Int)<(L.length:Int);omega)) (bn (sz (show(0:Int)<=(d.length:Int) by omega) (by show(d.length:Int)<(L.length:Int);omega)) ?_);dsimp only;rw[hi,show aO UInt8=[] from rfl,hx]
   unfold ES at ah;by_cases ao:x=[]
   .rw[if_pos ao]at ah
    exact(ez (tT.trans (ce (AZ ao)))).trans (ih (d++[x]) W p q (by rw[gv];exact aF) ah hp)
   rw[if_neg ao]at ah;obtain⟨X,a,di,O,R,af⟩:=ah;subst af;have iB:p.length+a.length<=140737488355328:=by rw[<- hp,cE,cE]at aK;omega
   refine(ez (tT.trans (a1 (o4 ao) (by rw[O,hj];exact dR (hN (by show(p.length:Int)+(a.length:Int)<=_;omega)))))).trans (ih (d++[x]) X (p++a) di (by rw[gv];exact aF) R (by rw[gv];exact hp))
 rw[show(aO UInt8,(0:Int),W,())=(([]:V),(([]:List V).length:Int),W,()) from rfl];exact(c' (key L [] W [] o rfl h rfl)).trans rfl
def J5:List V:=[[115,104,111,119,32,48],[115,104,111,119,32,49],[108,111,103,32,48],[108,111,103,32,49],[110,101,116]]
def Y5{W:e5}(h:line∉J5):qS (W,line,())=ob (p0 (line,())) λa:dy×Bool×Unit=>
 T (a_ a.2.1) (some (W,[119,104,97,116,10],()))
  (ob (Jd (W,a.1,())) λa:e5×Int×Unit=>
   T (a_ (ag a.2.1 0))
    (ob (Em (a.2.1,())) λa6:V×Unit=>
     am (bE (av (len [101,114,114,111,114,32]) (len a6.1)) 140737488355328)
      (am (bE (av (len (bv [101,114,114,111,114,32] a6.1)) (len [10])) 140737488355328)
      (some (a.1,bv (bv [101,114,114,111,114,32] a6.1) [10],()))))
    (some (a.1,[111,107,10],()))):=by
 simp only[J5,gE,yO,or_false,not_or]at h;obtain⟨O,R,af,aq,a8⟩:=h;unfold qS;exact a1 (o4 O) (a1 (o4 R) (a1 (o4 af) (a1 (o4 aq) (b1 (o4 a8)))))
def QL{w:bW}{a:dy}(aj:line∉J5)(hl:line.length<=1000000)(hp:mS line=some a)(hf:yG w a)(ao:(gT w a).2=0):qS (w.t,line,())=some ((gT w a).1.t,[111,107,10],()):=by rw[Y5 aj,(yV line hl).1 a hp,hj];refine a1 rfl ?_;dsimp only;rw[aik hf,hj,ao];rfl
def aml{w:bW}(aj:line∉J5)(hl:line.length<=1000000)(hp:mS line=none):qS (w.t,line,())=some (w.t,[119,104,97,116,10],()):=by rw[Y5 aj,(yV line hl).2 hp,hj];rfl
def agB:Ek ()=some ((js oz false).t,()):=by unfold Ek;exact bn rfl ((bJ (show Jc (bO (aa 32) (u8 0),false,())=_ from ayx (ox (n:=32)) false)).trans rfl)
def amj{w:bW}(h:qH n (w.e true))(aF:(w.e true).day<=9223372036854775807)(ah:(w.e true).ring.1.1<=9223372036854775807):qS (w.t,[115,104,111,119,32,49],())=some (w.t,UM (w.e true),()):=by unfold qS;refine a1 rfl (bq rfl (bn rfl ((bJ (show En ((w.e true).t,())=_ from awW h aF ah)).trans rfl)))
def aum:mS [114,97,105,115,101,32,48]=some (12,0,0,0,[],()):=by kernel_rfl
def aun:mS [114,97,105,115,101,32,48,48]=none:=by kernel_rfl
def aul:mS [111,110,32,48]=some (1,0,0,0,[],()):=by kernel_rfl
def aui:mS [99,97,108,109,32,52]=some (17,0,4,0,[],()):=by kernel_rfl
def auj:mS [103,105,118,101,32,51,32,52]=some (7,0,3,4,[],()):=by kernel_rfl
def auk:mS [103,105,118,101]=none:=by kernel_rfl
def awX:Ho ()=some (true,()):=by
 obtain⟨dW,aB,jk⟩:=awm air false false (c:=0) J;have f1:yG (js oz false) (12,0,0,0,[],()):=dW.1;have f2:yG (gT (js oz false) (12,0,0,0,[],())).1 (1,0,0,0,[],()):=dW.2.1;have f3:yG (gT (gT (js oz false) (12,0,0,0,[],())).1 (1,0,0,0,[],())).1 (17,0,4,0,[],()):=dW.2.2.1;have aaL:((gT (gT (gT (js oz false) (12,0,0,0,[],())).1 (1,0,0,0,[],())).1 (17,0,4,0,[],())).1,[(gT (js oz false) (12,0,0,0,[],())).2,(gT (gT (js oz false) (12,0,0,0,[],())).1 (1,0,0,0,[],())).2,(gT (gT (gT (js oz false) (12,0,0,0,[],())).1 (1,0,0,0,[],())).1 (17,0,4,0,[],())).2])=(xG oz false false 0,[0,0,0]):=jk;have d4:=congrArg Prod.fst aaL;have e1:=oy (congrArg Prod.snd aaL);have aN:=oy e1.2;have dJ:=oy aN.2;have k?:=QL (line:=[114,97,105,115,101,32,48]) bP bP aum f1 e1.1;have mB:=QL (line:=[111,110,32,48]) bP bP aul f2 aN.1;have wY:=QL (line:=[99,97,108,109,32,52]) bP bP aui f3 dJ.1;have Kx:=aml (w:=(gT (js oz false) (12,0,0,0,[],())).1) (line:=[114,97,105,115,101,32,48,48]) bP bP aun;dsimp only at d4;rw[d4]at wY;have ac:qS ((xG oz false false 0).t,[115,104,111,119,32,49],())=some ((xG oz false false 0).t,[111,112,101,110,32,49,32,49,32,49,32,48,32,48,10],()):=by obtain⟨n,aj⟩:=aB.ok.s true;rw[amj aj.e (by show(0:Int)<=_;omega) (by show(1:Int)<=_;omega)];exact congrArg (λz=>some (_,z,())) (by decide +kernel:UM ((xG oz false false 0).e true)=_)
 have jR:I2 ([114,97,105,115,101,32,48,10,111,110,32,48,10,99,97,108,109,32,52,10,115,104,111,119,32,49,10],())=some ([111,107,10,111,107,10,111,107,10,111,112,101,110,32,49,32,49,32,49,32,48,32,48,10],()):=by refine aij (W':=(xG oz false false 0).t) bP agB ?_ bP;rw[show gN 10 [114,97,105,115,101,32,48,10,111,110,32,48,10,99,97,108,109,32,52,10,115,104,111,119,32,49,10]=[[114,97,105,115,101,32,48],[111,110,32,48],[99,97,108,109,32,52],[115,104,111,119,32,49],[]] by decide +kernel];refine(if_neg bP).mpr ⟨_,_,_,k?,(if_neg bP).mpr ⟨_,_,_,mB,(if_neg bP).mpr ⟨_,_,_,wY,(if_neg bP).mpr ⟨_,_,_,ac,(if_pos rfl).mpr ⟨rfl,rfl⟩,rfl⟩,rfl⟩,rfl⟩,rfl⟩
 unfold Ho;rw[agB,hj];dsimp only;rw[k?,hj];dsimp only;rw[Kx,hj];dsimp only;rw[(yV _ bP).1 _ auj,hj];dsimp only;rw[(yV _ bP).2 auk,hj];dsimp only;rw[jR,hj];rfl
end Yp
namespace Yp
open Go
set_option maxRecDepth 100000
set_option maxHeartbeats 2000000
def aej(n:Nat)(h:n<=999999):vH ((n:Int),())=some (py n,()):=by
 unfold vH;dsimp only;generalize hg:(λ(x:V×Int×Unit)=>(_:Option (aE (V×Int×Unit) (V×Unit))))=F;have dd:∀m:Nat,m<10->u8 (i64 (av 48 (m:Int)))=dI m:=bP;have key:∀(k m:Nat) (db:V),m<10^(k+1)->m<=999999->db.length+k<=30->∃(d:Nat) (r3:V),d<10/\r3.length<=30/\bN F (db,(m:Int),())=some (.ex 0 (r3,(d:Int),()))/\dI d::r3=qi k m++db:=by
  intro k;induction k with
  |zero =>intro m db hm _ bu;refine⟨m,db,J,J,?_,by rw[KZ J];rfl⟩;subst hg;exact d_ (b1 (c3 (by show ¬(9:Int)<(m:Int);omega)))
  |succ k ih=>
   intro m db hm Y bu;by_cases kO:m<10
   .refine⟨m,db,J,J,?_,by rw[KZ kO];rfl⟩
    subst hg;exact d_ (b1 (c3 (by show ¬(9:Int)<(m:Int);omega)))
   obtain⟨d,r3,O,R,af,aq⟩:=ih (m/10) (dI (m%10)::db) (by rw[qX]at hm;omega) J (by rw[ew];omega);refine⟨d,r3,O,R,(ez ?_).trans af,?_⟩
   .subst hg
    have e1:dh (m:Int) 10=((m%10:Nat):Int):=vz;have aN:i64 (fg (m:Int) 10)=((m/10:Nat):Int):=zW (a:=m) (b:=10) J;refine bq (dj (by show(9:Int)<(m:Int);omega)) ?_;dsimp only;rw[e1,aN,dd _ J];exact dR (hN (by show((1:Nat):Int)+(db.length:Int)<=_;omega))
   rw[aq,show qi (k+1) m=qi k (m/10)++[dI (m%10)] from if_neg kO,gv];rfl
 obtain⟨d,r3,O,R,af,aq⟩:=key 19 n [] J h bh;refine(c' af).trans ?_;show am (bZ 0 0) (am (bE (av (len [u8 (i64 (av 48 (d:Int)))]) (len r3)) 140737488355328) (some (bv [u8 (i64 (av 48 (d:Int)))] r3,())))=_;rw[dd d O];refine bn rfl (bn (hN (by show((1:Nat):Int)+(r3.length:Int)<=_;omega)) ?_);rw[show bv [dI d] r3=dI d::r3 from rfl,aq,hF];rfl
def mY:List V:=[[105,98],[105],[105],[105],[105,98],[105,110],[105],[110,109],[110],[110],[110,109,98],[105,110,98],[110],[110],[105],[105],[105,110],[110]]
def Dq:List V:=[[115,101,110,100],[111,110],[111,102,102],[101,99,104,111],[107,101,121],[100,97,121],[116,105,99,107],[103,105,118,101],[100,114,111,112],[97,103,97,105,110],[115,112,111,105,108],[105,110,106,101,99,116],[114,97,105,115,101],[99,117,116],[99,114,97,115,104],[98,111,111,116],[97,114,109],[99,97,108,109]]
def axC:∀k,k<18->qj (ak Dq k []) 0 pz=some (k,(ak pz k ([],[])).2)/\(ak Dq k []).count 32=0/\(ak Dq k []).length<=6/\rP k (ak pz k ([],[])).2 (1+(ak mY k []).length)=ak mY k [] /\
  (rP k (ak pz k ([],[])).2 (2+(ak mY k []).length)).length≠1+(ak mY k []).length/\(ak mY k []).length<=3/\∀r∈ak mY k [],r=105\/r=110\/r=109\/r=98:=iL
def Fe(aj:n<=999999)(hm:m<=999999)(Y:b.length<=900)(r:UInt8):(hX i n m b r).length<=1800:=by
 unfold hX;split
 .cases i<;>decide
 split
 .have:=(K0 (n:=n) J).2;omega
 split
 .have:=(K0 (n:=m) J).2;omega
 rw[nh];omega
def acF{f:UInt8->V}(hf:∀r,(f r).length<=1800):∀(rs:V) (a:V),(oT a (rs.map f)).length<=a.length+1801*rs.length
 |[],a=>bU _
 |r::rs,a=>by have h:=acF hf rs (a++32::f r);have:=hf r;rw[cE,ew]at h;show(oT (a++32::f r) (rs.map f)).length<=a.length+1801*(rs.length+1);omega
def as4(c:UInt8):dh (i64 (aI c)) 18=((c.toNat%18:Nat):Int):=by have h:=c.toNat_lt;rw[show aI c=(c.toNat:Int) from rfl,rj J];exact vz
def acX(c:UInt32):i64 (aS (u32 (dh (aS c) (aS (u32 1000000)))))=((c.toNat%1000000:Nat):Int):=by have h:=c.toNat_lt;rw[show dh (aS c) (aS (u32 1000000))=((c.toNat%1000000:Nat):Int) from vz,show aS (u32 ((c.toNat%1000000:Nat):Int))=((c.toNat%1000000:Nat):Int) from ?_,rj J];show((u32 ((c.toNat%1000000:Nat):Int)).toNat:Int)=_;rw[Eh J]
section
variable {k:Nat} {i:Bool} {n m:Nat} {b:V} (aj:n<=999999) (hm:m<=999999) (Y:1<=b.length/\b.length<=900)
def II(rs:V)(i:Bool)(N M:Int)(b:V)(x:V×Int×dy×Unit):Option (aE (V×Int×dy×Unit) (Bool×Unit)):=
 T (aJ x.2.1 (len rs))
  (am (aU x.2.1 (len rs))
   (T (ag (aI (ak rs (aa x.2.1) (u8 0))) (aI (u8 105)))
    (am (bE (av (len x.1) (len [32,48])) 140737488355328)
     (T i
      (am (ca 0 (i64 (bi (len (bv x.1 [32,48])) 1)) (len (bv x.1 [32,48])))
       (am (bE (av (len (sub (bv x.1 [32,48]) 0 (i64 (bi (len (bv x.1 [32,48])) 1)))) (len [49])) 140737488355328)
        (some (aE.nx (bv (sub (bv x.1 [32,48]) 0 (i64 (bi (len (bv x.1 [32,48])) 1))) [49],i64 (av x.2.1 1),(x.2.2.1.1,1,x.2.2.1.2.2),())))))
      (some (aE.nx (bv x.1 [32,48],i64 (av x.2.1 1),x.2.2.1,())))))
    (T (ag (aI (ak rs (aa x.2.1) (u8 0))) (aI (u8 110)))
     (am (bE (av (len x.1) (len [32])) 140737488355328)
      (ob (vH (N,())) λa:V×Unit=>am (bE (av (len (bv x.1 [32])) (len a.1)) 140737488355328) (some (aE.nx (bv (bv x.1 [32]) a.1,i64 (av x.2.1 1),(x.2.2.1.1,x.2.2.1.2.1,N,x.2.2.1.2.2.2),())))))
     (T (ag (aI (ak rs (aa x.2.1) (u8 0))) (aI (u8 109)))
      (am (bE (av (len x.1) (len [32])) 140737488355328)
       (ob (vH (M,())) λa:V×Unit=>am (bE (av (len (bv x.1 [32])) (len a.1)) 140737488355328) (some (aE.nx (bv (bv x.1 [32]) a.1,i64 (av x.2.1 1),(x.2.2.1.1,x.2.2.1.2.1,x.2.2.1.2.2.1,M,x.2.2.1.2.2.2.2),())))))
      (T (ag (aI (ak rs (aa x.2.1) (u8 0))) (aI (u8 98)))
       (am (bE (av (len x.1) (len [32])) 140737488355328)
        (ob (DO (b,())) λa:V×Unit=>am (bE (av (len (bv x.1 [32])) (len a.1)) 140737488355328) (some (aE.nx (bv (bv x.1 [32]) a.1,i64 (av x.2.1 1),(x.2.2.1.1,x.2.2.1.2.1,x.2.2.1.2.2.1,x.2.2.1.2.2.2.1,b,x.2.2.1.2.2.2.2.2),())))))
       (some (aE.nx (x.1,i64 (av x.2.1 1),x.2.2.1,()))))))))
  (some (aE.ex 0 (x.1,x.2.1,x.2.2.1,())))
include aj hm Y in
def axs{rs:V}{j:Nat}{l:V}{a:dy}(h:j<rs.length)(af:rs.length<=3)(hl:l.length<=10000)(bu:i=false->a.2.1=0)(ah:rs[j]=105\/rs[j]=110\/rs[j]=109\/rs[j]=98):
  II rs i (n:Int) (m:Int) b (l,(j:Int),a,())=some (.nx (l++32::hX i n m b rs[j],((j+1:Nat):Int),sO i n m b a rs[j],())):=by
 have hx:ak rs (aa (j:Int)) (u8 0)=rs[j]:=nth_get h;have an:i64 (av (j:Int) 1)=((j+1:Nat):Int):=fP rfl J;have kz:=Y.2;unfold II;refine bq (dj (by show(j:Int)<(rs.length:Int);omega)) (bn (sz (show(0:Int)<=(j:Int) by omega) (by show(j:Int)<(rs.length:Int);omega)) ?_);dsimp only;rw[hx,an];generalize rs[j]=r at ah;have eX:=Fe (i:=i) aj hm kz 110;have f8:=Fe (i:=i) aj hm kz 109;have oR:=Fe (i:=i) aj hm kz 98;rw[show hX i n m b 110=py n from rfl]at eX;rw[show hX i n m b 109=py m from rfl]at f8;rw[show hX i n m b 98=eW b from rfl]at oR;have bp:∀w:V,bv (bv l [32]) w=l++32::w:=λw=>by simp[bv]
 have c1:bE (av (len l) (len [32])) 140737488355328=true:=hN (by simp only[av,len,bv,cE,ew,gw];omega);have c2:∀w:V,w.length<=1800->bE (av (len (bv l [32])) (len w)) 140737488355328=true:=λw bb=>hN (by simp only[av,len,bv,cE,ew,gw];omega);rcases ah with rfl|rfl|rfl|rfl
 .refine bq rfl (bn (hN (by simp only[av,len,bv,cE,ew,gw];omega)) ?_)
  cases i
  .have ao:=bu rfl
   rw[show sO false n m b a 105=a from by show(a.1,(0:Int),a.2.2)=a;rw[<- ao]];rfl
  have e1:i64 (bi (len (bv l [32,48])) 1)=((l.length+1:Nat):Int):=by rw[show len (bv l [32,48])=((l.length+2:Nat):Int) by simp[len,bv],hM]<;>simp only[bi]<;>omega
  have aN:sub (bv l [32,48]) 0 ((l.length+1:Nat):Int)=l++[32]:=by unfold sub;rw[show((l.length+1:Nat):Int).toNat-(0:Int).toNat=l.length+1 from rfl,show(0:Int).toNat=0 from rfl,nD];show(l++[32,48]).take (l.length+1)=_;rw[show l++[32,48]=(l++[32])++[48] by simp,WK bh,hS bh]
  refine bq rfl ?_;rw[e1,aN];refine bn (rl J J (by simp only[av,len,bv,cE,ew,gw];omega)) (bn (hN (by simp only[av,len,bv,cE,ew,gw];omega)) ?_);rw[show bv (l++[32]) [49]=l++32::[49] by simp[bv]];rfl
 .refine a1 rfl (bq rfl (bn c1 ?_))
  rw[aej n aj,hj];exact bn (c2 _ eX) (by rw[bp];rfl)
 .refine a1 rfl (a1 rfl (bq rfl (bn c1 ?_)))
  rw[aej m hm,hj];exact bn (c2 _ f8) (by rw[bp];rfl)
 refine a1 rfl (a1 rfl (a1 rfl (bq rfl (bn c1 ?_))));rw[avG b J,hj];exact bn (c2 _ oR) (by rw[bp];rfl)
def au3(a:dy)(bu:i=false->a.2.1=0)(r:UInt8):i=false->(sO i n m b a r).2.1=0:=by
 intro h;subst h;unfold sO;split
 .rfl
 split
 .exact bu rfl
 split
 .exact bu rfl
 exact bu rfl
include aj hm Y in
def agC{rs:V}(af:rs.length<=3)(ah:∀r∈rs,r=105\/r=110\/r=109\/r=98):∀(q p:V) (l:V) (a:dy),p++q=rs->l.length+1801*q.length<=10000->(i=false->a.2.1=0) ->
  bN (II rs i (n:Int) (m:Int) b) (l,(p.length:Int),a,())=some (.ex 0 (oT l (q.map (hX i n m b)),(rs.length:Int),q.foldl (sO i n m b) a,()))
 |[],p,l,a,hp,_,_=>by rw[hF]at hp;subst hp;refine d_ ?_;unfold II;exact b1 (c3 (by show ¬(p.length:Int)<(p.length:Int);omega))
 |r::q,p,l,a,hp,hl,bu=>by
  have bm:p.length<rs.length:=by rw[<- hp,cE,ew];omega
  have hx:rs[p.length]=r:=by subst hp;rw[JD (bU _)];simp
  rw[ew]at hl;have ac:=axs (i:=i) aj hm Y (l:=l) (a:=a) bm af J bu (by rw[hx];exact ah r (by rw[<- hp];exact wC _ (.head _)));rw[hx]at ac;have azc:=Fe (i:=i) aj hm Y.2 r;have abm:=agC af ah q (p++[r]) (l++32::hX i n m b r) (sO i n m b a r) (by rw[gv];exact hp) (by rw[cE,ew];omega) (au3 a bu r);rw[show(((p++[r]).length:Nat):Int)=((p.length+1:Nat):Int) by rw[cE];rfl]at abm;exact(ez ac).trans abm
end
def U2(k:Int)(i:Bool)(N M:Int)(b:V)(x:V×Int×dy×Unit):Option (aE (V×Int×dy×Unit) (Bool×Unit)):=
 T (aJ x.2.1 (len (ak mY (aa k) [])))
  (am (aU k (len mY)) (am (aU x.2.1 (len (ak mY (aa k) [])))
   (T (ag (aI (ak (ak mY (aa k) []) (aa x.2.1) (u8 0))) (aI (u8 105)))
    (am (bE (av (len x.1) (len [32,48])) 140737488355328)
     (T i
      (am (ca 0 (i64 (bi (len (bv x.1 [32,48])) 1)) (len (bv x.1 [32,48])))
       (am (bE (av (len (sub (bv x.1 [32,48]) 0 (i64 (bi (len (bv x.1 [32,48])) 1)))) (len [49])) 140737488355328)
        (some (aE.nx (bv (sub (bv x.1 [32,48]) 0 (i64 (bi (len (bv x.1 [32,48])) 1))) [49],i64 (av x.2.1 1),(x.2.2.1.1,1,x.2.2.1.2.2),())))))
      (some (aE.nx (bv x.1 [32,48],i64 (av x.2.1 1),x.2.2.1,())))))
    (T (ag (aI (ak (ak mY (aa k) []) (aa x.2.1) (u8 0))) (aI (u8 110)))
     (am (bE (av (len x.1) (len [32])) 140737488355328)
      (ob (vH (N,())) λa:V×Unit=>am (bE (av (len (bv x.1 [32])) (len a.1)) 140737488355328) (some (aE.nx (bv (bv x.1 [32]) a.1,i64 (av x.2.1 1),(x.2.2.1.1,x.2.2.1.2.1,N,x.2.2.1.2.2.2),())))))
     (T (ag (aI (ak (ak mY (aa k) []) (aa x.2.1) (u8 0))) (aI (u8 109)))
      (am (bE (av (len x.1) (len [32])) 140737488355328)
       (ob (vH (M,())) λa:V×Unit=>am (bE (av (len (bv x.1 [32])) (len a.1)) 140737488355328) (some (aE.nx (bv (bv x.1 [32]) a.1,i64 (av x.2.1 1),(x.2.2.1.1,x.2.2.1.2.1,x.2.2.1.2.2.1,M,x.2.2.1.2.2.2.2),())))))
      (T (ag (aI (ak (ak mY (aa k) []) (aa x.2.1) (u8 0))) (aI (u8 98)))
       (am (bE (av (len x.1) (len [32])) 140737488355328)
        (ob (DO (b,())) λa:V×Unit=>am (bE (av (len (bv x.1 [32])) (len a.1)) 140737488355328) (some (aE.nx (bv (bv x.1 [32]) a.1,i64 (av x.2.1 1),(x.2.2.1.1,x.2.2.1.2.1,x.2.2.1.2.2.1,x.2.2.1.2.2.2.1,b,x.2.2.1.2.2.2.2.2),())))))
       (some (aE.nx (x.1,i64 (av x.2.1 1),x.2.2.1,())))))))))
  (some (aE.ex 0 (x.1,x.2.1,x.2.2.1,())))
def KK(up:Bool)(bR:V×Int×dy×Unit):Option (Bool×Unit):=
 ob (p0 (bR.1,())) λbS:dy×Bool×Unit=>
 am (bE (av (len bR.1) (len [32])) 140737488355328) (ob (p0 (bv bR.1 [32],())) λdm:dy×Bool×Unit=>
 am (bE (av (len [32]) (len bR.1)) 140737488355328) (ob (p0 (bv [32] bR.1,())) λj4:dy×Bool×Unit=>
 ob (T up (T bS.2.1 (T (a_ dm.2.1) (T (a_ j4.2.1) (T (ag bS.1.1 bR.2.2.1.1) (T (ag bS.1.2.1 bR.2.2.1.2.1) (T (ag bS.1.2.2.1 bR.2.2.1.2.2.1) (T (ag bS.1.2.2.2.1 bR.2.2.1.2.2.2.1)
  (ob (MV (bS.1.2.2.2.2.1,bR.2.2.1.2.2.2.2.1,())) λa:Bool×Unit=>some (a.1,()))
  (some (false,()))) (some (false,()))) (some (false,()))) (some (false,()))) (some (false,()))) (some (false,()))) (some (false,()))) (some (false,())))
  λa:Bool×Unit=>some (a.1,())))
def aim(x:(UInt8×Bool×UInt32×UInt32×V×Unit)×Unit):L4 x=ob (Ho ()) λa:Bool×Unit=>
 ob (T (aJ (len x.1.2.2.2.2.1) 1) (some (true,())) (some (aJ 900 (len x.1.2.2.2.2.1),()))) λa6:Bool×Unit=>
  T a6.1 (some (a.1,()))
   (am (aU (dh (i64 (aI x.1.1)) 18) (len Dq))
    (ci (bN (λab=>am (aU (dh (i64 (aI x.1.1)) 18) (len mY)) (U2 (dh (i64 (aI x.1.1)) 18) x.1.2.1 (i64 (aS (u32 (dh (aS x.1.2.2.1) (aS (u32 1000000)))))) (i64 (aS (u32 (dh (aS x.1.2.2.2.1) (aS (u32 1000000)))))) x.1.2.2.2.2.1 ab))
     (ak Dq (aa (dh (i64 (aI x.1.1)) 18)) [],0,(dh (i64 (aI x.1.1)) 18,0,0,0,[],()),()))
     (λ_:V×Int×dy×Unit=>none)
     (λ(i:Nat) (bR:V×Int×dy×Unit)=>am (bZ i 0) (KK a.1 bR))
     λr:Bool×Unit=>some r)):=by kernel_rfl
def axr(ap:k<18)(i:Bool)(N M:Int)(b:V):(λab=>am (aU (k:Int) (len mY)) (U2 (k:Int) i N M b ab))=II (ak mY k []) i N M b:=by funext x;have h:aU (k:Int) (len mY)=true:=sz J (by show(k:Int)<18;omega);rw[dR h];unfold U2;rw[h];rfl
def amB{a:dy}{l:V}(hl:l.length<=10000)(O:mS l=some a)(R:mS (l++[32])=none)(n:Int):KK true (l,n,a,())=some (true,()):=by unfold KK;dsimp only;rw[(yV l J).1 a O,hj];refine bn (hN (by simp only[av,len,ew,gw];omega)) ?_;rw[show bv l [32]=l++[32] from rfl,(yV (l++[32]) (by rw[cE];show l.length+1<=_;omega)).2 R,hj];refine bn (hN (by simp only[av,len,ew,gw];omega)) ?_;rw[show bv [32] l=32::l from rfl,(yV (32::l) (by rw[ew];omega)).2 (auw l),hj];dsimp only;refine(bJ (bq rfl (bq rfl (bq rfl (bq rfl (bq (cJ rfl) (bq (cJ rfl) (bq (cJ rfl) (ce (cJ rfl)))))))))).trans ?_;rw[avH,AZ rfl];rfl
def ToolActs'(t7:UInt8)(i:Bool)(n m:UInt32)(b:V):L4 ((t7,i,n,m,b,()),())=some (true,()):=by
 rw[aim,awX,hj];dsimp only;by_cases hb1:b.length<1
 .rw[ce (dj (show len b<1 by show(b.length:Int)<1;omega)),hj];rfl
 rw[b1 (c3 (show ¬len b<1 by show ¬(b.length:Int)<1;omega)),hj];by_cases hb2:900<b.length
 .rw[dj (show 900<len b by show(900:Int)<(b.length:Int);omega)];rfl
 rw[c3 (show ¬900<len b by show ¬(900:Int)<(b.length:Int);omega)];refine a1 rfl ?_;rw[as4,acX,acX];have ap:t7.toNat%18<18:=tc _ J;have aj:n.toNat%1000000<=999999:=J;have hm:m.toNat%1000000<=999999:=J;generalize t7.toNat%18=k at ap;generalize n.toNat%1000000=n at aj;generalize m.toNat%1000000=m at hm;obtain⟨dT,ev,t3,t4,t5,yg,agJ⟩:=axC k ap;refine bn (sz J (by show(k:Int)<18;omega)) ?_;rw[axr ap,show aa (k:Int)=k from rfl];have Y:1<=b.length/\b.length<=900:=J;generalize ak mY k []=rs at t4 t5 yg agJ;generalize ak Dq k []=nm at dT ev t3;have hL:=agC (i:=i) aj hm Y yg agJ rs [] nm ((k:Int),0,0,0,[],()) rfl J (λ_=>rfl);refine(c' hL).trans ?_;have cq:=acF (f:=hX i n m b) (Fe aj hm Y.2) rs nm;refine(show ci _ _ _ _=am (bZ 0 0) (KK true (oT nm (rs.map (hX i n m b)),(rs.length:Int),rs.foldl (sO i n m b) ((k:Int),0,0,0,[],()),())) from ?_).trans ?_
 .show ci (some (aE.ex 0 _)) _ _ _=_
  rfl
 rw[amB J (aux aj hm Y ev dT rs t4) (auy aj hm ev dT rs t5)];rfl
def ail(x:hZ [.pair (.int .u8) (.pair .bool (.pair (.int .u32) (.pair (.int .u32) (.pair (.sl (.int .u8)) .unit))))])(h:Mt [.pair (.int .u8) (.pair .bool (.pair (.int .u32) (.pair (.int .u32) (.pair (.sl (.int .u8)) .unit))))] x):L4 x=some (true,()):=
 ToolActs' x.1.1 x.1.2.1 x.1.2.2.1 x.1.2.2.2.1 x.1.2.2.2.2.1
end Yp