/- A part of the proof of the statements of this seat: plain functions, and laws on them. No condition of its own. -/
import Derived.Test.YtbpaehkcjccplaaGreatDoorQ2
set_option linter.unusedVariables false
set_option linter.unusedSimpArgs false
namespace Yp
open Go
set_option maxRecDepth 100000
set_option maxHeartbeats 2000000
theorem qtY (hsh:jQ ()=some (true,())) (s:Si) (hw:qDw s.e):wR (s.t,())=some (true,()):=by
 unfold wR
 rw [hsh]
 refine (qF rfl).trans ?_
 dsimp only
 rw [qmV s hw]
 refine (qF rfl).trans ?_
 by_cases hm:mayS s
 ·rw [D_t hm]
  refine (qB rfl).trans ?_
  have hok:=qMT hw hm
  rw [yT hok (by omega),qBT hok (by omega),qoA hok (by omega),qyW hok (by omega),qmN hok (by omega),qvN hok (by omega)]
  refine (qF rfl).trans ((qF rfl).trans ((qF rfl).trans ((qF rfl).trans ((qF rfl).trans ((qF rfl).trans ?_)))))
  dsimp only
  rw [wC (qPt hok) (by omega)]
  refine (qF rfl).trans ?_
  refine (qF (a:=(false,())) ?_).trans ((qB rfl).trans ?_)
  ·refine (qB rfl).trans ((qB (bq_f rfl)).trans ?_)
   rw [wC (qMW hok) (by omega)]
   refine (qF rfl).trans ((qB rfl).trans ((qB (bq_f rfl)).trans ?_))
   rw [wC (qOB hok) (by omega)]
   refine (qF rfl).trans ((qB rfl).trans ?_)
   rw [bq_f rfl]
  ·refine (qF (a:=(true,())) ((qC rfl).trans ?_)).trans rfl
   rw [wE hok (by omega),qiF hok (by omega)]
   refine (qF rfl).trans ((qF rfl).trans ?_)
   dsimp only
   rw [wC (qj5 hok) (by omega)]
   refine (qF rfl).trans ((qC rfl).trans ?_)
   rw [qeN hok,qvO hok]
   refine (qF rfl).trans ((qF rfl).trans ?_)
   dsimp only
   rw [wC (qJ5 hok) (by omega)]
   refine (qF rfl).trans ((qC rfl).trans ?_)
   rw [qcV hok (by omega),qtF hok (by omega)]
   refine (qF rfl).trans ((qF rfl).trans ?_)
   dsimp only
   rw [wC (qMV hok) (by omega)]
   refine (qF rfl).trans ((qC rfl).trans ?_)
   rw [qi9 hok (by omega),qtE hok (by omega)]
   refine (qF rfl).trans ((qF rfl).trans ?_)
   dsimp only
   rw [wC (qMU hok) (by omega)]
   rfl
 ·rw [D_f hm];rfl
theorem qtZ (hsh:jQ ()=some (true,())) (s:Si) (hw:qDw s.e) (n q:jT):wS (s.t,n,q,())=some (true,()):=by
 unfold wS
 rw [hsh]
 refine (qF rfl).trans ?_
 dsimp only
 rw [qmV s hw]
 refine (qF rfl).trans ?_
 rw [qFP,qFP]
 by_cases hm:mayS s
 ·by_cases h1:fewN n
  ·by_cases h2:fewN q
   ·have hok:=qMT hw hm
    refine (qF (a:=(false,())) (by rw [D_t hm,D_t h1,D_t h2];rfl)).trans ((qB rfl).trans ?_)
    rw [show s.t.1.2.2.1=s.e.ph from rfl,kF,qbQ]
    refine (qF rfl).trans ?_
    refine (qF (a:=(false,())) ?_).trans ((qB rfl).trans ?_)
    ·by_cases h3:jC s.e.ph
     ·by_cases h4:jE n
      ·rw [D_t h3,D_t h4]
       refine (qC rfl).trans ((qF rfl).trans ((qC rfl).trans ?_))
       rw [qi8 hok (by omega),qtD hok (by omega)]
       refine (qF rfl).trans ((qF rfl).trans ?_)
       dsimp only
       rw [wC (qMS hok n) (by omega)];rfl
      ·rw [D_t h3,D_f h4];rfl
     ·rw [D_f h3];rfl
    ·refine (qF (a:=(true,())) ((qC rfl).trans ?_)).trans rfl
     cases hq:q.1
     ·exact qC rfl
     ·refine (qB rfl).trans ?_
      rw [qd3 hok (by omega),qc0 hok (by omega)]
      refine (qF rfl).trans ((qF rfl).trans ?_)
      dsimp only
      rw [wC (qj3 hok q) (by omega)];rfl
   ·refine (qF (a:=(true,())) (by rw [D_t hm,D_t h1,D_f h2];rfl)).trans rfl
  ·refine (qF (a:=(true,())) (by rw [D_t hm,D_f h1];rfl)).trans rfl
 ·refine (qF (a:=(true,())) (by rw [D_f hm];rfl)).trans rfl
end Yp
namespace Yp
open Go
set_option maxRecDepth 100000
set_option maxHeartbeats 2000000
theorem qOd {n m:Nat} {a r:En'} {p:xX} (ha:okE n a) (hr:okE m r) (hp:p.2.1.length≤900000) (hid:r.id=1 - a.id) (hkey:r.key=a.key) (h7:¬ r.ph=7∧¬ r.ph=8) {o:Int} (ho:zN o) {b:BB} (hb:qdQ b) (hm:(qiV a.key,qT (setV a o b),())∈p.2.1) :
  qfP ((r.t,p,()),qT (setV a o b)++kN (qiV a.key) (qT (setV a o b)),())=some ((r.t,p,()),kR (setV a o b) (kN (qiV a.key) (qT (setV a o b))),0,()):=by
 have hv:=qqP ha ho hb
 have ht:=qb3 (qiV a.key) (qT (setV a o b))
 have hl:=j6 (setV a o b)
 have hbl:(setV a o b).2.2.2.2.2.1=b:=rfl
 have hb2:=hb.2
 have hk:=hr.key
 have hrid:=hr.id
 have hbk:=qk8 a.key
 unfold qfP
 dsimp only
 rw [qvV _ (by rw [List.length_append,ht,hl,hbl];omega),qMw hv (show (setV a o b).2.2.1=_ from qOw { a with oth:=o }) ht]
 refine (qF rfl).trans ((qB rfl).trans ?_)
 dsimp only
 generalize htg:kN (qiV a.key) (qT (setV a o b))=t at ht
 rw [show qgT (r.t,kR (setV a o b) t,())=some (false,()) by
  unfold qgT
  dsimp only
  rw [show r.t.1=r.id from rfl,show r.t.2.2.1=r.ph from rfl,show (kR (setV a o b) t).2.1=a.id from rfl,show (kR (setV a o b) t).1=1 from rfl,qSN hrid]
  refine (qF (a:=(false,())) ((qB (bq_f (by omega))).trans ((qB (vX h7.1)).trans (by rw [vX h7.2])))).trans ((qB rfl).trans (qC rfl))]
 refine (qF rfl).trans ((qB rfl).trans ?_)
 rw [show r.t.2.1=r.key from rfl,qc2 _ (by omega)]
 refine (qF rfl).trans ((qB rfl).trans ?_)
 rw [qbR (kR (setV a o b) t) hv,show qT (kR (setV a o b) t)=qT (setV a o b) from rfl]
 refine (qF rfl).trans ?_
 dsimp only
 rw [hkey,qtV _ _ _ _ (by omega) (by omega) (by rw [hl,hbl];omega),show (kR (setV a o b) t).2.2.2.2.2.2.1=t from rfl,show pchk p (qiV a.key) (qT (setV a o b)) t=(p,true,()) by unfold pchk;rw [if_pos htg,if_pos hm]]
 exact (qF rfl).trans ((qB rfl).trans (qC rfl))
theorem quE (p:xX) (k b:BB):(k,b,())∈(ptag p k b).2.1:=by
 unfold ptag
 split
 ·assumption
 ·simp
theorem qFa {p:xX} {k b:BB} {x:BB×BB×Unit} (h:x∈p.2.1):x∈(ptag p k b).2.1:=by
 unfold ptag
 split
 ·exact h
 ·exact List.mem_append_left _ h
def suF (e:En') (o:Int) (b:BB):BB:=kY (qT (setV e o b)++kN (qiV e.key) (qT (setV e o b)))
def suS (s:Si) (o:Int) (b:BB):Si:=⟨{ s.e with hub:=(kX s.e.hub).1,out:=s.e.out++[((kX s.e.hub).2.1,suF s.e o b,())] },ptag s.p (qiV s.e.key) (qT (setV s.e o b))⟩
theorem qlE {s:Si} {o:Int} {b:BB} (ho:zN o) (hb:qdQ b) (hu:upH s.e.hub):w8 s o b=(suS s o b,0):=by
 unfold w8 qiT
 rw [if_pos ⟨ho,hb⟩,if_pos (qId hu).1];rfl
theorem qMN {n:Nat} {s:Si} (h:okS n s) {o:Int} {b:BB} (ho:zN o) (hb:qdQ b) (hu:upH s.e.hub):okS (n+1) (suS s o b):=by
 have:=qFi h o b
 rwa [qlE ho hb hu] at this
theorem qp6 {n m:Nat} {X r y:Si} {a:En'} (ha:okE n a) (hr:okS m r) {l:List qPc} {c:Int} {o:Int} {b:BB} (hX:X.e.out=l++[(c,suF a o b,())]) (hl:l.length≤900000) (hp:X.p.2.1.length≤900000) (hm:(qiV a.key,qT (setV a o b),())∈X.p.2.1) (hid:r.e.id=1 - a.id) (hkey:r.e.key=a.key) (h7:¬ r.e.ph=7∧¬ r.e.ph=8) (ho:zN o) (hb:qdQ b) {k:jT} (hk:rdN b=(k,0,()))
  (hy:xM ((⟨r.e,X.p⟩:Si).t,kR (setV a o b) (kN (qiV a.key) (qT (setV a o b))),k,())=some (y.t,())) :
  zD (X.t,r.t,())=some ((⟨X.e,y.p⟩:Si).t,y.t,true,()):=by
 have ht:=qOd (p:=X.p) ha hr.e hp hid hkey h7 ho hb hm
 unfold suF at hX
 generalize hx:qT (setV a o b)++kN (qiV a.key) (qT (setV a o b))=x at ht hX
 have hxl:x.length=46+b.length:=by rw [← hx,List.length_append,qb3,j6,show (setV a o b).2.2.2.2.2.1=b from rfl];omega
 have hb1:=hb.1
 have hb2:=hb.2
 unfold zD
 dsimp only
 rw [show X.t.1.2.2.2.2.2.2.2.2.2.2.2.2.2.2.2.2.1=X.e.out from rfl,hX]
 have e1:i64 (isub (len (l++[(c,kY x,())])) 1)=(l.length:Int):=i64n (by show (((l++[_]).length:Nat):Int) - 1=_;rw [List.length_append,List.length_singleton];omega) (by omega)
 rw [e1]
 refine (qB (vX (by show ¬ (((l++[_]).length:Nat):Int)=0;rw [List.length_append,List.length_singleton];omega))).trans ((qH (by simp only [go_sem,Int.reduceToNat];simp;omega)).trans ?_)
 rw [show nth (l++[(c,kY x,())]) (nat (l.length:Int)) (0,none' UInt8,())=(c,kY x,()) by rw [qP,qL (by simp)];simp]
 dsimp only
 rw [qNv x (by omega)]
 refine (qF rfl).trans ?_
 dsimp only
 refine (qF (show qfP ((r.e.t,X.p,()),x,())=_ from ht)).trans ?_
 dsimp only
 rw [show (kR (setV a o b) (kN (qiV a.key) (qT (setV a o b)))).2.2.2.2.2.1=b from rfl,qvQ _ (by omega),hk]
 refine (qF rfl).trans ?_
 dsimp only
 refine (qF (a:=(false,())) rfl).trans ((qB rfl).trans ?_)
 exact (zZ hy).trans rfl
def qOI (e:En') (own oth:Int):En':={ e with own:=own,oth:=oth,seen:=maxI e.seen oth,ring:=(newR (keyD e.key (qb7 { e with own:=own,oth:=oth }) 1 [])).1 }
def qFr (s:Si) (own oth:Int):Si:=⟨qOI s.e own oth,s.p⟩
theorem qK3 (k:BB):qoQ (newR k).1:=by
 unfold newR
 split
 ·rename_i h
  exact qK2 h
 ·exact .inl rfl
theorem quC {n:Nat} {s:Si} (h:okS n s) {a b:Int} (ha:zN a) (hb:zN b):okS n (qFr s a b):=⟨{ h.e with own:=ha,oth:=hb,ring:=qK3 _ },h.p⟩
theorem qi5 {s:Si} {n:Nat} (hs:okS n s) (a b:Int):qcC (s.t,a,b,())=some ((qFr s a b).t,()):=by
 have hk:=hs.e.key
 unfold qcC
 dsimp only
 rw [show xS ((s.t.1.1,s.t.1.2.1,s.t.1.2.2.1,s.t.1.2.2.2.1,s.t.1.2.2.2.2.1,a,b,maxI s.t.1.2.2.2.2.2.2.2.1 b,s.t.1.2.2.2.2.2.2.2.2),())=_ from kZ { s.e with own:=a,oth:=b,seen:=maxI s.e.seen b }]
 refine (qF rfl).trans ?_
 dsimp only
 rw [show qpD (s.t.1.2.1,qb7 { s.e with own:=a,oth:=b,seen:=maxI s.e.seen b },1,none' UInt8,())=_ from qB6 s.e.key (qb7 { s.e with own:=a,oth:=b,seen:=maxI s.e.seen b }) 1 [] (by omega) (by simp)]
 refine (qF rfl).trans ?_
 dsimp only
 rw [qBR]
 rfl
theorem qmM {s:Si} {n:Nat} (hs:okS n s) (hn:n≤900000) (q:jT) (x:Int):qi3 (s.t,q,x,())=some ((w8 s x (qcX q 0)).1.t,()):=by
 unfold qi3
 dsimp only
 rw [qbW]
 refine (qF rfl).trans ?_
 rw [qdM]
 refine (qF rfl).trans ?_
 exact (zZ (qkF hs hn x (qcX q 0))).trans rfl
theorem qyC {s:Si} {n:Nat} (hs:okS n s) (hn:n≤800000) (h0:s.e.ph=0) {x:Int} (hx:¬ x≤s.e.seen) (hx2:zN x) (he:(z1 s).2.2=0) (q:jT):qcD (s.t,q,x,())=some ((w8 (qFr (qbI (z1 s).1 2) (z1 s).2.1 x) x (qcX q 0)).1.t,()):=by
 have h1:=qbG (qf5 hs) (p:=2) (by omega) (by omega)
 have h2:=quC h1 (qKu he) hx2
 unfold qcD
 dsimp only
 rw [show s.t.1.2.2.1=s.e.ph from rfl,h0]
 refine (qF (a:=(false,())) rfl).trans ((qB rfl).trans ?_)
 rw [kH,D_f (show ¬ jC 0 by unfold jC;omega)]
 refine (qF rfl).trans ((qF (a:=(false,())) rfl).trans ((qB rfl).trans ?_))
 refine (qB (le_f (show ¬ x≤s.e.seen from hx))).trans ?_
 rw [qi7 hs (by omega)]
 refine (qF rfl).trans ((qC (kM he)).trans ?_)
 dsimp only
 rw [xK (qf5 hs) (by omega)]
 refine (qF rfl).trans ?_
 dsimp only
 rw [qi5 h1]
 refine (qF rfl).trans ?_
 exact (zZ (qmM h2 (by omega) q x)).trans rfl
theorem qs4 {s:Si} {n:Nat} (hs:okS n s) (hn:n≤800000) (h0:s.e.ph=2) {x:Int} (hx:s.e.oth=x) (q:jT):qcD (s.t,q,x,())=some ((w8 s x (qcX q 0)).1.t,()):=by
 unfold qcD
 dsimp only
 rw [show s.t.1.2.2.1=s.e.ph from rfl,h0]
 refine (qF (a:=(false,())) rfl).trans ((qB rfl).trans ?_)
 rw [kH,D_t (show jC 2 by unfold jC;omega)]
 refine (qF rfl).trans ((qF (a:=(true,())) ?_).trans ((qC rfl).trans ?_))
 ·refine (qC rfl).trans ?_
  rw [show beq s.t.1.2.2.2.2.2.2.1 x=true from kM hx]
 ·exact (zZ (qmM hs (by omega) q x)).trans rfl
def qK9 (s:Si) (x:Int):Si:=qAy ⟨{ qOI s.e s.e.own x with ph:=3,ask:=noA },s.p⟩ 4
theorem qJ3 {n:Nat} {s:Si} (h:okS n s) {x:Int} (hx:zN x):okS (n+1) (qK9 s x):=by
 have h1:=quC h h.e.own hx
 exact qwK (s:=⟨{ qOI s.e s.e.own x with ph:=3,ask:=noA },s.p⟩) ⟨{ h1.e with ph:=⟨by show (0:Int)≤3;omega,by show (3:Int)≤8;omega⟩ },h1.p⟩ 4
theorem qn9 {s:Si} {n:Nat} (hs:okS n s) (hn:n≤800000) (h1:s.e.ph=1) {x:Int} (hx:zN x):qb0 (s.t,x,())=some ((kP (qK9 s x) (qfA 301)).t,()):=by
 have hm:=quC hs hs.e.own hx
 have ho:=qJ3 hs hx
 unfold qb0
 dsimp only
 rw [show qcC (s.t,s.t.1.2.2.2.2.2.1,x,())=_ from qi5 hs s.e.own x]
 refine (qF rfl).trans ?_
 dsimp only
 rw [show qcT ((qFr s s.e.own x).t,1,())=some ((phS (qFr s s.e.own x) 3).t,()) by
  unfold qcT
  dsimp only
  rw [show (qFr s s.e.own x).t.1.2.2.1=s.e.ph from rfl,h1];rfl]
 refine (qF rfl).trans ?_
 dsimp only
 have hk:okS n (⟨{ qOI s.e s.e.own x with ph:=3,ask:=noA },s.p⟩:Si):=⟨{ hm.e with ph:=⟨by show (0:Int)≤3;omega,by show (3:Int)≤8;omega⟩ },hm.p⟩
 refine (zZ (qi6 hk (by omega) 4)).trans ((qF rfl).trans ?_)
 exact (zZ (qa5 ho (by omega) 301)).trans rfl
end Yp
namespace Yp
open Go
set_option maxRecDepth 100000
set_option maxHeartbeats 2000000
set_option linter.unusedSectionVars false
def kz:BB:=rep 32 (u8 0)
def z0 (i:Int) (st:ST):Si:=⟨⟨i,kz,0,st, -1,0,0,0,0,noW,noR,noA,0,0,[],hub1,[],[],[0,0,0,0]⟩,(true,[],false,())⟩
theorem qME:qcK ()=some ((z0 0 newS).t,(z0 1 newS).t,()):=by
 unfold qcK
 rw [qRL]
 refine (qF rfl).trans ((qH rfl).trans ?_)
 rw [qyZ]
 refine (qF rfl).trans ?_
 exact (qF (o:=qv7 _) rfl).trans rfl
theorem qFh {i:Int} (hi:i=0∨i=1) {st:ST} (h:jR st):okS 0 (z0 i st) where
 e:={
  id:=hi
  key:=by show (List.replicate 32 (u8 0)).length≤1000;rw [List.length_replicate];omega
  ph:=⟨by show (0:Int)≤0;omega,by show (0:Int)≤8;omega⟩
  store:=h
  own:=by show zN 0;decide
  oth:=by show zN 0;decide
  seq:=by show zN 0;decide
  ring := .inl rfl
  up:=rfl
  next:=by show (0:Int)≤0∧(0:Int) < 4;omega
  out:=Nat.le_refl _
  got:=Nat.le_refl _
  cnt:=rfl
  win:=rfl
  feed:=rfl
  life:=rfl
  queue:=by show ([]:List BB).length≤1000;simp }
 p:=Nat.le_refl _
theorem quY {s t:ST} {c k:Int} (e:xC s c=(t,k,0,())) (h:jR s):jR t:=by
 rcases qgJ s c with q | q | ⟨u,q,hu⟩ | ⟨u,q,hu⟩
 ·have:(0:Int)=12:=congrArg (fun r:ST×Int×Int×Unit=>r.2.2.1) (e.symm.trans q)
  omega
 ·have:(0:Int)=10:=congrArg (fun r:ST×Int×Int×Unit=>r.2.2.1) (e.symm.trans q)
  omega
 ·have:(0:Int)=11:=congrArg (fun r:ST×Int×Int×Unit=>r.2.2.1) (e.symm.trans q)
  omega
 ·have:t=u:=congrArg Prod.fst (e.symm.trans q)
  rw [this];exact hu h
theorem qJA {s:ST} (h1:(zG s).2.2.1=true) (h2:¬ (zG s).1=4611686018427387904):∃ t,xC s (-1)=(t,(zG s).1,0,()):=by
 unfold xC
 rw [if_neg (by rw [h1];intro h;cases h),if_neg h2]
 dsimp only
 rw [if_neg (by decide:¬ qaS (-1) < 16)]
 exact ⟨_,rfl⟩
theorem qK4 {s:Si} {q:jT} (hr:jE (stN s q)) (h1:q.2.1=1):kP s q=(w8 (askS s q) 0 (yR (stN s q))).1:=by
 have e:wrN (q.1,q.2.1,yJ s.e.stan,q.2.2.2)=(yR (stN s q),0,()):=qN9 hr
 unfold kP
 rw [e,qGP hr,qC6 hr,if_pos ⟨rfl,rfl⟩,if_pos h1]
theorem qn3 {s:Si} {c:Int} (hc:c=1∨c=2):jE (stN s (qfA c)):=by
 have h:=quZ s.e.stan
 refine ⟨?_,h.1,h.2,by show (0:Int)≤0;omega,by show (0:Int)≤99;omega,fun _=>rfl, ?_⟩
 ·rcases hc with rfl | rfl
  ·exact .inl rfl
  ·exact .inr (.inl rfl)
 unfold qwS
 rw [if_neg (fun q=>absurd q.2 (by show ¬ c=101;omega))]
 refine ⟨rfl,rfl,rfl, ?_⟩
 rw [if_neg (fun q=>absurd q.2 (by show ¬ c=201;omega))];rfl
def qOn:jT:=(true,1,1,0,0,[],[],0,())
def s1 (i:Int) (one t1:ST) (n:Int):Si:=askS (ownZ (qbI (stP (z0 i one) t1) 1) n) (qfA 1)
def mA1 (i:Int) (one t1:ST) (n:Int):Si:=suS (s1 i one t1 n) 0 (yR qOn)
def s2 (j:Int) (two t2:ST) (m n:Int) (p:xX):Si:=qFr (qbI (stP ⟨(z0 j two).e,p⟩ t2) 2) m n
def aN:jT:=ackN qOn 0
def mB1 (j:Int) (two t2:ST) (m n:Int) (p:xX):Si:=suS (s2 j two t2 m n p) n (yR aN)
def mB2 (j:Int) (two t2:ST) (m n:Int) (p q:xX):Si:=suS ⟨(mB1 j two t2 m n p).e,q⟩ n (yR aN)
def mA2 (i:Int) (one t1:ST) (n m:Int) (p:xX):Si:=qOh (askS (qK9 ⟨(mA1 i one t1 n).e,p⟩ m) (qfA 301)) (yR (stN (qK9 ⟨(mA1 i one t1 n).e,p⟩ m) (qfA 301)))
theorem qbF:jE qOn:=qn3 (s:=z0 0 newS) (c:=1) (.inl rfl)
theorem qh9:jE aN:=qAI qbF (by omega) (by omega)
theorem qJN:qcX qOn 0=yR aN:=qMt qbF rfl (by omega) (by omega)
theorem num0:zN 0:=by decide
section
variable {i : Int} (hi : i = 0 ∨ i = 1) {one two t1 t2 : ST} {n m : Int} (h1 : jR one) (h2 : jR two) (e1 : xC one (-1) = (t1, n, 0, ())) (e2 : xC two (-1) = (t2, m, 0, ())) (hn : v9 n) (hm : v9 m)
include hi h1 e1 hn
theorem qMP:okS 1 (s1 i one t1 n):=qQl (qMQ (qbG (qIi (qFh hi h1) (quY e1 h1)) (by omega) (by omega)) (by unfold v9 at hn;unfold zN;omega)) _
theorem on1:onS (z0 i one)=(mA1 i one t1 n,0):=by
 have he:z1 (z0 i one)=(stP (z0 i one) t1,n,0):=by
  unfold z1
  rw [show xC (z0 i one).e.store (z0 i one).e.power=_ from e1];rfl
 unfold onS
 rw [if_neg (by rintro (h | h) <;> exact absurd (show (0:Int)=_ from h) (by decide)),he,if_neg (not_not_intro rfl)]
 refine Prod.ext ?_ rfl
 show kP (ownZ (qbI (stP (z0 i one) t1) 1) n) (qfA 1)=_
 rw [qK4 (qn3 (.inl rfl)) rfl]
 exact congrArg Prod.fst (qlE (s:=s1 i one t1 n) num0 (vN qbF) qLS)
theorem qeV:okS 2 (mA1 i one t1 n):=qMN (qMP hi h1 e1 hn) num0 (vN qbF) qLS
omit h1 e1 in
theorem qzA:zN n:=by unfold v9 at hn;unfold zN;omega
include h2 e2 hm
theorem epo2 (p:xX):z1 ⟨(z0 (1 - i) two).e,p⟩=(stP ⟨(z0 (1 - i) two).e,p⟩ t2,m,0):=by
 unfold z1
 rw [show xC (⟨(z0 (1 - i) two).e,p⟩:Si).e.store (⟨(z0 (1 - i) two).e,p⟩:Si).e.power=_ from e2];rfl
theorem qMO {k:Nat} {p:xX} (hp:p.2.1.length≤k):okS (k+1) (s2 (1 - i) two t2 m n p):=quC (qbG (qIi (s:=⟨(z0 (1 - i) two).e,p⟩) ⟨wN (qFh (i:=1 - i) (by omega) h2).e (Nat.zero_le k),hp⟩ (quY e2 h2)) (by omega) (by omega)) (qzA hi hm) (qzA hi hn)
theorem qj4 {k:Nat} {p:xX} (hp:p.2.1.length≤k):okS (k+2) (mB1 (1 - i) two t2 m n p):=qMN (qMO hi h1 h2 e1 e2 hn hm hp) (qzA hi hn) (vN qh9) qLS
theorem qSj {k:Nat} (hk:k≤100) {p:xX} (hp:p.2.1.length≤k) (t:BB):xM ((⟨(z0 (1 - i) two).e,p⟩:Si).t,kR (setV (s1 i one t1 n).e 0 (yR qOn)) t,qOn,())=some ((mB1 (1 - i) two t2 m n p).t,()):=by
 have he:=epo2 hi h1 h2 e1 e2 hn hm p
 have hok:okS k (⟨(z0 (1 - i) two).e,p⟩:Si):=⟨wN (qFh (i:=1 - i) (by omega) h2).e (Nat.zero_le k),hp⟩
 have hn1:1≤n:=hn.1
 have ha:=qyC hok (by omega) rfl (x:=n) (by show ¬ n≤0;omega) (qzA hi hn) (by rw [he]) qOn
 rw [he,qJN,show (w8 (qFr (qbI (stP ⟨(z0 (1 - i) two).e,p⟩ t2) 2) m n) n (yR aN))=_ from qlE (s:=s2 (1 - i) two t2 m n p) (qzA hi hn) (vN qh9) qLS] at ha
 unfold xM
 dsimp only
 rcases hi with rfl | rfl
 ·refine (qH rfl).trans ((qH rfl).trans ?_)
  refine (qF (a:=(false,())) ?_).trans ((qB rfl).trans ?_)
  ·refine (qB rfl).trans ?_
   show some (lt n 1,())=some (false,())
   rw [lt_f (by omega)]
  refine (qF (a:=(true,())) (qC rfl)).trans ((qC rfl).trans ?_)
  exact (zZ ha).trans rfl
 ·refine (qH rfl).trans ((qH rfl).trans ?_)
  refine (qF (a:=(false,())) ?_).trans ((qB rfl).trans ?_)
  ·refine (qB rfl).trans ?_
   show some (lt n 1,())=some (false,())
   rw [lt_f (by omega)]
  refine (qF (a:=(true,())) (qC rfl)).trans ((qC rfl).trans ?_)
  exact (zZ ha).trans rfl
theorem qSi {k:Nat} (hk:k≤100) {p q:xX} (hp:p.2.1.length≤k) (hq:q.2.1.length≤k) (t:BB):xM ((⟨(mB1 (1 - i) two t2 m n p).e,q⟩:Si).t,kR (setV (s1 i one t1 n).e 0 (yR qOn)) t,qOn,())=some ((mB2 (1 - i) two t2 m n p q).t,()):=by
 have hok:okS (k+2) (⟨(mB1 (1 - i) two t2 m n p).e,q⟩:Si):=⟨(qj4 hi h1 h2 e1 e2 hn hm hp).e,Nat.le_trans hq (by omega)⟩
 have hn1:1≤n:=hn.1
 have ha:=qs4 hok (by omega) rfl (x:=n) rfl qOn
 rw [qJN,qlE (s:=⟨(mB1 (1 - i) two t2 m n p).e,q⟩) (qzA hi hn) (vN qh9) qPR] at ha
 unfold xM
 dsimp only
 rcases hi with rfl | rfl
 ·refine (qH rfl).trans ((qH rfl).trans ?_)
  refine (qF (a:=(false,())) ?_).trans ((qB rfl).trans ?_)
  ·refine (qB rfl).trans ?_
   show some (lt n 1,())=some (false,())
   rw [lt_f (by omega)]
  refine (qF (a:=(true,())) (qC rfl)).trans ((qC rfl).trans ?_)
  exact (zZ ha).trans rfl
 ·refine (qH rfl).trans ((qH rfl).trans ?_)
  refine (qF (a:=(false,())) ?_).trans ((qB rfl).trans ?_)
  ·refine (qB rfl).trans ?_
   show some (lt n 1,())=some (false,())
   rw [lt_f (by omega)]
  refine (qF (a:=(true,())) (qC rfl)).trans ((qC rfl).trans ?_)
  exact (zZ ha).trans rfl
theorem qMR {k:Nat} {p:xX} (hp:p.2.1.length≤k):okS (k+3) (qK9 ⟨(mA1 i one t1 n).e,p⟩ m):=qJ3 (s:=⟨(mA1 i one t1 n).e,p⟩) (n:=k+2) ⟨wN (qeV hi h1 e1 hn).e (by omega),Nat.le_trans hp (by omega)⟩ (qzA hi hm)
theorem qPx (p:xX):kP (qK9 ⟨(mA1 i one t1 n).e,p⟩ m) (qfA 301)=mA2 i one t1 n m p:=qE9 qIH (by show ¬ (301:Int)=1;omega) (by show jC 3;unfold jC;omega) (by show (0:Int)≤900000;omega) qPR
theorem qwJ {k:Nat} {p:xX} (hp:p.2.1.length≤k):okS (k+4) (mA2 i one t1 n m p):=by
 have:=qj3 (qMR hi h1 h2 e1 e2 hn hm hp) (qfA 301)
 rwa [qPx hi h1 h2 e1 e2 hn hm] at this
theorem qSh {k:Nat} (hk:k≤100) {p q:xX} (hp:p.2.1.length≤k) (t:BB):xM ((⟨(mA1 i one t1 n).e,p⟩:Si).t,kR (setV (s2 (1 - i) two t2 m n q).e n (yR aN)) t,aN,())=some ((mA2 i one t1 n m p).t,()):=by
 have hok:okS (k+2) (⟨(mA1 i one t1 n).e,p⟩:Si):=⟨wN (qeV hi h1 e1 hn).e (by omega),Nat.le_trans hp (by omega)⟩
 have hm1:1≤m:=hm.1
 have ha:=qn9 hok (by omega) rfl (x:=m) (qzA hi hm)
 rw [qPx hi h1 h2 e1 e2 hn hm] at ha
 have hmt:qdZ ((mA1 i one t1 n).e.ask,1,1,())=some (true,()):=by
  rw [qnF,D_t]
  refine ⟨fun h => ?_,rfl,rfl⟩
  have:(1:Int)=0:=congrArg Prod.fst h
  omega
 unfold xM
 dsimp only
 rcases hi with rfl | rfl
 ·refine (qH rfl).trans ((qH rfl).trans ?_)
  refine (qF (a:=(false,())) ?_).trans ((qB rfl).trans ?_)
  ·refine (qB rfl).trans ?_
   show some (lt m 1,())=some (false,())
   rw [lt_f (by omega)]
  refine (qF (a:=(false,())) (qB rfl)).trans ((qB rfl).trans ?_)
  refine (qF (a:=(true,())) ?_).trans ((qC rfl).trans ?_)
  ·refine (qC rfl).trans ((qC rfl).trans ((qC rfl).trans ((qC (kM rfl)).trans ?_)))
   exact (zZ hmt).trans rfl
  exact (zZ ha).trans rfl
 ·refine (qH rfl).trans ((qH rfl).trans ?_)
  refine (qF (a:=(false,())) ?_).trans ((qB rfl).trans ?_)
  ·refine (qB rfl).trans ?_
   show some (lt m 1,())=some (false,())
   rw [lt_f (by omega)]
  refine (qF (a:=(false,())) (qB rfl)).trans ((qB rfl).trans ?_)
  refine (qF (a:=(true,())) ?_).trans ((qC rfl).trans ?_)
  ·refine (qC rfl).trans ((qC rfl).trans ((qC rfl).trans ((qC (kM rfl)).trans ?_)))
   exact (zZ hmt).trans rfl
  exact (zZ ha).trans rfl
theorem qSg {p p' q:xX} (t:BB):xM ((⟨(mA2 i one t1 n m p).e,p'⟩:Si).t,kR (setV (s2 (1 - i) two t2 m n q).e n (yR aN)) t,aN,())=some ((w9 ⟨(mA2 i one t1 n m p).e,p'⟩ 3).t,()):=by
 have hm1:1≤m:=hm.1
 have ha:=qi4 ⟨(mA2 i one t1 n m p).e,p'⟩
 unfold xM
 dsimp only
 rcases hi with rfl | rfl
 ·refine (qH rfl).trans ((qH rfl).trans ?_)
  refine (qF (a:=(false,())) ?_).trans ((qB rfl).trans ?_)
  ·refine (qB rfl).trans ?_
   show some (lt m 1,())=some (false,())
   rw [lt_f (by omega)]
  refine (qF (a:=(false,())) (qB rfl)).trans ((qB rfl).trans ?_)
  refine (qF (a:=(false,())) ?_).trans ((qB rfl).trans ?_)
  ·exact (qC rfl).trans ((qC rfl).trans (qB rfl))
  exact (zZ ha).trans rfl
 ·refine (qH rfl).trans ((qH rfl).trans ?_)
  refine (qF (a:=(false,())) ?_).trans ((qB rfl).trans ?_)
  ·refine (qB rfl).trans ?_
   show some (lt m 1,())=some (false,())
   rw [lt_f (by omega)]
  refine (qF (a:=(false,())) (qB rfl)).trans ((qB rfl).trans ?_)
  refine (qF (a:=(false,())) ?_).trans ((qB rfl).trans ?_)
  ·exact (qC rfl).trans ((qC rfl).trans (qB rfl))
  exact (zZ ha).trans rfl
end
end Yp
namespace Yp
open Go
set_option maxRecDepth 100000
set_option maxHeartbeats 1000000
set_option linter.unusedSectionVars false
section
variable {i : Int} (hi : i = 0 ∨ i = 1) {one two t1 t2 : ST} {n m : Int} (h1 : jR one) (h2 : jR two) (e1 : xC one (-1) = (t1, n, 0, ())) (e2 : xC two (-1) = (t2, m, 0, ())) (hn : v9 n) (hm : v9 m)
include hi h1 h2 e1 e2 hn hm
theorem qQz:zD ((mA1 i one t1 n).t,(z0 (1 - i) two).t,())=some ((⟨(mA1 i one t1 n).e,(mB1 (1 - i) two t2 m n (mA1 i one t1 n).p).p⟩:Si).t,(mB1 (1 - i) two t2 m n (mA1 i one t1 n).p).t,true,()):=by
 have oA:=qeV hi h1 e1 hn
 have hp:=oA.p
 exact qp6 (X:=mA1 i one t1 n) (a:=(s1 i one t1 n).e) (qMP hi h1 e1 hn).e (qFh (i:=1 - i) (by omega) h2) (l:=[]) (c:=(kX hub1).2.1) (o:=0) (b:=yR qOn) rfl (by simp) (by omega) (quE _ _ _) rfl rfl ⟨by show ¬ (0:Int)=7;omega,by show ¬ (0:Int)=8;omega⟩ num0 (vN qbF) (qp7 qbF) (qSj hi h1 h2 e1 e2 hn hm (by omega) hp _)
theorem qR5:zD ((⟨(mA1 i one t1 n).e,(mB1 (1 - i) two t2 m n (mA1 i one t1 n).p).p⟩:Si).t,(mB1 (1 - i) two t2 m n (mA1 i one t1 n).p).t,())=some ((⟨(mA1 i one t1 n).e,(mB2 (1 - i) two t2 m n (mA1 i one t1 n).p (mB1 (1 - i) two t2 m n (mA1 i one t1 n).p).p).p⟩:Si).t,(mB2 (1 - i) two t2 m n (mA1 i one t1 n).p (mB1 (1 - i) two t2 m n (mA1 i one t1 n).p).p).t,true,()):=by
 have oA:=qeV hi h1 e1 hn
 have oB:=qj4 hi h1 h2 e1 e2 hn hm oA.p
 have hp:=oB.p
 exact qp6 (X:=⟨(mA1 i one t1 n).e,(mB1 (1 - i) two t2 m n (mA1 i one t1 n).p).p⟩) (a:=(s1 i one t1 n).e) (qMP hi h1 e1 hn).e oB (l:=[]) (c:=(kX hub1).2.1) (o:=0) (b:=yR qOn) rfl (by simp) (Nat.le_trans hp (by omega)) (qFa (quE _ _ _)) rfl rfl ⟨by show ¬ (2:Int)=7;omega,by show ¬ (2:Int)=8;omega⟩ num0 (vN qbF) (qp7 qbF) (qSi hi h1 h2 e1 e2 hn hm (k:=10) (by omega) (Nat.le_trans oA.p (by omega)) (Nat.le_trans hp (by omega)) _)
theorem qQy:zD ((mB1 (1 - i) two t2 m n (mA1 i one t1 n).p).t,(⟨(mA1 i one t1 n).e,(mB1 (1 - i) two t2 m n (mA1 i one t1 n).p).p⟩:Si).t,())=some ((⟨(mB1 (1 - i) two t2 m n (mA1 i one t1 n).p).e,(mA2 i one t1 n m (mB1 (1 - i) two t2 m n (mA1 i one t1 n).p).p).p⟩:Si).t,(mA2 i one t1 n m (mB1 (1 - i) two t2 m n (mA1 i one t1 n).p).p).t,true,()):=by
 have oA:=qeV hi h1 e1 hn
 have oB:=qj4 hi h1 h2 e1 e2 hn hm oA.p
 have hp:=oB.p
 exact qp6 (X:=mB1 (1 - i) two t2 m n (mA1 i one t1 n).p) (r:=⟨(mA1 i one t1 n).e,(mB1 (1 - i) two t2 m n (mA1 i one t1 n).p).p⟩) (a:=(s2 (1 - i) two t2 m n (mA1 i one t1 n).p).e) (qMO hi h1 h2 e1 e2 hn hm oA.p).e (m:=10) ⟨wN oA.e (by omega),Nat.le_trans hp (by omega)⟩ (l:=[]) (c:=(kX hub1).2.1) (o:=n) (b:=yR aN) rfl (by simp) (Nat.le_trans hp (by omega)) (quE _ _ _) (by show i=1 - (1 - i);omega) rfl ⟨by show ¬ (1:Int)=7;omega,by show ¬ (1:Int)=8;omega⟩ (qzA hi hn) (vN qh9) (qp7 qh9) (qSh hi h1 h2 e1 e2 hn hm (k:=10) (by omega) (Nat.le_trans hp (by omega)) _)
theorem qR4:zD ((⟨(mB1 (1 - i) two t2 m n (mA1 i one t1 n).p).e,(mA2 i one t1 n m (mB1 (1 - i) two t2 m n (mA1 i one t1 n).p).p).p⟩:Si).t,(mA2 i one t1 n m (mB1 (1 - i) two t2 m n (mA1 i one t1 n).p).p).t,())=some ((⟨(mB1 (1 - i) two t2 m n (mA1 i one t1 n).p).e,(mA2 i one t1 n m (mB1 (1 - i) two t2 m n (mA1 i one t1 n).p).p).p⟩:Si).t,(w9 ⟨(mA2 i one t1 n m (mB1 (1 - i) two t2 m n (mA1 i one t1 n).p).p).e,(mA2 i one t1 n m (mB1 (1 - i) two t2 m n (mA1 i one t1 n).p).p).p⟩ 3).t,true,()):=by
 have oA:=qeV hi h1 e1 hn
 have oB:=qj4 hi h1 h2 e1 e2 hn hm oA.p
 have oC:=qwJ hi h1 h2 e1 e2 hn hm oB.p
 have hp:=oC.p
 exact qp6 (X:=⟨(mB1 (1 - i) two t2 m n (mA1 i one t1 n).p).e,(mA2 i one t1 n m (mB1 (1 - i) two t2 m n (mA1 i one t1 n).p).p).p⟩) (y:=w9 ⟨(mA2 i one t1 n m (mB1 (1 - i) two t2 m n (mA1 i one t1 n).p).p).e,(mA2 i one t1 n m (mB1 (1 - i) two t2 m n (mA1 i one t1 n).p).p).p⟩ 3) (a:=(s2 (1 - i) two t2 m n (mA1 i one t1 n).p).e) (qMO hi h1 h2 e1 e2 hn hm oA.p).e oC (l:=[]) (c:=(kX hub1).2.1) (o:=n) (b:=yR aN) rfl (by simp) (Nat.le_trans hp (by omega)) (qFa (quE _ _ _)) (by show i=1 - (1 - i);omega) rfl ⟨by show ¬ (3:Int)=7;omega,by show ¬ (3:Int)=8;omega⟩ (qzA hi hn) (vN qh9) (qp7 qh9) (qSg hi h1 h2 e1 e2 hn hm _)
theorem qIk:okS 10 (⟨(mB1 (1 - i) two t2 m n (mA1 i one t1 n).p).e,(mA2 i one t1 n m (mB1 (1 - i) two t2 m n (mA1 i one t1 n).p).p).p⟩:Si):=by
 have oA:=qeV hi h1 e1 hn
 have oB:=qj4 hi h1 h2 e1 e2 hn hm oA.p
 have oC:=qwJ hi h1 h2 e1 e2 hn hm oB.p
 have hp:=oC.p
 exact ⟨wN oB.e (by omega),Nat.le_trans hp (by omega)⟩
theorem qR3:yU ((⟨(mB1 (1 - i) two t2 m n (mA1 i one t1 n).p).e,(mA2 i one t1 n m (mB1 (1 - i) two t2 m n (mA1 i one t1 n).p).p).p⟩:Si).t,())=some ((qkM ⟨(mB1 (1 - i) two t2 m n (mA1 i one t1 n).p).e,(mA2 i one t1 n m (mB1 (1 - i) two t2 m n (mA1 i one t1 n).p).p).p⟩).t,()):=qcV (qIk hi h1 h2 e1 e2 hn hm) (by omega)
theorem qR2:(qkM ⟨(mB1 (1 - i) two t2 m n (mA1 i one t1 n).p).e,(mA2 i one t1 n m (mB1 (1 - i) two t2 m n (mA1 i one t1 n).p).p).p⟩).t.1.2.2.1=3:=by
 unfold qkM
 rw [if_pos (show (mB1 (1 - i) two t2 m n (mA1 i one t1 n).p).e.ph=2 from rfl)];rfl
end
theorem qmX (b:BB):qaK (b,())=some (vK b):=by
 by_cases hl:b.length=16
 ·exact qc6 b (by omega)
 ·unfold qaK vK
  dsimp only
  refine (qC (by simp only [go_sem,Int.reduceToNat];omega)).trans ?_
  rw [if_neg (fun h=>hl (by rw [← h.2.2,vB]))]
theorem qY (s:ST):xO (s,())=some (zG s):=by
 unfold xO zG
 dsimp only
 rw [qmX,qmX]
 generalize vK s.1=a
 generalize vK s.2.1=b
 obtain ⟨n,i,⟨⟩⟩:=a
 obtain ⟨m,j,⟨⟩⟩:=b
 by_cases h:n < m
 ·cases i <;> cases j <;> (simp (disch:=omega) only [go_sem,Int.reduceToNat];try simp [h])
 ·cases i <;> cases j <;> (simp (disch:=omega) only [go_sem,Int.reduceToNat];try simp [h])
theorem qQx {one two:ST} (first:Bool) (h1:jR one) (h2:jR two) (hb1:(zG one).2.2.1=true) (hb2:(zG two).2.2.1=true) (hl1:¬ (zG one).1=4611686018427387904) (hl2:¬ (zG two).1=4611686018427387904) (hsh:jQ ()=some (true,())):zR (one,two,first,())=some (true,()):=by
 unfold zR
 rw [hsh]
 refine (qF rfl).trans ?_
 dsimp only
 have q1:=h1.1
 have q2:=h1.2
 have q3:=h2.1
 have q4:=h2.2
 obtain ⟨t1,e1⟩:=qJA hb1 hl1
 obtain ⟨t2,e2⟩:=qJA hb2 hl2
 have hn:v9 (zG one).1:=qn2 hb1
 have hm:v9 (zG two).1:=qn2 hb2
 rw [qY one,qY two,qR,qR]
 refine (qF rfl).trans ((qF rfl).trans ((qF rfl).trans ?_))
 dsimp only
 refine (qF (a:=(false,())) ?_).trans ((qB rfl).trans ?_)
 ·rw [D_t h1,D_t h2,hb1,hb2,vX hl1,vX hl2];rfl
 rw [qME]
 refine (qF rfl).trans ?_
 dsimp only
 generalize (zG one).1=n at e1 hn
 generalize (zG two).1=m at e2 hm
 cases first
 ·refine (qC rfl).trans ?_
  rw [show qaC (((1,(z0 0 newS).t.1.2.1,(z0 0 newS).t.1.2.2.1,one,(z0 0 newS).t.1.2.2.2.2),(z0 0 newS).t.2),())=_ from yT (qFh (i:=1) (by omega) h1) (by omega),on1 (i:=1) (by omega) h1 e1 hn]
  refine (qF rfl).trans ((qB (bq_f rfl)).trans ?_)
  dsimp only
  have bA:=qQz (i:=1) (by omega) h1 h2 e1 e2 hn hm
  have bB:=qR5 (i:=1) (by omega) h1 h2 e1 e2 hn hm
  have bC:=qQy (i:=1) (by omega) h1 h2 e1 e2 hn hm
  have bD:=qR4 (i:=1) (by omega) h1 h2 e1 e2 hn hm
  have kB:=qj4 (i:=1) (by omega) h1 h2 e1 e2 hn hm (qeV (i:=1) (by omega) h1 e1 hn).p
  have kA:=qwJ (i:=1) (by omega) h1 h2 e1 e2 hn hm kB.p
  refine (qF (show zD _=_ from bA)).trans ?_
  dsimp only
  refine (qF (a:=(false,())) ?_).trans ((qB rfl).trans ?_)
  ·refine (qB rfl).trans ((qB (bq_f rfl)).trans ((qB (bq_f rfl)).trans ((qB (bq_f rfl)).trans ?_)))
   have hmx:maxI 0 n=n:=by
    have:=hn.1
    unfold maxI
    rw [if_pos (by omega)]
   rw [show bnot (beq (mB1 (1 - 1) two t2 m n (mA1 1 one t1 n).p).t.1.2.2.2.2.2.2.2.1 n)=false from bq_f hmx]
  rw [bB]
  refine (qF rfl).trans ?_
  dsimp only
  rw [bC]
  refine (qF rfl).trans ?_
  dsimp only
  rw [bD]
  refine (qF rfl).trans ?_
  dsimp only
  refine (qF (a:=(false,())) ?_).trans ((qB rfl).trans ?_)
  ·exact (qB rfl).trans ((qB rfl).trans ((qB rfl).trans rfl))
  refine (qF (a:=(true,())) ((qC rfl).trans ((qC rfl).trans ((qC (kM rfl)).trans ((qC (kM rfl)).trans ?_))))).trans rfl
  refine (qF (show vU ((mA2 1 one t1 n m (mB1 (1 - 1) two t2 m n (mA1 1 one t1 n).p).p).e.ring,(mA2 1 one t1 n m (mB1 (1 - 1) two t2 m n (mA1 1 one t1 n).p).p).e.ring,())=_ from wJ _)).trans ((qC rfl).trans ((qC (kM rfl)).trans ((qH rfl).trans ((qH rfl).trans ?_))))
  refine (qF (show zL (suF (s2 (1 - 1) two t2 m n (mA1 1 one t1 n).p).e n (yR aN),suF (s2 (1 - 1) two t2 m n (mA1 1 one t1 n).p).e n (yR aN),())=some (true,()) by rw [qX,qlF])).trans ((qC rfl).trans ?_)
  rw [show kV ((w9 ⟨(mA2 1 one t1 n m (mB1 (1 - 1) two t2 m n (mA1 1 one t1 n).p).p).e,(mA2 1 one t1 n m (mB1 (1 - 1) two t2 m n (mA1 1 one t1 n).p).p).p⟩ 3).t.1,())=_ from qa6 (w9 ⟨(mA2 1 one t1 n m (mB1 (1 - 1) two t2 m n (mA1 1 one t1 n).p).p).e,(mA2 1 one t1 n m (mB1 (1 - 1) two t2 m n (mA1 1 one t1 n).p).p).p⟩ 3).e,show kV ((mA2 1 one t1 n m (mB1 (1 - 1) two t2 m n (mA1 1 one t1 n).p).p).t.1,())=_ from qa6 (mA2 1 one t1 n m (mB1 (1 - 1) two t2 m n (mA1 1 one t1 n).p).p).e]
  refine (qF rfl).trans ((qF rfl).trans ?_)
  dsimp only
  refine (qF (show kE ((butE (mA2 1 one t1 n m (mB1 (1 - 1) two t2 m n (mA1 1 one t1 n).p).p).e).t,(butE (mA2 1 one t1 n m (mB1 (1 - 1) two t2 m n (mA1 1 one t1 n).p).p).e).t,())=_ from qu8 (qMX kA.e) (by omega))).trans ((qC rfl).trans ?_)
  rw [qR3 (i:=1) (by omega) h1 h2 e1 e2 hn hm]
  refine (qF rfl).trans ?_
  exact congrArg (fun b=>some (b,())) (kM (qR2 (i:=1) (by omega) h1 h2 e1 e2 hn hm))
 ·refine (qB rfl).trans ?_
  rw [show qaC ((((z0 0 newS).t.1.1,(z0 0 newS).t.1.2.1,(z0 0 newS).t.1.2.2.1,one,(z0 0 newS).t.1.2.2.2.2),(z0 0 newS).t.2),())=_ from yT (qFh (i:=0) (by omega) h1) (by omega),on1 (i:=0) (by omega) h1 e1 hn]
  refine (qF rfl).trans ((qB (bq_f rfl)).trans ?_)
  dsimp only
  have bA:=qQz (i:=0) (by omega) h1 h2 e1 e2 hn hm
  have bB:=qR5 (i:=0) (by omega) h1 h2 e1 e2 hn hm
  have bC:=qQy (i:=0) (by omega) h1 h2 e1 e2 hn hm
  have bD:=qR4 (i:=0) (by omega) h1 h2 e1 e2 hn hm
  have kB:=qj4 (i:=0) (by omega) h1 h2 e1 e2 hn hm (qeV (i:=0) (by omega) h1 e1 hn).p
  have kA:=qwJ (i:=0) (by omega) h1 h2 e1 e2 hn hm kB.p
  refine (qF (show zD _=_ from bA)).trans ?_
  dsimp only
  refine (qF (a:=(false,())) ?_).trans ((qB rfl).trans ?_)
  ·refine (qB rfl).trans ((qB (bq_f rfl)).trans ((qB (bq_f rfl)).trans ((qB (bq_f rfl)).trans ?_)))
   have hmx:maxI 0 n=n:=by
    have:=hn.1
    unfold maxI
    rw [if_pos (by omega)]
   rw [show bnot (beq (mB1 (1 - 0) two t2 m n (mA1 0 one t1 n).p).t.1.2.2.2.2.2.2.2.1 n)=false from bq_f hmx]
  rw [bB]
  refine (qF rfl).trans ?_
  dsimp only
  rw [bC]
  refine (qF rfl).trans ?_
  dsimp only
  rw [bD]
  refine (qF rfl).trans ?_
  dsimp only
  refine (qF (a:=(false,())) ?_).trans ((qB rfl).trans ?_)
  ·exact (qB rfl).trans ((qB rfl).trans ((qB rfl).trans rfl))
  refine (qF (a:=(true,())) ((qC rfl).trans ((qC rfl).trans ((qC (kM rfl)).trans ((qC (kM rfl)).trans ?_))))).trans rfl
  refine (qF (show vU ((mA2 0 one t1 n m (mB1 (1 - 0) two t2 m n (mA1 0 one t1 n).p).p).e.ring,(mA2 0 one t1 n m (mB1 (1 - 0) two t2 m n (mA1 0 one t1 n).p).p).e.ring,())=_ from wJ _)).trans ((qC rfl).trans ((qC (kM rfl)).trans ((qH rfl).trans ((qH rfl).trans ?_))))
  refine (qF (show zL (suF (s2 (1 - 0) two t2 m n (mA1 0 one t1 n).p).e n (yR aN),suF (s2 (1 - 0) two t2 m n (mA1 0 one t1 n).p).e n (yR aN),())=some (true,()) by rw [qX,qlF])).trans ((qC rfl).trans ?_)
  rw [show kV ((w9 ⟨(mA2 0 one t1 n m (mB1 (1 - 0) two t2 m n (mA1 0 one t1 n).p).p).e,(mA2 0 one t1 n m (mB1 (1 - 0) two t2 m n (mA1 0 one t1 n).p).p).p⟩ 3).t.1,())=_ from qa6 (w9 ⟨(mA2 0 one t1 n m (mB1 (1 - 0) two t2 m n (mA1 0 one t1 n).p).p).e,(mA2 0 one t1 n m (mB1 (1 - 0) two t2 m n (mA1 0 one t1 n).p).p).p⟩ 3).e,show kV ((mA2 0 one t1 n m (mB1 (1 - 0) two t2 m n (mA1 0 one t1 n).p).p).t.1,())=_ from qa6 (mA2 0 one t1 n m (mB1 (1 - 0) two t2 m n (mA1 0 one t1 n).p).p).e]
  refine (qF rfl).trans ((qF rfl).trans ?_)
  dsimp only
  refine (qF (show kE ((butE (mA2 0 one t1 n m (mB1 (1 - 0) two t2 m n (mA1 0 one t1 n).p).p).e).t,(butE (mA2 0 one t1 n m (mB1 (1 - 0) two t2 m n (mA1 0 one t1 n).p).p).e).t,())=_ from qu8 (qMX kA.e) (by omega))).trans ((qC rfl).trans ?_)
  rw [qR3 (i:=0) (by omega) h1 h2 e1 e2 hn hm]
  refine (qF rfl).trans ?_
  exact congrArg (fun b=>some (b,())) (kM (qR2 (i:=0) (by omega) h1 h2 e1 e2 hn hm))
theorem qt0 (hsh:jQ ()=some (true,())) (one two:ST) (first:Bool):zR (one,two,first,())=some (true,()):=by
 by_cases h1:jR one
 ·by_cases h2:jR two
  ·by_cases h3:(zG one).2.2.1=true
   ·by_cases h4:(zG two).2.2.1=true
    ·by_cases h5:(zG one).1=4611686018427387904
     ·unfold zR
      rw [hsh]
      refine (qF rfl).trans ?_
      dsimp only
      rw [qY one,qY two,qR,qR]
      refine (qF rfl).trans ((qF rfl).trans ((qF rfl).trans ?_))
      dsimp only
      exact (qF (a:=(true,())) (by rw [D_t h1,D_t h2,h3,h4,kM h5];rfl)).trans (qC rfl)
     ·by_cases h6:(zG two).1=4611686018427387904
      ·unfold zR
       rw [hsh]
       refine (qF rfl).trans ?_
       dsimp only
       rw [qY one,qY two,qR,qR]
       refine (qF rfl).trans ((qF rfl).trans ((qF rfl).trans ?_))
       dsimp only
       exact (qF (a:=(true,())) (by rw [D_t h1,D_t h2,h3,h4,vX h5,kM h6];rfl)).trans (qC rfl)
      ·exact qQx first h1 h2 h3 h4 h5 h6 hsh
    ·unfold zR
     rw [hsh]
     refine (qF rfl).trans ?_
     dsimp only
     rw [qY one,qY two,qR,qR]
     refine (qF rfl).trans ((qF rfl).trans ((qF rfl).trans ?_))
     dsimp only
     exact (qF (a:=(true,())) (by rw [D_t h1,D_t h2,h3,show (zG two).2.2.1=false from by simpa using h4];rfl)).trans (qC rfl)
   ·unfold zR
    rw [hsh]
    refine (qF rfl).trans ?_
    dsimp only
    rw [qY one,qY two,qR,qR]
    refine (qF rfl).trans ((qF rfl).trans ((qF rfl).trans ?_))
    dsimp only
    exact (qF (a:=(true,())) (by rw [D_t h1,D_t h2,show (zG one).2.2.1=false from by simpa using h3];rfl)).trans (qC rfl)
  ·unfold zR
   rw [hsh]
   refine (qF rfl).trans ?_
   dsimp only
   rw [qY one,qY two,qR,qR]
   refine (qF rfl).trans ((qF rfl).trans ((qF rfl).trans ?_))
   dsimp only
   exact (qF (a:=(true,())) (by rw [D_t h1,D_f h2];rfl)).trans (qC rfl)
 ·unfold zR
  rw [hsh]
  refine (qF rfl).trans ?_
  dsimp only
  rw [qY one,qY two,qR,qR]
  refine (qF rfl).trans ((qF rfl).trans ((qF rfl).trans ?_))
  dsimp only
  exact (qF (a:=(true,())) (by rw [D_f h1];rfl)).trans (qC rfl)
end Yp
namespace Yp
open Go
set_option maxRecDepth 100000
set_option maxHeartbeats 4000000
theorem qkK {n:Int} (h:v9 n):vK (recD n)=(n,true,()):=by
 have ht:xJ (recD n) 0 8=(n,8,0,()):=by
  refine qz9 (b:=recD n) (A:=0) (W:=8) (n:=n) (by omega) (by omega) (by rw [vB];omega) (by have:=h.1;omega) ?_ h.2 ?_
  ·have:=h.2
   exact Int.lt_of_le_of_lt this (by decide)
  ·show ((recD n).drop 0).take 8=bigN 8 n
   unfold recD
   rw [List.drop_zero,List.take_append_of_le_length (by rw [qdY];omega),List.take_of_length_le (by rw [qdY];omega)]
   rfl
 unfold vK
 rw [ht,if_pos ⟨rfl,h,rfl⟩]
def zs16:BB:=List.replicate 16 (u8 0)
theorem qLj:vK zs16=(0,false,()):=by
 have h:(xJ zs16 0 8).1=0:=by decide
 unfold vK
 rw [if_neg]
 rintro ⟨-,h2, -⟩
 rw [h] at h2
 omega
theorem qO8:zG newS=(1,0,true,()):=by
 have h1:vK newS.1=(1,true,()):=qkK (n:=1) (by unfold v9;omega)
 have h2:vK newS.2.1=(0,false,()):=qLj
 unfold zG
 rw [h1,h2,if_neg]
 rintro ⟨h, -⟩
 cases h
def tN:ST:=(recD 1,qpE 1 (-1) zs16,())
theorem qa4:xC newS (-1)=(tN,1,0,()):=by
 unfold xC
 rw [qO8,if_neg (by intro h;cases h),if_neg (by decide)]
 dsimp only
 rw [if_neg (by decide),if_pos rfl];rfl
theorem qRd:(zG tN).2.2.1=true:=by
 have h1:vK tN.1=(1,true,()):=qkK (n:=1) (by unfold v9;omega)
 have e:tN.2.1=recD 2:=by
  show (recD (1+1)).take (qaS (-1)).toNat++zs16.drop (qaS (-1)).toNat=recD 2
  rw [show qaS (-1)=16 from rfl,show (16:Int).toNat=16 from rfl,List.take_of_length_le (by rw [vB];omega),List.drop_of_length_le (by show (List.replicate 16 (u8 0)).length≤16;rw [List.length_replicate];omega),List.append_nil]
  rfl
 have h2:vK tN.2.1=(2,true,()):=by rw [e];exact qkK (n:=2) (by unfold v9;omega)
 unfold zG
 rw [h1,h2]
 rfl
def xB:Si:=mB1 1 newS tN 1 1 (mA1 0 newS tN 1).p
def xA:Si:=mA2 0 newS tN 1 1 xB.p
def x4:Si:=qAy (phS ⟨xB.e,xA.p⟩ 3) 4
def x6:Si:=qOh (askS (qFX x4) (qfA 2)) (yR (stN (qFX x4) (qfA 2)))
theorem v7:jR newS:=⟨vB 1,List.length_replicate ..⟩
theorem ep1:v9 1:=by unfold v9;omega
theorem qPq:okS 4 xB:=qj4 (i:=0) (.inl rfl) v7 v7 qa4 qa4 ep1 ep1 (qeV (i:=0) (.inl rfl) v7 qa4 ep1).p
theorem qPr:okS 8 xA:=qwJ (i:=0) (.inl rfl) v7 v7 qa4 qa4 ep1 ep1 qPq.p
theorem qPs:okS 10 ⟨xB.e,xA.p⟩:=⟨wN qPq.e (by omega),Nat.le_trans qPr.p (by omega)⟩
theorem qMM:okS 11 x4:=qwK (qAi qPs (by omega) (by omega)) 4
theorem qQW:qkM ⟨xB.e,xA.p⟩=x4:=by
 unfold qkM
 rw [if_pos (show (⟨xB.e,xA.p⟩:Si).e.ph=2 from rfl)];rfl
theorem qSu:byeS x4=(x6,0):=by
 unfold byeS
 rw [if_neg (by rintro (h | h | h) <;> exact absurd h (by show ¬ (3:Int)=_;decide)),if_neg (by show ¬ (3:Int)=6;decide),if_neg (by rintro (h | h) <;> exact absurd h (by show ¬ (3:Int)=_;decide))]
 refine Prod.ext ?_ rfl
 exact qE9 (s:=qFX x4) (qn3 (.inr rfl)) (by show ¬ (2:Int)=1;omega) (by show jC 6;unfold jC;omega) (by show (0:Int)≤900000;omega) qPR
theorem qML:okS 12 x6:=by
 have:=qMW qMM
 rwa [qSu] at this
theorem qAP:jQ ()=some (true,()):=by
 unfold jQ
 rw [qME]
 refine (qF rfl).trans ?_
 dsimp only
 have i0:(0:Int)=0∨(0:Int)=1 := .inl rfl
 rw [yT (qFh i0 v7) (by omega),on1 i0 v7 qa4 ep1]
 refine (qF rfl).trans ?_
 dsimp only
 refine (qF (a:=(false,())) rfl).trans ((qB rfl).trans ?_)
 refine (qF (show zD ((mA1 0 newS tN 1).t,(z0 1 newS).t,())=some ((⟨(mA1 0 newS tN 1).e,xB.p⟩:Si).t,xB.t,true,()) from qQz i0 v7 v7 qa4 qa4 ep1 ep1)).trans ?_
 dsimp only
 refine (qF (a:=(false,())) rfl).trans ((qB rfl).trans ?_)
 refine (qF (show zD (xB.t,(⟨(mA1 0 newS tN 1).e,xB.p⟩:Si).t,())=some ((⟨xB.e,xA.p⟩:Si).t,xA.t,true,()) from qQy i0 v7 v7 qa4 qa4 ep1 ep1)).trans ?_
 dsimp only
 rw [qcV qPs (by omega),qQW]
 refine (qF rfl).trans ?_
 dsimp only
 rw [qmN qPr (by omega),show qzM xA=(xA,9) by
  unfold qzM
  rw [if_neg (not_not_intro (show qpJ xA.e.ph from .inl rfl)),if_pos (show ¬ xA.e.ask.1=0 from fun h=>absurd (show (301:Int)=0 from h) (by omega))]]
 refine (qF rfl).trans ?_
 dsimp only
 rw [qoA qMM (by omega),qSu]
 refine (qF rfl).trans ?_
 dsimp only
 have hc:xW x6=⟨qzP x6.e,x6.p⟩:=by
  unfold xW
  rw [if_neg (show ¬ x6.e.ph=8 from fun h=>absurd (show (6:Int)=8 from h) (by omega))]
 have okc:=qj5 qML
 rw [wE qML (by omega)]
 rw [hc] at okc ⊢
 refine (qF rfl).trans ?_
 dsimp only
 have hb:qiU ⟨qzP x6.e,x6.p⟩=phS ⟨qzP x6.e,x6.p⟩ 0:=by
  unfold qiU
  rw [if_pos (show (⟨qzP x6.e,x6.p⟩:Si).e.ph=8 from rfl),if_pos (show (zG (⟨qzP x6.e,x6.p⟩:Si).e.store).2.2.1=true from qRd)]
 rw [qeN okc,hb]
 refine (qF rfl).trans ?_
 dsimp only
 have ho:onS ⟨qzP x6.e,x6.p⟩=(⟨qzP x6.e,x6.p⟩,11):=by
  unfold onS
  rw [if_pos (show (⟨qzP x6.e,x6.p⟩:Si).e.ph=7∨(⟨qzP x6.e,x6.p⟩:Si).e.ph=8 from .inr rfl)]
 rw [yT okc (by omega),ho]
 refine (qF rfl).trans ?_
 dsimp only
 refine (qF (a:=(true,())) ?_).trans rfl
 refine (qC rfl).trans ((qC (kM rfl)).trans ?_)
 rw [show jN (xA.t.1,())=_ from v5 xA.e,show jN ((⟨xB.e,xA.p⟩:Si).t.1,())=_ from v5 xB.e]
 refine (qF rfl).trans ((qF rfl).trans ?_)
 dsimp only
 refine (qC rfl).trans ?_
 refine (qF (show vU (xA.e.ring,xA.e.ring,())=_ from wJ _)).trans ((qC rfl).trans ((qC rfl).trans ((qC rfl).trans ((qC rfl).trans ((qC rfl).trans ((qC rfl).trans ((qC rfl).trans ((qC rfl).trans ?_))))))))
 rw [qi9 qML (by omega)]
 refine (qF rfl).trans ((qC rfl).trans ?_)
 rw [show qcE (x4.t,(true,2,1,0,0,none' UInt8,none' UInt8,0,()),())=_ from qi8 qMM (by omega) (true,2,1,0,0,[],[],0,())]
 rfl
abbrev tySt:Ty := .pair (.sl (.int .u8)) (.pair (.sl (.int .u8)) .unit)
theorem qDd (x:denL [tyS]) (h:okL [tyS] x):wR x=some (true,()):=by
 obtain ⟨s,hs,hw⟩:=qJI h.1
 have:=qtY qAP s hw
 rw [← hs] at this
 exact this
theorem qDe (x:denL [tyS,tyN,tyN]) (h:okL [tyS,tyN,tyN] x):wS x=some (true,()):=by
 obtain ⟨s,hs,hw⟩:=qJI h.1
 have:=qtZ qAP s hw x.2.1 x.2.2.1
 rw [← hs] at this
 exact this
theorem qDf (x:denL [tySt,tySt, .bool]) (_:okL [tySt,tySt, .bool] x):zR x=some (true,()):=qt0 qAP x.1 x.2.1 x.2.2.1
end Yp
namespace Yp
open Go
set_option maxRecDepth 100000
set_option maxHeartbeats 4000000
theorem qFy {n c:Int} {o:BB} (hm:¬ qaS c < 16) (ho:o.length=16):qpE n c o=recD (n+1):=by
 have h:=quF c
 unfold qpE
 rw [show qaS c=16 by omega,show (16:Int).toNat=16 from rfl,List.take_of_length_le (by rw [vB];omega),List.drop_of_length_le (by omega),List.append_nil]
theorem qJn {s:ST} {n1 n2:Int} {g1 g2:Bool} (h1:vK s.1=(n1,g1,())) (h2:vK s.2.1=(n2,g2,())):zG s=if g2=true∧(g1=false∨n1 < n2) then (n2,1,true,()) else (n1,0,g1,()):=by
 unfold zG
 rw [h1,h2]
theorem qDr {s t:ST} {c k code:Int} (hs:jR s) (e:xC s c=(t,k,code,())) (hc:code=0∨code=11):(zG s).2.2.1=true∧(zG t).2.2.1=true∧(zG s).1≤(zG t).1∧(code=0→k=(zG s).1∧(zG s).1 < (zG t).1):=by
 have hcode:(xC s c).2.2.1=code:=by rw [e]
 unfold xC at e hcode
 by_cases hb:(zG s).2.2.1=false
 ·rw [if_pos hb] at hcode
  have:(12:Int)=code:=hcode
  omega
 rw [if_neg hb] at e hcode
 by_cases hl:(zG s).1=4611686018427387904
 ·rw [if_pos hl] at hcode
  have:(10:Int)=code:=hcode
  omega
 rw [if_neg hl] at e
 dsimp only at e
 have hb':(zG s).2.2.1=true:=by simpa using hb
 have hok:=qn2 hb'
 have hu:∀ u:ST,u=(if (zG s).2.1=0 then (s.1,qpE (zG s).1 c s.2.1,()) else (qpE (zG s).1 c s.1,s.2.1,()))→(zG u).2.2.1=true∧(zG s).1≤(zG u).1∧(¬ qaS c < 16→(zG s).1 < (zG u).1):=by
  intro u hu
  rcases hg1:vK s.1 with ⟨n1,g1,⟨⟩⟩
  rcases hg2:vK s.2.1 with ⟨n2,g2,⟨⟩⟩
  have hbs:=qJn hg1 hg2
  by_cases q:g2=true∧(g1=false∨n1 < n2)
  ·rw [if_pos q] at hbs
   rw [hbs] at hu hok hl ⊢
   rw [if_neg (by show ¬ (1:Int)=0;omega)] at hu
   dsimp only at hu hok hl ⊢
   rcases hg3:vK (qpE n2 c s.1) with ⟨n3,g3,⟨⟩⟩
   have hfull:¬ qaS c < 16→n3=n2+1∧g3=true:=fun hm=>by
    rw [qFy hm hs.1,qkK (n:=n2+1) (by unfold v9;omega)] at hg3
    exact ⟨(congrArg Prod.fst hg3).symm,(congrArg (fun r:Int×Bool×Unit=>r.2.1) hg3).symm⟩
   have hbu:=qJn (s:=u) (n1:=n3) (g1:=g3) (n2:=n2) (g2:=g2) (by rw [hu];exact hg3) (by rw [hu];exact hg2)
   rw [hbu]
   by_cases q3:g3=false∨n3 < n2
   ·rw [if_pos ⟨q.1,q3⟩]
    refine ⟨rfl,Int.le_refl _,fun hm => ?_⟩
    obtain ⟨f1,f2⟩:=hfull hm
    rcases q3 with q3 | q3
    ·rw [f2] at q3;cases q3
    ·omega
   ·rw [if_neg (fun h=>q3 h.2)]
    simp only [not_or,Bool.not_eq_false] at q3
    refine ⟨q3.1,by show n2≤n3;omega,fun hm => ?_⟩
    have:=(hfull hm).1
    show n2 < n3
    omega
  ·rw [if_neg q] at hbs
   rw [hbs] at hu hok hl hb' ⊢
   rw [if_pos (show (0:Int)=0 from rfl)] at hu
   dsimp only at hu hok hl hb' ⊢
   rcases hg3:vK (qpE n1 c s.2.1) with ⟨n3,g3,⟨⟩⟩
   have hfull:¬ qaS c < 16→n3=n1+1∧g3=true:=fun hm=>by
    rw [qFy hm hs.2,qkK (n:=n1+1) (by unfold v9;omega)] at hg3
    exact ⟨(congrArg Prod.fst hg3).symm,(congrArg (fun r:Int×Bool×Unit=>r.2.1) hg3).symm⟩
   have hbu:=qJn (s:=u) (n1:=n1) (g1:=g1) (n2:=n3) (g2:=g3) (by rw [hu];exact hg1) (by rw [hu];exact hg3)
   rw [hbu]
   by_cases q3:g3=true∧(g1=false∨n1 < n3)
   ·rw [if_pos q3]
    have h13:n1 < n3:=by
     rcases q3.2 with h | h
     ·rw [hb'] at h;cases h
     ·exact h
    exact ⟨rfl,by show n1≤n3;omega,fun _=>h13⟩
   ·rw [if_neg q3]
    refine ⟨hb',Int.le_refl _,fun hm => ?_⟩
    obtain ⟨f1,f2⟩:=hfull hm
    exact absurd ⟨f2, .inr (by omega)⟩ q3
 by_cases hm:qaS c < 16
 ·rw [if_pos hm] at e
  have e1:=congrArg Prod.fst e
  have e2:(11:Int)=code:=congrArg (fun r:ST×Int×Int×Unit=>r.2.2.1) e
  obtain ⟨u1,u2, -⟩:=hu t e1.symm
  exact ⟨hb',u1,u2,fun h=>by omega⟩
 ·rw [if_neg hm] at e
  have e1:=congrArg Prod.fst e
  have e2:(zG s).1=k:=congrArg (fun r:ST×Int×Int×Unit=>r.2.1) e
  obtain ⟨u1,u2,u3⟩:=hu t e1.symm
  exact ⟨hb',u1,u2,fun _=>⟨e2.symm,u3 hm⟩⟩
def qOL (a b:En'):Prop:=a.ph=b.ph∧a.own=b.own∧a.store=b.store
theorem qwU (s:Si) (v:TEnv) (key:BB):qOL (qiT s v key).1.e s.e:=by unfold qiT;split <;> exact ⟨rfl,rfl,rfl⟩
theorem qNj (s:Si) (b:BB):qOL (qjD s b).1.e s.e:=by
 unfold qjD
 split
 ·exact ⟨rfl,rfl,rfl⟩
 split
 ·exact ⟨rfl,rfl,rfl⟩
 split
 ·exact ⟨rfl,rfl,rfl⟩
 ·dsimp only
  split
  ·exact qwU s _ _
  ·exact qwU s _ _
theorem qLd (s:Si) (o:Int) (b:BB):qOL (w8 s o b).1.e s.e:=by
 unfold w8
 split
 ·exact qwU s _ _
 ·exact ⟨rfl,rfl,rfl⟩
theorem qLe (s:Si) (q:jT):qOL (kP s q).e s.e:=by
 unfold kP
 split
 ·split
  ·exact qLd (qqA s q) _ _
  ·exact qNj (qqA s q) _
 ·exact ⟨rfl,rfl,rfl⟩
structure qsC (k:Nat) (s:Si) (last:Int):Prop where
 ok:okS k s
 ph:s.e.ph=0∨s.e.ph=1∨s.e.ph=7∨(s.e.ph=8∧s.e.own=0∧s.e.ring=noR∧s.e.win=noW)
 low:0≤last
 less:s.e.own≤last
 best:0 < last→(zG s.e.store).2.2.1=true∧last < (zG s.e.store).1
theorem qLo {k:Nat} {s:Si} {last:Int} (h:qsC k s last):(xW s).e.ph=8∧(xW s).e.own=0∧(xW s).e.ring=noR∧(xW s).e.win=noW∧(xW s).e.store=s.e.store:=by
 unfold xW
 split
 ·rename_i h8
  rcases h.ph with q | q | q | q
  ·omega
  ·omega
  ·omega
  ·exact ⟨q.1,q.2.1,q.2.2.1,q.2.2.2,rfl⟩
 ·exact ⟨rfl,rfl,rfl,rfl,rfl⟩
theorem qLG {k:Nat} {s:Si} {last:Int} (h:qsC k s last):qsC (k+1) (qiU (xW s)) last∧(qiU (xW s)).e.own=0∧((qiU (xW s)).e.ph=0∨(qiU (xW s)).e.ph=7)∧(qiU (xW s)).e.ring=noR∧(qiU (xW s)).e.win=noW:=by
 obtain ⟨c1,c2,c3,c4,c5⟩:=qLo h
 have ho:=qJ5 (qj5 h.ok)
 have hl:=h.low
 have hb:=h.best
 unfold qiU at ho ⊢
 rw [if_pos c1] at ho ⊢
 split at ho
 ·rename_i q
  rw [if_pos q]
  exact ⟨⟨ho, .inl rfl,hl,by show (xW s).e.own≤last;omega,fun h0=>by have:=hb h0;rw [← c5] at this;exact this⟩,c2, .inl rfl,c3,c4⟩
 ·rename_i q
  rw [if_neg q]
  exact ⟨⟨ho, .inr (.inr (.inl rfl)),hl,by show (xW s).e.own≤last;omega,fun h0=>by have:=hb h0;rw [← c5] at this;exact this⟩,c2, .inr rfl,c3,c4⟩
def powS (s:Si) (a:Int):Si:=⟨{ s.e with power:=a },s.p⟩
theorem qOA {k:Nat} {s:Si} {last a:Int} (h:qsC k s last):((onS (powS s a)).2=0∧(onS (powS s a)).1.e.ph=1∧last < (onS (powS s a)).1.e.own∧qsC (k+3) (onS (powS s a)).1 (onS (powS s a)).1.e.own)∨(¬ (onS (powS s a)).2=0∧qsC (k+3) (onS (powS s a)).1 last):=by
 have hp:okS k (powS s a):=⟨{ h.ok.e with },h.ok.p⟩
 have ho:=qPt hp
 have hself:∀ n,k≤n→qsC n (powS s a) last:=fun n hn=>⟨zO hp hn,h.ph,h.low,h.less,h.best⟩
 unfold onS at ho ⊢
 by_cases h1:(powS s a).e.ph=7∨(powS s a).e.ph=8
 ·rw [if_pos h1]
  exact .inr ⟨by show ¬ (11:Int)=0;omega,hself _ (by omega)⟩
 rw [if_neg h1] at ho ⊢
 by_cases h2:(z1 (powS s a)).2.2=0
 ·rw [if_neg (not_not_intro h2)] at ho ⊢
  left
  obtain ⟨b1,b2⟩:=qFS h2
  have hst:jR s.e.store:=h.ok.e.store
  have hk:(xC s.e.store a).2.2.1=0∧(z1 (powS s a)).1.e.store=(xC s.e.store a).1:=by
   unfold z1 at h2 ⊢
   by_cases q:(xC (powS s a).e.store (powS s a).e.power).2.2.1=0
   ·rw [if_pos q];exact ⟨q,rfl⟩
   ·rw [if_neg q] at h2
    by_cases q2:(xC (powS s a).e.store (powS s a).e.power).2.2.1=11
    ·rw [if_pos q2] at h2
     have:(11:Int)=0:=h2
     omega
    ·rw [if_neg q2] at h2
     exact absurd h2 q
  have hbest:=qDr (t:=(xC s.e.store a).1) (k:=(xC s.e.store a).2.1) (code:=0) hst (by rw [← hk.1]) (.inl rfl)
  obtain ⟨c1,c2,c3⟩:=qLe (ownZ (qbI (z1 (powS s a)).1 1) (z1 (powS s a)).2.1) (qfA 1)
  have hb0:=qn2 b1
  have e2:(z1 (powS s a)).2.1=(zG s.e.store).1:=b2
  have b1':1≤(zG s.e.store).1:=hb0.1
  have hlt:last < (zG s.e.store).1:=by
   by_cases h0:0 < last
   ·exact (h.best h0).2
   ·have:=h.low;omega
  have c2':(kP (ownZ (qbI (z1 (powS s a)).1 1) (z1 (powS s a)).2.1) (qfA 1)).e.own=(zG s.e.store).1:=c2.trans e2
  have c3':(kP (ownZ (qbI (z1 (powS s a)).1 1) (z1 (powS s a)).2.1) (qfA 1)).e.store=(xC s.e.store a).1:=c3.trans hk.2
  refine ⟨rfl,c1,by rw [c2'];exact hlt,ho, .inr (.inl c1),by rw [c2'];omega,Int.le_refl _,fun _ => ?_⟩
  rw [c2',c3']
  exact ⟨hbest.2.1,(hbest.2.2.2 rfl).2⟩
 ·rw [if_pos h2] at ho ⊢
  right
  refine ⟨h2, ?_⟩
  unfold z1 at h2 ho ⊢
  have hst:jR s.e.store:=h.ok.e.store
  by_cases q:(xC (powS s a).e.store (powS s a).e.power).2.2.1=0
  ·rw [if_pos q] at h2;exact absurd rfl h2
  rw [if_neg q] at h2 ho ⊢
  by_cases q2:(xC (powS s a).e.store (powS s a).e.power).2.2.1=11
  ·rw [if_pos q2] at ho ⊢
   have q2':(xC s.e.store a).2.2.1=11:=q2
   have hbest:=qDr (t:=(xC s.e.store a).1) (k:=(xC s.e.store a).2.1) (code:=11) hst (by rw [← q2']) (.inr rfl)
   have hne:¬ (stS (powS s a) (xC (powS s a).e.store (powS s a).e.power).1).e.ph=8:=fun q=>h1 (.inr q)
   unfold xW at ho ⊢
   rw [if_neg hne] at ho ⊢
   refine ⟨ho, .inr (.inr (.inr ⟨rfl,rfl,rfl,rfl⟩)),h.low,h.low,fun h0 => ?_⟩
   have:=h.best h0
   exact ⟨hbest.2.1,Int.lt_of_lt_of_le this.2 hbest.2.2.1⟩
  ·rw [if_neg q2]
   exact hself _ (by omega)
theorem qmI (st:ST) (acts:List Int):wT (st,acts,())=some (true,()):=by
 unfold wT
 rw [qAP]
 refine (qF rfl).trans ?_
 dsimp only
 rw [qR]
 refine (qF rfl).trans ?_
 by_cases h1:jR st
 ·by_cases h2:acts.length≤30
  ·refine (qF (a:=(false,())) (by rw [D_t h1,lt_f (show ¬ (30:Int) < len acts by simp only [go_sem,Int.reduceToNat];omega)];rfl)).trans ((qB rfl).trans ?_)
   rw [qME]
   refine (qF rfl).trans ?_
   dsimp only
   generalize hf:(fun (x_1:Int×Bool×Int×kC×Unit)=>(_:Option (LS (Int×Bool×Int×kC×Unit) (Bool×Unit))))=f
   have hloop:∃ y,loop f (0,false,0,(z0 0 st).t,())=some (.ex 0 y)∧True:=by
    refine qIm (P:=fun i x=>∃ (s:Si) (last:Int),x=(last,false,(i:Int),s.t,())∧qsC (4*i) s last) (fun _=>True) acts.length 0 ?_ ?_ ?_
    ·rintro i hi x ⟨s,last,rfl,hI⟩
     have hin:inB (i:Int) (len acts)=true:=zF hi
     have hi':i64 (iadd (i:Int) 1)=((i+1:Nat):Int):=i64n (by show (i:Int)+1=_;omega) (by omega)
     have hb1:=hI.ok
     subst hf
     by_cases ha:nth acts i 0 < 0
     ·obtain ⟨hB,b1,b2,b3,b4⟩:=qLG hI
      refine ⟨(last,false,((i+1:Nat):Int),(qiU (xW s)).t,()), ?_,qiU (xW s),last,rfl,⟨zO hB.ok (by omega),hB.ph,hB.low,hB.less,hB.best⟩⟩
      refine (qC (lt_t (by show (i:Int) < (acts.length:Int);omega))).trans ((qH hin).trans ?_)
      dsimp only
      rw [qP,hi']
      refine (qC (lt_t ha)).trans ?_
      rw [wE hI.ok (by omega)]
      refine (qF rfl).trans ?_
      dsimp only
      rw [qeN (qj5 hI.ok)]
      refine (qF rfl).trans ?_
      dsimp only
      generalize qiU (xW s)=y at hB b1 b2 b3 b4
      have hst:=hB.ok.e.store
      rw [show y.t.1.2.2.2.2.2.1=y.e.own from rfl,show y.t.1.2.2.1=y.e.ph from rfl,show y.t.1.2.2.2.2.2.2.2.2.2.2.1=y.e.ring from rfl,show y.t.1.2.2.2.2.2.2.2.2.2.1=y.e.win from rfl,show y.t.1.2.2.2.1=y.e.store from rfl,b1,b3,b4,qbS,D_t rfl]
      refine (qF (a:=(false,())) ?_).trans ((qB rfl).trans ?_)
      ·refine (qB rfl).trans ?_
       rcases b2 with b2 | b2 <;> rw [b2] <;> rfl
      rw [qY]
      refine (qF rfl).trans ?_
      refine (qF (a:=(false,())) ?_).trans (qB rfl)
      by_cases h0:0 < last
      ·obtain ⟨q1,q2⟩:=hB.best h0
       refine (qC (lt_t h0)).trans ?_
       rw [q1,le_f (by omega)];rfl
      ·exact qB (lt_f h0)
     ·have hon:=qOA (a:=nth acts i 0) hI
      have hp:okS (4*i) (powS s (nth acts i 0)):=⟨{ hI.ok.e with },hI.ok.p⟩
      have hspec:=yT hp (by omega)
      generalize hr:onS (powS s (nth acts i 0))=r at hon hspec
      obtain ⟨y,c⟩:=r
      dsimp only at hon hspec
      rcases hon with ⟨n1,n2,n3,n4⟩ | ⟨n1,n4⟩
      ·subst n1
       refine ⟨(y.e.own,false,((i+1:Nat):Int),y.t,()), ?_,y,y.e.own,rfl,⟨zO n4.ok (by omega),n4.ph,n4.low,n4.less,n4.best⟩⟩
       refine (qC (lt_t (by show (i:Int) < (acts.length:Int);omega))).trans ((qH hin).trans ?_)
       dsimp only
       rw [qP,hi']
       refine (qB (lt_f ha)).trans ((qH hin).trans ?_)
       refine (qF (show qaC ((powS s (nth acts i 0)).t,())=_ from hspec)).trans ?_
       dsimp only
       rw [show y.t.1.2.2.2.2.2.1=y.e.own from rfl,show y.t.1.2.2.1=y.e.ph from rfl,show y.t.1.2.2.2.1=y.e.store from rfl,n2]
       refine (qF (a:=(false,())) ?_).trans ((qB rfl).trans ((qF rfl).trans ?_))
       ·exact (qC rfl).trans ((qB rfl).trans ((qB (le_f (by omega))).trans (qB rfl)))
       rw [qY]
       refine (qF rfl).trans ?_
       refine (qF (a:=(false,())) ?_).trans (qB rfl)
       have hl:=hI.low
       obtain ⟨q1,q2⟩:=n4.best (by omega)
       refine (qC (lt_t (by show 0 < y.e.own;omega))).trans ?_
       rw [q1,le_f (by show ¬ (zG y.e.store).1≤y.e.own;omega)];rfl
      ·refine ⟨(last,false,((i+1:Nat):Int),y.t,()), ?_,y,last,rfl,⟨zO n4.ok (by omega),n4.ph,n4.low,n4.less,n4.best⟩⟩
       refine (qC (lt_t (by show (i:Int) < (acts.length:Int);omega))).trans ((qH hin).trans ?_)
       dsimp only
       rw [qP,hi']
       refine (qB (lt_f ha)).trans ((qH hin).trans ?_)
       refine (qF (show qaC ((powS s (nth acts i 0)).t,())=_ from hspec)).trans ?_
       dsimp only
       rw [show y.t.1.2.2.2.2.2.1=y.e.own from rfl,show y.t.1.2.2.1=y.e.ph from rfl,show y.t.1.2.2.2.1=y.e.store from rfl,vX n1]
       have ho:=n4.less
       refine (qF (a:=(false,())) ?_).trans ((qB rfl).trans ((qF (a:=(last,())) (qB rfl)).trans ?_))
       ·refine (qB rfl).trans ((qC rfl).trans ?_)
        rw [lt_f (by omega)]
       rw [qY]
       refine (qF rfl).trans ?_
       refine (qF (a:=(false,())) ?_).trans (qB rfl)
       by_cases h0:0 < last
       ·obtain ⟨q1,q2⟩:=n4.best h0
        refine (qC (lt_t h0)).trans ?_
        rw [q1,le_f (by show ¬ (zG y.e.store).1≤last;omega)];rfl
       ·exact qB (lt_f h0)
    ·rintro x ⟨s,last,rfl,hI⟩
     subst hf
     exact ⟨_,qB (lt_f (by show ¬ (acts.length:Int) < (acts.length:Int);omega)),trivial⟩
    ·exact ⟨z0 0 st,0,rfl,zO (qFh (.inl rfl) h1) (by omega), .inl rfl,Int.le_refl _,Int.le_refl _,fun h=>by omega⟩
   obtain ⟨y,hy, -⟩:=hloop
   exact (zC (show loop f (0,false,0,_,())=_ from hy)).trans (qH g62)
  ·refine (qF (a:=(true,())) (by rw [D_t h1,lt_t (show (30:Int) < len acts by simp only [go_sem,Int.reduceToNat];omega)];rfl)).trans (qC rfl)
 ·exact (qF (a:=(true,())) (by rw [D_f h1];rfl)).trans (qC rfl)
theorem qDg (x:denL [tySt, .sl (.int .i64)]) (_:okL [tySt, .sl (.int .i64)] x):wT x=some (true,()):=qmI x.1 x.2.1
end Yp