/- A part of the proof of the statements of this seat: plain functions, and laws on them. No condition of its own. -/
import Derived.Test.YtbpaehkcjccplaaGreatDoorQ2
set_option linter.unusedVariables false
set_option linter.unusedSimpArgs false
namespace Yp
open Go
set_option maxRecDepth 100000
set_option maxHeartbeats 2000000
def qQd (r:Si) (n:z9):Si:=qCG ⟨qFL r.e (qQ r.e.ring n.2.2.2.2.1 (derD r.e n.2.2.2.2.1 n.2.2.2.2.2.1)).1,r.p⟩ (qhP (ackN n 0))
theorem qOZ {r:Si} {n:z9} (hn:z4 n) (hrq:n.1=true) (hp:r.e.ph=3) (hk:kcvD (derD r.e n.2.2.2.2.1 n.2.2.2.2.2.1)=n.2.2.2.2.2.2.1) (hg:¬ n.2.2.2.2.1=r.e.ring.1.1) (ho:(qQ r.e.ring n.2.2.2.2.1 (derD r.e n.2.2.2.2.1 n.2.2.2.2.2.1)).2.1=0) (hq:r.e.seq≤900000) (hu:upH r.e.hub):offK r n=qQd r n:=by
 unfold offK
 rw [if_neg (by omega),if_neg (not_not_intro hk),if_neg hg,if_neg (by omega),if_pos ho,qDW hn hrq (by omega) (by omega)]
 exact congrArg Prod.fst (qnC (s:=⟨qFL r.e (qQ r.e.ring n.2.2.2.2.1 (derD r.e n.2.2.2.2.1 n.2.2.2.2.2.1)).1,r.p⟩) (wM (qfX hn (by omega) (by omega))) (by show qO r.e.ph;unfold qO;omega) hq hu)
theorem qBc {n:Nat} {s:Si} (h:okS n s) (q:z9):okS n (askS s q):=⟨{ h.e with },h.p⟩
theorem qcI {n m:Nat} {s r:Si} (hs:okS n s) (hr:okS m r) (hn:n≤900000) (h:hears s.e r.e) (hl:qO s.e.ph) (hu:upH s.e.hub) {k:z9} (hk:z4 k):∃ bs:List UInt64,bs.length=16 ∧
  qW ((qCG s (qhP k)).t,r.t,())=some ((⟨{ r.e with win:=(s.e.seq+1,bs,()),ring:=qoK r.e s.e.ring.1.1 },(qCG s (qhP k)).p⟩:Si).t,k,true,()):=by
 obtain ⟨bs,hbs,h2⟩:=qKm hs hr hn h (wM hk) hl (qG4 hu).1 (qMA hk)
 rw [qnC (wM hk) hl h.seq hu] at h2
 exact ⟨bs,hbs,h2⟩
theorem qjP {r:En'} {g:Int} (h:¬ r.ring.2.2.1.1=g):qoK r g=r.ring:=by unfold qoK;rw [if_neg (fun q=>h q.1)]
theorem qjS {r:z6} (h:1≤r.1.1):qvW r r.1.1=(r.1.2.1,true,()):=by unfold qvW;rw [if_neg (by omega),if_pos rfl]
section
variable (i : Int) (fill : UInt8) (g : Nat) (nonce : BB)
def mN:z9:=offN (tw i fill g) ((g+1:Nat):Int) nonce
def mK:BB:=derD (twE i fill g) ((g+1:Nat):Int) nonce
def mA:Si:=offS (tw i fill g) ((g+1:Nat):Int) nonce
def mB (bs:List UInt64):Si:=⟨{ twE (1 - i) fill g with win:=(1,bs,()) },(mA i fill g nonce).p⟩
def mC (bs:List UInt64):Si:=qQd (mB i fill g nonce bs) (mN i fill g nonce)
def mD (bs bs':List UInt64):Si:=⟨{ (mA i fill g nonce).e with win:=(1,bs',()) },(mC i fill g nonce bs).p⟩
def mF (bs bs':List UInt64):Si:=qJw (mD i fill g nonce bs bs')
end
theorem qJX (fill:UInt8) {g:Nat} (hg:1≤g) (hg2:g≤50) {k:BB} (hk:k.length=32):(qQ (twR fill g) ((g+1:Nat):Int) k).2.1=0∧(qQ (twR fill g) ((g+1:Nat):Int) k).1=((twR fill g).1,(twR fill g).2.1,(((g+1:Nat):Int),k,()),(twR fill g).2.2.2.1,((g+1:Nat):Int),()):=by
 rw [qD9 fill hg (by omega) (by omega) hk];exact ⟨rfl,rfl⟩
theorem kH (i:Int) (hi:i=0∨i=1) (fill:UInt8) (g:Nat):wC (twE i fill g)=[3,4]:=by
 rcases hi with rfl | rfl <;> rfl
theorem qc7 (i:Int) (hi:i=0∨i=1) (fill:UInt8) {g:Nat} (hg2:g≤50) (nonce:BB):(mK i fill g nonce).length=32:=by
 unfold mK derD
 rw [kH i hi]
 exact qg1 ⟨by decide,by decide,by omega,by omega⟩
theorem qHa (i:Int) (hi:i=0∨i=1) (fill:UInt8) (g:Nat) (nonce:BB):derD (twE (1 - i) fill g) ((g+1:Nat):Int) nonce=mK i fill g nonce:=by
 unfold mK derD
 rw [kH i hi,kH (1 - i) (by omega)];rfl
theorem qEj (i:Int) (fill:UInt8) {g:Nat} (hg:1≤g) (hg2:g≤50) {nonce:BB} (h8:nonce.length=8):newK (tw i fill g) nonce=(mA i fill g nonce,0):=by
 refine qG8 h8 rfl rfl ?_ ?_ (by omega) (by omega) (by show (0:Int)≤900000;omega) qCs
 ·show (twR fill g).2.2.1.1=0
  rw [qs3 fill hg];rfl
 ·show qh8 (twR fill g)=_
  unfold qh8
  rw [if_neg (qKA fill hg),qFJ fill hg,if_neg (by omega)]
  rfl
theorem qlA (i:Int) (fill:UInt8) {g:Nat} (hg2:g≤50) {nonce:BB} (h8:nonce.length=8):z4 (mN i fill g nonce):=qlC (by omega) (by omega) h8
theorem qq7 (i:Int) (hi:i=0∨i=1) (fill:UInt8) {g:Nat} (hg:1≤g) (hg2:g≤50) {nonce:BB} (h8:nonce.length=8):okS 1 (mA i fill g nonce):=by
 have:=qBg (ql0 i hi fill hg (by omega)) nonce
 rwa [qEj i fill hg hg2 h8] at this
theorem qQg (i:Int) (hi:i=0∨i=1) (fill:UInt8) {g:Nat} (hg:1≤g) (hg2:g≤50) {nonce:BB} (h8:nonce.length=8):∃ bs:List UInt64,bs.length=16∧qW ((mA i fill g nonce).t,(tw (1 - i) fill g).t,())=some ((mB i fill g nonce bs).t,mN i fill g nonce,true,()):=by
 have ok0:=ql0 i hi fill hg (by omega)
 have hk:=qJX fill hg hg2 (qc7 i hi fill hg2 nonce)
 have hr4:(qQ (twE i fill g).ring ((g+1:Nat):Int) (derD (twE i fill g) ((g+1:Nat):Int) nonce)).1=_:=hk.2
 have ok1:okS 0 (askS ⟨{ twE i fill g with ph:=4,ring:=(qQ (twR fill g) ((g+1:Nat):Int) (mK i fill g nonce)).1 },(true,[],false,())⟩ (keyQ ((g+1:Nat):Int) nonce (mK i fill g nonce))):=qBc (qi6 ok0 _ _) _
 have okb:=ql0 (1 - i) (by omega) fill hg (by omega)
 have hears':hears (askS ⟨{ twE i fill g with ph:=4,ring:=(qQ (twR fill g) ((g+1:Nat):Int) (mK i fill g nonce)).1 },(true,[],false,())⟩ (keyQ ((g+1:Nat):Int) nonce (mK i fill g nonce))).e (twE (1 - i) fill g):={
  id:=rfl
  pair:=(kH (1 - i) (by omega) fill g).trans (kH i hi fill g).symm
  ph:=by show qO 3;unfold qO;omega
  gen:=by show 1≤(qQ (twR fill g) ((g+1:Nat):Int) (mK i fill g nonce)).1.1.1;rw [hk.2,jC fill hg];show 1≤(g:Int);omega
  find:=by
   show qvW (twR fill g) (qQ (twR fill g) ((g+1:Nat):Int) (mK i fill g nonce)).1.1.1=((qQ (twR fill g) ((g+1:Nat):Int) (mK i fill g nonce)).1.1.2.1,true,())
   rw [hk.2]
   exact qjS (by rw [jC fill hg];show 1≤(g:Int);omega)
  win:=⟨by show (0:Int)≤0;omega,by show (0:Int)≤0;omega⟩
  seq:=by show (0:Int)≤900000;omega }
 obtain ⟨bs,hbs,hb⟩:=qcI ok1 okb (by omega) hears' (by show qO 4;unfold qO;omega) qCs (k:=mN i fill g nonce) (qlA i fill hg2 h8)
 refine ⟨bs,hbs, ?_⟩
 rw [show qoK (tw (1 - i) fill g).e (askS ⟨{ twE i fill g with ph:=4,ring:=(qQ (twR fill g) ((g+1:Nat):Int) (mK i fill g nonce)).1 },(true,[],false,())⟩ (keyQ ((g+1:Nat):Int) nonce (mK i fill g nonce))).e.ring.1.1=twR fill g from qjP (by
  show ¬ (twR fill g).2.2.1.1=(qQ (twR fill g) ((g+1:Nat):Int) (mK i fill g nonce)).1.1.1
  rw [hk.2,qs3 fill hg,jC fill hg];show ¬ (0:Int)=(g:Int);omega)] at hb
 exact hb
end Yp
namespace Yp
open Go
set_option maxRecDepth 100000
set_option maxHeartbeats 2000000
set_option linter.unusedSectionVars false
theorem qJv:upH (v5 hub1).1:=(qG4 qCs).2
section
variable {i : Int} (hi : i = 0 ∨ i = 1) (fill : UInt8) {g : Nat} (hg : 1 ≤ g) (hg2 : g ≤ 50) {nonce : BB} (h8 : nonce.length = 8) (bs bs' : List UInt64)
include hi hg hg2 h8
theorem qIS (hbs:bs.length=16):okS 1 (mB i fill g nonce bs):=⟨{ (qk8 (ql0 (1 - i) (by omega) fill hg (by omega)).e (Nat.zero_le 1)) with win:=hbs },(qq7 i hi fill hg hg2 h8).p⟩
theorem qGS:(qQ (twR fill g) ((g+1:Nat):Int) (derD (mB i fill g nonce bs).e ((g+1:Nat):Int) nonce)).2.1=0∧(qQ (twR fill g) ((g+1:Nat):Int) (derD (mB i fill g nonce bs).e ((g+1:Nat):Int) nonce)).1=((twR fill g).1,(twR fill g).2.1,(((g+1:Nat):Int),mK i fill g nonce,()),(twR fill g).2.2.2.1,((g+1:Nat):Int),()):=by
 rw [show derD (mB i fill g nonce bs).e ((g+1:Nat):Int) nonce=mK i fill g nonce from qHa i hi fill g nonce]
 exact qJX fill hg hg2 (qc7 i hi fill hg2 nonce)
theorem qOv:offK (mB i fill g nonce bs) (mN i fill g nonce)=mC i fill g nonce bs:=by
 refine qOZ (qlA i fill hg2 h8) rfl rfl ?_ ?_ (qGS hi fill hg hg2 h8 bs).1 (by show (0:Int)≤900000;omega) qCs
 ·show kcvD (derD (twE (1 - i) fill g) ((g+1:Nat):Int) nonce)=kcvD (derD (twE i fill g) ((g+1:Nat):Int) nonce)
  rw [qHa i hi];rfl
 ·show ¬ ((g+1:Nat):Int)=(twR fill g).1.1
  rw [jC fill hg];show ¬ ((g+1:Nat):Int)=(g:Int);omega
theorem qGR:(mC i fill g nonce bs).e.ring=((twR fill g).1,(twR fill g).2.1,(((g+1:Nat):Int),mK i fill g nonce,()),(twR fill g).2.2.2.1,((g+1:Nat):Int),()):=(qGS hi fill hg hg2 h8 bs).2
theorem qmI:(mA i fill g nonce).e.ring=((twR fill g).1,(twR fill g).2.1,(((g+1:Nat):Int),mK i fill g nonce,()),(twR fill g).2.2.2.1,((g+1:Nat):Int),()):=(qJX fill hg hg2 (qc7 i hi fill hg2 nonce)).2
theorem qN0 (hbs:bs.length=16):okS 2 (mC i fill g nonce bs):=by
 have:=qBe (qIS hi fill hg hg2 h8 bs hbs) (mN i fill g nonce)
 rwa [qOv hi fill hg hg2 h8] at this
theorem qQf (hbs:bs.length=16):∃ bs':List UInt64,bs'.length=16∧qW ((mC i fill g nonce bs).t,(mA i fill g nonce).t,())=some ((mD i fill g nonce bs bs').t,ackN (mN i fill g nonce) 0,true,()):=by
 have okb:=qIS hi fill hg hg2 h8 bs hbs
 have okt:okS 1 ⟨qFL (mB i fill g nonce bs).e (qQ (mB i fill g nonce bs).e.ring ((g+1:Nat):Int) (derD (mB i fill g nonce bs).e ((g+1:Nat):Int) nonce)).1,(mB i fill g nonce bs).p⟩:=qn6 okb (jA okb.e.ring _ _)
 have oka:=qq7 i hi fill hg hg2 h8
 have hk:=qGS hi fill hg hg2 h8 bs
 have hkA:=qmI hi fill hg hg2 h8
 have hears':hears (qFL (mB i fill g nonce bs).e (qQ (mB i fill g nonce bs).e.ring ((g+1:Nat):Int) (derD (mB i fill g nonce bs).e ((g+1:Nat):Int) nonce)).1) (mA i fill g nonce).e:={
  id:=by show i=1 - (1 - i);omega
  pair:=(kH i hi fill g).trans (kH (1 - i) (by omega) fill g).symm
  ph:=by show qO 4;unfold qO;omega
  gen:=by
   show 1≤(qQ (twR fill g) ((g+1:Nat):Int) (derD (mB i fill g nonce bs).e ((g+1:Nat):Int) nonce)).1.1.1
   rw [hk.2,jC fill hg];show 1≤(g:Int);omega
  find:=by
   show qvW (mA i fill g nonce).e.ring (qQ (twR fill g) ((g+1:Nat):Int) (derD (mB i fill g nonce bs).e ((g+1:Nat):Int) nonce)).1.1.1=((qQ (twR fill g) ((g+1:Nat):Int) (derD (mB i fill g nonce bs).e ((g+1:Nat):Int) nonce)).1.1.2.1,true,())
   rw [hk.2,hkA]
   exact qjS (r:=((twR fill g).1,(twR fill g).2.1,(((g+1:Nat):Int),mK i fill g nonce,()),(twR fill g).2.2.2.1,((g+1:Nat):Int),())) (by rw [jC fill hg];show 1≤(g:Int);omega)
  win:=⟨by show (0:Int)≤0;omega,by show (0:Int)≤0;omega⟩
  seq:=by show (0:Int)≤900000;omega }
 obtain ⟨bs',hbs',hb⟩:=qcI okt oka (by omega) hears' (by show qO 3;unfold qO;omega) qCs (k:=ackN (mN i fill g nonce) 0) (qfX (qlA i fill hg2 h8) (by omega) (by omega))
 refine ⟨bs',hbs', ?_⟩
 rw [qjP (r:=(mA i fill g nonce).e) (by
  rw [hkA]
  show ¬ ((g+1:Nat):Int)=(qQ (twR fill g) ((g+1:Nat):Int) (derD (mB i fill g nonce bs).e ((g+1:Nat):Int) nonce)).1.1.1
  rw [hk.2,jC fill hg];show ¬ ((g+1:Nat):Int)=(g:Int);omega)] at hb
 exact hb
theorem qOu:ansK (mD i fill g nonce bs bs') (ackN (mN i fill g nonce) 0)=mF i fill g nonce bs bs':=by
 refine qMH rfl ⟨?_,rfl,rfl⟩ rfl (by show (0:Int)+1≤900000;omega) qJv
 intro h
 have:(101:Int)=0:=congrArg Prod.fst h
 omega
theorem qIR (hbs:bs.length=16) (hbs':bs'.length=16):okS 2 (mD i fill g nonce bs bs'):=⟨{ (qk8 (qq7 i hi fill hg hg2 h8).e (Nat.le_succ 1)) with win:=hbs' },(qN0 hi fill hg hg2 h8 bs hbs).p⟩
theorem qQD (hbs:bs.length=16) (hbs':bs'.length=16):okS 3 (mF i fill g nonce bs bs'):=by
 have:=qIc (qIR hi fill hg hg2 h8 bs bs' hbs hbs') (ackN (mN i fill g nonce) 0)
 rwa [qOu hi fill hg hg2 h8] at this
theorem qA0:(mF i fill g nonce bs bs').e.ring=((((g+1:Nat):Int),mK i fill g nonce,()),((g:Int),twG fill g,()),noG,16,((g+1:Nat):Int),()):=by
 show (qbI (mA i fill g nonce).e.ring).1=_
 rw [qmI hi fill hg hg2 h8]
 unfold qbI
 rw [if_neg,jC fill hg]
 intro h
 have:((g+1:Nat):Int)=0:=congrArg Prod.fst h
 omega
end
end Yp
namespace Yp
open Go
set_option maxRecDepth 100000
set_option maxHeartbeats 2000000
theorem qtU:vU ()=some (true,()):=by
 unfold vU
 rw [show vT (u8 1,1,())=_ from qkD (u8 1) (g:=1) (by omega) (by omega)]
 refine (qF rfl).trans ((qH rfl).trans ?_)
 dsimp only
 have h8:(rep (nat 8) (u8 0)).length=8:=rfl
 generalize rep (nat 8) (u8 0)=nonce at h8
 have i0:(0:Int)=0∨(0:Int)=1 := .inl rfl
 rw [jO (ql0 0 i0 (u8 1) (g:=1) (by omega) (by omega)) (by omega),qEj 0 (u8 1) (by omega) (by omega) h8]
 refine (qF rfl).trans ?_
 dsimp only
 obtain ⟨bs,hbs,h1⟩:=qQg 0 i0 (u8 1) (g:=1) (by omega) (by omega) h8
 rw [show qW ((mA 0 (u8 1) 1 nonce).t,(tw 1 (u8 1) 1).t,())=_ from h1]
 refine (qF rfl).trans ?_
 dsimp only
 refine (qF (a:=(false,())) rfl).trans ((qB rfl).trans ?_)
 rw [jG (qIS i0 (u8 1) (by omega) (by omega) h8 bs hbs) (by omega) _ (by show nonce.length≤1000;omega),qOv i0 (u8 1) (by omega) (by omega) h8 bs]
 refine (qF rfl).trans ?_
 dsimp only
 obtain ⟨bs',hbs',h3⟩:=qQf i0 (u8 1) (g:=1) (by omega) (by omega) h8 bs hbs
 rw [h3]
 refine (qF rfl).trans ?_
 dsimp only
 rw [z1 (qIR i0 (u8 1) (by omega) (by omega) h8 bs bs' hbs hbs') (by omega),qOu i0 (u8 1) (by omega) (by omega) h8 bs bs']
 refine (qF rfl).trans ((qH rfl).trans ?_)
 dsimp only
 rw [jO (qQD i0 (u8 1) (by omega) (by omega) h8 bs bs' hbs hbs') (by omega),show newK (mF 0 (u8 1) 1 nonce bs bs') (rep (nat 7) (u8 0))=(mF 0 (u8 1) 1 nonce bs bs',1) by unfold newK;rw [if_pos (by show ¬ 7=8;omega)]]
 refine (qF rfl).trans ?_
 dsimp only
 have hF:=qA0 i0 (u8 1) (g:=1) (by omega) (by omega) h8 bs bs'
 have hC:=qGR i0 (u8 1) (g:=1) (by omega) (by omega) h8 bs
 rw [show (mF 0 (u8 1) 1 nonce bs bs').t.1.2.2.2.2.2.2.2.2.2.2.1=(mF 0 (u8 1) 1 nonce bs bs').e.ring from rfl,show (mC 0 (u8 1) 1 nonce bs).t.1.2.2.2.2.2.2.2.2.2.2.1=(mC 0 (u8 1) 1 nonce bs).e.ring from rfl,hF,hC]
 dsimp only
 refine (qF (a:=(true,())) ?_).trans rfl
 refine (qE rfl).trans ((qE (xH rfl)).trans ((qE (xH rfl)).trans ((qE (xH rfl)).trans ((qE (xH rfl)).trans ((qE (xH rfl)).trans ?_)))))
 rw [qT,qdM]
 refine (qF rfl).trans ((qE rfl).trans ((qE (xH rfl)).trans ((qE (xH rfl)).trans ?_)))
 rw [kR]
 refine (qF rfl).trans ?_
 rfl
end Yp
namespace Yp
open Go
set_option maxRecDepth 100000
abbrev tyS:Ty := .pair (.pair (.int .i64) (.pair (.sl (.int .u8)) (.pair (.int .i64) (.pair (.pair (.sl (.int .u8)) (.pair (.sl (.int .u8)) (.unit))) (.pair (.int .i64) (.pair (.int .i64) (.pair (.int .i64) (.pair (.int .i64) (.pair (.int .i64) (.pair (.pair (.int .i64) (.pair (.ar 16 (.int .u64)) (.unit))) (.pair (.pair (.pair (.int .i64) (.pair (.sl (.int .u8)) (.unit))) (.pair (.pair (.int .i64) (.pair (.sl (.int .u8)) (.unit))) (.pair (.pair (.int .i64) (.pair (.sl (.int .u8)) (.unit))) (.pair (.int .i64) (.pair (.int .i64) (.unit)))))) (.pair (.pair (.int .i64) (.pair (.int .i64) (.pair (.int .i64) (.pair (.int .i64) (.pair (.sl (.int .u8)) (.unit)))))) (.pair (.int .i64) (.pair (.int .i64) (.pair (.sl (.sl (.int .u8))) (.pair (.pair (.ar 4 (.bool)) (.pair (.ar 4 (.pair (.sl (.int .u8)) (.pair (.int .i64) (.pair (.int .i64) (.unit))))) (.pair (.ar 4 (.int .i64)) (.pair (.int .i64) (.unit))))) (.pair (.sl (.pair (.int .i64) (.pair (.sl (.int .u8)) (.unit)))) (.pair (.sl (.pair (.int .i64) (.pair (.ar 2 (.int .i64)) (.pair (.int .i64) (.pair (.sl (.int .u8)) (.unit)))))) (.pair (.ar 4 (.int .i64)) (.unit)))))))))))))))))))) (.pair (.pair (.bool) (.pair (.sl (.pair (.sl (.int .u8)) (.pair (.sl (.int .u8)) (.unit)))) (.pair (.bool) (.unit)))) (.unit))
abbrev tyN:Ty := .pair (.bool) (.pair (.int .i64) (.pair (.int .i64) (.pair (.int .i64) (.pair (.int .i64) (.pair (.sl (.int .u8)) (.pair (.sl (.int .u8)) (.pair (.int .i64) (.unit))))))))
theorem qIu {x:vY} (h:okd tyS x):∃ s:Si,x=s.t∧qCC s.e:=by
 obtain ⟨s,rfl⟩:=qQh x
 have e:=h.1
 exact ⟨s,rfl,e.2.2.2.2.2.2.2.2.2.1.2.1.1,e.2.2.2.2.2.2.2.2.2.2.2.2.2.2.2.1.1.1,e.2.2.2.2.2.2.2.2.2.2.2.2.2.2.2.1.2.1.1,e.2.2.2.2.2.2.2.2.2.2.2.2.2.2.2.1.2.2.1.1,e.2.2.2.2.2.2.2.2.2.2.2.2.2.2.2.2.2.2.1.1⟩
end Yp
namespace Yp
open Go
set_option maxRecDepth 100000
set_option maxHeartbeats 2000000
instance (n:z9):Decidable (fewN n):=by unfold fewN;infer_instance
theorem qjJ (s:Si) (hw:qCC s.e) (n:z9):kY (s.t,n,())=some (true,()):=by
 unfold kY
 rw [qtU]
 refine (qF rfl).trans ?_
 dsimp only
 rw [qlU s hw]
 refine (qF rfl).trans ?_
 rw [show s.t.1.2.2.1=s.e.ph from rfl,xK,qEG,kS]
 by_cases h1:mayS s
 ·by_cases h2:qO s.e.ph
  ·by_cases h3:fewN n
   ·by_cases h4:z4 n
    ·by_cases h5:n.2.1=101
     ·have hok:=qLs hw h1
      have hno:n.2.2.2.2.2.1.length≤1000:=by have:=h3.1;omega
      refine (qF (a:=(false,())) ?_).trans ((qB rfl).trans ?_)
      ·rw [D_t h1,D_t h2,D_t h3,D_t h4,bq_f h5];rfl
      ·cases hrq:n.1
       ·refine (qB rfl).trans ?_
        rw [z1 hok (by omega),qmJ hok (by omega)]
        refine (qF (a:=(true,())) ((qE rfl).trans ((qF rfl).trans ((qF rfl).trans ?_)))).trans rfl
        dsimp only
        rw [qtT (qIc hok n) (by omega)];rfl
       ·refine (qE rfl).trans ?_
        rw [jG hok (by omega) n hno,qnU hok (by omega) n hno]
        refine (qF (a:=(true,())) ((qE rfl).trans ((qF rfl).trans ((qF rfl).trans ?_)))).trans rfl
        dsimp only
        rw [qtT (qBe hok n) (by omega)];rfl
     ·refine (qF (a:=(true,())) ?_).trans rfl
      rw [D_t h1,D_t h2,D_t h3,D_t h4,bq_t h5];rfl
    ·refine (qF (a:=(true,())) ?_).trans rfl
     rw [D_t h1,D_t h2,D_t h3,D_f h4];rfl
   ·refine (qF (a:=(true,())) ?_).trans rfl
    rw [D_t h1,D_t h2,D_f h3];rfl
  ·refine (qF (a:=(true,())) ?_).trans rfl
   rw [D_t h1,D_f h2];rfl
 ·refine (qF (a:=(true,())) ?_).trans rfl
  rw [D_f h1];rfl
theorem qyX (x:denL [tyS,tyN]) (h:okL [tyS,tyN] x):kY x=some (true,()):=by
 obtain ⟨s,hs,hw⟩:=qIu h.1
 have:=qjJ s hw x.2.1
 rw [← hs] at this
 exact this
end Yp
namespace Yp
open Go
set_option maxRecDepth 100000
set_option maxHeartbeats 2000000
set_option linter.unusedSectionVars false
section
variable {i : Int} (hi : i = 0 ∨ i = 1) (fill : UInt8) {g : Nat} (hg : 1 ≤ g) (hg2 : g ≤ 50) {nonce : BB} (h8 : nonce.length = 8) (bs bs' : List UInt64)
include hi hg hg2 h8
theorem qP8:(qbI ((twR fill g).1,(twR fill g).2.1,(((g+1:Nat):Int),mK i fill g nonce,()),(twR fill g).2.2.2.1,((g+1:Nat):Int),())).1=((((g+1:Nat):Int),mK i fill g nonce,()),((g:Int),twG fill g,()),noG,16,((g+1:Nat):Int),()):=by
 unfold qbI
 rw [if_neg,jC fill hg]
 intro h
 have:((g+1:Nat):Int)=0:=congrArg Prod.fst h
 omega
theorem qQC:(twR fill g).2.1.1 < (g:Int):=by
 match g,hg with
 | 1,_=>show (0:Int) < 1;omega
 | g+2,_=>show ((g+1:Nat):Int) < ((g+2:Nat):Int);omega
theorem qQ0:qvW ((twR fill g).1,(twR fill g).2.1,(((g+1:Nat):Int),mK i fill g nonce,()),(twR fill g).2.2.2.1,((g+1:Nat):Int),()) ((g+1:Nat):Int)=(mK i fill g nonce,true,()):=by
 have ho:=qQC hi fill hg hg2 h8
 unfold qvW
 rw [if_neg (by omega),if_neg,if_neg,if_pos rfl]
 ·dsimp only;omega
 ·dsimp only;rw [jC fill hg];dsimp only;omega
def mE (i:Int) (fill:UInt8) (g:Nat) (nonce:BB) (bs bs' bt:List UInt64):Si:=⟨{ (mC i fill g nonce bs).e with win:=(2,bt,()),ring:=(qbI (mC i fill g nonce bs).e.ring).1 },(mF i fill g nonce bs bs').p⟩
theorem qRn (hbs:bs.length=16) (hbs':bs'.length=16):∃ bt:List UInt64,bt.length=16∧qW ((mF i fill g nonce bs bs').t,(mC i fill g nonce bs).t,())=some ((mE i fill g nonce bs bs' bt).t,stN (mD i fill g nonce bs bs') (qsZ 301),true,()):=by
 have okd':=qIR hi fill hg hg2 h8 bs bs' hbs hbs'
 have okc:=qN0 hi fill hg hg2 h8 bs hbs
 have okt:okS 2 (askS ⟨qm4 (mD i fill g nonce bs bs').e (qbI (mD i fill g nonce bs bs').e.ring).1,(mD i fill g nonce bs bs').p⟩ (qsZ 301)):=qBc (wD okd' (qcO okd'.e.ring)) _
 have rF:=qA0 hi fill hg hg2 h8 bs bs'
 have rC:=qGR hi fill hg hg2 h8 bs
 have rF':(askS ⟨qm4 (mD i fill g nonce bs bs').e (qbI (mD i fill g nonce bs bs').e.ring).1,(mD i fill g nonce bs bs').p⟩ (qsZ 301)).e.ring=_:=rF
 have hears':hears (askS ⟨qm4 (mD i fill g nonce bs bs').e (qbI (mD i fill g nonce bs bs').e.ring).1,(mD i fill g nonce bs bs').p⟩ (qsZ 301)).e (mC i fill g nonce bs).e:={
  id:=rfl
  pair:=(kH (1 - i) (by omega) fill g).trans (kH i hi fill g).symm
  ph:=by show qO 3;unfold qO;omega
  gen:=by rw [rF'];show 1≤((g+1:Nat):Int);omega
  find:=by
   rw [rF',rC]
   exact qQ0 hi fill hg hg2 h8
  win:=⟨by show (1:Int)≤0+1;omega,by show (0:Int)≤1;omega⟩
  seq:=by show (0:Int)+1≤900000;omega }
 obtain ⟨bt,hbt,hb⟩:=qcI okt okc (by omega) hears' (by show qO 3;unfold qO;omega) qJv (k:=stN (mD i fill g nonce bs bs') (qsZ 301)) qhC
 refine ⟨bt,hbt, ?_⟩
 rw [rF',show qoK (mC i fill g nonce bs).e ((g+1:Nat):Int)=(qbI (mC i fill g nonce bs).e.ring).1 by
  unfold qoK
  rw [if_pos]
  exact ⟨by rw [rC],by show ¬ (3:Int)=4;omega⟩] at hb
 exact hb
theorem qOD (bt:List UInt64):(mE i fill g nonce bs bs' bt).e.ring=(mF i fill g nonce bs bs').e.ring:=by
 rw [qA0 hi fill hg hg2 h8]
 show (qbI (mC i fill g nonce bs).e.ring).1=_
 rw [qGR hi fill hg hg2 h8,qP8 hi fill hg hg2 h8]
end
end Yp
namespace Yp
open Go
set_option maxRecDepth 100000
set_option maxHeartbeats 2000000
theorem qvR (c:UInt8):∃ g:Nat,1≤g∧g≤5∧i64 (iadd 1 (imod (i64 (n8 c)) 5))=(g:Int)∧i64 (iadd (g:Int) 1)=((g+1:Nat):Int):=by
 have h:=c.toNat_lt
 refine ⟨1+c.toNat % 5,by omega,by omega, ?_,i64n (by show ((1+c.toNat % 5:Nat):Int)+1=_;omega) (by omega)⟩
 have e1:i64 (n8 c)=((c.toNat:Nat):Int):=i64n rfl (by omega)
 rw [e1,g32 (by omega)]
 exact i64n (by show (1:Int)+(c.toNat:Int) % 5=_;omega) (by omega)
theorem qzH {i:Int} (hi:i=0∨i=1) (fill:UInt8) {g:Nat} (hg:1≤g) (hg2:g≤50) {nonce:BB} (h8:nonce.length=8) :
   (ck (inC 0 (ofn 8) (ofn 8))
  (ob (jY ((tw i fill g).t,cut nonce (nat 0) (nsub (nat (ofn 8)) (nat 0)),()))
  fun (a_2:vY×Int×Unit) =>
  ob (qW (a_2.1,(tw (1 - i) fill g).t,()))
  fun (a_3:vY×z9×Bool×Unit) =>
  ob
   (sel (bnot (beq a_2.2.1 0)) (some (true,()))
   (sel (bnot a_3.2.2.1) (some (true,()))
   (sel (bnot (beq a_3.2.1.2.2.2.2.1 ((g+1:Nat):Int))) (some (true,()))
    (ck (band (neb (ln nonce) 8) (inC 0 (ofn 8) (ofn 8)))
    (ob (zG (a_3.2.1.2.2.2.2.2.1,sub nonce 0 (ofn 8),()))
    fun (a:Bool×Unit)=>some (bnot a.1,()))))))
   fun (a_4:Bool×Unit) =>
   sel a_4.1 (some (false,()))
   (ob (zX (a_3.1,a_3.2.1,()))
   fun (a_5:vY×Unit) =>
   ob (qW (a_5.1,a_2.1,()))
    fun (a_6:vY×z9×Bool×Unit) =>
    sel (bnot a_6.2.2.1) (some (false,()))
    (ob (zP (a_6.1,a_6.2.1,()))
    fun (a_7:vY×Unit) =>
    ob (qW (a_7.1,a_5.1,()))
    fun (a_8:vY×z9×Bool×Unit) =>
    ob
    (sel true
    (sel a_8.2.2.1
    (sel (beq a_7.1.1.2.2.1 3)
    (sel (beq a_8.2.1.2.1 301)
    (sel a_8.2.1.1
    (sel (beq a_7.1.1.2.2.2.2.2.2.2.2.2.2.1.1.1 ((g+1:Nat):Int))
    (ob (w9 (a_7.1.1.2.2.2.2.2.2.2.2.2.2.1,a_8.1.1.2.2.2.2.2.2.2.2.2.2.1,()))
    fun (a:Bool×Unit) =>
    sel a.1
    (sel (beq a_8.1.1.2.2.2.2.2.2.2.2.2.2.1.2.1.1 (g:Int))
    (some (beq a_8.1.1.2.2.1 3,())) (some (false,())))
    (some (false,())))
    (some (false,())))
    (some (false,())))
    (some (false,())))
    (some (false,())))
    (some (false,())))
    (some (false,())))
    fun (a:Bool×Unit)=>some (a.1,())))))=(some (true,()):Option (Bool×Unit)):=by
  have hc:cut nonce (nat 0) (nsub (nat (ofn 8)) (nat 0))=nonce:=by
    unfold cut
    rw [show nat 0=0 from rfl,show nsub (nat (ofn 8)) 0=8 from rfl,List.drop_zero,List.take_of_length_le (by omega)]
  have hs:sub nonce 0 (ofn 8)=nonce:=by
    unfold sub
    rw [show (0:Int).toNat=0 from rfl,List.drop_zero,show (ofn 8).toNat=8 from rfl,List.take_of_length_le (by omega)]
  refine (qH rfl).trans ?_
  rw [hc,hs,jO (ql0 i hi fill hg (by omega)) (by omega),qEj i fill hg hg2 h8]
  refine (qF rfl).trans ?_
  dsimp only
  obtain ⟨bs,hbs,h1⟩:=qQg i hi fill hg hg2 h8
  rw [h1]
  refine (qF rfl).trans ?_
  dsimp only
  refine (qF (a:=(false,())) ?_).trans ((qB rfl).trans ?_)
  · refine (qB rfl).trans ((qB rfl).trans ((qB (bq_f rfl)).trans ((qH (by unfold ln;rw [h8];rfl)).trans ?_)))
    rw [show (mN i fill g nonce).2.2.2.2.2.1=nonce from rfl,qT,qdM]
    rfl
  rw [jG (qIS hi fill hg hg2 h8 bs hbs) (by omega) _ (by show nonce.length≤1000;omega),qOv hi fill hg hg2 h8 bs]
  refine (qF rfl).trans ?_
  dsimp only
  obtain ⟨bs',hbs',h3⟩:=qQf hi fill hg hg2 h8 bs hbs
  rw [h3]
  refine (qF rfl).trans ((qB rfl).trans ?_)
  dsimp only
  rw [z1 (qIR hi fill hg hg2 h8 bs bs' hbs hbs') (by omega),qOu hi fill hg hg2 h8 bs bs']
  refine (qF rfl).trans ?_
  dsimp only
  obtain ⟨bt,hbt,h5⟩:=qRn hi fill hg hg2 h8 bs bs' hbs hbs'
  rw [h5]
  refine (qF rfl).trans ?_
  dsimp only
  rw [show (mF i fill g nonce bs bs').t.1.2.2.2.2.2.2.2.2.2.2.1=(mF i fill g nonce bs bs').e.ring from rfl,show (mE i fill g nonce bs bs' bt).t.1.2.2.2.2.2.2.2.2.2.2.1=(mE i fill g nonce bs bs' bt).e.ring from rfl,qOD hi fill hg hg2 h8,qA0 hi fill hg hg2 h8]
  refine (qF (a:=(true,())) ?_).trans rfl
  refine (qE rfl).trans ((qE rfl).trans ((qE (xH rfl)).trans ((qE (xH rfl)).trans ((qE rfl).trans ((qE (xH rfl)).trans ?_)))))
  rw [qiU]
  refine (qF rfl).trans ((qE rfl).trans ((qE (xH rfl)).trans ?_))
  rfl
theorem qjI (fill gens:UInt8) (nonce:BB) (first:Bool) (h8:nonce.length=8):kX ((fill,gens,nonce,first,()),())=some (true,()):=by
 unfold kX
 rw [qtU]
 refine (qF rfl).trans ?_
 dsimp only
 obtain ⟨g,hg,hg5,e1,e2⟩:=qvR gens
 rw [e1,e2,qkD fill hg (by omega)]
 refine (qF rfl).trans ?_
 dsimp only
 cases first
 ·refine (qB rfl).trans ?_
  exact qzH (i:=0) (.inl rfl) fill hg (by omega) h8
 ·refine (qE rfl).trans ?_
  exact qzH (i:=1) (.inr rfl) fill hg (by omega) h8
end Yp
namespace Yp
open Go
set_option maxRecDepth 100000
set_option maxHeartbeats 2000000
set_option linter.unusedSectionVars false
def butE (e:En'):En':={ e with cnt:=[0,0,0,0] }
theorem qlV (e:En'):qe5 (e.t,())=some ((butE e).t,()):=rfl
theorem qOY {n:Nat} {e:En'} (h:okE n e):okE n (butE e):={ h with cnt:=rfl }
section
variable (fill : UInt8) {g : Nat} (hg : 1 ≤ g) (hg2 : g ≤ 50) {nonce : BB} (h8 : nonce.length = 8)
def mY (fill:UInt8) (g:Nat) (nonce:BB):Si:=⟨{ (mA 0 fill g nonce).e with ph:=3,ask:=noA,ring:=qlK (mA 0 fill g nonce).e.ring },(mA 0 fill g nonce).p⟩
theorem qBu:wQ (mA 0 fill g nonce)=mY fill g nonce:=by
 unfold wQ
 rw [if_pos (show (mA 0 fill g nonce).e.ph=4 from rfl)];rfl
include hg hg2 h8
theorem qGQ:(mY fill g nonce).e.ring=((twR fill g).1,(twR fill g).2.1,noG,(twR fill g).2.2.2.1,((g+1:Nat):Int),()):=by
 show qlK (mA 0 fill g nonce).e.ring=_
 rw [qmI (.inl rfl) fill hg hg2 h8];rfl
theorem qLt:okS 1 (mY fill g nonce):=by
 have:=qvQ (qq7 0 (.inl rfl) fill hg hg2 h8)
 rwa [qBu] at this
def mU (fill:UInt8) (g:Nat) (nonce:BB):Si:=offS (mY fill g nonce) ((g+2:Nat):Int) nonce
theorem qN6:newK (mY fill g nonce) nonce=(mU fill g nonce,0):=by
 have hr:=qGQ fill hg hg2 h8
 refine qG8 h8 rfl rfl ?_ ?_ (by omega) (by omega) (by show (0:Int)+1≤900000;omega) qJv
 ·rw [hr];rfl
 ·rw [hr]
  unfold qh8
  rw [if_neg,if_neg]
  ·refine Prod.ext ?_ rfl
   show ((g+1:Nat):Int)+1=((g+2:Nat):Int);omega
  ·show ¬ 2147483647≤((g+1:Nat):Int);omega
  ·intro h
   have:((g+1:Nat):Int)=0:=congrArg (fun r:z6=>r.2.2.2.2.1) h
   omega
theorem qNZ:okS 2 (mU fill g nonce):=by
 have:=qBg (qLt fill hg hg2 h8) nonce
 rwa [qN6 fill hg hg2 h8] at this
theorem qOS:(mU fill g nonce).e.ring.2.2.1.1=((g+2:Nat):Int):=by
 show (qQ (mY fill g nonce).e.ring ((g+2:Nat):Int) (derD (mY fill g nonce).e ((g+2:Nat):Int) nonce)).1.2.2.1.1=_
 have hk:(derD (mY fill g nonce).e ((g+2:Nat):Int) nonce).length=32:=by
  show (keyD (twK fill) (wC (twE 0 fill g)) ((g+2:Nat):Int) nonce).length=32
  rw [kH 0 (.inl rfl)]
  exact qg1 ⟨by decide,by decide,by omega,by omega⟩
 rw [qGQ fill hg hg2 h8]
 generalize derD (mY fill g nonce).e ((g+2:Nat):Int) nonce=k at hk
 unfold qQ
 have hr:yY (((g+2:Nat):Int),k,()):=⟨by show 1≤((g+2:Nat):Int);omega,by show ((g+2:Nat):Int)≤2147483647;omega,hk⟩
 rw [if_neg (not_not_intro hr),if_neg]
 rintro (h | h | h)
 ·have:((g+1:Nat):Int)=0:=congrArg (fun r:z6=>r.2.2.2.2.1) h
  omega
 ·dsimp only at h;rw [jC fill hg] at h;dsimp only at h;omega
 ·have h:((g+2:Nat):Int) < 0:=h
  omega
end
theorem qRk (fill:UInt8) (g:Nat) (nonce:BB) {r:Int} (hr:¬ r=0):ansK (mA 0 fill g nonce) (false,101,1,r,0,[],[],0,())=mY fill g nonce:=by
 unfold ansK
 rw [if_neg,if_pos hr,qBu]
 rintro (h | h)
 ·exact h rfl
 ·refine h ⟨?_,rfl,rfl⟩
  intro h
  have:(101:Int)=0:=congrArg Prod.fst h
  omega
theorem qRj (fill:UInt8) (g:Nat) (nonce:BB):ansK (mU fill g nonce) (false,101,1,0,0,[],[],0,())=qbF (mU fill g nonce) 3:=by
 unfold ansK
 rw [if_pos]
 refine .inr fun h => ?_
 have:(2:Int)=1:=h.2.2
 omega
theorem qM0 (c:UInt8):¬ i64 (iadd 1 (imod (i64 (n8 c)) 99))=0:=by
 have h:=c.toNat_lt
 have e1:i64 (n8 c)=((c.toNat:Nat):Int):=i64n rfl (by omega)
 rw [e1,g32 (by omega),i64n (n:=1+c.toNat % 99) (by show (1:Int)+(c.toNat:Int) % 99=_;omega) (by omega)]
 omega
theorem qjK (fill gens:UInt8) (nonce:BB) (res:UInt8) (h8:nonce.length=8):kZ ((fill,gens,nonce,res,()),())=some (true,()):=by
 unfold kZ
 rw [qtU]
 refine (qF rfl).trans ?_
 dsimp only
 obtain ⟨g,hg,hg5,e1,e2⟩:=qvR gens
 have e3:i64 (iadd (g:Int) 2)=((g+2:Nat):Int):=i64n (by show (g:Int)+2=_;omega) (by omega)
 have hg2:g≤50:=by omega
 have hr:=qM0 res
 have hc:cut nonce (nat 0) (nsub (nat (ofn 8)) (nat 0))=nonce:=by
  unfold cut
  rw [show nat 0=0 from rfl,show nsub (nat (ofn 8)) 0=8 from rfl,List.drop_zero,List.take_of_length_le (by omega)]
 have hs:sub nonce 0 (ofn 8)=nonce:=by
  unfold sub
  rw [show (0:Int).toNat=0 from rfl,List.drop_zero,show (ofn 8).toNat=8 from rfl,List.take_of_length_le (by omega)]
 rw [e1,e2,e3,qkD fill hg (by omega)]
 refine (qF rfl).trans ((qH rfl).trans ?_)
 dsimp only
 rw [hc,hs,jO (ql0 0 (.inl rfl) fill hg (by omega)) (by omega),qEj 0 fill hg hg2 h8]
 refine (qF rfl).trans ?_
 dsimp only
 rw [kR,qBu]
 refine (qF rfl).trans ?_
 rw [show (mA 0 fill g nonce).t.1.2.2.2.2.2.2.2.2.2.2.2.1.2.1=1 from rfl,z1 (qq7 0 (.inl rfl) fill hg hg2 h8) (by omega),show ansK (mA 0 fill g nonce) (false,101,1,i64 (iadd 1 (imod (i64 (n8 res)) 99)),0,none' UInt8,none' UInt8,0,())=mY fill g nonce from qRk fill g nonce hr]
 refine (qF rfl).trans ((qH (by unfold ln;rw [h8];rfl)).trans ?_)
 dsimp only
 rw [jO (qLt fill hg hg2 h8) (by omega),qN6 fill hg hg2 h8]
 refine (qF rfl).trans ?_
 dsimp only
 rw [z1 (qNZ fill hg hg2 h8) (by omega),show ansK (mU fill g nonce) (false,101,1,0,0,none' UInt8,none' UInt8,0,())=qbF (mU fill g nonce) 3 from qRj fill g nonce]
 refine (qF rfl).trans ?_
 dsimp only
 have hY:=qGQ fill hg hg2 h8
 have hA:=qmI (i:=0) (.inl rfl) fill hg hg2 h8
 have hU:=qOS fill hg hg2 h8
 refine (qF (a:=(false,())) ?_).trans ((qB rfl).trans ?_)
 ·rw [show (mY fill g nonce).t.1.2.2.2.2.2.2.2.2.2.2.1=(mY fill g nonce).e.ring from rfl,hY]
  refine (qB rfl).trans ((qB rfl).trans ((qB (bq_f rfl)).trans ((qB (bq_f rfl)).trans ((qB (bq_f (by rw [jC fill hg]))).trans ((qB (bq_f rfl)).trans ?_)))))
  rw [show yM ((mY fill g nonce).t.1,(mY fill g nonce).t.1,())=_ from qtY (qLt fill hg hg2 h8).e (by omega)]
  rfl
 ·refine (qF (a:=(true,())) ((qE rfl).trans ?_)).trans rfl
  rw [show (mA 0 fill g nonce).t.1.2.2.2.2.2.2.2.2.2.2.1=(mA 0 fill g nonce).e.ring from rfl,hA,show (mU fill g nonce).t.1.2.2.2.2.2.2.2.2.2.2.1.2.2.1.1=(mU fill g nonce).e.ring.2.2.1.1 from rfl,hU]
  refine (qE (xH rfl)).trans ((qE (xH rfl)).trans ((qE (bq_t (by show ¬ (2:Int)=1;omega))).trans ((qH rfl).trans ((qH rfl).trans ((qE (xH rfl)).trans ?_)))))
  rw [show qe5 ((qbF (mU fill g nonce) 3).t.1,())=_ from qlV (qbF (mU fill g nonce) 3).e,show qe5 ((mU fill g nonce).t.1,())=_ from qlV (mU fill g nonce).e]
  refine (qF rfl).trans ((qF rfl).trans ?_)
  dsimp only
  rw [show (butE (qbF (mU fill g nonce) 3).e)=butE (mU fill g nonce).e from rfl,qtY (qOY (qNZ fill hg hg2 h8).e) (by omega)]
  rfl
end Yp
namespace Yp
open Go
theorem qyW (x:denL [.pair (.int .u8) (.pair (.int .u8) (.pair (.ar 8 (.int .u8)) (.pair .bool .unit)))]) (h:okL [.pair (.int .u8) (.pair (.int .u8) (.pair (.ar 8 (.int .u8)) (.pair .bool .unit)))] x):kX x=some (true,()) :=
 qjI x.1.1 x.1.2.1 x.1.2.2.1 x.1.2.2.2.1 h.1.2.2.1.1
theorem qyY (x:denL [.pair (.int .u8) (.pair (.int .u8) (.pair (.ar 8 (.int .u8)) (.pair (.int .u8) .unit)))]) (h:okL [.pair (.int .u8) (.pair (.int .u8) (.pair (.ar 8 (.int .u8)) (.pair (.int .u8) .unit)))] x):kZ x=some (true,()) :=
 qjK x.1.1 x.1.2.1 x.1.2.2.1 x.1.2.2.2.1 h.1.2.2.1.1
end Yp
namespace Yp
open Go
set_option maxRecDepth 100000
set_option maxHeartbeats 2000000
set_option linter.unusedSectionVars false
theorem qEa (fill:UInt8) {g:Nat} (hg:1≤g) (hg2:g≤50) {k:BB} (hk:k.length=32):qQ ((twR fill g).1,(twR fill g).2.1,noG,(twR fill g).2.2.2.1,((g+1:Nat):Int),()) ((g+1:Nat):Int) k=(((twR fill g).1,(twR fill g).2.1,(((g+1:Nat):Int),k,()),(twR fill g).2.2.2.1,((g+1:Nat):Int),()),0,()):=by
 unfold qQ
 have hr:yY (((g+1:Nat):Int),k,()):=⟨by show 1≤((g+1:Nat):Int);omega,by show ((g+1:Nat):Int)≤2147483647;omega,hk⟩
 rw [if_neg (not_not_intro hr),if_neg]
 ·dsimp only
  rw [show max ((g+1:Nat):Int) ((g+1:Nat):Int)=((g+1:Nat):Int) by omega]
 rintro (h | h | h)
 ·have:((g+1:Nat):Int)=0:=congrArg (fun r:z6=>r.2.2.2.2.1) h
  omega
 ·dsimp only at h;rw [jC fill hg] at h;dsimp only at h;omega
 ·have h:((g+1:Nat):Int) < 0:=h
  omega
section
variable (fill : UInt8) {g : Nat} (hg : 1 ≤ g) (hg2 : g ≤ 50) {na nb : BB} (ha : na.length = 8) (hb : nb.length = 8) (bs bt bu : List UInt64)
def bT (fill:UInt8) (g:Nat) (na:BB):Si:=⟨twE 1 fill g,(mA 0 fill g na).p⟩
def bA (fill:UInt8) (g:Nat) (na nb:BB):Si:=offS (bT fill g na) ((g+1:Nat):Int) nb
def bN (fill:UInt8) (g:Nat) (na nb:BB):z9:=offN (bT fill g na) ((g+1:Nat):Int) nb
def aH (fill:UInt8) (g:Nat) (na nb:BB) (bs:List UInt64):Si:=⟨{ (mA 0 fill g na).e with win:=(1,bs,()) },(bA fill g na nb).p⟩
def bH (fill:UInt8) (g:Nat) (na nb:BB) (bt:List UInt64):Si:=⟨{ (bA fill g na nb).e with win:=(1,bt,()) },(bA fill g na nb).p⟩
def bR (fill:UInt8) (g:Nat) (na nb:BB) (bt:List UInt64):z6:=(qQ (qlK (bH fill g na nb bt).e.ring) ((g+1:Nat):Int) (derD (bH fill g na nb bt).e ((g+1:Nat):Int) na)).1
def bO (fill:UInt8) (g:Nat) (na nb:BB) (bt:List UInt64):Si:=⟨qm4 (bH fill g na nb bt).e (bR fill g na nb bt),(bH fill g na nb bt).p⟩
def bC (fill:UInt8) (g:Nat) (na nb:BB) (bt:List UInt64):Si:=qCG (bO fill g na nb bt) (qhP (ackN (mN 0 fill g na) 0))
def aC (fill:UInt8) (g:Nat) (na nb:BB) (bs:List UInt64):Si:=qbF (aH fill g na nb bs) 3
def aG (fill:UInt8) (g:Nat) (na nb:BB) (bs bt bu:List UInt64):Si:=⟨{ (aC fill g na nb bs).e with win:=(2,bu,()) },(bC fill g na nb bt).p⟩
include hg hg2 ha
theorem qLu:okS 1 (bT fill g na):=⟨qk8 (ql0 1 (.inr rfl) fill hg (by omega)).e (Nat.zero_le 1),(qq7 0 (.inl rfl) fill hg hg2 ha).p⟩
include hb
theorem qOj:newK (bT fill g na) nb=(bA fill g na nb,0):=by
 refine qG8 hb rfl rfl ?_ ?_ (by omega) (by omega) (by show (0:Int)≤900000;omega) qCs
 ·show (twR fill g).2.2.1.1=0
  rw [qs3 fill hg];rfl
 ·show qh8 (twR fill g)=_
  unfold qh8
  rw [if_neg (qKA fill hg),qFJ fill hg,if_neg (by omega)]
  rfl
theorem qIV:okS 2 (bA fill g na nb):=by
 have:=qBg (qLu fill hg hg2 ha) nb
 rwa [qOj fill hg hg2 ha hb] at this
theorem qGT:(bA fill g na nb).e.ring=((twR fill g).1,(twR fill g).2.1,(((g+1:Nat):Int),mK 1 fill g nb,()),(twR fill g).2.2.2.1,((g+1:Nat):Int),()):=(qJX fill hg hg2 (qc7 1 (.inr rfl) fill hg2 nb)).2
theorem qNI:z4 (bN fill g na nb):=qlC (by omega) (by omega) hb
theorem qRG:∃ bs:List UInt64,bs.length=16∧qW ((bA fill g na nb).t,(mA 0 fill g na).t,())=some ((aH fill g na nb bs).t,bN fill g na nb,true,()):=by
 have ok0:=qLu fill hg hg2 ha
 have hk:=qJX fill hg hg2 (qc7 1 (.inr rfl) fill hg2 nb)
 have hA:=qmI (i:=0) (.inl rfl) fill hg hg2 ha
 have ok1:okS 1 (askS ⟨{ twE 1 fill g with ph:=4,ring:=(qQ (twR fill g) ((g+1:Nat):Int) (mK 1 fill g nb)).1 },(mA 0 fill g na).p⟩ (keyQ ((g+1:Nat):Int) nb (mK 1 fill g nb))):=qBc (qi6 ok0 _ _) _
 have okb:=qq7 0 (.inl rfl) fill hg hg2 ha
 have hears':hears (askS ⟨{ twE 1 fill g with ph:=4,ring:=(qQ (twR fill g) ((g+1:Nat):Int) (mK 1 fill g nb)).1 },(mA 0 fill g na).p⟩ (keyQ ((g+1:Nat):Int) nb (mK 1 fill g nb))).e (mA 0 fill g na).e:={
  id:=rfl
  pair:=(kH 0 (.inl rfl) fill g).trans (kH 1 (.inr rfl) fill g).symm
  ph:=by show qO 4;unfold qO;omega
  gen:=by show 1≤(qQ (twR fill g) ((g+1:Nat):Int) (mK 1 fill g nb)).1.1.1;rw [hk.2,jC fill hg];show 1≤(g:Int);omega
  find:=by
   show qvW (mA 0 fill g na).e.ring (qQ (twR fill g) ((g+1:Nat):Int) (mK 1 fill g nb)).1.1.1=((qQ (twR fill g) ((g+1:Nat):Int) (mK 1 fill g nb)).1.1.2.1,true,())
   rw [hk.2,hA]
   exact qjS (r:=((twR fill g).1,(twR fill g).2.1,(((g+1:Nat):Int),mK 0 fill g na,()),(twR fill g).2.2.2.1,((g+1:Nat):Int),())) (by rw [jC fill hg];show 1≤(g:Int);omega)
  win:=⟨by show (0:Int)≤0;omega,by show (0:Int)≤0;omega⟩
  seq:=by show (0:Int)≤900000;omega }
 obtain ⟨bs,hbs,h⟩:=qcI ok1 okb (by omega) hears' (by show qO 4;unfold qO;omega) qCs (k:=bN fill g na nb) (qNI fill hg hg2 ha hb)
 refine ⟨bs,hbs, ?_⟩
 rw [qjP (r:=(mA 0 fill g na).e) (by
  rw [hA]
  show ¬ ((g+1:Nat):Int)=(qQ (twR fill g) ((g+1:Nat):Int) (mK 1 fill g nb)).1.1.1
  rw [hk.2,jC fill hg];show ¬ ((g+1:Nat):Int)=(g:Int);omega)] at h
 exact h
theorem qRF:∃ bt:List UInt64,bt.length=16∧qW ((mA 0 fill g na).t,(bA fill g na nb).t,())=some ((⟨{ (bA fill g na nb).e with win:=(1,bt,()) },(mA 0 fill g na).p⟩:Si).t,mN 0 fill g na,true,()):=by
 have ok0:=ql0 0 (.inl rfl) fill hg (by omega)
 have hk:=qJX fill hg hg2 (qc7 0 (.inl rfl) fill hg2 na)
 have hB:=qGT fill hg hg2 ha hb
 have ok1:okS 0 (askS ⟨{ twE 0 fill g with ph:=4,ring:=(qQ (twR fill g) ((g+1:Nat):Int) (mK 0 fill g na)).1 },(true,[],false,())⟩ (keyQ ((g+1:Nat):Int) na (mK 0 fill g na))):=qBc (qi6 ok0 _ _) _
 have okb:=qIV fill hg hg2 ha hb
 have hears':hears (askS ⟨{ twE 0 fill g with ph:=4,ring:=(qQ (twR fill g) ((g+1:Nat):Int) (mK 0 fill g na)).1 },(true,[],false,())⟩ (keyQ ((g+1:Nat):Int) na (mK 0 fill g na))).e (bA fill g na nb).e:={
  id:=rfl
  pair:=(kH 1 (.inr rfl) fill g).trans (kH 0 (.inl rfl) fill g).symm
  ph:=by show qO 4;unfold qO;omega
  gen:=by show 1≤(qQ (twR fill g) ((g+1:Nat):Int) (mK 0 fill g na)).1.1.1;rw [hk.2,jC fill hg];show 1≤(g:Int);omega
  find:=by
   show qvW (bA fill g na nb).e.ring (qQ (twR fill g) ((g+1:Nat):Int) (mK 0 fill g na)).1.1.1=((qQ (twR fill g) ((g+1:Nat):Int) (mK 0 fill g na)).1.1.2.1,true,())
   rw [hk.2,hB]
   exact qjS (r:=((twR fill g).1,(twR fill g).2.1,(((g+1:Nat):Int),mK 1 fill g nb,()),(twR fill g).2.2.2.1,((g+1:Nat):Int),())) (by rw [jC fill hg];show 1≤(g:Int);omega)
  win:=⟨by show (0:Int)≤0;omega,by show (0:Int)≤0;omega⟩
  seq:=by show (0:Int)≤900000;omega }
 obtain ⟨bt,hbt,h⟩:=qcI ok1 okb (by omega) hears' (by show qO 4;unfold qO;omega) qCs (k:=mN 0 fill g na) (qlA 0 fill hg2 ha)
 refine ⟨bt,hbt, ?_⟩
 rw [qjP (r:=(bA fill g na nb).e) (by
  rw [hB]
  show ¬ ((g+1:Nat):Int)=(qQ (twR fill g) ((g+1:Nat):Int) (mK 0 fill g na)).1.1.1
  rw [hk.2,jC fill hg];show ¬ ((g+1:Nat):Int)=(g:Int);omega)] at h
 exact h
theorem qN1 (hbs:bs.length=16):okS 2 (aH fill g na nb bs):=⟨{ (qk8 (qq7 0 (.inl rfl) fill hg hg2 ha).e (Nat.le_succ 1)) with win:=hbs },(qIV fill hg hg2 ha hb).p⟩
theorem qIU (hbt:bt.length=16):okS 2 (bH fill g na nb bt):=⟨{ (qIV fill hg hg2 ha hb).e with win:=hbt },(qIV fill hg hg2 ha hb).p⟩
theorem qOe:derD (bH fill g na nb bt).e ((g+1:Nat):Int) na=mK 0 fill g na:=qHa 0 (.inl rfl) fill g na
theorem qRg:(qQ (qlK (bH fill g na nb bt).e.ring) ((g+1:Nat):Int) (derD (bH fill g na nb bt).e ((g+1:Nat):Int) na))=(((twR fill g).1,(twR fill g).2.1,(((g+1:Nat):Int),mK 0 fill g na,()),(twR fill g).2.2.2.1,((g+1:Nat):Int),()),0,()):=by
 rw [qOe fill hg hg2 ha hb bt,show (bH fill g na nb bt).e.ring=(bA fill g na nb).e.ring from rfl,qGT fill hg hg2 ha hb]
 exact qEa fill hg hg2 (qc7 0 (.inl rfl) fill hg2 na)
theorem qRE:offK (aH fill g na nb bs) (bN fill g na nb)=aC fill g na nb bs:=by
 unfold offK
 rw [if_pos ⟨rfl,rfl⟩];rfl
theorem qRb:offK (bH fill g na nb bt) (mN 0 fill g na)=bC fill g na nb bt:=by
 have hR:=qRg fill hg hg2 ha hb bt
 have hn:=qlA 0 fill (g:=g) hg2 ha
 unfold offK
 rw [show (mN 0 fill g na).2.2.2.2.1=((g+1:Nat):Int) from rfl,show (mN 0 fill g na).2.2.2.2.2.1=na from rfl]
 rw [if_neg (fun h=>by have h:(1:Int)=0:=h.2;omega),if_neg,if_neg,if_pos (show (bH fill g na nb bt).e.ph=4 from rfl),if_pos (by rw [hR]),qDW hn rfl (by omega) (by omega)]
 ·exact congrArg Prod.fst (qnC (s:=bO fill g na nb bt) (wM (qfX hn (by omega) (by omega))) (by show qO 3;unfold qO;omega) (by show (0:Int)+1≤900000;omega) qJv)
 ·show ¬ ((g+1:Nat):Int)=(bA fill g na nb).e.ring.1.1
  rw [qGT fill hg hg2 ha hb,jC fill hg];show ¬ ((g+1:Nat):Int)=(g:Int);omega
 ·refine not_not_intro ?_
  rw [qOe fill hg hg2 ha hb bt];rfl
theorem qQE (hbt:bt.length=16):okS 2 (bO fill g na nb bt):=wD (qIU fill hg hg2 ha hb bt hbt) (jA (yD (qIU fill hg hg2 ha hb bt hbt).e.ring) _ _)
theorem qQF (hbt:bt.length=16):okS 3 (bC fill g na nb bt):=by
 have:=qBe (qIU fill hg hg2 ha hb bt hbt) (mN 0 fill g na)
 rwa [qRb fill hg hg2 ha hb] at this
theorem qN2 (hbs:bs.length=16):okS 2 (aC fill g na nb bs):=qu9 (qN1 fill hg hg2 ha hb bs hbs) 3
theorem qK1:(bC fill g na nb bt).e.ring=((twR fill g).1,(twR fill g).2.1,(((g+1:Nat):Int),mK 0 fill g na,()),(twR fill g).2.2.2.1,((g+1:Nat):Int),()):=congrArg Prod.fst (qRg fill hg hg2 ha hb bt)
theorem qRD (hbs:bs.length=16) (hbt:bt.length=16):∃ bu:List UInt64,bu.length=16∧qW ((bC fill g na nb bt).t,(aC fill g na nb bs).t,())=some ((aG fill g na nb bs bt bu).t,ackN (mN 0 fill g na) 0,true,()):=by
 have okt:=qQE fill hg hg2 ha hb bt hbt
 have oka:=qN2 fill hg hg2 ha hb bs hbs
 have hk:(bO fill g na nb bt).e.ring=_:=qK1 fill hg hg2 ha hb bt
 have hA:(aC fill g na nb bs).e.ring=_:=qmI (i:=0) (.inl rfl) fill hg hg2 ha
 have hears':hears (bO fill g na nb bt).e (aC fill g na nb bs).e:={
  id:=rfl
  pair:=(kH 0 (.inl rfl) fill g).trans (kH 1 (.inr rfl) fill g).symm
  ph:=by show qO 4;unfold qO;omega
  gen:=by rw [hk,jC fill hg];show 1≤(g:Int);omega
  find:=by
   rw [hk,hA]
   exact qjS (r:=((twR fill g).1,(twR fill g).2.1,(((g+1:Nat):Int),mK 0 fill g na,()),(twR fill g).2.2.2.1,((g+1:Nat):Int),())) (by rw [jC fill hg];show 1≤(g:Int);omega)
  win:=⟨by show (1:Int)≤0+1;omega,by show (0:Int)≤1;omega⟩
  seq:=by show (0:Int)+1≤900000;omega }
 obtain ⟨bu,hbu,h⟩:=qcI okt oka (by omega) hears' (by show qO 3;unfold qO;omega) qJv (k:=ackN (mN 0 fill g na) 0) (qfX (qlA 0 fill hg2 ha) (by omega) (by omega))
 refine ⟨bu,hbu, ?_⟩
 rw [qjP (r:=(aC fill g na nb bs).e) (by
  rw [hA,hk]
  show ¬ ((g+1:Nat):Int)=(twR fill g).1.1
  rw [jC fill hg];show ¬ ((g+1:Nat):Int)=(g:Int);omega)] at h
 exact h
theorem qRC:ansK (aG fill g na nb bs bt bu) (ackN (mN 0 fill g na) 0)=qJw (aG fill g na nb bs bt bu):=by
 refine qMH rfl ⟨?_,rfl,rfl⟩ rfl (by show (0:Int)+1≤900000;omega) qJv
 intro h
 have:(101:Int)=0:=congrArg Prod.fst h
 omega
theorem qQG (hbs:bs.length=16) (hbt:bt.length=16) (hbu:bu.length=16):okS 3 (aG fill g na nb bs bt bu):=⟨{ (qk8 (qN2 fill hg hg2 ha hb bs hbs).e (Nat.le_succ 2)) with win:=hbu },(qQF fill hg hg2 ha hb bt hbt).p⟩
theorem qOE:(qJw (aG fill g na nb bs bt bu)).e.ring=((((g+1:Nat):Int),mK 0 fill g na,()),((g:Int),twG fill g,()),noG,16,((g+1:Nat):Int),()):=by
 show (qbI (mA 0 fill g na).e.ring).1=_
 rw [qmI (.inl rfl) fill hg hg2 ha]
 unfold qbI
 rw [if_neg,jC fill hg]
 intro h
 have:((g+1:Nat):Int)=0:=congrArg Prod.fst h
 omega
end
theorem qlL (fill gens:UInt8) (na nb:BB) (ha:na.length=8) (hb:nb.length=8):wH ((fill,gens,na,nb,()),())=some (true,()):=by
 unfold wH
 rw [qtU]
 refine (qF rfl).trans ?_
 dsimp only
 obtain ⟨g,hg,hg5,e1,e2⟩:=qvR gens
 have hg2:g≤50:=by omega
 have hcut:∀ n:BB,n.length=8→cut n (nat 0) (nsub (nat (ofn 8)) (nat 0))=n:=by
  intro n h8
  unfold cut
  rw [show nat 0=0 from rfl,show nsub (nat (ofn 8)) 0=8 from rfl,List.drop_zero,List.take_of_length_le (by omega)]
 have hs:sub na 0 (ofn 8)=na:=by
  unfold sub
  rw [show (0:Int).toNat=0 from rfl,List.drop_zero,show (ofn 8).toNat=8 from rfl,List.take_of_length_le (by omega)]
 rw [e1,e2,hcut na ha,hcut nb hb,hs,qkD fill hg (by omega)]
 refine (qF rfl).trans ((qH rfl).trans ?_)
 dsimp only
 rw [jO (ql0 0 (.inl rfl) fill hg (by omega)) (by omega),qEj 0 fill hg hg2 ha]
 refine (qF rfl).trans ((qH rfl).trans ?_)
 dsimp only
 rw [show jY (((tw 1 fill g).t.1,(mA 0 fill g na).t.2.1,(tw 1 fill g).t.2.2),nb,())=_ from jO (qLu fill hg hg2 ha) (by omega) nb,qOj fill hg hg2 ha hb]
 refine (qF rfl).trans ?_
 dsimp only
 obtain ⟨bs,hbs,h1⟩:=qRG fill hg hg2 ha hb
 obtain ⟨bt,hbt,h2⟩:=qRF fill hg hg2 ha hb
 rw [h1]
 refine (qF rfl).trans ?_
 dsimp only
 rw [show qW ((mA 0 fill g na).t,((bA fill g na nb).t.1,(bA fill g na nb).t.2.1,()),())=_ from h2]
 refine (qF rfl).trans ?_
 dsimp only
 refine (qF (a:=(false,())) rfl).trans ((qB rfl).trans ?_)
 rw [jG (qN1 fill hg hg2 ha hb bs hbs) (by omega) _ (by show nb.length≤1000;omega),qRE fill hg hg2 ha hb bs]
 refine (qF rfl).trans ?_
 dsimp only
 rw [show zX (((⟨{ (bA fill g na nb).e with win:=(1,bt,()) },(mA 0 fill g na).p⟩:Si).t.1,(bA fill g na nb).t.2.1,(⟨{ (bA fill g na nb).e with win:=(1,bt,()) },(mA 0 fill g na).p⟩:Si).t.2.2),mN 0 fill g na,())=_ from jG (qIU fill hg hg2 ha hb bt hbt) (by omega) (mN 0 fill g na) (by show na.length≤1000;omega),qRb fill hg hg2 ha hb bt]
 refine (qF rfl).trans ?_
 dsimp only
 refine (qF (a:=(false,())) ?_).trans ((qB rfl).trans ?_)
 ·refine (qB rfl).trans ((qB (bq_f rfl)).trans ((qH rfl).trans ((qH rfl).trans ((qB (bq_f rfl)).trans ((qB rfl).trans ?_)))))
  rfl
 obtain ⟨bu,hbu,h5⟩:=qRD fill hg hg2 ha hb bs bt hbs hbt
 rw [h5]
 refine (qF rfl).trans ((qB rfl).trans ?_)
 dsimp only
 rw [z1 (qQG fill hg hg2 ha hb bs bt bu hbs hbt hbu) (by omega),qRC fill hg hg2 ha hb bs bt bu]
 refine (qF rfl).trans ((qE rfl).trans ((qE rfl).trans ?_))
 dsimp only
 rw [show (qJw (aG fill g na nb bs bt bu)).t.1.2.2.2.2.2.2.2.2.2.2.1=(qJw (aG fill g na nb bs bt bu)).e.ring from rfl,show (bC fill g na nb bt).t.1.2.2.2.2.2.2.2.2.2.2.1=(bC fill g na nb bt).e.ring from rfl,qOE fill hg hg2 ha hb bs bt bu,qK1 fill hg hg2 ha hb bt]
 refine (qE (xH rfl)).trans ?_
 dsimp only
 rw [qT,qdM]
 refine (qF rfl).trans ((qE rfl).trans ((qH (by unfold ln;rw [ha];rfl)).trans ?_))
 rw [show x3 ((mA 0 fill g na).t.1,((g+1:Nat):Int),na,())=_ from qdO (mA 0 fill g na).e ((g+1:Nat):Int) na (by show (twK fill).length≤1000000;rw [qkE];omega) (by omega)]
 refine (qF rfl).trans ?_
 dsimp only
 rw [show derD (mA 0 fill g na).e ((g+1:Nat):Int) na=mK 0 fill g na from rfl,qT,qdM]
 rfl
theorem qCo (x:denL [.pair (.int .u8) (.pair (.int .u8) (.pair (.ar 8 (.int .u8)) (.pair (.ar 8 (.int .u8)) .unit)))]) (h:okL [.pair (.int .u8) (.pair (.int .u8) (.pair (.ar 8 (.int .u8)) (.pair (.ar 8 (.int .u8)) .unit)))] x):wH x=some (true,()):=qlL x.1.1 x.1.2.1 x.1.2.2.1 x.1.2.2.2.1 h.1.2.2.1.1 h.1.2.2.2.1.1
end Yp
namespace Yp
open Go
set_option maxRecDepth 100000
set_option maxHeartbeats 2000000
theorem qGV {h:THub} (hr:qDV h):qDV (v5 h).1:=by
 refine ⟨?_,qp6 hr.2⟩
 rw [qy9,qA8];exact hr.1
theorem qGY {s:Si} (h:y7 s.e) (v:TEnv) (key:BB):y7 (qhB s v key).1.e:=by
 unfold qhB
 split
 ·exact { h with hub:=qGV h.hub }
 ·exact h
theorem qJQ        {e : En'} (h : y7     e) (hl : qO      e.ph) (hs : ¬ e.seq = 4611686018427387904) : y7     { e with seq := e.seq + 1 } := { h with
  seq := by
    have h1 := h.seq
    unfold z8    at h1
    show 0 ≤ e.seq + 1 ∧ e.seq + 1 ≤ 4611686018427387904
    omega
  link := ⟨h.link.1, .inl (h.link.2.resolve_right (fun q => q.1 hl))⟩ }
def qQ7 (a b:En'):Prop:=a.ph=b.ph∧a.ring=b.ring∧wC a=wC b
theorem qv3 (s:Si) (v:TEnv) (key:BB):qQ7 (qhB s v key).1.e s.e:=by unfold qhB;split <;> exact ⟨rfl,rfl,rfl⟩
theorem qEL (s:Si) (b:BB):qQ7 (qa4 s b).1.e s.e:=by
 unfold qa4
 split
 ·exact ⟨rfl,rfl,rfl⟩
 split
 ·exact ⟨rfl,rfl,rfl⟩
 split
 ·exact ⟨rfl,rfl,rfl⟩
 ·dsimp only
  split
  ·exact qv3 s _ _
  ·exact qv3 s _ _
theorem qGX {s:Si} (h:y7 s.e) (b:BB):y7 (qa4 s b).1.e:=by
 unfold qa4
 split
 ·exact h
 split
 ·exact h
 split
 ·exact h
 ·rename_i h1 h2 h3
  have he:=qGY h (jQ s.e b) s.e.ring.1.2.1
  have hc:=qv3 s (jQ s.e b) s.e.ring.1.2.1
  have hq:=qoT s (jQ s.e b) s.e.ring.1.2.1
  dsimp only
  split
  ·exact qJQ he (by rw [hc.1];exact Classical.not_not.1 h2) (by rw [hq];exact h3)
  ·exact he
theorem qu1 {s:Si} {q:z9} (hr:z4 (stN s q)) (h1:¬ q.2.1=1):qhZ s q=(qa4 (askS s q) (qhP (stN s q))).1:=by
 have e:wrN (q.1,q.2.1,vL s.e.stan,q.2.2.2)=(qhP (stN s q),0,()):=qML hr
 unfold qhZ
 rw [e,qFA hr,qCf hr,if_pos ⟨rfl,rfl⟩,if_neg h1]
theorem qy8 {s:Si} {q:z9} (hr:z4 (stN s q)):qIC (q.2.1,vL s.e.stan,8,3,qhP (stN s q),()):=by
 have h:=qeW s.e.stan
 exact .inr ⟨⟨hr.1,h.1,h.2,(wM hr).1,(wM hr).2⟩,by show (1:Int)≤8;omega,by show (8:Int)≤8;omega,by show (0:Int)≤3;omega,by show (3:Int)≤3;omega⟩
structure keeps (t:Prop) (i:Int) (s x:En'):Prop where
 right:y7 x
 pair:wC x=wC s
 cur:x.ring.1.1=s.ring.1.1∨t∧s.ring.1.1 < x.ring.1.1∧x.ring.1.1=s.ring.2.2.1.1
 ph:x.ph=s.ph∨(i=0∧x.ph=4∧s.ph=3)∨(0 < i∧x.ph=3∧s.ph=4)
theorem qcE {t:Prop} {i:Int} {s:En'} {x:Si} (h:keeps t i s x.e) (b:BB):keeps t i s (qa4 x b).1.e:=by
 obtain ⟨c1,c2,c3⟩:=qEL x b
 exact ⟨qGX h.right b,c3.trans h.pair,by rw [c2];exact h.cur,by rw [c1];exact h.ph⟩
theorem qaK {t:Prop} {i:Int} {s:En'} (h:y7 s):keeps t i s s:=⟨h,rfl, .inl rfl, .inl rfl⟩
theorem qg2 {t:Prop} {i:Int} {s:Si} (h:y7 s.e) (k:Nat):keeps t i s.e (qbF s k).e:=⟨{ h with },rfl, .inl rfl, .inl rfl⟩
theorem qzD (r:z6) (no:Int) (k:BB):(qQ r no k).1.1=r.1:=by
 unfold qQ
 split
 ·rfl
 ·split <;> rfl
theorem qjG {e:En'} (h:y7 e) (hl:qO e.ph):0 < e.own∧0 < e.oth∧0 < e.ring.1.1∧(¬ e.ph=4∨0 < e.ring.2.2.1.1):=(h.link.2.resolve_right (fun q=>q.1 hl)).2
theorem qA1 {e:En'} (h:y7 e) (hl:qO e.ph):¬ e.ring=noR:=fun q=>by
 have:=(qjG h hl).2.2.1
 rw [q] at this
 exact absurd this (by decide)
theorem qf5           {e : En'} (h : y7     e) (hl : qO      e.ph) {r : z6   } (hr : y6     r) (h0 : 0 < r.1.1) : y7     (qm4   e r) := { h with
  ph := ⟨by show (0 : Int) ≤ 3; omega, by show (3 : Int) ≤ 8; omega⟩
  ring := hr
  ask := .inl rfl
  queue := ⟨h.queue.1, .inr (.inl rfl), h.queue.2.2⟩
  link := ⟨.inl rfl, .inl ⟨by show qO      3; unfold qO     ; omega, (qjG     h hl).1, (qjG     h hl).2.1, h0, .inl (by show ¬ (3 : Int) = 4; omega)⟩⟩ }
theorem qvJ {t:Prop} {i:Int} (hi:0 < i) {s:Si} (h:y7 s.e) (hl:qO s.e.ph):keeps t i s.e (wQ s).e:=by
 unfold wQ
 split
 ·rename_i h4
  exact ⟨qf5 h hl (r:=qlK s.e.ring) (yD h.ring) (qjG h hl).2.2.1,rfl, .inl rfl, .inr (.inr ⟨hi,rfl,h4⟩)⟩
 ·exact qaK h
theorem qLQ {s:Si} (h:y7 s.e) (hl:qO s.e.ph) (n:z9):keeps False 2 s.e (offK s n).e:=by
 unfold offK
 split
 ·exact qg2 h 3
 split
 ·exact qcE (qaK h) _
 split
 ·exact qcE (qaK h) _
 split
 ·rename_i h4
  split
  ·refine qcE (x:=⟨qm4 s.e (qQ (qlK s.e.ring) n.2.2.2.2.1 (derD s.e n.2.2.2.2.1 n.2.2.2.2.2.1)).1,s.p⟩) ?_ _
   have hc:=qzD (qlK s.e.ring) n.2.2.2.2.1 (derD s.e n.2.2.2.2.1 n.2.2.2.2.2.1)
   have hr:=jA (yD h.ring) n.2.2.2.2.1 (derD s.e n.2.2.2.2.1 n.2.2.2.2.2.1)
   generalize (qQ (qlK s.e.ring) n.2.2.2.2.1 (derD s.e n.2.2.2.2.1 n.2.2.2.2.2.1)).1=r at hc hr
   have hc:r.1=s.e.ring.1:=hc
   exact ⟨qf5 h hl hr (by rw [hc];exact (qjG h hl).2.2.1),rfl, .inl (by show r.1.1=_;rw [hc]), .inr (.inr ⟨by omega,rfl,h4⟩)⟩
  ·exact qg2 h 3
 ·rename_i h4
  split
  ·refine qcE (x:=⟨qFL s.e (qQ s.e.ring n.2.2.2.2.1 (derD s.e n.2.2.2.2.1 n.2.2.2.2.2.1)).1,s.p⟩) ?_ _
   have hc:=qzD s.e.ring n.2.2.2.2.1 (derD s.e n.2.2.2.2.1 n.2.2.2.2.2.1)
   have hr:=jA h.ring n.2.2.2.2.1 (derD s.e n.2.2.2.2.1 n.2.2.2.2.2.1)
   generalize (qQ s.e.ring n.2.2.2.2.1 (derD s.e n.2.2.2.2.1 n.2.2.2.2.2.1)).1=r at hc hr
   have hk:=qjG h hl
   refine ⟨{ h with ring:=hr,link:=⟨h.link.1, .inl ⟨hl,hk.1,hk.2.1, ?_, .inl h4⟩⟩ },rfl, .inl ?_, .inl rfl⟩
   ·show 0 < r.1.1
    rw [hc];exact hk.2.2.1
   ·show r.1.1=_
    rw [hc]
  ·exact qg2 h 3
theorem qLS {s:Si} (h:y7 s.e) (hl:qO s.e.ph) (n:z9):keeps True 2 s.e (ansK s n).e:=by
 unfold ansK
 split
 ·exact qg2 h 3
 split
 ·exact qvJ (by omega) h hl
 ·rename_i h1 h2
  simp only [not_or,Classical.not_not] at h1
  have hk:=qjG h hl
  have hp:0 < s.e.ring.2.2.1.1:=hk.2.2.2.resolve_left (fun q=>q h1.1)
  have hng:¬ s.e.ring.2.2.1=noG:=fun q=>by
   rw [q] at hp
   exact absurd hp (by decide)
  have hlt:s.e.ring.1.1 < s.e.ring.2.2.1.1:=by
   rcases h.ring with q | q
   ·exact absurd q (qA1 h hl)
   ·exact (q.2.2.2.2.2.resolve_left hng).2
  have hr:=qcO h.ring
  have ht:(qbI s.e.ring).1=(s.e.ring.2.2.1,s.e.ring.1,noG,16,s.e.ring.2.2.2.2):=by unfold qbI;rw [if_neg hng]
  rw [ht] at hr ⊢
  have hE:=qf5 h hl hr hp
  rw [qu1 (s:=⟨qm4 s.e (s.e.ring.2.2.1,s.e.ring.1,noG,16,s.e.ring.2.2.2.2),s.p⟩) qhC (by show ¬ (301:Int)=1;omega)]
  refine qcE (x:=askS ⟨qm4 s.e (s.e.ring.2.2.1,s.e.ring.1,noG,16,s.e.ring.2.2.2.2),s.p⟩ (qsZ 301)) ?_ _
  have hs:=qeW s.e.stan
  refine ⟨{ hE with stan:=⟨by show 0≤vL s.e.stan;omega,by show vL s.e.stan≤999999;omega⟩,ask:=qy8 (s:=⟨qm4 s.e (s.e.ring.2.2.1,s.e.ring.1,noG,16,s.e.ring.2.2.2.2),s.p⟩) qhC,link:=⟨.inr ⟨rfl,rfl⟩,hE.link.2⟩ },rfl, .inr ⟨trivial,hlt,rfl⟩, .inr (.inr ⟨by omega,rfl,h1.1⟩)⟩
theorem qLR {s:Si} (h:y7 s.e) (hl:qO s.e.ph) (nonce:BB):keeps False 0 s.e (newK s nonce).1.e∧((newK s nonce).2=0∧(newK s nonce).1.e.ph=4∧s.e.ph=3∨¬ (newK s nonce).2=0∧(newK s nonce).1=s):=by
 unfold newK
 split
 ·exact ⟨qaK h, .inr ⟨by show ¬ (1:Int)=0;omega,rfl⟩⟩
 split
 ·exact ⟨qaK h, .inr ⟨by show ¬ (7:Int)=0;omega,rfl⟩⟩
 split
 ·exact ⟨qaK h, .inr ⟨by show ¬ (9:Int)=0;omega,rfl⟩⟩
 split
 ·rename_i h1
  exact ⟨qaK h, .inr ⟨h1,rfl⟩⟩
 ·rename_i h8 hg h3 hx
  simp only [not_or,Classical.not_not] at h8 hg h3 hx
  have hk:=qjG h hl
  have hR:=h.ring.resolve_left (qA1 h hl)
  obtain ⟨g1,g2,g3,g4, -, -⟩:=hR
  have h1:=g1.1
  have htop:s.e.ring.2.2.2.2.1 < 2147483647∧qh8 s.e.ring=(s.e.ring.2.2.2.2.1+1,0,()):=by
   unfold qh8 at hx ⊢
   rw [if_neg (qA1 h hl)] at hx ⊢
   by_cases ht:2147483647≤s.e.ring.2.2.2.2.1
   ·rw [if_pos ht] at hx
    have:(10:Int)=0:=hx
    omega
   ·rw [if_neg ht]
    exact ⟨by omega,rfl⟩
  rw [htop.2]
  have hlen:(derD s.e (s.e.ring.2.2.2.2.1+1) nonce).length=32:=by
   unfold derD
   have hp:=qs6 h.own h.oth
   exact qg1 ⟨hp.1,hp.2,by omega,by omega⟩
  dsimp only
  generalize hgg:s.e.ring.2.2.2.2.1+1=g at hlen
  generalize derD s.e g nonce=k at hlen
  have hro:(qQ s.e.ring g k).1=(s.e.ring.1,s.e.ring.2.1,(g,k,()),s.e.ring.2.2.2.1,max s.e.ring.2.2.2.2.1 g,()):=by
   unfold qQ
   rw [if_neg (not_not_intro ⟨by show 1≤g;omega,by show g≤2147483647;omega,hlen⟩),if_neg]
   rintro (q | q | q)
   ·exact qA1 h hl q
   ·omega
   ·omega
  have hr:=jA h.ring g k
  have hq:z4 (stN ⟨{ s.e with ph:=4,ring:=(qQ s.e.ring g k).1 },s.p⟩ (keyQ g nonce k)):=qlC (by omega) (by omega) h8
  rw [qu1 hq (by show ¬ (101:Int)=1;omega)]
  have hs:=qeW s.e.stan
  have base:keeps False 0 s.e (askS ⟨{ s.e with ph:=4,ring:=(qQ s.e.ring g k).1 },s.p⟩ (keyQ g nonce k)).e:=by
   refine ⟨{ h with ph:=⟨by show (0:Int)≤4;omega,by show (4:Int)≤8;omega⟩,stan:=⟨by show 0≤vL s.e.stan;omega,by show vL s.e.stan≤999999;omega⟩,ring:=hr,ask:=qy8 hq,queue:=⟨h.queue.1, .inr (.inr (.inl rfl)),h.queue.2.2⟩,link:=⟨.inl rfl, .inl ⟨by show qO 4;unfold qO;omega,hk.1,hk.2.1, ?_, .inr ?_⟩⟩ },rfl, .inl ?_, .inr (.inl ⟨rfl,rfl,h3.1⟩)⟩
   ·show 0 < (qQ s.e.ring g k).1.1.1
    rw [hro];exact hk.2.2.1
   ·show 0 < (qQ s.e.ring g k).1.2.2.1.1
    rw [hro];show 0 < g;omega
   ·show (qQ s.e.ring g k).1.1.1=_
    rw [hro]
  refine ⟨qcE base _, .inl ⟨rfl, ?_,h3.1⟩⟩
  exact (qEL _ _).1
theorem wS {X S:Si} {R:Bool} {i:Int} (hw:X.e.win.2.1.length=16) (h:keeps (R=false∧i=2) i S.e X.e) :
  (ob (x4 (X.t.1,())) fun (a:Bool×Unit)=>ob (sel (bnot a.1) (some (true,())) (ob (jE (X.t.1,())) fun (a:List Int×Unit)=>ob (jE (S.t.1,())) fun (a_6:List Int×Unit)=>sel (bnot (all2 (fun (p q:Int)=>beq p q) a.1 a_6.1)) (some (true,())) (sel (lt X.t.1.2.2.2.2.2.2.2.2.2.2.1.1.1 S.t.1.2.2.2.2.2.2.2.2.2.2.1.1.1) (some (true,())) (sel (bnot (beq X.t.1.2.2.2.2.2.2.2.2.2.2.1.1.1 S.t.1.2.2.2.2.2.2.2.2.2.2.1.1.1)) (sel R (some (true,())) (sel (bnot (beq i 2)) (some (true,())) (some (bnot (beq X.t.1.2.2.2.2.2.2.2.2.2.2.1.1.1 S.t.1.2.2.2.2.2.2.2.2.2.2.1.2.2.1.1),())))) (some (false,())))))) fun (a:Bool×Unit)=>sel a.1 (some (LS.rt (false,()))) (ob (sel (bnot (beq X.t.1.2.2.1 S.t.1.2.2.1)) (sel (lt 0 i) (sel (beq i 0) (some (true,())) (sel (bnot (beq X.t.1.2.2.1 3)) (some (true,())) (some (bnot (beq S.t.1.2.2.1 4),())))) (sel (bnot (beq X.t.1.2.2.1 4)) (sel (beq i 0) (some (true,())) (sel (bnot (beq X.t.1.2.2.1 3)) (some (true,())) (some (bnot (beq S.t.1.2.2.1 4),())))) (sel (bnot (beq S.t.1.2.2.1 3)) (sel (beq i 0) (some (true,())) (sel (bnot (beq X.t.1.2.2.1 3)) (some (true,())) (some (bnot (beq S.t.1.2.2.1 4),())))) (some (false,()))))) (some (false,()))) fun (a:Bool×Unit)=>sel a.1 (some (LS.rt (false,()))) (some (LS.nx (false,i64 (iadd i 1),())))))=(some (LS.nx (false,i64 (iadd i 1),())):Option (LS (Bool×Int×Unit) (Bool×Unit))):=by
 rw [show x4 (X.t.1,())=_ from qhS X.e hw,D_t h.right]
 refine (qF rfl).trans ?_
 refine (qF (a:=(false,())) ?_).trans ((qB rfl).trans ?_)
 ·refine (qB rfl).trans ?_
  rw [show jE (X.t.1,())=_ from vR X.e,show jE (S.t.1,())=_ from vR S.e]
  refine (qF rfl).trans ((qF rfl).trans ?_)
  dsimp only
  rw [h.pair,qqU]
  refine (qB rfl).trans ?_
  rcases h.cur with e | ⟨t,e1,e2⟩
  ·exact (qB (lt_f (by show ¬ X.e.ring.1.1 < S.e.ring.1.1;omega))).trans (qB (bq_f (show X.e.ring.1.1=S.e.ring.1.1 from e)))
  ·refine (qB (lt_f (by show ¬ X.e.ring.1.1 < S.e.ring.1.1;omega))).trans ((qE (bq_t (by show ¬ X.e.ring.1.1=S.e.ring.1.1;omega))).trans ((qB t.1).trans ((qB (bq_f t.2)).trans ?_)))
   rw [show bnot (beq X.t.1.2.2.2.2.2.2.2.2.2.2.1.1.1 S.t.1.2.2.2.2.2.2.2.2.2.2.1.2.2.1.1)=false from bq_f e2]
 ·refine (qF (a:=(false,())) ?_).trans (qB rfl)
  rcases h.ph with e | ⟨hi,e1,e2⟩ | ⟨hi,e1,e2⟩
  ·exact qB (bq_f e)
  ·exact (qE (bq_t (by show ¬ X.e.ph=S.e.ph;omega))).trans ((qB (lt_f (by omega))).trans ((qB (bq_f e1)).trans (qB (bq_f e2))))
  ·refine (qE (bq_t (by show ¬ X.e.ph=S.e.ph;omega))).trans ((qE (lt_t hi)).trans ((qB (vM (by omega))).trans ((qB (bq_f e1)).trans ?_)))
   rw [show bnot (beq S.t.1.2.2.1 4)=false from bq_f e2]
theorem qy2 {A S:Si} {e:Int} {n:Nat} (hs:okS n S) (hn:n≤900000) (h:e=0∧A.e.ph=4∧S.e.ph=3∨¬ e=0∧A=S) :
  (ob (sel true (sel (beq A.t.1.2.2.1 4) (sel (beb (beq e 0) (beq S.t.1.2.2.1 3)) (sel (beq e 0) (some (true,())) (ob (zV (A.t,S.t,())) fun (a:Bool×Unit)=>some (a.1,()))) (some (false,()))) (sel (beb (beq e 0) false) (sel (beq e 0) (some (true,())) (ob (zV (A.t,S.t,())) fun (a:Bool×Unit)=>some (a.1,()))) (some (false,())))) (some (false,()))) fun (a:Bool×Unit)=>some (a.1,()))=(some (true,()):Option (Bool×Unit)):=by
 refine (qF (a:=(true,())) ?_).trans rfl
 refine (qE rfl).trans ?_
 rcases h with ⟨h1,h2,h3⟩ | ⟨h1,rfl⟩
 ·refine (qE (xH h2)).trans ?_
  rw [show beq S.t.1.2.2.1 3=true from xH h3,xH h1];rfl
 ·rw [qtT hs (by omega),vM h1]
  by_cases h4:A.e.ph=4
  ·refine (qE (xH h4)).trans ?_
   rw [show beq A.t.1.2.2.1 3=false from vM (by show ¬ A.e.ph=3;omega)];rfl
  ·exact (qB (vM h4)).trans rfl
theorem up3 {α:Type} (a b c d z:α):nth (upd [a,b,c] (nat 2) d) (nat 0) z=a∧nth (upd [a,b,c] (nat 2) d) (nat 1) z=b∧nth (upd [a,b,c] (nat 2) d) (nat 2) z=d:=⟨rfl,rfl,rfl⟩
theorem qjH (s:Si) (hw:qCC s.e) (n:z9) (nonce:BB):kW (s.t,n,nonce,())=some (true,()):=by
 unfold kW
 rw [qtU]
 refine (qF rfl).trans ?_
 dsimp only
 rw [qlU s hw]
 refine (qF rfl).trans ?_
 rw [show s.t.1.2.2.1=s.e.ph from rfl,xK,qEG,kS]
 by_cases h1:mayS s
 ·by_cases h2:qO s.e.ph
  ·by_cases h3:fewN n
   ·by_cases h4:z4 n
    ·by_cases h5:n.2.1=101
     ·by_cases h6:nonce.length≤20
      ·have hok:=qLs hw h1
       have hr:=h1.right
       have hno:n.2.2.2.2.2.1.length≤1000:=by have:=h3.1;omega
       refine (qF (a:=(false,())) ?_).trans ((qB rfl).trans ?_)
       ·rw [D_t h1,D_t h2,D_t h3,D_t h4,bq_f h5,lt_f (show ¬ (20:Int) < len nonce by simp only [go_sem,Int.reduceToNat];omega)];rfl
       ·have kN:=qLR hr h2 nonce
        have kG:=qvJ (t:=False) (i:=1) (by omega) hr h2
        have oN:=qBg hok nonce
        have oG:=qvQ hok
        rw [jO hok (by omega),kR]
        refine (qF rfl).trans ((qF rfl).trans ?_)
        dsimp only
        cases hrq:n.1
        ·refine (qB rfl).trans ?_
         have kA:=qLS hr h2 n
         have oA:=qIc hok n
         rw [z1 hok (by omega)]
         refine (qF rfl).trans ((qH rfl).trans ?_)
         dsimp only
         generalize hf:(fun (x_1:Bool×Int×Unit)=>(_:Option (LS (Bool×Int×Unit) (Bool×Unit))))=f
         have f0:f (false,0,())=some (.nx (false,1,())):=by
          subst hf
          refine (qE rfl).trans ((qH rfl).trans ?_)
          dsimp only
          rw [(up3 (newK s nonce).1.t (wQ s).t s.t (ansK s n).t _).1]
          exact wS (X:=(newK s nonce).1) (S:=s) (i:=0) oN.e.win { kN.1 with cur:=kN.1.cur.imp id (fun q=>q.1.elim) }
         have f1:f (false,1,())=some (.nx (false,2,())):=by
          subst hf
          refine (qE rfl).trans ((qH rfl).trans ?_)
          dsimp only
          rw [(up3 (newK s nonce).1.t (wQ s).t s.t (ansK s n).t _).2.1]
          exact wS (X:=wQ s) (S:=s) (i:=1) oG.e.win { kG with cur:=kG.cur.imp id (fun q=>q.1.elim) }
         have f2:f (false,2,())=some (.nx (false,3,())):=by
          subst hf
          refine (qE rfl).trans ((qH rfl).trans ?_)
          dsimp only
          rw [(up3 (newK s nonce).1.t (wQ s).t s.t (ansK s n).t _).2.2]
          exact wS (X:=ansK s n) (S:=s) (i:=2) oA.e.win { kA with cur:=kA.cur.imp id (fun q=>⟨⟨rfl,rfl⟩,q.2⟩) }
         have f3:f (false,3,())=some (.ex 0 (false,3,())):=by subst hf;exact qB rfl
         refine (zA (show loop f (false,0,())=some (.ex 0 (false,3,())) from (jN f0).trans ((jN f1).trans ((jN f2).trans (qV f3))))).trans ((qH g62).trans ?_)
         exact qy2 hok (by omega) kN.2
        ·refine (qE rfl).trans ?_
         have kA:=qLQ hr h2 n
         have oA:=qBe hok n
         rw [jG hok (by omega) n hno]
         refine (qF rfl).trans ((qH rfl).trans ?_)
         dsimp only
         generalize hf:(fun (x_1:Bool×Int×Unit)=>(_:Option (LS (Bool×Int×Unit) (Bool×Unit))))=f
         have f0:f (false,0,())=some (.nx (false,1,())):=by
          subst hf
          refine (qE rfl).trans ((qH rfl).trans ?_)
          dsimp only
          rw [(up3 (newK s nonce).1.t (wQ s).t s.t (offK s n).t _).1]
          exact wS (X:=(newK s nonce).1) (S:=s) (i:=0) oN.e.win { kN.1 with cur:=kN.1.cur.imp id (fun q=>q.1.elim) }
         have f1:f (false,1,())=some (.nx (false,2,())):=by
          subst hf
          refine (qE rfl).trans ((qH rfl).trans ?_)
          dsimp only
          rw [(up3 (newK s nonce).1.t (wQ s).t s.t (offK s n).t _).2.1]
          exact wS (X:=wQ s) (S:=s) (i:=1) oG.e.win { kG with cur:=kG.cur.imp id (fun q=>q.1.elim) }
         have f2:f (false,2,())=some (.nx (false,3,())):=by
          subst hf
          refine (qE rfl).trans ((qH rfl).trans ?_)
          dsimp only
          rw [(up3 (newK s nonce).1.t (wQ s).t s.t (offK s n).t _).2.2]
          exact wS (X:=offK s n) (S:=s) (i:=2) oA.e.win { kA with cur:=kA.cur.imp id (fun q=>q.1.elim) }
         have f3:f (false,3,())=some (.ex 0 (false,3,())):=by subst hf;exact qB rfl
         refine (zA (show loop f (false,0,())=some (.ex 0 (false,3,())) from (jN f0).trans ((jN f1).trans ((jN f2).trans (qV f3))))).trans ((qH g62).trans ?_)
         exact qy2 hok (by omega) kN.2
      ·refine (qF (a:=(true,())) ?_).trans rfl
       rw [D_t h1,D_t h2,D_t h3,D_t h4,bq_f h5,lt_t (show (20:Int) < len nonce by simp only [go_sem,Int.reduceToNat];omega)];rfl
     ·refine (qF (a:=(true,())) ?_).trans rfl
      rw [D_t h1,D_t h2,D_t h3,D_t h4,bq_t h5];rfl
    ·refine (qF (a:=(true,())) ?_).trans rfl
     rw [D_t h1,D_t h2,D_t h3,D_f h4];rfl
   ·refine (qF (a:=(true,())) ?_).trans rfl
    rw [D_t h1,D_t h2,D_f h3];rfl
  ·refine (qF (a:=(true,())) ?_).trans rfl
   rw [D_t h1,D_f h2];rfl
 ·refine (qF (a:=(true,())) ?_).trans rfl
  rw [D_f h1];rfl
theorem qyV (x:denL [tyS,tyN, .sl (.int .u8)]) (h:okL [tyS,tyN, .sl (.int .u8)] x):kW x=some (true,()):=by
 obtain ⟨s,hs,hw⟩:=qIu h.1
 have:=qjH s hw x.2.1 x.2.2.1
 rw [← hs] at this
 exact this
end Yp