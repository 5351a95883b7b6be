/- A part of the proof of the statements of this seat: plain functions, and laws on them. No condition of its own. -/
import Derived.Test.YtbpaehkcjccplaaGreatDoorQ1
import Derived.KernelRfl
set_option linter.unusedVariables false
set_option linter.unusedSimpArgs false
namespace Yp
open Go
set_option maxRecDepth 100000
set_option maxHeartbeats 2000000
abbrev WT:=Int×List UInt64×Unit
abbrev qOM:=Int×BB×Unit
abbrev EvT:=Int×List Int×Int×BB×Unit
structure En' where
 id:Int
 key:BB
 ph:Int
 store:ST
 power:Int
 own:Int
 oth:Int
 seen:Int
 seq:Int
 win:WT
 ring:jF
 ask:TAsk
 stan:Int
 day:Int
 queue:List BB
 hub:THub
 out:List qOM
 got:List EvT
 cnt:List Int
def En'.t (e:En'):TEnd:=(e.id,e.key,e.ph,e.store,e.power,e.own,e.oth,e.seen,e.seq,e.win,e.ring,e.ask,e.stan,e.day,e.queue,e.hub,e.out,e.got,e.cnt,())
structure Si where
 e:En'
 p:qa2
def Si.t (s:Si):kG:=(s.e.t,s.p,())
def noW:WT:=(0,[u64 0,u64 0,u64 0,u64 0,u64 0,u64 0,u64 0,u64 0,u64 0,u64 0,u64 0,u64 0,u64 0,u64 0,u64 0,u64 0],())
structure okE (n:Nat) (e:En'):Prop where
 id:e.id=0∨e.id=1
 key:e.key.length≤1000
 ph:0≤e.ph∧e.ph≤8
 store:qGL e.store
 own:jA e.own
 oth:jA e.oth
 seq:jA e.seq
 ring:w9 e.ring
 up:e.hub.1.length=4
 next:0≤e.hub.2.2.2.1∧e.hub.2.2.2.1 < 4
 out:e.out.length≤n
 got:e.got.length≤n
 cnt:e.cnt.length=4
 win:e.win.2.1.length=16
 feed:e.hub.2.1.length=4
 life:e.hub.2.2.1.length=4
 queue:e.queue.length≤1000
structure okS (n:Nat) (s:Si):Prop where
 e:okE n s.e
 p:s.p.2.1.length≤n
def qaM (e:En'):List Int:=if e.id=0 then [e.own,e.oth] else if e.id=1 then [e.oth,e.own] else [0,0]
theorem qaQ (hi n:Int):vH (hi,[n],())=some (D (0≤n∧n≤hi),()):=by
 unfold vH
 dsimp only
 by_cases h:0≤n∧n≤hi
 ·rw [D_t h]
  refine (qX (vF (y:=(false,1,())) ?_)).trans ((qX (qU (y:=(false,1,())) (k:=0) rfl)).trans rfl)
  refine (qE rfl).trans ((qH rfl).trans ?_)
  dsimp only
  rw [show nth [n] (nat 0) 0=n from rfl]
  simp (disch:=omega) only [go_sem,Int.reduceToNat]
  rfl
 ·rw [D_f h]
  refine (qX (qdI (r:=(false,())) ?_)).trans rfl
  refine (qE rfl).trans ((qH rfl).trans ?_)
  dsimp only
  rw [show nth [n] (nat 0) 0=n from rfl]
  refine (qF (a:=(true,())) (by simp only [go_sem,Int.reduceToNat];try exact w8 (by omega))).trans ?_
  rfl
theorem qrK (hi n m:Int):vH (hi,[n,m],())=some (D ((0≤n∧n≤hi)∧(0≤m∧m≤hi)),()):=by
 unfold vH
 dsimp only
 by_cases h:0≤n∧n≤hi
 ·refine (qX (vF (y:=(false,1,())) ?_)).trans ?_
  ·refine (qE rfl).trans ((qH rfl).trans ?_)
   dsimp only
   rw [show nth [n,m] (nat 0) 0=n from rfl]
   simp (disch:=omega) only [go_sem,Int.reduceToNat]
   rfl
  ·by_cases h':0≤m∧m≤hi
   ·rw [D_t ⟨h,h'⟩]
    refine (qX (vF (y:=(false,2,())) ?_)).trans ((qX (qU (y:=(false,2,())) (k:=0) rfl)).trans rfl)
    refine (qE rfl).trans ((qH rfl).trans ?_)
    dsimp only
    rw [show nth [n,m] (nat 1) 0=m from rfl]
    simp (disch:=omega) only [go_sem,Int.reduceToNat]
    rfl
   ·rw [D_f (fun x=>h' x.2)]
    refine (qX (qdI (r:=(false,())) ?_)).trans rfl
    refine (qE rfl).trans ((qH rfl).trans ?_)
    dsimp only
    rw [show nth [n,m] (nat 1) 0=m from rfl]
    refine (qF (a:=(true,())) (by simp only [go_sem,Int.reduceToNat];try exact w8 (by omega))).trans ?_
    rfl
 ·rw [D_f (fun x=>h x.1)]
  refine (qX (qdI (r:=(false,())) ?_)).trans rfl
  refine (qE rfl).trans ((qH rfl).trans ?_)
  dsimp only
  rw [show nth [n,m] (nat 0) 0=n from rfl]
  refine (qF (a:=(true,())) (by simp only [go_sem,Int.reduceToNat];try exact w8 (by omega))).trans ?_
  rfl
theorem qbB (e:En'):kZ (e.t,())=some (qaM e,()):=by
 unfold kZ qaM
 dsimp only [En'.t]
 rw [qaQ]
 by_cases h0:e.id=0
 ·rw [h0,D_t (by omega),if_pos rfl];rfl
 ·rw [if_neg h0]
  by_cases h1:e.id=1
  ·rw [h1,D_t (by omega),if_pos rfl];rfl
  ·rw [if_neg h1,D_f (by omega)];rfl
theorem v6 (e:En'):kJ (e.t,())=some (qaM e,()):=by
 unfold kJ qaM
 dsimp only [En'.t]
 by_cases h0:e.id=0
 ·rw [h0,if_pos rfl];rfl
 ·rw [if_neg h0]
  by_cases h1:e.id=1
  ·rw [h1,if_pos rfl];rfl
  ·rw [if_neg h1];simp (disch:=omega) only [go_sem,Int.reduceToNat]
def qK1 (key:BB):BB:=qwW key [98,97,115,101] []
theorem qEy (key:BB):(qK1 key).length=32:=qe3 _ _ _
theorem qyV (key:BB) (h:key.length≤1000000):qkA (key,())=some (qK1 key,()):=by
 unfold qkA
 dsimp only
 rw [qj3 _ _ _ h (by decide) (by decide) (by simp [none'])];rfl
theorem qvC (key:BB) (h:key.length≤1000000):qlL (key,())=some (qK1 key,()):=by
 unfold qlL
 dsimp only
 rw [qfT _ _ _ h (by decide) (by decide) (by simp [none'])];rfl
def keyD (key:BB) (p:List Int) (gen:Int) (nonce:BB):BB :=
 if jA (nth p 0 0)∧jA (nth p 1 0)∧0≤gen∧gen≤2147483647 then qwW key [108,105,110,107] [bigN 8 (nth p 0 0),bigN 8 (nth p 1 0),bigN 4 gen,nonce] else []
theorem jY (n:Int):xI (n,())=some (D (jA n),()):=by
 unfold xI jA
 simp only [go_sem,Int.reduceToNat]
theorem bigI {n:Int} {w:Int} (hw:w=8∨w=4) (h:0≤n∧n < 256 ^ w.toNat) (hn:n≤9223372036854775807):qaV (n,w,())=some (bigN w.toNat n,0,()):=by
 rw [qsT _ _ hn,if_pos ⟨by omega,by omega,h.1,h.2⟩];rfl
theorem qNt {n:Int} {w:Int} (hw:w=8∨w=4) (h:0≤n∧n < 256 ^ w.toNat) (hn:n≤9223372036854775807):wF (n,w,())=some (bigN w.toNat n,0,()):=by
 rw [qeQ _ _ hn,if_pos ⟨by omega,by omega,h.1,h.2⟩];rfl
theorem qDg {a b:BB} {c nonce:BB} (ha:a.length=8) (hb:b.length=8) (hc:c.length=4) (hn:nonce.length≤1000):∀ p∈[a,b,c,nonce],p.length≤1000:=by
 intro p hp
 simp only [List.mem_cons,List.not_mem_nil,or_false] at hp
 rcases hp with rfl | rfl | rfl | rfl <;> omega
theorem p8 {n:Int} (h:jA n):0≤n∧n < 256 ^ (8:Int).toNat:=⟨h.1,by have:=h.2;show n < 256 ^ 8;omega⟩
theorem qA1 (key:BB) (p:List Int) (gen:Int) (nonce:BB) (hk:key.length≤1000000) (hn:nonce.length≤1000):qpL (key,p,gen,nonce,())=some (keyD key p gen nonce,()):=by
 unfold qpL keyD
 refine (qH rfl).trans ((qH rfl).trans ?_)
 dsimp only
 rw [show nat 0=0 from rfl,show nat 1=1 from rfl]
 generalize nth p 0 0=x
 generalize nth p 1 0=y
 rw [qrK]
 by_cases h:jA x∧jA y
 ·rw [D_t (show (0≤x∧x≤4611686018427387904)∧(0≤y∧y≤4611686018427387904) from h)]
  refine (qF rfl).trans ((qB rfl).trans ?_)
  rw [qaQ]
  by_cases hg:0≤gen∧gen≤2147483647
  ·rw [D_t hg,if_pos ⟨h.1,h.2,hg⟩]
   refine (qF rfl).trans ((qB rfl).trans ((qH rfl).trans ?_))
   rw [bigI (.inl rfl) (p8 h.1) (by have:=h.1.2;omega)]
   refine (qF rfl).trans ((qH rfl).trans ?_)
   rw [bigI (.inl rfl) (p8 h.2) (by have:=h.2.2;omega)]
   refine (qF rfl).trans ?_
   rw [bigI (.inr rfl) ⟨hg.1,by show gen < 256 ^ 4;omega⟩ (by omega)]
   refine (qF rfl).trans ?_
   dsimp only
   rw [show (8:Int).toNat=8 from rfl,show (4:Int).toNat=4 from rfl,qj3 key [108,105,110,107] _ hk (by simp) (by simp) (qDg (qR _ _) (qR _ _) (qR _ _) hn)];rfl
  ·rw [D_f hg,if_neg (fun h=>hg h.2.2)];rfl
 ·rw [D_f (show ¬ ((0≤x∧x≤4611686018427387904)∧(0≤y∧y≤4611686018427387904)) from h),if_neg (fun h'=>h ⟨h'.1,h'.2.1⟩)];rfl
theorem qa5 (key:BB) (p:List Int) (gen:Int) (nonce:BB) (hk:key.length≤1000000) (hn:nonce.length≤1000):kW (key,p,gen,nonce,())=some (keyD key p gen nonce,()):=by
 unfold kW keyD
 refine (qH rfl).trans ?_
 dsimp only
 rw [show nat 0=0 from rfl,show nat 1=1 from rfl]
 generalize nth p 0 0=x
 generalize nth p 1 0=y
 rw [jY]
 refine (qF rfl).trans ((qH rfl).trans ?_)
 rw [jY]
 refine (qF rfl).trans ?_
 by_cases h:jA x∧jA y∧0≤gen∧gen≤2147483647
 ·obtain ⟨h1,h2,h3,h4⟩:=h
  rw [if_pos ⟨h1,h2,h3,h4⟩]
  refine (qF (a:=(false,())) (by rw [D_t h1,D_t h2];simp only [go_sem,Int.reduceToNat];try exact yI (by omega))).trans ?_
  refine (qB rfl).trans ((qH rfl).trans ?_)
  rw [qNt (.inl rfl) (p8 h1) (by have:=h1.2;omega)]
  refine (qF rfl).trans ((qH rfl).trans ?_)
  rw [qNt (.inl rfl) (p8 h2) (by have:=h2.2;omega)]
  refine (qF rfl).trans ?_
  rw [qNt (.inr rfl) ⟨h3,by show gen < 256 ^ 4;omega⟩ (by omega)]
  refine (qF rfl).trans ?_
  dsimp only
  rw [show (8:Int).toNat=8 from rfl,show (4:Int).toNat=4 from rfl,qfT key [108,105,110,107] _ hk (by simp) (by simp) (qDg (qR _ _) (qR _ _) (qR _ _) hn)];rfl
 ·rw [if_neg h]
  refine (qF (a:=(true,())) ?_).trans rfl
  by_cases h1:jA x
  ·by_cases h2:jA y
   ·rw [D_t h1,D_t h2]
    have h3:¬ (0≤gen∧gen≤2147483647):=fun h3=>h ⟨h1,h2,h3⟩
    simp only [go_sem,Int.reduceToNat];try exact w8 (by omega)
   ·rw [D_t h1,D_f h2];rfl
  ·rw [D_f h1];rfl
theorem qnO {key:BB} {p:List Int} {gen:Int} {nonce:BB} (h:jA (nth p 0 0)∧jA (nth p 1 0)∧0≤gen∧gen≤2147483647):(keyD key p gen nonce).length=32:=by
 unfold keyD;rw [if_pos h,qe3]
theorem qIh (l:List qOM):z0 (l,())=some (l,()):=by
 unfold z0
 dsimp only
 rw [qEK]
 exact qH (qFC l)
theorem bq_f {a b:Int} (h:a=b):bnot (beq a b)=false:=by rw [kQ h];rfl
theorem bq_t {a b:Int} (h:¬ a=b):bnot (beq a b)=true:=by rw [vL h];rfl
theorem qlF {r:jF} (h:w9 r):0≤r.1.1∧r.1.1≤2147483647∧r.1.2.1.length≤32:=by
 rcases h with rfl | ⟨⟨h1,h2,h3⟩,_⟩
 ·exact ⟨by decide,by decide,by decide⟩
 ·omega
def qkL (s:Si) (v:TEnv) (key:BB):Si×Int :=
 if (kU s.e.hub).2.2.1=0 then
  (⟨{ s.e with hub:=(kU s.e.hub).1,out:=s.e.out++[((kU s.e.hub).2.1,vT (qT v++vK key (qT v)),())] },ptag s.p key (qT v)⟩,0)
 else (s,(kU s.e.hub).2.2.1)
theorem qmW {s:Si} {n:Nat} (hs:okS n s) (hn:n≤900000) (v:TEnv) (hv:qd4 v) (key:BB) (hk:key.length≤1000000):qj9 (s.t,v,key,())=some ((qkL s v key).1.t,(qkL s v key).2,()):=by
 unfold qj9 qkL
 dsimp only [Si.t,En'.t]
 have hp:=hs.p
 have ho:=hs.e.out
 rw [qBa _ hs.e.up hs.e.next]
 refine (qF rfl).trans ?_
 by_cases hh:(kU s.e.hub).2.2.1=0
 ·rw [if_pos hh]
  refine (qB (by simp only [go_sem,Int.reduceToNat];exact not_not_intro hh)).trans ?_
  rw [qmZ _ hv]
  refine (qF rfl).trans ?_
  have hb:=hv.2.2.2.2.2.2
  have hl:=jS v
  dsimp only
  rw [qAN _ _ _ (by omega) hk (by omega)]
  refine (qF rfl).trans ?_
  dsimp only
  have ht:=y8 key (qT v)
  rw [qy2 (v.1,v.2.1,v.2.2.1,v.2.2.2.1,v.2.2.2.2.1,v.2.2.2.2.2.1,vK key (qT v),v.2.2.2.2.2.2.2) ⟨hv,ht⟩]
  refine (qF rfl).trans ?_
  dsimp only
  rw [show qT (v.1,v.2.1,v.2.2.1,v.2.2.2.1,v.2.2.2.2.1,v.2.2.2.2.2.1,vK key (qT v),v.2.2.2.2.2.2.2)=qT v from rfl,qwN _ (by rw [List.length_append];omega)]
  refine (qF rfl).trans ?_
  rw [qIh]
  refine (qF rfl).trans ?_
  refine (qH (by simp only [go_sem,Int.reduceToNat];simp;omega)).trans ?_
  rfl
 ·rw [if_neg hh]
  refine (qE (by simp only [go_sem,Int.reduceToNat];exact hh)).trans ?_
  rfl
def jB (e:En') (body:BB):TEnv:=(2,e.id,qaM e,e.ring.1.1,e.seq,body,[],())
def setV (e:En') (other:Int) (body:BB):TEnv:=(1,e.id,qaM { e with oth:=other },0,0,body,[],())
def qeZ (b:BB):Prop:=1≤b.length∧b.length≤900
instance (b:BB):Decidable (qeZ b):=by unfold qeZ;infer_instance
theorem qAQ {e:En'} (h1:jA e.own) (h2:jA e.oth):jA (nth (qaM e) 0 0)∧jA (nth (qaM e) 1 0):=by
 unfold qaM
 split
 ·exact ⟨h1,h2⟩
 split
 ·exact ⟨h2,h1⟩
 ·exact ⟨by decide,by decide⟩
theorem qgR {n:Nat} {e:En'} (h:okE n e) {body:BB} (hb:qeZ body):qd4 (jB e body):=by
 have hr:=qlF h.ring
 exact ⟨.inr rfl,(qAQ h.own h.oth).1,(qAQ h.own h.oth).2,h.seq,h.id,⟨hr.1,hr.2.1⟩,hb.1,hb.2⟩
theorem qHO {n:Nat} {e:En'} (h:okE n e) {o:Int} (ho:jA o) {body:BB} (hb:qeZ body):qd4 (setV e o body):=by
 have:=qAQ (e:={ e with oth:=o }) h.own ho
 exact ⟨.inl rfl,this.1,this.2,by show jA 0;decide,h.id,⟨by show (0:Int)≤0;decide,by show (0:Int)≤2147483647;decide⟩,hb.1,hb.2⟩
def y6 (s:Si) (body:BB):Si×Int :=
 if ¬ qeZ body then (s,1) else if ¬ zC s.e.ph then (s,7) else if s.e.seq=4611686018427387904 then (s,10)
 else let r:=qkL s (jB s.e body) s.e.ring.1.2.1;if r.2=0 then (⟨{ r.1.e with seq:=r.1.e.seq+1 },r.1.p⟩,0) else r
theorem qwT (s:Si) (v:TEnv) (key:BB):(qkL s v key).1.e.seq=s.e.seq:=by unfold qkL;split <;> rfl
theorem qeT (b:BB):qj8 (b,())=some (D (qeZ b),()):=by
 unfold qj8 qeZ
 simp only [go_sem,Int.reduceToNat]
 exact zJ (by omega)
theorem qCA {s:Si} {r:Si×Int} (hseq:jA r.1.e.seq) (h10:¬ r.1.e.seq=4611686018427387904) :
    (ob (some (r.1.t,r.2,())) fun (a:kG×Int×Unit) =>
   sel (beq a.2.1 0) (some (((a.1.1.1,a.1.1.2.1,a.1.1.2.2.1,a.1.1.2.2.2.1,a.1.1.2.2.2.2.1,a.1.1.2.2.2.2.2.1,a.1.1.2.2.2.2.2.2.1,a.1.1.2.2.2.2.2.2.2.1,i64 (iadd a.1.1.2.2.2.2.2.2.2.2.1 1),a.1.1.2.2.2.2.2.2.2.2.2),a.1.2),a.2.1,())) (some (a.1,a.2.1,()))) =
      some ((if r.2=0 then (⟨{ r.1.e with seq:=r.1.e.seq+1 },r.1.p⟩,0) else r:Si×Int).1.t,(if r.2=0 then (⟨{ r.1.e with seq:=r.1.e.seq+1 },r.1.p⟩,0) else r:Si×Int).2,()):=by
  obtain ⟨⟨e,p⟩,c⟩:=r
  refine (qF rfl).trans ?_
  by_cases h:c=0
  · subst h
    rw [if_pos rfl]
    refine (qE rfl).trans ?_
    dsimp only [Si.t,En'.t] at hseq ⊢
    obtain ⟨q1,q2⟩:=hseq
    rw [show i64 (iadd e.seq 1)=e.seq+1 from zR (by show -9223372036854775808≤e.seq+1;omega) (by show e.seq+1≤9223372036854775807;omega)]
  · rw [if_neg h]
    refine (qB (by simp only [go_sem,Int.reduceToNat];exact h)).trans ?_
    rfl
theorem qbA {s:Si} {n:Nat} (hs:okS n s) (hn:n≤900000) (b:BB):j6 (s.t,b,())=some ((y6 s b).1.t,(y6 s b).2,()):=by
 unfold j6 y6
 dsimp only
 rw [qeT]
 refine (qF rfl).trans ?_
 by_cases hb:qeZ b
 ·rw [D_t hb,if_neg (not_not_intro hb)]
  refine (qB rfl).trans ?_
  rw [show s.t.1.2.2.1=s.e.ph from rfl,qrD]
  refine (qF rfl).trans ?_
  by_cases hl:zC s.e.ph
  ·rw [D_t hl,if_neg (not_not_intro hl)]
   refine (qB rfl).trans ?_
   by_cases hq:s.e.seq=4611686018427387904
   ·rw [if_pos hq]
    exact qE (by simp only [go_sem,Int.reduceToNat];exact hq)
   ·rw [if_neg hq]
    refine (qB (by simp only [go_sem,Int.reduceToNat];exact hq)).trans ?_
    rw [show kZ (s.t.1,())=_ from qbB s.e]
    refine (qF rfl).trans ?_
    have hv:=qgR hs.e hb
    have hk:=(qlF hs.e.ring).2.2
    have hem:=qmW hs hn _ hv s.e.ring.1.2.1 (by omega)
    have h1:=qwT s (jB s.e b) s.e.ring.1.2.1
    exact Eq.trans (zZ hem) (qCA (s:=s) (r:=qkL s (jB s.e b) s.e.ring.1.2.1) (by rw [h1];exact hs.e.seq) (by rw [h1];exact hq))
  ·rw [D_f hl,if_pos hl];rfl
 ·rw [D_f hb,if_pos hb];rfl
def qzX (s:Si) (other:Int) (body:BB):Si×Int:=if jA other∧qeZ body then qkL s (setV s.e other body) (qK1 s.e.key) else (s,1)
theorem qwC {s:Si} {n:Nat} (hs:okS n s) (hn:n≤900000) (o:Int) (b:BB):ql3 (s.t,o,b,())=some ((qzX s o b).1.t,(qzX s o b).2,()):=by
 unfold ql3 qzX
 dsimp only
 rw [qaQ]
 refine (qF rfl).trans ?_
 by_cases hb:jA o∧qeZ b
 ·rw [if_pos hb,D_t (show 0≤o∧o≤4611686018427387904 from hb.1)]
  refine (qF (a:=(false,())) ((qB rfl).trans (by rw [qeT,D_t hb.2];rfl))).trans ?_
  refine (qB rfl).trans ?_
  have hp:=qbB { s.e with oth:=o }
  refine (zZ (show kZ ((s.t.1.1,s.t.1.2.1,s.t.1.2.2.1,s.t.1.2.2.2.1,s.t.1.2.2.2.2.1,s.t.1.2.2.2.2.2.1,o,s.t.1.2.2.2.2.2.2.2),())=_ from hp)).trans ?_
  refine (qF rfl).trans ?_
  have hk:=hs.e.key
  rw [show qkA (s.t.1.2.1,())=_ from qyV s.e.key (by omega)]
  refine (qF rfl).trans ?_
  have hem:=qmW hs hn _ (qHO hs.e hb.1 hb.2) (qK1 s.e.key) (by rw [qEy];omega)
  exact (zZ hem).trans rfl
 ·rw [if_neg hb]
  refine (qF (a:=(true,())) ?_).trans rfl
  by_cases h1:jA o
  ·rw [D_t (show 0≤o∧o≤4611686018427387904 from h1)]
   refine (qB rfl).trans ?_
   rw [qeT,D_f (fun h=>hb ⟨h1,h⟩)];rfl
  ·rw [D_f (show ¬ (0≤o∧o≤4611686018427387904) from h1)];rfl
def qOw (c:List Int) (i:Nat):List Int:=upd c i (i64 (iadd (nth c i 0) 1))
def qp3 (s:Si) (i:Nat):Si:=⟨{ s.e with cnt:=qOw s.e.cnt i },s.p⟩
theorem qDe (s:Si):xE (s.t,13,())=some ((qp3 s 3).t,()):=by
 unfold xE
 exact (qX (qj4 5 rfl)).trans rfl
theorem qpB {n m:Nat} {e:En'} (h:okE n e) (hm:n≤m):okE m e:={ h with out:=Nat.le_trans h.out hm,got:=Nat.le_trans h.got hm }
theorem jL {n m:Nat} {s:Si} (h:okS n s) (hm:n≤m):okS m s:=⟨qpB h.e hm,Nat.le_trans h.p hm⟩
theorem qGV (h:THub):(kU h).1.1=h.1:=by unfold kU;split <;> rfl
theorem qHY (h:THub):(kU h).1.2.1=h.2.1:=by unfold kU;split <;> rfl
theorem qHX (h:THub):(kU h).1.2.2.1=h.2.2.1:=by unfold kU;split <;> rfl
theorem qz0 {h:THub} (hn:0≤h.2.2.2.1∧h.2.2.2.1 < 4):0≤(kU h).1.2.2.2.1∧(kU h).1.2.2.2.1 < 4:=by
 unfold kU
 split
 ·exact hn
 ·rename_i c _
  show (0:Int)≤((c+1) % 4:Nat)∧(((c+1) % 4:Nat):Int) < 4
  omega
theorem qG3 {n:Nat} {s:Si} (h:okS n s) (v:TEnv) (key:BB):okS (n+1) (qkL s v key).1:=by
 unfold qkL
 split
 ·refine ⟨{ h.e with up:=(by rw [← h.e.up];exact congrArg List.length (qGV s.e.hub)),next:=qz0 h.e.next,feed:=(by rw [← h.e.feed];exact congrArg List.length (qHY s.e.hub)),life:=(by rw [← h.e.life];exact congrArg List.length (qHX s.e.hub)),out := ?_,got:=Nat.le_succ_of_le h.e.got }, ?_⟩
  ·have:=h.e.out
   simp only [List.length_append,List.length_cons,List.length_nil];omega
  ·have:=qPh s.p key (qT v)
   have:=h.p
   show (ptag s.p key (qT v)).2.1.length≤n+1
   omega
 ·exact jL h (by omega)
theorem ql1 {n:Nat} {s:Si} (h:okS n s) (b:BB):okS (n+1) (y6 s b).1:=by
 unfold y6
 split
 ·exact jL h (by omega)
 split
 ·exact jL h (by omega)
 split
 ·exact jL h (by omega)
 ·rename_i h1 h2 h3
  have h4:=qG3 h (jB s.e b) s.e.ring.1.2.1
  have h5:=qwT s (jB s.e b) s.e.ring.1.2.1
  dsimp only
  split
  ·refine ⟨{ h4.e with seq := ?_ },h4.p⟩
   have:=h.e.seq
   show jA (_+1)
   rw [h5]
   unfold jA at *
   omega
  ·exact h4
theorem qJM {n:Nat} {s:Si} (h:okS n s) (o:Int) (b:BB):okS (n+1) (qzX s o b).1:=by
 unfold qzX
 split
 ·exact qG3 h _ _
 ·exact jL h (by omega)
theorem qC0 {n:Nat} {s:Si} (h:okS n s) (i:Nat):okS n (qp3 s i):=⟨{ h.e with cnt:=by show (qOw s.e.cnt i).length=4;unfold qOw upd;rw [List.length_set];exact h.e.cnt },h.p⟩
def qAw (s:Si) (q:jZ):Si:=⟨{ s.e with stan:=qb3 s.e.stan,ask:=(qx0 q.2.1 (qb3 s.e.stan) (wrN (q.1,q.2.1,qb3 s.e.stan,q.2.2.2)).1).1 },s.p⟩
def qo8 (s:Si) (q:jZ):Si :=
 if (wrN (q.1,q.2.1,qb3 s.e.stan,q.2.2.2)).2.1=0∧(qx0 q.2.1 (qb3 s.e.stan) (wrN (q.1,q.2.1,qb3 s.e.stan,q.2.2.2)).1).2.1=0 then
  (if q.2.1=1 then (qzX (qAw s q) 0 (wrN (q.1,q.2.1,qb3 s.e.stan,q.2.2.2)).1).1 else (y6 (qAw s q) (wrN (q.1,q.2.1,qb3 s.e.stan,q.2.2.2)).1).1)
 else s
theorem qrF {n:Nat} {s:Si} (h:okS n s) (q:jZ):okS n (qAw s q):=⟨{ h.e with },h.p⟩
theorem qv1 {n:Nat} {s:Si} (h:okS n s) (q:jZ):okS (n+1) (qo8 s q):=by
 unfold qo8
 split
 ·split
  ·exact qJM (qrF h q) _ _
  ·exact ql1 (qrF h q) _
 ·exact jL h (by omega)
theorem y4 {s:Si} {n:Nat} (hs:okS n s) (hn:n≤900000) (q:jZ):kI (s.t,q,())=some ((qo8 s q).t,()):=by
 unfold kI qo8
 dsimp only
 rw [show s.t.1.2.2.2.2.2.2.2.2.2.2.2.2.1=s.e.stan from rfl,qB9]
 refine (qF rfl).trans ?_
 dsimp only
 rw [qjY]
 have hok:=qrF hs q
 have hset:=qwC hok hn 0 (wrN (q.1,q.2.1,qb3 s.e.stan,q.2.2.2)).1
 have hsend:=qbA hok hn (wrN (q.1,q.2.1,qb3 s.e.stan,q.2.2.2)).1
 unfold qAw at hset hsend ⊢
 generalize wrN (q.1,q.2.1,qb3 s.e.stan,q.2.2.2)=w at hset hsend ⊢
 obtain ⟨b,we,⟨⟩⟩:=w
 refine (qF rfl).trans ?_
 dsimp only at hset hsend ⊢
 rw [qzK]
 generalize qx0 q.2.1 (qb3 s.e.stan) b=a at hset hsend ⊢
 obtain ⟨a,ae,⟨⟩⟩:=a
 refine (qF rfl).trans ?_
 dsimp only at hset hsend ⊢
 by_cases h:we=0∧ae=0
 ·obtain ⟨rfl,rfl⟩:=h
  rw [if_pos ⟨rfl,rfl⟩]
  refine (qF (a:=(false,())) rfl).trans ((qB rfl).trans ?_)
  by_cases hc:q.2.1=1
  ·rw [if_pos hc]
   refine (qE (by simp only [go_sem,Int.reduceToNat];exact hc)).trans ?_
   exact (zZ hset).trans rfl
  ·rw [if_neg hc]
   refine (qB (by simp only [go_sem,Int.reduceToNat];exact hc)).trans ?_
   exact (zZ hsend).trans rfl
 ·rw [if_neg h]
  refine (qF (a:=(true,())) ?_).trans rfl
  by_cases h1:we=0
  ·have h2:¬ ae=0:=fun h2=>h ⟨h1,h2⟩
   exact (qB (by rw [h1];rfl)).trans (by rw [show beq ae 0=false from vL h2];rfl)
  ·exact qE (by rw [show beq we 0=false from vL h1];rfl)
def qK2 (c:Int):jZ:=(true,c,0,0,0,[],[],0,())
def derD (e:En') (gen:Int) (nonce:BB):BB:=keyD e.key (qaM e) gen nonce
theorem qp2 (e:En') (gen:Int) (nonce:BB) (hk:e.key.length≤1000000) (hn:nonce.length≤1000):xS ((e.t,()),gen,nonce,())=some (derD e gen nonce,()):=by
 unfold xS
 dsimp only
 rw [qbB]
 refine (qF rfl).trans ?_
 rw [show qpL (e.t.2.1,(qaM e,()).1,gen,nonce,())=_ from qA1 e.key (qaM e) gen nonce hk hn];rfl
theorem qoV (e:En') (gen:Int) (nonce:BB) (hk:e.key.length≤1000000) (hn:nonce.length≤1000):wA (e.t,gen,nonce,())=some (derD e gen nonce,()):=by
 unfold wA
 dsimp only
 rw [v6]
 refine (qF rfl).trans ?_
 rw [show kW (e.t.2.1,(qaM e,()).1,gen,nonce,())=_ from qa5 e.key (qaM e) gen nonce hk hn];rfl
theorem qnG {r:jF} (h:w9 r):w9 (qHF r):=by
 rcases h with rfl | ⟨h1,h2,h3,h4,h5,h6⟩
 ·exact .inl rfl
 ·refine .inr ⟨h1,h2,h3, ?_,h5, .inl rfl⟩
  have:=h1.1
  show (0:Int)≤r.2.2.2.2.1
  omega
theorem qC1 {r:jF} {no:Int} {key:BB} (h:(zN r no key).2.1=0):wY (no,key,())∧¬ r=noR∧r.1.1 < no∧r.2.2.1.1≤no∧(zN r no key).1=(r.1,r.2.1,(no,key,()),r.2.2.2.1,max r.2.2.2.2.1 no,()):=by
 unfold zN at h ⊢
 by_cases h1:wY (no,key,())
 ·rw [if_neg (not_not_intro h1)] at h ⊢
  by_cases h2:r=noR∨no≤r.1.1∨no < r.2.2.1.1
  ·rw [if_pos h2] at h;cases h
  ·rw [if_neg h2]
   simp only [not_or] at h2
   exact ⟨h1,h2.1,by omega,by omega,rfl⟩
 ·rw [if_pos h1] at h;cases h
theorem qH0 {r:jF} {no:Int} {key:BB} (h:¬ (zN r no key).2.1=0):(zN r no key).1=r:=by
 unfold zN at h ⊢
 split
 ·rfl
 split
 ·rfl
 ·rename_i h1 h2
  rw [if_neg h1,if_neg h2] at h;exact absurd rfl h
theorem v5 {r:jF} (h:w9 r) (no:Int) (key:BB):w9 (zN r no key).1:=by
 by_cases h0:(zN r no key).2.1=0
 ·obtain ⟨g,hn,hc,hp,e⟩:=qC1 h0
  rw [e]
  rcases h with h | ⟨h1,h2,h3,h4,h5,h6⟩
  ·exact absurd h hn
  ·refine .inr ⟨h1, ?_, ?_, ?_,h5, .inr ⟨g,hc⟩⟩
   ·have:=g.2.1
    show max r.2.2.2.2.1 no≤2147483647
    dsimp only at this
    omega
   ·show r.1.1≤max r.2.2.2.2.1 no
    omega
   ·show no≤max r.2.2.2.2.1 no
    omega
 ·rw [qH0 h0];exact h
theorem qu4 {r:jF} (h:w9 r):w9 (qq0 r).1:=by
 unfold qq0
 by_cases hp:r.2.2.1=noG
 ·rw [if_pos hp];exact h
 ·rw [if_neg hp]
  rcases h with rfl | ⟨h1,h2,h3,h4,h5,h6⟩
  ·exact absurd rfl hp
  ·have h7:=h6.resolve_left hp
   refine .inr ⟨h7.1,h2,h4, ?_, .inr ⟨?_,h1,h7.2,by show (1:Int)≤16;decide,by show (16:Int)≤16;decide⟩, .inl rfl⟩
   ·have:=h1.1
    show (0:Int)≤r.2.2.2.2.1
    omega
   ·intro e
    have:=h1.1
    have e:r.1=noG:=e
    rw [e] at this
    exact absurd this (by decide)
theorem qEZ {r:jF} (h:w9 r):r.2.2.1=noG∨¬ r.2.2.1.1=0:=by
 rcases h with rfl | ⟨h1,h2,h3,h4,h5,h6⟩
 ·exact .inl rfl
 ·rcases h6 with h6 | h6
  ·exact .inl h6
  ·exact .inr (by have:=h6.1.1;omega)
theorem qHT {r:jF} (h:w9 r):0≤r.2.2.2.2.1∧r.2.2.2.2.1≤2147483647:=by
 rcases h with rfl | ⟨h1,h2,h3,h4,h5,h6⟩
 ·exact ⟨by decide,by decide⟩
 ·have:=h1.1;omega
def keyQ (gen:Int) (nonce k:BB):jZ:=(true,101,0,0,gen,nonce,kcvD k,0,())
def newK (s:Si) (nonce:BB):Si×Int :=
 if ¬ nonce.length=8 then (s,1) else if ¬ qeY s.e.ph then (s,7) else if ¬ s.e.ph=3∨¬ s.e.ask.1=0∨0 < s.e.ring.2.2.1.1 then (s,9)
 else if ¬ (qrG s.e.ring).2.1=0 then (s,(qrG s.e.ring).2.1)
 else (qo8 ⟨{ s.e with ph:=4,ring:=(zN s.e.ring (qrG s.e.ring).1 (derD s.e (qrG s.e.ring).1 nonce)).1 },s.p⟩ (keyQ (qrG s.e.ring).1 nonce (derD s.e (qrG s.e.ring).1 nonce)),0)
theorem qv3 {n:Nat} {s:Si} (h:okS n s) (g:Int) (k:BB):okS n ⟨{ s.e with ph:=4,ring:=(zN s.e.ring g k).1 },s.p⟩:=⟨{ h.e with ph:=⟨by show (0:Int)≤4;decide,by show (4:Int)≤8;decide⟩,ring:=v5 h.e.ring g k },h.p⟩
theorem qJE:kN (3,6,())=some (4,true,()):=rfl
theorem qKK (e:En') (g:Int) (nonce:BB):(derD e g nonce).length≤32:=by
 unfold derD keyD;split
 ·rw [qe3];omega
 ·simp
theorem qmP {s:Si} {n:Nat} (hs:okS n s) (hn:n≤900000) (nonce:BB):qi9 (s.t,nonce,())=some ((newK s nonce).1.t,(newK s nonce).2,()):=by
 unfold qi9 newK
 dsimp only
 by_cases h1:nonce.length=8
 ·rw [if_neg (not_not_intro h1)]
  refine (qB (by simp only [go_sem,Int.reduceToNat];omega)).trans ?_
  rw [show s.t.1.2.2.1=s.e.ph from rfl,wG]
  refine (qF rfl).trans ?_
  by_cases h2:qeY s.e.ph
  ·rw [D_t h2,if_neg (not_not_intro h2)]
   refine (qB rfl).trans ?_
   rw [show s.t.1.2.2.2.2.2.2.2.2.2.2.2.1.1=s.e.ask.1 from rfl,show s.t.1.2.2.2.2.2.2.2.2.2.2.1=s.e.ring from rfl]
   by_cases h3:¬ s.e.ph=3∨¬ s.e.ask.1=0∨0 < s.e.ring.2.2.1.1
   ·rw [if_pos h3]
    refine (qF (a:=(true,())) ?_).trans rfl
    simp only [go_sem,Int.reduceToNat]
    exact w8 (or_assoc.2 h3)
   ·rw [if_neg h3]
    simp only [not_or,Classical.not_not] at h3
    obtain ⟨a1,a2,a3⟩:=h3
    refine (qF (a:=(false,())) (by simp only [go_sem,Int.reduceToNat,a1,a2];exact yI a3)).trans ((qB rfl).trans ?_)
    have ht:=qHT hs.e.ring
    rw [qyC _ ht.2 ht.1]
    refine (qF rfl).trans ?_
    by_cases h4:(qrG s.e.ring).2.1=0
    ·rw [if_neg (not_not_intro h4)]
     refine (qB (by simp only [go_sem,Int.reduceToNat];exact not_not_intro h4)).trans ?_
     generalize (qrG s.e.ring).1=g
     refine (qF (o:=vC _) rfl).trans ?_
     dsimp only
     have hk:=hs.e.key
     rw [show xS ((s.t.1,()),g,nonce,())=_ from qp2 s.e g nonce (by omega) (by omega)]
     refine (qF rfl).trans ?_
     dsimp only
     rw [qcU]
     refine (qF rfl).trans ?_
     rw [a1,qJE]
     refine (qF rfl).trans ?_
     rw [qsI _ (by have:=qKK s.e g nonce;omega)]
     refine (qF rfl).trans ?_
     exact (zZ (y4 (qv3 hs g (derD s.e g nonce)) hn (keyQ g nonce (derD s.e g nonce)))).trans rfl
    ·rw [if_pos h4]
     exact qE (by simp only [go_sem,Int.reduceToNat];exact h4)
  ·rw [D_f h2,if_pos h2];rfl
 ·rw [if_pos h1]
  exact qE (by simp only [go_sem,Int.reduceToNat];omega)
def qFb (e:En'):En':={ e with ph:=3,ask:=noA }
theorem qJC:kN (4,8,())=some (3,true,()):=rfl
def qDu (s:Si):Si:=if s.e.ph=4 then ⟨{ s.e with ph:=3,ask:=noA,ring:=qHF s.e.ring },s.p⟩ else s
theorem qcW {s:Si} (h:s.e.ph=4):qaB (s.t,())=some ((⟨qFb s.e,s.p⟩:Si).t,()):=by
 unfold qaB
 rw [show (s.t,()).1.1.2.2.1=4 from h,qJC];rfl
theorem qiC (s:Si):qcX (s.t,())=some ((qDu s).t,()):=by
 unfold qcX qDu
 refine (qF (o:=vC _) rfl).trans ((qF (o:=zG _) rfl).trans ?_)
 by_cases h:s.e.ph=4
 ·rw [if_pos h]
  refine (qB (by show bnot (beq s.e.ph 4)=false;rw [h];rfl)).trans ?_
  rw [qcW h];rfl
 ·rw [if_neg h]
  exact qE (by show bnot (beq s.e.ph 4)=true;simp only [go_sem,Int.reduceToNat];exact h)
def qoU (n:jZ) (res:Int):BB:=(wrN (ansN n res).1).1
theorem qqT {s:Si} {m:Nat} (hs:okS m s) (hm:m≤900000) (n:jZ) (res:Int) :
  (ob (j3 (n,res,())) fun (a:jZ×Int×Unit)=>ob (xD (a.1,())) fun (b:BB×Int×Unit)=>ob (j6 (s.t,b.1,())) fun (c:kG×Int×Unit)=>(some (c.1,()):Option (kG×Unit)))=some ((y6 s (qoU n res)).1.t,()):=by
 rw [qtZ]
 refine (qF rfl).trans ?_
 rw [qjY]
 refine (qF rfl).trans ?_
 exact (zZ (qbA hs hm (qoU n res))).trans rfl
def qHJ (e:En') (r:jF):En':={ e with ring:=r }
def qIO (e:En') (r:jF):En':={ e with ph:=3,ask:=noA,ring:=r }
def offK (s:Si) (n:jZ):Si :=
 if s.e.ph=4∧s.e.id=0 then qp3 s 3
 else if ¬ kcvD (derD s.e n.2.2.2.2.1 n.2.2.2.2.2.1)=n.2.2.2.2.2.2.1 then (y6 s (qoU n 63)).1
 else if n.2.2.2.2.1=s.e.ring.1.1 then (y6 s (qoU n 0)).1
 else if s.e.ph=4 then
  (if (zN (qHF s.e.ring) n.2.2.2.2.1 (derD s.e n.2.2.2.2.1 n.2.2.2.2.2.1)).2.1=0 then (y6 ⟨qIO s.e (zN (qHF s.e.ring) n.2.2.2.2.1 (derD s.e n.2.2.2.2.1 n.2.2.2.2.2.1)).1,s.p⟩ (qoU n 0)).1 else qp3 s 3)
 else (if (zN s.e.ring n.2.2.2.2.1 (derD s.e n.2.2.2.2.1 n.2.2.2.2.2.1)).2.1=0 then (y6 ⟨qHJ s.e (zN s.e.ring n.2.2.2.2.1 (derD s.e n.2.2.2.2.1 n.2.2.2.2.2.1)).1,s.p⟩ (qoU n 0)).1 else qp3 s 3)
theorem qpA {m:Nat} {s:Si} (h:okS m s) {r:jF} (hr:w9 r):okS m ⟨qHJ s.e r,s.p⟩:=⟨{ h.e with ring:=hr },h.p⟩
theorem qjX {m:Nat} {s:Si} (h:okS m s) {r:jF} (hr:w9 r):okS m ⟨qIO s.e r,s.p⟩:=⟨{ h.e with ring:=hr,ph:=⟨by show (0:Int)≤3;decide,by show (3:Int)≤8;decide⟩ },h.p⟩
theorem qaW (s:Si):(ob (xE (s.t,13,())) fun (a:kG×Unit)=>(some (a.1,()):Option (kG×Unit)))=some ((qp3 s 3).t,()):=(zZ (qDe s)).trans rfl
theorem y9 {s:Si} {m:Nat} (hs:okS m s) (hm:m≤900000) (n:jZ) (hn:n.2.2.2.2.2.1.length≤1000):xH (s.t,n,())=some ((offK s n).t,()):=by
 unfold xH offK
 refine (qF (o:=vC _) rfl).trans ?_
 dsimp only
 have hk:=hs.e.key
 rw [show xS ((s.t.1,()),n.2.2.2.2.1,n.2.2.2.2.2.1,())=_ from qp2 s.e _ _ (by omega) hn]
 refine (qF rfl).trans ?_
 have hl:=qKK s.e n.2.2.2.2.1 n.2.2.2.2.2.1
 generalize derD s.e n.2.2.2.2.1 n.2.2.2.2.2.1=k at hl
 refine (qF (o:=zG _) rfl).trans ?_
 dsimp only
 rw [show s.t.1.2.2.1=s.e.ph from rfl,show s.t.1.1=s.e.id from rfl]
 by_cases h1:s.e.ph=4∧s.e.id=0
 ·rw [if_pos h1,h1.1,h1.2]
  refine (qF (a:=(true,())) rfl).trans ((qE rfl).trans ?_)
  exact qaW s
 ·rw [if_neg h1]
  refine (qF (a:=(false,())) ?_).trans ((qB rfl).trans ?_)
  ·by_cases h4:s.e.ph=4
   ·have h0:¬ s.e.id=0:=fun h0=>h1 ⟨h4,h0⟩
    rw [kQ h4,vL h0];rfl
   ·rw [vL h4];rfl
  rw [qsI _ (by omega)]
  refine (qF rfl).trans ?_
  dsimp only
  rw [qhK _ _ (by rw [qnP];omega)]
  refine (qF rfl).trans ?_
  dsimp only
  by_cases h2:kcvD k=n.2.2.2.2.2.2.1
  ·rw [if_neg (not_not_intro h2),qHQ h2]
   refine (qB rfl).trans ?_
   rw [show s.t.1.2.2.2.2.2.2.2.2.2.2.1=s.e.ring from rfl]
   by_cases h3:n.2.2.2.2.1=s.e.ring.1.1
   ·rw [if_pos h3]
    refine (qE (kQ h3)).trans ?_
    exact qqT hs hm n 0
   ·rw [if_neg h3]
    refine (qB (vL h3)).trans ?_
    refine (qF (o:=zG _) rfl).trans ?_
    dsimp only
    rw [show s.t.1.2.2.1=s.e.ph from rfl]
    by_cases h4:s.e.ph=4
    ·rw [if_pos h4]
     refine (qE (kQ h4)).trans ?_
     rw [qoP]
     refine (qF rfl).trans ?_
     dsimp only
     rw [qcU]
     refine (qF rfl).trans ?_
     by_cases h5:(zN (qHF s.e.ring) n.2.2.2.2.1 k).2.1=0
     ·rw [if_pos h5]
      refine (qB (bq_f h5)).trans ?_
      refine (qF (o:=zG _) rfl).trans ?_
      dsimp only
      rw [show s.t.1.2.2.1=s.e.ph from rfl]
      refine (qE (kQ h4)).trans ?_
      rw [qcW h4]
      refine (qF rfl).trans ?_
      exact qqT (qjX hs (v5 (qnG hs.e.ring) n.2.2.2.2.1 k)) hm n 0
     ·rw [if_neg h5]
      refine (qE (bq_t h5)).trans ?_
      exact qaW s
    ·rw [if_neg h4]
     refine (qB (vL h4)).trans ?_
     rw [qcU]
     refine (qF rfl).trans ?_
     by_cases h5:(zN s.e.ring n.2.2.2.2.1 k).2.1=0
     ·rw [if_pos h5]
      refine (qB (bq_f h5)).trans ?_
      refine (qF (o:=zG _) rfl).trans ?_
      dsimp only
      rw [show s.t.1.2.2.1=s.e.ph from rfl]
      refine (qB (vL h4)).trans ?_
      exact qqT (qpA hs (v5 hs.e.ring n.2.2.2.2.1 k)) hm n 0
     ·rw [if_neg h5]
      refine (qE (bq_t h5)).trans ?_
      exact qaW s
  ·rw [if_pos h2,qI3 h2]
   refine (qE rfl).trans ?_
   exact qqT hs hm n 63
instance (a:TAsk) (c s:Int):Decidable (qpI a c s):=by unfold qpI;infer_instance
def ansK (s:Si) (n:jZ):Si :=
 if ¬ s.e.ph=4∨¬ qpI s.e.ask n.2.1 n.2.2.1 then qp3 s 3
 else if ¬ n.2.2.2.1=0 then qDu s
 else qo8 ⟨qIO s.e (qq0 s.e.ring).1,s.p⟩ (qK2 301)
theorem qnH {s:Si} {m:Nat} (hs:okS m s) (hm:m≤900000) (n:jZ):qa4 (s.t,n,())=some ((ansK s n).t,()):=by
 unfold qa4 ansK
 refine (qF (o:=vC _) rfl).trans ?_
 refine (qF (o:=zG _) rfl).trans ?_
 dsimp only
 rw [show s.t.1.2.2.1=s.e.ph from rfl,show s.t.1.2.2.2.2.2.2.2.2.2.2.2.1=s.e.ask from rfl,qm7]
 by_cases h4:s.e.ph=4
 ·by_cases h5:qpI s.e.ask n.2.1 n.2.2.1
  ·rw [if_neg (fun h=>h.elim (fun h=>h h4) (fun h=>h h5)),D_t h5,kQ h4]
   refine (qF (a:=(false,())) rfl).trans ((qB rfl).trans ?_)
   by_cases h6:n.2.2.2.1=0
   ·rw [if_neg (not_not_intro h6)]
    refine (qB (bq_f h6)).trans ?_
    rw [qcW h4]
    refine (qF rfl).trans ?_
    rw [show (qi5 ((({ e:=qFb s.e,p:=s.p }:Si).t,()).1.1.2.2.2.2.2.2.2.2.2.2.1,()):Option (jF×Int×Unit))=_ from qyB s.e.ring]
    refine (qF rfl).trans ?_
    exact (zZ (y4 (qjX hs (qu4 hs.e.ring)) hm (qK2 301))).trans rfl
   ·rw [if_pos h6]
    refine (qE (bq_t h6)).trans ?_
    exact (zZ (qiC s)).trans rfl
  ·rw [if_pos (.inr h5),D_f h5,kQ h4]
   refine (qF (a:=(true,())) rfl).trans ((qE rfl).trans ?_)
   exact qaW s
 ·rw [if_pos (.inl h4),vL h4]
  refine (qF (a:=(true,())) rfl).trans ((qE rfl).trans ?_)
  exact qaW s
theorem qC6 (x:UInt64):n64 x=(x.toNat:Int):=rfl
theorem qGU {k:Nat} (h:k≤63):2 ^ k≤9223372036854775808:=by
 have:=Nat.pow_le_pow_right (show 0 < 2 by omega) h
 have e:2 ^ 63=9223372036854775808:=by decide
 omega
theorem qiI (k:Nat) (hk:k≤63):qaF ((k:Int),())=some (u64 ((2 ^ k:Nat):Int),()):=by
 unfold qaF
 dsimp only
 generalize hf:(fun (x_1:UInt64×Int×Unit)=>(_:Option (LS (UInt64×Int×Unit) (UInt64×Unit))))=f
 have step:∀ i:Nat,i < k→f (u64 ((2 ^ i:Nat):Int),(i:Int),())=some (.nx (u64 ((2 ^ (i+1):Nat):Int),((i+1:Nat):Int),())):=by
  intro i hi
  subst hf
  have hi':i64 (iadd (i:Int) 1)=((i+1:Nat):Int):=i64n (by show (i:Int)+1=_;omega) (by omega)
  have hp:=qGU (k:=i) (by omega)
  have e:imul (n64 (u64 2)) (n64 (u64 ((2 ^ i:Nat):Int)))=((2 ^ (i+1):Nat):Int):=by
   rw [Nat.pow_succ]
   generalize 2 ^ i=m at hp
   rw [qjZ (by decide),qjZ (by omega)]
   show (2:Int)*(m:Int)=_
   omega
  refine (qE (by simp only [go_sem,Int.reduceToNat];omega)).trans ?_
  dsimp only
  rw [hi',e]
 have hend:∀ u,f (u,(k:Int),())=some (.ex 0 (u,(k:Int),())):=by subst hf;intro u;exact qB (by simp only [go_sem,Int.reduceToNat];omega)
 have hloop:=(qM (f:=f) (fun i=>(u64 ((2 ^ i:Nat):Int),(i:Int),())) k step 0 (Nat.zero_le _)).trans (qU (hend _))
 refine (qX (show loop f (u64 1,0,())=_ from hloop)).trans ?_
 exact qH g62
def bitW (w:WT) (p:Nat):Bool:=(nth w.2.1 (p / 64) (u64 0)).toNat / 2 ^ (p % 64) % 2 == 1
theorem qa6 (w:WT) (hw:w.2.1.length=16) (p:Nat) (hp:p < 1024):qbG (w,(p:Int),())=some (bitW w p,()):=by
 unfold qbG bitW
 dsimp only
 have e1:i64 (idiv (p:Int) 64)=((p / 64:Nat):Int):=by rw [g31 (by omega)];exact i64n (by omega) (by omega)
 have e2:imod (p:Int) 64=((p % 64:Nat):Int):=by rw [g32 (by omega)];omega
 rw [e1,e2]
 refine (qH (by simp only [go_sem,Int.reduceToNat];omega)).trans ?_
 rw [qiI _ (by omega)]
 refine (qF rfl).trans ?_
 have hq:=qGU (k:=p % 64) (by omega)
 have hq0:0 < 2 ^ (p % 64):=Nat.pow_pos (by omega)
 generalize 2 ^ (p % 64)=m at hq hq0 ⊢
 have e3:n64 (u64 (m:Int))=(m:Int):=qjZ (by omega)
 dsimp only
 rw [e3]
 refine (qH (by simp only [go_sem,Int.reduceToNat];omega)).trans ?_
 rw [qP]
 generalize nth w.2.1 (p / 64) (u64 0)=x
 have hx:=x.toNat_lt
 have e4:idiv (n64 x) (m:Int)=((x.toNat / m:Nat):Int):=by
  rw [g31 (by rw [qC6];omega),qC6,Int.natCast_ediv]
 have hle:x.toNat / m≤x.toNat:=Nat.div_le_self _ _
 rw [e4]
 generalize x.toNat / m=q at hle ⊢
 rw [show n64 (u64 (q:Int))=(q:Int) from qjZ (by omega),show n64 (u64 2)=2 from qjZ (by decide),show imod (q:Int) 2=((q % 2:Nat):Int) by rw [g32 (by omega)];omega,
  show n64 (u64 ((q % 2:Nat):Int))=((q % 2:Nat):Int) from qjZ (by omega),show n64 (u64 1)=1 from qjZ (by decide)]
 congr 2
 unfold beq
 rw [Bool.eq_iff_iff,beq_iff_eq,beq_iff_eq]
 omega
abbrev FT:=BB×Int×Int×Unit
def noF:FT:=([],0,0,())
theorem qz7 (c:UInt8):0≤n8 c∧n8 c < 256:=by have:=c.toNat_lt;unfold n8;omega
theorem qlA (a:BB):seq a a=true:=qHQ rfl
theorem qKu {n:Nat} {s:Si} (h:okS n s):okS n (qDu s):=by
 unfold qDu
 split
 ·exact qjX h (qnG h.e.ring)
 ·exact h
theorem qNT {n:Nat} {s:Si} (h:okS n s) (nonce:BB):okS (n+1) (newK s nonce).1:=by
 unfold newK
 repeat' split
 all_goals first | exact jL h (by omega) | exact qv1 (qv3 h _ _) _
theorem qNN {n:Nat} {s:Si} (h:okS n s) (q:jZ):okS (n+1) (offK s q):=by
 unfold offK
 repeat' split
 all_goals first | exact jL (qC0 h 3) (by omega) | exact ql1 h _ | exact ql1 (qjX h (v5 (qnG h.e.ring) _ _)) _ | exact ql1 (qpA h (v5 h.e.ring _ _)) _
theorem qOH {n:Nat} {s:Si} (h:okS n s) (q:jZ):okS (n+1) (ansK s q):=by
 unfold ansK
 repeat' split
 all_goals first | exact jL (qC0 h 3) (by omega) | exact jL (qKu h) (by omega) | exact qv1 (qjX h (qu4 h.e.ring)) _
theorem qzQ {A B C:BB} {a w:Nat} (hA:A.length=a) (hB:B.length=w):tk (A++(B++C)) a w=B:=by
 unfold tk
 rw [← hA,List.drop_left,← hB,List.take_left]
theorem qHN {b:BB} {A W:Nat} {n:Int} (hW1:1≤W) (hW:W≤8) (hl:A+W≤b.length) (h0:0≤n) (hn:n < 256 ^ W) (hL:n≤4611686018427387904) (ht:tk b A W=bigN W n):qm9 b (A:Int) (W:Int)=(n,((A+W:Nat):Int),0,()):=by
 have hv:bev (tk b A W)=n.toNat:=by
  rw [ht];unfold bigN
  rw [qP1,Nat.mod_eq_of_lt]
  have:((n.toNat:Nat):Int) < ((256 ^ W:Nat):Int):=by rw [Int.toNat_of_nonneg h0];push_cast;exact hn
  exact Int.ofNat_lt.1 this
 unfold qm9
 rw [if_neg (by omega),if_neg (by omega),if_neg]
 ·rw [Int.toNat_natCast,Int.toNat_natCast,hv]
  refine Prod.ext (by dsimp only;omega) (Prod.ext (by dsimp only;omega) rfl)
 ·rintro ⟨h8,h127⟩
  have hW8:W=8:=by omega
  subst hW8
  rw [Int.toNat_natCast] at h127
  have hg:nth b A (u8 0)=(bigN 8 n)[0]'(by rw [qR];omega):=by
   have h1:0 < (tk b A 8).length:=by rw [vZ hl];omega
   have h2:(tk b A 8)[0]=b[A]:=qGv h1 (by omega)
   rw [qK (by omega:A < b.length)]
   rw [← h2];simp only [ht]
  rw [hg] at h127
  unfold bigN at h127
  rw [qGT] at h127
  unfold byt at h127
  have hq:n.toNat / 256 ^ 7 % 256≤127:=by
   have:n.toNat≤4611686018427387904:=by omega
   have e:256 ^ 7=72057594037927936:=by decide
   rw [e];omega
  rw [show 8 - 1 - 0=7 from rfl,UInt8.toNat_ofNat_of_lt' (by show _ < 256;omega)] at h127
  omega
def tkI (b:BB) (a w:Int):Int:=if (qm9 b a w).2.2.1=0 then (qm9 b a w).1 else -1
theorem xZ (b:BB) (a w:Int) (hb:b.length≤1000000):kL (b,a,w,())=some (tkI b a w,()):=by
 unfold kL tkI
 dsimp only
 rw [qo6 _ _ _ hb]
 refine (qF rfl).trans ?_
 by_cases h:(qm9 b a w).2.2.1=0
 ·rw [if_pos h];exact qB (bq_f h)
 ·rw [if_neg h];exact qE (bq_t h)
def noV:TEnv:=(0,0,[0,0],0,0,[],[],())
def rdV0 (b:BB):TEnv:=(tkI b 0 1,tkI b 1 1,[tkI b 2 8,tkI b 10 8],tkI b 18 4,tkI b 22 8,(b.drop 30).take (b.length - 46),b.drop (b.length - 16),())
instance (v:TEnv):Decidable (qd4 v):=by unfold qd4;infer_instance
instance (v:TEnv):Decidable (qmO v):=by unfold qmO;infer_instance
def rdV (b:BB):TEnv×Int×Unit:=if b.length < 47 then (noV,3,()) else if 946 < b.length then (noV,4,()) else if qmO (rdV0 b) then (rdV0 b,0,()) else (noV,2,())
theorem qjF (b:BB) (hb:b.length≤1000000):qfM (b,())=some (rdV b):=by
 unfold qfM rdV
 dsimp only
 by_cases h1:b.length < 47
 ·rw [if_pos h1];exact qE (by simp only [go_sem,Int.reduceToNat];omega)
 ·rw [if_neg h1]
  refine (qB (by simp only [go_sem,Int.reduceToNat];omega)).trans ?_
  by_cases h2:946 < b.length
  ·rw [if_pos h2];exact qE (by simp only [go_sem,Int.reduceToNat];omega)
  ·rw [if_neg h2]
   refine (qB (by simp only [go_sem,Int.reduceToNat];omega)).trans ?_
   rw [xZ _ _ _ hb]
   refine (qF rfl).trans ?_
   rw [xZ _ _ _ hb]
   refine (qF rfl).trans ?_
   rw [xZ _ _ _ hb]
   refine (qF rfl).trans ?_
   rw [xZ _ _ _ hb]
   refine (qF rfl).trans ?_
   rw [xZ _ _ _ hb]
   refine (qF rfl).trans ?_
   rw [xZ _ _ _ hb]
   refine (qF rfl).trans ?_
   have e:i64 (isub (len b) 16)=((b.length - 16:Nat):Int):=i64n (by show (b.length:Int) - 16=_;omega) (by omega)
   rw [e]
   refine (qH (by simp only [go_sem,Int.reduceToNat];omega)).trans ((qH (by simp only [go_sem,Int.reduceToNat];omega)).trans ?_)
   dsimp only
   have s1:sub b 30 ((b.length - 16:Nat):Int)=(b.drop 30).take (b.length - 46):=by
    unfold sub
    rw [show (30:Int).toNat=30 from rfl,Int.toNat_natCast];congr 1
   have s2:sub b ((b.length - 16:Nat):Int) (len b)=b.drop (b.length - 16):=by
    unfold sub
    rw [Int.toNat_natCast,List.take_of_length_le]
    rw [List.length_drop];show _≤(b.length:Int).toNat - _;omega
   rw [s1,s2,show qaD ((tkI b 0 1,tkI b 1 1,[tkI b 2 8,tkI b 10 8],tkI b 18 4,tkI b 22 8,(b.drop 30).take (b.length - 46),b.drop (b.length - 16),()),())=_ from qiH (rdV0 b)]
   refine (qF rfl).trans ?_
   by_cases h:qmO (rdV0 b)
   ·rw [D_t h,if_pos h];rfl
   ·rw [D_f h,if_neg h];rfl
theorem qzR {b:BB} {A W:Nat} {n:Int} (hW1:1≤W) (hW:W≤8) (hl:A+W≤b.length) (h0:0≤n) (hn:n < 256 ^ W) (hL:n≤4611686018427387904) (ht:tk b A W=bigN W n):tkI b (A:Int) (W:Int)=n:=by
 unfold tkI
 rw [qHN hW1 hW hl h0 hn hL ht,if_pos rfl]
theorem qCP {v:TEnv} {t:BB} (hv:qd4 v) (he:v.2.2.1=[e0 v,e1 v]) (ht:t.length=16):rdV (qT v++t)=(kT v t,0,()):=by
 have hlen:(qT v++t).length=46+v.2.2.2.2.2.1.length:=by rw [List.length_append,jS,ht];omega
 have hbody:=hv.2.2.2.2.2.2
 obtain ⟨h1,h2,h3,h4,h5,h6,h7,h8⟩:=hv
 have l1:=qR 1 v.1
 have l2:=qR 1 v.2.1
 have l3:=qR 8 (e0 v)
 have l4:=qR 8 (e1 v)
 have l5:=qR 4 v.2.2.2.1
 have l6:=qR 8 v.2.2.2.2.1
 have n2:=h2.2
 have n3:=h3.2
 have n4:=h4.2
 obtain ⟨rest,hrest⟩:∃ rest,rest=v.2.2.2.2.2.1++t:=⟨_,rfl⟩
 have hE:qT v++t=bigN 1 v.1++(bigN 1 v.2.1++(bigN 8 (e0 v)++(bigN 8 (e1 v)++(bigN 4 v.2.2.2.1++(bigN 8 v.2.2.2.2.1++rest))))):=by unfold qT;rw [hrest];simp only [List.append_assoc]
 have t1:tk (qT v++t) 0 1=bigN 1 v.1:=by rw [hE];exact qzQ (A:=[]) rfl l1
 have t2:tk (qT v++t) 1 1=bigN 1 v.2.1:=by rw [hE];exact qzQ l1 l2
 have t3:tk (qT v++t) 2 8=bigN 8 (e0 v):=by rw [hE,← List.append_assoc];exact qzQ (by rw [List.length_append,l1,l2]) l3
 have t4:tk (qT v++t) 10 8=bigN 8 (e1 v):=by rw [hE,← List.append_assoc,← List.append_assoc];exact qzQ (by simp only [List.length_append,l1,l2,l3]) l4
 have t5:tk (qT v++t) 18 4=bigN 4 v.2.2.2.1:=by rw [hE,← List.append_assoc,← List.append_assoc,← List.append_assoc];exact qzQ (by simp only [List.length_append,l1,l2,l3,l4]) l5
 have t6:tk (qT v++t) 22 8=bigN 8 v.2.2.2.2.1:=by rw [hE,← List.append_assoc,← List.append_assoc,← List.append_assoc,← List.append_assoc];exact qzQ (by simp only [List.length_append,l1,l2,l3,l4,l5]) l6
 have hz:rdV0 (qT v++t)=kT v t:=by
  unfold rdV0 kT
  have q1:tkI (qT v++t) 0 1=v.1:=qzR (A:=0) (W:=1) (by omega) (by omega) (by omega) (by omega) (by omega) (by omega) t1
  have q2:tkI (qT v++t) 1 1=v.2.1:=qzR (A:=1) (W:=1) (by omega) (by omega) (by omega) (by omega) (by omega) (by omega) t2
  have q3:tkI (qT v++t) 2 8=e0 v:=qzR (A:=2) (W:=8) (by omega) (by omega) (by omega) h2.1 (by omega) n2 t3
  have q4:tkI (qT v++t) 10 8=e1 v:=qzR (A:=10) (W:=8) (by omega) (by omega) (by omega) h3.1 (by omega) n3 t4
  have q5:tkI (qT v++t) 18 4=v.2.2.2.1:=qzR (A:=18) (W:=4) (by omega) (by omega) (by omega) h6.1 (by omega) (by omega) t5
  have q6:tkI (qT v++t) 22 8=v.2.2.2.2.1:=qzR (A:=22) (W:=8) (by omega) (by omega) (by omega) h4.1 (by omega) n4 t6
  have hpre:(bigN 1 v.1++bigN 1 v.2.1++bigN 8 (e0 v)++bigN 8 (e1 v)++bigN 4 v.2.2.2.1++bigN 8 v.2.2.2.2.1).length=30:=by simp only [List.length_append,l1,l2,l3,l4,l5,l6]
  have q7:((qT v++t).drop 30).take ((qT v++t).length - 46)=v.2.2.2.2.2.1:=by
   rw [hlen]
   unfold qT
   rw [List.append_assoc,← hpre,List.drop_left,Nat.add_sub_cancel_left,List.take_left]
  have q8:(qT v++t).drop ((qT v++t).length - 16)=t:=by
   rw [hlen,show 46+v.2.2.2.2.2.1.length - 16=(qT v).length by rw [jS];omega,List.drop_left]
  rw [q1,q2,q3,q4,q5,q6,q7,q8,← he]
 unfold rdV
 rw [if_neg (by omega),if_neg (by omega),hz,if_pos]
 exact ⟨⟨h1,h2,h3,h4,h5,h6,h7,h8⟩,ht⟩
theorem qML {a:Int} (h:0≤a):n8 (u8 a)=a % 256:=by
 show (((BitVec.ofNat 8 ((a % 2 ^ 8).toNat)).toNat:Nat):Int)=a % 256
 rw [BitVec.toNat_ofNat];omega
theorem qOe (x:BB) (hx:x.length≤1024):256*n8 (u8 (shrI .i64 (len x) (n64 (u64 8))))+n8 (u8 (len x))=(x.length:Int):=by
 have a2:shrI .i64 (len x) (n64 (u64 8))=((x.length / 256:Nat):Int):=by show Int.fdiv (x.length:Int) (2 ^ 8)=_;rw [Int.fdiv_eq_ediv_of_nonneg _ (by decide)];omega
 rw [a2,qML (by omega),qML (by show (0:Int)≤(x.length:Int);omega)]
 show 256*(((x.length / 256:Nat):Int) % 256)+(x.length:Int) % 256=_
 omega
theorem qNE {b:BB} {n:Nat} {c:UInt8} (hb1:b.length≤2000) (hn:1≤n∧n≤1024) (hl:b.length+1 < n+2) (hnum:2≤b.length+1→256*n8 (nth (b++[c]) 0 (u8 0))+n8 (nth (b++[c]) 1 (u8 0))=(n:Int)):qfP ((b,0,0,()),c,())=some ((b++[c],0,0,()),[],()):=by
 unfold qfP
 refine (qB rfl).trans ?_
 dsimp only
 rw [show app (app (none' UInt8) b) [c]=b++[c] from rfl,show app (none' UInt8) b=b from rfl]
 refine (qH (by simp only [go_sem,Int.reduceToNat];omega)).trans ((qH (by simp only [go_sem,Int.reduceToNat];simp;omega)).trans ?_)
 have hlen:(b++[c]).length=b.length+1:=by simp
 by_cases h2:b.length+1 < 2
 ·exact qE (by simp only [go_sem,Int.reduceToNat];omega)
 ·refine (qB (by simp only [go_sem,Int.reduceToNat];omega)).trans ?_
  refine (qH (by simp only [go_sem,Int.reduceToNat];omega)).trans ((qH (by simp only [go_sem,Int.reduceToNat];omega)).trans ?_)
  have hnum:=hnum (by omega)
  rw [show nat 0=0 from rfl,show nat 1=1 from rfl]
  have hx:=qz7 (nth (b++[c]) 0 (u8 0))
  have hy:=qz7 (nth (b++[c]) 1 (u8 0))
  generalize n8 (nth (b++[c]) 0 (u8 0))=x at hx hnum
  generalize n8 (nth (b++[c]) 1 (u8 0))=y at hy hnum
  have e:i64 (iadd (i64 (imul 256 (i64 x))) (i64 y))=(n:Int):=by
   rw [show i64 x=x from zR (by omega) (by omega),show i64 y=y from zR (by omega) (by omega),show i64 (imul 256 x)=256*x from zR (by show -9223372036854775808≤256*x;omega) (by show 256*x≤9223372036854775807;omega)]
   rw [← hnum]
   exact zR (by show -9223372036854775808≤256*x+y;omega) (by show 256*x+y≤9223372036854775807;omega)
  rw [e,show i64 (iadd (n:Int) 2)=((n+2:Nat):Int) from i64n (by show (n:Int)+2=_;omega) (by omega)]
  refine (qF (a:=(false,())) ((qB (vL (by omega))).trans (by rw [lt_f (by omega)]))).trans ((qB rfl).trans ?_)
  exact qE (by simp only [go_sem,Int.reduceToNat];omega)
theorem qNF {b:BB} {n:Nat} {c:UInt8} (hn:1≤n∧n≤1024) (hl:b.length+1=n+2) (hnum:256*n8 (nth (b++[c]) 0 (u8 0))+n8 (nth (b++[c]) 1 (u8 0))=(n:Int)):qfP ((b,0,0,()),c,())=some (noF,(b++[c]).drop 2,()):=by
 unfold qfP
 refine (qB rfl).trans ?_
 dsimp only
 rw [show app (app (none' UInt8) b) [c]=b++[c] from rfl,show app (none' UInt8) b=b from rfl]
 refine (qH (by simp only [go_sem,Int.reduceToNat];omega)).trans ((qH (by simp only [go_sem,Int.reduceToNat];simp;omega)).trans ?_)
 have hlen:(b++[c]).length=b.length+1:=by simp
 refine (qB (by simp only [go_sem,Int.reduceToNat];omega)).trans ?_
 refine (qH (by simp only [go_sem,Int.reduceToNat];omega)).trans ((qH (by simp only [go_sem,Int.reduceToNat];omega)).trans ?_)
 rw [show nat 0=0 from rfl,show nat 1=1 from rfl]
 have hx:=qz7 (nth (b++[c]) 0 (u8 0))
 have hy:=qz7 (nth (b++[c]) 1 (u8 0))
 generalize n8 (nth (b++[c]) 0 (u8 0))=x at hx hnum
 generalize n8 (nth (b++[c]) 1 (u8 0))=y at hy hnum
 have e:i64 (iadd (i64 (imul 256 (i64 x))) (i64 y))=(n:Int):=by
  rw [show i64 x=x from zR (by omega) (by omega),show i64 y=y from zR (by omega) (by omega),show i64 (imul 256 x)=256*x from zR (by show -9223372036854775808≤256*x;omega) (by show 256*x≤9223372036854775807;omega)]
  rw [← hnum]
  exact zR (by show -9223372036854775808≤256*x+y;omega) (by show 256*x+y≤9223372036854775807;omega)
 rw [e,show i64 (iadd (n:Int) 2)=((n+2:Nat):Int) from i64n (by show (n:Int)+2=_;omega) (by omega)]
 refine (qF (a:=(false,())) ((qB (vL (by omega))).trans (by rw [lt_f (by omega)]))).trans ((qB rfl).trans ?_)
 refine (qB (by simp only [go_sem,Int.reduceToNat];omega)).trans ?_
 refine (qH (by simp only [go_sem,Int.reduceToNat];omega)).trans ?_
 have hc:cut (b++[c]) (nat 2) (nsub (nat (len (b++[c]))) (nat 2))=(b++[c]).drop 2:=by
  unfold cut
  rw [show nat 2=2 from rfl,List.take_of_length_le (by rw [List.length_drop];show _≤((b++[c]).length:Int).toNat - 2;omega)]
 rw [hc];rfl
theorem qDp (x:BB) (hx:1≤x.length∧x.length≤1024):qfG (vT x,())=some (x,()):=by
 unfold qfG qrC
 dsimp only
 generalize hf:(fun (x_1:List BB×Int×FT×Unit)=>(_:Option (LS (List BB×Int×FT×Unit) (FT×List BB×Unit))))=f
 have hl:(vT x).length=x.length+2:=qsD x
 have hnum:∀ i,2≤i→256*n8 (nth ((vT x).take i) 0 (u8 0))+n8 (nth ((vT x).take i) 1 (u8 0))=(x.length:Int):=by
  intro i hi
  obtain ⟨j,rfl⟩:∃ j,i=j+2:=⟨i - 2,by omega⟩
  rw [← qOe x hx.2];rfl
 have tk1:∀ i (h:i < (vT x).length),(vT x).take i++[nth (vT x) (nat (i:Int)) (u8 0)]=(vT x).take (i+1):=fun i h=>by rw [qP,qK h,List.take_succ_eq_append_getElem h]
 have step:∀ i:Nat,i < x.length+1→f ([],(i:Int),((vT x).take i,0,0,()),())=some (.nx ([],((i+1:Nat):Int),((vT x).take (i+1),0,0,()),())):=by
  intro i hi
  subst hf
  have hi':i64 (iadd (i:Int) 1)=((i+1:Nat):Int):=i64n (by show (i:Int)+1=_;omega) (by omega)
  have htl:((vT x).take i).length=i:=by rw [List.length_take];omega
  refine (qE (by simp only [go_sem,Int.reduceToNat];omega)).trans ((qH (by simp only [go_sem,Int.reduceToNat];omega)).trans ?_)
  dsimp only
  rw [qNE (n:=x.length) (by omega) hx (by omega) (fun h=>by rw [tk1 i (by omega)];exact hnum _ (by omega)),tk1 i (by omega),hi']
  rfl
 have hlast:f ([],((x.length+1:Nat):Int),((vT x).take (x.length+1),0,0,()),())=some (.nx ([x],((x.length+2:Nat):Int),noF,())):=by
  subst hf
  have hi':i64 (iadd ((x.length+1:Nat):Int) 1)=((x.length+2:Nat):Int):=i64n (by show ((x.length+1:Nat):Int)+1=_;omega) (by omega)
  have htl:((vT x).take (x.length+1)).length=x.length+1:=by rw [List.length_take];omega
  refine (qE (by simp only [go_sem,Int.reduceToNat];omega)).trans ((qH (by simp only [go_sem,Int.reduceToNat];omega)).trans ?_)
  dsimp only
  rw [qNF (n:=x.length) hx (by omega) (by rw [tk1 _ (by omega)];exact hnum _ (by omega)),tk1 _ (by omega),hi',List.take_of_length_le (by omega)]
  rw [show (vT x).drop 2=x from rfl]
  refine (qF rfl).trans ((qE (by simp only [go_sem,Int.reduceToNat];omega)).trans ((qH (by simp only [go_sem,Int.reduceToNat];simp)).trans ?_))
  rfl
 have hend:f ([x],((x.length+2:Nat):Int),noF,())=some (.ex 0 ([x],((x.length+2:Nat):Int),noF,())):=by subst hf;exact qB (by simp only [go_sem,Int.reduceToNat];omega)
 have hloop:=(qM (f:=f) (fun i=>([],(i:Int),((vT x).take i,0,0,()),())) (x.length+1) step 0 (Nat.zero_le _)).trans ((vF hlast).trans (qU hend))
 refine (zZ (qX (show loop f (none' BB,0,(none' UInt8,0,0,()),())=_ from hloop))).trans ?_
 rfl
theorem qwB {σ ρ:Type} {f:σ→Option (LS σ ρ)} (P:Nat→σ→Prop) (Q:σ→Prop) (n e:Nat) (hs:∀ i,i < n→∀ x,P i x→∃ y,f x=some (.nx y)∧P (i+1) y) (he:∀ x,P n x→∃ y,f x=some (.ex e y)∧Q y) {x:σ} (h0:P 0 x):∃ y,loop f x=some (.ex e y)∧Q y:=by
 have key:∀ k i x,i+k=n→P i x→∃ y,loop f x=some (.ex e y)∧Q y:=by
  intro k
  induction k with
  | zero =>
   intro i x hi hp
   have:i=n:=by omega
   subst this
   obtain ⟨y,h1,h2⟩:=he x hp
   exact ⟨y,qU h1,h2⟩
  | succ k ih =>
   intro i x hi hp
   obtain ⟨y,h1,h2⟩:=hs i (by omega) x hp
   rw [vF h1]
   exact ih (i+1) y (by omega) h2
 exact key n 0 x (by omega) h0
theorem qHL (w:WT) (hw:w.2.1.length=16) (h0:0≤w.1) (hT:w.1≤1000000):∃ l:List Int,qg4 (w,())=some (l,())∧(∀ m∈l,0≤m∧m < w.1)∧l.length≤1000000:=by
 unfold qg4
 dsimp only
 obtain ⟨T,hT'⟩:∃ T:Nat,w.1=(T:Int):=⟨w.1.toNat,by omega⟩
 obtain ⟨a,ha⟩:∃ a:Nat,maxI 0 (i64 (isub w.1 1024))=(a:Int)∧a≤T:=by
  rw [show i64 (isub w.1 1024)=w.1 - 1024 from zR (by show -9223372036854775808≤w.1 - 1024;omega) (by show w.1 - 1024≤9223372036854775807;omega),g58]
  exact ⟨(max 0 (w.1 - 1024)).toNat,by omega,by omega⟩
 rw [ha.1]
 generalize hf:(fun (x_1:List Int×Int×Unit)=>(_:Option (LS (List Int×Int×Unit) (List Int×Unit))))=f
 have key:=qwB (f:=f) (fun i x=>x.2.1=((a+i:Nat):Int)∧(∀ m∈x.1,0≤m∧m < w.1)∧x.1.length≤i) (fun x=>(∀ m∈x.1,0≤m∧m < w.1)∧x.1.length≤1000000) (T - a) 0 (fun i hi x hp => ?_) (fun x hp => ?_) (x:=(none' Int,(a:Int),())) ⟨rfl,fun m hm=>(List.not_mem_nil hm).elim,Nat.le_refl _⟩
 ·obtain ⟨⟨l,j,⟨⟩⟩,h1,h2,h3⟩:=key
  exact ⟨l,(qX h1).trans (qH g62),h2,h3⟩
 ·subst hf
  obtain ⟨l,j,⟨⟩⟩:=x
  obtain ⟨p1,p2,p3⟩:=hp
  dsimp only at p1 p2 p3
  subst p1
  have hi':i64 (iadd ((a+i:Nat):Int) 1)=((a+(i+1):Nat):Int):=i64n (by show ((a+i:Nat):Int)+1=_;omega) (by omega)
  have hm:imod ((a+i:Nat):Int) 1024=(((a+i) % 1024:Nat):Int):=by rw [g32 (by omega)];omega
  have e1:∀ (A B:Option (LS (List Int×Int×Unit) (List Int×Unit))),sel (lt ((a+i:Nat):Int) w.1) A B=A:=fun A B=>qE (lt_t (by omega))
  dsimp only
  rw [e1,hm,qa6 w hw _ (by omega),hi']
  cases hb:bitW w ((a+i) % 1024)
  ·exact ⟨(l,((a+(i+1):Nat):Int),()),rfl,rfl,p2,by dsimp only;omega⟩
  ·refine ⟨(l++[((a+i:Nat):Int)],((a+(i+1):Nat):Int),()),(qF rfl).trans ((qE rfl).trans (qH (by simp only [go_sem,Int.reduceToNat];simp;omega))),rfl,fun m hm => ?_,by simp;omega⟩
   rcases List.mem_append.1 hm with h | h
   ·exact p2 m h
   ·rw [List.mem_singleton] at h;omega
 ·subst hf
  obtain ⟨l,j,⟨⟩⟩:=x
  obtain ⟨p1,p2,p3⟩:=hp
  dsimp only at p1 p2 p3
  refine ⟨(l,j,()),qB (lt_f (by dsimp only;omega)),p2,by dsimp only;omega⟩
theorem qH2 (w:WT) (hw:w.2.1.length=16) (h0:0≤w.1) (n:Int) (hn:w.1≤n) (hn2:n≤900000):∃ bs:List UInt64,qfO (w,n,())=some ((n+1,bs,()),0,())∧bs.length=16:=by
  unfold qfO
  dsimp only
  obtain ⟨l,hl,hm,hll⟩:=qHL w hw h0 (by omega)
  have e0:i64 (isub w.1 1024)=w.1 - 1024:=zR (by show -9223372036854775808≤w.1 - 1024;omega) (by show w.1 - 1024≤9223372036854775807;omega)
  have hfresh:qg6 (w,n,())=some (true,()):=by
    unfold qg6
    dsimp only
    rw [e0]
    refine (qF (a:=(false,())) (by simp only [go_sem,Int.reduceToNat];try exact yI (by omega))).trans ((qB rfl).trans ?_)
    refine (qF (a:=(true,())) (qE (le_t hn))).trans rfl
  have e1:i64 (iadd n 1)=n+1:=zR (by show -9223372036854775808≤n+1;omega) (by show n+1≤9223372036854775807;omega)
  have e2:i64 (isub (n+1) 1024)=n+1 - 1024:=zR (by show -9223372036854775808≤n+1 - 1024;omega) (by show n+1 - 1024≤9223372036854775807;omega)
  generalize hf:(fun (x_1:List Int×Int×Unit)=>(1:Nat))=dummy
  have main:∃ bs:List UInt64,(lc (loop (fun (x_1:Int×(Int×List UInt64×Unit)×Unit) =>
    sel (lt x_1.1 (len (app l [n])))
    (ck (inB x_1.1 (len (app l [n])))
    (ck (inB x_1.1 (len (app l [n])))
    (sel (le (n+1 - 1024) (nth (app l [n]) (nat x_1.1) 0))
    (ck (inB (i64 (idiv (imod (nth (app l [n]) (nat x_1.1) 0) 1024) 64)) (ofn 16))
    (ob (qaF (imod (imod (nth (app l [n]) (nat x_1.1) 0) 1024) 64,()))
    fun (a:UInt64×Unit) =>
    ck (inB (i64 (idiv (imod (nth (app l [n]) (nat x_1.1) 0) 1024) 64)) (ofn 16))
    (some (LS.nx (i64 (iadd x_1.1 1),(x_1.2.1.1,upd x_1.2.1.2.1 (nat (i64 (idiv (imod (nth (app l [n]) (nat x_1.1) 0) 1024) 64)))
    (u64 (iadd (n64 (nth x_1.2.1.2.1 (nat (i64 (idiv (imod (nth (app l [n]) (nat x_1.1) 0) 1024) 64))) (u64 0))) (n64 a.1))),x_1.2.1.2.2),())))))
    (some (LS.nx (i64 (iadd x_1.1 1),x_1.2.1,()))))))
    (some (LS.ex 0 (x_1.1,x_1.2.1,()))))
   (0,(n+1,noW.2.1,()),()))
   (fun (a:Int×(Int×List UInt64×Unit)×Unit)=>none)
   (fun (i:Nat) (a:Int×(Int×List UInt64×Unit)×Unit)=>ck (neb i 0) (some (a.2.1,0,())))
   (fun (r:(Int×List UInt64×Unit)×Int×Unit)=>some r))=some ((n+1,bs,()),0,())∧bs.length=16:=by
    rw [show app l [n]=l++[n] from rfl]
    have hall:∀ m∈l++[n],0≤m:=by
      intro m h
      rcases List.mem_append.1 h with h | h
      · exact (hm m h).1
      · rw [List.mem_singleton] at h;omega
    have hlen:(l++[n]).length=l.length+1:=by simp
    generalize l++[n]=q at hall hlen
    generalize hg:(fun (x_1:Int×(Int×List UInt64×Unit)×Unit)=>(_:Option (LS (Int×(Int×List UInt64×Unit)×Unit) ((Int×List UInt64×Unit)×Int×Unit))))=g
    have key:=qwB (f:=g) (fun i x=>x.1=(i:Int)∧x.2.1.1=n+1∧x.2.1.2.1.length=16) (fun x=>x.2.1.1=n+1∧x.2.1.2.1.length=16) q.length 0 (fun i hi x hp => ?_) (fun x hp => ?_) (x:=(0,(n+1,noW.2.1,()),())) ⟨rfl,rfl,rfl⟩
    · obtain ⟨⟨j,⟨t,bs,⟨⟩⟩,⟨⟩⟩,h1,h2,h3⟩:=key
      dsimp only at h2 h3
      subst h2
      exact ⟨bs,(qX h1).trans (qH g62),h3⟩
    · subst hg
      obtain ⟨j,⟨t,bs,⟨⟩⟩,⟨⟩⟩:=x
      obtain ⟨p1,p2,p3⟩:=hp
      dsimp only at p1 p2 p3
      subst p1
      have hi':i64 (iadd (i:Int) 1)=((i+1:Nat):Int):=i64n (by show (i:Int)+1=_;omega) (by omega)
      have hq:=hall q[i] (List.getElem_mem hi)
      dsimp only
      have e3:nth q (nat (i:Int)) 0=q[i]:=by rw [qP,qK hi]
      rw [hi',e3]
      generalize q[i]=m at hq
      have e4:imod m 1024=((m.toNat % 1024:Nat):Int):=by rw [g32 hq];omega
      have e5:i64 (idiv (((m.toNat % 1024:Nat):Int)) 64)=((m.toNat % 1024 / 64:Nat):Int):=by rw [g31 (by omega)];exact i64n (by omega) (by omega)
      have e6:imod (((m.toNat % 1024:Nat):Int)) 64=((m.toNat % 1024 % 64:Nat):Int):=by rw [g32 (by omega)];omega
      rw [e4,e5,e6,qiI _ (by omega)]
      by_cases hc:n+1 - 1024≤m
      · exact ⟨_,(qE (by simp only [go_sem,Int.reduceToNat];omega)).trans ((qH (by simp only [go_sem,Int.reduceToNat];omega)).trans ((qH (by simp only [go_sem,Int.reduceToNat];omega)).trans ((qE (le_t hc)).trans ((qH (by simp only [go_sem,Int.reduceToNat];omega)).trans ((qF rfl).trans (qH (by simp only [go_sem,Int.reduceToNat];omega))))))),rfl,p2,by show (upd bs _ _).length=16;unfold upd;rw [List.length_set];exact p3⟩
      · exact ⟨_,(qE (by simp only [go_sem,Int.reduceToNat];omega)).trans ((qH (by simp only [go_sem,Int.reduceToNat];omega)).trans ((qH (by simp only [go_sem,Int.reduceToNat];omega)).trans (qB (le_f hc)))),rfl,p2,p3⟩
    · subst hg
      obtain ⟨j,⟨t,bs,⟨⟩⟩,⟨⟩⟩:=x
      obtain ⟨p1,p2,p3⟩:=hp
      dsimp only at p1 p2 p3
      exact ⟨_,qB (lt_f (by dsimp only;rw [p1];show ¬ (q.length:Int) < (q.length:Int);omega)),p2,p3⟩
  obtain ⟨bs,hmain,hbs⟩:=main
  refine ⟨bs, ?_,hbs⟩
  refine (qF (a:=(false,())) (by simp only [go_sem,Int.reduceToNat];try exact yI (by omega))).trans ((qB rfl).trans ?_)
  rw [hfresh]
  refine (qF rfl).trans ((qB rfl).trans ?_)
  refine (qF (a:=(n+1,())) ((qE (le_t hn)).trans (by rw [e1]))).trans ?_
  rw [hl]
  refine (qF rfl).trans ((qH (by simp only [go_sem,Int.reduceToNat];simp;omega)).trans ?_)
  dsimp only
  rw [e2]
  exact hmain
structure hears (a:En') (r:En'):Prop where
 id:r.id=1 - a.id
 pair:qaM r=qaM a
 ph:zC r.ph
 gen:1≤a.ring.1.1
 find:qFo r.ring a.ring.1.1=(a.ring.1.2.1,true,())
 win:r.win.1≤a.seq∧0≤r.win.1
 seq:a.seq≤900000
theorem qGX (e:En'):qaM e=[nth (qaM e) 0 0,nth (qaM e) 1 0]:=by
 unfold qaM
 split
 ·rfl
 ·split <;> rfl
theorem qQj {i:Int} (h:i=0∨i=1):i64 (isub 1 i)=1 - i:=zR (by show -9223372036854775808≤1 - i;omega) (by show 1 - i≤9223372036854775807;omega)
theorem qLg {n m:Nat} {a r:En'} (ha:okE n a) (hr:okE m r) (h:hears a r) (b t:BB):qgV (r.t,kT (jB a b) t,())=some (false,()):=by
 unfold qgV
 dsimp only
 rw [show r.t.1=r.id from rfl,show r.t.2.2.1=r.ph from rfl,show (kT (jB a b) t).2.1=a.id from rfl,show (kT (jB a b) t).1=2 from rfl,show (kT (jB a b) t).2.2.1=qaM a from rfl,show (kT (jB a b) t).2.2.2.1=a.ring.1.1 from rfl,show r.t.2.2.2.2.2.2.2.2.2.2.1=r.ring from rfl,qQj hr.id]
 have h7:=h.ph
 have hid:=h.id
 have hrid:=hr.id
 unfold zC at h7
 refine (qF (a:=(false,())) ((qB (bq_f (by omega))).trans ((qB (vL (by omega))).trans (by rw [vL (by omega)])))).trans ((qB rfl).trans ((qB rfl).trans ?_))
 rw [v6,h.pair]
 refine (qF rfl).trans ?_
 rw [kK,D_t h.ph]
 refine (qF rfl).trans ?_
 rw [qjI,h.find]
 refine (qF rfl).trans ?_
 dsimp only
 refine (qF (a:=(false,())) ?_).trans rfl
 refine (qB rfl).trans ((qB rfl).trans ((qH rfl).trans ((qH rfl).trans ((qB (bq_f rfl)).trans ((qH rfl).trans ((qH rfl).trans ?_))))))
 rw [bq_f rfl]
def qwH (r:En') (g:Int):jF:=if r.ring.2.2.1.1=g∧¬ r.ph=4 then (qq0 r.ring).1 else r.ring
theorem qLF (p:qa2) (k b:BB):pchk (ptag p k b) k b (vK k b)=(ptag p k b,true,()):=by
 unfold pchk
 rw [if_pos rfl,if_pos]
 unfold ptag
 split
 ·assumption
 ·simp
theorem qIR {n m:Nat} {a r:En'} {p:qa2} (ha:okE n a) (hr:okE m r) (hp:p.2.1.length≤900000) (h:hears a r) {b:BB} (hb:qeZ b):∃ bs:List UInt64,bs.length=16 ∧
  qfH ((r.t,ptag p a.ring.1.2.1 (qT (jB a b)),()),qT (jB a b)++vK a.ring.1.2.1 (qT (jB a b)),()) =
   some (({ r with win:=(a.seq+1,bs,()),ring:=qwH r a.ring.1.1 }.t,ptag p a.ring.1.2.1 (qT (jB a b)),()),kT (jB a b) (vK a.ring.1.2.1 (qT (jB a b))),0,()):=by
 have hv:=qgR ha hb
 have ht:=y8 a.ring.1.2.1 (qT (jB a b))
 have hl:=jS (jB a b)
 have hbl:(jB a b).2.2.2.2.2.1=b:=rfl
 have hb2:=hb.2
 have hkey:=hr.key
 have hrk:=qlF ha.ring
 obtain ⟨bs,hm,hbs⟩:=qH2 r.win hr.win h.win.2 a.seq h.win.1 h.seq
 refine ⟨bs,hbs, ?_⟩
 unfold qfH
 dsimp only
 rw [qjF _ (by rw [List.length_append,ht,hl,hbl];omega),qCP hv (show (jB a b).2.2.1=_ from qGX a) ht]
 refine (qF rfl).trans ((qB rfl).trans ?_)
 dsimp only
 generalize htg:vK a.ring.1.2.1 (qT (jB a b))=t at ht
 rw [qLg ha hr h b t]
 refine (qF rfl).trans ((qB rfl).trans ?_)
 rw [show r.t.2.1=r.key from rfl,qvC _ (by omega)]
 refine (qF rfl).trans ((qE rfl).trans ?_)
 rw [show r.t.2.2.2.2.2.2.2.2.2.2.1=r.ring from rfl,show (kT (jB a b) t).2.2.2.1=a.ring.1.1 from rfl,qjI,h.find]
 refine (qF rfl).trans ?_
 rw [qbO (kT (jB a b) t) hv,show qT (kT (jB a b) t)=qT (jB a b) from rfl]
 refine (qF rfl).trans ?_
 dsimp only
 have hpl:(ptag p a.ring.1.2.1 (qT (jB a b))).2.1.length≤900001:=by
  unfold ptag;split
  ·omega
  ·dsimp only;rw [List.length_append,List.length_singleton];omega
 rw [qtW _ _ _ _ (by omega) (by omega) (by rw [hl,hbl];omega),show (kT (jB a b) t).2.2.2.2.2.2.1=t from rfl,← htg,qLF]
 refine (qF rfl).trans ((qB rfl).trans ((qB rfl).trans ?_))
 rw [show r.t.2.2.2.2.2.2.2.2.2.1=r.win from rfl,show (kT (jB a b) (vK a.ring.1.2.1 (qT (jB a b)))).2.2.2.2.1=a.seq from rfl,hm]
 refine (qF rfl).trans ((qB rfl).trans ?_)
 rw [show r.t.2.2.1=r.ph from rfl]
 unfold qwH
 by_cases h1:r.ring.2.2.1.1=a.ring.1.1
 ·by_cases h2:r.ph=4
  ·rw [if_neg (fun q=>q.2 h2)]
   refine (qF (a:=(false,())) ((qE (kQ h1)).trans (by rw [bq_f h2]))).trans ((qB rfl).trans rfl)
  ·rw [if_pos ⟨h1,h2⟩]
   refine (qF (a:=(true,())) ((qE (kQ h1)).trans (by rw [bq_t h2]))).trans ((qE rfl).trans ?_)
   rw [qjG _ (qEZ hr.ring)]
   rfl
 ·rw [if_neg (fun q=>h1 q.1)]
  refine (qF (a:=(false,())) (qB (vL h1))).trans ((qB rfl).trans rfl)
theorem qGH {s:Si} {b:BB} (hb:qeZ b) (hl:zC s.e.ph) (hq:s.e.seq≤900000) (hh:(kU s.e.hub).2.2.1=0):y6 s b =
  (⟨{ s.e with hub:=(kU s.e.hub).1,out:=s.e.out++[((kU s.e.hub).2.1,vT (qT (jB s.e b)++vK s.e.ring.1.2.1 (qT (jB s.e b))),())],seq:=s.e.seq+1 },ptag s.p s.e.ring.1.2.1 (qT (jB s.e b))⟩,0):=by
 unfold y6 qkL
 rw [if_neg (not_not_intro hb),if_neg (not_not_intro hl),if_neg (by omega),if_pos hh]
 rfl
theorem qIx {n m:Nat} {s r:Si} (hs:okS n s) (hr:okS m r) (hn:n≤900000) (h:hears s.e r.e) {b:BB} (hb:qeZ b) (hl:zC s.e.ph) (hh:(kU s.e.hub).2.2.1=0) {k:jZ} (hk:rdN b=(k,0,())):∃ bs:List UInt64,bs.length=16 ∧
  vG ((y6 s b).1.t,r.t,())=some ((⟨{ r.e with win:=(s.e.seq+1,bs,()),ring:=qwH r.e s.e.ring.1.1 },(y6 s b).1.p⟩:Si).t,k,true,()):=by
 have hp:=hs.p
 obtain ⟨bs,hbs,ht⟩:=qIR (p:=s.p) hs.e hr.e (by omega) h hb
 refine ⟨bs,hbs, ?_⟩
 rw [qGH hb hl h.seq hh]
 have ho:=hs.e.out
 generalize hx:qT (jB s.e b)++vK s.e.ring.1.2.1 (qT (jB s.e b))=x at ht
 have hxl:x.length=46+b.length:=by rw [← hx,List.length_append,y8,jS,show (jB s.e b).2.2.2.2.2.1=b from rfl];omega
 have hb1:=hb.1
 have hb2:=hb.2
 unfold vG
 dsimp only
 rw [show (⟨{ s.e with hub:=(kU s.e.hub).1,out:=s.e.out++[((kU s.e.hub).2.1,vT x,())],seq:=s.e.seq+1 },ptag s.p s.e.ring.1.2.1 (qT (jB s.e b))⟩:Si).t.1.2.2.2.2.2.2.2.2.2.2.2.2.2.2.2.2.1=s.e.out++[((kU s.e.hub).2.1,vT x,())] from rfl]
 have e1:i64 (isub (len (s.e.out++[((kU s.e.hub).2.1,vT x,())])) 1)=(s.e.out.length:Int):=i64n (by show (((s.e.out++[_]).length:Nat):Int) - 1=_;rw [List.length_append,List.length_singleton];omega) (by omega)
 rw [e1]
 refine (qB (vL (by show ¬ (((s.e.out++[_]).length:Nat):Int)=0;rw [List.length_append,List.length_singleton];omega))).trans ((qH (by simp only [go_sem,Int.reduceToNat];simp;omega)).trans ?_)
 rw [show nth (s.e.out++[((kU s.e.hub).2.1,vT x,())]) (nat (s.e.out.length:Int)) (0,none' UInt8,())=((kU s.e.hub).2.1,vT x,()) by rw [qP,qK (by simp)];simp]
 dsimp only
 rw [qDp x (by omega)]
 refine (qF rfl).trans ?_
 dsimp only
 refine (qF (show qfH ((r.e.t,ptag s.p s.e.ring.1.2.1 (qT (jB s.e b)),()),x,())=_ from ht)).trans ?_
 dsimp only
 rw [show (kT (jB s.e b) (vK s.e.ring.1.2.1 (qT (jB s.e b)))).2.2.2.2.2.1=b from rfl,qjE _ (by omega),hk]
 rfl
def twK (fill:UInt8):BB:=upd (rep 32 (u8 0)) 0 fill
def twN (g:Nat):BB:=if g=1 then [] else [u8 (g:Int)]
def twG (fill:UInt8) (g:Nat):BB:=keyD (twK fill) [3,4] (g:Int) (twN g)
def twR (fill:UInt8):Nat→jF
 | 0=>noR
 | 1=>((1,twG fill 1,()),noG,noG,0,1,())
 | g+2=>(((g+2:Nat),twG fill (g+2),()),((g+1:Nat),twG fill (g+1),()),noG,16,(g+2:Nat),())
def hub1:THub:=([true,false,false,false],[noF,noF,noF,noF],[1,0,0,0],0,())
def twE (i:Int) (fill:UInt8) (g:Nat):En':=⟨i,twK fill,3,newS, -1,3+i,4 - i,4,0,noW,twR fill g,noA,0,0,[],hub1,[],[],[0,0,0,0]⟩
def tw (i:Int) (fill:UInt8) (g:Nat):Si:=⟨twE i fill g,(true,[],false,())⟩
theorem qe9 (fill:UInt8):(twK fill).length=32:=by unfold twK upd;rw [List.length_set];rfl
theorem qcG (fill:UInt8) {g:Nat} (hg:g≤2147483647):(twG fill g).length=32:=qnO ⟨by decide,by decide,by omega,by omega⟩
theorem yG (fill:UInt8) {g:Nat} (hg:1≤g):(twR fill g).1=((g:Int),twG fill g,()):=by
 match g,hg with
 | 1,_=>rfl
 | g+2,_=>rfl
theorem qIM (fill:UInt8) {g:Nat} (hg:1≤g):(twR fill g).2.2.2.2.1=(g:Int):=by
 match g,hg with
 | 1,_=>rfl
 | g+2,_=>rfl
theorem qt6 (fill:UInt8) {g:Nat} (hg:1≤g):(twR fill g).2.2.1=noG:=by
 match g,hg with
 | 1,_=>rfl
 | g+2,_=>rfl
theorem qMs (fill:UInt8) {g:Nat} (hg:1≤g):¬ twR fill g=noR:=fun h=>by
 have:=yG fill hg
 rw [h] at this
 have:(0:Int)=(g:Int):=congrArg Prod.fst this
 omega
theorem qv4 (fill:UInt8) {g:Nat} (hg:1≤g) {n:Int} (hn:(g:Int) < n) (hn2:n≤2147483647) {k:BB} (hk:k.length=32):zN (twR fill g) n k=(((twR fill g).1,(twR fill g).2.1,(n,k,()),(twR fill g).2.2.2.1,n,()),0,()):=by
 unfold zN
 rw [if_neg (not_not_intro ⟨by show 1≤n;omega,hn2,hk⟩),if_neg,qIM fill hg,show max (g:Int) n=n by omega]
 rw [yG fill hg,qt6 fill hg]
 rintro (h | h | h)
 ·exact qMs fill hg h
 ·dsimp only at h;omega
 ·have h:n < (0:Int):=h
  omega
theorem qHS {a b:Int} {x y:BB} (h1:1≤b) (h2:b < a) (h3:a≤2147483647) (hx:x.length=32) (hy:y.length=32):w9 ((a,x,()),(b,y,()),noG,16,a,()):=by
 have hb:¬ (b,y,())=noG:=fun h=>by
  have:b=0:=congrArg Prod.fst h
  omega
 refine .inr ⟨⟨by dsimp only;omega,h3,hx⟩,h3,Int.le_refl _, ?_, .inr ⟨hb,⟨h1,by dsimp only;omega,hy⟩,h2, ?_, ?_⟩, .inl rfl⟩
 ·show (0:Int)≤a;omega
 ·show (1:Int)≤16;omega
 ·show (16:Int)≤16;omega
theorem qHU {x:BB} (hx:x.length=32):w9 ((1,x,()),noG,noG,0,1,()):=by
 refine .inr ⟨⟨?_, ?_,hx⟩, ?_, ?_, ?_, .inl ⟨rfl,rfl⟩, .inl rfl⟩
 ·show (1:Int)≤1;omega
 ·show (1:Int)≤2147483647;omega
 ·show (1:Int)≤2147483647;omega
 ·show (1:Int)≤1;omega
 ·show (0:Int)≤1;omega
theorem qJf (fill:UInt8) {g:Nat} (hg:1≤g) (hg2:g≤100):w9 (twR fill g):=by
 match g,hg with
 | 1,_=>exact qHU (qcG fill (by omega))
 | g+2,_=>exact qHS (b:=((g+1:Nat):Int)) (by omega) (by omega) (by omega) (qcG fill (by omega)) (qcG fill (by omega))
theorem qv0 (i:Int) (hi:i=0∨i=1) (fill:UInt8) {g:Nat} (hg:1≤g) (hg2:g≤100):okS 0 (tw i fill g) where
 e:={
  id:=hi
  key:=by show (twK fill).length≤1000;rw [qe9];omega
  ph:=⟨by show (0:Int)≤3;omega,by show (3:Int)≤8;omega⟩
  store:=⟨qE3 1,List.length_replicate ..⟩
  own:=by show jA (3+i);rcases hi with rfl | rfl <;> decide
  oth:=by show jA (4 - i);rcases hi with rfl | rfl <;> decide
  seq:=by show jA 0;decide
  ring:=qJf fill hg hg2
  up:=rfl
  next:=by show (0:Int)≤0∧(0:Int) < 4;omega
  out:=Nat.le_refl _
  got:=Nat.le_refl _
  cnt:=rfl
  win:=rfl
  feed:=rfl
  life:=rfl
  queue:=by show ([]:List BB).length≤1000;simp }
 p:=Nat.le_refl _
theorem qME:qg8 (([false,false,false,false],[(none' UInt8,0,0,()),(none' UInt8,0,0,()),(none' UInt8,0,0,()),(none' UInt8,0,0,())],[0,0,0,0],0,()),0,())=some (hub1,0,()):=by kernel_rfl
theorem qzO (fill:UInt8) {g:Nat} (hg:1≤g) (hg2:g≤100):qaP (fill,(g:Int),())=some ((tw 0 fill g).t,(tw 1 fill g).t,()):=by
 unfold qaP
 refine (qH rfl).trans ((qH rfl).trans ?_)
 dsimp only
 rw [show upd (rep (nat 32) (u8 0)) (nat 0) fill=twK fill from rfl,show kW (twK fill,[3,4],1,none' UInt8,())=_ from qa5 (twK fill) [3,4] 1 [] (by rw [qe9];omega) (by simp)]
 refine (qF rfl).trans ?_
 dsimp only
 rw [show keyD (twK fill) [3,4] 1 []=twG fill 1 from rfl,qmS,show newR (twG fill 1)=(twR fill 1,0,()) by unfold newR;rw [if_pos (qcG fill (by omega))];rfl]
 refine (qF rfl).trans ?_
 dsimp only
 generalize hf:(fun (x_1:Int×jF×Unit)=>(_:Option (LS (Int×jF×Unit) (kG×kG×Unit))))=f
 have step:∀ j:Nat,j < g - 1→f (((j+2:Nat):Int),twR fill (j+1),())=some (.nx (((j+1+2:Nat):Int),twR fill (j+1+1),())):=by
  intro j hj
  subst hf
  have hi':i64 (iadd ((j+2:Nat):Int) 1)=((j+1+2:Nat):Int):=i64n (by show ((j+2:Nat):Int)+1=_;omega) (by omega)
  refine (qE (le_t (by show ((j+2:Nat):Int)≤(g:Int);omega))).trans ?_
  dsimp only
  rw [qa5 _ _ _ _ (by rw [qe9];omega) (by simp)]
  refine (qF rfl).trans ?_
  dsimp only
  rw [show keyD (twK fill) [3,4] ((j+2:Nat):Int) [u8 ((j+2:Nat):Int)]=twG fill (j+2) by unfold twG twN;rw [if_neg (by omega)],qtP,qv4 fill (g:=j+1) (by omega) (by omega) (by omega) (qcG fill (by omega))]
  refine (qF rfl).trans ?_
  dsimp only
  rw [qjG _ (.inr (by show ¬ ((j+2:Nat):Int)=0;omega))]
  refine (qF rfl).trans ?_
  rw [hi']
  unfold qq0
  rw [if_neg,yG fill (by omega:1≤j+1)]
  ·rfl
  ·intro h
   have:((j+2:Nat):Int)=0:=congrArg Prod.fst h
   omega
 have hend:f (((g+1:Nat):Int),twR fill g,())=some (.ex 0 (((g+1:Nat):Int),twR fill g,())):=by subst hf;exact qB (le_f (by show ¬ ((g+1:Nat):Int)≤(g:Int);omega))
 have hloop:=qM (f:=f) (fun j=>(((j+2:Nat):Int),twR fill (j+1),())) (g - 1) step 0 (Nat.zero_le _)
 rw [show g - 1+2=g+1 by omega,show g - 1+1=g by omega,qU hend] at hloop
 refine (qX (show loop f (2,twR fill 1,())=_ from hloop)).trans ((qH g62).trans ?_)
 dsimp only
 rw [qME]
 refine (qF rfl).trans ?_
 rw [qmR]
 refine (qF rfl).trans ?_
 rfl
def upH (h:THub):Prop:=h.1=[true,false,false,false]∧0≤h.2.2.2.1∧h.2.2.2.1 < 4
theorem qx4:upH hub1:=⟨rfl,by show (0:Int)≤0;omega,by show (0:Int) < 4;omega⟩
theorem qE7 {h:THub} (hu:upH h):(kU h).2.2.1=0∧upH (kU h).1:=by
 refine ⟨?_,(qGV h).trans hu.1,qz0 hu.2⟩
 obtain ⟨u,f,l,n,⟨⟩⟩:=h
 obtain ⟨h1,h2,h3⟩:=hu
 dsimp only at h1 h2 h3
 subst h1
 have hc:qPi [true,false,false,false] n.toNat=some 0:=by
  have:n=0∨n=1∨n=2∨n=3:=by omega
  rcases this with rfl | rfl | rfl | rfl <;> decide
 unfold kU
 dsimp only
 rw [hc]
def qoE (s:Si) (b:BB):Si:=⟨{ s.e with hub:=(kU s.e.hub).1,out:=s.e.out++[((kU s.e.hub).2.1,vT (qT (jB s.e b)++vK s.e.ring.1.2.1 (qT (jB s.e b))),())],seq:=s.e.seq+1 },ptag s.p s.e.ring.1.2.1 (qT (jB s.e b))⟩
theorem qfB {s:Si} {b:BB} (hb:qeZ b) (hl:zC s.e.ph) (hq:s.e.seq≤900000) (hu:upH s.e.hub):y6 s b=(qoE s b,0):=qGH hb hl hq (qE7 hu).1
def vY (n:jZ):BB:=wrM (msgN n)
theorem yA {n:jZ} (h:z7 n):qeZ (vY n):=⟨by
 unfold vY wrM
 rw [List.length_append,List.length_append,vS]
 split <;> omega,qM5 h⟩
theorem qxX {n:jZ} (h:z7 n):rdN (vY n)=(n,0,()):=qPe h
theorem qn7 (n:Int):1≤qb3 n∧qb3 n≤999999:=by unfold qb3;split <;> omega
def stN (s:Si) (q:jZ):jZ:=(q.1,q.2.1,qb3 s.e.stan,q.2.2.2)
theorem qHy {s:Si} {q:jZ} (hr:z7 (stN s q)):qx0 q.2.1 (qb3 s.e.stan) (vY (stN s q))=((q.2.1,qb3 s.e.stan,8,3,vY (stN s q),()),0,()):=by
 unfold qx0
 rw [if_pos]
 have h:=qn7 s.e.stan
 exact ⟨hr.1,h.1,h.2,(yA hr).1,(yA hr).2⟩
def askS (s:Si) (q:jZ):Si:=⟨{ s.e with stan:=qb3 s.e.stan,ask:=(q.2.1,qb3 s.e.stan,8,3,vY (stN s q),()) },s.p⟩
theorem qK4 {s:Si} {q:jZ} (hr:z7 (stN s q)):qAw s q=askS s q:=by
 unfold qAw askS
 have e:wrN (q.1,q.2.1,qb3 s.e.stan,q.2.2.2)=(vY (stN s q),0,()):=qM4 hr
 rw [e,qHy hr]
theorem qvT {s:Si} {q:jZ} (hr:z7 (stN s q)) (h1:¬ q.2.1=1) (hl:zC s.e.ph) (hq:s.e.seq≤900000) (hu:upH s.e.hub):qo8 s q=qoE (askS s q) (vY (stN s q)):=by
 have e:wrN (q.1,q.2.1,qb3 s.e.stan,q.2.2.2)=(vY (stN s q),0,()):=qM4 hr
 unfold qo8
 rw [e,qK4 hr,qHy hr,if_pos ⟨rfl,rfl⟩,if_neg h1]
 exact congrArg Prod.fst (qfB (s:=askS s q) (yA hr) hl hq hu)
theorem qAa {s:Si} {g:Int} (h1:1≤g) (h2:g≤2147483647) {nonce k:BB} (h8:nonce.length=8):z7 (stN s (keyQ g nonce k)):=by
 have h:=qn7 s.e.stan
 refine ⟨.inr (.inr (.inl rfl)),h.1,h.2,by show (0:Int)≤0;omega,by show (0:Int)≤99;omega,fun _=>rfl, ?_⟩
 unfold qpM
 rw [if_pos ⟨rfl,rfl⟩]
 exact ⟨h1,h2,h8,qnP _,rfl⟩
theorem qFv {s:Si}:z7 (stN s (qK2 301)):=by
 have h:=qn7 s.e.stan
 refine ⟨.inr (.inr (.inr (.inr rfl))),h.1,h.2,by show (0:Int)≤0;omega,by show (0:Int)≤99;omega,fun _=>rfl, ?_⟩
 unfold qpM
 rw [if_neg (fun q=>absurd q.2 (by show ¬ (301:Int)=101;omega))]
 refine ⟨rfl,rfl,rfl, ?_⟩
 rw [if_neg (fun q=>absurd q.2 (by show ¬ (301:Int)=201;omega))];rfl
def offN (s:Si) (g:Int) (nonce:BB):jZ:=stN s (keyQ g nonce (derD s.e g nonce))
def offS (s:Si) (g:Int) (nonce:BB):Si:=qoE (askS ⟨{ s.e with ph:=4,ring:=(zN s.e.ring g (derD s.e g nonce)).1 },s.p⟩ (keyQ g nonce (derD s.e g nonce))) (vY (offN s g nonce))
theorem qNU {s:Si} {g:Int} {nonce:BB} (h8:nonce.length=8) (hp:s.e.ph=3) (ha:s.e.ask.1=0) (hpd:s.e.ring.2.2.1.1=0) (hx:qrG s.e.ring=(g,0,())) (h1:1≤g) (h2:g≤2147483647) (hq:s.e.seq≤900000) (hu:upH s.e.hub):newK s nonce=(offS s g nonce,0):=by
 unfold newK
 rw [if_neg (not_not_intro h8),if_neg (not_not_intro (by rw [hp];exact .inl rfl)),if_neg (by omega),hx,if_neg (not_not_intro rfl)]
 refine Prod.ext ?_ rfl
 exact qvT (s:=⟨{ s.e with ph:=4,ring:=(zN s.e.ring g (derD s.e g nonce)).1 },s.p⟩) (qAa h1 h2 h8) (by show ¬ (101:Int)=1;omega) (by show zC 4;unfold zC;omega) hq hu
def ackN (n:jZ) (res:Int):jZ:=(false,n.2.1,n.2.2.1,res,0,[],[],0,())
theorem y0 {n:jZ} (h:z7 n) {res:Int} (h0:0≤res) (h9:res≤99):z7 (ackN n res):=by
 refine ⟨h.1,h.2.1,h.2.2.1,h0,h9,(fun h=>by cases h), ?_⟩
 unfold qpM
 rw [if_neg (fun q=>by cases q.1)]
 refine ⟨rfl,rfl,rfl, ?_⟩
 rw [if_neg (fun q=>by cases q.1)];rfl
theorem qu7 {n:jZ} (h:z7 n) (hq:n.1=true) {res:Int} (h0:0≤res) (h9:res≤99):qoU n res=vY (ackN n res):=by
 unfold qoU ansN
 rw [if_neg (by rw [hq];intro h;cases h),if_neg (by omega)]
 exact congrArg Prod.fst (qM4 (y0 h h0 h9))
def qO0 (s:Si):Si:=qoE (askS ⟨qIO s.e (qq0 s.e.ring).1,s.p⟩ (qK2 301)) (vY (stN s (qK2 301)))
theorem qOI {s:Si} {n:jZ} (hp:s.e.ph=4) (hm:qpI s.e.ask n.2.1 n.2.2.1) (hr:n.2.2.2.1=0) (hq:s.e.seq≤900000) (hu:upH s.e.hub):ansK s n=qO0 s:=by
 unfold ansK
 rw [if_neg (by rintro (h | h);exact h hp;exact h hm),if_neg (not_not_intro hr)]
 exact qvT (s:=⟨qIO s.e (qq0 s.e.ring).1,s.p⟩) qFv (by show ¬ (301:Int)=1;omega) (by show zC 3;unfold zC;omega) hq hu
end Yp
namespace Yp
open Go
set_option maxRecDepth 100000
set_option maxHeartbeats 2000000
def qHM (r:Si) (n:jZ):Si:=qoE ⟨qHJ r.e (zN r.e.ring n.2.2.2.2.1 (derD r.e n.2.2.2.2.1 n.2.2.2.2.2.1)).1,r.p⟩ (vY (ackN n 0))
theorem qJR {r:Si} {n:jZ} (hn:z7 n) (hrq:n.1=true) (hp:r.e.ph=3) (hk:kcvD (derD r.e n.2.2.2.2.1 n.2.2.2.2.2.1)=n.2.2.2.2.2.2.1) (hg:¬ n.2.2.2.2.1=r.e.ring.1.1) (ho:(zN r.e.ring n.2.2.2.2.1 (derD r.e n.2.2.2.2.1 n.2.2.2.2.2.1)).2.1=0) (hq:r.e.seq≤900000) (hu:upH r.e.hub):offK r n=qHM r n:=by
 unfold offK
 rw [if_neg (by omega),if_neg (not_not_intro hk),if_neg hg,if_neg (by omega),if_pos ho,qu7 hn hrq (by omega) (by omega)]
 exact congrArg Prod.fst (qfB (s:=⟨qHJ r.e (zN r.e.ring n.2.2.2.2.1 (derD r.e n.2.2.2.2.1 n.2.2.2.2.2.1)).1,r.p⟩) (yA (y0 hn (by omega) (by omega))) (by show zC r.e.ph;unfold zC;omega) hq hu)
theorem qNJ {n:Nat} {s:Si} (h:okS n s) (q:jZ):okS n (askS s q):=⟨{ h.e with },h.p⟩
theorem qAu {n m:Nat} {s r:Si} (hs:okS n s) (hr:okS m r) (hn:n≤900000) (h:hears s.e r.e) (hl:zC s.e.ph) (hu:upH s.e.hub) {k:jZ} (hk:z7 k):∃ bs:List UInt64,bs.length=16 ∧
  vG ((qoE s (vY k)).t,r.t,())=some ((⟨{ r.e with win:=(s.e.seq+1,bs,()),ring:=qwH r.e s.e.ring.1.1 },(qoE s (vY k)).p⟩:Si).t,k,true,()):=by
 obtain ⟨bs,hbs,h2⟩:=qIx hs hr hn h (yA hk) hl (qE7 hu).1 (qxX hk)
 rw [qfB (yA hk) hl h.seq hu] at h2
 exact ⟨bs,hbs,h2⟩
theorem qDq {r:En'} {g:Int} (h:¬ r.ring.2.2.1.1=g):qwH r g=r.ring:=by unfold qwH;rw [if_neg (fun q=>h q.1)]
theorem qDB {r:jF} (h:1≤r.1.1):qFo r r.1.1=(r.1.2.1,true,()):=by unfold qFo;rw [if_neg (by omega),if_pos rfl]
section
variable (i : Int) (fill : UInt8) (g : Nat) (nonce : BB)
def mN:jZ:=offN (tw i fill g) ((g+1:Nat):Int) nonce
def mK:BB:=derD (twE i fill g) ((g+1:Nat):Int) nonce
def mA:Si:=offS (tw i fill g) ((g+1:Nat):Int) nonce
def mB (bs:List UInt64):Si:=⟨{ twE (1 - i) fill g with win:=(1,bs,()) },(mA i fill g nonce).p⟩
def mC (bs:List UInt64):Si:=qHM (mB i fill g nonce bs) (mN i fill g nonce)
def mD (bs bs':List UInt64):Si:=⟨{ (mA i fill g nonce).e with win:=(1,bs',()) },(mC i fill g nonce bs).p⟩
def mF (bs bs':List UInt64):Si:=qO0 (mD i fill g nonce bs bs')
end
theorem qN2 (fill:UInt8) {g:Nat} (hg:1≤g) (hg2:g≤50) {k:BB} (hk:k.length=32):(zN (twR fill g) ((g+1:Nat):Int) k).2.1=0∧(zN (twR fill g) ((g+1:Nat):Int) k).1=((twR fill g).1,(twR fill g).2.1,(((g+1:Nat):Int),k,()),(twR fill g).2.2.2.1,((g+1:Nat):Int),()):=by
 rw [qv4 fill hg (by omega) (by omega) hk];exact ⟨rfl,rfl⟩
theorem qjW (i:Int) (hi:i=0∨i=1) (fill:UInt8) (g:Nat):qaM (twE i fill g)=[3,4]:=by
 rcases hi with rfl | rfl <;> rfl
theorem qv9 (i:Int) (hi:i=0∨i=1) (fill:UInt8) {g:Nat} (hg2:g≤50) (nonce:BB):(mK i fill g nonce).length=32:=by
 unfold mK derD
 rw [qjW i hi]
 exact qnO ⟨by decide,by decide,by omega,by omega⟩
theorem qJ4 (i:Int) (hi:i=0∨i=1) (fill:UInt8) (g:Nat) (nonce:BB):derD (twE (1 - i) fill g) ((g+1:Nat):Int) nonce=mK i fill g nonce:=by
 unfold mK derD
 rw [qjW i hi,qjW (1 - i) (by omega)];rfl
theorem qMN (i:Int) (fill:UInt8) {g:Nat} (hg:1≤g) (hg2:g≤50) {nonce:BB} (h8:nonce.length=8):newK (tw i fill g) nonce=(mA i fill g nonce,0):=by
 refine qNU h8 rfl rfl ?_ ?_ (by omega) (by omega) (by show (0:Int)≤900000;omega) qx4
 ·show (twR fill g).2.2.1.1=0
  rw [qt6 fill hg];rfl
 ·show qrG (twR fill g)=_
  unfold qrG
  rw [if_neg (qMs fill hg),qIM fill hg,if_neg (by omega)]
  rfl
theorem qAZ (i:Int) (fill:UInt8) {g:Nat} (hg2:g≤50) {nonce:BB} (h8:nonce.length=8):z7 (mN i fill g nonce):=qAa (by omega) (by omega) h8
theorem qJO (i:Int) (hi:i=0∨i=1) (fill:UInt8) {g:Nat} (hg:1≤g) (hg2:g≤50) {nonce:BB} (h8:nonce.length=8):okS 1 (mA i fill g nonce):=by
 have:=qNT (qv0 i hi fill hg (by omega)) nonce
 rwa [qMN i fill hg hg2 h8] at this
theorem qQa (i:Int) (hi:i=0∨i=1) (fill:UInt8) {g:Nat} (hg:1≤g) (hg2:g≤50) {nonce:BB} (h8:nonce.length=8):∃ bs:List UInt64,bs.length=16∧vG ((mA i fill g nonce).t,(tw (1 - i) fill g).t,())=some ((mB i fill g nonce bs).t,mN i fill g nonce,true,()):=by
 have ok0:=qv0 i hi fill hg (by omega)
 have hk:=qN2 fill hg hg2 (qv9 i hi fill hg2 nonce)
 have hr4:(zN (twE i fill g).ring ((g+1:Nat):Int) (derD (twE i fill g) ((g+1:Nat):Int) nonce)).1=_:=hk.2
 have ok1:okS 0 (askS ⟨{ twE i fill g with ph:=4,ring:=(zN (twR fill g) ((g+1:Nat):Int) (mK i fill g nonce)).1 },(true,[],false,())⟩ (keyQ ((g+1:Nat):Int) nonce (mK i fill g nonce))):=qNJ (qv3 ok0 _ _) _
 have okb:=qv0 (1 - i) (by omega) fill hg (by omega)
 have hears':hears (askS ⟨{ twE i fill g with ph:=4,ring:=(zN (twR fill g) ((g+1:Nat):Int) (mK i fill g nonce)).1 },(true,[],false,())⟩ (keyQ ((g+1:Nat):Int) nonce (mK i fill g nonce))).e (twE (1 - i) fill g):={
  id:=rfl
  pair:=(qjW (1 - i) (by omega) fill g).trans (qjW i hi fill g).symm
  ph:=by show zC 3;unfold zC;omega
  gen:=by show 1≤(zN (twR fill g) ((g+1:Nat):Int) (mK i fill g nonce)).1.1.1;rw [hk.2,yG fill hg];show 1≤(g:Int);omega
  find:=by
   show qFo (twR fill g) (zN (twR fill g) ((g+1:Nat):Int) (mK i fill g nonce)).1.1.1=((zN (twR fill g) ((g+1:Nat):Int) (mK i fill g nonce)).1.1.2.1,true,())
   rw [hk.2]
   exact qDB (by rw [yG fill hg];show 1≤(g:Int);omega)
  win:=⟨by show (0:Int)≤0;omega,by show (0:Int)≤0;omega⟩
  seq:=by show (0:Int)≤900000;omega }
 obtain ⟨bs,hbs,hb⟩:=qAu ok1 okb (by omega) hears' (by show zC 4;unfold zC;omega) qx4 (k:=mN i fill g nonce) (qAZ i fill hg2 h8)
 refine ⟨bs,hbs, ?_⟩
 rw [show qwH (tw (1 - i) fill g).e (askS ⟨{ twE i fill g with ph:=4,ring:=(zN (twR fill g) ((g+1:Nat):Int) (mK i fill g nonce)).1 },(true,[],false,())⟩ (keyQ ((g+1:Nat):Int) nonce (mK i fill g nonce))).e.ring.1.1=twR fill g from qDq (by
  show ¬ (twR fill g).2.2.1.1=(zN (twR fill g) ((g+1:Nat):Int) (mK i fill g nonce)).1.1.1
  rw [hk.2,qt6 fill hg,yG fill hg];show ¬ (0:Int)=(g:Int);omega)] at hb
 exact hb
end Yp
namespace Yp
open Go
set_option maxRecDepth 100000
set_option maxHeartbeats 2000000
set_option linter.unusedSectionVars false
theorem qP7:upH (kU hub1).1:=(qE7 qx4).2
section
variable {i : Int} (hi : i = 0 ∨ i = 1) (fill : UInt8) {g : Nat} (hg : 1 ≤ g) (hg2 : g ≤ 50) {nonce : BB} (h8 : nonce.length = 8) (bs bs' : List UInt64)
include hi hg hg2 h8
theorem qJN (hbs:bs.length=16):okS 1 (mB i fill g nonce bs):=⟨{ (qpB (qv0 (1 - i) (by omega) fill hg (by omega)).e (Nat.zero_le 1)) with win:=hbs },(qJO i hi fill hg hg2 h8).p⟩
theorem qEY:(zN (twR fill g) ((g+1:Nat):Int) (derD (mB i fill g nonce bs).e ((g+1:Nat):Int) nonce)).2.1=0∧(zN (twR fill g) ((g+1:Nat):Int) (derD (mB i fill g nonce bs).e ((g+1:Nat):Int) nonce)).1=((twR fill g).1,(twR fill g).2.1,(((g+1:Nat):Int),mK i fill g nonce,()),(twR fill g).2.2.2.1,((g+1:Nat):Int),()):=by
 rw [show derD (mB i fill g nonce bs).e ((g+1:Nat):Int) nonce=mK i fill g nonce from qJ4 i hi fill g nonce]
 exact qN2 fill hg hg2 (qv9 i hi fill hg2 nonce)
theorem qO7:offK (mB i fill g nonce bs) (mN i fill g nonce)=mC i fill g nonce bs:=by
 refine qJR (qAZ i fill hg2 h8) rfl rfl ?_ ?_ (qEY hi fill hg hg2 h8 bs).1 (by show (0:Int)≤900000;omega) qx4
 ·show kcvD (derD (twE (1 - i) fill g) ((g+1:Nat):Int) nonce)=kcvD (derD (twE i fill g) ((g+1:Nat):Int) nonce)
  rw [qJ4 i hi];rfl
 ·show ¬ ((g+1:Nat):Int)=(twR fill g).1.1
  rw [yG fill hg];show ¬ ((g+1:Nat):Int)=(g:Int);omega
theorem qNm:(mC i fill g nonce bs).e.ring=((twR fill g).1,(twR fill g).2.1,(((g+1:Nat):Int),mK i fill g nonce,()),(twR fill g).2.2.2.1,((g+1:Nat):Int),()):=(qEY hi fill hg hg2 h8 bs).2
theorem qJd:(mA i fill g nonce).e.ring=((twR fill g).1,(twR fill g).2.1,(((g+1:Nat):Int),mK i fill g nonce,()),(twR fill g).2.2.2.1,((g+1:Nat):Int),()):=(qN2 fill hg hg2 (qv9 i hi fill hg2 nonce)).2
theorem qPt (hbs:bs.length=16):okS 2 (mC i fill g nonce bs):=by
 have:=qNN (qJN hi fill hg hg2 h8 bs hbs) (mN i fill g nonce)
 rwa [qO7 hi fill hg hg2 h8] at this
theorem qP9 (hbs:bs.length=16):∃ bs':List UInt64,bs'.length=16∧vG ((mC i fill g nonce bs).t,(mA i fill g nonce).t,())=some ((mD i fill g nonce bs bs').t,ackN (mN i fill g nonce) 0,true,()):=by
 have okb:=qJN hi fill hg hg2 h8 bs hbs
 have okt:okS 1 ⟨qHJ (mB i fill g nonce bs).e (zN (mB i fill g nonce bs).e.ring ((g+1:Nat):Int) (derD (mB i fill g nonce bs).e ((g+1:Nat):Int) nonce)).1,(mB i fill g nonce bs).p⟩:=qpA okb (v5 okb.e.ring _ _)
 have oka:=qJO i hi fill hg hg2 h8
 have hk:=qEY hi fill hg hg2 h8 bs
 have hkA:=qJd hi fill hg hg2 h8
 have hears':hears (qHJ (mB i fill g nonce bs).e (zN (mB i fill g nonce bs).e.ring ((g+1:Nat):Int) (derD (mB i fill g nonce bs).e ((g+1:Nat):Int) nonce)).1) (mA i fill g nonce).e:={
  id:=by show i=1 - (1 - i);omega
  pair:=(qjW i hi fill g).trans (qjW (1 - i) (by omega) fill g).symm
  ph:=by show zC 4;unfold zC;omega
  gen:=by
   show 1≤(zN (twR fill g) ((g+1:Nat):Int) (derD (mB i fill g nonce bs).e ((g+1:Nat):Int) nonce)).1.1.1
   rw [hk.2,yG fill hg];show 1≤(g:Int);omega
  find:=by
   show qFo (mA i fill g nonce).e.ring (zN (twR fill g) ((g+1:Nat):Int) (derD (mB i fill g nonce bs).e ((g+1:Nat):Int) nonce)).1.1.1=((zN (twR fill g) ((g+1:Nat):Int) (derD (mB i fill g nonce bs).e ((g+1:Nat):Int) nonce)).1.1.2.1,true,())
   rw [hk.2,hkA]
   exact qDB (r:=((twR fill g).1,(twR fill g).2.1,(((g+1:Nat):Int),mK i fill g nonce,()),(twR fill g).2.2.2.1,((g+1:Nat):Int),())) (by rw [yG fill hg];show 1≤(g:Int);omega)
  win:=⟨by show (0:Int)≤0;omega,by show (0:Int)≤0;omega⟩
  seq:=by show (0:Int)≤900000;omega }
 obtain ⟨bs',hbs',hb⟩:=qAu okt oka (by omega) hears' (by show zC 3;unfold zC;omega) qx4 (k:=ackN (mN i fill g nonce) 0) (y0 (qAZ i fill hg2 h8) (by omega) (by omega))
 refine ⟨bs',hbs', ?_⟩
 rw [qDq (r:=(mA i fill g nonce).e) (by
  rw [hkA]
  show ¬ ((g+1:Nat):Int)=(zN (twR fill g) ((g+1:Nat):Int) (derD (mB i fill g nonce bs).e ((g+1:Nat):Int) nonce)).1.1.1
  rw [hk.2,yG fill hg];show ¬ ((g+1:Nat):Int)=(g:Int);omega)] at hb
 exact hb
theorem qO6:ansK (mD i fill g nonce bs bs') (ackN (mN i fill g nonce) 0)=mF i fill g nonce bs bs':=by
 refine qOI rfl ⟨?_,rfl,rfl⟩ rfl (by show (0:Int)+1≤900000;omega) qP7
 intro h
 have:(101:Int)=0:=congrArg Prod.fst h
 omega
theorem qMH (hbs:bs.length=16) (hbs':bs'.length=16):okS 2 (mD i fill g nonce bs bs'):=⟨{ (qpB (qJO i hi fill hg hg2 h8).e (Nat.le_succ 1)) with win:=hbs' },(qPt hi fill hg hg2 h8 bs hbs).p⟩
theorem qPs (hbs:bs.length=16) (hbs':bs'.length=16):okS 3 (mF i fill g nonce bs bs'):=by
 have:=qOH (qMH hi fill hg hg2 h8 bs bs' hbs hbs') (ackN (mN i fill g nonce) 0)
 rwa [qO6 hi fill hg hg2 h8] at this
theorem qNl:(mF i fill g nonce bs bs').e.ring=((((g+1:Nat):Int),mK i fill g nonce,()),((g:Int),twG fill g,()),noG,16,((g+1:Nat):Int),()):=by
 show (qq0 (mA i fill g nonce).e.ring).1=_
 rw [qJd hi fill hg hg2 h8]
 unfold qq0
 rw [if_neg,yG fill hg]
 intro h
 have:((g+1:Nat):Int)=0:=congrArg Prod.fst h
 omega
end
end Yp
namespace Yp
open Go
set_option maxRecDepth 100000
set_option maxHeartbeats 2000000
theorem qNg:qhO ()=some (true,()):=by
 unfold qhO
 rw [show qaP (u8 1,1,())=_ from qzO (u8 1) (g:=1) (by omega) (by omega)]
 refine (qF rfl).trans ((qH rfl).trans ?_)
 dsimp only
 have h8:(rep (nat 8) (u8 0)).length=8:=rfl
 generalize rep (nat 8) (u8 0)=nonce at h8
 have i0:(0:Int)=0∨(0:Int)=1 := .inl rfl
 rw [qmP (qv0 0 i0 (u8 1) (g:=1) (by omega) (by omega)) (by omega),qMN 0 (u8 1) (by omega) (by omega) h8]
 refine (qF rfl).trans ?_
 dsimp only
 obtain ⟨bs,hbs,h1⟩:=qQa 0 i0 (u8 1) (g:=1) (by omega) (by omega) h8
 rw [show vG ((mA 0 (u8 1) 1 nonce).t,(tw 1 (u8 1) 1).t,())=_ from h1]
 refine (qF rfl).trans ?_
 dsimp only
 refine (qF (a:=(false,())) rfl).trans ((qB rfl).trans ?_)
 rw [y9 (qJN i0 (u8 1) (by omega) (by omega) h8 bs hbs) (by omega) _ (by show nonce.length≤1000;omega),qO7 i0 (u8 1) (by omega) (by omega) h8 bs]
 refine (qF rfl).trans ?_
 dsimp only
 obtain ⟨bs',hbs',h3⟩:=qP9 i0 (u8 1) (g:=1) (by omega) (by omega) h8 bs hbs
 rw [h3]
 refine (qF rfl).trans ?_
 dsimp only
 rw [qnH (qMH i0 (u8 1) (by omega) (by omega) h8 bs bs' hbs hbs') (by omega),qO6 i0 (u8 1) (by omega) (by omega) h8 bs bs']
 refine (qF rfl).trans ((qH rfl).trans ?_)
 dsimp only
 rw [qmP (qPs i0 (u8 1) (by omega) (by omega) h8 bs bs' hbs hbs') (by omega),show newK (mF 0 (u8 1) 1 nonce bs bs') (rep (nat 7) (u8 0))=(mF 0 (u8 1) 1 nonce bs bs',1) by unfold newK;rw [if_pos (by show ¬ 7=8;omega)]]
 refine (qF rfl).trans ?_
 dsimp only
 have hF:=qNl i0 (u8 1) (g:=1) (by omega) (by omega) h8 bs bs'
 have hC:=qNm i0 (u8 1) (g:=1) (by omega) (by omega) h8 bs
 rw [show (mF 0 (u8 1) 1 nonce bs bs').t.1.2.2.2.2.2.2.2.2.2.2.1=(mF 0 (u8 1) 1 nonce bs bs').e.ring from rfl,show (mC 0 (u8 1) 1 nonce bs).t.1.2.2.2.2.2.2.2.2.2.2.1=(mC 0 (u8 1) 1 nonce bs).e.ring from rfl,hF,hC]
 dsimp only
 refine (qF (a:=(true,())) ?_).trans rfl
 refine (qE rfl).trans ((qE (kQ rfl)).trans ((qE (kQ rfl)).trans ((qE (kQ rfl)).trans ((qE (kQ rfl)).trans ((qE (kQ rfl)).trans ?_)))))
 rw [qY,qlA]
 refine (qF rfl).trans ((qE rfl).trans ((qE (kQ rfl)).trans ((qE (kQ rfl)).trans ?_)))
 rw [qiC]
 refine (qF rfl).trans ?_
 rfl
instance (n:jZ):Decidable (fewN n):=by unfold fewN;infer_instance
end Yp
namespace Yp
open Go
set_option maxRecDepth 100000
set_option maxHeartbeats 2000000
set_option linter.unusedSectionVars false
section
variable {i : Int} (hi : i = 0 ∨ i = 1) (fill : UInt8) {g : Nat} (hg : 1 ≤ g) (hg2 : g ≤ 50) {nonce : BB} (h8 : nonce.length = 8) (bs bs' : List UInt64)
include hi hg hg2 h8
end
end Yp
namespace Yp
open Go
set_option maxRecDepth 100000
set_option maxHeartbeats 2000000
theorem qKw (c:UInt8):∃ g:Nat,1≤g∧g≤5∧i64 (iadd 1 (imod (i64 (n8 c)) 5))=(g:Int)∧i64 (iadd (g:Int) 1)=((g+1:Nat):Int):=by
 have h:=c.toNat_lt
 refine ⟨1+c.toNat % 5,by omega,by omega, ?_,i64n (by show ((1+c.toNat % 5:Nat):Int)+1=_;omega) (by omega)⟩
 have e1:i64 (n8 c)=((c.toNat:Nat):Int):=i64n rfl (by omega)
 rw [e1,g32 (by omega)]
 exact i64n (by show (1:Int)+(c.toNat:Int) % 5=_;omega) (by omega)
end Yp
namespace Yp
open Go
set_option maxRecDepth 100000
set_option maxHeartbeats 2000000
set_option linter.unusedSectionVars false
section
variable (fill : UInt8) {g : Nat} (hg : 1 ≤ g) (hg2 : g ≤ 50) {nonce : BB} (h8 : nonce.length = 8)
include hg hg2 h8
end
end Yp
namespace Yp
open Go
set_option maxRecDepth 100000
set_option maxHeartbeats 2000000
set_option linter.unusedSectionVars false
section
variable (fill : UInt8) {g : Nat} (hg : 1 ≤ g) (hg2 : g ≤ 50) {na nb : BB} (ha : na.length = 8) (hb : nb.length = 8) (bs bt bu : List UInt64)
include hg hg2 ha
include hb
end
end Yp
namespace Yp
open Go
set_option maxRecDepth 100000
set_option maxHeartbeats 2000000
set_option linter.unusedSectionVars false
theorem qr0 {n:Nat} {a:En'} (ha:okE n a) {s x:Si} {c:Int} {k:jZ} (hk:z7 k) (hx:x.e.out=s.e.out++[(c,vT (qT (jB a (vY k))++vK a.ring.1.2.1 (qT (jB a (vY k)))),())]) (hl:s.e.out.length≤900000) (h1:k.1=false) (h2:k.2.1=101) (h9:k.2.2.1=9):xN (s.t,x.t,k.2.2.2.1,())=some (true,()):=by
 have hb:=yA hk
 have hb1:=hb.1
 have hb2:=hb.2
 have hv:=qgR ha hb
 have ht:=y8 a.ring.1.2.1 (qT (jB a (vY k)))
 have hin:=jS (jB a (vY k))
 have hbl:(jB a (vY k)).2.2.2.2.2.1=vY k:=rfl
 have hrd:=qCP hv (show (jB a (vY k)).2.2.1=_ from qGX a) ht
 have hrk:=qxX hk
 generalize hX:qT (jB a (vY k))++vK a.ring.1.2.1 (qT (jB a (vY k)))=X at hx hrd
 have hxl:X.length=46+(vY k).length:=by rw [← hX,List.length_append,ht,hin,hbl];omega
 unfold xN
 dsimp only
 rw [show x.t.1.2.2.2.2.2.2.2.2.2.2.2.2.2.2.2.2.1=x.e.out from rfl,show s.t.1.2.2.2.2.2.2.2.2.2.2.2.2.2.2.2.2.1=s.e.out from rfl,hx]
 refine (qB (bq_f ?_)).trans ?_
 ·show (((s.e.out++[(c,vT X,())]).length:Nat):Int)=i64 (iadd ((s.e.out.length:Nat):Int) 1)
  rw [List.length_append,List.length_singleton]
  exact (i64n (n:=s.e.out.length+1) (by show ((s.e.out.length:Nat):Int)+1=_;omega) (by omega)).symm
 refine (qH (by simp (disch:=first | assumption | omega | (dsimp only;omega) | decide) only [go_sem,Int.reduceToNat];simp;omega)).trans ?_
 rw [show nth (s.e.out++[(c,vT X,())]) (nat (len s.e.out)) (0,none' UInt8,())=(c,vT X,()) by rw [show nat (len s.e.out)=s.e.out.length from qP,qK (by simp)];simp]
 dsimp only
 rw [qDp X (by omega)]
 refine (qF rfl).trans ?_
 dsimp only
 rw [qjF X (by omega),hrd]
 refine (qF rfl).trans ?_
 dsimp only
 rw [show (kT (jB a (vY k)) (vK a.ring.1.2.1 (qT (jB a (vY k))))).2.2.2.2.2.1=vY k from rfl,qjE _ (by omega),hrk]
 refine (qF rfl).trans ?_
 refine (qF (a:=(true,())) ?_).trans rfl
 refine (qE rfl).trans ((qE rfl).trans ((qE (by rw [h1];rfl)).trans ((qE (kQ h2)).trans ((qE (kQ rfl)).trans ?_))))
 rw [kQ h9]
def cN (m:Int) (nonce kcv:BB):jZ:=(true,101,9,0,m,nonce,kcv,0,())
theorem qmG {m:Int} (h1:1≤m) (h2:m≤2147483647) {nonce kcv:BB} (h8:nonce.length=8) (h3:kcv.length=3):z7 (cN m nonce kcv):=by
 refine ⟨.inr (.inr (.inl rfl)),by show (1:Int)≤9;omega,by show (9:Int)≤999999;omega,by show (0:Int)≤0;omega,by show (0:Int)≤99;omega,fun _=>rfl, ?_⟩
 unfold qpM
 rw [if_pos ⟨rfl,rfl⟩]
 exact ⟨h1,h2,h8,h3,rfl⟩
theorem qLj (c:UInt8):∃ m:Nat,1≤m∧m≤8∧i64 (iadd 1 (imod (i64 (n8 c)) 8))=(m:Int):=by
 have h:=c.toNat_lt
 refine ⟨1+c.toNat % 8,by omega,by omega, ?_⟩
 have e1:i64 (n8 c)=((c.toNat:Nat):Int):=i64n rfl (by omega)
 rw [e1,g32 (by omega)]
 exact i64n (by show (1:Int)+(c.toNat:Int) % 8=_;omega) (by omega)
section
variable (fill : UInt8) {g : Nat} (hg : 1 ≤ g) (hg2 : g ≤ 50) {m : Nat} (hm : 1 ≤ m) (hm2 : m ≤ 8) {nn kcv : BB} (h8 : nn.length = 8) (h3 : kcv.length = 3)
include hg hg2 hm hm2
theorem qKJ:(derD (twE 1 fill g) (m:Int) nn).length=32:=by
 unfold derD
 rw [qjW 1 (.inr rfl)]
 exact qnO ⟨by decide,by decide,by omega,by omega⟩
include h8
theorem qNM (h3:kcv.length=3) (hk:¬ kcvD (derD (twE 1 fill g) (m:Int) nn)=kcv):offK (tw 1 fill g) (cN m nn kcv)=qoE (tw 1 fill g) (vY (ackN (cN m nn kcv) 63)):=by
 have hn:=qmG (m:=(m:Int)) (by omega) (by omega) h8 h3
 unfold offK
 rw [if_neg (fun h=>absurd (show (3:Int)=4 from h.1) (by omega)),if_pos (show ¬ kcvD (derD (tw 1 fill g).e (cN m nn kcv).2.2.2.2.1 (cN m nn kcv).2.2.2.2.2.1)=(cN m nn kcv).2.2.2.2.2.2.1 from hk),qu7 hn rfl (by omega) (by omega)]
 exact congrArg Prod.fst (qfB (s:=tw 1 fill g) (yA (y0 hn (by omega) (by omega))) (by show zC 3;unfold zC;omega) (by show (0:Int)≤900000;omega) qx4)
theorem qLL (hk:kcvD (derD (twE 1 fill g) (m:Int) nn)=kcv) (h3:kcv.length=3) (he:m=g):offK (tw 1 fill g) (cN m nn kcv)=qoE (tw 1 fill g) (vY (ackN (cN m nn kcv) 0)):=by
 have hn:=qmG (m:=(m:Int)) (by omega) (by omega) h8 h3
 unfold offK
 rw [if_neg (fun h=>absurd (show (3:Int)=4 from h.1) (by omega)),if_neg (not_not_intro (show kcvD (derD (tw 1 fill g).e (cN m nn kcv).2.2.2.2.1 (cN m nn kcv).2.2.2.2.2.1)=(cN m nn kcv).2.2.2.2.2.2.1 from hk)),if_pos (show (cN m nn kcv).2.2.2.2.1=(tw 1 fill g).e.ring.1.1 by show (m:Int)=(twR fill g).1.1;rw [yG fill hg,he]),qu7 hn rfl (by omega) (by omega)]
 exact congrArg Prod.fst (qfB (s:=tw 1 fill g) (yA (y0 hn (by omega) (by omega))) (by show zC 3;unfold zC;omega) (by show (0:Int)≤900000;omega) qx4)
theorem qNK (hk:kcvD (derD (twE 1 fill g) (m:Int) nn)=kcv) (he:m < g):offK (tw 1 fill g) (cN m nn kcv)=qp3 (tw 1 fill g) 3:=by
 unfold offK
 rw [if_neg (fun h=>absurd (show (3:Int)=4 from h.1) (by omega)),if_neg (not_not_intro (show kcvD (derD (tw 1 fill g).e (cN m nn kcv).2.2.2.2.1 (cN m nn kcv).2.2.2.2.2.1)=(cN m nn kcv).2.2.2.2.2.2.1 from hk)),if_neg (show ¬ (cN m nn kcv).2.2.2.2.1=(tw 1 fill g).e.ring.1.1 by show ¬ (m:Int)=(twR fill g).1.1;rw [yG fill hg];show ¬ (m:Int)=(g:Int);omega),if_neg (show ¬ (tw 1 fill g).e.ph=4 from fun h=>absurd (show (3:Int)=4 from h) (by omega)),if_neg]
 intro h0
 have h0:(zN (twR fill g) (m:Int) (derD (twE 1 fill g) (m:Int) nn)).2.1=0:=h0
 have:=(qC1 h0).2.2.1
 rw [yG fill hg] at this
 have:(g:Int) < (m:Int):=this
 omega
theorem qNL (hk:kcvD (derD (twE 1 fill g) (m:Int) nn)=kcv) (h3:kcv.length=3) (he:g < m):offK (tw 1 fill g) (cN m nn kcv)=qHM (tw 1 fill g) (cN m nn kcv)∧(qHM (tw 1 fill g) (cN m nn kcv)).e.ring.2.2.1.1=(m:Int):=by
 have hn:=qmG (m:=(m:Int)) (by omega) (by omega) h8 h3
 have hr:=qv4 fill hg (n:=(m:Int)) (by omega) (by omega) (qKJ fill hg hg2 hm hm2 (nn:=nn))
 refine ⟨qJR hn rfl rfl hk ?_ ?_ (by show (0:Int)≤900000;omega) qx4, ?_⟩
 ·show ¬ (m:Int)=(twR fill g).1.1
  rw [yG fill hg];show ¬ (m:Int)=(g:Int);omega
 ·show (zN (twR fill g) (m:Int) (derD (twE 1 fill g) (m:Int) nn)).2.1=0
  rw [hr]
 ·show (zN (twR fill g) (m:Int) (derD (twE 1 fill g) (m:Int) nn)).1.2.2.1.1=(m:Int)
  rw [hr]
end
theorem qj7 (fill gens no:UInt8) (kcv:BB) (h3:kcv.length=3):yF ((fill,gens,no,kcv,()),())=some (true,()):=by
 unfold yF
 rw [qNg]
 refine (qF rfl).trans ?_
 dsimp only
 obtain ⟨g,hg,hg5,e1,e2⟩:=qKw gens
 obtain ⟨m,hm,hm2,em⟩:=qLj no
 have hg2:g≤50:=by omega
 have hc:cut kcv (nat 0) (nsub (nat (ofn 3)) (nat 0))=kcv:=by
  unfold cut
  rw [show nat 0=0 from rfl,show nsub (nat (ofn 3)) 0=3 from rfl,List.drop_zero,List.take_of_length_le (by omega)]
 have hs:sub kcv 0 (ofn 3)=kcv:=by
  unfold sub
  rw [show (0:Int).toNat=0 from rfl,List.drop_zero,show (ofn 3).toNat=3 from rfl,List.take_of_length_le (by omega)]
 rw [e1,em,hc,hs,qzO fill hg (by omega)]
 refine (qF rfl).trans ?_
 dsimp only
 have h8:([u8 1,u8 2,u8 3,u8 4,u8 5,u8 6,u8 7,u8 8]:BB).length=8:=rfl
 generalize ([u8 1,u8 2,u8 3,u8 4,u8 5,u8 6,u8 7,u8 8]:BB)=nn at h8
 have hdl:=qKJ fill hg hg2 hm hm2 (nn:=nn)
 rw [show wA ((tw 1 fill g).t.1,(m:Int),nn,())=_ from qoV (twE 1 fill g) (m:Int) nn (by show (twK fill).length≤1000000;rw [qe9];omega) (by omega)]
 refine (qF rfl).trans ?_
 dsimp only
 rw [qyM _ (by omega)]
 refine (qF rfl).trans ((qH rfl).trans ?_)
 dsimp only
 have hkl:=qnP (derD (twE 1 fill g) (m:Int) nn)
 have ok:=qv0 1 (.inr rfl) fill hg (by omega)
 rw [show xH ((tw 1 fill g).t,(true,101,9,0,(m:Int),nn,kcv,0,()),())=_ from y9 ok (by omega) (cN m nn kcv) (by show nn.length≤1000;omega)]
 refine (qF rfl).trans ?_
 dsimp only
 rw [show xH ((tw 1 fill g).t,(true,101,9,0,(m:Int),nn,kcvD (derD (twE 1 fill g) (m:Int) nn),0,()),())=_ from y9 ok (by omega) (cN m nn (kcvD (derD (twE 1 fill g) (m:Int) nn))) (by show nn.length≤1000;omega)]
 refine (qF rfl).trans ((qH (by unfold ln;rw [h3];rfl)).trans ?_)
 dsimp only
 rw [qY]
 refine (qF rfl).trans ?_
 refine (qF (a:=(false,())) ?_).trans ((qB rfl).trans ?_)
 ·by_cases hk:kcvD (derD (twE 1 fill g) (m:Int) nn)=kcv
  ·rw [qHQ hk];rfl
  ·rw [qI3 hk,qNM fill hg hg2 hm hm2 h8 h3 hk]
   refine (qE rfl).trans ?_
   refine (qF (show yS ((tw 1 fill g).e.ring,(tw 1 fill g).e.ring,())=_ from qc5 _)).trans ((qB rfl).trans ?_)
   rw [show xN ((tw 1 fill g).t,(qoE (tw 1 fill g) (vY (ackN (cN m nn kcv) 63))).t,63,())=_ from qr0 ok.e (s:=tw 1 fill g) (k:=ackN (cN m nn kcv) 63) (y0 (qmG (by omega) (by omega) h8 h3) (by omega) (by omega)) rfl (by simp [tw,twE]) rfl rfl rfl]
   rfl
 ·by_cases h1:m < g
  ·refine (qE (lt_t (by omega))).trans ?_
   rw [qNK fill hg hg2 hm hm2 h8 rfl h1]
   refine (qF (a:=(true,())) ?_).trans rfl
   refine (qE rfl).trans ((qE rfl).trans ((qH rfl).trans ((qE rfl).trans ?_)))
   exact (qF (show yS ((tw 1 fill g).e.ring,(tw 1 fill g).e.ring,())=_ from qc5 _)).trans rfl
  ·refine (qB (lt_f (by omega))).trans ?_
   refine (qF (a:=(true,())) ?_).trans rfl
   refine (qE rfl).trans ?_
   by_cases h2:m=g
   ·rw [qLL fill hg hg2 hm hm2 h8 rfl hkl h2]
    rw [show xN ((tw 1 fill g).t,(qoE (tw 1 fill g) (vY (ackN (cN m nn (kcvD (derD (twE 1 fill g) (m:Int) nn))) 0))).t,0,())=_ from qr0 ok.e (s:=tw 1 fill g) (k:=ackN (cN m nn (kcvD (derD (twE 1 fill g) (m:Int) nn))) 0) (y0 (qmG (by omega) (by omega) h8 hkl) (by omega) (by omega)) rfl (by simp [tw,twE]) rfl rfl rfl]
    refine (qF rfl).trans ((qE rfl).trans ?_)
    have hp:(qoE (tw 1 fill g) (vY (ackN (cN m nn (kcvD (derD (twE 1 fill g) (m:Int) nn))) 0))).t.1.2.2.2.2.2.2.2.2.2.2.1.2.2.1.1=0:=by
     show (twR fill g).2.2.1.1=0
     rw [qt6 fill hg];rfl
    rw [hp,vL (by omega),lt_f (by omega)];rfl
   ·obtain ⟨o1,o2⟩:=qNL fill hg hg2 hm hm2 h8 rfl hkl (by omega:g < m)
    rw [o1]
    have okt:=qpA ok (v5 ok.e.ring (m:Int) (derD (twE 1 fill g) (m:Int) nn))
    rw [show xN ((tw 1 fill g).t,(qHM (tw 1 fill g) (cN m nn (kcvD (derD (twE 1 fill g) (m:Int) nn)))).t,0,())=_ from qr0 okt.e (s:=tw 1 fill g) (k:=ackN (cN m nn (kcvD (derD (twE 1 fill g) (m:Int) nn))) 0) (y0 (qmG (by omega) (by omega) h8 hkl) (by omega) (by omega)) rfl (by simp [tw,twE]) rfl rfl rfl]
    refine (qF rfl).trans ((qE rfl).trans ?_)
    rw [show (qHM (tw 1 fill g) (cN m nn (kcvD (derD (twE 1 fill g) (m:Int) nn)))).t.1.2.2.2.2.2.2.2.2.2.2.1.2.2.1.1=(m:Int) from o2,kQ rfl,lt_t (by omega)];rfl
theorem qzM (x:denL [.pair (.int .u8) (.pair (.int .u8) (.pair (.int .u8) (.pair (.ar 3 (.int .u8)) .unit)))]) (h:okL [.pair (.int .u8) (.pair (.int .u8) (.pair (.int .u8) (.pair (.ar 3 (.int .u8)) .unit)))] x):yF x=some (true,()):=qj7 x.1.1 x.1.2.1 x.1.2.2.1 x.1.2.2.2.1 h.1.2.2.2.1.1
end Yp