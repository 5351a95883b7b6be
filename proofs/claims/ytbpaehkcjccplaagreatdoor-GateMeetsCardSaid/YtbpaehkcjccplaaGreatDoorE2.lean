/- A part of the proof of the statements of this seat: the engine that turns code into plain functions, and its soundness. No condition of its own. -/
import Derived.Test.YtbpaehkcjccplaaGreatDoorE1
import Derived.Scope
import Derived.ProofKit
import Derived.OpenShut
set_option linter.unusedVariables false
set_option linter.unusedSimpArgs false
namespace Yp
open Go
variable {P : Program}
theorem Fr.T {s s2:St} (h:Fr [] s s2):s2.getT=s.getT:=funext fun t=>h.1 t (by simp)
section
variable {K : Kp} {w0 w : World} {φ : Pl} {M : Nat → Prop} {B B' : Nat → Blk} {g : Nat → PV} {H : View} {E : Env} {nv nt : Nat}
theorem qHZ {s:St} {f:Operand} {a:Act} (hs:Slots φ H s.getB s.getT a):RepP φ H s.getB (funP s f) (a.eval f)∨funP s f = .bad:=by
 cases f with
 | tmp t=>exact .inl (hs t)
 | func f=>exact .inl ⟨[],rfl,rfl⟩
 | const v=>exact .inr rfl
 | global i=>exact .inr rfl
theorem qKU (hT:qfZ P E.T) (hC:qm9 P E.T E.C) (hMp:qfM P E.M) (hG:Fns P E K w0) (hI:∀ f g,E.I f=some g→qd0 P f g)
  {o:Oper} {s:St} {ρ:Type} {k:PV×St→R ρ} {r:ρ} (h:((opS E o s).bind k).ev=some r) {a:Act} (hm:Mem K w0 φ M s.getB w) (hs:Slots φ (view w M) s.getB s.getT a)
  {Kn:Act→World→Prop} {Q:Exit→Act→World→Prop}
  (hk:∀ v s2 φ' M' w' x,(k (v,s2)).ev=some r→Mem K w0 φ' M' s2.getB w'→Ext φ M s.getB w φ' M' s2.getB w'→RepP φ' (view w' M') s2.getB v x→Fr [] s s2→Kn (a.put o.dst x) w'):o.wp P a w Kn Q:=by
 have plain:((((opP E o).run s 0 [] []).bind fun r=>s.qkI r.2.wr fun s1=>fP r.1 fun v => .leaf (v,s1):R (PV×St)).bind k).ev=some r→o.wp P a w Kn Q:=by
  intro h
  rw [R.qN] at h
  obtain ⟨v,e,h1,h2⟩:=PM.qIq s (opP E o) 0 [] [] _ r h
  simp only [St.qf1,qzW,R.bind] at h2
  have hB:(s.j8 e.wr).getB=zL s.getB e.wr:=St.xK s _
  refine qKT hT hC hMp hG h1 hm hs fun x w' ha => ?_
  obtain ⟨φ',M',m1,e1,r1⟩:=ha
  exact hk v (s.j8 e.wr) φ' M' w' x h2 (by rw [hB];exact m1) (by rw [hB];exact e1) (by rw [hB];exact r1) (Fr.j8 e.wr [])
 unfold opS at h
 obtain ⟨dst,op,type,pos,after,guard⟩:=o
 cases op <;> try (exact plain h)
 rename_i c
 obtain ⟨callee,args,ats⟩:=c
 cases callee <;> try (exact plain h)
 rename_i f
 simp only at h
 cases hi:inlR E (dst.getD 0) (funP s f) args.toList s with
 | none=>rw [hi] at h;exact plain h
 | some t =>
  rw [hi] at h
  simp only at h
  unfold inlR at hi
  split at hi
  ·rename_i F nf env hf
   split at hi
   ·rename_i gI hgI
    cases hi
    have hok:=hI _ _ hgI
    rw [R.qN,R.qN] at h
    obtain ⟨ps,wr,h1,h2⟩:=qeZ h
    obtain ⟨e1,hps⟩:=qjV hs h1
    simp only at h2
    have hB:(s.j8 wr).getB=s.getB:=by rw [St.xK,e1]
    have hrep:RepP φ (view w M) s.getB (.clo F nf env) (a.eval f):=by
     rcases qHZ (f:=f) hs with h | h
     ·rw [hf] at h;exact h
     ·rw [hf] at h;cases h
    obtain ⟨us,he,hfv⟩:=hrep
    refine qo2 hfv hok.1 ?_
    have ha:(args.toList.map a.eval).toArray=args.map a.eval:=by apply Array.ext';simp
    have hargs:(us.take nf++(args.toList.map a.eval++us.drop nf)).toArray=(us.take nf).toArray++args.map a.eval++(us.drop nf).toArray:=by rw [← ha];simp
    rw [← hargs]
    refine (hok.2 K w0 (hG.gk (.inr (.inl ⟨_,_,hgI⟩))) _ (qe8 nf env ps) (s.j8 wr) _ _ r h2 φ M w _ (by rw [hB];exact hm) (by rw [hB];exact qnA he hps)).mono ?_
    rintro e w' ⟨vr,rfl,v,s2,φ',M',q1,q2,q3,q4,q5⟩
    rw [hB] at q3
    simp only [qzW,R.bind] at q1
    exact ⟨vr,rfl,hk v s2 φ' M' w' vr q1 q2 q3 q4 (((Fr.j8 wr []).trans q5).mono (by simp))⟩
   ·cases hi
  ·cases hi
theorem qE3 (hT:qfZ P E.T) (hC:qm9 P E.T E.C) (hMp:qfM P E.M) (hG:Fns P E K w0) (hI:∀ f g,E.I f=some g→qd0 P f g)
  (hnt:nt≤1000000) {ops:Array Oper} {Q:Exit→Act→World→Prop}:∀ (l:List Oper) (top:Bool) (i:Nat) (s:St) {ρ:Type} (k:St→R ρ) (r:ρ),((qfG E ops.toList nv nt top i l s).bind k).ev=some r →
  ∀ (φ:Pl) (M:Nat→Prop) (w:World) (a:Act),Mem K w0 φ M s.getB w→Slots φ (view w M) s.getB s.getT a→nt≤a.tmps.size →
  (∀ s2 φ' M' w' a',(k s2).ev=some r→Fr (dsts l) s s2→Mem K w0 φ' M' s2.getB w'→Ext φ M s.getB w φ' M' s2.getB w'→Slots φ' (view w' M') s2.getB s2.getT a'→Keep (dsts l) a a'→Q .normal a' w')→wpList P ops Q l a w:=by
 intro l
 induction l with
 | nil=>intro top i s ρ k r h φ M w a hm hs hna hq;exact hq s φ M w a h (Fr.refl _ _) hm (Ext.refl _ _ _ _) hs (Keep.refl _ _)
 | cons o rest ih =>
  intro top i s ρ k r h φ M w a hm hs hna hq
  have hd:=qdV o rest
  simp only [qfG] at h
  -- a value laid down,and on
  have way:∀ {ρ:Type} (k:St→R ρ) (r:ρ) (top':Bool) (s1:St) (v v':PV) (φ1:Pl) (M1:Nat→Prop) (w1:World) (x:Value),Same v v'→((setD nt o.dst s1 v' fun s=>qfG E ops.toList nv nt top' (i+1) rest s).bind k).ev=some r →
    Mem K w0 φ1 M1 s1.getB w1→Slots φ1 (view w1 M1) s1.getB s1.getT a→RepP φ1 (view w1 M1) s1.getB v x →
    (∀ s2 φ' M' w' a',(k s2).ev=some r→Fr (dsts rest) (putS s1 o.dst v') s2→(∀ d,o.dst=some d→d < nt)→Mem K w0 φ' M' s2.getB w'→Ext φ1 M1 s1.getB w1 φ' M' s2.getB w'→Slots φ' (view w' M') s2.getB s2.getT a'→Keep (dsts (o :: rest)) a a'→Q .normal a' w') →
    wpList P ops Q rest (a.put o.dst x) w1:=by
   intro ρ k r top' s1 v v' φ1 M1 w1 x hsame h m1 sl1 r1 hq
   obtain ⟨hdn,h⟩:=qmO h
   have hda:∀ d,o.dst=some d→d < a.tmps.size:=fun d hd=>Nat.lt_of_lt_of_le (hdn d hd) hna
   refine ih top' (i+1) _ k r h φ1 M1 w1 _ (by rw [qi2];exact m1) (by rw [qi2,qnO hnt hdn];exact sl1.put hda (hsame.rep r1)) (by simp only [Act.put];split <;> simpa using hna) fun s2 φ' M' w' a' hk hf m2 e2 s2' k2 => ?_
   rw [qi2] at e2
   exact hq s2 φ' M' w' a' hk hf hdn m2 e2 s2' ((Keep.put hd.1).sub k2 (fun t h=>h) hd.2)
  rcases qDf h with ⟨hw,h⟩ | ⟨hw,h⟩
  ·simp only [wpList]
   rw [if_pos (qu1 hw hs)]
   left
   rw [R.qN] at h
   refine qKU hT hC hMp hG hI h hm hs fun v s1 φ1 M1 w1 x h m1 e1 r1 f1 => ?_
   simp only at h
   have sl1:Slots φ1 (view w1 M1) s1.getB s1.getT a:=by rw [f1.T];exact hs.ext e1
   have fr1:∀ v' s2,(∀ d,o.dst=some d→d < nt)→Fr (dsts rest) (putS s1 o.dst v') s2→Fr (dsts (o :: rest)) s s2:=fun v' s2 _ hf=>(f1.sub (qjS hd.1) (fun t h=>by simp at h) (fun t h=>h)).sub hf (fun t h=>h) hd.2
   cases hg:(Nat.testBit (gmask ops.toList) i && (bval v).isSome) with
   | false =>
    rw [hg,cond_false] at h
    exact way k r top s1 v v φ1 M1 w1 x (.inl rfl) h m1 sl1 r1 fun s2 φ' M' w' a' hk hf hdn m2 e2 s2' k2=>hq s2 φ' M' w' a' hk (fr1 v s2 hdn hf) m2 (e1.trans e2) s2' k2
   | true =>
    rw [hg,cond_true] at h
    cases hb:bval v with
    | none=>rw [hb] at h;cases h
    | some c =>
     rw [hb] at h
     simp only at h
     have hv:=qAI hb
     -- the two ways
     have two:∀ {ρ:Type} (k:St→R ρ) (r:ρ),((R.br c (setD nt o.dst s1 (.kb true) fun s=>qfG E ops.toList nv nt false (i+1) rest s) (setD nt o.dst s1 (.kb false) fun s=>qfG E ops.toList nv nt false (i+1) rest s)).bind k).ev=some r →
       (∀ s2 φ' M' w' a',(k s2).ev=some r→Fr (dsts rest) (putS s1 o.dst (.kb c)) s2→(∀ d,o.dst=some d→d < nt)→Mem K w0 φ' M' s2.getB w'→Ext φ1 M1 s1.getB w1 φ' M' s2.getB w'→Slots φ' (view w' M') s2.getB s2.getT a'→Keep (dsts (o :: rest)) a a'→Q .normal a' w') →
       wpList P ops Q rest (a.put o.dst x) w1:=by
      intro ρ k r h hq
      simp only [R.bind,R.ev,sel] at h
      cases c with
      | true=>exact way k r false s1 v (.kb true) φ1 M1 w1 x (.inr ⟨true,hv,rfl⟩) h m1 sl1 r1 hq
      | false=>exact way k r false s1 v (.kb false) φ1 M1 w1 x (.inr ⟨false,hv,rfl⟩) h m1 sl1 r1 hq
     cases top with
     | false=>exact two k r h fun s2 φ' M' w' a' hk hf hdn m2 e2 s2' k2=>hq s2 φ' M' w' a' hk (fr1 _ s2 hdn hf) m2 (e1.trans e2) s2' k2
     | true =>
      rw [cond_true] at h
      obtain ⟨hdn,h⟩:=qmO h
      rcases qvU (fun t ht=>(List.mem_filter.1 ht).1) h with h | ⟨ks,p,hp,hrest⟩
      ·exact two k r h fun s2 φ' M' w' a' hk hf hdn m2 e2 s2' k2=>hq s2 φ' M' w' a' hk (fr1 _ s2 hdn hf) m2 (e1.trans e2) s2' k2
      ·refine two _ p hp fun s2 φ' M' w' a' h2 hf _ m2 e2 s2' k2 => ?_
       obtain ⟨p',hpe,hpl⟩:∃ p',(bif Nat.beq s2.w.length (putS s1 o.dst (.sc .bool c)).w.length then getK s2 ks else none)=some p'∧(R.leaf p').ev=some p:=by
        have h2':((R.ofO (bif Nat.beq s2.w.length (putS s1 o.dst (.sc .bool c)).w.length then getK s2 ks else none)).bind R.leaf).ev=some p:=by rw [jG];exact h2
        exact R.qFN h2'
       cases hpl
       cases hlen:Nat.beq s2.w.length (putS s1 o.dst (.sc .bool c)).w.length with
       | false=>rw [hlen] at hpe;cases hpe
       | true =>
        rw [hlen,cond_true] at hpe
        have hfw:Fw (dsts rest) (putS s1 o.dst (.sc .bool c)) s2:=by
         obtain ⟨f1,nw,f2,f3⟩:=hf
         refine ⟨fun t ht => ?_,nw,by rw [f2,qCP,qCP],fun id hid=>by rw [f3 id hid,qi2,qi2]⟩
         rw [f1 t ht,qnO hnt hdn,qnO hnt hdn]
         cases hdst:o.dst with
         | none=>exact .inl rfl
         | some d =>
          by_cases htd:t=d
          ·right
           refine ⟨.bool,c,by simp [putT,updT,htd], ?_⟩
           simp only [putT,updT,htd,if_true];rfl
          ·left;simp [putT,updT,htd]
        obtain ⟨s3,w1',w2',w3'⟩:=hrest s2 hfw (Nat.eq_of_beq_eq_true hlen) hpe
        refine hq s3 φ' M' w' a' w3' ?_ (by rw [w1'.2];exact m2) (by rw [w1'.2];exact e1.trans e2) (s2'.weak w1') k2
        exact (f1.sub (qjS hd.1) (fun t h=>by simp at h) (fun t h=>h)).sub w2' (fun t h=>h) hd.2
  ·simp only [wpList]
   rw [if_neg (by rw [qCC hw hs];simp)]
   exact way k r top s .undef .undef φ M w undef (.inl rfl) h hm hs (qxU rfl) fun s2 φ' M' w' a' hk hf hdn m2 e2 s2' k2=>hq s2 φ' M' w' a' hk ((qjS hd.1).sub hf (fun t h=>h) hd.2) m2 e2 s2' k2
end
end Yp
namespace Yp
open Go
variable {P : Program}
section
variable {K : Kp} {w0 w : World} {φ : Pl} {M : Nat → Prop} {B B' : Nat → Blk} {g : Nat → PV} {a : Act} {E : Env} {rs : List RTy} {res : List ResultVar} {nv nt : Nat} {inl : Bool}
theorem Now.refl {D:List Nat} {s:St} (hm:Mem K w0 φ M s.getB w) (hs:Slots φ (view w M) s.getB s.getT a):Now K w0 D s φ M w a s φ M w a:=⟨Fr.refl _ _,hm,Ext.refl _ _ _ _,hs,Keep.refl _ _⟩
theorem Now.trans {D D' D'':List Nat} {s s1 s2:St} {φ1 φ2:Pl} {M1 M2:Nat→Prop} {w1 w2:World} {a1 a2:Act} (h:Now K w0 D s φ M w a s1 φ1 M1 w1 a1) (k:Now K w0 D' s1 φ1 M1 w1 a1 s2 φ2 M2 w2 a2)
  (hd:∀ t,t∈D→t∈D'') (hd':∀ t,t∈D'→t∈D''):Now K w0 D'' s φ M w a s2 φ2 M2 w2 a2:=⟨h.fr.sub k.fr hd hd',k.mem,h.ext.trans k.ext,k.slots,h.keep.sub k.keep hd hd'⟩
theorem Now.mono {D D':List Nat} {s s1:St} {φ1:Pl} {M1:Nat→Prop} {w1:World} {a1:Act} (h:Now K w0 D s φ M w a s1 φ1 M1 w1 a1) (hd:∀ t,t∈D→t∈D'):Now K w0 D' s φ M w a s1 φ1 M1 w1 a1 :=
 ⟨h.fr.mono hd,h.mem,h.ext,h.slots,h.keep.1,h.keep.2.1,fun t ht=>h.keep.2.2 t fun hc=>ht (hd t hc)⟩
theorem qEG {b:Code} (hU:E.U=true) (ih:qG0 P K w0 E rs res nv nt inl b):qG0 P K w0 E rs res nv nt inl (.loop b):=by
 intro s ρ k r h φ M w a hm hs hna Q hq1 hqe hqr
 simp only [run,hU,cond_true] at h
 refine qpL (fun n a2 w2=>∃ s2 φ2 M2,((unroll (fun s=>run E rs res nv nt inl b s) n s2).bind k).ev=some r∧Now K w0 (assigned (.loop b)) s φ M w a s2 φ2 M2 w2 a2) (fun a2 w2 ⟨s2,φ2,M2,h0,_⟩=>by cases h0) ?_ ⟨s,φ,M,h,Now.refl hm hs⟩
 rintro n a2 w2 ⟨s2,φ2,M2,h2,hn⟩
 simp only [unroll] at h2
 rw [R.qN] at h2
 have same:∀ t,t∈assigned b→t∈assigned (.loop b):=fun t h=>h
 refine ih s2 ρ _ r h2 φ2 M2 w2 a2 hn.mem hn.slots (by rw [hn.keep.1];exact hna) _ (fun s3 φ3 M3 w3 a3 hk hn3 => ?_) (fun id s3 φ3 M3 w3 a3 hk hn3 => ?_) (fun v w3 a3 hk hd hu => ?_)
 ·exact ⟨s3,φ3,M3,hk,hn.trans hn3 (fun t h=>h) same⟩
 ·have hq:=hqe id s3 φ3 M3 w3 a3 hk (hn.trans hn3 (fun t h=>h) same)
  revert hq;unfold qbU;split <;> exact fun h=>h
 ·exact hqr v w3 a3 hk (hd.trans hn.keep.2.1) hu
theorem qf2 (hT:qfZ P E.T) (hC:qm9 P E.T E.C) (hMp:qfM P E.M) (hG:Fns P E K w0) (hI:∀ f g,E.I f=some g→qd0 P f g) (hmix:P.follows .mixedOrders=true) (hK:inl=false→∀ b,K.k b↔b < w0.heap.size) (hnt:nt≤1000000):∀ c:Code,qG0 P K w0 E rs res nv nt inl c
 | .skip=>fun s ρ k r h φ M w a hm hs hna Q hq1 hq2 hq3=>wp_skip (hq1 s φ M w a h (Now.refl hm hs))
 | .label l=>fun s ρ k r h φ M w a hm hs hna Q hq1 hq2 hq3=>wp_label (hq1 s φ M w a h (Now.refl hm hs))
 | .region id ops draw=>fun s ρ k r h φ M w a hm hs hna Q hq1 hq2 hq3=>by
  simp only [run] at h
  cases hc:(!draw && qGO E ops.toList) with
  | false =>
   rw [hc,cond_false,R.qN] at h
   exact qFh hT hC hMp hG hI hmix hnt h hm hs hna fun s2 φ' M' w' a' hk hf m1 e1 s1 k1=>hq1 s2 φ' M' w' a' hk ⟨hf,m1,e1,s1,k1⟩
  | true =>
   rw [hc,cond_true,R.qN] at h
   simp only [Bool.and_eq_true,Bool.not_eq_true'] at hc
   rw [hc.1]
   exact wp_region_list (qE3 hT hC hMp hG hI hnt ops.toList true 0 s _ r h φ M w a hm hs hna fun s2 φ' M' w' a' hk hf m1 e1 s1 k1=>hq1 s2 φ' M' w' a' hk ⟨hf,m1,e1,s1,k1⟩)
 | .seq x y=>fun s ρ k r h φ M w a hm hs hna Q hq1 hq2 hq3=>by
  simp only [run] at h
  rw [R.qN] at h
  have memL:∀ t,t∈assigned x→t∈assigned (.seq x y):=fun t h=>List.mem_append_left _ h
  have memR:∀ t,t∈assigned y→t∈assigned (.seq x y):=fun t h=>List.mem_append_right _ h
  refine wp_seq (qf2 hT hC hMp hG hI hmix hK hnt x s ρ _ r h φ M w a hm hs hna _ (fun s2 φ' M' w' a' hk hn => ?_) (fun id s2 φ' M' w' a' hk hn => ?_) (fun v w' a' hk hd hu => ?_))
  ·exact qf2 hT hC hMp hG hI hmix hK hnt y s2 ρ k r hk φ' M' w' a' hn.mem hn.slots (by rw [hn.keep.1];exact hna) Q (fun s3 φ3 M3 w3 a3 hk3 hn3=>hq1 s3 φ3 M3 w3 a3 hk3 (hn.trans hn3 memL memR))
    (fun id s3 φ3 M3 w3 a3 hk3 hn3=>hq2 id s3 φ3 M3 w3 a3 hk3 (hn.trans hn3 memL memR)) (fun v w3 a3 hk3 hd hu=>hq3 v w3 a3 hk3 (hd.trans hn.keep.2.1) hu)
  ·have hq:=hq2 id s2 φ' M' w' a' hk (hn.mono memL)
   revert hq;unfold qbU;split <;> exact fun h=>h
  ·exact hq3 v w' a' hk hd hu
 | .cond c x y=>fun s ρ k r h φ M w a hm hs hna Q hq1 hq2 hq3=>by
  simp only [run] at h
  rw [R.qN] at h
  have memL:∀ t,t∈assigned x→t∈assigned (.cond c x y):=fun t h=>List.mem_append_left _ h
  have memR:∀ t,t∈assigned y→t∈assigned (.cond c x y):=fun t h=>List.mem_append_right _ h
  obtain ⟨v,wr,h1,h2⟩:=qeZ h
  obtain ⟨_,hv⟩:=qqP h1 hs
  simp only at h2
  have goX:∀ {ρ:Type} (k:Out (denR rs)→R ρ) (r:ρ),((run E rs res nv nt inl x s).bind k).ev=some r→(∀ s2 φ' M' w' a',(k (.nx s2)).ev=some r→Now K w0 (assigned x) s φ M w a s2 φ' M' w' a'→Q .normal a' w') →
    (∀ id s2 φ' M' w' a',(k (.ex id s2)).ev=some r→Now K w0 (assigned x) s φ M w a s2 φ' M' w' a'→Q (qbU id) a' w') →
    (∀ v w' a',(k (.rt v)).ev=some r→a'.defers=a.defers→(∃ us,qf5 P a'.tmps w' res us∧qcL w0 K.x w' rs v (vrOf us))→Q .ret a' w')→x.wp P Q a w :=
   fun k r hx g1 g2 g3=>qf2 hT hC hMp hG hI hmix hK hnt x s _ k r hx φ M w a hm hs hna Q g1 g2 g3
  have goY:∀ {ρ:Type} (k:Out (denR rs)→R ρ) (r:ρ),((run E rs res nv nt inl y s).bind k).ev=some r→(∀ s2 φ' M' w' a',(k (.nx s2)).ev=some r→Now K w0 (assigned y) s φ M w a s2 φ' M' w' a'→Q .normal a' w') →
    (∀ id s2 φ' M' w' a',(k (.ex id s2)).ev=some r→Now K w0 (assigned y) s φ M w a s2 φ' M' w' a'→Q (qbU id) a' w') →
    (∀ v w' a',(k (.rt v)).ev=some r→a'.defers=a.defers→(∃ us,qf5 P a'.tmps w' res us∧qcL w0 K.x w' rs v (vrOf us))→Q .ret a' w')→y.wp P Q a w :=
   fun k r hx g1 g2 g3=>qf2 hT hC hMp hG hI hmix hK hnt y s _ k r hx φ M w a hm hs hna Q g1 g2 g3
  have wayX:((run E rs res nv nt inl x s).bind k).ev=some r→x.wp P Q a w:=fun hx=>goX k r hx (fun s2 φ' M' w' a' hk hn=>hq1 s2 φ' M' w' a' hk (hn.mono memL)) (fun id s2 φ' M' w' a' hk hn=>hq2 id s2 φ' M' w' a' hk (hn.mono memL)) hq3
  have wayY:((run E rs res nv nt inl y s).bind k).ev=some r→y.wp P Q a w:=fun hx=>goY k r hx (fun s2 φ' M' w' a' hk hn=>hq1 s2 φ' M' w' a' hk (hn.mono memR)) (fun id s2 φ' M' w' a' hk hn=>hq2 id s2 φ' M' w' a' hk (hn.mono memR)) hq3
  cases v <;> try (cases h2;done)
  case kb t =>
   have hv:a.eval c = .bool t:=hv
   cases t with
   | true=>exact wp_cond_true hv (wayX h2)
   | false=>exact wp_cond_false hv (wayY h2)
  case sc ty t =>
   cases ty <;> try (cases h2;done)
   have hv:a.eval c = .bool t:=RepP.bool hv
   cases hU:E.U with
   | true =>
    rw [hU] at h2
    simp only [cond_true] at h2
    have ht:∃ tb:Bool,tb=t:=⟨t,rfl⟩
    obtain ⟨tb,htb⟩:=ht
    subst htb
    cases tb with
    | true=>exact wp_cond_true hv (wayX h2)
    | false=>exact wp_cond_false hv (wayY h2)
   | false =>
   rw [hU] at h2
   simp only [cond_false] at h2
   have br:((R.br t (run E rs res nv nt inl x s) (run E rs res nv nt inl y s)).bind k).ev=some r→(Code.cond c x y).wp P Q a w:=fun hb=>by
    simp only [R.bind,R.ev,sel] at hb
    have ht:∃ tb:Bool,tb=t:=⟨t,rfl⟩
    obtain ⟨tb,htb⟩:=ht
    subst htb
    cases tb with
    | true=>exact wp_cond_true hv (wayX hb)
    | false=>exact wp_cond_false hv (wayY hb)
   generalize (qi3 [] x && qi3 [] y)=c1 at h2
   cases c1 with
   | false=>exact br h2
   | true =>
    simp only [cond_true] at h2
    rw [R.qN] at h2
    -- each side,to whatever
    have side:∀ {ρ:Type} (k':St→R ρ) (r':ρ),(((R.br t ((run E rs res nv nt inl x s).omap nxO) ((run E rs res nv nt inl y s).omap nxO))).bind k').ev=some r' →
      (∀ s2 φ' M' w' a',(k' s2).ev=some r'→Now K w0 (assigned (.cond c x y)) s φ M w a s2 φ' M' w' a'→Q .normal a' w')→(Code.cond c x y).wp P Q a w:=by
     intro ρ k' r' hb hn'
     simp only [R.bind,R.ev,sel,R.qeR,R.qN] at hb
     have fin:∀ {D:List Nat} (hD:∀ t,t∈D→t∈assigned (.cond c x y)),(∀ s2 φ' M' w' a',((R.ofO (nxO (.nx s2:Out (denR rs)))).bind k').ev=some r'→Now K w0 D s φ M w a s2 φ' M' w' a'→Q .normal a' w') ∧
       (∀ id s2 φ' M' w' a',((R.ofO (nxO (.ex id s2:Out (denR rs)))).bind k').ev=some r'→Now K w0 D s φ M w a s2 φ' M' w' a'→Q (qbU id) a' w') ∧
       (∀ v w' a',((R.ofO (nxO (.rt v:Out (denR rs)))).bind k').ev=some r'→a'.defers=a.defers→(∃ us,qf5 P a'.tmps w' res us∧qcL w0 K.x w' rs v (vrOf us))→Q .ret a' w') :=
      fun hD=>⟨fun s2 φ' M' w' a' hk hn=>hn' s2 φ' M' w' a' hk (hn.mono hD),(fun id s2 φ' M' w' a' hk _=>by cases hk),(fun v w' a' hk _ _=>by cases hk)⟩
     have ht:∃ tb:Bool,tb=t:=⟨t,rfl⟩
     obtain ⟨tb,htb⟩:=ht
     subst htb
     cases tb with
     | true=>obtain ⟨f1,f2,f3⟩:=fin memL;exact wp_cond_true hv (goX _ r' hb f1 f2 f3)
     | false=>obtain ⟨f1,f2,f3⟩:=fin memR;exact wp_cond_false hv (goY _ r' hb f1 f2 f3)
    rcases qvU (fun t ht=>(List.mem_filter.1 ht).1) h2 with h3 | ⟨ks,p,hp,hrest⟩
    ·exact side _ r h3 fun s2 φ' M' w' a' hk hn=>hq1 s2 φ' M' w' a' hk hn
    ·refine side _ p hp fun s2 φ' M' w' a' hk hn => ?_
     have hk2:((R.ofO (bif Nat.beq s2.w.length s.w.length then getK s2 ks else none)).bind R.leaf).ev=some p:=by rw [jG];exact hk
     obtain ⟨p',hpe,hpl⟩:=R.qFN hk2
     cases hpl
     cases hlen:Nat.beq s2.w.length s.w.length with
     | false=>rw [hlen] at hpe;cases hpe
     | true =>
      rw [hlen,cond_true] at hpe
      have hfr:Fr (dedup (assigned x++assigned y)) s s2:=hn.fr.mono fun t ht=>qdJ.2 ht
      obtain ⟨s3,w1,w2,w3⟩:=hrest s2 hfr.fw (Nat.eq_of_beq_eq_true hlen) hpe
      refine hq1 s3 φ' M' w' a' w3 ⟨w2.mono fun t ht=>qdJ.1 ht,by rw [w1.2];exact hn.mem,by rw [w1.2];exact hn.ext,hn.slots.weak w1,hn.keep⟩
 | .block id x=>fun s ρ k r h φ M w a hm hs hna Q hq1 hq2 hq3=>by
  simp only [run] at h
  cases hret:Nat.beq id RET with
  | true=>rw [hret] at h;cases h
  | false =>
  rw [hret,cond_false,R.qN] at h
  have hne:id≠RET:=fun e=>by rw [e,Nat.beq_refl] at hret;cases hret
  refine wp_block (qf2 hT hC hMp hG hI hmix hK hnt x s ρ _ r h φ M w a hm hs hna _ (fun s2 φ' M' w' a' hk hn=>hq1 s2 φ' M' w' a' hk hn) (fun i s2 φ' M' w' a' hk hn => ?_) (fun v w' a' hk hd hu=>hq3 v w' a' hk hd hu))
  replace hk:((bif Nat.beq i id then R.leaf (LS.nx s2) else R.leaf (LS.ex i s2):R (Out (denR rs))).bind k).ev=some r:=hk
  cases hb:Nat.beq i id with
  | true =>
   rw [hb] at hk
   have hi:=Nat.eq_of_beq_eq_true hb
   unfold qbU
   rw [if_neg (by rw [hi];exact hne)]
   simp only [Exit.inBlock]
   rw [if_pos hi]
   exact hq1 s2 φ' M' w' a' hk hn
  | false =>
   rw [hb] at hk
   have hq:=hq2 i s2 φ' M' w' a' hk hn
   revert hq
   unfold qbU
   split
   ·exact fun h=>h
   ·simp only [Exit.inBlock]
    rw [if_neg (by rintro rfl;rw [Nat.beq_refl] at hb;cases hb)]
    exact fun h=>h
 | .exit id=>fun s ρ k r h φ M w a hm hs hna Q hq1 hq2 hq3=>by
  simp only [run] at h
  cases hret:Nat.beq id RET with
  | true=>rw [hret] at h;cases h
  | false =>
   rw [hret,cond_false] at h
   have hne:id≠RET:=fun e=>by rw [e,Nat.beq_refl] at hret;cases hret
   have hq:=hq2 id s φ M w a h (Now.refl hm hs)
   unfold qbU at hq
   rw [if_neg hne] at hq
   exact wp_exit hq
 | .ret=>fun s ρ k r h φ M w a hm hs hna Q hq1 hq2 hq3=>by
  simp only [run] at h
  cases hinl:inl with
  | true =>
   rw [hinl,cond_true] at h
   have hq:=hq2 RET s φ M w a h (Now.refl hm hs)
   unfold qbU at hq
   rw [if_pos rfl] at hq
   exact wp_ret hq
  | false =>
  rw [hinl,cond_false,R.qN] at h
  obtain ⟨vs,us,h1,h2,h3⟩:=qp1 hT h hm hs
  rw [R.qN] at h1
  obtain ⟨x,M',B',h4,m1,v1,_,rr⟩:=qBe h1 hm h2 (U:=fun _=>False) ⟨fun _ _ _ _ h=>h,fun _ h=>h.elim⟩
  have hK':=hK hinl
  rw [show (fun b=>¬ K.k b)=(fun b=>¬ b < w0.heap.size) from funext fun b=>by rw [hK' b]] at rr
  refine wp_ret (hq3 x w a h4 rfl ⟨us,h3,M',m1.os,m1.tape,m1.output,m1.size,fun b hb=>m1.keep b ((hK' b).2 hb),fun b hb=>m1.hid b ((hK' b).2 hb),m1.mlt,us,rr,rfl⟩)
 | .loop b=>by
  cases hU:E.U with
  | false=>exact qJD hU (qf2 hT hC hMp hG hI hmix hK hnt b)
  | true=>exact qEG hU (qf2 hT hC hMp hG hI hmix hK hnt b)
 | .goto l=>fun s ρ k r h=>by simp only [run] at h;cases h
 | .scope c=>fun s ρ k r h φ M w a hm hs hna Q hq1 hq2 hq3=>by
  simp only [run] at h
  refine wp_scope_straight (qf2 hT hC hMp hG hI hmix hK hnt c s ρ k r h φ M w a hm hs hna _ hq1 (fun id s2 φ' M' w' a' hk hn => ?_) hq3)
  have hq:=hq2 id s2 φ' M' w' a' hk hn
  revert hq;unfold qbU;split <;> exact fun h=>h
 | .refuse why=>fun s ρ k r h=>by simp only [run] at h;cases h
 | .rangeFunc f ps x y=>fun s ρ k r h=>by simp only [run] at h;cases h
end
end Yp
namespace Yp
open Go
variable {P : Program}
theorem quM:∀ (n i:Nat) (s:St),∃ s':St,s'.h=s.h∧s'.w=s.w∧(∀ (γ:Type 1) (k:Tr→γ),qH3 n i s.t k=k s'.t)∧(∀ j,s'.getT j=s.getT j∨(i≤j∧(s'.getT j = .undef∨s'.getT j = .bad)))
 | 0,i,s=>⟨s,rfl,rfl,fun _ _=>rfl,fun _ => .inl rfl⟩
 | n+1,i,s=>by
  obtain ⟨s',h1,h2,h3,h4⟩:=quM n (i+1) (s.setT i .undef)
  refine ⟨s',h1,h2,fun γ k => ?_,fun j => ?_⟩
  ·simp only [qH3,qA3];exact h3 γ k
  ·rcases h4 j with h | ⟨h,h'⟩
   ·by_cases hj:j=i
    ·subst hj
     right;refine ⟨Nat.le_refl _, ?_⟩
     rw [h];exact s.qg2 j .undef
    ·left;rw [h,s.qe0 _ hj]
   ·exact .inr ⟨by omega,h'⟩
theorem qrB (n:Nat):∀ (vs:List PV) (i:Nat) (s:St),∃ s':St,s'.h=s.h∧s'.w=s.w∧(∀ (γ:Type 1) (k:Tr→γ),fill n vs i s.t k=k s'.t) ∧
  ∀ j,s'.getT j=s.getT j∨(∃ v,i≤j∧vs[j - i]? = some v∧(s'.getT j=v∨s'.getT j = .bad))∨(i+vs.length≤j∧(s'.getT j = .undef∨s'.getT j = .bad))
 | [],i,s=>by
  obtain ⟨s',h1,h2,h3,h4⟩:=quM (n - i) i s
  exact ⟨s',h1,h2,h3,fun j=>(h4 j).imp id fun h => .inr ⟨by simpa using h.1,h.2⟩⟩
 | v :: vs,i,s=>by
  obtain ⟨s',h1,h2,h3,h4⟩:=qrB n vs (i+1) (s.setT i v)
  refine ⟨s',h1,h2,fun γ k => ?_,fun j => ?_⟩
  ·simp only [fill,qzW,qA3];exact h3 γ k
  ·rcases h4 j with h | ⟨u,hj,h,h'⟩ | ⟨h,h'⟩
   ·by_cases hj:j=i
    ·subst hj
     right;left
     refine ⟨v,Nat.le_refl _,by simp, ?_⟩
     rw [h];exact s.qg2 j v
    ·left;rw [h,s.qe0 _ hj]
   ·right;left
    refine ⟨u,by omega, ?_,h'⟩
    rw [show j - i=(j - (i+1))+1 by omega,List.getElem?_cons_succ];exact h
   ·right;right
    exact ⟨by simp only [List.length_cons];omega,h'⟩
theorem qDA {H:View} {φ:Pl} {B:Nat→Blk}:∀ {ts:List Ty} {x:denL ts} {vs:List Value},wR H ts x vs→(qfT ts x).length=vs.length∧∀ (j:Nat) (p:PV),(qfT ts x)[j]? = some p→∃ v:Value,vs[j]? = some v∧RepP φ H B p v
 | [],x,vs,h=>by have h:vs=[]:=h;subst h;exact ⟨rfl,fun j p h=>by simp [qfT] at h⟩
 | t :: ts,x,vs,h=>by
  obtain ⟨cs,vs',rfl,h1,h2⟩:=h
  obtain ⟨g1,g2⟩:=qDA (φ:=φ) (B:=B) h2
  refine ⟨by simp [qfT,g1],fun j p hj => ?_⟩
  cases j with
  | zero =>
   simp only [qfT,List.getElem?_cons_zero,Option.some.injEq] at hj
   subst hj
   exact ⟨_,rfl,cs,h1,rfl⟩
  | succ j =>
   simp only [qfT,List.getElem?_cons_succ] at hj
   obtain ⟨v,h3,h4⟩:=g2 j p hj
   exact ⟨v,by simpa using h3,h4⟩
structure EOK (P:Program) (E:Env):Prop where
 T:qfZ P E.T
 C:qm9 P E.T E.C
 M:qfM P E.M
 G:∀ f s,E.G f=some s→FOK P f s
 K : ∀ g, E.K = some g → P.globalNamed "yett/sha.keys" = some g
 I:∀ f g,E.I f=some g→qd0 P f g
 X:∀ f s,E.X f=some s→BOK P f s
theorem qCz {w:World} {X:Nat→Prop} {ts:List Ty} {x:denL ts} {vs:List Value} (hX:∀ b,X b→b < w.heap.size) (hkeys:yO P (view w X)) (hargs:wR (view w X) ts x vs) (n:Nat) :
  ∃ s:St,(∀ (γ:Type 1) (k:Tr→γ),fill n (qfT ts x) 0 .e k=k s.t)∧(⟨s.t,[],[]⟩:St)=s∧Mem ⟨fun b=>b < w.heap.size,X⟩ w (fun _=>none) X s.getB w ∧
   Slots (fun _=>none) (view w X) s.getB s.getT { tmps:=vs.toArray++Array.replicate (n - vs.toArray.size) undef,defers:=[] }∧n≤(vs.toArray++Array.replicate (n - vs.toArray.size) undef).size∧GK P ⟨fun b=>b < w.heap.size,X⟩ w:=by
 obtain ⟨s,h1,h2,h3,h4⟩:=qrB n (qfT ts x) 0 ⟨.e,[],[]⟩
 have hs:(⟨s.t,[],[]⟩:St)=s:=by cases s;simp only at h1 h2;rw [h1,h2]
 let K:Kp:=⟨fun b=>b < w.heap.size,X⟩
 have hB:s.getB=fun _=>Blk.new:=by funext j;unfold St.getB;rw [h1];rfl
 have hm:Mem K w (fun _=>none) X s.getB w:=by
  rw [hB]
  exact ⟨rfl,rfl,rfl,Nat.le_refl _,fun _ _=>rfl,fun _ h=>h,fun _ _=>Iff.rfl,(fun _ h=>by cases h),hX,fun _=>trivial,(fun _ _ _ h=>by cases h)⟩
 obtain ⟨g1,g2⟩:=qDA (φ:=fun _=>none) (B:=s.getB) hargs
 have hslots:Slots (fun _=>none) (view w X) s.getB s.getT { tmps:=vs.toArray++Array.replicate (n - vs.toArray.size) undef,defers:=[] }:=by
  intro j
  have hbad:(⟨.e,[],[]⟩:St).getT j = .bad:=Tr.qzM 40 j
  rcases h4 j with h | ⟨p,_,h,h'⟩ | ⟨h,h'⟩
  ·rw [h,hbad];trivial
  ·rcases h' with h' | h' <;> rw [h']
   ·obtain ⟨v,hv,hr⟩:=g2 j p (by simpa using h)
    have hlt:j < vs.length:=(List.getElem?_eq_some_iff.1 hv).1
    have:(vs.toArray++Array.replicate (n - vs.toArray.size) undef).getD j undef=v:=by
     rw [Array.getD_eq_getD_getElem?,Array.getElem?_append_left (by simpa using hlt)]
     simp [hv]
    show RepP _ _ _ p ((vs.toArray++Array.replicate (n - vs.toArray.size) undef).getD j undef)
    rw [this];exact hr
   ·trivial
  ·rcases h' with h' | h' <;> rw [h']
   ·have hlt:vs.length≤j:=by rw [g1] at h;simpa using h
    have:(vs.toArray++Array.replicate (n - vs.toArray.size) undef).getD j undef=undef:=by
     rw [Array.getD_eq_getD_getElem?,Array.getElem?_append_right (by simpa using hlt)]
     by_cases hj:j - vs.toArray.size < n - vs.toArray.size
     ·rw [Array.getElem?_replicate,if_pos hj];rfl
     ·rw [Array.getElem?_replicate,if_neg hj];rfl
    exact this
   ·trivial
 have hsize:n≤(vs.toArray++Array.replicate (n - vs.toArray.size) undef).size:=by simp;omega
 have hgk:GK P K w:=⟨fun g hg=>by
  obtain ⟨a,cap,h1,_,_,h4⟩:=RepC.jT.1 (hkeys g hg)
  simp only [List.cons.injEq,Value.slice.injEq,and_true] at h1
  obtain ⟨rfl,_,rfl⟩:=h1
  rcases h4 with h4 | ⟨b,o,c,el,fz,q1,q2,_⟩
  ·cases h4
  ·cases q1;exact (Array.getElem?_eq_some_iff.1 (zF.1 q2).2).1,hkeys⟩
 exact ⟨s,fun γ k=>h3 γ k,hs,hm,hslots,hsize,hgk⟩
theorem qHJ {E : Env} (hE : EOK P E) (hmix : P.follows .mixedOrders = true) {f : Nat} {fn : Func} (hf : P.funcs[f]? = some fn) (hname : (fn.name == "runtime.NumGoroutine") = false)
  (nv:Nat) (ts:List Ty) (rs:List RTy) (hb:fn.body.isSome=true):FOK P f ⟨ts,rs,model E fn nv ts rs⟩:=by
 refine ⟨⟨fn,hf,hb,hname⟩, ?_⟩
 intro w X x vs r hX hkeys hargs hmod
 have hmod:model E fn nv ts rs x=some r:=hmod
 unfold model at hmod
 cases hbody:fn.body with
 | none=>rw [hbody] at hb;cases hb
 | some c =>
  rw [hbody] at hmod
  simp only at hmod
  cases hle:Nat.ble fn.ntmps 1000000 with
  | false=>rw [hle] at hmod;cases hmod
  | true =>
   rw [hle] at hmod
   simp only [Bool.not_true,cond_false] at hmod
   have hnt:fn.ntmps≤1000000:=by simpa using hle
   obtain ⟨s,h3,hs,hm,hslots,hsize,hgk⟩:=qCz (P:=P) hX hkeys hargs fn.ntmps
   rw [h3,hs] at hmod
   refine calls_of_wp hf hbody ?_
   let K:Kp:=⟨fun b=>b < w.heap.size,X⟩
   refine qf2 (P:=P) (w0:=w) (K:=K) hE.T hE.C hE.M ⟨hE.G,hE.K,fun _=>hgk,fun f s h=>⟨hE.X f s h,hgk⟩⟩ hE.I hmix (fun _ b=>Iff.rfl) hnt c s (denR rs) _ r hmod (fun _=>none) X w _ hm hslots hsize _ (fun s2 φ' M' w' a' hk hn => ?_) (fun id s2 φ' M' w' a' hk hn=>by cases hk) (fun y w' a' hk hd hu => ?_)
   ·obtain ⟨vs2,us,q1,q2,q3⟩:=qp1 hE.T hk hn.mem hn.slots
    have q1':((rets s2 rs vs2).bind R.leaf).ev=some r:=by rw [jG];exact q1
    obtain ⟨y,M2,B2,q4,m1,v1,_,rr⟩:=qBe (K:=K) (w0:=w) q1' hn.mem q2 (U:=fun _=>False) ⟨fun _ _ _ _ h=>h,fun _ h=>h.elim⟩
    cases q4
    exact ⟨hn.keep.2.1,vrOf us,qcS q3,vrOf us,rfl,M2,m1.os,m1.tape,m1.output,m1.size,fun b hb=>m1.keep b hb,fun b hb=>m1.hid b hb,m1.mlt,us,rr,rfl⟩
   ·cases hk
    obtain ⟨us,q1,q2⟩:=hu
    exact ⟨hd,vrOf us,qcS q1,vrOf us,rfl,q2⟩
def qIA {ρ:Type}:R (Out ρ)→St
 | .leaf (.nx s)=>s
 | _=>default
theorem qIu {E : Env} (hE : EOK P E) (hmix : P.follows .mixedOrders = true) {f : Nat} {fn : Func} (hf : P.funcs[f]? = some fn) (hname : (fn.name == "runtime.NumGoroutine") = false)
  (nv:Nat) (ts:List Ty) (rs:List RTy) {A C X Z:Code} {k:Nat} (hbody:fn.body=some (.seq A (.seq (.seq C (.cond (.tmp k) X .skip)) Z))) (hnt:fn.ntmps≤1000000) {m:denL ts→Option (denR rs)} (st:denL ts→St) (c:denL ts→Bool)
  (h1:∀ x,(fill fn.ntmps (qfT ts x) 0 .e fun t=>R.bind (run E rs fn.results.toList nv fn.ntmps false A ⟨t,[],[]⟩) fun | .nx s=>run E rs fn.results.toList nv fn.ntmps false C s | o => .leaf o) = .leaf (.nx (st x)))
  (h2:∀ x,(st x).getT k = .nq (c x)) (h3:∀ x r,c x=true→m x=some r→(run E rs fn.results.toList nv fn.ntmps false X (st x)).ev=some (.rt r))
  (h4:∀ x r,m x=some r→(run E rs fn.results.toList nv fn.ntmps false Z (st x)).ev=some (.rt r)):FOK P f ⟨ts,rs,m⟩:=by
 refine ⟨⟨fn,hf,by rw [hbody];rfl,hname⟩, ?_⟩
 intro w X' x vs r hX hkeys hargs hmod
 have hmod:m x=some r:=hmod
 obtain ⟨s,e3,hs,hm,hslots,hsize,hgk⟩:=qCz (P:=P) hX hkeys hargs fn.ntmps
 have h1':=h1 x
 rw [e3,hs] at h1'
 refine calls_of_wp hf hbody ?_
 let K:Kp:=⟨fun b=>b < w.heap.size,X'⟩
 have hF:Fns P E K w:=⟨hE.G,hE.K,fun _=>hgk,fun f s h=>⟨hE.X f s h,hgk⟩⟩
 have go:=fun (c:Code)=>qf2 (P:=P) (w0:=w) (K:=K) (rs:=rs) (res:=fn.results.toList) (nv:=nv) (nt:=fn.ntmps) (inl:=false) hE.T hE.C hE.M hF hE.I hmix (fun _ b=>Iff.rfl) hnt c
 have hev:((run E rs fn.results.toList nv fn.ntmps false A s).bind fun | .nx s=>run E rs fn.results.toList nv fn.ntmps false C s | o => .leaf o).ev=some (.nx (st x)):=by rw [h1'];rfl
 refine wp_seq (go A s _ _ _ hev _ X' w _ hm hslots hsize _ (fun s2 φ' M' w' a' hk hn => ?_) (fun id s2 φ' M' w' a' hk hn=>by cases hk) (fun y w' a' hk hd hu=>by cases hk))
 have hk:((run E rs fn.results.toList nv fn.ntmps false C s2).bind .leaf).ev=some (.nx (st x)):=by rw [jG];exact hk
 refine wp_seq (wp_seq (go C s2 _ _ _ hk φ' M' w' a' hn.mem hn.slots (by rw [hn.keep.1];exact hsize) _ (fun s3 φ3 M3 w3 a3 hk3 hn3 => ?_) (fun id s3 φ3 M3 w3 a3 hk3 hn3=>by cases hk3) (fun y w3 a3 hk3 hd hu=>by cases hk3)))
 cases hk3
 have hn':=hn.trans hn3 (D'':=assigned A++assigned C) (fun t h=>List.mem_append_left _ h) (fun t h=>List.mem_append_right _ h)
 have hnt3:fn.ntmps≤a3.tmps.size:=by rw [hn'.keep.1];exact hsize
 have fin:∀ (Cd:Code) (Q:Exit→Act→World→Prop),(run E rs fn.results.toList nv fn.ntmps false Cd (st x)).ev=some (.rt r) →
   (∀ a' w',a'.defers=[]→(∃ us,qf5 P a'.tmps w' fn.results.toList us∧qcL w X' w' rs r (vrOf us))→Q .ret a' w')→Cd.wp P Q a3 w3:=fun Cd Q he hq=>by
  have he:((run E rs fn.results.toList nv fn.ntmps false Cd (st x)).bind .leaf).ev=some (.rt r):=by rw [jG];exact he
  refine go Cd (st x) _ _ _ he φ3 M3 w3 a3 hn'.mem hn'.slots hnt3 Q (fun s4 φ4 M4 w4 a4 hk4 hn4=>by cases hk4) (fun id s4 φ4 M4 w4 a4 hk4 hn4=>by cases hk4) (fun y w4 a4 hk4 hd hu => ?_)
  cases hk4
  exact hq a4 w4 (hd.trans hn'.keep.2.1) hu
 have hq:RepP φ3 (view w3 M3) (st x).getB (.nq (c x)) (a3.eval (.tmp k)):=by rw [← h2 x];exact hn'.slots k
 obtain ⟨b,hb,hc⟩:=hq
 cases b with
 | true =>
  refine wp_cond_true hb (fin X _ (h3 x r (hc rfl) hmod) fun a4 w4 hd ⟨us,q1,q2⟩ => ?_)
  exact ⟨hd,vrOf us,qcS q1,vrOf us,rfl,q2⟩
 | false =>
  refine wp_cond_false hb (wp_skip (fin Z _ (h4 x r hmod) fun a4 w4 hd ⟨us,q1,q2⟩ => ?_))
  exact ⟨hd,vrOf us,qcS q1,vrOf us,rfl,q2⟩
theorem qKw {φ:Pl} {H:View} {B:Nat→Blk} {vs:List PV} {us:List Value} (h:PVs φ H B vs us) (hn:vs.all qlA=true):RepP φ H B (qAS vs) (vrOf us):=by
 have list:∀ {vs:List PV} {us:List Value},PVs φ H B vs us→vs.all qlA=true→RepL φ H B (vs.foldr PV.two (.sc .unit ())) us:=by
  intro vs
  induction vs with
  | nil=>intro us h _;cases us with
   | nil=>rfl
   | cons=>exact h.elim
  | cons v vs ih =>
   intro us h hn
   cases us with
   | nil=>exact h.elim
   | cons u us =>
    simp only [List.all_cons,Bool.and_eq_true] at hn
    exact ⟨u,us,rfl,toQ h.1 (qyX hn.1),ih h.2 hn.2⟩
 match vs,us,h,hn with
 | [],[],_,_=>exact ⟨[],rfl,rfl⟩
 | [v],[u],h,_=>exact h.1
 | v :: v' :: vs,u :: u' :: us,h,hn=>exact ⟨_,list h hn,rfl⟩
 | [],_ :: _,h,_=>exact h.elim
 | _ :: _,[],h,_=>exact h.elim
 | [_],_ :: _ :: _,h,_=>exact h.2.elim
 | _ :: _ :: _,[_],h,_=>exact h.2.elim
theorem qFr {H:View} {φ:Pl} {B:Nat→Blk}:∀ {ps:List PV} {vs:List Value},PVs φ H B ps vs→∀ (j:Nat) (p:PV),ps[j]? = some p→∃ v:Value,vs[j]? = some v∧RepP φ H B p v
 | [],[],_,j,p,h=>by simp at h
 | p :: ps,v :: vs,h,j,q,hj=>by
  cases j with
  | zero=>simp only [List.getElem?_cons_zero,Option.some.injEq] at hj;subst hj;exact ⟨v,rfl,h.1⟩
  | succ j =>
   simp only [List.getElem?_cons_succ] at hj
   obtain ⟨u,h1,h2⟩:=qFr h.2 j q hj
   exact ⟨u,by simpa using h1,h2⟩
 | [],_ :: _,h,_,_,_=>h.elim
 | _ :: _,[],h,_,_,_=>h.elim
theorem qK6 {E : Env} (hE : EOK P E) (hmix : P.follows .mixedOrders = true) {f : Nat} {fn : Func} (hf : P.funcs[f]? = some fn) (hname : (fn.name == "runtime.NumGoroutine") = false)
  (nv:Nat) (hb:fn.body.isSome=true):qd0 P f (inlF E fn nv):=by
 refine ⟨⟨fn,hf,hb,hname⟩, ?_⟩
 intro K w0 hgk bs ps s ρ k r h φ M w vs hm hps
 unfold inlF at h
 cases hbody:fn.body with
 | none=>rw [hbody] at hb;cases hb
 | some c =>
  rw [hbody] at h
  simp only at h
  cases hle:Nat.ble fn.ntmps 1000000 with
  | false=>rw [hle] at h;cases h
  | true =>
   rw [hle] at h
   simp only [Bool.not_true,cond_false] at h
   have hnt:fn.ntmps≤1000000:=by simpa using hle
   obtain ⟨s1,h1,h2,h3,h4⟩:=qrB fn.ntmps ps 0 ⟨.e,s.h,s.w⟩
   rw [h3] at h
   have hs:(⟨s1.t,s.h,s.w⟩:St)=s1:=by cases s1;simp only at h1 h2;rw [h1,h2]
   rw [hs,R.qN] at h
   refine calls_of_wp hf hbody ?_
   have hB:s1.getB=s.getB:=by funext j;unfold St.getB;rw [h1]
   have hm1:Mem K w0 φ M s1.getB w:=by rw [hB];exact hm
   have g1:=hps.length
   have g2:=qFr hps
   have hslots:Slots φ (view w M) s1.getB s1.getT { tmps:=vs.toArray++Array.replicate (fn.ntmps - vs.toArray.size) undef,defers:=[] }:=by
    intro j
    rw [hB]
    have hbad:(⟨.e,s.h,s.w⟩:St).getT j = .bad:=Tr.qzM 40 j
    rcases h4 j with h | ⟨p,_,h,h'⟩ | ⟨h,h'⟩
    ·rw [h,hbad];trivial
    ·rcases h' with h' | h' <;> rw [h']
     ·obtain ⟨v,hv,hr⟩:=g2 j p (by simpa using h)
      have hlt:j < vs.length:=(List.getElem?_eq_some_iff.1 hv).1
      have:(vs.toArray++Array.replicate (fn.ntmps - vs.toArray.size) undef).getD j undef=v:=by
       rw [Array.getD_eq_getD_getElem?,Array.getElem?_append_left (by simpa using hlt)]
       simp [hv]
      show RepP _ _ _ p ((vs.toArray++Array.replicate (fn.ntmps - vs.toArray.size) undef).getD j undef)
      rw [this];exact hr
     ·trivial
    ·rcases h' with h' | h' <;> rw [h']
     ·have hlt:vs.length≤j:=by rw [g1] at h;simpa using h
      have:(vs.toArray++Array.replicate (fn.ntmps - vs.toArray.size) undef).getD j undef=undef:=by
       rw [Array.getD_eq_getD_getElem?,Array.getElem?_append_right (by simpa using hlt)]
       by_cases hj:j - vs.toArray.size < fn.ntmps - vs.toArray.size
       ·rw [Array.getElem?_replicate,if_pos hj];rfl
       ·rw [Array.getElem?_replicate,if_neg hj];rfl
      exact this
     ·trivial
   have hsize:fn.ntmps≤(vs.toArray++Array.replicate (fn.ntmps - vs.toArray.size) undef).size:=by simp;omega
   -- its end
   have fin:∀ s2 φ' M' w' a',(((resV { E with b:=bs } s2 fn.results.toList).bind fun vs=>bif vs.all qlA then .leaf (qAS vs,(⟨s.t,s2.h,s2.w⟩:St)) else .fail).bind k).ev=some r →
     Now K w0 (assigned c) s1 φ M w { tmps:=vs.toArray++Array.replicate (fn.ntmps - vs.toArray.size) undef,defers:=[] } s2 φ' M' w' a' →
     a'.defers=[]∧∃ v,(results fn a'.tmps).run P w' = .ok v w'∧(∃ vr,Ending.returned v = .returned vr∧∃ v s2 φ' M',(k (v,s2)).ev=some r∧Mem K w0 φ' M' s2.getB w'∧Ext φ M s.getB w φ' M' s2.getB w'∧RepP φ' (view w' M') s2.getB v vr∧Fr [] s s2):=by
    intro s2 φ' M' w' a' hk hn
    rw [R.qN] at hk
    obtain ⟨vs2,us,q1,q2,q3⟩:=qp1 (E:={ E with b:=bs }) hE.T hk hn.mem hn.slots
    cases hall:vs2.all qlA with
    | false=>rw [hall] at q1;cases q1
    | true =>
     rw [hall,cond_true] at q1
     have q1:(k (qAS vs2,(⟨s.t,s2.h,s2.w⟩:St))).ev=some r:=q1
     have hB2:(⟨s.t,s2.h,s2.w⟩:St).getB=s2.getB:=rfl
     refine ⟨hn.keep.2.1,vrOf us,qcS q3,vrOf us,rfl,qAS vs2,⟨s.t,s2.h,s2.w⟩,φ',M',q1,hn.mem,by rw [← hB];exact hn.ext,qKw q2 hall,fun _ _=>rfl, ?_⟩
     obtain ⟨_,nw,f1,f2⟩:=hn.fr
     exact ⟨nw,by show s2.w=nw++s.w;rw [f1,h2],fun id hid=>by show s2.getB id=s.getB id;rw [f2 id hid,hB]⟩
   refine qf2 (P:=P) (w0:=w0) (K:=K) (E:={ E with b:=bs }) (inl:=true) hE.T hE.C hE.M ⟨hE.G,hE.K,fun _=>hgk,fun f s h=>⟨hE.X f s h,hgk⟩⟩ hE.I hmix (fun h=>by cases h) hnt c s1 ρ _ r h φ M w _ hm1 hslots hsize _ (fun s2 φ' M' w' a' hk hn => ?_) (fun id s2 φ' M' w' a' hk hn => ?_) (fun y w' a' hk hd hu=>by cases hk)
   ·exact fin s2 φ' M' w' a' hk hn
   ·replace hk:((bif Nat.beq id RET then (resV { E with b:=bs } s2 fn.results.toList).bind fun vs=>bif vs.all qlA then .leaf (qAS vs,(⟨s.t,s2.h,s2.w⟩:St)) else .fail else .fail:R (PV×St)).bind k).ev=some r:=hk
    cases hb:Nat.beq id RET with
    | false=>rw [hb] at hk;cases hk
    | true =>
     rw [hb,cond_true] at hk
     unfold qbU
     rw [if_pos (Nat.eq_of_beq_eq_true hb)]
     exact fin s2 φ' M' w' a' hk hn
theorem qC (f:Nat) (g:Inl):qy5 [] f=some g→qd0 P f g:=fun h=>by cases h
theorem jN {l:List (Nat×Inl)} (h:∀ f g,qy5 l f=some g→qd0 P f g) {f0:Nat} {g0:Inl} (h0:qd0 P f0 g0):∀ f g,qy5 ((f0,g0) :: l) f=some g→qd0 P f g:=by
 intro f g hs
 simp only [qy5] at hs
 cases hb:Nat.beq f0 f with
 | true=>rw [hb] at hs;cases hs;rw [← Nat.eq_of_beq_eq_true hb];exact h0
 | false=>rw [hb] at hs;exact h f g hs
theorem qD (f:Nat) (s:wQ):qy6 [] f=some s→FOK P f s:=fun h=>by cases h
theorem qA {l:List (Nat×wQ)} (h:∀ f s,qy6 l f=some s→FOK P f s) {f0:Nat} {s0:wQ} (h0:FOK P f0 s0):∀ f s,qy6 ((f0,s0) :: l) f=some s→FOK P f s:=by
 intro f s hs
 simp only [qy6] at hs
 cases hb:Nat.beq f0 f with
 | true=>rw [hb] at hs;cases hs;rw [← Nat.eq_of_beq_eq_true hb];exact h0
 | false=>rw [hb] at hs;exact h f s hs
theorem FOK.congr {f:Nat} {ts:List Ty} {rs:List RTy} {m m':denL ts→Option (denR rs)} (h:FOK P f ⟨ts,rs,m⟩) (he:∀ x,m x=m' x):FOK P f ⟨ts,rs,m'⟩:=by
 have:m=m':=funext he
 rw [← this];exact h
end Yp
namespace Yp
open Go Go.ChangeShapes Go.WideShapes Go.ChangeAt Go.RowKit
variable {P : Program} {H : Type} {enc : TypeId × Value → H}
theorem y0 {t:Ty} {tid:TypeId} (h:(fit P t).1 tid):P.cellsOf tid=t.size:=by
 obtain ⟨i,h1,h2,_⟩:=xC h
 simp [Program.cellsOf,h1,h2]
theorem qGL {w:World} {base:Nat} {a:Addr} {n:Nat} {cs:List Value} (h:w.cells? base a n=some cs) (hn:0 < n) (hs:a.spot=none) :
  ∃ c el fz,w.heap[a.block]? = some (.cells c el fz)∧a.off+n≤c.size∧cs=seg c a.off n:=by
 unfold World.cells? at h
 split at h
 ·have hlen:=mapM_some_length h
  have hget:=mapM_some_get h
  simp only [List.length_range] at hlen
  have hadd:∀ i,a.add i=⟨a.block,a.off+i,none⟩:=fun i=>by
   obtain ⟨b,o,s⟩:=a
   simp only at hs;subst hs
   exact yM b o i
  have at':∀ i,i < n→w.cell? ⟨a.block,a.off+i,none⟩=cs[i]? := fun i hi=>by
   have:=hget i i (by simp [hi])
   rw [hadd] at this;exact this
  have h0:=at' 0 hn
  rw [List.getElem?_eq_getElem (by omega)] at h0
  cases hb:w.heap[a.block]? with
  | none=>simp [World.cell?,hb] at h0
  | some ob =>
   cases ob with
   | cells c el fz =>
    have hc:∀ i,i < n→c[a.off+i]? = cs[i]? := fun i hi=>by rw [← at' i hi,qwI hb]
    have hle:a.off+n≤c.size:=by
     have:=hc (n - 1) (by omega)
     rw [List.getElem?_eq_getElem (by omega)] at this
     have:=(Array.getElem?_eq_some_iff.1 this).1
     omega
    refine ⟨c,el,fz,rfl,hle, ?_⟩
    apply List.ext_getElem?
    intro i
    by_cases hi:i < n
    ·rw [qd8 hi,hc i hi]
    ·have hl:=jD hle
     rw [List.getElem?_eq_none (by omega),List.getElem?_eq_none (by omega)]
   | _=>simp [World.cell?,hb] at h0
 ·cases h
theorem qBn {α:Type} {p:Nat→α→Prop}:∀ (n:Nat),(∀ i,i < n→∃ x,p i x)→∃ l:List α,l.length=n∧∀ i x,lget l i=some x→p i x
 | 0,_=>⟨[],rfl,fun i x h=>by simp [lget] at h⟩
 | n+1,h=>by
  obtain ⟨l,h1,h2⟩:=qBn n fun i hi=>h i (by omega)
  obtain ⟨x,hx⟩:=h n (by omega)
  refine ⟨l++[x],by simp [h1],fun i y hy => ?_⟩
  simp only [lget] at hy
  by_cases hi:i < n
  ·rw [List.getElem?_append_left (by omega)] at hy;exact h2 i y hy
  ·rw [List.getElem?_append_right (by omega)] at hy
   have:i=n:=by
    rcases Nat.lt_or_ge (i - l.length) 1 with h | h
    ·omega
    ·rw [List.getElem?_eq_none (by simpa using h)] at hy;cases hy
   subst this
   rw [h1] at hy
   simp at hy;rw [← hy];exact hx
def posT:Ty→Bool
 | .sl e=>Nat.blt 0 e.size && posT e | .pair a b=>posT a && posT b | .ar _ e=>posT e | .op _=>false | .fn _=>false | _=>true
def okd:(t:Ty)→t.den→Prop
 | .int k,x=>k.min≤KD.to k x∧KD.to k x≤k.max
 | .sl e,l=>(l:List e.den).length≤maxLen∧∀ (i:Nat) (x:e.den),lget (α:=e.den) l i=some x→okd e x
 | .ar n e,l=>(l:List e.den).length=n∧∀ (i:Nat) (x:e.den),lget (α:=e.den) l i=some x→okd e x
 | .pair a b,x=>okd a x.1∧okd b x.2
 | .bool,_=>True
 | .str,_=>True
 | .unit,_=>True
 | .op _,_=>True
 | .fn _,_=>True
def okL:(ts:List Ty)→denL ts→Prop
 | [],_=>True
 | t :: ts,x=>okd t x.1∧okL ts x.2
theorem qxV {w:World} {base:Nat} {sp:Nat→Bool} {held:Bool}:∀ (t:Ty),posT t=true→(∀ (tid:TypeId) (fuel:Nat) (cs:List Value) (x:DataW H×List MemPlace),(fit P t).1 tid→DataW.trod enc P w base sp held fuel tid cs=some x→∃ d:t.den,RepC (full w) t d cs∧okd t d) ∧
  ∀ (l:List Field) (off fuel:Nat) (cs:List Value),(fit P t).2 l off→cs.length=off+t.size→(∀ f∈l,∃ x,DataW.trod enc P w base sp held fuel f.type ((cs.drop f.offset).take (P.cellsOf f.type))=some x)→∃ d:t.den,RepC (full w) t d (cs.drop off)∧okd t d
 | .op _,hp=>by cases hp
 | .fn _,hp=>by cases hp
 | .bool,_=>by
  refine ⟨fun tid fuel cs x hf h => ?_,fun l off fuel cs hf=>hf.elim⟩
  obtain ⟨b,rfl,_⟩:=DataW.trod_bool hf.1 h
  exact ⟨(b:Bool),RepC.xD.2 rfl,trivial⟩
 | .int k,_=>by
  refine ⟨fun tid fuel cs x hf h => ?_,fun l off fuel cs hf=>hf.elim⟩
  obtain ⟨n,rfl,_,hw⟩:=DataW.trod_int hf.1 h
  have hb:k.min≤n∧n≤k.max:=by simpa [Lit.wf] using hw
  have he:KD.to k (KD.lit k n)=n:=KD.qF2 k n fun hu=>⟨by cases k <;> simp_all [uns,IntKind.min,IntKind.signed],hb.2⟩
  refine ⟨KD.lit k n,RepC.zV.2 (by rw [he]), ?_⟩
  simp only [okd]
  rw [he];exact hb
 | .str,_=>by
  refine ⟨fun tid fuel cs x hf h => ?_,fun l off fuel cs hf=>hf.elim⟩
  obtain ⟨s,rfl,_⟩:=DataW.trod_string hf.1 h
  exact ⟨(s.data.toList:List UInt8),RepC.qaO.2 (by simp),trivial⟩
 | .sl e,hp=>by
  refine ⟨fun tid fuel cs x hf h => ?_,fun l off fuel cs hf=>hf.elim⟩
  obtain ⟨⟨et,hu,he⟩,_⟩:=hf
  simp only [posT,Bool.and_eq_true,Nat.blt_eq] at hp
  rcases DataW.trod_slice hu h with ⟨rfl,_⟩ | ⟨a,len,cap,elems,rest,n,_,rfl,_,h1,h2,h3,h4,h5,_⟩
  ·exact ⟨([]:List e.den),RepC.jT.2 ⟨none,0,rfl,Nat.le_refl _,by unfold maxLen;omega, .inl rfl⟩,Nat.zero_le _,fun i x h=>by simp [lget] at h⟩
  ·have hcell:=y0 he
   rw [hcell] at h5
   by_cases hl:len=0
   ·subst hl
    exact ⟨([]:List e.den),RepC.jT.2 ⟨some a,cap,rfl,h2,h3, .inl rfl⟩,Nat.zero_le _,fun i x h=>by simp [lget] at h⟩
   ·have hsp:a.spot=none:=by
     have:=h5 0 (by omega)
     rw [List.getElem?_eq_getElem (by omega),Option.bind_eq_some_iff] at this
     obtain ⟨q,hq,_⟩:=this
     unfold World.cells? at hq
     split at hq
     ·have hg:=mapM_some_get hq 0 0 (by simp [hp.1])
      have hql:=mapM_some_length hq
      simp only [List.length_range] at hql
      rw [List.getElem?_eq_getElem (by omega)] at hg
      have ha:((a.add (0*e.size)).add 0)=a:=by simp [Addr.add]
      rw [ha] at hg
      cases hs:a.spot with
      | none=>rfl
      | some s =>
       simp only [World.cell?,hs] at hg
       split at hg <;> simp at hg
     ·cases hq
    have hadd:∀ i,a.add (i*e.size)=⟨a.block,a.off+i*e.size,none⟩:=fun i=>by
     obtain ⟨b,o,s⟩:=a
     simp only at hsp;subst hsp
     exact yM b o _
    have key:∀ i,i < len→∃ x:e.den,∃ c el fz,w.heap[a.block]? = some (.cells c el fz)∧a.off+i*e.size+e.size≤c.size∧RepC (full w) e x (seg c (a.off+i*e.size) e.size)∧okd e x:=fun i hi=>by
     have:=h5 i hi
     rw [List.getElem?_eq_getElem (by omega),Option.bind_eq_some_iff] at this
     obtain ⟨q,hq,hd⟩:=this
     rw [hadd] at hq
     obtain ⟨c,el,fz,g1,g2,rfl⟩:=qGL hq hp.1 rfl
     obtain ⟨d,hd⟩:=(qxV e hp.2).1 et n _ _ he hd
     exact ⟨d,c,el,fz,g1,g2,hd⟩
    obtain ⟨_,c,el,fz,g1,_,_⟩:=key 0 (by omega)
    have key':∀ i,i < len→∃ x:e.den,a.off+i*e.size+e.size≤c.size∧RepC (full w) e x (seg c (a.off+i*e.size) e.size)∧okd e x:=fun i hi=>by
     obtain ⟨x,c',el',fz',k1,k2,k3⟩:=key i hi
     rw [g1] at k1;cases k1
     exact ⟨x,k2,k3⟩
    obtain ⟨l,l1,l2⟩:=qBn len key'
    have hge:a.off+len*e.size≤c.size:=by
     obtain ⟨x,k2,_⟩:=key' (len - 1) (by omega)
     have:len*e.size=(len - 1)*e.size+e.size:=by
      conv=>lhs;rw [show len=(len - 1)+1 by omega,Nat.add_mul,Nat.one_mul]
     omega
    obtain ⟨b,o,s⟩:=a
    simp only at hsp;subst hsp
    exact ⟨(l:List e.den),RepC.jT.2 ⟨_,cap,by rw [l1],by rw [l1];exact h2,h3, .inr ⟨b,o,c,el,fz,rfl,g1,by rw [l1];exact hge,fun i x hi=>(l2 i x hi).2.1⟩⟩,by show l.length≤_;rw [l1];omega,fun i x hi=>(l2 i x hi).2.2⟩
 | .unit,_=>by
  refine ⟨fun tid fuel cs x hf h => ?_,fun l off fuel cs hf hl _=>⟨(),RepC.qd3.2 (List.length_eq_zero_iff.1 (by rw [List.length_drop,hl];simp [Ty.size])),trivial⟩⟩
  obtain ⟨⟨fs,hu,hfs⟩,hi⟩:=hf
  obtain ⟨xs,n,_,_,hl,_⟩:=DataW.trod_struct hu h
  have hc:P.cellsOf tid=Ty.unit.size:=y0 (t := .unit) ⟨⟨fs,hu,hfs⟩,hi⟩
  exact ⟨(),RepC.qd3.2 (List.length_eq_zero_iff.1 (by rw [hl,hc];rfl)),trivial⟩
 | .pair a b,hp=>by
  simp only [posT,Bool.and_eq_true] at hp
  have second:∀ (l:List Field) (off fuel:Nat) (cs:List Value),(fit P (.pair a b)).2 l off→cs.length=off+(Ty.pair a b).size→(∀ f∈l,∃ x,DataW.trod enc P w base sp held fuel f.type ((cs.drop f.offset).take (P.cellsOf f.type))=some x)→∃ d:(Ty.pair a b).den,RepC (full w) (.pair a b) d (cs.drop off)∧okd (.pair a b) d:=by
   intro l off fuel cs hf hl hx
   obtain ⟨f,r,rfl,h1,h2,h3⟩:=hf
   obtain ⟨x,hx0⟩:=hx f (by simp)
   rw [y0 h2,h1] at hx0
   obtain ⟨da,hda,hoa⟩:=(qxV a hp.1).1 f.type fuel _ _ h2 hx0
   simp only [Ty.size] at hl
   obtain ⟨db,hdb,hob⟩:=(qxV b hp.2).2 r (off+a.size) fuel cs h3 (by omega) fun f' hf'=>hx f' (by simp [hf'])
   refine ⟨(da,db),RepC.jI.2 ⟨_,_, ?_,hda,hdb⟩,hoa,hob⟩
   rw [← List.drop_drop,List.take_append_drop]
  refine ⟨fun tid fuel cs x hf h => ?_,second⟩
  have hc:=y0 hf
  obtain ⟨⟨fs,hu,f,r,e1,e2,e3,e4⟩,hi⟩:=hf
  obtain ⟨xs,n,rfl,_,hl,hxl,hx⟩:=DataW.trod_struct hu h
  have hf2:(fit P (.pair a b)).2 fs.toList 0:=⟨f,r,e1,e2,e3,by simpa using e4⟩
  obtain ⟨d,hd⟩:=second fs.toList 0 n cs hf2 (by rw [hl,hc];omega) fun f' hf'=>by
   obtain ⟨i,hi,rfl⟩:=List.getElem_of_mem hf'
   have hi':i < fs.size:=by simpa using hi
   have:=hx i fs[i] (Array.getElem?_eq_getElem hi')
   rw [List.getElem?_eq_getElem (by omega)] at this
   exact ⟨_,by simpa using this⟩
  exact ⟨d,by simpa using hd⟩
 | .ar n e,hp=>by
  refine ⟨fun tid fuel cs x hf h => ?_,fun l off fuel cs hf=>hf.elim⟩
  have hc:=y0 hf
  obtain ⟨⟨et,hu,he⟩,_⟩:=hf
  obtain ⟨xs,m,rfl,_,hl,hxl,hx⟩:=DataW.trod_array hu h
  rw [y0 he] at hx
  obtain ⟨l,l1,l2⟩:=qBn (p:=fun i (x:e.den)=>RepC (full w) e x ((cs.drop (i*e.size)).take e.size)∧okd e x) n fun i hi=>by
   have:=hx i hi
   rw [List.getElem?_eq_getElem (by omega)] at this
   exact (qxV e hp).1 et m _ _ he this
  exact ⟨(l:List e.den),RepC.quY.2 ⟨l1,by rw [hl,hc];rfl,fun i x h=>(l2 i x h).1⟩,l1,fun i x h=>(l2 i x h).2⟩
theorem qLR {w:World} {base:Nat} {sp:Nat→Bool} {held:Bool} {t:Ty} (hp:posT t=true) {tid:TypeId} (hf:(fit P t).1 tid) {r:Reach} {b0:Nat} {v:Value} {d:DataW H} {ps:List MemPlace} (hval:Value.okWide P w r b0 tid v) (h:DataW.Trod enc P w base sp held tid v d ps) :
  ∃ (x:t.den) (cs:List Value),v=mkV t cs∧RepC (full w) t x cs∧okd t x:=by
 obtain ⟨fuel,h⟩:=h
 obtain ⟨x,hx⟩:=(qxV t hp).1 tid fuel _ _ hf h
 refine ⟨x,_, ?_,hx⟩
 cases t with
 | op k=>cases hp
 | fn k=>cases hp
 | bool=>obtain ⟨b,rfl⟩:=okWide_bool hf.1 hval;rfl
 | int k=>obtain ⟨n,rfl⟩:=okWide_int hf.1 hval;rfl
 | str=>obtain ⟨s,rfl⟩:=okWide_string hf.1 hval;rfl
 | sl e=>obtain ⟨⟨et,hu,_⟩,_⟩:=hf;obtain ⟨a,l,c,rfl⟩:=okWide_slice hu hval;rfl
 | unit=>obtain ⟨⟨fs,hu,_⟩,_⟩:=hf;obtain ⟨cs,rfl,_⟩:=okWide_struct hu hval;simp [mkV,Ty.isAgg,Value.cells]
 | pair a b=>obtain ⟨⟨fs,hu,_⟩,_⟩:=hf;obtain ⟨cs,rfl,_⟩:=okWide_struct hu hval;simp [mkV,Ty.isAgg,Value.cells]
 | ar n e =>
  obtain ⟨⟨et,hu,_⟩,_⟩:=hf
  unfold Value.okWide at hval
  rw [hu] at hval
  obtain ⟨cs,rfl,_⟩:=hval
  simp [mkV,Ty.isAgg,Value.cells]
def qJW (P:Program):List TypeId→List Ty→Prop
 | [],[]=>True
 | i :: is,t :: ts=>((fit P t).1 i∧posT t=true)∧qJW P is ts
 | _,_=>False
def qDn (P:Program):List TypeId→List Ty→Bool
 | [],[]=>true
 | i :: is,t :: ts=>((fitB P t).1 i && posT t) && qDn P is ts
 | _,_=>false
theorem qDm:∀ {is:List TypeId} {ts:List Ty},qDn P is ts=true→qJW P is ts
 | [],[],_=>trivial
 | i :: is,t :: ts,h=>by
  simp only [qDn,Bool.and_eq_true] at h
  exact ⟨⟨(qcG t).1 i h.1.1,h.1.2⟩,qDm h.2⟩
 | [],_ :: _,h=>by cases h
 | _ :: _,[],h=>by cases h
theorem qIM {w:World} {base:Nat} {sp:Nat→Bool} {held:Bool} {r:Reach} {b0:Nat}:∀ {is:List TypeId} {ts:List Ty} {vs:List Value} {ds:List (DataW H)} {ps:List MemPlace},qJW P is ts→(∀ (j:Nat) t v,is[j]? = some t→vs[j]? = some v→Value.okWide P w r b0 t v) →
  DataW.TrodAll enc P w base sp held is vs ds ps→∃ x:denL ts,wR (full w) ts x vs∧okL ts x
 | [],[],[],[],_,_,_,_=>⟨(),rfl,trivial⟩
 | i :: is,t :: ts,v :: vs,d :: ds,ps,hf,hv,h=>by
  obtain ⟨p,q,h1,h2,_⟩:=h
  obtain ⟨x,cs,e1,e2,e3⟩:=qLR hf.1.2 hf.1.1 (hv 0 i v rfl rfl) h1
  obtain ⟨y,hy,hy'⟩:=qIM hf.2 (fun j t v hj hvj=>hv (j+1) t v (by simpa using hj) (by simpa using hvj)) h2
  exact ⟨(x,y),⟨cs,vs,by rw [e1],e2,hy⟩,e3,hy'⟩
 | [],[],[],_ :: _,_,_,_,h=>h.elim
 | [],[],_ :: _,[],_,_,_,h=>h.elim
 | [],[],_ :: _,_ :: _,_,_,_,h=>h.elim
 | _ :: _,_ :: _,[],[],_,_,_,h=>h.elim
 | _ :: _,_ :: _,[],_ :: _,_,_,_,h=>h.elim
 | _ :: _,_ :: _,_ :: _,[],_,_,_,h=>h.elim
 | [],_ :: _,_,_,_,hf,_,_=>hf.elim
 | _ :: _,[],_,_,_,hf,_,_=>hf.elim
theorem qkC {W W':World} {sp':Nat→Bool} (hl:laidOutB P=true):∀ {is:List TypeId} {vs:List Value} {ds:List (DataW H)} {ps:List MemPlace},(is.all fun t=>P.readableRec t && Nat.blt t P.types.size)=true →
  DataW.TrodAll enc P W 0 (fun _=>true) true is vs ds ps→(∀ p∈ps,W.sameAt W' p)→(∀ p∈ps,sp' p.block=true)→DataW.TrodAll enc P W' 0 sp' true is vs ds ps
 | [],[],[],_,_,h,_,_=>h
 | t :: is,v :: vs,d :: ds,ps,hr,h,hs,hsp=>by
  obtain ⟨p,q,h1,h2,rfl⟩:=h
  simp only [List.all_cons,Bool.and_eq_true,Nat.blt_eq] at hr
  exact ⟨p,q,WideElems.Trod_stays hl hr.1.1 hr.1.2 h1 (fun x hx=>hs x (by simp [hx])) (fun x hx=>hsp x (by simp [hx])),qkC hl (by simpa using hr.2) h2 (fun x hx=>hs x (by simp [hx])) (fun x hx=>hsp x (by simp [hx])),rfl⟩
 | [],[],_ :: _,_,_,h,_,_=>h.elim
 | [],_ :: _,[],_,_,h,_,_=>h.elim
 | [],_ :: _,_ :: _,_,_,h,_,_=>h.elim
 | _ :: _,[],[],_,_,h,_,_=>h.elim
 | _ :: _,[],_ :: _,_,_,h,_,_=>h.elim
 | _ :: _,_ :: _,[],_,_,h,_,_=>h.elim
theorem qvG {f:Func} {s:ChangeSpec} {apart fresh handsOn again:Bool} {W W':World} {args:Array Value} {v:Value} {ds gs:List (DataW H)} {before pa pv:List MemPlace}
  (hW:DataW.Whole enc P f.params.toList s.vars apart W args.toList ds gs before)
  (hres:∀ (b:Nat) (sp:Nat→Bool) (hd:Bool),DataW.TrodAll enc P W' b sp hd f.resultTypes.toList (v.resultList f.resultTypes.size) (s.fn H (ds++gs)).results [])
  (hargs:∀ sp:Nat→Bool,(∀ p∈before,sp p.block=true)→DataW.TrodAll enc P W' 0 sp true f.params.toList args.toList (s.fn H (ds++gs)).args pa)
  (hvars:∀ sp:Nat→Bool,(∀ p∈before,sp p.block=true)→DataW.TrodVars enc P W' sp s.vars (s.fn H (ds++gs)).vars pv)
  (hps:before=pa++pv) (hb:Below W.heap.size W W')
  (hok:∀ (j:Nat) (t:TypeId) (r:Value),f.resultTypes[j]? = some t→(v.resultList f.resultTypes.size)[j]? = some r→Value.okWide P W' .any 0 t r) :
  s.post enc P f apart fresh handsOn again W args v W':=by
 have hlt:∀ p∈before,p.block < W.heap.size:=fun p hp=>hW.lt p hp
 have hold:∀ p∈before,(fun b=>decide (b < W.heap.size)) p.block=true:=fun p hp=>by simpa using hlt p hp
 refine ⟨ds,gs,before,[],pa,pv,hW,hres _ _ _,hargs _ hold,hvars _ hold,World.keptBut_mono (fun p hp=>⟨hp, ?_⟩) (hb.frame (·∈before)),fun _ => ?_⟩
 ·rw [hps,List.mem_append] at hp
  exact Or.inr hp
 ·obtain ⟨_,_,_,_,_,hz,hn⟩:=hW
  refine ⟨hok,_,_,([]++pa)++pv,⟨[]++pa,pv,trodAll_append (hargs _ (fun _ _=>rfl)) (hres _ _ _),hvars _ (fun _ _=>rfl),rfl, ?_, ?_⟩, ?_⟩
  ·intro b off hp
   have hin:MemPlace.cell b off∈before:=by rw [hps];simpa using hp
   rw [hb.frozen (hlt _ hin)]
   exact hz b off hin
  ·intro ha
   have:=hn ha
   rw [hps] at this
   simpa using this
  ·intro p hp _
   rw [hps]
   simpa using hp
theorem qHN {F:Nat} {fn:Func} {ts:List Ty} {m:denL ts→Option (denR [.im .bool])} {s:ChangeSpec} (hok:FOK P F ⟨ts,[.im .bool],m⟩) (hfit:qDn P fn.params.toList ts=true) (hl:laidOutB P=true)
  (hread:(fn.params.toList.all fun t=>P.readableRec t && Nat.blt t P.types.size)=true) {bt:TypeId} (hres:fn.resultTypes = #[bt]) (hbt:P.underlying bt=some .bool) (hvars:s.vars=[]) {apart:Bool}
  {W:World} {base:Nat} {args:Array Value} {ds gs:List (DataW H)} {before:List MemPlace} (hfn:ds.length=fn.params.size→(s.fn H (ds++gs)).results=[.lit (.bool true)]∧(s.fn H (ds++gs)).args=ds∧(s.fn H (ds++gs)).vars=[])
  (hval:∀ (j:Nat) t v,fn.params[j]? = some t→args[j]? = some v→Value.okWide P W .any base t v) (hW:DataW.Whole enc P fn.params.toList s.vars apart W args.toList ds gs before)
  (hkeys:yO P (full W)) (htrue:∀ x:denL ts,okL ts x→m x=some (true,())) :
  Calls P F args W fun e W'=>∃ v,e = .returned v∧s.post enc P fn apart true false false W args v W':=by
 have hW':=hW
 obtain ⟨p,q,hA,hV,hpq,hfz,hnd⟩:=hW
 have hlen:ds.length=fn.params.size:=by
  have:∀ (is:List TypeId) (vs:List Value) (ds:List (DataW H)) (ps:List MemPlace),DataW.TrodAll enc P W 0 (fun _=>true) true is vs ds ps→ds.length=is.length:=by
   intro is
   induction is with
   | nil=>intro vs ds ps h;cases vs <;> cases ds <;> first | rfl | exact h.elim
   | cons i is ih =>
    intro vs ds ps h
    cases vs <;> cases ds <;> first | exact h.elim | skip
    obtain ⟨_,_,_,h2,_⟩:=h
    simp [ih _ _ _ h2]
  have:=this _ _ _ _ hA
  simpa using this
 obtain ⟨f1,f2,f3⟩:=hfn hlen
 obtain ⟨x,hx,hox⟩:=qIM (qDm hfit) (fun j t v hj hv=>hval j t v (by simpa using hj) (by simpa using hv)) hA
 have hq:q=[]:=by
  rw [hvars] at hV
  cases gs with
  | nil=>exact hV
  | cons=>exact hV.elim
 subst hq
 have hfull:(full W).Le (view W fun _=>False):=fun b o hb=>zF.2 ⟨fun h=>h,hb⟩
 have hc:=hok.2 W (fun _=>False) x args.toList (true,()) (fun _ h=>h.elim) (hkeys.mono fun b o hb=>zF.2 ⟨fun h=>h,hb⟩) (hx.mono hfull) (htrue x hox)
 rw [Array.toArray_toList] at hc
 refine hc.mono ?_
 rintro e W' ⟨vr,rfl,M',k1,k2,k3,k4,k5,k6,k7,us,k8,rfl⟩
 obtain ⟨cs,us',rfl,r1,r2⟩:=k8
 have hus:us'=[]:=r2
 subst hus
 have hcs:=RepC.xD.1 r1
 subst hcs
 have hb:Below W.heap.size W W':=⟨k1,k2,k3,k4,k5⟩
 refine ⟨.bool true,rfl, ?_⟩
 refine qvG (pa:=p) (pv:=[]) hW' (fun b sp hd => ?_) (fun sp hsp => ?_) (fun sp _ => ?_) hpq hb ?_
 ·rw [hres,f1]
  exact trodAll_cons_mk (p:=[]) (shut_bool hbt true) trodAll_mk0
 ·rw [f2]
  refine qkC hl hread hA (fun y hy=>hb.same (by have:=hW'.lt y (by rw [hpq];simpa using hy);exact this)) fun y hy=>hsp y (by rw [hpq];simpa using hy)
 ·rw [hvars,f3];rfl
 ·exact ok_one hres rfl (okWide_bool_mk hbt true)
end Yp