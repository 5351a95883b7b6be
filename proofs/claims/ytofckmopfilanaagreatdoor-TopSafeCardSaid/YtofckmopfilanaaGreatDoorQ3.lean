/- A part of the proof of the statements of this seat: plain functions, and laws on them. No condition of its own. -/
import Derived.Test.YtofckmopfilanaaGreatDoorQ2
set_option linter.unusedVariables false
set_option linter.unusedSimpArgs false
set_option linter.defProp false
noncomputable section
open Go Yp
variable {i:Bool}{n:Nat}
namespace Yp
open Go
set_option maxRecDepth 100000
set_option maxHeartbeats 2000000
def yH{F:aw->aw}(h:∀s b f,F (cU s b f)=cU (F s) b f)(s:aw):(F s).p.1=s.p.1:=by have:=congrArg (λx:aw=>x.p.1) (h s s.p.1 s.p.2.2.1);rw[aAv]at this;exact this
structure pt(i:Bool)(s x:aw):Prop where
 ok:nG x
 si:∀L,j6 i L s->j6 i L x
 xt:r2 i s x
 idl:x.p.1=true
def vn{s x:aw}(h:cD i s x)(aK:nG x)(ac:x.p.1=true):pt i s x:=⟨aK,h.1,h.2,ac⟩
def pt.trans{s x y:aw}(h:pt i s x)(k:pt i x y):pt i s y:=⟨k.ok,λL ab=>k.si L (h.si L ab),h.xt.trans k.xt,k.idl⟩
def auN{s:aw}(ab:bj n s)(ac:s.p.1=true)(b:V):pt i s (lc s b):=by
 have eF:=Vt ab b;have sz:=Vz ab b;have DG:(gy s b).1.p.1=true/\(gy s b).1.p.2.1=s.p.2.1/\(gy s b).1.e.id=s.e.id:=by
  unfold gy
  repeat(first|exact⟨ac,rfl,rfl⟩|exact⟨(qi s _).1.trans ac,(qi s _).2,rfl⟩|split)
 have hx:r2 i s (gy s b).1:=λh=>⟨by rw[DG.2.1];exact iU.refl _ _,DG.2.2.trans h⟩;unfold lc at eF ⊢;cases ai:(gy s b).2 with
 |none =>rw[ai]at eF;exact⟨⟨_,eF⟩,λL h=>(aiE h ab ac b).1,hx,DG.1⟩
 |some v=>
  rw[ai]at eF;obtain⟨O,aB⟩:=O' ai;have adP:v.2.2.1=[ea v,e1 v]:=by rw[aB];exact N1 O
  have adA:∀k:Nat,du (ao v.2.2.1 k 0):=afB (by rw[aB];exact(I? O).1.1) adP;have aJ:=Vr sz adA;refine⟨⟨_,eF⟩,λL h => ?_,(hx.trans (aBK sz adA)).trans (Iw aJ).2,?_⟩
  .obtain⟨g1,_,cQ⟩:=aiE h ab ac b
   exact(Iw aJ).1 L (aAh g1 sz (cQ v ai) adP)
  exact(yH EE _).trans ((yH (F:=λs=>kp s v) (λs b f=>aoI s b f v) _).trans DG.1)
def aer{i:Bool}:∀(l:List V) {s:aw},nG s->s.p.1=true->pt i s (tw s l)
 |[],s,h,ac=>vn (cD.refl _ _) h ac
 |b::l,s,h,ac=>by
  unfold tw;split
  .exact vn (cD.refl _ _) h ac
  obtain⟨n,h⟩:=h;have O:=auN (i:=i) h ac b;exact O.trans (aer l O.ok O.idl)
def auL{s:aw}(h:nG s)(ac:s.p.1=true)(c:Int)(b:V):pt i s (qb s c b):=by
 unfold qb;split
 .exact vn (cD.refl _ _) h ac
 obtain⟨n,h⟩:=h;have O:nG (q' s c b):=⟨n,Vs h c b⟩;exact(vn (i:=i) (s:=s) (x:=q' s c b) (cD.same rfl rfl rfl) O ac).trans (aer _ O ac)
def aAg{s:aw}(ab:bj n s){a:gq}(bh:¬kT a.2.2.2.2.1):cD i s (qa s a):=by
 unfold qa;split
 .exact Ix ab _ _
 exact vz ab bh
def aBJ{s:aw}(ab:bj n s)(a:gq):r2 i s (qa s a):=by
 unfold qa;split
 .exact(Ix ab _ _).2
 exact ajD ab _
def aAI(a:gq):(kF a).1.2.2.2.2.1=a.2.2.2.2.1\/(kF a).1.2.2.2.2.1=[]:=by
 unfold kF
 repeat(first|exact .inl rfl|exact .inr rfl|split)
def auP{s:aw}(ab:bj n s)(ac:s.p.1=true):pt i s (oB s):=by
 have bw:=VB ab (Od ab.e.askr);have eF:=Et ab;have sr:∀{L},j6 i L s->¬kT (kF s.e.ask).1.2.2.2.2.1:=λh=>by
  rcases aAI s.e.ask with e|e
  .rw[e];exact h.ask
  rw[e];exact yq
 have hm:∀L,j6 i L s->j6 i L (s2 s (kF s.e.ask).1):=λL h=>e8.aju (c:=s.e.c) h (sr h);refine⟨⟨_,eF⟩,λL h => ?_,?_,(yH Pa s).trans ac⟩
 .unfold oB
  split
  .exact(aAg bw (sr h)).1 L (hm L h)
  split
  .exact(ae6 _).1 L (hm L h)
  exact hm L h
 unfold oB;split
 .exact aBJ bw _
 split
 .exact λac=>(ae6 (s2 s (kF s.e.ask).1)).2 ac
 exact λac=>⟨iU.refl _ _,ac⟩
def aes{s:aw}(ab:bj n s)(ac:s.p.1=true):pt i s (ij s):=by
 have key:∀{m:Nat} {x:aw},bj m x->x.p.1=true->pt i x (lI (oB x)):=fun{m x} hx hxi=>
  (auP hx hxi).trans (vn (Iw (Et hx)) ⟨_,Es (Et hx)⟩ ((yH EE _).trans ((yH Pa x).trans hxi)))
 have ai:pt i s (zj s):=vn (cD.same rfl rfl rfl) ⟨n,xa ab⟩ ac;unfold ij;split
 .exact vn (cD.refl _ _) ⟨n,ab⟩ ac
 split
 .split
  .exact ai.trans (vn (afb (xa ab)) ⟨_,Vv (xa ab)⟩ ((yH (F:=λs=>(nJ s).1) (λs b f=>congrArg Prod.fst (VC s b f)) _).trans ac))
  exact ai.trans (key (xa ab) ac)
 exact key ab ac
def auO{s:aw}(ab:bj n s)(ac:s.p.1=true)(c:Int):pt i s (pO s c).1:=by
 refine vn ?_ ⟨_,afW ab c⟩ ((yH (F:=λs=>(pO s c).1) (λs b f=>congrArg Prod.fst (ax2 s b f c)) _).trans ac);unfold pO;split
 .exact cD.refl _ _
 split
 .exact cD.refl _ _
 exact cD.trans (cD.same rfl rfl rfl) (Iw (Vy ab c))
def auM{s:aw}(ab:bj n s)(ac:s.p.1=true)(a:g3):pt i s (mr s a).1:=by
 have eF:=afR ab a;have DG:(mr s a).1.p.1=true:=(yH (F:=λs=>(mr s a).1) (λs b f=>congrArg Prod.fst (aoH s b f a)) _).trans ac;by_cases cp:a.1=6
 .have:(mr s a).1=ij s:=by unfold mr;rw[if_neg J,if_neg J,if_neg J,if_neg J,if_neg J,if_neg J,if_pos cp]
  rw[this];exact aes ab ac
 refine vn ?_ ⟨_,eF⟩ DG;unfold mr;split
 .exact avX ab _
 split
 .exact afb ab
 split
 .exact avN ab
 split
 .exact avR ab
 split
 .exact avU ab _
 split
 .exact avQ ab _
 split
 .exact ae7 _
 split
 .split
  .exact avM _
  exact cD.refl _ _
 split
 .exact cD.same rfl rfl rfl
 exact cD.refl _ _
structure fW(w:bP):Prop where
 ok:∀i,nG (w.at i)
 si:∀i,e8 i (w.dw i) w.p.2.1 (w.e i).c
 got:∀i,(w.e i).got=[]
 idl:w.p.1=true
def NU{α:Type}(f:Bool->α)(i:Bool)(x:α):gJ f i x i=x:=by unfold gJ;rw[if_pos rfl]
def NT{α:Type}(f:Bool->α){j:Bool}(x:α)(h:¬j=i):gJ f i x j=f j:=by unfold gJ;rw[if_neg h]
def fW.aAf{w:bP}(h:fW w)(i:Bool):j6 i (w.dw i) (w.at i):=by unfold j6;rw[show(w.at i).e.got=[] from h.got i,h3];exact h.si i
def fW.Gi{w:bP}(h:fW w)(c:Int):fW (iX w c):=⟨λi=>by obtain⟨n,ak⟩:=h.ok i;exact⟨n,afQ ak.e c,ak.p⟩,h.si,h.got,h.idl⟩
def fW.uQ{w:bP}(h:fW w):fW (uQ w):=(((h.Gi 0).Gi 1).Gi 2).Gi 3
def awv{m:Nat}{e:c8}(h:o5 n e):o5 m { e with bC:=[],got:=[] }:={ h with bC:=e7 _,got:=e7 _,outs:=λx hx=>by cases hx }
def fW.iy{w:bP}(h:fW w){x:aw}(am:pt i (w.at i) x):fW (iy w i x):=by
 have hid:(w.at i).e.id=dg i:=(h.si i).id;have key:fW (mv w i x):=by
  obtain⟨n,ak⟩:=am.ok;refine⟨λj => ?_,λj => ?_,λj => ?_,am.idl⟩
  .by_cases ap:j=i
   .subst ap
    exact⟨n,by show o5 n (gJ w.e j _ j);rw[NU];exact awv ak.e,ak.p⟩
   obtain⟨m,hm⟩:=h.ok j;refine⟨max n m,?_,e0 ak.p (P? _ _)⟩;show o5 _ (gJ w.e i _ j);rw[NT _ _ ap];exact Bg hm.e (P9 _ _)
  .by_cases ap:j=i
   .subst ap
    show e8 j (gJ w.dw j _ j) x.p.2.1 (gJ w.e j _ j).c;rw[NU,NU];exact am.si _ (h.aAf j)
   show e8 j (gJ w.dw i _ j) x.p.2.1 (gJ w.e i _ j).c;rw[NT _ _ ap,NT _ _ ap];have dL:j=!i:=by cases i<;>cases j<;>simp_all
   subst dL;exact(h.si (!i)).gI (am.xt hid).1
  by_cases ap:j=i
  .subst ap;show(gJ w.e j _ j).got=[];rw[NU]
  show(gJ w.e i _ j).got=[];rw[NT _ _ ap];exact h.got j
 unfold Yp.iy;split
 .exact key.uQ
 exact key
def fW.bc{w:bP}(h:fW w)(l:List eM):fW { w with bc:=l }:=⟨h.ok,h.si,h.got,h.idl⟩
def fW.QL{w:bP}(h:fW w)(i:Bool)(c:Int)(b:V):fW (lw w i c b):=h.iy (auL (h.ok i) h.idl c b)
def fW.acj{w:bP}(h:fW w)(n m:Int):fW (lB w n m).1:=by
 unfold lB;split
 .exact h
 dsimp only;split
 .exact(h.bc _).QL _ _ _
 exact(h.bc _).QL _ _ _
def fW.LE:∀(k:Nat) {w:bP},fW w->fW (mX k w)
 |0,w,h=>h
 |k+1,w,h=>by
  unfold mX;split
  .exact h
  exact fW.LE k (h.acj 0 0)
def fW.J0{w:bP}(h:fW w)(i:Bool):fW (nQ w i):=by obtain⟨n,ak⟩:=h.ok i;exact h.iy (aes ak h.idl)
def fW.x_:∀(k:Nat) {w:bP},fW w->fW (oO k w)
 |0,w,h=>h
 |k+1,w,h=>fW.x_ k (((fW.LE _ h).J0 false).J0 true)
def fW.o8{w:bP}(h:fW w)(i:Bool)(c:Int):fW (o8 w i c):=by obtain⟨n,ak⟩:=h.ok i;exact h.iy (auO ak h.idl c)
def fW.step{w:bP}(h:fW w)(a:g3):fW (ho w a).1:=by
 unfold ho;split
 .exact h.acj _ _
 split
 .unfold C9;split;exact h;exact h.bc _
 split
 .unfold CI;split;exact h;exact h.bc _
 split
 .unfold Fb;split;exact h;exact h.bc _
 split
 .unfold DX;split;exact h;exact h.QL _ _ _
 split
 .unfold y'
  repeat(first|exact h|exact(h.o8 _ _).o8 _ _|split)
 split
 .unfold C3;split;exact h;exact h.Gi _
 split
 .split;exact h;exact h.x_ _
 split
 .unfold r3
  split
  .exact h
  obtain⟨n,ak⟩:=h.ok (lq a.2.1);exact h.iy (auM ak h.idl a)
 exact h
def aqs(L:List eg)(E:List Int)(B:V):Nat:=L.countP λg=>decide (g.1=2/\g.2.1=E/\g.2.2.2.1=B)
structure YA(L M:List eg):Prop where
 opn:∀dZ g fc,L=dZ++g::fc->g.1=2->jC dZ me=(true,g.2.1)
 uni:L.Pairwise λg h=>g.1=2->h.1=2->¬(g.2.1=h.2.1/\g.2.2.1=h.2.2.1)
 cJ:∀g∈L,g.1=2->aqs L g.2.1 g.2.2.2.1<=xw M g.2.1 g.2.2.2.1
def fW.ahO{w:bP}(h:fW w)(i:Bool):YA (w.dw i) (w.dw (!i)):=by
 refine⟨(h.si i).nH,(h.si i).uni,λg hg am => ?_⟩;obtain⟨_,_,az⟩:=(h.si i).got g hg am
 let P:eg->Bool:=λx=>decide (x.1=2/\x.2.1=g.2.1/\x.2.2.2.1=g.2.2.2.1)
 have mx:∀x,P x=true↔(x.1=2/\x.2.1=g.2.1/\x.2.2.2.1=g.2.2.2.1):=λx=>decide_eq_true_iff;have hA:(((w.dw i).filter P).map λx=>x.2.2.1).Nodup:=by refine List.pairwise_map.2 (List.Pairwise.imp_of_mem ?_ ((h.si i).uni.filter _));intro a b bh aa ai aC;have O:=(mx a).1 (p0.1 bh).2;have R:=(mx b).1 (p0.1 aa).2;exact ai O.1 R.1 ⟨O.2.1.trans R.2.1.symm,aC⟩
 have:=(h.si (!i)).cJ g.2.1 g.2.2.2.1 az _ hA λq aQ=>by obtain⟨x,hx,rfl⟩:=p8.1 aQ;obtain⟨wV,mz⟩:=p0.1 hx;have af:=(mx x).1 mz;have au:=((h.si i).got x wV af.1).2.1;rw[af.2.1,af.2.2]at au;exact au
 rw[ta,<- List.countP_eq_length_filter]at this;exact e0 (Nat.le_add_right _ _) this
def alg{a b:Int}:aj a b=true↔a=b:=by unfold aj;exact beq_iff_eq
def ahZ{a b:V}:seq a b=true↔a=b:=by unfold seq;exact beq_iff_eq
def Gd{a b:Bool}:c3 a b=true↔a=true/\b=true:=by cases a<;>cases b<;>decide
def lz(k:Int)(E:List Int)(B:V)(g:eg):Bool:=c3 (aj g.1 k) (c3 (mT (λ(p q:Int)=>aj p q) g.2.1 E) (seq g.2.2.2.1 B))
def aaL(l:List eg)(k:Int)(E:List Int)(B:V)(hl:l.length<=1000000000000):J_ (l,k,E,B,())=some (((l.countP (lz k E B):Nat):Int),()):=by
 unfold J_;dsimp only;generalize hg:(λ(Y:Int×Int×Unit)=>(_:Option (aF (Int×Int×Unit) (Int×Unit))))=F;have bS:∀i,i<l.length->F ((((l.take i).countP (lz k E B):Nat):Int),(i:Int),())=some (.nx ((((l.take (i+1)).countP (lz k E B):Nat):Int),((i+1:Nat):Int),())):=by
  intro i ac;have ah:(l.take i).countP (lz k E B)<=i:=e0 List.countP_le_length (by rw[hH];omega);have O:(l.take (i+1)).countP (lz k E B)=(l.take i).countP (lz k E B)+(if lz k E B l[i]then 1 else 0):=by rw[nV ac,List.countP_append,List.countP_singleton]
  have et:aN (i:Int) (len l)=true:=iA ac;have fk:i64 (aE (i:Int) 1)=((i+1:Nat):Int):=fY (by show(i:Int)+1=_;omega) J;generalize(l.take i).countP (lz k E B)=c at ah O;rw[O];subst hg;refine bm (di (by show(i:Int)<(l.length:Int);omega)) (bd et ?_);dsimp only;rw[gx,nth_get ac,fk,et];have aa:(T (aj l[i].1 k) (an true (T (mT (λ(p q:Int)=>aj p q) l[i].2.1 E) (an true (ob (N3 (l[i].2.2.2.1,B,())) λ(a:Bool×Unit)=>some (a.1,()))) (some (false,())))) (some (false,())):Option (Bool×Unit))=some (lz k E B l[i],()):=by
   rw[ayo];unfold lz;cases aj l[i].1 k
   .rfl
   cases mT (λ(p q:Int)=>aj p q) l[i].2.1 E<;>rfl
  refine aS aa ?_;dsimp only;cases lz k E B l[i]
  .rfl
  refine aS (b4 rfl) ?_;rw[show i64 (aE (c:Int) 1)=((c+1:Nat):Int) from fY (by show(c:Int)+1=_;omega) J];rfl
 have aC:F ((((l.take l.length).countP (lz k E B):Nat):Int),(l.length:Int),())=some (.ex 0 ((((l.take l.length).countP (lz k E B):Nat):Int),(l.length:Int),())):=by subst hg;exact bT (cR (by show ¬(l.length:Int)<(l.length:Int);omega))
 have hall:=(lh (f:=F) (λi=>((((l.take i).countP (lz k E B):Nat):Int),(i:Int),())) l.length bS 0 (e7 _)).trans (ec aC);rw[ps]at hall;exact(cW hall).trans rfl
def azl{L:List eg}{i:Nat}(ac:i<L.length):jC (L.take (i+1)) me=(if L[i].1=4 then(true,L[i].2.1) else if L[i].1=5 then(false,(jC (L.take i) me).2) else jC (L.take i) me):=by rw[nV ac,Wo];rfl
def ahP{L M:List eg}(h:YA L M)(R:∀g∈L,g.1=2->g.2.1.length=2)(hl:L.length<=1000000000000)(hm:M.length<=1000000000000):B3 (L,M,())=some (true,()):=by
 unfold B3;dsimp only;generalize hg:(λ(Y:Bool×Bool×Int×List Int×Unit)=>(_:Option (aF (Bool×Bool×Int×List Int×Unit) (Bool×Unit))))=F;have bS:∀i,i<L.length->F ((jC (L.take i) me).1,false,(i:Int),(jC (L.take i) me).2,())=some (.nx ((jC (L.take (i+1)) me).1,false,((i+1:Nat):Int),(jC (L.take (i+1)) me).2,())):=by
  intro i ac;have et:aN (i:Int) (len L)=true:=iA ac;have fk:i64 (aE (i:Int) 1)=((i+1:Nat):Int):=fY (by show(i:Int)+1=_;omega) J;have ai:=azl ac;have jv:L[i]∈L:=kJ ac;have as4:=h.opn (L.take i) L[i] (L.drop (i+1)) (by rw[<- mR ac,Cs]);have Mw:=h.cJ L[i] jv;have og:(L.take (i+1)).countP (lz 2 L[i].2.1 L[i].2.2.2.1)<=M.countP (lz 1 L[i].2.1 L[i].2.2.2.1)\/¬L[i].1=2:=by
   by_cases am:L[i].1=2
   .left
    refine e0 ?_ (e0 (Mw am) ?_)
    .refine e0 (List.Sublist.countP_le (List.take_sublist _ _)) ?_
     refine List.countP_mono_left λg Hx aa => ?_;unfold lz at aa;have hb1:=alg.1 ((Gd.1 aa).1);obtain⟨hb2,hb3⟩:=Gd.1 (Gd.1 aa).2;exact decide_eq_true ⟨hb1,(K3 (by rw[R g Hx hb1,R _ jv am])).1 hb2,ahZ.1 hb3⟩
    refine List.countP_mono_left λg Hx aa => ?_;obtain⟨O,af,au⟩:=of_decide_eq_true aa;unfold lz;rw[O,af,au,K4];exact Gd.2 ⟨cI rfl,Gd.2 ⟨rfl,ahZ.2 rfl⟩⟩
   exact .inr am
  subst hg;refine bm (di (by show(i:Int)<(L.length:Int);omega)) (bd et ?_);dsimp only;rw[gx,nth_get ac,fk];by_cases fl:L[i].1=4
  .rw[ai,if_pos fl]
   exact b4 (cI fl)
  refine a2 (cv fl) ?_;by_cases fZ:L[i].1=5
  .rw[ai,if_neg fl,if_pos fZ]
   exact b4 (cI fZ)
  refine a2 (cv fZ) ?_;rw[ai,if_neg fl,if_neg fZ];by_cases b2:L[i].1=2
  .refine bm (cI b2) ?_
   rw[as4 b2];have bW:(L.take (i+1)).countP (lz 2 L[i].2.1 L[i].2.2.2.1)<=M.countP (lz 1 L[i].2.1 L[i].2.2.2.1):=og.elim id (absurd b2);have MO:sub L 0 ((i+1:Nat):Int)=L.take (i+1):=by unfold sub;rw[iR];rfl
   rw[MO,aaL _ _ _ _ (by rw[hH];omega),aaL _ _ _ _ hm];refine aS (a2 rfl (a2 (by rw[K4];rfl) (bd (vi J J (by show((i+1:Nat):Int)<=(L.length:Int);omega)) (aS rfl (aS rfl (show some (aH _ _,())=some (false,()) by rw[cR];show ¬((M.countP (lz 1 L[i].2.1 L[i].2.2.2.1):Nat):Int)<(((L.take (i+1)).countP (lz 2 L[i].2.1 L[i].2.2.2.1):Nat):Int);omega)))))) (a2 rfl ?_);generalize dC:(λ(s3:Bool×Int×Unit)=>(_:Option (aF (Bool×Int×Unit) (Bool×Unit))))=G;have azE:∀j,j<i->G (false,(j:Int),())=some (.nx (false,((j+1:Nat):Int),())):=by
    intro j ap;have MD:j<L.length:=J;have adq:aN (j:Int) (len L)=true:=iA MD;have kV:i64 (aE (j:Int) 1)=((j+1:Nat):Int):=fY (by show(j:Int)+1=_;omega) J;have aL:=(Yg.1 h.uni) j i MD ac ap;subst dC;refine bm (di (by show(j:Int)<(i:Int);omega)) (bd adq ?_);dsimp only;rw[gx,nth_get MD,kV,adq];refine aS (a:=(false,())) ?_ (bT rfl);by_cases qx:L[j].1=2
    .refine bm (cI qx) (bd rfl ?_)
     by_cases UB:L[j].2.1=L[i].2.1
     .refine bm (by rw[UB];exact K4 _) (bd rfl ?_)
      rw[cv (λaQ=>aL qx b2 ⟨UB,aQ⟩)]
     refine bT ?_;have:=K3 (l:=L[j].2.1) (m:=L[i].2.1) (by rw[R _ (kJ MD) qx,R _ jv b2]);cases aa:mT (λ(p q:Int)=>aj p q) L[j].2.1 L[i].2.1
     .rfl
     exact absurd (this.1 aa) UB
    exact bT (cv qx)
   have aoV:G (false,(i:Int),())=some (.ex 3 (false,(i:Int),())):=by subst dC;exact bT (cR (by show ¬(i:Int)<(i:Int);omega))
   exact(cW ((lh (f:=G) (λj=>(false,(j:Int),())) i azE 0 (e7 _)).trans (ec aoV))).trans rfl
  exact bT (cv b2)
 have aC:F ((jC (L.take L.length) me).1,false,(L.length:Int),(jC (L.take L.length) me).2,())=some (.ex 0 ((jC (L.take L.length) me).1,false,(L.length:Int),(jC (L.take L.length) me).2,())):=by subst hg;exact bT (cR (by show ¬(L.length:Int)<(L.length:Int);omega))
 exact(cW ((lh (f:=F) (λi=>((jC (L.take i) me).1,false,(i:Int),(jC (L.take i) me).2,())) L.length bS 0 (e7 _)).trans (ec aC))).trans rfl
def awb:¬kT []:=by rintro⟨_,h,_⟩;exact absurd h ir
def akd{key:V}(am:key.length<=1000):fW (kj key true) where
 ok i:=(afZ am true).s i
 got _:=rfl
 idl:=rfl
 si i:={
  id:=rfl
  run1:=λh=>absurd h.1 (by show ¬(3:Int)<=0;decide)
  run2:=λ_=>rfl
  que:=.inl rfl
  ask:=awb
  bst:=λh=>by
   rcases h with h|h
   .exact absurd h.1 (by show ¬(2:Int)<=0;decide)
   exact absurd h (by show ¬(0:Int)=1;decide)
  nH:=λdZ g fc h=>by cases dZ<;>cases h
  got:=λg hg=>by cases hg
  uni:=P2
  sent:=λE g q B h=>by obtain⟨⟨k,am⟩,_⟩:=h;cases am
  func:=λE g q B g6 B' h=>by obtain⟨⟨k,am⟩,_⟩:=h;cases am
  cJ:=λE B _ gZ _ ab=>by
   cases gZ with
   |nil =>show 0+nf (l0 i key).c E B<=0;unfold nf;rw[if_neg (λh=>absurd h.1.1 (by show ¬(2:Int)<=0;decide))];exact b1 _
   | cons q gZ=>obtain ⟨g,⟨k,am⟩,_⟩:=ab q (Cv ..);cases am }
def fW.aeF{w:bP}(h:fW w)(i:Bool):∀g∈w.dw i,g.1=2->g.2.1.length=2:=λg hg am=>by obtain⟨_,⟨_,_,_,af⟩,_⟩:=(h.si i).got g hg am;exact af
def TopSafe'(key:V)(l:List g3)(am:key.length=32):Ph (key,l,())=some (true,()):=by
 unfold Ph;refine aS azL ?_;dsimp only;obtain⟨b,hL,aa⟩:=aj9 l 40 J;refine aS (show Jf (l,40,())=_ from hL) ?_;dsimp only;cases b with
 |false=>exact b4 rfl
 |true=>
  obtain⟨O,R,af⟩:=aa rfl;have arQ:cut key (ae 0) (cc (ae (bi 32)) (ae 0))=key:=by unfold cut;show(List.drop 0 key).take 32=key;rw[p5,il J]
  rw[arQ];refine a2 rfl (bd rfl (aS (XU am true) (a2 rfl ?_)));dsimp only;generalize hg:(λ(Y:Bool×Int×d7×Unit)=>(_:Option (aF (Bool×Int×d7×Unit) (Bool×Unit))))=F;have run:∀(r:List g3) (i:Nat) (w:bP) (q:Nat),l.drop i=r->i<=l.length->jF i q w->fW w->q+rL r<=60->∃s,bK F (false,(i:Int),w.t,())=some (.ex 0 s):=by
   intro r;induction r with
   |nil =>intro i w q aJ ac _ _ _;have cm:=congrArg List.length aJ;rw[eU,gN]at cm;refine⟨(false,(i:Int),w.t,()),ec ?_⟩;subst hg;exact bT (cR (by show ¬(i:Int)<(l.length:Int);omega))
   |cons x r ih=>
    intro i w q aJ ac bh bw aQ;have cm:=congrArg List.length aJ;rw[eU,gM]at cm;have bn:i<l.length:=J;have hx:l[i]=x/\l.drop (i+1)=r:=by rw[mR bn]at aJ;exact⟨(p7 aJ).1,(p7 aJ).2⟩
    have ad4:x.2.2.2.2.1.length<=1200:=R x (by rw[<- hx.1];exact kJ bn);have m4:q+nM x+rL r<=60:=by have:rL (x::r)=nM x+rL r:=rfl;omega
    have fk:i64 (aE (i:Int) 1)=((i+1:Nat):Int):=fY (by show(i:Int)+1=_;omega) J;have et:aN (i:Int) (len l)=true:=iA bn;have azr:=Qg (Su bh J J ad4);have YX:=QU bh ad4;have ab:=bw.step x;have hf:=(YX.L5 J J).n?;have g1:=ahP (ab.ahO false) (ab.aeF false) (by have:=hf.dw false;omega) (by have:=hf.dw true;show((ho w x).1.dw true).length<=_;omega);have g2:=ahP (ab.ahO true) (ab.aeF true) (by have:=hf.dw true;omega) (by have:=hf.dw false;show((ho w x).1.dw false).length<=_;omega);have dn:F (false,(i:Int),w.t,())=some (.nx (false,((i+1:Nat):Int),(ho w x).1.t,())):=by subst hg;refine bm (di (by show(i:Int)<(l.length:Int);omega)) (bd et ?_);dsimp only;rw[gx,nth_get bn,hx.1,fk,azr];refine aS rfl (bd rfl (bd rfl (aS (show B3 ((ho w x).1.dw false,(ho w x).1.dw true,())=_ from g1) (aS (a:=(false,())) ?_ (bT rfl)))));exact a2 rfl (bd rfl (bd rfl ((cw (show B3 ((ho w x).1.dw true,(ho w x).1.dw false,())=_ from g2)).trans (dr rfl))))
    obtain⟨s,h⟩:=ih (i+1) (ho w x).1 (q+nM x) hx.2 J YX ab m4;exact⟨s,(ev dn).trans h⟩
  have bs:key.length<=1000:=J;obtain⟨s,h⟩:=run l 0 (kj key true) 0 rfl (e7 _) (Ya bs true) (akd bs) J;exact(cW h).trans (lc_ex'.trans (eV g62))
def ake(x:iu [.ar 32 (.int .u8),.sl ajh])(h:NE [.ar 32 (.int .u8),.sl ajh] x):Ph x=some (true,()):=TopSafe' x.1 x.2.1 h.1.1
end Yp