/- A part of the proof of the statements of this seat: plain functions, and laws on them. No condition of its own. -/
import Derived.Test.YtofckmopfilanaaGreatDoorQ1
import Derived.KernelRfl
set_option linter.unusedVariables false
set_option linter.unusedSimpArgs false
set_option linter.defProp false
noncomputable section
open Go Yp
variable {i:Bool}{a no o:Int}{l q:List V}{c g g6 k m mC n r t':Nat}{α:Type}{b key x:V}
namespace Yp
open Go
set_option maxRecDepth 100000
set_option maxHeartbeats 2000000
def aeN{σ ρ:Type}{f:σ->Option (aF σ ρ)}(l:List α)(mk:Nat->σ)(e:Nat)(r:ρ)(p:α->Prop)
  (ab:∀i (h:i<l.length),p l[i]->f (mk i)=some (.nx (mk (i+1)))) (aa:∀i (h:i<l.length),¬p l[i]->f (mk i)=some (.rt r)) (aC:f (mk l.length)=some (.ex e (mk l.length))) :
  ((∀x∈l,p x)/\bK f (mk 0)=some (.ex e (mk l.length)))\/((¬∀x∈l,p x)/\bK f (mk 0)=some (.rt r)):=by
 by_cases h:∀x∈l,p x
 .exact .inl ⟨h,(lh mk l.length (λi ac=>ab i ac (h _ (k6 ac))) 0 (nV _)).trans (ec aC)⟩
 refine .inr ⟨h,?_⟩;have key:∀(n i:Nat),l.length-i=n->i<=l.length->(∃j,∃(ap:j<l.length),i<=j/\¬p l[j])->bK f (mk i)=some (.rt r):=by
  intro n;induction n with
  |zero=>rintro i ak ac ⟨j,ap,O,_⟩;omega
  |succ n ih=>
   rintro i ak ac ⟨j,ap,O,R⟩;have ss:i<l.length:=J;by_cases hp:p l[i]
   .rw[ev (ab i ss hp)]
    refine ih (i+1) J J ⟨j,ap,?_,R⟩;rcases Nat.lt_or_eq_of_le O with h|rfl
    .exact h
    exact absurd hp R
   exact o2 (aa i ss hp)
 refine key _ 0 rfl (nV _) ?_;refine iQ λak=>h λx hx=>iQ λath => ?_;obtain⟨j,ap,rfl⟩:=pp hx;exact ak ⟨j,ap,nV _,ath⟩
def nn(key:V):V:=let k:=if 64<key.length then BO key else key;k++List.replicate (64-k.length) (u8 0)
def alx(key:V):(nn key).length=64:=by
 unfold nn;by_cases h:64<key.length
 .simp only[if_pos h,dd,p2,OK]
 grind
def aaN(k:V)(h:k.length<=64):d? (bR (ae 64) (u8 0)) 0 (aV (bR (ae 64) (u8 0))) k=k++List.replicate (64-k.length) (u8 0):=by unfold d? bR aV;rw[p2,show ae 64=64 from rfl,F7,p4,il h,lT,Nat.min_eq_right h,List.drop_replicate]
def avj(key:V)(h:key.length<=1000000000):U1 (key,())=some (nn key,()):=by
 refine bd rfl ?_;by_cases am:64<key.length
 .refine bm cS ?_
  rw[aib _ h];refine aS rfl ?_;rw[aaN _ (by rw[OK];omega)];unfold nn;simp only[if_pos am]
 refine a2 cS ?_;dsimp only;rw[aaN _ J];unfold nn;simp only[if_neg am]
def kH(c:UInt8)(l:V):V:=l.map λx=>u8 (fT .u8 (aO x) (aO c))
def X1(c:UInt8)(l:V):(kH c l).length=l.length:=by simp[kH]
def apz{L:List α}{z:α}(hL:L.length=n){i:Nat}(ac:i<n):(L.take i++List.replicate (n-i) z).set i (L[i]'J)=L.take (i+1)++List.replicate (n-(i+1)) z:=by
 have O:(L.take i).length=i:=by rw[io];omega
 rw[List.set_append_right _ _ J,O,YF,show n-i=(n-(i+1))+1 by omega,K1,e0 J,hb];rfl
def ajC{f:Int×V×Unit->Option (aF (Int×V×Unit) Unit)}(c:UInt8)(k:V)(am:k.length=64)
  (hf:f=λ(x:Int×V×Unit)=>T (aH x.1 (len k)) (an (aN x.1 (len k)) (an (aN x.1 (len x.2.1)) (some (aF.nx (i64 (aE x.1 1),cn x.2.1 (ae x.1) (u8 (fT .u8 (aO (ao k (ae x.1) (u8 0))) (aO c))),()))))) (some (aF.ex 0 (x.1,x.2.1,())))) :
  bK f (0,bR (ae 64) (u8 0),())=some (.ex 0 (64,kH c k,())):=by
 have hx:(kH c k).length=64:=by rw[X1,am]
 have step:∀i:Nat,i<64->f ((i:Int),(kH c k).take i++List.replicate (64-i) (u8 0),())=some (.nx (((i+1:Nat):Int),(kH c k).take (i+1)++List.replicate (64-(i+1)) (u8 0),())):=by
  intro i ac;subst hf;have hl:((kH c k).take i++List.replicate (64-i) (u8 0)).length=64:=by rw[dd,io,p2];omega
  have fk:i64 (aE (i:Int) 1)=((i+1:Nat):Int):=fY (by show(i:Int)+1=_;omega) J;refine bm (by simp only[go_sem,Int.reduceToNat];omega) ?_;refine bd (by simp only[go_sem,Int.reduceToNat];omega) ?_;refine bd (by simp only[go_sem,Int.reduceToNat];omega) ?_;dsimp only;rw[fk,show cn ((kH c k).take i++List.replicate (64-i) (u8 0)) (ae (i:Int)) (u8 (fT .u8 (aO (ao k (ae (i:Int)) (u8 0))) (aO c)))=(kH c k).take (i+1)++List.replicate (64-(i+1)) (u8 0) from ?_];rw[<- apz hx ac,gx,nth_get (by omega:i<k.length)];unfold cn;congr 1;simp[kH]
 have gv:f (((64:Nat):Int),(kH c k).take 64++List.replicate (64-64) (u8 0),())=some (.ex 0 (((64:Nat):Int),(kH c k).take 64++List.replicate (64-64) (u8 0),())):=by subst hf;exact bT (by simp only[go_sem,Int.reduceToNat];omega)
 have:=(lh (f:=f) (λi=>((i:Int),(kH c k).take i++List.replicate (64-i) (u8 0),())) 64 step 0 (nV _)).trans (ec gv);rw[il (show(kH c k).length<=64 by omega),YF,List.replicate_zero,nU]at this;exact this
def JY(key b:V):V:=BO (kH (u8 92) (nn key)++BO (kH (u8 54) (nn key)++b))
def aAy(key b:V):(JY key b).length=32:=OK _
def agr(x y:V):BT (oy (oy wY x) y)=BO (x++y):=by rw[axN];rfl
def U2(key b:V)(h:key.length<=1000000)(aa:b.length<=1000000):D? (key,b,())=some (JY key b,()):=by unfold D?;dsimp only;rw[avj _ J];refine bd rfl ?_;have am:=alx key;rw[ajC (u8 92) _ am rfl];refine bd g62 ?_;dsimp only;rw[aia];refine aS rfl ?_;have dZ:=(X1 (u8 92) (nn key)).trans am;have fc:=(X1 (u8 54) (nn key)).trans am;rw[JB yL _ bO J];refine bd rfl ?_;rw[ajC (u8 54) _ am rfl];refine bd g62 ?_;refine aS rfl ?_;dsimp only;rw[JB yL _ bO J];refine aS rfl ?_;have me:(oy wY (kH (u8 54) (nn key))).2.1=0+((kH (u8 54) (nn key)).length:Int):=rfl;have jC:(oy (oy wY (kH (u8 54) (nn key))) b).2.1=0+((kH (u8 54) (nn key)).length:Int)+(b.length:Int):=rfl;have qD:(oy wY (kH (u8 92) (nn key))).2.1=0+((kH (u8 92) (nn key)).length:Int):=rfl;rw[JB (Bu yL _) b J J];refine aS rfl ?_;rw[WE (Bu (Bu yL _) _) J,agr];refine aS rfl ?_;dsimp only;have A2:=OK (kH (u8 54) (nn key)++b);rw[JB (Bu yL _) _ J J];refine aS rfl ?_;have afh:∀y,(oy (oy wY (kH (u8 92) (nn key))) y).2.1=0+((kH (u8 92) (nn key)).length:Int)+(y.length:Int):=λ_=>rfl;rw[WE (Bu (Bu yL _) _) (by grind),agr];rfl
def F_:=@List.flatMap_nil
def fw(p:V):V:=[u8 (fO .i64 (len p) (cL (u64 8))),u8 (len p)]++p
def BZ(l:List V):V:=l.flatMap fw
def sW(label:V)(l:List V):V:=[u8 (len label)]++label++BZ l
def NL(p:V):(fw p).length=p.length+2:=by simp[fw]
def aAM(h:∀p∈l,p.length<=1000):(BZ l).length<=1002*l.length:=by
 induction l with
 |nil=>simp[BZ]
 |cons p r ih =>have O:=h p bp;have R:=ih λq aQ=>h q (by grind);unfold BZ at R ⊢;rw[xS,dd,NL,gL];omega
def aAN{i:Nat}(ac:i<l.length):BZ (l.take (i+1))=BZ (l.take i)++fw l[i]:=by unfold BZ;rw[e0 ac,Qm,xS,F_,nU]
def ai8{label:V}(O:label.length<=255)(R:l.length<=16)(h:∀p∈l,p.length<=1000):(sW label l).length<=20000:=by have:=aAM h;unfold sW;simp only[dd,gL,j4];omega
def LG(key label:V)(l:List V):V:=JY key (sW label l)
def R?(key label:V)(l:List V):(LG key label l).length=32:=aAy _ _
def aeP(key label:V)(l:List V)(am:key.length<=1000000)(O:label.length<=255)(R:l.length<=16)(h:∀p∈l,p.length<=1000):Nf (key,label,l,())=some (LG key label l,0,()):=by
 refine aS (a:=(false,())) (a2 cS (by rw[show aH 16 (len l)=false from cR cS])) ?_;refine bd (by simp only[go_sem];simp;omega) ?_;generalize hf:(λ(Y:Int×V×Int×Unit)=>(_:Option (aF (Int×V×Int×Unit) (V×Int×Unit))))=f;have hT:∀i,(sW label (l.take i)).length<=20000:=λi=>ai8 O (by rw[io];omega) (λp hp=>h p (List.mem_of_mem_take hp));have step:∀i:Nat,i<l.length->f (0,sW label (l.take i),(i:Int),())=some (.nx (0,sW label (l.take (i+1)),((i+1:Nat):Int),())):=by
  intro i ac;subst hf;have fk:i64 (aE (i:Int) 1)=((i+1:Nat):Int):=fY (by show(i:Int)+1=_;omega) J;have hp:=h l[i] (k6 ac);have ht:=hT i;have ak:ao l (ae (i:Int)) (aR UInt8)=l[i]:=by rw[gx,nth_get ac]
  refine bm cS ?_;refine bd cS ?_;rw[ak];refine a2 cS ?_;refine bd (by simp only[go_sem];simp;omega) ?_;refine bd (by simp only[go_sem];simp;omega) ?_;rw[fk,show sW label (l.take (i+1))=sW label (l.take i)++fw l[i] by unfold sW;rw[aAN ac,hb,hb,hb]];unfold fw cg;simp
 have gv:∀u,f (0,u,(l.length:Int),())=some (.ex 0 (0,u,(l.length:Int),())):=by subst hf;intro u;exact bT cS
 have kW:=(lh (f:=f) (λi=>(0,sW label (l.take i),(i:Int),())) l.length step 0 (nV _)).trans (ec (gv _));rw[il (b1 _)]at kW;have aq:sW label (l.take 0)=cg [u8 (len label)] label:=by unfold sW;rw[F7];exact nU _
 rw[aq]at kW;refine(cW (kW)).trans ?_;refine bd g62 ?_;dsimp only;have:=ai8 O R h;rw[U2 _ _ am J];rfl
def DZ(key:V):V:=(JY key (List.replicate 8 (u8 0))).take 3
def auE(key:V):(DZ key).length=3:=by unfold DZ;rw[io];rfl
def aeQ(key:V)(am:key.length<=1000000):Ip (key,())=some (DZ key,()):=by unfold Ip;rw[show bR (ae 8) (u8 0)=List.replicate 8 (u8 0) from rfl,U2 _ _ am bp];rfl
def jV(k b:V):V:=(JY k b).take 16
def BD(k b:V):(jV k b).length=16:=by unfold jV;rw[io];rfl
def V2(k b:V)(am:k.length<=1000000)(aa:b.length<=1000000):EB (k,b,())=some (jV k b,()):=by unfold EB;rw[U2 _ _ am aa];rfl
abbrev kk:=V×V×Unit
def agk(p:eG)(k b:V):I7 (p,k,b,())=some (D ((k,b,())∈p.2.1),()):=by
 unfold I7;congr 2;refine pj ?_;rw[ux];constructor
 .rintro⟨⟨e1,aU,⟨⟩⟩,aC,h⟩
  simp only[c3,seq,cP,beq_iff_eq]at h
  grind
 intro h;exact⟨_,h,by simp[c3,seq]⟩
def hX(p:eG)(k b:V):eG:=if(k,b,())∈p.2.1 then p else(p.1,p.2.1++[(k,b,())],p.2.2)
def WZ(l:List α):sub l 0 (len l)=l:=by unfold sub;rw[show(0:Int).toNat=0 from rfl,nl,show(len l).toNat=l.length from gx,il J]
def RV(l:List α):c3 (b8 0 (len l) (len l)) (aj (len l) (len l))=true:=by rw[cI rfl,g37];simp only[go_sem];omega
def aob(l:List kk):OY (l,())=some (l,()):=by unfold OY;rw[WZ];exact eV (RV l)
def Zj(l:V)(h:l.length<=1000000):Lk (l,())=some (l,()):=by exact eV cS
def axB(p:eG)(k b:V)(hl:p.2.1.length<=1050000000000)(am:k.length<=1000000)(aa:b.length<=1000000):NP (p,k,b,())=some (hX p k b,jV k b,()):=by
 unfold NP;rw[agk];unfold hX;by_cases h:(k,b,())∈p.2.1
 .rw[cF h,if_pos h]
  rw[V2 _ _ am aa];rfl
 rw[cH h,if_neg h];rw[aob];rw[Zj _ am];rw[Zj _ aa];refine bd (by simp only[go_sem];simp;omega) ?_;rw[V2 _ _ am aa];rfl
def axz(p:eG)(k b:V):(hX p k b).2.1.length<=p.2.1.length+1:=by
 unfold hX;split
 .omega
 simp
def xf(p:eG)(k b t:V):eG×Bool×Unit:=
 if jV k b=t then(if(k,b,())∈p.2.1 then(p,true,()) else((p.1,p.2.1,true,()),!p.1,())) else(p,false,())
def avX(p:eG)(hl:p.2.1.length<=1050000000000):Ao (p,p,())=some (true,()):=by
 unfold Ao;have e1:∀b:Bool,z_ b b=true:=λb=>by cases b<;>rfl
 rw[e1,e1,cI rfl];generalize p.2.1=l at hl;generalize hf:(λ(Y:Bool×Int×Unit)=>(_:Option (aF (Bool×Int×Unit) (Bool×Unit))))=f;have step:∀i:Nat,i<l.length->f (false,(i:Int),())=some (.nx (false,((i+1:Nat):Int),())):=by intro i ac;subst hf;simp(disch:=omega) only[go_sem,ayo]
 have gv:f (false,(l.length:Int),())=some (.ex 0 (false,(l.length:Int),())):=by subst hf;exact bT cS
 have kW:=(lh (f:=f) (λi=>(false,(i:Int),())) l.length step 0 (nV _)).trans (ec gv);refine(cW (kW)).trans ?_;rfl
def CQ(n:Int):V:=a_ 256 n7 n.toNat 8
def alm(n:Int):(CQ n).length=8:=l? _ _ _ _
def o9(n:Int):V:=CQ n++(BO ([u8 121,u8 101,u8 116,u8 116]++CQ n)).take 8
def Ja(n:Int):(o9 n).length=16:=by unfold o9;rw[dd,io];rfl
def LX(n:Int):Prop:=1<=n/\n<=4611686018427387904
def alo{n:Int}(h:LX n):((1:Int)<=8/\(8:Int)<=8/\0<=n/\n<256^(8:Int).toNat):=by
 obtain⟨O,R⟩:=h
 grind
def WL(n:Int)(ak:n<=9223372036854775807):JN (n,())=some (if 1<=n/\n<=4611686018427387904 then(o9 n,0,()) else([],1,())):=by
 by_cases h:1<=n/\n<=4611686018427387904
 .rw[if_pos h]
  refine aS (a:=(false,())) (a2 cS (by rw[show aH 4611686018427387904 n=false from cR J])) ?_;refine a2 rfl ?_;rw[Sc _ _ ak,if_pos (alo h)];refine aS rfl ?_;rw[show a_ 256 n7 n.toNat (8:Int).toNat=CQ n from rfl];have:=alm n;rw[show cg [u8 121,u8 101,u8 116,u8 116] (CQ n)=[u8 121,u8 101,u8 116,u8 116]++CQ n from rfl,aib _ (by grind)];rfl
 rw[if_neg h];by_cases O:n<1
 .refine aS (a:=(true,())) (b4 cS) ?_
  rfl
 refine aS (a:=(true,())) (a2 cS (by rw[show aH 4611686018427387904 n=true from di J])) ?_;rfl
def kq(b:V):Int×Bool×Unit:=
 if(jX b 0 8).2.2.1=0/\(1<=(jX b 0 8).1/\(jX b 0 8).1<=4611686018427387904)/\o9 (jX b 0 8).1=b then((jX b 0 8).1,true,()) else(0,false,())
def aAA(b:V):(jX b 0 8).1<=9223372036854775807:=by
 unfold jX;split
 .decide
 split
 .decide
 split
 .decide
 rename_i O R af;have hl:0+8<=b.length:=J;have:=Y1 hl J (λh=>af ⟨rfl,by simpa using h.2⟩) 7 J;have e:(ef b 0 8).take (7+1)=ef b 0 8:=il (by rw[zt hl];omega)
 grind
def air(b:V)(aa:b.length<=1000000):JM (b,())=some (kq b):=by
 unfold JM kq;rw[aa4 _ _ _ aa];have bW:=aAA b;generalize jX b 0 8=t at bW;obtain⟨n,a,e,⟨⟩⟩:=t;by_cases aC:e=0
 .refine a2 cS ?_
  rw[WL _ bW];refine aS rfl ?_;by_cases ak:1<=n/\n<=4611686018427387904
  .rw[if_pos ak]
   rw[Rd];by_cases ai:o9 n=b
   .rw[if_pos ⟨aC,ak,ai⟩,cF ai];rfl
   rw[if_neg (λh=>ai h.2.2),cH ai];rfl
  rw[if_neg ak,if_neg (λh=>ak h.2.1)];rfl
 refine bm cS ?_
 grind
abbrev j7:=V×V×Unit
def dS(s:j7):Int×Int×Bool×Unit:=
 if(kq s.2.1).2.1=true/\((kq s.1).2.1=false\/(kq s.1).1<(kq s.2.1).1) then((kq s.2.1).1,1,true,()) else((kq s.1).1,0,(kq s.1).2.1,())
def aiq(s:j7)(bh:s.1.length<=1000000)(aa:s.2.1.length<=1000000):JL (s,())=some (dS s):=by
 unfold JL dS WM;rw[air _ bh,air _ aa];generalize kq s.1=a;generalize kq s.2.1=b;obtain⟨n,i,⟨⟩⟩:=a;obtain⟨m,j,⟨⟩⟩:=b;by_cases h:n<m
 .cases i<;>cases j<;>(simp(disch:=omega) only[go_sem];try simp[h])
 cases i<;>cases j<;>(simp(disch:=omega) only[go_sem];try simp[h])
def aaF(a b:V)(bh:a.length<=1000000)(aa:b.length<=1000000):E_ ([a,b],())=some (a++b,()):=by
 have:=aaH (c:=1) (z:=u8 0) J [a,b] bp (λx hx=>by
  rcases f'.1 hx with rfl|hx
  .exact bh
  rcases f'.1 hx with rfl|hx
  .exact aa
  cases hx)
 simp at this;exact this
def acp(h:(kq b).2.1=true):(1<=(kq b).1/\(kq b).1<=4611686018427387904)/\o9 (kq b).1=b:=by
 unfold kq at h ⊢
 grind
def QW{s:j7}(h:(dS s).2.2.1=true):1<=(dS s).1/\(dS s).1<=4611686018427387904:=by
 unfold dS at h ⊢;split
 .rename_i ah;exact(acp ah.1).1
 rename_i ah;rw[if_neg ah]at h;exact(acp h).1
def ali(s:j7):(dS s).2.1=0\/(dS s).2.1=1:=by
 unfold dS
 grind
def ot(cut:Int):Int:=if 0<=cut/\cut<16 then cut else 16
def qB(n:Int)(cut:Int)(old:V):V:=(o9 (n+1)).take (ot cut).toNat++old.drop (ot cut).toNat
def lL(s:j7)(cut:Int):j7×Int×Int×Unit:=
 if(dS s).2.2.1=false then(s,0,12,())
 else if(dS s).1=4611686018427387904 then(s,0,10,())
 else
  let cy:j7:=if(dS s).2.1=0 then(s.1,qB (dS s).1 cut s.2.1,()) else(qB (dS s).1 cut s.1,s.2.1,())
  if ot cut<16 then(cy,0,11,()) else(cy,(dS s).1,0,())
def t8(s:j7):Prop:=s.1.length=16/\s.2.1.length=16
def U3(c:Int):0<=ot c/\ot c<=16:=by unfold ot;split<;>omega
def az3(s:j7)(c:Int)(ab:t8 s):O4 (s,c,())=some (lL s c):=by
 obtain⟨A,B,⟨⟩⟩:=s;have dx:A.length=16:=ab.1;have az:B.length=16:=ab.2;unfold O4 lL;rw[aiq (A,B,()) (by show A.length<=1000000;omega) (by show B.length<=1000000;omega)];have O:=QW (s:=(A,B,()));have R:=ali (A,B,());generalize dS (A,B,())=t at O R;obtain⟨n,df,is,⟨⟩⟩:=t;cases is
 .rfl
 have O:=O rfl;refine a2 rfl ?_;have e1:i64 (aE n 1)=n+1:=iJ (by show -9223372036854775808<=n+1;omega) (by show n+1<=9223372036854775807;omega);rw[e1,WL _ J];by_cases ak:n=4611686018427387904
 .rw[if_pos ak,if_neg J];rfl
 rw[if_neg ak,if_pos J];refine a2 rfl ?_;have hm:=U3 c;have ai:=Ja (n+1);obtain⟨m,iI⟩:∃m,m=ot c:=⟨_,rfl⟩;have ht:(T (b3 0 c) (some (aH c 16,())) (some (false,())):Option (Bool×Unit))=some (D (m<16),()):=by
  rw[iI];unfold ot;by_cases aq:0<=c
  .by_cases af:c<16
   .rw[if_pos ⟨aq,af⟩];simp(disch:=omega) only[go_sem]
   rw[if_neg (λh=>af h.2),cH J];simp(disch:=omega) only[go_sem];rw[cH af]
  rw[ cH J];simp(disch:=omega) only[go_sem]
 rw[ht];refine aS rfl ?_;have HM:(T (bg (D (m<16))) (some (16,())) (some (c,())):Option (Int×Unit))=some (m,()):=by
  by_cases h:m<16
  .rw[cF h]
   show some (c,())=_;rw[iI]at h ⊢;unfold ot at h ⊢
   grind
  rw[cH h];show some ((16:Int),())=_
  grind
 rw[HM];have hL:∀old:V,old.length=16->E_ ([cut (o9 (n+1)) (ae 0) (cc (ae m) (ae 0)),sub old m (len old)],())=some (qB n c old,()):=by
  intro old aK;have aU:cut (o9 (n+1)) (ae 0) (cc (ae m) (ae 0))=(o9 (n+1)).take (ot c).toNat:=by rw[iI];rfl
  have d8:sub old m (len old)=old.drop (ot c).toNat:=by unfold sub;rw[iI,il];rw[eU];show _<=(old.length:Int).toNat-_;omega
  rw[aU,d8,aaF _ _ (by rw[io];omega) (by rw[eU];omega)];rfl
 rcases R with rfl|rfl
 .refine bm rfl ?_
  refine bd cS ?_;refine bd cS ?_;rw[hL B az];rw[ <- iI];by_cases h:m<16
  .rw[cF h,if_pos h];rfl
  rw[cH h,if_neg h];rfl
 refine a2 rfl ?_;refine bd cS ?_;refine bd cS ?_;rw[hL A dx];rw[ <- iI];by_cases h:m<16
 .rw[cF h,if_pos h];rfl
 rw[cH h,if_neg h];rfl
def Eh:j7:=(o9 1,List.replicate 16 (u8 0),())
def P0(s:j7):uY (s,s,())=some (true,()):=by unfold uY;simp only[go_sem,ayo]
def dO(p:Int):Prop:=2<=p/\p<=6
def kR(p:Int):Prop:=p=3\/p=4\/p=5
instance (p:Int):Decidable (dO p):=by unfold dO;infer_instance
instance (p:Int):Decidable (kR p):=by unfold kR;infer_instance
def A1(p:Int):Int:=if p=0 then 0 else if p=1 then 1 else if p=2 then 2 else if p=3 then 3 else if p=4 then 4 else if p=5 then 4 else if p=6 then 5 else -1
def agh(p:Int):Bq (p,())=some (A1 p,()):=by
 unfold Bq A1;by_cases aq:p=0
 .subst aq;rfl
 by_cases O:p=1
 .subst O;rfl
 by_cases R:p=2
 .subst R;rfl
 by_cases af:p=3
 .subst af;rfl
 by_cases au:p=4
 .subst au;rfl
 by_cases aY:p=5
 .subst aY;rfl
 by_cases cp:p=6
 .subst cp;rfl
 rw[if_neg aq,if_neg O,if_neg R,if_neg af,if_neg au,if_neg aY,if_neg cp];simp(disch:=omega) only[go_sem]
def auJ(p:Int):2<=A1 p↔dO p:=by
 unfold A1 dO
 repeat' split
 all_goals omega
def auK(p:Int):A1 p=3\/A1 p=4↔kR p:=by
 unfold A1 kR
 all_goals omega
def I5(p:Int):vH (p,())=some (D (dO p),()):=by unfold vH;rw[agh];simp only[go_sem,auJ]
def I4(p:Int):y7 (p,())=some (D (kR p),()):=by unfold y7;simp only[go_sem,agh,auK]
def awv(p:Int):C1 (p,())=some (D (kR p),()):=by unfold C1 kR;simp only[go_sem,Int.reduceToNat];exact pR or_assoc
def Am(c s:Int)(b:V):Prop:=qA c/\1<=s/\s<=999999/\1<=b.length/\b.length<=900
instance (c s:Int) (b:V):Decidable (Am c s b):=by unfold Am;infer_instance
def akR(c:Int):K8 (c,())=some (D (qA c),()):=by
 unfold K8 qA;by_cases O:c=1
 .subst O;simp only[go_sem]
 by_cases R:c=2
 .subst R;simp(disch:=omega) only[go_sem]
 by_cases af:c=101
 .subst af;simp(disch:=omega) only[go_sem]
 by_cases au:c=201
 .subst au;simp(disch:=omega) only[go_sem]
 simp only[go_sem,O,R,af,au]
def akU(c s:Int)(b:V):K' (c,s,b,())=some (D (Am c s b),()):=by
 unfold K' Am;rw[akR];by_cases am:qA c
 .simp only[go_sem,am];exact pR J
 rw[cH (p:=_/\_) (λh=>am h.1)];simp only[go_sem,am]
def kA:gq:=(0,0,0,0,[],())
def nm(c s:Int)(b:V):gq×Int×Unit:=if Am c s b then((c,s,8,3,b,()),0,()) else(kA,1,())
def akQ(c s:Int)(b:V):K7 (c,s,b,())=some (nm c s b):=by
 unfold K7 nm;rw[akU];by_cases h:Am c s b
 .rw[cF h,if_pos h];rfl
 rw[cH h,if_neg h];rfl
def YR(a:gq):Gb (a,())=some (D (a=kA),()):=by
 unfold Gb QO kA;simp only[go_sem,Rd];refine pR ?_
 grind
def rv(a:gq)(c s:Int):Prop:=¬a=kA/\a.1=c/\a.2.1=s
def K9(a:gq)(c s:Int):x3 (a,c,s,())=some (D (rv a c s),()):=by unfold x3 rv;rw[YR];simp only[go_sem]
def BB(a:gq):Prop:=a=kA\/Am a.1 a.2.1 a.2.2.2.2.1/\1<=a.2.2.1/\a.2.2.1<=8/\0<=a.2.2.2.1/\a.2.2.2.1<=3
def P1(a:gq):vn (a,a,())=some (true,()):=by unfold vn;simp only[go_sem,ayo]
def lK(n:Int):Int:=if n<0\/999999<=n then 1 else n+1
def akS(n:Int):K_ (n,())=some (lK n,()):=by
 unfold K_ lK;by_cases h:n<0\/999999<=n
 .rw[if_pos h];simp(disch:=omega) only[go_sem]
 rw[if_neg h];simp(disch:=omega) only[go_sem]
def VW(u:List Bool)(n:Nat):Option Nat:=((List.range 4).map λi=>(n+i)%4).find? λc=>u.getD c false
def ez(h:ej):ej×Int×Int×Unit:=match VW h.1 h.2.2.2.1.toNat with|none=>(h,0,11,())|some c=>((h.1,h.2.1,h.2.2.1,(((c+1)%4:Nat):Int),()),(c:Int),0,())
def ab1{w:List α}(h:w.length=4):∃a b c d,w=[a,b,c,d]:=by
 match w,h with
 |[a,b,c,d],_=>exact⟨a,b,c,d,rfl⟩
def atG(h:ej)(aL:h.1.length=4)(ak:0<=h.2.2.2.1/\h.2.2.2.1<4):Ue (h,())=some (ez h):=by obtain⟨u,f,l,n,⟨⟩⟩:=h;dsimp only at aL ak;obtain⟨a,b,c,d,rfl⟩:=ab1 aL;have:n=0\/n=1\/n=2\/n=3:=J;rcases this with rfl|rfl|rfl|rfl<;>cases a<;>cases b<;>cases c<;>cases d<;>(refine(cW (vq 5 rfl)).trans ?_;kernel_rfl)
def apZ(b:V)(h:1<=b.length/\b.length<=1024):SM (b,())=some (fw b,0,()):=by refine aS (a:=(false,())) (a2 cS (by rw[show aH 1024 (len b)=false from cR cS])) ?_;refine bd (by simp only[go_sem];simp;omega) ?_;rfl
abbrev xK:=Int×V×Unit
def ke:xK:=(0,[],())
def o4:fq:=(ke,ke,ke,0,0,())
def aur(g:xK):(g.1=0/\(g.2.1.length:Int)=0)↔g=ke:=by obtain⟨n,k,⟨⟩⟩:=g;unfold ke;simp
def Wm(g:xK):Jm (g,())=some (D (g=ke),()):=by unfold Jm;simp only[go_sem];exact pR (aur g)
def t2(g:xK):Prop:=1<=g.1/\g.1<=2147483647/\g.2.1.length=32
instance (g:xK):Decidable (t2 g):=by unfold t2;infer_instance
def ayZ(g:xK):Oj (g,())=some (D (t2 g),()):=by unfold Oj t2;simp only[go_sem];exact pR J
def aus(r:fq):(r.1=ke/\r.2.1=ke/\r.2.2.1=ke/\r.2.2.2.1=0/\r.2.2.2.2.1=0)↔r=o4:=by obtain⟨a,b,c,l,t,⟨⟩⟩:=r;unfold o4;simp
def agX(r:fq):Ol ((r,()),())=some (D (r=o4),()):=by
 refine aS rfl ?_;generalize hf:(λ(x:Bool×Int×Unit)=>(_:Option (aF (Bool×Int×Unit) (Bool×Unit))))=f;have key:=aeN (f:=f) [r.1,r.2.1,r.2.2.1] (λi=>(false,(i:Int),())) 0 ((false,()):Bool×Unit) (λg=>g=ke) (λi h hp => ?_) (λi h hp => ?_) ?_
 .rcases key with⟨h,hl⟩|⟨h,hl⟩
  .refine(cW (hl)).trans ?_
   have O:=h r.1 bp;have R:=h r.2.1 bp;have af:=h r.2.2.1 bp;simp only[go_sem];exact pR (Iff.trans ⟨λh=>⟨O,R,af,h.1,h.2⟩,λh=>⟨h.2.2.2.1,h.2.2.2.2⟩⟩ (aus r))
  refine(cW (hl)).trans ?_;rw[cH (λe=>h (by rw[e];intro x hx;simp[o4]at hx;exact hx))];rfl
 .subst hf
  have af:i<3:=h;have fk:i64 (aE (i:Int) 1)=((i+1:Nat):Int):=fY rfl J;refine bm cS ?_;refine bd cS ?_;rw[fk,gx,nth_get h,Wm,cF hp];rfl
 .subst hf
  have af:i<3:=h;refine bm cS ?_;refine bd cS ?_;rw[gx,nth_get h,Wm,cH hp];rfl
 subst hf;rfl
def o3(r:fq):Int×Int×Unit:=if r=o4 then(0,9,()) else if 2147483647<=r.2.2.2.2.1 then(0,10,()) else(r.2.2.2.2.1+1,0,())
def ayW(r:fq)(h:r.2.2.2.2.1<=2147483647)(aq:0<=r.2.2.2.2.1):Oh (r,())=some (o3 r):=by
 unfold Oh o3;rw[agX];by_cases ai:r=o4
 .rw[cF ai,if_pos ai];rfl
 rw[cH ai,if_neg ai];by_cases ht:2147483647<=r.2.2.2.2.1
 .rw[if_pos ht];simp(disch:=omega) only[go_sem]
 rw[if_neg ht];simp(disch:=omega) only[go_sem]
def m8(r:fq)(no:Int)(key:V):fq×Int×Unit:=
 if ¬t2 (no,key,()) then(r,1,()) else if r=o4\/no<=r.1.1\/no<r.2.2.1.1 then(r,9,()) else((r.1,r.2.1,(no,key,()),r.2.2.2.1,max r.2.2.2.2.1 no,()),0,())
def Wl(r:fq)(no:Int)(key:V):ES (r,no,key,())=some (m8 r no key):=by
 unfold ES m8;rw[ayZ];by_cases hg:t2 (no,key,())
 .rw[if_neg (not_not_intro hg),cF hg]
  rw[agX];by_cases ah:r=o4\/no<=r.1.1\/no<r.2.2.1.1
  .rw[if_pos ah]
   simp(disch:=omega) only[go_sem]
  rw[if_neg ah];simp at ah;obtain⟨c1,c2,hN⟩:=ah;simp(disch:=omega) only[go_sem,c1]
 rw[if_pos hg,cH hg];rfl
def Ce(r:fq):fq:=(r.1,r.2.1,ke,r.2.2.2)
theorem aCI(r:fq):Jl (r,())=some (Ce r,()):=rfl
def B6(r:fq):fq×Int×Unit:=if r.2.2.1=ke then(r,9,()) else((r.2.2.1,r.1,ke,16,r.2.2.2.2),0,())
def agW(r:fq):BE (r,())=some (B6 r):=by
 unfold BE B6;rw[Wm];by_cases h:r.2.2.1=ke
 .rw[if_pos h,cF h];rfl
 rw[if_neg h,cH h];rfl
def Eg(k:V):fq×Int×Unit:=if k.length=32 then(((1,k,()),ke,ke,0,1,()),0,()) else(o4,1,())
def ayV(k:V):Og (k,())=some (Eg k):=by
 unfold Og Eg;by_cases h:k.length=32
 .rw[if_pos h];simp(disch:=omega) only[go_sem];rfl
 rw[if_neg h];simp(disch:=omega) only[go_sem];rfl
def mH(r:fq):Prop:=r=o4\/(t2 r.1/\r.2.2.2.2.1<=2147483647/\r.1.1<=r.2.2.2.2.1/\r.2.2.1.1<=r.2.2.2.2.1 /\
 (r.2.1=ke/\r.2.2.2.1=0\/¬r.2.1=ke/\t2 r.2.1/\r.2.1.1<r.1.1/\1<=r.2.2.2.1/\r.2.2.2.1<=16)/\(r.2.2.1=ke\/t2 r.2.2.1/\r.1.1<r.2.2.1.1))
def PZ(r:fq):tE (r,r,())=some (true,()):=by unfold tE o7;simp only[go_sem,ayo]
def ra(r:fq)(no:Int):V×Bool×Unit:=
 if no<1 then([],false,()) else if r.1.1=no then(r.1.2.1,true,()) else if r.2.1.1=no then(r.2.1.2.1,true,()) else if r.2.2.1.1=no then(r.2.2.1.2.1,true,()) else([],false,())
def du(n:Int):Prop:=0<=n/\n<=4611686018427387904
instance (n:Int):Decidable (du n):=by unfold du;infer_instance
def ea(v:c9):Int:=ao v.2.2.1 0 0
def e1(v:c9):Int:=ao v.2.2.1 1 0
def iE(v:c9):Prop:=(v.1=1\/v.1=2)/\du (ea v)/\du (e1 v)/\du v.2.2.2.2.1/\(v.2.1=0\/v.2.1=1)/\(0<=v.2.2.2.1/\v.2.2.2.1<=2147483647)/\1<=v.2.2.2.2.2.1.length/\v.2.2.2.2.2.1.length<=900
def Sq(n ac:Int):Dc (n,ac,())=some (D (0<=n/\n<=ac),()):=by unfold Dc;simp only[go_sem]
def abp(v:c9):GL (v,())=some (D (iE v),()):=by
 obtain⟨k,d,e,g,s,b,t,⟨⟩⟩:=v;unfold GL iE ea e1;by_cases am:k=1\/k=2
 .refine aS (a:=(false,())) (by rcases am with rfl|rfl<;>rfl) ?_
  rw[show ae 0=0 from rfl,show ae 1=1 from rfl];generalize ao e 0 0=x;generalize ao e 1 0=y;generalize hf:(λ(Y:Bool×Int×Unit)=>(_:Option (aF (Bool×Int×Unit) (Bool×Unit))))=f;have key:=aeN (f:=f) [x,y,s] (λi=>(false,(i:Int),())) 0 ((false,()):Bool×Unit) du (λi h hp => ?_) (λi h hp => ?_) ?_
  .rcases key with⟨h,hl⟩|⟨h,hl⟩
   .refine(cW (hl)).trans ?_
    have O:=h x bp;have R:=h y bp;have af:=h s bp;simp only[go_sem,Sq];refine pR ?_
    grind
   refine(cW (hl)).trans ?_;rw[cH (λah=>h λz bs => ?_)]
   .rfl
   grind
  .subst hf
   have af:i<3:=h;have fk:i64 (aE (i:Int) 1)=((i+1:Nat):Int):=fY rfl J;refine bm cS ?_;refine bd cS ?_;rw[fk,gx,nth_get h,Sq,cF (show 0<=[x,y,s][i]/\[x,y,s][i]<=4611686018427387904 from hp)];rfl
  .subst hf
   have af:i<3:=h;refine bm cS ?_;refine bd cS ?_;rw[gx,nth_get h,Sq,cH (show ¬(0<=[x,y,s][i]/\[x,y,s][i]<=4611686018427387904) from hp)];rfl
  subst hf;rfl
 rw[cH (λh=>am h.1)];simp at am;obtain⟨O,R⟩:=am;refine aS (a:=(true,())) (by simp only[go_sem,O,R]) ?_;rfl
def fI(w:Nat)(n:Int):V:=a_ 256 n7 n.toNat w
def mV(w:Nat)(n:Int):(fI w n).length=w:=l? _ _ _ _
def cA(v:c9):V:=fI 1 v.1++fI 1 v.2.1++fI 8 (ea v)++fI 8 (e1 v)++fI 4 v.2.2.2.1++fI 8 v.2.2.2.2.1++v.2.2.2.2.2.1
def yK(v:c9):(cA v).length=30+v.2.2.2.2.2.1.length:=by unfold cA;simp only[dd,mV]
def aln{n:Int}{w:Nat}(O:1<=w)(cx:w<=8)(aq:0<=n)(h:n<256^w)(ak:n<=9223372036854775807):ql (n,(w:Int),())=some (fI w n,0,()):=by rw[Sc _ _ ak,if_pos ⟨J,J,aq,by rw[e7];exact h⟩];rfl
def M?{f:Int×V×Unit->Option (aF (Int×V×Unit) Unit)}(w:Nat)(l:List Int)(dc:V)(O:1<=w)(cx:w<=8)(hl:l.length<=10)(bh:dc.length<=1000)(h:∀n∈l,0<=n/\n<256^w/\n<=9223372036854775807)
  (hf:f=λ(Y:Int×V×Unit)=>T (aH Y.1 (len l)) (an (aN Y.1 (len l)) (ob (ql (ao l (ae Y.1) 0,(w:Int),())) λ(a:V×Int×Unit)=>an (ci 1 (bI (aV Y.2.1) (aV a.1))) (some (aF.nx (i64 (aE Y.1 1),cg Y.2.1 a.1,()))))) (some (aF.ex 0 (Y.1,Y.2.1,())))) :
  bK f (0,dc,())=some (.ex 0 ((l.length:Int),dc++l.flatMap (fI w),())):=by
 have hL:∀i,((l.take i).flatMap (fI w)).length<=8*i:=by intro i;rw[List.length_flatMap];have:((l.take i).map λa=>(fI w a).length)=(l.take i).map λ_=>w:=List.map_congr_left λa _=>mV w a;rw[this,List.map_const',List.sum_replicate_nat,io];have:min i l.length*w<=i*8:=P6 (Nat.min_le_left _ _) cx;omega
 have step:∀i:Nat,i<l.length->f ((i:Int),dc++(l.take i).flatMap (fI w),())=some (.nx (((i+1:Nat):Int),dc++(l.take (i+1)).flatMap (fI w),())):=by intro i ac;subst hf;have fk:i64 (aE (i:Int) 1)=((i+1:Nat):Int):=fY (by show(i:Int)+1=_;omega) J;obtain⟨bL,ca,cq⟩:=h l[i] (k6 ac);have ys:=hL i;refine bm cS ?_;refine bd cS ?_;rw[fk,gx,nth_get ac,aln O cx bL ca cq];refine bd (by simp only[go_sem];simp only[dd,mV];omega) ?_;rw[e0 ac,Qm,xS,F_,nU];unfold cg;simp
 have gv:∀u,f ((l.length:Int),u,())=some (.ex 0 ((l.length:Int),u,())):=by subst hf;intro u;exact bT cS
 have:=(lh (f:=f) (λi=>((i:Int),dc++(l.take i).flatMap (fI w),())) l.length step 0 (nV _)).trans (ec (gv _));rw[il (b1 _),F7,F_,nU]at this;exact this
def So(v:c9)(aB:iE v):yh (v,())=some (cA v,0,()):=by
 unfold yh;rw[abp,cF aB];obtain⟨k,d,e,g,s,b,t,⟨⟩⟩:=v;unfold cA;obtain⟨O,R,af,au,aY,cp,dN,cx⟩:=aB;unfold ea du at R;unfold e1 du at af;unfold du at au;unfold ea e1;dsimp only at *
 rw[show ae 0=0 from rfl,show ae 1=1 from rfl];generalize ao e 0 0=x at R;generalize ao e 1 0=y at af;refine(cW (M? 1 [k,d] [] J J bp bp (λn ak => ?_) rfl)).trans ?_
 .grind
 refine(cW (M? 8 [x,y] _ J J bp (by simp[mV]) (λn ak => ?_) rfl)).trans ?_
 .grind
 refine(cW (M? 4 [g] _ J J bp (by simp[mV]) (λn ak => ?_) rfl)).trans ?_
 .grind
 refine(cW (M? 8 [s] _ J J bp (by simp[mV]) (λn ak => ?_) rfl)).trans ?_
 .grind
 refine bd g62 ?_;refine bd (by simp only[go_sem];simp[mV];omega) ?_;rfl
def o'(v:c9):Prop:=iE v/\v.2.2.2.2.2.2.1.length=16
def jE(v:c9)(t:V):c9:=(v.1,v.2.1,v.2.2.1,v.2.2.2.1,v.2.2.2.2.1,v.2.2.2.2.2.1,t,())
def abo(v:c9):Db (v,())=some (D (o' v),()):=by unfold Db o';rw[abp];simp only[go_sem];exact pR (and_congr_right λ_=>J)
def apb(v:c9)(aB:o' v):LW (v,())=some (cA v++v.2.2.2.2.2.2.1,0,()):=by unfold LW;rw[abo,cF aB];rw[So _ aB.1];have O:=yK v;have R:=aB.2;have af:=aB.1.2.2.2.2.2.2.2;refine bd cS ?_;rfl
abbrev gr:=Int×List UInt64×Unit
abbrev q7:=Int×V×Unit
abbrev eg:=Int×List Int×Int×V×Unit
abbrev pZ:=V×Int×Int×Unit
def eJ:pZ:=([],0,0,())
def L4(f:pZ):Int:=256*aO (ao f.1 0 (u8 0))+aO (ao f.1 1 (u8 0))
def qN(f:pZ):Prop:=¬(f.2.1<0\/65535<f.2.1\/0<f.2.1/\0<f.1.length)/\(f.1.length<2\/1<=L4 f/\L4 f<=1024/\(f.1.length:Int)<L4 f+2)
def zi:qN eJ:=⟨bO,.inl bO⟩
structure c8 where
 id:Int
 key:V
 ph:Int
 store:j7
 power:Int
 own:Int
 oth:Int
 seen:Int
 seq:Int
 win:gr
 ring:fq
 ask:gq
 stan:Int
 day:Int
 queue:List V
 hub:ej
 bC:List q7
 got:List eg
 cJ:List Int
def c8.t(e:c8):p_:=(e.id,e.key,e.ph,e.store,e.power,e.own,e.oth,e.seen,e.seq,e.win,e.ring,e.ask,e.stan,e.day,e.queue,e.hub,e.bC,e.got,e.cJ,())
structure aw where
 e:c8
 p:eG
def aw.t(s:aw):fb:=(s.e.t,s.p,())
def rA:gr:=(0,Cn,())
structure o5(n:Nat)(e:c8):Prop where
 id:e.id=0\/e.id=1
 key:e.key.length<=1000
 ph:0<=e.ph/\e.ph<=8
 store:t8 e.store
 own:du e.own
 oth:du e.oth
 seq:du e.seq
 ring:mH e.ring
 up:e.hub.1.length=4
 next:0<=e.hub.2.2.2.1/\e.hub.2.2.2.1<4
 bC:e.bC.length<=n
 got:e.got.length<=n
 cJ:e.cJ.length=4
 win:e.win.2.1.length=16
 feed:e.hub.2.1.length=4
 life:e.hub.2.2.1.length=4
 queue:e.queue.length<=8
 top:0<=e.win.1/\e.win.1<=4611686018427387905
 fd:∀c,qN (ao e.hub.2.1 c eJ)
 askr:BB e.ask
 outs:∀x∈e.bC,(0<=x.1/\x.1<4)/\x.2.1.length<=948
structure bj(n:Nat)(s:aw):Prop where
 e:o5 n s.e
 p:s.p.2.1.length<=n
def fE(e:c8):List Int:=if e.id=0 then[e.own,e.oth]else if e.id=1 then[e.oth,e.own]else[0,0]
def UM(ac n:Int):A6 (ac,[n],())=some (D (0<=n/\n<=ac),()):=by
 by_cases h:0<=n/\n<=ac
 .rw[cF h]
  refine(cW (ev (y:=(false,1,())) ?_)).trans ((cW (ec (y:=(false,1,())) (k:=0) rfl)).trans rfl);refine bm rfl (bd rfl ?_);rw[show ao [n] (ae 0) 0=n from rfl];simp(disch:=omega) only[go_sem];rfl
 rw[cH h];refine(cW (o2 (r:=(false,())) ?_)).trans rfl;rw[show ao [n] (ae 0) 0=n from rfl];refine aS (a:=(true,())) (by simp only[go_sem];try exact E? J) ?_;rfl
def auX(ac n m:Int):A6 (ac,[n,m],())=some (D ((0<=n/\n<=ac)/\(0<=m/\m<=ac)),()):=by
 by_cases h:0<=n/\n<=ac
 .refine(cW (ev (y:=(false,1,())) ?_)).trans ?_
  .refine bm rfl (bd rfl ?_)
   rw[show ao [n,m] (ae 0) 0=n from rfl];simp(disch:=omega) only[go_sem];rfl
  by_cases bE:0<=m/\m<=ac
  .rw[cF ⟨h,bE⟩]
   refine(cW (ev (y:=(false,2,())) ?_)).trans ((cW (ec (y:=(false,2,())) (k:=0) rfl)).trans rfl);refine bm rfl (bd rfl ?_);rw[show ao [n,m] (ae 1) 0=m from rfl];simp(disch:=omega) only[go_sem];rfl
  rw[cH (λx=>bE x.2)];refine(cW (o2 (r:=(false,())) ?_)).trans rfl;rw[show ao [n,m] (ae 1) 0=m from rfl];refine aS (a:=(true,())) (by simp only[go_sem];try exact E? J) ?_;rfl
 rw[cH (λx=>h x.1)];refine(cW (o2 (r:=(false,())) ?_)).trans rfl;rw[show ao [n,m] (ae 0) 0=n from rfl];refine aS (a:=(true,())) (by simp only[go_sem];try exact E? J) ?_;rfl
def yN(e:c8):ol (e.t,())=some (fE e,()):=by
 unfold ol fE;dsimp only[c8.t];rw[UM];by_cases aq:e.id=0
 .rw[aq,cF J];rfl
 rw[if_neg aq];by_cases O:e.id=1
 .rw[O,cF J];rfl
 rw[if_neg O,cH J];rfl
def agp(e:c8):qi (e.t,())=some (fE e,()):=by
 unfold qi fE;dsimp only[c8.t];by_cases aq:e.id=0
 .rw[aq];rfl
 rw[if_neg aq];by_cases O:e.id=1
 .rw[O];rfl
 rw[if_neg O];simp(disch:=omega) only[go_sem]
def hu(key:V):V:=LG key [98,97,115,101] []
def YZ(key:V):(hu key).length=32:=R? _ _ _
def aev(key:V)(h:key.length<=1000000):A3 (key,())=some (hu key,()):=by unfold A3;rw[aeP _ _ _ h bO bO bO];rfl
def wZ(key:V)(p:List Int)(lA:Int)(g9:V):V:=
 if du (ao p 0 0)/\du (ao p 1 0)/\0<=lA/\lA<=2147483647 then LG key [108,105,110,107] [fI 8 (ao p 0 0),fI 8 (ao p 1 0),fI 4 lA,g9]else[]
def QY{n:Int}{w:Int}(bw:w=8\/w=4)(h:0<=n/\n<256^w.toNat)(ak:n<=9223372036854775807):ql (n,w,())=some (fI w.toNat n,0,()):=by rw[Sc _ _ ak,if_pos ⟨J,J,h.1,h.2⟩];rfl
def auG{a:V}{c g9:V}(bh:a.length=8)(aa:b.length=8)(ah:c.length=4)(ak:g9.length<=1000):∀p∈[a,b,c,g9],p.length<=1000:=by grind
def Ew{n:Int}(h:du n):0<=n/\n<256^(8:Int).toNat:=⟨h.1,by have:=h.2;show n<256^8;omega⟩
def aew(key:V)(p:List Int)(lA:Int)(g9:V)(am:key.length<=1000000)(ak:g9.length<=1000):A4 (key,p,lA,g9,())=some (wZ key p lA g9,()):=by
 unfold A4 wZ;refine bd rfl (bd rfl ?_);rw[show ae 0=0 from rfl,show ae 1=1 from rfl];generalize ao p 0 0=x;generalize ao p 1 0=y;rw[auX];by_cases h:du x/\du y
 .rw[cF (show(0<=x/\x<=4611686018427387904)/\(0<=y/\y<=4611686018427387904) from h)]
  refine aS rfl (a2 rfl ?_);rw[UM];by_cases hg:0<=lA/\lA<=2147483647
  .rw[cF hg,if_pos ⟨h.1,h.2,hg⟩]
   refine aS rfl (a2 rfl (bd rfl ?_));rw[QY (.inl rfl) (Ew h.1) (by have:=h.1.2;omega)];refine aS rfl (bd rfl ?_);rw[QY (.inl rfl) (Ew h.2) (by have:=h.2.2;omega)];refine aS rfl ?_;rw[QY (.inr rfl) ⟨hg.1,by show lA<256^4;omega⟩ J];refine aS rfl ?_;rw[show(8:Int).toNat=8 from rfl,show(4:Int).toNat=4 from rfl,aeP key [108,105,110,107] _ am bp bp (auG (mV _ _) (mV _ _) (mV _ _) ak)];rfl
  rw[cH hg,if_neg (λh=>hg h.2.2)];rfl
 rw[cH (show ¬((0<=x/\x<=4611686018427387904)/\(0<=y/\y<=4611686018427387904)) from h),if_neg (λbE=>h ⟨bE.1,bE.2.1⟩)];rfl
def aCw{p:List Int}{lA:Int}{g9:V}(h:du (ao p 0 0)/\du (ao p 1 0)/\0<=lA/\lA<=2147483647):(wZ key p lA g9).length=32:=by unfold wZ;rw[if_pos h,R?]
def yP(e:c8)(p:Int):c8:={ e with ph:=p,own:=0,oth:=0,seq:=0,win:=rA,ring:=o4,ask:=kA,queue:=[],got:=if dO e.ph then e.got++[(5,fE e,0,[],())]else e.got }
def LB(l:List eg):zm (l,())=some (l,()):=by unfold zm;rw[WZ];exact eV (RV l)
def aoc(l:List q7):OZ (l,())=some (l,()):=by unfold OZ;rw[WZ];exact eV (RV l)
def aex(e:c8)(p:Int)(hg:e.got.length<=1050000000000):A5 (e.t,p,())=some ((yP e p).t,()):=by
 unfold A5 yP;dsimp only[c8.t];rw[I5];by_cases h:dO e.ph
 .rw[cF h,if_pos h]
  rw[LB];rw[show ol ((e.id,e.key,e.ph,e.store,e.power,e.own,e.oth,e.seen,e.seq,e.win,e.ring,e.ask,e.stan,e.day,e.queue,e.hub,e.bC,e.got,e.cJ,()),())=_ from yN e];refine bd (by simp only[go_sem];simp;omega) ?_;rfl
 rw[cH h,if_neg h];rfl
def kN{b:Int}(h:a=b):bg (aj a b)=false:=by rw[cI h];rfl
def mo{b:Int}(h:¬a=b):bg (aj a b)=true:=by rw[cv h];rfl
def agV{r:fq}(h:mH r):0<=r.1.1/\r.1.1<=2147483647/\r.1.2.1.length<=32:=by
 rcases h with rfl|⟨⟨O,R,af⟩,_⟩
 .exact⟨bO,bO,bO⟩
 omega
def kQ(s:aw)(v:c9)(key:V):aw×Int:=
 if(ez s.e.hub).2.2.1=0 then
  (⟨{ s.e with hub:=(ez s.e.hub).1,bC:=s.e.bC++[((ez s.e.hub).2.1,fw (cA v++jV key (cA v)),())] },hX s.p key (cA v)⟩,0)
 else(s,(ez s.e.hub).2.2.1)
def aey{s:aw}(ab:bj n s)(ak:n<=1000000000000)(v:c9)(aB:iE v)(key:V)(am:key.length<=1000000):Ig (s.t,v,key,())=some ((kQ s v key).1.t,(kQ s v key).2,()):=by
 unfold Ig kQ;dsimp only[aw.t,c8.t];have hp:=ab.p;have aK:=ab.e.bC;rw[atG _ ab.e.up ab.e.next];by_cases hh:(ez s.e.hub).2.2.1=0
 .rw[if_pos hh]
  refine a2 (by simp only[go_sem];exact not_not_intro hh) ?_;rw[So _ aB];refine aS rfl ?_;have aa:=aB.2.2.2.2.2.2;have hl:=yK v;dsimp only;rw[axB _ _ _ J am J];refine aS rfl ?_;have ht:=BD key (cA v);rw[apb (v.1,v.2.1,v.2.2.1,v.2.2.2.1,v.2.2.2.2.1,v.2.2.2.2.2.1,jV key (cA v),v.2.2.2.2.2.2.2) ⟨aB,ht⟩];refine aS rfl ?_;rw[show cA (v.1,v.2.1,v.2.2.1,v.2.2.2.1,v.2.2.2.2.1,v.2.2.2.2.2.1,jV key (cA v),v.2.2.2.2.2.2.2)=cA v from rfl,apZ _ (by grind)];rw[aoc];refine bd (by simp only[go_sem];simp;omega) ?_;rfl
 rw[if_neg hh];refine bm (by simp only[go_sem];exact hh) ?_;rfl
def go(e:c8)(body:V):c9:=(2,e.id,fE e,e.ring.1.1,e.seq,body,[],())
def hD(e:c8)(other:Int)(body:V):c9:=(1,e.id,fE { e with oth:=other },0,0,body,[],())
def jM(b:V):Prop:=1<=b.length/\b.length<=900
instance (b:V):Decidable (jM b):=by unfold jM;infer_instance
def VQ{e:c8}(O:du e.own)(R:du e.oth):du (ao (fE e) 0 0)/\du (ao (fE e) 1 0):=by
 unfold fE;split
 .exact⟨O,R⟩
 split
 .exact⟨R,O⟩
 exact⟨bO,bO⟩
def Ju{e:c8}(h:o5 n e){body:V}(aa:jM body):iE (go e body):=by have ai:=agV h.ring;exact⟨.inr rfl,(VQ h.own h.oth).1,(VQ h.own h.oth).2,h.seq,h.id,⟨ai.1,ai.2.1⟩,aa.1,aa.2⟩
def ah3{e:c8}(h:o5 n e)(aK:du o){body:V}(aa:jM body):iE (hD e o body):=by have:=VQ (e:={ e with oth:=o }) h.own aK;exact⟨.inl rfl,this.1,this.2,by show du 0;decide,h.id,⟨by show(0:Int)<=0;decide,by show(0:Int)<=2147483647;decide⟩,aa.1,aa.2⟩
def ee(s:aw)(body:V):aw×Int:=
 if ¬jM body then(s,1) else if ¬dO s.e.ph then(s,7) else if s.e.seq=4611686018427387904 then(s,10)
 else let r:=kQ s (go s.e body) s.e.ring.1.2.1;if r.2=0 then(⟨{ r.1.e with seq:=r.1.e.seq+1 },r.1.p⟩,0) else r
def abh(s:aw)(v:c9)(key:V):(kQ s v key).1.e.seq=s.e.seq:=by unfold kQ;split<;>rfl
def UL(b:V):Ih (b,())=some (D (jM b),()):=by unfold Ih jM;simp only[go_sem];exact pR J
def azz{s:aw}{r:aw×Int}(adN:du r.1.e.seq)(oT:¬r.1.e.seq=4611686018427387904):
 (ob (some (r.1.t,r.2,())) λ(a:fb×Int×Unit)=>
 T (aj a.2.1 0) (some (((a.1.1.1,a.1.1.2.1,a.1.1.2.2.1,a.1.1.2.2.2.1,a.1.1.2.2.2.2.1,a.1.1.2.2.2.2.2.1,a.1.1.2.2.2.2.2.2.1,a.1.1.2.2.2.2.2.2.2.1,i64 (aE a.1.1.2.2.2.2.2.2.2.2.1 1),a.1.1.2.2.2.2.2.2.2.2.2),a.1.2),a.2.1,())) (some (a.1,a.2.1,()))) =
  some ((if r.2=0 then(⟨{ r.1.e with seq:=r.1.e.seq+1 },r.1.p⟩,0) else r:aw×Int).1.t,(if r.2=0 then(⟨{ r.1.e with seq:=r.1.e.seq+1 },r.1.p⟩,0) else r:aw×Int).2,()):=by
 obtain⟨⟨e,p⟩,c⟩:=r;by_cases h:c=0
 .subst h
  rw[if_pos rfl];refine bm rfl ?_;dsimp only[aw.t,c8.t]at adN ⊢;obtain⟨bL,ca⟩:=adN;rw[show i64 (aE e.seq 1)=e.seq+1 from iJ (by show -9223372036854775808<=e.seq+1;omega) (by show e.seq+1<=9223372036854775807;omega)]
 rw[if_neg h];refine a2 (by simp only[go_sem];exact h) ?_;rfl
def yO{s:aw}(ab:bj n s)(ak:n<=1000000000000)(b:V):om (s.t,b,())=some ((ee s b).1.t,(ee s b).2,()):=by
 unfold om ee;rw[UL];by_cases aa:jM b
 .rw[cF aa,if_neg (not_not_intro aa)]
  refine a2 rfl ?_;rw[show s.t.1.2.2.1=s.e.ph from rfl,I5];by_cases hl:dO s.e.ph
  .rw[cF hl,if_neg (not_not_intro hl)]
   refine a2 rfl ?_;by_cases aQ:s.e.seq=4611686018427387904
   .rw[if_pos aQ]
    exact b4 (by simp only[go_sem];exact aQ)
   rw[if_neg aQ];refine a2 (by simp only[go_sem];exact aQ) ?_;rw[show ol (s.t.1,())=_ from yN s.e];refine aS rfl ?_;have aB:=Ju ab.e aa;have am:=(agV ab.e.ring).2.2;have Tz:=aey ab ak _ aB s.e.ring.1.2.1 J;have O:=abh s (go s.e b) s.e.ring.1.2.1;exact F6 (cw Tz) (azz (s:=s) (r:=kQ s (go s.e b) s.e.ring.1.2.1) (by rw[O];exact ab.e.seq) J)
  rw[cH hl,if_pos hl];rfl
 rw[cH aa,if_pos aa];rfl
def mK(s:aw)(other:Int)(body:V):aw×Int:=if du other/\jM body then kQ s (hD s.e other body) (hu s.e.key) else(s,1)
def UK{s:aw}(ab:bj n s)(ak:n<=1000000000000)(o:Int)(b:V):D5 (s.t,o,b,())=some ((mK s o b).1.t,(mK s o b).2,()):=by
 unfold D5 mK;rw[UM];refine aS rfl ?_;by_cases aa:du o/\jM b
 .rw[if_pos aa,cF (show 0<=o/\o<=4611686018427387904 from aa.1)]
  refine aS (a:=(false,())) (a2 rfl (by rw[UL,cF aa.2];rfl)) ?_;have hp:=yN { s.e with oth:=o };refine(cw (hp)).trans ?_;have am:=ab.e.key;rw[show A3 (s.t.1.2.1,())=_ from aev s.e.key J];have Tz:=aey ab ak _ (ah3 ab.e aa.1 aa.2) (hu s.e.key) (by rw[YZ];omega);exact(cw Tz).trans rfl
 rw[if_neg aa];by_cases O:du o
 .rw[cF (show 0<=o/\o<=4611686018427387904 from O)]
  rw[UL,cH (λh=>aa ⟨O,h⟩)];rfl
 rw[cH (show ¬(0<=o/\o<=4611686018427387904) from O)];rfl
def Rb(c:List Int)(i:Nat):List Int:=cn c i (i64 (aE (ao c i 0) 1))
def f?(s:aw)(i:Nat):aw:=⟨{ s.e with cJ:=Rb s.e.cJ i },s.p⟩
def UJ(s:aw):k1 (s.t,13,())=some ((f? s 3).t,()):=by exact(cW (vq 5 rfl)).trans rfl
def F4:=@Nat.le_succ_of_le
def Bg{e:c8}(h:o5 n e)(hm:n<=m):o5 m e:={ h with bC:=hH h.bC hm,got:=hH h.got hm }
def dp{s:aw}(h:bj n s)(hm:n<=m):bj m s:=⟨Bg h.e hm,hH h.p hm⟩
def axm(h:ej):(ez h).1.1=h.1:=by unfold ez;split<;>rfl
def VX(h:ej):(ez h).1.2.1=h.2.1:=by unfold ez;split<;>rfl
def axk(h:ej):(ez h).1.2.2.1=h.2.2.1:=by unfold ez;split<;>rfl
def axl{h:ej}(ak:0<=h.2.2.2.1/\h.2.2.2.1<4):0<=(ez h).1.2.2.2.1/\(ez h).1.2.2.2.1<4:=by
 unfold ez
 grind
def axo(h:ej)(aq:(ez h).2.2.1=0):0<=(ez h).2.1/\(ez h).2.1<4:=by
 unfold ez at aq ⊢;split
 .simp
 rename_i c e;have:=List.mem_of_find?_eq_some e
 grind
def afS{s:aw}(h:bj n s)(v:c9)(aB:v.2.2.2.2.2.1.length<=900)(key:V):bj (n+1) (kQ s v key).1:=by
 unfold kQ;split
 .refine⟨{ h.e with up:=(by rw[<- h.e.up];exact congrArg List.length (axm s.e.hub)),next:=axl h.e.next,feed:=(by rw[<- h.e.feed];exact congrArg List.length (VX s.e.hub)),life:=(by rw[<- h.e.life];exact congrArg List.length (axk s.e.hub)),bC := ?_,got:=F4 h.e.got,fd:=(λc=>by rw[VX];exact h.e.fd c),outs := ?_ },?_⟩
  .have:=h.e.bC
   simp;omega
  .rename_i aq
   intro x hx;rcases hG.1 hx with hx|hx
   .exact h.e.outs x hx
   rw[s_]at hx;subst hx;exact⟨axo _ aq,by show(fw _).length<=948;rw[NL,dd,yK,BD];omega⟩
  have:=axz s.p key (cA v);have:=h.p
  grind
 exact dp h J
def qG{s:aw}(h:bj n s)(b:V):bj (n+1) (ee s b).1:=by
 unfold ee;split
 .exact dp h J
 split
 .exact dp h J
 split
 .exact dp h J
 rename_i O R af;have au:=afS h (go s.e b) (Cp.1 O).2 s.e.ring.1.2.1;have aY:=abh s (go s.e b) s.e.ring.1.2.1;dsimp only;split
 .refine⟨{ au.e with seq := ?_ },au.p⟩
  have:=h.e.seq;show du (_+1);unfold du at *
  omega
 exact au
def NH{s:aw}(h:bj n s)(o:Int)(b:V):bj (n+1) (mK s o b).1:=by
 unfold mK;split
 .rename_i hf;exact afS h _ hf.2.2 _
 exact dp h J
def o6{s:aw}(h:bj n s)(i:Nat):bj n (f? s i):=⟨{ h.e with cJ:=by show(Rb s.e.cJ i).length=4;unfold Rb cn;rw[k7];exact h.e.cJ },h.p⟩
def th(s:aw)(q:de):aw:=⟨{ s.e with stan:=lK s.e.stan,ask:=(nm q.2.1 (lK s.e.stan) (mh (q.1,q.2.1,lK s.e.stan,q.2.2.2)).1).1 },s.p⟩
def jT(s:aw)(q:de):aw:=
 if(mh (q.1,q.2.1,lK s.e.stan,q.2.2.2)).2.1=0/\(nm q.2.1 (lK s.e.stan) (mh (q.1,q.2.1,lK s.e.stan,q.2.2.2)).1).2.1=0 then
  (if q.2.1=1 then(mK (th s q) 0 (mh (q.1,q.2.1,lK s.e.stan,q.2.2.2)).1).1 else(ee (th s q) (mh (q.1,q.2.1,lK s.e.stan,q.2.2.2)).1).1)
 else s
def alc(c s:Int)(b:V):BB (nm c s b).1:=by
 unfold nm;split
 .rename_i h;exact .inr ⟨h,by show(1:Int)<=8;decide,by show(8:Int)<=8;decide,by show(0:Int)<=3;decide,by show(3:Int)<=3;decide⟩
 exact .inl rfl
def IJ{s:aw}(h:bj n s)(q:de):bj n (th s q):=⟨{ h.e with askr:=alc _ _ _ },h.p⟩
def Bk{s:aw}(h:bj n s)(q:de):bj (n+1) (jT s q):=by
 unfold jT;split
 .split
  .exact NH (IJ h q) _ _
  exact qG (IJ h q) _
 exact dp h J
def OT{s:aw}(ab:bj n s)(ak:n<=1000000000000)(q:de):BQ (s.t,q,())=some ((jT s q).t,()):=by
 unfold BQ jT;rw[show s.t.1.2.2.2.2.2.2.2.2.2.2.2.2.1=s.e.stan from rfl,akS];refine aS rfl ?_;rw[Ny];have eF:=IJ ab q;have l6:=UK eF ak 0 (mh (q.1,q.2.1,lK s.e.stan,q.2.2.2)).1;have DN:=yO eF ak (mh (q.1,q.2.1,lK s.e.stan,q.2.2.2)).1;unfold th at l6 DN ⊢;generalize mh (q.1,q.2.1,lK s.e.stan,q.2.2.2)=w at l6 DN ⊢;obtain⟨b,XP,⟨⟩⟩:=w;refine aS rfl ?_;rw[akQ];generalize nm q.2.1 (lK s.e.stan) b=a at l6 DN ⊢;obtain⟨a,QG,⟨⟩⟩:=a;refine aS rfl ?_;by_cases h:XP=0/\QG=0
 .obtain⟨rfl,rfl⟩:=h
  refine aS (a:=(false,())) rfl (a2 rfl ?_);by_cases ah:q.2.1=1
  .rw[if_pos ah]
   refine bm (by simp only[go_sem];exact ah) ?_;exact(cw l6).trans rfl
  rw[if_neg ah];refine a2 (by simp only[go_sem];exact ah) ?_;exact(cw DN).trans rfl
 rw[if_neg h];refine aS (a:=(true,())) ?_ rfl;by_cases O:XP=0
 .have R:¬QG=0:=λR=>h ⟨O,R⟩
  exact a2 (by rw[O];rfl) (by rw[show aj QG 0=false from cv R];rfl)
 exact b4 (by rw[show aj XP 0=false from cv O];rfl)
def iq(c:Int):de:=(true,c,0,0,0,[],[],0,())
def OW{s:aw}(ab:bj n s)(ak:n<=1000000000000)(c:Int):E6 (s.t,c,())=some ((jT s (iq c)).t,()):=by exact(cw (OT ab ak (iq c))).trans rfl
def oR(e:c8)(lA:Int)(g9:V):V:=wZ e.key (fE e) lA g9
def aa2(e:c8)(lA:Int)(g9:V)(am:e.key.length<=1000000)(ak:g9.length<=1000):Bz ((e.t,()),lA,g9,())=some (oR e lA g9,()):=by unfold Bz;rw[yN];refine aS rfl ?_;rw[show A4 (e.t.2.1,(fE e,()).1,lA,g9,())=_ from aew e.key (fE e) lA g9 am ak];rfl
def Jj{r:fq}(h:mH r):mH (Ce r):=by
 rcases h with rfl|⟨O,R,af,au,aY,cp⟩
 .exact .inl rfl
 refine .inr ⟨O,R,af,?_,aY,.inl rfl⟩;have:=O.1;show(0:Int)<=r.2.2.2.2.1;omega
def awu{r:fq}(h:(m8 r no key).2.1=0):t2 (no,key,())/\¬r=o4/\r.1.1<no/\r.2.2.1.1<=no/\(m8 r no key).1=(r.1,r.2.1,(no,key,()),r.2.2.2.1,max r.2.2.2.2.1 no,()):=by
 unfold m8 at h ⊢
 grind
def awt{r:fq}(h:¬(m8 r no key).2.1=0):(m8 r no key).1=r:=by
 unfold m8 at h ⊢
 grind
def BC{r:fq}(h:mH r)(no:Int)(key:V):mH (m8 r no key).1:=by
 by_cases aq:(m8 r no key).2.1=0
 .obtain⟨g,ak,ah,hp,e⟩:=awu aq
  rw[e];rcases h with h|⟨O,R,af,au,aY,cp⟩
  .grind
  refine .inr ⟨O,?_,?_,?_,aY,.inr ⟨g,ah⟩⟩
  .have:=g.2.1
   grind
  .grind
  grind
 rw[awt aq];exact h
def Of{r:fq}(h:mH r):mH (B6 r).1:=by
 unfold B6;by_cases hp:r.2.2.1=ke
 .grind
 rw[if_neg hp];rcases h with rfl|⟨O,R,af,au,aY,cp⟩
 .exact absurd rfl hp
 have dN:=cp.resolve_left hp;refine .inr ⟨dN.1,R,au,?_,.inr ⟨?_,O,dN.2,by show(1:Int)<=16;decide,by show(16:Int)<=16;decide⟩,.inl rfl⟩
 .have:=O.1
  show(0:Int)<=r.2.2.2.2.1;omega
 intro e;have:=O.1;rw[e]at this;exact absurd this bO
def ayT{r:fq}(h:mH r):0<=r.2.2.2.2.1/\r.2.2.2.2.1<=2147483647:=by
 rcases h with rfl|⟨O,R,af,au,aY,cp⟩
 .exact⟨bO,bO⟩
 have:=O.1;omega
def UE(lA:Int)(g9 k:V):de:=(true,101,0,0,lA,g9,DZ k,0,())
def sD(s:aw)(g9:V):aw×Int:=
 if ¬g9.length=8 then(s,1) else if ¬kR s.e.ph then(s,7) else if ¬s.e.ph=3\/¬s.e.ask.1=0\/0<s.e.ring.2.2.1.1 then(s,9)
 else if ¬(o3 s.e.ring).2.1=0 then(s,(o3 s.e.ring).2.1)
 else(jT ⟨{ s.e with ph:=4,ring:=(m8 s.e.ring (o3 s.e.ring).1 (oR s.e (o3 s.e.ring).1 g9)).1 },s.p⟩ (UE (o3 s.e.ring).1 g9 (oR s.e (o3 s.e.ring).1 g9)),0)
def Vu{s:aw}(h:bj n s)(g:Int)(k:V):bj n ⟨{ s.e with ph:=4,ring:=(m8 s.e.ring g k).1 },s.p⟩:=⟨{ h.e with ph:=⟨by show(0:Int)<=4;decide,by show(4:Int)<=8;decide⟩,ring:=BC h.e.ring g k },h.p⟩
theorem aCD:rH (3,6,())=some (4,true,()):=rfl
def aa1(e:c8)(g:Int)(g9:V):(oR e g g9).length<=32:=by
 unfold oR wZ;split
 .rw[R?];omega
 simp
def ayE{s:aw}(ab:bj n s)(ak:n<=1000000000000)(g9:V):Oa (s.t,g9,())=some ((sD s g9).1.t,(sD s g9).2,()):=by
 unfold Oa sD;by_cases O:g9.length=8
 .rw[if_neg (not_not_intro O)]
  refine a2 cS ?_;rw[show s.t.1.2.2.1=s.e.ph from rfl,I4];refine aS rfl ?_;by_cases R:kR s.e.ph
  .rw[cF R,if_neg (not_not_intro R)]
   rw[show s.t.1.2.2.2.2.2.2.2.2.2.2.2.1.1=s.e.ask.1 from rfl,show s.t.1.2.2.2.2.2.2.2.2.2.2.1=s.e.ring from rfl];by_cases af:¬s.e.ph=3\/¬s.e.ask.1=0\/0<s.e.ring.2.2.1.1
   .rw[if_pos af]
    refine aS (a:=(true,())) ?_ rfl;simp only[go_sem];exact E? (or_assoc.2 af)
   rw[if_neg af];simp only[not_or,Cp]at af;obtain⟨cN,cX,a3⟩:=af;refine aS (a:=(false,())) (by simp only[go_sem,cN,cX];exact WQ a3) (a2 rfl ?_);have ht:=ayT ab.e.ring;rw[ayW _ ht.2 ht.1];by_cases au:(o3 s.e.ring).2.1=0
   .rw[if_neg (not_not_intro au)]
    refine a2 (by simp only[go_sem];exact not_not_intro au) ?_;generalize(o3 s.e.ring).1=g;refine(dr (o:=zd _) rfl).trans ?_;have am:=ab.e.key;rw[show Bz ((s.t.1,()),g,g9,())=_ from aa2 s.e g g9 J J];refine aS rfl ?_;dsimp only;rw[Wl];rw[cN];rw[aeQ _ (by have:=aa1 s.e g g9;omega)];exact(cw (OT (Vu ab g (oR s.e g g9)) ak (UE g g9 (oR s.e g g9)))).trans rfl
   rw[if_pos au];exact b4 (by simp only[go_sem];exact au)
  rw[cH R,if_pos R];rfl
 rw[if_pos O];exact b4 cS
def y3(e:c8):c8:={ e with ph:=3,ask:=kA }
theorem aCF:rH (4,8,())=some (3,true,()):=rfl
def rd(s:aw):aw:=if s.e.ph=4 then⟨{ s.e with ph:=3,ask:=kA,ring:=Ce s.e.ring },s.p⟩ else s
def Wf{s:aw}(h:s.e.ph=4):BA (s.t,())=some ((⟨y3 s.e,s.p⟩:aw).t,()):=by unfold BA;rw[show(s.t,()).1.1.2.2.1=4 from h];rfl
def agL(s:aw):Jh (s.t,())=some ((rd s).t,()):=by
 unfold Jh rd;by_cases h:s.e.ph=4
 .rw[if_pos h]
  refine a2 (by show bg (aj s.e.ph 4)=false;rw[h];rfl) ?_;rw[Wf h];rfl
 rw[if_neg h];exact b4 (by show bg (aj s.e.ph 4)=true;simp only[go_sem];exact h)
def kC(n:de)(res:Int):V:=(mh (F' n res).1).1
def F?{s:aw}(ab:bj m s)(hm:m<=1000000000000)(n:de)(res:Int):
  (ob (rB (n,res,())) λ(a:de×Int×Unit)=>ob (qE (a.1,())) λ(b:V×Int×Unit)=>ob (om (s.t,b.1,())) λ(c:fb×Int×Unit)=>(some (c.1,()):Option (fb×Unit)))=some ((ee s (kC n res)).1.t,()):=by
 rw[Vd];refine aS rfl ?_;rw[Ny];exact(cw (yO ab hm (kC n res))).trans rfl
def ai9(e:c8)(r:fq):c8:={ e with ring:=r }
def J7(e:c8)(r:fq):c8:={ e with ph:=3,ask:=kA,ring:=r }
def sH(s:aw)(n:de):aw:=
 if s.e.ph=4/\s.e.id=0 then f? s 3
 else if ¬DZ (oR s.e n.2.2.2.2.1 n.2.2.2.2.2.1)=n.2.2.2.2.2.2.1 then(ee s (kC n 63)).1
 else if n.2.2.2.2.1=s.e.ring.1.1 then(ee s (kC n 0)).1
 else if s.e.ph=4 then
  (if(m8 (Ce s.e.ring) n.2.2.2.2.1 (oR s.e n.2.2.2.2.1 n.2.2.2.2.2.1)).2.1=0 then(ee ⟨J7 s.e (m8 (Ce s.e.ring) n.2.2.2.2.1 (oR s.e n.2.2.2.2.1 n.2.2.2.2.2.1)).1,s.p⟩ (kC n 0)).1 else f? s 3)
 else(if(m8 s.e.ring n.2.2.2.2.1 (oR s.e n.2.2.2.2.1 n.2.2.2.2.2.1)).2.1=0 then(ee ⟨ai9 s.e (m8 s.e.ring n.2.2.2.2.1 (oR s.e n.2.2.2.2.1 n.2.2.2.2.2.1)).1,s.p⟩ (kC n 0)).1 else f? s 3)
def VA{s:aw}(h:bj m s){r:fq}(ai:mH r):bj m ⟨ai9 s.e r,s.p⟩:=⟨{ h.e with ring:=ai },h.p⟩
def Bl{s:aw}(h:bj m s){r:fq}(ai:mH r):bj m ⟨J7 s.e r,s.p⟩:=⟨{ h.e with ring:=ai,askr:=.inl rfl,ph:=⟨by show(0:Int)<=3;decide,by show(3:Int)<=8;decide⟩ },h.p⟩
def uT(s:aw):(ob (k1 (s.t,13,())) λ(a:fb×Unit)=>(some (a.1,()):Option (fb×Unit)))=some ((f? s 3).t,()):=(cw (UJ s)).trans rfl
def ayF{s:aw}(ab:bj m s)(hm:m<=1000000000000)(n:de)(ak:n.2.2.2.2.2.1.length<=1000):Ob (s.t,n,())=some ((sH s n).t,()):=by
 unfold Ob sH;refine(dr (o:=zd _) rfl).trans ?_;have am:=ab.e.key;rw[show Bz ((s.t.1,()),n.2.2.2.2.1,n.2.2.2.2.2.1,())=_ from aa2 s.e _ _ J ak];refine(dr rfl).trans ?_;have hl:=aa1 s.e n.2.2.2.2.1 n.2.2.2.2.2.1;generalize oR s.e n.2.2.2.2.1 n.2.2.2.2.2.1=k at hl;refine(dr (o:=xk _) rfl).trans ?_;dsimp only;rw[show s.t.1.2.2.1=s.e.ph from rfl,show s.t.1.1=s.e.id from rfl];by_cases O:s.e.ph=4/\s.e.id=0
 .rw[ O.1,O.2]
  exact uT s
 rw[if_neg O];refine(dr (a:=(false,())) ?_).trans ((bT rfl).trans ?_)
 .by_cases au:s.e.ph=4
  .have aq:¬s.e.id=0:=λaq=>O ⟨au,aq⟩
   rw[cI au,cv aq];rfl
  rw[cv au];rfl
 rw[aeQ _ J];refine(dr rfl).trans ?_;rw[Ng _ _ (by rw[auE];omega)];by_cases R:DZ k=n.2.2.2.2.2.2.1
 .rw[if_neg (not_not_intro R),WA R]
  by_cases af:n.2.2.2.2.1=s.e.ring.1.1
  .rw[if_pos af]
   refine(b4 (cI af)).trans ?_;exact F? ab hm n 0
  rw[if_neg af];refine(bT (cv af)).trans ?_;by_cases au:s.e.ph=4
  .rw[if_pos au]
   refine(b4 (cI au)).trans ?_;refine(dr rfl).trans ?_;rw[Wl];by_cases aY:(m8 (Ce s.e.ring) n.2.2.2.2.1 k).2.1=0
   .rw[if_pos aY]
    refine(bT (kN aY)).trans ?_;refine(b4 (cI au)).trans ?_;rw[Wf au];exact F? (Bl ab (BC (Jj ab.e.ring) n.2.2.2.2.1 k)) hm n 0
   rw[if_neg aY];refine(b4 (mo aY)).trans ?_;exact uT s
  rw[if_neg au];refine(bT (cv au)).trans ?_;rw[Wl];by_cases aY:(m8 s.e.ring n.2.2.2.2.1 k).2.1=0
  .rw[if_pos aY]
   refine(bT (kN aY)).trans ?_;refine(bT (cv au)).trans ?_;exact F? (VA ab (BC ab.e.ring n.2.2.2.2.1 k)) hm n 0
  rw[if_neg aY];refine(b4 (mo aY)).trans ?_;exact uT s
 rw[if_pos R,OG R];exact F? ab hm n 63
instance (a:gq) (c s:Int):Decidable (rv a c s):=by unfold rv;infer_instance
def tg(s:aw)(n:de):aw:=
 if ¬s.e.ph=4\/¬rv s.e.ask n.2.1 n.2.2.1 then f? s 3
 else if ¬n.2.2.2.1=0 then rd s
 else jT ⟨J7 s.e (B6 s.e.ring).1,s.p⟩ (iq 301)
def ayD{s:aw}(ab:bj m s)(hm:m<=1000000000000)(n:de):N? (s.t,n,())=some ((tg s n).t,()):=by
 unfold N? tg;refine(dr (o:=zd _) rfl).trans ?_;refine(dr (o:=xk _) rfl).trans ?_;rw[show s.t.1.2.2.1=s.e.ph from rfl,show s.t.1.2.2.2.2.2.2.2.2.2.2.2.1=s.e.ask from rfl,K9];by_cases au:s.e.ph=4
 .by_cases aY:rv s.e.ask n.2.1 n.2.2.1
  .rw[if_neg (λh=>h.elim (λh=>h au) (λh=>h aY)),cF aY,cI au]
   by_cases cp:n.2.2.2.1=0
   .rw[if_neg (not_not_intro cp)]
    refine(bT (kN cp)).trans ?_;rw[Wf au];refine(dr rfl).trans ?_;rw[show(BE ((({ e:=y3 s.e,p:=s.p }:aw).t,()).1.1.2.2.2.2.2.2.2.2.2.2.1,()):Option (fq×Int×Unit))=_ from agW s.e.ring];exact(cw (OT (Bl ab (Of ab.e.ring)) hm (iq 301))).trans rfl
   rw[if_pos cp];refine(b4 (mo cp)).trans ?_;exact(cw (agL s)).trans rfl
  rw[if_pos (.inr aY),cH aY,cI au];exact uT s
 rw[if_pos (.inl au),cv au];exact uT s
theorem avZ(x:UInt64):cL x=(x.toNat:Int):=rfl
def axx(h:k<=63):2^k<=9223372036854775808:=by have:=zP (show 0<2 by omega) h;omega
def jJ(w:gr)(p:Nat):Bool:=(ao w.2.1 (p/64) (u64 0)).toNat/2^(p%64)%2==1
def Ph(a b:pZ):s3 (a,b,())=some (D (a=b),()):=by obtain⟨x,y,z,⟨⟩⟩:=a;obtain⟨xE,aBM,z',⟨⟩⟩:=b;unfold s3;simp only[go_sem,ayo];simp
def NT(h:ej)(O:h.1.length=4)(R:h.2.1.length=4)(af:h.2.2.1.length=4):tc (h,h,())=some (true,()):=by
 unfold tc;generalize hf:(λ(Y:Bool×Int×Unit)=>(_:Option (aF (Bool×Int×Unit) (Bool×Unit))))=f;have step:∀i:Nat,i<4->f (false,(i:Int),())=some (.nx (false,((i+1:Nat):Int),())):=by intro i ac;subst hf;simp(disch:=omega) only[go_sem,Ph]
 have gv:f (false,((4:Nat):Int),())=some (.ex 0 (false,((4:Nat):Int),())):=by subst hf;exact bT rfl
 have kW:=(lh (f:=f) (λi=>(false,(i:Int),())) 4 step 0 (nV _)).trans (ec gv);refine(cW (kW)).trans ?_;simp only[go_sem]
def alh(a:Int):aj a a=true:=cI rfl
def xt(a:V):seq a a=true:=WA rfl
def QX(q:List V)(aQ:q.length<=1050000000000):si (q,q,())=some (true,()):=by
 unfold si;rw[alh];generalize hf:(λ(Y:Bool×Int×Unit)=>(_:Option (aF (Bool×Int×Unit) (Bool×Unit))))=f;have step:∀i:Nat,i<q.length->f (false,(i:Int),())=some (.nx (false,((i+1:Nat):Int),())):=by intro i ac;subst hf;have fk:i64 (aE (i:Int) 1)=((i+1:Nat):Int):=fY rfl J;refine bm cS (bd cS (bd cS ?_));rw[fk,xt];rfl
 have gv:f (false,(q.length:Int),())=some (.ex 0 (false,(q.length:Int),())):=by subst hf;exact bT cS
 have kW:=(lh (f:=f) (λi=>(false,(i:Int),())) q.length step 0 (nV _)).trans (ec gv);exact(cW (kW)).trans (eV g62)
def VK(q:List q7)(aQ:q.length<=1050000000000):xn (q,q,())=some (true,()):=by
 unfold xn;rw[alh];generalize hf:(λ(Y:Bool×Int×Unit)=>(_:Option (aF (Bool×Int×Unit) (Bool×Unit))))=f;have step:∀i:Nat,i<q.length->f (false,(i:Int),())=some (.nx (false,((i+1:Nat):Int),())):=by intro i ac;subst hf;have fk:i64 (aE (i:Int) 1)=((i+1:Nat):Int):=fY rfl J;have ah:aN (i:Int) (len q)=true:=cS;refine bm cS (bd ah (bd ah ?_));rw[fk,alh,ah];rw[ayo,xt];rfl
 have gv:f (false,(q.length:Int),())=some (.ex 0 (false,(q.length:Int),())):=by subst hf;exact bT cS
 have kW:=(lh (f:=f) (λi=>(false,(i:Int),())) q.length step 0 (nV _)).trans (ec gv);exact(cW (kW)).trans (eV g62)
def CC(q:List eg)(aQ:q.length<=1050000000000):pt (q,q,())=some (true,()):=by
 unfold pt;rw[alh];generalize hf:(λ(Y:Bool×Int×Unit)=>(_:Option (aF (Bool×Int×Unit) (Bool×Unit))))=f;have step:∀i:Nat,i<q.length->f (false,(i:Int),())=some (.nx (false,((i+1:Nat):Int),())):=by intro i ac;subst hf;have fk:i64 (aE (i:Int) 1)=((i+1:Nat):Int):=fY rfl J;have ah:aN (i:Int) (len q)=true:=cS;refine bm cS (bd ah (bd ah ?_));rw[fk,ah];rw[alh,alh,alh,alh,ayo,xt];rfl
 have gv:f (false,(q.length:Int),())=some (.ex 0 (false,(q.length:Int),())):=by subst hf;exact bT cS
 have kW:=(lh (f:=f) (λi=>(false,(i:Int),())) q.length step 0 (nV _)).trans (ec gv);exact(cW (kW)).trans (eV g62)
def A?: ∀l:List UInt64,mT (λ(p q:UInt64)=>aj (cL p) (cL q)) l l=true
 |[]=>rfl
 |a::l=>by have ih:=A? l;unfold mT at ih ⊢;rw[Qp,FN,ih,Bool.and_true];exact alh _
def K4:∀l:List Int,mT (λ(p q:Int)=>aj p q) l l=true
 |[]=>rfl
 |a::l=>by have ih:=K4 l;unfold mT at ih ⊢;rw[Qp,FN,ih,Bool.and_true];exact alh _
def Uw{e:c8}(h:o5 n e)(ak:n<=1050000000000):vz (e.t,e.t,())=some (true,()):=by unfold vz;rw[P0];rw[PZ];rw[P1];have aQ:=h.queue;have aK:=h.bC;have hg:=h.got;rw[show e.t.2.2.2.2.2.2.2.2.2.2.2.2.2.2.1=e.queue from rfl,QX e.queue J];rw[show e.t.2.2.2.2.2.2.2.2.2.2.2.2.2.2.2.1=e.hub from rfl,NT e.hub h.up h.feed h.life];rw[show e.t.2.2.2.2.2.2.2.2.2.2.2.2.2.2.2.2.1=e.bC from rfl,VK e.bC J];rw[show e.t.2.2.2.2.2.2.2.2.2.2.2.2.2.2.2.2.2.1=e.got from rfl,CC e.got J];rw[ayo,xt,A?,K4];simp only[alh];rfl
def Fh{A B C:V}{a w:Nat}(dx:A.length=a)(az:B.length=w):ef (A++(B++C)) a w=B:=by
 unfold ef
 grind
def aiS{A W:Nat}{n:Int}(acX:1<=W)(hW:W<=8)(hl:A+W<=b.length)(aq:0<=n)(ak:n<256^W)(hL:n<=4611686018427387904)(ht:ef b A W=fI W n):jX b (A:Int) (W:Int)=(n,((A+W:Nat):Int),0,()):=by
 have aB:mU (ef b A W)=n.toNat:=by
  rw[ht];unfold fI;rw[Y4,s?]
  grind
 unfold jX;rw[if_neg J,if_neg J,if_neg]
 .grind
 rintro⟨cx,Du⟩;have aq7:W=8:=J;subst aq7;rw[e7]at Du;have hg:ao b A (u8 0)=(fI 8 n)[0]'(by rw[mV];omega):=by
  have O:0<(ef b A 8).length:=by rw[zt hl];omega
  have R:(ef b A 8)[0]=b[A]:=ai2 O J;rw[nth_get J]
  grind
 rw[hg]at Du;unfold fI at Du;rw[NQ]at Du;unfold n7 at Du;rw[ UInt8.toNat_ofNat_of_lt' (by grind)]at Du;omega
def fG(b:V)(a w:Int):Int:=if(jX b a w).2.2.1=0 then(jX b a w).1 else -1
def sF:c9:=(0,0,[0,0],0,0,[],[],())
def rK(b:V):c9:=(fG b 0 1,fG b 1 1,[fG b 2 8,fG b 10 8],fG b 18 4,fG b 22 8,(b.drop 30).take (b.length-46),b.drop (b.length-16),())
instance (v:c9):Decidable (iE v):=by unfold iE;infer_instance
instance (v:c9):Decidable (o' v):=by unfold o';infer_instance
def d4(b:V):c9×Int×Unit:=if b.length<47 then(sF,3,()) else if 946<b.length then(sF,4,()) else if o' (rK b) then(rK b,0,()) else(sF,2,())
def Fg{A W:Nat}{n:Int}(acX:1<=W)(hW:W<=8)(hl:A+W<=b.length)(aq:0<=n)(ak:n<256^W)(hL:n<=4611686018427387904)(ht:ef b A W=fI W n):fG b (A:Int) (W:Int)=n:=by unfold fG;rw[aiS acX hW hl aq ak hL ht,if_pos rfl]
def agI{v:c9}{t:V}(aB:iE v)(aC:v.2.2.1=[ea v,e1 v])(ht:t.length=16):d4 (cA v++t)=(jE v t,0,()):=by
 have cm:(cA v++t).length=46+v.2.2.2.2.2.1.length:=by rw[dd,yK,ht];omega
 have jc:=aB.2.2.2.2.2.2;obtain⟨O,R,af,au,aY,cp,dN,cx⟩:=aB;have dZ:=mV 1 v.1;have fc:=mV 1 v.2.1;have oj:=mV 8 (ea v);have A2:=mV 8 (e1 v);have Ie:=mV 4 v.2.2.2.1;have D4:=mV 8 v.2.2.2.2.1;have jC:=R.2;have qD:=af.2;have afh:=au.2;obtain⟨rest,hrest⟩:∃rest,rest=v.2.2.2.2.2.1++t:=⟨_,rfl⟩;have bQ:cA v++t=fI 1 v.1++(fI 1 v.2.1++(fI 8 (ea v)++(fI 8 (e1 v)++(fI 4 v.2.2.2.1++(fI 8 v.2.2.2.2.1++rest))))):=by unfold cA;rw[hrest];simp only[hb]
 have eA:ef (cA v++t) 0 1=fI 1 v.1:=by rw[bQ];exact Fh (A:=[]) rfl dZ
 have e?:ef (cA v++t) 1 1=fI 1 v.2.1:=by rw[bQ];exact Fh dZ fc
 have t3:ef (cA v++t) 2 8=fI 8 (ea v):=by rw[bQ,<- hb];exact Fh (by rw[dd,dZ,fc]) oj
 have t4:ef (cA v++t) 10 8=fI 8 (e1 v):=by rw[bQ,<- hb,<- hb];exact Fh (by simp only[dd,dZ,fc,oj]) A2
 have t5:ef (cA v++t) 18 4=fI 4 v.2.2.2.1:=by rw[bQ,<- hb,<- hb,<- hb];exact Fh (by simp only[dd,dZ,fc,oj,A2]) Ie
 have JT:ef (cA v++t) 22 8=fI 8 v.2.2.2.2.1:=by rw[bQ,<- hb,<- hb,<- hb,<- hb];exact Fh (by simp only[dd,dZ,fc,oj,A2,Ie]) D4
 have bs:rK (cA v++t)=jE v t:=by
  unfold rK jE;have bL:fG (cA v++t) 0 1=v.1:=Fg (A:=0) (W:=1) J J J J J J eA;have ca:fG (cA v++t) 1 1=v.2.1:=Fg (A:=1) (W:=1) J J J J J J e?;have cq:fG (cA v++t) 2 8=ea v:=Fg (A:=2) (W:=8) J J J R.1 J jC t3;have dv:fG (cA v++t) 10 8=e1 v:=Fg (A:=10) (W:=8) J J J af.1 J qD t4;have e':fG (cA v++t) 18 4=v.2.2.2.1:=Fg (A:=18) (W:=4) J J J cp.1 J J t5;have ma:fG (cA v++t) 22 8=v.2.2.2.2.1:=Fg (A:=22) (W:=8) J J J au.1 J afh JT;have og:(fI 1 v.1++fI 1 v.2.1++fI 8 (ea v)++fI 8 (e1 v)++fI 4 v.2.2.2.1++fI 8 v.2.2.2.2.1).length=30:=by simp only[dd,dZ,fc,oj,A2,Ie,D4]
  have qJ:((cA v++t).drop 30).take ((cA v++t).length-46)=v.2.2.2.2.2.1:=by rw[cm];unfold cA;rw[hb,<- og,Qq,FO,Ct]
  have kB:(cA v++t).drop ((cA v++t).length-16)=t:=by rw[cm,show 46+v.2.2.2.2.2.1.length-16=(cA v).length by rw[yK];omega,Qq]
  rw[bL,ca,cq,dv,e',ma,qJ,kB,<- aC]
 unfold d4;rw[if_neg J,if_neg J,bs,if_pos];exact⟨⟨O,R,af,au,aY,cp,dN,cx⟩,ht⟩
def VR(e:c8):fE e=[ao (fE e) 0 0,ao (fE e) 1 0]:=by
 unfold fE;split
 .rfl
 split<;>rfl
def auy{i:Int}(h:i=0\/i=1):i64 (bq 1 i)=1-i:=iJ (by show -9223372036854775808<=1-i;omega) (by show 1-i<=9223372036854775807;omega)
def qq(r:c8)(g:Int):fq:=if r.ring.2.2.1.1=g/\¬r.ph=4 then(B6 r.ring).1 else r.ring
def jw(s:aw)(p:Int):aw:=⟨yP s.e p,s.p⟩
def E7{s:aw}(ab:bj n s)(ak:n<=1000000000000)(p:Int):ud (s.t,p,())=some ((jw s p).t,()):=by unfold ud;have hg:=ab.e.got;rw[show A5 (s.t.1,p,())=_ from aex s.e p J];rfl
def Na(e:c8)(p:Int):(yP e p).got.length<=e.got.length+1:=by
 show(if dO e.ph then e.got++[(5,fE e,0,[],())]else e.got).length<=_
 grind
def y1{s:aw}(h:bj n s){p:Int}(aq:0<=p)(cx:p<=8):bj (n+1) (jw s p):=by refine⟨{ Bg h.e (xP n) with ph:=⟨aq,cx⟩,own:=by show du 0;decide,oth:=by show du 0;decide,seq:=by show du 0;decide,ring:=.inl rfl,got := ?_,win:=rfl,queue:=by show([]:List V).length<=8;simp,top:=⟨by show(0:Int)<=0;decide,by show(0:Int)<=4611686018427387905;decide⟩,askr:=.inl rfl },F4 h.p⟩;have O:=Na s.e p;have R:=h.e.got;exact hH O J
def dY:ej:=([false,false,false,false],[eJ,eJ,eJ,eJ],[0,0,0,0],0,())
def aou(e:c8):c8:=⟨e.id,e.key,8,e.store, -1,0,0,0,0,rA,o4,kA,0,0,[],dY,[],(yP e 8).got,[0,0,0,0]⟩
def q9(s:aw):aw:=if s.e.ph=8 then s else⟨aou s.e,s.p⟩
def aie{s:aw}(ab:bj n s)(ak:n<=1000000000000):E5 (s.t,())=some ((q9 s).t,()):=by
 unfold E5 q9;have hg:=ab.e.got;by_cases h:s.e.ph=8
 .rw[if_pos h];exact b4 (cI h)
 rw[if_neg h];refine a2 (cv h) ?_;rw[show A5 (s.t.1,8,())=_ from aex s.e 8 J];rfl
def adR(c:Nat):qN (ao dY.2.1 c eJ):=by
 match c with
 |0=>exact zi
 |1=>exact zi
 |2=>exact zi
 |3=>exact zi
 |c+4=>exact zi
def afP{s:aw}(h:bj n s):bj (n+1) (q9 s):=by
 unfold q9;split
 .exact dp h (xP n)
 have O:=Na s.e 8;have R:=h.e.got;exact⟨{
  id:=h.e.id
  key:=h.e.key
  ph:=⟨by show(0:Int)<=8;omega,by show(8:Int)<=8;omega⟩
  store:=h.e.store
  own:=by show du 0;decide
  oth:=by show du 0;decide
  seq:=by show du 0;decide
  ring:=.inl rfl
  up:=rfl
  next:=⟨by show(0:Int)<=0;omega,by show(0:Int)<4;omega⟩
  bC:=nV _
  got:=hH O J
  cJ:=rfl
  win:=rfl
  feed:=rfl
  life:=rfl
  queue:=by show([]:List V).length<=8;simp
  top:=⟨by show(0:Int)<=0;decide,by show(0:Int)<=4611686018427387905;decide⟩
  fd:=adR
  askr:=.inl rfl
  outs:=λx hx=>by cases hx },F4 h.p⟩
def BR(s:aw)(t:j7):aw:=⟨{ s.e with store:=t },s.p⟩
def pS(s:aw)(t:j7):aw:=⟨{ s.e with store:=t,power := -1 },s.p⟩
def Xm(s:j7)(c:Int):lL s c=(s,0,12,())\/lL s c=(s,0,10,())\/(∃t,lL s c=(t,0,11,())/\(t8 s->t8 t))\/∃t,lL s c=(t,(dS s).1,0,())/\(t8 s->t8 t):=by
 have key:t8 s->t8 (if(dS s).2.1=0 then(s.1,qB (dS s).1 c s.2.1,()) else(qB (dS s).1 c s.1,s.2.1,())):=by
  intro h;have hl:∀o:V,o.length=16->(qB (dS s).1 c o).length=16:=by intro o aK;have hm:=U3 c;unfold qB;rw[dd,io,eU,Ja,aK];omega
  split
  .exact⟨h.1,hl _ h.2⟩
  exact⟨hl _ h.1,h.2⟩
 unfold lL;split
 .exact .inl rfl
 split
 .exact .inr (.inl rfl)
 dsimp only;split
 .exact .inr (.inr (.inl ⟨_,rfl,key⟩))
 exact .inr (.inr (.inr ⟨_,rfl,key⟩))
def eQ(s:aw):aw×Int×Int:=
 if(lL s.e.store s.e.power).2.2.1=0 then(pS s (lL s.e.store s.e.power).1,(lL s.e.store s.e.power).2.1,0)
 else if(lL s.e.store s.e.power).2.2.1=11 then(q9 (BR s (lL s.e.store s.e.power).1),0,11)
 else(s,0,(lL s.e.store s.e.power).2.2.1)
def afX{s:aw}(h:bj n s){t:j7}(ht:t8 t):bj n (BR s t):=⟨{ h.e with store:=ht },h.p⟩
def awR{s:aw}(h:bj n s){t:j7}(ht:t8 t):bj n (pS s t):=⟨{ h.e with store:=ht },h.p⟩
def Bi{s:aw}(h:bj n s):bj (n+1) (eQ s).1:=by
 unfold eQ;rcases Xm s.e.store s.e.power with e|e|⟨t,e,ht⟩|⟨t,e,ht⟩
 .rw[e];exact dp h (xP n)
 .rw[e];exact dp h (xP n)
 .rw[e];exact afP (afX h (ht h.e.store))
 rw[e];exact dp (awR h (ht h.e.store)) (xP n)
def aig{s:aw}(ab:bj n s)(ak:n<=1000000000000):JE (s.t,())=some ((eQ s).1.t,(eQ s).2.1,(eQ s).2.2,()):=by
 unfold JE eQ;rw[show s.t.1.2.2.2.1=s.e.store from rfl,show s.t.1.2.2.2.2.1=s.e.power from rfl,az3 _ _ ab.e.store];rcases Xm s.e.store s.e.power with e|e|⟨t,e,ht⟩|⟨t,e,ht⟩
 .rw[e];rfl
 .rw[e];rfl
 .rw[e]
  refine aS rfl (a2 rfl (bm rfl ?_));rw[show E5 (((s.t.1.1,s.t.1.2.1,s.t.1.2.2.1,t,s.t.1.2.2.2.2),s.t.2),())=_ from aie (afX ab (ht ab.e.store)) ak];rfl
 rw[e];rfl
def rG(s:aw)(n:Int):aw:=⟨{ s.e with own:=n },s.p⟩
def nJ(s:aw):aw×Int:=
 if s.e.ph=7\/s.e.ph=8 then(s,11)
 else if ¬(eQ s).2.2=0 then((eQ s).1,(eQ s).2.2)
 else(jT (rG (jw (eQ s).1 1) (eQ s).2.1) (iq 1),0)
def apd{s:aw}(aq:(eQ s).2.2=0):(dS s.e.store).2.2.1=true/\(eQ s).2.1=(dS s.e.store).1:=by
 unfold eQ at aq ⊢;unfold lL at aq ⊢
 grind
def awP{s:aw}(h:bj n s){k:Int}(am:du k):bj n (rG s k):=⟨{ h.e with own:=am },h.p⟩
def LY{s:aw}(aq:(eQ s).2.2=0):du (eQ s).2.1:=by obtain⟨O,R⟩:=apd aq;have af:=QW O;rw[R];unfold du;omega
def Vw{s:aw}(ab:bj n s)(aq:(eQ s).2.2=0):bj (n+2) (rG (jw (eQ s).1 1) (eQ s).2.1):=awP (y1 (Bi ab) J J) (LY aq)
def Vv{s:aw}(ab:bj n s):bj (n+3) (nJ s).1:=by
 unfold nJ;split
 .exact dp ab J
 split
 .exact dp (Bi ab) J
 rename_i O R;exact Bk (Vw ab (Cp.1 R)) _
def aif{s:aw}(ab:bj n s)(ak:n<=999999000000):JD (s.t,())=some ((nJ s).1.t,(nJ s).2,()):=by
 unfold JD nJ;rw[show s.t.1.2.2.1=s.e.ph from rfl];by_cases O:s.e.ph=7\/s.e.ph=8
 .rw[if_pos O]
  rcases O with h|h<;>rw[h]<;>rfl
 rw[if_neg O];simp at O;refine aS (a:=(false,())) ?_ (a2 rfl ?_)
 .rw[cv O.1,cv O.2];rfl
 rw[aig ab J];by_cases R:(eQ s).2.2=0
 .rw[if_neg (not_not_intro R)]
  refine a2 (kN R) ?_;rw[E7 (Bi ab) J];exact(cw (OW (Vw ab R) J 1)).trans rfl
 rw[if_pos R];exact b4 (mo R)
def VT{s:aw}(h:bj n s):s.e.ph=0\/s.e.ph=1\/s.e.ph=2\/s.e.ph=3\/s.e.ph=4\/s.e.ph=5\/s.e.ph=6\/s.e.ph=7\/s.e.ph=8:=by have:=h.e.ph;omega
def C0(s:aw):aw:=⟨{ s.e with ph:=6,ring:=Ce s.e.ring,queue:=[] },s.p⟩
def Vq{s:aw}(h:bj n s):bj n (C0 s):=⟨{ h.e with ph:=⟨by show(0:Int)<=6;omega,by show(6:Int)<=8;omega⟩,ring:=Jj h.e.ring,queue:=by show([]:List V).length<=8;simp },h.p⟩
def r8(s:aw):aw×Int:=
 if s.e.ph=0\/s.e.ph=7\/s.e.ph=8 then(s,7) else if s.e.ph=6 then(s,9) else if s.e.ph=1\/s.e.ph=2 then(jw s 0,0) else(jT (C0 s) (iq 2),0)
def awE{s:aw}(h:bj n s):bj (n+1) (r8 s).1:=by
 unfold r8;split
 .exact dp h J
 split
 .exact dp h J
 split
 .exact y1 h J J
 exact Bk (Vq h) _
def azS{s:aw}(ab:bj n s)(ak:n<=1000000000000):OS (s.t,())=some ((r8 s).1.t,(r8 s).2,()):=by
 have hl:=E7 ab ak 0;have aQ:=OW (Vq ab) ak 2;have hp:=VT ab;unfold OS r8;rw[show s.t.1.2.2.1=s.e.ph from rfl];rcases hp with h|h|h|h|h|h|h|h|h<;>rw[h]
 .rfl
 .refine aS rfl (a2 rfl (a2 rfl (bm rfl ?_)))
  exact(cw hl).trans rfl
 .refine aS rfl (a2 rfl (a2 rfl (bm rfl ?_)))
  exact(cw hl).trans rfl
 .refine aS rfl (a2 rfl (a2 rfl (a2 rfl (aS rfl ?_))))
  exact(cw aQ).trans rfl
 .refine aS rfl (a2 rfl (a2 rfl (a2 rfl (aS rfl ?_))))
  exact(cw aQ).trans rfl
 .refine aS rfl (a2 rfl (a2 rfl (a2 rfl (aS rfl ?_))))
  exact(cw aQ).trans rfl
 .rfl
 .rfl
 rfl
def sb(s:aw):aw×Int:=if ¬kR s.e.ph then(s,7) else if ¬s.e.ask.1=0 then(s,9) else(jT s (iq 301),0)
def awI{s:aw}(h:bj n s):bj (n+1) (sb s).1:=by
 unfold sb;split
 .exact dp h J
 split
 .exact dp h J
 exact Bk h _
def azN{s:aw}(ab:bj n s)(ak:n<=1000000000000):OO (s.t,())=some ((sb s).1.t,(sb s).2,()):=by
 unfold OO sb;rw[show s.t.1.2.2.1=s.e.ph from rfl,I4];by_cases R:kR s.e.ph
 .rw[cF R,if_neg (not_not_intro R)]
  by_cases af:s.e.ask.1=0
  .rw[if_neg (not_not_intro af)]
   refine(bT (kN af)).trans ?_;exact(cw (OW ab ak 301)).trans rfl
  rw[if_pos af];exact b4 (mo af)
 rw[cH R,if_pos R];rfl
def pN(s:aw)(p:Int):aw:=⟨{ s.e with ph:=p },s.p⟩
def ti(s:aw):aw:=if s.e.ph=8 then(if(dS s.e.store).2.2.1=true then pN s 0 else pN s 7) else s
def Bj{s:aw}(h:bj n s){p:Int}(aq:0<=p)(cx:p<=8):bj n (pN s p):=⟨{ h.e with ph:=⟨aq,cx⟩ },h.p⟩
def awD{s:aw}(h:bj n s):bj n (ti s):=by
 unfold ti;split
 .split
  .exact Bj h J J
  exact Bj h J J
 exact h
def azM{s:aw}(ab:bj n s):ON (s.t,())=some ((ti s).t,()):=by
 have O:=ab.e.store.1;have R:=ab.e.store.2;have hp:=VT ab;unfold ON ti;rw[show s.t.1.2.2.2.1=s.e.store from rfl,aiq _ J J];have me:rH (s.e.ph,11,())=some (if s.e.ph=8 then(0,true,()) else(s.e.ph,false,())):=by rcases hp with h|h|h|h|h|h|h|h|h<;>rw[h]<;>rfl
 have jC:rH (s.e.ph,12,())=some (if s.e.ph=8 then(7,true,()) else(s.e.ph,false,())):=by rcases hp with h|h|h|h|h|h|h|h|h<;>rw[h]<;>rfl
 by_cases aa:(dS s.e.store).2.2.1=true
 .refine bm aa ?_
  rw[if_pos aa];unfold uf;rw[show s.t.1.2.2.1=s.e.ph from rfl,me];by_cases cx:s.e.ph=8
  .rw[if_pos cx,if_pos cx];rfl
  rw[if_neg cx,if_neg cx];rfl
 refine a2 (by grind) ?_;rw[if_neg aa];unfold uf;rw[show s.t.1.2.2.1=s.e.ph from rfl,jC];by_cases cx:s.e.ph=8
 .rw[if_pos cx,if_pos cx];rfl
 rw[if_neg cx,if_neg cx];rfl
def yj(s:aw)(k:Int):aw:=⟨{ s.e with got:=s.e.got++[(k,fE s.e,0,[],())] },s.p⟩
def afT{s:aw}(h:bj n s)(k:Int):bj (n+1) (yj s k):=by
 refine⟨{ Bg h.e (xP n) with got := ?_ },F4 h.p⟩;have:=h.e.got;show(s.e.got++[(k,fE s.e,0,[],())]).length<=n+1
 grind
def aih{s:aw}(ab:bj n s)(ak:n<=1000000000000)(k:Int):JF (s.t,k,())=some ((yj s k).t,()):=by have hg:=ab.e.got;unfold JF;rw[show s.t.1.2.2.2.2.2.2.2.2.2.2.2.2.2.2.2.2.2.1=s.e.got from rfl,LB];rw[show ol (s.t.1,())=_ from yN s.e];refine bd (by simp only[go_sem];simp;omega) ?_;rfl
def mt(s:aw):aw:=if s.e.ph=2 then yj (pN s 3) 4 else s
def IL{s:aw}(h:bj n s):bj (n+1) (mt s):=by
 unfold mt;split
 .exact afT (Bj h J J) 4
 exact dp h (xP n)
def azO{s:aw}(ab:bj n s)(ak:n<=1000000000000):OP (s.t,())=some ((mt s).t,()):=by
 unfold OP mt;by_cases h:s.e.ph=2
 .rw[if_pos h]
  refine a2 (kN h) ?_;rw[show uf (s.t,3,())=some ((pN s 3).t,()) by unfold uf;rw[show s.t.1.2.2.1=s.e.ph from rfl,h];rfl]
  exact(cw (aih (Bj ab (p:=3) J J) ak 4)).trans rfl
 rw[if_neg h];exact b4 (mo h)
def sj(s:aw):aw:=if s.e.ph=1\/s.e.ph=3\/s.e.ph=6 then jw s 0 else s
def awK{s:aw}(h:bj n s):bj (n+1) (sj s):=by
 unfold sj;split
 .exact y1 h J J
 exact dp h (xP n)
def azP{s:aw}(ab:bj n s)(ak:n<=1000000000000):OQ (s.t,())=some ((sj s).t,()):=by
 have hl:=E7 ab ak 0;have hp:=VT ab;unfold OQ sj;rw[show s.t.1.2.2.1=s.e.ph from rfl];rcases hp with h|h|h|h|h|h|h|h|h<;>rw[h]
 .rfl
 .refine bm rfl (bm rfl ?_)
  exact(cw hl).trans rfl
 .rfl
 .refine a2 rfl (bm rfl (bm rfl ?_))
  exact(cw hl).trans rfl
 .rfl
 .rfl
 .refine a2 rfl (a2 rfl (bm rfl ?_))
  exact(cw hl).trans rfl
 .rfl
 rfl
def JH(s:aw):ue (s.t,())=some ((f? s 3).t,()):=by exact(cw (UJ s)).trans rfl
def azV{s:aw}(ab:bj n s)(ak:n<=1000000000000)(q:de):JG (s.t,q,())=some ((ee s (kC q 0)).1.t,()):=by unfold JG;dsimp only;rw[Vd];refine aS rfl ?_;rw[Ny];refine aS rfl ?_;exact(cw (yO ab ak (kC q 0))).trans rfl
def aav(s:aw):aw:=⟨{ s.e with ask:=kA },s.p⟩
def rD(s:aw)(n:de):aw:=
 if n.1=true then(if n.2.1=301 then(ee s (kC n 0)).1 else if n.2.1=2 then jw (ee s (kC n 0)).1 0 else f? s 3)
 else if rv s.e.ask n.2.1 n.2.2.1 then(if n.2.1=301 then aav s else if n.2.1=2 then jw s 0 else f? s 3) else f? s 3
def awN{s:aw}(h:bj m s)(n:de):bj (m+2) (rD s n):=by
 unfold rD;split
 .split
  .exact dp (qG h _) J
  split
  .exact y1 (qG h _) J J
  exact dp (o6 h 3) J
 split
 .split
  .exact⟨Bg (n:=m) { h.e with askr:=.inl rfl } J,hH h.p J⟩
  split
  .exact dp (y1 h J J) J
  exact dp (o6 h 3) J
 exact dp (o6 h 3) J
def azR{s:aw}(ab:bj m s)(hm:m<=999999000000)(n:de):OR (s.t,n,())=some ((rD s n).t,()):=by
 have e4:(ob (ue (s.t,())) λ(a:fb×Unit)=>(some (a.1,()):Option (fb×Unit)))=some ((f? s 3).t,()):=(cw (JH s)).trans rfl;have adL:=azV ab J n;have eF:=qG ab (kC n 0);unfold OR rD;rw[show s.t.1.2.2.2.2.2.2.2.2.2.2.2.1=s.e.ask from rfl,K9];by_cases O:n.2.1=301
 .refine bm (cI O) ?_
  cases aQ:n.1
  .rw[ O]
   by_cases hm:rv s.e.ask 301 n.2.2.1
   .rw[cF hm,if_pos hm];rfl
   rw[cH hm,if_neg hm];exact a2 rfl e4
  rw[ if_pos O];exact bm rfl ((cw adL).trans rfl)
 refine a2 (cv O) ?_;by_cases R:n.2.1=2
 .refine bm (cI R) ?_
  cases aQ:n.1
  .rw[ R]
   refine a2 rfl (aS rfl ?_);by_cases hm:rv s.e.ask 2 n.2.2.1
   .rw[cF hm,if_pos hm]
    exact bm rfl ((cw (E7 ab J 0)).trans rfl)
   rw[cH hm,if_neg hm];exact a2 rfl e4
  rw[ if_neg O,if_pos R];rw[adL];exact(cw (E7 eF J 0)).trans rfl
 refine a2 (cv R) ?_
 grind
def ayR(hx:x.length=32):mH ((1,x,()),ke,ke,0,1,()):=by
 refine .inr ⟨⟨?_,?_,hx⟩,?_,?_,?_,.inl ⟨rfl,rfl⟩,.inl rfl⟩
 .show(1:Int)<=1;omega
 .show(1:Int)<=2147483647;omega
 .show(1:Int)<=2147483647;omega
 .show(1:Int)<=1;omega
 show(0:Int)<=1;omega
def Ea(e:c8)(own oth:Int):c8:={ e with own:=own,oth:=oth,seen:=c6 e.seen oth,ring:=(Eg (wZ e.key (fE { e with own:=own,oth:=oth }) 1 [])).1 }
def sC(s:aw)(own oth:Int):aw:=⟨Ea s.e own oth,s.p⟩
def ayQ(k:V):mH (Eg k).1:=by
 unfold Eg;split
 .rename_i h
  exact ayR h
 exact .inl rfl
def IM{s:aw}(h:bj n s){b:Int}(bh:du a)(aa:du b):bj n (sC s a b):=⟨{ h.e with own:=bh,oth:=aa,ring:=ayQ _ },h.p⟩
def aii{s:aw}(ab:bj n s)(a b:Int):E8 (s.t,a,b,())=some ((sC s a b).t,()):=by have am:=ab.e.key;unfold E8;rw[show ol ((s.t.1.1,s.t.1.2.1,s.t.1.2.2.1,s.t.1.2.2.2.1,s.t.1.2.2.2.2.1,a,b,c6 s.t.1.2.2.2.2.2.2.2.1 b,s.t.1.2.2.2.2.2.2.2.2),())=_ from yN { s.e with own:=a,oth:=b,seen:=c6 s.e.seen b }];refine aS rfl ?_;rw[show A4 (s.t.1.2.1,fE { s.e with own:=a,oth:=b,seen:=c6 s.e.seen b },1,aR UInt8,())=_ from aew s.e.key (fE { s.e with own:=a,oth:=b,seen:=c6 s.e.seen b }) 1 [] J bp];refine aS rfl ?_;rw[ayV];rfl
def aij{s:aw}(ab:bj n s)(ak:n<=1000000000000)(q:de)(x:Int):JI (s.t,q,x,())=some ((mK s x (kC q 0)).1.t,()):=by unfold JI;rw[Vd];refine aS rfl ?_;rw[Ny];exact(cw (UK ab ak x (kC q 0))).trans rfl
def vF(s:aw)(x:Int):aw:=yj ⟨{ Ea s.e s.e.own x with ph:=3,ask:=kA },s.p⟩ 4
def Vx{s:aw}(h:bj n s){x:Int}(hx:du x):bj (n+1) (vF s x):=by have O:=IM h h.e.own hx;exact afT (s:=⟨{ Ea s.e s.e.own x with ph:=3,ask:=kA },s.p⟩) ⟨{ O.e with askr:=.inl rfl,ph:=⟨by show(0:Int)<=3;omega,by show(3:Int)<=8;omega⟩ },O.p⟩ 4
def azT{s:aw}(ab:bj n s)(ak:n<=999999000000)(O:s.e.ph=1){x:Int}(hx:du x):OU (s.t,x,())=some ((jT (vF s x) (iq 301)).t,()):=by
 have hm:=IM ab ab.e.own hx;have aK:=Vx ab hx;unfold OU;rw[show E8 (s.t,s.t.1.2.2.2.2.2.1,x,())=_ from aii ab s.e.own x];refine(dr rfl).trans ?_;rw[show uf ((sC s s.e.own x).t,1,())=some ((pN (sC s s.e.own x) 3).t,()) by unfold uf;rw[show(sC s s.e.own x).t.1.2.2.1=s.e.ph from rfl,O];rfl]
 have am:bj n (⟨{ Ea s.e s.e.own x with ph:=3,ask:=kA },s.p⟩:aw):=⟨{ hm.e with askr:=.inl rfl,ph:=⟨by show(0:Int)<=3;omega,by show(3:Int)<=8;omega⟩ },hm.p⟩;refine(cw (aih am J 4)).trans ((dr rfl).trans ?_);exact(cw (OW aK J 301)).trans rfl
def py(s:aw)(q:de)(x:Int):aw:=
 if(s.e.ph=1/\s.e.id=0)\/s.e.ph=7\/s.e.ph=8 then f? s 3
 else if dO s.e.ph/\s.e.oth=x then(mK s x (kC q 0)).1
 else if x<=s.e.seen then f? s 3
 else if(eQ s).2.2=0 then(mK (sC (jw (eQ s).1 2) (eQ s).2.1 x) x (kC q 0)).1
 else if(eQ s).2.2=11 then(eQ s).1
 else f? (eQ s).1 3
def azU{s:aw}(ab:bj n s)(ak:n<=999999000000){x:Int}(mz:du x)(q:de):OV (s.t,q,x,())=some ((py s q x).t,()):=by
 unfold OV py;rw[show s.t.1.2.2.1=s.e.ph from rfl,JH];by_cases aq:(s.e.ph=1/\s.e.id=0)\/s.e.ph=7\/s.e.ph=8
 .rw[if_pos aq]
  refine aS (a:=(true,())) ?_ (bm rfl rfl);by_cases O:s.e.ph=1
  .refine bm (cI O) ?_
   have R:s.e.id=0:=J;exact b4 (cI R)
  refine a2 (cv O) ?_;by_cases dN:s.e.ph=7
  .exact b4 (cI dN)
  refine a2 (cv dN) ?_;rw[cI J]
 rw[if_neg aq];refine aS (a:=(false,())) ?_ (a2 rfl ?_)
 .have dN:¬s.e.ph=7:=J
  have cx:¬s.e.ph=8:=J;have gP:T (aj s.e.ph 7) (some (true,())) (some (aj s.e.ph 8,()))=some (false,()):=by rw[cv dN,cv cx];rfl
  by_cases O:s.e.ph=1
  .have R:¬s.e.id=0:=J
   exact bm (cI O) (a2 (cv R) gP)
  exact a2 (cv O) gP
 rw[I5];refine aS rfl ?_;by_cases hl:dO s.e.ph/\s.e.oth=x
 .rw[if_pos hl]
  refine aS (a:=(true,())) ?_ (bm rfl ?_)
  .rw[cF hl.1]
   refine bm rfl ?_;rw[show aj s.t.1.2.2.2.2.2.2.1 x=true from cI hl.2]
  exact(cw (aij ab J q x)).trans rfl
 rw[if_neg hl];refine aS (a:=(false,())) ?_ (a2 rfl ?_)
 .by_cases O:dO s.e.ph
  .rw[cF O]
   refine bm rfl ?_;rw[show aj s.t.1.2.2.2.2.2.2.1 x=false from cv (λh=>hl ⟨O,h⟩)]
  rw[cH O];rfl
 by_cases MP:x<=s.e.seen
 .rw[if_pos MP]
  exact bm (lH (MP)) rfl
 rw[if_neg MP];refine a2 (oo (MP)) ?_;rw[aig ab J];by_cases aC:(eQ s).2.2=0
 .rw[if_pos aC]
  have O:=y1 (Bi ab) (p:=2) J J;have R:=IM O (LY aC) mz;refine bm (cI aC) ?_;rw[E7 (Bi ab) J];refine aS rfl ?_;rw[aii O];exact(cw (aij R J q x)).trans rfl
 rw[if_neg aC];refine a2 (cv aC) ?_;by_cases oU:(eQ s).2.2=11
 .rw[if_pos oU]
  exact b4 (cI oU)
 rw[if_neg oU];refine a2 (cv oU) ?_;rw[JH];rfl
def IP{s:aw}(h:bj n s)(i:Nat):bj n (f? s i):=⟨{ h.e with cJ:=by show(cn _ _ _).length=4;unfold cn;rw[k7];exact h.e.cJ },h.p⟩
def awC{s:aw}(h:bj n s)(q:de){x:Int}(hx:du x):bj (n+3) (py s q x):=by
 have aC:=Bi h;unfold py;split
 .exact dp (IP h _) J
 split
 .exact dp (NH h _ _) J
 split
 .exact dp (IP h _) J
 split
 .rename_i aq
  exact dp (NH (IM (y1 aC (p:=2) J J) (LY aq) hx) _ _) J
 split
 .exact dp aC J
 exact dp (IP aC _) J
def nD(s:aw)(v:c9)(q:de):aw:=
 let x:=ao v.2.2.1 (ae (1-s.e.id)) 0
 let y:=ao v.2.2.1 (ae s.e.id) 0
 if ¬q.2.1=1\/x<1 then f? s 3
 else if q.1=true/\y=0 then py s q x
 else if q.1=false/\q.2.2.2.1=0/\s.e.ph=1/\y=s.e.own/\rv s.e.ask q.2.1 q.2.2.1 then jT (vF s x) (iq 301)
 else f? s 3
def azQ{s:aw}(ab:bj n s)(ak:n<=999999000000){v:c9}(aB:∀i:Nat,du (ao v.2.2.1 i 0))(q:de):JC (s.t,v,q,())=some ((nD s v q).t,()):=by
 have hid:=ab.e.id;unfold JC nD;rw[show s.t.1.1=s.e.id from rfl,auy hid];refine bd cS (bd cS ?_);have hx:=aB (ae (1-s.e.id));have hy:=aB (ae s.e.id);generalize ao v.2.2.1 (ae (1-s.e.id)) 0=x at hx ⊢;generalize ao v.2.2.1 (ae s.e.id) 0=y at hy ⊢;by_cases O:¬q.2.1=1\/x<1
 .rw[if_pos O,JH]
  refine aS (a:=(true,())) ?_ (bm rfl rfl);by_cases ah:q.2.1=1
  .refine a2 (kN ah) ?_
   rw[di J]
  exact b4 (mo ah)
 rw[if_neg O];have ah:q.2.1=1:=J;refine aS (a:=(false,())) ?_ (a2 rfl ?_)
 .refine a2 (kN ah) ?_
  rw[cR J]
 by_cases R:q.1=true/\y=0
 .rw[if_pos R]
  refine aS (a:=(true,())) ?_ (bm rfl ?_)
  .rw[R.1,cI R.2];rfl
  exact(cw (azU ab ak hx q)).trans rfl
 rw[if_neg R];refine aS (a:=(false,())) ?_ (a2 rfl ?_)
 .cases aQ:q.1
  .rfl
  rw[cv (λh=>R ⟨aQ,h⟩)];rfl
 rw[ show s.t.1.2.2.2.2.2.2.2.2.2.2.2.1=s.e.ask from rfl,K9];by_cases af:q.1=false/\q.2.2.2.1=0/\s.e.ph=1/\y=s.e.own/\rv s.e.ask q.2.1 q.2.2.1
 .rw[if_pos af]
  obtain⟨cN,cX,a3,a4,a5⟩:=af;refine aS (a:=(true,())) ?_ (bm rfl ?_)
  .refine bm (by rw[cN];rfl) (bm (cI cX) (bm (cI a3) (bm (cI a4) ?_)))
   rw[cF a5];rfl
  exact(cw (azT ab ak a3 hx)).trans rfl
 rw[if_neg af,JH];refine aS (a:=(false,())) ?_ (a2 rfl rfl);by_cases cN:q.1=false
 .refine bm (by rw[cN];rfl) ?_
  by_cases cX:q.2.2.2.1=0
  .refine bm (cI cX) ?_
   by_cases a3:s.e.ph=1
   .refine bm (cI a3) ?_
    by_cases a4:y=s.e.own
    .refine bm (cI a4) ?_
     rw[cH (λh=>af ⟨cN,cX,a3,a4,h⟩)];rfl
    exact bT (cv a4)
   exact bT (cv a3)
  exact bT (cv cX)
 refine bT ?_;cases aQ:q.1
 .grind
 rfl
def awL{s:aw}(h:bj n s){v:c9}(aB:∀i:Nat,du (ao v.2.2.1 i 0))(q:de):bj (n+3) (nD s v q):=by
 unfold nD;dsimp only;split
 .exact dp (IP h _) J
 split
 .exact awC h q (aB _)
 split
 .exact dp (Bk (Vx h (aB _)) _) J
 exact dp (IP h _) J
def ayJ{l:List bZ}:∀{last:Int},last<=128->f7 last l=true->(l.length:Int)<=128-last:=by
 induction l with
 |nil=>intro last h _;simp;omega
 |cons v l ih=>
  intro last h ai;have O:=sP ai v (KH ..);have R:=SC O.2;have af:f7 v.1 l=true:=by
   unfold f7 at ai
   grind
  grind
def ER{m:M}(h:hZ m=true):m.2.1.length<=128/\uZ m:=by have ai:=(qO.1 h).1;have hl:=ayJ J ai;exact⟨J,J,λv aB=>by have:=SE (sP ai v aB).2;omega⟩
def Gz(m:Int):Int:=if hE m then m/100 else 0
def uk(m:Int):Prop:=Gz m=1\/Gz m=2\/Gz m=4
instance (m:Int):Decidable (uk m):=by unfold uk;infer_instance
def acc(m:M):GY (m,())=some (D (uk m.1),()):=by
 unfold GY uk;rw[show H3 (m.1,())=some (Gz m.1,()) from aut m.1];refine aS rfl ?_;generalize Gz m.1=c;by_cases O:c=1
 .subst O;rw[cF (.inl rfl)];rfl
 by_cases R:c=2
 .subst R;rw[cF (.inr (.inl rfl))];rfl
 by_cases au:c=4
 .subst au;rw[cF (.inr (.inr rfl))];rfl
 rw[cH J,cv O,cv R,cv au];rfl
def awX(m:M):NU (m,())=some (D (uk m.1),()):=by
 unfold NU uk;rw[show Bv (m.1,())=some (Gz m.1,()) from awg m.1];refine aS rfl ?_;generalize Gz m.1=c;by_cases O:c=1
 .subst O;rw[cF (.inl rfl)];rfl
 by_cases R:c=2
 .subst R;rw[cF (.inr (.inl rfl))];rfl
 by_cases au:c=4
 .subst au;rw[cF (.inr (.inr rfl))];rfl
 rw[cH J,cv O,cv R,cv au];rfl
def sR(m:M):Prop:=(ia 39 m.2.1).2.1=true/\(ia 39 m.2.1).1=[57,49]
instance (m:M):Decidable (sR m):=by unfold sR;infer_instance
def azs(g:V×Bool×Unit):(ob (T g.2.1 (some (seq g.1 [57,49],())) (some (false,()))) λ(a:Bool×Unit)=>(some (a.1,()):Option (Bool×Unit)))=some (D (g.2.1=true/\g.1=[57,49]),()):=by
 obtain⟨b,e,⟨⟩⟩:=g;cases e
 .rw[cH (λh=>P5 h.1)];rfl
 refine aS rfl ?_;by_cases h:b=[57,49]
 .rw[cF ⟨rfl,h⟩,WA h]
 rw[cH (λx=>h x.2),OG h]
def acb{m:M}(ai:f7 0 m.2.1=true)(hl:m.2.1.length<=1000000):Do (m,())=some (D (sR m),()):=by unfold Do sR;rw[Ux _ _ hl,SU ai];exact aS rfl (azs _)
def axb{m:M}(hl:m.2.1.length<=1000000):OJ (m,())=some (D (sR m),()):=by unfold OJ sR;rw[awi _ _ hl];exact aS rfl (azs _)
def sT(m:M)(day:Int):M:=(m.1,xp m.2.1 (15,dm day 6,()),())
def Lc(b:V)(day:Int):Prop:=day<0\/999999<day\/¬(eO b).2.1=0\/¬uk (eO b).1.1\/sR (eO b).1
instance (b:V) (day:Int):Decidable (Lc b day):=by unfold Lc;infer_instance
def ki(b:V)(day:Int):V×Int:=
 if Lc b day then([],1) else if 900<(fP (sT (eO b).1 day)).length then([],4) else(fP (sT (eO b).1 day),0)
def abP(day:Int):fX 15 (dm day 6)=true:=tu (no:=15) (w:=6) SG J
def aiF{m:M}(h:hZ m=true)(day:Int):hZ (sT m day)=true:=by have O:=qO.1 h;exact qO.2 ⟨azD (x:=(15,dm day 6,())) (abP day) J O.1,O.2⟩
def N0(h:(eO b).2.1=0):hZ (eO b).1=true/\fP (eO b).1=b:=by exact NZ (b:=b) (YD rfl (YD h rfl))
def aik{day:Int}(aq:0<=day)(O:day<=999999):sa (day,6,())=some (dm day 6,0,())/\xj (day,6,())=some (dm day 6,0,()):=by rw[GE _ _ J,Wc _ _ J,if_pos ⟨J,J,aq,by show day<10^6;omega⟩];exact⟨rfl,rfl⟩
def aAk{m:M}(hm:hZ m=true)(day:Int){e:Int}:(T (aH 900 (len (fP (sT m day)))) (some (aR UInt8,4,())) (some (fP (sT m day),0,())):Option (V×Int×Unit))=some ((if 900<(fP (sT m day)).length then(([]:V),(4:Int)) else(fP (sT m day),0)).1,(if 900<(fP (sT m day)).length then(([]:V),(4:Int)) else(fP (sT m day),0)).2,()):=by
 by_cases h:900<(fP (sT m day)).length
 .rw[if_pos h];exact b4 cS
 rw[if_neg h];exact bT cS
def aqa(b:V)(day:Int)(aa:b.length<=1000000):Mh (b,day,())=some ((ki b day).1,(ki b day).2,()):=by
 unfold Mh ki;rw[Uy _ aa];refine aS rfl ?_;dsimp only;by_cases O:day<0
 .rw[if_pos (.inl O)]
  exact aS (b4 cS) rfl
 by_cases R:999999<day
 .rw[if_pos (.inr (.inl R))]
  exact aS (a2 cS (b4 cS)) rfl
 by_cases af:(eO b).2.1=0
 .obtain⟨ai,bw⟩:=N0 af
  obtain⟨hl,hf⟩:=ER ai;have DM:=(qO.1 ai).1;rw[acc,acb DM J];by_cases au:uk (eO b).1.1
  .by_cases aY:sR (eO b).1
   .rw[if_pos (.inr (.inr (.inr (.inr aY)))),cF au,cF aY]
    exact aS (a2 cS (a2 cS (a2 (kN af) rfl))) rfl
   rw[if_neg (by rintro(h|h|h|h|h)<;>first|exact O h|exact R h|exact h af|exact h au|exact aY h),cF au,cH aY];refine aS (a:=(false,())) (a2 cS (a2 cS (a2 (kN af) rfl))) (a2 rfl ?_);rw[(aik J J).1];refine aS rfl (bd rfl ?_);rw[show kw ((eO b).1,15,(dm day 6,(0:Int),()).1,())=some (sT (eO b).1 day,0,()) by rw[M3 _ _ _ J (by rw[n9];omega)];unfold E1;rw[ if_pos (abP day),aBt DM];rfl]
   refine aS rfl ?_;have ab:=aiF ai day;rw[Uz _ (ER ab).2,if_pos ab];exact aS rfl (aAk ai day (e:=0))
  rw[if_pos (.inr (.inr (.inr (.inl au)))),cH au];exact aS (a2 cS (a2 cS (a2 (kN af) rfl))) rfl
 rw[if_pos (.inr (.inr (.inl af)))];exact aS (a2 cS (a2 cS (b4 (mo af)))) rfl
def ahO(b:V)(day:Int)(aa:b.length<=1000000):r2 (b,day,())=some ((ki b day).1,(ki b day).2,()):=by
 unfold r2 ki;rw[awj _ aa];refine aS rfl ?_;have auN:(eO b).1.2.1.length<=1000000:=by have:=ayb (b:=b);omega
 rw[awX,axb auN];refine aS rfl (aS rfl ?_);by_cases Ax:Lc b day
 .rw[if_pos Ax]
  refine aS (a:=(true,())) ?_ rfl;simp only[go_sem];refine E? ?_;rcases Ax with h|h|h|h|h<;>simp[h]
 rw[if_neg Ax];unfold Lc at Ax;simp at Ax;obtain⟨O,R,af,au,aY⟩:=Ax;obtain⟨ai,bw⟩:=N0 af;obtain⟨hl,hf⟩:=ER ai;rw[cF au,cH aY];refine aS (a:=(false,())) (a2 cS (a2 cS (a2 (kN af) rfl))) (a2 rfl ?_);rw[(aik J J).2];refine aS rfl (bd rfl ?_);rw[show BH ((eO b).1,15,(dm day 6,(0:Int),()).1,())=some (sT (eO b).1 day,0,()) by rw[aws _ _ _ J (by rw[n9];omega)];unfold aaM;rw[ if_pos (abP day)];rfl]
 refine aS rfl ?_;have ab:=aiF ai day;rw[ayx _ (ER ab).2,if_pos ab];exact aS rfl (aAk ai day (e:=0))
def sd(s:aw)(k n:Int)(b:V):aw:=⟨{ s.e with got:=s.e.got++[(k,fE s.e,n,b,())] },s.p⟩
def NF{s:aw}(h:bj n s)(k q:Int)(b:V):bj (n+1) (sd s k q b):=by
 refine⟨{ Bg h.e (xP n) with got := ?_ },F4 h.p⟩;have:=h.e.got;show(s.e.got++[(k,fE s.e,q,b,())]).length<=n+1
 grind
def aca{s:aw}(ab:bj n s)(ak:n<=1000000000000)(k q:Int)(b:V):GX (s.t,k,q,b,())=some ((sd s k q b).t,()):=by have hg:=ab.e.got;unfold GX;rw[show s.t.1.2.2.2.2.2.2.2.2.2.2.2.2.2.2.2.2.2.1=s.e.got from rfl,LB];rw[show ol (s.t.1,())=_ from yN s.e];refine bd (by simp only[go_sem];simp;omega) ?_;rfl
def nL(s:aw)(q:List V):aw:=⟨{ s.e with queue:=q },s.p⟩
def Er{s:aw}(h:bj n s)(aQ:q.length<=8):bj n (nL s q):=⟨{ h.e with queue:=aQ },h.p⟩
def ox:Nat->aw->aw
 |0,s=>s
 |n+1,s=>match s.e.queue with
  |[]=>s
  |b::q=>if(ee s b).2=0 then ox n (nL (ee s b).1 q) else s
def lI(s:aw):aw:=ox s.e.queue.length s
def axG{f:fb×Unit->Option (aF (fb×Unit) (fb×Unit))}
  (aq:∀s n,bj n s->n<=1000000000000->s.e.queue=[]->f (s.t,())=some (.ex 0 (s.t,())))
  (O:∀s n b q,bj n s->n<=1000000000000->s.e.queue=b::q->(ee s b).2=0->f (s.t,())=some (.nx ((nL (ee s b).1 q).t,())))
  (R:∀s n b q,bj n s->n<=1000000000000->s.e.queue=b::q->¬(ee s b).2=0->f (s.t,())=some (.ex 0 (s.t,()))\/f (s.t,())=some (.rt (s.t,()))) :
  ∀k (s:aw) n,bj n s->n+k<=1000000000000->s.e.queue.length=k ->
   cb (bK f (s.t,())) (λ(_:fb×Unit)=>none) (λ(i:Nat) (a:fb×Unit)=>an (bX i 0) (some (a.1,()))) (λ(r:fb×Unit)=>some r)=some ((ox k s).t,()):=by
 intro k;induction k with
 |zero =>intro s n ab ak am;exact(cW (ec (aq s n ab J (iR.1 am)))).trans rfl
 |succ k ih=>
  intro s n ab ak am;obtain⟨b,q,aQ⟩:∃b q,s.e.queue=b::q:=by
   cases h:s.e.queue with
   |nil=>rw[h]at am;cases am
   |cons b q=>exact⟨b,q,rfl⟩
  have hl:q.length=k:=by rw[aQ,gL]at am;omega
  have ji:=ab.e.queue;unfold ox;rw[aQ];dsimp only;by_cases h:(ee s b).2=0
  .rw[if_pos h]
   exact(cW (ev (O s n b q ab J aQ h))).trans (ih _ (n+1) (Er (qG ab b) J) J hl)
  rw[if_neg h];rcases R s n b q ab J aQ h with bE|bE
  .exact(cW (ec bE)).trans rfl
  exact(cW (o2 bE)).trans rfl
def aAD(h:q=[]):NX (q,())=some ([],[],false,()):=by subst h;rfl
def aiU{r:List V}(h:q=b::r)(hl:q.length<=1000000):NX (q,())=some (b,r,true,()):=by subst h;have vb:r.length+1<=1000000:=hl;refine a2 rfl (bd (by simp only[go_sem];simp only[gL];omega) (bd (by simp only[go_sem];simp;omega) ?_));rw[show sub (b::r) 1 (len (b::r))=r by simp[sub,len]];refine aS (eV cS) rfl
def SR{s:aw}(ab:bj n s)(ak:n<=999999000000):kS (s.t,())=some ((lI s).t,()):=by
 have aQ:=ab.e.queue;refine axG ?_ ?_ ?_ s.e.queue.length s n ab J rfl
 .intro s n ab ak h
  exact(cw (aAD h)).trans rfl
 .intro s n b q ab ak h bs
  have aQ:=ab.e.queue;refine(cw (aiU h J)).trans ((dr rfl).trans ((bT rfl).trans ?_));refine(cw (yO ab ak b)).trans ((dr rfl).trans ((bT (kN bs)).trans ?_));rfl
 intro s n b q ab ak h bs;have aQ:=ab.e.queue;refine .inl ((cw (aiU h J)).trans ((dr rfl).trans ((bT rfl).trans ?_)));exact(cw (yO ab ak b)).trans ((dr rfl).trans (b4 (mo bs)))
def afV:∀(k:Nat) {n:Nat} {s:aw},bj n s->bj (n+k) (ox k s)
 |0,n,s,h=>h
 |k+1,n,s,h=>by
  unfold ox;split
  .exact dp h J
  rename_i b q aQ;split
  .have ji:=h.e.queue
   rw[aQ,gL]at ji;have:=afV k (Er (qG h b) (q:=q) J)
   grind
  exact dp h J
def Es{s:aw}(h:bj n s):bj (n+1000) (lI s):=dp (afV _ h) (by have:=h.e.queue;omega)
def m_(q:List V)(b:V):List V×Int:=if 8<=q.length then(q,8) else(q++[b],0)
def axT(q:List V)(b:V):NW (q,b,8,())=some ((m_ q b).1,(m_ q b).2,()):=by
 unfold NW m_ I_;dsimp only;rw[if_neg J];by_cases h:8<(q.length:Int)
 .rw[if_pos h,if_pos J];rfl
 rw[if_neg h];rw[show(8:Int).toNat=8 from rfl,List.length_singleton];by_cases cx:q.length=8
 .rw[ cx];rfl
 rw[if_neg J,show min (8-q.length) 1=1 by omega,il (by grind)];rfl
def pd(s:aw)(b:V):aw×Int:=
 if ¬(ki b s.e.day).2=0 then(s,(ki b s.e.day).2) else if ¬kR s.e.ph then(s,7)
 else if ¬(m_ s.e.queue (ki b s.e.day).1).2=0 then(s,(m_ s.e.queue (ki b s.e.day).1).2)
 else(lI (sd (nL s (m_ s.e.queue (ki b s.e.day).1).1) 1 0 (ki b s.e.day).1),0)
def V4(h:q.length<=8):(m_ q b).1.length<=8:=by
 unfold m_
 grind
def awS{s:aw}(h:bj n s)(b:V):bj (n+1001) (pd s b).1:=by
 unfold pd;split
 .exact dp h J
 split
 .exact dp h J
 split
 .exact dp h J
 exact dp (Es (NF (Er h (V4 h.e.queue)) _ _ _)) J
def aqb{s:aw}(ab:bj n s)(ak:n<=999998000000)(b:V)(aa:b.length<=1000000):Mi (s.t,b,())=some ((pd s b).1.t,(pd s b).2,()):=by
 unfold Mi pd;refine aS (aqa b s.e.day aa) ?_;generalize ki b s.e.day=r;obtain⟨o,e⟩:=r;by_cases aq:e=0
 .subst aq
  refine a2 rfl (aS (I4 s.e.ph) ?_);by_cases hg:kR s.e.ph
  .rw[if_neg (not_not_intro hg)]
   refine a2 (by rw[cF hg];rfl) (aS (axT s.e.queue o) ?_);have hl:=V4 (b:=o) ab.e.queue;generalize m_ s.e.queue o=p at hl ⊢;obtain⟨q,c⟩:=p;by_cases ah:c=0
   .subst ah
    have O:=Er ab hl;refine a2 rfl (aS (aca O J 1 0 o) ?_);exact(cw (SR (NF O 1 0 o) J)).trans rfl
   rw[if_pos ah];exact b4 (mo ah)
  rw[if_pos hg];exact b4 (by rw[cH hg];rfl)
 rw[if_pos aq];exact b4 (mo aq)
def aaW(day:Int):de:=(true,201,0,0,0,[],[],day,())
def r'(s:aw)(day:Int):aw×Int:=
 if day<=s.e.day\/999999<day then(s,1) else if ¬kR s.e.ph then(s,7) else if ¬s.e.ph=3\/¬s.e.ask.1=0 then(s,9)
 else(jT (pN s 5) (aaW day),0)
def awH{s:aw}(h:bj n s)(day:Int):bj (n+1) (r' s day).1:=by
 unfold r';split
 .exact dp h J
 split
 .exact dp h J
 split
 .exact dp h J
 exact Bk (Bj h J J) _
theorem aCE:rH (3,7,())=some (5,true,()):=rfl
theorem aCG:rH (5,8,())=some (3,true,()):=rfl
def ap7{s:aw}(ab:bj n s)(ak:n<=1000000000000)(day:Int):Mf (s.t,day,())=some ((r' s day).1.t,(r' s day).2,()):=by
 unfold Mf r';rw[show s.t.1.2.2.2.2.2.2.2.2.2.2.2.2.2.1=s.e.day from rfl,show s.t.1.2.2.1=s.e.ph from rfl];by_cases O:day<=s.e.day\/999999<day
 .rw[if_pos O]
  refine aS (a:=(true,())) ?_ rfl;simp only[go_sem];exact E? O
 rw[if_neg O];refine aS (a:=(false,())) (by simp only[go_sem];exact WQ J) (a2 rfl ?_);rw[I4];refine aS rfl ?_;by_cases R:kR s.e.ph
 .rw[if_neg (not_not_intro R),cF R]
  by_cases af:¬s.e.ph=3\/¬s.e.ask.1=0
  .rw[if_pos af]
   refine aS (a:=(true,())) (by simp only[go_sem];exact E? af) rfl
  rw[if_neg af];refine aS (a:=(false,())) (by simp(disch:=omega) only[go_sem];exact WQ (λh=>af (.inr h))) (a2 rfl ?_);simp at af;rw[af.1];exact(cw (OT (Bj ab (p:=5) J J) ak (aaW day))).trans rfl
 rw[if_pos R,cH R];rfl
def sg(s:aw):aw:=if s.e.ph=5 then⟨y3 s.e,s.p⟩ else s
def SS{s:aw}(h:s.e.ph=5):Dn (s.t,())=some ((⟨y3 s.e,s.p⟩:aw).t,()):=by unfold Dn;rw[show(s.t,()).1.1.2.2.1=5 from h];rfl
def ap9(s:aw):Mg (s.t,())=some ((sg s).t,()):=by
 unfold Mg sg;by_cases h:s.e.ph=5
 .rw[if_pos h]
  refine a2 (kN h) ?_;exact(cw (SS h)).trans rfl
 rw[if_neg h];exact b4 (mo h)
def A7(s:aw)(day:Int):aw:=⟨{ s.e with day:=c6 s.e.day day },s.p⟩
def NG{s:aw}(h:bj n s)(day:Int):bj n (A7 s day):=⟨{ h.e with },h.p⟩
def Ac(s:aw)(n:de):aw:=(ee (A7 s n.2.2.2.2.2.2.2.1) (kC n 0)).1
def awG{s:aw}(h:bj m s)(n:de):bj (m+1) (Ac s n):=qG (NG h _) _
def ap8{s:aw}(ab:bj m s)(hm:m<=1000000000000)(n:de):SQ (s.t,n,())=some ((Ac s n).t,()):=by exact F? (NG ab n.2.2.2.2.2.2.2.1) hm n 0
def tf(s:aw)(n:de):aw:=
 if ¬s.e.ph=5\/¬rv s.e.ask n.2.1 n.2.2.1 then f? s 3
 else if n.2.2.2.1=0 then A7 ⟨y3 s.e,s.p⟩ (kg s.e.ask.2.2.2.2.1).1.2.2.2.2.2.2.2.1 else⟨y3 s.e,s.p⟩
def ap6{s:aw}(n:de)(aa:s.e.ask.2.2.2.2.1.length<=1000000):Me (s.t,n,())=some ((tf s n).t,()):=by
 unfold Me tf;rw[ show s.t.1.2.2.2.2.2.2.2.2.2.2.2.1=s.e.ask from rfl,K9];by_cases aY:s.e.ph=5
 .by_cases hm:rv s.e.ask n.2.1 n.2.2.1
  .rw[if_neg (λh=>h.elim (λh=>h aY) (λh=>h hm)),cF hm]
   refine aS (a:=(false,())) (a2 (kN aY) rfl) (a2 rfl ?_);rw[afx _ aa];by_cases ai:n.2.2.2.1=0
   .rw[if_pos ai]
    refine bm (cI ai) ?_;exact(cw (SS (s:=A7 s (kg s.e.ask.2.2.2.2.1).1.2.2.2.2.2.2.2.1) aY)).trans rfl
   rw[if_neg ai];refine a2 (cv ai) ?_;exact(cw (SS aY)).trans rfl
  rw[if_pos (.inr hm),cH hm];exact aS (a:=(true,())) (a2 (kN aY) rfl) (bm rfl (uT s))
 rw[if_pos (.inl aY)];exact aS (a:=(true,())) (b4 (mo aY)) (bm rfl (uT s))
def awA{s:aw}(h:bj m s)(n:de):bj m (tf s n):=by
 have aK:bj m ⟨y3 s.e,s.p⟩:=⟨{ h.e with askr:=.inl rfl,ph:=⟨by show(0:Int)<=3;omega,by show(3:Int)<=8;omega⟩ },h.p⟩;unfold tf;split
 .exact o6 h 3
 split
 .exact NG aK _
 exact aK
def pD(t:Int):Int:=t/10%10
def tl(m:M):Prop:=(pD m.1=1\/pD m.1=3)/\sR m
instance (m:M):Decidable (tl m):=by unfold tl;infer_instance
def tk:bZ:=(39,[57,49],())
def r?(m:M):M:=(m.1+10,(if(ia 11 m.2.1).2.1=true then[(11,(ia 11 m.2.1).1,()),tk]else[tk]),())
def qT(s:aw)(q:Int)(b:V)(m:M):aw:=
 if ¬uk m.1 then f? s 3 else if kR s.e.ph then sd s (if tl m then 3 else 2) q b
 else if ¬s.e.ph=6\/¬(qM m.1).2.1=true then f? s 3 else(ee s (fP (r? m))).1
def abQ:fX 39 [57,49]=true:=bO
def acg{no:Int}:∀{l:List bZ},(ia no l).2.1=true->∃v∈l,v.1=no/\(ia no l).1=v.2.1
 |v::l,h=>by
  unfold ia at h ⊢;split at h
  .grind
  rename_i e;obtain⟨u,aL,O,R⟩:=acg h
  grind
def Xv{m:M}(ai:hZ m=true)(h:(ia 11 m.2.1).2.1=true):fX 11 (ia 11 m.2.1).1=true:=by
 obtain⟨v,aB,O,R⟩:=acg h;have:=(sP (qO.1 ai).1 v aB).2
 grind
def aaX{m:M}(ai:hZ m=true)(hp:(qM m.1).2.1=true):hZ (r? m)=true:=by
 refine qO.2 ⟨?_,?_⟩
 .unfold r?
  dsimp only;split
  .rename_i h
   unfold f7 f7 f7 tk;rw[cP,cP,cP,cP];exact⟨decide_eq_true J,Xv ai h,decide_eq_true J,abQ,rfl⟩
  decide
 unfold qM at hp;split at hp
 .rename_i h
  obtain⟨⟨eA,e?,t3,t4⟩,R⟩:=h;show hE (m.1+10);unfold hE;omega
 cases hp
def apy{t:Int}(h:hE t):fR (i64 (gd t 10)) 10=pD t:=by have O:=h.1;have R:=h.2.1;unfold pD;simp(disch:=omega) only[go_sem]
def aqe{m:M}(ai:hZ m=true):Mk (m,())=some (D (tl m),()):=by
 have hf:=qO.1 ai;have hl:=(ER ai).1;unfold Mk tl;rw[acb hf.1 J,apy hf.2];by_cases O:pD m.1=1
 .rw[cI O]
  refine aS (a:=(D (sR m),())) rfl (pR ⟨λh=>⟨.inl O,h⟩,λh=>h.2⟩)
 rw[cv O];by_cases af:pD m.1=3
 .rw[cI af]
  refine aS (a:=(D (sR m),())) rfl (pR ⟨λh=>⟨.inr af,h⟩,λh=>h.2⟩)
 rw[cv af,show D ((pD m.1=1\/pD m.1=3)/\sR m)=false from cH (λh=>Or.elim h.1 O af)];rfl
def aqd{s:aw}(ab:bj n s)(ak:n<=1000000000000){m:M}(ai:hZ m=true):Mj (s.t,m,())=some ((if ¬(qM m.1).2.1=true then f? s 3 else(ee s (fP (r? m))).1).t,()):=by
 have hf:=qO.1 ai;have hl:=(ER ai).1;unfold Mj;dsimp only;rw[auu];by_cases hp:(qM m.1).2.1=true
 .rw[if_neg (not_not_intro hp)]
  refine a2 (by rw[hp];rfl) ?_;have ht:(qM m.1).1=m.1+10:=by
   unfold qM at hp ⊢
   grind
  have aJ:=aaX ai hp;have arV:=(ER aJ).2;have bw:=Uz _ arV;rw[if_pos aJ]at bw;rw[ht,show kw ((m.1+10,aR (Int×V×Unit),()),39,[u8 57,u8 49],())=some ((m.1+10,[tk],()),0,()) by rw[M3 _ _ _ (by show(0:Nat)<=100000;omega) bp];unfold E1;rw[ if_pos (show fX 39 [u8 57,u8 49]=true from abQ)];rfl]
  refine aS rfl ?_;rw[Ux _ _ J,SU hf.1];refine aS rfl ?_;cases hh:(ia 11 m.2.1).2.1
  .refine a2 rfl ?_
   have e:r? m=(m.1+10,[tk],()):=by unfold r?;rw[hh];rfl
   rw[e]at bw ⊢;refine aS bw ?_;exact(cw (yO ab ak _)).trans rfl
  refine bm rfl ?_;have e:r? m=(m.1+10,[(11,(ia 11 m.2.1).1,()),tk],()):=by unfold r?;rw[hh];rfl
  rw[e]at bw ⊢;have oU:=Xv ai hh;have au:=SE oU;rw[show kw ((m.1+10,[tk],()),11,(ia 11 m.2.1).1,())=some ((m.1+10,[(11,(ia 11 m.2.1).1,()),tk],()),0,()) by rw[M3 _ _ _ bp J];unfold E1;rw[ if_pos oU];rfl]
  refine aS rfl (aS bw ?_);exact(cw (yO ab ak _)).trans rfl
 rw[if_pos hp];refine bm (by rw[P9.2 hp];rfl) (uT s)
def aqc{s:aw}(ab:bj n s)(ak:n<=1000000000000){m:M}(ai:hZ m=true)(v:c9):GW (s.t,v,m,())=some ((qT s v.2.2.2.2.1 v.2.2.2.2.2.1 m).t,()):=by
 unfold GW qT;rw[acc];by_cases ht:uk m.1
 .rw[if_neg (not_not_intro ht)]
  refine a2 (by rw[cF ht];rfl) ?_;refine aS (I4 s.e.ph) ?_;by_cases hg:kR s.e.ph
  .rw[if_pos hg]
   refine bm (cF hg) (aS (aqe ai) ?_);have ate:ST ((D (tl m),()).1,3,2,())=some ((if tl m then 3 else 2),()):=by
    by_cases aJ:tl m
    .rw[cF aJ,if_pos aJ];rfl
    rw[cH aJ,if_neg aJ];rfl
   refine aS ate ?_;exact(cw (aca ab ak _ _ _)).trans rfl
  rw[if_neg hg];refine a2 (cH hg) ?_;by_cases cp:s.e.ph=6
  .refine bm (cI cp) ((cw (aqd ab ak ai)).trans ?_)
   by_cases hp:(qM m.1).2.1=true
   .rw[if_neg (not_not_intro hp),if_neg (λh=>h.elim (λh=>h cp) (λh=>h hp))];rfl
   rw[if_pos hp,if_pos (.inr hp)];rfl
  rw[if_pos (.inl cp)];exact a2 (cv cp) (uT s)
 rw[if_pos ht];exact bm (by rw[cH ht];rfl) (uT s)
def awT{s:aw}(h:bj n s)(q:Int)(b:V)(m:M):bj (n+1) (qT s q b m):=by
 unfold qT;split
 .exact dp (o6 h 3) J
 split
 .exact NF h _ _ _
 split
 .exact dp (o6 h 3) J
 exact qG h _
def eB(a:V):Nat:=256*(a.getD 0 0).toNat+(a.getD 1 0).toNat
def h':Nat->Int->V->V×Nat×Int×List V
 |0,bad,a=>(a,0,bad,[])
 |k+1,bad,a=>
  if a.length<2 then(a,0,bad,[])
  else if eB a=0\/1024<eB a then
   (if 2+eB a<=a.length then h' k (i64 (bad+1)) (a.drop (2+eB a)) else([],2+eB a-a.length,i64 (bad+1),[]))
  else if a.length<2+eB a then(a,0,bad,[])
  else((h' k bad (a.drop (2+eB a))).1,(h' k bad (a.drop (2+eB a))).2.1,(h' k bad (a.drop (2+eB a))).2.2.1,(a.drop 2).take (eB a)::(h' k bad (a.drop (2+eB a))).2.2.2)
def jl(f:pZ)(b:V):pZ×List V:=
 if(f.1++b).length<f.2.1.toNat then(([],f.2.1-((f.1++b).length:Int),f.2.2.1,()),[])
 else let r:=h' (f.1++b).length f.2.2.1 ((f.1++b).drop f.2.1.toNat)
  ((r.1,(r.2.1:Int),r.2.2.1,()),r.2.2.2)
def kP(c:Int):Prop:=0<=c/\c<4
instance (c:Int):Decidable (kP c):=by unfold kP;infer_instance
def mN(h:ej)(c:Int):Prop:=ao h.1 c.toNat false=true
instance (h:ej) (c:Int):Decidable (mN h c):=by unfold mN;infer_instance
def mb(h:ej)(c:Int):ej×Int:=
 if ¬kP c then(h,1) else if mN h c then(h,9) else((cn h.1 c.toNat true,cn h.2.1 c.toNat eJ,cn h.2.2.1 c.toNat (i64 (ao h.2.2.1 c.toNat 0+1)),h.2.2.2),0)
def lX(h:ej)(c:Int):ej×Int:=
 if ¬kP c then(h,1) else if ¬mN h c then(h,9) else((cn h.1 c.toNat false,cn h.2.1 c.toNat eJ,h.2.2),0)
def hY(h:ej)(c:Int)(b:V):ej×List V×Int:=
 if ¬kP c then(h,[],1) else if ¬mN h c then(h,[],11)
 else((h.1,cn h.2.1 c.toNat (jl (ao h.2.1 c.toNat eJ) b).1,h.2.2),(jl (ao h.2.1 c.toNat eJ) b).2,0)
def vV(g:Nat->Bool):Nat->Nat
 |0=>0
 |k+1=>vV g k+(if g k then 2^k else 0)
def pz(g:Nat->Bool):List UInt64:=(List.range 16).map λi=>UInt64.ofNat (vV (λj=>g (64*i+j)) 64)
def yn(w:gr)(n:Int):Prop:=w.1<=n\/w.1-1024<=n/\jJ w (n%1024).toNat=false
instance (w:gr) (n:Int):Decidable (yn w n):=by unfold yn;infer_instance
def yb(w:gr)(n:Int)(p:Nat):Prop:=∃m,w.1<=m/\m<n/\m%1024=(p:Int)
def k3(w:gr)(n:Int):gr×Int:=
 if ¬du n then(w,1) else if ¬yn w n then(w,6)
 else((max w.1 (n+1),pz (λp=>mW (D ((p:Int)=n%1024)) (c3 (jJ w p) (D (¬yb w n p)))),()),0)
def J1(r:fq):fq:=(r.1,if r.2.2.2.1<=1 then ke else r.2.1,r.2.2.1,max 0 (r.2.2.2.1-1),r.2.2.2.2)
def kF(a:gq):gq×Bool×Bool:=
 if a=kA then(a,false,false) else if 1<a.2.2.1 then((a.1,a.2.1,a.2.2.1-1,a.2.2.2),false,false)
 else if 0<a.2.2.2.1 then((a.1,a.2.1,8,a.2.2.2.1-1,a.2.2.2.2),true,false) else(kA,false,true)
def pT(e:c8)(v:c9):Prop:=¬v.2.1=1-e.id\/e.ph=7\/e.ph=8\/v.1=2/\(¬dO e.ph\/¬v.2.2.1=fE e\/(ra e.ring v.2.2.2.1).2.1=false)
instance (e:c8) (v:c9):Decidable (pT e v):=by unfold pT dO;infer_instance
def A0(e:c8)(v:c9):V:=if v.1=2 then(ra e.ring v.2.2.2.1).1 else hu e.key
def hv(s:aw)(v:c9):eG×Bool×Unit:=xf s.p (A0 s.e v) (cA v) v.2.2.2.2.2.2.1
def gy(s:aw)(b:V):aw×Option c9:=
 if ¬(d4 b).2.1=0 then(f? s 0,none)
 else if pT s.e (d4 b).1 then(f? s 3,none)
 else if(hv s (d4 b).1).2.1=false then(f? ⟨s.e,(hv s (d4 b).1).1⟩ 1,none)
 else if(d4 b).1.1=1 then(⟨s.e,(hv s (d4 b).1).1⟩,some (d4 b).1)
 else if ¬(k3 s.e.win (d4 b).1.2.2.2.2.1).2=0 then(f? ⟨s.e,(hv s (d4 b).1).1⟩ 2,none)
 else(⟨{ s.e with win:=(k3 s.e.win (d4 b).1.2.2.2.2.1).1,ring:=qq s.e (d4 b).1.2.2.2.1 },(hv s (d4 b).1).1⟩,some (d4 b).1)
def qR(s:aw)(n:de):aw:=
 if n.2.1=101 then(if n.1=true then sH s n else tg s n) else if n.2.1=201 then(if n.1=true then Ac s n else tf s n) else rD s n
def kp(s:aw)(v:c9):aw:=
 if v.1=2 then
  (if(kg v.2.2.2.2.2.1).2.1=0 then qR (mt s) (kg v.2.2.2.2.2.1).1
   else if(eO v.2.2.2.2.2.1).2.1=0 then qT (mt s) v.2.2.2.2.1 v.2.2.2.2.2.1 (eO v.2.2.2.2.2.1).1 else f? (mt s) 0)
 else(if(kg v.2.2.2.2.2.1).2.1=0 then nD s v (kg v.2.2.2.2.2.1).1 else f? s 0)
def lc(s:aw)(b:V):aw:=match(gy s b).2 with|none=>(gy s b).1|some v=>lI (kp (gy s b).1 v)
def tw(s:aw):List V->aw
 |[]=>s
 |b::l=>if s.e.ph=8 then s else tw (lc s b) l
def Lb(cJ:List Int)(d:Int):List Int:=cn cJ 0 (i64 (ao cJ 0 0+d))
def q'(s:aw)(c:Int)(b:V):aw:=
 ⟨{ s.e with cJ:=Lb s.e.cJ (i64 ((ao (hY s.e.hub c b).1.2.1 c.toNat eJ).2.2.1-(ao s.e.hub.2.1 c.toNat eJ).2.2.1)),hub:=(hY s.e.hub c b).1 },s.p⟩
def qb(s:aw)(c:Int)(b:V):aw:=if ¬(hY s.e.hub c b).2.2=0 then s else tw (q' s c b) (hY s.e.hub c b).2.1
def qa(s:aw)(a:gq):aw:=if a.1=1 then(mK s 0 a.2.2.2.2.1).1 else(ee s a.2.2.2.2.1).1
def r9(s:aw):aw:=if s.e.ph=4 then rd s else if s.e.ph=5 then sg s else sj s
def zj(s:aw):aw:=⟨{ s.e with ring:=J1 s.e.ring },s.p⟩
def s2(s:aw)(a:gq):aw:=⟨{ s.e with ask:=a },s.p⟩
def oB(s:aw):aw:=
 if(kF s.e.ask).2.1=true then qa (s2 s (kF s.e.ask).1) (kF s.e.ask).1
 else if(kF s.e.ask).2.2=true then r9 (s2 s (kF s.e.ask).1) else s2 s (kF s.e.ask).1
def ij(s:aw):aw:=
 if s.e.ph=7\/s.e.ph=8 then s
 else if dO s.e.ph then(if s.e.seq=4611686018427387904 then(nJ (zj s)).1 else lI (oB (zj s)))
 else lI (oB s)
def pO(s:aw)(c:Int):aw×Int:=
 if s.e.ph=8 then(s,11) else if ¬(mb s.e.hub c).2=0 then(s,(mb s.e.hub c).2) else(lI ⟨{ s.e with hub:=(mb s.e.hub c).1 },s.p⟩,0)
def oP(e:c8)(c:Int):c8:={ e with hub:=(lX e.hub c).1 }
abbrev g3:=Int×Int×Int×Int×V×Unit
def mr(s:aw)(a:g3):aw×Int:=
 if a.1=0 then pd s a.2.2.2.2.1 else if a.1=1 then nJ s else if a.1=2 then r8 s else if a.1=3 then sb s else if a.1=4 then sD s a.2.2.2.2.1
 else if a.1=5 then r' s a.2.2.1 else if a.1=6 then(ij s,0) else if a.1=14 then(q9 s,0)
 else if a.1=15 then(if s.e.ph=8 then(ti s,0) else(s,9)) else if a.1=16 then(⟨{ s.e with power:=a.2.2.1 },s.p⟩,0) else(s,1)
abbrev eM:=Int×Int×V×Unit
structure bP where
 e:Bool->c8
 p:eG
 bc:List eM
 old:List eM
 dw:Bool->List eg
def gJ{α:Type}(f:Bool->α)(i:Bool)(x:α):Bool->α:=λj=>if j=i then x else f j
def bP.at(w:bP)(i:Bool):aw:=⟨w.e i,w.p⟩
def dg(i:Bool):Int:=if i then 1 else 0
def iX(w:bP)(c:Int):bP:={ w with e:=λi=>oP (w.e i) c,bc:=w.bc.filter λf=>decide (¬f.2.1=c) }
def uQ(w:bP):bP:=iX (iX (iX (iX w 0) 1) 2) 3
def jx(i:Bool)(x:q7):eM:=(1-dg i,x.1,x.2.1,())
def mv(w:bP)(i:Bool)(s:aw):bP:=
 { e:=gJ w.e i { s.e with bC:=[],got:=[] },p:=s.p,bc:=w.bc++s.e.bC.map (jx i),old:=w.old++s.e.bC.map (jx i),dw:=gJ w.dw i (w.dw i++s.e.got) }
def iy(w:bP)(i:Bool)(s:aw):bP:=if s.e.ph=8/\¬(w.e i).ph=8 then uQ (mv w i s) else mv w i s
def lq(n:Int):Bool:=decide (n=1)
def lw(w:bP)(i:Bool)(c:Int)(b:V):bP:=iy w i (qb (w.at i) c b)
def ov:eM:=(0,0,[],())
def lB(w:bP)(n m:Int):bP×Int:=
 if ¬(0<=n/\n<(w.bc.length:Int)) then(w,12)
 else let f:=ao w.bc n.toNat ov
  if 0<m/\m<(f.2.2.1.length:Int) then(lw { w with bc:=w.bc.set n.toNat (f.1,f.2.1,f.2.2.1.drop m.toNat,()) } (lq f.1) f.2.1 (f.2.2.1.take m.toNat),0)
  else(lw { w with bc:=w.bc.eraseIdx n.toNat } (lq f.1) f.2.1 f.2.2.1,0)
def C9(w:bP)(n:Int):bP×Int:=if ¬(0<=n/\n<(w.bc.length:Int)) then(w,12) else({ w with bc:=w.bc.eraseIdx n.toNat },0)
def CI(w:bP)(n:Int):bP×Int:=if ¬(0<=n/\n<(w.old.length:Int)) then(w,12) else({ w with bc:=w.bc++[ao w.old n.toNat ov] },0)
def aAc(b:V)(m:Nat)(x:UInt8):V:=cn b m (ao b m (u8 0)^^^x)
def Fb(w:bP)(n m:Int)(b:V):bP×Int:=
 if ¬(0<=n/\n<(w.old.length:Int))\/¬(0<=m/\m<((ao w.old n.toNat ov).2.2.1.length:Int))\/b=[]then(w,12)
 else let f:=ao w.old n.toNat ov
  ({ w with bc:=w.bc++[(f.1,f.2.1,aAc f.2.2.1 m.toNat (ao b 0 (u8 0)),())] },0)
def DX(w:bP)(i c:Int)(b:V):bP×Int:=if ¬(0<=i/\i<2) then(w,1) else(lw w (lq i) c b,0)
def o8(w:bP)(i:Bool)(c:Int):bP:=iy w i (pO (w.at i) c).1
def y'(w:bP)(c:Int):bP×Int:=
 if(w.e false).ph=8\/(w.e true).ph=8 then(w,11) else if ¬kP c then(w,1)
 else if mN (w.e false).hub c\/mN (w.e true).hub c then(w,9) else(o8 (o8 w false c) true c,0)
def C3(w:bP)(c:Int):bP×Int:=if ¬kP c then(w,1) else(iX w c,0)
def mX:Nat->bP->bP
 |0,w=>w
 |k+1,w=>if w.bc=[]then w else mX k (lB w 0 0).1
def nQ(w:bP)(i:Bool):bP:=iy w i (ij (w.at i))
def jB(w:bP):bP:=nQ (nQ (mX w.bc.length w) false) true
def oO:Nat->bP->bP
 |0,w=>w
 |k+1,w=>oO k (jB w)
def r3(w:bP)(a:g3):bP×Int:=if ¬(0<=a.2.1/\a.2.1<2) then(w,1) else(iy w (lq a.2.1) (mr (w.at (lq a.2.1)) a).1,(mr (w.at (lq a.2.1)) a).2)
def ho(w:bP)(a:g3):bP×Int:=
 if a.1=7 then lB w a.2.2.1 a.2.2.2.1 else if a.1=8 then C9 w a.2.2.1 else if a.1=9 then CI w a.2.2.1 else if a.1=10 then Fb w a.2.2.1 a.2.2.2.1 a.2.2.2.2.1
 else if a.1=11 then DX w a.2.1 a.2.2.1 a.2.2.2.2.1 else if a.1=12 then y' w a.2.2.1 else if a.1=13 then C3 w a.2.2.1
 else if a.1=17 then(if a.2.2.1<0 then(w,1) else(oO (min a.2.2.1 100).toNat w,0))
 else if 0<=a.1/\a.1<=6\/14<=a.1/\a.1<=16 then r3 w a else(w,1)
def t?(w:bP):List g3->bP×List Int
 |[]=>(w,[])
 |a::l=>((t? (ho w a).1 l).1,(ho w a).2::(t? (ho w a).1 l).2)
def l0(i:Bool)(key:V):c8:=⟨dg i,key,0,Eh, -1,0,0,0,0,rA,o4,kA,0,0,[],dY,[],[],[0,0,0,0]⟩
def kj(key:V)(fD:Bool):bP:=⟨λi=>l0 i key,(fD,[],false,()),[],[],λ_=>[]⟩
def aco{n:Int}(h:LX n):kq (o9 n)=(n,true,()):=by
 have ht:jX (o9 n) 0 8=(n,8,0,()):=by
  refine aiS (b:=o9 n) (A:=0) (W:=8) (n:=n) J J (by rw[Ja];omega) (by have:=h.1;omega) ?_ h.2 ?_
  .have:=h.2
   omega
  rfl
 unfold kq;rw[ht,if_pos ⟨rfl,h,rfl⟩]
def W1(g:Nat->Bool):∀k,vV g k<2^k
 |0=>by simp[vV]
 |k+1=>by
  have:=W1 g k;unfold vV
  grind
def aiM(g:Nat->Bool)(j:Nat):∀k,j<k->vV g k/2^j%2=if g j then 1 else 0
 |k+1,h=>by
  unfold vV;by_cases asB:j=k
  .subst asB
   have:=W1 g j;have hp:0<2^j:=Qt J;split
   .rw[Nat.add_div_right _ hp,F9 this]
   rw[uy,F9 this]
  have ih:=aiM g j k J;split
  .obtain⟨d,rfl⟩:∃d,k=j+1+d:=⟨k-j-1,J⟩
   have hp:0<2^j:=Qt J;have e:2^(j+1+d)=2^j*(2*2^d):=by rw[DA,Qx,FG]
   rw[<- ih,e,Nat.add_mul_div_left _ _ hp];omega
  omega
def Gg(g:Nat->Bool):(pz g).length=16:=by simp[pz]
def CS(t:Int)(g:Nat->Bool){p:Nat}(hp:p<1024):jJ (t,pz g,()) p=g p:=by
 have e:ao (pz g) (p/64) (u64 0)=UInt64.ofNat (vV (λj=>g (64*(p/64)+j)) 64):=by
  unfold ao pz
  grind
 have bn:=W1 (λj=>g (64*(p/64)+j)) 64;have hm:(UInt64.ofNat (vV (λj=>g (64*(p/64)+j)) 64)).toNat=vV (λj=>g (64*(p/64)+j)) 64:=by rw[UInt64.toNat_ofNat'];exact s? bn
 unfold jJ;rw[ e,hm,aiM _ _ 64 (F5 _ J)]
 grind
def rQ(w:gr)(q:Int):Prop:=q<w.1-1024\/q<w.1/\jJ w (q%1024).toNat=true
def avq{w:gr}{n:Int}(h:(k3 w n).2=0):du n/\yn w n/\k3 w n=((max w.1 (n+1),pz (λp=>mW (D ((p:Int)=n%1024)) (c3 (jJ w p) (D (¬yb w n p)))),()),0):=by
 by_cases O:du n
 .by_cases R:yn w n
  .refine⟨O,R,?_⟩
   unfold k3
   grind
  unfold k3 at h
  grind
 unfold k3 at h
 grind
def ae0(m:Int):0<=m%1024/\(m%1024).toNat<1024/\(((m%1024).toNat:Nat):Int)=m%1024:=⟨J,J,J⟩
def avr{w:gr}{n:Int}(hf:yn w n):¬rQ w n:=by
 rintro(h|⟨af,au⟩)
 .rcases hf with aY|⟨aY,_⟩<;>omega
 rcases hf with aY|⟨_,aY⟩
 .omega
 grind
def aeU{t n:Int}(h:n<t){g:Nat->Bool}(hg:g (n%1024).toNat=true):rQ (t,pz g,()) n:=by refine .inr ⟨h,?_⟩;rw[CS _ _ (ae0 n).2.1];exact hg
def avs{w:gr}{n m:Int}(h:rQ w m):rQ (max w.1 (n+1),pz (λp=>mW (D ((p:Int)=n%1024)) (c3 (jJ w p) (D (¬yb w n p)))),()) m:=by
 rcases h with hm|⟨hm,asK⟩
 .refine .inl ?_
  omega
 by_cases asI:m<max w.1 (n+1)-1024
 .exact .inl asI
 refine aeU J ?_;rw[asK];by_cases ah:yb w n (m%1024).toNat
 .exfalso
  obtain⟨x,aY,cp,dN⟩:=ah;omega
 rw[cF ah];exact g47
def aeV{w:gr}{n:Int}(h:(k3 w n).2=0):du n/\¬rQ w n/\rQ (k3 w n).1 n/\(∀m,rQ w m->rQ (k3 w n).1 m)/\(k3 w n).1.1=max w.1 (n+1)/\(k3 w n).1.2.1.length=16:=by
 have hh:=avq h;refine⟨hh.1,avr hh.2.1,?_,λm hm => ?_,congrArg (λx:gr×Int=>x.1.1) hh.2.2,?_⟩
 .rw[hh.2.2]
  refine aeU J ?_;rw[cF (ae0 n).2.2];exact g46
 .rw[hh.2.2]
  exact avs hm
 rw[hh.2.2];dsimp only;exact Gg _
def kT(b:V):Prop:=¬(kg b).2.1=0/\(eO b).2.1=0/\uk (eO b).1.1/\¬tl (eO b).1
def I?(h:(d4 b).2.1=0):o' (d4 b).1/\(d4 b).1=rK b/\47<=b.length/\b.length<=946:=by
 unfold d4 at h ⊢
 grind
def abj(s:aw)(v:c9)(k:V):(kQ s v k).1.e.ph=s.e.ph/\(kQ s v k).1.e.queue=s.e.queue/\(kQ s v k).1.e.got=s.e.got:=by unfold kQ;split<;>exact⟨rfl,rfl,rfl⟩
def azy(s:aw)(b:V):(ee s b).1.e.ph=s.e.ph/\(ee s b).1.e.queue=s.e.queue/\(ee s b).1.e.got=s.e.got:=by
 unfold ee;split
 .exact⟨rfl,rfl,rfl⟩
 split
 .exact⟨rfl,rfl,rfl⟩
 split
 .exact⟨rfl,rfl,rfl⟩
 dsimp only;split
 .exact abj _ _ _
 exact abj _ _ _
def nG(s:aw):Prop:=∃n,bj n s
def N1(h:(d4 b).2.1=0):(d4 b).1.2.2.1=[ea (d4 b).1,e1 (d4 b).1]:=by
 unfold d4 at h ⊢;split at h
 .cases h
 split at h
 .cases h
 split at h
 .rename_i O R af
  rw[if_neg O,if_neg R,if_pos af];rfl
 cases h
def O'{s:aw}{v:c9}(h:(gy s b).2=some v):(d4 b).2.1=0/\v=(d4 b).1:=by
 unfold gy at h
 grind
def aat(s:aw)(v:c9):(hv s v).1.2.1=s.p.2.1:=by
 unfold hv xf
 repeat(first|rfl|split)
def ayO{e:c8}(h:mH e.ring)(g:Int):mH (qq e g):=by
 unfold qq;split
 .exact Of h
 exact h
def Vz{s:aw}(h:bj n s)(b:V):bj n (gy s b).1:=by
 have hp:∀v,bj n ⟨s.e,(hv s v).1⟩:=λv=>⟨h.e,by show(hv s v).1.2.1.length<=n;rw[aat];exact h.p⟩;unfold gy;split
 .exact o6 h 0
 split
 .exact o6 h 3
 split
 .exact o6 (hp _) 1
 split
 .grind
 split
 .exact o6 (hp _) 2
 rename_i O R af au aY;have hm:=aeV (Cp.1 aY);have cx:=hm.1;have lC:=h.e.top;unfold du at cx;refine⟨{ (hp (d4 b).1).e with win:=hm.2.2.2.2.2,ring:=ayO h.e.ring _,top := ?_ },(hp _).p⟩
 grind
def awO{s:aw}(h:bj n s)(q:de):bj (n+1) (sH s q):=by
 unfold sH;split
 .exact dp (o6 h 3) J
 split
 .exact qG h _
 split
 .exact qG h _
 split
 .split
  .exact qG (Bl h (BC (Jj h.e.ring) _ _)) _
  exact dp (o6 h 3) J
 split
 .exact qG (VA h (BC h.e.ring _ _)) _
 exact dp (o6 h 3) J
def afU{s:aw}(h:bj n s):bj n (rd s):=by
 unfold rd;split
 .exact Bl h (Jj h.e.ring)
 exact h
def awB{s:aw}(h:bj n s)(q:de):bj (n+1) (tg s q):=by
 unfold tg;split
 .exact dp (o6 h 3) J
 split
 .exact dp (afU h) J
 exact Bk (Bl h (Of h.e.ring)) _
def awM{s:aw}(h:bj n s)(b:V):bj (n+1) (sD s b).1:=by
 unfold sD;split
 .exact dp h J
 split
 .exact dp h J
 split
 .exact dp h J
 split
 .exact dp h J
 exact Bk (Vu h _ _) _
def awQ{s:aw}(h:bj n s)(q:de):bj (n+2) (qR s q):=by
 unfold qR;split
 .split
  .exact dp (awO h q) J
  exact dp (awB h q) J
 split
 .split
  .exact dp (awG h q) J
  exact dp (awA h q) J
 exact awN h q
def Vr{s:aw}(h:bj n s){v:c9}(aB:∀k:Nat,du (ao v.2.2.1 k 0)):bj (n+3) (kp s v):=by
 have hf:=IL h;unfold kp;split
 .split
  .exact awQ hf _
  split
  .exact dp (awT hf _ _ _) J
  exact dp (o6 hf 0) J
 split
 .exact awL h aB _
 exact dp (o6 h 0) J
def Vt{s:aw}(h:bj n s)(b:V):bj (n+1003) (lc s b):=by
 have ht:=Vz h b;unfold lc;split
 .exact dp ht J
 rename_i v aB;obtain⟨O,rfl⟩:=O' aB;have ai:o' (d4 b).1:=by
  unfold d4 at O ⊢
  grind
 refine Es (Vr ht λk => ?_);rw[N1 O];match k with
 |0=>exact ai.1.2.1
 |1=>exact ai.1.2.2.1
 |k+2=>show du 0;decide
def afN:∀(l:List V) {s:aw},nG s->nG (tw s l)
 |[],s,h=>h
 |b::l,s,h=>by
  unfold tw;split
  .exact h
  obtain⟨n,h⟩:=h;exact afN l ⟨_,Vt h b⟩
def St{l:List pZ}{x:pZ}(hx:qN x)(hl:∀c,qN (ao l c eJ))(i c:Nat):qN (ao (cn l i x) c eJ):=by
 unfold ao cn;rw[lS,CH];split
 .split
  .exact hx
  exact zi
 rw[<- lS];exact hl c
theorem aB1(a:V)(s b:Int):L4 (a,s,b,())=(eB a:Int):=rfl
def aAU(a:V):eB a<=65535:=by have O:=(a.getD 0 0).toNat_lt;have R:=(a.getD 1 0).toNat_lt;unfold eB;omega
def R5:∀(k:Nat) (bad:Int) (a:V),a.length<=k->qN ((h' k bad a).1,((h' k bad a).2.1:Int),(h' k bad a).2.2.1,())
 |0,bad,a,h=>by have bh:a=[]:=List.eq_nil_of_length_eq_zero J;subst bh;exact⟨by show ¬((0:Int)<0\/(65535:Int)<0\/(0:Int)<0/\0<0);omega,.inl (by show 0<2;omega)⟩
 |k+1,bad,a,h=>by
  have ht:=aAU a;unfold h';split
  .rename_i O
   exact⟨by show ¬((0:Int)<0\/(65535:Int)<0\/(0:Int)<0/\0<a.length);omega,.inl O⟩
  split
  .split
   .exact R5 k _ _ (by grind)
   rename_i R af;refine⟨?_,.inl bp⟩
   grind
  split
  .rename_i R af
   refine⟨by show ¬((0:Int)<0\/(65535:Int)<0\/(0:Int)<0/\0<a.length);omega,.inr ?_⟩;show 1<=(eB a:Int)/\(eB a:Int)<=1024/\(a.length:Int)<(eB a:Int)+2;omega
  exact R5 k _ _ (by grind)
def axJ{f:pZ}(h:qN f)(b:V):qN (jl f b).1:=by
 have O:=h.1;unfold jl;split
 .rename_i R
  refine⟨?_,.inl bp⟩
  grind
 exact R5 _ _ _ bp
def Vs{s:aw}(h:bj n s)(c:Int)(b:V):bj n (q' s c b):=by
 have key:(hY s.e.hub c b).1.1.length=4/\(0<=(hY s.e.hub c b).1.2.2.2.1/\(hY s.e.hub c b).1.2.2.2.1<4)/\(hY s.e.hub c b).1.2.1.length=4/\(hY s.e.hub c b).1.2.2.1.length=4/\∀k,qN (ao (hY s.e.hub c b).1.2.1 k eJ):=by
  unfold hY;split
  .exact⟨h.e.up,h.e.next,h.e.feed,h.e.life,h.e.fd⟩
  split
  .exact⟨h.e.up,h.e.next,h.e.feed,h.e.life,h.e.fd⟩
  refine⟨h.e.up,h.e.next,?_,h.e.life,St (axJ (h.e.fd _) b) h.e.fd _⟩;unfold cn;rw[k7];exact h.e.feed
 refine⟨{ h.e with cJ := ?_,up:=key.1,next:=key.2.1,feed:=key.2.2.1,life:=key.2.2.2.1,fd:=key.2.2.2.2 },h.p⟩;show(Lb _ _).length=4;unfold Lb cn;rw[k7];exact h.e.cJ
def awx{s:aw}(h:nG s)(c:Int)(b:V):nG (qb s c b):=by
 unfold qb;split
 .exact h
 obtain⟨n,h⟩:=h;exact afN _ ⟨n,Vs h c b⟩
def afQ{e:c8}(h:o5 n e)(c:Int):o5 n (oP e c):=by
 have key:(lX e.hub c).1.1.length=4/\(0<=(lX e.hub c).1.2.2.2.1/\(lX e.hub c).1.2.2.2.1<4)/\(lX e.hub c).1.2.1.length=4/\(lX e.hub c).1.2.2.1.length=4/\∀k,qN (ao (lX e.hub c).1.2.1 k eJ):=by
  unfold lX;split
  .exact⟨h.up,h.next,h.feed,h.life,h.fd⟩
  split
  .exact⟨h.up,h.next,h.feed,h.life,h.fd⟩
  refine⟨?_,h.next,?_,h.life,St zi h.fd _⟩
  .unfold cn;rw[k7];exact h.up
  unfold cn;rw[k7];exact h.feed
 exact{ h with up:=key.1,next:=key.2.1,feed:=key.2.2.1,life:=key.2.2.2.1,fd:=key.2.2.2.2 }
def Vy{s:aw}(h:bj n s)(c:Int):bj n ⟨{ s.e with hub:=(mb s.e.hub c).1 },s.p⟩:=by
 have key:(mb s.e.hub c).1.1.length=4/\(0<=(mb s.e.hub c).1.2.2.2.1/\(mb s.e.hub c).1.2.2.2.1<4)/\(mb s.e.hub c).1.2.1.length=4/\(mb s.e.hub c).1.2.2.1.length=4/\∀k,qN (ao (mb s.e.hub c).1.2.1 k eJ):=by
  unfold mb;split
  .exact⟨h.e.up,h.e.next,h.e.feed,h.e.life,h.e.fd⟩
  split
  .exact⟨h.e.up,h.e.next,h.e.feed,h.e.life,h.e.fd⟩
  refine⟨?_,h.e.next,?_,?_,St zi h.e.fd _⟩
  .unfold cn;rw[k7];exact h.e.up
  .unfold cn;rw[k7];exact h.e.feed
  unfold cn;rw[k7];exact h.e.life
 exact⟨{ h.e with up:=key.1,next:=key.2.1,feed:=key.2.2.1,life:=key.2.2.2.1,fd:=key.2.2.2.2 },h.p⟩
def afW{s:aw}(h:bj n s)(c:Int):bj (n+1000) (pO s c).1:=by
 unfold pO;split
 .exact dp h J
 split
 .exact dp h J
 exact Es (Vy h c)
def ayS{r:fq}(h:mH r):mH (J1 r):=by
 unfold J1;rcases h with rfl|⟨O,R,af,au,aY,cp⟩
 .exact .inl rfl
 refine .inr ⟨O,R,af,au,?_,cp⟩
 grind
def xa{s:aw}(h:bj n s):bj n (zj s):=⟨{ h.e with ring:=ayS h.e.ring },h.p⟩
def Od{a:gq}(h:BB a):BB (kF a).1:=by
 unfold kF;split
 .exact h
 rename_i aq;obtain⟨O,R,af,au,aY⟩:=h.resolve_left aq;split
 .refine .inr ⟨O,?_,?_,au,aY⟩
  .grind
  grind
 split
 .refine .inr ⟨O,by show(1:Int)<=8;decide,by show(8:Int)<=8;decide,?_,?_⟩
  .grind
  grind
 exact .inl rfl
def VB{s:aw}(h:bj n s){a:gq}(bh:BB a):bj n (s2 s a):=⟨{ h.e with askr:=bh },h.p⟩
def awJ{s:aw}(h:bj n s):bj n (sg s):=by
 unfold sg;split
 .exact⟨{ h.e with askr:=.inl rfl,ph:=⟨by show(0:Int)<=3;omega,by show(3:Int)<=8;omega⟩ },h.p⟩
 exact h
def awz{s:aw}(h:bj n s)(a:gq):bj (n+1) (qa s a):=by
 unfold qa;split
 .exact NH h _ _
 exact qG h _
def awF{s:aw}(h:bj n s):bj (n+1) (r9 s):=by
 unfold r9;split
 .exact dp (afU h) J
 split
 .exact dp (awJ h) J
 exact awK h
def Et{s:aw}(h:bj n s):bj (n+1) (oB s):=by
 have bw:=VB h (Od h.e.askr);unfold oB;split
 .exact awz bw _
 split
 .exact awF bw
 exact dp bw J
def afY{s:aw}(h:bj n s):bj (n+1001) (ij s):=by
 unfold ij;split
 .exact dp h J
 split
 .split
  .exact dp (Vv (xa h)) J
  exact Es (Et (xa h))
 exact Es (Et h)
def afR{s:aw}(h:bj n s)(a:g3):bj (n+1001) (mr s a).1:=by
 unfold mr;split
 .exact awS h _
 split
 .exact dp (Vv h) J
 split
 .exact dp (awE h) J
 split
 .exact dp (awI h) J
 split
 .exact dp (awM h _) J
 split
 .exact dp (awH h _) J
 split
 .exact afY h
 split
 .exact dp (afP h) J
 split
 .split
  .exact dp (awD h) J
  exact dp h J
 split
 .exact dp ⟨{ h.e with },h.p⟩ J
 exact dp h J
def adT(c:Int):HN (c,())=some (D (kP c),()):=by unfold HN kP;simp only[go_sem]
def adU(h:ej)(c:Int)(b:Bool):HO (h,c,b,()) =
  (if ¬kP c then some (h,1,()) else if ao h.1 c.toNat false=b then some (h,9,()) else some ((cn h.1 c.toNat b,cn h.2.1 c.toNat eJ,h.2.2),0,())):=by
 unfold HO;rw[adT];by_cases ah:kP c
 .rw[cF ah,if_neg (not_not_intro ah)]
  have au:aN c (bi 4)=true:=by unfold kP at ah;simp only[go_sem];exact ah
  refine a2 rfl (bd au ?_);by_cases aC:ao h.1 c.toNat false=b
  .rw[if_pos aC]
   exact b4 (by rw[g43,g33];exact cF aC)
  rw[if_neg aC];exact a2 (by rw[g43,g33];exact cH aC) (bd au (eV au))
 rw[cH ah,if_pos ah];rfl
def atF(h:ej)(c:Int):MQ (h,c,())=some ((lX h c).1,(lX h c).2,()):=by
 unfold MQ lX;rw[adU];by_cases ah:kP c
 .rw[if_neg (not_not_intro ah),if_neg (not_not_intro ah)]
  by_cases aC:ao h.1 c.toNat false=false
  .rw[if_pos aC,if_pos (by unfold mN;rw[aC];simp)];rfl
  rw[if_neg aC,if_neg (by unfold mN;rw[Yl]at aC;exact not_not_intro aC)];rfl
 rw[if_pos ah,if_pos ah];rfl
def atI(h:ej)(c:Int):MS (h,c,())=some ((mb h c).1,(mb h c).2,()):=by
 unfold MS mb;rw[adU];by_cases ah:kP c
 .rw[if_neg (not_not_intro ah),if_neg (not_not_intro ah)]
  have au:aN c (bi 4)=true:=by unfold kP at ah;simp only[go_sem];exact ah
  by_cases aC:ao h.1 c.toNat false=true
  .rw[if_pos aC,if_pos (show mN h c from aC)];rfl
  rw[if_neg aC,if_neg (show ¬mN h c from aC)];exact aS rfl (bm rfl (bd au (eV au)))
 rw[if_pos ah,if_pos ah];rfl
def ayX{r:fq}(h:0<=r.2.2.2.1/\r.2.2.2.1<=1000000):Oi (r,())=some (J1 r,()):=by
 unfold Oi J1;have e:c6 0 (i64 (bq r.2.2.2.1 1))=max 0 (r.2.2.2.1-1):=by rw[g58,show i64 (bq r.2.2.2.1 1)=r.2.2.2.1-1 from iJ (by show -9223372036854775808<=r.2.2.2.1-1;omega) (by show r.2.2.2.1-1<=9223372036854775807;omega)]
 rw[e];by_cases hl:r.2.2.2.1<=1
 .rw[if_pos hl];exact b4 (cI J)
 rw[if_neg hl];exact bT (cv J)
theorem aCJ(r:fq):Ok ((r,()),())=some ([r.1,r.2.1,r.2.2.1],()):=rfl
def ayU(r:fq)(no:Int):Jk (r,no,())=some (ra r no):=by
 unfold Jk ra;refine aS rfl ?_;dsimp only;generalize hf:(λ(Y:Bool×Int×Unit)=>(_:Option (aF (Bool×Int×Unit) (V×Bool×Unit))))=f;have g:∀(i:Nat) (G6:xK),i<3->ao [r.1,r.2.1,r.2.2.1] i lP=G6->f (false,(i:Int),())=if no<1\/¬G6.1=no then some (.nx (false,((i+1:Nat):Int),())) else some (.rt (G6.2.1,true,())):=by
  intro i G6 ac hg;subst hf;have fk:i64 (aE (i:Int) 1)=((i+1:Nat):Int):=fY (by show(i:Int)+1=_;omega) J;refine bm (di (by show(i:Int)<3;omega)) (bd cS ?_);rw[gx,hg,fk];by_cases aq:no<1
  .rw[if_pos (.inl aq)]
   exact aS (bT (cR J)) (bT rfl)
  by_cases O:G6.1=no
  .rw[if_neg (by rintro(h|h);exact aq h;exact h O)]
   exact aS (a:=(true,())) (bm (di J) (by rw[cI O])) (b4 rfl)
  rw[if_pos (.inr O)];exact aS (a:=(false,())) (bm (di J) (by rw[cv O])) (bT rfl)
 have gv:f (false,3,())=some (.ex 0 (false,3,())):=by subst hf;exact bT (cR (by show ¬(3:Int)<3;omega))
 have g0:=g 0 r.1 J rfl;have g1:=g 1 r.2.1 J rfl;have cD:=g 2 r.2.2.1 J rfl;by_cases aq:no<1
 .rw[if_pos aq]
  rw[if_pos (.inl aq)]at g0 g1 cD;exact(cW ((ev g0).trans ((ev g1).trans ((ev cD).trans (ec gv))))).trans rfl
 rw[if_neg aq];by_cases O:r.1.1=no
 .rw[if_pos O]
  rw[if_neg (by rintro(h|h);exact aq h;exact h O)]at g0;exact(cW (o2 g0)).trans rfl
 rw[if_neg O];rw[if_pos (.inr O)]at g0;by_cases R:r.2.1.1=no
 .rw[if_pos R]
  rw[if_neg (by rintro(h|h);exact aq h;exact h R)]at g1;exact(cW ((ev g0).trans (o2 g1))).trans rfl
 rw[if_neg R];rw[if_pos (.inr R)]at g1;by_cases af:r.2.2.1.1=no
 .rw[if_pos af]
  rw[if_neg (by rintro(h|h);exact aq h;exact h af)]at cD;exact(cW ((ev g0).trans ((ev g1).trans (o2 cD)))).trans rfl
 rw[if_neg af];rw[if_pos (.inr af)]at cD;exact(cW ((ev g0).trans ((ev g1).trans ((ev cD).trans (ec gv))))).trans rfl
def akT{a:gq}(h:BB a):CO (a,())=some ((kF a).1,(kF a).2.1,(kF a).2.2,()):=by
 unfold CO kF;rw[YR];by_cases aq:a=kA
 .rw[cF aq,if_pos aq];rfl
 rw[cH aq,if_neg aq];rcases h with h|⟨_,O,R,af,au⟩
 .grind
 have e1:i64 (bq a.2.2.1 1)=a.2.2.1-1:=iJ (by show -9223372036854775808<=a.2.2.1-1;omega) (by show a.2.2.1-1<=9223372036854775807;omega);have aU:i64 (bq a.2.2.2.1 1)=a.2.2.2.1-1:=iJ (by show -9223372036854775808<=a.2.2.2.1-1;omega) (by show a.2.2.2.1-1<=9223372036854775807;omega);rw[e1,aU];by_cases aY:1<a.2.2.1
 .rw[if_pos aY];exact b4 (di J)
 rw[if_neg aY];refine(bT (cR J)).trans ?_;by_cases cp:0<a.2.2.2.1
 .rw[if_pos cp,di cp];rfl
 rw[if_neg cp,cR cp];rfl
def axA(p:eG)(k b t:V)(am:k.length<=1000000)(aa:b.length<=1000000):EA (p,k,b,t,())=some (xf p k b t):=by
 unfold EA;rw[V2 _ _ am aa];refine aS rfl ?_;rw[Ng _ _ (by rw[BD];omega)];unfold xf;obtain⟨i,l,f,⟨⟩⟩:=p;by_cases ht:jV k b=t
 .rw[if_pos ht]
  refine a2 (by first|rw[WA ht];rfl|rw[cF ht];rfl) ?_;rw[agk];by_cases h:(k,b,())∈l
  .rw[cF h,if_pos h];cases f<;>rfl
  rw[cH h,if_neg h];cases f<;>rfl
 rw[if_neg ht];exact b4 (by first|rw[OG ht];rfl|rw[cH ht];rfl)
def K0:=@UInt64.toNat_inj
def aw1(a b:UInt64):u64 (g' .u64 (cL a) (cL b))=a|||b:=by
 unfold g';refine K0.1 ?_;have bh:(BitVec.ofInt IntKind.u64.bits (cL a))=a.toBitVec:=by show BitVec.ofInt 64 ((a.toNat:Nat):Int)=_;rw[xJ];exact rX bp
 have aa:(BitVec.ofInt IntKind.u64.bits (cL b))=b.toBitVec:=by show BitVec.ofInt 64 ((b.toNat:Nat):Int)=_;rw[xJ];exact rX bp
 rw[bh,aa];have:=Ef (a:=(((a|||b).toNat:Nat):Int)) (by have:=(a|||b).toNat_lt;omega);exact Qo this
def akB(a b:UInt64):u64 (i9 .u64 (cL a) (cL b))=a&&&b:=by
 unfold i9;refine K0.1 ?_;have bh:(BitVec.ofInt IntKind.u64.bits (cL a))=a.toBitVec:=by show BitVec.ofInt 64 ((a.toNat:Nat):Int)=_;rw[xJ];exact rX bp
 have aa:(BitVec.ofInt IntKind.u64.bits (cL b))=b.toBitVec:=by show BitVec.ofInt 64 ((b.toNat:Nat):Int)=_;rw[xJ];exact rX bp
 rw[bh,aa];have:=Ef (a:=(((a&&&b).toNat:Nat):Int)) (by have:=(a&&&b).toNat_lt;omega);exact Qo this
def aBI(a b:UInt64):u64 (fT .u64 (cL a) (cL b))=a^^^b:=by
 unfold fT;refine K0.1 ?_;have bh:(BitVec.ofInt IntKind.u64.bits (cL a))=a.toBitVec:=by show BitVec.ofInt 64 ((a.toNat:Nat):Int)=_;rw[xJ];exact rX bp
 have aa:(BitVec.ofInt IntKind.u64.bits (cL b))=b.toBitVec:=by show BitVec.ofInt 64 ((b.toNat:Nat):Int)=_;rw[xJ];exact rX bp
 rw[bh,aa];have:=Ef (a:=(((a^^^b).toNat:Nat):Int)) (by have:=(a^^^b).toNat_lt;omega);exact Qo this
def Gf(w:gr)(p:Nat):jJ w p=(ao w.2.1 (p/64) (u64 0)).toNat.testBit (p%64):=by rw[Nat.testBit_eq_decide_div_mod_eq];rfl
def Y9{l m:List UInt64}(hl:l.length=16)(hm:m.length=16){t u:Int}(h:∀p,p<1024->jJ (t,l,()) p=jJ (u,m,()) p):l=m:=by
 refine pq (hl.trans hm.symm) λi O R => ?_;refine K0.1 (Nat.eq_of_testBit_eq λj => ?_);by_cases ap:j<64
 .have:=h (64*i+j) J
  rw[Gf,Gf,show(64*i+j)/64=i by omega,show(64*i+j)%64=j by omega]at this;rw[show ao (((t,l,()):gr).2.1) i (u64 0)=l[i] from nth_get O,show ao (((u,m,()):gr).2.1) i (u64 0)=m[i] from nth_get R]at this;exact this
 have hp:2^64<=2^j:=zP J J;rw[Nat.testBit_lt_two_pow (gN (l[i]).toNat_lt hp),Nat.testBit_lt_two_pow (gN (m[i]).toNat_lt hp)]
def Y7{g g6:Nat->Bool}(h:∀p,p<1024->g p=g6 p):pz g=pz g6:=
 Y9 (t:=0) (u:=0) (Gg g) (Gg g6) λp hp=>by rw[CS _ _ hp,CS _ _ hp];exact h p hp
def Q4{l:List UInt64}(hl:l.length=16){t:Int}{g:Nat->Bool}(h:∀p,p<1024->jJ (t,l,()) p=g p):l=pz g:=
 Y9 (t:=t) (u:=0) hl (Gg g) λp hp=>by rw[CS _ _ hp];exact h p hp
def uR(k:Nat):UInt64:=UInt64.ofNat (2^k)
def Q9(h:k<64):(uR k).toNat=2^k:=by exact s? (Nat.pow_lt_pow_right J h)
def Zb(h:k<64)(j:Nat):(uR k).toNat.testBit j=decide (k=j):=by rw[Q9 h,Nat.testBit_two_pow]
def ajs{n:Int}(h:0<=n):Kh (n,())=some ((((n%1024).toNat/64:Nat):Int),uR ((n%1024).toNat%64),()):=by
 unfold Kh;obtain⟨q,aQ⟩:∃q:Nat,n%1024=(q:Int):=⟨(n%1024).toNat,J⟩;have e1:fR n 1024=(q:Int):=by rw[g32 h];exact aQ
 have aU:fR (q:Int) 64=((q%64:Nat):Int):=by rw[g32 J];omega
 have d8:i64 (gd (q:Int) 64)=((q/64:Nat):Int):=by rw[g31 J];exact fY rfl J
 rw[e1,aU,d8,aQ,e7];refine bd rfl ?_;have hc:u64 (h0 IntKind.u64 (cL (u64 1)) ((q%64:Nat):Int))=uR (q%64):=by
  refine K0.1 ?_;rw[Q9 (F5 _ J)];have pC:h0 IntKind.u64 (cL (u64 1)) ((q%64:Nat):Int)=((2^(q%64):Nat):Int):=by unfold h0;rw[e7,show IntKind.u64.bits=64 from rfl,show cL (u64 1)=1 from Ef bO,Int.one_mul,show Nat.min (q%64) 64=q%64 from F2 J];rfl
  rw[pC];have aqM:=axx (k:=q%64) J;have:∀m:Nat,m<=9223372036854775808->cL (u64 (m:Int))=(m:Int):=λm hm=>Ef J;exact Qo (this _ aqM)
 rw[hc]
def aBs{w:gr}(bw:w.2.1.length=16){n:Int}(h:0<=n):PB (w,n,())=some (jJ w (n%1024).toNat,()):=by
 unfold PB;rw[ajs h];have m4:(n%1024).toNat<1024:=J;generalize(n%1024).toNat=q at m4;refine bd cS ?_;rw[akB,gx,Gf];generalize ao w.2.1 (q/64) (u64 0)=x;congr 2;have e:(x&&&uR (q%64)).toNat=if x.toNat.testBit (q%64) then 2^(q%64) else 0:=by
  rw[UInt64.toNat_and,Q9 (F5 _ J)];refine Nat.eq_of_testBit_eq λj => ?_
  grind
 have hp:0<2^(q%64):=Qt J;rw[ avZ,e];generalize 2^(q%64)=m at hp;cases x.toNat.testBit (q%64)
 .rfl
 show bg (aj ((m:Nat):Int) 0)=true;rw[cv J];rfl
def aBq{w:gr}(bw:w.2.1.length=16)(ht:0<=w.1/\w.1<=4611686018427387905)(n:Int):XR (w,n,())=some (D (du n/\yn w n),()):=by
 by_cases h:du n
 .have aq:0<=n:=h.1
  have O:n<=4611686018427387904:=h.2;by_cases R:w.1<=n
  .refine aS (a:=(true,())) (bm (lH aq) (bm (lH O) (b4 (lH R)))) ?_
   rw[cF ⟨h,.inl R⟩]
  have e:i64 (bq w.1 1024)=w.1-1024:=iJ (by show -9223372036854775808<=w.1-1024;omega) (by show w.1-1024<=9223372036854775807;omega);by_cases af:w.1-1024<=n
  .refine aS (a:=(bg (jJ w (n%1024).toNat),())) (bm (lH aq) (bm (lH O) (a2 (oo R) (bm (by rw[e];exact lH af) ?_)))) ?_
   .rw[aBs bw aq];rfl
   cases aa:jJ w (n%1024).toNat
   .rw[cF ⟨h,.inr ⟨af,aa⟩⟩];rfl
   rw[cH (λbE=>bE.2.elim R (λMp=>by rw[aa]at Mp;exact absurd Mp.2 bp))];rfl
  refine aS (a:=(false,())) (bm (lH aq) (bm (lH O) (a2 (oo R) (bT (by rw[e];exact oo af))))) ?_;rw[cH (λbE=>bE.2.elim R (λMp=>af Mp.1))]
 rw[cH (λbE=>h bE.1)];by_cases aq:0<=n
 .refine aS (a:=(false,())) (bm (lH aq) (bT (oo λO=>h ⟨aq,O⟩))) rfl
 exact aS (a:=(false,())) (bT (oo aq)) rfl
def Jy(w:gr)(n:Int)(b:Bool):gr:=(w.1,pz (λp=>if p=(n%1024).toNat then b else jJ w p),())
def Q2{l:List UInt64}(hl:l.length=16){t:Int}{q:Nat}(aQ:q<1024){x:UInt64}{b:Bool}
  (hx:∀j,x.toNat.testBit j=if j=q%64 then b else(ao l (q/64) (u64 0)).toNat.testBit j) {p:Nat} (hp:p<1024) :
  jJ (t,cn l (q/64) x,()) p=if p=q then b else jJ (t,l,()) p:=by
 rw[Gf,Gf];have ap:p/64<l.length:=J;have kV:p/64<(l.set (q/64) x).length:=by rw[k7];exact ap
 show(ao (l.set (q/64) x) (p/64) (u64 0)).toNat.testBit (p%64)=_;rw[nth_get kV,wa];by_cases h:q/64=p/64
 .grind
 rw[if_neg h,if_neg J,nth_get ap]
def ajt{w:gr}(bw:w.2.1.length=16){n:Int}(h:0<=n)(b:Bool):zB (w,n,b,())=some (Jy w n b,()):=by
 unfold zB Jy;rw[ajs h];have m4:(n%1024).toNat<1024:=J;generalize(n%1024).toNat=q at m4;have ac:q/64<w.2.1.length:=J;refine bd cS (bd cS ?_);simp only[aw1,aBI,gx];have l8:∀j,(ao w.2.1 (q/64) (u64 0)|||uR (q%64)).toNat.testBit j=if j=q%64 then true else(ao w.2.1 (q/64) (u64 0)).toNat.testBit j:=by
  intro j;rw[UInt64.toNat_or,KS,Zb (F5 _ J)]
  grind
 have wJ:(cn w.2.1 (q/64) (ao w.2.1 (q/64) (u64 0)|||uR (q%64))).length=16:=by unfold cn;rw[k7];exact bw
 cases b
 .refine bm rfl (bd cS (bd cS ?_))
  congr 4;have ak:ao (cn w.2.1 (q/64) (ao w.2.1 (q/64) (u64 0)|||uR (q%64))) (q/64) (u64 0)=ao w.2.1 (q/64) (u64 0)|||uR (q%64):=by
   have:q/64<(w.2.1.set (q/64) (ao w.2.1 (q/64) (u64 0)|||uR (q%64))).length:=by rw[k7];exact ac
   show ao (w.2.1.set (q/64) _) (q/64) (u64 0)=_;rw[nth_get this,List.getElem_set_self]
  refine Q4 (t:=w.1) (by unfold cn at wJ ⊢;rw[k7];exact wJ) λp hp => ?_;rw[Q2 wJ m4 (b:=false) (λj => ?_) hp]
  .by_cases R:p=q
   .grind
   rw[if_neg R,if_neg R,Q2 bw m4 l8 hp,if_neg R]
  rw[ak,UInt64.toNat_xor,Nat.testBit_xor,l8,Zb (F5 _ J)]
  grind
 refine a2 rfl ?_;congr 4;refine Q4 (t:=w.1) wJ λp hp => ?_;exact Q2 bw m4 l8 hp
def k9(w:gr)(t:Int)(k:Nat):gr:=(w.1,pz (λp=>c3 (jJ w p) (D (¬∃m,t<=m/\m<t+k/\m%1024=(p:Int)))),())
def aaz(w:gr)(t:Int)(k:Nat):(k9 w t k).1=w.1:=by unfold k9;rfl
def aay(w:gr)(t:Int)(k:Nat):(k9 w t k).2.1.length=16:=by unfold k9;dsimp only;exact Gg _
def aog(w:gr)(t:Int)(k:Nat)(u:Int){p:Nat}(hp:p<1024):jJ (u,(k9 w t k).2) p=c3 (jJ w p) (D (¬∃m,t<=m/\m<t+k/\m%1024=(p:Int))):=by unfold k9;exact CS _ _ hp
def aoi{w:gr}(bw:w.2.1.length=16)(t:Int):k9 w t 0=w:=by obtain⟨a,l,⟨⟩⟩:=w;unfold k9;congr 2;refine(Q4 (t:=a) bw λp hp => ?_).symm;rw[cF J];cases jJ (a,l,()) p<;>rfl
def aoh(w:gr){t:Int}(ht:0<=t)(k:Nat):Jy (k9 w t k) (t+k) false=k9 w t (k+1):=by
 unfold Jy;unfold k9;congr 2;refine Y7 λp hp => ?_;rw[CS _ _ hp];by_cases h:p=((t+(k:Int))%1024).toNat
 .rw[if_pos h,cH]
  .cases jJ w p<;>rfl
  exact not_not_intro ⟨t+k,J,J,J⟩
 rw[if_neg h];congr 2;refine propext (not_congr ⟨λ⟨m,O,R,af⟩=>⟨m,O,J,af⟩,λ⟨m,O,R,af⟩=>⟨m,O,?_,af⟩⟩);omega
def aBr{w:gr}(bw:w.2.1.length=16)(ht:0<=w.1/\w.1<=4611686018427387905)(n:Int):Ft (w,n,())=some ((k3 w n).1,(k3 w n).2,()):=by
 unfold Ft k3;dsimp only;by_cases h:du n
 .have aq:0<=n:=h.1
  have O:n<=4611686018427387904:=h.2;rw[if_neg (not_not_intro h)];refine(dr (a:=(false,())) ((bT (cR J)).trans (by rw[cR J]))).trans ((bT rfl).trans ?_);rw[aBq bw ht];by_cases hf:yn w n
  .rw[cF ⟨h,hf⟩,if_neg (not_not_intro hf)]
   have e1:i64 (bq n w.1)=n-w.1:=iJ (by show -9223372036854775808<=n-w.1;omega) (by show n-w.1<=9223372036854775807;omega);have aU:c6 w.1 (i64 (aE n 1))=max w.1 (n+1):=by rw[g58,show i64 (aE n 1)=n+1 from iJ (by show -9223372036854775808<=n+1;omega) (by show n+1<=9223372036854775807;omega)]
   obtain⟨K,gb⟩:∃K:Nat,f6 (c6 (n-w.1) 0) 1024=(K:Int):=⟨(f6 (c6 (n-w.1) 0) 1024).toNat,by rw[g57,g58];omega⟩;have l1:(K:Int)=min (max (n-w.1) 0) 1024:=by rw[<- gb,g57,g58]
   simp only[e1];generalize hg:(λ(Y:Int×gr×Unit)=>(_:Option (aF (Int×gr×Unit) (gr×Int×Unit))))=f;have run:∀w0:gr,w0.1=w.1->w0.2.1.length=16->bK f (0,w0,())=some (.ex 0 ((K:Int),k9 w0 w.1 K,())):=by
    intro w0 S7 S8;have step:∀i:Nat,i<K->f ((i:Int),k9 w0 w.1 i,())=some (.nx (((i+1:Nat):Int),k9 w0 w.1 (i+1),())):=by
     intro i ac;subst hg;have fk:i64 (aE (i:Int) 1)=((i+1:Nat):Int):=fY (by show(i:Int)+1=_;omega) J;refine(b4 (di J)).trans ?_;have d8:i64 (aE (k9 w0 w.1 i).1 (i:Int))=w.1+i:=by rw[aaz,S7];exact iJ (by show -9223372036854775808<=w.1+(i:Int);omega) (by show w.1+(i:Int)<=9223372036854775807;omega)
     rw[d8,ajt (aay _ _ _) J,aoh w0 J,fk];rfl
    have gv:f ((K:Int),k9 w0 w.1 K,())=some (.ex 0 ((K:Int),k9 w0 w.1 K,())):=by subst hg;exact bT (cR J)
    have:=(lh (f:=f) (λi=>((i:Int),k9 w0 w.1 i,())) K step 0 (nV _)).trans (ec gv);rw[show k9 w0 w.1 0=w0 from aoi S8 w.1]at this;exact this
   have last:∀w0:gr,w0.1=w.1->(∀p,p<1024->c3 (jJ w0 p) (D (¬yb w n p))=c3 (jJ w p) (D (¬yb w n p))) ->
     (an (bX 0 0) (ob (zB ((c6 (k9 w0 w.1 K).1 (i64 (aE n 1)),(k9 w0 w.1 K).2),n,true,())) λ(a:gr×Unit)=>some (a.1,0,())):Option (gr×Int×Unit)) =
     some ((max w.1 (n+1),pz (λp=>mW (D ((p:Int)=n%1024)) (c3 (jJ w p) (D (¬yb w n p)))),()),0,()):=by
    intro w0 S7 S8;refine(eV g62).trans ?_;rw[aaz,S7,aU,ajt (w:=(max w.1 (n+1),(k9 w0 w.1 K).2)) (aay w0 w.1 K) aq];refine(dr rfl).trans ?_;unfold Jy;dsimp only;congr 4;refine Y7 λp hp => ?_;have hc:jJ (max w.1 (n+1),(k9 w0 w.1 K).2) p=c3 (jJ w0 p) (D (¬∃m,w.1<=m/\m<w.1+K/\m%1024=(p:Int))):=aog _ _ _ _ hp;rw[hc];by_cases m3:p=(n%1024).toNat
    .rw[if_pos m3,cF (show(p:Int)=n%1024 by omega)];rfl
    rw[if_neg m3,cH (show ¬(p:Int)=n%1024 by omega),<- S8 p hp];congr 2;refine propext (not_congr ?_);constructor
    .rintro⟨m,bD,cr,gR⟩;exact⟨m,bD,J,gR⟩
    rintro⟨m,bD,cr,gR⟩;refine⟨w.1+(m-w.1)%1024,J,J,J⟩
   by_cases aa:1024<=n-w.1
   .refine(b4 (lH aa)).trans ?_
    refine(cW (run (w.1,rA.2.1,w.2.2) rfl rfl)).trans (lc_ex'.trans ?_);refine last (w.1,rA.2.1,w.2.2) rfl λp hp => ?_;rw[cH (p:=¬yb w n p) (not_not_intro ⟨w.1+((p:Int)-w.1)%1024,J,J,J⟩),g45,g45]
   refine(bT (oo aa)).trans ?_;refine(cW (run w rfl bw)).trans (lc_ex'.trans ?_);exact last w rfl λp hp=>rfl
  rw[cH (λbE=>hf bE.2),if_pos hf];refine(dr rfl).trans (b4 rfl)
 rw[if_pos h];by_cases aq:n<0
 .exact(dr (a:=(true,())) (b4 (di aq))).trans (b4 rfl)
 refine(dr (a:=(true,())) ((bT (cR aq)).trans (by rw[di];by_cases O:4611686018427387904<n;exact O;exact absurd ⟨J,J⟩ h))).trans (b4 rfl)
def Gx(l:V)(h:l.length<=100000000):nO (l,())=some (l,()):=by exact eV cS
def Xl{w:Int}(bw:1<=w/\w<8)(bh:0<=a/\a+w<=b.length):jX b a w=(fG b a w,a+w,0,()):=by
 have:jX b a w=((mU (ef b a.toNat w.toNat):Int),a+w,0,()):=by
  unfold jX
  grind
 unfold fG
 grind
def Xk(bh:0<=a/\a+8<=b.length):jX b a 8=(fG b a 8,a+8,0,())\/jX b a 8=(0,0,2,())/\fG b a 8 = -1:=by
 by_cases h:(8:Int)=8/\127<(ao b a.toNat (u8 0)).toNat
 .have:jX b a 8=(0,0,2,()):=by
   unfold jX
   grind
  unfold fG
  grind
 have:jX b a 8=((mU (ef b a.toNat (8:Int).toNat):Int),a+8,0,()):=by
  unfold jX
  grind
 unfold fG
 grind
def apa(b:V):LV (b,())=some (d4 b):=by
 unfold LV d4;by_cases O:b.length<47
 .rw[if_pos O];exact b4 (di (by show(b.length:Int)<47;omega))
 rw[if_neg O];refine a2 (cR (by show ¬(b.length:Int)<47;omega)) ?_;by_cases R:946<b.length
 .rw[if_pos R];exact b4 (di (by show(946:Int)<(b.length:Int);omega))
 rw[if_neg R];refine a2 (cR (by show ¬(946:Int)<(b.length:Int);omega)) ?_;have aa:b.length<=1000000:=J;have e:i64 (bq (len b) 16)=((b.length-16:Nat):Int):=fY (by show(b.length:Int)-16=_;omega) J;have bz:sub b 30 ((b.length-16:Nat):Int)=(b.drop 30).take (b.length-46):=by rfl
 have ay:sub b ((b.length-16:Nat):Int) (len b)=b.drop (b.length-16):=by unfold sub;rw[e7,il];rw[eU];show _<=(b.length:Int).toNat-_;omega
 have c1:b8 30 ((b.length-16:Nat):Int) (len b)=true:=cS;have c2:b8 ((b.length-16:Nat):Int) (len b) (len b)=true:=cS;have dZ:((b.drop 30).take (b.length-46)).length<=1000000:=by rw[io];omega
 have fc:(b.drop (b.length-16)).length<=1000000:=by rw[eU];omega
 have two:∀k:V×Unit->V×Unit->Option (c9×Int×Unit),(an (b8 30 (i64 (bq (len b) 16)) (len b)) (ob (nO (sub b 30 (i64 (bq (len b) 16)),())) λc=>
   an (b8 (i64 (bq (len b) 16)) (len b) (len b)) (ob (nO (sub b (i64 (bq (len b) 16)) (len b),())) λd=>k c d)))=k ((b.drop 30).take (b.length-46),()) (b.drop (b.length-16),()):=by
  intro k;rw[e,bz,ay];exact bd c1 (aS (Gx _ J) (bd c2 ((cw (Gx _ J)).trans (dr rfl))))
 have qK:∀(a w:Int) (k:Int×Int×Int×Unit->Option (c9×Int×Unit)),ob (lZ (b,a,w,())) k=k (jX b a w):=λa w k=>(cw (aa4 b a w aa)).trans (dr rfl);have DU:aN 0 (bi 2)=true:=rfl;have wW:aN (i64 (aE 0 1)) (bi 2)=true:=rfl;have Un:aN 1 (bi 2)=true:=rfl;have AQ:aN 0 (bi 1)=true:=rfl;have vJ:=Xl (b:=b) (a:=0) (w:=1) J J;have bL:=Xl (b:=b) (a:=1) (w:=1) J J;have dv:=Xl (b:=b) (a:=18) (w:=4) J J;rw[show(0:Int)+1=1 from rfl]at vJ;rw[show(1:Int)+1=2 from rfl]at bL;rw[show(18:Int)+4=22 from rfl]at dv;have avf:c6 0 1=1:=rfl;have avg:c6 1 2=2:=rfl;have Vj:fG b 2 8 = -1\/fG b 10 8 = -1\/fG b 22 8 = -1->¬o' (rK b):=by
  intro h ai;have hp:iE (rK b):=by unfold o' at ai;first|exact ai.1|exact ai.2|exact ai
  unfold iE du at hp;have ajI:ea (rK b)=fG b 2 8:=rfl;have aCT:e1 (rK b)=fG b 10 8:=rfl;have z3:(rK b).2.2.2.2.1=fG b 22 8:=rfl;omega
 refine bd DU ((qK _ _ _).trans (bd wW ((qK _ _ _).trans ?_)));rw[vJ];rw[avf,bL];rw[avg];refine bm rfl (bd DU (bd Un (bd DU ((qK _ _ _).trans (bm rfl (bd wW ((qK _ _ _).trans ?_)))))));rcases Xk (b:=b) (a:=2) J with ca|⟨ca,jC⟩
 .rw[show(2:Int)+8=10 from rfl]at ca
  rw[ca];rw[show c6 2 10=10 from rfl];refine bm rfl (bd AQ ((qK _ _ _).trans ?_));rcases Xk (b:=b) (a:=10) J with cq|⟨cq,qD⟩
  .rw[show(10:Int)+8=18 from rfl]at cq
   rw[cq];rw[show c6 10 18=18 from rfl,dv];rw[show c6 18 22=22 from rfl];refine bm rfl (bd AQ ((qK _ _ _).trans (bm rfl ((two _).trans ?_))));have aB:Db ((fG b 0 1,fG b 1 1,cn (cn [0,0] (ae 0) (fG b 2 8)) (ae 1) (fG b 10 8),fG b 18 4,(jX b 22 8).1,(b.drop 30).take (b.length-46),b.drop (b.length-16),()),())=some (D (o' (fG b 0 1,fG b 1 1,[fG b 2 8,fG b 10 8],fG b 18 4,(jX b 22 8).1,(b.drop 30).take (b.length-46),b.drop (b.length-16),())),()):=abo _;rcases Xk (b:=b) (a:=22) J with e'|⟨e',avY⟩
   .rw[e']at aB ⊢
    rw[aB];by_cases ai:o' (rK b)
    .rw[show o' (fG b 0 1,fG b 1 1,[fG b 2 8,fG b 10 8],fG b 18 4,fG b 22 8,(b.drop 30).take (b.length-46),b.drop (b.length-16),())=o' (rK b) from rfl,cF ai,if_pos ai];rfl
    rw[show o' (fG b 0 1,fG b 1 1,[fG b 2 8,fG b 10 8],fG b 18 4,fG b 22 8,(b.drop 30).take (b.length-46),b.drop (b.length-16),())=o' (rK b) from rfl,cH ai,if_neg ai];rfl
   rw[e',if_neg (Vj (.inr (.inr avY)))];rfl
  rw[cq,if_neg (Vj (.inr (.inl qD)))];exact a2 rfl (bd AQ ((qK _ _ _).trans (two _)))
 rw[ca,if_neg (Vj (.inl jC))];exact a2 rfl (bd AQ ((qK _ _ _).trans (bd AQ ((qK _ _ _).trans (two _)))))
def K3:∀{l m:List Int},l.length=m.length->(mT (λ(p q:Int)=>aj p q) l m=true↔l=m)
 |[],[],_=>by simp[mT]
 |a::l,b::m,h=>by have ih:=K3 (l:=l) (m:=m) (by grind);unfold mT at ih ⊢;rw[Qp,FN,cP,ih,zS];refine and_congr_left λ_ => ?_;exact beq_iff_eq
def M8(s:aw):k1 (s.t,2,())=some ((f? s 0).t,()):=by exact(cW (vq 5 rfl)).trans rfl
def auT(s:aw):k1 (s.t,5,())=some ((f? s 1).t,()):=by exact(cW (vq 5 rfl)).trans rfl
def auU(s:aw):k1 (s.t,6,())=some ((f? s 2).t,()):=by exact(cW (vq 5 rfl)).trans rfl
def Wa{g:xK}(h:g=ke\/t2 g):g.2.1.length<=32:=by
 rcases h with rfl|h
 .show([]:V).length<=32;simp
 exact KO h.2.2
def ayP{r:fq}(h:mH r):r.1.2.1.length<=32/\r.2.1.2.1.length<=32/\r.2.2.1.2.1.length<=32:=by
 rcases h with rfl|⟨O,_,_,_,R,af⟩
 .exact⟨by show([]:V).length<=32;simp,by show([]:V).length<=32;simp,by show([]:V).length<=32;simp⟩
 refine⟨Wa (.inr O),Wa ?_,Wa ?_⟩
 .grind
 grind
def apD{r:fq}(h:mH r)(n:Int):(ra r n).1.length<=32:=by
 obtain⟨O,R,af⟩:=ayP h;unfold ra
 grind
def axa(e:c8):(fE e).length=2:=by
 unfold fE;split
 .rfl
 split<;>rfl
def sK(s:aw)(b:V):aw×Nat×c9:=
 if ¬(d4 b).2.1=0 then(s,2,sF) else if pT s.e (d4 b).1 then(s,13,sF)
 else if(hv s (d4 b).1).2.1=false then(⟨s.e,(hv s (d4 b).1).1⟩,5,sF) else(⟨s.e,(hv s (d4 b).1).1⟩,0,(d4 b).1)
def auW{s:aw}(ab:bj n s)(b:V):M_ (s.t,b,())=some ((sK s b).1.t,(sK s b).2.1,(sK s b).2.2,()):=by
 unfold M_ sK;dsimp only;rw[apa];refine aS rfl ?_;by_cases aq:(d4 b).2.1=0
 .rw[if_neg (not_not_intro aq)]
  refine bm (cI aq) ?_;obtain⟨ai,aqI,_,_⟩:=I? aq;have sy:=N1 aq;generalize(d4 b).1=v at ai sy aqI;have hid:=ab.e.id;have am:=ab.e.key;have e1:i64 (bq 1 s.e.id)=1-s.e.id:=iJ (by show -9223372036854775808<=1-s.e.id;omega) (by show 1-s.e.id<=9223372036854775807;omega);have fst:(T (aj v.2.1 (i64 (bq 1 s.e.id))) (T (bg (aj s.e.ph 7)) (some (bg (aj s.e.ph 8),())) (some (false,()))) (some (false,())):Option (Bool×Unit))=some (D (v.2.1=1-s.e.id/\¬s.e.ph=7/\¬s.e.ph=8),()):=by rw[e1];simp(disch:=first|assumption|omega|(dsimp only;omega)|decide) only[go_sem,Int.reduceToNat];exact pR and_assoc
  refine aS (show _=some (D (v.2.1=1-s.e.id/\¬s.e.ph=7/\¬s.e.ph=8),()) from fst) ?_;dsimp only;have et:=yK v;have jc:=ai.1.2.2.2.2.2.2.2;have chk:∀k:V,k.length<=1000000->hv s v=xf s.p k (cA v) v.2.2.2.2.2.2.1->(ob (yh (v,())) λ(pu:V×Int×Unit)=>ob (EA (s.p,k,pu.1,v.2.2.2.2.2.2.1,())) λ(mS:eG×Bool×Unit)=>
    T mS.2.1 (some ((s.e.t,mS.1,()),0,v,())) (some ((s.e.t,mS.1,()),5,sF,())):Option (fb×Nat×c9×Unit)) =
    (if(hv s v).2.1=false then some ((⟨s.e,(hv s v).1⟩:aw).t,5,sF,()) else some ((⟨s.e,(hv s v).1⟩:aw).t,0,v,())):=by
   intro k am ah;refine aS (So v ai.1) (aS (axA s.p k (cA v) _ am J) ?_);rw[ah];cases aa:(xf s.p k (cA v) v.2.2.2.2.2.2.1).2.1
   .rw[if_pos rfl];exact bT rfl
   rw[if_neg bp];exact b4 rfl
  by_cases O:v.2.1=1-s.e.id/\¬s.e.ph=7/\¬s.e.ph=8
  .rw[cF O]
   refine bm rfl (aS (show A3 (s.e.key,())=_ from aev s.e.key J) ?_);by_cases R:v.1=2
   .refine bm (cI R) (aS (show Jk (s.e.ring,v.2.2.2.1,())=_ from ayU _ _) (aS (show vH (s.e.ph,())=_ from I5 _) ?_))
    dsimp only;have snd:(T (D (dO s.e.ph)) (ob (ol (s.e.t,())) λ(jG:List Int×Unit)=>T (mT (λ(p q:Int)=>aj p q) v.2.2.1 jG.1) (some ((ra s.e.ring v.2.2.2.1).2.1,())) (some (false,()))) (some (false,())):Option (Bool×Unit)) =
      some (D (dO s.e.ph/\v.2.2.1=fE s.e/\(ra s.e.ring v.2.2.2.1).2.1=true),()):=by
     by_cases hl:dO s.e.ph
     .rw[cF hl]
      refine bm rfl (aS (yN s.e) ?_);have bh:=K3 (l:=v.2.2.1) (m:=fE s.e) (by rw[sy,axa];rfl);by_cases hp:v.2.2.1=fE s.e
      .refine bm (bh.2 hp) ?_
       cases hf:(ra s.e.ring v.2.2.2.1).2.1
       .rw[cH (by rintro⟨_,_,h⟩;cases h)]
       rw[cF ⟨hl,hp,rfl⟩]
      refine a2 ((xO _).mp (λh=>hp (bh.1 h))) ?_;rw[cH (λh=>hp h.2.1)]
     rw[cH hl,cH (λh=>hl h.1)];rfl
    refine aS snd ?_;dsimp only;by_cases af:dO s.e.ph/\v.2.2.1=fE s.e/\(ra s.e.ring v.2.2.2.1).2.1=true
    .rw[cF af]
     have e4:¬pT s.e v:=by
      unfold pT;rintro(h|h|h|⟨_,h⟩)
      .exact h O.1
      .exact O.2.1 h
      .exact O.2.2 h
      rcases h with h|h|h
      .exact h af.1
      .exact h af.2.1
      rw[af.2.2]at h;cases h
     rw[if_neg e4];refine bm rfl ((chk _ (by have:=apD ab.e.ring v.2.2.2.1;omega) (by unfold hv A0;rw[if_pos R])).trans ?_);split<;>rfl
    rw[cH af];have e4:pT s.e v:=by
     unfold pT;by_cases bh:dO s.e.ph
     .by_cases aa:v.2.2.1=fE s.e
      .refine .inr (.inr (.inr ⟨R,.inr (.inr ((xO _).mp λah=>af ⟨bh,aa,ah⟩))⟩))
      exact .inr (.inr (.inr ⟨R,.inr (.inl aa)⟩))
     exact .inr (.inr (.inr ⟨R,.inl bh⟩))
    rw[if_pos e4];rfl
   refine a2 (cv R) ?_;have e4:¬pT s.e v:=by
    unfold pT;rintro(h|h|h|⟨h,_⟩)
    .exact h O.1
    .exact O.2.1 h
    .exact O.2.2 h
    exact R h
   rw[if_neg e4];refine(chk _ (by rw[YZ];omega) (by unfold hv A0;rw[if_neg R])).trans ?_;split<;>rfl
  rw[cH O];have e4:pT s.e v:=by
   unfold pT;by_cases bh:v.2.1=1-s.e.id
   .by_cases aa:s.e.ph=7
    .exact .inr (.inl aa)
    refine .inr (.inr (.inl (iQ λah=>O ⟨bh,aa,ah⟩)))
   exact .inl bh
  rw[if_pos e4];rfl
 rw[if_pos aq];exact bT (cv aq)
def auV{s:aw}(ab:bj n s)(b:V):∃Ag:Int,M9 (s.t,b,())=some ((gy s b).1.t,(gy s b).2.getD sF,Ag,())/\(Ag=0↔¬(gy s b).2=none):=by
 unfold M9;dsimp only;rw[auW ab];by_cases aq:(d4 b).2.1=0
 .by_cases O:pT s.e (d4 b).1
  .have e1:sK s b=(s,13,sF):=by unfold sK;rw[if_neg (not_not_intro aq),if_pos O]
   have aU:gy s b=(f? s 3,none):=by unfold gy;rw[if_neg (not_not_intro aq),if_pos O]
   rw[e1,aU];refine⟨13,aS rfl (a2 rfl (a2 rfl (bm rfl ?_))),bp⟩;exact(cw (UJ s)).trans rfl
  by_cases R:(hv s (d4 b).1).2.1=false
  .have e1:sK s b=(⟨s.e,(hv s (d4 b).1).1⟩,5,sF):=by unfold sK;rw[if_neg (not_not_intro aq),if_neg O,if_pos R]
   have aU:gy s b=(f? ⟨s.e,(hv s (d4 b).1).1⟩ 1,none):=by unfold gy;rw[if_neg (not_not_intro aq),if_neg O,if_pos R]
   rw[e1,aU];refine⟨5,aS rfl (a2 rfl (a2 rfl (a2 rfl (bd rfl ?_)))),bp⟩;exact(cw (auT _)).trans rfl
  have e1:sK s b=(⟨s.e,(hv s (d4 b).1).1⟩,0,(d4 b).1):=by unfold sK;rw[if_neg (not_not_intro aq),if_neg O,if_neg R]
  rw[e1];generalize aB:(d4 b).1=v;rw[aB]at O R;generalize hp:(hv s v).1=p;by_cases af:v.1=1
  .have aU:gy s b=(⟨s.e,p⟩,some v):=by unfold gy;rw[if_neg (not_not_intro aq),aB,if_neg O,if_neg R,if_pos af,hp]
   rw[aU];refine⟨0,aS rfl (bm rfl ?_),bp⟩;exact b4 (mo (by dsimp only;omega))
  have acG:v.1=2:=by
   obtain⟨ai,_⟩:=I? aq;rw[aB]at ai;rcases ai.1.1 with h|h
   .exact absurd h af
   exact h
  have hm:=aBr ab.e.win ab.e.top v.2.2.2.2.1;have pf:∀x:aw×Option c9,x=(if ¬(k3 s.e.win v.2.2.2.2.1).2=0 then(f? ⟨s.e,p⟩ 2,none) else(⟨{ s.e with win:=(k3 s.e.win v.2.2.2.2.1).1,ring:=qq s.e v.2.2.2.1 },p⟩,some v))->gy s b=x:=by intro x hx;unfold gy;rw[if_neg (not_not_intro aq),aB,if_neg O,if_neg R,if_neg af,hp];exact hx.symm
  by_cases au:(k3 s.e.win v.2.2.2.2.1).2=0
  .rw[pf _ (by rw[if_neg (not_not_intro au)])]
   refine⟨0,aS rfl (bm rfl (a2 (kN acG) ?_)),bp⟩;refine aS (show Ft (s.e.win,v.2.2.2.2.1,())=_ from hm) (bm (cI au) ?_);have hh:(T (aj v.2.2.2.1 s.e.ring.2.2.1.1) (some (bg (aj s.e.ph 4),())) (some (false,())):Option (Bool×Unit))=some (D (v.2.2.2.1=s.e.ring.2.2.1.1/\¬s.e.ph=4),()):=by simp(disch:=first|assumption|omega|(dsimp only;omega)|decide) only[go_sem,Int.reduceToNat]
   refine aS hh ?_;dsimp only;by_cases aY:s.e.ring.2.2.1.1=v.2.2.2.1/\¬s.e.ph=4
   .rw[cF ⟨aY.1.symm,aY.2⟩,show qq s.e v.2.2.2.1=(B6 s.e.ring).1 by unfold qq;rw[if_pos aY]]
    refine bm rfl ((cw (show BE (s.e.ring,())=_ from agW _)).trans rfl)
   rw[cH (λh=>aY ⟨h.1.symm,h.2⟩),show qq s.e v.2.2.2.1=s.e.ring by unfold qq;rw[if_neg aY]];rfl
  rw[pf _ (by rw[if_pos au])];refine⟨6,aS rfl (bm rfl (a2 (kN acG) ?_)),bp⟩;refine aS (show Ft (s.e.win,v.2.2.2.2.1,())=_ from hm) (a2 (cv au) ?_);exact(cw (show k1 ((⟨s.e,p⟩:aw).t,6,())=_ from auU _)).trans rfl
 have e1:sK s b=(s,2,sF):=by unfold sK;rw[if_pos aq]
 have aU:gy s b=(f? s 0,none):=by unfold gy;rw[if_pos aq]
 rw[e1,aU];refine⟨2,aS rfl (a2 rfl (bm rfl ?_)),bp⟩;exact(cw (M8 s)).trans rfl
def aAV(x y:UInt8):i64 (g' IntKind.i64 (i64 (h0 IntKind.i64 (i64 (aO x)) (cL (u64 8)))) (i64 (aO y)))=((256*x.toNat+y.toNat:Nat):Int):=by
 have hx:=x.toNat_lt;have hy:=y.toNat_lt;have e1:i64 (aO x)=(x.toNat:Int):=iJ (by rw[Md];omega) (by rw[Md];omega);have aU:i64 (aO y)=(y.toNat:Int):=iJ (by rw[Md];omega) (by rw[Md];omega);have d8:h0 IntKind.i64 (x.toNat:Int) (cL (u64 8))=((256*x.toNat:Nat):Int):=by unfold h0;rw[show cL (u64 8)=8 from Ef bO,show(2:Int)^(Nat.min (8:Int).toNat IntKind.i64.bits)=256 from rfl];omega
 rw[e1,aU,d8,iJ (n:=((256*x.toNat:Nat):Int)) J J];show i64 (((BitVec.ofInt 64 ((256*x.toNat:Nat):Int)|||BitVec.ofInt 64 ((y.toNat:Nat):Int)).toNat:Nat):Int)=_;rw[xJ,xJ,BitVec.toNat_or,Cw,Cw,s? J,s? J];have hc:256*x.toNat|||y.toNat=256*x.toNat+y.toNat:=by
  have:=Nat.shiftLeft_add_eq_or_of_lt (b:=y.toNat) (i:=8) J x.toNat;rw[Nat.shiftLeft_eq]at this
  grind
 rw[hc];exact iJ J J
def ap1(h:2<=b.length):SN (b,())=some ((eB b:Int),()):=by refine bd cS (bd cS ?_);rw[aAV];rfl
def aAT(b:V):eB b<65536:=by unfold eB;have aq:=(b.getD 0 0).toNat_lt;have O:=(b.getD 1 0).toNat_lt;omega
def JR(l:List α)(h:a=(n:Int)):sub l a (len l)=l.drop n:=by unfold sub;rw[h,e7,il];rw[eU];show _<=(l.length:Int).toNat-_;omega
def ap0{f:pZ}(hf:f.1.length<=1000000)(aa:b.length<=1000000)(ab:0<=f.2.1/\f.2.1<=65535):Mc (f,b,())=some ((jl f b).1,(jl f b).2,()):=by
 obtain⟨buf,skip,bad,⟨⟩⟩:=f;replace hf:buf.length<=1000000:=hf;replace ab:0<=skip/\skip<=65535:=ab;unfold Mc jl;dsimp only;refine aS (aaF buf b hf aa) ?_;dsimp only;have hall:(buf++b).length<=2000000:=by rw[dd];omega
 generalize buf++b=all at hall;generalize hg:(λ(x:List V×V×pZ×Unit)=>(_:Option (aF (List V×V×pZ×Unit) (pZ×List V×Unit))))=F

 have adk:∀{a:V} {gV:Int},0<=gV->gV<=a.length->f6 gV (len a)=((gV.toNat:Nat):Int):=λO R=>by rw[g57,g22];omega
 have run:∀(k:Nat) (bC:List V) (a:V) (gV:Int) (n6:Int),0<=gV->gV<=a.length->a.length<=2000000->(a.drop gV.toNat).length<=k->bC.length+k<=2000000 ->
   bK F (bC,a,(buf,gV,n6,()),())=some (.ex 0 (bC++(h' k n6 (a.drop gV.toNat)).2.2.2,(h' k n6 (a.drop gV.toNat)).1,(buf,((h' k n6 (a.drop gV.toNat)).2.1:Int),(h' k n6 (a.drop gV.toNat)).2.2.1,()),())):=by
  intro k;induction k with
  |zero=>
   intro bC a gV n6 O R af au aY;refine ec ?_;subst hg;have bs:i64 (bq gV ((gV.toNat:Nat):Int))=0:=by rw[iJ (by show -9223372036854775808<=gV-((gV.toNat:Nat):Int);omega) (by show gV-((gV.toNat:Nat):Int)<=9223372036854775807;omega)];show gV-((gV.toNat:Nat):Int)=0;omega
   dsimp only;rw[adk O R,JR a rfl,bs];refine bd jL (bm (di (by show((a.drop gV.toNat).length:Int)<2;omega)) ?_);rw[show(h' 0 n6 (a.drop gV.toNat))=(a.drop gV.toNat,0,n6,[]) from rfl];simp
  |succ k ih=>
   intro bC a gV n6 O R af au aY;have bs:i64 (bq gV ((gV.toNat:Nat):Int))=0:=by rw[iJ (by show -9223372036854775808<=gV-((gV.toNat:Nat):Int);omega) (by show gV-((gV.toNat:Nat):Int)<=9223372036854775807;omega)];show gV-((gV.toNat:Nat):Int)=0;omega
   have dn:F (bC,a,(buf,gV,n6,()),())=F (bC,a,(buf,gV,n6,()),()):=rfl
   conv at dn=>rhs;rw[<- hg]
   dsimp only at dn;rw[adk O R,JR a rfl,bs]at dn;have ah:b8 ((gV.toNat:Nat):Int) (len a) (len a)=true:=jL;replace dn:=dn.trans (eV ah);have Ho:(a.drop gV.toNat).length=a.length-gV.toNat:=eU;unfold h';generalize a.drop gV.toNat=c at au dn Ho;by_cases c1:c.length<2
   .rw[if_pos c1]
    refine ec (dn.trans (bm (di (by show(c.length:Int)<2;omega)) ?_));dsimp only;rw[nU];rfl
   rw[if_neg c1];have ak:=aAT c;have aU:i64 (aE 2 ((eB c:Nat):Int))=((2+eB c:Nat):Int):=fY (by show(2:Int)+((eB c:Nat):Int)=_;omega) J;replace dn:=dn.trans (a2 (cR (by show ¬(c.length:Int)<2;omega)) ((cw (ap1 J)).trans (dr rfl)));dsimp only at dn;rw[aU]at dn;by_cases c2:eB c=0\/1024<eB c
   .rw[if_pos c2]
    have TX:(T (aj ((eB c:Nat):Int) 0) (some (true,())) (some (aH 1024 ((eB c:Nat):Int),())):Option (Bool×Unit))=some (true,()):=by
     rcases c2 with h|h
     .rw[h];rfl
     by_cases aq:eB c=0
     .rw[aq];rfl
     exact a2 (cv J) (by rw[di J])
    replace dn:=dn.trans (aS TX (b4 rfl));by_cases hN:2+eB c<=c.length
    .rw[if_pos hN]
     replace dn:=dn.trans (b4 (lH (by show((2+eB c:Nat):Int)<=(c.length:Int);omega)));refine(ev dn).trans ?_;have:=ih bC c ((2+eB c:Nat):Int) (i64 (n6+1)) J J J (by rw[e7,eU];omega) J;rw[e7]at this;exact this
    rw[if_neg hN];have hc:i64 (bq ((2+eB c:Nat):Int) (len c))=((2+eB c-c.length:Nat):Int):=fY (by show((2+eB c:Nat):Int)-(c.length:Int)=_;omega) J;rw[hc]at dn;replace dn:=dn.trans (bT (oo (by show ¬((2+eB c:Nat):Int)<=(c.length:Int);omega)));refine ec (dn.trans ?_);rw[nU];rfl
   rw[if_neg c2];have TX:(T (aj ((eB c:Nat):Int) 0) (some (true,())) (some (aH 1024 ((eB c:Nat):Int),())):Option (Bool×Unit))=some (false,()):=a2 (cv J) (by rw[cR J]);replace dn:=dn.trans (aS TX (bT rfl));by_cases hN:c.length<2+eB c
   .rw[if_pos hN]
    replace dn:=dn.trans (b4 (di (by show(c.length:Int)<((2+eB c:Nat):Int);omega)));refine ec (dn.trans ?_);rw[nU];rfl
   rw[if_neg hN];have arG:c3 (b8 2 ((2+eB c:Nat):Int) (len c)) (aj ((2+eB c:Nat):Int) ((2+eB c:Nat):Int))=true:=by rw[cI rfl];simp(disch:=first|assumption|omega|(dsimp only;omega)|decide) only[go_sem,Int.reduceToNat];omega
   have arH:∀y:V,ci 32 (bI (aV bC) (aV [y]))=true:=λy=>by rw[g21];refine cF ?_;show(bC.length+1)*32<=_;omega
   have arI:b8 ((2+eB c:Nat):Int) (len c) (len c)=true:=jL;replace dn:=dn.trans (a2 (cR (by show ¬(c.length:Int)<((2+eB c:Nat):Int);omega)) (bd arG (bd (arH _) (eV arI))));have pC:sub c 2 ((2+eB c:Nat):Int)=(c.drop 2).take (eB c):=by unfold sub;rw[show(2:Int).toNat=2 from rfl,e7,FO]
   rw[pC,JR c rfl]at dn;refine(ev dn).trans ?_;have:=ih (bC++[(c.drop 2).take (eB c)]) (c.drop (2+eB c)) 0 n6 J J (by rw[eU];omega) (by rw[show(0:Int).toNat=0 from rfl,nl,eU];omega) (by rw[dd];show bC.length+1+k<=_;omega);refine F6 this ?_;rw[hb];rfl
 by_cases adQ:all.length<skip.toNat
 .rw[if_pos adQ]
  have dn:F (aR V,all,(buf,skip,bad,()),())=some (.ex 0 ([],[],(buf,skip-(all.length:Int),bad,()),())):=by
   subst hg;dsimp only;have e1:f6 skip (len all)=((all.length:Nat):Int):=by rw[g57,g22];omega
   have aU:i64 (bq skip ((all.length:Nat):Int))=skip-(all.length:Int):=iJ (by show -9223372036854775808<=skip-(all.length:Int);omega) (by show skip-(all.length:Int)<=9223372036854775807;omega);rw[e1,JR all rfl,aU,List.drop_length];exact bd jL (b4 rfl)
  refine(cW (ec dn)).trans (lc_ex'.trans (bd g62 ?_));exact(cw (Gx [] bp)).trans rfl
 rw[if_neg adQ];have:=run all.length [] all skip bad ab.1 J hall (by rw[eU];omega) fK;refine(cW (show bK F (aR V,all,(buf,skip,bad,()),())=_ from this)).trans (lc_ex'.trans (bd g62 ?_));dsimp only;refine(cw (Gx _ ?_)).trans rfl;have cl:∀(k:Nat) (n6:Int) (a:V),(h' k n6 a).1.length<=a.length:=by
  intro k;induction k with
  |zero=>intro n6 a;exact b1 _
  |succ k ih=>
   intro n6 a;unfold h';split
   .exact b1 _
   split
   .split
    .exact hH (ih _ _) (by rw[eU];omega)
    simp
   split
   .exact b1 _
   exact hH (ih _ _) (by rw[eU];omega)
 have:=cl all.length bad (all.drop skip.toNat);rw[eU]at this;omega
def m6(l:List q7):Nat:=(l.map λx=>x.2.1.length).sum
def au7(l:List q7)(x:q7):m6 (l++[x])=m6 l+x.2.1.length:=by unfold m6;simp
def fJ(h:ej):Nat:=(ao h.2.1 0 eJ).1.length+(ao h.2.1 1 eJ).1.length+(ao h.2.1 2 eJ).1.length+(ao h.2.1 3 eJ).1.length
structure b_(m t g:Nat)(s x:aw):Prop where
 bC:m6 x.e.bC+950*x.e.queue.length<=m6 s.e.bC+950*s.e.queue.length+m
 Em:x.e.bC.length+x.e.queue.length<=s.e.bC.length+s.e.queue.length+t
 tab:x.p.2.1.length+x.e.queue.length<=s.p.2.1.length+s.e.queue.length+t
 got:x.e.got.length<=s.e.got.length+g
 buf:fJ x.e.hub<=fJ s.e.hub
def b_.refl(s:aw):b_ 0 0 0 s s:=⟨J,J,J,J,J⟩
def b_.trans{t:Nat}{s x y:aw}(h:b_ m t g s x)(k:b_ mC t' g6 x y):b_ (m+mC) (t+t') (g+g6) s y:=by obtain⟨cN,cX,a3,a4,a5⟩:=h;obtain⟨e9,eo,jH,n5,qc⟩:=k;exact⟨J,J,J,J,J⟩
def b_.mono{t:Nat}{s x:aw}(h:b_ m t g s x)(hm:m<=mC)(ht:t<=t')(hg:g<=g6):b_ mC t' g6 s x:=by obtain⟨cN,cX,a3,a4,a5⟩:=h;exact⟨J,J,J,J,J⟩
def b_.to{t:Nat}{s x y:aw}(h:b_ m t g s x)(k:b_ mC t' g6 x y){cr e? cD:Nat}(hm:m+mC<=cr)(ht:t+t'<=e?)(hg:g+g6<=cD):b_ cr e? cD s y:=(h.trans k).mono hm ht hg
def b_.same(s x:aw)(aK:x.e.bC=s.e.bC)(aQ:x.e.queue.length<=s.e.queue.length)(hp:x.p.2.1=s.p.2.1)(hg:x.e.got=s.e.got)(aa:x.e.hub.2.1=s.e.hub.2.1):b_ 0 0 0 s x:=by refine⟨by rw[aK];omega,by rw[aK];omega,by rw[hp];omega,by rw[hg];omega,?_⟩;unfold fJ;rw[aa];exact b1 _
def axC(p:eG)(k b:V):(hX p k b).2.1.length<=p.2.1.length+1:=by
 unfold hX
 grind
def acv(s:aw)(v:c9)(k:V):b_ (48+v.2.2.2.2.2.1.length) 1 0 s (kQ s v k).1:=by
 unfold kQ;split
 .have O:=axC s.p k (cA v)
  have R:(fw (cA v++jV k (cA v))).length=48+v.2.2.2.2.2.1.length:=by rw[NL,dd,BD,yK];omega
  refine⟨?_,?_,?_,by dsimp only;omega,by dsimp only;unfold fJ;rw[VX];omega⟩
  .dsimp only;rw[au7,R];omega
  .grind
  grind
 exact(b_.refl s).mono J J J
def G5(s:aw)(b:V):b_ (48+b.length) 1 0 s (ee s b).1:=by
 have aq:b_ (48+b.length) 1 0 s s:=(b_.refl s).mono J J J;unfold ee;split
 .exact aq
 split
 .exact aq
 split
 .exact aq
 have:=acv s (go s.e b) s.e.ring.1.2.1;dsimp only;split
 .exact⟨this.bC,this.Em,this.tab,this.got,this.buf⟩
 exact this
def Mm(s:aw)(o:Int)(b:V):b_ (48+b.length) 1 0 s (mK s o b).1:=by
 unfold mK;split
 .exact acv s (hD s.e o b) (hu s.e.key)
 exact(b_.refl s).mono J J J
def re(s:aw)(k:Nat):b_ 0 0 0 s (f? s k):=b_.same _ _ rfl (b1 _) rfl rfl rfl
def alb{c n:Int}(h:(nm c n b).2.1=0):b.length<=900:=by
 unfold nm at h;split at h
 .rename_i hf;exact hf.2.2.2.2
 cases h
def S3(s:aw)(q:de)(hm:(mh (q.1,q.2.1,lK s.e.stan,q.2.2.2)).1.length<=m):b_ (48+min m 900) 1 0 s (jT s q):=by
 have aq:b_ 0 0 0 s (th s q):=b_.same _ _ rfl (b1 _) rfl rfl rfl;unfold jT;split
 .rename_i h
  have aa:=alb h.2;split
  .exact aq.to (Mm _ _ _) J J J
  exact aq.to (G5 _ _) J J J
 exact(b_.refl s).mono J J J
def Dr(s:aw)(p:Int):b_ 0 0 1 s (jw s p):=by refine⟨by show m6 s.e.bC+950*([]:List V).length<=_;simp,by show s.e.bC.length+([]:List V).length<=_;simp,by show s.p.2.1.length+([]:List V).length<=_;simp,Na s.e p,b1 _⟩
def act(s:aw):b_ 0 0 1 s (q9 s):=by
 unfold q9;split
 .exact(b_.refl s).mono J J J
 refine⟨by show m6 []+950*([]:List V).length<=_;simp[m6],by show([]:List q7).length+([]:List V).length<=_;simp,by show s.p.2.1.length+([]:List V).length<=_;simp,Na s.e 8,?_⟩;exact nV _
def G2(s:aw):b_ 0 0 1 s (eQ s).1:=by
 unfold eQ;split
 .exact b_.mono (b_.same s (pS s _) rfl (b1 _) rfl rfl rfl) J J J
 split
 .exact b_.to (b_.same s (BR s (lL s.e.store s.e.power).1) rfl (b1 _) rfl rfl rfl) (act (BR s (lL s.e.store s.e.power).1)) J J J
 exact(b_.refl s).mono J J J
def acx(s:aw):b_ 948 1 3 s (nJ s).1:=by
 unfold nJ;split
 .exact(b_.refl s).mono J J J
 split
 .exact(G2 s).mono J J J
 have O:=(G2 s).trans (Dr (eQ s).1 1);have R:b_ 0 0 0 (jw (eQ s).1 1) (rG (jw (eQ s).1 1) (eQ s).2.1):=b_.same _ _ rfl (b1 _) rfl rfl rfl;exact(O.trans R).to (S3 _ _ (b1 _)) J J J
def acy:∀(k:Nat) (s:aw),b_ 0 0 0 s (ox k s)
 |0,s=>b_.refl s
 |k+1,s=>by
  unfold ox;split
  .exact b_.refl s
  rename_i b q aQ;split
  .rename_i aq
   have aa:b.length<=900:=by
    unfold ee at aq;split at aq
    .cases aq
    rename_i h;exact(Cp.1 h).2
   have O:=G5 s b;have tL:=(azy s b).2.1;have R:b_ 0 0 0 s (nL (ee s b).1 q):=by
    obtain⟨cN,cX,a3,a4,a5⟩:=O;rw[tL]at cN cX a3;have hl:s.e.queue.length=q.length+1:=by rw[aQ];rfl
    exact⟨by show m6 (ee s b).1.e.bC+950*q.length<=_;omega,by show(ee s b).1.e.bC.length+q.length<=_;omega,by show(ee s b).1.p.2.1.length+q.length<=_;omega,a4,a5⟩
   exact R.to (acy k _) J J J
  exact b_.refl s
def G3(s:aw):b_ 0 0 0 s (lI s):=acy _ s
def Km{k l:Int}(h:e_ no=some (k,l))(aq:cJ k=0)(v:V):(gp (no,v,())).length<=(body k v).length:=by
 unfold gp qY;rw[h];dsimp only;split
 .unfold kG gu;rw[aq];simp
 simp
def afy(n:de)(h:n.1=false\/¬n.2.1=101/\¬n.2.1=201):(fP (jk n)).length<=25:=by
 have oU:∀x:V,x.length=6->(gp (11,x,())).length<=3:=λx hx=>by have:=Km Dj rfl x;rw[x5,hx]at this;simpa using this
 have aqK:∀x:V,x.length=2->(gp (39,x,())).length<=2:=λx hx=>by have:=Km Ma rfl x;rw[x5,hx]at this;simpa using this
 have aqN:∀x:V,x.length=3->(gp (70,x,())).length<=2:=λx hx=>by have:=Km SH rfl x;rw[x5,hx]at this;simpa using this
 have aa:∀l,(fB l).length<=16:=λl=>by rw[pA];split<;>omega
 have cN:=oU (dm n.2.2.1 6) n9;have cX:=aqK (dm n.2.2.2.1 2) n9;have a3:=aqN (dm n.2.1 3) n9;unfold fP jk;rw[ dd,zv];split
 .have:=aa (hC [(11,dm n.2.2.1 6,()),(39,dm n.2.2.2.1 2,()),(70,dm n.2.1 3,())])
  simp;omega
 grind
def awf(n:de):18<=(fP (jk n)).length:=by
 have bw:lN (hC (jk n).2.1)=true:=by
  unfold jk
  repeat(first|rfl|split)
 unfold fP;rw[dd,dd,zv,pA,if_pos bw];omega
def agO(n:de)(r:Int):(kC n r).length<=25:=by
 unfold kC mh;split
 .refine afy _ (.inl ?_)
  unfold F'
  repeat(first|rfl|split)
 simp
def ak4(c s:Int)(h:¬c=101/\¬c=201):(mh ((iq c).1,(iq c).2.1,s,(iq c).2.2.2)).1.length<=25:=by
 unfold mh;split
 .exact afy _ (.inr h)
 simp
def aoy{m:M}(ai:hZ m=true):(fP (r? m)).length<=17:=by
 have cX:(gp tk).length<=2:=by have:=Km Ma bO [57,49];rw[x5]at this;exact this
 unfold fP r?;rw[dd,dd,zv];split
 .rename_i h
  have O:=Xv ai h;obtain⟨k,l,R,af⟩:=wv.1 O;rw[Dj]at R;obtain⟨rfl,rfl⟩:=Prod.mk.inj (ps R);have au:=(SP Dj af).2.1;have cN:=Km Dj bO (ia 11 m.2.1).1;rw[x5]at cN;have:(fB (hC [(11,(ia 11 m.2.1).1,()),tk])).length=8:=by rw[pA];rfl
  simp only[xS,F_,dd,j4];simp only[show((1:Int)<=2)=True from by simp]at cN;simp at cN;omega
 have:(fB (hC [tk])).length=8:=by rw[pA];rfl
 simp only[xS,F_,dd,j4];omega
def acs(s:aw)(c:Int)(h:¬c=101/\¬c=201):b_ 73 1 0 s (jT s (iq c)):=(S3 s (iq c) (ak4 c _ h)).mono J J J
def G4(s:aw)(n:de)(r:Int):b_ 73 1 0 s (ee s (kC n r)).1:=(G5 s _).mono (by have:=agO n r;omega) J J
def S4{s x:aw}(h:b_ 0 0 0 s x)(n:de)(r:Int):b_ 73 1 0 s (ee x (kC n r)).1:=h.to (G4 x n r) J J J
def aqv(s:aw)(q:de)(x:Int):b_ 73 1 2 s (py s q x):=by
 have ai:=agO q 0;unfold py;split
 .exact(re s 3).mono J J J
 split
 .exact(Mm s _ _).mono J J J
 split
 .exact(re s 3).mono J J J
 split
 .have O:=(G2 s).trans (Dr (eQ s).1 2)
  have R:b_ 0 0 0 (jw (eQ s).1 2) (sC (jw (eQ s).1 2) (eQ s).2.1 x):=b_.same _ _ rfl (b1 _) rfl rfl rfl;exact(O.trans R).to (Mm _ _ _) J J J
 split
 .exact(G2 s).mono J J J
 exact(G2 s).to (re _ 3) J J J
def S2(s:aw)(k q:Int)(b:V):b_ 0 0 1 s (sd s k q b):=by refine⟨b1 _,b1 _,b1 _,?_,b1 _⟩;show(s.e.got++[(k,fE s.e,q,b,())]).length<=_;simp
def aqy(s:aw)(k:Int):b_ 0 0 1 s (yj s k):=S2 s k 0 []
def aqB(s:aw)(v:c9)(q:de):b_ 73 1 2 s (nD s v q):=by
 unfold nD;dsimp only;split
 .exact(re s 3).mono J J J
 split
 .exact aqv s q _
 split
 .have O:b_ 0 0 1 s (vF s (ao v.2.2.1 (ae (1-s.e.id)) 0)):=by refine⟨b1 _,b1 _,b1 _,?_,b1 _⟩;show(s.e.got++[_]).length<=_;simp
  exact O.to (acs _ 301 bO) J J J
 exact(re s 3).mono J J J
def Dq(s:aw):b_ 0 0 1 s (mt s):=by
 unfold mt;split
 .exact b_.to (b_.same s (pN s 3) rfl (b1 _) rfl rfl rfl) (aqy _ 4) J J J
 exact(b_.refl s).mono J J J
def aqC(s:aw)(n:de):b_ 73 1 1 s (sH s n):=by
 have ah:b_ 73 1 1 s (f? s 3):=(re s 3).mono J J J;unfold sH;split
 .exact ah
 split
 .exact(G4 s n _).mono J J J
 split
 .exact(G4 s n _).mono J J J
 split
 .split
  .exact b_.mono (m:=73) (t:=1) (g:=0) (S4 (by exact b_.same _ _ rfl (b1 _) rfl rfl rfl) n _) J J J
  exact ah
 split
 .exact b_.mono (m:=73) (t:=1) (g:=0) (S4 (by exact b_.same _ _ rfl (b1 _) rfl rfl rfl) n _) J J J
 exact ah
def acw(s:aw):b_ 0 0 0 s (rd s):=by
 unfold rd;split
 .exact b_.same _ _ rfl (b1 _) rfl rfl rfl
 exact b_.refl s
def aqz(s:aw):b_ 0 0 0 s (sg s):=by
 unfold sg;split
 .exact b_.same _ _ rfl (b1 _) rfl rfl rfl
 exact b_.refl s
def aqA(s:aw):b_ 0 0 1 s (sj s):=by
 unfold sj;split
 .exact Dr s 0
 exact(b_.refl s).mono J J J
def aqD(s:aw)(n:de):b_ 73 1 1 s (qR s n):=by
 have ah:b_ 73 1 1 s (f? s 3):=(re s 3).mono J J J;unfold qR;split
 .split
  .exact aqC s n
  unfold tg;split
  .exact ah
  split
  .exact(acw s).mono J J J
  exact b_.to (b_.same s (⟨J7 s.e _,s.p⟩) rfl (b1 _) rfl rfl rfl) (acs _ 301 bO) J J J
 split
 .split
  .exact b_.mono (m:=73) (t:=1) (g:=0) (S4 (by exact b_.same _ _ rfl (b1 _) rfl rfl rfl) n 0) J J J
  unfold tf;split
  .exact ah
  split
  .exact b_.mono (b_.same _ _ rfl (b1 _) rfl rfl rfl) J J J
  exact b_.mono (b_.same _ _ rfl (b1 _) rfl rfl rfl) J J J
 unfold rD;split
 .split
  .exact(G4 s n 0).mono J J J
  split
  .exact(G4 s n 0).to (Dr _ 0) J J J
  exact ah
 split
 .split
  .exact b_.mono (b_.same s (aav s) rfl (b1 _) rfl rfl rfl) J J J
  split
  .exact(Dr s 0).mono J J J
  exact ah
 exact ah
def agH(h:(kg b).2.1=0):18<=b.length:=by
 rcases agG b with⟨n,O,R,af⟩|⟨e,O,R⟩
 .rw[<- af];exact awf n
 grind
def aBD(m:M):10<=(fP m).length:=by
 unfold fP;rw[dd,dd,zv,pA]
 grind
def aqx(s:aw)(v:c9):∃m t g,b_ m t g s (kp s v)/\4*m<=5*(48+v.2.2.2.2.2.1.length)/\20*t<=48+v.2.2.2.2.2.1.length/\20*g<=48+v.2.2.2.2.2.1.length:=by
 unfold kp;split
 .split
  .rename_i O R
   have:=agH R;exact⟨73,1,2,(Dq s).to (aqD _ _) J J J,J,J,J⟩
  split
  .rename_i O R af
   obtain⟨au,aY⟩:=N0 af;have cp:=aBD (eO v.2.2.2.2.2.1).1;rw[aY]at cp;unfold qT;split
   .exact⟨0,0,1,(Dq s).to (re _ 3) J J J,J,J,J⟩
   split
   .exact⟨0,0,2,(Dq s).to (S2 _ _ _ _) J J J,J,J,J⟩
   split
   .exact⟨0,0,1,(Dq s).to (re _ 3) J J J,J,J,J⟩
   have dN:=aoy au;exact⟨65,1,1,(Dq s).to (G5 _ _) J J J,J,J,J⟩
  exact⟨0,0,1,(Dq s).to (re _ 0) J J J,J,J,J⟩
 split
 .rename_i O R
  have:=agH R;exact⟨73,1,2,aqB s v _,J,J,J⟩
 exact⟨0,0,0,re s 0,J,J,J⟩
def aaL(s:aw)(b:V):(ee s b).1.e.ph=s.e.ph:=(azy s b).1
def aqp(s:aw)(v:c9)(k:V):(kQ s v k).1.e.ph=s.e.ph:=(abj s v k).1
def ahY(s:aw)(o:Int)(b:V):(mK s o b).1.e.ph=s.e.ph:=by
 unfold mK;split
 .exact aqp _ _ _
 rfl
def yq(s:aw)(q:de):(jT s q).e.ph=s.e.ph:=by
 unfold jT;split
 .split
  .exact ahY _ _ _
  exact aaL _ _
 rfl
def afd:∀(k:Nat) (s:aw),(ox k s).e.ph=s.e.ph
 |0,s=>rfl
 |k+1,s=>by
  unfold ox;split
  .rfl
  split
  .exact(afd k _).trans (aaL s _)
  rfl
def pU(s:aw):(lI s).e.ph=s.e.ph:=afd _ s
def aoV(s:aw):(q9 s).e.ph=8:=by
 unfold q9;split
 .assumption
 rfl
def aqq(s:aw):(eQ s).1.e.ph=s.e.ph\/(eQ s).1.e.ph=8:=by
 unfold eQ;split
 .exact .inl rfl
 split
 .exact .inr (aoV _)
 exact .inl rfl
def L1(k p q:Int):Prop:=
 q=p\/(k=1\/k=6)/\p<=6/\(q=1\/q=8)\/k=2/\((p=1\/p=2)/\q=0\/(p=3\/p=4\/p=5)/\q=6)\/k=4/\p=3/\q=4\/k=5/\p=3/\q=5
 \/ k=6/\((p=1\/p=3\/p=6)/\q=0\/(p=4\/p=5)/\q=3)
def afa(s:aw)(h:0<=s.e.ph/\s.e.ph<=8):(nJ s).1.e.ph=s.e.ph\/s.e.ph<=6/\((nJ s).1.e.ph=1\/(nJ s).1.e.ph=8):=by
 unfold nJ;split
 .simp
 split
 .rcases aqq s with e|e
  .grind
  grind
 exact .inr ⟨J,.inl (yq _ _)⟩
def aoQ(s:aw)(h:0<=s.e.ph/\s.e.ph<=8):(r9 s).e.ph=s.e.ph\/(s.e.ph=1\/s.e.ph=3\/s.e.ph=6)/\(r9 s).e.ph=0\/(s.e.ph=4\/s.e.ph=5)/\(r9 s).e.ph=3:=by
 unfold r9;split
 .rename_i au
  unfold rd;rw[if_pos au];exact .inr (.inr ⟨.inl au,rfl⟩)
 split
 .rename_i aY
  unfold sg;rw[if_pos aY];exact .inr (.inr ⟨.inr aY,rfl⟩)
 unfold sj;split
 .rename_i hg;exact .inr (.inl ⟨hg,rfl⟩)
 omega
def ake(s:aw)(a:gq):(qa s a).e.ph=s.e.ph:=by
 unfold qa;split
 .exact ahY _ _ _
 exact aaL _ _
def aiT(s:aw)(h:0<=s.e.ph/\s.e.ph<=8):(oB s).e.ph=s.e.ph\/(s.e.ph=1\/s.e.ph=3\/s.e.ph=6)/\(oB s).e.ph=0\/(s.e.ph=4\/s.e.ph=5)/\(oB s).e.ph=3:=by
 unfold oB;split
 .exact .inl (ake _ _)
 split
 .exact aoQ (s2 s _) h
 exact .inl rfl
def azl(s:aw)(b:V):(pd s b).1.e.ph=s.e.ph:=by
 unfold pd;split
 .rfl
 split
 .rfl
 split
 .rfl
 exact pU _
def apE(s:aw)(h:0<=s.e.ph/\s.e.ph<=8)(a:g3)(am:a.1<=6):L1 a.1 s.e.ph (mr s a).1.e.ph:=by
 unfold mr;split
 .exact .inl (azl _ _)
 split
 .rename_i O
  rcases afa s h with e|e
  .exact .inl e
  exact .inr (.inl ⟨.inl O,e⟩)
 split
 .rename_i R
  unfold r8;split
  .exact .inl rfl
  split
  .exact .inl rfl
  split
  .rename_i hp;exact .inr (.inr (.inl ⟨R,.inl ⟨hp,rfl⟩⟩))
  rename_i aer aes JS;exact .inr (.inr (.inl ⟨R,.inr ⟨J,yq _ _⟩⟩))
 split
 .unfold sb
  split
  .exact .inl rfl
  split
  .exact .inl rfl
  exact .inl (yq _ _)
 split
 .rename_i au
  unfold sD;split
  .exact .inl rfl
  split
  .exact .inl rfl
  split
  .exact .inl rfl
  split
  .exact .inl rfl
  rename_i aer aes JS aAg;exact .inr (.inr (.inr (.inl ⟨au,Cp.1 λq=>JS (.inl q),yq _ _⟩)))
 split
 .rename_i aY
  unfold r';split
  .exact .inl rfl
  split
  .exact .inl rfl
  split
  .exact .inl rfl
  rename_i aer aes JS;exact .inr (.inr (.inr (.inr (.inl ⟨aY,Cp.1 λq=>JS (.inl q),yq _ _⟩))))
 split
 .rename_i cp
  have t0:=aiT s h;have eA:=aiT (zj s) h;have e?:=afa (zj s) h;unfold ij;split
  .exact .inl rfl
  split
  .split
   .rcases e? with e|e
    .exact .inl e
    exact .inr (.inl ⟨.inr cp,e⟩)
   rcases eA with e|e|e
   .exact .inl ((pU _).trans e)
   .exact .inr (.inr (.inr (.inr (.inr ⟨cp,.inl ⟨e.1,(pU _).trans e.2⟩⟩))))
   exact .inr (.inr (.inr (.inr (.inr ⟨cp,.inr ⟨e.1,(pU _).trans e.2⟩⟩))))
  rcases t0 with e|e|e
  .exact .inl ((pU _).trans e)
  .exact .inr (.inr (.inr (.inr (.inr ⟨cp,.inl ⟨e.1,(pU _).trans e.2⟩⟩))))
  exact .inr (.inr (.inr (.inr (.inr ⟨cp,.inr ⟨e.1,(pU _).trans e.2⟩⟩))))
 split
 .omega
 split
 .omega
 split
 .omega
 exact .inl rfl
def ar5(w:bP)(i:Bool)(s:aw):((iy w i s).e i).ph=s.e.ph/\((iy w i s).e (!i)).ph=(w.e (!i)).ph:=by
 have key:((mv w i s).e i).ph=s.e.ph/\((mv w i s).e (!i)).ph=(w.e (!i)).ph:=by
  constructor
  .show(gJ w.e i _ i).ph=_
   unfold gJ;rw[if_pos rfl]
  show(gJ w.e i _ (!i)).ph=_;unfold gJ;rw[if_neg (by cases i<;>decide)]
 unfold iy;split
 .exact key
 exact key
def afe:∀(k:Nat) (s:aw),(ox k s).e.got=s.e.got
 |0,s=>rfl
 |k+1,s=>by
  unfold ox;split
  .rfl
  split
  .refine(afe k _).trans ?_
   exact(azy s _).2.2
  rfl
def azB{s:aw}(aq:(ki b s.e.day).2=0)(hg:kR s.e.ph):((pd s b).2=0/\(pd s b).1.e.got=s.e.got++[(1,fE s.e,0,(ki b s.e.day).1,())])\/((pd s b).2=8/\(pd s b).1=s/\8<=s.e.queue.length):=by
 unfold pd;rw[if_neg (not_not_intro aq),if_neg (not_not_intro hg)];split
 .rename_i h
  unfold m_ at h ⊢
  grind
 exact .inl ⟨rfl,afe _ _⟩
def ax2{s:aw}(aq:¬(ki b s.e.day).2=0):pd s b=(s,(ki b s.e.day).2):=by unfold pd;rw[if_pos aq]
def azr{s:aw}(aq:(ki b s.e.day).2=0)(hg:¬kR s.e.ph):pd s b=(s,7):=by unfold pd;rw[if_neg (not_not_intro aq),if_pos hg]
def asx(w:bP)(i:Bool)(O:(w.e i).bC=[])(R:(w.e i).got=[]):iy w i (w.at i)=w:=by
 unfold iy;rw[if_neg (λh=>h.2 h.1)];unfold mv;have e1:gJ w.e i { (w.at i).e with bC:=[],got:=[] }=w.e:=by
  funext j;unfold gJ;split
  .rename_i h;subst h
   show({ (w.e j) with bC:=[],got:=[] }:c8)=w.e j;rw[<- O];have:({ (w.e j) with bC:=(w.e j).bC,got:=[] }:c8)={ (w.e j) with bC:=(w.e j).bC,got:=(w.e j).got }:=by rw[R]
   rw[this]
  rfl
 have aU:gJ w.dw i (w.dw i++(w.at i).e.got)=w.dw:=by
  funext j;unfold gJ;split
  .rename_i h;subst h
   show w.dw j++(w.e j).got=_;rw[R,nU]
  rfl
 rw[e1,aU];show(⟨w.e,w.p,w.bc++(w.e i).bC.map (jx i),w.old++(w.e i).bC.map (jx i),w.dw⟩:bP)=w;rw[O,Yf,nU,nU]
def aqF(s:aw)(b:V):b_ 0 0 0 s (gy s b).1:=by
 have hp:=aat s (d4 b).1;have O:∀k,b_ 0 0 0 s (f? ⟨s.e,(hv s (d4 b).1).1⟩ k):=λk=>b_.same _ _ rfl (b1 _) hp rfl rfl;unfold gy;split
 .exact re s 0
 split
 .exact re s 3
 split
 .exact O 1
 split
 .exact b_.same _ _ rfl (b1 _) hp rfl rfl
 split
 .exact O 2
 exact b_.same _ _ rfl (b1 _) hp rfl rfl
structure zL(C:Nat)(s x:aw):Prop where
 bC:4*(m6 x.e.bC+950*x.e.queue.length)<=4*(m6 s.e.bC+950*s.e.queue.length)+5*C
 Em:20*(x.e.bC.length+x.e.queue.length)<=20*(s.e.bC.length+s.e.queue.length)+C
 tab:20*(x.p.2.1.length+x.e.queue.length)<=20*(s.p.2.1.length+s.e.queue.length)+C
 got:20*x.e.got.length<=20*s.e.got.length+C
 buf:fJ x.e.hub<=fJ s.e.hub
def b_.ny{t C:Nat}{s x:aw}(h:b_ m t g s x)(hm:4*m<=5*C)(ht:20*t<=C)(hg:20*g<=C):zL C s x:=by obtain⟨cN,cX,a3,a4,a5⟩:=h;exact⟨J,J,J,J,a5⟩
def zL.trans{C D:Nat}{s x y:aw}(h:zL C s x)(k:zL D x y):zL (C+D) s y:=by obtain⟨cN,cX,a3,a4,a5⟩:=h;obtain⟨e9,eo,jH,n5,qc⟩:=k;exact⟨J,J,J,J,J⟩
def aye(h:(d4 b).2.1=0):(d4 b).1.2.2.2.2.2.1.length+46=b.length:=by
 unfold d4 at h ⊢;split at h
 .cases h
 split at h
 .cases h
 split at h
 .rename_i O R af
  rw[if_neg O,if_neg R,if_pos af];show((b.drop 30).take (b.length-46)).length+46=_
  grind
 cases h
def aqH(s:aw)(b:V):zL (b.length+2) s (lc s b):=by
 have aq:=aqF s b;unfold lc;split
 .exact aq.ny J J J
 rename_i v aB;obtain⟨O,rfl⟩:=O' aB;have hl:=aye O;obtain⟨m,t,g,R,af,au,aY⟩:=aqx (gy s b).1 (d4 b).1;exact((aq.trans R).trans (G3 _)).ny J J J
def lm(l:List V):Nat:=(l.map λx=>x.length+2).sum
def acC:∀(l:List V) (s:aw),zL (lm l) s (tw s l)
 |[],s=>(b_.refl s).ny J J J
 |b::l,s=>by
  have hp:lm (b::l)=b.length+2+lm l:=by unfold lm;simp
  unfold tw;split
  .exact(b_.refl s).ny J J J
  rw[hp];exact(aqH s b).trans (acC l _)
def R7:∀(k:Nat) (bad:Int) (a:V),(h' k bad a).1.length+lm (h' k bad a).2.2.2<=a.length
 |0,bad,a=>by show a.length+lm []<=a.length;exact b1 _
 |k+1,bad,a=>by
  unfold h';split
  .exact b1 _
  split
  .split
   .have:=R7 k (i64 (bad+1)) (a.drop (2+eB a))
    grind
   exact nV _
  split
  .exact b1 _
  rename_i O R af;have:=R7 k bad (a.drop (2+eB a));rw[eU]at this;show(h' k bad (a.drop (2+eB a))).1.length+lm ((a.drop 2).take (eB a)::(h' k bad (a.drop (2+eB a))).2.2.2)<=a.length;have hp:lm ((a.drop 2).take (eB a)::(h' k bad (a.drop (2+eB a))).2.2.2)=min (eB a) (a.length-2)+2+lm (h' k bad (a.drop (2+eB a))).2.2.2:=by unfold lm;simp
  omega
def axH(f:pZ)(b:V):(jl f b).1.1.length+lm (jl f b).2<=f.1.length+b.length:=by
 unfold jl;split
 .exact nV _
 have:=R7 (f.1++b).length f.2.2.1 ((f.1++b).drop f.2.1.toNat)
 grind
def Zd(h:ej)(c:Int)(b:V)(aq:(hY h c b).2.2=0)(au:h.2.1.length=4):fJ (hY h c b).1+lm (hY h c b).2.1<=fJ h+b.length:=by
 unfold hY at aq ⊢;split at aq
 .cases aq
 split at aq
 .cases aq
 rename_i O R;rw[if_neg O,if_neg R];have ah:=Cp.1 O;have hp:=axH (ao h.2.1 c.toNat eJ) b;obtain⟨x,y,z,u,hx⟩:=ab1 au;have Tv:c=0\/c=1\/c=2\/c=3:=by unfold kP at ah;omega
 unfold fJ;dsimp only;rcases Tv with rfl|rfl|rfl|rfl
 all_goals
  rw[hx]at hp ⊢;show _+lm (jl (ao [x,y,z,u] _ eJ) b).2<=_
  first
   | (
    show(jl x b).1.1.length+y.1.length+z.1.length+u.1.length+lm (jl x b).2<=x.1.length+y.1.length+z.1.length+u.1.length+b.length;have:(jl x b).1.1.length+lm (jl x b).2<=x.1.length+b.length:=hp;omega)
   | (
    show x.1.length+(jl y b).1.1.length+z.1.length+u.1.length+lm (jl y b).2<=x.1.length+y.1.length+z.1.length+u.1.length+b.length;have:(jl y b).1.1.length+lm (jl y b).2<=y.1.length+b.length:=hp;omega)
   | (
    show x.1.length+y.1.length+(jl z b).1.1.length+u.1.length+lm (jl z b).2<=x.1.length+y.1.length+z.1.length+u.1.length+b.length;have:(jl z b).1.1.length+lm (jl z b).2<=z.1.length+b.length:=hp;omega)
   | (
    show x.1.length+y.1.length+z.1.length+(jl u b).1.1.length+lm (jl u b).2<=x.1.length+y.1.length+z.1.length+u.1.length+b.length;have:(jl u b).1.1.length+lm (jl u b).2<=u.1.length+b.length:=hp;omega)
structure ajR(C:Nat)(s x:aw):Prop where
 bC:4*(m6 x.e.bC+950*x.e.queue.length)+5*fJ x.e.hub<=4*(m6 s.e.bC+950*s.e.queue.length)+5*(fJ s.e.hub+C)
 Em:20*(x.e.bC.length+x.e.queue.length)+fJ x.e.hub<=20*(s.e.bC.length+s.e.queue.length)+fJ s.e.hub+C
 tab:20*(x.p.2.1.length+x.e.queue.length)+fJ x.e.hub<=20*(s.p.2.1.length+s.e.queue.length)+fJ s.e.hub+C
 got:20*x.e.got.length+fJ x.e.hub<=20*s.e.got.length+fJ s.e.hub+C
def ab9{s:aw}(au:s.e.hub.2.1.length=4)(c:Int)(b:V):ajR b.length s (qb s c b):=by
 unfold qb;split
 .exact⟨J,J,J,J⟩
 rename_i aq;have aa:=Zd s.e.hub c b (Cp.1 aq) au;obtain⟨cN,cX,a3,a4,a5⟩:=acC (hY s.e.hub c b).2.1 (q' s c b);have e1:(q' s c b).e.hub=(hY s.e.hub c b).1:=rfl;have aU:(q' s c b).e.bC=s.e.bC:=rfl;have d8:(q' s c b).e.queue=s.e.queue:=rfl;have hc:(q' s c b).p=s.p:=rfl;have pC:(q' s c b).e.got=s.e.got:=rfl;rw[e1]at a5;rw[aU,d8]at cN cX;rw[d8,hc]at a3;rw[pC]at a4;exact⟨J,J,J,J⟩
def eS(l:List eM):Nat:=(l.map λf=>f.2.2.1.length).sum
def Nb(l m:List eM):eS (l++m)=eS l+eS m:=by unfold eS;rw[F3,List.sum_append]
theorem tS(f:eM)(l:List eM):eS (f::l)=f.2.2.1.length+eS l:=rfl
def Bh(f:eM):Prop:=(f.1=0\/f.1=1)/\(0<=f.2.1/\f.2.1<4)/\f.2.2.1.length<=948
structure hj(w:bP):Prop where
 s:∀i,nG (w.at i)
 bC:∀i,(w.e i).bC=[]
 got:∀i,(w.e i).got=[]
 bc:∀f∈w.bc,Bh f
 old:∀f∈w.old,Bh f
def fH(w:bP):Nat:=(w.e false).queue.length+(w.e true).queue.length
def f_(w:bP):Nat:=fJ (w.e false).hub+fJ (w.e true).hub
def eH(w:bP):Nat:=w.p.2.1.length+w.old.length+w.bc.length+(w.dw false).length+(w.dw true).length+3*fH w
def ip(w:bP):Nat:=eS w.bc+f_ w+950*fH w
def EF(f:Bool->α)(i:Bool)(x:α):gJ f i x i=x:=by unfold gJ;rw[if_pos rfl]
def EG(f:Bool->α)(i:Bool)(x:α):gJ f i x (!i)=f (!i):=by unfold gJ;rw[if_neg (by cases i<;>decide)]
def Xy(f:Bool->Nat)(i:Bool):f false+f true=f i+f (!i):=by cases i<;>(show f false+f true=_)<;>first|rfl|exact Nat.add_comm _ _
def Qe(w:bP)(i:Bool):fH w=(w.e i).queue.length+(w.e (!i)).queue.length:=Xy (λj=>(w.e j).queue.length) i
def PV(w:bP)(i:Bool):f_ w=fJ (w.e i).hub+fJ (w.e (!i)).hub:=Xy (λj=>fJ (w.e j).hub) i
def UU(w:bP)(i:Bool):(w.dw false).length+(w.dw true).length=(w.dw i).length+(w.dw (!i)).length:=Xy (λj=>(w.dw j).length) i
structure ajS(w:bP)(i:Bool)(x:aw)(v:bP):Prop where
 bc:v.bc=w.bc++x.e.bC.map (jx i)\/v.bc=[]
 Q:fH v=x.e.queue.length+(w.e (!i)).queue.length
 B:f_ v<=fJ x.e.hub+fJ (w.e (!i)).hub
 Z:eH v<=x.p.2.1.length+(w.old.length+x.e.bC.length)+(w.bc.length+x.e.bC.length)+((w.dw i).length+x.e.got.length)+(w.dw (!i)).length+3*fH v
def Zc(h:ej)(c:Int):fJ (lX h c).1<=fJ h:=by
 have key:∀k,(ao (lX h c).1.2.1 k eJ).1.length<=(ao h.2.1 k eJ).1.length:=by
  intro k;unfold lX;split
  .simp
  split
  .simp
  show(ao (cn h.2.1 c.toNat eJ) k eJ).1.length<=_;unfold ao cn;rw[lS,CH];split
  .split<;>exact nV _
  simp
 unfold fJ
 grind
def Gj(w:bP)(c:Int):fH (iX w c)=fH w/\f_ (iX w c)<=f_ w/\eH (iX w c)<=eH w/\eS (iX w c).bc<=eS w.bc:=by
 have hf:((w.bc.filter λf=>decide (¬f.2.1=c))).length<=w.bc.length:=ls _ _;have aq:=Zc (w.e false).hub c;have O:=Zc (w.e true).hub c;refine⟨rfl,?_,?_,?_⟩
 .show fJ (lX (w.e false).hub c).1+fJ (lX (w.e true).hub c).1<=fJ (w.e false).hub+fJ (w.e true).hub
  omega
 .show w.p.2.1.length+w.old.length+(w.bc.filter λf=>decide (¬f.2.1=c)).length+(w.dw false).length+(w.dw true).length+3*fH w<=eH w
  unfold eH;omega
 show eS (w.bc.filter λf=>decide (¬f.2.1=c))<=eS w.bc;generalize w.bc=l;induction l with
 |nil=>exact b1 _
 |cons f l ih=>
  rw[List.filter_cons];split
  .rw[tS,tS];omega
  rw[tS];omega
def alF{w:bP}(h:∀f∈w.bc,Bh f):(uQ w).bc=[]:=by
 show((((w.bc.filter λf=>decide (¬f.2.1=0)).filter λf=>decide (¬f.2.1=1)).filter λf=>decide (¬f.2.1=2)).filter λf=>decide (¬f.2.1=3))=[];rw[KV,KV,KV,KW];intro f hf;have:=(h f hf).2.1
 grind
def alG(w:bP):fH (uQ w)=fH w/\f_ (uQ w)<=f_ w/\eH (uQ w)<=eH w:=by obtain⟨cN,cX,a3,_⟩:=Gj w 0;obtain⟨e9,eo,jH,_⟩:=Gj (iX w 0) 1;obtain⟨c1,c2,hN,_⟩:=Gj (iX (iX w 0) 1) 2;obtain⟨d1,d2,d3,_⟩:=Gj (iX (iX (iX w 0) 1) 2) 3;exact⟨rfl,by show f_ (iX _ 3)<=_;omega,by show eH (iX _ 3)<=_;omega⟩
def awy{s:aw}(h:nG s)(c:Int):nG ⟨oP s.e c,s.p⟩:=by obtain⟨n,h⟩:=h;exact⟨n,afQ h.e c,h.p⟩
def IQ{w:bP}(h:hj w)(c:Int):hj (iX w c):=
 ⟨λi=>awy (h.s i) c,h.bC,h.got,λf hf=>h.bc f (xW.1 hf).1,h.old⟩
def afO{x:aw}(h:bj n x):∀f∈x.e.bC.map (jx i),Bh f:=by intro f hf;obtain⟨y,hy,rfl⟩:=zV.1 hf;obtain⟨O,R⟩:=h.e.outs y hy;exact⟨by cases i<;>first|exact .inl rfl|exact .inr rfl,O,R⟩
def awU{w:bP}(h:hj w){x:aw}(hx:nG x):hj (mv w i x):=by
 obtain⟨n,ak⟩:=hx;have aJ:o5 n { x.e with bC:=[],got:=[] }:={ ak.e with bC:=nV _,got:=nV _,outs:=λ_ hx=>by cases hx };refine⟨λj => ?_,λj => ?_,λj => ?_,λf hf => ?_,λf hf => ?_⟩
 .by_cases ap:j=i
  .subst ap
   exact⟨n,by show o5 n (gJ w.e j _ j);rw[EF];exact aJ,ak.p⟩
  have dL:j=!i:=by cases i<;>cases j<;>simp_all
  subst dL;obtain⟨m,hm⟩:=h.s (!i);refine⟨max n m,?_,hH ak.p (Nat.le_max_left _ _)⟩;show o5 _ (gJ w.e i _ (!i));rw[EG];exact Bg hm.e (Nat.le_max_right _ _)
 .by_cases ap:j=i
  .subst ap;show(gJ w.e j _ j).bC=[];rw[EF]
  have dL:j=!i:=by cases i<;>cases j<;>simp_all
  subst dL;show(gJ w.e i _ (!i)).bC=[];rw[EG];exact h.bC _
 .by_cases ap:j=i
  .subst ap;show(gJ w.e j _ j).got=[];rw[EF]
  have dL:j=!i:=by cases i<;>cases j<;>simp_all
  subst dL;show(gJ w.e i _ (!i)).got=[];rw[EG];exact h.got _
 .rcases hG.1 hf with hf|hf
  .exact h.bc f hf
  exact afO ak f hf
 rcases hG.1 hf with hf|hf
 .exact h.old f hf
 exact afO ak f hf
def af0{w:bP}(h:hj w){x:aw}(hx:nG x):hj (iy w i x)/\ajS w i x (iy w i x):=by
 have aq:=awU (i:=i) h hx;have lD:fH (mv w i x)=x.e.queue.length+(w.e (!i)).queue.length:=by rw[Qe _ i];show(gJ w.e i _ i).queue.length+(gJ w.e i _ (!i)).queue.length=_;rw[EF,EG]
 have az:f_ (mv w i x)=fJ x.e.hub+fJ (w.e (!i)).hub:=by rw[PV _ i];show fJ (gJ w.e i _ i).hub+fJ (gJ w.e i _ (!i)).hub=_;rw[EF,EG]
 have At:eH (mv w i x)=x.p.2.1.length+(w.old.length+x.e.bC.length)+(w.bc.length+x.e.bC.length)+((w.dw i).length+x.e.got.length)+(w.dw (!i)).length+3*fH (mv w i x):=by
  have hl:=UU (mv w i x) i;have e1:((mv w i x).dw i).length=(w.dw i).length+x.e.got.length:=by show(gJ w.dw i _ i).length=_;rw[EF,dd]
  have aU:((mv w i x).dw (!i)).length=(w.dw (!i)).length:=by show(gJ w.dw i _ (!i)).length=_;rw[EG]
  unfold eH;rw[show(mv w i x).p=x.p from rfl,show(mv w i x).old=w.old++x.e.bC.map (jx i) from rfl,show(mv w i x).bc=w.bc++x.e.bC.map (jx i) from rfl,dd,dd,s9];omega
 unfold iy;split
 .obtain⟨e9,eo,jH⟩:=alG (mv w i x)
  refine⟨IQ (IQ (IQ (IQ aq 0) 1) 2) 3,.inr (alF aq.bc),e9.trans lD,hH eo (KO az),?_⟩;omega
 exact⟨aq,.inl rfl,lD,KO az,KO At⟩
def aeH(i:Bool)(l:List q7):eS (l.map (jx i))=m6 l:=by unfold eS m6;rw[PX];rfl
def QM{w:bP}(h:hj w)(i:Bool)(c:Int)(b:V):hj (lw w i c b)/\((lw w i c b).bc=[]\/∃o,(lw w i c b).bc=w.bc++o/\4*(eS o+950*fH (lw w i c b))+5*f_ (lw w i c b)<=4*(950*fH w)+5*(f_ w+b.length)) /\
  4*(950*fH (lw w i c b))+5*f_ (lw w i c b)<=4*(950*fH w)+5*(f_ w+b.length)/\20*eH (lw w i c b)+4*f_ (lw w i c b)<=20*eH w+4*(f_ w+b.length):=by
 have hf:nG (qb (w.at i) c b):=awx (h.s i) c b;obtain⟨n,ak⟩:=h.s i;obtain⟨cN,cX,a3,a4⟩:=ab9 (s:=w.at i) ak.e.feed c b;have aK:(w.at i).e.bC=[]:=h.bC i;have hg:(w.at i).e.got=[]:=h.got i;rw[aK]at cN cX;rw[hg]at a4;have ea:m6 ([]:List q7)=0:=rfl;have e1:([]:List q7).length=0:=rfl;have aU:([]:List eg).length=0:=rfl;rw[ea]at cN;rw[e1]at cX;rw[aU]at a4;obtain⟨O,R,af,au,aY⟩:=af0 (i:=i) h hf;have aQ:=Qe w i;have aa:=PV w i;have bs:=UU w i;have bL:(w.at i).e.queue.length=(w.e i).queue.length:=rfl;have ca:fJ (w.at i).e.hub=fJ (w.e i).hub:=rfl;have cq:(w.at i).p.2.1.length=w.p.2.1.length:=rfl;have At:eH w=w.p.2.1.length+w.old.length+w.bc.length+(w.dw false).length+(w.dw true).length+3*fH w:=rfl;rw[show lw w i c b=iy w i (qb (w.at i) c b) from rfl];refine⟨O,?_,J,J⟩;rcases R with R|R
 .refine .inr ⟨_,R,?_⟩
  rw[aeH];omega
 exact .inl R
def WV{w:bP}(h:hj w)(i:Bool){x:aw}(hx:nG x){t:Nat}(hg:b_ m t g (w.at i) x):hj (iy w i x)/\ip (iy w i x)<=ip w+m/\eH (iy w i x)<=eH w+3*t+g:=by
 obtain⟨cN,cX,a3,a4,a5⟩:=hg;have aK:(w.at i).e.bC=[]:=h.bC i;have MB:(w.at i).e.got=[]:=h.got i;rw[aK]at cN cX;rw[MB]at a4;have ea:m6 ([]:List q7)=0:=rfl;have e1:([]:List q7).length=0:=rfl;have aU:([]:List eg).length=0:=rfl;rw[ea]at cN;rw[e1]at cX;rw[aU]at a4;obtain⟨O,R,af,au,aY⟩:=af0 (i:=i) h hx;have aQ:=Qe w i;have aa:=PV w i;have bs:=UU w i;have bL:(w.at i).e.queue.length=(w.e i).queue.length:=rfl;have ca:fJ (w.at i).e.hub=fJ (w.e i).hub:=rfl;have cq:(w.at i).p.2.1.length=w.p.2.1.length:=rfl;have At:eH w=w.p.2.1.length+w.old.length+w.bc.length+(w.dw false).length+(w.dw true).length+3*fH w:=rfl;have rh:eS (iy w i x).bc<=eS w.bc+m6 x.e.bC:=by
  rcases R with R|R
  .rw[R,Nb,aeH];exact b1 _
  rw[R];exact nV _
 refine⟨O,?_,?_⟩
 .unfold ip;omega
 omega
def FX:=@List.mem_of_mem_eraseIdx
def CE:=@List.length_eraseIdx_le
def P7:=@List.exists_cons_of_ne_nil
def KA:=@List.mem_or_eq_of_mem_set
def DG:=@Nat.mul_add
def YQ{a:gq}(h:BB a):a.2.2.2.2.1.length<=900:=by
 rcases h with rfl|h
 .exact nV _
 exact h.1.2.2.2.2
def aqu(s:aw){a:gq}(h:a.2.2.2.2.1.length<=900):b_ 948 1 0 s (qa s a):=by
 unfold qa;split
 .exact(Mm s _ _).mono J J J
 exact(G5 s _).mono J J J
def aqw(s:aw):b_ 0 0 1 s (r9 s):=by
 unfold r9;split
 .exact(acw s).mono J J J
 split
 .exact(aqz s).mono J J J
 exact aqA s
def aqG(s:aw)(a:gq):b_ 0 0 0 s (s2 s a):=b_.same _ _ rfl (b1 _) rfl rfl rfl
def acA{s:aw}(ab:bj n s):b_ 948 1 1 s (oB s):=by
 have aq:=aqG s (kF s.e.ask).1;unfold oB;split
 .exact aq.to (aqu _ (YQ (Od ab.e.askr))) J J J
 split
 .exact aq.to (aqw _) J J J
 exact aq.mono J J J
def S5{s:aw}(ab:bj n s):b_ 948 1 3 s (ij s):=by
 have ai:b_ 0 0 0 s (zj s):=b_.same _ _ rfl (b1 _) rfl rfl rfl;unfold ij;split
 .exact(b_.refl s).mono J J J
 split
 .split
  .exact ai.to (acx _) J J J
  exact(ai.trans (acA (xa ab))).to (G3 _) J J J
 exact(acA ab).to (G3 _) J J J
def aqE(s:aw)(b:V):b_ 950 1 1 s (pd s b).1:=by
 have aq:b_ 950 1 1 s s:=(b_.refl s).mono J J J;unfold pd;split
 .exact aq
 split
 .exact aq
 split
 .exact aq
 have aQ:(m_ s.e.queue (ki b s.e.day).1).1.length<=s.e.queue.length+1:=by
  unfold m_
  grind
 have O:b_ 950 1 0 s (nL s (m_ s.e.queue (ki b s.e.day).1).1):=by
  refine⟨?_,?_,?_,b1 _,b1 _⟩
  .show m6 s.e.bC+950*(m_ s.e.queue (ki b s.e.day).1).1.length<=_;omega
  .show s.e.bC.length+(m_ s.e.queue (ki b s.e.day).1).1.length<=_;omega
  show s.p.2.1.length+(m_ s.e.queue (ki b s.e.day).1).1.length<=_;omega
 exact(O.trans (S2 _ 1 0 (ki b s.e.day).1)).to (G3 _) J J J
def acu{s:aw}(ab:bj n s)(a:g3):b_ 950 1 3 s (mr s a).1:=by
 have aq:b_ 950 1 3 s s:=(b_.refl s).mono J J J;have aQ:∀(x:aw) (q:de),b_ 948 1 0 x (jT x q):=λx q=>(S3 x q (b1 _)).mono J J J;unfold mr;split
 .exact(aqE s _).mono J J J
 split
 .exact(acx s).mono J J J
 split
 .unfold r8
  split
  .exact aq
  split
  .exact aq
  split
  .exact(Dr s 0).mono J J J
  have O:b_ 0 0 0 s (C0 s):=b_.same _ _ rfl (nV _) rfl rfl rfl;exact O.to (aQ _ _) J J J
 split
 .unfold sb
  split
  .exact aq
  split
  .exact aq
  exact(aQ _ _).mono J J J
 split
 .unfold sD
  split
  .exact aq
  split
  .exact aq
  split
  .exact aq
  split
  .exact aq
  have O:b_ 0 0 0 s ⟨{ s.e with ph:=4,ring:=(m8 s.e.ring (o3 s.e.ring).1 (oR s.e (o3 s.e.ring).1 a.2.2.2.2.1)).1 },s.p⟩:=b_.same _ _ rfl (b1 _) rfl rfl rfl;exact O.to (aQ _ _) J J J
 split
 .unfold r'
  split
  .exact aq
  split
  .exact aq
  split
  .exact aq
  have O:b_ 0 0 0 s (pN s 5):=b_.same _ _ rfl (b1 _) rfl rfl rfl;exact O.to (aQ _ _) J J J
 split
 .exact(S5 ab).mono J J J
 split
 .exact(act s).mono J J J
 split
 .unfold ti
  repeat(first|exact aq|exact b_.mono (m:=0) (t:=0) (g:=0) (by exact b_.same _ _ rfl (b1 _) rfl rfl rfl) J J J|split)
 split
 .exact b_.mono (m:=0) (t:=0) (g:=0) (by exact b_.same _ _ rfl (b1 _) rfl rfl rfl) J J J
 exact aq
def LF:∀(k:Nat) {w:bP},hj w->(k<=w.bc.length\/w.bc=[])->hj (mX k w) /\
  4*(eS (mX k w).bc+950*fH (mX k w))+5*f_ (mX k w)<=5*(eS (w.bc.take k)+f_ w)+4*(eS (w.bc.drop k)+950*fH w) /\
  20*eH (mX k w)+4*f_ (mX k w)<=20*eH w+4*(f_ w+eS (w.bc.take k))
 |0,w,h,am=>⟨h,by show 4*(eS w.bc+950*fH w)+5*f_ w<=5*(eS []+f_ w)+4*(eS w.bc+950*fH w);omega,by show 20*eH w+4*f_ w<=_;omega⟩
 |k+1,w,h,am=>by
  unfold mX;split
  .grind
  rename_i aq;obtain⟨f,r,hf⟩:=P7 aq;have ME:k<=r.length:=by
   grind
  have e:(lB w 0 0).1=lw { w with bc:=r } (lq f.1) f.2.1 f.2.2.1:=by unfold lB;rw[hf];rw[if_neg bp];rfl
  have O:hj { w with bc:=r }:=⟨h.s,h.bC,h.got,λg hg=>h.bc g (by grind),h.old⟩;obtain⟨e9,eo,jH,n5⟩:=QM O (lq f.1) f.2.1 f.2.2.1;rw[e];generalize lw { w with bc:=r } (lq f.1) f.2.1 f.2.2.1=v at e9 eo jH n5;have bL:fH ({ w with bc:=r }:bP)=fH w:=rfl;have ca:f_ ({ w with bc:=r }:bP)=f_ w:=rfl;have cq:eH ({ w with bc:=r }:bP)+1=eH w:=by unfold eH;rw[bL,hf];simp;omega
  have eA:eS ((f::r).take (k+1))=f.2.2.1.length+eS (r.take k):=rfl;rcases eo with aB|⟨o,aB,eo⟩
  .obtain⟨c1,c2,hN⟩:=LF k e9 (.inr aB)
   have ajI:eS (([]:List eM).take k)=0:=by cases k<;>rfl
   grind
  have cm:k<=v.bc.length:=by rw[aB,dd];exact hH ME (Nat.le_add_right _ _)
  obtain⟨c1,c2,hN⟩:=LF k e9 (.inl cm);have aU:v.bc.drop k=r.drop k++o:=by rw[aB];exact Qv ME
  rw[aU,Nb]at c2
  grind
def Xs{w:bP}(h:hj w)(i:Bool):hj (nQ w i)/\ip (nQ w i)<=ip w+948/\eH (nQ w i)<=eH w+6:=by obtain⟨n,ak⟩:=h.s i;exact WV h i ⟨_,afY ak⟩ (S5 ak)
def ay2{w:bP}(h:hj w):hj (jB w)/\4*ip (jB w)<=5*ip w+7600/\20*eH (jB w)<=20*eH w+4*ip w+240:=by
 obtain⟨cN,cX,a3⟩:=LF w.bc.length h (.inl (b1 _));rw[ni]at cX a3;rw[List.drop_length]at cX;obtain⟨e9,eo,jH⟩:=Xs cN false;obtain⟨c1,c2,hN⟩:=Xs e9 true;have ea:eS ([]:List eM)=0:=rfl;rw[ea]at cX;refine⟨c1,?_,?_⟩
 .show 4*ip (nQ (nQ (mX w.bc.length w) false) true)<=_
  unfold ip at *
  omega
 show 20*eH (nQ (nQ (mX w.bc.length w) false) true)<=_;unfold ip;omega
def q?{f:pZ}(h:qN f):f.1.length<=1025:=by rcases h.2 with h|h<;>omega
def ajO{w:bP}(h:hj w):f_ w<=8200:=by
 have key:∀i,fJ (w.e i).hub<=4100:=λi=>by obtain⟨n,ak⟩:=h.s i;have aq:=q? (ak.e.fd 0);have O:=q? (ak.e.fd 1);have R:=q? (ak.e.fd 2);have af:=q? (ak.e.fd 3);show(ao (w.at i).e.hub.2.1 0 eJ).1.length+(ao (w.at i).e.hub.2.1 1 eJ).1.length+(ao (w.at i).e.hub.2.1 2 eJ).1.length+(ao (w.at i).e.hub.2.1 3 eJ).1.length<=4100;omega
 have aq:=key false;have O:=key true;unfold f_;omega
structure lV(w v:bP):Prop where
 ok:hj v
 L:ip v<=ip w+4000
 Z:eH v<=eH w+4000
def lV.refl{w:bP}(h:hj w):lV w w:=⟨h,J,J⟩
def WN{w u:bP}(h:hj u)(i:Bool)(c:Int)(aa:b.length<=1200)(hL:ip u+b.length<=ip w+1200)(At:eH u<=eH w):lV w (lw u i c b):=by
 obtain⟨cN,cX,a3,a4⟩:=QM h i c b;have az:=ajO h;have aL:ip u=eS u.bc+f_ u+950*fH u:=rfl;refine⟨cN,?_,J⟩;show eS (lw u i c b).bc+f_ (lw u i c b)+950*fH (lw u i c b)<=_;rcases cX with cX|⟨o,cX,a5⟩
 .rw[cX,show eS ([]:List eM)=0 from rfl];omega
 rw[cX,Nb];omega
def UP:∀(l:List eM) (n:Nat),n<l.length->eS (l.eraseIdx n)+(ao l n ov).2.2.1.length=eS l
 |f::l,0,h=>by show eS l+f.2.2.1.length=_;rw[tS];omega
 |f::l,n+1,h=>by have:=UP l n (by grind);show eS (f::l.eraseIdx n)+(ao l n ov).2.2.1.length=_;rw[tS,tS];omega
def aeI:∀(l:List eM) (n:Nat) (g:eM),n<l.length->eS (l.set n g)+(ao l n ov).2.2.1.length=eS l+g.2.2.1.length
 |f::l,0,g,h=>by show eS (g::l)+f.2.2.1.length=_;rw[tS,tS];omega
 |f::l,n+1,g,h=>by have:=aeI l n g (by grind);show eS (f::l.set n g)+(ao l n ov).2.2.1.length=_;rw[tS,tS];omega
def IG{l:List eM}(h:n<l.length):ao l n ov∈l:=by unfold ao;rw[lS,km h];exact k6 h
def IR{w:bP}(h:hj w){l:List eM}(hl:∀f∈l,Bh f):hj { w with bc:=l }:=⟨h.s,h.bC,h.got,hl,h.old⟩
def az5{w:bP}(h:hj w)(n m:Int):lV w (lB w n m).1:=by
 unfold lB;split
 .exact lV.refl h
 have ak:n.toNat<w.bc.length:=J;have eF:=h.bc _ (IG ak);dsimp only;split
 .rename_i hm
  refine WN (IR h λf hf => ?_) _ _ (by rw[io];have:=eF.2.2;omega) ?_ ?_
  .rcases KA hf with hf|rfl
   .exact h.bc f hf
   exact⟨eF.1,eF.2.1,by rw[eU];have:=eF.2.2;omega⟩
  .have:=aeI w.bc n.toNat ((ao w.bc n.toNat ov).1,(ao w.bc n.toNat ov).2.1,(ao w.bc n.toNat ov).2.2.1.drop m.toNat,()) ak
   rw[eU]at this;rw[io];show eS (w.bc.set n.toNat _)+f_ w+950*fH w+_<=eS w.bc+f_ w+950*fH w+1200;omega
  show w.p.2.1.length+w.old.length+(w.bc.set n.toNat _).length+(w.dw false).length+(w.dw true).length+3*fH w<=eH w;rw[k7];exact b1 _
 refine WN (IR h λf hf=>h.bc f (FX hf)) _ _ (by have:=eF.2.2;omega) ?_ ?_
 .have:=UP w.bc n.toNat ak
  show eS (w.bc.eraseIdx n.toNat)+f_ w+950*fH w+_<=eS w.bc+f_ w+950*fH w+1200;omega
 have:(w.bc.eraseIdx n.toNat).length<=w.bc.length:=CE _ _;show w.p.2.1.length+w.old.length+(w.bc.eraseIdx n.toNat).length+(w.dw false).length+(w.dw true).length+3*fH w<=w.p.2.1.length+w.old.length+w.bc.length+(w.dw false).length+(w.dw true).length+3*fH w;omega
def ait{w:bP}(h:hj w){f:eM}(hf:Bh f):lV w { w with bc:=w.bc++[f] }:=by
 have af:=hf.2.2;refine⟨IR h λg hg => ?_,?_,?_⟩
 .rcases hG.1 hg with hg|hg
  .exact h.bc g hg
  grind
 .show eS (w.bc++[f])+f_ w+950*fH w<=eS w.bc+f_ w+950*fH w+4000
  rw[Nb,tS,show eS ([]:List eM)=0 from rfl];omega
 show w.p.2.1.length+w.old.length+(w.bc++[f]).length+(w.dw false).length+(w.dw true).length+3*fH w<=w.p.2.1.length+w.old.length+w.bc.length+(w.dw false).length+(w.dw true).length+3*fH w+4000
 grind
def az6{w:bP}(h:hj w){x:aw}(hx:nG x)(hg:b_ 950 1 3 (w.at i) x):lV w (iy w i x):=by obtain⟨cN,cX,a3⟩:=WV h i hx hg;exact⟨cN,J,J⟩
def acz(s:aw)(au:s.e.hub.2.1.length=4)(c:Int):b_ 0 0 0 s (pO s c).1:=by
 have aa:fJ (mb s.e.hub c).1<=fJ s.e.hub:=by
  have key:∀k,(ao (mb s.e.hub c).1.2.1 k eJ).1.length<=(ao s.e.hub.2.1 k eJ).1.length:=by
   intro k;unfold mb;split
   .simp
   split
   .simp
   show(ao (cn s.e.hub.2.1 c.toNat eJ) k eJ).1.length<=_;unfold ao cn;rw[lS,CH];split
   .split<;>exact nV _
   simp
  unfold fJ
  grind
 unfold pO;split
 .exact b_.refl s
 split
 .exact b_.refl s
 have O:b_ 0 0 0 s ⟨{ s.e with hub:=(mb s.e.hub c).1 },s.p⟩:=⟨b1 _,b1 _,b1 _,b1 _,aa⟩;exact O.to (G3 _) J J J
def V_{w:bP}(h:hj w)(i:Bool)(c:Int):hj (o8 w i c)/\ip (o8 w i c)<=ip w/\eH (o8 w i c)<=eH w:=by obtain⟨n,ak⟩:=h.s i;exact WV h i ⟨_,afW ak c⟩ (acz _ ak.e.feed c)
def az4{w:bP}(h:hj w)(a:g3)(aa:a.2.2.2.2.1.length<=1200)(ah:¬a.1=17):lV w (ho w a).1:=by
 unfold ho;split
 .exact az5 h _ _
 split
 .unfold C9
  split
  .exact lV.refl h
  rename_i ak;have lF:a.2.2.1.toNat<w.bc.length:=J;have O:=UP w.bc a.2.2.1.toNat lF;have R:(w.bc.eraseIdx a.2.2.1.toNat).length<=w.bc.length:=CE _ _;refine⟨IR h λf hf=>h.bc f (FX hf),?_,?_⟩
  .show eS (w.bc.eraseIdx a.2.2.1.toNat)+f_ w+950*fH w<=eS w.bc+f_ w+950*fH w+4000;omega
  show w.p.2.1.length+w.old.length+(w.bc.eraseIdx a.2.2.1.toNat).length+(w.dw false).length+(w.dw true).length+3*fH w<=w.p.2.1.length+w.old.length+w.bc.length+(w.dw false).length+(w.dw true).length+3*fH w+4000;omega
 split
 .unfold CI
  split
  .exact lV.refl h
  rename_i ak;exact ait h (h.old _ (IG J))
 split
 .unfold Fb
  split
  .exact lV.refl h
  rename_i ak;have qt:0<=a.2.2.1/\a.2.2.1<(w.old.length:Int):=iQ λq=>ak (.inl q);have aK:=h.old _ (IG (l:=w.old) (n:=a.2.2.1.toNat) J);refine ait h ⟨aK.1,aK.2.1,?_⟩;show(cn _ _ _).length<=948;unfold cn;rw[k7];exact aK.2.2
 split
 .unfold DX
  split
  .exact lV.refl h
  exact WN h _ _ aa J (b1 _)
 split
 .unfold y'
  split
  .exact lV.refl h
  split
  .exact lV.refl h
  split
  .exact lV.refl h
  show lV w (o8 (o8 w false a.2.2.1) true a.2.2.1);obtain⟨cN,cX,a3⟩:=V_ h false a.2.2.1;obtain⟨e9,eo,jH⟩:=V_ cN true a.2.2.1;exact⟨e9,J,J⟩
 split
 .unfold C3
  split
  .exact lV.refl h
  show lV w (iX w a.2.2.1);obtain⟨cN,cX,a3,a4⟩:=Gj w a.2.2.1;refine⟨IQ h _,?_,J⟩;show eS (iX w a.2.2.1).bc+f_ (iX w a.2.2.1)+950*fH (iX w a.2.2.1)<=eS w.bc+f_ w+950*fH w+4000;omega
 split
 .unfold r3
  split
  .exact lV.refl h
  obtain⟨n,ak⟩:=h.s (lq a.2.1);exact az6 h ⟨_,afR ak a⟩ (acu ak a)
 exact lV.refl h
structure jF(a r:Nat)(w:bP):Prop where
 ok:hj w
 L:4^r*(ip w+7600)<=5^r*(4000*a+7600)
 Z:4^r*eH w<=5^r*(8000*a+9000)
def V0(r:Nat):4^r<=5^r:=Nat.pow_le_pow_left J r
def jF.akm{a:Nat}{w v:bP}(h:jF a r w)(k:lV w v):jF (a+1) r v:=by
 have hp:=V0 r;refine⟨k.ok,?_,?_⟩
 .calc 4^r*(ip v+7600)<=4^r*(ip w+7600+4000):=Cu _ (by have:=k.L;omega)
   _=4^r*(ip w+7600)+4^r*4000:=DG _ _ _
   _<=5^r*(4000*a+7600)+5^r*4000:=Nat.add_le_add h.L (gM _ hp)
   _=5^r*(4000*(a+1)+7600):=by rw[<- DG,show 4000*a+7600+4000=4000*(a+1)+7600 by omega]
 calc 4^r*eH v<=4^r*(eH w+4000):=Cu _ k.Z
  _=4^r*eH w+4^r*4000:=DG _ _ _
  _<=5^r*(8000*a+9000)+5^r*8000:=Nat.add_le_add h.Z (P6 hp J)
  _=5^r*(8000*(a+1)+9000):=by rw[<- DG,show 8000*a+9000+8000=8000*(a+1)+9000 by omega]
def jF.round {a:Nat} {w : bP} (h : jF a r w) : jF a (r + 1) (jB w) := by
  have hp := V0 r
  obtain ⟨bF, b2, dy⟩ := ay2 h.ok
  have hL := h.L
  have At := h.Z
  refine ⟨bF, ?_, ?_⟩
  · calc 4 ^ (r + 1) * (ip (jB w) + 7600) = 4 ^ r * (4 * (ip (jB w) + 7600)) := by rw [Nat.pow_succ, Nat.mul_assoc]
      _ ≤ 4 ^ r * (5 * (ip w + 7600)) := Nat.mul_le_mul_left _ J
      _ = 5 * (4 ^ r * (ip w + 7600)) := Nat.mul_left_comm _ _ _
      _ ≤ 5 * (5 ^ r * (4000 * a + 7600)) := Nat.mul_le_mul_left _ hL
      _ = 5 ^ (r + 1) * (4000 * a + 7600) := by rw [Nat.pow_succ, Nat.mul_comm (5 ^ r) 5, Nat.mul_assoc]
  · have O : 5 * (4 ^ (r + 1) * eH (jB w)) ≤ 5 * (5 ^ (r + 1) * (8000 * a + 9000)) := by
      calc 5 * (4 ^ (r + 1) * eH (jB w)) = 4 ^ r * (20 * eH (jB w)) := by
            rw [Nat.pow_succ, Nat.mul_assoc, Nat.mul_left_comm, ← Nat.mul_assoc 5 4]
        _ ≤ 4 ^ r * (20 * eH w + (4 * (ip w + 7600))) := Nat.mul_le_mul_left _ J
        _ = 20 * (4 ^ r * eH w) + 4 * (4 ^ r * (ip w + 7600)) := by rw [Nat.mul_add, Nat.mul_left_comm, Nat.mul_left_comm _ 4]
        _ ≤ 20 * (5 ^ r * (8000 * a + 9000)) + 4 * (5 ^ r * (4000 * a + 7600)) := Nat.add_le_add (Nat.mul_le_mul_left _ At) (Nat.mul_le_mul_left _ hL)
        _ = 5 ^ r * (20 * (8000 * a + 9000) + 4 * (4000 * a + 7600)) := by rw [Nat.mul_add (5 ^ r) (20 * _), Nat.mul_left_comm (5 ^ r) 20, Nat.mul_left_comm (5 ^ r) 4]
        _ ≤ 5 ^ r * (25 * (8000 * a + 9000)) := Nat.mul_le_mul_left _ J
        _ = 5 * (5 ^ (r + 1) * (8000 * a + 9000)) := by rw [Nat.pow_succ, Nat.mul_assoc, Nat.mul_left_comm 5 (5 ^ r), ← Nat.mul_assoc 5 5]
    exact Nat.le_of_mul_le_mul_left O J
def jF.x_{a:Nat}:∀(k:Nat) {r:Nat} {w:bP},jF a r w->jF a (r+k) (oO k w)
 |0,r,w,h=>h
 |k+1,r,w,h=>by
  have:=jF.x_ k h.round;rw[Nat.add_right_comm]at *
  exact this
def jF.mono{a b s:Nat}{w:bP}(h:jF a r w)(bh:a<=b)(ai:r<=s):jF b s w:=by
 obtain⟨d,rfl⟩:∃d,s=d+r:=⟨s-r,J⟩;have hp:=V0 d;have key:∀{x y z:Nat},4^r*x<=5^r*y->y<=z->4^(d+r)*x<=5^(d+r)*z:=fun{x y z} O R=>by rw[DA,DA,FG,FG];exact P6 hp (hH O (Cu _ R))
 exact⟨h.ok,key h.L J,key h.Z J⟩
def jF.Em{w:bP}(h:jF 41 66 w):eH w<=900000000000:=by have At:=h.Z;omega
def atH{h:ej}(hf:∀c,qN (ao h.2.1 c eJ))(c:Int)(aa:b.length<=1000000):MR (h,c,b,())=some ((hY h c b).1,(hY h c b).2.1,(hY h c b).2.2,()):=by
 unfold MR hY;rw[adT];by_cases ah:kP c
 .rw[cF ah,if_neg (not_not_intro ah)]
  have au:aN c (bi 4)=true:=by unfold kP at ah;simp only[go_sem];exact ah
  refine(bT rfl).trans ((eV au).trans ?_);by_cases aC:mN h c
  .rw[if_neg (not_not_intro aC)]
   have ai:=hf c.toNat;refine(bT (by rw[g33,show ao h.1 c.toNat false=true from aC];rfl)).trans ((eV au).trans ?_);have ab:0<=(ao h.2.1 c.toNat eJ).2.1/\(ao h.2.1 c.toNat eJ).2.1<=65535:=by have:=ai.1;omega
   refine(cw (ap0 (by have:=q? ai;omega) aa ab)).trans ((dr rfl).trans ((eV au).trans rfl))
  rw[if_pos aC];exact b4 (by rw[g33];cases hx:ao h.1 c.toNat false;rfl;exact absurd hx aC)
 rw[cH ah,if_pos ah];rfl
theorem ao2(e:c8):Sl (e.t,())=some (({ e with bC:=[],got:=[] }:c8).t,e.bC,e.got,()):=rfl
def abm(s:aw)(c:Int):Sm (s.t,c,())=some ((⟨oP s.e c,s.p⟩:aw).t,(lX s.e.hub c).2,()):=by exact(cw (atF _ _)).trans rfl
def ao6{s:aw}(ab:bj n s)(ak:n<=999999000000)(c:Int):LU (s.t,c,())=some ((pO s c).1.t,(pO s c).2,()):=by
 unfold LU pO;by_cases cx:s.e.ph=8
 .rw[if_pos cx];exact b4 (cI cx)
 rw[if_neg cx];refine a2 (cv cx) (aS (atI _ _) ?_);by_cases aq:(mb s.e.hub c).2=0
 .rw[if_neg (not_not_intro aq)]
  refine a2 (kN aq) ?_;exact(cw (SR (Vy ab c) ak)).trans rfl
 rw[if_pos aq];exact b4 (mo aq)
def ao9{s:aw}(ab:bj m s)(hm:m<=999999000000)(n:de)(ak:n.2.2.2.2.2.1.length<=1000):GJ (s.t,n,())=some ((qR s n).t,()):=by
 unfold GJ qR;by_cases O:n.2.1=101
 .rw[if_pos O]
  refine aS ((b4 (cI O))) ?_;cases aQ:n.1
  .rw[if_neg bp]
   refine a2 rfl (bm (cI O) ?_);exact(cw (ayD ab J n)).trans rfl
  rw[if_pos rfl];exact(cw (ayF ab J n ak)).trans rfl
 rw[if_neg O];refine aS ((bT (cv O))) (a2 rfl (a2 (cv O) ?_));by_cases R:n.2.1=201
 .rw[if_pos R]
  refine aS ((b4 (cI R))) ?_;cases aQ:n.1
  .rw[if_neg bp]
   refine a2 rfl (bm (cI R) ?_);exact(cw (ap6 n (by have:=YQ ab.e.askr;omega))).trans rfl
  rw[if_pos rfl];exact(cw (ap8 ab J n)).trans rfl
 rw[if_neg R];refine aS ((bT (cv R))) (a2 rfl (a2 (cv R) ?_));exact(cw (azR ab J n)).trans rfl
def awc:(kg b).1.2.2.2.2.2.1.length<=1000:=by
 rcases agG b with⟨n,h,ai,_⟩|⟨e,_,h⟩
 .rw[h]
  have am:=ai.2.2.2.2.2.2;unfold Ia at am
  grind
 rw[h];show([]:V).length<=1000;simp
def xg{s:aw}(ab:bj n s)(ak:n<=999999000000):(ob (kS (s.t,())) λ(a:fb×Unit)=>(some (a.1,()):Option (fb×Unit)))=some ((lI s).t,()):=(cw (SR ab ak)).trans rfl
def ao4{s:aw}(ab:bj n s)(ak:n<=999990000000)(b:V):GH (s.t,b,())=some ((lc s b).t,()):=by
 unfold GH lc;obtain⟨Ag,hT,aC⟩:=auV ab b;refine aS hT ?_;have am:=Vz ab b;cases aK:(gy s b).2 with
 |none =>have TA:¬Ag=0:=λh=>(aC.1 h) aK;exact b4 (mo TA)
 |some v=>
  have TA:Ag=0:=aC.2 (by rw[aK];simp);refine a2 (kN TA) ?_;dsimp only;obtain⟨aq,aB⟩:=O' aK;obtain⟨ai,_,_,_⟩:=I? aq;have sy:=N1 aq;rw[<- aB]at ai sy;have ad0:∀k:Nat,du (ao v.2.2.1 k 0):=λk=>by
   rw[sy];match k with
   |0=>exact ai.1.2.1
   |1=>exact ai.1.2.2.1
   |k+2=>show du 0;decide
  have jc:v.2.2.2.2.2.1.length<=1000000:=by have:=ai.1.2.2.2.2.2.2.2;omega
  have aJ:=Vr am ad0;unfold kp at aJ ⊢;have hf:=IL am;have fM:=afx v.2.2.2.2.2.1 jc;have d_:=Uy v.2.2.2.2.2.1 jc;have asW:=awc (b:=v.2.2.2.2.2.1);by_cases R:v.1=2
  .rw[if_pos R]at aJ ⊢
   refine bm (cI R) (aS (azO am J) (aS fM ?_));by_cases af:(kg v.2.2.2.2.2.1).2.1=0
   .rw[if_pos af]at aJ ⊢
    refine bm (cI af) (bm (cI R) ?_);exact aS (ao9 hf J _ asW) (xg aJ J)
   rw[if_neg af]at aJ ⊢;refine a2 (cv af) (aS d_ ?_);by_cases au:(eO v.2.2.2.2.2.1).2.1=0
   .rw[if_pos au]at aJ ⊢
    refine bm (cI au) (bm (cI R) ?_);exact aS (aqc hf J (N0 au).1 v) (xg aJ J)
   rw[if_neg au]at aJ ⊢;refine a2 (cv au) ?_;exact aS (M8 _) (xg aJ J)
  rw[if_neg R]at aJ ⊢;refine a2 (cv R) (aS fM ?_);by_cases af:(kg v.2.2.2.2.2.1).2.1=0
  .rw[if_pos af]at aJ ⊢
   refine bm (cI af) (a2 (cv R) ?_);exact aS (azQ am J ad0 _) (xg aJ J)
  rw[if_neg af]at aJ ⊢;refine a2 (cv af) (aS d_ ?_);by_cases au:(eO v.2.2.2.2.2.1).2.1=0
  .refine bm (cI au) (a2 (cv R) ?_)
   exact aS (M8 _) (xg aJ J)
  refine a2 (cv au) ?_;exact aS (M8 _) (xg aJ J)
def agf:∀l:List V,2*l.length<=lm l
 |[]=>b1 _
 |b::l=>by have:=agf l;unfold lm at *;simp;omega
def ao1{s:aw}(ab:bj n s)(ak:n<=990000000000)(c:Int)(aa:b.length<=1000000):LS (s.t,c,b,())=some ((qb s c b).t,()):=by
 unfold LS qb;refine aS (atH ab.e.fd c aa) ?_;by_cases aq:(hY s.e.hub c b).2.2=0
 .rw[if_neg (not_not_intro aq)]
  have ah:kP c:=by
   unfold hY at aq
   grind
  have au:aN c (bi 4)=true:=by unfold kP at ah;simp only[go_sem];exact ah
  have hl:(hY s.e.hub c b).2.1.length<=600000:=by
   have O:=Zd s.e.hub c b aq ab.e.feed;have R:=agf (hY s.e.hub c b).2.1;have aY:fJ s.e.hub<=4100:=by have aq:=q? (ab.e.fd 0);have O:=q? (ab.e.fd 1);have R:=q? (ab.e.fd 2);have af:=q? (ab.e.fd 3);unfold fJ;omega
   omega
  refine a2 (kN aq) (bd rfl (bd au (bd au (bd rfl ?_))));generalize hg:(λ(x:Int×fb×Unit)=>(_:Option (aF (Int×fb×Unit) (fb×Unit))))=F;have key:∀(l:List V) (i:Nat) (t:aw) (m:Nat),(hY s.e.hub c b).2.1.drop i=l->i<=(hY s.e.hub c b).2.1.length->bj m t->m<=990000000000+1003*i ->
    ∃j:Int,bK F ((i:Int),t.t,())=some (.ex 0 (j,(tw t l).t,())):=by
   intro l;induction l with
   |nil =>intro i t m aJ ac ht hm;have cm:=congrArg List.length aJ;rw[eU,j4]at cm;refine⟨(i:Int),ec ?_⟩;subst hg;exact bT (cR (by show ¬(i:Int)<((hY s.e.hub c b).2.1.length:Int);omega))
   |cons x l ih=>
    intro i t m aJ ac ht hm;have cm:=congrArg List.length aJ;rw[eU,gL]at cm;have bn:i<(hY s.e.hub c b).2.1.length:=J;have hx:(hY s.e.hub c b).2.1[i]=x/\(hY s.e.hub c b).2.1.drop (i+1)=l:=by
     rw[h3 bn]at aJ
     grind
    have fk:i64 (aE (i:Int) 1)=((i+1:Nat):Int):=fY (by show(i:Int)+1=_;omega) J;unfold tw;have dn:F ((i:Int),t.t,())=(T (aj t.e.ph 8) (some (.ex 0 ((i:Int),t.t,()))) (ob (GH (t.t,x,())) λ(a:fb×Unit)=>some (.nx (((i+1:Nat):Int),a.1,())))):=by subst hg;refine bm (di (by show(i:Int)<((hY s.e.hub c b).2.1.length:Int);omega)) (bd cS ?_);rw[gx,show ao (hY s.e.hub c b).2.1 i (aR UInt8)=x by rw[nth_get bn];exact hx.1,fk];rfl
    by_cases cx:t.e.ph=8
    .rw[if_pos cx]
     exact⟨(i:Int),ec (dn.trans (b4 (cI cx)))⟩
    rw[if_neg cx];have TH:=ao4 ht J x;have fM:F ((i:Int),t.t,())=some (.nx (((i+1:Nat):Int),(lc t x).t,())):=dn.trans (a2 (cv cx) ((cw TH).trans (dr rfl)));obtain⟨j,ap⟩:=ih (i+1) (lc t x) (m+1003) hx.2 J (Vt ht x) J;exact⟨j,(ev fM).trans ap⟩
  obtain⟨j,ap⟩:=key _ 0 (q' s c b) n rfl (nV _) (Vs ab c b) J;exact(cW (ap)).trans (lc_ex'.trans (eV g62))
 rw[if_pos aq];exact b4 (mo aq)
def ao7{s:aw}(ab:bj n s)(ak:n<=999999000000)(a:gq):C? (s.t,a,())=some ((qa s a).t,()):=by
 unfold C? qa;by_cases h:a.1=1
 .rw[if_pos h]
  exact bm (cI h) ((cw (UK ab J 0 a.2.2.2.2.1)).trans rfl)
 rw[if_neg h];exact a2 (cv h) ((cw (yO ab J a.2.2.2.2.1)).trans rfl)
def ao8{s:aw}(ab:bj n s)(ak:n<=999999000000):Da (s.t,())=some ((r9 s).t,()):=by
 unfold Da r9;by_cases au:s.e.ph=4
 .rw[if_pos au]
  exact bm (cI au) ((cw (agL s)).trans rfl)
 rw[if_neg au];refine a2 (cv au) ?_;by_cases aY:s.e.ph=5
 .rw[if_pos aY]
  exact bm (cI aY) ((cw (ap9 s)).trans rfl)
 rw[if_neg aY];exact a2 (cv aY) ((cw (azP ab J)).trans rfl)
def ayY{r:fq}(h:mH r):0<=r.2.2.2.1/\r.2.2.2.1<=1000000:=by
 rcases h with rfl|⟨_,_,_,_,R,_⟩
 .exact⟨by show(0:Int)<=0;omega,by show(0:Int)<=1000000;omega⟩
 omega
def ai1{s:aw}(ab:bj n s)(ak:n<=999998000000):
  (ob (CO (s.e.ask,())) λ(a?:gq×Bool×Bool×Unit)=>T a?.2.1 (ob (C? ((s2 s a?.1).t,a?.1,())) λ(a:fb×Unit)=>ob (kS (a.1,())) λ(a:fb×Unit)=>some (a.1,()))
   (T a?.2.2.1 (ob (Da ((s2 s a?.1).t,())) λ(a:fb×Unit)=>ob (kS (a.1,())) λ(a:fb×Unit)=>some (a.1,()))
    (ob (kS ((s2 s a?.1).t,())) λ(a:fb×Unit)=>some (a.1,()))):Option (fb×Unit))=some ((lI (oB s)).t,()):=by
 refine aS (akT ab.e.askr) ?_;have bw:=VB ab (Od ab.e.askr);have ht:=Et ab;unfold oB at ht ⊢;cases O:(kF s.e.ask).2.1
 .rw[O]at ht
  refine a2 rfl ?_;cases R:(kF s.e.ask).2.2
  .rw[R]at ht
   exact a2 rfl (xg bw J)
  rw[R]at ht;exact bm rfl (aS (ao8 bw J) (xg ht J))
 rw[O]at ht;exact bm rfl (aS (ao7 bw J _) (xg ht J))
def abn{s:aw}(ab:bj n s)(ak:n<=999998000000):GI (s.t,())=some ((ij s).t,()):=by
 unfold GI ij;by_cases G7:s.e.ph=7\/s.e.ph=8
 .rw[if_pos G7]
  refine aS (a:=(true,())) ?_ (b4 rfl);by_cases dN:s.e.ph=7
  .exact b4 (cI dN)
  refine a2 (cv dN) ?_;show some (aj s.e.ph 8,())=_;rw[cI (G7.resolve_left dN)]
 rw[if_neg G7];have dN:¬s.e.ph=7:=λh=>G7 (.inl h);have cx:¬s.e.ph=8:=λh=>G7 (.inr h);refine aS (a:=(false,())) (a2 (cv dN) (by show some (aj s.e.ph 8,())=_;rw[cv cx])) (a2 rfl ?_);refine aS (show vH (s.e.ph,())=_ from I5 _) ?_;by_cases hl:dO s.e.ph
 .rw[cF hl,if_pos hl]
  refine bm rfl (aS (ayX (ayY ab.e.ring)) ?_);by_cases aQ:s.e.seq=4611686018427387904
  .rw[if_pos aQ]
   exact bm (cI aQ) ((cw (aif (xa ab) J)).trans rfl)
  rw[if_neg aQ];exact a2 (cv aQ) (ai1 (xa ab) ak)
 rw[cH hl,if_neg hl];exact a2 rfl (ai1 ab ak)
def ao3{s:aw}(ab:bj n s)(ak:n<=999998000000)(a:g3)(aa:a.2.2.2.2.1.length<=1000000):LT (s.t,a,())=some ((mr s a).1.t,(mr s a).2,()):=by
 unfold LT mr;by_cases aq:a.1=0
 .rw[if_pos aq];exact bm (cI aq) ((cw (aqb ab J _ aa)).trans rfl)
 rw[if_neg aq];refine a2 (cv aq) ?_;by_cases O:a.1=1
 .rw[if_pos O];exact bm (cI O) ((cw (aif ab J)).trans rfl)
 rw[if_neg O];refine a2 (cv O) ?_;by_cases R:a.1=2
 .rw[if_pos R];exact bm (cI R) ((cw (azS ab J)).trans rfl)
 rw[if_neg R];refine a2 (cv R) ?_;by_cases af:a.1=3
 .rw[if_pos af];exact bm (cI af) ((cw (azN ab J)).trans rfl)
 rw[if_neg af];refine a2 (cv af) ?_;by_cases au:a.1=4
 .rw[if_pos au];exact bm (cI au) ((cw (ayE ab J _)).trans rfl)
 rw[if_neg au];refine a2 (cv au) ?_;by_cases aY:a.1=5
 .rw[if_pos aY];exact bm (cI aY) ((cw (ap7 ab J _)).trans rfl)
 rw[if_neg aY];refine a2 (cv aY) ?_;by_cases cp:a.1=6
 .rw[if_pos cp];exact bm (cI cp) ((cw (abn ab ak)).trans rfl)
 rw[if_neg cp];refine a2 (cv cp) ?_;by_cases Ap:a.1=14
 .rw[if_pos Ap];exact bm (cI Ap) ((cw (aie ab J)).trans rfl)
 rw[if_neg Ap];refine a2 (cv Ap) ?_;by_cases Aq:a.1=15
 .rw[if_pos Aq]
  refine bm (cI Aq) ?_;by_cases cx:s.e.ph=8
  .rw[if_pos cx];exact a2 (kN cx) ((cw (azM ab)).trans rfl)
  rw[if_neg cx];exact b4 (mo cx)
 rw[if_neg Aq];refine a2 (cv Aq) ?_;by_cases oV:a.1=16
 .rw[if_pos oV];exact b4 (cI oV)
 rw[if_neg oV];exact bT (cv oV)
def bP.t(w:bP):d7:=([(w.e false).t,(w.e true).t],w.p,w.bc,w.old,[w.dw false,w.dw true],())
def xD(n l:Int):rT (n,l,())=some (D (0<=n/\n<l),()):=by unfold rT;simp only[go_sem]
def LA(l:List eM):E9 (l,())=some (l,()):=by refine bd (by rw[cI rfl];simp only[go_sem];omega) ?_;rw[show sub l 0 (len l)=l by simp[sub,len]]
def RY(l:List eM)(h:l.length<=1500000000000):JK (l,())=some (l,()):=by refine eV ?_;rw[g21];refine cF ?_;show l.length*80<=_;omega
def Ez(w:bP)(i:Bool):Ch ((w.t,()),dg i,())=some ((w.t,()),(w.at i).t,()):=by
 cases i
 .rfl
 rfl
def aaR{e:c8}{c:Int}(h:¬(lX e.hub c).2=0):oP e c=e:=by
 unfold oP;unfold lX at h ⊢;split
 .rfl
 split
 .rfl
 grind
def abI(p:α->Bool){l:List α}{j:Nat}(h:j<l.length):(l.take (j+1)).filter p=(l.take j).filter p++(if p l[j]then[l[j]]else[]):=by
 rw[e0 h,Cv]
 grind
def aaO{l bu:List α}{i:Nat}(h:i<=l.length):(d? l i n bu).take i=l.take i:=by
 unfold d?
 grind
def R3{l bu:List α}{i:Nat}(h:i+min n bu.length<=l.length):(d? l i n bu).length=l.length:=by
 unfold d?
 grind
def Za(w:bP)(c:Int)(hl:w.bc.length<=1500000000000):Kj ((w.t,()),c,())=some (((iX w c).t,()),()):=by
 unfold Kj;dsimp only;generalize hg:(λ(Y:Int×(d7×Unit)×Unit)=>(_:Option (aF (Int×(d7×Unit)×Unit) Unit)))=F;have NY:F (0,(w.t,()),())=some (.nx (1,(({ w with e:=gJ w.e false (oP (w.e false) c) }:bP).t,()),())):=by
  subst hg;refine bm rfl (aS (Ez w false) (aS (abm (w.at false) c) ?_));dsimp only;by_cases h:(lX (w.at false).e.hub c).2=0
  .exact bm (cI h) (eV rfl)
  refine a2 (cv h) ?_;have:=aaR h;rw[show gJ w.e false (oP (w.e false) c)=w.e by funext j;unfold gJ;split;(rename_i ap;rw[ap];exact this);rfl];rfl
 have eY:∀w:bP,F (1,(w.t,()),())=some (.nx (2,(({ w with e:=gJ w.e true (oP (w.e true) c) }:bP).t,()),())):=by
  intro w;subst hg;refine bm rfl (aS (Ez w true) (aS (abm (w.at true) c) ?_));dsimp only;by_cases h:(lX (w.at true).e.hub c).2=0
  .exact bm (cI h) (eV rfl)
  refine a2 (cv h) ?_;have:=aaR h;rw[show gJ w.e true (oP (w.e true) c)=w.e by funext j;unfold gJ;split;(rename_i ap;rw[ap];exact this);rfl];rfl
 have gT:∀w:bP,F (2,(w.t,()),())=some (.ex 0 (2,(w.t,()),())):=by intro w;subst hg;rfl
 have aU:(gJ (gJ w.e false (oP (w.e false) c)) true (oP (gJ w.e false (oP (w.e false) c) true) c))=λi=>oP (w.e i) c:=by funext j;cases j<;>rfl
 refine(cW ((ev NY).trans ((ev (eY _)).trans (ec (gT _))))).trans (lc_ex'.trans (bd g62 ?_));dsimp only;rw[aU];refine aS (RY w.bc hl) ?_;dsimp only;generalize hp:(λ(f:eM)=>decide (¬f.2.1=c))=p;have MK:∀{f:eM},¬f.2.1=c->p f=true:=λh=>by rw[<- hp];exact decide_eq_true h
 have adF:∀{f:eM},f.2.1=c->p f=false:=λh=>by rw[<- hp];exact decide_eq_false (not_not_intro h)
 have az:(iX w c).t=([(oP (w.e false) c).t,(oP (w.e true) c).t],w.p,w.bc.filter p,w.old,[w.dw false,w.dw true],()):=by rw[<- hp];rfl
 rw[az];generalize dC:(λ(Y:Int×Int×Unit)=>(_:Option (aF (Int×Int×Unit) Unit)))=G;generalize cE:(λ(Y:Int×Int×List eM×Unit)=>(_:Option (aF (Int×Int×List eM×Unit) Unit)))=H;have find:∀(r:List eM) (i:Nat),w.bc.drop i=r->i<=w.bc.length->(w.bc.take i).filter p=w.bc.take i ->
   (w.bc.filter p=w.bc/\∃j,bK G (0,(i:Int),())=some (.ex 0 (0,j,())))\/(∃k:Nat,k<w.bc.length/\(w.bc.take (k+1)).filter p=w.bc.take k/\bK G (0,(i:Int),())=some (.ex 999999999 ((k:Int),(k:Int),()))):=by
  intro r;induction r with
  |nil =>intro i aJ ac hf;have cm:=congrArg List.length aJ;rw[eU,j4]at cm;refine .inl ⟨by rw[il J]at hf;exact hf,(i:Int),ec ?_⟩;subst dC;exact bT (cR (by show ¬(i:Int)<(w.bc.length:Int);omega))
  |cons x r ih=>
   intro i aJ ac hf;have cm:=congrArg List.length aJ;rw[eU,gL]at cm;have bn:i<w.bc.length:=J;have hx:w.bc[i]=x/\w.bc.drop (i+1)=r:=by rw[h3 bn]at aJ;exact⟨(xX aJ).1,(xX aJ).2⟩
   have fk:i64 (aE (i:Int) 1)=((i+1:Nat):Int):=fY (by show(i:Int)+1=_;omega) J;have dn:G (0,(i:Int),())=(T (aj x.2.1 c) (some (.ex 999999999 ((i:Int),(i:Int),()))) (some (.nx (0,((i+1:Nat):Int),())))):=by subst dC;refine bm (di (by show(i:Int)<(w.bc.length:Int);omega)) (bd jL ?_);rw[gx,nth_get bn,hx.1,fk]
   have ab:=abI p bn;rw[hx.1]at ab;by_cases ah:x.2.1=c
   .refine .inr ⟨i,bn,?_,ec (dn.trans (b4 (cI ah)))⟩
    rw[ab,hf,adF ah,if_neg bp,nU]
   have qv:(w.bc.take (i+1)).filter p=w.bc.take (i+1):=by rw[ab,hf,MK ah,if_pos rfl,e0 bn,hx.1]
   have fM:=dn.trans (bT (cv ah));rcases ih (i+1) hx.2 J qv with⟨O,j,R⟩|⟨k,O,R,af⟩
   .exact .inl ⟨O,j,(ev fM).trans R⟩
   exact .inr ⟨k,O,R,(ev fM).trans af⟩
 have R_:∀(r:List eM) (i j:Nat) (l:List eM),w.bc.drop j=r->j<=w.bc.length->i<j->l.length=w.bc.length->l.take i=(w.bc.take j).filter p->l.drop j=w.bc.drop j ->
   ∃(k:Nat) (hi:List eM) (z:Int),bK H ((i:Int),(j:Int),l,())=some (.ex 0 ((k:Int),z,hi,()))/\k<=w.bc.length/\hi.length=w.bc.length/\hi.take k=w.bc.filter p:=by
  intro r;induction r with
  |nil =>intro i j l aJ ap js wJ ht gu;have cm:=congrArg List.length aJ;rw[eU,j4]at cm;refine⟨i,l,(j:Int),ec ?_,J,wJ,by rw[ht,il J]⟩;subst cE;exact bT (cR (by show ¬(j:Int)<(l.length:Int);omega))
  |cons x r ih=>
   intro i j l aJ ap js wJ ht gu;have cm:=congrArg List.length aJ;rw[eU,gL]at cm;have bn:j<w.bc.length:=J;have wK:j<l.length:=J;have hx:w.bc[j]=x/\w.bc.drop (j+1)=r:=by rw[h3 bn]at aJ;exact⟨(xX aJ).1,(xX aJ).2⟩
   have ad2:l[j]=x:=by rw[h3 bn,h3 wK]at gu;rw[(xX gu).1];exact hx.1
   have adb:l.drop (j+1)=w.bc.drop (j+1):=by rw[h3 bn,h3 wK]at gu;exact(xX gu).2
   have kV:i64 (aE (j:Int) 1)=((j+1:Nat):Int):=fY (by show(j:Int)+1=_;omega) J;have fk:i64 (aE (i:Int) 1)=((i+1:Nat):Int):=fY (by show(i:Int)+1=_;omega) J;have dn:H ((i:Int),(j:Int),l,())=(T (bg (aj x.2.1 c)) (some (.nx (((i+1:Nat):Int),((j+1:Nat):Int),l.set i x,()))) (some (.nx ((i:Int),((j+1:Nat):Int),l,())))):=by subst cE;refine bm (di (by show(j:Int)<(l.length:Int);omega)) (bd jL ?_);rw[gx,nth_get wK,ad2,fk,kV,gx];refine congrArg (λz=>T (bg (aj x.2.1 c)) z _) ?_;exact eV jL
   have ab:=abI p bn;rw[hx.1]at ab;by_cases ah:x.2.1=c
   .have fM:=dn.trans (bT (kN ah))
    obtain⟨k,hi,z,bF,b2⟩:=ih i (j+1) l hx.2 J J wJ (by rw[ab,adF ah,if_neg bp,nU];exact ht) adb;exact⟨k,hi,z,(ev fM).trans bF,b2⟩
   have fM:=dn.trans (b4 (mo ah));have eA:(l.set i x).take (i+1)=l.take i++[x]:=by
    have ss:i<(l.set i x).length:=by rw[k7];omega
    rw[e0 ss,List.getElem_set_self,List.take_set_of_le (b1 i)]
   obtain⟨k,hi,z,bF,b2⟩:=ih (i+1) (j+1) (l.set i x) hx.2 J J (by rw[k7];exact wJ) (by rw[eA,ab,MK ah,if_pos rfl,ht]) (by rw[List.drop_set_of_lt J];exact adb);exact⟨k,hi,z,(ev fM).trans bF,b2⟩
 rcases find w.bc 0 rfl (nV _) rfl with⟨O,j,R⟩|⟨k,O,R,af⟩
 .refine(cW R).trans (lc_ex'.trans (a2 rfl (bd g62 (bm rfl ?_))))
  rw[O];rfl
 refine(cW af).trans (lc_ex'.trans (bm rfl (a2 (cv J) ?_)));have rj:i64 (aE (k:Int) 1)=((k+1:Nat):Int):=fY (by show(k:Int)+1=_;omega) J;rw[rj];obtain⟨i,l,z,d1,d2,d3,aaU⟩:=R_ _ k (k+1) w.bc rfl J J rfl R.symm rfl;refine(cW d1).trans (lc_ex'.trans (bd g62 (bd jL ?_)));have qp:(d? l i (l.length-i) (bR (l.length-i) (f9:eM))).length=l.length:=R3 (by unfold bR;rw[p2];omega);simp only[gx,show ae (len l)=l.length from rfl,show ∀a b:Nat,cc a b=a-b from λ_ _=>rfl];refine bd (by rw[g22,qp];simp(disch:=first|assumption|omega|(dsimp only;omega)|decide) only[go_sem,Int.reduceToNat];omega) ?_;have asg:cut (d? l i (l.length-i) (bR (l.length-i) (f9:eM))) (ae 0) (i-ae 0)=w.bc.filter p:=by unfold cut;rw[show ae 0=0 from rfl,Nat.sub_zero,nl,aaO J,aaU]
 rw[asg];rfl
def alH(w:bP)(hl:w.bc.length<=1500000000000):PD ((w.t,()),())=some (((uQ w).t,()),()):=by
 unfold PD uQ;generalize hg:(λ(x:Int×(d7×Unit)×Unit)=>(_:Option (aF (Int×(d7×Unit)×Unit) Unit)))=F;have SF:∀(w:bP) (c:Int),(iX w c).bc.length<=w.bc.length:=λw c=>ls _ _;have bS:∀(w:bP) (i:Nat),i<4->w.bc.length<=1500000000000->F ((i:Int),(w.t,()),())=some (.nx (((i+1:Nat):Int),((iX w (i:Int)).t,()),())):=by intro w i ac bw;subst hg;have fk:i64 (aE (i:Int) 1)=((i+1:Nat):Int):=fY rfl J;refine bm (di J) (aS (Za w _ bw) ?_);rw[fk]
 have f1:=SF w ((0:Nat):Int);have f2:=SF (iX w ((0:Nat):Int)) ((1:Nat):Int);have f3:=SF (iX (iX w ((0:Nat):Int)) ((1:Nat):Int)) ((2:Nat):Int);have gv:∀w:bP,F (4,(w.t,()),())=some (.ex 0 (4,(w.t,()),())):=λw=>by subst hg;exact bT rfl
 refine(cW ((ev (bS w 0 J hl)).trans ((ev (bS _ 1 J J)).trans ((ev (bS _ 2 J J)).trans ((ev (bS _ 3 J J)).trans (ec (gv _))))))).trans ?_;rfl
def Vk(i:Bool):0<=dg i/\dg i<2:=by cases i<;>decide
def aju(i:Bool):lq (dg i)=i:=by cases i<;>decide
def NB{n:Int}(h:n=0\/n=1):dg (lq n)=n:=by rcases h with rfl|rfl<;>decide
def H1(i:Bool):aN (dg i) (bi 2)=true:=by cases i<;>rfl
def aqf(w:bP)(i:Bool)(x:aw)(aK:x.e.bC.length<=1000000)(MB:x.e.got.length<=1000000)(hf:w.bc.length<=1000000000000)(hold:w.old.length<=1000000000000)(aCi:(w.dw i).length<=1000000000000):
  zE ((w.t,()),dg i,x.t,())=some (((iy w i x).t,()),()):=by
 unfold zE;dsimp only;refine bd (H1 i) (aS (ao2 x.e) (bd (H1 i) (bd (H1 i) ?_)));have hl:ao w.t.2.2.2.2.1 (ae (dg i)) (aR eg)=w.dw i:=by cases i<;>rfl
 have arK:zm (ao w.t.2.2.2.2.1 (ae (dg i)) (aR eg),())=some (w.dw i,()):=by rw[hl];exact LB _
 refine aS arK (bd ?_ (bd (H1 i) ?_))
 .rw[g21];refine cF ?_;show((w.dw i).length+x.e.got.length)*128<=_;omega
 generalize hg:(λ(Y:Int×(d7×Unit)×Unit)=>(_:Option (aF (Int×(d7×Unit)×Unit) Unit)))=F;have e1:i64 (bq 1 (dg i))=1-dg i:=by cases i<;>rfl
 have key:∀(l:List q7) (j:Nat),x.e.bC.drop j=l->j<=x.e.bC.length ->
   bK F ((j:Int),(({ mv w i x with bc:=w.bc++(x.e.bC.take j).map (jx i),old:=w.old++(x.e.bC.take j).map (jx i) }:bP).t,()),())=some (.ex 0 ((x.e.bC.length:Int),((mv w i x).t,()),())):=by
  intro l;induction l with
  |nil =>intro j aJ ap;have cm:=congrArg List.length aJ;rw[eU,j4]at cm;have:j=x.e.bC.length:=J;subst this;rw[ni];refine ec ?_;subst hg;exact bT (cR (by show ¬(x.e.bC.length:Int)<(x.e.bC.length:Int);omega))
  |cons v l ih=>
   intro j aJ ap;have cm:=congrArg List.length aJ;rw[eU,gL]at cm;have bn:j<x.e.bC.length:=J;have hx:x.e.bC[j]=v/\x.e.bC.drop (j+1)=l:=by rw[h3 bn]at aJ;exact⟨(xX aJ).1,(xX aJ).2⟩
   have kV:i64 (aE (j:Int) 1)=((j+1:Nat):Int):=fY (by show(j:Int)+1=_;omega) J;refine F6 (ev ?_) (ih (j+1) hx.2 J);have eA:(x.e.bC.take (j+1)).map (jx i)=(x.e.bC.take j).map (jx i)++[jx i v]:=by rw[e0 bn,F3,hx.1];rfl
   have dZ:((x.e.bC.take j).map (jx i)).length<=1000000:=by rw[s9,io];omega
   rw[eA,<- hb,<- hb];subst hg;refine bm (di (by show(j:Int)<(x.e.bC.length:Int);omega)) (bd jL ?_);dsimp only;refine aS (LA (w.bc++(x.e.bC.take j).map (jx i))) ?_;have ak:ao x.e.bC (ae (j:Int)) lP=v:=by rw[gx,nth_get bn];exact hx.1
   rw[e1,ak,kV];refine bd ?_ (aS (LA (w.old++(x.e.bC.take j).map (jx i))) (bd ?_ ?_))
   .rw[g21];refine cF ?_;show((w.bc++(x.e.bC.take j).map (jx i)).length+1)*80<=_;rw[dd];omega
   .rw[g21];refine cF ?_;show((w.old++(x.e.bC.take j).map (jx i)).length+1)*80<=_;rw[dd];omega
   rfl
 have aq:=key x.e.bC 0 rfl (nV _);rw[F7,Yf,nU,nU]at aq;have e4:(({ mv w i x with bc:=w.bc,old:=w.old }:bP).t)=(cn w.t.1 (ae (dg i)) ({ x.e with bC:=[],got:=[] }:c8).t,x.p,w.bc,w.old,cn w.t.2.2.2.2.1 (ae (dg i)) (cg (w.dw i) x.e.got),()):=by cases i<;>rfl
 rw[e4]at aq;refine(cW (show bK F (0,((cn w.t.1 (ae (dg i)) ({ x.e with bC:=[],got:=[] }:c8).t,x.p,w.bc,w.old,cn w.t.2.2.2.2.1 (ae (dg i)) (cg (w.dw i) x.e.got),()),()),())=_ from aq)).trans (lc_ex'.trans (bd g62 ?_));dsimp only;have atb:(ao w.t.1 (ae (dg i)) pi).2.2.1=(w.e i).ph:=by cases i<;>rfl
 rw[atb];unfold iy;have rh:(mv w i x).bc.length<=1500000000000:=by show(w.bc++x.e.bC.map (jx i)).length<=_;rw[dd,s9];omega
 by_cases cx:x.e.ph=8
 .by_cases lC:(w.e i).ph=8
  .rw[if_neg (λh=>h.2 lC)]
   exact aS (b4 (cI cx)) (bT (kN lC))
  rw[if_pos ⟨cx,lC⟩];exact aS (b4 (cI cx)) (bm (mo lC) ((cw (alH _ rh)).trans rfl))
 rw[if_neg (λh=>cx h.1)];exact aS (bT (cv cx)) (bT rfl)
structure hr(w:bP):Prop where
 ok:hj w
 z:eH w<=990000000000
def hr.s{w:bP}(h:hr w)(i:Bool):bj 990000000000 (w.at i):=by
 obtain⟨n,ak⟩:=h.ok.s i;have bs:=h.z;unfold eH at bs;refine⟨{ ak.e with bC := ?_,got := ?_ },?_⟩
 .show(w.e i).bC.length<=_;rw[h.ok.bC i];simp
 .show(w.e i).got.length<=_;rw[h.ok.got i];simp
 show w.p.2.1.length<=_;omega
def hr.bc{w:bP}(h:hr w):w.bc.length<=990000000000:=by have bs:=h.z;unfold eH at bs;omega
def hr.old{w:bP}(h:hr w):w.old.length<=990000000000:=by have bs:=h.z;unfold eH at bs;omega
def hr.dw{w:bP}(h:hr w)(i:Bool):(w.dw i).length<=990000000000:=by have bs:=h.z;unfold eH at bs;cases i<;>omega
def hr.iy{w:bP}(h:hr w)(i:Bool)(x:aw)(aK:x.e.bC.length<=1000000)(MB:x.e.got.length<=1000000):zE ((w.t,()),dg i,x.t,())=some (((Yp.iy w i x).t,()),()):=
 aqf w i x aK MB (by have:=h.bc;omega) (by have:=h.old;omega) (by have:=h.dw i;omega)
def hr.bC{w:bP}(h:hr w)(i:Bool):(w.at i).e.bC=[]:=h.ok.bC i
def hr.got{w:bP}(h:hr w)(i:Bool):(w.at i).e.got=[]:=h.ok.got i
def alK{s:aw}(ab:bj n s):fJ s.e.hub<=4100:=by have aq:=q? (ab.e.fd 0);have O:=q? (ab.e.fd 1);have R:=q? (ab.e.fd 2);have af:=q? (ab.e.fd 3);unfold fJ;omega
def hr.S1{w:bP}(h:hr w){x:aw}{t:Nat}(hg:b_ m t g (w.at i) x)(ht:t<=1000)(aCh:g<=1000):x.e.bC.length<=1000000/\x.e.got.length<=1000000:=by obtain⟨cN,cX,a3,a4,a5⟩:=hg;have aQ:=(h.s i).e.queue;rw[h.bC i]at cX;rw[h.got i]at a4;rw[j4]at cX a4;exact⟨J,J⟩
def QN{w:bP}(h:hr w)(i:Bool)(c:Int)(aa:b.length<=1000000):Fw ((w.t,()),dg i,c,b,())=some (((lw w i c b).t,()),()):=by refine(cw (Ez w i)).trans ((dr rfl).trans ((cw (ao1 (h.s i) J c aa)).trans ((dr rfl).trans ?_)));have ab8:=ab9 (h.s i).e.feed c b;have aQ:=(h.s i).e.queue;have Ts:=alK (h.s i);have g1:=ab8.Em;have cD:=ab8.got;rw[h.bC i]at g1;rw[h.got i]at cD;rw[j4]at g1 cD;exact(cw (h.iy i _ J J)).trans rfl
def aa0{l:List eM}{N:Nat}(h:N<l.length):
  cut (d? (d? l (bI (ae 0) (cc (ae (N:Int)) (ae 0))) (aV (l.drop (N+1))) (l.drop (N+1))) (bI (ae 0) (ae (bi (bI (cc (ae (N:Int)) (ae 0)) (aV (l.drop (N+1)))))))
   (cc (ae (len l)) (ae (bi (bI (cc (ae (N:Int)) (ae 0)) (aV (l.drop (N+1))))))) (bR (cc (ae (len l)) (ae (bi (bI (cc (ae (N:Int)) (ae 0)) (aV (l.drop (N+1))))))) (f9:eM)))
   (ae 0) (bI (cc (ae (N:Int)) (ae 0)) (aV (l.drop (N+1))))=l.eraseIdx N:=by
 have e:bI (cc (ae (N:Int)) (ae 0)) (aV (l.drop (N+1)))=N+(l.drop (N+1)).length:=rfl;have aU:bI (ae 0) (cc (ae (N:Int)) (ae 0))=N:=lT _;have aJ:(l.drop (N+1)).length=l.length-(N+1):=eU;rw[e,aU,show bI (ae 0) (ae (bi (N+(l.drop (N+1)).length)))=N+(l.drop (N+1)).length from lT _];unfold cut;rw[show ae 0=0 from rfl,nl,aaO]
 .unfold d?
  rw[show aV (l.drop (N+1))=(l.drop (N+1)).length from rfl,ni,<- hb,F0 (by grind),il (by grind),List.eraseIdx_eq_take_drop_succ]
 rw[R3 J];omega
def afp{a b:Nat}(h:a<b):kz a b=true:=by unfold kz;rw[P?];exact h
def aaZ{l:List eM}{N:Nat}(h:N<l.length)(aj7 K:Option α):
  (an (c3 (b8 (N:Int) ((N+1:Nat):Int) (len l)) (b3 (len l) (len l))) (T (aj (N:Int) ((N+1:Nat):Int)) aj7 (an (b8 0 (N:Int) (len l)) (an (b8 ((N+1:Nat):Int) (len l) (len l))
   (an (kz (bI (ae 0) (bI (cc (ae (N:Int)) (ae 0)) (aV (l.drop (N+1))))) (bI (aV l) 1)) (an (c3 (kz (ae 0) (bI (aV (d? l (bI (ae 0) (cc (ae (N:Int)) (ae 0))) (aV (l.drop (N+1))) (l.drop (N+1)))) 1))
    (b8 (bi (bI (cc (ae (N:Int)) (ae 0)) (aV (l.drop (N+1))))) (len l) (bq (len (d? l (bI (ae 0) (cc (ae (N:Int)) (ae 0))) (aV (l.drop (N+1))) (l.drop (N+1)))) (bi (ae 0))))) K))))))=K:=by
 have e:bI (cc (ae (N:Int)) (ae 0)) (aV (l.drop (N+1)))=N+(l.drop (N+1)).length:=rfl;have aU:bI (ae 0) (cc (ae (N:Int)) (ae 0))=N:=lT _;have aJ:(l.drop (N+1)).length=l.length-(N+1):=eU;have ah:(d? l N (aV (l.drop (N+1))) (l.drop (N+1))).length=l.length:=R3 (by rw[show aV (l.drop (N+1))=(l.drop (N+1)).length from rfl];omega);rw[e,aU];refine bd jL (a2 (cv J) (bd jL (bd jL (bd ?_ (eV ?_)))))
 .refine afp ?_
  show 0+(N+(l.drop (N+1)).length)<l.length+1;omega
 rw[afp (show ae 0<bI (aV (d? l N (aV (l.drop (N+1))) (l.drop (N+1)))) 1 from Nat.succ_pos _),g36,g19];refine cF ?_;rw[g22,g22,ah];show(0:Int)<=((N+(l.drop (N+1)).length:Nat):Int)/\((N+(l.drop (N+1)).length:Nat):Int)<=(l.length:Int)/\(l.length:Int)<=(l.length:Int)-((0:Nat):Int);omega
def aaS{l:List eM}(N:Nat):cut l (ae ((N+1:Nat):Int)) (cc (ae (len l)) (ae ((N+1:Nat):Int)))=l.drop (N+1):=by unfold cut;rw[show ae ((N+1:Nat):Int)=N+1 from rfl,show ae (len l)=l.length from rfl,show cc l.length (N+1)=l.length-(N+1) from rfl,il bp]
def abz{w:bP}(h:hr w){l:List eM}(hl:∀f∈l,Bh f)(ak:l.length<=w.bc.length):hr { w with bc:=l }:=by refine⟨IR h.ok hl,?_⟩;have bs:=h.z;unfold eH at bs ⊢;show w.p.2.1.length+w.old.length+l.length+(w.dw false).length+(w.dw true).length+3*fH w<=_;omega
def ack{w:bP}(h:hr w)(a:g3):Kk ((w.t,()),a,())=some (((lB w a.2.2.1 a.2.2.2.1).1.t,()),(lB w a.2.2.1 a.2.2.2.1).2,()):=by
 unfold Kk lB;have rh:=h.bc;refine aS (xD a.2.2.1 (len w.bc)) ?_;by_cases aq:0<=a.2.2.1/\a.2.2.1<(w.bc.length:Int)
 .rw[cF (show 0<=a.2.2.1/\a.2.2.1<len w.bc from aq),if_neg (not_not_intro aq)]
  obtain⟨N,fM⟩:∃N:Nat,a.2.2.1=(N:Int):=⟨a.2.2.1.toNat,J⟩;rw[fM,e7];have bn:N<w.bc.length:=J;have eF:=h.ok.bc _ (IG bn);refine a2 rfl (bd (by show aN (N:Int) (len w.bc)=true;simp only[go_sem];omega) (aS (RY w.bc J) ?_));rw[show ao w.t.2.2.1 (ae (N:Int)) f9=ao w.bc N ov from rfl,show ao w.bc (ae (N:Int)) f9=ao w.bc N ov from rfl];generalize ao w.bc N ov=f at eF;generalize hm:a.2.2.2.1=m;by_cases O:0<m/\m<(f.2.2.1.length:Int)
  .rw[if_pos O]
   refine aS (bm (di O.1) (show _=some (true,()) by rw[di (show m<len f.2.2.1 from O.2)])) (bm rfl ?_);refine bd cS (bd cS (bd cS ?_));rw[show sub f.2.2.1 m (len f.2.2.1)=f.2.2.1.drop m.toNat from JR _ J];have Hu:hr { w with bc:=w.bc.set N (f.1,f.2.1,f.2.2.1.drop m.toNat,()) }:=by
    refine abz h (λg hg => ?_) (by rw[k7];exact b1 _);rcases KA hg with hg|rfl
    .exact h.ok.bc g hg
    exact⟨eF.1,eF.2.1,by rw[eU];have:=eF.2.2;omega⟩
   have:=QN Hu (lq f.1) f.2.1 (b:=f.2.2.1.take m.toNat) (by rw[io];have:=eF.2.2;omega);rw[NB eF.1]at this;exact(cw this).trans rfl
  rw[if_neg O];have atr:(T (aH 0 m) (some (aH m (len f.2.2.1),())) (some (false,())):Option (Bool×Unit))=some (false,()):=by
   by_cases R:0<m
   .exact bm (di R) (by rw[cR (show ¬m<len f.2.2.1 from λaf=>O ⟨R,af⟩)])
   exact bT (cR R)
  refine aS atr (a2 rfl ?_);have Ha:i64 (aE (N:Int) 1)=((N+1:Nat):Int):=fY (by show(N:Int)+1=_;omega) J;rw[Ha];simp only[aaS];rw[aa0 bn];refine(aaZ bn _ _).trans ?_;have Hu:hr { w with bc:=w.bc.eraseIdx N }:=abz h (λg hg=>h.ok.bc g (FX hg)) (CE _ _);have:=QN Hu (lq f.1) f.2.1 (b:=f.2.2.1) (by have:=eF.2.2;omega);rw[NB eF.1]at this;exact(cw this).trans rfl
 rw[cH (show ¬(0<=a.2.2.1/\a.2.2.1<len w.bc) from aq),if_pos aq];rfl
def aoJ{w:bP}(h:hr w)(a:g3):PG ((w.t,()),a,())=some (((C9 w a.2.2.1).1.t,()),(C9 w a.2.2.1).2,()):=by
 unfold PG C9;have rh:=h.bc;refine aS (xD a.2.2.1 (len w.bc)) ?_;by_cases aq:0<=a.2.2.1/\a.2.2.1<(w.bc.length:Int)
 .rw[cF (show 0<=a.2.2.1/\a.2.2.1<len w.bc from aq),if_neg (not_not_intro aq)]
  obtain⟨N,fM⟩:∃N:Nat,a.2.2.1=(N:Int):=⟨a.2.2.1.toNat,J⟩;rw[fM];have bn:N<w.bc.length:=J;refine a2 rfl (aS (RY w.bc J) ?_);have Ha:i64 (aE (N:Int) 1)=((N+1:Nat):Int):=fY rfl J;rw[Ha];simp only[aaS];rw[aa0 bn];exact(aaZ bn _ _).trans rfl
 rw[cH (show ¬(0<=a.2.2.1/\a.2.2.1<len w.bc) from aq),if_pos aq];rfl
def aks{w:bP}(h:hr w)(a:g3):PC ((w.t,()),a,())=some (((CI w a.2.2.1).1.t,()),(CI w a.2.2.1).2,()):=by
 unfold PC CI;have rh:=h.bc;refine aS (xD a.2.2.1 (len w.old)) ?_;by_cases aq:0<=a.2.2.1/\a.2.2.1<(w.old.length:Int)
 .rw[cF (show 0<=a.2.2.1/\a.2.2.1<len w.old from aq),if_neg (not_not_intro aq)]
  refine a2 rfl (aS (LA w.bc) (bd (by show aN a.2.2.1 (len w.old)=true;simp only[go_sem];exact aq) (bd ?_ rfl)));rw[g21];refine cF ?_;show(w.bc.length+1)*80<=_;omega
 rw[cH (show ¬(0<=a.2.2.1/\a.2.2.1<len w.old) from aq),if_pos aq];rfl
def aAd{w:bP}(h:hr w)(a:g3):PJ ((w.t,()),a,())=some (((Fb w a.2.2.1 a.2.2.2.1 a.2.2.2.2.1).1.t,()),(Fb w a.2.2.1 a.2.2.2.1 a.2.2.2.2.1).2,()):=by
 unfold PJ Fb;have rh:=h.bc;refine aS (xD a.2.2.1 (len w.old)) ?_;by_cases aq:0<=a.2.2.1/\a.2.2.1<(w.old.length:Int)
 .rw[cF (show 0<=a.2.2.1/\a.2.2.1<len w.old from aq)]
  have et:aN a.2.2.1 (len w.old)=true:=by simp only[go_sem];exact aq
  have jv:=h.ok.old _ (IG (show a.2.2.1.toNat<w.old.length by omega));rw[show ao w.t.2.2.2.1 (ae a.2.2.1) f9=ao w.old a.2.2.1.toNat ov from rfl];generalize ao w.old a.2.2.1.toNat ov=f at jv;have atA:(T (bg true) (some (true,())) (an (aN a.2.2.1 (len w.t.2.2.2.1)) (ob (rT (a.2.2.2.1,len f.2.2.1,())) λ(a?:Bool×Unit)=>T (bg a?.1) (some (true,())) (some (aj (len a.2.2.2.2.1) 0,())))):Option (Bool×Unit)) =
    some (D (¬(0<=a.2.2.2.1/\a.2.2.2.1<(f.2.2.1.length:Int))\/a.2.2.2.2.1=[]),()):=by
   refine a2 rfl (bd et (aS (xD _ _) ?_));by_cases O:0<=a.2.2.2.1/\a.2.2.2.1<(f.2.2.1.length:Int)
   .rw[cF (show 0<=a.2.2.2.1/\a.2.2.2.1<len f.2.2.1 from O)]
    rw[g10];refine pR ?_;constructor
    .intro hx;exact .inr (iR.1 (by have:(a.2.2.2.2.1.length:Int)=0:=hx;omega))
    rintro(hx|hx)
    .omega
    rw[hx];rfl
   rw[cH (show ¬(0<=a.2.2.2.1/\a.2.2.2.1<len f.2.2.1) from O),cF (.inl O)];rfl
  refine aS atA ?_;by_cases R:¬(0<=a.2.2.2.1/\a.2.2.2.1<(f.2.2.1.length:Int))\/a.2.2.2.2.1=[]
  .rw[cF R,if_pos (R.elim (λh=>.inr (.inl h)) (λh=>.inr (.inr h)))];rfl
  have af:0<=a.2.2.2.1/\a.2.2.2.1<(f.2.2.1.length:Int):=Cp.1 λh=>R (.inl h);have au:¬a.2.2.2.2.1=[]:=λh=>R (.inr h);have aY:0<a.2.2.2.2.1.length:=List.length_pos_iff.2 au;rw[cH R,if_neg (by grind)];refine a2 rfl (bd et (aS (Gx f.2.2.1 (by have:=jv.2.2;omega)) ?_));refine bd (by simp only[go_sem];exact af) (bd cS (bd (by simp only[go_sem];exact af) (aS (LA w.bc) (bd ?_ ?_))))
  .rw[g21];refine cF ?_;show(w.bc.length+1)*80<=_;omega
  rw[ajB];rfl
 rw[cH (show ¬(0<=a.2.2.1/\a.2.2.1<len w.old) from aq),if_pos (.inl aq)];rfl
def auk{w:bP}(h:hr w)(a:g3)(aa:a.2.2.2.2.1.length<=1000000):PH ((w.t,()),a,())=some (((DX w a.2.1 a.2.2.1 a.2.2.2.2.1).1.t,()),(DX w a.2.1 a.2.2.1 a.2.2.2.2.1).2,()):=by
 unfold PH DX;refine aS (xD a.2.1 2) ?_;by_cases aq:0<=a.2.1/\a.2.1<2
 .rw[cF aq,if_neg (not_not_intro aq)]
  have:=QN h (lq a.2.1) a.2.2.1 aa;rw[NB J]at this;exact a2 rfl ((cw this).trans rfl)
 rw[cH aq,if_pos aq];rfl
def aoq{w:bP}(h:hr w)(a:g3):PF ((w.t,()),a,())=some (((C3 w a.2.2.1).1.t,()),(C3 w a.2.2.1).2,()):=by
 unfold PF C3;refine aS (xD a.2.2.1 4) ?_;by_cases aq:kP a.2.2.1
 .rw[cF (show 0<=a.2.2.1/\a.2.2.1<4 from aq),if_neg (not_not_intro aq)]
  exact a2 rfl ((cw (Za w _ (by have:=h.bc;omega))).trans rfl)
 rw[cH (show ¬(0<=a.2.2.1/\a.2.2.1<4) from aq),if_pos aq];rfl
def aoG{w:bP}(h:hr w)(a:g3)(aa:a.2.2.2.2.1.length<=1000000):qX ((w.t,()),a,())=some (((r3 w a).1.t,()),(r3 w a).2,()):=by
 unfold qX r3;refine aS (xD a.2.1 2) ?_;by_cases aq:0<=a.2.1/\a.2.1<2
 .rw[cF aq,if_neg (not_not_intro aq)]
  have e:=NB (n:=a.2.1) J;generalize lq a.2.1=i at e;rw[<- e];have hg:=h.S1 (acu (h.s i) a) J J;refine a2 rfl (aS (Ez w i) (aS (ao3 (h.s i) J a aa) ?_));exact(cw (h.iy i _ hg.1 hg.2)).trans rfl
 rw[cH aq,if_pos aq];rfl
def ax1{w:bP}(h:hr w)(a:g3):PI ((w.t,()),a,())=some (((y' w a.2.2.1).1.t,()),(y' w a.2.2.1).2,()):=by
 unfold PI y';have hp:(T (aj (w.e false).ph 8) (some (true,())) (an (aN 1 (bi 2)) (some (aj (w.e true).ph 8,()))):Option (Bool×Unit))=some (D ((w.e false).ph=8\/(w.e true).ph=8),()):=by simp(disch:=omega) only[go_sem]
 refine aS (hp) ?_;by_cases cx:(w.e false).ph=8\/(w.e true).ph=8
 .rw[cF cx,if_pos cx];rfl
 rw[cH cx,if_neg cx];refine a2 rfl (aS (xD a.2.2.1 4) ?_);by_cases aq:kP a.2.2.1
 .rw[cF (show 0<=a.2.2.1/\a.2.2.1<4 from aq),if_neg (not_not_intro aq)]
  have au:aN a.2.2.1 (bi 4)=true:=by unfold kP at aq;simp only[go_sem];exact aq
  refine a2 rfl (bd rfl (bd au ?_));have aL:(T (ao (w.e false).hub.1 (ae a.2.2.1) false) (some (true,())) (an (aN 1 (bi 2)) (an (aN a.2.2.1 (bi 4)) (some (ao (w.e true).hub.1 (ae a.2.2.1) false,())))):Option (Bool×Unit))=some (D (mN (w.e false).hub a.2.2.1\/mN (w.e true).hub a.2.2.1),()):=by
   unfold mN;rw[au,show ae a.2.2.1=a.2.2.1.toNat from rfl];cases ao (w.e false).hub.1 a.2.2.1.toNat false
   .cases ao (w.e true).hub.1 a.2.2.1.toNat false
    .rw[cH bp];rfl
    rw[cF (.inr rfl)];rfl
   rw[cF (.inl rfl)];rfl
  refine aS (aL) ?_;by_cases O:mN (w.e false).hub a.2.2.1\/mN (w.e true).hub a.2.2.1
  .rw[cF O,if_pos O];rfl
  rw[cH O,if_neg O];generalize hg:(λ(Y:Int×(d7×Unit)×Unit)=>(_:Option (aF (Int×(d7×Unit)×Unit) Unit)))=F;have bS:∀(w:bP) (i:Bool),hr w->F (dg i,(w.t,()),())=some (.nx (dg i+1,((o8 w i a.2.2.1).t,()),())):=by intro w i bw;have ai:=bw.S1 (acz (w.at i) (bw.s i).e.feed a.2.2.1) J J;subst hg;refine bm (di (Vk i).2) (aS (Ez w i) (aS (ao6 (bw.s i) J a.2.2.1) (aS (bw.iy i _ ai.1 ai.2) ?_)));cases i<;>rfl
  have gv:∀w:bP,F (2,(w.t,()),())=some (.ex 1 (2,(w.t,()),())):=λw=>by subst hg;exact bT rfl
  obtain⟨bF,b2,dy⟩:=V_ h.ok false a.2.2.1;refine(cW ((ev (bS w false h)).trans ((ev (bS _ true ⟨bF,hH dy h.z⟩)).trans (ec (gv _))))).trans ?_;rfl
 rw[cH (show ¬(0<=a.2.2.1/\a.2.2.1<4) from aq),if_pos aq];rfl
structure zK(w:bP):Prop where
 ok:hj w
 z:20*eH w+4*ip w+240<=19800000000000
def zK.n?{w:bP}(h:zK w):hr w:=⟨h.ok,by have:=h.z;omega⟩
def aqn{w:bP}(h:hj w){f:eM}{r:List eM}(hf:w.bc=f::r)(am:k<=r.length):
  hj (lB w 0 0).1/\(k<=(lB w 0 0).1.bc.length\/(lB w 0 0).1.bc=[])/\20*eH (lB w 0 0).1+4*(f_ (lB w 0 0).1+eS ((lB w 0 0).1.bc.take k))<=20*eH w+4*(f_ w+eS (w.bc.take (k+1))):=by
 have e:(lB w 0 0).1=lw { w with bc:=r } (lq f.1) f.2.1 f.2.2.1:=by unfold lB;rw[hf];rw[if_neg bp];rfl
 have O:hj { w with bc:=r }:=⟨h.s,h.bC,h.got,λg hg=>h.bc g (by grind),h.old⟩;obtain⟨e9,eo,jH,n5⟩:=QM O (lq f.1) f.2.1 f.2.2.1;rw[e];have bL:fH ({ w with bc:=r }:bP)=fH w:=rfl;have ca:f_ ({ w with bc:=r }:bP)=f_ w:=rfl;have cq:eH ({ w with bc:=r }:bP)+1=eH w:=by unfold eH;rw[bL,hf];simp;omega
 have eA:eS ((f::r).take (k+1))=f.2.2.1.length+eS (r.take k):=rfl;rcases eo with aB|⟨o,aB,eo⟩
 .rw[aB]
  have ajI:eS (([]:List eM).take k)=0:=by cases k<;>rfl
  grind
 grind
def Yd{w:bP}(k:Int)(h:∀j:Nat,(j:Int)<k->zK (oO j w))(am:k<=1000000):Fu (w.t,k,())=some ((oO k.toNat w).t,()):=by
 unfold Fu;generalize hg:(λ(Y:Int×(d7×Unit)×Unit)=>(_:Option (aF (Int×(d7×Unit)×Unit) (d7×Unit))))=F;have round:∀(i:Nat) (v:bP),(i:Int)<k->zK v->F ((i:Int),(v.t,()),())=some (.nx (((i+1:Nat):Int),((jB v).t,()),())):=by
  intro i v ac aB;have fk:i64 (aE (i:Int) 1)=((i+1:Nat):Int):=fY (by show(i:Int)+1=_;omega) J;subst hg;refine bm (di (by show(i:Int)<c6 0 k;rw[g58];omega)) ?_;generalize dC:(λ(x:Int×(d7×Unit)×Unit)=>ob (T (aH 0 x.1) _ _) _)=G;generalize cE:(λ(x:Int×(d7×Unit)×Unit)=>T (aH x.1 2) _ _)=H;have R_:∀(n:Nat) (u:bP),hj u->(n<=u.bc.length\/u.bc=[])->20*eH u+4*(f_ u+eS (u.bc.take n))<=19800000000000->n<=1000000000000 ->
    ∃j:Int,bK G ((n:Int),(u.t,()),())=some (.ex 2 (j,((mX n u).t,()),())):=by
   intro n;induction n with
   |zero =>intro u aL ak bs aa;refine⟨0,ec ?_⟩;subst dC;rfl
   |succ n ih=>
    intro u aL ak bs aa;unfold mX;by_cases aq:u.bc=[]
    .rw[if_pos aq]
     refine⟨((n+1:Nat):Int),ec ?_⟩;subst dC;refine aS (a:=(false,())) (bm (di (by show(0:Int)<((n+1:Nat):Int);omega)) ?_) (bT rfl);show some (aH 0 (len u.bc),())=_;rw[aq];rfl
    rw[if_neg aq];obtain⟨f,r,hf⟩:=P7 aq;have ME:n<=r.length:=by
     grind
    obtain⟨dQ,gS,l_⟩:=aqn aL hf ME;obtain⟨j,ap⟩:=ih (lB u 0 0).1 dQ gS J J;refine⟨j,F6 (ev ?_) ap⟩;have Hu:hr u:=⟨aL,J⟩;have lF:i64 (bq ((n+1:Nat):Int) 1)=((n:Nat):Int):=fY (by show((n+1:Nat):Int)-1=_;omega) J;subst dC;refine aS (a:=(true,())) (bm (di (by show(0:Int)<((n+1:Nat):Int);omega)) ?_) (bm rfl ?_)
    .show some (aH 0 (len u.bc),())=_
     rw[hf,di (by show(0:Int)<(((f::r).length:Nat):Int);rw[gL];omega)]
    dsimp only;refine aS (ack Hu mQ) ?_;rw[lF]
  have rh:=aB.n?.bc;have aB7:ip v=eS v.bc+f_ v+950*fH v:=rfl;have bs:=aB.z;obtain⟨j,ap⟩:=R_ v.bc.length v aB.ok (.inl (b1 _)) (by rw[ni];omega) J;obtain⟨d1,d2,d3⟩:=LF v.bc.length aB.ok (.inl (b1 _));rw[ni]at d3;have J0:∀(u:bP) (i:Bool),hr u->H (dg i,(u.t,()),())=some (.nx (dg i+1,((nQ u i).t,()),())):=by intro u i aL;have ai:=aL.S1 (S5 (aL.s i)) J J;subst cE;refine bm (di (Vk i).2) (aS (Ez u i) (aS (abn (aL.s i) J) (aS (aL.iy i _ ai.1 ai.2) ?_)));cases i<;>rfl
  have gv:∀u:bP,H (2,(u.t,()),())=some (.ex 4 (2,(u.t,()),())):=λu=>by subst cE;exact bT rfl
  refine(cW (ap)).trans (lc_ex'.trans (bd g62 ?_));have f1:hr (mX v.bc.length v):=⟨d1,J⟩;obtain⟨eA,e?,t3⟩:=Xs d1 false;have f2:hr (nQ (mX v.bc.length v) false):=⟨eA,J⟩;refine(cW ((ev (J0 _ false f1)).trans ((ev (J0 _ true f2)).trans (ec (gv _))))).trans (lc_ex'.trans (bd g62 ?_));rw[fk];rfl
 have an1:∀(j:Nat) (v:bP),jB (oO j v)=oO (j+1) v:=by
  intro j;induction j with
  |zero=>intro v;rfl
  |succ j ih=>intro v;exact ih (jB v)
 have run:∀(m j:Nat),j+m=k.toNat->bK F ((j:Int),((oO j w).t,()),())=some (.ex 0 ((k.toNat:Int),((oO k.toNat w).t,()),())):=by
  intro m;induction m with
  |zero =>intro j ap;have:j=k.toNat:=J;subst this;refine ec ?_;subst hg;exact bT (cR (by show ¬(k.toNat:Int)<c6 0 k;rw[g58];omega))
  |succ m ih =>intro j ap;refine F6 (ev ?_) (ih (j+1) J);rw[round j _ J (h j J),an1]
 exact(cW (run k.toNat 0 (lT _))).trans (lc_ex'.trans (eV g62))
def an2{w:bP}(a:g3)(h:∀j:Nat,j<(min a.2.2.1 100).toNat->zK (oO j w)):PE ((w.t,()),a,()) =
  some (((if a.2.2.1<0 then(w,(1:Int)) else(oO (min a.2.2.1 100).toNat w,0)).1.t,()),(if a.2.2.1<0 then(w,(1:Int)) else(oO (min a.2.2.1 100).toNat w,0)).2,()):=by
 unfold PE;dsimp only;by_cases aq:a.2.2.1<0
 .rw[if_pos aq];exact b4 (di aq)
 rw[if_neg aq];refine a2 (cR aq) ?_;rw[g57];exact(cw (Yd (min a.2.2.1 100) (λj ap=>h j J) J)).trans rfl
structure Ku(w:bP)(a:g3):Prop where
 n?:hr w
 b:a.2.2.2.2.1.length<=1000000
 x_:a.1=17->∀j:Nat,j<(min a.2.2.1 100).toNat->zK (oO j w)
def Qg{w:bP}{a:g3}(h:Ku w a):Cg (w.t,a,())=some ((ho w a).1.t,(ho w a).2,()):=by
 unfold Cg ho;dsimp only;have aJ:=aoG h.n? a h.b;have uX:(ob (qX ((w.t,()),a,())) λx=>(some (x.1.1,x.2.1,()):Option (d7×Int×Unit)))=some ((r3 w a).1.t,(r3 w a).2,()):=(cw aJ).trans rfl;by_cases dN:a.1=7
 .rw[if_pos dN];exact bm (cI dN) ((cw (ack h.n? a)).trans rfl)
 rw[if_neg dN];refine a2 (cv dN) ?_;by_cases cx:a.1=8
 .rw[if_pos cx];exact bm (cI cx) ((cw (aoJ h.n? a)).trans rfl)
 rw[if_neg cx];refine a2 (cv cx) ?_;by_cases lC:a.1=9
 .rw[if_pos lC];exact bm (cI lC) ((cw (aks h.n? a)).trans rfl)
 rw[if_neg lC];refine a2 (cv lC) ?_;by_cases oT:a.1=10
 .rw[if_pos oT];exact bm (cI oT) ((cw (aAd h.n? a)).trans rfl)
 rw[if_neg oT];refine a2 (cv oT) ?_;by_cases oU:a.1=11
 .rw[if_pos oU];exact bm (cI oU) ((cw (auk h.n? a h.b)).trans rfl)
 rw[if_neg oU];refine a2 (cv oU) ?_;by_cases Mq:a.1=12
 .rw[if_pos Mq];exact bm (cI Mq) ((cw (ax1 h.n? a)).trans rfl)
 rw[if_neg Mq];refine a2 (cv Mq) ?_;by_cases Dv:a.1=13
 .rw[if_pos Dv];exact bm (cI Dv) ((cw (aoq h.n? a)).trans rfl)
 rw[if_neg Dv];refine a2 (cv Dv) ?_;by_cases mZ:a.1=17
 .rw[if_pos mZ]
  exact bm (cI mZ) ((cw (an2 a (h.x_ mZ))).trans rfl)
 rw[if_neg mZ];refine a2 (cv mZ) ?_;by_cases aq:a.1=0
 .rw[if_pos J];exact bm (cI aq) uX
 refine a2 (cv aq) ?_;by_cases O:a.1=1
 .rw[if_pos J];exact bm (cI O) uX
 refine a2 (cv O) ?_;by_cases R:a.1=2
 .rw[if_pos J];exact bm (cI R) uX
 refine a2 (cv R) ?_;by_cases af:a.1=3
 .rw[if_pos J];exact bm (cI af) uX
 refine a2 (cv af) ?_;by_cases au:a.1=4
 .rw[if_pos J];exact bm (cI au) uX
 refine a2 (cv au) ?_;by_cases aY:a.1=5
 .rw[if_pos J];exact bm (cI aY) uX
 refine a2 (cv aY) ?_;by_cases cp:a.1=6
 .rw[if_pos J];exact bm (cI cp) uX
 refine a2 (cv cp) ?_;by_cases Ap:a.1=14
 .rw[if_pos J];exact bm (cI Ap) uX
 refine a2 (cv Ap) ?_;by_cases Aq:a.1=15
 .rw[if_pos J];exact bm (cI Aq) uX
 refine a2 (cv Aq) ?_;by_cases oV:a.1=16
 .rw[if_pos J];exact bm (cI oV) uX
 refine a2 (cv oV) ?_;rw[if_neg J]
def FE:bP->List g3->Prop
 |_,[]=>True
 |w,a::l=>Ku w a/\FE (ho w a).1 l
def akc{w:bP}{n3:List g3}(h:FE w n3)(hl:n3.length<=1000000):Fv (w.t,n3,())=some ((t? w n3).1.t,(t? w n3).2,()):=by
 unfold Fv;generalize hg:(λ(Y:List Int×Int×d7×Unit)=>(_:Option (aF (List Int×Int×d7×Unit) (d7×List Int×Unit))))=F;have key:∀(l:List g3) (i:Nat) (v:bP) (e:List Int),n3.drop i=l->i<=n3.length->e.length=i->FE v l ->
   bK F (e,(i:Int),v.t,())=some (.ex 0 (e++(t? v l).2,(n3.length:Int),(t? v l).1.t,())):=by
  intro l;induction l with
  |nil =>intro i v e aJ ac aC aB;have cm:=congrArg List.length aJ;rw[eU,j4]at cm;have:i=n3.length:=J;subst this;refine ec ?_;subst hg;refine a2 (cR (by show ¬(n3.length:Int)<(n3.length:Int);omega)) ?_;show _=some (aF.ex 0 (e++[],(n3.length:Int),v.t,()));simp
  |cons a l ih=>
   intro i v e aJ ac aC aB;have cm:=congrArg List.length aJ;rw[eU,gL]at cm;have bn:i<n3.length:=J;have hx:n3[i]=a/\n3.drop (i+1)=l:=by
    rw[h3 bn]at aJ
    grind
   have fk:i64 (aE (i:Int) 1)=((i+1:Nat):Int):=fY (by show(i:Int)+1=_;omega) J;have:=ih (i+1) (ho v a).1 (e++[(ho v a).2]) hx.2 J (by rw[dd,aC];rfl) aB.2;rw[hb]at this;refine F6 (ev ?_) this;subst hg;refine bm (di (by show(i:Int)<(n3.length:Int);omega)) (bd cS ?_);rw[gx,nth_get bn,hx.1,fk];refine aS (Qg aB.1) (bd ?_ rfl);rw[g21];refine cF ?_;show(e.length+1)*32<=_;omega
 exact(cW (key n3 0 w [] rfl (nV _) rfl h)).trans (lc_ex'.trans (eV g62))
def ep(n:de):V:=fP (jk n)
def qg{n:de}(h:i2 n):jM (ep n):=⟨by unfold ep fP;rw[dd,dd,pA];split<;>omega,aBC h⟩
def pw(n:de)(res:Int):de:=(false,n.2.1,n.2.2.1,res,0,[],[],0,())
def QF{n:de}(h:i2 n){res:Int}(aq:0<=res)(lC:res<=99):i2 (pw n res):=by refine⟨h.1,h.2.1,h.2.2.1,aq,lC,(λh=>by cases h),?_⟩;refine⟨rfl,rfl,rfl,?_⟩;rfl
def agN{n:de}(h:i2 n)(aQ:n.1=true){res:Int}(aq:0<=res)(lC:res<=99):kC n res=ep (pw n res):=by unfold kC F';rw[if_neg (by rw[aQ];intro h;cases h),if_neg J];exact congrArg Prod.fst (XY (QF h aq lC))
def iG:de:=(true,1,1,0,0,[],[],0,())
def n0:de:=pw iG 0
def ajM:V:=List.replicate 16 (u8 0)
theorem aB3:kq ajM=(0,false,()):=rfl
theorem alj:dS Eh=(1,0,true,()):=by rfl
def pe:j7:=(o9 1,qB 1 (-1) ajM,())
def aAC:lL Eh (-1)=(pe,1,0,()):=by unfold lL;rw[alj];rw[ if_pos rfl];rfl
structure ne(c:Nat)(h:ej):Prop where
 c4:c<4
 up:h.1=[decide (c=0),decide (c=1),decide (c=2),decide (c=3)]
 feed:h.2.1=[eJ,eJ,eJ,eJ]
 next:0<=h.2.2.2.1/\h.2.2.2.1<4
def I6{h:ej}(aL:ne c h):(ez h).2.1=(c:Int)/\(ez h).2.2.1=0/\ne c (ez h).1:=by
 obtain⟨O,R,af,au⟩:=aL;have key:VW h.1 h.2.2.2.1.toNat=some c:=by
  have:∀c<4,∀n<4,VW [decide (c=0),decide (c=1),decide (c=2),decide (c=3)] n=some c:=bO
  grind
 unfold ez;rw[key];exact⟨rfl,rfl,O,R,af,by show(0:Int)<=((c+1)%4:Nat)/\(((c+1)%4:Nat):Int)<4;omega⟩
def aBa{h:ej}(aL:ne c h):mN h (c:Int):=by unfold mN;rw[aL.up,e7];have:∀c<4,ao [decide (c=0),decide (c=1),decide (c=2),decide (c=3)] c false=true:=bO;exact this c aL.c4
def axI(O:1<=x.length)(R:x.length<=1024):jl eJ (fw x)=(eJ,[x]):=by
 have hl:(fw x).length=x.length+2:=NL x;have ht:eB (fw x)=x.length:=by
  unfold eB fw;show 256*(u8 (fO .i64 (len x) (cL (u64 8)))).toNat+(u8 (len x)).toNat=x.length;have e1:(u8 (len x)).toNat=x.length%256:=by show(UInt8.ofInt (x.length:Int)).toNat=_;simp[UInt8.ofInt,Yj];omega
  have aU:fO .i64 (len x) (cL (u64 8))=((x.length/256:Nat):Int):=by show Int.fdiv (x.length:Int) (2^(Nat.min ((cL (u64 8)).toNat) 64))=_;rw[show(cL (u64 8)).toNat=8 from rfl,show Nat.min 8 64=8 from rfl,Yh _ bO];omega
  have d8:(u8 (fO .i64 (len x) (cL (u64 8)))).toNat=x.length/256%256:=by rw[aU];show(UInt8.ofInt ((x.length/256:Nat):Int)).toNat=_;simp[UInt8.ofInt,Yj];omega
  rw[e1,d8];omega
 unfold jl;rw[if_neg (by show ¬(([]:V)++fw x).length<(0:Int).toNat;simp)];show(((h' (fw x).length 0 ((fw x).drop 0)).1,_),_)=_;rw[nl,hl];have e:h' (x.length+2) 0 (fw x)=([],0,0,[x]):=by
  unfold h';rw[if_neg J,if_neg J,if_neg J];have aJ:(fw x).drop (2+eB (fw x))=[]:=by rw[ht];exact List.drop_eq_nil_of_le J
  have am:∀k,h' k 0 ([]:V)=([],0,0,[]):=by intro k;cases k<;>rfl
  rw[aJ,am,ht];have:((fw x).drop 2).take x.length=x:=by show(x).take x.length=x;exact ni
  rw[this]
 rw[show(eJ.1++fw x).length=x.length+2 from hl];show(((h' (x.length+2) 0 (fw x)).1,((h' (x.length+2) 0 (fw x)).2.1:Int),(h' (x.length+2) 0 (fw x)).2.2.1,()),(h' (x.length+2) 0 (fw x)).2.2.2)=_;rw[e];rfl
def akO{s:aw}(aL:ne c s.e.hub)(ah:s.e.cJ=[0,0,0,0])(cx:¬s.e.ph=8)(O:1<=x.length)(R:x.length<=1024):qb s (c:Int) (fw x)=lc s x:=by
 have ak:ao s.e.hub.2.1 c eJ=eJ:=by
  rw[aL.feed];have:∀c<4,ao [eJ,eJ,eJ,eJ] c eJ=eJ:=by
   intro c ah;match c,ah with
   |0,_=>rfl
   |1,_=>rfl
   |2,_=>rfl
   |3,_=>rfl
  exact this c aL.c4
 have l6:cn s.e.hub.2.1 c eJ=s.e.hub.2.1:=by
  rw[aL.feed];have au:=aL.c4;match c,au with
  |0,_=>rfl
  |1,_=>rfl
  |2,_=>rfl
  |3,_=>rfl
 have hp:hY s.e.hub (c:Int) (fw x)=(s.e.hub,[x],0):=by unfold hY;rw[if_neg (not_not_intro (show kP (c:Int) from⟨J,by have:=aL.c4;omega⟩)),if_neg (not_not_intro (aBa aL)),e7,ak,axI O R];dsimp only;rw[l6]
 have hf:q' s (c:Int) (fw x)=s:=by
  unfold q';rw[hp,e7,ak];have e1:Lb s.e.cJ (i64 (eJ.2.2.1-eJ.2.2.1))=s.e.cJ:=by rw[ah];rfl
  rw[e1]
 unfold qb;rw[hp,if_neg (not_not_intro rfl),hf];show(if s.e.ph=8 then s else tw (lc s x) [])=_;rw[if_neg cx];rfl
def aiV{s:aw}{a:c8}(hid:s.e.id=1-a.id)(qr:s.e.key=a.key)(dN:¬s.e.ph=7/\¬s.e.ph=8)(aB:iE (hD a o b))(hm:(hu a.key,cA (hD a o b),())∈s.p.2.1):
  gy s (cA (hD a o b)++jV (hu a.key) (cA (hD a o b)))=(s,some (jE (hD a o b) (jV (hu a.key) (cA (hD a o b))))):=by
 have ai:=agI aB (show(hD a o b).2.2.1=_ from VR { a with oth:=o }) (BD (hu a.key) (cA (hD a o b)));generalize Ub:jV (hu a.key) (cA (hD a o b))=t at ai;have am:A0 s.e (jE (hD a o b) t)=hu a.key:=by unfold A0;rw[if_neg (by show ¬(1:Int)=2;decide),qr]
 have ah:hv s (jE (hD a o b) t)=(s.p,true,()):=by unfold hv;rw[am];unfold xf;exact(if_pos Ub).trans (if_pos hm)
 have ab:¬pT s.e (jE (hD a o b) t):=by
  rintro(h|h|h|h)
  .exact h (show a.id=1-s.e.id by omega)
  .exact dN.1 h
  .exact dN.2 h
  exact absurd h.1 (by show ¬(1:Int)=2;decide)
 unfold gy;rw[ai];refine(if_neg (not_not_intro rfl)).trans ((if_neg ab).trans ?_);rw[ah];exact(if_neg (λh=>Bool.noConfusion h)).trans ((if_pos rfl).trans rfl)
def Xo{s:aw}{a:c8}(hid:s.e.id=1-a.id)(hp:fE a=fE s.e)(hl:dO s.e.ph)(hf:ra s.e.ring a.ring.1.1=(a.ring.1.2.1,true,()))(aB:iE (go a b))(hm:(a.ring.1.2.1,cA (go a b),())∈s.p.2.1)(bw:(k3 s.e.win a.seq).2=0):
  gy s (cA (go a b)++jV a.ring.1.2.1 (cA (go a b)))=(⟨{ s.e with win:=(k3 s.e.win a.seq).1,ring:=qq s.e a.ring.1.1 },s.p⟩,some (jE (go a b) (jV a.ring.1.2.1 (cA (go a b))))):=by
 have ai:=agI aB (VR a) (BD a.ring.1.2.1 (cA (go a b)));generalize Ub:jV a.ring.1.2.1 (cA (go a b))=t at ai;have am:A0 s.e (jE (go a b) t)=a.ring.1.2.1:=by exact congrArg Prod.fst hf
 have ah:hv s (jE (go a b) t)=(s.p,true,()):=by unfold hv;rw[am];exact(if_pos Ub).trans (if_pos hm)
 have ab:¬pT s.e (jE (go a b) t):=by
  unfold dO at hl;rintro(h|h|h|h)
  .exact h (show a.id=1-s.e.id by omega)
  .omega
  .omega
  rcases h.2 with h|h|h
  .exact h hl
  .exact h hp
  have:(ra s.e.ring a.ring.1.1).2.1=false:=h
  grind
 unfold gy;rw[ai];refine(if_neg (not_not_intro rfl)).trans ((if_neg ab).trans ?_);rw[ah];exact(if_neg (λh=>Bool.noConfusion h)).trans ((if_neg (show ¬(2:Int)=1 by decide)).trans ((if_neg (not_not_intro bw)).trans rfl))
def GC:List Int:=[0,0,0,0]
def iv:de:=(true,301,2,0,0,[],[],0,())
def ib(key:V):V:=wZ key [1,1] 1 []
def mI(key:V):fq:=((1,ib key,()),ke,ke,0,1,())
def lv:gr:=(k3 rA 0).1
def gs(i:Bool)(key:V)(h:ej):c8:=⟨dg i,key,0,Eh, -1,0,0,0,0,rA,o4,kA,0,0,[],h,[],[],GC⟩
def hw(i:Bool)(key:V)(gB:Int)(h:ej):c8:=⟨dg i,key,1,pe, -1,1,0,0,0,rA,o4,(1,1,gB,3,ep iG,()),1,0,[],h,[],[],GC⟩
def gD(i:Bool)(key:V)(h:ej):c8:=⟨dg i,key,2,pe, -1,1,1,1,0,rA,mI key,kA,0,0,[],h,[],[],GC⟩
def hO(i:Bool)(key:V)(gB:Int)(h:ej):c8:=⟨dg i,key,3,pe, -1,1,1,1,1,rA,mI key,(301,2,gB,3,ep iv,()),2,0,[],h,[],[],GC⟩
def eN(i:Bool)(key:V)(stan:Int)(h:ej):c8:=⟨dg i,key,3,pe, -1,1,1,1,1,lv,mI key,kA,stan,0,[],h,[],[],GC⟩
def j9:List eg:=[(4,[1,1],0,[],())]
def sZ(i:Bool)(key:V):c9:=hD (hw i key 8 dY) 0 (ep iG)
def vW(i:Bool)(key:V):c9:=hD (gD i key dY) 1 (ep n0)
def xB(i:Bool)(key:V):c9:=go { hO i key 8 dY with seq:=0 } (ep iv)
def xA(i:Bool)(key:V):c9:=go (gD i key dY) (ep (pw iv 0))
def jo(k:V)(v:c9):V:=cA v++jV k (cA v)
def y9:i2 iG:=by refine⟨.inl rfl,bO,bO,bO,bO,λ_=>rfl,?_⟩;refine⟨rfl,rfl,rfl,?_⟩;rfl
def yf:i2 iv:=by refine⟨.inr (.inr (.inr (.inr rfl))),bO,bO,bO,bO,λ_=>rfl,?_⟩;refine⟨rfl,rfl,rfl,?_⟩;rfl
def K2:i2 n0:=QF y9 J J
def La:i2 (pw iv 0):=QF yf J J
def abl{s:aw}(aL:ne c s.e.hub)(v:c9)(k:V):kQ s v k=(⟨{ s.e with hub:=(ez s.e.hub).1,bC:=s.e.bC++[((c:Int),fw (jo k v),())] },hX s.p k (cA v)⟩,0):=by obtain⟨O,R,_⟩:=I6 aL;unfold kQ;rw[if_pos R,O];rfl
def ah6{s:aw}(aL:ne c s.e.hub)(aK:du o)(aa:jM b):mK s o b=(⟨{ s.e with hub:=(ez s.e.hub).1,bC:=s.e.bC++[((c:Int),fw (jo (hu s.e.key) (hD s.e o b)),())] },hX s.p (hu s.e.key) (cA (hD s.e o b))⟩,0):=by unfold mK;rw[if_pos ⟨aK,aa⟩,abl aL]
def Wx{s:aw}(aL:ne c s.e.hub)(hl:dO s.e.ph)(aQ:¬s.e.seq=4611686018427387904)(aa:jM b):ee s b=(⟨{ s.e with hub:=(ez s.e.hub).1,bC:=s.e.bC++[((c:Int),fw (jo s.e.ring.1.2.1 (go s.e b)),())],seq:=s.e.seq+1 },hX s.p s.e.ring.1.2.1 (cA (go s.e b))⟩,0):=by unfold ee;rw[if_neg (not_not_intro aa),if_neg (not_not_intro hl),if_neg aQ,abl aL];rfl
def yZ:du 0:=⟨bO,bO⟩
def vC:du 1:=⟨bO,bO⟩
def awV(i:Bool)(key:V){h:ej}(aL:ne c h)(p:eG):nJ ⟨gs i key h,p⟩=(⟨{ hw i key 8 (ez h).1 with bC:=[((c:Int),fw (jo (hu key) (sZ i key)),())] },hX p (hu key) (cA (sZ i key))⟩,0):=by
 have aC:eQ ⟨gs i key h,p⟩=(pS ⟨gs i key h,p⟩ pe,1,0):=by unfold eQ;rw[show lL (gs i key h).store (gs i key h).power=_ from aAC];rfl
 have aQ:(mh iG)=(ep iG,0,()):=XY y9;have aa:nm 1 1 (ep iG)=((1,1,8,3,ep iG,()),0,()):=by unfold nm;rw[if_pos ⟨.inl rfl,bO,bO,qg y9⟩]
 unfold nJ;rw[if_neg (by rintro(h|h)<;>exact absurd (show(0:Int)=_ from h) bO),aC,if_neg (not_not_intro rfl)];refine YD ?_ rfl;show jT (rG (jw (pS ⟨gs i key h,p⟩ pe) 1) 1) (iq 1)=_;unfold jT;rw[show((iq 1).1,(iq 1).2.1,lK (rG (jw (pS ⟨gs i key h,p⟩ pe) 1) 1).e.stan,(iq 1).2.2.2)=iG from rfl,show lK (rG (jw (pS ⟨gs i key h,p⟩ pe) 1) 1).e.stan=1 from rfl,aQ];rw[show nm (iq 1).2.1 1 (ep iG,(0:Int),()).1=_ from aa,if_pos ⟨rfl,rfl⟩,if_pos (show(iq 1).2.1=1 from rfl)];have bh:th (rG (jw (pS ⟨gs i key h,p⟩ pe) 1) 1) (iq 1)=⟨hw i key 8 h,p⟩:=by unfold th;rw[show((iq 1).1,(iq 1).2.1,lK (rG (jw (pS ⟨gs i key h,p⟩ pe) 1) 1).e.stan,(iq 1).2.2.2)=iG from rfl,show lK (rG (jw (pS ⟨gs i key h,p⟩ pe) 1) 1).e.stan=1 from rfl,aQ];rw[show nm (iq 1).2.1 1 (ep iG,(0:Int),()).1=_ from aa];rfl
 rw[bh,ah6 (s:=⟨hw i key 8 h,p⟩) aL yZ (qg y9)];rfl
def GV{s x:aw}{v:c9}(h:gy s b=(x,some v)):lc s b=lI (kp x v):=by unfold lc;rw[h]
def I8{s:aw}(h:s.e.queue=[]):lI s=s:=by unfold lI;rw[h];rfl
def apc{s:aw}(O:s.e.store=Eh)(R:s.e.power = -1):eQ s=(pS s pe,1,0):=by unfold eQ;rw[O,R];rfl
def JZ(p:eG)(k b:V):(k,b,())∈(hX p k b).2.1:=by
 unfold hX;split
 .omega
 simp
theorem afl(key:V):(Eg (wZ key [1,1] 1 [])).1=mI key:=rfl
def I2{v:c9}{x y g q:Int}(am:v.1=1\/v.1=2)(bQ:v.2.2.1=[x,y])(hx:du x)(hy:du y)(aQ:v.2.2.2.2.1=q)(m4:du q)(aJ:v.2.1=0\/v.2.1=1)(hg:v.2.2.2.1=g)(TJ:0<=g/\g<=2147483647)(aa:jM v.2.2.2.2.2.1):iE v:=by unfold iE ea e1;rw[bQ,aQ,hg];exact⟨am,hx,hy,m4,aJ,TJ,aa.1,aa.2⟩
def mq(i:Bool):dg i=0\/dg i=1:=by cases i<;>first|exact .inl rfl|exact .inr rfl
def aBg(i:Bool)(key:V):(sZ i key).2.2.1=[if i then 0 else 1,if i then 1 else 0]:=by cases i<;>rfl
def pM{e:c8}(aq:e.id=0\/e.id=1)(O:e.own=1)(R:e.oth=1):fE e=[1,1]:=by
 unfold fE
 grind
def aBh(i:Bool)(key:V):iE (sZ i key):=I2 (x:=if i then 0 else 1) (y:=if i then 1 else 0) (q:=0) (g:=0) (.inl rfl) (aBg i key) (by cases i<;>decide) (by cases i<;>decide) rfl yZ (mq i) rfl bO (qg y9)
def ajn(i:Bool)(key:V):(vW i key).2.2.1=[1,1]:=pM (e:={ gD i key dY with oth:=1 }) (mq i) rfl rfl
def aBd(i:Bool)(key:V):iE (vW i key):=I2 (q:=0) (g:=0) (.inl rfl) (ajn i key) vC vC rfl yZ (mq i) rfl bO (qg K2)
def aBf(i:Bool)(key:V):iE (xB i key):=I2 (q:=0) (g:=1) (.inr rfl) (pM (e:={ hO i key 8 dY with seq:=0 }) (mq i) rfl rfl) vC vC rfl yZ (mq i) rfl bO (qg yf)
def aBe(i:Bool)(key:V):iE (xA i key):=I2 (q:=0) (g:=1) (.inr rfl) (pM (e:=gD i key dY) (mq i) rfl rfl) vC vC rfl yZ (mq i) rfl bO (qg La)
def ar3(i:Bool)(key:V){h:ej}(aL:ne c h){p:eG}(hm:(hu key,cA (sZ i key),())∈p.2.1):
  lc ⟨gs (!i) key h,p⟩ (jo (hu key) (sZ i key))=⟨{ gD (!i) key (ez h).1 with bC:=[((c:Int),fw (jo (hu key) (vW (!i) key)),())] },hX p (hu key) (cA (vW (!i) key))⟩:=by
 have ht:=aiV (s:=⟨gs (!i) key h,p⟩) (a:=hw i key 8 dY) (o:=0) (b:=ep iG) (by cases i<;>rfl) rfl ⟨by show ¬(0:Int)=7;decide,by show ¬(0:Int)=8;decide⟩ (aBh i key) hm;rw[show jo (hu key) (sZ i key)=cA (hD (hw i key 8 dY) 0 (ep iG))++jV (hu (hw i key 8 dY).key) (cA (hD (hw i key 8 dY) 0 (ep iG))) from rfl,GV ht];generalize jV (hu (hw i key 8 dY).key) (cA (hD (hw i key 8 dY) 0 (ep iG)))=t;have h5:kg (ep iG)=(iG,0,()):=I' y9;have aJ:kp ⟨gs (!i) key h,p⟩ (jE (hD (hw i key 8 dY) 0 (ep iG)) t)=nD ⟨gs (!i) key h,p⟩ (jE (hD (hw i key 8 dY) 0 (ep iG)) t) iG:=by unfold kp;refine(if_neg (show ¬(1:Int)=2 by decide)).trans ?_;rw[show(jE (hD (hw i key 8 dY) 0 (ep iG)) t).2.2.2.2.2.1=ep iG from rfl,h5];exact if_pos rfl
 have hh:nD ⟨gs (!i) key h,p⟩ (jE (hD (hw i key 8 dY) 0 (ep iG)) t) iG=py ⟨gs (!i) key h,p⟩ iG 1:=by
  unfold nD;dsimp only;have e1:ao (jE (hD (hw i key 8 dY) 0 (ep iG)) t).2.2.1 (ae (1-(gs (!i) key h).id)) 0=1:=by cases i<;>rfl
  have aU:ao (jE (hD (hw i key 8 dY) 0 (ep iG)) t).2.2.1 (ae (gs (!i) key h).id) 0=0:=by cases i<;>rfl
  rw[e1,aU];exact(if_neg (by rintro(h|h);exact h rfl;exact absurd h bO)).trans (if_pos ⟨rfl,rfl⟩)
 have bh:py ⟨gs (!i) key h,p⟩ iG 1=(mK ⟨gD (!i) key h,p⟩ 1 (kC iG 0)).1:=by
  unfold py;refine(if_neg (by rintro(h|h|h);exact absurd (show(0:Int)=1 from h.1) bO;exact absurd (show(0:Int)=7 from h) bO;exact absurd (show(0:Int)=8 from h) bO)).trans ?_;refine(if_neg (λh=>absurd h.1.1 (by show ¬(2:Int)<=0;decide))).trans ?_;refine(if_neg (by show ¬(1:Int)<=0;decide)).trans ?_;rw[apc (s:=⟨gs (!i) key h,p⟩) rfl rfl];refine(if_pos rfl).trans ?_;have e:sC (jw (pS ⟨gs (!i) key h,p⟩ pe) 2) 1 1=⟨gD (!i) key h,p⟩:=by
   unfold sC Ea;have Sr:fE { (jw (pS ⟨gs (!i) key h,p⟩ pe) 2).e with own:=1,oth:=1 }=[1,1]:=by cases i<;>rfl
   rw[Sr,show(jw (pS ⟨gs (!i) key h,p⟩ pe) 2).e.key=key from rfl,afl];rfl
  rw[e]
 rw[aJ,hh,bh,agN y9 rfl J J,show pw iG 0=n0 from rfl,ah6 (s:=⟨gD (!i) key h,p⟩) aL vC (qg K2),I8 (by rfl)];rfl
def ar0(i:Bool)(key:V)(gB:Int){h:ej}(aL:ne c h){p:eG}(hm:(hu key,cA (vW (!i) key),())∈p.2.1):
  lc ⟨hw i key gB h,p⟩ (jo (hu key) (vW (!i) key))=⟨{ hO i key 8 (ez h).1 with bC:=[((c:Int),fw (jo (ib key) (xB i key)),())],got:=j9 },hX p (ib key) (cA (xB i key))⟩:=by
 have ht:=aiV (s:=⟨hw i key gB h,p⟩) (a:=gD (!i) key dY) (o:=1) (b:=ep n0) (by cases i<;>rfl) rfl ⟨by show ¬(1:Int)=7;decide,by show ¬(1:Int)=8;decide⟩ (aBd (!i) key) hm;rw[show jo (hu key) (vW (!i) key)=cA (hD (gD (!i) key dY) 1 (ep n0))++jV (hu (gD (!i) key dY).key) (cA (hD (gD (!i) key dY) 1 (ep n0))) from rfl,GV ht];generalize jV (hu (gD (!i) key dY).key) (cA (hD (gD (!i) key dY) 1 (ep n0)))=t;have h5:kg (ep n0)=(n0,0,()):=I' K2;have aJ:kp ⟨hw i key gB h,p⟩ (jE (hD (gD (!i) key dY) 1 (ep n0)) t)=nD ⟨hw i key gB h,p⟩ (jE (hD (gD (!i) key dY) 1 (ep n0)) t) n0:=by unfold kp;refine(if_neg (show ¬(1:Int)=2 by decide)).trans ?_;rw[show(jE (hD (gD (!i) key dY) 1 (ep n0)) t).2.2.2.2.2.1=ep n0 from rfl,h5];exact if_pos rfl
 have bQ:(jE (hD (gD (!i) key dY) 1 (ep n0)) t).2.2.1=[1,1]:=ajn (!i) key;have hh:nD ⟨hw i key gB h,p⟩ (jE (hD (gD (!i) key dY) 1 (ep n0)) t) n0=jT (vF ⟨hw i key gB h,p⟩ 1) (iq 301):=by
  unfold nD;dsimp only;rw[bQ];have e1:ao ([1,1]:List Int) (ae (1-(hw i key gB h).id)) 0=1:=by cases i<;>rfl
  have aU:ao ([1,1]:List Int) (ae (hw i key gB h).id) 0=1:=by cases i<;>rfl
  rw[e1,aU];refine(if_neg (by rintro(h|h);exact h rfl;exact absurd h bO)).trans ((if_neg (λh=>Bool.noConfusion h.1)).trans (if_pos ⟨rfl,rfl,rfl,rfl,?_,rfl,rfl⟩));intro h;have:(1:Int)=0:=congrArg Prod.fst h;omega
 have tK:vF ⟨hw i key gB h,p⟩ 1=⟨{ hO i key 8 h with seq:=0,ask:=kA,stan:=1,got:=j9 },p⟩:=by unfold vF yj Ea;have Sr:fE { (hw i key gB h) with own:=1,oth:=1 }=[1,1]:=pM (mq i) rfl rfl;rw[show fE { (⟨hw i key gB h,p⟩:aw).e with own:=(⟨hw i key gB h,p⟩:aw).e.own,oth:=1 }=[1,1] from Sr,show(⟨hw i key gB h,p⟩:aw).e.key=key from rfl,afl];dsimp only;rw[pM (e:=_) (mq i) rfl rfl];rfl
 have aQ:mh iv=(ep iv,0,()):=XY yf;have aa:nm 301 2 (ep iv)=((301,2,8,3,ep iv,()),0,()):=by unfold nm;rw[if_pos ⟨.inr (.inr (.inr (.inr rfl))),bO,bO,qg yf⟩]
 have tL:jT ⟨{ hO i key 8 h with seq:=0,ask:=kA,stan:=1,got:=j9 },p⟩ (iq 301)=(ee ⟨{ hO i key 8 h with seq:=0,got:=j9 },p⟩ (ep iv)).1:=by unfold jT th;rw[show((iq 301).1,(iq 301).2.1,lK (⟨{ hO i key 8 h with seq:=0,ask:=kA,stan:=1,got:=j9 },p⟩:aw).e.stan,(iq 301).2.2.2)=iv from rfl,show lK (⟨{ hO i key 8 h with seq:=0,ask:=kA,stan:=1,got:=j9 },p⟩:aw).e.stan=2 from rfl,aQ];rw[show nm (iq 301).2.1 2 (ep iv,(0:Int),()).1=_ from aa,if_pos ⟨rfl,rfl⟩,if_neg (show ¬(iq 301).2.1=1 by decide)];rfl
 rw[aJ,hh,tK,tL,Wx (s:=⟨{ hO i key 8 h with seq:=0,got:=j9 },p⟩) aL ⟨by show(2:Int)<=3;decide,by show(3:Int)<=6;decide⟩ (by show ¬(0:Int)=4611686018427387904;decide) (qg yf),I8 (by rfl)];rfl
theorem SB(key:V):ra (mI key) 1=(ib key,true,()):=rfl
theorem aeT:(k3 rA 0).2=0:=rfl
def Tx{e:c8}(h:e.ring=mI key):qq e 1=mI key:=by unfold qq;rw[h];exact if_neg (λq=>absurd (show(0:Int)=1 from q.1) bO)
def ar2(i:Bool)(key:V){h:ej}(aL:ne c h){p:eG}(hm:(ib key,cA (xB i key),())∈p.2.1):
  lc ⟨gD (!i) key h,p⟩ (jo (ib key) (xB i key))=⟨{ eN (!i) key 0 (ez h).1 with bC:=[((c:Int),fw (jo (ib key) (xA (!i) key)),())],got:=j9 },hX p (ib key) (cA (xA (!i) key))⟩:=by
 have ht:=Xo (s:=⟨gD (!i) key h,p⟩) (a:={ hO i key 8 dY with seq:=0 }) (b:=ep iv) (by cases i<;>rfl) ((pM (mq i) rfl rfl).trans (pM (e:=gD (!i) key h) (mq (!i)) rfl rfl).symm) ⟨by show(2:Int)<=2;decide,by show(2:Int)<=6;decide⟩ (SB key) (aBf i key) hm aeT;rw[show jo (ib key) (xB i key)=cA (go { hO i key 8 dY with seq:=0 } (ep iv))++jV ({ hO i key 8 dY with seq:=0 }:c8).ring.1.2.1 (cA (go { hO i key 8 dY with seq:=0 } (ep iv))) from rfl,GV ht];generalize jV ({ hO i key 8 dY with seq:=0 }:c8).ring.1.2.1 (cA (go { hO i key 8 dY with seq:=0 } (ep iv)))=t;rw[show qq (⟨gD (!i) key h,p⟩:aw).e ({ hO i key 8 dY with seq:=0 }:c8).ring.1.1=mI key from Tx rfl];have h5:kg (ep iv)=(iv,0,()):=I' yf;have hf:mt ⟨{ gD (!i) key h with win:=lv,ring:=mI key },p⟩=⟨{ eN (!i) key 0 h with seq:=0,got:=j9 },p⟩:=by unfold mt;refine(if_pos rfl).trans ?_;unfold yj;rw[show fE (pN ⟨{ gD (!i) key h with win:=lv,ring:=mI key },p⟩ 3).e=[1,1] from pM (mq (!i)) rfl rfl];rfl
 have aJ:kp ⟨{ gD (!i) key h with win:=lv,ring:=mI key },p⟩ (jE (go { hO i key 8 dY with seq:=0 } (ep iv)) t)=(ee ⟨{ eN (!i) key 0 h with seq:=0,got:=j9 },p⟩ (kC iv 0)).1:=by unfold kp;refine(if_pos rfl).trans ?_;rw[show(jE (go { hO i key 8 dY with seq:=0 } (ep iv)) t).2.2.2.2.2.1=ep iv from rfl,h5,hf];refine(if_pos rfl).trans ?_;unfold qR;refine(if_neg (show ¬(301:Int)=101 by decide)).trans ((if_neg (show ¬(301:Int)=201 by decide)).trans ?_);unfold rD;exact(if_pos rfl).trans (if_pos rfl)
 refine(congrArg lI aJ).trans ?_;rw[agN yf rfl J J,Wx (s:=⟨{ eN (!i) key 0 h with seq:=0,got:=j9 },p⟩) aL ⟨by show(2:Int)<=3;decide,by show(3:Int)<=6;decide⟩ (by show ¬(0:Int)=4611686018427387904;decide) (qg La),I8 (by rfl)];rfl
def ar1(i:Bool)(key:V)(gB:Int){h:ej}{p:eG}(hm:(ib key,cA (xA (!i) key),())∈p.2.1):
  lc ⟨hO i key gB h,p⟩ (jo (ib key) (xA (!i) key))=⟨eN i key 2 h,p⟩:=by
 have ht:=Xo (s:=⟨hO i key gB h,p⟩) (a:=gD (!i) key dY) (b:=ep (pw iv 0)) (by cases i<;>rfl) ((pM (mq (!i)) rfl rfl).trans (pM (e:=hO i key gB h) (mq i) rfl rfl).symm) ⟨by show(2:Int)<=3;decide,by show(3:Int)<=6;decide⟩ (SB key) (aBe (!i) key) hm aeT;rw[show jo (ib key) (xA (!i) key)=cA (go (gD (!i) key dY) (ep (pw iv 0)))++jV (gD (!i) key dY).ring.1.2.1 (cA (go (gD (!i) key dY) (ep (pw iv 0)))) from rfl,GV ht];generalize jV (gD (!i) key dY).ring.1.2.1 (cA (go (gD (!i) key dY) (ep (pw iv 0))))=t;rw[show qq (⟨hO i key gB h,p⟩:aw).e (gD (!i) key dY).ring.1.1=mI key from Tx rfl];have h5:kg (ep (pw iv 0))=(pw iv 0,0,()):=I' La;have aJ:kp ⟨{ hO i key gB h with win:=lv,ring:=mI key },p⟩ (jE (go (gD (!i) key dY) (ep (pw iv 0))) t)=⟨eN i key 2 h,p⟩:=by unfold kp;refine(if_pos rfl).trans ?_;rw[show(jE (go (gD (!i) key dY) (ep (pw iv 0))) t).2.2.2.2.2.1=ep (pw iv 0) from rfl,h5];refine(if_pos rfl).trans ?_;rw[show mt ⟨{ hO i key gB h with win:=lv,ring:=mI key },p⟩=⟨{ hO i key gB h with win:=lv,ring:=mI key },p⟩ from if_neg (show ¬(3:Int)=2 by decide)];unfold qR;refine(if_neg (show ¬(301:Int)=101 by decide)).trans ((if_neg (show ¬(301:Int)=201 by decide)).trans ?_);unfold rD;refine(if_neg (λq=>Bool.noConfusion q)).trans ((if_pos ⟨?_,rfl,rfl⟩).trans ((if_pos rfl).trans rfl));intro q;have:(301:Int)=0:=congrArg Prod.fst q;omega
 refine(congrArg lI aJ).trans (I8 rfl)
def two{α:Type}(i:Bool)(a b:α):Bool->α:=λj=>if j=i then a else b
def fo(i:Bool)(a b:c8)(p:eG)(f o:List eM)(eu lb:List eg):bP:=⟨two i a b,p,f,o,two i eu lb⟩
def aje(i:Bool)(a b:α):two i a b i=a:=if_pos rfl
def aA2(i:Bool)(a b:α):two i a b (!i)=b:=if_neg (by cases i<;>decide)
def ags(i:Bool)(a b x:α):gJ (two i a b) i x=two i x b:=by
 unfold gJ two
 grind
def ajf(i:Bool)(a b:α):two (!i) b a=two i a b:=by funext j;cases i<;>cases j<;>rfl
def Cf(i:Bool)(a b:c8)(p:eG)(f o:List eM)(eu lb:List eg):fo (!i) b a p f o lb eu=fo i a b p f o eu lb:=by unfold fo;rw[ajf,ajf]
def K?(i:Bool)(a b:c8)(p:eG)(f o:List eM)(eu lb:List eg):(fo i a b p f o eu lb).at i=⟨a,p⟩:=by show(⟨two i a b i,p⟩:aw)=_;rw[aje]
def YV(i:Bool)(a b:c8)(p:eG)(f o:List eM)(eu lb:List eg):(fo i a b p f o eu lb).at (!i)=⟨b,p⟩:=by show(⟨two i a b (!i),p⟩:aw)=_;rw[aA2]
def GZ(i:Bool)(a b:c8)(p:eG)(f o:List eM)(eu lb:List eg){x:aw}(h:¬x.e.ph=8):
  iy (fo i a b p f o eu lb) i x=fo i { x.e with bC:=[],got:=[] } b x.p (f++x.e.bC.map (jx i)) (o++x.e.bC.map (jx i)) (eu++x.e.got) lb:=by
 unfold iy;rw[if_neg (λq=>h q.1)];unfold mv fo;dsimp only;rw[ags,ags,aje]
def acd(i:Bool)(a b:c8)(p:eG)(f o:List eM)(eu lb:List eg){x:aw}(h:¬x.e.ph=8):
  iy (fo i a b p f o eu lb) (!i) x=fo i a { x.e with bC:=[],got:=[] } x.p (f++x.e.bC.map (jx (!i))) (o++x.e.bC.map (jx (!i))) eu (lb++x.e.got):=by
 rw[<- Cf i a b,GZ (!i) b a p f o lb eu h,Cf]
def Xr(i:Bool){a a':c8}(b:c8){p:eG}(f o:List eM)(eu lb:List eg)(h:ij ⟨a,p⟩=⟨a',p⟩)(cx:¬a'.ph=8)(aK:a'.bC=[])(hg:a'.got=[]):
  nQ (fo i a b p f o eu lb) i=fo i a' b p f o eu lb:=by
 unfold nQ;rw[K?,h,GZ _ _ _ _ _ _ _ _ (x:=⟨a',p⟩) cx];have e:({ a' with bC:=[],got:=[] }:c8)=a':=by cases a';cases aK;cases hg;rfl
 dsimp only;rw[aK,hg,Yf,nU,nU,nU];rw[e]
def ai0(i:Bool)(a:c8){b b':c8}{p:eG}(f o:List eM)(eu lb:List eg)(h:ij ⟨b,p⟩=⟨b',p⟩)(cx:¬b'.ph=8)(aK:b'.bC=[])(hg:b'.got=[]):
  nQ (fo i a b p f o eu lb) (!i)=fo i a b' p f o eu lb:=by
 rw[<- Cf i a b,Xr (!i) a f o lb eu h cx aK hg,Cf]
def aAK(i:Bool){a a' b b':c8}{p:eG}(f o:List eM)(eu lb:List eg)(bh:ij ⟨a,p⟩=⟨a',p⟩)(aa:ij ⟨b,p⟩=⟨b',p⟩)(cx:¬a'.ph=8/\¬b'.ph=8)(aK:a'.bC=[]/\b'.bC=[])(hg:a'.got=[]/\b'.got=[]):
  nQ (nQ (fo i a b p f o eu lb) false) true=fo i a' b' p f o eu lb:=by
 cases i
 .rw[Xr false b f o eu lb bh cx.1 aK.1 hg.1]
  exact ai0 false a' f o eu lb aa cx.2 aK.2 hg.2
 rw[show nQ (fo true a b p f o eu lb) false=_ from ai0 true a f o eu lb aa cx.2 aK.2 hg.2];exact Xr true b' f o eu lb bh cx.1 aK.1 hg.1
def awk(i:Bool):lq (1-dg i)=!i:=by cases i<;>rfl
def aoB(i:Bool)(a b:c8)(p:eG)(o:List eM)(eu lb:List eg){y:aw}(aL:ne c b.hub)(ah:b.cJ=[0,0,0,0])(cx:¬b.ph=8)(O:1<=x.length)(R:x.length<=1024)(hy:lc ⟨b,p⟩ x=y)(G8:¬y.e.ph=8):
  mX 1 (fo i a b p [(1-dg i,(c:Int),fw x,())] o eu lb)=fo i a { y.e with bC:=[],got:=[] } y.p (y.e.bC.map (jx (!i))) (o++y.e.bC.map (jx (!i))) eu (lb++y.e.got):=by
 unfold mX;rw[if_neg (by intro h;cases h)];show(lB _ 0 0).1=_;unfold lB;rw[if_neg (by show ¬ ¬((0:Int)<=0/\(0:Int)<1);decide)];dsimp only;rw[if_neg (by intro h;exact absurd h.1 bO)];show iy (fo i a b p [] o eu lb) (lq (1-dg i)) (qb ((fo i a b p [] o eu lb).at (lq (1-dg i))) (c:Int) (fw x))=_;rw[awk,YV,akO (s:=⟨b,p⟩) aL ah cx O R,hy,acd _ _ _ _ _ _ _ _ G8];rfl
def ab6{k:V}{v:c9}(h:jM v.2.2.2.2.2.1):1<=(jo k v).length/\(jo k v).length<=1024:=by unfold jo;rw[dd,yK,BD];have O:=h.1;have R:=h.2;omega
def aAF(i:Bool)(key:V)(gB:Int)(aJ:1<gB)(h:ej)(p:eG):ij ⟨hw i key gB h,p⟩=⟨hw i key (gB-1) h,p⟩:=by
 have ht:kF (hw i key gB h).ask=((1,1,gB-1,3,ep iG,()),false,false):=by unfold kF;rw[ if_pos (show 1<(hw i key gB h).ask.2.2.1 from aJ)];rfl
 unfold ij;unfold oB;rw[ ht];rfl
def aiY(i:Bool)(key:V)(gB:Int)(aJ:1<gB)(h:ej)(p:eG):ij ⟨hO i key gB h,p⟩=⟨hO i key (gB-1) h,p⟩:=by
 have ai:zj ⟨hO i key gB h,p⟩=⟨hO i key gB h,p⟩:=rfl;have ht:kF (hO i key gB h).ask=((301,2,gB-1,3,ep iv,()),false,false):=by unfold kF;rw[ if_pos (show 1<(hO i key gB h).ask.2.2.1 from aJ)];rfl
 unfold ij;rw[if_neg (by rintro(q|q);exact absurd (show(3:Int)=7 from q) bO;exact absurd (show(3:Int)=8 from q) bO),if_pos ⟨by show(2:Int)<=3;decide,by show(3:Int)<=6;decide⟩,ai];unfold oB;rw[ ht];rfl
theorem aiZ(i:Bool)(key:V)(h:ej)(p:eG):ij ⟨gD i key h,p⟩=⟨gD i key h,p⟩:=rfl
def Xq(i:Bool)(key:V)(bS:Int)(h:ej)(p:eG):ij ⟨eN i key bS h,p⟩=⟨eN i key bS h,p⟩:=by unfold ij;rw[if_neg (by rintro(q|q);exact absurd (show(3:Int)=7 from q) bO;exact absurd (show(3:Int)=8 from q) bO),if_pos ⟨by show(2:Int)<=3;decide,by show(3:Int)<=6;decide⟩,if_neg (by show ¬(1:Int)=4611686018427387904;decide)];rfl
def hQ(c:Nat):ej:=(mb dY (c:Int)).1
def Ud(h:c<4):ne c (hQ c)/\(mb dY (c:Int)).2=0:=by
 match c,h with
 |0,_=>exact⟨⟨bO,rfl,rfl,bO⟩,rfl⟩
 |1,_=>exact⟨⟨bO,rfl,rfl,bO⟩,rfl⟩
 |2,_=>exact⟨⟨bO,rfl,rfl,bO⟩,rfl⟩
 |3,_=>exact⟨⟨bO,rfl,rfl,bO⟩,rfl⟩
def agz(i:Bool)(key:V)(h:c<4)(p:eG):(pO ⟨l0 i key,p⟩ (c:Int)).1=⟨gs i key (hQ c),p⟩:=by exact(congrArg Prod.fst (if_neg (not_not_intro (Ud h).2))).trans rfl
def avt(key:V)(fD i:Bool)(h:c<4):ho (kj key fD) (12,0,(c:Int),0,[],())=(fo i (gs i key (hQ c)) (gs (!i) key (hQ c)) (fD,[],false,()) [] [] [] [],0):=by
 have bw:kj key fD=fo false (l0 false key) (l0 true key) (fD,[],false,()) [] [] [] []:=by
  unfold kj fo two
  grind
 have aJ:¬mN dY (c:Int):=by have:∀c<4,¬ao [false,false,false,false] c false=true:=bO;exact this c h
 have ai:ho (kj key fD) (12,0,(c:Int),0,[],())=y' (kj key fD) (c:Int):=rfl;rw[ai];unfold y';rw[if_neg (by rintro(q|q)<;>exact absurd (show(0:Int)=8 from q) bO),if_neg (not_not_intro (⟨J,J⟩)),if_neg (by rintro(q|q)<;>exact aJ q)];refine YD ?_ rfl;have e1:o8 (kj key fD) false (c:Int)=fo false (gs false key (hQ c)) (l0 true key) (fD,[],false,()) [] [] [] []:=by rw[bw];unfold o8;rw[K?,agz false key h,GZ _ _ _ _ _ _ _ _ (by show ¬(0:Int)=8;decide)];rfl
 have aU:o8 (fo false (gs false key (hQ c)) (l0 true key) (fD,[],false,()) [] [] [] []) true (c:Int)=fo false (gs false key (hQ c)) (gs true key (hQ c)) (fD,[],false,()) [] [] [] []:=by unfold o8;rw[show(fo false (gs false key (hQ c)) (l0 true key) (fD,[],false,()) [] [] [] []).at true=⟨l0 true key,_⟩ from YV false _ _ _ _ _ _ _,agz true key h];exact(acd false _ _ _ _ _ _ _ (x:=⟨gs true key (hQ c),(fD,[],false,())⟩) (by show ¬(0:Int)=8;decide)).trans rfl
 rw[e1,aU];cases i
 .rfl
 exact(Cf false _ _ _ _ _ _ _).symm
def Oo{a b a':c8}{p:eG}{o:List eM}{eu lb:List eg}{y:aw}{b':c8}(aL:ne c b.hub)(ah:b.cJ=[0,0,0,0])(cx:¬b.ph=8)(hx:1<=x.length/\x.length<=1024)(hy:lc ⟨b,p⟩ x=y)(G8:¬y.e.ph=8)
  (bh:ij ⟨a,y.p⟩=⟨a',y.p⟩) (aa:ij ⟨{ y.e with bC:=[],got:=[] },y.p⟩=⟨b',y.p⟩) (kZ:¬a'.ph=8/\¬b'.ph=8) (aK:a'.bC=[]/\b'.bC=[]) (hg:a'.got=[]/\b'.got=[]) :
  jB (fo i a b p [(1-dg i,(c:Int),fw x,())] o eu lb)=fo i a' b' y.p (y.e.bC.map (jx (!i))) (o++y.e.bC.map (jx (!i))) eu (lb++y.e.got):=by
 unfold jB;rw[show(fo i a b p [(1-dg i,(c:Int),fw x,())] o eu lb).bc.length=1 from rfl,aoB i a b p o eu lb aL ah cx hx.1 hx.2 hy G8];exact aAK i _ _ _ _ bh aa kZ aK hg
def agZ{a b b':c8}{p:eG}{o:List eM}{eu lb:List eg}{y:aw}{a':c8}(aL:ne c a.hub)(ah:a.cJ=[0,0,0,0])(cx:¬a.ph=8)(hx:1<=x.length/\x.length<=1024)(hy:lc ⟨a,p⟩ x=y)(G8:¬y.e.ph=8)
  (aa:ij ⟨b,y.p⟩=⟨b',y.p⟩) (bh:ij ⟨{ y.e with bC:=[],got:=[] },y.p⟩=⟨a',y.p⟩) (kZ:¬a'.ph=8/\¬b'.ph=8) (aK:a'.bC=[]/\b'.bC=[]) (hg:a'.got=[]/\b'.got=[]) :
  jB (fo i a b p [(1-dg (!i),(c:Int),fw x,())] o eu lb)=fo i a' b' y.p (y.e.bC.map (jx i)) (o++y.e.bC.map (jx i)) (eu++y.e.got) lb:=by
 rw[<- Cf,Oo (i:=!i) aL ah cx hx hy G8 aa bh kZ.symm aK.symm hg.symm,Cf,Bool.not_not]
def IY(key:V)(fD i:Bool):eG:=hX (hX (hX (hX (fD,[],false,()) (hu key) (cA (sZ i key))) (hu key) (cA (vW (!i) key))) (ib key) (cA (xB i key))) (ib key) (cA (xA (!i) key))
def ww(i:Bool)(c:Nat)(k:V)(v:c9):eM:=(1-dg i,(c:Int),fw (jo k v),())
def IH(key:V)(i:Bool)(c:Nat):List eM:=[ww i c (hu key) (sZ i key),ww (!i) c (hu key) (vW (!i) key),ww i c (ib key) (xB i key),ww (!i) c (ib key) (xA (!i) key)]
def wU(c:Nat):ej:=(ez (ez (hQ c)).1).1
def adS(h:c<4):ne c (wU c):=(I6 (I6 (Ud h).1).2.2).2.2
def avu(key:V)(fD i:Bool)(h:c<4):
  t? (kj key fD) [(12,0,(c:Int),0,[],()),(1,dg i,0,0,[],()),(17,0,4,0,[],())]=(fo i (eN i key 2 (wU c)) (eN (!i) key 0 (wU c)) (IY key fD i) [] (IH key i c) j9 j9,[0,0,0]):=by
 have aL:=(Ud h).1;have O:=(I6 aL).2.2;have R:=(I6 O).2.2

 have ay:∀p,ho (fo i (gs i key (hQ c)) (gs (!i) key (hQ c)) p [] [] [] []) (1,dg i,0,0,[],())=(fo i (hw i key 8 (ez (hQ c)).1) (gs (!i) key (hQ c)) (hX p (hu key) (cA (sZ i key))) [(1-dg i,(c:Int),fw (jo (hu key) (sZ i key)),())] [(1-dg i,(c:Int),fw (jo (hu key) (sZ i key)),())] [] [],0):=by
  intro p;have ea:ho (fo i (gs i key (hQ c)) (gs (!i) key (hQ c)) p [] [] [] []) (1,dg i,0,0,[],())=r3 (fo i (gs i key (hQ c)) (gs (!i) key (hQ c)) p [] [] [] []) (1,dg i,0,0,[],()):=rfl;rw[ea];unfold r3;rw[if_neg (by cases i<;>decide)];have bf:lq (dg i)=i:=by cases i<;>rfl
  dsimp only;rw[bf,K?];have ed:mr ⟨gs i key (hQ c),p⟩ (1,dg i,0,0,[],())=nJ ⟨gs i key (hQ c),p⟩:=rfl;rw[ed,awV i key aL p,GZ _ _ _ _ _ _ _ _ (by show ¬(1:Int)=8;decide)];rfl
 have cY:=λ(v:c9) (k:V) (aB:jM v.2.2.2.2.2.1)=>ab6 (k:=k) aB;show((oO 4 (ho (ho (kj key fD) (12,0,(c:Int),0,[],())).1 (1,dg i,0,0,[],())).1),[(ho (kj key fD) (12,0,(c:Int),0,[],())).2,(ho (ho (kj key fD) (12,0,(c:Int),0,[],())).1 (1,dg i,0,0,[],())).2,0])=_;rw[avt key fD i h,ay];refine YD ?_ rfl;show jB (jB (jB (jB _)))=_;rw[Oo (y:=_) (a':=hw i key 7 (ez (hQ c)).1) (b':=gD (!i) key (ez (hQ c)).1) aL rfl (by show ¬(0:Int)=8;decide) (cY _ _ (qg y9)) (ar3 i key aL (JZ _ _ _)) (by show ¬(2:Int)=8;decide) (aAF i key 8 bO _ _) (aiZ (!i) key _ _) ⟨by show ¬(1:Int)=8;decide,by show ¬(2:Int)=8;decide⟩ ⟨rfl,rfl⟩ ⟨rfl,rfl⟩];show jB (jB (jB (fo i (hw i key 7 (ez (hQ c)).1) (gD (!i) key (ez (hQ c)).1) _ [(1-dg (!i),(c:Int),fw (jo (hu key) (vW (!i) key)),())] _ [] [])))=_;rw[agZ (y:=_) (a':=hO i key 7 (ez (ez (hQ c)).1).1) (b':=gD (!i) key (ez (hQ c)).1) O rfl (by show ¬(1:Int)=8;decide) (cY _ _ (qg K2)) (ar0 i key 7 O (JZ _ _ _)) (by show ¬(3:Int)=8;decide) (aiZ (!i) key _ _) (aiY i key 8 bO _ _) ⟨by show ¬(3:Int)=8;decide,by show ¬(2:Int)=8;decide⟩ ⟨rfl,rfl⟩ ⟨rfl,rfl⟩];show jB (jB (fo i (hO i key 7 (ez (ez (hQ c)).1).1) (gD (!i) key (ez (hQ c)).1) _ [(1-dg i,(c:Int),fw (jo (ib key) (xB i key)),())] _ j9 []))=_;rw[Oo (y:=_) (a':=hO i key 6 (ez (ez (hQ c)).1).1) (b':=eN (!i) key 0 (ez (ez (hQ c)).1).1) O rfl (by show ¬(2:Int)=8;decide) (cY _ _ (qg yf)) (ar2 i key O (JZ _ _ _)) (by show ¬(3:Int)=8;decide) (aiY i key 7 bO _ _) (Xq (!i) key 0 _ _) ⟨by show ¬(3:Int)=8;decide,by show ¬(3:Int)=8;decide⟩ ⟨rfl,rfl⟩ ⟨rfl,rfl⟩];show jB (fo i (hO i key 6 (ez (ez (hQ c)).1).1) (eN (!i) key 0 (ez (ez (hQ c)).1).1) _ [(1-dg (!i),(c:Int),fw (jo (ib key) (xA (!i) key)),())] _ j9 j9)=_;rw[agZ (y:=_) (a':=eN i key 2 (ez (ez (hQ c)).1).1) (b':=eN (!i) key 0 (ez (ez (hQ c)).1).1) R rfl (by show ¬(3:Int)=8;decide) (cY _ _ (qg La)) (ar1 i key 6 (JZ _ _ _)) (by show ¬(3:Int)=8;decide) (Xq (!i) key 0 _ _) (Xq i key 2 _ _) ⟨by show ¬(3:Int)=8;decide,by show ¬(3:Int)=8;decide⟩ ⟨rfl,rfl⟩ ⟨rfl,rfl⟩];rfl
end Yp