/- A part of the proof of the statements of this seat: plain functions, and laws on them. No condition of its own. -/
import Derived.Test.YtohehkjofhaneaaGreatDoorQ0
import Derived.RangeFuncNested
import Derived.RangeFuncBox
import Derived.RangeFuncLeaves
import Derived.Shelf.Abstract
import Derived.WalkKit
import Derived.OwnWalkIn
import Derived.TacticsInMore
import Derived.LoopNIn
import Derived.LoopIn
import Derived.Maps.AppendAt
import Derived.Test.YtohehkjofhaneaaGreatDoorProg
import Derived.Conc.LoneCalls
import Derived.KernelRfl
import Derived.Laws.Rows
import Derived.Conc.LoneSelectN
import Derived.Conc.Own5
set_option linter.unusedVariables false
set_option linter.unusedSimpArgs false
set_option linter.defProp false
noncomputable section
open Go Yp
variable {a e k last no:Int}{l:List Int}{A c cap i m n r s w x:Nat}{α:Type}
namespace Yp
open Go
def B8:=@List.take_append_of_le_length
def awI:cg (bM 16 (u8 0)) 0 (u8 128)=gP 16 (λm=>Nat.beq m 1):=kK
def aib(hl:l.length<=1000000):T (D (0<(l.length:Int))) (ak (D (0<=(l.length:Int)-1/\(l.length:Int)-1<(l.length:Int))) (some (D (64<an l ((l.length:Int)-1).toNat 0),()))) (some (false,()))=some (lF l,()):=by
 have a_:((l.length:Int)-1).toNat=l.length-1:=J;by_cases aq:0<l.length
 .have e:lF l=decide (64<an l (l.length-1) 0):=by unfold lF;rw[decide_eq_true aq,Pa]
  simp(disch:=omega) only[go_sem,a_,e]
 have e:lF l=false:=by unfold lF;rw[decide_eq_false aq,PC]
 simp(disch:=omega) only[go_sem,e]
def aj3(l:List Int)(hl:l.length<=1000000):Kk (l,())=some (if ho 1 l=true then(fx l,0,()) else([],1,())):=by
 unfold Kk;generalize hf:(λ(V:Int×aa×Unit)=>_)=f;have qS:=aib hl;cases aj:ho 1 l
 .simp(disch:=omega) only[go_sem,P?,aj]
 have hm:=wQ aj;have step:∀(size:Nat),(∀n∈l,n<=8*(size:Int))->∀S0:Nat->Bool,bC f (0,gP size S0,())=some (.ex 0 ((l.length:Int),gP size (λm=>S0 m||mn l m),())):=by
  intro size bV S0;refine X3 (λS i h _ => ?_) (λn am=>by have:=hm n am;omega) (λx => ?_)
  .subst hf
   have hx:=hm l[i] (lI h);have np:=bV l[i] (lI h);obtain⟨N,fV⟩:∃N:Nat,l[i]=N:=⟨l[i].toNat,J⟩;have oG:=XY (n:=N) J J;have Tj:(gP size S).length=size:=A_;have k8:=agK (size:=size) (S:=S) (n:=N) J J (auF (an (gP size S) ((N-1)/8) (u8 0)) ((N-1)%8) J);have v':((N-1)/8)<(gP size S).length:=J;rw[nth_get v']at k8;simp(disch:=omega) only[go_sem,fV,oG,Tj,k8]
  subst hf;simp(disch:=omega) only[go_sem]
 by_cases bu:lF l=true
 .have:=step 16 (λn am=>by have:=hm n am;omega) (λm=>Nat.beq m 1)
  rw[<- awI]at this;have e:gP 16 (λm=>Nat.beq m 1||mn l m)=fx l:=by
   unfold fx;rw[if_pos bu];refine afL λn _ _ => ?_;unfold mn;refine m7.2 ?_;simp
   grind
  rw[e]at this;simp(disch:=first|assumption|omega|(dsimp only;omega)|decide) only[go_sem,Int.reduceToNat,P?,aj,qS,bu,this]
 have:=step 8 (λn am=>by have:=HS aj bu n am;omega) (λm=>false);rw[<- afw]at this;have Ac:lF l=false:=(zi _).mp bu;have e:gP 8 (λm=>false||mn l m)=fx l:=by unfold fx;rw[if_neg bu];rfl
 rw[e]at this;simp(disch:=omega) only[go_sem,Int.reduceToNat,P?,aj,qS,Ac,this]
def av4(l:List Int)(hl:l.length<=1000000):Nc (l,())=some (if ho 1 l=true then(fx l,0,()) else([],1,())):=by
 unfold Nc;have qS:=aib hl;generalize hf:(λ(V:Int×aa×Unit)=>_)=f;generalize hg:(λ(V:Int×aa×Unit)=>(T (aF V.1 (len (cm (aP Int) (l,()).1))) _ _:Option (aE (Int×aa×Unit) (aa×Int×Unit))))=g;cases aj:ho 1 l
 .simp(disch:=omega) only[go_sem,Vj,aj]
 have hm:=wQ aj;have h6:∀(last:Int) (l:List Int),ho last l=true->∀i (h:i<l.length),¬l[i]∈l.take i:=by
  intro last l;induction l generalizing last with
  |nil=>intro _ i h;simp at h
  |cons x r ih=>
   intro h i ac;have aj:=(by simpa only[ho,cM,decide_eq_true_eq]using h:_);cases i with
   |zero=>simp
   |succ i=>
    simp;have eH:i<r.length:=by simpa using ac
    have:=(wQ aj.2 r[i] (lI eH)).1
    grind
 have step:∀(L:List Int) (size:Nat) (f:Int×aa×Unit->Option (aE (Int×aa×Unit) (aa×Int×Unit))),(λ(V:Int×aa×Unit)=>
  T (aF V.1 (len L)) (ak (aK V.1 (len L)) (ob (D8 (an L (ab V.1) 0,())) λ(a:Int×UInt8×Unit)=>ak (aK a.1 (len V.2.1)) (ak (aK a.1 (len V.2.1))
   (some (aE.nx (i64 (aC V.1 1),cg V.2.1 (ab a.1) (u8 (aC (aN (an V.2.1 (ab a.1) (u8 0))) (aN a.2.1))),())))))) (some (aE.ex 0 (V.1,V.2.1,()))))=f->L.length<=1000001->(∀n∈L,1<=n/\n<=128/\n<=8*(size:Int)) ->
  (∀i (h:i<L.length),¬L[i]∈L.take i)->bC f (0,bM size (u8 0),())=some (.ex 0 ((L.length:Int),gP size (mn L),())):=by
  intro L size f hf hl bV h6;have:=X3 (f:=f) (l:=L) (size:=size) (S0:=λ_=>false) (λS i h kk => ?_) (λn am=>(bV n am).1) (λx => ?_)
  .simp at this
   rw[<- afw]at this;exact this
  .subst hf
   have hx:=bV L[i] (lI h);obtain⟨N,fV⟩:∃N:Nat,L[i]=N:=⟨L[i].toNat,J⟩;have oG:=av3 (n:=N) J J;have Tj:(gP size S).length=size:=A_;have aqC:bt (an (gP size S) ((N-1)/8) (u8 0)) ((N-1)%8)=false:=by have O:iw (gP size S) N=S N:=Gu J J;unfold iw at O;rw[O,kk,Bool.false_or];unfold mn;rw[<- fV];exact decide_eq_false (h6 i h)
   have k8:=agK (size:=size) (S:=S) (n:=N) J J (ai8 (an (gP size S) ((N-1)/8) (u8 0)) ((N-1)%8) J aqC);have v':((N-1)/8)<(gP size S).length:=J;rw[nth_get v']at k8;simp only[aC]at k8;simp(disch:=omega) only[go_sem,fV,oG,Tj,k8]
  subst hf;simp(disch:=omega) only[go_sem]
 by_cases bu:lF l=true
 .have:=step (l++[1]) 16 _ rfl fS (λn am=>by
   rcases iQ.1 am with am|am
   .have:=hm n am;omega
   .simp at am;subst am;omega) (λi h=>by
   rcases J7 i l.length with ac|ac
   .rw[List.getElem_append_left ac,B8 J];exact h6 1 l aj i ac
   have:i=l.length:=by simp at h;omega
   subst this;rw[List.getElem_append_right J,zd];simp;intro ah;have:=hm 1 ah;omega)
  have e:gP 16 (mn (l++[1]))=fx l:=by unfold fx;rw[if_pos bu];refine afL λn _ _ => ?_;unfold mn;exact m7.2 (by simp[or_comm])
  rw[e]at this;have this:bC f (0,bM 16 (u8 0),())=some (.ex 0 (((l++[1]).length:Int),fx l,())):=by rw[<- hf];exact this
  simp(disch:=omega) only[go_sem,Int.reduceToNat,Vj,aj,qS,bu,fQ,this]
 have:=step l 8 _ rfl J (λn am=>by have:=HS aj bu n am;have:=hm n am;omega) (h6 1 l aj);have Ac:lF l=false:=(zi _).mp bu;have e:gP 8 (mn l)=fx l:=by unfold fx;rw[if_neg bu]
 rw[e]at this;have this:bC g (0,bM 8 (u8 0),())=some (.ex 0 ((l.length:Int),fx l,())):=by rw[<- hg];exact this
 simp(disch:=first|assumption|omega|(dsimp only;omega)|decide) only[go_sem,Int.reduceToNat,Vj,aj,qS,Ac,this]
def abL{c:aa}{k:Nat}(O:1<=n)(R:n<=8*k)(ai:k<=c.length):iw (c.take k) n=iw c n:=by unfold iw;rw[nth_get (by grind),nth_get J,List.getElem_take]
def aoi{l:Int}(h:e7 no=some (k,l)):2<=no/\no<=128/\no≠65:=by
 unfold e7 at h;rw[l8]at h;have:∀r∈sR,∀c∈r.drop 2,2<=c/\c<=128/\c≠65:=kK
 grind
def vU{v:aa}:fT no v=true↔∃k l,e7 no=some (k,l)/\gZ k l v:=by
 unfold fT
 grind
def RN{v:aa}(h:fT no v=true):2<=no/\no<=128/\no≠65:=by obtain⟨k,l,O,_⟩:=vU.1 h;exact aoi O
def r'{l:List bT}:∀{last:Int},fZ last l=true->∀v∈l,last<v.1/\fT v.1 v.2.1=true:=by
 induction l with
 |nil=>intro _ _ v aD;cases aD
 |cons x r ih=>
  intro last h v aD;simp only[fZ,cM,decide_eq_true_eq]at h
  grind
def hz(l:List bT):List Int:=l.map λv=>v.1
def awk{l:List bT}:∀{last:Int},1<=last->fZ last l=true->ho last (hz l)=true:=by
 induction l with
 |nil=>intros;rfl
 |cons x r ih =>intro last hl h;simp only[fZ,cM,decide_eq_true_eq]at h;have am:=RN h.2.1;simp only[hz,qz,ho,cM,decide_eq_true_eq];exact⟨⟨h.1,am.2⟩,ih J h.2.2⟩
def Nv{l:List bT}(h:fZ 0 l=true):ho 1 (hz l)=true:=by
 cases l with
 |nil=>rfl
 |cons x r =>simp only[fZ,cM,decide_eq_true_eq]at h;have am:=RN h.2.1;simp only[hz,qz,ho,cM,decide_eq_true_eq];exact⟨⟨J,am.2⟩,awk J h.2.2⟩
def gr(v:bT):aa:=(qp v.1 v.2.1).1
def Jt{v:aa}(h:fT no v=true):qp no v=((qp no v).1,0,())/\(qp no v).1.length<=402/\1<=(qp no v).1.length:=by
 obtain⟨k,l,O,R⟩:=vU.1 h;have e:qp no v=(kA k v,0,()):=by unfold qp;rw[O];simp only[if_pos R]
 have hl:=R0 O R;rw[e];exact⟨rfl,ay1 (rF O).1 hl.2.2,ay2 (rF O).1 hl.1⟩
def sg(m:Int):aa:=gC (eK (a5 10 gi m.toNat 4))
def yX{m:Int}:(sg m).length=2:=by unfold sg;rw[ry,l1]
def f7(m:M):aa:=sg m.1++(fx (hz m.2.1)++m.2.1.flatMap gr)
def o'(l:List Int):(fx l).length=if lF l=true then 16 else 8:=by unfold fx;split<;>exact A_
def aod(l:List bT):∀c?:List Int,l.foldl (λc? v=>c? ++ [v.1]) c?=c? ++ hz l:=by
 induction l with
 |nil=>intro c?;simp[hz]
 |cons v r ih=>intro c?;rw[ze,ih];simp[hz]
def aoe(l:List bT):∀c?:aa,l.foldl (λc? v=>c? ++ gr v) c?=c? ++ l.flatMap gr:=by
 induction l with
 |nil=>intro c?;simp
 |cons v r ih=>intro c?;rw[ze,ih];simp
def WB{m:Int}(h:hD m):uc (m,4,())=some (a5 10 gi m.toNat 4,0,())/\ub (a5 10 gi m.toNat 4,())=some (sg m,0,())/\yC (m,4,())=some (a5 10 gi m.toNat 4,0,())/\u5 (a5 10 gi m.toNat 4,())=some (sg m,0,()):=by
 unfold hD at h;have e:(10:Int)^(4:Int).toNat=10000:=bN;refine⟨?_,?_,?_,?_⟩
 .rw[KR _ _ J,if_pos ⟨J,J,J,by rw[e];omega⟩];rfl
 .rw[Rn _ (by rw[l1];omega),if_pos zJ];rfl
 .rw[Vh _ _ J,if_pos ⟨J,J,J,by rw[e];omega⟩];rfl
 rw[Vg _ (by rw[l1];omega),if_pos zJ];rfl
def TJ(m:M)(hm:uh m):Ao (m,())=some (if h_ m=true then(f7 m,0,()) else([],1,())):=by
 unfold Ao;generalize hf:(λ(V:List Int×Int×Unit)=>_)=f;generalize hg:(λ(V:aa×Int×Unit)=>(_:Option (aE (aa×Int×Unit) (aa×Int×Unit))))=g;have jw:=asH m hm;have hl:=hm.1;cases aj:h_ m
 .simp only[go_sem,jw,aj]
 have fI:=aj;simp only[h_,cM,decide_eq_true_eq]at fI;obtain⟨d1,d2, -, -⟩:=WB fI.2;have key:=rW (f:=f) (ρ:=aa×Int×Unit) m.2.1 (λ(c?:List Int) i=>(c?,(i:Int),())) 0 (λc? v=>.nx (c? ++ [v.1])) (λc? i=>c?.length=i) (λb i h dZ=>⟨?_,λb' Y => ?_⟩) (λb _ => ?_) [] rfl
 .rw[Lj (g:=λ(c?:List Int) (v:bT)=>c? ++ [v.1]) (λ_ _=>rfl),aod]at key
  have Gz:=aj3 (hz m.2.1) (by simp[hz];omega);rw[if_pos (Nv fI.1)]at Gz;have s3:=yX (m:=m.1);have dM:(fx (hz m.2.1)).length<=16:=by rw[o'];split<;>omega
  have rU:=rW (f:=g) (ρ:=aa×Int×Unit) m.2.1 (λ(c?:aa) i=>(c?,(i:Int),())) 2 (λc? v=>.nx (c? ++ gr v)) (λc? i=>c?.length<=100+402*i) (λb i h dZ=>⟨?_,λb' Y => ?_⟩) (λb _ => ?_) (sg m.1++fx (hz m.2.1)) (by rw[db];omega)
  .rw[Lj (g:=λ(c?:aa) (v:bT)=>c? ++ gr v) (λ_ _=>rfl),aoe,h0]at rU
   replace key:bC f ([],0,())=_:=key;replace rU:bC g (sg m.1++fx (hz m.2.1),0,())=_:=rU;simp(disch:=omega) only[go_sem,jw,aj,d1,d2,key,Gz,rU];rfl
  .subst hg
   have hi:=r' fI.1 m.2.1[i] (lI h);have bu:=Jt hi.2;have S2:=hm.an h;have qS:=anT m.2.1[i].1 m.2.1[i].2.1 S2;rw[bu.1]at qS;have Tu:(gr m.2.1[i]).length<=402:=bu.2.1;change F9 _=some (gr m.2.1[i],0,()) at qS;simp(disch:=omega) only[go_sem,qS,kp]
  .cases Y
   have hi:=r' fI.1 m.2.1[i] (lI h);have Tu:(gr m.2.1[i]).length<=402:=(Jt hi.2).2.1
   grind
  subst hg;simp(disch:=omega) only[go_sem]
 .subst hf;simp(disch:=omega) only[go_sem,fQ,kp]
 .grind
 subst hf;simp(disch:=omega) only[go_sem]
def av8{m:Int}(h:hD m):Ng (m,())=some (a5 10 gi m.toNat 4,()):=by unfold Ng;obtain⟨-, -,d1, -⟩:=WB h;simp only[go_sem,d1]
def av7(m:M)(hm:uh m):D9 (m,())=some (if h_ m=true then(f7 m,0,()) else([],1,())):=by
 unfold D9;generalize hf:(λ(V:List Int×aa×Int×Unit)=>_)=f;have jw:=av5 m hm;have hl:=hm.1;cases aj:h_ m
 .simp only[go_sem,jw,aj]
 have fI:=aj;simp only[h_,cM,decide_eq_true_eq]at fI;obtain⟨-, -,d1,d2⟩:=WB fI.2;have key:=rW (f:=f) (ρ:=aa×Int×Unit) m.2.1 (λ(c?:List Int×aa) i=>(c?.1,c?.2,(i:Int),())) 0 (λc? v=>.nx (c?.1++[v.1],c?.2++gr v)) (λc? i=>c?.1.length=i/\c?.2.length<=402*i) (λb i h dZ=>⟨?_,λb' Y => ?_⟩) (λb _ => ?_) ([],[]) ⟨rfl,bf⟩
 .rw[Lj (g:=λ(c?:List Int×aa) (v:bT)=>(c?.1++[v.1],c?.2++gr v)) (λ_ _=>rfl)]at key
  have SR:∀(l:List bT) (a:List Int) (b:aa),l.foldl (λ(c?:List Int×aa) v=>(c?.1++[v.1],c?.2++gr v)) (a,b)=(a++hz l,b++l.flatMap gr):=by
   intro l;induction l with
   |nil=>intro a b;simp[hz]
   |cons v r ih=>intro a b;rw[ze,ih];simp[hz]
  rw[SR]at key;have Gz:=av4 (hz m.2.1) (by simp[hz];omega);rw[if_pos (Nv fI.1)]at Gz;have s3:=yX (m:=m.1);have dM:(fx (hz m.2.1)).length<=16:=by rw[o'];split<;>omega
  have n0:(m.2.1.flatMap gr).length<=402*m.2.1.length:=by
   have:∀l:List bT,(∀v∈l,fT v.1 v.2.1=true)->(l.flatMap gr).length<=402*l.length:=by
    intro l;induction l with
    |nil=>simp
    |cons v r ih=>
     intro h;have O:(gr v).length<=402:=(Jt (h v bf)).2.1
     grind
   exact this _ λv aD=>(r' fI.1 v aD).2
  have au:=av8 fI.2;replace key:bC f ([],[],0,())=_:=key;simp(disch:=omega) only[go_sem,jw,aj,au,d2,key,Gz,db];rw[h0];rfl
 .subst hf
  have hi:=r' fI.1 m.2.1[i] (lI h);have bu:=Jt hi.2;have S2:=hm.an h;have qS:=av1 m.2.1[i].1 m.2.1[i].2.1 S2;rw[bu.1]at qS;have Tu:(gr m.2.1[i]).length<=402:=bu.2.1;change Ik _=some (gr m.2.1[i],0,()) at qS;simp(disch:=omega) only[go_sem,qS,kp,fQ]
 .cases Y
  have hi:=r' fI.1 m.2.1[i] (lI h);have Tu:(gr m.2.1[i]).length<=402:=(Jt hi.2).2.1;refine⟨by rw[db,dZ.1];rfl,?_⟩;rw[db];omega
 subst hf;simp(disch:=omega) only[go_sem]
def mo:M:=(0,[],())
def qd(b:aa):List Int->Int->List bT->Option Int×Int×List bT
 |[],df,F=>(none,df,F)
 |n::r,df,F=>if(jT n b df).2.2.1=0 then qd b r (jT n b df).2.1 (F++[(n,(jT n b df).1,())]) else(some (jT n b df).2.2.1,df,F)
def A2(b:aa)(s:Int×List bT)(n:Int):aE (Int×List bT) (M×Int×Unit):=if(jT n b s.1).2.2.1=0 then .nx ((jT n b s.1).2.1,s.2++[(n,(jT n b s.1).1,())]) else .rt (mo,(jT n b s.1).2.2.1,())
def aaQ{σ:Type}{mk:Int×List bT->Nat->σ}{e:Nat}{b:aa}:∀(l:List Int) (s:Int×List bT) (i:Nat),jO mk e (A2 b) s i l=match qd b l s.1 s.2 with|(none,a,F)=>.ex e (mk (a,F) (i+l.length))|(some q,_,_)=>.rt (mo,q,())
 |[],s,i=>rfl
 |n::r,s,i=>by
  unfold qd;by_cases h:(jT n b s.1).2.2.1=0
  .have ae:A2 b s n=.nx ((jT n b s.1).2.1,s.2++[(n,(jT n b s.1).1,())]):=if_pos h
   simp only[jO,ae,if_pos h];rw[aaQ r _ (i+1)]
   grind
  have ae:A2 b s n=.rt (mo,(jT n b s.1).2.2.1,()):=if_neg h;simp only[jO,ae,if_neg h]
def DM(_:Unit)(n:Int):aE Unit (M×Int×Unit):=if(e7 n).isSome=true then .nx () else .rt (mo,2,())
def aaP{σ:Type}{mk:Unit->Nat->σ}{e:Nat}:∀(l:List Int) (i:Nat),jO mk e DM () i l=if ∀n∈l,(e7 n).isSome=true then .ex e (mk () (i+l.length)) else .rt (mo,2,())
 |[],i=>by simp[jO]
 |n::r,i=>by
  by_cases h:(e7 n).isSome=true
  .have ae:DM () n=.nx ():=if_pos h
   simp only[jO,ae,hc,forall_eq_or_imp,h,true_and];rw[aaP r (i+1)]
   grind
  have ae:DM () n=.rt (mo,2,()):=if_neg h;simp only[jO,ae]
  grind
def D6(b:aa)(m:Int)(l:List Int)(df:Int):M×Int×Unit:=
 if ∀n∈l,(e7 n).isSome=true then(match qd b l df []with|(none,a,F)=>if a<(b.length:Int) then(mo,4,()) else((m,F,()),0,())|(some q,_,_)=>(mo,q,())) else(mo,2,())
def e9(b:aa):M×Int×Unit:=
 if(jp b 0 4).2.2.1≠0 then(mo,(jp b 0 4).2.2.1,()) else if hD (val (jp b 0 4).1:Int) then
  (if(lN b 2).2.2.1≠0 then(mo,(lN b 2).2.2.1,()) else D6 b (val (jp b 0 4).1:Int) (lN b 2).1 (lN b 2).2.1) else(mo,2,())
def ad3{c:aa}:(io c).length<=8*c.length+1:=by
 have:=sr (λn=>Nat.ble 2 n&&iw c n) (List.range (8*c.length+1))
 rwa [ru]at this
def aka{b:aa}:(lN b a).1.length<=129:=by
 unfold lN;split
 .simp
 unfold pM;split
 .simp
 split
 .split
  .simp
  have:=ad3 (c:=(b.drop a.toNat).take 16)
  grind
 have:=ad3 (c:=(b.drop a.toNat).take 8)
 grind
def aaW{o:Option (Int×Int)}:(iv o).2.1=o.isSome:=by cases o<;>rfl
def avP{Xo:Int×Unit->Option ((Int×Int×Unit)×Bool×Unit)}(abD:∀n,Xo (n,())=some (iv (e7 n))){Xp:Int×aa×Int×Unit->Option (aa×Int×Int×Unit)}{b:aa}(abF:∀n a,Xp (n,b,a,())=some (jT n b a))
  {l:List Int} (hl:l.length<=129) {df DD:Int} {e1:Int} {f:Int×Int×Unit->Option (aE (Int×Int×Unit) (M×Int×Unit))} {g:Int×Int×Int×M×Unit->Option (aE (Int×Int×Int×M×Unit) (M×Int×Unit))}
  (hf:∀x (i:Nat),f (x,(i:Int),())=T (aF (i:Int) (len l)) (ak (aK (i:Int) (len l)) (ob (Xo (an l (ab (i:Int)) 0,())) λa=>T (aZ a.2.1) (some (.rt (mo,2,()))) (some (.nx (x,i64 (aC (i:Int) 1),()))))) (some (.ex 0 (x,(i:Int),()))))
  (hg:∀x a (i:Nat) (F:List bT),g (x,a,(i:Int),(DD,F,()),())=T (aF (i:Int) (len l)) (ak (aK (i:Int) (len l)) (ob (Xp (an l (ab (i:Int)) 0,b,a,())) λq=>T (aZ (af q.2.2.1 0)) (some (.rt (mo,q.2.2.1,())))
   (ak (cj 56 (bF (aV F) 1)) (some (.nx (x,q.2.1,i64 (aC (i:Int) 1),(DD,cm F [(an l (ab (i:Int)) 0,q.1,())],()),())))))) (some (.ex 2 (x,a,(i:Int),(DD,F,()),())))) (ri:Int) :
  b_ (bC f (ri,0,())) (λ_=>none) (λi a=>ak (bP i 0) (b_ (bC g (a.1,df,0,(DD,[],()),())) (λ_=>none) (λi a=>ak (bP i 2) (T (aF a.2.1 (len b)) (some (mo,4,())) (some ((a.2.2.2.1.1,a.2.2.2.1.2.1,a.2.2.2.1.2.2),0,())))) λr=>some r)) (λr=>some r)=some (D6 b DD l df):=by
 have key:=rW (f:=f) l (λ(_:Unit) i=>(ri,(i:Int),())) 0 DM (λ_ _=>True) (λ_ i h _=>⟨?_,λ_ _=>trivial⟩) (λ_ _ => ?_) () trivial
 .refine(cO key).trans ?_
  rw[aaP];unfold D6;by_cases aO:∀n∈l,(e7 n).isSome=true
  .rw[if_pos aO,if_pos aO]
   have rU:=rW (f:=g) l (λ(s:Int×List bT) i=>(ri,s.1,(i:Int),(DD,s.2,()),())) 2 (A2 b) (λs i=>s.2.length<=i) (λs i h dZ=>⟨?_,λcv ae => ?_⟩) (λs _ => ?_) (df,[]) (bX _)
   .refine(cO rU).trans ?_
    rw[aaQ];rcases qd b l df []with⟨_|q,a,F⟩
    .refine lc_ex'.trans (a6 g62 ?_)
     by_cases bc:a<(b.length:Int)
     .simp only[if_pos bc];simp(disch:=omega) only[go_sem]
     simp only[if_neg bc];simp(disch:=omega) only[go_sem]
    rfl
   .rw[hg]
    by_cases aq:(jT l[i] b s.1).2.2.1=0
    .have e4:A2 b s l[i]=.nx ((jT l[i] b s.1).2.1,s.2++[(l[i],(jT l[i] b s.1).1,())]):=if_pos aq
     simp(disch:=omega) only[go_sem,abF,aq,e4,kp]
    have e4:A2 b s l[i]=.rt (mo,(jT l[i] b s.1).2.2.1,()):=if_neg aq;simp(disch:=omega) only[go_sem,abF,aq,e4,kp]
   .unfold A2 at ae
    grind
   rw[hg];simp(disch:=omega) only[go_sem]
  rw[if_neg aO,if_neg aO];rfl
 .rw[hf]
  cases aq:(e7 l[i]).isSome
  .have e4:DM () l[i]=.rt (mo,2,()):=if_neg (by rw[aq];simp)
   simp(disch:=omega) only[go_sem,abD,aaW,aq,e4,kp]
  have e4:DM () l[i]=.nx ():=if_pos aq;simp(disch:=omega) only[go_sem,abD,aaW,aq,e4,kp]
 rw[hf];simp(disch:=omega) only[go_sem]
def TI(b:aa)(hl:b.length<=1000000):Dk (b,())=some (e9 b):=by
 refine aL (Rp b 0 4 hl) ?_;unfold e9;rcases Bp (b:=b) (I:=0) (N:=4) (eS _) J with⟨_,h⟩|⟨_,h,_⟩|⟨s,au,h,hf,ae,_⟩
 .replace h:jp b 0 4=([],0,3,()):=h
  rw[h];rfl
 .replace h:jp b 0 4=([],0,2,()):=h
  rw[h];rfl
 replace h:jp b 0 4=(s,2,0,()):=h;rw[h];refine aL (Rq s) ?_;rw[if_pos ⟨J,J,hf⟩,if_neg bf];refine aL (An _) ?_;by_cases ht:hD (val s:Int)
 .refine a0 (by rw[cC ht];rfl) ?_
  rw[if_pos ht];by_cases aq:(lN b 2).2.2.1=0
  .refine a0 (by rw[cL aq];rfl) ?_
   rw[if_neg J];exact avP (e1:=0) F8 (b:=b) (λn a=>anS n b a hl) aka (λ_ _=>rfl) (λ_ _ _ _=>rfl) 0
  refine a? (by rw[cx aq];rfl) ?_;rw[if_pos aq];rfl
 refine a? (by rw[cG ht];rfl) ?_;rw[if_neg ht];rfl
def Xu:=@Nat.mul_le_mul
def ZF{α:Type}(c:Nat)(z:α)(x:List (List α)×Unit):Option (List α×Unit):=
 b_ (bC (λ(V:Int×Int×Unit)=>T (aF V.2.1 (len x.1)) (ak (aK V.2.1 (len x.1)) (T (aF (i64 (aC V.1 (len (an x.1 (ab V.2.1) (aP α))))) 0) none
  (some (aE.nx (i64 (aC V.1 (len (an x.1 (ab V.2.1) (aP α)))),i64 (aC V.2.1 1),()))))) (some (aE.ex 0 (V.1,V.2.1,())))) (0,0,()))
 (λ(a:Int×Int×Unit)=>none)
 (λ(i:Nat) (a:Int×Int×Unit)=>ak (bP i 0) (T (aF a.1 0) none (T (aF 0 (i64 (bg a.1 (i64 (bg 0 0))))) (ak (b5 0 0 0)
  (ak (cV (b? 0 (i64 (bg a.1 (i64 (bg 0 0))))) (cj c (ab (i64 (bg a.1 (i64 (bg 0 0))))))) (ak (b5 0 0 (len (bM (ab (i64 (bg a.1 (i64 (bg 0 0))))) z)))
   (b_ (bC (λ(V:List α×Int×Unit)=>T (aF V.2.1 (len x.1)) (ak (aK V.2.1 (len x.1)) (ak (cj c (bF (aV V.1) (aV (an x.1 (ab V.2.1) (aP α)))))
    (some (aE.nx (cm V.1 (an x.1 (ab V.2.1) (aP α)),i64 (aC V.2.1 1),()))))) (some (aE.ex 2 (V.1,V.2.1,())))) (cut (bM (ab (i64 (bg a.1 (i64 (bg 0 0))))) z) (ab 0) (ce (ab 0) (ab 0)),0,()))
    (λ(a:List α×Int×Unit)=>none) (λ(i:Nat) (a:List α×Int×Unit)=>ak (bP i 2) (some (a.1,()))) λ(r:List α×Unit)=>some r))))
  (b_ (bC (λ(V:List α×Int×Unit)=>T (aF V.2.1 (len x.1)) (ak (aK V.2.1 (len x.1)) (ak (cj c (bF (aV V.1) (aV (an x.1 (ab V.2.1) (aP α)))))
   (some (aE.nx (cm V.1 (an x.1 (ab V.2.1) (aP α)),i64 (aC V.2.1 1),()))))) (some (aE.ex 2 (V.1,V.2.1,())))) (aP α,0,()))
   (λ(a:List α×Int×Unit)=>none) (λ(i:Nat) (a:List α×Int×Unit)=>ak (bP i 2) (some (a.1,()))) λ(r:List α×Unit)=>some r))))
 λ(r:List α×Unit)=>some r
def RS{α β σ ρ:Type}{mk:β->Nat->σ}{e:Nat}{step:β->α->aE β ρ}{g:β->α->β}(h:∀b x,step b x=.nx (g b x)):∀(l:List α) (b:β) (i:Nat),jO mk e step b i l=.ex e (mk (l.foldl g b) (i+l.length))
 |[],b,i=>rfl
 |x::r,b,i=>by
  simp only[jO,h,fQ];rw[RS h r (g b x) (i+1)]
  grind
def aoc(iz:List (List α)):∀a:Int,iz.foldl (λs x=>s+(x.length:Int)) a=a+(iz.flatten.length:Int):=by
 induction iz with
 |nil=>intro a;simp
 |cons x r ih=>intro a;rw[ze,ih];simp;omega
def aob(iz:List (List α)):∀a:List α,iz.foldl (λs x=>s++x) a=a++iz.flatten:=by
 induction iz with
 |nil=>intro a;simp
 |cons x r ih=>intro a;rw[ze,ih];simp
def ZG{z:α}(ah:c<=100000)(iz:List (List α))(hl:iz.length<=100)(hx:∀x∈iz,x.length<=1000000):ZF c z (iz,())=some (iz.flatten,()):=by
 unfold ZF;generalize hf:(λ(V:Int×Int×Unit)=>_)=f;generalize hg:(λ(V:List α×Int×Unit)=>(_:Option (aE (List α×Int×Unit) (List α×Unit))))=g;have lT:∀n:Nat,n<=100000000->n*c<=140737488355328:=λn am=>fv (Xu am ah) J;have b9:iz.flatten.length<=100000000:=by
  have:∀iz:List (List α),(∀x∈iz,x.length<=1000000)->iz.flatten.length<=1000000*iz.length:=by
   intro iz;induction iz with
   |nil=>simp
   |cons x r ih=>
    grind
  grind
 have key:=rW (f:=f) (ρ:=List α×Unit) iz (λ(s:Int) i=>(s,(i:Int),())) 0 (λs x=>.nx (s+(x.length:Int))) (λs i=>0<=s/\s<=1000000*i) (λs i h dZ=>⟨?_,λb' Y => ?_⟩) (λs _ => ?_) 0 bf
 .rw[RS (g:=λ(s:Int) (x:List α)=>s+(x.length:Int)) (λ_ _=>rfl),aoc,Int.zero_add]at key
  have rU:=rW (f:=g) (ρ:=List α×Unit) iz (λ(s:List α) i=>(s,(i:Int),())) 2 (λs x=>.nx (s++x)) (λs i=>s.length<=1000000*i) (λs i h dZ=>⟨?_,λb' Y => ?_⟩) (λs _ => ?_) [] bf
  .rw[RS (g:=λ(s:List α) (x:List α)=>s++x) (λ_ _=>rfl),aob,pE]at rU
   refine(cO key).trans (lc_ex'.trans (a6 g62 (a0 rfl ?_)));by_cases aq:0<iz.flatten.length
   .refine a? (by simp(disch:=omega) only[go_sem];omega) (a6 (by simp only[go_sem];decide) ?_)
    have qR:∀(n:Nat) (a:α),(bM n a).length=n:=λn a=>by simp[bM]
    have hm:=lT _ b9;refine a6 (by simp(disch:=omega) only[go_sem];exact⟨J,hm⟩) (a6 (by simp only[go_sem];exact⟨J,J,J⟩) ?_);refine(cO rU).trans ?_;rfl
   refine a0 (by simp(disch:=omega) only[go_sem];omega) ((cO rU).trans ?_);rfl
  .subst hg
   have R:=hx iz[i] (lI h);have hm:=lT (s.length+(iz[i]).length) J;simp(disch:=omega) only[go_sem,kp]
  .grind
  subst hg;simp(disch:=omega) only[go_sem]
 .subst hf
  have R:=hx iz[i] (lI h);simp(disch:=omega) only[go_sem,kp]
 .cases Y
  have R:=hx iz[i] (lI h);omega
 subst hf;simp(disch:=first|assumption|omega|(dsimp only;omega)|decide) only[go_sem,Int.reduceToNat]
def aiA(iz:List (List bT))(hl:iz.length<=100)(hx:∀x∈iz,x.length<=1000000):Oc (iz,())=some (iz.flatten,()):=
 (rfl).trans (ZG J iz hl hx)
def gH(no:Int):List bT->Nat
 |[]=>0
 |v::r=>if no<=v.1 then 0 else gH no r+1
def km(no:Int):List bT->Bool
 |[]=>false
 |v::r=>if no<=v.1 then decide (v.1=no) else km no r
def RM(no:Int):∀l:List bT,gH no l<=l.length
 |[]=>bX _
 |v::r=>by
  unfold gH;split
  .omega
  have:=RM no r;simp;omega
def LC{no:Int}:∀{l:List bT},km no l=true->∃h:gH no l<l.length,(l[gH no l]).1=no
 |v::r,h=>by
  unfold km at h;by_cases ah:no<=v.1
  .rw[if_pos ah]at h
   have:gH no (v::r)=0:=by unfold gH;rw[if_pos ah]
   grind
  rw[if_neg ah]at h;obtain⟨O,R⟩:=LC h;have:gH no (v::r)=gH no r+1:=by conv=>{ lhs;unfold gH };rw[if_neg ah]
  grind
def aaF(l:List bT)(no:Int)(hl:l.length<=1000000):Hk ((l,1,()),no,())=some ((gH no l:Int),km no l,()):=by
 unfold Hk;generalize hf:(λ(V:Int×Bool×Int×Unit)=>_)=f;have key:∀(r:List bT) (i:Nat),l.drop i=r->i<=l.length->bC f (0,false,(i:Int),())=if i+gH no r<l.length then some (.rt (((i+gH no r:Nat):Int),km no r,())) else some (.ex 0 (0,false,(l.length:Int),())):=by
  intro r;induction r with
  |nil =>intro i aj ac;have GS:=congrArg List.length aj;rw[ep,gu]at GS;have:i=l.length:=J;subst this;rw[if_neg (by simp[gH])];refine dT ?_;subst hf;simp(disch:=omega) only[go_sem]
  |cons v r ih=>
   intro i aj ac;have GS:=congrArg List.length aj;rw[ep,fQ]at GS;have bi:i<l.length:=J;rw[l_ bi]at aj;obtain⟨aD,fI⟩:=sw aj;have hp:Mb (v,())=some (v.1,()):=rfl;by_cases ah:no<=v.1
   .have aq:gH no (v::r)=0:=by unfold gH;rw[if_pos ah]
    have O:km no (v::r)=D (v.1=no):=by unfold km;rw[if_pos ah];exact g51
    rw[aq,O,if_pos J];refine n8 ?_;subst hf;simp(disch:=omega) only[go_sem,aD,hp,Int.add_zero]
   have aq:gH no (v::r)=gH no r+1:=by conv=>{ lhs;unfold gH };rw[if_neg ah]
   have O:km no (v::r)=km no r:=by conv=>{ lhs;unfold km };rw[if_neg ah]
   rw[aq,O];refine(eE (y:=(0,false,((i+1:Nat):Int),())) ?_).trans ((ih (i+1) fI bi).trans ?_)
   .subst hf;simp(disch:=omega) only[go_sem,aD,hp]
   rw[show i+1+gH no r=i+(gH no r+1) by omega]
 have yf:=key l 0 rfl (eS _);rw[js]at yf;refine(cO yf).trans ?_;by_cases bi:gH no l<l.length
 .rw[if_pos bi];rfl
 rw[if_neg bi];have az:=RM no l;have:gH no l=l.length:=J;have am:km no l=false:=(zi _).mp λh=>bi (LC h).1;rw[this,am];rfl
def getD(l:List bT)(no:Int):aa×Bool×Unit:=if km no l=true then((an l (gH no l) (0,[],())).2.1,true,()) else([],false,())
def TH(m:M)(no:Int)(hl:m.2.1.length<=1000000):qU (m,no,())=some (getD m.2.1 no):=by
 unfold qU;refine aL (show Ma (m,())=some ((m.2.1,1,()),()) from rfl) ?_;refine aL (aaF m.2.1 no hl) ?_;unfold getD;cases h:km no m.2.1
 .rfl
 obtain⟨O,R⟩:=LC h;exact a0 rfl (a6 (jC O) rfl)
def y4(l:List bT)(x:bT):List bT:=l.take (gH x.1 l)++(x::l.drop (if km x.1 l=true then gH x.1 l+1 else gH x.1 l))
def aAk{l:List α}:sub l 0 (n:Int)=l.take n:=by simp[sub]
def ahn{l:List α}:sub l (n:Int) (len l)=l.drop n:=by simp only[sub,len,iq];rw[iS bf]
def ayU(l:List bT)(x:bT)(hl:l.length<=100000):TK ((l,1,()),x,())=some (y4 l x,()):=by
 refine a6 g62 (aL (rfl) (aL (aaF l x.1 J) ?_));have bV:=RM x.1 l;have ah:∀n:Nat,Oc ([l.take (gH x.1 l),[x],l.drop n],())=some (l.take (gH x.1 l)++(x::l.drop n),()):=λn=>by
  rw[aiA _ bf (λy bs=>by
   simp at bs;rcases bs with rfl|rfl|rfl
   .grind
   .simp
   rw[ep];omega)]
  simp
 unfold y4;cases h:km x.1 l
 .refine aL (bU rfl) ?_
  refine a6 cp (a6 cp ?_);simp only[ ahn];exact aL (ah _) rfl
 obtain⟨O,R⟩:=LC h;have e:i64 (aC (gH x.1 l:Int) 1)=((gH x.1 l+1:Nat):Int):=k9 (b:=1) J;simp only[e];refine a6 cp (a6 cp ?_);simp only[ ahn];exact aL (ah _) rfl
def El(m:M)(no:Int)(v:aa):M×Int×Unit:=if e7 no=none then(m,12,()) else if fT no v=true then((m.1,y4 m.2.1 (no,v,()),()),0,()) else(m,1,())
def L?(m:M)(no:Int)(v:aa)(hl:m.2.1.length<=100000)(aD:v.length<=1000000):ko (m,no,v,())=some (El m no v):=by
 unfold ko El;refine aL (F8 no) ?_;cases aO:e7 no with
 |none=>rfl
 |some p=>
  refine a0 rfl (aL (Lb no v aD) ?_);cases hf:fT no v
  .rfl
  exact a0 rfl (aL (rfl) (aL (ayU m.2.1 (no,v,()) hl) rfl))
def ii(no:Int):List bT->aa×Bool×Unit
 |[]=>([],false,())
 |v::r=>if v.1=no then(v.2.1,true,()) else ii no r
def aoJ{no:Int}:∀{l:List bT},(ii no l).2.1=false->ii no l=([],false,())
 |[],_=>rfl
 |v::r,h=>by
  unfold ii at h ⊢;split
  .grind
  rename_i ah;rw[if_neg ah]at h;exact aoJ h
def wU(l:List bT)(x:bT):List bT:=l.filter (λv=>decide (v.1<x.1))++(x::l.filter (λv=>decide (x.1<v.1)))
def dt(n:Int)(w:Nat):aa:=a5 10 gi n.toNat w
def nS{n:Int}:(dt n w).length=w:=l1 _ _ _ _
def Rm{n:Int}:g4 (dt n w):=zJ
def am4{n:Int}(aq:0<=n)(h:n<10^w):(val (dt n w):Int)=n:=by unfold dt;rw[WI,tN (by grind)];omega
def HU{n:Int}(O:1<=w)(R:w<=18)(aq:0<=n)(h:n<10^w)(C0:n<=9223372036854775807):q2 (n,(w:Int),())=some (dt n w,()):=by unfold q2;rw[KR _ _ C0,if_pos ⟨show(1:Int)<=(w:Int) by omega,show(w:Int)<=18 by omega,aq,by simpa using h⟩];show ak (cj 1 (aV (dt n w))) _=_;simp(disch:=omega) only[go_sem,nS];rfl
def jD(n:N):M:=
 if n.1=false then(810,[(11,dt n.2.2.1 6,()),(39,dt n.2.2.2.1 2,()),(70,dt n.2.1 3,())],())
 else if n.2.1=101 then(800,[(11,dt n.2.2.1 6,()),(48,gm n.2.2.2.2.2.2.1,()),(53,dt n.2.2.2.2.1 16,()),(70,dt n.2.1 3,()),(96,n.2.2.2.2.2.1,())],())
 else if n.2.1=201 then(800,[(11,dt n.2.2.1 6,()),(15,dt n.2.2.2.2.2.2.2.1 6,()),(70,dt n.2.1 3,())],())
 else(800,[(11,dt n.2.2.1 6,()),(70,dt n.2.1 3,())],())
def sP(h:e7 no=some (k,(w:Int)))(bu:1<=w){n:Int}:fT no (dt n w)=true:=by
 unfold fT;rw[h];refine decide_eq_true ⟨⟨λ_=>Rm,λ_=>CL Rm⟩,?_⟩;unfold j3;rw[nS]
 grind
def CO:e7 11=some (1,6):=bN
def RQ:e7 15=some (1,6):=bN
def Li:e7 39=some (3,2):=bN
def an9:e7 48=some (5,400):=bN
def aaO:e7 53=some (1,16):=bN
def RR:e7 70=some (1,3):=bN
def aoa:e7 96=some (6,8):=bN
def aaK{v:aa}(h:v.length=8):fT 96 v=true:=by
 unfold fT;rw[aoa];refine decide_eq_true ⟨⟨λh=>J,λh=>J⟩,?_⟩;unfold j3
 grind
def atV{t:Int}{l:List bT}{v:aa}(hl:l.length<=100)(aD:v.length<=1000)(hf:fT no v=true):ko ((t,l,()),no,v,())=some ((t,y4 l (no,v,()),()),0,()):=by
 rw[L? (t,l,()) no v (show l.length<=100000 by omega) J];obtain⟨k,m,ap,_⟩:=vU.1 hf;unfold El
 grind
def adM:∀k:Nat,k<16->32<=(n9 k).toNat/\(n9 k).toNat<=126:=bN
def aqr{b:aa}{c:UInt8}(h:c∈gm b):32<=c.toNat/\c.toNat<=126:=by
 obtain⟨x,_,ah⟩:=zm.1 h;have hx:=x.toNat_lt;simp at ah;rcases ah with rfl|rfl
 .exact adM _ J
 exact adM _ J
def aqs{b:aa}:oR 32 126 (gm b):=by intro i h;have:=aqr (lI h);rw[HO];omega
def aaJ{b:aa}(h:b.length=3):fT 48 (gm b)=true:=by unfold fT;rw[an9];refine decide_eq_true ⟨⟨λh=>J,λ_=>aqs⟩,?_⟩;rw[rJ,h];decide
def Bd{t:Int}{l hj:List bT}{v:aa}(hl:l.length<=100)(aD:v.length<=1000)(hf:fT no v=true)(bu:y4 l (no,v,())=hj):ko ((t,l,()),no,v,())=some ((t,hj,()),0,()):=by rw[<- bu];exact atV hl aD hf
def adZ{n:N}(aj:jo n):DK (n,())=some (jD n,()):=by
 obtain⟨kW,c,bR,rs,g,no,k,d,⟨⟩⟩:=n;have fI:=u6.1 aj;obtain⟨ah,bp,ax,ek,e8,tg,ap⟩:=fI;have nY:0<=c/\c<=301:=by unfold p9 at ah;omega
 have KU:q2 (bR,6,())=some (dt bR 6,()):=HU (n:=bR) (w:=6) J J J J J;have KY:q2 (c,3,())=some (dt c 3,()):=HU (n:=c) (w:=3) J J J J J;have KW:q2 (rs,2,())=some (dt rs 2,()):=HU (n:=rs) (w:=2) J J J J J;have f11:=λn=>sP (no:=11) (w:=6) (n:=n) CO J;have f15:=λn=>sP (no:=15) (w:=6) (n:=n) RQ J;have f39:=λn=>sP (no:=39) (w:=2) (n:=n) Li J;have f53:=λn=>sP (no:=53) (w:=16) (n:=n) aaO J;have f70:=λn=>sP (no:=70) (w:=3) (n:=n) RR J;have len:∀{n:Int} {w:Nat},w<=20->(dt n w).length<=1000:=λh=>by rw[nS];omega
 have dW:ko ((810,([]:List bT),()),11,dt bR 6,())=some ((810,[(11,dt bR 6,())],()),0,()):=Bd (l:=[]) bN (len J) (f11 bR) rfl;have eF:ko ((810,[(11,dt bR 6,())],()),70,dt c 3,())=some ((810,[(11,dt bR 6,()),(70,dt c 3,())],()),0,()):=Bd bf (len J) (f70 c) rfl;unfold DK;cases kW
 .have mv:ko ((810,[(11,dt bR 6,()),(70,dt c 3,())],()),39,dt rs 2,())=some ((810,[(11,dt bR 6,()),(39,dt rs 2,()),(70,dt c 3,())],()),0,()):=Bd bf (len J) (f39 rs) rfl
  simp only[go_sem,KU,KY,KW,dW,eF,mv];rfl
 by_cases O:c=101
 .subst O
  obtain⟨bj,bm,am,z4,aI⟩:=ap;have anb:q2 (g,16,())=some (dt g 16,()):=HU (n:=g) (w:=16) J J J J J;have ex:=ZZ k J;have ya:(gm k).length=6:=by rw[rJ,z4]
  have mv:ko ((800,[(11,dt bR 6,()),(70,dt 101 3,())],()),48,gm k,())=some ((800,[(11,dt bR 6,()),(48,gm k,()),(70,dt 101 3,())],()),0,()):=Bd bf J (aaJ z4) rfl;have yS:ko ((800,[(11,dt bR 6,()),(48,gm k,()),(70,dt 101 3,())],()),53,dt g 16,())=some ((800,[(11,dt bR 6,()),(48,gm k,()),(53,dt g 16,()),(70,dt 101 3,())],()),0,()):=Bd bf (len J) (f53 g) rfl;have wY:ko ((800,[(11,dt bR 6,()),(48,gm k,()),(53,dt g 16,()),(70,dt 101 3,())],()),96,no,())=some ((800,[(11,dt bR 6,()),(48,gm k,()),(53,dt g 16,()),(70,dt 101 3,()),(96,no,())],()),0,()):=Bd bf J (aaK am) rfl;simp(disch:=omega) only[go_sem,KU,KY,KW,anb,ex,dW,eF,mv,yS,wY,ya];rfl
 by_cases R:c=201
 .subst R
  rw[if_neg J,if_pos ⟨rfl,rfl⟩]at ap;have Rs:q2 (d,6,())=some (dt d 6,()):=HU (n:=d) (w:=6) J J J J J;have mv:ko ((800,[(11,dt bR 6,()),(70,dt 201 3,())],()),15,dt d 6,())=some ((800,[(11,dt bR 6,()),(15,dt d 6,()),(70,dt 201 3,())],()),0,()):=Bd bf (len J) (f15 d) rfl;simp(disch:=omega) only[go_sem,KU,KY,KW,Rs,dW,eF,mv];rfl
 simp only[go_sem,KU,KY,KW,dW,eF,O,R,cG O,cG R];show _=some (if true=false then _ else if c=101 then _ else if c=201 then _ else _,())
 grind
def BZ:=@List.flatMap_cons
def J4:=@Nat.ble_eq_true_of_le
def Fe:=@Nat.le_of_ble_eq_true
def aha:∀{a b:List Int},a.Pairwise (· < ·)->b.Pairwise (· < ·)->(∀n,n∈a↔n∈b)->a=b
 |[],[],_,_,_=>rfl
 |[],y::b,_,_,h=>by have:=(h y).2 bf;cases this
 |x::a,[],_,_,h=>by have:=(h x).1 bf;cases this
 |x::a,y::b,bc,Y,h=>by
  rw[oo]at bc Y;have ar1:x=y:=by
   have O:=(h x).1 bf;have R:=(h y).2 bf
   grind
  subst ar1;rw[aha bc.2 Y.2 λn => ?_]
  grind
def afE:∀{last:Int},ho last l=true->l.Pairwise (· < ·):=by
 induction l with
 |nil=>intros;exact List.Pairwise.nil
 |cons x r ih =>intro last h;simp only[ho,cM]at h;exact oo.2 ⟨λy bs=>(wQ h.2 y bs).1,ih h.2⟩
def awq:∀{last:Int},l.Pairwise (· < ·)->(∀n∈l,last<n/\n<=128/\n≠65)->ho last l=true:=by
 induction l with
 |nil=>intros;rfl
 |cons x r ih =>intro last hp h;rw[oo]at hp;simp only[ho,cM,decide_eq_true_eq];refine⟨h x bf,ih hp.2 λn am=>⟨hp.1 n am,(h n (by grind)).2⟩⟩
def ad4(c:aa):((io c).map Int.ofNat).Pairwise (· < ·):=by rw[List.pairwise_map];refine List.Pairwise.imp ?_ (List.Pairwise.filter _ List.pairwise_lt_range);simp
def AG{c:aa}:n∈io c↔n<=8*c.length/\2<=n/\iw c n=true:=by
 unfold io;rw[xn,qu,cM];constructor
 .rintro⟨O,R,ai⟩;exact⟨J,Fe R,ai⟩
 rintro⟨O,R,ai⟩;exact⟨J,J4 R,ai⟩
def Kl(h:ho 1 l=true)(O:1<=n)(R:n<=8*(fx l).length):iw (fx l) n=(decide ((n:Int)∈l)||(Nat.beq n 1&&lF l)):=by
 rw[o']at R;unfold fx;cases bu:lF l
 .rw[bu]at R
  rw[if_neg bf]at R ⊢;rw[Gu O R,Bool.and_false,Pd];rfl
 rw[bu]at R;rw[if_pos rfl]at R ⊢;rw[Gu O R];unfold mn;refine m7.2 ?_;simp
 grind
def atY(h:ho 1 l=true):(io (fx l)).map Int.ofNat=l:=by
 refine aha (ad4 _) (afE h) λn => ?_;rw[zh];have hm:=wQ h;constructor
 .rintro⟨k,ap,rfl⟩
  obtain⟨O,R,ai⟩:=AG.1 ap;rw[Kl h J O]at ai;have:Nat.beq k 1=false:=(zi _).mp λY=>by have:=fP Y;omega
  grind
 intro am;have Y:=hm n am;refine⟨n.toNat,AG.2 ⟨?_,J,?_⟩,fS⟩
 .rw[o']
  split
  .omega
  rename_i bu;have:=HS h bu n am;omega
 rw[Kl h J (by
  rw[o'];split
  .omega
  rename_i bu;have:=HS h bu n am;omega)]
 grind
def Qb(l:List Int):8<=(fx l).length/\(fx l).length<=16:=by rw[o'];split<;>omega
def akb(h:ho 1 l=true):iw (fx l) 1=lF l:=by
 rw[Kl h J (by have:=Qb l;omega)];have:decide (((1:Nat):Int)∈l)=false:=decide_eq_false λah=>by have:=(wQ h _ ah).1;omega
 rw[this];rfl
def aia(h:ho 1 l=true):lF l=true↔∃n∈l,64<n:=by
 constructor
 .intro bu
  unfold lF at bu;rw[cM,decide_eq_true_eq,decide_eq_true_eq]at bu;exact⟨_,by rw[nth_get J];exact lI _,bu.2⟩
 rintro⟨n,am,O⟩;refine kZ λbu => ?_;have:=HS h bu n am;omega
def aj7{c q:aa}(h:ho 1 l=true)(ah:c=fx l++q):pM c a=(l,a+((fx l).length:Int),0,()):=by
 have cy:=Qb l;have eZ:c.length=(fx l).length+q.length:=by rw[ah,db]
 have ht:c.take (fx l).length=fx l:=by rw[ah,zd]
 have O:iw c 1=lF l:=by rw[<- akb h,<- ht];exact(abL J J J).symm
 have am:=atY h;have dM:=o' l;unfold pM;rw[O];cases bu:lF l
 .grind
 rw[bu,if_pos rfl]at dM;rw[dM]at ht eZ ⊢;rw[if_neg J,if_pos rfl,ht,am,if_neg]
 .rfl
 rintro(apU|hall)
 .have:((65:Nat):Int)∈l:=by rw[<- am];exact zh.2 ⟨65,apU,rfl⟩
  have:=(wQ h _ this).2.2;omega
 obtain⟨n,p3,v_⟩:=(aia h).1 bu
 grind
def aj9{b q:aa}(h:ho 1 l=true)(dJ:A<=b.length)(Y:b.drop A=fx l++q):lN b A=(l,((A+(fx l).length:Nat):Int),0,()):=by unfold lN;rw[if_neg J,iq,aj7 h Y,Int.natCast_add]
def aj8{c:aa}{a':Int}(h:pM c a=(l,a',0,())):ho 1 l=true/\a'=a+((fx l).length:Int)/\(fx l).length<=c.length/\c=fx l++c.drop (fx l).length:=by
 unfold pM at h;by_cases aq:c.length<8\/(iw c 1=true/\c.length<16)
 .grind
 rw[if_neg aq]at h;have Mr:∀size:Nat,size=8\/size=16->size<=c.length->(iw c 1=true↔size=16)->l=(io (c.take size)).map Int.ofNat->(size=16->¬(65∈io (c.take 16)\/∀n∈io (c.take 16),n<65))->ho 1 l=true/\fx l=c.take size:=by
  intro size ae arC O hl nj;have s3:(c.take size).length=size:=by rw[ib];omega
  have aj:ho 1 l=true:=by
   rw[hl];refine awq (ad4 _) λn am => ?_;obtain⟨k,ap,rfl⟩:=zh.1 am;obtain⟨bD,b1,dy⟩:=AG.1 ap
   grind
  have bu:lF l=true↔size=16:=by
   rw[aia aj,hl];constructor
   .rintro⟨n,am,O⟩
    obtain⟨k,ap,rfl⟩:=zh.1 am;obtain⟨bD,_⟩:=AG.1 ap
    grind
   intro oF;subst oF;refine kZ λah=>nj rfl (.inr λn am=>kZ λbi=>ah ⟨(n:Int),zh.2 ⟨n,am,rfl⟩,J⟩)
  refine⟨aj,?_⟩;have dM:(fx l).length=size:=by
   rw[o']
   grind
  refine afO (by rw[dM,s3]) λn wy qZ => ?_;rw[Kl aj wy qZ];rw[hl];by_cases p3:n=1
  .subst p3
   have aI:decide (((1:Nat):Int)∈(io (c.take size)).map Int.ofNat)=false:=decide_eq_false λah=>by
    obtain⟨k,ap,rN⟩:=zh.1 ah;have:=(AG.1 ap).2.1
    grind
   rw[aI,abL J J arC,<- hl];exact m7.2 (bu.trans O.symm)
  have Y:Nat.beq n 1=false:=(zi _).mp λY=>p3 (fP Y);rw[Y,PC,Pd];refine m7.2 ?_;rw[decide_eq_true_eq,zh];constructor
  .rintro⟨k,ap,rN⟩
   have:k=n:=by simp at rN;omega
   subst this;exact(AG.1 ap).2.2
  intro hh;exact⟨n,AG.2 ⟨by rw[s3];omega,J,hh⟩,rfl⟩
 by_cases O:iw c 1=true
 .rw[if_pos O]at h
  by_cases nj:65∈io (c.take 16)\/∀n∈io (c.take 16),n<65
  .rw[if_pos nj]at h;simp at h
  rw[if_neg nj]at h;simp at h;have oF:16<=c.length:=by refine kZ λah=>aq (.inr ⟨O,J⟩)
  obtain⟨ek,e8⟩:=Mr 16 (.inr rfl) oF (iff_of_true O rfl) h.1.symm (λ_=>nj);have dM:(fx l).length=16:=by rw[e8,ib];omega
  rw[dM];refine⟨ek,h.2.symm,oF,?_⟩;rw[e8,vx]
 rw[if_neg O]at h;simp at h;obtain⟨ek,e8⟩:=Mr 8 (.inl rfl) J (iff_of_false O J) h.1.symm (λe=>absurd e J);have dM:(fx l).length=8:=by rw[e8,ib];omega
 rw[dM];refine⟨ek,h.2.symm,J,?_⟩;rw[e8,vx]
def aih{v:bT}{l:Int}(aO:e7 v.1=some (k,l))(aD:gZ k l v.2.1):gr v=kA k v.2.1:=by unfold gr qp;rw[aO];simp only[if_pos aD]
def avE{v:bT}{b q:aa}(hf:fT v.1 v.2.1=true)(dJ:A<=b.length)(h:b.drop A=gr v++q):jT v.1 b A=(v.2.1,((A+(gr v).length:Nat):Int),0,()):=by obtain⟨k,l,aO,aD⟩:=vU.1 hf;rw[aih aO aD]at h ⊢;unfold jT;rw[aO];exact avG aO dJ aD h
def avF{v b:aa}{I:Int}(dJ:A<=b.length)(h:jT no b A=(v,I,0,())):fT no v=true/\I=((A+(gr (no,v,())).length:Nat):Int)/\A+(gr (no,v,())).length<=b.length/\b.drop A=gr (no,v,())++b.drop (A+(gr (no,v,())).length):=by
 cases aO:e7 no with
 |none=>unfold jT at h;rw[aO]at h;simp at h
 |some p=>
  obtain⟨k,l⟩:=p;have bB:yA k l b A=(v,I,0,()):=by unfold jT at h;rw[aO]at h;exact h
  obtain⟨bE,cq,g7,Ax⟩:=avH aO dJ bB;rw[aih (v:=(no,v,())) aO bE];exact⟨vU.2 ⟨k,l,aO,bE⟩,cq,g7,Ax⟩
def afm{b:aa}:∀{l:List bT} {A:Nat} {F:List bT} {q:aa},(∀v∈l,fT v.1 v.2.1=true)->A<=b.length->b.drop A=l.flatMap gr++q->qd b (hz l) A F=(none,((A+(l.flatMap gr).length:Nat):Int),F++l)
 |[],A,F,q,_,_,_=>by simp[qd,hz]
 |v::r,A,F,q,hf,dJ,h=>by rw[BZ,h0]at h;have O:=avE (hf v bf) dJ h;have R:=CC dJ h;simp only[hz,qz,qd];rw[O];have:=afm (F:=F++[(v.1,v.2.1,())]) (λu aM=>hf u (by grind)) R.1 R.2;rw[show r.map (λv=>v.1)=hz r from rfl,this,BZ,db,jJ];simp
def afn{b:aa}:∀{MH:List Int} {A:Nat} {F xa:List bT} {a':Int},A<=b.length->qd b MH A F=(none,a',xa)->∃l:List bT,xa=F++l/\hz l=MH/\(∀v∈l,fT v.1 v.2.1=true)/\a'=((A+(l.flatMap gr).length:Nat):Int)/\A+(l.flatMap gr).length<=b.length/\b.drop A=l.flatMap gr++b.drop (A+(l.flatMap gr).length)
 |[],A,F,xa,a',dJ,h=>by obtain⟨rfl,rfl⟩:=h;exact⟨[],bf,rfl,bf,bf,by simpa using dJ,bf⟩
 |n::r,A,F,xa,a',dJ,h=>by
  simp only[qd]at h;by_cases aq:(jT n b A).2.2.1=0
  .rw[if_pos aq]at h
   rcases hx:jT n b A with⟨v,I,e,u⟩;rw[hx]at aq h;subst aq;obtain⟨bE,cq,g7,Ax⟩:=avF dJ hx;subst cq;obtain⟨l,fk,gO,rV,Aq,Hu,Dq⟩:=afn g7 h;refine⟨(n,v,())::l,by rw[fk];simp,by simp only[hz];rw[<- gO];rfl,λw bu => ?_,?_,?_,?_⟩
   .grind
   .grind
   .grind
   grind
  grind
def awn{l:List bT}:∀{last:Int},ho last (hz l)=true->(∀v∈l,fT v.1 v.2.1=true)->fZ last l=true:=by
 induction l with
 |nil=>intros;rfl
 |cons x r ih =>intro last h hf;simp only[hz,qz,ho,cM,decide_eq_true_eq]at h;simp only[fZ,cM,decide_eq_true_eq];exact⟨h.1.1,hf x bf,ih h.2 λv aD=>hf v (by grind)⟩
def awo{l:List bT}{ac9:Int}(hl:ac9<=last)(h:fZ last l=true):fZ ac9 l=true:=by
 cases l with
 |nil=>rfl
 |cons x r=>
  simp only[fZ,cM,decide_eq_true_eq]at h ⊢
  grind
def afl{b:aa}:∀{MH:List Int} {A:Int} {F xa:List bT} {a' e:Int},qd b MH A F=(some e,a',xa)->¬e=0
 |[],A,F,xa,a',e,h=>by simp[qd]at h
 |n::r,A,F,xa,a',e,h=>by
  simp only[qd]at h;by_cases aq:(jT n b A).2.2.1=0
  .rw[if_pos aq]at h;exact afl h
  rw[if_neg aq]at h;simp only[lk,kY]at h;rw[<- h.1];exact aq
def ayJ{m:Int}(h:hD m):val (a5 10 gi m.toNat 4)=m.toNat:=by unfold hD at h;rw[WI,tN J]
def ax5{m:Int}{b q:aa}(h:hD m)(Y:b=sg m++q):jp b 0 4=(a5 10 gi m.toNat 4,2,0,()):=by have:=Wm (b:=b) (s:=a5 10 gi m.toNat 4) (q:=q) (I:=0) (eS _) (by rw[l1];omega) zJ Y;rw[l1]at this;exact this
def asC{l:List bT}(h:∀v∈l,fT v.1 v.2.1=true):∀n∈hz l,(e7 n).isSome=true:=by
 intro n am;obtain⟨v,aD,rfl⟩:=zh.1 am;obtain⟨k,l,aO,_⟩:=vU.1 (h v aD)
 grind
def qf{m:M}:h_ m=true↔fZ 0 m.2.1=true/\hD m.1:=by unfold h_;rw[cM,decide_eq_true_eq]
def avJ{m:M}{q:aa}(h:h_ m=true):e9 (f7 m++q)=if q=[]then(m,0,()) else(mo,4,()):=by
 obtain⟨dp,ht⟩:=qf.1 h;have hi:=λv aD=>(r' dp v aD).2;have hL:=Nv dp;have e:f7 m++q=sg m.1++(fx (hz m.2.1)++(m.2.1.flatMap gr++q)):=by unfold f7;simp
 generalize Y:f7 m++q=b at *
 have au:=ax5 ht e;have s3:=yX (m:=m.1);have aI:=CC (b:=b) (A:=0) (eS _) e;rw[ s3]at aI;have aj:=aj9 hL aI.1 aI.2;have x2:=CC aI.1 aI.2;have qN:=afm (F:=[]) hi x2.1 x2.2;have azI:=CC x2.1 x2.2;unfold e9;rw[au,if_neg bf];rw[ayJ ht,Int.toNat_of_nonneg (by unfold hD at ht;omega),if_pos ht];replace aj:lN b 2=_:=aj;rw[aj,if_neg bf];unfold D6;rw[if_pos (asC hi),qN]
 grind
def M5{b:aa}{m:M}(h:e9 b=(m,0,())):h_ m=true/\f7 m=b:=by
 unfold e9 at h;by_cases aq:(jp b 0 4).2.2.1≠0
 .grind
 rw[if_neg aq]at h;rcases Bp (b:=b) (I:=0) (N:=4) (eS _) J with⟨_,e⟩|⟨_,e,_⟩|⟨s,au,e,hf,ae,x_⟩
 .grind
 .grind
 replace e:jp b 0 4=(s,2,0,()):=e;rw[e]at h;by_cases ht:hD (val s:Int)
 .rw[if_pos ht]at h
  have Tq:sg (val s:Int)=gC (eK s):=by unfold sg;rw[iq,<- ae,ae3 hf]
  have aI:b.drop 0=sg (val s:Int)++b.drop 2:=by rw[Tq];exact KT x_
  rw[rm]at aI;by_cases bh:(lN b 2).2.2.1≠0
  .grind
  rw[if_neg bh]at h;rcases hx:lN b 2 with⟨l,a',rB,u⟩;rw[hx]at h bh;simp at bh h;subst bh;have cA:pM (b.drop 2) 2=(l,a',0,()):=by unfold lN at hx;rw[if_neg J]at hx;exact hx
  obtain⟨c1,c2,hd,c4⟩:=aj8 cA;rw[ep]at hd;rw[su]at c4;unfold D6 at h;by_cases aO:∀n∈l,(e7 n).isSome=true
  .rw[if_pos aO]at h
   have Sy:a'=((2+(fx l).length:Nat):Int):=J;rw[Sy]at h;rcases qN:qd b l ((2+(fx l).length:Nat):Int) []with⟨_|rB,cU,F⟩
   .rw[qN]at h
    simp only at h;obtain⟨L,fk,gO,rV,Aq,Hu,Dq⟩:=afn J qN;by_cases bi:cU<(b.length:Int)
    .rw[if_pos bi]at h;simp at h
    rw[if_neg bi]at h;simp at h;subst fk;have e0:b.drop (2+(fx l).length+(F.flatMap gr).length)=[]:=List.drop_eq_nil_of_le J;rw[e0,iE]at Dq;rw[<- h];refine⟨qf.2 ⟨awo J (awn (last:=1) (by rw[gO];exact c1) rV),ht⟩,?_⟩;unfold f7;rw[gO,<- Dq,<- c4,<- aI]
   rw[qN]at h;simp at h;exact absurd h.2 (afl qN)
  rw[if_neg aO]at h;simp at h
 rw[if_neg ht]at h;simp at h
def avI{b:aa}:(e9 b).2.1=0\/(e9 b).1=mo:=by
 unfold e9;by_cases aq:(jp b 0 4).2.2.1≠0
 .grind
 by_cases ht:hD (val (jp b 0 4).1:Int)
 .rw[if_pos ht]
  by_cases bh:(lN b 2).2.2.1≠0
  .grind
  unfold D6
  grind
 grind
def Ff:=@List.filter_eq_nil_iff
def mE(m:M):Prop:=m.2.1.length<=40/\∀v∈m.2.1,v.2.1.length<=450
def mE.uh{m:M}(h:mE m):uh m:=⟨by have:=h.1;omega,λv aD=>by have:=h.2 v aD;omega⟩
def avK{b:aa}:(e9 b).1.2.1.length<=1000:=by
 rcases avI (b:=b) with h|h
 .rcases hx:e9 b with⟨m,e,u⟩
  rw[hx]at h;subst h;have aj:=(qf.1 (M5 hx).1).1;have hL:=Nv aj;have ae:=afE hL;have hm:=wQ hL;have b9:(hz m.2.1).length<=128:=by
   have key:∀(l:List Int) (lo:Int),l.Pairwise (· < ·)->(∀n∈l,lo<n/\n<=128)->(l.length:Int)<=128-lo\/l=[]:=by
    intro l;induction l with
    |nil=>intros;exact .inr rfl
    |cons x r ih=>
     intro lo hp h;rw[oo]at hp;have hx:=h x bf;rcases ih x hp.2 (λn am=>⟨hp.1 n am,(h n (by grind)).2⟩) with O|O
     .grind
     grind
   rcases key _ 1 ae (λn am=>⟨(hm n am).1,(hm n am).2.1⟩) with O|O
   .omega
   grind
  simp only[hz,xf]at b9
  grind
 rw[h];simp[mo]
def awl{l:List bT}(h:fZ last l=true):∀v∈l,last<v.1:=λv aD=>(r' h v aD).1
def aoH{l:List bT}(hl:no<=last)(h:fZ last l=true):ii no l=([],false,()):=by
 induction l generalizing last with
 |nil=>rfl
 |cons v r ih=>
  simp only[fZ,cM,decide_eq_true_eq]at h;unfold ii
  grind
def R6{l:List bT}:∀{last:Int},fZ last l=true->getD l no=ii no l:=by
 induction l with
 |nil=>intros;rfl
 |cons v r ih=>
  intro last h;simp only[fZ,cM]at h;unfold ii;by_cases ah:no<=v.1
  .have aq:gH no (v::r)=0:=by unfold gH;rw[if_pos ah]
   have O:km no (v::r)=decide (v.1=no):=by unfold km;rw[if_pos ah]
   unfold getD;rw[aq,O];by_cases az:v.1=no
   .rw[if_pos az,decide_eq_true az];rfl
   rw[if_neg az,decide_eq_false az,if_neg bf,aoH J h.2.2]
  have aq:gH no (v::r)=gH no r+1:=by conv=>{ lhs;unfold gH };rw[if_neg ah]
  have O:km no (v::r)=km no r:=by conv=>{ lhs;unfold km };rw[if_neg ah]
  rw[if_neg J,<- ih h.2.2];unfold getD;rw[aq,O];rfl
def aaz{l:List bT}(hl:no<=last)(h:fZ last l=true):l.filter (λv=>decide (v.1<no))=[]/\l.filter (λv=>decide (no<v.1))=l/\l.filter (λv=>!(decide (v.1=no)))=l:=by have hg:=awl h;refine⟨Ff.2 λv aD => ?_,List.filter_eq_self.2 λv aD => ?_,List.filter_eq_self.2 λv aD => ?_⟩<;>have:=hg v aD<;>simp<;>omega
def ayT{l:List bT}{x:bT}:∀{last:Int},fZ last l=true->y4 l x=wU l x:=by
 induction l with
 |nil=>intros;rfl
 |cons v r ih=>
  intro last h;simp only[fZ,cM]at h;by_cases ah:x.1<=v.1
  .have aq:gH x.1 (v::r)=0:=by unfold gH;rw[if_pos ah]
   have O:km x.1 (v::r)=decide (v.1=x.1):=by unfold km;rw[if_pos ah]
   obtain⟨f1,f2,_⟩:=aaz (no:=x.1) ah h.2.2;unfold y4 wU
   grind
  have aq:gH x.1 (v::r)=gH x.1 r+1:=by conv=>{ lhs;unfold gH };rw[if_neg ah]
  have O:km x.1 (v::r)=km x.1 r:=by conv=>{ lhs;unfold km };rw[if_neg ah]
  have aj:=ih h.2.2;unfold y4 wU at aj ⊢
  grind
def Ih{m:M}(aj:h_ m=true):e9 (f7 m)=(m,0,()):=by have:=avJ (q:=[]) aj;rw[iE]at this;exact this
def Mw{n:N}(aj:jo n):h_ (jD n)=true:=by
 obtain⟨kW,c,bR,rs,g,no,k,d,⟨⟩⟩:=n;have fI:=u6.1 aj;obtain⟨ah,bp,ax,ek,e8,tg,ap⟩:=fI;have f11:=λn=>sP (no:=11) (w:=6) (n:=n) CO J;have f15:=λn=>sP (no:=15) (w:=6) (n:=n) RQ J;have f39:=λn=>sP (no:=39) (w:=2) (n:=n) Li J;have f53:=λn=>sP (no:=53) (w:=16) (n:=n) aaO J;have f70:=λn=>sP (no:=70) (w:=3) (n:=n) RR J;unfold jD h_;cases kW
 .simp[fZ,f11,f39,f70,hD]
 by_cases O:c=101
 .subst O
  obtain⟨bj,bm,am,z4,aI⟩:=ap;simp[fZ,f11,f53,f70,aaJ z4,aaK am,hD]
 by_cases R:c=201
 .subst R
  simp[fZ,f11,f15,f70,hD]
 simp[fZ,f11,f70,hD,O,R]
def adA{n:N}(aj:jo n):mE (jD n):=by
 obtain⟨kW,c,bR,rs,g,no,k,d,⟨⟩⟩:=n;have fI:=u6.1 aj;obtain⟨ah,bp,ax,ek,e8,tg,ap⟩:=fI;unfold jD mE;cases kW
 .simp[nS]
 by_cases O:c=101
 .subst O
  obtain⟨bj,bm,am,z4,aI⟩:=ap;simp[nS,rJ,z4,am]
 by_cases R:c=201
 .subst R
  simp[nS]
 simp[nS,O,R]
def m5(n:N):aa×Int×Unit:=if jo n then(f7 (jD n),0,()) else([],1,())
def MF(n:N):p' (n,())=some (m5 n):=by
 unfold p' m5;by_cases h:jo n
 .simp only[go_sem,Uu,cC h,adZ h,TJ (jD n) (adA h).uh,Mw h]
  grind
 simp only[go_sem,Uu,cG h]
 grind
def uQ:N:=(false,0,0,0,0,[],[],0,())
def Fu(n:N)(r:Int):N×Int×Unit:=if n.1=false then(uQ,9,()) else if r<0\/99<r then(uQ,1,()) else((false,n.2.1,n.2.2.1,r,0,[],[],0,()),0,())
def Ut(n:N)(r:Int):q1 (n,r,())=some (Fu n r):=by
 obtain⟨cK,cU,dj,eT,lm,azh,azi,azj,⟨⟩⟩:=n;unfold q1 Fu uQ;cases cK<;>by_cases h:r<0\/99<r
 all_goals simp only[go_sem,h]
 all_goals simp[h]
def oW(v:aa):Int:=if 1<=v.length/\v.length<=18/\g4 v then((val v:Nat):Int) else 0
def BE(s:aa):aa:=if s.length%2=0/\GG s then qm s else[]
def ni(m:M)(no:Int):aa:=(ii no m.2.1).1
def q'(m:M):N:=(D (m.1=800),oW (ni m 70),oW (ni m 11),oW (ni m 39),oW (ni m 53),ni m 96,BE (ni m 48),oW (ni m 15),())
def ky(b:aa):N×Int×Unit:=if(e9 b).2.1=0 then(if jo (q' (e9 b).1)/\jD (q' (e9 b).1)=(e9 b).1 then(q' (e9 b).1,0,()) else(uQ,2,())) else(uQ,(e9 b).2.1,())
def aoI{l:List bT}:(ii no l).1=[]\/∃v∈l,v.1=no/\(ii no l).1=v.2.1:=by
 induction l with
 |nil=>exact .inl rfl
 |cons v r ih=>
  unfold ii
  grind
def aog{l:Int}(h:e7 no=some (k,l)):l<=400:=by
 unfold e7 at h;rw[l8]at h;have:∀r∈sR,an r 1 0<=400:=bN
 grind
def RP{v:aa}(h:fT no v=true):v.length<=400:=by
 obtain⟨k,l,O,R⟩:=vU.1 h;have:=aog O;have ai:=R.2;unfold j3 at ai
 grind
def aoG{m:M}(aj:h_ m=true)(no:Int):(ii no m.2.1).1.length<=400:=by
 rcases aoI (l:=m.2.1) (no:=no) with h|⟨v,aD,_,h⟩
 .grind
 rw[h];exact RP (r' (qf.1 aj).1 v aD).2
def Jl(s:aa):∃e,ud (s,())=some (oW s,e,()):=by rw[Rq];unfold oW;split<;>exact⟨_,rfl⟩
def ayA(s:aa)(hl:s.length<=1000000):∃e,FX (s,())=some (BE s,e,()):=by rw[am5 _ hl];unfold BE;split<;>exact⟨_,rfl⟩
def adX(b:aa)(hl:b.length<=1000000):DJ (b,())=some (ky b):=by
 unfold DJ ky;refine aL (TI b hl) ?_;by_cases aq:(e9 b).2.1=0
 .obtain⟨m,hm⟩:∃m,e9 b=(m,0,()):=⟨(e9 b).1,by rw[<- aq]⟩
  obtain⟨aj,bu⟩:=M5 hm;have z5:=avK (b:=b);rw[hm]at z5 ⊢;have hf:=(qf.1 aj).1;have g:∀no,qU (m,no,())=some (ii no m.2.1):=λno=>by rw[TH m no (by grind),R6 hf]
  have gl:=aoG aj;obtain⟨e1,BH⟩:=Jl (ni m 70);obtain⟨aT,BG⟩:=Jl (ni m 11);obtain⟨dI,OB⟩:=Jl (ni m 39);obtain⟨gX,OC⟩:=Jl (ni m 53);obtain⟨nT,OA⟩:=Jl (ni m 15);obtain⟨KX,ah0⟩:=ayA (ni m 48) (by have:=gl 48;unfold ni;omega);unfold ni at BH BG OB OC OA ah0;simp only[go_sem,g,BH,BG,OB,OC,OA,ah0,Uu];show T (D (¬jo (q' m))) (some (uQ,2,())) (ob (DK (q' m,())) λPO=>ob (Hi (PO.1,m,())) λPP=>T (aZ PP.1) (some (uQ,2,())) (some (q' m,0,())))=_;by_cases am:jo (q' m)
  .rw[cG (λh=>h am)]
   have ae:=asI (jD (q' m)) m (by have:=(adA am).1;omega);simp only[go_sem,adZ am,ae];by_cases az:jD (q' m)=m
   .rw[if_pos ⟨am,az⟩,cG (λh=>h az)];rfl
   rw[if_neg (λh=>az h.2),cC az];rfl
  rw[if_neg (λh=>am h.1),cC am];rfl
 rw[if_neg aq];simp only[go_sem,aq];rfl
def ay6{b:aa}{m:M}{n:N}(hm:e9 b=(m,0,()))(am:jo n):f7 (jD n)=b↔jD n=m:=by
 obtain⟨aj,bu⟩:=M5 hm;constructor
 .intro h
  have:=Ih (Mw am)
  grind
 grind
def Jk{n:Int}(O:1<=w)(R:w<=18)(aq:0<=n)(h:n<10^w):oW (dt n w)=n:=by unfold oW;rw[if_pos ⟨by rw[nS];exact O,by rw[nS];exact R,Rm⟩];exact am4 aq h
def OD:oW []=0:=by unfold oW;rw[if_neg bf]
def WF:BE []=[]:=by unfold BE;split<;>rfl
def ayy{b:aa}:BE (gm b)=b:=by unfold BE;rw[if_pos ⟨by rw[rJ];omega,aqv b⟩,ayz]
def avL{n:N}(aj:jo n):q' (jD n)=n:=by
 obtain⟨kW,c,bR,rs,g,no,k,d,⟨⟩⟩:=n;obtain⟨ah,bp,ax,ek,e8,tg,ap⟩:=u6.1 aj;have nY:0<=c/\c<=301:=by unfold p9 at ah;omega
 have BG:oW (dt bR 6)=bR:=Jk J J J J;have BH:oW (dt c 3)=c:=Jk J J J J;have OB:oW (dt rs 2)=rs:=Jk J J J J;unfold q' ni jD;simp at ap;cases kW
 .simp at ap
  obtain⟨O,R,ai,au⟩:=ap;subst O R ai au;simp[ii,BG,BH,OB,OD,WF,D]
 have wc:=tg rfl;subst wc;by_cases O:c=101
 .subst O
  obtain⟨bj,bm,am,z4,aI⟩:=ap;subst aI;have OC:oW (dt g 16)=g:=Jk J J J J;simp[ii,BG,BH,OC,OD,ayy,D]
 rw[if_neg J]at ap;by_cases R:c=201
 .subst R
  obtain⟨ai,au,a4,d1,d2⟩:=ap;subst ai au a4;have OA:oW (dt d 6)=d:=Jk J J J J;simp[ii,BG,BH,OA,OD,WF,D]
 rw[if_neg J]at ap;obtain⟨ai,au,a4,cQ⟩:=ap;subst ai au a4 cQ;simp[ii,BG,BH,OD,WF,D,O,R]
def M6{n:N}(aj:jo n):ky (f7 (jD n))=(n,0,()):=by unfold ky;rw[Ih (Mw aj),avL aj,if_pos rfl,if_pos ⟨aj,rfl⟩]
def axf{v x:bT}{r:List bT}(h:fZ v.1 r=true):wU (v::r) x=if v.1<x.1 then v::wU r x else if v.1=x.1 then x::r else x::v::r:=by
 unfold wU;by_cases O:v.1<x.1
 .grind
 obtain⟨f1,f2,_⟩:=aaz (no:=x.1) J h
 grind
def axg{l:List bT}{x:bT}(hx:fT x.1 x.2.1=true):∀{last:Int},last<x.1->fZ last l=true->fZ last (wU l x)=true:=by
 induction l with
 |nil=>intro last O _;simp[wU,fZ,O,hx]
 |cons v r ih=>
  intro last O h;have bB:=h;simp only[fZ,cM,decide_eq_true_eq]at bB;rw[axf bB.2.2];by_cases R:v.1<x.1
  .rw[if_pos R]
   simp only[fZ,cM,decide_eq_true_eq]
   grind
  rw[if_neg R];by_cases ai:v.1=x.1
  .rw[if_pos ai]
   simp only[fZ,cM,decide_eq_true_eq]
   grind
  rw[if_neg ai];simp only[fZ,cM,decide_eq_true_eq]
  grind
def WY{n:N}(h:jo n):m5 n=(f7 (jD n),0,()):=by unfold m5;rw[if_pos h]
def ay5{v:bT}(h:fT v.1 v.2.1=true):(gr v).length<=v.2.1.length+2:=by
 obtain⟨k,l,O,R⟩:=vU.1 h;unfold gr qp;rw[O];simp only[if_pos R];rw[WW (rF O).1]
 grind
def WX{m:M}(aj:h_ m=true):(f7 m).length<=18+(m.2.1.map (λv=>v.2.1.length+2)).sum:=by
 have dp:=(qf.1 aj).1;have R:=yX (m:=m.1);have cy:=Qb (hz m.2.1);have n0:∀l:List bT,(∀v∈l,fT v.1 v.2.1=true)->(l.flatMap gr).length<=(l.map (λv=>v.2.1.length+2)).sum:=by
  intro l;induction l with
  |nil=>simp
  |cons v r ih=>
   intro h;have O:=ay5 (h v bf)
   grind
 have:=n0 m.2.1 λv aD=>(r' dp v aD).2;unfold f7
 grind
def ay3{n:N}(aj:jo n):(f7 (jD n)).length<=900:=by
 have h:=WX (Mw aj);obtain⟨kW,c,bR,rs,g,no,k,d,⟨⟩⟩:=n;obtain⟨ah,bp,ax,ek,e8,tg,ap⟩:=u6.1 aj;refine fv h ?_;unfold jD;cases kW
 .simp[nS]
 by_cases O:c=101
 .subst O
  rw[if_pos ⟨rfl,rfl⟩]at ap;simp[nS,rJ];omega
 by_cases R:c=201
 .subst R;simp[nS]
 simp[nS,O,R]
def afo(b:aa):(∃n,ky b=(n,0,())/\jo n/\f7 (jD n)=b)\/∃e,¬e=0/\ky b=(uQ,e,()):=by
 unfold ky;by_cases aq:(e9 b).2.1=0
 .obtain⟨m,hm⟩:∃m,e9 b=(m,0,()):=⟨(e9 b).1,by rw[<- aq]⟩
  rw[if_pos aq];by_cases O:jo (q' (e9 b).1)/\jD (q' (e9 b).1)=(e9 b).1
  .rw[if_pos O]
   refine .inl ⟨_,rfl,O.1,?_⟩;rw[hm]at O ⊢;exact(ay6 hm O.1).2 O.2
  grind
 grind
def avM{m:M}(aj:h_ m=true)(h:∀n',jo n'->¬jD n'=m):ky (f7 m)=(uQ,2,()):=by unfold ky;rw[Ih aj,if_pos rfl,if_neg λah=>h _ ah.1 ah.2]
def xl:=@BitVec.eq_of_toNat_eq
def JN:=@Nat.not_lt_zero
def Ko(c:UInt8):BitVec.ofInt 8 (aN c)=c.toBitVec:=by unfold aN;simp
def X?(c:UInt32):BitVec.ofInt 32 (a3 c)=c.toBitVec:=by unfold a3;simp
def ah2(v:BitVec 8):u8 (v.toNat:Int)=⟨v⟩:=by apply UInt8.toBitVec_inj.1;show BitVec.ofNat 8 (((v.toNat:Int)%2^8).toNat)=v;apply xl;rw[JR];omega
def ayv(v:BitVec 32):u32 (v.toNat:Int)=⟨v⟩:=by apply UInt32.toBitVec_inj.1;show BitVec.ofNat 32 (((v.toNat:Int)%2^32).toNat)=v;apply xl;rw[JR];omega
def auE(a b:UInt8):u8 (g? .u8 (aN a) (aN b))=a|||b:=by show u8 (((BitVec.ofInt 8 (aN a)|||BitVec.ofInt 8 (aN b)).toNat:Nat):Int)=_;rw[Ko,Ko,ah2];rfl
def ail(a b:UInt8):u8 (fO .u8 (aN a) (aN b))=a^^^b:=by show u8 (((BitVec.ofInt 8 (aN a)^^^BitVec.ofInt 8 (aN b)).toNat:Nat):Int)=_;rw[Ko,Ko,ah2];rfl
def H5(a b:UInt32):u32 (g? .u32 (a3 a) (a3 b))=a|||b:=by show u32 (((BitVec.ofInt 32 (a3 a)|||BitVec.ofInt 32 (a3 b)).toNat:Nat):Int)=_;rw[X?,X?,ayv];rfl
def atJ{c:UInt8}:aN c=aN (u8 0)↔c=0:=by
 constructor
 .intro h
  have R:(c.toNat:Int)=0:=h;exact zf.1 (by show c.toNat=0;omega)
 rintro rfl;rfl
def td(a b:aa):Nat->UInt8
 |0=>0
 |i+1=>td a b i|||(a.getD i 0^^^b.getD i 0)
def aeH(a b:aa):∀i,td a b i=0↔∀j,j<i->a.getD j 0=b.getD j 0
 |0=>⟨λ_ j h=>absurd h (JN j),λ_=>rfl⟩
 |i+1=>by
  have ih:=aeH a b i;have key:(td a b i|||(a.getD i 0^^^b.getD i 0))=0↔td a b i=0/\a.getD i 0=b.getD i 0:=bf;show(td a b i|||(a.getD i 0^^^b.getD i 0))=0↔_
  grind
def Mq(a b:aa)(hl:a.length<=9223372036854775807):Dx (a,b,())=some (seq a b,()):=by
 by_cases h:a.length=b.length
 .refine a0 cp ?_
  generalize hf:(λ(V:UInt8×Int×Unit)=>_)=f;have step:∀i,i<a.length->f (td a b i,(i:Int),())=some (.nx (td a b (i+1),((i+1:Nat):Int),())):=by intro i ac;subst hf;have e1:an a (ab (i:Int)) (u8 0)=a.getD i 0:=rfl;have aT:an b (ab (i:Int)) (u8 0)=b.getD i 0:=rfl;refine a? cp (a6 cp (a6 cp ?_));rw[e1,aT,ail,auE,show i64 (aC (i:Int) 1)=((i+1:Nat):Int) by simp(disch:=omega) only[go_sem]<;>omega];rfl
  have e0:f (td a b a.length,(a.length:Int),())=some (.ex 0 (td a b a.length,(a.length:Int),())):=by subst hf;exact bU cp
  have h5:bC f (u8 0,0,())=some (.ex 0 (td a b a.length,(a.length:Int),())):=by have:=kr (f:=f) (λi=>(td a b i,(i:Int),())) a.length step 0 (eS _);exact this.trans (dT e0)
  rw[h5];refine a6 g62 ?_;congr 2;rw[m7];unfold af seq;rw[beq_iff_eq,beq_iff_eq,atJ,aeH];constructor
  .intro ao
   refine sv h λi O R => ?_
   grind
  grind
 refine a? cp ?_;rw[NV (λe=>h (congrArg List.length e))]
end Yp
namespace Yp
open Go Go.Proofs Go.RowKit Go.Shelf
attribute [local go_sem] Oper.semAt_some
def aqP{res:Nat->Bool}{k:Nat}(ap:k<=n)(h:jz res n=[]):jz res k=[]:=by
 unfold jz at h ⊢;rw[Ff]at h ⊢
 grind
set_option maxRecDepth 100000 in
set_option maxHeartbeats 4000000 in
def apE(l' off cap b:Nat)(ad:Option Addr)(uD ul:Bool)(t3:Option Addr)(DH ak:Nat)(t2:Option Addr)(ta Cs:Nat)(bI:Nat->Value×Value)(res:Nat->Bool)(jg:∀j,∃a n c a' n' cN,bI j=(.slice a n c,.slice a' n' cN))(fV:l'<=9223372036854775807)(m:Nat)(w:World)
  (Y:0<l'->ad=some ⟨b,off,none⟩/\b<w.heap.size)
  (nY:∀j,j<l'->w.cell? ⟨b,off+j*2,none⟩=some (bI j).1) (sY:∀j,j<l'->w.cell? ⟨b,off+j*2+1,none⟩=some (bI j).2)
  (So:∀j,j<l'->∀n w',Below w.heap.size w w'->CallsIn Fence.wide n Tryz.prog 250 #[.agg #[.slice t3 DH ak,.slice t2 ta Cs],.agg #[(bI j).1,(bI j).2]] w' λe Jn=>e=.returned (.bool (res j))/\Below w'.heap.size w' Jn) :
  CallsIn Fence.wide (m+3) Tryz.prog 199 #[.agg #[.bool uD,.slice ad l' cap,.bool ul],.slice t3 DH ak,.slice t2 ta Cs] w λe w'=>e=.returned (.bool (jz res l' != []))/\Below w.heap.size w w':=by
 have azX:Fence.wide.fn 251:=trivial;refine callsIn_of_wp_marks Tryz.func199 rfl trivial ?_ rfl;simp only[Tryz.ntmps199,pD,fQ,gu,Nat.reduceAdd,Nat.reduceSub,rn,o4,tR,BS,pE,l9]
 gi_wp2_with (gi_at_call 251;refine(aok _ _ _ _ _ _ rfl).mono ?_;rintro e w' ⟨rfl,rfl⟩)
 have e_:=Boxed.new (w.alloc (.cells #[.bool uD,.slice ad l' cap,.bool ul] 53)) 4 (.bool false);have eC:=Boxed.new ((w.alloc (.cells #[.bool uD,.slice ad l' cap,.bool ul] 53)).alloc (.cells #[.bool false] 4)) 51 (.slice ad l' cap);have j0:=Boxed.new (((w.alloc (.cells #[.bool uD,.slice ad l' cap,.bool ul] 53)).alloc (.cells #[.bool false] 4)).alloc (.cells #[.slice ad l' cap] 51)) 340 (.func (.func 250) #[.agg #[.slice t3 DH ak,.slice t2 ta Cs]] #[]);simp only[World.size_alloc]at e_ eC j0;obtain⟨hX,n2⟩:∃hX,hX=((((w.alloc (Obj.cells #[Value.bool uD,Value.slice ad l' cap,Value.bool ul] 53)).alloc (Obj.cells #[Value.bool false] 4)).alloc (Obj.cells #[Value.slice ad l' cap] 51)).alloc (Obj.cells #[Value.func (Fn.func 250) #[Value.agg #[Value.slice t3 DH ak,Value.slice t2 ta Cs]] #[]] 340)):=⟨_,rfl⟩;have ajD:Boxed hX (w.heap.size+1) 4 (.bool false):=by rw[n2];exact(e_.alloc _).alloc _
 have ajE:Boxed hX (w.heap.size+1+1) 51 (.slice ad l' cap):=by rw[n2];exact eC.alloc _
 have ajF:Boxed hX (w.heap.size+1+1+1) 340 (.func (.func 250) #[.agg #[.slice t3 DH ak,.slice t2 ta Cs]] #[]):=by rw[n2];exact j0
 have LA:Below w.heap.size w hX:=by rw[n2];exact((((Below.refl _ w).alloc (bX _) _).alloc bf _).alloc fS _).alloc fS _
 have arz:hX.heap.size=w.heap.size+1+1+1+1:=by rw[n2];simp
 rw[<- n2];clear e_ eC j0;refine wpIn_rangeFunc_ownG (w0:=hX) rfl J (gf:=284) (lb:=#[.pointer (some ⟨w.heap.size+1+1,0,none⟩),.pointer (some ⟨w.heap.size+1+1+1,0,none⟩)]) rfl trivial (enters_of Tryz.func284 (by kernel_rfl) rfl)
   (encs:=λx:Nat=>#[.int .i64 (x:Int)]) (Kp:=Below hX.heap.size) (S:=λbn=>bn=jz res l') (Sp:=λpre=>∃k,k<=l'/\pre=jz res k) (N:=l')
   ?seq ?kt ?kb (Below.refl _ _) (λ_=>rfl)
   (λpre W=>(pre=[]/\Boxed W (w.heap.size+1) 4 (.bool false))/\Below w.heap.size w W)
   (λc pre W=>((c=.ret/\pre≠[])/\Boxed W (w.heap.size+1) 4 (.bool true))/\Below w.heap.size w W)
   (OwnFrom.and (OwnFrom.and (ownFrom_pure _ _) (Own.from (boxed_own (w.heap.size+1) 4 (λ_=>.bool false)) _)) (ownFrom_below (bX _) J))
   (λc=>OwnFrom.and (OwnFrom.and (ownFrom_pure _ _) (Own.from (boxed_own (w.heap.size+1) 4 (λ_=>.bool true)) _)) (ownFrom_below (bX _) J))
   ?start ?cK ?assign ?body ?done ?stop
 case assign=>
  intro l x W K fH
  gi_wp2
  exact fH
 case seq=>
  intro l ic st W hW mh abB v0 aq;refine(aoj (m+1) l (w.heap.size+1+1) (w.heap.size+1+1+1) hX.heap.size b off cap l' ad (.slice t3 DH ak) (.slice t2 ta Cs) bI res jg fV (λh=>⟨(Y h).1,by have:=(Y h).2;omega⟩) ic st (λs k0 nL ae Y=>mh s k0 nL none ae ⟨Y.os,Y.tape,Y.output,Y.size,λk ap _=>Y.block k ap⟩ (λr e=>by cases e)) (λpre x k0 ao _ _ hl=>v0 pre x k0 ao hl) W ?_ ?_ J J hW.size (λj ao => ?_) (λj ao => ?_) (λj ao w' Ac => ?_) aq).mono ?_
  .exact(hW.cell (p:=⟨w.heap.size+1+1,0,none⟩) fS).trans ajE.cell
  .exact(hW.cell (p:=⟨w.heap.size+1+1+1,0,none⟩) fS).trans ajF.cell
  .have dM:=(Y J).2
   exact(hW.cell (p:=⟨b,off+j*2,none⟩) fS).trans ((LA.cell (p:=⟨b,off+j*2,none⟩) dM).trans (nY j ao))
  .have dM:=(Y J).2
   exact(hW.cell (p:=⟨b,off+j*2+1,none⟩) fS).trans ((LA.cell (p:=⟨b,off+j*2+1,none⟩) dM).trans (sY j ao))
  .exact So j ao _ _ (LA.trans ((hW.trans Ac).mono J))
  rintro e gg ⟨az,h⟩;exact⟨az,h.elim (λh=>.inl ⟨_,rfl,h⟩) (λ⟨k,ap,h⟩=>.inr ⟨_,⟨k,ap,rfl⟩,h⟩)⟩
 case kt=>exact λh k=>h.trans k
 case kb =>intro W l o dz hl aO O R;exact belowK_b (w:=hX) (bX _) W l o dz hl aO O R
 case start=>exact⟨⟨rfl,ajD⟩,LA⟩
 case body=>
  rintro l pre x W ⟨⟨rfl,aD⟩,aB⟩ bi;have ah:=aD.cell;have hf:=aD.frozen
  gi_wp2
  exact⟨(KeepsOthers.setCell _ _ _).from _,⟨⟨rfl,bf⟩,aD.set _⟩,aB.trans ((Below.refl _ _).setCell (p:=⟨w.heap.size+1,0,none⟩) bf _)⟩
 case done=>
  rintro D bn W jv rfl ⟨⟨aq,aD⟩,aB⟩ fH;have ah:=aD.cell;have hf:=aD.frozen
  gi_wp2
  have lS:=(KeepsOthers.setCell W ⟨w.heap.size+1,0,none⟩ (.bool false)).same D _ fH rfl;refine⟨bf,.inl ⟨_,_,rfl,run_takeDeferred lS,?_⟩⟩;have bh:Boxed ((W.setCell ⟨w.heap.size+1,0,none⟩ (.bool false)).putObj D (.deferred none)) (w.heap.size+1) 4 (.bool false):=(aD.set (.bool false)).kept (grownBy_putObj' _ D _) (λe=>by cases e;omega);refine⟨.bool false,by simp[results,Tryz.f199,go_sem,bh.cell],by rw[aq];rfl,?_⟩;exact(aB.trans ((Below.refl _ _).setCell (p:=⟨w.heap.size+1,0,none⟩) bf _)).trans (belowK_b (w:=w) (bX _) _ D _ _ J lS rfl rfl)
 case stop=>
  rintro D c pre W jv ⟨k,ap,rfl⟩ ⟨⟨⟨rfl,e3⟩,aD⟩,aB⟩ fH;have ah:=aD.cell
  gi_wp2
  refine⟨bf,.inl ⟨_,_,rfl,run_takeDeferred fH,?_⟩⟩;have bh:Boxed (W.putObj D (.deferred none)) (w.heap.size+1) 4 (.bool true):=aD.kept (grownBy_putObj' _ D _) (λe=>by cases e;omega);refine⟨.bool true,by simp[results,Tryz.f199,go_sem,bh.cell],?_,?_⟩
  .have:jz res l'≠[]:=λe=>e3 (aqP ap e)
   simp[this]
  exact aB.trans (belowK_b (w:=w) (bX _) _ D _ _ J fH rfl rfl)
end Yp
namespace Yp
open Go Go.Proofs Go.RowKit Go.Shelf
abbrev apD:=aa×aa×Unit
abbrev wH:ag:=.pair (.sl (.int .u8)) (.pair (.sl (.int .u8)) .unit)
def U4(x:(aa×aa×Unit)×(aa×aa×Unit)×Unit):Option (Bool×Unit):=
 ob (Dx (x.1.1,x.2.1.1,())) λ(a:Bool×Unit)=>
 ob (T a.1 (ob (Dx (x.1.2.1,x.2.1.2.1,())) λ(a:Bool×Unit)=>some (a.1,())) (some (false,()))) λ(a:Bool×Unit)=>some (a.1,())
abbrev awZ:ff:=⟨[wH,wH],[.im (.bool)],U4⟩
set_option maxRecDepth 100000 in
def alq(kk:hb Tryz.prog 233 ID):hb Tryz.prog 250 awZ:=Mt (E:=f_ [(233,ID)] [] [] [] none false false 0) (p? (ay aX kk) aY jR q0 rZ) Tryz.func250 5 (by kernel_rfl) (by kernel_rfl) (λx=>by kernel_rfl)
def auP(k b e f:aa)(ap:k.length<=9223372036854775807)(Y:b.length<=9223372036854775807):U4 ((k,b,()),(e,f,()),())=some (cV (seq k e) (seq b f),()):=by unfold U4;rw[Mq _ _ ap];rw[Mq _ _ Y];cases seq k e<;>rfl
def ayM{w w':World}{X:Nat->Prop}(Y:Below w.heap.size w w'):(view w X).cc (view w' X):=by intro b o h;obtain⟨O,R⟩:=kd.1 h;refine kd.2 ⟨O,?_⟩;rw[Y.block b (iR.1 R).1];exact R
def aw6{c:Array Value}{o:Nat}(h:o+2<=c.size):cJ c o 2=[c[o],c[o+1]]:=by unfold cJ;rw[l_ (by grind),l_ (by grind)];simp
def ajQ{w w':World}{X:Nat->Prop}{rs:List ez}{r:eq rs}{bY:Value}(h:i4 w X w' rs r bY):Below w.heap.size w w':=by obtain⟨aA,O,R,ai,au,a4,_⟩:=h;exact⟨O,R,ai,au,a4⟩
def ajl(l:List α)(q:α->Bool)(res:Nat->Bool)(h:∀j x,l[j]?=some x->res j=q x):(jz res l.length != [])=l.any q:=by
 rw[m7];simp;unfold jz;rw[Ff];constructor
 .intro am
  by_cases hx:∃x,x∈l/\q x=true
  .exact hx
  refine absurd (λj ao => ?_) am;have lu:=qu.1 ao;rw[h j l[j] (kg lu)]
  grind
 rintro⟨x,hx,a_⟩ am;obtain⟨j,ao,rfl⟩:=o3 hx;refine am j (qu.2 ao) ?_
 grind
abbrev agl:ff:=⟨[.pair (.bool) (.pair (.sl wH) (.pair (.bool) (.unit))),.sl (.int .u8),.sl (.int .u8)],[.im (.bool)],Ic⟩
set_option maxRecDepth 100000 in
def apF(kk:hb Tryz.prog 233 ID)(uD ul:Bool)(jX:List apD)(key t5:aa){w:World}{X:Nat->Prop}(dL:∀b,X b->b<w.heap.size)(lv:ly Tryz.prog (view w X)){hd rA KN:List Value}
  (R:aJ (view w X) (.sl wH) jX hd) (ap:aJ (view w X) (.sl (.int .u8)) key rA) (Y:aJ (view w X) (.sl (.int .u8)) t5 KN) :
  Calls Tryz.prog 199 #[.agg (#[.bool uD]++hd.toArray ++ #[.bool ul]),rA.headD undef,KN.headD undef] w λe w'=>∃bY,e=.returned bY/\i4 w X w' [.im .bool] ((jX.any λe=>cV (seq key e.1) (seq t5 e.2.1),()):Bool×Unit) bY:=by
 have SY:=ap;have j6:=Y;obtain⟨ad,cap,rfl,dW,eF,mv⟩:=aJ.iL.1 R;obtain⟨t3,QX,rfl,bD,b1,_⟩:=aJ.iL.1 ap;obtain⟨t2,QW,rfl,e_,eC,_⟩:=aJ.iL.1 Y;have jB:maxLen<=9223372036854775807:=by unfold maxLen;omega
 have C?:key.length<=9223372036854775807:=fv bD (fv b1 jB);have dM:t5.length<=9223372036854775807:=fv e_ (fv eC jB);have s3:jX.length<=9223372036854775807:=fv dW (fv eF jB)

 obtain⟨b,off,bI,GT,jg,nY,sY,qR⟩:∃(b off:Nat) (bI:Nat->Value×Value),(0<jX.length->ad=some ⟨b,off,none⟩/\b<w.heap.size)/\(∀j,∃a n c a' n' cN,bI j=(.slice a n c,.slice a' n' cN)) /\
   (∀j,j<jX.length->w.cell? ⟨b,off+j*2,none⟩=some (bI j).1)/\(∀j,j<jX.length->w.cell? ⟨b,off+j*2+1,none⟩=some (bI j).2) /\
   (∀j (e:aa×aa×Unit),jX[j]?=some e->aJ (view w X) wH e [(bI j).1,(bI j).2]):=by
  rcases mv with mv|⟨b,o,c,el,fz,bc,aD,c3,GF⟩
  .refine⟨0,0,λ_=>(.slice none 0 0,.slice none 0 0),λh => ?_,λ_=>⟨_,_,_,_,_,_,rfl⟩,λj ao => ?_,λj ao => ?_,λj e az => ?_⟩
   .rw[show jX=[] from mv]at h;simp at h
   .rw[show jX=[] from mv]at ao;simp at ao
   .rw[show jX=[] from mv]at ao;simp at ao
   rw[show jX=[] from mv]at az;simp at az
  obtain⟨oJ,hh⟩:=kd.1 aD;have arH:o+jX.length*2<=c.size:=c3;have uz:∀j e,jX[j]?=some e->∃(h:o+j*2+2<=c.size),aJ (view w X) wH e [c[o+j*2],c[o+j*2+1]]:=by intro j e az;have ao:j<jX.length:=(nF.1 az).1;have bV:o+j*2+2<=c.size:=J;refine⟨bV,?_⟩;have:=GF j e az;rw[show cJ c (o+j*wH.size) wH.size=cJ c (o+j*2) 2 from rfl,aw6 bV]at this;exact this
  have p6:∀(l:aa) (v:Value),aJ (view w X) (.sl (.int .u8)) l [v]->∃a n c,v=.slice a n c:=by intro l v h;obtain⟨a,gW,az,_⟩:=aJ.iL.1 h;cases az;exact⟨_,_,_,rfl⟩
  have arn:∀(e:aa×aa×Unit) (u v:Value),aJ (view w X) wH e [u,v]->(∃a n c,u=.slice a n c)/\∃a n c,v=.slice a n c:=by intro e u v h;obtain⟨d1,d2,aI,bG,ca⟩:=aJ.mU.1 h;obtain⟨d3,ZQ,x2,cr,du⟩:=aJ.mU.1 ca;obtain rfl:=aJ.BF.1 du;have fk:d1.length=1:=bG.length;have rV:d3.length=1:=cr.length;obtain⟨y,rfl⟩:=List.length_eq_one_iff.1 fk;obtain⟨z,rfl⟩:=List.length_eq_one_iff.1 rV;subst x2;simp only[List.singleton_append,iE,oq,and_true]at aI;obtain⟨rfl,rfl⟩:=aI;exact⟨p6 _ _ bG,p6 _ _ cr⟩
  refine⟨b,o,λj=>if h:j<jX.length then(c[o+j*2]'J,c[o+j*2+1]'J) else(.slice none 0 0,.slice none 0 0),λ_=>⟨bc,(iR.1 hh).1⟩,λj => ?_,λj ao => ?_,λj ao => ?_,λj e az => ?_⟩
  .by_cases ao:j<jX.length
   .obtain⟨bV,aj⟩:=uz j _ (kg ao)
    obtain⟨⟨a,n,amx,e1⟩,⟨a',n',amy,aT⟩⟩:=arn _ _ _ aj;exact⟨a,n,amx,a',n',amy,by dsimp only;rw[dif_pos ao,e1,aT]⟩
   exact⟨_,_,_,_,_,_,dif_neg ao⟩
  .dsimp only;rw[dif_pos ao,World.cell?,hh];simp[show o+j*2<c.size by omega]
  .dsimp only;rw[dif_pos ao,World.cell?,hh];simp[show o+j*2+1<c.size by omega]
  have ao:j<jX.length:=(nF.1 az).1;dsimp only;rw[dif_pos ao];exact(uz j e az).2
 let q:aa×aa×Unit->Bool:=λe=>cV (seq key e.1) (seq t5 e.2.1)
 let res:Nat->Bool:=λj=>match jX[j]? with|some e=>q e|none=>false
 have Mr:=apE jX.length off cap b ad uD ul t3 key.length QX t2 t5.length QW bI res jg s3 0 w GT nY sY (λj ao n w' Ac => ?_)
 .refine(callsIn_wide (n:=3)).1 (Mr.mono ?_)
  rintro e w' ⟨rfl,C5⟩;refine⟨_,rfl,X,C5.os,C5.tape,C5.output,C5.size,C5.block,λ_ _=>PB,λb h=>iF (dL b h) C5.size,[.bool (jz res jX.length != [])],?_,rfl⟩;refine⟨[.bool _],[],rfl,aJ.oA.2 ?_,rfl⟩;rw[ajl jX q res (λj e az=>by show(match jX[j]? with|some e=>q e|none=>false)=q e;rw[az])]
 refine callsIn_wide.2 ?_;have az:=kg ao;have bu:=Ac;have bV:(view w X).cc (view w' X):=ayM bu;have:=(alq kk).2 w' X ((key,t5,()),(jX[j].1,jX[j].2.1,()),()) [.agg #[.slice t3 key.length QX,.slice t2 t5.length QW],.agg #[(bI j).1,(bI j).2]] _ (λb h=>iF (dL b h) bu.size) (lv.mono bV)
  ⟨[.slice t3 key.length QX,.slice t2 t5.length QW],_,rfl,aJ.mU.2 ⟨[_],[_],rfl,SY.mono bV,aJ.mU.2 ⟨[_],[],rfl,j6.mono bV,aJ.BF.2 rfl⟩⟩,[(bI j).1,(bI j).2],[],rfl,(qR j _ az).mono bV,rfl⟩
  (auP _ _ _ _ C? dM)
 refine this.mono ?_;rintro e Jn ⟨bY,rfl,aj⟩;refine⟨?_,ajQ aj⟩;obtain⟨aA,_,_,_,_,_,_,_,us,aD,rfl⟩:=aj;obtain⟨ds,aAm,rfl,ah,rfl⟩:=aD;obtain rfl:=aJ.oA.1 ah;show Ending.returned (.bool _)=Ending.returned (.bool (match jX[j]? with|some e=>q e|none=>false));rw[az]
set_option maxRecDepth 100000 in
def apy(kk:hb Tryz.prog 233 ID):hb Tryz.prog 199 agl:=by refine⟨⟨Tryz.f199,Tryz.func199,by kernel_rfl,by kernel_rfl⟩,?_⟩;intro w X x vs r dL lv bc aj;obtain⟨⟨uD,jX,ul,⟨⟩⟩,key,t5,⟨⟩⟩:=x;obtain rfl:=om aj;obtain⟨cs,ah9,rfl,hp,rA,nB,rfl,ap,KN,ayN,rfl,Y,rfl⟩:=bc;obtain⟨c1,c2,rfl,O,hp⟩:=aJ.mU.1 hp;obtain⟨hd,c4,rfl,R,hp⟩:=aJ.mU.1 hp;obtain⟨c5,azo,rfl,ai,hp⟩:=aJ.mU.1 hp;obtain rfl:=aJ.BF.1 hp;obtain rfl:=aJ.oA.1 O;obtain rfl:=aJ.oA.1 ai;have:=apF kk uD ul jX key t5 dL lv R ap Y;refine cast ?_ this;congr 1;simp[cB,ag.isAgg]
end Yp
namespace Yp
open Go Go.Proofs Go.RowKit Go.Shelf
def JJ:=@List.filter_cons_of_neg
attribute [-go_sem] g02 g03 g04 g05 g06 g01 g07 g08 g09 g10 g11 g12 g13 g14 g15 g16 g17 g18 g19 g20 g21 g22 g23 g24 g25 g26 g27 g28 g29 g30 g31 g32 g34 g35 g36 g37 g38 g39 g40 g41 g42 g43 g44 g45 g46 g47 g48 g49 g50 g51 g52 g53 g54 g55 g56 g57 g58 g60 g61 lc_rt' lc_ex' lc_nx g62 g63 nth_get g33 g64 g65 g66
attribute [local go_sem] Oper.semAt_some
def ajP{w w':World}{X:Nat->Prop}{rs:List ez}{r:eq rs}{bY:Value}(h:i4 w X w' rs r bY):Below w.heap.size w w':=by obtain⟨aA,O,R,ai,au,a4,_⟩:=h;exact⟨O,R,ai,au,a4⟩
def asS{P:Program}{w w':World}{X:Nat->Prop}(h:ly P (view w X))(Y:Below w.heap.size w w'):ly P (view w' X):=
 h.mono λb o aD=>by obtain⟨hx,hh⟩:=kd.1 aD;exact kd.2 ⟨hx,(Y.block b (iR.1 hh).1).trans hh⟩
def au1{P:Program}{f:Nat}(oG:hb P f ⟨[.int .i64],[.im (.int .i64),.im (.int .u8)],t7⟩)(O:1<=n)(R:n<=128)(m:Nat)(w:World){X:Nat->Prop}(dL:∀b,X b->b<w.heap.size)(ap:ly P (view w X)):
  CallsIn Fence.wide m P f #[.int .i64 (n:Int)] w λe w'=>e=.returned (.tuple #[.int .i64 (((n-1)/8:Nat):Int),.int .u8 (aN (t6 ((n-1)%8)))])/\Below w.heap.size w w':=by
 refine callsIn_wide.2 ?_;have:=oG.2 w X ((n:Int),()) [.int .i64 (n:Int)] (_,_,()) dL ap ⟨[.int .i64 (n:Int)],[],rfl,aJ.jl.2 rfl,rfl⟩ (XY O R);refine this.mono ?_;rintro e w' ⟨bY,rfl,aj⟩;refine⟨?_,ajP aj⟩;obtain⟨aA,_,_,_,_,_,_,_,vs,aD,rfl⟩:=aj;obtain⟨cs,ah9,rfl,ah,rA,nB,rfl,pb,rfl⟩:=aD;have mK:=aJ.jl.1 ah;have apT:=aJ.jl.1 pb;subst mK apT;rfl
def iD(b8:aa)(k:Nat):List Nat:=(List.range k).filter λn=>Nat.ble 1 n&&iw b8 n
def ais(b8:aa)(k:Nat):iD b8 (k+1)=iD b8 k++if(Nat.ble 1 k&&iw b8 k)=true then[k]else[]:=by
 unfold iD;rw[Fg,E4]
 grind
def aj4:∀c:UInt8,∀t:Nat,t<8->(Go.bits BinOp.and IntKind.u8 (aN c) (aN (t6 t)) != 0)=bt c t:=vG kK
def W6(b8:aa)(k:Nat)(h:1<=k):(iD b8 k).length<k:=by
 obtain⟨j,rfl⟩:∃j,k=j+1:=⟨k-1,J⟩;have aq:iD b8 (j+1)=(((List.range j).map (·+1)).filter λn=>Nat.ble 1 n&&iw b8 n):=by unfold iD;rw[List.range_succ_eq_map,JJ bf]
 rw[aq];have:=sr (λn=>Nat.ble 1 n&&iw b8 n) ((List.range j).map (·+1));simp only[xf,ru]at this;omega
def TM(n₀ rk:Nat)(W gg:World):Prop:=Below n₀ W gg/\gg.cell? ⟨rk,0,none⟩=W.cell? ⟨rk,0,none⟩
set_option maxRecDepth 100000 in
set_option maxHeartbeats 2000000 in
def agH(oG:hb Tryz.prog 283 ⟨[.int .i64],[.im (.int .i64),.im (.int .u8)],t7⟩)(w0:World)(X:Nat->Prop)(dL:∀b,X b->b<w0.heap.size)(p1:ly Tryz.prog (view w0 X))(n l rk n₀ b off cap:Nat)(b8:aa)(b9:b8.length<=16)(Y:b<n₀)(ic st:List Nat->World->Prop)
  (mh:∀s W gg,ic s W->Below W.heap.size W gg->ic s gg)
  (v0:∀(pre:List Nat) (x:Nat) W,ic pre W->1<=x->x<=128->pre.length<128->YieldAt Fence.wide n Tryz.prog l #[.int .i64 (x:Int)] W λe gg=>
   (e=.returned (.bool true)/\ic (pre++[x]) gg/\TM n₀ rk W gg)\/(e=.returned (.bool false)/\st (pre++[x]) gg))
  (W:World) (abr:Below w0.heap.size w0 W) (p2:n₀=w0.heap.size) (apd:W.cell? ⟨rk,0,none⟩=some (.slice (some ⟨b,off,none⟩) b8.length cap)) (abw:rk<W.heap.size) (am:n₀<=W.heap.size) (ah:∀j,(h:j<b8.length)->W.cell? ⟨b,off+j,none⟩=some (.int .u8 (aN b8[j]))) (aq:ic [] W) :
  CallsIn Fence.wide (n+1) Tryz.prog 289 #[.func (.yield l) #[] #[],.pointer (some ⟨rk,0,none⟩)] W λe gg=>(∃v,e=.returned v) /\
   (ic (iD b8 (8*b8.length+1)) gg\/(∃k,k<=8*b8.length+1/\st (iD b8 k) gg)):=by
 have azZ:Fence.wide.fn 283:=trivial;refine callsIn_of_wp Tryz.func289 rfl trivial ?_ rfl;simp only[Tryz.ntmps289,pD,fQ,gu,Nat.reduceAdd,Nat.reduceSub,rn,o4,tR,BS,pE,l9]
 gi_wp2
 gi_loopw [3] (λi wr=>∃k:Nat,1<=k/\k<=8*b8.length+1/\i=.int .i64 k/\ic (iD b8 k) wr/\Below n₀ W wr/\W.heap.size<=wr.heap.size/\wr.cell? ⟨rk,0,none⟩=some (.slice (some ⟨b,off,none⟩) b8.length cap))
  (λi _=>8*b8.length+1-(intOf i).toNat)
 case atStart=>exact⟨1,bX _,J,rfl,by have:iD b8 1=[]:=(by unfold iD;rfl);rw[this];exact aq,Below.refl _ _,bX _,apd⟩
 case round=>
  obtain⟨k,rN,ap,rfl,C1,oJ,c3,abx⟩:=hrel;by_cases bi:k<=8*b8.length
  .have bV:(k:Int)<=8*(b8.length:Int):=J
   obtain⟨p,t,c,ji,LS,arK,abP,Gy⟩:∃(p t:Nat) (c:UInt8),(∀w,Below w0.heap.size w0 w->CallsIn Fence.wide n Tryz.prog 283 #[.int .i64 (k:Int)] w λe w'=>e=.returned (.tuple #[.int .i64 (p:Int),.int .u8 (aN (t6 t))])/\Below w.heap.size w w')/\p<b8.length/\t<8/\W.cell? ⟨b,off+p,none⟩=some (.int .u8 (aN c))/\bt c t=iw b8 k:=by have LS:(k-1)/8<b8.length:=J;refine⟨(k-1)/8,(k-1)%8,b8[(k-1)/8],λck s4=>au1 oG rN (show k<=128 by omega) n ck (λb h=>iF (dL b h) s4.size) (asS p1 s4),LS,J,ah _ LS,?_⟩;unfold iw;rw[nth_get LS]
   have azR:(p:Int)<(b8.length:Int):=J;have Gx:=aj4 c t arK;rw[Gy]at Gx;have az0:(Fence.wide).depth.isSome=true->1<=n:=λh=>by cases h
   cases hh:iw b8 k
   .rw[hh]at Gx
    have bh:Go.bits BinOp.and IntKind.u8 (aN c) (aN (t6 t))=0:=by simpa using Gx
    have n3:iD b8 (k+1)=iD b8 k:=by rw[ais,hh,Bool.and_false,if_neg bf,iE]
    clear Gy Gx hh
    gi_wp2_with (gi_at_call 283;refine(ji _ (abr.trans (p2▸oJ))).mono ?_;rintro e ck ⟨rfl,hb1⟩;have Sj:ck.cell? ⟨rk,0,none⟩=some (.slice (some ⟨b,off,none⟩) b8.length cap):=(hb1.cell (p:=⟨rk,0,none⟩) (iF abw c3)).trans abx;have ap7:ck.cell? ⟨b,off+p,none⟩=some (.int .u8 (aN c)):=(hb1.cell (p:=⟨b,off+p,none⟩) (iF Y (fv am c3))).trans ((oJ.cell (p:=⟨b,off+p,none⟩) Y).trans abP))
    refine⟨λ_ _=>trivial,?_⟩
    gi_wp2
    refine⟨⟨k+1,J,J,bf,by rw[n3];exact mh _ _ _ C1 hb1,oJ.trans (hb1.mono (fv am c3)),fv c3 hb1.size,Sj⟩,?_⟩;simp[intOf];omega
   rw[hh]at Gx;have n3:iD b8 (k+1)=iD b8 k++[k]:=by have:Nat.ble 1 k=true:=J4 rN;rw[ais,hh,this];rfl
   have L3:=W6 b8 k rN;have apu:=λck (ao:ic (iD b8 k) ck)=>v0 _ k ck ao rN (show k<=128 by omega) J;clear Gy hh
   gi_wp2_with (gi_at_call 283;refine(ji _ (abr.trans (p2▸oJ))).mono ?_;rintro e ck ⟨rfl,hb1⟩;have Sj:ck.cell? ⟨rk,0,none⟩=some (.slice (some ⟨b,off,none⟩) b8.length cap):=(hb1.cell (p:=⟨rk,0,none⟩) (iF abw c3)).trans abx;have ap7:ck.cell? ⟨b,off+p,none⟩=some (.int .u8 (aN c)):=(hb1.cell (p:=⟨b,off+p,none⟩) (iF Y (fv am c3))).trans ((oJ.cell (p:=⟨b,off+p,none⟩) Y).trans abP);obtain⟨fn,tmps,assign,body,bs,jw⟩:=apu ck (mh _ _ _ C1 hb1))
   refine jw.mono ?_;rintro e ai1 (⟨rfl,Sr,fy⟩|⟨rfl,Ss⟩)
   .gi_wp2
    refine⟨⟨k+1,J,J,bf,by rw[n3];exact Sr,(oJ.trans (hb1.mono (fv am c3))).trans fy.1,fv c3 (fv hb1.size fy.1.size),fy.2.trans Sj⟩,?_⟩;simp[intOf];omega
   gi_wp2
   refine bodyPost_ret (results_none rfl _ _ _) rfl ?_;exact⟨⟨_,rfl⟩,.inr ⟨k+1,J,by rw[n3];exact Ss⟩⟩
  have qO:k=8*b8.length+1:=J;subst qO;have v7:¬((8*b8.length+1:Nat):Int)<=8*(b8.length:Int):=J
  gi_wp2
  go_end0
  exact⟨⟨_,rfl⟩,.inl C1⟩
end Yp
namespace Yp
open Go Go.Proofs Go.RowKit Go.Shelf
def J8:=@List.getElem?_take_of_lt
attribute [-go_sem] g02 g03 g04 g05 g06 g01 g07 g08 g09 g10 g11 g12 g13 g14 g15 g16 g17 g18 g19 g20 g21 g22 g23 g24 g25 g26 g27 g28 g29 g30 g31 g32 g34 g35 g36 g37 g38 g39 g40 g41 g42 g43 g44 g45 g46 g47 g48 g49 g50 g51 g52 g53 g54 g55 g56 g57 g58 g60 g61 lc_rt' lc_ex' lc_nx g62 g63 nth_get g33 g64 g65 g66
attribute [local go_sem] Oper.semAt_some
abbrev zl:List ez:=[.ow (.int .i64),.im (.int .i64),.im (.int .i64)]
def yI{w w':World}{X:Nat->Prop}(dL:∀b,X b->b<w.heap.size)(Y:Below w.heap.size w w')(e:Int):i4 w X w' zl (([],0,e,()):List Int×Int×Int×Unit) (.tuple #[.slice none 0 0,.int .i64 0,.int .i64 e]):=by refine⟨X,Y.os,Y.tape,Y.output,Y.size,Y.block,λ_ _=>PB,λb h=>iF (dL b h) Y.size,[.slice none 0 0,.int .i64 0,.int .i64 e],?_,rfl⟩;exact⟨_,_,rfl,.inl ⟨rfl,⟨none,rfl⟩,⟨[.int .i64 0],_,rfl,aJ.jl.2 rfl,⟨[.int .i64 e],_,rfl,aJ.jl.2 rfl,rfl⟩⟩⟩⟩
def afD{w w':World}{X:Nat->Prop}(dL:∀b,X b->b<w.heap.size)(Y:Below w.heap.size w w'){v:Value}(aO:w'.ownsRow w.heap.size 3 1 v l.length (l.map (Value.int .i64)))(n:Int):i4 w X w' zl ((l,n,0,()):List Int×Int×Int×Unit) (.tuple #[v,.int .i64 n,.int .i64 0]):=by
 obtain⟨_,⟨rfl,aq⟩|⟨g,cap,g3,rfl,hg,hh,sY,pb,abO,azF⟩⟩:=aO
 .have:l=[]:=lJ.1 aq
  subst this;refine⟨X,Y.os,Y.tape,Y.output,Y.size,Y.block,λ_ _=>PB,λb h=>iF (dL b h) Y.size,[.slice none 0 0,.int .i64 n,.int .i64 0],?_,rfl⟩;exact⟨_,_,rfl,.inl ⟨rfl,⟨none,rfl⟩,⟨[.int .i64 n],_,rfl,aJ.jl.2 rfl,⟨[.int .i64 0],_,rfl,aJ.jl.2 rfl,rfl⟩⟩⟩⟩
 have aqJ:g<w'.heap.size:=(iR.1 hh).1;refine⟨λb=>X b\/b=g,Y.os,Y.tape,Y.output,Y.size,Y.block,λb dM=>⟨λh=>h.elim id (λe=>J),.inl⟩,λb h=>h.elim (λh=>iF (dL b h) Y.size) (λe=>e▸aqJ),[.slice (some ⟨g,0,none⟩) l.length cap,.int .i64 n,.int .i64 0],?_,rfl⟩;refine⟨_,_,rfl,.inr ⟨g,⟨0,g3,3,(0,0),cap,rfl,sY,pb,?_,hh,⟨?_,?_⟩,?_,.inr rfl,λh=>absurd (h) (Nat.not_lt.2 hg),λh=>h⟩,⟨[.int .i64 n],_,rfl,aJ.jl.2 rfl,⟨[.int .i64 0],_,rfl,aJ.jl.2 rfl,rfl⟩⟩⟩⟩
 .show 0+cap*1<=g3.size
  omega
 .show 0+l.length*1<=g3.size
  omega
 .intro i x ac
  have eH:l[i]?=some x:=ac;have bi:i<l.length:=(nF.1 eH).1;show cJ g3 (0+i*1) 1=[Value.int .i64 x];rw[js,pG];have O:g3.toList[i]?=some (Value.int .i64 x):=by
   have R:(List.take (l.length*1) g3.toList)[i]?=g3.toList[i]?:=J8 J
   grind
  obtain⟨aqY,GM⟩:=nF.1 O;unfold cJ;rw[l_ aqY,GM];rfl
 exact .inl rfl
def vI(w:World)(lX mR UB:Obj):Below w.heap.size w (((w.alloc lX).alloc mR).alloc UB):=(((Below.refl _ w).alloc (bX _) _).alloc bf _).alloc fS _
set_option maxRecDepth 100000 in
set_option maxHeartbeats 2000000 in
def avQ(a:Option Addr)(n cap:Nat)(df:Int)(h:df<0)(m:Nat)(w:World)(X:Nat->Prop)(dL:∀b,X b->b<w.heap.size):
  CallsIn Fence.wide m Tryz.prog 228 #[.slice a n cap,.int .i64 df] w λe w'=>∃bY,e=.returned bY/\i4 w X w' zl (([],0,1,()):List Int×Int×Int×Unit) bY:=by
 refine callsIn_of_wp Tryz.func228 rfl trivial ?_ rfl;simp only[Tryz.ntmps228,pD,fQ,gu,Nat.reduceAdd,Nat.reduceSub,rn,o4,tR,BS,pE,l9]
 gi_wp2
 exact bodyPost_ret (v:=.tuple #[.slice none 0 0,.int .i64 0,.int .i64 1]) (by simp[results,Tryz.f228,go_sem]) rfl ⟨_,rfl,yI dL (vI _ _ _ _) 1⟩
set_option maxRecDepth 100000 in
set_option maxHeartbeats 2000000 in
def avR(a:Option Addr)(n cap:Nat)(df:Int)(aq:¬df<0)(h:(n:Int)<df)(m:Nat)(w:World)(X:Nat->Prop)(dL:∀b,X b->b<w.heap.size):
  CallsIn Fence.wide m Tryz.prog 228 #[.slice a n cap,.int .i64 df] w λe w'=>∃bY,e=.returned bY/\i4 w X w' zl (([],0,1,()):List Int×Int×Int×Unit) bY:=by
 refine callsIn_of_wp Tryz.func228 rfl trivial ?_ rfl;simp only[Tryz.ntmps228,pD,fQ,gu,Nat.reduceAdd,Nat.reduceSub,rn,o4,tR,BS,pE,l9]
 gi_wp2
 exact bodyPost_ret (v:=.tuple #[.slice none 0 0,.int .i64 0,.int .i64 1]) (by simp[results,Tryz.f228,go_sem]) rfl ⟨_,rfl,yI dL (vI _ _ _ _) 1⟩
set_option maxRecDepth 100000 in
set_option maxHeartbeats 2000000 in
def avS(a:Option Addr)(n cap:Nat)(A:Nat)(nZ:n<=cap)(h:A=n)(m:Nat)(w:World)(X:Nat->Prop)(dL:∀b,X b->b<w.heap.size):
  CallsIn Fence.wide m Tryz.prog 228 #[.slice a n cap,.int .i64 (A:Int)] w λe w'=>∃bY,e=.returned bY/\i4 w X w' zl (([],0,3,()):List Int×Int×Int×Unit) bY:=by
 subst h;refine callsIn_of_wp Tryz.func228 rfl trivial ?_ rfl;simp only[Tryz.ntmps228,pD,fQ,gu,Nat.reduceAdd,Nat.reduceSub,rn,o4,tR,BS,pE,l9]
 gi_wp2
 all_goals exact bodyPost_ret (v:=.tuple #[.slice none 0 0,.int .i64 0,.int .i64 3]) (by simp[results,Tryz.f228,go_sem]) rfl ⟨_,rfl,yI dL (vI _ _ _ _) 3⟩
def X1:∀c:UInt8,(Go.bits BinOp.and IntKind.u8 (aN c) 128 != 0)=bt c 0:=vG kK
set_option maxRecDepth 100000 in
set_option maxHeartbeats 2000000 in
def avT(b off n cap:Nat)(A:Nat)(nZ:n<=cap)(dJ:A<n)(c0:UInt8)(m:Nat)(w:World)(ah:w.cell? ⟨b,off+A,none⟩=some (.int .u8 (aN c0)))(ae:(bt c0 0=true/\n-A<16)\/(bt c0 0=false/\n-A<8))(X:Nat->Prop)(dL:∀b,X b->b<w.heap.size)(Y:b<w.heap.size):
  CallsIn Fence.wide m Tryz.prog 228 #[.slice (some ⟨b,off,none⟩) n cap,.int .i64 (A:Int)] w λe w'=>∃bY,e=.returned bY/\i4 w X w' zl (([],0,3,()):List Int×Int×Int×Unit) bY:=by
 have p2:¬((A:Int)<0):=J;have p3:¬((n:Int)<(A:Int)):=J;have v1:=X1 c0;obtain⟨N,fV⟩:∃N,n=A+N:=⟨n-A,J⟩;subst fV;have abO:(((w.alloc (.cells #[.slice none 0 0] 66)).alloc (.cells #[.int .i64 0] 3)).alloc (.cells #[.int .i64 0] 58)).cell? ⟨b,off+A,none⟩=some (.int .u8 (aN c0)):=((vI w _ _ _).cell (p:=⟨b,off+A,none⟩) Y).trans ah;refine callsIn_of_wp Tryz.func228 rfl trivial ?_ rfl;simp only[Tryz.ntmps228,pD,fQ,gu,Nat.reduceAdd,Nat.reduceSub,rn,o4,tR,BS,pE,l9];rcases ae with⟨O,R⟩|⟨O,R⟩
 .rw[O]at v1
  clear O;have um:(N:Int)<16:=J
  gi_wp2
  all_goals exact bodyPost_ret (v:=.tuple #[.slice none 0 0,.int .i64 0,.int .i64 3]) (by simp[results,Tryz.f228,go_sem]) rfl ⟨_,rfl,yI dL (vI _ _ _ _) 3⟩
 rw[O]at v1;have bh:Go.bits BinOp.and IntKind.u8 (aN c0) 128=0:=by simpa using v1
 clear O v1;have um:(N:Int)<8:=J
 gi_wp2
 all_goals exact bodyPost_ret (v:=.tuple #[.slice none 0 0,.int .i64 0,.int .i64 3]) (by simp[results,Tryz.f228,go_sem]) rfl ⟨_,rfl,yI dL (vI _ _ _ _) 3⟩
set_option maxRecDepth 100000 in
set_option maxHeartbeats 2000000 in
def agJ(m:Nat)(sl:Value)(w:World)(aD:sl.oneCell'=true):CallsIn Fence.wide m Tryz.prog 270 #[sl] w λe w'=>e=.returned (.func (.func 289) #[] #[.pointer (some ⟨w.heap.size,0,none⟩)])/\w'=w.alloc (.cells #[sl] 25):=by
 refine callsIn_of_wp Tryz.func270 rfl trivial ?_ rfl;simp only[Tryz.ntmps270,pD,fQ,gu,Nat.reduceAdd,Nat.reduceSub,rn,o4,tR,BS,pE,l9]
 gi_wp2
 go_ret
 exact⟨rfl,rfl⟩
end Yp
namespace Go
open Go.RowKit
def Boxed.tq{W:World}{B C t:Nat}{v:Value}(h:Boxed W B t v)(e3:B≠C)(u:Value):Boxed (W.setCell ⟨C,0,none⟩ u) B t v:=h.kept (grownBy_setCell' W C u) (λe=>e3 (by cases e;rfl))
end Go
namespace Yp
open Go Go.Proofs Go.RowKit Go.Shelf
def O?:=@Bool.eq_false_iff
attribute [-go_sem] g02 g03 g04 g05 g06 g01 g07 g08 g09 g10 g11 g12 g13 g14 g15 g16 g17 g18 g19 g20 g21 g22 g23 g24 g25 g26 g27 g28 g29 g30 g31 g32 g34 g35 g36 g37 g38 g39 g40 g41 g42 g43 g44 g45 g46 g47 g48 g49 g50 g51 g52 g53 g54 g55 g56 g57 g58 g60 g61 lc_rt' lc_ex' lc_nx g62 g63 nth_get g33 g64 g65 g66
attribute [local go_sem] Oper.semAt_some
def asv:(Tryz.prog.info? 3).map (λi=>(i.zero,i.size,i.bytes))=some (some (.int .i64 0),1,8):=by kernel_rfl
def ah1:Tryz.prog.underlying 66=some (.slice 3):=by kernel_rfl
def k4(pre:List Nat):List Nat:=pre.filter λn=>Nat.ble 2 n
def pR(pre:List Nat):List Value:=(k4 pre).map λ(n:Nat)=>Value.int .i64 (n:Int)
def ZC{pre:List Nat}(h:¬1<x):k4 (pre++[x])=k4 pre:=by have:Nat.ble 2 x=false:=O?.2 λe=>h (Fe e);unfold k4;rw[E4,JJ (by grind)];simp
def ZB{pre:List Nat}(h:1<x):k4 (pre++[x])=k4 pre++[x]:=by have:Nat.ble 2 x=true:=J4 h;unfold k4;rw[E4,List.filter_cons_of_pos this];simp
structure rp(s:Nat)(v:Value)(n e:Int)(sl:Value)(W:World):Prop where
 c0:Boxed W s 66 v
 c1:Boxed W (s+1) 3 (.int .i64 n)
 c2:Boxed W (s+1+1) 58 (.int .i64 e)
 c5:Boxed W (s+1+1+1+1+1) 25 sl
def boxed_own{B t:Nat}{v:Value}{X Xy:World}{row:Option Nat}(aD:Boxed X B t v)(hg:X.grownBy Xy row)(eI:∀r,row=some r->∃o,X.heap[r]?=some o/\o.isCells=false):Boxed Xy B t v:=
 aD.kept hg λbA=>by obtain⟨o,aO,ah⟩:=eI B bA.symm;rw[show X.heap[B]?=_ from aD]at aO;cases aO;cases ah
def It{β:Type}(s:Nat)(v:Value)(n e:Int)(sl:Value):Own (λ(_:β) W=>rp s v n e sl W):=λ_ _ _ _ ae hg aj=>
 ⟨boxed_own ae.c0 hg aj,boxed_own ae.c1 hg aj,boxed_own ae.c2 hg aj,boxed_own ae.c5 hg aj⟩
def D?{v sl:Value}{n:Int}{W:World}(h:rp s v n e sl W)(c9:Value)(n' bA:Int):
 rp s c9 n' bA sl (((W.setCell ⟨s,0,none⟩ c9).setCell ⟨s+1,0,none⟩ (.int .i64 n')).setCell ⟨s+1+1,0,none⟩ (.int .i64 bA)):=
 ⟨((h.c0.set c9).tq J _).tq J _,((h.c1.tq J _).set (.int .i64 n')).tq J _,
  ((h.c2.tq J _).tq J _).set (.int .i64 bA),((h.c5.tq J _).tq J _).tq J _⟩
def Dm(s:Nat)(c9:Value)(n' bA:Int)(W:World):Below s W (((W.setCell ⟨s,0,none⟩ c9).setCell ⟨s+1,0,none⟩ (.int .i64 n')).setCell ⟨s+1+1,0,none⟩ (.int .i64 bA)):=
 (((Below.refl s W).setCell (p:=⟨s,0,none⟩) (bX _) c9).setCell (p:=⟨s+1,0,none⟩) bf _).setCell (p:=⟨s+1+1,0,none⟩) (by grind) _
def MR(s:Nat)(c9:Value)(n' bA:Int)(W:World):KeepsOthers W (((W.setCell ⟨s,0,none⟩ c9).setCell ⟨s+1,0,none⟩ (.int .i64 n')).setCell ⟨s+1+1,0,none⟩ (.int .i64 bA)):=
 ((KeepsOthers.setCell _ _ _).trans (KeepsOthers.setCell _ _ _)).trans (KeepsOthers.setCell _ _ _)
def afz{v sl:Value}{n:Int}{W gg:World}(h:rp s v n e sl W)(Y:Below (s+1+1+1) W gg)(a4:Boxed gg (s+1+1+1+1+1) 25 sl):rp s v n e sl gg:=
 ⟨(Y.block _ J).trans h.c0,(Y.block _ J).trans h.c1,(Y.block _ J).trans h.c2,a4⟩
def rp.put{v sl:Value}{n:Int}{W:World}(h:rp s v n e sl W){D:Nat}{o:Obj}(dz:Obj)(jv:W.heap[D]?=some o)(aO:o.isCells=false):rp s v n e sl (W.putObj D dz):=
 It (β:=Unit) s v n e sl () W _ (some D) h (grownBy_putObj' W D dz) (λr e=>by cases e;exact⟨o,jv,aO⟩)
def afK{W:World}{v:Value}{L:Nat}{fm:List Value}(h:W.ownsRow (s+1+1+1) 3 1 v L fm)(c9:Value)(n' bA:Int){D:Nat}{o:Obj}(dz:Obj)(jv:W.heap[D]?=some o)(aO:o.isCells=false):
  World.ownsRow ((((W.setCell ⟨s,0,none⟩ c9).setCell ⟨s+1,0,none⟩ (.int .i64 n')).setCell ⟨s+1+1,0,none⟩ (.int .i64 bA)).putObj D dz) s 3 1 v L fm:=by
 rcases h.2 with⟨rfl,aq⟩|⟨g,cap,g3,rfl,hg,hh,ap⟩
 .exact⟨h.1,.inl ⟨rfl,aq⟩⟩
 have aqG:g≠D:=by rintro rfl;rw[hh]at jv;cases jv;cases aO
 have bB:W.ownsRow s 3 1 (.slice (some ⟨g,0,none⟩) L cap) L fm:=⟨h.1,.inr ⟨g,cap,g3,rfl,J,hh,ap⟩⟩;have eP:∀k,g≠k->(Value.slice (some ⟨g,0,none⟩) L cap).ownBlock=none\/(Value.slice (some ⟨g,0,none⟩) L cap).ownBlock≠some k:=λk ap=>.inr λe=>ap (by simpa[Value.ownBlock]using e);exact(((bB.kept (grownBy_setCell' W s c9) (eP _ J)).kept (grownBy_setCell' _ (s+1) _) (eP _ J)).kept (grownBy_setCell' _ (s+1+1) _) (eP _ J)).kept (grownBy_putObj' _ D dz) (eP _ aqG)
def Cw(b8:aa):k4 (iD b8 (8*b8.length+1))=io b8:=by
 unfold k4 iD io;rw[E3];refine List.filter_congr λn _ => ?_;cases h:Nat.ble 2 n
 .simp
 have:Nat.ble 1 n=true:=J4 (by have:=Fe h;omega)
 grind
def air{b8:aa}{k:Nat}(ap:k<=8*b8.length+1)(h:65∈iD b8 k):65∈io b8/\8<b8.length:=by unfold iD at h;rw[xn,qu]at h;unfold io;rw[xn,qu];refine⟨⟨J,?_⟩,J⟩;have R:=h.2;omega
def atX{b8:aa}(h:65∈io b8):65∈iD b8 (8*b8.length+1):=by unfold io at h;rw[xn,qu]at h;unfold iD;rw[xn,qu];omega
def atZ{b8:aa}{L z:Nat}(hL:(io b8).length=L+1)(bh:(io b8)[L]?=some z):∀n∈io b8,n<=z:=by
 intro n am;have hp:(io b8).Pairwise (· < ·):=List.Pairwise.filter _ List.pairwise_lt_range;obtain⟨i,ac,rfl⟩:=o3 am;obtain⟨hl,rfl⟩:=nF.1 bh;by_cases h:i=L
 .grind
 exact Pf (List.pairwise_iff_getElem.1 hp i L ac hl J)
structure t0(p:Prop):Prop where
 bz:p
set_option maxRecDepth 100000 in
set_option maxHeartbeats 4000000 in
def avU(oG:hb Tryz.prog 283 ⟨[.int .i64],[.im (.int .i64),.im (.int .u8)],t7⟩)(b off n cap:Nat)(A S:Nat)(nZ:n<=cap)(dJ:A+S<=n)(am:n<=9223372036854775807)(b8:aa)(kk:S=8\/S=16)(GA:b8.length=S)(c0:UInt8)(m:Nat)(w:World)
 (ah:∀j,(h:j<b8.length)->w.cell? ⟨b,off+A+j,none⟩=some (.int .u8 (aN b8[j]))) (nY:w.cell? ⟨b,off+A,none⟩=some (.int .u8 (aN c0))) (bu:bt c0 0=true↔S=16) (X:Nat->Prop) (dL:∀b,X b->b<w.heap.size) (p1:ly Tryz.prog (view w X)) (Y:b<w.heap.size) (aS:List Int×Int×Int×Unit) (jw:t0 (aS=(if S=16/\(65∈io b8\/∀n∈io b8,n<65) then(([],0,2,()):List Int×Int×Int×Unit) else(((io b8).map Int.ofNat,(A:Int)+(S:Int),(0:Int),()):List Int×Int×Int×Unit)))) :
 CallsIn Fence.wide (m+3) Tryz.prog 228 #[.slice (some ⟨b,off,none⟩) n cap,.int .i64 (A:Int)] w λe w'=>∃bY,e=.returned bY/\i4 w X w' zl aS bY:=by
 obtain⟨Dh,ac,G',acG,acH⟩:=info_parts asv;have p2:¬((A:Int)<0):=J;have p3:¬((n:Int)<(A:Int)):=J;have v1:=X1 c0;obtain⟨N,fV⟩:∃N,n=A+N:=⟨n-A,J⟩;subst fV;have abO:(((w.alloc (.cells #[.slice none 0 0] 66)).alloc (.cells #[.int .i64 0] 3)).alloc (.cells #[.int .i64 0] 58)).cell? ⟨b,off+A,none⟩=some (.int .u8 (aN c0)):=((vI w _ _ _).cell (p:=⟨b,off+A,none⟩) Y).trans nY;have azY:Fence.wide.fn 270:=trivial;refine callsIn_of_wp_marks Tryz.func228 rfl trivial ?_ rfl;simp only[Tryz.ntmps228,pD,fQ,gu,Nat.reduceAdd,Nat.reduceSub,rn,o4,tR,BS,pE,l9];rcases kk with rfl|rfl
 .have O:bt c0 0=false:=O?.2 λh=>by have:=bu.1 h;omega
  rw[O]at v1;have bh:Go.bits BinOp.and IntKind.u8 (aN c0) 128=0:=by simpa using v1
  clear O v1;have um:¬(N:Int)<8:=J;have ao4:¬N<8:=J
  gi_wp2_with (gi_at_call 270;refine(agJ _ _ _ rfl).mono ?_;rintro e w' ⟨rfl,rfl⟩)
  have Fy:=Boxed.new ((((w.alloc (.cells #[.slice none 0 0] 66)).alloc (.cells #[.int .i64 0] 3)).alloc (.cells #[.int .i64 0] 58)).alloc (.cells #[] 3)) 66 (.slice (some ⟨w.heap.size+1+1+1,0,none⟩) 0 0);have zt:=Boxed.new (((((w.alloc (.cells #[.slice none 0 0] 66)).alloc (.cells #[.int .i64 0] 3)).alloc (.cells #[.int .i64 0] 58)).alloc (.cells #[] 3)).alloc (.cells #[.slice (some ⟨w.heap.size+1+1+1,0,none⟩) 0 0] 66)) 25 (.slice (some ⟨b,off+A,none⟩) 8 (cap-A));have eB:=Boxed.new w 66 (.slice none 0 0);have e_:=Boxed.new (w.alloc (.cells #[.slice none 0 0] 66)) 3 (.int .i64 0);have eC:=Boxed.new ((w.alloc (.cells #[.slice none 0 0] 66)).alloc (.cells #[.int .i64 0] 3)) 58 (.int .i64 0);have GZ:=World.ownsRow_made (base:=w.heap.size+1+1+1) (e:=3) (size:=1) (((w.alloc (.cells #[.slice none 0 0] 66)).alloc (.cells #[.int .i64 0] 3)).alloc (.cells #[.int .i64 0] 58)) #[] 0 bf (by unfold maxLen;omega) rfl;simp only[World.size_alloc]at Fy zt e_ eC GZ;have zQ:Below w.heap.size w ((((((w.alloc (.cells #[.slice none 0 0] 66)).alloc (.cells #[.int .i64 0] 3)).alloc (.cells #[.int .i64 0] 58)).alloc (.cells #[] 3)).alloc (.cells #[.slice (some ⟨w.heap.size+1+1+1,0,none⟩) 0 0] 66)).alloc (.cells #[.slice (some ⟨b,off+A,none⟩) 8 (cap-A)] 25)):=
   (((vI w _ _ _).alloc fS _).alloc fS _).alloc fS _
  refine wpIn_rangeFunc_ownG rfl J (gf:=289) (lb:=#[.pointer (some ⟨w.heap.size+1+1+1+1+1,0,none⟩)]) rfl trivial (enters_of Tryz.func289 (by kernel_rfl) rfl)
   (encs:=λx:Nat=>#[.int .i64 (x:Int)]) (Kp:=TM w.heap.size (w.heap.size+1+1+1+1+1)) (S:=λbn=>bn=iD b8 (8*b8.length+1)) (Sp:=λpre=>∃k,k<=8*b8.length+1/\pre=iD b8 k) (N:=128)
   ?seq ?kt ?kb (Below.refl _ _) (λ_=>rfl)
   (λpre W=>((∃v,Boxed W (w.heap.size+1+1+1+1) 66 v/\W.ownsRow (w.heap.size+1+1+1) 3 1 v (k4 pre).length (pR pre)/\¬65∈pre)/\rp w.heap.size (.slice none 0 0) 0 0 (.slice (some ⟨b,off+A,none⟩) 8 (cap-A)) W)/\Below w.heap.size w W)
   (λc pre W=>((c=.ret/\65∈pre)/\rp w.heap.size (.slice none 0 0) 0 2 (.slice (some ⟨b,off+A,none⟩) 8 (cap-A)) W)/\Below w.heap.size w W)
   (OwnFrom.and (OwnFrom.and (Own.from (holdsRow_own (w.heap.size+1+1+1) _ 66 3 1 (λpre=>(k4 pre).length) pR (λpre v=>¬65∈pre)) _) (Own.from (It w.heap.size (.slice none 0 0) 0 0 (.slice (some ⟨b,off+A,none⟩) 8 (cap-A))) _)) (ownFrom_below (bX _) fS))
   (λc=>OwnFrom.and (OwnFrom.and (ownFrom_pure _ _) (Own.from (It w.heap.size (.slice none 0 0) 0 2 (.slice (some ⟨b,off+A,none⟩) 8 (cap-A))) _)) (ownFrom_below (bX _) fS))
   ?start
   (λx=>{ tmps:=#[Value.slice (some { block:=b,off:=off+A }) N (cap-A),Value.int IntKind.i64 (A:Int),undef,undef,Value.pointer (some { block:=w.heap.size,off:=0 }),Value.pointer (some { block:=w.heap.size+1,off:=0 }),Value.pointer (some { block:=w.heap.size+1+1,off:=0 }),Value.int IntKind.i64 8,Value.pointer (some { block:=w.heap.size+1+1+1+1,off:=0 }),Value.int IntKind.i64 (x:Int),Value.int IntKind.i64 (A:Int),Value.bool false,Value.bool false,Value.int IntKind.i64 (A:Int),Value.slice (some { block:=b,off:=off }) (A+N) cap,Value.int IntKind.i64 ((A:Int)+(N:Int)),Value.bool (decide ((A:Int)+(N:Int)<(A:Int))),Value.bool (decide ((A:Int)+(N:Int)<(A:Int))),Value.slice (some { block:=b,off:=off }) (A+N) cap,Value.int IntKind.i64 (A:Int),Value.slice (some { block:=b,off:=off+A }) N (cap-A),Value.slice (some { block:=b,off:=off+A }) N (cap-A),Value.int IntKind.i64 (N:Int),Value.bool true,Value.bool true,Value.slice (some { block:=b,off:=off+A }) N (cap-A),Value.pointer (some { block:=b,off:=off+A }),Value.int IntKind.u8 (aN c0),Value.int IntKind.u8 0,Value.bool false,Value.bool false,Value.slice (some { block:=b,off:=off+A }) N (cap-A),Value.int IntKind.i64 (N:Int),Value.int IntKind.i64 8,Value.bool false,Value.slice (some { block:=w.heap.size+1+1+1,off:=0 }) 0 0,Value.slice (some { block:=b,off:=off+A }) N (cap-A),Value.int IntKind.i64 8,Value.slice (some { block:=b,off:=off+A }) 8 (cap-A),Value.func (Fn.func 289) #[] #[Value.pointer (some { block:=w.heap.size+1+1+1+1+1,off:=0 })],Value.int IntKind.i64 (x:Int),undef,undef,undef,undef,undef,undef,undef,undef,undef,undef,undef,undef,undef,undef,undef,undef,undef,undef,undef,undef,undef,undef,undef,undef,undef,undef,undef,undef],defers:=[] }) ?assign ?body ?done ?stop
  case seq=>
   intro l ic st W hW mh abB v0 aq;have c3:w.heap.size+6<=W.heap.size:=by have:=hW.size;simp at this;omega
   refine(agH oG w X dL p1 (m+1) l (w.heap.size+1+1+1+1+1) w.heap.size b (off+A) (cap-A) b8 J Y ic st (λs k0 nL ae Y=>mh s k0 nL none ae ⟨Y.os,Y.tape,Y.output,Y.size,λk ap _=>Y.block k ap⟩ (λr e=>by cases e)) (λpre x k0 ao _ _ hl=>v0 pre x k0 ao hl) W (zQ.trans (hW.mono fS)) rfl ?_ J J (λj h => ?_) aq).mono ?_
   .rw[GA];exact(hW.cell (p:=⟨w.heap.size+1+1+1+1+1,0,none⟩) bf).trans zt.cell
   .exact(hW.cell (p:=⟨b,off+A+j,none⟩) fS).trans ((zQ.cell (p:=⟨b,off+A+j,none⟩) Y).trans (ah j h))
   rintro e gg ⟨az,h⟩;exact⟨az,h.elim (λh=>.inl ⟨_,rfl,h⟩) (λ⟨k,ap,h⟩=>.inr ⟨_,⟨k,ap,rfl⟩,h⟩)⟩
  case kt=>exact λh k=>⟨h.1.trans k.1,k.2.trans h.2⟩
  case kb =>intro W l o dz hl aO O R;simp at hl;exact⟨belowK_b (w:=w) (bX _) W l o dz J aO O R,World.cell?_of_block (World.putObj_heap_other fS)⟩
  case start=>exact⟨⟨⟨_,Fy.alloc _,(GZ.alloc _).alloc _,bf⟩,⟨eB.alloc _ |>.alloc _ |>.alloc _ |>.alloc _ |>.alloc _,e_.alloc _ |>.alloc _ |>.alloc _ |>.alloc _,eC.alloc _ |>.alloc _ |>.alloc _,zt⟩⟩,zQ⟩
  case assign=>
   intro l x W K fH
   gi_wp2
   exact fH
  case body=>
   rintro l pre x W ⟨⟨⟨v,aD,eI,nj⟩,aj⟩,aB⟩ bi;have SD:=aD.cell;have LV:=aj.c0.cell;have z9:=aj.c0.frozen;have Te:=aj.c1.cell;have Tf:=aj.c1.frozen;have Tg:=aj.c2.cell;have Th:=aj.c2.frozen;have ao6:=aj.c5.lt;have ji:(k4 pre).length<=pre.length:=sr _ _;by_cases Af:x=65
   .subst Af
    gi_wp2
    exact⟨(MR _ _ _ _ _).from _,⟨⟨rfl,bf⟩,D? aj _ _ _⟩,aB.trans (Dm _ _ _ _ _)⟩
   have ar0:¬(x:Int)=65:=J;by_cases Ad:1<x
   .have Tv:(1:Int)<(x:Int):=J
    gi_wp2_with (gi_at_builtin;refine t0.bz ?_)
    refine⟨?_⟩;refine wpListIn_append_own _ rfl _ _ 66 rfl (w.heap.size+1+1+1) 3 Dh (.int .i64 0) 1 8 ah1 ac G' acG acH rfl bN v (k4 pre).length (pR pre) rfl (eI.alloc _) ⟨W.heap.size,0,none⟩ 1 1 [.int .i64 (x:Int)] rfl rfl ?hcell ?hone ?hb1 ?hb2 ?hb3 ?hrest
    case hcell=>exact cell_one_new _ _ _
    case hone=>simp[Value.oneCell']
    case hb1=>simp[maxLen];omega
    case hb2=>omega
    case hb3=>have:=aB.size;simp;omega
    case hrest=>
     intro c9 ck GW GN _;obtain⟨g',cap',rfl⟩:=ownsRow_succ GW;obtain⟨x?,Df,Td,n1,hb2⟩:=aD.appended bN eI J J GW GN;have Sw:Boxed ck (w.heap.size+1+1+1+1+1) 25 _:=(aj.c5.alloc (.cells #[Value.int .i64 (x:Int)] 3)).kept GN (aj.c5.not_row bN eI);have sY:=x?.cell;have SN:=x?.frozen
     gi_wp2
     have Gs:=Sw.tq (C:=w.heap.size+1+1+1+1) J (.slice (some ⟨g',0,none⟩) ((k4 pre).length+1) cap');have Gw:=hb2.mono (B':=w.heap.size) J;refine⟨n1.from _,⟨Gw,Gs.cell.trans aj.c5.cell.symm⟩,⟨⟨_,Df,?_,?_⟩,afz aj hb2 Gs⟩,aB.trans Gw⟩
     .rw[pR,ZB Ad];simpa[pR]using Td
     simpa[nj]using λe=>Af e.symm
   have Tv:¬(1:Int)<(x:Int):=J
   gi_wp2
   refine⟨KeepsFrom.refl _ _,⟨Below.refl _ _,rfl⟩,⟨⟨v,aD,?_,?_⟩,aj⟩,aB⟩
   .rw[pR,ZC Ad];exact eI
   simpa[nj]using λe=>Af e.symm
  case done=>
   rintro D bn W jv rfl ⟨⟨⟨v,aD,eI,nj⟩,aj⟩,aB⟩ fH;have SD:=aD.cell;have LV:=aj.c0.cell;have z9:=aj.c0.frozen;have Te:=aj.c1.cell;have Tf:=aj.c1.frozen;have Tg:=aj.c2.cell;have Th:=aj.c2.frozen;have lS:=λv n e=>(MR w.heap.size v n e W).same D _ fH rfl;have L3:=W6 b8 (8*b8.length+1) J;have ji:(k4 (iD b8 (8*b8.length+1))).length<=(iD b8 (8*b8.length+1)).length:=sr _ _;obtain⟨C,cA⟩:∃C,t0 (C=k4 (iD b8 (8*b8.length+1))):=⟨_,⟨rfl⟩⟩;unfold pR at eI;rw[<- cA.bz]at eI ji;have Sl:C.length<=128:=J;have v4:t0 (W.ownsRow (w.heap.size+1+1+1) 3 1 v C.length (C.map λ(n:Nat)=>Value.int .i64 (n:Int))):=⟨eI⟩;clear eI ji L3;obtain⟨L,hL⟩:∃L,t0 (L=C.length):=⟨_,⟨rfl⟩⟩;rw[<- hL.bz]at v4 Sl;obtain⟨a,c,G8⟩:∃a c,v=.slice a L c:=by
    rcases v4.bz.2 with⟨h,bB⟩|⟨g,cap',g3,h,_⟩
    .exact⟨none,0,by rw[bB];exact h⟩
    exact⟨_,_,h⟩
   subst G8
   gi_wp2
   case h_1.isFalse az _=>cases az
   all_goals
    refine⟨bf,.inl ⟨_,_,rfl,run_takeDeferred (lS _ _ _),?_⟩⟩;have bh:=((D? aj (.slice a L c) ((A:Int)+8) 0).put (.deferred none) (lS _ _ _) rfl);refine⟨.tuple #[(.slice a L c),.int .i64 ((A:Int)+8),.int .i64 0],by simp[results,Tryz.f228,go_sem,bh.c0.cell,bh.c1.cell,bh.c2.cell],_,rfl,?_⟩;rw[jw.bz,if_neg (λh=>by have:=h.1;first|exact this.elim|omega)];refine afD dL ((aB.trans (Dm _ _ _ _ _)).trans (belowK_b (w:=w) (bX _) _ D _ _ (by simp at jv;omega) (lS _ _ _) rfl rfl)) ?_ _;have Tl:=afK v4.bz (.slice a L c) ((A:Int)+8) 0 (.deferred none) fH rfl;rw[<- Cw,<- cA.bz,xf,<- hL.bz,List.map_map];exact Tl
  case stop =>rintro D c pre W jv ⟨k,ap,rfl⟩ ⟨⟨⟨rfl,nj⟩,aj⟩,aB⟩ fH;have:=(air ap nj).2;omega
 have O:bt c0 0=true:=bu.2 rfl;rw[O]at v1;clear O;have um:¬(N:Int)<16:=J;have ao4:¬N<16:=J
 gi_wp2_with (gi_at_call 270;refine(agJ _ _ _ rfl).mono ?_;rintro e w' ⟨rfl,rfl⟩)
 have Fy:=Boxed.new ((((w.alloc (.cells #[.slice none 0 0] 66)).alloc (.cells #[.int .i64 0] 3)).alloc (.cells #[.int .i64 0] 58)).alloc (.cells #[] 3)) 66 (.slice (some ⟨w.heap.size+1+1+1,0,none⟩) 0 0);have zt:=Boxed.new (((((w.alloc (.cells #[.slice none 0 0] 66)).alloc (.cells #[.int .i64 0] 3)).alloc (.cells #[.int .i64 0] 58)).alloc (.cells #[] 3)).alloc (.cells #[.slice (some ⟨w.heap.size+1+1+1,0,none⟩) 0 0] 66)) 25 (.slice (some ⟨b,off+A,none⟩) 16 (cap-A));have eB:=Boxed.new w 66 (.slice none 0 0);have e_:=Boxed.new (w.alloc (.cells #[.slice none 0 0] 66)) 3 (.int .i64 0);have eC:=Boxed.new ((w.alloc (.cells #[.slice none 0 0] 66)).alloc (.cells #[.int .i64 0] 3)) 58 (.int .i64 0);have GZ:=World.ownsRow_made (base:=w.heap.size+1+1+1) (e:=3) (size:=1) (((w.alloc (.cells #[.slice none 0 0] 66)).alloc (.cells #[.int .i64 0] 3)).alloc (.cells #[.int .i64 0] 58)) #[] 0 bf (by unfold maxLen;omega) rfl;simp only[World.size_alloc]at Fy zt e_ eC GZ;have zQ:Below w.heap.size w ((((((w.alloc (.cells #[.slice none 0 0] 66)).alloc (.cells #[.int .i64 0] 3)).alloc (.cells #[.int .i64 0] 58)).alloc (.cells #[] 3)).alloc (.cells #[.slice (some ⟨w.heap.size+1+1+1,0,none⟩) 0 0] 66)).alloc (.cells #[.slice (some ⟨b,off+A,none⟩) 16 (cap-A)] 25)):=
  (((vI w _ _ _).alloc fS _).alloc fS _).alloc fS _
 refine wpIn_rangeFunc_ownG rfl J (gf:=289) (lb:=#[.pointer (some ⟨w.heap.size+1+1+1+1+1,0,none⟩)]) rfl trivial (enters_of Tryz.func289 (by kernel_rfl) rfl)
  (encs:=λx:Nat=>#[.int .i64 (x:Int)]) (Kp:=TM w.heap.size (w.heap.size+1+1+1+1+1)) (S:=λbn=>bn=iD b8 (8*b8.length+1)) (Sp:=λpre=>∃k,k<=8*b8.length+1/\pre=iD b8 k) (N:=128)
  ?seq ?kt ?kb (Below.refl _ _) (λ_=>rfl)
  (λpre W=>((∃v,Boxed W (w.heap.size+1+1+1+1) 66 v/\W.ownsRow (w.heap.size+1+1+1) 3 1 v (k4 pre).length (pR pre)/\¬65∈pre)/\rp w.heap.size (.slice none 0 0) 0 0 (.slice (some ⟨b,off+A,none⟩) 16 (cap-A)) W)/\Below w.heap.size w W)
  (λc pre W=>((c=.ret/\65∈pre)/\rp w.heap.size (.slice none 0 0) 0 2 (.slice (some ⟨b,off+A,none⟩) 16 (cap-A)) W)/\Below w.heap.size w W)
  (OwnFrom.and (OwnFrom.and (Own.from (holdsRow_own (w.heap.size+1+1+1) _ 66 3 1 (λpre=>(k4 pre).length) pR (λpre v=>¬65∈pre)) _) (Own.from (It w.heap.size (.slice none 0 0) 0 0 (.slice (some ⟨b,off+A,none⟩) 16 (cap-A))) _)) (ownFrom_below (bX _) fS))
  (λc=>OwnFrom.and (OwnFrom.and (ownFrom_pure _ _) (Own.from (It w.heap.size (.slice none 0 0) 0 2 (.slice (some ⟨b,off+A,none⟩) 16 (cap-A))) _)) (ownFrom_below (bX _) fS))
  ?start
  (λx=>{ tmps:=#[Value.slice (some { block:=b,off:=off+A }) N (cap-A),Value.int IntKind.i64 (A:Int),undef,undef,Value.pointer (some { block:=w.heap.size,off:=0 }),Value.pointer (some { block:=w.heap.size+1,off:=0 }),Value.pointer (some { block:=w.heap.size+1+1,off:=0 }),Value.int IntKind.i64 16,Value.pointer (some { block:=w.heap.size+1+1+1+1,off:=0 }),Value.int IntKind.i64 (x:Int),Value.int IntKind.i64 (A:Int),Value.bool false,Value.bool false,Value.int IntKind.i64 (A:Int),Value.slice (some { block:=b,off:=off }) (A+N) cap,Value.int IntKind.i64 ((A:Int)+(N:Int)),Value.bool (decide ((A:Int)+(N:Int)<(A:Int))),Value.bool (decide ((A:Int)+(N:Int)<(A:Int))),Value.slice (some { block:=b,off:=off }) (A+N) cap,Value.int IntKind.i64 (A:Int),Value.slice (some { block:=b,off:=off+A }) N (cap-A),Value.slice (some { block:=b,off:=off+A }) N (cap-A),Value.int IntKind.i64 (N:Int),Value.bool true,Value.bool true,Value.slice (some { block:=b,off:=off+A }) N (cap-A),Value.pointer (some { block:=b,off:=off+A }),Value.int IntKind.u8 (aN c0),Value.int IntKind.u8 (Go.bits BinOp.and IntKind.u8 (aN c0) 128),Value.bool true,Value.bool true,Value.slice (some { block:=b,off:=off+A }) N (cap-A),Value.int IntKind.i64 (N:Int),Value.int IntKind.i64 16,Value.bool false,Value.slice (some { block:=w.heap.size+1+1+1,off:=0 }) 0 0,Value.slice (some { block:=b,off:=off+A }) N (cap-A),Value.int IntKind.i64 16,Value.slice (some { block:=b,off:=off+A }) 16 (cap-A),Value.func (Fn.func 289) #[] #[Value.pointer (some { block:=w.heap.size+1+1+1+1+1,off:=0 })],Value.int IntKind.i64 (x:Int),undef,undef,undef,undef,undef,undef,undef,undef,undef,undef,undef,undef,undef,undef,undef,undef,undef,undef,undef,undef,undef,undef,undef,undef,undef,undef,undef,undef],defers:=[] }) ?assign ?body ?done ?stop
 case seq=>
  intro l ic st W hW mh abB v0 aq;have c3:w.heap.size+6<=W.heap.size:=by have:=hW.size;simp at this;omega
  refine(agH oG w X dL p1 (m+1) l (w.heap.size+1+1+1+1+1) w.heap.size b (off+A) (cap-A) b8 J Y ic st (λs k0 nL ae Y=>mh s k0 nL none ae ⟨Y.os,Y.tape,Y.output,Y.size,λk ap _=>Y.block k ap⟩ (λr e=>by cases e)) (λpre x k0 ao _ _ hl=>v0 pre x k0 ao hl) W (zQ.trans (hW.mono fS)) rfl ?_ J J (λj h => ?_) aq).mono ?_
  .rw[GA];exact(hW.cell (p:=⟨w.heap.size+1+1+1+1+1,0,none⟩) bf).trans zt.cell
  .exact(hW.cell (p:=⟨b,off+A+j,none⟩) fS).trans ((zQ.cell (p:=⟨b,off+A+j,none⟩) Y).trans (ah j h))
  rintro e gg ⟨az,h⟩;exact⟨az,h.elim (λh=>.inl ⟨_,rfl,h⟩) (λ⟨k,ap,h⟩=>.inr ⟨_,⟨k,ap,rfl⟩,h⟩)⟩
 case kt=>exact λh k=>⟨h.1.trans k.1,k.2.trans h.2⟩
 case kb =>intro W l o dz hl aO O R;simp at hl;exact⟨belowK_b (w:=w) (bX _) W l o dz J aO O R,World.cell?_of_block (World.putObj_heap_other fS)⟩
 case start=>exact⟨⟨⟨_,Fy.alloc _,(GZ.alloc _).alloc _,bf⟩,⟨eB.alloc _ |>.alloc _ |>.alloc _ |>.alloc _ |>.alloc _,e_.alloc _ |>.alloc _ |>.alloc _ |>.alloc _,eC.alloc _ |>.alloc _ |>.alloc _,zt⟩⟩,zQ⟩
 case assign=>
  intro l x W K fH
  gi_wp2
  exact fH
 case body=>
  rintro l pre x W ⟨⟨⟨v,aD,eI,nj⟩,aj⟩,aB⟩ bi;have SD:=aD.cell;have LV:=aj.c0.cell;have z9:=aj.c0.frozen;have Te:=aj.c1.cell;have Tf:=aj.c1.frozen;have Tg:=aj.c2.cell;have Th:=aj.c2.frozen;have ao6:=aj.c5.lt;have ji:(k4 pre).length<=pre.length:=sr _ _;by_cases Af:x=65
  .subst Af
   gi_wp2
   exact⟨(MR _ _ _ _ _).from _,⟨⟨rfl,bf⟩,D? aj _ _ _⟩,aB.trans (Dm _ _ _ _ _)⟩
  have ar0:¬(x:Int)=65:=J;by_cases Ad:1<x
  .have Tv:(1:Int)<(x:Int):=J
   gi_wp2_with (gi_at_builtin;refine t0.bz ?_)
   refine⟨?_⟩;refine wpListIn_append_own _ rfl _ _ 66 rfl (w.heap.size+1+1+1) 3 Dh (.int .i64 0) 1 8 ah1 ac G' acG acH rfl bN v (k4 pre).length (pR pre) rfl (eI.alloc _) ⟨W.heap.size,0,none⟩ 1 1 [.int .i64 (x:Int)] rfl rfl ?hcell ?hone ?hb1 ?hb2 ?hb3 ?hrest
   case hcell=>exact cell_one_new _ _ _
   case hone=>simp[Value.oneCell']
   case hb1=>simp[maxLen];omega
   case hb2=>omega
   case hb3=>have:=aB.size;simp;omega
   case hrest=>
    intro c9 ck GW GN _;obtain⟨g',cap',rfl⟩:=ownsRow_succ GW;obtain⟨x?,Df,Td,n1,hb2⟩:=aD.appended bN eI J J GW GN;have Sw:Boxed ck (w.heap.size+1+1+1+1+1) 25 _:=(aj.c5.alloc (.cells #[Value.int .i64 (x:Int)] 3)).kept GN (aj.c5.not_row bN eI);have sY:=x?.cell;have SN:=x?.frozen
    gi_wp2
    have Gs:=Sw.tq (C:=w.heap.size+1+1+1+1) J (.slice (some ⟨g',0,none⟩) ((k4 pre).length+1) cap');have Gw:=hb2.mono (B':=w.heap.size) J;refine⟨n1.from _,⟨Gw,Gs.cell.trans aj.c5.cell.symm⟩,⟨⟨_,Df,?_,?_⟩,afz aj hb2 Gs⟩,aB.trans Gw⟩
    .rw[pR,ZB Ad];simpa[pR]using Td
    simpa[nj]using λe=>Af e.symm
  have Tv:¬(1:Int)<(x:Int):=J
  gi_wp2
  refine⟨KeepsFrom.refl _ _,⟨Below.refl _ _,rfl⟩,⟨⟨v,aD,?_,?_⟩,aj⟩,aB⟩
  .rw[pR,ZC Ad];exact eI
  simpa[nj]using λe=>Af e.symm
 case done=>
  rintro D bn W jv rfl ⟨⟨⟨v,aD,eI,nj⟩,aj⟩,aB⟩ fH;have SD:=aD.cell;have LV:=aj.c0.cell;have z9:=aj.c0.frozen;have Te:=aj.c1.cell;have Tf:=aj.c1.frozen;have Tg:=aj.c2.cell;have Th:=aj.c2.frozen;have lS:=λv n e=>(MR w.heap.size v n e W).same D _ fH rfl;have L3:=W6 b8 (8*b8.length+1) J;have ji:(k4 (iD b8 (8*b8.length+1))).length<=(iD b8 (8*b8.length+1)).length:=sr _ _;obtain⟨C,cA⟩:∃C,t0 (C=k4 (iD b8 (8*b8.length+1))):=⟨_,⟨rfl⟩⟩;unfold pR at eI;rw[<- cA.bz]at eI ji;have Sl:C.length<=128:=J;have v4:t0 (W.ownsRow (w.heap.size+1+1+1) 3 1 v C.length (C.map λ(n:Nat)=>Value.int .i64 (n:Int))):=⟨eI⟩;clear eI ji L3;by_cases Sk:C.length=0
  .rw[Sk]at v4
   obtain⟨a,c,G8⟩:∃a c,v=.slice a 0 c:=by
    rcases v4.bz.2 with⟨h,_⟩|⟨g,cap',g3,h,_⟩
    .exact⟨_,_,h⟩
    exact⟨_,_,h⟩
   subst G8
   gi_wp2
   refine⟨bf,.inl ⟨_,_,rfl,run_takeDeferred (lS _ _ _),?_⟩⟩;have bh:=((D? aj (.slice none 0 0) (0) 2).put (.deferred none) (lS _ _ _) rfl);refine⟨.tuple #[(.slice none 0 0),.int .i64 (0),.int .i64 2],by simp[results,Tryz.f228,go_sem,bh.c0.cell,bh.c1.cell,bh.c2.cell],_,rfl,?_⟩;have hall:∀n∈io b8,n<65:=by intro n am;rw[<- Cw,<- cA.bz,lJ.1 Sk]at am;cases am
   rw[jw.bz,if_pos ⟨by trivial,.inr hall⟩];exact yI dL ((aB.trans (Dm _ _ _ _ _)).trans (belowK_b (w:=w) (bX _) _ D _ _ (by simp at jv;omega) (lS _ _ _) rfl rfl)) 2
  obtain⟨L,hL⟩:∃L,C.length=L+1:=⟨C.length-1,J⟩;rw[hL]at v4 Sl;obtain⟨g,cap',z,G8,G',abR⟩:∃g cap' z,v=.slice (some ⟨g,0,none⟩) (L+1) cap'/\t0 (C[L]?=some z)/\W.cell? ⟨g,L,none⟩=some (.int .i64 (z:Int)):=by
   rcases v4.bz.2 with⟨h,bB⟩|⟨g,cap',g3,h,hg,hh,rN,n1,fy,j8⟩
   .omega
   refine⟨g,cap',C[L]'J,h,⟨kg J⟩,?_⟩;rw[World.cell?,hh];have O:g3.toList[L]?=some (Value.int .i64 ((C[L]'J:Nat):Int)):=by have R:(List.take ((L+1)*1) g3.toList)[L]?=g3.toList[L]?:=J8 J;rw[<- R,j8,O',kg (show L<C.length by omega)];rfl
   have ai:g3[L]?=some (Value.int .i64 ((C[L]'J:Nat):Int)):=by rw[<- O];simp
   simpa using ai
  subst G8;clear Sk;have Gq:t0 (C.length=L+1):=⟨hL⟩;clear hL;have uq:¬((L+1:Nat):Int)=0:=J;have Dg:wrap64 (((L+1:Nat):Int)-1)=(L:Int):=by rw[show((L+1:Nat):Int)-1=(L:Int) by omega];unfold wrap64;omega
  have v7:(L:Int)<((L+1:Nat):Int):=J;have azO:(0:Int)<=(L:Int):=J;by_cases ar6:(z:Int)<65
  .gi_wp2
   refine⟨bf,.inl ⟨_,_,rfl,run_takeDeferred (lS _ _ _),?_⟩⟩;have bh:=((D? aj (.slice none 0 0) (0) 2).put (.deferred none) (lS _ _ _) rfl);refine⟨.tuple #[(.slice none 0 0),.int .i64 (0),.int .i64 2],by simp[results,Tryz.f228,go_sem,bh.c0.cell,bh.c1.cell,bh.c2.cell],_,rfl,?_⟩;have hall:∀n∈io b8,n<65:=by intro n am;have:=atZ (by rw[<- Cw,<- cA.bz];exact Gq.bz) (by rw[<- Cw,<- cA.bz];exact G'.bz) n am;omega
   rw[jw.bz,if_pos ⟨by trivial,.inr hall⟩];exact yI dL ((aB.trans (Dm _ _ _ _ _)).trans (belowK_b (w:=w) (bX _) _ D _ _ (by simp at jv;omega) (lS _ _ _) rfl rfl)) 2
  gi_wp2
  refine⟨bf,.inl ⟨_,_,rfl,run_takeDeferred (lS _ _ _),?_⟩⟩;have bh:=((D? aj (.slice (some ⟨g,0,none⟩) (L+1) cap') ((A:Int)+16) 0).put (.deferred none) (lS _ _ _) rfl);refine⟨.tuple #[(.slice (some ⟨g,0,none⟩) (L+1) cap'),.int .i64 ((A:Int)+16),.int .i64 0],by simp[results,Tryz.f228,go_sem,bh.c0.cell,bh.c1.cell,bh.c2.cell],_,rfl,?_⟩;rw[jw.bz,if_neg (λh=>h.2.elim (λh=>nj (atX h)) (λh=>absurd ar6 (by have:=h z (by rw[<- Cw,<- cA.bz];exact J6 G'.bz);omega)))];refine afD dL ((aB.trans (Dm _ _ _ _ _)).trans (belowK_b (w:=w) (bX _) _ D _ _ (by simp at jv;omega) (lS _ _ _) rfl rfl)) ?_ _;have Tl:=afK v4.bz (.slice (some ⟨g,0,none⟩) (L+1) cap') ((A:Int)+16) 0 (.deferred none) fH rfl;rw[<- Cw,<- cA.bz,xf,Gq.bz,List.map_map];exact Tl
 case stop=>
  rintro D c pre W jv ⟨k,ap,rfl⟩ ⟨⟨⟨rfl,nj⟩,aj⟩,aB⟩ fH
  gi_wp2
  refine⟨bf,.inl ⟨_,_,rfl,run_takeDeferred fH,?_⟩⟩;have bh:=aj.put (.deferred none) fH rfl;refine⟨.tuple #[.slice none 0 0,.int .i64 0,.int .i64 2],by simp[results,Tryz.f228,go_sem,bh.c0.cell,bh.c1.cell,bh.c2.cell],_,rfl,?_⟩;rw[jw.bz,if_pos ⟨by trivial,.inl (air ap nj).1⟩];exact yI dL (aB.trans (belowK_b (w:=w) (bX _) _ D _ _ (by simp at jv;omega) fH rfl rfl)) 2
end Yp
namespace Yp
open Go Go.Proofs
abbrev NL:ff:=⟨[.sl (.int .u8),.int .i64],[.ow (.int .i64),.im (.int .i64),.im (.int .i64)],XZ⟩
def apK{c:aa}(h:0<c.length):iw c 1=bt c[0] 0:=by
 unfold iw an
 grind
set_option maxRecDepth 100000 in
def avV(oG:hb Tryz.prog 283 ⟨[.int .i64],[.im (.int .i64),.im (.int .u8)],t7⟩)(l:aa)(df:Int)(a:Option Addr)(cap:Nat)(w:World)(X:Nat->Prop)(dL:∀b,X b->b<w.heap.size)(p1:ly Tryz.prog (view w X))(O:l.length<=cap)(um:cap<=9223372036854775807)
  (ai:l=[]\/∃b o c el fz,a=some ⟨b,o,none⟩/\view w X b=some (.cells c el fz)/\o+l.length*1<=c.size/\∀(i:Nat) (x:UInt8),l[i]?=some x->cJ c (o+i*1) 1=[Value.int .u8 (aN x)]) :
  Calls Tryz.prog 228 #[Value.slice a l.length cap,Value.int .i64 df] w λe w'=>∃bY,e=.returned bY/\i4 w X w' NL.res (lN l df) bY:=by
 by_cases dJ:df<0
 .have e:lN l df=([],0,1,()):=if_pos (.inl dJ)
  refine(callsIn_wide (n:=0)).1 (avQ a _ cap df dJ 0 w X dL |>.mono ?_);intro bA w' ⟨bY,h,bB⟩;exact⟨bY,h,by rw[e];exact bB⟩
 by_cases aB:(l.length:Int)<df
 .have e:lN l df=([],0,1,()):=if_pos (.inr aB)
  refine(callsIn_wide (n:=0)).1 (avR a _ cap df dJ aB 0 w X dL |>.mono ?_);intro bA w' ⟨bY,h,bB⟩;exact⟨bY,h,by rw[e];exact bB⟩
 obtain⟨A,rfl⟩:∃A:Nat,df=(A:Int):=⟨df.toNat,J⟩;have apa:A<=l.length:=J;have anc:lN l (A:Int)=pM (l.drop A) (A:Int):=by unfold lN;rw[if_neg J];rfl
 rw[anc];have GE:(l.drop A).length=l.length-A:=ep;by_cases cb:A=l.length
 .have e:pM (l.drop A) (A:Int)=([],0,3,()):=if_pos (.inl J)
  refine(callsIn_wide (n:=0)).1 (avS a _ cap A O cb 0 w X dL |>.mono ?_);intro bA w' ⟨bY,h,bB⟩;exact⟨bY,h,by rw[e];exact bB⟩
 rcases ai with rfl|⟨b,o,c,el,fz,rfl,aD,c3,GF⟩
 .simp at cb apa;omega
 have arH:o+l.length*1<=c.size:=c3;obtain⟨oJ,hh⟩:=kd.1 aD;have dM:b<w.heap.size:=(iR.1 hh).1;have hcell:∀i,(h:i<l.length)->w.cell? ⟨b,o+i,none⟩=some (.int .u8 (aN l[i])):=by
  intro i h;have cQ:cJ c (o+i*1) 1=[Value.int .u8 (aN l[i])]:=GF i l[i] (kg h);rw[pG]at cQ;have eh:c[o+i]?=some (Value.int .u8 (aN l[i])):=by have:=wR (c:=c) (o:=o+i) (n:=1) (i:=0) J;rw[cQ]at this;simpa using this.symm
  rw[World.cell?,hh];simpa using eh
 have nY:=hcell A J;have j6:iw (l.drop A) 1=bt (l[A]'J) 0:=by rw[apK J];congr 1;simp
 by_cases kk:(l.drop A).length<8\/(iw (l.drop A) 1=true/\(l.drop A).length<16)
 .have e:pM (l.drop A) (A:Int)=([],0,3,()):=if_pos kk
  have ae:(bt (l[A]'J) 0=true/\l.length-A<16)\/(bt (l[A]'J) 0=false/\l.length-A<8):=by
   rw[j6,GE]at kk;cases Y:bt (l[A]'J) 0
   .rw[Y]at kk;exact .inr ⟨rfl,by simpa using kk⟩
   exact .inl ⟨rfl,J⟩
  refine(callsIn_wide (n:=0)).1 (avT b o _ cap A O J _ 0 w nY ae X dL dM |>.mono ?_);intro bA w' ⟨bY,h,bB⟩;exact⟨bY,h,by rw[e];exact bB⟩
 have azC:8<=l.length-A:=J;have run:∀(S:Nat),(S=8\/S=16)->A+S<=l.length->(bt (l[A]'J) 0=true↔S=16)->∀aS,aS=(if S=16/\(65∈io ((l.drop A).take S)\/∀n∈io ((l.drop A).take S),n<65) then(([],0,2,()):List Int×Int×Int×Unit) else(((io ((l.drop A).take S)).map Int.ofNat,(A:Int)+(S:Int),(0:Int),()):List Int×Int×Int×Unit))->pM (l.drop A) (A:Int)=aS ->
   Calls Tryz.prog 228 #[Value.slice (some ⟨b,o,none⟩) l.length cap,Value.int .i64 (A:Int)] w λe w'=>∃bY,e=.returned bY/\i4 w X w' NL.res (pM (l.drop A) (A:Int)) bY:=by
  intro S cy hl Gy aS jw az;rw[az];refine(callsIn_wide (n:=3)).1 (avU oG b o _ cap A S O hl J ((l.drop A).take S) cy (by rw[ib,GE];omega) _ 0 w ?_ nY Gy X dL p1 dM aS ⟨jw⟩);intro j ao;have lu:A+j<l.length:=by rw[ib,GE]at ao;omega
  rw[jJ,hcell (A+j) lu];simp
 cases Y:bt (l[A]'J) 0
 .rw[Y]at j6
  refine run 8 (.inl rfl) J (by rw[Y];simp) _ rfl ?_;unfold pM;rw[if_neg kk,if_neg (by rw[j6];simp),if_neg J];rfl
 rw[Y]at j6;have oF:16<=l.length-A:=by
  rcases J7 (l.drop A).length 16 with h|h
  .exact absurd (.inr ⟨j6,h⟩) kk
  omega
 refine run 16 (.inr rfl) J (by rw[Y];simp) _ rfl ?_;unfold pM;rw[if_neg kk,if_pos j6];simp only[true_and];rfl
set_option maxRecDepth 100000 in
def apw(oG:hb Tryz.prog 283 ⟨[.int .i64],[.im (.int .i64),.im (.int .u8)],t7⟩):hb Tryz.prog 228 NL:=by refine⟨⟨Tryz.f228,Tryz.func228,by kernel_rfl,by kernel_rfl⟩,?_⟩;intro w X x vs r dL ap bc aj;obtain⟨l,df,⟨⟩⟩:=x;obtain rfl:lN l df=r:=om aj;obtain⟨cs,ei,rfl,ah,rA,nB,rfl,pb,rfl⟩:=bc;obtain⟨a,cap,rfl,O,R,ai⟩:=aJ.iL.1 ah;obtain rfl:=aJ.jl.1 pb;refine avV oG l df a cap w X dL ap O R (ai.imp id ?_);rintro⟨b,o,c,el,fz,rfl,aD,c3,GF⟩;exact⟨b,o,c,el,fz,rfl,aD,c3,λi x hx=>aJ.jl.1 (GF i x hx)⟩
end Yp
namespace Yp
open Go Go.Conc Go.RowKit Go.Proofs
def sq:=@Option.getD_some
section
variable {P:Program} {iv:Frame} {cs:List Frame} {w w₁:World} {es:Array Event} {c cap s r:Nat} {buf:Array Value} {z' v:Value} {tm:Bool}
def axW(h:stepG P true (G iv cs) w=.comm (G iv cs) #[scase c v z'] false .select w₁ es)(ah:w₁.heap[c]?=some (.chan cap buf false s r tm))(go:buf.size<cap):
  step P (solo (G iv cs) w)=.next (solo (G (iv.finish (.tuple #[goInt 0,.bool false])) cs) (w₁.setChan c cap (buf.push v) false (s+1) r tm)):=by
 have hp:=partners_alone (c:=c) false;rw[step,stepT_solo rfl];simp[runT,solo,G,Array.swapAt!,Array.swapAt,h,GStep.es,communicate,ways,scase,ah,hp,go,choose,Sem.run,Question.forced,bind,Sem.bind,pure,Goroutine.finishComm,commResult,World.setChan]at h ⊢
def axV(h:stepG P true (G iv cs) w=.comm (G iv cs) #[scase c v z'] false .select w₁ es)(ah:w₁.heap[c]?=some (.chan cap buf false s r tm))(z2:¬buf.size<cap):
  step P (solo (G iv cs) w)=.next (solo (G (iv.finish (.tuple #[goInt (-1),.bool false])) cs) w₁):=by
 have hp:=partners_alone (c:=c) false;rw[step,stepT_solo rfl];simp[runT,solo,G,Array.swapAt!,Array.swapAt,h,GStep.es,communicate,ways,scase,ah,hp,z2,Goroutine.finishComm,commResult]at h ⊢
end
set_option maxRecDepth 100000 in
def avp{w:World}{buf:Array Value}{v:Value}{tm:Bool}(ah:w.heap[c]?=some (.chan cap buf false s r tm))(go:buf.size<cap):
  Calls Tryz.prog 288 #[.agg #[.chan (some c)],v] w λe w'=>e=.returned (.bool true)/\w'=(w.alloc (.cells #[.chan (some c)] 353)).setChan c cap (buf.push v) false (s+1) r tm:=by
 have bi:c<w.heap.size:=(iR.1 ah).1;refine calls_of_loneTo λcs => ?_;have e:Frame.enter Tryz.prog 288 #[.agg #[.chan (some c)],v] .normal=(base 288).at ⟨#[.agg #[.chan (some c)],v,undef,undef,undef,undef,undef,undef,undef,undef,undef],[]⟩ [.code (Tryz.f288.body.getD .skip)]:=by simp[Frame.enter,Frame.at,Tryz.func288,base,Tryz.f288]
 rw[e];refine LoneTo.goes (n:=16) ?_;simp only[Tryz.f288,sq]
 s_c stepG_seq
 s_reg
 s_op
 s_op
 s_c stepG_region_end
 s_c stepG_seq
 s_c stepG_seq
 s_reg
 s_op
 s_op
 s_c stepG_region_end
 s_reg
 s_op
 s_c stepG_region_end
 s_c stepG_seq
 s_reg
 s_stop
 refine LoneTo.step (axW (c:=c) (z':=.slice none 0 0) (v:=v) (buf:=buf) (cap:=cap) (s:=s) (r:=r) (tm:=tm) (stepG_comm (cases:=#[scase c v (.slice none 0 0)]) (blocking:=false) (shape:=.select) (w':=w.alloc (.cells #[.chan (some c)] 353)) rfl rfl bN (by simp[go_sem,execOp,scase,Act.eval])) (by rw[heap_alloc_old _ _ bi];exact ah) go) ?_;rw[Frame.finish_at]
 walk_nrm
 refine LoneTo.goes (n:=9) ?_
 s_op
 s_op
 s_c stepG_region_end
 s_c stepG_block
 s_cond true
 s_c stepG_seq
 s_reg
 s_op
 s_c stepG_region_end
 s_stop
 refine LoneTo.goes (n:=1) ?_
 s_c stepG_ret'
 s_stop
 refine LoneTo.done ⟨.returned (.bool true),_,rfl,⟨rfl,rfl⟩,rfl,rfl,rfl,rfl,_,Tryz.func288,by simp[results,Tryz.f288,Frame.at]⟩
set_option maxRecDepth 100000 in
def avl{w:World}{buf:Array Value}{v:Value}{tm:Bool}(ah:w.heap[c]?=some (.chan cap buf false s r tm))(go:¬buf.size<cap):
  Calls Tryz.prog 288 #[.agg #[.chan (some c)],v] w λe w'=>e=.returned (.bool false)/\w'=w.alloc (.cells #[.chan (some c)] 353):=by
 have bi:c<w.heap.size:=(iR.1 ah).1;refine calls_of_loneTo λcs => ?_;have e:Frame.enter Tryz.prog 288 #[.agg #[.chan (some c)],v] .normal=(base 288).at ⟨#[.agg #[.chan (some c)],v,undef,undef,undef,undef,undef,undef,undef,undef,undef],[]⟩ [.code (Tryz.f288.body.getD .skip)]:=by simp[Frame.enter,Frame.at,Tryz.func288,base,Tryz.f288]
 rw[e];refine LoneTo.goes (n:=16) ?_;simp only[Tryz.f288,sq]
 s_c stepG_seq
 s_reg
 s_op
 s_op
 s_c stepG_region_end
 s_c stepG_seq
 s_c stepG_seq
 s_reg
 s_op
 s_op
 s_c stepG_region_end
 s_reg
 s_op
 s_c stepG_region_end
 s_c stepG_seq
 s_reg
 s_stop
 refine LoneTo.step (axV (c:=c) (z':=.slice none 0 0) (v:=v) (buf:=buf) (cap:=cap) (s:=s) (r:=r) (tm:=tm) (stepG_comm (cases:=#[scase c v (.slice none 0 0)]) (blocking:=false) (shape:=.select) (w':=w.alloc (.cells #[.chan (some c)] 353)) rfl rfl bN (by simp[go_sem,execOp,scase,Act.eval])) (by rw[heap_alloc_old _ _ bi];exact ah) go) ?_;rw[Frame.finish_at]
 walk_nrm
 refine LoneTo.goes (n:=9) ?_
 s_op
 s_op
 s_c stepG_region_end
 s_c stepG_block
 s_cond false
 s_c stepG_seq
 s_reg
 s_op
 s_c stepG_region_end
 s_stop
 refine LoneTo.goes (n:=1) ?_
 s_c stepG_ret'
 s_stop
 refine LoneTo.done ⟨.returned (.bool false),_,rfl,⟨rfl,rfl⟩,rfl,rfl,rfl,rfl,_,Tryz.func288,by simp[results,Tryz.f288,Frame.at]⟩
end Yp
namespace Yp
open Go Go.Conc Go.RowKit Go.Proofs
def Du{P:Program}{Q:Goroutine->World->Prop}{f:FuncId}{args:Array Value}{w:World}{aS:Ending->World->Prop}(ah:Calls P f args w aS){c:Frame}{cs:List Frame}
  (v?:∀e w',aS e w'->∃v,e=.returned v) (h:∀v w',aS (.returned v) w'->LoneTo P Q (G (c.finish v) cs) w'):LoneTo P Q (G (Frame.enter P f args .normal) (c::cs)) w:=by
 obtain⟨e,w',iv,jw,ae,hf,hl⟩:=ah (c::cs);obtain⟨v,rfl⟩:=v? e w' jw;obtain⟨g',Jn,p5,a_⟩:=h v w' jw;exact⟨g',Jn,Steps.trans ae (Steps.head (step_leave_returned hl) p5),a_⟩
def aa6{Q':List Item->Prop}{I:List Item}(h:∀ic,ic=I->Q' ic):Q' I:=h I rfl
structure qt(w w':World)(c cap:Nat)(buf:Array Value):Prop where
 os:w'.os=w.os
 tape:w'.tape=w.tape
 output:w'.output=w.output
 size:w.heap.size<=w'.heap.size
 other:∀b,b<w.heap.size->b≠c->w'.heap[b]?=w.heap[b]?
 ch:∃s r,w'.heap[c]?=some (.chan cap buf false s r false)
def qt.trans{w ck cR:World}{e_ eC:Array Value}(h:qt w ck c cap e_)(bB:qt ck cR c cap eC):qt w cR c cap eC:=
 ⟨bB.os.trans h.os,bB.tape.trans h.tape,bB.output.trans h.output,fv h.size bB.size,λb Y am=>(bB.other b (iF Y h.size) am).trans (h.other b Y am),bB.ch⟩
def Q0{w:World}{o:Obj}{buf:Array Value}(ah:w.heap[c]?=some (.chan cap buf false s r false)):qt w (w.alloc o) c cap buf:=by have bi:c<w.heap.size:=(iR.1 ah).1;exact⟨rfl,rfl,rfl,by rw[iV];exact vq _,λb Y _=>heap_alloc_old w o Y,s,r,by rw[heap_alloc_old w o bi];exact ah⟩
def Zp{w:World}{cv q_:Nat}{buf Qh:Array Value}(ah:w.heap[c]?=some (.chan cap buf false s r false)):qt w (w.setChan c cap Qh false cv q_ false) c cap Qh:=by
 have bi:c<w.heap.size:=(iR.1 ah).1;refine⟨rfl,rfl,rfl,by rw[size_setChan];exact bX _,λb Y am => ?_,cv,q_,heap_setChan w c cap Qh false cv q_ false bi⟩;show(w.heap.setIfInBounds c _)[b]?=_
 grind
def avo{w:World}{buf:Array Value}{v:Value}(ah:∃s r,w.heap[c]?=some (.chan cap buf false s r false))(go:buf.size<cap):
  Calls Tryz.prog 288 #[.agg #[.chan (some c)],v] w λe w'=>e=.returned (.bool true)/\qt w w' c cap (buf.push v):=by
 obtain⟨s,r,ah⟩:=ah;refine(avp ah go).mono λe w' h=>⟨h.1,?_⟩;rw[h.2];have O:=Q0 (o:=.cells #[.chan (some c)] 353) ah;obtain⟨bp,ek,R⟩:=O.ch;exact O.trans (Zp R)
def avm{w:World}{buf:Array Value}{v:Value}(ah:∃s r,w.heap[c]?=some (.chan cap buf false s r false))(z2:¬buf.size<cap):
  Calls Tryz.prog 288 #[.agg #[.chan (some c)],v] w λe w'=>e=.returned (.bool false)/\qt w w' c cap buf:=by
 obtain⟨s,r,ah⟩:=ah;refine(avl ah z2).mono λe w' h=>⟨h.1,?_⟩;rw[h.2];exact Q0 ah
def Zo{w w':World}{a:Addr}(h:w'.heap[a.block]?=w.heap[a.block]?):w'.cell? a=w.cell? a:=by unfold World.cell?;rw[h]
def aij{x:Int}(O : -9223372036854775808<=x)(R:x<=9223372036854775807):IntKind.i64.wrap x=x:=aii .i64 x O R
set_option maxRecDepth 100000 in
def aay{w:World}{gW:Nat}{a:Option Addr}{buf:Array Value}(ah:∃s r,w.heap[c]?=some (.chan cap buf false s r false))(am:n<=9223372036854775807)(go:buf.size<=cap){iB:Nat->Addr}{val:Nat->Value}(aqQ:∀i,i<n->∀ck:World,(Instr.indexAt 38 (.slice a n gW) (.int .i64 i)).run Tryz.prog ck=.ok (.pointer (some (iB i))) ck)
  (hcell:∀i,i<n->w.cell? (iB i)=some (val i)) (LT:∀i,i<n->(iB i).block<w.heap.size/\(iB i).block≠c) :
  Calls Tryz.prog 258 #[.agg #[.chan (some c)],.slice a n gW] w λe w'=>e=.returned (.int .i64 (min n (cap-buf.size):Nat))/\qt w w' c cap (buf++((List.range (min n (cap-buf.size))).map val).toArray):=by
 have abS:c<w.heap.size:=by obtain⟨s,r,ah⟩:=ah;exact(iR.1 ah).1
 refine calls_of_loneTo λcs => ?_;have e:Frame.enter Tryz.prog 258 #[.agg #[.chan (some c)],.slice a n gW] .normal=(base 258).at ⟨#[.agg #[.chan (some c)],.slice a n gW,undef,undef,undef,undef,undef,undef,undef,undef,undef,undef,undef,undef,undef,undef,undef,undef,undef,undef,undef,undef],[]⟩ [.code (Tryz.f258.body.getD .skip)]:=by simp[Frame.enter,Frame.at,Tryz.func258,base,Tryz.f258]
 rw[e];refine LoneTo.goes (n:=16) ?_;simp only[Tryz.f258,sq]
 s_c stepG_seq
 s_reg
 s_op
 s_op
 s_c stepG_region_end
 s_c stepG_seq
 s_c stepG_seq
 s_reg
 s_op
 s_op
 s_op
 s_c stepG_region_end
 s_c stepG_block
 s_c stepG_loop
 s_stop
 have G_:qt w (w.alloc (.cells #[.chan (some c)] 353)) c cap buf:=by obtain⟨s,r,ah⟩:=ah;exact Q0 ah
 have rH:(w.alloc (.cells #[.chan (some c)] 353)).heap[w.heap.size]?=some (.cells #[.chan (some c)] 353):=heap_alloc_new _ _;have c3:(w.alloc (.cells #[.chan (some c)] 353)).heap.size=w.heap.size+1:=iV _ _;generalize w.alloc (.cells #[.chan (some c)] 353)=eY at G_ rH c3;refine aa6 (Q':=λic=>LoneTo _ _ (G ((base 258).at _ ic) _) _) ?_;intro ic mh;have key:∀(k i:Nat) (ck:World) (wY Bl Bx oh tD Bz BA BB BC yY u8 BD Ow Ox:Value),i+k=n->buf.size+i<=cap->qt eY ck c cap (buf++((List.range i).map val).toArray)->LoneTo Tryz.prog (λg' w'=>∃e iv,g'=G iv cs/\(e=.returned (.int .i64 (min n (cap-buf.size):Nat))/\qt w w' c cap (buf++((List.range (min n (cap-buf.size))).map val).toArray))/\iv.fn=258/\iv.leaving Tryz.prog w' e) (G ((base 258).at ⟨#[.agg #[.chan (some c)],.slice a n gW,.pointer (some ⟨w.heap.size,0,none⟩),undef,.int .i64 0,wY,Bl,.slice a n gW,.int .i64 n,.int .i64 i,Bx,oh,tD,Bz,BA,BB,BC,yY,u8,BD,Ow,Ox],[]⟩ ic) cs) ck:=by
  intro k;induction k with
  |zero=>
   intro i ck wY Bl Bx oh tD Bz BA BB BC yY u8 BD Ow Ox ap bV s4;obtain rfl:i=n:=J;rw[mh];refine LoneTo.goes (n:=14) ?_
   s_c stepG_seq
   s_reg
   s_op
   s_c stepG_region_end
   s_c stepG_seq
   s_cond false
   s_exit
   s_c stepG_seq
   s_reg
   s_op
   s_op
   s_op
   s_c stepG_region_end
   s_c stepG_ret'
   s_stop
   have hm:min i (cap-buf.size)=i:=J;rw[hm];exact LoneTo.done ⟨.returned (.int .i64 i),_,rfl,⟨rfl,G_.trans s4⟩,rfl,rfl,rfl,rfl,_,Tryz.func258,by simp[results,Tryz.f258,Frame.at]⟩
  |succ k ih=>
   intro i ck wY Bl Bx oh tD Bz BA BB BC yY u8 BD Ow Ox ap bV s4;have bi:i<n:=J;have ac:=aqQ i bi;have hp:=LT i bi;have eZ:ck.cell? (iB i)=some (val i):=by rw[<- hcell i bi];exact Zo ((s4.other _ J hp.2).trans (G_.other _ hp.1 hp.2))
   have zZ:ck.heap[w.heap.size]?=some (.cells #[.chan (some c)] 353):=(s4.other _ J J).trans rH;have sX:ck.cell? ⟨w.heap.size,0,none⟩=some (.chan (some c)):=by simp[World.cell?,zZ]
   rw[mh];refine LoneTo.goes (n:=25) ?_
   s_c stepG_seq
   s_reg
   s_op
   s_c stepG_region_end
   s_c stepG_seq
   s_cond true
   s_c stepG_skip
   s_c stepG_seq
   s_c stepG_block
   s_c stepG_seq
   s_reg
   s_op
   s_op
   s_op
   s_op
   s_op
   s_c stepG_region_end
   s_c stepG_seq
   s_reg
   s_op
   s_op
   s_in
   refine goes_call rfl rfl bN rfl Tryz.func288 (by kernel_rfl) rfl ⟨trivial,?_⟩
   walk_nrmf Tryz.f288
   s_stop
   have az:Frame.enter Tryz.prog 288 #[.agg #[.chan (some c)],val i] .normal=(base 288).at ⟨#[.agg #[.chan (some c)],val i,undef,undef,undef,undef,undef,undef,undef,undef,undef],[]⟩ [.code (Tryz.f288.body.getD .skip)]:=by simp[Frame.enter,Frame.at,Tryz.func288,base,Tryz.f288]
   simp only[Tryz.f288,sq]at az;rw[<- az];have GA:(buf++((List.range i).map val).toArray).size=buf.size+i:=bf;by_cases acp:(buf++((List.range i).map val).toArray).size<cap
   .refine Du (avo s4.ch acp) (λe w' h=>⟨_,h.1⟩) (λv w' h => ?_)
    obtain⟨aD,L2⟩:=h;cases aD;rw[Frame.finish_at]
    walk_nrm
    refine LoneTo.goes (n:=14) ?_
    s_op
    s_c stepG_region_end
    s_cond false
    s_c stepG_skip
    s_c stepG_inBlock
    s_reg
    s_op
    s_op
    s_c stepG_region_end
    s_c stepG_inLoop
    s_stop
    rw[aij J J];have aru:(buf++((List.range i).map val).toArray).push (val i)=buf++((List.range (i+1)).map val).toArray:=by apply B1;simp[Fg]
    rw[aru]at L2;have:=ih (i+1) w' (.int .i64 i) (val i) (.bool true) (.int .i64 i) (.pointer (some (iB i))) (val i) (.agg #[.chan (some c)]) (val i) (.bool true) (.bool false) u8 (.int .i64 ((i+1:Nat):Int)) Ow Ox J J (s4.trans L2);rw[mh]at this;exact this
   refine Du (avm s4.ch acp) (λe w' h=>⟨_,h.1⟩) (λv w' h => ?_);obtain⟨aD,L2⟩:=h;cases aD;rw[Frame.finish_at]
   walk_nrm
   refine LoneTo.goes (n:=14) ?_
   s_op
   s_c stepG_region_end
   s_cond true
   s_c stepG_seq
   s_reg
   s_op
   s_op
   s_c stepG_region_end
   s_c stepG_ret'
   s_stop
   have hm:min n (cap-buf.size)=i:=J;rw[hm];exact LoneTo.done ⟨.returned (.int .i64 i),_,rfl,⟨rfl,G_.trans (s4.trans L2)⟩,rfl,rfl,rfl,rfl,_,Tryz.func258,by simp[results,Tryz.f258,Frame.at]⟩
 have:=key n 0 eY undef undef undef undef undef undef undef undef undef undef undef undef undef undef J J (by have:buf++((List.range 0).map val).toArray=buf:=bf;rw[this];obtain⟨s,r,h⟩:=G_.ch;exact⟨rfl,rfl,rfl,bX _,λ_ _ _=>rfl,s,r,h⟩)
 exact this
def akn:∃i,Tryz.prog.info? 25=some i/\i.bytes=24:=by
 have h:(Tryz.prog.info? 25).map (·.bytes)=some 24:=by kernel_rfl
 obtain⟨i,ac,Y⟩:=l8.1 h
 grind
def aty(n:Nat)(am:n<=64)(w:World):(Instr.makeChan 351 (.int .i64 n)).run Tryz.prog w=.ok (.chan (some w.heap.size)) (w.alloc (.chan n #[] false 0 0 false)):=by obtain⟨i,ac,Y⟩:=akn;simpa using run_makeChan (P:=Tryz.prog) (w:=w) Tryz.underlying351 ac .i64 n J (by grind)
set_option maxRecDepth 100000 in
def ajO{w:World}(am:n<=64):
  Calls Tryz.prog 257 #[.int .i64 n] w λe w'=>e=.returned (.agg #[.chan (some (w.heap.size+1))])/\w'.os=w.os/\w'.tape=w.tape/\w'.output=w.output/\w'.heap.size=w.heap.size+2/\(∀b,b<w.heap.size->w'.heap[b]?=w.heap[b]?)/\w'.heap[w.heap.size+1]?=some (.chan n #[] false 0 0 false):=by
 refine calls_of_loneTo λcs => ?_;have e:Frame.enter Tryz.prog 257 #[.int .i64 n] .normal=(base 257).at ⟨#[.int .i64 n,undef,undef,undef,undef,undef],[]⟩ [.code (Tryz.f257.body.getD .skip)]:=by simp[Frame.enter,Frame.at,Tryz.func257,base,Tryz.f257]
 rw[e];have GU:=aty n am;refine LoneTo.goes (n:=16) ?_;simp only[Tryz.f257,sq]
 s_c stepG_seq
 s_reg
 s_op
 s_c stepG_region_end
 s_c stepG_seq
 s_reg
 s_op
 s_op
 s_op
 s_op
 s_c stepG_region_end
 s_c stepG_ret'
 s_stop
 have bu:((w.alloc (.cells #[.chan (some (w.heap.size+1))] 353)).alloc (.chan n #[] false 0 0 false)).heap[w.heap.size]?=some (.cells #[.chan (some (w.heap.size+1))] 353):=by rw[heap_alloc_old _ _ (by rw[iV];omega)];exact heap_alloc_new _ _
 have sX:((w.alloc (.cells #[.chan (some (w.heap.size+1))] 353)).alloc (.chan n #[] false 0 0 false)).cell? ⟨w.heap.size,0,none⟩=some (.chan (some (w.heap.size+1))):=by simp[World.cell?,bu]
 refine LoneTo.done ⟨.returned (.agg #[.chan (some (w.heap.size+1))]),_,rfl,⟨rfl,rfl,rfl,rfl,?_,?_,?_⟩,rfl,rfl,rfl,rfl,_,Tryz.func257,?_⟩
 .rw[iV,iV]
 .intro b Y
  rw[heap_alloc_old _ _ (by rw[iV];omega),heap_alloc_old _ _ Y]
 .have:=heap_alloc_new (w.alloc (.cells #[.chan (some (w.heap.size+1))] 353)) (.chan n #[] false 0 0 false)
  rw[iV]at this;exact this
 generalize((w.alloc (.cells #[.chan (some (w.heap.size+1))] 353)).alloc (.chan n #[] false 0 0 false))=cR at sX;simp only[results,Tryz.f257,Frame.at]
 go_simp
end Yp
namespace Yp
open Go Go.Proofs
def vB(ck:World)(lo c:Nat)(vals:Array Value)(m:Nat)(jW:Value):Prop:=
 ∃b gW o8,jW=.slice (some ⟨b,0,none⟩) m gW/\ck.heap[b]?=some (.cells o8 25)/\m<=gW/\gW<=maxLen/\o8.size=gW/\(∀j,j<m->o8[j]?=vals[j]?)/\lo<=b/\b≠c
def asu:∃i,Tryz.prog.info? 25=some i/\i.size=1/\i.bytes=24/\i.zero=some (.slice none 0 0):=by
 have h:(Tryz.prog.info? 25).map (λi=>(i.size,i.bytes,i.zero))=some (1,24,some (.slice none 0 0)):=by kernel_rfl
 obtain⟨i,ac,Y⟩:=l8.1 h;simp only[lk]at Y;exact⟨i,ac,Y.1,Y.2.1,Y.2.2⟩
structure aiU(w w':World)(lo c:Nat):Prop where
 os:w'.os=w.os
 tape:w'.tape=w.tape
 output:w'.output=w.output
 size:w.heap.size<=w'.heap.size
 other:∀b,b<w.heap.size->(b<lo\/b=c)->w'.heap[b]?=w.heap[b]?
def ajm{ck:World}{lo:Nat}{vals:Array Value}{jW v:Value}(h:vB ck lo c vals m jW){ta:Nat}(am:ck.heap[ta]?=some (.cells #[v] 25))(aD:vals[m]?=some v)(hm:m+1<=64)(hone:v.oneCell'=true)(qP:lo<=ck.heap.size)(ah:c<ck.heap.size):
  ∃Ez cR,(Builtin.append_ #[38,38] 38 #[jW,.slice (some ⟨ta,0,none⟩) 1 1]).run Tryz.prog ck=.ok Ez cR/\vB cR lo c vals (m+1) Ez/\aiU ck cR lo c:=by
 obtain⟨b,gW,o8,rfl,Y,GU,oH,c3,G6,LN,sX⟩:=h;obtain⟨i,ac,we,Tz,Ah⟩:=asu;have ht:=Tryz.underlying38;have hx:nK Tryz.prog ck i.size 1 (.slice (some ⟨ta,0,none⟩) 1 1) [v]:=by refine⟨λ_=>rfl,λw' bu => ?_⟩;simp only[Builtin.firstCells];have:=Ee (P:=Tryz.prog) (w:=w') (b:=ta) (o:=0) (n:=1) (by rw[bu];exact am) bf;rw[we];simpa[cJ]using this
 by_cases go:m+1<=gW
 .obtain⟨cR,aj,cN,hp,hl⟩:=NJ (P:=Tryz.prog) (w:=ck) (ty:=38) ht ht (.inr ⟨25,rfl⟩) ac hx (b:=b) (o:=0) (sLen:=m) (sCap:=gW) go Y (.inl rfl) (by rw[we];simp;omega) (by simpa using hone)
  refine⟨_,cR,aj,⟨b,gW,cN,rfl,hp.jf,go,oH,?_,?_,LN,sX⟩,⟨hp.os,hp.tape,hp.output,by rw[hp.size];exact bX _,λb' mJ lw=>hp.other b' (by rintro rfl;rcases lw with q|q<;>omega)⟩⟩
  .have O:=congrArg List.length hl
   rw[Ex (by rw[we];simp;omega)]at O
   grind
  intro j ao;have O:cN[j]?=cN.toList[j]?:=bf;rw[O,hl,yN (by rw[we];simp;omega),we]
  grind
 have aO:nK Tryz.prog ck i.size m (.slice (some ⟨b,0,none⟩) m gW) (cJ o8 0 m):=by refine⟨λ_=>rfl,λw' bu => ?_⟩;simp only[Builtin.firstCells];rw[we,pG];exact Ee (P:=Tryz.prog) (w:=w') (b:=b) (o:=0) (n:=m) (by rw[bu];exact Y) J
 have aj:=Vw (P:=Tryz.prog) (w:=ck) (ty:=38) ht ht (.inr ⟨25,rfl⟩) ac Ah hx (ad:=some ⟨b,0,none⟩) (sLen:=m) (sCap:=gW) aO J (by unfold maxLen;omega) (by rw[Tz];omega);have oI:=grownCap_ge ck (m+1) gW 25;have oH:=grownCap_le_maxLen ck (m+1) gW 25 (by unfold maxLen;omega);refine⟨_,_,aj,⟨ck.heap.size,_,_,rfl,rv ck.drew _,oI,oH,?_,?_,qP,J⟩,⟨rfl,rfl,rfl,by rw[iV];exact vq _,λb' mJ _=>rx ck.drew _ b' mJ⟩⟩
 .rw[E5,size_zeroCells]
  simp only[E5,pD,qh (show 0+m<=o8.size by omega)];simp[Value.cells];omega
 intro j ao;have p6:(cJ o8 0 m).length=m:=qh J;by_cases q:j<m
 .rw[pF (by simp[p6];omega),pF (by simp[p6];omega)]
  rw[BW,wR q,js];exact G6 j q
 obtain rfl:j=m:=J;rw[pF (by simp[p6]),aD];simp[p6]
end Yp
namespace Yp
open Go Go.Conc Go.RowKit Go.Proofs
structure vo(w w':World)(lo c:Nat):Prop where
 os:w'.os=w.os
 tape:w'.tape=w.tape
 output:w'.output=w.output
 size:w.heap.size<=w'.heap.size
 other:∀b,b<lo->b≠c->w'.heap[b]?=w.heap[b]?
def ayC{o:Oper}{a:Act}{K:Act->World->Prop}{r:Result Go.Next}{v:Value}{w':World}(h:r=.ok (.value v) w')(R:K (a.put o.dst v) w'):uponK o a K r:=by rw[h];exact R
set_option maxRecDepth 100000 in
def aji{w:World}{buf:Array Value}(ah:∃s r,w.heap[c]?=some (.chan cap buf false s r false))(C0:buf.size<=64)(hone:∀v∈buf,∃a n gW,v=.slice a n gW):
  Calls Tryz.prog 259 #[.agg #[.chan (some c)]] w λe w'=>∃jW,e=.returned jW/\vB w' (w.heap.size+1) c buf buf.size jW/\vo w w' w.heap.size c:=by
 obtain⟨rc,M4,ah⟩:=ah;have abS:c<w.heap.size:=(iR.1 ah).1;have pb:((w.alloc (.cells #[.chan (some c)] 353)).alloc (.cells #[] 25)).heap[c]?=some (.chan cap buf false rc M4 false):=by rw[heap_alloc_old _ _ (by rw[iV];omega),heap_alloc_old _ _ abS];exact ah
 have LL:=run_len_chan (P:=Tryz.prog) 351 3 Tryz.underlying351 pb;refine calls_of_loneTo λcs => ?_;have e:Frame.enter Tryz.prog 259 #[.agg #[.chan (some c)]] .normal=(base 259).at ⟨#[.agg #[.chan (some c)],undef,undef,undef,undef,undef,undef,undef,undef,undef,undef,undef,undef,undef,undef,undef,undef,undef],[]⟩ [.code (Tryz.f259.body.getD .skip)]:=by simp[Frame.enter,Frame.at,Tryz.func259,base,Tryz.f259]
 rw[e];refine LoneTo.goes (n:=25) ?_;simp only[Tryz.f259,sq]
 s_c stepG_seq
 s_reg
 s_op
 s_op
 s_c stepG_region_end
 s_c stepG_seq
 s_reg
 s_op
 s_op
 s_c stepG_region_end
 s_c stepG_seq
 s_c stepG_seq
 s_reg
 s_op
 s_op
 s_op
 s_op
 s_c stepG_region_end
 s_c stepG_block
 s_c stepG_loop
 s_stop
 have mM:vo w ((w.alloc (.cells #[.chan (some c)] 353)).alloc (.cells #[] 25)) w.heap.size c:=⟨rfl,rfl,rfl,by rw[iV,iV];omega,λb Y _=>by rw[heap_alloc_old _ _ (by rw[iV];omega),heap_alloc_old _ _ Y]⟩;have rH:((w.alloc (.cells #[.chan (some c)] 353)).alloc (.cells #[] 25)).heap[w.heap.size]?=some (.cells #[.chan (some c)] 353):=by rw[heap_alloc_old _ _ (by rw[iV];omega)];exact heap_alloc_new _ _
 have eI:vB ((w.alloc (.cells #[.chan (some c)] 353)).alloc (.cells #[] 25)) (w.heap.size+1) c buf 0 (.slice (some ⟨w.heap.size+1,0,none⟩) 0 0):=by refine⟨w.heap.size+1,0, #[],rfl,?_,bX _,eS _,rfl,λj ao=>absurd ao (JN j),bX _,J⟩;have:=heap_alloc_new (w.alloc (.cells #[.chan (some c)] 353)) (.cells #[] 25);rw[iV]at this;exact this
 have c3:((w.alloc (.cells #[.chan (some c)] 353)).alloc (.cells #[] 25)).heap.size=w.heap.size+2:=by rw[iV,iV]
 generalize(w.alloc (.cells #[.chan (some c)] 353)).alloc (.cells #[] 25)=eY at pb mM rH eI c3 LL;refine aa6 (Q':=λic=>LoneTo _ _ (G ((base 259).at _ ic) _) _) ?_;intro ic mh;have key:∀(k i:Nat) (ck:World) (jW BD Bx oh tD Bz BA BB BC yY:Value),i+k=buf.size->vB ck (w.heap.size+1) c buf i jW->vo w ck w.heap.size c->w.heap.size+2<=ck.heap.size->ck.heap[w.heap.size]?=some (.cells #[.chan (some c)] 353)->(∃s r ln,ck.heap[c]?=some (.chan cap ln false s r false)/\ln.toList=buf.toList.drop i) ->
   LoneTo Tryz.prog (λg' w'=>∃e iv,g'=G iv cs/\(∃jW,e=.returned jW/\vB w' (w.heap.size+1) c buf buf.size jW/\vo w w' w.heap.size c)/\iv.fn=259/\iv.leaving Tryz.prog w' e) (G ((base 259).at ⟨#[.agg #[.chan (some c)],.pointer (some ⟨w.heap.size,0,none⟩),.slice none 0 0,jW,.slice (some ⟨w.heap.size+1,0,none⟩) 0 0,.pointer (some ⟨w.heap.size,0,none⟩),.chan (some c),.int .i64 buf.size,.int .i64 i,BD,Bx,oh,tD,Bz,BA,BB,BC,yY],[]⟩ ic) cs) ck:=by
  intro k;induction k with
  |zero=>
   intro i ck jW BD Bx oh tD Bz BA BB BC yY ap jw fH kk aB cA;obtain rfl:i=buf.size:=J;rw[mh];refine LoneTo.goes (n:=14) ?_
   s_c stepG_seq
   s_reg
   s_op
   s_c stepG_region_end
   s_c stepG_seq
   s_cond false
   s_exit
   s_c stepG_seq
   s_reg
   s_op
   s_op
   s_c stepG_region_end
   s_c stepG_ret'
   s_stop
   exact LoneTo.done ⟨.returned jW,_,rfl,⟨jW,rfl,jw,fH⟩,rfl,rfl,rfl,rfl,_,Tryz.func259,by simp[results,Tryz.f259,Frame.at]⟩
  |succ k ih=>
   intro i ck jW BD Bx oh tD Bz BA BB BC yY ap jw fH kk aB cA;have bi:i<buf.size:=J;obtain⟨ci,OG,OE,acD⟩:=hone _ (Array.getElem_mem bi);have sX:ck.cell? ⟨w.heap.size,0,none⟩=some (.chan (some c)):=by simp[World.cell?,aB]
   obtain⟨s,r,ln,GB,SB⟩:=cA;have GA:0<ln.size:=by have:=congrArg List.length SB;simp at this;omega
   have arW:ln.getD 0 undef=buf[i]:=by
    have aq:ln[0]?=some buf[i]:=by rw[<- xk,SB];simp[bi]
    simp[m8,aq]
   have aqu:(ln.extract 1 ln.size).toList=buf.toList.drop (i+1):=by
    have O:(ln.extract 1 ln.size).toList=ln.toList.drop 1:=by rw[Array.toList_extract,List.extract_eq_take_drop];exact iS bf
    rw[O,SB,su]
   rw[mh];refine LoneTo.goes (n:=12) ?_
   s_c stepG_seq
   s_reg
   s_op
   s_c stepG_region_end
   s_c stepG_seq
   s_cond true
   s_c stepG_skip
   s_c stepG_seq
   s_c stepG_block
   s_reg
   s_op
   s_op
   s_stop
   refine LoneTo.goes (n:=1) ?_
   s_op
   s_stop
   refine LoneTo.step (step_lone_recv_buf false (c:=c) (z:=.slice none 0 0) (cap:=cap) (buf:=ln) (closed:=false) (s:=s) (r:=r) (tm:=false) (stepG_comm (cases:=#[rcase c (.slice none 0 0)]) (blocking:=true) (shape:=.recv false) (w':=ck) rfl rfl bN (by simp[go_sem,execOp,rcase,Act.eval])) GB GA) ?_;rw[Frame.finish_at,arW,acD];simp only[got]
   walk_nrm
   have p5:(ck.setChan c cap (ln.extract 1 ln.size) false s (r+1) false).heap.size=ck.heap.size:=size_setChan ..
   have np:qt ck (ck.setChan c cap (ln.extract 1 ln.size) false s (r+1) false) c cap (ln.extract 1 ln.size):=Zp GB;generalize ck.setChan c cap (ln.extract 1 ln.size) false s (r+1) false=cR at p5 np;obtain⟨b,gW,o8,rfl,Y,GU,oH,Gv,G6,LN,abM⟩:=jw;have apO:b<ck.heap.size:=(iR.1 Y).1;have apq:vB (cR.alloc (.cells #[.slice ci OG OE] 25)) (w.heap.size+1) c buf i (.slice (some ⟨b,0,none⟩) i gW):=⟨b,gW,o8,rfl,by rw[heap_alloc_old _ _ J,np.other b apO abM];exact Y,GU,oH,Gv,G6,LN,abM⟩;obtain⟨Ez,hX,C3,apr,C2⟩:=ajm apq (heap_alloc_new cR (.cells #[.slice ci OG OE] 25)) (v:=.slice ci OG OE) (by rw[<- acD];simp[bi]) J rfl (by rw[iV];omega) (by rw[iV];omega);rw[p5]at C3;refine LoneTo.goes (n:=12) ?_
   s_op
   s_in;refine goes_oper_k rfl rfl bN (λK fH => ?_)
   refine ayC (v:=Ez) (w':=hX) ?_ ?_
   .simp only[List.getElem_toArray,List.getElem_cons_succ,List.getElem_cons_zero,execOp,resolve,invoke,Go.builtin]
    walk_nrm
    simp only[Sem.run_bind,Sem.run_pure,Result.andThen];rw[C3]
   refine fH _ _ ⟨trivial,?_⟩;clear fH K
   walk_nrm
   s_op
   s_c stepG_region_end
   s_c stepG_inBlock
   s_reg
   s_op
   s_op
   s_c stepG_region_end
   s_c stepG_inLoop
   s_stop
   rw[aij J J];have hold:∀b',b'<w.heap.size+1->b'≠c->hX.heap[b']?=ck.heap[b']?:=by intro b' mJ e3;rw[C2.other b' (by rw[iV];omega) (.inl mJ),heap_alloc_old _ _ J,np.other b' J e3]
   have arJ:=C2.size;rw[iV]at arJ;obtain⟨d_,tg,apW⟩:=np.ch;have:=ih (i+1) hX Ez (.bool true) (.slice (some ⟨b,0,none⟩) i gW) (.pointer (some ⟨w.heap.size,0,none⟩)) (.chan (some c)) (.slice ci OG OE) (.slice (some ⟨ck.heap.size,0,none⟩) 1 1) Ez (.int .i64 ((i+1:Nat):Int)) yY J apr
    ⟨C2.os.trans (np.os.trans fH.os),C2.tape.trans (np.tape.trans fH.tape),C2.output.trans (np.output.trans fH.output),by have:=fH.size;omega,λb' mJ e3=>(hold b' J e3).trans (fH.other b' mJ e3)⟩ J ((hold _ J J).trans aB)
    ⟨d_,tg,ln.extract 1 ln.size,by rw[C2.other c (by rw[iV];omega) (.inr rfl),heap_alloc_old _ _ J];exact apW,aqu⟩
   rw[mh]at this;exact this
 exact key buf.size 0 eY _ undef undef undef undef undef undef undef undef undef J eI mM J rH ⟨rc,M4,buf,pb,bf⟩
structure JU(w:World)(a:Option Addr)(n gW:Nat)(iB:Nat->Addr)(val:Nat->Value):Prop where
 ix:∀i,i<n->∀ck:World,(Instr.indexAt 38 (.slice a n gW) (.int .i64 i)).run Tryz.prog ck=.ok (.pointer (some (iB i))) ck
 cell:∀i,i<n->w.cell? (iB i)=some (val i)
 low:∀i,i<n->(iB i).block<w.heap.size
 sl:∀i,i<n->∃a n gW,val i=.slice a n gW
 b?:n<=9223372036854775807
set_option maxRecDepth 100000 in
def au5{w:World}{q l:Value}{hA:Int}(aj:hA<1):
  Calls Tryz.prog 209 #[q,l,.int .i64 hA] w λe w'=>e=.returned (.tuple #[q,.int .i64 0,.int .i64 1])/\w'=w:=by
 refine calls_of_loneTo λcs => ?_;have e:Frame.enter Tryz.prog 209 #[q,l,.int .i64 hA] .normal=(base 209).at ⟨#[q,l,.int .i64 hA,undef,undef,undef,undef,undef,undef,undef,undef,undef,undef,undef,undef,undef,undef,undef,undef,undef,undef,undef,undef,undef,undef,undef,undef,undef,undef,undef,undef,undef,undef],[]⟩ [.code (Tryz.f209.body.getD .skip)]:=by simp[Frame.enter,Frame.at,Tryz.func209,base,Tryz.f209]
 rw[e];refine LoneTo.goes (n:=30) ?_;simp only[Tryz.f209,sq]
 s_c stepG_seq
 s_reg
 s_op
 s_op
 s_op
 s_c stepG_region_end
 s_c stepG_seq
 s_c stepG_seq
 s_reg
 s_op
 s_op
 s_op
 s_in
 rw[stepG_unwanted rfl rfl];simp only[goes_go];refine⟨trivial,?_⟩
 walk_nrm
 s_in
 rw[stepG_unwanted rfl rfl];simp only[goes_go];refine⟨trivial,?_⟩
 walk_nrm
 s_op
 s_c stepG_region_end
 s_cond true
 s_c stepG_seq
 s_reg
 s_op
 s_op
 s_op
 s_op
 s_c stepG_region_end
 s_c stepG_ret'
 s_stop
 exact LoneTo.done ⟨.returned (.tuple #[q,.int .i64 0,.int .i64 1]),_,rfl,⟨rfl,rfl⟩,rfl,rfl,rfl,rfl,_,Tryz.func209,by simp[results,Tryz.f209,Frame.at]⟩
set_option maxRecDepth 100000 in
def au4{w:World}{q l:Value}{hA:Int}(aq:¬hA<1)(aj:64<hA):
  Calls Tryz.prog 209 #[q,l,.int .i64 hA] w λe w'=>e=.returned (.tuple #[q,.int .i64 0,.int .i64 1])/\w'=w:=by
 refine calls_of_loneTo λcs => ?_;have e:Frame.enter Tryz.prog 209 #[q,l,.int .i64 hA] .normal=(base 209).at ⟨#[q,l,.int .i64 hA,undef,undef,undef,undef,undef,undef,undef,undef,undef,undef,undef,undef,undef,undef,undef,undef,undef,undef,undef,undef,undef,undef,undef,undef,undef,undef,undef,undef,undef,undef],[]⟩ [.code (Tryz.f209.body.getD .skip)]:=by simp[Frame.enter,Frame.at,Tryz.func209,base,Tryz.f209]
 rw[e];refine LoneTo.goes (n:=30) ?_;simp only[Tryz.f209,sq]
 s_c stepG_seq
 s_reg
 s_op
 s_op
 s_op
 s_c stepG_region_end
 s_c stepG_seq
 s_c stepG_seq
 s_reg
 s_op
 s_op
 s_op
 s_op
 s_op
 s_op
 s_c stepG_region_end
 s_cond true
 s_c stepG_seq
 s_reg
 s_op
 s_op
 s_op
 s_op
 s_c stepG_region_end
 s_c stepG_ret'
 s_stop
 exact LoneTo.done ⟨.returned (.tuple #[q,.int .i64 0,.int .i64 1]),_,rfl,⟨rfl,rfl⟩,rfl,rfl,rfl,rfl,_,Tryz.func209,by simp[results,Tryz.f209,Frame.at]⟩
set_option maxRecDepth 100000 in
def au7{w:World}{wL eN:Option Addr}{qn tf aV b_ aS:Nat}(O:1<=aS)(C0:aS<=64){afe adm:Nat->Addr}{u4 Aw:Nat->Value}(a_:JU w wL qn tf afe u4)(hl:JU w eN aV b_ adm Aw):
  Calls Tryz.prog 209 #[.slice wL qn tf,.slice eN aV b_,.int .i64 aS] w λe w'=>(aS<qn/\e=.returned (.tuple #[.slice wL qn tf,.int .i64 0,.int .i64 0])\/qn<=aS/\∃jW,e=.returned (.tuple #[jW,.int .i64 (min aV (aS-qn):Nat),.int .i64 0])/\vB w' w.heap.size (w.heap.size+1) ((List.range qn).map u4++(List.range (min aV (aS-qn))).map Aw).toArray (qn+min aV (aS-qn)) jW)/\vo w w' w.heap.size (w.heap.size+1):=by
 have LV:¬(aS:Int)<1:=J;have z9:¬(64:Int)<(aS:Int):=J;refine calls_of_loneTo λcs => ?_;have e:Frame.enter Tryz.prog 209 #[.slice wL qn tf,.slice eN aV b_,.int .i64 aS] .normal=(base 209).at ⟨#[.slice wL qn tf,.slice eN aV b_,.int .i64 aS,undef,undef,undef,undef,undef,undef,undef,undef,undef,undef,undef,undef,undef,undef,undef,undef,undef,undef,undef,undef,undef,undef,undef,undef,undef,undef,undef,undef,undef,undef],[]⟩ [.code (Tryz.f209.body.getD .skip)]:=by simp[Frame.enter,Frame.at,Tryz.func209,base,Tryz.f209]
 rw[e];refine LoneTo.goes (n:=30) ?_;simp only[Tryz.f209,sq]
 s_c stepG_seq
 s_reg
 s_op
 s_op
 s_op
 s_c stepG_region_end
 s_c stepG_seq
 s_c stepG_seq
 s_reg
 s_op
 s_op
 s_op
 s_op
 s_op
 s_op
 s_c stepG_region_end
 s_cond false
 s_c stepG_skip
 s_c stepG_seq
 s_reg
 s_op
 s_in
 refine goes_call rfl rfl bN rfl Tryz.func257 (by kernel_rfl) rfl ⟨trivial,?_⟩
 walk_nrmf Tryz.f257
 s_stop
 have x3:Frame.enter Tryz.prog 257 #[.int .i64 aS] .normal=(base 257).at ⟨#[.int .i64 aS,undef,undef,undef,undef,undef],[]⟩ [.code (Tryz.f257.body.getD .skip)]:=by simp[Frame.enter,Frame.at,Tryz.func257,base,Tryz.f257]
 simp only[Tryz.f257,sq]at x3;rw[<- x3];refine Du (ajO C0) (λe w' h=>⟨_,h.1⟩) (λv ck h => ?_);obtain⟨aD,e_,eC,j0,ox,qC,sC⟩:=h;cases aD;rw[Frame.finish_at]
 walk_nrm
 refine LoneTo.goes (n:=30) ?_
 s_op
 s_op
 s_c stepG_region_end
 s_c stepG_seq
 s_c stepG_seq
 s_reg
 s_op
 s_op
 s_stop
 have rH:(ck.alloc (.cells #[.chan (some (w.heap.size+1))] 353)).heap[w.heap.size+2]?=some (.cells #[.chan (some (w.heap.size+1))] 353):=by have:=heap_alloc_new ck (.cells #[.chan (some (w.heap.size+1))] 353);rw[ox]at this;exact this
 have GB:∃s r,(ck.alloc (.cells #[.chan (some (w.heap.size+1))] 353)).heap[w.heap.size+1]?=some (.chan aS #[] false s r false):=⟨0,0,by rw[heap_alloc_old _ _ J];exact sC⟩;have n1:vo w (ck.alloc (.cells #[.chan (some (w.heap.size+1))] 353)) w.heap.size (w.heap.size+1):=⟨e_,eC,j0,by rw[iV];omega,λb Y _=>by rw[heap_alloc_old _ _ J];exact qC b Y⟩;have p5:(ck.alloc (.cells #[.chan (some (w.heap.size+1))] 353)).heap.size=w.heap.size+3:=by rw[iV];omega
 generalize ck.alloc (.cells #[.chan (some (w.heap.size+1))] 353)=cR at rH GB n1 p5;have ahg:∀{a:Option Addr} {n gW:Nat} {iB:Nat->Addr} {val:Nat->Value} (OY:World),JU w a n gW iB val->vo w OY w.heap.size (w.heap.size+1)->(∀i,i<n->OY.cell? (iB i)=some (val i))/\∀i,i<n->(iB i).block<OY.heap.size/\(iB i).block≠w.heap.size+1:=by intro a n gW iB val OY ae ap;refine⟨λi ac => ?_,λi ac=>⟨iF (ae.low i ac) ap.size,by have:=ae.low i ac;omega⟩⟩;rw[<- ae.cell i ac];exact Zo (ap.other _ (ae.low i ac) (by have:=ae.low i ac;omega))
 refine LoneTo.goes (n:=3) ?_
 s_in
 refine goes_call rfl rfl bN rfl Tryz.func258 (by kernel_rfl) rfl ⟨trivial,?_⟩
 walk_nrmf Tryz.f258
 s_stop
 have uv:Frame.enter Tryz.prog 258 #[.agg #[.chan (some (w.heap.size+1))],.slice wL qn tf] .normal=(base 258).at ⟨#[.agg #[.chan (some (w.heap.size+1))],.slice wL qn tf,undef,undef,undef,undef,undef,undef,undef,undef,undef,undef,undef,undef,undef,undef,undef,undef,undef,undef,undef,undef],[]⟩ [.code (Tryz.f258.body.getD .skip)]:=by simp[Frame.enter,Frame.at,Tryz.func258,base,Tryz.f258]
 simp only[Tryz.f258,sq]at uv;rw[<- uv];have kO:=ahg cR a_ n1;refine Du (aay GB a_.b? (eS _) a_.ix kO.1 kO.2) (λe w' h=>⟨_,h.1⟩) (λv ft h => ?_);obtain⟨aD,uB⟩:=h;cases aD;have fy:vo w ft w.heap.size (w.heap.size+1):=⟨uB.os.trans n1.os,uB.tape.trans n1.tape,uB.output.trans n1.output,fv n1.size uB.size,λb Y e3=>(uB.other b J e3).trans (n1.other b Y e3)⟩;have abN:ft.heap[w.heap.size+2]?=some (.cells #[.chan (some (w.heap.size+1))] 353):=(uB.other _ J J).trans rH;have azT:w.heap.size+3<=ft.heap.size:=by have:=uB.size;omega
 have sX:ft.cell? ⟨w.heap.size+2,0,none⟩=some (.chan (some (w.heap.size+1))):=by simp[World.cell?,abN]
 by_cases z2:aS<qn
 .have hm:min qn (aS-(#[]:Array Value).size)=aS:=fS
  rw[hm,Frame.finish_at]
  walk_nrm
  refine LoneTo.goes (n:=30) ?_
  s_op
  s_op
  s_op
  s_c stepG_region_end
  s_cond true
  s_c stepG_seq
  s_reg
  s_op
  s_op
  s_op
  s_op
  s_c stepG_region_end
  s_c stepG_ret'
  s_stop
  exact LoneTo.done ⟨.returned (.tuple #[.slice wL qn tf,.int .i64 0,.int .i64 0]),_,rfl,⟨.inl ⟨z2,rfl⟩,fy⟩,rfl,rfl,rfl,rfl,_,Tryz.func209,by simp[results,Tryz.f209,Frame.at]⟩
 have hm:min qn (aS-(#[]:Array Value).size)=qn:=fS;rw[hm]at uB ⊢;rw[Frame.finish_at]
 walk_nrm
 have SA:#[]++((List.range qn).map u4).toArray=((List.range qn).map u4).toArray:=bf;rw[SA]at uB;have apS:((List.range qn).map u4).toArray.size=qn:=bf;refine LoneTo.goes (n:=30) ?_
 s_op
 s_op
 s_op
 s_c stepG_region_end
 s_cond false
 s_c stepG_skip
 s_c stepG_seq
 s_reg
 s_op
 s_op
 s_stop
 refine LoneTo.goes (n:=3) ?_
 s_in
 refine goes_call rfl rfl bN rfl Tryz.func258 (by kernel_rfl) rfl ⟨trivial,?_⟩
 walk_nrmf Tryz.f258
 s_stop
 have C9:Frame.enter Tryz.prog 258 #[.agg #[.chan (some (w.heap.size+1))],.slice eN aV b_] .normal=(base 258).at ⟨#[.agg #[.chan (some (w.heap.size+1))],.slice eN aV b_,undef,undef,undef,undef,undef,undef,undef,undef,undef,undef,undef,undef,undef,undef,undef,undef,undef,undef,undef,undef],[]⟩ [.code (Tryz.f258.body.getD .skip)]:=by simp[Frame.enter,Frame.at,Tryz.func258,base,Tryz.f258]
 simp only[Tryz.f258,sq]at C9;rw[<- C9];have LM:=ahg ft hl fy;refine Du (aay uB.ch hl.b? J hl.ix LM.1 LM.2) (λe w' h=>⟨_,h.1⟩) (λv hX h => ?_);obtain⟨aD,n2⟩:=h;cases aD;rw[apS]at n2 ⊢;have j8:vo w hX w.heap.size (w.heap.size+1):=⟨n2.os.trans fy.os,n2.tape.trans fy.tape,n2.output.trans fy.output,fv fy.size n2.size,λb Y e3=>(n2.other b J e3).trans (fy.other b Y e3)⟩;have apQ:hX.heap[w.heap.size+2]?=some (.cells #[.chan (some (w.heap.size+1))] 353):=(n2.other _ J J).trans abN;have arz:w.heap.size+3<=hX.heap.size:=by have:=n2.size;omega
 have azD:hX.cell? ⟨w.heap.size+2,0,none⟩=some (.chan (some (w.heap.size+1))):=by simp[World.cell?,apQ]
 have hall:((List.range qn).map u4).toArray++((List.range (min aV (aS-qn))).map Aw).toArray=((List.range qn).map u4++(List.range (min aV (aS-qn))).map Aw).toArray:=bf;rw[hall]at n2;have Gv:((List.range qn).map u4++(List.range (min aV (aS-qn))).map Aw).toArray.size=qn+min aV (aS-qn):=bf;rw[Frame.finish_at]
 walk_nrm
 refine LoneTo.goes (n:=30) ?_
 s_op
 s_c stepG_region_end
 s_c stepG_seq
 s_reg
 s_op
 s_in
 refine goes_call rfl rfl bN rfl Tryz.func259 (by kernel_rfl) rfl ⟨trivial,?_⟩
 walk_nrmf Tryz.f259
 s_stop
 have abY:Frame.enter Tryz.prog 259 #[.agg #[.chan (some (w.heap.size+1))]] .normal=(base 259).at ⟨#[.agg #[.chan (some (w.heap.size+1))],undef,undef,undef,undef,undef,undef,undef,undef,undef,undef,undef,undef,undef,undef,undef,undef,undef],[]⟩ [.code (Tryz.f259.body.getD .skip)]:=by simp[Frame.enter,Frame.at,Tryz.func259,base,Tryz.f259]
 simp only[Tryz.f259,sq]at abY;rw[<- abY];refine Du (aji n2.ch (by rw[Gv];omega) ?_) (λe w' h=>h.elim λjW h=>⟨jW,h.1⟩) (λv BI h => ?_)
 .intro v aD
  simp only[List.mem_toArray,iQ,zh,qu]at aD;rcases aD with⟨i,ac,rfl⟩|⟨i,ac,rfl⟩
  .exact a_.sl i ac
  exact hl.sl i J
 obtain⟨jW,aD,abE,GP⟩:=h;cases aD;rw[Gv]at abE;rw[Frame.finish_at]
 walk_nrm
 refine LoneTo.goes (n:=30) ?_
 s_op
 s_op
 s_op
 s_op
 s_c stepG_region_end
 s_c stepG_ret'
 s_stop
 refine LoneTo.done ⟨.returned (.tuple #[v,.int .i64 (min aV (aS-qn):Nat),.int .i64 0]),_,rfl,⟨.inr ⟨J,v,rfl,?_⟩,?_⟩,rfl,rfl,rfl,rfl,_,Tryz.func209,by simp[results,Tryz.f209,Frame.at]⟩
 .obtain⟨b,gW,o8,ek,e8,tg,U',avz,U?,afg,avA⟩:=abE
  exact⟨b,gW,o8,ek,e8,tg,U',avz,U?,J,avA⟩
 exact⟨GP.os.trans j8.os,GP.tape.trans j8.tape,GP.output.trans j8.output,fv j8.size GP.size,λb Y e3=>(GP.other b J e3).trans (j8.other b Y e3)⟩
end Yp
namespace Yp
open Go Go.RowKit Go.Proofs
abbrev yW:ag:=.sl (.sl (.int .u8))
def ahh{w:World}{X:Nat->Prop}{l:List aa}{a:Option Addr}(O:l.length<=cap)(R:cap<=maxLen)
  (h:l=[]\/∃b o c el fz,a=some ⟨b,o,none⟩/\view w X b=some (.cells c el fz)/\o+l.length*(ag.sl (.int .u8)).size<=c.size/\∀(i:Nat) (x:aa),ij l i=some x->aJ (view w X) (.sl (.int .u8)) x (cJ c (o+i*(ag.sl (.int .u8)).size) (ag.sl (.int .u8)).size)) :
  ∃iB val,JU w a l.length cap iB val/\∀i (ac:i<l.length),aJ (view w X) (.sl (.int .u8)) (l[i]:aa) [val i]:=by
 have bV:l.length<=9223372036854775807:=by unfold maxLen at R;omega
 rcases h with rfl|⟨b,o,c,el,fz,rfl,Y,c3,eI⟩
 .exact⟨λ_=>⟨0,0,none⟩,λ_=>undef,⟨λi ac=>absurd ac (JN i),λi ac=>absurd ac (JN i),λi ac=>absurd ac (JN i),λi ac=>absurd ac (JN i),bV⟩,λi ac=>absurd ac (JN i)⟩
 have c3:o+l.length<=c.size:=by
  have:(ag.sl (.int .u8)).size=1:=rfl
  grind
 have hh:=(kd.1 Y).2;have LI:∀i,i<l.length->c[o+i]?=some (c[o+i]?.getD undef):=by
  grind
 have aj:∀i (ac:i<l.length),aJ (view w X) (.sl (.int .u8)) (l[i]:aa) [c[o+i]?.getD undef]:=by
  intro i ac;have:=eI i l[i] (kg ac);have ae:cJ c (o+i*(ag.sl (.int .u8)).size) (ag.sl (.int .u8)).size=[c[o+i]?.getD undef]:=by
   have e1:(ag.sl (.int .u8)).size=1:=rfl;rw[e1,pG];refine xm λj => ?_;by_cases ao:j<1
   .obtain rfl:j=0:=J
    rw[wR ao,xj,LI i ac];rfl
   rw[nG (by rw[qh J];omega),nG fS]
  grind
 refine⟨λi=>⟨b,o+i,none⟩,λi=>c[o+i]?.getD undef,⟨λi ac ck => ?_,λi ac => ?_,λi _=>(iR.1 hh).1,λi ac => ?_,bV⟩,aj⟩
 .have:=IA (P:=Tryz.prog) (e:=.sl (.int .u8)) (tid:=38) (sW 38 _ (by kernel_rfl)) (k:=.i64) (i:=(i:Int)) (n:=l.length) (cap:=cap) J J b o ck
  rw[this];have e1:(ag.sl (.int .u8)).size=1:=rfl
  grind
 .show w.cell? ⟨b,o+i,none⟩=_
  simp only[World.cell?,hh]
  grind
 obtain⟨a',azr,aD,_⟩:=aJ.iL.1 (aj i ac)
 grind
abbrev agm:ff:=⟨[.sl (.sl (.int .u8)),.sl (.sl (.int .u8)),.int .i64],[.im (.sl (.sl (.int .u8))),.im (.int .i64),.im (.int .i64)],Ig⟩
def Nu{w w':World}{X:Nat->Prop}(dL:∀b,X b->b<w.heap.size)(ark:w'.os=w.os)(arL:w'.tape=w.tape)(arl:w'.output=w.output)(c3:w.heap.size<=w'.heap.size)(hold:∀b,b<w.heap.size->w'.heap[b]?=w.heap[b]?){q:List aa}{n m:Int}{v:Value}(aD:aJ (view w' X) yW q [v]):
  ∃bY,Ending.returned (.tuple #[v,.int .i64 n,.int .i64 m])=.returned bY/\i4 w X w' [.im yW,.im (.int .i64),.im (.int .i64)] (q,n,m,()) bY:=by
 refine⟨_,rfl,X,ark,arL,arl,c3,hold,λ_ _=>PB,λb h=>iF (dL b h) c3,[v,.int .i64 n,.int .i64 m],?_,rfl⟩;exact⟨[v],_,rfl,aD,[.int .i64 n],_,rfl,aJ.jl.2 rfl,[.int .i64 m],[],rfl,aJ.jl.2 rfl,rfl⟩
def awL{w w':World}{X:Nat->Prop}(dL:∀b,X b->b<w.heap.size)(hold:∀b,b<w.heap.size->w'.heap[b]?=w.heap[b]?){q:List aa}{vals:Array Value}{jW:Value}(jw:vB w' w.heap.size c vals q.length jW)
  (a_:∀i (ac:i<q.length),∃v,vals[i]?=some v/\aJ (view w X) (.sl (.int .u8)) (q[i]:aa) [v]):aJ (view w' X) yW q [jW]:=by
 obtain⟨b,gW,o8,rfl,Y,GU,oH,Gv,G6,LN,sX⟩:=jw;have bV:(view w X).cc (view w' X):=yZ λb' o d8 aO=>⟨d8,(hold b' (iR.1 aO).1).trans aO⟩;have e1:(ag.sl (.int .u8)).size=1:=rfl;refine aJ.iL.2 ⟨some ⟨b,0,none⟩,gW,rfl,GU,oH,.inr ⟨b,0,o8,25,(0,0),rfl,kd.2 ⟨λh=>absurd (dL b h) J,Y⟩,?_,λi x hx => ?_⟩⟩
 .show 0+q.length*1<=o8.size
  omega
 obtain⟨ac,rfl⟩:=nF.1 hx;have ac:i<q.length:=ac;obtain⟨v,aD,aj⟩:=a_ i ac;have ae:cJ o8 (0+i*(ag.sl (.int .u8)).size) (ag.sl (.int .u8)).size=[v]:=by
  rw[e1,pG,js];refine xm λj => ?_;by_cases ao:j<1
  .obtain rfl:j=0:=J
   rw[wR ao,xj,G6 i ac,aD];rfl
  rw[nG (by rw[qh J];omega),nG (by grind)]
 rw[ae];exact aj.mono bV
def au6{w:World}{X:Nat->Prop}(dL:∀b,X b->b<w.heap.size)(q l:List aa)(hA:Int){r:List aa×Int×Int×Unit}{JF rA:List Value}(a_:aJ (view w X) yW q JF)(hl:aJ (view w X) yW l rA)(aj:Ig (q,l,hA,())=some r):
  Calls Tryz.prog 209 #[cB yW JF,cB yW rA,.int .i64 hA] w λe w'=>∃bY,e=.returned bY/\i4 w X w' [.im yW,.im (.int .i64),.im (.int .i64)] r bY:=by
 have Ta:=a_;obtain⟨wL,tf,rfl,bG,ca,cr⟩:=aJ.iL.1 a_;obtain⟨eN,b_,rfl,fk,gO,rV⟩:=aJ.iL.1 hl;obtain⟨afe,u4,axS,kW⟩:=ahh (l:=q) bG ca cr;obtain⟨adm,Aw,sl,aAh⟩:=ahh (l:=l) fk gO rV;unfold Ig at aj;dsimp only at aj;by_cases O:hA<1
 .rw[if_pos (.inl O)]at aj
  obtain rfl:=om aj;refine(au5 O).mono λe w' h => ?_;obtain⟨rfl,rfl⟩:=h;exact Nu dL rfl rfl rfl (bX _) (λ_ _=>rfl) Ta
 by_cases R:64<hA
 .rw[if_pos (.inr R)]at aj
  obtain rfl:=om aj;refine(au4 O R).mono λe w' h => ?_;obtain⟨rfl,rfl⟩:=h;exact Nu dL rfl rfl rfl (bX _) (λ_ _=>rfl) Ta
 rw[if_neg J]at aj;obtain⟨aS,rfl⟩:∃aS:Nat,hA=aS:=⟨hA.toNat,J⟩;refine(au7 J J axS sl).mono λe w' h => ?_;obtain⟨h,ap⟩:=h;have hold:∀b,b<w.heap.size->w'.heap[b]?=w.heap[b]?:=λb Y=>ap.other b Y J;have bV:(view w X).cc (view w' X):=yZ λb' o d8 aO=>⟨d8,(hold b' (iR.1 aO).1).trans aO⟩;rcases h with⟨bi,rfl⟩|⟨oI,jW,rfl,jw⟩
 .rw[if_pos J]at aj
  obtain rfl:=om aj;exact Nu dL ap.os ap.tape ap.output ap.size hold (Ta.mono bV)
 rw[if_neg J,iq]at aj;obtain rfl:=om aj;rw[Nat.min_comm (aS-q.length) l.length];have b9:(q++l.take (aS-q.length):List aa).length=q.length+min l.length (aS-q.length):=by
  grind
 refine Nu dL ap.os ap.tape ap.output ap.size hold (awL dL hold (c:=w.heap.size+1) (vals:=((List.range q.length).map u4++(List.range (min l.length (aS-q.length))).map Aw).toArray) (by rw[b9];exact jw) λi ac => ?_);by_cases azM:i<q.length
 .grind
 grind
def apz:hb Tryz.prog 209 agm:=by refine⟨⟨Tryz.f209,Tryz.func209,by kernel_rfl,by kernel_rfl⟩,?_⟩;intro w X x vs r dL lv bc aj;obtain⟨q,l,hA,⟨⟩⟩:=x;obtain⟨JF,ah9,rfl,a_,rA,nB,rfl,hl,KN,ayN,rfl,ary,rfl⟩:=bc;obtain rfl:=aJ.jl.1 ary;exact au6 dL q l hA a_ hl aj
end Yp
namespace Yp
open Go Go.Proofs Tryz
set_option maxRecDepth 100000
abbrev mA:ag:=.unit
abbrev gK:ag:=.int .u8
abbrev dd:ag:=.bool
abbrev de:ag:=.sl gK
abbrev tJ:ag:=.pair de (.pair de mA)
abbrev a1:ag:=.int .i64
abbrev Jw:ag:=.pair a1 (.pair a1 mA)
abbrev Jy:ag:=.pair de Jw
abbrev BN:ag:=.pair a1 (.pair (.ar 16 (.int .u64)) mA)
abbrev vk:ag:=.pair a1 (.pair a1 (.pair (.ar 2 a1) (.pair a1 (.pair a1 tJ))))
abbrev rj:ag:=.pair (.ar 4 dd) (.pair (.ar 4 Jy) (.pair (.ar 4 a1) (.pair a1 mA)))
abbrev lG:ag:=.pair dd (.pair a1 (.pair a1 (.pair a1 (.pair a1 (.pair de (.pair de (.pair a1 mA)))))))
abbrev i1:ag:=.pair a1 (.pair de mA)
abbrev Jx:ag:=.sl (.pair a1 i1)
abbrev O4:ag:=.pair (.ar 8 (.int .u32)) i1
abbrev W4:ag:=.pair (.sl i1) (.pair (.fn [286]) mA)
abbrev BO:ag:=.pair a1 (.pair (.ar 2 a1) i1)
abbrev oi:ag:=.pair a1 (.pair (.sl i1) mA)
abbrev kC:ag:=.pair a1 (.pair a1 (.pair a1 i1))
abbrev oX:ag:=.pair i1 (.pair i1 (.pair i1 Jw))
abbrev w?: ag:=.pair dd (.pair (.sl tJ) (.pair dd mA))
abbrev qr:ag:=.pair a1 (.pair de (.pair a1 (.pair tJ (.pair a1 (.pair a1 (.pair a1 (.pair a1 (.pair a1 (.pair BN (.pair oX (.pair kC (.pair a1 (.pair a1 (.pair (.sl de) (.pair rj (.pair (.sl i1) (.pair (.sl BO) (.pair (.ar 4 a1) mA))))))))))))))))))
abbrev cF:ag:=.pair qr (.pair w? mA)
abbrev sm:ag:=.pair (.ar 2 qr) (.pair w? (.pair Jx (.pair Jx (.pair (.ar 2 (.sl BO)) mA))))
abbrev qs:ag:=.pair sm mA
abbrev af2:ff:=⟨[a1,a1],[.ow gK,.im a1],pT⟩
def Qn:FK 96 af2:=a7 aX aY func96 8
def YE:FK 214 ⟨[(.int .u32),a1],[.im (.int .u32)],la⟩:=a7 aX aY func214 6
def al4:FK 213 ⟨[de],[.im (.ar 64 (.int .u32))],N1⟩:=a7 (ay aX YE) aY func213 9
def Y1:FK 167 ⟨[(.ar 8 (.int .u32)),de],[.im (.ar 8 (.int .u32)),.im a1],N0⟩:=a7 (ay (ay aX YE) al4) aY func167 16
def Y4:FK 129 ⟨[O4],[.ow gK],Bf⟩:=a7 (ay aX Y1) aY func129 9
abbrev agq:ff:=⟨[O4,de],[.im O4],yL⟩
def QG:FK 130 agq:=a7 (ay aX Y1) aY func130 6
abbrev agp:ff:=⟨[],[.im O4],IM⟩
def Y2:FK 131 agp:=a7 aX aY func131 1
def Y3:FK 97 ⟨[de],[.ow gK],O_⟩:=a7 (ay (ay (ay aX Y2) QG) Y4) aY func97 3
def QN:FK 62 ⟨[a1],[.ow gK,.im a1],I3⟩:=a7 (ay (ay aX Y3) Qn) aY func62 6
def aml:FK 29 ⟨[],[.im tJ],Of⟩:=a7 (ay aX QN) aY func29 3
def akG:FK 18 ⟨[a1,de],[.im qr,.im a1],F0⟩:=a7 (ay aX aml) aY func18 6
def alo:FK 19 ⟨[.bool],[.im w?],ae2⟩:=a7 aX aY func19 3
def KC:FK 8 ⟨[de,.bool],[.im sm,.im a1],tI⟩:=a7 (ay (ay aX alo) akG) aY func8 10
def xA:FK 34 ⟨[a1,a1],[.im dd],rh⟩:=a7 aX aY func34 5
def QL:FK 35 ags:=apA
def aiP:gA:=jk (f_ [] [] [] [] none false true 0) f36 8
def acO:IK 36 aiP:=kJ aX aY func36 8
def akC:FK 38 ⟨[qr],[.im qr,.im (.sl i1),.im (.sl BO)],Ry⟩:=a7 aX aY func38 7
def KB:FK 39 ⟨[(.sl BO)],[.cl BO],yM⟩:=a7 aX aY func39 3
def QK:FK 40 ⟨[Jx],[.cl (.pair a1 i1)],Eu⟩:=a7 aX aY func40 3
abbrev agw:i3:=⟨qs,[a1],[.im cF],BK⟩
def FM:i2 Tryz.prog 25 agw:=pO aX aY jR func25 5
def Yr:FK 132 ⟨[a1],[.im dd],G3⟩:=a7 aX aY func132 3
def Ys:FK 157 ⟨[rj,a1,.bool],[.im rj,.im a1],G4⟩:=a7 (ay aX Yr) aY func157 8
def ak5:FK 141 ⟨[rj,a1],[.im rj,.im a1],LZ⟩:=a7 (ay aX Ys) aY func141 6
def akD:FK 101 ⟨[cF,a1],[.im cF,.im a1],Rz⟩:=a7 (ay aX ak5) aY func101 8
def Pp:gA:=jk (f_ [] [] [] [] none false false 0) f103 3
def TE:IK 103 Pp:=kJ aX aY func103 3
def Xk:gA:=jk (f_ [] [(103,Pp)] [] [] none false false 0) f142 6
def acP:IK 142 Xk:=kJ aX (gy aY TE) func142 6
def aiO:gA:=jk (f_ [] [(103,Pp),(142,Xk)] [] [] none false false 0) f102 8
def asi:IK 102 aiO:=kJ aX (gy (gy aY acP) TE) func102 8
abbrev aw2:i3:=⟨qs,[a1],[],Jr⟩
def Zd:i2 Tryz.prog 69 aw2:=pO (ay (ay aX akD) QL) (gy (gy (gy aY asi) acP) TE) (ik jR FM) func69 7
abbrev aw1:i3:=⟨qs,[],[],OQ⟩
def ams:i2 Tryz.prog 41 aw1:=pO aX aY (ik jR Zd) func41 3
abbrev agx:i3:=⟨qs,[a1,cF],[],y6⟩
def KE:i2 Tryz.prog 23 agx:=pO (ay (ay (ay aX QK) KB) akC) aY (ik jR ams) func23 13
def QM:FK 93 agt:=apB
def aiR:gA:=jk (f_ [] [] [] [] none false false 0) f192 5
def asl:IK 192 aiR:=kJ aX aY func192 5
def Y_:FK 144 ⟨[(.sl de)],[.im de],Ev⟩:=a7 aX (gy aY asl) func144 9
def akU:FK 168 ⟨[de],[.im a1],RX⟩:=a7 aX aY func168 3
def akT:FK 133 ⟨[Jy,de],[.im Jy,.ow de],Lk⟩:=a7 (ay (ay (ay aX akU) Y_) QM) aY func133 10
def ak7:FK 99 ⟨[rj,a1,de],[.im rj,.ow de,.im a1],L0⟩:=a7 (ay (ay aX akT) Yr) aY func99 11
def QC:FK 70 ⟨[a1],[.im a1],AV⟩:=a7 aX aY func70 3
abbrev agj:ff:=⟨[a1],[.im dd],u0⟩
def FJ:FK 42 agj:=a7 (ay aX QC) aY func42 3
def YA:FK 110 ⟨[de],[.im dd],Hw⟩:=a7 aX aY func110 3
def ak6:FK 149 ⟨[rj],[.im rj,.im a1,.im a1],Ts⟩:=a7 aX aY func149 7
def akN:FK 249 ⟨[a1,a1],[.im dd],CH⟩:=a7 aX aY func249 5
def Yl:FK 197 ⟨[vk],[.im dd],F3⟩:=a7 (ay aX akN) aY func197 5
def aiG:gA:=jk (f_ [(96,af2)] [] [] [] none false false 0) f198 8
def asa:IK 198 aiG:=kJ (ay aX Qn) aY func198 8
abbrev af6:ff:=⟨[vk],[.ow gK,.im a1],xM⟩
def Qq:FK 150 af6:=a7 (ay aX Yl) (gy aY asa) func150 6
def YL:FK 199 agl:=apy Qz
def amf:FK 200 ⟨[(.sl tJ)],[.cl tJ],Oa⟩:=a7 aX aY func200 3
def aky:FK 201 af1:=apx
def alj:FK 252 ⟨[de],[.ow gK],Ub⟩:=a7 (ay aX Y3) aY func252 4
def aiJ:gA:=jk (f_ [(130,agq),(131,agp)] [] [] [] none false false 0) f253 6
def asd:IK 253 aiJ:=kJ (ay (ay aX Y2) QG) aY func253 6
def QA:FK 204 ⟨[de,de],[.ow gK],Dy⟩:=a7 (ay (ay (ay aX alj) QG) Y4) (gy aY asd) func204 7
def YM:FK 202 ⟨[de,de],[.ow gK],DZ⟩:=a7 (ay aX QA) aY func202 5
def alp:FK 151 ⟨[w?,de,de],[.im w?,.ow gK],MX⟩:=a7 (ay (ay (ay (ay aX YM) aky) amf) YL) aY func151 8
def Yk:FK 203 ⟨[vk],[.im dd],CG⟩:=a7 (ay aX Yl) aY func203 3
def akM:FK 152 ⟨[vk],[.ow gK,.im a1],K7⟩:=a7 (ay (ay aX Yk) Qq) aY func152 6
def akS:FK 153 ⟨[de],[.ow gK,.im a1],RW⟩:=a7 aX aY func153 4
def amg:FK 154 ⟨[(.sl i1)],[.cl i1],Ob⟩:=a7 aX aY func154 3
def Yz:FK 111 ⟨[cF,vk,de],[.im cF,.im a1],Hv⟩:=a7 (ay (ay (ay (ay (ay (ay aX amg) akS) akM) alp) Qq) ak6) aY func111 17
def Qx:FK 109 ⟨[a1,(.sl a1)],[.im dd],Au⟩:=a7 aX aY func109 7
abbrev agd:ff:=⟨[qr],[.im (.ar 2 a1)],n4⟩
def xz:FK 112 agd:=a7 (ay aX Qx) aY func112 4
abbrev age:ff:=⟨[cF,de],[.im cF,.im a1],n5⟩
def zw:FK 79 age:=a7 (ay (ay (ay (ay aX xz) Yz) YA) FJ) aY func79 9
def amh:FK 119 agu:=apC
def alt:FK 83 ⟨[(.sl de)],[.im de,.im (.sl de),.im dd],M3⟩:=a7 (ay aX amh) aY func83 5
def Ku:FK 48 ⟨[cF],[.im cF],kM⟩:=a7 (ay (ay aX alt) zw) aY func48 8
abbrev agc:ff:=⟨[cF,a1],[.im cF],kS⟩
def xy:FK 140 agc:=a7 aX aY func140 7
def YC:FK 155 ⟨[de,.str,(.sl de)],[.ow gK,.im a1],Mp⟩:=a7 (ay aX QA) aY func155 11
abbrev agb:ff:=⟨[de],[.ow gK],Ar⟩
def Yw:FK 113 agb:=a7 (ay aX YC) aY func113 5
abbrev af3:ff:=⟨[de,a1,a1],[.im a1,.im a1,.im a1],lR⟩
def Yi:FK 239 af3:=a7 aX aY func239 12
def aiH:gA:=jk (f_ [(239,af3)] [] [] [] none true false 0) f261 9
def asb:IK 261 aiH:=kJ (ay aX Yi) aY func261 9
abbrev af7:ff:=⟨[de],[.im vk,.im a1],K6⟩
def akL:FK 215 af7:=a7 (ay (ay aX Yk) QM) (gy aY asb) func215 9
def YZ:FK 260 ⟨[(.pair oX mA)],[.im (.ar 3 i1)],NB⟩:=a7 aX aY func260 3
abbrev agn:ff:=⟨[oX,a1],[.im de,.im dd],Iw⟩
def alZ:FK 216 agn:=a7 (ay aX YZ) aY func216 8
abbrev agk:ff:=⟨[w?,de,de,de],[.im w?,.im dd],DY⟩
def aln:FK 217 agk:=a7 (ay (ay (ay aX Qz) YM) YL) aY func217 11
abbrev Eg:ot:=⟨cF,[de],vk,[2,13,5],Mg⟩
def alf:vn Tryz.prog 170 58 Eg.ty Eg.args [.im Eg.rt] Eg.fn:=atw (E:=(f_ [(42,agj),(112,agd),(113,agb),(150,af6),(215,af7),(216,agn),(217,agk)] [] [] [] (some (172,58)) false false 0)) (s:=Eg) (p? (ay (ay (ay (ay (ay (ay (ay aX aln) alZ) akL) Qq) Yw) xz) FJ) aY jR q0 adD) rfl func170 14 (by kernel_rfl) (by kernel_rfl) (λx =>by kernel_rfl)
def Y?: FK 263 ⟨[a1],[.im a1,.im (.int .u64)],Jp⟩:=a7 aX aY func263 4
def amq:FK 262 ⟨[BN,a1],[.im dd],ON⟩:=a7 (ay aX Y?) aY func262 7
def amo:FK 218 ⟨[BN,a1],[.im dd],WS⟩:=a7 (ay aX amq) aY func218 5
def amr:FK 219 ⟨[BN,a1,.bool],[.im BN],y2⟩:=a7 (ay aX Y?) aY func219 9
abbrev agv:ff:=⟨[BN,a1],[.im BN,.im a1],EP⟩
def amp:FK 171 agv:=a7 (ay (ay aX amr) amo) aY func171 7
def YY:FK 220 ⟨[i1],[.im dd],Iy⟩:=a7 aX aY func220 3
abbrev ago:ff:=⟨[oX],[.im oX,.im a1],A8⟩
def YX:FK 173 ago:=a7 (ay aX YY) aY func173 5
def ale:FK 134 ⟨[cF,de],[.im cF,.im vk,.im a1],Mf⟩:=atv (E:=(f_ [(171,agv),(173,ago)] [] [] [(170,Eg)] (some (172,58)) false false 0)) (EC:=(f_ [(140,agc)] [] [] [] none false false 65536)) (p? (ay (ay aX YX) amp) aY jR (atx alf) adD) (p? (ay aX xy) aY jR q0 rZ) rfl func134 func169 9 3 (by kernel_rfl) (by kernel_rfl) (by kernel_rfl) (λc A B q h ae=>by cases h;cases ae;rfl) (λx =>by kernel_rfl)
def aiL:gA:=jk (f_ [] [] [] [] none false false 0) f205 3
def asf:IK 205 aiL:=kJ aX aY func205 3
def Cr:FK 156 ⟨[a1,a1],[.im a1,.im dd],q9⟩:=a7 (ay aX QC) (gy aY asf) func156 9
def QJ:FK 166 ⟨[cF,a1],[.im cF],tu⟩:=a7 (ay aX Cr) aY func166 5
def Y8:FK 174 ⟨[cF,a1],[.im cF],IV⟩:=a7 (ay (ay aX xz) KB) aY func174 5
def al7:FK 135 ⟨[cF],[.im cF],N4⟩:=a7 (ay (ay aX Y8) QJ) aY func135 3
def Qp:FK 265 ⟨[(.int .i32)],[.im a1,.im dd],sH⟩:=a7 aX aY func265 4
abbrev af4:ff:=⟨[.str],[.im a1,.im a1],ud⟩
def Qo:FK 223 af4:=a7 (ay aX Qp) aY func223 9
def Yg:FK 247 ⟨[de],[.im (.str)],FW⟩:=a7 aX aY func247 6
def Yh:FK 226 ⟨[de,a1,a1],[.im (.str),.im a1,.im a1],xI⟩:=a7 (ay (ay aX Qp) Yg) aY func226 15
def Qv:FK 269 ⟨[a1,a1],[.im a1],uE⟩:=a7 aX aY func269 5
def Kw:FK 227 ⟨[a1],[.im dd],Am⟩:=a7 (ay aX Qv) aY func227 4
def akv:FK 228 NL:=apw Ye
def akQ:FK 290 ⟨[a1],[.im a1],F_⟩:=a7 aX aY func290 3
def Pm:gA:=jk (f_ [] [] [] [] none false false 0) f291 3
def TC:IK 291 Pm:=kJ aX aY func291 3
def akR:FK 271 ⟨[a1,a1],[.im a1],zI⟩:=a7 (ay aX akQ) (gy aY TC) func271 5
def FF:FK 229 ⟨[a1],[.im Jw,.im dd],vT⟩:=a7 (ay aX akR) aY func229 6
def Qr:FK 272 ⟨[a1],[.im a1],iY⟩:=a7 aX aY func272 3
def Xh:gA:=jk (f_ [] [(291,Pm)] [] [] none false false 0) f292 7
def acL:IK 292 Xh:=kJ aX (gy aY TC) func292 7
def aiI:gA:=jk (f_ [] [(291,Pm),(292,Xh)] [] [] none false false 0) f285 3
def asc:IK 285 aiI:=kJ aX (gy (gy aY acL) TC) func285 3
def Kt:FK 254 ⟨[a1,de],[.im dd],vS⟩:=a7 (ay (ay aX Qr) FF) (gy (gy aY asc) acL) func254 8
def akO:FK 230 ⟨[a1,de,a1],[.ow gK,.im a1,.im a1],Lc⟩:=a7 (ay (ay (ay (ay (ay aX Qr) Kt) FF) Yh) Qo) aY func230 20
abbrev af9:ff:=⟨[de],[.im oi,.im a1],Dk⟩
def Qs:FK 176 af9:=a7 (ay (ay (ay (ay (ay (ay aX akO) FF) akv) Kw) Yh) Qo) aY func176 20
def YI:FK 278 ⟨[lG],[.im dd],Uw⟩:=a7 aX aY func278 3
def QB:FK 280 ⟨[lG],[.im dd],MG⟩:=a7 aX aY func280 3
def YH:FK 279 ⟨[lG],[.im dd],Uv⟩:=a7 (ay aX QB) aY func279 4
def YK:FK 281 ⟨[lG],[.im dd],Uy⟩:=a7 aX aY func281 3
def alm:FK 240 ⟨[lG],[.im (.fn [278,279,280,281])],Ux⟩:=a7 (ay (ay (ay (ay aX YK) QB) YH) YI) aY func240 3
def YG:FK 193 ⟨[lG],[.im dd],HT⟩:=a7 (ay (ay (ay (ay (ay aX YK) QB) YH) YI) alm) aY func193 3
def FG:FK 286 ⟨[i1],[.im a1],Mb⟩:=a7 aX aY func286 3
def Yu:FK 255 ⟨[oi],[.im W4],Ma⟩:=a7 (ay aX FG) aY func255 3
def Yv:FK 264 ⟨[W4,a1],[.im a1,.im dd],Hk⟩:=a7 (ay aX FG) aY func264 9
def aiQ:gA:=jk (f_ [] [] [] [] none false false 0) f293 5
def asj:IK 293 aiQ:=kJ aX aY func293 5
def ami:FK 287 ⟨[(.sl (.sl i1))],[.ow i1],Oc⟩:=a7 aX (gy aY asj) func287 9
def ald:FK 256 ⟨[W4,i1],[.ow i1],TK⟩:=a7 (ay (ay (ay aX FG) ami) Yv) aY func256 8
abbrev aga:ff:=⟨[oi,a1,de],[.im oi,.im a1],ko⟩
def Qt:FK 208 aga:=a7 (ay (ay (ay (ay (ay aX FG) ald) Yu) Kt) FF) aY func208 10
def Xi:gA:=jk (f_ [(208,aga)] [] [] [] none false false 0) f245 4
def acM:IK 245 Xi:=kJ (ay aX Qt) aY func245 4
def Ks:FK 207 ⟨[a1,a1],[.im (.str),.im a1],uc⟩:=a7 aX aY func207 8
def alk:FK 246 ⟨[a1,a1],[.ow gK],q2⟩:=a7 (ay aX Ks) aY func246 7
def YJ:FK 195 ⟨[lG],[.im oi],DK⟩:=a7 (ay (ay aX Yg) alk) (gy aY acM) func195 5
abbrev af8:ff:=⟨[oi,a1],[.im de,.im dd],qU⟩
def Kv:FK 222 af8:=a7 (ay (ay (ay aX FG) Yv) Yu) aY func222 8
def aiK:gA:=jk (f_ [(222,af8),(223,af4)] [(245,Xi)] [] [] none false false 0) f221 7
def ase:IK 221 aiK:=kJ (ay (ay aX Qo) Kv) (gy aY acM) func221 7
def akA:FK 266 ⟨[gK],[.im gK,.im dd],KS⟩:=a7 aX aY func266 4
def akz:FK 224 ⟨[.str],[.ow gK,.im a1],FX⟩:=a7 (ay aX akA) aY func224 10
def Qm:FK 148 ⟨[de,de],[.im dd],Cq⟩:=a7 aX aY func148 5
def Yt:FK 268 ⟨[i1,i1],[.im dd],L'⟩:=a7 (ay aX Qm) aY func268 5
def amj:FK 267 ⟨[(.sl i1),(.sl i1),(.fn [268])],[.im dd],Od⟩:=a7 (ay aX Yt) aY func267 10
def alc:FK 225 ⟨[oi,oi],[.im dd],Hi⟩:=a7 (ay (ay aX Yt) amj) aY func225 5
abbrev agh:ff:=⟨[de],[.im lG,.im a1],DJ⟩
def YF:FK 175 agh:=a7 (ay (ay (ay (ay (ay (ay aX alc) akz) Kv) YJ) YG) Qs) (gy aY ase) func175 10
def aiF:gA:=jk (f_ [(175,agh),(176,af9)] [] [] [] none false false 0) f136 7
def ar9:IK 136 aiF:=kJ (ay (ay aX Qs) YF) aY func136 7
def Ky:FK 114 ⟨[cF],[.im (.pair (.pair qr mA) (.pair cF mA))],yE⟩:=a7 aX aY func114 3
def QD:FK 115 ⟨[(.pair qr mA)],[.im dd],wO⟩:=a7 aX aY func115 3
def QE:FK 116 ⟨[cF],[.im cF],A6⟩:=a7 (ay aX Cr) aY func116 3
def QF:FK 117 ⟨[oX],[.im oX],Ix⟩:=a7 aX aY func117 3
def Yx:FK 211 ⟨[de,(.ar 2 a1),a1,de],[.ow gK],As⟩:=a7 (ay (ay (ay aX YC) Qx) Qn) aY func211 17
def YV:FK 163 ⟨[(.pair qr mA),a1,de],[.ow gK],A5⟩:=a7 (ay (ay aX Yx) xz) aY func163 7
def Y0:FK 210 ⟨[(.pair oX mA)],[.im dd],NC⟩:=a7 (ay (ay aX YZ) YY) aY func210 5
def al3:FK 212 ⟨[i1],[.im dd],NA⟩:=a7 aX aY func212 3
def YW:FK 164 ⟨[oX,a1,de],[.im oX,.im a1],Ec⟩:=a7 (ay (ay aX al3) Y0) aY func164 10
def YD:FK 165 ⟨[de],[.ow gK],HG⟩:=a7 (ay aX QA) aY func165 3
def alb:FK 241 ⟨[oi],[.im dd],L_⟩:=a7 (ay (ay aX Kt) Kw) aY func241 6
def Yf:FK 242 ⟨[.str],[.ow gK,.im a1],ub⟩:=a7 (ay aX Qp) aY func242 10
def akw:FK 282 ⟨[(.sl a1)],[.im dd],Kj⟩:=a7 aX aY func282 6
def akx:FK 243 ⟨[(.sl a1)],[.ow gK,.im a1],Kk⟩:=a7 (ay (ay aX Ye) akw) aY func243 9
def akP:FK 244 ⟨[a1,de],[.ow gK,.im a1],F9⟩:=a7 (ay (ay (ay (ay (ay aX Qr) Kt) Yf) FF) Ks) aY func244 14
def Qu:FK 194 ⟨[oi],[.ow gK,.im a1],Ao⟩:=a7 (ay (ay (ay (ay (ay aX akP) akx) Yf) alb) Ks) aY func194 17
abbrev agi:ff:=⟨[lG],[.ow gK,.im a1],p'⟩
def FH:FK 146 agi:=a7 (ay (ay (ay aX YJ) Qu) YG) aY func146 4
abbrev agf:ff:=⟨[lG,a1],[.im lG,.im a1],q1⟩
def Kx:FK 232 agf:=a7 aX aY func232 6
def aiM:gA:=jk (f_ [(79,age),(146,agi),(232,agf)] [] [] [] none false false 0) f231 9
def asg:IK 231 aiM:=kJ (ay (ay (ay aX Kx) FH) zw) aY func231 9
def alY:FK 177 ⟨[cF,lG],[.im cF],Nt⟩:=a7 (ay (ay (ay (ay (ay (ay (ay (ay (ay aX Qz) YD) YW) YV) xy) QF) QE) QD) Ky) (gy aY asg) func177 10
def YU:FK 80 ⟨[cF],[.im cF],Is⟩:=a7 (ay (ay (ay (ay aX QF) QE) QD) Ky) aY func80 3
def Qw:FK 78 ⟨[cF,a1,de],[.im cF,.im a1],Dr⟩:=a7 (ay (ay (ay (ay (ay aX Yw) xz) Yz) YA) Qx) aY func78 9
def aks:FK 145 ⟨[a1],[.im a1],Ke⟩:=a7 aX aY func145 3
def akq:FK 248 ⟨[a1],[.im dd],Kc⟩:=a7 aX aY func248 3
def aku:FK 196 ⟨[a1,a1,de],[.im dd],Kf⟩:=a7 (ay aX akq) aY func196 7
def akp:FK 147 ⟨[a1,a1,de],[.im kC,.im a1],Kb⟩:=a7 (ay aX aku) aY func147 8
def Kz:FK 107 ⟨[cF,lG],[.im cF],Bg⟩:=a7 (ay (ay (ay (ay (ay aX akp) FH) aks) zw) Qw) aY func107 9
def akr:FK 108 ⟨[kC,kC],[.im dd],PZ⟩:=a7 (ay aX Qm) aY func108 5
def Yd:FK 74 ⟨[kC],[.im dd],Fx⟩:=a7 (ay aX akr) aY func74 3
def Kr:FK 184 ⟨[kC,a1,a1],[.im dd],xs⟩:=a7 (ay aX Yd) aY func184 7
def alW:FK 178 ⟨[cF,lG],[.im cF],Nr⟩:=a7 (ay (ay (ay (ay (ay (ay (ay (ay aX Kr) YX) xy) QE) QD) Ky) Kz) YU) aY func178 5
def akX:FK 179 ⟨[cF,lG],[.im cF],R1⟩:=a7 (ay (ay (ay aX Kx) FH) zw) aY func179 9
def Yn:FK 118 ⟨[cF],[.im cF],CS⟩:=a7 (ay aX Cr) aY func118 3
def akV:FK 180 ⟨[cF,lG],[.im cF],Ll⟩:=a7 (ay (ay (ay (ay aX Kr) YF) xy) Yn) aY func180 7
def QI:FK 182 ⟨[cF],[.im cF],tt⟩:=a7 (ay aX xy) aY func182 3
def Yy:FK 106 ⟨[qr,a1],[.im qr],At⟩:=a7 (ay (ay (ay aX xz) FJ) KB) aY func106 5
abbrev agr:ff:=⟨[cF,a1],[.im cF],tr⟩
def FL:FK 72 agr:=a7 (ay aX Yy) aY func72 5
def JM:gA:=jk (f_ [(72,agr)] [] [] [] none false false 0) f273 3
def L4:IK 273 JM:=kJ (ay aX FL) aY func273 3
abbrev VC:ff:=⟨[cF,lG],[.im cF],IW⟩
def QH:FK 274 VC:=a7 (ay (ay (ay aX Kx) FH) zw) aY func274 9
def Po:gA:=jk (f_ [] [(273,JM)] [] [] none false false 0) f275 3
def TD:IK 275 Po:=kJ aX (gy aY L4) func275 3
def Xj:gA:=jk (f_ [(274,VC)] [(273,JM),(275,Po)] [] [] none false false 0) f276 5
def acN:IK 276 Xj:=kJ (ay aX QH) (gy (gy aY TD) L4) func276 5
def aiN:gA:=jk (f_ [(274,VC)] [(273,JM),(275,Po),(276,Xj)] [] [] none false false 0) f234 2
def ash:IK 234 aiN:=kJ (ay aX QH) (gy (gy (gy aY acN) TD) L4) func234 2
def ama:FK 181 ⟨[cF,lG],[.im cF],N6⟩:=a7 (ay (ay (ay aX QH) Kr) QI) (gy (gy (gy (gy aY ash) acN) TD) L4) func181 7
def akK:FK 137 ⟨[cF,lG],[.im cF],F2⟩:=a7 (ay (ay (ay (ay (ay aX ama) akV) akX) alW) alY) aY func137 5
def amk:FK 190 ⟨[de],[.im a1,.im dd],I2⟩:=a7 (ay (ay (ay aX Yi) Qm) QN) aY func190 8
def amn:FK 191 ⟨[a1,a1,.bool,.bool],[.im a1,.im dd],VR⟩:=a7 aX aY func191 10
def Y':FK 143 ⟨[tJ],[.im a1,.im a1,.im dd],I1⟩:=a7 (ay (ay aX amn) amk) aY func143 11
def amm:FK 104 ⟨[tJ,a1],[.im tJ,.im a1,.im a1],Og⟩:=a7 (ay (ay (ay aX Y_) Y') QN) aY func104 13
def Y5:FK 105 ⟨[cF],[.im cF],Ep⟩:=a7 (ay aX Yy) aY func105 4
def Y7:FK 71 ⟨[cF],[.im cF,.im a1,.im a1],IU⟩:=a7 (ay (ay aX Y5) amm) aY func71 8
def ame:FK 235 ⟨[cF,lG,a1],[.im cF],IY⟩:=a7 (ay (ay (ay aX Kx) FH) Qw) aY func235 11
def al0:FK 277 ⟨[de],[.im oX,.im a1],Nx⟩:=a7 aX aY func277 4
def Y9:FK 236 ⟨[cF,a1,a1],[.im cF],Et⟩:=a7 (ay (ay (ay aX al0) Yx) xz) aY func236 7
def amd:FK 183 ⟨[cF,lG,a1],[.im cF],N_⟩:=a7 (ay (ay (ay (ay (ay (ay aX Y9) ame) QI) FL) Y7) FJ) aY func183 10
def KA:FK 73 ⟨[cF,a1],[.im cF],Er⟩:=a7 (ay aX Kz) aY func73 5
def amc:FK 185 ⟨[cF,a1],[.im cF],N9⟩:=a7 (ay (ay (ay (ay aX Y9) Y8) QJ) KA) aY func185 5
def al9:FK 138 ⟨[cF,vk,lG],[.im cF],IQ⟩:=a7 (ay (ay (ay (ay aX amc) Kr) amd) QI) aY func138 9
def FI:FK 159 ⟨[a1],[.im dd],yv⟩:=a7 (ay aX QC) aY func159 3
def Ym:FK 161 ⟨[cF,a1,a1,de],[.im cF],Gb⟩:=a7 (ay (ay aX xz) KB) aY func161 9
def ak9:FK 237 ⟨[a1],[.im a1],Hh⟩:=a7 (ay (ay aX Qv) Kw) aY func237 3
def Yq:FK 186 ⟨[oi],[.im dd],Gc⟩:=a7 (ay aX ak9) aY func186 3
def ak4:FK 187 ⟨[.bool,a1,a1],[.im a1],R4⟩:=a7 aX aY func187 7
def Yo:FK 206 ⟨[oi],[.im dd],CT⟩:=a7 (ay aX Kv) aY func206 5
def ak3:FK 188 ⟨[oi],[.im dd],Lr⟩:=a7 (ay aX Yo) aY func188 4
def ala:FK 238 ⟨[a1],[.im a1,.im dd],L9⟩:=a7 (ay (ay aX Qv) Kw) aY func238 5
def ak2:FK 189 ⟨[cF,oi],[.im cF],Lq⟩:=a7 (ay (ay (ay (ay (ay (ay aX ala) Kv) Qt) Qu) xy) zw) aY func189 13
def ak1:FK 139 ⟨[cF,vk,oi],[.im cF],Ga⟩:=a7 (ay (ay (ay (ay (ay (ay (ay aX ak2) ak3) ak4) Yq) Ym) FI) xy) aY func139 7
def akF:FK 100 ⟨[cF,de],[.im cF],FZ⟩:=a7 (ay (ay (ay (ay (ay (ay (ay aX xy) ak1) al9) akK) al7) ale) Ku) (gy aY ar9) func100 10
def akB:FK 68 ⟨[cF,a1,de],[.im cF],K3⟩:=a7 (ay (ay aX akF) ak7) aY func68 12
abbrev aw0:i3:=⟨qs,[a1,a1,de],[],EQ⟩
def Zc:i2 Tryz.prog 37 aw0:=pO (ay aX akB) aY (ik (ik jR FM) KE) func37 8
abbrev IE:i3:=⟨qs,[kC],[.im a1],Js⟩
def QP:i2 Tryz.prog 22 IE:=pO (ay (ay aX QL) xA) (gy aY acO) (ik jR Zc) func22 7
abbrev NQ:i3:=⟨qs,[kC],[.im a1],OT⟩
def Zh:i2 Tryz.prog 54 NQ:=pO (ay (ay aX QL) xA) (gy aY acO) jR func54 5
abbrev NM:i3:=⟨qs,[kC],[.im a1],OP⟩
def Zb:i2 Tryz.prog 55 NM:=pO (ay (ay aX QK) xA) aY jR func55 5
abbrev NT:i3:=⟨qs,[kC],[.im a1],OW⟩
def Zk:i2 Tryz.prog 56 NT:=pO (ay (ay (ay aX QM) QK) xA) aY jR func56 6
abbrev NR:i3:=⟨qs,[kC],[.im a1],OU⟩
def Zi:i2 Tryz.prog 57 NR:=pO (ay aX xA) aY (ik jR Zc) func57 5
def ak8:FK 122 ⟨[rj,a1],[.im rj,.im a1],L1⟩:=a7 (ay aX Ys) aY func122 7
def akH:FK 94 ⟨[cF,a1],[.im cF,.im a1],K5⟩:=a7 (ay (ay aX ak8) Ku) aY func94 8
abbrev NS:i3:=⟨qs,[kC],[.im a1],OV⟩
def Zj:i2 Tryz.prog 58 NS:=pO (ay (ay aX akH) xA) aY (ik (ik jR FM) KE) func58 8
abbrev NO:i3:=⟨qs,[kC],[.im a1],OS⟩
def Zf:i2 Tryz.prog 59 NO:=pO (ay aX xA) aY (ik jR Zd) func59 5
def al2:FK 43 ⟨[oX],[.im oX],Nz⟩:=a7 aX aY func43 3
def Y6:FK 44 ⟨[cF],[.im cF,.im a1],IR⟩:=a7 (ay (ay (ay aX KA) FL) Y7) aY func44 6
def Pl:gA:=jk (f_ [] [] [] [] none false false 0) f76 2
def TB:IK 76 Pl:=kJ aX aY func76 2
def Xg:gA:=jk (f_ [] [(76,Pl)] [] [] none false false 0) f77 2
def acK:IK 77 Xg:=kJ aX (gy aY TB) func77 2
def aiE:gA:=jk (f_ [] [(76,Pl),(77,Xg)] [] [] none false false 0) f75 4
def ar8:IK 75 aiE:=kJ aX (gy (gy aY acK) TB) func75 4
def akt:FK 45 ⟨[kC],[.im kC,.im dd,.im dd],Cj⟩:=a7 (ay aX Yd) (gy (gy (gy aY ar8) acK) TB) func45 8
def akI:FK 46 ⟨[cF,kC],[.im cF],CE⟩:=a7 (ay (ay aX zw) Qw) aY func46 5
def akY:FK 81 ⟨[cF],[.im cF],Ln⟩:=a7 (ay aX Yn) aY func81 3
def al8:FK 82 ⟨[cF],[.im cF],N5⟩:=a7 (ay aX FL) aY func82 3
def akJ:FK 47 ⟨[cF],[.im cF],CF⟩:=a7 (ay (ay (ay aX al8) akY) YU) aY func47 3
abbrev af5:ff:=⟨[cF],[.im cF],F1⟩
def Yj:FK 24 af5:=a7 (ay (ay (ay (ay (ay (ay (ay aX Ku) akJ) akI) akt) Y6) al2) FJ) aY func24 6
def QO:FK 13 ⟨[sm,a1],[.im sm],sk⟩:=Mt (E:=(f_ [(24,af5)] [] [(22,IE),(23,agx),(25,agw)] [] none false false 0)) (p? (ay aX Yj) aY (ik (ik (ik jR FM) KE) QP) q0 rZ) func13 8 (by kernel_rfl) (by kernel_rfl) (λx =>by kernel_rfl)
abbrev NN:i3:=⟨qs,[kC],[.im a1],OR⟩
def Ze:i2 Tryz.prog 60 NN:=pO (ay aX QO) aY jR func60 5
def akZ:FK 158 ⟨[de,a1],[.ow gK,.im a1],Lo⟩:=a7 (ay (ay (ay (ay (ay (ay aX Qt) Ks) Yo) Qu) Yq) Qs) aY func158 12
def alr:FK 209 agm:=apz
def als:FK 160 ⟨[(.sl de),de,a1],[.im (.sl de),.im a1],M2⟩:=a7 (ay aX alr) aY func160 11
def ak0:FK 123 ⟨[cF,de],[.im cF,.im a1],Lp⟩:=a7 (ay (ay (ay (ay (ay aX Ym) als) FI) akZ) Ku) aY func123 9
def amb:FK 124 ⟨[cF],[.im cF,.im a1],N7⟩:=a7 (ay (ay (ay (ay aX Cr) QF) KA) FL) aY func124 6
def al6:FK 125 ⟨[cF],[.im cF,.im a1],N3⟩:=a7 (ay (ay aX FI) KA) aY func125 4
def al1:FK 162 ⟨[oX],[.im a1,.im a1],Ny⟩:=a7 (ay aX Y0) aY func162 4
def alX:FK 126 ⟨[cF,de],[.im cF,.im a1],Ns⟩:=a7 (ay (ay (ay (ay (ay (ay (ay (ay aX YD) YW) YV) al1) FI) Cr) Ky) Kz) aY func126 9
def akW:FK 127 ⟨[cF,a1],[.im cF,.im a1],Lm⟩:=a7 (ay (ay (ay aX FI) Cr) Kz) aY func127 6
def al5:FK 128 ⟨[cF],[.im cF],N2⟩:=a7 (ay (ay aX QJ) Y') aY func128 6
def akE:FK 95 ⟨[cF,kC],[.im cF,.im a1],K4⟩:=a7 (ay (ay (ay (ay (ay (ay (ay (ay (ay aX al5) akW) alX) al6) amb) ak0) Y5) Y6) Yj) aY func95 6
abbrev NP:i3:=⟨qs,[kC],[.im a1],qo⟩
def Zg:i2 Tryz.prog 61 NP:=pO (ay (ay aX akE) xA) aY (ik (ik jR FM) KE) func61 7
def Xl:gA:=jk (f_ [] [] [(22,IE),(54,NQ),(55,NM),(56,NT),(57,NR),(58,NS),(59,NO),(60,NN),(61,NP)] [] none true false 0) f28 4
def asm:IK 28 Xl:=adv (E:=(f_ [] [] [(22,IE),(54,NQ),(55,NM),(56,NT),(57,NR),(58,NS),(59,NO),(60,NN),(61,NP)] [] none true false 0)) (p? aX aY (ik (ik (ik (ik (ik (ik (ik (ik (ik jR Zg) Ze) Zf) Zj) Zi) Zk) Zb) Zh) QP) q0 rZ) func28 4
def Za:FK 17 ⟨[sm,kC],[.im sm,.im a1],vi⟩:=Mt (E:=(f_ [] [(28,Xl)] [(22,IE),(54,NQ),(55,NM),(56,NT),(57,NR),(58,NS),(59,NO),(60,NN),(61,NP)] [] none false false 0)) (p? aX (gy aY asm) (ik (ik (ik (ik (ik (ik (ik (ik (ik jR Zg) Ze) Zf) Zj) Zi) Zk) Zb) Zh) QP) q0 rZ) func17 10 (by kernel_rfl) (by kernel_rfl) (λx =>by kernel_rfl)
def KD:FK 9 ⟨[sm,(.sl kC)],[.im sm,.ow a1],my⟩:=a7 (ay aX Za) aY func9 11
def vJ:FK 33 ⟨[de,de],[.im dd],q?⟩:=a7 aX aY func33 5
def alM:FK 26 ⟨[i1,i1],[.im dd],Ip⟩:=a7 (ay aX vJ) aY func26 5
def YR:FK 15 ⟨[oX,oX],[.im dd],Io⟩:=a7 (ay aX alM) aY func15 8
def YS:FK 31 ⟨[(.sl BO),(.sl BO)],[.im dd],Iq⟩:=a7 (ay aX vJ) aY func31 6
def alN:FK 63 ⟨[tJ,tJ],[.im dd],Nj⟩:=a7 (ay aX vJ) aY func63 5
def alO:FK 64 ⟨[kC,kC],[.im dd],Nk⟩:=a7 (ay aX vJ) aY func64 5
def alv:FK 65 ⟨[(.sl de),(.sl de)],[.im dd],M_⟩:=a7 aX aY func65 6
def alK:FK 98 ⟨[Jy,Jy],[.im dd],Nh⟩:=a7 (ay aX vJ) aY func98 5
def alL:FK 66 ⟨[rj,rj],[.im dd],Ni⟩:=a7 (ay aX alK) aY func66 7
def alR:FK 67 ⟨[(.sl i1),(.sl i1)],[.im dd],Nm⟩:=a7 (ay aX vJ) aY func67 6
def alQ:FK 30 ⟨[qr,qr],[.im dd],Nl⟩:=a7 (ay (ay (ay (ay (ay (ay (ay (ay aX alR) alL) alv) alO) alN) vJ) YS) YR) aY func30 12
def alV:FK 32 ⟨[Jx,Jx],[.im dd],A4⟩:=a7 (ay aX vJ) aY func32 6
def alS:FK 20 ⟨[sm,sm],[.im dd],Nn⟩:=a7 (ay (ay (ay aX alV) YS) alQ) aY func20 8
def alx:FK 21 ⟨[w?,w?],[.im dd],Ii⟩:=a7 (ay aX vJ) aY func21 6
def YT:FK 10 ⟨[sm,sm],[.im dd],D'⟩:=a7 (ay (ay aX alx) alS) aY func10 6
def alB:FK 120 ⟨[(.sl a1),a1],[.im dd],Im⟩:=a7 aX aY func120 6
def YP:FK 86 ⟨[a1],[.im Jw,.im dd],Ij⟩:=a7 (ay aX alB) aY func86 7
def YQ:FK 87 ⟨[Jw,de],[.im dd],Il⟩:=a7 aX aY func87 6
def aly:FK 84 ⟨[a1,de],[.im dd],M'⟩:=a7 (ay (ay aX YQ) YP) aY func84 8
def alH:FK 85 ⟨[a1],[.im dd],Nf⟩:=a7 aX aY func85 3
def alG:FK 49 ⟨[oi],[.im dd],Nd⟩:=a7 (ay (ay aX alH) aly) aY func49 5
def alu:FK 92 ⟨[.str],[.im dd],M9⟩:=a7 aX aY func92 4
def YN:FK 52 ⟨[.str],[.ow gK,.im a1],u5⟩:=a7 (ay aX alu) aY func52 6
def alA:FK 88 ⟨[a1],[.im a1],M?⟩:=a7 aX aY func88 3
def alw:FK 121 ⟨[a1,a1],[.im a1],D7⟩:=a7 aX aY func121 7
def YO:FK 89 ⟨[a1,a1],[.im (.str),.im a1],yC⟩:=a7 (ay aX alw) aY func89 8
def alz:FK 50 ⟨[a1,de],[.ow gK,.im a1],Ik⟩:=a7 (ay (ay (ay (ay (ay aX YO) alA) YQ) YP) YN) aY func50 16
def alE:FK 90 ⟨[(.sl a1)],[.im dd],Nb⟩:=a7 aX aY func90 4
def alD:FK 91 ⟨[a1],[.im a1,.im gK],D8⟩:=a7 aX aY func91 6
def alF:FK 51 ⟨[(.sl a1)],[.ow gK,.im a1],Nc⟩:=a7 (ay (ay aX alD) alE) aY func51 11
def alJ:FK 53 ⟨[a1],[.im (.str)],Ng⟩:=a7 (ay aX YO) aY func53 5
def alI:FK 27 ⟨[oi],[.ow gK,.im a1],D9⟩:=a7 (ay (ay (ay (ay (ay aX alJ) YN) alF) alz) alG) aY func27 14
def YB:FK 16 ⟨[a1],[.ow gK],Hy⟩:=a7 (ay aX alI) aY func16 5
def Qy:FK 6 ⟨[],[.im dd],Ds⟩:=a7 (ay (ay (ay (ay (ay (ay aX Za) YB) QO) YT) KD) KC) aY func6 12
def alU:FK 7 ⟨[(.sl kC),a1],[.im dd],Np⟩:=a7 aX aY func7 7
def alC:FK 11 ⟨[(.sl a1),(.sl a1)],[.im dd],Na⟩:=a7 aX aY func11 6
def alT:FK 12 ⟨[(.sl a1)],[.ow a1],D_⟩:=a7 aX aY func12 5
def ali:FK 3 ⟨[(.sl kC),gK,gK],[.im dd],TZ⟩:=a7 (ay (ay (ay (ay (ay (ay (ay (ay aX QO) alT) alC) YT) KD) KC) alU) Qy) aY func3 17
def alP:FK 14 ⟨[qr],[.im (.ar 2 a1)],A3⟩:=a7 aX aY func14 3
def alg:FK 4 ⟨[(.ar 32 gK),.bool,gK],[.im dd],TX⟩:=a7 (ay (ay (ay (ay (ay aX YR) alP) KD) KC) Qy) aY func4 14
def alh:FK 5 ⟨[(.pair gK (.pair (.int .u16) (.pair gK (.pair gK mA))))],[.im dd],TY⟩:=a7 (ay (ay (ay (ay aX YB) KD) KC) Qy) aY func5 18
end Yp
namespace Yp
open Go
set_option maxRecDepth 100000
set_option maxHeartbeats 2000000
def E2:=@UInt32.toNat_or
def lD(x n:UInt32):UInt32:=u32 (g? .u32 (a3 (u32 (fB .u32 (a3 x) (a3 n)))) (a3 (u32 (hU .u32 (a3 x) (a3 (u32 (bg (a3 (u32 32)) (a3 n))))))))
def auC(a b:UInt32):u32 (g? .u32 (a3 a) (a3 b))=u32 (g? .u32 (a3 b) (a3 a)):=by rw[H5,H5,UInt32.or_comm]
def u9{x:UInt32}{n:UInt32}(O:cz (u64 (i9 .u64 (cz (u64 k)) (cz (u64 31))))=a3 (u32 (bg (a3 (u32 32)) (a3 n))))(R:cz (u64 (bg (cz (u64 32)) (cz (u64 (i9 .u64 (cz (u64 k)) (cz (u64 31)))))))=a3 n):
  la (x,k,())=some (lD x n,()):=by
 unfold la lD;rw[auC,R,O]
def e8(x:UInt32):la (x, -2,())=some (lD x (u32 2),()):=u9 rfl rfl
def tg(x:UInt32):la (x, -13,())=some (lD x (u32 13),()):=u9 rfl rfl
def U'(x:UInt32):la (x, -22,())=some (lD x (u32 22),()):=u9 rfl rfl
def U?(x:UInt32):la (x, -6,())=some (lD x (u32 6),()):=u9 rfl rfl
def avu(x:UInt32):la (x, -11,())=some (lD x (u32 11),()):=u9 rfl rfl
def avy(x:UInt32):la (x, -25,())=some (lD x (u32 25),()):=u9 rfl rfl
def afg(x:UInt32):la (x, -7,())=some (lD x (u32 7),()):=u9 rfl rfl
def avw(x:UInt32):la (x, -18,())=some (lD x (u32 18),()):=u9 rfl rfl
def avv(x:UInt32):la (x, -17,())=some (lD x (u32 17),()):=u9 rfl rfl
def avx(x:UInt32):la (x, -19,())=some (lD x (u32 19),()):=u9 kK kK
def WU(a b c d:UInt8):UInt32:=
 u32 (aC (a3 (u32 (aC (a3 (u32 (aC (a3 (u32 (fr (a3 (u32 (aN a))) (a3 (u32 16777216))))) (a3 (u32 (fr (a3 (u32 (aN b))) (a3 (u32 65536)))))))) (a3 (u32 (fr (a3 (u32 (aN c))) (a3 (u32 256)))))))) (a3 (u32 (aN d))))
def aie(a b c d:UInt8):UInt32:=
 u32 (g? .u32 (a3 (u32 (g? .u32 (a3 (u32 (g? .u32 (a3 (u32 (hU .u32 (a3 (u32 (aN a))) (cz (u64 24))))) (a3 (u32 (hU .u32 (a3 (u32 (aN b))) (cz (u64 16)))))))) (a3 (u32 (hU .u32 (a3 (u32 (aN c))) (cz (u64 8)))))))) (a3 (u32 (aN d))))
def uP(h:0<=a/\a<4294967296):a3 (u32 a)=a:=by
 show(((BitVec.ofNat 32 ((a%2^32).toNat)).toNat:Nat):Int)=a
 grind
def Jc{a:Nat}(h:a<4294967296):(u32 (a:Int)).toNat=a:=by have:=uP (a:=(a:Int)) J;unfold a3 at this;omega
def ayV(a b c d:UInt8):aie a b c d=WU a b c d:=by
 have bc:=a.toNat_lt;have Y:=b.toNat_lt;have ah:=c.toNat_lt;have aI:=d.toNat_lt;unfold aie WU;have e1:∀x:UInt8,a3 (u32 (aN x))=(x.toNat:Int):=λx=>by have:=x.toNat_lt;exact uP (a:=(x.toNat:Int)) J
 have bp:∀(x:UInt8),hU .u32 (a3 (u32 (aN x))) (cz (u64 24))=((x.toNat*16777216:Nat):Int):=λx=>by rw[e1];show(x.toNat:Int)*2^24=_;omega
 have ax:∀(x:UInt8),hU .u32 (a3 (u32 (aN x))) (cz (u64 16))=((x.toNat*65536:Nat):Int):=λx=>by rw[e1];show(x.toNat:Int)*2^16=_;omega
 have d_:∀(x:UInt8),hU .u32 (a3 (u32 (aN x))) (cz (u64 8))=((x.toNat*256:Nat):Int):=λx=>by rw[e1];show(x.toNat:Int)*2^8=_;omega
 have bE:∀(x:UInt8),fr (a3 (u32 (aN x))) (a3 (u32 16777216))=((x.toNat*16777216:Nat):Int):=λx=>by rw[e1,uP bN];show(x.toNat:Int)*16777216=_;omega
 have cq:∀(x:UInt8),fr (a3 (u32 (aN x))) (a3 (u32 65536))=((x.toNat*65536:Nat):Int):=λx=>by rw[e1,uP bN];show(x.toNat:Int)*65536=_;omega
 have g7:∀(x:UInt8),fr (a3 (u32 (aN x))) (a3 (u32 256))=((x.toNat*256:Nat):Int):=λx=>by rw[e1,uP bN];show(x.toNat:Int)*256=_;omega
 rw[bp,ax,d_,bE,cq,g7,H5,H5,H5];have d1:(u32 (aN d)).toNat=d.toNat:=Jc J;apply UInt32.toNat_inj.1;rw[E2,E2,E2,Jc J,Jc J,Jc J,d1];have UB:(c.toNat*256)|||d.toNat=c.toNat*256+d.toNat:=by have:=JQ (i:=8) (b:=d.toNat) J c.toNat;rw[Xe];exact this.symm
 have mR:(b.toNat*65536)|||(c.toNat*256+d.toNat)=b.toNat*65536+(c.toNat*256+d.toNat):=by have:=JQ (i:=16) (b:=c.toNat*256+d.toNat) J b.toNat;rw[Xe b.toNat];exact this.symm
 have lX:(a.toNat*16777216)|||(b.toNat*65536+(c.toNat*256+d.toNat))=a.toNat*16777216+(b.toNat*65536+(c.toNat*256+d.toNat)):=by have:=JQ (i:=24) (b:=b.toNat*65536+(c.toNat*256+d.toNat)) J a.toNat;rw[Xe a.toNat];exact this.symm
 rw[Nat.or_assoc,Nat.or_assoc,UB,mR,lX];have bG:aC (a3 (u32 ((a.toNat*16777216:Nat):Int))) (a3 (u32 ((b.toNat*65536:Nat):Int)))=((a.toNat*16777216+b.toNat*65536:Nat):Int):=by rw[uP J,uP J];show(_:Int)+_=_;omega
 rw[bG];have ca:aC (a3 (u32 ((a.toNat*16777216+b.toNat*65536:Nat):Int))) (a3 (u32 ((c.toNat*256:Nat):Int)))=((a.toNat*16777216+b.toNat*65536+c.toNat*256:Nat):Int):=by rw[uP J,uP J];show(_:Int)+_=_;omega
 rw[ca];have cr:aC (a3 (u32 ((a.toNat*16777216+b.toNat*65536+c.toNat*256:Nat):Int))) (a3 (u32 (aN d)))=((a.toNat*16777216+b.toNat*65536+c.toNat*256+d.toNat:Nat):Int):=by rw[uP J,e1];show(_:Int)+_=_;omega
 rw[cr,Jc J];omega
def att(cq atf T? ate:UInt32):UInt32:=
 u32 (aC (a3 (u32 (aC (a3 (u32 (aC (a3 (u32 (fO .u32 (a3 (u32 (fO .u32 (a3 (lD cq (u32 17))) (a3 (lD cq (u32 19)))))) (a3 (u32 (fB .u32 (a3 cq) (cz (u64 10)))))))) (a3 atf)))) (a3 (u32 (fO .u32 (a3 (u32 (fO .u32 (a3 (lD T? (u32 7))) (a3 (lD T? (u32 18)))))) (a3 (u32 (fB .u32 (a3 T?) (cz (u64 3))))))))))) (a3 ate))
def kx(b:aa)(i:Nat):UInt8:=b.getD i 0
def ka(m:List UInt32)(i:Nat):UInt32:=m.getD i 0
def li(b:aa)(df:Nat):Nat->List UInt32
 |0=>List.replicate 64 0
 | t+1=>(li b df t).set t (if t < 16 then WU (kx b (df+4*t)) (kx b (df+4*t+1)) (kx b (df+4*t+2)) (kx b (df+4*t+3))
   else att (ka (li b df t) (t-2)) (ka (li b df t) (t-7)) (ka (li b df t) (t-15)) (ka (li b df t) (t-16)))
def agA(b:aa)(df:Nat):∀t,(li b df t).length=64
 |0=>by simp[li]
 |t+1=>by rw[li,kf];exact agA b df t
def agz{b c:aa}{x y:Nat}(h:∀i,i<64->kx b (x+i)=kx c (y+i)):∀t,li b x t=li c y t
 |0=>rfl
 |t+1=>by
  rw[li,li,agz h t];by_cases ht:t<16
  .rw[if_pos ht,if_pos ht,h (4*t) J,jJ x,jJ x,jJ x,h (4*t+1) J,h (4*t+2) J,h (4*t+3) J];rfl
  grind
def fL(h:a=(n:Int))(am:n<=9223372036854775807):i64 a=(n:Int):=by rw[h];exact hw J J
def axk(b:aa)(Y:b.length=64):N1 (b,())=some (li b 0 64,()):=by
 unfold N1;generalize hf:(λ(V:Int×List UInt32×Unit)=>_)=f;have step:∀t:Nat,t<64->f ((t:Int),li b 0 t,())=some (.nx (((t+1:Nat):Int),li b 0 (t+1),())):=by
  intro t ht;subst hf;have ac:i64 (aC (t:Int) 1)=((t+1:Nat):Int):=fL (by show(t:Int)+1=_;omega) J;refine a? cp ?_;by_cases oF:t<16
  .have eM:i64 (fr 4 (t:Int))=((4*t:Nat):Int):=fL (by show 4*(t:Int)=_;omega) J
   have e1:i64 (aC (i64 (fr 4 (t:Int))) 1)=((4*t+1:Nat):Int):=by rw[eM];exact fL (by show((4*t:Nat):Int)+1=_;omega) J
   have aT:i64 (aC (i64 (fr 4 (t:Int))) 2)=((4*t+2:Nat):Int):=by rw[eM];exact fL (by show((4*t:Nat):Int)+2=_;omega) J
   have dI:i64 (aC (i64 (fr 4 (t:Int))) 3)=((4*t+3:Nat):Int):=by rw[eM];exact fL (by show((4*t:Nat):Int)+3=_;omega) J
   refine a? cp ?_;rw[e1,aT,dI,eM,ac];refine a6 cp (a6 cp (a6 cp (a6 cp (a6 cp ?_))));have bu:=ayV (kx b (4*t)) (kx b (4*t+1)) (kx b (4*t+2)) (kx b (4*t+3));rw[li,if_pos oF,js,<- bu];rfl
  have Rs:i64 (bg (t:Int) 15)=((t-15:Nat):Int):=fL (by show(t:Int)-15=_;omega) J;have aT:i64 (bg (t:Int) 2)=((t-2:Nat):Int):=fL (by show(t:Int)-2=_;omega) J;have Rt:i64 (bg (t:Int) 7)=((t-7:Nat):Int):=fL (by show(t:Int)-7=_;omega) J;have am9:i64 (bg (t:Int) 16)=((t-16:Nat):Int):=fL (by show(t:Int)-16=_;omega) J;refine a0 cp ?_;rw[Rs,aT,Rt,am9,ac];refine a6 cp ?_;refine a6 jN ?_;rw[afg];rw[avw];rw[avv];rw[avx];refine a6 jN ?_;refine a6 jN ?_;refine a6 jN ?_;rw[li,if_neg oF];rfl
 have e0:∀m,f (((64:Nat):Int),m,())=some (.ex 0 (((64:Nat):Int),m,())):=by subst hf;intro m;exact bU rfl
 have h5:bC f (((0:Nat):Int),li b 0 0,())=some (.ex 0 (((64:Nat):Int),li b 0 64,())):=
  (kr (f:=f) (λt=>((t:Int),li b 0 t,())) 64 step 0 (eS _)).trans (dT (e0 _))
 generalize ae:li b 0 64=m at h5;refine(cO (show bC f _=_ from h5)).trans ?_;rfl
abbrev zk:=UInt32×UInt32×UInt32×UInt32×UInt32×UInt32×UInt32×UInt32
def ahq(k m h g f e:UInt32):UInt32:=
 u32 (aC (a3 (u32 (aC (a3 (u32 (aC (a3 (u32 (aC (a3 h) (a3 (u32 (fO .u32 (a3 (u32 (fO .u32 (a3 (lD e (u32 6))) (a3 (lD e (u32 11)))))) (a3 (lD e (u32 25))))))))) (a3 (u32 (fO .u32 (a3 (u32 (i9 .u32 (a3 e) (a3 f)))) (a3 (u32 (i9 .u32 (a3 (u32 (fO .u32 4294967295 (a3 e)))) (a3 g)))))))))) (a3 k)))) (a3 m))
def ax2(c b a:UInt32):UInt32:=
 u32 (aC (a3 (u32 (fO .u32 (a3 (u32 (fO .u32 (a3 (lD a (u32 2))) (a3 (lD a (u32 13)))))) (a3 (lD a (u32 22)))))) (a3 (u32 (fO .u32 (a3 (u32 (fO .u32 (a3 (u32 (i9 .u32 (a3 a) (a3 b)))) (a3 (u32 (i9 .u32 (a3 a) (a3 c))))))) (a3 (u32 (i9 .u32 (a3 b) (a3 c))))))))
def ad7(k m:UInt32)(s:zk):zk:=
 (s.2.1,s.2.2.1,s.2.2.2.1,u32 (aC (a3 s.2.2.2.2.1) (a3 (ahq k m s.1 s.2.1 s.2.2.1 s.2.2.2.1))),s.2.2.2.2.2.1,s.2.2.2.2.2.2.1,s.2.2.2.2.2.2.2,
  u32 (aC (a3 (ahq k m s.1 s.2.1 s.2.2.1 s.2.2.2.1)) (a3 (ax2 s.2.2.2.2.2.1 s.2.2.2.2.2.2.1 s.2.2.2.2.2.2.2))))
def r?(wx:List UInt32)(s:zk):Nat->zk
 |0=>s
 |t+1=>ad7 (ka p8 t) (ka wx t) (r? wx s t)
def A0(s:zk):List UInt32:=[s.2.2.2.2.2.2.2,s.2.2.2.2.2.2.1,s.2.2.2.2.2.1,s.2.2.2.2.1,s.2.2.2.1,s.2.2.1,s.2.1,s.1]
def XC(w:List UInt32)(s:zk):List UInt32:=
 [u32 (aC (a3 (ka w 0)) (a3 s.2.2.2.2.2.2.2)),u32 (aC (a3 (ka w 1)) (a3 s.2.2.2.2.2.2.1)),u32 (aC (a3 (ka w 2)) (a3 s.2.2.2.2.2.1)),u32 (aC (a3 (ka w 3)) (a3 s.2.2.2.2.1)),
  u32 (aC (a3 (ka w 4)) (a3 s.2.2.2.1)),u32 (aC (a3 (ka w 5)) (a3 s.2.2.1)),u32 (aC (a3 (ka w 6)) (a3 s.2.1)),u32 (aC (a3 (ka w 7)) (a3 s.1))]
def ad9(w:List UInt32):zk:=(ka w 7,ka w 6,ka w 5,ka w 4,ka w 3,ka w 2,ka w 1,ka w 0)
def yR(w:List UInt32)(b:aa)(df:Nat):List UInt32:=XC w (r? (li b df 64) (ad9 w) 64)
def anl{w:List α}(h:w.length=8):∃a b c d e f g i,w=[a,b,c,d,e,f,g,i]:=by
 match w,h with
 |[a,b,c,d,e,f,g,i],_=>exact⟨a,b,c,d,e,f,g,i,rfl⟩
def VZ{b c:aa}{y:Nat}(h:∀i,i<64->kx b (x+i)=kx c (y+i))(w:List UInt32):yR w b x=yR w c y:=by unfold yR;rw[agz h]
def agO(w:List UInt32)(bu:w.length=8)(b:aa)(Y:b.length=64):N0 (w,b,())=some (yR w b 0,0,()):=by
 refine a0 cp ?_;rw[axk b Y];have hm:=agA b 0 64;unfold yR;generalize li b 0 64=m at hm;refine aL rfl ?_;obtain⟨w0,ck,cR,ft,hX,BI,OJ,OK,rfl⟩:=anl bu;generalize hf:(λ(x:Int×List UInt32×Unit)=>(_:Option (aE (Int×List UInt32×Unit) (List UInt32×Int×Unit))))=f;obtain⟨s,ae⟩:∃s,s=ad9 [w0,ck,cR,ft,hX,BI,OJ,OK]:=⟨_,rfl⟩;have step:∀t:Nat,t<64->f ((t:Int),A0 (r? m s t),())=some (.nx (((t+1:Nat):Int),A0 (r? m s (t+1)),())):=by intro t ht;subst hf;have ac:i64 (aC (t:Int) 1)=((t+1:Nat):Int):=fL (by show(t:Int)+1=_;omega) J;rw[show r? m s (t+1)=ad7 (ka p8 t) (ka m t) (r? m s t) from rfl];generalize r? m s t=r;obtain⟨h,g,f,e,d,c,b,a⟩:=r;refine a? cp ?_;dsimp only[A0];rw[ac];refine a6 cp ?_;refine a6 rfl ?_;refine a6 rfl ?_;rw[show an [a,b,c,d,e,f,g,h] (ab 4) (u32 0)=e from rfl,U?];refine aL rfl ?_;rw[avu];refine aL rfl ?_;rw[avy];refine aL rfl ?_;rw[show an [a,b,c,d,e,f,g,h] (ab 0) (u32 0)=a from rfl,e8];refine aL rfl ?_;rw[tg];refine aL rfl ?_;rw[U'];refine a6 rfl ?_;refine a6 rfl ?_;refine a6 rfl ?_;refine a6 cp ?_;rfl
 have e0:∀v,f (((64:Nat):Int),v,())=some (.ex 0 (((64:Nat):Int),v,())):=by subst hf;intro v;exact bU rfl
 have h5:bC f (((0:Nat):Int),A0 (r? m s 0),())=some (.ex 0 (((64:Nat):Int),A0 (r? m s 64),())):=
  (kr (f:=f) (λt=>((t:Int),A0 (r? m s t),())) 64 step 0 (eS _)).trans (dT (e0 _))
 have aq:A0 (r? m s 0)=[w0,ck,cR,ft,hX,BI,OJ,OK]:=by rw[ae];rfl
 rw[aq]at h5;rw[<- ae];generalize r? m s 64=r at h5;obtain⟨h,g,vO,e,d,c,b',a⟩:=r;refine(cO (show bC f (0,[w0,ck,cR,ft,hX,BI,OJ,OK],())=_ from h5)).trans ?_;refine(cO (uJ (r:=.ex 2 (((8:Nat):Int),XC [w0,ck,cR,ft,hX,BI,OJ,OK] (h,g,vO,e,d,c,b',a),())) 9 rfl)).trans ?_;rfl
def j2(w:List UInt32)(l:aa):Nat->List UInt32
 |0=>w
 |i+1=>yR (j2 w l i) l (64*i)
def KZ{w:List UInt32}(bu:w.length=8)(l:aa):∀i,(j2 w l i).length=8
 |0=>bu
 |_+1=>rfl
def afb(l:aa)(k i:Nat):kx (l.drop k) i=kx l (k+i):=by unfold kx;rw[nE,Fq,<- nE]
def avq(l:aa){k:Nat}(h:i<k):kx (l.take k) i=kx l i:=by unfold kx;rw[nE,J8 h,<- nE]
def ahl(w:List UInt32)(l:aa)(k:Nat):yR w ((l.drop k).take 64) 0=yR w l k:=
 VZ (λi ac=>by rw[js,avq _ ac,afb]) w
def Z8{l m:aa}(w:List UInt32):∀{i},(∀j,j<64*i->kx l j=kx m j)->j2 w l i=j2 w m i
 |0,_=>rfl
 |i+1,h=>by rw[j2,j2,Z8 w λj ao=>h j J];exact VZ (λj ao=>h _ J) _
def Z7(w:List UInt32)(l:aa)(i:Nat):∀j,j2 w l (i+j)=j2 (j2 w l i) (l.drop (64*i)) j
 |0=>rfl
 |j+1=>by rw[<- jJ,j2,j2,Z7 w l i j];exact VZ (λk _=>by rw[afb];congr 1;omega) _
abbrev tO:=List UInt32×Int×aa×Unit
def n?(h:tO)(b:aa):tO:=
 (j2 h.1 (h.2.2.1++b) ((h.2.2.1++b).length/64),h.2.1+(b.length:Int),(h.2.2.1++b).drop (64*((h.2.2.1++b).length/64)),())
def amS(r b:aa):ea (ea (bM (r.length+b.length) (u8 0)) 0 (aV (bM (r.length+b.length) (u8 0))) r) r.length (r.length+b.length-r.length) b=r++b:=by
 unfold ea bM aV;rw[qv,Fi,pE,iS (show r.length<=r.length+b.length by omega),
  zd,qA,iS (bX _),List.drop_of_length_le bf,iE]
def axi(H:List UInt32)(cD:H.length=8)(N:Int)(r b:aa)(fV:0<=N)(Y:N+(b.length:Int)<=1125899906842624)(aj:r.length<=64)(hm:b.length<=1000000000):yL ((H,N,r,()),b,())=some (n? (H,N,r,()) b,()):=by
 refine a0 (by simp(disch:=omega) only[go_sem];omega) ?_;have e1:i64 (aC (len r) (len b))=((r.length+b.length:Nat):Int):=fL (by show(r.length:Int)+(b.length:Int)=_;omega) J;have aT:i64 (aC N (len b))=N+(b.length:Int):=hw (by show -9223372036854775808<=N+(b.length:Int);omega) (by show N+(b.length:Int)<=9223372036854775807;omega);rw[e1,aT];refine a6 cp ?_;have b9:len (ea (bM (ab ((r.length+b.length:Nat):Int)) (u8 0)) 0 (aV (bM (ab ((r.length+b.length:Nat):Int)) (u8 0))) r)=((r.length+b.length:Nat):Int):=by
  unfold len ea bM aV ab
  grind
 rw[b9];refine a6 cp ?_;rw[show ab (len r)=r.length from g1,show ab ((r.length+b.length:Nat):Int)=r.length+b.length from g1,show ce (r.length+b.length) r.length=r.length+b.length-r.length from rfl,amS];generalize hf:(λ(x:aa×(List UInt32×Int×aa×Unit)×Unit)=>(_:Option (aE (aa×(List UInt32×Int×aa×Unit)×Unit) ((List UInt32×Int×aa×Unit)×Unit))))=f;generalize hl:r++b=l;have step:∀i,i<l.length/64->f (l.drop (64*i),(j2 H l i,N+(b.length:Int),r,()),())=some (.nx (l.drop (64*(i+1)),(j2 H l (i+1),N+(b.length:Int),r,()),())):=by
  intro i ac;subst hf;have aI:(l.drop (64*i)).length=l.length-64*i:=ep;have b9:len (l.drop (64*i))=((l.length-64*i:Nat):Int):=by unfold len;rw[aI]
  dsimp only;rw[b9];refine a? cp ?_;refine a6 cp ?_;rw[show cut (l.drop (64*i)) (ab 0) (ce (ab 64) (ab 0))=(l.drop (64*i)).take 64 from rfl,agO _ (KZ cD l i) _ (by rw[ib,aI];omega)];refine a6 cp ?_;rw[ahl];have ah:cut (l.drop (64*i)) (ab 64) (ce (ab ((l.length-64*i:Nat):Int)) (ab 64))=l.drop (64*(i+1)):=by unfold cut;rw[show ab 64=64 from rfl,su,iS (by rw[ep];show _<=l.length-64*i-64;omega)];congr 1
  rw[ah];rfl
 have e0:f (l.drop (64*(l.length/64)),(j2 H l (l.length/64),N+(b.length:Int),r,()),())=some (.ex 0 (l.drop (64*(l.length/64)),(j2 H l (l.length/64),N+(b.length:Int),r,()),())):=by
  subst hf;have b9:len (l.drop (64*(l.length/64)))=((l.length-64*(l.length/64):Nat):Int):=by unfold len;rw[ep]
  dsimp only;rw[b9];exact bU cp
 have h5:=(kr (f:=f) (λi=>(l.drop (64*i),(j2 H l i,N+(b.length:Int),r,()),())) (l.length/64) step 0 (eS _)).trans (dT e0);refine(cO (h5)).trans ?_;subst hl;rfl
def J2:=@List.flatMap_append
def h?(r:Nat):Nat:=(119-r)%64
def oL(n:Int)(i:Nat):aa:=(List.range i).map λj=>u8 (fB .i64 (i64 (fr 8 n)) ((56-8*j:Nat):Int))
def AU(n:Int):aa:=[u8 128]++List.replicate (h? (n.toNat%64)) (u8 0)++oL n 8
def eY(x:UInt32):aa:=[u8 (a3 (u32 (fB .u32 (a3 x) (cz (u64 24))))),u8 (a3 (u32 (fB .u32 (a3 x) (cz (u64 16))))),u8 (a3 (u32 (fB .u32 (a3 x) (cz (u64 8))))),u8 (a3 x)]
def uU(w:List UInt32)(i:Nat):aa:=(List.range i).flatMap λj=>eY (ka w j)
def UP(w:List UInt32):∀i,(uU w i).length=4*i
 |0=>rfl
 |i+1=>by unfold uU;rw[Fg,J2,db];have:=UP w i;unfold uU at this;rw[this];simp[eY];omega
def auG(w:List UInt32)(i:Nat):uU w (i+1)=uU w i++eY (ka w i):=by unfold uU;rw[Fg];simp
def as3(n:Int)(i:Nat):oL n (i+1)=oL n i++[u8 (fB .i64 (i64 (fr 8 n)) ((56-8*i:Nat):Int))]:=by unfold oL;rw[Fg,Xx];rfl
def ade(n:Int)(i:Nat):(oL n i).length=i:=by simp[oL]
def Bk(h:tO):aa:=uU (j2 h.1 (h.2.2.1++AU h.2.1) ((h.2.2.1++AU h.2.1).length/64)) 8
def awj(l:aa)(k:Nat):l++List.replicate k (u8 0)++[u8 0]=l++List.replicate (k+1) (u8 0):=by rw[h0,<- List.replicate_succ']
def axj(H:List UInt32)(cD:H.length=8)(N:Int)(r:aa)(fV:0<=N)(azB:N<=1125899906842624)(aj:r.length=N.toNat%64):Bf ((H,N,r,()),())=some (Bk (H,N,r,()),()):=by
 unfold Bf;dsimp only;have bh:bM (ab 0) (u8 0)=[]:=rfl;rw[bh,show cm ([]:aa) r=r from rfl,show cm r [u8 128]=r++[u8 128] from rfl];refine a6 bN ?_;refine a6 jN ?_;refine a6 (by simp(disch:=first|assumption|omega|(dsimp only;omega)|decide) only[go_sem,Int.reduceToNat];simp;omega) ?_;generalize hf:(λ(x:aa×Unit)=>(_:Option (aE (aa×Unit) (aa×Unit))))=f;have azS:r.length<64:=J;have az2:h? (N.toNat%64)<64:=by unfold h?;omega
 have step:∀i:Nat,i<h? (N.toNat%64)->f (r++[u8 128]++List.replicate i (u8 0),())=some (.nx (r++[u8 128]++List.replicate (i+1) (u8 0),())):=by
  intro i ac;subst hf;have hl:(r++[u8 128]++List.replicate i (u8 0)).length=r.length+1+i:=fS;have e3:¬(((r++[u8 128]++List.replicate i (u8 0)).length:Int)%64=56):=by rw[hl];unfold h? at ac;omega
  refine a? jN ?_;refine a6 (by simp(disch:=first|assumption|omega|(dsimp only;omega)|decide) only[go_sem,Int.reduceToNat];simp;omega) ?_;show some (aE.nx (r++[u8 128]++List.replicate i (u8 0)++[u8 0],()))=_;rw[awj]
 have e0:f (r++[u8 128]++List.replicate (h? (N.toNat%64)) (u8 0),())=some (.ex 0 (r++[u8 128]++List.replicate (h? (N.toNat%64)) (u8 0),())):=by
  subst hf;have hl:(r++[u8 128]++List.replicate (h? (N.toNat%64)) (u8 0)).length=r.length+1+h? (N.toNat%64):=fS;have az:(((r++[u8 128]++List.replicate (h? (N.toNat%64)) (u8 0)).length:Int)%64=56):=by rw[hl];unfold h?;omega
  exact bU jN
 have h5:=(kr (f:=f) (λi=>(r++[u8 128]++List.replicate i (u8 0),())) (h? (N.toNat%64)) step 0 (eS _)).trans (dT e0);rw[List.replicate_zero,iE]at h5;refine(cO h5).trans ?_;generalize hL:r++[u8 128]++List.replicate (h? (N.toNat%64)) (u8 0)=L;have apm:L.length=r.length+1+h? (N.toNat%64):=by rw[<- hL];simp;omega
 generalize hf:(λ(V:aa×Int×Unit)=>(_:Option (aE (aa×Int×Unit) (aa×Unit))))=f;have step:∀i:Nat,i<8->f (L++oL N i,56-8*(i:Int),())=some (.nx (L++oL N (i+1),56-8*((i+1:Nat):Int),())):=by
  intro i ac;subst hf;refine a? jN ?_;refine a6 jN ?_;refine a6 (by simp(disch:=first|assumption|omega|(dsimp only;omega)|decide) only[go_sem,Int.reduceToNat];simp[ade];omega) ?_;rw[show cm (L++oL N i) [u8 (fB .i64 (i64 (fr 8 N)) (56-8*(i:Int)))]=L++oL N (i+1) by rw[as3,show((56-8*i:Nat):Int)=56-8*(i:Int) by omega];exact h0 _ _ _,
   show i64 (bg (56-8*(i:Int)) 8)=56-8*((i+1:Nat):Int) by rw[hw (by show -9223372036854775808<=56-8*(i:Int)-8;omega) (by show 56-8*(i:Int)-8<=9223372036854775807;omega)];show 56-8*(i:Int)-8=_;omega]
 have e0:f (L++oL N 8,56-8*((8:Nat):Int),())=some (.ex 2 (L++oL N 8,56-8*((8:Nat):Int),())):=by subst hf;exact bU (show b? 0 (56-8*((8:Nat):Int))=false from rfl)
 have h5:=(kr (f:=f) (λi=>(L++oL N i,56-8*(i:Int),())) 8 step 0 (eS _)).trans (dT e0);have aq:(L++oL N 0,56-8*((0:Nat):Int),())=(L,56,()):=by simp[oL]
 rw[aq]at h5;refine(cO h5).trans ?_;have hT:L++oL N 8=r++AU N:=by rw[<- hL];unfold AU;simp
 rw[hT];have Sx:(r++AU N).length=r.length+1+h? (N.toNat%64)+8:=by rw[<- hT,db,ade,apm]
 have aps:(r++AU N).length%64=0:=by rw[Sx];unfold h?;omega
 generalize sW:r++AU N=b6 at Sx aps;generalize hf:(λ(x:aa×List UInt32×Unit)=>(_:Option (aE (aa×List UInt32×Unit) (aa×Unit))))=f;have step:∀i,i<b6.length/64->f (b6.drop (64*i),j2 H b6 i,())=some (.nx (b6.drop (64*(i+1)),j2 H b6 (i+1),())):=by
  intro i ac;subst hf;have aI:(b6.drop (64*i)).length=b6.length-64*i:=ep;have b9:len (b6.drop (64*i))=((b6.length-64*i:Nat):Int):=by unfold len;rw[aI]
  dsimp only;rw[b9];refine a? jN ?_;refine a6 jN ?_;rw[show cut (b6.drop (64*i)) (ab 0) (ce (ab 64) (ab 0))=(b6.drop (64*i)).take 64 from rfl,agO _ (KZ cD b6 i) _ (by rw[ib,aI];omega)];refine a6 jN ?_;rw[ahl];have ah:cut (b6.drop (64*i)) (ab 64) (ce (ab ((b6.length-64*i:Nat):Int)) (ab 64))=b6.drop (64*(i+1)):=by unfold cut;rw[show ab 64=64 from rfl,g1,su,iS (by rw[ep];show _<=b6.length-64*i-64;omega)];congr 1
  rw[ah];rfl
 have e0:f (b6.drop (64*(b6.length/64)),j2 H b6 (b6.length/64),())=some (.ex 4 (b6.drop (64*(b6.length/64)),j2 H b6 (b6.length/64),())):=by
  subst hf;have b9:len (b6.drop (64*(b6.length/64)))=((b6.length-64*(b6.length/64):Nat):Int):=by unfold len;rw[ep]
  dsimp only;rw[b9];exact bU jN
 have h5:=(kr (f:=f) (λi=>(b6.drop (64*i),j2 H b6 i,())) (b6.length/64) step 0 (eS _)).trans (dT e0);refine(cO (show bC f (b6,H,())=_ from h5)).trans ?_;refine a6 g62 ?_;unfold Bk;rw[sW];have bu:=KZ cD b6 (b6.length/64);generalize j2 H b6 (b6.length/64)=w at bu;generalize hf:(λ(x:aa×Int×Unit)=>(_:Option (aE (aa×Int×Unit) (aa×Unit))))=f;have step:∀i:Nat,i<8->f (uU w i,(i:Int),())=some (.nx (uU w (i+1),((i+1:Nat):Int),())):=by intro i ac;subst hf;have hl:=UP w i;have eH:i64 (aC (i:Int) 1)=((i+1:Nat):Int):=fL (by show(i:Int)+1=_;omega) J;refine a? jN ?_;refine a6 jN ?_;refine a6 (by simp(disch:=first|assumption|omega|(dsimp only;omega)|decide) only[go_sem,Int.reduceToNat];simp;omega) ?_;rw[eH,auG];rfl
 have e0:∀v,f (v,((8:Nat):Int),())=some (.ex 6 (v,((8:Nat):Int),())):=by subst hf;intro v;exact bU rfl
 have h5:=(kr (f:=f) (λi=>(uU w i,(i:Int),())) 8 step 0 (eS _)).trans (dT (e0 _));refine(cO (show bC f ([],0,())=_ from h5)).trans ?_;exact eG g62
def J1:=@Prod.ext
def PG:=@List.drop_append_of_le_length
def DE(h:0<=a/\a<18446744073709551616):cz (u64 a)=a:=by
 show(((BitVec.ofNat 64 ((a%2^64).toNat)).toNat:Nat):Int)=a
 grind
def HW(h:tO):Prop:=h.1.length=8/\0<=h.2.1/\h.2.2.1.length=h.2.1.toNat%64
def AZ{h:tO}(hh:HW h)(b:aa):HW (n? h b):=by
 obtain⟨O,R,ai⟩:=hh;refine⟨KZ O _ _,?_,?_⟩
 .show 0<=h.2.1+(b.length:Int);omega
 show((h.2.2.1++b).drop (64*((h.2.2.1++b).length/64))).length=(h.2.1+(b.length:Int)).toNat%64
 grind
def avn(h:tO)(x y:aa):n? (n? h x) y=n? h (x++y):=by
 obtain⟨H,N,r,⟨⟩⟩:=h;unfold n?;generalize hL:r++x=L;have d8:r++(x++y)=L++y:=by rw[<- h0,hL]
 rw[d8];have a_:64*(L.length/64)<=L.length:=J;have aI:(L++y).drop (64*(L.length/64))=L.drop (64*(L.length/64))++y:=PG a_;have b9:(L.drop (64*(L.length/64))++y).length=L.length-64*(L.length/64)+y.length:=by rw[db,ep]
 have am:(L++y).length/64=L.length/64+(L.drop (64*(L.length/64))++y).length/64:=by rw[b9,db];omega
 have az:j2 H (L++y) (L.length/64)=j2 H L (L.length/64):=by
  refine Z8 H λj ao => ?_;unfold kx
  grind
 refine J1 ?_ (J1 ?_ (J1 ?_ rfl))
 .dsimp only;rw[am,Z7,aI,az]
 .grind
 dsimp only;rw[am,<- aI,su];congr 1;omega
def ax0(h:tO):(Bk h).length=32:=by unfold Bk;rw[UP]
def wk:tO:=([u32 1779033703,u32 3144134277,u32 1013904242,u32 2773480762,u32 1359893119,u32 2600822924,u32 528734635,u32 1541459225],0,[],())
def ye:HW wk:=⟨rfl,Int.le_refl _,rfl⟩
def IP{h:tO}(hh:HW h)(b:aa)(fV:h.2.1<=1000000000)(Y:b.length<=1000000000):yL (h,b,())=some (n? h b,()):=by obtain⟨H,N,r,⟨⟩⟩:=h;obtain⟨O,R,ai⟩:=hh;have azx:r.length=N.toNat%64:=ai;have Gr:N<=1000000000:=fV;exact axi H O N r b R J J Y
def VI{h:tO}(hh:HW h)(fV:h.2.1<=1000000000000):Bf (h,())=some (Bk h,()):=by obtain⟨H,N,r,⟨⟩⟩:=h;obtain⟨O,R,ai⟩:=hh;have Gr:N<=1000000000000:=fV;exact axj H O N r R J ai
theorem agP:IM ()=some (wk,()):=rfl
def Be(b:aa):aa:=Bk (n? wk b)
def NZ(b:aa):(Be b).length=32:=ax0 _
def agQ(b:aa)(Y:b.length<=1000000000):O_ (b,())=some (Be b,()):=by unfold O_;rw[agP];refine aL rfl ?_;rw[IP ye b bN Y];refine aL rfl ?_;have am:(n? wk b).2.1=0+(b.length:Int):=rfl;rw[VI (AZ ye b) J];rfl
def adl{σ ρ:Type}{f:σ->Option (aE σ ρ)}(l:List α)(mk:Nat->σ)(e:Nat)(r:ρ)(p:α->Prop)
  (ae:∀i (h:i<l.length),p l[i]->f (mk i)=some (.nx (mk (i+1)))) (Y:∀i (h:i<l.length),¬p l[i]->f (mk i)=some (.rt r)) (az:f (mk l.length)=some (.ex e (mk l.length))) :
  ((∀x∈l,p x)/\bC f (mk 0)=some (.ex e (mk l.length)))\/((¬∀x∈l,p x)/\bC f (mk 0)=some (.rt r)):=by
 by_cases h:∀x∈l,p x
 .exact .inl ⟨h,(kr mk l.length (λi ac=>ae i ac (h _ (lI ac))) 0 (eS _)).trans (dT az)⟩
 refine .inr ⟨h,?_⟩;have key:∀(n i:Nat),l.length-i=n->i<=l.length->(∃j,∃(ao:j<l.length),i<=j/\¬p l[j])->bC f (mk i)=some (.rt r):=by
  intro n;induction n with
  |zero=>rintro i am ac ⟨j,ao,O,_⟩;omega
  |succ n ih=>
   rintro i am ac ⟨j,ao,O,R⟩;have rL:i<l.length:=J;by_cases hp:p l[i]
   .rw[eE (ae i rL hp)]
    refine ih (i+1) J J ⟨j,ao,?_,R⟩;rcases Nat.lt_or_eq_of_le O with h|rfl
    .exact h
    exact absurd hp R
   exact n8 (Y i rL hp)
 refine key _ 0 rfl (eS _) ?_;refine kZ λam=>h λx hx=>kZ λarv => ?_;obtain⟨j,ao,rfl⟩:=o3 hx;exact am ⟨j,ao,eS _,arv⟩
def m?(key:aa):aa:=let k:=if 64<key.length then Be key else key;k++List.replicate (64-k.length) (u8 0)
def aj6(key:aa):(m? key).length=64:=by
 unfold m?;by_cases h:64<key.length
 .simp only[if_pos h,db,qv,NZ]
 grind
def ZK(k:aa)(h:k.length<=64):ea (bM (ab 64) (u8 0)) 0 (aV (bM (ab 64) (u8 0))) k=k++List.replicate (64-k.length) (u8 0):=by unfold ea bM aV;rw[qv,show ab 64=64 from rfl,Fi,pE,iS h,js,Nat.min_eq_right h,List.drop_replicate]
def atg(key:aa)(h:key.length<=1000000000):Ub (key,())=some (m? key,()):=by
 refine a6 rfl ?_;by_cases ap:64<key.length
 .refine a? cp ?_
  rw[agQ _ h];refine aL rfl ?_;rw[ZK _ (by rw[NZ];omega)];unfold m?;simp only[if_pos ap]
 refine a0 cp ?_;dsimp only;rw[ZK _ J];unfold m?;simp only[if_neg ap]
def kB(c:UInt8)(l:aa):aa:=l.map λx=>u8 (fO .u8 (aN x) (aN c))
def W1(c:UInt8)(l:aa):(kB c l).length=l.length:=by simp[kB]
def anY{L:List α}{z:α}(hL:L.length=n)(ac:i<n):(L.take i++List.replicate (n-i) z).set i (L[i]'J)=L.take (i+1)++List.replicate (n-(i+1)) z:=by
 have O:(L.take i).length=i:=by rw[ib];omega
 rw[List.set_append_right _ _ J,O,PH,show n-i=(n-(i+1))+1 by omega,Fm,o6 J,h0];rfl
def aim{f:Int×aa×Unit->Option (aE (Int×aa×Unit) Unit)}(c:UInt8)(k:aa)(ap:k.length=64)
  (hf:f=λ(x:Int×aa×Unit)=>T (aF x.1 (len k)) (ak (aK x.1 (len k)) (ak (aK x.1 (len x.2.1)) (some (aE.nx (i64 (aC x.1 1),cg x.2.1 (ab x.1) (u8 (fO .u8 (aN (an k (ab x.1) (u8 0))) (aN c))),()))))) (some (aE.ex 0 (x.1,x.2.1,())))) :
  bC f (0,bM (ab 64) (u8 0),())=some (.ex 0 (64,kB c k,())):=by
 have hx:(kB c k).length=64:=by rw[W1,ap]
 have step:∀i:Nat,i<64->f ((i:Int),(kB c k).take i++List.replicate (64-i) (u8 0),())=some (.nx (((i+1:Nat):Int),(kB c k).take (i+1)++List.replicate (64-(i+1)) (u8 0),())):=by
  intro i ac;subst hf;have hl:((kB c k).take i++List.replicate (64-i) (u8 0)).length=64:=by rw[db,ib,qv];omega
  have eH:i64 (aC (i:Int) 1)=((i+1:Nat):Int):=fL (by show(i:Int)+1=_;omega) J;refine a? (by simp only[go_sem,Int.reduceToNat];omega) ?_;refine a6 (by simp only[go_sem,Int.reduceToNat];omega) ?_;refine a6 (by simp only[go_sem,Int.reduceToNat];omega) ?_;dsimp only;rw[eH,show cg ((kB c k).take i++List.replicate (64-i) (u8 0)) (ab (i:Int)) (u8 (fO .u8 (aN (an k (ab (i:Int)) (u8 0))) (aN c)))=(kB c k).take (i+1)++List.replicate (64-(i+1)) (u8 0) from ?_];rw[<- anY hx ac,g1,nth_get (by omega:i<k.length)];unfold cg;congr 1;simp[kB]
 have e0:f (((64:Nat):Int),(kB c k).take 64++List.replicate (64-64) (u8 0),())=some (.ex 0 (((64:Nat):Int),(kB c k).take 64++List.replicate (64-64) (u8 0),())):=by subst hf;exact bU (by simp only[go_sem,Int.reduceToNat];omega)
 have:=(kr (f:=f) (λi=>((i:Int),(kB c k).take i++List.replicate (64-i) (u8 0),())) 64 step 0 (eS _)).trans (dT e0);rw[iS (show(kB c k).length<=64 by omega),PH,List.replicate_zero,iE]at this;exact this
def I'(key b:aa):aa:=Be (kB (u8 92) (m? key)++Be (kB (u8 54) (m? key)++b))
def ax4(key b:aa):(I' key b).length=32:=NZ _
def ae7(x y:aa):Bk (n? (n? wk x) y)=Be (x++y):=by rw[avn];rfl
def Uc(key b:aa)(h:key.length<=1000000)(Y:b.length<=1000000):Dy (key,b,())=some (I' key b,()):=by unfold Dy;dsimp only;rw[atg _ J];refine a6 rfl ?_;have ap:=aj6 key;rw[aim (u8 92) _ ap rfl];refine a6 g62 ?_;dsimp only;rw[agP];refine aL rfl ?_;have fk:=(W1 (u8 92) (m? key)).trans ap;have gO:=(W1 (u8 54) (m? key)).trans ap;rw[IP ye _ bN J];refine a6 rfl ?_;rw[aim (u8 54) _ ap rfl];refine a6 g62 ?_;refine aL rfl ?_;dsimp only;rw[IP ye _ bN J];refine aL rfl ?_;have wy:(n? wk (kB (u8 54) (m? key))).2.1=0+((kB (u8 54) (m? key)).length:Int):=rfl;have qZ:(n? (n? wk (kB (u8 54) (m? key))) b).2.1=0+((kB (u8 54) (m? key)).length:Int)+(b.length:Int):=rfl;have HN:(n? wk (kB (u8 92) (m? key))).2.1=0+((kB (u8 92) (m? key)).length:Int):=rfl;rw[IP (AZ ye _) b J J];refine aL rfl ?_;rw[VI (AZ (AZ ye _) _) J,ae7];refine aL rfl ?_;dsimp only;have Aq:=NZ (kB (u8 54) (m? key)++b);rw[IP (AZ ye _) _ J J];refine aL rfl ?_;have adG:∀y,(n? (n? wk (kB (u8 92) (m? key))) y).2.1=0+((kB (u8 92) (m? key)).length:Int)+(y.length:Int):=λ_=>rfl;rw[VI (AZ (AZ ye _) _) (by grind),ae7];rfl
def Fk:=@List.flatMap_nil
def dO(p:aa):aa:=[u8 (fB .i64 (len p) (cz (u64 8))),u8 (len p)]++p
def Br(l:List aa):aa:=l.flatMap dO
def sf(label:aa)(l:List aa):aa:=[u8 (len label)]++label++Br l
def MT(p:aa):(dO p).length=p.length+2:=by simp[dO]
def ayg{l:List aa}(h:∀p∈l,p.length<=1000):(Br l).length<=1002*l.length:=by
 induction l with
 |nil=>simp[Br]
 |cons p r ih =>have O:=h p bf;have R:=ih λq a_=>h q (by grind);unfold Br at R ⊢;rw[BZ,db,MT,fQ];omega
def ayh{l:List aa}(ac:i<l.length):Br (l.take (i+1))=Br (l.take i)++dO l[i]:=by unfold Br;rw[o6 ac,J2,BZ,Fk,iE]
def ahP{label:aa}{l:List aa}(O:label.length<=255)(R:l.length<=16)(h:∀p∈l,p.length<=1000):(sf label l).length<=20000:=by have:=ayg h;unfold sf;simp only[db,fQ,gu];omega
def KQ(key label:aa)(l:List aa):aa:=I' key (sf label l)
def Rl(key label:aa)(l:List aa):(KQ key label l).length=32:=ax4 _ _
def adn(key label:aa)(l:List aa)(ap:key.length<=1000000)(O:label.length<=255)(R:l.length<=16)(h:∀p∈l,p.length<=1000):Mp (key,label,l,())=some (KQ key label l,0,()):=by
 refine aL (a:=(false,())) (a0 cp (by rw[show aF 16 (len l)=false from cP cp])) ?_;refine a6 (by simp only[go_sem];simp;omega) ?_;generalize hf:(λ(V:Int×aa×Int×Unit)=>(_:Option (aE (Int×aa×Int×Unit) (aa×Int×Unit))))=f;have hT:∀i,(sf label (l.take i)).length<=20000:=λi=>ahP O (by rw[ib];omega) (λp hp=>h p (List.mem_of_mem_take hp));have step:∀i:Nat,i<l.length->f (0,sf label (l.take i),(i:Int),())=some (.nx (0,sf label (l.take (i+1)),((i+1:Nat):Int),())):=by
  intro i ac;subst hf;have eH:i64 (aC (i:Int) 1)=((i+1:Nat):Int):=fL (by show(i:Int)+1=_;omega) J;have hp:=h l[i] (lI ac);have ht:=hT i;have am:an l (ab (i:Int)) (aP UInt8)=l[i]:=by rw[g1,nth_get ac]
  refine a? cp ?_;refine a6 cp ?_;rw[am];refine a0 cp ?_;refine a6 (by simp only[go_sem];simp;omega) ?_;refine a6 (by simp only[go_sem];simp;omega) ?_;rw[eH,show sf label (l.take (i+1))=sf label (l.take i)++dO l[i] by unfold sf;rw[ayh ac,h0,h0,h0]];unfold dO cm;simp
 have e0:∀u,f (0,u,(l.length:Int),())=some (.ex 0 (0,u,(l.length:Int),())):=by subst hf;intro u;exact bU cp
 have h5:=(kr (f:=f) (λi=>(0,sf label (l.take i),(i:Int),())) l.length step 0 (eS _)).trans (dT (e0 _));rw[iS (bX _)]at h5;have aq:sf label (l.take 0)=cm [u8 (len label)] label:=by unfold sf;rw[Fi];exact iE _
 rw[aq]at h5;refine(cO (h5)).trans ?_;refine a6 g62 ?_;dsimp only;have:=ahP O R h;rw[Uc _ _ ap J];rfl
def Dl(key:aa):aa:=(I' key (List.replicate 8 (u8 0))).take 3
def asP(key:aa):(Dl key).length=3:=by unfold Dl;rw[ib];rfl
def ado(key:aa)(ap:key.length<=1000000):HG (key,())=some (Dl key,()):=by unfold HG;rw[show bM (ab 8) (u8 0)=List.replicate 8 (u8 0) from rfl,Uc _ _ ap bf];rfl
def iC(k b:aa):aa:=(I' k b).take 16
def yK(k b:aa):(iC k b).length=16:=by unfold iC;rw[ib];rfl
def U5(k b:aa)(ap:k.length<=1000000)(Y:b.length<=1000000):DZ (k,b,())=some (iC k b,()):=by unfold DZ;rw[Uc _ _ ap Y];rfl
abbrev BR:=aa×aa×Unit
def ae1(p:dw)(k b:aa):Ic (p,k,b,())=some (D ((k,b,())∈p.2.1),()):=by
 unfold Ic;congr 2;refine oY ?_;rw[BX];constructor
 .rintro⟨⟨e1,aT,⟨⟩⟩,az,h⟩
  simp only[cV,seq,cM,beq_iff_eq]at h
  grind
 intro h;exact⟨_,h,by simp[cV,seq]⟩
def h9(p:dw)(k b:aa):dw:=if(k,b,())∈p.2.1 then p else(p.1,p.2.1++[(k,b,())],p.2.2)
def V2(l:List α):sub l 0 (len l)=l:=by unfold sub;rw[show(0:Int).toNat=0 from rfl,rm,show(len l).toNat=l.length from g1,iS J]
def Q3(l:List α):cV (b5 0 (len l) (len l)) (af (len l) (len l))=true:=by rw[cL rfl,g37];simp only[go_sem];omega
def amG(l:List BR):Oa (l,())=some (l,()):=by unfold Oa;rw[V2];exact eG (Q3 l)
def Yc(l:aa)(h:l.length<=1000000):Kq (l,())=some (l,()):=by exact eG cp
def avc(p:dw)(k b:aa)(hl:p.2.1.length<=1050000000000)(ap:k.length<=1000000)(Y:b.length<=1000000):MX (p,k,b,())=some (h9 p k b,iC k b,()):=by
 unfold MX;rw[ae1];unfold h9;by_cases h:(k,b,())∈p.2.1
 .rw[cC h,if_pos h]
  rw[U5 _ _ ap Y];rfl
 rw[cG h,if_neg h];rw[amG];rw[Yc _ ap];rw[Yc _ Y];refine a6 (by simp only[go_sem];simp;omega) ?_;rw[U5 _ _ ap Y];rfl
def ava(p:dw)(k b:aa):(h9 p k b).2.1.length<=p.2.1.length+1:=by
 unfold h9;split
 .omega
 simp
def uY(p:dw)(k b t:aa):dw×Bool×Unit:=
 if iC k b=t then(if(k,b,())∈p.2.1 then(p,true,()) else((p.1,p.2.1,true,()),!p.1,())) else(p,false,())
def avZ(p:dw)(hl:p.2.1.length<=1050000000000):Ii (p,p,())=some (true,()):=by
 unfold Ii;have e1:∀b:Bool,qD b b=true:=λb=>by cases b<;>rfl
 rw[e1,e1,cL rfl];generalize p.2.1=l at hl;generalize hf:(λ(V:Bool×Int×Unit)=>(_:Option (aE (Bool×Int×Unit) (Bool×Unit))))=f;have step:∀i:Nat,i<l.length->f (false,(i:Int),())=some (.nx (false,((i+1:Nat):Int),())):=by intro i ac;subst hf;simp(disch:=omega) only[go_sem,wN]
 have e0:f (false,(l.length:Int),())=some (.ex 0 (false,(l.length:Int),())):=by subst hf;exact bU cp
 have h5:=(kr (f:=f) (λi=>(false,(i:Int),())) l.length step 0 (eS _)).trans (dT e0);refine(cO (h5)).trans ?_;rfl
def Cl(n:Int):aa:=a5 256 mC n.toNat 8
def ajV(n:Int):(Cl n).length=8:=l1 _ _ _ _
def pp(n:Int):aa:=Cl n++(Be ([u8 121,u8 101,u8 116,u8 116]++Cl n)).take 8
def M8(n:Int):(pp n).length=16:=by unfold pp;rw[db,ib];rfl
def aah(n:Int):Prop:=1<=n/\n<=4611686018427387904
def ajX{n:Int}(h:aah n):((1:Int)<=8/\(8:Int)<=8/\0<=n/\n<256^(8:Int).toNat):=by
 obtain⟨O,R⟩:=h
 grind
def VQ(n:Int)(am:n<=9223372036854775807):I3 (n,())=some (if 1<=n/\n<=4611686018427387904 then(pp n,0,()) else([],1,())):=by
 by_cases h:1<=n/\n<=4611686018427387904
 .rw[if_pos h]
  refine aL (a:=(false,())) (a0 cp (by rw[show aF 4611686018427387904 n=false from cP J])) ?_;refine a0 rfl ?_;rw[Ro _ _ am,if_pos (ajX h)];refine aL rfl ?_;rw[show a5 256 mC n.toNat (8:Int).toNat=Cl n from rfl];have:=ajV n;rw[show cm [u8 121,u8 101,u8 116,u8 116] (Cl n)=[u8 121,u8 101,u8 116,u8 116]++Cl n from rfl,agQ _ (by grind)];rfl
 rw[if_neg h];by_cases O:n<1
 .refine aL (a:=(true,())) (b4 cp) ?_
  rfl
 refine aL (a:=(true,())) (a0 cp (by rw[show aF 4611686018427387904 n=true from di J])) ?_;rfl
def mH(b:aa):Int×Bool×Unit:=
 if(jq b 0 8).2.2.1=0/\(1<=(jq b 0 8).1/\(jq b 0 8).1<=4611686018427387904)/\pp (jq b 0 8).1=b then((jq b 0 8).1,true,()) else(0,false,())
def ax6(b:aa):(jq b 0 8).1<=9223372036854775807:=by
 unfold jq;split
 .decide
 split
 .decide
 split
 .decide
 rename_i O R ai;have hl:0+8<=b.length:=J;have:=XV hl J (λh=>ai ⟨rfl,by simpa using h.2⟩) 7 J;have e:(dA b 0 8).take (7+1)=dA b 0 8:=iS (by rw[wZ hl];omega)
 grind
def ag5(b:aa)(Y:b.length<=1000000):I2 (b,())=some (mH b):=by
 unfold I2 mH;rw[Z0 _ _ _ Y];have bV:=ax6 b;generalize jq b 0 8=t at bV;obtain⟨n,a,e,⟨⟩⟩:=t;by_cases az:e=0
 .refine a0 cp ?_
  rw[VQ _ bV];refine aL rfl ?_;by_cases am:1<=n/\n<=4611686018427387904
  .rw[if_pos am]
   rw[Ql];by_cases aj:pp n=b
   .rw[if_pos ⟨az,am,aj⟩,cC aj];rfl
   rw[if_neg (λh=>aj h.2.2),cG aj];rfl
  rw[if_neg am,if_neg (λh=>am h.2.1)];rfl
 refine a? cp ?_
 grind
abbrev m9:=aa×aa×Unit
def j1(s:m9):Int×Int×Bool×Unit:=
 if(mH s.2.1).2.1=true/\((mH s.1).2.1=false\/(mH s.1).1<(mH s.2.1).1) then((mH s.2.1).1,1,true,()) else((mH s.1).1,0,(mH s.1).2.1,())
def ag4(s:m9)(bc:s.1.length<=1000000)(Y:s.2.1.length<=1000000):I1 (s,())=some (j1 s):=by
 unfold I1 j1 VR;rw[ag5 _ bc,ag5 _ Y];generalize mH s.1=a;generalize mH s.2.1=b;obtain⟨n,i,⟨⟩⟩:=a;obtain⟨m,j,⟨⟩⟩:=b;by_cases h:n<m
 .cases i<;>cases j<;>(simp(disch:=omega) only[go_sem];try simp[h])
 cases i<;>cases j<;>(simp(disch:=omega) only[go_sem];try simp[h])
def ZE(a b:aa)(bc:a.length<=1000000)(Y:b.length<=1000000):Ev ([a,b],())=some (a++b,()):=by
 have:=ZG (c:=1) (z:=u8 0) J [a,b] bf (λx hx=>by
  rcases hc.1 hx with rfl|hx
  .exact bc
  rcases hc.1 hx with rfl|hx
  .exact Y
  cases hx)
 simp at this;exact this
def abe{b:aa}(h:(mH b).2.1=true):(1<=(mH b).1/\(mH b).1<=4611686018427387904)/\pp (mH b).1=b:=by
 unfold mH at h ⊢
 grind
def XU{s:m9}(h:(j1 s).2.2.1=true):1<=(j1 s).1/\(j1 s).1<=4611686018427387904:=by
 unfold j1 at h ⊢;split
 .rename_i ah;exact(abe ah.1).1
 rename_i ah;rw[if_neg ah]at h;exact(abe h).1
def ajR(s:m9):(j1 s).2.1=0\/(j1 s).2.1=1:=by
 unfold j1
 grind
def s'(cut:Int):Int:=if 0<=cut/\cut<16 then cut else 16
def yg(n:Int)(cut:Int)(old:aa):aa:=(pp (n+1)).take (s' cut).toNat++old.drop (s' cut).toNat
def mZ(s:m9)(cut:Int):m9×Int×Int×Unit:=
 if(j1 s).2.2.1=false then(s,0,12,())
 else if(j1 s).1=4611686018427387904 then(s,0,10,())
 else
  let cv:m9:=if(j1 s).2.1=0 then(s.1,yg (j1 s).1 cut s.2.1,()) else(yg (j1 s).1 cut s.1,s.2.1,())
  if s' cut<16 then(cv,0,11,()) else(cv,(j1 s).1,0,())
def u7(s:m9):Prop:=s.1.length=16/\s.2.1.length=16
def adp(c:Int):0<=s' c/\s' c<=16:=by unfold s';split<;>omega
def axF(s:m9)(c:Int)(ae:u7 s):Og (s,c,())=some (mZ s c):=by
 obtain⟨A,B,⟨⟩⟩:=s;have dJ:A.length=16:=ae.1;have aB:B.length=16:=ae.2;unfold Og mZ;rw[ag4 (A,B,()) (by show A.length<=1000000;omega) (by show B.length<=1000000;omega)];have O:=XU (s:=(A,B,()));have R:=ajR (A,B,());generalize j1 (A,B,())=t at O R;obtain⟨n,df,is,⟨⟩⟩:=t;cases is
 .rfl
 have O:=O rfl;refine a0 rfl ?_;have e1:i64 (aC n 1)=n+1:=hw (by show -9223372036854775808<=n+1;omega) (by show n+1<=9223372036854775807;omega);rw[e1,VQ _ J];by_cases am:n=4611686018427387904
 .rw[if_pos am,if_neg J];rfl
 rw[if_neg am,if_pos J];refine a0 rfl ?_;have hm:=adp c;have aj:=M8 (n+1);obtain⟨m,iI⟩:∃m,m=s' c:=⟨_,rfl⟩;have ht:(T (b? 0 c) (some (aF c 16,())) (some (false,())):Option (Bool×Unit))=some (D (m<16),()):=by
  rw[iI];unfold s';by_cases aq:0<=c
  .by_cases ai:c<16
   .rw[if_pos ⟨aq,ai⟩];simp(disch:=omega) only[go_sem]
   rw[if_neg (λh=>ai h.2),cG J];simp(disch:=omega) only[go_sem];rw[cG ai]
  rw[ cG J];simp(disch:=omega) only[go_sem]
 rw[ht];refine aL rfl ?_;have G2:(T (aZ (D (m<16))) (some (16,())) (some (c,())):Option (Int×Unit))=some (m,()):=by
  by_cases h:m<16
  .rw[cC h]
   show some (c,())=_;rw[iI]at h ⊢;unfold s' at h ⊢
   grind
  rw[cG h];show some ((16:Int),())=_
  grind
 rw[G2];have hL:∀old:aa,old.length=16->Ev ([cut (pp (n+1)) (ab 0) (ce (ab m) (ab 0)),sub old m (len old)],())=some (yg n c old,()):=by
  intro old aO;have aT:cut (pp (n+1)) (ab 0) (ce (ab m) (ab 0))=(pp (n+1)).take (s' c).toNat:=by rw[iI];rfl
  have dI:sub old m (len old)=old.drop (s' c).toNat:=by unfold sub;rw[iI,iS];rw[ep];show _<=(old.length:Int).toNat-_;omega
  rw[aT,dI,ZE _ _ (by rw[ib];omega) (by rw[ep];omega)];rfl
 rcases R with rfl|rfl
 .refine a? rfl ?_
  refine a6 cp ?_;refine a6 cp ?_;rw[hL B aB];rw[ <- iI];by_cases h:m<16
  .rw[cC h,if_pos h];rfl
  rw[cG h,if_neg h];rfl
 refine a0 rfl ?_;refine a6 cp ?_;refine a6 cp ?_;rw[hL A dJ];rw[ <- iI];by_cases h:m<16
 .rw[cC h,if_pos h];rfl
 rw[cG h,if_neg h];rfl
def DG:m9:=(pp 1,List.replicate 16 (u8 0),())
def awa(s:m9):Nj (s,s,())=some (true,()):=by unfold Nj;simp only[go_sem,wN]
def kq(p:Int):Prop:=2<=p/\p<=6
def nh(p:Int):Prop:=p=3\/p=4\/p=5
instance (p:Int):Decidable (kq p):=by unfold kq;infer_instance
instance (p:Int):Decidable (nh p):=by unfold nh;infer_instance
def Ap(p:Int):Int:=if p=0 then 0 else if p=1 then 1 else if p=2 then 2 else if p=3 then 3 else if p=4 then 4 else if p=5 then 4 else if p=6 then 5 else -1
def aeY(p:Int):AV (p,())=some (Ap p,()):=by
 unfold AV Ap;by_cases aq:p=0
 .subst aq;rfl
 by_cases O:p=1
 .subst O;rfl
 by_cases R:p=2
 .subst R;rfl
 by_cases ai:p=3
 .subst ai;rfl
 by_cases au:p=4
 .subst au;rfl
 by_cases a4:p=5
 .subst a4;rfl
 by_cases cQ:p=6
 .subst cQ;rfl
 rw[if_neg aq,if_neg O,if_neg R,if_neg ai,if_neg au,if_neg a4,if_neg cQ];simp(disch:=omega) only[go_sem]
def asT(p:Int):2<=Ap p↔kq p:=by
 unfold Ap kq
 repeat' split
 all_goals omega
def asU(p:Int):Ap p=3\/Ap p=4↔nh p:=by
 unfold Ap nh
 all_goals omega
def Ia(p:Int):u0 (p,())=some (D (kq p),()):=by unfold u0;rw[aeY];simp only[go_sem,asT]
def H?(p:Int):yv (p,())=some (D (nh p),()):=by unfold yv;simp only[go_sem,aeY,asU]
def zK(c s:Int)(b:aa):Prop:=p9 c/\1<=s/\s<=999999/\1<=b.length/\b.length<=900
instance (c s:Int) (b:aa):Decidable (zK c s b):=by unfold zK;infer_instance
def ajy(c:Int):Kc (c,())=some (D (p9 c),()):=by
 unfold Kc p9;by_cases O:c=1
 .subst O;simp only[go_sem]
 by_cases R:c=2
 .subst R;simp(disch:=omega) only[go_sem]
 by_cases ai:c=101
 .subst ai;simp(disch:=omega) only[go_sem]
 by_cases au:c=201
 .subst au;simp(disch:=omega) only[go_sem]
 simp only[go_sem,O,R,ai,au]
def ajB(c s:Int)(b:aa):Kf (c,s,b,())=some (D (zK c s b),()):=by
 unfold Kf zK;rw[ajy];by_cases ap:p9 c
 .simp only[go_sem,ap];exact pt J
 rw[cG (p:=_/\_) (λh=>ap h.1)];simp only[go_sem,ap]
def kw:gB:=(0,0,0,0,[],())
def oy(c s:Int)(b:aa):gB×Int×Unit:=if zK c s b then((c,s,8,3,b,()),0,()) else(kw,1,())
def ajx(c s:Int)(b:aa):Kb (c,s,b,())=some (oy c s b):=by
 unfold Kb oy;rw[ajB];by_cases h:zK c s b
 .rw[cC h,if_pos h];rfl
 rw[cG h,if_neg h];rfl
def XN(a:gB):Fx (a,())=some (D (a=kw),()):=by
 unfold Fx PZ kw;simp only[go_sem,Ql];refine pt ?_
 grind
def qX(a:gB)(c s:Int):Prop:=¬a=kw/\a.1=c/\a.2.1=s
def Kd(a:gB)(c s:Int):xs (a,c,s,())=some (D (qX a c s),()):=by unfold xs qX;rw[XN];simp only[go_sem]
def A7(a:gB):Prop:=a=kw\/zK a.1 a.2.1 a.2.2.2.2.1/\1<=a.2.2.1/\a.2.2.1<=8/\0<=a.2.2.2.1/\a.2.2.2.1<=3
def awb(a:gB):Nk (a,a,())=some (true,()):=by unfold Nk;simp only[go_sem,wN]
def l5(n:Int):Int:=if n<0\/999999<=n then 1 else n+1
def ajz(n:Int):Ke (n,())=some (l5 n,()):=by
 unfold Ke l5;by_cases h:n<0\/999999<=n
 .rw[if_pos h];simp(disch:=omega) only[go_sem]
 rw[if_neg h];simp(disch:=omega) only[go_sem]
def UZ(u:List Bool)(n:Nat):Option Nat:=((List.range 4).map λi=>(n+i)%4).find? λc=>u.getD c false
def ee(h:ef):ef×Int×Int×Unit:=match UZ h.1 h.2.2.2.1.toNat with|none=>(h,0,11,())|some c=>((h.1,h.2.1,h.2.2.1,(((c+1)%4:Nat):Int),()),(c:Int),0,())
def aaU{w:List α}(h:w.length=4):∃a b c d,w=[a,b,c,d]:=by
 match w,h with
 |[a,b,c,d],_=>exact⟨a,b,c,d,rfl⟩
def arR(h:ef)(aM:h.1.length=4)(am:0<=h.2.2.2.1/\h.2.2.2.1<4):Ts (h,())=some (ee h):=by obtain⟨u,f,l,n,⟨⟩⟩:=h;dsimp only at aM am;obtain⟨a,b,c,d,rfl⟩:=aaU aM;have:n=0\/n=1\/n=2\/n=3:=J;rcases this with rfl|rfl|rfl|rfl<;>cases a<;>cases b<;>cases c<;>cases d<;>(refine(cO (uJ 5 rfl)).trans ?_;kernel_rfl)
def aoo(b:aa)(h:1<=b.length/\b.length<=1024):RW (b,())=some (dO b,0,()):=by refine aL (a:=(false,())) (a0 cp (by rw[show aF 1024 (len b)=false from cP cp])) ?_;refine a6 (by simp only[go_sem];simp;omega) ?_;rfl
abbrev xc:=Int×aa×Unit
def j':xc:=(0,[],())
def oN:e?:=(j',j',j',0,0,())
def asD(g:xc):(g.1=0/\(g.2.1.length:Int)=0)↔g=j':=by obtain⟨n,k,⟨⟩⟩:=g;unfold j';simp
def Vt(g:xc):Iy (g,())=some (D (g=j'),()):=by unfold Iy;simp only[go_sem];exact pt (asD g)
def th(g:xc):Prop:=1<=g.1/\g.1<=2147483647/\g.2.1.length=32
instance (g:xc):Decidable (th g):=by unfold th;infer_instance
def awC(g:xc):NA (g,())=some (D (th g),()):=by unfold NA th;simp only[go_sem];exact pt J
def asE(r:e?):(r.1=j'/\r.2.1=j'/\r.2.2.1=j'/\r.2.2.2.1=0/\r.2.2.2.2.1=0)↔r=oN:=by obtain⟨a,b,c,l,t,⟨⟩⟩:=r;unfold oN;simp
def afH(r:e?):NC ((r,()),())=some (D (r=oN),()):=by
 refine aL rfl ?_;generalize hf:(λ(x:Bool×Int×Unit)=>(_:Option (aE (Bool×Int×Unit) (Bool×Unit))))=f;have key:=adl (f:=f) [r.1,r.2.1,r.2.2.1] (λi=>(false,(i:Int),())) 0 ((false,()):Bool×Unit) (λg=>g=j') (λi h hp => ?_) (λi h hp => ?_) ?_
 .rcases key with⟨h,hl⟩|⟨h,hl⟩
  .refine(cO (hl)).trans ?_
   have O:=h r.1 bf;have R:=h r.2.1 bf;have ai:=h r.2.2.1 bf;simp only[go_sem];exact pt (Iff.trans ⟨λh=>⟨O,R,ai,h.1,h.2⟩,λh=>⟨h.2.2.2.1,h.2.2.2.2⟩⟩ (asE r))
  refine(cO (hl)).trans ?_;rw[cG (λe=>h (by rw[e];intro x hx;simp[oN]at hx;exact hx))];rfl
 .subst hf
  have ai:i<3:=h;have eH:i64 (aC (i:Int) 1)=((i+1:Nat):Int):=fL rfl J;refine a? cp ?_;refine a6 cp ?_;rw[eH,g1,nth_get h,Vt,cC hp];rfl
 .subst hf
  have ai:i<3:=h;refine a? cp ?_;refine a6 cp ?_;rw[g1,nth_get h,Vt,cG hp];rfl
 subst hf;rfl
def rY(r:e?):Int×Int×Unit:=if r=oN then(0,9,()) else if 2147483647<=r.2.2.2.2.1 then(0,10,()) else(r.2.2.2.2.1+1,0,())
def awz(r:e?)(h:r.2.2.2.2.1<=2147483647)(aq:0<=r.2.2.2.2.1):Ny (r,())=some (rY r):=by
 unfold Ny rY;rw[afH];by_cases aj:r=oN
 .rw[cC aj,if_pos aj];rfl
 rw[cG aj,if_neg aj];by_cases ht:2147483647<=r.2.2.2.2.1
 .rw[if_pos ht];simp(disch:=omega) only[go_sem]
 rw[if_neg ht];simp(disch:=omega) only[go_sem]
def mS(r:e?)(no:Int)(key:aa):e?×Int×Unit:=
 if ¬th (no,key,()) then(r,1,()) else if r=oN\/no<=r.1.1\/no<r.2.2.1.1 then(r,9,()) else((r.1,r.2.1,(no,key,()),r.2.2.2.1,max r.2.2.2.2.1 no,()),0,())
def Vs(r:e?)(no:Int)(key:aa):Ec (r,no,key,())=some (mS r no key):=by
 unfold Ec mS;rw[awC];by_cases hg:th (no,key,())
 .rw[if_neg (not_not_intro hg),cC hg]
  rw[afH];by_cases ah:r=oN\/no<=r.1.1\/no<r.2.2.1.1
  .rw[if_pos ah]
   simp(disch:=omega) only[go_sem]
  rw[if_neg ah];simp at ah;obtain⟨c1,c2,hd⟩:=ah;simp(disch:=omega) only[go_sem,c1]
 rw[if_pos hg,cG hg];rfl
def BJ(r:e?):e?:=(r.1,r.2.1,j',r.2.2.2)
theorem aAf(r:e?):Ix (r,())=some (BJ r,()):=rfl
def Bw(r:e?):e?×Int×Unit:=if r.2.2.1=j' then(r,9,()) else((r.2.2.1,r.1,j',16,r.2.2.2.2),0,())
def afG(r:e?):A8 (r,())=some (Bw r):=by
 unfold A8 Bw;rw[Vt];by_cases h:r.2.2.1=j'
 .rw[if_pos h,cC h];rfl
 rw[if_neg h,cG h];rfl
def DF(k:aa):e?×Int×Unit:=if k.length=32 then(((1,k,()),j',j',0,1,()),0,()) else(oN,1,())
def awy(k:aa):Nx (k,())=some (DF k):=by
 unfold Nx DF;by_cases h:k.length=32
 .rw[if_pos h];simp(disch:=omega) only[go_sem];rfl
 rw[if_neg h];simp(disch:=omega) only[go_sem];rfl
def ms(r:e?):Prop:=r=oN\/(th r.1/\r.2.2.2.2.1<=2147483647/\r.1.1<=r.2.2.2.2.1/\r.2.2.1.1<=r.2.2.2.2.1 /\
 (r.2.1=j'/\r.2.2.2.1=0\/¬r.2.1=j'/\th r.2.1/\r.2.1.1<r.1.1/\1<=r.2.2.2.1/\r.2.2.2.1<=16)/\(r.2.2.1=j'\/th r.2.2.1/\r.1.1<r.2.2.1.1))
def Vk(r:e?):Io (r,r,())=some (true,()):=by unfold Io Ip;simp only[go_sem,wN]
def qH(r:e?)(no:Int):aa×Bool×Unit:=
 if no<1 then([],false,()) else if r.1.1=no then(r.1.2.1,true,()) else if r.2.1.1=no then(r.2.1.2.1,true,()) else if r.2.2.1.1=no then(r.2.2.1.2.1,true,()) else([],false,())
def dP(n:Int):Prop:=0<=n/\n<=4611686018427387904
instance (n:Int):Decidable (dP n):=by unfold dP;infer_instance
def eM(v:dr):Int:=an v.2.2.1 0 0
def e1(v:dr):Int:=an v.2.2.1 1 0
def lZ(v:dr):Prop:=(v.1=1\/v.1=2)/\dP (eM v)/\dP (e1 v)/\dP v.2.2.2.2.1/\(v.2.1=0\/v.2.1=1)/\(0<=v.2.2.2.1/\v.2.2.2.1<=2147483647)/\1<=v.2.2.2.2.2.1.length/\v.2.2.2.2.2.1.length<=900
def RB(n ac:Int):CH (n,ac,())=some (D (0<=n/\n<=ac),()):=by unfold CH;simp only[go_sem]
def aag(v:dr):F3 (v,())=some (D (lZ v),()):=by
 obtain⟨k,d,e,g,s,b,t,⟨⟩⟩:=v;unfold F3 lZ eM e1;by_cases ap:k=1\/k=2
 .refine aL (a:=(false,())) (by rcases ap with rfl|rfl<;>rfl) ?_
  rw[show ab 0=0 from rfl,show ab 1=1 from rfl];generalize an e 0 0=x;generalize an e 1 0=y;generalize hf:(λ(V:Bool×Int×Unit)=>(_:Option (aE (Bool×Int×Unit) (Bool×Unit))))=f;have key:=adl (f:=f) [x,y,s] (λi=>(false,(i:Int),())) 0 ((false,()):Bool×Unit) dP (λi h hp => ?_) (λi h hp => ?_) ?_
  .rcases key with⟨h,hl⟩|⟨h,hl⟩
   .refine(cO (hl)).trans ?_
    have O:=h x bf;have R:=h y bf;have ai:=h s bf;simp only[go_sem,RB];refine pt ?_
    grind
   refine(cO (hl)).trans ?_;rw[cG (λah=>h λz bh => ?_)]
   .rfl
   grind
  .subst hf
   have ai:i<3:=h;have eH:i64 (aC (i:Int) 1)=((i+1:Nat):Int):=fL rfl J;refine a? cp ?_;refine a6 cp ?_;rw[eH,g1,nth_get h,RB,cC (show 0<=[x,y,s][i]/\[x,y,s][i]<=4611686018427387904 from hp)];rfl
  .subst hf
   have ai:i<3:=h;refine a? cp ?_;refine a6 cp ?_;rw[g1,nth_get h,RB,cG (show ¬(0<=[x,y,s][i]/\[x,y,s][i]<=4611686018427387904) from hp)];rfl
  subst hf;rfl
 rw[cG (λh=>ap h.1)];simp at ap;obtain⟨O,R⟩:=ap;refine aL (a:=(true,())) (by simp only[go_sem,O,R]) ?_;rfl
def gh(w:Nat)(n:Int):aa:=a5 256 mC n.toNat w
def nQ(w:Nat)(n:Int):(gh w n).length=w:=l1 _ _ _ _
def cn(v:dr):aa:=gh 1 v.1++gh 1 v.2.1++gh 8 (eM v)++gh 8 (e1 v)++gh 4 v.2.2.2.1++gh 8 v.2.2.2.2.1++v.2.2.2.2.2.1
def wj(v:dr):(cn v).length=30+v.2.2.2.2.2.1.length:=by unfold cn;simp only[db,nQ]
def ajW{n:Int}(O:1<=w)(cy:w<=8)(aq:0<=n)(h:n<256^w)(am:n<=9223372036854775807):pT (n,(w:Int),())=some (gh w n,0,()):=by rw[Ro _ _ am,if_pos ⟨J,J,aq,by rw[iq];exact h⟩];rfl
def Mj{f:Int×aa×Unit->Option (aE (Int×aa×Unit) Unit)}(w:Nat)(l:List Int)(c?:aa)(O:1<=w)(cy:w<=8)(hl:l.length<=10)(bc:c?.length<=1000)(h:∀n∈l,0<=n/\n<256^w/\n<=9223372036854775807)
  (hf:f=λ(V:Int×aa×Unit)=>T (aF V.1 (len l)) (ak (aK V.1 (len l)) (ob (pT (an l (ab V.1) 0,(w:Int),())) λ(a:aa×Int×Unit)=>ak (cj 1 (bF (aV V.2.1) (aV a.1))) (some (aE.nx (i64 (aC V.1 1),cm V.2.1 a.1,()))))) (some (aE.ex 0 (V.1,V.2.1,())))) :
  bC f (0,c?,())=some (.ex 0 ((l.length:Int),c? ++ l.flatMap (gh w),())):=by
 have hL:∀i,((l.take i).flatMap (gh w)).length<=8*i:=by intro i;rw[List.length_flatMap];have:((l.take i).map λa=>(gh w a).length)=(l.take i).map λ_=>w:=List.map_congr_left λa _=>nQ w a;rw[this,List.map_const',List.sum_replicate_nat,ib];have:min i l.length*w<=i*8:=Xu (Nat.min_le_left _ _) cy;omega
 have step:∀i:Nat,i<l.length->f ((i:Int),c? ++ (l.take i).flatMap (gh w),())=some (.nx (((i+1:Nat):Int),c? ++ (l.take (i+1)).flatMap (gh w),())):=by intro i ac;subst hf;have eH:i64 (aC (i:Int) 1)=((i+1:Nat):Int):=fL (by show(i:Int)+1=_;omega) J;obtain⟨bG,ca,cr⟩:=h l[i] (lI ac);have xZ:=hL i;refine a? cp ?_;refine a6 cp ?_;rw[eH,g1,nth_get ac,ajW O cy bG ca cr];refine a6 (by simp only[go_sem];simp only[db,nQ];omega) ?_;rw[o6 ac,J2,BZ,Fk,iE];unfold cm;simp
 have e0:∀u,f ((l.length:Int),u,())=some (.ex 0 ((l.length:Int),u,())):=by subst hf;intro u;exact bU cp
 have:=(kr (f:=f) (λi=>((i:Int),c? ++ (l.take i).flatMap (gh w),())) l.length step 0 (eS _)).trans (dT (e0 _));rw[iS (bX _),Fi,Fk,iE]at this;exact this
def RA(v:dr)(aD:lZ v):xM (v,())=some (cn v,0,()):=by
 unfold xM;rw[aag,cC aD];obtain⟨k,d,e,g,s,b,t,⟨⟩⟩:=v;unfold cn;obtain⟨O,R,ai,au,a4,cQ,eh,cy⟩:=aD;unfold eM dP at R;unfold e1 dP at ai;unfold dP at au;unfold eM e1;dsimp only at *
 rw[show ab 0=0 from rfl,show ab 1=1 from rfl];generalize an e 0 0=x at R;generalize an e 1 0=y at ai;refine(cO (Mj 1 [k,d] [] J J bf bf (λn am => ?_) rfl)).trans ?_
 .grind
 refine(cO (Mj 8 [x,y] _ J J bf (by simp[nQ]) (λn am => ?_) rfl)).trans ?_
 .grind
 refine(cO (Mj 4 [g] _ J J bf (by simp[nQ]) (λn am => ?_) rfl)).trans ?_
 .grind
 refine(cO (Mj 8 [s] _ J J bf (by simp[nQ]) (λn am => ?_) rfl)).trans ?_
 .grind
 refine a6 g62 ?_;refine a6 (by simp only[go_sem];simp[nQ];omega) ?_;rfl
def oQ(v:dr):Prop:=lZ v/\v.2.2.2.2.2.2.1.length=16
def iO(v:dr)(t:aa):dr:=(v.1,v.2.1,v.2.2.1,v.2.2.2.1,v.2.2.2.2.1,v.2.2.2.2.2.1,t,())
def aaf(v:dr):CG (v,())=some (D (oQ v),()):=by unfold CG oQ;rw[aag];simp only[go_sem];exact pt (and_congr_right λ_=>J)
def anB(v:dr)(aD:oQ v):K7 (v,())=some (cn v++v.2.2.2.2.2.2.1,0,()):=by unfold K7;rw[aaf,cC aD];rw[RA _ aD.1];have O:=wj v;have R:=aD.2;have ai:=aD.1.2.2.2.2.2.2.2;refine a6 cp ?_;rfl
abbrev gS:=Int×List UInt64×Unit
abbrev pI:=Int×aa×Unit
abbrev jr:=Int×List Int×Int×aa×Unit
abbrev o0:=aa×Int×Int×Unit
def ec:o0:=([],0,0,())
def K?(f:o0):Int:=256*aN (an f.1 0 (u8 0))+aN (an f.1 1 (u8 0))
def qe(f:o0):Prop:=¬(f.2.1<0\/65535<f.2.1\/0<f.2.1/\0<f.1.length)/\(f.1.length<2\/1<=K? f/\K? f<=1024/\(f.1.length:Int)<K? f+2)
def yJ:qe ec:=⟨bN,.inl bN⟩
structure c_ where
 id:Int
 key:aa
 ph:Int
 store:m9
 power:Int
 own:Int
 oth:Int
 seen:Int
 seq:Int
 win:gS
 ring:e?
 ask:gB
 stan:Int
 day:Int
 queue:List aa
 hub:ef
 bz:List pI
 got:List jr
 cS:List Int
def c_.t(e:c_):pJ:=(e.id,e.key,e.ph,e.store,e.power,e.own,e.oth,e.seen,e.seq,e.win,e.ring,e.ask,e.stan,e.day,e.queue,e.hub,e.bz,e.got,e.cS,())
structure aH where
 e:c_
 p:dw
def aH.t(s:aH):fa:=(s.e.t,s.p,())
def tb:gS:=(0,BP,())
structure r3(n:Nat)(e:c_):Prop where
 id:e.id=0\/e.id=1
 key:e.key.length<=1000
 ph:0<=e.ph/\e.ph<=8
 store:u7 e.store
 own:dP e.own
 oth:dP e.oth
 seq:dP e.seq
 ring:ms e.ring
 up:e.hub.1.length=4
 next:0<=e.hub.2.2.2.1/\e.hub.2.2.2.1<4
 bz:e.bz.length<=n
 got:e.got.length<=n
 cS:e.cS.length=4
 win:e.win.2.1.length=16
 feed:e.hub.2.1.length=4
 life:e.hub.2.2.1.length=4
 queue:e.queue.length<=8
 top:0<=e.win.1/\e.win.1<=4611686018427387905
 fd:∀c,qe (an e.hub.2.1 c ec)
 askr:A7 e.ask
 outs:∀x∈e.bz,(0<=x.1/\x.1<4)/\x.2.1.length<=948
structure bw(n:Nat)(s:aH):Prop where
 e:r3 n s.e
 p:s.p.2.1.length<=n
def fX(e:c_):List Int:=if e.id=0 then[e.own,e.oth]else if e.id=1 then[e.oth,e.own]else[0,0]
def TV(ac n:Int):Au (ac,[n],())=some (D (0<=n/\n<=ac),()):=by
 by_cases h:0<=n/\n<=ac
 .rw[cC h]
  refine(cO (eE (y:=(false,1,())) ?_)).trans ((cO (dT (y:=(false,1,())) (k:=0) rfl)).trans rfl);refine a? rfl (a6 rfl ?_);rw[show an [n] (ab 0) 0=n from rfl];simp(disch:=omega) only[go_sem];rfl
 rw[cG h];refine(cO (n8 (r:=(false,())) ?_)).trans rfl;rw[show an [n] (ab 0) 0=n from rfl];refine aL (a:=(true,())) (by simp only[go_sem];try exact Ew J) ?_;rfl
def asZ(ac n m:Int):Au (ac,[n,m],())=some (D ((0<=n/\n<=ac)/\(0<=m/\m<=ac)),()):=by
 by_cases h:0<=n/\n<=ac
 .refine(cO (eE (y:=(false,1,())) ?_)).trans ?_
  .refine a? rfl (a6 rfl ?_)
   rw[show an [n,m] (ab 0) 0=n from rfl];simp(disch:=omega) only[go_sem];rfl
  by_cases bB:0<=m/\m<=ac
  .rw[cC ⟨h,bB⟩]
   refine(cO (eE (y:=(false,2,())) ?_)).trans ((cO (dT (y:=(false,2,())) (k:=0) rfl)).trans rfl);refine a? rfl (a6 rfl ?_);rw[show an [n,m] (ab 1) 0=m from rfl];simp(disch:=omega) only[go_sem];rfl
  rw[cG (λx=>bB x.2)];refine(cO (n8 (r:=(false,())) ?_)).trans rfl;rw[show an [n,m] (ab 1) 0=m from rfl];refine aL (a:=(true,())) (by simp only[go_sem];try exact Ew J) ?_;rfl
 rw[cG (λx=>h x.1)];refine(cO (n8 (r:=(false,())) ?_)).trans rfl;rw[show an [n,m] (ab 0) 0=n from rfl];refine aL (a:=(true,())) (by simp only[go_sem];try exact Ew J) ?_;rfl
def yh(e:c_):n4 (e.t,())=some (fX e,()):=by
 unfold n4 fX;dsimp only[c_.t];rw[TV];by_cases aq:e.id=0
 .rw[aq,cC J];rfl
 rw[if_neg aq];by_cases O:e.id=1
 .rw[O,cC J];rfl
 rw[if_neg O,cG J];rfl
def afu(e:c_):A3 (e.t,())=some (fX e,()):=by
 unfold A3 fX;dsimp only[c_.t];by_cases aq:e.id=0
 .rw[aq];rfl
 rw[if_neg aq];by_cases O:e.id=1
 .rw[O];rfl
 rw[if_neg O];simp(disch:=omega) only[go_sem]
def hs(key:aa):aa:=KQ key [98,97,115,101] []
def XS(key:aa):(hs key).length=32:=Rl _ _ _
def ac5(key:aa)(h:key.length<=1000000):Ar (key,())=some (hs key,()):=by unfold Ar;rw[adn _ _ _ h bN bN bN];rfl
def wm(key:aa)(p:List Int)(lr:Int)(g9:aa):aa:=
 if dP (an p 0 0)/\dP (an p 1 0)/\0<=lr/\lr<=2147483647 then KQ key [108,105,110,107] [gh 8 (an p 0 0),gh 8 (an p 1 0),gh 4 lr,g9]else[]
def P7{n:Int}{w:Int}(bu:w=8\/w=4)(h:0<=n/\n<256^w.toNat)(am:n<=9223372036854775807):pT (n,w,())=some (gh w.toNat n,0,()):=by rw[Ro _ _ am,if_pos ⟨J,J,h.1,h.2⟩];rfl
def asR{a b:aa}{c g9:aa}(bc:a.length=8)(Y:b.length=8)(ah:c.length=4)(am:g9.length<=1000):∀p∈[a,b,c,g9],p.length<=1000:=by grind
def DU{n:Int}(h:dP n):0<=n/\n<256^(8:Int).toNat:=⟨h.1,by have:=h.2;show n<256^8;omega⟩
def ac6(key:aa)(p:List Int)(lr:Int)(g9:aa)(ap:key.length<=1000000)(am:g9.length<=1000):As (key,p,lr,g9,())=some (wm key p lr g9,()):=by
 unfold As wm;refine a6 rfl (a6 rfl ?_);rw[show ab 0=0 from rfl,show ab 1=1 from rfl];generalize an p 0 0=x;generalize an p 1 0=y;rw[asZ];by_cases h:dP x/\dP y
 .rw[cC (show(0<=x/\x<=4611686018427387904)/\(0<=y/\y<=4611686018427387904) from h)]
  refine aL rfl (a0 rfl ?_);rw[TV];by_cases hg:0<=lr/\lr<=2147483647
  .rw[cC hg,if_pos ⟨h.1,h.2,hg⟩]
   refine aL rfl (a0 rfl (a6 rfl ?_));rw[P7 (.inl rfl) (DU h.1) (by have:=h.1.2;omega)];refine aL rfl (a6 rfl ?_);rw[P7 (.inl rfl) (DU h.2) (by have:=h.2.2;omega)];refine aL rfl ?_;rw[P7 (.inr rfl) ⟨hg.1,by show lr<256^4;omega⟩ J];refine aL rfl ?_;rw[show(8:Int).toNat=8 from rfl,show(4:Int).toNat=4 from rfl,adn key [108,105,110,107] _ ap bf bf (asR (nQ _ _) (nQ _ _) (nQ _ _) am)];rfl
  rw[cG hg,if_neg (λh=>hg h.2.2)];rfl
 rw[cG (show ¬((0<=x/\x<=4611686018427387904)/\(0<=y/\y<=4611686018427387904)) from h),if_neg (λbB=>h ⟨bB.1,bB.2.1⟩)];rfl
def az3{key:aa}{p:List Int}{lr:Int}{g9:aa}(h:dP (an p 0 0)/\dP (an p 1 0)/\0<=lr/\lr<=2147483647):(wm key p lr g9).length=32:=by unfold wm;rw[if_pos h,Rl]
def HA(e:c_)(p:Int):c_:={ e with ph:=p,own:=0,oth:=0,seq:=0,win:=tb,ring:=oN,ask:=kw,queue:=[],got:=if kq e.ph then e.got++[(5,fX e,0,[],())]else e.got }
def KK(l:List jr):yM (l,())=some (l,()):=by unfold yM;rw[V2];exact eG (Q3 l)
def amH(l:List pI):Ob (l,())=some (l,()):=by unfold Ob;rw[V2];exact eG (Q3 l)
def ac7(e:c_)(p:Int)(hg:e.got.length<=1050000000000):At (e.t,p,())=some ((HA e p).t,()):=by
 unfold At HA;dsimp only[c_.t];rw[Ia];by_cases h:kq e.ph
 .rw[cC h,if_pos h]
  rw[KK];rw[show n4 ((e.id,e.key,e.ph,e.store,e.power,e.own,e.oth,e.seen,e.seq,e.win,e.ring,e.ask,e.stan,e.day,e.queue,e.hub,e.bz,e.got,e.cS,()),())=_ from yh e];refine a6 (by simp only[go_sem];simp;omega) ?_;rfl
 rw[cG h,if_neg h];rfl
def i_{b:Int}(h:a=b):aZ (af a b)=false:=by rw[cL h];rfl
def lO{b:Int}(h:¬a=b):aZ (af a b)=true:=by rw[cx h];rfl
def afF{r:e?}(h:ms r):0<=r.1.1/\r.1.1<=2147483647/\r.1.2.1.length<=32:=by
 rcases h with rfl|⟨⟨O,R,ai⟩,_⟩
 .exact⟨bN,bN,bN⟩
 omega
def nf(s:aH)(v:dr)(key:aa):aH×Int:=
 if(ee s.e.hub).2.2.1=0 then
  (⟨{ s.e with hub:=(ee s.e.hub).1,bz:=s.e.bz++[((ee s.e.hub).2.1,dO (cn v++iC key (cn v)),())] },h9 s.p key (cn v)⟩,0)
 else(s,(ee s.e.hub).2.2.1)
def ac8{s:aH}(ae:bw n s)(am:n<=1000000000000)(v:dr)(aD:lZ v)(key:aa)(ap:key.length<=1000000):Hv (s.t,v,key,())=some ((nf s v key).1.t,(nf s v key).2,()):=by
 unfold Hv nf;dsimp only[aH.t,c_.t];have hp:=ae.p;have aO:=ae.e.bz;rw[arR _ ae.e.up ae.e.next];by_cases hh:(ee s.e.hub).2.2.1=0
 .rw[if_pos hh]
  refine a0 (by simp only[go_sem];exact not_not_intro hh) ?_;rw[RA _ aD];refine aL rfl ?_;have Y:=aD.2.2.2.2.2.2;have hl:=wj v;dsimp only;rw[avc _ _ _ J ap J];refine aL rfl ?_;have ht:=yK key (cn v);rw[anB (v.1,v.2.1,v.2.2.1,v.2.2.2.1,v.2.2.2.2.1,v.2.2.2.2.2.1,iC key (cn v),v.2.2.2.2.2.2.2) ⟨aD,ht⟩];refine aL rfl ?_;rw[show cn (v.1,v.2.1,v.2.2.1,v.2.2.2.1,v.2.2.2.2.1,v.2.2.2.2.2.1,iC key (cn v),v.2.2.2.2.2.2.2)=cn v from rfl,aoo _ (by grind)];rw[amH];refine a6 (by simp only[go_sem];simp;omega) ?_;rfl
 rw[if_neg hh];refine a? (by simp only[go_sem];exact hh) ?_;rfl
def gq(e:c_)(body:aa):dr:=(2,e.id,fX e,e.ring.1.1,e.seq,body,[],())
def hC(e:c_)(other:Int)(body:aa):dr:=(1,e.id,fX { e with oth:=other },0,0,body,[],())
def lq(b:aa):Prop:=1<=b.length/\b.length<=900
instance (b:aa):Decidable (lq b):=by unfold lq;infer_instance
def UV{e:c_}(O:dP e.own)(R:dP e.oth):dP (an (fX e) 0 0)/\dP (an (fX e) 1 0):=by
 unfold fX;split
 .exact⟨O,R⟩
 split
 .exact⟨R,O⟩
 exact⟨bN,bN⟩
def axe{e:c_}(h:r3 n e){body:aa}(Y:lq body):lZ (gq e body):=by have aj:=afF h.ring;exact⟨.inr rfl,(UV h.own h.oth).1,(UV h.own h.oth).2,h.seq,h.id,⟨aj.1,aj.2.1⟩,Y.1,Y.2⟩
def axh{e:c_}(h:r3 n e){o:Int}(aO:dP o){body:aa}(Y:lq body):lZ (hC e o body):=by have:=UV (e:={ e with oth:=o }) h.own aO;exact⟨.inl rfl,this.1,this.2,by show dP 0;decide,h.id,⟨by show(0:Int)<=0;decide,by show(0:Int)<=2147483647;decide⟩,Y.1,Y.2⟩
def gp(s:aH)(body:aa):aH×Int:=
 if ¬lq body then(s,1) else if ¬kq s.e.ph then(s,7) else if s.e.seq=4611686018427387904 then(s,10)
 else let r:=nf s (gq s.e body) s.e.ring.1.2.1;if r.2=0 then(⟨{ r.1.e with seq:=r.1.e.seq+1 },r.1.p⟩,0) else r
def Z?(s:aH)(v:dr)(key:aa):(nf s v key).1.e.seq=s.e.seq:=by unfold nf;split<;>rfl
def TU(b:aa):Hw (b,())=some (D (lq b),()):=by unfold Hw lq;simp only[go_sem];exact pt J
def axb{s:aH}{r:aH×Int}(act:dP r.1.e.seq)(pX:¬r.1.e.seq=4611686018427387904):
 (ob (some (r.1.t,r.2,())) λ(a:fa×Int×Unit)=>
 T (af a.2.1 0) (some (((a.1.1.1,a.1.1.2.1,a.1.1.2.2.1,a.1.1.2.2.2.1,a.1.1.2.2.2.2.1,a.1.1.2.2.2.2.2.1,a.1.1.2.2.2.2.2.2.1,a.1.1.2.2.2.2.2.2.2.1,i64 (aC a.1.1.2.2.2.2.2.2.2.2.1 1),a.1.1.2.2.2.2.2.2.2.2.2),a.1.2),a.2.1,())) (some (a.1,a.2.1,()))) =
  some ((if r.2=0 then(⟨{ r.1.e with seq:=r.1.e.seq+1 },r.1.p⟩,0) else r:aH×Int).1.t,(if r.2=0 then(⟨{ r.1.e with seq:=r.1.e.seq+1 },r.1.p⟩,0) else r:aH×Int).2,()):=by
 obtain⟨⟨e,p⟩,c⟩:=r;by_cases h:c=0
 .subst h
  rw[if_pos rfl];refine a? rfl ?_;dsimp only[aH.t,c_.t]at act ⊢;obtain⟨bG,ca⟩:=act;rw[show i64 (aC e.seq 1)=e.seq+1 from hw (by show -9223372036854775808<=e.seq+1;omega) (by show e.seq+1<=9223372036854775807;omega)]
 rw[if_neg h];refine a0 (by simp only[go_sem];exact h) ?_;rfl
def yi{s:aH}(ae:bw n s)(am:n<=1000000000000)(b:aa):n5 (s.t,b,())=some ((gp s b).1.t,(gp s b).2,()):=by
 unfold n5 gp;rw[TU];by_cases Y:lq b
 .rw[cC Y,if_neg (not_not_intro Y)]
  refine a0 rfl ?_;rw[show s.t.1.2.2.1=s.e.ph from rfl,Ia];by_cases hl:kq s.e.ph
  .rw[cC hl,if_neg (not_not_intro hl)]
   refine a0 rfl ?_;by_cases a_:s.e.seq=4611686018427387904
   .rw[if_pos a_]
    exact b4 (by simp only[go_sem];exact a_)
   rw[if_neg a_];refine a0 (by simp only[go_sem];exact a_) ?_;rw[show n4 (s.t.1,())=_ from yh s.e];refine aL rfl ?_;have aD:=axe ae.e Y;have ap:=(afF ae.e.ring).2.2;have SJ:=ac8 ae am _ aD s.e.ring.1.2.1 J;have O:=Z? s (gq s.e b) s.e.ring.1.2.1;exact tQ (cE SJ) (axb (s:=s) (r:=nf s (gq s.e b) s.e.ring.1.2.1) (by rw[O];exact ae.e.seq) J)
  rw[cG hl,if_pos hl];rfl
 rw[cG Y,if_pos Y];rfl
def ps(s:aH)(other:Int)(body:aa):aH×Int:=if dP other/\lq body then nf s (hC s.e other body) (hs s.e.key) else(s,1)
def TT{s:aH}(ae:bw n s)(am:n<=1000000000000)(o:Int)(b:aa):Dr (s.t,o,b,())=some ((ps s o b).1.t,(ps s o b).2,()):=by
 unfold Dr ps;rw[TV];refine aL rfl ?_;by_cases Y:dP o/\lq b
 .rw[if_pos Y,cC (show 0<=o/\o<=4611686018427387904 from Y.1)]
  refine aL (a:=(false,())) (a0 rfl (by rw[TU,cC Y.2];rfl)) ?_;have hp:=yh { s.e with oth:=o };refine(cE (hp)).trans ?_;have ap:=ae.e.key;rw[show Ar (s.t.1.2.1,())=_ from ac5 s.e.key J];have SJ:=ac8 ae am _ (axh ae.e Y.1 Y.2) (hs s.e.key) (by rw[XS];omega);exact(cE SJ).trans rfl
 rw[if_neg Y];by_cases O:dP o
 .rw[cC (show 0<=o/\o<=4611686018427387904 from O)]
  rw[TU,cG (λh=>Y ⟨O,h⟩)];rfl
 rw[cG (show ¬(0<=o/\o<=4611686018427387904) from O)];rfl
def rz(c:List Int)(i:Nat):List Int:=cg c i (i64 (aC (an c i 0) 1))
def gV(s:aH)(i:Nat):aH:=⟨{ s.e with cS:=rz s.e.cS i },s.p⟩
def TS(s:aH):kS (s.t,13,())=some ((gV s 3).t,()):=by exact(cO (uJ 5 rfl)).trans rfl
def J5:=@Nat.le_succ_of_le
def DP{e:c_}(h:r3 n e)(hm:n<=m):r3 m e:={ h with bz:=fv h.bz hm,got:=fv h.got hm }
def dq{s:aH}(h:bw n s)(hm:n<=m):bw m s:=⟨DP h.e hm,fv h.p hm⟩
def auX(h:ef):(ee h).1.1=h.1:=by unfold ee;split<;>rfl
def U0(h:ef):(ee h).1.2.1=h.2.1:=by unfold ee;split<;>rfl
def auV(h:ef):(ee h).1.2.2.1=h.2.2.1:=by unfold ee;split<;>rfl
def auW{h:ef}(am:0<=h.2.2.2.1/\h.2.2.2.1<4):0<=(ee h).1.2.2.2.1/\(ee h).1.2.2.2.1<4:=by
 unfold ee
 grind
def auZ(h:ef)(aq:(ee h).2.2.1=0):0<=(ee h).2.1/\(ee h).2.1<4:=by
 unfold ee at aq ⊢;split
 .simp
 rename_i c e;have:=List.mem_of_find?_eq_some e
 grind
def aej{s:aH}(h:bw n s)(v:dr)(aD:v.2.2.2.2.2.1.length<=900)(key:aa):bw (n+1) (nf s v key).1:=by
 unfold nf;split
 .refine⟨{ h.e with up:=(by rw[<- h.e.up];exact congrArg List.length (auX s.e.hub)),next:=auW h.e.next,feed:=(by rw[<- h.e.feed];exact congrArg List.length (U0 s.e.hub)),life:=(by rw[<- h.e.life];exact congrArg List.length (auV s.e.hub)),bz := ?_,got:=J5 h.e.got,fd:=(λc=>by rw[U0];exact h.e.fd c),outs := ?_ },?_⟩
  .have:=h.e.bz
   simp;omega
  .rename_i aq
   intro x hx;rcases iQ.1 hx with hx|hx
   .exact h.e.outs x hx
   rw[qw]at hx;subst hx;exact⟨auZ _ aq,by show(dO _).length<=948;rw[MT,db,wj,yK];omega⟩
  have:=ava s.p key (cn v);have:=h.p
  grind
 exact dq h J
def q4{s:aH}(h:bw n s)(b:aa):bw (n+1) (gp s b).1:=by
 unfold gp;split
 .exact dq h J
 split
 .exact dq h J
 split
 .exact dq h J
 rename_i O R ai;have au:=aej h (gq s.e b) (zg.1 O).2 s.e.ring.1.2.1;have a4:=Z? s (gq s.e b) s.e.ring.1.2.1;dsimp only;split
 .refine⟨{ au.e with seq := ?_ },au.p⟩
  have:=h.e.seq;show dP (_+1);unfold dP at *
  omega
 exact au
def MO{s:aH}(h:bw n s)(o:Int)(b:aa):bw (n+1) (ps s o b).1:=by
 unfold ps;split
 .rename_i hf;exact aej h _ hf.2.2 _
 exact dq h J
def oO{s:aH}(h:bw n s)(i:Nat):bw n (gV s i):=⟨{ h.e with cS:=by show(rz s.e.cS i).length=4;unfold rz cg;rw[kf];exact h.e.cS },h.p⟩
def xt(s:aH)(q:d'):aH:=⟨{ s.e with stan:=l5 s.e.stan,ask:=(oy q.2.1 (l5 s.e.stan) (m5 (q.1,q.2.1,l5 s.e.stan,q.2.2.2)).1).1 },s.p⟩
def lB(s:aH)(q:d'):aH:=
 if(m5 (q.1,q.2.1,l5 s.e.stan,q.2.2.2)).2.1=0/\(oy q.2.1 (l5 s.e.stan) (m5 (q.1,q.2.1,l5 s.e.stan,q.2.2.2)).1).2.1=0 then
  (if q.2.1=1 then(ps (xt s q) 0 (m5 (q.1,q.2.1,l5 s.e.stan,q.2.2.2)).1).1 else(gp (xt s q) (m5 (q.1,q.2.1,l5 s.e.stan,q.2.2.2)).1).1)
 else s
def ajN(c s:Int)(b:aa):A7 (oy c s b).1:=by
 unfold oy;split
 .rename_i h;exact .inr ⟨h,by show(1:Int)<=8;decide,by show(8:Int)<=8;decide,by show(0:Int)<=3;decide,by show(3:Int)<=3;decide⟩
 exact .inl rfl
def UF{s:aH}(h:bw n s)(q:d'):bw n (xt s q):=⟨{ h.e with askr:=ajN _ _ _ },h.p⟩
def AM{s:aH}(h:bw n s)(q:d'):bw (n+1) (lB s q):=by
 unfold lB;split
 .split
  .exact MO (UF h q) _ _
  exact q4 (UF h q) _
 exact dq h J
def N8{s:aH}(ae:bw n s)(am:n<=1000000000000)(q:d'):Bg (s.t,q,())=some ((lB s q).t,()):=by
 unfold Bg lB;rw[show s.t.1.2.2.2.2.2.2.2.2.2.2.2.2.1=s.e.stan from rfl,ajz];refine aL rfl ?_;rw[MF];have gn:=UF ae q;have k8:=TT gn am 0 (m5 (q.1,q.2.1,l5 s.e.stan,q.2.2.2)).1;have Dc:=yi gn am (m5 (q.1,q.2.1,l5 s.e.stan,q.2.2.2)).1;unfold xt at k8 Dc ⊢;generalize m5 (q.1,q.2.1,l5 s.e.stan,q.2.2.2)=w at k8 Dc ⊢;obtain⟨b,WQ,⟨⟩⟩:=w;refine aL rfl ?_;rw[ajx];generalize oy q.2.1 (l5 s.e.stan) b=a at k8 Dc ⊢;obtain⟨a,PR,⟨⟩⟩:=a;refine aL rfl ?_;by_cases h:WQ=0/\PR=0
 .obtain⟨rfl,rfl⟩:=h
  refine aL (a:=(false,())) rfl (a0 rfl ?_);by_cases ah:q.2.1=1
  .rw[if_pos ah]
   refine a? (by simp only[go_sem];exact ah) ?_;exact(cE k8).trans rfl
  rw[if_neg ah];refine a0 (by simp only[go_sem];exact ah) ?_;exact(cE Dc).trans rfl
 rw[if_neg h];refine aL (a:=(true,())) ?_ rfl;by_cases O:WQ=0
 .have R:¬PR=0:=λR=>h ⟨O,R⟩
  exact a0 (by rw[O];rfl) (by rw[show af PR 0=false from cx R];rfl)
 exact b4 (by rw[show af WQ 0=false from cx O];rfl)
def iu(c:Int):d':=(true,c,0,0,0,[],[],0,())
def N'{s:aH}(ae:bw n s)(am:n<=1000000000000)(c:Int):Er (s.t,c,())=some ((lB s (iu c)).t,()):=by exact(cE (N8 ae am (iu c))).trans rfl
def pS(e:c_)(lr:Int)(g9:aa):aa:=wm e.key (fX e) lr g9
def ZY(e:c_)(lr:Int)(g9:aa)(ap:e.key.length<=1000000)(am:g9.length<=1000):A5 ((e.t,()),lr,g9,())=some (pS e lr g9,()):=by unfold A5;rw[yh];refine aL rfl ?_;rw[show As (e.t.2.1,(fX e,()).1,lr,g9,())=_ from ac6 e.key (fX e) lr g9 ap am];rfl
def Nw{r:e?}(h:ms r):ms (BJ r):=by
 rcases h with rfl|⟨O,R,ai,au,a4,cQ⟩
 .exact .inl rfl
 refine .inr ⟨O,R,ai,?_,a4,.inl rfl⟩;have:=O.1;show(0:Int)<=r.2.2.2.2.1;omega
def at4{r:e?}{key:aa}(h:(mS r no key).2.1=0):th (no,key,())/\¬r=oN/\r.1.1<no/\r.2.2.1.1<=no/\(mS r no key).1=(r.1,r.2.1,(no,key,()),r.2.2.2.1,max r.2.2.2.2.1 no,()):=by
 unfold mS at h ⊢
 grind
def at3{r:e?}{key:aa}(h:¬(mS r no key).2.1=0):(mS r no key).1=r:=by
 unfold mS at h ⊢
 grind
def Iu{r:e?}(h:ms r)(no:Int)(key:aa):ms (mS r no key).1:=by
 by_cases aq:(mS r no key).2.1=0
 .obtain⟨g,am,ah,hp,e⟩:=at4 aq
  rw[e];rcases h with h|⟨O,R,ai,au,a4,cQ⟩
  .grind
  refine .inr ⟨O,?_,?_,?_,a4,.inr ⟨g,ah⟩⟩
  .have:=g.2.1
   grind
  .grind
  grind
 rw[at3 aq];exact h
def Vr{r:e?}(h:ms r):ms (Bw r).1:=by
 unfold Bw;by_cases hp:r.2.2.1=j'
 .grind
 rw[if_neg hp];rcases h with rfl|⟨O,R,ai,au,a4,cQ⟩
 .exact absurd rfl hp
 have eh:=cQ.resolve_left hp;refine .inr ⟨eh.1,R,au,?_,.inr ⟨?_,O,eh.2,by show(1:Int)<=16;decide,by show(16:Int)<=16;decide⟩,.inl rfl⟩
 .have:=O.1
  show(0:Int)<=r.2.2.2.2.1;omega
 intro e;have:=O.1;rw[e]at this;exact absurd this bN
def aww{r:e?}(h:ms r):0<=r.2.2.2.2.1/\r.2.2.2.2.1<=2147483647:=by
 rcases h with rfl|⟨O,R,ai,au,a4,cQ⟩
 .exact⟨bN,bN⟩
 have:=O.1;omega
def ac2(lr:Int)(g9 k:aa):d':=(true,101,0,0,lr,g9,Dl k,0,())
def AC(s:aH)(g9:aa):aH×Int:=
 if ¬g9.length=8 then(s,1) else if ¬nh s.e.ph then(s,7) else if ¬s.e.ph=3\/¬s.e.ask.1=0\/0<s.e.ring.2.2.1.1 then(s,9)
 else if ¬(rY s.e.ring).2.1=0 then(s,(rY s.e.ring).2.1)
 else(lB ⟨{ s.e with ph:=4,ring:=(mS s.e.ring (rY s.e.ring).1 (pS s.e (rY s.e.ring).1 g9)).1 },s.p⟩ (ac2 (rY s.e.ring).1 g9 (pS s.e (rY s.e.ring).1 g9)),0)
def aep{s:aH}(h:bw n s)(g:Int)(k:aa):bw n ⟨{ s.e with ph:=4,ring:=(mS s.e.ring g k).1 },s.p⟩:=⟨{ h.e with ph:=⟨by show(0:Int)<=4;decide,by show(4:Int)<=8;decide⟩,ring:=Iu h.e.ring g k },h.p⟩
theorem aAa:q9 (3,6,())=some (4,true,()):=rfl
def ZX(e:c_)(g:Int)(g9:aa):(pS e g g9).length<=32:=by
 unfold pS wm;split
 .rw[Rl];omega
 simp
def awh{s:aH}(ae:bw n s)(am:n<=1000000000000)(g9:aa):Ns (s.t,g9,())=some ((AC s g9).1.t,(AC s g9).2,()):=by
 unfold Ns AC;by_cases O:g9.length=8
 .rw[if_neg (not_not_intro O)]
  refine a0 cp ?_;rw[show s.t.1.2.2.1=s.e.ph from rfl,H?];refine aL rfl ?_;by_cases R:nh s.e.ph
  .rw[cC R,if_neg (not_not_intro R)]
   rw[show s.t.1.2.2.2.2.2.2.2.2.2.2.2.1.1=s.e.ask.1 from rfl,show s.t.1.2.2.2.2.2.2.2.2.2.2.1=s.e.ring from rfl];by_cases ai:¬s.e.ph=3\/¬s.e.ask.1=0\/0<s.e.ring.2.2.1.1
   .rw[if_pos ai]
    refine aL (a:=(true,())) ?_ rfl;simp only[go_sem];exact Ew (or_assoc.2 ai)
   rw[if_neg ai];simp only[not_or,zg]at ai;obtain⟨cK,cU,dj⟩:=ai;refine aL (a:=(false,())) (by simp only[go_sem,cK,cU];exact VV dj) (a0 rfl ?_);have ht:=aww ae.e.ring;rw[awz _ ht.2 ht.1];by_cases au:(rY s.e.ring).2.1=0
   .rw[if_neg (not_not_intro au)]
    refine a0 (by simp only[go_sem];exact not_not_intro au) ?_;generalize(rY s.e.ring).1=g;refine(d9 (o:=yE _) rfl).trans ?_;have ap:=ae.e.key;rw[show A5 ((s.t.1,()),g,g9,())=_ from ZY s.e g g9 J J];refine aL rfl ?_;dsimp only;rw[Vs];rw[cK];rw[ado _ (by have:=ZX s.e g g9;omega)];exact(cE (N8 (aep ae g (pS s.e g g9)) am (ac2 g g9 (pS s.e g g9)))).trans rfl
   rw[if_pos au];exact b4 (by simp only[go_sem];exact au)
  rw[cG R,if_pos R];rfl
 rw[if_pos O];exact b4 cp
def AN(e:c_):c_:={ e with ph:=3,ask:=kw }
theorem aAc:q9 (4,8,())=some (3,true,()):=rfl
def xW(s:aH):aH:=if s.e.ph=4 then⟨{ s.e with ph:=3,ask:=kw,ring:=BJ s.e.ring },s.p⟩ else s
def Vl{s:aH}(h:s.e.ph=4):A6 (s.t,())=some ((⟨AN s.e,s.p⟩:aH).t,()):=by unfold A6;rw[show(s.t,()).1.1.2.2.1=4 from h];rfl
def afv(s:aH):Is (s.t,())=some ((xW s).t,()):=by
 unfold Is xW;by_cases h:s.e.ph=4
 .rw[if_pos h]
  refine a0 (by show aZ (af s.e.ph 4)=false;rw[h];rfl) ?_;rw[Vl h];rfl
 rw[if_neg h];exact b4 (by show aZ (af s.e.ph 4)=true;simp only[go_sem];exact h)
def kV(n:d')(res:Int):aa:=(m5 (Fu n res).1).1
def Fv{s:aH}(ae:bw m s)(hm:m<=1000000000000)(n:d')(res:Int):
  (ob (q1 (n,res,())) λ(a:d'×Int×Unit)=>ob (p' (a.1,())) λ(b:aa×Int×Unit)=>ob (n5 (s.t,b.1,())) λ(c:fa×Int×Unit)=>(some (c.1,()):Option (fa×Unit)))=some ((gp s (kV n res)).1.t,()):=by
 rw[Ut];refine aL rfl ?_;rw[MF];exact(cE (yi ae hm (kV n res))).trans rfl
def ahQ(e:c_)(r:e?):c_:={ e with ring:=r }
def Ov(e:c_)(r:e?):c_:={ e with ph:=3,ask:=kw,ring:=r }
def AJ(s:aH)(n:d'):aH:=
 if s.e.ph=4/\s.e.id=0 then gV s 3
 else if ¬Dl (pS s.e n.2.2.2.2.1 n.2.2.2.2.2.1)=n.2.2.2.2.2.2.1 then(gp s (kV n 63)).1
 else if n.2.2.2.2.1=s.e.ring.1.1 then(gp s (kV n 0)).1
 else if s.e.ph=4 then
  (if(mS (BJ s.e.ring) n.2.2.2.2.1 (pS s.e n.2.2.2.2.1 n.2.2.2.2.2.1)).2.1=0 then(gp ⟨Ov s.e (mS (BJ s.e.ring) n.2.2.2.2.1 (pS s.e n.2.2.2.2.1 n.2.2.2.2.2.1)).1,s.p⟩ (kV n 0)).1 else gV s 3)
 else(if(mS s.e.ring n.2.2.2.2.1 (pS s.e n.2.2.2.2.1 n.2.2.2.2.2.1)).2.1=0 then(gp ⟨ahQ s.e (mS s.e.ring n.2.2.2.2.1 (pS s.e n.2.2.2.2.1 n.2.2.2.2.2.1)).1,s.p⟩ (kV n 0)).1 else gV s 3)
def aey{s:aH}(h:bw m s){r:e?}(aj:ms r):bw m ⟨ahQ s.e r,s.p⟩:=⟨{ h.e with ring:=aj },h.p⟩
def H0{s:aH}(h:bw m s){r:e?}(aj:ms r):bw m ⟨Ov s.e r,s.p⟩:=⟨{ h.e with ring:=aj,askr:=.inl rfl,ph:=⟨by show(0:Int)<=3;decide,by show(3:Int)<=8;decide⟩ },h.p⟩
def t?(s:aH):(ob (kS (s.t,13,())) λ(a:fa×Unit)=>(some (a.1,()):Option (fa×Unit)))=some ((gV s 3).t,()):=(cE (TS s)).trans rfl
def awi{s:aH}(ae:bw m s)(hm:m<=1000000000000)(n:d')(am:n.2.2.2.2.2.1.length<=1000):Nt (s.t,n,())=some ((AJ s n).t,()):=by
 unfold Nt AJ;refine(d9 (o:=yE _) rfl).trans ?_;have ap:=ae.e.key;rw[show A5 ((s.t.1,()),n.2.2.2.2.1,n.2.2.2.2.2.1,())=_ from ZY s.e _ _ J am];refine(d9 rfl).trans ?_;have hl:=ZX s.e n.2.2.2.2.1 n.2.2.2.2.2.1;generalize pS s.e n.2.2.2.2.1 n.2.2.2.2.2.1=k at hl;refine(d9 (o:=wO _) rfl).trans ?_;dsimp only;rw[show s.t.1.2.2.1=s.e.ph from rfl,show s.t.1.1=s.e.id from rfl];by_cases O:s.e.ph=4/\s.e.id=0
 .rw[ O.1,O.2]
  exact t? s
 rw[if_neg O];refine(d9 (a:=(false,())) ?_).trans ((bU rfl).trans ?_)
 .by_cases au:s.e.ph=4
  .have aq:¬s.e.id=0:=λaq=>O ⟨au,aq⟩
   rw[cL au,cx aq];rfl
  rw[cx au];rfl
 rw[ado _ J];refine(d9 rfl).trans ?_;rw[Mq _ _ (by rw[asP];omega)];by_cases R:Dl k=n.2.2.2.2.2.2.1
 .rw[if_neg (not_not_intro R),IG R]
  by_cases ai:n.2.2.2.2.1=s.e.ring.1.1
  .rw[if_pos ai]
   refine(b4 (cL ai)).trans ?_;exact Fv ae hm n 0
  rw[if_neg ai];refine(bU (cx ai)).trans ?_;by_cases au:s.e.ph=4
  .rw[if_pos au]
   refine(b4 (cL au)).trans ?_;refine(d9 rfl).trans ?_;rw[Vs];by_cases a4:(mS (BJ s.e.ring) n.2.2.2.2.1 k).2.1=0
   .rw[if_pos a4]
    refine(bU (i_ a4)).trans ?_;refine(b4 (cL au)).trans ?_;rw[Vl au];exact Fv (H0 ae (Iu (Nw ae.e.ring) n.2.2.2.2.1 k)) hm n 0
   rw[if_neg a4];refine(b4 (lO a4)).trans ?_;exact t? s
  rw[if_neg au];refine(bU (cx au)).trans ?_;rw[Vs];by_cases a4:(mS s.e.ring n.2.2.2.2.1 k).2.1=0
  .rw[if_pos a4]
   refine(bU (i_ a4)).trans ?_;refine(bU (cx au)).trans ?_;exact Fv (aey ae (Iu ae.e.ring n.2.2.2.2.1 k)) hm n 0
  rw[if_neg a4];refine(b4 (lO a4)).trans ?_;exact t? s
 rw[if_pos R,NV R];exact Fv ae hm n 63
instance (a:gB) (c s:Int):Decidable (qX a c s):=by unfold qX;infer_instance
def Ce(s:aH)(n:d'):aH:=
 if ¬s.e.ph=4\/¬qX s.e.ask n.2.1 n.2.2.1 then gV s 3
 else if ¬n.2.2.2.1=0 then xW s
 else lB ⟨Ov s.e (Bw s.e.ring).1,s.p⟩ (iu 301)
def awg{s:aH}(ae:bw m s)(hm:m<=1000000000000)(n:d'):Nr (s.t,n,())=some ((Ce s n).t,()):=by
 unfold Nr Ce;refine(d9 (o:=yE _) rfl).trans ?_;refine(d9 (o:=wO _) rfl).trans ?_;rw[show s.t.1.2.2.1=s.e.ph from rfl,show s.t.1.2.2.2.2.2.2.2.2.2.2.2.1=s.e.ask from rfl,Kd];by_cases au:s.e.ph=4
 .by_cases a4:qX s.e.ask n.2.1 n.2.2.1
  .rw[if_neg (λh=>h.elim (λh=>h au) (λh=>h a4)),cC a4,cL au]
   by_cases cQ:n.2.2.2.1=0
   .rw[if_neg (not_not_intro cQ)]
    refine(bU (i_ cQ)).trans ?_;rw[Vl au];refine(d9 rfl).trans ?_;rw[show(A8 ((({ e:=AN s.e,p:=s.p }:aH).t,()).1.1.2.2.2.2.2.2.2.2.2.2.1,()):Option (e?×Int×Unit))=_ from afG s.e.ring];exact(cE (N8 (H0 ae (Vr ae.e.ring)) hm (iu 301))).trans rfl
   rw[if_pos cQ];refine(b4 (lO cQ)).trans ?_;exact(cE (afv s)).trans rfl
  rw[if_pos (.inr a4),cG a4,cL au];exact t? s
 rw[if_pos (.inl au),cx au];exact t? s
theorem atH(x:UInt64):cz x=(x.toNat:Int):=rfl
def au8{k:Nat}(h:k<=63):2^k<=9223372036854775808:=by have:=vr (show 0<2 by omega) h;omega
def jL(w:gS)(p:Nat):Bool:=(an w.2.1 (p/64) (u64 0)).toNat/2^(p%64)%2==1
def av9(a b:o0):Nh (a,b,())=some (D (a=b),()):=by obtain⟨x,y,z,⟨⟩⟩:=a;obtain⟨vj,ain,z',⟨⟩⟩:=b;unfold Nh;simp only[go_sem,wN];simp
def arU(h:ef)(O:h.1.length=4)(R:h.2.1.length=4)(ai:h.2.2.1.length=4):Ni (h,h,())=some (true,()):=by
 unfold Ni;generalize hf:(λ(V:Bool×Int×Unit)=>(_:Option (aE (Bool×Int×Unit) (Bool×Unit))))=f;have step:∀i:Nat,i<4->f (false,(i:Int),())=some (.nx (false,((i+1:Nat):Int),())):=by intro i ac;subst hf;simp(disch:=omega) only[go_sem,av9]
 have e0:f (false,((4:Nat):Int),())=some (.ex 0 (false,((4:Nat):Int),())):=by subst hf;exact bU rfl
 have h5:=(kr (f:=f) (λi=>(false,(i:Int),())) 4 step 0 (eS _)).trans (dT e0);refine(cO (h5)).trans ?_;simp only[go_sem]
def sD(a:Int):af a a=true:=cL rfl
def NW(a:aa):seq a a=true:=IG rfl
def awK(q:List aa)(a_:q.length<=1050000000000):M_ (q,q,())=some (true,()):=by
 unfold M_;rw[sD];generalize hf:(λ(V:Bool×Int×Unit)=>(_:Option (aE (Bool×Int×Unit) (Bool×Unit))))=f;have step:∀i:Nat,i<q.length->f (false,(i:Int),())=some (.nx (false,((i+1:Nat):Int),())):=by intro i ac;subst hf;have eH:i64 (aC (i:Int) 1)=((i+1:Nat):Int):=fL rfl J;refine a? cp (a6 cp (a6 cp ?_));rw[eH,NW];rfl
 have e0:f (false,(q.length:Int),())=some (.ex 0 (false,(q.length:Int),())):=by subst hf;exact bU cp
 have h5:=(kr (f:=f) (λi=>(false,(i:Int),())) q.length step 0 (eS _)).trans (dT e0);exact(cO (h5)).trans (eG g62)
def axc(q:List pI)(a_:q.length<=1050000000000):Nm (q,q,())=some (true,()):=by
 unfold Nm;rw[sD];generalize hf:(λ(V:Bool×Int×Unit)=>(_:Option (aE (Bool×Int×Unit) (Bool×Unit))))=f;have step:∀i:Nat,i<q.length->f (false,(i:Int),())=some (.nx (false,((i+1:Nat):Int),())):=by intro i ac;subst hf;have eH:i64 (aC (i:Int) 1)=((i+1:Nat):Int):=fL rfl J;have ah:aK (i:Int) (len q)=true:=cp;refine a? cp (a6 ah (a6 ah ?_));rw[eH,sD,ah];rw[wN,NW];rfl
 have e0:f (false,(q.length:Int),())=some (.ex 0 (false,(q.length:Int),())):=by subst hf;exact bU cp
 have h5:=(kr (f:=f) (λi=>(false,(i:Int),())) q.length step 0 (eS _)).trans (dT e0);exact(cO (h5)).trans (eG g62)
def aal(q:List jr)(a_:q.length<=1050000000000):Iq (q,q,())=some (true,()):=by
 unfold Iq;rw[sD];generalize hf:(λ(V:Bool×Int×Unit)=>(_:Option (aE (Bool×Int×Unit) (Bool×Unit))))=f;have step:∀i:Nat,i<q.length->f (false,(i:Int),())=some (.nx (false,((i+1:Nat):Int),())):=by intro i ac;subst hf;have eH:i64 (aC (i:Int) 1)=((i+1:Nat):Int):=fL rfl J;have ah:aK (i:Int) (len q)=true:=cp;refine a? cp (a6 ah (a6 ah ?_));rw[eH,ah];rw[sD,sD,sD,sD,wN,NW];rfl
 have e0:f (false,(q.length:Int),())=some (.ex 0 (false,(q.length:Int),())):=by subst hf;exact bU cp
 have h5:=(kr (f:=f) (λi=>(false,(i:Int),())) q.length step 0 (eS _)).trans (dT e0);exact(cO (h5)).trans (eG g62)
def XF:∀l:List UInt64,nN (λ(p q:UInt64)=>af (cz p) (cz q)) l l=true
 |[]=>rfl
 |a::l=>by have ih:=XF l;unfold nN at ih ⊢;rw[Fb,vy,ih,Bool.and_true];exact sD _
def XG:∀l:List Int,nN (λ(p q:Int)=>af p q) l l=true
 |[]=>rfl
 |a::l=>by have ih:=XG l;unfold nN at ih ⊢;rw[Fb,vy,ih,Bool.and_true];exact sD _
def aw3{e:c_}(h:r3 n e)(am:n<=1050000000000):Nl (e.t,e.t,())=some (true,()):=by unfold Nl;rw[awa];rw[Vk];rw[awb];have a_:=h.queue;have aO:=h.bz;have hg:=h.got;rw[show e.t.2.2.2.2.2.2.2.2.2.2.2.2.2.2.1=e.queue from rfl,awK e.queue J];rw[show e.t.2.2.2.2.2.2.2.2.2.2.2.2.2.2.2.1=e.hub from rfl,arU e.hub h.up h.feed h.life];rw[show e.t.2.2.2.2.2.2.2.2.2.2.2.2.2.2.2.2.1=e.bz from rfl,axc e.bz J];rw[show e.t.2.2.2.2.2.2.2.2.2.2.2.2.2.2.2.2.2.1=e.got from rfl,aal e.got J];rw[wN,NW,XF,XG];simp only[sD];rfl
def EH{A B C:aa}{a:Nat}(dJ:A.length=a)(aB:B.length=w):dA (A++(B++C)) a w=B:=by
 unfold dA
 grind
def ahw{b:aa}{W:Nat}{n:Int}(abJ:1<=W)(hW:W<=8)(hl:A+W<=b.length)(aq:0<=n)(am:n<256^W)(hL:n<=4611686018427387904)(ht:dA b A W=gh W n):jq b (A:Int) (W:Int)=(n,((A+W:Nat):Int),0,()):=by
 have aD:mc (dA b A W)=n.toNat:=by
  rw[ht];unfold gh;rw[ajT,tN]
  grind
 unfold jq;rw[if_neg J,if_neg J,if_neg]
 .grind
 rintro⟨cy,CZ⟩;have apt:W=8:=J;subst apt;rw[iq]at CZ;have hg:an b A (u8 0)=(gh 8 n)[0]'(by rw[nQ];omega):=by
  have O:0<(dA b A 8).length:=by rw[wZ hl];omega
  have R:(dA b A 8)[0]=b[A]:=ahJ O J;rw[nth_get J]
  grind
 rw[hg]at CZ;unfold gh at CZ;rw[MY]at CZ;unfold mC at CZ;rw[ UInt8.toNat_ofNat_of_lt' (by grind)]at CZ;omega
def ew(b:aa)(a w:Int):Int:=if(jq b a w).2.2.1=0 then(jq b a w).1 else -1
def r0:dr:=(0,0,[0,0],0,0,[],[],())
def po(b:aa):dr:=(ew b 0 1,ew b 1 1,[ew b 2 8,ew b 10 8],ew b 18 4,ew b 22 8,(b.drop 30).take (b.length-46),b.drop (b.length-16),())
instance (v:dr):Decidable (lZ v):=by unfold lZ;infer_instance
instance (v:dr):Decidable (oQ v):=by unfold oQ;infer_instance
def ev(b:aa):dr×Int×Unit:=if b.length<47 then(r0,3,()) else if 946<b.length then(r0,4,()) else if oQ (po b) then(po b,0,()) else(r0,2,())
def EG{b:aa}{W:Nat}{n:Int}(abJ:1<=W)(hW:W<=8)(hl:A+W<=b.length)(aq:0<=n)(am:n<256^W)(hL:n<=4611686018427387904)(ht:dA b A W=gh W n):ew b (A:Int) (W:Int)=n:=by unfold ew;rw[ahw abJ hW hl aq am hL ht,if_pos rfl]
def afq{v:dr}{t:aa}(aD:lZ v)(az:v.2.2.1=[eM v,e1 v])(ht:t.length=16):ev (cn v++t)=(iO v t,0,()):=by
 have b9:(cn v++t).length=46+v.2.2.2.2.2.1.length:=by rw[db,wj,ht];omega
 have je:=aD.2.2.2.2.2.2;obtain⟨O,R,ai,au,a4,cQ,eh,cy⟩:=aD;have fk:=nQ 1 v.1;have gO:=nQ 1 v.2.1;have rV:=nQ 8 (eM v);have Aq:=nQ 8 (e1 v);have Hu:=nQ 4 v.2.2.2.1;have Dq:=nQ 8 v.2.2.2.2.1;have qZ:=R.2;have HN:=ai.2;have adG:=au.2;obtain⟨rest,hrest⟩:∃rest,rest=v.2.2.2.2.2.1++t:=⟨_,rfl⟩;have cb:cn v++t=gh 1 v.1++(gh 1 v.2.1++(gh 8 (eM v)++(gh 8 (e1 v)++(gh 4 v.2.2.2.1++(gh 8 v.2.2.2.2.1++rest))))):=by unfold cn;rw[hrest];simp only[h0]
 have dW:dA (cn v++t) 0 1=gh 1 v.1:=by rw[cb];exact EH (A:=[]) rfl fk
 have eF:dA (cn v++t) 1 1=gh 1 v.2.1:=by rw[cb];exact EH fk gO
 have mv:dA (cn v++t) 2 8=gh 8 (eM v):=by rw[cb,<- h0];exact EH (by rw[db,fk,gO]) rV
 have yS:dA (cn v++t) 10 8=gh 8 (e1 v):=by rw[cb,<- h0,<- h0];exact EH (by simp only[db,fk,gO,rV]) Aq
 have wY:dA (cn v++t) 18 4=gh 4 v.2.2.2.1:=by rw[cb,<- h0,<- h0,<- h0];exact EH (by simp only[db,fk,gO,rV,Aq]) Hu
 have Bl:dA (cn v++t) 22 8=gh 8 v.2.2.2.2.1:=by rw[cb,<- h0,<- h0,<- h0,<- h0];exact EH (by simp only[db,fk,gO,rV,Aq,Hu]) Dq
 have bh:po (cn v++t)=iO v t:=by
  unfold po iO;have bG:ew (cn v++t) 0 1=v.1:=EG (A:=0) (W:=1) J J J J J J dW;have ca:ew (cn v++t) 1 1=v.2.1:=EG (A:=1) (W:=1) J J J J J J eF;have cr:ew (cn v++t) 2 8=eM v:=EG (A:=2) (W:=8) J J J R.1 J qZ mv;have du:ew (cn v++t) 10 8=e1 v:=EG (A:=10) (W:=8) J J J ai.1 J HN yS;have eW:ew (cn v++t) 18 4=v.2.2.2.1:=EG (A:=18) (W:=4) J J J cQ.1 J J wY;have lh:ew (cn v++t) 22 8=v.2.2.2.2.1:=EG (A:=22) (W:=8) J J J au.1 J adG Bl;have pf:(gh 1 v.1++gh 1 v.2.1++gh 8 (eM v)++gh 8 (e1 v)++gh 4 v.2.2.2.1++gh 8 v.2.2.2.2.1).length=30:=by simp only[db,fk,gO,rV,Aq,Hu,Dq]
  have qb:((cn v++t).drop 30).take ((cn v++t).length-46)=v.2.2.2.2.2.1:=by rw[b9];unfold cn;rw[h0,<- pf,JZ,qA,zd]
  have kx:(cn v++t).drop ((cn v++t).length-16)=t:=by rw[b9,show 46+v.2.2.2.2.2.1.length-16=(cn v).length by rw[wj];omega,JZ]
  rw[bG,ca,cr,du,eW,lh,qb,kx,<- az]
 unfold ev;rw[if_neg J,if_neg J,bh,if_pos];exact⟨⟨O,R,ai,au,a4,cQ,eh,cy⟩,ht⟩
def aeV(e:c_):fX e=[an (fX e) 0 0,an (fX e) 1 0]:=by
 unfold fX;split
 .rfl
 split<;>rfl
def asK{i:Int}(h:i=0\/i=1):i64 (bg 1 i)=1-i:=hw (by show -9223372036854775808<=1-i;omega) (by show 1-i<=9223372036854775807;omega)
def pc(r:c_)(g:Int):e?:=if r.ring.2.2.1.1=g/\¬r.ph=4 then(Bw r.ring).1 else r.ring
def k?(s:aH)(p:Int):aH:=⟨HA s.e p,s.p⟩
def Es{s:aH}(ae:bw n s)(am:n<=1000000000000)(p:Int):tr (s.t,p,())=some ((k? s p).t,()):=by unfold tr;have hg:=ae.e.got;rw[show At (s.t.1,p,())=_ from ac7 s.e p J];rfl
def Mk(e:c_)(p:Int):(HA e p).got.length<=e.got.length+1:=by
 show(if kq e.ph then e.got++[(5,fX e,0,[],())]else e.got).length<=_
 grind
def AL{s:aH}(h:bw n s){p:Int}(aq:0<=p)(cy:p<=8):bw (n+1) (k? s p):=by refine⟨{ DP h.e (vq n) with ph:=⟨aq,cy⟩,own:=by show dP 0;decide,oth:=by show dP 0;decide,seq:=by show dP 0;decide,ring:=.inl rfl,got := ?_,win:=rfl,queue:=by show([]:List aa).length<=8;simp,top:=⟨by show(0:Int)<=0;decide,by show(0:Int)<=4611686018427387905;decide⟩,askr:=.inl rfl },J5 h.p⟩;have O:=Mk s.e p;have R:=h.e.got;exact fv O J
def dv:ef:=([false,false,false,false],[ec,ec,ec,ec],[0,0,0,0],0,())
def amY(e:c_):c_:=⟨e.id,e.key,8,e.store, -1,0,0,0,0,tb,oN,kw,0,0,[],dv,[],(HA e 8).got,[0,0,0,0]⟩
def xG(s:aH):aH:=if s.e.ph=8 then s else⟨amY s.e,s.p⟩
def agT{s:aH}(ae:bw n s)(am:n<=1000000000000):Ep (s.t,())=some ((xG s).t,()):=by
 unfold Ep xG;have hg:=ae.e.got;by_cases h:s.e.ph=8
 .rw[if_pos h];exact b4 (cL h)
 rw[if_neg h];refine a0 (cx h) ?_;rw[show At (s.t.1,8,())=_ from ac7 s.e 8 J];rfl
def acv(c:Nat):qe (an dv.2.1 c ec):=by
 match c with
 |0=>exact yJ
 |1=>exact yJ
 |2=>exact yJ
 |3=>exact yJ
 |c+4=>exact yJ
def aeh{s:aH}(h:bw n s):bw (n+1) (xG s):=by
 unfold xG;split
 .exact dq h (vq n)
 have O:=Mk s.e 8;have R:=h.e.got;exact⟨{
  id:=h.e.id
  key:=h.e.key
  ph:=⟨by show(0:Int)<=8;omega,by show(8:Int)<=8;omega⟩
  store:=h.e.store
  own:=by show dP 0;decide
  oth:=by show dP 0;decide
  seq:=by show dP 0;decide
  ring:=.inl rfl
  up:=rfl
  next:=⟨by show(0:Int)<=0;omega,by show(0:Int)<4;omega⟩
  bz:=eS _
  got:=fv O J
  cS:=rfl
  win:=rfl
  feed:=rfl
  life:=rfl
  queue:=by show([]:List aa).length<=8;simp
  top:=⟨by show(0:Int)<=0;decide,by show(0:Int)<=4611686018427387905;decide⟩
  fd:=acv
  askr:=.inl rfl
  outs:=λx hx=>by cases hx },J5 h.p⟩
def Ol(s:aH)(t:m9):aH:=⟨{ s.e with store:=t },s.p⟩
def qj(s:aH)(t:m9):aH:=⟨{ s.e with store:=t,power := -1 },s.p⟩
def ahx(s:m9)(c:Int):mZ s c=(s,0,12,())\/mZ s c=(s,0,10,())\/(∃t,mZ s c=(t,0,11,())/\(u7 s->u7 t))\/∃t,mZ s c=(t,(j1 s).1,0,())/\(u7 s->u7 t):=by
 have key:u7 s->u7 (if(j1 s).2.1=0 then(s.1,yg (j1 s).1 c s.2.1,()) else(yg (j1 s).1 c s.1,s.2.1,())):=by
  intro h;have hl:∀o:aa,o.length=16->(yg (j1 s).1 c o).length=16:=by intro o aO;have hm:=adp c;unfold yg;rw[db,ib,ep,M8,aO];omega
  split
  .exact⟨h.1,hl _ h.2⟩
  exact⟨hl _ h.1,h.2⟩
 unfold mZ;split
 .exact .inl rfl
 split
 .exact .inr (.inl rfl)
 dsimp only;split
 .exact .inr (.inr (.inl ⟨_,rfl,key⟩))
 exact .inr (.inr (.inr ⟨_,rfl,key⟩))
def gw(s:aH):aH×Int×Int:=
 if(mZ s.e.store s.e.power).2.2.1=0 then(qj s (mZ s.e.store s.e.power).1,(mZ s.e.store s.e.power).2.1,0)
 else if(mZ s.e.store s.e.power).2.2.1=11 then(xG (Ol s (mZ s.e.store s.e.power).1),0,11)
 else(s,0,(mZ s.e.store s.e.power).2.2.1)
def aev{s:aH}(h:bw n s){t:m9}(ht:u7 t):bw n (Ol s t):=⟨{ h.e with store:=ht },h.p⟩
def aut{s:aH}(h:bw n s){t:m9}(ht:u7 t):bw n (qj s t):=⟨{ h.e with store:=ht },h.p⟩
def DR{s:aH}(h:bw n s):bw (n+1) (gw s).1:=by
 unfold gw;rcases ahx s.e.store s.e.power with e|e|⟨t,e,ht⟩|⟨t,e,ht⟩
 .rw[e];exact dq h (vq n)
 .rw[e];exact dq h (vq n)
 .rw[e];exact aeh (aev h (ht h.e.store))
 rw[e];exact dq (aut h (ht h.e.store)) (vq n)
def agV{s:aH}(ae:bw n s)(am:n<=1000000000000):IU (s.t,())=some ((gw s).1.t,(gw s).2.1,(gw s).2.2,()):=by
 unfold IU gw;rw[show s.t.1.2.2.2.1=s.e.store from rfl,show s.t.1.2.2.2.2.1=s.e.power from rfl,axF _ _ ae.e.store];rcases ahx s.e.store s.e.power with e|e|⟨t,e,ht⟩|⟨t,e,ht⟩
 .rw[e];rfl
 .rw[e];rfl
 .rw[e]
  refine aL rfl (a0 rfl (a? rfl ?_));rw[show Ep (((s.t.1.1,s.t.1.2.1,s.t.1.2.2.1,t,s.t.1.2.2.2.2),s.t.2),())=_ from agT (aev ae (ht ae.e.store)) am];rfl
 rw[e];rfl
def uV(s:aH)(n:Int):aH:=⟨{ s.e with own:=n },s.p⟩
def r5(s:aH):aH×Int:=
 if s.e.ph=7\/s.e.ph=8 then(s,11)
 else if ¬(gw s).2.2=0 then((gw s).1,(gw s).2.2)
 else(lB (uV (k? (gw s).1 1) (gw s).2.1) (iu 1),0)
def anD{s:aH}(aq:(gw s).2.2=0):(j1 s.e.store).2.2.1=true/\(gw s).2.1=(j1 s.e.store).1:=by
 unfold gw at aq ⊢;unfold mZ at aq ⊢
 grind
def auq{s:aH}(h:bw n s)(ap:dP k):bw n (uV s k):=⟨{ h.e with own:=ap },h.p⟩
def RD{s:aH}(aq:(gw s).2.2=0):dP (gw s).2.1:=by obtain⟨O,R⟩:=anD aq;have ai:=XU O;rw[R];unfold dP;omega
def aer{s:aH}(ae:bw n s)(aq:(gw s).2.2=0):bw (n+2) (uV (k? (gw s).1 1) (gw s).2.1):=auq (AL (DR ae) J J) (RD aq)
def aeq{s:aH}(ae:bw n s):bw (n+3) (r5 s).1:=by
 unfold r5;split
 .exact dq ae J
 split
 .exact dq (DR ae) J
 rename_i O R;exact AM (aer ae (zg.1 R)) _
def agU{s:aH}(ae:bw n s)(am:n<=999999000000):IR (s.t,())=some ((r5 s).1.t,(r5 s).2,()):=by
 unfold IR r5;rw[show s.t.1.2.2.1=s.e.ph from rfl];by_cases O:s.e.ph=7\/s.e.ph=8
 .rw[if_pos O]
  rcases O with h|h<;>rw[h]<;>rfl
 rw[if_neg O];simp at O;refine aL (a:=(false,())) ?_ (a0 rfl ?_)
 .rw[cx O.1,cx O.2];rfl
 rw[agV ae J];by_cases R:(gw s).2.2=0
 .rw[if_neg (not_not_intro R)]
  refine a0 (i_ R) ?_;rw[Es (DR ae) J];exact(cE (N' (aer ae R) J 1)).trans rfl
 rw[if_pos R];exact b4 (lO R)
end Yp