/- A part of the proof of the statements of this seat: plain functions, and laws on them. No condition of its own. -/
import Derived.Test.YtofckmopfilanaaGreatDoorQ0
import Derived.RangeFuncNested
import Derived.RangeFuncBox
import Derived.RangeFuncLeaves
import Derived.Shelf.Abstract
import Derived.WalkKit
import Derived.OwnWalkIn
import Derived.TacticsInMore
import Derived.LoopNIn
import Derived.LoopIn
import Derived.Maps.AppendAt
import Derived.Test.YtofckmopfilanaaGreatDoorProg
import Derived.Conc.LoneCalls
import Derived.KernelRfl
import Derived.Laws.Rows
import Derived.Conc.LoneSelectN
import Derived.Conc.Own5
import Derived.Lib.Bytealg
import Derived.Shelf.Strings.Builder1
import Derived.Shelf.Strings.Builder2
import Derived.Shelf.Strings.OnBuilder
import Derived.Shelf.Strings.Search1
import Derived.Shelf.Strings.Search2
import Derived.Shelf.Strings.Search3
import Derived.Shelf.Strings.Count
set_option linter.unusedVariables false
set_option linter.unusedSimpArgs false
set_option linter.defProp false
noncomputable section
open Go Yp
variable {a e last m no:Int}{l:List Int}{A c cap k n r s size t w x:Nat}{α:Type}{b q v:V}
namespace Yp
open Go
def Qp:=@List.zip_cons_cons
def YG:=@Bool.false_and
abbrev bZ:=Int×V×Unit
abbrev M:=Int×List bZ×Unit
def hE(m:Int):Prop:=100<=m/\m<=899/\m/10%10<=4/\m%10<=5
instance (m:Int):Decidable (hE m):=inferInstanceAs (Decidable (_/\_))
def H5(m:Int)(n:Nat)(ak:n<=3)(aq:0<=m)(h:m<=9223372036854775807):vj (m,(n:Int),())=some (m/10^n%10,()):=by
 unfold vj;generalize hf:(λ(Y:Int×Int×Unit)=>_)=f;have step:∀(k:Int) (i:Nat),i<n->0<=k->k<=9223372036854775807->f (k,(i:Int),())=some (.nx (k/10,((i+1:Nat):Int),())):=λk i ac aq O=>by subst hf;simp(disch:=omega) only[go_sem]
 have last:∀(k:Int),f (k,(n:Int),())=some (.ex 0 (k,(n:Int),())):=λk=>by subst hf;simp(disch:=omega) only[go_sem]
 have ak:n=0\/n=1\/n=2\/n=3:=J;have e:bK f (m,((0:Nat):Int),())=some (.ex 0 (m/10^n,(n:Int),())):=by
  rcases ak with rfl|rfl|rfl|rfl
  .rw[ec (last m)];simp
  .rw[ev (step m 0 J aq h),ec (last _)];simp
  .rw[ev (step m 0 J aq h),ev (step _ 1 J J J),ec (last _)];simp;omega
  rw[ev (step m 0 J aq h),ev (step _ 1 J J J),ev (step _ 2 J J J),ec (last _)];simp;omega
 refine(cW e).trans ?_;have:0<=m/10^n:=by rcases ak with rfl|rfl|rfl|rfl<;>simp<;>omega
 simp(disch:=omega) only[go_sem]
def AY(m:Int):AX (m,())=some (D (hE m),()):=by
 unfold AX;by_cases h:m<0\/999<m
 .have ak:¬hE m:=by unfold hE;omega
  simp(disch:=omega) only[go_sem,ak]
 have aq:=H5 m 0 J J J;have O:=H5 m 1 J J J;have R:=H5 m 2 J J J;simp at aq O R;simp(disch:=omega) only[go_sem,aq,O,R];exact pR (by unfold hE;omega)
def ayw(m:Int):N9 (m,())=some (D (hE m),()):=by
 unfold N9;by_cases h:100<=m/\m<=899
 .simp(disch:=first|assumption|omega|(dsimp only;omega)|decide) only[go_sem,Int.reduceToNat]
  exact pR (by unfold hE;omega)
 have ak:¬hE m:=by unfold hE;omega
 simp(disch:=omega) only[go_sem,Int.reduceToNat,ak]
def f7:Int->List bZ->Bool
 |_,[]=>true
 |last,v::r=>decide (last<v.1)&&(fX v.1 v.2.1&&f7 v.1 r)
def hZ(m:M):Bool:=f7 0 m.2.1&&decide (hE m.1)
def uZ(m:M):Prop:=m.2.1.length<=1000/\∀v∈m.2.1,v.2.1.length<=1000000
def uZ.ao{m:M}(h:uZ m){i:Nat}(ac:i<m.2.1.length):(m.2.1[i]).2.1.length<=1000000:=h.2 _ (k6 ac)
def qP(last:Int)(v:bZ):aF Int (Bool×Unit):=if last<v.1/\fX v.1 v.2.1=true then .nx v.1 else .rt (false,())
def SJ{σ:Type}{mk:Int->Nat->σ}{e:Nat}:∀(l:List bZ) (last:Int) (i:Nat),(f7 last l=true/\∃y,jN mk e qP last i l=.ex e y)\/(f7 last l=false/\jN mk e qP last i l=.rt (false,()))
 |[],last,i=>.inl ⟨rfl,_,rfl⟩
 |v::r,last,i=>by
  by_cases h:last<v.1/\fX v.1 v.2.1=true
  .have ab:qP last v=.nx v.1:=if_pos h
   have:=SJ (mk:=mk) (e:=e) r v.1 (i+1);simp only[jN,ab,f7,h.1,h.2];exact this
  have ab:qP last v=.rt (false,()):=if_neg h;refine .inr ⟨?_,by simp only[jN,ab]⟩;simp only[f7,Bool.and_eq_false_iff,decide_eq_false_iff_not]
  grind
def auv(m:M)(hm:uZ m):M1 (m,())=some (hZ m,()):=by
 unfold M1;generalize hf:(λ(Y:Bool×Int×Int×Unit)=>_)=f;have hl:=hm.1;have key:=sB (f:=f) m.2.1 (λlast i=>(false,last,(i:Int),())) 0 qP (λ_ _=>True) (λb i h _=>⟨?_,λ_ _=>trivial⟩) (λb _ => ?_) 0 trivial
 .refine(cW key).trans ?_
  unfold hZ;rcases SJ (mk:=λlast i=>((false,last,(i:Int),()):Bool×Int×Int×Unit)) (e:=0) m.2.1 0 0 with⟨O,y,R⟩|⟨O,R⟩
  .rw[O,R];simp only[go_sem,AY,P_]
  rw[O,R];simp only[go_sem,YG]
 .subst hf
  have:=hm.ao h;have tH:=L7 (m.2.1[i]).1 (m.2.1[i]).2.1 this;by_cases O:m.2.1[i].1<=b
  .have ab:qP b m.2.1[i]=.rt (false,()):=if_neg λah=>J
   simp(disch:=omega) only[go_sem,ab,kx]
  cases R:fX (m.2.1[i]).1 (m.2.1[i]).2.1
  .have ab:qP b m.2.1[i]=.rt (false,()):=if_neg λah=>by rw[R]at ah;exact absurd ah.2 bp
   simp(disch:=omega) only[go_sem,tH,R,ab,kx]
  have ab:qP b m.2.1[i]=.nx m.2.1[i].1:=if_pos ⟨J,R⟩;simp(disch:=omega) only[go_sem,tH,R,ab,kx]
 subst hf;simp(disch:=omega) only[go_sem]
def apU(h:no<=0):e_ no=none:=by
 unfold e_;have:∀r∈tx,∀c∈r.drop 2,1<=c:=ir
 grind
def apH(h:fX no v=true):1<=no:=by
 refine iQ λah => ?_;unfold fX at h;rw[apU J]at h
 grind
def ayv(m:M)(hm:uZ m):N8 (m,())=some (hZ m,()):=by
 unfold N8;generalize hf:(λ(Y:Bool×Int×Unit)=>_)=f;have hl:=hm.1;have key:=sB (f:=f) m.2.1 (λ(last:Int) i=>(false,(i:Int),())) 0 qP (λb i=>(i=0/\b=0)\/∃h:i-1<m.2.1.length,0<i/\m.2.1[i-1].1=b) (λb i h dW=>⟨?_,λb' aa => ?_⟩) (λb _ => ?_) 0 (.inl ⟨rfl,rfl⟩)
 .refine(cW key).trans ?_
  unfold hZ;rcases SJ (mk:=λ(last:Int) i=>((false,(i:Int),()):Bool×Int×Unit)) (e:=0) m.2.1 0 0 with⟨O,y,R⟩|⟨O,R⟩
  .rw[O,R];simp(disch:=first|assumption|omega|(dsimp only;omega)|decide) only[go_sem,Int.reduceToNat,ayw,P_]
  rw[O,R];simp(disch:=first|assumption|omega|(dsimp only;omega)|decide) only[go_sem,Int.reduceToNat,YG]
 .subst hf
  have:=hm.ao h;have tH:=ayq (m.2.1[i]).1 (m.2.1[i]).2.1 this;cases R:fX (m.2.1[i]).1 (m.2.1[i]).2.1
  .have ab:qP b m.2.1[i]=.rt (false,()):=if_neg λah=>by rw[R]at ah;exact absurd ah.2 bp
   simp(disch:=omega) only[go_sem,Int.reduceToNat,tH,R,ab,kx]
  have hp:=apH R;rcases dW with⟨rfl,rfl⟩|⟨bE,aq,rfl⟩
  .have ab:qP 0 m.2.1[0]=.nx m.2.1[0].1:=if_pos ⟨J,R⟩
   simp(disch:=omega) only[go_sem,Int.reduceToNat,tH,R,ab,kx]
  have aQ:((i:Int)-1).toNat=i-1:=J;by_cases O:m.2.1[i].1<=m.2.1[i-1].1
  .have ab:qP m.2.1[i-1].1 m.2.1[i]=.rt (false,()):=if_neg λah=>J
   simp(disch:=omega) only[go_sem,Int.reduceToNat,tH,R,ab,kx,aQ]
  have ab:qP m.2.1[i-1].1 m.2.1[i]=.nx m.2.1[i].1:=if_pos ⟨J,R⟩;simp(disch:=omega) only[go_sem,Int.reduceToNat,tH,R,ab,kx,aQ]
 .right
  refine⟨by simpa using h,J,?_⟩;simp only[P4];unfold qP at aa;split at aa
  .cases aa;rfl
  cases aa
 subst hf;simp(disch:=omega) only[go_sem,Int.reduceToNat]
def aut(m:Int):H3 (m,())=some (if hE m then m/100 else 0,()):=by
 unfold H3;by_cases h:hE m
 .have aa:=h
  unfold hE at aa;have R:=H5 m 2 J J J;simp at R;simp only[go_sem,AY,h,R]
  grind
 simp only[go_sem,AY,h]
def awg(m:Int):Bv (m,())=some (if hE m then m/100 else 0,()):=by
 unfold Bv;by_cases h:hE m
 .have aa:=h
  unfold hE at aa;simp(disch:=omega) only[go_sem,ayw,h]
 simp only[go_sem,ayw,h]
def qM(m:Int):Int×Bool×Unit:=if hE m/\(m/10%10=0\/m/10%10=2) then(m+10,true,()) else(0,false,())
def aux(m:Int):∃y,vj (m,1,())=some (y,()):=by
 unfold vj;generalize hf:(λ(Y:Int×Int×Unit)=>_)=f;have step:∀(k:Int),f (k,(0:Int),())=some (.nx (i64 (gd k 10),(1:Int),())):=λk=>by subst hf;simp(disch:=omega) only[go_sem];rfl
 have last:∀(k:Int),f (k,(1:Int),())=some (.ex 0 (k,(1:Int),())):=λk=>by subst hf;simp(disch:=omega) only[go_sem]
 refine⟨fR (i64 (gd m 10)) 10,(cW ((ev (step m)).trans (ec (last _)))).trans ?_⟩;rfl
def auu(m:Int):M0 (m,())=some (qM m):=by
 unfold M0;by_cases h:hE m
 .have aa:=h
  unfold hE at aa;have O:=H5 m 1 J J J;simp at O;unfold qM;by_cases R:m/10%10=0\/m/10%10=2
  .simp(disch:=omega) only[go_sem,AY,h,O,R]
  simp(disch:=omega) only[go_sem,AY,h,O,R]
 obtain⟨y,O⟩:=aux m;unfold qM;simp only[go_sem,AY,h,O]
def Rd(a b:V):CU (a,b,())=some (D (a=b),()):=by unfold CU;simp only[go_sem]
def aem(a b:bZ):M2 (a,b,())=some (D (a=b),()):=by unfold M2;simp only[go_sem,Rd];obtain⟨cN,cX,⟨⟩⟩:=a;obtain⟨e9,eo,⟨⟩⟩:=b;simp
def BJ(b:Unit)(p:bZ×bZ):aF Unit (Bool×Unit):=if p.1=p.2 then .nx () else .rt (false,())
def abY{σ:Type}{mk:Unit->Nat->σ}{e:Nat}:∀(l:List (bZ×bZ)) (i:Nat),((∀p∈l,p.1=p.2)/\∃y,jN mk e BJ () i l=.ex e y)\/((¬∀p∈l,p.1=p.2)/\jN mk e BJ () i l=.rt (false,()))
 |[],i=>.inl ⟨bp,_,rfl⟩
 |p::r,i=>by
  by_cases h:p.1=p.2
  .have ab:BJ () p=.nx ():=if_pos h
   have:=abY (mk:=mk) (e:=e) r (i+1);simp only[jN,ab,f',forall_eq_or_imp,h,true_and];exact this
  have ab:BJ () p=.rt (false,()):=if_neg h;refine .inr ⟨λah=>h (ah p bp),by simp only[jN,ab]⟩
def X'{α:Type}:∀{a b:List α},a.length=b.length->((∀p∈a.zip b,p.1=p.2)↔a=b)
 |[],[],_=>bp
 |x::a,y::b,h=>by have:=X' (a:=a) (b:=b) (by grind);simp only[Qp,f',forall_eq_or_imp,zS];rw[this]
def ajQ(a b:List bZ)(hl:a.length<=1000000):O1 (a,b,1,())=some (D (a=b),()):=by
 unfold O1;by_cases h:a.length=b.length
 .generalize hf:(λ(Y:Bool×Int×Unit)=>_)=f
  have bs:(a.zip b).length=a.length:=by simp[h]
  have key:=sB (f:=f) (a.zip b) (λ(_:Unit) i=>(false,(i:Int),())) 0 BJ (λ_ _=>True) (λ_ i ac _=>⟨?_,λ_ _=>trivial⟩) (λ_ _ => ?_) () trivial
  .refine a2 ?_ ((cW key).trans ?_)
   .simp only[go_sem,h]
   rcases abY (mk:=λ_ i=>((false,(i:Int),()):Bool×Int×Unit)) (e:=0) (a.zip b) 0 with⟨O,y,R⟩|⟨O,R⟩
   .rw[X' h]at O;rw[R];simp only[go_sem,O]
   rw[X' h]at O;rw[R];simp only[go_sem,O]
  .subst hf
   simp;by_cases hx:a[i]=b[i]
   .have ab:BJ () (b[i],b[i])=.nx ():=if_pos rfl
    simp(disch:=omega) only[go_sem,aem,ab,kx,hx]
   have ab:BJ () (a[i],b[i])=.rt (false,()):=if_neg hx;simp(disch:=omega) only[go_sem,aem,ab,kx,hx]
  subst hf;simp(disch:=omega) only[go_sem,bs]
 have ak:¬a=b:=λe=>h (by rw[e]);simp(disch:=omega) only[go_sem,ak]
def akb{a b:M}:a=b↔a.1=b.1/\a.2.1=b.2.1:=by grind
def auw(a b:M)(hl:a.2.1.length<=1000000):H4 (a,b,())=some (D (a=b),()):=by unfold H4;simp(disch:=omega) only[go_sem,ajQ];exact pR akb.symm
abbrev N:=Bool×Int×Int×Int×Int×V×V×Int×Unit
def qA(c:Int):Prop:=c=1\/c=2\/c=101\/c=201\/c=301
instance (c:Int):Decidable (qA c):=by unfold qA;infer_instance
def Ia(n:N):Prop:=
 if n.1=true/\n.2.1=101 then 1<=n.2.2.2.2.1/\n.2.2.2.2.1<=2147483647/\n.2.2.2.2.2.1.length=8/\n.2.2.2.2.2.2.1.length=3/\n.2.2.2.2.2.2.2.1=0
 else n.2.2.2.2.1=0/\n.2.2.2.2.2.1=[]/\n.2.2.2.2.2.2.1=[]/\(if n.1=true/\n.2.1=201 then 0<=n.2.2.2.2.2.2.2.1/\n.2.2.2.2.2.2.2.1<=999999 else n.2.2.2.2.2.2.2.1=0)
instance (n:N):Decidable (Ia n):=by unfold Ia;infer_instance
def i2(n:N):Prop:=qA n.2.1/\1<=n.2.2.1/\n.2.2.1<=999999/\0<=n.2.2.2.1/\n.2.2.2.1<=99/\(n.1=true->n.2.2.2.1=0)/\Ia n
instance (n:N):Decidable (i2 n):=by unfold i2;infer_instance
def WP{p q:Prop}(h:p↔q):(some (D p,()):Option (Bool×Unit))=some (D q,()):=by rw[show p=q from propext h]
def aiv{q:Prop}(h:¬q):(some (false,()):Option (Bool×Unit))=some (D q,()):=by rw[cH h]
def aCz{l:List α}:((l.length:Int)=0)↔l=[]:=by rw[<- iR];omega
def vM{kD:Bool}{c bS rs g:Int}{no k:V}{d:Int}:i2 (kD,c,bS,rs,g,no,k,d,())↔(qA c/\1<=bS/\bS<=999999/\0<=rs/\rs<=99/\(kD=true->rs=0) /\
  (if kD=true/\c=101 then 1<=g/\g<=2147483647/\no.length=8/\k.length=3/\d=0 else g=0/\(no.length:Int)=0/\(k.length:Int)=0/\(if kD=true/\c=201 then 0<=d/\d<=999999 else d=0))):=by
 unfold i2 Ia;simp
def azw{p:Prop}{x y z:α}(O:p->x=z)(R:¬p->y=z):T (D p) x y=z:=by
 by_cases h:p
 .rw[cF h];exact O h
 rw[cH h];exact R h
def Ve(n:N):IE (n,())=some (D (i2 n),()):=by
 obtain⟨kD,c,bS,rs,g,no,k,d,⟨⟩⟩:=n;unfold IE Vh Vg Vf Nz Vi;simp only[go_sem];rw[show mW (D (((bS<1\/999999<bS)\/rs<0)\/99<rs)) (c3 kD (D (0<rs)))=D ((((bS<1\/999999<bS)\/rs<0)\/99<rs)\/(kD=true/\0<rs)) from pj (by simp[mW,c3,pk])];refine azw (λh=>aiv λai => ?_) λh => ?_
 .simp only[vM]at ai;grind
 rw[show c3 (D (c=101)) kD=D (c=101/\kD=true) from pj (by simp[c3,pk]),show c3 (D (c=201)) kD=D (c=201/\kD=true) from pj (by simp[c3,pk])];by_cases O:c=101/\kD=true
 .simp only[go_sem,O,cF O]
  refine WP ?_;simp only[vM,qA];grind
 by_cases R:c=201/\kD=true
 .simp only[go_sem,cH O,cF R]
  refine WP ?_;simp only[vM,qA];grind
 by_cases af:(((c=1\/c=2)\/c=101)\/c=201)\/c=301
 .simp only[go_sem,cH O,cH R,cF af]
  refine WP ?_;simp only[vM,qA];grind
 simp only[go_sem,cH O,cH R,cH af];refine aiv λai => ?_;simp only[vM,qA]at ai;grind
def xO:=@Bool.not_eq_true
def F7:=@List.take_zero
def KC:=@Bool.or_false
def vy(g:Nat->Bool):UInt8:=UInt8.ofNat ((g 0).toNat*128+(g 1).toNat*64+(g 2).toNat*32+(g 3).toNat*16+(g 4).toNat*8+(g 5).toNat*4+(g 6).toNat*2+(g 7).toNat)
def alI:∀eD e9 eo jH n5 qc r6 b7:Bool,bt (UInt8.ofNat (eD.toNat*128+e9.toNat*64+eo.toNat*32+jH.toNat*16+n5.toNat*8+qc.toNat*4+r6.toNat*2+b7.toNat)) 0=eD /\
  bt (UInt8.ofNat (eD.toNat*128+e9.toNat*64+eo.toNat*32+jH.toNat*16+n5.toNat*8+qc.toNat*4+r6.toNat*2+b7.toNat)) 1=e9/\bt (UInt8.ofNat (eD.toNat*128+e9.toNat*64+eo.toNat*32+jH.toNat*16+n5.toNat*8+qc.toNat*4+r6.toNat*2+b7.toNat)) 2=eo /\
  bt (UInt8.ofNat (eD.toNat*128+e9.toNat*64+eo.toNat*32+jH.toNat*16+n5.toNat*8+qc.toNat*4+r6.toNat*2+b7.toNat)) 3=jH/\bt (UInt8.ofNat (eD.toNat*128+e9.toNat*64+eo.toNat*32+jH.toNat*16+n5.toNat*8+qc.toNat*4+r6.toNat*2+b7.toNat)) 4=n5 /\
  bt (UInt8.ofNat (eD.toNat*128+e9.toNat*64+eo.toNat*32+jH.toNat*16+n5.toNat*8+qc.toNat*4+r6.toNat*2+b7.toNat)) 5=qc/\bt (UInt8.ofNat (eD.toNat*128+e9.toNat*64+eo.toNat*32+jH.toNat*16+n5.toNat*8+qc.toNat*4+r6.toNat*2+b7.toNat)) 6=r6 /\
  bt (UInt8.ofNat (eD.toNat*128+e9.toNat*64+eo.toNat*32+jH.toNat*16+n5.toNat*8+qc.toNat*4+r6.toNat*2+b7.toNat)) 7=b7:=ir
def Lh{g:Nat->Bool}(ht:t<8):bt (vy g) t=g t:=by obtain⟨aq,O,R,af,au,aY,cp,dN⟩:=alI (g 0) (g 1) (g 2) (g 3) (g 4) (g 5) (g 6) (g 7);have:t=0\/t=1\/t=2\/t=3\/t=4\/t=5\/t=6\/t=7:=J;rcases this with rfl|rfl|rfl|rfl|rfl|rfl|rfl|rfl<;>assumption
def aeY:∀c:UInt8,vy (bt c)=c:=we ir
def Zi{c d:UInt8}(h:∀t,t<8->bt c t=bt d t):c=d:=by rw[<- aeY c,<- aeY d];unfold vy;rw[h 0 J,h 1 J,h 2 J,h 3 J,h 4 J,h 5 J,h 6 J,h 7 J]
def aeZ{g h:Nat->Bool}(e:∀t,t<8->g t=h t):vy g=vy h:=Zi λt ht=>by rw[Lh ht,Lh ht,e t ht]
def uO(t:Nat):UInt8:=UInt8.ofNat (2^(7-t))
def alt:∀t:Nat,t<8->u8 (fO .u8 128 (t:Int))=uO t:=ir
def aw3:∀c:UInt8,∀t:Nat,t<8->u8 (g' .u8 (aO c) (aO (uO t)))=vy λs=>bt c s||Nat.beq s t:=we ir
def ako:∀c:UInt8,∀t:Nat,t<8->bt c t=false->u8 (aE (aO c) (aO (uO t)))=vy λs=>bt c s||Nat.beq s t:=we ir
def akt:∀c:UInt8,∀t:Nat,t<8->(bg (aj (aO (u8 (i9 .u8 (aO c) (aO (uO t))))) (aO (u8 0))))=bt c t:=we ir
def Y5(O:1<=n)(R:n<=128):uP ((n:Int),())=some ((((n-1)/8:Nat):Int),uO ((n-1)%8),()):=by unfold uP;simp(disch:=omega) only[go_sem];have e1:((n:Int)-1)/8=(((n-1)/8:Nat):Int):=J;have aU:((n:Int)-1)%8=(((n-1)%8:Nat):Int):=J;rw[e1,aU,<- alt _ J]
def ayt(O:1<=n)(R:n<=128):EN ((n:Int),())=some ((((n-1)/8:Nat):Int),uO ((n-1)%8),()):=by
 unfold EN;generalize hf:(λ(Y:Int×Int×Unit)=>_)=f;have step:∀i:Nat,i<(n-1)%8->f (((2^(7-i):Nat):Int),(i:Int),())=some (.nx (((2^(7-(i+1)):Nat):Int),((i+1:Nat):Int),())):=λi ac=>by subst hf;have hp:i=0\/i=1\/i=2\/i=3\/i=4\/i=5\/i=6:=J;rcases hp with rfl|rfl|rfl|rfl|rfl|rfl|rfl<;>(simp(disch:=first|assumption|omega|(dsimp only;omega)|decide) only[go_sem,Int.reduceToNat];rfl)
 have last:f (((2^(7-(n-1)%8):Nat):Int),(((n-1)%8:Nat):Int),())=some (.ex 0 (((2^(7-(n-1)%8):Nat):Int),(((n-1)%8:Nat):Int),())):=by subst hf;simp(disch:=omega) only[go_sem,Int.reduceToNat]
 have e:=lh (f:=f) (λi=>(((2^(7-i):Nat):Int),(i:Int),())) ((n-1)%8) step 0 J;have e:bK f (128,0,())=_:=e.trans (ec last);simp(disch:=omega) only[go_sem,Int.reduceToNat,e];have e1:((n:Int)-1)/8=(((n-1)/8:Nat):Int):=J;rw[e1];unfold uO;rw[XB]
def hk:Int->List Int->Bool
 |_,[]=>true
 |last,n::r=>decide (last<n/\n<=128/\n≠65)&&hk n r
def rM(last n:Int):aF Int (Bool×Unit):=if last<n/\n<=128/\n≠65 then .nx n else .rt (false,())
def SK{σ:Type}{mk:Int->Nat->σ}{e:Nat}:∀(l:List Int) (last:Int) (i:Nat),(hk last l=true/\∃y,jN mk e rM last i l=.ex e y)\/(hk last l=false/\jN mk e rM last i l=.rt (false,()))
 |[],last,i=>.inl ⟨rfl,_,rfl⟩
 |n::r,last,i=>by
  by_cases h:last<n/\n<=128/\n≠65
  .have ab:rM last n=.nx n:=if_pos h
   have:=SK (mk:=mk) (e:=e) r n (i+1);simp only[jN,ab,hk,decide_eq_true h];exact this
  have ab:rM last n=.rt (false,()):=if_neg h;refine .inr ⟨?_,by simp only[jN,ab]⟩;simp only[hk,decide_eq_false h,YG]
def Q3(l:List Int)(hl:l.length<=1000000):Le (l,())=some (hk 1 l,()):=by
 unfold Le;generalize hf:(λ(Y:Bool×Int×Int×Unit)=>_)=f;have key:=sB (f:=f) l (λlast i=>(false,last,(i:Int),())) 0 rM (λ_ _=>True) (λb i h _=>⟨?_,λ_ _=>trivial⟩) (λb _ => ?_) 1 trivial
 .refine(cW key).trans ?_
  rcases SK (mk:=λlast i=>((false,last,(i:Int),()):Bool×Int×Int×Unit)) (e:=0) l 1 0 with⟨O,y,R⟩|⟨O,R⟩
  .rw[O,R];simp only[go_sem]
  rw[O,R];simp only[go_sem]
 .subst hf
  by_cases O:b<l[i]/\l[i]<=128/\l[i]≠65
  .have ab:rM b l[i]=.nx l[i]:=if_pos O
   simp(disch:=omega) only[go_sem,ab,kx]
  have ab:rM b l[i]=.rt (false,()):=if_neg O;simp(disch:=omega) only[go_sem,ab,kx]
 subst hf;simp(disch:=omega) only[go_sem]
def We(l:List Int)(hl:l.length<=1000000):N6 (l,())=some (hk 1 l,()):=by
 unfold N6;generalize hf:(λ(Y:Bool×Int×Unit)=>_)=f;have key:=sB (f:=f) l (λ(last:Int) i=>(false,(i:Int),())) 0 rM (λb i=>(i=0/\b=1)\/∃h:i-1<l.length,0<i/\l[i-1]=b/\2<=b) (λb i h dW=>⟨?_,λb' aa => ?_⟩) (λb _ => ?_) 1 (.inl ⟨rfl,rfl⟩)
 .refine(cW key).trans ?_
  rcases SK (mk:=λ(last:Int) i=>((false,(i:Int),()):Bool×Int×Unit)) (e:=0) l 1 0 with⟨O,y,R⟩|⟨O,R⟩
  .rw[O,R];simp(disch:=first|assumption|omega|(dsimp only;omega)|decide) only[go_sem,Int.reduceToNat]
  rw[O,R];simp(disch:=first|assumption|omega|(dsimp only;omega)|decide) only[go_sem,Int.reduceToNat]
 .subst hf
  rcases dW with⟨rfl,rfl⟩|⟨bE,aq,aa,R⟩
  .by_cases O:1<l[0]/\l[0]<=128/\l[0]≠65
   .have ab:rM 1 l[0]=.nx l[0]:=if_pos O
    simp(disch:=omega) only[go_sem,Int.reduceToNat,ab,kx]
   have ab:rM 1 l[0]=.rt (false,()):=if_neg O;simp(disch:=omega) only[go_sem,Int.reduceToNat,ab,kx]
  have aQ:((i:Int)-1).toNat=i-1:=J;by_cases O:b<l[i]/\l[i]<=128/\l[i]≠65
  .have ab:rM b l[i]=.nx l[i]:=if_pos O
   simp(disch:=omega) only[go_sem,Int.reduceToNat,ab,kx,aQ]
  have ab:rM b l[i]=.rt (false,()):=if_neg O;simp(disch:=omega) only[go_sem,Int.reduceToNat,ab,kx,aQ]
 .right
  have hb1:b'=l[i]/\b<l[i]:=by
   unfold rM at aa;split at aa
   .rename_i ah;cases aa;exact⟨rfl,ah.1⟩
   cases aa
  refine⟨by simpa using h,J,?_,?_⟩
  .simp only[P4];exact hb1.1.symm
  rcases dW with⟨_,rfl⟩|⟨_,_,_,R⟩<;>omega
 subst hf;simp(disch:=omega) only[go_sem,Int.reduceToNat]
def gU(size:Nat)(S:Nat->Bool):V:=(List.range size).map λj=>vy λt=>S (8*j+t+1)
def BG{S:Nat->Bool}:(gU size S).length=size:=by simp[gU]
def ag2{S:Nat->Bool}{j:Nat}(h:j<size):ao (gU size S) j (u8 0)=vy λt=>S (8*j+t+1):=by rw[nth_get (by rw[BG];exact h)];simp[gU]
def Hd{S:Nat->Bool}(O:1<=n)(R:n<=8*size):iz (gU size S) n=S n:=by unfold iz;rw[ag2 J,Lh J];congr 1;omega
def ag4{a:V}(hl:a.length=b.length)(h:∀n,1<=n->n<=8*a.length->iz a n=iz b n):a=b:=by refine pq hl λj O R=>Zi λt ht => ?_;have:=h (8*j+t+1) J J;unfold iz at this;rw[show(8*j+t+1-1)/8=j by omega,show(8*j+t+1-1)%8=t by omega,nth_get O,nth_get R]at this;exact this
def ag1{S Yz:Nat->Bool}(h:∀n,1<=n->n<=8*size->S n=Yz n):gU size S=gU size Yz:=ag4 (by rw[BG,BG]) λn O R=>by rw[BG]at R;rw[Hd O R,Hd O R,h n O R]
def agM(size:Nat):bR size (u8 0)=gU size λ_=>false:=by refine pq (by simp[bR,gU]) λj O R => ?_;simp only[bR,List.getElem_replicate,gU,nj];decide
def E3(S:Nat->Bool)(n:Nat):Nat->Bool:=λm=>S m||Nat.beq m n
def ah5{S:Nat->Bool}(O:1<=n)(R:n<=8*size){c:UInt8}(ah:c=vy λs=>bt (ao (gU size S) ((n-1)/8) (u8 0)) s||Nat.beq s ((n-1)%8)):cn (gU size S) ((n-1)/8) c=gU size (E3 S n):=by
 refine pq (by simp[cn,gU]) λj af au => ?_;have hg:=ag2 (S:=S) (show(n-1)/8<size by omega);simp only[cn,wa];split
 .rename_i ap
  subst ap;rw[ah,hg];simp only[gU,nj,q4];refine aeZ λt ht => ?_;rw[Lh ht];unfold E3;congr 1;refine j3.2 ?_;simp;omega
 rename_i ap;simp only[gU,nj,q4];refine aeZ λt ht => ?_;unfold E3;have:Nat.beq (8*j+t+1) n=false:=by refine(xO _).mp λaa=>ap ?_;have:=fU aa;omega
 rw[this,KC]
def lN(l:List Int):Bool:=decide (0<l.length)&&decide (64<ao l (l.length-1) 0)
def mE(l:List Int)(n:Nat):Bool:=decide ((n:Int)∈l)
def fB(l:List Int):V:=if lN l=true then gU 16 (mE (1::l)) else gU 8 (mE l)
def xm:∀{last:Int},hk last l=true->∀n∈l,last<n/\n<=128/\n≠65:=by
 induction l with
 |nil=>intro _ _ n ak;cases ak
 |cons x r ih=>
  intro last h n ak;simp only[hk,cP,decide_eq_true_eq]at h;rcases f'.1 ak with rfl|ak
  .exact h.1
  have:=ih h.2 n ak;exact⟨J,this.2⟩
def ayM:∀{last:Int},hk last l=true->∀n∈l,n<=ao l (l.length-1) 0:=by
 induction l with
 |nil=>intro _ _ n ak;cases ak
 |cons x r ih=>
  intro last h n ak;simp only[hk,cP]at h;cases r with
  |nil=>simp at ak;subst ak;simp[ao]
  |cons y r=>
   have ai:=ih h.2;have hl:ao (x::y::r) ((x::y::r).length-1) 0=ao (y::r) ((y::r).length-1) 0:=by simp[ao]
   rcases f'.1 ak with rfl|ak
   .have O:=(xm h.2 y bp).1
    have:=ai y bp;omega
   exact ai n ak
def ID(h:hk 1 l=true)(bw:¬lN l=true):∀n∈l,n<=64:=λn ak=>by have:=ayM h n ak;unfold lN at bw;have aq:0<l.length:=List.length_pos_of_mem ak;simp at bw;omega
def Mb{α β σ ρ:Type}{mk:β->Nat->σ}{e:Nat}{step:β->α->aF β ρ}{g:β->α->β}(h:∀b x,step b x=.nx (g b x)):∀(l:List α) (b:β) (i:Nat),jN mk e step b i l=.ex e (mk (l.foldl g b) (i+l.length))
 |[],b,i=>rfl
 |x::r,b,i=>by simp only[jN,h,KI,gL];rw[Mb h r (g b x) (i+1)];congr 2;omega
def Y_{f:Int×V×Unit->Option (aF (Int×V×Unit) (V×Int×Unit))}{S0:Nat->Bool}
  (ab:∀(S:Nat->Bool) (i:Nat) (h:i<l.length),(∀m,S m=(S0 m||mE (l.take i) m))->f ((i:Int),gU size S,())=some (.nx (((i+1:Nat):Int),gU size (E3 S (l[i]).toNat),())))
  (ai:∀n∈l,1<=n) (aC:∀x,f ((l.length:Int),x,())=some (.ex 0 ((l.length:Int),x,()))):bK f (0,gU size S0,())=some (.ex 0 ((l.length:Int),gU size (λm=>S0 m||mE l m),())):=by
 have key:∀(k i:Nat),k=l.length-i->i<=l.length->bK f ((i:Int),gU size (λm=>S0 m||mE (l.take i) m),())=some (.ex 0 ((l.length:Int),gU size (λm=>S0 m||mE l m),())):=by
  intro k;induction k with
  |zero =>intro i am ac;have:i=l.length:=J;subst this;rw[ni];exact ec (aC _)
  |succ k ih=>
   intro i am ac;have bn:i<l.length:=J;refine(ev (ab _ i bn λm=>rfl)).trans ?_;have hx:=ai l[i] (k6 bn);have:(E3 (λm=>S0 m||mE (l.take i) m) (l[i]).toNat)=λm=>S0 m||mE (l.take (i+1)) m:=by funext m;unfold E3 mE;rw[Bool.or_assoc];congr 1;refine j3.2 ?_;rw[e0 bn];simp only[zM,decide_eq_true_eq,Eu,hG,s_];refine or_congr Qw ?_;omega
   rw[this];exact ih (i+1) J J
 have:=key l.length 0 J J;simp only[F7,mE,KZ,decide_false,KC]at this;exact this
def F0:=@List.take_append_of_le_length
def Kz:=@List.getElem_append_right
def KD:=@List.getElem_append_left
def ay7:cn (bR 16 (u8 0)) 0 (u8 128)=gU 16 (λm=>Nat.beq m 1):=ir
def ajr(hl:l.length<=1000000):T (D (0<(l.length:Int))) (an (D (0<=(l.length:Int)-1/\(l.length:Int)-1<(l.length:Int))) (some (D (64<ao l ((l.length:Int)-1).toNat 0),()))) (some (false,()))=some (lN l,()):=by
 have aQ:((l.length:Int)-1).toNat=l.length-1:=J;by_cases aq:0<l.length
 .have e:lN l=decide (64<ao l (l.length-1) 0):=by unfold lN;rw[decide_eq_true aq,P_]
  simp(disch:=omega) only[go_sem,aQ,e]
 have e:lN l=false:=by unfold lN;rw[decide_eq_false aq,YG]
 simp(disch:=omega) only[go_sem,e]
def alu(l:List Int)(hl:l.length<=1000000):Lf (l,())=some (if hk 1 l=true then(fB l,0,()) else([],1,())):=by
 unfold Lf;generalize hf:(λ(Y:Int×V×Unit)=>_)=f;have ro:=ajr hl;cases ai:hk 1 l
 .simp(disch:=omega) only[go_sem,Q3,ai]
 have hm:=xm ai;have step:∀(size:Nat),(∀n∈l,n<=8*(size:Int))->∀S0:Nat->Bool,bK f (0,gU size S0,())=some (.ex 0 ((l.length:Int),gU size (λm=>S0 m||mE l m),())):=by
  intro size bW S0;refine Y_ (λS i h _ => ?_) (λn ak=>by have:=hm n ak;omega) (λx => ?_)
  .subst hf
   have hx:=hm l[i] (k6 h);have mz:=bW l[i] (k6 h);obtain⟨N,fM⟩:∃N:Nat,l[i]=N:=⟨l[i].toNat,J⟩;have mx:=Y5 (n:=N) J J;have T9:(gU size S).length=size:=BG;have l6:=ah5 (size:=size) (S:=S) (n:=N) J J (aw3 (ao (gU size S) ((N-1)/8) (u8 0)) ((N-1)%8) J);have wO:((N-1)/8)<(gU size S).length:=J;rw[nth_get wO]at l6;simp(disch:=omega) only[go_sem,fM,mx,T9,l6]
  subst hf;simp(disch:=omega) only[go_sem]
 by_cases bw:lN l=true
 .have:=step 16 (λn ak=>by have:=hm n ak;omega) (λm=>Nat.beq m 1)
  rw[<- ay7]at this;have e:gU 16 (λm=>Nat.beq m 1||mE l m)=fB l:=by
   unfold fB;rw[if_pos bw];refine ag1 λn _ _ => ?_;unfold mE;refine j3.2 ?_;simp
   grind
  rw[e]at this;simp(disch:=first|assumption|omega|(dsimp only;omega)|decide) only[go_sem,Int.reduceToNat,Q3,ai,ro,bw,this]
 have:=step 8 (λn ak=>by have:=ID ai bw n ak;omega) (λm=>false);rw[<- agM]at this;have AM:lN l=false:=(xO _).mp bw;have e:gU 8 (λm=>false||mE l m)=fB l:=by unfold fB;rw[if_neg bw];rfl
 rw[e]at this;simp(disch:=omega) only[go_sem,Int.reduceToNat,Q3,ai,ro,AM,this]
def ayu(l:List Int)(hl:l.length<=1000000):N7 (l,())=some (if hk 1 l=true then(fB l,0,()) else([],1,())):=by
 unfold N7;have ro:=ajr hl;generalize hf:(λ(Y:Int×V×Unit)=>_)=f;generalize hg:(λ(Y:Int×V×Unit)=>(T (aH Y.1 (len (cg (aR Int) (l,()).1))) _ _:Option (aF (Int×V×Unit) (V×Int×Unit))))=g;cases ai:hk 1 l
 .simp(disch:=omega) only[go_sem,We,ai]
 have hm:=xm ai;have hA:∀(last:Int) (l:List Int),hk last l=true->∀i (h:i<l.length),¬l[i]∈l.take i:=by
  intro last l;induction l generalizing last with
  |nil=>intro _ i h;simp at h
  |cons x r ih=>
   intro h i ac;have ai:=(by simpa only[hk,cP,decide_eq_true_eq]using h:_);cases i with
   |zero=>simp
   |succ i=>
    simp;have fk:i<r.length:=by simpa using ac
    have:=(xm ai.2 r[i] (k6 fk)).1
    grind
 have step:∀(L:List Int) (size:Nat) (f:Int×V×Unit->Option (aF (Int×V×Unit) (V×Int×Unit))),(λ(Y:Int×V×Unit)=>
  T (aH Y.1 (len L)) (an (aN Y.1 (len L)) (ob (EN (ao L (ae Y.1) 0,())) λ(a:Int×UInt8×Unit)=>an (aN a.1 (len Y.2.1)) (an (aN a.1 (len Y.2.1))
   (some (aF.nx (i64 (aE Y.1 1),cn Y.2.1 (ae a.1) (u8 (aE (aO (ao Y.2.1 (ae a.1) (u8 0))) (aO a.2.1))),())))))) (some (aF.ex 0 (Y.1,Y.2.1,()))))=f->L.length<=1000001->(∀n∈L,1<=n/\n<=128/\n<=8*(size:Int)) ->
  (∀i (h:i<L.length),¬L[i]∈L.take i)->bK f (0,bR size (u8 0),())=some (.ex 0 ((L.length:Int),gU size (mE L),())):=by
  intro L size f hf hl bW hA;have:=Y_ (f:=f) (l:=L) (size:=size) (S0:=λ_=>false) (λS i h kr => ?_) (λn ak=>(bW n ak).1) (λx => ?_)
  .simp at this
   rw[<- agM]at this;exact this
  .subst hf
   have hx:=bW L[i] (k6 h);obtain⟨N,fM⟩:∃N:Nat,L[i]=N:=⟨L[i].toNat,J⟩;have mx:=ayt (n:=N) J J;have T9:(gU size S).length=size:=BG;have asl:bt (ao (gU size S) ((N-1)/8) (u8 0)) ((N-1)%8)=false:=by have O:iz (gU size S) N=S N:=Hd J J;unfold iz at O;rw[O,kr,Bool.false_or];unfold mE;rw[<- fM];exact decide_eq_false (hA i h)
   have l6:=ah5 (size:=size) (S:=S) (n:=N) J J (ako (ao (gU size S) ((N-1)/8) (u8 0)) ((N-1)%8) J asl);have wO:((N-1)/8)<(gU size S).length:=J;rw[nth_get wO]at l6;simp only[aE]at l6;simp(disch:=omega) only[go_sem,fM,mx,T9,l6]
  subst hf;simp(disch:=omega) only[go_sem]
 by_cases bw:lN l=true
 .have:=step (l++[1]) 16 _ rfl fK (λn ak=>by
   rcases hG.1 ak with ak|ak
   .have:=hm n ak;omega
   .simp at ak;subst ak;omega) (λi h=>by
   rcases oI i l.length with ac|ac
   .rw[KD ac,F0 J];exact hA 1 l ai i ac
   have:i=l.length:=by simp at h;omega
   subst this;rw[Kz J,Ct];simp;intro ah;have:=hm 1 ah;omega)
  have e:gU 16 (mE (l++[1]))=fB l:=by unfold fB;rw[if_pos bw];refine ag1 λn _ _ => ?_;unfold mE;exact j3.2 (by simp[or_comm])
  rw[e]at this;have this:bK f (0,bR 16 (u8 0),())=some (.ex 0 (((l++[1]).length:Int),fB l,())):=by rw[<- hf];exact this
  simp(disch:=omega) only[go_sem,Int.reduceToNat,We,ai,ro,bw,gL,this]
 have:=step l 8 _ rfl J (λn ak=>by have:=ID ai bw n ak;have:=hm n ak;omega) (hA 1 l ai);have AM:lN l=false:=(xO _).mp bw;have e:gU 8 (mE l)=fB l:=by unfold fB;rw[if_neg bw]
 rw[e]at this;have this:bK g (0,bR 8 (u8 0),())=some (.ex 0 ((l.length:Int),fB l,())):=by rw[<- hg];exact this
 simp(disch:=first|assumption|omega|(dsimp only;omega)|decide) only[go_sem,Int.reduceToNat,We,ai,ro,AM,this]
def zR:=@Nat.ble_eq_true_of_le
def KX:=@Nat.le_of_ble_eq_true
def YH:=@List.pairwise_lt_range
def F1:=@List.Pairwise.filter
def Yf:=@List.map_nil
def Yi:=@List.pairwise_iff_getElem
def YS{c:V}(O:1<=n)(R:n<=128)(af:n<=8*c.length):n2 (c,(n:Int),())=some (iz c n,()):=by have mx:=ayt O R;have bn:(n-1)/8<c.length:=J;refine aS mx (bd (iA bn) ?_);have:=akt (ao c ((n-1)/8) (u8 0)) ((n-1)%8) J;simp only[gx,this];rfl
def ac0{c:V}(O:1<=n)(R:n<=8*k)(af:k<=c.length):iz (c.take k) n=iz c n:=by unfold iz;rw[nth_get (by grind),nth_get J,KB]
def g2(c:V)(k:Nat):List Nat:=(List.range k).filter λn=>Nat.ble 2 n&&iz c n
def avU(c:V)(k:Nat)(h:2<=k):g2 c (k+1)=g2 c k++if iz c k=true then[k]else[]:=by
 unfold g2;rw[zN,Cv];have:Nat.ble 2 k=true:=zR h
 grind
theorem avV(c:V):g2 c 2=[]:=rfl
def YA{c:V}(h:k<=c.length):ii (c.take k)=g2 c (8*k+1):=by
 unfold ii g2;rw[io,F2 h];refine List.filter_congr λn ak => ?_;rw[s8]at ak;by_cases R:2<=n
 .rw[ac0 J J h]
 have:Nat.ble 2 n=false:=(xO _).mp λaa=>R (KX aa)
 grind
def avT(c:V)(k:Nat):(g2 c k).Pairwise (· < ·):=F1 _ YH
def afc{c:V}:n∈g2 c k↔n<k/\2<=n/\iz c n=true:=by unfold g2;rw[xW,s8,cP,P2]
def axD{l:List Nat}(h:l.Pairwise (· < ·))(ak:n∈l)(aq:l.length-1<l.length):n<=l[l.length-1]:=by
 obtain⟨i,ac,rfl⟩:=pp ak;rcases oI i (l.length-1) with bn|oX
 .exact Qn (Yi.1 h i (l.length-1) ac aq bn)
 grind
def avN{l:List Nat}(h:l.Pairwise (· < ·)):(65∈l\/l.length=0\/∃aq:l.length-1<l.length,l[l.length-1]<=65)↔(65∈l\/∀n∈l,n<65):=by
 constructor
 .rintro(O|O|⟨aq,O⟩)
  .grind
  .grind
  by_cases nA:65∈l
  .grind
  right;intro n ak;have:=axD h ak aq
  grind
 rintro(O|O)
 .grind
 by_cases aq:l.length=0
 .omega
 right;right;refine⟨J,?_⟩;have:=O _ (k6 (show l.length-1<l.length by omega));omega
def afb(c:V)(k:Nat):(g2 c k).length<=k:=by
 have:=ls (λn=>Nat.ble 2 n&&iz c n) (List.range k)
 rwa [zZ]at this
def awb(b:V)(a:Int)(hl:b.length<=1000000):MD (b,a,())=some (lW b a):=by
 unfold MD;by_cases bh:a<0\/(b.length:Int)<a
 .unfold lW;rw[if_pos bh];simp(disch:=first|assumption|omega|(dsimp only;omega)|decide) only[go_sem,Int.reduceToNat]
 have aa:lW b a=qf (b.drop a.toNat) a:=by unfold lW;rw[if_neg bh]
 rw[aa];have HL:sub b a (len b)=b.drop a.toNat:=by simp only[sub,len,e7];rw[il (by rw[eU];omega)]
 have e2:(b.drop a.toNat).length=b.length-a.toNat:=eU;simp only[HL];generalize ah:b.drop a.toNat=c at *
 clear aa HL;by_cases cx:c.length<8
 .unfold qf;rw[if_pos (Or.inl cx)];simp(disch:=first|assumption|omega|(dsimp only;omega)|decide) only[go_sem,Int.reduceToNat]
 have O:=YS (c:=c) (n:=1) J J J;replace O:n2 (c,1,())=some (iz c 1,()):=O

 have aeF:∀(size:Nat) (f:List Int×Int×Unit->Option (aF (List Int×Int×Unit) (List Int×Int×Int×Unit))),(λ(Y:List Int×Int×Unit)=>
  T (b3 Y.2.1 (i64 (fv 8 (size:Int)))) (ob (n2 (c,Y.2.1,())) λ(a:Bool×Unit)=>T a.1 (an (ci 32 (bI (aV Y.1) (aV [Y.2.1]))) (some (aF.nx (cg Y.1 [Y.2.1],i64 (aE Y.2.1 1),()))))
   (some (aF.nx (Y.1,i64 (aE Y.2.1 1),())))) (some (aF.ex 0 (Y.1,Y.2.1,()))))=f->1<=size->size<=16->size<=c.length ->
  bK f ([],2,())=some (.ex 0 ((ii (c.take size)).map Int.ofNat,((8*size+1:Nat):Int),())):=by
  intro size f hf AJ ab ato;have step:∀i,i<8*size-1->f ((g2 c (i+2)).map Int.ofNat,((i+2:Nat):Int),())=some (.nx ((g2 c (i+1+2)).map Int.ofNat,((i+1+2:Nat):Int),())):=λi ac=>by
   subst hf;have hh:=YS (c:=c) (n:=i+2) J J J;have auP:=afb c (i+2);have as5:=avU c (i+2) J;rw[show i+1+2=i+2+1 by omega,as5];cases adA:iz c (i+2)
   .rw[adA]at hh
    simp only[FJ,if_false,nU];generalize fM:i+2=N at *
    simp(disch:=omega) only[go_sem,Int.reduceToNat,hh]
   rw[adA]at hh;simp only[if_true,F3,p6,Yf];generalize fM:i+2=N at *
   simp(disch:=omega) only[go_sem,Int.reduceToNat,hh,s9,gL];rfl
  have e:=lh (f:=f) (λi=>((g2 c (i+2)).map Int.ofNat,((i+2:Nat):Int),())) (8*size-1) step 0 J;simp only[lT,avV,Yf]at e;replace e:bK f ([],2,())=_:=e;rw[e,YA ato,show 8*size-1+2=8*size+1 by omega];refine ec ?_;subst hf;simp(disch:=omega) only[go_sem,Int.reduceToNat]
 refine aS (a:=(false,())) (by simp(disch:=omega) only[go_sem,Int.reduceToNat];exact WQ J) ?_;refine a2 rfl ?_;refine bd (by simp(disch:=omega) only[go_sem,Int.reduceToNat];exact⟨J,J⟩) ?_;refine a2 (by simp(disch:=omega) only[go_sem,Int.reduceToNat];omega) ?_;refine aS O ?_;cases bw:iz c 1
 .have e:=aeF 8 _ rfl J J J
  have Hj:qf c a=((ii (c.take 8)).map Int.ofNat,a+8,0,()):=by unfold qf;rw[if_neg (by rw[bw];simp;omega),if_neg (by rw[bw];simp)]
  rw[Hj];refine aS (bT rfl) ?_;refine a2 (by simp(disch:=omega) only[go_sem,Int.reduceToNat];omega) ?_;refine(cW e).trans ?_;simp(disch:=omega) only[go_sem,Int.reduceToNat]
 by_cases oV:c.length<16
 .unfold qf;rw[if_pos (Or.inr ⟨bw,oV⟩)]
  simp(disch:=omega) only[go_sem,Int.reduceToNat]
 have e:=aeF 16 _ rfl J J J;have nA:=YS (c:=c) (n:=65) J J J;replace nA:n2 (c,65,())=some (iz c 65,()):=nA;rw[YA J]at e;have auP:=afb c (8*16+1);have Wy:65∈g2 c (8*16+1)↔iz c 65=true:=⟨λh=>(afc.1 h).2.2,λh=>afc.2 ⟨J,J,h⟩⟩;have Ww:=avN (avT c (8*16+1));have Hj:qf c a=if 65∈g2 c (8*16+1)\/∀n∈g2 c (8*16+1),n<65 then([],0,2,()) else((g2 c (8*16+1)).map Int.ofNat,a+16,0,()):=by unfold qf;rw[if_neg J,if_pos bw,YA J]
 rw[Hj];refine aS (b4 rfl) ?_;refine a2 (by simp(disch:=omega) only[go_sem,Int.reduceToNat];omega) ?_;refine(cW e).trans ?_;generalize g2 c (8*16+1)=l at *
 have aQ:((l.length:Int)-1).toNat=l.length-1:=J;cases Wo:iz c 65
 .rw[Wo]at nA Wy
  have auO:¬65∈l:=λh=>by have:=Wy.1 h;simp at this
  by_cases aq:l.length=0
  .rw[if_pos (Ww.1 (.inr (.inl aq)))]
   simp(disch:=omega) only[go_sem,Int.reduceToNat,nA,s9]
  have bn:l.length-1<l.length:=J;have ak:ao (l.map Int.ofNat) (l.length-1) 0=Int.ofNat l[l.length-1]:=by rw[nth_get (by simpa using bn),nj]
  by_cases cp:l[l.length-1]<=65
  .rw[if_pos (Ww.1 (.inr (.inr ⟨bn,cp⟩)))]
   have as4:Int.ofNat l[l.length-1]<=65:=fK;simp(disch:=omega) only[go_sem,Int.reduceToNat,nA,s9,aQ,ak]
  rw[if_neg λah=>by
   rcases Ww.2 ah with h|h|⟨_,h⟩
   .exact auO h
   .exact aq h
   exact cp h]
  have as4:¬Int.ofNat l[l.length-1]<=65:=fK;simp(disch:=omega) only[go_sem,Int.reduceToNat,nA,s9,aQ,ak]
 rw[if_pos (.inl (Wy.2 Wo))];rw[Wo]at nA;simp(disch:=omega) only[go_sem,Int.reduceToNat,nA]
def apV{k l:Int}(h:e_ no=some (k,l)):2<=no/\no<=128/\no≠65:=by
 unfold e_ at h;rw[lR]at h;have:∀r∈tx,∀c∈r.drop 2,2<=c/\c<=128/\c≠65:=ir
 grind
def wv:fX no v=true↔∃k l,e_ no=some (k,l)/\gY k l v:=by
 unfold fX
 grind
def SC(h:fX no v=true):2<=no/\no<=128/\no≠65:=by obtain⟨k,l,O,_⟩:=wv.1 h;exact apV O
def sP{l:List bZ}:∀{last:Int},f7 last l=true->∀v∈l,last<v.1/\fX v.1 v.2.1=true:=by
 induction l with
 |nil=>intro _ _ v aB;cases aB
 |cons x r ih=>
  intro last h v aB;simp only[f7,cP,decide_eq_true_eq]at h
  grind
def hC(l:List bZ):List Int:=l.map λv=>v.1
def ayH{l:List bZ}:∀{last:Int},1<=last->f7 last l=true->hk last (hC l)=true:=by
 induction l with
 |nil=>intros;rfl
 |cons x r ih =>intro last hl h;simp only[f7,cP,decide_eq_true_eq]at h;have ak:=SC h.2.1;simp only[hC,p6,hk,cP,decide_eq_true_eq];exact⟨⟨h.1,ak.2⟩,ih J h.2.2⟩
def Oe{l:List bZ}(h:f7 0 l=true):hk 1 (hC l)=true:=by
 cases l with
 |nil=>rfl
 |cons x r =>simp only[f7,cP,decide_eq_true_eq]at h;have ak:=SC h.2.1;simp only[hC,p6,hk,cP,decide_eq_true_eq];exact⟨⟨J,ak.2⟩,ayH J h.2.2⟩
def gp(v:bZ):V:=(qY v.1 v.2.1).1
def Kl(h:fX no v=true):qY no v=((qY no v).1,0,())/\(qY no v).1.length<=402/\1<=(qY no v).1.length:=by
 obtain⟨k,l,O,R⟩:=wv.1 h;have e:qY no v=(kG k v,0,()):=by unfold qY;rw[O];simp only[if_pos R]
 have hl:=SP O R;rw[e];exact⟨rfl,aBA (sf O).1 hl.2.2,aBB (sf O).1 hl.1⟩
def sX(m:Int):V:=gA (eK (a_ 10 gi m.toNat 4))
def zv:(sX m).length=2:=by unfold sX;rw[r7,l?]
def fP(m:M):V:=sX m.1++(fB (hC m.2.1)++m.2.1.flatMap gp)
def pA(l:List Int):(fB l).length=if lN l=true then 16 else 8:=by unfold fB;split<;>exact BG
def apQ(l:List bZ):∀dc:List Int,l.foldl (λdc v=>dc++[v.1]) dc=dc++hC l:=by
 induction l with
 |nil=>intro dc;simp[hC]
 |cons v r ih=>intro dc;rw[KI,ih];simp[hC]
def apR(l:List bZ):∀dc:V,l.foldl (λdc v=>dc++gp v) dc=dc++l.flatMap gp:=by
 induction l with
 |nil=>intro dc;simp
 |cons v r ih=>intro dc;rw[KI,ih];simp
def XA(h:hE m):sa (m,4,())=some (a_ 10 gi m.toNat 4,0,())/\uU (a_ 10 gi m.toNat 4,())=some (sX m,0,())/\xj (m,4,())=some (a_ 10 gi m.toNat 4,0,())/\vL (a_ 10 gi m.toNat 4,())=some (sX m,0,()):=by
 unfold hE at h;have e:(10:Int)^(4:Int).toNat=10000:=bO;refine⟨?_,?_,?_,?_⟩
 .rw[GE _ _ J,if_pos ⟨J,J,J,by rw[e];omega⟩];rfl
 .rw[Sb _ (by rw[l?];omega),if_pos Al];rfl
 .rw[Wc _ _ J,if_pos ⟨J,J,J,by rw[e];omega⟩];rfl
 rw[Wb _ (by rw[l?];omega),if_pos Al];rfl
def Uz(m:M)(hm:uZ m):AZ (m,())=some (if hZ m=true then(fP m,0,()) else([],1,())):=by
 unfold AZ;generalize hf:(λ(Y:List Int×Int×Unit)=>_)=f;generalize hg:(λ(Y:V×Int×Unit)=>(_:Option (aF (V×Int×Unit) (V×Int×Unit))))=g;have jq:=auv m hm;have hl:=hm.1;cases ai:hZ m
 .simp only[go_sem,jq,ai]
 have fN:=ai;simp only[hZ,cP,decide_eq_true_eq]at fN;obtain⟨d1,d2, -, -⟩:=XA fN.2;have key:=sB (f:=f) (ρ:=V×Int×Unit) m.2.1 (λ(dc:List Int) i=>(dc,(i:Int),())) 0 (λdc v=>.nx (dc++[v.1])) (λdc i=>dc.length=i) (λb i h dW=>⟨?_,λb' aa => ?_⟩) (λb _ => ?_) [] rfl
 .rw[Mb (g:=λ(dc:List Int) (v:bZ)=>dc++[v.1]) (λ_ _=>rfl),apQ]at key
  have Hj:=alu (hC m.2.1) (by simp[hC];omega);rw[if_pos (Oe fN.1)]at Hj;have tM:=zv (m:=m.1);have dK:(fB (hC m.2.1)).length<=16:=by rw[pA];split<;>omega
  have vm:=sB (f:=g) (ρ:=V×Int×Unit) m.2.1 (λ(dc:V) i=>(dc,(i:Int),())) 2 (λdc v=>.nx (dc++gp v)) (λdc i=>dc.length<=100+402*i) (λb i h dW=>⟨?_,λb' aa => ?_⟩) (λb _ => ?_) (sX m.1++fB (hC m.2.1)) (by rw[dd];omega)
  .rw[Mb (g:=λ(dc:V) (v:bZ)=>dc++gp v) (λ_ _=>rfl),apR,hb]at vm
   replace key:bK f ([],0,())=_:=key;replace vm:bK g (sX m.1++fB (hC m.2.1),0,())=_:=vm;simp(disch:=omega) only[go_sem,jq,ai,d1,d2,key,Hj,vm];rfl
  .subst hg
   have he:=sP fN.1 m.2.1[i] (k6 h);have bw:=Kl he.2;have TP:=hm.ao h;have ro:=apt m.2.1[i].1 m.2.1[i].2.1 TP;rw[bw.1]at ro;have Uh:(gp m.2.1[i]).length<=402:=bw.2.1;change GR _=some (gp m.2.1[i],0,()) at ro;simp(disch:=omega) only[go_sem,ro,kx]
  .cases aa
   have he:=sP fN.1 m.2.1[i] (k6 h);have Uh:(gp m.2.1[i]).length<=402:=(Kl he.2).2.1
   grind
  subst hg;simp(disch:=omega) only[go_sem]
 .subst hf;simp(disch:=omega) only[go_sem,gL,kx]
 .grind
 subst hf;simp(disch:=omega) only[go_sem]
def ayy(h:hE m):N_ (m,())=some (a_ 10 gi m.toNat 4,()):=by unfold N_;obtain⟨-, -,d1, -⟩:=XA h;simp only[go_sem,d1]
def ayx(m:M)(hm:uZ m):EO (m,())=some (if hZ m=true then(fP m,0,()) else([],1,())):=by
 unfold EO;generalize hf:(λ(Y:List Int×V×Int×Unit)=>_)=f;have jq:=ayv m hm;have hl:=hm.1;cases ai:hZ m
 .simp only[go_sem,jq,ai]
 have fN:=ai;simp only[hZ,cP,decide_eq_true_eq]at fN;obtain⟨-, -,d1,d2⟩:=XA fN.2;have key:=sB (f:=f) (ρ:=V×Int×Unit) m.2.1 (λ(dc:List Int×V) i=>(dc.1,dc.2,(i:Int),())) 0 (λdc v=>.nx (dc.1++[v.1],dc.2++gp v)) (λdc i=>dc.1.length=i/\dc.2.length<=402*i) (λb i h dW=>⟨?_,λb' aa => ?_⟩) (λb _ => ?_) ([],[]) ⟨rfl,bp⟩
 .rw[Mb (g:=λ(dc:List Int×V) (v:bZ)=>(dc.1++[v.1],dc.2++gp v)) (λ_ _=>rfl)]at key
  have TG:∀(l:List bZ) (a:List Int) (b:V),l.foldl (λ(dc:List Int×V) v=>(dc.1++[v.1],dc.2++gp v)) (a,b)=(a++hC l,b++l.flatMap gp):=by
   intro l;induction l with
   |nil=>intro a b;simp[hC]
   |cons v r ih=>intro a b;rw[KI,ih];simp[hC]
  rw[TG]at key;have Hj:=ayu (hC m.2.1) (by simp[hC];omega);rw[if_pos (Oe fN.1)]at Hj;have tM:=zv (m:=m.1);have dK:(fB (hC m.2.1)).length<=16:=by rw[pA];split<;>omega
  have rh:(m.2.1.flatMap gp).length<=402*m.2.1.length:=by
   have:∀l:List bZ,(∀v∈l,fX v.1 v.2.1=true)->(l.flatMap gp).length<=402*l.length:=by
    intro l;induction l with
    |nil=>simp
    |cons v r ih=>
     intro h;have O:(gp v).length<=402:=(Kl (h v bp)).2.1
     grind
   exact this _ λv aB=>(sP fN.1 v aB).2
  have au:=ayy fN.2;replace key:bK f ([],[],0,())=_:=key;simp(disch:=omega) only[go_sem,jq,ai,au,d2,key,Hj,dd];rw[hb];rfl
 .subst hf
  have he:=sP fN.1 m.2.1[i] (k6 h);have bw:=Kl he.2;have TP:=hm.ao h;have ro:=ayr m.2.1[i].1 m.2.1[i].2.1 TP;rw[bw.1]at ro;have Uh:(gp m.2.1[i]).length<=402:=bw.2.1;change Jc _=some (gp m.2.1[i],0,()) at ro;simp(disch:=omega) only[go_sem,ro,kx,gL]
 .cases aa
  have he:=sP fN.1 m.2.1[i] (k6 h);have Uh:(gp m.2.1[i]).length<=402:=(Kl he.2).2.1;refine⟨by rw[dd,dW.1];rfl,?_⟩;rw[dd];omega
 subst hf;simp(disch:=omega) only[go_sem]
def mF:M:=(0,[],())
def qL(b:V):List Int->Int->List bZ->Option Int×Int×List bZ
 |[],df,F=>(none,df,F)
 |n::r,df,F=>if(jU n b df).2.2.1=0 then qL b r (jU n b df).2.1 (F++[(n,(jU n b df).1,())]) else(some (jU n b df).2.2.1,df,F)
def Bx(b:V)(s:Int×List bZ)(n:Int):aF (Int×List bZ) (M×Int×Unit):=if(jU n b s.1).2.2.1=0 then .nx ((jU n b s.1).2.1,s.2++[(n,(jU n b s.1).1,())]) else .rt (mF,(jU n b s.1).2.2.1,())
def abX{σ:Type}{mk:Int×List bZ->Nat->σ}{e:Nat}{b:V}:∀(l:List Int) (s:Int×List bZ) (i:Nat),jN mk e (Bx b) s i l=match qL b l s.1 s.2 with|(none,a,F)=>.ex e (mk (a,F) (i+l.length))|(some q,_,_)=>.rt (mF,q,())
 |[],s,i=>rfl
 |n::r,s,i=>by
  unfold qL;by_cases h:(jU n b s.1).2.2.1=0
  .have ab:Bx b s n=.nx ((jU n b s.1).2.1,s.2++[(n,(jU n b s.1).1,())]):=if_pos h
   simp only[jN,ab,if_pos h];rw[abX r _ (i+1)]
   grind
  have ab:Bx b s n=.rt (mF,(jU n b s.1).2.2.1,()):=if_neg h;simp only[jN,ab,if_neg h]
def En(_:Unit)(n:Int):aF Unit (M×Int×Unit):=if(e_ n).isSome=true then .nx () else .rt (mF,2,())
def abW{σ:Type}{mk:Unit->Nat->σ}{e:Nat}:∀(l:List Int) (i:Nat),jN mk e En () i l=if ∀n∈l,(e_ n).isSome=true then .ex e (mk () (i+l.length)) else .rt (mF,2,())
 |[],i=>by simp[jN]
 |n::r,i=>by
  by_cases h:(e_ n).isSome=true
  .have ab:En () n=.nx ():=if_pos h
   simp only[jN,ab,f',forall_eq_or_imp,h,true_and];rw[abW r (i+1)]
   grind
  have ab:En () n=.rt (mF,2,()):=if_neg h;simp only[jN,ab]
  grind
def EK(b:V)(m:Int)(l:List Int)(df:Int):M×Int×Unit:=
 if ∀n∈l,(e_ n).isSome=true then(match qL b l df []with|(none,a,F)=>if a<(b.length:Int) then(mF,4,()) else((m,F,()),0,())|(some q,_,_)=>(mF,q,())) else(mF,2,())
def eO(b:V):M×Int×Unit:=
 if(jm b 0 4).2.2.1≠0 then(mF,(jm b 0 4).2.2.1,()) else if hE (val (jm b 0 4).1:Int) then
  (if(lW b 2).2.2.1≠0 then(mF,(lW b 2).2.2.1,()) else EK b (val (jm b 0 4).1:Int) (lW b 2).1 (lW b 2).2.1) else(mF,2,())
def afD{c:V}:(ii c).length<=8*c.length+1:=by
 have:=ls (λn=>Nat.ble 2 n&&iz c n) (List.range (8*c.length+1))
 rwa [zZ]at this
def alB:(lW b a).1.length<=129:=by
 unfold lW;split
 .simp
 unfold qf;split
 .simp
 split
 .split
  .simp
  have:=afD (c:=(b.drop a.toNat).take 16)
  grind
 have:=afD (c:=(b.drop a.toNat).take 8)
 grind
def ab3{o:Option (Int×Int)}:(iw o).2.1=o.isSome:=by cases o<;>rfl
def ayf{Yw:Int×Unit->Option ((Int×Int×Unit)×Bool×Unit)}(acR:∀n,Yw (n,())=some (iw (e_ n))){Yx:Int×V×Int×Unit->Option (V×Int×Int×Unit)}(acT:∀n a,Yx (n,b,a,())=some (jU n b a))
  {l:List Int} (hl:l.length<=129) {df Ee:Int} {e1:Int} {f:Int×Int×Unit->Option (aF (Int×Int×Unit) (M×Int×Unit))} {g:Int×Int×Int×M×Unit->Option (aF (Int×Int×Int×M×Unit) (M×Int×Unit))}
  (hf:∀x (i:Nat),f (x,(i:Int),())=T (aH (i:Int) (len l)) (an (aN (i:Int) (len l)) (ob (Yw (ao l (ae (i:Int)) 0,())) λa=>T (bg a.2.1) (some (.rt (mF,2,()))) (some (.nx (x,i64 (aE (i:Int) 1),()))))) (some (.ex 0 (x,(i:Int),()))))
  (hg:∀x a (i:Nat) (F:List bZ),g (x,a,(i:Int),(Ee,F,()),())=T (aH (i:Int) (len l)) (an (aN (i:Int) (len l)) (ob (Yx (ao l (ae (i:Int)) 0,b,a,())) λq=>T (bg (aj q.2.2.1 0)) (some (.rt (mF,q.2.2.1,())))
   (an (ci 56 (bI (aV F) 1)) (some (.nx (x,q.2.1,i64 (aE (i:Int) 1),(Ee,cg F [(ao l (ae (i:Int)) 0,q.1,())],()),())))))) (some (.ex 2 (x,a,(i:Int),(Ee,F,()),())))) (rU:Int) :
  cb (bK f (rU,0,())) (λ_=>none) (λi a=>an (bX i 0) (cb (bK g (a.1,df,0,(Ee,[],()),())) (λ_=>none) (λi a=>an (bX i 2) (T (aH a.2.1 (len b)) (some (mF,4,())) (some ((a.2.2.2.1.1,a.2.2.2.1.2.1,a.2.2.2.1.2.2),0,())))) λr=>some r)) (λr=>some r)=some (EK b Ee l df):=by
 have key:=sB (f:=f) l (λ(_:Unit) i=>(rU,(i:Int),())) 0 En (λ_ _=>True) (λ_ i h _=>⟨?_,λ_ _=>trivial⟩) (λ_ _ => ?_) () trivial
 .refine(cW key).trans ?_
  rw[abW];unfold EK;by_cases aK:∀n∈l,(e_ n).isSome=true
  .rw[if_pos aK,if_pos aK]
   have vm:=sB (f:=g) l (λ(s:Int×List bZ) i=>(rU,s.1,(i:Int),(Ee,s.2,()),())) 2 (Bx b) (λs i=>s.2.length<=i) (λs i h dW=>⟨?_,λcy ab => ?_⟩) (λs _ => ?_) (df,[]) (b1 _)
   .refine(cW vm).trans ?_
    rw[abX];rcases qL b l df []with⟨_|q,a,F⟩
    .refine lc_ex'.trans (bd g62 ?_)
     by_cases bh:a<(b.length:Int)
     .simp only[if_pos bh];simp(disch:=omega) only[go_sem]
     simp only[if_neg bh];simp(disch:=omega) only[go_sem]
    rfl
   .rw[hg]
    by_cases aq:(jU l[i] b s.1).2.2.1=0
    .have e4:Bx b s l[i]=.nx ((jU l[i] b s.1).2.1,s.2++[(l[i],(jU l[i] b s.1).1,())]):=if_pos aq
     simp(disch:=omega) only[go_sem,acT,aq,e4,kx]
    have e4:Bx b s l[i]=.rt (mF,(jU l[i] b s.1).2.2.1,()):=if_neg aq;simp(disch:=omega) only[go_sem,acT,aq,e4,kx]
   .unfold Bx at ab
    grind
   rw[hg];simp(disch:=omega) only[go_sem]
  rw[if_neg aK,if_neg aK];rfl
 .rw[hf]
  cases aq:(e_ l[i]).isSome
  .have e4:En () l[i]=.rt (mF,2,()):=if_neg (by rw[aq];simp)
   simp(disch:=omega) only[go_sem,acR,ab3,aq,e4,kx]
  have e4:En () l[i]=.nx ():=if_pos aq;simp(disch:=omega) only[go_sem,acR,ab3,aq,e4,kx]
 rw[hf];simp(disch:=omega) only[go_sem]
def Uy(b:V)(hl:b.length<=1000000):DY (b,())=some (eO b):=by
 refine aS (Sd b 0 4 hl) ?_;unfold eO;rcases BX (b:=b) (I:=0) (N:=4) (nV _) J with⟨_,h⟩|⟨_,h,_⟩|⟨s,au,h,hf,ab,_⟩
 .replace h:jm b 0 4=([],0,3,()):=h
  rw[h];rfl
 .replace h:jm b 0 4=([],0,2,()):=h
  rw[h];rfl
 replace h:jm b 0 4=(s,2,0,()):=h;rw[h];refine aS (Se s) ?_;rw[if_pos ⟨J,J,hf⟩,if_neg bp];refine aS (AY _) ?_;by_cases ht:hE (val s:Int)
 .refine a2 (by rw[cF ht];rfl) ?_
  rw[if_pos ht];by_cases aq:(lW b 2).2.2.1=0
  .refine a2 (by rw[cI aq];rfl) ?_
   rw[if_neg J];exact ayf (e1:=0) GQ (b:=b) (λn a=>aps n b a hl) alB (λ_ _=>rfl) (λ_ _ _ _=>rfl) 0
  refine bm (by rw[cv aq];rfl) ?_;rw[if_pos aq];rfl
 refine bm (by rw[cH ht];rfl) ?_;rw[if_neg ht];rfl
def awj(b:V)(hl:b.length<=1000000):YX (b,())=some (eO b):=by
 unfold eO;rcases BX (b:=b) (I:=0) (N:=4) (nV _) J with⟨R,h⟩|⟨R,h,_⟩|⟨s,au,h,hf,ab,_⟩
 .replace h:jm b 0 4=([],0,3,()):=h
  rw[h];exact(b4 (di (by simp only[len];omega))).trans rfl
 .replace h:jm b 0 4=([],0,2,()):=h
  refine(bT (cR (by simp only[len];omega))).trans ?_;refine(dr (yH b 0 4 hl)).trans ?_;rw[h];rfl
 replace h:jm b 0 4=(s,2,0,()):=h;refine(bT (cR (by simp only[len];omega))).trans ?_;refine(dr (yH b 0 4 hl)).trans ?_;rw[h];refine(dr (afB s J)).trans ?_;rw[if_pos ⟨J,J,hf⟩,if_neg bp];by_cases ht:hE (val s:Int)
 .refine(dr (a:=(false,())) ((bT rfl).trans ((dr (ayw _)).trans (by rw[cF ht];rfl)))).trans ?_
  rw[if_pos ht];refine(dr (awb b 2 hl)).trans ?_;by_cases aq:(lW b 2).2.2.1=0
  .refine(bT (by rw[cI aq];rfl)).trans ?_
   rw[if_neg J];refine ayf (e1:=0) agJ (b:=b) (λn a=>av3 n b a hl) alB (λ_ _=>rfl) (λx a i F => ?_) 0;by_cases ac:i<(lW b 2).1.length
   .have et:aN (i:Int) (len (lW b 2).1)=true:=iA ac
    simp only[et];rfl
   refine(bT (cR (by simp only[len];omega))).trans (bT (cR (by simp only[len];omega))).symm
  refine(b4 (by rw[cv aq];rfl)).trans ?_;rw[if_pos aq];rfl
 refine(dr (a:=(true,())) ((bT rfl).trans ((dr (ayw _)).trans (by rw[cH ht];rfl)))).trans ?_;rw[if_neg ht];rfl
def P6:=@Nat.mul_le_mul
def aaG{α:Type}(c:Nat)(z:α)(x:List (List α)×Unit):Option (List α×Unit):=
 cb (bK (λ(Y:Int×Int×Unit)=>T (aH Y.2.1 (len x.1)) (an (aN Y.2.1 (len x.1)) (T (aH (i64 (aE Y.1 (len (ao x.1 (ae Y.2.1) (aR α))))) 0) none
  (some (aF.nx (i64 (aE Y.1 (len (ao x.1 (ae Y.2.1) (aR α)))),i64 (aE Y.2.1 1),()))))) (some (aF.ex 0 (Y.1,Y.2.1,())))) (0,0,()))
 (λ(a:Int×Int×Unit)=>none)
 (λ(i:Nat) (a:Int×Int×Unit)=>an (bX i 0) (T (aH a.1 0) none (T (aH 0 (i64 (bq a.1 (i64 (bq 0 0))))) (an (b8 0 0 0)
  (an (c3 (b3 0 (i64 (bq a.1 (i64 (bq 0 0))))) (ci c (ae (i64 (bq a.1 (i64 (bq 0 0))))))) (an (b8 0 0 (len (bR (ae (i64 (bq a.1 (i64 (bq 0 0))))) z)))
   (cb (bK (λ(Y:List α×Int×Unit)=>T (aH Y.2.1 (len x.1)) (an (aN Y.2.1 (len x.1)) (an (ci c (bI (aV Y.1) (aV (ao x.1 (ae Y.2.1) (aR α)))))
    (some (aF.nx (cg Y.1 (ao x.1 (ae Y.2.1) (aR α)),i64 (aE Y.2.1 1),()))))) (some (aF.ex 2 (Y.1,Y.2.1,())))) (cut (bR (ae (i64 (bq a.1 (i64 (bq 0 0))))) z) (ae 0) (cc (ae 0) (ae 0)),0,()))
    (λ(a:List α×Int×Unit)=>none) (λ(i:Nat) (a:List α×Int×Unit)=>an (bX i 2) (some (a.1,()))) λ(r:List α×Unit)=>some r))))
  (cb (bK (λ(Y:List α×Int×Unit)=>T (aH Y.2.1 (len x.1)) (an (aN Y.2.1 (len x.1)) (an (ci c (bI (aV Y.1) (aV (ao x.1 (ae Y.2.1) (aR α)))))
   (some (aF.nx (cg Y.1 (ao x.1 (ae Y.2.1) (aR α)),i64 (aE Y.2.1 1),()))))) (some (aF.ex 2 (Y.1,Y.2.1,())))) (aR α,0,()))
   (λ(a:List α×Int×Unit)=>none) (λ(i:Nat) (a:List α×Int×Unit)=>an (bX i 2) (some (a.1,()))) λ(r:List α×Unit)=>some r))))
 λ(r:List α×Unit)=>some r
def SI{α β σ ρ:Type}{mk:β->Nat->σ}{e:Nat}{step:β->α->aF β ρ}{g:β->α->β}(h:∀b x,step b x=.nx (g b x)):∀(l:List α) (b:β) (i:Nat),jN mk e step b i l=.ex e (mk (l.foldl g b) (i+l.length))
 |[],b,i=>rfl
 |x::r,b,i=>by
  simp only[jN,h,gL];rw[SI h r (g b x) (i+1)]
  grind
def apP(iC:List (List α)):∀a:Int,iC.foldl (λs x=>s+(x.length:Int)) a=a+(iC.flatten.length:Int):=by
 induction iC with
 |nil=>intro a;simp
 |cons x r ih=>intro a;rw[KI,ih];simp;omega
def apO(iC:List (List α)):∀a:List α,iC.foldl (λs x=>s++x) a=a++iC.flatten:=by
 induction iC with
 |nil=>intro a;simp
 |cons x r ih=>intro a;rw[KI,ih];simp
def aaH{z:α}(ah:c<=100000)(iC:List (List α))(hl:iC.length<=100)(hx:∀x∈iC,x.length<=1000000):aaG c z (iC,())=some (iC.flatten,()):=by
 unfold aaG;generalize hf:(λ(Y:Int×Int×Unit)=>_)=f;generalize hg:(λ(Y:List α×Int×Unit)=>(_:Option (aF (List α×Int×Unit) (List α×Unit))))=g;have l4:∀n:Nat,n<=100000000->n*c<=140737488355328:=λn ak=>hH (P6 ak ah) J;have cm:iC.flatten.length<=100000000:=by
  have:∀iC:List (List α),(∀x∈iC,x.length<=1000000)->iC.flatten.length<=1000000*iC.length:=by
   intro iC;induction iC with
   |nil=>simp
   |cons x r ih=>
    grind
  grind
 have key:=sB (f:=f) (ρ:=List α×Unit) iC (λ(s:Int) i=>(s,(i:Int),())) 0 (λs x=>.nx (s+(x.length:Int))) (λs i=>0<=s/\s<=1000000*i) (λs i h dW=>⟨?_,λb' aa => ?_⟩) (λs _ => ?_) 0 bp
 .rw[SI (g:=λ(s:Int) (x:List α)=>s+(x.length:Int)) (λ_ _=>rfl),apP,Int.zero_add]at key
  have vm:=sB (f:=g) (ρ:=List α×Unit) iC (λ(s:List α) i=>(s,(i:Int),())) 2 (λs x=>.nx (s++x)) (λs i=>s.length<=1000000*i) (λs i h dW=>⟨?_,λb' aa => ?_⟩) (λs _ => ?_) [] bp
  .rw[SI (g:=λ(s:List α) (x:List α)=>s++x) (λ_ _=>rfl),apO,p4]at vm
   refine(cW key).trans (lc_ex'.trans (bd g62 (a2 rfl ?_)));by_cases aq:0<iC.flatten.length
   .refine bm (by simp(disch:=omega) only[go_sem];omega) (bd (by simp only[go_sem];decide) ?_)
    have rm:∀(n:Nat) (a:α),(bR n a).length=n:=λn a=>by simp[bR]
    have hm:=l4 _ cm;refine bd (by simp(disch:=omega) only[go_sem];exact⟨J,hm⟩) (bd (by simp only[go_sem];exact⟨J,J,J⟩) ?_);refine(cW vm).trans ?_;rfl
   refine a2 (by simp(disch:=omega) only[go_sem];omega) ((cW vm).trans ?_);rfl
  .subst hg
   have R:=hx iC[i] (k6 h);have hm:=l4 (s.length+(iC[i]).length) J;simp(disch:=omega) only[go_sem,kx]
  .grind
  subst hg;simp(disch:=omega) only[go_sem]
 .subst hf
  have R:=hx iC[i] (k6 h);simp(disch:=omega) only[go_sem,kx]
 .cases aa
  have R:=hx iC[i] (k6 h);omega
 subst hf;simp(disch:=first|assumption|omega|(dsimp only;omega)|decide) only[go_sem,Int.reduceToNat]
def uH:=@List.filter_cons_of_neg
def P':=@List.filter_cons_of_pos
def ajP(iC:List (List bZ))(hl:iC.length<=100)(hx:∀x∈iC,x.length<=1000000):O0 (iC,())=some (iC.flatten,()):=
 (rfl).trans (aaH J iC hl hx)
def gF(no:Int):List bZ->Nat
 |[]=>0
 |v::r=>if no<=v.1 then 0 else gF no r+1
def ku(no:Int):List bZ->Bool
 |[]=>false
 |v::r=>if no<=v.1 then decide (v.1=no) else ku no r
def SA(no:Int):∀l:List bZ,gF no l<=l.length
 |[]=>b1 _
 |v::r=>by
  unfold gF;split
  .omega
  have:=SA no r;simp;omega
def Mt{no:Int}:∀{l:List bZ},ku no l=true->∃h:gF no l<l.length,(l[gF no l]).1=no
 |v::r,h=>by
  unfold ku at h;by_cases ah:no<=v.1
  .rw[if_pos ah]at h
   have:gF no (v::r)=0:=by unfold gF;rw[if_pos ah]
   grind
  rw[if_neg ah]at h;obtain⟨O,R⟩:=Mt h;have:gF no (v::r)=gF no r+1:=by conv=>{ lhs;unfold gF };rw[if_neg ah]
  grind
def abN(l:List bZ)(no:Int)(hl:l.length<=1000000):H6 ((l,1,()),no,())=some ((gF no l:Int),ku no l,()):=by
 unfold H6;generalize hf:(λ(Y:Int×Bool×Int×Unit)=>_)=f;have key:∀(r:List bZ) (i:Nat),l.drop i=r->i<=l.length->bK f (0,false,(i:Int),())=if i+gF no r<l.length then some (.rt (((i+gF no r:Nat):Int),ku no r,())) else some (.ex 0 (0,false,(l.length:Int),())):=by
  intro r;induction r with
  |nil =>intro i ai ac;have vb:=congrArg List.length ai;rw[eU,j4]at vb;have:i=l.length:=J;subst this;rw[if_neg (by simp[gF])];refine ec ?_;subst hf;simp(disch:=omega) only[go_sem]
  |cons v r ih=>
   intro i ai ac;have vb:=congrArg List.length ai;rw[eU,gL]at vb;have bn:i<l.length:=J;rw[h3 bn]at ai;obtain⟨aB,fN⟩:=xX ai;have hp:M5 (v,())=some (v.1,()):=rfl;by_cases ah:no<=v.1
   .have aq:gF no (v::r)=0:=by unfold gF;rw[if_pos ah]
    have O:ku no (v::r)=D (v.1=no):=by unfold ku;rw[if_pos ah];exact g51
    rw[aq,O,if_pos J];refine o2 ?_;subst hf;simp(disch:=omega) only[go_sem,aB,hp,Int.add_zero]
   have aq:gF no (v::r)=gF no r+1:=by conv=>{ lhs;unfold gF };rw[if_neg ah]
   have O:ku no (v::r)=ku no r:=by conv=>{ lhs;unfold ku };rw[if_neg ah]
   rw[aq,O];refine(ev (y:=(0,false,((i+1:Nat):Int),())) ?_).trans ((ih (i+1) fN bn).trans ?_)
   .subst hf;simp(disch:=omega) only[go_sem,aB,hp]
   rw[show i+1+gF no r=i+(gF no r+1) by omega]
 have yM:=key l 0 rfl (nV _);rw[lT]at yM;refine(cW yM).trans ?_;by_cases bn:gF no l<l.length
 .rw[if_pos bn];rfl
 rw[if_neg bn];have aC:=SA no l;have:gF no l=l.length:=J;have ak:ku no l=false:=(xO _).mp λh=>bn (Mt h).1;rw[this,ak];rfl
def getD(l:List bZ)(no:Int):V×Bool×Unit:=if ku no l=true then((ao l (gF no l) (0,[],())).2.1,true,()) else([],false,())
def Ux(m:M)(no:Int)(hl:m.2.1.length<=1000000):rq (m,no,())=some (getD m.2.1 no):=by
 unfold rq;refine aS (show M4 (m,())=some ((m.2.1,1,()),()) from rfl) ?_;refine aS (abN m.2.1 no hl) ?_;unfold getD;cases h:ku no m.2.1
 .rfl
 obtain⟨O,R⟩:=Mt h;exact a2 rfl (bd (iA O) rfl)
def zC(l:List bZ)(x:bZ):List bZ:=l.take (gF x.1 l)++(x::l.drop (if ku x.1 l=true then gF x.1 l+1 else gF x.1 l))
def aCM{l:List α}:sub l 0 (n:Int)=l.take n:=by simp[sub]
def aiL{l:List α}:sub l (n:Int) (len l)=l.drop n:=by simp only[sub,len,e7];rw[il bp]
def aBu(l:List bZ)(x:bZ)(hl:l.length<=100000):UA ((l,1,()),x,())=some (zC l x,()):=by
 refine bd g62 (aS (rfl) (aS (abN l x.1 J) ?_));have bW:=SA x.1 l;have ah:∀n:Nat,O0 ([l.take (gF x.1 l),[x],l.drop n],())=some (l.take (gF x.1 l)++(x::l.drop n),()):=λn=>by
  rw[ajP _ bp (λy hy=>by
   simp at hy;rcases hy with rfl|rfl|rfl
   .grind
   .simp
   rw[eU];omega)]
  simp
 unfold zC;cases h:ku x.1 l
 .refine aS (bT rfl) ?_
  refine bd cS (bd cS ?_);simp only[ aiL];exact aS (ah _) rfl
 obtain⟨O,R⟩:=Mt h;have e:i64 (aE (gF x.1 l:Int) 1)=((gF x.1 l+1:Nat):Int):=lf (b:=1) J;simp only[e];refine bd cS (bd cS ?_);simp only[ aiL];exact aS (ah _) rfl
def E1(m:M)(no:Int)(v:V):M×Int×Unit:=if e_ no=none then(m,12,()) else if fX no v=true then((m.1,zC m.2.1 (no,v,()),()),0,()) else(m,1,())
def M3(m:M)(no:Int)(v:V)(hl:m.2.1.length<=100000)(aB:v.length<=1000000):kw (m,no,v,())=some (E1 m no v):=by
 unfold kw E1;refine aS (GQ no) ?_;cases aK:e_ no with
 |none=>rfl
 |some p=>
  refine a2 rfl (aS (L7 no v aB) ?_);cases hf:fX no v
  .rfl
  exact a2 rfl (aS (rfl) (aS (aBu m.2.1 (no,v,()) hl) rfl))
def ia(no:Int):List bZ->V×Bool×Unit
 |[]=>([],false,())
 |v::r=>if v.1=no then(v.2.1,true,()) else ia no r
def rx(no:Int)(_:Unit)(v:bZ):aF Unit (V×Bool×Unit):=if v.1=no then .rt (v.2.1,true,()) else .nx ()
def acI{σ:Type}{mk:Unit->Nat->σ}{e:Nat}{no:Int}:∀(l:List bZ) (i:Nat),∃j,jN mk e (rx no) () i l=if(ia no l).2.1=true then .rt (ia no l) else .ex e (mk () j)
 |[],i=>⟨i,rfl⟩
 |v::r,i=>by
  by_cases h:v.1=no
  .have ab:rx no () v=.rt (v.2.1,true,()):=if_pos h
   have hg:ia no (v::r)=(v.2.1,true,()):=by unfold ia;rw[if_pos h]
   exact⟨0,by simp only[jN,ab,hg,if_pos]⟩
  have ab:rx no () v=.nx ():=if_neg h;have hg:ia no (v::r)=ia no r:=by conv=>{ lhs;unfold ia };rw[if_neg h]
  obtain⟨j,ap⟩:=acI (mk:=mk) (e:=e) (no:=no) r (i+1);exact⟨j,by simp only[jN,ab,hg];exact ap⟩
def aqj{no:Int}:∀{l:List bZ},(ia no l).2.1=false->ia no l=([],false,())
 |[],_=>rfl
 |v::r,h=>by
  unfold ia at h ⊢;split
  .grind
  rename_i ah;rw[if_neg ah]at h;exact aqj h
def awi(m:M)(no:Int)(hl:m.2.1.length<=1000000):Np (m,no,())=some (ia no m.2.1):=by
 unfold Np;generalize hf:(λ(Y:Bool×Int×Unit)=>_)=f;have key:=sB (f:=f) m.2.1 (λ(_:Unit) i=>(false,(i:Int),())) 0 (rx no) (λ_ _=>True) (λ_ i h _=>⟨?_,λ_ _=>trivial⟩) (λ_ _ => ?_) () trivial
 .refine(cW key).trans ?_
  obtain⟨j,ap⟩:=acI (mk:=λ_ i=>((false,(i:Int),()):Bool×Int×Unit)) (e:=0) (no:=no) m.2.1 0;rw[ap];cases h:(ia no m.2.1).2.1
  .rw[aqj h];rfl
  rfl
 .subst hf
  by_cases O:(m.2.1[i]).1=no
  .have ab:rx no () m.2.1[i]=.rt (m.2.1[i].2.1,true,()):=if_pos O
   simp(disch:=omega) only[go_sem,Int.reduceToNat,ab,kx]
  have ab:rx no () m.2.1[i]=.nx ():=if_neg O;simp(disch:=omega) only[go_sem,Int.reduceToNat,ab,kx]
 subst hf;simp(disch:=omega) only[go_sem,Int.reduceToNat]
def aqs(p:bZ->Bool)(l:List bZ):∀a:List bZ,l.foldl (λs v=>if p v=true then s++[v]else s) a=a++l.filter p:=by
 induction l with
 |nil=>intro a;simp
 |cons v r ih=>
  intro a;rw[KI,ih];by_cases h:p v=true
  .rw[if_pos h,P' h];simp
  rw[if_neg h,uH h]
def aet{ρ:Type}{f:List bZ×Int×Unit->Option (aF (List bZ×Int×Unit) ρ)}{l:List bZ}{e:Nat}(p:bZ->Bool)(hl:l.length<=100000)(a:List bZ)(bh:a.length<=100000)
  (hf:∀(s:List bZ) (i:Nat) (h:i<l.length),s.length<=200000->f (s,(i:Int),())=some (.nx (if p l[i]=true then s++[l[i]]else s,((i+1:Nat):Int),()))) (aC:∀s,f (s,(l.length:Int),())=some (.ex e (s,(l.length:Int),()))) :
  bK f (a,0,())=some (.ex e (a++l.filter p,(l.length:Int),())):=by
 have key:=sB (f:=f) l (λ(s:List bZ) i=>(s,(i:Int),())) e (λs v=>.nx (if p v=true then s++[v]else s)) (λs i=>s.length<=100000+i) (λs i h dW=>⟨hf s i h J,λb' aa => ?_⟩) (λs _=>aC s) a J
 .rw[SI (g:=λ(s:List bZ) (v:bZ)=>if p v=true then s++[v]else s) (λ_ _=>rfl),aqs,lT]at key
  exact key
 grind
def xp(l:List bZ)(x:bZ):List bZ:=l.filter (λv=>decide (v.1<x.1))++(x::l.filter (λv=>decide (x.1<v.1)))
def aaM(m:M)(no:Int)(v:V):M×Int×Unit:=if e_ no=none then(m,12,()) else if fX no v=true then((m.1,xp m.2.1 (no,v,()),()),0,()) else(m,1,())
def aws(m:M)(no:Int)(v:V)(hl:m.2.1.length<=90000)(aB:v.length<=1000000):BH (m,no,v,())=some (aaM m no v):=by
 unfold BH aaM;generalize hf:(λ(Y:List bZ×Int×Unit)=>(_:Option (aF (List bZ×Int×Unit) (M×Int×Unit))))=f;generalize hg:(λ(Y:List bZ×Int×Unit)=>(_:Option (aF (List bZ×Int×Unit) (M×Int×Unit))))=g;refine aS (agJ no) ?_;cases aK:e_ no with
 |none=>rfl
 |some p=>
  refine a2 rfl (aS (ayq no v aB) ?_);cases asf:fX no v
  .rfl
  have rh:(m.2.1.filter (λu=>decide (u.1<no))).length<=m.2.1.length:=ls _ _;have key:=aet (f:=f) (e:=0) (λu=>decide (u.1<no)) J [] bp (λs i h ab => ?_) (λs => ?_) (l:=m.2.1)
  .have vm:=aet (f:=g) (e:=2) (λu=>decide (no<u.1)) J (m.2.1.filter (λu=>decide (u.1<no))++[(no,v,())]) (by grind) (λs i h ab => ?_) (λs => ?_) (l:=m.2.1)
   .refine(cW key).trans (lc_ex'.trans (bd g62 (bd (mJ (by simp only[bI,aV,dd,gL,j4];omega)) ((cW vm).trans ?_))))
    simp only[go_sem,xp];simp
   .subst hg
    by_cases O:no<(m.2.1[i]).1
    .simp(disch:=omega) only[go_sem,O,gL]
    simp(disch:=omega) only[go_sem,O]
   subst hg;simp(disch:=omega) only[go_sem]
  .subst hf
   by_cases O:(m.2.1[i]).1<no
   .simp(disch:=omega) only[go_sem,O,gL]
   simp(disch:=omega) only[go_sem,O]
  subst hf;simp(disch:=omega) only[go_sem]
def dm(n:Int)(w:Nat):V:=a_ 10 gi n.toNat w
def n9{n:Int}:(dm n w).length=w:=l? _ _ _ _
def Sa{n:Int}:g5 (dm n w):=Al
def aoC{n:Int}(aq:0<=n)(h:n<10^w):(val (dm n w):Int)=n:=by unfold dm;rw[XH,s? (by grind)];omega
def IF{n:Int}(O:1<=w)(R:w<=18)(aq:0<=n)(h:n<10^w)(Dw:n<=9223372036854775807):rC (n,(w:Int),())=some (dm n w,()):=by unfold rC;rw[GE _ _ Dw,if_pos ⟨show(1:Int)<=(w:Int) by omega,show(w:Int)<=18 by omega,aq,by simpa using h⟩];show an (ci 1 (aV (dm n w))) _=_;simp(disch:=omega) only[go_sem,n9];rfl
def jk(n:N):M:=
 if n.1=false then(810,[(11,dm n.2.2.1 6,()),(39,dm n.2.2.2.1 2,()),(70,dm n.2.1 3,())],())
 else if n.2.1=101 then(800,[(11,dm n.2.2.1 6,()),(48,gm n.2.2.2.2.2.2.1,()),(53,dm n.2.2.2.2.1 16,()),(70,dm n.2.1 3,()),(96,n.2.2.2.2.2.1,())],())
 else if n.2.1=201 then(800,[(11,dm n.2.2.1 6,()),(15,dm n.2.2.2.2.2.2.2.1 6,()),(70,dm n.2.1 3,())],())
 else(800,[(11,dm n.2.2.1 6,()),(70,dm n.2.1 3,())],())
def tu{k:Int}(h:e_ no=some (k,(w:Int)))(bw:1<=w){n:Int}:fX no (dm n w)=true:=by
 unfold fX;rw[h];refine decide_eq_true ⟨⟨λ_=>Sa,λ_=>Dg Sa⟩,?_⟩;unfold j_;rw[n9]
 grind
def Dj:e_ 11=some (1,6):=bO
def SG:e_ 15=some (1,6):=bO
def Ma:e_ 39=some (3,2):=bO
def apM:e_ 48=some (5,400):=bO
def abV:e_ 53=some (1,16):=bO
def SH:e_ 70=some (1,3):=bO
def apN:e_ 96=some (6,8):=bO
def abS(h:v.length=8):fX 96 v=true:=by
 unfold fX;rw[apN];refine decide_eq_true ⟨⟨λh=>J,λh=>J⟩,?_⟩;unfold j_
 grind
def awh{t:Int}{l:List bZ}(hl:l.length<=100)(aB:v.length<=1000)(hf:fX no v=true):kw ((t,l,()),no,v,())=some ((t,zC l (no,v,()),()),0,()):=by
 rw[M3 (t,l,()) no v (show l.length<=100000 by omega) J];obtain⟨k,m,am,_⟩:=wv.1 hf;unfold E1
 grind
def afn:∀k:Nat,k<16->32<=(ou k).toNat/\(ou k).toNat<=126:=bO
def asa{c:UInt8}(h:c∈gm b):32<=c.toNat/\c.toNat<=126:=by
 obtain⟨x,_,ah⟩:=xM.1 h;have hx:=x.toNat_lt;simp at ah;rcases ah with rfl|rfl
 .exact afn _ J
 exact afn _ J
def asb:o? 32 126 (gm b):=by intro i h;have:=asa (k6 h);rw[Iz];omega
def abR(h:b.length=3):fX 48 (gm b)=true:=by unfold fX;rw[apM];refine decide_eq_true ⟨⟨λh=>J,λ_=>asb⟩,?_⟩;rw[sp,h];decide
def BN{t:Int}{l hi:List bZ}(hl:l.length<=100)(aB:v.length<=1000)(hf:fX no v=true)(bw:zC l (no,v,())=hi):kw ((t,l,()),no,v,())=some ((t,hi,()),0,()):=by rw[<- bw];exact awh hl aB hf
def afz{n:N}(ai:i2 n):El (n,())=some (jk n,()):=by
 obtain⟨kD,c,bS,rs,g,no,k,d,⟨⟩⟩:=n;have fN:=vM.1 ai;obtain⟨ah,bz,ay,eY,gT,t1,am⟩:=fN;have oe:0<=c/\c<=301:=by unfold qA at ah;omega
 have LJ:rC (bS,6,())=some (dm bS 6,()):=IF (n:=bS) (w:=6) J J J J J;have LM:rC (c,3,())=some (dm c 3,()):=IF (n:=c) (w:=3) J J J J J;have LK:rC (rs,2,())=some (dm rs 2,()):=IF (n:=rs) (w:=2) J J J J J;have f11:=λn=>tu (no:=11) (w:=6) (n:=n) Dj J;have f15:=λn=>tu (no:=15) (w:=6) (n:=n) SG J;have f39:=λn=>tu (no:=39) (w:=2) (n:=n) Ma J;have f53:=λn=>tu (no:=53) (w:=16) (n:=n) abV J;have f70:=λn=>tu (no:=70) (w:=3) (n:=n) SH J;have len:∀{n:Int} {w:Nat},w<=20->(dm n w).length<=1000:=λh=>by rw[n9];omega
 have eA:kw ((810,([]:List bZ),()),11,dm bS 6,())=some ((810,[(11,dm bS 6,())],()),0,()):=BN (l:=[]) bO (len J) (f11 bS) rfl;have e?:kw ((810,[(11,dm bS 6,())],()),70,dm c 3,())=some ((810,[(11,dm bS 6,()),(70,dm c 3,())],()),0,()):=BN bp (len J) (f70 c) rfl;unfold El;cases kD
 .have t3:kw ((810,[(11,dm bS 6,()),(70,dm c 3,())],()),39,dm rs 2,())=some ((810,[(11,dm bS 6,()),(39,dm rs 2,()),(70,dm c 3,())],()),0,()):=BN bp (len J) (f39 rs) rfl
  simp only[go_sem,LJ,LM,LK,eA,e?,t3];rfl
 by_cases O:c=101
 .subst O
  obtain⟨g1,cD,ak,AC,aJ⟩:=am;have aoL:rC (g,16,())=some (dm g 16,()):=IF (n:=g) (w:=16) J J J J J;have ex:=aa3 k J;have DT:(gm k).length=6:=by rw[sp,AC]
  have t3:kw ((800,[(11,dm bS 6,()),(70,dm 101 3,())],()),48,gm k,())=some ((800,[(11,dm bS 6,()),(48,gm k,()),(70,dm 101 3,())],()),0,()):=BN bp J (abR AC) rfl;have t4:kw ((800,[(11,dm bS 6,()),(48,gm k,()),(70,dm 101 3,())],()),53,dm g 16,())=some ((800,[(11,dm bS 6,()),(48,gm k,()),(53,dm g 16,()),(70,dm 101 3,())],()),0,()):=BN bp (len J) (f53 g) rfl;have t5:kw ((800,[(11,dm bS 6,()),(48,gm k,()),(53,dm g 16,()),(70,dm 101 3,())],()),96,no,())=some ((800,[(11,dm bS 6,()),(48,gm k,()),(53,dm g 16,()),(70,dm 101 3,()),(96,no,())],()),0,()):=BN bp J (abS ak) rfl;simp(disch:=omega) only[go_sem,LJ,LM,LK,aoL,ex,eA,e?,t3,t4,t5,DT];rfl
 by_cases R:c=201
 .subst R
  rw[if_neg J,if_pos ⟨rfl,rfl⟩]at am;have Sg:rC (d,6,())=some (dm d 6,()):=IF (n:=d) (w:=6) J J J J J;have t3:kw ((800,[(11,dm bS 6,()),(70,dm 201 3,())],()),15,dm d 6,())=some ((800,[(11,dm bS 6,()),(15,dm d 6,()),(70,dm 201 3,())],()),0,()):=BN bp (len J) (f15 d) rfl;simp(disch:=omega) only[go_sem,LJ,LM,LK,Sg,eA,e?,t3];rfl
 simp only[go_sem,LJ,LM,LK,eA,e?,O,R,cH O,cH R];show _=some (if true=false then _ else if c=101 then _ else if c=201 then _ else _,())
 grind
def xS:=@List.flatMap_cons
def aiw:∀{a b:List Int},a.Pairwise (· < ·)->b.Pairwise (· < ·)->(∀n,n∈a↔n∈b)->a=b
 |[],[],_,_,_=>rfl
 |[],y::b,_,_,h=>by have:=(h y).2 bp;cases this
 |x::a,[],_,_,h=>by have:=(h x).1 bp;cases this
 |x::a,y::b,bh,aa,h=>by
  rw[CG]at bh aa;have atP:x=y:=by
   have O:=(h x).1 bp;have R:=(h y).2 bp
   grind
  subst atP;rw[aiw bh.2 aa.2 λn => ?_]
  grind
def agU:∀{last:Int},hk last l=true->l.Pairwise (· < ·):=by
 induction l with
 |nil=>intros;exact List.Pairwise.nil
 |cons x r ih =>intro last h;simp only[hk,cP]at h;exact CG.2 ⟨λy hy=>(xm h.2 y hy).1,ih h.2⟩
def ayN:∀{last:Int},l.Pairwise (· < ·)->(∀n∈l,last<n/\n<=128/\n≠65)->hk last l=true:=by
 induction l with
 |nil=>intros;rfl
 |cons x r ih =>intro last hp h;rw[CG]at hp;simp only[hk,cP,decide_eq_true_eq];refine⟨h x bp,ih hp.2 λn ak=>⟨hp.1 n ak,(h n (by grind)).2⟩⟩
def afE(c:V):((ii c).map Int.ofNat).Pairwise (· < ·):=by rw[List.pairwise_map];refine List.Pairwise.imp ?_ (F1 _ YH);simp
def Be{c:V}:n∈ii c↔n<=8*c.length/\2<=n/\iz c n=true:=by
 unfold ii;rw[xW,s8,cP];constructor
 .rintro⟨O,R,af⟩;exact⟨J,KX R,af⟩
 rintro⟨O,R,af⟩;exact⟨J,zR R,af⟩
def Lg(h:hk 1 l=true)(O:1<=n)(R:n<=8*(fB l).length):iz (fB l) n=(decide ((n:Int)∈l)||(Nat.beq n 1&&lN l)):=by
 rw[pA]at R;unfold fB;cases bw:lN l
 .rw[bw]at R
  rw[if_neg bp]at R ⊢;rw[Hd O R,Bool.and_false,KC];rfl
 rw[bw]at R;rw[if_pos rfl]at R ⊢;rw[Hd O R];unfold mE;refine j3.2 ?_;simp
 grind
def awm(h:hk 1 l=true):(ii (fB l)).map Int.ofNat=l:=by
 refine aiw (afE _) (agU h) λn => ?_;rw[zV];have hm:=xm h;constructor
 .rintro⟨k,am,rfl⟩
  obtain⟨O,R,af⟩:=Be.1 am;rw[Lg h J O]at af;have:Nat.beq k 1=false:=(xO _).mp λaa=>by have:=fU aa;omega
  grind
 intro ak;have aa:=hm n ak;refine⟨n.toNat,Be.2 ⟨?_,J,?_⟩,fK⟩
 .rw[pA]
  split
  .omega
  rename_i bw;have:=ID h bw n ak;omega
 rw[Lg h J (by
  rw[pA];split
  .omega
  rename_i bw;have:=ID h bw n ak;omega)]
 grind
def Q5(l:List Int):8<=(fB l).length/\(fB l).length<=16:=by rw[pA];split<;>omega
def alC(h:hk 1 l=true):iz (fB l) 1=lN l:=by
 rw[Lg h J (by have:=Q5 l;omega)];have:decide (((1:Nat):Int)∈l)=false:=decide_eq_false λah=>by have:=(xm h _ ah).1;omega
 rw[this];rfl
def ajq(h:hk 1 l=true):lN l=true↔∃n∈l,64<n:=by
 constructor
 .intro bw
  unfold lN at bw;rw[cP,decide_eq_true_eq,decide_eq_true_eq]at bw;exact⟨_,by rw[nth_get J];exact k6 _,bw.2⟩
 rintro⟨n,ak,O⟩;refine iQ λbw => ?_;have:=ID h bw n ak;omega
def aly{c:V}(h:hk 1 l=true)(ah:c=fB l++q):qf c a=(l,a+((fB l).length:Int),0,()):=by
 have cx:=Q5 l;have e2:c.length=(fB l).length+q.length:=by rw[ah,dd]
 have ht:c.take (fB l).length=fB l:=by rw[ah,Ct]
 have O:iz c 1=lN l:=by rw[<- alC h,<- ht];exact(ac0 J J J).symm
 have ak:=awm h;have dK:=pA l;unfold qf;rw[O];cases bw:lN l
 .grind
 rw[bw,if_pos rfl]at dK;rw[dK]at ht e2 ⊢;rw[if_neg J,if_pos rfl,ht,ak,if_neg]
 .rfl
 rintro(arD|hall)
 .have:((65:Nat):Int)∈l:=by rw[<- ak];exact zV.2 ⟨65,arD,rfl⟩
  have:=(xm h _ this).2.2;omega
 obtain⟨n,qt,wN⟩:=(ajq h).1 bw
 grind
def alA(h:hk 1 l=true)(dx:A<=b.length)(aa:b.drop A=fB l++q):lW b A=(l,((A+(fB l).length:Nat):Int),0,()):=by unfold lW;rw[if_neg J,e7,aly h aa,Int.natCast_add]
def alz{c:V}{a':Int}(h:qf c a=(l,a',0,())):hk 1 l=true/\a'=a+((fB l).length:Int)/\(fB l).length<=c.length/\c=fB l++c.drop (fB l).length:=by
 unfold qf at h;by_cases aq:c.length<8\/(iz c 1=true/\c.length<16)
 .grind
 rw[if_neg aq]at h;have Nh:∀size:Nat,size=8\/size=16->size<=c.length->(iz c 1=true↔size=16)->l=(ii (c.take size)).map Int.ofNat->(size=16->¬(65∈ii (c.take 16)\/∀n∈ii (c.take 16),n<65))->hk 1 l=true/\fB l=c.take size:=by
  intro size ab ato O hl nA;have tM:(c.take size).length=size:=by rw[io];omega
  have ai:hk 1 l=true:=by
   rw[hl];refine ayN (afE _) λn ak => ?_;obtain⟨k,am,rfl⟩:=zV.1 ak;obtain⟨bF,b2,dy⟩:=Be.1 am
   grind
  have bw:lN l=true↔size=16:=by
   rw[ajq ai,hl];constructor
   .rintro⟨n,ak,O⟩
    obtain⟨k,am,rfl⟩:=zV.1 ak;obtain⟨bF,_⟩:=Be.1 am
    grind
   intro oV;subst oV;refine iQ λah=>nA rfl (.inr λn ak=>iQ λbn=>ah ⟨(n:Int),zV.2 ⟨n,ak,rfl⟩,J⟩)
  refine⟨ai,?_⟩;have dK:(fB l).length=size:=by
   rw[pA]
   grind
  refine ag4 (by rw[dK,tM]) λn me jC => ?_;rw[Lg ai me jC];rw[hl];by_cases qt:n=1
  .subst qt
   have aJ:decide (((1:Nat):Int)∈(ii (c.take size)).map Int.ofNat)=false:=decide_eq_false λah=>by
    obtain⟨k,am,su⟩:=zV.1 ah;have:=(Be.1 am).2.1
    grind
   rw[aJ,ac0 J J ato,<- hl];exact j3.2 (bw.trans O.symm)
  have aa:Nat.beq n 1=false:=(xO _).mp λaa=>qt (fU aa);rw[aa,YG,KC];refine j3.2 ?_;rw[decide_eq_true_eq,zV];constructor
  .rintro⟨k,am,su⟩
   have:k=n:=by simp at su;omega
   subst this;exact(Be.1 am).2.2
  intro hh;exact⟨n,Be.2 ⟨by rw[tM];omega,J,hh⟩,rfl⟩
 by_cases O:iz c 1=true
 .rw[if_pos O]at h
  by_cases nA:65∈ii (c.take 16)\/∀n∈ii (c.take 16),n<65
  .rw[if_pos nA]at h;simp at h
  rw[if_neg nA]at h;simp at h;have oV:16<=c.length:=by refine iQ λah=>aq (.inr ⟨O,J⟩)
  obtain⟨eY,gT⟩:=Nh 16 (.inr rfl) oV (iff_of_true O rfl) h.1.symm (λ_=>nA);have dK:(fB l).length=16:=by rw[gT,io];omega
  rw[dK];refine⟨eY,h.2.symm,oV,?_⟩;rw[gT,zQ]
 rw[if_neg O]at h;simp at h;obtain⟨eY,gT⟩:=Nh 8 (.inl rfl) J (iff_of_false O J) h.1.symm (λe=>absurd e J);have dK:(fB l).length=8:=by rw[gT,io];omega
 rw[dK];refine⟨eY,h.2.symm,J,?_⟩;rw[gT,zQ]
def ajy{v:bZ}{k l:Int}(aK:e_ v.1=some (k,l))(aB:gY k l v.2.1):gp v=kG k v.2.1:=by unfold gp qY;rw[aK];simp only[if_pos aB]
def ax5{v:bZ}(hf:fX v.1 v.2.1=true)(dx:A<=b.length)(h:b.drop A=gp v++q):jU v.1 b A=(v.2.1,((A+(gp v).length:Nat):Int),0,()):=by obtain⟨k,l,aK,aB⟩:=wv.1 hf;rw[ajy aK aB]at h ⊢;unfold jU;rw[aK];exact ax7 aK dx aB h
def ax6{I:Int}(dx:A<=b.length)(h:jU no b A=(v,I,0,())):fX no v=true/\I=((A+(gp (no,v,())).length:Nat):Int)/\A+(gp (no,v,())).length<=b.length/\b.drop A=gp (no,v,())++b.drop (A+(gp (no,v,())).length):=by
 cases aK:e_ no with
 |none=>unfold jU at h;rw[aK]at h;simp at h
 |some p=>
  obtain⟨k,l⟩:=p;have bE:za k l b A=(v,I,0,()):=by unfold jU at h;rw[aK]at h;exact h
  obtain⟨bD,cr,gR,w5⟩:=ax8 aK dx bE;rw[ajy (v:=(no,v,())) aK bD];exact⟨wv.2 ⟨k,l,aK,bD⟩,cr,gR,w5⟩
def agE{b:V}:∀{l:List bZ} {A:Nat} {F:List bZ} {q:V},(∀v∈l,fX v.1 v.2.1=true)->A<=b.length->b.drop A=l.flatMap gp++q->qL b (hC l) A F=(none,((A+(l.flatMap gp).length:Nat):Int),F++l)
 |[],A,F,q,_,_,_=>by simp[qL,hC]
 |v::r,A,F,q,hf,dx,h=>by rw[xS,hb]at h;have O:=ax5 (hf v bp) dx h;have R:=C_ dx h;simp only[hC,p6,qL];rw[O];have:=agE (F:=F++[(v.1,v.2.1,())]) (λu aL=>hf u (by grind)) R.1 R.2;rw[show r.map (λv=>v.1)=hC r from rfl,this,xS,dd,j2];simp
def agF{b:V}:∀{NA:List Int} {A:Nat} {F xI:List bZ} {a':Int},A<=b.length->qL b NA A F=(none,a',xI)->∃l:List bZ,xI=F++l/\hC l=NA/\(∀v∈l,fX v.1 v.2.1=true)/\a'=((A+(l.flatMap gp).length:Nat):Int)/\A+(l.flatMap gp).length<=b.length/\b.drop A=l.flatMap gp++b.drop (A+(l.flatMap gp).length)
 |[],A,F,xI,a',dx,h=>by obtain⟨rfl,rfl⟩:=h;exact⟨[],bp,rfl,bp,bp,by simpa using dx,bp⟩
 |n::r,A,F,xI,a',dx,h=>by
  simp only[qL]at h;by_cases aq:(jU n b A).2.2.1=0
  .rw[if_pos aq]at h
   rcases hx:jU n b A with⟨v,I,e,u⟩;rw[hx]at aq h;subst aq;obtain⟨bD,cr,gR,w5⟩:=ax6 dx hx;subst cr;obtain⟨l,dZ,fc,oj,A2,Ie,D4⟩:=agF gR h;refine⟨(n,v,())::l,by rw[dZ];simp,by simp only[hC];rw[<- fc];rfl,λw bw => ?_,?_,?_,?_⟩
   .grind
   .grind
   .grind
   grind
  grind
def ayK{l:List bZ}:∀{last:Int},hk last (hC l)=true->(∀v∈l,fX v.1 v.2.1=true)->f7 last l=true:=by
 induction l with
 |nil=>intros;rfl
 |cons x r ih =>intro last h hf;simp only[hC,p6,hk,cP,decide_eq_true_eq]at h;simp only[f7,cP,decide_eq_true_eq];exact⟨h.1.1,hf x bp,ih h.2 λv aB=>hf v (by grind)⟩
def ayL{l:List bZ}{aez:Int}(hl:aez<=last)(h:f7 last l=true):f7 aez l=true:=by
 cases l with
 |nil=>rfl
 |cons x r=>
  simp only[f7,cP,decide_eq_true_eq]at h ⊢
  grind
def agD{b:V}:∀{NA:List Int} {A:Int} {F xI:List bZ} {a' e:Int},qL b NA A F=(some e,a',xI)->¬e=0
 |[],A,F,xI,a',e,h=>by simp[qL]at h
 |n::r,A,F,xI,a',e,h=>by
  simp only[qL]at h;by_cases aq:(jU n b A).2.2.1=0
  .rw[if_pos aq]at h;exact agD h
  rw[if_neg aq]at h;simp only[pr,kJ]at h;rw[<- h.1];exact aq
def aBj(h:hE m):val (a_ 10 gi m.toNat 4)=m.toNat:=by unfold hE at h;rw[XH,s? J]
def aAz(h:hE m)(aa:b=sX m++q):jm b 0 4=(a_ 10 gi m.toNat 4,2,0,()):=by have:=Xj (b:=b) (s:=a_ 10 gi m.toNat 4) (q:=q) (I:=0) (nV _) (by rw[l?];omega) Al aa;rw[l?]at this;exact this
def auq{l:List bZ}(h:∀v∈l,fX v.1 v.2.1=true):∀n∈hC l,(e_ n).isSome=true:=by
 intro n ak;obtain⟨v,aB,rfl⟩:=zV.1 ak;obtain⟨k,l,aK,_⟩:=wv.1 (h v aB)
 grind
def qO{m:M}:hZ m=true↔f7 0 m.2.1=true/\hE m.1:=by unfold hZ;rw[cP,decide_eq_true_eq]
def aya{m:M}(h:hZ m=true):eO (fP m++q)=if q=[]then(m,0,()) else(mF,4,()):=by
 obtain⟨dn,ht⟩:=qO.1 h;have he:=λv aB=>(sP dn v aB).2;have hL:=Oe dn;have e:fP m++q=sX m.1++(fB (hC m.2.1)++(m.2.1.flatMap gp++q)):=by unfold fP;simp
 generalize aa:fP m++q=b at *
 have au:=aAz ht e;have tM:=zv (m:=m.1);have aJ:=C_ (b:=b) (A:=0) (nV _) e;rw[ tM]at aJ;have ai:=alA hL aJ.1 aJ.2;have yw:=C_ aJ.1 aJ.2;have ri:=agE (F:=[]) he yw.1 yw.2;have aCe:=C_ yw.1 yw.2;unfold eO;rw[au,if_neg bp];rw[aBj ht,Int.toNat_of_nonneg (by unfold hE at ht;omega),if_pos ht];replace ai:lW b 2=_:=ai;rw[ai,if_neg bp];unfold EK;rw[if_pos (auq he),ri]
 grind
def NZ{m:M}(h:eO b=(m,0,())):hZ m=true/\fP m=b:=by
 unfold eO at h;by_cases aq:(jm b 0 4).2.2.1≠0
 .grind
 rw[if_neg aq]at h;rcases BX (b:=b) (I:=0) (N:=4) (nV _) J with⟨_,e⟩|⟨_,e,_⟩|⟨s,au,e,hf,ab,sz⟩
 .grind
 .grind
 replace e:jm b 0 4=(s,2,0,()):=e;rw[e]at h;by_cases ht:hE (val s:Int)
 .rw[if_pos ht]at h
  have Uc:sX (val s:Int)=gA (eK s):=by unfold sX;rw[e7,<- ab,agm hf]
  have aJ:b.drop 0=sX (val s:Int)++b.drop 2:=by rw[Uc];exact LI sz
  rw[nl]at aJ;by_cases bs:(lW b 2).2.2.1≠0
  .grind
  rw[if_neg bs]at h;rcases hx:lW b 2 with⟨l,a',Ag,u⟩;rw[hx]at h bs;simp at bs h;subst bs;have cC:qf (b.drop 2) 2=(l,a',0,()):=by unfold lW at hx;rw[if_neg J]at hx;exact hx
  obtain⟨c1,c2,hN,c4⟩:=alz cC;rw[eU]at hN;rw[p8]at c4;unfold EK at h;by_cases aK:∀n∈l,(e_ n).isSome=true
  .rw[if_pos aK]at h
   have Tn:a'=((2+(fB l).length:Nat):Int):=J;rw[Tn]at h;rcases ri:qL b l ((2+(fB l).length:Nat):Int) []with⟨_|Ag,cX,F⟩
   .rw[ri]at h
    simp only at h;obtain⟨L,dZ,fc,oj,A2,Ie,D4⟩:=agF J ri;by_cases bn:cX<(b.length:Int)
    .rw[if_pos bn]at h;simp at h
    rw[if_neg bn]at h;simp at h;subst dZ;have gv:b.drop (2+(fB l).length+(F.flatMap gp).length)=[]:=List.drop_eq_nil_of_le J;rw[gv,nU]at D4;rw[<- h];refine⟨qO.2 ⟨ayL J (ayK (last:=1) (by rw[fc];exact c1) oj),ht⟩,?_⟩;unfold fP;rw[fc,<- D4,<- c4,<- aJ]
   rw[ri]at h;simp at h;exact absurd h.2 (agD ri)
  rw[if_neg aK]at h;simp at h
 rw[if_neg ht]at h;simp at h
def ax9:(eO b).2.1=0\/(eO b).1=mF:=by
 unfold eO;by_cases aq:(jm b 0 4).2.2.1≠0
 .grind
 by_cases ht:hE (val (jm b 0 4).1:Int)
 .rw[if_pos ht]
  by_cases bs:(lW b 2).2.2.1≠0
  .grind
  unfold EK
  grind
 grind
def KW:=@List.filter_eq_nil_iff
def n?(m:M):Prop:=m.2.1.length<=40/\∀v∈m.2.1,v.2.1.length<=450
def n?.uZ{m:M}(h:n? m):uZ m:=⟨by have:=h.1;omega,λv aB=>by have:=h.2 v aB;omega⟩
def ayb:(eO b).1.2.1.length<=1000:=by
 rcases ax9 (b:=b) with h|h
 .rcases hx:eO b with⟨m,e,u⟩
  rw[hx]at h;subst h;have ai:=(qO.1 (NZ hx).1).1;have hL:=Oe ai;have ab:=agU hL;have hm:=xm hL;have cm:(hC m.2.1).length<=128:=by
   have key:∀(l:List Int) (lo:Int),l.Pairwise (· < ·)->(∀n∈l,lo<n/\n<=128)->(l.length:Int)<=128-lo\/l=[]:=by
    intro l;induction l with
    |nil=>intros;exact .inr rfl
    |cons x r ih=>
     intro lo hp h;rw[CG]at hp;have hx:=h x bp;rcases ih x hp.2 (λn ak=>⟨hp.1 n ak,(h n (by grind)).2⟩) with O|O
     .grind
     grind
   rcases key _ 1 ab (λn ak=>⟨(hm n ak).1,(hm n ak).2.1⟩) with O|O
   .omega
   grind
  simp only[hC,s9]at cm
  grind
 rw[h];simp[mF]
def ayI{l:List bZ}(h:f7 last l=true):∀v∈l,last<v.1:=λv aB=>(sP h v aB).1
def aqh{l:List bZ}(hl:no<=last)(h:f7 last l=true):ia no l=([],false,()):=by
 induction l generalizing last with
 |nil=>rfl
 |cons v r ih=>
  simp only[f7,cP,decide_eq_true_eq]at h;unfold ia
  grind
def SU{l:List bZ}:∀{last:Int},f7 last l=true->getD l no=ia no l:=by
 induction l with
 |nil=>intros;rfl
 |cons v r ih=>
  intro last h;simp only[f7,cP]at h;unfold ia;by_cases ah:no<=v.1
  .have aq:gF no (v::r)=0:=by unfold gF;rw[if_pos ah]
   have O:ku no (v::r)=decide (v.1=no):=by unfold ku;rw[if_pos ah]
   unfold getD;rw[aq,O];by_cases aC:v.1=no
   .rw[if_pos aC,decide_eq_true aC];rfl
   rw[if_neg aC,decide_eq_false aC,if_neg bp,aqh J h.2.2]
  have aq:gF no (v::r)=gF no r+1:=by conv=>{ lhs;unfold gF };rw[if_neg ah]
  have O:ku no (v::r)=ku no r:=by conv=>{ lhs;unfold ku };rw[if_neg ah]
  rw[if_neg J,<- ih h.2.2];unfold getD;rw[aq,O];rfl
def abH{l:List bZ}(hl:no<=last)(h:f7 last l=true):l.filter (λv=>decide (v.1<no))=[]/\l.filter (λv=>decide (no<v.1))=l/\l.filter (λv=>!(decide (v.1=no)))=l:=by have hg:=ayI h;refine⟨KW.2 λv aB => ?_,List.filter_eq_self.2 λv aB => ?_,List.filter_eq_self.2 λv aB => ?_⟩<;>have:=hg v aB<;>simp<;>omega
def aBt{l:List bZ}{x:bZ}:∀{last:Int},f7 last l=true->zC l x=xp l x:=by
 induction l with
 |nil=>intros;rfl
 |cons v r ih=>
  intro last h;simp only[f7,cP]at h;by_cases ah:x.1<=v.1
  .have aq:gF x.1 (v::r)=0:=by unfold gF;rw[if_pos ah]
   have O:ku x.1 (v::r)=decide (v.1=x.1):=by unfold ku;rw[if_pos ah]
   obtain⟨f1,f2,_⟩:=abH (no:=x.1) ah h.2.2;unfold zC xp
   grind
  have aq:gF x.1 (v::r)=gF x.1 r+1:=by conv=>{ lhs;unfold gF };rw[if_neg ah]
  have O:ku x.1 (v::r)=ku x.1 r:=by conv=>{ lhs;unfold ku };rw[if_neg ah]
  have ai:=ih h.2.2;unfold zC xp at ai ⊢
  grind
def EL{m:M}(ai:hZ m=true):eO (fP m)=(m,0,()):=by have:=aya (q:=[]) ai;rw[nU]at this;exact this
def Nm{n:N}(ai:i2 n):hZ (jk n)=true:=by
 obtain⟨kD,c,bS,rs,g,no,k,d,⟨⟩⟩:=n;have fN:=vM.1 ai;obtain⟨ah,bz,ay,eY,gT,t1,am⟩:=fN;have f11:=λn=>tu (no:=11) (w:=6) (n:=n) Dj J;have f15:=λn=>tu (no:=15) (w:=6) (n:=n) SG J;have f39:=λn=>tu (no:=39) (w:=2) (n:=n) Ma J;have f53:=λn=>tu (no:=53) (w:=16) (n:=n) abV J;have f70:=λn=>tu (no:=70) (w:=3) (n:=n) SH J;unfold jk hZ;cases kD
 .simp[f7,f11,f39,f70,hE]
 by_cases O:c=101
 .subst O
  obtain⟨g1,cD,ak,AC,aJ⟩:=am;simp[f7,f11,f53,f70,abR AC,abS ak,hE]
 by_cases R:c=201
 .subst R
  simp[f7,f11,f15,f70,hE]
 simp[f7,f11,f70,hE,O,R]
def ae1{n:N}(ai:i2 n):n? (jk n):=by
 obtain⟨kD,c,bS,rs,g,no,k,d,⟨⟩⟩:=n;have fN:=vM.1 ai;obtain⟨ah,bz,ay,eY,gT,t1,am⟩:=fN;unfold jk n?;cases kD
 .simp[n9]
 by_cases O:c=101
 .subst O
  obtain⟨g1,cD,ak,AC,aJ⟩:=am;simp[n9,sp,AC,ak]
 by_cases R:c=201
 .subst R
  simp[n9]
 simp[n9,O,R]
def mh(n:N):V×Int×Unit:=if i2 n then(fP (jk n),0,()) else([],1,())
def Ny(n:N):qE (n,())=some (mh n):=by
 unfold qE mh;by_cases h:i2 n
 .simp only[go_sem,Ve,cF h,afz h,Uz (jk n) (ae1 h).uZ,Nm h]
  grind
 simp only[go_sem,Ve,cH h]
 grind
def vB:N:=(false,0,0,0,0,[],[],0,())
def F'(n:N)(r:Int):N×Int×Unit:=if n.1=false then(vB,9,()) else if r<0\/99<r then(vB,1,()) else((false,n.2.1,n.2.2.1,r,0,[],[],0,()),0,())
def Vd(n:N)(r:Int):rB (n,r,())=some (F' n r):=by
 obtain⟨cN,cX,a3,a4,a5,akj,aBS,aBT,⟨⟩⟩:=n;unfold rB F' vB;cases cN<;>by_cases h:r<0\/99<r
 all_goals simp only[go_sem,h]
 all_goals simp[h]
def pg(v:V):Int:=if 1<=v.length/\v.length<=18/\g5 v then((val v:Nat):Int) else 0
def Ca(s:V):V:=if s.length%2=0/\Hq s then qW s else[]
def nz(m:M)(no:Int):V:=(ia no m.2.1).1
def rJ(m:M):N:=(D (m.1=800),pg (nz m 70),pg (nz m 11),pg (nz m 39),pg (nz m 53),nz m 96,Ca (nz m 48),pg (nz m 15),())
def kg(b:V):N×Int×Unit:=if(eO b).2.1=0 then(if i2 (rJ (eO b).1)/\jk (rJ (eO b).1)=(eO b).1 then(rJ (eO b).1,0,()) else(vB,2,())) else(vB,(eO b).2.1,())
def aqi{l:List bZ}:(ia no l).1=[]\/∃v∈l,v.1=no/\(ia no l).1=v.2.1:=by
 induction l with
 |nil=>exact .inl rfl
 |cons v r ih=>
  unfold ia
  grind
def apT{k l:Int}(h:e_ no=some (k,l)):l<=400:=by
 unfold e_ at h;rw[lR]at h;have:∀r∈tx,ao r 1 0<=400:=bO
 grind
def SE(h:fX no v=true):v.length<=400:=by
 obtain⟨k,l,O,R⟩:=wv.1 h;have:=apT O;have af:=R.2;unfold j_ at af
 grind
def aqg{m:M}(ai:hZ m=true)(no:Int):(ia no m.2.1).1.length<=400:=by
 rcases aqi (l:=m.2.1) (no:=no) with h|⟨v,aB,_,h⟩
 .grind
 rw[h];exact SE (sP (qO.1 ai).1 v aB).2
def Kd(s:V):∃e,uV (s,())=some (pg s,e,()):=by rw[Se];unfold pg;split<;>exact⟨_,rfl⟩
def aA8(s:V)(hl:s.length<=1000000):∃e,GG (s,())=some (Ca s,e,()):=by rw[aoD _ hl];unfold Ca;split<;>exact⟨_,rfl⟩
def afx(b:V)(hl:b.length<=1000000):Ek (b,())=some (kg b):=by
 unfold Ek kg;refine aS (Uy b hl) ?_;by_cases aq:(eO b).2.1=0
 .obtain⟨m,hm⟩:∃m,eO b=(m,0,()):=⟨(eO b).1,by rw[<- aq]⟩
  obtain⟨ai,bw⟩:=NZ hm;have AD:=ayb (b:=b);rw[hm]at AD ⊢;have hf:=(qO.1 ai).1;have g:∀no,rq (m,no,())=some (ia no m.2.1):=λno=>by rw[Ux m no (by grind),SU hf]
  have gl:=aqg ai;obtain⟨e1,v70⟩:=Kd (nz m 70);obtain⟨aU,Cc⟩:=Kd (nz m 11);obtain⟨d8,Pq⟩:=Kd (nz m 39);obtain⟨hc,Pr⟩:=Kd (nz m 53);obtain⟨pC,Pp⟩:=Kd (nz m 15);obtain⟨LL,aji⟩:=aA8 (nz m 48) (by have:=gl 48;unfold nz;omega);unfold nz at v70 Cc Pq Pr Pp aji;simp only[go_sem,g,v70,Cc,Pq,Pr,Pp,aji,Ve];show T (D (¬i2 (rJ m))) (some (vB,2,())) (ob (El (rJ m,())) λQD=>ob (H4 (QD.1,m,())) λQE=>T (bg QE.1) (some (vB,2,())) (some (rJ m,0,())))=_;by_cases ak:i2 (rJ m)
  .rw[cH (λh=>h ak)]
   have ab:=auw (jk (rJ m)) m (by have:=(ae1 ak).1;omega);simp only[go_sem,afz ak,ab];by_cases aC:jk (rJ m)=m
   .rw[if_pos ⟨ak,aC⟩,cH (λh=>h aC)];rfl
   rw[if_neg (λh=>aC h.2),cF aC];rfl
  rw[if_neg (λh=>ak h.1),cF ak];rfl
 rw[if_neg aq];simp only[go_sem,aq];rfl
def aBF{m:M}{n:N}(hm:eO b=(m,0,()))(ak:i2 n):fP (jk n)=b↔jk n=m:=by
 obtain⟨ai,bw⟩:=NZ hm;constructor
 .intro h
  have:=EL (Nm ak)
  grind
 grind
def Kc{n:Int}(O:1<=w)(R:w<=18)(aq:0<=n)(h:n<10^w):pg (dm n w)=n:=by unfold pg;rw[if_pos ⟨by rw[n9];exact O,by rw[n9];exact R,Sa⟩];exact aoC aq h
def Ps:pg []=0:=by unfold pg;rw[if_neg bp]
def XE:Ca []=[]:=by unfold Ca;split<;>rfl
def aA6:Ca (gm b)=b:=by unfold Ca;rw[if_pos ⟨by rw[sp];omega,ase b⟩,aA7]
def ayc{n:N}(ai:i2 n):rJ (jk n)=n:=by
 obtain⟨kD,c,bS,rs,g,no,k,d,⟨⟩⟩:=n;obtain⟨ah,bz,ay,eY,gT,t1,am⟩:=vM.1 ai;have oe:0<=c/\c<=301:=by unfold qA at ah;omega
 have Cc:pg (dm bS 6)=bS:=Kc J J J J;have v70:pg (dm c 3)=c:=Kc J J J J;have Pq:pg (dm rs 2)=rs:=Kc J J J J;unfold rJ nz jk;simp at am;cases kD
 .simp at am
  obtain⟨O,R,af,au⟩:=am;subst O R af au;simp[ia,Cc,v70,Pq,Ps,XE,D]
 have wS:=t1 rfl;subst wS;by_cases O:c=101
 .subst O
  obtain⟨g1,cD,ak,AC,aJ⟩:=am;subst aJ;have Pr:pg (dm g 16)=g:=Kc J J J J;simp[ia,Cc,v70,Pr,Ps,aA6,D]
 rw[if_neg J]at am;by_cases R:c=201
 .subst R
  obtain⟨af,au,aY,d1,d2⟩:=am;subst af au aY;have Pp:pg (dm d 6)=d:=Kc J J J J;simp[ia,Cc,v70,Pp,Ps,XE,D]
 rw[if_neg J]at am;obtain⟨af,au,aY,cp⟩:=am;subst af au aY cp;simp[ia,Cc,v70,Ps,XE,D,O,R]
def I'{n:N}(ai:i2 n):kg (fP (jk n))=(n,0,()):=by unfold kg;rw[EL (Nm ai),ayc ai,if_pos rfl,if_pos ⟨ai,rfl⟩]
def azC{v x:bZ}{r:List bZ}(h:f7 v.1 r=true):xp (v::r) x=if v.1<x.1 then v::xp r x else if v.1=x.1 then x::r else x::v::r:=by
 unfold xp;by_cases O:v.1<x.1
 .grind
 obtain⟨f1,f2,_⟩:=abH (no:=x.1) J h
 grind
def azD{l:List bZ}{x:bZ}(hx:fX x.1 x.2.1=true):∀{last:Int},last<x.1->f7 last l=true->f7 last (xp l x)=true:=by
 induction l with
 |nil=>intro last O _;simp[xp,f7,O,hx]
 |cons v r ih=>
  intro last O h;have bE:=h;simp only[f7,cP,decide_eq_true_eq]at bE;rw[azC bE.2.2];by_cases R:v.1<x.1
  .rw[if_pos R]
   simp only[f7,cP,decide_eq_true_eq]
   grind
  rw[if_neg R];by_cases af:v.1=x.1
  .rw[if_pos af]
   simp only[f7,cP,decide_eq_true_eq]
   grind
  rw[if_neg af];simp only[f7,cP,decide_eq_true_eq]
  grind
def XY{n:N}(h:i2 n):mh n=(fP (jk n),0,()):=by unfold mh;rw[if_pos h]
def aBE{v:bZ}(h:fX v.1 v.2.1=true):(gp v).length<=v.2.1.length+2:=by
 obtain⟨k,l,O,R⟩:=wv.1 h;unfold gp qY;rw[O];simp only[if_pos R];rw[XW (sf O).1]
 grind
def XX{m:M}(ai:hZ m=true):(fP m).length<=18+(m.2.1.map (λv=>v.2.1.length+2)).sum:=by
 have dn:=(qO.1 ai).1;have R:=zv (m:=m.1);have cx:=Q5 (hC m.2.1);have rh:∀l:List bZ,(∀v∈l,fX v.1 v.2.1=true)->(l.flatMap gp).length<=(l.map (λv=>v.2.1.length+2)).sum:=by
  intro l;induction l with
  |nil=>simp
  |cons v r ih=>
   intro h;have O:=aBE (h v bp)
   grind
 have:=rh m.2.1 λv aB=>(sP dn v aB).2;unfold fP
 grind
def aBC{n:N}(ai:i2 n):(fP (jk n)).length<=900:=by
 have h:=XX (Nm ai);obtain⟨kD,c,bS,rs,g,no,k,d,⟨⟩⟩:=n;obtain⟨ah,bz,ay,eY,gT,t1,am⟩:=vM.1 ai;refine hH h ?_;unfold jk;cases kD
 .simp[n9]
 by_cases O:c=101
 .subst O
  rw[if_pos ⟨rfl,rfl⟩]at am;simp[n9,sp];omega
 by_cases R:c=201
 .subst R;simp[n9]
 simp[n9,O,R]
def agG(b:V):(∃n,kg b=(n,0,())/\i2 n/\fP (jk n)=b)\/∃e,¬e=0/\kg b=(vB,e,()):=by
 unfold kg;by_cases aq:(eO b).2.1=0
 .obtain⟨m,hm⟩:∃m,eO b=(m,0,()):=⟨(eO b).1,by rw[<- aq]⟩
  rw[if_pos aq];by_cases O:i2 (rJ (eO b).1)/\jk (rJ (eO b).1)=(eO b).1
  .rw[if_pos O]
   refine .inl ⟨_,rfl,O.1,?_⟩;rw[hm]at O ⊢;exact(aBF hm O.1).2 O.2
  grind
 grind
def ayd{m:M}(ai:hZ m=true)(h:∀n',i2 n'->¬jk n'=m):kg (fP m)=(vB,2,()):=by unfold kg;rw[EL ai,if_pos rfl,if_neg λah=>h _ ah.1 ah.2]
def rX:=@BitVec.eq_of_toNat_eq
def KG:=@Nat.not_lt_zero
def Lj(c:UInt8):BitVec.ofInt 8 (aO c)=c.toBitVec:=by unfold aO;simp
def Zg(c:UInt32):BitVec.ofInt 32 (a8 c)=c.toBitVec:=by unfold a8;simp
def ajk(v:BitVec 8):u8 (v.toNat:Int)=⟨v⟩:=by apply UInt8.toBitVec_inj.1;show BitVec.ofNat 8 (((v.toNat:Int)%2^8).toNat)=v;apply rX;rw[Cw];omega
def aA3(v:BitVec 32):u32 (v.toNat:Int)=⟨v⟩:=by apply UInt32.toBitVec_inj.1;show BitVec.ofNat 32 (((v.toNat:Int)%2^32).toNat)=v;apply rX;rw[Cw];omega
def aw2(a b:UInt8):u8 (g' .u8 (aO a) (aO b))=a|||b:=by show u8 (((BitVec.ofInt 8 (aO a)|||BitVec.ofInt 8 (aO b)).toNat:Nat):Int)=_;rw[Lj,Lj,ajk];rfl
def ajB(a b:UInt8):u8 (fT .u8 (aO a) (aO b))=a^^^b:=by show u8 (((BitVec.ofInt 8 (aO a)^^^BitVec.ofInt 8 (aO b)).toNat:Nat):Int)=_;rw[Lj,Lj,ajk];rfl
def IW(a b:UInt32):u32 (g' .u32 (a8 a) (a8 b))=a|||b:=by show u32 (((BitVec.ofInt 32 (a8 a)|||BitVec.ofInt 32 (a8 b)).toNat:Nat):Int)=_;rw[Zg,Zg,aA3];rfl
def av1{c:UInt8}:aO c=aO (u8 0)↔c=0:=by
 constructor
 .intro h
  have R:(c.toNat:Int)=0:=h;exact xQ.1 (by show c.toNat=0;omega)
 rintro rfl;rfl
def tX(a b:V):Nat->UInt8
 |0=>0
 |i+1=>tX a b i|||(a.getD i 0^^^b.getD i 0)
def af2(a b:V):∀i,tX a b i=0↔∀j,j<i->a.getD j 0=b.getD j 0
 |0=>⟨λ_ j h=>absurd h (KG j),λ_=>rfl⟩
 |i+1=>by
  have ih:=af2 a b i;have key:(tX a b i|||(a.getD i 0^^^b.getD i 0))=0↔tX a b i=0/\a.getD i 0=b.getD i 0:=bp;show(tX a b i|||(a.getD i 0^^^b.getD i 0))=0↔_
  grind
def Ng(a b:V)(hl:a.length<=9223372036854775807):D' (a,b,())=some (seq a b,()):=by
 by_cases h:a.length=b.length
 .refine a2 cS ?_
  generalize hf:(λ(Y:UInt8×Int×Unit)=>_)=f;have step:∀i,i<a.length->f (tX a b i,(i:Int),())=some (.nx (tX a b (i+1),((i+1:Nat):Int),())):=by intro i ac;subst hf;have e1:ao a (ae (i:Int)) (u8 0)=a.getD i 0:=rfl;have aU:ao b (ae (i:Int)) (u8 0)=b.getD i 0:=rfl;refine bm cS (bd cS (bd cS ?_));rw[e1,aU,ajB,aw2,show i64 (aE (i:Int) 1)=((i+1:Nat):Int) by simp(disch:=omega) only[go_sem]<;>omega];rfl
  have gv:f (tX a b a.length,(a.length:Int),())=some (.ex 0 (tX a b a.length,(a.length:Int),())):=by subst hf;exact bT cS
  have kW:bK f (u8 0,0,())=some (.ex 0 (tX a b a.length,(a.length:Int),())):=by have:=lh (f:=f) (λi=>(tX a b i,(i:Int),())) a.length step 0 (nV _);exact this.trans (ec gv)
  rw[kW];refine bd g62 ?_;congr 2;rw[j3];unfold aj seq;rw[beq_iff_eq,beq_iff_eq,av1,af2];constructor
  .intro ap
   refine pq h λi O R => ?_
   grind
  grind
 refine bm cS ?_;rw[OG (λe=>h (congrArg List.length e))]
end Yp
namespace Yp
open Go Go.Proofs Go.RowKit Go.Shelf
attribute [local go_sem] Oper.semAt_some
def asz{res:Nat->Bool}(am:k<=n)(h:jt res n=[]):jt res k=[]:=by
 unfold jt at h ⊢;rw[KW]at h ⊢
 grind
set_option maxRecDepth 100000 in
set_option maxHeartbeats 4000000 in
def arm(mj off cap b:Nat)(ad:Option Addr)(j6 u2:Bool)(uM:Option Addr)(Ei an:Nat)(uL:Option Addr)(tV CW:Nat)(bH:Nat->Value×Value)(res:Nat->Bool)(je:∀j,∃a n c a' n' cO,bH j=(.slice a n c,.slice a' n' cO))(fM:mj<=9223372036854775807)(m:Nat)(w:World)
  (aa:0<mj->ad=some ⟨b,off,none⟩/\b<w.heap.size)
  (oe:∀j,j<mj->w.cell? ⟨b,off+j*2,none⟩=some (bH j).1) (tG:∀j,j<mj->w.cell? ⟨b,off+j*2+1,none⟩=some (bH j).2)
  (Te:∀j,j<mj->∀n w',Below w.heap.size w w'->CallsIn Fence.wide n Tryz.prog 316 #[.agg #[.slice uM Ei an,.slice uL tV CW],.agg #[(bH j).1,(bH j).2]] w' λe Kf=>e=.returned (.bool (res j))/\Below w'.heap.size w' Kf) :
  CallsIn Fence.wide (m+3) Tryz.prog 262 #[.agg #[.bool j6,.slice ad mj cap,.bool u2],.slice uM Ei an,.slice uL tV CW] w λe w'=>e=.returned (.bool (jt res mj != []))/\Below w.heap.size w w':=by
 have aCq:Fence.wide.fn 317:=trivial;refine callsIn_of_wp_marks Tryz.func262 rfl trivial ?_ rfl;simp only[Tryz.ntmps262,p3,gL,j4,Nat.reduceAdd,Nat.reduceSub,q3,uv,xY,zT,p4,mi]
 gi_wp2_with (gi_at_call 317;refine(apX _ _ _ _ _ _ rfl).mono ?_;rintro e w' ⟨rfl,rfl⟩)
 have e9:=Boxed.new (w.alloc (.cells #[.bool j6,.slice ad mj cap,.bool u2] 54)) 4 (.bool false);have eo:=Boxed.new ((w.alloc (.cells #[.bool j6,.slice ad mj cap,.bool u2] 54)).alloc (.cells #[.bool false] 4)) 52 (.slice ad mj cap);have jH:=Boxed.new (((w.alloc (.cells #[.bool j6,.slice ad mj cap,.bool u2] 54)).alloc (.cells #[.bool false] 4)).alloc (.cells #[.slice ad mj cap] 52)) 418 (.func (.func 316) #[.agg #[.slice uM Ei an,.slice uL tV CW]] #[]);simp only[World.size_alloc]at e9 eo jH;obtain⟨h1,oh⟩:∃h1,h1=((((w.alloc (Obj.cells #[Value.bool j6,Value.slice ad mj cap,Value.bool u2] 54)).alloc (Obj.cells #[Value.bool false] 4)).alloc (Obj.cells #[Value.slice ad mj cap] 52)).alloc (Obj.cells #[Value.func (Fn.func 316) #[Value.agg #[Value.slice uM Ei an,Value.slice uL tV CW]] #[]] 418)):=⟨_,rfl⟩;have akX:Boxed h1 (w.heap.size+1) 4 (.bool false):=by rw[oh];exact(e9.alloc _).alloc _
 have akY:Boxed h1 (w.heap.size+1+1) 52 (.slice ad mj cap):=by rw[oh];exact eo.alloc _
 have akZ:Boxed h1 (w.heap.size+1+1+1) 418 (.func (.func 316) #[.agg #[.slice uM Ei an,.slice uL tV CW]] #[]):=by rw[oh];exact jH
 have Mr:Below w.heap.size w h1:=by rw[oh];exact((((Below.refl _ w).alloc (b1 _) _).alloc bp _).alloc fK _).alloc fK _
 have atl:h1.heap.size=w.heap.size+1+1+1+1:=by rw[oh];simp
 rw[<- oh];clear e9 eo jH;refine wpIn_rangeFunc_ownG (w0:=h1) rfl J (gf:=343) (lb:=#[.pointer (some ⟨w.heap.size+1+1,0,none⟩),.pointer (some ⟨w.heap.size+1+1+1,0,none⟩)]) rfl trivial (enters_of Tryz.func343 (by kernel_rfl) rfl)
   (encs:=λx:Nat=>#[.int .i64 (x:Int)]) (Kp:=Below h1.heap.size) (S:=λbu=>bu=jt res mj) (Sp:=λpre=>∃k,k<=mj/\pre=jt res k) (N:=mj)
   ?seq ?kt ?kb (Below.refl _ _) (λ_=>rfl)
   (λpre W=>(pre=[]/\Boxed W (w.heap.size+1) 4 (.bool false))/\Below w.heap.size w W)
   (λc pre W=>((c=.ret/\pre≠[])/\Boxed W (w.heap.size+1) 4 (.bool true))/\Below w.heap.size w W)
   (OwnFrom.and (OwnFrom.and (ownFrom_pure _ _) (Own.from (boxed_own (w.heap.size+1) 4 (λ_=>.bool false)) _)) (ownFrom_below (b1 _) J))
   (λc=>OwnFrom.and (OwnFrom.and (ownFrom_pure _ _) (Own.from (boxed_own (w.heap.size+1) 4 (λ_=>.bool true)) _)) (ownFrom_below (b1 _) J))
   ?start ?cN ?assign ?body ?done ?stop
 case assign=>
  intro l x W K gb
  gi_wp2
  exact gb
 case seq=>
  intro l h_ s' W hW le acP wC aq;refine(apW (m+1) l (w.heap.size+1+1) (w.heap.size+1+1+1) h1.heap.size b off cap mj ad (.slice uM Ei an) (.slice uL tV CW) bH res je fM (λh=>⟨(aa h).1,by have:=(aa h).2;omega⟩) h_ s' (λs lv td ab aa=>le s lv td none ab ⟨aa.os,aa.tape,aa.output,aa.size,λk am _=>aa.block k am⟩ (λr e=>by cases e)) (λpre x lv ap _ _ hl=>wC pre x lv ap hl) W ?_ ?_ J J hW.size (λj ap => ?_) (λj ap => ?_) (λj ap w' AM => ?_) aq).mono ?_
  .exact(hW.cell (p:=⟨w.heap.size+1+1,0,none⟩) fK).trans akY.cell
  .exact(hW.cell (p:=⟨w.heap.size+1+1+1,0,none⟩) fK).trans akZ.cell
  .have dK:=(aa J).2
   exact(hW.cell (p:=⟨b,off+j*2,none⟩) fK).trans ((Mr.cell (p:=⟨b,off+j*2,none⟩) dK).trans (oe j ap))
  .have dK:=(aa J).2
   exact(hW.cell (p:=⟨b,off+j*2+1,none⟩) fK).trans ((Mr.cell (p:=⟨b,off+j*2+1,none⟩) dK).trans (tG j ap))
  .exact Te j ap _ _ (Mr.trans ((hW.trans AM).mono J))
  rintro e gh ⟨aC,h⟩;exact⟨aC,h.elim (λh=>.inl ⟨_,rfl,h⟩) (λ⟨k,am,h⟩=>.inr ⟨_,⟨k,am,rfl⟩,h⟩)⟩
 case kt=>exact λh k=>h.trans k
 case kb =>intro W l o dz hl aK O R;exact belowK_b (w:=h1) (b1 _) W l o dz hl aK O R
 case start=>exact⟨⟨rfl,akX⟩,Mr⟩
 case body=>
  rintro l pre x W ⟨⟨rfl,aB⟩,az⟩ bn;have ah:=aB.cell;have hf:=aB.frozen
  gi_wp2
  exact⟨(KeepsOthers.setCell _ _ _).from _,⟨⟨rfl,bp⟩,aB.set _⟩,az.trans ((Below.refl _ _).setCell (p:=⟨w.heap.size+1,0,none⟩) bp _)⟩
 case done=>
  rintro D bu W jp rfl ⟨⟨aq,aB⟩,az⟩ gb;have ah:=aB.cell;have hf:=aB.frozen
  gi_wp2
  have l1:=(KeepsOthers.setCell W ⟨w.heap.size+1,0,none⟩ (.bool false)).same D _ gb rfl;refine⟨bp,.inl ⟨_,_,rfl,run_takeDeferred l1,?_⟩⟩;have bs:Boxed ((W.setCell ⟨w.heap.size+1,0,none⟩ (.bool false)).putObj D (.deferred none)) (w.heap.size+1) 4 (.bool false):=(aB.set (.bool false)).kept (grownBy_putObj' _ D _) (λe=>by cases e;omega);refine⟨.bool false,by simp[results,Tryz.f262,go_sem,bs.cell],by rw[aq];rfl,?_⟩;exact(az.trans ((Below.refl _ _).setCell (p:=⟨w.heap.size+1,0,none⟩) bp _)).trans (belowK_b (w:=w) (b1 _) _ D _ _ J l1 rfl rfl)
 case stop=>
  rintro D c pre W jp ⟨k,am,rfl⟩ ⟨⟨⟨rfl,eR⟩,aB⟩,az⟩ gb;have ah:=aB.cell
  gi_wp2
  refine⟨bp,.inl ⟨_,_,rfl,run_takeDeferred gb,?_⟩⟩;have bs:Boxed (W.putObj D (.deferred none)) (w.heap.size+1) 4 (.bool true):=aB.kept (grownBy_putObj' _ D _) (λe=>by cases e;omega);refine⟨.bool true,by simp[results,Tryz.f262,go_sem,bs.cell],?_,?_⟩
  .have:jt res mj≠[]:=λe=>eR (asz am e)
   simp[this]
  exact az.trans (belowK_b (w:=w) (b1 _) _ D _ _ J gb rfl rfl)
end Yp
namespace Yp
open Go Go.Proofs Go.RowKit Go.Shelf
abbrev arl:=V×V×Unit
abbrev xe:ag:=.pair (.sl (.int .u8)) (.pair (.sl (.int .u8)) .unit)
def V1(x:(V×V×Unit)×(V×V×Unit)×Unit):Option (Bool×Unit):=
 ob (D' (x.1.1,x.2.1.1,())) λ(a:Bool×Unit)=>
 ob (T a.1 (ob (D' (x.1.2.1,x.2.1.2.1,())) λ(a:Bool×Unit)=>some (a.1,())) (some (false,()))) λ(a:Bool×Unit)=>some (a.1,())
abbrev azn:e6:=⟨[xe,xe],[.im (.bool)],V1⟩
set_option maxRecDepth 100000 in
def amR(kr:gK Tryz.prog 306 Jr):gK Tryz.prog 316 azn:=Nj (E:=ga [(306,Jr)] [] [] [] none false false 0) (qF (aA aZ kr) a1 jR rz sE) Tryz.func316 5 (by kernel_rfl) (by kernel_rfl) (λx=>by kernel_rfl)
def axc(k b e f:V)(am:k.length<=9223372036854775807)(aa:b.length<=9223372036854775807):V1 ((k,b,()),(e,f,()),())=some (c3 (seq k e) (seq b f),()):=by unfold V1;rw[Ng _ _ am];rw[Ng _ _ aa];cases seq k e<;>rfl
def aBm{w w':World}{X:Nat->Prop}(aa:Below w.heap.size w w'):(view w X).cd (view w' X):=by intro b o h;obtain⟨O,R⟩:=jZ.1 h;refine jZ.2 ⟨O,?_⟩;rw[aa.block b (iP.1 R).1];exact R
def azu{c:Array Value}{o:Nat}(h:o+2<=c.size):cM c o 2=[c[o],c[o+1]]:=by unfold cM;rw[h3 (by grind),h3 (by grind)];simp
def alf{w w':World}{X:Nat->Prop}{rs:List eC}{r:eq rs}{b5:Value}(h:iT w X w' rs r b5):Below w.heap.size w w':=by obtain⟨aD,O,R,af,au,aY,_⟩:=h;exact⟨O,R,af,au,aY⟩
def akF(l:List α)(q:α->Bool)(res:Nat->Bool)(h:∀j x,l[j]?=some x->res j=q x):(jt res l.length != [])=l.any q:=by
 rw[j3];simp;unfold jt;rw[KW];constructor
 .intro ak
  by_cases hx:∃x,x∈l/\q x=true
  .exact hx
  refine absurd (λj ap => ?_) ak;have kV:=s8.1 ap;rw[h j l[j] (km kV)]
  grind
 rintro⟨x,hx,aQ⟩ ak;obtain⟨j,ap,rfl⟩:=pp hx;refine ak j (s8.2 ap) ?_
 grind
abbrev ahy:e6:=⟨[.pair (.bool) (.pair (.sl xe) (.pair (.bool) (.unit))),.sl (.int .u8),.sl (.int .u8)],[.im (.bool)],I7⟩
set_option maxRecDepth 100000 in
def arn(kr:gK Tryz.prog 306 Jr)(j6 u2:Bool)(jY:List arl)(key uN:V){w:World}{X:Nat->Prop}(dq:∀b,X b->b<w.heap.size)(lE:mA Tryz.prog (view w X)){hN r_ LD:List Value}
  (R:aI (view w X) (.sl xe) jY hN) (am:aI (view w X) (.sl (.int .u8)) key r_) (aa:aI (view w X) (.sl (.int .u8)) uN LD) :
  Calls Tryz.prog 262 #[.agg (#[.bool j6]++hN.toArray ++ #[.bool u2]),r_.headD undef,LD.headD undef] w λe w'=>∃b5,e=.returned b5/\iT w X w' [.im .bool] ((jY.any λe=>c3 (seq key e.1) (seq uN e.2.1),()):Bool×Unit) b5:=by
 have TM:=am;have j':=aa;obtain⟨ad,cap,rfl,eA,e?,t3⟩:=aI.iM.1 R;obtain⟨uM,RP,rfl,bF,b2,_⟩:=aI.iM.1 am;obtain⟨uL,RO,rfl,e9,eo,_⟩:=aI.iM.1 aa;have jf:maxLen<=9223372036854775807:=by unfold maxLen;omega
 have DJ:key.length<=9223372036854775807:=hH bF (hH b2 jf);have dK:uN.length<=9223372036854775807:=hH e9 (hH eo jf);have tM:jY.length<=9223372036854775807:=hH eA (hH e? jf)

 obtain⟨b,off,bH,HD,je,oe,tG,rm⟩:∃(b off:Nat) (bH:Nat->Value×Value),(0<jY.length->ad=some ⟨b,off,none⟩/\b<w.heap.size)/\(∀j,∃a n c a' n' cO,bH j=(.slice a n c,.slice a' n' cO)) /\
   (∀j,j<jY.length->w.cell? ⟨b,off+j*2,none⟩=some (bH j).1)/\(∀j,j<jY.length->w.cell? ⟨b,off+j*2+1,none⟩=some (bH j).2) /\
   (∀j (e:V×V×Unit),jY[j]?=some e->aI (view w X) xe e [(bH j).1,(bH j).2]):=by
  rcases t3 with t3|⟨b,o,c,el,fz,bh,aB,cZ,Hp⟩
  .refine⟨0,0,λ_=>(.slice none 0 0,.slice none 0 0),λh => ?_,λ_=>⟨_,_,_,_,_,_,rfl⟩,λj ap => ?_,λj ap => ?_,λj e aC => ?_⟩
   .rw[show jY=[] from t3]at h;simp at h
   .rw[show jY=[] from t3]at ap;simp at ap
   .rw[show jY=[] from t3]at ap;simp at ap
   rw[show jY=[] from t3]at aC;simp at aC
  obtain⟨oY,hh⟩:=jZ.1 aB;have atv:o+jY.length*2<=c.size:=cZ;have ve:∀j e,jY[j]?=some e->∃(h:o+j*2+2<=c.size),aI (view w X) xe e [c[o+j*2],c[o+j*2+1]]:=by intro j e aC;have ap:j<jY.length:=(mR.1 aC).1;have bW:o+j*2+2<=c.size:=J;refine⟨bW,?_⟩;have:=Hp j e aC;rw[show cM c (o+j*xe.size) xe.size=cM c (o+j*2) 2 from rfl,azu bW]at this;exact this
  have rn:∀(l:V) (v:Value),aI (view w X) (.sl (.int .u8)) l [v]->∃a n c,v=.slice a n c:=by intro l v h;obtain⟨a,gX,aC,_⟩:=aI.iM.1 h;cases aC;exact⟨_,_,_,rfl⟩
  have as9:∀(e:V×V×Unit) (u v:Value),aI (view w X) xe e [u,v]->(∃a n c,u=.slice a n c)/\∃a n c,v=.slice a n c:=by intro e u v h;obtain⟨d1,d2,aJ,bL,ca⟩:=aI.m9.1 h;obtain⟨d3,aaU,yw,cq,dv⟩:=aI.m9.1 ca;obtain rfl:=aI.Cb.1 dv;have dZ:d1.length=1:=bL.length;have oj:d3.length=1:=cq.length;obtain⟨y,rfl⟩:=List.length_eq_one_iff.1 dZ;obtain⟨z,rfl⟩:=List.length_eq_one_iff.1 oj;subst yw;simp only[List.singleton_append,nU,zS,and_true]at aJ;obtain⟨rfl,rfl⟩:=aJ;exact⟨rn _ _ bL,rn _ _ cq⟩
  refine⟨b,o,λj=>if h:j<jY.length then(c[o+j*2]'J,c[o+j*2+1]'J) else(.slice none 0 0,.slice none 0 0),λ_=>⟨bh,(iP.1 hh).1⟩,λj => ?_,λj ap => ?_,λj ap => ?_,λj e aC => ?_⟩
  .by_cases ap:j<jY.length
   .obtain⟨bW,ai⟩:=ve j _ (km ap)
    obtain⟨⟨a,n,an3,e1⟩,⟨a',n',an4,aU⟩⟩:=as9 _ _ _ ai;exact⟨a,n,an3,a',n',an4,by dsimp only;rw[dif_pos ap,e1,aU]⟩
   exact⟨_,_,_,_,_,_,dif_neg ap⟩
  .dsimp only;rw[dif_pos ap,World.cell?,hh];simp[show o+j*2<c.size by omega]
  .dsimp only;rw[dif_pos ap,World.cell?,hh];simp[show o+j*2+1<c.size by omega]
  have ap:j<jY.length:=(mR.1 aC).1;dsimp only;rw[dif_pos ap];exact(ve j e aC).2
 let q:V×V×Unit->Bool:=λe=>c3 (seq key e.1) (seq uN e.2.1)
 let res:Nat->Bool:=λj=>match jY[j]? with|some e=>q e|none=>false
 have Nh:=arm jY.length off cap b ad j6 u2 uM key.length RP uL uN.length RO bH res je tM 0 w HD oe tG (λj ap n w' AM => ?_)
 .refine(callsIn_wide (n:=3)).1 (Nh.mono ?_)
  rintro e w' ⟨rfl,DB⟩;refine⟨_,rfl,X,DB.os,DB.tape,DB.output,DB.size,DB.block,λ_ _=>Qw,λb h=>gN (dq b h) DB.size,[.bool (jt res jY.length != [])],?_,rfl⟩;refine⟨[.bool _],[],rfl,aI.oM.2 ?_,rfl⟩;rw[akF jY q res (λj e aC=>by show(match jY[j]? with|some e=>q e|none=>false)=q e;rw[aC])]
 refine callsIn_wide.2 ?_;have aC:=km ap;have bw:=AM;have bW:(view w X).cd (view w' X):=aBm bw;have:=(amR kr).2 w' X ((key,uN,()),(jY[j].1,jY[j].2.1,()),()) [.agg #[.slice uM key.length RP,.slice uL uN.length RO],.agg #[(bH j).1,(bH j).2]] _ (λb h=>gN (dq b h) bw.size) (lE.mono bW)
  ⟨[.slice uM key.length RP,.slice uL uN.length RO],_,rfl,aI.m9.2 ⟨[_],[_],rfl,TM.mono bW,aI.m9.2 ⟨[_],[],rfl,j'.mono bW,aI.Cb.2 rfl⟩⟩,[(bH j).1,(bH j).2],[],rfl,(rm j _ aC).mono bW,rfl⟩
  (axc _ _ _ _ DJ dK)
 refine this.mono ?_;rintro e Kf ⟨b5,rfl,ai⟩;refine⟨?_,alf ai⟩;obtain⟨aD,_,_,_,_,_,_,_,us,aB,rfl⟩:=ai;obtain⟨ds,aCO,rfl,ah,rfl⟩:=aB;obtain rfl:=aI.oM.1 ah;show Ending.returned (.bool _)=Ending.returned (.bool (match jY[j]? with|some e=>q e|none=>false));rw[aC]
set_option maxRecDepth 100000 in
def arc(kr:gK Tryz.prog 306 Jr):gK Tryz.prog 262 ahy:=by refine⟨⟨Tryz.f262,Tryz.func262,by kernel_rfl,by kernel_rfl⟩,?_⟩;intro w X x vs r dq lE bh ai;obtain⟨⟨j6,jY,u2,⟨⟩⟩,key,uN,⟨⟩⟩:=x;obtain rfl:=ps ai;obtain⟨cs,ajp,rfl,hp,r_,nR,rfl,am,LD,aBn,rfl,aa,rfl⟩:=bh;obtain⟨c1,c2,rfl,O,hp⟩:=aI.m9.1 hp;obtain⟨hN,c4,rfl,R,hp⟩:=aI.m9.1 hp;obtain⟨c5,aBW,rfl,af,hp⟩:=aI.m9.1 hp;obtain rfl:=aI.Cb.1 hp;obtain rfl:=aI.oM.1 O;obtain rfl:=aI.oM.1 af;have:=arn kr j6 u2 jY key uN dq lE R am aa;refine cast ?_ this;congr 1;simp[cB,ag.isAgg]
end Yp
namespace Yp
open Go Go.Proofs Go.RowKit Go.Shelf
attribute [-go_sem] g02 g03 g04 g05 g06 g01 g07 g08 g09 g10 g11 g12 g13 g14 g15 g16 g17 g18 g19 g20 g21 g22 g23 g24 g25 g26 g27 g28 g29 g30 g31 g32 g34 g35 g36 g37 g38 g39 g40 g41 g42 g43 g44 g45 g46 g47 g48 g49 g50 g51 g52 g53 g54 g55 g56 g57 g58 g60 g61 lc_rt' lc_ex' lc_nx g62 g63 nth_get g33 g64 g65 g66
attribute [local go_sem] Oper.semAt_some
def ale{w w':World}{X:Nat->Prop}{rs:List eC}{r:eq rs}{b5:Value}(h:iT w X w' rs r b5):Below w.heap.size w w':=by obtain⟨aD,O,R,af,au,aY,_⟩:=h;exact⟨O,R,af,au,aY⟩
def auH{P:Program}{w w':World}{X:Nat->Prop}(h:mA P (view w X))(aa:Below w.heap.size w w'):mA P (view w' X):=
 h.mono λb o aB=>by obtain⟨hx,hh⟩:=jZ.1 aB;exact jZ.2 ⟨hx,(aa.block b (iP.1 hh).1).trans hh⟩
def axq{P:Program}{f:Nat}(mx:gK P f ⟨[.int .i64],[.im (.int .i64),.im (.int .u8)],uP⟩)(O:1<=n)(R:n<=128)(m:Nat)(w:World){X:Nat->Prop}(dq:∀b,X b->b<w.heap.size)(am:mA P (view w X)):
  CallsIn Fence.wide m P f #[.int .i64 (n:Int)] w λe w'=>e=.returned (.tuple #[.int .i64 (((n-1)/8:Nat):Int),.int .u8 (aO (uO ((n-1)%8)))])/\Below w.heap.size w w':=by
 refine callsIn_wide.2 ?_;have:=mx.2 w X ((n:Int),()) [.int .i64 (n:Int)] (_,_,()) dq am ⟨[.int .i64 (n:Int)],[],rfl,aI.iK.2 rfl,rfl⟩ (Y5 O R);refine this.mono ?_;rintro e w' ⟨b5,rfl,ai⟩;refine⟨?_,ale ai⟩;obtain⟨aD,_,_,_,_,_,_,_,vs,aB,rfl⟩:=ai;obtain⟨cs,ajp,rfl,ah,r_,nR,rfl,pE,rfl⟩:=aB;have m0:=aI.iK.1 ah;have arC:=aI.iK.1 pE;subst m0 arC;rfl
def iH(b?:V)(k:Nat):List Nat:=(List.range k).filter λn=>Nat.ble 1 n&&iz b? n
def ajH(b?:V)(k:Nat):iH b? (k+1)=iH b? k++if(Nat.ble 1 k&&iz b? k)=true then[k]else[]:=by
 unfold iH;rw[zN,Cv]
 grind
def alv:∀c:UInt8,∀t:Nat,t<8->(Go.bits BinOp.and IntKind.u8 (aO c) (aO (uO t)) != 0)=bt c t:=we ir
def X8(b?:V)(k:Nat)(h:1<=k):(iH b? k).length<k:=by
 obtain⟨j,rfl⟩:∃j,k=j+1:=⟨k-1,J⟩;have aq:iH b? (j+1)=(((List.range j).map (·+1)).filter λn=>Nat.ble 1 n&&iz b? n):=by unfold iH;rw[List.range_succ_eq_map,uH bp]
 rw[aq];have:=ls (λn=>Nat.ble 1 n&&iz b? n) ((List.range j).map (·+1));simp only[s9,zZ]at this;omega
def UD(n₀ rV:Nat)(W gh:World):Prop:=Below n₀ W gh/\gh.cell? ⟨rV,0,none⟩=W.cell? ⟨rV,0,none⟩
set_option maxRecDepth 100000 in
set_option maxHeartbeats 2000000 in
def ah1(mx:gK Tryz.prog 327 ⟨[.int .i64],[.im (.int .i64),.im (.int .u8)],uP⟩)(w0:World)(X:Nat->Prop)(dq:∀b,X b->b<w0.heap.size)(qr:mA Tryz.prog (view w0 X))(n l rV n₀ b off cap:Nat)(b?:V)(cm:b?.length<=16)(aa:b<n₀)(h_ s':List Nat->World->Prop)
  (le:∀s W gh,h_ s W->Below W.heap.size W gh->h_ s gh)
  (wC:∀(pre:List Nat) (x:Nat) W,h_ pre W->1<=x->x<=128->pre.length<128->YieldAt Fence.wide n Tryz.prog l #[.int .i64 (x:Int)] W λe gh=>
   (e=.returned (.bool true)/\h_ (pre++[x]) gh/\UD n₀ rV W gh)\/(e=.returned (.bool false)/\s' (pre++[x]) gh))
  (W:World) (acE:Below w0.heap.size w0 W) (qs:n₀=w0.heap.size) (aqS:W.cell? ⟨rV,0,none⟩=some (.slice (some ⟨b,off,none⟩) b?.length cap)) (acK:rV<W.heap.size) (ak:n₀<=W.heap.size) (ah:∀j,(h:j<b?.length)->W.cell? ⟨b,off+j,none⟩=some (.int .u8 (aO b?[j]))) (aq:h_ [] W) :
  CallsIn Fence.wide (n+1) Tryz.prog 344 #[.func (.yield l) #[] #[],.pointer (some ⟨rV,0,none⟩)] W λe gh=>(∃v,e=.returned v) /\
   (h_ (iH b? (8*b?.length+1)) gh\/(∃k,k<=8*b?.length+1/\s' (iH b? k) gh)):=by
 have aCs:Fence.wide.fn 327:=trivial;refine callsIn_of_wp Tryz.func344 rfl trivial ?_ rfl;simp only[Tryz.ntmps344,p3,gL,j4,Nat.reduceAdd,Nat.reduceSub,q3,uv,xY,zT,p4,mi]
 gi_wp2
 gi_loopw [3] (λi wr=>∃k:Nat,1<=k/\k<=8*b?.length+1/\i=.int .i64 k/\h_ (iH b? k) wr/\Below n₀ W wr/\W.heap.size<=wr.heap.size/\wr.cell? ⟨rV,0,none⟩=some (.slice (some ⟨b,off,none⟩) b?.length cap))
  (λi _=>8*b?.length+1-(intOf i).toNat)
 case atStart=>exact⟨1,b1 _,J,rfl,by have:iH b? 1=[]:=(by unfold iH;rfl);rw[this];exact aq,Below.refl _ _,b1 _,aqS⟩
 case round=>
  obtain⟨k,su,am,rfl,Dx,oY,cZ,acL⟩:=hrel;by_cases bn:k<=8*b?.length
  .have bW:(k:Int)<=8*(b?.length:Int):=J
   obtain⟨p,t,c,jh,MJ,aty,ac5,Hi⟩:∃(p t:Nat) (c:UInt8),(∀w,Below w0.heap.size w0 w->CallsIn Fence.wide n Tryz.prog 327 #[.int .i64 (k:Int)] w λe w'=>e=.returned (.tuple #[.int .i64 (p:Int),.int .u8 (aO (uO t))])/\Below w.heap.size w w')/\p<b?.length/\t<8/\W.cell? ⟨b,off+p,none⟩=some (.int .u8 (aO c))/\bt c t=iz b? k:=by have MJ:(k-1)/8<b?.length:=J;refine⟨(k-1)/8,(k-1)%8,b?[(k-1)/8],λco tN=>axq mx su (show k<=128 by omega) n co (λb h=>gN (dq b h) tN.size) (auH qr tN),MJ,J,ah _ MJ,?_⟩;unfold iz;rw[nth_get MJ]
   have aCl:(p:Int)<(b?.length:Int):=J;have Hh:=alv c t aty;rw[Hi]at Hh;have aCt:(Fence.wide).depth.isSome=true->1<=n:=λh=>by cases h
   cases hh:iz b? k
   .rw[hh]at Hh
    have bs:Go.bits BinOp.and IntKind.u8 (aO c) (aO (uO t))=0:=by simpa using Hh
    have oi:iH b? (k+1)=iH b? k:=by rw[ajH,hh,Bool.and_false,if_neg bp,nU]
    clear Hi Hh hh
    gi_wp2_with (gi_at_call 327;refine(jh _ (acE.trans (qs▸oY))).mono ?_;rintro e co ⟨rfl,hb1⟩;have S':co.cell? ⟨rV,0,none⟩=some (.slice (some ⟨b,off,none⟩) b?.length cap):=(hb1.cell (p:=⟨rV,0,none⟩) (gN acK cZ)).trans acL;have arR:co.cell? ⟨b,off+p,none⟩=some (.int .u8 (aO c)):=(hb1.cell (p:=⟨b,off+p,none⟩) (gN aa (hH ak cZ))).trans ((oY.cell (p:=⟨b,off+p,none⟩) aa).trans ac5))
    refine⟨λ_ _=>trivial,?_⟩
    gi_wp2
    refine⟨⟨k+1,J,J,bp,by rw[oi];exact le _ _ _ Dx hb1,oY.trans (hb1.mono (hH ak cZ)),hH cZ hb1.size,S'⟩,?_⟩;simp[intOf];omega
   rw[hh]at Hh;have oi:iH b? (k+1)=iH b? k++[k]:=by have:Nat.ble 1 k=true:=zR su;rw[ajH,hh,this];rfl
   have MU:=X8 b? k su;have aq8:=λco (ap:h_ (iH b? k) co)=>wC _ k co ap su (show k<=128 by omega) J;clear Hi hh
   gi_wp2_with (gi_at_call 327;refine(jh _ (acE.trans (qs▸oY))).mono ?_;rintro e co ⟨rfl,hb1⟩;have S':co.cell? ⟨rV,0,none⟩=some (.slice (some ⟨b,off,none⟩) b?.length cap):=(hb1.cell (p:=⟨rV,0,none⟩) (gN acK cZ)).trans acL;have arR:co.cell? ⟨b,off+p,none⟩=some (.int .u8 (aO c)):=(hb1.cell (p:=⟨b,off+p,none⟩) (gN aa (hH ak cZ))).trans ((oY.cell (p:=⟨b,off+p,none⟩) aa).trans ac5);obtain⟨fn,tmps,assign,body,hy,jq⟩:=aq8 co (le _ _ _ Dx hb1))
   refine jq.mono ?_;rintro e aki (⟨rfl,Tg,fC⟩|⟨rfl,Th⟩)
   .gi_wp2
    refine⟨⟨k+1,J,J,bp,by rw[oi];exact Tg,(oY.trans (hb1.mono (hH ak cZ))).trans fC.1,hH cZ (hH hb1.size fC.1.size),fC.2.trans S'⟩,?_⟩;simp[intOf];omega
   gi_wp2
   refine bodyPost_ret (results_none rfl _ _ _) rfl ?_;exact⟨⟨_,rfl⟩,.inr ⟨k+1,J,by rw[oi];exact Th⟩⟩
  have rj:k=8*b?.length+1:=J;subst rj;have wK:¬((8*b?.length+1:Nat):Int)<=8*(b?.length:Int):=J
  gi_wp2
  go_end0
  exact⟨⟨_,rfl⟩,.inl Dx⟩
end Yp
namespace Yp
open Go Go.Proofs Go.RowKit Go.Shelf
def FW:=@List.getElem?_take_of_lt
attribute [-go_sem] g02 g03 g04 g05 g06 g01 g07 g08 g09 g10 g11 g12 g13 g14 g15 g16 g17 g18 g19 g20 g21 g22 g23 g24 g25 g26 g27 g28 g29 g30 g31 g32 g34 g35 g36 g37 g38 g39 g40 g41 g42 g43 g44 g45 g46 g47 g48 g49 g50 g51 g52 g53 g54 g55 g56 g57 g58 g60 g61 lc_rt' lc_ex' lc_nx g62 g63 nth_get g33 g64 g65 g66
attribute [local go_sem] Oper.semAt_some
abbrev zY:List eC:=[.ow (.int .i64),.im (.int .i64),.im (.int .i64)]
def zh{w w':World}{X:Nat->Prop}(dq:∀b,X b->b<w.heap.size)(aa:Below w.heap.size w w')(e:Int):iT w X w' zY (([],0,e,()):List Int×Int×Int×Unit) (.tuple #[.slice none 0 0,.int .i64 0,.int .i64 e]):=by refine⟨X,aa.os,aa.tape,aa.output,aa.size,aa.block,λ_ _=>Qw,λb h=>gN (dq b h) aa.size,[.slice none 0 0,.int .i64 0,.int .i64 e],?_,rfl⟩;exact⟨_,_,rfl,.inl ⟨rfl,⟨none,rfl⟩,⟨[.int .i64 0],_,rfl,aI.iK.2 rfl,⟨[.int .i64 e],_,rfl,aI.iK.2 rfl,rfl⟩⟩⟩⟩
def agT{w w':World}{X:Nat->Prop}(dq:∀b,X b->b<w.heap.size)(aa:Below w.heap.size w w'){v:Value}(aK:w'.ownsRow w.heap.size 3 1 v l.length (l.map (Value.int .i64)))(n:Int):iT w X w' zY ((l,n,0,()):List Int×Int×Int×Unit) (.tuple #[v,.int .i64 n,.int .i64 0]):=by
 obtain⟨_,⟨rfl,aq⟩|⟨g,cap,g4,rfl,hg,hh,tG,pE,ac4,aCb⟩⟩:=aK
 .have:l=[]:=iR.1 aq
  subst this;refine⟨X,aa.os,aa.tape,aa.output,aa.size,aa.block,λ_ _=>Qw,λb h=>gN (dq b h) aa.size,[.slice none 0 0,.int .i64 n,.int .i64 0],?_,rfl⟩;exact⟨_,_,rfl,.inl ⟨rfl,⟨none,rfl⟩,⟨[.int .i64 n],_,rfl,aI.iK.2 rfl,⟨[.int .i64 0],_,rfl,aI.iK.2 rfl,rfl⟩⟩⟩⟩
 have ass:g<w'.heap.size:=(iP.1 hh).1;refine⟨λb=>X b\/b=g,aa.os,aa.tape,aa.output,aa.size,aa.block,λb dK=>⟨λh=>h.elim id (λe=>J),.inl⟩,λb h=>h.elim (λh=>gN (dq b h) aa.size) (λe=>e▸ass),[.slice (some ⟨g,0,none⟩) l.length cap,.int .i64 n,.int .i64 0],?_,rfl⟩;refine⟨_,_,rfl,.inr ⟨g,⟨0,g4,3,(0,0),cap,rfl,tG,pE,?_,hh,⟨?_,?_⟩,?_,.inr rfl,λh=>absurd (h) (Nat.not_lt.2 hg),λh=>h⟩,⟨[.int .i64 n],_,rfl,aI.iK.2 rfl,⟨[.int .i64 0],_,rfl,aI.iK.2 rfl,rfl⟩⟩⟩⟩
 .show 0+cap*1<=g4.size
  omega
 .show 0+l.length*1<=g4.size
  omega
 .intro i x ac
  have fk:l[i]?=some x:=ac;have bn:i<l.length:=(mR.1 fk).1;show cM g4 (0+i*1) 1=[Value.int .i64 x];rw[lT,xU];have O:g4.toList[i]?=some (Value.int .i64 x):=by
   have R:(List.take (l.length*1) g4.toList)[i]?=g4.toList[i]?:=FW J
   grind
  obtain⟨asJ,yC⟩:=mR.1 O;unfold cM;rw[h3 asJ,yC];rfl
 exact .inl rfl
def wh(w:World)(l8 m7 Vm:Obj):Below w.heap.size w (((w.alloc l8).alloc m7).alloc Vm):=(((Below.refl _ w).alloc (b1 _) _).alloc bp _).alloc fK _
set_option maxRecDepth 100000 in
set_option maxHeartbeats 2000000 in
def ayg(a:Option Addr)(n cap:Nat)(df:Int)(h:df<0)(m:Nat)(w:World)(X:Nat->Prop)(dq:∀b,X b->b<w.heap.size):
  CallsIn Fence.wide m Tryz.prog 277 #[.slice a n cap,.int .i64 df] w λe w'=>∃b5,e=.returned b5/\iT w X w' zY (([],0,1,()):List Int×Int×Int×Unit) b5:=by
 refine callsIn_of_wp Tryz.func277 rfl trivial ?_ rfl;simp only[Tryz.ntmps277,p3,gL,j4,Nat.reduceAdd,Nat.reduceSub,q3,uv,xY,zT,p4,mi]
 gi_wp2
 exact bodyPost_ret (v:=.tuple #[.slice none 0 0,.int .i64 0,.int .i64 1]) (by simp[results,Tryz.f277,go_sem]) rfl ⟨_,rfl,zh dq (wh _ _ _ _) 1⟩
set_option maxRecDepth 100000 in
set_option maxHeartbeats 2000000 in
def ayh(a:Option Addr)(n cap:Nat)(df:Int)(aq:¬df<0)(h:(n:Int)<df)(m:Nat)(w:World)(X:Nat->Prop)(dq:∀b,X b->b<w.heap.size):
  CallsIn Fence.wide m Tryz.prog 277 #[.slice a n cap,.int .i64 df] w λe w'=>∃b5,e=.returned b5/\iT w X w' zY (([],0,1,()):List Int×Int×Int×Unit) b5:=by
 refine callsIn_of_wp Tryz.func277 rfl trivial ?_ rfl;simp only[Tryz.ntmps277,p3,gL,j4,Nat.reduceAdd,Nat.reduceSub,q3,uv,xY,zT,p4,mi]
 gi_wp2
 exact bodyPost_ret (v:=.tuple #[.slice none 0 0,.int .i64 0,.int .i64 1]) (by simp[results,Tryz.f277,go_sem]) rfl ⟨_,rfl,zh dq (wh _ _ _ _) 1⟩
set_option maxRecDepth 100000 in
set_option maxHeartbeats 2000000 in
def ayi(a:Option Addr)(n cap:Nat)(A:Nat)(l2:n<=cap)(h:A=n)(m:Nat)(w:World)(X:Nat->Prop)(dq:∀b,X b->b<w.heap.size):
  CallsIn Fence.wide m Tryz.prog 277 #[.slice a n cap,.int .i64 (A:Int)] w λe w'=>∃b5,e=.returned b5/\iT w X w' zY (([],0,3,()):List Int×Int×Int×Unit) b5:=by
 subst h;refine callsIn_of_wp Tryz.func277 rfl trivial ?_ rfl;simp only[Tryz.ntmps277,p3,gL,j4,Nat.reduceAdd,Nat.reduceSub,q3,uv,xY,zT,p4,mi]
 gi_wp2
 all_goals exact bodyPost_ret (v:=.tuple #[.slice none 0 0,.int .i64 0,.int .i64 3]) (by simp[results,Tryz.f277,go_sem]) rfl ⟨_,rfl,zh dq (wh _ _ _ _) 3⟩
def Y8:∀c:UInt8,(Go.bits BinOp.and IntKind.u8 (aO c) 128 != 0)=bt c 0:=we ir
set_option maxRecDepth 100000 in
set_option maxHeartbeats 2000000 in
def ayj(b off n cap:Nat)(A:Nat)(l2:n<=cap)(dx:A<n)(c0:UInt8)(m:Nat)(w:World)(ah:w.cell? ⟨b,off+A,none⟩=some (.int .u8 (aO c0)))(ab:(bt c0 0=true/\n-A<16)\/(bt c0 0=false/\n-A<8))(X:Nat->Prop)(dq:∀b,X b->b<w.heap.size)(aa:b<w.heap.size):
  CallsIn Fence.wide m Tryz.prog 277 #[.slice (some ⟨b,off,none⟩) n cap,.int .i64 (A:Int)] w λe w'=>∃b5,e=.returned b5/\iT w X w' zY (([],0,3,()):List Int×Int×Int×Unit) b5:=by
 have qs:¬((A:Int)<0):=J;have qt:¬((n:Int)<(A:Int)):=J;have wD:=Y8 c0;obtain⟨N,fM⟩:∃N,n=A+N:=⟨n-A,J⟩;subst fM;have ac4:(((w.alloc (.cells #[.slice none 0 0] 71)).alloc (.cells #[.int .i64 0] 3)).alloc (.cells #[.int .i64 0] 59)).cell? ⟨b,off+A,none⟩=some (.int .u8 (aO c0)):=((wh w _ _ _).cell (p:=⟨b,off+A,none⟩) aa).trans ah;refine callsIn_of_wp Tryz.func277 rfl trivial ?_ rfl;simp only[Tryz.ntmps277,p3,gL,j4,Nat.reduceAdd,Nat.reduceSub,q3,uv,xY,zT,p4,mi];rcases ab with⟨O,R⟩|⟨O,R⟩
 .rw[O]at wD
  clear O;have u3:(N:Int)<16:=J
  gi_wp2
  all_goals exact bodyPost_ret (v:=.tuple #[.slice none 0 0,.int .i64 0,.int .i64 3]) (by simp[results,Tryz.f277,go_sem]) rfl ⟨_,rfl,zh dq (wh _ _ _ _) 3⟩
 rw[O]at wD;have bs:Go.bits BinOp.and IntKind.u8 (aO c0) 128=0:=by simpa using wD
 clear O wD;have u3:(N:Int)<8:=J
 gi_wp2
 all_goals exact bodyPost_ret (v:=.tuple #[.slice none 0 0,.int .i64 0,.int .i64 3]) (by simp[results,Tryz.f277,go_sem]) rfl ⟨_,rfl,zh dq (wh _ _ _ _) 3⟩
set_option maxRecDepth 100000 in
set_option maxHeartbeats 2000000 in
def ah4(m:Nat)(sl:Value)(w:World)(aB:sl.oneCell'=true):CallsIn Fence.wide m Tryz.prog 319 #[sl] w λe w'=>e=.returned (.func (.func 344) #[] #[.pointer (some ⟨w.heap.size,0,none⟩)])/\w'=w.alloc (.cells #[sl] 26):=by
 refine callsIn_of_wp Tryz.func319 rfl trivial ?_ rfl;simp only[Tryz.ntmps319,p3,gL,j4,Nat.reduceAdd,Nat.reduceSub,q3,uv,xY,zT,p4,mi]
 gi_wp2
 go_ret
 exact⟨rfl,rfl⟩
end Yp
namespace Go
open Go.RowKit
def Boxed.uc{W:World}{B C:Nat}{v:Value}(h:Boxed W B t v)(eR:B≠C)(u:Value):Boxed (W.setCell ⟨C,0,none⟩ u) B t v:=h.kept (grownBy_setCell' W C u) (λe=>eR (by cases e;rfl))
end Go
namespace Yp
open Go Go.Proofs Go.RowKit Go.Shelf
def P9:=@Bool.eq_false_iff
def PX:=@List.map_map
attribute [-go_sem] g02 g03 g04 g05 g06 g01 g07 g08 g09 g10 g11 g12 g13 g14 g15 g16 g17 g18 g19 g20 g21 g22 g23 g24 g25 g26 g27 g28 g29 g30 g31 g32 g34 g35 g36 g37 g38 g39 g40 g41 g42 g43 g44 g45 g46 g47 g48 g49 g50 g51 g52 g53 g54 g55 g56 g57 g58 g60 g61 lc_rt' lc_ex' lc_nx g62 g63 nth_get g33 g64 g65 g66
attribute [local go_sem] Oper.semAt_some
def auj:(Tryz.prog.info? 3).map (λi=>(i.zero,i.size,i.bytes))=some (some (.int .i64 0),1,8):=by kernel_rfl
def ajj:Tryz.prog.underlying 71=some (.slice 3):=by kernel_rfl
def k_(pre:List Nat):List Nat:=pre.filter λn=>Nat.ble 2 n
def qk(pre:List Nat):List Value:=(k_ pre).map λ(n:Nat)=>Value.int .i64 (n:Int)
def aaD{pre:List Nat}(h:¬1<x):k_ (pre++[x])=k_ pre:=by have:Nat.ble 2 x=false:=P9.2 λe=>h (KX e);unfold k_;rw[Cv,uH (by grind)];simp
def aaC{pre:List Nat}(h:1<x):k_ (pre++[x])=k_ pre++[x]:=by have:Nat.ble 2 x=true:=zR h;unfold k_;rw[Cv,P' this];simp
structure rZ(s:Nat)(v:Value)(n e:Int)(sl:Value)(W:World):Prop where
 c0:Boxed W s 71 v
 c1:Boxed W (s+1) 3 (.int .i64 n)
 c2:Boxed W (s+1+1) 59 (.int .i64 e)
 c5:Boxed W (s+1+1+1+1+1) 26 sl
def boxed_own{B:Nat}{v:Value}{X YI:World}{row:Option Nat}(aB:Boxed X B t v)(hg:X.grownBy YI row)(eI:∀r,row=some r->∃o,X.heap[r]?=some o/\o.isCells=false):Boxed YI B t v:=
 aB.kept hg λbB=>by obtain⟨o,aK,ah⟩:=eI B bB.symm;rw[show X.heap[B]?=_ from aB]at aK;cases aK;cases ah
def Ji{β:Type}(s:Nat)(v:Value)(n e:Int)(sl:Value):Own (λ(_:β) W=>rZ s v n e sl W):=λ_ _ _ _ ab hg ai=>
 ⟨boxed_own ab.c0 hg ai,boxed_own ab.c1 hg ai,boxed_own ab.c2 hg ai,boxed_own ab.c5 hg ai⟩
def EP{v sl:Value}{n:Int}{W:World}(h:rZ s v n e sl W)(cT:Value)(n' bB:Int):
 rZ s cT n' bB sl (((W.setCell ⟨s,0,none⟩ cT).setCell ⟨s+1,0,none⟩ (.int .i64 n')).setCell ⟨s+1+1,0,none⟩ (.int .i64 bB)):=
 ⟨((h.c0.set cT).uc J _).uc J _,((h.c1.uc J _).set (.int .i64 n')).uc J _,
  ((h.c2.uc J _).uc J _).set (.int .i64 bB),((h.c5.uc J _).uc J _).uc J _⟩
def D0(s:Nat)(cT:Value)(n' bB:Int)(W:World):Below s W (((W.setCell ⟨s,0,none⟩ cT).setCell ⟨s+1,0,none⟩ (.int .i64 n')).setCell ⟨s+1+1,0,none⟩ (.int .i64 bB)):=
 (((Below.refl s W).setCell (p:=⟨s,0,none⟩) (b1 _) cT).setCell (p:=⟨s+1,0,none⟩) bp _).setCell (p:=⟨s+1+1,0,none⟩) (by grind) _
def NK(s:Nat)(cT:Value)(n' bB:Int)(W:World):KeepsOthers W (((W.setCell ⟨s,0,none⟩ cT).setCell ⟨s+1,0,none⟩ (.int .i64 n')).setCell ⟨s+1+1,0,none⟩ (.int .i64 bB)):=
 ((KeepsOthers.setCell _ _ _).trans (KeepsOthers.setCell _ _ _)).trans (KeepsOthers.setCell _ _ _)
def agP{v sl:Value}{n:Int}{W gh:World}(h:rZ s v n e sl W)(aa:Below (s+1+1+1) W gh)(aY:Boxed gh (s+1+1+1+1+1) 26 sl):rZ s v n e sl gh:=
 ⟨(aa.block _ J).trans h.c0,(aa.block _ J).trans h.c1,(aa.block _ J).trans h.c2,aY⟩
def rZ.put{v sl:Value}{n:Int}{W:World}(h:rZ s v n e sl W){D:Nat}{o:Obj}(dz:Obj)(jp:W.heap[D]?=some o)(aK:o.isCells=false):rZ s v n e sl (W.putObj D dz):=
 Ji (β:=Unit) s v n e sl () W _ (some D) h (grownBy_putObj' W D dz) (λr e=>by cases e;exact⟨o,jp,aK⟩)
def ag0{W:World}{v:Value}{L:Nat}{eL:List Value}(h:W.ownsRow (s+1+1+1) 3 1 v L eL)(cT:Value)(n' bB:Int){D:Nat}{o:Obj}(dz:Obj)(jp:W.heap[D]?=some o)(aK:o.isCells=false):
  World.ownsRow ((((W.setCell ⟨s,0,none⟩ cT).setCell ⟨s+1,0,none⟩ (.int .i64 n')).setCell ⟨s+1+1,0,none⟩ (.int .i64 bB)).putObj D dz) s 3 1 v L eL:=by
 rcases h.2 with⟨rfl,aq⟩|⟨g,cap,g4,rfl,hg,hh,am⟩
 .exact⟨h.1,.inl ⟨rfl,aq⟩⟩
 have asp:g≠D:=by rintro rfl;rw[hh]at jp;cases jp;cases aK
 have bE:W.ownsRow s 3 1 (.slice (some ⟨g,0,none⟩) L cap) L eL:=⟨h.1,.inr ⟨g,cap,g4,rfl,J,hh,am⟩⟩;have eT:∀k,g≠k->(Value.slice (some ⟨g,0,none⟩) L cap).ownBlock=none\/(Value.slice (some ⟨g,0,none⟩) L cap).ownBlock≠some k:=λk am=>.inr λe=>am (by simpa[Value.ownBlock]using e);exact(((bE.kept (grownBy_setCell' W s cT) (eT _ J)).kept (grownBy_setCell' _ (s+1) _) (eT _ J)).kept (grownBy_setCell' _ (s+1+1) _) (eT _ J)).kept (grownBy_putObj' _ D dz) (eT _ asp)
def C2(b?:V):k_ (iH b? (8*b?.length+1))=ii b?:=by
 unfold k_ iH ii;rw[KV];refine List.filter_congr λn _ => ?_;cases h:Nat.ble 2 n
 .simp
 have:Nat.ble 1 n=true:=zR (by have:=KX h;omega)
 grind
def ajG{b?:V}(am:k<=8*b?.length+1)(h:65∈iH b? k):65∈ii b?/\8<b?.length:=by unfold iH at h;rw[xW,s8]at h;unfold ii;rw[xW,s8];refine⟨⟨J,?_⟩,J⟩;have R:=h.2;omega
def awl{b?:V}(h:65∈ii b?):65∈iH b? (8*b?.length+1):=by unfold ii at h;rw[xW,s8]at h;unfold iH;rw[xW,s8];omega
def awn{b?:V}{L z:Nat}(hL:(ii b?).length=L+1)(bs:(ii b?)[L]?=some z):∀n∈ii b?,n<=z:=by
 intro n ak;have hp:(ii b?).Pairwise (· < ·):=F1 _ YH;obtain⟨i,ac,rfl⟩:=pp ak;obtain⟨hl,rfl⟩:=mR.1 bs;by_cases h:i=L
 .grind
 exact Qn (Yi.1 hp i L ac hl J)
structure uJ(p:Prop):Prop where
 bC:p
set_option maxRecDepth 100000 in
set_option maxHeartbeats 4000000 in
def ayk(mx:gK Tryz.prog 327 ⟨[.int .i64],[.im (.int .i64),.im (.int .u8)],uP⟩)(b off n cap:Nat)(A S:Nat)(l2:n<=cap)(dx:A+S<=n)(ak:n<=9223372036854775807)(b?:V)(kr:S=8\/S=16)(u9:b?.length=S)(c0:UInt8)(m:Nat)(w:World)
 (ah:∀j,(h:j<b?.length)->w.cell? ⟨b,off+A+j,none⟩=some (.int .u8 (aO b?[j]))) (oe:w.cell? ⟨b,off+A,none⟩=some (.int .u8 (aO c0))) (bw:bt c0 0=true↔S=16) (X:Nat->Prop) (dq:∀b,X b->b<w.heap.size) (qr:mA Tryz.prog (view w X)) (aa:b<w.heap.size) (aP:List Int×Int×Int×Unit) (jq:uJ (aP=(if S=16/\(65∈ii b?\/∀n∈ii b?,n<65) then(([],0,2,()):List Int×Int×Int×Unit) else(((ii b?).map Int.ofNat,(A:Int)+(S:Int),(0:Int),()):List Int×Int×Int×Unit)))) :
 CallsIn Fence.wide (m+3) Tryz.prog 277 #[.slice (some ⟨b,off,none⟩) n cap,.int .i64 (A:Int)] w λe w'=>∃b5,e=.returned b5/\iT w X w' zY aP b5:=by
 obtain⟨DU,ac,HU,ad5,ad6⟩:=info_parts auj;have qs:¬((A:Int)<0):=J;have qt:¬((n:Int)<(A:Int)):=J;have wD:=Y8 c0;obtain⟨N,fM⟩:∃N,n=A+N:=⟨n-A,J⟩;subst fM;have ac4:(((w.alloc (.cells #[.slice none 0 0] 71)).alloc (.cells #[.int .i64 0] 3)).alloc (.cells #[.int .i64 0] 59)).cell? ⟨b,off+A,none⟩=some (.int .u8 (aO c0)):=((wh w _ _ _).cell (p:=⟨b,off+A,none⟩) aa).trans oe;have aCr:Fence.wide.fn 319:=trivial;refine callsIn_of_wp_marks Tryz.func277 rfl trivial ?_ rfl;simp only[Tryz.ntmps277,p3,gL,j4,Nat.reduceAdd,Nat.reduceSub,q3,uv,xY,zT,p4,mi];rcases kr with rfl|rfl
 .have O:bt c0 0=false:=P9.2 λh=>by have:=bw.1 h;omega
  rw[O]at wD;have bs:Go.bits BinOp.and IntKind.u8 (aO c0) 128=0:=by simpa using wD
  clear O wD;have u3:¬(N:Int)<8:=J;have aqJ:¬N<8:=J
  gi_wp2_with (gi_at_call 319;refine(ah4 _ _ _ rfl).mono ?_;rintro e w' ⟨rfl,rfl⟩)
  have Gc:=Boxed.new ((((w.alloc (.cells #[.slice none 0 0] 71)).alloc (.cells #[.int .i64 0] 3)).alloc (.cells #[.int .i64 0] 59)).alloc (.cells #[] 3)) 71 (.slice (some ⟨w.heap.size+1+1+1,0,none⟩) 0 0);have z8:=Boxed.new (((((w.alloc (.cells #[.slice none 0 0] 71)).alloc (.cells #[.int .i64 0] 3)).alloc (.cells #[.int .i64 0] 59)).alloc (.cells #[] 3)).alloc (.cells #[.slice (some ⟨w.heap.size+1+1+1,0,none⟩) 0 0] 71)) 26 (.slice (some ⟨b,off+A,none⟩) 8 (cap-A));have eD:=Boxed.new w 71 (.slice none 0 0);have e9:=Boxed.new (w.alloc (.cells #[.slice none 0 0] 71)) 3 (.int .i64 0);have eo:=Boxed.new ((w.alloc (.cells #[.slice none 0 0] 71)).alloc (.cells #[.int .i64 0] 3)) 59 (.int .i64 0);have HJ:=World.ownsRow_made (base:=w.heap.size+1+1+1) (e:=3) (size:=1) (((w.alloc (.cells #[.slice none 0 0] 71)).alloc (.cells #[.int .i64 0] 3)).alloc (.cells #[.int .i64 0] 59)) #[] 0 bp (by unfold maxLen;omega) rfl;simp only[World.size_alloc]at Gc z8 e9 eo HJ;have Ar:Below w.heap.size w ((((((w.alloc (.cells #[.slice none 0 0] 71)).alloc (.cells #[.int .i64 0] 3)).alloc (.cells #[.int .i64 0] 59)).alloc (.cells #[] 3)).alloc (.cells #[.slice (some ⟨w.heap.size+1+1+1,0,none⟩) 0 0] 71)).alloc (.cells #[.slice (some ⟨b,off+A,none⟩) 8 (cap-A)] 26)):=
   (((wh w _ _ _).alloc fK _).alloc fK _).alloc fK _
  refine wpIn_rangeFunc_ownG rfl J (gf:=344) (lb:=#[.pointer (some ⟨w.heap.size+1+1+1+1+1,0,none⟩)]) rfl trivial (enters_of Tryz.func344 (by kernel_rfl) rfl)
   (encs:=λx:Nat=>#[.int .i64 (x:Int)]) (Kp:=UD w.heap.size (w.heap.size+1+1+1+1+1)) (S:=λbu=>bu=iH b? (8*b?.length+1)) (Sp:=λpre=>∃k,k<=8*b?.length+1/\pre=iH b? k) (N:=128)
   ?seq ?kt ?kb (Below.refl _ _) (λ_=>rfl)
   (λpre W=>((∃v,Boxed W (w.heap.size+1+1+1+1) 71 v/\W.ownsRow (w.heap.size+1+1+1) 3 1 v (k_ pre).length (qk pre)/\¬65∈pre)/\rZ w.heap.size (.slice none 0 0) 0 0 (.slice (some ⟨b,off+A,none⟩) 8 (cap-A)) W)/\Below w.heap.size w W)
   (λc pre W=>((c=.ret/\65∈pre)/\rZ w.heap.size (.slice none 0 0) 0 2 (.slice (some ⟨b,off+A,none⟩) 8 (cap-A)) W)/\Below w.heap.size w W)
   (OwnFrom.and (OwnFrom.and (Own.from (holdsRow_own (w.heap.size+1+1+1) _ 71 3 1 (λpre=>(k_ pre).length) qk (λpre v=>¬65∈pre)) _) (Own.from (Ji w.heap.size (.slice none 0 0) 0 0 (.slice (some ⟨b,off+A,none⟩) 8 (cap-A))) _)) (ownFrom_below (b1 _) fK))
   (λc=>OwnFrom.and (OwnFrom.and (ownFrom_pure _ _) (Own.from (Ji w.heap.size (.slice none 0 0) 0 2 (.slice (some ⟨b,off+A,none⟩) 8 (cap-A))) _)) (ownFrom_below (b1 _) fK))
   ?start
   (λx=>{ tmps:=#[Value.slice (some { block:=b,off:=off+A }) N (cap-A),Value.int IntKind.i64 (A:Int),undef,undef,Value.pointer (some { block:=w.heap.size,off:=0 }),Value.pointer (some { block:=w.heap.size+1,off:=0 }),Value.pointer (some { block:=w.heap.size+1+1,off:=0 }),Value.int IntKind.i64 8,Value.pointer (some { block:=w.heap.size+1+1+1+1,off:=0 }),Value.int IntKind.i64 (x:Int),Value.int IntKind.i64 (A:Int),Value.bool false,Value.bool false,Value.int IntKind.i64 (A:Int),Value.slice (some { block:=b,off:=off }) (A+N) cap,Value.int IntKind.i64 ((A:Int)+(N:Int)),Value.bool (decide ((A:Int)+(N:Int)<(A:Int))),Value.bool (decide ((A:Int)+(N:Int)<(A:Int))),Value.slice (some { block:=b,off:=off }) (A+N) cap,Value.int IntKind.i64 (A:Int),Value.slice (some { block:=b,off:=off+A }) N (cap-A),Value.slice (some { block:=b,off:=off+A }) N (cap-A),Value.int IntKind.i64 (N:Int),Value.bool true,Value.bool true,Value.slice (some { block:=b,off:=off+A }) N (cap-A),Value.pointer (some { block:=b,off:=off+A }),Value.int IntKind.u8 (aO c0),Value.int IntKind.u8 0,Value.bool false,Value.bool false,Value.slice (some { block:=b,off:=off+A }) N (cap-A),Value.int IntKind.i64 (N:Int),Value.int IntKind.i64 8,Value.bool false,Value.slice (some { block:=w.heap.size+1+1+1,off:=0 }) 0 0,Value.slice (some { block:=b,off:=off+A }) N (cap-A),Value.int IntKind.i64 8,Value.slice (some { block:=b,off:=off+A }) 8 (cap-A),Value.func (Fn.func 344) #[] #[Value.pointer (some { block:=w.heap.size+1+1+1+1+1,off:=0 })],Value.int IntKind.i64 (x:Int),undef,undef,undef,undef,undef,undef,undef,undef,undef,undef,undef,undef,undef,undef,undef,undef,undef,undef,undef,undef,undef,undef,undef,undef,undef,undef,undef,undef],defers:=[] }) ?assign ?body ?done ?stop
  case seq=>
   intro l h_ s' W hW le acP wC aq;have cZ:w.heap.size+6<=W.heap.size:=by have:=hW.size;simp at this;omega
   refine(ah1 mx w X dq qr (m+1) l (w.heap.size+1+1+1+1+1) w.heap.size b (off+A) (cap-A) b? J aa h_ s' (λs lv td ab aa=>le s lv td none ab ⟨aa.os,aa.tape,aa.output,aa.size,λk am _=>aa.block k am⟩ (λr e=>by cases e)) (λpre x lv ap _ _ hl=>wC pre x lv ap hl) W (Ar.trans (hW.mono fK)) rfl ?_ J J (λj h => ?_) aq).mono ?_
   .rw[u9];exact(hW.cell (p:=⟨w.heap.size+1+1+1+1+1,0,none⟩) bp).trans z8.cell
   .exact(hW.cell (p:=⟨b,off+A+j,none⟩) fK).trans ((Ar.cell (p:=⟨b,off+A+j,none⟩) aa).trans (ah j h))
   rintro e gh ⟨aC,h⟩;exact⟨aC,h.elim (λh=>.inl ⟨_,rfl,h⟩) (λ⟨k,am,h⟩=>.inr ⟨_,⟨k,am,rfl⟩,h⟩)⟩
  case kt=>exact λh k=>⟨h.1.trans k.1,k.2.trans h.2⟩
  case kb =>intro W l o dz hl aK O R;simp at hl;exact⟨belowK_b (w:=w) (b1 _) W l o dz J aK O R,World.cell?_of_block (World.putObj_heap_other fK)⟩
  case start=>exact⟨⟨⟨_,Gc.alloc _,(HJ.alloc _).alloc _,bp⟩,⟨eD.alloc _ |>.alloc _ |>.alloc _ |>.alloc _ |>.alloc _,e9.alloc _ |>.alloc _ |>.alloc _ |>.alloc _,eo.alloc _ |>.alloc _ |>.alloc _,z8⟩⟩,Ar⟩
  case assign=>
   intro l x W K gb
   gi_wp2
   exact gb
  case body=>
   rintro l pre x W ⟨⟨⟨v,aB,eI,nA⟩,ai⟩,az⟩ bn;have Tu:=aB.cell;have MM:=ai.c0.cell;have AG:=ai.c0.frozen;have T4:=ai.c1.cell;have T5:=ai.c1.frozen;have T6:=ai.c2.cell;have T7:=ai.c2.frozen;have aqL:=ai.c5.lt;have jh:(k_ pre).length<=pre.length:=ls _ _;by_cases AO:x=65
   .subst AO
    gi_wp2
    exact⟨(NK _ _ _ _ _).from _,⟨⟨rfl,bp⟩,EP ai _ _ _⟩,az.trans (D0 _ _ _ _ _)⟩
   have atO:¬(x:Int)=65:=J;by_cases wV:1<x
   .have Ui:(1:Int)<(x:Int):=J
    gi_wp2_with (gi_at_builtin;refine uJ.bC ?_)
    refine⟨?_⟩;refine wpListIn_append_own _ rfl _ _ 71 rfl (w.heap.size+1+1+1) 3 DU (.int .i64 0) 1 8 ajj ac HU ad5 ad6 rfl bO v (k_ pre).length (qk pre) rfl (eI.alloc _) ⟨W.heap.size,0,none⟩ 1 1 [.int .i64 (x:Int)] rfl rfl ?hcell ?hone ?hb1 ?hb2 ?hb3 ?hrest
    case hcell=>exact cell_one_new _ _ _
    case hone=>simp[Value.oneCell']
    case hb1=>simp[maxLen];omega
    case hb2=>omega
    case hb3=>have:=az.size;simp;omega
    case hrest=>
     intro cT co HH Hy _;obtain⟨g6,cap',rfl⟩:=ownsRow_succ HH;obtain⟨yF,DQ,T3,l3,hb2⟩:=aB.appended bO eI J J HH Hy;have Tl:Boxed co (w.heap.size+1+1+1+1+1) 26 _:=(ai.c5.alloc (.cells #[Value.int .i64 (x:Int)] 3)).kept Hy (ai.c5.not_row bO eI);have tG:=yF.cell;have TD:=yF.frozen
     gi_wp2
     have Hb:=Tl.uc (C:=w.heap.size+1+1+1+1) J (.slice (some ⟨g6,0,none⟩) ((k_ pre).length+1) cap');have Hf:=hb2.mono (B':=w.heap.size) J;refine⟨l3.from _,⟨Hf,Hb.cell.trans ai.c5.cell.symm⟩,⟨⟨_,DQ,?_,?_⟩,agP ai hb2 Hb⟩,az.trans Hf⟩
     .rw[qk,aaC wV];simpa[qk]using T3
     simpa[nA]using λe=>AO e.symm
   have Ui:¬(1:Int)<(x:Int):=J
   gi_wp2
   refine⟨KeepsFrom.refl _ _,⟨Below.refl _ _,rfl⟩,⟨⟨v,aB,?_,?_⟩,ai⟩,az⟩
   .rw[qk,aaD wV];exact eI
   simpa[nA]using λe=>AO e.symm
  case done=>
   rintro D bu W jp rfl ⟨⟨⟨v,aB,eI,nA⟩,ai⟩,az⟩ gb;have Tu:=aB.cell;have MM:=ai.c0.cell;have AG:=ai.c0.frozen;have T4:=ai.c1.cell;have T5:=ai.c1.frozen;have T6:=ai.c2.cell;have T7:=ai.c2.frozen;have l1:=λv n e=>(NK w.heap.size v n e W).same D _ gb rfl;have MU:=X8 b? (8*b?.length+1) J;have jh:(k_ (iH b? (8*b?.length+1))).length<=(iH b? (8*b?.length+1)).length:=ls _ _;obtain⟨C,cC⟩:∃C,uJ (C=k_ (iH b? (8*b?.length+1))):=⟨_,⟨rfl⟩⟩;unfold qk at eI;rw[<- cC.bC]at eI jh;have Ta:C.length<=128:=J;have sr:uJ (W.ownsRow (w.heap.size+1+1+1) 3 1 v C.length (C.map λ(n:Nat)=>Value.int .i64 (n:Int))):=⟨eI⟩;clear eI jh MU;obtain⟨L,hL⟩:∃L,uJ (L=C.length):=⟨_,⟨rfl⟩⟩;rw[<- hL.bC]at sr Ta;obtain⟨a,c,HR⟩:∃a c,v=.slice a L c:=by
    rcases sr.bC.2 with⟨h,bE⟩|⟨g,cap',g4,h,_⟩
    .exact⟨none,0,by rw[bE];exact h⟩
    exact⟨_,_,h⟩
   subst HR
   gi_wp2
   case h_1.isFalse aC _=>cases aC
   all_goals
    refine⟨bp,.inl ⟨_,_,rfl,run_takeDeferred (l1 _ _ _),?_⟩⟩;have bs:=((EP ai (.slice a L c) ((A:Int)+8) 0).put (.deferred none) (l1 _ _ _) rfl);refine⟨.tuple #[(.slice a L c),.int .i64 ((A:Int)+8),.int .i64 0],by simp[results,Tryz.f277,go_sem,bs.c0.cell,bs.c1.cell,bs.c2.cell],_,rfl,?_⟩;rw[jq.bC,if_neg (λh=>by have:=h.1;first|exact this.elim|omega)];refine agT dq ((az.trans (D0 _ _ _ _ _)).trans (belowK_b (w:=w) (b1 _) _ D _ _ (by simp at jp;omega) (l1 _ _ _) rfl rfl)) ?_ _;have T':=ag0 sr.bC (.slice a L c) ((A:Int)+8) 0 (.deferred none) gb rfl;rw[<- C2,<- cC.bC,s9,<- hL.bC,PX];exact T'
  case stop =>rintro D c pre W jp ⟨k,am,rfl⟩ ⟨⟨⟨rfl,nA⟩,ai⟩,az⟩ gb;have:=(ajG am nA).2;omega
 have O:bt c0 0=true:=bw.2 rfl;rw[O]at wD;clear O;have u3:¬(N:Int)<16:=J;have aqJ:¬N<16:=J
 gi_wp2_with (gi_at_call 319;refine(ah4 _ _ _ rfl).mono ?_;rintro e w' ⟨rfl,rfl⟩)
 have Gc:=Boxed.new ((((w.alloc (.cells #[.slice none 0 0] 71)).alloc (.cells #[.int .i64 0] 3)).alloc (.cells #[.int .i64 0] 59)).alloc (.cells #[] 3)) 71 (.slice (some ⟨w.heap.size+1+1+1,0,none⟩) 0 0);have z8:=Boxed.new (((((w.alloc (.cells #[.slice none 0 0] 71)).alloc (.cells #[.int .i64 0] 3)).alloc (.cells #[.int .i64 0] 59)).alloc (.cells #[] 3)).alloc (.cells #[.slice (some ⟨w.heap.size+1+1+1,0,none⟩) 0 0] 71)) 26 (.slice (some ⟨b,off+A,none⟩) 16 (cap-A));have eD:=Boxed.new w 71 (.slice none 0 0);have e9:=Boxed.new (w.alloc (.cells #[.slice none 0 0] 71)) 3 (.int .i64 0);have eo:=Boxed.new ((w.alloc (.cells #[.slice none 0 0] 71)).alloc (.cells #[.int .i64 0] 3)) 59 (.int .i64 0);have HJ:=World.ownsRow_made (base:=w.heap.size+1+1+1) (e:=3) (size:=1) (((w.alloc (.cells #[.slice none 0 0] 71)).alloc (.cells #[.int .i64 0] 3)).alloc (.cells #[.int .i64 0] 59)) #[] 0 bp (by unfold maxLen;omega) rfl;simp only[World.size_alloc]at Gc z8 e9 eo HJ;have Ar:Below w.heap.size w ((((((w.alloc (.cells #[.slice none 0 0] 71)).alloc (.cells #[.int .i64 0] 3)).alloc (.cells #[.int .i64 0] 59)).alloc (.cells #[] 3)).alloc (.cells #[.slice (some ⟨w.heap.size+1+1+1,0,none⟩) 0 0] 71)).alloc (.cells #[.slice (some ⟨b,off+A,none⟩) 16 (cap-A)] 26)):=
  (((wh w _ _ _).alloc fK _).alloc fK _).alloc fK _
 refine wpIn_rangeFunc_ownG rfl J (gf:=344) (lb:=#[.pointer (some ⟨w.heap.size+1+1+1+1+1,0,none⟩)]) rfl trivial (enters_of Tryz.func344 (by kernel_rfl) rfl)
  (encs:=λx:Nat=>#[.int .i64 (x:Int)]) (Kp:=UD w.heap.size (w.heap.size+1+1+1+1+1)) (S:=λbu=>bu=iH b? (8*b?.length+1)) (Sp:=λpre=>∃k,k<=8*b?.length+1/\pre=iH b? k) (N:=128)
  ?seq ?kt ?kb (Below.refl _ _) (λ_=>rfl)
  (λpre W=>((∃v,Boxed W (w.heap.size+1+1+1+1) 71 v/\W.ownsRow (w.heap.size+1+1+1) 3 1 v (k_ pre).length (qk pre)/\¬65∈pre)/\rZ w.heap.size (.slice none 0 0) 0 0 (.slice (some ⟨b,off+A,none⟩) 16 (cap-A)) W)/\Below w.heap.size w W)
  (λc pre W=>((c=.ret/\65∈pre)/\rZ w.heap.size (.slice none 0 0) 0 2 (.slice (some ⟨b,off+A,none⟩) 16 (cap-A)) W)/\Below w.heap.size w W)
  (OwnFrom.and (OwnFrom.and (Own.from (holdsRow_own (w.heap.size+1+1+1) _ 71 3 1 (λpre=>(k_ pre).length) qk (λpre v=>¬65∈pre)) _) (Own.from (Ji w.heap.size (.slice none 0 0) 0 0 (.slice (some ⟨b,off+A,none⟩) 16 (cap-A))) _)) (ownFrom_below (b1 _) fK))
  (λc=>OwnFrom.and (OwnFrom.and (ownFrom_pure _ _) (Own.from (Ji w.heap.size (.slice none 0 0) 0 2 (.slice (some ⟨b,off+A,none⟩) 16 (cap-A))) _)) (ownFrom_below (b1 _) fK))
  ?start
  (λx=>{ tmps:=#[Value.slice (some { block:=b,off:=off+A }) N (cap-A),Value.int IntKind.i64 (A:Int),undef,undef,Value.pointer (some { block:=w.heap.size,off:=0 }),Value.pointer (some { block:=w.heap.size+1,off:=0 }),Value.pointer (some { block:=w.heap.size+1+1,off:=0 }),Value.int IntKind.i64 16,Value.pointer (some { block:=w.heap.size+1+1+1+1,off:=0 }),Value.int IntKind.i64 (x:Int),Value.int IntKind.i64 (A:Int),Value.bool false,Value.bool false,Value.int IntKind.i64 (A:Int),Value.slice (some { block:=b,off:=off }) (A+N) cap,Value.int IntKind.i64 ((A:Int)+(N:Int)),Value.bool (decide ((A:Int)+(N:Int)<(A:Int))),Value.bool (decide ((A:Int)+(N:Int)<(A:Int))),Value.slice (some { block:=b,off:=off }) (A+N) cap,Value.int IntKind.i64 (A:Int),Value.slice (some { block:=b,off:=off+A }) N (cap-A),Value.slice (some { block:=b,off:=off+A }) N (cap-A),Value.int IntKind.i64 (N:Int),Value.bool true,Value.bool true,Value.slice (some { block:=b,off:=off+A }) N (cap-A),Value.pointer (some { block:=b,off:=off+A }),Value.int IntKind.u8 (aO c0),Value.int IntKind.u8 (Go.bits BinOp.and IntKind.u8 (aO c0) 128),Value.bool true,Value.bool true,Value.slice (some { block:=b,off:=off+A }) N (cap-A),Value.int IntKind.i64 (N:Int),Value.int IntKind.i64 16,Value.bool false,Value.slice (some { block:=w.heap.size+1+1+1,off:=0 }) 0 0,Value.slice (some { block:=b,off:=off+A }) N (cap-A),Value.int IntKind.i64 16,Value.slice (some { block:=b,off:=off+A }) 16 (cap-A),Value.func (Fn.func 344) #[] #[Value.pointer (some { block:=w.heap.size+1+1+1+1+1,off:=0 })],Value.int IntKind.i64 (x:Int),undef,undef,undef,undef,undef,undef,undef,undef,undef,undef,undef,undef,undef,undef,undef,undef,undef,undef,undef,undef,undef,undef,undef,undef,undef,undef,undef,undef],defers:=[] }) ?assign ?body ?done ?stop
 case seq=>
  intro l h_ s' W hW le acP wC aq;have cZ:w.heap.size+6<=W.heap.size:=by have:=hW.size;simp at this;omega
  refine(ah1 mx w X dq qr (m+1) l (w.heap.size+1+1+1+1+1) w.heap.size b (off+A) (cap-A) b? J aa h_ s' (λs lv td ab aa=>le s lv td none ab ⟨aa.os,aa.tape,aa.output,aa.size,λk am _=>aa.block k am⟩ (λr e=>by cases e)) (λpre x lv ap _ _ hl=>wC pre x lv ap hl) W (Ar.trans (hW.mono fK)) rfl ?_ J J (λj h => ?_) aq).mono ?_
  .rw[u9];exact(hW.cell (p:=⟨w.heap.size+1+1+1+1+1,0,none⟩) bp).trans z8.cell
  .exact(hW.cell (p:=⟨b,off+A+j,none⟩) fK).trans ((Ar.cell (p:=⟨b,off+A+j,none⟩) aa).trans (ah j h))
  rintro e gh ⟨aC,h⟩;exact⟨aC,h.elim (λh=>.inl ⟨_,rfl,h⟩) (λ⟨k,am,h⟩=>.inr ⟨_,⟨k,am,rfl⟩,h⟩)⟩
 case kt=>exact λh k=>⟨h.1.trans k.1,k.2.trans h.2⟩
 case kb =>intro W l o dz hl aK O R;simp at hl;exact⟨belowK_b (w:=w) (b1 _) W l o dz J aK O R,World.cell?_of_block (World.putObj_heap_other fK)⟩
 case start=>exact⟨⟨⟨_,Gc.alloc _,(HJ.alloc _).alloc _,bp⟩,⟨eD.alloc _ |>.alloc _ |>.alloc _ |>.alloc _ |>.alloc _,e9.alloc _ |>.alloc _ |>.alloc _ |>.alloc _,eo.alloc _ |>.alloc _ |>.alloc _,z8⟩⟩,Ar⟩
 case assign=>
  intro l x W K gb
  gi_wp2
  exact gb
 case body=>
  rintro l pre x W ⟨⟨⟨v,aB,eI,nA⟩,ai⟩,az⟩ bn;have Tu:=aB.cell;have MM:=ai.c0.cell;have AG:=ai.c0.frozen;have T4:=ai.c1.cell;have T5:=ai.c1.frozen;have T6:=ai.c2.cell;have T7:=ai.c2.frozen;have aqL:=ai.c5.lt;have jh:(k_ pre).length<=pre.length:=ls _ _;by_cases AO:x=65
  .subst AO
   gi_wp2
   exact⟨(NK _ _ _ _ _).from _,⟨⟨rfl,bp⟩,EP ai _ _ _⟩,az.trans (D0 _ _ _ _ _)⟩
  have atO:¬(x:Int)=65:=J;by_cases wV:1<x
  .have Ui:(1:Int)<(x:Int):=J
   gi_wp2_with (gi_at_builtin;refine uJ.bC ?_)
   refine⟨?_⟩;refine wpListIn_append_own _ rfl _ _ 71 rfl (w.heap.size+1+1+1) 3 DU (.int .i64 0) 1 8 ajj ac HU ad5 ad6 rfl bO v (k_ pre).length (qk pre) rfl (eI.alloc _) ⟨W.heap.size,0,none⟩ 1 1 [.int .i64 (x:Int)] rfl rfl ?hcell ?hone ?hb1 ?hb2 ?hb3 ?hrest
   case hcell=>exact cell_one_new _ _ _
   case hone=>simp[Value.oneCell']
   case hb1=>simp[maxLen];omega
   case hb2=>omega
   case hb3=>have:=az.size;simp;omega
   case hrest=>
    intro cT co HH Hy _;obtain⟨g6,cap',rfl⟩:=ownsRow_succ HH;obtain⟨yF,DQ,T3,l3,hb2⟩:=aB.appended bO eI J J HH Hy;have Tl:Boxed co (w.heap.size+1+1+1+1+1) 26 _:=(ai.c5.alloc (.cells #[Value.int .i64 (x:Int)] 3)).kept Hy (ai.c5.not_row bO eI);have tG:=yF.cell;have TD:=yF.frozen
    gi_wp2
    have Hb:=Tl.uc (C:=w.heap.size+1+1+1+1) J (.slice (some ⟨g6,0,none⟩) ((k_ pre).length+1) cap');have Hf:=hb2.mono (B':=w.heap.size) J;refine⟨l3.from _,⟨Hf,Hb.cell.trans ai.c5.cell.symm⟩,⟨⟨_,DQ,?_,?_⟩,agP ai hb2 Hb⟩,az.trans Hf⟩
    .rw[qk,aaC wV];simpa[qk]using T3
    simpa[nA]using λe=>AO e.symm
  have Ui:¬(1:Int)<(x:Int):=J
  gi_wp2
  refine⟨KeepsFrom.refl _ _,⟨Below.refl _ _,rfl⟩,⟨⟨v,aB,?_,?_⟩,ai⟩,az⟩
  .rw[qk,aaD wV];exact eI
  simpa[nA]using λe=>AO e.symm
 case done=>
  rintro D bu W jp rfl ⟨⟨⟨v,aB,eI,nA⟩,ai⟩,az⟩ gb;have Tu:=aB.cell;have MM:=ai.c0.cell;have AG:=ai.c0.frozen;have T4:=ai.c1.cell;have T5:=ai.c1.frozen;have T6:=ai.c2.cell;have T7:=ai.c2.frozen;have l1:=λv n e=>(NK w.heap.size v n e W).same D _ gb rfl;have MU:=X8 b? (8*b?.length+1) J;have jh:(k_ (iH b? (8*b?.length+1))).length<=(iH b? (8*b?.length+1)).length:=ls _ _;obtain⟨C,cC⟩:∃C,uJ (C=k_ (iH b? (8*b?.length+1))):=⟨_,⟨rfl⟩⟩;unfold qk at eI;rw[<- cC.bC]at eI jh;have Ta:C.length<=128:=J;have sr:uJ (W.ownsRow (w.heap.size+1+1+1) 3 1 v C.length (C.map λ(n:Nat)=>Value.int .i64 (n:Int))):=⟨eI⟩;clear eI jh MU;by_cases S?:C.length=0
  .rw[S?]at sr
   obtain⟨a,c,HR⟩:∃a c,v=.slice a 0 c:=by
    rcases sr.bC.2 with⟨h,_⟩|⟨g,cap',g4,h,_⟩
    .exact⟨_,_,h⟩
    exact⟨_,_,h⟩
   subst HR
   gi_wp2
   refine⟨bp,.inl ⟨_,_,rfl,run_takeDeferred (l1 _ _ _),?_⟩⟩;have bs:=((EP ai (.slice none 0 0) (0) 2).put (.deferred none) (l1 _ _ _) rfl);refine⟨.tuple #[(.slice none 0 0),.int .i64 (0),.int .i64 2],by simp[results,Tryz.f277,go_sem,bs.c0.cell,bs.c1.cell,bs.c2.cell],_,rfl,?_⟩;have hall:∀n∈ii b?,n<65:=by intro n ak;rw[<- C2,<- cC.bC,iR.1 S?]at ak;cases ak
   rw[jq.bC,if_pos ⟨by trivial,.inr hall⟩];exact zh dq ((az.trans (D0 _ _ _ _ _)).trans (belowK_b (w:=w) (b1 _) _ D _ _ (by simp at jp;omega) (l1 _ _ _) rfl rfl)) 2
  obtain⟨L,hL⟩:∃L,C.length=L+1:=⟨C.length-1,J⟩;rw[hL]at sr Ta;obtain⟨g,cap',z,HR,HU,ac7⟩:∃g cap' z,v=.slice (some ⟨g,0,none⟩) (L+1) cap'/\uJ (C[L]?=some z)/\W.cell? ⟨g,L,none⟩=some (.int .i64 (z:Int)):=by
   rcases sr.bC.2 with⟨h,bE⟩|⟨g,cap',g4,h,hg,hh,su,l3,fC,ka⟩
   .omega
   refine⟨g,cap',C[L]'J,h,⟨km J⟩,?_⟩;rw[World.cell?,hh];have O:g4.toList[L]?=some (Value.int .i64 ((C[L]'J:Nat):Int)):=by have R:(List.take ((L+1)*1) g4.toList)[L]?=g4.toList[L]?:=FW J;rw[<- R,ka,FZ,km (show L<C.length by omega)];rfl
   have af:g4[L]?=some (Value.int .i64 ((C[L]'J:Nat):Int)):=by rw[<- O];simp
   simpa using af
  subst HR;clear S?;have G?:uJ (C.length=L+1):=⟨hL⟩;clear hL;have u5:¬((L+1:Nat):Int)=0:=J;have DS:wrap64 (((L+1:Nat):Int)-1)=(L:Int):=by rw[show((L+1:Nat):Int)-1=(L:Int) by omega];unfold wrap64;omega
  have wK:(L:Int)<((L+1:Nat):Int):=J;have aCj:(0:Int)<=(L:Int):=J;by_cases atU:(z:Int)<65
  .gi_wp2
   refine⟨bp,.inl ⟨_,_,rfl,run_takeDeferred (l1 _ _ _),?_⟩⟩;have bs:=((EP ai (.slice none 0 0) (0) 2).put (.deferred none) (l1 _ _ _) rfl);refine⟨.tuple #[(.slice none 0 0),.int .i64 (0),.int .i64 2],by simp[results,Tryz.f277,go_sem,bs.c0.cell,bs.c1.cell,bs.c2.cell],_,rfl,?_⟩;have hall:∀n∈ii b?,n<65:=by intro n ak;have:=awn (by rw[<- C2,<- cC.bC];exact G?.bC) (by rw[<- C2,<- cC.bC];exact HU.bC) n ak;omega
   rw[jq.bC,if_pos ⟨by trivial,.inr hall⟩];exact zh dq ((az.trans (D0 _ _ _ _ _)).trans (belowK_b (w:=w) (b1 _) _ D _ _ (by simp at jp;omega) (l1 _ _ _) rfl rfl)) 2
  gi_wp2
  refine⟨bp,.inl ⟨_,_,rfl,run_takeDeferred (l1 _ _ _),?_⟩⟩;have bs:=((EP ai (.slice (some ⟨g,0,none⟩) (L+1) cap') ((A:Int)+16) 0).put (.deferred none) (l1 _ _ _) rfl);refine⟨.tuple #[(.slice (some ⟨g,0,none⟩) (L+1) cap'),.int .i64 ((A:Int)+16),.int .i64 0],by simp[results,Tryz.f277,go_sem,bs.c0.cell,bs.c1.cell,bs.c2.cell],_,rfl,?_⟩;rw[jq.bC,if_neg (λh=>h.2.elim (λh=>nA (awl h)) (λh=>absurd atU (by have:=h z (by rw[<- C2,<- cC.bC];exact p' HU.bC);omega)))];refine agT dq ((az.trans (D0 _ _ _ _ _)).trans (belowK_b (w:=w) (b1 _) _ D _ _ (by simp at jp;omega) (l1 _ _ _) rfl rfl)) ?_ _;have T':=ag0 sr.bC (.slice (some ⟨g,0,none⟩) (L+1) cap') ((A:Int)+16) 0 (.deferred none) gb rfl;rw[<- C2,<- cC.bC,s9,G?.bC,PX];exact T'
 case stop=>
  rintro D c pre W jp ⟨k,am,rfl⟩ ⟨⟨⟨rfl,nA⟩,ai⟩,az⟩ gb
  gi_wp2
  refine⟨bp,.inl ⟨_,_,rfl,run_takeDeferred gb,?_⟩⟩;have bs:=ai.put (.deferred none) gb rfl;refine⟨.tuple #[.slice none 0 0,.int .i64 0,.int .i64 2],by simp[results,Tryz.f277,go_sem,bs.c0.cell,bs.c1.cell,bs.c2.cell],_,rfl,?_⟩;rw[jq.bC,if_pos ⟨by trivial,.inl (ajG am nA).1⟩];exact zh dq (az.trans (belowK_b (w:=w) (b1 _) _ D _ _ (by simp at jp;omega) gb rfl rfl)) 2
end Yp
namespace Yp
open Go Go.Proofs
abbrev Ov:e6:=⟨[.sl (.int .u8),.int .i64],[.ow (.int .i64),.im (.int .i64),.im (.int .i64)],Y6⟩
def ars{c:V}(h:0<c.length):iz c 1=bt c[0] 0:=by
 unfold iz ao
 grind
set_option maxRecDepth 100000 in
def ayl(mx:gK Tryz.prog 327 ⟨[.int .i64],[.im (.int .i64),.im (.int .u8)],uP⟩)(l:V)(df:Int)(a:Option Addr)(cap:Nat)(w:World)(X:Nat->Prop)(dq:∀b,X b->b<w.heap.size)(qr:mA Tryz.prog (view w X))(O:l.length<=cap)(u3:cap<=9223372036854775807)
  (af:l=[]\/∃b o c el fz,a=some ⟨b,o,none⟩/\view w X b=some (.cells c el fz)/\o+l.length*1<=c.size/\∀(i:Nat) (x:UInt8),l[i]?=some x->cM c (o+i*1) 1=[Value.int .u8 (aO x)]) :
  Calls Tryz.prog 277 #[Value.slice a l.length cap,Value.int .i64 df] w λe w'=>∃b5,e=.returned b5/\iT w X w' Ov.res (lW l df) b5:=by
 by_cases dx:df<0
 .have e:lW l df=([],0,1,()):=if_pos (.inl dx)
  refine(callsIn_wide (n:=0)).1 (ayg a _ cap df dx 0 w X dq |>.mono ?_);intro bB w' ⟨b5,h,bE⟩;exact⟨b5,h,by rw[e];exact bE⟩
 by_cases az:(l.length:Int)<df
 .have e:lW l df=([],0,1,()):=if_pos (.inr az)
  refine(callsIn_wide (n:=0)).1 (ayh a _ cap df dx az 0 w X dq |>.mono ?_);intro bB w' ⟨b5,h,bE⟩;exact⟨b5,h,by rw[e];exact bE⟩
 obtain⟨A,rfl⟩:∃A:Nat,df=(A:Int):=⟨df.toNat,J⟩;have aqP:A<=l.length:=J;have aoN:lW l (A:Int)=qf (l.drop A) (A:Int):=by unfold lW;rw[if_neg J];rfl
 rw[aoN];have Ho:(l.drop A).length=l.length-A:=eU;by_cases bQ:A=l.length
 .have e:qf (l.drop A) (A:Int)=([],0,3,()):=if_pos (.inl J)
  refine(callsIn_wide (n:=0)).1 (ayi a _ cap A O bQ 0 w X dq |>.mono ?_);intro bB w' ⟨b5,h,bE⟩;exact⟨b5,h,by rw[e];exact bE⟩
 rcases af with rfl|⟨b,o,c,el,fz,rfl,aB,cZ,Hp⟩
 .simp at bQ aqP;omega
 have atv:o+l.length*1<=c.size:=cZ;obtain⟨oY,hh⟩:=jZ.1 aB;have dK:b<w.heap.size:=(iP.1 hh).1;have hcell:∀i,(h:i<l.length)->w.cell? ⟨b,o+i,none⟩=some (.int .u8 (aO l[i])):=by
  intro i h;have cp:cM c (o+i*1) 1=[Value.int .u8 (aO l[i])]:=Hp i l[i] (km h);rw[xU]at cp;have dN:c[o+i]?=some (Value.int .u8 (aO l[i])):=by have:=vP (c:=c) (o:=o+i) (n:=1) (i:=0) J;rw[cp]at this;simpa using this.symm
  rw[World.cell?,hh];simpa using dN
 have oe:=hcell A J;have j':iz (l.drop A) 1=bt (l[A]'J) 0:=by rw[ars J];congr 1;simp
 by_cases kr:(l.drop A).length<8\/(iz (l.drop A) 1=true/\(l.drop A).length<16)
 .have e:qf (l.drop A) (A:Int)=([],0,3,()):=if_pos kr
  have ab:(bt (l[A]'J) 0=true/\l.length-A<16)\/(bt (l[A]'J) 0=false/\l.length-A<8):=by
   rw[j',Ho]at kr;cases aa:bt (l[A]'J) 0
   .rw[aa]at kr;exact .inr ⟨rfl,by simpa using kr⟩
   exact .inl ⟨rfl,J⟩
  refine(callsIn_wide (n:=0)).1 (ayj b o _ cap A O J _ 0 w oe ab X dq dK |>.mono ?_);intro bB w' ⟨b5,h,bE⟩;exact⟨b5,h,by rw[e];exact bE⟩
 have aB9:8<=l.length-A:=J;have run:∀(S:Nat),(S=8\/S=16)->A+S<=l.length->(bt (l[A]'J) 0=true↔S=16)->∀aP,aP=(if S=16/\(65∈ii ((l.drop A).take S)\/∀n∈ii ((l.drop A).take S),n<65) then(([],0,2,()):List Int×Int×Int×Unit) else(((ii ((l.drop A).take S)).map Int.ofNat,(A:Int)+(S:Int),(0:Int),()):List Int×Int×Int×Unit))->qf (l.drop A) (A:Int)=aP ->
   Calls Tryz.prog 277 #[Value.slice (some ⟨b,o,none⟩) l.length cap,Value.int .i64 (A:Int)] w λe w'=>∃b5,e=.returned b5/\iT w X w' Ov.res (qf (l.drop A) (A:Int)) b5:=by
  intro S cx hl Hi aP jq aC;rw[aC];refine(callsIn_wide (n:=3)).1 (ayk mx b o _ cap A S O hl J ((l.drop A).take S) cx (by rw[io,Ho];omega) _ 0 w ?_ oe Hi X dq qr dK aP ⟨jq⟩);intro j ap;have kV:A+j<l.length:=by rw[io,Ho]at ap;omega
  rw[j2,hcell (A+j) kV];simp
 cases aa:bt (l[A]'J) 0
 .rw[aa]at j'
  refine run 8 (.inl rfl) J (by rw[aa];simp) _ rfl ?_;unfold qf;rw[if_neg kr,if_neg (by rw[j'];simp),if_neg J];rfl
 rw[aa]at j';have oV:16<=l.length-A:=by
  rcases oI (l.drop A).length 16 with h|h
  .exact absurd (.inr ⟨j',h⟩) kr
  omega
 refine run 16 (.inr rfl) J (by rw[aa];simp) _ rfl ?_;unfold qf;rw[if_neg kr,if_pos j'];simp only[true_and];rfl
set_option maxRecDepth 100000 in
def ara(mx:gK Tryz.prog 327 ⟨[.int .i64],[.im (.int .i64),.im (.int .u8)],uP⟩):gK Tryz.prog 277 Ov:=by refine⟨⟨Tryz.f277,Tryz.func277,by kernel_rfl,by kernel_rfl⟩,?_⟩;intro w X x vs r dq am bh ai;obtain⟨l,df,⟨⟩⟩:=x;obtain rfl:lW l df=r:=ps ai;obtain⟨cs,ei,rfl,ah,r_,nR,rfl,pE,rfl⟩:=bh;obtain⟨a,cap,rfl,O,R,af⟩:=aI.iM.1 ah;obtain rfl:=aI.iK.1 pE;refine ayl mx l df a cap w X dq am O R (af.imp id ?_);rintro⟨b,o,c,el,fz,rfl,aB,cZ,Hp⟩;exact⟨b,o,c,el,fz,rfl,aB,cZ,λi x hx=>aI.iK.1 (Hp i x hx)⟩
end Yp
namespace Yp
open Go Go.Conc Go.RowKit Go.Proofs
def uu:=@Option.getD_some
section
variable {P:Program} {iw:Frame} {cs:List Frame} {w w₁:World} {es:Array Event} {c cap s r:Nat} {buf:Array Value} {z' v:Value} {tm:Bool}
def aAn(h:stepG P true (G iw cs) w=.comm (G iw cs) #[scase c v z'] false .select w₁ es)(ah:w₁.heap[c]?=some (.chan cap buf false s r tm))(gn:buf.size<cap):
  step P (solo (G iw cs) w)=.next (solo (G (iw.finish (.tuple #[goInt 0,.bool false])) cs) (w₁.setChan c cap (buf.push v) false (s+1) r tm)):=by
 have hp:=partners_alone (c:=c) false;rw[step,stepT_solo rfl];simp[runT,solo,G,Array.swapAt!,Array.swapAt,h,GStep.es,communicate,ways,scase,ah,hp,gn,choose,Sem.run,Question.forced,bind,Sem.bind,pure,Goroutine.finishComm,commResult,World.setChan]at h ⊢
def aAm(h:stepG P true (G iw cs) w=.comm (G iw cs) #[scase c v z'] false .select w₁ es)(ah:w₁.heap[c]?=some (.chan cap buf false s r tm))(va:¬buf.size<cap):
  step P (solo (G iw cs) w)=.next (solo (G (iw.finish (.tuple #[goInt (-1),.bool false])) cs) w₁):=by
 have hp:=partners_alone (c:=c) false;rw[step,stepT_solo rfl];simp[runT,solo,G,Array.swapAt!,Array.swapAt,h,GStep.es,communicate,ways,scase,ah,hp,va,Goroutine.finishComm,commResult]at h ⊢
end
set_option maxRecDepth 100000 in
def axP{w:World}{buf:Array Value}{v:Value}{tm:Bool}(ah:w.heap[c]?=some (.chan cap buf false s r tm))(gn:buf.size<cap):
  Calls Tryz.prog 328 #[.agg #[.chan (some c)],v] w λe w'=>e=.returned (.bool true)/\w'=(w.alloc (.cells #[.chan (some c)] 389)).setChan c cap (buf.push v) false (s+1) r tm:=by
 have bn:c<w.heap.size:=(iP.1 ah).1;refine calls_of_loneTo λcs => ?_;have e:Frame.enter Tryz.prog 328 #[.agg #[.chan (some c)],v] .normal=(base 328).at ⟨#[.agg #[.chan (some c)],v,undef,undef,undef,undef,undef,undef,undef,undef,undef],[]⟩ [.code (Tryz.f328.body.getD .skip)]:=by simp[Frame.enter,Frame.at,Tryz.func328,base,Tryz.f328]
 rw[e];refine LoneTo.goes (n:=16) ?_;simp only[Tryz.f328,uu]
 s_c stepG_seq
 s_reg
 s_op
 s_op
 s_c stepG_region_end
 s_c stepG_seq
 s_c stepG_seq
 s_reg
 s_op
 s_op
 s_c stepG_region_end
 s_reg
 s_op
 s_c stepG_region_end
 s_c stepG_seq
 s_reg
 s_stop
 refine LoneTo.step (aAn (c:=c) (z':=.slice none 0 0) (v:=v) (buf:=buf) (cap:=cap) (s:=s) (r:=r) (tm:=tm) (stepG_comm (cases:=#[scase c v (.slice none 0 0)]) (blocking:=false) (shape:=.select) (w':=w.alloc (.cells #[.chan (some c)] 389)) rfl rfl bO (by simp[go_sem,execOp,scase,Act.eval])) (by rw[heap_alloc_old _ _ bn];exact ah) gn) ?_;rw[Frame.finish_at]
 walk_nrm
 refine LoneTo.goes (n:=9) ?_
 s_op
 s_op
 s_c stepG_region_end
 s_c stepG_block
 s_cond true
 s_c stepG_seq
 s_reg
 s_op
 s_c stepG_region_end
 s_stop
 refine LoneTo.goes (n:=1) ?_
 s_c stepG_ret'
 s_stop
 refine LoneTo.done ⟨.returned (.bool true),_,rfl,⟨rfl,rfl⟩,rfl,rfl,rfl,rfl,_,Tryz.func328,by simp[results,Tryz.f328,Frame.at]⟩
set_option maxRecDepth 100000 in
def axL{w:World}{buf:Array Value}{v:Value}{tm:Bool}(ah:w.heap[c]?=some (.chan cap buf false s r tm))(gn:¬buf.size<cap):
  Calls Tryz.prog 328 #[.agg #[.chan (some c)],v] w λe w'=>e=.returned (.bool false)/\w'=w.alloc (.cells #[.chan (some c)] 389):=by
 have bn:c<w.heap.size:=(iP.1 ah).1;refine calls_of_loneTo λcs => ?_;have e:Frame.enter Tryz.prog 328 #[.agg #[.chan (some c)],v] .normal=(base 328).at ⟨#[.agg #[.chan (some c)],v,undef,undef,undef,undef,undef,undef,undef,undef,undef],[]⟩ [.code (Tryz.f328.body.getD .skip)]:=by simp[Frame.enter,Frame.at,Tryz.func328,base,Tryz.f328]
 rw[e];refine LoneTo.goes (n:=16) ?_;simp only[Tryz.f328,uu]
 s_c stepG_seq
 s_reg
 s_op
 s_op
 s_c stepG_region_end
 s_c stepG_seq
 s_c stepG_seq
 s_reg
 s_op
 s_op
 s_c stepG_region_end
 s_reg
 s_op
 s_c stepG_region_end
 s_c stepG_seq
 s_reg
 s_stop
 refine LoneTo.step (aAm (c:=c) (z':=.slice none 0 0) (v:=v) (buf:=buf) (cap:=cap) (s:=s) (r:=r) (tm:=tm) (stepG_comm (cases:=#[scase c v (.slice none 0 0)]) (blocking:=false) (shape:=.select) (w':=w.alloc (.cells #[.chan (some c)] 389)) rfl rfl bO (by simp[go_sem,execOp,scase,Act.eval])) (by rw[heap_alloc_old _ _ bn];exact ah) gn) ?_;rw[Frame.finish_at]
 walk_nrm
 refine LoneTo.goes (n:=9) ?_
 s_op
 s_op
 s_c stepG_region_end
 s_c stepG_block
 s_cond false
 s_c stepG_seq
 s_reg
 s_op
 s_c stepG_region_end
 s_stop
 refine LoneTo.goes (n:=1) ?_
 s_c stepG_ret'
 s_stop
 refine LoneTo.done ⟨.returned (.bool false),_,rfl,⟨rfl,rfl⟩,rfl,rfl,rfl,rfl,_,Tryz.func328,by simp[results,Tryz.f328,Frame.at]⟩
end Yp
namespace Yp
open Go Go.Conc Go.RowKit Go.Proofs
def D8{P:Program}{Q:Goroutine->World->Prop}{f:FuncId}{args:Array Value}{w:World}{aP:Ending->World->Prop}(ah:Calls P f args w aP){c:Frame}{cs:List Frame}
  (wP:∀e w',aP e w'->∃v,e=.returned v) (h:∀v w',aP (.returned v) w'->LoneTo P Q (G (c.finish v) cs) w'):LoneTo P Q (G (Frame.enter P f args .normal) (c::cs)) w:=by
 obtain⟨e,w',iw,jq,ab,hf,hl⟩:=ah (c::cs);obtain⟨v,rfl⟩:=wP e w' jq;obtain⟨g6,Kf,qv,aQ⟩:=h v w' jq;exact⟨g6,Kf,Steps.trans ab (Steps.head (step_leave_returned hl) qv),aQ⟩
def ace{Q':List Item->Prop}{I:List Item}(h:∀h_,h_=I->Q' h_):Q' I:=h I rfl
structure q2(w w':World)(c cap:Nat)(buf:Array Value):Prop where
 os:w'.os=w.os
 tape:w'.tape=w.tape
 output:w'.output=w.output
 size:w.heap.size<=w'.heap.size
 other:∀b,b<w.heap.size->b≠c->w'.heap[b]?=w.heap[b]?
 ch:∃s r,w'.heap[c]?=some (.chan cap buf false s r false)
def q2.trans{w co cV:World}{e9 eo:Array Value}(h:q2 w co c cap e9)(bE:q2 co cV c cap eo):q2 w cV c cap eo:=
 ⟨bE.os.trans h.os,bE.tape.trans h.tape,bE.output.trans h.output,hH h.size bE.size,λb aa ak=>(bE.other b (gN aa h.size) ak).trans (h.other b aa ak),bE.ch⟩
def RS{w:World}{o:Obj}{buf:Array Value}(ah:w.heap[c]?=some (.chan cap buf false s r false)):q2 w (w.alloc o) c cap buf:=by have bn:c<w.heap.size:=(iP.1 ah).1;exact⟨rfl,rfl,rfl,by rw[iW];exact xP _,λb aa _=>heap_alloc_old w o aa,s,r,by rw[heap_alloc_old w o bn];exact ah⟩
def aar{w:World}{cy rI:Nat}{buf Q_:Array Value}(ah:w.heap[c]?=some (.chan cap buf false s r false)):q2 w (w.setChan c cap Q_ false cy rI false) c cap Q_:=by
 have bn:c<w.heap.size:=(iP.1 ah).1;refine⟨rfl,rfl,rfl,by rw[size_setChan];exact b1 _,λb aa ak => ?_,cy,rI,heap_setChan w c cap Q_ false cy rI false bn⟩;show(w.heap.setIfInBounds c _)[b]?=_
 grind
def axO{w:World}{buf:Array Value}{v:Value}(ah:∃s r,w.heap[c]?=some (.chan cap buf false s r false))(gn:buf.size<cap):
  Calls Tryz.prog 328 #[.agg #[.chan (some c)],v] w λe w'=>e=.returned (.bool true)/\q2 w w' c cap (buf.push v):=by
 obtain⟨s,r,ah⟩:=ah;refine(axP ah gn).mono λe w' h=>⟨h.1,?_⟩;rw[h.2];have O:=RS (o:=.cells #[.chan (some c)] 389) ah;obtain⟨bz,eY,R⟩:=O.ch;exact O.trans (aar R)
def axM{w:World}{buf:Array Value}{v:Value}(ah:∃s r,w.heap[c]?=some (.chan cap buf false s r false))(va:¬buf.size<cap):
  Calls Tryz.prog 328 #[.agg #[.chan (some c)],v] w λe w'=>e=.returned (.bool false)/\q2 w w' c cap buf:=by
 obtain⟨s,r,ah⟩:=ah;refine(axL ah va).mono λe w' h=>⟨h.1,?_⟩;rw[h.2];exact RS ah
def aaq{w w':World}{a:Addr}(h:w'.heap[a.block]?=w.heap[a.block]?):w'.cell? a=w.cell? a:=by unfold World.cell?;rw[h]
def ajA{x:Int}(O : -9223372036854775808<=x)(R:x<=9223372036854775807):IntKind.i64.wrap x=x:=ajz .i64 x O R
set_option maxRecDepth 100000 in
def abG{w:World}{gX:Nat}{a:Option Addr}{buf:Array Value}(ah:∃s r,w.heap[c]?=some (.chan cap buf false s r false))(ak:n<=9223372036854775807)(gn:buf.size<=cap){iF:Nat->Addr}{val:Nat->Value}(asA:∀i,i<n->∀co:World,(Instr.indexAt 39 (.slice a n gX) (.int .i64 i)).run Tryz.prog co=.ok (.pointer (some (iF i))) co)
  (hcell:∀i,i<n->w.cell? (iF i)=some (val i)) (MK:∀i,i<n->(iF i).block<w.heap.size/\(iF i).block≠c) :
  Calls Tryz.prog 290 #[.agg #[.chan (some c)],.slice a n gX] w λe w'=>e=.returned (.int .i64 (min n (cap-buf.size):Nat))/\q2 w w' c cap (buf++((List.range (min n (cap-buf.size))).map val).toArray):=by
 have ac8:c<w.heap.size:=by obtain⟨s,r,ah⟩:=ah;exact(iP.1 ah).1
 refine calls_of_loneTo λcs => ?_;have e:Frame.enter Tryz.prog 290 #[.agg #[.chan (some c)],.slice a n gX] .normal=(base 290).at ⟨#[.agg #[.chan (some c)],.slice a n gX,undef,undef,undef,undef,undef,undef,undef,undef,undef,undef,undef,undef,undef,undef,undef,undef,undef,undef,undef,undef],[]⟩ [.code (Tryz.f290.body.getD .skip)]:=by simp[Frame.enter,Frame.at,Tryz.func290,base,Tryz.f290]
 rw[e];refine LoneTo.goes (n:=16) ?_;simp only[Tryz.f290,uu]
 s_c stepG_seq
 s_reg
 s_op
 s_op
 s_c stepG_region_end
 s_c stepG_seq
 s_c stepG_seq
 s_reg
 s_op
 s_op
 s_op
 s_c stepG_region_end
 s_c stepG_block
 s_c stepG_loop
 s_stop
 have HT:q2 w (w.alloc (.cells #[.chan (some c)] 389)) c cap buf:=by obtain⟨s,r,ah⟩:=ah;exact RS ah
 have sm:(w.alloc (.cells #[.chan (some c)] 389)).heap[w.heap.size]?=some (.cells #[.chan (some c)] 389):=heap_alloc_new _ _;have cZ:(w.alloc (.cells #[.chan (some c)] 389)).heap.size=w.heap.size+1:=iW _ _;generalize w.alloc (.cells #[.chan (some c)] 389)=eZ at HT sm cZ;refine ace (Q':=λh_=>LoneTo _ _ (G ((base 290).at _ h_) _) _) ?_;intro h_ le;have key:∀(k i:Nat) (co:World) (t5 JT B7 nd qV xy B8 B9 B_ zw u8 B? Pk Pl:Value),i+k=n->buf.size+i<=cap->q2 eZ co c cap (buf++((List.range i).map val).toArray)->LoneTo Tryz.prog (λg6 w'=>∃e iw,g6=G iw cs/\(e=.returned (.int .i64 (min n (cap-buf.size):Nat))/\q2 w w' c cap (buf++((List.range (min n (cap-buf.size))).map val).toArray))/\iw.fn=290/\iw.leaving Tryz.prog w' e) (G ((base 290).at ⟨#[.agg #[.chan (some c)],.slice a n gX,.pointer (some ⟨w.heap.size,0,none⟩),undef,.int .i64 0,t5,JT,.slice a n gX,.int .i64 n,.int .i64 i,B7,nd,qV,xy,B8,B9,B_,zw,u8,B?,Pk,Pl],[]⟩ h_) cs) co:=by
  intro k;induction k with
  |zero=>
   intro i co t5 JT B7 nd qV xy B8 B9 B_ zw u8 B? Pk Pl am bW tN;obtain rfl:i=n:=J;rw[le];refine LoneTo.goes (n:=14) ?_
   s_c stepG_seq
   s_reg
   s_op
   s_c stepG_region_end
   s_c stepG_seq
   s_cond false
   s_exit
   s_c stepG_seq
   s_reg
   s_op
   s_op
   s_op
   s_c stepG_region_end
   s_c stepG_ret'
   s_stop
   have hm:min i (cap-buf.size)=i:=J;rw[hm];exact LoneTo.done ⟨.returned (.int .i64 i),_,rfl,⟨rfl,HT.trans tN⟩,rfl,rfl,rfl,rfl,_,Tryz.func290,by simp[results,Tryz.f290,Frame.at]⟩
  |succ k ih=>
   intro i co t5 JT B7 nd qV xy B8 B9 B_ zw u8 B? Pk Pl am bW tN;have bn:i<n:=J;have ac:=asA i bn;have hp:=MK i bn;have e2:co.cell? (iF i)=some (val i):=by rw[<- hcell i bn];exact aaq ((tN.other _ J hp.2).trans (HT.other _ hp.1 hp.2))
   have Ay:co.heap[w.heap.size]?=some (.cells #[.chan (some c)] 389):=(tN.other _ J J).trans sm;have tF:co.cell? ⟨w.heap.size,0,none⟩=some (.chan (some c)):=by simp[World.cell?,Ay]
   rw[le];refine LoneTo.goes (n:=26) ?_
   s_c stepG_seq
   s_reg
   s_op
   s_c stepG_region_end
   s_c stepG_seq
   s_cond true
   s_c stepG_skip
   s_c stepG_seq
   s_c stepG_block
   s_c stepG_seq
   s_reg
   s_op
   s_op
   s_op
   s_op
   s_op
   s_c stepG_region_end
   s_c stepG_seq
   s_reg
   s_op
   s_op
   s_in
   refine goes_call rfl rfl bO rfl Tryz.func328 (by kernel_rfl) rfl ⟨trivial,?_⟩
   walk_nrmf Tryz.f328
   s_stop
   have aC:Frame.enter Tryz.prog 328 #[.agg #[.chan (some c)],val i] .normal=(base 328).at ⟨#[.agg #[.chan (some c)],val i,undef,undef,undef,undef,undef,undef,undef,undef,undef],[]⟩ [.code (Tryz.f328.body.getD .skip)]:=by simp[Frame.enter,Frame.at,Tryz.func328,base,Tryz.f328]
   simp only[Tryz.f328,uu]at aC;rw[<- aC];have u9:(buf++((List.range i).map val).toArray).size=buf.size+i:=bp;by_cases adK:(buf++((List.range i).map val).toArray).size<cap
   .refine D8 (axO tN.ch adK) (λe w' h=>⟨_,h.1⟩) (λv w' h => ?_)
    obtain⟨aB,MT⟩:=h;cases aB;rw[Frame.finish_at]
    walk_nrm
    refine LoneTo.goes (n:=14) ?_
    s_op
    s_c stepG_region_end
    s_cond false
    s_c stepG_skip
    s_c stepG_inBlock
    s_reg
    s_op
    s_op
    s_c stepG_region_end
    s_c stepG_inLoop
    s_stop
    rw[ajA J J];have atg:(buf++((List.range i).map val).toArray).push (val i)=buf++((List.range (i+1)).map val).toArray:=by apply Cy;simp[zN]
    rw[atg]at MT;have:=ih (i+1) w' (.int .i64 i) (val i) (.bool true) (.int .i64 i) (.pointer (some (iF i))) (val i) (.agg #[.chan (some c)]) (val i) (.bool true) (.bool false) u8 (.int .i64 ((i+1:Nat):Int)) Pk Pl J J (tN.trans MT);rw[le]at this;exact this
   refine D8 (axM tN.ch adK) (λe w' h=>⟨_,h.1⟩) (λv w' h => ?_);obtain⟨aB,MT⟩:=h;cases aB;rw[Frame.finish_at]
   walk_nrm
   refine LoneTo.goes (n:=14) ?_
   s_op
   s_c stepG_region_end
   s_cond true
   s_c stepG_seq
   s_reg
   s_op
   s_op
   s_c stepG_region_end
   s_c stepG_ret'
   s_stop
   have hm:min n (cap-buf.size)=i:=J;rw[hm];exact LoneTo.done ⟨.returned (.int .i64 i),_,rfl,⟨rfl,HT.trans (tN.trans MT)⟩,rfl,rfl,rfl,rfl,_,Tryz.func290,by simp[results,Tryz.f290,Frame.at]⟩
 have:=key n 0 eZ undef undef undef undef undef undef undef undef undef undef undef undef undef undef J J (by have:buf++((List.range 0).map val).toArray=buf:=bp;rw[this];obtain⟨s,r,h⟩:=HT.ch;exact⟨rfl,rfl,rfl,b1 _,λ_ _ _=>rfl,s,r,h⟩)
 exact this
def alR:∃i,Tryz.prog.info? 26=some i/\i.bytes=24:=by
 have h:(Tryz.prog.info? 26).map (·.bytes)=some 24:=by kernel_rfl
 obtain⟨i,ac,aa⟩:=lR.1 h;exact⟨i,ac,aa⟩
def avC(n:Nat)(ak:n<=64)(w:World):(Instr.makeChan 387 (.int .i64 n)).run Tryz.prog w=.ok (.chan (some w.heap.size)) (w.alloc (.chan n #[] false 0 0 false)):=by obtain⟨i,ac,aa⟩:=alR;simpa using run_makeChan (P:=Tryz.prog) (w:=w) Tryz.underlying387 ac .i64 n J (by rw[aa];omega)
set_option maxRecDepth 100000 in
def ald{w:World}(ak:n<=64):
  Calls Tryz.prog 289 #[.int .i64 n] w λe w'=>e=.returned (.agg #[.chan (some (w.heap.size+1))])/\w'.os=w.os/\w'.tape=w.tape/\w'.output=w.output/\w'.heap.size=w.heap.size+2/\(∀b,b<w.heap.size->w'.heap[b]?=w.heap[b]?)/\w'.heap[w.heap.size+1]?=some (.chan n #[] false 0 0 false):=by
 refine calls_of_loneTo λcs => ?_;have e:Frame.enter Tryz.prog 289 #[.int .i64 n] .normal=(base 289).at ⟨#[.int .i64 n,undef,undef,undef,undef,undef],[]⟩ [.code (Tryz.f289.body.getD .skip)]:=by simp[Frame.enter,Frame.at,Tryz.func289,base,Tryz.f289]
 rw[e];have HF:=avC n ak;refine LoneTo.goes (n:=16) ?_;simp only[Tryz.f289,uu]
 s_c stepG_seq
 s_reg
 s_op
 s_c stepG_region_end
 s_c stepG_seq
 s_reg
 s_op
 s_op
 s_op
 s_op
 s_c stepG_region_end
 s_c stepG_ret'
 s_stop
 have bw:((w.alloc (.cells #[.chan (some (w.heap.size+1))] 389)).alloc (.chan n #[] false 0 0 false)).heap[w.heap.size]?=some (.cells #[.chan (some (w.heap.size+1))] 389):=by rw[heap_alloc_old _ _ (by rw[iW];omega)];exact heap_alloc_new _ _
 have tF:((w.alloc (.cells #[.chan (some (w.heap.size+1))] 389)).alloc (.chan n #[] false 0 0 false)).cell? ⟨w.heap.size,0,none⟩=some (.chan (some (w.heap.size+1))):=by simp[World.cell?,bw]
 refine LoneTo.done ⟨.returned (.agg #[.chan (some (w.heap.size+1))]),_,rfl,⟨rfl,rfl,rfl,rfl,?_,?_,?_⟩,rfl,rfl,rfl,rfl,_,Tryz.func289,?_⟩
 .rw[iW,iW]
 .intro b aa
  rw[heap_alloc_old _ _ (by rw[iW];omega),heap_alloc_old _ _ aa]
 .have:=heap_alloc_new (w.alloc (.cells #[.chan (some (w.heap.size+1))] 389)) (.chan n #[] false 0 0 false)
  rw[iW]at this;exact this
 generalize((w.alloc (.cells #[.chan (some (w.heap.size+1))] 389)).alloc (.chan n #[] false 0 0 false))=cV at tF;simp only[results,Tryz.f289,Frame.at]
 go_simp
end Yp
namespace Yp
open Go Go.Proofs
def v'(co:World)(lo c:Nat)(vals:Array Value)(m:Nat)(jW:Value):Prop:=
 ∃b gX px,jW=.slice (some ⟨b,0,none⟩) m gX/\co.heap[b]?=some (.cells px 26)/\m<=gX/\gX<=maxLen/\px.size=gX/\(∀j,j<m->px[j]?=vals[j]?)/\lo<=b/\b≠c
def aui:∃i,Tryz.prog.info? 26=some i/\i.size=1/\i.bytes=24/\i.zero=some (.slice none 0 0):=by
 have h:(Tryz.prog.info? 26).map (λi=>(i.size,i.bytes,i.zero))=some (1,24,some (.slice none 0 0)):=by kernel_rfl
 obtain⟨i,ac,aa⟩:=lR.1 h;simp only[pr]at aa;exact⟨i,ac,aa.1,aa.2.1,aa.2.2⟩
structure aj8(w w':World)(lo c:Nat):Prop where
 os:w'.os=w.os
 tape:w'.tape=w.tape
 output:w'.output=w.output
 size:w.heap.size<=w'.heap.size
 other:∀b,b<w.heap.size->(b<lo\/b=c)->w'.heap[b]?=w.heap[b]?
def akG{co:World}{lo m:Nat}{vals:Array Value}{jW v:Value}(h:v' co lo c vals m jW){tV:Nat}(ak:co.heap[tV]?=some (.cells #[v] 26))(aB:vals[m]?=some v)(hm:m+1<=64)(hone:v.oneCell'=true)(rk:lo<=co.heap.size)(ah:c<co.heap.size):
  ∃Fc cV,(Builtin.append_ #[39,39] 39 #[jW,.slice (some ⟨tV,0,none⟩) 1 1]).run Tryz.prog co=.ok Fc cV/\v' cV lo c vals (m+1) Fc/\aj8 co cV lo c:=by
 obtain⟨b,gX,px,rfl,aa,HF,oW,cZ,DR,MF,tF⟩:=h;obtain⟨i,ac,wW,Un,AQ⟩:=aui;have ht:=Tryz.underlying39;have hx:nZ Tryz.prog co i.size 1 (.slice (some ⟨tV,0,none⟩) 1 1) [v]:=by refine⟨λ_=>rfl,λw' bw => ?_⟩;simp only[Builtin.firstCells];have:=EU (P:=Tryz.prog) (w:=w') (b:=tV) (o:=0) (n:=1) (by rw[bw];exact ak) bp;rw[wW];simpa[cM]using this
 by_cases gn:m+1<=gX
 .obtain⟨cV,ai,cO,hp,hl⟩:=Ot (P:=Tryz.prog) (w:=co) (ty:=39) ht ht (.inr ⟨26,rfl⟩) ac hx (b:=b) (o:=0) (sLen:=m) (sCap:=gX) gn aa (.inl rfl) (by rw[wW];simp;omega) (by simpa using hone)
  refine⟨_,cV,ai,⟨b,gX,cO,rfl,hp.jd,gn,oW,?_,?_,MF,tF⟩,⟨hp.os,hp.tape,hp.output,by rw[hp.size];exact b1 _,λb' jP lF=>hp.other b' (by rintro rfl;rcases lF with q|q<;>omega)⟩⟩
  .have O:=congrArg List.length hl
   rw[Fa (by rw[wW];simp;omega)]at O;simpa[cZ]using O
  intro j ap;have O:cO[j]?=cO.toList[j]?:=bp;rw[O,hl,zn (by rw[wW];simp;omega),wW];by_cases q:j<m
  .rw[if_pos J]
   have:=DR j q;simpa using this
  obtain rfl:j=m:=J;rw[if_neg J,if_pos bp,aB];simp
 have aK:nZ Tryz.prog co i.size m (.slice (some ⟨b,0,none⟩) m gX) (cM px 0 m):=by refine⟨λ_=>rfl,λw' bw => ?_⟩;simp only[Builtin.firstCells];rw[wW,xU];exact EU (P:=Tryz.prog) (w:=w') (b:=b) (o:=0) (n:=m) (by rw[bw];exact aa) J
 have ai:=Wp (P:=Tryz.prog) (w:=co) (ty:=39) ht ht (.inr ⟨26,rfl⟩) ac AQ hx (ad:=some ⟨b,0,none⟩) (sLen:=m) (sCap:=gX) aK J (by unfold maxLen;omega) (by rw[Un];omega);have oX:=grownCap_ge co (m+1) gX 26;have oW:=grownCap_le_maxLen co (m+1) gX 26 (by unfold maxLen;omega);refine⟨_,_,ai,⟨co.heap.size,_,_,rfl,r4 co.drew _,oX,oW,?_,?_,rk,J⟩,⟨rfl,rfl,rfl,by rw[iW];exact xP _,λb' jP _=>r5 co.drew _ b' jP⟩⟩
 .rw[Cr,size_zeroCells]
  simp only[Cr,p3,List.length_singleton,qQ (show 0+m<=px.size by omega)];simp[Value.cells];omega
 intro j ap;have rn:(cM px 0 m).length=m:=qQ J;by_cases q:j<m
 .rw[zU (by simp[rn];omega),zU (by simp[rn];omega)]
  rw[v7,vP q,lT];exact DR j q
 obtain rfl:j=m:=J;rw[zU (by simp[rn]),q6 (by simp[rn]),aB];simp[rn]
end Yp
namespace Yp
open Go Go.Conc Go.RowKit Go.Proofs
structure v1(w w':World)(lo c:Nat):Prop where
 os:w'.os=w.os
 tape:w'.tape=w.tape
 output:w'.output=w.output
 size:w.heap.size<=w'.heap.size
 other:∀b,b<lo->b≠c->w'.heap[b]?=w.heap[b]?
def aBb{o:Oper}{a:Act}{K:Act->World->Prop}{r:Result Go.Next}{v:Value}{w':World}(h:r=.ok (.value v) w')(R:K (a.put o.dst v) w'):uponK o a K r:=by rw[h];exact R
set_option maxRecDepth 100000 in
def akz{w:World}{buf:Array Value}(ah:∃s r,w.heap[c]?=some (.chan cap buf false s r false))(Dw:buf.size<=64)(hone:∀v∈buf,∃a n gX,v=.slice a n gX):
  Calls Tryz.prog 291 #[.agg #[.chan (some c)]] w λe w'=>∃jW,e=.returned jW/\v' w' (w.heap.size+1) c buf buf.size jW/\v1 w w' w.heap.size c:=by
 obtain⟨rN,NY,ah⟩:=ah;have ac8:c<w.heap.size:=(iP.1 ah).1;have pE:((w.alloc (.cells #[.chan (some c)] 389)).alloc (.cells #[] 26)).heap[c]?=some (.chan cap buf false rN NY false):=by rw[heap_alloc_old _ _ (by rw[iW];omega),heap_alloc_old _ _ ac8];exact ah
 have asF:=run_len_chan (P:=Tryz.prog) 387 3 Tryz.underlying387 pE;refine calls_of_loneTo λcs => ?_;have e:Frame.enter Tryz.prog 291 #[.agg #[.chan (some c)]] .normal=(base 291).at ⟨#[.agg #[.chan (some c)],undef,undef,undef,undef,undef,undef,undef,undef,undef,undef,undef,undef,undef,undef,undef,undef,undef],[]⟩ [.code (Tryz.f291.body.getD .skip)]:=by simp[Frame.enter,Frame.at,Tryz.func291,base,Tryz.f291]
 rw[e];refine LoneTo.goes (n:=26) ?_;simp only[Tryz.f291,uu]
 s_c stepG_seq
 s_reg
 s_op
 s_op
 s_c stepG_region_end
 s_c stepG_seq
 s_reg
 s_op
 s_op
 s_c stepG_region_end
 s_c stepG_seq
 s_c stepG_seq
 s_reg
 s_op
 s_op
 s_op
 s_op
 s_c stepG_region_end
 s_c stepG_block
 s_c stepG_loop
 s_stop
 have m2:v1 w ((w.alloc (.cells #[.chan (some c)] 389)).alloc (.cells #[] 26)) w.heap.size c:=⟨rfl,rfl,rfl,by rw[iW,iW];omega,λb aa _=>by rw[heap_alloc_old _ _ (by rw[iW];omega),heap_alloc_old _ _ aa]⟩;have sm:((w.alloc (.cells #[.chan (some c)] 389)).alloc (.cells #[] 26)).heap[w.heap.size]?=some (.cells #[.chan (some c)] 389):=by rw[heap_alloc_old _ _ (by rw[iW];omega)];exact heap_alloc_new _ _
 have eI:v' ((w.alloc (.cells #[.chan (some c)] 389)).alloc (.cells #[] 26)) (w.heap.size+1) c buf 0 (.slice (some ⟨w.heap.size+1,0,none⟩) 0 0):=by refine⟨w.heap.size+1,0, #[],rfl,?_,b1 _,nV _,rfl,λj ap=>absurd ap (KG j),b1 _,J⟩;have:=heap_alloc_new (w.alloc (.cells #[.chan (some c)] 389)) (.cells #[] 26);rw[iW]at this;exact this
 have cZ:((w.alloc (.cells #[.chan (some c)] 389)).alloc (.cells #[] 26)).heap.size=w.heap.size+2:=by rw[iW,iW]
 generalize(w.alloc (.cells #[.chan (some c)] 389)).alloc (.cells #[] 26)=eZ at pE m2 sm eI cZ asF;refine ace (Q':=λh_=>LoneTo _ _ (G ((base 291).at _ h_) _) _) ?_;intro h_ le;have key:∀(k i:Nat) (co:World) (jW B? B7 nd qV xy B8 B9 B_ zw:Value),i+k=buf.size->v' co (w.heap.size+1) c buf i jW->v1 w co w.heap.size c->w.heap.size+2<=co.heap.size->co.heap[w.heap.size]?=some (.cells #[.chan (some c)] 389)->(∃s r lx,co.heap[c]?=some (.chan cap lx false s r false)/\lx.toList=buf.toList.drop i) ->
   LoneTo Tryz.prog (λg6 w'=>∃e iw,g6=G iw cs/\(∃jW,e=.returned jW/\v' w' (w.heap.size+1) c buf buf.size jW/\v1 w w' w.heap.size c)/\iw.fn=291/\iw.leaving Tryz.prog w' e) (G ((base 291).at ⟨#[.agg #[.chan (some c)],.pointer (some ⟨w.heap.size,0,none⟩),.slice none 0 0,jW,.slice (some ⟨w.heap.size+1,0,none⟩) 0 0,.pointer (some ⟨w.heap.size,0,none⟩),.chan (some c),.int .i64 buf.size,.int .i64 i,B?,B7,nd,qV,xy,B8,B9,B_,zw],[]⟩ h_) cs) co:=by
  intro k;induction k with
  |zero=>
   intro i co jW B? B7 nd qV xy B8 B9 B_ zw am jq gb kr az cC;obtain rfl:i=buf.size:=J;rw[le];refine LoneTo.goes (n:=14) ?_
   s_c stepG_seq
   s_reg
   s_op
   s_c stepG_region_end
   s_c stepG_seq
   s_cond false
   s_exit
   s_c stepG_seq
   s_reg
   s_op
   s_op
   s_c stepG_region_end
   s_c stepG_ret'
   s_stop
   exact LoneTo.done ⟨.returned jW,_,rfl,⟨jW,rfl,jq,gb⟩,rfl,rfl,rfl,rfl,_,Tryz.func291,by simp[results,Tryz.f291,Frame.at]⟩
  |succ k ih=>
   intro i co jW B? B7 nd qV xy B8 B9 B_ zw am jq gb kr az cC;have bn:i<buf.size:=J;obtain⟨ck,Pu,Pt,ad1⟩:=hone _ (Array.getElem_mem bn);have tF:co.cell? ⟨w.heap.size,0,none⟩=some (.chan (some c)):=by simp[World.cell?,az]
   obtain⟨s,r,lx,Hl,Tq⟩:=cC;have u9:0<lx.size:=by have:=congrArg List.length Tq;simp at this;omega
   have atK:lx.getD 0 undef=buf[i]:=by
    have aq:lx[0]?=some buf[i]:=by rw[<- uB,Tq];simp[bn]
    simp[nk,aq]
   have asd:(lx.extract 1 lx.size).toList=buf.toList.drop (i+1):=by
    have O:(lx.extract 1 lx.size).toList=lx.toList.drop 1:=by rw[Array.toList_extract,List.extract_eq_take_drop];exact il bp
    rw[O,Tq,p8]
   rw[le];refine LoneTo.goes (n:=12) ?_
   s_c stepG_seq
   s_reg
   s_op
   s_c stepG_region_end
   s_c stepG_seq
   s_cond true
   s_c stepG_skip
   s_c stepG_seq
   s_c stepG_block
   s_reg
   s_op
   s_op
   s_stop
   refine LoneTo.goes (n:=1) ?_
   s_op
   s_stop
   refine LoneTo.step (step_lone_recv_buf false (c:=c) (z:=.slice none 0 0) (cap:=cap) (buf:=lx) (closed:=false) (s:=s) (r:=r) (tm:=false) (stepG_comm (cases:=#[rcase c (.slice none 0 0)]) (blocking:=true) (shape:=.recv false) (w':=co) rfl rfl bO (by simp[go_sem,execOp,rcase,Act.eval])) Hl u9) ?_;rw[Frame.finish_at,atK,ad1];simp only[got]
   walk_nrm
   have qv:(co.setChan c cap (lx.extract 1 lx.size) false s (r+1) false).heap.size=co.heap.size:=size_setChan ..
   have mz:q2 co (co.setChan c cap (lx.extract 1 lx.size) false s (r+1) false) c cap (lx.extract 1 lx.size):=aar Hl;generalize co.setChan c cap (lx.extract 1 lx.size) false s (r+1) false=cV at qv mz;obtain⟨b,gX,px,rfl,aa,HF,oW,He,DR,MF,ac1⟩:=jq;have arx:b<co.heap.size:=(iP.1 aa).1;have aq4:v' (cV.alloc (.cells #[.slice ck Pu Pt] 26)) (w.heap.size+1) c buf i (.slice (some ⟨b,0,none⟩) i gX):=⟨b,gX,px,rfl,by rw[heap_alloc_old _ _ J,mz.other b arx ac1];exact aa,HF,oW,He,DR,MF,ac1⟩;obtain⟨Fc,h1,acZ,aq5,Dy⟩:=akG aq4 (heap_alloc_new cV (.cells #[.slice ck Pu Pt] 26)) (v:=.slice ck Pu Pt) (by rw[<- ad1];simp[bn]) J rfl (by rw[iW];omega) (by rw[iW];omega);rw[qv]at acZ;refine LoneTo.goes (n:=12) ?_
   s_op
   s_in;refine goes_oper_k rfl rfl bO (λK gb => ?_)
   refine aBb (v:=Fc) (w':=h1) ?_ ?_
   .simp only[List.getElem_toArray,List.getElem_cons_succ,List.getElem_cons_zero,execOp,resolve,invoke,Go.builtin]
    walk_nrm
    simp only[Sem.run_bind,Sem.run_pure,Result.andThen];rw[acZ]
   refine gb _ _ ⟨trivial,?_⟩;clear gb K
   walk_nrm
   s_op
   s_c stepG_region_end
   s_c stepG_inBlock
   s_reg
   s_op
   s_op
   s_c stepG_region_end
   s_c stepG_inLoop
   s_stop
   rw[ajA J J];have hold:∀b',b'<w.heap.size+1->b'≠c->h1.heap[b']?=co.heap[b']?:=by intro b' jP eR;rw[Dy.other b' (by rw[iW];omega) (.inl jP),heap_alloc_old _ _ J,mz.other b' J eR]
   have atx:=Dy.size;rw[iW]at atx;obtain⟨eh,t1,arF⟩:=mz.ch;have:=ih (i+1) h1 Fc (.bool true) (.slice (some ⟨b,0,none⟩) i gX) (.pointer (some ⟨w.heap.size,0,none⟩)) (.chan (some c)) (.slice ck Pu Pt) (.slice (some ⟨co.heap.size,0,none⟩) 1 1) Fc (.int .i64 ((i+1:Nat):Int)) zw J aq5
    ⟨Dy.os.trans (mz.os.trans gb.os),Dy.tape.trans (mz.tape.trans gb.tape),Dy.output.trans (mz.output.trans gb.output),by have:=gb.size;omega,λb' jP eR=>(hold b' J eR).trans (gb.other b' jP eR)⟩ J ((hold _ J J).trans az)
    ⟨eh,t1,lx.extract 1 lx.size,by rw[Dy.other c (by rw[iW];omega) (.inr rfl),heap_alloc_old _ _ J];exact arF,asd⟩
   rw[le]at this;exact this
 exact key buf.size 0 eZ _ undef undef undef undef undef undef undef undef undef J eI m2 J sm ⟨rN,NY,buf,pE,bp⟩
structure KM(w:World)(a:Option Addr)(n gX:Nat)(iF:Nat->Addr)(val:Nat->Value):Prop where
 ix:∀i,i<n->∀co:World,(Instr.indexAt 39 (.slice a n gX) (.int .i64 i)).run Tryz.prog co=.ok (.pointer (some (iF i))) co
 cell:∀i,i<n->w.cell? (iF i)=some (val i)
 low:∀i,i<n->(iF i).block<w.heap.size
 sl:∀i,i<n->∃a n gX,val i=.slice a n gX
 b3:n<=9223372036854775807
set_option maxRecDepth 100000 in
def axu{w:World}{q l:Value}{hn:Int}(ai:hn<1):
  Calls Tryz.prog 228 #[q,l,.int .i64 hn] w λe w'=>e=.returned (.tuple #[q,.int .i64 0,.int .i64 1])/\w'=w:=by
 refine calls_of_loneTo λcs => ?_;have e:Frame.enter Tryz.prog 228 #[q,l,.int .i64 hn] .normal=(base 228).at ⟨#[q,l,.int .i64 hn,undef,undef,undef,undef,undef,undef,undef,undef,undef,undef,undef,undef,undef,undef,undef,undef,undef,undef,undef,undef,undef,undef,undef,undef,undef,undef,undef,undef,undef,undef],[]⟩ [.code (Tryz.f228.body.getD .skip)]:=by simp[Frame.enter,Frame.at,Tryz.func228,base,Tryz.f228]
 rw[e];refine LoneTo.goes (n:=30) ?_;simp only[Tryz.f228,uu]
 s_c stepG_seq
 s_reg
 s_op
 s_op
 s_op
 s_c stepG_region_end
 s_c stepG_seq
 s_c stepG_seq
 s_reg
 s_op
 s_op
 s_op
 s_in
 rw[stepG_unwanted rfl rfl];simp only[goes_go];refine⟨trivial,?_⟩
 walk_nrm
 s_in
 rw[stepG_unwanted rfl rfl];simp only[goes_go];refine⟨trivial,?_⟩
 walk_nrm
 s_op
 s_c stepG_region_end
 s_cond true
 s_c stepG_seq
 s_reg
 s_op
 s_op
 s_op
 s_op
 s_c stepG_region_end
 s_c stepG_ret'
 s_stop
 exact LoneTo.done ⟨.returned (.tuple #[q,.int .i64 0,.int .i64 1]),_,rfl,⟨rfl,rfl⟩,rfl,rfl,rfl,rfl,_,Tryz.func228,by simp[results,Tryz.f228,Frame.at]⟩
set_option maxRecDepth 100000 in
def axt{w:World}{q l:Value}{hn:Int}(aq:¬hn<1)(ai:64<hn):
  Calls Tryz.prog 228 #[q,l,.int .i64 hn] w λe w'=>e=.returned (.tuple #[q,.int .i64 0,.int .i64 1])/\w'=w:=by
 refine calls_of_loneTo λcs => ?_;have e:Frame.enter Tryz.prog 228 #[q,l,.int .i64 hn] .normal=(base 228).at ⟨#[q,l,.int .i64 hn,undef,undef,undef,undef,undef,undef,undef,undef,undef,undef,undef,undef,undef,undef,undef,undef,undef,undef,undef,undef,undef,undef,undef,undef,undef,undef,undef,undef,undef,undef],[]⟩ [.code (Tryz.f228.body.getD .skip)]:=by simp[Frame.enter,Frame.at,Tryz.func228,base,Tryz.f228]
 rw[e];refine LoneTo.goes (n:=30) ?_;simp only[Tryz.f228,uu]
 s_c stepG_seq
 s_reg
 s_op
 s_op
 s_op
 s_c stepG_region_end
 s_c stepG_seq
 s_c stepG_seq
 s_reg
 s_op
 s_op
 s_op
 s_op
 s_op
 s_op
 s_c stepG_region_end
 s_cond true
 s_c stepG_seq
 s_reg
 s_op
 s_op
 s_op
 s_op
 s_c stepG_region_end
 s_c stepG_ret'
 s_stop
 exact LoneTo.done ⟨.returned (.tuple #[q,.int .i64 0,.int .i64 1]),_,rfl,⟨rfl,rfl⟩,rfl,rfl,rfl,rfl,_,Tryz.func228,by simp[results,Tryz.f228,Frame.at]⟩
set_option maxRecDepth 100000 in
def axw{w:World}{vK eu:Option Addr}{qn sO aV cb aP:Nat}(O:1<=aP)(Dw:aP<=64){agx aeO:Nat->Addr}{tZ yT:Nat->Value}(aQ:KM w vK qn sO agx tZ)(hl:KM w eu aV cb aeO yT):
  Calls Tryz.prog 228 #[.slice vK qn sO,.slice eu aV cb,.int .i64 aP] w λe w'=>(aP<qn/\e=.returned (.tuple #[.slice vK qn sO,.int .i64 0,.int .i64 0])\/qn<=aP/\∃jW,e=.returned (.tuple #[jW,.int .i64 (min aV (aP-qn):Nat),.int .i64 0])/\v' w' w.heap.size (w.heap.size+1) ((List.range qn).map tZ++(List.range (min aV (aP-qn))).map yT).toArray (qn+min aV (aP-qn)) jW)/\v1 w w' w.heap.size (w.heap.size+1):=by
 have MM:¬(aP:Int)<1:=J;have AG:¬(64:Int)<(aP:Int):=J;refine calls_of_loneTo λcs => ?_;have e:Frame.enter Tryz.prog 228 #[.slice vK qn sO,.slice eu aV cb,.int .i64 aP] .normal=(base 228).at ⟨#[.slice vK qn sO,.slice eu aV cb,.int .i64 aP,undef,undef,undef,undef,undef,undef,undef,undef,undef,undef,undef,undef,undef,undef,undef,undef,undef,undef,undef,undef,undef,undef,undef,undef,undef,undef,undef,undef,undef,undef],[]⟩ [.code (Tryz.f228.body.getD .skip)]:=by simp[Frame.enter,Frame.at,Tryz.func228,base,Tryz.f228]
 rw[e];refine LoneTo.goes (n:=30) ?_;simp only[Tryz.f228,uu]
 s_c stepG_seq
 s_reg
 s_op
 s_op
 s_op
 s_c stepG_region_end
 s_c stepG_seq
 s_c stepG_seq
 s_reg
 s_op
 s_op
 s_op
 s_op
 s_op
 s_op
 s_c stepG_region_end
 s_cond false
 s_c stepG_skip
 s_c stepG_seq
 s_reg
 s_op
 s_in
 refine goes_call rfl rfl bO rfl Tryz.func289 (by kernel_rfl) rfl ⟨trivial,?_⟩
 walk_nrmf Tryz.f289
 s_stop
 have yx:Frame.enter Tryz.prog 289 #[.int .i64 aP] .normal=(base 289).at ⟨#[.int .i64 aP,undef,undef,undef,undef,undef],[]⟩ [.code (Tryz.f289.body.getD .skip)]:=by simp[Frame.enter,Frame.at,Tryz.func289,base,Tryz.f289]
 simp only[Tryz.f289,uu]at yx;rw[<- yx];refine D8 (ald Dw) (λe w' h=>⟨_,h.1⟩) (λv co h => ?_);obtain⟨aB,e9,eo,jH,n5,qc,r6⟩:=h;cases aB;rw[Frame.finish_at]
 walk_nrm
 refine LoneTo.goes (n:=30) ?_
 s_op
 s_op
 s_c stepG_region_end
 s_c stepG_seq
 s_c stepG_seq
 s_reg
 s_op
 s_op
 s_stop
 have sm:(co.alloc (.cells #[.chan (some (w.heap.size+1))] 389)).heap[w.heap.size+2]?=some (.cells #[.chan (some (w.heap.size+1))] 389):=by have:=heap_alloc_new co (.cells #[.chan (some (w.heap.size+1))] 389);rw[n5]at this;exact this
 have Hl:∃s r,(co.alloc (.cells #[.chan (some (w.heap.size+1))] 389)).heap[w.heap.size+1]?=some (.chan aP #[] false s r false):=⟨0,0,by rw[heap_alloc_old _ _ J];exact r6⟩;have l3:v1 w (co.alloc (.cells #[.chan (some (w.heap.size+1))] 389)) w.heap.size (w.heap.size+1):=⟨e9,eo,jH,by rw[iW];omega,λb aa _=>by rw[heap_alloc_old _ _ J];exact qc b aa⟩;have qv:(co.alloc (.cells #[.chan (some (w.heap.size+1))] 389)).heap.size=w.heap.size+3:=by rw[iW];omega
 generalize co.alloc (.cells #[.chan (some (w.heap.size+1))] 389)=cV at sm Hl l3 qv;have aiC:∀{a:Option Addr} {n gX:Nat} {iF:Nat->Addr} {val:Nat->Value} (PL:World),KM w a n gX iF val->v1 w PL w.heap.size (w.heap.size+1)->(∀i,i<n->PL.cell? (iF i)=some (val i))/\∀i,i<n->(iF i).block<PL.heap.size/\(iF i).block≠w.heap.size+1:=by intro a n gX iF val PL ab am;refine⟨λi ac => ?_,λi ac=>⟨gN (ab.low i ac) am.size,by have:=ab.low i ac;omega⟩⟩;rw[<- ab.cell i ac];exact aaq (am.other _ (ab.low i ac) (by have:=ab.low i ac;omega))
 refine LoneTo.goes (n:=3) ?_
 s_in
 refine goes_call rfl rfl bO rfl Tryz.func290 (by kernel_rfl) rfl ⟨trivial,?_⟩
 walk_nrmf Tryz.f290
 s_stop
 have u_:Frame.enter Tryz.prog 290 #[.agg #[.chan (some (w.heap.size+1))],.slice vK qn sO] .normal=(base 290).at ⟨#[.agg #[.chan (some (w.heap.size+1))],.slice vK qn sO,undef,undef,undef,undef,undef,undef,undef,undef,undef,undef,undef,undef,undef,undef,undef,undef,undef,undef,undef,undef],[]⟩ [.code (Tryz.f290.body.getD .skip)]:=by simp[Frame.enter,Frame.at,Tryz.func290,base,Tryz.f290]
 simp only[Tryz.f290,uu]at u_;rw[<- u_];have kX:=aiC cV aQ l3;refine D8 (abG Hl aQ.b3 (nV _) aQ.ix kX.1 kX.2) (λe w' h=>⟨_,h.1⟩) (λv fy h => ?_);obtain⟨aB,vg⟩:=h;cases aB;have fC:v1 w fy w.heap.size (w.heap.size+1):=⟨vg.os.trans l3.os,vg.tape.trans l3.tape,vg.output.trans l3.output,hH l3.size vg.size,λb aa eR=>(vg.other b J eR).trans (l3.other b aa eR)⟩;have ac2:fy.heap[w.heap.size+2]?=some (.cells #[.chan (some (w.heap.size+1))] 389):=(vg.other _ J J).trans sm;have aCn:w.heap.size+3<=fy.heap.size:=by have:=vg.size;omega
 have tF:fy.cell? ⟨w.heap.size+2,0,none⟩=some (.chan (some (w.heap.size+1))):=by simp[World.cell?,ac2]
 by_cases va:aP<qn
 .have hm:min qn (aP-(#[]:Array Value).size)=aP:=fK
  rw[hm,Frame.finish_at]
  walk_nrm
  refine LoneTo.goes (n:=30) ?_
  s_op
  s_op
  s_op
  s_c stepG_region_end
  s_cond true
  s_c stepG_seq
  s_reg
  s_op
  s_op
  s_op
  s_op
  s_c stepG_region_end
  s_c stepG_ret'
  s_stop
  exact LoneTo.done ⟨.returned (.tuple #[.slice vK qn sO,.int .i64 0,.int .i64 0]),_,rfl,⟨.inl ⟨va,rfl⟩,fC⟩,rfl,rfl,rfl,rfl,_,Tryz.func228,by simp[results,Tryz.f228,Frame.at]⟩
 have hm:min qn (aP-(#[]:Array Value).size)=qn:=fK;rw[hm]at vg ⊢;rw[Frame.finish_at]
 walk_nrm
 have Tp:#[]++((List.range qn).map tZ).toArray=((List.range qn).map tZ).toArray:=bp;rw[Tp]at vg;have arB:((List.range qn).map tZ).toArray.size=qn:=bp;refine LoneTo.goes (n:=30) ?_
 s_op
 s_op
 s_op
 s_c stepG_region_end
 s_cond false
 s_c stepG_skip
 s_c stepG_seq
 s_reg
 s_op
 s_op
 s_stop
 refine LoneTo.goes (n:=3) ?_
 s_in
 refine goes_call rfl rfl bO rfl Tryz.func290 (by kernel_rfl) rfl ⟨trivial,?_⟩
 walk_nrmf Tryz.f290
 s_stop
 have DF:Frame.enter Tryz.prog 290 #[.agg #[.chan (some (w.heap.size+1))],.slice eu aV cb] .normal=(base 290).at ⟨#[.agg #[.chan (some (w.heap.size+1))],.slice eu aV cb,undef,undef,undef,undef,undef,undef,undef,undef,undef,undef,undef,undef,undef,undef,undef,undef,undef,undef,undef,undef],[]⟩ [.code (Tryz.f290.body.getD .skip)]:=by simp[Frame.enter,Frame.at,Tryz.func290,base,Tryz.f290]
 simp only[Tryz.f290,uu]at DF;rw[<- DF];have adt:=aiC fy hl fC;refine D8 (abG vg.ch hl.b3 J hl.ix adt.1 adt.2) (λe w' h=>⟨_,h.1⟩) (λv h1 h => ?_);obtain⟨aB,oh⟩:=h;cases aB;rw[arB]at oh ⊢;have ka:v1 w h1 w.heap.size (w.heap.size+1):=⟨oh.os.trans fC.os,oh.tape.trans fC.tape,oh.output.trans fC.output,hH fC.size oh.size,λb aa eR=>(oh.other b J eR).trans (fC.other b aa eR)⟩;have arz:h1.heap[w.heap.size+2]?=some (.cells #[.chan (some (w.heap.size+1))] 389):=(oh.other _ J J).trans ac2;have atl:w.heap.size+3<=h1.heap.size:=by have:=oh.size;omega
 have aCa:h1.cell? ⟨w.heap.size+2,0,none⟩=some (.chan (some (w.heap.size+1))):=by simp[World.cell?,arz]
 have hall:((List.range qn).map tZ).toArray++((List.range (min aV (aP-qn))).map yT).toArray=((List.range qn).map tZ++(List.range (min aV (aP-qn))).map yT).toArray:=bp;rw[hall]at oh;have He:((List.range qn).map tZ++(List.range (min aV (aP-qn))).map yT).toArray.size=qn+min aV (aP-qn):=bp;rw[Frame.finish_at]
 walk_nrm
 refine LoneTo.goes (n:=30) ?_
 s_op
 s_c stepG_region_end
 s_c stepG_seq
 s_reg
 s_op
 s_in
 refine goes_call rfl rfl bO rfl Tryz.func291 (by kernel_rfl) rfl ⟨trivial,?_⟩
 walk_nrmf Tryz.f291
 s_stop
 have adf:Frame.enter Tryz.prog 291 #[.agg #[.chan (some (w.heap.size+1))]] .normal=(base 291).at ⟨#[.agg #[.chan (some (w.heap.size+1))],undef,undef,undef,undef,undef,undef,undef,undef,undef,undef,undef,undef,undef,undef,undef,undef,undef],[]⟩ [.code (Tryz.f291.body.getD .skip)]:=by simp[Frame.enter,Frame.at,Tryz.func291,base,Tryz.f291]
 simp only[Tryz.f291,uu]at adf;rw[<- adf];refine D8 (akz oh.ch (by rw[He];omega) ?_) (λe w' h=>h.elim λjW h=>⟨jW,h.1⟩) (λv Cd h => ?_)
 .intro v aB
  simp only[List.mem_toArray,hG,zV,s8]at aB;rcases aB with⟨i,ac,rfl⟩|⟨i,ac,rfl⟩
  .exact aQ.sl i ac
  exact hl.sl i J
 obtain⟨jW,aB,acS,HA⟩:=h;cases aB;rw[He]at acS;rw[Frame.finish_at]
 walk_nrm
 refine LoneTo.goes (n:=30) ?_
 s_op
 s_op
 s_op
 s_op
 s_c stepG_region_end
 s_c stepG_ret'
 s_stop
 refine LoneTo.done ⟨.returned (.tuple #[v,.int .i64 (min aV (aP-qn):Nat),.int .i64 0]),_,rfl,⟨.inr ⟨J,v,rfl,?_⟩,?_⟩,rfl,rfl,rfl,rfl,_,Tryz.func228,by simp[results,Tryz.f228,Frame.at]⟩
 .obtain⟨b,gX,px,eY,gT,t1,V8,axZ,V9,agy,ax0⟩:=acS
  exact⟨b,gX,px,eY,gT,t1,V8,axZ,V9,J,ax0⟩
 exact⟨HA.os.trans ka.os,HA.tape.trans ka.tape,HA.output.trans ka.output,hH ka.size HA.size,λb aa eR=>(HA.other b J eR).trans (ka.other b aa eR)⟩
end Yp
namespace Yp
open Go Go.RowKit Go.Proofs
abbrev zu:ag:=.sl (.sl (.int .u8))
def aiD{w:World}{X:Nat->Prop}{l:List V}{a:Option Addr}(O:l.length<=cap)(R:cap<=maxLen)
  (h:l=[]\/∃b o c el fz,a=some ⟨b,o,none⟩/\view w X b=some (.cells c el fz)/\o+l.length*(ag.sl (.int .u8)).size<=c.size/\∀(i:Nat) (x:V),ic l i=some x->aI (view w X) (.sl (.int .u8)) x (cM c (o+i*(ag.sl (.int .u8)).size) (ag.sl (.int .u8)).size)) :
  ∃iF val,KM w a l.length cap iF val/\∀i (ac:i<l.length),aI (view w X) (.sl (.int .u8)) (l[i]:V) [val i]:=by
 have bW:l.length<=9223372036854775807:=by unfold maxLen at R;omega
 rcases h with rfl|⟨b,o,c,el,fz,rfl,aa,cZ,eI⟩
 .exact⟨λ_=>⟨0,0,none⟩,λ_=>undef,⟨λi ac=>absurd ac (KG i),λi ac=>absurd ac (KG i),λi ac=>absurd ac (KG i),λi ac=>absurd ac (KG i),bW⟩,λi ac=>absurd ac (KG i)⟩
 have cZ:o+l.length<=c.size:=by have:(ag.sl (.int .u8)).size=1:=rfl;rw[this]at cZ;omega
 have hh:=(jZ.1 aa).2;have Hw:∀i,i<l.length->c[o+i]?=some (c[o+i]?.getD undef):=by intro i ac;rw[xV J];rfl
 have ai:∀i (ac:i<l.length),aI (view w X) (.sl (.int .u8)) (l[i]:V) [c[o+i]?.getD undef]:=by
  intro i ac;have:=eI i l[i] (km ac);have ab:cM c (o+i*(ag.sl (.int .u8)).size) (ag.sl (.int .u8)).size=[c[o+i]?.getD undef]:=by
   have e1:(ag.sl (.int .u8)).size=1:=rfl;rw[e1,xU];refine Cx λj => ?_;by_cases ap:j<1
   .obtain rfl:j=0:=J
    rw[vP ap,uy,Hw i ac];rfl
   rw[uA (by rw[qQ J];omega),uA fK]
  rwa [ab]at this
 refine⟨λi=>⟨b,o+i,none⟩,λi=>c[o+i]?.getD undef,⟨λi ac co => ?_,λi ac => ?_,λi _=>(iP.1 hh).1,λi ac => ?_,bW⟩,ai⟩
 .have:=Jo (P:=Tryz.prog) (e:=.sl (.int .u8)) (tid:=39) (tD 39 _ (by kernel_rfl)) (k:=.i64) (i:=(i:Int)) (n:=l.length) (cap:=cap) J J b o co
  rw[this];have e1:(ag.sl (.int .u8)).size=1:=rfl;rw[e1,xU,e7]
 .show w.cell? ⟨b,o+i,none⟩=_
  simp only[World.cell?,hh];rw[Hw i ac];rfl
 obtain⟨a',aBZ,aB,_⟩:=aI.iM.1 (ai i ac);exact⟨_,_,_,xX aB |>.1⟩
abbrev ahz:e6:=⟨[.sl (.sl (.int .u8)),.sl (.sl (.int .u8)),.int .i64],[.im (.sl (.sl (.int .u8))),.im (.int .i64),.im (.int .i64)],I_⟩
def Oc{w w':World}{X:Nat->Prop}(dq:∀b,X b->b<w.heap.size)(as5:w'.os=w.os)(atz:w'.tape=w.tape)(as6:w'.output=w.output)(cZ:w.heap.size<=w'.heap.size)(hold:∀b,b<w.heap.size->w'.heap[b]?=w.heap[b]?){q:List V}{n:Int}{v:Value}(aB:aI (view w' X) zu q [v]):
  ∃b5,Ending.returned (.tuple #[v,.int .i64 n,.int .i64 m])=.returned b5/\iT w X w' [.im zu,.im (.int .i64),.im (.int .i64)] (q,n,m,()) b5:=by
 refine⟨_,rfl,X,as5,atz,as6,cZ,hold,λ_ _=>Qw,λb h=>gN (dq b h) cZ,[v,.int .i64 n,.int .i64 m],?_,rfl⟩;exact⟨[v],_,rfl,aB,[.int .i64 n],_,rfl,aI.iK.2 rfl,[.int .i64 m],[],rfl,aI.iK.2 rfl,rfl⟩
def ay9{w w':World}{X:Nat->Prop}(dq:∀b,X b->b<w.heap.size)(hold:∀b,b<w.heap.size->w'.heap[b]?=w.heap[b]?){q:List V}{vals:Array Value}{jW:Value}(jq:v' w' w.heap.size c vals q.length jW)
  (aQ:∀i (ac:i<q.length),∃v,vals[i]?=some v/\aI (view w X) (.sl (.int .u8)) (q[i]:V) [v]):aI (view w' X) zu q [jW]:=by
 obtain⟨b,gX,px,rfl,aa,HF,oW,He,DR,MF,tF⟩:=jq;have bW:(view w X).cd (view w' X):=zy λb' o d_ aK=>⟨d_,(hold b' (iP.1 aK).1).trans aK⟩;have e1:(ag.sl (.int .u8)).size=1:=rfl;refine aI.iM.2 ⟨some ⟨b,0,none⟩,gX,rfl,HF,oW,.inr ⟨b,0,px,26,(0,0),rfl,jZ.2 ⟨λh=>absurd (dq b h) J,aa⟩,?_,λi x hx => ?_⟩⟩
 .show 0+q.length*1<=px.size
  omega
 obtain⟨ac,rfl⟩:=mR.1 hx;have ac:i<q.length:=ac;obtain⟨v,aB,ai⟩:=aQ i ac;have ab:cM px (0+i*(ag.sl (.int .u8)).size) (ag.sl (.int .u8)).size=[v]:=by
  rw[e1,xU,lT];refine Cx λj => ?_;by_cases ap:j<1
  .obtain rfl:j=0:=J
   rw[vP ap,uy,DR i ac,aB];rfl
  rw[uA (by rw[qQ J];omega),uA fK]
 rw[ab];exact ai.mono bW
def axv{w:World}{X:Nat->Prop}(dq:∀b,X b->b<w.heap.size)(q l:List V)(hn:Int){r:List V×Int×Int×Unit}{GA r_:List Value}(aQ:aI (view w X) zu q GA)(hl:aI (view w X) zu l r_)(ai:I_ (q,l,hn,())=some r):
  Calls Tryz.prog 228 #[cB zu GA,cB zu r_,.int .i64 hn] w λe w'=>∃b5,e=.returned b5/\iT w X w' [.im zu,.im (.int .i64),.im (.int .i64)] r b5:=by
 have T0:=aQ;obtain⟨vK,sO,rfl,bL,ca,cq⟩:=aI.iM.1 aQ;obtain⟨eu,cb,rfl,dZ,fc,oj⟩:=aI.iM.1 hl;obtain⟨agx,tZ,aAe,kD⟩:=aiD (l:=q) bL ca cq;obtain⟨aeO,yT,sl,ay0⟩:=aiD (l:=l) dZ fc oj;unfold I_ at ai;dsimp only at ai;show Calls Tryz.prog 228 #[.slice vK q.length sO,.slice eu l.length cb,.int .i64 hn] w _;by_cases O:hn<1
 .rw[if_pos (.inl O)]at ai
  obtain rfl:=ps ai;refine(axu O).mono λe w' h => ?_;obtain⟨rfl,rfl⟩:=h;exact Oc dq rfl rfl rfl (b1 _) (λ_ _=>rfl) T0
 by_cases R:64<hn
 .rw[if_pos (.inr R)]at ai
  obtain rfl:=ps ai;refine(axt O R).mono λe w' h => ?_;obtain⟨rfl,rfl⟩:=h;exact Oc dq rfl rfl rfl (b1 _) (λ_ _=>rfl) T0
 rw[if_neg J]at ai;obtain⟨aP,rfl⟩:∃aP:Nat,hn=aP:=⟨hn.toNat,J⟩;refine(axw J J aAe sl).mono λe w' h => ?_;obtain⟨h,am⟩:=h;have hold:∀b,b<w.heap.size->w'.heap[b]?=w.heap[b]?:=λb aa=>am.other b aa J;have bW:(view w X).cd (view w' X):=zy λb' o d_ aK=>⟨d_,(hold b' (iP.1 aK).1).trans aK⟩;rcases h with⟨bn,rfl⟩|⟨oX,jW,rfl,jq⟩
 .rw[if_pos J]at ai
  obtain rfl:=ps ai;exact Oc dq am.os am.tape am.output am.size hold (T0.mono bW)
 rw[if_neg J,e7]at ai;obtain rfl:=ps ai;rw[Nat.min_comm (aP-q.length) l.length];have cm:(q++l.take (aP-q.length):List V).length=q.length+min l.length (aP-q.length):=by rw[dd,io,Nat.min_comm]
 refine Oc dq am.os am.tape am.output am.size hold (ay9 dq hold (c:=w.heap.size+1) (vals:=((List.range q.length).map tZ++(List.range (min l.length (aP-q.length))).map yT).toArray) (by rw[cm];exact jq) λi ac => ?_);by_cases MC:i<q.length
 .refine⟨tZ i,?_,?_⟩
  .rw[v7,zO (by simpa using MC)]
   simp[MC]
  rw[KD MC];exact kD i MC
 have ap:i-q.length<min l.length (aP-q.length):=J;refine⟨yT (i-q.length),?_,?_⟩
 .rw[v7,uC fK]
  simp[ap]
 rw[Kz J,KB];exact ay0 _ J
def ard:gK Tryz.prog 228 ahz:=by refine⟨⟨Tryz.f228,Tryz.func228,by kernel_rfl,by kernel_rfl⟩,?_⟩;intro w X x vs r dq lE bh ai;obtain⟨q,l,hn,⟨⟩⟩:=x;obtain⟨GA,ajp,rfl,aQ,r_,nR,rfl,hl,LD,aBn,rfl,atk,rfl⟩:=bh;obtain rfl:=aI.iK.1 atk;exact axv dq q l hn aQ hl ai
end Yp
namespace Yp
open Go
def WX(x:V×V×Unit):Option (Int×Unit):=match x.2.1 with
 |[c]=>some ((x.1.count c:Nat),())
 |_=>none
def aiJ(x:V×V×Unit):Option (Int×Unit):=match x.2.1 with
 |[c]=>some (Lib.indexByte x.1 c,())
 |_=>none
def aiK(x:List V×V×Unit):Option (V×Unit):=
 if x.1.length<=140737488355328/\(x.2.1.intercalate x.1).length<=140737488355328 then some (x.2.1.intercalate x.1,()) else none
def J9 (x:V ×
 Bool ×
  Unit):Option
 (d7 ×
  Bool×Unit):=
 an (b8 0 (bi 32) (bi 32))
 (ob (zD (cut x.1 (ae 0) (cc (ae (bi 32)) (ae 0)),x.2.1,()))
  fun
   (a :
    d7 ×
     Int×Unit)=>
  ob
   (Fv
    (a.1,[(12,0,0,0,aR UInt8,()),(1,0,0,0,aR UInt8,()),(17,0,4,0,aR UInt8,())],()))
   fun
    (a? :
     d7 ×
      List Int×Unit)=>
   T (aj a.2.1 0)
    (T (aj (len a?.2.1) 3)
     (an (aN 0 (len a?.2.1))
      (T (aj (ao a?.2.1 (ae 0) 0) 0)
       (an (aN 1 (len a?.2.1))
        (T (aj (ao a?.2.1 (ae 1) 0) 0)
         (an (aN 2 (len a?.2.1))
          (T (aj (ao a?.2.1 (ae 2) 0) 0)
           (an (aN 0 (bi 2))
           (T
           (aj
           (ao a?.1.1 (ae 0)
           pi).2.2.1
           3)
           (an (aN 1 (bi 2))
           (some
           (a?.1,
           aj
           (ao a?.1.1 (ae 1)
           pi).2.2.1
           3,
           ())))
           (some (a?.1,false,()))))
           (some (a?.1,false,()))))
         (some (a?.1,false,()))))
       (some (a?.1,false,()))))
     (some (a?.1,false,())))
    (some (a?.1,false,())))
def Pi(x:Int×Int×Unit):Option (V×Unit):=
 ob (xj (x.2.1,6,())) λ(a:V×Int×Unit)=>
 an (ci 1 (aV a.1))
  (ob (EO ((x.1,[(11,a.1,())],()),())) λ(a:V×Int×Unit)=>some (a.1,()))
def Pf(x:Unit):Option
 (d7 ×
  Unit):=
 an (c3 (b8 0 32 32) (ci 1 (ae 32)))
 (ob (zD (bR (ae 32) (u8 0),false,()))
  fun
   (a :
    d7 ×
     Int×Unit)=>
  some (a.1,()))
def WY(x:V×V×Int×Int×Unit):Option (List V×Unit):=letI j:=x.2.2.2.1; T (aj j 0) (some (aR V,())) (T (seq x.2.1 (aR UInt8)) none  (ob   (T (aH j 0)    (ob (WX (x.1,x.2.1,())) λ(a:Int×Unit)=>some (i64 (aE a.1 1),()))    (some (j,())))   λ(a:Int×Unit)=>letI b:=f6 a.1 (i64 (aE (len x.1) 1));   an    (c3 (b8 0 b b)     (ci 32 (ae b)))    (cb     (bK      (λ(Y:V×Int×List V×Unit)=>letI k:=Y.2.1;letI c:=some (aF.ex 0 (Y.1,k,Y.2.2.1,()));letI f:=len Y.1;       T (aH k (i64 (bq b 1)))        (ob (aiJ (Y.1,x.2.1,())) λ(a:Int×Unit)=>letI e:=i64 (aE a.1 (len x.2.1));letI g:=i64 (aE a.1 x.2.2.1);         T (aH a.1 0) c          (an (b8 0 g f)           (an (aN k (len Y.2.2.1))           (an (b8 e f f)           (some           (aF.nx           (sub Y.1 e f,i64 (aE k 1),           cn Y.2.2.1 (ae k) (sub Y.1 0 g),           ())))))))        c)      (x.1,0,bR (ae b) (aR UInt8),()))     (λ(a:V×Int×List V×Unit)=>none)     (λ(i:Nat) (a:V×Int×List V×Unit)=>letI d:=cn a.2.2.1 (ae a.2.1) a.1;letI h:=i64 (aE a.2.1 1);      an (bX i 0)       (an (aN a.2.1 (len a.2.2.1))        (an (b8 0 h (len d))         (some          (cut d (ae 0)           (cc (ae h) (ae 0)),           ())))))     λ(r:List V×Unit)=>some r)))
def O8(x:V×V×Unit):Option (List V×Unit):=
 ob (WY (x.1,x.2.1,0, -1,())) λ(a:List V×Unit)=>some (a.1,())
def Pg(x:Int×Unit):Option (V×Unit):=
 ob (sa (fR x.1 10,1,())) λ(a:V×Int×Unit)=>T (aH x.1 10) (some (a.1,())) none
def J8(x:List Int×Unit):Option (V×Unit):=cb (bK  (λ(Y:List V×Int×Unit)=>letI b:=Y.2.1;   T (aH b (len x.1))    (an (aN b (len x.1))     (ob (Pg (ao x.1 (ae b) 0,())) λ(a:V×Unit)=>      an (ci 32 (bI (aV Y.1) (aV [a.1])))       (some (aF.nx (cg Y.1 [a.1],i64 (aE b 1),())))))    (some (aF.ex 0 (Y.1,b,()))))  (aR V,0,())) (λ(a:List V×Int×Unit)=>none) (λ(i:Nat) (a:List V×Int×Unit)=>  an (bX i 0) (ob (aiK (a.1,[32],())) λ(a:V×Unit)=>some (a.1,()))) λ(r:V×Unit)=>some r
def VU(x:Int×Unit):Option (V×Unit):=
 ob (T (aH x.1 0) (some (true,())) (some (b3 9 x.1,()))) λ(a:Bool×Unit)=>
 T a.1 (some (aR UInt8,()))
  (an (aN x.1 (bi 9))
   (some
    (ao
     [[111,102,102],[97,115,107,101,100],[116,111,108,100],[111,112,101,110],
      [114,101,107,101,121],[99,117,116,116,105,110,103],[99,108,111,115,105,110,103],
      [102,97,105,108,101,100],[100,97,114,107]]
     (ae x.1) (aR UInt8),
     ())))
def Fl (x:p_ ×
 Unit):Option (V×Unit):=
 ob (VU (x.1.2.2.1,())) λ(a:V×Unit)=>
 an (b3 (aE (len a.1) (len [32])) 140737488355328)
  (ob
   (J8
    ([x.1.2.2.2.2.2.1,x.1.2.2.2.2.2.2.1,
     x.1.2.2.2.2.2.2.2.2.2.2.1.1.1,
     x.1.2.2.2.2.2.2.2.2.2.2.2.2.2.1,
     len x.1.2.2.2.2.2.2.2.2.2.2.2.2.2.2.1],
     ()))
   λ(a?:V×Unit)=>
   an (b3 (aE (len (cg a.1 [32])) (len a?.1)) 140737488355328)
    (an (b3 (aE (len (cg (cg a.1 [32]) a?.1)) (len [10])) 140737488355328)
     (some (cg (cg (cg a.1 [32]) a?.1) [10],()))))
def Pd (x:d7 ×
 V ×
  Unit):Option
 (d7 ×
  V×Unit):=
 T (seq x.2.1 [115,104,111,119,32,48])
 (an (aN 0 (bi 2))
  (ob
   (Fl
    (ao x.1.1 (ae 0)
     pi,
     ()))
   λ(a:V×Unit)=>some (x.1,a.1,())))
 (T (seq x.2.1 [115,104,111,119,32,49])
  (an (aN 1 (bi 2))
   (ob
    (Fl
     (ao x.1.1 (ae 1)
      pi,
      ()))
    λ(a:V×Unit)=>some (x.1,a.1,())))
  (T (seq x.2.1 [108,111,103,32,48]) (an (aN 0 (bi 2)) none)
   (T (seq x.2.1 [108,111,103,32,49]) (an (aN 1 (bi 2)) none)
    (T (seq x.2.1 [110,101,116])
     (ob (J8 ([len x.1.2.2.1,len x.1.2.2.2.1],())) λ(a:V×Unit)=>
      an (b3 (aE (len a.1) (len [10])) 140737488355328) (some (x.1,cg a.1 [10],())))
     none))))
def Pe(x:V×Unit):Option (V×Unit):=letI c:=aR UInt8; ob (Pf ()) fun  (a :   d7 ×    Unit)=> ob (O8 (x.1,[10],())) λ(a?:List V×Unit)=>  cb   (bK    (fun     (x :      V ×       Int ×        d7 ×         Unit)=>letI b:=x.2.1;     T (aH b (len a?.1))      (an (aN b (len a?.1))       (T (seq (ao a?.1 (ae b) c) c)        (some (aF.nx (x.1,i64 (aE b 1),x.2.2.1,())))        (ob (Pd (x.2.2.1,ao a?.1 (ae b) c,()))         fun          (a :           d7 ×           V×Unit)=>         an (b3 (aE (len x.1) (len a.2.1)) 140737488355328)          (some (aF.nx (cg x.1 a.2.1,i64 (aE b 1),a.1,()))))))      (some (aF.ex 0 (x.1,b,x.2.2.1,()))))    (aR UInt8,0,a.1,()))   (fun    (a :     V ×      Int ×       d7 ×        Unit)=>    none)   (λ(i:Nat)    (a :     V ×      Int ×       d7 ×        Unit)=>    an (bX i 0) (some (a.1,())))   λ(r:V×Unit)=>some r
def Pj(x:Unit):Option (Bool×Unit):=letI d:=some (false,());letI f:=aN 1 (bi 2); ob (J9  ([u8 0,u8 0,u8 0,u8 0,u8 0,u8 0,u8 0,u8 0,u8 0,u8 0,u8 0,u8 0,u8 0,u8 0,u8 0,u8 0,u8 0,u8 0,u8 0,   u8 0,u8 0,u8 0,u8 0,u8 0,u8 0,u8 0,u8 0,u8 0,u8 0,u8 0,u8 0,u8 0],   true,())) fun  (a :   d7 ×    Bool×Unit)=> ob (Pi (200,7,())) λ(a?:V×Unit)=>letI c:=aR (Int×List Int×Int×V×Unit);  ob (Cg (a.1,(0,0,0,0,a?.1,()),()))   fun    (ce :     d7 ×      Int×Unit)=>   ob (Fu (ce.1,1,()))    fun     (bY :      d7 ×       Unit)=>letI b:=ao bY.1.2.2.2.2.1 (ae 1)           c;letI e:=ao bY.1.2.2.2.2.1 (ae 1) c;    an f     (T      (bg       (aj (len e)        2))      d      (ob       (T a.2.1        (T (aj ce.2.1 0)         (an f          (an           (aN 1           (len           e))           (T           (aj           (ao           b           (ae 1) (0,[0,0],0,aR UInt8,())).1           2)           (an f           (an           (aN 1           (len           b))           (T           (mT (λ(p q:Int)=>aj p q)           (ao           b           (ae 1) (0,[0,0],0,aR UInt8,())).2.1           [1,1])           (ob (Pe ([115,104,111,119,32,48],())) λ(a:V×Unit)=>           some (seq a.1 [111,102,102,32,48,32,48,32,48,32,48,32,48,10],()))           d)))           d)))         d)        d)       λ(a:Bool×Unit)=>some (a.1,())))
def qH (x:List (Int×List Int×Int×V×Unit) ×
 Int×List Int×V×Unit):Option (Int×Unit):=
 cb
 (bK
  (λ(Y:Int×Int×Unit)=>
   T (aH Y.2.1 (len x.1))
    (an (aN Y.2.1 (len x.1))
     (ob
      (T (aj (ao x.1 (ae Y.2.1) (0,[0,0],0,aR UInt8,())).1 x.2.1)
       (an (aN Y.2.1 (len x.1))
        (T
         (mT (λ(p q:Int)=>aj p q)
          (ao x.1 (ae Y.2.1) (0,[0,0],0,aR UInt8,())).2.1 x.2.2.1)
         (an (aN Y.2.1 (len x.1))
          (ob
           (N3
           ((ao x.1 (ae Y.2.1) (0,[0,0],0,aR UInt8,())).2.2.2.1,
           x.2.2.2.1,()))
           λ(a:Bool×Unit)=>some (a.1,())))
         (some (false,()))))
       (some (false,())))
      λ(a:Bool×Unit)=>
      ob (T a.1 (some (i64 (aE Y.1 1),())) (some (Y.1,()))) λ(a:Int×Unit)=>
       some (aF.nx (a.1,i64 (aE Y.2.1 1),()))))
    (some (aF.ex 0 (Y.1,Y.2.1,()))))
  (0,0,()))
 (λ(a:Int×Int×Unit)=>none) (λ(i:Nat) (a:Int×Int×Unit)=>an (bX i 0) (some (a.1,())))
 λ(r:Int×Unit)=>some r
def Nq(x:Int×Int×Unit):Option (Int×Bool×Unit):=cb (bK  (λ(Y:Int×Bool×Int×Unit)=>letI b:=Y.2.2.1;   T    (aH b     (len      [[0,0,1],[0,2,2],[0,10,8],[1,0,1],[1,1,3],[1,2,2],[1,4,0],[1,9,0],[1,10,8],       [2,0,1],[2,2,2],[2,3,3],[2,4,0],[2,10,8],[3,0,1],[3,2,2],[3,4,6],[3,5,0],       [3,6,4],[3,7,5],[3,9,0],[3,10,8],[4,0,1],[4,2,2],[4,4,6],[4,5,0],[4,8,3],       [4,9,3],[4,10,8],[5,0,1],[5,2,2],[5,4,6],[5,5,0],[5,8,3],[5,9,3],[5,10,8],       [6,0,1],[6,2,2],[6,5,0],[6,9,0],[6,10,8],[7,10,8],[8,11,0],[8,12,7]]))    (an     (aN b      (len       [[0,0,1],[0,2,2],[0,10,8],[1,0,1],[1,1,3],[1,2,2],[1,4,0],[1,9,0],[1,10,8],        [2,0,1],[2,2,2],[2,3,3],[2,4,0],[2,10,8],[3,0,1],[3,2,2],[3,4,6],[3,5,0],        [3,6,4],[3,7,5],[3,9,0],[3,10,8],[4,0,1],[4,2,2],[4,4,6],[4,5,0],[4,8,3],        [4,9,3],[4,10,8],[5,0,1],[5,2,2],[5,4,6],[5,5,0],[5,8,3],[5,9,3],[5,10,8],        [6,0,1],[6,2,2],[6,5,0],[6,9,0],[6,10,8],[7,10,8],[8,11,0],[8,12,7]]))     (an (aN 0 (bi 3))      (ob       (T        (aj         (ao          (ao           [[0,0,1],[0,2,2],[0,10,8],[1,0,1],[1,1,3],[1,2,2],[1,4,0],[1,9,0],           [1,10,8],[2,0,1],[2,2,2],[2,3,3],[2,4,0],[2,10,8],[3,0,1],[3,2,2],           [3,4,6],[3,5,0],[3,6,4],[3,7,5],[3,9,0],[3,10,8],[4,0,1],[4,2,2],           [4,4,6],[4,5,0],[4,8,3],[4,9,3],[4,10,8],[5,0,1],[5,2,2],[5,4,6],           [5,5,0],[5,8,3],[5,9,3],[5,10,8],[6,0,1],[6,2,2],[6,5,0],[6,9,0],           [6,10,8],[7,10,8],[8,11,0],[8,12,7]]           (ae b) [0,0,0])          (ae 0) 0)         x.1)        (an         (aN b          (len           [[0,0,1],[0,2,2],[0,10,8],[1,0,1],[1,1,3],[1,2,2],[1,4,0],[1,9,0],           [1,10,8],[2,0,1],[2,2,2],[2,3,3],[2,4,0],[2,10,8],[3,0,1],[3,2,2],           [3,4,6],[3,5,0],[3,6,4],[3,7,5],[3,9,0],[3,10,8],[4,0,1],[4,2,2],           [4,4,6],[4,5,0],[4,8,3],[4,9,3],[4,10,8],[5,0,1],[5,2,2],[5,4,6],           [5,5,0],[5,8,3],[5,9,3],[5,10,8],[6,0,1],[6,2,2],[6,5,0],[6,9,0],          
 [6,10,8],[7,10,8],[8,11,0],[8,12,7]]))         (an (aN 1 (bi 3))          (some           (aj           (ao           (ao           [[0,0,1],[0,2,2],[0,10,8],[1,0,1],[1,1,3],[1,2,2],[1,4,0],[1,9,0],           [1,10,8],[2,0,1],[2,2,2],[2,3,3],[2,4,0],[2,10,8],[3,0,1],           [3,2,2],[3,4,6],[3,5,0],[3,6,4],[3,7,5],[3,9,0],[3,10,8],[4,0,1],           [4,2,2],[4,4,6],[4,5,0],[4,8,3],[4,9,3],[4,10,8],[5,0,1],[5,2,2],           [5,4,6],[5,5,0],[5,8,3],[5,9,3],[5,10,8],[6,0,1],[6,2,2],[6,5,0],           [6,9,0],[6,10,8],[7,10,8],[8,11,0],[8,12,7]]           (ae b) [0,0,0])           (ae 1) 0)           x.2.1,           ()))))        (some (false,())))       λ(a:Bool×Unit)=>       T a.1        (an         (aN b          (len           [[0,0,1],[0,2,2],[0,10,8],[1,0,1],[1,1,3],[1,2,2],[1,4,0],[1,9,0],           [1,10,8],[2,0,1],[2,2,2],[2,3,3],[2,4,0],[2,10,8],[3,0,1],[3,2,2],           [3,4,6],[3,5,0],[3,6,4],[3,7,5],[3,9,0],[3,10,8],[4,0,1],[4,2,2],           [4,4,6],[4,5,0],[4,8,3],[4,9,3],[4,10,8],[5,0,1],[5,2,2],[5,4,6],           [5,5,0],[5,8,3],[5,9,3],[5,10,8],[6,0,1],[6,2,2],[6,5,0],[6,9,0],           [6,10,8],[7,10,8],[8,11,0],[8,12,7]]))         (an (aN 2 (bi 3))          (some           (aF.rt           (ao           (ao           [[0,0,1],[0,2,2],[0,10,8],[1,0,1],[1,1,3],[1,2,2],[1,4,0],[1,9,0],           [1,10,8],[2,0,1],[2,2,2],[2,3,3],[2,4,0],[2,10,8],[3,0,1],           [3,2,2],[3,4,6],[3,5,0],[3,6,4],[3,7,5],[3,9,0],[3,10,8],[4,0,1],           [4,2,2],[4,4,6],[4,5,0],[4,8,3],[4,9,3],[4,10,8],[5,0,1],[5,2,2],           [5,4,6],[5,5,0],[5,8,3],[5,9,3],[5,10,8],[6,0,1],[6,2,2],[6,5,0],           [6,9,0],[6,10,8],[7,10,8],[8,11,0],[8,12,7]]           (ae b) [0,0,0])           (ae 2) 0,           true,())))))        (some (aF.nx (Y.1,Y.2.1,i64 (aE b 1),()))))))    (some (aF.ex 0 (Y.1,Y.2.1,b,()))))  (0,false,0,())) (λ(a:Int×Bool×Int×Unit)=>none) (λ(i:Nat)
 (a:Int×Bool×Int×Unit)=>an (bX i 0) (some (x.1,false,()))) λ(r:Int×Bool×Unit)=> some r
def vQ(x:V×Int×Unit):Option (V×Unit):=
 ob (r2 (x.1,x.2.1,())) λ(a:V×Int×Unit)=>some (a.1,())
def Pa (x:List gq ×
 gq×V×Unit):Option (Bool×Unit):=
 ob (Pj ()) λ(a:Bool×Unit)=>
 ob (Jf (x.1,30,())) λ(a?:Bool×Unit)=>
  T (bg a?.1) (some (a.1,()))
   (ob (Jf ([x.2.1],1,())) λ(ce:Bool×Unit)=>
    T (bg ce.1) (some (a.1,()))
     (T (aH 300 (len x.2.2.1)) (some (a.1,()))
      (T (aH x.2.1.2.1 0) (some (a.1,()))
       (T (aH 1 x.2.1.2.1) (some (a.1,()))
        (an (c3 (b8 0 32 32) (ci 1 (ae 32)))
         (ob (zD (bR (ae 32) (u8 0),true,()))
          fun
           (bY :
           d7 ×
           Int×Unit)=>
          ob (Fv (bY.1,x.1,()))
           fun
           (dB :
           d7 ×
           List Int×Unit)=>
           ob
           (T (b3 0 x.2.1.1)
           (some (aH x.2.1.1 (len [aR Int,[0,10],[4],aR Int,[6],[7],[9,0,10]]),()))
           (some (false,())))
           λ(jG:Bool×Unit)=>
           T jG.1
           (ob (Cg (dB.1,x.2.1,()))
           fun
           (pu :
           d7 ×
           Int×Unit)=>
           an (aN x.2.1.2.1 (bi 2))
           (an (aN x.2.1.2.1 (bi 2))
           (cb
           (bK
           (λ(Y:Bool×Int×Unit)=>
           an
           (aN x.2.1.1
           (len [aR Int,[0,10],[4],aR Int,[6],[7],[9,0,10]]))
           (T
           (aH Y.2.1
           (len
           (ao [aR Int,[0,10],[4],aR Int,[6],[7],[9,0,10]]
           (ae x.2.1.1) (aR Int))))
           (an
           (aN x.2.1.1
           (len [aR Int,[0,10],[4],aR Int,[6],[7],[9,0,10]]))
           (an
           (aN Y.2.1
           (len
           (ao [aR Int,[0,10],[4],aR Int,[6],[7],[9,0,10]]
           (ae x.2.1.1) (aR Int))))
           (ob
           (Nq
           ((ao dB.1.1 (ae x.2.1.2.1)
           pi).2.2.1,
           ao
           (ao [aR Int,[0,10],[4],aR Int,[6],[7],[9,0,10]]
           (ae x.2.1.1) (aR Int))
           (ae Y.2.1) 0,
           ()))
           λ(a:Int×Bool×Unit)=>
           ob
           (T Y.1 (some (true,()))
           (T a.2.1
           (an (aN x.2.1.2.1 (bi 2))
           (some
           (aj
           (ao pu.1.1 (ae x.2.1.2.1)
           pi).2.2.1
           a.1,
           ())))
           (some (false,()))))
           λ(a:Bool×Unit)=>
           some (aF.nx (a.1,i64 (aE Y.2.1 1),())))))
           (some (aF.ex 0 (Y.1,Y.2.1,())))))
           (aj
           (ao pu.1.1 (ae x.2.1.2.1)
           pi).2.2.1
           (ao dB.1.1 (ae x.2.1.2.1)
           pi).2.2.1,
           0,()))
           (λ(a:Bool×Int×Unit)=>none)
           (λ(i:Nat) (mS:Bool×Int×Unit)=>
           an (bX i 0)
           (ob
           (T (bg mS.1) (some (true,()))
           (an (aN (i64 (bq 1 x.2.1.2.1)) (bi 2))
           (an (aN (i64 (bq 1 x.2.1.2.1)) (bi 2))
           (some
           (bg
           (aj
           (ao pu.1.1 (ae (i64 (bq 1 x.2.1.2.1)))
           pi).2.2.1
           (ao dB.1.1 (ae (i64 (bq 1 x.2.1.2.1)))
           pi).2.2.1),
           ())))))
           λ(wc:Bool×Unit)=>
           T wc.1 (some (false,()))
           (an (aN x.2.1.2.1 (bi 2))
           (ob
           (r2
           (x.2.2.1,
           (ao dB.1.1 (ae x.2.1.2.1)
           pi).2.2.2.2.2.2.2.2.2.2.2.2.2.1,
           ()))
           λ(z2:V×Int×Unit)=>
           ob
           (Cg
           (dB.1,(0,x.2.1.2.1,0,0,x.2.2.1,()),()))
           fun
           (te :
           d7 ×
           Int×Unit)=>
           an (aN x.2.1.2.1 (bi 2))
           (ob
           (C1
           ((ao dB.1.1 (ae x.2.1.2.1)
           pi).2.2.1,
           ()))
           λ(z1:Bool×Unit)=>
           T (bg (aj z2.2.1 0))
           (ob
           (T a.1
           (T (aj bY.2.1 0)
           (T (bg (aj te.2.1 0))
           (ob (i3 (te.1,dB.1,()))
           λ(a:Bool×Unit)=>some (a.1,()))
           (some (false,())))
           (some (false,())))
           (some (false,())))
           λ(a:Bool×Unit)=>some (a.1,()))
           (T (bg z1.1)
           (ob
           (T a.1
           (T (aj te.2.1 7)
           (ob (i3 (te.1,dB.1,()))
           λ(a:Bool×Unit)=>some (a.1,()))
           (some (false,())))
           (some (false,())))
           λ(a:Bool×Unit)=>some (a.1,()))
           (T a.1
           (T (aj te.2.1 0)
           (an (aN x.2.1.2.1 (bi 2))
           (an (aN x.2.1.2.1 (bi 2))
           (ob
           (qi
           (ao dB.1.1 (ae x.2.1.2.1)
           pi,
           ()))
           λ(a:List Int×Unit)=>
           an (aN x.2.1.2.1 (bi 2))
           (ob
           (vQ
           (x.2.2.1,
           (ao dB.1.1 (ae x.2.1.2.1)
           pi).2.2.2.2.2.2.2.2.2.2.2.2.2.1,
           ()))
           λ(akk:V×Unit)=>
           ob
           (qH
           (ao te.1.2.2.2.2.1
           (ae x.2.1.2.1)
           (aR
           (Int ×
           List Int×Int×V×Unit)),
           1,a.1,akk.1,()))
           λ(a:Int×Unit)=>
           an (aN x.2.1.2.1 (bi 2))
           (an (aN x.2.1.2.1 (bi 2))
           (ob
           (qi
           (ao dB.1.1 (ae x.2.1.2.1)
           pi,
           ()))
           λ(QC:List Int×Unit)=>
           an (aN x.2.1.2.1 (bi 2))
           (ob
           (vQ
           (x.2.2.1,
           (ao dB.1.1
           (ae
           x.2.1.2.1)
           pi).2.2.2.2.2.2.2.2.2.2.2.2.2.1,
           ()))
           λ(akl:V×Unit)=>
           ob
           (qH
           (ao dB.1.2.2.2.2.1
           (ae x.2.1.2.1)
           (aR
           (Int ×
           List Int ×
           Int ×
           V×Unit)),
           1,QC.1,akl.1,()))
           λ(QD:Int×Unit)=>
           T (aH QD.1 a.1)
           (some (true,()))
           (T (aj te.2.1 8)
           (an
           (aN x.2.1.2.1
           (bi 2))
           (T
           (aj
           (len
           (ao dB.1.1
           (ae
           x.2.1.2.1)
           pi).2.2.2.2.2.2.2.2.2.2.2.2.2.2.1)
           8)
           (ob
           (i3
           (te.1,dB.1,()))
           λ(a:Bool×Unit)=>
           some (a.1,()))
           (some (false,()))))
           (some (false,()))))))))))
           (T (aj te.2.1 8)
           (an (aN x.2.1.2.1 (bi 2))
           (T
           (aj
           (len
           (ao dB.1.1 (ae x.2.1.2.1)
           pi).2.2.2.2.2.2.2.2.2.2.2.2.2.2.1)
           8)
           (ob (i3 (te.1,dB.1,()))
           λ(a:Bool×Unit)=>some (a.1,()))
           (some (false,()))))
           (some (false,()))))
           (some (false,())))))))))
           λ(r:Bool×Unit)=>some r)))
           (an (aN x.2.1.2.1 (bi 2))
           (ob
           (r2
           (x.2.2.1,
           (ao dB.1.1 (ae x.2.1.2.1)
           pi).2.2.2.2.2.2.2.2.2.2.2.2.2.1,
           ()))
           λ(pu:V×Int×Unit)=>
           ob (Cg (dB.1,(0,x.2.1.2.1,0,0,x.2.2.1,()),()))
           fun
           (mS :
           d7 ×
           Int×Unit)=>
           an (aN x.2.1.2.1 (bi 2))
           (ob
           (C1
           ((ao dB.1.1 (ae x.2.1.2.1)
           pi).2.2.1,
           ()))
           λ(wc:Bool×Unit)=>
           T (bg (aj pu.2.1 0))
           (ob
           (T a.1
           (T (aj bY.2.1 0)
           (T (bg (aj mS.2.1 0))
           (ob (i3 (mS.1,dB.1,())) λ(a:Bool×Unit)=>
           some (a.1,()))
           (some (false,())))
           (some (false,())))
           (some (false,())))
           λ(a:Bool×Unit)=>some (a.1,()))
           (T (bg wc.1)
           (ob
           (T a.1
           (T (aj mS.2.1 7)
           (ob (i3 (mS.1,dB.1,())) λ(a:Bool×Unit)=>
           some (a.1,()))
           (some (false,())))
           (some (false,())))
           λ(a:Bool×Unit)=>some (a.1,()))
           (T a.1
           (T (aj mS.2.1 0)
           (an (aN x.2.1.2.1 (bi 2))
           (an (aN x.2.1.2.1 (bi 2))
           (ob
           (qi
           (ao dB.1.1 (ae x.2.1.2.1)
           pi,
           ()))
           λ(a:List Int×Unit)=>
           an (aN x.2.1.2.1 (bi 2))
           (ob
           (vQ
           (x.2.2.1,
           (ao dB.1.1 (ae x.2.1.2.1)
           pi).2.2.2.2.2.2.2.2.2.2.2.2.2.1,
           ()))
           λ(z2:V×Unit)=>
           ob
           (qH
           (ao mS.1.2.2.2.2.1 (ae x.2.1.2.1)
           (aR (Int×List Int×Int×V×Unit)),
           1,a.1,z2.1,()))
           λ(a:Int×Unit)=>
           an (aN x.2.1.2.1 (bi 2))
           (an (aN x.2.1.2.1 (bi 2))
           (ob
           (qi
           (ao dB.1.1 (ae x.2.1.2.1)
           pi,
           ()))
           λ(te:List Int×Unit)=>
           an (aN x.2.1.2.1 (bi 2))
           (ob
           (vQ
           (x.2.2.1,
           (ao dB.1.1 (ae x.2.1.2.1)
           pi).2.2.2.2.2.2.2.2.2.2.2.2.2.1,
           ()))
           λ(z1:V×Unit)=>
           ob
           (qH
           (ao dB.1.2.2.2.2.1
           (ae x.2.1.2.1)
           (aR
           (Int×List Int×Int×V×Unit)),
           1,te.1,z1.1,()))
           λ(akk:Int×Unit)=>
           T (aH akk.1 a.1) (some (true,()))
           (T (aj mS.2.1 8)
           (an (aN x.2.1.2.1 (bi 2))
           (T
           (aj
           (len
           (ao dB.1.1 (ae x.2.1.2.1)
           pi).2.2.2.2.2.2.2.2.2.2.2.2.2.2.1)
           8)
           (ob (i3 (mS.1,dB.1,()))
           λ(a:Bool×Unit)=>some (a.1,()))
           (some (false,()))))
           (some (false,()))))))))))
           (T (aj mS.2.1 8)
           (an (aN x.2.1.2.1 (bi 2))
           (T
           (aj
           (len
           (ao dB.1.1 (ae x.2.1.2.1)
           pi).2.2.2.2.2.2.2.2.2.2.2.2.2.2.1)
           8)
           (ob (i3 (mS.1,dB.1,())) λ(a:Bool×Unit)=>
           some (a.1,()))
           (some (false,()))))
           (some (false,()))))
           (some (false,())))))))))))))
end Yp
namespace Go.Proofs
open Go.Shelf
def Tryz.aeC:Go.Shelf.Ren:=⟨fun|156=>130|165=>168|166=>169|169=>170|240=>218|241=>219|276=>269|277=>270|n=>n,fun|31=>125|9=>9|3=>3|4=>4|0=>0|20=>20|72=>257|76=>260|70=>255|37=>26|75=>259|127=>315|164=>364|5=>5|80=>262|n=>n,fun|n=>n⟩
def Tryz.aeB:Go.Proofs.Lays.n156 Tryz.prog Tryz.aeC:={
 mixed:=by kernel_rfl
 f156:=Tryz.func130.trans (congrArg some (by kernel_rfl))
 f165:=Tryz.func168.trans (congrArg some (by kernel_rfl))
 f166:=Tryz.func169.trans (congrArg some (by kernel_rfl))
 f169:=Tryz.func170.trans (congrArg some (by kernel_rfl))
 f240:=Tryz.func218.trans (congrArg some (by kernel_rfl))
 f241:=Tryz.func219.trans (congrArg some (by kernel_rfl))
 f276:=Tryz.func269.trans (congrArg some (by kernel_rfl))
 f277:=Tryz.func270.trans (congrArg some (by kernel_rfl))
 t0:=Tryz.underlying0
 a0:=Tryz.isAgg0
 z0:=Tryz.sizeOf0
 v0:=Tryz.zeroValue0
 t3:=Tryz.underlying3
 a3:=Tryz.isAgg3
 z3:=Tryz.sizeOf3
 v3:=Tryz.zeroValue3
 t4:=Tryz.underlying4
 a4:=Tryz.isAgg4
 z4:=Tryz.sizeOf4
 v4:=Tryz.zeroValue4
 t9:=Tryz.underlying9
 a9:=Tryz.isAgg9
 z9:=Tryz.sizeOf9
 v9:=Tryz.zeroValue9
 t20:=Tryz.underlying20
 a20:=Tryz.isAgg20
 z20:=Tryz.sizeOf20
 v20:=Tryz.zeroValue20
 t31:=Tryz.underlying125
 a31:=Tryz.isAgg125
 z31:=Tryz.sizeOf125
 v31:=Tryz.zeroValue125
 t37:=Tryz.underlying26
 a37:=Tryz.isAgg26
 z37:=Tryz.sizeOf26
 v37:=Tryz.zeroValue26
 t70:=Tryz.underlying255
 a70:=Tryz.isAgg255
 z70:=Tryz.sizeOf255
 v70:=Tryz.zeroValue255
 t72:=Tryz.underlying257
 a72:=Tryz.isAgg257
 z72:=Tryz.sizeOf257
 v72:=Tryz.zeroValue257
 t75:=Tryz.underlying259
 a75:=Tryz.isAgg259
 z75:=Tryz.sizeOf259
 v75:=Tryz.zeroValue259
 t76:=Tryz.underlying260
 a76:=Tryz.isAgg260
 z76:=Tryz.sizeOf260
 v76:=Tryz.zeroValue260
 t127:=Tryz.underlying315
 a127:=Tryz.isAgg315
 z127:=Tryz.sizeOf315
 v127:=Tryz.zeroValue315
 t164:=Tryz.underlying364
 a164:=Tryz.isAgg364
 z164:=Tryz.sizeOf364
 v164:=Tryz.zeroValue364 }
def Tryz.Yb:Builder.Extra Tryz.prog Tryz.aeC:={
 sizeBuilder:=by kernel_rfl
 liesBuilder:=by kernel_rfl
 t5:=Tryz.underlying5
 a5:=Tryz.isAgg5
 z5:=Tryz.sizeOf5
 v5:=Tryz.zeroValue5
 infoByte:=by kernel_rfl
 cellsByte:=by kernel_rfl
 sizeByte:=by kernel_rfl
 neB5:=by decide }
open Go.RowKit in
def Tryz.strings_Join_none(a:Option Addr)(c:Nat)(sep:ByteArray)(w:World):
  Calls Tryz.prog 130 #[.slice a 0 c,.string sep] w λe w'=>e=.returned (.string ⟨#[]⟩)/\w'=w:=Any.strings_Join_none Tryz.aeB Tryz.Yb a c sep w
open Go.RowKit in
def Tryz.strings_Join(bk o c:Nat)(eL:List ByteArray)(sep:ByteArray)(w:World)(Hk:∀(j:Nat) x,eL[j]?=some x->w.cell? ⟨bk,o+j,none⟩=some (.string x))(arv:bk<w.heap.size)(fM:eL.length<=140737488355328)(l2:eL.length<=c)(cm:(Lib.join (eL.map (·.data.toList)) sep.data.toList).length<=140737488355328):
  Calls Tryz.prog 130 #[.slice (some ⟨bk,o,none⟩) eL.length c,.string sep] w λe w'=>e=.returned (.string ⟨(Lib.join (eL.map (·.data.toList)) sep.data.toList).toArray⟩)/\Below w.heap.size w w':=Any.strings_Join Tryz.aeB Tryz.Yb bk o c eL sep w Hk arv fM l2 cm
def Tryz.au3:Go.Shelf.Ren:=⟨fun|143=>127|219=>167|217=>214|225=>215|224=>216|267=>217|266=>267|314=>268|n=>n,fun|9=>9|3=>3|4=>4|5=>5|46=>254|146=>362|51=>270|n=>n,fun|1=>0|n=>n⟩
def Tryz.au2:Go.Proofs.Lays.n143 Tryz.prog Tryz.au3:={
 mixed:=by kernel_rfl
 f143:=Tryz.func127.trans (congrArg some (by kernel_rfl))
 f217:=Tryz.func214.trans (congrArg some (by kernel_rfl))
 f219:=Tryz.func167.trans (congrArg some (by kernel_rfl))
 f224:=Tryz.func216.trans (congrArg some (by kernel_rfl))
 f225:=Tryz.func215.trans (congrArg some (by kernel_rfl))
 f266:=Tryz.func267.trans (congrArg some (by kernel_rfl))
 f267:=Tryz.func217.trans (congrArg some (by kernel_rfl))
 f314:=Tryz.func268.trans (congrArg some (by kernel_rfl))
 t3:=Tryz.underlying3
 a3:=Tryz.isAgg3
 z3:=Tryz.sizeOf3
 v3:=Tryz.zeroValue3
 t4:=Tryz.underlying4
 a4:=Tryz.isAgg4
 z4:=Tryz.sizeOf4
 v4:=Tryz.zeroValue4
 t5:=Tryz.underlying5
 a5:=Tryz.isAgg5
 z5:=Tryz.sizeOf5
 v5:=Tryz.zeroValue5
 t9:=Tryz.underlying9
 a9:=Tryz.isAgg9
 z9:=Tryz.sizeOf9
 v9:=Tryz.zeroValue9
 t46:=Tryz.underlying254
 a46:=Tryz.isAgg254
 z46:=Tryz.sizeOf254
 v46:=Tryz.zeroValue254
 t51:=Tryz.underlying270
 a51:=Tryz.isAgg270
 z51:=Tryz.sizeOf270
 v51:=Tryz.zeroValue270
 t146:=Tryz.underlying362
 a146:=Tryz.isAgg362
 z146:=Tryz.sizeOf362
 v146:=Tryz.zeroValue362
 g1:=by kernel_rfl }
open Go.RowKit Go.Lib in
def Tryz.strings_Index_one(s:ByteArray)(c:UInt8)(w:World):
  Calls Tryz.prog 127 #[.string s,.string ⟨#[c]⟩] w λe w'=>e=.returned (.int .i64 (Lib.indexByte s.data.toList c))/\w'=w:=Any.strings_Index_one Tryz.au2 s c w
def Tryz.au1:Go.Shelf.Ren:=⟨fun|138=>126|195=>164|218=>166|143=>127|219=>167|217=>214|225=>215|224=>216|267=>217|266=>267|314=>268|n=>n,fun|9=>9|3=>3|4=>4|5=>5|0=>0|46=>254|146=>362|51=>270|n=>n,fun|1=>0|n=>n⟩
def Tryz.au0:Go.Proofs.Lays.n138 Tryz.prog Tryz.au1:={
 mixed:=by kernel_rfl
 f138:=Tryz.func126.trans (congrArg some (by kernel_rfl))
 f143:=Tryz.func127.trans (congrArg some (by kernel_rfl))
 f195:=Tryz.func164.trans (congrArg some (by kernel_rfl))
 f217:=Tryz.func214.trans (congrArg some (by kernel_rfl))
 f218:=Tryz.func166.trans (congrArg some (by kernel_rfl))
 f219:=Tryz.func167.trans (congrArg some (by kernel_rfl))
 f224:=Tryz.func216.trans (congrArg some (by kernel_rfl))
 f225:=Tryz.func215.trans (congrArg some (by kernel_rfl))
 f266:=Tryz.func267.trans (congrArg some (by kernel_rfl))
 f267:=Tryz.func217.trans (congrArg some (by kernel_rfl))
 f314:=Tryz.func268.trans (congrArg some (by kernel_rfl))
 t0:=Tryz.underlying0
 a0:=Tryz.isAgg0
 z0:=Tryz.sizeOf0
 v0:=Tryz.zeroValue0
 t3:=Tryz.underlying3
 a3:=Tryz.isAgg3
 z3:=Tryz.sizeOf3
 v3:=Tryz.zeroValue3
 t4:=Tryz.underlying4
 a4:=Tryz.isAgg4
 z4:=Tryz.sizeOf4
 v4:=Tryz.zeroValue4
 t5:=Tryz.underlying5
 a5:=Tryz.isAgg5
 z5:=Tryz.sizeOf5
 v5:=Tryz.zeroValue5
 t9:=Tryz.underlying9
 a9:=Tryz.isAgg9
 z9:=Tryz.sizeOf9
 v9:=Tryz.zeroValue9
 t46:=Tryz.underlying254
 a46:=Tryz.isAgg254
 z46:=Tryz.sizeOf254
 v46:=Tryz.zeroValue254
 t51:=Tryz.underlying270
 a51:=Tryz.isAgg270
 z51:=Tryz.sizeOf270
 v51:=Tryz.zeroValue270
 t146:=Tryz.underlying362
 a146:=Tryz.isAgg362
 z146:=Tryz.sizeOf362
 v146:=Tryz.zeroValue362
 g1:=by kernel_rfl }
open Go.RowKit Go.Lib in
def Tryz.strings_Count_one(s:ByteArray)(c:UInt8)(w:World):
  Calls Tryz.prog 126 #[.string s,.string ⟨#[c]⟩] w λe w'=>e=.returned (.int .i64 (Lib.countByte s.data.toList c))/\w'=w:=Any.strings_Count_one Tryz.au0 s c w
end Go.Proofs
namespace Yp
open Go Go.Proofs
def Wk{w:World}{X:Nat->Prop}(dq:∀b,X b->b<w.heap.size){t:ag}{x:t.aG}{v:Value}(h:aI (view w X) t x [v])(aB:cB t [v]=v):iT w X w [.im t] (x,()) v:=
 ⟨X,rfl,rfl,rfl,b1 _,λ_ _=>rfl,λ_ _=>Qw,dq,[v],⟨[v],[],by rw[aB],h,rfl⟩,rfl⟩
abbrev ahI:e6:=⟨[.str,.str],[.im (.int .i64)],WX⟩
def ari:gK Tryz.prog 126 ahI:=by
 refine⟨⟨_,Tryz.func126,by kernel_rfl,by kernel_rfl⟩,?_⟩;intro w X x vs r dq _ dx ai;obtain⟨s,p,⟨⟩⟩:=x;obtain⟨c1,sY,rfl,O,c2,zx,rfl,R,rfl⟩:=dx;obtain rfl:=aI.m?.1 O;obtain rfl:=aI.m?.1 R;match p,ai with
 |[c],ai =>cases ai;refine(Tryz.strings_Count_one ⟨List.toArray s⟩ c w).mono ?_;rintro e w' ⟨rfl,rfl⟩;exact⟨_,rfl,Wk dq (aI.iK.2 rfl) rfl⟩
abbrev ahJ:e6:=⟨[.str,.str],[.im (.int .i64)],aiJ⟩
def arj:gK Tryz.prog 127 ahJ:=by
 refine⟨⟨_,Tryz.func127,by kernel_rfl,by kernel_rfl⟩,?_⟩;intro w X x vs r dq _ dx ai;obtain⟨s,p,⟨⟩⟩:=x;obtain⟨c1,sY,rfl,O,c2,zx,rfl,R,rfl⟩:=dx;obtain rfl:=aI.m?.1 O;obtain rfl:=aI.m?.1 R;match p,ai with
 |[c],ai =>cases ai;refine(Tryz.strings_Index_one ⟨List.toArray s⟩ c w).mono ?_;rintro e w' ⟨rfl,rfl⟩;exact⟨_,rfl,Wk dq (aI.iK.2 rfl) rfl⟩
def CP(l:List V):List ByteArray:=l.map λs=>⟨s.toArray⟩
def YY(l:List V):(CP l).map (·.data.toList)=l:=by unfold CP;rw[PX];exact List.map_id'' (λ_=>rfl) _
def QT(l:List V):(CP l).length=l.length:=s9 ..
def ak5{l:List V}{j:Nat}{x:ByteArray}(h:(CP l)[j]?=some x):∃y,l[j]?=some y/\x=⟨y.toArray⟩:=by unfold CP at h;rw[FZ]at h;obtain⟨y,hy,rfl⟩:=lR.1 h;exact⟨y,hy,rfl⟩
def auA(l:List V)(p:V){b o:Nat}{w:World}(ah:∀(j:Nat) y,l[j]?=some y->w.cell? ⟨b,o+j,none⟩=some (.string ⟨y.toArray⟩))(bn:b<w.heap.size)(O:l.length<=140737488355328)(R:l.length<=cap)(af:(p.intercalate l).length<=140737488355328):
  Calls Tryz.prog 130 #[.slice (some ⟨b,o,none⟩) l.length cap,.string ⟨p.toArray⟩] w λe w'=>e=.returned (.string ⟨(p.intercalate l).toArray⟩)/\Go.RowKit.Below w.heap.size w w':=by
 have le:=Tryz.strings_Join b o cap (CP l) ⟨p.toArray⟩ w (λj x hx=>by obtain⟨y,hy,rfl⟩:=ak5 hx;exact ah j y hy) bn (by rw[QT];exact O) (by rw[QT];exact R) (by rw[YY];exact af);rw[QT,YY]at le;exact le
abbrev ahK:e6:=⟨[.sl .str,.str],[.im .str],aiK⟩
def ark:gK Tryz.prog 130 ahK:=by
 refine⟨⟨_,Tryz.func130,by kernel_rfl,by kernel_rfl⟩,?_⟩;intro w X x vs r dq _ dx ai;obtain⟨l,p,⟨⟩⟩:=x;obtain⟨c1,sY,rfl,O,c2,zx,rfl,R,rfl⟩:=dx;obtain rfl:=aI.m?.1 R;obtain⟨a,cap,rfl,l2,jf,hl⟩:=aI.zl.1 O;replace ai:(if(l:List V).length<=140737488355328/\((p:V).intercalate l).length<=140737488355328 then some ((p:V).intercalate l,()) else none)=some r:=ai;split at ai
 .rename_i ak
  cases ai;rcases hl with hl|⟨b,o,c,el,fz,rfl,aa,cZ,ah⟩
  .replace hl:(l:List V)=[]:=hl
   subst hl;refine(Tryz.strings_Join_none a cap ⟨List.toArray p⟩ w).mono ?_;rintro e w' ⟨rfl,rfl⟩;exact⟨_,rfl,Wk dq (aI.m?.2 rfl) rfl⟩
  have Tt:=jZ.1 aa;have bn:b<w.heap.size:=by
   rcases oI b w.heap.size with h|h
   .exact h
   rw[Array.getElem?_eq_none h]at Tt;cases Tt.2
  refine(auA l p ?_ bn ak.1 l2 ak.2).mono ?_
  .intro j y hy
   have ap:j<(l:List V).length:=(mR.1 hy).1;have atT:=aI.m?.1 (ah j y hy);have hg:(cM c (o+j*ag.str.size) ag.str.size)[0]?=c[o+j*ag.str.size+0]?:=vP bO;rw[atT]at hg;rw[Gv Tt.2];have e1:o+j*ag.str.size+0=o+j:=by show o+j*1+0=o+j;omega
   rw[e1]at hg;exact hg.symm
  rintro e w' ⟨rfl,az⟩;exact⟨_,rfl,X,az.os,az.tape,az.output,az.size,az.block,λ_ _=>Qw,λk am=>gN (dq k am) az.size,[_],⟨[_],[],rfl,aI.m?.2 rfl,rfl⟩,rfl⟩
 cases ai
end Yp
namespace Yp
open Go Go.Proofs Tryz
set_option maxRecDepth 100000
abbrev ng:ag:=.unit
abbrev hF:ag:=.int .u8
abbrev dI:ag:=.bool
abbrev dh:ag:=.sl hF
abbrev xH:ag:=.pair dh (.pair dh ng)
abbrev a6:ag:=.int .i64
abbrev Kq:ag:=.pair a6 (.pair a6 ng)
abbrev X6:ag:=.pair dh Kq
abbrev Cm:ag:=.pair a6 (.pair (.ar 16 (.int .u64)) ng)
abbrev vX:ag:=.pair a6 (.pair a6 (.pair (.ar 2 a6) (.pair a6 (.pair a6 xH))))
abbrev ur:ag:=.pair (.ar 4 dI) (.pair (.ar 4 X6) (.pair (.ar 4 a6) (.pair a6 ng)))
abbrev lO:ag:=.pair dI (.pair a6 (.pair a6 (.pair a6 (.pair a6 (.pair dh (.pair dh (.pair a6 ng)))))))
abbrev j1:ag:=.pair a6 (.pair dh ng)
abbrev X5:ag:=.sl (.pair a6 j1)
abbrev PR:ag:=.pair (.ar 8 (.int .u32)) j1
abbrev X4:ag:=.pair (.sl j1) (.pair (.fn [324]) ng)
abbrev Cl:ag:=.sl (.pair a6 (.pair (.ar 2 a6) j1))
abbrev oF:ag:=.pair a6 (.pair (.sl j1) ng)
abbrev lr:ag:=.pair a6 (.pair a6 (.pair a6 j1))
abbrev q1:ag:=.pair j1 (.pair j1 (.pair j1 Kq))
abbrev Ck:ag:=.pair dI (.pair (.sl xH) (.pair dI ng))
abbrev s4:ag:=.pair a6 (.pair dh (.pair a6 (.pair xH (.pair a6 (.pair a6 (.pair a6 (.pair a6 (.pair a6 (.pair Cm (.pair q1 (.pair lr (.pair a6 (.pair a6 (.pair (.sl dh) (.pair ur (.pair (.sl j1) (.pair Cl (.pair (.ar 4 a6) ng))))))))))))))))))
abbrev cG:ag:=.pair s4 (.pair Ck ng)
abbrev s5:ag:=.pair (.ar 2 s4) (.pair Ck (.pair X5 (.pair X5 (.pair (.ar 2 Cl) ng))))
abbrev q0:ag:=.pair s5 ng
def x9:FK 75 ⟨[a6,a6],[.im dI],rT⟩:=bb aZ a1 func75 5
def RD:FK 76 ahF:=arf
def aj4:gz:=jj (ga [] [] [] [] none false true 0) f77 8
def aed:IK 77 aj4:=kO aZ a1 func77 8
def al6:FK 79 ⟨[s4],[.im s4,.im (.sl j1),.im Cl],Sl⟩:=bb aZ a1 func79 7
def Lu:FK 80 ⟨[Cl],[.cl (.pair a6 (.pair (.ar 2 a6) j1))],zm⟩:=bb aZ a1 func80 3
def RC:FK 81 ⟨[X5],[.cl (.pair a6 j1)],E9⟩:=bb aZ a1 func81 3
abbrev ahM:i5:=⟨q0,[a6],[.im cG],Ch⟩
def Gt:i4 Tryz.prog 41 ahM:=qh aZ a1 jR func41 5
def Zx:FK 192 ⟨[a6],[.im dI],HN⟩:=bb aZ a1 func192 3
def Zy:FK 178 ⟨[ur,a6,.bool],[.im ur,.im a6],HO⟩:=bb (aA aZ Zx) a1 func178 8
def amz:FK 179 ⟨[ur,a6],[.im ur,.im a6],MQ⟩:=bb (aA aZ Zy) a1 func179 6
def al7:FK 137 ⟨[cG,a6],[.im cG,.im a6],Sm⟩:=bb (aA aZ amz) a1 func137 8
def Qd:gz:=jj (ga [] [] [] [] none false false 0) f139 3
def Us:IK 139 Qd:=kO aZ a1 func139 3
def Ys:gz:=jj (ga [] [(139,Qd)] [] [] none false false 0) f180 6
def aee:IK 180 Ys:=kO aZ (gw a1 Us) func180 6
def aj3:gz:=jj (ga [] [(139,Qd),(180,Ys)] [] [] none false false 0) f138 8
def at6:IK 138 aj3:=kO aZ (gw (gw a1 aee) Us) func138 8
abbrev azq:i5:=⟨q0,[a6],[],Kj⟩
def aag:i4 Tryz.prog 99 azq:=qh (aA (aA aZ al7) RD) (gw (gw (gw a1 at6) aee) Us) (ie jR Gt) func99 7
abbrev azp:i5:=⟨q0,[],[],PD⟩
def anY:i4 Tryz.prog 82 azp:=qh aZ a1 (ie jR aag) func82 3
abbrev ahN:i5:=⟨q0,[a6,cG],[],zE⟩
def Lw:i4 Tryz.prog 39 ahN:=qh (aA (aA (aA aZ RC) Lu) al6) a1 (ie jR anY) func39 13
def RE:FK 97 ahG:=arg
def aj6:gz:=jj (ga [] [] [] [] none false false 0) f256 5
def at8:IK 256 aj6:=kO aZ a1 func256 5
def Z':FK 201 ⟨[(.sl dh)],[.im dh],E_⟩:=bb aZ (gw a1 at8) func201 9
def amo:FK 236 ⟨[dh],[.im a6],SN⟩:=bb aZ a1 func236 3
def amn:FK 193 ⟨[X6,dh],[.im X6,.ow dh],Mc⟩:=bb (aA (aA (aA aZ amo) Z') RE) a1 func193 10
def amB:FK 147 ⟨[ur,a6,dh],[.im ur,.ow dh,.im a6],MR⟩:=bb (aA (aA aZ amn) Zx) a1 func147 11
def Rt:FK 111 ⟨[a6],[.im a6],Bq⟩:=bb aZ a1 func111 3
abbrev ahw:e6:=⟨[a6],[.im dI],vH⟩
def Gr:FK 83 ahw:=bb (aA aZ Rt) a1 func83 3
def ZG:FK 154 ⟨[dh],[.im dI],Ih⟩:=bb aZ a1 func154 3
def amA:FK 206 ⟨[ur],[.im ur,.im a6,.im a6],Ue⟩:=bb aZ a1 func206 7
def amh:FK 315 ⟨[a6,a6],[.im dI],Dc⟩:=bb aZ a1 func315 5
def Zs:FK 260 ⟨[vX],[.im dI],GL⟩:=bb (aA aZ amh) a1 func260 5
abbrev ahg:e6:=⟨[a6,a6],[.ow hF,.im a6],ql⟩
def Rf:FK 134 ahg:=bb aZ a1 func134 8
def ajV:gz:=jj (ga [(134,ahg)] [] [] [] none false false 0) f261 8
def atY:IK 261 ajV:=kO (aA aZ Rf) a1 func261 8
abbrev ahk:e6:=⟨[vX],[.ow hF,.im a6],yh⟩
def Ri:FK 207 ahk:=bb (aA aZ Zs) (gw a1 atY) func207 6
def ZQ:FK 262 ahy:=arc Rq
def anu:FK 263 ⟨[(.sl xH)],[.cl xH],OY⟩:=bb aZ a1 func263 3
def al2:FK 264 ahf:=arb
def ZJ:FK 274 ⟨[(.int .u32),a6],[.im (.int .u32)],li⟩:=bb aZ a1 func274 6
def anj:FK 273 ⟨[dh],[.im (.ar 64 (.int .u32))],OM⟩:=bb (aA aZ ZJ) a1 func273 9
def Z2:FK 222 ⟨[(.ar 8 (.int .u32)),dh],[.im (.ar 8 (.int .u32)),.im a6],OL⟩:=bb (aA (aA aZ ZJ) anj) a1 func222 16
def Z5:FK 175 ⟨[PR],[.ow hF],BP⟩:=bb (aA aZ Z2) a1 func175 9
abbrev ahD:e6:=⟨[PR,dh],[.im PR],zk⟩
def Ry:FK 176 ahD:=bb (aA aZ Z2) a1 func176 6
abbrev ahC:e6:=⟨[],[.im PR],Jz⟩
def Z3:FK 177 ahC:=bb aZ a1 func177 1
def Z4:FK 135 ⟨[dh],[.ow hF],JA⟩:=bb (aA (aA (aA aZ Z3) Ry) Z5) a1 func135 3
def amK:FK 294 ⟨[dh],[.ow hF],U1⟩:=bb (aA aZ Z4) a1 func294 4
def ajY:gz:=jj (ga [(176,ahD),(177,ahC)] [] [] [] none false false 0) f295 6
def at1:IK 295 ajY:=kO (aA (aA aZ Z3) Ry) a1 func295 6
def Rr:FK 233 ⟨[dh,dh],[.ow hF],D?⟩:=bb (aA (aA (aA aZ amK) Ry) Z5) (gw a1 at1) func233 7
def ZR:FK 265 ⟨[dh,dh],[.ow hF],EB⟩:=bb (aA aZ Rr) a1 func265 5
def amQ:FK 208 ⟨[Ck,dh,dh],[.im Ck,.ow hF],NP⟩:=bb (aA (aA (aA (aA aZ ZR) al2) anu) ZQ) a1 func208 8
def Zr:FK 266 ⟨[vX],[.im dI],Db⟩:=bb (aA aZ Zs) a1 func266 3
def amg:FK 209 ⟨[vX],[.ow hF,.im a6],LW⟩:=bb (aA (aA aZ Zr) Ri) a1 func209 6
def amm:FK 210 ⟨[dh],[.ow hF,.im a6],SM⟩:=bb aZ a1 func210 4
def anv:FK 211 ⟨[(.sl j1)],[.cl j1],OZ⟩:=bb aZ a1 func211 3
def ZF:FK 155 ⟨[cG,vX,dh],[.im cG,.im a6],Ig⟩:=bb (aA (aA (aA (aA (aA (aA aZ anv) amm) amg) amQ) Ri) amA) a1 func155 17
def Rp:FK 153 ⟨[a6,(.sl a6)],[.im dI],A6⟩:=bb aZ a1 func153 7
abbrev ahr:e6:=⟨[s4],[.im (.ar 2 a6)],ol⟩
def x8:FK 156 ahr:=bb (aA aZ Rp) a1 func156 4
abbrev ahs:e6:=⟨[cG,dh],[.im cG,.im a6],om⟩
def z?: FK 120 ahs:=bb (aA (aA (aA (aA aZ x8) ZF) ZG) Gr) a1 func120 9
def anw:FK 163 ahH:=arh
def amU:FK 124 ⟨[(.sl dh)],[.im dh,.im (.sl dh),.im dI],NX⟩:=bb (aA aZ anw) a1 func124 5
def Ln:FK 89 ⟨[cG],[.im cG],kS⟩:=bb (aA (aA aZ amU) z?) a1 func89 8
abbrev ahq:e6:=⟨[cG,a6],[.im cG],k1⟩
def x7:FK 200 ahq:=bb aZ a1 func200 7
def ZH:FK 212 ⟨[dh,.str,(.sl dh)],[.ow hF,.im a6],Nf⟩:=bb (aA aZ Rr) a1 func212 11
abbrev ahp:e6:=⟨[dh],[.ow hF],A3⟩
def ZC:FK 157 ahp:=bb (aA aZ ZH) a1 func157 5
abbrev ahh:e6:=⟨[dh,a6,a6],[.im a6,.im a6,.im a6],lZ⟩
def Zp:FK 296 ahh:=bb aZ a1 func296 12
def ajW:gz:=jj (ga [(296,ahh)] [] [] [] none true false 0) f329 9
def atZ:IK 329 ajW:=kO (aA aZ Zp) a1 func329 9
abbrev ahl:e6:=⟨[dh],[.im vX,.im a6],LV⟩
def amf:FK 297 ahl:=bb (aA (aA aZ Zr) RE) (gw a1 atZ) func297 9
def Z0:FK 292 ⟨[(.pair q1 ng)],[.im (.ar 3 j1)],Ok⟩:=bb aZ a1 func292 3
abbrev ahA:e6:=⟨[q1,a6],[.im dh,.im dI],Jk⟩
def ane:FK 298 ahA:=bb (aA aZ Z0) a1 func298 8
abbrev ahx:e6:=⟨[Ck,dh,dh,dh],[.im Ck,.im dI],EA⟩
def amO:FK 299 ahx:=bb (aA (aA (aA aZ Rq) ZR) ZQ) a1 func299 11
abbrev EW:oJ:=⟨cG,[dh],vX,[2,13,5],M_⟩
def amJ:vZ Tryz.prog 238 59 EW.ty EW.args [.im EW.rt] EW.fn:=avA (E:=(ga [(83,ahw),(156,ahr),(157,ahp),(207,ahk),(297,ahl),(298,ahA),(299,ahx)] [] [] [] (some (240,59)) false false 0)) (s:=EW) (qF (aA (aA (aA (aA (aA (aA (aA aZ amO) ane) amf) Ri) ZC) x8) Gr) a1 jR rz ae4) rfl func238 14 (by kernel_rfl) (by kernel_rfl) (λx =>by kernel_rfl)
def aac:FK 331 ⟨[a6],[.im a6,.im (.int .u64)],Kh⟩:=bb aZ a1 func331 4
def anV:FK 330 ⟨[Cm,a6],[.im dI],PB⟩:=bb (aA aZ aac) a1 func330 7
def anT:FK 300 ⟨[Cm,a6],[.im dI],XR⟩:=bb (aA aZ anV) a1 func300 5
def anW:FK 301 ⟨[Cm,a6,.bool],[.im Cm],zB⟩:=bb (aA aZ aac) a1 func301 9
abbrev ahL:e6:=⟨[Cm,a6],[.im Cm,.im a6],Ft⟩
def anU:FK 239 ahL:=bb (aA (aA aZ anW) anT) a1 func239 7
def ZZ:FK 293 ⟨[j1],[.im dI],Jm⟩:=bb aZ a1 func293 3
abbrev ahB:e6:=⟨[q1],[.im q1,.im a6],BE⟩
def ZY:FK 241 ahB:=bb (aA aZ ZZ) a1 func241 5
def amI:FK 194 ⟨[cG,dh],[.im cG,.im vX,.im a6],M9⟩:=avz (E:=(ga [(239,ahL),(241,ahB)] [] [] [(238,EW)] (some (240,59)) false false 0)) (EC:=(ga [(200,ahq)] [] [] [] none false false 65536)) (qF (aA (aA aZ ZY) anU) a1 jR (avB amJ) ae4) (qF (aA aZ x7) a1 jR rz sE) rfl func194 func237 9 3 (by kernel_rfl) (by kernel_rfl) (by kernel_rfl) (λc A B q h ab=>by cases h;cases ab;rfl) (λx =>by kernel_rfl)
def aj0:gz:=jj (ga [] [] [] [] none false false 0) f229 3
def at3:IK 229 aj0:=kO aZ a1 func229 3
def CV:FK 185 ⟨[a6,a6],[.im a6,.im dI],rH⟩:=bb (aA aZ Rt) (gw a1 at3) func185 9
def RB:FK 191 ⟨[cG,a6],[.im cG],uf⟩:=bb (aA aZ CV) a1 func191 5
def Z9:FK 242 ⟨[cG,a6],[.im cG],JF⟩:=bb (aA (aA aZ x8) Lu) a1 func242 5
def anm:FK 195 ⟨[cG],[.im cG],OP⟩:=bb (aA (aA aZ Z9) RB) a1 func195 3
def Rh:FK 271 ⟨[(.int .i32)],[.im a6,.im dI],tn⟩:=bb aZ a1 func271 4
abbrev ahi:e6:=⟨[.str],[.im a6,.im a6],uV⟩
def Rg:FK 220 ahi:=bb (aA aZ Rh) a1 func220 9
def Zn:FK 129 ⟨[dh],[.im (.str)],GF⟩:=bb aZ a1 func129 6
def Zo:FK 275 ⟨[dh,a6,a6],[.im (.str),.im a6,.im a6],ye⟩:=bb (aA (aA aZ Rh) Zn) a1 func275 15
def Rn:FK 318 ⟨[a6,a6],[.im a6],vj⟩:=bb aZ a1 func318 5
def Lp:FK 276 ⟨[a6],[.im dI],AX⟩:=bb (aA aZ Rn) a1 func276 4
def alZ:FK 277 Ov:=ara Zl
def amk:FK 345 ⟨[a6],[.im a6],GS⟩:=bb aZ a1 func345 3
def Qb:gz:=jj (ga [] [] [] [] none false false 0) f346 3
def Uq:IK 346 Qb:=kO aZ a1 func346 3
def aml:FK 320 ⟨[a6,a6],[.im a6],Ak⟩:=bb (aA aZ amk) (gw a1 Uq) func320 5
def Gm:FK 278 ⟨[a6],[.im Kq,.im dI],wu⟩:=bb (aA aZ aml) a1 func278 6
def Rj:FK 321 ⟨[a6],[.im a6],iZ⟩:=bb aZ a1 func321 3
def Yo:gz:=jj (ga [] [(346,Qb)] [] [] none false false 0) f347 7
def aea:IK 347 Yo:=kO aZ (gw a1 Uq) func347 7
def ajX:gz:=jj (ga [] [(346,Qb),(347,Yo)] [] [] none false false 0) f323 3
def at0:IK 323 ajX:=kO aZ (gw (gw a1 aea) Uq) func323 3
def Lm:FK 282 ⟨[a6,dh],[.im dI],ws⟩:=bb (aA (aA aZ Rj) Gm) (gw (gw a1 at0) aea) func282 8
def ami:FK 279 ⟨[a6,dh,a6],[.ow hF,.im a6,.im a6],L8⟩:=bb (aA (aA (aA (aA (aA aZ Rj) Lm) Gm) Zo) Rg) a1 func279 20
abbrev ahn:e6:=⟨[dh],[.im oF,.im a6],DY⟩
def Rk:FK 223 ahn:=bb (aA (aA (aA (aA (aA (aA aZ ami) Gm) alZ) Lp) Zo) Rg) a1 func223 20
def al4:FK 272 ⟨[hF],[.im hF,.im dI],LH⟩:=bb aZ a1 func272 4
def al3:FK 221 ⟨[.str],[.ow hF,.im a6],GG⟩:=bb (aA aZ al4) a1 func221 10
def ZN:FK 339 ⟨[lO],[.im dI],Vg⟩:=bb aZ a1 func339 3
def Rs:FK 341 ⟨[lO],[.im dI],Nz⟩:=bb aZ a1 func341 3
def ZM:FK 340 ⟨[lO],[.im dI],Vf⟩:=bb (aA aZ Rs) a1 func340 4
def ZP:FK 342 ⟨[lO],[.im dI],Vi⟩:=bb aZ a1 func342 3
def amM:FK 311 ⟨[lO],[.im (.fn [339,340,341,342])],Vh⟩:=bb (aA (aA (aA (aA aZ ZP) Rs) ZM) ZN) a1 func311 3
def ZL:FK 257 ⟨[lO],[.im dI],IE⟩:=bb (aA (aA (aA (aA (aA aZ ZP) Rs) ZM) ZN) amM) a1 func257 3
def Gn:FK 324 ⟨[j1],[.im a6],M5⟩:=bb aZ a1 func324 3
def ZA:FK 283 ⟨[oF],[.im X4],M4⟩:=bb (aA aZ Gn) a1 func283 3
def ZB:FK 322 ⟨[X4,a6],[.im a6,.im dI],H6⟩:=bb (aA aZ Gn) a1 func322 9
def aj5:gz:=jj (ga [] [] [] [] none false false 0) f348 5
def at7:IK 348 aj5:=kO aZ a1 func348 5
def anx:FK 325 ⟨[(.sl (.sl j1))],[.ow j1],O0⟩:=bb aZ (gw a1 at7) func325 9
def amH:FK 284 ⟨[X4,j1],[.ow j1],UA⟩:=bb (aA (aA (aA aZ Gn) anx) ZB) a1 func284 8
abbrev aho:e6:=⟨[oF,a6,dh],[.im oF,.im a6],kw⟩
def Rl:FK 226 aho:=bb (aA (aA (aA (aA (aA aZ Gn) amH) ZA) Lm) Gm) a1 func226 10
def Yq:gz:=jj (ga [(226,aho)] [] [] [] none false false 0) f312 4
def aeb:IK 312 Yq:=kO (aA aZ Rl) a1 func312 4
def Gl:FK 133 ⟨[a6,a6],[.im (.str),.im a6],sa⟩:=bb aZ a1 func133 8
def amL:FK 313 ⟨[a6,a6],[.ow hF],rC⟩:=bb (aA aZ Gl) a1 func313 7
def ZO:FK 258 ⟨[lO],[.im oF],El⟩:=bb (aA (aA aZ amL) Zn) (gw a1 aeb) func258 5
abbrev ahm:e6:=⟨[oF,a6],[.im dh,.im dI],rq⟩
def Lo:FK 281 ahm:=bb (aA (aA (aA aZ Gn) ZB) ZA) a1 func281 8
def ajZ:gz:=jj (ga [(220,ahi),(281,ahm)] [(312,Yq)] [] [] none false false 0) f302 7
def at2:IK 302 ajZ:=kO (aA (aA aZ Lo) Rg) (gw a1 aeb) func302 7
def Re:FK 205 ⟨[dh,dh],[.im dI],CU⟩:=bb aZ a1 func205 5
def Zz:FK 333 ⟨[j1,j1],[.im dI],M2⟩:=bb (aA aZ Re) a1 func333 5
def anz:FK 332 ⟨[(.sl j1),(.sl j1),(.fn [333])],[.im dI],O1⟩:=bb (aA aZ Zz) a1 func332 10
def amG:FK 303 ⟨[oF,oF],[.im dI],H4⟩:=bb (aA (aA aZ Zz) anz) a1 func303 5
abbrev ahu:e6:=⟨[dh],[.im lO,.im a6],Ek⟩
def ZK:FK 243 ahu:=bb (aA (aA (aA (aA (aA (aA aZ amG) Lo) ZO) ZL) Rk) al3) (gw a1 at2) func243 10
def ajU:gz:=jj (ga [(223,ahn),(243,ahu)] [] [] [] none false false 0) f196 7
def atX:IK 196 ajU:=kO (aA (aA aZ ZK) Rk) a1 func196 7
def Lr:FK 158 ⟨[cG],[.im (.pair (.pair s4 ng) (.pair cG ng))],zd⟩:=bb aZ a1 func158 3
def Rv:FK 159 ⟨[(.pair s4 ng)],[.im dI],xk⟩:=bb aZ a1 func159 3
def Rw:FK 160 ⟨[cG],[.im cG],BA⟩:=bb (aA aZ CV) a1 func160 3
def Rx:FK 161 ⟨[q1],[.im q1],Jl⟩:=bb aZ a1 func161 3
def ZD:FK 231 ⟨[dh,(.ar 2 a6),a6,dh],[.ow hF],A4⟩:=bb (aA (aA (aA aZ ZH) Rp) Rf) a1 func231 17
def ZW:FK 187 ⟨[(.pair s4 ng),a6,dh],[.ow hF],Bz⟩:=bb (aA (aA aZ ZD) x8) a1 func187 7
def Z1:FK 230 ⟨[(.pair q1 ng)],[.im dI],Ol⟩:=bb (aA (aA aZ ZZ) Z0) a1 func230 5
def ani:FK 232 ⟨[j1],[.im dI],Oj⟩:=bb aZ a1 func232 3
def ZX:FK 188 ⟨[q1,a6,dh],[.im q1,.im a6],ES⟩:=bb (aA (aA aZ ani) Z1) a1 func188 10
def ZI:FK 189 ⟨[dh],[.ow hF],Ip⟩:=bb (aA aZ Rr) a1 func189 3
def amF:FK 285 ⟨[oF],[.im dI],M1⟩:=bb (aA (aA aZ Lm) Lp) a1 func285 6
def Zm:FK 286 ⟨[.str],[.ow hF,.im a6],uU⟩:=bb (aA aZ Rh) a1 func286 10
def al0:FK 326 ⟨[(.sl a6)],[.im dI],Le⟩:=bb aZ a1 func326 6
def al1:FK 287 ⟨[(.sl a6)],[.ow hF,.im a6],Lf⟩:=bb (aA (aA aZ Zl) al0) a1 func287 9
def amj:FK 288 ⟨[a6,dh],[.ow hF,.im a6],GR⟩:=bb (aA (aA (aA (aA (aA aZ Rj) Zm) Lm) Gm) Gl) a1 func288 14
def Rm:FK 227 ⟨[oF],[.ow hF,.im a6],AZ⟩:=bb (aA (aA (aA (aA (aA aZ amj) al1) Zm) amF) Gl) a1 func227 17
abbrev ahv:e6:=⟨[lO],[.ow hF,.im a6],qE⟩
def Gp:FK 203 ahv:=bb (aA (aA (aA aZ ZO) ZL) Rm) a1 func203 4
abbrev aht:e6:=⟨[lO,a6],[.im lO,.im a6],rB⟩
def Lq:FK 305 aht:=bb aZ a1 func305 6
def aj1:gz:=jj (ga [(120,ahs),(203,ahv),(305,aht)] [] [] [] none false false 0) f304 9
def at4:IK 304 aj1:=kO (aA (aA (aA aZ Lq) Gp) z?) a1 func304 9
def anc:FK 244 ⟨[cG,lO],[.im cG],Ob⟩:=bb (aA (aA (aA (aA (aA (aA (aA (aA (aA aZ Rq) x7) ZI) ZX) ZW) Rx) Rw) Rv) Lr) (gw a1 at4) func244 10
def ZV:FK 121 ⟨[cG],[.im cG],Jh⟩:=bb (aA (aA (aA (aA aZ Rx) Rw) Rv) Lr) a1 func121 3
def Ro:FK 119 ⟨[cG,a6,dh],[.im cG,.im a6],D5⟩:=bb (aA (aA (aA (aA (aA aZ ZC) x8) ZF) ZG) Rp) a1 func119 9
def alW:FK 202 ⟨[a6],[.im a6],K_⟩:=bb aZ a1 func202 3
def alU:FK 314 ⟨[a6],[.im dI],K8⟩:=bb aZ a1 func314 3
def alY:FK 259 ⟨[a6,a6,dh],[.im dI],K'⟩:=bb (aA aZ alU) a1 func259 7
def alT:FK 204 ⟨[a6,a6,dh],[.im lr,.im a6],K7⟩:=bb (aA aZ alY) a1 func204 8
def Ls:FK 151 ⟨[cG,lO],[.im cG],BQ⟩:=bb (aA (aA (aA (aA (aA aZ alT) Gp) alW) z?) Ro) a1 func151 9
def alV:FK 152 ⟨[lr,lr],[.im dI],QO⟩:=bb (aA aZ Re) a1 func152 5
def Zk:FK 115 ⟨[lr],[.im dI],Gb⟩:=bb (aA aZ alV) a1 func115 3
def Ll:FK 251 ⟨[lr,a6,a6],[.im dI],x3⟩:=bb (aA aZ Zk) a1 func251 7
def ana:FK 245 ⟨[cG,lO],[.im cG],N?⟩:=bb (aA (aA (aA (aA (aA (aA (aA (aA aZ Ll) ZY) x7) Rw) Rv) Lr) Ls) ZV) a1 func245 5
def amr:FK 246 ⟨[cG,lO],[.im cG],SQ⟩:=bb (aA (aA (aA aZ Lq) Gp) z?) a1 func246 9
def Zu:FK 162 ⟨[cG],[.im cG],Dn⟩:=bb (aA aZ CV) a1 func162 3
def amp:FK 247 ⟨[cG,lO],[.im cG],Me⟩:=bb (aA (aA (aA (aA aZ Ll) ZK) x7) Zu) a1 func247 7
def RA:FK 249 ⟨[cG],[.im cG],ue⟩:=bb (aA aZ x7) a1 func249 3
def ZE:FK 150 ⟨[s4,a6],[.im s4],A5⟩:=bb (aA (aA (aA aZ x8) Gr) Lu) a1 func150 5
abbrev ahE:e6:=⟨[cG,a6],[.im cG],ud⟩
def Gs:FK 113 ahE:=bb (aA aZ ZE) a1 func113 5
def KF:gz:=jj (ga [(113,ahE)] [] [] [] none false false 0) f334 3
def MV:IK 334 KF:=kO (aA aZ Gs) a1 func334 3
abbrev Wv:e6:=⟨[cG,lO],[.im cG],JG⟩
def Rz:FK 335 Wv:=bb (aA (aA (aA aZ Lq) Gp) z?) a1 func335 9
def Qc:gz:=jj (ga [] [(334,KF)] [] [] none false false 0) f336 3
def Ur:IK 336 Qc:=kO aZ (gw a1 MV) func336 3
def Yr:gz:=jj (ga [(335,Wv)] [(334,KF),(336,Qc)] [] [] none false false 0) f337 5
def aec:IK 337 Yr:=kO (aA aZ Rz) (gw (gw a1 Ur) MV) func337 5
def aj2:gz:=jj (ga [(335,Wv)] [(334,KF),(336,Qc),(337,Yr)] [] [] none false false 0) f307 2
def at5:IK 307 aj2:=kO (aA aZ Rz) (gw (gw (gw a1 aec) Ur) MV) func307 2
def anp:FK 248 ⟨[cG,lO],[.im cG],OR⟩:=bb (aA (aA (aA aZ Rz) Ll) RA) (gw (gw (gw (gw a1 at5) aec) Ur) MV) func248 7
def ame:FK 197 ⟨[cG,lO],[.im cG],GJ⟩:=bb (aA (aA (aA (aA (aA aZ anp) amp) amr) ana) anc) a1 func197 5
def Z6:FK 145 ⟨[cG],[.im cG],E5⟩:=bb (aA aZ ZE) a1 func145 4
def RF:FK 96 ⟨[a6],[.ow hF,.im a6],JN⟩:=bb (aA (aA aZ Z4) Rf) a1 func96 6
def anA:FK 234 ⟨[dh],[.im a6,.im dI],JM⟩:=bb (aA (aA (aA aZ Zp) Re) RF) a1 func234 8
def anD:FK 235 ⟨[a6,a6,.bool,.bool],[.im a6,.im dI],WM⟩:=bb aZ a1 func235 10
def Z?: FK 190 ⟨[xH],[.im a6,.im a6,.im dI],JL⟩:=bb (aA (aA aZ anD) anA) a1 func190 11
def anC:FK 149 ⟨[xH,a6],[.im xH,.im a6,.im a6],O4⟩:=bb (aA (aA (aA aZ Z') Z?) RF) a1 func149 13
def Z8:FK 112 ⟨[cG],[.im cG,.im a6,.im a6],JE⟩:=bb (aA (aA aZ anC) Z6) a1 func112 8
def ant:FK 308 ⟨[cG,lO,a6],[.im cG],JI⟩:=bb (aA (aA (aA aZ Lq) Gp) Ro) a1 func308 11
def anf:FK 338 ⟨[dh],[.im q1,.im a6],Og⟩:=bb aZ a1 func338 4
def Z_:FK 309 ⟨[cG,a6,a6],[.im cG],E8⟩:=bb (aA (aA (aA aZ anf) ZD) x8) a1 func309 7
def ans:FK 250 ⟨[cG,lO,a6],[.im cG],OV⟩:=bb (aA (aA (aA (aA (aA (aA aZ Z_) ant) RA) Gs) Z8) Gr) a1 func250 10
def Lt:FK 114 ⟨[cG,a6],[.im cG],E6⟩:=bb (aA aZ Ls) a1 func114 5
def anr:FK 252 ⟨[cG,a6],[.im cG],OU⟩:=bb (aA (aA (aA (aA aZ Z_) Z9) RB) Lt) a1 func252 5
def ano:FK 198 ⟨[cG,vX,lO],[.im cG],JC⟩:=bb (aA (aA (aA (aA aZ anr) Ll) ans) RA) a1 func198 9
def Gq:FK 182 ⟨[a6],[.im dI],y7⟩:=bb (aA aZ Rt) a1 func182 3
def Zt:FK 184 ⟨[cG,a6,a6,dh],[.im cG],GX⟩:=bb (aA (aA aZ x8) Lu) a1 func184 9
def amD:FK 280 ⟨[a6],[.im a6],H3⟩:=bb (aA (aA aZ Rn) Lp) a1 func280 3
def Zw:FK 224 ⟨[oF],[.im dI],GY⟩:=bb (aA aZ amD) a1 func224 3
def amy:FK 253 ⟨[.bool,a6,a6],[.im a6],ST⟩:=bb aZ a1 func253 7
def Zv:FK 225 ⟨[oF],[.im dI],Do⟩:=bb (aA aZ Lo) a1 func225 5
def amx:FK 254 ⟨[oF],[.im dI],Mk⟩:=bb (aA aZ Zv) a1 func254 4
def amE:FK 310 ⟨[a6],[.im a6,.im dI],M0⟩:=bb (aA (aA aZ Rn) Lp) a1 func310 5
def amw:FK 255 ⟨[cG,oF],[.im cG],Mj⟩:=bb (aA (aA (aA (aA (aA (aA aZ amE) Lo) Rm) Rl) x7) z?) a1 func255 13
def amv:FK 199 ⟨[cG,vX,oF],[.im cG],GW⟩:=bb (aA (aA (aA (aA (aA (aA (aA aZ amw) amx) amy) Zw) x7) Zt) Gq) a1 func199 7
def al9:FK 148 ⟨[cG,dh],[.im cG],GH⟩:=bb (aA (aA (aA (aA (aA (aA (aA aZ x7) amv) ano) ame) anm) amI) Ln) (gw a1 atX) func148 10
def al5:FK 110 ⟨[cG,a6,dh],[.im cG],LS⟩:=bb (aA (aA aZ al9) amB) a1 func110 12
abbrev azo:i5:=⟨q0,[a6,a6,dh],[],Fw⟩
def aaf:i4 Tryz.prog 78 azo:=qh (aA aZ al5) a1 (ie (ie jR Gt) Lw) func78 8
abbrev Js:i5:=⟨q0,[lr],[.im a6],Kk⟩
def RH:i4 Tryz.prog 38 Js:=qh (aA (aA aZ RD) x9) (gw a1 aed) (ie jR aaf) func38 7
abbrev OA:i5:=⟨q0,[lr],[.im a6],PG⟩
def aak:i4 Tryz.prog 46 OA:=qh (aA (aA aZ RD) x9) (gw a1 aed) jR func46 5
abbrev Ow:i5:=⟨q0,[lr],[.im a6],PC⟩
def aae:i4 Tryz.prog 47 Ow:=qh (aA (aA aZ RC) x9) a1 jR func47 5
abbrev OD:i5:=⟨q0,[lr],[.im a6],PJ⟩
def aan:i4 Tryz.prog 48 OD:=qh (aA (aA (aA aZ RE) RC) x9) a1 jR func48 6
abbrev OB:i5:=⟨q0,[lr],[.im a6],PH⟩
def aal:i4 Tryz.prog 49 OB:=qh (aA aZ x9) a1 (ie jR aaf) func49 5
def amC:FK 136 ⟨[ur,a6],[.im ur,.im a6],MS⟩:=bb (aA aZ Zy) a1 func136 7
def amb:FK 98 ⟨[cG,a6],[.im cG,.im a6],LU⟩:=bb (aA (aA aZ amC) Ln) a1 func98 8
abbrev OC:i5:=⟨q0,[lr],[.im a6],PI⟩
def aam:i4 Tryz.prog 50 OC:=qh (aA (aA aZ amb) x9) a1 (ie (ie jR Gt) Lw) func50 8
abbrev Oy:i5:=⟨q0,[lr],[.im a6],PF⟩
def aai:i4 Tryz.prog 51 Oy:=qh (aA aZ x9) a1 (ie jR aag) func51 5
def anh:FK 84 ⟨[q1],[.im q1],Oi⟩:=bb aZ a1 func84 3
def Z7:FK 85 ⟨[cG],[.im cG,.im a6],JD⟩:=bb (aA (aA (aA aZ Lt) Gs) Z8) a1 func85 6
def Qa:gz:=jj (ga [] [] [] [] none false false 0) f117 2
def Up:IK 117 Qa:=kO aZ a1 func117 2
def Yn:gz:=jj (ga [] [(117,Qa)] [] [] none false false 0) f118 2
def ad9:IK 118 Yn:=kO aZ (gw a1 Up) func118 2
def ajT:gz:=jj (ga [] [(117,Qa),(118,Yn)] [] [] none false false 0) f116 4
def atW:IK 116 ajT:=kO aZ (gw (gw a1 ad9) Up) func116 4
def alX:FK 86 ⟨[lr],[.im lr,.im dI,.im dI],CO⟩:=bb (aA aZ Zk) (gw (gw (gw a1 atW) ad9) Up) func86 8
def amc:FK 87 ⟨[cG,lr],[.im cG],C?⟩:=bb (aA (aA aZ z?) Ro) a1 func87 5
def ams:FK 122 ⟨[cG],[.im cG],Mg⟩:=bb (aA aZ Zu) a1 func122 3
def ann:FK 123 ⟨[cG],[.im cG],OQ⟩:=bb (aA aZ Gs) a1 func123 3
def amd:FK 88 ⟨[cG],[.im cG],Da⟩:=bb (aA (aA (aA aZ ann) ams) ZV) a1 func88 3
abbrev ahj:e6:=⟨[cG],[.im cG],GI⟩
def Zq:FK 40 ahj:=bb (aA (aA (aA (aA (aA (aA (aA aZ Ln) amd) amc) alX) Z7) anh) Gr) a1 func40 6
def aad:FK 22 ⟨[s5,a6],[.im s5],Fu⟩:=Nj (E:=(ga [(40,ahj)] [] [(38,Js),(39,ahN),(41,ahM)] [] none false false 0)) (qF (aA aZ Zq) a1 (ie (ie (ie jR Gt) Lw) RH) rz sE) func22 8 (by kernel_rfl) (by kernel_rfl) (λx =>by kernel_rfl)
abbrev Ox:i5:=⟨q0,[lr],[.im a6],PE⟩
def aah:i4 Tryz.prog 52 Ox:=qh (aA aZ aad) a1 jR func52 5
def amt:FK 181 ⟨[dh,a6],[.ow hF,.im a6],Mh⟩:=bb (aA (aA (aA (aA (aA (aA aZ Rm) Rl) Zv) Zw) Rk) Gl) a1 func181 12
def amS:FK 228 ahz:=ard
def amT:FK 183 ⟨[(.sl dh),dh,a6],[.im (.sl dh),.im a6],NW⟩:=bb (aA aZ amS) a1 func183 11
def amu:FK 140 ⟨[cG,dh],[.im cG,.im a6],Mi⟩:=bb (aA (aA (aA (aA (aA aZ Zt) amT) Gq) amt) Ln) a1 func140 9
def anq:FK 141 ⟨[cG],[.im cG,.im a6],OS⟩:=bb (aA (aA (aA (aA aZ CV) Rx) Lt) Gs) a1 func141 6
def anl:FK 142 ⟨[cG],[.im cG,.im a6],OO⟩:=bb (aA (aA aZ Gq) Lt) a1 func142 4
def ang:FK 186 ⟨[q1],[.im a6,.im a6],Oh⟩:=bb (aA aZ Z1) a1 func186 4
def anb:FK 143 ⟨[cG,dh],[.im cG,.im a6],Oa⟩:=bb (aA (aA (aA (aA (aA (aA (aA (aA aZ ZI) ZX) ZW) ang) CV) Gq) Lr) Ls) a1 func143 9
def amq:FK 144 ⟨[cG,a6],[.im cG,.im a6],Mf⟩:=bb (aA (aA (aA aZ CV) Gq) Ls) a1 func144 6
def ank:FK 146 ⟨[cG],[.im cG],ON⟩:=bb (aA (aA aZ RB) Z?) a1 func146 6
def al8:FK 100 ⟨[cG,lr],[.im cG,.im a6],LT⟩:=bb (aA (aA (aA (aA (aA (aA (aA (aA (aA aZ ank) Z6) amq) anb) anl) anq) amu) Z7) Zq) a1 func100 6
abbrev Oz:i5:=⟨q0,[lr],[.im a6],qX⟩
def aaj:i4 Tryz.prog 53 Oz:=qh (aA (aA aZ al8) x9) a1 (ie (ie jR Gt) Lw) func53 7
def Yt:gz:=jj (ga [] [] [(38,Js),(46,OA),(47,Ow),(48,OD),(49,OB),(50,OC),(51,Oy),(52,Ox),(53,Oz)] [] none true false 0) f26 4
def at9:IK 26 Yt:=aeX (E:=(ga [] [] [(38,Js),(46,OA),(47,Ow),(48,OD),(49,OB),(50,OC),(51,Oy),(52,Ox),(53,Oz)] [] none true false 0)) (qF aZ a1 (ie (ie (ie (ie (ie (ie (ie (ie (ie jR aaj) aah) aai) aam) aal) aan) aae) aak) RH) rz sE) func26 4
def Lv:FK 9 ⟨[s5,lr],[.im s5,.im a6],Cg⟩:=Nj (E:=(ga [] [(26,Yt)] [(38,Js),(46,OA),(47,Ow),(48,OD),(49,OB),(50,OC),(51,Oy),(52,Ox),(53,Oz)] [] none false false 0)) (qF aZ (gw a1 at9) (ie (ie (ie (ie (ie (ie (ie (ie (ie jR aaj) aah) aai) aam) aal) aan) aae) aak) RH) rz sE) func9 10 (by kernel_rfl) (by kernel_rfl) (λx =>by kernel_rfl)
def anB:FK 45 ⟨[],[.im xH],O3⟩:=bb (aA aZ RF) a1 func45 3
def ama:FK 24 ⟨[a6,dh],[.im s4,.im a6],Sn⟩:=bb (aA aZ anB) a1 func24 6
def amP:FK 25 ⟨[.bool],[.im Ck],agl⟩:=bb aZ a1 func25 3
def RG:FK 8 ⟨[dh,.bool],[.im s5,.im a6],zD⟩:=bb (aA (aA aZ amP) ama) a1 func8 10
def anX:FK 12 ⟨[s5,(.sl lr)],[.im s5,.ow a6],Fv⟩:=bb (aA aZ Lv) a1 func12 11
def anO:FK 20 ⟨[(.ar 32 hF),.bool],[.im s5,.im dI],J9⟩:=bb (aA (aA aZ anX) RG) a1 func20 9
def amX:FK 68 ⟨[a6,a6],[.im a6],EM⟩:=bb aZ a1 func68 7
def Ru:FK 33 ⟨[a6,a6],[.im (.str),.im a6],xj⟩:=bb (aA aZ amX) a1 func33 8
def am6:FK 62 ⟨[a6],[.im dI],N9⟩:=bb aZ a1 func62 3
def am1:FK 105 ⟨[(.sl a6),a6],[.im dI],Je⟩:=bb aZ a1 func105 6
def ZT:FK 64 ⟨[a6],[.im Kq,.im dI],Jb⟩:=bb (aA aZ am1) a1 func64 7
def ZU:FK 107 ⟨[Kq,dh],[.im dI],Jd⟩:=bb aZ a1 func107 6
def amY:FK 69 ⟨[a6,dh],[.im dI],N4⟩:=bb (aA (aA aZ ZU) ZT) a1 func69 8
def am5:FK 70 ⟨[oF],[.im dI],N8⟩:=bb (aA (aA aZ amY) am6) a1 func70 5
def amV:FK 103 ⟨[.str],[.im dI],N2⟩:=bb aZ a1 func103 4
def ZS:FK 73 ⟨[.str],[.ow hF,.im a6],vL⟩:=bb (aA aZ amV) a1 func73 6
def am0:FK 106 ⟨[a6],[.im a6],N5⟩:=bb aZ a1 func106 3
def amZ:FK 71 ⟨[a6,dh],[.ow hF,.im a6],Jc⟩:=bb (aA (aA (aA (aA (aA aZ ZU) am0) ZS) ZT) Ru) a1 func71 16
def am3:FK 108 ⟨[(.sl a6)],[.im dI],N6⟩:=bb aZ a1 func108 4
def am2:FK 109 ⟨[a6],[.im a6,.im hF],EN⟩:=bb aZ a1 func109 6
def am4:FK 72 ⟨[(.sl a6)],[.ow hF,.im a6],N7⟩:=bb (aA (aA aZ am2) am3) a1 func72 11
def am8:FK 74 ⟨[a6],[.im (.str)],N_⟩:=bb (aA aZ Ru) a1 func74 5
def am7:FK 35 ⟨[oF],[.ow hF,.im a6],EO⟩:=bb (aA (aA (aA (aA (aA aZ am8) ZS) am4) amZ) am5) a1 func35 14
def anQ:FK 21 ⟨[a6,a6],[.ow hF],Pi⟩:=bb (aA (aA aZ am7) Ru) a1 func21 9
def anL:FK 42 ⟨[],[.im s5],Pf⟩:=bb (aA aZ RG) a1 func42 3
def anE:FK 126 ahI:=ari
def anF:FK 127 ahJ:=arj
def anI:FK 90 ⟨[.str,.str,a6,a6],[.ow (.str)],WY⟩:=bb (aA (aA aZ anF) anE) a1 func90 12
def anH:FK 43 ⟨[.str,.str],[.ow (.str)],O8⟩:=bb (aA aZ anI) a1 func43 5
def aaa:FK 95 ⟨[a6],[.im (.str)],Pg⟩:=bb (aA aZ Gl) a1 func95 5
def anG:FK 130 ahK:=ark
def aab:FK 93 ⟨[(.sl a6)],[.im (.str)],J8⟩:=bb (aA (aA aZ anG) aaa) a1 func93 6
def amN:FK 128 ⟨[a6],[.im (.str)],VU⟩:=bb aZ a1 func128 4
def anM:FK 91 ⟨[s4],[.im (.str)],Fl⟩:=bb (aA (aA aZ amN) aab) a1 func91 3
def anJ:FK 44 ⟨[s5,.str],[.im s5,.im (.str)],Pd⟩:=bb (aA (aA (aA (aA aZ aaa) aab) anM) Lv) a1 func44 10
def anK:FK 23 ⟨[.str],[.im (.str)],Pe⟩:=bb (aA (aA (aA aZ anJ) anH) anL) a1 func23 9
def anS:FK 6 ⟨[],[.im dI],Pj⟩:=bb (aA (aA (aA (aA (aA aZ anK) aad) anQ) anO) Lv) a1 func6 6
def am9:FK 7 ⟨[(.sl lr),a6],[.im dI],Jf⟩:=bb aZ a1 func7 7
def amW:FK 37 ⟨[dh,dh],[.im dI],N3⟩:=bb aZ a1 func37 5
def aoH:FK 17 ⟨[Cl,a6,(.ar 2 a6),dh],[.im a6],qH⟩:=bb (aA aZ amW) a1 func17 11
def B3:FK 28 ⟨[Cl,Cl],[.im dI],pt⟩:=bb (aA aZ amW) a1 func28 6
def Iw:FK 54 ⟨[xH,xH],[.im dI],uY⟩:=bb (aA aZ amW) a1 func54 5
def GK:FK 101 ⟨[j1,j1],[.im dI],o7⟩:=bb (aA aZ amW) a1 func101 5
def Gi:FK 55 ⟨[q1,q1],[.im dI],tE⟩:=bb (aA aZ GK) a1 func55 8
def Ix:FK 56 ⟨[lr,lr],[.im dI],vn⟩:=bb (aA aZ amW) a1 func56 5
def Fk:FK 57 ⟨[(.sl dh),(.sl dh)],[.im dI],si⟩:=bb aZ a1 func57 6
def Fq:FK 102 ⟨[X6,X6],[.im dI],s3⟩:=bb (aA aZ amW) a1 func102 5
def Gd:FK 58 ⟨[ur,ur],[.im dI],tc⟩:=bb (aA aZ Fq) a1 func58 7
def J_:FK 59 ⟨[(.sl j1),(.sl j1)],[.im dI],xn⟩:=bb (aA aZ amW) a1 func59 6
def IX:FK 27 ⟨[s4,s4],[.im dI],vz⟩:=bb (aA (aA (aA (aA (aA (aA (aA (aA aZ J_) Gd) Fk) Ix) Gi) Iw) amW) B3) a1 func27 12
def Ky:FK 29 ⟨[X5,X5],[.im dI],nK⟩:=bb (aA aZ amW) a1 func29 6
def Kx:FK 11 ⟨[s5,s5],[.im dI],pK⟩:=bb (aA (aA (aA aZ Ky) B3) IX) a1 func11 8
def anP:FK 13 ⟨[a6,a6],[.im a6,.im dI],Nq⟩:=bb aZ a1 func13 8
def aci:FK 60 ⟨[dh,a6,a6],[.im (.str),.im a6,.im a6],n1⟩:=bb aZ a1 func60 13
def acj:FK 61 ⟨[.str],[.im a6,.im a6],Mu⟩:=bb (aA (aA aZ amV) amX) a1 func61 6
def akV:FK 104 ⟨[dh,a6],[.im dI],n2⟩:=bb (aA aZ am2) a1 func104 7
def akE:FK 63 ⟨[dh,a6],[.ow a6,.im a6,.im a6],MD⟩:=bb (aA aZ akV) a1 func63 12
def akD:FK 65 ⟨[a6,dh,a6],[.ow hF,.im a6,.im a6],Mv⟩:=bb (aA (aA (aA (aA (aA aZ ZU) am0) ZT) acj) aci) a1 func65 23
def alD:FK 30 ⟨[dh],[.im oF,.im a6],YX⟩:=bb (aA (aA (aA (aA (aA (aA aZ akD) ZT) akE) am6) acj) aci) a1 func30 20
def ala:FK 66 ⟨[a6],[.im a6],Bv⟩:=bb (aA aZ am6) a1 func66 4
def an8:FK 31 ⟨[oF],[.im dI],NU⟩:=bb (aA aZ ala) a1 func31 4
def alg:FK 67 ⟨[oF,a6],[.im dh,.im dI],Np⟩:=bb aZ a1 func67 7
def aoe:FK 32 ⟨[oF],[.im dI],OJ⟩:=bb (aA aZ alg) a1 func32 5
def alQ:FK 34 ⟨[oF,a6,dh],[.im oF,.im a6],BH⟩:=bb (aA (aA aZ amY) ZT) a1 func34 14
def acq:FK 14 ⟨[dh,a6],[.ow hF,.im a6],r2⟩:=bb (aA (aA (aA (aA (aA (aA aZ am7) alQ) Ru) aoe) an8) alD) a1 func14 16
def anN:FK 15 ⟨[a6],[.im dI],C1⟩:=bb aZ a1 func15 3
def akw:FK 36 ⟨[Ck,Ck],[.im dI],Ao⟩:=bb (aA aZ amW) a1 func36 6
def aov:FK 16 ⟨[s5,s5],[.im dI],i3⟩:=bb (aA (aA aZ akw) Kx) a1 func16 6
def anR:FK 18 ⟨[s4],[.im (.ar 2 a6)],qi⟩:=bb aZ a1 func18 3
def aoI:FK 19 ⟨[dh,a6],[.ow hF],vQ⟩:=bb (aA aZ acq) a1 func19 7
def aow:FK 5 ⟨[(.sl lr),lr,dh],[.im dI],Pa⟩:=bb (aA (aA (aA (aA (aA (aA (aA (aA (aA (aA (aA (aA aZ aoI) anR) aoH) aov) anN) acq) anP) anX) Lv) RG) am9) anS) a1 func5 23
end Yp
namespace Yp
open Go
set_option maxRecDepth 100000
set_option maxHeartbeats 2000000
def QL:=@UInt32.toNat_or
def lM(x n:UInt32):UInt32:=u32 (g' .u32 (a8 (u32 (fO .u32 (a8 x) (a8 n)))) (a8 (u32 (h0 .u32 (a8 x) (a8 (u32 (bq (a8 (u32 32)) (a8 n))))))))
def aw0(a b:UInt32):u32 (g' .u32 (a8 a) (a8 b))=u32 (g' .u32 (a8 b) (a8 a)):=by rw[IW,IW,UInt32.or_comm]
def vN{x:UInt32}{k:Int}{n:UInt32}(O:cL (u64 (i9 .u64 (cL (u64 k)) (cL (u64 31))))=a8 (u32 (bq (a8 (u32 32)) (a8 n))))(R:cL (u64 (bq (cL (u64 32)) (cL (u64 (i9 .u64 (cL (u64 k)) (cL (u64 31)))))))=a8 n):
  li (x,k,())=some (lM x n,()):=by
 unfold li lM;rw[aw0,R,O]
def gT(x:UInt32):li (x, -2,())=some (lM x (u32 2),()):=vN rfl rfl
def t1(x:UInt32):li (x, -13,())=some (lM x (u32 13),()):=vN rfl rfl
def V8(x:UInt32):li (x, -22,())=some (lM x (u32 22),()):=vN rfl rfl
def V9(x:UInt32):li (x, -6,())=some (lM x (u32 6),()):=vN rfl rfl
def axU(x:UInt32):li (x, -11,())=some (lM x (u32 11),()):=vN rfl rfl
def axY(x:UInt32):li (x, -25,())=some (lM x (u32 25),()):=vN rfl rfl
def agy(x:UInt32):li (x, -7,())=some (lM x (u32 7),()):=vN rfl rfl
def axW(x:UInt32):li (x, -18,())=some (lM x (u32 18),()):=vN rfl rfl
def axV(x:UInt32):li (x, -17,())=some (lM x (u32 17),()):=vN rfl rfl
def axX(x:UInt32):li (x, -19,())=some (lM x (u32 19),()):=vN ir ir
def XT(a b c d:UInt8):UInt32:=
 u32 (aE (a8 (u32 (aE (a8 (u32 (aE (a8 (u32 (fv (a8 (u32 (aO a))) (a8 (u32 16777216))))) (a8 (u32 (fv (a8 (u32 (aO b))) (a8 (u32 65536)))))))) (a8 (u32 (fv (a8 (u32 (aO c))) (a8 (u32 256)))))))) (a8 (u32 (aO d))))
def ajv(a b c d:UInt8):UInt32:=
 u32 (g' .u32 (a8 (u32 (g' .u32 (a8 (u32 (g' .u32 (a8 (u32 (h0 .u32 (a8 (u32 (aO a))) (cL (u64 24))))) (a8 (u32 (h0 .u32 (a8 (u32 (aO b))) (cL (u64 16)))))))) (a8 (u32 (h0 .u32 (a8 (u32 (aO c))) (cL (u64 8)))))))) (a8 (u32 (aO d))))
def vA(h:0<=a/\a<4294967296):a8 (u32 a)=a:=by
 show(((BitVec.ofNat 32 ((a%2^32).toNat)).toNat:Nat):Int)=a
 grind
def J4{a:Nat}(h:a<4294967296):(u32 (a:Int)).toNat=a:=by have:=vA (a:=(a:Int)) J;unfold a8 at this;omega
def aBv(a b c d:UInt8):ajv a b c d=XT a b c d:=by
 have bh:=a.toNat_lt;have aa:=b.toNat_lt;have ah:=c.toNat_lt;have aJ:=d.toNat_lt;unfold ajv XT;have e1:∀x:UInt8,a8 (u32 (aO x))=(x.toNat:Int):=λx=>by have:=x.toNat_lt;exact vA (a:=(x.toNat:Int)) J
 have bz:∀(x:UInt8),h0 .u32 (a8 (u32 (aO x))) (cL (u64 24))=((x.toNat*16777216:Nat):Int):=λx=>by rw[e1];show(x.toNat:Int)*2^24=_;omega
 have ay:∀(x:UInt8),h0 .u32 (a8 (u32 (aO x))) (cL (u64 16))=((x.toNat*65536:Nat):Int):=λx=>by rw[e1];show(x.toNat:Int)*2^16=_;omega
 have eh:∀(x:UInt8),h0 .u32 (a8 (u32 (aO x))) (cL (u64 8))=((x.toNat*256:Nat):Int):=λx=>by rw[e1];show(x.toNat:Int)*2^8=_;omega
 have bD:∀(x:UInt8),fv (a8 (u32 (aO x))) (a8 (u32 16777216))=((x.toNat*16777216:Nat):Int):=λx=>by rw[e1,vA bO];show(x.toNat:Int)*16777216=_;omega
 have cr:∀(x:UInt8),fv (a8 (u32 (aO x))) (a8 (u32 65536))=((x.toNat*65536:Nat):Int):=λx=>by rw[e1,vA bO];show(x.toNat:Int)*65536=_;omega
 have gR:∀(x:UInt8),fv (a8 (u32 (aO x))) (a8 (u32 256))=((x.toNat*256:Nat):Int):=λx=>by rw[e1,vA bO];show(x.toNat:Int)*256=_;omega
 rw[bz,ay,eh,bD,cr,gR,IW,IW,IW];have d1:(u32 (aO d)).toNat=d.toNat:=J4 J;apply UInt32.toNat_inj.1;rw[QL,QL,QL,J4 J,J4 J,J4 J,d1];have Vm:(c.toNat*256)|||d.toNat=c.toNat*256+d.toNat:=by have:=KJ (i:=8) (b:=d.toNat) J c.toNat;rw[FY];exact this.symm
 have m7:(b.toNat*65536)|||(c.toNat*256+d.toNat)=b.toNat*65536+(c.toNat*256+d.toNat):=by have:=KJ (i:=16) (b:=c.toNat*256+d.toNat) J b.toNat;rw[FY b.toNat];exact this.symm
 have l8:(a.toNat*16777216)|||(b.toNat*65536+(c.toNat*256+d.toNat))=a.toNat*16777216+(b.toNat*65536+(c.toNat*256+d.toNat)):=by have:=KJ (i:=24) (b:=b.toNat*65536+(c.toNat*256+d.toNat)) J a.toNat;rw[FY a.toNat];exact this.symm
 rw[Nat.or_assoc,Nat.or_assoc,Vm,m7,l8];have bL:aE (a8 (u32 ((a.toNat*16777216:Nat):Int))) (a8 (u32 ((b.toNat*65536:Nat):Int)))=((a.toNat*16777216+b.toNat*65536:Nat):Int):=by rw[vA J,vA J];show(_:Int)+_=_;omega
 rw[bL];have ca:aE (a8 (u32 ((a.toNat*16777216+b.toNat*65536:Nat):Int))) (a8 (u32 ((c.toNat*256:Nat):Int)))=((a.toNat*16777216+b.toNat*65536+c.toNat*256:Nat):Int):=by rw[vA J,vA J];show(_:Int)+_=_;omega
 rw[ca];have cq:aE (a8 (u32 ((a.toNat*16777216+b.toNat*65536+c.toNat*256:Nat):Int))) (a8 (u32 (aO d)))=((a.toNat*16777216+b.toNat*65536+c.toNat*256+d.toNat:Nat):Int):=by rw[vA J,e1];show(_:Int)+_=_;omega
 rw[cq,J4 J];omega
def avx(cr avi UZ avh:UInt32):UInt32:=
 u32 (aE (a8 (u32 (aE (a8 (u32 (aE (a8 (u32 (fT .u32 (a8 (u32 (fT .u32 (a8 (lM cr (u32 17))) (a8 (lM cr (u32 19)))))) (a8 (u32 (fO .u32 (a8 cr) (cL (u64 10)))))))) (a8 avi)))) (a8 (u32 (fT .u32 (a8 (u32 (fT .u32 (a8 (lM UZ (u32 7))) (a8 (lM UZ (u32 18)))))) (a8 (u32 (fO .u32 (a8 UZ) (cL (u64 3))))))))))) (a8 avh))
def kB(b:V)(i:Nat):UInt8:=b.getD i 0
def kf(m:List UInt32)(i:Nat):UInt32:=m.getD i 0
def lp(b:V)(df:Nat):Nat->List UInt32
 |0=>List.replicate 64 0
 | t+1=>(lp b df t).set t (if t < 16 then XT (kB b (df+4*t)) (kB b (df+4*t+1)) (kB b (df+4*t+2)) (kB b (df+4*t+3))
   else avx (kf (lp b df t) (t-2)) (kf (lp b df t) (t-7)) (kf (lp b df t) (t-15)) (kf (lp b df t) (t-16)))
def ahS(b:V)(df:Nat):∀t,(lp b df t).length=64
 |0=>by simp[lp]
 |t+1=>by rw[lp,k7];exact ahS b df t
def ahR{b c:V}{x y:Nat}(h:∀i,i<64->kB b (x+i)=kB c (y+i)):∀t,lp b x t=lp c y t
 |0=>rfl
 |t+1=>by
  rw[lp,lp,ahR h t];by_cases ht:t<16
  .rw[if_pos ht,if_pos ht,h (4*t) J,j2 x,j2 x,j2 x,h (4*t+1) J,h (4*t+2) J,h (4*t+3) J];rfl
  grind
def fY(h:a=(n:Int))(ak:n<=9223372036854775807):i64 a=(n:Int):=by rw[h];exact iJ J J
def azH(b:V)(aa:b.length=64):OM (b,())=some (lp b 0 64,()):=by
 unfold OM;generalize hf:(λ(Y:Int×List UInt32×Unit)=>_)=f;have step:∀t:Nat,t<64->f ((t:Int),lp b 0 t,())=some (.nx (((t+1:Nat):Int),lp b 0 (t+1),())):=by
  intro t ht;subst hf;have ac:i64 (aE (t:Int) 1)=((t+1:Nat):Int):=fY (by show(t:Int)+1=_;omega) J;refine bm cS ?_;by_cases oV:t<16
  .have ea:i64 (fv 4 (t:Int))=((4*t:Nat):Int):=fY (by show 4*(t:Int)=_;omega) J
   have e1:i64 (aE (i64 (fv 4 (t:Int))) 1)=((4*t+1:Nat):Int):=by rw[ea];exact fY (by show((4*t:Nat):Int)+1=_;omega) J
   have aU:i64 (aE (i64 (fv 4 (t:Int))) 2)=((4*t+2:Nat):Int):=by rw[ea];exact fY (by show((4*t:Nat):Int)+2=_;omega) J
   have d8:i64 (aE (i64 (fv 4 (t:Int))) 3)=((4*t+3:Nat):Int):=by rw[ea];exact fY (by show((4*t:Nat):Int)+3=_;omega) J
   refine bm cS ?_;rw[e1,aU,d8,ea,ac];refine bd cS (bd cS (bd cS (bd cS (bd cS ?_))));have bw:=aBv (kB b (4*t)) (kB b (4*t+1)) (kB b (4*t+2)) (kB b (4*t+3));rw[lp,if_pos oV,lT,<- bw];rfl
  have Sg:i64 (bq (t:Int) 15)=((t-15:Nat):Int):=fY (by show(t:Int)-15=_;omega) J;have aU:i64 (bq (t:Int) 2)=((t-2:Nat):Int):=fY (by show(t:Int)-2=_;omega) J;have aoM:i64 (bq (t:Int) 7)=((t-7:Nat):Int):=fY (by show(t:Int)-7=_;omega) J;have aoK:i64 (bq (t:Int) 16)=((t-16:Nat):Int):=fY (by show(t:Int)-16=_;omega) J;refine a2 cS ?_;rw[Sg,aU,aoM,aoK,ac];refine bd cS ?_;refine bd jL ?_;rw[agy];rw[axW];rw[axV];rw[axX];refine bd jL ?_;refine bd jL ?_;refine bd jL ?_;rw[lp,if_neg oV];rfl
 have gv:∀m,f (((64:Nat):Int),m,())=some (.ex 0 (((64:Nat):Int),m,())):=by subst hf;intro m;exact bT rfl
 have kW:bK f (((0:Nat):Int),lp b 0 0,())=some (.ex 0 (((64:Nat):Int),lp b 0 64,())):=
  (lh (f:=f) (λt=>((t:Int),lp b 0 t,())) 64 step 0 (nV _)).trans (ec (gv _))
 generalize ab:lp b 0 64=m at kW;refine(cW (show bK f _=_ from kW)).trans ?_;rfl
abbrev zX:=UInt32×UInt32×UInt32×UInt32×UInt32×UInt32×UInt32×UInt32
def aiN(k m h g f e:UInt32):UInt32:=
 u32 (aE (a8 (u32 (aE (a8 (u32 (aE (a8 (u32 (aE (a8 h) (a8 (u32 (fT .u32 (a8 (u32 (fT .u32 (a8 (lM e (u32 6))) (a8 (lM e (u32 11)))))) (a8 (lM e (u32 25))))))))) (a8 (u32 (fT .u32 (a8 (u32 (i9 .u32 (a8 e) (a8 f)))) (a8 (u32 (i9 .u32 (a8 (u32 (fT .u32 4294967295 (a8 e)))) (a8 g)))))))))) (a8 k)))) (a8 m))
def aAw(c b a:UInt32):UInt32:=
 u32 (aE (a8 (u32 (fT .u32 (a8 (u32 (fT .u32 (a8 (lM a (u32 2))) (a8 (lM a (u32 13)))))) (a8 (lM a (u32 22)))))) (a8 (u32 (fT .u32 (a8 (u32 (fT .u32 (a8 (u32 (i9 .u32 (a8 a) (a8 b)))) (a8 (u32 (i9 .u32 (a8 a) (a8 c))))))) (a8 (u32 (i9 .u32 (a8 b) (a8 c))))))))
def afH(k m:UInt32)(s:zX):zX:=
 (s.2.1,s.2.2.1,s.2.2.2.1,u32 (aE (a8 s.2.2.2.2.1) (a8 (aiN k m s.1 s.2.1 s.2.2.1 s.2.2.2.1))),s.2.2.2.2.2.1,s.2.2.2.2.2.2.1,s.2.2.2.2.2.2.2,
  u32 (aE (a8 (aiN k m s.1 s.2.1 s.2.2.1 s.2.2.2.1)) (a8 (aAw s.2.2.2.2.2.1 s.2.2.2.2.2.2.1 s.2.2.2.2.2.2.2))))
def sQ(w8:List UInt32)(s:zX):Nat->zX
 |0=>s
 |t+1=>afH (kf qz t) (kf w8 t) (sQ w8 s t)
def Bw(s:zX):List UInt32:=[s.2.2.2.2.2.2.2,s.2.2.2.2.2.2.1,s.2.2.2.2.2.1,s.2.2.2.2.1,s.2.2.2.1,s.2.2.1,s.2.1,s.1]
def YJ(w:List UInt32)(s:zX):List UInt32:=
 [u32 (aE (a8 (kf w 0)) (a8 s.2.2.2.2.2.2.2)),u32 (aE (a8 (kf w 1)) (a8 s.2.2.2.2.2.2.1)),u32 (aE (a8 (kf w 2)) (a8 s.2.2.2.2.2.1)),u32 (aE (a8 (kf w 3)) (a8 s.2.2.2.2.1)),
  u32 (aE (a8 (kf w 4)) (a8 s.2.2.2.1)),u32 (aE (a8 (kf w 5)) (a8 s.2.2.1)),u32 (aE (a8 (kf w 6)) (a8 s.2.1)),u32 (aE (a8 (kf w 7)) (a8 s.1))]
def afJ(w:List UInt32):zX:=(kf w 7,kf w 6,kf w 5,kf w 4,kf w 3,kf w 2,kf w 1,kf w 0)
def zr(w:List UInt32)(b:V)(df:Nat):List UInt32:=YJ w (sQ (lp b df 64) (afJ w) 64)
def aoX{w:List α}(h:w.length=8):∃a b c d e f g i,w=[a,b,c,d,e,f,g,i]:=by
 match w,h with
 |[a,b,c,d,e,f,g,i],_=>exact⟨a,b,c,d,e,f,g,i,rfl⟩
def WU{c:V}{y:Nat}(h:∀i,i<64->kB b (x+i)=kB c (y+i))(w:List UInt32):zr w b x=zr w c y:=by unfold zr;rw[ahR h]
def ah9(w:List UInt32)(bw:w.length=8)(b:V)(aa:b.length=64):OL (w,b,())=some (zr w b 0,0,()):=by
 refine a2 cS ?_;rw[azH b aa];have hm:=ahS b 0 64;unfold zr;generalize lp b 0 64=m at hm;refine aS rfl ?_;obtain⟨w0,co,cV,fy,h1,Cd,Px,Py,rfl⟩:=aoX bw;generalize hf:(λ(x:Int×List UInt32×Unit)=>(_:Option (aF (Int×List UInt32×Unit) (List UInt32×Int×Unit))))=f;obtain⟨s,ab⟩:∃s,s=afJ [w0,co,cV,fy,h1,Cd,Px,Py]:=⟨_,rfl⟩;have step:∀t:Nat,t<64->f ((t:Int),Bw (sQ m s t),())=some (.nx (((t+1:Nat):Int),Bw (sQ m s (t+1)),())):=by intro t ht;subst hf;have ac:i64 (aE (t:Int) 1)=((t+1:Nat):Int):=fY (by show(t:Int)+1=_;omega) J;rw[show sQ m s (t+1)=afH (kf qz t) (kf m t) (sQ m s t) from rfl];generalize sQ m s t=r;obtain⟨h,g,f,e,d,c,b,a⟩:=r;refine bm cS ?_;dsimp only[Bw];rw[ac];refine bd cS ?_;refine bd rfl ?_;refine bd rfl ?_;rw[show ao [a,b,c,d,e,f,g,h] (ae 4) (u32 0)=e from rfl,V9];refine aS rfl ?_;rw[axU];refine aS rfl ?_;rw[axY];refine aS rfl ?_;rw[show ao [a,b,c,d,e,f,g,h] (ae 0) (u32 0)=a from rfl,gT];refine aS rfl ?_;rw[t1];refine aS rfl ?_;rw[V8];refine bd rfl ?_;refine bd rfl ?_;refine bd rfl ?_;refine bd cS ?_;rfl
 have gv:∀v,f (((64:Nat):Int),v,())=some (.ex 0 (((64:Nat):Int),v,())):=by subst hf;intro v;exact bT rfl
 have kW:bK f (((0:Nat):Int),Bw (sQ m s 0),())=some (.ex 0 (((64:Nat):Int),Bw (sQ m s 64),())):=
  (lh (f:=f) (λt=>((t:Int),Bw (sQ m s t),())) 64 step 0 (nV _)).trans (ec (gv _))
 have aq:Bw (sQ m s 0)=[w0,co,cV,fy,h1,Cd,Px,Py]:=by rw[ab];rfl
 rw[aq]at kW;rw[<- ab];generalize sQ m s 64=r at kW;obtain⟨h,g,wn,e,d,c,b',a⟩:=r;refine(cW (show bK f (0,[w0,co,cV,fy,h1,Cd,Px,Py],())=_ from kW)).trans ?_;refine(cW (vq (r:=.ex 2 (((8:Nat):Int),YJ [w0,co,cV,fy,h1,Cd,Px,Py] (h,g,wn,e,d,c,b',a),())) 9 rfl)).trans ?_;rfl
def j8(w:List UInt32)(l:V):Nat->List UInt32
 |0=>w
 |i+1=>zr (j8 w l i) l (64*i)
def LN{w:List UInt32}(bw:w.length=8)(l:V):∀i,(j8 w l i).length=8
 |0=>bw
 |_+1=>rfl
def agu(l:V)(k i:Nat):kB (l.drop k) i=kB l (k+i):=by unfold kB;rw[lS,KQ,<- lS]
def axQ(l:V){i:Nat}(h:i<k):kB (l.take k) i=kB l i:=by unfold kB;rw[lS,FW h,<- lS]
def aiH(w:List UInt32)(l:V)(k:Nat):zr w ((l.drop k).take 64) 0=zr w l k:=
 WU (λi ac=>by rw[lT,axQ _ ac,agu]) w
def abd{l m:V}(w:List UInt32):∀{i},(∀j,j<64*i->kB l j=kB m j)->j8 w l i=j8 w m i
 |0,_=>rfl
 |i+1,h=>by rw[j8,j8,abd w λj ap=>h j J];exact WU (λj ap=>h _ J) _
def abc(w:List UInt32)(l:V)(i:Nat):∀j,j8 w l (i+j)=j8 (j8 w l i) (l.drop (64*i)) j
 |0=>rfl
 |j+1=>by rw[<- j2,j8,j8,abc w l i j];exact WU (λk _=>by rw[agu];congr 1;omega) _
abbrev uw:=List UInt32×Int×V×Unit
def oy(h:uw)(b:V):uw:=
 (j8 h.1 (h.2.2.1++b) ((h.2.2.1++b).length/64),h.2.1+(b.length:Int),(h.2.2.1++b).drop (64*((h.2.2.1++b).length/64)),())
def aoo(r b:V):d? (d? (bR (r.length+b.length) (u8 0)) 0 (aV (bR (r.length+b.length) (u8 0))) r) r.length (r.length+b.length-r.length) b=r++b:=by
 unfold d? bR aV;rw[p2,F7,p4,il (show r.length<=r.length+b.length by omega),
  Ct,FO,il (b1 _),List.drop_of_length_le bp,nU]
def azF(H:List UInt32)(cE:H.length=8)(N:Int)(r b:V)(fM:0<=N)(aa:N+(b.length:Int)<=1125899906842624)(ai:r.length<=64)(hm:b.length<=1000000000):zk ((H,N,r,()),b,())=some (oy (H,N,r,()) b,()):=by
 refine a2 (by simp(disch:=omega) only[go_sem];omega) ?_;have e1:i64 (aE (len r) (len b))=((r.length+b.length:Nat):Int):=fY (by show(r.length:Int)+(b.length:Int)=_;omega) J;have aU:i64 (aE N (len b))=N+(b.length:Int):=iJ (by show -9223372036854775808<=N+(b.length:Int);omega) (by show N+(b.length:Int)<=9223372036854775807;omega);rw[e1,aU];refine bd cS ?_;have cm:len (d? (bR (ae ((r.length+b.length:Nat):Int)) (u8 0)) 0 (aV (bR (ae ((r.length+b.length:Nat):Int)) (u8 0))) r)=((r.length+b.length:Nat):Int):=by
  unfold len d? bR aV ae
  grind
 rw[cm];refine bd cS ?_;rw[show ae (len r)=r.length from gx,show ae ((r.length+b.length:Nat):Int)=r.length+b.length from gx,show cc (r.length+b.length) r.length=r.length+b.length-r.length from rfl,aoo];generalize hf:(λ(x:V×(List UInt32×Int×V×Unit)×Unit)=>(_:Option (aF (V×(List UInt32×Int×V×Unit)×Unit) ((List UInt32×Int×V×Unit)×Unit))))=f;generalize hl:r++b=l;have step:∀i,i<l.length/64->f (l.drop (64*i),(j8 H l i,N+(b.length:Int),r,()),())=some (.nx (l.drop (64*(i+1)),(j8 H l (i+1),N+(b.length:Int),r,()),())):=by
  intro i ac;subst hf;have aJ:(l.drop (64*i)).length=l.length-64*i:=eU;have cm:len (l.drop (64*i))=((l.length-64*i:Nat):Int):=by unfold len;rw[aJ]
  dsimp only;rw[cm];refine bm cS ?_;refine bd cS ?_;rw[show cut (l.drop (64*i)) (ae 0) (cc (ae 64) (ae 0))=(l.drop (64*i)).take 64 from rfl,ah9 _ (LN cE l i) _ (by rw[io,aJ];omega)];refine bd cS ?_;rw[aiH];have ah:cut (l.drop (64*i)) (ae 64) (cc (ae ((l.length-64*i:Nat):Int)) (ae 64))=l.drop (64*(i+1)):=by unfold cut;rw[show ae 64=64 from rfl,p8,il (by rw[eU];show _<=l.length-64*i-64;omega)];congr 1
  rw[ah];rfl
 have gv:f (l.drop (64*(l.length/64)),(j8 H l (l.length/64),N+(b.length:Int),r,()),())=some (.ex 0 (l.drop (64*(l.length/64)),(j8 H l (l.length/64),N+(b.length:Int),r,()),())):=by
  subst hf;have cm:len (l.drop (64*(l.length/64)))=((l.length-64*(l.length/64):Nat):Int):=by unfold len;rw[eU]
  dsimp only;rw[cm];exact bT cS
 have kW:=(lh (f:=f) (λi=>(l.drop (64*i),(j8 H l i,N+(b.length:Int),r,()),())) (l.length/64) step 0 (nV _)).trans (ec gv);refine(cW (kW)).trans ?_;subst hl;rfl
def Qm:=@List.flatMap_append
def h9(r:Nat):Nat:=(119-r)%64
def o0(n:Int)(i:Nat):V:=(List.range i).map λj=>u8 (fO .i64 (i64 (fv 8 n)) ((56-8*j:Nat):Int))
def Bp(n:Int):V:=[u8 128]++List.replicate (h9 (n.toNat%64)) (u8 0)++o0 n 8
def eZ(x:UInt32):V:=[u8 (a8 (u32 (fO .u32 (a8 x) (cL (u64 24))))),u8 (a8 (u32 (fO .u32 (a8 x) (cL (u64 16))))),u8 (a8 (u32 (fO .u32 (a8 x) (cL (u64 8))))),u8 (a8 x)]
def vG(w:List UInt32)(i:Nat):V:=(List.range i).flatMap λj=>eZ (kf w j)
def VJ(w:List UInt32):∀i,(vG w i).length=4*i
 |0=>rfl
 |i+1=>by unfold vG;rw[zN,Qm,dd];have:=VJ w i;unfold vG at this;rw[this];simp[eZ];omega
def aw4(w:List UInt32)(i:Nat):vG w (i+1)=vG w i++eZ (kf w i):=by unfold vG;rw[zN];simp
def au6(n:Int)(i:Nat):o0 n (i+1)=o0 n i++[u8 (fO .i64 (i64 (fv 8 n)) ((56-8*i:Nat):Int))]:=by unfold o0;rw[zN,F3];rfl
def aeG(n:Int)(i:Nat):(o0 n i).length=i:=by simp[o0]
def BT(h:uw):V:=vG (j8 h.1 (h.2.2.1++Bp h.2.1) ((h.2.2.1++Bp h.2.1).length/64)) 8
def ayG(l:V)(k:Nat):l++List.replicate k (u8 0)++[u8 0]=l++List.replicate (k+1) (u8 0):=by rw[hb,<- List.replicate_succ']
def azG(H:List UInt32)(cE:H.length=8)(N:Int)(r:V)(fM:0<=N)(aB8:N<=1125899906842624)(ai:r.length=N.toNat%64):BP ((H,N,r,()),())=some (BT (H,N,r,()),()):=by
 unfold BP;dsimp only;have bs:bR (ae 0) (u8 0)=[]:=rfl;rw[bs,show cg ([]:V) r=r from rfl,show cg r [u8 128]=r++[u8 128] from rfl];refine bd bO ?_;refine bd jL ?_;refine bd (by simp(disch:=first|assumption|omega|(dsimp only;omega)|decide) only[go_sem,Int.reduceToNat];simp;omega) ?_;generalize hf:(λ(x:V×Unit)=>(_:Option (aF (V×Unit) (V×Unit))))=f;have aCm:r.length<64:=J;have aCv:h9 (N.toNat%64)<64:=by unfold h9;omega
 have step:∀i:Nat,i<h9 (N.toNat%64)->f (r++[u8 128]++List.replicate i (u8 0),())=some (.nx (r++[u8 128]++List.replicate (i+1) (u8 0),())):=by
  intro i ac;subst hf;have hl:(r++[u8 128]++List.replicate i (u8 0)).length=r.length+1+i:=fK;have eR:¬(((r++[u8 128]++List.replicate i (u8 0)).length:Int)%64=56):=by rw[hl];unfold h9 at ac;omega
  refine bm jL ?_;refine bd (by simp(disch:=first|assumption|omega|(dsimp only;omega)|decide) only[go_sem,Int.reduceToNat];simp;omega) ?_;show some (aF.nx (r++[u8 128]++List.replicate i (u8 0)++[u8 0],()))=_;rw[ayG]
 have gv:f (r++[u8 128]++List.replicate (h9 (N.toNat%64)) (u8 0),())=some (.ex 0 (r++[u8 128]++List.replicate (h9 (N.toNat%64)) (u8 0),())):=by
  subst hf;have hl:(r++[u8 128]++List.replicate (h9 (N.toNat%64)) (u8 0)).length=r.length+1+h9 (N.toNat%64):=fK;have aC:(((r++[u8 128]++List.replicate (h9 (N.toNat%64)) (u8 0)).length:Int)%64=56):=by rw[hl];unfold h9;omega
  exact bT jL
 have kW:=(lh (f:=f) (λi=>(r++[u8 128]++List.replicate i (u8 0),())) (h9 (N.toNat%64)) step 0 (nV _)).trans (ec gv);rw[List.replicate_zero,nU]at kW;refine(cW kW).trans ?_;generalize hL:r++[u8 128]++List.replicate (h9 (N.toNat%64)) (u8 0)=L;have aq0:L.length=r.length+1+h9 (N.toNat%64):=by rw[<- hL];simp;omega
 generalize hf:(λ(Y:V×Int×Unit)=>(_:Option (aF (V×Int×Unit) (V×Unit))))=f;have step:∀i:Nat,i<8->f (L++o0 N i,56-8*(i:Int),())=some (.nx (L++o0 N (i+1),56-8*((i+1:Nat):Int),())):=by
  intro i ac;subst hf;refine bm jL ?_;refine bd jL ?_;refine bd (by simp(disch:=first|assumption|omega|(dsimp only;omega)|decide) only[go_sem,Int.reduceToNat];simp[aeG];omega) ?_;rw[show cg (L++o0 N i) [u8 (fO .i64 (i64 (fv 8 N)) (56-8*(i:Int)))]=L++o0 N (i+1) by rw[au6,show((56-8*i:Nat):Int)=56-8*(i:Int) by omega];exact hb _ _ _,
   show i64 (bq (56-8*(i:Int)) 8)=56-8*((i+1:Nat):Int) by rw[iJ (by show -9223372036854775808<=56-8*(i:Int)-8;omega) (by show 56-8*(i:Int)-8<=9223372036854775807;omega)];show 56-8*(i:Int)-8=_;omega]
 have gv:f (L++o0 N 8,56-8*((8:Nat):Int),())=some (.ex 2 (L++o0 N 8,56-8*((8:Nat):Int),())):=by subst hf;exact bT (show b3 0 (56-8*((8:Nat):Int))=false from rfl)
 have kW:=(lh (f:=f) (λi=>(L++o0 N i,56-8*(i:Int),())) 8 step 0 (nV _)).trans (ec gv);have aq:(L++o0 N 0,56-8*((0:Nat):Int),())=(L,56,()):=by simp[o0]
 rw[aq]at kW;refine(cW kW).trans ?_;have hT:L++o0 N 8=r++Bp N:=by rw[<- hL];unfold Bp;simp
 rw[hT];have Tm:(r++Bp N).length=r.length+1+h9 (N.toNat%64)+8:=by rw[<- hT,dd,aeG,aq0]
 have aq6:(r++Bp N).length%64=0:=by rw[Tm];unfold h9;omega
 generalize tD:r++Bp N=bv at Tm aq6;generalize hf:(λ(x:V×List UInt32×Unit)=>(_:Option (aF (V×List UInt32×Unit) (V×Unit))))=f;have step:∀i,i<bv.length/64->f (bv.drop (64*i),j8 H bv i,())=some (.nx (bv.drop (64*(i+1)),j8 H bv (i+1),())):=by
  intro i ac;subst hf;have aJ:(bv.drop (64*i)).length=bv.length-64*i:=eU;have cm:len (bv.drop (64*i))=((bv.length-64*i:Nat):Int):=by unfold len;rw[aJ]
  dsimp only;rw[cm];refine bm jL ?_;refine bd jL ?_;rw[show cut (bv.drop (64*i)) (ae 0) (cc (ae 64) (ae 0))=(bv.drop (64*i)).take 64 from rfl,ah9 _ (LN cE bv i) _ (by rw[io,aJ];omega)];refine bd jL ?_;rw[aiH];have ah:cut (bv.drop (64*i)) (ae 64) (cc (ae ((bv.length-64*i:Nat):Int)) (ae 64))=bv.drop (64*(i+1)):=by unfold cut;rw[show ae 64=64 from rfl,gx,p8,il (by rw[eU];show _<=bv.length-64*i-64;omega)];congr 1
  rw[ah];rfl
 have gv:f (bv.drop (64*(bv.length/64)),j8 H bv (bv.length/64),())=some (.ex 4 (bv.drop (64*(bv.length/64)),j8 H bv (bv.length/64),())):=by
  subst hf;have cm:len (bv.drop (64*(bv.length/64)))=((bv.length-64*(bv.length/64):Nat):Int):=by unfold len;rw[eU]
  dsimp only;rw[cm];exact bT jL
 have kW:=(lh (f:=f) (λi=>(bv.drop (64*i),j8 H bv i,())) (bv.length/64) step 0 (nV _)).trans (ec gv);refine(cW (show bK f (bv,H,())=_ from kW)).trans ?_;refine bd g62 ?_;unfold BT;rw[tD];have bw:=LN cE bv (bv.length/64);generalize j8 H bv (bv.length/64)=w at bw;generalize hf:(λ(x:V×Int×Unit)=>(_:Option (aF (V×Int×Unit) (V×Unit))))=f;have step:∀i:Nat,i<8->f (vG w i,(i:Int),())=some (.nx (vG w (i+1),((i+1:Nat):Int),())):=by intro i ac;subst hf;have hl:=VJ w i;have fk:i64 (aE (i:Int) 1)=((i+1:Nat):Int):=fY (by show(i:Int)+1=_;omega) J;refine bm jL ?_;refine bd jL ?_;refine bd (by simp(disch:=first|assumption|omega|(dsimp only;omega)|decide) only[go_sem,Int.reduceToNat];simp;omega) ?_;rw[fk,aw4];rfl
 have gv:∀v,f (v,((8:Nat):Int),())=some (.ex 6 (v,((8:Nat):Int),())):=by subst hf;intro v;exact bT rfl
 have kW:=(lh (f:=f) (λi=>(vG w i,(i:Int),())) 8 step 0 (nV _)).trans (ec (gv _));refine(cW (show bK f ([],0,())=_ from kW)).trans ?_;exact eV g62
def Qv:=@List.drop_append_of_le_length
def YD:=@Prod.ext
def Ef(h:0<=a/\a<18446744073709551616):cL (u64 a)=a:=by
 show(((BitVec.ofNat 64 ((a%2^64).toNat)).toNat:Nat):Int)=a
 grind
def II(h:uw):Prop:=h.1.length=8/\0<=h.2.1/\h.2.2.1.length=h.2.1.toNat%64
def Bu{h:uw}(hh:II h)(b:V):II (oy h b):=by
 obtain⟨O,R,af⟩:=hh;refine⟨LN O _ _,?_,?_⟩
 .show 0<=h.2.1+(b.length:Int);omega
 show((h.2.2.1++b).drop (64*((h.2.2.1++b).length/64))).length=(h.2.1+(b.length:Int)).toNat%64
 grind
def axN(h:uw)(x y:V):oy (oy h x) y=oy h (x++y):=by
 obtain⟨H,N,r,⟨⟩⟩:=h;unfold oy;generalize hL:r++x=L;have d_:r++(x++y)=L++y:=by rw[<- hb,hL]
 rw[d_];have aQ:64*(L.length/64)<=L.length:=J;have aJ:(L++y).drop (64*(L.length/64))=L.drop (64*(L.length/64))++y:=Qv aQ;have cm:(L.drop (64*(L.length/64))++y).length=L.length-64*(L.length/64)+y.length:=by rw[dd,eU]
 have ak:(L++y).length/64=L.length/64+(L.drop (64*(L.length/64))++y).length/64:=by rw[cm,dd];omega
 have aC:j8 H (L++y) (L.length/64)=j8 H L (L.length/64):=by
  refine abd H λj ap => ?_;unfold kB
  grind
 refine YD ?_ (YD ?_ (YD ?_ rfl))
 .dsimp only;rw[ak,abc,aJ,aC]
 .grind
 dsimp only;rw[ak,<- aJ,p8];congr 1;omega
def aAs(h:uw):(BT h).length=32:=by unfold BT;rw[VJ]
def wY:uw:=([u32 1779033703,u32 3144134277,u32 1013904242,u32 2773480762,u32 1359893119,u32 2600822924,u32 528734635,u32 1541459225],0,[],())
def yL:II wY:=⟨rfl,Int.le_refl _,rfl⟩
def JB{h:uw}(hh:II h)(b:V)(fM:h.2.1<=1000000000)(aa:b.length<=1000000000):zk (h,b,())=some (oy h b,()):=by obtain⟨H,N,r,⟨⟩⟩:=h;obtain⟨O,R,af⟩:=hh;have aB4:r.length=N.toNat%64:=af;have Ha:N<=1000000000:=fM;exact azF H O N r b R J J aa
def WE{h:uw}(hh:II h)(fM:h.2.1<=1000000000000):BP (h,())=some (BT h,()):=by obtain⟨H,N,r,⟨⟩⟩:=h;obtain⟨O,R,af⟩:=hh;have Ha:N<=1000000000000:=fM;exact azG H O N r R J af
theorem aia:Jz ()=some (wY,()):=rfl
def BO(b:V):V:=BT (oy wY b)
def OK(b:V):(BO b).length=32:=aAs _
def aib(b:V)(aa:b.length<=1000000000):JA (b,())=some (BO b,()):=by unfold JA;rw[aia];refine aS rfl ?_;rw[JB yL b bO aa];refine aS rfl ?_;have ak:(oy wY b).2.1=0+(b.length:Int):=rfl;rw[WE (Bu yL b) J];rfl
end Yp