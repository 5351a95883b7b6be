/- A part of the proof of the statements of this seat: the engine that turns code into plain functions, and its soundness. No condition of its own. -/
import Derived.Test.YtofckmopfilanaaGreatDoorE0
set_option linter.unusedVariables false
set_option linter.unusedSimpArgs false
set_option linter.defProp false
noncomputable section
open Go Yp
variable {c dt ok:Bool}{D kI:List Nat}{a b d f i j k m n nt nv o off t:Nat}{α β ρ:Type}
namespace Yp
open Go
def eU:=@List.length_drop
def io:=@List.length_take
def KO:=@Nat.le_of_eq
variable {P:Program}
section
variable {K:Kp} {w0 w:World} {phx:cf} {M:Nat->Prop} {B B':Nat->aT} {g:Nat->av} {H:cj}
def ag7{t u ty bf:TypeId}{i:TypeInfo}(ht:P.underlying t=some (.slice bf))(ac:P.info? bf=some i){x:Value}{nu R9:Nat}{news:List Value}
  (hl:(Builtin.lenOf x).run P w=.ok n w) (hm:Nat.min n nu=m) (hf:(Builtin.firstCells i.size m x).run P w=.ok news.toArray w) :
  (Builtin.copy_ #[t,u] ty #[.slice none nu R9,x]).run P w=.ok (.int .i64 m) w:=by
 simp[Builtin.copy_,run_underlying ht,Go.sizeOf,typeInfo,ac,hl,hm,hf,goInt]
def ag8{t u ty bf:TypeId}{i:TypeInfo}(ht:P.underlying t=some (.slice bf))(ac:P.info? bf=some i){x:Value}{nu R9:Nat}{news:List Value}{a:Addr}{w':World}
  (hl:(Builtin.lenOf x).run P w=.ok n w) (hm:Nat.min n nu=m) (hf:(Builtin.firstCells i.size m x).run P w=.ok news.toArray w) (ab:(storeCells a news).run P w=.ok () w') :
  (Builtin.copy_ #[t,u] ty #[.slice (some a) nu R9,x]).run P w=.ok (.int .i64 m) w':=by
 simp[Builtin.copy_,run_underlying ht,Go.sizeOf,typeInfo,ac,hl,hm,hf,ab,goInt]
def azv{c cO:Array Value}{vs:List Value}(ah:cO.toList=h8 c.toList o vs)(ak:o+vs.length<=c.size)(h:o+vs.length<=a):cM cO a n=cM c a n:=by rw[ub,ah,JP J (.inr h),<- ub]
def Ab{l bu:List α}(h:off+n<=l.length):(d? l off n bu).length=l.length:=by simp only[d?,dd,io,eU];omega
def fa.cast{e:ag}{l m:List e.aG}{cs:List Value}(h:fa H e l cs)(hl:l=m):fa H e m cs:=hl▸h
def fi.copy{e:ag}{l bu:List e.aG}{c cO:Array Value}{news:List Value}(h:fi H e l c o)(bW:off+n<=l.length)(bQ:fa H e (bu.take n) news)
  (ah:cO.toList=h8 c.toList (o+off*e.size) news):cO.size=c.size/\fi H e (d? l off n bu) cO o:=by
 have wO:news.length=min n bu.length*e.size:=by rw[bQ.1,io]
 have wM:(off+min n bu.length)*e.size<=l.length*e.size:=gM _ J;rw[nh]at wM;have O:=h.1;have he:o+off*e.size+news.length<=c.size:=J;have cZ:=aim ah he;refine⟨cZ,fa.row (by rw[Ab bW,cZ];exact O) ?_⟩;have e1:(d? l off n bu).length*e.size=off*e.size+(news.length+(l.length-(off+min n bu.length))*e.size):=by rw[Ab bW,wO,<- nh,<- nh];congr 1;omega
 rw[e1,OE,OE,ahV ah he (b1 _),ahW ah he,azv ah he (b1 _)];have bF:=(h.cut (off:=0) (m:=off) J).tq;have dy:=(h.cut (off:=off+min n bu.length) (m:=l.length-(off+min n bu.length)) J).tq;rw[lY J,Nat.zero_mul,uy]at bF;rw[lY J,nh,<- j2,<- wO]at dy;have auC:fa H e (l.take off) (cM c o (off*e.size)):=bF.cast (by simp[Yp.cut]);have H_:fa H e (l.drop (off+min n bu.length)) (cM c (o+off*e.size+news.length) ((l.length-(off+min n bu.length))*e.size)):=dy.cast (by unfold Yp.cut;rw[il bp])
 exact auC.append (bQ.append H_)
def ay6{e:ag}{l:List e.aG}{c:Array Value}(h:fi H e l c o)(hl:l.length=n):aI H (.ar n e) l (cM c o (n*e.size)):=by have O:=h.1;rw[hl]at O;refine aI.CL.2 ⟨hl,qQ O,λi x ac => ?_⟩;have bn:=D7 ac;rw[EY _ _ _ _ _ (yX J)];exact h.2 i x ac
def Kb{id:Nat}{b:aT}(h:B id=b):c' B id b=B:=by
 funext j;by_cases ap:j=id
 .subst ap;rw[e5,h]
 rw[en _ _ ap]
def R4(l:List α)(off:Nat)(bu:List α):d? l off 0 bu=l:=by simp[d?]
def avw(m n:Nat):f6 (m:Int) (n:Int)=((Nat.min n m:Nat):Int):=by
 unfold f6
 grind
def aaK{e:ag}{bu:List e.aG}{ad:Option Addr}{cap:Nat}(h:bu=[]\/∃b o c el fz,ad=some ⟨b,o,none⟩/\w.heap[b]?=some (.cells c el fz)/\fi (view w M) e bu c o)(nu:Nat):
  ∃news,(Builtin.firstCells e.size (Nat.min bu.length nu) (.slice ad bu.length cap)).run P w=.ok news.toArray w/\fa (view w M) e (bu.take nu) news:=by
 rcases h with rfl|⟨b,o,c,el,fz,rfl,R,af⟩
 .refine⟨[],?_,by simpa using fa.nil (H:=view w M) e⟩
  cases ad<;>simp[Builtin.firstCells,loadCells,loadCellsFrom]
 have au:=(af.cut (off:=0) (m:=Nat.min bu.length nu) (by simp only[lT];exact Nat.min_le_left _ _));have ah:Yp.cut bu 0 (Nat.min bu.length nu)=bu.take nu:=by
  unfold Yp.cut;rw[nl];rcases Nat.le_total bu.length nu with h|h
  .rw[show Nat.min bu.length nu=bu.length from F2 h,ni,il h]
  rw[show Nat.min bu.length nu=nu from Nat.min_eq_right h]
 rw[ah,Nat.zero_mul,uy]at au;have hl:(bu.take nu).length=Nat.min bu.length nu:=by rw[io];exact Nat.min_comm _ _
 refine⟨cM c o (Nat.min bu.length nu*e.size),?_,by rw[<- hl];exact au.tq⟩;simp only[Builtin.firstCells];exact EU R (by rw[<- hl];exact au.1)
def R2{e:ag}{tid uid ty bf:TypeId}(aL:P.underlying tid=some (.slice bf)){i:TypeInfo}(g1:P.info? bf=some i)(cD:i.size=e.size){bu:List e.aG}{ad:Option Addr}{cap:Nat}(hm:bM K w0 phx M B w)
  (hy:bu=[]\/∃b o c el fz,ad=some ⟨b,o,none⟩/\w.heap[b]?=some (.cells c el fz)/\fi (view w M) e bu c o) {id off n:Nat} {l:List e.aG} {bl:List e.aG->aT} {ck:Value}
  (nE:(B id).fS=true) (bW:off+n<=l.length) (wQ:h4 phx id e off n ck)
  (T?:n=0->bM K w0 phx M (c' B id (bl l)) w/\ct phx M B w phx M (c' B id (bl l)) w) (arw:∀hi,hi.length=l.length->(B id).cd (bl hi))
  (eI:(phx id=none/\l.length=0)\/∃b o c el fz,phx id=some (b,o,c.size)/\w.heap[b]?=some (.cells c el fz)/\fi (view w M) e l c o/\iD c fz/\M b)
  (rm:∀(hi:List e.aG) (cO:Array Value) (b o:Nat) (el:TypeId) (fz:Nat×Nat) (w':World) (b9:Nat->aT),hi.length=l.length->phx id=some (b,o,cO.size)->w'.heap[b]?=some (.cells cO el fz)->fi (view w' M) e hi cO o->iD cO fz->M b->ml phx M w' (view w' M) b9 id (bl hi)) :
  ∃v w',(Builtin.copy_ #[tid,uid] ty #[ck,.slice ad bu.length cap]).run P w=.ok v w'/\dA K w0 phx M B w (c' B id (bl (d? l off n bu))) (int (f6 (bi n) (len bu))) v w':=by
 have cm:(Builtin.lenOf (.slice ad bu.length cap)).run P w=.ok bu.length w:=rfl;obtain⟨news,f1,f2⟩:=aaK (P:=P) (cap:=cap) hy n;rw[<- cD]at f1;have aB:∀phx' H' b9,ba phx' H' b9 (int (f6 (bi n) (len bu))) (.int .i64 ((Nat.min bu.length n:Nat):Int)):=λphx' H' b9=>by rw[show f6 (bi n) (len bu)=((Nat.min bu.length n:Nat):Int) from avw n bu.length];exact⟨_,aI.iK.2 rfl,rfl⟩
 rcases wQ with⟨rfl,a',rfl⟩|⟨b,o,W4,gX,bF,rfl,dy,fl,fZ⟩
 .have ak:news=[]:=by have:=f2.1;simpa using this
  subst ak;obtain⟨bD,e1⟩:=T? rfl;refine⟨_,w,?_,phx,M,by rw[R4];exact bD,by rw[R4];exact e1,aB _ _ _⟩;cases a' with
  |none=>exact ag7 aL g1 cm rfl f1
  |some a'=>exact ag8 aL g1 cm rfl f1 (by simp[storeCells])
 rcases eI with⟨bL,_⟩|⟨b',dz,c,el,fz,bL,ca,cq,dv,e'⟩
 .rw[bF]at bL;cases bL
 rw[bF]at bL;cases bL;have wO:news.length=(bu.take n).length*e.size:=f2.1;have wM:(off+(bu.take n).length)*e.size<=l.length*e.size:=gM _ (by rw[io];omega);rw[nh]at wM;have EH:=cq.1;have he:o+off*e.size+news.length<=c.size:=J;obtain⟨w',bz,cO,ay,eh⟩:=Jq (P:=P) (b:=b) (el:=el) (fz:=fz) (o:=o+off*e.size) news 0 c w ca dv J f2.one;simp only[uy]at eh;obtain⟨cZ,fN⟩:=cq.copy (n:=n) bW f2 eh;refine⟨_,w',ag8 aL g1 cm rfl f1 bz,?_⟩;obtain⟨iI,j?⟩:=hm.put (id:=id) (x:=(b,o,c.size)) (w':=w') nE bF e' ay.os ay.tape ay.output ay.size ay.other (bl (d? l off n bu)) (arw _ (Ab bW)) λj?=>
  rm _ cO b o el fz w' _ (Ab bW) (by rw[bF,cZ]) ay.jd (fN.mono j?.vw) (dv.same cZ) e'
 exact⟨phx,M,iI,j?,aB _ _ _⟩
def aon{e:ag}{tid uid ty:TypeId}(ht:(cY P (.sl e)).1 tid){a x r:av}{ck hq:Value}(h:(aaJ e a x).a7 g B=some (r,B'))(hm:bM K w0 phx M B w)
  (eb:ba phx (view w M) B a ck) (m5:ba phx (view w M) B x hq) :
  ∃v w',(Builtin.copy_ #[tid,uid] ty #[ck,hq]).run P w=.ok v w'/\dA K w0 phx M B w B' r v w':=by
 replace h:=gW h;obtain⟨dM,h⟩:=h;have dM:0<e.size:=by simpa using dM
 obtain⟨bu,c7,O,R⟩:=ax.cK h;obtain⟨rfl,ad,cap,rfl,hy⟩:=Wz O hm m5;obtain⟨⟨bf,aL,aC⟩,_⟩:=ht;obtain⟨i,g1,cD,cQ,gj⟩:=oa aC;cases a<;>try(cases R;done)
 case nil =>cases R;have HP:ck=.slice none 0 0:=eb;subst HP;obtain⟨news,f1,f2⟩:=aaK (P:=P) (cap:=cap) hy 0;rw[<- cD]at f1;refine⟨_,w,ag7 aL g1 rfl rfl f1,phx,M,hm,ct.refl _ _ _ _,?_⟩;rw[show Nat.min (List.length (α:=e.aG) bu) 0=0 from Nat.min_zero _];exact⟨_,aI.iK.2 rfl,rfl⟩
 case own id eT=>
  simp only[ax.a7]at R;have ab:bJ phx (view w M) c7 (.own id eT) ck:=eb;simp only[bJ]at ab;have aa:=hm.blks id;generalize az:c7 id=bl at R ab aa;cases bl<;>try(cases R;done)
  rename_i bB l;obtain⟨h9,b9,af,au⟩:=ax.cK R;obtain⟨bs,rfl⟩:=dP af;obtain⟨fL,rfl⟩:=jK bs;subst fL;cases au;refine R2 (id:=id) (off:=0) (n:=l.length) (l:=l) (bl:=λl=>.ob e l) aL g1 cD hm hy (by rw[az];rfl) J ab.1 (λ_=>by rw[Kb az];exact⟨hm,ct.refl _ _ _ _⟩) (λhi hl=>by rw[az];exact⟨rfl,hl.symm⟩) aa.2 ?_;intro hi cO b o el fz w' b9 vJ bL ca cq dv e';exact⟨dM,.inr ⟨b,o,cO,el,fz,bL,ca,cq,dv,e'⟩⟩
 case osl id off n=>
  simp only[ax.a7]at R;have ab:bJ phx (view w M) c7 (.osl id off n) ck:=eb;simp only[bJ]at ab;have aa:=hm.blks id;generalize az:c7 id=bl at R ab aa;cases bl<;>try(cases R;done)
  case ob bB l =>obtain⟨h9,b9,af,au⟩:=ax.cK R;obtain⟨bs,rfl⟩:=dP af;obtain⟨fL,rfl⟩:=jK bs;subst fL;cases au;refine R2 (id:=id) (off:=off) (n:=n) (l:=l) (bl:=λl=>.ob e l) aL g1 cD hm hy (by rw[az];rfl) ab.1 ab.2.1 (λ_=>by rw[Kb az];exact⟨hm,ct.refl _ _ _ _⟩) (λhi hl=>by rw[az];exact⟨rfl,hl.symm⟩) aa.2 ?_;intro hi cO b o el fz w' b9 vJ bL ca cq dv e';exact⟨dM,.inr ⟨b,o,cO,el,fz,bL,ca,cq,dv,e'⟩⟩
  case box t v=>
   cases t<;>try(cases R;done)
   rename_i m bB;obtain⟨l,b9,af,au⟩:=ax.cK R;obtain⟨hl,rfl⟩:=dP af;obtain⟨h9,vY,aY,cp⟩:=ax.cK au;obtain⟨bs,rfl⟩:=dP aY;obtain⟨fL,rfl⟩:=jK bs;subst fL;cases cp;obtain⟨eD,tW,c0,tp,tz,bF,b2,dy,fl,fZ,kd⟩:=aa;obtain⟨adv,eI⟩:=K5 (sV hl fl) dy;have Ay:∀(hi:List e.aG) (cO:Array Value) (b o:Nat) (el:TypeId) (fz:Nat×Nat) (w':World) (b9:Nat->aT),hi.length=List.length (α:=e.aG) l->phx id=some (b,o,cO.size)->w'.heap[b]?=some (.cells cO el fz)->fi (view w' M) e hi cO o->iD cO fz->M b->ml phx M w' (view w' M) b9 id (.box (.ar m e) (.sc (.ar m e) hi)):=
    λhi cO b o el fz w' b9 vJ bL ca cq dv e'=>by have AD:hi.length=m:=vJ.trans adv;have EH:=cq.1;rw[AD]at EH;exact⟨b,o,cO,el,fz,bL,ca,EH,⟨rfl,ay6 cq AD⟩,dv,e'⟩
   refine R2 (id:=id) (off:=off) (n:=n) (l:=l) (bl:=λl=>.box (.ar m e) (.sc (.ar m e) l)) aL g1 cD hm hy (by rw[az];rfl) (by rw[adv];exact ab.2.1) ab.2.2 (λ_ => ?_) (λhi hl=>by rw[az];rfl)
    (.inr ⟨eD,tW,c0,tp,tz,bF,b2,eI,fZ,kd⟩) Ay
   exact hm.put (id:=id) (x:=(eD,tW,c0.size)) (w':=w) (by rw[az];rfl) bF kd rfl rfl rfl rfl (λ_ _=>rfl) _ (by rw[az];rfl) λj?=>
    Ay _ c0 eD tW tp tz w _ rfl bF b2 eI fZ kd
def aBO(H:cj){e:ag}(dM:0<e.size)(n:Nat):fa H e ((bR n e.zero).take n) (Builtin.zeroCells (cB e (dJ e)).cells n).toList:=by
 have Hk:Builtin.zeroCells (cB e (dJ e)).cells n=madeCells (dJ e).toArray (n*e.size):=by rw[ut];simp[Builtin.zeroCells,madeCells,s6]
 have h:=(PT H dM (n:=n) (m:=n) (b1 _)).tq;have ab:cM (madeCells (dJ e).toArray (n*e.size)) 0 ((bR n e.zero).length*e.size)=(madeCells (dJ e).toArray (n*e.size)).toList:=Jt rfl (by simp[size_madeCells,bR]);rw[ab]at h;rw[Hk,il (by simp[bR])];exact h
def aaw{e:ag}{tid ty bf:TypeId}(aL:P.underlying tid=some (.slice bf))(aC:(cY P e).1 bf)(dM:0<e.size)(hm:bM K w0 phx M B w){id:Nat}{l:List e.aG}{ck:Value}(az:B id=.ob e l)(bW:off+n<=l.length)(wQ:h4 phx id e off n ck)
  (eI:(phx id=none/\l.length=0)\/∃b o c el fz,phx id=some (b,o,c.size)/\w.heap[b]?=some (.cells c el fz)/\fi (view w M) e l c o/\iD c fz/\M b) :
  ∃v w',(Builtin.clear_ #[tid] ty #[ck]).run P w=.ok v w'/\dA K w0 phx M B w (c' B id (.ob e (d? l off n (bR n e.zero)))) (.tup (.sc .unit ())) v w':=by
 have adW:∀phx' H' b9,ba phx' H' b9 (.tup (.sc .unit ())) (.tuple #[]):=λ_ _ _=>⟨[],rfl,rfl⟩;have EX:n=0->(Builtin.clear_ #[tid] ty #[ck]).run P w=.ok (.tuple #[]) w->∃v w',(Builtin.clear_ #[tid] ty #[ck]).run P w=.ok v w'/\dA K w0 phx M B w (c' B id (.ob e (d? l off n (bR n e.zero)))) (.tup (.sc .unit ())) v w':=by rintro rfl ai;rw[R4,Kb az];exact⟨_,w,ai,phx,M,hm,ct.refl _ _ _ _,adW _ _ _⟩
 rcases wQ with⟨rfl,a',rfl⟩|⟨b,o,W4,gX,bF,rfl,dy,fl,fZ⟩
 .refine EX rfl ?_
  cases a'<;>simp[Builtin.clear_,run_underlying aL]
 cases n with
 |zero=>exact EX rfl (by simp[Builtin.clear_,run_underlying aL])
 |succ n=>
  rcases eI with⟨bL,_⟩|⟨b',dz,c,el,fz,bL,ca,cq,dv,e'⟩
  .omega
  rw[bF]at bL;cases bL;have f2:=aBO (view w M) dM (n+1);have wO:=f2.1;have cm:((bR (n+1) e.zero).take (n+1)).length=n+1:=by simp[bR]
  rw[cm]at wO;have wM:(off+(n+1))*e.size<=l.length*e.size:=gM _ bW;rw[nh]at wM;have EH:=cq.1;obtain⟨w',bz,cO,ay,eh⟩:=Jq (P:=P) (b:=b) (el:=el) (fz:=fz) (o:=o+off*e.size) (Builtin.zeroCells (cB e (dJ e)).cells (n+1)).toList 0 c w ca dv J f2.one;obtain⟨cZ,fN⟩:=cq.copy (n:=n+1) bW f2 eh;refine⟨.tuple #[],w',?_,?_⟩
  .have HW:=BI aC w
   simp[Builtin.clear_,run_underlying aL,HW];simp[bz]
  obtain⟨iI,j?⟩:=hm.put (id:=id) (x:=(b,o,c.size)) (w':=w') (by rw[az];rfl) bF e' ay.os ay.tape ay.output ay.size ay.other (.ob e (d? l off (n+1) (bR (n+1) e.zero))) (by rw[az];exact⟨rfl,(Ab bW).symm⟩) λj?=>
   ⟨dM,.inr ⟨b,o,cO,el,fz,by rw[bF,cZ],ay.jd,fN.mono j?.vw,dv.same cZ,e'⟩⟩
  exact⟨phx,M,iI,j?,adW _ _ _⟩
def aoa{e:ag}{tid ty:TypeId}(ht:(cY P (.sl e)).1 tid){a r:av}{ck:Value}(h:(RU e a).a7 g B=some (r,B'))(hm:bM K w0 phx M B w)(eb:ba phx (view w M) B a ck):
  ∃v w',(Builtin.clear_ #[tid] ty #[ck]).run P w=.ok v w'/\dA K w0 phx M B w B' r v w':=by
 unfold RU at h;replace h:=gW h;obtain⟨dM,h⟩:=h;have dM:0<e.size:=by simpa using dM
 obtain⟨⟨bf,aL,aC⟩,_⟩:=ht;cases a<;>try(cases h;done)
 case own id eT=>
  simp only[ax.a7]at h;have ab:bJ phx (view w M) B (.own id eT) ck:=eb;simp only[bJ]at ab;have aa:=hm.blks id;generalize az:B id=bl at h ab aa;cases bl<;>try(cases h;done)
  replace h:=gW h;obtain⟨ah,h⟩:=h;have:=eX ah;subst this;cases h;exact aaw (ty:=ty) aL aC dM hm az (KO (lT _)) ab.1 aa.2
 case osl id off n=>
  simp only[ax.a7]at h;have ab:bJ phx (view w M) B (.osl id off n) ck:=eb;simp only[bJ]at ab;have aa:=hm.blks id;generalize az:B id=bl at h ab aa;cases bl<;>try(cases h;done)
  replace h:=gW h;obtain⟨ah,h⟩:=h;have:=eX ah;subst this;cases h;exact aaw (ty:=ty) aL aC dM hm az ab.1 ab.2.1 aa.2
def akI{e u:ag}{tid uid ty:TypeId}(ht:(cY P (.sl e)).1 tid)(aL:(cY P u).1 uid)(aQ:MZ u=true){s x r:av}{vs hq:Value}(h:(QH e s x).a7 g B=some (r,B'))
  (hm:bM K w0 phx M B w) (wS:ba phx (view w M) B s vs) (m5:ba phx (view w M) B x hq) :
  ∃v w',(Builtin.append_ #[tid,uid] ty #[vs,hq]).run P w=.ok v w'/\dA K w0 phx M B w B' r v w':=by
 unfold QH at h;replace h:=gW h;obtain⟨dM,h⟩:=h;have dM:0<e.size:=by simpa using dM
 obtain⟨bu,c7,O,R⟩:=ax.cK h;clear h;obtain⟨rfl,news,hx,bQ⟩:=YO (P:=P) O hm m5;obtain⟨⟨bf,qw,aC⟩,_⟩:=ht;obtain⟨C6,yE,aJ⟩:=ah0 aL aQ;obtain⟨i,g1,cD,cQ,gj⟩:=oa aC;cases s<;>try(cases R;done)
 rename_i id off n;simp only[ax.a7]at R;have ab:bJ phx (view w M) c7 (.osl id off n) vs:=wS;simp only[bJ]at ab;have aa:=hm.blks id;generalize az:c7 id=bl at R ab aa;cases bl<;>try(cases R;done)
 rename_i bB l;obtain⟨h9,b9,af,au⟩:=ax.cK R;clear R;obtain⟨bs,rfl⟩:=dP af;obtain⟨fL,rfl⟩:=jK bs;subst fL;replace au:=i_ au;obtain⟨gn,au⟩:=au;simp only[ax.a7]at au;cases au;simp only[kz,bI,aV]at gn;have gn:off+(n+List.length bu)<l.length+1:=by simpa using gn
 obtain⟨bW,aK,qp⟩:=ab;have wz:=bQ.1

 have awe:bu=[]->∃v w',(Builtin.append_ #[tid,uid] ty #[vs,hq]).run P w=.ok v w'/\dA K w0 phx M b9 w (c' b9 id (.ob e (d? l (bI off n) (aV bu) bu))) (.osl id off (bI n (aV bu))) v w':=by
  rintro rfl;have adz:news=[]:=iR.1 (by rw[wz];simp);subst adz;have oe:d? l (bI off n) (aV ([]:List e.aG)) []=l:=by simp[d?]
  rw[oe,Kb az];obtain⟨ad,c,rfl⟩:=aK.slice;have rm:ba phx (view w M) b9 (.osl id off (bI n (aV ([]:List e.aG)))) (.slice ad n c):=by simp only[ba,d6,bJ,az];exact⟨by simpa[bI,aV]using bW,aK,qp⟩
  cases n with
  |zero=>exact⟨_,w,Wq (P:=P) qw yE aJ g1 (by rw[cD];exact hx),phx,M,hm,ct.refl _ _ _ _,rm⟩
  |succ n=>
   rcases aK with⟨yM,_⟩|⟨b,o,W4,cap,bF,b2,dy,fl,fZ⟩
   .omega
   cases b2;rcases aa.2 with⟨bL,_⟩|⟨b',dz,cO,el,fz,bL,ca,cq,dv,e'⟩
   .rw[bF]at bL;cases bL
   rw[bF]at bL;cases bL;have EH:=cq.1;have wM:(off+(n+1))*e.size<=l.length*e.size:=gM _ bW;rw[nh]at wM;obtain⟨w',ai,c2,hp,m0⟩:=Ot (P:=P) (w:=w) (ty:=ty) qw yE aJ g1 (x:=hq) (n:=0) (news:=[]) (by rw[cD];exact hx) (b:=b) (o:=o+off*e.size) (sLen:=n+1) (sCap:=c) J ca dv (by rw[cD];simp only[j4];omega) (by intro v aB;cases aB);have Tv:c2=cO:=by apply Cy;rw[m0];simp[h8]
   subst Tv;obtain⟨iI,j?⟩:=hm.put (id:=id) (x:=(b,o,c2.size)) (w':=w') (by rw[az];rfl) bF e' hp.os hp.tape hp.output hp.size hp.other (.ob e l) (by rw[az];exact⟨rfl,rfl⟩) λj?=>
    ⟨dM,.inr ⟨b,o,c2,el,fz,bF,hp.jd,cq.mono j?.vw,dv,e'⟩⟩
   rw[Kb az]at iI j?;exact⟨_,w',ai,phx,M,iI,j?,j?.p rm⟩
 by_cases hy:bu=[]
 .exact awe hy
 have aCu:0<List.length bu:=by
  cases oi:bu with
  |nil=>exact absurd oi hy
  |cons=>simp
 rcases qp with⟨yM,_⟩|⟨b,o,W4,vu,cap,bF,b2,dy⟩
 .omega
 subst b2;obtain⟨rfl,l2⟩:=aK.aap;rcases aa.2 with⟨bL,_⟩|⟨b',dz,c,el,fz,bL,ca,cq,dv,e'⟩
 .rw[bF]at bL;cases bL
 rw[bF]at bL;cases bL;have EH:=cq.1;have wM:(off+(vu+List.length bu))*e.size<=l.length*e.size:=gM _ J;rw[nh,nh]at wM;obtain⟨w',ai,cO,hp,m0⟩:=Ot (P:=P) (w:=w) (ty:=ty) qw yE aJ g1 (x:=hq) (n:=List.length bu) (news:=news) (by rw[cD];exact hx) (b:=b) (o:=o+off*e.size) (sLen:=vu) (sCap:=cap) J ca dv (by rw[cD];omega) bQ.one;rw[cD]at m0;have Tc:fa (view w M) e (bu.take (List.length bu)) news:=by rw[ni];exact bQ
 obtain⟨cZ,fN⟩:=cq.copy (off:=off+vu) (n:=List.length bu) J Tc (by rw[m0,nh,j2]);obtain⟨iI,j?⟩:=hm.put (id:=id) (x:=(b,o,c.size)) (w':=w') (by rw[az];rfl) bF e' hp.os hp.tape hp.output hp.size hp.other (.ob e (d? l (off+vu) (List.length bu) bu)) (by rw[az];exact⟨rfl,(Ab J).symm⟩) λj?=>
  ⟨dM,.inr ⟨b,o,cO,el,fz,by rw[bF,cZ],hp.jd,fN.mono j?.vw,dv.same cZ,e'⟩⟩
 refine⟨_,w',ai,phx,M,iI,j?,?_⟩;have e2:(d? l (off+vu) (List.length bu) bu).length=l.length:=Ab J;rcases aK with⟨yM,a0,fl⟩|⟨eo,m7,aCN,Ly,fl,fZ,kd,kY,kZ⟩
 .simp only[Value.slice.injEq]at fl;omega
 rw[bF]at fl;cases fl;simp only[Value.slice.injEq]at fZ;obtain⟨_,_,rfl⟩:=fZ;simp only[ba,d6,bJ,e5];refine⟨by rw[show bI off vu=off+vu from rfl,show aV bu=List.length bu from rfl,e2];unfold bI;omega,.inr ⟨b,o,c.size,cap,bF,rfl,by show vu+List.length bu<=cap;omega,kY,kZ⟩,?_⟩;rw[show bI off vu=off+vu from rfl,show aV bu=List.length bu from rfl,e2];exact .inr ⟨b,o,c.size,_,cap,bF,rfl,dy⟩
def az0{j0:ag}{tid:TypeId}(ht:(cY P (.ar n j0)).1 tid){a r:av}{ck:Value}{lo ac:Option Int}(h:(WH n j0 a (bU lo 0) (bU ac (bi n))).a7 g B=some (r,B'))(hm:bM K w0 phx M B w)
  (eb:ba phx (view w M) B a ck) (ks kh:IntKind):B'=B/\∃v,(Instr.sliceAt tid ck (lo.map λi=>.int ks i) (ac.map λi=>.int kh i) none).run P w=.ok v w/\ba phx (view w M) B r v:=by
 have run:∀{b o:Nat},b8 (bU lo 0) (bU ac (bi n)) (bi n)=true->(Instr.sliceAt tid (.pointer (some ⟨b,o,none⟩)) (lo.map λi=>.int ks i) (ac.map λi=>.int kh i) none).run P w =
   .ok (.slice (some (if n=(bU lo 0).toNat then⟨b,o,none⟩ else(⟨b,o,none⟩:Addr).add ((bU lo 0).toNat*j0.size))) ((bU ac (bi n)).toNat-(bU lo 0).toNat) (n-(bU lo 0).toNat)) w:=by
  intro b o aa;obtain⟨⟨bf,aL,aC⟩,_⟩:=ht;have jP:=WI (P:=P) (isSlice:=false) (ks:=ks) (kh:=kh) (b1 n) aa w;have bs:=pc aC w;simp[Instr.sliceAt,Instr.sureAddr,run_underlying aL,jP,bs];rfl
 unfold WH at h;split at h
 .rename_i id
  simp only[ax.a7]at h;have ab:bJ phx (view w M) B (.ptr id []) ck:=eb;simp only[bJ]at ab;have aa:=hm.blks id;generalize az:B id=bl at h ab aa;cases bl<;>try(cases h;done)
  case box t v=>
   replace h:=gW h;obtain⟨ah,h⟩:=h;replace h:=i_ h;obtain⟨et,h⟩:=h;cases h;simp only[cP]at ah;obtain⟨O,R,af⟩:=ah;have:=eX O;subst this;have dM:0<j0.size:=by simpa using R
   have jf:n<=16777216:=by simpa using af
   obtain⟨b,o,m,off,t',bF,b2,rfl⟩:=ab;simp only[ag.ew,kJ,pr]at b2;obtain⟨rfl,_⟩:=b2;obtain⟨eD,tW,c0,tp,tz,bL,ca,cq,dv,e',ma⟩:=aa;rw[bF]at bL;cases bL;have cq:o+n*j0.size<=c0.size:=cq;obtain⟨dQ,gS,l_⟩:=sA.1 et;have l_:bU ac (bi n)<=(n:Int):=l_;refine⟨rfl,_,run et,?_⟩;show bJ phx (view w M) B (.osl id (ae (bU lo 0)) (cc (ae (bU ac (bi n))) (ae (bU lo 0)))) _;simp only[bJ,az];refine⟨dM,by unfold cc ae;omega,?_⟩;unfold cc ae;by_cases hl:n=(bU lo 0).toNat
   .left
    rw[if_pos hl];exact⟨J,_,by rw[show(bU ac (bi n)).toNat-(bU lo 0).toNat=0 by omega,show n-(bU lo 0).toNat=0 by omega]⟩
   right;rw[if_neg hl];refine⟨b,o,c0.size,n-(bU lo 0).toNat,bF,by simp[q8],J,by unfold maxLen;omega,?_⟩;rw[show(bU lo 0).toNat+(n-(bU lo 0).toNat)=n by omega];exact cq
  case fz e l=>
   replace h:=gW h;obtain⟨ah,h⟩:=h;replace h:=i_ h;obtain⟨et,h⟩:=h;cases h;simp only[cP]at ah;obtain⟨O,af⟩:=ah;have:=eX O;subst this;have jf:n<=16777216:=by simpa using af
   simp only[c3,cP]at et;obtain⟨MG,et⟩:=et;have MG:l.length=n:=fU MG;obtain⟨b,o,m,bF,b2⟩:=ab;have:=b2 trivial;subst this;rcases aa.2 with⟨bL,_⟩|⟨eD,tW,c0,tp,tz,bL,ca,cq⟩
   .rw[bF]at bL;cases bL
   rw[bF]at bL;cases bL;obtain⟨dQ,gS,l_⟩:=sA.1 et;have l_:bU ac (bi n)<=(n:Int):=l_;have cC:aI (view w M) (.sl e) l [.slice (some ⟨b,o,none⟩) l.length n]:=
    aI.iM.2 ⟨_,n,rfl,J,by unfold maxLen;omega,.inr ⟨b,o,c0,tp,tz,rfl,ca,cq.1,cq.2⟩⟩
   have aY:=cC.sub (L:=(bU lo 0).toNat) (N:=(bU ac (bi n)).toNat-(bU lo 0).toNat) (cap':=n-(bU lo 0).toNat) J J (b1 _);refine⟨rfl,_,run et,_,aY,?_⟩;refine(show Value.slice _ _ _=Value.slice _ _ _ from ?_);congr 1;by_cases hl:n=(bU lo 0).toNat
   .rw[if_pos hl,if_pos J]
   rw[if_neg hl,if_neg J];rfl
 cases h
end
end Yp
namespace Yp
open Go
def p5:=@Array.getElem?_setIfInBounds_ne
def Yh:=@Int.fdiv_eq_ediv_of_nonneg
def P2:=@Nat.ble_eq
variable {P:Program}
section
variable {K:Kp} {w0 w:World} {phx:cf} {M:Nat->Prop} {B B':Nat->aT} {g:Nat->av} {H:cj}
def av4{x r:av}{hq:Value}(h:(U? x).a7 g B=some (r,B'))(hm:bM K w0 phx M B w)(ai:ba phx (view w M) B x hq)(ty:TypeId):
  ∃v w',(Instr.next hq true ty).run P w=.ok v w'/\dA K w0 phx M B w B' r v w':=by
 cases x<;>try(cases h;done)
 rename_i id;simp only[U?,ax.a7]at h;have ab:bJ phx (view w M) B (.itp id) hq:=ai;have dK:=hm.blks id;simp only[bJ]at ab;generalize az:B id=bl at h ab dK;cases bl<;>try(cases h;done)
 rename_i s p;obtain⟨b,O,rfl⟩:=ab;obtain⟨b',g1,cD,cQ⟩:=dK;rw[O]at g1;cases g1;have sq:∀w':World,w'.heap[b]?=some (.stringIter ⟨s.toArray⟩ p)->(getObj b).run P w'=.ok (.stringIter ⟨s.toArray⟩ p) w':=λw' bw=>by simp[getObj,Sem.run,bw]
 have cZ:(⟨s.toArray⟩:ByteArray).size=s.length:=rfl;by_cases hp:p<s.length
 .have ak:kz p (aV s)=true:=by simpa[kz,aV]using hp
  rw[ax.a7,if_pos ak]at h;cases h
  let w':World:={ w with heap:=w.heap.setIfInBounds b (.stringIter ⟨s.toArray⟩ (p+(h? s p).2)) }
  have bn:b<w.heap.size:=(iP.1 cD).1;have jP:w'.heap[b]?=some (.stringIter ⟨s.toArray⟩ (p+(h? s p).2)):=by simp[w',bn]
  have aK:∀j,j≠b->w'.heap[j]?=w.heap[j]?:=λj ap=>by simp[w',p5 (FL ap)]
  have arU:Utf8.decode (⟨s.toArray⟩:ByteArray) p=h? s p:=rfl;refine⟨.tuple #[.bool true,goInt p,.int .i32 ((h? s p).1:Int)],w',?_,?_⟩
  .simp[Instr.next,sq w cD,cZ,hp,arU,setObj,Sem.run,cD,w']
  obtain⟨bD,e1⟩:=hm.put (id:=id) (x:=(b,0,0)) (w':=w') (by rw[az];rfl) O cQ rfl rfl rfl (by grind) aK (.it s (bI p (h? s p).2)) (by rw[az];rfl) (λ_=>⟨b,O,jP,cQ⟩);refine⟨phx,M,bD,e1,[.bool true,goInt p,.int .i32 ((h? s p).1:Int)],?_,rfl⟩;have bL:d6 phx (view w' M) (c' B id (.it s (bI p (h? s p).2))) (Yp.int (bi p)) (goInt p):=ba.vx (phx:=phx) (B:=c' B id (.it s (bI p (h? s p).2))) _ p;have ca:d6 phx (view w' M) (c' B id (.it s (bI p (h? s p).2))) (.sc (.int .i32) (bi (h? s p).1)) (.int .i32 ((h? s p).1:Int)):=ba.tU phx _ (c' B id (.it s (bI p (h? s p).2))) .i32 ((h? s p).1:Int);exact⟨_,_,rfl,rfl,_,_,rfl,bL,_,_,rfl,ca,rfl⟩
 have ak:¬(kz p (aV s)=true):=by simpa[kz,aV]using hp
 rw[ax.a7,if_neg ak]at h;cases h;refine⟨.tuple #[.bool false],w,?_,dA.same hm rfl ?_⟩
 .simp[Instr.next,sq w cD,cZ,hp]
 exact⟨[.bool false],⟨_,_,rfl,rfl,rfl⟩,rfl⟩
def aas{b:Bool}{k:ax av}{r:av×(Nat->aT)}(h:(Aa b c k).a7 g B=some r):(b=true\/c=true)/\k.a7 g B=some r:=by
 cases b with
 |true=>exact⟨.inl rfl,h⟩
 |false=>obtain⟨O,R⟩:=i_ h;exact⟨.inr O,R⟩
def aic{op:BinOp}(tK:op=.shl\/op=.shr){k k':IntKind}{x:bG k}{y:bG k'}(hy:0<=bG.to k' y)(t:TypeId)(w:World):
  ∃v,(binOp op t (.int k (bG.to k x)) (.int k' (bG.to k' y))).run P w=.ok v w /\
   ba phx H B (match op with|.shl=>.sc (.int k) (bG.of k (h0 k (bG.to k x) (bG.to k' y)))|_=>.sc (.int k) (bG.lit k (fO k (bG.to k x) (bG.to k' y)))) v:=by
 have ak:¬bG.to k' y<0:=J;rcases tK with rfl|rfl
 .refine⟨.int k (k.wrap (h0 k (bG.to k x) (bG.to k' y))),by simp[binOp,Op.shift,ak,h0],?_⟩
  have:=ba.tU phx H B k (bG.of k (h0 k (bG.to k x) (bG.to k' y)))
  rwa [bG.Pc]at this
 refine⟨.int k (fO k (bG.to k x) (bG.to k' y)),by simp[binOp,Op.shift,ak,fO],?_⟩;have:=ba.tU phx H B k (bG.lit k (fO k (bG.to k x) (bG.to k' y)));rw[bG.UT]at this
 .omega
 intro aL;have O:=bG.J6 k x aL;have R:=bG.ai7 k x aL;unfold fO;have hp:(0:Int)<2^(Nat.min (bG.to k' y).toNat k.bits):=Int.pow_pos J;rw[Yh _ (Int.le_of_lt hp)];exact⟨Int.ediv_nonneg O (Int.le_of_lt hp),Int.le_trans (Int.ediv_le_self _ O) R⟩
def run_equalIn_bool(n:Nat){tid:TypeId}(aL:P.underlying tid=some .bool)(p q:Bool)(w:World):(Op.equalIn (n+1) tid (.bool p) (.bool q)).run P w=.ok (p==q) w:=by rw[Op.equalIn];simp only[Sem.run_bind,run_underlying aL];rfl
def aze{tid:TypeId}(aL:P.underlying tid=some .bool)(p q:Bool)(w:World):(Op.equal tid (.bool p) (.bool q)).run P w=.ok (p==q) w:=
 run_equalIn_bool 9999 aL p q w
def azg{tid bf:TypeId}(aL:P.underlying tid=some (.slice bf))(ad:Option Addr)(l c:Nat)(w:World):(Op.equal tid (.slice ad l c) (.slice none 0 0)).run P w=.ok ad.isNone w:=by show(Op.equalIn (9999+1) tid _ _).run P w=_;rw[Op.equalIn];simp only[Sem.run_bind,run_underlying aL];cases ad<;>rfl
def alp{E:dk}(hT:nP P E.bv)(cC:qj P E.bv E.C){op:BinOp}{tid:TypeId}{a b r:av}{ck uo:Value}(h:(QZ E op tid a b).a7 g B=some (r,B'))(eb:ba phx H B a ck)(vd:ba phx H B b uo)(x y:Operand)(w:World):
  B'=B/\∃v,(do eqGuard op tid x y ck uo;binOp op tid ck uo:Sem Value).run P w=.ok v w/\ba phx H B r v:=by
 unfold QZ at h;cases ht:E.bv tid with
 |none=>rw[ht]at h;cases h
 |some t=>
  rw[ht]at h;cases ac:ag.is t .bool with
  |true=>
   have:=eX ac;subst this;have aL:P.underlying tid=some .bool:=(hT _ _ ht).1;cases bh:iN .bool a with
   |none=>rw[bh]at h;cases h
   |some p=>
    cases aa:iN .bool b with
    |none=>rw[bh,aa]at h;cases h
    |some q=>
     rw[bh,aa]at h;have e1:=(oC bh eb).bool;have aU:=(oC aa vd).bool;subst e1;subst aU;have hg:(eqGuard op tid x y (.bool p) (.bool q)).run P w=.ok () w:=by unfold eqGuard;cases op<;>rfl
     have rg:(Op.equal tid (.bool p) (.bool q)).run P w=.ok (z_ p q) w:=Yp.aze aL p q w;cases op<;>try(cases h;done)
     .cases h
      exact⟨rfl,_,by simp[hg,binOp,rg],ba.vv _ _ _ _⟩
     cases h;exact⟨rfl,_,by simp[hg,binOp,rg,bg],ba.vv _ _ _ _⟩
  |false=>
   simp only[ac,cond_false]at h;cases ah:E.C tid with
   |false=>
    rw[ah,cond_false]at h;unfold afo at h;split at h
    .rename_i e t' z
     obtain⟨aCS,c7,O,R⟩:=ax.cK h;obtain⟨bs,rfl⟩:=dP O;obtain⟨fL,rfl⟩:=wi bs;subst fL;cases R;simp only[ba]at vd;subst vd;obtain⟨cs,af,rfl⟩:=eb;obtain⟨ad,cap,rfl,au,aY,cp⟩:=aI.zl.1 af;obtain⟨⟨bf,aL,_⟩,_⟩:=hT _ _ ht;refine⟨rfl,_,?_,ad.isNone,rfl,λak => ?_⟩
     .have hg:∀n,(eqGuard .eql tid x y (.slice ad n cap) (.slice none 0 0)).run P w=.ok () w:=λ_=>rfl
      have rg:=λn=>azg (P:=P) aL ad n cap w;simp[hg,binOp,cB,ag.isAgg,rg]
     rcases cp with cp|⟨b,o,c,el,fz,rfl,_⟩
     .simp[aj,len,cp]
     cases ak
    cases h
   |true=>
   rw[ah]at h;have eF:=cC tid t ah ht;simp only[RZ,cP,Cs,P2]at eF;obtain⟨⟨⟨jr,aCg⟩,arL⟩,asr⟩:=eF;cases bh:iN t a with
   |none=>rw[bh]at h;cases h
   |some p=>
    cases aa:iN t b with
    |none=>rw[bh,aa]at h;cases h
    |some q=>
     rw[bh,aa]at h;obtain⟨cs,c1,e1⟩:=oC bh eb;obtain⟨ds,c2,aU⟩:=oC aa vd;rw[w7 jr]at e1 aU;subst e1;subst aU;have hg:=run_eqGuard_agg (P:=P) w op tid x y cs.toArray ds.toArray asr;have rg:(Op.equal tid (.agg cs.toArray) (.agg ds.toArray)).run P w=.ok (t.oS p q) w:=by
      have:=(LZ (P:=P) (H:=H) (H':=H) w t).1 tid 10000 p q cs ds arL (hT _ _ ht) c1 c2 J
      rwa [w7 jr,w7 jr]at this
     cases op<;>try(cases h;done)
     .cases h
      exact⟨rfl,_,by simp[hg,binOp,rg],ba.vv _ _ _ _⟩
     cases h;exact⟨rfl,_,by simp[hg,binOp,rg,bg],ba.vv _ _ _ _⟩
def alr{E:dk}(hT:nP P E.bv)(cC:qj P E.bv E.C){sG IB:Bool}{op:BinOp}{tid:TypeId}{a b r:av}{ck uo:Value}(h:(Ld E sG IB op tid a b).a7 g B=some (r,B'))(eb:ba phx H B a ck)(vd:ba phx H B b uo)
  (MI:sG=true->∀k n,uo=.int k n->n≠0) (adz:IB=true->∀k n,uo=.int k n->0<=n) (x y:Operand) (w:World) :
  B'=B/\∃v,(do eqGuard op tid x y ck uo;binOp op tid ck uo:Sem Value).run P w=.ok v w/\ba phx H B r v:=by
 unfold Ld at h;split at h
 .rename_i k p k' q
  have e1:=eb.int;have aU:=vd.int;subst e1;subst aU;have hg:=ape (P:=P) op tid x y k k' (bG.to k p) (bG.to k' q) w;split at h
  .obtain⟨ah,h⟩:=aas h
   cases h;have hy:0<=bG.to k' q:=by
    rcases ah with ah|ah
    .simp at ah
     rcases ah with ah|ah
     .grind
     exact bG.J6 _ _ ah
    simpa[b3]using ah
   obtain⟨v,O,R⟩:=aic (P:=P) (phx:=phx) (H:=H) (B:=B) (op:=.shl) (.inl rfl) (x:=p) (y:=q) hy tid w;exact⟨rfl,v,by simp[hg,O],R⟩
  .obtain⟨ah,h⟩:=aas h
   cases h;have hy:0<=bG.to k' q:=by
    rcases ah with ah|ah
    .simp at ah
     rcases ah with ah|ah
     .grind
     exact bG.J6 _ _ ah
    simpa[b3]using ah
   obtain⟨v,O,R⟩:=aic (P:=P) (phx:=phx) (H:=H) (B:=B) (op:=.shr) (.inr rfl) (x:=p) (y:=q) hy tid w;exact⟨rfl,v,by simp[hg,O],R⟩
  split at h
  .rename_i NV aQ
   obtain⟨e,rfl⟩:=wi aQ;cases e;obtain⟨az,v,O,R⟩:=alq (P:=P) h (λbs=>MI bs _ _ rfl) tid w phx H;exact⟨az,v,by simp[hg,O],R⟩
  cases h
 .rename_i p q
  have e1:=eb.str;have aU:=vd.str;subst e1;subst aU;have hg:=apf (P:=P) op tid x y ⟨p.toArray⟩ ⟨q.toArray⟩ w;obtain⟨az,v,O,R⟩:=als (P:=P) h tid w phx H;exact⟨az,v,by simp[hg,O],R⟩
 exact alp hT cC h eb vd x y w
end
end Yp
namespace Yp
open Go
def gL:=@List.length_cons
def zV:=@List.mem_map
def FI:=@List.getElem?_cons_succ
def Ql:=@Array.length_toList
def P3:=@Array.toList_setIfInBounds
def UB:=@List.mapM_cons
variable {P:Program}
def p9(phx:cf)(H:cj)(B:Nat->aT):List (Nat×av)->List (Nat×Value)->Prop
 |[],[]=>True
 |p::a_,v::vs=>p.1=v.1/\ba phx H B p.2 v.2/\p9 phx H B a_ vs
 |_,_=>False
section
variable {K:Kp} {w0 w:World} {phx:cf} {M:Nat->Prop} {B B':Nat->aT} {g:Nat->av} {H:cj}
def p9.ext{phx':cf}{aD:Nat->Prop}{w':World}(aC:ct phx M B w phx' aD B' w'):∀{a_:List (Nat×av)} {vs:List (Nat×Value)},p9 phx (view w M) B a_ vs->p9 phx' (view w' aD) B' a_ vs
 |[],[],_=>trivial
 |_::_,_::_,h=>⟨h.1,aC.p h.2.1,p9.ext aC h.2.2⟩
def VS{a:Act}(ab:dF phx H B g a):∀{l:List (Nat×Operand)} {B':Nat->aT} {a_:List (Nat×av)},(NO l).a7 g B=some (a_,B')->B'=B/\p9 phx H B a_ (l.map λp=>(p.1,a.eval p.2))
 |[],B',a_,h=>by cases h;exact⟨rfl,trivial⟩
 |p::l,B',a_,h=>by have h:(((ey p.2).bind λv=>.ret (p.1,v)).bind λb=>(NO l).bind λb?=>.ret (b::b?)).a7 g B=some (a_,B'):=h;obtain⟨b,c7,O,R⟩:=ax.cK h;obtain⟨v,b9,af,au⟩:=ax.cK O;cases au;obtain⟨kU,aB⟩:=y2 af ab;obtain⟨b?,vY,aY,cp⟩:=ax.cK R;cases cp;rw[kU]at aY;obtain⟨az,hp⟩:=VS ab aY;exact⟨az,rfl,aB,hp⟩
def aeA(off:Nat):∀(vs:List Value) (k:Nat) (cs:Array Value),off+k+vs.length<=cs.size ->
  ((vs.zipIdx k).foldl (λcs (p:Value×Nat)=>cs.setIfInBounds (off+p.2) p.1) cs).toList=h8 cs.toList (off+k) vs
 |[],k,cs,h=>by simp[h8]
 |v::vs,k,cs,h=>by
  simp only[List.zipIdx_cons,KI];simp only[gL]at h;have cm:off+(k+1)+vs.length<=cs.toList.length:=fK;have asG:off+k+(v::vs).length<=cs.toList.length:=fK;rw[aeA off vs (k+1) _ fK];apply Cx;intro j;rw[zn fK,zn asG];simp only[P3,CH,gL,Ql];by_cases aY:j<off+k
  .rw[if_pos J,if_pos aY,if_neg J]
  rw[if_neg aY];by_cases cp:j=off+k
  .subst cp
   have:off+k<cs.size:=J;simp[this]
  by_cases dN:j<off+k+(vs.length+1)
  .rw[if_neg J,if_pos J,if_pos dN]
   rw[show j-(off+k)=(j-(off+(k+1)))+1 by omega,FI]
  rw[if_neg J,if_neg J,if_neg dN,if_neg J]
def auZ(off:Nat)(vs cs:Array Value)(h:off+vs.size<=cs.size):
  (vs.zipIdx.foldl (λcs (p:Value×Nat)=>cs.setIfInBounds (off+p.2) p.1) cs).toList=h8 cs.toList off vs.toList:=by
 have:=aeA off vs.toList 0 cs J;rw[<- Array.foldl_toList]
 grind
def abF{place:Nat->Option (Nat×Nat)}{cs:Array Value}{v:Value}{rest:List (Nat×Value)}{size:Nat}(hp:place i=some (off,size))(ab:v.cells.size=size)(ak:off+size<=cs.size):
  ∃i':Array Value,i'.toList=h8 cs.toList off v.cells.toList/\Instr.fill place cs ((i,v)::rest)=Instr.fill place i' rest:=by
 refine⟨_,auZ off v.cells cs J,?_⟩;simp[Instr.fill,hp,ab];omega
def agi:∀{t:ag} {l:List Field} {off:Nat},(cY P t).2 l off->∃places,l.mapM (λf=>(P.info? f.type).map λi=>(f.offset,i.size))=some places /\
  ∀i d d9,t.ew (gE i)=some (d,d9)->places[i]?=some (off+d,d9.size)
 |.unit,l,off,h=>by subst h;exact⟨[],rfl,λi d d9 h=>by cases i<;>cases h⟩
 |.pair a b,l,off,h=>by
  obtain⟨f,r,rfl,O,R,af⟩:=h;obtain⟨a_,g1,cD⟩:=agi af;obtain⟨i,bF,b2,_⟩:=oa R;refine⟨(off,a.size)::a_,by simp[UB,g1,bF,b2,O],λj d d9 h => ?_⟩;cases j with
  |zero=>
   simp only[gE,ag.ew]at h
   grind
  |succ j=>
   simp only[gE,ag.ew,lR]at h
   grind
def Q?{t:ag}{place:Nat->Option (Nat×Nat)}(jh:∀i d d9,t.ew (gE i)=some (d,d9)->place i=some (d,d9.size)):
  ∀{a_:List (Nat×av)} {vs:List (Nat×Value)} {v cT:av} {cs:Array Value},(Dh t a_).a7 g B=some ((),B')->E2 t v a_=some cT->p9 phx H B a_ vs->fh phx H B v t cs.toList ->
  B'=B/\∃i',Instr.fill place cs vs=some i'/\fh phx H B cT t i'.toList
 |[],[],v,cT,cs,O,R,af,au=>by cases O;cases R;exact⟨rfl,cs,rfl,au⟩
 |(i,u)::a_,(j,x)::vs,v,cT,cs,O,R,af,au=>by
  obtain⟨js,hx,af⟩:=af;simp only[Dh]at O;simp only[E2]at R;cases yv:t.at (gE i) with
  |none=>rw[yv]at O;cases O
  |some d9=>
   rw[yv]at O;obtain⟨_,c7,aY,cp⟩:=ax.cK O;obtain⟨jO,cu,nC,hT⟩:=L? aY hx;rw[jO]at cp;obtain⟨d,aK⟩:=QP yv;cases ab:m' v (gE i) (xs u) with
   |none=>rw[ab]at R;cases R
   |some sY=>
    rw[ab]at R;have hl:=hT.length;have bW:=vE aK;have cZ:x.cells.size=d9.size:=by rw[<- hl,<- nC];simp
    have my:=au.length;obtain⟨GA,e1,aU⟩:=abF (rest:=vs) (jh i d d9 aK) cZ (cs:=cs) (by grind);have acU:=WD au aK ab hT;rw[<- nC,<- e1]at acU;obtain⟨az,r_,d8,hc⟩:=Q? jh cp R af acU
    grind
def Zf{t:ag}(e4:ael t=true){tid:TypeId}(ht:(cY P t).1 tid){a_:List (Nat×av)}{parts:Array (Nat×Value)}{r:av}
  (h:((Dh t a_).bind λ_=>(ax.opt (E2 t (nT t) a_)).bind λv=>.ret (qZ t v)).a7 g B=some (r,B')) (dl:p9 phx H B a_ parts.toList) (w:World) :
  B'=B/\∃v,(Instr.build tid parts).run P w=.ok v w/\ba phx H B r v:=by
 obtain⟨_,c7,O,R⟩:=ax.cK h;obtain⟨v,b9,af,au⟩:=ax.cK R;obtain⟨aY,rfl⟩:=dP af;cases au;have jr:t.isAgg=true:=by cases t<;>first|rfl|cases e4
 obtain⟨fs,aL,Hs⟩:∃fs,P.underlying tid=some (.struct fs)/\(cY P t).2 fs.toList 0:=by
  cases t<;>try(cases e4;done)
  .obtain⟨⟨fs,aL,aC⟩,_⟩:=ht;exact⟨fs,aL,aC⟩
  obtain⟨⟨fs,aL,f,q,e1,aU,d8,hc⟩,_⟩:=ht;exact⟨fs,aL,f,q,e1,aU,d8,by simpa using hc⟩
 obtain⟨places,dQ,gS⟩:=agi Hs;obtain⟨i,bF,b2,_,fl⟩:=oa ht;have Um:fh phx H B (nT t) t (dJ t).toArray.toList:=zH t;obtain⟨az,i',e1,aU⟩:=Q? (g:=g) (B':=B') (place:=(places.toArray[·]?)) (λi d d9 aK=>by have:=gS i d d9 aK;simpa using this) O aY dl Um;refine⟨az,.agg i',run_build w tid parts i' ?_,?_⟩
 .have HV:((cB t (dJ t))).cells=(dJ t).toArray:=ut t
  simp only[Program.built,bF,aL,fl,dQ,HV];exact e1
 have:=Ci aU;simp only[cB,jr,if_true]at this;simpa using this
def OH{α:Type}:∀(eL:List (Nat×α)) (l:List α),(vR l eL).length=l.length
 |[],l=>rfl
 |(i,x)::eL,l=>by simp only[vR];rw[OH eL];simp
def fa.set{e:ag}{l:List e.aG}{cs:List Value}(h:fa H e l cs)(ac:i<l.length){x:e.aG}{cu:List Value}(hx:aI H e x cu):fa H e (l.set i x) (h8 cs (i*e.size) cu):=by
 have hl:=hx.length;have hm:=yX (s:=e.size) ac;have he:i*e.size+cu.length<=cs.length:=by rw[h.1,hl];exact hm
 refine⟨by rw[Fa he,h.1,k7],λj y ap => ?_⟩;by_cases dL:j=i
 .subst dL
  have:=UR (x:=x) ac;simp only[cn]at this;rw[this]at ap;cases ap;have:=O5 (a:=j*e.size) (o:=0) (n:=e.size) (cs:=cs) (vs:=cu) (by simpa using he) J;simp only[uy]at this;rw[this,aiy]
  .exact hx
  rw[io,eU];omega
 have:=UQ (l:=l) (x:=x) dL;simp only[cn]at this;rw[this]at ap;rw[JP he]
 .exact h.2 j y ap
 rcases Yg dL with h|h
 .have:=yX (s:=e.size) h;left;omega
 have:=yX (s:=e.size) h;right;omega
def QA(H:cj)(e:ag):List (Nat×e.aG)->List (Nat×Value)->Prop
 |[],[]=>True
 |p::a_,v::vs=>p.1=v.1/\aI H e p.2 v.2.cells.toList/\QA H e a_ vs
 |_,_=>False
def Xu{e:ag}:∀{a_:List (Nat×av)} {vs:List (Nat×Value)} {eL:List (Nat×e.aG)} {M:Nat->Prop} {B B':Nat->aT},(J5 e a_).a7 g B=some (eL,B')->bM K w0 phx M B w->p9 phx (view w M) B a_ vs ->
  ∃aD,bM K w0 phx aD B' w/\ct phx M B w phx aD B' w/\QA (view w aD) e eL vs/\eL.map (·.1)=a_.map (·.1)
 |[],[],eL,M,B,B',h,hm,_=>by cases h;exact⟨M,hm,ct.refl _ _ _ _,trivial,rfl⟩
 |(i,u)::a_,(j,v)::vs,eL,M,B,B',h,hm,hp=>by obtain⟨js,aL,hp⟩:=hp;subst js;obtain⟨x,c7,O,R⟩:=ax.cK h;obtain⟨aCR,b9,af,au⟩:=ax.cK R;cases au;obtain⟨cs,aB,fV,bD,e1,_,_,f1⟩:=B1 O hm aL;obtain⟨db,cr,aU,f2,f3⟩:=Xu af bD (hp.ext e1);refine⟨db,cr,e1.trans aU,⟨rfl,?_,f2⟩,by simp[f3]⟩;have cC:=f1 rfl;rw[aB,Iq cC];exact cC.mono aU.vw
def Sz{e:ag}{place:Nat->Option (Nat×Nat)}(jh:∀i,place i=some (i*e.size,e.size)):
  ∀{eL:List (Nat×e.aG)} {vs:List (Nat×Value)} {l:List e.aG} {cs:Array Value},QA H e eL vs->(∀p∈eL.map (·.1),p<l.length)->fa H e l cs.toList ->
  ∃i',Instr.fill place cs vs=some i'/\fa H e (vR l eL) i'.toList
 |[],[],l,cs,_,_,h=>⟨cs,rfl,h⟩
 |(i,x)::eL,(j,v)::vs,l,cs,hx,ac,h=>by
  obtain⟨js,cC,hx⟩:=hx;subst js;have bn:i<l.length:=ac i bp;have hl:=cC.length;have hm:=yX (s:=e.size) bn;have cZ:v.cells.size=e.size:=by simpa using hl
  have my:=h.1;obtain⟨GA,e1,aU⟩:=abF (rest:=vs) (jh i) cZ (cs:=cs) (by grind);have O:=h.set bn cC;rw[<- e1]at O;obtain⟨r_,d8,hc⟩:=Sz jh hx (λp hp=>by rw[k7];exact ac p (by grind)) O;exact⟨r_,by rw[aU];exact d8,hc⟩
def fa.ar{e:ag}{l:List e.aG}{cs:List Value}(h:fa H e l cs)(ak:l.length=n):aI H (.ar n e) l cs:=aI.CL.2 ⟨ak,by rw[h.1,ak],h.2⟩
def alN{e:ag}{tid:TypeId}(ht:(cY P (.ar n e)).1 tid){a_:List (Nat×av)}{parts:Array (Nat×Value)}{r:av}
  (h:((ax.need (a_.all λp=>Nat.blt p.1 n)).bind λ_=>(J5 e a_).bind λeL=>.ret (.sc (.ar n e) (vR (List.replicate n e.zero) eL))).a7 g B=some (r,B')) (hm:bM K w0 phx M B w) (dl:p9 phx (view w M) B a_ parts.toList) :
  ∃v,(Instr.build tid parts).run P w=.ok v w/\dA K w0 phx M B w B' r v w:=by
 obtain⟨_,c7,O,R⟩:=ax.cK h;obtain⟨hall,rfl⟩:=ll O;obtain⟨eL,b9,af,au⟩:=ax.cK R;cases au;obtain⟨db,cr,aU,f2,f3⟩:=Xu af hm dl;obtain⟨i,bF,b2,_,fl⟩:=oa ht;obtain⟨⟨bf,aL,aC⟩,_⟩:=ht;obtain⟨yI,H8,qx,_,auz⟩:=oa aC;have bs:=aI.CL.1 (aI.zero (view w db) (.ar n e));have bQ:fa (view w db) e (List.replicate n e.zero) (dJ (.ar n e)).toArray.toList:=⟨by simpa using bs.2.1,λi x ac=>by simpa using bs.2.2 i x ac⟩;have bn:∀p∈eL.map (·.1),p<(List.replicate n e.zero).length:=λp hp=>by rw[f3,zV]at hp;obtain⟨q,aQ,rfl⟩:=hp;have:=p0.1 hall q aQ;simpa using this
 obtain⟨i',bL,ca⟩:=Sz (place:=λi=>some (i*yI.size,yI.size)) (λi=>by rw[qx]) f2 bn bQ;refine⟨.agg i',run_build w tid parts i' ?_,phx,db,cr,aU,i'.toList,ca.ar (by rw[OH];simp),by simp[cB,ag.isAgg]⟩;simp only[Program.built,bF,aL,fl,H8];exact bL
def Xw:∀n,(nc n).size=n
 |0=>rfl
 |n+1=>by simp only[nc,ag.size,Xw n];omega
def ajJ:∀n,dJ (nc n)=List.replicate n (Value.pointer none)
 |0=>rfl
 |n+1=>by have:=ajJ n;simp only[nc,dJ,this];rfl
def avk(v:Value)(n:Nat):(madeCells #[v] n).toList=List.replicate n v:=by rw[List.eq_replicate_iff];simp[madeCells,Nat.mod_one]
def afL:∀{n i d:Nat} {d9:ag},(nc n).ew (gE i)=some (d,d9)->d=i/\d9=.op 3
 |0,i,d,d9,h=>by cases i<;>cases h
 |n+1,0,d,d9,h=>by
  have:(0,ag.op 3)=(d,d9):=ps h
  grind
 |n+1,i+1,d,d9,h=>by simp only[nc,gE,ag.ew,lR]at h;obtain⟨q,aQ,aC⟩:=h;cases aC;obtain⟨O,R⟩:=afL (n:=n) (i:=i) aQ;exact⟨by rw[O];simp only[ag.size];omega,R⟩
def azc{e:ag}{tid bf:TypeId}(aL:P.underlying tid=some (.slice bf))(aC:(cY P e).1 bf)(aa:n*e.size<=16777216)(dM:0<e.size){parts:Array (Nat×Value)}{i':Array Value}
  (bL:Instr.fill (λi=>some (i*e.size,e.size)) (madeCells (dJ e).toArray (n*e.size)) parts.toList=some i') (w:World) :
  (Instr.buildSlice tid n parts).run P w=.ok (.slice (some ⟨w.heap.size,0,none⟩) n n) (w.alloc (.cells i' bf)):=by
 have HV:=ut e;by_cases aq:n*e.size=0
 .have TS:madeCells (dJ e).toArray (n*e.size)=#[]:=by rw[aq];simp[madeCells]
  rw[TS]at bL;have ab:=pc aC w;have qs:n=0:=by rcases Nat.mul_eq_zero.1 aq with h|h<;>omega
  rw[qs];simp[Instr.buildSlice,run_underlying aL,ab,bL,Go.newRow,Array.range_zero']
 have ab:=pc aC w;have HW:=BI aC w;have Tr:¬(16777216<n*e.size):=J;simp only[madeCells]at bL;simp[Instr.buildSlice,run_underlying aL,ab,aq,Tr,HW,HV,Go.newRow];simp at bL;rw[bL];simp
def axF{tid:TypeId}(ht:(cY P (.sl (.op 3))).1 tid){a_:List (Nat×av)}{parts:Array (Nat×Value)}{r:av}(h:(ago d n a_).a7 g B=some (r,B'))(hm:bM K w0 phx M B w)
  (dl:p9 phx (view w M) B a_ parts.toList):∃v w',(Instr.buildSlice tid n parts).run P w=.ok v w'/\dA K w0 phx M B w B' r v w':=by
 replace h:=gW h;obtain⟨ah,h⟩:=h;simp at ah;obtain⟨_,c7,O,R⟩:=ax.cK h;obtain⟨v,b9,af,au⟩:=ax.cK R;obtain⟨aY,rfl⟩:=dP af;obtain⟨⟨bf,aL,aC⟩,_⟩:=ht;have Um:fh phx (view w M) B (nT (nc n)) (nc n) (madeCells (dJ (.op 3)).toArray (n*(ag.op 3).size)).toList:=by
  have h:=zH (phx:=phx) (B:=B) (H:=view w M) (nc n);rw[ajJ]at h;have e:(madeCells (dJ (.op 3)).toArray (n*(ag.op 3).size)).toList=List.replicate n (Value.pointer none):=by rw[show n*(ag.op 3).size=n from xU n];exact avk _ n
  grind
 obtain⟨az,i',e1,aU⟩:=Q? (g:=g) (B':=b9) (place:=λi=>some (i*(ag.op 3).size,(ag.op 3).size)) (λi d d9 aK=>by obtain⟨rfl,rfl⟩:=afL aK;rw[show d*(ag.op 3).size=d from xU d]) O aY dl Um
 subst az;obtain⟨hid,au⟩:=Dk au;cases au;have cZ:i'.size=n:=by have:=aU.length;rw[Xw]at this;simpa using this
 refine⟨_,_,azc aL aC (by rw[show n*(ag.op 3).size=n from xU n];omega) bO e1 w,?_⟩;obtain⟨phx',aD,bD,Sf,yr⟩:=hm.born hid (w':=w.alloc (.cells i' bf)) rfl rfl rfl bp (r5 w _) (.box (nc n) v) i'.size λphx' aD aC hp d_=>by refine⟨w.heap.size,0,i',bf,(0,0),hp,r4 w _,by rw[Xw];omega,?_,y0 _,d_⟩;rw[Jt rfl aU.length];exact aC.bv aU
 refine⟨phx',aD,bD,Sf,?_⟩;simp only[ba,d6,bJ,e5]
 grind
def alM{e:ag}{tid:TypeId}(ht:(cY P (.sl e)).1 tid){a_:List (Nat×av)}{parts:Array (Nat×Value)}{r:av}(h:(Ze d e n a_).a7 g B=some (r,B'))(hm:bM K w0 phx M B w)
  (dl:p9 phx (view w M) B a_ parts.toList):∃v w',(Instr.buildSlice tid n parts).run P w=.ok v w'/\dA K w0 phx M B w B' r v w':=by
 obtain⟨_,c7,O,R⟩:=ax.cK h;obtain⟨hall,rfl⟩:=ll O;simp only[cP,P2]at hall;obtain⟨eL,b9,af,au⟩:=ax.cK R;obtain⟨dM,gc,rfl,rfl⟩:=w_ au;obtain⟨db,cr,aU,f2,f3⟩:=Xu af hm dl;obtain⟨⟨bf,aL,aC⟩,_⟩:=ht;obtain⟨yI,H8,qx,_,auz⟩:=oa aC;have atV:=PT (view w db) dM (n:=n) (m:=n) (b1 _);have acN:=atV.tq;have atq:cM (madeCells (dJ e).toArray (n*e.size)) 0 ((bR n e.zero).length*e.size)=(madeCells (dJ e).toArray (n*e.size)).toList:=by refine Jt rfl ?_;simp[size_madeCells,bR]
 rw[atq]at acN;have bn:∀p∈eL.map (·.1),p<(bR n e.zero).length:=λp hp=>by rw[f3,zV]at hp;obtain⟨q,aQ,rfl⟩:=hp;have:=p0.1 hall.1 q aQ;simpa[bR]using this
 obtain⟨i',bL,ca⟩:=Sz (place:=λi=>some (i*yI.size,yI.size)) (λi=>by rw[qx]) f2 bn acN;have cm:(vR (List.replicate n e.zero) eL).length=n:=by rw[OH];simp
 have cZ:i'.size=n*e.size:=by have:=ca.1;rw[OH]at this;simpa[bR]using this
 have jf:n<=maxLen:=by have:n*1<=n*e.size:=Cu _ dM;unfold maxLen;omega
 refine⟨.slice (some ⟨w.heap.size,0,none⟩) n n,w.alloc (.cells i' bf),?_,?_⟩
 .have HV:=ut e
  have aru:¬(n*yI.size > 2^24):=by rw[qx];omega
  rw[<- qx]at bL;by_cases aq:n*yI.size=0
  .have TS:madeCells (dJ e).toArray (n*yI.size)=#[]:=by rw[aq];simp[madeCells]
   rw[TS]at bL;have ab:=pc aC w;rw[qx]at aq bL;have qs:n=0:=by rcases Nat.mul_eq_zero.1 aq with h|h<;>omega
   rw[qs];simp[Instr.buildSlice,run_underlying aL,ab,bL,Go.newRow,Array.range_zero']
  have ab:=pc aC w;have HW:=BI aC w;rw[qx]at aq aru bL;have Tr:¬(16777216<n*e.size):=J;simp only[madeCells]at bL;simp[Instr.buildSlice,run_underlying aL,ab,aq,Tr,HW,HV,Go.newRow];simp at bL;rw[bL];simp
 have eI:fi (view w db) e (vR (List.replicate n e.zero) eL) i' 0:=by refine fa.row (by rw[cm,cZ];omega) ?_;rw[Jt rfl (by rw[cm];simpa using cZ)];exact ca
 have:=ET (K:=K) (w0:=w0) (phx:=phx) (M:=db) (B:=b9) (w:=w) cr gc (w':=w.alloc (.cells i' bf)) rfl rfl rfl (by rw[iW];exact KY _) (r5 w _) dM (l:=vR (List.replicate n e.zero) eL) (r4 w _) (y0 _) (s0 w db) eI (cap:=n) (by rw[cm];exact b1 _) jf (by rw[cZ];exact b1 _) (Nat.blt 0 n) (λh=>by rw[cm];simpa using Nat.pos_iff_ne_zero.1 (by simpa using h));obtain⟨phx',aD,cN,cX,a3⟩:=this;rw[cm]at a3;exact⟨phx',aD,cN,aU.trans cX,a3⟩
end
end Yp
namespace Yp
open Go
variable {P:Program}
def pY(H:cj):(ts:List ag)->iu ts->List Value->Prop
 |[],_,vs=>vs=[]
 |t::ts,x,vs=>∃cs ei,vs=cB t cs::ei/\aI H t x.1 cs/\pY H ts x.2 ei
def v8(w:World)(M:Nat->Prop)(lo:Nat->Prop)(U:Nat->Prop)(e:ag)(l:List e.aG)(v:Value)(b:Nat):Prop:=
 ∃o c el fz cap,v=.slice (some ⟨b,o,none⟩) l.length cap/\l.length<=cap/\cap<=maxLen/\o+cap*e.size<=c.size/\w.heap[b]?=some (.cells c el fz)/\fi (view w M) e l c o/\iD c fz/\M b/\lo b/\¬U b
def hK(w:World)(M:Nat->Prop)(lo:Nat->Prop):(rs:List eC)->eq rs->List Value->(Nat->Prop)->Prop
 |[],_,vs,_=>vs=[]
 |.im t::rs,x,vs,U=>∃cs ei,vs=cB t cs::ei/\aI (view w M) t x.1 cs/\hK w M lo rs x.2 ei U
 |.cl e::rs,x,vs,U=>∃a ei,vs=.slice a (x.1:List e.aG).length (x.1:List e.aG).length::ei/\aI (view w M) (.sl e) x.1 [.slice a (x.1:List e.aG).length (x.1:List e.aG).length]/\hK w M lo rs x.2 ei U
 |.ow e::rs,x,vs,U=>∃v ei,vs=v::ei/\(((x.1:List e.aG)=[]/\(∃a,v=.slice a 0 0)/\hK w M lo rs x.2 ei U)\/∃b,v8 w M lo U e x.1 v b/\hK w M lo rs x.2 ei (λj=>U j\/j=b))
def jD:List Value->Value
 |[v]=>v
 |vs=>.tuple vs.toArray
def iT(w:World)(X:Nat->Prop)(w':World)(rs:List eC)(r:eq rs)(b5:Value):Prop:=
 ∃aD:Nat->Prop,w'.os=w.os/\w'.tape=w.tape/\w'.output=w.output/\w.heap.size<=w'.heap.size/\(∀b,b<w.heap.size->w'.heap[b]?=w.heap[b]?)/\(∀b,b<w.heap.size->(aD b↔X b))/\(∀b,aD b->b<w'.heap.size) /\
  ∃vs,hK w' aD (λb=>¬b<w.heap.size) rs r vs (λ_=>False)/\b5=jD vs
def mA (P : Program) (H : cj) : Prop := ∀ g, P.globalNamed "yett/sha.keys" = some g → aI H (.sl (.ar 64 (.int .u32))) ([(qz : List (bG .u32))] : List (ag.ar 64 (.int .u32)).aG) [.slice (some ⟨g, 0, none⟩) 1 1]
def mA.mono{P:Program}{H H':cj}(h:mA P H)(hl:H.cd H'):mA P H':=λg hg=>(h g hg).mono hl
structure p1(P:Program)(K:Kp)(w0:World):Prop where
 gl : ∀ g, P.globalNamed "yett/sha.keys" = some g → K.k g
 nz:mA P (view w0 K.x)
def s7 (P : Program) (f : Nat) : Prop := ∃ fn, P.funcs[f]? = some fn ∧ fn.body.isSome = true ∧ (fn.name == "runtime.NumGoroutine") = false
def gK(P:Program)(f:Nat)(s:e6):Prop:=
 s7 P f/\∀(w:World) (X:Nat->Prop) (x:iu s.args) (vs:List Value) (r:eq s.res),(∀b,X b->b<w.heap.size)->mA P (view w X)->pY (view w X) s.args x vs->s.fn x=some r ->
  Calls P f vs.toArray w λe w'=>∃b5,e=.returned b5/\iT w X w' s.res r b5
def FQ(w:World)(X:Nat->Prop)(b o n:Nat)(w':World)(t:ag)(x:t.aG)(rs:List eC)(r:eq rs)(b5:Value):Prop:=
 ∃aD:Nat->Prop,w'.os=w.os/\w'.tape=w.tape/\w'.output=w.output/\w.heap.size<=w'.heap.size/\(∀k,k<w.heap.size->k≠b->w'.heap[k]?=w.heap[k]?)/\(∀k,k<w.heap.size->(aD k↔X k))/\(∀k,aD k->k<w'.heap.size) /\
  (∃c el fz,w'.heap[b]?=some (.cells c el fz)/\c.size=n/\iD c fz/\aI (view w' aD) t x (cM c o t.size)) /\
  ∃vs,hK w' aD (λk=>¬k<w.heap.size) rs r vs (λ_=>False)/\b5=jD vs
def i4(P:Program)(f:Nat)(s:i5):Prop:=
 s7 P f/\∀(w:World) (X:Nat->Prop) (b o:Nat) (c:Array Value) (el:TypeId) (fz:Nat×Nat) (x:s.ty.aG) (y:iu s.args) (vs:List Value) (r:s.ty.aG×eq s.res),(∀k,X k->k<w.heap.size)->mA P (view w X)->X b ->
  w.heap[b]?=some (.cells c el fz)->o+s.ty.size<=c.size->iD c fz->aI (view w X) s.ty x (cM c o s.ty.size)->pY (view w X) s.args y vs->s.fn (x,y)=some r ->
  Calls P f (Value.pointer (some ⟨b,o,none⟩)::vs).toArray w λe w'=>∃b5,e=.returned b5/\FQ w X b o c.size w' s.ty r.1 s.res r.2 b5
def Yy(w:World)(X:Nat->Prop)(b o n:Nat)(w':World)(t:ag)(x:t.aG):Prop:=
 ∃aD:Nat->Prop,w'.os=w.os/\w'.tape=w.tape/\w'.output=w.output/\w.heap.size<=w'.heap.size/\(∀k,k<w.heap.size->k≠b->w'.heap[k]?=w.heap[k]?)/\(∀k,k<w.heap.size->(aD k↔X k))/\(∀k,aD k->k<w'.heap.size) /\
  (∃c el fz,w'.heap[b]?=some (.cells c el fz)/\c.size=n/\iD c fz/\aI (view w' aD) t x (cM c o t.size))
def vZ(P:Program)(f bf:Nat)(t:ag)(ts:List ag)(rs:List eC)(m:t.aG×iu ts->Option (t.aG×Nat×eq rs)):Prop:=
 s7 P f/\∀(w:World) (X:Nat->Prop) (b o:Nat) (c:Array Value) (el:TypeId) (fz:Nat×Nat) (x:t.aG) (y:iu ts) (vs:List Value) (r:t.aG×Nat×eq rs),(∀k,X k->k<w.heap.size)->mA P (view w X)->X b ->
  w.heap[b]?=some (.cells c el fz)->o+t.size<=c.size->iD c fz->aI (view w X) t x (cM c o t.size)->pY (view w X) ts y vs->m (x,y)=some r ->
  Calls P f (Value.pointer (some ⟨b,o,none⟩)::vs).toArray w λe w'=>(r.2.1=0/\∃b5,e=.returned b5/\FQ w X b o c.size w' t r.1 rs r.2.2 b5) \/
   (r.2.1≠0/\e=.panicked [{ v:=.iface bf (.int .i64 (r.2.1:Int)),recovered:=false }]/\Yy w X b o c.size w' t r.1)
def FP(P:Program)(E:dk)(f:Nat)(s:oJ):Prop:=∃m bf,E.Pn=some (m,bf)/\vZ P f bf s.ty s.args [.im s.rt] s.fn
section
variable {K:Kp} {w0 w:World} {phx:cf} {M:Nat->Prop} {B B':Nat->aT} {g:Nat->av} {H:cj}
def aI.mY{H':cj}:∀{t:ag} {x:t.aG} {cs:List Value},t.mY=true->aI H t x cs->aI H' t x cs
 |.bool,_,_,_,h=>aI.oM.2 (aI.oM.1 h)
 |.int k,_,_,_,h=>aI.iK.2 (aI.iK.1 h)
 |.str,_,_,_,h=>aI.m?.2 (aI.m?.1 h)
 |.op k,_,_,_,h=>aI.xc.2 (aI.xc.1 h)
 |.fn l,_,_,_,h=>aI.GU.2 (aI.GU.1 h)
 |.unit,_,_,_,h=>aI.Cb.2 (aI.Cb.1 h)
 |.pair a b,x,cs,hf,h=>by simp only[ag.mY,cP]at hf;obtain⟨c1,c2,aq,O,R⟩:=aI.m9.1 h;exact aI.m9.2 ⟨c1,c2,aq,aI.mY hf.1 O,aI.mY hf.2 R⟩
 |.ar n e,x,cs,hf,h=>by obtain⟨aq,O,R⟩:=aI.wg.1 h;exact aI.wg.2 ⟨aq,O,λi x ac=>aI.mY hf (R i x ac)⟩
def pY.mono{H':cj}(hl:H.cd H'):∀{ts:List ag} {x:iu ts} {vs:List Value},pY H ts x vs->pY H' ts x vs
 |[],_,_,h=>h
 |_::_,_,_,⟨cs,ei,h,O,R⟩=>⟨cs,ei,h,O.mono hl,pY.mono hl R⟩
def gO(phx:cf)(H:cj)(B:Nat->aT):List av->List Value->Prop
 |[],[]=>True
 |p::a_,v::vs=>ba phx H B p v/\gO phx H B a_ vs
 |_,_=>False
def gO.ext{phx':cf}{aD:Nat->Prop}{w':World}(aC:ct phx M B w phx' aD B' w'):∀{a_:List av} {vs:List Value},gO phx (view w M) B a_ vs->gO phx' (view w' aD) B' a_ vs
 |[],[],_=>trivial
 |_::_,_::_,h=>⟨aC.p h.1,gO.ext aC h.2⟩
def Pb{eW:Bool}:∀{ts:List ag} {a_:List av} {vs:List Value} {x:iu ts} {M:Nat->Prop} {B B':Nat->aT},(J2 eW ts a_).a7 g B=some (x,B')->bM K w0 phx M B w->gO phx (view w M) B a_ vs ->
  ∃aD,bM K w0 phx aD B' w/\ct phx M B w phx aD B' w/\pY (full w) ts x vs/\(eW=true->pY (view w aD) ts x vs)
 |[],[],[],x,M,B,B',h,hm,_=>by cases h;exact⟨M,hm,ct.refl _ _ _ _,rfl,λ_=>rfl⟩
 |t::ts,p::a_,v::vs,x,M,B,B',h,hm,hp=>by obtain⟨y,c7,O,R⟩:=ax.cK h;obtain⟨bu,b9,af,au⟩:=ax.cK R;cases au;obtain⟨cs,aB,fV,bD,e1,_,f1,f2⟩:=B1 O hm hp.1;obtain⟨db,cr,aU,f3,f4⟩:=Pb af bD (hp.2.ext e1);subst aB;exact⟨db,cr,e1.trans aU,⟨cs,vs,rfl,f1,f3⟩,λhf=>⟨cs,vs,rfl,(f2 hf).mono aU.vw,f4 hf⟩⟩
def yV{a:Act}(ab:dF phx H B g a):∀{l:List Operand} {B':Nat->aT} {a_:List av},(mD ey l).a7 g B=some (a_,B')->B'=B/\gO phx H B a_ (l.map a.eval)
 |[],B',a_,h=>by cases h;exact⟨rfl,trivial⟩
 |p::l,B',a_,h=>by simp only[mD]at h;obtain⟨b,c7,O,R⟩:=ax.cK h;obtain⟨jO,aB⟩:=y2 O ab;obtain⟨b?,vY,aY,cp⟩:=ax.cK R;cases cp;rw[jO]at aY;obtain⟨az,hp⟩:=yV ab aY;exact⟨az,aB,hp⟩
def bM.ret(hm:bM K w0 phx M B w){w':World}{aD:Nat->Prop}(O:w'.os=w.os)(R:w'.tape=w.tape)(af:w'.output=w.output)(ab:w.heap.size<=w'.heap.size)
 (aa:∀b,b<w.heap.size->w'.heap[b]?=w.heap[b]?) (d_:∀b,b<w.heap.size->(aD b↔M b)) (bn:∀b,aD b->b<w'.heap.size) :
 bM K w0 phx aD B w'/\ct phx M B w phx aD B w':=by
 have hl:∀b o,w.heap[b]?=some o->b<w.heap.size:=λb o aK=>(iP.1 aK).1;have aB:(view w M).cd (view w' aD):=zy λb o ak aK=>⟨λah=>ak ((d_ b (hl b o aK)).1 ah),(aa b (hl b o aK)).trans aK⟩;have aC:ct phx M B w phx aD B w':=⟨λ_ _=>rfl,aB,λ_=>aT.cd.refl _⟩;have am:∀b,K.k b->b<w.heap.size:=λb h=>gN (hm.klt b h) hm.size;refine⟨{ os:=O.trans hm.os,tape:=R.trans hm.tape,output:=af.trans hm.output,size:=hH hm.size ab,keep:=λb h=>(aa b (am b h)).trans (hm.keep b h),klt:=hm.klt,hid:=λb h=>(d_ b (am b h)).trans (hm.hid b h),own:=hm.own,mlt:=bn,blks:=λj => ?_,sep:=hm.sep },aC⟩;exact(hm.blks j).congr rfl aC.pl aC.vw aC.bl (λx hx rl=>aa _ ((hm.blks j).lt rl hx)) (λx hx rl Tk=>(d_ _ ((hm.blks j).lt rl hx)).2 Tk)
def mm.cons{u r:av}{v:Value}{vs:List Value}(h:ba phx H B u v)(aL:∀a,u ≠ .tup a)(k:mm phx H B r vs):mm phx H B (.two u r) (v::vs):=by refine⟨v,vs,rfl,?_,k⟩;cases u<;>first|exact h|exact absurd rfl (aL _)
def agS{lo:Nat->Prop}{r:eC}{rs:List eC}{x:eq (r::rs)}{vs:List Value}{U:Nat->Prop}(ai:hK w M lo (r::rs) x vs U){id:Nat}{v:av}(h:(Wh id r x.1).a7 g B=some (v,B'))(hm:bM K w0 phx M B w)
  (rk:∀b,lo b->¬K.k b) (dD:∀j,(B j).fS=true->∀z,phx j=some z->¬lo z.1\/U z.1) :
  ∃phx' bV u ei,vs=u::ei/\bM K w0 phx' M B' w/\ct phx M B w phx' M B' w/\ba phx' (view w M) B' v u/\(∀a,v ≠ .tup a)/\hK w M lo rs x.2 ei bV/\(∀j,(B' j).fS=true->∀z,phx' j=some z->¬lo z.1\/bV z.1):=by
 cases r with
 |im t =>cases h;obtain⟨cs,ei,rfl,O,R⟩:=ai;exact⟨phx,U,_,ei,rfl,hm,ct.refl _ _ _ _,⟨cs,O,rfl⟩,(λa h=>by cases h),R,dD⟩
 |cl e =>cases h;obtain⟨a,ei,rfl,O,R⟩:=ai;exact⟨phx,U,_,ei,rfl,hm,ct.refl _ _ _ _,⟨a,rfl,O⟩,(λa h=>by cases h),R,dD⟩
 |ow e=>
  obtain⟨dM,gc,rfl,rfl⟩:=w_ h;obtain⟨u,ei,rfl,O⟩:=ai;rcases O with⟨O,⟨a,rfl⟩,R⟩|⟨b,⟨o,c,el,fz,cap,rfl,bF,b2,dy,fl,fZ,kd,kY,kZ,vk⟩,R⟩
  .have cm:(x.1:List e.aG).length=0:=by rw[O];rfl
   obtain⟨bD,e1⟩:=hm.wd gc (.ob e x.1) none (λ_ y hy=>by cases hy) (λ_ y hy=>by cases hy) (λ_=>⟨dM,.inl ⟨mO _ _ _,cm⟩⟩);refine⟨_,U,_,ei,rfl,bD,e1,?_,(λa h=>by cases h),R,λj ap z bs => ?_⟩
   .simp only[ba,d6,bJ,e5]
    exact⟨.inl ⟨cm,a,rfl⟩,λh=>by cases h⟩
   by_cases dL:j=id
   .subst dL;rw[mO]at bs;cases bs
   rw[en _ _ dL]at ap;rw[rS _ _ dL]at bs;exact dD j ap z bs
  obtain⟨bD,e1⟩:=hm.wd gc (.ob e x.1) (some (b,o,c.size)) (λ_ y hy am=>by cases hy;exact rk _ kZ am) (λ_ y hy j ap z bs=>by
    cases hy;rcases dD j ap z bs with h|h
    .exact λe=>h (by have e:z.1=b:=e;rw[e];exact kZ)
    exact λe=>vk (by have e:z.1=b:=e;rw[<- e];exact h)) (λaC=>⟨dM,.inr ⟨b,o,c,el,fz,mO _ _ _,fl,fZ,kd,kY⟩⟩)
  refine⟨_,λj=>U j\/j=b,_,ei,rfl,bD,e1,?_,(λa h=>by cases h),R,λj ap z bs => ?_⟩
  .simp only[ba,d6,bJ,e5]
   exact⟨.inr ⟨b,o,c.size,cap,mO _ _ _,bp,bF,b2,by simpa using dy⟩,λh=>by cases h⟩
  by_cases dL:j=id
  .subst dL;rw[mO]at bs;cases bs;exact .inr (.inr rfl)
  rw[en _ _ dL]at ap;rw[rS _ _ dL]at bs;exact(dD j ap z bs).imp (λh=>h) .inl
def agR{lo:Nat->Prop}(rk:∀b,lo b->¬K.k b):∀{rs:List eC} {x:eq rs} {vs:List Value} {U:Nat->Prop} {id:Nat} {v:av} {phx:cf} {B B':Nat->aT},hK w M lo rs x vs U->(Wg id rs x).a7 g B=some (v,B')->bM K w0 phx M B w ->
  (∀j,(B j).fS=true->∀z,phx j=some z->¬lo z.1\/U z.1)->∃phx',bM K w0 phx' M B' w/\ct phx M B w phx' M B' w/\mm phx' (view w M) B' v vs
 |[],x,vs,U,id,v,phx,B,B',ai,h,hm,dD=>by cases h;exact⟨phx,hm,ct.refl _ _ _ _,ai⟩
 |r::rs,x,vs,U,id,v,phx,B,B',ai,h,hm,dD=>by obtain⟨y,c7,O,R⟩:=ax.cK h;obtain⟨bu,b9,af,au⟩:=ax.cK R;cases au;obtain⟨hU,uG,u,ei,rfl,bD,e1,f1,f2,f3,f4⟩:=agS ai O hm rk dD;obtain⟨jS,cr,aU,f5⟩:=agR rk f3 af bD f4;exact⟨jS,cr,e1.trans aU,mm.cons (aU.p f1) f2 f5⟩
def hK.length{w:World}{M:Nat->Prop}{lo:Nat->Prop}:∀{rs:List eC} {x:eq rs} {vs:List Value} {U:Nat->Prop},hK w M lo rs x vs U->vs.length=rs.length
 |[],_,vs,_,h=>by have h:vs=[]:=h;subst h;rfl
 |.im t::rs,x,vs,U,h=>by obtain⟨cs,ei,aq,O,R⟩:=h;subst aq;simp[hK.length R]
 |.cl t::rs,x,vs,U,h=>by obtain⟨cs,ei,aq,O,R⟩:=h;subst aq;simp[hK.length R]
 |.ow t::rs,x,vs,U,h=>by obtain⟨v,ei,aq,O⟩:=h;subst aq;rcases O with⟨_,_,R⟩|⟨_,_,R⟩<;>simp[hK.length R]
def hK.tT{w:World}{M:Nat->Prop}{lo tT:Nat->Prop}:∀{rs:List eC} {x:eq rs} {vs:List Value} {U bV:Nat->Prop},(∀k,lo k->¬U k->tT k)->(∀k,bV k->U k)->hK w M lo rs x vs U->hK w M tT rs x vs bV
 |[],_,_,_,_,_,_,h=>h
 |.im t::rs,x,vs,U,bV,O,R,h=>by obtain⟨cs,ei,aq,af,au⟩:=h;exact⟨cs,ei,aq,af,hK.tT O R au⟩
 |.cl t::rs,x,vs,U,bV,O,R,h=>by obtain⟨cs,ei,aq,af,au⟩:=h;exact⟨cs,ei,aq,af,hK.tT O R au⟩
 |.ow t::rs,x,vs,U,bV,O,R,h=>by obtain⟨v,ei,aq,af⟩:=h;refine⟨v,ei,aq,af.imp (λh=>⟨h.1,h.2.1,hK.tT O R h.2.2⟩) ?_⟩;rintro⟨b,⟨o,c,el,fz,cap,bF,b2,dy,fl,fZ,kd,kY,kZ,vk,M6⟩,au⟩;exact⟨b,⟨o,c,el,fz,cap,bF,b2,dy,fl,fZ,kd,kY,kZ,O b vk M6,λah=>M6 (R b ah)⟩,hK.tT (λk am ak=>O k am λah=>ak (.inl ah)) (λk am=>am.imp (R k) id) au⟩
def hK.lo{w:World}{M:Nat->Prop}{lo tT U:Nat->Prop}{rs:List eC}{x:eq rs}{vs:List Value}(h:hK w M lo rs x vs U)(O:∀k,lo k->¬U k->tT k):hK w M tT rs x vs (λ_=>False):=
 hK.tT O (λ_ h=>h.elim) h
def hK.mY{w:World}{M aD:Nat->Prop}{lo:Nat->Prop}:∀{rs:List eC} {x:eq rs} {vs:List Value} {U:Nat->Prop},rs.all eC.mY=true->hK w M lo rs x vs U->hK w aD lo rs x vs U
 |[],_,_,_,_,h=>h
 |.im t::rs,x,vs,U,hf,h=>by simp only[FN,cP]at hf;obtain⟨cs,ei,aq,O,R⟩:=h;exact⟨cs,ei,aq,aI.mY hf.1 O,hK.mY hf.2 R⟩
 |.ow e::rs,x,vs,U,hf,h=>by simp only[FN,cP]at hf;cases hf.1
 |.cl e::rs,x,vs,U,hf,h=>by simp only[FN,cP]at hf;cases hf.1
def Wj{rs:List eC}{r:eq rs}{v:av}{vs:List Value}(hm:bM K w0 phx M B w){lo:Nat->Prop}(rk:∀b,lo b->¬K.k b)(dD:∀j,(B j).fS=true->∀z,phx j=some z->¬lo z.1)
  (ai:hK w M lo rs r vs (λ_=>False))
  (h:(RJ d rs r).a7 g B=some (v,B')) :
  ∃phx',bM K w0 phx' M B' w/\ct phx M B w phx' M B' w/\ba phx' (view w M) B' v (jD vs):=by
 have acV:∀j,(B j).fS=true->∀z,phx j=some z->¬lo z.1\/(λ_:Nat=>False) z.1:=λj ap z bs=>.inl (dD j ap z bs);match rs,r,ai,h with
 |[],r,ai,h =>cases h;have:vs=[]:=ai;subst this;exact⟨phx,hm,ct.refl _ _ _ _,[],rfl,rfl⟩
 |[t],r,ai,h =>obtain⟨hU,uG,u,ei,rfl,bD,e1,f1,f2,f3,f4⟩:=agS ai h hm rk acV;have:ei=[]:=f3;subst this;exact⟨hU,bD,e1,f1⟩
 |t::t'::ts,r,ai,h=>
  obtain⟨y,c7,O,R⟩:=ax.cK h;cases R;obtain⟨hU,bD,e1,f1⟩:=agR rk ai O hm acV;refine⟨hU,bD,e1,?_⟩;have cm:=ai.length;have eR:∀q,vs≠[q]:=by intro q aQ;rw[aQ]at cm;simp at cm
  match vs,eR,f1 with
  |[],_,f1=>exact⟨[],f1,rfl⟩
  |[q],eR,_=>exact absurd rfl (eR q)
  |q::NV::vs,_,f1=>exact⟨_,f1,rfl⟩
def aBV{d:β}{o:Option β}{k:β->ax α}:(ax.bo d o k).a7 g B=(match o with|some a=>(k a).a7 g B|none=>none):=by cases o<;>simp only[ax.a7]
def p1.keys(h:p1 P K w0)(hm:bM K w0 phx M B w):mA P (view w M):=by
 intro g hg;obtain⟨a,cap,O,R,af,au⟩:=aI.iM.1 (h.nz g hg);simp only[zS,Value.slice.injEq,and_true]at O;obtain⟨rfl,_,rfl⟩:=O;have am:=h.gl g hg;refine aI.iM.2 ⟨_,_,rfl,R,af,?_⟩;rcases au with au|⟨b,o,c,el,fz,bL,ca,cq,dv⟩
 .exact .inl au
 cases bL;obtain⟨dQ,gS⟩:=jZ.1 ca;exact .inr ⟨g,0,c,el,fz,rfl,jZ.2 ⟨λah=>dQ ((hm.hid g am).1 ah),(hm.keep g am).trans gS⟩,cq,λi x ac=>(dv i x ac).mY rfl⟩
def zW(P:Program)(m t:Nat):Prop:=
 s7 P m/\∀(b:Bool) (k:Nat) (w:World),Calls P m #[.bool b,.int .i64 (k:Int)] w λe w'=>w'=w/\e=if b then .returned (.tuple #[]) else .panicked [{ v:=.iface t (.int .i64 (k:Int)),recovered:=false }]
structure pm(P:Program)(E:dk)(K:Kp)(w0:World):Prop where
 fn:∀f s,E.G f=some s->gK P f s
 kn : ∀ g, E.K = some g → P.globalNamed "yett/sha.keys" = some g
 gk:(∃f s,E.G f=some s)\/(∃f g,E.I f=some g)\/(∃g,E.K=some g)->p1 P K w0
 bx:∀f s,E.X f=some s->i4 P f s/\p1 P K w0
 pn:∀m t,E.Pn=some (m,t)->zW P m t
 qn:∀f s,E.Q f=some s->FP P E f s/\p1 P K w0
def bM.Wi(hm:bM K w0 phx M B w){id:Nat}{t:ag}{v:av}(az:B id=.box t v)(hx:phx id=some (b,o,n))(Tj:M b){w':World}{aD:Nat->Prop}{x:t.aG}(O:w'.os=w.os)(R:w'.tape=w.tape)(af:w'.output=w.output)(ab:w.heap.size<=w'.heap.size)
 (aa:∀k,k<w.heap.size->k≠b->w'.heap[k]?=w.heap[k]?) (d_:∀k,k<w.heap.size->(aD k↔M k)) (bn:∀k,aD k->k<w'.heap.size)
 (ah:∃c el fz,w'.heap[b]?=some (.cells c el fz)/\c.size=n/\iD c fz/\aI (view w' aD) t x (cM c o t.size)) (ak:o+t.size<=n) :
 bM K w0 phx aD (c' B id (.box t (.sc t x))) w'/\ct phx M B w phx aD (c' B id (.box t (.sc t x))) w':=by
 have hl:∀b o,w.heap[b]?=some o->b<w.heap.size:=λb o aK=>(iP.1 aK).1;have nE:(B id).fS=true:=by rw[az];rfl
 have aB:(view w M).cd (view w' aD):=zy λk o ak aK=>⟨λah=>ak ((d_ k (hl k o aK)).1 ah),(aa k (hl k o aK) λe=>ak (e▸Tj)).trans aK⟩;have aC:ct phx M B w phx aD (c' B id (.box t (.sc t x))) w':=⟨λ_ _=>rfl,aB,λj=>by
  by_cases ap:j=id
  .subst ap;rw[e5,az];exact rfl
  rw[en _ _ ap];exact aT.cd.refl _⟩
 have am:∀k,K.k k->k<w.heap.size:=λk h=>gN (hm.klt k h) hm.size;have m2:∀k,K.k k->k≠b:=λk h e=>hm.own id nE _ hx (e▸h);have key:∀j,((c' B id (.box t (.sc t x))) j).fS=true->(B j).fS=true:=λj ap=>by
  by_cases kV:j=id
  .subst kV;exact nE
  rw[en _ _ kV]at ap;exact ap
 refine⟨{ os:=O.trans hm.os,tape:=R.trans hm.tape,output:=af.trans hm.output,size:=hH hm.size ab,keep:=λk h=>(aa k (am k h) (m2 k h)).trans (hm.keep k h),klt:=hm.klt,hid:=λk h=>(d_ k (am k h)).trans (hm.hid k h),own:=λj ap=>hm.own j (key j ap),mlt:=bn,blks:=λj => ?_,sep:=λi j js ac ap=>hm.sep i j js (key i ac) (key j ap) },aC⟩;by_cases ap:j=id
 .subst ap
  rw[e5];obtain⟨c,el,fz,bL,ca,cq,dv⟩:=ah;exact⟨b,o,c,el,fz,by rw[hx,ca],bL,J,⟨rfl,dv⟩,cq,(d_ b (hm.mlt b Tj)).2 Tj⟩
 rw[en _ _ ap];exact(hm.blks j).congr rfl aC.pl aC.vw aC.bl (λy hy rl=>aa _ ((hm.blks j).lt rl hy) (hm.sep j id ap rl nE y _ hy hx)) (λy hy rl aq3=>(d_ _ ((hm.blks j).lt rl hy)).2 aq3)
def alE{s:i5}{a_:List av}{vs:List Value}{v:av}(eF:i4 P f s)(am:p1 P K w0)(h:(Q7 d s a_).a7 g B=some (v,B'))(hm:bM K w0 phx M B w)(dl:gO phx (view w M) B a_ vs):
  s7 P f/\Calls P f vs.toArray w λe w'=>∃b5,e=.returned b5/\dA K w0 phx M B w B' v b5 w':=by
 unfold Q7 at h;split at h
 .rename_i id as
  simp only[ax.a7]at h;cases vs with
  |nil=>exact dl.elim
  |cons v0 vs=>
   have AF:bJ phx (view w M) B (.ptr id []) v0:=dl.1;have aa:=hm.blks id;simp only[bJ]at AF;generalize az:B id=bl at h aa AF;cases bl<;>try(cases h;done)
   rename_i t u;dsimp only at h;obtain⟨b,o,n,off,t',g1,cD,rfl⟩:=AF;obtain⟨b',dz,c,el,fz,bL,ca,cq,dv,e',ma⟩:=aa;rw[g1]at bL;cases bL;simp only[ag.ew]at cD;obtain⟨rfl,rfl⟩:=cD;cases g7:ag.is t s.ty with
   |false=>rw[g7]at h;cases h
   |true=>
    rw[g7]at h;have ht:=eX g7;subst ht;obtain⟨x,c7,O,R⟩:=ax.cK h;obtain⟨y,b9,af,au⟩:=ax.cK R;obtain⟨fV,bD,e1,_,f1,f2⟩:=J3 O hm dv;obtain⟨db,cr,aU,f3,f4⟩:=Pb af bD (dl.2.ext e1);simp only[ax.a7]at au;have hb2:=cr.blks id;generalize kU:b9 id=bl2 at au hb2;cases bl2<;>try(cases au;done)
    rename_i e? qV;dsimp only at au;cases vf:ag.is e? s.ty with
    |false=>rw[vf]at au;cases au
    |true=>
     rw[vf]at au;have HM:=eX vf;subst HM;obtain⟨eo,m7,c2,abf,ab7,dQ,gS,l_,y5,y6,tY⟩:=hb2;rw[g1,kJ,pr,pr]at dQ;obtain⟨rfl,rfl,_⟩:=dQ;cases ai:s.fn (x,y) with
     |none=>rw[ai]at au;cases au
     |some r=>
      rw[ai]at au;refine⟨eF.1,?_⟩;refine(eF.2 w db b o c el fz x y vs r cr.mlt (am.keys cr) tY ca cq e' ((f2 rfl).mono aU.vw) (f4 rfl) ai).mono ?_;rintro e w' ⟨b5,rfl,aD,bF,b2,dy,fl,fZ,kd,kY,kZ,us,vk,rfl⟩;obtain⟨gR,d8⟩:=cr.Wi kU g1 tY bF b2 dy fl fZ kd kY kZ cq;have dD:∀j,((c' b9 id (.box s.ty (.sc s.ty r.1))) j).fS=true->∀z,phx j=some z->¬ ¬z.1<w.heap.size:=λj ap z bs ah=>by
       by_cases dL:j=id
       .grind
       rw[en _ _ dL]at ap;exact ah ((cr.blks j).lt ap bs)
      obtain⟨VV,w5,hc,f5⟩:=Wj (g:=g) gR (lo:=λk=>¬k<w.heap.size) (λk rj HC=>rj (gN (cr.klt k HC) cr.size)) dD vk au;exact⟨_,rfl,VV,aD,w5,((e1.trans aU).trans d8).trans hc,f5⟩
 cases h
def axR{s:oJ}{a_:List av}{vs:List Value}{v:av}{bf:Nat}(eF:vZ P f bf s.ty s.args [.im s.rt] s.fn)(am:p1 P K w0)(h:(RI s a_).a7 g B=some ((n,v),B'))(hm:bM K w0 phx M B w)(dl:gO phx (view w M) B a_ vs):
  s7 P f/\Calls P f vs.toArray w λe w'=>∃aD,bM K w0 phx aD B' w'/\ct phx M B w phx aD B' w'/\((n=0/\∃b5,e=.returned b5/\ba phx (view w' aD) B' v b5)\/(n≠0/\e=.panicked [{ v:=.iface bf (.int .i64 (n:Int)),recovered:=false }])):=by
 unfold RI at h;split at h
 .rename_i id as
  simp only[ax.a7]at h;cases vs with
  |nil=>exact dl.elim
  |cons v0 vs=>
   have AF:bJ phx (view w M) B (.ptr id []) v0:=dl.1;have aa:=hm.blks id;simp only[bJ]at AF;generalize az:B id=bl at h aa AF;cases bl<;>try(cases h;done)
   rename_i t u;dsimp only at h;obtain⟨b,o,aff,off,t',g1,cD,rfl⟩:=AF;obtain⟨b',dz,c,el,fz,bL,ca,cq,dv,e',ma⟩:=aa;rw[g1]at bL;cases bL;simp only[ag.ew]at cD;obtain⟨rfl,rfl⟩:=cD;cases g7:ag.is t s.ty with
   |false=>rw[g7]at h;cases h
   |true=>
    rw[g7]at h;have ht:=eX g7;subst ht;obtain⟨x,c7,O,R⟩:=ax.cK h;obtain⟨y,b9,af,au⟩:=ax.cK R;obtain⟨fV,bD,e1,_,f1,f2⟩:=J3 O hm dv;obtain⟨db,cr,aU,f3,f4⟩:=Pb af bD (dl.2.ext e1);simp only[ax.a7]at au;have hb2:=cr.blks id;generalize kU:b9 id=bl2 at au hb2;cases bl2<;>try(cases au;done)
    rename_i e? qV;dsimp only at au;cases vf:ag.is e? s.ty with
    |false=>rw[vf]at au;cases au
    |true=>
     rw[vf]at au;have HM:=eX vf;subst HM;obtain⟨eo,m7,c2,abf,ab7,dQ,gS,l_,y5,y6,tY⟩:=hb2;rw[g1,kJ,pr,pr]at dQ;obtain⟨rfl,rfl,_⟩:=dQ;cases ai:s.fn (x,y) with
     |none=>rw[ai]at au;cases au
     |some r=>
      rw[ai]at au;cases au;refine⟨eF.1,?_⟩;refine(eF.2 w db b o c el fz x y vs r cr.mlt (am.keys cr) tY ca cq e' ((f2 rfl).mono aU.vw) (f4 rfl) ai).mono ?_;rintro e w' (⟨ak,b5,rfl,aD,bF,b2,dy,fl,fZ,kd,kY,kZ,us,vk,rfl⟩|⟨ak,rfl,aD,bF,b2,dy,fl,fZ,kd,kY,kZ⟩)
      .obtain⟨gR,d8⟩:=cr.Wi kU g1 tY bF b2 dy fl fZ kd kY kZ cq
       refine⟨aD,gR,(e1.trans aU).trans d8,.inl ⟨ak,_,rfl,?_⟩⟩;obtain⟨cs,ei,rfl,M6,auD⟩:=vk;cases(auD);exact⟨cs,M6,rfl⟩
      obtain⟨gR,d8⟩:=cr.Wi kU g1 tY bF b2 dy fl fZ kd kY kZ cq;exact⟨aD,gR,(e1.trans aU).trans d8,.inr ⟨ak,rfl⟩⟩
 cases h
def RK{E:dk}(dC:pm P E K w0){a_:List av}{vs:List Value}{v:av}(h:(Gu E d f a_).a7 g B=some (v,B'))(hm:bM K w0 phx M B w)(dl:gO phx (view w M) B a_ vs):
  s7 P f/\Calls P f vs.toArray w λe w'=>∃b5,e=.returned b5/\dA K w0 phx M B w B' v b5 w':=by
 unfold Gu at h;cases hg:E.G f with
 |none=>
  rw[hg]at h;cases hx:E.X f with
  |none=>rw[hx]at h;cases h
  |some s =>rw[hx]at h;obtain⟨O,R⟩:=dC.bx f s hx;exact alE O R h hm dl
 |some s=>
  rw[hg]at h;obtain⟨x,c7,O,R⟩:=ax.cK h;obtain⟨fV,bD,e1,f1,f2⟩:=Pb O hm dl;obtain⟨wE,eF⟩:=dC.fn f s hg;cases ai:s.fn x with
  |none=>rw[ai]at R;cases R
  |some r=>
   rw[ai]at R;refine⟨wE,?_⟩;cases rh:s.res.all eC.mY with
   |false =>rw[rh]at f2;refine(eF w fV x vs r bD.mlt ((dC.gk (.inl ⟨f,s,hg⟩)).keys bD) (f2 rfl) ai).mono ?_;rintro e w' ⟨b5,rfl,aD,bF,b2,dy,fl,fZ,kd,kY,us,kZ,rfl⟩;obtain⟨cr,aU⟩:=bD.ret bF b2 dy fl fZ kd kY;obtain⟨jy,gR,d8,f3⟩:=Wj (g:=g) cr (λb aa am=>aa (gN (bD.klt b am) bD.size)) (λj ap z bs ah=>ah ((bD.blks j).lt ap bs)) kZ R;exact⟨_,rfl,jy,aD,gR,(e1.trans aU).trans d8,f3⟩
   |true =>have aB:(full w).cd (view w λ_=>False):=λb o aa=>jZ.2 ⟨λh=>h,aa⟩;refine(eF w (λ_=>False) x vs r (λ_ h=>h.elim) (((dC.gk (.inl ⟨f,s,hg⟩)).keys bD).mono ((s0 w fV).trans aB)) (f1.mono aB) ai).mono ?_;rintro e w' ⟨b5,rfl,aD,bF,b2,dy,fl,fZ,kd,kY,us,kZ,rfl⟩;obtain⟨cr,aU⟩:=bD.Ds bF b2 dy fl fZ (λ_=>False) (λ_ h=>h.elim);obtain⟨jy,gR,d8,f3⟩:=Wj (g:=g) cr (λb aa am=>aa (gN (bD.klt b am) bD.size)) (λj ap z bs ah=>ah ((bD.blks j).lt ap bs)) (kZ.mY rh) R;exact⟨_,rfl,jy,_,gR,(e1.trans aU).trans d8,f3⟩
end
end Yp
namespace Yp
open Go
variable {P:Program}
def ru(P:Program)(M:Nat->Option (ag×ag)):Prop:=∀tid p,M tid=some p->∃kt vt,P.underlying tid=some (.map kt vt)/\(cY P p.1).1 kt/\(cY P p.2).1 vt
def aeR(P:Program)(tid:Nat)(p:ag×ag):Bool:=match P.underlying tid with|some (.map kt vt)=>(la P p.1).1 kt&&(la P p.2).1 vt|_=>false
def aeS(P:Program):∀l:List (Nat×ag×ag),(l.all λq=>aeR P q.1 q.2)=true->ru P (Im l)
 |[],_=>λtid p h=>by cases h
 |(i,q)::r,h=>λtid p hp=>by
  simp only[FN,cP]at h;simp only[Im]at hp;cases aa:Nat.beq i tid with
  |true=>
   rw[aa]at hp;cases hp;have O:=h.1;unfold aeR at O;rw[<- fU aa];split at O
   .rename_i kt vt aL
    simp at O;exact⟨kt,vt,aL,(u0 _).1 _ O.1,(u0 _).1 _ O.2⟩
   cases O
  |false=>rw[aa]at hp;exact aeS P r h.2 tid p hp
section
variable {K:Kp} {w0 w:World} {phx:cf} {M:Nat->Prop} {B B':Nat->aT} {g:Nat->av} {H:cj}
def avm{t:TypeId}{id:Nat}(hid:B id=.new)(kt vt:ag)(hm:bM K w0 phx M B w):
  ∃r w',(Instr.makeMap t none).run P w=.ok r w'/\dA K w0 phx M B w (c' B id (.mp kt vt [])) (.mpp id) r w':=by
 refine⟨.map (some w.heap.size),w.alloc (.map #[] 0),by simp[Instr.makeMap],?_⟩;obtain⟨phx',aD,bD,e1,dQ⟩:=hm.born hid (w':=w.alloc (.map #[] 0)) rfl rfl rfl (by rw[iW];omega) (r5 w _) (.mp kt vt []) 0 λphx' aD aC hp d_=>
  ⟨w.heap.size, #[],0,hp,r4 w _,rfl,d_⟩
 refine⟨phx',aD,bD,e1,?_⟩;simp only[ba,d6,bJ,e5];exact⟨_,dQ,rfl⟩
def vl:ag->TypeDesc
 |.int k=>.int k|_=>.string
def M7{kt:ag}(am:w2 kt=true){tid:TypeId}(hf:(cY P kt).1 tid):P.underlying tid=some (vl kt):=by cases kt<;>first|exact hf.1|cases am
def UF{kt:ag}(am:w2 kt=true){tid:TypeId}(hf:(cY P kt).1 tid){key:kt.aG}{an:List Value}(h:aI H kt key an)(b:Bool)(w:World):(Instr.checkKey b 10000 tid (cB kt an)).run P w=.ok () w:=by
 have aL:=M7 am hf;cases kt<;>try(cases am;done)
 .have:=aI.iK.1 h;subst this
  rw[Instr.checkKey];simp only[Sem.run_bind,run_underlying aL];rfl
 have:=aI.m?.1 h;subst this;rw[Instr.checkKey];simp only[Sem.run_bind,run_underlying aL];rfl
def UG{kt:ag}(am:w2 kt=true){bF b2:kt.aG}{c1 c2:List Value}(O:aI H kt bF c1)(R:aI H kt b2 c2):Instr.sameNow (vl kt) (cB kt c1) (cB kt c2)=some (w1 kt bF b2):=by
 cases kt<;>try(cases am;done)
 .have e1:=aI.iK.1 O;have aU:=aI.iK.1 R;subst e1;subst aU
  simp[Instr.sameNow,vl,cB,ag.isAgg,w1,aj]
 have e1:=aI.m?.1 O;have aU:=aI.m?.1 R;subst e1;subst aU;simp only[cB,ag.isAgg,vl,List.headD_cons];simp only[FJ,if_false,Instr.sameNow];congr 1;exact ByteArray_beq _ _
where
 ByteArray_beq (a b:List UInt8):((⟨a.toArray⟩:ByteArray)==⟨b.toArray⟩)=(a==b):=by have:=beq_toListBytes (⟨a.toArray⟩:ByteArray) ⟨b.toArray⟩;rw[this,ByteArray.toList_eq,ByteArray.toList_eq]
def azA{a b:List UInt8}(h:¬a=b):seq a b=false:=by unfold seq;exact beq_eq_false_iff_ne.2 h
def auF{kt:ag}{bF b2:kt.aG}(h:H? kt bF b2=true):w1 kt bF b2=false:=by
 cases kt<;>try(cases h;done)
 .simp only[H?,aei,Cs,decide_eq_false_iff_not]at h
  simp only[w1,aj,beq_eq_false_iff_ne];exact h
 simp only[H?,aiI,Cs,decide_eq_false_iff_not]at h;exact azA h
def abM{kt:ag}(am:w2 kt=true){key:kt.aG}{an:List Value}(ah:aI H kt key an):∀{l:List (kt.aG×av)} {es:List MapEntry} (i:Nat),lU phx H B kt l es->(l.all λp=>H? kt key p.1)=true ->
  Instr.findNow (vl kt) (cB kt an) es i=some none
 |[],es,i,h,_=>by have h:es=[]:=h;subst h;rfl
 |(k,v)::l,es,i,h,bh=>by obtain⟨e,es',rfl,⟨aau,O,R⟩,af,au⟩:=h;simp only[FN,cP]at bh;simp only[Instr.findNow];rw[R,UG am ah O,auF bh.1];exact abM am ah (i+1) au bh.2
def lU.push{kt:ag}{key:kt.aG}{an:List Value}{v:av}{val:Value}{n:Nat}(O:aI H kt key an)(R:d6 phx H B v val):∀{l:List (kt.aG×av)} {es:List MapEntry},lU phx H B kt l es->lU phx H B kt (l++[(key,v)]) (es++[⟨cB kt an,val,n⟩])
 |[],es,h=>by have h:es=[]:=h;subst h;exact⟨_,[],rfl,⟨an,O,rfl⟩,R,rfl⟩
 |_::_,_,⟨e,es',h,af,au,aY⟩=>⟨e,es'++[⟨cB kt an,val,n⟩],by rw[h];rfl,af,au,lU.push O R aY⟩
def Fj{v:av}{x:Value}(h:ba phx H B v x)(aL:∀a,v ≠ .tup a):d6 phx H B v x:=by cases v<;>first|exact h|exact absurd rfl (aL _)
def afw{v:av}(h:w? v=true):∀a,v ≠ .tup a:=by rintro a rfl;cases h
def aha{w:World}{r:Nat}{es:Array MapEntry}{LC:Nat}(aa:w.heap[r]?=some (.map es LC)):(getObj r).run P w=.ok (.map es LC) w:=by simp[getObj,Sem.run,aa]
def azj{w:World}{r:Nat}{es:Array MapEntry}{LC:Nat}(o:Obj)(aa:w.heap[r]?=some (.map es LC)):(setObj r o).run P w=.ok () { w with heap:=w.heap.setIfInBounds r o }:=by simp[setObj,Sem.run,aa]
def aeh{q:ag×ag}{t w3 Pv:TypeId}{m k v r:av}{XK Ke zz:Value}(h:(MY q m k v).a7 g B=some (r,B'))(aL:P.underlying t=some (.map w3 Pv))
  (asE:(cY P q.1).1 w3) (hm:bM K w0 phx M B w)
  (HI:ba phx (view w M) B m XK) (sx:ba phx (view w M) B k Ke) (MN:ba phx (view w M) B v zz) :
  r=.undef/\∃w' aD,(Instr.mapUpdate t XK Ke zz).run P w=.ok () w'/\bM K w0 phx aD B' w'/\ct phx M B w phx aD B' w':=by
 unfold MY at h;cases m<;>try(cases h;done)
 rename_i id;simp only[ax.a7]at h;have ab:bJ phx (view w M) B (.mpp id) XK:=HI;have dK:=hm.blks id;simp only[bJ]at ab;generalize az:B id=bl at h ab dK;cases bl<;>try(cases h;done)
 rename_i kt vt l;simp only at h;replace h:=ax.cK h;obtain⟨key,c7,O,h⟩:=h;obtain⟨qr,rfl⟩:=dP O;replace h:=ax.cK h;obtain⟨_,b9,R,h⟩:=h;obtain⟨ak,rfl⟩:=ll R;simp only[cP]at ak;obtain⟨⟨aQ,qt⟩,wN⟩:=ak;have ak:=And.intro qt wN;cases h;obtain⟨an,wF,rfl⟩:=oC qr sx;obtain⟨b,hb1,rfl⟩:=ab;obtain⟨b',es,n8,hb2,hb3,Hg,To⟩:=dK;rw[hb1]at hb2;cases hb2;have hf:(cY P kt).1 w3:=by rw[eX aQ];exact asE
 have HB:=M7 ak.1 hf;have Hv:(Instr.findKey w3 (cB kt an) es.toList).run P w=.ok none w:=by simp[Instr.findKey,run_underlying HB,abM ak.1 wF 0 Hg ak.2.2]
 have Hm:=UF ak.1 hf wF false w
 let w':World:={ w with heap:=w.heap.setIfInBounds b (.map (es.push { key:=cB kt an,val:=zz,born:=n8 }) (n8+1)) }
 have bn:b<w.heap.size:=(iP.1 hb3).1;have kv:(Instr.mapUpdate t (.map (some b)) (cB kt an) zz).run P w=.ok () w':=by simp only[Instr.mapUpdate,Sem.run_bind,run_underlying aL,Result.andThen_ok,aha hb3,Hm,Hv];simp only[azj _ hb3];rfl
 have asu:w'.heap[b]?=some (.map (es.push { key:=cB kt an,val:=zz,born:=n8 }) (n8+1)):=by simp[w',bn]
 obtain⟨bD,e1⟩:=hm.put (id:=id) (x:=(b,0,0)) (w':=w') (by rw[az];rfl) hb1 To rfl rfl rfl (by simp[w']) (λj ap=>by simp[w',p5 (FL ap)]) (.mp kt vt (l++[(key,v)])) (by rw[az];exact⟨rfl,rfl⟩) λaC=>by refine⟨b,_,n8+1,hb1,asu,?_,To⟩;rw[Array.toList_push];exact(Hg.mono aC.pl aC.vw aC.bl).push (wF.mono aC.vw) ((Fj MN (afw ak.2.1)).mono aC.pl aC.vw aC.bl)
 exact⟨rfl,w',M,kv,bD,e1⟩
def pL(ok:Bool)(v:Value)(b:Bool):Value:=if ok then .tuple #[v,.bool b]else v
def zf{v b:av}{x:Value}(O:d6 phx H B v x)(R:d6 phx H B b (.bool c)):ba phx H B (ze ok v b) (pL ok x c):=by
 cases ok with
 |false =>cases v<;>first|exact O|exact O.elim
 |true =>exact⟨[x,.bool c],⟨x,[.bool c],rfl,O,.bool c,[],rfl,R,rfl⟩,rfl⟩
def d6.aAP{v:av}{x:Value}(h:d6 phx H B v x):ba phx H B v x:=by cases v<;>first|exact h|exact h.elim
def ach{kt vt:ag}(am:w2 kt=true){ok:Bool}{key:kt.aG}{an:List Value}(ah:aI H kt key an):∀{l:List (kt.aG×av)} {es:List MapEntry} (i:Nat) {r:av},lU phx H B kt l es->(Ml kt vt ok key l).a7 g B=some (r,B') ->
  B'=B/\((∃j val,Instr.findNow (vl kt) (cB kt an) es i=some (some (j,val))/\ba phx H B r (pL ok val true)) \/
   (Instr.findNow (vl kt) (cB kt an) es i=some none/\ba phx H B r (pL ok (cB vt (dJ vt)) false)))
 |[],es,i,r,h,ai=>by subst h;cases ai;exact⟨rfl,.inr ⟨rfl,zf (Fj (Ci (zH vt)) (λa=>by cases vt<;>simp[nT,qZ])) rfl⟩⟩
 |(k,v)::l,es,i,r,h,ai=>by
  obtain⟨e,es',rfl,⟨aau,O,R⟩,af,au⟩:=h;simp only[Ml,ax.a7]at ai;simp only[Instr.findNow];rw[R,UG am ah O];cases DI:w1 kt key k with
  |true =>rw[DI]at ai;cases ai;exact⟨rfl,.inl ⟨i,e.val,rfl,zf af rfl⟩⟩
  |false =>rw[DI]at ai;exact ach am ah (i+1) au ai
def aaV{kt vt:ag}(am:w2 kt=true){key:kt.aG}{an:List Value}(ah:aI H kt key an):∀{l:List (kt.aG×av)} {eL:List (kt.aG×vt.aG)} {es:List MapEntry} (i:Nat),lU phx H B kt l es->CJ kt vt l=some eL ->
  (∃j val,Instr.findNow (vl kt) (cB kt an) es i=some (some (j,val))/\d6 phx H B (.sc vt (EZ kt vt key eL)) val/\Dz kt vt key eL=true) \/
   (Instr.findNow (vl kt) (cB kt an) es i=some none/\d6 phx H B (.sc vt (EZ kt vt key eL)) (cB vt (dJ vt))/\Dz kt vt key eL=false)
 |[],eL,es,i,h,hx=>by subst h;cases hx;exact .inr ⟨rfl,⟨_,aI.zero _ _,rfl⟩,rfl⟩
 |(k,v)::l,eL,es,i,h,hx=>by
  obtain⟨e,es',rfl,⟨aau,O,R⟩,af,au⟩:=h;simp only[CJ]at hx;cases aB:iN vt v with
  |none=>rw[aB]at hx;cases hx
  |some x=>
   cases hl:CJ kt vt l with
   |none=>rw[aB,hl]at hx;cases hx
   |some bu=>
    rw[aB,hl]at hx;cases hx;simp only[Instr.findNow];rw[R,UG am ah O];have aQ:d6 phx H B (.sc vt x) e.val:=Fj (oC aB af.aAP) (λa h=>by cases h);cases DI:w1 kt key k with
    |true=>exact .inl ⟨i,e.val,rfl,by simp only[EZ,DI];exact aQ,by simp[Dz,DI,T]⟩
    |false =>have:=aaV (vt:=vt) am ah (i+1) au hl;simp only[EZ,Dz,DI];exact this
def avd{E:dk}(hz:ru P E.M){tid:TypeId}{x k r:av}{hq Ke:Value}(h:(UW E tid x k ok).a7 g B=some (r,B'))(hm:bM K w0 phx M B w)
  (m5:ba phx (view w M) B x hq) (sx:ba phx (view w M) B k Ke):B'=B/\∃v,(Instr.lookup tid hq Ke ok).run P w=.ok v w/\ba phx (view w M) B r v:=by
 unfold UW at h;replace h:=ax.cK h;obtain⟨p,c7,O,h⟩:=h;obtain⟨hp,rfl⟩:=dP O;obtain⟨w3,Pv,aL,yA,pG⟩:=hz _ _ hp;have bs:=BI pG w;cases x<;>try(cases h;done)
 case mpp id=>
  simp only[ax.a7]at h;have ab:bJ phx (view w M) c7 (.mpp id) hq:=m5;have dK:=hm.blks id;simp only[bJ]at ab;generalize az:c7 id=bl at h ab dK;cases bl<;>try(cases h;done)
  rename_i kt vt l;simp only at h;replace h:=ax.cK h;obtain⟨_,b9,R,h⟩:=h;obtain⟨ak,rfl⟩:=ll R;simp only[cP]at ak;have e1:=eX ak.1;subst e1;have aU:=eX ak.2.1;subst aU;replace h:=ax.cK h;obtain⟨key,vY,af,h⟩:=h;obtain⟨qr,rfl⟩:=dP af;obtain⟨an,wF,rfl⟩:=oC qr sx;obtain⟨b,hb1,rfl⟩:=ab;obtain⟨b',es,n8,hb2,hb3,Hg,To⟩:=dK;rw[hb1]at hb2;cases hb2;have HB:=M7 ak.2.2 yA;have Hm:=λc=>UF ak.2.2 yA wF c w;have run:∀o,Instr.findNow (vl p.1) (cB p.1 an) es.toList 0=some o->(Instr.lookup tid (.map (some b)) (cB p.1 an) ok).run P w=.ok (match o with|some (_,v)=>pL ok v true|none=>pL ok (cB p.2 (dJ p.2)) false) w:=by
   intro o aK;have Hv:(Instr.findKey w3 (cB p.1 an) es.toList).run P w=.ok o w:=by simp[Instr.findKey,run_underlying HB,aK]
   simp only[Instr.lookup,Sem.run_bind,run_underlying aL,Result.andThen_ok,aha hb3,Sem.run_pure,Hm,Hv];cases o with
   |none=>simp[bs,pL]
   |some q=>simp[pL]
  unfold abK at h;cases bh:CJ p.1 p.2 l with
  |none=>
   rw[bh]at h;obtain⟨od,h⟩:=ach ak.2.2 wF 0 Hg h;refine⟨od,?_⟩;rcases h with⟨j,val,bL,ca⟩|⟨bL,ca⟩
   .exact⟨_,run _ bL,ca⟩
   exact⟨_,run _ bL,ca⟩
  |some eL=>
   rw[bh]at h;cases h;refine⟨rfl,?_⟩;rcases aaV (vt:=p.2) ak.2.2 wF 0 Hg bh with⟨j,val,bL,ca,cq⟩|⟨bL,ca,cq⟩
   .exact⟨_,run _ bL,zf ca ⟨_,aI.oM.2 (by rw[cq]),rfl⟩⟩
   exact⟨_,run _ bL,zf ca ⟨_,aI.oM.2 (by rw[cq]),rfl⟩⟩
 case sc t y=>
  cases t<;>try(cases h;done)
  rename_i jQ;have HC:jQ=2:=by
   refine iQ λah => ?_;match jQ,ah,h with
   |0,_,h=>cases h
   |1,_,h=>cases h
   |2,ah,_=>exact ah rfl
   |n+3,_,h=>cases h
  subst HC;simp only at h;replace h:=ax.cK h;obtain⟨_,b9,R,h⟩:=h;obtain⟨ak,rfl⟩:=ll R;replace h:=ax.cK h;obtain⟨key,vY,af,h⟩:=h;obtain⟨qr,rfl⟩:=dP af;cases h;obtain⟨an,wF,rfl⟩:=oC qr sx;obtain⟨cs,my,rfl⟩:=m5;have:=aI.xc.1 my;subst this;have HB:=M7 ak yA;have Hm:=UF ak yA wF true w;refine⟨rfl,pL ok (cB p.2 (dJ p.2)) false,?_,zf (Fj (Ci (zH _)) (λa=>by cases p.2<;>simp[nT,qZ])) rfl⟩;show(Instr.lookup tid (.map none) (cB p.1 an) ok).run P w=_;have Hv:(Instr.findKey w3 (cB p.1 an) []).run P w=.ok none w:=by simp[Instr.findKey,run_underlying HB,Instr.findNow]
  simp only[Instr.lookup,Sem.run_bind,run_underlying aL,Result.andThen_ok,Sem.run_pure];simp[Hm,Hv,bs,pL]
def XD{t:ag}{tid:TypeId}(hf:(cY P t).1 tid)(ak:ag.is t (.op 1)=false):∃d,P.underlying tid=some d/\∀w8,d ≠ .interface w8:=by
 cases t with
 |bool=>exact⟨_,hf.1,bp⟩
 |int k=>exact⟨_,hf.1,bp⟩
 |str=>exact⟨_,hf.1,bp⟩
 |sl e=>obtain⟨⟨bf,h,_⟩,_⟩:=hf;exact⟨_,h,bp⟩
 |unit=>obtain⟨⟨bf,h,_⟩,_⟩:=hf;exact⟨_,h,bp⟩
 |pair a b=>obtain⟨⟨bf,h,_⟩,_⟩:=hf;exact⟨_,h,bp⟩
 |ar n e=>obtain⟨⟨bf,h,_⟩,_⟩:=hf;exact⟨_,h,bp⟩
 |op k=>
  have h:=hf.1;match k,h,ak with
  |0,⟨_,_,_,h⟩,_=>exact⟨_,h,bp⟩
  |2,⟨_,_,h⟩,_=>exact⟨_,h,bp⟩
  |3,⟨_,h⟩,_=>exact⟨_,h,bp⟩
 |fn l=>obtain⟨⟨_,_,_,h⟩,_⟩:=hf;exact⟨_,h,bp⟩
def avl{t:ag}{tid:TypeId}(hf:(cY P t).1 tid)(ak:ag.is t (.op 1)=false)(x:Value)(w:World):(Instr.makeInterface tid x).run P w=.ok (.iface tid x) w:=by obtain⟨d,aL,aJ⟩:=XD hf ak;simp only[Instr.makeInterface,Sem.run_bind,run_underlying aL];simp
def akW{E:dk}(hT:nP P E.bv){uK xT:TypeId}{x r:av}{hq:Value}(h:(YU E uK x ok).a7 g B=some (r,B'))(ai:ba phx H B x hq)(w:World):
  B'=B/\∃v,(Instr.typeAssert hq xT uK ok).run P w=.ok v w/\ba phx H B r v:=by
 have zero:∀{t:ag},d6 phx H B (qZ t (nT t)) (cB t (dJ t)):=fun{t}=>Fj (Ci (zH t)) (λa=>by cases t<;>simp[nT,qZ]);cases x<;>try(cases h;done)
 case ifc tid t y=>
  replace h:=ax.cK h;obtain⟨t',c7,O,h⟩:=h;obtain⟨ht,rfl⟩:=dP O;obtain⟨cs,my,rfl⟩:=ai;cases ac:ag.is t' (.op 1) with
  |true=>rw[ac]at h;cases h
  |false=>
   rw[ac]at h;have hf:=hT _ _ ht;obtain⟨d,aL,aJ⟩:=XD hf ac;have bs:=BI hf w;cases aa:Nat.beq tid uK with
   |true =>rw[aa]at h;cases h;have:=fU aa;subst this;refine⟨rfl,pL ok (cB t cs) true,?_,zf ⟨cs,my,rfl⟩ rfl⟩;simp only[Instr.typeAssert,Sem.run_bind,run_underlying aL];cases d<;>first|exact absurd rfl (aJ _)|(simp[pL])
   |false=>
    rw[aa]at h;cases ok with
    |false=>cases h
    |true=>
     cases h;refine⟨rfl,pL true (cB t' (dJ t')) false,?_,zf zero rfl⟩;have eR:¬tid=uK:=λe=>by rw[e,F8]at aa;cases aa
     simp only[Instr.typeAssert,Sem.run_bind,run_underlying aL];cases d<;>first|exact absurd rfl (aJ _)|(simp[pL,eR,bs])
 case sc t y=>
  cases t<;>try(cases h;done)
  rename_i jQ;have HC:jQ=1:=by
   refine iQ λah => ?_;match jQ,ah,h with
   |1,ah,_=>exact ah rfl
  subst HC;replace h:=ax.cK h;obtain⟨t',c7,O,h⟩:=h;obtain⟨ht,rfl⟩:=dP O;obtain⟨cs,my,rfl⟩:=ai;have:=aI.xc.1 my;subst this;cases ac:ag.is t' (.op 1) with
  |true=>rw[ac]at h;cases h
  |false=>
   rw[ac]at h;have hf:=hT _ _ ht;obtain⟨d,aL,aJ⟩:=XD hf ac;have bs:=BI hf w;cases ok with
   |false=>cases h
   |true =>cases h;refine⟨rfl,pL true (cB t' (dJ t')) false,?_,zf zero rfl⟩;show(Instr.typeAssert .nilIface xT uK true).run P w=_;simp only[Instr.typeAssert,Sem.run_bind,run_underlying aL];cases d<;>first|exact absurd rfl (aJ _)|(simp[pL,bs])
end
end Yp
namespace Yp
open Go
def uB:=@Array.getElem?_toList
variable {P:Program}
section
variable {K:Kp} {w0 w:World} {phx:cf} {M:Nat->Prop} {B B':Nat->aT} {g:Nat->av} {H:cj}
def akP{v:av}{n:Int}{x:Value}(h:(z6 v).a7 g B=some (n,B'))(ai:ba phx H B v x):B'=B/\∃k,x=.int k n:=by
 cases v<;>try(cases h;done)
 rename_i t y;cases t<;>try(cases h;done)
 rename_i k;cases h;exact⟨rfl,k,ai.int⟩
def aup{t:ag}(h:aek t=true):∃e,t=.sl e:=by cases t<;>first|exact⟨_,rfl⟩|cases h
def j5.args:∀{l:List iO} {vs:List Value},j5 phx H B l vs->gO phx H B (l.map iO.pv) vs
 |[],vs,h=>by have h:vs=[]:=h;subst h;trivial
 |c::l,vs,h=>by obtain⟨v,ei,rfl,O,R⟩:=h;refine⟨?_,R.args⟩;cases c<;>exact O
def gO.cg:∀{a_ gZ:List av} {vs us:List Value},gO phx H B a_ vs->gO phx H B gZ us->gO phx H B (a_++gZ) (vs++us)
 |[],_,[],_,_,h=>h
 |_::_,_,_::_,_,h,k=>⟨h.1,gO.cg h.2 k⟩
def j5.take:∀(n:Nat) {l:List iO} {vs:List Value},j5 phx H B l vs->j5 phx H B (l.take n) (vs.take n)/\j5 phx H B (l.drop n) (vs.drop n)
 |0,_,_,h=>⟨rfl,h⟩
 |n+1,[],vs,h=>by have h:vs=[]:=h;subst h;exact⟨rfl,rfl⟩
 |n+1,c::l,vs,h=>by obtain⟨v,ei,rfl,O,R⟩:=h;obtain⟨bF,b2⟩:=j5.take n R;exact⟨⟨v,_,rfl,O,bF⟩,b2⟩
def RW{dT:Nat}{c_:List iO}{a_:List av}{us vs:List Value}(aC:j5 phx H B c_ us)(hp:gO phx H B a_ vs):gO phx H B (wj dT c_ a_) (us.take dT++(vs++us.drop dT)):=by obtain⟨bF,b2⟩:=j5.take dT aC;exact gO.cg bF.args (gO.cg hp b2.args)
def aos{p:av}{c:iO}{x:Value}(h:(C5 p).a7 g B=some (c,B'))(hm:bM K w0 phx M B w)(ai:ba phx (view w M) B p x):
  ∃aD,bM K w0 phx aD B' w/\ct phx M B w phx aD B' w/\v_ phx (view w aD) B' c x:=by
 cases p<;>try(cases h;done)
 case ptr id p=>cases h;exact⟨M,hm,ct.refl _ _ _ _,ai⟩
 case sc t y=>cases h;exact⟨M,hm,ct.refl _ _ _ _,ai⟩
 case kb b =>cases h;subst ai;exact⟨M,hm,ct.refl _ _ _ _,ba.vv phx _ B b⟩
 case agg t u =>obtain⟨y,c7,O,R⟩:=ax.cK h;cases R;obtain⟨cs,rfl,aD,bD,e1,_,_,f2⟩:=B1 O hm ai;exact⟨aD,bD,e1,cs,f2 rfl,rfl⟩
 case clo f dT c_=>
  cases c_ with
  |nil =>cases h;obtain⟨vs,aB,rfl⟩:=ai;subst aB;exact⟨M,hm,ct.refl _ _ _ _,[_],aI.GU.2 rfl,by simp[cB,ag.isAgg,tv]⟩
  |cons c r=>cases h
def aaT:∀{a_:List av} {cs:List iO} {vs:List Value} {M:Nat->Prop} {B B':Nat->aT},(mD C5 a_).a7 g B=some (cs,B')->bM K w0 phx M B w->gO phx (view w M) B a_ vs ->
  ∃aD,bM K w0 phx aD B' w/\ct phx M B w phx aD B' w/\j5 phx (view w aD) B' cs vs
 |[],cs,[],M,B,B',h,hm,_=>by cases h;exact⟨M,hm,ct.refl _ _ _ _,rfl⟩
 |p::a_,cs,v::vs,M,B,B',h,hm,hp=>by replace h:=ax.cK h;obtain⟨c,c7,O,h⟩:=h;replace h:=ax.cK h;obtain⟨i',b9,R,h⟩:=h;cases h;obtain⟨fV,bD,e1,eY⟩:=aos O hm hp.1;obtain⟨db,cr,aU,gT⟩:=aaT R bD (hp.2.ext e1);exact⟨db,cr,e1.trans aU,v,vs,rfl,eY.mono aU.pl aU.vw aU.bl,gT⟩
def gO.length:∀{a_:List av} {vs:List Value},gO phx H B a_ vs->a_.length=vs.length
 |[],[],_=>rfl
 |_::_,_::_,h=>by simp[gO.length h.2]
 |[],_::_,h=>h.elim
 |_::_,[],h=>h.elim
def aao{E:dk}(dC:pm P E K w0){d:Nat}:∀{l:List Nat} {x:Nat} {a_:List av} {vs:List Value} {v:av},(Lx E d l x a_).a7 g B=some (v,B')->bM K w0 phx M B w->gO phx (view w M) B a_ vs ->
  ∃f,tv l x=.func (.func f) #[] #[]/\s7 P f/\Calls P f vs.toArray w λe w'=>∃b5,e=.returned b5/\dA K w0 phx M B w B' v b5 w'
 |[],x,a_,vs,v,h,hm,dl=>by cases h
 |[f],x,a_,vs,v,h,hm,dl=>by replace h:=i_ h;obtain⟨hx,h⟩:=h;have hx:x=1:=fU hx;subst hx;exact⟨f,rfl,RK dC h hm dl⟩
 |f::wn::r,x,a_,vs,v,h,hm,dl=>by
  simp only[Lx,ax.a7]at h;cases hx:bX x 1 with
  |true =>rw[hx,if_pos rfl]at h;have hx:x=1:=fU hx;subst hx;exact⟨f,rfl,RK dC h hm dl⟩
  |false=>
   rw[hx,if_neg bp]at h;obtain⟨q,O,R⟩:=aao dC h hm dl;refine⟨q,?_,R⟩;match x,hx,O with
   |0,_,O=>simp[cc,tv]at O
   |1,hx,_=>simp[bX]at hx
   |n+2,_,O=>simpa[cc,tv]using O
def abg{t e:ag}(h:Sk t=some e):t=.sl e:=by
 cases t<;>try(cases h;done)
 exact congrArg ag.sl (ps h)
def d6.aAO{v:av}{x:Value}(h:d6 phx H B v x)(aL:∀a,v ≠ .tup a):ba phx H B v x:=by cases v<;>first|exact h|exact absurd rfl (aL _)
def g_{x:Operand}{f:av->ax α}{r:α×(Nat->aT)}(h:((ey x).bind f).a7 g B=some r){a:Act}(ab:dF phx H B g a):∃v,ba phx H B v (a.eval x)/\(f v).a7 g B=some r:=by
 obtain⟨v,c7,O,R⟩:=ax.cK h;obtain⟨e,aB⟩:=y2 O ab
 grind
def l9{o:Option β}{f:β->ax α}{r:α×(Nat->aT)}(h:((ax.opt o).bind f).a7 g B=some r):∃v,o=some v/\(f v).a7 g B=some r:=by
 obtain⟨v,c7,O,R⟩:=ax.cK h;obtain⟨aB,e⟩:=dP O
 grind
def K6{p:av}{f:Int->ax α}{r:α×(Nat->aT)}(h:((z6 p).bind f).a7 g B=some r){x:Value}(ai:ba phx H B p x):∃n k,x=.int k n/\(f n).a7 g B=some r:=by
 obtain⟨v,c7,O,R⟩:=ax.cK h;obtain⟨e,k,aB⟩:=akP O ai
 grind
def VF{o:Option Operand}{f:Option Int->ax α}{r:α×(Nat->aT)}(h:((IV o).bind f).a7 g B=some r){a:Act}(ab:dF phx H B g a):∃n k,o.map a.eval=(n.map λi=>.int k i)/\(f n).a7 g B=some r:=by
 obtain⟨v,c7,O,R⟩:=ax.cK h;obtain⟨e,k,aB⟩:=awY O ab
 grind
def afk{b:Bool}{f:Unit->ax α}{r:α×(Nat->aT)}(h:((ax.need b).bind f).a7 g B=some r):b=true/\(f ()).a7 g B=some r:=by
 obtain⟨v,c7,O,R⟩:=ax.cK h;obtain⟨aB,e⟩:=ll O
 grind
def alO{E:dk}(hT:nP P E.bv){b:Builtin}{d':Array TypeId}{a_:List av}{vs:List Value}{v:av}(h:(Ra E d b d'.toList a_).a7 g B=some (v,B'))(hm:bM K w0 phx M B w)
  (dl:gO phx (view w M) B a_ vs) (ty:TypeId) (cs:Array Bool):∃r w',(Go.builtin b d' ty cs vs.toArray).run P w=.ok (.value r) w'/\dA K w0 phx M B w B' v r w':=by
 unfold Ra at h;split at h
 ·
  split at h
  .rename_i t ts a u6
   obtain⟨fW,c7,O,R⟩:=ax.cK h;obtain⟨ht,rfl⟩:=dP O;match vs,dl with
   |[ck],dl=>
    have aq:d'[0]?=some t:=by rw[<- uB,u6];rfl
    obtain⟨az,r,af,au⟩:=au8 (P:=P) (hT _ _ ht) R dl.1 aq ty;exact⟨r,w,by simp[Go.builtin,af],dA.same hm az au⟩
  cases h
 ·
  split at h
  .rename_i t ts u6
   replace h:=ax.cK h;obtain⟨fW,c7,O,h⟩:=h;obtain⟨ht,rfl⟩:=dP O;replace h:=gW h;obtain⟨rn,h⟩:=h;obtain⟨e,rfl⟩:=aup rn;cases h;match vs,dl with
   |[ck],dl=>
    have aq:d'[0]?=some t:=by rw[<- uB,u6];rfl
    have HP:ck=.slice none 0 0:=dl.1;subst HP;obtain⟨⟨bf,aL,_⟩,_⟩:=hT _ _ ht;refine⟨goInt 0,w,by simp[Go.builtin,Builtin.cap_,aq,run_underlying aL],dA.same hm rfl (ba.vx _ 0)⟩
  cases h
 ·
  split at h
  .rename_i t u s x u6
   split at h
   .rename_i e ht aL
    match vs,dl with
    |[vs,hq],dl=>
     have Av:d'=#[t,u]:=by apply Cy;exact u6
     subst Av;split at h
     .rename_i n _
      replace h:=i_ h;obtain⟨ah,h⟩:=h;simp only[c3,cP]at ah;obtain⟨dM,gc,rfl,rfl⟩:=w_ h;have HP:vs=.slice none 0 0:=dl.1;have atL:=dl.2.1.int;subst HP;subst atL;obtain⟨r,w',af,au⟩:=akK (ty:=ty) dM (hT _ _ ht) (hT _ _ aL).1 (n:=(n:Int)) (by have:=ah.1;simpa[b3]using this) ah.2 gc hm;have af:(Builtin.append_ #[t,u] ty #[.slice none 0 0,.int .i64 (bG.to .i64 n)]).run P w=.ok r w':=af;exact⟨r,w',by simp[Go.builtin,af],au⟩
     cases h
   .rename_i e aCP aL ht qw
    replace h:=gW h;obtain⟨aQ,h⟩:=h;match vs,dl with
    |[vs,hq],dl=>
     have Av:d'=#[t,u]:=by apply Cy;exact u6
     subst Av;obtain⟨r,w',af,au⟩:∃r w',(Builtin.append_ #[t,u] ty #[vs,hq]).run P w=.ok r w'/\dA K w0 phx M B w B' v r w':=by
      cases dx:E.A with
      |true=>rw[dx]at h;exact akI (ty:=ty) (hT _ _ ht) (hT _ _ qw) aQ h hm dl.1 dl.2.1
      |false=>rw[dx]at h;exact akJ (ty:=ty) (hT _ _ ht) (hT _ _ qw) aQ h hm dl.1 dl.2.1
     exact⟨r,w',by simp[Go.builtin,af],au⟩
   cases h
  cases h
 ·
  split at h
  .rename_i t u a x u6
   split at h
   .rename_i e aU ht aL
    match vs,dl with
    |[ck,hq],dl=>
     have Av:d'=#[t,u]:=by apply Cy;exact u6
     subst Av;obtain⟨r,w',af,au⟩:=aon (uid:=u) (ty:=ty) (hT _ _ ht) h hm dl.1 dl.2.1;exact⟨r,w',by simp[Go.builtin,af],au⟩
   cases h
  cases h
 ·
  split at h
  .rename_i t a u6
   split at h
   .rename_i e ht
    match vs,dl with
    |[ck],dl=>
     have Av:d'=#[t]:=by apply Cy;exact u6
     subst Av;obtain⟨r,w',af,au⟩:=aoa (ty:=ty) (hT _ _ ht) h hm dl.1;exact⟨r,w',by simp[Go.builtin,af],au⟩
   cases h
  cases h
 ·
  split at h
  .rename_i a b
   cases h;match vs,dl with
   |[ck,uo],dl =>obtain⟨O,R,_⟩:=dl;have e1:=O.int;have aU:=R.int;subst e1;subst aU;refine⟨_,w,by simp[Go.builtin,Builtin.min_,Builtin.min2];rfl,dA.same hm rfl ?_⟩;exact ba.tU _ _ _ .i64 (f6 a b)
  cases h
 ·
  split at h
  .rename_i a b
   cases h;match vs,dl with
   |[ck,uo],dl =>obtain⟨O,R,_⟩:=dl;have e1:=O.int;have aU:=R.int;subst e1;subst aU;refine⟨_,w,by simp[Go.builtin,Builtin.max_,Builtin.max2];rfl,dA.same hm rfl ?_⟩;exact ba.tU _ _ _ .i64 (c6 a b)
  cases h
 cases h
def axE{v:av}{x:Value}(ai:ba phx H B v x){r:av}(h:(Nt v).a7 g B=some (r,B')):B'=B/\r=v/\((∃a,x=.pointer (some a))\/∃f a b,x=.func (.func f) a b):=by
 cases v<;>try(cases h;done)
 case ptr id p=>
  simp only[Nt,ax.a7]at h;have ab:bJ phx H B (.ptr id p) x:=ai;simp only[bJ]at ab;generalize az:B id=bl at h ab;cases bl<;>try(cases h;done)
  cases h
  grind
 case opt id i p=>
  simp only[Nt,ax.a7]at h;have ab:bJ phx H B (.opt id i p) x:=ai;simp only[bJ]at ab;generalize az:B id=bl at h ab;cases bl<;>try(cases h;done)
  all_goals
   cases h
   grind
 case ipt e l i p =>cases h;obtain⟨ac,b,o,cap,off,t',O,R,rfl⟩:=ai;simp
 case clo f dT c_ =>cases h;obtain⟨vs,_,rfl⟩:=ai;simp
def awq{a:Act}{y:Operand}(h:NC y=true):∀k n,a.eval y=.int k n->n≠0:=by
 unfold NC at h;split at h
 .intro k n ak;simp at ak;obtain⟨_,rfl⟩:=ak;simp;omega
 .intro k n ak;simp only[Act.eval]at ak;obtain⟨_,rfl⟩:=ak;simp
 cases h
def awa{a:Act}{y:Operand}(h:Nw y=true):∀k n,a.eval y=.int k n->0<=n:=by
 unfold Nw at h;split at h
 .intro k n ak;simp at ak;obtain⟨_,rfl⟩:=ak;simp
 cases h
def apj{p:av}{v:av}(h:(GO p i).a7 g B=some (v,B')){x:Value}(ai:ba phx H B p x):∀a,v ≠ .tup a:=by
 rintro a rfl;unfold GO at h;split at h
 .obtain⟨h,_⟩:=dP h
  obtain⟨vs,hl,rfl⟩:=ai;rename_i q;have key:∀(i:Nat) (q:av) (vs:List Value),ja q (gE i)=some (.tup a)->mm phx H B q vs->False:=by
   intro i;induction i with
   |zero=>
    intro q vs h hl;cases q<;>simp only[gE,ja]at h<;>try(cases h;done)
    .rename_i t y
     cases t<;>(try simp only[ja]at h)<;>cases h
    obtain⟨u,us,rfl,O,R⟩:=hl
    (try simp only[ja]at h);cases h
    exact O.elim
   |succ i ih=>
    intro q vs h hl;cases q<;>simp only[gE,ja]at h<;>try(cases h;done)
    .rename_i t y
     cases t<;>(try simp only[ja]at h)<;>try(cases h;done)
     exact hl.elim
    obtain⟨u,us,rfl,O,R⟩:=hl;exact ih _ _ h R
  exact key i _ vs h hl
 cases h
def hs(P:Program)(K:Kp)(w0:World)(phx:cf)(M:Nat->Prop)(B:Nat->aT)(w:World)(B':Nat->aT)(v:av)(s:Sem Next):Prop:=
 ∃r w',s.run P w=.ok (.value r) w'/\dA K w0 phx M B w B' v r w'
def hs.of{s:Sem Value}{v:av}{r:Value}{w':World}(h:s.run P w=.ok r w')(bh:dA K w0 phx M B w B' v r w'):hs P K w0 phx M B w B' v (do pure (.value (<- s))):=
 ⟨r,w',by simp[h],bh⟩
def hs.pure{v:av}{r:Value}(bh:dA K w0 phx M B w B' v r w):hs P K w0 phx M B w B' v (pure (.value r)):=⟨r,w,rfl,bh⟩
def PK{c?:Option Nat}{f:Operand}{args:Array Operand}{d':Array TypeId}{type:TypeId}{jz:String}{after:Array Edge}{Dt:Option (Nat×Bool)}{a:Act}{Aj:Nat}{first cap:Array Value}
  (hf:a.eval f=.func (.func Aj) first cap) (wE:s7 P Aj) {Kn:Act->World->Prop} {Q:Exit->Act->World->Prop}
  (h:Calls P Aj (first++args.map a.eval++cap) w λe w'=>∃b5,e=.returned b5/\Kn (a.put c? b5) w'):Oper.wp P ⟨c?,.call ⟨.value f,args,d'⟩,type,jz,after,Dt⟩ a w Kn Q:=by
 obtain⟨fn,c1,c2,hN⟩:=wE;have u7:¬fn.body=none:=by intro aa;rw[aa]at c2;cases c2
 have Gk : ¬ fn.name = "runtime.NumGoroutine" := by simpa using hN
 have kv:(execOp a.eval ⟨c?,.call ⟨.value f,args,d'⟩,type,jz,after,Dt⟩).run P w=.ok (.enter Aj (first++args.map a.eval++cap)) w:=by simp only[execOp,resolve];simp[hf,Deferred.ofValue,invoke,callFunc,c1,Gk,u7]
 unfold Oper.wp;rw[kv,Oper.upon_enter];refine h.mono ?_;rintro e w' ⟨b5,rfl,am⟩;exact am
def aqr{E:dk}(dC:pm P E K w0){x:Operand}{f:av->ax α}{r:α×(Nat->aT)}(h:((SY E x).bind f).a7 g B=some r)(hm:bM K w0 phx M B w){a:Act}(ab:dF phx (view w M) B g a):
  ∃v,ba phx (view w M) B v (a.eval x)/\(f v).a7 g B=some r:=by
 cases x with
 |global i=>
  simp only[SY]at h;cases am:E.K with
  |none=>rw[am]at h;cases h
  |some k=>
   rw[am]at h;simp only at h;cases aa:Nat.beq k i with
   |false=>rw[aa]at h;cases h
   |true =>rw[aa]at h;have:=fU aa;subst this;refine⟨_,?_,h⟩;have cC:=(dC.gk (.inr (.inr ⟨_,am⟩))).keys hm k (dC.kn k am);show bJ phx (view w M) B (.ipt (.ar 64 (.int .u32)) [(qz:List (bG .u32))] 0 []) (.pointer (some ⟨k,0,none⟩));simp only[bJ];exact⟨Nat.zero_lt_one,k,0,1,0,_,cC,rfl,bp⟩
 |tmp t=>exact g_ h ab
 |const v=>exact g_ h ab
 |func wn=>exact g_ h ab
def av7{op:BinOp}{y:Operand}(h:IA op y=true):op=.eql/\y=.const .nilIface:=by
 unfold IA at h
 grind
def azf{tid:TypeId}{w8:Array (String×TypeId)}(aL:P.underlying tid=some (.interface w8))(t:Nat)(v:Value)(w:World):(Op.equal tid (.iface t v) .nilIface).run P w=.ok false w:=by show(Op.equalIn (9999+1) tid _ _).run P w=_;rw[Op.equalIn];simp only[Sem.run_bind,run_underlying aL];rfl
def azh{tid:TypeId}{w8:Array (String×TypeId)}(aL:P.underlying tid=some (.interface w8))(w:World):(Op.equal tid .nilIface .nilIface).run P w=.ok true w:=by show(Op.equalIn (9999+1) tid _ _).run P w=_;rw[Op.equalIn];simp only[Sem.run_bind,run_underlying aL];rfl
def auc{tid:TypeId}{t:ag}(ht:(cY P t).1 tid){a r:av}{ck:Value}(h:(MW t a).a7 g B=some (r,B'))(eb:ba phx H B a ck)(x:Operand)(w:World):
  B'=B/\∃v,(do eqGuard .eql tid x (.const .nilIface) ck .nilIface;binOp .eql tid ck .nilIface:Sem Value).run P w=.ok v w/\ba phx H B r v:=by
 unfold MW at h;cases g7:ag.is t (.op 1) with
 |false=>rw[g7]at h;cases h
 |true=>
  have:=eX g7;subst this;obtain⟨w8,aL⟩:=ht.1;split at h
  .cases h
   obtain⟨cs,_,rfl⟩:=eb;have hg:∀v:Value,∀t,(eqGuard .eql tid x (.const .nilIface) (.iface t v) .nilIface).run P w=.ok () w:=λ_ _=>rfl;exact⟨rfl,.bool false,by simp[hg,binOp,azf aL],rfl⟩
  .cases h
   obtain⟨cs,ah,rfl⟩:=eb;subst ah;have hg:(eqGuard .eql tid x (.const .nilIface) .nilIface .nilIface).run P w=.ok () w:=by cases x<;>rfl
   exact⟨rfl,.bool true,by simp[hg,binOp,cB,ag.isAgg,Bb,azh aL],rfl⟩
  cases h
def VE{E:dk}(hT:nP P E.bv)(cC:qj P E.bv E.C)(hz:ru P E.M)(dC:pm P E K w0){o:Oper}{a:Act}{v:av}(h:(sJ E o).a7 g B=some (v,B'))(hm:bM K w0 phx M B w)(ab:dF phx (view w M) B g a)
  {Kn:Act->World->Prop} {Q:Exit->Act->World->Prop} (am:∀r w',dA K w0 phx M B w B' v r w'->Kn (a.put o.dst r) w'):o.wp P a w Kn Q:=by
 have hd:hs P K w0 phx M B w B' v (execOp a.eval o)->o.wp P a w Kn Q:=λ⟨r,w',O,R⟩=>aBz O (am r w' R);obtain⟨c?,op,type,jz,after,Dt⟩:=o;cases op<;>try(cases h;done)
 case move x =>obtain⟨az,aB⟩:=y2 h ab;exact hd (hs.pure (dA.same hm az aB))
 case assign x =>obtain⟨az,aB⟩:=y2 h ab;exact hd (hs.pure (dA.same hm az aB))
 case pick c x y =>replace h:=g_ h ab;obtain⟨axg,ah,h⟩:=h;replace h:=g_ h ab;obtain⟨i1,hx,h⟩:=h;replace h:=g_ h ab;obtain⟨agt,hy,h⟩:=h;obtain⟨az,cT,au,aY⟩:=axn (P:=P) h ah hx hy w;exact hd ⟨cT,w,au,dA.same hm az aY⟩
 case alloc t =>replace h:=l9 h;obtain⟨ty,ht,h⟩:=h;replace h:=Dk h;obtain⟨hid,h⟩:=h;cases h;obtain⟨r,w',O,R⟩:=akA (hT _ _ ht) hid hm;exact hd (hs.of O R)
 case box t x =>replace h:=l9 h;obtain⟨ty,ht,h⟩:=h;replace h:=g_ h ab;obtain⟨i1,hx,h⟩:=h;obtain⟨_,c7,O,R⟩:=ax.cK h;obtain⟨e,cu,nC,tD⟩:=L? O hx;rw[e]at R;obtain⟨hid,R⟩:=Dk R;cases R;obtain⟨r,w',O,R⟩:=Y? (hT _ _ ht) hid hm nC tD;exact hd (hs.of O R)
 case build t parts=>
  replace h:=l9 h;obtain⟨ty,ht,h⟩:=h;obtain⟨a_,c7,O,R⟩:=ax.cK h;obtain⟨e,dl⟩:=VS ab O;rw[e]at R;have DL:p9 phx (view w M) B a_ (parts.map λ(i,x)=>(i,a.eval x)).toList:=by simpa using dl
  cases ty<;>try(cases R;done)
  case ar n e =>obtain⟨r,af,au⟩:=alN (hT _ _ ht) R hm DL;exact hd (hs.of af au)
  case unit =>obtain⟨az,r,af,au⟩:=Zf rfl (hT _ _ ht) R DL w;exact hd (hs.of af (dA.same hm az au))
  case pair x y =>obtain⟨az,r,af,au⟩:=Zf rfl (hT _ _ ht) R DL w;exact hd (hs.of af (dA.same hm az au))
 case buildSlice t n parts=>
  replace h:=l9 h;obtain⟨ty,ht,h⟩:=h;replace h:=l9 h;obtain⟨e,aC,h⟩:=h;have:=abg aC;subst this;obtain⟨a_,c7,O,R⟩:=ax.cK h;obtain⟨Sh,dl⟩:=VS ab O;rw[Sh]at R;have DL:p9 phx (view w M) B a_ (parts.map λ(i,x)=>(i,a.eval x)).toList:=by simpa using dl
  cases tK:ag.is e (.op 3) with
  |true =>rw[tK,cond_true]at R;have:=eX tK;subst this;obtain⟨r,w',af,au⟩:=axF (hT _ _ ht) R hm DL;exact hd (hs.of af au)
  |false =>rw[tK,cond_false]at R;obtain⟨r,w',af,au⟩:=alM (hT _ _ ht) R hm DL;exact hd (hs.of af au)
 case load t x =>replace h:=l9 h;obtain⟨ty,ht,h⟩:=h;replace h:=g_ h ab;obtain⟨i1,hx,h⟩:=h;obtain⟨az,r,af,au⟩:=aeD (hT _ _ ht) h hm hx;exact hd (hs.of af (dA.same hm az au))
 case store t x y =>replace h:=l9 h;obtain⟨ty,ht,h⟩:=h;replace h:=g_ h ab;obtain⟨i1,hx,h⟩:=h;replace h:=g_ h ab;obtain⟨agt,hy,h⟩:=h;obtain⟨rfl,w',aD,af,au,aY⟩:=aAo (hT _ _ ht) h hm hx hy;exact XV (w':=w') (by simp[execOp,af]) (am _ _ ⟨phx,aD,au,aY,rfl⟩)
 case nilCheck x=>
  replace h:=g_ h ab;obtain⟨i1,hx,h⟩:=h;obtain⟨az,rfl,aC⟩:=axE hx h;refine hd ⟨a.eval x,w,?_,dA.same hm az hx⟩;rcases aC with⟨ad,aC⟩|⟨f,cN,e9,aC⟩
  .simp only[execOp,aC];rfl
  simp only[execOp,aC];rfl
 case binOp op t x y yt=>
  change (bif IA op y then(ax.opt (E.bv t)).bind λty=>(ey x).bind λa=>MW ty a else(ey x).bind λa=>(ey y).bind λb=>Ld E (NC y) (Nw y) op t a b:ax av).a7 g B=_ at h;cases TU:IA op y with
  |true =>obtain⟨rfl,rfl⟩:=av7 TU;rw[TU,cond_true]at h;replace h:=l9 h;obtain⟨ty,ht,h⟩:=h;replace h:=g_ h ab;obtain⟨i1,hx,h⟩:=h;obtain⟨az,r,af,au⟩:=auc (hT _ _ ht) h hx x w;exact hd (hs.of af (dA.same hm az au))
  |false=>
  rw[TU,cond_false]at h;replace h:=g_ h ab;obtain⟨i1,hx,h⟩:=h;replace h:=g_ h ab;obtain⟨agt,hy,h⟩:=h;obtain⟨az,r,af,au⟩:=alr hT cC h hx hy (λbs=>awq bs) (λbs=>awa bs) x y w;exact hd (hs.of af (dA.same hm az au))
 case unOp op t x =>replace h:=g_ h ab;obtain⟨i1,hx,h⟩:=h;obtain⟨az,r,af,au⟩:=aA5 (P:=P) h hx w;exact hd (hs.of af (dA.same hm az au))
 case convert s t x=>
  replace h:=g_ h ab;obtain⟨i1,hx,h⟩:=h;unfold aaI at h;replace h:=l9 h;obtain⟨ts,atD,h⟩:=h;replace h:=l9 h;obtain⟨aAY,atE,h⟩:=h;have fs:=hT _ _ atD;have d9:=hT _ _ atE;cases aAY<;>try(cases h;done)
  case int k=>
   cases i1<;>try(cases h;done)
   rename_i iF pl;cases iF<;>try(cases h;done)
   rename_i k';cases h;have e:=hx.int;obtain⟨d,aJ⟩:=apG fs;have ai:=azd (P:=P) (k:=k) (k':=k') aJ d9.1 (bG.to k' pl) w;rw[<- e]at ai;refine hd (hs.of ai (dA.same hm rfl ?_));have:=ba.tU phx (view w M) B k (bG.of k (bG.to k' pl))
   rwa [bG.Pc]at this
  case str=>
   cases ts<;>try(cases h;done)
   case str=>
    cases i1<;>try(cases h;done)
    rename_i iF pl;cases iF<;>try(cases h;done)
    cases h;have e:=hx.str;refine hd (hs.of (r:=a.eval x) (w':=w) ?_ (dA.same hm rfl hx));rw[e];simp[convert,run_underlying fs.1,run_underlying d9.1]
   case sl e=>
    replace h:=gW h;obtain⟨aa,h⟩:=h;have aC:e=.int .u8:=by
     unfold AV at aa;split at aa
     .rename_i rg;exact(ag.sl.inj rg)
     cases aa
    subst aC;obtain⟨l,c7,O,R⟩:=ax.cK h;cases R;obtain⟨az,ai⟩:=aok (l:=l) fs d9.1 O hm hx;exact hd (hs.of ai (dA.same hm az (ba.U5 _ _ _ l)))
  case sl e=>
   cases ts<;>try(cases h;done)
   case sl bB=>
    cases i1<;>try(cases h;done)
    rename_i id eT;cases eT<;>try(cases h;done)
    replace h:=gW h;obtain⟨aa,h⟩:=h;simp only[cP]at aa;have aC:e=.int .u8:=by
     have:=aa.1;unfold AV at this;split at this
     .rename_i rg;exact(ag.sl.inj rg)
     cases this
    subst aC;have e4:=fU aa.2.2;subst e4;simp only[ax.a7]at h;generalize az:B id=bl at h;cases bl<;>try(cases h;done)
    cases h;obtain⟨r,w',af,au⟩:=aol (P:=P) d9 az hm hx;exact hd (hs.of af au)
   cases i1<;>try(cases h;done)
   rename_i iF pl;cases iF<;>try(cases h;done)
   replace h:=gW h;obtain⟨aa,h⟩:=h;have aC:e=.int .u8:=by
    unfold AV at aa;split at aa
    .rename_i rg;exact(ag.sl.inj rg)
    cases aa
   subst aC;replace h:=i_ h;obtain⟨gn,h⟩:=h;obtain⟨_,gc,rfl,rfl⟩:=w_ h;have e:=hx.str;have cm:(pl:List UInt8).length*1<=140737488355328:=of_decide_eq_true gn;obtain⟨r,w',af,au⟩:=aom (P:=P) (l:=pl) fs.1 d9 gc J hm;rw[<- e]at af;exact hd (hs.of af au)
 case makeSlice t l c =>replace h:=l9 h;obtain⟨ty,ht,h⟩:=h;replace h:=l9 h;obtain⟨e,aC,h⟩:=h;have:=abg aC;subst this;replace h:=g_ h ab;obtain⟨pl,hl,h⟩:=h;replace h:=K6 h hl;obtain⟨aCC,kl,el,h⟩:=h;replace h:=g_ h ab;obtain⟨axg,ah,h⟩:=h;replace h:=K6 h ah;obtain⟨aCA,kc,aoP,h⟩:=h;obtain⟨r,w',af,au⟩:=avn (kl:=kl) (kc:=kc) (hT _ _ ht) hm h;rw[<- el,<- aoP]at af;exact hd (hs.of af au)
 case slice t x lo ac ry=>
  replace h:=l9 h;obtain⟨ty,ht,h⟩:=h;replace h:=g_ h ab;obtain⟨i1,hx,h⟩:=h;replace h:=VF h ab;obtain⟨av9,D3,aoY,h⟩:=h;replace h:=VF h ab;obtain⟨av5,D1,aoW,h⟩:=h;replace h:=VF h ab;obtain⟨afq,UI,aoZ,h⟩:=h;have key:∀{s:Sem Value},(∃r w',s.run P w=.ok r w'/\dA K w0 phx M B w B' v r w')->s=Instr.sliceAt t (a.eval x) (av9.map λi=>.int D3 i) (av5.map λi=>.int D1 i) (afq.map λi=>.int UI i) ->
    Oper.wp P ⟨c?,.slice t x lo ac ry,type,jz,after,Dt⟩ a w Kn Q:=by
   rintro s ⟨r,w',O,R⟩ rfl;refine hd ⟨r,w',?_,R⟩;simp only[execOp,aoY,aoW,aoZ];simp[O]
  cases dx:E.A with
  |true=>
   rw[dx,cond_true]at h;cases ty<;>try(cases h;done)
   obtain⟨az,r,af,au⟩:=azZ (P:=P) (hT _ _ ht) h hm hx D3 D1 UI;exact key ⟨r,w,af,dA.same hm az au⟩ rfl
  |false=>
  rw[dx,cond_false]at h;cases afq with
  |some m =>obtain⟨az,r,af,au⟩:=azY (P:=P) (hT _ _ ht) h hx D3 D1 UI;exact key ⟨r,w,af,dA.same hm az au⟩ rfl
  |none=>
   cases ty<;>try(cases h;done)
   case str=>
    cases i1<;>try(cases h;done)
    rename_i iF pl;cases iF<;>try(cases h;done)
    have e:=hx.str;obtain⟨az,r,af,au⟩:=az1 (P:=P) h (hT _ _ ht).1 D3 D1 (phx:=phx) (H:=view w M) w;exact key ⟨r,w,by rw[<- e]at af;exact af,dA.same hm az au⟩ rfl
   case sl e =>obtain⟨az,r,af,au⟩:=WK (P:=P) (hT _ _ ht) h hm hx D3 D1;exact key ⟨r,w,af,dA.same hm az au⟩ rfl
   case ar n e =>obtain⟨az,r,af,au⟩:=az0 (P:=P) (hT _ _ ht) h hm hx D3 D1;exact key ⟨r,w,af,dA.same hm az au⟩ rfl
 case fieldAddr s x f =>replace h:=g_ h ab;obtain⟨i1,hx,h⟩:=h;obtain⟨az,r,af,au⟩:=apq (P:=P) (λt ht=>hT _ _ ht) h hx;exact hd (hs.of af (dA.same hm az au))
 case field t x f =>replace h:=g_ h ab;obtain⟨i1,hx,h⟩:=h;obtain⟨az,r,af,au⟩:=apv (P:=P) hT h hx;exact hd (hs.of af (dA.same hm az au))
 case indexAddr t x i =>replace h:=l9 h;obtain⟨ty,ht,h⟩:=h;replace h:=aqr dC h hm ab;obtain⟨i1,hx,h⟩:=h;replace h:=g_ h ab;obtain⟨axj,ac,h⟩:=h;replace h:=K6 h ac;obtain⟨n,k,LP,h⟩:=h;obtain⟨az,r,af,au⟩:=auf (P:=P) (k:=k) (hT _ _ ht) h hx;rw[<- LP]at af;exact hd (hs.of af (dA.same hm az au))
 case index t x i=>
  replace h:=l9 h;obtain⟨ty,ht,h⟩:=h;replace h:=g_ h ab;obtain⟨i1,hx,h⟩:=h;replace h:=g_ h ab;obtain⟨axj,ac,h⟩:=h;replace h:=K6 h ac;obtain⟨n,k,LP,h⟩:=h;cases ty with
  |str=>
   have aQ:∃l,i1=.sc .str l:=by
    cases i1<;>try(cases h;done)
    rename_i iF pl;cases iF<;>first|exact⟨_,rfl⟩|cases h
   obtain⟨l,rfl⟩:=aQ;have e:=hx.str;obtain⟨az,r,af,au⟩:=auh (P:=P) h (hT _ _ ht).1 k (phx:=phx) (H:=view w M) w;rw[<- LP,<- e]at af;exact hd (hs.of af (dA.same hm az au))
  |ar m e =>obtain⟨az,r,af,au⟩:=aug (P:=P) (hT _ _ ht) h hx k;rw[<- LP]at af;exact hd (hs.of af (dA.same hm az au))
  |_=>
   cases i1<;>try(cases h;done)
   rename_i iF pl;cases iF<;>cases h
 case range t x=>
  replace h:=l9 h;obtain⟨ty,ht,h⟩:=h;replace h:=afk h;obtain⟨ac,h⟩:=h;have:=eX ac;subst this;replace h:=g_ h ab;obtain⟨i1,hx,h⟩:=h;cases i1<;>try(cases h;done)
  rename_i iF pl;cases iF<;>try(cases h;done)
  replace h:=Dk h;obtain⟨hid,h⟩:=h;cases h;have e:=hx.str;obtain⟨r,w',af,au⟩:=ax4 (P:=P) (hT _ _ ht).1 hid (l:=pl) hm;rw[<- e]at af;exact hd (hs.of af au)
 case next x b=>
  cases b<;>try(cases h;done)
  replace h:=g_ h ab;obtain⟨i1,hx,h⟩:=h;obtain⟨r,w',af,au⟩:=av4 (P:=P) h hm hx type;exact hd (hs.of af au)
 case extract x i =>replace h:=g_ h ab;obtain⟨i1,hx,h⟩:=h;obtain⟨az,r,af,au⟩:=api (P:=P) h hx w;refine hd (hs.of af (dA.same hm az ?_));exact au.aAO (apj h hx)
 case makeFunc fn first cap=>
  cases fn<;>try(cases h;done)
  rename_i f;replace h:=ax.cK h;obtain⟨pa,c7,O,h⟩:=h;obtain⟨e1,adD⟩:=yV ab O;rw[e1]at h;replace h:=ax.cK h;obtain⟨I3,b9,R,h⟩:=h;obtain⟨aU,ata⟩:=yV ab R;rw[aU]at h;replace h:=ax.cK h;obtain⟨c_,vY,af,h⟩:=h;cases h;obtain⟨aD,bD,X0,eY⟩:=aaT af hm (gO.cg adD ata);refine hd ⟨.func (.func f) (first.map a.eval) (cap.map a.eval),w,by simp[execOp,Instr.makeFunc],phx,aD,bD,X0,_,eY,?_⟩;have cm:pa.length=(first.toList.map a.eval).length:=adD.length;rw[cm,Ct,Qq];congr 1<;>(apply Cy;simp)
 case makeMap t r=>
  cases r<;>try(cases h;done)
  replace h:=l9 h;obtain⟨p,hp,h⟩:=h;replace h:=Dk h;obtain⟨hid,h⟩:=h;cases h;obtain⟨r,w',O,R⟩:=avm (P:=P) (t:=t) hid p.1 p.2 hm;exact hd (hs.of O R)
 case insert t m k x =>replace h:=l9 h;obtain⟨p,hp,h⟩:=h;replace h:=g_ h ab;obtain⟨axr,HI,h⟩:=h;replace h:=g_ h ab;obtain⟨Br,sx,h⟩:=h;replace h:=g_ h ab;obtain⟨i1,m5,h⟩:=h;obtain⟨w3,Pv,aL,yA,pG⟩:=hz _ _ hp;obtain⟨rfl,w',aD,af,au,aY⟩:=aeh (P:=P) h aL yA hm HI sx m5;exact XV (w':=w') (by simp[execOp,af]) (am _ _ ⟨phx,aD,au,aY,rfl⟩)
 case mapUpdate t m k x =>replace h:=l9 h;obtain⟨p,hp,h⟩:=h;replace h:=g_ h ab;obtain⟨axr,HI,h⟩:=h;replace h:=g_ h ab;obtain⟨Br,sx,h⟩:=h;replace h:=g_ h ab;obtain⟨i1,m5,h⟩:=h;obtain⟨w3,Pv,aL,yA,pG⟩:=hz _ _ hp;obtain⟨rfl,w',aD,af,au,aY⟩:=aeh (P:=P) h aL yA hm HI sx m5;exact XV (w':=w') (by simp[execOp,af]) (am _ _ ⟨phx,aD,au,aY,rfl⟩)
 case lookup t x i ok =>replace h:=g_ h ab;obtain⟨i1,m5,h⟩:=h;replace h:=g_ h ab;obtain⟨Br,sx,h⟩:=h;obtain⟨az,r,af,au⟩:=avd (P:=P) hz h hm m5 sx;exact hd (hs.of af (dA.same hm az au))
 case makeInterface t x =>replace h:=l9 h;obtain⟨ty,ht,h⟩:=h;replace h:=afk h;obtain⟨ak,h⟩:=h;replace h:=g_ h ab;obtain⟨i1,m5,h⟩:=h;replace h:=ax.cK h;obtain⟨y,c7,O,h⟩:=h;cases h;obtain⟨cs,aB,aD,bD,X0,_,_,f2⟩:=B1 O hm m5;refine hd ⟨.iface t (a.eval x),w,?_,phx,aD,bD,X0,cs,f2 rfl,by rw[aB]⟩;have:=avl (P:=P) (hT _ _ ht) (by simpa using ak) (a.eval x) w;simp only[execOp];simp[this]
 case typeAssert x xT uK ok =>replace h:=g_ h ab;obtain⟨i1,m5,h⟩:=h;obtain⟨az,r,af,au⟩:=akW (P:=P) hT (xT:=xT) h m5 w;exact hd (hs.of af (dA.same hm az au))
 case call c=>
  obtain⟨RL,args,d'⟩:=c;cases RL<;>try(cases h;done)
  case builtin b=>
   obtain⟨a_,c7,O,R⟩:=ax.cK h;obtain⟨e,dl⟩:=yV ab O;rw[e]at R;have bh:(args.toList.map a.eval).toArray=args.map a.eval:=by apply Cy;simp
   have key:∀cs,hs P K w0 phx M B w B' v (Go.builtin b d' type cs (args.map a.eval)):=λcs=>by obtain⟨r,w',af,au⟩:=alO (P:=P) hT R hm dl type cs;rw[bh]at af;exact⟨r,w',af,au⟩
   exact hd (key _)
  case value f=>
   replace h:=g_ h ab;obtain⟨axh,hf,h⟩:=h;obtain⟨a_,c7,O,R⟩:=ax.cK h;obtain⟨e,dl⟩:=yV ab O;rw[e]at R;have bh:(args.toList.map a.eval).toArray=args.map a.eval:=by apply Cy;simp
   cases axh<;>try(cases R;done)
   case clo Aj dT c_=>
    obtain⟨us,aC,hf⟩:=hf;obtain⟨wE,DD⟩:=RK (P:=P) dC R hm (RW aC dl);refine PK hf wE ?_;have jb:(us.take dT++(args.toList.map a.eval++us.drop dT)).toArray=(us.take dT).toArray++args.map a.eval++(us.drop dT).toArray:=by rw[<- bh];simp
    rw[<- jb];refine DD.mono ?_;rintro e w' ⟨b5,rfl,bh⟩;exact⟨b5,rfl,am b5 w' bh⟩
   case sc t x=>
    cases t<;>try(cases R;done)
    obtain⟨cs,my,hf⟩:=hf;have:=aI.GU.1 my;subst this;obtain⟨Aj,hfn,wE,DD⟩:=aao (P:=P) dC R hm dl;have hf:a.eval f=.func (.func Aj) #[] #[]:=by rw[hf];simp[cB,ag.isAgg,hfn]
    refine PK hf wE ?_;have jb:(args.toList.map a.eval).toArray=#[]++args.map a.eval ++ #[]:=by rw[bh];simp
    rw[<- jb];refine DD.mono ?_;rintro e w' ⟨b5,rfl,bh⟩;exact⟨b5,rfl,am b5 w' bh⟩
end
end Yp
namespace Yp
open Go
def hb:=@List.append_assoc
def f':=@List.mem_cons
def nW:=@List.mem_cons_of_mem
def pV(g:Nat->av)(i:Nat)(v:av):Nat->av:=λj=>if j=i then v else g j
def dR.wy(f i:Nat):dR.mw f .e i=.bad:=by cases f<;>rfl
def jI(h:a=b):Nat.beq a b=true:=by subst h;exact F8 a
def hM(h:a≠b):Nat.beq a b=false:=by
 cases aa:Nat.beq a b with
 |false=>rfl
 |true=>exact absurd (fU aa) h
def dR.G1:∀(f:Nat) (t:dR) (i j:Nat) (v:av),j≠i->(t.set f i v).mw f j=t.mw f j
 |0,t,i,j,v,h=>rfl
 |f+1,.e,i,j,v,h=>by
  simp only[dR.set];by_cases ac:i=0
  .rw[jI ac]
   simp only[cond,dR.mw];rw[hM (by omega:j≠0)];simp only[ dR.wy]
   grind
  rw[hM ac];by_cases hm:i%2=1
  .rw[jI hm]
   simp only[cond,dR.mw];by_cases ap:j=0
   .rw[jI ap]
   rw[hM ap];by_cases am:j%2=1
   .rw[jI am];simp only[dR.G1 f .e (i/2) (j/2) v J,dR.wy]
   rw[hM am];simp only[dR.wy]
  rw[hM hm];simp only[cond,dR.mw];by_cases ap:j=0
  .rw[jI ap]
  rw[hM ap];by_cases am:j%2=1
  .rw[jI am];simp only[dR.wy]
  rw[hM am];simp only[dR.G1 f .e (i/2-1) (j/2-1) v J,dR.wy]
 |f+1,.n w l r,i,j,v,h=>by
  simp only[dR.set];by_cases ac:i=0
  .rw[jI ac]
   simp only[cond,dR.mw];rw[hM (by omega:j≠0)]
  rw[hM ac];by_cases hm:i%2=1
  .rw[jI hm]
   simp only[cond,dR.mw];by_cases ap:j=0
   .rw[jI ap]
   rw[hM ap];by_cases am:j%2=1
   .rw[jI am];simp only[dR.G1 f l (i/2) (j/2) v J]
   rw[hM am]
  rw[hM hm];simp only[cond,dR.mw];by_cases ap:j=0
  .rw[jI ap]
  rw[hM ap];by_cases am:j%2=1
  .rw[jI am]
  rw[hM am];simp only[dR.G1 f r (i/2-1) (j/2-1) v J]
def dR.Dp:∀(f:Nat) (t:dR) (i:Nat) (v:av),(t.set f i v).mw f i=v\/(t.set f i v).mw f i=.bad/\2^f<=i+1
 |0,t,i,v=>.inr ⟨rfl,bp⟩
 |f+1,.e,i,v=>by
  simp only[dR.set];by_cases ac:i=0
  .rw[jI ac];left;simp only[cond,dR.mw,jI ac]
  rw[hM ac];by_cases hm:i%2=1
  .rw[jI hm]
   simp only[cond,dR.mw,hM ac,jI hm];rcases dR.Dp f .e (i/2) v with h|h
   .grind
   grind
  rw[hM hm];simp only[cond,dR.mw,hM ac,hM hm];rcases dR.Dp f .e (i/2-1) v with h|h
  .grind
  grind
 |f+1,.n w l r,i,v=>by
  simp only[dR.set];by_cases ac:i=0
  .rw[jI ac];left;simp only[cond,dR.mw,jI ac]
  rw[hM ac];by_cases hm:i%2=1
  .rw[jI hm]
   simp only[cond,dR.mw,hM ac,jI hm];rcases dR.Dp f l (i/2) v with h|h
   .grind
   grind
  rw[hM hm];simp only[cond,dR.mw,hM ac,hM hm];rcases dR.Dp f r (i/2-1) v with h|h
  .grind
  grind
def aM.wx(s:aM)(v:av)(h:j≠i):(s.mc i v).b0 j=s.b0 j:=dR.G1 40 s.t i j v h
def aM.G0(s:aM)(i:Nat)(v:av):(s.mc i v).b0 i=v\/(s.mc i v).b0 i=.bad:=(dR.Dp 40 s.t i v).imp id (·.1)
def aM.aqk(s:aM)(v:av)(ac:i<1000000):(s.mc i v).b0=pV s.b0 i v:=by
 funext j;unfold pV;split
 .rename_i h;subst h
  rcases dR.Dp 40 s.t j v with h|h
  .exact h
  omega
 rename_i h;exact s.wx v h
def aeM:∀(l:List (Nat×aT)) (id:Nat) (b:aT) (j:Nat),rr (Bt l id b) j=if j=id then b else rr l j
 |[],id,b,j=>by
  simp only[Bt,rr];by_cases h:j=id
  .rw[jI h.symm,if_pos h];rfl
  rw[hM (FL h),if_neg h];rfl
 |(i,c)::l,id,b,j=>by
  simp only[Bt];by_cases ac:i=id
  .rw[jI ac]
   simp only[cond,rr];by_cases h:j=id
   .rw[jI h.symm,if_pos h]
   rw[hM (FL h),if_neg h,hM J]
  rw[hM ac];simp only[cond,rr];by_cases h:i=j
  .rw[jI h,if_neg J]
  rw[hM h];exact aeM l id b j
def aM.An(s:aM)(id:Nat)(b:aT):(s.oz id b).aW=c' s.aW id b:=by funext j;exact aeM s.h id b j
def aM.oc(s:aM):∀l:List (Nat×aT),(s.ek l).aW=dG s.aW l
 |[]=>rfl
 |(i,b)::l=>by rw[y4,<- aM.oc s l];exact aM.An _ i b
def aM.qS(s:aM):∀l:List (Nat×aT),(s.ek l).b0=s.b0
 |[]=>rfl
 |(i,b)::l=>aM.qS s l
def aM.WB(s:aM):∀l:List (Nat×aT),(s.ek l).w=l.map (·.1)++s.w
 |[]=>rfl
 |(i,b)::l=>by show i::(s.ek l).w=_;rw[aM.WB s l];rfl
def aP.fA{γ:Type}(t:aP α)(f:α->aP β)(k:β->aP γ):(t.bind f).bind k=t.bind λa=>(f a).bind k:=by
 induction t with
 |fail=>rfl
 |leaf a=>rfl
 |br c x y hx hy=>simp only[aP.bind,hx,hy]
 |chk c x hx=>simp only[aP.bind,hx]
 |bo d o g hg=>simp only[aP.bind,hg]
 |cs d e o kn hB hR ak aC ai=>simp only[aP.bind,ak,aC,ai]
def aP.vD{β:Type}:Option β->aP β
 |some b=>.leaf b
 |none=>.fail
def aP.Vo{o:Option β}{k:β->aP ρ}{r:ρ}(h:((aP.vD o).bind k).bH=some r):∃b,o=some b/\(k b).bH=some r:=by
 cases o with
 |none=>cases h
 |some b=>exact⟨b,rfl,h⟩
def aP.xb{α β:Type}(f:α->Option β):∀(t:aP α),(t.nI f)=t.bind λa=>aP.vD (f a)
 |.fail=>rfl
 |.leaf a=>by cases h:f a<;>simp only[aP.nI,aP.bind,aP.vD,h]
 |.br c x y=>by simp only[aP.nI,aP.bind,aP.xb f x,aP.xb f y]
 |.chk c x=>by simp only[aP.nI,aP.bind,aP.xb f x]
 |.bo d o k=>by simp only[aP.nI];congr;funext a;exact aP.xb f (k a)
 |.cs d e o kn hB hR=>by
  simp only[aP.nI];congr
  .funext a;exact aP.xb f (kn a)
  .funext i a;exact aP.xb f (hB i a)
  funext a;exact aP.xb f (hR a)
def k8{α:Type}:∀t:aP α,t.bind .leaf=t
 |.fail=>rfl
 |.leaf a=>rfl
 |.br c x y=>by simp only[aP.bind,k8 x,k8 y]
 |.chk c x=>by simp only[aP.bind,k8 x]
 |.bo d o k=>by simp only[aP.bind];congr;funext a;exact k8 (k a)
 |.cs d e o kn hB hR=>by
  simp only[aP.bind];congr
  .funext a;exact k8 (kn a)
  .funext i a;exact k8 (hB i a)
  funext a;exact k8 (hR a)
def aP.apg{d:α}{o:Option α}{k:α->aP β}{r:β}(h:(aP.bo d o k).bH=some r):∃a,o=some a/\(k a).bH=some r:=by
 cases o with
 |none=>cases h
 |some a=>exact⟨a,rfl,h⟩
def uI(bz ay:aM):Prop:=(∀t,ay.b0 t=bz.b0 t\/ay.b0 t=.bad\/∃ty x,ay.b0 t=.sc ty x/\iN ty (bz.b0 t)=some x)/\ay.aW=bz.aW
def uI.refl(s:aM):uI s s:=⟨λ_=>.inl rfl,rfl⟩
def uI.trans{bz ay eh:aM}(h:uI bz ay)(k:uI ay eh):uI bz eh:=by
 refine⟨λt => ?_,k.2.trans h.2⟩;rcases k.1 t with bF|bF|⟨ty,x,bF,b2⟩
 .rw[bF];exact h.1 t
 .grind
 rcases h.1 t with O|O|⟨ajg,xE,O,R⟩
 .grind
 .rw[O]at b2;cases b2
 rw[O]at b2;obtain⟨e,hx⟩:=wi b2
 grind
def dF.Pz{phx:cf}{H:cj}{bz ay:aM}{a:Act}(h:dF phx H bz.aW bz.b0 a)(bw:uI bz ay):dF phx H ay.aW ay.b0 a:=by
 intro t;rw[bw.2];rcases bw.1 t with k|k|⟨ty,x,bF,b2⟩
 .rw[k];exact h t
 .rw[k];trivial
 rw[bF];exact oC b2 (h t)
def d5(D:List Nat)(s cy:aM):Prop:=(∀t,t∉D->cy.b0 t=s.b0 t)/\∃ge,cy.w=ge++s.w/\∀id,id∉ge->cy.aW id=s.aW id
def d5.refl(D:List Nat)(s:aM):d5 D s s:=⟨λ_ _=>rfl,[],rfl,λ_ _=>rfl⟩
def d5.trans{bz ay eh:aM}(h:d5 D bz ay)(k:d5 kI ay eh):d5 (D++kI) bz eh:=by
 obtain⟨O,ge,R,af⟩:=h;obtain⟨bF,awo,b2,dy⟩:=k;refine⟨λt ht => ?_,awo++ge,by rw[b2,R,hb],λid hid => ?_⟩
 .grind
 grind
def d5.mono{s cy:aM}(h:d5 D s cy)(aJ:∀t,t∈D->t∈kI):d5 kI s cy:=⟨λt ht=>h.1 t λah=>ht (aJ t ah),h.2⟩
def d5.sub{E:List Nat}{bz ay eh:aM}(h:d5 D bz ay)(k:d5 kI ay eh)(aJ:∀t,t∈D->t∈E)(DE:∀t,t∈kI->t∈E):d5 E bz eh:=
 (h.trans k).mono λt ht=>(hG.1 ht).elim (aJ t) (DE t)
def d5.mc{s:aM}(i:Nat)(v:av)(h:i∈D):d5 D s (s.mc i v):=
 ⟨λt ht=>s.wx v λe=>ht (e▸h),[],rfl,λ_ _=>rfl⟩
def d5.ek{s:aM}(l:List (Nat×aT))(D:List Nat):d5 D s (s.ek l):=by
 refine⟨λt _=>by rw[aM.qS],l.map (·.1),aM.WB s l,λid hid => ?_⟩;rw[aM.oc];have:∀(l:List (Nat×aT)) (d:aT),id∉l.map (·.1)->oq l id d=d:=by
  intro l d h;induction l with
  |nil=>rfl
  |cons p l ih=>
   simp only[p6,f',not_or]at h;simp only[oq];rw[hM (FL h.1)]
   grind
 exact this l _ hid
def XS:∀(l:List Nat) (s:aM),∃cy:aM,cy.aW=s.aW/\cy.w=s.w/\(∀t,t∉l->cy.b0 t=s.b0 t)/\(∀t,t∈l->cy.b0 t=.bad)/\(∀(γ:Type 1) (k:aM->γ),Ki s l k=k cy)
 |[],s=>⟨s,rfl,rfl,λ_ _=>rfl,λt h=>by simp at h,λ_ _=>rfl⟩
 |i::l,s=>by
  obtain⟨cy,O,R,af,au,aY⟩:=XS l (s.mc i .bad);refine⟨cy,O,R,λt ht => ?_,λt ht => ?_,λγ k => ?_⟩
  .simp at ht
   rw[af t ht.2,s.wx _ ht.1]
  .by_cases hl:t∈l
   .grind
   have:t=i:=by simpa[hl]using ht
   subst this;rw[af t hl];rcases s.G0 t .bad with h|h<;>exact h
  simp only[Ki,aM.Jx];exact aY γ k
def aaE(l:List aM):∀(keep:List Nat),∃ks:List (Nat×ag),(∀p∈ks,p.1∈keep)/\∀(γ:Type 1) (k:List (Nat×ag)->γ),yc l keep k=k ks
 |[]=>⟨[],λp h=>by simp at h,λ_ _=>rfl⟩
 |i::keep=>by
  obtain⟨ks,O,R⟩:=aaE l keep;cases l with
  |nil=>exact⟨[],λp h=>by simp at h,λ_ _=>rfl⟩
  |cons s m=>
   cases ht:Xz (s.b0 i) with
   |none=>exact⟨ks,λp hp=>nW _ (O p hp),λγ k=>by simp only[yc,ht];exact R γ k⟩
   |some t=>
    cases ah:m.all (ahQ i t) with
    |true=>
     refine⟨(i,t)::ks,λp hp => ?_,λγ k => ?_⟩
     .grind
     simp only[yc,ht];rw[ah];rw[R];exact L3 t _
    |false=>
     refine⟨ks,λp hp=>nW _ (O p hp),λγ k => ?_⟩;simp only[yc,ht]
     grind
def ah2:∀(ks:List (Nat×ag)) (p:C7 ks) (s:aM),∃cy:aM,cy.aW=s.aW/\cy.w=s.w/\(∀t,t∉ks.map (·.1)->cy.b0 t=s.b0 t) /\
  (∀bz:aM,rc bz ks=some p->∀t,t∈ks.map (·.1)->cy.b0 t=.bad\/∃ty x,cy.b0 t=.sc ty x/\iN ty (bz.b0 t)=some x)/\(∀(γ:Type 1) (k:aM->γ),OI s k ks p=k cy)
 |[],p,s=>⟨s,rfl,rfl,λ_ _=>rfl,λ_ _ t h=>by simp at h,λ_ _=>rfl⟩
 |(i,ty)::ks,p,s=>by
  obtain⟨cy,O,R,af,au,aY⟩:=ah2 ks p.2 (s.mc i (.sc ty p.1));refine⟨cy,O,R,λt ht => ?_,λbz ab t ht => ?_,λγ k => ?_⟩
  .simp only[p6,f',not_or]at ht
   rw[af t ht.2,s.wx _ ht.1]
  .have hg:iN ty (bz.b0 i)=some p.1/\rc bz ks=some p.2:=by
    simp only[rc]at ab;cases bh:iN ty (bz.b0 i) with
    |none=>rw[bh]at ab;cases ab
    |some x=>
     cases aa:rc bz ks with
     |none=>rw[bh,aa]at ab;cases ab
     |some y=>rw[bh,aa]at ab;cases ab;exact⟨rfl,rfl⟩
   by_cases hl:t∈ks.map (·.1)
   .exact au bz hg.2 t hl
   have:t=i:=by simpa[hl]using ht
   subst this;rw[af t hl];rcases s.G0 t (.sc ty p.1) with h|h
   .exact .inr ⟨ty,p.1,h,hg.1⟩
   exact .inl h
  simp only[OI,aM.Jx];exact aY γ k
def Kv(D:List Nat)(s bz:aM):Prop:=
 (∀t,t∉D->s.b0 t=bz.b0 t\/∃ty x,s.b0 t=.sc ty x/\iN ty (bz.b0 t)=some x)/\∃ge,bz.w=ge++s.w/\∀id,id∉ge->bz.aW id=s.aW id
def d5.ap5{s bz:aM}(h:d5 D s bz):Kv D s bz:=⟨λt ht=>.inl (h.1 t ht).symm,h.2⟩
def UC{s:aM}{all keep:List Nat}(am:∀t,t∈keep->t∈all){t:aP aM}{k:aM->aP ρ}{r:ρ}(h:((H9 s all keep t).bind k).bH=some r):
  (t.bind k).bH=some r \/
  ∃(ks:List (Nat×ag)) (p:C7 ks),(t.bind λbz=>aP.vD (bif Nat.beq bz.w.length s.w.length then rc bz ks else none)).bH=some p /\
   ∀bz,Kv all s bz->bz.w.length=s.w.length->rc bz ks=some p->∃ay,uI bz ay/\d5 all s ay/\(k ay).bH=some r:=by
 unfold H9 at h;rw[aP.aeE]at h;cases ah:t.oZ.all (λcy=>Nat.beq cy.w.length s.w.length) with
 |false=>rw[ah]at h;exact .inl h
 |true=>
  rw[ah,cond_true]at h;obtain⟨ks,asD,arM⟩:=aaE t.oZ keep;rw[arM]at h;cases bs:Nat.beq ks.length 0 with
  |true=>rw[bs,cond_true]at h;exact .inl h
  |false=>
   rw[bs,cond_false]at h;simp only[aP.bind]at h;obtain⟨p,hp,h⟩:=aP.apg h;rw[aP.xb]at hp;refine .inr ⟨ks,p,hp,λbz hf bw hg => ?_⟩;obtain⟨cy,co,cV,fy,h1,Cd⟩:=XS all s;obtain⟨ay,bF,b2,dy,fl,fZ⟩:=ah2 ks p cy;rw[Cd,fZ]at h;have az:bz.aW=s.aW:=by
    obtain⟨_,ge,O,R⟩:=hf;have:ge=[]:=by have:=congrArg List.length O;rw[dd]at this;exact iR.1 J
    subst this;funext id;exact R id bp
   have asC:∀t,t∈ks.map (·.1)->t∈all:=λt ht=>by obtain⟨q,aQ,rfl⟩:=zV.1 ht;exact am _ (asD q aQ)
   refine⟨ay,⟨λt => ?_,by rw[bF,co,az]⟩,⟨λt DP => ?_,[],by rw[b2,cV];rfl,λid _=>by rw[bF,co]⟩,h⟩
   .by_cases ads:t∈ks.map (·.1)
    .rcases fl bz hg t ads with h|h
     .exact .inr (.inl h)
     exact .inr (.inr h)
    rw[dy t ads];by_cases DP:t∈all
    .exact .inr (.inl (h1 t DP))
    rw[fy t DP];rcases hf.1 t DP with h|h
    .exact .inl h
    exact .inr (.inr h)
   rw[dy t λah=>DP (asC t ah),fy t DP]
def xW:=@List.mem_filter
def KS:=@Nat.testBit_or
def P_:=@Bool.true_and
structure ff where
 i:Nat
 o:Oper
 v:av
 al:Bool
 rb:List Nat
 wr:List (Nat×aT)
def ln(g:Nat->av)(c?:Option Nat)(v:av):Nat->av:=match c? with|some d=>pV g d v|none=>g
def jA(s:aM)(c?:Option Nat)(v:av):aM:=match c? with|some d=>s.mc d v|none=>s
def fm:List ff->(Nat->Bool)->(Nat->av)->Nat->av
 |[],_,g=>g
 |e::bA,L,g=>fm bA L (bif L e.i then ln g e.o.dst e.v else g)
def em:List ff->(Nat->Bool)->(Nat->aT)->Nat->aT
 |[],_,B=>B
 |e::bA,L,B=>em bA L (bif L e.i then dG B e.wr else B)
def x1(ops:List Oper)(o:Oper)(g:Nat->av):Prop:=o.guard=none\/∃j mg d,o.guard=some (j,mg)/\(ops[j]?).bind (·.dst)=some d/\g d=.kb mg
def FT(ops:List Oper)(o:Oper)(g:Nat->av):Prop:=∃j mg d,o.guard=some (j,mg)/\(ops[j]?).bind (·.dst)=some d/\(g d=.kb (!mg)\/g d=.undef)
def tb(v0 v:av):Prop:=v=v0\/∃c,v0=.sc .bool c/\v=.kb c
def SO(g:Nat->av):Operand->av
 |.tmp t=>g t
 |.func f=>.clo f 0 []
 |_=>.bad
def xL(E:dk)(ops:List Oper)(o:Oper)(g:Nat->av)(B:Nat->aT)(v0:av)(rb:List Nat)(wr:List (Nat×aT)):Prop:=
 ∃(F dT:Nat) (c_:List iO) (tB:gz) (a_:List av) (s ay:aM) (f:Operand) (args:Array Operand) (d':Array TypeId) (b?:Nat),o.op=.call ⟨.value f,args,d'⟩/\E.I F=some tB/\V? ops o f=true/\SO g f=.clo F dT c_ /\
  (∀cD b9,(∀t,Nat.testBit (k4 ops o) t=true->cD t=g t)->(mD ey args.toList).a7 cD b9=some (a_,b9))/\(∀id,id∈qy s++wr.map (·.1)->s.aW id=B id)/\Gy s (wj dT c_ a_)=true/\(tB b? (wj dT c_ a_) s).bH=some (v0,ay)/\wr=nS s ay/\rb=qy s
def Kt(E:dk)(ops:List Oper)(nt:Nat)(dt:Bool)(g:Nat->av)(B:Nat->aT)(e:ff):Prop:=
 (∀d,e.o.dst=some d->d<nt) /\
 ((x1 ops e.o g/\∃v0,tb v0 e.v/\(sJ E e.o).a7 g B=some (v0,dG B e.wr) /\
  (dt=true->∀cD b9,(∀t,Nat.testBit (k4 ops e.o) t=true->cD t=g t)->(∀id,id∈e.rb->b9 id=B id)->(sJ E e.o).a7 cD b9=some (v0,dG b9 e.wr))) \/
  (FT ops e.o g/\e.v=.undef/\e.wr=[]/\e.rb=[]) \/
  (dt=true/\x1 ops e.o g/\∃v0,tb v0 e.v/\xL E ops e.o g B v0 e.rb e.wr))
def x0(E:dk)(ops:List Oper)(nt:Nat)(dt:Bool):List ff->(Nat->av)->(Nat->aT)->Prop
 |[],_,_=>True
 |e::bA,g,B=>Kt E ops nt dt g B e/\x0 E ops nt dt bA (ln g e.o.dst e.v) (dG B e.wr)
def n_:List ff->List po
 |[]=>[]
 |e::bA=>(match e.al,e.rb,e.wr with|false,[],[]=>n_ bA|_,_,_=>⟨e.i,e.al,e.rb,e.wr.map (·.1)⟩::n_ bA)
def ax.ahb(s:aM)(m:ax α):∀(fF:Nat) (fx:List Nat) (wr:List (Nat×aT)) (k:α×PW->aP β) (r:β),((m.run s fF fx wr).bind k).bH=some r ->
  ∃a e,(k (a,e)).bH=some r/\m.a7 s.b0 (dG s.aW wr)=some (a,dG s.aW e.wr) /\
   (∀cD b9,(∀t,Nat.testBit e.rt t=true->cD t=s.b0 t)->(∀id,id∈e.rb->b9 id=s.aW id)->m.a7 cD (dG b9 wr)=some (a,dG b9 e.wr)) /\
   (∀t,Nat.testBit fF t=true->Nat.testBit e.rt t=true)/\(∀id,id∈fx->id∈e.rb):=by
 induction m with
 |fail=>intro fF fx wr k r h;cases h
 |ret a=>intro fF fx wr k r h;exact⟨a,_,h,rfl,λ_ _ _ _=>rfl,λ_ h=>h,λ_ h=>h⟩
 |chk c m ih=>
  intro fF fx wr k r h;simp only[ax.run,aP.bind,aP.bH,an,ax.a7]at h ⊢;cases c with
  |true=>simpa using ih fF fx wr k r h
  |false=>cases h
 |br c x y hx hy=>
  intro fF fx wr k r h;simp only[ax.run,aP.bind,aP.bH,T,ax.a7]at h ⊢;cases c with
  |true=>simpa using hx fF fx wr k r h
  |false=>simpa using hy fF fx wr k r h
 |bo d o m ih=>
  intro fF fx wr k r h;cases o with
  |some a=>exact ih a fF fx wr k r h
  |none=>cases h
 |rt i m ih =>intro fF fx wr k r h;obtain⟨a,e,O,R,af,au,aY⟩:=ih (s.b0 i) (fF|||2^i) fx wr k r h;have ac:Nat.testBit e.rt i=true:=au i (by simp[KS]);refine⟨a,e,O,R,λcD b9 hg aa => ?_,λt ht=>au t (by simp[KS,ht]),aY⟩;simp only[ax.a7];rw[hg i ac];exact af cD b9 hg aa
 |rb i m ih=>
  intro fF fx wr k r h;obtain⟨a,e,O,R,af,au,aY⟩:=ih (oq wr i (s.aW i)) fF (i::fx) wr k r h;have ac:i∈e.rb:=aY i bp;refine⟨a,e,O,R,λcD b9 hg aa => ?_,au,λid hid=>aY id (by simp[hid])⟩;simp only[ax.a7];have:dG b9 wr i=oq wr i (s.aW i):=by unfold dG;rw[aa i ac]
  rw[this];exact af cD b9 hg aa
 |eZ i b m ih=>
  intro fF fx wr k r h;obtain⟨a,e,O,R,af,au,aY⟩:=ih fF fx ((i,b)::wr) k r h;refine⟨a,e,O,?_,λcD b9 hg aa => ?_,au,aY⟩
  .simp only[ax.a7];rw[<- y4];exact R
  simp only[ax.a7];rw[<- y4];exact af cD b9 hg aa
def vS{c?:Option Nat}{s:aM}{v:av}{yM:aM->aP α}{k:α->aP β}{r:β}(h:((iL nt c? s v yM).bind k).bH=some r):
  (∀d,c?=some d->d<nt)/\((yM (jA s c? v)).bind k).bH=some r:=by
 cases c? with
 |none=>exact⟨λd h=>by(cases h),h⟩
 |some d=>
  simp only[iL]at h;cases aJ:Nat.blt d nt with
  |false=>rw[aJ]at h;cases h
  |true =>rw[aJ,aM.Jx]at h;exact⟨λyd bE=>by cases bE;simpa using aJ,h⟩
def sN{s:aM}{c?:Option Nat}{v:av}(eE:nt<=1000000)(aJ:∀d,c?=some d->d<nt):(jA s c? v).b0=ln s.b0 c? v:=by
 cases c? with
 |none=>rfl
 |some d=>exact s.aqk v (gN (aJ d rfl) eE)
def lJ{s:aM}{c?:Option Nat}{v:av}:(jA s c? v).aW=s.aW:=by cases c?<;>rfl
def NS{s:aM}{c?:Option Nat}{v:av}:(jA s c? v).w=s.w:=by cases c?<;>rfl
def xh{s:aM}{c?:Option Nat}{v:av}(h:∀d,c?=some d->d∈D):d5 D s (jA s c? v):=by
 cases c? with
 |none=>exact d5.refl D s
 |some d=>exact d5.mc d v (h d rfl)
def acD{ops:List Oper}{o:Oper}{s:aM}{GM skip:aP aM}{k:aM->aP ρ}{r:ρ}(h:((Mo ops o s GM skip).bind k).bH=some r):
  (x1 ops o s.b0/\(GM.bind k).bH=some r)\/(FT ops o s.b0/\(skip.bind k).bH=some r):=by
 unfold Mo at h;cases hg:o.guard with
 |none=>rw[hg]at h;exact .inl ⟨.inl hg,h⟩
 |some auB=>
  obtain⟨j,mg⟩:=auB;rw[hg]at h;simp only at h;cases aJ:(ops[j]?).bind (·.dst) with
  |none=>rw[aJ]at h;cases h
  |some g=>
   rw[aJ]at h;simp only at h;cases aB:s.b0 g<;>rw[aB]at h<;>try(cases h;done)
   .exact .inr ⟨⟨j,mg,g,hg,aJ,.inr aB⟩,h⟩
   rename_i b;cases b<;>cases mg
   .exact .inl ⟨.inr ⟨j,_,g,hg,aJ,aB⟩,h⟩
   .exact .inr ⟨⟨j,_,g,hg,aJ,.inl aB⟩,h⟩
   .exact .inr ⟨⟨j,_,g,hg,aJ,.inl aB⟩,h⟩
   exact .inl ⟨.inr ⟨j,_,g,hg,aJ,aB⟩,h⟩
def uW(o:Oper)(rest:List Oper):(∀d,o.dst=some d->d∈er (o::rest))/\∀t,t∈er rest->t∈er (o::rest):=by
 cases aJ:o.dst with
 |none=>
  have e:er (o::rest)=er rest:=by simp only[er,aJ]
  grind
 |some d=>
  have e:er (o::rest)=d::er rest:=by simp only[er,aJ]
  grind
def Zh{v:av}(h:uS v=some c):v=.sc .bool c:=by
 unfold uS at h;split at h
 .cases h;rfl
 cases h
def FR(E:dk)(ops:List Oper)(nt:Nat)(dt:Bool)(i:Nat)(l:List Oper)(s:aM)(hP:List po)(ay:aM):Prop:=
 ∃(bA:List ff) (bz:aM),bA.map (·.i)=List.range' i l.length/\bA.map (·.o)=l/\x0 E ops nt dt bA s.b0 s.aW/\bz.b0=fm bA (λ_=>true) s.b0/\bz.aW=em bA (λ_=>true) s.aW /\
  uI bz ay/\d5 (er l) s ay/\(dt=true->Jg ops=true/\rF (mn ops []) (hP.reverse++n_ bA)=true)
def ab0{e:ff}{bA:List ff}{hP:List po}{b:List Nat}(bh:e.al=false)(h:rF b ((se true e.i e.rb e.wr hP).reverse++n_ bA)=true):rF b (hP.reverse++n_ (e::bA))=true:=by cases ai:e.rb<;>cases bw:e.wr<;>simp only[se,bh,ai,bw,cond,n_,List.reverse_cons,hb]at h ⊢ <;> exact h
def Wt{E:dk}{ops:List Oper}{o:Oper}{rest:List Oper}{s kE:aM}{hP ab2:List po}{ay:aM}{e:ff}(eE:nt<=1000000)(ac:e.i=i)(aK:e.o=o)(je:Kt E ops nt dt s.b0 s.aW e)
  (hT:kE.b0=ln s.b0 o.dst e.v) (az:kE.aW=dG s.aW e.wr) (dn:d5 (er (o::rest)) s kE)
  (asj:dt=true->∀(b:List Nat) (bA:List ff),rF b (ab2.reverse++n_ bA)=true->rF b (hP.reverse++n_ (e::bA))=true) (h:FR E ops nt dt (i+1) rest kE ab2 ay):FR E ops nt dt i (o::rest) s hP ay:=by
 obtain⟨bA,bz,O,R,af,au,aY,cp,dN,cx⟩:=h;have aJ:=uW o rest;refine⟨e::bA,bz,?_,?_,⟨je,?_⟩,?_,?_,cp,dn.sub dN (λt h=>h) aJ.2,λgu=>⟨(cx gu).1,asj gu _ bA (cx gu).2⟩⟩
 .simp only[p6,ac,O,gL,List.range'_succ]
 .grind
 .grind
 .simp only[fm,aK,<- hT];exact au
 simp only[em,<- az];exact aY
def aP.yi{α β:Type}{k:α->aP β}{r:β}:∀(t:aP α),(t.bind k).bH=some r->∃a,t.bH=some a/\(k a).bH=some r
 |.leaf a,h=>⟨a,rfl,h⟩
 |.br c x y,h=>by
  cases c with
  |true=>exact aP.yi x h
  |false=>exact aP.yi y h
 |.chk c x,h=>by
  cases c with
  |true=>exact aP.yi x h
  |false=>cases h
 |.bo d o f,h=>by
  cases o with
  |none=>cases h
  |some a=>exact aP.yi (f a) h
 |.cs d e o kn hB hR,h=>by
  cases o with
  |none=>cases h
  |some l=>
   cases l with
   |nx a=>exact aP.yi (kn a) h
   |ex i a=>exact aP.yi (hB i a) h
   |rt a=>exact aP.yi (hR a) h
def ap3(s:aM)(f:Operand):Dl s f=SO s.b0 f:=by cases f<;>rfl
def aul{E:dk}{ops:List Oper}{o:Oper}{s:aM}{t:aP (av×aM)}{p:av×aM}(h:MX E ops o s=some t)(hp:t.bH=some p):xL E ops o s.b0 s.aW p.1 (qy s) (nS s p.2):=by
 unfold MX at h;split at h
 .rename_i f args d' tK
  split at h
  .rename_i F dT c_ hf
   split at h
   .rename_i tB dW
    cases h;rw[<- k8 (aP.bind _ _),aP.fA]at hp;obtain⟨a_,gC,O,R,af,_,_⟩:=ax.ahb s (mD ey args.toList) 0 [] [] _ p hp;rw[k8]at O;cases ah:(Nat.beq (gC.rt|||k4 ops o) (k4 ops o)&&(aft gC.wr&&(afs gC.rb&&(V? ops o f&&Gy s (wj dT c_ a_))))) with
    |false=>rw[ah]at O;cases O
    |true=>
     rw[ah]at O;simp only[cP]at ah;obtain⟨c1,c2,c4,hN,c5⟩:=ah;have vd:gC.rb=[]:=by
      cases bw:gC.rb with
      |nil=>rfl
      |cons x y=>rw[bw]at c4;cases c4
     have DS:gC.wr=[]:=by
      cases bw:gC.wr with
      |nil=>rfl
      |cons x y=>rw[bw]at c2;cases c2
     refine⟨F,dT,c_,tB,a_,s,p.2,f,args,d',_,tK,dW,hN,by rw[<- ap3];exact hf,λcD b9 hg => ?_,λ_ _=>rfl,c5,O,rfl,rfl⟩;have HL:∀t,Nat.testBit gC.rt t=true->Nat.testBit (k4 ops o) t=true:=λt ht=>by
      have:=fU c1
      grind
     have:=af cD b9 (λt ht=>hg t (HL t ht)) (λid hid=>by rw[vd]at hid;cases hid);rw[DS]at this;exact this
   cases h
  cases h
 cases h
def ag6{E:dk}{ops:List Oper}(eE:nt<=1000000):∀(l:List Oper) (top:Bool) (i:Nat) (s:aM) (hP:List po) {ρ:Type} (k:aM->aP ρ) (r:ρ),
  ((pb E ops nv nt dt top i l s hP).bind k).bH=some r->∃ay,FR E ops nt dt i l s hP ay/\(k ay).bH=some r:=by
 intro l;induction l with
 |nil=>
  intro top i s hP ρ k r h;simp only[pb]at h;cases ah:(!dt||(Jg ops&&rF (mn ops []) hP.reverse)) with
  |false=>rw[ah]at h;cases h
  |true =>rw[ah]at h;refine⟨s,⟨[],s,rfl,rfl,trivial,rfl,rfl,uI.refl s,d5.refl _ s,λaJ => ?_⟩,h⟩;subst aJ;simp at ah;exact⟨ah.1,by simpa[n_]using ah.2⟩
 |cons o rest ih=>
  intro top i s hP ρ k r h;have aJ:=uW o rest;rcases acD h with⟨bw,h⟩|⟨bw,h⟩
  .cases et:(bif dt then MX E ops o s else none) with
   |some t=>
    rw[et]at h;rw[aP.fA]at h;obtain⟨p,hp,h⟩:=aP.yi _ h;cases gu:dt with
    |false=>rw[gu]at et;cases et
    |true=>
    rw[gu]at et;have je:=aul et hp;cases Hx:Nat.testBit (yp ops) i with
    |true=>rw[Hx]at h;cases h
    |false=>
    rw[Hx]at h;simp only[aM.Jw,yl]at h;obtain⟨gt,h⟩:=vS h;obtain⟨ay,ai,am⟩:=ih top (i+1) _ _ k r h;subst gu;refine⟨ay,Wt (e:=⟨i,o,p.1,false,qy s,nS s p.2⟩) eE rfl rfl ⟨gt,.inr (.inr ⟨rfl,bw,p.1,.inl rfl,je⟩)⟩ ?_ ?_ ?_ ?_ ai,am⟩
    .rw[sN eE gt,aM.qS]
    .rw[lJ,aM.oc]
    .exact(d5.ek _ _).sub (xh aJ.1) (λt h=>h) (λt h=>h)
    intro _ b bA h;exact ab0 (e:=⟨i,o,p.1,false,qy s,nS s p.2⟩) rfl h
   |none=>
   rw[et]at h;rw[aP.fA]at h;obtain⟨v,gC,h,sq,HD,_,_⟩:=ax.ahb s (sJ E o) 0 [] [] _ r h;simp only[aM.Jw,yl]at h;cases h5:(dt && !(Nat.beq (gC.rt|||k4 ops o) (k4 ops o))) with
   |true=>rw[h5]at h;cases h
   |false=>
    rw[h5,cond_false]at h;have HL:dt=true->∀t,Nat.testBit gC.rt t=true->Nat.testBit (k4 ops o) t=true:=by intro gu t ht;subst gu;simp only[P_,Bool.not_eq_false']at h5;have:=fU h5;rw[<- this];simp[KS,ht]
    have asH:dt=true->∀cD b9,(∀t,Nat.testBit (k4 ops o) t=true->cD t=s.b0 t)->(∀id,id∈gC.rb->b9 id=s.aW id)->(sJ E o).a7 cD b9=some (v,dG b9 gC.wr):=
     λgu cD b9 hg aa=>HD cD b9 (λt ht=>hg t (HL gu t ht)) aa
    have aph:∀cT,tb v cT->(∀d,o.dst=some d->d<nt)->Kt E ops nt dt s.b0 s.aW ⟨i,o,cT,false,gC.rb,gC.wr⟩:=λcT ab gt=>⟨gt,.inl ⟨bw,v,ab,sq,asH⟩⟩;have atn:(s.ek gC.wr).b0=s.b0:=aM.qS s _;have atm:(s.ek gC.wr).aW=dG s.aW gC.wr:=aM.oc s _;have apS:∀cT,dt=true->∀(b:List Nat) (bA:List ff),rF b ((se dt i gC.rb gC.wr hP).reverse++n_ bA)=true->rF b (hP.reverse++n_ (⟨i,o,cT,false,gC.rb,gC.wr⟩::bA))=true:=by intro cT gu b bA h;subst gu;exact ab0 (e:=⟨i,o,cT,false,gC.rb,gC.wr⟩) rfl h
    have zA:∀(cT:av) (B2:Bool) {ρ:Type} (k:aM->aP ρ) (r:ρ),tb v cT->((iL nt o.dst (s.ek gC.wr) cT λs=>pb E ops nv nt dt B2 (i+1) rest s (se dt i gC.rb gC.wr hP)).bind k).bH=some r ->
      ∃ay,FR E ops nt dt i (o::rest) s hP ay/\(k ay).bH=some r/\d5 (er rest) (jA (s.ek gC.wr) o.dst cT) ay/\(∀d,o.dst=some d->d<nt):=by
     intro cT B2 ρ k r ab h;obtain⟨gt,h⟩:=vS h;obtain⟨ay,ai,am⟩:=ih B2 (i+1) _ _ k r h;refine⟨ay,Wt eE rfl rfl (aph cT ab gt) ?_ ?_ ?_ (apS cT) ai,am,?_,gt⟩
     .rw[sN eE gt,atn]
     .rw[lJ,atm]
     .exact(d5.ek gC.wr _).sub (xh aJ.1) (λt h=>h) (λt h=>h)
     obtain⟨bA,bz,_,_,_,_,_,_,dN,_⟩:=ai;exact dN
    cases hg:(Nat.testBit (yp ops) i&&(uS v).isSome) with
    |false =>rw[hg,cond_false]at h;obtain⟨ay,O,R,_⟩:=zA v top k r (.inl rfl) h;exact⟨ay,O,R⟩
    |true=>
     rw[hg,cond_true]at h;cases aa:uS v with
     |none=>rw[aa]at h;cases h
     |some c=>
      rw[aa]at h;have aB:=Zh aa;have two:∀{ρ:Type} (k:aM->aP ρ) (r:ρ),((aP.br c (iL nt o.dst (s.ek gC.wr) (.kb true) λs=>pb E ops nv nt dt false (i+1) rest s (se dt i gC.rb gC.wr hP)) (iL nt o.dst (s.ek gC.wr) (.kb false) λs=>pb E ops nv nt dt false (i+1) rest s (se dt i gC.rb gC.wr hP))).bind k).bH=some r ->
        ∃ay,FR E ops nt dt i (o::rest) s hP ay/\(k ay).bH=some r/\d5 (er rest) (jA (s.ek gC.wr) o.dst (.kb c)) ay/\(∀d,o.dst=some d->d<nt):=by
       intro ρ k r h;cases c with
       |true=>exact zA (.kb true) false k r (.inr ⟨true,aB,rfl⟩) h
       |false=>exact zA (.kb false) false k r (.inr ⟨false,aB,rfl⟩) h
      cases top with
      |false =>obtain⟨ay,O,R,_⟩:=two k r h;exact⟨ay,O,R⟩
      |true=>
       obtain⟨gt,h⟩:=vS h;rcases UC (λt ht=>(xW.1 ht).1) h with h|⟨ks,p,hp,hrest⟩
       .obtain⟨ay,O,R,_⟩:=two k r h
        exact⟨ay,O,R⟩
       obtain⟨ay,⟨bA,bz,bL,ca,cq,dv,e',ma,qJ,kB⟩,R,af,_⟩:=two _ p hp;obtain⟨sM,qu,jh⟩:∃sM,(bif Nat.beq ay.w.length (jA (s.ek gC.wr) o.dst (.sc .bool c)).w.length then rc ay ks else none)=some sM/\(aP.leaf sM).bH=some p:=by
        have u3:((aP.vD (bif Nat.beq ay.w.length (jA (s.ek gC.wr) o.dst (.sc .bool c)).w.length then rc ay ks else none)).bind aP.leaf).bH=some p:=by rw[k8];exact R
        exact aP.Vo u3
       cases jh;cases cm:Nat.beq ay.w.length (jA (s.ek gC.wr) o.dst (.sc .bool c)).w.length with
       |false=>rw[cm]at qu;cases qu
       |true=>
        rw[cm,cond_true]at qu;have TI:Kv (er rest) (jA (s.ek gC.wr) o.dst (.sc .bool c)) ay:=by
         obtain⟨f1,ge,f2,f3⟩:=af;refine⟨λt ht => ?_,ge,by rw[f2,NS,NS],λid hid=>by rw[f3 id hid,lJ,lJ]⟩;rw[f1 t ht,sN eE gt,sN eE gt];cases arY:o.dst with
         |none=>exact .inl rfl
         |some d=>
          by_cases AL:t=d
          .right
           refine⟨.bool,c,by simp[ln,pV,AL],?_⟩;simp only[ln,pV,AL];rfl
          left;simp[ln,pV,AL]
        obtain⟨eh,co,cV,fy⟩:=hrest ay TI (fU cm) qu;refine⟨eh,⟨bA,bz,bL,ca,cq,dv,e',ma.trans co,?_,kB⟩,fy⟩;exact((d5.ek gC.wr _).sub (xh aJ.1) (λt h=>h) (λt h=>h)).sub cV (λt h=>h) aJ.2
  obtain⟨gt,h⟩:=vS h;obtain⟨ay,ai,am⟩:=ih top (i+1) _ hP k r h;refine⟨ay,Wt (e:=⟨i,o,.undef,false,[],[]⟩) eE rfl rfl ⟨gt,.inr (.inl ⟨bw,rfl,rfl,rfl⟩)⟩ ?_ ?_ (xh aJ.1) (λ_ b bA h=>h) ai,am⟩
  .rw[sN eE gt]
  rw[lJ];rfl
end Yp
namespace Yp
open Go
def s_:=@List.mem_singleton
def xM:=@List.mem_flatMap
def KZ:=@List.not_mem_nil
section
variable {phx phx':cf} {H H':cj} {B B':Nat->aT}
def j5.iB:∀{l:List iO} {vs:List Value},(∀id,id∈t6 l->(B id).i0=true->phx' id=phx id)->H.cd H'->(∀id,id∈t6 l->(B id).cd (B' id))->j5 phx H B l vs->j5 phx' H' B' l vs
 |[],_,_,_,_,h=>h
 |.iY t x::l,vs,dX,cE,az,⟨v,ei,h,⟨cs,O,R⟩,af⟩=>⟨v,ei,h,⟨cs,O.mono cE,R⟩,j5.iB (l:=l) dX cE az af⟩
 |.ptr id p::l,vs,dX,cE,az,⟨v,ei,h,O,af⟩=>by
  refine⟨v,ei,h,?_,j5.iB (l:=l) (λj ap=>dX j (by simp[t6,ap])) cE (λj ap=>az j (by simp[t6,ap])) af⟩;have aa:=az id (by simp[t6]);have hf:=dX id (by simp[t6]);simp only[v_]at O ⊢;cases j':B id<;>cases hb1:B' id<;>simp only[j',hb1,aT.i0]at aa hf O ⊢ <;> try(first|exact O.elim|exact aa.elim|trivial)
  all_goals first
   |(subst aa;rw[hf trivial];exact O)
   |(obtain⟨b,o,n,g1,cD⟩:=O;exact⟨b,o,n,(hf trivial).trans g1,cD⟩)
   | (
    obtain⟨b,o,n,off,t',g1,cD,cQ⟩:=O;exact⟨b,o,n,(hf trivial).trans g1,λhp=>by subst hp;simp only[ag.ew,kJ,pr]at cD;rw[cQ,<- cD.1];rfl⟩)
def j5.old:∀{l:List iO} {vs:List Value},j5 phx H B l vs->∀id,id∈t6 l->B id ≠ .new
 |.iY t x::l,vs,⟨v,ei,h,_,af⟩,id,ac=>j5.old (l:=l) af id ac
 |.ptr j p::l,vs,⟨v,ei,h,O,af⟩,id,ac=>by
  simp only[t6,f']at ac;rcases ac with rfl|ac
  .intro ak;simp only[v_,ak]at O
  exact j5.old (l:=l) af id ac
def bJ.iB{pv:av}(dX:∀id,id∈dU pv->(B id).i0=true->phx' id=phx id)(cE:H.cd H')(az:∀id,id∈dU pv->(B id).cd (B' id)){v:Value}(h:bJ phx H B pv v):bJ phx' H' B' pv v:=by
 have key:∀yG:Nat,(∀id,id∈dU pv->id=yG)->yG∈dU pv->bJ phx' H' B' pv v:=λyG O R=>by
  have atd:∀id,(B id).i0=true->(λj=>if j=yG then phx' j else phx j) id=phx id:=λid hl=>by
   grind
  have kU:∀id,(B id).cd ((λj=>if j=yG then B' j else B j) id):=λid=>by
   by_cases ac:id=yG
   .grind
   simp[ac,aT.cd.refl]
  have:=bJ.mono (phx':=λj=>if j=yG then phx' j else phx j) (H':=H') (B':=λj=>if j=yG then B' j else B j) atd cE kU h;cases pv<;>simp only[dU,s_,KZ]at O R<;>(try exact R.elim)
  all_goals (first|(subst R;simpa[bJ,h4,uD]using this)|exact this.elim|(obtain⟨vs,g1,cD⟩:=h;exact⟨vs,g1.iB dX cE az,cD⟩))
 cases pv with
 |own id eT=>exact key id (λ_ h=>by simpa[dU]using h) (by simp[dU])
 |osl id o n=>exact key id (λ_ h=>by simpa[dU]using h) (by simp[dU])
 |ptr id p=>exact key id (λ_ h=>by simpa[dU]using h) (by simp[dU])
 |opt id i p=>exact key id (λ_ h=>by simpa[dU]using h) (by simp[dU])
 |itp id=>exact key id (λ_ h=>by simpa[dU]using h) (by simp[dU])
 |mpp id=>exact key id (λ_ h=>by simpa[dU]using h) (by simp[dU])
 |psl id n=>exact key id (λ_ h=>by simpa[dU]using h) (by simp[dU])
 |clo f dT c_=>obtain⟨vs,g1,cD⟩:=h;exact⟨vs,g1.iB dX cE az,cD⟩
 |ifc i t x=>obtain⟨cs,O,R⟩:=h;exact⟨cs,O.mono cE,R⟩
 |csl e l=>obtain⟨a,O,R⟩:=h;exact⟨a,O,R.mono cE⟩
 |ipt e l i p=>obtain⟨aq,b,o,cap,off,t',O,R,af⟩:=h;exact⟨aq,b,o,cap,off,t',O.mono cE,R,af⟩
 |_=>exact h
def fh.iB:∀{pv:av} {t:ag} {cs:List Value},(∀id,id∈dU pv->(B id).i0=true->phx' id=phx id)->H.cd H'->(∀id,id∈dU pv->(B id).cd (B' id))->fh phx H B pv t cs->fh phx' H' B' pv t cs:=by
 intro pv;induction pv with
 |two u v aL aB=>
  intro t cs dX cE az h;cases t<;>simp only[fh]at h ⊢ <;> try exact h
  obtain⟨c1,c2,h,O,R⟩:=h;exact⟨c1,c2,h,aL (λid ac=>dX id (by simp[dU,ac])) cE (λid ac=>az id (by simp[dU,ac])) O,aB (λid ac=>dX id (by simp[dU,ac])) cE (λid ac=>az id (by simp[dU,ac])) R⟩
 |sc t' x=>intro t cs dX cE az h;obtain⟨aq,h⟩:=h;exact⟨aq,h.mono cE⟩
 |agg t a=>intro t cs dX cE az h;exact h
 |tup a=>intro t cs dX cE az h;exact h
 |bad=>intro t cs dX cE az h;exact h
 |_=>intro t cs dX cE az h;obtain⟨aq,v,O,R,af⟩:=h;exact⟨aq,v,O,R,bJ.iB dX cE az af⟩
def d6.iB{pv:av}(dX:∀id,id∈dU pv->(B id).i0=true->phx' id=phx id)(cE:H.cd H')(az:∀id,id∈dU pv->(B id).cd (B' id)){v:Value}(h:d6 phx H B pv v):d6 phx' H' B' pv v:=by
 cases pv with
 |sc t x=>obtain⟨cs,O,R⟩:=h;exact⟨cs,O.mono cE,R⟩
 |agg t a=>obtain⟨aq,cs,O,R⟩:=h;exact⟨aq,cs,fh.iB dX cE az O,R⟩
 |_=>simp only[d6]at h ⊢;exact bJ.iB dX cE az h
def mm.iB:∀{pv:av} {vs:List Value},(∀id,id∈dU pv->(B id).i0=true->phx' id=phx id)->H.cd H'->(∀id,id∈dU pv->(B id).cd (B' id))->mm phx H B pv vs->mm phx' H' B' pv vs:=by
 intro pv;induction pv with
 |two u r aL ai =>intro vs dX cE az h;obtain⟨v,ei,aq,O,R⟩:=h;exact⟨v,ei,aq,d6.iB (λid ac=>dX id (by simp[dU,ac])) cE (λid ac=>az id (by simp[dU,ac])) O,ai (λid ac=>dX id (by simp[dU,ac])) cE (λid ac=>az id (by simp[dU,ac])) R⟩
 |sc t x=>intro vs dX cE az h;cases t<;>exact h
 |_=>intro vs dX cE az h;exact h
def ba.iB{pv:av}(dX:∀id,id∈dU pv->(B id).i0=true->phx' id=phx id)(cE:H.cd H')(az:∀id,id∈dU pv->(B id).cd (B' id)){v:Value}(h:ba phx H B pv v):ba phx' H' B' pv v:=by
 cases pv with
 |tup a=>obtain⟨vs,O,R⟩:=h;exact⟨vs,mm.iB dX cE az O,R⟩
 |_=>simp only[ba]at h ⊢;exact d6.iB dX cE az h
def bJ.old{pv:av}{v:Value}(h:bJ phx H B pv v):∀id,id∈dU pv->B id ≠ .new:=by
 intro id ac ak;cases pv<;>simp only[dU,s_,KZ]at ac<;>(try exact ac.elim)
 all_goals (first|(subst ac;simp only[bJ,ak]at h)|exact h.elim|(obtain⟨vs,g1,cD⟩:=h;exact g1.old id ac ak))
def fh.old:∀{pv:av} {t:ag} {cs:List Value},fh phx H B pv t cs->∀id,id∈dU pv->B id ≠ .new:=by
 intro pv;induction pv with
 |two u v aL aB=>
  intro t cs h id ac;cases t<;>simp only[fh]at h;simp only[dU,hG]at ac
  grind
 |sc t' x=>intro t cs h id ac;simp[dU]at ac
 |agg t a=>intro t cs h;exact h.elim
 |tup a=>intro t cs h;exact h.elim
 |bad=>intro t cs h id ac;simp[dU]at ac
 |_=>intro t cs h;obtain⟨aq,v,O,R,af⟩:=h;exact af.old
def d6.old{pv:av}{v:Value}(h:d6 phx H B pv v):∀id,id∈dU pv->B id ≠ .new:=by
 cases pv with
 |sc t x=>intro id ac;simp[dU]at ac
 |agg t a=>obtain⟨aq,cs,O,R⟩:=h;exact O.old
 |_=>simp only[d6]at h;exact bJ.old h
def mm.old:∀{pv:av} {vs:List Value},mm phx H B pv vs->∀id,id∈dU pv->B id ≠ .new:=by
 intro pv;induction pv with
 |two u r aL ai =>intro vs h id ac;obtain⟨v,ei,aq,O,R⟩:=h;simp only[dU,hG]at ac;exact ac.elim (O.old id) (ai R id)
 |sc t x=>intro vs h id ac;simp[dU]at ac
 |_=>intro vs h;exact h.elim
def ba.old{pv:av}{v:Value}(h:ba phx H B pv v):∀id,id∈dU pv->B id ≠ .new:=by
 cases pv with
 |tup a=>obtain⟨vs,O,R⟩:=h;exact O.old
 |_=>simp only[ba]at h;exact d6.old h
end
def lU.iB{phx phx':cf}{H H':cj}{B B':Nat->aT}{kt:ag}:∀{l:List (kt.aG×av)} {es:List MapEntry},(∀p∈l,∀id∈dU p.2,(B id).i0=true->phx' id=phx id)->H.cd H'->(∀p∈l,∀id∈dU p.2,(B id).cd (B' id))->lU phx H B kt l es->lU phx' H' B' kt l es
 |[],_,_,_,_,h=>h
 |(k,v)::l,_,dX,cE,az,⟨e,es',h,⟨an,O,R⟩,af,au⟩=>
  ⟨e,es',h,⟨an,O.mono cE,R⟩,af.iB (λid ac=>dX (k,v) bp id ac) cE (λid ac=>az (k,v) bp id ac),lU.iB (λp hp=>dX p (by grind)) cE (λp hp=>az p (by grind)) au⟩
def lU.old{phx:cf}{H:cj}{B:Nat->aT}{kt:ag}:∀{l:List (kt.aG×av)} {es:List MapEntry},lU phx H B kt l es->∀p∈l,∀id∈dU p.2,B id ≠ .new
 |[],_,_,p,hp=>by simp at hp
 |(k,v)::l,_,⟨e,es',h,_,af,au⟩,p,hp=>by
  rcases f'.1 hp with rfl|hp
  .exact af.old
  exact lU.old au p hp
def ml.iB{phx phx':cf}{M aD:Nat->Prop}{w w':World}{H H':cj}{B B':Nat->aT}{id:Nat}{b:aT}
  (hid:phx' id=phx id) (dX:∀j,j∈zc b->(B j).i0=true->phx' j=phx j) (cE:H.cd H') (az:∀j,j∈zc b->(B j).cd (B' j))
  (bw:∀x,phx id=some x->b.fS=true->w'.heap[x.1]?=w.heap[x.1]?) (d_:∀x,phx id=some x->b.fS=true->M x.1->aD x.1)
  (h:ml phx M w H B id b):ml phx' aD w' H' B' id b:=by
 cases b with
 |new=>trivial
 |ft=>trivial
 |box t v =>obtain⟨b,o,c,el,fz,O,R,af,au,aY,cp⟩:=h;exact⟨b,o,c,el,fz,hid.trans O,(bw _ O rfl).trans R,af,fh.iB dX cE az au,aY,d_ _ O rfl cp⟩
 |ob e l=>
  refine⟨h.1,?_⟩;rcases h.2 with⟨O,R⟩|⟨b,o,c,el,fz,O,R,af,au,aY⟩
  .grind
  exact .inr ⟨b,o,c,el,fz,hid.trans O,(bw _ O rfl).trans R,af.mono cE,au,d_ _ O rfl aY⟩
 |fz e l=>
  refine⟨h.1,?_⟩;rcases h.2 with⟨O,R⟩|⟨b,o,c,el,fz,O,R,af⟩
  .grind
  exact .inr ⟨b,o,c,el,fz,hid.trans O,cE _ _ R,af.mono cE⟩
 |it s p =>obtain⟨b,O,R,af⟩:=h;exact⟨b,hid.trans O,(bw _ O rfl).trans R,d_ _ O rfl af⟩
 |mp kt vt l =>obtain⟨b,es,n8,O,R,af,au⟩:=h;refine⟨b,es,n8,hid.trans O,(bw _ O rfl).trans R,lU.iB (λp hp j ap=>dX j (xM.2 ⟨p,hp,ap⟩)) cE (λp hp j ap=>az j (xM.2 ⟨p,hp,ap⟩)) af,d_ _ O rfl au⟩
def ml.old{phx:cf}{M:Nat->Prop}{w:World}{H:cj}{B:Nat->aT}{id:Nat}{b:aT}(h:ml phx M w H B id b):∀j,j∈zc b->B j ≠ .new:=by
 cases b with
 |box t v=>obtain⟨b,o,c,el,fz,O,R,af,au,aY,cp⟩:=h;exact au.old
 |mp kt vt l =>obtain⟨b,es,n8,O,R,af,au⟩:=h;intro j ap;obtain⟨p,hp,ap⟩:=xM.1 ap;exact af.old p hp j ap
 |_=>intro j ap;simp[zc]at ap
end Yp
namespace Yp
open Go
def nk:=@Array.getD_eq_getD_getElem?
def xN:=@List.mem_append_left
def xR:=@List.mem_append_right
def ux:=@List.any_eq_true
def zM:=@Bool.or_eq_true
def KH:=@List.mem_cons_self
def Qw:=@Iff.rfl
def KR:=@List.getElem?_cons_zero
def P4:=@Nat.add_sub_cancel
variable {P:Program}
def kK(P:Program)(f:Nat)(g:gz):Prop:=s7 P f/\∀(K:Kp) (w0:World),p1 P K w0->∀(b?:Nat) (a_:List av) (s:aM) (ρ:Type) (k:av×aM->aP ρ) (r:ρ),((g b? a_ s).bind k).bH=some r ->
 ∀(phx:cf) (M:Nat->Prop) (w:World) (vs:List Value),bM K w0 phx M s.aW w->gO phx (view w M) s.aW a_ vs ->
  Calls P f vs.toArray w λe w'=>∃b5,e=.returned b5/\∃v ay phx' aD,(k (v,ay)).bH=some r/\bM K w0 phx' aD ay.aW w'/\ct phx M s.aW w phx' aD ay.aW w'/\ba phx' (view w' aD) ay.aW v b5/\d5 [] s ay
def hI(D:List Nat)(a a':Act):Prop:=a'.tmps.size=a.tmps.size/\a'.defers=a.defers/\∀t,t∉D->a'.tmps.getD t undef=a.tmps.getD t undef
def hI.refl(D:List Nat)(a:Act):hI D a a:=⟨rfl,rfl,λ_ _=>rfl⟩
def hI.sub{E:List Nat}{a b c:Act}(h:hI D a b)(k:hI kI b c)(aJ:∀t,t∈D->t∈E)(DE:∀t,t∈kI->t∈E):hI E a c:=
 ⟨k.1.trans h.1,k.2.1.trans h.2.1,λt ht=>(k.2.2 t λah=>ht (DE t ah)).trans (h.2.2 t λah=>ht (aJ t ah))⟩
def hI.put{a:Act}{c?:Option Nat}{v:Value}(h:∀d,c?=some d->d∈D):hI D a (a.put c? v):=by
 cases c? with
 |none=>exact hI.refl D a
 |some d =>refine⟨by simp[Act.put],rfl,λt ht => ?_⟩;have:d≠t:=λe=>ht (e▸h d rfl);simp[Act.put,p5 this]
section
variable {K:Kp} {w0 w:World} {phx:cf} {M:Nat->Prop} {B B':Nat->aT} {g:Nat->av} {H:cj} {E:dk} {nt:Nat}
def tb.bR{v0 v:av}{x:Value}(h:tb v0 v)(ai:ba phx H B v0 x):ba phx H B v x:=by
 rcases h with rfl|⟨c,rfl,rfl⟩
 .exact ai
 rw[ai.bool];rfl
def dF.put{a:Act}(ab:dF phx H B g a){c?:Option Nat}(aJ:∀d,c?=some d->d<a.tmps.size){v:av}{x:Value}(ai:ba phx H B v x):dF phx H B (ln g c? v) (a.put c? x):=by
 cases c? with
 |none=>exact ab
 |some d=>
  intro t;simp only[ln,pV];by_cases h:t=d
  .subst h
   have:=aJ t rfl;simpa[Act.put,this]using ai
  rw[if_neg h];have:=ab t;simpa[Act.put,p5 (FL h)]using this
def X7{ops:Array Oper}{a:Act}(h:(ops.toList[j]?).bind (·.dst)=some d):(∀b,a.tmps.getD d undef=.bool b->yielded ops a.tmps j=some b)/\(a.tmps.getD d undef=undef->yielded ops a.tmps j=none):=by
 rw[uB]at h;unfold yielded;rw[h];simp only[Option.bind_some];refine⟨λb aa => ?_,λaa => ?_⟩
 .cases hg:a.tmps[d]? with
  |none=>rw[nk,hg]at aa;cases aa
  |some v=>rw[nk,hg]at aa;simp at aa;rw[aa]
 cases hg:a.tmps[d]? with
 |none=>rfl
 |some v=>rw[nk,hg]at aa;simp at aa;rw[aa];rfl
def XM{ops:Array Oper}{o:Oper}{a:Act}(h:x1 ops.toList o g)(ab:dF phx H B g a):Region.wanted o (yielded ops a.tmps)=true:=by
 rcases h with h|⟨j,mg,d,O,R,af⟩
 .simp[Region.wanted,h]
 have aB:=ab d;rw[af]at aB;simp[Region.wanted,O,(X7 R).1 _ aB]
def ain{ops:Array Oper}{o:Oper}{a:Act}(h:FT ops.toList o g)(ab:dF phx H B g a):Region.wanted o (yielded ops a.tmps)=false:=by
 obtain⟨j,mg,d,O,R,af⟩:=h;have aB:=ab d;rcases af with af|af<;>rw[af]at aB
 .have aB:a.tmps.getD d undef=.bool (!mg):=aB
  simp[Region.wanted,O,(X7 R).1 _ aB]
 have aB:a.tmps.getD d undef=undef:=aB;simp[Region.wanted,O,(X7 R).2 aB]
def d5.wr{s ay:aM}(h:d5 D s ay):ay.aW=dG s.aW (nS s ay):=by
 obtain⟨_,ge,R,af⟩:=h;have ak:U' s ay=ge:=by unfold U';rw[R,dd,P4,List.take_left'];rfl
 funext id;unfold nS dG;have key:∀(l:List Nat) (d:aT),oq (l.map λid=>(id,ay.aW id)) id d=if id∈l then ay.aW id else d:=by
  intro l d;induction l with
  |nil=>rfl
  |cons x l ih=>
   simp only[p6,oq];by_cases hx:x=id
   .subst hx;rw[jI rfl];simp
   rw[hM hx,cond_false,ih]
   grind
 grind
def yR{id:Nat}:∀(l:List (Nat×aT)) (d:aT),id∉l.map (·.1)->oq l id d=d
 |[],_,_=>rfl
 |p::l,d,h=>by simp only[p6,f',not_or]at h;simp only[oq];rw[hM (FL h.1)];exact yR l d h.2
def gO.iB:∀{a_:List av} {vs:List Value} {B':Nat->aT},(∀p∈a_,∀j,j∈dU p->B' j=B j)->gO phx H B a_ vs->gO phx H B' a_ vs
 |[],[],_,_,_=>trivial
 |p::a_,v::vs,B',ah,h=>⟨h.1.iB (λ_ _ _=>rfl) (cj.cd.refl _) (λj ap=>by rw[ah p bp j ap];exact aT.cd.refl _),gO.iB (λq aQ=>ah q (by grind)) h.2⟩
def kK.frame{tB:gz}(eF:kK P f tB)(gQ:p1 P K w0)(hm:bM K w0 phx M B w){s ay:aM}{b?:Nat}{a_:List av}{v0:av}(je:(tB b? a_ s).bH=some (v0,ay)){k0:List Nat}
  (yD:∀id,id∈k0->s.aW id=B id) (Ug:∀id,id∉k0->s.aW id=.new) (e2:∀id j,j∈zc (s.aW id)->j∈k0) (qp:∀p∈a_,∀j,j∈dU p->j∈k0)
  (atN:∀id,id∈(nS s ay).map (·.1)->id∈k0) {vs:List Value} (hp:gO phx (view w M) B a_ vs) :
  Calls P f vs.toArray w λe w'=>∃b5,e=.returned b5/\∃phx' aD,bM K w0 phx' aD (dG B (nS s ay)) w'/\ct phx M B w phx' aD (dG B (nS s ay)) w'/\ba phx' (view w' aD) (dG B (nS s ay)) v0 b5:=by
 let Yu:Kp:=⟨λb=>K.k b\/∃id x,id∉k0/\(B id).fS=true/\phx id=some x/\x.1=b,M⟩
 have U8:∀id,(s.aW id).fS=true->id∈k0/\(B id).fS=true:=λid h=>by
  by_cases am:id∈k0
  .rw[yD id am]at h;exact⟨am,h⟩
  rw[Ug id am]at h;cases h
 have iI:bM Yu w phx M s.aW w:=by
  refine⟨rfl,rfl,rfl,b1 _,λ_ _=>rfl,λb aa => ?_,λ_ _=>Qw,λid ac x hx ah => ?_,hm.mlt,λid => ?_,λi j js ac ap => ?_⟩
  .rcases aa with aa|⟨id,x,_,R,af,rfl⟩
   .exact gN (hm.klt b aa) hm.size
   exact(hm.blks id).lt R af
  .obtain⟨am,vc⟩:=U8 id ac
   rcases ah with ah|⟨pJ,xE,O,R,af,au⟩
   .exact hm.own id vc x hx ah
   exact hm.sep pJ id (λe=>O (e▸am)) R vc xE x af hx au
  .by_cases am:id∈k0
   .have h:=hm.blks id
    rw[yD id am];refine ml.iB rfl (λ_ _ _=>rfl) (cj.cd.refl _) (λj ap => ?_) (λ_ _ _=>rfl) (λ_ _ _ h=>h) h;rw[yD j (e2 id j (by rw[yD id am];exact ap))];exact aT.cd.refl _
   rw[Ug id am];trivial
  exact hm.sep i j js (U8 i ac).2 (U8 j ap).2
 have as8:gO phx (view w M) s.aW a_ vs:=hp.iB λp aQ j ap=>yD j (qp p aQ j ap);refine(eF.2 Yu w ⟨λg hg=>.inl (gQ.gl g hg),gQ.keys hm⟩ b? a_ s (av×aM) .leaf (v0,ay) (by rw[k8];exact je) phx M w vs iI as8).mono ?_;rintro e w' ⟨b5,rfl,v,eh,hU,fV,bL,ca,cq,dv,e'⟩;cases bL;have kU:=e'.wr;have Ic:∀id,id∈k0->ay.aW id=dG B (nS s ay) id:=λid am=>by rw[kU];unfold dG;rw[yD id am]
 have Pm:∀id,id∉k0->ay.aW id=.new/\dG B (nS s ay) id=B id:=λid am=>by have adB:id∉(nS s ay).map (·.1):=λh=>am (atN id h);refine⟨?_,yR _ _ adB⟩;rw[kU];exact(yR _ _ adB).trans (Ug id am)
 have N':∀j,ay.aW j ≠ .new->j∈k0:=λj h=>by
  by_cases am:j∈k0
  .exact am
  exact absurd (Pm j am).1 h
 let jS:cf:=λid=>if id∈k0 then hU id else phx id
 have wo:∀id,id∈k0->jS id=hU id:=λid h=>if_pos h;have Ah:∀id,id∉k0->jS id=phx id:=λid h=>if_neg h;have jh:∀id,(B id).i0=true->jS id=phx id:=λid hl=>by
  by_cases am:id∈k0
  .rw[wo id am];exact cq.pl id (by rw[yD id am];exact hl)
  exact Ah id am
 have dK:∀id,(B id).cd (dG B (nS s ay) id):=λid=>by
  by_cases am:id∈k0
  .rw[<- Ic id am,<- yD id am];exact cq.bl id
  rw[(Pm id am).2];exact aT.cd.refl _
 have Iu:∀id,id∈k0->(dG B (nS s ay) id).fS=true->(ay.aW id).fS=true:=λid am h=>by rw[Ic id am];exact h
 have Iv:∀id,id∉k0->(dG B (nS s ay) id).fS=true->(B id).fS=true:=λid am h=>by rw[<- (Pm id am).2];exact h
 refine⟨b5,rfl,jS,fV,⟨ca.os.trans hm.os,ca.tape.trans hm.tape,ca.output.trans hm.output,hH hm.size ca.size,λb aa=>(ca.keep b (.inl aa)).trans (hm.keep b aa),hm.klt,λb aa=>(ca.hid b (.inl aa)).trans (hm.hid b aa),λid ac x hx ah => ?_,ca.mlt,λid => ?_,λi j js ac ap x y hx hy => ?_⟩,⟨jh,cq.vw,dK⟩,?_⟩
 .by_cases am:id∈k0
  .rw[wo id am]at hx;exact ca.own id (Iu id am ac) x hx (.inl ah)
  rw[Ah id am]at hx;exact hm.own id (Iv id am ac) x hx ah
 .by_cases am:id∈k0
  .rw[<- Ic id am]
   have h:=ca.blks id;refine ml.iB (wo id am) (λj ap _=>wo j (N' j (h.old j ap))) (cj.cd.refl _) (λj ap => ?_) (λ_ _ _=>rfl) (λ_ _ _ h=>h) h;rw[Ic j (N' j (h.old j ap))];exact aT.cd.refl _
  rw[(Pm id am).2];refine ml.iB (Ah id am) (λj _ hl=>jh j hl) cq.vw (λj _=>dK j) (λx hx vc=>ca.keep x.1 (.inr ⟨id,x,am,vc,hx,rfl⟩)) (λx hx vc d_=>(ca.hid x.1 (.inr ⟨id,x,am,vc,hx,rfl⟩)).2 d_) (hm.blks id)
 .by_cases wH:i∈k0<;>by_cases wI:j∈k0
  .rw[wo i wH]at hx;rw[wo j wI]at hy;exact ca.sep i j js (Iu i wH ac) (Iu j wI ap) x y hx hy
  .rw[wo i wH]at hx;rw[Ah j wI]at hy
   exact λe=>ca.own i (Iu i wH ac) x hx (.inr ⟨j,y,wI,Iv j wI ap,hy,e.symm⟩)
  .rw[Ah i wH]at hx;rw[wo j wI]at hy
   exact λe=>ca.own j (Iu j wI ap) y hy (.inr ⟨i,x,wH,Iv i wH ac,hx,e⟩)
  rw[Ah i wH]at hx;rw[Ah j wI]at hy;exact hm.sep i j js (Iv i wH ac) (Iv j wI ap) x y hx hy
 exact dv.iB (λj ap _=>wo j (N' j (dv.old j ap))) (cj.cd.refl _) (λj ap=>by rw[Ic j (N' j (dv.old j ap))];exact aT.cd.refl _)
def xL.congr{E:dk}{ops:List Oper}{o:Oper}{g cD:Nat->av}{B b9:Nat->aT}{v0:av}{rb:List Nat}{wr:List (Nat×aT)}(h:xL E ops o g B v0 rb wr)(hg:∀t,Nat.testBit (k4 ops o) t=true->cD t=g t)
  (az:∀id,id∈rb\/id∈wr.map (·.1)->b9 id=B id):xL E ops o cD b9 v0 rb wr:=by
 obtain⟨F,dT,c_,tB,a_,s,ay,f,args,d',b?,O,R,af,au,aY,cp,dN,cx,lC,oT⟩:=h;refine⟨F,dT,c_,tB,a_,s,ay,f,args,d',b?,O,R,af,?_,λcQ vY wG=>aY cQ vY λt ht=>(wG t ht).trans (hg t ht),λid hid => ?_,dN,cx,lC,oT⟩
 .cases f with
  |tmp t=>simp only[SO]at au ⊢;rw[hg t af];exact au
  |func f=>exact au
  |const v=>exact au
  |global i=>exact au
 grind
def UV:∀{l:List (Nat×aT)} {id:Nat},id∉l.map (·.1)->rr l id=.new
 |[],_,_=>rfl
 |(i,b)::r,id,h=>by simp only[p6,f',not_or]at h;simp only[rr];rw[hM (FL h.1)];exact UV h.2
def aeL:∀{l:List (Nat×aT)} {id:Nat},id∈l.map (·.1)->∃b,(id,b)∈l/\rr l id=b
 |(i,b)::r,id,h=>by
  simp only[rr];by_cases ac:i=id
  .subst ac;rw[jI rfl];exact⟨b,bp,rfl⟩
  rw[hM ac];simp only[p6,f']at h;obtain⟨c,ah,R⟩:=aeL (h.resolve_left (FL ac))
  grind
def aod{s:aM}{a_:List av}(h:Gy s a_=true):(∀id j,j∈zc (s.aW id)->j∈qy s)/\∀p∈a_,∀j,j∈dU p->j∈qy s:=by
 unfold Gy at h;simp only[cP]at h;have any:∀{j:Nat},(qy s).any (Nat.beq j)=true->j∈qy s:=λh=>by obtain⟨x,hx,aC⟩:=ux.1 h;rw[fU aC];exact hx
 refine⟨λid j ap => ?_,λp hp j ap=>any (p0.1 (p0.1 h.2 p hp) j ap)⟩;by_cases am:id∈s.h.map (·.1)
 .obtain⟨b,aa,aC⟩:=aeL am
  have aC:s.aW id=b:=aC
  grind
 have:s.aW id=.new:=UV am;rw[this]at ap;simp[zc]at ap
def aum(dC:pm P E K w0)(dW:∀f g,E.I f=some g->kK P f g){ops:List Oper}{o:Oper}{a:Act}{v0:av}{rb:List Nat}{wr:List (Nat×aT)}(hm:bM K w0 phx M B w)(ab:dF phx (view w M) B g a)(h:xL E ops o g B v0 rb wr)
  {Kn:Act->World->Prop} {Q:Exit->Act->World->Prop}
  (am:∀phx' aD w' x,bM K w0 phx' aD (dG B wr) w'->ct phx M B w phx' aD (dG B wr) w'->ba phx' (view w' aD) (dG B wr) v0 x->Kn (a.put o.dst x) w'):o.wp P a w Kn Q:=by
 obtain⟨F,dT,c_,tB,a_,s,ay,f,args,d',b?,O,R,af,au,aY,cp,dN,cx,lC,oT⟩:=h;obtain⟨c?,op,type,jz,after,Dt⟩:=o;subst O;have eF:=dW _ _ R;have rm:ba phx (view w M) B (.clo F dT c_) (a.eval f):=by
  rw[<- au];cases f with
  |tmp t=>exact ab t
  |func f=>exact⟨[],rfl,rfl⟩
  |const v=>cases af
  |global i=>cases af
 obtain⟨us,aC,pG⟩:=rm;refine PK pG eF.1 ?_;obtain⟨_,dl⟩:=yV ab (aY g B λ_ _=>rfl);have bh:(args.toList.map a.eval).toArray=args.map a.eval:=by apply Cy;simp
 have jb:(us.take dT++(args.toList.map a.eval++us.drop dT)).toArray=(us.take dT).toArray++args.map a.eval++(us.drop dT).toArray:=by rw[<- bh];simp
 rw[<- jb];obtain⟨bF,b2⟩:=aod dN;subst lC;refine(eF.frame (dC.gk (.inr (.inl ⟨_,_,R⟩))) hm cx cp (λid hid=>UV λah=>hid (xN _ ah)) (λid j ap=>xN _ (bF id j ap)) (λp hp j ap=>xN _ (b2 p hp j ap)) (λid hid=>xR _ hid) (RW aC dl)).mono ?_
 grind
def ajl{x:Value}(h:x=undef):ba phx H B .undef x:=h
def abt(hT:nP P E.bv)(cC:qj P E.bv E.C)(hz:ru P E.M)(dC:pm P E K w0)(dW:∀f g,E.I f=some g->kK P f g){ops:Array Oper}{e:ff}{a:Act}(ak:∀d,e.o.dst=some d->d<nt)(eE:nt<=a.tmps.size)(hm:bM K w0 phx M B w)(ab:dF phx (view w M) B g a)
  (h:(x1 ops.toList e.o g/\∃v0,tb v0 e.v/\(sJ E e.o).a7 g B=some (v0,dG B e.wr))\/(FT ops.toList e.o g/\e.v=.undef/\e.wr=[])\/(x1 ops.toList e.o g/\∃v0,tb v0 e.v/\xL E ops.toList e.o g B v0 e.rb e.wr))
  {Kn:Act->World->Prop} {Q:Exit->Act->World->Prop}
  (am:∀phx' aD w' x,bM K w0 phx' aD (dG B e.wr) w'->ct phx M B w phx' aD (dG B e.wr) w'->dF phx' (view w' aD) (dG B e.wr) (ln g e.o.dst e.v) (a.put e.o.dst x)->Kn (a.put e.o.dst x) w') :
  if Region.wanted e.o (yielded ops a.tmps) then e.o.wp P a w Kn Q else Kn (a.put e.o.dst undef) w:=by
 have aJ:∀d,e.o.dst=some d->d<a.tmps.size:=λd h=>gN (ak d h) eE;rcases h with⟨bw,v0,AJ,sq⟩|⟨bw,aB,DS⟩|⟨bw,v0,AJ,et⟩
 .rw[if_pos (XM bw ab)]
  refine VE hT cC hz dC sq hm ab λr w' bh => ?_;obtain⟨phx',aD,bD,e1,eY⟩:=bh;exact am phx' aD w' r bD e1 ((ab.ext e1).put aJ (AJ.bR eY))
 .rw[if_neg (by rw[ain bw ab];simp)]
  have az:dG B e.wr=B:=by rw[DS];rfl
  have:=am phx M w undef (by rw[az];exact hm) (by rw[az];exact ct.refl _ _ _ _) (by rw[az,aB];exact ab.put aJ (ajl rfl));exact this
 rw[if_pos (XM bw ab)];exact aum dC dW hm ab et λphx' aD w' r bD e1 eY=>am phx' aD w' r bD e1 ((ab.ext e1).put aJ (AJ.bR eY))
def ajb(hT:nP P E.bv)(cC:qj P E.bv E.C)(hz:ru P E.M)(dC:pm P E K w0)(dW:∀f g,E.I f=some g->kK P f g){ops:Array Oper}{Q:Exit->Act->World->Prop}:∀(bA:List ff) {phx:cf} {M:Nat->Prop} {B:Nat->aT} {g:Nat->av} {w:World} {a:Act},
  x0 E ops.toList nt false bA g B->bM K w0 phx M B w->dF phx (view w M) B g a->nt<=a.tmps.size ->
  (∀phx' aD w' a',bM K w0 phx' aD (em bA (λ_=>true) B) w'->ct phx M B w phx' aD (em bA (λ_=>true) B) w'->dF phx' (view w' aD) (em bA (λ_=>true) B) (fm bA (λ_=>true) g) a'->hI (er (bA.map (·.o))) a a'->Q .normal a' w') ->
  wpList P ops Q (bA.map (·.o)) a w
 |[],phx,M,B,g,w,a,_,hm,ab,_,aQ=>aQ phx M w a hm (ct.refl _ _ _ _) ab (hI.refl _ _)
 |e::bA,phx,M,B,g,w,a,aB,hm,ab,eE,aQ=>by
  obtain⟨⟨ak,je⟩,aB⟩:=aB;have aJ:=uW e.o (bA.map (·.o));have:=abt (P:=P) (Kn:=wpList P ops Q (bA.map (·.o))) (Q:=Q) hT cC hz dC dW ak eE hm ab (je.imp (λ⟨O,v0,R,af,_⟩=>⟨O,v0,R,af⟩) (λh=>h.elim (λ⟨O,R,af,_⟩=>.inl ⟨O,R,af⟩) (λh=>by cases h.1))) λphx' aD w' x bD e1 bz=>by refine ajb hT cC hz dC dW bA aB bD bz (by simp only[Act.put];split<;>simpa using eE) λjS db cV cX cr aU ay b2 => ?_;exact aQ jS db cV cX cr (e1.trans aU) ay ((hI.put aJ.1).sub b2 (λt h=>h) aJ.2)
  simp only[p6,wpList];split
  .rename_i bw;rw[if_pos bw]at this;exact .inl this
  rename_i bw;rw[if_neg bw]at this;exact this
def zq{t:Nat}:∀(bA:List ff) {L v2:Nat->Bool} {g g6:Nat->av},g t=g6 t->(∀e∈bA,e.o.dst=some t->L e.i=v2 e.i)->fm bA L g t=fm bA v2 g6 t
 |[],_,_,_,_,h,_=>h
 |e::bA,L,v2,g,g6,h,hL=>by
  refine zq bA ?_ λbB aC=>hL bB (nW _ aC);have key:∀(x:Nat->av),e.o.dst≠some t->ln x e.o.dst e.v t=x t:=λx eR=>by
   cases aJ:e.o.dst with
   |none=>rfl
   |some d=>simp only[ln,pV];rw[if_neg];intro h;exact eR (by grind)
  by_cases aJ:e.o.dst=some t
  .rw[hL e KH aJ]
   cases v2 e.i with
   |false=>exact h
   |true=>simp only[cond,aJ,ln,pV,if_true]
  grind
def aeK{id:Nat}:∀(l:List (Nat×aT)) (d yd:aT),id∈l.map (·.1)->oq l id d=oq l id yd
 |p::l,d,yd,h=>by
  simp only[oq];by_cases hp:p.1=id
  .rw[jI hp];rfl
  rw[hM hp];simp only[p6,f']at h;exact aeK l d yd (h.resolve_left (FL hp))
def zp{id:Nat}:∀(bA:List ff) {L v2:Nat->Bool} {B B':Nat->aT},B id=B' id->(∀e∈bA,id∈e.wr.map (·.1)->L e.i=v2 e.i)->em bA L B id=em bA v2 B' id
 |[],_,_,_,_,h,_=>h
 |e::bA,L,v2,B,B',h,hL=>by
  refine zp bA ?_ λbB aC=>hL bB (nW _ aC);by_cases aJ:id∈e.wr.map (·.1)
  .rw[hL e KH aJ]
   cases v2 e.i with
   |false=>exact h
   |true=>simp only[cond,dG,h]
  have key:∀(x:Nat->aT),dG x e.wr id=x id:=λx=>yR _ _ aJ
  grind
def WS(L:Nat->Bool):∀(a b:List ff) (g:Nat->av),fm (a++b) L g=fm b L (fm a L g)
 |[],_,_=>rfl
 |e::a,b,g=>WS L a b _
def WR(L:Nat->Bool):∀(a b:List ff) (B:Nat->aT),em (a++b) L B=em b L (em a L B)
 |[],_,_=>rfl
 |e::a,b,B=>WR L a b _
def x0.at{ops:List Oper}{dt:Bool}{e:ff}:∀(pre:List ff) {post:List ff} {g:Nat->av} {B:Nat->aT},x0 E ops nt dt (pre++e::post) g B->Kt E ops nt dt (fm pre (λ_=>true) g) (em pre (λ_=>true) B) e
 |[],_,_,_,h=>h.1
 |_::pre,_,_,_,h=>x0.at pre h.2
end
def P8(e1 aU:ff)(id:Nat):Prop:=(id∈e1.wr.map (·.1)/\id∈aU.rb)\/(id∈e1.wr.map (·.1)/\id∈aU.wr.map (·.1))\/(id∈e1.rb/\id∈aU.wr.map (·.1))\/(e1.al=true/\id∈aU.wr.map (·.1))\/(aU.al=true/\id∈e1.wr.map (·.1))
def U4{a b:List Nat}(O:k∈a)(R:k∈b):Ni a b=true:=by exact ux.2 ⟨k,O,ux.2 ⟨k,R,F8 k⟩⟩
def abx{e:ff}:∀{bA:List ff},e∈bA->(e.al=true\/e.rb≠[]\/e.wr≠[])->(⟨e.i,e.al,e.rb,e.wr.map (·.1)⟩:po)∈n_ bA
 |bB::bA,h,eR=>by
  simp only[n_];rcases f'.1 h with rfl|h
  .grind
  have:=abx h eR
  grind
def VG{oL:List Nat}:∀{bA:List ff},rF oL (n_ bA)=true->bA.Pairwise λe1 aU=>∀id,P8 e1 aU id->Nat.testBit (oL.getD aU.i 0) e1.i=true
 |[],_=>List.Pairwise.nil
 |e::bA,h=>by
  have split:rF oL (n_ bA)=true/\((e.al=true\/e.rb≠[]\/e.wr≠[])->(n_ bA).all (λg=>!((⟨e.i,e.al,e.rb,e.wr.map (·.1)⟩:po).Lz g)||Nat.testBit (oL.getD g.i 0) e.i)=true):=by
   simp only[n_]at h;cases bh:e.al<;>cases ai:e.rb<;>cases bw:e.wr<;>rw[bh,ai,bw]at h
   .grind
   all_goals
    simp only[rF,cP]at h
    grind
  refine List.Pairwise.cons (λaU u_ id hh => ?_) (VG split.1);have eR:(e.al=true\/e.rb≠[]\/e.wr≠[])/\(aU.al=true\/aU.rb≠[]\/aU.wr≠[]):=by
   have eT:∀{l:List Nat},id∈l->l≠[]:=λh e=>by rw[e]at h;simp at h
   have aCB:∀{l:List (Nat×aT)},id∈l.map (·.1)->l≠[]:=λh e=>by rw[e]at h;simp at h
   rcases hh with⟨O,R⟩|⟨O,R⟩|⟨O,R⟩|⟨O,R⟩|⟨O,R⟩
   .grind
   .grind
   .grind
   .grind
   grind
  have:=p0.1 (split.2 eR.1) _ (abx u_ eR.2);have e2:(⟨e.i,e.al,e.rb,e.wr.map (·.1)⟩:po).Lz ⟨aU.i,aU.al,aU.rb,aU.wr.map (·.1)⟩=true:=by
   unfold po.Lz;have MO:∀{l:List Nat},id∈l->WO l=true:=λh=>by
    rename_i l;cases l with
    |nil=>cases h
    |cons x l=>rfl
   rcases hh with⟨O,R⟩|⟨O,R⟩|⟨O,R⟩|⟨O,R⟩|⟨O,R⟩
   .simp only[U4 O R,Bool.true_or]
   .simp only[U4 O R,Bool.true_or,Bool.or_true]
   .simp only[U4 O R,Bool.true_or,Bool.or_true]
   .grind
   grind
  grind
def YB(oL:List Nat)(p:Nat×Nat×Nat)(i qK wr:Nat):Prop:=(Nat.land p.2.2 (qK|||wr)=0/\Nat.land p.2.1 wr=0)\/Nat.testBit (oL.getD i 0) p.1=true
def ais{ops:List Oper}{oL:List Nat}:∀{l:List Oper} {i:Nat} {dc:List (Nat×Nat×Nat)},JO ops oL i l dc=true ->
  (∀p∈dc,∀k o,l[k]?=some o->YB oL p (i+k) (k4 ops o) (Fx o)) /\
  ∀bF b2 l8 m7,bF<b2->l[bF]?=some l8->l[b2]?=some m7->YB oL (i+bF,k4 ops l8,Fx l8) (i+b2) (k4 ops m7) (Fx m7)
 |[],i,dc,_=>⟨λp _ k o h=>by simp at h,λbF b2 l8 m7 _ h _=>by simp at h⟩
 |o::l,i,dc,h=>by
  simp only[JO,cP]at h;obtain⟨O,R⟩:=h;obtain⟨eY,gT⟩:=ais R;refine⟨λp hp k dz am => ?_,λbF b2 l8 m7 bn su l3 => ?_⟩
  .cases k with
   |zero =>simp at am;subst am;have:=p0.1 O p hp;simp only[zM,cP]at this;exact this.imp (λh=>⟨fU h.1,fU h.2⟩) id
   |succ k=>
    grind
  cases b2 with
  |zero=>omega
  |succ b2=>
   cases bF with
   |zero=>
    grind
   |succ bF=>
    grind
def aeu(h:Nat.land a b=0)(O:Nat.testBit a t=true)(R:Nat.testBit b t=true):False:=by
 have:Nat.testBit (Nat.land a b) t=true:=by have af:Nat.testBit (a&&&b) t=(Nat.testBit a t&&Nat.testBit b t):=Nat.testBit_and a b t;exact af.trans (by grind)
 grind
def XZ{o:Oper}(h:o.dst=some t):Nat.testBit (Fx o) t=true:=by simp[Fx,h]
def Ad(dc:List Nat)(s:Nat)(e:Edge):Nat:=bif Region.binds .any e then s|||2^e.on|||dc.getD e.on 0 else s
def abZ{dc:List Nat}{i:Nat}:∀(l:List Edge) (s:Nat),Nat.testBit (l.foldl (Ad dc) s) i=true->Nat.testBit s i=true\/∃e∈l,Region.binds .any e=true/\(i=e.on\/Nat.testBit (dc.getD e.on 0) i=true)
 |[],s,h=>.inl h
 |e::l,s,h=>by
  rcases abZ l _ h with h|⟨bB,aC,h⟩
  .unfold Ad at h
   grind
  grind
def Y0:∀(l:List Oper) (dc:List Nat),(∃BS,mn l dc=dc++BS) /\
  ∀j o,l[j]?=some o->∃pre,pre.length=dc.length+j/\(∃BS,mn l dc=pre++BS)/\(mn l dc).getD (dc.length+j) 0=o.after.toList.foldl (Ad pre) 0
 |[],dc=>⟨⟨[],by simp[mn]⟩,λj o h=>by simp at h⟩
 |o::l,dc=>by
  obtain⟨⟨BS,O⟩,R⟩:=Y0 l (dc++[o.after.toList.foldl (Ad dc) 0]);have Hn:mn (o::l) dc=mn l (dc++[o.after.toList.foldl (Ad dc) 0]):=rfl;refine⟨⟨o.after.toList.foldl (Ad dc) 0::BS,by rw[Hn,O];simp⟩,λj dz ap => ?_⟩;cases j with
  |zero =>simp only[KR,kJ]at ap;subst ap;refine⟨dc,rfl,⟨o.after.toList.foldl (Ad dc) 0::BS,by rw[Hn,O];simp⟩,?_⟩;rw[Hn,O];simp[lS]
  |succ j =>simp only[FI]at ap;obtain⟨pre,dQ,gS,l_⟩:=R j dz ap;simp only[dd,gL,j4]at dQ l_;refine⟨pre,J,by rw[Hn];exact gS,?_⟩;rw[Hn,show dc.length+(j+1)=dc.length+(0+1)+j by omega];exact l_
def QV{ops:List Oper}{L:Nat->Bool}(e2:∀i o,ops[i]?=some o->L i=true->∀e∈o.after.toList,Region.binds .any e=true->L e.on=true):
  ∀j o,ops[j]?=some o->(∀e∈o.after.toList,Region.binds .any e=true->L e.on=true)->∀i,Nat.testBit ((mn ops []).getD j 0) i=true->L i=true:=by
 intro j;induction j using Nat.strongRecOn with
 |_ j ih=>
  intro o aK AA i ac;obtain⟨pre,dQ,⟨BS,gS⟩,l_⟩:=(Y0 ops []).2 j o aK;simp only[j4,lT]at dQ l_;rw[l_]at ac;rcases abZ _ _ ac with h|⟨e,aC,aa,h|h⟩
  .simp at h
  .rw[h];exact AA e aC aa
  have as3:=AA e aC aa;have bn:e.on<j:=by
   rcases oI e.on j with bE|bE
   .exact bE
   rw[lS,uA J]at h;simp at h
  have og:pre.getD e.on 0=(mn ops []).getD e.on 0:=by rw[gS,lS,lS,zO J]
  rw[og]at h;have cm:e.on<ops.length:=by have:=(mR.1 aK).1;omega
  exact ih e.on bn _ (km cm) (e2 _ _ (km cm) as3) i h
def LO:∀{l:List Oper} {i:Nat},wk i l=true->∀k o,l[k]?=some o->∀e∈o.after.toList,Region.binds .any e=true->e.on<i+k
 |[],_,_,k,o,h=>by simp at h
 |o::l,i,h,k,dz,am=>by
  simp only[wk,cP]at h;cases k with
  |zero =>simp at am;subst am;intro e aC aa;have:=p0.1 h.1 e aC;simpa[aa]using this
  |succ k =>intro e aC aa;have:=LO h.2 k dz am e aC aa;omega
end Yp
namespace Yp
open Go
def h3:=@List.drop_eq_getElem_cons
def ls:=@List.length_filter_le
def v6:=@List.eq_nil_iff_forall_not_mem
def zQ:=@List.take_append_drop
def CG:=@List.pairwise_cons
def KV:=@List.filter_filter
def p':=@List.mem_of_getElem?
def FZ:=@List.getElem?_map
def Qr:=@List.getElem_drop
def CF:=@Nat.lt_trichotomy
def KB:=@List.getElem_take
variable {P:Program}
section
variable {K:Kp} {w0:World} {E:dk} {nt:Nat} {ops:Array Oper} {bA:List ff}
def mB(j:Nat):Nat->Bool:=λi=>decide (i<j)
def lg(j:Nat):Nat->Bool:=λi=>decide (i<=j)
def fg(b6:Array Bool):Nat->Bool:=λi=>b6.getD i false
def KK{b6:Array Bool}(ap:j<b6.size)(i:Nat):fg (b6.setIfInBounds j true) i=(decide (i=j)||fg b6 i):=by
 unfold fg;by_cases h:i=j
 .subst h;simp[ap]
 simp[p5 (FL h),h]
structure lQ(E:dk)(nt:Nat)(ops:Array Oper)(bA:List ff)(g0:Nat->av)(B0:Nat->aT):Prop where
 is:bA.map (·.i)=List.range' 0 ops.size
 os:bA.map (·.o)=ops.toList
 valid:x0 E ops.toList nt true bA g0 B0
 slots:JO ops.toList (mn ops.toList []) 0 ops.toList []=true
 edges:wk 0 ops.toList=true
 ord:bA.Pairwise λe1 aU=>∀id,P8 e1 aU id->Nat.testBit ((mn ops.toList []).getD aU.i 0) e1.i=true
variable {g0:Nat->av} {B0:Nat->aT}
def lQ.len(f:lQ E nt ops bA g0 B0):bA.length=ops.size:=by
 have:=congrArg List.length f.is
 grind
def lQ.at(f:lQ E nt ops bA g0 B0){e:ff}(h:bA[k]?=some e):e.i=k/\ops.toList[k]?=some e.o:=by
 have O:(bA.map (·.i))[k]?=some e.i:=by rw[FZ,h];rfl
 have R:(bA.map (·.o))[k]?=some e.o:=by rw[FZ,h];rfl
 rw[f.is,List.getElem?_range']at O
 .rw[f.os]at R
  grind
 grind
def lQ.hS(f:lQ E nt ops bA g0 B0){e:ff}(h:e∈bA):bA[e.i]?=some e:=by
 obtain⟨k,am,rfl⟩:=pp h;have:=f.at (km am)
 grind
def lQ.split(f:lQ E nt ops bA g0 B0){e:ff}(h:e∈bA):∃pre post,bA=pre++e::post/\(∀x∈pre,x.i<e.i)/\(∀x∈post,e.i<x.i):=by
 have hg:=f.hS h;obtain⟨bn,aC⟩:=mR.1 hg;refine⟨bA.take e.i,bA.drop (e.i+1),?_,λx hx => ?_,λx hx => ?_⟩
 .have O:bA.drop e.i=e::bA.drop (e.i+1):=by rw[h3 bn,aC]
  rw[<- O,zQ]
 .obtain⟨k,am,rfl⟩:=pp hx
  rw[io]at am;have:bA[k]?=some (bA.take e.i)[k]:=by rw[KB];exact km J
  rw[(f.at this).1];omega
 obtain⟨k,am,rfl⟩:=pp hx;rw[eU]at am;have:bA[e.i+1+k]?=some (bA.drop (e.i+1))[k]:=by rw[Qr];exact km J
 rw[(f.at this).1];omega
def lQ.jt(f:lQ E nt ops bA g0 B0){e1 aU:ff}(O:e1∈bA)(R:aU∈bA)(bn:e1.i<aU.i){id:Nat}(h:P8 e1 aU id):Nat.testBit ((mn ops.toList []).getD aU.i 0) e1.i=true:=by
 obtain⟨pre,post,ab,og,sw⟩:=f.split O;have hp:=f.ord;rw[ab]at hp R;rcases hG.1 R with R|R
 .have:=og aU R;omega
 rcases f'.1 R with rfl|R
 .omega
 have:=(List.pairwise_append.1 hp).2.1;exact(CG.1 this).1 aU R id h
def lQ.O2(f:lQ E nt ops bA g0 B0){e1 aU:ff}(O:e1∈bA)(R:aU∈bA)(bn:e1.i<aU.i)
  (h:(e1.o.dst=some t/\(Nat.testBit (k4 ops.toList aU.o) t=true\/aU.o.dst=some t))\/(Nat.testBit (k4 ops.toList e1.o) t=true/\aU.o.dst=some t)) :
  Nat.testBit ((mn ops.toList []).getD aU.i 0) e1.i=true:=by
 have ah:=(ais f.slots).2 e1.i aU.i e1.o aU.o bn (f.at (f.hS O)).2 (f.at (f.hS R)).2;simp at ah;rcases ah with⟨c1,c2⟩|ah
 .exfalso
  rcases h with⟨d1,d2⟩|⟨d1,d2⟩
  .refine aeu c1 (XZ d1) ?_
   rcases d2 with d2|d2
   .simp[d2]
   simp[XZ d2]
  exact aeu c2 d1 (XZ d2)
 exact ah
def rW(ops:Array Oper)(L:Nat->Bool):Prop:=∀i o,ops.toList[i]?=some o->L i=true->∀e∈o.after.toList,Region.binds .any e=true->L e.on=true
structure Next(ops:Array Oper)(L:Nat->Bool)(e:ff):Prop where
 un:L e.i=false
 ed:∀x∈e.o.after.toList,Region.binds .any x=true->L x.on=true
def Next.LQ(f:lQ E nt ops bA g0 B0){L:Nat->Bool}(e2:rW ops L){e x:ff}(aC:e∈bA)(ak:Next ops L e)(aa:Nat.testBit ((mn ops.toList []).getD e.i 0) x.i=true):L x.i=true:=
 QV e2 e.i e.o (f.at (f.hS aC)).2 ak.ed x.i aa
def Next.PS(f:lQ E nt ops bA g0 B0){L:Nat->Bool}(e2:rW ops L){e x:ff}(hx:x∈bA)(ak:Next ops L e)(aa:Nat.testBit ((mn ops.toList []).getD x.i 0) e.i=true):L x.i=false:=by
 cases hL:L x.i with
 |false=>rfl
 |true =>have:=QV e2 x.i x.o (f.at (f.hS hx)).2 (e2 _ _ (f.at (f.hS hx)).2 hL) e.i aa;rw[ak.un]at this;cases this
def aAE{e:ff}{pre post:List ff}(og:∀x∈pre,x.i<e.i)(sw:∀x∈post,e.i<x.i)(t:Nat):fm (pre++e::post) (mB e.i) g0 t=fm pre (λ_=>true) g0 t:=by
 rw[WS];have O:∀(g:Nat->av),fm (e::post) (mB e.i) g t=g t:=λg=>by
  have:fm (e::post) (mB e.i) g t=fm (e::post) (λ_=>false) g t:=zq _ rfl λx hx _=>by
   rcases f'.1 hx with rfl|hx
   .simp[mB]
   have:=sw x hx;simp only[mB,decide_eq_false_iff_not];omega
  rw[this];have:∀(l:List ff) (g:Nat->av),fm l (λ_=>false) g=g:=by
   intro l;induction l with
   |nil=>intro g;rfl
   |cons y l ih=>intro g;simp only[fm];exact ih g
  rw[this]
 rw[O];exact zq pre rfl λx hx _=>by have:=og x hx;simp[mB,this]
def aiW{e:ff}{pre post:List ff}(og:∀x∈pre,x.i<e.i)(sw:∀x∈post,e.i<x.i)(id:Nat):em (pre++e::post) (mB e.i) B0 id=em pre (λ_=>true) B0 id:=by
 rw[WR];have O:∀(B:Nat->aT),em (e::post) (mB e.i) B id=B id:=λB=>by
  have:em (e::post) (mB e.i) B id=em (e::post) (λ_=>false) B id:=zp _ rfl λx hx _=>by
   rcases f'.1 hx with rfl|hx
   .simp[mB]
   have:=sw x hx;simp only[mB,decide_eq_false_iff_not];omega
  rw[this];have:∀(l:List ff) (B:Nat->aT),em l (λ_=>false) B=B:=by
   intro l;induction l with
   |nil=>intro g;rfl
   |cons y l ih=>intro g;simp only[em,cond];exact ih g
  rw[this]
 rw[O];exact zp pre rfl λx hx _=>by have:=og x hx;simp[mB,this]
def azt(f:lQ E nt ops bA g0 B0){L:Nat->Bool}(e2:rW ops L){e:ff}(aC:e∈bA)(ak:Next ops L e)(ht:Nat.testBit (k4 ops.toList e.o) t=true):fm bA L g0 t=fm bA (mB e.i) g0 t:=by
 refine zq bA rfl λx hx aJ => ?_;rcases CF x.i e.i with h|h|h
 .have:=ak.LQ f e2 aC (f.O2 hx aC h (.inl ⟨aJ,.inl ht⟩))
  simp[mB,h,this]
 .rw[h,ak.un];simp[mB]
 have:=ak.PS f e2 hx (f.O2 aC hx h (.inr ⟨ht,aJ⟩));rw[this];simp only[mB];symm;simp;omega
def ahU(f:lQ E nt ops bA g0 B0){L:Nat->Bool}(e2:rW ops L){e:ff}(aC:e∈bA)(ak:Next ops L e){id:Nat}(ht:id∈e.rb\/id∈e.wr.map (·.1)):em bA L B0 id=em bA (mB e.i) B0 id:=by
 refine zp bA rfl λx hx aJ => ?_;rcases CF x.i e.i with h|h|h
 .have:=ak.LQ f e2 aC (f.jt hx aC h (id:=id) (ht.elim (λh=>.inl ⟨aJ,h⟩) (λh=>.inr (.inl ⟨aJ,h⟩))))
  simp[mB,h,this]
 .rw[h,ak.un];simp[mB]
 have:=ak.PS f e2 hx (f.jt aC hx h (id:=id) (ht.elim (λh=>.inr (.inr (.inl ⟨h,aJ⟩))) (λh=>.inr (.inl ⟨h,aJ⟩))));rw[this];simp only[mB];symm;simp;omega
def add(L:Nat->Bool)(j:Nat):Nat->Bool:=λi=>decide (i=j)||L i
def akq(f:lQ E nt ops bA g0 B0){L:Nat->Bool}(e2:rW ops L){e:ff}(aC:e∈bA)(ak:Next ops L e):ln (fm bA L g0) e.o.dst e.v=fm bA (add L e.i) g0:=by
 funext t;by_cases aJ:e.o.dst=some t
 .have O:fm bA (add L e.i) g0 t=fm bA (lg e.i) g0 t:=zq bA rfl λx hx AP=>by
   rcases CF x.i e.i with h|h|h
   .have:=ak.LQ f e2 aC (f.O2 hx aC h (.inl ⟨AP,.inr aJ⟩))
    simp[lg,add,Qn h,this]
   .rw[h];simp[lg,add]
   have:=ak.PS f e2 hx (f.O2 aC hx h (.inl ⟨aJ,.inr AP⟩));have R:¬x.i=e.i:=J;have af:¬x.i<=e.i:=J;simp[lg,add,this,R,af]
  rw[O];obtain⟨pre,post,ab,og,sw⟩:=f.split aC;have R:∀(g:Nat->av),fm (e::post) (lg e.i) g t=e.v:=λg=>by
   simp only[fm];have:fm post (lg e.i) (bif lg e.i e.i then ln g e.o.dst e.v else g) t=fm post (λ_=>false) (bif lg e.i e.i then ln g e.o.dst e.v else g) t:=zq _ rfl λx hx _=>by have:=sw x hx;simp only[lg,decide_eq_false_iff_not];omega
   rw[this];have:∀(l:List ff) (g:Nat->av),fm l (λ_=>false) g=g:=by
    intro l;induction l with
    |nil=>intro g;rfl
    |cons y l ih=>intro g;simp only[fm];exact ih g
   rw[this];simp[lg,aJ,ln,pV]
  have af:fm bA (lg e.i) g0 t=e.v:=by rw[ab,WS];exact R _
  rw[af];simp[aJ,ln,pV]
 have O:ln (fm bA L g0) e.o.dst e.v t=fm bA L g0 t:=by
  cases aCf:e.o.dst with
  |none=>rfl
  |some d=>simp only[ln,pV];rw[if_neg];intro h;exact aJ (by grind)
 rw[O];refine zq bA rfl λx hx AP => ?_;by_cases Uj:x.i=e.i
 .have:x=e:=by
   have O:=f.hS hx;have R:=f.hS aC
   grind
  grind
 simp[add,Uj]
def akp(f:lQ E nt ops bA g0 B0){L:Nat->Bool}(e2:rW ops L){e:ff}(aC:e∈bA)(ak:Next ops L e):dG (em bA L B0) e.wr=em bA (add L e.i) B0:=by
 funext id;by_cases aJ:id∈e.wr.map (·.1)
 .have O:em bA (add L e.i) B0 id=em bA (lg e.i) B0 id:=zp bA rfl λx hx AP=>by
   rcases CF x.i e.i with h|h|h
   .have:=ak.LQ f e2 aC (f.jt hx aC h (id:=id) (.inr (.inl ⟨AP,aJ⟩)))
    simp[lg,add,Qn h,this]
   .rw[h];simp[lg,add]
   have:=ak.PS f e2 hx (f.jt aC hx h (id:=id) (.inr (.inl ⟨aJ,AP⟩)));have R:¬x.i=e.i:=J;have af:¬x.i<=e.i:=J;simp[lg,add,this,R,af]
  rw[O];obtain⟨pre,post,ab,og,sw⟩:=f.split aC;have R:∀(B:Nat->aT),em (e::post) (lg e.i) B id=oq e.wr id (B id):=λB=>by
   simp only[em];have:em post (lg e.i) (bif lg e.i e.i then dG B e.wr else B) id=em post (λ_=>false) (bif lg e.i e.i then dG B e.wr else B) id:=zp _ rfl λx hx _=>by have:=sw x hx;simp only[lg,decide_eq_false_iff_not];omega
   rw[this];have:∀(l:List ff) (g:Nat->aT),em l (λ_=>false) g=g:=by
    intro l;induction l with
    |nil=>intro g;rfl
    |cons y l ih=>intro g;simp only[em];exact ih g
   rw[this];simp[lg,dG]
  have af:em bA (lg e.i) B0 id=oq e.wr id (em pre (lg e.i) B0 id):=by rw[ab,WR];exact R _
  rw[af];exact aeK _ _ _ aJ
 have O:dG (em bA L B0) e.wr id=em bA L B0 id:=yR _ _ aJ;rw[O];refine zp bA rfl λx hx AP => ?_;by_cases Uj:x.i=e.i
 .have:x=e:=by
   have O:=f.hS hx;have R:=f.hS aC
   grind
  grind
 simp[add,Uj]
def S6{o:Oper}{mg:Bool}(O:o.guard=some (j,mg))(R:(ops.toList[j]?).bind (·.dst)=some d):Nat.testBit (k4 ops.toList o) d=true:=by
 have aa:∀(l:List Nat),d∈l->Nat.testBit (bits l) d=true:=by
  intro l h;induction l with
  |nil=>simp at h
  |cons x l ih=>
   simp only[bits,KS,zM];rcases f'.1 h with rfl|h
   .left;simp
   right;exact ih h
 refine aa _ (xR _ ?_);rw[O];simp only[aa8];cases aK:ops.toList[j]? with
 |none=>rw[aK]at R;cases R
 |some dz =>rw[aK]at R;have R:dz.dst=some d:=R;simp[R]
def aja(hT:nP P E.bv)(cC:qj P E.bv E.C)(hz:ru P E.M)(dC:pm P E K w0)(dW:∀f g,E.I f=some g->kK P f g)(f:lQ E nt ops bA g0 B0){Q:Exit->Act->World->Prop}{l':cf}{Cz:Nat->Prop}{eZ:World}{a0:Act}(eE:nt<=a0.tmps.size)
  (aQ:∀phx' aD w' a',bM K w0 phx' aD (em bA (λ_=>true) B0) w'->ct l' Cz B0 eZ phx' aD (em bA (λ_=>true) B0) w'->dF phx' (view w' aD) (em bA (λ_=>true) B0) (fm bA (λ_=>true) g0) a'->hI (er ops.toList) a0 a'->Q .normal a' w') :
  ∀(gG:Nat) (b6:Array Bool) (phx:cf) (M:Nat->Prop) (w:World) (a:Act),b6.size=ops.size->rW ops (fg b6)->((List.range ops.size).filter λi=>!(fg b6 i)).length<=gG ->
   bM K w0 phx M (em bA (fg b6) B0) w->ct l' Cz B0 eZ phx M (em bA (fg b6) B0) w->dF phx (view w M) (em bA (fg b6) B0) (fm bA (fg b6) g0) a->hI (er ops.toList) a0 a->wpAny P .any ops Q gG b6 a w:=by

 have all:∀b6:Array Bool,b6.size=ops.size->Region.ready .any ops b6=[]->∀i,i<ops.size->fg b6 i=true:=by
  intro b6 ju ai i;induction i using Nat.strongRecOn with
  |_ i ih=>
   intro ac;cases hL:fg b6 i with
   |true=>rfl
   |false=>
    exfalso;have jv:i∈Region.ready .any ops b6:=by
     rw[mem_ready];refine⟨?_,ops[i],xV ac,λe aC aa => ?_⟩
     .unfold fg at hL
      have:i<b6.size:=J;simp[this]at hL ⊢;exact hL
     have bn:=LO f.edges i ops[i] (by rw[uB];exact xV ac) e (by simpa using aC) aa;exact ih e.on J J
    rw[ai]at jv;cases jv
 have gP:∀(b6:Array Bool) (phx:cf) (M:Nat->Prop) (w:World) (a:Act),b6.size=ops.size->Region.ready .any ops b6=[]->bM K w0 phx M (em bA (fg b6) B0) w->ct l' Cz B0 eZ phx M (em bA (fg b6) B0) w ->
   dF phx (view w M) (em bA (fg b6) B0) (fm bA (fg b6) g0) a->hI (er ops.toList) a0 a->Q .normal a w:=by
  intro b6 phx M w a ju ai hm aC ab am;have hL:=all b6 ju ai;have et:∀x∈bA,fg b6 x.i=true:=λx hx=>hL _ (by have:=(mR.1 (f.hS hx)).1;rw[f.len]at this;exact this)
  have Sh:em bA (fg b6) B0=em bA (λ_=>true) B0:=funext λid=>zp bA rfl λx hx _=>et x hx;have aoO:fm bA (fg b6) g0=fm bA (λ_=>true) g0:=funext λt=>zq bA rfl λx hx _=>et x hx;rw[Sh]at hm aC ab;rw[aoO]at ab;exact aQ phx M w a hm aC ab am
 intro gG;induction gG with
 |zero=>
  intro b6 phx M w a ju e2 Mw hm aC ab am;have ai:Region.ready .any ops b6=[]:=by
   rw[v6];intro i ac;obtain⟨aq,o,aK,_⟩:=mem_ready.1 ac;have bn:i<ops.size:=(iP.1 aK).1;have:i∈(List.range ops.size).filter λi=>!(fg b6 i):=by rw[xW];refine⟨s8.2 bn,?_⟩;unfold fg;have:i<b6.size:=J;simp[this]at aq ⊢;exact aq
   rw[iR.1 (Nat.le_zero.1 Mw)]at this;cases this
  exact⟨ai,gP b6 phx M w a ju ai hm aC ab am⟩
 |succ gG ih=>
  intro b6 phx M w a ju e2 Mw hm aC ab am;refine⟨λai=>gP b6 phx M w a ju ai hm aC ab am,λj ap => ?_⟩;obtain⟨aq,o,aK,AA⟩:=mem_ready.1 ap;have bn:j<ops.size:=(iP.1 aK).1;have DH:j<b6.size:=J;have acQ:fg b6 j=false:=by unfold fg;simp[DH]at aq ⊢;exact aq

  obtain⟨e,yx⟩:∃e,bA[j]?=some e:=⟨_,km (by rw[f.len];exact bn)⟩;have jv:e∈bA:=p' yx;obtain⟨adg,yy⟩:=f.at yx;have adC:e.o=o:=by rw[uB,aK]at yy;exact(ps yy).symm
  have ak:Next ops (fg b6) e:=⟨by rw[adg];exact acQ,λx hx aa=>by rw[adC]at hx;exact AA x (by simpa using hx) aa⟩
  obtain⟨pre,post,h6,og,sw⟩:=f.split jv;have aB:=f.valid;rw[h6]at aB;obtain⟨gt,je⟩:=x0.at pre aB;have Hc:∀t,Nat.testBit (k4 ops.toList e.o) t=true->fm bA (fg b6) g0 t=fm pre (λ_=>true) g0 t:=λt ht=>by rw[azt f e2 jv ak ht,<- aAE (g0:=g0) og sw t,<- h6]
  have aqV:∀id,id∈e.rb->em bA (fg b6) B0 id=em pre (λ_=>true) B0 id:=λid hid=>by rw[ahU f e2 jv ak (.inl hid),<- aiW (B0:=B0) og sw id,<- h6]
  have ar7:(x1 ops.toList e.o (fm bA (fg b6) g0)/\∃v0,tb v0 e.v/\(sJ E e.o).a7 (fm bA (fg b6) g0) (em bA (fg b6) B0)=some (v0,dG (em bA (fg b6) B0) e.wr)) \/
    (FT ops.toList e.o (fm bA (fg b6) g0)/\e.v=.undef/\e.wr=[]) \/
    (x1 ops.toList e.o (fm bA (fg b6) g0)/\∃v0,tb v0 e.v/\xL E ops.toList e.o (fm bA (fg b6) g0) (em bA (fg b6) B0) v0 e.rb e.wr):=by
   rcases je with⟨bw,v0,AJ,_,HD⟩|⟨bw,yF,DQ,_⟩|⟨_,bw,v0,AJ,et⟩
   .left
    refine⟨?_,v0,AJ,HD rfl _ _ Hc aqV⟩;rcases bw with bw|⟨H7,mg,d,g1,cD,cQ⟩
    .exact .inl bw
    exact .inr ⟨H7,mg,d,g1,cD,by rw[Hc d (S6 g1 cD)];exact cQ⟩
   .right;left
    obtain⟨H7,mg,d,g1,cD,cQ⟩:=bw;exact⟨⟨H7,mg,d,g1,cD,by rw[Hc d (S6 g1 cD)];exact cQ⟩,yF,DQ⟩
   right;right;refine⟨?_,v0,AJ,et.congr Hc λid hid => ?_⟩
   .rcases bw with bw|⟨H7,mg,d,g1,cD,cQ⟩
    .exact .inl bw
    exact .inr ⟨H7,mg,d,g1,cD,by rw[Hc d (S6 g1 cD)];exact cQ⟩
   rw[ahU f e2 jv ak hid,<- aiW (B0:=B0) og sw id,<- h6]
  have G?:fg (b6.setIfInBounds j true)=add (fg b6) e.i:=by funext i;rw[KK DH,adg];rfl
  have asY:nt<=a.tmps.size:=by rw[am.1];exact eE
  have sq:=abt (P:=P) (Kn:=wpAny P .any ops Q gG (b6.setIfInBounds j true)) (Q:=Q) hT cC hz dC dW gt asY hm ab ar7 λphx' aD w' x bD e1 bz=>by
   rw[akp f e2 jv ak,<- G?]at bD e1 bz;rw[akq f e2 jv ak,<- G?]at bz;refine ih (b6.setIfInBounds j true) phx' aD w' _ (by simpa using ju) ?_ ?_ bD (aC.trans e1) bz (am.sub (hI.put (D:=er ops.toList) λd aJ => ?_) (λt h=>h) (λt h=>h))
   .intro i afM TW ys x hx aa
    rw[KK DH]at ys ⊢;simp only[zM,decide_eq_true_eq]at ys ⊢;right;rcases ys with ys|ys
    .subst ys
     have:afM=e.o:=by rw[yy]at TW;exact(ps TW).symm
     subst this;exact ak.ed x hx aa
    exact e2 i afM TW ys x hx aa
   .have cm:((List.range ops.size).filter λi=>!(fg (b6.setIfInBounds j true) i)).length<((List.range ops.size).filter λi=>!(fg b6 i)).length:=by
     have HL:((List.range ops.size).filter λi=>!(fg (b6.setIfInBounds j true) i))=((List.range ops.size).filter λi=>!(fg b6 i)).filter λi=>!(decide (i=j)):=by rw[KV];congr 1;funext i;rw[KK DH,Bool.not_or]
     rw[HL];have kV:j∈((List.range ops.size).filter λi=>!(fg b6 i)):=by rw[xW];exact⟨s8.2 bn,by rw[acQ];rfl⟩
     exact List.length_filter_lt_length_iff_exists.2 ⟨j,kV,bp⟩
    omega
   have:∀(l:List Oper),e.o∈l->d∈er l:=by
    intro l hl;induction l with
    |nil=>cases hl
    |cons y l ih=>
     rcases f'.1 hl with h|h
     .exact(uW y l).1 d (by rw[<- h];exact aJ)
     exact(uW y l).2 d (ih h)
   exact this _ (p' yy)
  unfold wpOp;rw[aK];simp only;rw[adC]at sq;split
  .rename_i bw;rw[if_pos bw]at sq;exact .inl sq
  rename_i bw;rw[if_neg bw]at sq;exact sq
def ayB(hT:nP P E.bv)(cC:qj P E.bv E.C)(hz:ru P E.M)(dC:pm P E K w0)(dW:∀f g,E.I f=some g->kK P f g)(jg:P.follows .mixedOrders=true)(eE:nt<=1000000){id:Nat}{s:aM}{k:aM->aP ρ}{r:ρ}
  (h:((pb E ops.toList nv nt dt true 0 ops.toList s []).bind k).bH=some r) {phx:cf} {M:Nat->Prop} {w:World} {a:Act} (hm:bM K w0 phx M s.aW w) (ab:dF phx (view w M) s.aW s.b0 a) (gH:nt<=a.tmps.size)
  {Q:Exit->Act->World->Prop}
  (aQ:∀ay phx' aD w' a',(k ay).bH=some r->d5 (er ops.toList) s ay->bM K w0 phx' aD ay.aW w'->ct phx M s.aW w phx' aD ay.aW w'->dF phx' (view w' aD) ay.aW ay.b0 a'->hI (er ops.toList) a a'->Q .normal a' w') :
  (Code.region id ops dt).wp P Q a w:=by
 obtain⟨ay,⟨bA,bz,O,R,af,au,aY,cp,dN,cx⟩,am⟩:=ag6 eE _ _ _ _ _ k r h;have gP:∀phx' aD w' a',bM K w0 phx' aD (em bA (λ_=>true) s.aW) w'->ct phx M s.aW w phx' aD (em bA (λ_=>true) s.aW) w'->dF phx' (view w' aD) (em bA (λ_=>true) s.aW) (fm bA (λ_=>true) s.b0) a'->hI (er ops.toList) a a'->Q .normal a' w':=by intro phx' aD w' a' bD e1 bz bF;rw[<- aY]at bD e1 bz;rw[<- au]at bz;exact aQ ay phx' aD w' a' am dN (by rw[cp.2];exact bD) (by rw[cp.2];exact e1) (bz.Pz cp) bF
 cases dt with
 |false =>refine wp_region_list ?_;have:=ajb (P:=P) hT cC hz dC dW (ops:=ops) (Q:=Q) bA af hm ab gH (by rw[R];exact gP);rw[R]at this;exact this
 |true=>
  obtain⟨ai,aK⟩:=cx rfl;simp only[Jg,cP]at ai;refine wp_region_any jg ?_;have f:lQ E nt ops bA s.b0 s.aW:=⟨by simpa using O,R,af,ai.2,ai.1,VG (by simpa using aK)⟩;have u5:fg (Array.replicate ops.size false)=λ_=>false:=by funext i;unfold fg;by_cases ac:i<ops.size<;>simp[ac]
  have Ba:∀(l:List ff) (B:Nat->aT),em l (λ_=>false) B=B:=by
   intro l;induction l with
   |nil=>intro g;rfl
   |cons y l ih=>intro g;simp only[em,cond];exact ih g
  have U9:∀(l:List ff) (g:Nat->av),fm l (λ_=>false) g=g:=by
   intro l;induction l with
   |nil=>intro g;rfl
   |cons y l ih=>intro g;simp only[fm,cond];exact ih g
  have iI:bM K w0 phx M s.aW { w with drawn:=w.drawn+1 }:={ hm with keep:=hm.keep,blks:=hm.blks };refine aja (P:=P) (K:=K) (w0:=w0) hT cC hz dC dW f gH gP ops.size _ phx M { w with drawn:=w.drawn+1 } a bp ?_ ?_ ?_ ?_ ?_ (hI.refl _ _)
  .intro i o _ h;rw[u5]at h;cases h
  .exact hH (ls _ _) bp
  .rw[u5,Ba];exact iI
  .rw[u5,Ba];exact⟨λ_ _=>rfl,cj.cd.refl _,λ_=>aT.cd.refl _⟩
  rw[u5,Ba,U9];exact ab
end
end Yp
namespace Yp
open Go
variable {P:Program}
section
variable {K:Kp} {w0 w:World} {phx:cf} {M:Nat->Prop} {B B':Nat->aT} {g:Nat->av} {H:cj} {E:dk}
def pF{s:aM}{m:ax α}{k:α×aM->aP β}{r:β}(h:((ax.jd s m).bind k).bH=some r):
  ∃a wr,m.a7 s.b0 s.aW=some (a,dG s.aW wr)/\(k (a,s.ek wr)).bH=some r:=by
 unfold ax.jd at h;rw[aP.fA]at h;obtain⟨a,e,O,R⟩:=ax.ag9 s m 0 [] [] _ r h;simp only[aM.Jw,aP.bind]at R;exact⟨a,e.wr,O,R⟩
def lu(phx:cf)(M:Nat->Prop)(B:Nat->aT)(U:Nat->Prop):Prop:=(∀j,(B j).fS=true->∀z,phx j=some z->¬U z.1)/\∀b,U b->M b
def lu.b3{B':Nat->aT}{U:Nat->Prop}(h:lu phx M B U)(az:∀j,(B' j).fS=true->(B j).fS=true):lu phx M B' U:=⟨λj ap=>h.1 j (az j ap),h.2⟩
def lu.Xp{aD:Nat->Prop}{U:Nat->Prop}(h:lu phx M B U)(ht:oK phx M B aD B'):lu phx aD B' U:=by refine⟨λj ap=>h.1 j (ht.2 j ap),λb aa=>iQ λak => ?_⟩;obtain⟨j,ap,z,bs,rfl⟩:=ht.1 b (h.2 b aa) ak;exact h.1 j ap z bs aa
def v8.b3{lo:Nat->Prop}{U:Nat->Prop}{aD:Nat->Prop}{e:ag}{l:List e.aG}{v:Value}(h:v8 w M lo U e l v b)(aB:(view w M).cd (view w aD))(d_:aD b):v8 w aD lo U e l v b:=by obtain⟨o,c,el,fz,cap,O,R,af,au,aY,cp,dN,cx,lC,oT⟩:=h;exact⟨o,c,el,fz,cap,O,R,af,au,aY,cp.mono aB,dN,d_,lC,oT⟩
def Xn(hm:bM K w0 phx M B w){id:Nat}{e:ag}{l:List e.aG}(az:B id=.ob e l){v:Value}(bW:off+n<=l.length)(ai:h4 phx id e off n v){U:Nat->Prop}(dD:lu phx M B U):
  bM K w0 phx M (c' B id .ft) w/\ct phx M B w phx M (c' B id .ft) w /\
   ((cut l off n=[]/\(∃a,v=.slice a 0 0)/\lu phx M (c' B id .ft) U)\/∃b,v8 w M (λb=>¬K.k b) U e (cut l off n) v b/\lu phx M (c' B id .ft) λj=>U j\/j=b):=by
 obtain⟨bD,e1⟩:=hm.ft id;refine⟨bD,e1,?_⟩;have nE:∀j,((c' B id .ft) j).fS=true->j≠id/\(B j).fS=true:=λj ap=>by
  by_cases h:j=id
  .subst h;rw[e5]at ap;cases ap
  rw[en _ _ h]at ap;exact⟨h,ap⟩
 have dK:=hm.blks id;rw[az]at dK;rcases ai with⟨O,a,R⟩|⟨b,o,m,cap,O,R,af,au,aY⟩
 .left
  exact⟨iR.1 (by rw[lY bW];exact O),⟨a,R⟩,dD.b3 λj ap=>(nE j ap).2⟩
 rcases dK.2 with⟨g1,_⟩|⟨b',dz,c,el,fz,g1,cD,cQ,gj,ld⟩
 .rw[g1]at O;cases O
 rw[O]at g1;cases g1;right;refine⟨b,⟨o+off*e.size,c,el,fz,cap,by rw[lY bW];exact R,by rw[lY bW];exact af,au,by rw[nh]at aY;omega,cD,⟨?_,λi x ac => ?_⟩,gj,ld,?_,dD.1 id (by rw[az];rfl) _ O⟩,⟨λj ap z bs ah => ?_,λj ap=>ap.elim (dD.2 j) (λh=>h▸ld)⟩⟩
 .rw[lY bW]
  have:=cQ.1;have cp:(off+n)*e.size<=l.length*e.size:=gM _ bW;rw[nh]at cp;omega
 .have et:=D7 ac
  rw[lY bW]at et;rw[GB et]at ac;have:=cQ.2 (off+i) x ac
  rwa [nh,<- j2]at this
 .exact hm.own id (by rw[az];rfl) _ O
 obtain⟨dL,adp⟩:=nE j ap;rcases ah with ah|ah
 .exact dD.1 j adp z bs ah
 exact hm.sep j id dL adp (by rw[az];rfl) z _ bs O ah
def aAQ{r:eC}{v:av}{x:r.aG}{u:Value}(h:(ai5 r v).a7 g B=some (x,B'))(hm:bM K w0 phx M B w)(ai:ba phx (view w M) B v u){U:Nat->Prop}(dD:lu phx M B U):
  ∃aD bV,bM K w0 phx aD B' w/\ct phx M B w phx aD B' w/\lu phx aD B' bV/\(∀b,U b->bV b) /\
   ∀{rs:List eC} {y:eq rs} {vs:List Value} {rY:Nat->Prop},(view w aD).cd (view w rY)->(∀b,bV b->rY b)->hK w rY (λb=>¬K.k b) rs y vs bV->hK w rY (λb=>¬K.k b) (r::rs) (x,y) (u::vs) U:=by
 cases r with
 |im t =>obtain⟨cs,aL,aD,bD,e1,eA,_,f1⟩:=B1 h hm ai;exact⟨aD,U,bD,e1,dD.Xp eA,λ_ h=>h,λaB _ hrest=>⟨cs,_,by rw[aL],(f1 rfl).mono aB,hrest⟩⟩
 |cl e=>
  cases v<;>try(cases h;done)
  .cases h
   simp only[ba]at ai;subst ai;exact⟨M,U,hm,ct.refl _ _ _ _,dD,λ_ h=>h,λaB _ hrest=>⟨none,_,rfl,aI.iM.2 ⟨none,0,rfl,b1 _,by unfold maxLen;omega,.inl rfl⟩,hrest⟩⟩
  obtain⟨ah,rfl⟩:=dP h;obtain⟨fL,rfl⟩:=jK ah;subst fL;obtain⟨a,rfl,cC⟩:=ai;exact⟨M,U,hm,ct.refl _ _ _ _,dD,λ_ h=>h,λaB _ hrest=>⟨a,_,rfl,cC.mono aB,hrest⟩⟩
 |ow e=>
  replace h:(O_ e v).a7 g B=some (x,B'):=h;have gP:∀{id:Nat} {l:List e.aG} {off n:Nat},B id=.ob e l->off+n<=l.length->h4 phx id e off n u->∃aD bV,bM K w0 phx aD (c' B id .ft) w/\ct phx M B w phx aD (c' B id .ft) w/\lu phx aD (c' B id .ft) bV/\(∀b,U b->bV b) /\
    ∀{rs:List eC} {y:eq rs} {vs:List Value} {rY:Nat->Prop},(view w aD).cd (view w rY)->(∀b,bV b->rY b)->hK w rY (λb=>¬K.k b) rs y vs bV->hK w rY (λb=>¬K.k b) (.ow e::rs) ((cut l off n:List e.aG),y) (u::vs) U:=by
   intro id l off n az bW aK;obtain⟨bD,e1,af⟩:=Xn hm az bW aK dD;rcases af with⟨af,au,aY⟩|⟨b,af,aY⟩
   .exact⟨M,U,bD,e1,aY,λ_ h=>h,λaB _ hrest=>⟨_,_,rfl,.inl ⟨af,au,hrest⟩⟩⟩
   exact⟨M,_,bD,e1,aY,λ_ h=>.inl h,λaB d_ hrest=>⟨_,_,rfl,.inr ⟨b,af.b3 aB (d_ b (.inr rfl)),hrest⟩⟩⟩
  cases v<;>try(cases h;done)
  case nil =>cases h;simp only[ba]at ai;subst ai;exact⟨M,U,hm,ct.refl _ _ _ _,dD,λ_ h=>h,λaB _ hrest=>⟨_,_,rfl,.inl ⟨rfl,⟨none,rfl⟩,hrest⟩⟩⟩
  case own id eT=>
   simp only[O_,ax.a7]at h;have ab:bJ phx (view w M) B (.own id eT) u:=ai;simp only[bJ]at ab;generalize az:B id=bl at h ab;cases bl<;>try(cases h;done)
   rename_i bB l;obtain⟨y,c7,O,R⟩:=ax.cK h;obtain⟨ah,jO⟩:=dP O;obtain⟨fL,rfl⟩:=jK ah;subst fL;cases R;rw[jO];have:=gP az (off:=0) (n:=l.length) J ab.1;rw[C4]at this;exact this
  case osl id off n=>
   simp only[O_,ax.a7]at h;have ab:bJ phx (view w M) B (.osl id off n) u:=ai;simp only[bJ]at ab;generalize az:B id=bl at h ab;cases bl<;>try(cases h;done)
   obtain⟨y,c7,O,R⟩:=ax.cK h;obtain⟨ah,jO⟩:=dP O;obtain⟨fL,rfl⟩:=jK ah;subst fL;cases R;rw[jO];exact gP az ab.1 ab.2.1
def EQ:∀{rs:List eC} {vs:List av} {us:List Value} {s:aM} {M:Nat->Prop} {ρ:Type} {k:eq rs->aP ρ} {r:ρ} {U:Nat->Prop},((o_ s rs vs).bind k).bH=some r ->
  bM K w0 phx M s.aW w->gO phx (view w M) s.aW vs us->lu phx M s.aW U->∃x aD B',(k x).bH=some r/\bM K w0 phx aD B' w/\(view w M).cd (view w aD)/\(∀b,U b->aD b)/\hK w aD (λb=>¬K.k b) rs x us U
 |[],[],[],s,M,ρ,k,r,U,h,hm,_,dD=>⟨(),M,_,h,hm,cj.cd.refl _,dD.2,rfl⟩
 |[],[],_::_,s,M,ρ,k,r,U,h,hm,hp,dD=>hp.elim
 |[],_::_,_,s,M,ρ,k,r,U,h,hm,hp,dD=>by cases h
 |_::_,[],_,s,M,ρ,k,r,U,h,hm,hp,dD=>by cases h
 |_::_,_::_,[],s,M,ρ,k,r,U,h,hm,hp,dD=>hp.elim
 |t::rs,v::vs,u::us,s,M,ρ,k,r,U,h,hm,hp,dD=>by simp only[o_]at h;rw[aP.fA]at h;obtain⟨x,wr,O,R⟩:=pF h;simp only at R;rw[aP.fA]at R;obtain⟨fV,uG,bD,e1,eA,bW,wR⟩:=aAQ O hm hp.1 dD;rw[<- aM.oc]at bD e1 eA;obtain⟨y,db,b9,bL,ca,cq,dv,e'⟩:=EQ R bD (hp.2.ext e1) eA;exact⟨(x,y),db,b9,bL,ca,e1.vw.trans cq,λb aa=>dv b (bW b aa),wR cq dv e'⟩
def t7(P:Program)(tmps:Array Value)(w:World):List ResultVar->List Value->Prop
 |[],us=>us=[]
 |.tmp t::rs,us=>∃um,us=tmps.getD t undef::um/\t7 P tmps w rs um
 |.cell a t::rs,us=>∃ad u um,us=u::um/\tmps.getD a undef=.pointer (some ad)/\(loadVar t ad).run P w=.ok u w/\t7 P tmps w rs um
def zg(hT:nP P E.bv):∀{l:List ResultVar} {s:aM} {ρ:Type} {k:List av->aP ρ} {r:ρ} {a:Act},((nN E s l).bind k).bH=some r->bM K w0 phx M s.aW w->dF phx (view w M) s.aW s.b0 a ->
  ∃vs us,(k vs).bH=some r/\gO phx (view w M) s.aW vs us/\t7 P a.tmps w l us
 |[],s,ρ,k,r,a,h,hm,ab=>⟨[],[],h,trivial,rfl⟩
 |Wu::l,s,ρ,k,r,a,h,hm,ab=>by
  simp only[nN]at h;rw[aP.fA]at h;obtain⟨v,wr,O,R⟩:=pF h;rw[aP.fA]at R;cases Wu with
  |tmp t =>simp only[agQ,ax.a7,kJ,pr]at O;obtain⟨rfl,az⟩:=O;obtain⟨vs,us,af,au,aY⟩:=zg hT R hm ab;exact⟨s.b0 t::vs,a.tmps.getD t undef::us,af,⟨ab t,au⟩,us,rfl,aY⟩
  |cell ad t=>
   obtain⟨ty,ht,O⟩:=l9 O;simp only[ax.a7]at O;have hp:=ab ad;obtain⟨az,u,g1,cD⟩:=aeD (hT _ _ ht) O hm hp;obtain⟨vs,us,af,au,aY⟩:=zg hT R hm ab;have atf:∃q,a.tmps.getD ad undef=.pointer (some q):=by
    generalize s.b0 ad=pv at O hp;cases pv<;>try(cases O;done)
    case ptr id p=>
     simp only[yQ,ax.a7]at O;have hp:bJ phx (view w M) s.aW (.ptr id p) (a.tmps.getD ad undef):=hp;simp only[bJ]at hp;generalize s.aW id=bl at O hp;cases bl<;>try(cases O;done)
     grind
    case opt id i p=>
     simp only[yQ,ax.a7]at O;have hp:bJ phx (view w M) s.aW (.opt id i p) (a.tmps.getD ad undef):=hp;simp only[bJ]at hp;generalize s.aW id=bl at O hp;cases bl<;>try(cases O;done)
     all_goals
      grind
    case ipt e l i p =>obtain⟨_,b,o,n,off,t',_,_,e⟩:=hp;exact⟨_,e⟩
   obtain⟨q,aQ⟩:=atf;rw[aQ]at g1;refine⟨v::vs,u::us,af,⟨cD,au⟩,q,u,us,rfl,aQ,?_,aY⟩;simpa[Instr.loadAt,Instr.sureAddr]using g1
def xl{fn:Func}{tmps:Array Value}{us:List Value}(h:t7 P tmps w fn.results.toList us):(results fn tmps).run P w=.ok (jD us) w:=by
 have key:∀(f:ResultVar->Sem Value),(∀t,f (.tmp t)=pure (tmps.getD t undef))->(∀a t,f (.cell a t)=do loadVar t (<- asAddr (tmps.getD a undef))) ->
   ∀(l:List ResultVar) (us:List Value),t7 P tmps w l us->(l.mapM f).run P w=Result.ok us w:=by
  intro f f1 f2 l;induction l with
  |nil=>intro us h;cases h;rfl
  |cons Wu l ih=>
   intro us h;cases Wu with
   |tmp t =>obtain⟨um,rfl,h⟩:=h;simp[UB,ih um h,f1]
   |cell a t =>obtain⟨ad,u,um,rfl,O,R,af⟩:=h;simp only[UB,f2,O,asAddr];simp[ih um af,R]
 unfold results;rw[Array.mapM_eq_mapM_toList];simp only[Sem.run_bind,Sem.run_map];rw[key _ (λ_=>rfl) (λ_ _=>rfl) _ _ h];match us with
 |[]=>rfl
 |[_]=>rfl
 |_::_::_=>rfl
end
end Yp
namespace Yp
open Go
variable {P:Program}
def i6(B B':Nat->aT):Prop:=∀id,((∃t v,B id=.box t v)\/∃s p,B id=.it s p)->B' id=B id
def i6.refl(B:Nat->aT):i6 B B:=λ_ _=>rfl
def i6.trans{B B' FB:Nat->aT}(h:i6 B B')(k:i6 B' FB):i6 B FB:=λid ac=>by have O:=h id ac;rw[k id (by grind),O]
def i6.cn{B:Nat->aT}{id:Nat}{e:ag}{l:List e.aG}(h:B id=.ob e l)(b:aT):i6 B (c' B id b):=λj ap=>by
 rw[en]
 grind
section
variable {g:Nat->av}
def ay8{eW:Bool}{id:Nat}{e:ag}{x:List e.aG}{B B':Nat->aT}(h:(t_ eW id e).a7 g B=some (x,B')):i6 B B':=by
 simp only[t_,ax.a7]at h;generalize az:B id=bl at h;cases bl<;>try(cases h;done)
 .obtain⟨y,c7,O,R⟩:=ax.cK h
  obtain⟨_,jO⟩:=dP O;cases eW with
  |false=>cases R;rw[jO];exact i6.refl _
  |true=>cases R;rw[jO];exact i6.cn az _
 obtain⟨_,O⟩:=dP h;rw[O];exact i6.refl _
def ai4{eW:Bool}:∀{pv:av} {t:ag} {x:t.aG} {B B':Nat->aT},Bd pv=true->(xu eW pv t).a7 g B=some (x,B')->i6 B B':=by
 intro pv;induction pv with
 |own id eT=>
  intro t x B B' _ h;cases t<;>try(cases h;done)
  exact ay8 h
 |osl id off n=>intro t x B B' ak;cases ak
 |two u v aL aB=>
  intro t x B B' ak h;simp only[Bd,cP]at ak;cases t<;>try(cases h;done)
  obtain⟨y,c7,O,R⟩:=ax.cK h;obtain⟨z,b9,af,au⟩:=ax.cK R;cases au;exact(aL ak.1 O).trans (aB ak.2 af)
 |agg t' u aL =>intro t x B B' ak h;have bE:(bif ag.is t' t then xu eW u t else .fail:ax t.aG).a7 g B=some (x,B'):=h;obtain⟨_,bE⟩:=gW bE;exact aL ak bE
 |sc t' y=>intro t x B B' _ h;obtain⟨_,O⟩:=dP h;rw[O];exact i6.refl _
 |kb b=>intro t x B B' _ h;obtain⟨_,O⟩:=dP h;rw[O];exact i6.refl _
 |nil=>intro t x B B' _ h;obtain⟨_,O⟩:=dP h;rw[O];exact i6.refl _
 |csl e l=>intro t x B B' _ h;obtain⟨_,O⟩:=dP h;rw[O];exact i6.refl _
 |clo f dT c_=>intro t x B B' _ h;obtain⟨_,O⟩:=dP h;rw[O];exact i6.refl _
 |_=>intro t x B B' _ h;cases h
def aga{e:ag}{pv:av}{x:List e.aG}{B B':Nat->aT}(h:(xd e pv).a7 g B=some (x,B')):i6 B B':=by
 cases pv<;>try(cases h;done)
 .obtain⟨_,h⟩:=gW (h)
  cases h;exact i6.refl _
 .rename_i id eT
  simp only[xd,ax.a7]at h;generalize az:B id=bl at h;cases bl<;>try(cases h;done)
  obtain⟨y,c7,O,R⟩:=ax.cK h;obtain⟨_,jO⟩:=dP O;cases R;rw[jO];exact i6.cn az _
 rename_i id off n;simp only[xd,ax.a7]at h;generalize az:B id=bl at h;cases bl<;>try(cases h;done)
 obtain⟨y,c7,O,R⟩:=ax.cK h;obtain⟨_,jO⟩:=dP O;cases R;rw[jO];exact i6.cn az _
def VI:∀{sh:kL} {pv:av} {x:sh.aG} {B B':Nat->aT},(Bo sh pv).a7 g B=some (x,B')->i6 B B'
 |.d t,pv,x,B,B',h=>by obtain⟨ak,h⟩:=gW (h);exact ai4 (pv:=pv) ak h
 |.o _ e,pv,x,B,B',h=>aga h
 |.p a b,pv,x,B,B',h=>by
  simp only[Bo]at h;cases ab:O6 pv with
  |none=>rw[ab]at h;cases h
  |some aBc =>rw[ab]at h;obtain⟨y,c7,O,R⟩:=ax.cK h;obtain⟨z,b9,af,au⟩:=ax.cK R;cases au;exact(VI O).trans (VI af)
end
def r0(w:World)(M:Nat->Prop)(lo:Nat->Prop):(sh:kL)->sh.aG->List Value->(Nat->Prop)->(Nat->Prop)->Prop
 |.d t,x,cs,U,bV=>aI (view w M) t x cs/\bV=U
 |.o _ e,l,cs,U,bV=>0<e.size/\∃v,cs=[v]/\v.oneCell'=true/\(((l:List e.aG)=[]/\(∃a,v=.slice a 0 0)/\bV=U)\/∃b,v8 w M lo U e l v b/\bV=λj=>U j\/j=b)
 |.p a b,x,cs,U,bV=>∃c1 c2 i7,cs=c1++c2/\r0 w M lo a x.1 c1 U i7/\r0 w M lo b x.2 c2 i7 bV
def r0.one{w:World}{M:Nat->Prop}{lo:Nat->Prop}:∀{sh:kL} {x:sh.aG} {cs:List Value} {U bV:Nat->Prop},r0 w M lo sh x cs U bV->∀v∈cs,v.oneCell'=true
 |.d t,x,cs,U,bV,h=>h.1.one
 |.o _ e,l,cs,U,bV,h=>by obtain⟨_,v,rfl,O,_⟩:=h;intro w bw;simp at bw;rw[bw];exact O
 |.p a b,x,cs,U,bV,h=>by obtain⟨c1,c2,i7,rfl,O,R⟩:=h;intro v aB;exact(hG.1 aB).elim (O.one v) (R.one v)
def r0.sub{w:World}{M:Nat->Prop}{lo:Nat->Prop}:∀{sh:kL} {x:sh.aG} {cs:List Value} {U bV:Nat->Prop},r0 w M lo sh x cs U bV->∀b,U b->bV b
 |.d t,x,cs,U,bV,h=>by intro b aa;rw[h.2];exact aa
 |.o _ e,l,cs,U,bV,h=>by
  obtain⟨_,v,_,_,h⟩:=h
  grind
 |.p a b,x,cs,U,bV,h=>by obtain⟨c1,c2,i7,_,O,R⟩:=h;exact λb aa=>R.sub b (O.sub b aa)
def r0.b3{w:World}{M aD:Nat->Prop}{lo:Nat->Prop}(aB:(view w M).cd (view w aD)):∀{sh:kL} {x:sh.aG} {cs:List Value} {U bV:Nat->Prop},r0 w M lo sh x cs U bV->(∀b,bV b->aD b)->r0 w aD lo sh x cs U bV
 |.d t,x,cs,U,bV,h,_=>⟨h.1.mono aB,h.2⟩
 |.o _ e,l,cs,U,bV,h,d_=>by
  obtain⟨aq,v,O,R,h⟩:=h;refine⟨aq,v,O,R,?_⟩;rcases h with h|⟨b,h,af⟩
  .grind
  exact .inr ⟨b,h.b3 aB (d_ b (by grind)),af⟩
 |.p a b,x,cs,U,bV,h,d_=>by obtain⟨c1,c2,i7,aq,O,R⟩:=h;exact⟨c1,c2,i7,aq,O.b3 aB (λb aa=>d_ b (R.sub b aa)),R.b3 aB d_⟩
section
variable {K:Kp} {w0 w:World} {phx:cf} {M:Nat->Prop} {B B':Nat->aT} {g:Nat->av}
def aAb{H:cj}{pv u v:av}{aiQ oA:ag}{cs:List Value}(h:O6 pv=some (u,v))(ai:fh phx H B pv (.pair aiQ oA) cs):∃c1 c2,cs=c1++c2/\fh phx H B u aiQ c1/\fh phx H B v oA c2:=by
 cases pv<;>try(cases h;done)
 .rename_i t x
  cases t<;>try(cases h;done)
  cases h;obtain⟨e,cC⟩:=ai;cases e;obtain⟨c1,c2,aq,O,R⟩:=aI.m9.1 cC;exact⟨c1,c2,aq,⟨rfl,O⟩,rfl,R⟩
 cases h;exact ai
def af9{e:ag}{pv:av}{x:List e.aG}{v:Value}(h:(xd e pv).a7 g B=some (x,B'))(hm:bM K w0 phx M B w)(ai:bJ phx (view w M) B pv v){U:Nat->Prop}(dD:lu phx M B U):
  0<e.size/\v.oneCell'=true/\∃bV,bM K w0 phx M B' w/\ct phx M B w phx M B' w/\lu phx M B' bV/\((x=[]/\(∃a,v=.slice a 0 0)/\bV=U)\/∃b,v8 w M (λb=>¬K.k b) U e x v b/\bV=λj=>U j\/j=b):=by
 cases pv<;>try(cases h;done)
 .obtain⟨aq,h⟩:=gW (show(bif Nat.blt 0 e.size then .ret []else .fail:ax (List e.aG)).a7 g B=some (x,B') from h)
  cases h;simp only[bJ]at ai;subst ai;exact⟨by simpa using aq,rfl,U,hm,ct.refl _ _ _ _,dD,.inl ⟨rfl,⟨none,rfl⟩,rfl⟩⟩
 .rename_i id eT
  simp only[xd,ax.a7]at h;have dK:=hm.blks id;simp only[bJ]at ai;generalize az:B id=bl at h ai dK;cases bl<;>try(cases h;done)
  rename_i bB l;obtain⟨y,c7,O,R⟩:=ax.cK h;obtain⟨ah,jO⟩:=dP O;obtain⟨fL,rfl⟩:=jK ah;subst fL;cases R;rw[jO];obtain⟨bD,e1,af⟩:=Xn hm az (off:=0) (n:=l.length) J ai.1 dD;rw[C4]at af;obtain⟨ad,c,aB⟩:=ai.1.slice;refine⟨dK.1,by rw[aB];rfl,?_⟩;rcases af with⟨af,au,aY⟩|⟨b,af,aY⟩
  .exact⟨U,bD,e1,aY,.inl ⟨af,au,rfl⟩⟩
  exact⟨_,bD,e1,aY,.inr ⟨b,af,rfl⟩⟩
 rename_i id off n;simp only[xd,ax.a7]at h;have dK:=hm.blks id;simp only[bJ]at ai;generalize az:B id=bl at h ai dK;cases bl<;>try(cases h;done)
 rename_i bB l;obtain⟨y,c7,O,R⟩:=ax.cK h;obtain⟨ah,jO⟩:=dP O;obtain⟨fL,rfl⟩:=jK ah;subst fL;cases R;rw[jO];obtain⟨bD,e1,af⟩:=Xn hm az ai.1 ai.2.1 dD;obtain⟨ad,c,aB⟩:=ai.2.1.slice;refine⟨dK.1,by rw[aB];rfl,?_⟩;rcases af with⟨af,au,aY⟩|⟨b,af,aY⟩
 .exact⟨U,bD,e1,aY,.inl ⟨af,au,rfl⟩⟩
 exact⟨_,bD,e1,aY,.inr ⟨b,af,rfl⟩⟩
def VH:∀{sh:kL} {pv:av} {x:sh.aG} {M:Nat->Prop} {B B':Nat->aT} {cs:List Value} {U:Nat->Prop},(Bo sh pv).a7 g B=some (x,B')->bM K w0 phx M B w->fh phx (view w M) B pv (E4 sh) cs->lu phx M B U ->
  ∃aD bV,bM K w0 phx aD B' w/\ct phx M B w phx aD B' w/\lu phx aD B' bV/\r0 w aD (λb=>¬K.k b) sh x cs U bV
 |.d t,pv,x,M,B,B',cs,U,h,hm,ai,dD=>by obtain⟨_,h⟩:=gW (h);obtain⟨aD,bD,e1,eA,_,f1⟩:=J3 (pv:=pv) h hm ai;exact⟨aD,U,bD,e1,dD.Xp eA,f1 rfl,rfl⟩
 |.o _ e,pv,x,M,B,B',cs,U,h,hm,ai,dD=>by
  have bE:(xd e pv).a7 g B=some (x,B'):=h;have kr:∃v,cs=[v]/\bJ phx (view w M) B pv v:=by
   cases pv<;>try(cases bE;done)
   all_goals (obtain⟨_,v,O,_,R⟩:=ai;exact⟨v,O,R⟩)
  obtain⟨v,rfl,kr⟩:=kr;obtain⟨aq,O,bV,bD,e1,eA,R⟩:=af9 bE hm kr dD;exact⟨M,bV,bD,e1,eA,aq,v,rfl,O,R⟩
 |.p a b,pv,x,M,B,B',cs,U,h,hm,ai,dD=>by
  simp only[Bo]at h;cases ab:O6 pv with
  |none=>rw[ab]at h;cases h
  |some aBc =>rw[ab]at h;obtain⟨y,c7,O,R⟩:=ax.cK h;obtain⟨z,b9,af,au⟩:=ax.cK R;cases au;obtain⟨c1,c2,rfl,eY,gT⟩:=aAb ab ai;obtain⟨fV,uG,bD,e1,eA,f1⟩:=VH O hm eY dD;obtain⟨db,akh,cr,aU,e?,f2⟩:=VH af bD (e1.bv gT) eA;exact⟨db,akh,cr,e1.trans aU,e?,c1,c2,uG,rfl,f1.b3 aU.vw (λb aa=>e?.2 b (f2.sub b aa)),f2⟩
end
def h2(phx:cf)(w:World)(M:Nat->Prop)(B:Nat->aT)(lo:Nat->Prop)(a:Act):(es:List fe)->ns es->(Nat->Prop)->(Nat->Prop)->Prop
 |[],_,U,bV=>bV=U
 |.sl i t::r,x,U,bV=>(∃cs,aI (view w M) t x.1 cs/\a.tmps.getD i undef=cB t cs)/\h2 phx w M B lo a r x.2 U bV
 |.ow i _ e::r,x,U,bV=>0<e.size/\∃i7,(((x.1:List e.aG)=[]/\(∃ad,a.tmps.getD i undef=.slice ad 0 0)/\i7=U)\/∃b,v8 w M lo U e x.1 (a.tmps.getD i undef) b/\i7=λj=>U j\/j=b)/\h2 phx w M B lo a r x.2 i7 bV
 |.bk id e::r,x,U,bV=>B id=.ob e x.1/\h2 phx w M B lo a r x.2 U bV
 |.bx id t sh::r,x,U,bV=>(∃v,B id=.box t v)/\E4 sh=t/\∃b o c el fz i7,phx id=some (b,o,Array.size c)/\w.heap[b]?=some (.cells c el fz)/\o+t.size<=c.size/\iD c fz/\M b/\r0 w M lo sh x.1 (cM c o t.size) U i7/\h2 phx w M B lo a r x.2 i7 bV
 |.it id _::r,x,U,bV=>(∃s,B id=.it s x.1)/\h2 phx w M B lo a r x.2 U bV
def h2.sub{phx:cf}{w:World}{M:Nat->Prop}{B:Nat->aT}{lo:Nat->Prop}{a:Act}:∀{es:List fe} {x:ns es} {U bV:Nat->Prop},h2 phx w M B lo a es x U bV->∀b,U b->bV b
 |[],_,U,bV,h=>by intro b aa;have h:bV=U:=h;rw[h];exact aa
 |.sl i t::r,x,U,bV,h=>h.2.sub
 |.ow i _ e::r,x,U,bV,h=>by
  obtain⟨_,i7,O,R⟩:=h;intro b aa;refine R.sub b ?_
  grind
 |.bk id e::r,x,U,bV,h=>h.2.sub
 |.bx id t sh::r,x,U,bV,h=>by obtain⟨_,_,b,o,c,el,fz,i7,_,_,_,_,_,O,R⟩:=h;exact λb aa=>R.sub b (O.sub b aa)
 |.it id s::r,x,U,bV,h=>h.2.sub
end Yp
namespace Yp
open Go
def p7:=@List.nodup_append
def F3:=@List.map_append
def Qs:=@List.sublist_cons_self
def Ym:=@List.Sublist.append_left
def PY:=@List.nodup_cons
variable {P:Program}
section
variable {K:Kp} {w0 w:World} {phx:cf} {M:Nat->Prop} {B B':Nat->aT} {g:Nat->av} {a:Act}
def i6.box{B B':Nat->aT}(h:i6 B B'){id:Nat}{t:ag}{v:av}(aa:B id=.box t v):B' id=.box t v:=(h id (.inl ⟨t,v,aa⟩)).trans aa
def i6.it{B B':Nat->aT}(h:i6 B B'){id:Nat}{s:List UInt8}{p:Nat}(aa:B id=.it s p):B' id=.it s p:=(h id (.inr ⟨s,p,aa⟩)).trans aa
def Bn:∀{es:List fe} {s:aM} {M:Nat->Prop} {U:Nat->Prop} {ρ:Type} {k:ns es×aM->aP ρ} {r:ρ},((sL s es).bind k).bH=some r->bM K w0 phx M s.aW w->dF phx (view w M) s.aW s.b0 a->lu phx M s.aW U ->
  ∃y ay db bV,(k (y,ay)).bH=some r/\bM K w0 phx db ay.aW w/\ct phx M s.aW w phx db ay.aW w/\ay.b0=s.b0/\d5 [] s ay/\i6 s.aW ay.aW/\lu phx db ay.aW bV/\h2 phx w db ay.aW (λb=>¬K.k b) a es y U bV
 |[],s,M,U,ρ,k,r,h,hm,ab,dD=>⟨(),s,M,U,h,hm,ct.refl _ _ _ _,rfl,d5.refl _ _,i6.refl _,dD,rfl⟩
 |.bk id e::es,s,M,U,ρ,k,r,h,hm,ab,dD=>by
  simp only[sL,AU,cond_true]at h;rw[aP.fA]at h;obtain⟨y,ay,db,bV,O,cr,aU,e?,f2,rO,pf,q_⟩:=Bn h hm ab dD;rw[aP.fA]at O;simp only[Bm]at O;obtain⟨x,wr,af,au⟩:=pF O;simp only[ax.a7]at af;generalize az:ay.aW id=bl at af;cases bl<;>try(cases af;done)
  rename_i bB l;obtain⟨ah,kU⟩:=dP af;obtain⟨fL,rfl⟩:=jK ah;subst fL;rw[<- aM.oc]at kU;refine⟨(l,y),ay.ek wr,db,bV,au,by rw[kU];exact cr,by rw[kU];exact aU,by rw[aM.qS];exact e?,(f2.trans (d5.ek wr [])).mono bp,by rw[kU];exact rO,by rw[kU];exact pf,?_⟩;rw[kU];exact⟨az,q_⟩
 |.sl i t::es,s,M,U,ρ,k,r,h,hm,ab,dD=>by simp only[sL,AU,cond_false]at h;rw[aP.fA]at h;simp only[Bm]at h;obtain⟨x,wr,O,R⟩:=pF h;simp only at R;rw[aP.fA]at R;simp only[ax.a7]at O;obtain⟨wP,O⟩:=gW (show(bif Bd (s.b0 i) then nb true t (s.b0 i) else .fail:ax t.aG).a7 _ _=some (x,_) from O);obtain⟨cs,aB,fV,bD,e1,eA,_,f1⟩:=B1 O hm (ab i);have e4:=ai4 (pv:=s.b0 i) wP O;rw[<- aM.oc]at bD e1 eA e4;obtain⟨y,ay,db,bV,af,cr,aU,e?,f2,rO,pf,q_⟩:=Bn R bD (by rw[aM.qS];exact ab.ext e1) (dD.Xp eA);exact⟨(x,y),ay,db,bV,af,cr,e1.trans aU,e?.trans (aM.qS s wr),((d5.ek wr []).trans f2).mono bp,e4.trans rO,pf,⟨cs,(f1 rfl).mono aU.vw,aB⟩,q_⟩
 |.ow i id e::es,s,M,U,ρ,k,r,h,hm,ab,dD=>by
  simp only[sL,AU,cond_false]at h;rw[aP.fA]at h;simp only[Bm]at h;obtain⟨x,wr,O,R⟩:=pF h;simp only at R;rw[aP.fA]at R;simp only[ax.a7]at O;have kr:bJ phx (view w M) s.aW (s.b0 i) (a.tmps.getD i undef):=by
   have ai:=ab i;generalize s.b0 i=pv at O ai;cases pv<;>try(cases O;done)
   all_goals exact ai
  obtain⟨aq,hone,uG,bD,e1,eA,f1⟩:=af9 O hm kr dD;have e4:=aga O;rw[<- aM.oc]at bD e1 eA e4;obtain⟨y,ay,db,bV,af,cr,aU,e?,f2,rO,pf,q_⟩:=Bn R bD (by rw[aM.qS];exact ab.ext e1) eA;refine⟨(x,y),ay,db,bV,af,cr,e1.trans aU,e?.trans (aM.qS s wr),((d5.ek wr []).trans f2).mono bp,e4.trans rO,pf,aq,uG,?_,q_⟩;rcases f1 with f1|⟨b,f1,f3⟩
  .exact .inl f1
  exact .inr ⟨b,f1.b3 aU.vw (pf.2 b (q_.sub b (by rw[f3];exact .inr rfl))),f3⟩
 |.bx id t sh::es,s,M,U,ρ,k,r,h,hm,ab,dD=>by
  simp only[sL,AU,cond_false]at h;rw[aP.fA]at h;simp only[Bm]at h;obtain⟨x,wr,O,R⟩:=pF h;simp only at R;rw[aP.fA]at R;simp only[ax.a7]at O;have dK:=hm.blks id;generalize az:s.aW id=bl at O dK;cases bl<;>try(cases O;done)
  rename_i t' v;obtain⟨ah,O⟩:=gW O;simp only[cP]at ah;have e1:=eX ah.1;subst e1;have sy:=eX ah.2;obtain⟨b,o,c,el,fz,g1,cD,cQ,gj,ld,tA⟩:=dK;obtain⟨fV,uG,bD,e1,eA,f1⟩:=VH O hm (by rw[sy];exact gj) dD;have e4:=VI O;rw[<- aM.oc]at bD e1 eA e4;obtain⟨y,ay,db,bV,af,cr,aU,e?,f2,rO,pf,q_⟩:=Bn R bD (by rw[aM.qS];exact ab.ext e1) eA;have kU:ay.aW id=.box t' v:=(e4.trans rO).box az;have aq1:db b:=by have:=cr.blks id;rw[kU]at this;obtain⟨b',dz,cO,yg,qo,bL,_,_,_,_,ma⟩:=this;rw[g1]at bL;simp only[kJ,pr]at bL;rw[bL.1];exact ma
  exact⟨(x,y),ay,db,bV,af,cr,e1.trans aU,e?.trans (aM.qS s wr),((d5.ek wr []).trans f2).mono bp,e4.trans rO,pf,⟨v,kU⟩,sy,b,o,c,el,fz,uG,g1,cD,cQ,ld,aq1,
   f1.b3 aU.vw (λb aa=>pf.2 b (q_.sub b aa)),q_⟩
 |.it id str::es,s,M,U,ρ,k,r,h,hm,ab,dD=>by
  simp only[sL,AU,cond_false]at h;rw[aP.fA]at h;simp only[Bm]at h;obtain⟨x,wr,O,R⟩:=pF h;simp only at R;rw[aP.fA]at R;simp only[ax.a7]at O;generalize az:s.aW id=bl at O;rcases bl with _|_|_|_|_|⟨aAp,p⟩|_
  .cases O
  .cases O
  .cases O
  .cases O
  .cases O
  .have yr:=ps (show some ((p:Nat),s.aW)=some ((x:Nat),dG s.aW wr) from O)
   have hx:p=x:=congrArg Prod.fst yr;have jO:s.aW=dG s.aW wr:=congrArg Prod.snd yr;rw[<- aM.oc]at jO;obtain⟨y,ay,db,bV,af,cr,aU,e?,f2,rO,pf,q_⟩:=Bn R (by rw[<- jO];exact hm) (by rw[aM.qS,<- jO];exact ab) (by rw[<- jO];exact dD);rw[<- jO]at aU rO;exact⟨(x,y),ay,db,bV,af,cr,aU,e?.trans (aM.qS s wr),((d5.ek wr []).trans f2).mono bp,rO,pf,⟨aAp,by rw[<- hx];exact rO.it az⟩,q_⟩
  cases O
def aT.cd.trans{a b c:aT}(h:a.cd b)(k:b.cd c):a.cd c:=by cases a<;>cases b<;>cases c<;>simp only[aT.cd]at h k ⊢ <;> first|exact h.elim|exact k.elim|trivial|exact h.trans k|exact⟨h.1.trans k.1,h.2.trans k.2⟩|exact⟨h.trans k.1,k.2⟩|(obtain⟨O,R⟩:=h;obtain⟨rfl,au⟩:=k;exact⟨by rw[O,au],R⟩)
def Cq(phx:cf)(B:Nat->aT)(Uf A:Nat->Prop):Prop:=∀j,(B j).fS=true->∀z,phx j=some z->¬Uf z.1\/A z.1
def YK(hm:bM K w0 phx M B w){id:Nat}(hid:B id=.new){e:ag}(dM:0<e.size){l:List e.aG}{v:Value}{U bV Uf A:Nat->Prop}
  (h:(l=[]/\(∃ad,v=.slice ad 0 0)/\bV=U)\/∃b,v8 w M (λb=>¬K.k b) U e l v b/\bV=λj=>U j\/j=b) (nB:∀b,bV b->Uf b) (dx:∀b,A b->bV b->U b) (cE:Cq phx B Uf A) :
  ∃phx',bM K w0 phx' M (c' B id (.ob e l)) w/\ct phx M B w phx' M (c' B id (.ob e l)) w/\bJ phx' (view w M) (c' B id (.ob e l)) (.own id false) v/\(∀j,j≠id->phx' j=phx j)/\Cq phx' (c' B id (.ob e l)) Uf (λb=>A b\/(bV b/\¬U b)):=by
 rcases h with⟨rfl,⟨ad,rfl⟩,rfl⟩|⟨b,⟨o,c,el,fz,cap,rfl,bF,b2,dy,fl,fZ,kd,kY,kZ,vk⟩,rfl⟩
 .obtain⟨bD,e1⟩:=hm.wd hid (.ob e []) none (λ_ y hy=>by cases hy) (λ_ y hy=>by cases hy) (λ_=>⟨dM,.inl ⟨mO _ _ _,rfl⟩⟩)
  refine⟨_,bD,e1,?_,λj ap=>rS _ _ ap,λj ap z bs => ?_⟩
  .simp only[bJ,e5]
   exact⟨.inl ⟨rfl,ad,rfl⟩,λh=>by cases h⟩
  by_cases dL:j=id
  .subst dL;rw[mO]at bs;cases bs
  rw[en _ _ dL]at ap;rw[rS _ _ dL]at bs;exact(cE j ap z bs).imp (λh=>h) .inl
 obtain⟨bD,e1⟩:=hm.wd hid (.ob e l) (some (b,o,c.size)) (λ_ y hy am=>by cases hy;exact kZ am) (λ_ y hy j ap z bs ah=>by
   rcases cE j ap z bs with h|h
   .grind
   exact vk (by grind)) (λ_=>⟨dM,.inr ⟨b,o,c,el,fz,mO _ _ _,fl,fZ,kd,kY⟩⟩)
 refine⟨_,bD,e1,?_,λj ap=>rS _ _ ap,λj ap z bs => ?_⟩
 .simp only[bJ,e5]
  exact⟨.inr ⟨b,o,c.size,cap,mO _ _ _,bp,bF,b2,by simpa using dy⟩,λh=>by cases h⟩
 by_cases dL:j=id
 .subst dL;rw[mO]at bs;cases bs;exact .inr (.inr ⟨.inr rfl,vk⟩)
 rw[en _ _ dL]at ap;rw[rS _ _ dL]at bs;exact(cE j ap z bs).imp (λh=>h) .inl
def af7(B:Nat->aT):∀(l m:List (Nat×aT)),dG B (l++m)=dG (dG B m) l
 |[],m=>rfl
 |(i,b)::l,m=>by rw[mi,y4,af7 B l m,y4]
def Uu{Uf:Nat->Prop}:∀{sh:kL} {x:sh.aG} {cs:List Value} {U bV A:Nat->Prop} {B:Nat->aT} {phx:cf},bM K w0 phx M B w->(∀id∈md sh,B id=.new)->(md sh).Nodup ->
  r0 w M (λb=>¬K.k b) sh x cs U bV->(∀b,bV b->Uf b)->(∀b,A b->bV b->U b)->Cq phx B Uf A ->
  ∃phx' PU,bM K w0 phx' M (dG B (g8 sh x).2) w/\ct phx M B w phx' M (dG B (g8 sh x).2) w/\fh phx' (view w M) (dG B (g8 sh x).2) (g8 sh x).1 (E4 sh) cs /\
   (∀j,j∉md sh->phx' j=phx j)/\Cq phx' (dG B (g8 sh x).2) Uf PU/\(∀b,PU b->A b\/(bV b/\¬U b))/\(g8 sh x).2.map (·.1)=md sh/\∀p∈(g8 sh x).2,∃e l,p.2=.ob e l
 |.d t,x,cs,U,bV,A,B,phx,hm,hid,hA,h,nB,dx,cE=>⟨phx,A,hm,ct.refl _ _ _ _,⟨rfl,h.1⟩,λj _=>rfl,cE,λb aa=>.inl aa,rfl,λp hp=>by simp[g8]at hp⟩
 |.o id e,x,cs,U,bV,A,B,phx,hm,hid,hA,h,nB,dx,cE=>by
  obtain⟨aq,v,rfl,O,R⟩:=h;obtain⟨phx',bD,e1,eY,dQ,bL⟩:=YK hm (hid id (by simp[md])) aq R nB dx cE;have az:dG B (g8 (.o id e) x).2=c' B id (.ob e x):=by show dG B [(id,.ob e x)]=_;rw[y4];rfl
  rw[az];refine⟨phx',_,bD,e1,⟨rfl,v,rfl,O,eY⟩,λj ap => ?_,bL,λb aa=>aa,rfl,λp hp => ?_⟩
  .have:j≠id:=by simpa[md]using ap
   grind
  have:p=(id,.ob e x):=by simpa[g8]using hp
  grind
 |.p a b,x,cs,U,bV,A,B,phx,hm,hid,hA,h,nB,dx,cE=>by
  obtain⟨c1,c2,i7,rfl,f1,f2⟩:=h;simp only[md,p7]at hA;obtain⟨me,jC,qD⟩:=hA;have As:∀b,i7 b->bV b:=f2.sub;have dD:∀b,U b->i7 b:=f1.sub;obtain⟨hU,X?,bD,e1,eY,dQ,bL,cN,bF,l8⟩:=Uu (sh:=b) hm (λid ac=>hid id (by simp[md,ac])) jC f2 nB (λb aa aL=>dD b (dx b aa aL)) cE;obtain⟨jS,ajN,cr,aU,gT,gS,ca,cX,b2,m7⟩:=Uu (sh:=a) (B:=dG B (g8 b x.2).2) bD (λid ac=>by
   have:dG B (g8 b x.2).2 id=B id:=yR _ _ (by grind);rw[this];exact hid id (by simp[md,ac])) me f1 (λb aa=>nB b (As b aa)) (λb aa aL=>by
    rcases cN b aa with h|h
    .grind
    exact absurd aL h.2) bL
  have az:dG B (g8 (.p a b) x).2=dG (dG B (g8 b x.2).2) (g8 a x.1).2:=af7 B _ _;rw[az];refine⟨jS,ajN,cr,e1.trans aU,⟨c1,c2,rfl,gT,eY.mono aU.pl aU.vw aU.bl⟩,λj ap => ?_,ca,λb' aa => ?_,by simp only[g8,F3,bF,b2,md],λp hp => ?_⟩
  .simp only[md,hG,not_or]at ap
   grind
  .grind
  simp only[g8,hG]at hp
  grind
def dF.mc{H:cj}{s:aM}{B:Nat->aT}(ab:dF phx H B s.b0 a){v:av}(h:ba phx H B v (a.tmps.getD i undef)):dF phx H B (s.mc i v).b0 a:=by
 intro t;by_cases ht:t=i
 .subst ht
  rcases s.G0 t v with bE|bE<;>rw[bE]
  .exact h
  trivial
 rw[s.wx v ht];exact ab t
def aym(hm:bM K w0 phx M B w){id:Nat}{t:ag}{u v:av}(az:B id=.box t u){c:Array Value}{el:TypeId}{fz:Nat×Nat}(O:phx id=some (b,o,c.size))(R:w.heap[b]?=some (.cells c el fz))(af:o+t.size<=c.size)(au:iD c fz)(aY:M b)
  (ai:fh phx (view w M) B v t (cM c o t.size)):bM K w0 phx M (c' B id (.box t v)) w/\ct phx M B w phx M (c' B id (.box t v)) w:=
 hm.put (by rw[az];rfl) O aY rfl rfl rfl rfl (λ_ _=>rfl) (.box t v) (by rw[az];rfl) λaC=>⟨b,o,c,el,fz,O,R,af,aC.bv ai,au,aY⟩
def nX(l':cf)(b9:Nat->aT)(phx:cf)(B:Nat->aT):List fe->Prop
 |[]=>True
 |.bk id e::r=>(phx id=l' id/\∃l,B id=.ob e l/\b9 id=.ob e l)/\nX l' b9 phx B r
 |.bx id t _::r=>(phx id=l' id/\B id=.box t .bad)/\nX l' b9 phx B r
 |.it id _::r=>(phx id=l' id/\∃s p,B id=.it s p/\b9 id=.it s p)/\nX l' b9 phx B r
 |_::r=>nX l' b9 phx B r
def nX.congr{l':cf}{b9:Nat->aT}{phx phx':cf}{B B':Nat->aT}:∀{es:List fe},nX l' b9 phx B es->(∀id∈dE es,phx' id=phx id/\B' id=B id)->nX l' b9 phx' B' es
 |[],_,_=>trivial
 |.bk id e::r,h,aQ=>by have:=aQ id (by simp[dE]);exact⟨by rw[this.1,this.2];exact h.1,nX.congr h.2 λj ap=>aQ j (by simp[dE,ap])⟩
 |.bx id t sh::r,h,aQ=>by have:=aQ id (by simp[dE]);exact⟨by rw[this.1,this.2];exact h.1,nX.congr h.2 λj ap=>aQ j (by simp[dE,ap])⟩
 |.it id s::r,h,aQ=>by have:=aQ id (by simp[dE]);exact⟨by rw[this.1,this.2];exact h.1,nX.congr h.2 λj ap=>aQ j (by simp[dE,ap])⟩
 |.sl i t::r,h,aQ=>nX.congr (es:=r) h aQ
 |.ow i id e::r,h,aQ=>nX.congr (es:=r) h aQ
def pX(B:Nat->aT)(s:aM)(es:List fe):Prop:=(∀j,j∉dE es->B j=s.aW j)/\∀j cy p,B j=.it cy p->∃sM,s.aW j=.it cy sM
def pX.cn{B:Nat->aT}{s:aM}{es es':List fe}(h:pX B s es)(id:Nat)(b:aT)(adh:∀j,j∉dE es'->j≠id->j∉dE es):pX (c' B id b) (s.oz id b) es':=by
 refine⟨λj ap => ?_,λj cy p ap => ?_⟩
 .rw[aM.An]
  by_cases dL:j=id
  .subst dL;rw[e5,e5]
  rw[en _ _ dL,en _ _ dL];exact h.1 j (adh j ap dL)
 rw[aM.An];by_cases dL:j=id
 .subst dL;rw[e5]at ap ⊢;exact⟨p,ap⟩
 rw[en _ _ dL]at ap ⊢;exact h.2 j cy p ap
def pX.over{B:Nat->aT}{s:aM}{es:List fe}(h:pX B s es):∀(l:List (Nat×aT)),pX (dG B l) (s.ek l) es
 |[]=>h
 |(i,b)::l=>by rw[y4];exact(pX.over h l).cn i b λj ap _=>ap
def DW{l':cf}{b9:Nat->aT}{Uf:Nat->Prop}:∀{es:List fe} {x:ns es} {U bV A:Nat->Prop} {s:aM} {B:Nat->aT} {phx:cf},bM K w0 phx M B w->dF phx (view w M) B s.b0 a->pX B s es->(∀id∈ig es,B id=.new)->(ig es++dE es).Nodup ->
  h2 l' w M b9 (λb=>¬K.k b) a es x U bV->nX l' b9 phx B es->(∀b,bV b->Uf b)->(∀b,A b->bV b->U b)->Cq phx B Uf A ->
  ∃ay phx',(∀(γ:Type 1) (k:aM->γ),rp s es x k=k ay)/\bM K w0 phx' M ay.aW w/\ct phx M B w phx' M ay.aW w/\dF phx' (view w M) ay.aW ay.b0 a /\
   (∀id,id∉ig es->phx' id=phx id)/\(∃ge,ay.w=ge++s.w/\(∀id∈ge,id∈ig es\/id∈dE es)/\∀id,id∉ge->ay.aW id=s.aW id)/\(∀t,t∉wm es->ay.b0 t=s.b0 t)
 |[],x,U,bV,A,s,B,phx,hm,ab,jr,_,_,_,_,_,_,_=>by have az:B=s.aW:=funext λj=>jr.1 j (by simp[dE]);subst az;exact⟨s,phx,λ_ _=>rfl,hm,ct.refl _ _ _ _,ab,λ_ _=>rfl,⟨[],rfl,λid h=>by simp at h,λ_ _=>rfl⟩,λ_ _=>rfl⟩
 |.sl i t::es,x,U,bV,A,s,B,phx,hm,ab,jr,ak,hA,fQ,h5,nB,dx,cE=>by
  obtain⟨⟨cs,f1,f2⟩,fQ⟩:=fQ;obtain⟨ay,phx',bL,ca,cq,dv,e',ma,qJ⟩:=DW (es:=es) (s:=s.mc i (.sc t x.1)) hm (ab.mc ⟨cs,f1,f2⟩) jr ak hA fQ h5 nB dx cE;refine⟨ay,phx',λγ k => ?_,ca,cq,dv,e',ma,λt' ht => ?_⟩
  .simp only[rp,DV,aM.Jx];exact bL γ k
  simp only[wm,f',not_or]at ht;rw[qJ t' ht.2];exact s.wx _ ht.1
 |.ow i id e::es,x,U,bV,A,s,B,phx,hm,ab,jr,ak,hA,fQ,h5,nB,dx,cE=>by
  obtain⟨aq,i7,f1,fQ⟩:=fQ;have AE:id∉ig es/\id∉dE es/\(ig es++dE es).Nodup:=by simp only[ig,dE,mi,PY,hG,not_or]at hA;exact⟨hA.1.1,hA.1.2,hA.2⟩
  have As:=fQ.sub;have dD:∀b,U b->i7 b:=λb aa=>by
   rcases f1 with⟨_,_,h⟩|⟨_,_,h⟩
   .rw[h];exact aa
   rw[h];exact .inl aa
  obtain⟨hU,bD,e1,eY,dQ,O⟩:=YK hm (ak id (by simp[ig])) aq f1 (λb aa=>nB b (As b aa)) (λb aa aL=>dx b aa (As b aL)) cE;obtain⟨ay,phx',bL,ca,cq,dv,e',⟨ge,ma,y8,xi⟩,qJ⟩:=DW (es:=es) (s:=(s.oz id (.ob e x.1)).mc i (.own id false)) bD (dF.mc (s:=s.oz id (.ob e x.1)) (ab.ext e1) eY)
   (pX.cn (es':=es) jr id _ λj ap _=>ap) (λj ap=>by
    have dL:j≠id:=λh=>AE.1 (h▸ap);rw[en _ _ dL];exact ak j (by simp[ig,ap])) AE.2.2 fQ (nX.congr (es:=es) h5 λj ap=>by
    have dL:j≠id:=λh=>AE.2.1 (h▸ap);exact⟨dQ j dL,en _ _ dL⟩) nB (λb aa aL=>aa.elim (λh=>dD b (dx b h aL)) (λh=>h.1)) O
  refine⟨ay,phx',λγ k => ?_,ca,e1.trans cq,dv,λj ap => ?_,⟨ge++[id],by rw[ma];simp[aM.mc,aM.oz],λj ap => ?_,λj ap => ?_⟩,λt' ht => ?_⟩
  .simp only[rp,DV,aM.Jv,aM.Jx];exact bL γ k
  .simp only[ig,f',not_or]at ap
   rw[e' j ap.2,dQ j ap.1]
  .simp only[hG,s_]at ap
   rcases ap with ap|ap
   .rcases y8 j ap with h|h
    .exact .inl (by simp[ig,h])
    exact .inr (by simpa[dE]using h)
   exact .inl (by simp[ig,ap])
  .simp only[hG,s_,not_or]at ap
   rw[xi j ap.1];show(s.oz id (.ob e x.1)).aW j=s.aW j;rw[aM.An,en _ _ ap.2]
  simp only[wm,f',not_or]at ht;rw[qJ t' ht.2];exact aM.wx _ _ ht.1
 |.bk id e::es,x,U,bV,A,s,B,phx,hm,ab,jr,ak,hA,fQ,h5,nB,dx,cE=>by
  obtain⟨f1,fQ⟩:=fQ;obtain⟨⟨_,l,g1,cD⟩,h5⟩:=h5;rw[f1]at cD;have G9:c' B id (.ob e x.1)=B:=by
   funext j;by_cases ap:j=id
   .subst ap;rw[e5,g1,cD]
   rw[en _ _ ap]
  have AE:(ig es++dE es).Nodup:=by simp only[ig,dE]at hA;exact hA.sublist (Ym (Qs _ _) _)
  have Au:=pX.cn (es':=es) jr id (.ob e x.1) λj ap dL=>by simp[dE,ap,dL]
  rw[G9]at Au;obtain⟨ay,phx',bL,ca,cq,dv,e',⟨ge,ma,y8,xi⟩,qJ⟩:=DW (es:=es) (s:=s.oz id (.ob e x.1)) (phx:=phx) hm ab Au ak AE fQ h5 nB dx cE;refine⟨ay,phx',λγ k => ?_,ca,cq,dv,e',⟨ge++[id],by rw[ma];simp[aM.oz],λj ap => ?_,λj ap => ?_⟩,qJ⟩
  .simp only[rp,DV,aM.Jv];exact bL γ k
  .simp only[hG,s_]at ap
   rcases ap with ap|ap
   .exact(y8 j ap).imp (λh=>by simpa[ig]using h) (λh=>by simp[dE,h])
   exact .inr (by simp[dE,ap])
  simp only[hG,s_,not_or]at ap;rw[xi j ap.1,aM.An,en _ _ ap.2]
 |.it id str::es,x,U,bV,A,s,B,phx,hm,ab,jr,ak,hA,fQ,h5,nB,dx,cE=>by
  obtain⟨⟨cy,f1⟩,fQ⟩:=fQ;obtain⟨⟨_,rN,p,g1,cD⟩,h5⟩:=h5;rw[f1]at cD;cases cD;obtain⟨sM,h6⟩:=jr.2 id cy x.1 g1;have G9:c' B id (.it cy x.1)=B:=by
   funext j;by_cases ap:j=id
   .subst ap;rw[e5,g1]
   rw[en _ _ ap]
  have AE:(ig es++dE es).Nodup:=by simp only[ig,dE]at hA;exact hA.sublist (Ym (Qs _ _) _)
  have Au:=pX.cn (es':=es) jr id (.it cy x.1) λj ap dL=>by simp[dE,ap,dL]
  rw[G9]at Au;obtain⟨ay,phx',bL,ca,cq,dv,e',⟨ge,ma,y8,xi⟩,qJ⟩:=DW (es:=es) (s:=s.oz id (.it cy x.1)) (phx:=phx) hm ab Au ak AE fQ h5 nB dx cE;refine⟨ay,phx',λγ k => ?_,ca,cq,dv,e',⟨ge++[id],by rw[ma];simp[aM.oz],λj ap => ?_,λj ap => ?_⟩,qJ⟩
  .simp only[rp,DV,h6,aM.Jv];exact bL γ k
  .simp only[hG,s_]at ap
   rcases ap with ap|ap
   .exact(y8 j ap).imp (λh=>by simpa[ig]using h) (λh=>by simp[dE,h])
   exact .inr (by simp[dE,ap])
  simp only[hG,s_,not_or]at ap;rw[xi j ap.1,aM.An,en _ _ ap.2]
 |.bx id t sh::es,x,U,bV,A,s,B,phx,hm,ab,jr,ak,hA,fQ,h5,nB,dx,cE=>by
  obtain⟨_,sy,b,o,c,el,fz,i7,g1,cD,cQ,gj,ld,f1,fQ⟩:=fQ;obtain⟨⟨dX,az⟩,h5⟩:=h5;simp only[ig,dE]at ak hA;have asS:(md sh).Nodup:=(p7.1 (p7.1 hA).1).1;have asT:(ig es++dE es).Nodup:=by refine hA.sublist ?_;exact(List.sublist_append_right _ _).append (Qs _ _)
  have Tw:∀j,j∈md sh->j∉ig es/\j≠id/\j∉dE es:=λj ap=>by
   refine⟨λah=>(p7.1 (p7.1 hA).1).2.2 j ap j ah rfl,λah => ?_,λah => ?_⟩
   .exact(p7.1 hA).2.2 j (by simp[ap]) id bp ah
   exact(p7.1 hA).2.2 j (by simp[ap]) j (by simp[ah]) rfl
  have adm:id∉ig es/\id∉dE es:=by
   refine⟨λah => ?_,λah => ?_⟩
   .exact(p7.1 hA).2.2 id (by simp[ah]) id bp rfl
   exact(PY.1 (p7.1 hA).2.1).1 ah
  have As:=fQ.sub;obtain⟨hU,X?,bD,e1,eY,dQ,O,cN,bF,l8⟩:=Uu hm (λj ap=>ak j (by simp[ap])) asS f1 (λb aa=>nB b (As b aa)) (λb aa aL=>dx b aa (As b aL)) cE;have off:∀j,j∉md sh->dG B (g8 sh x.1).2 j=B j:=λj ap=>yR _ _ (by rw[bF];exact ap);have adn:id∉md sh:=λah=>(Tw id ah).2.1 rfl;have jO:dG B (g8 sh x.1).2 id=.box t .bad:=by rw[off id adn,az]
  have atc:hU id=some (b,o,c.size):=by rw[dQ id adn,dX,g1]
  rw[sy]at eY;obtain⟨cr,aU⟩:=aym bD jO atc cD cQ gj ld eY;have aqY:Cq hU (c' (dG B (g8 sh x.1).2) id (.box t (g8 sh x.1).1)) Uf X?:=by
   intro j ap z bs;by_cases dL:j=id
   .subst dL;exact O j (by rw[jO];rfl) z bs
   rw[en _ _ dL]at ap;exact O j ap z bs
  have Au:pX (c' (dG B (g8 sh x.1).2) id (.box t (g8 sh x.1).1)) ((s.ek (g8 sh x.1).2).oz id (.box t (g8 sh x.1).1)) es:=
   (pX.over jr _).cn (es':=es) id _ λj ap dL=>by simp[dE,ap,dL]
  have hT:((s.ek (g8 sh x.1).2).oz id (.box t (g8 sh x.1).1)).b0=s.b0:=aM.qS s _;obtain⟨ay,phx',bL,ca,cq,dv,e',⟨ge,ma,y8,xi⟩,qJ⟩:=DW (es:=es) (s:=(s.ek (g8 sh x.1).2).oz id (.box t (g8 sh x.1).1)) cr (by rw[hT];exact(ab.ext e1).ext aU) Au (λj ap=>by
    have dL:j≠id:=λh=>adm.1 (h▸ap);rw[en _ _ dL,off j λah=>(Tw j ah).1 ap];exact ak j (by simp[ap])) asT fQ (nX.congr (es:=es) h5 λj ap=>by
    have dL:j≠id:=λh=>adm.2 (h▸ap);have adr:j∉md sh:=λah=>(Tw j ah).2.2 ap;exact⟨dQ j adr,by rw[en _ _ dL,off j adr]⟩) nB (λb aa aL=>by
    rcases cN b aa with h|h
    .exact f1.sub b (dx b h aL)
    exact h.1) aqY
  refine⟨ay,phx',λγ k => ?_,ca,(e1.trans aU).trans cq,dv,λj ap => ?_,⟨ge++([id]++md sh),?_,λj ap => ?_,λj ap => ?_⟩,λt' ht => ?_⟩
  .simp only[rp,DV,aM.Jw,aM.Jv];exact bL γ k
  .simp only[ig,hG,not_or]at ap
   rw[e' j ap.2,dQ j ap.1]
  .rw[ma]
   have:((s.ek (g8 sh x.1).2).oz id (.box t (g8 sh x.1).1)).w=id::(md sh++s.w):=by show id::(s.ek (g8 sh x.1).2).w=_;rw[aM.WB,bF]
   rw[this];simp
  .simp only[hG,s_]at ap
   rcases ap with ap|ap|ap
   .rcases y8 j ap with h|h
    .exact .inl (by simp[ig,h])
    exact .inr (by simp[dE,h])
   .exact .inr (by simp[dE,ap])
   exact .inl (by simp[ig,ap])
  .simp only[hG,s_,not_or]at ap
   rw[xi j ap.1,aM.An,en _ _ ap.2.1,aM.oc];exact yR _ _ (by rw[bF];exact ap.2.2)
  rw[qJ t' ht,hT]
def oN:List fe->Nat->Option ag
 |[],_=>none
 |.bx id t _::r,j=>if j=id then some t else oN r j
 |_::r,j=>oN r j
def Q8:∀{es:List fe} {id:Nat} {t:ag} {sh:kL},fe.bx id t sh∈es->∃t',oN es id=some t'
 |e::es,id,t,sh,h=>by
  rcases f'.1 h with rfl|h
  .exact⟨t,by simp[oN]⟩
  obtain⟨t',bE⟩:=Q8 h;cases e<;>simp only[oN]<;>first|exact⟨t',bE⟩|(split;exact⟨_,rfl⟩;exact⟨t',bE⟩)
def h2.box{lo:Nat->Prop}{b9:Nat->aT}:∀{es:List fe} {x:ns es} {U bV:Nat->Prop} {id:Nat} {t:ag},h2 phx w M b9 lo a es x U bV->oN es id=some t ->
  (∃v,b9 id=.box t v)/\∃b o c el fz,phx id=some (b,o,Array.size c)/\w.heap[b]?=some (.cells c el fz)/\o+t.size<=c.size/\iD c fz/\M b/\∀v∈cM c o t.size,v.oneCell'=true
 |.sl i t'::es,x,U,bV,id,t,fQ,h=>h2.box (es:=es) fQ.2 h
 |.ow i _ e::es,x,U,bV,id,t,fQ,h=>by obtain⟨_,i7,_,fQ⟩:=fQ;exact h2.box (es:=es) fQ h
 |.bk _ e::es,x,U,bV,id,t,fQ,h=>h2.box (es:=es) fQ.2 h
 |.it _ s::es,x,U,bV,id,t,fQ,h=>h2.box (es:=es) fQ.2 h
 |.bx pJ t' sh::es,x,U,bV,id,t,fQ,h=>by
  obtain⟨aB,sy,b,o,c,el,fz,i7,g1,cD,cQ,gj,ld,f1,fQ⟩:=fQ;simp only[oN]at h;split at h
  .rename_i hid
   cases h;subst hid;exact⟨aB,b,o,c,el,fz,g1,cD,cQ,gj,ld,f1.one⟩
  exact h2.box (es:=es) fQ h
def lj(eD b9:Nat->aT)(es:List fe):Nat->aT:=λid=>if AW (eD id)=true then .new else match oN es id with|some t=>.box t .bad|none=>b9 id
def tR{b:aT}:AW b=true↔b=.new:=by cases b<;>simp[AW]
def Ed{eD b9:Nat->aT}{es:List fe}{lo:Nat->Prop}(hold:∀id∈dE es,eD id ≠ .new){rU:ns es}{akf akg:Nat->Prop}(aq:h2 phx w M b9 lo a es rU akf akg):∀{r:List fe} {x:ns r} {U bV:Nat->Prop},(∀e∈r,e∈es)->(∀id∈dE r,id∈dE es)->h2 phx w M b9 lo a r x U bV->nX phx b9 phx (lj eD b9 es) r
 |[],_,_,_,_,_,_=>trivial
 |.sl i t'::r,x,U,bV,hm,aK,h=>Ed hold aq (r:=r) (λe aC=>hm e (by grind)) aK h.2
 |.ow i _ e::r,x,U,bV,hm,aK,h=>by obtain⟨_,i7,_,h⟩:=h;exact Ed hold aq (r:=r) (λe aC=>hm e (by grind)) aK h
 |.bk id e::r,x,U,bV,hm,aK,h=>by
  refine⟨⟨rfl,x.1,?_,h.1⟩,Ed hold aq (r:=r) (λe aC=>hm e (by grind)) (λj ap=>aK j (by simp[dE,ap])) h.2⟩;unfold lj;rw[if_neg (by rw[tR];exact hold id (aK id (by simp[dE])))];cases aa:oN es id with
  |none=>exact h.1
  |some t=>obtain⟨⟨v,aB⟩,_⟩:=aq.box aa;rw[h.1]at aB;cases aB
 |.it id s::r,x,U,bV,hm,aK,h=>by
  obtain⟨⟨cy,O⟩,R⟩:=h;refine⟨⟨rfl,cy,x.1,?_,O⟩,Ed hold aq (r:=r) (λe aC=>hm e (by grind)) (λj ap=>aK j (by simp[dE,ap])) R⟩;unfold lj;rw[if_neg (by rw[tR];exact hold id (aK id (by simp[dE])))];cases aa:oN es id with
  |none=>exact O
  |some t=>obtain⟨⟨v,aB⟩,_⟩:=aq.box aa;rw[O]at aB;cases aB
 |.bx id t sh::r,x,U,bV,hm,aK,h=>by
  obtain⟨⟨v,aB⟩,sy,b,o,c,el,fz,i7,g1,cD,cQ,gj,ld,f1,h⟩:=h;refine⟨⟨rfl,?_⟩,Ed hold aq (r:=r) (λe aC=>hm e (by grind)) (λj ap=>aK j (by simp[dE,ap])) h⟩;unfold lj;rw[if_neg (by rw[tR];exact hold id (aK id (by simp[dE])))];obtain⟨t',ht⟩:=Q8 (hm (.bx id t sh) bp);obtain⟨⟨cT,adX⟩,_⟩:=aq.box ht
  grind
def h2.D2{lo:Nat->Prop}{b9:Nat->aT}:∀{es:List fe} {x:ns es} {U bV:Nat->Prop},h2 phx w M b9 lo a es x U bV->∀id∈dE es,∀kt vt l,b9 id ≠ .mp kt vt l
 |[],_,_,_,_,id,ac,_,_,_=>by simp[dE]at ac
 |.sl i t'::es,x,U,bV,h,id,ac,kt,vt,l=>h2.D2 (es:=es) h.2 id ac kt vt l
 |.ow i _ e::es,x,U,bV,h,id,ac,kt,vt,l=>by obtain⟨_,i7,_,h⟩:=h;exact h2.D2 (es:=es) h id ac kt vt l
 |.bk pJ e::es,x,U,bV,h,id,ac,kt,vt,l=>by
  simp only[dE,f']at ac;rcases ac with rfl|ac
  .rw[h.1];intro h;cases h
  exact h2.D2 (es:=es) h.2 id ac kt vt l
 |.it pJ s::es,x,U,bV,h,id,ac,kt,vt,l=>by
  simp only[dE,f']at ac;rcases ac with rfl|ac
  .obtain⟨⟨cy,O⟩,_⟩:=h;rw[O];intro h;cases h
  exact h2.D2 (es:=es) h.2 id ac kt vt l
 |.bx pJ t0 ah7::es,x,U,bV,h,id,ac,kt,vt,l=>by
  simp only[dE,f']at ac;rcases ac with rfl|ac
  .obtain⟨⟨v,aB⟩,_⟩:=h;rw[aB];intro h;cases h
  obtain⟨_,_,b,o,c,el,fz,i7,_,_,_,_,_,_,h⟩:=h;exact h2.D2 (es:=es) h id ac kt vt l
def avv{eD b9:Nat->aT}{es:List fe}{lo:Nat->Prop}(hm:bM K w0 phx M b9 w){x:ns es}{U bV:Nat->Prop}(fQ:h2 phx w M b9 lo a es x U bV)(sm:∀id t v,eD id=.box t v->∀j∈dU v,eD j ≠ .new)(TQ:∀id kt vt l,eD id=.mp kt vt l->∀p∈l,∀j∈dU p.2,eD j ≠ .new)
  (pE:∀id,eD id ≠ .new->id∉dE es->b9 id=eD id) (HG:∀id∈dE es,∀t v,b9 id=.box t v->∃t',oN es id=some t') :
  bM K w0 phx M (lj eD b9 es) w/\(∀id,eD id ≠ .new->(b9 id).cd (lj eD b9 es id))/\(∀id,(lj eD b9 es id).fS=true->(b9 id).fS=true):=by
 have nE:∀id,(lj eD b9 es id).fS=true->(b9 id).fS=true:=λid h=>by
  unfold lj at h;split at h
  .cases h
  split at h
  .rename_i t ht
   obtain⟨⟨v,aB⟩,_⟩:=fQ.box ht;rw[aB];rfl
  exact h
 have bW:∀id,eD id ≠ .new->(b9 id).cd (lj eD b9 es id):=λid hid=>by
  unfold lj;rw[if_neg (by rw[tR];exact hid)];split
  .rename_i t ht
   obtain⟨⟨v,aB⟩,_⟩:=fQ.box ht;rw[aB];rfl
  exact aT.cd.refl _
 refine⟨{ hm with own:=λid h=>hm.own id (nE id h),blks:=λid => ?_,sep:=λi j js ac ap=>hm.sep i j js (nE i ac) (nE j ap) },bW,nE⟩;have dK:=hm.blks id;by_cases ak:AW (eD id)=true
 .unfold lj;rw[if_pos ak];trivial
 have hid:eD id ≠ .new:=λh=>ak (tR.2 h);cases aa:oN es id with
 |some t=>
  have TR:lj eD b9 es id=.box t .bad:=by unfold lj;rw[if_neg ak,aa]
  rw[TR];obtain⟨_,b,o,c,el,fz,g1,cD,cQ,gj,ld,tA⟩:=fQ.box aa;exact⟨b,o,c,el,fz,g1,cD,cQ,⟨qQ cQ,tA⟩,gj,ld⟩
 |none=>
  have TR:lj eD b9 es id=b9 id:=by unfold lj;rw[if_neg ak,aa]
  rw[TR];generalize az:b9 id=bl at dK;cases bl with
  |new=>trivial
  |ft=>trivial
  |ob e l=>exact dK
  |fz e l=>exact dK
  |it s p=>exact dK
  |mp kt vt l=>
   have wP:id∉dE es:=λah=>fQ.D2 id ah kt vt l az;have aq:eD id=.mp kt vt l:=by rw[<- pE id hid wP,az]
   obtain⟨b,es',n8,g1,cD,cQ,gj⟩:=dK;exact⟨b,es',n8,g1,cD,cQ.iB (λ_ _ _ _ _=>rfl) (cj.cd.refl _) (λp hp j ap=>bW j (TQ id kt vt l aq p hp j ap)),gj⟩
  |box t v=>
   have wP:id∉dE es:=λah=>by obtain⟨t',wT⟩:=HG id ah t v az;rw[aa]at wT;cases wT
   have aq:eD id=.box t v:=by rw[<- pE id hid wP,az]
   obtain⟨b,o,c,el,fz,g1,cD,cQ,gj,ld,tA⟩:=dK;exact⟨b,o,c,el,fz,g1,cD,cQ,fh.iB (λ_ _ _=>rfl) (cj.cd.refl _) (λj ap=>bW j (sm id t v aq j ap)) gj,ld,tA⟩
end
end Yp
namespace Yp
open Go
variable {P:Program}
def ajw{c:Code}{Q:Exit->Act->World->Prop}(I:Nat->Act->World->Prop)(bs:∀a w,¬I 0 a w)
  (round:∀n a w,I (n+1) a w->c.wp P (Exit.then (λa' w'=>I n a' w') Q) a w) {n:Nat} {a:Act} {w:World} (h:I n a w):(Code.loop c).wp P Q a w:=by
 intro b k cs;have key:∀n a w,I n a w->∃e a' w',Q e a' w'/\Arrives P (lone (b.at a (.code c :: .inLoop c::k)) cs w) b k cs e a' w':=by
  intro n;induction n with
  |zero=>intro a w h;exact absurd h (bs a w)
  |succ n ih=>
   intro a w dW;obtain⟨e,a₁,w₁,aQ,yu⟩:=round n a w dW b (.inLoop c::k) cs;cases e with
   |normal =>obtain⟨e₂,a₂,w₂,hq₂,harr₂⟩:=ih a₁ w₁ aQ;exact⟨e₂,a₂,w₂,hq₂,.of_steps (Steps.trans yu (.one step_inLoop)) harr₂⟩
   |exit id=>exact⟨_,a₁,w₁,aQ,.pass (x:=.inLoop c) rfl (λ_ _=>.inl bp) yu⟩
   |goto l=>exact⟨_,a₁,w₁,aQ,.pass (x:=.inLoop c) rfl (λ_ _=>.inl bp) yu⟩
   |ret=>exact⟨_,a₁,w₁,aQ,.pass (x:=.inLoop c) rfl (λ_ _=>.inl bp) yu⟩
   |panic ch=>exact⟨_,a₁,w₁,aQ,.pass (x:=.inLoop c) rfl (λ_ _=>.inl bp) yu⟩
   |outgrown=>exact⟨_,a₁,w₁,aQ,.pass (x:=.inLoop c) rfl (λ_ _=>.inl bp) yu⟩
 obtain⟨e,a',w',aQ,yu⟩:=key n a w h;exact⟨e,a',w',aQ,.of_steps (.one step_loop) yu⟩
def Ec:∀{l:List Nat} {t:Nat},t∈nr l↔t∈l
 |[],t=>by simp[nr]
 |i::l,t=>by
  simp only[nr];cases ah:l.any (Nat.beq i) with
  |true =>simp;rw[Ec];refine⟨.inr,λh=>h.elim (λh => ?_) id⟩;obtain⟨j,ap,aa⟩:=ux.1 ah;rw[h,fU aa];exact ap
  |false =>simp;rw[Ec]
def afu:∀{l:List Nat},Nx l=true->l.Nodup
 |[],_=>List.nodup_nil
 |i::l,h=>by
  simp only[Nx,cP]at h;refine PY.2 ⟨λah => ?_,afu h.2⟩;have:l.any (Nat.beq i)=true:=ux.2 ⟨i,ah,F8 i⟩
  grind
def arZ{base:aM}{es:List fe}{CN:List Nat}(h:Mx base es CN=true):
  (ig es++dE es).Nodup/\(∀id∈ig es,base.aW id=.new)/\(∀id∈dE es,base.aW id ≠ .new)/\∀i∈wm es,i∈CN:=by
 simp only[Mx,cP]at h;obtain⟨⟨⟨O,R⟩,af⟩,au⟩:=h;refine⟨afu O,λid ac=>tR.1 (p0.1 R id ac),λid ac ah => ?_,λi ac => ?_⟩
 .have:=p0.1 af id ac
  rw[ah]at this;cases this
 obtain⟨j,ap,aa⟩:=ux.1 (p0.1 au i ac);rw[fU aa];exact ap
def ao0{base:aM}{es:List fe}{s:aM}(h:C' base es s=true){ge:List Nat}(bw:s.w=ge++base.w):∀id∈ge,base.aW id=.new\/id∈dE es:=by
 intro id ac;have ht:s.w.take (s.w.length-base.w.length)=ge:=by rw[bw];simp
 unfold C' at h;rw[ht]at h;have:=p0.1 h id ac;simp only[zM]at this;rcases this with h|h
 .exact .inl (tR.1 h)
 obtain⟨j,ap,aa⟩:=ux.1 h;right;rw[fU aa];exact ap
def abw{ρ σ:Type}{jQ:Nat}{s:aM}{k:ko σ->aP ρ}{r:ρ}:∀{l:List Nat},((De jQ s l).bind k).bH=some r->(k (.ex jQ s)).bH=some r
 |[i],h=>by
  simp only[De]at h;cases ah:bX jQ i with
  |false=>rw[ah]at h;cases h
  |true=>rw[ah]at h;have:=fU ah;subst this;exact h
 |i::j::l,h=>by
  simp only[De]at h;cases ah:bX jQ i with
  |false=>rw[ah]at h;exact abw h
  |true=>rw[ah]at h;have:=fU ah;subst this;exact h
def UY{σ:Type}{f:σ->Option (aF σ ρ)}{x:σ}{o:aF σ ρ}(h:bK f x=some o):∃n,o1 f n x=some o:=by
 unfold bK at h;split at h
 .grind
 cases h
def CT:∀{es:List fe} {id:Nat} {t:ag},oN es id=some t->id∈dE es
 |.sl _ _::es,_,_,h=>CT (es:=es) h
 |.ow _ _ _::es,_,_,h=>CT (es:=es) h
 |.bk _ _::es,_,_,h=>nW _ (CT (es:=es) h)
 |.it _ _::es,_,_,h=>nW _ (CT (es:=es) h)
 |.bx pJ t' sh::es,id,t,h=>by
  simp only[oN]at h;split at h
  .rename_i e;rw[e];simp[dE]
  exact nW _ (CT h)
section
variable {K:Kp} {w0 w:World} {phx:cf} {M:Nat->Prop} {B B':Nat->aT} {g:Nat->av} {a:Act} {E:dk} {rs:List eC} {res:List ResultVar} {nv nt:Nat} {inl:Bool}
def h2.Ep{lo:Nat->Prop}{b9:Nat->aT}:∀{es:List fe} {x:ns es} {U bV:Nat->Prop},h2 phx w M b9 lo a es x U bV->∀id∈dE es,∀t v,b9 id=.box t v->∃t' sh,fe.bx id t' sh∈es
 |[],_,_,_,_,id,ac,_,_,_=>by simp[dE]at ac
 |.sl i t'::es,x,U,bV,h,id,ac,t,v,aa=>by obtain⟨t',sh,h⟩:=h2.Ep (es:=es) h.2 id ac t v aa;exact⟨t',sh,by simp[h]⟩
 |.ow i _ e::es,x,U,bV,h,id,ac,t,v,aa=>by obtain⟨_,i7,_,h⟩:=h;obtain⟨t',sh,h⟩:=h2.Ep (es:=es) h id ac t v aa;exact⟨t',sh,by simp[h]⟩
 |.bk pJ e::es,x,U,bV,h,id,ac,t,v,aa=>by
  simp only[dE,f']at ac;rcases ac with rfl|ac
  .rw[h.1]at aa;cases aa
  obtain⟨t',sh,h⟩:=h2.Ep (es:=es) h.2 id ac t v aa;exact⟨t',sh,by simp[h]⟩
 |.it pJ s::es,x,U,bV,h,id,ac,t,v,aa=>by
  simp only[dE,f']at ac;rcases ac with rfl|ac
  .obtain⟨⟨cy,O⟩,_⟩:=h;rw[O]at aa;cases aa
  obtain⟨t',sh,h⟩:=h2.Ep (es:=es) h.2 id ac t v aa;exact⟨t',sh,by simp[h]⟩
 |.bx pJ t0 ah7::es,x,U,bV,h,id,ac,t,v,aa=>by
  simp only[dE,f']at ac;rcases ac with rfl|ac
  .exact⟨t0,ah7,bp⟩
  obtain⟨_,_,b,o,c,el,fz,i7,_,_,_,_,_,_,h⟩:=h;obtain⟨t',sh,h⟩:=h2.Ep (es:=es) h id ac t v aa;exact⟨t',sh,by simp[h]⟩
structure gg(K:Kp)(w0:World)(D:List Nat)(s:aM)(phx:cf)(M:Nat->Prop)(w:World)(a:Act)(ay:aM)(phx':cf)(aD:Nat->Prop)(w':World)(a':Act):Prop where
 iw:d5 D s ay
 hS:bM K w0 phx' aD ay.aW w'
 ext:ct phx M s.aW w phx' aD ay.aW w'
 slots:dF phx' (view w' aD) ay.aW ay.b0 a'
 keep:hI D a a'
def ms(E:dk)(id:Nat):Exit:=if id=iS then .ret else match E.Pn with|some p=>if hJ<=id then .panic [{ v:=.iface p.2 (.int .i64 ((id-hJ:Nat):Int)),recovered:=false }]else .exit id|none=>.exit id
def abu{E:dk}{id:Nat}(h:id<iS):ms E id=.exit id:=by
 unfold ms;rw[if_neg J];split
 .rw[if_neg (by unfold hJ;unfold iS at h;omega)]
 rfl
def L0{E:dk}(h:E.Pn=some (m,t)):ms E (hJ+k)=.panic [{ v:=.iface t (.int .i64 (k:Int)),recovered:=false }]:=by unfold ms;rw[if_neg (by unfold hJ iS;omega),h];simp
def CA(P:Program)(K:Kp)(w0:World)(E:dk)(rs:List eC)(res:List ResultVar)(nv nt:Nat)(inl:Bool)(c:Code):Prop:=
 ∀(s:aM) (ρ:Type) (k:ko (eq rs)->aP ρ) (r:ρ),((run E rs res nv nt inl c s).bind k).bH=some r->∀(phx:cf) (M:Nat->Prop) (w:World) (a:Act),bM K w0 phx M s.aW w->dF phx (view w M) s.aW s.b0 a->nt<=a.tmps.size ->
  ∀(Q:Exit->Act->World->Prop),
   (∀ay phx' aD w' a',(k (.nx ay)).bH=some r->gg K w0 (dV c) s phx M w a ay phx' aD w' a'->Q .normal a' w') ->
   (∀id ay phx' aD w' a',(k (.ex id ay)).bH=some r->gg K w0 (dV c) s phx M w a ay phx' aD w' a'->Q (ms E id) a' w') ->
   (∀x w' a',(k (.rt x)).bH=some r->a'.defers=a.defers->(∃us,t7 P a'.tmps w' res us/\iT w0 K.x w' rs x (jD us))->Q .ret a' w')->c.wp P Q a w
def avc{b:aT}(h:b.i0=true):b ≠ .new:=by rintro rfl;cases h
def au5{b c:aT}(h:b.cd c)(ah:c=.new):b=.new:=by subst ah;cases b<;>first|rfl|exact h.elim
def ave{b:Code}(dD:E.U=false)(ih:CA P K w0 E rs res nv nt inl b):CA P K w0 E rs res nv nt inl (.loop b):=by
 intro s ρ k r h l' Cz Pw a0 hm ab gH Q _ T1 T2;simp only[run,dD,cond_false,aP.aeE,apm]at h;generalize adh:entries E.b s ((run E rs res nv nt inl b s).oZ) (nr (dV b))=es at h;generalize u?:Dd ((run E rs res nv nt inl b s).oZ)=exs at h;rw[aP.fA]at h;obtain⟨rU,bz,fV,uG,O,bD,e1,eA,f1,aCL,aAL,aoU⟩:=Bn (a:=a0) h hm ab (U:=λ_=>False) ⟨λ_ _ _ _ h=>h,λ_ h=>h.elim⟩;obtain⟨base,z7,alP,QS,ak3,bk⟩:=XS (nr (dV b)) bz;rw[bk]at O;cases TK:Mx base es (nr (dV b)) with
 |false=>rw[TK]at O;cases O
 |true=>
  rw[TK,cond_true]at O;obtain⟨hA,gc,hold,rn⟩:=arZ TK;have sm:∀id t v,base.aW id=.box t v->∀j∈dU v,base.aW j ≠ .new:=by intro id t v aa;rw[z7]at aa ⊢;have:=bD.blks id;rw[aa]at this;obtain⟨_,_,_,_,_,_,_,_,hT,_⟩:=this;exact hT.old
  have TQ:∀id kt vt l,base.aW id=.mp kt vt l->∀p∈l,∀j∈dU p.2,base.aW j ≠ .new:=by intro id kt vt l aa;rw[z7]at aa ⊢;have:=bD.blks id;rw[aa]at this;obtain⟨_,_,_,_,_,d_,_⟩:=this;exact d_.old
  have aCk:∀t,t∉nr (dV b)->∀j∈dU (base.b0 t),base.aW j ≠ .new:=by intro t ht;rw[z7,QS t ht];have:=(ab.ext e1) t;rw[<- eA]at this;exact this.old
  let FF:ns es->Act->World->Prop:=λx a w=>∃(kE:aM) (phx:cf) (M:Nat->Prop),(∀(γ:Type 1) (k:aM->γ),rp base es x k=k kE)/\bM K w0 phx M kE.aW w/\dF phx (view w M) kE.aW kE.b0 a /\
   ct l' Cz s.aW Pw phx M kE.aW w/\hI (dV b) a0 a/\(∀id,(base.aW id).cd (kE.aW id))/\(∃ge,kE.w=ge++base.w/\∀id,id∉ge->kE.aW id=base.aW id)/\(∀t,t∉wm es->kE.b0 t=base.b0 t)
  have YT:∀(cy:aM) (phx':cf) (db:Nat->Prop) (w':World) (a':Act) (y:ns es) (ay:aM) (bV:Nat->Prop),bM K w0 phx' db ay.aW w'->dF phx' (view w' db) ay.aW ay.b0 a'->ct l' Cz s.aW Pw phx' db ay.aW w'->hI (dV b) a0 a' ->
    lu phx' db ay.aW bV->h2 phx' w' db ay.aW (λb=>¬K.k b) a' es y (λ_=>False) bV->(∀t,t∉nr (dV b)->ay.b0 t=base.b0 t)->(∀id,base.aW id ≠ .new->id∉dE es->ay.aW id=base.aW id)->(∀id,(base.aW id).cd (ay.aW id))->FF y a' w':=by
   intro cy phx' db w' a' y ay bV HE qv u_ l3 sz fQ tG pE bW;have HG:∀id∈dE es,∀t v,ay.aW id=.box t v->∃t',oN es id=some t':=λid ac t v aa=>by obtain⟨t',sh,jv⟩:=fQ.Ep id ac t v aa;exact Q8 jv
   obtain⟨U6,adu,nE⟩:=avv HE fQ sm TQ pE HG;have h5:nX phx' ay.aW phx' (lj base.aW ay.aW es) es:=Ed hold fQ (λe h=>h) (λid h=>h) fQ;have atu:dF phx' (view w' db) (lj base.aW ay.aW es) base.b0 a':=by
    intro t;by_cases ht:t∈nr (dV b)
    .rw[ak3 t ht];trivial
    rw[<- tG t ht];refine ba.iB (λ_ _ _=>rfl) (cj.cd.refl _) (λj ap=>adu j ?_) (qv t)
    grind
   have jr:pX (lj base.aW ay.aW es) base es:=by
    refine⟨λj ap => ?_,λj cy p ap => ?_⟩
    .unfold lj
     split
     .rename_i ak;exact(tR.1 ak).symm
     rename_i ak;have lF:base.aW j ≠ .new:=λh=>ak (tR.2 h);cases aa:oN es j with
     |some t=>exact absurd (CT aa) ap
     |none=>exact pE j lF ap
    unfold lj at ap;split at ap
    .cases ap
    rename_i ak;have lF:base.aW j ≠ .new:=λh=>ak (tR.2 h);split at ap
    .cases ap
    have:=bW j;rw[ap]at this;generalize base.aW j=q at this lF;cases q<;>simp only[aT.cd]at this<;>first|exact this.elim|exact absurd rfl lF|exact⟨_,by rw[this]⟩
   have asV:∀id∈ig es,lj base.aW ay.aW es id=.new:=λid ac=>by unfold lj;rw[if_pos (tR.2 (gc id ac))]
   obtain⟨kE,axi,bL,ca,cq,dv,e',⟨ge,ma,y8,xi⟩,qJ⟩:=DW (Uf:=bV) (A:=λ_=>False) U6 atu jr asV hA fQ h5 (λb aa=>aa) (λb aa=>aa.elim) (λj ap z bs=>.inl (sz.1 j (nE j ap) z bs));have CZ:∀id,base.aW id ≠ .new->(ay.aW id).cd (kE.aW id):=λid hid=>(adu id hid).trans (cq.bl id);have afv:∀id,s.aW id ≠ .new->base.aW id ≠ .new:=λid hid ah=>hid (au5 (e1.bl id) (by rw[<- z7];exact ah));refine⟨kE,axi,db,bL,ca,dv,⟨λid hl => ?_,u_.vw.trans cq.vw,λid => ?_⟩,l3,λid => ?_,⟨ge,ma,xi⟩,qJ⟩
   .have aa:=afv id (avc hl)
    rw[e' id λah=>aa (gc id ah)];exact u_.pl id hl
   .by_cases hid:s.aW id=.new
    .rw[hid];cases kE.aW id<;>trivial
    exact(u_.bl id).trans (CZ id (afv id hid))
   by_cases hid:base.aW id=.new
   .rw[hid];cases kE.aW id<;>trivial
   exact(bW id).trans (CZ id hid)
  cases hl:bK (λx=>(rp base es x λs=>aP.bind (run E rs res nv nt inl b s) (Jn base es)).bH) rU with
  |none=>rw[hl]at O;cases O
  |some o=>
   rw[hl]at O;obtain⟨n,ak⟩:=UY hl;have apB:∀jQ y,o=.ex jQ y->∀a' w',FF y a' w'->Q (ms E jQ) a' w':=by
    rintro jQ y rfl a' w' ⟨kE,phx,M,dQ,gS,l_,y5,y6,tY,⟨ge,VN,VO⟩,Ew⟩;have O:((rp base es y λs=>De jQ s exs).bind k).bH=some r:=O;rw[dQ]at O;refine T1 jQ kE phx M w' a' (abw O) ⟨⟨λt ht => ?_,?_⟩,gS,y5,l_,y6⟩
    .have wT:t∉nr (dV b):=λah=>ht (Ec.1 ah)
     rw[Ew t λah=>wT (rn t ah),QS t wT,eA]
    obtain⟨_,awp,g1,cD⟩:=f1;refine⟨ge++awp,by rw[VN,alP,g1,hb],λid hid => ?_⟩;rw[hG,not_or]at hid;rw[VO id hid.1,z7,cD id hid.2]
   have apC:∀x,o=.rt x->∀a' w',a'.defers=a0.defers->(∃us,t7 P a'.tmps w' res us/\iT w0 K.x w' rs x (jD us))->Q .ret a' w':=by rintro x rfl a' w' aJ aL;exact T2 x w' a' O aJ aL
   have aq:FF rU a0 Pw:=by refine YT bz l' fV Pw a0 rU bz uG bD (by rw[eA];exact ab.ext e1) e1 (hI.refl _ _) aAL aoU (λt ht=>(QS t ht).symm) (λid _ _=>by rw[z7]) (λid=>by rw[z7];exact aT.cd.refl _)
   refine ajw (λn a w=>∃x,o1 (λx=>(rp base es x λs=>aP.bind (run E rs res nv nt inl b s) (Jn base es)).bH) n x=some o/\FF x a w) (λa w=>by rintro⟨x,hx,_⟩;cases hx) ?_ (n:=n) ⟨rU,ak,aq⟩;rintro n a w ⟨x,hx,kE,phx,M,dQ,gS,l_,y5,y6,tY,⟨ge,VN,VO⟩,Ew⟩;simp only[o1]at hx;rw[dQ]at hx;have cZ:nt<=a.tmps.size:=by rw[y6.1];exact gH
   have aiX:∀(cy:aM) (phx':cf) (aD:Nat->Prop) (w':World) (a':Act) {ρ':Type} (jQ:ns es->aP ρ') (dz:ρ'),gg K w0 (dV b) kE phx M w a cy phx' aD w' a'->((sL cy es).bind λy=>bif C' base es y.2 then jQ y.1 else .fail).bH=some dz->∃y,(jQ y).bH=some dz/\FF y a' w':=by
    intro cy phx' aD w' a' ρ' jQ dz tJ je;obtain⟨y,ay,db,bV,af,cr,aU,e?,f2,rO,pf,q_⟩:=Bn (a:=a') je tJ.hS tJ.slots (U:=λ_=>False) ⟨λ_ _ _ _ h=>h,λ_ h=>h.elim⟩;cases yy:C' base es ay with
    |false=>rw[yy]at af;cases af
    |true=>
     rw[yy,cond_true]at af;refine⟨y,af,?_⟩;obtain⟨TD,afF,Hs,TE⟩:=tJ.iw;obtain⟨_,afG,yC,wG⟩:=f2;have bw:ay.w=(afG++(afF++ge))++base.w:=by rw[yC,Hs,VN];simp
     have gv:=ao0 yy bw;refine YT cy phx' db w' a' y ay bV cr (by rw[e?];exact tJ.slots.ext aU) ((y5.trans tJ.ext).trans aU) (y6.sub tJ.keep (λt h=>h) (λt h=>h)) pf q_ (λt ht => ?_) (λid hid wP => ?_) (λid=>((tY id).trans (tJ.ext.bl id)).trans (aU.bl id))
     .rw[e?,TD t (λah=>ht (Ec.2 ah)),Ew t λah=>ht (rn t ah)]
     have DK:id∉afG++(afF++ge):=λah=>(gv id ah).elim hid wP;simp only[hG,not_or]at DK;rw[wG id DK.1,TE id DK.2.1,VO id DK.2.2]
   cases hf:((run E rs res nv nt inl b kE).bind (Jn base es)).bH with
   |none=>rw[hf]at hx;cases hx
   |some dz=>
    rw[hf]at hx;refine ih kE _ (Jn base es) dz hf phx M w a gS l_ cZ _ (λcy phx' aD w' a' je tJ => ?_) (λid cy phx' aD w' a' je tJ => ?_) (λxE w' a' je aJ aL => ?_)
    .obtain⟨y,af,hh⟩:=aiX cy phx' aD w' a' (λy=>.leaf (aF.nx y)) dz tJ je
     cases af;exact⟨y,hx,hh⟩
    .obtain⟨y,af,hh⟩:=aiX cy phx' aD w' a' (λy=>.leaf (aF.ex id y)) dz tJ je
     cases af;cases hx;have hf:=apB id y rfl a' w' hh;revert hf;unfold ms
     (repeat' split)<;>exact λh=>h
    cases je;cases hx;exact apC xE rfl a' w' (aJ.trans y6.2.1) aL
end
end Yp
namespace Yp
open Go
variable {P:Program}
def d5.bv{s ay:aM}(h:d5 [] s ay):ay.b0=s.b0:=funext λt=>h.1 t bp
section
variable {K:Kp} {w0 w:World} {phx:cf} {M:Nat->Prop} {B B':Nat->aT} {g:Nat->av} {H:cj} {E:dk} {nv nt:Nat}
def ap4{s:aM}{f:Operand}{a:Act}(ab:dF phx H s.aW s.b0 a):ba phx H s.aW (Dl s f) (a.eval f)\/Dl s f=.bad:=by
 cases f with
 |tmp t=>exact .inl (ab t)
 |func f=>exact .inl ⟨[],rfl,rfl⟩
 |const v=>exact .inr rfl
 |global i=>exact .inr rfl
def awW(hT:nP P E.bv)(cC:qj P E.bv E.C)(hz:ru P E.M)(dC:pm P E K w0)(dW:∀f g,E.I f=some g->kK P f g)
  {o:Oper} {s:aM} {ρ:Type} {k:av×aM->aP ρ} {r:ρ} (h:((VD E o s).bind k).bH=some r) {a:Act} (hm:bM K w0 phx M s.aW w) (ab:dF phx (view w M) s.aW s.b0 a)
  {Kn:Act->World->Prop} {Q:Exit->Act->World->Prop}
  (am:∀v ay phx' aD w' x,(k (v,ay)).bH=some r->bM K w0 phx' aD ay.aW w'->ct phx M s.aW w phx' aD ay.aW w'->ba phx' (view w' aD) ay.aW v x->d5 [] s ay->Kn (a.put o.dst x) w'):o.wp P a w Kn Q:=by
 have plain:((((sJ E o).run s 0 [] []).bind λr=>s.xo r.2.wr λbz=>nw r.1 λv=>.leaf (v,bz):aP (av×aM)).bind k).bH=some r->o.wp P a w Kn Q:=by intro h;rw[aP.fA]at h;obtain⟨v,e,O,R⟩:=ax.ag9 s (sJ E o) 0 [] [] _ r h;simp only[aM.Jw,yl,aP.bind]at R;have az:(s.ek e.wr).aW=dG s.aW e.wr:=aM.oc s _;refine VE hT cC hz dC O hm ab λx w' bh => ?_;obtain⟨phx',aD,bD,e1,eY⟩:=bh;exact am v (s.ek e.wr) phx' aD w' x R (by rw[az];exact bD) (by rw[az];exact e1) (by rw[az];exact eY) (d5.ek e.wr [])
 unfold VD at h;obtain⟨c?,op,type,jz,after,Dt⟩:=o;cases op<;>try(exact plain h)
 rename_i c;obtain⟨RL,args,d'⟩:=c;cases RL<;>try(exact plain h)
 rename_i f;simp only at h;cases ac:Uv E (c?.getD 0) (Dl s f) args.toList s with
 |none=>rw[ac]at h;exact plain h
 |some t=>
  rw[ac]at h;simp only at h;unfold Uv at ac;split at ac
  .rename_i F dT c_ hf
   split at ac
   .rename_i tB adj
    cases ac;have eF:=dW _ _ adj;rw[aP.fA,aP.fA]at h;obtain⟨a_,wr,O,R⟩:=pF h;obtain⟨e1,dl⟩:=yV ab O;simp only at R;have az:(s.ek wr).aW=s.aW:=by rw[aM.oc,e1]
    have rm:ba phx (view w M) s.aW (.clo F dT c_) (a.eval f):=by
     rcases ap4 (f:=f) ab with h|h
     .rw[hf]at h;exact h
     rw[hf]at h;cases h
    obtain⟨us,aC,pG⟩:=rm;refine PK pG eF.1 ?_;have bh:(args.toList.map a.eval).toArray=args.map a.eval:=by apply Cy;simp
    have jb:(us.take dT++(args.toList.map a.eval++us.drop dT)).toArray=(us.take dT).toArray++args.map a.eval++(us.drop dT).toArray:=by rw[<- bh];simp
    rw[<- jb];refine(eF.2 K w0 (dC.gk (.inr (.inl ⟨_,_,adj⟩))) _ (wj dT c_ a_) (s.ek wr) _ _ r R phx M w _ (by rw[az];exact hm) (by rw[az];exact RW aC dl)).mono ?_;rintro e w' ⟨b5,rfl,v,ay,phx',aD,bL,ca,cq,dv,e'⟩;rw[az]at cq;simp only[yl,aP.bind]at bL;exact⟨b5,rfl,am v ay phx' aD w' b5 bL ca cq dv (((d5.ek wr []).trans e').mono bp)⟩
   cases ac
  cases ac
def Oq(hT:nP P E.bv)(cC:qj P E.bv E.C)(hz:ru P E.M)(dC:pm P E K w0)(dW:∀f g,E.I f=some g->kK P f g)
  (eE:nt<=1000000) {ops:Array Oper} {Q:Exit->Act->World->Prop} {tail:List Oper}:∀(l:List Oper) (top:Bool) (i:Nat) (s:aM) {ρ:Type} (k:aM->aP ρ) (r:ρ),((pP E ops.toList nv nt top i l s).bind k).bH=some r ->
  ∀(phx:cf) (M:Nat->Prop) (w:World) (a:Act),bM K w0 phx M s.aW w->dF phx (view w M) s.aW s.b0 a->nt<=a.tmps.size ->
  (∀ay phx' aD w' a',(k ay).bH=some r->d5 (er l) s ay->bM K w0 phx' aD ay.aW w'->ct phx M s.aW w phx' aD ay.aW w'->dF phx' (view w' aD) ay.aW ay.b0 a'->hI (er l) a a'->wpList P ops Q tail a' w')->wpList P ops Q (l++tail) a w:=by
 intro l;induction l with
 |nil=>intro top i s ρ k r h phx M w a hm ab gH aQ;exact aQ s phx M w a h (d5.refl _ _) hm (ct.refl _ _ _ _) ab (hI.refl _ _)
 |cons o rest ih=>
  intro top i s ρ k r h phx M w a hm ab gH aQ;have aJ:=uW o rest;simp only[pP]at h

  have zA:∀{ρ:Type} (k:aM->aP ρ) (r:ρ) (B2:Bool) (bz:aM) (v cT:av) (hU:cf) (fV:Nat->Prop) (co:World) (x:Value),tb v cT->((iL nt o.dst bz cT λs=>pP E ops.toList nv nt B2 (i+1) rest s).bind k).bH=some r ->
    bM K w0 hU fV bz.aW co->dF hU (view co fV) bz.aW bz.b0 a->ba hU (view co fV) bz.aW v x ->
    (∀ay phx' aD w' a',(k ay).bH=some r->d5 (er rest) (jA bz o.dst cT) ay->(∀d,o.dst=some d->d<nt)->bM K w0 phx' aD ay.aW w'->ct hU fV bz.aW co phx' aD ay.aW w'->dF phx' (view w' aD) ay.aW ay.b0 a'->hI (er (o::rest)) a a'->wpList P ops Q tail a' w') ->
    wpList P ops Q (rest++tail) (a.put o.dst x) co:=by
   intro ρ k r B2 bz v cT hU fV co x T? h bD JJ eY aQ;obtain⟨gt,h⟩:=vS h;have sn:∀d,o.dst=some d->d<a.tmps.size:=λd aJ=>gN (gt d aJ) gH;refine ih B2 (i+1) _ k r h hU fV co _ (by rw[lJ];exact bD) (by rw[lJ,sN eE gt];exact JJ.put sn (T?.bR eY)) (by simp only[Act.put];split<;>simpa using gH) λay phx' aD w' a' am hf cr aU ua b2 => ?_;rw[lJ]at aU;exact aQ ay phx' aD w' a' am hf gt cr aU ua ((hI.put aJ.1).sub b2 (λt h=>h) aJ.2)
  rcases acD h with⟨bw,h⟩|⟨bw,h⟩
  .simp only[mi,wpList]
   rw[if_pos (XM bw ab)];left;rw[aP.fA]at h;refine awW hT cC hz dC dW h hm ab λv bz hU fV co x h bD e1 eY f1 => ?_;simp only at h;have JJ:dF hU (view co fV) bz.aW bz.b0 a:=by rw[f1.bv];exact ab.ext e1
   have SL:∀cT ay,(∀d,o.dst=some d->d<nt)->d5 (er rest) (jA bz o.dst cT) ay->d5 (er (o::rest)) s ay:=λcT ay _ hf=>(f1.sub (xh aJ.1) (λt h=>by simp at h) (λt h=>h)).sub hf (λt h=>h) aJ.2;cases hg:(Nat.testBit (yp ops.toList) i&&(uS v).isSome) with
   |false =>rw[hg,cond_false]at h;exact zA k r top bz v v hU fV co x (.inl rfl) h bD JJ eY λay phx' aD w' a' am hf gt cr aU ua b2=>aQ ay phx' aD w' a' am (SL v ay gt hf) cr (e1.trans aU) ua b2
   |true=>
    rw[hg,cond_true]at h;cases aa:uS v with
    |none=>rw[aa]at h;cases h
    |some c=>
     rw[aa]at h;simp only at h;have aB:=Zh aa

     have two:∀{ρ:Type} (k:aM->aP ρ) (r:ρ),((aP.br c (iL nt o.dst bz (.kb true) λs=>pP E ops.toList nv nt false (i+1) rest s) (iL nt o.dst bz (.kb false) λs=>pP E ops.toList nv nt false (i+1) rest s)).bind k).bH=some r ->
       (∀ay phx' aD w' a',(k ay).bH=some r->d5 (er rest) (jA bz o.dst (.kb c)) ay->(∀d,o.dst=some d->d<nt)->bM K w0 phx' aD ay.aW w'->ct hU fV bz.aW co phx' aD ay.aW w'->dF phx' (view w' aD) ay.aW ay.b0 a'->hI (er (o::rest)) a a'->wpList P ops Q tail a' w') ->
       wpList P ops Q (rest++tail) (a.put o.dst x) co:=by
      intro ρ k r h aQ;simp only[aP.bind,aP.bH,T]at h;cases c with
      |true=>exact zA k r false bz v (.kb true) hU fV co x (.inr ⟨true,aB,rfl⟩) h bD JJ eY aQ
      |false=>exact zA k r false bz v (.kb false) hU fV co x (.inr ⟨false,aB,rfl⟩) h bD JJ eY aQ
     cases top with
     |false=>exact two k r h λay phx' aD w' a' am hf gt cr aU ua b2=>aQ ay phx' aD w' a' am (SL _ ay gt hf) cr (e1.trans aU) ua b2
     |true=>
      rw[cond_true]at h;obtain⟨gt,h⟩:=vS h;rcases UC (λt ht=>(xW.1 ht).1) h with h|⟨ks,p,hp,hrest⟩
      .exact two k r h λay phx' aD w' a' am hf gt cr aU ua b2=>aQ ay phx' aD w' a' am (SL _ ay gt hf) cr (e1.trans aU) ua b2
      refine two _ p hp λay phx' aD w' a' R hf _ cr aU ua b2 => ?_;obtain⟨sM,qu,jh⟩:∃sM,(bif Nat.beq ay.w.length (jA bz o.dst (.sc .bool c)).w.length then rc ay ks else none)=some sM/\(aP.leaf sM).bH=some p:=by
       have u3:((aP.vD (bif Nat.beq ay.w.length (jA bz o.dst (.sc .bool c)).w.length then rc ay ks else none)).bind aP.leaf).bH=some p:=by rw[k8];exact R
       exact aP.Vo u3
      cases jh;cases cm:Nat.beq ay.w.length (jA bz o.dst (.sc .bool c)).w.length with
      |false=>rw[cm]at qu;cases qu
      |true=>
       rw[cm,cond_true]at qu;have TI:Kv (er rest) (jA bz o.dst (.sc .bool c)) ay:=by
        obtain⟨f1,ge,f2,f3⟩:=hf;refine⟨λt ht => ?_,ge,by rw[f2,NS,NS],λid hid=>by rw[f3 id hid,lJ,lJ]⟩;rw[f1 t ht,sN eE gt,sN eE gt];cases arY:o.dst with
        |none=>exact .inl rfl
        |some d=>
         by_cases AL:t=d
         .right
          refine⟨.bool,c,by simp[ln,pV,AL],?_⟩;simp only[ln,pV,AL,if_true];rfl
         left;simp[ln,pV,AL]
       obtain⟨eh,XL,aBo,aBp⟩:=hrest ay TI (fU cm) qu;refine aQ eh phx' aD w' a' aBp ?_ (by rw[XL.2];exact cr) (by rw[XL.2];exact e1.trans aU) (ua.Pz XL) b2;exact(f1.sub (xh aJ.1) (λt h=>by simp at h) (λt h=>h)).sub aBo (λt h=>h) aJ.2
  simp only[mi,wpList];rw[if_neg (by rw[ain bw ab];simp)];exact zA k r top s .undef .undef phx M w undef (.inl rfl) h hm ab (ajl rfl) λay phx' aD w' a' am hf gt cr aU ua b2=>aQ ay phx' aD w' a' am ((xh aJ.1).sub hf (λt h=>h) aJ.2) cr aU ua b2
end
end Yp
namespace Yp
open Go
def q3:=@Array.replicate_succ
def v7:=@List.getElem?_toArray
def YF:=@Nat.sub_self
variable {P:Program}
def acB{n:Nat}:∀{l:List Oper},Mn n l=true->∀o∈l,∀g b,o.guard=some (g,b)->g<n
 |[],_,o,h,_,_,_=>by cases h
 |x::l,h,o,aK,g,b,hg=>by
  simp only[Mn,cP]at h;rcases f'.1 aK with rfl|aK
  .rw[hg]at h;simpa using h.1
  exact acB h.2 o aK g b hg
def abe:∀{l m:List Oper} {i:Nat},wk i (l++m)=true->wk i l=true
 |[],_,_,_=>rfl
 |o::l,m,i,h=>by simp only[mi,wk,cP]at h ⊢;exact⟨h.1,abe h.2⟩
def aBx{o:Oper}{a:Act}{w:World}{Kn:Act->World->Prop}{Q Q':Exit->Act->World->Prop}(aQ:∀e a w,e ≠ .normal->Q' e a w->Q e a w)(h:o.wp P a w Kn Q'):o.wp P a w Kn Q:=by
 unfold Oper.wp at *
 generalize(execOp a.eval o).run P w=r at *
 cases r with
 |ok n w'=>
  cases n<;>simp only[Oper.upon]at h ⊢ <;>
   first
    |exact h
    | (
     refine Calls.mono h λe Kf aC => ?_;cases e with
     |returned v=>exact aC
     |panicked c=>exact aQ _ _ _ bp aC
     |outgrown=>obtain⟨a,w,h⟩:=aC;exact⟨a,w,aQ _ _ _ bp h⟩)
 |halt x w'=>cases x<;>simp only[Oper.upon]at h ⊢ <;> first|exact aQ _ _ _ bp h|exact h
def Ff(P:Program)(ops:Array Oper)(n:Nat)(Q:Exit->Act->World->Prop):Exit->Act->World->Prop
 |.normal,a,w=>wpOp P ops Q n (λa w=>Q .normal a w) a w
 |e,a,w=>Q e a w
def aBw{l:List Oper}{o:Oper}(hl:Ii l o=true){Q:Exit->Act->World->Prop}:
  ∀(gG:Nat) (b6:Array Bool) (a:Act) (w:World),b6.size=l.length->rW l.toArray (fg b6) ->
   wpAny P .any l.toArray (Ff P (l++[o]).toArray l.length Q) gG b6 a w->wpAny P .any (l++[o]).toArray Q (gG+1) (b6.push false) a w:=by
 simp only[Ii,cP]at hl;obtain⟨⟨AA,ast⟩,Tp⟩:=hl;have ak:(l++[o]).toArray.size=l.length+1:=bp;have SV:∀i,i<l.length->(l++[o]).toArray[i]?=l.toArray[i]?:=λi ac=>by
  grind
 have acf:(l++[o]).toArray[l.length]?=some o:=bp;have Bs:∀(b6:Array Bool) (i:Nat) (d:Bool),b6.size=l.length->i<l.length->(b6.push false).getD i d=b6.getD i d:=λb6 i d ab ac=>by
  rw[nk,nk,Array.getElem?_push_lt J]
  grind
 have agq:∀(b6:Array Bool) (d:Bool),b6.size=l.length->(b6.push false).getD l.length d=false:=λb6 d ab=>by rw[nk,<- ab,Array.getElem?_push_size];rfl
 have Sj:=LO (abe AA);have aoT:∀e∈o.after.toList,Region.binds .any e=true->e.on<l.length:=λe aC aa=>by have:=LO AA l.length o (by rw[uC (b1 _),YF];rfl) e aC aa;omega

 have V':∀(b6:Array Bool) (i:Nat),b6.size=l.length->i<l.length->(i∈Region.ready .any (l++[o]).toArray (b6.push false)↔i∈Region.ready .any l.toArray b6):=λb6 i ab ac=>by
  rw[mem_ready,mem_ready,SV i ac,Bs b6 i true ab ac];refine and_congr Qw (exists_congr λdz => ?_);refine and_congr_right λaK => ?_;have as0:l[i]?=some dz:=by rw[<- v7];exact aK
  refine forall_congr' λe => ?_;refine forall_congr' λaC => ?_;refine forall_congr' λaa => ?_;have:=Sj i dz as0 e (by simpa using aC) aa;rw[Bs b6 e.on false ab J]
 have aky:∀(b6:Array Bool),b6.size=l.length->Region.ready .any l.toArray b6=[]->∀i,i<l.length->b6.getD i false=true:=by
  intro b6 ju ai i;induction i using Nat.strongRecOn with
  |_ i ih=>
   intro ac;cases hL:b6.getD i false with
   |true=>rfl
   |false=>
    exfalso;have jv:i∈Region.ready .any l.toArray b6:=by
     rw[mem_ready];refine⟨?_,l[i],by rw[v7];exact km ac,λe aC aa => ?_⟩
     .have:i<b6.size:=J
      simp[this]at hL ⊢;exact hL
     have bn:=Sj i l[i] (km ac) e (by simpa using aC) aa;exact ih e.on J J
    rw[ai]at jv;cases jv
 have awd:∀(b6:Array Bool),(∀i,i<l.length->b6.getD i false=true)->b6.size=l.length->Region.ready .any l.toArray b6=[]:=λb6 h ju=>by
  rw[v6];intro i ac;obtain⟨aq,dz,aK,_⟩:=mem_ready.1 ac;have bn:i<l.length:=by simpa using(iP.1 aK).1
  have O:=h i bn;have:i<b6.size:=J;simp[this]at aq O;rw[O]at aq;cases aq

 have done:∀(b6:Array Bool) (f:Nat) (a:Act) (w:World),b6.size=l.length->Region.ready .any l.toArray b6=[]->Ff P (l++[o]).toArray l.length Q .normal a w->wpAny P .any (l++[o]).toArray Q (f+1) (b6.push false) a w:=by
  intro b6 f a w ju ai aQ;have hall:=aky b6 ju ai;have et:l.length∈Region.ready .any (l++[o]).toArray (b6.push false):=by rw[mem_ready];exact⟨agq b6 true ju,o,acf,λe aC aa=>by have:=aoT e (by simpa using aC) aa;rw[Bs b6 e.on false ju this];exact hall _ this⟩
  refine⟨λh=>(by rw[h]at et;cases et),λi ac => ?_⟩;have bn:i<l.length+1:=by obtain⟨_,dz,aK,_⟩:=mem_ready.1 ac;rw[<- ak];exact(iP.1 aK).1
  by_cases ss:i<l.length
  .rw[V' b6 i ju ss,ai]at ac;cases ac
  obtain rfl:i=l.length:=J;refine wpOp_mono (λa' w' m4 => ?_) aQ;have AG:Region.ready .any (l++[o]).toArray ((b6.push false).setIfInBounds l.length true)=[]:=by
   rw[v6];intro i ac;obtain⟨aq,dz,aK,_⟩:=mem_ready.1 ac;have bn:i<l.length+1:=by rw[<- ak];exact(iP.1 aK).1
   have cZ:(b6.push false).size=l.length+1:=by simp[ju]
   by_cases ss:i=l.length
   .subst ss
    rw[nk,Array.getElem?_setIfInBounds_self_of_lt J]at aq;cases aq
   rw[nk,p5 (FL ss),<- nk,Bs b6 i true ju J]at aq;have O:=hall i J;have:i<b6.size:=J;simp[this]at aq O;rw[O]at aq;cases aq
  cases f with
  |zero=>exact⟨AG,m4⟩
  |succ f=>exact⟨λ_=>m4,λi ac=>by rw[AG]at ac;cases ac⟩
 intro gG;induction gG with
 |zero=>intro b6 a w ju e2 h;exact done b6 0 a w ju h.1 h.2
 |succ gG ih=>
  intro b6 a w ju e2 h;by_cases ai:Region.ready .any l.toArray b6=[]
  .exact done b6 (gG+1) a w ju ai (h.1 ai)
  refine⟨λfN => ?_,λi ac => ?_⟩
  .exfalso
   apply ai;rw[v6];intro i ac;have bn:i<l.length:=by obtain⟨_,dz,aK,_⟩:=mem_ready.1 ac;simpa using(iP.1 aK).1
   have:=(V' b6 i ju bn).2 ac;rw[fN]at this;cases this
  have bn:i<l.length+1:=by obtain⟨_,dz,aK,_⟩:=mem_ready.1 ac;rw[<- ak];exact(iP.1 aK).1
  by_cases ss:i<l.length
  .have fk:=(V' b6 i ju ss).1 ac
   have R:=h.2 i fk;have l6:(b6.push false).setIfInBounds i true=(b6.setIfInBounds i true).push false:=by
    have wK:i<b6.toList.length:=by rw[Ql];omega
    apply Cy;simp only[P3,Array.toList_push,List.set_append];rw[if_pos wK]
   rw[l6];unfold wpOp at R ⊢;rw[SV i ss];obtain⟨aq,dz,aK,Ty⟩:=mem_ready.1 fk;rw[aK]at R ⊢;simp only at R ⊢;have jv:dz∈l:=by rw[v7]at aK;exact p' aK
   have atM:Region.wanted dz (yielded (l++[o]).toArray a.tmps)=Region.wanted dz (yielded l.toArray a.tmps):=by
    unfold Region.wanted;cases hg:dz.guard with
    |none=>rfl
    |some p =>obtain⟨g,b⟩:=p;have:=acB ast dz jv g b hg;simp only[yielded,SV g this]
   rw[atM];have arJ:rW l.toArray (fg (b6.setIfInBounds i true)):=by
    intro k ok am tC x hx aa;have DH:i<b6.size:=J;rw[KK DH]at tC ⊢;simp only[zM,decide_eq_true_eq]at tC ⊢;right;rcases tC with tC|tC
    .subst tC
     rw[uB,aK]at am;cases am;exact Ty x (by simpa using hx) aa
    exact e2 k ok am tC x hx aa
   have am:∀a w,wpAny P .any l.toArray (Ff P (l++[o]).toArray l.length Q) gG (b6.setIfInBounds i true) a w->wpAny P .any (l++[o]).toArray Q (gG+1) ((b6.setIfInBounds i true).push false) a w:=
    λa w h=>ih _ a w (by simpa using ju) arJ h
   have adJ:∀e a w,e≠Exit.normal->Ff P (l++[o]).toArray l.length Q e a w->Q e a w:=λe a w aC h=>by cases e<;>first|exact absurd rfl aC|exact h
   split
   .rename_i bw
    rw[if_pos bw]at R;refine R.imp (λR=>aBx adJ (Oper.wp_mono am R)) λ⟨af,a4,h1,au⟩=>⟨af,a4,h1,adJ _ _ _ bp au⟩
   rename_i bw;rw[if_neg bw]at R;exact am _ _ R
  obtain rfl:i=l.length:=J;exfalso;apply ai;obtain⟨_,dz,aK,Ty⟩:=mem_ready.1 ac;rw[acf]at aK;cases aK;refine awd b6 (λi ac => ?_) ju;have hall:=QV (ops:=l++[o]) (L:=λi=>(b6.push false).getD i false) (λk ok am tC x hx aa => ?_) l.length o (by rw[uC (b1 _),YF];rfl) (λe aC aa=>Ty e (by simpa using aC) aa) i (p0.1 Tp i (s8.2 ac))
  .rw[<- Bs b6 i false ju ac];exact hall
  have DJ:k<l.length:=by
   have su:k<l.length+1:=by have:=(mR.1 am).1;simpa using this
   by_cases DJ:k=l.length
   .subst DJ
    rw[agq b6 false ju]at tC;cases tC
   omega
  have rj:l[k]?=some ok:=by rw[zO DJ]at am;exact am
  have ad2:=Sj k ok rj x hx aa;rw[Bs b6 x.on false ju J];refine e2 k ok (by rw[List.toList_toArray];exact rj) ?_ x hx aa;show b6.getD k false=true;rw[<- Bs b6 k false ju DJ];exact tC
section
variable {K:Kp} {w0:World} {E:dk} {nt:Nat} {ops:Array Oper}
def ayA(hT:nP P E.bv)(cC:qj P E.bv E.C)(hz:ru P E.M)(dC:pm P E K w0)(dW:∀f g,E.I f=some g->kK P f g)(eE:nt<=1000000){s:aM}{k:aM->aP ρ}{r:ρ}
  (h:((pb E ops.toList nv nt true true 0 ops.toList s []).bind k).bH=some r) {phx:cf} {M:Nat->Prop} {w:World} {a:Act} (hm:bM K w0 phx M s.aW w) (ab:dF phx (view w M) s.aW s.b0 a) (gH:nt<=a.tmps.size)
  {Q:Exit->Act->World->Prop}
  (aQ:∀ay phx' aD w' a',(k ay).bH=some r->d5 (er ops.toList) s ay->bM K w0 phx' aD ay.aW w'->ct phx M s.aW w phx' aD ay.aW w'->dF phx' (view w' aD) ay.aW ay.b0 a'->hI (er ops.toList) a a'->Q .normal a' w') :
  wpAny P .any ops Q ops.size (Array.replicate ops.size false) a { w with drawn:=w.drawn+1 }/\rW ops (fg (Array.replicate ops.size false)):=by
 obtain⟨ay,⟨bA,bz,O,R,af,au,aY,cp,dN,cx⟩,am⟩:=ag6 eE _ _ _ _ _ k r h;have gP:∀phx' aD w' a',bM K w0 phx' aD (em bA (λ_=>true) s.aW) w'->ct phx M s.aW w phx' aD (em bA (λ_=>true) s.aW) w'->dF phx' (view w' aD) (em bA (λ_=>true) s.aW) (fm bA (λ_=>true) s.b0) a'->hI (er ops.toList) a a'->Q .normal a' w':=by intro phx' aD w' a' bD e1 bz bF;rw[<- aY]at bD e1 bz;rw[<- au]at bz;exact aQ ay phx' aD w' a' am dN (by rw[cp.2];exact bD) (by rw[cp.2];exact e1) (bz.Pz cp) bF
 obtain⟨ai,aK⟩:=cx rfl;simp only[Jg,cP]at ai;have f:lQ E nt ops bA s.b0 s.aW:=⟨by simpa using O,R,af,ai.2,ai.1,VG (by simpa using aK)⟩;have u5:fg (Array.replicate ops.size false)=λ_=>false:=by funext i;unfold fg;by_cases ac:i<ops.size<;>simp[ac]
 have Ba:∀(l:List ff) (B:Nat->aT),em l (λ_=>false) B=B:=by
  intro l;induction l with
  |nil=>intro g;rfl
  |cons y l ih=>intro g;simp only[em,cond];exact ih g
 have U9:∀(l:List ff) (g:Nat->av),fm l (λ_=>false) g=g:=by
  intro l;induction l with
  |nil=>intro g;rfl
  |cons y l ih=>intro g;simp only[fm,cond];exact ih g
 have iI:bM K w0 phx M s.aW { w with drawn:=w.drawn+1 }:={ hm with keep:=hm.keep,blks:=hm.blks };have e2:rW ops (fg (Array.replicate ops.size false)):=by intro i o _ h;rw[u5]at h;cases h
 refine⟨aja (P:=P) (K:=K) (w0:=w0) hT cC hz dC dW f gH gP ops.size _ phx M { w with drawn:=w.drawn+1 } a bp e2 ?_ ?_ ?_ ?_ (hI.refl _ _),e2⟩
 .exact hH (ls _ _) bp
 .rw[u5,Ba];exact iI
 .rw[u5,Ba];exact⟨λ_ _=>rfl,cj.cd.refl _,λ_=>aT.cd.refl _⟩
 rw[u5,Ba,U9];exact ab
def ayC(jg:P.follows .mixedOrders=true){l:List Oper}{o:Oper}(hl:Ii l o=true){id:Nat}{Q:Exit->Act->World->Prop}{a:Act}{w:World}(aK:(l++[o]).toArray=ops)
  (h:wpAny P .any l.toArray (Ff P (l++[o]).toArray l.length Q) l.toArray.size (Array.replicate l.toArray.size false) a { w with drawn:=w.drawn+1 }/\rW l.toArray (fg (Array.replicate l.toArray.size false))) :
  (Code.region id ops true).wp P Q a w:=by
 subst aK;refine wp_region_any jg ?_;have O:=aBw hl _ _ a _ bp h.2 h.1;have e1:(l++[o]).toArray.size=l.toArray.size+1:=bp;have aU:Array.replicate (l++[o]).toArray.size false=(Array.replicate l.toArray.size false).push false:=by rw[e1,q3]
 rw[aU,e1];exact O
end
end Yp