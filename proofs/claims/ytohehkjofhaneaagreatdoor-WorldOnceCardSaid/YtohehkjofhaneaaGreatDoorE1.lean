/- A part of the proof of the statements of this seat: the engine that turns code into plain functions, and its soundness. No condition of its own. -/
import Derived.Test.YtohehkjofhaneaaGreatDoorE0
set_option linter.unusedVariables false
set_option linter.unusedSimpArgs false
set_option linter.defProp false
noncomputable section
open Go Yp
variable {c dx ok:Bool}{D kE:List Nat}{a b d f i j k m n nt nv o off t:Nat}{α β ρ:Type}
namespace Yp
open Go
def ep:=@List.length_drop
def ib:=@List.length_take
def J3:=@Nat.le_of_eq
variable {P:Program}
section
variable {K:Kp} {w0 w:World} {phx:cd} {M:Nat->Prop} {B B':Nat->aU} {g:Nat->av} {H:cf}
def afQ{t u ty bd:TypeId}{i:TypeInfo}(ht:P.underlying t=some (.slice bd))(ac:P.info? bd=some i){x:Value}{ne Ri:Nat}{news:List Value}
  (hl:(Builtin.lenOf x).run P w=.ok n w) (hm:Nat.min n ne=m) (hf:(Builtin.firstCells i.size m x).run P w=.ok news.toArray w) :
  (Builtin.copy_ #[t,u] ty #[.slice none ne Ri,x]).run P w=.ok (.int .i64 m) w:=by
 simp[Builtin.copy_,run_underlying ht,Go.sizeOf,typeInfo,ac,hl,hm,hf,goInt]
def afR{t u ty bd:TypeId}{i:TypeInfo}(ht:P.underlying t=some (.slice bd))(ac:P.info? bd=some i){x:Value}{ne Ri:Nat}{news:List Value}{a:Addr}{w':World}
  (hl:(Builtin.lenOf x).run P w=.ok n w) (hm:Nat.min n ne=m) (hf:(Builtin.firstCells i.size m x).run P w=.ok news.toArray w) (ae:(storeCells a news).run P w=.ok () w') :
  (Builtin.copy_ #[t,u] ty #[.slice (some a) ne Ri,x]).run P w=.ok (.int .i64 m) w':=by
 simp[Builtin.copy_,run_underlying ht,Go.sizeOf,typeInfo,ac,hl,hm,hf,ae,goInt]
def aw7{c cN:Array Value}{vs:List Value}(ah:cN.toList=h' c.toList o vs)(am:o+vs.length<=c.size)(h:o+vs.length<=a):cJ cN a n=cJ c a n:=by rw[tp,ah,I5 J (.inr h),<- tp]
def zz{l bn:List α}(h:off+n<=l.length):(ea l off n bn).length=l.length:=by simp only[ea,db,ib,ep];omega
def e'.cast{e:ag}{l m:List e.aG}{cs:List Value}(h:e' H e l cs)(hl:l=m):e' H e m cs:=hl▸h
def fi.copy{e:ag}{l bn:List e.aG}{c cN:Array Value}{news:List Value}(h:fi H e l c o)(bV:off+n<=l.length)(cb:e' H e (bn.take n) news)
  (ah:cN.toList=h' c.toList (o+off*e.size) news):cN.size=c.size/\fi H e (ea l off n bn) cN o:=by
 have v':news.length=min n bn.length*e.size:=by rw[cb.1,ib]
 have v9:(off+min n bn.length)*e.size<=l.length*e.size:=iT _ J;rw[f9]at v9;have O:=h.1;have hi:o+off*e.size+news.length<=c.size:=J;have c3:=ag0 ah hi;refine⟨c3,e'.row (by rw[zz bV,c3];exact O) ?_⟩;have e1:(ea l off n bn).length*e.size=off*e.size+(news.length+(l.length-(off+min n bn.length))*e.size):=by rw[zz bV,v',<- f9,<- f9];congr 1;omega
 rw[e1,NU,NU,agD ah hi (bX _),agE ah hi,aw7 ah hi (bX _)];have bD:=(h.cut (off:=0) (m:=off) J).sL;have dy:=(h.cut (off:=off+min n bn.length) (m:=l.length-(off+min n bn.length)) J).sL;rw[lQ J,Nat.zero_mul,xj]at bD;rw[lQ J,f9,<- jJ,<- v']at dy;have asN:e' H e (l.take off) (cJ c o (off*e.size)):=bD.cast (by simp[Yp.cut]);have Ho:e' H e (l.drop (off+min n bn.length)) (cJ c (o+off*e.size+news.length) ((l.length-(off+min n bn.length))*e.size)):=dy.cast (by unfold Yp.cut;rw[iS bf])
 exact asN.append (cb.append Ho)
def awH{e:ag}{l:List e.aG}{c:Array Value}(h:fi H e l c o)(hl:l.length=n):aJ H (.ar n e) l (cJ c o (n*e.size)):=by have O:=h.1;rw[hl]at O;refine aJ.Cg.2 ⟨hl,qh O,λi x ac => ?_⟩;have bi:=Dt ac;rw[Ei _ _ _ _ _ (yo J)];exact h.2 i x ac
def Ji{id:Nat}{b:aU}(h:B id=b):c6 B id b=B:=by
 funext j;by_cases ao:j=id
 .subst ao;rw[e6,h]
 rw[eo _ _ ao]
def Rc(l:List α)(off:Nat)(bn:List α):ea l off 0 bn=l:=by simp[ea]
def ats(m n:Nat):g8 (m:Int) (n:Int)=((Nat.min n m:Nat):Int):=by
 unfold g8
 grind
def ZJ{e:ag}{bn:List e.aG}{ad:Option Addr}{cap:Nat}(h:bn=[]\/∃b o c el fz,ad=some ⟨b,o,none⟩/\w.heap[b]?=some (.cells c el fz)/\fi (view w M) e bn c o)(ne:Nat):
  ∃news,(Builtin.firstCells e.size (Nat.min bn.length ne) (.slice ad bn.length cap)).run P w=.ok news.toArray w/\e' (view w M) e (bn.take ne) news:=by
 rcases h with rfl|⟨b,o,c,el,fz,rfl,R,ai⟩
 .refine⟨[],?_,by simpa using e'.nil (H:=view w M) e⟩
  cases ad<;>simp[Builtin.firstCells,loadCells,loadCellsFrom]
 have au:=(ai.cut (off:=0) (m:=Nat.min bn.length ne) (by simp only[js];exact Nat.min_le_left _ _));have ah:Yp.cut bn 0 (Nat.min bn.length ne)=bn.take ne:=by
  unfold Yp.cut;rw[rm];rcases Nat.le_total bn.length ne with h|h
  .rw[show Nat.min bn.length ne=bn.length from Ca h,o5,iS h]
  rw[show Nat.min bn.length ne=ne from Nat.min_eq_right h]
 rw[ah,Nat.zero_mul,xj]at au;have hl:(bn.take ne).length=Nat.min bn.length ne:=by rw[ib];exact Nat.min_comm _ _
 refine⟨cJ c o (Nat.min bn.length ne*e.size),?_,by rw[<- hl];exact au.sL⟩;simp only[Builtin.firstCells];exact Ee R (by rw[<- hl];exact au.1)
def Ra{e:ag}{tid uid ty bd:TypeId}(aM:P.underlying tid=some (.slice bd)){i:TypeInfo}(bj:P.info? bd=some i)(bm:i.size=e.size){bn:List e.aG}{ad:Option Addr}{cap:Nat}(hm:bK K w0 phx M B w)
  (bs:bn=[]\/∃b o c el fz,ad=some ⟨b,o,none⟩/\w.heap[b]?=some (.cells c el fz)/\fi (view w M) e bn c o) {id off n:Nat} {l:List e.aG} {bl:List e.aG->aU} {ci:Value}
  (nm:(B id).fN=true) (bV:off+n<=l.length) (wa:h1 phx id e off n ci)
  (Tm:n=0->bK K w0 phx M (c6 B id (bl l)) w/\co phx M B w phx M (c6 B id (bl l)) w) (apN:∀hj,hj.length=l.length->(B id).cc (bl hj))
  (eI:(phx id=none/\l.length=0)\/∃b o c el fz,phx id=some (b,o,c.size)/\w.heap[b]?=some (.cells c el fz)/\fi (view w M) e l c o/\iA c fz/\M b)
  (qR:∀(hj:List e.aG) (cN:Array Value) (b o:Nat) (el:TypeId) (fz:Nat×Nat) (w':World) (b2:Nat->aU),hj.length=l.length->phx id=some (b,o,cN.size)->w'.heap[b]?=some (.cells cN el fz)->fi (view w' M) e hj cN o->iA cN fz->M b->l? phx M w' (view w' M) b2 id (bl hj)) :
  ∃v w',(Builtin.copy_ #[tid,uid] ty #[ci,.slice ad bn.length cap]).run P w=.ok v w'/\dB K w0 phx M B w (c6 B id (bl (ea l off n bn))) (int (g8 (bb n) (len bn))) v w':=by
 have b9:(Builtin.lenOf (.slice ad bn.length cap)).run P w=.ok bn.length w:=rfl;obtain⟨news,f1,f2⟩:=ZJ (P:=P) (cap:=cap) bs n;rw[<- bm]at f1;have aD:∀phx' H' b2,a9 phx' H' b2 (int (g8 (bb n) (len bn))) (.int .i64 ((Nat.min bn.length n:Nat):Int)):=λphx' H' b2=>by rw[show g8 (bb n) (len bn)=((Nat.min bn.length n:Nat):Int) from ats n bn.length];exact⟨_,aJ.jl.2 rfl,rfl⟩
 rcases wa with⟨rfl,a',rfl⟩|⟨b,o,V7,gW,bD,rfl,dy,gb,gN⟩
 .have am:news=[]:=by have:=f2.1;simpa using this
  subst am;obtain⟨bE,e1⟩:=Tm rfl;refine⟨_,w,?_,phx,M,by rw[Rc];exact bE,by rw[Rc];exact e1,aD _ _ _⟩;cases a' with
  |none=>exact afQ aM bj b9 rfl f1
  |some a'=>exact afR aM bj b9 rfl f1 (by simp[storeCells])
 rcases eI with⟨bG,_⟩|⟨b',dz,c,el,fz,bG,ca,cr,du,eW⟩
 .rw[bD]at bG;cases bG
 rw[bD]at bG;cases bG;have v':news.length=(bn.take n).length*e.size:=f2.1;have v9:(off+(bn.take n).length)*e.size<=l.length*e.size:=iT _ (by rw[ib];omega);rw[f9]at v9;have D3:=cr.1;have hi:o+off*e.size+news.length<=c.size:=J;obtain⟨w',bp,cN,ax,d_⟩:=IC (P:=P) (b:=b) (el:=el) (fz:=fz) (o:=o+off*e.size) news 0 c w ca du J f2.one;simp only[xj]at d_;obtain⟨c3,fI⟩:=cr.copy (n:=n) bV f2 d_;refine⟨_,w',afR aM bj b9 rfl f1 bp,?_⟩;obtain⟨iI,j7⟩:=hm.put (id:=id) (x:=(b,o,c.size)) (w':=w') nm bD eW ax.os ax.tape ax.output ax.size ax.other (bl (ea l off n bn)) (apN _ (zz bV)) λj7=>
  qR _ cN b o el fz w' _ (zz bV) (by rw[bD,c3]) ax.jf (fI.mono j7.vw) (du.same c3) eW
 exact⟨phx,M,iI,j7,aD _ _ _⟩
def amR{e:ag}{tid uid ty:TypeId}(ht:(cT P (.sl e)).1 tid){a x r:av}{ci hq:Value}(h:(ZI e a x).a2 g B=some (r,B'))(hm:bK K w0 phx M B w)
  (eb:a9 phx (view w M) B a ci) (mP:a9 phx (view w M) B x hq) :
  ∃v w',(Builtin.copy_ #[tid,uid] ty #[ci,hq]).run P w=.ok v w'/\dB K w0 phx M B w B' r v w':=by
 replace h:=gU h;obtain⟨dN,h⟩:=h;have dN:0<e.size:=by simpa using dN
 obtain⟨bn,cY,O,R⟩:=aw.cH h;obtain⟨rfl,ad,cap,rfl,bs⟩:=VE O hm mP;obtain⟨⟨bd,aM,az⟩,_⟩:=ht;obtain⟨i,bj,bm,cW,fU⟩:=nV az;cases a<;>try(cases R;done)
 case nil =>cases R;have G5:ci=.slice none 0 0:=eb;subst G5;obtain⟨news,f1,f2⟩:=ZJ (P:=P) (cap:=cap) bs 0;rw[<- bm]at f1;refine⟨_,w,afQ aM bj rfl rfl f1,phx,M,hm,co.refl _ _ _ _,?_⟩;rw[show Nat.min (List.length (α:=e.aG) bn) 0=0 from Nat.min_zero _];exact⟨_,aJ.jl.2 rfl,rfl⟩
 case own id eP=>
  simp only[aw.a2]at R;have ae:bJ phx (view w M) cY (.own id eP) ci:=eb;simp only[bJ]at ae;have Y:=hm.blks id;generalize aB:cY id=bl at R ae Y;cases bl<;>try(cases R;done)
  rename_i bA l;obtain⟨h?,b2,ai,au⟩:=aw.cH R;obtain⟨bh,rfl⟩:=dQ ai;obtain⟨fG,rfl⟩:=jM bh;subst fG;cases au;refine Ra (id:=id) (off:=0) (n:=l.length) (l:=l) (bl:=λl=>.ob e l) aM bj bm hm bs (by rw[aB];rfl) J ae.1 (λ_=>by rw[Ji aB];exact⟨hm,co.refl _ _ _ _⟩) (λhj hl=>by rw[aB];exact⟨rfl,hl.symm⟩) Y.2 ?_;intro hj cN b o el fz w' b2 u3 bG ca cr du eW;exact⟨dN,.inr ⟨b,o,cN,el,fz,bG,ca,cr,du,eW⟩⟩
 case osl id off n=>
  simp only[aw.a2]at R;have ae:bJ phx (view w M) cY (.osl id off n) ci:=eb;simp only[bJ]at ae;have Y:=hm.blks id;generalize aB:cY id=bl at R ae Y;cases bl<;>try(cases R;done)
  case ob bA l =>obtain⟨h?,b2,ai,au⟩:=aw.cH R;obtain⟨bh,rfl⟩:=dQ ai;obtain⟨fG,rfl⟩:=jM bh;subst fG;cases au;refine Ra (id:=id) (off:=off) (n:=n) (l:=l) (bl:=λl=>.ob e l) aM bj bm hm bs (by rw[aB];rfl) ae.1 ae.2.1 (λ_=>by rw[Ji aB];exact⟨hm,co.refl _ _ _ _⟩) (λhj hl=>by rw[aB];exact⟨rfl,hl.symm⟩) Y.2 ?_;intro hj cN b o el fz w' b2 u3 bG ca cr du eW;exact⟨dN,.inr ⟨b,o,cN,el,fz,bG,ca,cr,du,eW⟩⟩
  case box t v=>
   cases t<;>try(cases R;done)
   rename_i m bA;obtain⟨l,b2,ai,au⟩:=aw.cH R;obtain⟨hl,rfl⟩:=dQ ai;obtain⟨h?,vm,a4,cQ⟩:=aw.cH au;obtain⟨bh,rfl⟩:=dQ a4;obtain⟨fG,rfl⟩:=jM bh;subst fG;cases cQ;obtain⟨eB,tc,c0,sK,sS,bD,b1,dy,gb,gN,j9⟩:=Y;obtain⟨acd,eI⟩:=J? (se hl gb) dy;have zZ:∀(hj:List e.aG) (cN:Array Value) (b o:Nat) (el:TypeId) (fz:Nat×Nat) (w':World) (b2:Nat->aU),hj.length=List.length (α:=e.aG) l->phx id=some (b,o,cN.size)->w'.heap[b]?=some (.cells cN el fz)->fi (view w' M) e hj cN o->iA cN fz->M b->l? phx M w' (view w' M) b2 id (.box (.ar m e) (.sc (.ar m e) hj)):=
    λhj cN b o el fz w' b2 u3 bG ca cr du eW=>by have z5:hj.length=m:=u3.trans acd;have D3:=cr.1;rw[z5]at D3;exact⟨b,o,cN,el,fz,bG,ca,D3,⟨rfl,awH cr z5⟩,du,eW⟩
   refine Ra (id:=id) (off:=off) (n:=n) (l:=l) (bl:=λl=>.box (.ar m e) (.sc (.ar m e) l)) aM bj bm hm bs (by rw[aB];rfl) (by rw[acd];exact ae.2.1) ae.2.2 (λ_ => ?_) (λhj hl=>by rw[aB];rfl)
    (.inr ⟨eB,tc,c0,sK,sS,bD,b1,eI,gN,j9⟩) zZ
   exact hm.put (id:=id) (x:=(eB,tc,c0.size)) (w':=w) (by rw[aB];rfl) bD j9 rfl rfl rfl rfl (λ_ _=>rfl) _ (by rw[aB];rfl) λj7=>
    zZ _ c0 eB tc sK sS w _ rfl bD b1 eI gN j9
def azd(H:cf){e:ag}(dN:0<e.size)(n:Nat):e' H e ((bM n e.zero).take n) (Builtin.zeroCells (cB e (dH e)).cells n).toList:=by
 have SF:Builtin.zeroCells (cB e (dH e)).cells n=madeCells (dH e).toArray (n*e.size):=by rw[tK];simp[Builtin.zeroCells,madeCells,sn]
 have h:=(O6 H dN (n:=n) (m:=n) (bX _)).sL;have ae:cJ (madeCells (dH e).toArray (n*e.size)) 0 ((bM n e.zero).length*e.size)=(madeCells (dH e).toArray (n*e.size)).toList:=IF rfl (by simp[size_madeCells,bM]);rw[ae]at h;rw[SF,iS (by simp[bM])];exact h
def Zu{e:ag}{tid ty bd:TypeId}(aM:P.underlying tid=some (.slice bd))(az:(cT P e).1 bd)(dN:0<e.size)(hm:bK K w0 phx M B w){id:Nat}{l:List e.aG}{ci:Value}(aB:B id=.ob e l)(bV:off+n<=l.length)(wa:h1 phx id e off n ci)
  (eI:(phx id=none/\l.length=0)\/∃b o c el fz,phx id=some (b,o,c.size)/\w.heap[b]?=some (.cells c el fz)/\fi (view w M) e l c o/\iA c fz/\M b) :
  ∃v w',(Builtin.clear_ #[tid] ty #[ci]).run P w=.ok v w'/\dB K w0 phx M B w (c6 B id (.ob e (ea l off n (bM n e.zero)))) (.tup (.sc .unit ())) v w':=by
 have acz:∀phx' H' b2,a9 phx' H' b2 (.tup (.sc .unit ())) (.tuple #[]):=λ_ _ _=>⟨[],rfl,rfl⟩;have Eh:n=0->(Builtin.clear_ #[tid] ty #[ci]).run P w=.ok (.tuple #[]) w->∃v w',(Builtin.clear_ #[tid] ty #[ci]).run P w=.ok v w'/\dB K w0 phx M B w (c6 B id (.ob e (ea l off n (bM n e.zero)))) (.tup (.sc .unit ())) v w':=by rintro rfl aj;rw[Rc,Ji aB];exact⟨_,w,aj,phx,M,hm,co.refl _ _ _ _,acz _ _ _⟩
 rcases wa with⟨rfl,a',rfl⟩|⟨b,o,V7,gW,bD,rfl,dy,gb,gN⟩
 .refine Eh rfl ?_
  cases a'<;>simp[Builtin.clear_,run_underlying aM]
 cases n with
 |zero=>exact Eh rfl (by simp[Builtin.clear_,run_underlying aM])
 |succ n=>
  rcases eI with⟨bG,_⟩|⟨b',dz,c,el,fz,bG,ca,cr,du,eW⟩
  .omega
  rw[bD]at bG;cases bG;have f2:=azd (view w M) dN (n+1);have v':=f2.1;have b9:((bM (n+1) e.zero).take (n+1)).length=n+1:=by simp[bM]
  rw[b9]at v';have v9:(off+(n+1))*e.size<=l.length*e.size:=iT _ bV;rw[f9]at v9;have D3:=cr.1;obtain⟨w',bp,cN,ax,d_⟩:=IC (P:=P) (b:=b) (el:=el) (fz:=fz) (o:=o+off*e.size) (Builtin.zeroCells (cB e (dH e)).cells (n+1)).toList 0 c w ca du J f2.one;obtain⟨c3,fI⟩:=cr.copy (n:=n+1) bV f2 d_;refine⟨.tuple #[],w',?_,?_⟩
  .have Ha:=A' az w
   simp[Builtin.clear_,run_underlying aM,Ha];simp[bp]
  obtain⟨iI,j7⟩:=hm.put (id:=id) (x:=(b,o,c.size)) (w':=w') (by rw[aB];rfl) bD eW ax.os ax.tape ax.output ax.size ax.other (.ob e (ea l off (n+1) (bM (n+1) e.zero))) (by rw[aB];exact⟨rfl,(zz bV).symm⟩) λj7=>
   ⟨dN,.inr ⟨b,o,cN,el,fz,by rw[bD,c3],ax.jf,fI.mono j7.vw,du.same c3,eW⟩⟩
  exact⟨phx,M,iI,j7,acz _ _ _⟩
def amF{e:ag}{tid ty:TypeId}(ht:(cT P (.sl e)).1 tid){a r:av}{ci:Value}(h:(Q2 e a).a2 g B=some (r,B'))(hm:bK K w0 phx M B w)(eb:a9 phx (view w M) B a ci):
  ∃v w',(Builtin.clear_ #[tid] ty #[ci]).run P w=.ok v w'/\dB K w0 phx M B w B' r v w':=by
 unfold Q2 at h;replace h:=gU h;obtain⟨dN,h⟩:=h;have dN:0<e.size:=by simpa using dN
 obtain⟨⟨bd,aM,az⟩,_⟩:=ht;cases a<;>try(cases h;done)
 case own id eP=>
  simp only[aw.a2]at h;have ae:bJ phx (view w M) B (.own id eP) ci:=eb;simp only[bJ]at ae;have Y:=hm.blks id;generalize aB:B id=bl at h ae Y;cases bl<;>try(cases h;done)
  replace h:=gU h;obtain⟨ah,h⟩:=h;have:=eV ah;subst this;cases h;exact Zu (ty:=ty) aM az dN hm aB (J3 (js _)) ae.1 Y.2
 case osl id off n=>
  simp only[aw.a2]at h;have ae:bJ phx (view w M) B (.osl id off n) ci:=eb;simp only[bJ]at ae;have Y:=hm.blks id;generalize aB:B id=bl at h ae Y;cases bl<;>try(cases h;done)
  replace h:=gU h;obtain⟨ah,h⟩:=h;have:=eV ah;subst this;cases h;exact Zu (ty:=ty) aM az dN hm aB ae.1 ae.2.1 Y.2
def ajo{e u:ag}{tid uid ty:TypeId}(ht:(cT P (.sl e)).1 tid)(aM:(cT P u).1 uid)(a_:L8 u=true){s x r:av}{vs hq:Value}(h:(PT e s x).a2 g B=some (r,B'))
  (hm:bK K w0 phx M B w) (wc:a9 phx (view w M) B s vs) (mP:a9 phx (view w M) B x hq) :
  ∃v w',(Builtin.append_ #[tid,uid] ty #[vs,hq]).run P w=.ok v w'/\dB K w0 phx M B w B' r v w':=by
 unfold PT at h;replace h:=gU h;obtain⟨dN,h⟩:=h;have dN:0<e.size:=by simpa using dN
 obtain⟨bn,cY,O,R⟩:=aw.cH h;clear h;obtain⟨rfl,news,hx,cb⟩:=XK (P:=P) O hm mP;obtain⟨⟨bd,p7,az⟩,_⟩:=ht;obtain⟨Cz,x',aI⟩:=agG aM a_;obtain⟨i,bj,bm,cW,fU⟩:=nV az;cases s<;>try(cases R;done)
 rename_i id off n;simp only[aw.a2]at R;have ae:bJ phx (view w M) cY (.osl id off n) vs:=wc;simp only[bJ]at ae;have Y:=hm.blks id;generalize aB:cY id=bl at R ae Y;cases bl<;>try(cases R;done)
 rename_i bA l;obtain⟨h?,b2,ai,au⟩:=aw.cH R;clear R;obtain⟨bh,rfl⟩:=dQ ai;obtain⟨fG,rfl⟩:=jM bh;subst fG;replace au:=i? au;obtain⟨go,au⟩:=au;simp only[aw.a2]at au;cases au;simp only[kv,bF,aV]at go;have go:off+(n+List.length bn)<l.length+1:=by simpa using go
 obtain⟨bV,aO,pZ⟩:=ae;have vX:=cb.1

 have atU:bn=[]->∃v w',(Builtin.append_ #[tid,uid] ty #[vs,hq]).run P w=.ok v w'/\dB K w0 phx M b2 w (c6 b2 id (.ob e (ea l (bF off n) (aV bn) bn))) (.osl id off (bF n (aV bn))) v w':=by
  rintro rfl;have acg:news=[]:=lJ.1 (by rw[vX];simp);subst acg;have nY:ea l (bF off n) (aV ([]:List e.aG)) []=l:=by simp[ea]
  rw[nY,Ji aB];obtain⟨ad,c,rfl⟩:=aO.slice;have qR:a9 phx (view w M) b2 (.osl id off (bF n (aV ([]:List e.aG)))) (.slice ad n c):=by simp only[a9,d6,bJ,aB];exact⟨by simpa[bF,aV]using bV,aO,pZ⟩
  cases n with
  |zero=>exact⟨_,w,Vx (P:=P) p7 x' aI bj (by rw[bm];exact hx),phx,M,hm,co.refl _ _ _ _,qR⟩
  |succ n=>
   rcases aO with⟨yf,_⟩|⟨b,o,V7,cap,bD,b1,dy,gb,gN⟩
   .omega
   cases b1;rcases Y.2 with⟨bG,_⟩|⟨b',dz,cN,el,fz,bG,ca,cr,du,eW⟩
   .rw[bD]at bG;cases bG
   rw[bD]at bG;cases bG;have D3:=cr.1;have v9:(off+(n+1))*e.size<=l.length*e.size:=iT _ bV;rw[f9]at v9;obtain⟨w',aj,c2,hp,mK⟩:=NJ (P:=P) (w:=w) (ty:=ty) p7 x' aI bj (x:=hq) (n:=0) (news:=[]) (by rw[bm];exact hx) (b:=b) (o:=o+off*e.size) (sLen:=n+1) (sCap:=c) J ca du (by rw[bm];simp only[gu];omega) (by intro v aD;cases aD);have SE:c2=cN:=by apply B1;rw[mK];simp[h']
   subst SE;obtain⟨iI,j7⟩:=hm.put (id:=id) (x:=(b,o,c2.size)) (w':=w') (by rw[aB];rfl) bD eW hp.os hp.tape hp.output hp.size hp.other (.ob e l) (by rw[aB];exact⟨rfl,rfl⟩) λj7=>
    ⟨dN,.inr ⟨b,o,c2,el,fz,bD,hp.jf,cr.mono j7.vw,du,eW⟩⟩
   rw[Ji aB]at iI j7;exact⟨_,w',aj,phx,M,iI,j7,j7.p qR⟩
 by_cases bs:bn=[]
 .exact atU bs
 have az1:0<List.length bn:=by
  cases n3:bn with
  |nil=>exact absurd n3 bs
  |cons=>simp
 rcases pZ with⟨yf,_⟩|⟨b,o,V7,uL,cap,bD,b1,dy⟩
 .omega
 subst b1;obtain⟨rfl,nZ⟩:=aO.Zn;rcases Y.2 with⟨bG,_⟩|⟨b',dz,c,el,fz,bG,ca,cr,du,eW⟩
 .rw[bD]at bG;cases bG
 rw[bD]at bG;cases bG;have D3:=cr.1;have v9:(off+(uL+List.length bn))*e.size<=l.length*e.size:=iT _ J;rw[f9,f9]at v9;obtain⟨w',aj,cN,hp,mK⟩:=NJ (P:=P) (w:=w) (ty:=ty) p7 x' aI bj (x:=hq) (n:=List.length bn) (news:=news) (by rw[bm];exact hx) (b:=b) (o:=o+off*e.size) (sLen:=uL) (sCap:=cap) J ca du (by rw[bm];omega) cb.one;rw[bm]at mK;have apj:e' (view w M) e (bn.take (List.length bn)) news:=by rw[o5];exact cb
 obtain⟨c3,fI⟩:=cr.copy (off:=off+uL) (n:=List.length bn) J apj (by rw[mK,f9,jJ]);obtain⟨iI,j7⟩:=hm.put (id:=id) (x:=(b,o,c.size)) (w':=w') (by rw[aB];rfl) bD eW hp.os hp.tape hp.output hp.size hp.other (.ob e (ea l (off+uL) (List.length bn) bn)) (by rw[aB];exact⟨rfl,(zz J).symm⟩) λj7=>
  ⟨dN,.inr ⟨b,o,cN,el,fz,by rw[bD,c3],hp.jf,fI.mono j7.vw,du.same c3,eW⟩⟩
 refine⟨_,w',aj,phx,M,iI,j7,?_⟩;have eZ:(ea l (off+uL) (List.length bn) bn).length=l.length:=zz J;rcases aO with⟨yf,gT,gb⟩|⟨eC,mR,aAl,KG,gb,gN,j9,kP,kQ⟩
 .simp only[Value.slice.injEq]at gb;omega
 rw[bD]at gb;cases gb;simp only[Value.slice.injEq]at gN;obtain⟨_,_,rfl⟩:=gN;simp only[a9,d6,bJ,e6];refine⟨by rw[show bF off uL=off+uL from rfl,show aV bn=List.length bn from rfl,eZ];unfold bF;omega,.inr ⟨b,o,c.size,cap,bD,rfl,by show uL+List.length bn<=cap;omega,kP,kQ⟩,?_⟩;rw[show bF off uL=off+uL from rfl,show aV bn=List.length bn from rfl,eZ];exact .inr ⟨b,o,c.size,_,cap,bD,rfl,dy⟩
def axC{jY:ag}{tid:TypeId}(ht:(cT P (.ar n jY)).1 tid){a r:av}{ci:Value}{lo ac:Option Int}(h:(VM n jY a (bQ lo 0) (bQ ac (bb n))).a2 g B=some (r,B'))(hm:bK K w0 phx M B w)
  (eb:a9 phx (view w M) B a ci) (ks kh:IntKind):B'=B/\∃v,(Instr.sliceAt tid ci (lo.map λi=>.int ks i) (ac.map λi=>.int kh i) none).run P w=.ok v w/\a9 phx (view w M) B r v:=by
 have run:∀{b o:Nat},b5 (bQ lo 0) (bQ ac (bb n)) (bb n)=true->(Instr.sliceAt tid (.pointer (some ⟨b,o,none⟩)) (lo.map λi=>.int ks i) (ac.map λi=>.int kh i) none).run P w =
   .ok (.slice (some (if n=(bQ lo 0).toNat then⟨b,o,none⟩ else(⟨b,o,none⟩:Addr).add ((bQ lo 0).toNat*jY.size))) ((bQ ac (bb n)).toNat-(bQ lo 0).toNat) (n-(bQ lo 0).toNat)) w:=by
  intro b o Y;obtain⟨⟨bd,aM,az⟩,_⟩:=ht;have mJ:=VN (P:=P) (isSlice:=false) (ks:=ks) (kh:=kh) (bX n) Y w;have bh:=oT az w;simp[Instr.sliceAt,Instr.sureAddr,run_underlying aM,mJ,bh];rfl
 unfold VM at h;split at h
 .rename_i id
  simp only[aw.a2]at h;have ae:bJ phx (view w M) B (.ptr id []) ci:=eb;simp only[bJ]at ae;have Y:=hm.blks id;generalize aB:B id=bl at h ae Y;cases bl<;>try(cases h;done)
  case box t v=>
   replace h:=gU h;obtain⟨ah,h⟩:=h;replace h:=i? h;obtain⟨fb,h⟩:=h;cases h;simp only[cM]at ah;obtain⟨O,R,ai⟩:=ah;have:=eV O;subst this;have dN:0<jY.size:=by simpa using R
   have jB:n<=16777216:=by simpa using ai
   obtain⟨b,o,m,off,t',bD,b1,rfl⟩:=ae;simp only[ag.et,kY,lk]at b1;obtain⟨rfl,_⟩:=b1;obtain⟨eB,tc,c0,sK,sS,bG,ca,cr,du,eW,lh⟩:=Y;rw[bD]at bG;cases bG;have cr:o+n*jY.size<=c0.size:=cr;obtain⟨dG,gz,le⟩:=rT.1 fb;have le:bQ ac (bb n)<=(n:Int):=le;refine⟨rfl,_,run fb,?_⟩;show bJ phx (view w M) B (.osl id (ab (bQ lo 0)) (ce (ab (bQ ac (bb n))) (ab (bQ lo 0)))) _;simp only[bJ,aB];refine⟨dN,by unfold ce ab;omega,?_⟩;unfold ce ab;by_cases hl:n=(bQ lo 0).toNat
   .left
    rw[if_pos hl];exact⟨J,_,by rw[show(bQ ac (bb n)).toNat-(bQ lo 0).toNat=0 by omega,show n-(bQ lo 0).toNat=0 by omega]⟩
   right;rw[if_neg hl];refine⟨b,o,c0.size,n-(bQ lo 0).toNat,bD,by simp[qB],J,by unfold maxLen;omega,?_⟩;rw[show(bQ lo 0).toNat+(n-(bQ lo 0).toNat)=n by omega];exact cr
  case fz e l=>
   replace h:=gU h;obtain⟨ah,h⟩:=h;replace h:=i? h;obtain⟨fb,h⟩:=h;cases h;simp only[cM]at ah;obtain⟨O,ai⟩:=ah;have:=eV O;subst this;have jB:n<=16777216:=by simpa using ai
   simp only[cV,cM]at fb;obtain⟨LO,fb⟩:=fb;have LO:l.length=n:=fP LO;obtain⟨b,o,m,bD,b1⟩:=ae;have:=b1 trivial;subst this;rcases Y.2 with⟨bG,_⟩|⟨eB,tc,c0,sK,sS,bG,ca,cr⟩
   .rw[bD]at bG;cases bG
   rw[bD]at bG;cases bG;obtain⟨dG,gz,le⟩:=rT.1 fb;have le:bQ ac (bb n)<=(n:Int):=le;have cA:aJ (view w M) (.sl e) l [.slice (some ⟨b,o,none⟩) l.length n]:=
    aJ.iL.2 ⟨_,n,rfl,J,by unfold maxLen;omega,.inr ⟨b,o,c0,sK,sS,rfl,ca,cr.1,cr.2⟩⟩
   have a4:=cA.sub (L:=(bQ lo 0).toNat) (N:=(bQ ac (bb n)).toNat-(bQ lo 0).toNat) (cap':=n-(bQ lo 0).toNat) J J (bX _);refine⟨rfl,_,run fb,_,a4,?_⟩;refine(show Value.slice _ _ _=Value.slice _ _ _ from ?_);congr 1;by_cases hl:n=(bQ lo 0).toNat
   .rw[if_pos hl,if_pos J]
   rw[if_neg hl,if_neg J];rfl
 cases h
end
end Yp
namespace Yp
open Go
def xb:=@Array.getElem?_setIfInBounds_ne
def E':=@Int.fdiv_eq_ediv_of_nonneg
def Xf:=@Nat.ble_eq
variable {P:Program}
section
variable {K:Kp} {w0 w:World} {phx:cd} {M:Nat->Prop} {B B':Nat->aU} {g:Nat->av} {H:cf}
def atL{x r:av}{hq:Value}(h:(Up x).a2 g B=some (r,B'))(hm:bK K w0 phx M B w)(aj:a9 phx (view w M) B x hq)(ty:TypeId):
  ∃v w',(Instr.next hq true ty).run P w=.ok v w'/\dB K w0 phx M B w B' r v w':=by
 cases x<;>try(cases h;done)
 rename_i id;simp only[Up,aw.a2]at h;have ae:bJ phx (view w M) B (.itp id) hq:=aj;have dM:=hm.blks id;simp only[bJ]at ae;generalize aB:B id=bl at h ae dM;cases bl<;>try(cases h;done)
 rename_i s p;obtain⟨b,O,rfl⟩:=ae;obtain⟨b',bj,bm,cW⟩:=dM;rw[O]at bj;cases bj;have rK:∀w':World,w'.heap[b]?=some (.stringIter ⟨s.toArray⟩ p)->(getObj b).run P w'=.ok (.stringIter ⟨s.toArray⟩ p) w':=λw' bu=>by simp[getObj,Sem.run,bu]
 have c3:(⟨s.toArray⟩:ByteArray).size=s.length:=rfl;by_cases hp:p<s.length
 .have am:kv p (aV s)=true:=by simpa[kv,aV]using hp
  rw[aw.a2,if_pos am]at h;cases h
  let w':World:={ w with heap:=w.heap.setIfInBounds b (.stringIter ⟨s.toArray⟩ (p+(ig s p).2)) }
  have bi:b<w.heap.size:=(iR.1 bm).1;have mJ:w'.heap[b]?=some (.stringIter ⟨s.toArray⟩ (p+(ig s p).2)):=by simp[w',bi]
  have aO:∀j,j≠b->w'.heap[j]?=w.heap[j]?:=λj ao=>by simp[w',xb (zc ao)]
  have aqa:Utf8.decode (⟨s.toArray⟩:ByteArray) p=ig s p:=rfl;refine⟨.tuple #[.bool true,goInt p,.int .i32 ((ig s p).1:Int)],w',?_,?_⟩
  .simp[Instr.next,rK w bm,c3,hp,aqa,setObj,Sem.run,bm,w']
  obtain⟨bE,e1⟩:=hm.put (id:=id) (x:=(b,0,0)) (w':=w') (by rw[aB];rfl) O cW rfl rfl rfl (by grind) aO (.it s (bF p (ig s p).2)) (by rw[aB];rfl) (λ_=>⟨b,O,mJ,cW⟩);refine⟨phx,M,bE,e1,[.bool true,goInt p,.int .i32 ((ig s p).1:Int)],?_,rfl⟩;have bG:d6 phx (view w' M) (c6 B id (.it s (bF p (ig s p).2))) (Yp.int (bb p)) (goInt p):=a9.uN (phx:=phx) (B:=c6 B id (.it s (bF p (ig s p).2))) _ p;have ca:d6 phx (view w' M) (c6 B id (.it s (bF p (ig s p).2))) (.sc (.int .i32) (bb (ig s p).1)) (.int .i32 ((ig s p).1:Int)):=a9.s? phx _ (c6 B id (.it s (bF p (ig s p).2))) .i32 ((ig s p).1:Int);exact⟨_,_,rfl,rfl,_,_,rfl,bG,_,_,rfl,ca,rfl⟩
 have am:¬(kv p (aV s)=true):=by simpa[kv,aV]using hp
 rw[aw.a2,if_neg am]at h;cases h;refine⟨.tuple #[.bool false],w,?_,dB.same hm rfl ?_⟩
 .simp[Instr.next,rK w bm,c3,hp]
 exact⟨[.bool false],⟨_,_,rfl,rfl,rfl⟩,rfl⟩
def Zq{b:Bool}{k:aw av}{r:av×(Nat->aU)}(h:(zx b c k).a2 g B=some r):(b=true\/c=true)/\k.a2 g B=some r:=by
 cases b with
 |true=>exact⟨.inl rfl,h⟩
 |false=>obtain⟨O,R⟩:=i? h;exact⟨.inr O,R⟩
def agR{op:BinOp}(s1:op=.shl\/op=.shr){k k':IntKind}{x:bH k}{y:bH k'}(bs:0<=bH.to k' y)(t:TypeId)(w:World):
  ∃v,(binOp op t (.int k (bH.to k x)) (.int k' (bH.to k' y))).run P w=.ok v w /\
   a9 phx H B (match op with|.shl=>.sc (.int k) (bH.of k (hU k (bH.to k x) (bH.to k' y)))|_=>.sc (.int k) (bH.lit k (fB k (bH.to k x) (bH.to k' y)))) v:=by
 have am:¬bH.to k' y<0:=J;rcases s1 with rfl|rfl
 .refine⟨.int k (k.wrap (hU k (bH.to k x) (bH.to k' y))),by simp[binOp,Op.shift,am,hU],?_⟩
  have:=a9.s? phx H B k (bH.of k (hU k (bH.to k x) (bH.to k' y)))
  rwa [bH.Ou]at this
 refine⟨.int k (fB k (bH.to k x) (bH.to k' y)),by simp[binOp,Op.shift,am,fB],?_⟩;have:=a9.s? phx H B k (bH.lit k (fB k (bH.to k x) (bH.to k' y)));rw[bH.T6]at this
 .omega
 intro aM;have O:=bH.Je k x aM;have R:=bH.ahO k x aM;unfold fB;have hp:(0:Int)<2^(Nat.min (bH.to k' y).toNat k.bits):=Int.pow_pos J;rw[E' _ (Int.le_of_lt hp)];exact⟨Int.ediv_nonneg O (Int.le_of_lt hp),Int.le_trans (Int.ediv_le_self _ O) R⟩
def run_equalIn_bool(n:Nat){tid:TypeId}(aM:P.underlying tid=some .bool)(p q:Bool)(w:World):(Op.equalIn (n+1) tid (.bool p) (.bool q)).run P w=.ok (p==q) w:=by rw[Op.equalIn];simp only[Sem.run_bind,run_underlying aM];rfl
def awQ{tid:TypeId}(aM:P.underlying tid=some .bool)(p q:Bool)(w:World):(Op.equal tid (.bool p) (.bool q)).run P w=.ok (p==q) w:=
 run_equalIn_bool 9999 aM p q w
def awS{tid bd:TypeId}(aM:P.underlying tid=some (.slice bd))(ad:Option Addr)(l c:Nat)(w:World):(Op.equal tid (.slice ad l c) (.slice none 0 0)).run P w=.ok ad.isNone w:=by show(Op.equalIn (9999+1) tid _ _).run P w=_;rw[Op.equalIn];simp only[Sem.run_bind,run_underlying aM];cases ad<;>rfl
def ajY{E:dl}(hT:nA P E.b6)(cA:pP P E.b6 E.C){op:BinOp}{tid:TypeId}{a b r:av}{ci tG:Value}(h:(P8 E op tid a b).a2 g B=some (r,B'))(eb:a9 phx H B a ci)(uy:a9 phx H B b tG)(x y:Operand)(w:World):
  B'=B/\∃v,(do eqGuard op tid x y ci tG;binOp op tid ci tG:Sem Value).run P w=.ok v w/\a9 phx H B r v:=by
 unfold P8 at h;cases ht:E.b6 tid with
 |none=>rw[ht]at h;cases h
 |some t=>
  rw[ht]at h;cases ac:ag.is t .bool with
  |true=>
   have:=eV ac;subst this;have aM:P.underlying tid=some .bool:=(hT _ _ ht).1;cases bc:iM .bool a with
   |none=>rw[bc]at h;cases h
   |some p=>
    cases Y:iM .bool b with
    |none=>rw[bc,Y]at h;cases h
    |some q=>
     rw[bc,Y]at h;have e1:=(og bc eb).bool;have aT:=(og Y uy).bool;subst e1;subst aT;have hg:(eqGuard op tid x y (.bool p) (.bool q)).run P w=.ok () w:=by unfold eqGuard;cases op<;>rfl
     have qM:(Op.equal tid (.bool p) (.bool q)).run P w=.ok (qD p q) w:=Yp.awQ aM p q w;cases op<;>try(cases h;done)
     .cases h
      exact⟨rfl,_,by simp[hg,binOp,qM],a9.uM _ _ _ _⟩
     cases h;exact⟨rfl,_,by simp[hg,binOp,qM,aZ],a9.uM _ _ _ _⟩
  |false=>
   simp only[ac,cond_false]at h;cases ah:E.C tid with
   |false=>
    rw[ah,cond_false]at h;unfold adN at h;split at h
    .rename_i e t' z
     obtain⟨aAr,cY,O,R⟩:=aw.cH h;obtain⟨bh,rfl⟩:=dQ O;obtain⟨fG,rfl⟩:=vK bh;subst fG;cases R;simp only[a9]at uy;subst uy;obtain⟨cs,ai,rfl⟩:=eb;obtain⟨ad,cap,rfl,au,a4,cQ⟩:=aJ.Bh.1 ai;obtain⟨⟨bd,aM,_⟩,_⟩:=hT _ _ ht;refine⟨rfl,_,?_,ad.isNone,rfl,λam => ?_⟩
     .have hg:∀n,(eqGuard .eql tid x y (.slice ad n cap) (.slice none 0 0)).run P w=.ok () w:=λ_=>rfl
      have qM:=λn=>awS (P:=P) aM ad n cap w;simp[hg,binOp,cB,ag.isAgg,qM]
     rcases cQ with cQ|⟨b,o,c,el,fz,rfl,_⟩
     .simp[af,len,cQ]
     cases am
    cases h
   |true=>
   rw[ah]at h;have gn:=cA tid t ah ht;simp only[Q8,cM,xe,Xf]at gn;obtain⟨⟨⟨jx,azK⟩,ap2⟩,aqI⟩:=gn;cases bc:iM t a with
   |none=>rw[bc]at h;cases h
   |some p=>
    cases Y:iM t b with
    |none=>rw[bc,Y]at h;cases h
    |some q=>
     rw[bc,Y]at h;obtain⟨cs,c1,e1⟩:=og bc eb;obtain⟨ds,c2,aT⟩:=og Y uy;rw[ww jx]at e1 aT;subst e1;subst aT;have hg:=run_eqGuard_agg (P:=P) w op tid x y cs.toArray ds.toArray aqI;have qM:(Op.equal tid (.agg cs.toArray) (.agg ds.toArray)).run P w=.ok (t.oE p q) w:=by
      have:=(K8 (P:=P) (H:=H) (H':=H) w t).1 tid 10000 p q cs ds ap2 (hT _ _ ht) c1 c2 J
      rwa [ww jx,ww jx]at this
     cases op<;>try(cases h;done)
     .cases h
      exact⟨rfl,_,by simp[hg,binOp,qM],a9.uM _ _ _ _⟩
     cases h;exact⟨rfl,_,by simp[hg,binOp,qM,aZ],a9.uM _ _ _ _⟩
def aj0{E:dl}(hT:nA P E.b6)(cA:pP P E.b6 E.C){r1 HQ:Bool}{op:BinOp}{tid:TypeId}{a b r:av}{ci tG:Value}(h:(Ki E r1 HQ op tid a b).a2 g B=some (r,B'))(eb:a9 phx H B a ci)(uy:a9 phx H B b tG)
  (LR:r1=true->∀k n,tG=.int k n->n≠0) (acg:HQ=true->∀k n,tG=.int k n->0<=n) (x y:Operand) (w:World) :
  B'=B/\∃v,(do eqGuard op tid x y ci tG;binOp op tid ci tG:Sem Value).run P w=.ok v w/\a9 phx H B r v:=by
 unfold Ki at h;split at h
 .rename_i k p k' q
  have e1:=eb.int;have aT:=uy.int;subst e1;subst aT;have hg:=anE (P:=P) op tid x y k k' (bH.to k p) (bH.to k' q) w;split at h
  .obtain⟨ah,h⟩:=Zq h
   cases h;have bs:0<=bH.to k' q:=by
    rcases ah with ah|ah
    .simp at ah
     rcases ah with ah|ah
     .grind
     exact bH.Je _ _ ah
    simpa[b?]using ah
   obtain⟨v,O,R⟩:=agR (P:=P) (phx:=phx) (H:=H) (B:=B) (op:=.shl) (.inl rfl) (x:=p) (y:=q) bs tid w;exact⟨rfl,v,by simp[hg,O],R⟩
  .obtain⟨ah,h⟩:=Zq h
   cases h;have bs:0<=bH.to k' q:=by
    rcases ah with ah|ah
    .simp at ah
     rcases ah with ah|ah
     .grind
     exact bH.Je _ _ ah
    simpa[b?]using ah
   obtain⟨v,O,R⟩:=agR (P:=P) (phx:=phx) (H:=H) (B:=B) (op:=.shr) (.inr rfl) (x:=p) (y:=q) bs tid w;exact⟨rfl,v,by simp[hg,O],R⟩
  split at h
  .rename_i M1 a_
   obtain⟨e,rfl⟩:=vK a_;cases e;obtain⟨aB,v,O,R⟩:=ajZ (P:=P) h (λbh=>LR bh _ _ rfl) tid w phx H;exact⟨aB,v,by simp[hg,O],R⟩
  cases h
 .rename_i p q
  have e1:=eb.str;have aT:=uy.str;subst e1;subst aT;have hg:=anF (P:=P) op tid x y ⟨p.toArray⟩ ⟨q.toArray⟩ w;obtain⟨aB,v,O,R⟩:=aj1 (P:=P) h tid w phx H;exact⟨aB,v,by simp[hg,O],R⟩
 exact ajY hT cA h eb uy x y w
end
end Yp
namespace Yp
open Go
def fQ:=@List.length_cons
def zh:=@List.mem_map
def za:=@List.getElem?_cons_succ
def B9:=@Array.length_toList
def E?:=@Array.toList_setIfInBounds
def Ph:=@List.mapM_cons
variable {P:Program}
def pH(phx:cd)(H:cf)(B:Nat->aU):List (Nat×av)->List (Nat×Value)->Prop
 |[],[]=>True
 |p::a5,v::vs=>p.1=v.1/\a9 phx H B p.2 v.2/\pH phx H B a5 vs
 |_,_=>False
section
variable {K:Kp} {w0 w:World} {phx:cd} {M:Nat->Prop} {B B':Nat->aU} {g:Nat->av} {H:cf}
def pH.ext{phx':cd}{aA:Nat->Prop}{w':World}(az:co phx M B w phx' aA B' w'):∀{a5:List (Nat×av)} {vs:List (Nat×Value)},pH phx (view w M) B a5 vs->pH phx' (view w' aA) B' a5 vs
 |[],[],_=>trivial
 |_::_,_::_,h=>⟨h.1,az.p h.2.1,pH.ext az h.2.2⟩
def UW{a:Act}(ae:dE phx H B g a):∀{l:List (Nat×Operand)} {B':Nat->aU} {a5:List (Nat×av)},(MW l).a2 g B=some (a5,B')->B'=B/\pH phx H B a5 (l.map λp=>(p.1,a.eval p.2))
 |[],B',a5,h=>by cases h;exact⟨rfl,trivial⟩
 |p::l,B',a5,h=>by have h:(((eu p.2).bind λv=>.ret (p.1,v)).bind λb=>(MW l).bind λb8=>.ret (b::b8)).a2 g B=some (a5,B'):=h;obtain⟨b,cY,O,R⟩:=aw.cH h;obtain⟨v,b2,ai,au⟩:=aw.cH O;cases au;obtain⟨kN,aD⟩:=ys ai ae;obtain⟨b8,vm,a4,cQ⟩:=aw.cH R;cases cQ;rw[kN]at a4;obtain⟨aB,hp⟩:=UW ae a4;exact⟨aB,rfl,aD,hp⟩
def ada(off:Nat):∀(vs:List Value) (k:Nat) (cs:Array Value),off+k+vs.length<=cs.size ->
  ((vs.zipIdx k).foldl (λcs (p:Value×Nat)=>cs.setIfInBounds (off+p.2) p.1) cs).toList=h' cs.toList (off+k) vs
 |[],k,cs,h=>by simp[h']
 |v::vs,k,cs,h=>by
  simp only[List.zipIdx_cons,ze];simp only[fQ]at h;have b9:off+(k+1)+vs.length<=cs.toList.length:=fS;have aqV:off+k+(v::vs).length<=cs.toList.length:=fS;rw[ada off vs (k+1) _ fS];apply xm;intro j;rw[yN fS,yN aqV];simp only[E?,B_,fQ,B9];by_cases a4:j<off+k
  .rw[if_pos J,if_pos a4,if_neg J]
  rw[if_neg a4];by_cases cQ:j=off+k
  .subst cQ
   have:off+k<cs.size:=J;simp[this]
  by_cases eh:j<off+k+(vs.length+1)
  .rw[if_neg J,if_pos J,if_pos eh]
   rw[show j-(off+k)=(j-(off+(k+1)))+1 by omega,za]
  rw[if_neg J,if_neg J,if_neg eh,if_neg J]
def as0(off:Nat)(vs cs:Array Value)(h:off+vs.size<=cs.size):
  (vs.zipIdx.foldl (λcs (p:Value×Nat)=>cs.setIfInBounds (off+p.2) p.1) cs).toList=h' cs.toList off vs.toList:=by
 have:=ada off vs.toList 0 cs J;rw[<- Array.foldl_toList]
 grind
def aax{place:Nat->Option (Nat×Nat)}{cs:Array Value}{v:Value}{rest:List (Nat×Value)}{size:Nat}(hp:place i=some (off,size))(ae:v.cells.size=size)(am:off+size<=cs.size):
  ∃ja:Array Value,ja.toList=h' cs.toList off v.cells.toList/\Instr.fill place cs ((i,v)::rest)=Instr.fill place ja rest:=by
 refine⟨_,as0 off v.cells cs J,?_⟩;simp[Instr.fill,hp,ae];omega
def aeZ:∀{t:ag} {l:List Field} {off:Nat},(cT P t).2 l off->∃places,l.mapM (λf=>(P.info? f.type).map λi=>(f.offset,i.size))=some places /\
  ∀i d d7,t.et (gG i)=some (d,d7)->places[i]?=some (off+d,d7.size)
 |.unit,l,off,h=>by subst h;exact⟨[],rfl,λi d d7 h=>by cases i<;>cases h⟩
 |.pair a b,l,off,h=>by
  obtain⟨f,r,rfl,O,R,ai⟩:=h;obtain⟨a5,bj,bm⟩:=aeZ ai;obtain⟨i,bD,b1,_⟩:=nV R;refine⟨(off,a.size)::a5,by simp[Ph,bj,bD,b1,O],λj d d7 h => ?_⟩;cases j with
  |zero=>
   simp only[gG,ag.et]at h
   grind
  |succ j=>
   simp only[gG,ag.et,l8]at h
   grind
def Qi{t:ag}{place:Nat->Option (Nat×Nat)}(ji:∀i d d7,t.et (gG i)=some (d,d7)->place i=some (d,d7.size)):
  ∀{a5:List (Nat×av)} {vs:List (Nat×Value)} {v c9:av} {cs:Array Value},(CM t a5).a2 g B=some ((),B')->Em t v a5=some c9->pH phx H B a5 vs->fh phx H B v t cs.toList ->
  B'=B/\∃ja,Instr.fill place cs vs=some ja/\fh phx H B c9 t ja.toList
 |[],[],v,c9,cs,O,R,ai,au=>by cases O;cases R;exact⟨rfl,cs,rfl,au⟩
 |(i,u)::a5,(j,x)::vs,v,c9,cs,O,R,ai,au=>by
  obtain⟨jy,hx,ai⟩:=ai;simp only[CM]at O;simp only[Em]at R;cases x1:t.at (gG i) with
  |none=>rw[x1]at O;cases O
  |some d7=>
   rw[x1]at O;obtain⟨_,cY,a4,cQ⟩:=aw.cH O;obtain⟨jP,cu,nl,hT⟩:=Lh a4 hx;rw[jP]at cQ;obtain⟨d,aO⟩:=P0 x1;cases ae:mX v (gG i) (wX u) with
   |none=>rw[ae]at R;cases R
   |some w5=>
    rw[ae]at R;have hl:=hT.length;have bV:=uT aO;have c3:x.cells.size=d7.size:=by rw[<- hl,<- nl];simp
    have mi:=au.length;obtain⟨JF,e1,aT⟩:=aax (rest:=vs) (ji i d d7 aO) c3 (cs:=cs) (by grind);have abG:=VH au aO ae hT;rw[<- nl,<- e1]at abG;obtain⟨aB,rA,dI,gX⟩:=Qi ji cQ R ai abG
    grind
def X'{t:ag}(e4:acX t=true){tid:TypeId}(ht:(cT P t).1 tid){a5:List (Nat×av)}{parts:Array (Nat×Value)}{r:av}
  (h:((CM t a5).bind λ_=>(aw.opt (Em t (nD t) a5)).bind λv=>.ret (qq t v)).a2 g B=some (r,B')) (dm:pH phx H B a5 parts.toList) (w:World) :
  B'=B/\∃v,(Instr.build tid parts).run P w=.ok v w/\a9 phx H B r v:=by
 obtain⟨_,cY,O,R⟩:=aw.cH h;obtain⟨v,b2,ai,au⟩:=aw.cH R;obtain⟨a4,rfl⟩:=dQ ai;cases au;have jx:t.isAgg=true:=by cases t<;>first|rfl|cases e4
 obtain⟨fp,aM,GI⟩:∃fp,P.underlying tid=some (.struct fp)/\(cT P t).2 fp.toList 0:=by
  cases t<;>try(cases e4;done)
  .obtain⟨⟨fp,aM,az⟩,_⟩:=ht;exact⟨fp,aM,az⟩
  obtain⟨⟨fp,aM,f,q,e1,aT,dI,gX⟩,_⟩:=ht;exact⟨fp,aM,f,q,e1,aT,dI,by simpa using gX⟩
 obtain⟨places,dG,gz⟩:=aeZ GI;obtain⟨i,bD,b1,_,gb⟩:=nV ht;have Ty:fh phx H B (nD t) t (dH t).toArray.toList:=y8 t;obtain⟨aB,ja,e1,aT⟩:=Qi (g:=g) (B':=B') (place:=(places.toArray[·]?)) (λi d d7 aO=>by have:=gz i d d7 aO;simpa using this) O a4 dm Ty;refine⟨aB,.agg ja,run_build w tid parts ja ?_,?_⟩
 .have G?:((cB t (dH t))).cells=(dH t).toArray:=tK t
  simp only[Program.built,bD,aM,gb,dG,G?];exact e1
 have:=BL aT;simp only[cB,jx,if_true]at this;simpa using this
def NX{α:Type}:∀(fm:List (Nat×α)) (l:List α),(va l fm).length=l.length
 |[],l=>rfl
 |(i,x)::fm,l=>by simp only[va];rw[NX fm];simp
def e'.set{e:ag}{l:List e.aG}{cs:List Value}(h:e' H e l cs)(ac:i<l.length){x:e.aG}{cu:List Value}(hx:aJ H e x cu):e' H e (l.set i x) (h' cs (i*e.size) cu):=by
 have hl:=hx.length;have hm:=yo (s:=e.size) ac;have hi:i*e.size+cu.length<=cs.length:=by rw[h.1,hl];exact hm
 refine⟨by rw[Ex hi,h.1,kf],λj y ao => ?_⟩;by_cases dS:j=i
 .subst dS
  have:=T4 (x:=x) ac;simp only[cg]at this;rw[this]at ao;cases ao;have:=Oh (a:=j*e.size) (o:=0) (n:=e.size) (cs:=cs) (vs:=cu) (by simpa using hi) J;simp only[xj]at this;rw[this,ahc]
  .exact hx
  rw[ib,ep];omega
 have:=T3 (l:=l) (x:=x) dS;simp only[cg]at this;rw[this]at ao;rw[I5 hi]
 .exact h.2 j y ao
 rcases PI dS with h|h
 .have:=yo (s:=e.size) h;left;omega
 have:=yo (s:=e.size) h;right;omega
def PM(H:cf)(e:ag):List (Nat×e.aG)->List (Nat×Value)->Prop
 |[],[]=>True
 |p::a5,v::vs=>p.1=v.1/\aJ H e p.2 v.2.cells.toList/\PM H e a5 vs
 |_,_=>False
def Wv{e:ag}:∀{a5:List (Nat×av)} {vs:List (Nat×Value)} {fm:List (Nat×e.aG)} {M:Nat->Prop} {B B':Nat->aU},(Jd e a5).a2 g B=some (fm,B')->bK K w0 phx M B w->pH phx (view w M) B a5 vs ->
  ∃aA,bK K w0 phx aA B' w/\co phx M B w phx aA B' w/\PM (view w aA) e fm vs/\fm.map (·.1)=a5.map (·.1)
 |[],[],fm,M,B,B',h,hm,_=>by cases h;exact⟨M,hm,co.refl _ _ _ _,trivial,rfl⟩
 |(i,u)::a5,(j,v)::vs,fm,M,B,B',h,hm,hp=>by obtain⟨jy,aM,hp⟩:=hp;subst jy;obtain⟨x,cY,O,R⟩:=aw.cH h;obtain⟨aAq,b2,ai,au⟩:=aw.cH R;cases au;obtain⟨cs,aD,fR,bE,e1,_,_,f1⟩:=Bs O hm aM;obtain⟨c',cq,aT,f2,f3⟩:=Wv ai bE (hp.ext e1);refine⟨c',cq,e1.trans aT,⟨rfl,?_,f2⟩,by simp[f3]⟩;have cA:=f1 rfl;rw[aD,HH cA];exact cA.mono aT.vw
def RL{e:ag}{place:Nat->Option (Nat×Nat)}(ji:∀i,place i=some (i*e.size,e.size)):
  ∀{fm:List (Nat×e.aG)} {vs:List (Nat×Value)} {l:List e.aG} {cs:Array Value},PM H e fm vs->(∀p∈fm.map (·.1),p<l.length)->e' H e l cs.toList ->
  ∃ja,Instr.fill place cs vs=some ja/\e' H e (va l fm) ja.toList
 |[],[],l,cs,_,_,h=>⟨cs,rfl,h⟩
 |(i,x)::fm,(j,v)::vs,l,cs,hx,ac,h=>by
  obtain⟨jy,cA,hx⟩:=hx;subst jy;have bi:i<l.length:=ac i bf;have hl:=cA.length;have hm:=yo (s:=e.size) bi;have c3:v.cells.size=e.size:=by simpa using hl
  have mi:=h.1;obtain⟨JF,e1,aT⟩:=aax (rest:=vs) (ji i) c3 (cs:=cs) (by grind);have O:=h.set bi cA;rw[<- e1]at O;obtain⟨rA,dI,gX⟩:=RL ji hx (λp hp=>by rw[kf];exact ac p (by grind)) O;exact⟨rA,by rw[aT];exact dI,gX⟩
def e'.ar{e:ag}{l:List e.aG}{cs:List Value}(h:e' H e l cs)(am:l.length=n):aJ H (.ar n e) l cs:=aJ.Cg.2 ⟨am,by rw[h.1,am],h.2⟩
def akk{e:ag}{tid:TypeId}(ht:(cT P (.ar n e)).1 tid){a5:List (Nat×av)}{parts:Array (Nat×Value)}{r:av}
  (h:((aw.need (a5.all λp=>Nat.blt p.1 n)).bind λ_=>(Jd e a5).bind λfm=>.ret (.sc (.ar n e) (va (List.replicate n e.zero) fm))).a2 g B=some (r,B')) (hm:bK K w0 phx M B w) (dm:pH phx (view w M) B a5 parts.toList) :
  ∃v,(Instr.build tid parts).run P w=.ok v w/\dB K w0 phx M B w B' r v w:=by
 obtain⟨_,cY,O,R⟩:=aw.cH h;obtain⟨hall,rfl⟩:=ld O;obtain⟨fm,b2,ai,au⟩:=aw.cH R;cases au;obtain⟨c',cq,aT,f2,f3⟩:=Wv ai hm dm;obtain⟨i,bD,b1,_,gb⟩:=nV ht;obtain⟨⟨bd,aM,az⟩,_⟩:=ht;obtain⟨yc,Hm,wl,_,asL⟩:=nV az;have bh:=aJ.Cg.1 (aJ.zero (view w c') (.ar n e));have cb:e' (view w c') e (List.replicate n e.zero) (dH (.ar n e)).toArray.toList:=⟨by simpa using bh.2.1,λi x ac=>by simpa using bh.2.2 i x ac⟩;have bi:∀p∈fm.map (·.1),p<(List.replicate n e.zero).length:=λp hp=>by rw[f3,zh]at hp;obtain⟨q,a_,rfl⟩:=hp;have:=ss.1 hall q a_;simpa using this
 obtain⟨ja,bG,ca⟩:=RL (place:=λi=>some (i*yc.size,yc.size)) (λi=>by rw[wl]) f2 bi cb;refine⟨.agg ja,run_build w tid parts ja ?_,phx,c',cq,aT,ja.toList,ca.ar (by rw[NX];simp),by simp[cB,ag.isAgg]⟩;simp only[Program.built,bD,aM,gb,Hm];exact bG
def Wx:∀n,(m3 n).size=n
 |0=>rfl
 |n+1=>by simp only[m3,ag.size,Wx n];omega
def aiu:∀n,dH (m3 n)=List.replicate n (Value.pointer none)
 |0=>rfl
 |n+1=>by have:=aiu n;simp only[m3,dH,this];rfl
def ath(v:Value)(n:Nat):(madeCells #[v] n).toList=List.replicate n v:=by rw[List.eq_replicate_iff];simp[madeCells,Nat.mod_one]
def aec:∀{n i d:Nat} {d7:ag},(m3 n).et (gG i)=some (d,d7)->d=i/\d7=.op 3
 |0,i,d,d7,h=>by cases i<;>cases h
 |n+1,0,d,d7,h=>by
  have:(0,ag.op 3)=(d,d7):=om h
  grind
 |n+1,i+1,d,d7,h=>by simp only[m3,gG,ag.et,l8]at h;obtain⟨q,a_,az⟩:=h;cases az;obtain⟨O,R⟩:=aec (n:=n) (i:=i) a_;exact⟨by rw[O];simp only[ag.size];omega,R⟩
def awO{e:ag}{tid bd:TypeId}(aM:P.underlying tid=some (.slice bd))(az:(cT P e).1 bd)(Y:n*e.size<=16777216)(dN:0<e.size){parts:Array (Nat×Value)}{ja:Array Value}
  (bG:Instr.fill (λi=>some (i*e.size,e.size)) (madeCells (dH e).toArray (n*e.size)) parts.toList=some ja) (w:World) :
  (Instr.buildSlice tid n parts).run P w=.ok (.slice (some ⟨w.heap.size,0,none⟩) n n) (w.alloc (.cells ja bd)):=by
 have G?:=tK e;by_cases aq:n*e.size=0
 .have S5:madeCells (dH e).toArray (n*e.size)=#[]:=by rw[aq];simp[madeCells]
  rw[S5]at bG;have ae:=oT az w;have p2:n=0:=by rcases Nat.mul_eq_zero.1 aq with h|h<;>omega
  rw[p2];simp[Instr.buildSlice,run_underlying aM,ae,bG,Go.newRow,Array.range_zero']
 have ae:=oT az w;have Ha:=A' az w;have SC:¬(16777216<n*e.size):=J;simp only[madeCells]at bG;simp[Instr.buildSlice,run_underlying aM,ae,aq,SC,Ha,G?,Go.newRow];simp at bG;rw[bG];simp
def avg{tid:TypeId}(ht:(cT P (.sl (.op 3))).1 tid){a5:List (Nat×av)}{parts:Array (Nat×Value)}{r:av}(h:(ae4 d n a5).a2 g B=some (r,B'))(hm:bK K w0 phx M B w)
  (dm:pH phx (view w M) B a5 parts.toList):∃v w',(Instr.buildSlice tid n parts).run P w=.ok v w'/\dB K w0 phx M B w B' r v w':=by
 replace h:=gU h;obtain⟨ah,h⟩:=h;simp at ah;obtain⟨_,cY,O,R⟩:=aw.cH h;obtain⟨v,b2,ai,au⟩:=aw.cH R;obtain⟨a4,rfl⟩:=dQ ai;obtain⟨⟨bd,aM,az⟩,_⟩:=ht;have Ty:fh phx (view w M) B (nD (m3 n)) (m3 n) (madeCells (dH (.op 3)).toArray (n*(ag.op 3).size)).toList:=by
  have h:=y8 (phx:=phx) (B:=B) (H:=view w M) (m3 n);rw[aiu]at h;have e:(madeCells (dH (.op 3)).toArray (n*(ag.op 3).size)).toList=List.replicate n (Value.pointer none):=by rw[show n*(ag.op 3).size=n from pG n];exact ath _ n
  grind
 obtain⟨aB,ja,e1,aT⟩:=Qi (g:=g) (B':=b2) (place:=λi=>some (i*(ag.op 3).size,(ag.op 3).size)) (λi d d7 aO=>by obtain⟨rfl,rfl⟩:=aec aO;rw[show d*(ag.op 3).size=d from pG d]) O a4 dm Ty
 subst aB;obtain⟨hid,au⟩:=CQ au;cases au;have c3:ja.size=n:=by have:=aT.length;rw[Wx]at this;simpa using this
 refine⟨_,_,awO aM az (by rw[show n*(ag.op 3).size=n from pG n];omega) bN e1 w,?_⟩;obtain⟨phx',aA,bE,Rr,xY⟩:=hm.born hid (w':=w.alloc (.cells ja bd)) rfl rfl rfl bf (rx w _) (.box (m3 n) v) ja.size λphx' aA az hp d8=>by refine⟨w.heap.size,0,ja,bd,(0,0),hp,rv w _,by rw[Wx];omega,?_,yr _,d8⟩;rw[IF rfl aT.length];exact az.b6 aT
 refine⟨phx',aA,bE,Rr,?_⟩;simp only[a9,d6,bJ,e6]
 grind
def akj{e:ag}{tid:TypeId}(ht:(cT P (.sl e)).1 tid){a5:List (Nat×av)}{parts:Array (Nat×Value)}{r:av}(h:(X_ d e n a5).a2 g B=some (r,B'))(hm:bK K w0 phx M B w)
  (dm:pH phx (view w M) B a5 parts.toList):∃v w',(Instr.buildSlice tid n parts).run P w=.ok v w'/\dB K w0 phx M B w B' r v w':=by
 obtain⟨_,cY,O,R⟩:=aw.cH h;obtain⟨hall,rfl⟩:=ld O;simp only[cM,Xf]at hall;obtain⟨fm,b2,ai,au⟩:=aw.cH R;obtain⟨dN,gJ,rfl,rfl⟩:=wC au;obtain⟨c',cq,aT,f2,f3⟩:=Wv ai hm dm;obtain⟨⟨bd,aM,az⟩,_⟩:=ht;obtain⟨yc,Hm,wl,_,asL⟩:=nV az;have ar7:=O6 (view w c') dN (n:=n) (m:=n) (bX _);have abz:=ar7.sL;have arE:cJ (madeCells (dH e).toArray (n*e.size)) 0 ((bM n e.zero).length*e.size)=(madeCells (dH e).toArray (n*e.size)).toList:=by refine IF rfl ?_;simp[size_madeCells,bM]
 rw[arE]at abz;have bi:∀p∈fm.map (·.1),p<(bM n e.zero).length:=λp hp=>by rw[f3,zh]at hp;obtain⟨q,a_,rfl⟩:=hp;have:=ss.1 hall.1 q a_;simpa[bM]using this
 obtain⟨ja,bG,ca⟩:=RL (place:=λi=>some (i*yc.size,yc.size)) (λi=>by rw[wl]) f2 bi abz;have b9:(va (List.replicate n e.zero) fm).length=n:=by rw[NX];simp
 have c3:ja.size=n*e.size:=by have:=ca.1;rw[NX]at this;simpa[bM]using this
 have jB:n<=maxLen:=by have:n*1<=n*e.size:=xi _ dN;unfold maxLen;omega
 refine⟨.slice (some ⟨w.heap.size,0,none⟩) n n,w.alloc (.cells ja bd),?_,?_⟩
 .have G?:=tK e
  have apM:¬(n*yc.size > 2^24):=by rw[wl];omega
  rw[<- wl]at bG;by_cases aq:n*yc.size=0
  .have S5:madeCells (dH e).toArray (n*yc.size)=#[]:=by rw[aq];simp[madeCells]
   rw[S5]at bG;have ae:=oT az w;rw[wl]at aq bG;have p2:n=0:=by rcases Nat.mul_eq_zero.1 aq with h|h<;>omega
   rw[p2];simp[Instr.buildSlice,run_underlying aM,ae,bG,Go.newRow,Array.range_zero']
  have ae:=oT az w;have Ha:=A' az w;rw[wl]at aq apM bG;have SC:¬(16777216<n*e.size):=J;simp only[madeCells]at bG;simp[Instr.buildSlice,run_underlying aM,ae,aq,SC,Ha,G?,Go.newRow];simp at bG;rw[bG];simp
 have eI:fi (view w c') e (va (List.replicate n e.zero) fm) ja 0:=by refine e'.row (by rw[b9,c3];omega) ?_;rw[IF rfl (by rw[b9];simpa using c3)];exact ca
 have:=Ed (K:=K) (w0:=w0) (phx:=phx) (M:=c') (B:=b2) (w:=w) cq gJ (w':=w.alloc (.cells ja bd)) rfl rfl rfl (by rw[iV];exact B? _) (rx w _) dN (l:=va (List.replicate n e.zero) fm) (rv w _) (yr _) (si w c') eI (cap:=n) (by rw[b9];exact bX _) jB (by rw[c3];exact bX _) (Nat.blt 0 n) (λh=>by rw[b9];simpa using Nat.pos_iff_ne_zero.1 (by simpa using h));obtain⟨phx',aA,cK,cU,dj⟩:=this;rw[b9]at dj;exact⟨phx',aA,cK,aT.trans cU,dj⟩
end
end Yp
namespace Yp
open Go
variable {P:Program}
def pB(H:cf):(ts:List ag)->h3 ts->List Value->Prop
 |[],_,vs=>vs=[]
 |t::ts,x,vs=>∃cs ei,vs=cB t cs::ei/\aJ H t x.1 cs/\pB H ts x.2 ei
def vz(w:World)(M:Nat->Prop)(lo:Nat->Prop)(U:Nat->Prop)(e:ag)(l:List e.aG)(v:Value)(b:Nat):Prop:=
 ∃o c el fz cap,v=.slice (some ⟨b,o,none⟩) l.length cap/\l.length<=cap/\cap<=maxLen/\o+cap*e.size<=c.size/\w.heap[b]?=some (.cells c el fz)/\fi (view w M) e l c o/\iA c fz/\M b/\lo b/\¬U b
def hH(w:World)(M:Nat->Prop)(lo:Nat->Prop):(rs:List ez)->eq rs->List Value->(Nat->Prop)->Prop
 |[],_,vs,_=>vs=[]
 |.im t::rs,x,vs,U=>∃cs ei,vs=cB t cs::ei/\aJ (view w M) t x.1 cs/\hH w M lo rs x.2 ei U
 |.cl e::rs,x,vs,U=>∃a ei,vs=.slice a (x.1:List e.aG).length (x.1:List e.aG).length::ei/\aJ (view w M) (.sl e) x.1 [.slice a (x.1:List e.aG).length (x.1:List e.aG).length]/\hH w M lo rs x.2 ei U
 |.ow e::rs,x,vs,U=>∃v ei,vs=v::ei/\(((x.1:List e.aG)=[]/\(∃a,v=.slice a 0 0)/\hH w M lo rs x.2 ei U)\/∃b,vz w M lo U e x.1 v b/\hH w M lo rs x.2 ei (λj=>U j\/j=b))
def jI:List Value->Value
 |[v]=>v
 |vs=>.tuple vs.toArray
def i4(w:World)(X:Nat->Prop)(w':World)(rs:List ez)(r:eq rs)(bY:Value):Prop:=
 ∃aA:Nat->Prop,w'.os=w.os/\w'.tape=w.tape/\w'.output=w.output/\w.heap.size<=w'.heap.size/\(∀b,b<w.heap.size->w'.heap[b]?=w.heap[b]?)/\(∀b,b<w.heap.size->(aA b↔X b))/\(∀b,aA b->b<w'.heap.size) /\
  ∃vs,hH w' aA (λb=>¬b<w.heap.size) rs r vs (λ_=>False)/\bY=jI vs
def ly (P : Program) (H : cf) : Prop := ∀ g, P.globalNamed "yett/sha.keys" = some g → aJ H (.sl (.ar 64 (.int .u32))) ([(p8 : List (bH .u32))] : List (ag.ar 64 (.int .u32)).aG) [.slice (some ⟨g, 0, none⟩) 1 1]
def ly.mono{P:Program}{H H':cf}(h:ly P H)(hl:H.cc H'):ly P H':=λg hg=>(h g hg).mono hl
structure pC(P:Program)(K:Kp)(w0:World):Prop where
 gl : ∀ g, P.globalNamed "yett/sha.keys" = some g → K.k g
 ni:ly P (view w0 K.x)
def sp (P : Program) (f : Nat) : Prop := ∃ fn, P.funcs[f]? = some fn ∧ fn.body.isSome = true ∧ (fn.name == "runtime.NumGoroutine") = false
def hb(P:Program)(f:Nat)(s:ff):Prop:=
 sp P f/\∀(w:World) (X:Nat->Prop) (x:h3 s.args) (vs:List Value) (r:eq s.res),(∀b,X b->b<w.heap.size)->ly P (view w X)->pB (view w X) s.args x vs->s.fn x=some r ->
  Calls P f vs.toArray w λe w'=>∃bY,e=.returned bY/\i4 w X w' s.res r bY
def E7(w:World)(X:Nat->Prop)(b o n:Nat)(w':World)(t:ag)(x:t.aG)(rs:List ez)(r:eq rs)(bY:Value):Prop:=
 ∃aA:Nat->Prop,w'.os=w.os/\w'.tape=w.tape/\w'.output=w.output/\w.heap.size<=w'.heap.size/\(∀k,k<w.heap.size->k≠b->w'.heap[k]?=w.heap[k]?)/\(∀k,k<w.heap.size->(aA k↔X k))/\(∀k,aA k->k<w'.heap.size) /\
  (∃c el fz,w'.heap[b]?=some (.cells c el fz)/\c.size=n/\iA c fz/\aJ (view w' aA) t x (cJ c o t.size)) /\
  ∃vs,hH w' aA (λk=>¬k<w.heap.size) rs r vs (λ_=>False)/\bY=jI vs
def i2(P:Program)(f:Nat)(s:i3):Prop:=
 sp P f/\∀(w:World) (X:Nat->Prop) (b o:Nat) (c:Array Value) (el:TypeId) (fz:Nat×Nat) (x:s.ty.aG) (y:h3 s.args) (vs:List Value) (r:s.ty.aG×eq s.res),(∀k,X k->k<w.heap.size)->ly P (view w X)->X b ->
  w.heap[b]?=some (.cells c el fz)->o+s.ty.size<=c.size->iA c fz->aJ (view w X) s.ty x (cJ c o s.ty.size)->pB (view w X) s.args y vs->s.fn (x,y)=some r ->
  Calls P f (Value.pointer (some ⟨b,o,none⟩)::vs).toArray w λe w'=>∃bY,e=.returned bY/\E7 w X b o c.size w' s.ty r.1 s.res r.2 bY
def Xq(w:World)(X:Nat->Prop)(b o n:Nat)(w':World)(t:ag)(x:t.aG):Prop:=
 ∃aA:Nat->Prop,w'.os=w.os/\w'.tape=w.tape/\w'.output=w.output/\w.heap.size<=w'.heap.size/\(∀k,k<w.heap.size->k≠b->w'.heap[k]?=w.heap[k]?)/\(∀k,k<w.heap.size->(aA k↔X k))/\(∀k,aA k->k<w'.heap.size) /\
  (∃c el fz,w'.heap[b]?=some (.cells c el fz)/\c.size=n/\iA c fz/\aJ (view w' aA) t x (cJ c o t.size))
def vn(P:Program)(f bd:Nat)(t:ag)(ts:List ag)(rs:List ez)(m:t.aG×h3 ts->Option (t.aG×Nat×eq rs)):Prop:=
 sp P f/\∀(w:World) (X:Nat->Prop) (b o:Nat) (c:Array Value) (el:TypeId) (fz:Nat×Nat) (x:t.aG) (y:h3 ts) (vs:List Value) (r:t.aG×Nat×eq rs),(∀k,X k->k<w.heap.size)->ly P (view w X)->X b ->
  w.heap[b]?=some (.cells c el fz)->o+t.size<=c.size->iA c fz->aJ (view w X) t x (cJ c o t.size)->pB (view w X) ts y vs->m (x,y)=some r ->
  Calls P f (Value.pointer (some ⟨b,o,none⟩)::vs).toArray w λe w'=>(r.2.1=0/\∃bY,e=.returned bY/\E7 w X b o c.size w' t r.1 rs r.2.2 bY) \/
   (r.2.1≠0/\e=.panicked [{ v:=.iface bd (.int .i64 (r.2.1:Int)),recovered:=false }]/\Xq w X b o c.size w' t r.1)
def E6(P:Program)(E:dl)(f:Nat)(s:ot):Prop:=∃m bd,E.Pn=some (m,bd)/\vn P f bd s.ty s.args [.im s.rt] s.fn
section
variable {K:Kp} {w0 w:World} {phx:cd} {M:Nat->Prop} {B B':Nat->aU} {g:Nat->av} {H:cf}
def aJ.mF{H':cf}:∀{t:ag} {x:t.aG} {cs:List Value},t.mF=true->aJ H t x cs->aJ H' t x cs
 |.bool,_,_,_,h=>aJ.oA.2 (aJ.oA.1 h)
 |.int k,_,_,_,h=>aJ.jl.2 (aJ.jl.1 h)
 |.str,_,_,_,h=>aJ.tv.2 (aJ.tv.1 h)
 |.op k,_,_,_,h=>aJ.wF.2 (aJ.wF.1 h)
 |.fn l,_,_,_,h=>aJ.F?.2 (aJ.F?.1 h)
 |.unit,_,_,_,h=>aJ.BF.2 (aJ.BF.1 h)
 |.pair a b,x,cs,hf,h=>by simp only[ag.mF,cM]at hf;obtain⟨c1,c2,aq,O,R⟩:=aJ.mU.1 h;exact aJ.mU.2 ⟨c1,c2,aq,aJ.mF hf.1 O,aJ.mF hf.2 R⟩
 |.ar n e,x,cs,hf,h=>by obtain⟨aq,O,R⟩:=aJ.vH.1 h;exact aJ.vH.2 ⟨aq,O,λi x ac=>aJ.mF hf (R i x ac)⟩
def pB.mono{H':cf}(hl:H.cc H'):∀{ts:List ag} {x:h3 ts} {vs:List Value},pB H ts x vs->pB H' ts x vs
 |[],_,_,h=>h
 |_::_,_,_,⟨cs,ei,h,O,R⟩=>⟨cs,ei,h,O.mono hl,pB.mono hl R⟩
def gL(phx:cd)(H:cf)(B:Nat->aU):List av->List Value->Prop
 |[],[]=>True
 |p::a5,v::vs=>a9 phx H B p v/\gL phx H B a5 vs
 |_,_=>False
def gL.ext{phx':cd}{aA:Nat->Prop}{w':World}(az:co phx M B w phx' aA B' w'):∀{a5:List av} {vs:List Value},gL phx (view w M) B a5 vs->gL phx' (view w' aA) B' a5 vs
 |[],[],_=>trivial
 |_::_,_::_,h=>⟨az.p h.1,gL.ext az h.2⟩
def Ot{eU:Bool}:∀{ts:List ag} {a5:List av} {vs:List Value} {x:h3 ts} {M:Nat->Prop} {B B':Nat->aU},(Ja eU ts a5).a2 g B=some (x,B')->bK K w0 phx M B w->gL phx (view w M) B a5 vs ->
  ∃aA,bK K w0 phx aA B' w/\co phx M B w phx aA B' w/\pB (full w) ts x vs/\(eU=true->pB (view w aA) ts x vs)
 |[],[],[],x,M,B,B',h,hm,_=>by cases h;exact⟨M,hm,co.refl _ _ _ _,rfl,λ_=>rfl⟩
 |t::ts,p::a5,v::vs,x,M,B,B',h,hm,hp=>by obtain⟨y,cY,O,R⟩:=aw.cH h;obtain⟨bn,b2,ai,au⟩:=aw.cH R;cases au;obtain⟨cs,aD,fR,bE,e1,_,f1,f2⟩:=Bs O hm hp.1;obtain⟨c',cq,aT,f3,f4⟩:=Ot ai bE (hp.2.ext e1);subst aD;exact⟨c',cq,e1.trans aT,⟨cs,vs,rfl,f1,f3⟩,λhf=>⟨cs,vs,rfl,(f2 hf).mono aT.vw,f4 hf⟩⟩
def yn{a:Act}(ae:dE phx H B g a):∀{l:List Operand} {B':Nat->aU} {a5:List av},(mm eu l).a2 g B=some (a5,B')->B'=B/\gL phx H B a5 (l.map a.eval)
 |[],B',a5,h=>by cases h;exact⟨rfl,trivial⟩
 |p::l,B',a5,h=>by simp only[mm]at h;obtain⟨b,cY,O,R⟩:=aw.cH h;obtain⟨jP,aD⟩:=ys O ae;obtain⟨b8,vm,a4,cQ⟩:=aw.cH R;cases cQ;rw[jP]at a4;obtain⟨aB,hp⟩:=yn ae a4;exact⟨aB,aD,hp⟩
def bK.ret(hm:bK K w0 phx M B w){w':World}{aA:Nat->Prop}(O:w'.os=w.os)(R:w'.tape=w.tape)(ai:w'.output=w.output)(ae:w.heap.size<=w'.heap.size)
 (Y:∀b,b<w.heap.size->w'.heap[b]?=w.heap[b]?) (d8:∀b,b<w.heap.size->(aA b↔M b)) (bi:∀b,aA b->b<w'.heap.size) :
 bK K w0 phx aA B w'/\co phx M B w phx aA B w':=by
 have hl:∀b o,w.heap[b]?=some o->b<w.heap.size:=λb o aO=>(iR.1 aO).1;have aD:(view w M).cc (view w' aA):=yZ λb o am aO=>⟨λah=>am ((d8 b (hl b o aO)).1 ah),(Y b (hl b o aO)).trans aO⟩;have az:co phx M B w phx aA B w':=⟨λ_ _=>rfl,aD,λ_=>aU.cc.refl _⟩;have ap:∀b,K.k b->b<w.heap.size:=λb h=>iF (hm.klt b h) hm.size;refine⟨{ os:=O.trans hm.os,tape:=R.trans hm.tape,output:=ai.trans hm.output,size:=fv hm.size ae,keep:=λb h=>(Y b (ap b h)).trans (hm.keep b h),klt:=hm.klt,hid:=λb h=>(d8 b (ap b h)).trans (hm.hid b h),own:=hm.own,mlt:=bi,blks:=λj => ?_,sep:=hm.sep },az⟩;exact(hm.blks j).congr rfl az.pl az.vw az.bl (λx hx qQ=>Y _ ((hm.blks j).lt qQ hx)) (λx hx qQ Sv=>(d8 _ ((hm.blks j).lt qQ hx)).2 Sv)
def ma.cons{u r:av}{v:Value}{vs:List Value}(h:a9 phx H B u v)(aM:∀a,u ≠ .tup a)(k:ma phx H B r vs):ma phx H B (.two u r) (v::vs):=by refine⟨v,vs,rfl,?_,k⟩;cases u<;>first|exact h|exact absurd rfl (aM _)
def afC{lo:Nat->Prop}{r:ez}{rs:List ez}{x:eq (r::rs)}{vs:List Value}{U:Nat->Prop}(aj:hH w M lo (r::rs) x vs U){id:Nat}{v:av}(h:(Vn id r x.1).a2 g B=some (v,B'))(hm:bK K w0 phx M B w)
  (qP:∀b,lo b->¬K.k b) (dC:∀j,(B j).fN=true->∀z,phx j=some z->¬lo z.1\/U z.1) :
  ∃phx' bS u ei,vs=u::ei/\bK K w0 phx' M B' w/\co phx M B w phx' M B' w/\a9 phx' (view w M) B' v u/\(∀a,v ≠ .tup a)/\hH w M lo rs x.2 ei bS/\(∀j,(B' j).fN=true->∀z,phx' j=some z->¬lo z.1\/bS z.1):=by
 cases r with
 |im t =>cases h;obtain⟨cs,ei,rfl,O,R⟩:=aj;exact⟨phx,U,_,ei,rfl,hm,co.refl _ _ _ _,⟨cs,O,rfl⟩,(λa h=>by cases h),R,dC⟩
 |cl e =>cases h;obtain⟨a,ei,rfl,O,R⟩:=aj;exact⟨phx,U,_,ei,rfl,hm,co.refl _ _ _ _,⟨a,rfl,O⟩,(λa h=>by cases h),R,dC⟩
 |ow e=>
  obtain⟨dN,gJ,rfl,rfl⟩:=wC h;obtain⟨u,ei,rfl,O⟩:=aj;rcases O with⟨O,⟨a,rfl⟩,R⟩|⟨b,⟨o,c,el,fz,cap,rfl,bD,b1,dy,gb,gN,j9,kP,kQ,uF⟩,R⟩
  .have b9:(x.1:List e.aG).length=0:=by rw[O];rfl
   obtain⟨bE,e1⟩:=hm.vF gJ (.ob e x.1) none (λ_ y bs=>by cases bs) (λ_ y bs=>by cases bs) (λ_=>⟨dN,.inl ⟨mx _ _ _,b9⟩⟩);refine⟨_,U,_,ei,rfl,bE,e1,?_,(λa h=>by cases h),R,λj ao z bh => ?_⟩
   .simp only[a9,d6,bJ,e6]
    exact⟨.inl ⟨b9,a,rfl⟩,λh=>by cases h⟩
   by_cases dS:j=id
   .subst dS;rw[mx]at bh;cases bh
   rw[eo _ _ dS]at ao;rw[rf _ _ dS]at bh;exact dC j ao z bh
  obtain⟨bE,e1⟩:=hm.vF gJ (.ob e x.1) (some (b,o,c.size)) (λ_ y bs ap=>by cases bs;exact qP _ kQ ap) (λ_ y bs j ao z bh=>by
    cases bs;rcases dC j ao z bh with h|h
    .exact λe=>h (by have e:z.1=b:=e;rw[e];exact kQ)
    exact λe=>uF (by have e:z.1=b:=e;rw[<- e];exact h)) (λaz=>⟨dN,.inr ⟨b,o,c,el,fz,mx _ _ _,gb,gN,j9,kP⟩⟩)
  refine⟨_,λj=>U j\/j=b,_,ei,rfl,bE,e1,?_,(λa h=>by cases h),R,λj ao z bh => ?_⟩
  .simp only[a9,d6,bJ,e6]
   exact⟨.inr ⟨b,o,c.size,cap,mx _ _ _,bf,bD,b1,by simpa using dy⟩,λh=>by cases h⟩
  by_cases dS:j=id
  .subst dS;rw[mx]at bh;cases bh;exact .inr (.inr rfl)
  rw[eo _ _ dS]at ao;rw[rf _ _ dS]at bh;exact(dC j ao z bh).imp (λh=>h) .inl
def afB{lo:Nat->Prop}(qP:∀b,lo b->¬K.k b):∀{rs:List ez} {x:eq rs} {vs:List Value} {U:Nat->Prop} {id:Nat} {v:av} {phx:cd} {B B':Nat->aU},hH w M lo rs x vs U->(Vm id rs x).a2 g B=some (v,B')->bK K w0 phx M B w ->
  (∀j,(B j).fN=true->∀z,phx j=some z->¬lo z.1\/U z.1)->∃phx',bK K w0 phx' M B' w/\co phx M B w phx' M B' w/\ma phx' (view w M) B' v vs
 |[],x,vs,U,id,v,phx,B,B',aj,h,hm,dC=>by cases h;exact⟨phx,hm,co.refl _ _ _ _,aj⟩
 |r::rs,x,vs,U,id,v,phx,B,B',aj,h,hm,dC=>by obtain⟨y,cY,O,R⟩:=aw.cH h;obtain⟨bn,b2,ai,au⟩:=aw.cH R;cases au;obtain⟨hS,tX,u,ei,rfl,bE,e1,f1,f2,f3,f4⟩:=afC aj O hm qP dC;obtain⟨jS,cq,aT,f5⟩:=afB qP f3 ai bE f4;exact⟨jS,cq,e1.trans aT,ma.cons (aT.p f1) f2 f5⟩
def hH.length{w:World}{M:Nat->Prop}{lo:Nat->Prop}:∀{rs:List ez} {x:eq rs} {vs:List Value} {U:Nat->Prop},hH w M lo rs x vs U->vs.length=rs.length
 |[],_,vs,_,h=>by have h:vs=[]:=h;subst h;rfl
 |.im t::rs,x,vs,U,h=>by obtain⟨cs,ei,aq,O,R⟩:=h;subst aq;simp[hH.length R]
 |.cl t::rs,x,vs,U,h=>by obtain⟨cs,ei,aq,O,R⟩:=h;subst aq;simp[hH.length R]
 |.ow t::rs,x,vs,U,h=>by obtain⟨v,ei,aq,O⟩:=h;subst aq;rcases O with⟨_,_,R⟩|⟨_,_,R⟩<;>simp[hH.length R]
def hH.s_{w:World}{M:Nat->Prop}{lo s_:Nat->Prop}:∀{rs:List ez} {x:eq rs} {vs:List Value} {U bS:Nat->Prop},(∀k,lo k->¬U k->s_ k)->(∀k,bS k->U k)->hH w M lo rs x vs U->hH w M s_ rs x vs bS
 |[],_,_,_,_,_,_,h=>h
 |.im t::rs,x,vs,U,bS,O,R,h=>by obtain⟨cs,ei,aq,ai,au⟩:=h;exact⟨cs,ei,aq,ai,hH.s_ O R au⟩
 |.cl t::rs,x,vs,U,bS,O,R,h=>by obtain⟨cs,ei,aq,ai,au⟩:=h;exact⟨cs,ei,aq,ai,hH.s_ O R au⟩
 |.ow t::rs,x,vs,U,bS,O,R,h=>by obtain⟨v,ei,aq,ai⟩:=h;refine⟨v,ei,aq,ai.imp (λh=>⟨h.1,h.2.1,hH.s_ O R h.2.2⟩) ?_⟩;rintro⟨b,⟨o,c,el,fz,cap,bD,b1,dy,gb,gN,j9,kP,kQ,uF,Mc⟩,au⟩;exact⟨b,⟨o,c,el,fz,cap,bD,b1,dy,gb,gN,j9,kP,kQ,O b uF Mc,λah=>Mc (R b ah)⟩,hH.s_ (λk ap am=>O k ap λah=>am (.inl ah)) (λk ap=>ap.imp (R k) id) au⟩
def hH.lo{w:World}{M:Nat->Prop}{lo s_ U:Nat->Prop}{rs:List ez}{x:eq rs}{vs:List Value}(h:hH w M lo rs x vs U)(O:∀k,lo k->¬U k->s_ k):hH w M s_ rs x vs (λ_=>False):=
 hH.s_ O (λ_ h=>h.elim) h
def hH.mF{w:World}{M aA:Nat->Prop}{lo:Nat->Prop}:∀{rs:List ez} {x:eq rs} {vs:List Value} {U:Nat->Prop},rs.all ez.mF=true->hH w M lo rs x vs U->hH w aA lo rs x vs U
 |[],_,_,_,_,h=>h
 |.im t::rs,x,vs,U,hf,h=>by simp only[vy,cM]at hf;obtain⟨cs,ei,aq,O,R⟩:=h;exact⟨cs,ei,aq,aJ.mF hf.1 O,hH.mF hf.2 R⟩
 |.ow e::rs,x,vs,U,hf,h=>by simp only[vy,cM]at hf;cases hf.1
 |.cl e::rs,x,vs,U,hf,h=>by simp only[vy,cM]at hf;cases hf.1
def Vp{rs:List ez}{r:eq rs}{v:av}{vs:List Value}(hm:bK K w0 phx M B w){lo:Nat->Prop}(qP:∀b,lo b->¬K.k b)(dC:∀j,(B j).fN=true->∀z,phx j=some z->¬lo z.1)
  (aj:hH w M lo rs r vs (λ_=>False))
  (h:(QR d rs r).a2 g B=some (v,B')) :
  ∃phx',bK K w0 phx' M B' w/\co phx M B w phx' M B' w/\a9 phx' (view w M) B' v (jI vs):=by
 have abH:∀j,(B j).fN=true->∀z,phx j=some z->¬lo z.1\/(λ_:Nat=>False) z.1:=λj ao z bh=>.inl (dC j ao z bh);match rs,r,aj,h with
 |[],r,aj,h =>cases h;have:vs=[]:=aj;subst this;exact⟨phx,hm,co.refl _ _ _ _,[],rfl,rfl⟩
 |[t],r,aj,h =>obtain⟨hS,tX,u,ei,rfl,bE,e1,f1,f2,f3,f4⟩:=afC aj h hm qP abH;have:ei=[]:=f3;subst this;exact⟨hS,bE,e1,f1⟩
 |t::t'::ts,r,aj,h=>
  obtain⟨y,cY,O,R⟩:=aw.cH h;cases R;obtain⟨hS,bE,e1,f1⟩:=afB qP aj O hm abH;refine⟨hS,bE,e1,?_⟩;have b9:=aj.length;have e3:∀q,vs≠[q]:=by intro q a_;rw[a_]at b9;simp at b9
  match vs,e3,f1 with
  |[],_,f1=>exact⟨[],f1,rfl⟩
  |[q],e3,_=>exact absurd rfl (e3 q)
  |q::M1::vs,_,f1=>exact⟨_,f1,rfl⟩
def azn{d:β}{o:Option β}{k:β->aw α}:(aw.bo d o k).a2 g B=(match o with|some a=>(k a).a2 g B|none=>none):=by cases o<;>simp only[aw.a2]
def pC.keys(h:pC P K w0)(hm:bK K w0 phx M B w):ly P (view w M):=by
 intro g hg;obtain⟨a,cap,O,R,ai,au⟩:=aJ.iL.1 (h.ni g hg);simp only[oq,Value.slice.injEq,and_true]at O;obtain⟨rfl,_,rfl⟩:=O;have ap:=h.gl g hg;refine aJ.iL.2 ⟨_,_,rfl,R,ai,?_⟩;rcases au with au|⟨b,o,c,el,fz,bG,ca,cr,du⟩
 .exact .inl au
 cases bG;obtain⟨dG,gz⟩:=kd.1 ca;exact .inr ⟨g,0,c,el,fz,rfl,kd.2 ⟨λah=>dG ((hm.hid g ap).1 ah),(hm.keep g ap).trans gz⟩,cr,λi x ac=>(du i x ac).mF rfl⟩
def zj(P:Program)(m t:Nat):Prop:=
 sp P m/\∀(b:Bool) (k:Nat) (w:World),Calls P m #[.bool b,.int .i64 (k:Int)] w λe w'=>w'=w/\e=if b then .returned (.tuple #[]) else .panicked [{ v:=.iface t (.int .i64 (k:Int)),recovered:=false }]
structure o1(P:Program)(E:dl)(K:Kp)(w0:World):Prop where
 fn:∀f s,E.G f=some s->hb P f s
 kn : ∀ g, E.K = some g → P.globalNamed "yett/sha.keys" = some g
 gk:(∃f s,E.G f=some s)\/(∃f g,E.I f=some g)\/(∃g,E.K=some g)->pC P K w0
 bx:∀f s,E.X f=some s->i2 P f s/\pC P K w0
 pn:∀m t,E.Pn=some (m,t)->zj P m t
 qn:∀f s,E.Q f=some s->E6 P E f s/\pC P K w0
def bK.Vo(hm:bK K w0 phx M B w){id:Nat}{t:ag}{v:av}(aB:B id=.box t v)(hx:phx id=some (b,o,n))(Su:M b){w':World}{aA:Nat->Prop}{x:t.aG}(O:w'.os=w.os)(R:w'.tape=w.tape)(ai:w'.output=w.output)(ae:w.heap.size<=w'.heap.size)
 (Y:∀k,k<w.heap.size->k≠b->w'.heap[k]?=w.heap[k]?) (d8:∀k,k<w.heap.size->(aA k↔M k)) (bi:∀k,aA k->k<w'.heap.size)
 (ah:∃c el fz,w'.heap[b]?=some (.cells c el fz)/\c.size=n/\iA c fz/\aJ (view w' aA) t x (cJ c o t.size)) (am:o+t.size<=n) :
 bK K w0 phx aA (c6 B id (.box t (.sc t x))) w'/\co phx M B w phx aA (c6 B id (.box t (.sc t x))) w':=by
 have hl:∀b o,w.heap[b]?=some o->b<w.heap.size:=λb o aO=>(iR.1 aO).1;have nm:(B id).fN=true:=by rw[aB];rfl
 have aD:(view w M).cc (view w' aA):=yZ λk o am aO=>⟨λah=>am ((d8 k (hl k o aO)).1 ah),(Y k (hl k o aO) λe=>am (e▸Su)).trans aO⟩;have az:co phx M B w phx aA (c6 B id (.box t (.sc t x))) w':=⟨λ_ _=>rfl,aD,λj=>by
  by_cases ao:j=id
  .subst ao;rw[e6,aB];exact rfl
  rw[eo _ _ ao];exact aU.cc.refl _⟩
 have ap:∀k,K.k k->k<w.heap.size:=λk h=>iF (hm.klt k h) hm.size;have mM:∀k,K.k k->k≠b:=λk h e=>hm.own id nm _ hx (e▸h);have key:∀j,((c6 B id (.box t (.sc t x))) j).fN=true->(B j).fN=true:=λj ao=>by
  by_cases lu:j=id
  .subst lu;exact nm
  rw[eo _ _ lu]at ao;exact ao
 refine⟨{ os:=O.trans hm.os,tape:=R.trans hm.tape,output:=ai.trans hm.output,size:=fv hm.size ae,keep:=λk h=>(Y k (ap k h) (mM k h)).trans (hm.keep k h),klt:=hm.klt,hid:=λk h=>(d8 k (ap k h)).trans (hm.hid k h),own:=λj ao=>hm.own j (key j ao),mlt:=bi,blks:=λj => ?_,sep:=λi j jy ac ao=>hm.sep i j jy (key i ac) (key j ao) },az⟩;by_cases ao:j=id
 .subst ao
  rw[e6];obtain⟨c,el,fz,bG,ca,cr,du⟩:=ah;exact⟨b,o,c,el,fz,by rw[hx,ca],bG,J,⟨rfl,du⟩,cr,(d8 b (hm.mlt b Su)).2 Su⟩
 rw[eo _ _ ao];exact(hm.blks j).congr rfl az.pl az.vw az.bl (λy bs qQ=>Y _ ((hm.blks j).lt qQ bs) (hm.sep j id ao qQ nm y _ bs hx)) (λy bs qQ app=>(d8 _ ((hm.blks j).lt qQ bs)).2 app)
def akc{s:i3}{a5:List av}{vs:List Value}{v:av}(gn:i2 P f s)(ap:pC P K w0)(h:(Qd d s a5).a2 g B=some (v,B'))(hm:bK K w0 phx M B w)(dm:gL phx (view w M) B a5 vs):
  sp P f/\Calls P f vs.toArray w λe w'=>∃bY,e=.returned bY/\dB K w0 phx M B w B' v bY w':=by
 unfold Qd at h;split at h
 .rename_i id as
  simp only[aw.a2]at h;cases vs with
  |nil=>exact dm.elim
  |cons fC vs=>
   have z7:bJ phx (view w M) B (.ptr id []) fC:=dm.1;have Y:=hm.blks id;simp only[bJ]at z7;generalize aB:B id=bl at h Y z7;cases bl<;>try(cases h;done)
   rename_i t u;dsimp only at h;obtain⟨b,o,n,off,t',bj,bm,rfl⟩:=z7;obtain⟨b',dz,c,el,fz,bG,ca,cr,du,eW,lh⟩:=Y;rw[bj]at bG;cases bG;simp only[ag.et]at bm;obtain⟨rfl,rfl⟩:=bm;cases g5:ag.is t s.ty with
   |false=>rw[g5]at h;cases h
   |true=>
    rw[g5]at h;have ht:=eV g5;subst ht;obtain⟨x,cY,O,R⟩:=aw.cH h;obtain⟨y,b2,ai,au⟩:=aw.cH R;obtain⟨fR,bE,e1,_,f1,f2⟩:=Jb O hm du;obtain⟨c',cq,aT,f3,f4⟩:=Ot ai bE (dm.2.ext e1);simp only[aw.a2]at au;have hb2:=cq.blks id;generalize kN:b2 id=bl2 at au hb2;cases bl2<;>try(cases au;done)
    rename_i eF tD;dsimp only at au;cases uA:ag.is eF s.ty with
    |false=>rw[uA]at au;cases au
    |true=>
     rw[uA]at au;have G2:=eV uA;subst G2;obtain⟨eC,mR,c2,Z_,aa0,dG,gz,le,uW,uX,q7⟩:=hb2;rw[bj,kY,lk,lk]at dG;obtain⟨rfl,rfl,_⟩:=dG;cases aj:s.fn (x,y) with
     |none=>rw[aj]at au;cases au
     |some r=>
      rw[aj]at au;refine⟨gn.1,?_⟩;refine(gn.2 w c' b o c el fz x y vs r cq.mlt (ap.keys cq) q7 ca cr eW ((f2 rfl).mono aT.vw) (f4 rfl) aj).mono ?_;rintro e w' ⟨bY,rfl,aA,bD,b1,dy,gb,gN,j9,kP,kQ,us,uF,rfl⟩;obtain⟨g7,dI⟩:=cq.Vo kN bj q7 bD b1 dy gb gN j9 kP kQ cr;have dC:∀j,((c6 b2 id (.box s.ty (.sc s.ty r.1))) j).fN=true->∀z,phx j=some z->¬ ¬z.1<w.heap.size:=λj ao z bh ah=>by
       by_cases dS:j=id
       .grind
       rw[eo _ _ dS]at ao;exact ah ((cq.blks j).lt ao bh)
      obtain⟨UY,Ax,gX,f5⟩:=Vp (g:=g) g7 (lo:=λk=>¬k<w.heap.size) (λk qO GR=>qO (iF (cq.klt k GR) cq.size)) dC uF au;exact⟨_,rfl,UY,aA,Ax,((e1.trans aT).trans dI).trans gX,f5⟩
 cases h
def avr{s:ot}{a5:List av}{vs:List Value}{v:av}{bd:Nat}(gn:vn P f bd s.ty s.args [.im s.rt] s.fn)(ap:pC P K w0)(h:(QQ s a5).a2 g B=some ((n,v),B'))(hm:bK K w0 phx M B w)(dm:gL phx (view w M) B a5 vs):
  sp P f/\Calls P f vs.toArray w λe w'=>∃aA,bK K w0 phx aA B' w'/\co phx M B w phx aA B' w'/\((n=0/\∃bY,e=.returned bY/\a9 phx (view w' aA) B' v bY)\/(n≠0/\e=.panicked [{ v:=.iface bd (.int .i64 (n:Int)),recovered:=false }])):=by
 unfold QQ at h;split at h
 .rename_i id as
  simp only[aw.a2]at h;cases vs with
  |nil=>exact dm.elim
  |cons fC vs=>
   have z7:bJ phx (view w M) B (.ptr id []) fC:=dm.1;have Y:=hm.blks id;simp only[bJ]at z7;generalize aB:B id=bl at h Y z7;cases bl<;>try(cases h;done)
   rename_i t u;dsimp only at h;obtain⟨b,o,adE,off,t',bj,bm,rfl⟩:=z7;obtain⟨b',dz,c,el,fz,bG,ca,cr,du,eW,lh⟩:=Y;rw[bj]at bG;cases bG;simp only[ag.et]at bm;obtain⟨rfl,rfl⟩:=bm;cases g5:ag.is t s.ty with
   |false=>rw[g5]at h;cases h
   |true=>
    rw[g5]at h;have ht:=eV g5;subst ht;obtain⟨x,cY,O,R⟩:=aw.cH h;obtain⟨y,b2,ai,au⟩:=aw.cH R;obtain⟨fR,bE,e1,_,f1,f2⟩:=Jb O hm du;obtain⟨c',cq,aT,f3,f4⟩:=Ot ai bE (dm.2.ext e1);simp only[aw.a2]at au;have hb2:=cq.blks id;generalize kN:b2 id=bl2 at au hb2;cases bl2<;>try(cases au;done)
    rename_i eF tD;dsimp only at au;cases uA:ag.is eF s.ty with
    |false=>rw[uA]at au;cases au
    |true=>
     rw[uA]at au;have G2:=eV uA;subst G2;obtain⟨eC,mR,c2,Z_,aa0,dG,gz,le,uW,uX,q7⟩:=hb2;rw[bj,kY,lk,lk]at dG;obtain⟨rfl,rfl,_⟩:=dG;cases aj:s.fn (x,y) with
     |none=>rw[aj]at au;cases au
     |some r=>
      rw[aj]at au;cases au;refine⟨gn.1,?_⟩;refine(gn.2 w c' b o c el fz x y vs r cq.mlt (ap.keys cq) q7 ca cr eW ((f2 rfl).mono aT.vw) (f4 rfl) aj).mono ?_;rintro e w' (⟨am,bY,rfl,aA,bD,b1,dy,gb,gN,j9,kP,kQ,us,uF,rfl⟩|⟨am,rfl,aA,bD,b1,dy,gb,gN,j9,kP,kQ⟩)
      .obtain⟨g7,dI⟩:=cq.Vo kN bj q7 bD b1 dy gb gN j9 kP kQ cr
       refine⟨aA,g7,(e1.trans aT).trans dI,.inl ⟨am,_,rfl,?_⟩⟩;obtain⟨cs,ei,rfl,Mc,asO⟩:=uF;cases(asO);exact⟨cs,Mc,rfl⟩
      obtain⟨g7,dI⟩:=cq.Vo kN bj q7 bD b1 dy gb gN j9 kP kQ cr;exact⟨aA,g7,(e1.trans aT).trans dI,.inr ⟨am,rfl⟩⟩
 cases h
def QS{E:dl}(dK:o1 P E K w0){a5:List av}{vs:List Value}{v:av}(h:(FN E d f a5).a2 g B=some (v,B'))(hm:bK K w0 phx M B w)(dm:gL phx (view w M) B a5 vs):
  sp P f/\Calls P f vs.toArray w λe w'=>∃bY,e=.returned bY/\dB K w0 phx M B w B' v bY w':=by
 unfold FN at h;cases hg:E.G f with
 |none=>
  rw[hg]at h;cases hx:E.X f with
  |none=>rw[hx]at h;cases h
  |some s =>rw[hx]at h;obtain⟨O,R⟩:=dK.bx f s hx;exact akc O R h hm dm
 |some s=>
  rw[hg]at h;obtain⟨x,cY,O,R⟩:=aw.cH h;obtain⟨fR,bE,e1,f1,f2⟩:=Ot O hm dm;obtain⟨v2,gn⟩:=dK.fn f s hg;cases aj:s.fn x with
  |none=>rw[aj]at R;cases R
  |some r=>
   rw[aj]at R;refine⟨v2,?_⟩;cases n0:s.res.all ez.mF with
   |false =>rw[n0]at f2;refine(gn w fR x vs r bE.mlt ((dK.gk (.inl ⟨f,s,hg⟩)).keys bE) (f2 rfl) aj).mono ?_;rintro e w' ⟨bY,rfl,aA,bD,b1,dy,gb,gN,j9,kP,us,kQ,rfl⟩;obtain⟨cq,aT⟩:=bE.ret bD b1 dy gb gN j9 kP;obtain⟨jF,g7,dI,f3⟩:=Vp (g:=g) cq (λb Y ap=>Y (iF (bE.klt b ap) bE.size)) (λj ao z bh ah=>ah ((bE.blks j).lt ao bh)) kQ R;exact⟨_,rfl,jF,aA,g7,(e1.trans aT).trans dI,f3⟩
   |true =>have aD:(full w).cc (view w λ_=>False):=λb o Y=>kd.2 ⟨λh=>h,Y⟩;refine(gn w (λ_=>False) x vs r (λ_ h=>h.elim) (((dK.gk (.inl ⟨f,s,hg⟩)).keys bE).mono ((si w fR).trans aD)) (f1.mono aD) aj).mono ?_;rintro e w' ⟨bY,rfl,aA,bD,b1,dy,gb,gN,j9,kP,us,kQ,rfl⟩;obtain⟨cq,aT⟩:=bE.CX bD b1 dy gb gN (λ_=>False) (λ_ h=>h.elim);obtain⟨jF,g7,dI,f3⟩:=Vp (g:=g) cq (λb Y ap=>Y (iF (bE.klt b ap) bE.size)) (λj ao z bh ah=>ah ((bE.blks j).lt ao bh)) (kQ.mF n0) R;exact⟨_,rfl,jF,_,g7,(e1.trans aT).trans dI,f3⟩
end
end Yp
namespace Yp
open Go
variable {P:Program}
def qW(P:Program)(M:Nat->Option (ag×ag)):Prop:=∀tid p,M tid=some p->∃kt vt,P.underlying tid=some (.map kt vt)/\(cT P p.1).1 kt/\(cT P p.2).1 vt
def adq(P:Program)(tid:Nat)(p:ag×ag):Bool:=match P.underlying tid with|some (.map kt vt)=>(k6 P p.1).1 kt&&(k6 P p.2).1 vt|_=>false
def adr(P:Program):∀l:List (Nat×ag×ag),(l.all λq=>adq P q.1 q.2)=true->qW P (HF l)
 |[],_=>λtid p h=>by cases h
 |(i,q)::r,h=>λtid p hp=>by
  simp only[vy,cM]at h;simp only[HF]at hp;cases Y:Nat.beq i tid with
  |true=>
   rw[Y]at hp;cases hp;have O:=h.1;unfold adq at O;rw[<- fP Y];split at O
   .rename_i kt vt aM
    simp at O;exact⟨kt,vt,aM,(ui _).1 _ O.1,(ui _).1 _ O.2⟩
   cases O
  |false=>rw[Y]at hp;exact adr P r h.2 tid p hp
section
variable {K:Kp} {w0 w:World} {phx:cd} {M:Nat->Prop} {B B':Nat->aU} {g:Nat->av} {H:cf}
def atj{t:TypeId}{id:Nat}(hid:B id=.new)(kt vt:ag)(hm:bK K w0 phx M B w):
  ∃r w',(Instr.makeMap t none).run P w=.ok r w'/\dB K w0 phx M B w (c6 B id (.mp kt vt [])) (.mpp id) r w':=by
 refine⟨.map (some w.heap.size),w.alloc (.map #[] 0),by simp[Instr.makeMap],?_⟩;obtain⟨phx',aA,bE,e1,dG⟩:=hm.born hid (w':=w.alloc (.map #[] 0)) rfl rfl rfl (by rw[iV];omega) (rx w _) (.mp kt vt []) 0 λphx' aA az hp d8=>
  ⟨w.heap.size, #[],0,hp,rv w _,rfl,d8⟩
 refine⟨phx',aA,bE,e1,?_⟩;simp only[a9,d6,bJ,e6];exact⟨_,dG,rfl⟩
def uG:ag->TypeDesc
 |.int k=>.int k|_=>.string
def Md{kt:ag}(ap:wo kt=true){tid:TypeId}(hf:(cT P kt).1 tid):P.underlying tid=some (uG kt):=by cases kt<;>first|exact hf.1|cases ap
def TN{kt:ag}(ap:wo kt=true){tid:TypeId}(hf:(cT P kt).1 tid){key:kt.aG}{ak:List Value}(h:aJ H kt key ak)(b:Bool)(w:World):(Instr.checkKey b 10000 tid (cB kt ak)).run P w=.ok () w:=by
 have aM:=Md ap hf;cases kt<;>try(cases ap;done)
 .have:=aJ.jl.1 h;subst this
  rw[Instr.checkKey];simp only[Sem.run_bind,run_underlying aM];rfl
 have:=aJ.tv.1 h;subst this;rw[Instr.checkKey];simp only[Sem.run_bind,run_underlying aM];rfl
def TO{kt:ag}(ap:wo kt=true){bD b1:kt.aG}{c1 c2:List Value}(O:aJ H kt bD c1)(R:aJ H kt b1 c2):Instr.sameNow (uG kt) (cB kt c1) (cB kt c2)=some (wn kt bD b1):=by
 cases kt<;>try(cases ap;done)
 .have e1:=aJ.jl.1 O;have aT:=aJ.jl.1 R;subst e1;subst aT
  simp[Instr.sameNow,uG,cB,ag.isAgg,wn,af]
 have e1:=aJ.tv.1 O;have aT:=aJ.tv.1 R;subst e1;subst aT;simp only[cB,ag.isAgg,uG,List.headD_cons];simp only[PK,if_false,Instr.sameNow];congr 1;exact ByteArray_beq _ _
where
 ByteArray_beq (a b:List UInt8):((⟨a.toArray⟩:ByteArray)==⟨b.toArray⟩)=(a==b):=by have:=beq_toListBytes (⟨a.toArray⟩:ByteArray) ⟨b.toArray⟩;rw[this,ByteArray.toList_eq,ByteArray.toList_eq]
def axd{a b:List UInt8}(h:¬a=b):seq a b=false:=by unfold seq;exact beq_eq_false_iff_ne.2 h
def asQ{kt:ag}{bD b1:kt.aG}(h:Hp kt bD b1=true):wn kt bD b1=false:=by
 cases kt<;>try(cases h;done)
 .simp only[Hp,acU,xe,decide_eq_false_iff_not]at h
  simp only[wn,af,beq_eq_false_iff_ne];exact h
 simp only[Hp,ahm,xe,decide_eq_false_iff_not]at h;exact axd h
def aaE{kt:ag}(ap:wo kt=true){key:kt.aG}{ak:List Value}(ah:aJ H kt key ak):∀{l:List (kt.aG×av)} {es:List MapEntry} (i:Nat),lK phx H B kt l es->(l.all λp=>Hp kt key p.1)=true ->
  Instr.findNow (uG kt) (cB kt ak) es i=some none
 |[],es,i,h,_=>by have h:es=[]:=h;subst h;rfl
 |(k,v)::l,es,i,h,bc=>by obtain⟨e,es',rfl,⟨Zs,O,R⟩,ai,au⟩:=h;simp only[vy,cM]at bc;simp only[Instr.findNow];rw[R,TO ap ah O,asQ bc.1];exact aaE ap ah (i+1) au bc.2
def lK.push{kt:ag}{key:kt.aG}{ak:List Value}{v:av}{val:Value}{n:Nat}(O:aJ H kt key ak)(R:d6 phx H B v val):∀{l:List (kt.aG×av)} {es:List MapEntry},lK phx H B kt l es->lK phx H B kt (l++[(key,v)]) (es++[⟨cB kt ak,val,n⟩])
 |[],es,h=>by have h:es=[]:=h;subst h;exact⟨_,[],rfl,⟨ak,O,rfl⟩,R,rfl⟩
 |_::_,_,⟨e,es',h,ai,au,a4⟩=>⟨e,es'++[⟨cB kt ak,val,n⟩],by rw[h];rfl,ai,au,lK.push O R a4⟩
def EJ{v:av}{x:Value}(h:a9 phx H B v x)(aM:∀a,v ≠ .tup a):d6 phx H B v x:=by cases v<;>first|exact h|exact absurd rfl (aM _)
def adW{v:av}(h:wD v=true):∀a,v ≠ .tup a:=by rintro a rfl;cases h
def afT{w:World}{r:Nat}{es:Array MapEntry}{KL:Nat}(Y:w.heap[r]?=some (.map es KL)):(getObj r).run P w=.ok (.map es KL) w:=by simp[getObj,Sem.run,Y]
def awV{w:World}{r:Nat}{es:Array MapEntry}{KL:Nat}(o:Obj)(Y:w.heap[r]?=some (.map es KL)):(setObj r o).run P w=.ok () { w with heap:=w.heap.setIfInBounds r o }:=by simp[setObj,Sem.run,Y]
def acT{q:ag×ag}{t ws OH:TypeId}{m k v r:av}{WL Jm y0:Value}(h:(L7 q m k v).a2 g B=some (r,B'))(aM:P.underlying t=some (.map ws OH))
  (aqU:(cT P q.1).1 ws) (hm:bK K w0 phx M B w)
  (GY:a9 phx (view w M) B m WL) (rR:a9 phx (view w M) B k Jm) (LW:a9 phx (view w M) B v y0) :
  r=.undef/\∃w' aA,(Instr.mapUpdate t WL Jm y0).run P w=.ok () w'/\bK K w0 phx aA B' w'/\co phx M B w phx aA B' w':=by
 unfold L7 at h;cases m<;>try(cases h;done)
 rename_i id;simp only[aw.a2]at h;have ae:bJ phx (view w M) B (.mpp id) WL:=GY;have dM:=hm.blks id;simp only[bJ]at ae;generalize aB:B id=bl at h ae dM;cases bl<;>try(cases h;done)
 rename_i kt vt l;simp only at h;replace h:=aw.cH h;obtain⟨key,cY,O,h⟩:=h;obtain⟨p1,rfl⟩:=dQ O;replace h:=aw.cH h;obtain⟨_,b2,R,h⟩:=h;obtain⟨am,rfl⟩:=ld R;simp only[cM]at am;obtain⟨⟨a_,p3⟩,v_⟩:=am;have am:=And.intro p3 v_;cases h;obtain⟨ak,v3,rfl⟩:=og p1 rR;obtain⟨b,hb1,rfl⟩:=ae;obtain⟨b',es,nR,hb2,hb3,zW,Sz⟩:=dM;rw[hb1]at hb2;cases hb2;have hf:(cT P kt).1 ws:=by rw[eV a_];exact aqU
 have GQ:=Md am.1 hf;have GL:(Instr.findKey ws (cB kt ak) es.toList).run P w=.ok none w:=by simp[Instr.findKey,run_underlying GQ,aaE am.1 v3 0 zW am.2.2]
 have GC:=TN am.1 hf v3 false w
 let w':World:={ w with heap:=w.heap.setIfInBounds b (.map (es.push { key:=cB kt ak,val:=y0,born:=nR }) (nR+1)) }
 have bi:b<w.heap.size:=(iR.1 hb3).1;have iJ:(Instr.mapUpdate t (.map (some b)) (cB kt ak) y0).run P w=.ok () w':=by simp only[Instr.mapUpdate,Sem.run_bind,run_underlying aM,Result.andThen_ok,afT hb3,GC,GL];simp only[awV _ hb3];rfl
 have aqL:w'.heap[b]?=some (.map (es.push { key:=cB kt ak,val:=y0,born:=nR }) (nR+1)):=by simp[w',bi]
 obtain⟨bE,e1⟩:=hm.put (id:=id) (x:=(b,0,0)) (w':=w') (by rw[aB];rfl) hb1 Sz rfl rfl rfl (by simp[w']) (λj ao=>by simp[w',xb (zc ao)]) (.mp kt vt (l++[(key,v)])) (by rw[aB];exact⟨rfl,rfl⟩) λaz=>by refine⟨b,_,nR+1,hb1,aqL,?_,Sz⟩;rw[Array.toList_push];exact(zW.mono az.pl az.vw az.bl).push (v3.mono az.vw) ((EJ LW (adW am.2.1)).mono az.pl az.vw az.bl)
 exact⟨rfl,w',M,iJ,bE,e1⟩
def pk(ok:Bool)(v:Value)(b:Bool):Value:=if ok then .tuple #[v,.bool b]else v
def yG{v b:av}{x:Value}(O:d6 phx H B v x)(R:d6 phx H B b (.bool c)):a9 phx H B (yF ok v b) (pk ok x c):=by
 cases ok with
 |false =>cases v<;>first|exact O|exact O.elim
 |true =>exact⟨[x,.bool c],⟨x,[.bool c],rfl,O,.bool c,[],rfl,R,rfl⟩,rfl⟩
def d6.ayj{v:av}{x:Value}(h:d6 phx H B v x):a9 phx H B v x:=by cases v<;>first|exact h|exact h.elim
def aa9{kt vt:ag}(ap:wo kt=true){ok:Bool}{key:kt.aG}{ak:List Value}(ah:aJ H kt key ak):∀{l:List (kt.aG×av)} {es:List MapEntry} (i:Nat) {r:av},lK phx H B kt l es->(Ls kt vt ok key l).a2 g B=some (r,B') ->
  B'=B/\((∃j val,Instr.findNow (uG kt) (cB kt ak) es i=some (some (j,val))/\a9 phx H B r (pk ok val true)) \/
   (Instr.findNow (uG kt) (cB kt ak) es i=some none/\a9 phx H B r (pk ok (cB vt (dH vt)) false)))
 |[],es,i,r,h,aj=>by subst h;cases aj;exact⟨rfl,.inr ⟨rfl,yG (EJ (BL (y8 vt)) (λa=>by cases vt<;>simp[nD,qq])) rfl⟩⟩
 |(k,v)::l,es,i,r,h,aj=>by
  obtain⟨e,es',rfl,⟨Zs,O,R⟩,ai,au⟩:=h;simp only[Ls,aw.a2]at aj;simp only[Instr.findNow];rw[R,TO ap ah O];cases C':wn kt key k with
  |true =>rw[C']at aj;cases aj;exact⟨rfl,.inl ⟨i,e.val,rfl,yG ai rfl⟩⟩
  |false =>rw[C']at aj;exact aa9 ap ah (i+1) au aj
def ZR{kt vt:ag}(ap:wo kt=true){key:kt.aG}{ak:List Value}(ah:aJ H kt key ak):∀{l:List (kt.aG×av)} {fm:List (kt.aG×vt.aG)} {es:List MapEntry} (i:Nat),lK phx H B kt l es->Cd kt vt l=some fm ->
  (∃j val,Instr.findNow (uG kt) (cB kt ak) es i=some (some (j,val))/\d6 phx H B (.sc vt (Ej kt vt key fm)) val/\C4 kt vt key fm=true) \/
   (Instr.findNow (uG kt) (cB kt ak) es i=some none/\d6 phx H B (.sc vt (Ej kt vt key fm)) (cB vt (dH vt))/\C4 kt vt key fm=false)
 |[],fm,es,i,h,hx=>by subst h;cases hx;exact .inr ⟨rfl,⟨_,aJ.zero _ _,rfl⟩,rfl⟩
 |(k,v)::l,fm,es,i,h,hx=>by
  obtain⟨e,es',rfl,⟨Zs,O,R⟩,ai,au⟩:=h;simp only[Cd]at hx;cases aD:iM vt v with
  |none=>rw[aD]at hx;cases hx
  |some x=>
   cases hl:Cd kt vt l with
   |none=>rw[aD,hl]at hx;cases hx
   |some bn=>
    rw[aD,hl]at hx;cases hx;simp only[Instr.findNow];rw[R,TO ap ah O];have a_:d6 phx H B (.sc vt x) e.val:=EJ (og aD ai.ayj) (λa h=>by cases h);cases C':wn kt key k with
    |true=>exact .inl ⟨i,e.val,rfl,by simp only[Ej,C'];exact a_,by simp[C4,C',T]⟩
    |false =>have:=ZR (vt:=vt) ap ah (i+1) au hl;simp only[Ej,C4,C'];exact this
def ata{E:dl}(hv:qW P E.M){tid:TypeId}{x k r:av}{hq Jm:Value}(h:(T9 E tid x k ok).a2 g B=some (r,B'))(hm:bK K w0 phx M B w)
  (mP:a9 phx (view w M) B x hq) (rR:a9 phx (view w M) B k Jm):B'=B/\∃v,(Instr.lookup tid hq Jm ok).run P w=.ok v w/\a9 phx (view w M) B r v:=by
 unfold T9 at h;replace h:=aw.cH h;obtain⟨p,cY,O,h⟩:=h;obtain⟨hp,rfl⟩:=dQ O;obtain⟨ws,OH,aM,x6,pe⟩:=hv _ _ hp;have bh:=A' pe w;cases x<;>try(cases h;done)
 case mpp id=>
  simp only[aw.a2]at h;have ae:bJ phx (view w M) cY (.mpp id) hq:=mP;have dM:=hm.blks id;simp only[bJ]at ae;generalize aB:cY id=bl at h ae dM;cases bl<;>try(cases h;done)
  rename_i kt vt l;simp only at h;replace h:=aw.cH h;obtain⟨_,b2,R,h⟩:=h;obtain⟨am,rfl⟩:=ld R;simp only[cM]at am;have e1:=eV am.1;subst e1;have aT:=eV am.2.1;subst aT;replace h:=aw.cH h;obtain⟨key,vm,ai,h⟩:=h;obtain⟨p1,rfl⟩:=dQ ai;obtain⟨ak,v3,rfl⟩:=og p1 rR;obtain⟨b,hb1,rfl⟩:=ae;obtain⟨b',es,nR,hb2,hb3,zW,Sz⟩:=dM;rw[hb1]at hb2;cases hb2;have GQ:=Md am.2.2 x6;have GC:=λc=>TN am.2.2 x6 v3 c w;have run:∀o,Instr.findNow (uG p.1) (cB p.1 ak) es.toList 0=some o->(Instr.lookup tid (.map (some b)) (cB p.1 ak) ok).run P w=.ok (match o with|some (_,v)=>pk ok v true|none=>pk ok (cB p.2 (dH p.2)) false) w:=by
   intro o aO;have GL:(Instr.findKey ws (cB p.1 ak) es.toList).run P w=.ok o w:=by simp[Instr.findKey,run_underlying GQ,aO]
   simp only[Instr.lookup,Sem.run_bind,run_underlying aM,Result.andThen_ok,afT hb3,Sem.run_pure,GC,GL];cases o with
   |none=>simp[bh,pk]
   |some q=>simp[pk]
  unfold aaC at h;cases bc:Cd p.1 p.2 l with
  |none=>
   rw[bc]at h;obtain⟨nX,h⟩:=aa9 am.2.2 v3 0 zW h;refine⟨nX,?_⟩;rcases h with⟨j,val,bG,ca⟩|⟨bG,ca⟩
   .exact⟨_,run _ bG,ca⟩
   exact⟨_,run _ bG,ca⟩
  |some fm=>
   rw[bc]at h;cases h;refine⟨rfl,?_⟩;rcases ZR (vt:=p.2) am.2.2 v3 0 zW bc with⟨j,val,bG,ca,cr⟩|⟨bG,ca,cr⟩
   .exact⟨_,run _ bG,yG ca ⟨_,aJ.oA.2 (by rw[cr]),rfl⟩⟩
   exact⟨_,run _ bG,yG ca ⟨_,aJ.oA.2 (by rw[cr]),rfl⟩⟩
 case sc t y=>
  cases t<;>try(cases h;done)
  rename_i jQ;have GR:jQ=2:=by
   refine kZ λah => ?_;match jQ,ah,h with
   |0,_,h=>cases h
   |1,_,h=>cases h
   |2,ah,_=>exact ah rfl
   |n+3,_,h=>cases h
  subst GR;simp only at h;replace h:=aw.cH h;obtain⟨_,b2,R,h⟩:=h;obtain⟨am,rfl⟩:=ld R;replace h:=aw.cH h;obtain⟨key,vm,ai,h⟩:=h;obtain⟨p1,rfl⟩:=dQ ai;cases h;obtain⟨ak,v3,rfl⟩:=og p1 rR;obtain⟨cs,mi,rfl⟩:=mP;have:=aJ.wF.1 mi;subst this;have GQ:=Md am x6;have GC:=TN am x6 v3 true w;refine⟨rfl,pk ok (cB p.2 (dH p.2)) false,?_,yG (EJ (BL (y8 _)) (λa=>by cases p.2<;>simp[nD,qq])) rfl⟩;show(Instr.lookup tid (.map none) (cB p.1 ak) ok).run P w=_;have GL:(Instr.findKey ws (cB p.1 ak) []).run P w=.ok none w:=by simp[Instr.findKey,run_underlying GQ,Instr.findNow]
  simp only[Instr.lookup,Sem.run_bind,run_underlying aM,Result.andThen_ok,Sem.run_pure];simp[GC,GL,bh,pk]
def WE{t:ag}{tid:TypeId}(hf:(cT P t).1 tid)(am:ag.is t (.op 1)=false):∃d,P.underlying tid=some d/\∀wx,d ≠ .interface wx:=by
 cases t with
 |bool=>exact⟨_,hf.1,bf⟩
 |int k=>exact⟨_,hf.1,bf⟩
 |str=>exact⟨_,hf.1,bf⟩
 |sl e=>obtain⟨⟨bd,h,_⟩,_⟩:=hf;exact⟨_,h,bf⟩
 |unit=>obtain⟨⟨bd,h,_⟩,_⟩:=hf;exact⟨_,h,bf⟩
 |pair a b=>obtain⟨⟨bd,h,_⟩,_⟩:=hf;exact⟨_,h,bf⟩
 |ar n e=>obtain⟨⟨bd,h,_⟩,_⟩:=hf;exact⟨_,h,bf⟩
 |op k=>
  have h:=hf.1;match k,h,am with
  |0,⟨_,_,_,h⟩,_=>exact⟨_,h,bf⟩
  |2,⟨_,_,h⟩,_=>exact⟨_,h,bf⟩
  |3,⟨_,h⟩,_=>exact⟨_,h,bf⟩
 |fn l=>obtain⟨⟨_,_,_,h⟩,_⟩:=hf;exact⟨_,h,bf⟩
def ati{t:ag}{tid:TypeId}(hf:(cT P t).1 tid)(am:ag.is t (.op 1)=false)(x:Value)(w:World):(Instr.makeInterface tid x).run P w=.ok (.iface tid x) w:=by obtain⟨d,aM,aI⟩:=WE hf am;simp only[Instr.makeInterface,Sem.run_bind,run_underlying aM];simp
def ajC{E:dl}(hT:nA P E.b6){t1 xT:TypeId}{x r:av}{hq:Value}(h:(XP E t1 x ok).a2 g B=some (r,B'))(aj:a9 phx H B x hq)(w:World):
  B'=B/\∃v,(Instr.typeAssert hq xT t1 ok).run P w=.ok v w/\a9 phx H B r v:=by
 have zero:∀{t:ag},d6 phx H B (qq t (nD t)) (cB t (dH t)):=fun{t}=>EJ (BL (y8 t)) (λa=>by cases t<;>simp[nD,qq]);cases x<;>try(cases h;done)
 case ifc tid t y=>
  replace h:=aw.cH h;obtain⟨t',cY,O,h⟩:=h;obtain⟨ht,rfl⟩:=dQ O;obtain⟨cs,mi,rfl⟩:=aj;cases ac:ag.is t' (.op 1) with
  |true=>rw[ac]at h;cases h
  |false=>
   rw[ac]at h;have hf:=hT _ _ ht;obtain⟨d,aM,aI⟩:=WE hf ac;have bh:=A' hf w;cases Y:Nat.beq tid t1 with
   |true =>rw[Y]at h;cases h;have:=fP Y;subst this;refine⟨rfl,pk ok (cB t cs) true,?_,yG ⟨cs,mi,rfl⟩ rfl⟩;simp only[Instr.typeAssert,Sem.run_bind,run_underlying aM];cases d<;>first|exact absurd rfl (aI _)|(simp[pk])
   |false=>
    rw[Y]at h;cases ok with
    |false=>cases h
    |true=>
     cases h;refine⟨rfl,pk true (cB t' (dH t')) false,?_,yG zero rfl⟩;have e3:¬tid=t1:=λe=>by rw[e,Fj]at Y;cases Y
     simp only[Instr.typeAssert,Sem.run_bind,run_underlying aM];cases d<;>first|exact absurd rfl (aI _)|(simp[pk,e3,bh])
 case sc t y=>
  cases t<;>try(cases h;done)
  rename_i jQ;have GR:jQ=1:=by
   refine kZ λah => ?_;match jQ,ah,h with
   |1,ah,_=>exact ah rfl
  subst GR;replace h:=aw.cH h;obtain⟨t',cY,O,h⟩:=h;obtain⟨ht,rfl⟩:=dQ O;obtain⟨cs,mi,rfl⟩:=aj;have:=aJ.wF.1 mi;subst this;cases ac:ag.is t' (.op 1) with
  |true=>rw[ac]at h;cases h
  |false=>
   rw[ac]at h;have hf:=hT _ _ ht;obtain⟨d,aM,aI⟩:=WE hf ac;have bh:=A' hf w;cases ok with
   |false=>cases h
   |true =>cases h;refine⟨rfl,pk true (cB t' (dH t')) false,?_,yG zero rfl⟩;show(Instr.typeAssert .nilIface xT t1 true).run P w=_;simp only[Instr.typeAssert,Sem.run_bind,run_underlying aM];cases d<;>first|exact absurd rfl (aI _)|(simp[pk,bh])
end
end Yp
namespace Yp
open Go
def xk:=@Array.getElem?_toList
variable {P:Program}
section
variable {K:Kp} {w0 w:World} {phx:cd} {M:Nat->Prop} {B B':Nat->aU} {g:Nat->av} {H:cf}
def ajw{v:av}{n:Int}{x:Value}(h:(zr v).a2 g B=some (n,B'))(aj:a9 phx H B v x):B'=B/\∃k,x=.int k n:=by
 cases v<;>try(cases h;done)
 rename_i t y;cases t<;>try(cases h;done)
 rename_i k;cases h;exact⟨rfl,k,aj.int⟩
def asB{t:ag}(h:acW t=true):∃e,t=.sl e:=by cases t<;>first|exact⟨_,rfl⟩|cases h
def jZ.args:∀{l:List iP} {vs:List Value},jZ phx H B l vs->gL phx H B (l.map iP.pv) vs
 |[],vs,h=>by have h:vs=[]:=h;subst h;trivial
 |c::l,vs,h=>by obtain⟨v,ei,rfl,O,R⟩:=h;refine⟨?_,R.args⟩;cases c<;>exact O
def gL.cm:∀{a5 aff:List av} {vs us:List Value},gL phx H B a5 vs->gL phx H B aff us->gL phx H B (a5++aff) (vs++us)
 |[],_,[],_,_,h=>h
 |_::_,_,_::_,_,h,k=>⟨h.1,gL.cm h.2 k⟩
def jZ.take:∀(n:Nat) {l:List iP} {vs:List Value},jZ phx H B l vs->jZ phx H B (l.take n) (vs.take n)/\jZ phx H B (l.drop n) (vs.drop n)
 |0,_,_,h=>⟨rfl,h⟩
 |n+1,[],vs,h=>by have h:vs=[]:=h;subst h;exact⟨rfl,rfl⟩
 |n+1,c::l,vs,h=>by obtain⟨v,ei,rfl,O,R⟩:=h;obtain⟨bD,b1⟩:=jZ.take n R;exact⟨⟨v,_,rfl,O,bD⟩,b1⟩
def Q4{dU:Nat}{cZ:List iP}{a5:List av}{us vs:List Value}(az:jZ phx H B cZ us)(hp:gL phx H B a5 vs):gL phx H B (vL dU cZ a5) (us.take dU++(vs++us.drop dU)):=by obtain⟨bD,b1⟩:=jZ.take dU az;exact gL.cm bD.args (gL.cm hp b1.args)
def amW{p:av}{c:iP}{x:Value}(h:(Cy p).a2 g B=some (c,B'))(hm:bK K w0 phx M B w)(aj:a9 phx (view w M) B p x):
  ∃aA,bK K w0 phx aA B' w/\co phx M B w phx aA B' w/\vA phx (view w aA) B' c x:=by
 cases p<;>try(cases h;done)
 case ptr id p=>cases h;exact⟨M,hm,co.refl _ _ _ _,aj⟩
 case sc t y=>cases h;exact⟨M,hm,co.refl _ _ _ _,aj⟩
 case kb b =>cases h;subst aj;exact⟨M,hm,co.refl _ _ _ _,a9.uM phx _ B b⟩
 case agg t u =>obtain⟨y,cY,O,R⟩:=aw.cH h;cases R;obtain⟨cs,rfl,aA,bE,e1,_,_,f2⟩:=Bs O hm aj;exact⟨aA,bE,e1,cs,f2 rfl,rfl⟩
 case clo f dU cZ=>
  cases cZ with
  |nil =>cases h;obtain⟨vs,aD,rfl⟩:=aj;subst aD;exact⟨M,hm,co.refl _ _ _ _,[_],aJ.F?.2 rfl,by simp[cB,ag.isAgg,sQ]⟩
  |cons c r=>cases h
def ZP:∀{a5:List av} {cs:List iP} {vs:List Value} {M:Nat->Prop} {B B':Nat->aU},(mm Cy a5).a2 g B=some (cs,B')->bK K w0 phx M B w->gL phx (view w M) B a5 vs ->
  ∃aA,bK K w0 phx aA B' w/\co phx M B w phx aA B' w/\jZ phx (view w aA) B' cs vs
 |[],cs,[],M,B,B',h,hm,_=>by cases h;exact⟨M,hm,co.refl _ _ _ _,rfl⟩
 |p::a5,cs,v::vs,M,B,B',h,hm,hp=>by replace h:=aw.cH h;obtain⟨c,cY,O,h⟩:=h;replace h:=aw.cH h;obtain⟨ja,b2,R,h⟩:=h;cases h;obtain⟨fR,bE,e1,ek⟩:=amW O hm hp.1;obtain⟨c',cq,aT,e8⟩:=ZP R bE (hp.2.ext e1);exact⟨c',cq,e1.trans aT,v,vs,rfl,ek.mono aT.pl aT.vw aT.bl,e8⟩
def gL.length:∀{a5:List av} {vs:List Value},gL phx H B a5 vs->a5.length=vs.length
 |[],[],_=>rfl
 |_::_,_::_,h=>by simp[gL.length h.2]
 |[],_::_,h=>h.elim
 |_::_,[],h=>h.elim
def Zl{E:dl}(dK:o1 P E K w0){d:Nat}:∀{l:List Nat} {x:Nat} {a5:List av} {vs:List Value} {v:av},(KF E d l x a5).a2 g B=some (v,B')->bK K w0 phx M B w->gL phx (view w M) B a5 vs ->
  ∃f,sQ l x=.func (.func f) #[] #[]/\sp P f/\Calls P f vs.toArray w λe w'=>∃bY,e=.returned bY/\dB K w0 phx M B w B' v bY w'
 |[],x,a5,vs,v,h,hm,dm=>by cases h
 |[f],x,a5,vs,v,h,hm,dm=>by replace h:=i? h;obtain⟨hx,h⟩:=h;have hx:x=1:=fP hx;subst hx;exact⟨f,rfl,QS dK h hm dm⟩
 |f::vO::r,x,a5,vs,v,h,hm,dm=>by
  simp only[KF,aw.a2]at h;cases hx:bP x 1 with
  |true =>rw[hx,if_pos rfl]at h;have hx:x=1:=fP hx;subst hx;exact⟨f,rfl,QS dK h hm dm⟩
  |false=>
   rw[hx,if_neg bf]at h;obtain⟨q,O,R⟩:=Zl dK h hm dm;refine⟨q,?_,R⟩;match x,hx,O with
   |0,_,O=>simp[ce,sQ]at O
   |1,hx,_=>simp[bP]at hx
   |n+2,_,O=>simpa[ce,sQ]using O
def Z'{t e:ag}(h:Rx t=some e):t=.sl e:=by
 cases t<;>try(cases h;done)
 exact congrArg ag.sl (om h)
def d6.ayi{v:av}{x:Value}(h:d6 phx H B v x)(aM:∀a,v ≠ .tup a):a9 phx H B v x:=by cases v<;>first|exact h|exact absurd rfl (aM _)
def g_{x:Operand}{f:av->aw α}{r:α×(Nat->aU)}(h:((eu x).bind f).a2 g B=some r){a:Act}(ae:dE phx H B g a):∃v,a9 phx H B v (a.eval x)/\(f v).a2 g B=some r:=by
 obtain⟨v,cY,O,R⟩:=aw.cH h;obtain⟨e,aD⟩:=ys O ae
 grind
def lY{o:Option β}{f:β->aw α}{r:α×(Nat->aU)}(h:((aw.opt o).bind f).a2 g B=some r):∃v,o=some v/\(f v).a2 g B=some r:=by
 obtain⟨v,cY,O,R⟩:=aw.cH h;obtain⟨aD,e⟩:=dQ O
 grind
def Ka{p:av}{f:Int->aw α}{r:α×(Nat->aU)}(h:((zr p).bind f).a2 g B=some r){x:Value}(aj:a9 phx H B p x):∃n k,x=.int k n/\(f n).a2 g B=some r:=by
 obtain⟨v,cY,O,R⟩:=aw.cH h;obtain⟨e,k,aD⟩:=ajw O aj
 grind
def UL{o:Option Operand}{f:Option Int->aw α}{r:α×(Nat->aU)}(h:((H4 o).bind f).a2 g B=some r){a:Act}(ae:dE phx H B g a):∃n k,o.map a.eval=(n.map λi=>.int k i)/\(f n).a2 g B=some r:=by
 obtain⟨v,cY,O,R⟩:=aw.cH h;obtain⟨e,k,aD⟩:=auA O ae
 grind
def adJ{b:Bool}{f:Unit->aw α}{r:α×(Nat->aU)}(h:((aw.need b).bind f).a2 g B=some r):b=true/\(f ()).a2 g B=some r:=by
 obtain⟨v,cY,O,R⟩:=aw.cH h;obtain⟨aD,e⟩:=ld O
 grind
def akl{E:dl}(hT:nA P E.b6){b:Builtin}{d?:Array TypeId}{a5:List av}{vs:List Value}{v:av}(h:(Qj E d b d?.toList a5).a2 g B=some (v,B'))(hm:bK K w0 phx M B w)
  (dm:gL phx (view w M) B a5 vs) (ty:TypeId) (cs:Array Bool):∃r w',(Go.builtin b d? ty cs vs.toArray).run P w=.ok (.value r) w'/\dB K w0 phx M B w B' v r w':=by
 unfold Qj at h;split at h
 ·
  split at h
  .rename_i t ts a ur
   obtain⟨gs,cY,O,R⟩:=aw.cH h;obtain⟨ht,rfl⟩:=dQ O;match vs,dm with
   |[ci],dm=>
    have aq:d?[0]?=some t:=by rw[<- xk,ur];rfl
    obtain⟨aB,r,ai,au⟩:=as5 (P:=P) (hT _ _ ht) R dm.1 aq ty;exact⟨r,w,by simp[Go.builtin,ai],dB.same hm aB au⟩
  cases h
 ·
  split at h
  .rename_i t ts ur
   replace h:=aw.cH h;obtain⟨gs,cY,O,h⟩:=h;obtain⟨ht,rfl⟩:=dQ O;replace h:=gU h;obtain⟨p6,h⟩:=h;obtain⟨e,rfl⟩:=asB p6;cases h;match vs,dm with
   |[ci],dm=>
    have aq:d?[0]?=some t:=by rw[<- xk,ur];rfl
    have G5:ci=.slice none 0 0:=dm.1;subst G5;obtain⟨⟨bd,aM,_⟩,_⟩:=hT _ _ ht;refine⟨goInt 0,w,by simp[Go.builtin,Builtin.cap_,aq,run_underlying aM],dB.same hm rfl (a9.uN _ 0)⟩
  cases h
 ·
  split at h
  .rename_i t u s x ur
   split at h
   .rename_i e ht aM
    match vs,dm with
    |[vs,hq],dm=>
     have zV:d?=#[t,u]:=by apply B1;exact ur
     subst zV;split at h
     .rename_i n _
      replace h:=i? h;obtain⟨ah,h⟩:=h;simp only[cV,cM]at ah;obtain⟨dN,gJ,rfl,rfl⟩:=wC h;have G5:vs=.slice none 0 0:=dm.1;have arX:=dm.2.1.int;subst G5;subst arX;obtain⟨r,w',ai,au⟩:=ajq (ty:=ty) dN (hT _ _ ht) (hT _ _ aM).1 (n:=(n:Int)) (by have:=ah.1;simpa[b?]using this) ah.2 gJ hm;have ai:(Builtin.append_ #[t,u] ty #[.slice none 0 0,.int .i64 (bH.to .i64 n)]).run P w=.ok r w':=ai;exact⟨r,w',by simp[Go.builtin,ai],au⟩
     cases h
   .rename_i e aAn aM ht p7
    replace h:=gU h;obtain⟨a_,h⟩:=h;match vs,dm with
    |[vs,hq],dm=>
     have zV:d?=#[t,u]:=by apply B1;exact ur
     subst zV;obtain⟨r,w',ai,au⟩:∃r w',(Builtin.append_ #[t,u] ty #[vs,hq]).run P w=.ok r w'/\dB K w0 phx M B w B' v r w':=by
      cases dJ:E.A with
      |true=>rw[dJ]at h;exact ajo (ty:=ty) (hT _ _ ht) (hT _ _ p7) a_ h hm dm.1 dm.2.1
      |false=>rw[dJ]at h;exact ajp (ty:=ty) (hT _ _ ht) (hT _ _ p7) a_ h hm dm.1 dm.2.1
     exact⟨r,w',by simp[Go.builtin,ai],au⟩
   cases h
  cases h
 ·
  split at h
  .rename_i t u a x ur
   split at h
   .rename_i e aT ht aM
    match vs,dm with
    |[ci,hq],dm=>
     have zV:d?=#[t,u]:=by apply B1;exact ur
     subst zV;obtain⟨r,w',ai,au⟩:=amR (uid:=u) (ty:=ty) (hT _ _ ht) h hm dm.1 dm.2.1;exact⟨r,w',by simp[Go.builtin,ai],au⟩
   cases h
  cases h
 ·
  split at h
  .rename_i t a ur
   split at h
   .rename_i e ht
    match vs,dm with
    |[ci],dm=>
     have zV:d?=#[t]:=by apply B1;exact ur
     subst zV;obtain⟨r,w',ai,au⟩:=amF (ty:=ty) (hT _ _ ht) h hm dm.1;exact⟨r,w',by simp[Go.builtin,ai],au⟩
   cases h
  cases h
 ·
  split at h
  .rename_i a b
   cases h;match vs,dm with
   |[ci,tG],dm =>obtain⟨O,R,_⟩:=dm;have e1:=O.int;have aT:=R.int;subst e1;subst aT;refine⟨_,w,by simp[Go.builtin,Builtin.min_,Builtin.min2];rfl,dB.same hm rfl ?_⟩;exact a9.s? _ _ _ .i64 (g8 a b)
  cases h
 ·
  split at h
  .rename_i a b
   cases h;match vs,dm with
   |[ci,tG],dm =>obtain⟨O,R,_⟩:=dm;have e1:=O.int;have aT:=R.int;subst e1;subst aT;refine⟨_,w,by simp[Go.builtin,Builtin.max_,Builtin.max2];rfl,dB.same hm rfl ?_⟩;exact a9.s? _ _ _ .i64 (cX a b)
  cases h
 cases h
def avf{v:av}{x:Value}(aj:a9 phx H B v x){r:av}(h:(MA v).a2 g B=some (r,B')):B'=B/\r=v/\((∃a,x=.pointer (some a))\/∃f a b,x=.func (.func f) a b):=by
 cases v<;>try(cases h;done)
 case ptr id p=>
  simp only[MA,aw.a2]at h;have ae:bJ phx H B (.ptr id p) x:=aj;simp only[bJ]at ae;generalize aB:B id=bl at h ae;cases bl<;>try(cases h;done)
  cases h
  grind
 case opt id i p=>
  simp only[MA,aw.a2]at h;have ae:bJ phx H B (.opt id i p) x:=aj;simp only[bJ]at ae;generalize aB:B id=bl at h ae;cases bl<;>try(cases h;done)
  all_goals
   cases h
   grind
 case ipt e l i p =>cases h;obtain⟨ac,b,o,cap,off,t',O,R,rfl⟩:=aj;simp
 case clo f dU cZ =>cases h;obtain⟨vs,_,rfl⟩:=aj;simp
def at2{a:Act}{y:Operand}(h:MK y=true):∀k n,a.eval y=.int k n->n≠0:=by
 unfold MK at h;split at h
 .intro k n am;simp at am;obtain⟨_,rfl⟩:=am;simp;omega
 .intro k n am;simp only[Act.eval]at am;obtain⟨_,rfl⟩:=am;simp
 cases h
def atR{a:Act}{y:Operand}(h:MD y=true):∀k n,a.eval y=.int k n->0<=n:=by
 unfold MD at h;split at h
 .intro k n am;simp at am;obtain⟨_,rfl⟩:=am;simp
 cases h
def anJ{p:av}{v:av}(h:(F6 p i).a2 g B=some (v,B')){x:Value}(aj:a9 phx H B p x):∀a,v ≠ .tup a:=by
 rintro a rfl;unfold F6 at h;split at h
 .obtain⟨h,_⟩:=dQ h
  obtain⟨vs,hl,rfl⟩:=aj;rename_i q;have key:∀(i:Nat) (q:av) (vs:List Value),jc q (gG i)=some (.tup a)->ma phx H B q vs->False:=by
   intro i;induction i with
   |zero=>
    intro q vs h hl;cases q<;>simp only[gG,jc]at h<;>try(cases h;done)
    .rename_i t y
     cases t<;>(try simp only[jc]at h)<;>cases h
    obtain⟨u,us,rfl,O,R⟩:=hl
    (try simp only[jc]at h);cases h
    exact O.elim
   |succ i ih=>
    intro q vs h hl;cases q<;>simp only[gG,jc]at h<;>try(cases h;done)
    .rename_i t y
     cases t<;>(try simp only[jc]at h)<;>try(cases h;done)
     exact hl.elim
    obtain⟨u,us,rfl,O,R⟩:=hl;exact ih _ _ h R
  exact key i _ vs h hl
 cases h
def hr(P:Program)(K:Kp)(w0:World)(phx:cd)(M:Nat->Prop)(B:Nat->aU)(w:World)(B':Nat->aU)(v:av)(s:Sem Next):Prop:=
 ∃r w',s.run P w=.ok (.value r) w'/\dB K w0 phx M B w B' v r w'
def hr.of{s:Sem Value}{v:av}{r:Value}{w':World}(h:s.run P w=.ok r w')(bc:dB K w0 phx M B w B' v r w'):hr P K w0 phx M B w B' v (do pure (.value (<- s))):=
 ⟨r,w',by simp[h],bc⟩
def hr.pure{v:av}{r:Value}(bc:dB K w0 phx M B w B' v r w):hr P K w0 phx M B w B' v (pure (.value r)):=⟨r,w,rfl,bc⟩
def OX{c7:Option Nat}{f:Operand}{args:Array Operand}{d?:Array TypeId}{type:TypeId}{jG:String}{after:Array Edge}{CY:Option (Nat×Bool)}{a:Act}{zH:Nat}{first cap:Array Value}
  (hf:a.eval f=.func (.func zH) first cap) (v2:sp P zH) {Kn:Act->World->Prop} {Q:Exit->Act->World->Prop}
  (h:Calls P zH (first++args.map a.eval++cap) w λe w'=>∃bY,e=.returned bY/\Kn (a.put c7 bY) w'):Oper.wp P ⟨c7,.call ⟨.value f,args,d?⟩,type,jG,after,CY⟩ a w Kn Q:=by
 obtain⟨fn,c1,c2,hd⟩:=v2;have ut:¬fn.body=none:=by intro Y;rw[Y]at c2;cases c2
 have FE : ¬ fn.name = "runtime.NumGoroutine" := by simpa using hd
 have iJ:(execOp a.eval ⟨c7,.call ⟨.value f,args,d?⟩,type,jG,after,CY⟩).run P w=.ok (.enter zH (first++args.map a.eval++cap)) w:=by simp only[execOp,resolve];simp[hf,Deferred.ofValue,invoke,callFunc,c1,FE,ut]
 unfold Oper.wp;rw[iJ,Oper.upon_enter];refine h.mono ?_;rintro e w' ⟨bY,rfl,ap⟩;exact ap
def aoO{E:dl}(dK:o1 P E K w0){x:Operand}{f:av->aw α}{r:α×(Nat->aU)}(h:((R' E x).bind f).a2 g B=some r)(hm:bK K w0 phx M B w){a:Act}(ae:dE phx (view w M) B g a):
  ∃v,a9 phx (view w M) B v (a.eval x)/\(f v).a2 g B=some r:=by
 cases x with
 |global i=>
  simp only[R']at h;cases ap:E.K with
  |none=>rw[ap]at h;cases h
  |some k=>
   rw[ap]at h;simp only at h;cases Y:Nat.beq k i with
   |false=>rw[Y]at h;cases h
   |true =>rw[Y]at h;have:=fP Y;subst this;refine⟨_,?_,h⟩;have cA:=(dK.gk (.inr (.inr ⟨_,ap⟩))).keys hm k (dK.kn k ap);show bJ phx (view w M) B (.ipt (.ar 64 (.int .u32)) [(p8:List (bH .u32))] 0 []) (.pointer (some ⟨k,0,none⟩));simp only[bJ];exact⟨Nat.zero_lt_one,k,0,1,0,_,cA,rfl,bf⟩
 |tmp t=>exact g_ h ae
 |const v=>exact g_ h ae
 |func vO=>exact g_ h ae
def atO{op:BinOp}{y:Operand}(h:HP op y=true):op=.eql/\y=.const .nilIface:=by
 unfold HP at h
 grind
def awR{tid:TypeId}{wx:Array (String×TypeId)}(aM:P.underlying tid=some (.interface wx))(t:Nat)(v:Value)(w:World):(Op.equal tid (.iface t v) .nilIface).run P w=.ok false w:=by show(Op.equalIn (9999+1) tid _ _).run P w=_;rw[Op.equalIn];simp only[Sem.run_bind,run_underlying aM];rfl
def awT{tid:TypeId}{wx:Array (String×TypeId)}(aM:P.underlying tid=some (.interface wx))(w:World):(Op.equal tid .nilIface .nilIface).run P w=.ok true w:=by show(Op.equalIn (9999+1) tid _ _).run P w=_;rw[Op.equalIn];simp only[Sem.run_bind,run_underlying aM];rfl
def asp{tid:TypeId}{t:ag}(ht:(cT P t).1 tid){a r:av}{ci:Value}(h:(L5 t a).a2 g B=some (r,B'))(eb:a9 phx H B a ci)(x:Operand)(w:World):
  B'=B/\∃v,(do eqGuard .eql tid x (.const .nilIface) ci .nilIface;binOp .eql tid ci .nilIface:Sem Value).run P w=.ok v w/\a9 phx H B r v:=by
 unfold L5 at h;cases g5:ag.is t (.op 1) with
 |false=>rw[g5]at h;cases h
 |true=>
  have:=eV g5;subst this;obtain⟨wx,aM⟩:=ht.1;split at h
  .cases h
   obtain⟨cs,_,rfl⟩:=eb;have hg:∀v:Value,∀t,(eqGuard .eql tid x (.const .nilIface) (.iface t v) .nilIface).run P w=.ok () w:=λ_ _=>rfl;exact⟨rfl,.bool false,by simp[hg,binOp,awR aM],rfl⟩
  .cases h
   obtain⟨cs,ah,rfl⟩:=eb;subst ah;have hg:(eqGuard .eql tid x (.const .nilIface) .nilIface .nilIface).run P w=.ok () w:=by cases x<;>rfl
   exact⟨rfl,.bool true,by simp[hg,binOp,cB,ag.isAgg,AD,awT aM],rfl⟩
  cases h
def UK{E:dl}(hT:nA P E.b6)(cA:pP P E.b6 E.C)(hv:qW P E.M)(dK:o1 P E K w0){o:Oper}{a:Act}{v:av}(h:(r6 E o).a2 g B=some (v,B'))(hm:bK K w0 phx M B w)(ae:dE phx (view w M) B g a)
  {Kn:Act->World->Prop} {Q:Exit->Act->World->Prop} (ap:∀r w',dB K w0 phx M B w B' v r w'->Kn (a.put o.dst r) w'):o.wp P a w Kn Q:=by
 have he:hr P K w0 phx M B w B' v (execOp a.eval o)->o.wp P a w Kn Q:=λ⟨r,w',O,R⟩=>ay0 O (ap r w' R);obtain⟨c7,op,type,jG,after,CY⟩:=o;cases op<;>try(cases h;done)
 case move x =>obtain⟨aB,aD⟩:=ys h ae;exact he (hr.pure (dB.same hm aB aD))
 case assign x =>obtain⟨aB,aD⟩:=ys h ae;exact he (hr.pure (dB.same hm aB aD))
 case pick c x y =>replace h:=g_ h ae;obtain⟨auR,ah,h⟩:=h;replace h:=g_ h ae;obtain⟨i0,hx,h⟩:=h;replace h:=g_ h ae;obtain⟨afa,bs,h⟩:=h;obtain⟨aB,c9,au,a4⟩:=auY (P:=P) h ah hx bs w;exact he ⟨c9,w,au,dB.same hm aB a4⟩
 case alloc t =>replace h:=lY h;obtain⟨ty,ht,h⟩:=h;replace h:=CQ h;obtain⟨hid,h⟩:=h;cases h;obtain⟨r,w',O,R⟩:=ajj (hT _ _ ht) hid hm;exact he (hr.of O R)
 case box t x =>replace h:=lY h;obtain⟨ty,ht,h⟩:=h;replace h:=g_ h ae;obtain⟨i0,hx,h⟩:=h;obtain⟨_,cY,O,R⟩:=aw.cH h;obtain⟨e,cu,nl,sW⟩:=Lh O hx;rw[e]at R;obtain⟨hid,R⟩:=CQ R;cases R;obtain⟨r,w',O,R⟩:=X5 (hT _ _ ht) hid hm nl sW;exact he (hr.of O R)
 case build t parts=>
  replace h:=lY h;obtain⟨ty,ht,h⟩:=h;obtain⟨a5,cY,O,R⟩:=aw.cH h;obtain⟨e,dm⟩:=UW ae O;rw[e]at R;have Da:pH phx (view w M) B a5 (parts.map λ(i,x)=>(i,a.eval x)).toList:=by simpa using dm
  cases ty<;>try(cases R;done)
  case ar n e =>obtain⟨r,ai,au⟩:=akk (hT _ _ ht) R hm Da;exact he (hr.of ai au)
  case unit =>obtain⟨aB,r,ai,au⟩:=X' rfl (hT _ _ ht) R Da w;exact he (hr.of ai (dB.same hm aB au))
  case pair x y =>obtain⟨aB,r,ai,au⟩:=X' rfl (hT _ _ ht) R Da w;exact he (hr.of ai (dB.same hm aB au))
 case buildSlice t n parts=>
  replace h:=lY h;obtain⟨ty,ht,h⟩:=h;replace h:=lY h;obtain⟨e,az,h⟩:=h;have:=Z' az;subst this;obtain⟨a5,cY,O,R⟩:=aw.cH h;obtain⟨Ru,dm⟩:=UW ae O;rw[Ru]at R;have Da:pH phx (view w M) B a5 (parts.map λ(i,x)=>(i,a.eval x)).toList:=by simpa using dm
  cases s1:ag.is e (.op 3) with
  |true =>rw[s1,cond_true]at R;have:=eV s1;subst this;obtain⟨r,w',ai,au⟩:=avg (hT _ _ ht) R hm Da;exact he (hr.of ai au)
  |false =>rw[s1,cond_false]at R;obtain⟨r,w',ai,au⟩:=akj (hT _ _ ht) R hm Da;exact he (hr.of ai au)
 case load t x =>replace h:=lY h;obtain⟨ty,ht,h⟩:=h;replace h:=g_ h ae;obtain⟨i0,hx,h⟩:=h;obtain⟨aB,r,ai,au⟩:=adb (hT _ _ ht) h hm hx;exact he (hr.of ai (dB.same hm aB au))
 case store t x y =>replace h:=lY h;obtain⟨ty,ht,h⟩:=h;replace h:=g_ h ae;obtain⟨i0,hx,h⟩:=h;replace h:=g_ h ae;obtain⟨afa,bs,h⟩:=h;obtain⟨rfl,w',aA,ai,au,a4⟩:=axX (hT _ _ ht) h hm hx bs;exact WV (w':=w') (by simp[execOp,ai]) (ap _ _ ⟨phx,aA,au,a4,rfl⟩)
 case nilCheck x=>
  replace h:=g_ h ae;obtain⟨i0,hx,h⟩:=h;obtain⟨aB,rfl,az⟩:=avf hx h;refine he ⟨a.eval x,w,?_,dB.same hm aB hx⟩;rcases az with⟨ad,az⟩|⟨f,cK,e_,az⟩
  .simp only[execOp,az];rfl
  simp only[execOp,az];rfl
 case binOp op t x y yt=>
  change (bif HP op y then(aw.opt (E.b6 t)).bind λty=>(eu x).bind λa=>L5 ty a else(eu x).bind λa=>(eu y).bind λb=>Ki E (MK y) (MD y) op t a b:aw av).a2 g B=_ at h;cases S7:HP op y with
  |true =>obtain⟨rfl,rfl⟩:=atO S7;rw[S7,cond_true]at h;replace h:=lY h;obtain⟨ty,ht,h⟩:=h;replace h:=g_ h ae;obtain⟨i0,hx,h⟩:=h;obtain⟨aB,r,ai,au⟩:=asp (hT _ _ ht) h hx x w;exact he (hr.of ai (dB.same hm aB au))
  |false=>
  rw[S7,cond_false]at h;replace h:=g_ h ae;obtain⟨i0,hx,h⟩:=h;replace h:=g_ h ae;obtain⟨afa,bs,h⟩:=h;obtain⟨aB,r,ai,au⟩:=aj0 hT cA h hx bs (λbh=>at2 bh) (λbh=>atR bh) x y w;exact he (hr.of ai (dB.same hm aB au))
 case unOp op t x =>replace h:=g_ h ae;obtain⟨i0,hx,h⟩:=h;obtain⟨aB,r,ai,au⟩:=ayx (P:=P) h hx w;exact he (hr.of ai (dB.same hm aB au))
 case convert s t x=>
  replace h:=g_ h ae;obtain⟨i0,hx,h⟩:=h;unfold ZH at h;replace h:=lY h;obtain⟨ts,arO,h⟩:=h;replace h:=lY h;obtain⟨ayp,arP,h⟩:=h;have fp:=hT _ _ arO;have d7:=hT _ _ arP;cases ayp<;>try(cases h;done)
  case int k=>
   cases i0<;>try(cases h;done)
   rename_i iB pl;cases iB<;>try(cases h;done)
   rename_i k';cases h;have e:=hx.int;obtain⟨d,aI⟩:=an4 fp;have aj:=awP (P:=P) (k:=k) (k':=k') aI d7.1 (bH.to k' pl) w;rw[<- e]at aj;refine he (hr.of aj (dB.same hm rfl ?_));have:=a9.s? phx (view w M) B k (bH.of k (bH.to k' pl))
   rwa [bH.Ou]at this
  case str=>
   cases ts<;>try(cases h;done)
   case str=>
    cases i0<;>try(cases h;done)
    rename_i iB pl;cases iB<;>try(cases h;done)
    cases h;have e:=hx.str;refine he (hr.of (r:=a.eval x) (w':=w) ?_ (dB.same hm rfl hx));rw[e];simp[convert,run_underlying fp.1,run_underlying d7.1]
   case sl e=>
    replace h:=gU h;obtain⟨Y,h⟩:=h;have az:e=.int .u8:=by
     unfold Ak at Y;split at Y
     .rename_i qM;exact(ag.sl.inj qM)
     cases Y
    subst az;obtain⟨l,cY,O,R⟩:=aw.cH h;cases R;obtain⟨aB,aj⟩:=amO (l:=l) fp d7.1 O hm hx;exact he (hr.of aj (dB.same hm aB (a9.Uh _ _ _ l)))
  case sl e=>
   cases ts<;>try(cases h;done)
   case sl bA=>
    cases i0<;>try(cases h;done)
    rename_i id eP;cases eP<;>try(cases h;done)
    replace h:=gU h;obtain⟨Y,h⟩:=h;simp only[cM]at Y;have az:e=.int .u8:=by
     have:=Y.1;unfold Ak at this;split at this
     .rename_i qM;exact(ag.sl.inj qM)
     cases this
    subst az;have e4:=fP Y.2.2;subst e4;simp only[aw.a2]at h;generalize aB:B id=bl at h;cases bl<;>try(cases h;done)
    cases h;obtain⟨r,w',ai,au⟩:=amP (P:=P) d7 aB hm hx;exact he (hr.of ai au)
   cases i0<;>try(cases h;done)
   rename_i iB pl;cases iB<;>try(cases h;done)
   replace h:=gU h;obtain⟨Y,h⟩:=h;have az:e=.int .u8:=by
    unfold Ak at Y;split at Y
    .rename_i qM;exact(ag.sl.inj qM)
    cases Y
   subst az;replace h:=i? h;obtain⟨go,h⟩:=h;obtain⟨_,gJ,rfl,rfl⟩:=wC h;have e:=hx.str;have b9:(pl:List UInt8).length*1<=140737488355328:=of_decide_eq_true go;obtain⟨r,w',ai,au⟩:=amQ (P:=P) (l:=pl) fp.1 d7 gJ J hm;rw[<- e]at ai;exact he (hr.of ai au)
 case makeSlice t l c =>replace h:=lY h;obtain⟨ty,ht,h⟩:=h;replace h:=lY h;obtain⟨e,az,h⟩:=h;have:=Z' az;subst this;replace h:=g_ h ae;obtain⟨pl,hl,h⟩:=h;replace h:=Ka h hl;obtain⟨az9,kl,el,h⟩:=h;replace h:=g_ h ae;obtain⟨auR,ah,h⟩:=h;replace h:=Ka h ah;obtain⟨az7,kc,anf,h⟩:=h;obtain⟨r,w',ai,au⟩:=atk (kl:=kl) (kc:=kc) (hT _ _ ht) hm h;rw[<- el,<- anf]at ai;exact he (hr.of ai au)
 case slice t x lo ac qY=>
  replace h:=lY h;obtain⟨ty,ht,h⟩:=h;replace h:=g_ h ae;obtain⟨i0,hx,h⟩:=h;replace h:=UL h ae;obtain⟨atQ,Dp,anm,h⟩:=h;replace h:=UL h ae;obtain⟨atM,Dn,ank,h⟩:=h;replace h:=UL h ae;obtain⟨adP,TR,ann,h⟩:=h;have key:∀{s:Sem Value},(∃r w',s.run P w=.ok r w'/\dB K w0 phx M B w B' v r w')->s=Instr.sliceAt t (a.eval x) (atQ.map λi=>.int Dp i) (atM.map λi=>.int Dn i) (adP.map λi=>.int TR i) ->
    Oper.wp P ⟨c7,.slice t x lo ac qY,type,jG,after,CY⟩ a w Kn Q:=by
   rintro s ⟨r,w',O,R⟩ rfl;refine he ⟨r,w',?_,R⟩;simp only[execOp,anm,ank,ann];simp[O]
  cases dJ:E.A with
  |true=>
   rw[dJ,cond_true]at h;cases ty<;>try(cases h;done)
   obtain⟨aB,r,ai,au⟩:=axB (P:=P) (hT _ _ ht) h hm hx Dp Dn TR;exact key ⟨r,w,ai,dB.same hm aB au⟩ rfl
  |false=>
  rw[dJ,cond_false]at h;cases adP with
  |some m =>obtain⟨aB,r,ai,au⟩:=axA (P:=P) (hT _ _ ht) h hx Dp Dn TR;exact key ⟨r,w,ai,dB.same hm aB au⟩ rfl
  |none=>
   cases ty<;>try(cases h;done)
   case str=>
    cases i0<;>try(cases h;done)
    rename_i iB pl;cases iB<;>try(cases h;done)
    have e:=hx.str;obtain⟨aB,r,ai,au⟩:=axD (P:=P) h (hT _ _ ht).1 Dp Dn (phx:=phx) (H:=view w M) w;exact key ⟨r,w,by rw[<- e]at ai;exact ai,dB.same hm aB au⟩ rfl
   case sl e =>obtain⟨aB,r,ai,au⟩:=VP (P:=P) (hT _ _ ht) h hm hx Dp Dn;exact key ⟨r,w,ai,dB.same hm aB au⟩ rfl
   case ar n e =>obtain⟨aB,r,ai,au⟩:=axC (P:=P) (hT _ _ ht) h hm hx Dp Dn;exact key ⟨r,w,ai,dB.same hm aB au⟩ rfl
 case fieldAddr s x f =>replace h:=g_ h ae;obtain⟨i0,hx,h⟩:=h;obtain⟨aB,r,ai,au⟩:=anQ (P:=P) (λt ht=>hT _ _ ht) h hx;exact he (hr.of ai (dB.same hm aB au))
 case field t x f =>replace h:=g_ h ae;obtain⟨i0,hx,h⟩:=h;obtain⟨aB,r,ai,au⟩:=anV (P:=P) hT h hx;exact he (hr.of ai (dB.same hm aB au))
 case indexAddr t x i =>replace h:=lY h;obtain⟨ty,ht,h⟩:=h;replace h:=aoO dK h hm ae;obtain⟨i0,hx,h⟩:=h;replace h:=g_ h ae;obtain⟨auU,ac,h⟩:=h;replace h:=Ka h ac;obtain⟨n,k,K1,h⟩:=h;obtain⟨aB,r,ai,au⟩:=asr (P:=P) (k:=k) (hT _ _ ht) h hx;rw[<- K1]at ai;exact he (hr.of ai (dB.same hm aB au))
 case index t x i=>
  replace h:=lY h;obtain⟨ty,ht,h⟩:=h;replace h:=g_ h ae;obtain⟨i0,hx,h⟩:=h;replace h:=g_ h ae;obtain⟨auU,ac,h⟩:=h;replace h:=Ka h ac;obtain⟨n,k,K1,h⟩:=h;cases ty with
  |str=>
   have a_:∃l,i0=.sc .str l:=by
    cases i0<;>try(cases h;done)
    rename_i iB pl;cases iB<;>first|exact⟨_,rfl⟩|cases h
   obtain⟨l,rfl⟩:=a_;have e:=hx.str;obtain⟨aB,r,ai,au⟩:=ast (P:=P) h (hT _ _ ht).1 k (phx:=phx) (H:=view w M) w;rw[<- K1,<- e]at ai;exact he (hr.of ai (dB.same hm aB au))
  |ar m e =>obtain⟨aB,r,ai,au⟩:=ass (P:=P) (hT _ _ ht) h hx k;rw[<- K1]at ai;exact he (hr.of ai (dB.same hm aB au))
  |_=>
   cases i0<;>try(cases h;done)
   rename_i iB pl;cases iB<;>cases h
 case range t x=>
  replace h:=lY h;obtain⟨ty,ht,h⟩:=h;replace h:=adJ h;obtain⟨ac,h⟩:=h;have:=eV ac;subst this;replace h:=g_ h ae;obtain⟨i0,hx,h⟩:=h;cases i0<;>try(cases h;done)
  rename_i iB pl;cases iB<;>try(cases h;done)
  replace h:=CQ h;obtain⟨hid,h⟩:=h;cases h;have e:=hx.str;obtain⟨r,w',ai,au⟩:=avD (P:=P) (hT _ _ ht).1 hid (l:=pl) hm;rw[<- e]at ai;exact he (hr.of ai au)
 case next x b=>
  cases b<;>try(cases h;done)
  replace h:=g_ h ae;obtain⟨i0,hx,h⟩:=h;obtain⟨r,w',ai,au⟩:=atL (P:=P) h hm hx type;exact he (hr.of ai au)
 case extract x i =>replace h:=g_ h ae;obtain⟨i0,hx,h⟩:=h;obtain⟨aB,r,ai,au⟩:=anI (P:=P) h hx w;refine he (hr.of ai (dB.same hm aB ?_));exact au.ayi (anJ h hx)
 case makeFunc fn first cap=>
  cases fn<;>try(cases h;done)
  rename_i f;replace h:=aw.cH h;obtain⟨pa,cY,O,h⟩:=h;obtain⟨e1,acj⟩:=yn ae O;rw[e1]at h;replace h:=aw.cH h;obtain⟨H_,b2,R,h⟩:=h;obtain⟨aT,aro⟩:=yn ae R;rw[aT]at h;replace h:=aw.cH h;obtain⟨cZ,vm,ai,h⟩:=h;cases h;obtain⟨aA,bE,W0,ek⟩:=ZP ai hm (gL.cm acj aro);refine he ⟨.func (.func f) (first.map a.eval) (cap.map a.eval),w,by simp[execOp,Instr.makeFunc],phx,aA,bE,W0,_,ek,?_⟩;have b9:pa.length=(first.toList.map a.eval).length:=acj.length;rw[b9,zd,JZ];congr 1<;>(apply B1;simp)
 case makeMap t r=>
  cases r<;>try(cases h;done)
  replace h:=lY h;obtain⟨p,hp,h⟩:=h;replace h:=CQ h;obtain⟨hid,h⟩:=h;cases h;obtain⟨r,w',O,R⟩:=atj (P:=P) (t:=t) hid p.1 p.2 hm;exact he (hr.of O R)
 case insert t m k x =>replace h:=lY h;obtain⟨p,hp,h⟩:=h;replace h:=g_ h ae;obtain⟨au2,GY,h⟩:=h;replace h:=g_ h ae;obtain⟨AW,rR,h⟩:=h;replace h:=g_ h ae;obtain⟨i0,mP,h⟩:=h;obtain⟨ws,OH,aM,x6,pe⟩:=hv _ _ hp;obtain⟨rfl,w',aA,ai,au,a4⟩:=acT (P:=P) h aM x6 hm GY rR mP;exact WV (w':=w') (by simp[execOp,ai]) (ap _ _ ⟨phx,aA,au,a4,rfl⟩)
 case mapUpdate t m k x =>replace h:=lY h;obtain⟨p,hp,h⟩:=h;replace h:=g_ h ae;obtain⟨au2,GY,h⟩:=h;replace h:=g_ h ae;obtain⟨AW,rR,h⟩:=h;replace h:=g_ h ae;obtain⟨i0,mP,h⟩:=h;obtain⟨ws,OH,aM,x6,pe⟩:=hv _ _ hp;obtain⟨rfl,w',aA,ai,au,a4⟩:=acT (P:=P) h aM x6 hm GY rR mP;exact WV (w':=w') (by simp[execOp,ai]) (ap _ _ ⟨phx,aA,au,a4,rfl⟩)
 case lookup t x i ok =>replace h:=g_ h ae;obtain⟨i0,mP,h⟩:=h;replace h:=g_ h ae;obtain⟨AW,rR,h⟩:=h;obtain⟨aB,r,ai,au⟩:=ata (P:=P) hv h hm mP rR;exact he (hr.of ai (dB.same hm aB au))
 case makeInterface t x =>replace h:=lY h;obtain⟨ty,ht,h⟩:=h;replace h:=adJ h;obtain⟨am,h⟩:=h;replace h:=g_ h ae;obtain⟨i0,mP,h⟩:=h;replace h:=aw.cH h;obtain⟨y,cY,O,h⟩:=h;cases h;obtain⟨cs,aD,aA,bE,W0,_,_,f2⟩:=Bs O hm mP;refine he ⟨.iface t (a.eval x),w,?_,phx,aA,bE,W0,cs,f2 rfl,by rw[aD]⟩;have:=ati (P:=P) (hT _ _ ht) (by simpa using am) (a.eval x) w;simp only[execOp];simp[this]
 case typeAssert x xT t1 ok =>replace h:=g_ h ae;obtain⟨i0,mP,h⟩:=h;obtain⟨aB,r,ai,au⟩:=ajC (P:=P) hT (xT:=xT) h mP w;exact he (hr.of ai (dB.same hm aB au))
 case call c=>
  obtain⟨QT,args,d?⟩:=c;cases QT<;>try(cases h;done)
  case builtin b=>
   obtain⟨a5,cY,O,R⟩:=aw.cH h;obtain⟨e,dm⟩:=yn ae O;rw[e]at R;have bc:(args.toList.map a.eval).toArray=args.map a.eval:=by apply B1;simp
   have key:∀cs,hr P K w0 phx M B w B' v (Go.builtin b d? type cs (args.map a.eval)):=λcs=>by obtain⟨r,w',ai,au⟩:=akl (P:=P) hT R hm dm type cs;rw[bc]at ai;exact⟨r,w',ai,au⟩
   exact he (key _)
  case value f=>
   replace h:=g_ h ae;obtain⟨auS,hf,h⟩:=h;obtain⟨a5,cY,O,R⟩:=aw.cH h;obtain⟨e,dm⟩:=yn ae O;rw[e]at R;have bc:(args.toList.map a.eval).toArray=args.map a.eval:=by apply B1;simp
   cases auS<;>try(cases R;done)
   case clo zH dU cZ=>
    obtain⟨us,az,hf⟩:=hf;obtain⟨v2,C7⟩:=QS (P:=P) dK R hm (Q4 az dm);refine OX hf v2 ?_;have jd:(us.take dU++(args.toList.map a.eval++us.drop dU)).toArray=(us.take dU).toArray++args.map a.eval++(us.drop dU).toArray:=by rw[<- bc];simp
    rw[<- jd];refine C7.mono ?_;rintro e w' ⟨bY,rfl,bc⟩;exact⟨bY,rfl,ap bY w' bc⟩
   case sc t x=>
    cases t<;>try(cases R;done)
    obtain⟨cs,mi,hf⟩:=hf;have:=aJ.F?.1 mi;subst this;obtain⟨zH,hfn,v2,C7⟩:=Zl (P:=P) dK R hm dm;have hf:a.eval f=.func (.func zH) #[] #[]:=by rw[hf];simp[cB,ag.isAgg,hfn]
    refine OX hf v2 ?_;have jd:(args.toList.map a.eval).toArray=#[]++args.map a.eval ++ #[]:=by rw[bc];simp
    rw[<- jd];refine C7.mono ?_;rintro e w' ⟨bY,rfl,bc⟩;exact⟨bY,rfl,ap bY w' bc⟩
end
end Yp
namespace Yp
open Go
def h0:=@List.append_assoc
def hc:=@List.mem_cons
def vv:=@List.mem_cons_of_mem
def px(g:Nat->av)(i:Nat)(v:av):Nat->av:=λj=>if j=i then v else g j
def dR.vW(f i:Nat):dR.mf f .e i=.bad:=by cases f<;>rfl
def jK(h:a=b):Nat.beq a b=true:=by subst h;exact Fj a
def hI(h:a≠b):Nat.beq a b=false:=by
 cases Y:Nat.beq a b with
 |false=>rfl
 |true=>exact absurd (fP Y) h
def dR.Gf:∀(f:Nat) (t:dR) (i j:Nat) (v:av),j≠i->(t.set f i v).mf f j=t.mf f j
 |0,t,i,j,v,h=>rfl
 |f+1,.e,i,j,v,h=>by
  simp only[dR.set];by_cases ac:i=0
  .rw[jK ac]
   simp only[cond,dR.mf];rw[hI (by omega:j≠0)];simp only[ dR.vW]
   grind
  rw[hI ac];by_cases hm:i%2=1
  .rw[jK hm]
   simp only[cond,dR.mf];by_cases ao:j=0
   .rw[jK ao]
   rw[hI ao];by_cases ap:j%2=1
   .rw[jK ap];simp only[dR.Gf f .e (i/2) (j/2) v J,dR.vW]
   rw[hI ap];simp only[dR.vW]
  rw[hI hm];simp only[cond,dR.mf];by_cases ao:j=0
  .rw[jK ao]
  rw[hI ao];by_cases ap:j%2=1
  .rw[jK ap];simp only[dR.vW]
  rw[hI ap];simp only[dR.Gf f .e (i/2-1) (j/2-1) v J,dR.vW]
 |f+1,.n w l r,i,j,v,h=>by
  simp only[dR.set];by_cases ac:i=0
  .rw[jK ac]
   simp only[cond,dR.mf];rw[hI (by omega:j≠0)]
  rw[hI ac];by_cases hm:i%2=1
  .rw[jK hm]
   simp only[cond,dR.mf];by_cases ao:j=0
   .rw[jK ao]
   rw[hI ao];by_cases ap:j%2=1
   .rw[jK ap];simp only[dR.Gf f l (i/2) (j/2) v J]
   rw[hI ap]
  rw[hI hm];simp only[cond,dR.mf];by_cases ao:j=0
  .rw[jK ao]
  rw[hI ao];by_cases ap:j%2=1
  .rw[jK ap]
  rw[hI ap];simp only[dR.Gf f r (i/2-1) (j/2-1) v J]
def dR.CU:∀(f:Nat) (t:dR) (i:Nat) (v:av),(t.set f i v).mf f i=v\/(t.set f i v).mf f i=.bad/\2^f<=i+1
 |0,t,i,v=>.inr ⟨rfl,bf⟩
 |f+1,.e,i,v=>by
  simp only[dR.set];by_cases ac:i=0
  .rw[jK ac];left;simp only[cond,dR.mf,jK ac]
  rw[hI ac];by_cases hm:i%2=1
  .rw[jK hm]
   simp only[cond,dR.mf,hI ac,jK hm];rcases dR.CU f .e (i/2) v with h|h
   .grind
   grind
  rw[hI hm];simp only[cond,dR.mf,hI ac,hI hm];rcases dR.CU f .e (i/2-1) v with h|h
  .grind
  grind
 |f+1,.n w l r,i,v=>by
  simp only[dR.set];by_cases ac:i=0
  .rw[jK ac];left;simp only[cond,dR.mf,jK ac]
  rw[hI ac];by_cases hm:i%2=1
  .rw[jK hm]
   simp only[cond,dR.mf,hI ac,jK hm];rcases dR.CU f l (i/2) v with h|h
   .grind
   grind
  rw[hI hm];simp only[cond,dR.mf,hI ac,hI hm];rcases dR.CU f r (i/2-1) v with h|h
  .grind
  grind
def aR.vV(s:aR)(v:av)(h:j≠i):(s.l3 i v).bW j=s.bW j:=dR.Gf 40 s.t i j v h
def aR.Ge(s:aR)(i:Nat)(v:av):(s.l3 i v).bW i=v\/(s.l3 i v).bW i=.bad:=(dR.CU 40 s.t i v).imp id (·.1)
def aR.aoK(s:aR)(v:av)(ac:i<1000000):(s.l3 i v).bW=px s.bW i v:=by
 funext j;unfold px;split
 .rename_i h;subst h
  rcases dR.CU 40 s.t j v with h|h
  .exact h
  omega
 rename_i h;exact s.vV v h
def adk:∀(l:List (Nat×aU)) (id:Nat) (b:aU) (j:Nat),qV (AY l id b) j=if j=id then b else qV l j
 |[],id,b,j=>by
  simp only[AY,qV];by_cases h:j=id
  .rw[jK h.symm,if_pos h];rfl
  rw[hI (zc h),if_neg h];rfl
 |(i,c)::l,id,b,j=>by
  simp only[AY];by_cases ac:i=id
  .rw[jK ac]
   simp only[cond,qV];by_cases h:j=id
   .rw[jK h.symm,if_pos h]
   rw[hI (zc h),if_neg h,hI J]
  rw[hI ac];simp only[cond,qV];by_cases h:i=j
  .rw[jK h,if_neg J]
  rw[hI h];exact adk l id b j
def aR.zL(s:aR)(id:Nat)(b:aU):(s.oc id b).aW=c6 s.aW id b:=by funext j;exact adk s.h id b j
def aR.nW(s:aR):∀l:List (Nat×aU),(s.em l).aW=dF s.aW l
 |[]=>rfl
 |(i,b)::l=>by rw[yu,<- aR.nW s l];exact aR.zL _ i b
def aR.qi(s:aR):∀l:List (Nat×aU),(s.em l).bW=s.bW
 |[]=>rfl
 |(i,b)::l=>aR.qi s l
def aR.VF(s:aR):∀l:List (Nat×aU),(s.em l).w=l.map (·.1)++s.w
 |[]=>rfl
 |(i,b)::l=>by show i::(s.em l).w=_;rw[aR.VF s l];rfl
def aS.fw{γ:Type}(t:aS α)(f:α->aS β)(k:β->aS γ):(t.bind f).bind k=t.bind λa=>(f a).bind k:=by
 induction t with
 |fail=>rfl
 |leaf a=>rfl
 |br c x y hx bs=>simp only[aS.bind,hx,bs]
 |chk c x hx=>simp only[aS.bind,hx]
 |bo d o g hg=>simp only[aS.bind,hg]
 |cs d e o kn hy hQ am az aj=>simp only[aS.bind,am,az,aj]
def aS.uS{β:Type}:Option β->aS β
 |some b=>.leaf b
 |none=>.fail
def aS.UD{o:Option β}{k:β->aS ρ}{r:ρ}(h:((aS.uS o).bind k).bI=some r):∃b,o=some b/\(k b).bI=some r:=by
 cases o with
 |none=>cases h
 |some b=>exact⟨b,rfl,h⟩
def aS.wE{α β:Type}(f:α->Option β):∀(t:aS α),(t.nu f)=t.bind λa=>aS.uS (f a)
 |.fail=>rfl
 |.leaf a=>by cases h:f a<;>simp only[aS.nu,aS.bind,aS.uS,h]
 |.br c x y=>by simp only[aS.nu,aS.bind,aS.wE f x,aS.wE f y]
 |.chk c x=>by simp only[aS.nu,aS.bind,aS.wE f x]
 |.bo d o k=>by simp only[aS.nu];congr;funext a;exact aS.wE f (k a)
 |.cs d e o kn hy hQ=>by
  simp only[aS.nu];congr
  .funext a;exact aS.wE f (kn a)
  .funext i a;exact aS.wE f (hy i a)
  funext a;exact aS.wE f (hQ a)
def k1{α:Type}:∀t:aS α,t.bind .leaf=t
 |.fail=>rfl
 |.leaf a=>rfl
 |.br c x y=>by simp only[aS.bind,k1 x,k1 y]
 |.chk c x=>by simp only[aS.bind,k1 x]
 |.bo d o k=>by simp only[aS.bind];congr;funext a;exact k1 (k a)
 |.cs d e o kn hy hQ=>by
  simp only[aS.bind];congr
  .funext a;exact k1 (kn a)
  .funext i a;exact k1 (hy i a)
  funext a;exact k1 (hQ a)
def aS.anG{d:α}{o:Option α}{k:α->aS β}{r:β}(h:(aS.bo d o k).bI=some r):∃a,o=some a/\(k a).bI=some r:=by
 cases o with
 |none=>cases h
 |some a=>exact⟨a,rfl,h⟩
def tZ(bp ax:aR):Prop:=(∀t,ax.bW t=bp.bW t\/ax.bW t=.bad\/∃ty x,ax.bW t=.sc ty x/\iM ty (bp.bW t)=some x)/\ax.aW=bp.aW
def tZ.refl(s:aR):tZ s s:=⟨λ_=>.inl rfl,rfl⟩
def tZ.trans{bp ax d_:aR}(h:tZ bp ax)(k:tZ ax d_):tZ bp d_:=by
 refine⟨λt => ?_,k.2.trans h.2⟩;rcases k.1 t with bD|bD|⟨ty,x,bD,b1⟩
 .rw[bD];exact h.1 t
 .grind
 rcases h.1 t with O|O|⟨ahX,vj,O,R⟩
 .grind
 .rw[O]at b1;cases b1
 rw[O]at b1;obtain⟨e,hx⟩:=vK b1
 grind
def dE.OL{phx:cd}{H:cf}{bp ax:aR}{a:Act}(h:dE phx H bp.aW bp.bW a)(bu:tZ bp ax):dE phx H ax.aW ax.bW a:=by
 intro t;rw[bu.2];rcases bu.1 t with k|k|⟨ty,x,bD,b1⟩
 .rw[k];exact h t
 .rw[k];trivial
 rw[bD];exact og b1 (h t)
def d5(D:List Nat)(s cv:aR):Prop:=(∀t,t∉D->cv.bW t=s.bW t)/\∃gc,cv.w=gc++s.w/\∀id,id∉gc->cv.aW id=s.aW id
def d5.refl(D:List Nat)(s:aR):d5 D s s:=⟨λ_ _=>rfl,[],rfl,λ_ _=>rfl⟩
def d5.trans{bp ax d_:aR}(h:d5 D bp ax)(k:d5 kE ax d_):d5 (D++kE) bp d_:=by
 obtain⟨O,gc,R,ai⟩:=h;obtain⟨bD,at0,b1,dy⟩:=k;refine⟨λt ht => ?_,at0++gc,by rw[b1,R,h0],λid hid => ?_⟩
 .grind
 grind
def d5.mono{s cv:aR}(h:d5 D s cv)(aI:∀t,t∈D->t∈kE):d5 kE s cv:=⟨λt ht=>h.1 t λah=>ht (aI t ah),h.2⟩
def d5.sub{E:List Nat}{bp ax d_:aR}(h:d5 D bp ax)(k:d5 kE ax d_)(aI:∀t,t∈D->t∈E)(C8:∀t,t∈kE->t∈E):d5 E bp d_:=
 (h.trans k).mono λt ht=>(iQ.1 ht).elim (aI t) (C8 t)
def d5.l3{s:aR}(i:Nat)(v:av)(h:i∈D):d5 D s (s.l3 i v):=
 ⟨λt ht=>s.vV v λe=>ht (e▸h),[],rfl,λ_ _=>rfl⟩
def d5.em{s:aR}(l:List (Nat×aU))(D:List Nat):d5 D s (s.em l):=by
 refine⟨λt _=>by rw[aR.qi],l.map (·.1),aR.VF s l,λid hid => ?_⟩;rw[aR.nW];have:∀(l:List (Nat×aU)) (d:aU),id∉l.map (·.1)->n7 l id d=d:=by
  intro l d h;induction l with
  |nil=>rfl
  |cons p l ih=>
   simp only[qz,hc,not_or]at h;simp only[n7];rw[hI (zc h.1)]
   grind
 exact this l _ hid
def WT:∀(l:List Nat) (s:aR),∃cv:aR,cv.aW=s.aW/\cv.w=s.w/\(∀t,t∉l->cv.bW t=s.bW t)/\(∀t,t∈l->cv.bW t=.bad)/\(∀(γ:Type 1) (k:aR->γ),Jq s l k=k cv)
 |[],s=>⟨s,rfl,rfl,λ_ _=>rfl,λt h=>by simp at h,λ_ _=>rfl⟩
 |i::l,s=>by
  obtain⟨cv,O,R,ai,au,a4⟩:=WT l (s.l3 i .bad);refine⟨cv,O,R,λt ht => ?_,λt ht => ?_,λγ k => ?_⟩
  .simp at ht
   rw[ai t ht.2,s.vV _ ht.1]
  .by_cases hl:t∈l
   .grind
   have:t=i:=by simpa[hl]using ht
   subst this;rw[ai t hl];rcases s.Ge t .bad with h|h<;>exact h
  simp only[Jq,aR.IJ];exact a4 γ k
def ZD(l:List aR):∀(keep:List Nat),∃ks:List (Nat×ag),(∀p∈ks,p.1∈keep)/\∀(γ:Type 1) (k:List (Nat×ag)->γ),xF l keep k=k ks
 |[]=>⟨[],λp h=>by simp at h,λ_ _=>rfl⟩
 |i::keep=>by
  obtain⟨ks,O,R⟩:=ZD l keep;cases l with
  |nil=>exact⟨[],λp h=>by simp at h,λ_ _=>rfl⟩
  |cons s m=>
   cases ht:WA (s.bW i) with
   |none=>exact⟨ks,λp hp=>vv _ (O p hp),λγ k=>by simp only[xF,ht];exact R γ k⟩
   |some t=>
    cases ah:m.all (agy i t) with
    |true=>
     refine⟨(i,t)::ks,λp hp => ?_,λγ k => ?_⟩
     .grind
     simp only[xF,ht];rw[ah];rw[R];exact K' t _
    |false=>
     refine⟨ks,λp hp=>vv _ (O p hp),λγ k => ?_⟩;simp only[xF,ht]
     grind
def agI:∀(ks:List (Nat×ag)) (p:CA ks) (s:aR),∃cv:aR,cv.aW=s.aW/\cv.w=s.w/\(∀t,t∉ks.map (·.1)->cv.bW t=s.bW t) /\
  (∀bp:aR,qI bp ks=some p->∀t,t∈ks.map (·.1)->cv.bW t=.bad\/∃ty x,cv.bW t=.sc ty x/\iM ty (bp.bW t)=some x)/\(∀(γ:Type 1) (k:aR->γ),NY s k ks p=k cv)
 |[],p,s=>⟨s,rfl,rfl,λ_ _=>rfl,λ_ _ t h=>by simp at h,λ_ _=>rfl⟩
 |(i,ty)::ks,p,s=>by
  obtain⟨cv,O,R,ai,au,a4⟩:=agI ks p.2 (s.l3 i (.sc ty p.1));refine⟨cv,O,R,λt ht => ?_,λbp ae t ht => ?_,λγ k => ?_⟩
  .simp only[qz,hc,not_or]at ht
   rw[ai t ht.2,s.vV _ ht.1]
  .have hg:iM ty (bp.bW i)=some p.1/\qI bp ks=some p.2:=by
    simp only[qI]at ae;cases bc:iM ty (bp.bW i) with
    |none=>rw[bc]at ae;cases ae
    |some x=>
     cases Y:qI bp ks with
     |none=>rw[bc,Y]at ae;cases ae
     |some y=>rw[bc,Y]at ae;cases ae;exact⟨rfl,rfl⟩
   by_cases hl:t∈ks.map (·.1)
   .exact au bp hg.2 t hl
   have:t=i:=by simpa[hl]using ht
   subst this;rw[ai t hl];rcases s.Ge t (.sc ty p.1) with h|h
   .exact .inr ⟨ty,p.1,h,hg.1⟩
   exact .inl h
  simp only[NY,aR.IJ];exact a4 γ k
def JE(D:List Nat)(s bp:aR):Prop:=
 (∀t,t∉D->s.bW t=bp.bW t\/∃ty x,s.bW t=.sc ty x/\iM ty (bp.bW t)=some x)/\∃gc,bp.w=gc++s.w/\∀id,id∉gc->bp.aW id=s.aW id
def d5.aov{s bp:aR}(h:d5 D s bp):JE D s bp:=⟨λt ht=>.inl (h.1 t ht).symm,h.2⟩
def TL{s:aR}{all keep:List Nat}(ap:∀t,t∈keep->t∈all){t:aS aR}{k:aR->aS ρ}{r:ρ}(h:((Hn s all keep t).bind k).bI=some r):
  (t.bind k).bI=some r \/
  ∃(ks:List (Nat×ag)) (p:CA ks),(t.bind λbp=>aS.uS (bif Nat.beq bp.w.length s.w.length then qI bp ks else none)).bI=some p /\
   ∀bp,JE all s bp->bp.w.length=s.w.length->qI bp ks=some p->∃ax,tZ bp ax/\d5 all s ax/\(k ax).bI=some r:=by
 unfold Hn at h;rw[aS.adc]at h;cases ah:t.oK.all (λcv=>Nat.beq cv.w.length s.w.length) with
 |false=>rw[ah]at h;exact .inl h
 |true=>
  rw[ah,cond_true]at h;obtain⟨ks,aqT,ap3⟩:=ZD t.oK keep;rw[ap3]at h;cases bh:Nat.beq ks.length 0 with
  |true=>rw[bh,cond_true]at h;exact .inl h
  |false=>
   rw[bh,cond_false]at h;simp only[aS.bind]at h;obtain⟨p,hp,h⟩:=aS.anG h;rw[aS.wE]at hp;refine .inr ⟨ks,p,hp,λbp hf bu hg => ?_⟩;obtain⟨cv,ck,cR,ft,hX,BI⟩:=WT all s;obtain⟨ax,bD,b1,dy,gb,gN⟩:=agI ks p cv;rw[BI,gN]at h;have aB:bp.aW=s.aW:=by
    obtain⟨_,gc,O,R⟩:=hf;have:gc=[]:=by have:=congrArg List.length O;rw[db]at this;exact lJ.1 J
    subst this;funext id;exact R id bf
   have aqS:∀t,t∈ks.map (·.1)->t∈all:=λt ht=>by obtain⟨q,a_,rfl⟩:=zh.1 ht;exact ap _ (aqT q a_)
   refine⟨ax,⟨λt => ?_,by rw[bD,ck,aB]⟩,⟨λt De => ?_,[],by rw[b1,cR];rfl,λid _=>by rw[bD,ck]⟩,h⟩
   .by_cases aca:t∈ks.map (·.1)
    .rcases gb bp hg t aca with h|h
     .exact .inr (.inl h)
     exact .inr (.inr h)
    rw[dy t aca];by_cases De:t∈all
    .exact .inr (.inl (hX t De))
    rw[ft t De];rcases hf.1 t De with h|h
    .exact .inl h
    exact .inr (.inr h)
   rw[dy t λah=>De (aqS t ah),ft t De]
def xn:=@List.mem_filter
def PA:=@Nat.testBit_or
def Pa:=@Bool.true_and
structure fe where
 i:Nat
 o:Oper
 v:av
 al:Bool
 rb:List Nat
 wr:List (Nat×aU)
def lg(g:Nat->av)(c7:Option Nat)(v:av):Nat->av:=match c7 with|some d=>px g d v|none=>g
def jH(s:aR)(c7:Option Nat)(v:av):aR:=match c7 with|some d=>s.l3 d v|none=>s
def fl:List fe->(Nat->Bool)->(Nat->av)->Nat->av
 |[],_,g=>g
 |e::bv,L,g=>fl bv L (bif L e.i then lg g e.o.dst e.v else g)
def en:List fe->(Nat->Bool)->(Nat->aU)->Nat->aU
 |[],_,B=>B
 |e::bv,L,B=>en bv L (bif L e.i then dF B e.wr else B)
def xr(ops:List Oper)(o:Oper)(g:Nat->av):Prop:=o.guard=none\/∃j l7 d,o.guard=some (j,l7)/\(ops[j]?).bind (·.dst)=some d/\g d=.kb l7
def E9(ops:List Oper)(o:Oper)(g:Nat->av):Prop:=∃j l7 d,o.guard=some (j,l7)/\(ops[j]?).bind (·.dst)=some d/\(g d=.kb (!l7)\/g d=.undef)
def sy(fC v:av):Prop:=v=fC\/∃c,fC=.sc .bool c/\v=.kb c
def RZ(g:Nat->av):Operand->av
 |.tmp t=>g t
 |.func f=>.clo f 0 []
 |_=>.bad
def xd(E:dl)(ops:List Oper)(o:Oper)(g:Nat->av)(B:Nat->aU)(fC:av)(rb:List Nat)(wr:List (Nat×aU)):Prop:=
 ∃(F dU:Nat) (cZ:List iP) (sU:gA) (a5:List av) (s ax:aR) (f:Operand) (args:Array Operand) (d?:Array TypeId) (b8:Nat),o.op=.call ⟨.value f,args,d?⟩/\E.I F=some sU/\Ve ops o f=true/\RZ g f=.clo F dU cZ /\
  (∀bm b2,(∀t,Nat.testBit (kU ops o) t=true->bm t=g t)->(mm eu args.toList).a2 bm b2=some (a5,b2))/\(∀id,id∈nr s++wr.map (·.1)->s.aW id=B id)/\FQ s (vL dU cZ a5)=true/\(sU b8 (vL dU cZ a5) s).bI=some (fC,ax)/\wr=nC s ax/\rb=nr s
def JC(E:dl)(ops:List Oper)(nt:Nat)(dx:Bool)(g:Nat->av)(B:Nat->aU)(e:fe):Prop:=
 (∀d,e.o.dst=some d->d<nt) /\
 ((xr ops e.o g/\∃fC,sy fC e.v/\(r6 E e.o).a2 g B=some (fC,dF B e.wr) /\
  (dx=true->∀bm b2,(∀t,Nat.testBit (kU ops e.o) t=true->bm t=g t)->(∀id,id∈e.rb->b2 id=B id)->(r6 E e.o).a2 bm b2=some (fC,dF b2 e.wr))) \/
  (E9 ops e.o g/\e.v=.undef/\e.wr=[]/\e.rb=[]) \/
  (dx=true/\xr ops e.o g/\∃fC,sy fC e.v/\xd E ops e.o g B fC e.rb e.wr))
def xq(E:dl)(ops:List Oper)(nt:Nat)(dx:Bool):List fe->(Nat->av)->(Nat->aU)->Prop
 |[],_,_=>True
 |e::bv,g,B=>JC E ops nt dx g B e/\xq E ops nt dx bv (lg g e.o.dst e.v) (dF B e.wr)
def nU:List fe->List o2
 |[]=>[]
 |e::bv=>(match e.al,e.rb,e.wr with|false,[],[]=>nU bv|_,_,_=>⟨e.i,e.al,e.rb,e.wr.map (·.1)⟩::nU bv)
def aw.afU(s:aR)(m:aw α):∀(fA:Nat) (fs:List Nat) (wr:List (Nat×aU)) (k:α×O9->aS β) (r:β),((m.run s fA fs wr).bind k).bI=some r ->
  ∃a e,(k (a,e)).bI=some r/\m.a2 s.bW (dF s.aW wr)=some (a,dF s.aW e.wr) /\
   (∀bm b2,(∀t,Nat.testBit e.rt t=true->bm t=s.bW t)->(∀id,id∈e.rb->b2 id=s.aW id)->m.a2 bm (dF b2 wr)=some (a,dF b2 e.wr)) /\
   (∀t,Nat.testBit fA t=true->Nat.testBit e.rt t=true)/\(∀id,id∈fs->id∈e.rb):=by
 induction m with
 |fail=>intro fA fs wr k r h;cases h
 |ret a=>intro fA fs wr k r h;exact⟨a,_,h,rfl,λ_ _ _ _=>rfl,λ_ h=>h,λ_ h=>h⟩
 |chk c m ih=>
  intro fA fs wr k r h;simp only[aw.run,aS.bind,aS.bI,ak,aw.a2]at h ⊢;cases c with
  |true=>simpa using ih fA fs wr k r h
  |false=>cases h
 |br c x y hx bs=>
  intro fA fs wr k r h;simp only[aw.run,aS.bind,aS.bI,T,aw.a2]at h ⊢;cases c with
  |true=>simpa using hx fA fs wr k r h
  |false=>simpa using bs fA fs wr k r h
 |bo d o m ih=>
  intro fA fs wr k r h;cases o with
  |some a=>exact ih a fA fs wr k r h
  |none=>cases h
 |rt i m ih =>intro fA fs wr k r h;obtain⟨a,e,O,R,ai,au,a4⟩:=ih (s.bW i) (fA|||2^i) fs wr k r h;have ac:Nat.testBit e.rt i=true:=au i (by simp[PA]);refine⟨a,e,O,R,λbm b2 hg Y => ?_,λt ht=>au t (by simp[PA,ht]),a4⟩;simp only[aw.a2];rw[hg i ac];exact ai bm b2 hg Y
 |rb i m ih=>
  intro fA fs wr k r h;obtain⟨a,e,O,R,ai,au,a4⟩:=ih (n7 wr i (s.aW i)) fA (i::fs) wr k r h;have ac:i∈e.rb:=a4 i bf;refine⟨a,e,O,R,λbm b2 hg Y => ?_,au,λid hid=>a4 id (by simp[hid])⟩;simp only[aw.a2];have:dF b2 wr i=n7 wr i (s.aW i):=by unfold dF;rw[Y i ac]
  rw[this];exact ai bm b2 hg Y
 |eY i b m ih=>
  intro fA fs wr k r h;obtain⟨a,e,O,R,ai,au,a4⟩:=ih fA fs ((i,b)::wr) k r h;refine⟨a,e,O,?_,λbm b2 hg Y => ?_,au,a4⟩
  .simp only[aw.a2];rw[<- yu];exact R
  simp only[aw.a2];rw[<- yu];exact ai bm b2 hg Y
def vb{c7:Option Nat}{s:aR}{v:av}{yf:aR->aS α}{k:α->aS β}{r:β}(h:((iK nt c7 s v yf).bind k).bI=some r):
  (∀d,c7=some d->d<nt)/\((yf (jH s c7 v)).bind k).bI=some r:=by
 cases c7 with
 |none=>exact⟨λd h=>by(cases h),h⟩
 |some d=>
  simp only[iK]at h;cases aI:Nat.blt d nt with
  |false=>rw[aI]at h;cases h
  |true =>rw[aI,aR.IJ]at h;exact⟨λxH bB=>by cases bB;simpa using aI,h⟩
def r9{s:aR}{c7:Option Nat}{v:av}(eD:nt<=1000000)(aI:∀d,c7=some d->d<nt):(jH s c7 v).bW=lg s.bW c7 v:=by
 cases c7 with
 |none=>rfl
 |some d=>exact s.aoK v (iF (aI d rfl) eD)
def lA{s:aR}{c7:Option Nat}{v:av}:(jH s c7 v).aW=s.aW:=by cases c7<;>rfl
def M0{s:aR}{c7:Option Nat}{v:av}:(jH s c7 v).w=s.w:=by cases c7<;>rfl
def wJ{s:aR}{c7:Option Nat}{v:av}(h:∀d,c7=some d->d∈D):d5 D s (jH s c7 v):=by
 cases c7 with
 |none=>exact d5.refl D s
 |some d=>exact d5.l3 d v (h d rfl)
def abq{ops:List Oper}{o:Oper}{s:aR}{F4 skip:aS aR}{k:aR->aS ρ}{r:ρ}(h:((Lw ops o s F4 skip).bind k).bI=some r):
  (xr ops o s.bW/\(F4.bind k).bI=some r)\/(E9 ops o s.bW/\(skip.bind k).bI=some r):=by
 unfold Lw at h;cases hg:o.guard with
 |none=>rw[hg]at h;exact .inl ⟨.inl hg,h⟩
 |some asM=>
  obtain⟨j,l7⟩:=asM;rw[hg]at h;simp only at h;cases aI:(ops[j]?).bind (·.dst) with
  |none=>rw[aI]at h;cases h
  |some g=>
   rw[aI]at h;simp only at h;cases aD:s.bW g<;>rw[aD]at h<;>try(cases h;done)
   .exact .inr ⟨⟨j,l7,g,hg,aI,.inr aD⟩,h⟩
   rename_i b;cases b<;>cases l7
   .exact .inl ⟨.inr ⟨j,_,g,hg,aI,aD⟩,h⟩
   .exact .inr ⟨⟨j,_,g,hg,aI,.inl aD⟩,h⟩
   .exact .inr ⟨⟨j,_,g,hg,aI,.inl aD⟩,h⟩
   exact .inl ⟨.inr ⟨j,_,g,hg,aI,aD⟩,h⟩
def ue(o:Oper)(rest:List Oper):(∀d,o.dst=some d->d∈er (o::rest))/\∀t,t∈er rest->t∈er (o::rest):=by
 cases aI:o.dst with
 |none=>
  have e:er (o::rest)=er rest:=by simp only[er,aI]
  grind
 |some d=>
  have e:er (o::rest)=d::er rest:=by simp only[er,aI]
  grind
def Ya{v:av}(h:t9 v=some c):v=.sc .bool c:=by
 unfold t9 at h;split at h
 .cases h;rfl
 cases h
def E8(E:dl)(ops:List Oper)(nt:Nat)(dx:Bool)(i:Nat)(l:List Oper)(s:aR)(hN:List o2)(ax:aR):Prop:=
 ∃(bv:List fe) (bp:aR),bv.map (·.i)=List.range' i l.length/\bv.map (·.o)=l/\xq E ops nt dx bv s.bW s.aW/\bp.bW=fl bv (λ_=>true) s.bW/\bp.aW=en bv (λ_=>true) s.aW /\
  tZ bp ax/\d5 (er l) s ax/\(dx=true->Ir ops=true/\q6 (mb ops []) (hN.reverse++nU bv)=true)
def aaT{e:fe}{bv:List fe}{hN:List o2}{b:List Nat}(bc:e.al=false)(h:q6 b ((rE true e.i e.rb e.wr hN).reverse++nU bv)=true):q6 b (hN.reverse++nU (e::bv))=true:=by cases aj:e.rb<;>cases bu:e.wr<;>simp only[rE,bc,aj,bu,cond,nU,List.reverse_cons,h0]at h ⊢ <;> exact h
def VA{E:dl}{ops:List Oper}{o:Oper}{rest:List Oper}{s kz:aR}{hN aaV:List o2}{ax:aR}{e:fe}(eD:nt<=1000000)(ac:e.i=i)(aO:e.o=o)(jg:JC E ops nt dx s.bW s.aW e)
  (hT:kz.bW=lg s.bW o.dst e.v) (aB:kz.aW=dF s.aW e.wr) (dp:d5 (er (o::rest)) s kz)
  (aqB:dx=true->∀(b:List Nat) (bv:List fe),q6 b (aaV.reverse++nU bv)=true->q6 b (hN.reverse++nU (e::bv))=true) (h:E8 E ops nt dx (i+1) rest kz aaV ax):E8 E ops nt dx i (o::rest) s hN ax:=by
 obtain⟨bv,bp,O,R,ai,au,a4,cQ,eh,cy⟩:=h;have aI:=ue o rest;refine⟨e::bv,bp,?_,?_,⟨jg,?_⟩,?_,?_,cQ,dp.sub eh (λt h=>h) aI.2,λf?=>⟨(cy f?).1,aqB f? _ bv (cy f?).2⟩⟩
 .simp only[qz,ac,O,fQ,List.range'_succ]
 .grind
 .grind
 .simp only[fl,aO,<- hT];exact au
 simp only[en,<- aB];exact a4
def aS.xN{α β:Type}{k:α->aS β}{r:β}:∀(t:aS α),(t.bind k).bI=some r->∃a,t.bI=some a/\(k a).bI=some r
 |.leaf a,h=>⟨a,rfl,h⟩
 |.br c x y,h=>by
  cases c with
  |true=>exact aS.xN x h
  |false=>exact aS.xN y h
 |.chk c x,h=>by
  cases c with
  |true=>exact aS.xN x h
  |false=>cases h
 |.bo d o f,h=>by
  cases o with
  |none=>cases h
  |some a=>exact aS.xN (f a) h
 |.cs d e o kn hy hQ,h=>by
  cases o with
  |none=>cases h
  |some l=>
   cases l with
   |nx a=>exact aS.xN (kn a) h
   |ex i a=>exact aS.xN (hy i a) h
   |rt a=>exact aS.xN (hQ a) h
def aot(s:aR)(f:Operand):CR s f=RZ s.bW f:=by cases f<;>rfl
def asx{E:dl}{ops:List Oper}{o:Oper}{s:aR}{t:aS (av×aR)}{p:av×aR}(h:L6 E ops o s=some t)(hp:t.bI=some p):xd E ops o s.bW s.aW p.1 (nr s) (nC s p.2):=by
 unfold L6 at h;split at h
 .rename_i f args d? s1
  split at h
  .rename_i F dU cZ hf
   split at h
   .rename_i sU dZ
    cases h;rw[<- k1 (aS.bind _ _),aS.fw]at hp;obtain⟨a5,gE,O,R,ai,_,_⟩:=aw.afU s (mm eu args.toList) 0 [] [] _ p hp;rw[k1]at O;cases ah:(Nat.beq (gE.rt|||kU ops o) (kU ops o)&&(adS gE.wr&&(adR gE.rb&&(Ve ops o f&&FQ s (vL dU cZ a5))))) with
    |false=>rw[ah]at O;cases O
    |true=>
     rw[ah]at O;simp only[cM]at ah;obtain⟨c1,c2,c4,hd,c5⟩:=ah;have uy:gE.rb=[]:=by
      cases bu:gE.rb with
      |nil=>rfl
      |cons x y=>rw[bu]at c4;cases c4
     have Dg:gE.wr=[]:=by
      cases bu:gE.wr with
      |nil=>rfl
      |cons x y=>rw[bu]at c2;cases c2
     refine⟨F,dU,cZ,sU,a5,s,p.2,f,args,d?,_,s1,dZ,hd,by rw[<- aot];exact hf,λbm b2 hg => ?_,λ_ _=>rfl,c5,O,rfl,rfl⟩;have G1:∀t,Nat.testBit gE.rt t=true->Nat.testBit (kU ops o) t=true:=λt ht=>by
      have:=fP c1
      grind
     have:=ai bm b2 (λt ht=>hg t (G1 t ht)) (λid hid=>by rw[uy]at hid;cases hid);rw[Dg]at this;exact this
   cases h
  cases h
 cases h
def afP{E:dl}{ops:List Oper}(eD:nt<=1000000):∀(l:List Oper) (top:Bool) (i:Nat) (s:aR) (hN:List o2) {ρ:Type} (k:aR->aS ρ) (r:ρ),
  ((oS E ops nv nt dx top i l s hN).bind k).bI=some r->∃ax,E8 E ops nt dx i l s hN ax/\(k ax).bI=some r:=by
 intro l;induction l with
 |nil=>
  intro top i s hN ρ k r h;simp only[oS]at h;cases ah:(!dx||(Ir ops&&q6 (mb ops []) hN.reverse)) with
  |false=>rw[ah]at h;cases h
  |true =>rw[ah]at h;refine⟨s,⟨[],s,rfl,rfl,trivial,rfl,rfl,tZ.refl s,d5.refl _ s,λaI => ?_⟩,h⟩;subst aI;simp at ah;exact⟨ah.1,by simpa[nU]using ah.2⟩
 |cons o rest ih=>
  intro top i s hN ρ k r h;have aI:=ue o rest;rcases abq h with⟨bu,h⟩|⟨bu,h⟩
  .cases fb:(bif dx then L6 E ops o s else none) with
   |some t=>
    rw[fb]at h;rw[aS.fw]at h;obtain⟨p,hp,h⟩:=aS.xN _ h;cases f?:dx with
    |false=>rw[f?]at fb;cases fb
    |true=>
    rw[f?]at fb;have jg:=asx fb hp;cases ab2:Nat.testBit (xX ops) i with
    |true=>rw[ab2]at h;cases h
    |false=>
    rw[ab2]at h;simp only[aR.II,xP]at h;obtain⟨gx,h⟩:=vb h;obtain⟨ax,aj,ap⟩:=ih top (i+1) _ _ k r h;subst f?;refine⟨ax,VA (e:=⟨i,o,p.1,false,nr s,nC s p.2⟩) eD rfl rfl ⟨gx,.inr (.inr ⟨rfl,bu,p.1,.inl rfl,jg⟩)⟩ ?_ ?_ ?_ ?_ aj,ap⟩
    .rw[r9 eD gx,aR.qi]
    .rw[lA,aR.nW]
    .exact(d5.em _ _).sub (wJ aI.1) (λt h=>h) (λt h=>h)
    intro _ b bv h;exact aaT (e:=⟨i,o,p.1,false,nr s,nC s p.2⟩) rfl h
   |none=>
   rw[fb]at h;rw[aS.fw]at h;obtain⟨v,gE,h,rK,GT,_,_⟩:=aw.afU s (r6 E o) 0 [] [] _ r h;simp only[aR.II,xP]at h;cases hO:(dx && !(Nat.beq (gE.rt|||kU ops o) (kU ops o))) with
   |true=>rw[hO]at h;cases h
   |false=>
    rw[hO,cond_false]at h;have G1:dx=true->∀t,Nat.testBit gE.rt t=true->Nat.testBit (kU ops o) t=true:=by intro f? t ht;subst f?;simp only[Pa,Bool.not_eq_false']at hO;have:=fP hO;rw[<- this];simp[PA,ht]
    have aqW:dx=true->∀bm b2,(∀t,Nat.testBit (kU ops o) t=true->bm t=s.bW t)->(∀id,id∈gE.rb->b2 id=s.aW id)->(r6 E o).a2 bm b2=some (v,dF b2 gE.wr):=
     λf? bm b2 hg Y=>GT bm b2 (λt ht=>hg t (G1 f? t ht)) Y
    have anH:∀c9,sy v c9->(∀d,o.dst=some d->d<nt)->JC E ops nt dx s.bW s.aW ⟨i,o,c9,false,gE.rb,gE.wr⟩:=λc9 ae gx=>⟨gx,.inl ⟨bu,v,ae,rK,aqW⟩⟩;have arB:(s.em gE.wr).bW=s.bW:=aR.qi s _;have arA:(s.em gE.wr).aW=dF s.aW gE.wr:=aR.nW s _;have aof:∀c9,dx=true->∀(b:List Nat) (bv:List fe),q6 b ((rE dx i gE.rb gE.wr hN).reverse++nU bv)=true->q6 b (hN.reverse++nU (⟨i,o,c9,false,gE.rb,gE.wr⟩::bv))=true:=by intro c9 f? b bv h;subst f?;exact aaT (e:=⟨i,o,c9,false,gE.rb,gE.wr⟩) rfl h
    have y1:∀(c9:av) (Bt:Bool) {ρ:Type} (k:aR->aS ρ) (r:ρ),sy v c9->((iK nt o.dst (s.em gE.wr) c9 λs=>oS E ops nv nt dx Bt (i+1) rest s (rE dx i gE.rb gE.wr hN)).bind k).bI=some r ->
      ∃ax,E8 E ops nt dx i (o::rest) s hN ax/\(k ax).bI=some r/\d5 (er rest) (jH (s.em gE.wr) o.dst c9) ax/\(∀d,o.dst=some d->d<nt):=by
     intro c9 Bt ρ k r ae h;obtain⟨gx,h⟩:=vb h;obtain⟨ax,aj,ap⟩:=ih Bt (i+1) _ _ k r h;refine⟨ax,VA eD rfl rfl (anH c9 ae gx) ?_ ?_ ?_ (aof c9) aj,ap,?_,gx⟩
     .rw[r9 eD gx,arB]
     .rw[lA,arA]
     .exact(d5.em gE.wr _).sub (wJ aI.1) (λt h=>h) (λt h=>h)
     obtain⟨bv,bp,_,_,_,_,_,_,eh,_⟩:=aj;exact eh
    cases hg:(Nat.testBit (xX ops) i&&(t9 v).isSome) with
    |false =>rw[hg,cond_false]at h;obtain⟨ax,O,R,_⟩:=y1 v top k r (.inl rfl) h;exact⟨ax,O,R⟩
    |true=>
     rw[hg,cond_true]at h;cases Y:t9 v with
     |none=>rw[Y]at h;cases h
     |some c=>
      rw[Y]at h;have aD:=Ya Y;have two:∀{ρ:Type} (k:aR->aS ρ) (r:ρ),((aS.br c (iK nt o.dst (s.em gE.wr) (.kb true) λs=>oS E ops nv nt dx false (i+1) rest s (rE dx i gE.rb gE.wr hN)) (iK nt o.dst (s.em gE.wr) (.kb false) λs=>oS E ops nv nt dx false (i+1) rest s (rE dx i gE.rb gE.wr hN))).bind k).bI=some r ->
        ∃ax,E8 E ops nt dx i (o::rest) s hN ax/\(k ax).bI=some r/\d5 (er rest) (jH (s.em gE.wr) o.dst (.kb c)) ax/\(∀d,o.dst=some d->d<nt):=by
       intro ρ k r h;cases c with
       |true=>exact y1 (.kb true) false k r (.inr ⟨true,aD,rfl⟩) h
       |false=>exact y1 (.kb false) false k r (.inr ⟨false,aD,rfl⟩) h
      cases top with
      |false =>obtain⟨ax,O,R,_⟩:=two k r h;exact⟨ax,O,R⟩
      |true=>
       obtain⟨gx,h⟩:=vb h;rcases TL (λt ht=>(xn.1 ht).1) h with h|⟨ks,p,hp,hrest⟩
       .obtain⟨ax,O,R,_⟩:=two k r h
        exact⟨ax,O,R⟩
       obtain⟨ax,⟨bv,bp,bG,ca,cr,du,eW,lh,qb,kx⟩,R,ai,_⟩:=two _ p hp;obtain⟨fW,p4,ji⟩:∃fW,(bif Nat.beq ax.w.length (jH (s.em gE.wr) o.dst (.sc .bool c)).w.length then qI ax ks else none)=some fW/\(aS.leaf fW).bI=some p:=by
        have um:((aS.uS (bif Nat.beq ax.w.length (jH (s.em gE.wr) o.dst (.sc .bool c)).w.length then qI ax ks else none)).bind aS.leaf).bI=some p:=by rw[k1];exact R
        exact aS.UD um
       cases ji;cases b9:Nat.beq ax.w.length (jH (s.em gE.wr) o.dst (.sc .bool c)).w.length with
       |false=>rw[b9]at p4;cases p4
       |true=>
        rw[b9,cond_true]at p4;have ST:JE (er rest) (jH (s.em gE.wr) o.dst (.sc .bool c)) ax:=by
         obtain⟨f1,gc,f2,f3⟩:=ai;refine⟨λt ht => ?_,gc,by rw[f2,M0,M0],λid hid=>by rw[f3 id hid,lA,lA]⟩;rw[f1 t ht,r9 eD gx,r9 eD gx];cases aqf:o.dst with
         |none=>exact .inl rfl
         |some d=>
          by_cases Ab:t=d
          .right
           refine⟨.bool,c,by simp[lg,px,Ab],?_⟩;simp only[lg,px,Ab];rfl
          left;simp[lg,px,Ab]
        obtain⟨d_,ck,cR,ft⟩:=hrest ax ST (fP b9) p4;refine⟨d_,⟨bv,bp,bG,ca,cr,du,eW,lh.trans ck,?_,kx⟩,ft⟩;exact((d5.em gE.wr _).sub (wJ aI.1) (λt h=>h) (λt h=>h)).sub cR (λt h=>h) aI.2
  obtain⟨gx,h⟩:=vb h;obtain⟨ax,aj,ap⟩:=ih top (i+1) _ hN k r h;refine⟨ax,VA (e:=⟨i,o,.undef,false,[],[]⟩) eD rfl rfl ⟨gx,.inr (.inl ⟨bu,rfl,rfl,rfl⟩)⟩ ?_ ?_ (wJ aI.1) (λ_ b bv h=>h) aj,ap⟩
  .rw[r9 eD gx]
  rw[lA];rfl
end Yp
namespace Yp
open Go
def qw:=@List.mem_singleton
def zb:=@List.not_mem_nil
def zm:=@List.mem_flatMap
section
variable {phx phx':cd} {H H':cf} {B B':Nat->aU}
def jZ.iy:∀{l:List iP} {vs:List Value},(∀id,id∈ti l->(B id).iZ=true->phx' id=phx id)->H.cc H'->(∀id,id∈ti l->(B id).cc (B' id))->jZ phx H B l vs->jZ phx' H' B' l vs
 |[],_,_,_,_,h=>h
 |.iX t x::l,vs,d4,cD,aB,⟨v,ei,h,⟨cs,O,R⟩,ai⟩=>⟨v,ei,h,⟨cs,O.mono cD,R⟩,jZ.iy (l:=l) d4 cD aB ai⟩
 |.ptr id p::l,vs,d4,cD,aB,⟨v,ei,h,O,ai⟩=>by
  refine⟨v,ei,h,?_,jZ.iy (l:=l) (λj ao=>d4 j (by simp[ti,ao])) cD (λj ao=>aB j (by simp[ti,ao])) ai⟩;have Y:=aB id (by simp[ti]);have hf:=d4 id (by simp[ti]);simp only[vA]at O ⊢;cases j6:B id<;>cases hb1:B' id<;>simp only[j6,hb1,aU.iZ]at Y hf O ⊢ <;> try(first|exact O.elim|exact Y.elim|trivial)
  all_goals first
   |(subst Y;rw[hf trivial];exact O)
   |(obtain⟨b,o,n,bj,bm⟩:=O;exact⟨b,o,n,(hf trivial).trans bj,bm⟩)
   | (
    obtain⟨b,o,n,off,t',bj,bm,cW⟩:=O;exact⟨b,o,n,(hf trivial).trans bj,λhp=>by subst hp;simp only[ag.et,kY,lk]at bm;rw[cW,<- bm.1];rfl⟩)
def jZ.old:∀{l:List iP} {vs:List Value},jZ phx H B l vs->∀id,id∈ti l->B id ≠ .new
 |.iX t x::l,vs,⟨v,ei,h,_,ai⟩,id,ac=>jZ.old (l:=l) ai id ac
 |.ptr j p::l,vs,⟨v,ei,h,O,ai⟩,id,ac=>by
  simp only[ti,hc]at ac;rcases ac with rfl|ac
  .intro am;simp only[vA,am]at O
  exact jZ.old (l:=l) ai id ac
def bJ.iy{pv:av}(d4:∀id,id∈dV pv->(B id).iZ=true->phx' id=phx id)(cD:H.cc H')(aB:∀id,id∈dV pv->(B id).cc (B' id)){v:Value}(h:bJ phx H B pv v):bJ phx' H' B' pv v:=by
 have key:∀yb:Nat,(∀id,id∈dV pv->id=yb)->yb∈dV pv->bJ phx' H' B' pv v:=λyb O R=>by
  have arr:∀id,(B id).iZ=true->(λj=>if j=yb then phx' j else phx j) id=phx id:=λid hl=>by
   grind
  have kN:∀id,(B id).cc ((λj=>if j=yb then B' j else B j) id):=λid=>by
   by_cases ac:id=yb
   .grind
   simp[ac,aU.cc.refl]
  have:=bJ.mono (phx':=λj=>if j=yb then phx' j else phx j) (H':=H') (B':=λj=>if j=yb then B' j else B j) arr cD kN h;cases pv<;>simp only[dV,qw,zb]at O R<;>(try exact R.elim)
  all_goals (first|(subst R;simpa[bJ,h1,tU]using this)|exact this.elim|(obtain⟨vs,bj,bm⟩:=h;exact⟨vs,bj.iy d4 cD aB,bm⟩))
 cases pv with
 |own id eP=>exact key id (λ_ h=>by simpa[dV]using h) (by simp[dV])
 |osl id o n=>exact key id (λ_ h=>by simpa[dV]using h) (by simp[dV])
 |ptr id p=>exact key id (λ_ h=>by simpa[dV]using h) (by simp[dV])
 |opt id i p=>exact key id (λ_ h=>by simpa[dV]using h) (by simp[dV])
 |itp id=>exact key id (λ_ h=>by simpa[dV]using h) (by simp[dV])
 |mpp id=>exact key id (λ_ h=>by simpa[dV]using h) (by simp[dV])
 |psl id n=>exact key id (λ_ h=>by simpa[dV]using h) (by simp[dV])
 |clo f dU cZ=>obtain⟨vs,bj,bm⟩:=h;exact⟨vs,bj.iy d4 cD aB,bm⟩
 |ifc i t x=>obtain⟨cs,O,R⟩:=h;exact⟨cs,O.mono cD,R⟩
 |csl e l=>obtain⟨a,O,R⟩:=h;exact⟨a,O,R.mono cD⟩
 |ipt e l i p=>obtain⟨aq,b,o,cap,off,t',O,R,ai⟩:=h;exact⟨aq,b,o,cap,off,t',O.mono cD,R,ai⟩
 |_=>exact h
def fh.iy:∀{pv:av} {t:ag} {cs:List Value},(∀id,id∈dV pv->(B id).iZ=true->phx' id=phx id)->H.cc H'->(∀id,id∈dV pv->(B id).cc (B' id))->fh phx H B pv t cs->fh phx' H' B' pv t cs:=by
 intro pv;induction pv with
 |two u v aM aD=>
  intro t cs d4 cD aB h;cases t<;>simp only[fh]at h ⊢ <;> try exact h
  obtain⟨c1,c2,h,O,R⟩:=h;exact⟨c1,c2,h,aM (λid ac=>d4 id (by simp[dV,ac])) cD (λid ac=>aB id (by simp[dV,ac])) O,aD (λid ac=>d4 id (by simp[dV,ac])) cD (λid ac=>aB id (by simp[dV,ac])) R⟩
 |sc t' x=>intro t cs d4 cD aB h;obtain⟨aq,h⟩:=h;exact⟨aq,h.mono cD⟩
 |agg t a=>intro t cs d4 cD aB h;exact h
 |tup a=>intro t cs d4 cD aB h;exact h
 |bad=>intro t cs d4 cD aB h;exact h
 |_=>intro t cs d4 cD aB h;obtain⟨aq,v,O,R,ai⟩:=h;exact⟨aq,v,O,R,bJ.iy d4 cD aB ai⟩
def d6.iy{pv:av}(d4:∀id,id∈dV pv->(B id).iZ=true->phx' id=phx id)(cD:H.cc H')(aB:∀id,id∈dV pv->(B id).cc (B' id)){v:Value}(h:d6 phx H B pv v):d6 phx' H' B' pv v:=by
 cases pv with
 |sc t x=>obtain⟨cs,O,R⟩:=h;exact⟨cs,O.mono cD,R⟩
 |agg t a=>obtain⟨aq,cs,O,R⟩:=h;exact⟨aq,cs,fh.iy d4 cD aB O,R⟩
 |_=>simp only[d6]at h ⊢;exact bJ.iy d4 cD aB h
def ma.iy:∀{pv:av} {vs:List Value},(∀id,id∈dV pv->(B id).iZ=true->phx' id=phx id)->H.cc H'->(∀id,id∈dV pv->(B id).cc (B' id))->ma phx H B pv vs->ma phx' H' B' pv vs:=by
 intro pv;induction pv with
 |two u r aM aj =>intro vs d4 cD aB h;obtain⟨v,ei,aq,O,R⟩:=h;exact⟨v,ei,aq,d6.iy (λid ac=>d4 id (by simp[dV,ac])) cD (λid ac=>aB id (by simp[dV,ac])) O,aj (λid ac=>d4 id (by simp[dV,ac])) cD (λid ac=>aB id (by simp[dV,ac])) R⟩
 |sc t x=>intro vs d4 cD aB h;cases t<;>exact h
 |_=>intro vs d4 cD aB h;exact h
def a9.iy{pv:av}(d4:∀id,id∈dV pv->(B id).iZ=true->phx' id=phx id)(cD:H.cc H')(aB:∀id,id∈dV pv->(B id).cc (B' id)){v:Value}(h:a9 phx H B pv v):a9 phx' H' B' pv v:=by
 cases pv with
 |tup a=>obtain⟨vs,O,R⟩:=h;exact⟨vs,ma.iy d4 cD aB O,R⟩
 |_=>simp only[a9]at h ⊢;exact d6.iy d4 cD aB h
def bJ.old{pv:av}{v:Value}(h:bJ phx H B pv v):∀id,id∈dV pv->B id ≠ .new:=by
 intro id ac am;cases pv<;>simp only[dV,qw,zb]at ac<;>(try exact ac.elim)
 all_goals (first|(subst ac;simp only[bJ,am]at h)|exact h.elim|(obtain⟨vs,bj,bm⟩:=h;exact bj.old id ac am))
def fh.old:∀{pv:av} {t:ag} {cs:List Value},fh phx H B pv t cs->∀id,id∈dV pv->B id ≠ .new:=by
 intro pv;induction pv with
 |two u v aM aD=>
  intro t cs h id ac;cases t<;>simp only[fh]at h;simp only[dV,iQ]at ac
  grind
 |sc t' x=>intro t cs h id ac;simp[dV]at ac
 |agg t a=>intro t cs h;exact h.elim
 |tup a=>intro t cs h;exact h.elim
 |bad=>intro t cs h id ac;simp[dV]at ac
 |_=>intro t cs h;obtain⟨aq,v,O,R,ai⟩:=h;exact ai.old
def d6.old{pv:av}{v:Value}(h:d6 phx H B pv v):∀id,id∈dV pv->B id ≠ .new:=by
 cases pv with
 |sc t x=>intro id ac;simp[dV]at ac
 |agg t a=>obtain⟨aq,cs,O,R⟩:=h;exact O.old
 |_=>simp only[d6]at h;exact bJ.old h
def ma.old:∀{pv:av} {vs:List Value},ma phx H B pv vs->∀id,id∈dV pv->B id ≠ .new:=by
 intro pv;induction pv with
 |two u r aM aj =>intro vs h id ac;obtain⟨v,ei,aq,O,R⟩:=h;simp only[dV,iQ]at ac;exact ac.elim (O.old id) (aj R id)
 |sc t x=>intro vs h id ac;simp[dV]at ac
 |_=>intro vs h;exact h.elim
def a9.old{pv:av}{v:Value}(h:a9 phx H B pv v):∀id,id∈dV pv->B id ≠ .new:=by
 cases pv with
 |tup a=>obtain⟨vs,O,R⟩:=h;exact O.old
 |_=>simp only[a9]at h;exact d6.old h
end
def lK.iy{phx phx':cd}{H H':cf}{B B':Nat->aU}{kt:ag}:∀{l:List (kt.aG×av)} {es:List MapEntry},(∀p∈l,∀id∈dV p.2,(B id).iZ=true->phx' id=phx id)->H.cc H'->(∀p∈l,∀id∈dV p.2,(B id).cc (B' id))->lK phx H B kt l es->lK phx' H' B' kt l es
 |[],_,_,_,_,h=>h
 |(k,v)::l,_,d4,cD,aB,⟨e,es',h,⟨ak,O,R⟩,ai,au⟩=>
  ⟨e,es',h,⟨ak,O.mono cD,R⟩,ai.iy (λid ac=>d4 (k,v) bf id ac) cD (λid ac=>aB (k,v) bf id ac),lK.iy (λp hp=>d4 p (by grind)) cD (λp hp=>aB p (by grind)) au⟩
def lK.old{phx:cd}{H:cf}{B:Nat->aU}{kt:ag}:∀{l:List (kt.aG×av)} {es:List MapEntry},lK phx H B kt l es->∀p∈l,∀id∈dV p.2,B id ≠ .new
 |[],_,_,p,hp=>by simp at hp
 |(k,v)::l,_,⟨e,es',h,_,ai,au⟩,p,hp=>by
  rcases hc.1 hp with rfl|hp
  .exact ai.old
  exact lK.old au p hp
def l?.iy{phx phx':cd}{M aA:Nat->Prop}{w w':World}{H H':cf}{B B':Nat->aU}{id:Nat}{b:aU}
  (hid:phx' id=phx id) (d4:∀j,j∈yD b->(B j).iZ=true->phx' j=phx j) (cD:H.cc H') (aB:∀j,j∈yD b->(B j).cc (B' j))
  (bu:∀x,phx id=some x->b.fN=true->w'.heap[x.1]?=w.heap[x.1]?) (d8:∀x,phx id=some x->b.fN=true->M x.1->aA x.1)
  (h:l? phx M w H B id b):l? phx' aA w' H' B' id b:=by
 cases b with
 |new=>trivial
 |fq=>trivial
 |box t v =>obtain⟨b,o,c,el,fz,O,R,ai,au,a4,cQ⟩:=h;exact⟨b,o,c,el,fz,hid.trans O,(bu _ O rfl).trans R,ai,fh.iy d4 cD aB au,a4,d8 _ O rfl cQ⟩
 |ob e l=>
  refine⟨h.1,?_⟩;rcases h.2 with⟨O,R⟩|⟨b,o,c,el,fz,O,R,ai,au,a4⟩
  .grind
  exact .inr ⟨b,o,c,el,fz,hid.trans O,(bu _ O rfl).trans R,ai.mono cD,au,d8 _ O rfl a4⟩
 |fz e l=>
  refine⟨h.1,?_⟩;rcases h.2 with⟨O,R⟩|⟨b,o,c,el,fz,O,R,ai⟩
  .grind
  exact .inr ⟨b,o,c,el,fz,hid.trans O,cD _ _ R,ai.mono cD⟩
 |it s p =>obtain⟨b,O,R,ai⟩:=h;exact⟨b,hid.trans O,(bu _ O rfl).trans R,d8 _ O rfl ai⟩
 |mp kt vt l =>obtain⟨b,es,nR,O,R,ai,au⟩:=h;refine⟨b,es,nR,hid.trans O,(bu _ O rfl).trans R,lK.iy (λp hp j ao=>d4 j (zm.2 ⟨p,hp,ao⟩)) cD (λp hp j ao=>aB j (zm.2 ⟨p,hp,ao⟩)) ai,d8 _ O rfl au⟩
def l?.old{phx:cd}{M:Nat->Prop}{w:World}{H:cf}{B:Nat->aU}{id:Nat}{b:aU}(h:l? phx M w H B id b):∀j,j∈yD b->B j ≠ .new:=by
 cases b with
 |box t v=>obtain⟨b,o,c,el,fz,O,R,ai,au,a4,cQ⟩:=h;exact au.old
 |mp kt vt l =>obtain⟨b,es,nR,O,R,ai,au⟩:=h;intro j ao;obtain⟨p,hp,ao⟩:=zm.1 ao;exact ai.old p hp j ao
 |_=>intro j ao;simp[yD]at ao
end Yp
namespace Yp
open Go
def m8:=@Array.getD_eq_getD_getElem?
def B2:=@List.mem_append_left
def qy:=@List.mem_append_right
def BX:=@List.any_eq_true
def BU:=@Bool.or_eq_true
def BV:=@List.mem_cons_self
def JX:=@List.getElem?_cons_zero
def PB:=@Iff.rfl
def Fa:=@Nat.add_sub_cancel
variable {P:Program}
def kF(P:Program)(f:Nat)(g:gA):Prop:=sp P f/\∀(K:Kp) (w0:World),pC P K w0->∀(b8:Nat) (a5:List av) (s:aR) (ρ:Type) (k:av×aR->aS ρ) (r:ρ),((g b8 a5 s).bind k).bI=some r ->
 ∀(phx:cd) (M:Nat->Prop) (w:World) (vs:List Value),bK K w0 phx M s.aW w->gL phx (view w M) s.aW a5 vs ->
  Calls P f vs.toArray w λe w'=>∃bY,e=.returned bY/\∃v ax phx' aA,(k (v,ax)).bI=some r/\bK K w0 phx' aA ax.aW w'/\co phx M s.aW w phx' aA ax.aW w'/\a9 phx' (view w' aA) ax.aW v bY/\d5 [] s ax
def hF(D:List Nat)(a a':Act):Prop:=a'.tmps.size=a.tmps.size/\a'.defers=a.defers/\∀t,t∉D->a'.tmps.getD t undef=a.tmps.getD t undef
def hF.refl(D:List Nat)(a:Act):hF D a a:=⟨rfl,rfl,λ_ _=>rfl⟩
def hF.sub{E:List Nat}{a b c:Act}(h:hF D a b)(k:hF kE b c)(aI:∀t,t∈D->t∈E)(C8:∀t,t∈kE->t∈E):hF E a c:=
 ⟨k.1.trans h.1,k.2.1.trans h.2.1,λt ht=>(k.2.2 t λah=>ht (C8 t ah)).trans (h.2.2 t λah=>ht (aI t ah))⟩
def hF.put{a:Act}{c7:Option Nat}{v:Value}(h:∀d,c7=some d->d∈D):hF D a (a.put c7 v):=by
 cases c7 with
 |none=>exact hF.refl D a
 |some d =>refine⟨by simp[Act.put],rfl,λt ht => ?_⟩;have:d≠t:=λe=>ht (e▸h d rfl);simp[Act.put,xb this]
section
variable {K:Kp} {w0 w:World} {phx:cd} {M:Nat->Prop} {B B':Nat->aU} {g:Nat->av} {H:cf} {E:dl} {nt:Nat}
def sy.bM{fC v:av}{x:Value}(h:sy fC v)(aj:a9 phx H B fC x):a9 phx H B v x:=by
 rcases h with rfl|⟨c,rfl,rfl⟩
 .exact aj
 rw[aj.bool];rfl
def dE.put{a:Act}(ae:dE phx H B g a){c7:Option Nat}(aI:∀d,c7=some d->d<a.tmps.size){v:av}{x:Value}(aj:a9 phx H B v x):dE phx H B (lg g c7 v) (a.put c7 x):=by
 cases c7 with
 |none=>exact ae
 |some d=>
  intro t;simp only[lg,px];by_cases h:t=d
  .subst h
   have:=aI t rfl;simpa[Act.put,this]using aj
  rw[if_neg h];have:=ae t;simpa[Act.put,xb (zc h)]using this
def W5{ops:Array Oper}{a:Act}(h:(ops.toList[j]?).bind (·.dst)=some d):(∀b,a.tmps.getD d undef=.bool b->yielded ops a.tmps j=some b)/\(a.tmps.getD d undef=undef->yielded ops a.tmps j=none):=by
 rw[xk]at h;unfold yielded;rw[h];simp only[Option.bind_some];refine⟨λb Y => ?_,λY => ?_⟩
 .cases hg:a.tmps[d]? with
  |none=>rw[m8,hg]at Y;cases Y
  |some v=>rw[m8,hg]at Y;simp at Y;rw[Y]
 cases hg:a.tmps[d]? with
 |none=>rfl
 |some v=>rw[m8,hg]at Y;simp at Y;rw[Y];rfl
def WN{ops:Array Oper}{o:Oper}{a:Act}(h:xr ops.toList o g)(ae:dE phx H B g a):Region.wanted o (yielded ops a.tmps)=true:=by
 rcases h with h|⟨j,l7,d,O,R,ai⟩
 .simp[Region.wanted,h]
 have aD:=ae d;rw[ai]at aD;simp[Region.wanted,O,(W5 R).1 _ aD]
def ag1{ops:Array Oper}{o:Oper}{a:Act}(h:E9 ops.toList o g)(ae:dE phx H B g a):Region.wanted o (yielded ops a.tmps)=false:=by
 obtain⟨j,l7,d,O,R,ai⟩:=h;have aD:=ae d;rcases ai with ai|ai<;>rw[ai]at aD
 .have aD:a.tmps.getD d undef=.bool (!l7):=aD
  simp[Region.wanted,O,(W5 R).1 _ aD]
 have aD:a.tmps.getD d undef=undef:=aD;simp[Region.wanted,O,(W5 R).2 aD]
def d5.wr{s ax:aR}(h:d5 D s ax):ax.aW=dF s.aW (nC s ax):=by
 obtain⟨_,gc,R,ai⟩:=h;have am:Uo s ax=gc:=by unfold Uo;rw[R,db,Fa,List.take_left'];rfl
 funext id;unfold nC dF;have key:∀(l:List Nat) (d:aU),n7 (l.map λid=>(id,ax.aW id)) id d=if id∈l then ax.aW id else d:=by
  intro l d;induction l with
  |nil=>rfl
  |cons x l ih=>
   simp only[qz,n7];by_cases hx:x=id
   .subst hx;rw[jK rfl];simp
   rw[hI hx,cond_false,ih]
   grind
 grind
def yk{id:Nat}:∀(l:List (Nat×aU)) (d:aU),id∉l.map (·.1)->n7 l id d=d
 |[],_,_=>rfl
 |p::l,d,h=>by simp only[qz,hc,not_or]at h;simp only[n7];rw[hI (zc h.1)];exact yk l d h.2
def gL.iy:∀{a5:List av} {vs:List Value} {B':Nat->aU},(∀p∈a5,∀j,j∈dV p->B' j=B j)->gL phx H B a5 vs->gL phx H B' a5 vs
 |[],[],_,_,_=>trivial
 |p::a5,v::vs,B',ah,h=>⟨h.1.iy (λ_ _ _=>rfl) (cf.cc.refl _) (λj ao=>by rw[ah p bf j ao];exact aU.cc.refl _),gL.iy (λq a_=>ah q (by grind)) h.2⟩
def kF.frame{sU:gA}(gn:kF P f sU)(gM:pC P K w0)(hm:bK K w0 phx M B w){s ax:aR}{b8:Nat}{a5:List av}{fC:av}(jg:(sU b8 a5 s).bI=some (fC,ax)){kR:List Nat}
  (x8:∀id,id∈kR->s.aW id=B id) (Tt:∀id,id∉kR->s.aW id=.new) (eZ:∀id j,j∈yD (s.aW id)->j∈kR) (pZ:∀p∈a5,∀j,j∈dV p->j∈kR)
  (arZ:∀id,id∈(nC s ax).map (·.1)->id∈kR) {vs:List Value} (hp:gL phx (view w M) B a5 vs) :
  Calls P f vs.toArray w λe w'=>∃bY,e=.returned bY/\∃phx' aA,bK K w0 phx' aA (dF B (nC s ax)) w'/\co phx M B w phx' aA (dF B (nC s ax)) w'/\a9 phx' (view w' aA) (dF B (nC s ax)) fC bY:=by
 let Xm:Kp:=⟨λb=>K.k b\/∃id x,id∉kR/\(B id).fN=true/\phx id=some x/\x.1=b,M⟩
 have Ul:∀id,(s.aW id).fN=true->id∈kR/\(B id).fN=true:=λid h=>by
  by_cases ap:id∈kR
  .rw[x8 id ap]at h;exact⟨ap,h⟩
  rw[Tt id ap]at h;cases h
 have iI:bK Xm w phx M s.aW w:=by
  refine⟨rfl,rfl,rfl,bX _,λ_ _=>rfl,λb Y => ?_,λ_ _=>PB,λid ac x hx ah => ?_,hm.mlt,λid => ?_,λi j jy ac ao => ?_⟩
  .rcases Y with Y|⟨id,x,_,R,ai,rfl⟩
   .exact iF (hm.klt b Y) hm.size
   exact(hm.blks id).lt R ai
  .obtain⟨ap,ux⟩:=Ul id ac
   rcases ah with ah|⟨pj,vj,O,R,ai,au⟩
   .exact hm.own id ux x hx ah
   exact hm.sep pj id (λe=>O (e▸ap)) R ux vj x ai hx au
  .by_cases ap:id∈kR
   .have h:=hm.blks id
    rw[x8 id ap];refine l?.iy rfl (λ_ _ _=>rfl) (cf.cc.refl _) (λj ao => ?_) (λ_ _ _=>rfl) (λ_ _ _ h=>h) h;rw[x8 j (eZ id j (by rw[x8 id ap];exact ao))];exact aU.cc.refl _
   rw[Tt id ap];trivial
  exact hm.sep i j jy (Ul i ac).2 (Ul j ao).2
 have GX:gL phx (view w M) s.aW a5 vs:=hp.iy λp a_ j ao=>x8 j (pZ p a_ j ao);refine(gn.2 Xm w ⟨λg hg=>.inl (gM.gl g hg),gM.keys hm⟩ b8 a5 s (av×aR) .leaf (fC,ax) (by rw[k1];exact jg) phx M w vs iI GX).mono ?_;rintro e w' ⟨bY,rfl,v,d_,hS,fR,bG,ca,cr,du,eW⟩;cases bG;have kN:=eW.wr;have Hs:∀id,id∈kR->ax.aW id=dF B (nC s ax) id:=λid ap=>by rw[kN];unfold dF;rw[x8 id ap]
 have Oy:∀id,id∉kR->ax.aW id=.new/\dF B (nC s ax) id=B id:=λid ap=>by have ach:id∉(nC s ax).map (·.1):=λh=>ap (arZ id h);refine⟨?_,yk _ _ ach⟩;rw[kN];exact(yk _ _ ach).trans (Tt id ap)
 have Nq:∀j,ax.aW j ≠ .new->j∈kR:=λj h=>by
  by_cases ap:j∈kR
  .exact ap
  exact absurd (Oy j ap).1 h
 let jS:cd:=λid=>if id∈kR then hS id else phx id
 have vP:∀id,id∈kR->jS id=hS id:=λid h=>if_pos h;have zF:∀id,id∉kR->jS id=phx id:=λid h=>if_neg h;have ji:∀id,(B id).iZ=true->jS id=phx id:=λid hl=>by
  by_cases ap:id∈kR
  .rw[vP id ap];exact cr.pl id (by rw[x8 id ap];exact hl)
  exact zF id ap
 have dM:∀id,(B id).cc (dF B (nC s ax) id):=λid=>by
  by_cases ap:id∈kR
  .rw[<- Hs id ap,<- x8 id ap];exact cr.bl id
  rw[(Oy id ap).2];exact aU.cc.refl _
 have HL:∀id,id∈kR->(dF B (nC s ax) id).fN=true->(ax.aW id).fN=true:=λid ap h=>by rw[Hs id ap];exact h
 have HM:∀id,id∉kR->(dF B (nC s ax) id).fN=true->(B id).fN=true:=λid ap h=>by rw[<- (Oy id ap).2];exact h
 refine⟨bY,rfl,jS,fR,⟨ca.os.trans hm.os,ca.tape.trans hm.tape,ca.output.trans hm.output,fv hm.size ca.size,λb Y=>(ca.keep b (.inl Y)).trans (hm.keep b Y),hm.klt,λb Y=>(ca.hid b (.inl Y)).trans (hm.hid b Y),λid ac x hx ah => ?_,ca.mlt,λid => ?_,λi j jy ac ao x y hx bs => ?_⟩,⟨ji,cr.vw,dM⟩,?_⟩
 .by_cases ap:id∈kR
  .rw[vP id ap]at hx;exact ca.own id (HL id ap ac) x hx (.inl ah)
  rw[zF id ap]at hx;exact hm.own id (HM id ap ac) x hx ah
 .by_cases ap:id∈kR
  .rw[<- Hs id ap]
   have h:=ca.blks id;refine l?.iy (vP id ap) (λj ao _=>vP j (Nq j (h.old j ao))) (cf.cc.refl _) (λj ao => ?_) (λ_ _ _=>rfl) (λ_ _ _ h=>h) h;rw[Hs j (Nq j (h.old j ao))];exact aU.cc.refl _
  rw[(Oy id ap).2];refine l?.iy (zF id ap) (λj _ hl=>ji j hl) cr.vw (λj _=>dM j) (λx hx ux=>ca.keep x.1 (.inr ⟨id,x,ap,ux,hx,rfl⟩)) (λx hx ux d8=>(ca.hid x.1 (.inr ⟨id,x,ap,ux,hx,rfl⟩)).2 d8) (hm.blks id)
 .by_cases v5:i∈kR<;>by_cases v6:j∈kR
  .rw[vP i v5]at hx;rw[vP j v6]at bs;exact ca.sep i j jy (HL i v5 ac) (HL j v6 ao) x y hx bs
  .rw[vP i v5]at hx;rw[zF j v6]at bs
   exact λe=>ca.own i (HL i v5 ac) x hx (.inr ⟨j,y,v6,HM j v6 ao,bs,e.symm⟩)
  .rw[zF i v5]at hx;rw[vP j v6]at bs
   exact λe=>ca.own j (HL j v6 ao) y bs (.inr ⟨i,x,v5,HM i v5 ac,hx,e⟩)
  rw[zF i v5]at hx;rw[zF j v6]at bs;exact hm.sep i j jy (HM i v5 ac) (HM j v6 ao) x y hx bs
 exact du.iy (λj ao _=>vP j (Nq j (du.old j ao))) (cf.cc.refl _) (λj ao=>by rw[Hs j (Nq j (du.old j ao))];exact aU.cc.refl _)
def xd.congr{E:dl}{ops:List Oper}{o:Oper}{g bm:Nat->av}{B b2:Nat->aU}{fC:av}{rb:List Nat}{wr:List (Nat×aU)}(h:xd E ops o g B fC rb wr)(hg:∀t,Nat.testBit (kU ops o) t=true->bm t=g t)
  (aB:∀id,id∈rb\/id∈wr.map (·.1)->b2 id=B id):xd E ops o bm b2 fC rb wr:=by
 obtain⟨F,dU,cZ,sU,a5,s,ax,f,args,d?,b8,O,R,ai,au,a4,cQ,eh,cy,mg,pX⟩:=h;refine⟨F,dU,cZ,sU,a5,s,ax,f,args,d?,b8,O,R,ai,?_,λcW vm SV=>a4 cW vm λt ht=>(SV t ht).trans (hg t ht),λid hid => ?_,eh,cy,mg,pX⟩
 .cases f with
  |tmp t=>simp only[RZ]at au ⊢;rw[hg t ai];exact au
  |func f=>exact au
  |const v=>exact au
  |global i=>exact au
 grind
def T8:∀{l:List (Nat×aU)} {id:Nat},id∉l.map (·.1)->qV l id=.new
 |[],_,_=>rfl
 |(i,b)::r,id,h=>by simp only[qz,hc,not_or]at h;simp only[qV];rw[hI (zc h.1)];exact T8 h.2
def adj:∀{l:List (Nat×aU)} {id:Nat},id∈l.map (·.1)->∃b,(id,b)∈l/\qV l id=b
 |(i,b)::r,id,h=>by
  simp only[qV];by_cases ac:i=id
  .subst ac;rw[jK rfl];exact⟨b,bf,rfl⟩
  rw[hI ac];simp only[qz,hc]at h;obtain⟨c,ah,R⟩:=adj (h.resolve_left (zc ac))
  grind
def amI{s:aR}{a5:List av}(h:FQ s a5=true):(∀id j,j∈yD (s.aW id)->j∈nr s)/\∀p∈a5,∀j,j∈dV p->j∈nr s:=by
 unfold FQ at h;simp only[cM]at h;have any:∀{j:Nat},(nr s).any (Nat.beq j)=true->j∈nr s:=λh=>by obtain⟨x,hx,az⟩:=BX.1 h;rw[fP az];exact hx
 refine⟨λid j ao => ?_,λp hp j ao=>any (ss.1 (ss.1 h.2 p hp) j ao)⟩;by_cases ap:id∈s.h.map (·.1)
 .obtain⟨b,Y,az⟩:=adj ap
  have az:s.aW id=b:=az
  grind
 have:s.aW id=.new:=T8 ap;rw[this]at ao;simp[yD]at ao
def asy(dK:o1 P E K w0)(dZ:∀f g,E.I f=some g->kF P f g){ops:List Oper}{o:Oper}{a:Act}{fC:av}{rb:List Nat}{wr:List (Nat×aU)}(hm:bK K w0 phx M B w)(ae:dE phx (view w M) B g a)(h:xd E ops o g B fC rb wr)
  {Kn:Act->World->Prop} {Q:Exit->Act->World->Prop}
  (ap:∀phx' aA w' x,bK K w0 phx' aA (dF B wr) w'->co phx M B w phx' aA (dF B wr) w'->a9 phx' (view w' aA) (dF B wr) fC x->Kn (a.put o.dst x) w'):o.wp P a w Kn Q:=by
 obtain⟨F,dU,cZ,sU,a5,s,ax,f,args,d?,b8,O,R,ai,au,a4,cQ,eh,cy,mg,pX⟩:=h;obtain⟨c7,op,type,jG,after,CY⟩:=o;subst O;have gn:=dZ _ _ R;have qR:a9 phx (view w M) B (.clo F dU cZ) (a.eval f):=by
  rw[<- au];cases f with
  |tmp t=>exact ae t
  |func f=>exact⟨[],rfl,rfl⟩
  |const v=>cases ai
  |global i=>cases ai
 obtain⟨us,az,pe⟩:=qR;refine OX pe gn.1 ?_;obtain⟨_,dm⟩:=yn ae (a4 g B λ_ _=>rfl);have bc:(args.toList.map a.eval).toArray=args.map a.eval:=by apply B1;simp
 have jd:(us.take dU++(args.toList.map a.eval++us.drop dU)).toArray=(us.take dU).toArray++args.map a.eval++(us.drop dU).toArray:=by rw[<- bc];simp
 rw[<- jd];obtain⟨bD,b1⟩:=amI eh;subst mg;refine(gn.frame (dK.gk (.inr (.inl ⟨_,_,R⟩))) hm cy cQ (λid hid=>T8 λah=>hid (B2 _ ah)) (λid j ao=>B2 _ (bD id j ao)) (λp hp j ao=>B2 _ (b1 p hp j ao)) (λid hid=>qy _ hid) (Q4 az dm)).mono ?_
 grind
def ah3{x:Value}(h:x=undef):a9 phx H B .undef x:=h
def aak(hT:nA P E.b6)(cA:pP P E.b6 E.C)(hv:qW P E.M)(dK:o1 P E K w0)(dZ:∀f g,E.I f=some g->kF P f g){ops:Array Oper}{e:fe}{a:Act}(am:∀d,e.o.dst=some d->d<nt)(eD:nt<=a.tmps.size)(hm:bK K w0 phx M B w)(ae:dE phx (view w M) B g a)
  (h:(xr ops.toList e.o g/\∃fC,sy fC e.v/\(r6 E e.o).a2 g B=some (fC,dF B e.wr))\/(E9 ops.toList e.o g/\e.v=.undef/\e.wr=[])\/(xr ops.toList e.o g/\∃fC,sy fC e.v/\xd E ops.toList e.o g B fC e.rb e.wr))
  {Kn:Act->World->Prop} {Q:Exit->Act->World->Prop}
  (ap:∀phx' aA w' x,bK K w0 phx' aA (dF B e.wr) w'->co phx M B w phx' aA (dF B e.wr) w'->dE phx' (view w' aA) (dF B e.wr) (lg g e.o.dst e.v) (a.put e.o.dst x)->Kn (a.put e.o.dst x) w') :
  if Region.wanted e.o (yielded ops a.tmps) then e.o.wp P a w Kn Q else Kn (a.put e.o.dst undef) w:=by
 have aI:∀d,e.o.dst=some d->d<a.tmps.size:=λd h=>iF (am d h) eD;rcases h with⟨bu,fC,z?,rK⟩|⟨bu,aD,Dg⟩|⟨bu,fC,z?,fb⟩
 .rw[if_pos (WN bu ae)]
  refine UK hT cA hv dK rK hm ae λr w' bc => ?_;obtain⟨phx',aA,bE,e1,ek⟩:=bc;exact ap phx' aA w' r bE e1 ((ae.ext e1).put aI (z?.bM ek))
 .rw[if_neg (by rw[ag1 bu ae];simp)]
  have aB:dF B e.wr=B:=by rw[Dg];rfl
  have:=ap phx M w undef (by rw[aB];exact hm) (by rw[aB];exact co.refl _ _ _ _) (by rw[aB,aD];exact ae.put aI (ah3 rfl));exact this
 rw[if_pos (WN bu ae)];exact asy dK dZ hm ae fb λphx' aA w' r bE e1 ek=>ap phx' aA w' r bE e1 ((ae.ext e1).put aI (z?.bM ek))
def ahS(hT:nA P E.b6)(cA:pP P E.b6 E.C)(hv:qW P E.M)(dK:o1 P E K w0)(dZ:∀f g,E.I f=some g->kF P f g){ops:Array Oper}{Q:Exit->Act->World->Prop}:∀(bv:List fe) {phx:cd} {M:Nat->Prop} {B:Nat->aU} {g:Nat->av} {w:World} {a:Act},
  xq E ops.toList nt false bv g B->bK K w0 phx M B w->dE phx (view w M) B g a->nt<=a.tmps.size ->
  (∀phx' aA w' a',bK K w0 phx' aA (en bv (λ_=>true) B) w'->co phx M B w phx' aA (en bv (λ_=>true) B) w'->dE phx' (view w' aA) (en bv (λ_=>true) B) (fl bv (λ_=>true) g) a'->hF (er (bv.map (·.o))) a a'->Q .normal a' w') ->
  wpList P ops Q (bv.map (·.o)) a w
 |[],phx,M,B,g,w,a,_,hm,ae,_,a_=>a_ phx M w a hm (co.refl _ _ _ _) ae (hF.refl _ _)
 |e::bv,phx,M,B,g,w,a,aD,hm,ae,eD,a_=>by
  obtain⟨⟨am,jg⟩,aD⟩:=aD;have aI:=ue e.o (bv.map (·.o));have:=aak (P:=P) (Kn:=wpList P ops Q (bv.map (·.o))) (Q:=Q) hT cA hv dK dZ am eD hm ae (jg.imp (λ⟨O,fC,R,ai,_⟩=>⟨O,fC,R,ai⟩) (λh=>h.elim (λ⟨O,R,ai,_⟩=>.inl ⟨O,R,ai⟩) (λh=>by cases h.1))) λphx' aA w' x bE e1 bp=>by refine ahS hT cA hv dK dZ bv aD bE bp (by simp only[Act.put];split<;>simpa using eD) λjS c' cR cU cq aT ax b1 => ?_;exact a_ jS c' cR cU cq (e1.trans aT) ax ((hF.put aI.1).sub b1 (λt h=>h) aI.2)
  simp only[qz,wpList];split
  .rename_i bu;rw[if_pos bu]at this;exact .inl this
  rename_i bu;rw[if_neg bu]at this;exact this
def yQ{t:Nat}:∀(bv:List fe) {L vp:Nat->Bool} {g g':Nat->av},g t=g' t->(∀e∈bv,e.o.dst=some t->L e.i=vp e.i)->fl bv L g t=fl bv vp g' t
 |[],_,_,_,_,h,_=>h
 |e::bv,L,vp,g,g',h,hL=>by
  refine yQ bv ?_ λbA az=>hL bA (vv _ az);have key:∀(x:Nat->av),e.o.dst≠some t->lg x e.o.dst e.v t=x t:=λx e3=>by
   cases aI:e.o.dst with
   |none=>rfl
   |some d=>simp only[lg,px];rw[if_neg];intro h;exact e3 (by grind)
  by_cases aI:e.o.dst=some t
  .rw[hL e BV aI]
   cases vp e.i with
   |false=>exact h
   |true=>simp only[cond,aI,lg,px,if_true]
  grind
def adi{id:Nat}:∀(l:List (Nat×aU)) (d xH:aU),id∈l.map (·.1)->n7 l id d=n7 l id xH
 |p::l,d,xH,h=>by
  simp only[n7];by_cases hp:p.1=id
  .rw[jK hp];rfl
  rw[hI hp];simp only[qz,hc]at h;exact adi l d xH (h.resolve_left (zc hp))
def yP{id:Nat}:∀(bv:List fe) {L vp:Nat->Bool} {B B':Nat->aU},B id=B' id->(∀e∈bv,id∈e.wr.map (·.1)->L e.i=vp e.i)->en bv L B id=en bv vp B' id
 |[],_,_,_,_,h,_=>h
 |e::bv,L,vp,B,B',h,hL=>by
  refine yP bv ?_ λbA az=>hL bA (vv _ az);by_cases aI:id∈e.wr.map (·.1)
  .rw[hL e BV aI]
   cases vp e.i with
   |false=>exact h
   |true=>simp only[cond,dF,h]
  have key:∀(x:Nat->aU),dF x e.wr id=x id:=λx=>yk _ _ aI
  grind
def VX(L:Nat->Bool):∀(a b:List fe) (g:Nat->av),fl (a++b) L g=fl b L (fl a L g)
 |[],_,_=>rfl
 |e::a,b,g=>VX L a b _
def VW(L:Nat->Bool):∀(a b:List fe) (B:Nat->aU),en (a++b) L B=en b L (en a L B)
 |[],_,_=>rfl
 |e::a,b,B=>VW L a b _
def xq.at{ops:List Oper}{dx:Bool}{e:fe}:∀(pre:List fe) {post:List fe} {g:Nat->av} {B:Nat->aU},xq E ops nt dx (pre++e::post) g B->JC E ops nt dx (fl pre (λ_=>true) g) (en pre (λ_=>true) B) e
 |[],_,_,_,h=>h.1
 |_::pre,_,_,_,h=>xq.at pre h.2
end
def Pe(e1 aT:fe)(id:Nat):Prop:=(id∈e1.wr.map (·.1)/\id∈aT.rb)\/(id∈e1.wr.map (·.1)/\id∈aT.wr.map (·.1))\/(id∈e1.rb/\id∈aT.wr.map (·.1))\/(e1.al=true/\id∈aT.wr.map (·.1))\/(aT.al=true/\id∈e1.wr.map (·.1))
def Ug{a b:List Nat}(O:k∈a)(R:k∈b):Ms a b=true:=by exact BX.2 ⟨k,O,BX.2 ⟨k,R,Fj k⟩⟩
def aaq{e:fe}:∀{bv:List fe},e∈bv->(e.al=true\/e.rb≠[]\/e.wr≠[])->(⟨e.i,e.al,e.rb,e.wr.map (·.1)⟩:o2)∈nU bv
 |bA::bv,h,e3=>by
  simp only[nU];rcases hc.1 h with rfl|h
  .grind
  have:=aaq h e3
  grind
def UM{oz:List Nat}:∀{bv:List fe},q6 oz (nU bv)=true->bv.Pairwise λe1 aT=>∀id,Pe e1 aT id->Nat.testBit (oz.getD aT.i 0) e1.i=true
 |[],_=>List.Pairwise.nil
 |e::bv,h=>by
  have split:q6 oz (nU bv)=true/\((e.al=true\/e.rb≠[]\/e.wr≠[])->(nU bv).all (λg=>!((⟨e.i,e.al,e.rb,e.wr.map (·.1)⟩:o2).KI g)||Nat.testBit (oz.getD g.i 0) e.i)=true):=by
   simp only[nU]at h;cases bc:e.al<;>cases aj:e.rb<;>cases bu:e.wr<;>rw[bc,aj,bu]at h
   .grind
   all_goals
    simp only[q6,cM]at h
    grind
  refine List.Pairwise.cons (λaT uv id hh => ?_) (UM split.1);have e3:(e.al=true\/e.rb≠[]\/e.wr≠[])/\(aT.al=true\/aT.rb≠[]\/aT.wr≠[]):=by
   have eP:∀{l:List Nat},id∈l->l≠[]:=λh e=>by rw[e]at h;simp at h
   have az8:∀{l:List (Nat×aU)},id∈l.map (·.1)->l≠[]:=λh e=>by rw[e]at h;simp at h
   rcases hh with⟨O,R⟩|⟨O,R⟩|⟨O,R⟩|⟨O,R⟩|⟨O,R⟩
   .grind
   .grind
   .grind
   .grind
   grind
  have:=ss.1 (split.2 e3.1) _ (aaq uv e3.2);have eZ:(⟨e.i,e.al,e.rb,e.wr.map (·.1)⟩:o2).KI ⟨aT.i,aT.al,aT.rb,aT.wr.map (·.1)⟩=true:=by
   unfold o2.KI;have acr:∀{l:List Nat},id∈l->VT l=true:=λh=>by
    rename_i l;cases l with
    |nil=>cases h
    |cons x l=>rfl
   rcases hh with⟨O,R⟩|⟨O,R⟩|⟨O,R⟩|⟨O,R⟩|⟨O,R⟩
   .simp only[Ug O R,Bool.true_or]
   .simp only[Ug O R,Bool.true_or,Bool.or_true]
   .simp only[Ug O R,Bool.true_or,Bool.or_true]
   .grind
   grind
  grind
def Xs(oz:List Nat)(p:Nat×Nat×Nat)(i qc wr:Nat):Prop:=(Nat.land p.2.2 (qc|||wr)=0/\Nat.land p.2.1 wr=0)\/Nat.testBit (oz.getD i 0) p.1=true
def ag6{ops:List Oper}{oz:List Nat}:∀{l:List Oper} {i:Nat} {c?:List (Nat×Nat×Nat)},I4 ops oz i l c?=true ->
  (∀p∈c?,∀k o,l[k]?=some o->Xs oz p (i+k) (kU ops o) (ER o)) /\
  ∀bD b1 lX mR,bD<b1->l[bD]?=some lX->l[b1]?=some mR->Xs oz (i+bD,kU ops lX,ER lX) (i+b1) (kU ops mR) (ER mR)
 |[],i,c?,_=>⟨λp _ k o h=>by simp at h,λbD b1 lX mR _ h _=>by simp at h⟩
 |o::l,i,c?,h=>by
  simp only[I4,cM]at h;obtain⟨O,R⟩:=h;obtain⟨ek,e8⟩:=ag6 R;refine⟨λp hp k dz ap => ?_,λbD b1 lX mR bi rN n1 => ?_⟩
  .cases k with
   |zero =>simp at ap;subst ap;have:=ss.1 O p hp;simp only[BU,cM]at this;exact this.imp (λh=>⟨fP h.1,fP h.2⟩) id
   |succ k=>
    grind
  cases b1 with
  |zero=>omega
  |succ b1=>
   cases bD with
   |zero=>
    grind
   |succ bD=>
    grind
def ac4(h:Nat.land a b=0)(O:Nat.testBit a t=true)(R:Nat.testBit b t=true):False:=by
 have:Nat.testBit (Nat.land a b) t=true:=by have ai:Nat.testBit (a&&&b) t=(Nat.testBit a t&&Nat.testBit b t):=Nat.testBit_and a b t;exact ai.trans (by grind)
 grind
def WZ{o:Oper}(h:o.dst=some t):Nat.testBit (ER o) t=true:=by simp[ER,h]
def zC(c?:List Nat)(s:Nat)(e:Edge):Nat:=bif Region.binds .any e then s|||2^e.on|||c?.getD e.on 0 else s
def aaS{c?:List Nat}{i:Nat}:∀(l:List Edge) (s:Nat),Nat.testBit (l.foldl (zC c?) s) i=true->Nat.testBit s i=true\/∃e∈l,Region.binds .any e=true/\(i=e.on\/Nat.testBit (c?.getD e.on 0) i=true)
 |[],s,h=>.inl h
 |e::l,s,h=>by
  rcases aaS l _ h with h|⟨bA,az,h⟩
  .unfold zC at h
   grind
  grind
def XT:∀(l:List Oper) (c?:List Nat),(∃Bj,mb l c?=c? ++ Bj) /\
  ∀j o,l[j]?=some o->∃pre,pre.length=c?.length+j/\(∃Bj,mb l c?=pre++Bj)/\(mb l c?).getD (c?.length+j) 0=o.after.toList.foldl (zC pre) 0
 |[],c?=>⟨⟨[],by simp[mb]⟩,λj o h=>by simp at h⟩
 |o::l,c?=>by
  obtain⟨⟨Bj,O⟩,R⟩:=XT l (c? ++ [o.after.toList.foldl (zC c?) 0]);have GD:mb (o::l) c?=mb l (c? ++ [o.after.toList.foldl (zC c?) 0]):=rfl;refine⟨⟨o.after.toList.foldl (zC c?) 0::Bj,by rw[GD,O];simp⟩,λj dz ao => ?_⟩;cases j with
  |zero =>simp only[JX,kY]at ao;subst ao;refine⟨c?,rfl,⟨o.after.toList.foldl (zC c?) 0::Bj,by rw[GD,O];simp⟩,?_⟩;rw[GD,O];simp[nE]
  |succ j =>simp only[za]at ao;obtain⟨pre,dG,gz,le⟩:=R j dz ao;simp only[db,fQ,gu]at dG le;refine⟨pre,J,by rw[GD];exact gz,?_⟩;rw[GD,show c?.length+(j+1)=c?.length+(0+1)+j by omega];exact le
def P6{ops:List Oper}{L:Nat->Bool}(eZ:∀i o,ops[i]?=some o->L i=true->∀e∈o.after.toList,Region.binds .any e=true->L e.on=true):
  ∀j o,ops[j]?=some o->(∀e∈o.after.toList,Region.binds .any e=true->L e.on=true)->∀i,Nat.testBit ((mb ops []).getD j 0) i=true->L i=true:=by
 intro j;induction j using Nat.strongRecOn with
 |_ j ih=>
  intro o aO z1 i ac;obtain⟨pre,dG,⟨Bj,gz⟩,le⟩:=(XT ops []).2 j o aO;simp only[gu,js]at dG le;rw[le]at ac;rcases aaS _ _ ac with h|⟨e,az,Y,h|h⟩
  .simp at h
  .rw[h];exact z1 e az Y
  have arj:=z1 e az Y;have bi:e.on<j:=by
   rcases J7 e.on j with bB|bB
   .exact bB
   rw[nE,nG J]at h;simp at h
  have pf:pre.getD e.on 0=(mb ops []).getD e.on 0:=by rw[gz,nE,nE,vu J]
  rw[pf]at h;have b9:e.on<ops.length:=by have:=(nF.1 aO).1;omega
  exact ih e.on bi _ (kg b9) (eZ _ _ (kg b9) arj) i h
def K0:∀{l:List Oper} {i:Nat},vM i l=true->∀k o,l[k]?=some o->∀e∈o.after.toList,Region.binds .any e=true->e.on<i+k
 |[],_,_,k,o,h=>by simp at h
 |o::l,i,h,k,dz,ap=>by
  simp only[vM,cM]at h;cases k with
  |zero =>simp at ap;subst ap;intro e az Y;have:=ss.1 h.1 e az;simpa[Y]using this
  |succ k =>intro e az Y;have:=K0 h.2 k dz ap e az Y;omega
end Yp
namespace Yp
open Go
def l_:=@List.drop_eq_getElem_cons
def sr:=@List.length_filter_le
def vx:=@List.take_append_drop
def xg:=@List.eq_nil_iff_forall_not_mem
def oo:=@List.pairwise_cons
def E3:=@List.filter_filter
def J6:=@List.mem_of_getElem?
def Fc:=@Nat.lt_trichotomy
def O':=@List.getElem?_map
variable {P:Program}
section
variable {K:Kp} {w0:World} {E:dl} {nt:Nat} {ops:Array Oper} {bv:List fe}
def mj(j:Nat):Nat->Bool:=λi=>decide (i<j)
def k_(j:Nat):Nat->Bool:=λi=>decide (i<=j)
def fg(bZ:Array Bool):Nat->Bool:=λi=>bZ.getD i false
def JS{bZ:Array Bool}(ao:j<bZ.size)(i:Nat):fg (bZ.setIfInBounds j true) i=(decide (i=j)||fg bZ i):=by
 unfold fg;by_cases h:i=j
 .subst h;simp[ao]
 simp[xb (zc h),h]
structure lH(E:dl)(nt:Nat)(ops:Array Oper)(bv:List fe)(g0:Nat->av)(B0:Nat->aU):Prop where
 is:bv.map (·.i)=List.range' 0 ops.size
 os:bv.map (·.o)=ops.toList
 valid:xq E ops.toList nt true bv g0 B0
 slots:I4 ops.toList (mb ops.toList []) 0 ops.toList []=true
 edges:vM 0 ops.toList=true
 ord:bv.Pairwise λe1 aT=>∀id,Pe e1 aT id->Nat.testBit ((mb ops.toList []).getD aT.i 0) e1.i=true
variable {g0:Nat->av} {B0:Nat->aU}
def lH.len(f:lH E nt ops bv g0 B0):bv.length=ops.size:=by
 have:=congrArg List.length f.is
 grind
def lH.at(f:lH E nt ops bv g0 B0){e:fe}(h:bv[k]?=some e):e.i=k/\ops.toList[k]?=some e.o:=by
 have O:(bv.map (·.i))[k]?=some e.i:=by rw[O',h];rfl
 have R:(bv.map (·.o))[k]?=some e.o:=by rw[O',h];rfl
 rw[f.is,List.getElem?_range']at O
 .rw[f.os]at R
  grind
 grind
def lH.hR(f:lH E nt ops bv g0 B0){e:fe}(h:e∈bv):bv[e.i]?=some e:=by
 obtain⟨k,ap,rfl⟩:=o3 h;have:=f.at (kg ap)
 grind
def lH.split(f:lH E nt ops bv g0 B0){e:fe}(h:e∈bv):∃pre post,bv=pre++e::post/\(∀x∈pre,x.i<e.i)/\(∀x∈post,e.i<x.i):=by
 have hg:=f.hR h;obtain⟨bi,az⟩:=nF.1 hg;refine⟨bv.take e.i,bv.drop (e.i+1),?_,λx hx => ?_,λx hx => ?_⟩
 .have O:bv.drop e.i=e::bv.drop (e.i+1):=by rw[l_ bi,az]
  rw[<- O,vx]
 .obtain⟨k,ap,rfl⟩:=o3 hx
  rw[ib]at ap;have:bv[k]?=some (bv.take e.i)[k]:=by rw[List.getElem_take];exact kg J
  rw[(f.at this).1];omega
 obtain⟨k,ap,rfl⟩:=o3 hx;rw[ep]at ap;have:bv[e.i+1+k]?=some (bv.drop (e.i+1))[k]:=by rw[List.getElem_drop];exact kg J
 rw[(f.at this).1];omega
def lH.jz(f:lH E nt ops bv g0 B0){e1 aT:fe}(O:e1∈bv)(R:aT∈bv)(bi:e1.i<aT.i){id:Nat}(h:Pe e1 aT id):Nat.testBit ((mb ops.toList []).getD aT.i 0) e1.i=true:=by
 obtain⟨pre,post,ae,pf,rQ⟩:=f.split O;have hp:=f.ord;rw[ae]at hp R;rcases iQ.1 R with R|R
 .have:=pf aT R;omega
 rcases hc.1 R with rfl|R
 .omega
 have:=(List.pairwise_append.1 hp).2.1;exact(oo.1 this).1 aT R id h
def lH.Oe(f:lH E nt ops bv g0 B0){e1 aT:fe}(O:e1∈bv)(R:aT∈bv)(bi:e1.i<aT.i)
  (h:(e1.o.dst=some t/\(Nat.testBit (kU ops.toList aT.o) t=true\/aT.o.dst=some t))\/(Nat.testBit (kU ops.toList e1.o) t=true/\aT.o.dst=some t)) :
  Nat.testBit ((mb ops.toList []).getD aT.i 0) e1.i=true:=by
 have ah:=(ag6 f.slots).2 e1.i aT.i e1.o aT.o bi (f.at (f.hR O)).2 (f.at (f.hR R)).2;simp at ah;rcases ah with⟨c1,c2⟩|ah
 .exfalso
  rcases h with⟨d1,d2⟩|⟨d1,d2⟩
  .refine ac4 c1 (WZ d1) ?_
   rcases d2 with d2|d2
   .simp[d2]
   simp[WZ d2]
  exact ac4 c2 d1 (WZ d2)
 exact ah
def rl(ops:Array Oper)(L:Nat->Bool):Prop:=∀i o,ops.toList[i]?=some o->L i=true->∀e∈o.after.toList,Region.binds .any e=true->L e.on=true
structure Next(ops:Array Oper)(L:Nat->Bool)(e:fe):Prop where
 un:L e.i=false
 ed:∀x∈e.o.after.toList,Region.binds .any x=true->L x.on=true
def Next.K2(f:lH E nt ops bv g0 B0){L:Nat->Bool}(eZ:rl ops L){e x:fe}(az:e∈bv)(am:Next ops L e)(Y:Nat.testBit ((mb ops.toList []).getD e.i 0) x.i=true):L x.i=true:=
 P6 eZ e.i e.o (f.at (f.hR az)).2 am.ed x.i Y
def Next.O5(f:lH E nt ops bv g0 B0){L:Nat->Bool}(eZ:rl ops L){e x:fe}(hx:x∈bv)(am:Next ops L e)(Y:Nat.testBit ((mb ops.toList []).getD x.i 0) e.i=true):L x.i=false:=by
 cases hL:L x.i with
 |false=>rfl
 |true =>have:=P6 eZ x.i x.o (f.at (f.hR hx)).2 (eZ _ _ (f.at (f.hR hx)).2 hL) e.i Y;rw[am.un]at this;cases this
def ayc{e:fe}{pre post:List fe}(pf:∀x∈pre,x.i<e.i)(rQ:∀x∈post,e.i<x.i)(t:Nat):fl (pre++e::post) (mj e.i) g0 t=fl pre (λ_=>true) g0 t:=by
 rw[VX];have O:∀(g:Nat->av),fl (e::post) (mj e.i) g t=g t:=λg=>by
  have:fl (e::post) (mj e.i) g t=fl (e::post) (λ_=>false) g t:=yQ _ rfl λx hx _=>by
   rcases hc.1 hx with rfl|hx
   .simp[mj]
   have:=rQ x hx;simp only[mj,decide_eq_false_iff_not];omega
  rw[this];have:∀(l:List fe) (g:Nat->av),fl l (λ_=>false) g=g:=by
   intro l;induction l with
   |nil=>intro g;rfl
   |cons y l ih=>intro g;simp only[fl];exact ih g
  rw[this]
 rw[O];exact yQ pre rfl λx hx _=>by have:=pf x hx;simp[mj,this]
def ahC{e:fe}{pre post:List fe}(pf:∀x∈pre,x.i<e.i)(rQ:∀x∈post,e.i<x.i)(id:Nat):en (pre++e::post) (mj e.i) B0 id=en pre (λ_=>true) B0 id:=by
 rw[VW];have O:∀(B:Nat->aU),en (e::post) (mj e.i) B id=B id:=λB=>by
  have:en (e::post) (mj e.i) B id=en (e::post) (λ_=>false) B id:=yP _ rfl λx hx _=>by
   rcases hc.1 hx with rfl|hx
   .simp[mj]
   have:=rQ x hx;simp only[mj,decide_eq_false_iff_not];omega
  rw[this];have:∀(l:List fe) (B:Nat->aU),en l (λ_=>false) B=B:=by
   intro l;induction l with
   |nil=>intro g;rfl
   |cons y l ih=>intro g;simp only[en,cond];exact ih g
  rw[this]
 rw[O];exact yP pre rfl λx hx _=>by have:=pf x hx;simp[mj,this]
def aw5(f:lH E nt ops bv g0 B0){L:Nat->Bool}(eZ:rl ops L){e:fe}(az:e∈bv)(am:Next ops L e)(ht:Nat.testBit (kU ops.toList e.o) t=true):fl bv L g0 t=fl bv (mj e.i) g0 t:=by
 refine yQ bv rfl λx hx aI => ?_;rcases Fc x.i e.i with h|h|h
 .have:=am.K2 f eZ az (f.Oe hx az h (.inl ⟨aI,.inl ht⟩))
  simp[mj,h,this]
 .rw[h,am.un];simp[mj]
 have:=am.O5 f eZ hx (f.Oe az hx h (.inr ⟨ht,aI⟩));rw[this];simp only[mj];symm;simp;omega
def agC(f:lH E nt ops bv g0 B0){L:Nat->Bool}(eZ:rl ops L){e:fe}(az:e∈bv)(am:Next ops L e){id:Nat}(ht:id∈e.rb\/id∈e.wr.map (·.1)):en bv L B0 id=en bv (mj e.i) B0 id:=by
 refine yP bv rfl λx hx aI => ?_;rcases Fc x.i e.i with h|h|h
 .have:=am.K2 f eZ az (f.jz hx az h (id:=id) (ht.elim (λh=>.inl ⟨aI,h⟩) (λh=>.inr (.inl ⟨aI,h⟩))))
  simp[mj,h,this]
 .rw[h,am.un];simp[mj]
 have:=am.O5 f eZ hx (f.jz az hx h (id:=id) (ht.elim (λh=>.inr (.inr (.inl ⟨h,aI⟩))) (λh=>.inr (.inl ⟨h,aI⟩))));rw[this];simp only[mj];symm;simp;omega
def add(L:Nat->Bool)(j:Nat):Nat->Bool:=λi=>decide (i=j)||L i
def aja(f:lH E nt ops bv g0 B0){L:Nat->Bool}(eZ:rl ops L){e:fe}(az:e∈bv)(am:Next ops L e):lg (fl bv L g0) e.o.dst e.v=fl bv (add L e.i) g0:=by
 funext t;by_cases aI:e.o.dst=some t
 .have O:fl bv (add L e.i) g0 t=fl bv (k_ e.i) g0 t:=yQ bv rfl λx hx Ag=>by
   rcases Fc x.i e.i with h|h|h
   .have:=am.K2 f eZ az (f.Oe hx az h (.inl ⟨Ag,.inr aI⟩))
    simp[k_,add,Pf h,this]
   .rw[h];simp[k_,add]
   have:=am.O5 f eZ hx (f.Oe az hx h (.inl ⟨aI,.inr Ag⟩));have R:¬x.i=e.i:=J;have ai:¬x.i<=e.i:=J;simp[k_,add,this,R,ai]
  rw[O];obtain⟨pre,post,ae,pf,rQ⟩:=f.split az;have R:∀(g:Nat->av),fl (e::post) (k_ e.i) g t=e.v:=λg=>by
   simp only[fl];have:fl post (k_ e.i) (bif k_ e.i e.i then lg g e.o.dst e.v else g) t=fl post (λ_=>false) (bif k_ e.i e.i then lg g e.o.dst e.v else g) t:=yQ _ rfl λx hx _=>by have:=rQ x hx;simp only[k_,decide_eq_false_iff_not];omega
   rw[this];have:∀(l:List fe) (g:Nat->av),fl l (λ_=>false) g=g:=by
    intro l;induction l with
    |nil=>intro g;rfl
    |cons y l ih=>intro g;simp only[fl];exact ih g
   rw[this];simp[k_,aI,lg,px]
  have ai:fl bv (k_ e.i) g0 t=e.v:=by rw[ae,VX];exact R _
  rw[ai];simp[aI,lg,px]
 have O:lg (fl bv L g0) e.o.dst e.v t=fl bv L g0 t:=by
  cases azJ:e.o.dst with
  |none=>rfl
  |some d=>simp only[lg,px];rw[if_neg];intro h;exact aI (by grind)
 rw[O];refine yQ bv rfl λx hx Ag => ?_;by_cases Tw:x.i=e.i
 .have:x=e:=by
   have O:=f.hR hx;have R:=f.hR az
   grind
  grind
 simp[add,Tw]
def ai9(f:lH E nt ops bv g0 B0){L:Nat->Bool}(eZ:rl ops L){e:fe}(az:e∈bv)(am:Next ops L e):dF (en bv L B0) e.wr=en bv (add L e.i) B0:=by
 funext id;by_cases aI:id∈e.wr.map (·.1)
 .have O:en bv (add L e.i) B0 id=en bv (k_ e.i) B0 id:=yP bv rfl λx hx Ag=>by
   rcases Fc x.i e.i with h|h|h
   .have:=am.K2 f eZ az (f.jz hx az h (id:=id) (.inr (.inl ⟨Ag,aI⟩)))
    simp[k_,add,Pf h,this]
   .rw[h];simp[k_,add]
   have:=am.O5 f eZ hx (f.jz az hx h (id:=id) (.inr (.inl ⟨aI,Ag⟩)));have R:¬x.i=e.i:=J;have ai:¬x.i<=e.i:=J;simp[k_,add,this,R,ai]
  rw[O];obtain⟨pre,post,ae,pf,rQ⟩:=f.split az;have R:∀(B:Nat->aU),en (e::post) (k_ e.i) B id=n7 e.wr id (B id):=λB=>by
   simp only[en];have:en post (k_ e.i) (bif k_ e.i e.i then dF B e.wr else B) id=en post (λ_=>false) (bif k_ e.i e.i then dF B e.wr else B) id:=yP _ rfl λx hx _=>by have:=rQ x hx;simp only[k_,decide_eq_false_iff_not];omega
   rw[this];have:∀(l:List fe) (g:Nat->aU),en l (λ_=>false) g=g:=by
    intro l;induction l with
    |nil=>intro g;rfl
    |cons y l ih=>intro g;simp only[en];exact ih g
   rw[this];simp[k_,dF]
  have ai:en bv (k_ e.i) B0 id=n7 e.wr id (en pre (k_ e.i) B0 id):=by rw[ae,VW];exact R _
  rw[ai];exact adi _ _ _ aI
 have O:dF (en bv L B0) e.wr id=en bv L B0 id:=yk _ _ aI;rw[O];refine yP bv rfl λx hx Ag => ?_;by_cases Tw:x.i=e.i
 .have:x=e:=by
   have O:=f.hR hx;have R:=f.hR az
   grind
  grind
 simp[add,Tw]
def Se{o:Oper}{l7:Bool}(O:o.guard=some (j,l7))(R:(ops.toList[j]?).bind (·.dst)=some d):Nat.testBit (kU ops.toList o) d=true:=by
 have Y:∀(l:List Nat),d∈l->Nat.testBit (bits l) d=true:=by
  intro l h;induction l with
  |nil=>simp at h
  |cons x l ih=>
   simp only[bits,PA,BU];rcases hc.1 h with rfl|h
   .left;simp
   right;exact ih h
 refine Y _ (qy _ ?_);rw[O];simp only[Z4];cases aO:ops.toList[j]? with
 |none=>rw[aO]at R;cases R
 |some dz =>rw[aO]at R;have R:dz.dst=some d:=R;simp[R]
def ahR(hT:nA P E.b6)(cA:pP P E.b6 E.C)(hv:qW P E.M)(dK:o1 P E K w0)(dZ:∀f g,E.I f=some g->kF P f g)(f:lH E nt ops bv g0 B0){Q:Exit->Act->World->Prop}{l0:cd}{B3:Nat->Prop}{eY:World}{gT:Act}(eD:nt<=gT.tmps.size)
  (a_:∀phx' aA w' a',bK K w0 phx' aA (en bv (λ_=>true) B0) w'->co l0 B3 B0 eY phx' aA (en bv (λ_=>true) B0) w'->dE phx' (view w' aA) (en bv (λ_=>true) B0) (fl bv (λ_=>true) g0) a'->hF (er ops.toList) gT a'->Q .normal a' w') :
  ∀(gY:Nat) (bZ:Array Bool) (phx:cd) (M:Nat->Prop) (w:World) (a:Act),bZ.size=ops.size->rl ops (fg bZ)->((List.range ops.size).filter λi=>!(fg bZ i)).length<=gY ->
   bK K w0 phx M (en bv (fg bZ) B0) w->co l0 B3 B0 eY phx M (en bv (fg bZ) B0) w->dE phx (view w M) (en bv (fg bZ) B0) (fl bv (fg bZ) g0) a->hF (er ops.toList) gT a->wpAny P .any ops Q gY bZ a w:=by

 have all:∀bZ:Array Bool,bZ.size=ops.size->Region.ready .any ops bZ=[]->∀i,i<ops.size->fg bZ i=true:=by
  intro bZ jA aj i;induction i using Nat.strongRecOn with
  |_ i ih=>
   intro ac;cases hL:fg bZ i with
   |true=>rfl
   |false=>
    exfalso;have mN:i∈Region.ready .any ops bZ:=by
     rw[mem_ready];refine⟨?_,ops[i],tT ac,λe az Y => ?_⟩
     .unfold fg at hL
      have:i<bZ.size:=J;simp[this]at hL ⊢;exact hL
     have bi:=K0 f.edges i ops[i] (by rw[xk];exact tT ac) e (by simpa using az) Y;exact ih e.on J J
    rw[aj]at mN;cases mN
 have f':∀(bZ:Array Bool) (phx:cd) (M:Nat->Prop) (w:World) (a:Act),bZ.size=ops.size->Region.ready .any ops bZ=[]->bK K w0 phx M (en bv (fg bZ) B0) w->co l0 B3 B0 eY phx M (en bv (fg bZ) B0) w ->
   dE phx (view w M) (en bv (fg bZ) B0) (fl bv (fg bZ) g0) a->hF (er ops.toList) gT a->Q .normal a w:=by
  intro bZ phx M w a jA aj hm az ae ap;have hL:=all bZ jA aj;have fb:∀x∈bv,fg bZ x.i=true:=λx hx=>hL _ (by have:=(nF.1 (f.hR hx)).1;rw[f.len]at this;exact this)
  have Ru:en bv (fg bZ) B0=en bv (λ_=>true) B0:=funext λid=>yP bv rfl λx hx _=>fb x hx;have ane:fl bv (fg bZ) g0=fl bv (λ_=>true) g0:=funext λt=>yQ bv rfl λx hx _=>fb x hx;rw[Ru]at hm az ae;rw[ane]at ae;exact a_ phx M w a hm az ae ap
 intro gY;induction gY with
 |zero=>
  intro bZ phx M w a jA eZ abT hm az ae ap;have aj:Region.ready .any ops bZ=[]:=by
   rw[xg];intro i ac;obtain⟨aq,o,aO,_⟩:=mem_ready.1 ac;have bi:i<ops.size:=(iR.1 aO).1;have:i∈(List.range ops.size).filter λi=>!(fg bZ i):=by rw[xn];refine⟨qu.2 bi,?_⟩;unfold fg;have:i<bZ.size:=J;simp[this]at aq ⊢;exact aq
   rw[lJ.1 (Nat.le_zero.1 abT)]at this;cases this
  exact⟨aj,f' bZ phx M w a jA aj hm az ae ap⟩
 |succ gY ih=>
  intro bZ phx M w a jA eZ abT hm az ae ap;refine⟨λaj=>f' bZ phx M w a jA aj hm az ae ap,λj ao => ?_⟩;obtain⟨aq,o,aO,z1⟩:=mem_ready.1 ao;have bi:j<ops.size:=(iR.1 aO).1;have C_:j<bZ.size:=J;have abC:fg bZ j=false:=by unfold fg;simp[C_]at aq ⊢;exact aq

  obtain⟨e,x3⟩:∃e,bv[j]?=some e:=⟨_,kg (by rw[f.len];exact bi)⟩;have mN:e∈bv:=J6 x3;obtain⟨abZ,x4⟩:=f.at x3;have aci:e.o=o:=by rw[xk,aO]at x4;exact(om x4).symm
  have am:Next ops (fg bZ) e:=⟨by rw[abZ];exact abC,λx hx Y=>by rw[aci]at hx;exact z1 x (by simpa using hx) Y⟩
  obtain⟨pre,post,h7,pf,rQ⟩:=f.split mN;have aD:=f.valid;rw[h7]at aD;obtain⟨gx,jg⟩:=xq.at pre aD;have Gt:∀t,Nat.testBit (kU ops.toList e.o) t=true->fl bv (fg bZ) g0 t=fl pre (λ_=>true) g0 t:=λt ht=>by rw[aw5 f eZ mN am ht,<- ayc (g0:=g0) pf rQ t,<- h7]
  have apg:∀id,id∈e.rb->en bv (fg bZ) B0 id=en pre (λ_=>true) B0 id:=λid hid=>by rw[agC f eZ mN am (.inl hid),<- ahC (B0:=B0) pf rQ id,<- h7]
  have aqo:(xr ops.toList e.o (fl bv (fg bZ) g0)/\∃fC,sy fC e.v/\(r6 E e.o).a2 (fl bv (fg bZ) g0) (en bv (fg bZ) B0)=some (fC,dF (en bv (fg bZ) B0) e.wr)) \/
    (E9 ops.toList e.o (fl bv (fg bZ) g0)/\e.v=.undef/\e.wr=[]) \/
    (xr ops.toList e.o (fl bv (fg bZ) g0)/\∃fC,sy fC e.v/\xd E ops.toList e.o (fl bv (fg bZ) g0) (en bv (fg bZ) B0) fC e.rb e.wr):=by
   rcases jg with⟨bu,fC,z?,_,GT⟩|⟨bu,x?,Df,_⟩|⟨_,bu,fC,z?,fb⟩
   .left
    refine⟨?_,fC,z?,GT rfl _ _ Gt apg⟩;rcases bu with bu|⟨Hl,l7,d,bj,bm,cW⟩
    .exact .inl bu
    exact .inr ⟨Hl,l7,d,bj,bm,by rw[Gt d (Se bj bm)];exact cW⟩
   .right;left
    obtain⟨Hl,l7,d,bj,bm,cW⟩:=bu;exact⟨⟨Hl,l7,d,bj,bm,by rw[Gt d (Se bj bm)];exact cW⟩,x?,Df⟩
   right;right;refine⟨?_,fC,z?,fb.congr Gt λid hid => ?_⟩
   .rcases bu with bu|⟨Hl,l7,d,bj,bm,cW⟩
    .exact .inl bu
    exact .inr ⟨Hl,l7,d,bj,bm,by rw[Gt d (Se bj bm)];exact cW⟩
   rw[agC f eZ mN am hid,<- ahC (B0:=B0) pf rQ id,<- h7]
  have Gq:fg (bZ.setIfInBounds j true)=add (fg bZ) e.i:=by funext i;rw[JS C_,abZ];rfl
  have ard:nt<=a.tmps.size:=by rw[ap.1];exact eD
  have rK:=aak (P:=P) (Kn:=wpAny P .any ops Q gY (bZ.setIfInBounds j true)) (Q:=Q) hT cA hv dK dZ gx ard hm ae aqo λphx' aA w' x bE e1 bp=>by
   rw[ai9 f eZ mN am,<- Gq]at bE e1 bp;rw[aja f eZ mN am,<- Gq]at bp;refine ih (bZ.setIfInBounds j true) phx' aA w' _ (by simpa using jA) ?_ ?_ bE (az.trans e1) bp (ap.sub (hF.put (D:=er ops.toList) λd aI => ?_) (λt h=>h) (λt h=>h))
   .intro i aed S9 xZ x hx Y
    rw[JS C_]at xZ ⊢;simp only[BU,decide_eq_true_eq]at xZ ⊢;right;rcases xZ with xZ|xZ
    .subst xZ
     have:aed=e.o:=by rw[x4]at S9;exact(om S9).symm
     subst this;exact am.ed x hx Y
    exact eZ i aed S9 xZ x hx Y
   .have b9:((List.range ops.size).filter λi=>!(fg (bZ.setIfInBounds j true) i)).length<((List.range ops.size).filter λi=>!(fg bZ i)).length:=by
     have G1:((List.range ops.size).filter λi=>!(fg (bZ.setIfInBounds j true) i))=((List.range ops.size).filter λi=>!(fg bZ i)).filter λi=>!(decide (i=j)):=by rw[E3];congr 1;funext i;rw[JS C_,Bool.not_or]
     rw[G1];have lu:j∈((List.range ops.size).filter λi=>!(fg bZ i)):=by rw[xn];exact⟨qu.2 bi,by rw[abC];rfl⟩
     exact List.length_filter_lt_length_iff_exists.2 ⟨j,lu,bf⟩
    omega
   have:∀(l:List Oper),e.o∈l->d∈er l:=by
    intro l hl;induction l with
    |nil=>cases hl
    |cons y l ih=>
     rcases hc.1 hl with h|h
     .exact(ue y l).1 d (by rw[<- h];exact aI)
     exact(ue y l).2 d (ih h)
   exact this _ (J6 x4)
  unfold wpOp;rw[aO];simp only;rw[aci]at rK;split
  .rename_i bu;rw[if_pos bu]at rK;exact .inl rK
  rename_i bu;rw[if_neg bu]at rK;exact rK
def awe(hT:nA P E.b6)(cA:pP P E.b6 E.C)(hv:qW P E.M)(dK:o1 P E K w0)(dZ:∀f g,E.I f=some g->kF P f g)(jh:P.follows .mixedOrders=true)(eD:nt<=1000000){id:Nat}{s:aR}{k:aR->aS ρ}{r:ρ}
  (h:((oS E ops.toList nv nt dx true 0 ops.toList s []).bind k).bI=some r) {phx:cd} {M:Nat->Prop} {w:World} {a:Act} (hm:bK K w0 phx M s.aW w) (ae:dE phx (view w M) s.aW s.bW a) (gI:nt<=a.tmps.size)
  {Q:Exit->Act->World->Prop}
  (a_:∀ax phx' aA w' a',(k ax).bI=some r->d5 (er ops.toList) s ax->bK K w0 phx' aA ax.aW w'->co phx M s.aW w phx' aA ax.aW w'->dE phx' (view w' aA) ax.aW ax.bW a'->hF (er ops.toList) a a'->Q .normal a' w') :
  (Code.region id ops dx).wp P Q a w:=by
 obtain⟨ax,⟨bv,bp,O,R,ai,au,a4,cQ,eh,cy⟩,ap⟩:=afP eD _ _ _ _ _ k r h;have f':∀phx' aA w' a',bK K w0 phx' aA (en bv (λ_=>true) s.aW) w'->co phx M s.aW w phx' aA (en bv (λ_=>true) s.aW) w'->dE phx' (view w' aA) (en bv (λ_=>true) s.aW) (fl bv (λ_=>true) s.bW) a'->hF (er ops.toList) a a'->Q .normal a' w':=by intro phx' aA w' a' bE e1 bp bD;rw[<- a4]at bE e1 bp;rw[<- au]at bp;exact a_ ax phx' aA w' a' ap eh (by rw[cQ.2];exact bE) (by rw[cQ.2];exact e1) (bp.OL cQ) bD
 cases dx with
 |false =>refine wp_region_list ?_;have:=ahS (P:=P) hT cA hv dK dZ (ops:=ops) (Q:=Q) bv ai hm ae gI (by rw[R];exact f');rw[R]at this;exact this
 |true=>
  obtain⟨aj,aO⟩:=cy rfl;simp only[Ir,cM]at aj;refine wp_region_any jh ?_;have f:lH E nt ops bv s.bW s.aW:=⟨by simpa using O,R,ai,aj.2,aj.1,UM (by simpa using aO)⟩;have uq:fg (Array.replicate ops.size false)=λ_=>false:=by funext i;unfold fg;by_cases ac:i<ops.size<;>simp[ac]
  have AB:∀(l:List fe) (B:Nat->aU),en l (λ_=>false) B=B:=by
   intro l;induction l with
   |nil=>intro g;rfl
   |cons y l ih=>intro g;simp only[en,cond];exact ih g
  have Um:∀(l:List fe) (g:Nat->av),fl l (λ_=>false) g=g:=by
   intro l;induction l with
   |nil=>intro g;rfl
   |cons y l ih=>intro g;simp only[fl,cond];exact ih g
  have iI:bK K w0 phx M s.aW { w with drawn:=w.drawn+1 }:={ hm with keep:=hm.keep,blks:=hm.blks };refine ahR (P:=P) (K:=K) (w0:=w0) hT cA hv dK dZ f gI f' ops.size _ phx M { w with drawn:=w.drawn+1 } a bf ?_ ?_ ?_ ?_ ?_ (hF.refl _ _)
  .intro i o _ h;rw[uq]at h;cases h
  .exact fv (sr _ _) bf
  .rw[uq,AB];exact iI
  .rw[uq,AB];exact⟨λ_ _=>rfl,cf.cc.refl _,λ_=>aU.cc.refl _⟩
  rw[uq,AB,Um];exact ae
end
end Yp
namespace Yp
open Go
variable {P:Program}
section
variable {K:Kp} {w0 w:World} {phx:cd} {M:Nat->Prop} {B B':Nat->aU} {g:Nat->av} {H:cf} {E:dl}
def pd{s:aR}{m:aw α}{k:α×aR->aS β}{r:β}(h:((aw.jf s m).bind k).bI=some r):
  ∃a wr,m.a2 s.bW s.aW=some (a,dF s.aW wr)/\(k (a,s.em wr)).bI=some r:=by
 unfold aw.jf at h;rw[aS.fw]at h;obtain⟨a,e,O,R⟩:=aw.afS s m 0 [] [] _ r h;simp only[aR.II,aS.bind]at R;exact⟨a,e.wr,O,R⟩
def ll(phx:cd)(M:Nat->Prop)(B:Nat->aU)(U:Nat->Prop):Prop:=(∀j,(B j).fN=true->∀z,phx j=some z->¬U z.1)/\∀b,U b->M b
def ll.b?{B':Nat->aU}{U:Nat->Prop}(h:ll phx M B U)(aB:∀j,(B' j).fN=true->(B j).fN=true):ll phx M B' U:=⟨λj ao=>h.1 j (aB j ao),h.2⟩
def ll.Wq{aA:Nat->Prop}{U:Nat->Prop}(h:ll phx M B U)(ht:ou phx M B aA B'):ll phx aA B' U:=by refine⟨λj ao=>h.1 j (ht.2 j ao),λb Y=>kZ λam => ?_⟩;obtain⟨j,ao,z,bh,rfl⟩:=ht.1 b (h.2 b Y) am;exact h.1 j ao z bh Y
def vz.b?{lo:Nat->Prop}{U:Nat->Prop}{aA:Nat->Prop}{e:ag}{l:List e.aG}{v:Value}(h:vz w M lo U e l v b)(aD:(view w M).cc (view w aA))(d8:aA b):vz w aA lo U e l v b:=by obtain⟨o,c,el,fz,cap,O,R,ai,au,a4,cQ,eh,cy,mg,pX⟩:=h;exact⟨o,c,el,fz,cap,O,R,ai,au,a4,cQ.mono aD,eh,d8,mg,pX⟩
def Wp(hm:bK K w0 phx M B w){id:Nat}{e:ag}{l:List e.aG}(aB:B id=.ob e l){v:Value}(bV:off+n<=l.length)(aj:h1 phx id e off n v){U:Nat->Prop}(dC:ll phx M B U):
  bK K w0 phx M (c6 B id .fq) w/\co phx M B w phx M (c6 B id .fq) w /\
   ((cut l off n=[]/\(∃a,v=.slice a 0 0)/\ll phx M (c6 B id .fq) U)\/∃b,vz w M (λb=>¬K.k b) U e (cut l off n) v b/\ll phx M (c6 B id .fq) λj=>U j\/j=b):=by
 obtain⟨bE,e1⟩:=hm.fq id;refine⟨bE,e1,?_⟩;have nm:∀j,((c6 B id .fq) j).fN=true->j≠id/\(B j).fN=true:=λj ao=>by
  by_cases h:j=id
  .subst h;rw[e6]at ao;cases ao
  rw[eo _ _ h]at ao;exact⟨h,ao⟩
 have dM:=hm.blks id;rw[aB]at dM;rcases aj with⟨O,a,R⟩|⟨b,o,m,cap,O,R,ai,au,a4⟩
 .left
  exact⟨lJ.1 (by rw[lQ bV];exact O),⟨a,R⟩,dC.b? λj ao=>(nm j ao).2⟩
 rcases dM.2 with⟨bj,_⟩|⟨b',dz,c,el,fz,bj,bm,cW,fU,k7⟩
 .rw[bj]at O;cases O
 rw[O]at bj;cases bj;right;refine⟨b,⟨o+off*e.size,c,el,fz,cap,by rw[lQ bV];exact R,by rw[lQ bV];exact ai,au,by rw[f9]at a4;omega,bm,⟨?_,λi x ac => ?_⟩,fU,k7,?_,dC.1 id (by rw[aB];rfl) _ O⟩,⟨λj ao z bh ah => ?_,λj ao=>ao.elim (dC.2 j) (λh=>h▸k7)⟩⟩
 .rw[lQ bV]
  have:=cW.1;have cQ:(off+n)*e.size<=l.length*e.size:=iT _ bV;rw[f9]at cQ;omega
 .have fb:=Dt ac
  rw[lQ bV]at fb;rw[FU fb]at ac;have:=cW.2 (off+i) x ac
  rwa [f9,<- jJ]at this
 .exact hm.own id (by rw[aB];rfl) _ O
 obtain⟨dS,ab8⟩:=nm j ao;rcases ah with ah|ah
 .exact dC.1 j ab8 z bh ah
 exact hm.sep j id dS ab8 (by rw[aB];rfl) z _ bh O ah
def ayk{r:ez}{v:av}{x:r.aG}{u:Value}(h:(ahM r v).a2 g B=some (x,B'))(hm:bK K w0 phx M B w)(aj:a9 phx (view w M) B v u){U:Nat->Prop}(dC:ll phx M B U):
  ∃aA bS,bK K w0 phx aA B' w/\co phx M B w phx aA B' w/\ll phx aA B' bS/\(∀b,U b->bS b) /\
   ∀{rs:List ez} {y:eq rs} {vs:List Value} {ro:Nat->Prop},(view w aA).cc (view w ro)->(∀b,bS b->ro b)->hH w ro (λb=>¬K.k b) rs y vs bS->hH w ro (λb=>¬K.k b) (r::rs) (x,y) (u::vs) U:=by
 cases r with
 |im t =>obtain⟨cs,aM,aA,bE,e1,dW,_,f1⟩:=Bs h hm aj;exact⟨aA,U,bE,e1,dC.Wq dW,λ_ h=>h,λaD _ hrest=>⟨cs,_,by rw[aM],(f1 rfl).mono aD,hrest⟩⟩
 |cl e=>
  cases v<;>try(cases h;done)
  .cases h
   simp only[a9]at aj;subst aj;exact⟨M,U,hm,co.refl _ _ _ _,dC,λ_ h=>h,λaD _ hrest=>⟨none,_,rfl,aJ.iL.2 ⟨none,0,rfl,bX _,by unfold maxLen;omega,.inl rfl⟩,hrest⟩⟩
  obtain⟨ah,rfl⟩:=dQ h;obtain⟨fG,rfl⟩:=jM ah;subst fG;obtain⟨a,rfl,cA⟩:=aj;exact⟨M,U,hm,co.refl _ _ _ _,dC,λ_ h=>h,λaD _ hrest=>⟨a,_,rfl,cA.mono aD,hrest⟩⟩
 |ow e=>
  replace h:(On e v).a2 g B=some (x,B'):=h;have f':∀{id:Nat} {l:List e.aG} {off n:Nat},B id=.ob e l->off+n<=l.length->h1 phx id e off n u->∃aA bS,bK K w0 phx aA (c6 B id .fq) w/\co phx M B w phx aA (c6 B id .fq) w/\ll phx aA (c6 B id .fq) bS/\(∀b,U b->bS b) /\
    ∀{rs:List ez} {y:eq rs} {vs:List Value} {ro:Nat->Prop},(view w aA).cc (view w ro)->(∀b,bS b->ro b)->hH w ro (λb=>¬K.k b) rs y vs bS->hH w ro (λb=>¬K.k b) (.ow e::rs) ((cut l off n:List e.aG),y) (u::vs) U:=by
   intro id l off n aB bV aO;obtain⟨bE,e1,ai⟩:=Wp hm aB bV aO dC;rcases ai with⟨ai,au,a4⟩|⟨b,ai,a4⟩
   .exact⟨M,U,bE,e1,a4,λ_ h=>h,λaD _ hrest=>⟨_,_,rfl,.inl ⟨ai,au,hrest⟩⟩⟩
   exact⟨M,_,bE,e1,a4,λ_ h=>.inl h,λaD d8 hrest=>⟨_,_,rfl,.inr ⟨b,ai.b? aD (d8 b (.inr rfl)),hrest⟩⟩⟩
  cases v<;>try(cases h;done)
  case nil =>cases h;simp only[a9]at aj;subst aj;exact⟨M,U,hm,co.refl _ _ _ _,dC,λ_ h=>h,λaD _ hrest=>⟨_,_,rfl,.inl ⟨rfl,⟨none,rfl⟩,hrest⟩⟩⟩
  case own id eP=>
   simp only[On,aw.a2]at h;have ae:bJ phx (view w M) B (.own id eP) u:=aj;simp only[bJ]at ae;generalize aB:B id=bl at h ae;cases bl<;>try(cases h;done)
   rename_i bA l;obtain⟨y,cY,O,R⟩:=aw.cH h;obtain⟨ah,jP⟩:=dQ O;obtain⟨fG,rfl⟩:=jM ah;subst fG;cases R;rw[jP];have:=f' aB (off:=0) (n:=l.length) J ae.1;rw[Cx]at this;exact this
  case osl id off n=>
   simp only[On,aw.a2]at h;have ae:bJ phx (view w M) B (.osl id off n) u:=aj;simp only[bJ]at ae;generalize aB:B id=bl at h ae;cases bl<;>try(cases h;done)
   obtain⟨y,cY,O,R⟩:=aw.cH h;obtain⟨ah,jP⟩:=dQ O;obtain⟨fG,rfl⟩:=jM ah;subst fG;cases R;rw[jP];exact f' aB ae.1 ae.2.1
def Ea:∀{rs:List ez} {vs:List av} {us:List Value} {s:aR} {M:Nat->Prop} {ρ:Type} {k:eq rs->aS ρ} {r:ρ} {U:Nat->Prop},((oP s rs vs).bind k).bI=some r ->
  bK K w0 phx M s.aW w->gL phx (view w M) s.aW vs us->ll phx M s.aW U->∃x aA B',(k x).bI=some r/\bK K w0 phx aA B' w/\(view w M).cc (view w aA)/\(∀b,U b->aA b)/\hH w aA (λb=>¬K.k b) rs x us U
 |[],[],[],s,M,ρ,k,r,U,h,hm,_,dC=>⟨(),M,_,h,hm,cf.cc.refl _,dC.2,rfl⟩
 |[],[],_::_,s,M,ρ,k,r,U,h,hm,hp,dC=>hp.elim
 |[],_::_,_,s,M,ρ,k,r,U,h,hm,hp,dC=>by cases h
 |_::_,[],_,s,M,ρ,k,r,U,h,hm,hp,dC=>by cases h
 |_::_,_::_,[],s,M,ρ,k,r,U,h,hm,hp,dC=>hp.elim
 |t::rs,v::vs,u::us,s,M,ρ,k,r,U,h,hm,hp,dC=>by simp only[oP]at h;rw[aS.fw]at h;obtain⟨x,wr,O,R⟩:=pd h;simp only at R;rw[aS.fw]at R;obtain⟨fR,tX,bE,e1,dW,bV,wb⟩:=ayk O hm hp.1 dC;rw[<- aR.nW]at bE e1 dW;obtain⟨y,c',b2,bG,ca,cr,du,eW⟩:=Ea R bE (hp.2.ext e1) dW;exact⟨(x,y),c',b2,bG,ca,e1.vw.trans cr,λb Y=>du b (bV b Y),wb cr du eW⟩
def tk(P:Program)(tmps:Array Value)(w:World):List ResultVar->List Value->Prop
 |[],us=>us=[]
 |.tmp t::rs,us=>∃tE,us=tmps.getD t undef::tE/\tk P tmps w rs tE
 |.cell a t::rs,us=>∃ad u tE,us=u::tE/\tmps.getD a undef=.pointer (some ad)/\(loadVar t ad).run P w=.ok u w/\tk P tmps w rs tE
def yH(hT:nA P E.b6):∀{l:List ResultVar} {s:aR} {ρ:Type} {k:List av->aS ρ} {r:ρ} {a:Act},((ny E s l).bind k).bI=some r->bK K w0 phx M s.aW w->dE phx (view w M) s.aW s.bW a ->
  ∃vs us,(k vs).bI=some r/\gL phx (view w M) s.aW vs us/\tk P a.tmps w l us
 |[],s,ρ,k,r,a,h,hm,ae=>⟨[],[],h,trivial,rfl⟩
 |VB::l,s,ρ,k,r,a,h,hm,ae=>by
  simp only[ny]at h;rw[aS.fw]at h;obtain⟨v,wr,O,R⟩:=pd h;rw[aS.fw]at R;cases VB with
  |tmp t =>simp only[afA,aw.a2,kY,lk]at O;obtain⟨rfl,aB⟩:=O;obtain⟨vs,us,ai,au,a4⟩:=yH hT R hm ae;exact⟨s.bW t::vs,a.tmps.getD t undef::us,ai,⟨ae t,au⟩,us,rfl,a4⟩
  |cell ad t=>
   obtain⟨ty,ht,O⟩:=lY O;simp only[aw.a2]at O;have hp:=ae ad;obtain⟨aB,u,bj,bm⟩:=adb (hT _ _ ht) O hm hp;obtain⟨vs,us,ai,au,a4⟩:=yH hT R hm ae;have art:∃q,a.tmps.getD ad undef=.pointer (some q):=by
    generalize s.bW ad=pv at O hp;cases pv<;>try(cases O;done)
    case ptr id p=>
     simp only[yj,aw.a2]at O;have hp:bJ phx (view w M) s.aW (.ptr id p) (a.tmps.getD ad undef):=hp;simp only[bJ]at hp;generalize s.aW id=bl at O hp;cases bl<;>try(cases O;done)
     grind
    case opt id i p=>
     simp only[yj,aw.a2]at O;have hp:bJ phx (view w M) s.aW (.opt id i p) (a.tmps.getD ad undef):=hp;simp only[bJ]at hp;generalize s.aW id=bl at O hp;cases bl<;>try(cases O;done)
     all_goals
      grind
    case ipt e l i p =>obtain⟨_,b,o,n,off,t',_,_,e⟩:=hp;exact⟨_,e⟩
   obtain⟨q,a_⟩:=art;rw[a_]at bj;refine⟨v::vs,u::us,ai,⟨bm,au⟩,q,u,us,rfl,a_,?_,a4⟩;simpa[Instr.loadAt,Instr.sureAddr]using bj
def wP{fn:Func}{tmps:Array Value}{us:List Value}(h:tk P tmps w fn.results.toList us):(results fn tmps).run P w=.ok (jI us) w:=by
 have key:∀(f:ResultVar->Sem Value),(∀t,f (.tmp t)=pure (tmps.getD t undef))->(∀a t,f (.cell a t)=do loadVar t (<- asAddr (tmps.getD a undef))) ->
   ∀(l:List ResultVar) (us:List Value),tk P tmps w l us->(l.mapM f).run P w=Result.ok us w:=by
  intro f f1 f2 l;induction l with
  |nil=>intro us h;cases h;rfl
  |cons VB l ih=>
   intro us h;cases VB with
   |tmp t =>obtain⟨tE,rfl,h⟩:=h;simp[Ph,ih tE h,f1]
   |cell a t =>obtain⟨ad,u,tE,rfl,O,R,ai⟩:=h;simp only[Ph,f2,O,asAddr];simp[ih tE ai,R]
 unfold results;rw[Array.mapM_eq_mapM_toList];simp only[Sem.run_bind,Sem.run_map];rw[key _ (λ_=>rfl) (λ_ _=>rfl) _ _ h];match us with
 |[]=>rfl
 |[_]=>rfl
 |_::_::_=>rfl
end
end Yp
namespace Yp
open Go
variable {P:Program}
def i5(B B':Nat->aU):Prop:=∀id,((∃t v,B id=.box t v)\/∃s p,B id=.it s p)->B' id=B id
def i5.refl(B:Nat->aU):i5 B B:=λ_ _=>rfl
def i5.trans{B B' EV:Nat->aU}(h:i5 B B')(k:i5 B' EV):i5 B EV:=λid ac=>by have O:=h id ac;rw[k id (by grind),O]
def i5.cg{B:Nat->aU}{id:Nat}{e:ag}{l:List e.aG}(h:B id=.ob e l)(b:aU):i5 B (c6 B id b):=λj ao=>by
 rw[eo]
 grind
section
variable {g:Nat->av}
def awJ{eU:Bool}{id:Nat}{e:ag}{x:List e.aG}{B B':Nat->aU}(h:(tl eU id e).a2 g B=some (x,B')):i5 B B':=by
 simp only[tl,aw.a2]at h;generalize aB:B id=bl at h;cases bl<;>try(cases h;done)
 .obtain⟨y,cY,O,R⟩:=aw.cH h
  obtain⟨_,jP⟩:=dQ O;cases eU with
  |false=>cases R;rw[jP];exact i5.refl _
  |true=>cases R;rw[jP];exact i5.cg aB _
 obtain⟨_,O⟩:=dQ h;rw[O];exact i5.refl _
def ahL{eU:Bool}:∀{pv:av} {t:ag} {x:t.aG} {B B':Nat->aU},AF pv=true->(w1 eU pv t).a2 g B=some (x,B')->i5 B B':=by
 intro pv;induction pv with
 |own id eP=>
  intro t x B B' _ h;cases t<;>try(cases h;done)
  exact awJ h
 |osl id off n=>intro t x B B' am;cases am
 |two u v aM aD=>
  intro t x B B' am h;simp only[AF,cM]at am;cases t<;>try(cases h;done)
  obtain⟨y,cY,O,R⟩:=aw.cH h;obtain⟨z,b2,ai,au⟩:=aw.cH R;cases au;exact(aM am.1 O).trans (aD am.2 ai)
 |agg t' u aM =>intro t x B B' am h;have bB:(bif ag.is t' t then w1 eU u t else .fail:aw t.aG).a2 g B=some (x,B'):=h;obtain⟨_,bB⟩:=gU bB;exact aM am bB
 |sc t' y=>intro t x B B' _ h;obtain⟨_,O⟩:=dQ h;rw[O];exact i5.refl _
 |kb b=>intro t x B B' _ h;obtain⟨_,O⟩:=dQ h;rw[O];exact i5.refl _
 |nil=>intro t x B B' _ h;obtain⟨_,O⟩:=dQ h;rw[O];exact i5.refl _
 |csl e l=>intro t x B B' _ h;obtain⟨_,O⟩:=dQ h;rw[O];exact i5.refl _
 |clo f dU cZ=>intro t x B B' _ h;obtain⟨_,O⟩:=dQ h;rw[O];exact i5.refl _
 |_=>intro t x B B' _ h;cases h
def aeP{e:ag}{pv:av}{x:List e.aG}{B B':Nat->aU}(h:(wG e pv).a2 g B=some (x,B')):i5 B B':=by
 cases pv<;>try(cases h;done)
 .obtain⟨_,h⟩:=gU (h)
  cases h;exact i5.refl _
 .rename_i id eP
  simp only[wG,aw.a2]at h;generalize aB:B id=bl at h;cases bl<;>try(cases h;done)
  obtain⟨y,cY,O,R⟩:=aw.cH h;obtain⟨_,jP⟩:=dQ O;cases R;rw[jP];exact i5.cg aB _
 rename_i id off n;simp only[wG,aw.a2]at h;generalize aB:B id=bl at h;cases bl<;>try(cases h;done)
 obtain⟨y,cY,O,R⟩:=aw.cH h;obtain⟨_,jP⟩:=dQ O;cases R;rw[jP];exact i5.cg aB _
def UO:∀{sh:kG} {pv:av} {x:sh.aG} {B B':Nat->aU},(AR sh pv).a2 g B=some (x,B')->i5 B B'
 |.d t,pv,x,B,B',h=>by obtain⟨am,h⟩:=gU (h);exact ahL (pv:=pv) am h
 |.o _ e,pv,x,B,B',h=>aeP h
 |.p a b,pv,x,B,B',h=>by
  simp only[AR]at h;cases ae:Oi pv with
  |none=>rw[ae]at h;cases h
  |some ayD =>rw[ae]at h;obtain⟨y,cY,O,R⟩:=aw.cH h;obtain⟨z,b2,ai,au⟩:=aw.cH R;cases au;exact(UO O).trans (UO ai)
end
def rq(w:World)(M:Nat->Prop)(lo:Nat->Prop):(sh:kG)->sh.aG->List Value->(Nat->Prop)->(Nat->Prop)->Prop
 |.d t,x,cs,U,bS=>aJ (view w M) t x cs/\bS=U
 |.o _ e,l,cs,U,bS=>0<e.size/\∃v,cs=[v]/\v.oneCell'=true/\(((l:List e.aG)=[]/\(∃a,v=.slice a 0 0)/\bS=U)\/∃b,vz w M lo U e l v b/\bS=λj=>U j\/j=b)
 |.p a b,x,cs,U,bS=>∃c1 c2 i6,cs=c1++c2/\rq w M lo a x.1 c1 U i6/\rq w M lo b x.2 c2 i6 bS
def rq.one{w:World}{M:Nat->Prop}{lo:Nat->Prop}:∀{sh:kG} {x:sh.aG} {cs:List Value} {U bS:Nat->Prop},rq w M lo sh x cs U bS->∀v∈cs,v.oneCell'=true
 |.d t,x,cs,U,bS,h=>h.1.one
 |.o _ e,l,cs,U,bS,h=>by obtain⟨_,v,rfl,O,_⟩:=h;intro w bu;simp at bu;rw[bu];exact O
 |.p a b,x,cs,U,bS,h=>by obtain⟨c1,c2,i6,rfl,O,R⟩:=h;intro v aD;exact(iQ.1 aD).elim (O.one v) (R.one v)
def rq.sub{w:World}{M:Nat->Prop}{lo:Nat->Prop}:∀{sh:kG} {x:sh.aG} {cs:List Value} {U bS:Nat->Prop},rq w M lo sh x cs U bS->∀b,U b->bS b
 |.d t,x,cs,U,bS,h=>by intro b Y;rw[h.2];exact Y
 |.o _ e,l,cs,U,bS,h=>by
  obtain⟨_,v,_,_,h⟩:=h
  grind
 |.p a b,x,cs,U,bS,h=>by obtain⟨c1,c2,i6,_,O,R⟩:=h;exact λb Y=>R.sub b (O.sub b Y)
def rq.b?{w:World}{M aA:Nat->Prop}{lo:Nat->Prop}(aD:(view w M).cc (view w aA)):∀{sh:kG} {x:sh.aG} {cs:List Value} {U bS:Nat->Prop},rq w M lo sh x cs U bS->(∀b,bS b->aA b)->rq w aA lo sh x cs U bS
 |.d t,x,cs,U,bS,h,_=>⟨h.1.mono aD,h.2⟩
 |.o _ e,l,cs,U,bS,h,d8=>by
  obtain⟨aq,v,O,R,h⟩:=h;refine⟨aq,v,O,R,?_⟩;rcases h with h|⟨b,h,ai⟩
  .grind
  exact .inr ⟨b,h.b? aD (d8 b (by grind)),ai⟩
 |.p a b,x,cs,U,bS,h,d8=>by obtain⟨c1,c2,i6,aq,O,R⟩:=h;exact⟨c1,c2,i6,aq,O.b? aD (λb Y=>d8 b (R.sub b Y)),R.b? aD d8⟩
section
variable {K:Kp} {w0 w:World} {phx:cd} {M:Nat->Prop} {B B':Nat->aU} {g:Nat->av}
def axN{H:cf}{pv u v:av}{ahu od:ag}{cs:List Value}(h:Oi pv=some (u,v))(aj:fh phx H B pv (.pair ahu od) cs):∃c1 c2,cs=c1++c2/\fh phx H B u ahu c1/\fh phx H B v od c2:=by
 cases pv<;>try(cases h;done)
 .rename_i t x
  cases t<;>try(cases h;done)
  cases h;obtain⟨e,cA⟩:=aj;cases e;obtain⟨c1,c2,aq,O,R⟩:=aJ.mU.1 cA;exact⟨c1,c2,aq,⟨rfl,O⟩,rfl,R⟩
 cases h;exact aj
def aeO{e:ag}{pv:av}{x:List e.aG}{v:Value}(h:(wG e pv).a2 g B=some (x,B'))(hm:bK K w0 phx M B w)(aj:bJ phx (view w M) B pv v){U:Nat->Prop}(dC:ll phx M B U):
  0<e.size/\v.oneCell'=true/\∃bS,bK K w0 phx M B' w/\co phx M B w phx M B' w/\ll phx M B' bS/\((x=[]/\(∃a,v=.slice a 0 0)/\bS=U)\/∃b,vz w M (λb=>¬K.k b) U e x v b/\bS=λj=>U j\/j=b):=by
 cases pv<;>try(cases h;done)
 .obtain⟨aq,h⟩:=gU (show(bif Nat.blt 0 e.size then .ret []else .fail:aw (List e.aG)).a2 g B=some (x,B') from h)
  cases h;simp only[bJ]at aj;subst aj;exact⟨by simpa using aq,rfl,U,hm,co.refl _ _ _ _,dC,.inl ⟨rfl,⟨none,rfl⟩,rfl⟩⟩
 .rename_i id eP
  simp only[wG,aw.a2]at h;have dM:=hm.blks id;simp only[bJ]at aj;generalize aB:B id=bl at h aj dM;cases bl<;>try(cases h;done)
  rename_i bA l;obtain⟨y,cY,O,R⟩:=aw.cH h;obtain⟨ah,jP⟩:=dQ O;obtain⟨fG,rfl⟩:=jM ah;subst fG;cases R;rw[jP];obtain⟨bE,e1,ai⟩:=Wp hm aB (off:=0) (n:=l.length) J aj.1 dC;rw[Cx]at ai;obtain⟨ad,c,aD⟩:=aj.1.slice;refine⟨dM.1,by rw[aD];rfl,?_⟩;rcases ai with⟨ai,au,a4⟩|⟨b,ai,a4⟩
  .exact⟨U,bE,e1,a4,.inl ⟨ai,au,rfl⟩⟩
  exact⟨_,bE,e1,a4,.inr ⟨b,ai,rfl⟩⟩
 rename_i id off n;simp only[wG,aw.a2]at h;have dM:=hm.blks id;simp only[bJ]at aj;generalize aB:B id=bl at h aj dM;cases bl<;>try(cases h;done)
 rename_i bA l;obtain⟨y,cY,O,R⟩:=aw.cH h;obtain⟨ah,jP⟩:=dQ O;obtain⟨fG,rfl⟩:=jM ah;subst fG;cases R;rw[jP];obtain⟨bE,e1,ai⟩:=Wp hm aB aj.1 aj.2.1 dC;obtain⟨ad,c,aD⟩:=aj.2.1.slice;refine⟨dM.1,by rw[aD];rfl,?_⟩;rcases ai with⟨ai,au,a4⟩|⟨b,ai,a4⟩
 .exact⟨U,bE,e1,a4,.inl ⟨ai,au,rfl⟩⟩
 exact⟨_,bE,e1,a4,.inr ⟨b,ai,rfl⟩⟩
def UN:∀{sh:kG} {pv:av} {x:sh.aG} {M:Nat->Prop} {B B':Nat->aU} {cs:List Value} {U:Nat->Prop},(AR sh pv).a2 g B=some (x,B')->bK K w0 phx M B w->fh phx (view w M) B pv (Eo sh) cs->ll phx M B U ->
  ∃aA bS,bK K w0 phx aA B' w/\co phx M B w phx aA B' w/\ll phx aA B' bS/\rq w aA (λb=>¬K.k b) sh x cs U bS
 |.d t,pv,x,M,B,B',cs,U,h,hm,aj,dC=>by obtain⟨_,h⟩:=gU (h);obtain⟨aA,bE,e1,dW,_,f1⟩:=Jb (pv:=pv) h hm aj;exact⟨aA,U,bE,e1,dC.Wq dW,f1 rfl,rfl⟩
 |.o _ e,pv,x,M,B,B',cs,U,h,hm,aj,dC=>by
  have bB:(wG e pv).a2 g B=some (x,B'):=h;have kk:∃v,cs=[v]/\bJ phx (view w M) B pv v:=by
   cases pv<;>try(cases bB;done)
   all_goals (obtain⟨_,v,O,_,R⟩:=aj;exact⟨v,O,R⟩)
  obtain⟨v,rfl,kk⟩:=kk;obtain⟨aq,O,bS,bE,e1,dW,R⟩:=aeO bB hm kk dC;exact⟨M,bS,bE,e1,dW,aq,v,rfl,O,R⟩
 |.p a b,pv,x,M,B,B',cs,U,h,hm,aj,dC=>by
  simp only[AR]at h;cases ae:Oi pv with
  |none=>rw[ae]at h;cases h
  |some ayD =>rw[ae]at h;obtain⟨y,cY,O,R⟩:=aw.cH h;obtain⟨z,b2,ai,au⟩:=aw.cH R;cases au;obtain⟨c1,c2,rfl,ek,e8⟩:=axN ae aj;obtain⟨fR,tX,bE,e1,dW,f1⟩:=UN O hm ek dC;obtain⟨c',ai0,cq,aT,eF,f2⟩:=UN ai bE (e1.b6 e8) dW;exact⟨c',ai0,cq,e1.trans aT,eF,c1,c2,tX,rfl,f1.b? aT.vw (λb Y=>eF.2 b (f2.sub b Y)),f2⟩
end
def hZ(phx:cd)(w:World)(M:Nat->Prop)(B:Nat->aU)(lo:Nat->Prop)(a:Act):(es:List fc)->nd es->(Nat->Prop)->(Nat->Prop)->Prop
 |[],_,U,bS=>bS=U
 |.sl i t::r,x,U,bS=>(∃cs,aJ (view w M) t x.1 cs/\a.tmps.getD i undef=cB t cs)/\hZ phx w M B lo a r x.2 U bS
 |.ow i _ e::r,x,U,bS=>0<e.size/\∃i6,(((x.1:List e.aG)=[]/\(∃ad,a.tmps.getD i undef=.slice ad 0 0)/\i6=U)\/∃b,vz w M lo U e x.1 (a.tmps.getD i undef) b/\i6=λj=>U j\/j=b)/\hZ phx w M B lo a r x.2 i6 bS
 |.bk id e::r,x,U,bS=>B id=.ob e x.1/\hZ phx w M B lo a r x.2 U bS
 |.bx id t sh::r,x,U,bS=>(∃v,B id=.box t v)/\Eo sh=t/\∃b o c el fz i6,phx id=some (b,o,Array.size c)/\w.heap[b]?=some (.cells c el fz)/\o+t.size<=c.size/\iA c fz/\M b/\rq w M lo sh x.1 (cJ c o t.size) U i6/\hZ phx w M B lo a r x.2 i6 bS
 |.it id _::r,x,U,bS=>(∃s,B id=.it s x.1)/\hZ phx w M B lo a r x.2 U bS
def hZ.sub{phx:cd}{w:World}{M:Nat->Prop}{B:Nat->aU}{lo:Nat->Prop}{a:Act}:∀{es:List fc} {x:nd es} {U bS:Nat->Prop},hZ phx w M B lo a es x U bS->∀b,U b->bS b
 |[],_,U,bS,h=>by intro b Y;have h:bS=U:=h;rw[h];exact Y
 |.sl i t::r,x,U,bS,h=>h.2.sub
 |.ow i _ e::r,x,U,bS,h=>by
  obtain⟨_,i6,O,R⟩:=h;intro b Y;refine R.sub b ?_
  grind
 |.bk id e::r,x,U,bS,h=>h.2.sub
 |.bx id t sh::r,x,U,bS,h=>by obtain⟨_,_,b,o,c,el,fz,i6,_,_,_,_,_,O,R⟩:=h;exact λb Y=>R.sub b (O.sub b Y)
 |.it id s::r,x,U,bS,h=>h.2.sub
end Yp
namespace Yp
open Go
def nH:=@List.nodup_append
def Fd:=@List.sublist_cons_self
def Xx:=@List.map_append
def Pb:=@List.Sublist.append_left
def E1:=@List.nodup_cons
variable {P:Program}
section
variable {K:Kp} {w0 w:World} {phx:cd} {M:Nat->Prop} {B B':Nat->aU} {g:Nat->av} {a:Act}
def i5.box{B B':Nat->aU}(h:i5 B B'){id:Nat}{t:ag}{v:av}(Y:B id=.box t v):B' id=.box t v:=(h id (.inl ⟨t,v,Y⟩)).trans Y
def i5.it{B B':Nat->aU}(h:i5 B B'){id:Nat}{s:List UInt8}{p:Nat}(Y:B id=.it s p):B' id=.it s p:=(h id (.inr ⟨s,p,Y⟩)).trans Y
def AQ:∀{es:List fc} {s:aR} {M:Nat->Prop} {U:Nat->Prop} {ρ:Type} {k:nd es×aR->aS ρ} {r:ρ},((r8 s es).bind k).bI=some r->bK K w0 phx M s.aW w->dE phx (view w M) s.aW s.bW a->ll phx M s.aW U ->
  ∃y ax c' bS,(k (y,ax)).bI=some r/\bK K w0 phx c' ax.aW w/\co phx M s.aW w phx c' ax.aW w/\ax.bW=s.bW/\d5 [] s ax/\i5 s.aW ax.aW/\ll phx c' ax.aW bS/\hZ phx w c' ax.aW (λb=>¬K.k b) a es y U bS
 |[],s,M,U,ρ,k,r,h,hm,ae,dC=>⟨(),s,M,U,h,hm,co.refl _ _ _ _,rfl,d5.refl _ _,i5.refl _,dC,rfl⟩
 |.bk id e::es,s,M,U,ρ,k,r,h,hm,ae,dC=>by
  simp only[r8,Aj,cond_true]at h;rw[aS.fw]at h;obtain⟨y,ax,c',bS,O,cq,aT,eF,f2,rd,oV,qE⟩:=AQ h hm ae dC;rw[aS.fw]at O;simp only[AP]at O;obtain⟨x,wr,ai,au⟩:=pd O;simp only[aw.a2]at ai;generalize aB:ax.aW id=bl at ai;cases bl<;>try(cases ai;done)
  rename_i bA l;obtain⟨ah,kN⟩:=dQ ai;obtain⟨fG,rfl⟩:=jM ah;subst fG;rw[<- aR.nW]at kN;refine⟨(l,y),ax.em wr,c',bS,au,by rw[kN];exact cq,by rw[kN];exact aT,by rw[aR.qi];exact eF,(f2.trans (d5.em wr [])).mono bf,by rw[kN];exact rd,by rw[kN];exact oV,?_⟩;rw[kN];exact⟨aB,qE⟩
 |.sl i t::es,s,M,U,ρ,k,r,h,hm,ae,dC=>by simp only[r8,Aj,cond_false]at h;rw[aS.fw]at h;simp only[AP]at h;obtain⟨x,wr,O,R⟩:=pd h;simp only at R;rw[aS.fw]at R;simp only[aw.a2]at O;obtain⟨v?,O⟩:=gU (show(bif AF (s.bW i) then m2 true t (s.bW i) else .fail:aw t.aG).a2 _ _=some (x,_) from O);obtain⟨cs,aD,fR,bE,e1,dW,_,f1⟩:=Bs O hm (ae i);have e4:=ahL (pv:=s.bW i) v? O;rw[<- aR.nW]at bE e1 dW e4;obtain⟨y,ax,c',bS,ai,cq,aT,eF,f2,rd,oV,qE⟩:=AQ R bE (by rw[aR.qi];exact ae.ext e1) (dC.Wq dW);exact⟨(x,y),ax,c',bS,ai,cq,e1.trans aT,eF.trans (aR.qi s wr),((d5.em wr []).trans f2).mono bf,e4.trans rd,oV,⟨cs,(f1 rfl).mono aT.vw,aD⟩,qE⟩
 |.ow i id e::es,s,M,U,ρ,k,r,h,hm,ae,dC=>by
  simp only[r8,Aj,cond_false]at h;rw[aS.fw]at h;simp only[AP]at h;obtain⟨x,wr,O,R⟩:=pd h;simp only at R;rw[aS.fw]at R;simp only[aw.a2]at O;have kk:bJ phx (view w M) s.aW (s.bW i) (a.tmps.getD i undef):=by
   have aj:=ae i;generalize s.bW i=pv at O aj;cases pv<;>try(cases O;done)
   all_goals exact aj
  obtain⟨aq,hone,tX,bE,e1,dW,f1⟩:=aeO O hm kk dC;have e4:=aeP O;rw[<- aR.nW]at bE e1 dW e4;obtain⟨y,ax,c',bS,ai,cq,aT,eF,f2,rd,oV,qE⟩:=AQ R bE (by rw[aR.qi];exact ae.ext e1) dW;refine⟨(x,y),ax,c',bS,ai,cq,e1.trans aT,eF.trans (aR.qi s wr),((d5.em wr []).trans f2).mono bf,e4.trans rd,oV,aq,tX,?_,qE⟩;rcases f1 with f1|⟨b,f1,f3⟩
  .exact .inl f1
  exact .inr ⟨b,f1.b? aT.vw (oV.2 b (qE.sub b (by rw[f3];exact .inr rfl))),f3⟩
 |.bx id t sh::es,s,M,U,ρ,k,r,h,hm,ae,dC=>by
  simp only[r8,Aj,cond_false]at h;rw[aS.fw]at h;simp only[AP]at h;obtain⟨x,wr,O,R⟩:=pd h;simp only at R;rw[aS.fw]at R;simp only[aw.a2]at O;have dM:=hm.blks id;generalize aB:s.aW id=bl at O dM;cases bl<;>try(cases O;done)
  rename_i t' v;obtain⟨ah,O⟩:=gU O;simp only[cM]at ah;have e1:=eV ah.1;subst e1;have rS:=eV ah.2;obtain⟨b,o,c,el,fz,bj,bm,cW,fU,k7,sT⟩:=dM;obtain⟨fR,tX,bE,e1,dW,f1⟩:=UN O hm (by rw[rS];exact fU) dC;have e4:=UO O;rw[<- aR.nW]at bE e1 dW e4;obtain⟨y,ax,c',bS,ai,cq,aT,eF,f2,rd,oV,qE⟩:=AQ R bE (by rw[aR.qi];exact ae.ext e1) dW;have kN:ax.aW id=.box t' v:=(e4.trans rd).box aB;have apn:c' b:=by have:=cq.blks id;rw[kN]at this;obtain⟨b',dz,cN,xK,pW,bG,_,_,_,_,lh⟩:=this;rw[bj]at bG;simp only[kY,lk]at bG;rw[bG.1];exact lh
  exact⟨(x,y),ax,c',bS,ai,cq,e1.trans aT,eF.trans (aR.qi s wr),((d5.em wr []).trans f2).mono bf,e4.trans rd,oV,⟨v,kN⟩,rS,b,o,c,el,fz,tX,bj,bm,cW,k7,apn,
   f1.b? aT.vw (λb Y=>oV.2 b (qE.sub b Y)),qE⟩
 |.it id str::es,s,M,U,ρ,k,r,h,hm,ae,dC=>by
  simp only[r8,Aj,cond_false]at h;rw[aS.fw]at h;simp only[AP]at h;obtain⟨x,wr,O,R⟩:=pd h;simp only at R;rw[aS.fw]at R;simp only[aw.a2]at O;generalize aB:s.aW id=bl at O;rcases bl with _|_|_|_|_|⟨axY,p⟩|_
  .cases O
  .cases O
  .cases O
  .cases O
  .cases O
  .have xY:=om (show some ((p:Nat),s.aW)=some ((x:Nat),dF s.aW wr) from O)
   have hx:p=x:=congrArg Prod.fst xY;have jP:s.aW=dF s.aW wr:=congrArg Prod.snd xY;rw[<- aR.nW]at jP;obtain⟨y,ax,c',bS,ai,cq,aT,eF,f2,rd,oV,qE⟩:=AQ R (by rw[<- jP];exact hm) (by rw[aR.qi,<- jP];exact ae) (by rw[<- jP];exact dC);rw[<- jP]at aT rd;exact⟨(x,y),ax,c',bS,ai,cq,aT,eF.trans (aR.qi s wr),((d5.em wr []).trans f2).mono bf,rd,oV,⟨axY,by rw[<- hx];exact rd.it aB⟩,qE⟩
  cases O
def aU.cc.trans{a b c:aU}(h:a.cc b)(k:b.cc c):a.cc c:=by cases a<;>cases b<;>cases c<;>simp only[aU.cc]at h k ⊢ <;> first|exact h.elim|exact k.elim|trivial|exact h.trans k|exact⟨h.1.trans k.1,h.2.trans k.2⟩|exact⟨h.trans k.1,k.2⟩|(obtain⟨O,R⟩:=h;obtain⟨rfl,au⟩:=k;exact⟨by rw[O,au],R⟩)
def BT(phx:cd)(B:Nat->aU)(Uf A:Nat->Prop):Prop:=∀j,(B j).fN=true->∀z,phx j=some z->¬Uf z.1\/A z.1
def XD(hm:bK K w0 phx M B w){id:Nat}(hid:B id=.new){e:ag}(dN:0<e.size){l:List e.aG}{v:Value}{U bS Uf A:Nat->Prop}
  (h:(l=[]/\(∃ad,v=.slice ad 0 0)/\bS=U)\/∃b,vz w M (λb=>¬K.k b) U e l v b/\bS=λj=>U j\/j=b) (nk:∀b,bS b->Uf b) (dJ:∀b,A b->bS b->U b) (cD:BT phx B Uf A) :
  ∃phx',bK K w0 phx' M (c6 B id (.ob e l)) w/\co phx M B w phx' M (c6 B id (.ob e l)) w/\bJ phx' (view w M) (c6 B id (.ob e l)) (.own id false) v/\(∀j,j≠id->phx' j=phx j)/\BT phx' (c6 B id (.ob e l)) Uf (λb=>A b\/(bS b/\¬U b)):=by
 rcases h with⟨rfl,⟨ad,rfl⟩,rfl⟩|⟨b,⟨o,c,el,fz,cap,rfl,bD,b1,dy,gb,gN,j9,kP,kQ,uF⟩,rfl⟩
 .obtain⟨bE,e1⟩:=hm.vF hid (.ob e []) none (λ_ y bs=>by cases bs) (λ_ y bs=>by cases bs) (λ_=>⟨dN,.inl ⟨mx _ _ _,rfl⟩⟩)
  refine⟨_,bE,e1,?_,λj ao=>rf _ _ ao,λj ao z bh => ?_⟩
  .simp only[bJ,e6]
   exact⟨.inl ⟨rfl,ad,rfl⟩,λh=>by cases h⟩
  by_cases dS:j=id
  .subst dS;rw[mx]at bh;cases bh
  rw[eo _ _ dS]at ao;rw[rf _ _ dS]at bh;exact(cD j ao z bh).imp (λh=>h) .inl
 obtain⟨bE,e1⟩:=hm.vF hid (.ob e l) (some (b,o,c.size)) (λ_ y bs ap=>by cases bs;exact kQ ap) (λ_ y bs j ao z bh ah=>by
   rcases cD j ao z bh with h|h
   .grind
   exact uF (by grind)) (λ_=>⟨dN,.inr ⟨b,o,c,el,fz,mx _ _ _,gb,gN,j9,kP⟩⟩)
 refine⟨_,bE,e1,?_,λj ao=>rf _ _ ao,λj ao z bh => ?_⟩
 .simp only[bJ,e6]
  exact⟨.inr ⟨b,o,c.size,cap,mx _ _ _,bf,bD,b1,by simpa using dy⟩,λh=>by cases h⟩
 by_cases dS:j=id
 .subst dS;rw[mx]at bh;cases bh;exact .inr (.inr ⟨.inr rfl,uF⟩)
 rw[eo _ _ dS]at ao;rw[rf _ _ dS]at bh;exact(cD j ao z bh).imp (λh=>h) .inl
def aeM(B:Nat->aU):∀(l m:List (Nat×aU)),dF B (l++m)=dF (dF B m) l
 |[],m=>rfl
 |(i,b)::l,m=>by rw[l9,yu,aeM B l m,yu]
def TF{Uf:Nat->Prop}:∀{sh:kG} {x:sh.aG} {cs:List Value} {U bS A:Nat->Prop} {B:Nat->aU} {phx:cd},bK K w0 phx M B w->(∀id∈l4 sh,B id=.new)->(l4 sh).Nodup ->
  rq w M (λb=>¬K.k b) sh x cs U bS->(∀b,bS b->Uf b)->(∀b,A b->bS b->U b)->BT phx B Uf A ->
  ∃phx' O7,bK K w0 phx' M (dF B (g6 sh x).2) w/\co phx M B w phx' M (dF B (g6 sh x).2) w/\fh phx' (view w M) (dF B (g6 sh x).2) (g6 sh x).1 (Eo sh) cs /\
   (∀j,j∉l4 sh->phx' j=phx j)/\BT phx' (dF B (g6 sh x).2) Uf O7/\(∀b,O7 b->A b\/(bS b/\¬U b))/\(g6 sh x).2.map (·.1)=l4 sh/\∀p∈(g6 sh x).2,∃e l,p.2=.ob e l
 |.d t,x,cs,U,bS,A,B,phx,hm,hid,h6,h,nk,dJ,cD=>⟨phx,A,hm,co.refl _ _ _ _,⟨rfl,h.1⟩,λj _=>rfl,cD,λb Y=>.inl Y,rfl,λp hp=>by simp[g6]at hp⟩
 |.o id e,x,cs,U,bS,A,B,phx,hm,hid,h6,h,nk,dJ,cD=>by
  obtain⟨aq,v,rfl,O,R⟩:=h;obtain⟨phx',bE,e1,ek,dG,bG⟩:=XD hm (hid id (by simp[l4])) aq R nk dJ cD;have aB:dF B (g6 (.o id e) x).2=c6 B id (.ob e x):=by show dF B [(id,.ob e x)]=_;rw[yu];rfl
  rw[aB];refine⟨phx',_,bE,e1,⟨rfl,v,rfl,O,ek⟩,λj ao => ?_,bG,λb Y=>Y,rfl,λp hp => ?_⟩
  .have:j≠id:=by simpa[l4]using ao
   grind
  have:p=(id,.ob e x):=by simpa[g6]using hp
  grind
 |.p a b,x,cs,U,bS,A,B,phx,hm,hid,h6,h,nk,dJ,cD=>by
  obtain⟨c1,c2,i6,rfl,f1,f2⟩:=h;simp only[l4,nH]at h6;obtain⟨wy,qZ,HN⟩:=h6;have zS:∀b,i6 b->bS b:=f2.sub;have dC:∀b,U b->i6 b:=f1.sub;obtain⟨hS,W_,bE,e1,ek,dG,bG,cK,bD,lX⟩:=TF (sh:=b) hm (λid ac=>hid id (by simp[l4,ac])) qZ f2 nk (λb Y aM=>dC b (dJ b Y aM)) cD;obtain⟨jS,aiy,cq,aT,e8,gz,ca,cU,b1,mR⟩:=TF (sh:=a) (B:=dF B (g6 b x.2).2) bE (λid ac=>by
   have:dF B (g6 b x.2).2 id=B id:=yk _ _ (by grind);rw[this];exact hid id (by simp[l4,ac])) wy f1 (λb Y=>nk b (zS b Y)) (λb Y aM=>by
    rcases cK b Y with h|h
    .grind
    exact absurd aM h.2) bG
  have aB:dF B (g6 (.p a b) x).2=dF (dF B (g6 b x.2).2) (g6 a x.1).2:=aeM B _ _;rw[aB];refine⟨jS,aiy,cq,e1.trans aT,⟨c1,c2,rfl,e8,ek.mono aT.pl aT.vw aT.bl⟩,λj ao => ?_,ca,λb' Y => ?_,by simp only[g6,Xx,bD,b1,l4],λp hp => ?_⟩
  .simp only[l4,iQ,not_or]at ao
   grind
  .grind
  simp only[g6,iQ]at hp
  grind
def dE.l3{H:cf}{s:aR}{B:Nat->aU}(ae:dE phx H B s.bW a){v:av}(h:a9 phx H B v (a.tmps.getD i undef)):dE phx H B (s.l3 i v).bW a:=by
 intro t;by_cases ht:t=i
 .subst ht
  rcases s.Ge t v with bB|bB<;>rw[bB]
  .exact h
  trivial
 rw[s.vV v ht];exact ae t
def avW(hm:bK K w0 phx M B w){id:Nat}{t:ag}{u v:av}(aB:B id=.box t u){c:Array Value}{el:TypeId}{fz:Nat×Nat}(O:phx id=some (b,o,c.size))(R:w.heap[b]?=some (.cells c el fz))(ai:o+t.size<=c.size)(au:iA c fz)(a4:M b)
  (aj:fh phx (view w M) B v t (cJ c o t.size)):bK K w0 phx M (c6 B id (.box t v)) w/\co phx M B w phx M (c6 B id (.box t v)) w:=
 hm.put (by rw[aB];rfl) O a4 rfl rfl rfl rfl (λ_ _=>rfl) (.box t v) (by rw[aB];rfl) λaz=>⟨b,o,c,el,fz,O,R,ai,az.b6 aj,au,a4⟩
def nI(l0:cd)(b2:Nat->aU)(phx:cd)(B:Nat->aU):List fc->Prop
 |[]=>True
 |.bk id e::r=>(phx id=l0 id/\∃l,B id=.ob e l/\b2 id=.ob e l)/\nI l0 b2 phx B r
 |.bx id t _::r=>(phx id=l0 id/\B id=.box t .bad)/\nI l0 b2 phx B r
 |.it id _::r=>(phx id=l0 id/\∃s p,B id=.it s p/\b2 id=.it s p)/\nI l0 b2 phx B r
 |_::r=>nI l0 b2 phx B r
def nI.congr{l0:cd}{b2:Nat->aU}{phx phx':cd}{B B':Nat->aU}:∀{es:List fc},nI l0 b2 phx B es->(∀id∈dD es,phx' id=phx id/\B' id=B id)->nI l0 b2 phx' B' es
 |[],_,_=>trivial
 |.bk id e::r,h,a_=>by have:=a_ id (by simp[dD]);exact⟨by rw[this.1,this.2];exact h.1,nI.congr h.2 λj ao=>a_ j (by simp[dD,ao])⟩
 |.bx id t sh::r,h,a_=>by have:=a_ id (by simp[dD]);exact⟨by rw[this.1,this.2];exact h.1,nI.congr h.2 λj ao=>a_ j (by simp[dD,ao])⟩
 |.it id s::r,h,a_=>by have:=a_ id (by simp[dD]);exact⟨by rw[this.1,this.2];exact h.1,nI.congr h.2 λj ao=>a_ j (by simp[dD,ao])⟩
 |.sl i t::r,h,a_=>nI.congr (es:=r) h a_
 |.ow i id e::r,h,a_=>nI.congr (es:=r) h a_
def pA(B:Nat->aU)(s:aR)(es:List fc):Prop:=(∀j,j∉dD es->B j=s.aW j)/\∀j cv p,B j=.it cv p->∃fW,s.aW j=.it cv fW
def pA.cg{B:Nat->aU}{s:aR}{es es':List fc}(h:pA B s es)(id:Nat)(b:aU)(ab0:∀j,j∉dD es'->j≠id->j∉dD es):pA (c6 B id b) (s.oc id b) es':=by
 refine⟨λj ao => ?_,λj cv p ao => ?_⟩
 .rw[aR.zL]
  by_cases dS:j=id
  .subst dS;rw[e6,e6]
  rw[eo _ _ dS,eo _ _ dS];exact h.1 j (ab0 j ao dS)
 rw[aR.zL];by_cases dS:j=id
 .subst dS;rw[e6]at ao ⊢;exact⟨p,ao⟩
 rw[eo _ _ dS]at ao ⊢;exact h.2 j cv p ao
def pA.over{B:Nat->aU}{s:aR}{es:List fc}(h:pA B s es):∀(l:List (Nat×aU)),pA (dF B l) (s.em l) es
 |[]=>h
 |(i,b)::l=>by rw[yu];exact(pA.over h l).cg i b λj ao _=>ao
def Dj{l0:cd}{b2:Nat->aU}{Uf:Nat->Prop}:∀{es:List fc} {x:nd es} {U bS A:Nat->Prop} {s:aR} {B:Nat->aU} {phx:cd},bK K w0 phx M B w->dE phx (view w M) B s.bW a->pA B s es->(∀id∈il es,B id=.new)->(il es++dD es).Nodup ->
  hZ l0 w M b2 (λb=>¬K.k b) a es x U bS->nI l0 b2 phx B es->(∀b,bS b->Uf b)->(∀b,A b->bS b->U b)->BT phx B Uf A ->
  ∃ax phx',(∀(γ:Type 1) (k:aR->γ),qT s es x k=k ax)/\bK K w0 phx' M ax.aW w/\co phx M B w phx' M ax.aW w/\dE phx' (view w M) ax.aW ax.bW a /\
   (∀id,id∉il es->phx' id=phx id)/\(∃gc,ax.w=gc++s.w/\(∀id∈gc,id∈il es\/id∈dD es)/\∀id,id∉gc->ax.aW id=s.aW id)/\(∀t,t∉vN es->ax.bW t=s.bW t)
 |[],x,U,bS,A,s,B,phx,hm,ae,jx,_,_,_,_,_,_,_=>by have aB:B=s.aW:=funext λj=>jx.1 j (by simp[dD]);subst aB;exact⟨s,phx,λ_ _=>rfl,hm,co.refl _ _ _ _,ae,λ_ _=>rfl,⟨[],rfl,λid h=>by simp at h,λ_ _=>rfl⟩,λ_ _=>rfl⟩
 |.sl i t::es,x,U,bS,A,s,B,phx,hm,ae,jx,am,h6,fK,hO,nk,dJ,cD=>by
  obtain⟨⟨cs,f1,f2⟩,fK⟩:=fK;obtain⟨ax,phx',bG,ca,cr,du,eW,lh,qb⟩:=Dj (es:=es) (s:=s.l3 i (.sc t x.1)) hm (ae.l3 ⟨cs,f1,f2⟩) jx am h6 fK hO nk dJ cD;refine⟨ax,phx',λγ k => ?_,ca,cr,du,eW,lh,λt' ht => ?_⟩
  .simp only[qT,Di,aR.IJ];exact bG γ k
  simp only[vN,hc,not_or]at ht;rw[qb t' ht.2];exact s.vV _ ht.1
 |.ow i id e::es,x,U,bS,A,s,B,phx,hm,ae,jx,am,h6,fK,hO,nk,dJ,cD=>by
  obtain⟨aq,i6,f1,fK⟩:=fK;have z6:id∉il es/\id∉dD es/\(il es++dD es).Nodup:=by simp only[il,dD,l9,E1,iQ,not_or]at h6;exact⟨h6.1.1,h6.1.2,h6.2⟩
  have zS:=fK.sub;have dC:∀b,U b->i6 b:=λb Y=>by
   rcases f1 with⟨_,_,h⟩|⟨_,_,h⟩
   .rw[h];exact Y
   rw[h];exact .inl Y
  obtain⟨hS,bE,e1,ek,dG,O⟩:=XD hm (am id (by simp[il])) aq f1 (λb Y=>nk b (zS b Y)) (λb Y aM=>dJ b Y (zS b aM)) cD;obtain⟨ax,phx',bG,ca,cr,du,eW,⟨gc,lh,yw,wK⟩,qb⟩:=Dj (es:=es) (s:=(s.oc id (.ob e x.1)).l3 i (.own id false)) bE (dE.l3 (s:=s.oc id (.ob e x.1)) (ae.ext e1) ek)
   (pA.cg (es':=es) jx id _ λj ao _=>ao) (λj ao=>by
    have dS:j≠id:=λh=>z6.1 (h▸ao);rw[eo _ _ dS];exact am j (by simp[il,ao])) z6.2.2 fK (nI.congr (es:=es) hO λj ao=>by
    have dS:j≠id:=λh=>z6.2.1 (h▸ao);exact⟨dG j dS,eo _ _ dS⟩) nk (λb Y aM=>Y.elim (λh=>dC b (dJ b h aM)) (λh=>h.1)) O
  refine⟨ax,phx',λγ k => ?_,ca,e1.trans cr,du,λj ao => ?_,⟨gc++[id],by rw[lh];simp[aR.l3,aR.oc],λj ao => ?_,λj ao => ?_⟩,λt' ht => ?_⟩
  .simp only[qT,Di,aR.IH,aR.IJ];exact bG γ k
  .simp only[il,hc,not_or]at ao
   rw[eW j ao.2,dG j ao.1]
  .simp only[iQ,qw]at ao
   rcases ao with ao|ao
   .rcases yw j ao with h|h
    .exact .inl (by simp[il,h])
    exact .inr (by simpa[dD]using h)
   exact .inl (by simp[il,ao])
  .simp only[iQ,qw,not_or]at ao
   rw[wK j ao.1];show(s.oc id (.ob e x.1)).aW j=s.aW j;rw[aR.zL,eo _ _ ao.2]
  simp only[vN,hc,not_or]at ht;rw[qb t' ht.2];exact aR.vV _ _ ht.1
 |.bk id e::es,x,U,bS,A,s,B,phx,hm,ae,jx,am,h6,fK,hO,nk,dJ,cD=>by
  obtain⟨f1,fK⟩:=fK;obtain⟨⟨_,l,bj,bm⟩,hO⟩:=hO;rw[f1]at bm;have Gm:c6 B id (.ob e x.1)=B:=by
   funext j;by_cases ao:j=id
   .subst ao;rw[e6,bj,bm]
   rw[eo _ _ ao]
  have z6:(il es++dD es).Nodup:=by simp only[il,dD]at h6;exact h6.sublist (Pb (Fd _ _) _)
  have zU:=pA.cg (es':=es) jx id (.ob e x.1) λj ao dS=>by simp[dD,ao,dS]
  rw[Gm]at zU;obtain⟨ax,phx',bG,ca,cr,du,eW,⟨gc,lh,yw,wK⟩,qb⟩:=Dj (es:=es) (s:=s.oc id (.ob e x.1)) (phx:=phx) hm ae zU am z6 fK hO nk dJ cD;refine⟨ax,phx',λγ k => ?_,ca,cr,du,eW,⟨gc++[id],by rw[lh];simp[aR.oc],λj ao => ?_,λj ao => ?_⟩,qb⟩
  .simp only[qT,Di,aR.IH];exact bG γ k
  .simp only[iQ,qw]at ao
   rcases ao with ao|ao
   .exact(yw j ao).imp (λh=>by simpa[il]using h) (λh=>by simp[dD,h])
   exact .inr (by simp[dD,ao])
  simp only[iQ,qw,not_or]at ao;rw[wK j ao.1,aR.zL,eo _ _ ao.2]
 |.it id str::es,x,U,bS,A,s,B,phx,hm,ae,jx,am,h6,fK,hO,nk,dJ,cD=>by
  obtain⟨⟨cv,f1⟩,fK⟩:=fK;obtain⟨⟨_,rc,p,bj,bm⟩,hO⟩:=hO;rw[f1]at bm;cases bm;obtain⟨fW,h7⟩:=jx.2 id cv x.1 bj;have Gm:c6 B id (.it cv x.1)=B:=by
   funext j;by_cases ao:j=id
   .subst ao;rw[e6,bj]
   rw[eo _ _ ao]
  have z6:(il es++dD es).Nodup:=by simp only[il,dD]at h6;exact h6.sublist (Pb (Fd _ _) _)
  have zU:=pA.cg (es':=es) jx id (.it cv x.1) λj ao dS=>by simp[dD,ao,dS]
  rw[Gm]at zU;obtain⟨ax,phx',bG,ca,cr,du,eW,⟨gc,lh,yw,wK⟩,qb⟩:=Dj (es:=es) (s:=s.oc id (.it cv x.1)) (phx:=phx) hm ae zU am z6 fK hO nk dJ cD;refine⟨ax,phx',λγ k => ?_,ca,cr,du,eW,⟨gc++[id],by rw[lh];simp[aR.oc],λj ao => ?_,λj ao => ?_⟩,qb⟩
  .simp only[qT,Di,h7,aR.IH];exact bG γ k
  .simp only[iQ,qw]at ao
   rcases ao with ao|ao
   .exact(yw j ao).imp (λh=>by simpa[il]using h) (λh=>by simp[dD,h])
   exact .inr (by simp[dD,ao])
  simp only[iQ,qw,not_or]at ao;rw[wK j ao.1,aR.zL,eo _ _ ao.2]
 |.bx id t sh::es,x,U,bS,A,s,B,phx,hm,ae,jx,am,h6,fK,hO,nk,dJ,cD=>by
  obtain⟨_,rS,b,o,c,el,fz,i6,bj,bm,cW,fU,k7,f1,fK⟩:=fK;obtain⟨⟨d4,aB⟩,hO⟩:=hO;simp only[il,dD]at am h6;have aq7:(l4 sh).Nodup:=(nH.1 (nH.1 h6).1).1;have aq8:(il es++dD es).Nodup:=by refine h6.sublist ?_;exact(List.sublist_append_right _ _).append (Fd _ _)
  have SH:∀j,j∈l4 sh->j∉il es/\j≠id/\j∉dD es:=λj ao=>by
   refine⟨λah=>(nH.1 (nH.1 h6).1).2.2 j ao j ah rfl,λah => ?_,λah => ?_⟩
   .exact(nH.1 h6).2.2 j (by simp[ao]) id bf ah
   exact(nH.1 h6).2.2 j (by simp[ao]) j (by simp[ah]) rfl
  have ab5:id∉il es/\id∉dD es:=by
   refine⟨λah => ?_,λah => ?_⟩
   .exact(nH.1 h6).2.2 id (by simp[ah]) id bf rfl
   exact(E1.1 (nH.1 h6).2.1).1 ah
  have zS:=fK.sub;obtain⟨hS,W_,bE,e1,ek,dG,O,cK,bD,lX⟩:=TF hm (λj ao=>am j (by simp[ao])) aq7 f1 (λb Y=>nk b (zS b Y)) (λb Y aM=>dJ b Y (zS b aM)) cD;have off:∀j,j∉l4 sh->dF B (g6 sh x.1).2 j=B j:=λj ao=>yk _ _ (by rw[bD];exact ao);have ab6:id∉l4 sh:=λah=>(SH id ah).2.1 rfl;have jP:dF B (g6 sh x.1).2 id=.box t .bad:=by rw[off id ab6,aB]
  have arq:hS id=some (b,o,c.size):=by rw[dG id ab6,d4,bj]
  rw[rS]at ek;obtain⟨cq,aT⟩:=avW bE jP arq bm cW fU k7 ek;have apk:BT hS (c6 (dF B (g6 sh x.1).2) id (.box t (g6 sh x.1).1)) Uf W_:=by
   intro j ao z bh;by_cases dS:j=id
   .subst dS;exact O j (by rw[jP];rfl) z bh
   rw[eo _ _ dS]at ao;exact O j ao z bh
  have zU:pA (c6 (dF B (g6 sh x.1).2) id (.box t (g6 sh x.1).1)) ((s.em (g6 sh x.1).2).oc id (.box t (g6 sh x.1).1)) es:=
   (pA.over jx _).cg (es':=es) id _ λj ao dS=>by simp[dD,ao,dS]
  have hT:((s.em (g6 sh x.1).2).oc id (.box t (g6 sh x.1).1)).bW=s.bW:=aR.qi s _;obtain⟨ax,phx',bG,ca,cr,du,eW,⟨gc,lh,yw,wK⟩,qb⟩:=Dj (es:=es) (s:=(s.em (g6 sh x.1).2).oc id (.box t (g6 sh x.1).1)) cq (by rw[hT];exact(ae.ext e1).ext aT) zU (λj ao=>by
    have dS:j≠id:=λh=>ab5.1 (h▸ao);rw[eo _ _ dS,off j λah=>(SH j ah).1 ao];exact am j (by simp[ao])) aq8 fK (nI.congr (es:=es) hO λj ao=>by
    have dS:j≠id:=λh=>ab5.2 (h▸ao);have ab9:j∉l4 sh:=λah=>(SH j ah).2.2 ao;exact⟨dG j ab9,by rw[eo _ _ dS,off j ab9]⟩) nk (λb Y aM=>by
    rcases cK b Y with h|h
    .exact f1.sub b (dJ b h aM)
    exact h.1) apk
  refine⟨ax,phx',λγ k => ?_,ca,(e1.trans aT).trans cr,du,λj ao => ?_,⟨gc++([id]++l4 sh),?_,λj ao => ?_,λj ao => ?_⟩,λt' ht => ?_⟩
  .simp only[qT,Di,aR.II,aR.IH];exact bG γ k
  .simp only[il,iQ,not_or]at ao
   rw[eW j ao.2,dG j ao.1]
  .rw[lh]
   have:((s.em (g6 sh x.1).2).oc id (.box t (g6 sh x.1).1)).w=id::(l4 sh++s.w):=by show id::(s.em (g6 sh x.1).2).w=_;rw[aR.VF,bD]
   rw[this];simp
  .simp only[iQ,qw]at ao
   rcases ao with ao|ao|ao
   .rcases yw j ao with h|h
    .exact .inl (by simp[il,h])
    exact .inr (by simp[dD,h])
   .exact .inr (by simp[dD,ao])
   exact .inl (by simp[il,ao])
  .simp only[iQ,qw,not_or]at ao
   rw[wK j ao.1,aR.zL,eo _ _ ao.2.1,aR.nW];exact yk _ _ (by rw[bD];exact ao.2.2)
  rw[qb t' ht,hT]
def oB:List fc->Nat->Option ag
 |[],_=>none
 |.bx id t _::r,j=>if j=id then some t else oB r j
 |_::r,j=>oB r j
def Qe:∀{es:List fc} {id:Nat} {t:ag} {sh:kG},fc.bx id t sh∈es->∃t',oB es id=some t'
 |e::es,id,t,sh,h=>by
  rcases hc.1 h with rfl|h
  .exact⟨t,by simp[oB]⟩
  obtain⟨t',bB⟩:=Qe h;cases e<;>simp only[oB]<;>first|exact⟨t',bB⟩|(split;exact⟨_,rfl⟩;exact⟨t',bB⟩)
def hZ.box{lo:Nat->Prop}{b2:Nat->aU}:∀{es:List fc} {x:nd es} {U bS:Nat->Prop} {id:Nat} {t:ag},hZ phx w M b2 lo a es x U bS->oB es id=some t ->
  (∃v,b2 id=.box t v)/\∃b o c el fz,phx id=some (b,o,Array.size c)/\w.heap[b]?=some (.cells c el fz)/\o+t.size<=c.size/\iA c fz/\M b/\∀v∈cJ c o t.size,v.oneCell'=true
 |.sl i t'::es,x,U,bS,id,t,fK,h=>hZ.box (es:=es) fK.2 h
 |.ow i _ e::es,x,U,bS,id,t,fK,h=>by obtain⟨_,i6,_,fK⟩:=fK;exact hZ.box (es:=es) fK h
 |.bk _ e::es,x,U,bS,id,t,fK,h=>hZ.box (es:=es) fK.2 h
 |.it _ s::es,x,U,bS,id,t,fK,h=>hZ.box (es:=es) fK.2 h
 |.bx pj t' sh::es,x,U,bS,id,t,fK,h=>by
  obtain⟨aD,rS,b,o,c,el,fz,i6,bj,bm,cW,fU,k7,f1,fK⟩:=fK;simp only[oB]at h;split at h
  .rename_i hid
   cases h;subst hid;exact⟨aD,b,o,c,el,fz,bj,bm,cW,fU,k7,f1.one⟩
  exact hZ.box (es:=es) fK h
def lc(eB b2:Nat->aU)(es:List fc):Nat->aU:=λid=>if Al (eB id)=true then .new else match oB es id with|some t=>.box t .bad|none=>b2 id
def s8{b:aU}:Al b=true↔b=.new:=by cases b<;>simp[Al]
def DC{eB b2:Nat->aU}{es:List fc}{lo:Nat->Prop}(hold:∀id∈dD es,eB id ≠ .new){ri:nd es}{aiY aiZ:Nat->Prop}(aq:hZ phx w M b2 lo a es ri aiY aiZ):∀{r:List fc} {x:nd r} {U bS:Nat->Prop},(∀e∈r,e∈es)->(∀id∈dD r,id∈dD es)->hZ phx w M b2 lo a r x U bS->nI phx b2 phx (lc eB b2 es) r
 |[],_,_,_,_,_,_=>trivial
 |.sl i t'::r,x,U,bS,hm,aO,h=>DC hold aq (r:=r) (λe az=>hm e (by grind)) aO h.2
 |.ow i _ e::r,x,U,bS,hm,aO,h=>by obtain⟨_,i6,_,h⟩:=h;exact DC hold aq (r:=r) (λe az=>hm e (by grind)) aO h
 |.bk id e::r,x,U,bS,hm,aO,h=>by
  refine⟨⟨rfl,x.1,?_,h.1⟩,DC hold aq (r:=r) (λe az=>hm e (by grind)) (λj ao=>aO j (by simp[dD,ao])) h.2⟩;unfold lc;rw[if_neg (by rw[s8];exact hold id (aO id (by simp[dD])))];cases Y:oB es id with
  |none=>exact h.1
  |some t=>obtain⟨⟨v,aD⟩,_⟩:=aq.box Y;rw[h.1]at aD;cases aD
 |.it id s::r,x,U,bS,hm,aO,h=>by
  obtain⟨⟨cv,O⟩,R⟩:=h;refine⟨⟨rfl,cv,x.1,?_,O⟩,DC hold aq (r:=r) (λe az=>hm e (by grind)) (λj ao=>aO j (by simp[dD,ao])) R⟩;unfold lc;rw[if_neg (by rw[s8];exact hold id (aO id (by simp[dD])))];cases Y:oB es id with
  |none=>exact O
  |some t=>obtain⟨⟨v,aD⟩,_⟩:=aq.box Y;rw[O]at aD;cases aD
 |.bx id t sh::r,x,U,bS,hm,aO,h=>by
  obtain⟨⟨v,aD⟩,rS,b,o,c,el,fz,i6,bj,bm,cW,fU,k7,f1,h⟩:=h;refine⟨⟨rfl,?_⟩,DC hold aq (r:=r) (λe az=>hm e (by grind)) (λj ao=>aO j (by simp[dD,ao])) h⟩;unfold lc;rw[if_neg (by rw[s8];exact hold id (aO id (by simp[dD])))];obtain⟨t',ht⟩:=Qe (hm (.bx id t sh) bf);obtain⟨⟨c9,azU⟩,_⟩:=aq.box ht
  grind
def hZ.Do{lo:Nat->Prop}{b2:Nat->aU}:∀{es:List fc} {x:nd es} {U bS:Nat->Prop},hZ phx w M b2 lo a es x U bS->∀id∈dD es,∀kt vt l,b2 id ≠ .mp kt vt l
 |[],_,_,_,_,id,ac,_,_,_=>by simp[dD]at ac
 |.sl i t'::es,x,U,bS,h,id,ac,kt,vt,l=>hZ.Do (es:=es) h.2 id ac kt vt l
 |.ow i _ e::es,x,U,bS,h,id,ac,kt,vt,l=>by obtain⟨_,i6,_,h⟩:=h;exact hZ.Do (es:=es) h id ac kt vt l
 |.bk pj e::es,x,U,bS,h,id,ac,kt,vt,l=>by
  simp only[dD,hc]at ac;rcases ac with rfl|ac
  .rw[h.1];intro h;cases h
  exact hZ.Do (es:=es) h.2 id ac kt vt l
 |.it pj s::es,x,U,bS,h,id,ac,kt,vt,l=>by
  simp only[dD,hc]at ac;rcases ac with rfl|ac
  .obtain⟨⟨cv,O⟩,_⟩:=h;rw[O];intro h;cases h
  exact hZ.Do (es:=es) h.2 id ac kt vt l
 |.bx pj ahp agM::es,x,U,bS,h,id,ac,kt,vt,l=>by
  simp only[dD,hc]at ac;rcases ac with rfl|ac
  .obtain⟨⟨v,aD⟩,_⟩:=h;rw[aD];intro h;cases h
  obtain⟨_,_,b,o,c,el,fz,i6,_,_,_,_,_,_,h⟩:=h;exact hZ.Do (es:=es) h id ac kt vt l
def atr{eB b2:Nat->aU}{es:List fc}{lo:Nat->Prop}(hm:bK K w0 phx M b2 w){x:nd es}{U bS:Nat->Prop}(fK:hZ phx w M b2 lo a es x U bS)(rH:∀id t v,eB id=.box t v->∀j∈dV v,eB j ≠ .new)(S3:∀id kt vt l,eB id=.mp kt vt l->∀p∈l,∀j∈dV p.2,eB j ≠ .new)
  (pb:∀id,eB id ≠ .new->id∉dD es->b2 id=eB id) (GV:∀id∈dD es,∀t v,b2 id=.box t v->∃t',oB es id=some t') :
  bK K w0 phx M (lc eB b2 es) w/\(∀id,eB id ≠ .new->(b2 id).cc (lc eB b2 es id))/\(∀id,(lc eB b2 es id).fN=true->(b2 id).fN=true):=by
 have nm:∀id,(lc eB b2 es id).fN=true->(b2 id).fN=true:=λid h=>by
  unfold lc at h;split at h
  .cases h
  split at h
  .rename_i t ht
   obtain⟨⟨v,aD⟩,_⟩:=fK.box ht;rw[aD];rfl
  exact h
 have bV:∀id,eB id ≠ .new->(b2 id).cc (lc eB b2 es id):=λid hid=>by
  unfold lc;rw[if_neg (by rw[s8];exact hid)];split
  .rename_i t ht
   obtain⟨⟨v,aD⟩,_⟩:=fK.box ht;rw[aD];rfl
  exact aU.cc.refl _
 refine⟨{ hm with own:=λid h=>hm.own id (nm id h),blks:=λid => ?_,sep:=λi j jy ac ao=>hm.sep i j jy (nm i ac) (nm j ao) },bV,nm⟩;have dM:=hm.blks id;by_cases am:Al (eB id)=true
 .unfold lc;rw[if_pos am];trivial
 have hid:eB id ≠ .new:=λh=>am (s8.2 h);cases Y:oB es id with
 |some t=>
  have S4:lc eB b2 es id=.box t .bad:=by unfold lc;rw[if_neg am,Y]
  rw[S4];obtain⟨_,b,o,c,el,fz,bj,bm,cW,fU,k7,sT⟩:=fK.box Y;exact⟨b,o,c,el,fz,bj,bm,cW,⟨qh cW,sT⟩,fU,k7⟩
 |none=>
  have S4:lc eB b2 es id=b2 id:=by unfold lc;rw[if_neg am,Y]
  rw[S4];generalize aB:b2 id=bl at dM;cases bl with
  |new=>trivial
  |fq=>trivial
  |ob e l=>exact dM
  |fz e l=>exact dM
  |it s p=>exact dM
  |mp kt vt l=>
   have v?:id∉dD es:=λah=>fK.Do id ah kt vt l aB;have aq:eB id=.mp kt vt l:=by rw[<- pb id hid v?,aB]
   obtain⟨b,es',nR,bj,bm,cW,fU⟩:=dM;exact⟨b,es',nR,bj,bm,cW.iy (λ_ _ _ _ _=>rfl) (cf.cc.refl _) (λp hp j ao=>bV j (S3 id kt vt l aq p hp j ao)),fU⟩
  |box t v=>
   have v?:id∉dD es:=λah=>by obtain⟨t',wd⟩:=GV id ah t v aB;rw[Y]at wd;cases wd
   have aq:eB id=.box t v:=by rw[<- pb id hid v?,aB]
   obtain⟨b,o,c,el,fz,bj,bm,cW,fU,k7,sT⟩:=dM;exact⟨b,o,c,el,fz,bj,bm,cW,fh.iy (λ_ _ _=>rfl) (cf.cc.refl _) (λj ao=>bV j (rH id t v aq j ao)) fU,k7,sT⟩
end
end Yp
namespace Yp
open Go
variable {P:Program}
def aif{c:Code}{Q:Exit->Act->World->Prop}(I:Nat->Act->World->Prop)(bh:∀a w,¬I 0 a w)
  (round:∀n a w,I (n+1) a w->c.wp P (Exit.then (λa' w'=>I n a' w') Q) a w) {n:Nat} {a:Act} {w:World} (h:I n a w):(Code.loop c).wp P Q a w:=by
 intro b k cs;have key:∀n a w,I n a w->∃e a' w',Q e a' w'/\Arrives P (lone (b.at a (.code c :: .inLoop c::k)) cs w) b k cs e a' w':=by
  intro n;induction n with
  |zero=>intro a w h;exact absurd h (bh a w)
  |succ n ih=>
   intro a w dZ;obtain⟨e,a₁,w₁,a_,x0⟩:=round n a w dZ b (.inLoop c::k) cs;cases e with
   |normal =>obtain⟨e₂,a₂,w₂,hq₂,harr₂⟩:=ih a₁ w₁ a_;exact⟨e₂,a₂,w₂,hq₂,.of_steps (Steps.trans x0 (.one step_inLoop)) harr₂⟩
   |exit id=>exact⟨_,a₁,w₁,a_,.pass (x:=.inLoop c) rfl (λ_ _=>.inl bf) x0⟩
   |goto l=>exact⟨_,a₁,w₁,a_,.pass (x:=.inLoop c) rfl (λ_ _=>.inl bf) x0⟩
   |ret=>exact⟨_,a₁,w₁,a_,.pass (x:=.inLoop c) rfl (λ_ _=>.inl bf) x0⟩
   |panic ch=>exact⟨_,a₁,w₁,a_,.pass (x:=.inLoop c) rfl (λ_ _=>.inl bf) x0⟩
   |outgrown=>exact⟨_,a₁,w₁,a_,.pass (x:=.inLoop c) rfl (λ_ _=>.inl bf) x0⟩
 obtain⟨e,a',w',a_,x0⟩:=key n a w h;exact⟨e,a',w',a_,.of_steps (.one step_loop) x0⟩
def DB:∀{l:List Nat} {t:Nat},t∈nb l↔t∈l
 |[],t=>by simp[nb]
 |i::l,t=>by
  simp only[nb];cases ah:l.any (Nat.beq i) with
  |true =>simp;rw[DB];refine⟨.inr,λh=>h.elim (λh => ?_) id⟩;obtain⟨j,ao,Y⟩:=BX.1 ah;rw[h,fP Y];exact ao
  |false =>simp;rw[DB]
def adT:∀{l:List Nat},ME l=true->l.Nodup
 |[],_=>List.nodup_nil
 |i::l,h=>by
  simp only[ME,cM]at h;refine E1.2 ⟨λah => ?_,adT h.2⟩;have:l.any (Nat.beq i)=true:=BX.2 ⟨i,ah,Fj i⟩
  grind
def aqg{base:aR}{es:List fc}{Ci:List Nat}(h:LD base es Ci=true):
  (il es++dD es).Nodup/\(∀id∈il es,base.aW id=.new)/\(∀id∈dD es,base.aW id ≠ .new)/\∀i∈vN es,i∈Ci:=by
 simp only[LD,cM]at h;obtain⟨⟨⟨O,R⟩,ai⟩,au⟩:=h;refine⟨adT O,λid ac=>s8.1 (ss.1 R id ac),λid ac ah => ?_,λi ac => ?_⟩
 .have:=ss.1 ai id ac
  rw[ah]at this;cases this
 obtain⟨j,ao,Y⟩:=BX.1 (ss.1 au i ac);rw[fP Y];exact ao
def ano{base:aR}{es:List fc}{s:aR}(h:CD base es s=true){gc:List Nat}(bu:s.w=gc++base.w):∀id∈gc,base.aW id=.new\/id∈dD es:=by
 intro id ac;have ht:s.w.take (s.w.length-base.w.length)=gc:=by rw[bu];simp
 unfold CD at h;rw[ht]at h;have:=ss.1 h id ac;simp only[BU]at this;rcases this with h|h
 .exact .inl (s8.1 h)
 obtain⟨j,ao,Y⟩:=BX.1 h;right;rw[fP Y];exact ao
def aao{ρ σ:Type}{jQ:Nat}{s:aR}{k:ki σ->aS ρ}{r:ρ}:∀{l:List Nat},((CJ jQ s l).bind k).bI=some r->(k (.ex jQ s)).bI=some r
 |[i],h=>by
  simp only[CJ]at h;cases ah:bP jQ i with
  |false=>rw[ah]at h;cases h
  |true=>rw[ah]at h;have:=fP ah;subst this;exact h
 |i::j::l,h=>by
  simp only[CJ]at h;cases ah:bP jQ i with
  |false=>rw[ah]at h;exact aao h
  |true=>rw[ah]at h;have:=fP ah;subst this;exact h
def T'{σ:Type}{f:σ->Option (aE σ ρ)}{x:σ}{o:aE σ ρ}(h:bC f x=some o):∃n,oM f n x=some o:=by
 unfold bC at h;split at h
 .grind
 cases h
def Cp:∀{es:List fc} {id:Nat} {t:ag},oB es id=some t->id∈dD es
 |.sl _ _::es,_,_,h=>Cp (es:=es) h
 |.ow _ _ _::es,_,_,h=>Cp (es:=es) h
 |.bk _ _::es,_,_,h=>vv _ (Cp (es:=es) h)
 |.it _ _::es,_,_,h=>vv _ (Cp (es:=es) h)
 |.bx pj t' sh::es,id,t,h=>by
  simp only[oB]at h;split at h
  .rename_i e;rw[e];simp[dD]
  exact vv _ (Cp h)
section
variable {K:Kp} {w0 w:World} {phx:cd} {M:Nat->Prop} {B B':Nat->aU} {g:Nat->av} {a:Act} {E:dl} {rs:List ez} {res:List ResultVar} {nv nt:Nat} {inl:Bool}
def hZ.DO{lo:Nat->Prop}{b2:Nat->aU}:∀{es:List fc} {x:nd es} {U bS:Nat->Prop},hZ phx w M b2 lo a es x U bS->∀id∈dD es,∀t v,b2 id=.box t v->∃t' sh,fc.bx id t' sh∈es
 |[],_,_,_,_,id,ac,_,_,_=>by simp[dD]at ac
 |.sl i t'::es,x,U,bS,h,id,ac,t,v,Y=>by obtain⟨t',sh,h⟩:=hZ.DO (es:=es) h.2 id ac t v Y;exact⟨t',sh,by simp[h]⟩
 |.ow i _ e::es,x,U,bS,h,id,ac,t,v,Y=>by obtain⟨_,i6,_,h⟩:=h;obtain⟨t',sh,h⟩:=hZ.DO (es:=es) h id ac t v Y;exact⟨t',sh,by simp[h]⟩
 |.bk pj e::es,x,U,bS,h,id,ac,t,v,Y=>by
  simp only[dD,hc]at ac;rcases ac with rfl|ac
  .rw[h.1]at Y;cases Y
  obtain⟨t',sh,h⟩:=hZ.DO (es:=es) h.2 id ac t v Y;exact⟨t',sh,by simp[h]⟩
 |.it pj s::es,x,U,bS,h,id,ac,t,v,Y=>by
  simp only[dD,hc]at ac;rcases ac with rfl|ac
  .obtain⟨⟨cv,O⟩,_⟩:=h;rw[O]at Y;cases Y
  obtain⟨t',sh,h⟩:=hZ.DO (es:=es) h.2 id ac t v Y;exact⟨t',sh,by simp[h]⟩
 |.bx pj ahp agM::es,x,U,bS,h,id,ac,t,v,Y=>by
  simp only[dD,hc]at ac;rcases ac with rfl|ac
  .exact⟨ahp,agM,bf⟩
  obtain⟨_,_,b,o,c,el,fz,i6,_,_,_,_,_,_,h⟩:=h;obtain⟨t',sh,h⟩:=hZ.DO (es:=es) h id ac t v Y;exact⟨t',sh,by simp[h]⟩
structure gd(K:Kp)(w0:World)(D:List Nat)(s:aR)(phx:cd)(M:Nat->Prop)(w:World)(a:Act)(ax:aR)(phx':cd)(aA:Nat->Prop)(w':World)(a':Act):Prop where
 iv:d5 D s ax
 hR:bK K w0 phx' aA ax.aW w'
 ext:co phx M s.aW w phx' aA ax.aW w'
 slots:dE phx' (view w' aA) ax.aW ax.bW a'
 keep:hF D a a'
def md(E:dl)(id:Nat):Exit:=if id=iU then .ret else match E.Pn with|some p=>if hG<=id then .panic [{ v:=.iface p.2 (.int .i64 ((id-hG:Nat):Int)),recovered:=false }]else .exit id|none=>.exit id
def aam{E:dl}{id:Nat}(h:id<iU):md E id=.exit id:=by
 unfold md;rw[if_neg J];split
 .rw[if_neg (by unfold hG;unfold iU at h;omega)]
 rfl
def K9{E:dl}(h:E.Pn=some (m,t)):md E (hG+k)=.panic [{ v:=.iface t (.int .i64 (k:Int)),recovered:=false }]:=by unfold md;rw[if_neg (by unfold hG iU;omega),h];simp
def B4(P:Program)(K:Kp)(w0:World)(E:dl)(rs:List ez)(res:List ResultVar)(nv nt:Nat)(inl:Bool)(c:Code):Prop:=
 ∀(s:aR) (ρ:Type) (k:ki (eq rs)->aS ρ) (r:ρ),((run E rs res nv nt inl c s).bind k).bI=some r->∀(phx:cd) (M:Nat->Prop) (w:World) (a:Act),bK K w0 phx M s.aW w->dE phx (view w M) s.aW s.bW a->nt<=a.tmps.size ->
  ∀(Q:Exit->Act->World->Prop),
   (∀ax phx' aA w' a',(k (.nx ax)).bI=some r->gd K w0 (dY c) s phx M w a ax phx' aA w' a'->Q .normal a' w') ->
   (∀id ax phx' aA w' a',(k (.ex id ax)).bI=some r->gd K w0 (dY c) s phx M w a ax phx' aA w' a'->Q (md E id) a' w') ->
   (∀x w' a',(k (.rt x)).bI=some r->a'.defers=a.defers->(∃us,tk P a'.tmps w' res us/\i4 w0 K.x w' rs x (jI us))->Q .ret a' w')->c.wp P Q a w
def as9{b:aU}(h:b.iZ=true):b ≠ .new:=by rintro rfl;cases h
def as2{b c:aU}(h:b.cc c)(ah:c=.new):b=.new:=by subst ah;cases b<;>first|rfl|exact h.elim
def atb{b:Code}(dC:E.U=false)(ih:B4 P K w0 E rs res nv nt inl b):B4 P K w0 E rs res nv nt inl (.loop b):=by
 intro s ρ k r h l0 B3 OI gT hm ae gI Q _ Tb Tc;simp only[run,dC,cond_false,aS.adc,anM]at h;generalize ab0:entries E.b s ((run E rs res nv nt inl b s).oK) (nb (dY b))=es at h;generalize uw:CI ((run E rs res nv nt inl b s).oK)=exs at h;rw[aS.fw]at h;obtain⟨ri,bp,fR,tX,O,bE,e1,dW,f1,aAj,ayf,anj⟩:=AQ (a:=gT) h hm ae (U:=λ_=>False) ⟨λ_ _ _ _ h=>h,λ_ h=>h.elim⟩;obtain⟨base,zs,akm,P3,ajH,bk⟩:=WT (nb (dY b)) bp;rw[bk]at O;cases SW:LD base es (nb (dY b)) with
 |false=>rw[SW]at O;cases O
 |true=>
  rw[SW,cond_true]at O;obtain⟨h6,gJ,hold,p6⟩:=aqg SW;have rH:∀id t v,base.aW id=.box t v->∀j∈dV v,base.aW j ≠ .new:=by intro id t v Y;rw[zs]at Y ⊢;have:=bE.blks id;rw[Y]at this;obtain⟨_,_,_,_,_,_,_,_,hT,_⟩:=this;exact hT.old
  have S3:∀id kt vt l,base.aW id=.mp kt vt l->∀p∈l,∀j∈dV p.2,base.aW j ≠ .new:=by intro id kt vt l Y;rw[zs]at Y ⊢;have:=bE.blks id;rw[Y]at this;obtain⟨_,_,_,_,_,d8,_⟩:=this;exact d8.old
  have azP:∀t,t∉nb (dY b)->∀j∈dV (base.bW t),base.aW j ≠ .new:=by intro t ht;rw[zs,P3 t ht];have:=(ae.ext e1) t;rw[<- dW]at this;exact this.old
  let E0:nd es->Act->World->Prop:=λx a w=>∃(kz:aR) (phx:cd) (M:Nat->Prop),(∀(γ:Type 1) (k:aR->γ),qT base es x k=k kz)/\bK K w0 phx M kz.aW w/\dE phx (view w M) kz.aW kz.bW a /\
   co l0 B3 s.aW OI phx M kz.aW w/\hF (dY b) gT a/\(∀id,(base.aW id).cc (kz.aW id))/\(∃gc,kz.w=gc++base.w/\∀id,id∉gc->kz.aW id=base.aW id)/\(∀t,t∉vN es->kz.bW t=base.bW t)
  have XO:∀(cv:aR) (phx':cd) (c':Nat->Prop) (w':World) (a':Act) (y:nd es) (ax:aR) (bS:Nat->Prop),bK K w0 phx' c' ax.aW w'->dE phx' (view w' c') ax.aW ax.bW a'->co l0 B3 s.aW OI phx' c' ax.aW w'->hF (dY b) gT a' ->
    ll phx' c' ax.aW bS->hZ phx' w' c' ax.aW (λb=>¬K.k b) a' es y (λ_=>False) bS->(∀t,t∉nb (dY b)->ax.bW t=base.bW t)->(∀id,base.aW id ≠ .new->id∉dD es->ax.aW id=base.aW id)->(∀id,(base.aW id).cc (ax.aW id))->E0 y a' w':=by
   intro cv phx' c' w' a' y ax bS x9 p5 uv n1 x_ fK sY pb bV;have GV:∀id∈dD es,∀t v,ax.aW id=.box t v->∃t',oB es id=some t':=λid ac t v Y=>by obtain⟨t',sh,mN⟩:=fK.DO id ac t v Y;exact Qe mN
   obtain⟨Ui,acc,nm⟩:=atr x9 fK rH S3 pb GV;have hO:nI phx' ax.aW phx' (lc base.aW ax.aW es) es:=DC hold fK (λe h=>h) (λid h=>h) fK;have arG:dE phx' (view w' c') (lc base.aW ax.aW es) base.bW a':=by
    intro t;by_cases ht:t∈nb (dY b)
    .rw[ajH t ht];trivial
    rw[<- sY t ht];refine a9.iy (λ_ _ _=>rfl) (cf.cc.refl _) (λj ao=>acc j ?_) (p5 t)
    grind
   have jx:pA (lc base.aW ax.aW es) base es:=by
    refine⟨λj ao => ?_,λj cv p ao => ?_⟩
    .unfold lc
     split
     .rename_i am;exact(s8.1 am).symm
     rename_i am;have lw:base.aW j ≠ .new:=λh=>am (s8.2 h);cases Y:oB es j with
     |some t=>exact absurd (Cp Y) ao
     |none=>exact pb j lw ao
    unfold lc at ao;split at ao
    .cases ao
    rename_i am;have lw:base.aW j ≠ .new:=λh=>am (s8.2 h);split at ao
    .cases ao
    have:=bV j;rw[ao]at this;generalize base.aW j=q at this lw;cases q<;>simp only[aU.cc]at this<;>first|exact this.elim|exact absurd rfl lw|exact⟨_,by rw[this]⟩
   have ara:∀id∈il es,lc base.aW ax.aW es id=.new:=λid ac=>by unfold lc;rw[if_pos (s8.2 (gJ id ac))]
   obtain⟨kz,auT,bG,ca,cr,du,eW,⟨gc,lh,yw,wK⟩,qb⟩:=Dj (Uf:=bS) (A:=λ_=>False) Ui arG jx ara h6 fK hO (λb Y=>Y) (λb Y=>Y.elim) (λj ao z bh=>.inl (x_.1 j (nm j ao) z bh));have Cv:∀id,base.aW id ≠ .new->(ax.aW id).cc (kz.aW id):=λid hid=>(acc id hid).trans (cr.bl id);have adV:∀id,s.aW id ≠ .new->base.aW id ≠ .new:=λid hid ah=>hid (as2 (e1.bl id) (by rw[<- zs];exact ah));refine⟨kz,auT,c',bG,ca,du,⟨λid hl => ?_,uv.vw.trans cr.vw,λid => ?_⟩,n1,λid => ?_,⟨gc,lh,wK⟩,qb⟩
   .have Y:=adV id (as9 hl)
    rw[eW id λah=>Y (gJ id ah)];exact uv.pl id hl
   .by_cases hid:s.aW id=.new
    .rw[hid];cases kz.aW id<;>trivial
    exact(uv.bl id).trans (Cv id (adV id hid))
   by_cases hid:base.aW id=.new
   .rw[hid];cases kz.aW id<;>trivial
   exact(bV id).trans (Cv id hid)
  cases hl:bC (λx=>(qT base es x λs=>aS.bind (run E rs res nv nt inl b s) (Iz base es)).bI) ri with
  |none=>rw[hl]at O;cases O
  |some o=>
   rw[hl]at O;obtain⟨n,am⟩:=T' hl;have an0:∀jQ y,o=.ex jQ y->∀a' w',E0 y a' w'->Q (md E jQ) a' w':=by
    rintro jQ y rfl a' w' ⟨kz,phx,M,dG,gz,le,uW,uX,q7,⟨gc,US,UT⟩,DU⟩;have O:((qT base es y λs=>CJ jQ s exs).bind k).bI=some r:=O;rw[dG]at O;refine Tb jQ kz phx M w' a' (aao O) ⟨⟨λt ht => ?_,?_⟩,gz,uW,le,uX⟩
    .have wd:t∉nb (dY b):=λah=>ht (DB.1 ah)
     rw[DU t λah=>wd (p6 t ah),P3 t wd,dW]
    obtain⟨_,at1,bj,bm⟩:=f1;refine⟨gc++at1,by rw[US,akm,bj,h0],λid hid => ?_⟩;rw[iQ,not_or]at hid;rw[UT id hid.1,zs,bm id hid.2]
   have an1:∀x,o=.rt x->∀a' w',a'.defers=gT.defers->(∃us,tk P a'.tmps w' res us/\i4 w0 K.x w' rs x (jI us))->Q .ret a' w':=by rintro x rfl a' w' aI aM;exact Tc x w' a' O aI aM
   have aq:E0 ri gT OI:=by refine XO bp l0 fR OI gT ri bp tX bE (by rw[dW];exact ae.ext e1) e1 (hF.refl _ _) ayf anj (λt ht=>(P3 t ht).symm) (λid _ _=>by rw[zs]) (λid=>by rw[zs];exact aU.cc.refl _)
   refine aif (λn a w=>∃x,oM (λx=>(qT base es x λs=>aS.bind (run E rs res nv nt inl b s) (Iz base es)).bI) n x=some o/\E0 x a w) (λa w=>by rintro⟨x,hx,_⟩;cases hx) ?_ (n:=n) ⟨ri,am,aq⟩;rintro n a w ⟨x,hx,kz,phx,M,dG,gz,le,uW,uX,q7,⟨gc,US,UT⟩,DU⟩;simp only[oM]at hx;rw[dG]at hx;have c3:nt<=a.tmps.size:=by rw[uX.1];exact gI
   have ahD:∀(cv:aR) (phx':cd) (aA:Nat->Prop) (w':World) (a':Act) {ρ':Type} (jQ:nd es->aS ρ') (dz:ρ'),gd K w0 (dY b) kz phx M w a cv phx' aA w' a'->((r8 cv es).bind λy=>bif CD base es y.2 then jQ y.1 else .fail).bI=some dz->∃y,(jQ y).bI=some dz/\E0 y a' w':=by
    intro cv phx' aA w' a' ρ' jQ dz s0 jg;obtain⟨y,ax,c',bS,ai,cq,aT,eF,f2,rd,oV,qE⟩:=AQ (a:=a') jg s0.hR s0.slots (U:=λ_=>False) ⟨λ_ _ _ _ h=>h,λ_ h=>h.elim⟩;cases x4:CD base es ax with
    |false=>rw[x4]at ai;cases ai
    |true=>
     rw[x4,cond_true]at ai;refine⟨y,ai,?_⟩;obtain⟨SN,ad5,GI,SO⟩:=s0.iv;obtain⟨_,ad6,GM,SV⟩:=f2;have bu:ax.w=(ad6++(ad5++gc))++base.w:=by rw[GM,GI,US];simp
     have e0:=ano x4 bu;refine XO cv phx' c' w' a' y ax bS cq (by rw[eF];exact s0.slots.ext aT) ((uW.trans s0.ext).trans aT) (uX.sub s0.keep (λt h=>h) (λt h=>h)) oV qE (λt ht => ?_) (λid hid v? => ?_) (λid=>((q7 id).trans (s0.ext.bl id)).trans (aT.bl id))
     .rw[eF,SN t (λah=>ht (DB.2 ah)),DU t λah=>ht (p6 t ah)]
     have LP:id∉ad6++(ad5++gc):=λah=>(e0 id ah).elim hid v?;simp only[iQ,not_or]at LP;rw[SV id LP.1,SO id LP.2.1,UT id LP.2.2]
   cases hf:((run E rs res nv nt inl b kz).bind (Iz base es)).bI with
   |none=>rw[hf]at hx;cases hx
   |some dz=>
    rw[hf]at hx;refine ih kz _ (Iz base es) dz hf phx M w a gz le c3 _ (λcv phx' aA w' a' jg s0 => ?_) (λid cv phx' aA w' a' jg s0 => ?_) (λvj w' a' jg aI aM => ?_)
    .obtain⟨y,ai,hh⟩:=ahD cv phx' aA w' a' (λy=>.leaf (aE.nx y)) dz s0 jg
     cases ai;exact⟨y,hx,hh⟩
    .obtain⟨y,ai,hh⟩:=ahD cv phx' aA w' a' (λy=>.leaf (aE.ex id y)) dz s0 jg
     cases ai;cases hx;have hf:=an0 id y rfl a' w' hh;revert hf;unfold md
     (repeat' split)<;>exact λh=>h
    cases jg;cases hx;exact an1 vj rfl a' w' (aI.trans uX.2.1) aM
end
end Yp
namespace Yp
open Go
variable {P:Program}
def d5.b6{s ax:aR}(h:d5 [] s ax):ax.bW=s.bW:=funext λt=>h.1 t bf
section
variable {K:Kp} {w0 w:World} {phx:cd} {M:Nat->Prop} {B B':Nat->aU} {g:Nat->av} {H:cf} {E:dl} {nv nt:Nat}
def aou{s:aR}{f:Operand}{a:Act}(ae:dE phx H s.aW s.bW a):a9 phx H s.aW (CR s f) (a.eval f)\/CR s f=.bad:=by
 cases f with
 |tmp t=>exact .inl (ae t)
 |func f=>exact .inl ⟨[],rfl,rfl⟩
 |const v=>exact .inr rfl
 |global i=>exact .inr rfl
def auz(hT:nA P E.b6)(cA:pP P E.b6 E.C)(hv:qW P E.M)(dK:o1 P E K w0)(dZ:∀f g,E.I f=some g->kF P f g)
  {o:Oper} {s:aR} {ρ:Type} {k:av×aR->aS ρ} {r:ρ} (h:((UJ E o s).bind k).bI=some r) {a:Act} (hm:bK K w0 phx M s.aW w) (ae:dE phx (view w M) s.aW s.bW a)
  {Kn:Act->World->Prop} {Q:Exit->Act->World->Prop}
  (ap:∀v ax phx' aA w' x,(k (v,ax)).bI=some r->bK K w0 phx' aA ax.aW w'->co phx M s.aW w phx' aA ax.aW w'->a9 phx' (view w' aA) ax.aW v x->d5 [] s ax->Kn (a.put o.dst x) w'):o.wp P a w Kn Q:=by
 have plain:((((r6 E o).run s 0 [] []).bind λr=>s.wT r.2.wr λbp=>ng r.1 λv=>.leaf (v,bp):aS (av×aR)).bind k).bI=some r->o.wp P a w Kn Q:=by intro h;rw[aS.fw]at h;obtain⟨v,e,O,R⟩:=aw.afS s (r6 E o) 0 [] [] _ r h;simp only[aR.II,xP,aS.bind]at R;have aB:(s.em e.wr).aW=dF s.aW e.wr:=aR.nW s _;refine UK hT cA hv dK O hm ae λx w' bc => ?_;obtain⟨phx',aA,bE,e1,ek⟩:=bc;exact ap v (s.em e.wr) phx' aA w' x R (by rw[aB];exact bE) (by rw[aB];exact e1) (by rw[aB];exact ek) (d5.em e.wr [])
 unfold UJ at h;obtain⟨c7,op,type,jG,after,CY⟩:=o;cases op<;>try(exact plain h)
 rename_i c;obtain⟨QT,args,d?⟩:=c;cases QT<;>try(exact plain h)
 rename_i f;simp only at h;cases ac:TG E (c7.getD 0) (CR s f) args.toList s with
 |none=>rw[ac]at h;exact plain h
 |some t=>
  rw[ac]at h;simp only at h;unfold TG at ac;split at ac
  .rename_i F dU cZ hf
   split at ac
   .rename_i sU ab1
    cases ac;have gn:=dZ _ _ ab1;rw[aS.fw,aS.fw]at h;obtain⟨a5,wr,O,R⟩:=pd h;obtain⟨e1,dm⟩:=yn ae O;simp only at R;have aB:(s.em wr).aW=s.aW:=by rw[aR.nW,e1]
    have qR:a9 phx (view w M) s.aW (.clo F dU cZ) (a.eval f):=by
     rcases aou (f:=f) ae with h|h
     .rw[hf]at h;exact h
     rw[hf]at h;cases h
    obtain⟨us,az,pe⟩:=qR;refine OX pe gn.1 ?_;have bc:(args.toList.map a.eval).toArray=args.map a.eval:=by apply B1;simp
    have jd:(us.take dU++(args.toList.map a.eval++us.drop dU)).toArray=(us.take dU).toArray++args.map a.eval++(us.drop dU).toArray:=by rw[<- bc];simp
    rw[<- jd];refine(gn.2 K w0 (dK.gk (.inr (.inl ⟨_,_,ab1⟩))) _ (vL dU cZ a5) (s.em wr) _ _ r R phx M w _ (by rw[aB];exact hm) (by rw[aB];exact Q4 az dm)).mono ?_;rintro e w' ⟨bY,rfl,v,ax,phx',aA,bG,ca,cr,du,eW⟩;rw[aB]at cr;simp only[xP,aS.bind]at bG;exact⟨bY,rfl,ap v ax phx' aA w' bY bG ca cr du (((d5.em wr []).trans eW).mono bf)⟩
   cases ac
  cases ac
def NG(hT:nA P E.b6)(cA:pP P E.b6 E.C)(hv:qW P E.M)(dK:o1 P E K w0)(dZ:∀f g,E.I f=some g->kF P f g)
  (eD:nt<=1000000) {ops:Array Oper} {Q:Exit->Act->World->Prop} {tail:List Oper}:∀(l:List Oper) (top:Bool) (i:Nat) (s:aR) {ρ:Type} (k:aR->aS ρ) (r:ρ),((pq E ops.toList nv nt top i l s).bind k).bI=some r ->
  ∀(phx:cd) (M:Nat->Prop) (w:World) (a:Act),bK K w0 phx M s.aW w->dE phx (view w M) s.aW s.bW a->nt<=a.tmps.size ->
  (∀ax phx' aA w' a',(k ax).bI=some r->d5 (er l) s ax->bK K w0 phx' aA ax.aW w'->co phx M s.aW w phx' aA ax.aW w'->dE phx' (view w' aA) ax.aW ax.bW a'->hF (er l) a a'->wpList P ops Q tail a' w')->wpList P ops Q (l++tail) a w:=by
 intro l;induction l with
 |nil=>intro top i s ρ k r h phx M w a hm ae gI a_;exact a_ s phx M w a h (d5.refl _ _) hm (co.refl _ _ _ _) ae (hF.refl _ _)
 |cons o rest ih=>
  intro top i s ρ k r h phx M w a hm ae gI a_;have aI:=ue o rest;simp only[pq]at h

  have y1:∀{ρ:Type} (k:aR->aS ρ) (r:ρ) (Bt:Bool) (bp:aR) (v c9:av) (hS:cd) (fR:Nat->Prop) (ck:World) (x:Value),sy v c9->((iK nt o.dst bp c9 λs=>pq E ops.toList nv nt Bt (i+1) rest s).bind k).bI=some r ->
    bK K w0 hS fR bp.aW ck->dE hS (view ck fR) bp.aW bp.bW a->a9 hS (view ck fR) bp.aW v x ->
    (∀ax phx' aA w' a',(k ax).bI=some r->d5 (er rest) (jH bp o.dst c9) ax->(∀d,o.dst=some d->d<nt)->bK K w0 phx' aA ax.aW w'->co hS fR bp.aW ck phx' aA ax.aW w'->dE phx' (view w' aA) ax.aW ax.bW a'->hF (er (o::rest)) a a'->wpList P ops Q tail a' w') ->
    wpList P ops Q (rest++tail) (a.put o.dst x) ck:=by
   intro ρ k r Bt bp v c9 hS fR ck x Tm h bE IZ ek a_;obtain⟨gx,h⟩:=vb h;have rI:∀d,o.dst=some d->d<a.tmps.size:=λd aI=>iF (gx d aI) gI;refine ih Bt (i+1) _ k r h hS fR ck _ (by rw[lA];exact bE) (by rw[lA,r9 eD gx];exact IZ.put rI (Tm.bM ek)) (by simp only[Act.put];split<;>simpa using gI) λax phx' aA w' a' ap hf cq aT tn b1 => ?_;rw[lA]at aT;exact a_ ax phx' aA w' a' ap hf gx cq aT tn ((hF.put aI.1).sub b1 (λt h=>h) aI.2)
  rcases abq h with⟨bu,h⟩|⟨bu,h⟩
  .simp only[l9,wpList]
   rw[if_pos (WN bu ae)];left;rw[aS.fw]at h;refine auz hT cA hv dK dZ h hm ae λv bp hS fR ck x h bE e1 ek f1 => ?_;simp only at h;have IZ:dE hS (view ck fR) bp.aW bp.bW a:=by rw[f1.b6];exact ae.ext e1
   have RV:∀c9 ax,(∀d,o.dst=some d->d<nt)->d5 (er rest) (jH bp o.dst c9) ax->d5 (er (o::rest)) s ax:=λc9 ax _ hf=>(f1.sub (wJ aI.1) (λt h=>by simp at h) (λt h=>h)).sub hf (λt h=>h) aI.2;cases hg:(Nat.testBit (xX ops.toList) i&&(t9 v).isSome) with
   |false =>rw[hg,cond_false]at h;exact y1 k r top bp v v hS fR ck x (.inl rfl) h bE IZ ek λax phx' aA w' a' ap hf gx cq aT tn b1=>a_ ax phx' aA w' a' ap (RV v ax gx hf) cq (e1.trans aT) tn b1
   |true=>
    rw[hg,cond_true]at h;cases Y:t9 v with
    |none=>rw[Y]at h;cases h
    |some c=>
     rw[Y]at h;simp only at h;have aD:=Ya Y

     have two:∀{ρ:Type} (k:aR->aS ρ) (r:ρ),((aS.br c (iK nt o.dst bp (.kb true) λs=>pq E ops.toList nv nt false (i+1) rest s) (iK nt o.dst bp (.kb false) λs=>pq E ops.toList nv nt false (i+1) rest s)).bind k).bI=some r ->
       (∀ax phx' aA w' a',(k ax).bI=some r->d5 (er rest) (jH bp o.dst (.kb c)) ax->(∀d,o.dst=some d->d<nt)->bK K w0 phx' aA ax.aW w'->co hS fR bp.aW ck phx' aA ax.aW w'->dE phx' (view w' aA) ax.aW ax.bW a'->hF (er (o::rest)) a a'->wpList P ops Q tail a' w') ->
       wpList P ops Q (rest++tail) (a.put o.dst x) ck:=by
      intro ρ k r h a_;simp only[aS.bind,aS.bI,T]at h;cases c with
      |true=>exact y1 k r false bp v (.kb true) hS fR ck x (.inr ⟨true,aD,rfl⟩) h bE IZ ek a_
      |false=>exact y1 k r false bp v (.kb false) hS fR ck x (.inr ⟨false,aD,rfl⟩) h bE IZ ek a_
     cases top with
     |false=>exact two k r h λax phx' aA w' a' ap hf gx cq aT tn b1=>a_ ax phx' aA w' a' ap (RV _ ax gx hf) cq (e1.trans aT) tn b1
     |true=>
      rw[cond_true]at h;obtain⟨gx,h⟩:=vb h;rcases TL (λt ht=>(xn.1 ht).1) h with h|⟨ks,p,hp,hrest⟩
      .exact two k r h λax phx' aA w' a' ap hf gx cq aT tn b1=>a_ ax phx' aA w' a' ap (RV _ ax gx hf) cq (e1.trans aT) tn b1
      refine two _ p hp λax phx' aA w' a' R hf _ cq aT tn b1 => ?_;obtain⟨fW,p4,ji⟩:∃fW,(bif Nat.beq ax.w.length (jH bp o.dst (.sc .bool c)).w.length then qI ax ks else none)=some fW/\(aS.leaf fW).bI=some p:=by
       have um:((aS.uS (bif Nat.beq ax.w.length (jH bp o.dst (.sc .bool c)).w.length then qI ax ks else none)).bind aS.leaf).bI=some p:=by rw[k1];exact R
       exact aS.UD um
      cases ji;cases b9:Nat.beq ax.w.length (jH bp o.dst (.sc .bool c)).w.length with
      |false=>rw[b9]at p4;cases p4
      |true=>
       rw[b9,cond_true]at p4;have ST:JE (er rest) (jH bp o.dst (.sc .bool c)) ax:=by
        obtain⟨f1,gc,f2,f3⟩:=hf;refine⟨λt ht => ?_,gc,by rw[f2,M0,M0],λid hid=>by rw[f3 id hid,lA,lA]⟩;rw[f1 t ht,r9 eD gx,r9 eD gx];cases aqf:o.dst with
        |none=>exact .inl rfl
        |some d=>
         by_cases Ab:t=d
         .right
          refine⟨.bool,c,by simp[lg,px,Ab],?_⟩;simp only[lg,px,Ab,if_true];rfl
         left;simp[lg,px,Ab]
       obtain⟨d_,WM,ayO,ayP⟩:=hrest ax ST (fP b9) p4;refine a_ d_ phx' aA w' a' ayP ?_ (by rw[WM.2];exact cq) (by rw[WM.2];exact e1.trans aT) (tn.OL WM) b1;exact(f1.sub (wJ aI.1) (λt h=>by simp at h) (λt h=>h)).sub ayO (λt h=>h) aI.2
  simp only[l9,wpList];rw[if_neg (by rw[ag1 bu ae];simp)];exact y1 k r top s .undef .undef phx M w undef (.inl rfl) h hm ae (ah3 rfl) λax phx' aA w' a' ap hf gx cq aT tn b1=>a_ ax phx' aA w' a' ap ((wJ aI.1).sub hf (λt h=>h) aI.2) cq aT tn b1
end
end Yp
namespace Yp
open Go
def rn:=@Array.replicate_succ
def BW:=@List.getElem?_toArray
def PH:=@Nat.sub_self
variable {P:Program}
def abo{n:Nat}:∀{l:List Oper},Lv n l=true->∀o∈l,∀g b,o.guard=some (g,b)->g<n
 |[],_,o,h,_,_,_=>by cases h
 |x::l,h,o,aO,g,b,hg=>by
  simp only[Lv,cM]at h;rcases hc.1 aO with rfl|aO
  .rw[hg]at h;simpa using h.1
  exact abo h.2 o aO g b hg
def Z9:∀{l m:List Oper} {i:Nat},vM i (l++m)=true->vM i l=true
 |[],_,_,_=>rfl
 |o::l,m,i,h=>by simp only[l9,vM,cM]at h ⊢;exact⟨h.1,Z9 h.2⟩
def ayY{o:Oper}{a:Act}{w:World}{Kn:Act->World->Prop}{Q Q':Exit->Act->World->Prop}(a_:∀e a w,e ≠ .normal->Q' e a w->Q e a w)(h:o.wp P a w Kn Q'):o.wp P a w Kn Q:=by
 unfold Oper.wp at *
 generalize(execOp a.eval o).run P w=r at *
 cases r with
 |ok n w'=>
  cases n<;>simp only[Oper.upon]at h ⊢ <;>
   first
    |exact h
    | (
     refine Calls.mono h λe Jn az => ?_;cases e with
     |returned v=>exact az
     |panicked c=>exact a_ _ _ _ bf az
     |outgrown=>obtain⟨a,w,h⟩:=az;exact⟨a,w,a_ _ _ _ bf h⟩)
 |halt x w'=>cases x<;>simp only[Oper.upon]at h ⊢ <;> first|exact a_ _ _ _ bf h|exact h
def EE(P:Program)(ops:Array Oper)(n:Nat)(Q:Exit->Act->World->Prop):Exit->Act->World->Prop
 |.normal,a,w=>wpOp P ops Q n (λa w=>Q .normal a w) a w
 |e,a,w=>Q e a w
def ayX{l:List Oper}{o:Oper}(hl:Hx l o=true){Q:Exit->Act->World->Prop}:
  ∀(gY:Nat) (bZ:Array Bool) (a:Act) (w:World),bZ.size=l.length->rl l.toArray (fg bZ) ->
   wpAny P .any l.toArray (EE P (l++[o]).toArray l.length Q) gY bZ a w->wpAny P .any (l++[o]).toArray Q (gY+1) (bZ.push false) a w:=by
 simp only[Hx,cM]at hl;obtain⟨⟨z1,aqK⟩,SA⟩:=hl;have am:(l++[o]).toArray.size=l.length+1:=bf;have R7:∀i,i<l.length->(l++[o]).toArray[i]?=l.toArray[i]?:=λi ac=>by
  grind
 have aa7:(l++[o]).toArray[l.length]?=some o:=bf;have AX:∀(bZ:Array Bool) (i:Nat) (d:Bool),bZ.size=l.length->i<l.length->(bZ.push false).getD i d=bZ.getD i d:=λbZ i d ae ac=>by
  rw[m8,m8,Array.getElem?_push_lt J]
  grind
 have ae5:∀(bZ:Array Bool) (d:Bool),bZ.size=l.length->(bZ.push false).getD l.length d=false:=λbZ d ae=>by rw[m8,<- ae,Array.getElem?_push_size];rfl
 have Rw:=K0 (Z9 z1);have ani:∀e∈o.after.toList,Region.binds .any e=true->e.on<l.length:=λe az Y=>by have:=K0 z1 l.length o (by rw[o7 (bX _),PH];rfl) e az Y;omega

 have Vd:∀(bZ:Array Bool) (i:Nat),bZ.size=l.length->i<l.length->(i∈Region.ready .any (l++[o]).toArray (bZ.push false)↔i∈Region.ready .any l.toArray bZ):=λbZ i ae ac=>by
  rw[mem_ready,mem_ready,R7 i ac,AX bZ i true ae ac];refine and_congr PB (exists_congr λdz => ?_);refine and_congr_right λaO => ?_;have arg:l[i]?=some dz:=by rw[<- BW];exact aO
  refine forall_congr' λe => ?_;refine forall_congr' λaz => ?_;refine forall_congr' λY => ?_;have:=Rw i dz arg e (by simpa using az) Y;rw[AX bZ e.on false ae J]
 have ajh:∀(bZ:Array Bool),bZ.size=l.length->Region.ready .any l.toArray bZ=[]->∀i,i<l.length->bZ.getD i false=true:=by
  intro bZ jA aj i;induction i using Nat.strongRecOn with
  |_ i ih=>
   intro ac;cases hL:bZ.getD i false with
   |true=>rfl
   |false=>
    exfalso;have mN:i∈Region.ready .any l.toArray bZ:=by
     rw[mem_ready];refine⟨?_,l[i],by rw[BW];exact kg ac,λe az Y => ?_⟩
     .have:i<bZ.size:=J
      simp[this]at hL ⊢;exact hL
     have bi:=Rw i l[i] (kg ac) e (by simpa using az) Y;exact ih e.on J J
    rw[aj]at mN;cases mN
 have atT:∀(bZ:Array Bool),(∀i,i<l.length->bZ.getD i false=true)->bZ.size=l.length->Region.ready .any l.toArray bZ=[]:=λbZ h jA=>by
  rw[xg];intro i ac;obtain⟨aq,dz,aO,_⟩:=mem_ready.1 ac;have bi:i<l.length:=by simpa using(iR.1 aO).1
  have O:=h i bi;have:i<bZ.size:=J;simp[this]at aq O;rw[O]at aq;cases aq

 have done:∀(bZ:Array Bool) (f:Nat) (a:Act) (w:World),bZ.size=l.length->Region.ready .any l.toArray bZ=[]->EE P (l++[o]).toArray l.length Q .normal a w->wpAny P .any (l++[o]).toArray Q (f+1) (bZ.push false) a w:=by
  intro bZ f a w jA aj a_;have hall:=ajh bZ jA aj;have fb:l.length∈Region.ready .any (l++[o]).toArray (bZ.push false):=by rw[mem_ready];exact⟨ae5 bZ true jA,o,aa7,λe az Y=>by have:=ani e (by simpa using az) Y;rw[AX bZ e.on false jA this];exact hall _ this⟩
  refine⟨λh=>(by rw[h]at fb;cases fb),λi ac => ?_⟩;have bi:i<l.length+1:=by obtain⟨_,dz,aO,_⟩:=mem_ready.1 ac;rw[<- am];exact(iR.1 aO).1
  by_cases rL:i<l.length
  .rw[Vd bZ i jA rL,aj]at ac;cases ac
  obtain rfl:i=l.length:=J;refine wpOp_mono (λa' w' s2 => ?_) a_;have z9:Region.ready .any (l++[o]).toArray ((bZ.push false).setIfInBounds l.length true)=[]:=by
   rw[xg];intro i ac;obtain⟨aq,dz,aO,_⟩:=mem_ready.1 ac;have bi:i<l.length+1:=by rw[<- am];exact(iR.1 aO).1
   have c3:(bZ.push false).size=l.length+1:=by simp[jA]
   by_cases rL:i=l.length
   .subst rL
    rw[m8,Array.getElem?_setIfInBounds_self_of_lt J]at aq;cases aq
   rw[m8,xb (zc rL),<- m8,AX bZ i true jA J]at aq;have O:=hall i J;have:i<bZ.size:=J;simp[this]at aq O;rw[O]at aq;cases aq
  cases f with
  |zero=>exact⟨z9,s2⟩
  |succ f=>exact⟨λ_=>s2,λi ac=>by rw[z9]at ac;cases ac⟩
 intro gY;induction gY with
 |zero=>intro bZ a w jA eZ h;exact done bZ 0 a w jA h.1 h.2
 |succ gY ih=>
  intro bZ a w jA eZ h;by_cases aj:Region.ready .any l.toArray bZ=[]
  .exact done bZ (gY+1) a w jA aj (h.1 aj)
  refine⟨λfI => ?_,λi ac => ?_⟩
  .exfalso
   apply aj;rw[xg];intro i ac;have bi:i<l.length:=by obtain⟨_,dz,aO,_⟩:=mem_ready.1 ac;simpa using(iR.1 aO).1
   have:=(Vd bZ i jA bi).2 ac;rw[fI]at this;cases this
  have bi:i<l.length+1:=by obtain⟨_,dz,aO,_⟩:=mem_ready.1 ac;rw[<- am];exact(iR.1 aO).1
  by_cases rL:i<l.length
  .have eH:=(Vd bZ i jA rL).1 ac
   have R:=h.2 i eH;have k8:(bZ.push false).setIfInBounds i true=(bZ.setIfInBounds i true).push false:=by
    have v7:i<bZ.toList.length:=by rw[B9];omega
    apply B1;simp only[E?,Array.toList_push,List.set_append];rw[if_pos v7]
   rw[k8];unfold wpOp at R ⊢;rw[R7 i rL];obtain⟨aq,dz,aO,SI⟩:=mem_ready.1 eH;rw[aO]at R ⊢;simp only at R ⊢;have mN:dz∈l:=by rw[BW]at aO;exact J6 aO
   have arY:Region.wanted dz (yielded (l++[o]).toArray a.tmps)=Region.wanted dz (yielded l.toArray a.tmps):=by
    unfold Region.wanted;cases hg:dz.guard with
    |none=>rfl
    |some p =>obtain⟨g,b⟩:=p;have:=abo aqK dz mN g b hg;simp only[yielded,R7 g this]
   rw[arY];have ap0:rl l.toArray (fg (bZ.setIfInBounds i true)):=by
    intro k ok ap sV x hx Y;have C_:i<bZ.size:=J;rw[JS C_]at sV ⊢;simp only[BU,decide_eq_true_eq]at sV ⊢;right;rcases sV with sV|sV
    .subst sV
     rw[xk,aO]at ap;cases ap;exact SI x (by simpa using hx) Y
    exact eZ k ok ap sV x hx Y
   have ap:∀a w,wpAny P .any l.toArray (EE P (l++[o]).toArray l.length Q) gY (bZ.setIfInBounds i true) a w->wpAny P .any (l++[o]).toArray Q (gY+1) ((bZ.setIfInBounds i true).push false) a w:=
    λa w h=>ih _ a w (by simpa using jA) ap0 h
   have aco:∀e a w,e≠Exit.normal->EE P (l++[o]).toArray l.length Q e a w->Q e a w:=λe a w az h=>by cases e<;>first|exact absurd rfl az|exact h
   split
   .rename_i bu
    rw[if_pos bu]at R;refine R.imp (λR=>ayY aco (Oper.wp_mono ap R)) λ⟨ai,eT,hX,au⟩=>⟨ai,eT,hX,aco _ _ _ bf au⟩
   rename_i bu;rw[if_neg bu]at R;exact ap _ _ R
  obtain rfl:i=l.length:=J;exfalso;apply aj;obtain⟨_,dz,aO,SI⟩:=mem_ready.1 ac;rw[aa7]at aO;cases aO;refine atT bZ (λi ac => ?_) jA;have hall:=P6 (ops:=l++[o]) (L:=λi=>(bZ.push false).getD i false) (λk ok ap sV x hx Y => ?_) l.length o (by rw[o7 (bX _),PH];rfl) (λe az Y=>SI e (by simpa using az) Y) i (ss.1 SA i (qu.2 ac))
  .rw[<- AX bZ i false jA ac];exact hall
  have C?:k<l.length:=by
   have rN:k<l.length+1:=by have:=(nF.1 ap).1;simpa using this
   by_cases C?:k=l.length
   .subst C?
    rw[ae5 bZ false jA]at sV;cases sV
   omega
  have qO:l[k]?=some ok:=by rw[vu C?]at ap;exact ap
  have acE:=Rw k ok qO x hx Y;rw[AX bZ x.on false jA J];refine eZ k ok (by rw[List.toList_toArray];exact qO) ?_ x hx Y;show bZ.getD k false=true;rw[<- AX bZ k false jA C?];exact sV
section
variable {K:Kp} {w0:World} {E:dl} {nt:Nat} {ops:Array Oper}
def awd(hT:nA P E.b6)(cA:pP P E.b6 E.C)(hv:qW P E.M)(dK:o1 P E K w0)(dZ:∀f g,E.I f=some g->kF P f g)(eD:nt<=1000000){s:aR}{k:aR->aS ρ}{r:ρ}
  (h:((oS E ops.toList nv nt true true 0 ops.toList s []).bind k).bI=some r) {phx:cd} {M:Nat->Prop} {w:World} {a:Act} (hm:bK K w0 phx M s.aW w) (ae:dE phx (view w M) s.aW s.bW a) (gI:nt<=a.tmps.size)
  {Q:Exit->Act->World->Prop}
  (a_:∀ax phx' aA w' a',(k ax).bI=some r->d5 (er ops.toList) s ax->bK K w0 phx' aA ax.aW w'->co phx M s.aW w phx' aA ax.aW w'->dE phx' (view w' aA) ax.aW ax.bW a'->hF (er ops.toList) a a'->Q .normal a' w') :
  wpAny P .any ops Q ops.size (Array.replicate ops.size false) a { w with drawn:=w.drawn+1 }/\rl ops (fg (Array.replicate ops.size false)):=by
 obtain⟨ax,⟨bv,bp,O,R,ai,au,a4,cQ,eh,cy⟩,ap⟩:=afP eD _ _ _ _ _ k r h;have f':∀phx' aA w' a',bK K w0 phx' aA (en bv (λ_=>true) s.aW) w'->co phx M s.aW w phx' aA (en bv (λ_=>true) s.aW) w'->dE phx' (view w' aA) (en bv (λ_=>true) s.aW) (fl bv (λ_=>true) s.bW) a'->hF (er ops.toList) a a'->Q .normal a' w':=by intro phx' aA w' a' bE e1 bp bD;rw[<- a4]at bE e1 bp;rw[<- au]at bp;exact a_ ax phx' aA w' a' ap eh (by rw[cQ.2];exact bE) (by rw[cQ.2];exact e1) (bp.OL cQ) bD
 obtain⟨aj,aO⟩:=cy rfl;simp only[Ir,cM]at aj;have f:lH E nt ops bv s.bW s.aW:=⟨by simpa using O,R,ai,aj.2,aj.1,UM (by simpa using aO)⟩;have uq:fg (Array.replicate ops.size false)=λ_=>false:=by funext i;unfold fg;by_cases ac:i<ops.size<;>simp[ac]
 have AB:∀(l:List fe) (B:Nat->aU),en l (λ_=>false) B=B:=by
  intro l;induction l with
  |nil=>intro g;rfl
  |cons y l ih=>intro g;simp only[en,cond];exact ih g
 have Um:∀(l:List fe) (g:Nat->av),fl l (λ_=>false) g=g:=by
  intro l;induction l with
  |nil=>intro g;rfl
  |cons y l ih=>intro g;simp only[fl,cond];exact ih g
 have iI:bK K w0 phx M s.aW { w with drawn:=w.drawn+1 }:={ hm with keep:=hm.keep,blks:=hm.blks };have eZ:rl ops (fg (Array.replicate ops.size false)):=by intro i o _ h;rw[uq]at h;cases h
 refine⟨ahR (P:=P) (K:=K) (w0:=w0) hT cA hv dK dZ f gI f' ops.size _ phx M { w with drawn:=w.drawn+1 } a bf eZ ?_ ?_ ?_ ?_ (hF.refl _ _),eZ⟩
 .exact fv (sr _ _) bf
 .rw[uq,AB];exact iI
 .rw[uq,AB];exact⟨λ_ _=>rfl,cf.cc.refl _,λ_=>aU.cc.refl _⟩
 rw[uq,AB,Um];exact ae
def awf(jh:P.follows .mixedOrders=true){l:List Oper}{o:Oper}(hl:Hx l o=true){id:Nat}{Q:Exit->Act->World->Prop}{a:Act}{w:World}(aO:(l++[o]).toArray=ops)
  (h:wpAny P .any l.toArray (EE P (l++[o]).toArray l.length Q) l.toArray.size (Array.replicate l.toArray.size false) a { w with drawn:=w.drawn+1 }/\rl l.toArray (fg (Array.replicate l.toArray.size false))) :
  (Code.region id ops true).wp P Q a w:=by
 subst aO;refine wp_region_any jh ?_;have O:=ayX hl _ _ a _ bf h.2 h.1;have e1:(l++[o]).toArray.size=l.toArray.size+1:=bf;have aT:Array.replicate (l++[o]).toArray.size false=(Array.replicate l.toArray.size false).push false:=by rw[e1,rn]
 rw[aT,e1];exact O
end
end Yp