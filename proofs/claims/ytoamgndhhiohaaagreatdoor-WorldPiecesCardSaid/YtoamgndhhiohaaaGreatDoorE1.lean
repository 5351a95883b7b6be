/- A part of the proof of the statements of this seat: the engine that turns code into plain functions, and its soundness. No condition of its own. -/
import Derived.Test.YtoamgndhhiohaaaGreatDoorE0
import Derived.ChangeKeysEq
import Derived.Scope
set_option linter.unusedVariables false
set_option linter.unusedSimpArgs false
set_option linter.defProp false
open _root_ renaming Array->cO,Array.replicate->hK,Bool->aE,Go.Builtin.append_->lG,Go.Builtin.zeroCells->k0,False->fI,Go.Instr.sliceAt->qD,Int->O,List->ab,List.length->T,List.range->fw,List.replicate->eC,Nat->R,Nat.beq->cT,Nat.blt->hv,Nat.testBit->g',Go.Oper->c7,Go.Operand->fS,Option->au,Go.Program->d_,Go.TypeId->cD,UInt8->aN,Go.Value->aS,Go.World->bu,absurd->ev,cond_false->k1,cond_true->km,congrArg->d4,decide_eq_true_eq->lH,Bool.false->ag,if_neg->aD,if_pos->aH,Go.madeCells->l2,Option.none->aq,Go.run_underlying->d',Option.some->J,Bool.true->af
noncomputable section
open Go Yp
variable {c dX ok:aE}{D le:ab R}{a b d f i j k m n nt nv o off t:R}{α β ρ:Type}
namespace Yp
open Go
def rI:=@List.all_eq_true
def rH:=@Bool.eq_iff_iff
def rK:=@List.mem_range
def yK:=@Bool.not_eq_true'
def TF:=@Nat.one_pos
variable {P:d_}
def aw.pp:aw->R
 |.pair a b=>max (a.pp+1) b.pp
 |.ar _ e=>e.pp+1
 |_=>1
def aw.V9:∀t:aw,0<t.pp
 |.pair a b=>by have:=aw.V9 b;simp only[aw.pp];omega
 |.ar _ e=>by simp only[aw.pp];omega
 |.bool=>by decide|.int _=>TF|.str=>by decide|.sl _=>TF|.unit=>by decide|.op _=>TF|.fn _=>TF
def p_(P:d_):aw->(cD->aE)×(ab Field->aE)
 |.bool=>(λ_=>af,λ_=>ag)
 |.int _=>(λ_=>af,λ_=>ag)
 |.str=>(λ_=>af,λ_=>ag)
 |.unit=>(λt=>!(P.stoodInHeld t),λl=>l.isEmpty)
 |.pair a b=>
  (λt=>!(P.stoodInHeld t)&&(match P.underlying t with
   | some (.struct f') => (match f'.toList with | f :: r => !(f.name == "_") && (p_ P a).1 f.type && (p_ P b).2 r | [] => ag)
   |_=>ag),
   fun l => match l with | f :: r => !(f.name == "_") && (p_ P a).1 f.type && (p_ P b).2 r | [] => ag)
 |.ar _ e=>(λt=>match P.underlying t with|some (.array _ bM)=>(p_ P e).1 bM|_=>ag,λ_=>ag)
 |.sl _=>(λ_=>ag,λ_=>ag)
 |.op _=>(λ_=>ag,λ_=>ag)
 |.fn _=>(λ_=>ag,λ_=>ag)
def VV(P:d_)(t:aw)(tid:cD):aE:=t.isAgg&&Nat.ble t.pp 100&&(p_ P t).1 tid && !(P.eqGuardType P.depth tid)
def OA{tid:cD}{f':cO Field}(h:P.underlying tid=J (.struct f')):P.fieldsOf tid=f':=by simp[Program.fieldsOf,h]
def x1{t:aw}(h:t.isAgg=af)(cs:ab aS):db t cs=.agg cs.toArray:=by simp[db,h]
def auF{t:aw}{tid:cD}(h:(dz P t).1 tid):P.cellsOf tid=t.size:=aOT
section
variable {H H':cX}
def agh{e:aw}{bM:cD}(aX:(dz P e).1 bM){d n:R}{a b:ab e.a_}{cs ds:cO aS}{w:bu}(b6:a.length=n)(ak:b.length=n)
  (m9:cs.size=n*e.size) (ayd:ds.size=n*e.size)
  (ih:∀j,j<n->(Op.equalIn d bM (db e<|dg cs (j*e.size) e.size)<|db e<|dg ds (j*e.size) e.size).run P w=.ok (e.pr (ap a j e.zero)<|ap b j e.zero) w) :
  ∀is:ab R,(∀j∈is,j<n)->(Op.eqItems d bM (P.cellsOf bM) cs ds is).run P w=.ok (is.all λj=>e.pr (ap a j e.zero)<|ap b j e.zero) w
 |[],_=>by simp[Op.eqItems]
 |j::is,aF=>by
  have bK:=aF j bP;have mz:(j+1)*e.size<=n*e.size:=jk _ bK;rw[lf]at mz;have dN:=Gr (P:=P) aX (cs:=cs) (off:=j*e.size) V w;have fC:=Gr (P:=P) aX (cs:=ds) (off:=j*e.size) V w;have aiZ:=agh aX b6 ak m9 ayd ih is<|λk aB=>aF k (by grind);rw[auF aX]at aiZ ⊢;simp only[Op.eqItems,Sem.run_bind,dN,fC,Result.andThen_ok,ih j bK];cases h:e.pr (ap a j e.zero) (ap b j e.zero) with
  |false=>simp[h]
  |true=>simp[h,aiZ]
def ap2(f:α->α->aE)(z:α){a b:ab α}(b6:a.length=n)(ak:b.length=n):p2 f a b=(fw n).all λj=>f (ap a j z)<|ap b j z:=by
 rw[rH];unfold p2;rw[rI,rI];constructor
 .intro h j aF
  have jE:=rK.1 aF;have:=h (a[j]'V,b[j]'V) (by rw[DY];exact⟨j,e8,bP⟩)
  grind [ap]
 intro h p hp;obtain⟨j,aF,rfl⟩:=DY.1 hp;have jE:j<n:=by simp at aF;omega
 simp_all[ap]
def Oo(w:bu):∀(t:aw),
  (∀(tid:cD) (d:R) (x y:t.a_) (cs ds:ab aS),(p_ P t).1 tid=af->(dz P t).1 tid->ba H t x cs->ba H' t y ds->t.pp<=d->(Op.equalIn d tid (db t cs)<|db t ds).run P w=.ok (t.pr x y) w) /\
  (∀(l:ab Field) (off d:R) (x y:t.a_) (cs ds:cO aS),(p_ P t).2 l=af->(dz P t).2 l off->ba H t x (dg cs off t.size)->ba H' t y (dg ds off t.size)->off+t.size<=cs.size->off+t.size<=ds.size->t.pp<=d+1 ->
   (Op.eqFields d cs ds l).run P w=.ok (t.pr x y) w)
 |.bool=>by refine⟨λtid d x y cs ds _ hf hx bW a? => ?_,λl off d x y cs ds aA=>by cases aA⟩;obtain⟨n,rfl⟩:∃n,d=n+1:=⟨d-1,aLT⟩;have Y:=ba.pm.1 hx;have ac:=ba.pm.1 bW;subst Y;subst ac;exact run_equalIn_bool w n tid _ _ hf.1
 |.int k=>by refine⟨λtid d x y cs ds _ hf hx bW a? => ?_,λl off d x y cs ds aA=>by cases aA⟩;obtain⟨n,rfl⟩:∃n,d=n+1:=⟨d-1,aLT⟩;have Y:=ba.j1.1 hx;have ac:=ba.j1.1 bW;subst Y;subst ac;exact run_equalIn_int w n tid k k _ _ hf.1
 |.str=>by refine⟨λtid d x y cs ds _ hf hx bW a? => ?_,λl off d x y cs ds aA=>by cases aA⟩;obtain⟨n,rfl⟩:∃n,d=n+1:=⟨d-1,aLT⟩;have Y:=ba.u2.1 hx;have ac:=ba.u2.1 bW;subst Y;subst ac;have:=run_equalIn_string (P:=P) w n tid ⟨(x:ab aN).toArray⟩ ⟨(y:ab aN).toArray⟩ hf.1;rw[ByteArray.toList_eq,ByteArray.toList_eq]at this;exact this
 |.unit=>by
  refine⟨λtid d x y cs ds aA hf hx bW a? => ?_,λl off d x y cs ds aA hf hx bW Y ac a? => ?_⟩
  .obtain⟨n,rfl⟩:∃n,d=n+1:=⟨d-1,aLT⟩
   obtain⟨⟨f',bq,r3⟩,_⟩:=hf;simp only[p_,yK]at aA;rw[x1 rfl,x1 rfl,run_equalIn_struct w n tid _ _ (by rw[OA bq];exact bq) aA,OA bq,r3];rfl
  simp only[p_,List.isEmpty_iff]at aA;subst aA;rfl
 |.pair a b=>by
  have agq:∀(l:ab Field) (off d:R) (x y:(aw.pair a b).a_) (cs ds:cO aS),(p_ P<|.pair a b).2 l=af->(dz P<|.pair a b).2 l off->ba H (.pair a b) x (dg cs off (aw.pair a b).size)->ba H' (.pair a b) y (dg ds off (aw.pair a b).size) ->
    off+(aw.pair a b).size<=cs.size->off+(aw.pair a b).size<=ds.size->(aw.pair a b).pp<=d+1->(Op.eqFields d cs ds l).run P w=.ok ((aw.pair a b).pr x y) w:=by
   intro l off d x y cs ds aA hf hx bW Y ac a?;obtain⟨f,r,rfl,aiq,I4,XF⟩:=hf;simp only[p_,d5,yK,beq_eq_false_iff_ne]at aA;obtain⟨⟨ax,b6⟩,ak⟩:=aA;have dA:(aw.pair a b).size=a.size+b.size:=rfl;have split:∀{K:cX} {z:(aw.pair a b).a_} {es:cO aS},ba K (.pair a b) z (dg es off<|a.size+b.size)->off+(a.size+b.size)<=es.size->ba K a z.1 (dg es off a.size)/\ba K b z.2 (dg es (off+a.size) b.size):=by
    intro K z es bN ct;obtain⟨c1,c2,aX,b4,cz⟩:=ba.nO.1 bN;rw[Sm]at aX;have hl:T (dg es off a.size)=c1.length:=by rw[sx V,b4.length]
    grind [List.append_inj]
   obtain⟨v1,m'⟩:=split hx Y;obtain⟨aiL,az0⟩:=split bW ac;simp only[aw.pp]at a?;have dN:=Gr (P:=P) I4 (cs:=cs) (off:=off) V w;have fC:=Gr (P:=P) I4 (cs:=ds) (off:=off) V w;have cn:=(Oo w a).1 f.type d x.1 y.1 _ _ b6 I4 v1 aiL V;have cR:=(Oo w b).2 r (off+a.size) d x.2 y.2 cs ds ak XF m' az0 V V V;simp only[Op.eqFields];rw[aH ax,aiq];simp only[Sem.run_bind,dN,fC,Result.andThen_ok,cn];show _=Result.ok (df (a.pr x.1 y.1)<|b.pr x.2 y.2) w;cases h:a.pr x.1 y.1 with
   |false=>simp[h,df]
   |true=>simp[h,df,cR]
  refine⟨λtid d x y cs ds aA hf hx bW a? => ?_,agq⟩;obtain⟨n,rfl⟩:∃n,d=n+1:=⟨d-1,by have:=aw.V9<|.pair a b;omega⟩;obtain⟨⟨f',bq,f,r,r3,bg,I4,XF⟩,_⟩:=hf;simp only[p_,d5,yK,bq,r3]at aA;rw[x1 rfl,x1 rfl,run_equalIn_struct w n tid _ _ (by rw[OA bq];exact bq) aA.1,OA bq,r3];have gZ:=hx.length;have iE:=bW.length;have bX:dg cs.toArray 0 (aw.pair a b).size=cs:=by simp[dg,<- gZ]
  have aT:dg ds.toArray 0 (aw.pair a b).size=ds:=by simp[dg,<- iE]
  refine agq (f::r) 0 n x y cs.toArray ds.toArray (by simp only[p_,d5,yK];exact aA.2) ⟨f,r,rfl,bg,I4,by rw[oD];exact XF⟩ (by rw[bX];exact hx) (by rw[aT];exact bW) (by simp[gZ]) (by simp[iE]) a?
 |.ar n e=>by
  refine⟨λtid d x y cs ds aA hf hx bW a? => ?_,λl off d x y cs ds aA=>by cases aA⟩;obtain⟨m,rfl⟩:∃m,d=m+1:=⟨d-1,by have:=aw.V9<|.ar n e;omega⟩;obtain⟨⟨bM,bq,aX⟩,_⟩:=hf;simp only[p_,bq]at aA;obtain⟨i,ao,_⟩:=oM aX;simp only[aw.pp]at a?;obtain⟨c9,dl,dB⟩:=ba.w9.1 hx;obtain⟨fx,e7,kr⟩:=ba.w9.1 bW;rw[x1 rfl,x1 rfl,run_equalIn_array w m _ _ bq ao];rw[agh aX (a:=(x:ab e.a_)) (b:=(y:ab e.a_)) (n:=n) c9 fx (by simp[dl]) (by simp[e7]) (λj aF => ?_) _<|λj aF=>rK.1 aF]
  .show _=Result.ok (p2 (λp q=>e.pr p q) (x:ab e.a_) (y:ab e.a_)) w
   rw[ap2 _ e.zero c9 fx]
  exact(Oo w e).1 bM m _ _ _ _ aA aX (dB j _<|Cj V) (kr j _<|Cj V) V
 |.sl _=>ay_
 |.op _=>ay_
 |.fn _=>ay_
end
def qS(P:d_)(cp:R->au aw)(C:R->aE):Prop:=∀tid t,C tid=af->cp tid=J t->VV P t tid=af
def afu(P:d_)(cp:R->au aw):∀(l:ab R),(l.all λi=>match cp i with|some t=>VV P t i|none=>af)=af->qS P cp (JT l)
 |[],_=>λtid t h=>by cases h
 |i::r,h=>λtid t dc hT=>by
  simp only[yL,d5]at h;simp only[JT]at dc;cases ak:cT i tid with
  |true=>rw[iM ak]at h;rw[hT]at h;exact h.1
  |false=>rw[ak]at dc;exact afu P cp r h.2 tid t dc hT
end Yp
namespace Yp
open Go
def jl:=@List.length_take
def D1:=@Nat.min_eq_left
def Hk:=@Nat.le_of_eq
variable {P:d_}
section
variable {K:Kp} {w0 w:bu} {phx:cV} {M:R->Prop} {B B':R->bm} {g:R->aP} {H:cX}
def amq{t u ty bM:cD}{i:TypeInfo}(ht:P.underlying t=J (.slice bM))(ao:P.info? bM=J i){x:aS}{n6 V8:R}{news:ab aS}
  (hl:(Builtin.lenOf x).run P w=.ok n w) (hm:Nat.min n n6=m) (hf:(Builtin.firstCells i.size m x).run P w=.ok news.toArray w) :
  (Builtin.copy_ #[t,u] ty #[.slice aq n6 V8,x]).run P w=.ok (.int .i64 m) w:=by
 simp_all[Builtin.copy_,d',Go.sizeOf,typeInfo,goInt]
def amr{t u ty bM:cD}{i:TypeInfo}(ht:P.underlying t=J (.slice bM))(ao:P.info? bM=J i){x:aS}{n6 V8:R}{news:ab aS}{a:Addr}{w':bu}
  (hl:(Builtin.lenOf x).run P w=.ok n w) (hm:Nat.min n n6=m) (hf:(Builtin.firstCells i.size m x).run P w=.ok news.toArray w) (hs:(storeCells a news).run P w=.ok () w') :
  (Builtin.copy_ #[t,u] ty #[.slice (J a) n6 V8,x]).run P w=.ok (.int .i64 m) w':=by
 simp_all[Builtin.copy_,d',Go.sizeOf,typeInfo,goInt]
def aGq{c dj:cO aS}{vs:ab aS}(aA:dj.toList=iU c.toList o vs)(ax:o+T vs<=c.size)(h:o+T vs<=a):dg dj a n=dg c a n:=by
 grind [wB,LR]
def Bm{l bZ:ab α}(h:off+n<=T l):T (eL l off n bZ)=T l:=by
 grind [eL]
theorem fM.cast{e:aw}{l m:ab e.a_}{cs:ab aS}(h:fM H e l cs)(hl:l=m):fM H e m cs:=hl▸h
def fY.copy{e:aw}{l bZ:ab e.a_}{c dj:cO aS}{news:ab aS}(h:fY H e l c o)(ct:off+n<=T l)(c4:fM H e (bZ.take n) news)
  (aA:dj.toList=iU c.toList (o+off*e.size) news):dj.size=c.size/\fY H e (eL l off n bZ) dj o:=by
 have uw:T news=min n bZ.length*e.size:=by rw[c4.1,jl]
 have xG:(off+min n bZ.length)*e.size<=T l*e.size:=jk _ V;rw[lf]at xG;have Y:=h.1;have iS:o+off*e.size+T news<=c.size:=V;have dA:=anD aA iS;refine⟨dA,fM.row (by rw[Bm ct,dA];exact Y) ?_⟩;have e1:T (eL l off n bZ)*e.size=off*e.size+(T news+(T l-(off+min n bZ.length))*e.size):=by rw[Bm ct,uw,<- lf,<- lf];congr 1;omega
 rw[e1,Sm,Sm,ana aA iS<|cx _,anb aA iS,aGq aA iS<|cx _];have b4:=(h.cut (off:=0) (m:=off) V).uc;have dw:=(h.cut (off:=off+min n bZ.length) (m:=T l-(off+min n bZ.length)) V).uc;rw[mw V,Nat.zero_mul,MH]at b4;rw[mw V,lf,<- l3,<- uw]at dw;have aAI:fM H e (l.take off)<|dg c o<|off*e.size:=b4.cast (by simp[Yp.cut]);have JF:fM H e (l.drop<|off+min n bZ.length)<|dg c (o+off*e.size+T news)<|(T l-(off+min n bZ.length))*e.size:=dw.cast (by unfold Yp.cut;rw[i5 bP])
 exact aAI.append<|c4.append JF
def aFW{e:aw}{l:ab e.a_}{c:cO aS}(h:fY H e l c o)(hl:T l=n):ba H (.ar n e) l<|dg c o<|n*e.size:=by have Y:=h.1;rw[hl]at Y;refine ba.D6.2 ⟨hl,sx Y,λi x ao => ?_⟩;have bK:=JR ao;rw[Gu _ _ _ _ _<|zX V];exact h.2 i x ao
def L9{id:R}{b:bm}(h:B id=b):dx B id b=B:=by
 grind [fH,eY]
def V0(l:ab α)(off:R)(bZ:ab α):eL l off 0 bZ=l:=by simp[eL]
def aBn(m n:R):hE (m:O) (n:O)=((Nat.min n m:R):O):=by
 unfold hE
 grind
def afD{e:aw}{bZ:ab e.a_}{ad:au Addr}{cap:R}(h:bZ=[]\/∃b o c el fz,ad=J ⟨b,o,aq⟩/\w.heap[b]?=J (.cells c el fz)/\fY (view w M) e bZ c o)(n6:R):
  ∃news,(Builtin.firstCells e.size (Nat.min bZ.length n6)<|.slice ad bZ.length cap).run P w=.ok news.toArray w/\fM (view w M) e (bZ.take n6) news:=by
 rcases h with rfl|⟨b,o,c,el,fz,rfl,ac,av⟩
 .refine⟨[],?_,by simpa using fM.nil (H:=view w M) e⟩
  cases ad<;>simp[Builtin.firstCells,loadCells,loadCellsFrom]
 have aJ:=(av.cut (off:=0) (m:=Nat.min bZ.length n6) (by simp only[oD];exact Nat.min_le_left _ _));have aA:Yp.cut bZ 0 (Nat.min bZ.length n6)=bZ.take n6:=by
  unfold Yp.cut;rw[vi];rcases Nat.le_total bZ.length n6 with h|h
  .rw[show Nat.min bZ.length n6=bZ.length from D1 h,qH,i5 h]
  rw[show Nat.min bZ.length n6=n6 from Nat.min_eq_right h]
 rw[aA,Nat.zero_mul,MH]at aJ;have hl:T (bZ.take n6)=Nat.min bZ.length n6:=by rw[jl];exact Nat.min_comm _ _
 refine⟨dg c o<|Nat.min bZ.length n6*e.size,?_,by rw[<- hl];exact aJ.uc⟩;simp only[Builtin.firstCells];exact Gq ac (by rw[<- hl];exact aJ.1)
def VZ{e:aw}{tid uid ty bM:cD}(bq:P.underlying tid=J (.slice bM)){i:TypeInfo}(b0:P.info? bM=J i)(bT:i.size=e.size){bZ:ab e.a_}{ad:au Addr}{cap:R}(hm:cd K w0 phx M B w)
  (bW:bZ=[]\/∃b o c el fz,ad=J ⟨b,o,aq⟩/\w.heap[b]?=J (.cells c el fz)/\fY (view w M) e bZ c o) {id off n:R} {l:ab e.a_} {bl:ab e.a_->bm} {cZ:aS}
  (oc:(B id).gB=af) (ct:off+n<=T l) (xJ:iO phx id e off n cZ)
  (BU:n=0->cd K w0 phx M (dx B id<|bl l) w/\c8 phx M B w phx M (dx B id<|bl l) w) (axP:∀ik,ik.length=T l->(B id).cU (bl ik))
  (fb:(phx id=aq/\T l=0)\/∃b o c el fz,phx id=J (b,o,c.size)/\w.heap[b]?=J (.cells c el fz)/\fY (view w M) e l c o/\jc c fz/\M b)
  (r9:∀(ik:ab e.a_) (dj:cO aS) (b o:R) (el:cD) (fz:R×R) (w':bu) (cJ:R->bm),ik.length=T l->phx id=J (b,o,dj.size)->w'.heap[b]?=J (.cells dj el fz)->fY (view w' M) e ik dj o->jc dj fz->M b->mY phx M w' (view w' M) cJ id (bl ik)) :
  ∃v w',(Builtin.copy_ #[tid,uid] ty #[cZ,.slice ad bZ.length cap]).run P w=.ok v w'/\d? K w0 phx M B w (dx B id<|bl<|eL l off n bZ) (int<|hE (bc n)<|len bZ) v w':=by
 have cP:(Builtin.lenOf<|.slice ad bZ.length cap).run P w=.ok bZ.length w:=rfl;obtain⟨news,f1,f2⟩:=afD (P:=P) (cap:=cap) bW n;rw[<- bT]at f1;have a3:∀phx' H' cJ,bI phx' H' cJ (int<|hE (bc n)<|len bZ)<|.int .i64 ((Nat.min bZ.length n:R):O):=λphx' H' cJ=>by rw[show hE (bc n) (len bZ)=((Nat.min bZ.length n:R):O) from aBn n bZ.length];exact⟨_,ba.j1.2 rfl,rfl⟩
 rcases xJ with⟨rfl,bn,rfl⟩|⟨b,o,abp,hB,b4,rfl,dw,f6,hj⟩
 .have ax:news=[]:=by have:=f2.1;simpa using this
  subst ax;obtain⟨b',e1⟩:=BU rfl;refine⟨_,w,?_,phx,M,by rw[V0];exact b',by rw[V0];exact e1,a3 _ _ _⟩;cases bn with
  |none=>exact amq bq b0 cP rfl f1
  |some bn=>exact amr bq b0 cP rfl f1 (by simp[storeCells])
 rcases fb with⟨cn,_⟩|⟨eH,dZ,c,el,fz,cn,cR,da,d9,fO⟩
 .rw[b4]at cn;cases cn
 rw[b4]at cn;cases cn;have uw:T news=T (bZ.take n)*e.size:=f2.1;have xG:(off+T (bZ.take n))*e.size<=T l*e.size:=jk _ aLJ;rw[lf]at xG;have FW:=da.1;have iS:o+off*e.size+T news<=c.size:=V;obtain⟨w',bX,dj,aT,eX⟩:=Lt (P:=P) (b:=b) (el:=el) (fz:=fz) (o:=o+off*e.size) news 0 c w cR d9 V f2.one;simp only[MH]at eX;obtain⟨dA,gq⟩:=da.copy (n:=n) ct f2 eX;refine⟨_,w',amr bq b0 cP rfl f1 bX,?_⟩;obtain⟨hi,k5⟩:=hm.put (id:=id) (x:=(b,o,c.size)) (w':=w') oc b4 fO aT.os aT.tape aT.output aT.size aT.other (bl<|eL l off n bZ) (axP _<|Bm ct) λk5=>
  r9 _ dj b o el fz w' _ (Bm ct) (by rw[b4,dA]) aT.jW (gq.mono k5.vw) (d9.same dA) fO
 exact⟨phx,M,hi,k5,a3 _ _ _⟩
def auW{e:aw}{tid uid ty:cD}(ht:(dz P<|.sl e).1 tid){a x r:aP}{cZ ib:aS}(h:(afC e a x).bC g B=J (r,B'))(hm:cd K w0 phx M B w)
  (eF:bI phx (view w M) B a cZ) (nG:bI phx (view w M) B x ib) :
  ∃v w',(Builtin.copy_ #[tid,uid] ty #[cZ,ib]).run P w=.ok v w'/\d? K w0 phx M B w B' r v w':=by
 replace h:=hA h;obtain⟨eq,h⟩:=h;have eq:=aNN
 obtain⟨bZ,du,Y,ac⟩:=aR.dd h;obtain⟨rfl,ad,cap,rfl,bW⟩:=aaX Y hm nG;obtain⟨⟨bM,bq,aX⟩,_⟩:=ht;obtain⟨i,b0,bT,dE,g6⟩:=oM aX;cases a<;>try(cases ac;done)
 case nil =>cases ac;have Jp:=eF;subst Jp;obtain⟨news,f1,f2⟩:=afD (P:=P) (cap:=cap) bW 0;rw[<- bT]at f1;refine⟨_,w,amq bq b0 rfl rfl f1,phx,M,hm,c8.refl _ _ _ _,?_⟩;rw[show Nat.min (T (α:=e.a_) bZ) 0=0 from Nat.min_zero _];exact⟨_,ba.j1.2 rfl,rfl⟩
 case own id fm=>
  simp only[aR.bC]at ac;have hs:ci phx (view w M) du (.own id fm) cZ:=eF;simp only[ci]at hs;have ak:=hm.blks id;generalize a4:du id=bl at ac hs ak;cases bl<;>try(cases ac)
  rename_i b9 l;obtain⟨fR,cJ,av,aJ⟩:=aR.dd ac;obtain⟨bN,rfl⟩:=eu av;obtain⟨gy,rfl⟩:=kv bN;subst gy;cases aJ;refine VZ (id:=id) (off:=0) (n:=T l) (l:=l) (bl:=λl=>.ob e l) bq b0 bT hm bW af_ V hs.1 (λ_=>aPz) (λik hl=>aPT) ak.2 ?_;intro ik dj b o el fz w' cJ wj cn cR da d9 fO;exact⟨eq,.inr ⟨b,o,dj,el,fz,cn,cR,da,d9,fO⟩⟩
 case osl id off n=>
  simp only[aR.bC]at ac;have hs:ci phx (view w M) du (.osl id off n) cZ:=eF;simp only[ci]at hs;have ak:=hm.blks id;generalize a4:du id=bl at ac hs ak;cases bl<;>try(cases ac)
  case ob b9 l =>obtain⟨fR,cJ,av,aJ⟩:=aR.dd ac;obtain⟨bN,rfl⟩:=eu av;obtain⟨gy,rfl⟩:=kv bN;subst gy;cases aJ;refine VZ (id:=id) (off:=off) (n:=n) (l:=l) (bl:=λl=>.ob e l) bq b0 bT hm bW af_ hs.1 hs.2.1 (λ_=>aPz) (λik hl=>aPT) ak.2 ?_;intro ik dj b o el fz w' cJ wj cn cR da d9 fO;exact⟨eq,.inr ⟨b,o,dj,el,fz,cn,cR,da,d9,fO⟩⟩
  case box t v=>
   cases t<;>try(cases ac)
   rename_i m b9;obtain⟨l,cJ,av,aJ⟩:=aR.dd ac;obtain⟨hl,rfl⟩:=eu av;obtain⟨fR,wR,bv,c_⟩:=aR.dd aJ;obtain⟨bN,rfl⟩:=eu bv;obtain⟨gy,rfl⟩:=kv bN;subst gy;cases c_;obtain⟨eZ,uI,c0,ub,uj,b4,cz,dw,f6,hj,kT⟩:=ak;obtain⟨aij,fb⟩:=Nj (tM hl f6) dw;have BI:∀(ik:ab e.a_) (dj:cO aS) (b o:R) (el:cD) (fz:R×R) (w':bu) (cJ:R->bm),ik.length=T (α:=e.a_) l->phx id=J (b,o,dj.size)->w'.heap[b]?=J (.cells dj el fz)->fY (view w' M) e ik dj o->jc dj fz->M b->mY phx M w' (view w' M) cJ id (.box (.ar m e)<|.sc (.ar m e) ik):=
    λik dj b o el fz w' cJ wj cn cR da d9 fO=>by have r7:=wj.trans aij;have FW:=da.1;rw[r7]at FW;exact⟨b,o,dj,el,fz,cn,cR,FW,⟨rfl,aFW da r7⟩,d9,fO⟩
   refine VZ (id:=id) (off:=off) (n:=n) (l:=l) (bl:=λl=>.box (.ar m e)<|.sc (.ar m e) l) bq b0 bT hm bW af_ (by rw[aij];exact hs.2.1) hs.2.2 (λ_ => ?_) (λik hl=>af_)
    (.inr ⟨eZ,uI,c0,ub,uj,b4,cz,fb,hj,kT⟩) BI
   exact hm.put (id:=id) (x:=(eZ,uI,c0.size)) (w':=w) af_ b4 kT rfl rfl rfl rfl (λ_ _=>rfl) _ af_ λk5=>
    BI _ c0 eZ uI ub uj w _ rfl b4 cz fb hj kT
def aIe(H:cX){e:aw}(eq:0<e.size)(n:R):fM H e ((cb n e.zero).take n) (k0 (db e<|eB e).cells n).toList:=by
 have ahS:k0 (db e<|eB e).cells n=l2 (eB e).toArray (n*e.size):=by
  grind [vb,k0,l2,tX]
 have h:=(Tx H eq (n:=n) (m:=n)<|cx _).uc
 grind [dg,cb,size_madeCells,List.take_of_length_le]
def afq{e:aw}{tid ty bM:cD}(bq:P.underlying tid=J (.slice bM))(aX:(dz P e).1 bM)(eq:0<e.size)(hm:cd K w0 phx M B w){id:R}{l:ab e.a_}{cZ:aS}(a4:B id=.ob e l)(ct:off+n<=T l)(xJ:iO phx id e off n cZ)
  (fb:(phx id=aq/\T l=0)\/∃b o c el fz,phx id=J (b,o,c.size)/\w.heap[b]?=J (.cells c el fz)/\fY (view w M) e l c o/\jc c fz/\M b) :
  ∃v w',(Builtin.clear_ #[tid] ty #[cZ]).run P w=.ok v w'/\d? K w0 phx M B w (dx B id<|.ob e<|eL l off n<|cb n e.zero) (.tup<|.sc .unit ()) v w':=by
 have aiG:∀phx' H' cJ,bI phx' H' cJ (.tup<|.sc .unit ())<|.tuple #[]:=λ_ _ _=>⟨[],rfl,rfl⟩;have Gt:n=0->(Builtin.clear_ #[tid] ty #[cZ]).run P w=.ok (.tuple #[]) w->∃v w',(Builtin.clear_ #[tid] ty #[cZ]).run P w=.ok v w'/\d? K w0 phx M B w (dx B id<|.ob e<|eL l off n<|cb n e.zero) (.tup<|.sc .unit ()) v w':=by rintro rfl az;rw[V0,L9 a4];exact⟨_,w,az,phx,M,hm,c8.refl _ _ _ _,aiG _ _ _⟩
 rcases xJ with⟨rfl,bn,rfl⟩|⟨b,o,abp,hB,b4,rfl,dw,f6,hj⟩
 .refine Gt rfl ?_
  cases bn<;>simp[Builtin.clear_,d' bq]
 cases n with
 |zero=>exact Gt rfl (by simp[Builtin.clear_,d' bq])
 |succ n=>
  rcases fb with⟨cn,_⟩|⟨eH,dZ,c,el,fz,cn,cR,da,d9,fO⟩
  .omega
  rw[b4]at cn;cases cn;have f2:=aIe (view w M) eq<|n+1;have uw:=f2.1;have cP:T ((cb (n+1) e.zero).take<|n+1)=n+1:=aNY
  rw[cP]at uw;have xG:(off+(n+1))*e.size<=T l*e.size:=jk _ ct;rw[lf]at xG;have FW:=da.1;obtain⟨w',bX,dj,aT,eX⟩:=Lt (P:=P) (b:=b) (el:=el) (fz:=fz) (o:=o+off*e.size) (k0 (db e<|eB e).cells<|n+1).toList 0 c w cR d9 V f2.one;obtain⟨dA,gq⟩:=da.copy (n:=n+1) ct f2 eX;refine⟨.tuple #[],w',?_,?_⟩
  .have v2:=C6 aX w
   simp_all[Builtin.clear_,d']
  obtain⟨hi,k5⟩:=hm.put (id:=id) (x:=(b,o,c.size)) (w':=w') af_ b4 fO aT.os aT.tape aT.output aT.size aT.other (.ob e<|eL l off (n+1)<|cb (n+1) e.zero) (by rw[a4];exact⟨rfl,(Bm ct).symm⟩) λk5=>
   ⟨eq,.inr ⟨b,o,dj,el,fz,by rw[b4,dA],aT.jW,gq.mono k5.vw,d9.same dA,fO⟩⟩
  exact⟨phx,M,hi,k5,aiG _ _ _⟩
def auI{e:aw}{tid ty:cD}(ht:(dz P<|.sl e).1 tid){a r:aP}{cZ:aS}(h:(VP e a).bC g B=J (r,B'))(hm:cd K w0 phx M B w)(eF:bI phx (view w M) B a cZ):
  ∃v w',(Builtin.clear_ #[tid] ty #[cZ]).run P w=.ok v w'/\d? K w0 phx M B w B' r v w':=by
 unfold VP at h;replace h:=hA h;obtain⟨eq,h⟩:=h;have eq:0<e.size:=aNN
 obtain⟨⟨bM,bq,aX⟩,_⟩:=ht;cases a<;>try(cases h;done)
 case own id fm=>
  simp only[aR.bC]at h;have hs:ci phx (view w M) B (.own id fm) cZ:=eF;simp only[ci]at hs;have ak:=hm.blks id;generalize a4:B id=bl at h hs ak;cases bl<;>try(cases h;done)
  replace h:=hA h;obtain⟨aA,h⟩:=h;have:=ft aA;subst this;cases h;exact afq (ty:=ty) bq aX eq hm a4 (Hk<|oD _) hs.1 ak.2
 case osl id off n=>
  simp only[aR.bC]at h;have hs:ci phx (view w M) B (.osl id off n) cZ:=eF;simp only[ci]at hs;have ak:=hm.blks id;generalize a4:B id=bl at h hs ak;cases bl<;>try(cases h;done)
  replace h:=hA h;obtain⟨aA,h⟩:=h;have:=ft aA;subst this;cases h;exact afq (ty:=ty) bq aX eq hm a4 hs.1 hs.2.1 ak.2
def aqd{e u:aw}{tid uid ty:cD}(ht:(dz P<|.sl e).1 tid)(bq:(dz P u).1 uid)(bD:Pr u=af){s x r:aP}{vs ib:aS}(h:(Uq e s x).bC g B=J (r,B'))
  (hm:cd K w0 phx M B w) (BS:bI phx (view w M) B s vs) (nG:bI phx (view w M) B x ib) :
  ∃v w',(lG #[tid,uid] ty #[vs,ib]).run P w=.ok v w'/\d? K w0 phx M B w B' r v w':=by
 unfold Uq at h;replace h:=hA h;obtain⟨eq,h⟩:=h;have eq:0<e.size:=aNN
 obtain⟨bZ,du,Y,ac⟩:=aR.dd h;clear h;obtain⟨rfl,news,hx,c4⟩:=ac4 (P:=P) Y hm nG;obtain⟨⟨bM,q6,aX⟩,_⟩:=ht;obtain⟨Em,zA,a?⟩:=ang bq bD;obtain⟨i,b0,bT,dE,g6⟩:=oM aX;cases s<;>try(cases ac;done)
 rename_i id off n;simp only[aR.bC]at ac;have hs:ci phx (view w M) du (.osl id off n) vs:=BS;simp only[ci]at hs;have ak:=hm.blks id;generalize a4:du id=bl at ac hs ak;cases bl<;>try(cases ac;done)
 rename_i b9 l;obtain⟨fR,cJ,av,aJ⟩:=aR.dd ac;clear ac;obtain⟨bN,rfl⟩:=eu av;obtain⟨gy,rfl⟩:=kv bN;subst gy;replace aJ:=jS aJ;obtain⟨gR,aJ⟩:=aJ;simp only[aR.bC]at aJ;cases aJ;simp only[k_,bB,aQ]at gR;have gR:off+(n+T bZ)<T l+1:=by simpa using gR
 obtain⟨ct,bg,q2⟩:=hs;have xq:=c4.1

 have aBT:bZ=[]->∃v w',(lG #[tid,uid] ty #[vs,ib]).run P w=.ok v w'/\d? K w0 phx M cJ w (dx cJ id<|.ob e<|eL l (bB off n) (aQ bZ) bZ) (.osl id off<|bB n<|aQ bZ) v w':=by
  rintro rfl;have aim:news=[]:=mW.1 (by rw[xq];simp);subst aim;have oQ:eL l (bB off n) (aQ ([]:ab e.a_)) []=l:=by simp[eL]
  rw[oQ,L9 a4];obtain⟨ad,c,rfl⟩:=bg.slice;have r9:bI phx (view w M) cJ (.osl id off<|bB n<|aQ ([]:ab e.a_))<|.slice ad n c:=by simp only[bI,eR,ci,a4];exact⟨by simpa[bB,aQ]using ct,bg,q2⟩
  cases n with
  |zero=>exact⟨_,w,aaR (P:=P) q6 zA a? b0 aLC,phx,M,hm,c8.refl _ _ _ _,r9⟩
  |succ n=>
   rcases bg with⟨zK,_⟩|⟨b,o,abp,cap,b4,cz,dw,f6,hj⟩
   .omega
   cases cz;rcases ak.2 with⟨cn,_⟩|⟨eH,dZ,dj,el,fz,cn,cR,da,d9,fO⟩
   .rw[b4]at cn;cases cn
   rw[b4]at cn;cases cn;have FW:=da.1;have xG:(off+(n+1))*e.size<=T l*e.size:=jk _ ct;rw[lf]at xG;obtain⟨w',az,c2,hp,m8⟩:=Sa (P:=P) (w:=w) (ty:=ty) q6 zA a? b0 (x:=ib) (n:=0) (news:=[]) aLC (b:=b) (o:=o+off*e.size) (sLen:=n+1) (sCap:=c) V cR d9 (by rw[bT];simp only[gM];omega) (by intro v a3;cases a3);have Xw:c2=dj:=by apply pe;rw[m8];simp[iU]
   subst Xw;obtain⟨hi,k5⟩:=hm.put (id:=id) (x:=(b,o,c2.size)) (w':=w') af_ b4 fO hp.os hp.tape hp.output hp.size hp.other (.ob e l) aPs λk5=>
    ⟨eq,.inr ⟨b,o,c2,el,fz,b4,hp.jW,da.mono k5.vw,d9,fO⟩⟩
   rw[L9 a4]at hi k5;exact⟨_,w',az,phx,M,hi,k5,k5.p r9⟩
 by_cases bW:bZ=[]
 .exact aBT bW
 have aI6:0<T bZ:=by
  cases oU:bZ with
  |nil=>exact ev oU bW
  |cons=>simp
 rcases q2 with⟨zK,_⟩|⟨b,o,abp,v9,cap,b4,cz,dw⟩
 .omega
 subst cz;obtain⟨rfl,oR⟩:=bg.afj;rcases ak.2 with⟨cn,_⟩|⟨eH,dZ,c,el,fz,cn,cR,da,d9,fO⟩
 .rw[b4]at cn;cases cn
 rw[b4]at cn;cases cn;have FW:=da.1;have xG:(off+(v9+T bZ))*e.size<=T l*e.size:=jk _ V;rw[lf,lf]at xG;obtain⟨w',az,dj,hp,m8⟩:=Sa (P:=P) (w:=w) (ty:=ty) q6 zA a? b0 (x:=ib) (n:=T bZ) (news:=news) aLC (b:=b) (o:=o+off*e.size) (sLen:=v9) (sCap:=cap) V cR d9 (by rw[bT];omega) c4.one;rw[bT]at m8;have axl:fM (view w M) e (bZ.take<|List.length bZ) news:=by rw[qH];exact c4
 obtain⟨dA,gq⟩:=da.copy (off:=off+v9) (n:=T bZ) V axl (by rw[m8,lf,l3]);obtain⟨hi,k5⟩:=hm.put (id:=id) (x:=(b,o,c.size)) (w':=w') af_ b4 fO hp.os hp.tape hp.output hp.size hp.other (.ob e<|eL l (off+v9) (T bZ) bZ) (by rw[a4];exact⟨rfl,(Bm V).symm⟩) λk5=>
  ⟨eq,.inr ⟨b,o,dj,el,fz,by rw[b4,dA],hp.jW,gq.mono k5.vw,d9.same dA,fO⟩⟩
 refine⟨_,w',az,phx,M,hi,k5,?_⟩;have fr:T (eL l (off+v9) (T bZ) bZ)=T l:=Bm V;rcases bg with⟨zK,hM,f6⟩|⟨e7,oj,aJp,N2,f6,hj,kT,lv,m?⟩
 .simp only[Value.slice.injEq]at f6;omega
 rw[b4]at f6;cases f6;simp only[Value.slice.injEq]at hj;obtain⟨_,_,rfl⟩:=hj;simp only[bI,eR,ci,fH];refine⟨by rw[show bB off v9=off+v9 from rfl,show aQ bZ=T bZ from rfl,fr];unfold bB;omega,.inr ⟨b,o,c.size,cap,b4,rfl,by show v9+T bZ<=cap;omega,lv,m?⟩,?_⟩;rw[show bB off v9=off+v9 from rfl,show aQ bZ=T bZ from rfl,fr];exact .inr ⟨b,o,c.size,_,cap,b4,rfl,dw⟩
def aGW{kJ:aw}{tid:cD}(ht:(dz P<|.ar n kJ).1 tid){a r:aP}{cZ:aS}{lo ao:au O}(h:(aa6 n kJ a (cr lo 0)<|cr ao<|bc n).bC g B=J (r,B'))(hm:cd K w0 phx M B w)
  (eF:bI phx (view w M) B a cZ) (ks kh:IntKind):B'=B/\∃v,(qD tid cZ (lo.map λi=>.int ks i) (ao.map λi=>.int kh i) aq).run P w=.ok v w/\bI phx (view w M) B r v:=by
 have run:∀{b o:R},cq (cr lo 0) (cr ao<|bc n) (bc n)=af->(qD tid (.pointer<|some ⟨b,o,aq⟩) (lo.map λi=>.int ks i) (ao.map λi=>.int kh i) aq).run P w =
   .ok (.slice (J<|if n=(cr lo 0).toNat then⟨b,o,aq⟩ else(⟨b,o,aq⟩:Addr).add<|(cr lo 0).toNat*kJ.size) ((cr ao<|bc n).toNat-(cr lo 0).toNat)<|n-(cr lo 0).toNat) w:=by
  intro b o ak;obtain⟨⟨bM,bq,aX⟩,_⟩:=ht;have oa:=aa7 (P:=P) (isSlice:=ag) (ks:=ks) (kh:=kh) (cx n) ak w;have bN:=pS aX w;simp[qD,Instr.sureAddr,d' bq,oa,bN];rfl
 unfold aa6 at h;split at h
 .rename_i id
  simp only[aR.bC]at h;have hs:ci phx (view w M) B (.ptr id []) cZ:=eF;simp only[ci]at hs;have ak:=hm.blks id;generalize a4:B id=bl at h hs ak;cases bl<;>try(cases h;done)
  case box t v=>
   replace h:=hA h;obtain⟨aA,h⟩:=h;replace h:=jS h;obtain⟨dP,h⟩:=h;cases h;simp only[d5]at aA;obtain⟨Y,ac,av⟩:=aA;have:=ft Y;subst this;have eq:0<kJ.size:=by simpa using ac
   have kz:n<=16777216:=aOD
   obtain⟨b,o,m,off,t',b4,cz,rfl⟩:=hs;simp only[aw.e2,jN,mV]at cz;obtain⟨rfl,_⟩:=cz;obtain⟨eZ,uI,c0,ub,uj,cn,cR,da,d9,fO,nQ⟩:=ak;rw[b4]at cn;cases cn;have da:o+n*kJ.size<=c0.size:=da;obtain⟨dN,fC,jd⟩:=tn.1 dP;have jd:cr ao (bc n)<=(n:O):=jd;refine⟨rfl,_,run dP,?_⟩;show ci phx (view w M) B (.osl id (ah<|cr lo 0)<|cy (ah<|cr ao<|bc n)<|ah<|cr lo 0) _;simp only[ci,a4];refine⟨eq,by unfold cy ah;omega,?_⟩;unfold cy ah;by_cases hl:n=(cr lo 0).toNat
   .left
    rw[aH hl];exact⟨V,_,by rw[show(cr ao<|bc n).toNat-(cr lo 0).toNat=0 by omega,show n-(cr lo 0).toNat=0 by omega]⟩
   right;rw[aD hl];refine⟨b,o,c0.size,n-(cr lo 0).toNat,b4,by simp[rN],V,ai_,?_⟩;rw[show(cr lo 0).toNat+(n-(cr lo 0).toNat)=n by omega];exact da
  case fz e l=>
   replace h:=hA h;obtain⟨aA,h⟩:=h;replace h:=jS h;obtain⟨dP,h⟩:=h;cases h;simp only[d5]at aA;obtain⟨Y,av⟩:=aA;have:=ft Y;subst this;have kz:n<=16777216:=aOD
   simp only[df,d5]at dP;obtain⟨Pb,dP⟩:=dP;have Pb:T l=n:=iM Pb;obtain⟨b,o,m,b4,cz⟩:=hs;have:=cz trivial;subst this;rcases ak.2 with⟨cn,_⟩|⟨eZ,uI,c0,ub,uj,cn,cR,da⟩
   .rw[b4]at cn;cases cn
   rw[b4]at cn;cases cn;obtain⟨dN,fC,jd⟩:=tn.1 dP;have jd:cr ao (bc n)<=(n:O):=jd;have dc:ba (view w M) (.sl e) l [.slice (J ⟨b,o,aq⟩) (T l) n]:=
    ba.jt.2 ⟨_,n,rfl,V,ai_,.inr ⟨b,o,c0,ub,uj,rfl,cR,da.1,da.2⟩⟩
   have bv:=dc.sub (L:=(cr lo 0).toNat) (N:=(cr ao<|bc n).toNat-(cr lo 0).toNat) (cap':=n-(cr lo 0).toNat) V V<|cx _;refine⟨rfl,_,run dP,_,bv,?_⟩;refine(show Value.slice _ _ _=Value.slice _ _ _ from ?_);congr 1;by_cases hl:n=(cr lo 0).toNat
   .rw[aH hl,aH V]
   rw[aD hl,aD V];rfl
 cases h
end
end Yp
namespace Yp
open Go
def DQ:=@Int.fdiv_eq_ediv_of_nonneg
def MK:=@Array.getElem?_setIfInBounds_ne
def acy:=@Nat.ble_eq
variable {P:d_}
section
variable {K:Kp} {w0 w:bu} {phx:cV} {M:R->Prop} {B B':R->bm} {g:R->aP} {H:cX}
def aBI{x r:aP}{ib:aS}(h:(Ze x).bC g B=J (r,B'))(hm:cd K w0 phx M B w)(az:bI phx (view w M) B x ib)(ty:cD):
  ∃v w',(Instr.next ib af ty).run P w=.ok v w'/\d? K w0 phx M B w B' r v w':=by
 cases x<;>try(cases h)
 rename_i id;simp only[Ze,aR.bC]at h;have hs:ci phx (view w M) B (.itp id) ib:=az;have et:=hm.blks id;simp only[ci]at hs;generalize a4:B id=bl at h hs et;cases bl<;>try(cases h)
 rename_i s p;obtain⟨b,Y,rfl⟩:=hs;obtain⟨eH,b0,bT,dE⟩:=et;rw[Y]at b0;cases b0;have th:∀w':bu,w'.heap[b]?=J (.stringIter ⟨s.toArray⟩ p)->(getObj b).run P w'=.ok (.stringIter ⟨s.toArray⟩ p) w':=λw' bR=>by simp[getObj,Sem.run,bR]
 have dA:(⟨s.toArray⟩:ByteArray).size=s.length:=rfl;by_cases hp:p<s.length
 .have ax:k_ p (aQ s)=af:=by simpa[k_,aQ]using hp
  rw[aR.bC,aH ax]at h;cases h
  let w':bu:={ w with heap:=w.heap.setIfInBounds b (.stringIter ⟨s.toArray⟩<|p+(iZ s p).2) }
  have bK:=(jO.1 bT).1;have oa:w'.heap[b]?=J (.stringIter ⟨s.toArray⟩<|p+(iZ s p).2):=by simp[w',bK]
  have bg:∀j,j≠b->w'.heap[j]?=w.heap[j]?:=λj aF=>by simp[w',MK<|Hm aF]
  have aya:Utf8.decode (⟨s.toArray⟩:ByteArray) p=iZ s p:=rfl;refine⟨.tuple #[.bool af,goInt p,.int .i32 ((iZ s p).1:O)],w',?_,?_⟩
  .simp[Instr.next,th w bT,dA,hp,aya,setObj,Sem.run,bT,w']
  obtain⟨b',e1⟩:=hm.put (id:=id) (x:=(b,0,0)) (w':=w') af_ Y dE rfl rfl rfl (by grind) bg (.it s<|bB p (iZ s p).2) af_<|λ_=>⟨b,Y,oa,dE⟩;refine⟨phx,M,b',e1,[.bool af,goInt p,.int .i32 ((iZ s p).1:O)],?_,rfl⟩;have cn:eR phx (view w' M) (dx B id<|.it s<|bB p (iZ s p).2) (Yp.int<|bc p)<|goInt p:=bI.v' (phx:=phx) (B:=dx B id<|.it s<|bB p (iZ s p).2) _ p;have cR:eR phx (view w' M) (dx B id<|.it s<|bB p (iZ s p).2) (.sc (.int .i32)<|bc (iZ s p).1)<|.int .i32 ((iZ s p).1:O):=bI.uF phx _ (dx B id<|.it s<|bB p (iZ s p).2) .i32 ((iZ s p).1:O);exact⟨_,_,rfl,rfl,_,_,rfl,cn,_,_,rfl,cR,rfl⟩
 have ax:¬(k_ p (aQ s)=af):=by simpa[k_,aQ]using hp
 rw[aR.bC,aD ax]at h;cases h;refine⟨.tuple #[.bool ag],w,?_,d?.same hm rfl ?_⟩
 .simp[Instr.next,th w bT,dA,hp]
 exact⟨[.bool ag],⟨_,_,rfl,rfl,rfl⟩,rfl⟩
def afm{b:aE}{k:aR aP}{r:aP×(R->bm)}(h:(Bk b c k).bC g B=J r):(b=af\/c=af)/\k.bC g B=J r:=by
 cases b with
 |true=>exact⟨.inl rfl,h⟩
 |false=>obtain⟨Y,ac⟩:=jS h;exact⟨.inr Y,ac⟩
def ans{op:BinOp}(xI:op=.shl\/op=.shr){k k':IntKind}{x:cj k}{y:cj k'}(bW:0<=cj.to k' y)(t:cD)(w:bu):
  ∃v,(binOp op t (.int k<|cj.to k x)<|.int k'<|cj.to k' y).run P w=.ok v w /\
   bI phx H B (match op with|.shl=>.sc (.int k) (cj.of k<|h0 k (cj.to k x)<|cj.to k' y)|_=>.sc (.int k)<|cj.lit k<|e4 k (cj.to k x)<|cj.to k' y) v:=by
 have ax:¬cj.to k' y<0:=V;rcases xI with rfl|rfl
 .refine⟨.int k<|k.wrap<|h0 k (cj.to k x)<|cj.to k' y,by simp[binOp,Op.shift,ax,h0],?_⟩
  grind [bI.uF,cj.S5]
 refine⟨.int k<|e4 k (cj.to k x)<|cj.to k' y,by simp[binOp,Op.shift,ax,e4],?_⟩;have:=bI.uF phx H B k<|cj.lit k<|e4 k (cj.to k x)<|cj.to k' y;rw[cj.YV]at this
 .omega
 intro bq;have Y:=cj.L4 k x bq;have ac:=cj.aop k x bq;unfold e4;have hp:(0:O)<2^(Nat.min (cj.to k' y).toNat k.bits):=Int.pow_pos V;rw[DQ _<|Int.le_of_lt hp];exact⟨Int.ediv_nonneg Y<|Int.le_of_lt hp,Int.le_trans (Int.ediv_le_self _ Y) ac⟩
def run_equalIn_bool(n:R){tid:cD}(bq:P.underlying tid=J .bool)(p q:aE)(w:bu):(Op.equalIn (n+1) tid (.bool p)<|.bool q).run P w=.ok (p==q) w:=by simp_all[Op.equalIn,d']
def aF6{tid:cD}(bq:P.underlying tid=J .bool)(p q:aE)(w:bu):(Op.equal tid (.bool p)<|.bool q).run P w=.ok (p==q) w:=
 run_equalIn_bool 9999 bq p q w
def aF8{tid bM:cD}(bq:P.underlying tid=J (.slice bM))(ad:au Addr)(l c:R)(w:bu):(Op.equal tid (.slice ad l c)<|.slice aq 0 0).run P w=.ok ad.isNone w:=by show(Op.equalIn (9999+1) tid _ _).run P w=_;rw[Op.equalIn];simp only[Sem.run_bind,d' bq];cases ad<;>rfl
def aqH{E:dO}(hT:ou P E.cp)(dc:qS P E.cp E.C){op:BinOp}{tid:cD}{a b r:aP}{cZ u9:aS}(h:(UG E op tid a b).bC g B=J (r,B'))(eF:bI phx H B a cZ)(vX:bI phx H B b u9)(x y:fS)(w:bu):
  B'=B/\∃v,(do eqGuard op tid x y cZ u9;binOp op tid cZ u9:Sem aS).run P w=.ok v w/\bI phx H B r v:=by
 unfold UG at h;cases ht:E.cp tid with
 |none=>rw[ht]at h;cases h
 |some t=>
  rw[ht]at h;cases ao:aw.is t .bool with
  |true=>
   have:=ft ao;subst this;have bq:P.underlying tid=J .bool:=(hT _ _ ht).1;cases b6:ju .bool a with
   |none=>rw[b6]at h;cases h
   |some p=>
    cases ak:ju .bool b with
    |none=>rw[b6,ak]at h;cases h
    |some q=>
     rw[b6,ak]at h;have e1:=(o6 b6 eF).bool;have bh:=(o6 ak vX).bool;subst e1;subst bh;have hg:(eqGuard op tid x y (.bool p)<|.bool q).run P w=.ok () w:=by unfold eqGuard;cases op<;>rfl
     have r2:(Op.equal tid (.bool p)<|.bool q).run P w=.ok (p7 p q) w:=Yp.aF6 bq p q w;exact aKL
  |false=>
   simp only[ao,k1]at h;cases aA:E.C tid with
   |false=>
    rw[aA,k1]at h;unfold aj1 at h;split at h
    .rename_i e t' z
     obtain⟨aoZ,du,Y,ac⟩:=aR.dd h;obtain⟨bN,rfl⟩:=eu Y;obtain⟨gy,rfl⟩:=w? bN;subst gy;cases ac;simp only[bI]at vX;subst vX;obtain⟨cs,av,rfl⟩:=eF;obtain⟨ad,cap,rfl,aJ,bv,c_⟩:=ba.Dh.1 av;obtain⟨⟨bM,bq,_⟩,_⟩:=hT _ _ ht;refine⟨rfl,_,?_,ad.isNone,rfl,λax => ?_⟩
     .have hg:∀n,(eqGuard .eql tid x y (.slice ad n cap)<|.slice aq 0 0).run P w=.ok () w:=λ_=>rfl
      have r2:=λn=>aF8 (P:=P) bq ad n cap w;simp[hg,binOp,db,aw.isAgg,r2]
     rcases c_ with c_|⟨b,o,c,el,fz,rfl,_⟩
     .simp[am,len,c_]
     cases ax
    cases h
   |true=>
   rw[aA]at h;have fa:=dc tid t aA ht;simp only[VV,d5,yK,acy]at fa;obtain⟨⟨⟨ky,aIK⟩,ax3⟩,ayy⟩:=fa;cases b6:ju t a with
   |none=>rw[b6]at h;cases h
   |some p=>
    cases ak:ju t b with
    |none=>rw[b6,ak]at h;cases h
    |some q=>
     rw[b6,ak]at h;obtain⟨cs,c1,e1⟩:=o6 b6 eF;obtain⟨ds,c2,bh⟩:=o6 ak vX;rw[x1 ky]at e1 bh;subst e1;subst bh;have hg:=run_eqGuard_agg (P:=P) w op tid x y cs.toArray ds.toArray ayy;have r2:(Op.equal tid (.agg cs.toArray)<|.agg ds.toArray).run P w=.ok (t.pr p q) w:=by
      have:=(Oo (P:=P) (H:=H) (H':=H) w t).1 tid 10000 p q cs ds ax3 (hT _ _ ht) c1 c2 V
      rwa [x1 ky,x1 ky]at this
     exact aKL
def aqJ{E:dO}(hT:ou P E.cp)(dc:qS P E.cp E.C){wc J7:aE}{op:BinOp}{tid:cD}{a b r:aP}{cZ u9:aS}(h:(Ns E wc J7 op tid a b).bC g B=J (r,B'))(eF:bI phx H B a cZ)(vX:bI phx H B b u9)
  (aio:wc=af->∀k n,u9=.int k n->n≠0) (aim:J7=af->∀k n,u9=.int k n->0<=n) (x y:fS) (w:bu) :
  B'=B/\∃v,(do eqGuard op tid x y cZ u9;binOp op tid cZ u9:Sem aS).run P w=.ok v w/\bI phx H B r v:=by
 unfold Ns at h;split at h
 .rename_i k p k' q
  have e1:=eF.int;have bh:=vX.int;subst e1;subst bh;have hg:=avN (P:=P) op tid x y k k' (cj.to k p) (cj.to k' q) w;split at h
  .obtain⟨aA,h⟩:=afm h
   cases h;have bW:0<=cj.to k' q:=aL3
   obtain⟨v,Y,ac⟩:=ans (P:=P) (phx:=phx) (H:=H) (B:=B) (op:=.shl) (.inl rfl) (x:=p) (y:=q) bW tid w;exact⟨rfl,v,aOW,ac⟩
  .obtain⟨aA,h⟩:=afm h
   cases h;have bW:0<=cj.to k' q:=aL3
   obtain⟨v,Y,ac⟩:=ans (P:=P) (phx:=phx) (H:=H) (B:=B) (op:=.shr) (.inr rfl) (x:=p) (y:=q) bW tid w;exact⟨rfl,v,aOW,ac⟩
  split at h
  .rename_i Qr bD
   obtain⟨e,rfl⟩:=w? bD;cases e;obtain⟨a4,v,Y,ac⟩:=aqI (P:=P) h (λbN=>aio bN _ _ rfl) tid w phx H;exact⟨a4,v,aOW,ac⟩
  cases h
 .rename_i p q
  have e1:=eF.str;have bh:=vX.str;subst e1;subst bh;have hg:=avO (P:=P) op tid x y ⟨p.toArray⟩ ⟨q.toArray⟩ w;obtain⟨a4,v,Y,ac⟩:=aqK (P:=P) h tid w phx H;exact⟨a4,v,aOW,ac⟩
 exact aqH hT dc h eF vX x y w
end
end Yp
namespace Yp
open Go
def dV:=@List.length_drop
def gd:=@List.length_cons
def DR:=@List.mem_map
def DN:=@List.foldl_cons
def MI:=@List.getElem?_cons_succ
def T8:=@Array.length_toList
def MA:=@Array.toList_setIfInBounds
def Mw:=@List.mapM_cons
variable {P:d_}
def qK(phx:cV)(H:cX)(B:R->bm):ab (R×aP)->ab (R×aS)->Prop
 |[],[]=>True
 |p::bE,v::vs=>p.1=v.1/\bI phx H B p.2 v.2/\qK phx H B bE vs
 |_,_=>fI
section
variable {K:Kp} {w0 w:bu} {phx:cV} {M:R->Prop} {B B':R->bm} {g:R->aP} {H:cX}
def qK.ext{phx':cV}{aZ:R->Prop}{w':bu}(aX:c8 phx M B w phx' aZ B' w'):∀{bE:ab<|Nat×aP} {vs:ab<|Nat×aS},qK phx (view w M) B bE vs->qK phx' (view w' aZ) B' bE vs
 |[],[],_=>trivial
 |_::_,_::_,h=>⟨h.1,aX.p h.2.1,qK.ext aX h.2.2⟩
def ZW{a:Act}(hs:eh phx H B g a):∀{l:ab<|Nat×fS} {B':R->bm} {bE:ab<|Nat×aP},(Ql l).bC g B=J (bE,B')->B'=B/\qK phx H B bE (l.map λp=>(p.1,a.eval p.2))
 |[],B',bE,h=>aOX
 |p::l,B',bE,h=>by have h:(((e3 p.2).bind λv=>.ret (p.1,v)).bind λb=>(Ql l).bind λcQ=>.ret<|b::cQ).bC g B=J (bE,B'):=h;obtain⟨b,du,Y,ac⟩:=aR.dd h;obtain⟨v,cJ,av,aJ⟩:=aR.dd Y;cases aJ;obtain⟨lq,a3⟩:=z2 av hs;obtain⟨cQ,wR,bv,c_⟩:=aR.dd ac;cases c_;rw[lq]at bv;obtain⟨a4,hp⟩:=ZW hs bv;exact⟨a4,rfl,a3,hp⟩
def ajo(off:R):∀(vs:ab aS) (k:R) (cs:cO aS),off+k+T vs<=cs.size ->
  ((vs.zipIdx k).foldl (λcs (p:aS×R)=>cs.setIfInBounds (off+p.2) p.1) cs).toList=iU cs.toList (off+k) vs
 |[],k,cs,h=>by simp[iU]
 |v::vs,k,cs,h=>by
  simp only[List.zipIdx_cons,DN];simp only[gd]at h;have cP:off+(k+1)+T vs<=cs.toList.length:=e8;have Pa:off+k+T (v::vs)<=cs.toList.length:=e8;rw[ajo off vs (k+1) _ e8];apply vf;intro j;rw[GI e8,GI Pa];simp only[MA,TO,gd,T8];by_cases bv:j<off+k
  .rw[aH V,aH bv,aD V]
  rw[aD bv];by_cases c_:j=off+k
  .subst c_
   have:off+k<cs.size:=V;simp[this]
  by_cases eJ:j<off+k+(T vs+1)
  .rw[aD V,aH V,aH eJ]
   rw[show j-(off+k)=(j-(off+(k+1)))+1 by omega,MI]
  rw[aD V,aD V,aD eJ,aD V]
theorem aAZ(off:R)(vs cs:cO aS)(h:off+vs.size<=cs.size):
  (vs.zipIdx.foldl (λcs (p:aS×R)=>cs.setIfInBounds (off+p.2) p.1) cs).toList=iU cs.toList off vs.toList:=by
 have:=ajo off vs.toList 0 cs V;rw[<- Array.foldl_toList]
 grind
def agu{place:R->au (R×R)}{cs:cO aS}{v:aS}{rest:ab<|Nat×aS}{size:R}(hp:place i=J (off,size))(hs:v.cells.size=size)(ax:off+size<=cs.size):
  ∃kw:cO aS,kw.toList=iU cs.toList off v.cells.toList/\Instr.fill place cs ((i,v)::rest)=Instr.fill place kw rest:=by
 grind [aAZ,Instr.fill]
def akV:∀{t:aw} {l:ab Field} {off:R},(dz P t).2 l off->∃places,l.mapM (λf=>(P.info? f.type).map λi=>(f.offset,i.size))=J places /\
  ∀i d eM,t.e2 (g5 i)=J (d,eM)->places[i]?=J (off+d,eM.size)
 |.unit,l,off,h=>by subst h;exact⟨[],rfl,λi d eM h=>by cases i<;>cases h⟩
 |.pair a b,l,off,h=>by
  obtain⟨f,r,rfl,Y,ac,av⟩:=h;obtain⟨bE,b0,bT⟩:=akV av;obtain⟨i,b4,cz,_⟩:=oM ac;refine⟨(off,a.size)::bE,by simp[Mw,b0,b4,cz,Y],λj d eM h => ?_⟩;cases j with
  |zero=>
   grind [g5,aw.e2]
  |succ j=>
   simp only[g5,aw.e2,ns]at h
   grind
def UT{t:aw}{place:R->au (R×R)}(jF:∀i d eM,t.e2 (g5 i)=J (d,eM)->place i=J (d,eM.size)):
  ∀{bE:ab<|Nat×aP} {vs:ab<|Nat×aS} {v dH:aP} {cs:cO aS},(ED t bE).bC g B=J ((),B')->Gy t v bE=J dH->qK phx H B bE vs->fX phx H B v t cs.toList ->
  B'=B/\∃kw,Instr.fill place cs vs=J kw/\fX phx H B dH t kw.toList
 |[],[],v,dH,cs,Y,ac,av,aJ=>by cases Y;cases ac;exact⟨rfl,cs,rfl,aJ⟩
 |(i,u)::bE,(j,x)::vs,v,dH,cs,Y,ac,av,aJ=>by
  obtain⟨j?,hx,av⟩:=av;simp only[ED]at Y;simp only[Gy]at ac;cases zp:t.at (g5 i) with
  |none=>rw[zp]at Y;cases Y
  |some eM=>
   rw[zp]at Y;obtain⟨_,du,bv,c_⟩:=aR.dd Y;obtain⟨lp,cu,px,hT⟩:=OG bv hx;rw[lp]at c_;obtain⟨d,bg⟩:=Uy zp;cases hs:nT v (g5 i) (AA u) with
   |none=>rw[hs]at ac;cases ac
   |some yx=>
    rw[hs]at ac;have hl:=hT.length;have ct:=wd bg;have dA:x.cells.size=eM.size:=by rw[<- hl,<- px];simp
    have m9:=aJ.length;obtain⟨HW,e1,bh⟩:=agu (rest:=vs) (jF i d eM bg) dA (cs:=cs) (by grind);have ahA:=aa1 aJ bg hs hT;rw[<- px,<- e1]at ahA;obtain⟨a4,s3,ei,hQ⟩:=UT jF c_ ac av ahA
    grind
def adu{t:aw}(eU:ai5 t=af){tid:cD}(ht:(dz P t).1 tid){bE:ab<|Nat×aP}{parts:cO<|Nat×aS}{r:aP}
  (h:((ED t bE).bind λ_=>(aR.opt<|Gy t (oB t) bE).bind λv=>.ret<|rC t v).bC g B=J (r,B')) (dQ:qK phx H B bE parts.toList) (w:bu) :
  B'=B/\∃v,(Instr.build tid parts).run P w=.ok v w/\bI phx H B r v:=by
 obtain⟨_,du,Y,ac⟩:=aR.dd h;obtain⟨v,cJ,av,aJ⟩:=aR.dd ac;obtain⟨bv,rfl⟩:=eu av;cases aJ;have ky:t.isAgg=af:=by cases t<;>first|rfl|cases eU
 obtain⟨f',bq,I3⟩:∃f',P.underlying tid=J (.struct f')/\(dz P t).2 f'.toList 0:=by
  cases t<;>try(cases eU;done)
  .obtain⟨⟨f',bq,aX⟩,_⟩:=ht;exact⟨f',bq,aX⟩
  obtain⟨⟨f',bq,f,q,e1,bh,ei,hQ⟩,_⟩:=ht;exact⟨f',bq,f,q,e1,bh,ei,by simpa using hQ⟩
 obtain⟨places,dN,fC⟩:=akV I3;obtain⟨i,b4,cz,_,f6⟩:=oM ht;have Ym:fX phx H B (oB t) t (eB t).toArray.toList:=AV t;obtain⟨a4,kw,e1,bh⟩:=UT (g:=g) (B':=B') (place:=(places.toArray[·]?)) (λi d eM bg=>by have:=fC i d eM bg;simpa using this) Y bv dQ Ym;refine⟨a4,.agg kw,run_build w tid parts kw ?_,?_⟩
 .have Jv:((db t<|eB t)).cells=(eB t).toArray:=vb t
  simp only[Program.built,b4,bq,f6,dN,Jv];exact e1
 have:=DD bh;simp only[db,ky,if_true]at this;simpa using this
def Sq{α:Type}:∀(f7:ab<|Nat×α) (l:ab α),T (wC l f7)=T l
 |[],l=>rfl
 |(i,x)::f7,l=>by simp only[wC];rw[Sq f7];simp
def fM.set{e:aw}{l:ab e.a_}{cs:ab aS}(h:fM H e l cs)(ao:i<T l){x:e.a_}{cu:ab aS}(hx:ba H e x cu):fM H e (l.set i x)<|iU cs (i*e.size) cu:=by
 have hl:=hx.length;have hm:=zX (s:=e.size) ao;have iS:i*e.size+cu.length<=T cs:=by rw[h.1,hl];exact hm
 refine⟨by rw[GJ iS,h.1,jj],λj y aF => ?_⟩;by_cases eT:j=i
 .subst eT
  have:=YT (x:=x) ao;simp only[cA]at this;rw[this]at aF;cases aF;have:=SP (a:=j*e.size) (o:=0) (n:=e.size) (cs:=cs) (vs:=cu) (by simpa using iS) V;simp only[MH]at this;rw[this,anN]
  .exact hx
  rw[jl,dV];omega
 have:=YS (l:=l) (x:=x) eT;simp only[cA]at this;rw[this]at aF;rw[LR iS]
 .exact h.2 j y aF
 rcases G' eT with h|h
 .have:=zX (s:=e.size) h;left;omega
 have:=zX (s:=e.size) h;right;omega
def Uj(H:cX)(e:aw):ab (R×e.a_)->ab (R×aS)->Prop
 |[],[]=>True
 |p::bE,v::vs=>p.1=v.1/\ba H e p.2 v.2.cells.toList/\Uj H e bE vs
 |_,_=>fI
def abL{e:aw}:∀{bE:ab<|Nat×aP} {vs:ab<|Nat×aS} {f7:ab<|Nat×e.a_} {M:R->Prop} {B B':R->bm},(L3 e bE).bC g B=J (f7,B')->cd K w0 phx M B w->qK phx (view w M) B bE vs ->
  ∃aZ,cd K w0 phx aZ B' w/\c8 phx M B w phx aZ B' w/\Uj (view w aZ) e f7 vs/\f7.map (·.1)=bE.map (·.1)
 |[],[],f7,M,B,B',h,hm,_=>by cases h;exact⟨M,hm,c8.refl _ _ _ _,trivial,rfl⟩
 |(i,u)::bE,(j,v)::vs,f7,M,B,B',h,hm,hp=>by obtain⟨j?,bq,hp⟩:=hp;subst j?;obtain⟨x,du,Y,ac⟩:=aR.dd h;obtain⟨aJu,cJ,av,aJ⟩:=aR.dd ac;cases aJ;obtain⟨cs,a3,gw,b',e1,_,_,f1⟩:=AD Y hm bq;obtain⟨dF,cN,bh,f2,f3⟩:=abL av b'<|hp.ext e1;refine⟨dF,cN,e1.trans bh,⟨rfl,?_,f2⟩,by simp[f3]⟩;have dc:=f1 rfl;rw[a3,JY dc];exact dc.mono bh.vw
def Ww{e:aw}{place:R->au (R×R)}(jF:∀i,place i=J (i*e.size,e.size)):
  ∀{f7:ab<|Nat×e.a_} {vs:ab<|Nat×aS} {l:ab e.a_} {cs:cO aS},Uj H e f7 vs->(∀p∈f7.map (·.1),p<T l)->fM H e l cs.toList ->
  ∃kw,Instr.fill place cs vs=J kw/\fM H e (wC l f7) kw.toList
 |[],[],l,cs,_,_,h=>⟨cs,rfl,h⟩
 |(i,x)::f7,(j,v)::vs,l,cs,hx,ao,h=>by
  obtain⟨j?,dc,hx⟩:=hx;subst j?;have bK:=ao i bP;have hl:=dc.length;have hm:=zX (s:=e.size) bK;have dA:=by simpa using hl
  have m9:=h.1;obtain⟨HW,e1,bh⟩:=agu (rest:=vs) (jF i) dA (cs:=cs) (by grind);have Y:=h.set bK dc;rw[<- e1]at Y;obtain⟨s3,ei,hQ⟩:=Ww jF hx (λp hp=>by rw[jj];exact ao p<|by grind) Y;exact⟨s3,by rw[bh];exact ei,hQ⟩
def fM.ar{e:aw}{l:ab e.a_}{cs:ab aS}(h:fM H e l cs)(ax:T l=n):ba H (.ar n e) l cs:=ba.D6.2 ⟨ax,by rw[h.1,ax],h.2⟩
def aq2{e:aw}{tid:cD}(ht:(dz P<|.ar n e).1 tid){bE:ab<|Nat×aP}{parts:cO<|Nat×aS}{r:aP}
  (h:((aR.need<|bE.all λp=>hv p.1 n).bind λ_=>(L3 e bE).bind λf7=>.ret<|.sc (.ar n e)<|wC (eC n e.zero) f7).bC g B=J (r,B')) (hm:cd K w0 phx M B w) (dQ:qK phx (view w M) B bE parts.toList) :
  ∃v,(Instr.build tid parts).run P w=.ok v w/\d? K w0 phx M B w B' r v w:=by
 obtain⟨_,du,Y,ac⟩:=aR.dd h;obtain⟨hall,rfl⟩:=lT Y;obtain⟨f7,cJ,av,aJ⟩:=aR.dd ac;cases aJ;obtain⟨dF,cN,bh,f2,f3⟩:=abL av hm dQ;obtain⟨i,b4,cz,_,f6⟩:=oM ht;obtain⟨⟨bM,bq,aX⟩,_⟩:=ht;obtain⟨zE,JD,zJ,_,aAG⟩:=oM aX;have bN:=ba.D6.1<|ba.zero (view w dF)<|.ar n e;have c4:fM (view w dF) e (eC n e.zero) (eB<|.ar n e).toArray.toList:=⟨by simpa using bN.2.1,λi x ao=>by simpa using bN.2.2 i x ao⟩;have bK:∀p∈f7.map (·.1),p<T (eC n e.zero):=λp hp=>by rw[f3,DR]at hp;obtain⟨q,bD,rfl⟩:=hp;have:=rI.1 hall q bD;simpa using this
 obtain⟨kw,cn,cR⟩:=Ww (place:=λi=>J (i*zE.size,zE.size)) (λi=>by rw[zJ]) f2 bK c4;refine⟨.agg kw,run_build w tid parts kw ?_,phx,dF,cN,bh,kw.toList,cR.ar (by rw[Sq];simp),by simp[db,aw.isAgg]⟩;simp only[Program.built,b4,bq,f6,JD];exact cn
def abO:∀n,(nW n).size=n
 |0=>rfl
 |n+1=>by simp only[nW,aw.size,abO n];omega
def ao6:∀n,eB (nW n)=eC n (Value.pointer aq)
 |0=>rfl
 |n+1=>by have:=ao6 n;simp only[nW,eB,this];rfl
def aBe(v:aS)(n:R):(l2 #[v] n).toList=eC n v:=by simp_all[List.eq_replicate_iff,l2,Nat.mod_one]
def akm:∀{n i d:R} {eM:aw},(nW n).e2 (g5 i)=J (d,eM)->d=i/\eM=.op 3
 |0,i,d,eM,h=>by cases i<;>cases h
 |n+1,0,d,eM,h=>by
  have:=pb h
  grind
 |n+1,i+1,d,eM,h=>by
  simp only[nW,g5,aw.e2,ns]at h;obtain⟨q,bD,aX⟩:=h;cases aX;obtain⟨Y,ac⟩:=akm (n:=n) (i:=i) bD
  grind [aw.size]
def aF4{e:aw}{tid bM:cD}(bq:P.underlying tid=J (.slice bM))(aX:(dz P e).1 bM)(ak:n*e.size<=16777216)(eq:0<e.size){parts:cO<|Nat×aS}{kw:cO aS}
  (cn:Instr.fill (λi=>J (i*e.size,e.size)) (l2 (eB e).toArray<|n*e.size) parts.toList=J kw) (w:bu) :
  (Instr.buildSlice tid n parts).run P w=.ok (.slice (J ⟨w.heap.size,0,aq⟩) n n) (w.alloc<|.cells kw bM):=by
 have Jv:=vb e;by_cases aC:n*e.size=0
 .have XR:l2 (eB e).toArray (n*e.size)=#[]:=by rw[aC];simp[l2]
  exact aLW
 have hs:=pS aX w;have v2:=C6 aX w;have Xt:¬(16777216<n*e.size):=V;simp only[l2]at cn;simp[Instr.buildSlice,d' bq,hs,aC,Xt,v2,Jv,Go.newRow];simp_all
def aDj{tid:cD}(ht:(dz P<|.sl<|.op 3).1 tid){bE:ab<|Nat×aP}{parts:cO<|Nat×aS}{r:aP}(h:(ak0 d n bE).bC g B=J (r,B'))(hm:cd K w0 phx M B w)
  (dQ:qK phx (view w M) B bE parts.toList):∃v w',(Instr.buildSlice tid n parts).run P w=.ok v w'/\d? K w0 phx M B w B' r v w':=by
 replace h:=hA h;obtain⟨aA,h⟩:=h;simp at aA;obtain⟨_,du,Y,ac⟩:=aR.dd h;obtain⟨v,cJ,av,aJ⟩:=aR.dd ac;obtain⟨bv,rfl⟩:=eu av;obtain⟨⟨bM,bq,aX⟩,_⟩:=ht;have Ym:fX phx (view w M) B (oB<|nW n) (nW n) (l2 (eB<|.op 3).toArray<|n*(aw.op 3).size).toList:=by
  have h:=AV (phx:=phx) (B:=B) (H:=view w M)<|nW n;rw[ao6]at h;have e:(l2 (eB<|.op 3).toArray<|n*(aw.op 3).size).toList=eC n (Value.pointer aq):=by rw[show n*(aw.op 3).size=n from pd n];exact aBe _ n
  grind
 obtain⟨a4,kw,e1,bh⟩:=UT (g:=g) (B':=cJ) (place:=λi=>J (i*(aw.op 3).size,(aw.op 3).size)) (λi d eM bg=>by obtain⟨rfl,rfl⟩:=akm bg;rw[show d*(aw.op 3).size=d from pd d]) Y bv dQ Ym
 subst a4;obtain⟨hid,aJ⟩:=EG aJ;cases aJ;have dA:=by have:=bh.length;rw[abO]at this;simpa using this
 refine⟨_,_,aF4 bq aX (by rw[show n*(aw.op 3).size=n from pd n];omega) di e1 w,?_⟩;obtain⟨phx',aZ,b',Wc,zj⟩:=hm.born hid (w':=w.alloc<|.cells kw bM) rfl rfl rfl bP (sX w _) (.box (nW n) v) kw.size λphx' aZ aX hp eE=>by refine⟨w.heap.size,0,kw,bM,(0,0),hp,sW w _,by rw[abO];omega,?_,z0 _,eE⟩;rw[Sn rfl bh.length];exact aX.cp bh
 refine⟨phx',aZ,b',Wc,?_⟩
 grind [bI,eR,ci,fH]
def aq1{e:aw}{tid:cD}(ht:(dz P<|.sl e).1 tid){bE:ab<|Nat×aP}{parts:cO<|Nat×aS}{r:aP}(h:(adt d e n bE).bC g B=J (r,B'))(hm:cd K w0 phx M B w)
  (dQ:qK phx (view w M) B bE parts.toList):∃v w',(Instr.buildSlice tid n parts).run P w=.ok v w'/\d? K w0 phx M B w B' r v w':=by
 obtain⟨_,du,Y,ac⟩:=aR.dd h;obtain⟨hall,rfl⟩:=lT Y;simp only[d5,acy]at hall;obtain⟨f7,cJ,av,aJ⟩:=aR.dd ac;obtain⟨eq,g9,rfl,rfl⟩:=x4 aJ;obtain⟨dF,cN,bh,f2,f3⟩:=abL av hm dQ;obtain⟨⟨bM,bq,aX⟩,_⟩:=ht;obtain⟨zE,JD,zJ,_,aAG⟩:=oM aX;have az3:=Tx (view w dF) eq (n:=n) (m:=n)<|cx _;have ahs:=az3.uc;have azy:dg (l2 (eB e).toArray<|n*e.size) 0 (T (cb n e.zero)*e.size)=(l2 (eB e).toArray<|n*e.size).toList:=by simp_all[Sn,size_madeCells,cb]
 rw[azy]at ahs;have bK:∀p∈f7.map (·.1),p<T (cb n e.zero):=λp hp=>by rw[f3,DR]at hp;obtain⟨q,bD,rfl⟩:=hp;have:=rI.1 hall.1 q bD;simpa[cb]using this
 obtain⟨kw,cn,cR⟩:=Ww (place:=λi=>J (i*zE.size,zE.size)) (λi=>by rw[zJ]) f2 bK ahs;have cP:T (wC (eC n e.zero) f7)=n:=by rw[Sq];simp
 have dA:=by have:=cR.1;rw[Sq]at this;simpa[cb]using this
 have kz:n<=maxLen:=by have:n*1<=n*e.size:=MM _ eq;unfold maxLen;omega
 refine⟨.slice (J ⟨w.heap.size,0,aq⟩) n n,w.alloc<|.cells kw bM,?_,?_⟩
 .have Jv:=vb e
  have axO:¬(n*zE.size > 2^24):=by rw[zJ];omega
  rw[<- zJ]at cn;by_cases aC:n*zE.size=0
  .have XR:l2 (eB e).toArray (n*zE.size)=#[]:=by rw[aC];simp[l2]
   exact aLW
  have hs:=pS aX w;have v2:=C6 aX w;rw[zJ]at aC axO cn;have Xt:¬(16777216<n*e.size):=V;simp only[l2]at cn;simp[Instr.buildSlice,d' bq,hs,aC,Xt,v2,Jv,Go.newRow];simp at cn;rw[cn];simp
 have fb:fY (view w dF) e (wC (eC n e.zero) f7) kw 0:=by refine fM.row (by rw[cP,dA];omega) ?_;rw[Sn rfl (by rw[cP];simpa using dA)];exact cR
 have:=Gp (K:=K) (w0:=w0) (phx:=phx) (M:=dF) (B:=cJ) (w:=w) cN g9 (w':=w.alloc<|.cells kw bM) rfl rfl rfl aNa (sX w _) eq (l:=wC (eC n e.zero) f7) (sW w _) (z0 _) (tP w dF) fb (cap:=n) (by rw[cP];exact cx _) kz aPq (hv 0 n) (λh=>by rw[cP];simpa using Nat.pos_iff_ne_zero.1 aKP);obtain⟨phx',aZ,c9,dl,dB⟩:=this;rw[cP]at dB;exact⟨phx',aZ,c9,bh.trans dl,dB⟩
end
end Yp
namespace Yp
open Go
variable {P:d_}
def qF(H:cX):(ts:ab aw)->i_ ts->ab aS->Prop
 |[],_,vs=>vs=[]
 |t::ts,x,vs=>∃cs eV,vs=db t cs::eV/\ba H t x.1 cs/\qF H ts x.2 eV
def w4(w:bu)(M:R->Prop)(lo:R->Prop)(U:R->Prop)(e:aw)(l:ab e.a_)(v:aS)(b:R):Prop:=
 ∃o c el fz cap,v=.slice (J ⟨b,o,aq⟩) (T l) cap/\T l<=cap/\cap<=maxLen/\o+cap*e.size<=c.size/\w.heap[b]?=J (.cells c el fz)/\fY (view w M) e l c o/\jc c fz/\M b/\lo b/\¬U b
def iy(w:bu)(M:R->Prop)(lo:R->Prop):(rs:ab e6)->e0 rs->ab aS->(R->Prop)->Prop
 |[],_,vs,_=>vs=[]
 |.im t::rs,x,vs,U=>∃cs eV,vs=db t cs::eV/\ba (view w M) t x.1 cs/\iy w M lo rs x.2 eV U
 |.cl e::rs,x,vs,U=>∃a eV,vs=.slice a (T (x.1:ab e.a_)) (T (x.1:ab e.a_))::eV/\ba (view w M) (.sl e) x.1 [.slice a (T (x.1:ab e.a_))<|List.length (x.1:ab e.a_)]/\iy w M lo rs x.2 eV U
 |.ow e::rs,x,vs,U=>∃v eV,vs=v::eV/\(((x.1:ab e.a_)=[]/\(∃a,v=.slice a 0 0)/\iy w M lo rs x.2 eV U)\/∃b,w4 w M lo U e x.1 v b/\iy w M lo rs x.2 eV (λj=>U j\/j=b))
def kj:ab aS->aS
 |[v]=>v
 |vs=>.tuple vs.toArray
def jP(w:bu)(X:R->Prop)(w':bu)(rs:ab e6)(r:e0 rs)(cF:aS):Prop:=
 ∃aZ:R->Prop,w'.os=w.os/\w'.tape=w.tape/\w'.output=w.output/\w.heap.size<=w'.heap.size/\(∀b,b<w.heap.size->w'.heap[b]?=w.heap[b]?)/\(∀b,b<w.heap.size->(aZ b↔X b))/\(∀b,aZ b->b<w'.heap.size) /\
  ∃vs,iy w' aZ (λb=>¬b<w.heap.size) rs r vs (λ_=>fI)/\cF=kj vs
def na (P : d_) (H : cX) : Prop := ∀ g, P.globalNamed "yett/sha.keys" = J g → ba H (.sl<|.ar 64<|.int .u32) ([(ke : ab<|cj .u32)] : ab (aw.ar 64<|.int .u32).a_) [.slice (J ⟨g, 0, aq⟩) 1 1]
def na.mono{P:d_}{H H':cX}(h:na P H)(hl:H.cU H'):na P H':=λg hg=>(h g hg).mono hl
structure qG(P:d_)(K:Kp)(w0:bu):Prop where
 gl : ∀ g, P.globalNamed "yett/sha.keys" = J g → K.k g
 mb:na P<|view w0 K.x
def tY (P : d_) (f : R) : Prop := ∃ fn, P.funcs[f]? = J fn ∧ fn.body.isSome = af ∧ (fn.name == "runtime.NumGoroutine") = ag
def h5(P:d_)(f:R)(s:fV):Prop:=
 tY P f/\∀(w:bu) (X:R->Prop) (x:i_ s.args) (vs:ab aS) (r:e0 s.res),(∀b,X b->b<w.heap.size)->na P (view w X)->qF (view w X) s.args x vs->s.fn x=J r ->
  Calls P f vs.toArray w λe w'=>∃cF,e=.returned cF/\jP w X w' s.res r cF
def He(w:bu)(X:R->Prop)(b o n:R)(w':bu)(t:aw)(x:t.a_)(rs:ab e6)(r:e0 rs)(cF:aS):Prop:=
 ∃aZ:R->Prop,w'.os=w.os/\w'.tape=w.tape/\w'.output=w.output/\w.heap.size<=w'.heap.size/\(∀k,k<w.heap.size->k≠b->w'.heap[k]?=w.heap[k]?)/\(∀k,k<w.heap.size->(aZ k↔X k))/\(∀k,aZ k->k<w'.heap.size) /\
  (∃c el fz,w'.heap[b]?=J (.cells c el fz)/\c.size=n/\jc c fz/\ba (view w' aZ) t x (dg c o t.size)) /\
  ∃vs,iy w' aZ (λk=>¬k<w.heap.size) rs r vs (λ_=>fI)/\cF=kj vs
def jL(P:d_)(f:R)(s:jM):Prop:=
 tY P f/\∀(w:bu) (X:R->Prop) (b o:R) (c:cO aS) (el:cD) (fz:R×R) (x:s.ty.a_) (y:i_ s.args) (vs:ab aS) (r:s.ty.a_×e0 s.res),(∀k,X k->k<w.heap.size)->na P (view w X)->X b ->
  w.heap[b]?=J (.cells c el fz)->o+s.ty.size<=c.size->jc c fz->ba (view w X) s.ty x (dg c o s.ty.size)->qF (view w X) s.args y vs->s.fn (x,y)=J r ->
  Calls P f (Value.pointer (J ⟨b,o,aq⟩)::vs).toArray w λe w'=>∃cF,e=.returned cF/\He w X b o c.size w' s.ty r.1 s.res r.2 cF
def acO(w:bu)(X:R->Prop)(b o n:R)(w':bu)(t:aw)(x:t.a_):Prop:=
 ∃aZ:R->Prop,w'.os=w.os/\w'.tape=w.tape/\w'.output=w.output/\w.heap.size<=w'.heap.size/\(∀k,k<w.heap.size->k≠b->w'.heap[k]?=w.heap[k]?)/\(∀k,k<w.heap.size->(aZ k↔X k))/\(∀k,aZ k->k<w'.heap.size) /\
  (∃c el fz,w'.heap[b]?=J (.cells c el fz)/\c.size=n/\jc c fz/\ba (view w' aZ) t x (dg c o t.size))
def wS(P:d_)(f bM:R)(t:aw)(ts:ab aw)(rs:ab e6)(m:t.a_×i_ ts->au (t.a_×R×e0 rs)):Prop:=
 tY P f/\∀(w:bu) (X:R->Prop) (b o:R) (c:cO aS) (el:cD) (fz:R×R) (x:t.a_) (y:i_ ts) (vs:ab aS) (r:t.a_×R×e0 rs),(∀k,X k->k<w.heap.size)->na P (view w X)->X b ->
  w.heap[b]?=J (.cells c el fz)->o+t.size<=c.size->jc c fz->ba (view w X) t x (dg c o t.size)->qF (view w X) ts y vs->m (x,y)=J r ->
  Calls P f (Value.pointer (J ⟨b,o,aq⟩)::vs).toArray w λe w'=>(r.2.1=0/\∃cF,e=.returned cF/\He w X b o c.size w' t r.1 rs r.2.2 cF) \/
   (r.2.1≠0/\e=.panicked [{ v:=.iface bM<|.int .i64 (r.2.1:O),recovered:=ag }]/\acO w X b o c.size w' t r.1)
def Hd(P:d_)(E:dO)(f:R)(s:pf):Prop:=∃m bM,E.Pn=J (m,bM)/\wS P f bM s.ty s.args [.im s.rt] s.fn
section
variable {K:Kp} {w0 w:bu} {phx:cV} {M:R->Prop} {B B':R->bm} {g:R->aP} {H:cX}
def ba.nz{H':cX}:∀{t:aw} {x:t.a_} {cs:ab aS},t.nz=af->ba H t x cs->ba H' t x cs
 |.bool,_,_,_,h=>ba.pm.2<|ba.pm.1 h
 |.int k,_,_,_,h=>ba.j1.2<|ba.j1.1 h
 |.str,_,_,_,h=>ba.u2.2<|ba.u2.1 h
 |.op k,_,_,_,h=>ba.x_.2<|ba.x_.1 h
 |.fn l,_,_,_,h=>ba.Iq.2<|ba.Iq.1 h
 |.unit,_,_,_,h=>ba.Dy.2<|ba.Dy.1 h
 |.pair a b,x,cs,hf,h=>by simp only[aw.nz,d5]at hf;obtain⟨c1,c2,aC,Y,ac⟩:=ba.nO.1 h;exact ba.nO.2 ⟨c1,c2,aC,ba.nz hf.1 Y,ba.nz hf.2 ac⟩
 |.ar n e,x,cs,hf,h=>by obtain⟨aC,Y,ac⟩:=ba.w9.1 h;exact ba.w9.2 ⟨aC,Y,λi x ao=>ba.nz hf<|ac i x ao⟩
def qF.mono{H':cX}(hl:H.cU H'):∀{ts:ab aw} {x:i_ ts} {vs:ab aS},qF H ts x vs->qF H' ts x vs
 |[],_,_,h=>h
 |_::_,_,_,⟨cs,eV,h,Y,ac⟩=>⟨cs,eV,h,Y.mono hl,qF.mono hl ac⟩
def ha(phx:cV)(H:cX)(B:R->bm):ab aP->ab aS->Prop
 |[],[]=>True
 |p::bE,v::vs=>bI phx H B p v/\ha phx H B bE vs
 |_,_=>fI
def ha.ext{phx':cV}{aZ:R->Prop}{w':bu}(aX:c8 phx M B w phx' aZ B' w'):∀{bE:ab aP} {vs:ab aS},ha phx (view w M) B bE vs->ha phx' (view w' aZ) B' bE vs
 |[],[],_=>trivial
 |_::_,_::_,h=>⟨aX.p h.1,ha.ext aX h.2⟩
def S4{fy:aE}:∀{ts:ab aw} {bE:ab aP} {vs:ab aS} {x:i_ ts} {M:R->Prop} {B B':R->bm},(L1 fy ts bE).bC g B=J (x,B')->cd K w0 phx M B w->ha phx (view w M) B bE vs ->
  ∃aZ,cd K w0 phx aZ B' w/\c8 phx M B w phx aZ B' w/\qF (full w) ts x vs/\(fy=af->qF (view w aZ) ts x vs)
 |[],[],[],x,M,B,B',h,hm,_=>by cases h;exact⟨M,hm,c8.refl _ _ _ _,rfl,λ_=>rfl⟩
 |t::ts,p::bE,v::vs,x,M,B,B',h,hm,hp=>by obtain⟨y,du,Y,ac⟩:=aR.dd h;obtain⟨bZ,cJ,av,aJ⟩:=aR.dd ac;cases aJ;obtain⟨cs,a3,gw,b',e1,_,f1,f2⟩:=AD Y hm hp.1;obtain⟨dF,cN,bh,f3,f4⟩:=S4 av b'<|hp.2.ext e1;subst a3;exact⟨dF,cN,e1.trans bh,⟨cs,vs,rfl,f1,f3⟩,λhf=>⟨cs,vs,rfl,(f2 hf).mono bh.vw,f4 hf⟩⟩
def zV{a:Act}(hs:eh phx H B g a):∀{l:ab fS} {B':R->bm} {bE:ab aP},(nb e3 l).bC g B=J (bE,B')->B'=B/\ha phx H B bE (l.map a.eval)
 |[],B',bE,h=>aOX
 |p::l,B',bE,h=>by simp only[nb]at h;obtain⟨b,du,Y,ac⟩:=aR.dd h;obtain⟨lp,a3⟩:=z2 Y hs;obtain⟨cQ,wR,bv,c_⟩:=aR.dd ac;cases c_;rw[lp]at bv;obtain⟨a4,hp⟩:=zV hs bv;exact⟨a4,a3,hp⟩
def cd.ret(hm:cd K w0 phx M B w){w':bu}{aZ:R->Prop}(Y:w'.os=w.os)(ac:w'.tape=w.tape)(av:w'.output=w.output)(hs:w.heap.size<=w'.heap.size)
 (ak:∀b,b<w.heap.size->w'.heap[b]?=w.heap[b]?) (eE:∀b,b<w.heap.size->(aZ b↔M b)) (bK:∀b,aZ b->b<w'.heap.size) :
 cd K w0 phx aZ B w'/\c8 phx M B w phx aZ B w':=by
 have hl:∀b o,w.heap[b]?=J o->b<w.heap.size:=λb o bg=>(jO.1 bg).1;have a3:(view w M).cU<|view w' aZ:=AK λb o ax bg=>⟨λaA=>ax<|(eE b<|hl b o bg).1 aA,(ak b<|hl b o bg).trans bg⟩;have aX:c8 phx M B w phx aZ B w':=⟨λ_ _=>rfl,a3,λ_=>bm.cU.refl _⟩;have aB:∀b,K.k b->b<w.heap.size:=λb h=>ge (hm.klt b h) hm.size;refine⟨{ os:=Y.trans hm.os,tape:=ac.trans hm.tape,output:=av.trans hm.output,size:=i6 hm.size hs,keep:=λb h=>(ak b<|aB b h).trans<|hm.keep b h,klt:=hm.klt,hid:=λb h=>(eE b<|aB b h).trans<|hm.hid b h,own:=hm.own,mlt:=bK,blks:=λj => ?_,sep:=hm.sep },aX⟩;exact(hm.blks j).congr rfl aX.pl aX.vw aX.bl (λx hx r6=>ak _<|(hm.blks j).lt r6 hx)<|λx hx r6 Xj=>(eE _<|(hm.blks j).lt r6 hx).2 Xj
def mZ.cons{u r:aP}{v:aS}{vs:ab aS}(h:bI phx H B u v)(bq:∀a,u ≠ .tup a)(k:mZ phx H B r vs):mZ phx H B (.two u r)<|v::vs:=by refine⟨v,vs,rfl,?_,k⟩;cases u<;>first|exact h|exact ev rfl<|bq _
def amb{lo:R->Prop}{r:e6}{rs:ab e6}{x:e0<|r::rs}{vs:ab aS}{U:R->Prop}(az:iy w M lo (r::rs) x vs U){id:R}{v:aP}(h:(aaJ id r x.1).bC g B=J (v,B'))(hm:cd K w0 phx M B w)
  (r5:∀b,lo b->¬K.k b) (ef:∀j,(B j).gB=af->∀z,phx j=J z->¬lo z.1\/U z.1) :
  ∃phx' cv u eV,vs=u::eV/\cd K w0 phx' M B' w/\c8 phx M B w phx' M B' w/\bI phx' (view w M) B' v u/\(∀a,v ≠ .tup a)/\iy w M lo rs x.2 eV cv/\(∀j,(B' j).gB=af->∀z,phx' j=J z->¬lo z.1\/cv z.1):=by
 cases r with
 |im t =>cases h;obtain⟨cs,eV,rfl,Y,ac⟩:=az;exact⟨phx,U,_,eV,rfl,hm,c8.refl _ _ _ _,⟨cs,Y,rfl⟩,(λa h=>by cases h),ac,ef⟩
 |cl e =>cases h;obtain⟨a,eV,rfl,Y,ac⟩:=az;exact⟨phx,U,_,eV,rfl,hm,c8.refl _ _ _ _,⟨a,rfl,Y⟩,(λa h=>by cases h),ac,ef⟩
 |ow e=>
  obtain⟨eq,g9,rfl,rfl⟩:=x4 h;obtain⟨u,eV,rfl,Y⟩:=az;rcases Y with⟨Y,⟨a,rfl⟩,ac⟩|⟨b,⟨o,c,el,fz,cap,rfl,b4,cz,dw,f6,hj,kT,lv,m?,xU⟩,ac⟩
  .have cP:T (x.1:ab e.a_)=0:=by rw[Y];rfl
   obtain⟨b',e1⟩:=hm.w8 g9 (.ob e x.1) aq (λ_ y bW=>aPk) (λ_ y bW=>aPk)<|λ_=>⟨eq,.inl ⟨nm _ _ _,cP⟩⟩;refine⟨_,U,_,eV,rfl,b',e1,?_,(λa h=>by cases h),ac,λj aF z bN => ?_⟩
   .simp only[bI,eR,ci,fH]
    exact⟨.inl ⟨cP,a,rfl⟩,λh=>by cases h⟩
   by_cases eT:j=id
   .subst eT;rw[nm]at bN;cases bN
   rw[eY _ _ eT]at aF;rw[sE _ _ eT]at bN;exact ef j aF z bN
  obtain⟨b',e1⟩:=hm.w8 g9 (.ob e x.1) (J (b,o,c.size)) (λ_ y bW aB=>by cases bW;exact r5 _ m? aB) (λ_ y bW j aF z bN=>by
    cases bW;rcases ef j aF z bN with h|h
    .exact λe=>h (by have e:z.1=b:=e;rw[e];exact m?)
    exact λe=>xU (by have e:z.1=b:=e;rw[<- e];exact h))<|λaX=>⟨eq,.inr ⟨b,o,c,el,fz,nm _ _ _,f6,hj,kT,lv⟩⟩
  refine⟨_,λj=>U j\/j=b,_,eV,rfl,b',e1,?_,(λa h=>by cases h),ac,λj aF z bN => ?_⟩
  .simp only[bI,eR,ci,fH]
   exact aMh
  by_cases eT:j=id
  .subst eT;rw[nm]at bN;cases bN;exact .inr<|.inr rfl
  rw[eY _ _ eT]at aF;rw[sE _ _ eT]at bN;exact(ef j aF z bN).imp (λh=>h) .inl
def ama{lo:R->Prop}(r5:∀b,lo b->¬K.k b):∀{rs:ab e6} {x:e0 rs} {vs:ab aS} {U:R->Prop} {id:R} {v:aP} {phx:cV} {B B':R->bm},iy w M lo rs x vs U->(aaI id rs x).bC g B=J (v,B')->cd K w0 phx M B w ->
  (∀j,(B j).gB=af->∀z,phx j=J z->¬lo z.1\/U z.1)->∃phx',cd K w0 phx' M B' w/\c8 phx M B w phx' M B' w/\mZ phx' (view w M) B' v vs
 |[],x,vs,U,id,v,phx,B,B',az,h,hm,ef=>by cases h;exact⟨phx,hm,c8.refl _ _ _ _,az⟩
 |r::rs,x,vs,U,id,v,phx,B,B',az,h,hm,ef=>by obtain⟨y,du,Y,ac⟩:=aR.dd h;obtain⟨bZ,cJ,av,aJ⟩:=aR.dd ac;cases aJ;obtain⟨iI,vk,u,eV,rfl,b',e1,f1,f2,f3,f4⟩:=amb az Y hm r5 ef;obtain⟨kU,cN,bh,f5⟩:=ama r5 f3 av b' f4;exact⟨kU,cN,e1.trans bh,mZ.cons (bh.p f1) f2 f5⟩
def iy.length{w:bu}{M:R->Prop}{lo:R->Prop}:∀{rs:ab e6} {x:e0 rs} {vs:ab aS} {U:R->Prop},iy w M lo rs x vs U->T vs=T rs
 |[],_,vs,_,h=>by have h:vs=[]:=h;subst h;rfl
 |.im t::rs,x,vs,U,h=>aMV
 |.cl t::rs,x,vs,U,h=>aMV
 |.ow t::rs,x,vs,U,h=>by obtain⟨v,eV,aC,Y⟩:=h;subst aC;rcases Y with⟨_,_,ac⟩|⟨_,_,ac⟩<;>simp[iy.length ac]
def iy.uE{w:bu}{M:R->Prop}{lo uE:R->Prop}:∀{rs:ab e6} {x:e0 rs} {vs:ab aS} {U cv:R->Prop},(∀k,lo k->¬U k->uE k)->(∀k,cv k->U k)->iy w M lo rs x vs U->iy w M uE rs x vs cv
 |[],_,_,_,_,_,_,h=>h
 |.im t::rs,x,vs,U,cv,Y,ac,h=>aMr
 |.cl t::rs,x,vs,U,cv,Y,ac,h=>aMr
 |.ow t::rs,x,vs,U,cv,Y,ac,h=>by obtain⟨v,eV,aC,av⟩:=h;refine⟨v,eV,aC,av.imp (λh=>⟨h.1,h.2.1,iy.uE Y ac h.2.2⟩) ?_⟩;rintro⟨b,⟨o,c,el,fz,cap,b4,cz,dw,f6,hj,kT,lv,m?,xU,Py⟩,aJ⟩;exact⟨b,⟨o,c,el,fz,cap,b4,cz,dw,f6,hj,kT,lv,m?,Y b xU Py,λaA=>Py<|ac b aA⟩,iy.uE (λk aB ax=>Y k aB λaA=>ax<|.inl aA) (λk aB=>aB.imp (ac k) id) aJ⟩
def iy.lo{w:bu}{M:R->Prop}{lo uE U:R->Prop}{rs:ab e6}{x:e0 rs}{vs:ab aS}(h:iy w M lo rs x vs U)(Y:∀k,lo k->¬U k->uE k):iy w M uE rs x vs<|λ_=>fI:=
 iy.uE Y (λ_ h=>h.elim) h
def iy.nz{w:bu}{M aZ:R->Prop}{lo:R->Prop}:∀{rs:ab e6} {x:e0 rs} {vs:ab aS} {U:R->Prop},rs.all e6.nz=af->iy w M lo rs x vs U->iy w aZ lo rs x vs U
 |[],_,_,_,_,h=>h
 |.im t::rs,x,vs,U,hf,h=>by simp only[yL,d5]at hf;obtain⟨cs,eV,aC,Y,ac⟩:=h;exact⟨cs,eV,aC,ba.nz hf.1 Y,iy.nz hf.2 ac⟩
 |.ow e::rs,x,vs,U,hf,h=>aOL
 |.cl e::rs,x,vs,U,hf,h=>aOL
def aaL{rs:ab e6}{r:e0 rs}{v:aP}{vs:ab aS}(hm:cd K w0 phx M B w){lo:R->Prop}(r5:∀b,lo b->¬K.k b)(ef:∀j,(B j).gB=af->∀z,phx j=J z->¬lo z.1)
  (az:iy w M lo rs r vs<|λ_=>fI)
  (h:(VD d rs r).bC g B=J (v,B')) :
  ∃phx',cd K w0 phx' M B' w/\c8 phx M B w phx' M B' w/\bI phx' (view w M) B' v (kj vs):=by
 have ahB:∀j,(B j).gB=af->∀z,phx j=J z->¬lo z.1\/(λ_:R=>fI) z.1:=λj aF z bN=>.inl<|ef j aF z bN;match rs,r,az,h with
 |[],r,az,h =>cases h;have:vs=[]:=az;subst this;exact⟨phx,hm,c8.refl _ _ _ _,[],rfl,rfl⟩
 |[t],r,az,h =>obtain⟨iI,vk,u,eV,rfl,b',e1,f1,f2,f3,f4⟩:=amb az h hm r5 ahB;have:eV=[]:=f3;subst this;exact⟨iI,b',e1,f1⟩
 |t::t'::ts,r,az,h=>
  obtain⟨y,du,Y,ac⟩:=aR.dd h;cases ac;obtain⟨iI,b',e1,f1⟩:=ama r5 az Y hm ahB;refine⟨iI,b',e1,?_⟩;have cP:=az.length;have fs:∀q,vs≠[q]:=by intro q bD;rw[bD]at cP;simp at cP
  match vs,fs,f1 with
  |[],_,f1=>exact⟨[],f1,rfl⟩
  |[q],fs,_=>exact ev rfl<|fs q
  |q::Qr::vs,_,f1=>exact⟨_,f1,rfl⟩
def aIq{d:β}{o:au β}{k:β->aR α}:(aR.bo d o k).bC g B=(match o with|some a=>(k a).bC g B|none=>aq):=by
 grind [aR.bC]
def qG.keys(h:qG P K w0)(hm:cd K w0 phx M B w):na P<|view w M:=by
 intro g hg;obtain⟨a,cap,Y,ac,av,aJ⟩:=ba.jt.1<|h.mb g hg;simp only[D0,Value.slice.injEq,and_true]at Y;obtain⟨rfl,_,rfl⟩:=Y;have aB:=h.gl g hg;refine ba.jt.2 ⟨_,_,rfl,ac,av,?_⟩;rcases aJ with aJ|⟨b,o,c,el,fz,cn,cR,da,d9⟩
 .exact .inl aJ
 cases cn;obtain⟨dN,fC⟩:=kY.1 cR;exact .inr ⟨g,0,c,el,fz,rfl,kY.2 ⟨λaA=>dN<|(hm.hid g aB).1 aA,(hm.keep g aB).trans fC⟩,da,λi x ao=>(d9 i x ao).nz rfl⟩
def A_(P:d_)(m t:R):Prop:=
 tY P m/\∀(b:aE) (k:R) (w:bu),Calls P m #[.bool b,.int .i64 (k:O)] w λe w'=>w'=w/\e=if b then .returned (.tuple #[]) else .panicked [{ v:=.iface t<|.int .i64 (k:O),recovered:=ag }]
structure pV(P:d_)(E:dO)(K:Kp)(w0:bu):Prop where
 fn:∀f s,E.G f=J s->h5 P f s
 kn : ∀ g, E.K = J g → P.globalNamed "yett/sha.keys" = J g
 gk:(∃f s,E.G f=J s)\/(∃f g,E.I f=J g)\/(∃g,E.K=J g)->qG P K w0
 bx:∀f s,E.X f=J s->jL P f s/\qG P K w0
 pn:∀m t,E.Pn=J (m,t)->A_ P m t
 qn:∀f s,E.Q f=J s->Hd P E f s/\qG P K w0
def cd.aaK(hm:cd K w0 phx M B w){id:R}{t:aw}{v:aP}(a4:B id=.box t v)(hx:phx id=J (b,o,n))(Xi:M b){w':bu}{aZ:R->Prop}{x:t.a_}(Y:w'.os=w.os)(ac:w'.tape=w.tape)(av:w'.output=w.output)(hs:w.heap.size<=w'.heap.size)
 (ak:∀k,k<w.heap.size->k≠b->w'.heap[k]?=w.heap[k]?) (eE:∀k,k<w.heap.size->(aZ k↔M k)) (bK:∀k,aZ k->k<w'.heap.size)
 (aA:∃c el fz,w'.heap[b]?=J (.cells c el fz)/\c.size=n/\jc c fz/\ba (view w' aZ) t x (dg c o t.size)) (ax:o+t.size<=n) :
 cd K w0 phx aZ (dx B id<|.box t<|.sc t x) w'/\c8 phx M B w phx aZ (dx B id<|.box t<|.sc t x) w':=by
 have hl:∀b o,w.heap[b]?=J o->b<w.heap.size:=λb o bg=>(jO.1 bg).1;have oc:(B id).gB=af:=af_
 have a3:(view w M).cU<|view w' aZ:=AK λk o ax bg=>⟨λaA=>ax<|(eE k<|hl k o bg).1 aA,(ak k (hl k o bg) λe=>ax<|e▸Xi).trans bg⟩;have aX:c8 phx M B w phx aZ (dx B id<|.box t<|.sc t x) w':=⟨λ_ _=>rfl,a3,λj=>by
  by_cases aF:j=id
  .subst aF;rw[fH,a4];exact rfl
  rw[eY _ _ aF];exact bm.cU.refl _⟩
 have aB:∀k,K.k k->k<w.heap.size:=λk h=>ge (hm.klt k h) hm.size;have nE:∀k,K.k k->k≠b:=λk h e=>hm.own id oc _ hx<|e▸h;have key:∀j,((dx B id<|.box t<|.sc t x) j).gB=af->(B j).gB=af:=λj aF=>by
  by_cases jE:j=id
  .subst jE;exact oc
  rw[eY _ _ jE]at aF;exact aF
 refine⟨{ os:=Y.trans hm.os,tape:=ac.trans hm.tape,output:=av.trans hm.output,size:=i6 hm.size hs,keep:=λk h=>(ak k (aB k h)<|nE k h).trans<|hm.keep k h,klt:=hm.klt,hid:=λk h=>(eE k<|aB k h).trans<|hm.hid k h,own:=λj aF=>hm.own j<|key j aF,mlt:=bK,blks:=λj => ?_,sep:=λi j j? ao aF=>hm.sep i j j? (key i ao) (key j aF) },aX⟩;by_cases aF:j=id
 .subst aF
  rw[fH];obtain⟨c,el,fz,cn,cR,da,d9⟩:=aA;exact⟨b,o,c,el,fz,by rw[hx,cR],cn,V,⟨rfl,d9⟩,da,(eE b<|hm.mlt b Xi).2 Xi⟩
 rw[eY _ _ aF];exact(hm.blks j).congr rfl aX.pl aX.vw aX.bl (λy bW r6=>ak _ ((hm.blks j).lt r6 bW)<|hm.sep j id aF r6 oc y _ bW hx)<|λy bW r6 axr=>(eE _<|(hm.blks j).lt r6 bW).2 axr
theorem aqU{s:jM}{bE:ab aP}{vs:ab aS}{v:aP}(fa:jL P f s)(aB:qG P K w0)(h:(UO d s bE).bC g B=J (v,B'))(hm:cd K w0 phx M B w)(dQ:ha phx (view w M) B bE vs):
  tY P f/\Calls P f vs.toArray w λe w'=>∃cF,e=.returned cF/\d? K w0 phx M B w B' v cF w':=by
 unfold UO at h;split at h
 .rename_i id as
  simp only[aR.bC]at h;cases vs with
  |nil=>exact dQ.elim
  |cons gm vs=>
   have BP:ci phx (view w M) B (.ptr id []) gm:=dQ.1;have ak:=hm.blks id;simp only[ci]at BP;generalize a4:B id=bl at h ak BP;cases bl<;>try(cases h)
   rename_i t u;dsimp only at h;obtain⟨b,o,n,off,t',b0,bT,rfl⟩:=BP;obtain⟨eH,dZ,c,el,fz,cn,cR,da,d9,fO,nQ⟩:=ak;rw[b0]at cn;cases cn;simp only[aw.e2]at bT;obtain⟨rfl,rfl⟩:=bT;cases hX:aw.is t s.ty with
   |false=>exact aMe
   |true=>
    rw[hX]at h;have ht:=ft hX;subst ht;obtain⟨x,du,Y,ac⟩:=aR.dd h;obtain⟨y,cJ,av,aJ⟩:=aR.dd ac;obtain⟨gw,b',e1,_,f1,f2⟩:=L2 Y hm d9;obtain⟨dF,cN,bh,f3,f4⟩:=S4 av b'<|dQ.2.ext e1;simp only[aR.bC]at aJ;have hb2:=cN.blks id;generalize lq:cJ id=bl2 at aJ hb2;cases bl2<;>try(cases aJ)
    rename_i fP wM;dsimp only at aJ;cases vZ:aw.is fP s.ty with
    |false=>rw[vZ]at aJ;cases aJ
    |true=>
     rw[vZ]at aJ;have BV:=ft vZ;subst BV;obtain⟨e7,oj,c2,af7,agW,dN,fC,jd,qj,tA,rf⟩:=hb2;rw[b0,jN,mV,mV]at dN;obtain⟨rfl,rfl,_⟩:=dN;cases az:s.fn (x,y) with
     |none=>rw[az]at aJ;cases aJ
     |some r=>
      rw[az]at aJ;refine⟨fa.1,?_⟩;refine(fa.2 w dF b o c el fz x y vs r cN.mlt (aB.keys cN) rf cR da fO ((f2 rfl).mono bh.vw) (f4 rfl) az).mono ?_;rintro e w' ⟨cF,rfl,aZ,b4,cz,dw,f6,hj,kT,lv,m?,us,xU,rfl⟩;obtain⟨hD,ei⟩:=cN.aaK lq b0 rf b4 cz dw f6 hj kT lv m? da;have ef:∀j,((dx cJ id<|.box s.ty<|.sc s.ty r.1) j).gB=af->∀z,phx j=J z->¬ ¬z.1<w.heap.size:=λj aF z bN aA=>by
       by_cases eT:j=id
       .grind
       rw[eY _ _ eT]at aF;exact aA<|(cN.blks j).lt aF bN
      obtain⟨ZX,xZ,hQ,f5⟩:=aaL (g:=g) hD (lo:=λk=>¬k<w.heap.size) (λk qb Jb=>qb<|ge (cN.klt k Jb) cN.size) ef xU aJ;exact⟨_,rfl,ZX,aZ,xZ,((e1.trans bh).trans ei).trans hQ,f5⟩
 cases h
def aDu{s:pf}{bE:ab aP}{vs:ab aS}{v:aP}{bM:R}(fa:wS P f bM s.ty s.args [.im s.rt] s.fn)(aB:qG P K w0)(h:(VC s bE).bC g B=J ((n,v),B'))(hm:cd K w0 phx M B w)(dQ:ha phx (view w M) B bE vs):
  tY P f/\Calls P f vs.toArray w λe w'=>∃aZ,cd K w0 phx aZ B' w'/\c8 phx M B w phx aZ B' w'/\((n=0/\∃cF,e=.returned cF/\bI phx (view w' aZ) B' v cF)\/(n≠0/\e=.panicked [{ v:=.iface bM<|.int .i64 (n:O),recovered:=ag }])):=by
 unfold VC at h;split at h
 .rename_i id as
  simp only[aR.bC]at h;cases vs with
  |nil=>exact dQ.elim
  |cons gm vs=>
   have BP:ci phx (view w M) B (.ptr id []) gm:=dQ.1;have ak:=hm.blks id;simp only[ci]at BP;generalize a4:B id=bl at h ak BP;cases bl<;>try(cases h)
   rename_i t u;dsimp only at h;obtain⟨b,o,ajQ,off,t',b0,bT,rfl⟩:=BP;obtain⟨eH,dZ,c,el,fz,cn,cR,da,d9,fO,nQ⟩:=ak;rw[b0]at cn;cases cn;simp only[aw.e2]at bT;obtain⟨rfl,rfl⟩:=bT;cases hX:aw.is t s.ty with
   |false=>exact aMe
   |true=>
    rw[hX]at h;have ht:=ft hX;subst ht;obtain⟨x,du,Y,ac⟩:=aR.dd h;obtain⟨y,cJ,av,aJ⟩:=aR.dd ac;obtain⟨gw,b',e1,_,f1,f2⟩:=L2 Y hm d9;obtain⟨dF,cN,bh,f3,f4⟩:=S4 av b'<|dQ.2.ext e1;simp only[aR.bC]at aJ;have hb2:=cN.blks id;generalize lq:cJ id=bl2 at aJ hb2;cases bl2<;>try(cases aJ)
    rename_i fP wM;dsimp only at aJ;cases vZ:aw.is fP s.ty with
    |false=>rw[vZ]at aJ;cases aJ
    |true=>
     rw[vZ]at aJ;have BV:=ft vZ;subst BV;obtain⟨e7,oj,c2,af7,agW,dN,fC,jd,qj,tA,rf⟩:=hb2;rw[b0,jN,mV,mV]at dN;obtain⟨rfl,rfl,_⟩:=dN;cases az:s.fn (x,y) with
     |none=>rw[az]at aJ;cases aJ
     |some r=>
      rw[az]at aJ;cases aJ;refine⟨fa.1,?_⟩;refine(fa.2 w dF b o c el fz x y vs r cN.mlt (aB.keys cN) rf cR da fO ((f2 rfl).mono bh.vw) (f4 rfl) az).mono ?_;rintro e w' (⟨ax,cF,rfl,aZ,b4,cz,dw,f6,hj,kT,lv,m?,us,xU,rfl⟩|⟨ax,rfl,aZ,b4,cz,dw,f6,hj,kT,lv,m?⟩)
      .obtain⟨hD,ei⟩:=cN.aaK lq b0 rf b4 cz dw f6 hj kT lv m? da
       refine⟨aZ,hD,(e1.trans bh).trans ei,.inl ⟨ax,_,rfl,?_⟩⟩;obtain⟨cs,eV,rfl,Py,aAJ⟩:=xU;cases(aAJ);exact⟨cs,Py,rfl⟩
      obtain⟨hD,ei⟩:=cN.aaK lq b0 rf b4 cz dw f6 hj kT lv m? da;exact⟨aZ,hD,(e1.trans bh).trans ei,.inr ⟨ax,rfl⟩⟩
 cases h
def VE{E:dO}(dG:pV P E K w0){bE:ab aP}{vs:ab aS}{v:aP}(h:(HS E d f bE).bC g B=J (v,B'))(hm:cd K w0 phx M B w)(dQ:ha phx (view w M) B bE vs):
  tY P f/\Calls P f vs.toArray w λe w'=>∃cF,e=.returned cF/\d? K w0 phx M B w B' v cF w':=by
 unfold HS at h;cases hg:E.G f with
 |none=>
  rw[hg]at h;cases hx:E.X f with
  |none=>rw[hx]at h;cases h
  |some s=>
   rw[hx]at h;obtain⟨Y,ac⟩:=dG.bx f s hx
   grind [aqU]
 |some s=>
  rw[hg]at h;obtain⟨x,du,Y,ac⟩:=aR.dd h;obtain⟨gw,b',e1,f1,f2⟩:=S4 Y hm dQ;obtain⟨xx,fa⟩:=dG.fn f s hg;cases az:s.fn x with
  |none=>rw[az]at ac;cases ac
  |some r=>
   rw[az]at ac;refine⟨xx,?_⟩;cases k6:s.res.all e6.nz with
   |false =>rw[k6]at f2;refine(fa w gw x vs r b'.mlt ((dG.gk<|.inl ⟨f,s,hg⟩).keys b') (f2 rfl) az).mono ?_;rintro e w' ⟨cF,rfl,aZ,b4,cz,dw,f6,hj,kT,lv,us,m?,rfl⟩;obtain⟨cN,bh⟩:=b'.ret b4 cz dw f6 hj kT lv;obtain⟨kF,hD,ei,f3⟩:=aaL (g:=g) cN (λb ak aB=>ak<|ge (b'.klt b aB) b'.size) (λj aF z bN aA=>aA<|(b'.blks j).lt aF bN) m? ac;exact⟨_,rfl,kF,aZ,hD,(e1.trans bh).trans ei,f3⟩
   |true =>have a3:(full w).cU<|view w λ_=>fI:=λb o ak=>kY.2 ⟨λh=>h,ak⟩;refine(fa w (λ_=>fI) x vs r (λ_ h=>h.elim) (((dG.gk<|.inl ⟨f,s,hg⟩).keys b').mono<|(tP w gw).trans a3) (f1.mono a3) az).mono ?_;rintro e w' ⟨cF,rfl,aZ,b4,cz,dw,f6,hj,kT,lv,us,m?,rfl⟩;obtain⟨cN,bh⟩:=b'.ER b4 cz dw f6 hj (λ_=>fI)<|λ_ h=>h.elim;obtain⟨kF,hD,ei,f3⟩:=aaL (g:=g) cN (λb ak aB=>ak<|ge (b'.klt b aB) b'.size) (λj aF z bN aA=>aA<|(b'.blks j).lt aF bN) (m?.nz k6) ac;exact⟨_,rfl,kF,_,hD,(e1.trans bh).trans ei,f3⟩
end
end Yp
namespace Yp
open Go
variable {P:d_}
def sf(P:d_)(M:R->au (aw×aw)):Prop:=∀tid p,M tid=J p->∃kt vt,P.underlying tid=J (.map kt vt)/\(dz P p.1).1 kt/\(dz P p.2).1 vt
def ajF(P:d_)(tid:R)(p:aw×aw):aE:=match P.underlying tid with|some (.map kt vt)=>(lO P p.1).1 kt&&(lO P p.2).1 vt|_=>ag
def ajG(P:d_):∀l:ab<|Nat×aw×aw,(l.all λq=>ajF P q.1 q.2)=af->sf P (JU l)
 |[],_=>λtid p h=>by cases h
 |(i,q)::r,h=>λtid p hp=>by
  simp only[yL,d5]at h;simp only[JU]at hp;cases ak:cT i tid with
  |true=>
   rw[ak]at hp;cases hp;have Y:=h.1;unfold ajF at Y;rw[<- iM ak];split at Y
   .rename_i kt vt bq
    simp at Y;exact⟨kt,vt,bq,(vL _).1 _ Y.1,(vL _).1 _ Y.2⟩
   cases Y
  |false=>rw[ak]at hp;exact ajG P r h.2 tid p hp
section
variable {K:Kp} {w0 w:bu} {phx:cV} {M:R->Prop} {B B':R->bm} {g:R->aP} {H:cX}
def aBg{t:cD}{id:R}(hid:B id=.new)(kt vt:aw)(hm:cd K w0 phx M B w):
  ∃r w',(Instr.makeMap t aq).run P w=.ok r w'/\d? K w0 phx M B w (dx B id<|.mp kt vt []) (.mpp id) r w':=by
 refine⟨.map<|some w.heap.size,w.alloc<|.map #[] 0,by simp[Instr.makeMap],?_⟩;obtain⟨phx',aZ,b',e1,dN⟩:=hm.born hid (w':=w.alloc<|.map #[] 0) rfl rfl rfl aK8 (sX w _) (.mp kt vt []) 0 λphx' aZ aX hp eE=>
  ⟨w.heap.size, #[],0,hp,sW w _,rfl,eE⟩
 refine⟨phx',aZ,b',e1,?_⟩;simp only[bI,eR,ci,fH];exact⟨_,dN,rfl⟩
def v6:aw->TypeDesc
 |.int k=>.int k|_=>.string
def Pz{kt:aw}(aB:xW kt=af){tid:cD}(hf:(dz P kt).1 tid):P.underlying tid=J (v6 kt):=by cases kt<;>first|exact hf.1|cases aB
def YE{kt:aw}(aB:xW kt=af){tid:cD}(hf:(dz P kt).1 tid){key:kt.a_}{an:ab aS}(h:ba H kt key an)(b:aE)(w:bu):(Instr.checkKey b 10000 tid<|db kt an).run P w=.ok () w:=by
 have bq:=Pz aB hf;cases kt<;>try(cases aB)
 .have:=ba.j1.1 h
  exact aNy
 have:=ba.u2.1 h;exact aNy
def YF{kt:aw}(aB:xW kt=af){b4 cz:kt.a_}{c1 c2:ab aS}(Y:ba H kt b4 c1)(ac:ba H kt cz c2):Instr.sameNow (v6 kt) (db kt c1) (db kt c2)=J (xV kt b4 cz):=by
 cases kt<;>try(cases aB)
 .have e1:=ba.j1.1 Y;have bh:=ba.j1.1 ac;subst e1;subst bh
  simp[Instr.sameNow,v6,db,aw.isAgg,xV,am]
 have e1:=ba.u2.1 Y;have bh:=ba.u2.1 ac;subst e1;subst bh;simp only[db,aw.isAgg,v6,List.headD_cons];simp only[M2,if_false,Instr.sameNow];congr 1;exact ByteArray_beq _ _
where
 ByteArray_beq (a b:ab aN):((⟨a.toArray⟩:ByteArray)==⟨b.toArray⟩)=(a==b):=by
  grind [beq_toListBytes,ByteArray.toList_eq]
def aGu{a b:ab aN}(h:¬a=b):seq a b=ag:=aNZ
def aAL{kt:aw}{b4 cz:kt.a_}(h:JG kt b4 cz=af):xV kt b4 cz=ag:=by
 cases kt<;>try(cases h)
 .grind [JG,ai2,xV,am]
 simp only[JG,anZ,yK,decide_eq_false_iff_not]at h;exact aGu h
def agB{kt:aw}(aB:xW kt=af){key:kt.a_}{an:ab aS}(aA:ba H kt key an):∀{l:ab<|kt.a_×aP} {es:ab MapEntry} (i:R),ms phx H B kt l es->(l.all λp=>JG kt key p.1)=af ->
  Instr.findNow (v6 kt) (db kt an) es i=J aq
 |[],es,i,h,_=>by subst h;rfl
 |(k,v)::l,es,i,h,b6=>by obtain⟨e,es',rfl,⟨afo,Y,ac⟩,av,aJ⟩:=h;simp only[yL,d5]at b6;simp only[Instr.findNow];rw[ac,YF aB aA Y,aAL b6.1];exact agB aB aA (i+1) aJ b6.2
def ms.push{kt:aw}{key:kt.a_}{an:ab aS}{v:aP}{val:aS}{n:R}(Y:ba H kt key an)(ac:eR phx H B v val):∀{l:ab<|kt.a_×aP} {es:ab MapEntry},ms phx H B kt l es->ms phx H B kt (l++[(key,v)]) (es++[⟨db kt an,val,n⟩])
 |[],es,h=>by subst h;exact⟨_,[],rfl,⟨an,Y,rfl⟩,ac,rfl⟩
 |_::_,_,⟨e,es',h,av,aJ,bv⟩=>⟨e,es'++[⟨db kt an,val,n⟩],aKU,av,aJ,ms.push Y ac bv⟩
def GU{v:aP}{x:aS}(h:bI phx H B v x)(bq:∀a,v ≠ .tup a):eR phx H B v x:=aNu
def aka{v:aP}(h:x6 v=af):∀a,v ≠ .tup a:=by rintro a rfl;cases h
def amt{w:bu}{r:R}{es:cO MapEntry}{N7:R}(ak:w.heap[r]?=J (.map es N7)):(getObj r).run P w=.ok (.map es N7) w:=by
 grind [getObj,Sem.run]
def aGb{w:bu}{r:R}{es:cO MapEntry}{N7:R}(o:Obj)(ak:w.heap[r]?=J (.map es N7)):(setObj r o).run P w=.ok () { w with heap:=w.heap.setIfInBounds r o }:=by
 grind [setObj,Sem.run]
def ai1{q:aw×aw}{t xX Td:cD}{m k v r:aP}{abZ Ma u_:aS}(h:(Pq q m k v).bC g B=J (r,B'))(bq:P.underlying t=J (.map xX Td))
  (ayK:(dz P q.1).1 xX) (hm:cd K w0 phx M B w)
  (Jl:bI phx (view w M) B m abZ) (tk:bI phx (view w M) B k Ma) (BT:bI phx (view w M) B v u_) :
  r=.undef/\∃w' aZ,(Instr.mapUpdate t abZ Ma u_).run P w=.ok () w'/\cd K w0 phx aZ B' w'/\c8 phx M B w phx aZ B' w':=by
 unfold Pq at h;cases m<;>try(cases h;done)
 rename_i id;simp only[aR.bC]at h;have hs:ci phx (view w M) B (.mpp id) abZ:=Jl;have et:=hm.blks id;simp only[ci]at hs;generalize a4:B id=bl at h hs et;cases bl<;>try(cases h;done)
 rename_i kt vt l;simp only at h;replace h:=aR.dd h;obtain⟨key,du,Y,h⟩:=h;obtain⟨ti,rfl⟩:=eu Y;replace h:=aR.dd h;obtain⟨_,cJ,ac,h⟩:=h;obtain⟨ax,rfl⟩:=lT ac;simp only[d5]at ax;obtain⟨⟨bD,r8⟩,zw⟩:=ax;have ax:=And.intro r8 zw;cases h;obtain⟨an,xy,rfl⟩:=o6 ti tk;obtain⟨b,hb1,rfl⟩:=hs;obtain⟨eH,es,oI,hb2,hb3,IU,Xp⟩:=et;rw[hb1]at hb2;cases hb2;have hf:(dz P kt).1 xX:=by rw[ft bD];exact ayK
 have Ja:=Pz ax.1 hf;have I5:(Instr.findKey xX (db kt an) es.toList).run P w=.ok aq w:=by simp[Instr.findKey,d' Ja,agB ax.1 xy 0 IU ax.2.2]
 have zq:=YE ax.1 hf xy ag w
 let w':bu:={ w with heap:=w.heap.setIfInBounds b (.map (es.push { key:=db kt an,val:=u_,born:=oI })<|oI+1) }
 have bK:b<w.heap.size:=(jO.1 hb3).1;have lR:(Instr.mapUpdate t (.map<|some b) (db kt an) u_).run P w=.ok () w':=by simp only[Instr.mapUpdate,Sem.run_bind,d' bq,Result.andThen_ok,amt hb3,zq,I5];simp only[aGb _ hb3];rfl
 have ayA:w'.heap[b]?=J (.map (es.push { key:=db kt an,val:=u_,born:=oI })<|oI+1):=by simp[w',bK]
 obtain⟨b',e1⟩:=hm.put (id:=id) (x:=(b,0,0)) (w':=w') af_ hb1 Xp rfl rfl rfl (by simp[w']) (λj aF=>by simp[w',MK<|Hm aF]) (.mp kt vt<|l++[(key,v)]) aPs λaX=>by refine⟨b,_,oI+1,hb1,ayA,?_,Xp⟩;rw[Array.toList_push];exact(IU.mono aX.pl aX.vw aX.bl).push (xy.mono aX.vw)<|(GU BT<|aka ax.2.1).mono aX.pl aX.vw aX.bl
 exact⟨rfl,w',M,lR,b',e1⟩
def qi(ok:aE)(v:aS)(b:aE):aS:=if ok then .tuple #[v,.bool b]else v
def An{v b:aP}{x:aS}(Y:eR phx H B v x)(ac:eR phx H B b<|.bool c):bI phx H B (Am ok v b)<|qi ok x c:=by
 cases ok with
 |false =>cases v<;>first|exact Y|exact Y.elim
 |true =>exact⟨[x,.bool c],⟨x,[.bool c],rfl,Y,.bool c,[],rfl,ac,rfl⟩,rfl⟩
def eR.aHp{v:aP}{x:aS}(h:eR phx H B v x):bI phx H B v x:=by cases v<;>first|exact h|exact h.elim
def ag4{kt vt:aw}(aB:xW kt=af){ok:aE}{key:kt.a_}{an:ab aS}(aA:ba H kt key an):∀{l:ab<|kt.a_×aP} {es:ab MapEntry} (i:R) {r:aP},ms phx H B kt l es->(OT kt vt ok key l).bC g B=J (r,B') ->
  B'=B/\((∃j val,Instr.findNow (v6 kt) (db kt an) es i=J (J (j,val))/\bI phx H B r (qi ok val af)) \/
   (Instr.findNow (v6 kt) (db kt an) es i=J aq/\bI phx H B r (qi ok (db vt<|eB vt) ag)))
 |[],es,i,r,h,az=>by subst h;cases az;exact⟨rfl,.inr ⟨rfl,An (GU (DD<|AV vt) (λa=>by cases vt<;>simp[oB,rC])) rfl⟩⟩
 |(k,v)::l,es,i,r,h,az=>by
  obtain⟨e,es',rfl,⟨afo,Y,ac⟩,av,aJ⟩:=h;simp only[OT,aR.bC]at az;simp only[Instr.findNow];rw[ac,YF aB aA Y];cases E3:xV kt key k with
  |true =>rw[E3]at az;cases az;exact⟨rfl,.inl ⟨i,e.val,rfl,An av rfl⟩⟩
  |false =>rw[E3]at az;exact ag4 aB aA (i+1) aJ az
def afK{kt vt:aw}(aB:xW kt=af){key:kt.a_}{an:ab aS}(aA:ba H kt key an):∀{l:ab<|kt.a_×aP} {f7:ab<|kt.a_×vt.a_} {es:ab MapEntry} (i:R),ms phx H B kt l es->D4 kt vt l=J f7 ->
  (∃j val,Instr.findNow (v6 kt) (db kt an) es i=J (J (j,val))/\eR phx H B (.sc vt<|Gv kt vt key f7) val/\EW kt vt key f7=af) \/
   (Instr.findNow (v6 kt) (db kt an) es i=J aq/\eR phx H B (.sc vt<|Gv kt vt key f7) (db vt<|eB vt)/\EW kt vt key f7=ag)
 |[],f7,es,i,h,hx=>by subst h;cases hx;exact .inr ⟨rfl,⟨_,ba.zero _ _,rfl⟩,rfl⟩
 |(k,v)::l,f7,es,i,h,hx=>by
  obtain⟨e,es',rfl,⟨afo,Y,ac⟩,av,aJ⟩:=h;simp only[D4]at hx;cases a3:ju vt v with
  |none=>rw[a3]at hx;cases hx
  |some x=>
   cases hl:D4 kt vt l with
   |none=>rw[a3,hl]at hx;cases hx
   |some bZ=>
    rw[a3,hl]at hx;cases hx;simp only[Instr.findNow];rw[ac,YF aB aA Y];have bD:=GU (o6 a3 av.aHp) (λa h=>by cases h);cases E3:xV kt key k with
    |true=>exact .inl ⟨i,e.val,rfl,by simp only[Gv,E3];exact bD,by simp[EW,E3,aa]⟩
    |false =>have:=afK (vt:=vt) aB aA (i+1) aJ hl;simp only[Gv,EW,E3];exact this
def aA8{E:dO}(ii:sf P E.M){tid:cD}{x k r:aP}{ib Ma:aS}(h:(YY E tid x k ok).bC g B=J (r,B'))(hm:cd K w0 phx M B w)
  (nG:bI phx (view w M) B x ib) (tk:bI phx (view w M) B k Ma):B'=B/\∃v,(Instr.lookup tid ib Ma ok).run P w=.ok v w/\bI phx (view w M) B r v:=by
 unfold YY at h;replace h:=aR.dd h;obtain⟨p,du,Y,h⟩:=h;obtain⟨hp,rfl⟩:=eu Y;obtain⟨xX,Td,bq,zt,r4⟩:=ii _ _ hp;have bN:=C6 r4 w;cases x<;>try(cases h;done)
 case mpp id=>
  simp only[aR.bC]at h;have hs:ci phx (view w M) du (.mpp id) ib:=nG;have et:=hm.blks id;simp only[ci]at hs;generalize a4:du id=bl at h hs et;cases bl<;>try(cases h;done)
  rename_i kt vt l;simp only at h;replace h:=aR.dd h;obtain⟨_,cJ,ac,h⟩:=h;obtain⟨ax,rfl⟩:=lT ac;simp only[d5]at ax;have e1:=ft ax.1;subst e1;have bh:=ft ax.2.1;subst bh;replace h:=aR.dd h;obtain⟨key,wR,av,h⟩:=h;obtain⟨ti,rfl⟩:=eu av;obtain⟨an,xy,rfl⟩:=o6 ti tk;obtain⟨b,hb1,rfl⟩:=hs;obtain⟨eH,es,oI,hb2,hb3,IU,Xp⟩:=et;rw[hb1]at hb2;cases hb2;have Ja:=Pz ax.2.2 zt;have zq:=λc=>YE ax.2.2 zt xy c w;have run:∀o,Instr.findNow (v6 p.1) (db p.1 an) es.toList 0=J o->(Instr.lookup tid (.map<|some b) (db p.1 an) ok).run P w=.ok (match o with|some (_,v)=>qi ok v af|none=>qi ok (db p.2<|eB p.2) ag) w:=by
   intro o bg;have I5:(Instr.findKey xX (db p.1 an) es.toList).run P w=.ok o w:=by simp[Instr.findKey,d' Ja,bg]
   simp only[Instr.lookup,Sem.run_bind,d' bq,Result.andThen_ok,amt hb3,Sem.run_pure,zq,I5];cases o with
   |none=>simp[bN,qi]
   |some q=>simp[qi]
  unfold agy at h;cases b6:D4 p.1 p.2 l with
  |none=>
   rw[b6]at h;obtain⟨oO,h⟩:=ag4 ax.2.2 xy 0 IU h;refine⟨oO,?_⟩;rcases h with⟨j,val,cn,cR⟩|⟨cn,cR⟩
   .exact⟨_,run _ cn,cR⟩
   exact⟨_,run _ cn,cR⟩
  |some f7=>
   rw[b6]at h;cases h;refine⟨rfl,?_⟩;rcases afK (vt:=p.2) ax.2.2 xy 0 IU b6 with⟨j,val,cn,cR,da⟩|⟨cn,cR,da⟩
   .exact aNQ
   exact aNQ
 case sc t y=>
  cases t<;>try(cases h;done)
  rename_i kA;have Jb:kA=2:=by
   refine lI λaA => ?_;match kA,aA,h with
   |0,_,h=>cases h
   |1,_,h=>cases h
   |2,aA,_=>exact aA rfl
   |n+3,_,h=>cases h
  subst Jb;simp only at h;replace h:=aR.dd h;obtain⟨_,cJ,ac,h⟩:=h;obtain⟨ax,rfl⟩:=lT ac;replace h:=aR.dd h;obtain⟨key,wR,av,h⟩:=h;obtain⟨ti,rfl⟩:=eu av;cases h;obtain⟨an,xy,rfl⟩:=o6 ti tk;obtain⟨cs,m9,rfl⟩:=nG;have:=ba.x_.1 m9;subst this;have Ja:=Pz ax zt;have zq:=YE ax zt xy af w;refine⟨rfl,qi ok (db p.2<|eB p.2) ag,?_,An (GU (DD<|AV _) (λa=>by cases p.2<;>simp[oB,rC])) rfl⟩;show(Instr.lookup tid (.map aq) (db p.1 an) ok).run P w=_;have I5:(Instr.findKey xX (db p.1 an) []).run P w=.ok aq w:=by simp[Instr.findKey,d' Ja,Instr.findNow]
  simp only[Instr.lookup,Sem.run_bind,d' bq,Result.andThen_ok,Sem.run_pure];simp[zq,I5,bN,qi]
def abW{t:aw}{tid:cD}(hf:(dz P t).1 tid)(ax:aw.is t (.op 1)=ag):∃d,P.underlying tid=J d/\∀kE,d ≠ .interface kE:=by
 cases t with
 |bool=>exact⟨_,hf.1,bP⟩
 |int k=>exact⟨_,hf.1,bP⟩
 |str=>exact⟨_,hf.1,bP⟩
 |sl e=>exact aK7
 |unit=>exact aK7
 |pair a b=>exact aK7
 |ar n e=>exact aK7
 |op k=>
  have h:=hf.1;match k,h,ax with
  |0,⟨_,_,_,h⟩,_=>exact⟨_,h,bP⟩
  |2,⟨_,_,h⟩,_=>exact⟨_,h,bP⟩
  |3,⟨_,h⟩,_=>exact⟨_,h,bP⟩
 |fn l=>obtain⟨⟨_,_,_,h⟩,_⟩:=hf;exact⟨_,h,bP⟩
def aBf{t:aw}{tid:cD}(hf:(dz P t).1 tid)(ax:aw.is t (.op 1)=ag)(x:aS)(w:bu):(Instr.makeInterface tid x).run P w=.ok (.iface tid x) w:=by obtain⟨d,bq,a?⟩:=abW hf ax;simp_all[Instr.makeInterface,d']
def aqp{E:dO}(hT:ou P E.cp){vo xT:cD}{x r:aP}{ib:aS}(h:(ac8 E vo x ok).bC g B=J (r,B'))(az:bI phx H B x ib)(w:bu):
  B'=B/\∃v,(Instr.typeAssert ib xT vo ok).run P w=.ok v w/\bI phx H B r v:=by
 have zero:∀{t:aw},eR phx H B (rC t<|oB t)<|db t<|eB t:=fun{t}=>GU (DD<|AV t) (λa=>by cases t<;>simp[oB,rC]);cases x<;>try(cases h)
 case ifc tid t y=>
  replace h:=aR.dd h;obtain⟨t',du,Y,h⟩:=h;obtain⟨ht,rfl⟩:=eu Y;obtain⟨cs,m9,rfl⟩:=az;cases ao:aw.is t' (.op 1) with
  |true=>rw[ao]at h;cases h
  |false=>
   rw[ao]at h;have hf:=hT _ _ ht;obtain⟨d,bq,a?⟩:=abW hf ao;have bN:=C6 hf w;cases ak:cT tid vo with
   |true =>rw[ak]at h;cases h;have:=iM ak;subst this;refine⟨rfl,qi ok (db t cs) af,?_,An ⟨cs,m9,rfl⟩ rfl⟩;exact aMJ
   |false=>
    rw[ak]at h;cases ok with
    |false=>cases h
    |true=>
     cases h;refine⟨rfl,qi af (db t'<|eB t') ag,?_,An zero rfl⟩;have fs:¬tid=vo:=λe=>by rw[e,Ha]at ak;cases ak
     exact aMJ
 case sc t y=>
  cases t<;>try(cases h)
  rename_i kA;have Jb:kA=1:=by
   refine lI λaA => ?_;match kA,aA,h with
   |1,aA,_=>exact aA rfl
  subst Jb;replace h:=aR.dd h;obtain⟨t',du,Y,h⟩:=h;obtain⟨ht,rfl⟩:=eu Y;obtain⟨cs,m9,rfl⟩:=az;have:=ba.x_.1 m9;subst this;cases ao:aw.is t' (.op 1) with
  |true=>rw[ao]at h;cases h
  |false=>
   rw[ao]at h;have hf:=hT _ _ ht;obtain⟨d,bq,a?⟩:=abW hf ao;have bN:=C6 hf w;cases ok with
   |false=>cases h
   |true =>cases h;refine⟨rfl,qi af (db t'<|eB t') ag,?_,An zero rfl⟩;show(Instr.typeAssert .nilIface xT vo af).run P w=_;exact aMJ
end
end Yp
namespace Yp
open Go
def yM:=@Array.getElem?_toList
variable {P:d_}
section
variable {K:Kp} {w0 w:bu} {phx:cV} {M:R->Prop} {B B':R->bm} {g:R->aP} {H:cX}
theorem aqj{v:aP}{n:O}{x:aS}(h:(Bd v).bC g B=J (n,B'))(az:bI phx H B v x):B'=B/\∃k,x=.int k n:=by
 cases v<;>try(cases h)
 rename_i t y;cases t<;>try(cases h;done)
 rename_i k;cases h;exact⟨rfl,k,az.int⟩
def aAy{t:aw}(h:ai4 t=af):∃e,t=.sl e:=by cases t<;>first|exact⟨_,rfl⟩|cases h
def kM.args:∀{l:ab jw} {vs:ab aS},kM phx H B l vs->ha phx H B (l.map jw.pv) vs
 |[],vs,h=>by subst h;trivial
 |c::l,vs,h=>by obtain⟨v,eV,rfl,Y,ac⟩:=h;refine⟨?_,ac.args⟩;cases c<;>exact Y
theorem ha.bb:∀{bE alc:ab aP} {vs us:ab aS},ha phx H B bE vs->ha phx H B alc us->ha phx H B (bE++alc) (vs++us)
 |[],_,[],_,_,h=>h
 |_::_,_,_::_,_,h,k=>⟨h.1,ha.bb h.2 k⟩
def kM.take:∀(n:R) {l:ab jw} {vs:ab aS},kM phx H B l vs->kM phx H B (l.take n) (vs.take n)/\kM phx H B (l.drop n) (vs.drop n)
 |0,_,_,h=>⟨rfl,h⟩
 |n+1,[],vs,h=>by have h:vs=[]:=h;subst h;exact⟨rfl,rfl⟩
 |n+1,c::l,vs,h=>by obtain⟨v,eV,rfl,Y,ac⟩:=h;obtain⟨b4,cz⟩:=kM.take n ac;exact⟨⟨v,_,rfl,Y,b4⟩,cz⟩
def VR{eG:R}{dy:ab jw}{bE:ab aP}{us vs:ab aS}(aX:kM phx H B dy us)(hp:ha phx H B bE vs):ha phx H B (xa eG dy bE)<|us.take eG++(vs++us.drop eG):=by obtain⟨b4,cz⟩:=kM.take eG aX;exact ha.bb b4.args<|ha.bb hp cz.args
def au6{p:aP}{c:jw}{x:aS}(h:(El p).bC g B=J (c,B'))(hm:cd K w0 phx M B w)(az:bI phx (view w M) B p x):
  ∃aZ,cd K w0 phx aZ B' w/\c8 phx M B w phx aZ B' w/\w5 phx (view w aZ) B' c x:=by
 cases p<;>try(cases h;done)
 case ptr id p=>cases h;exact⟨M,hm,c8.refl _ _ _ _,az⟩
 case sc t y=>cases h;exact⟨M,hm,c8.refl _ _ _ _,az⟩
 case kb b =>cases h;subst az;exact⟨M,hm,c8.refl _ _ _ _,bI.v_ phx _ B b⟩
 case agg t u =>obtain⟨y,du,Y,ac⟩:=aR.dd h;cases ac;obtain⟨cs,rfl,aZ,b',e1,_,_,f2⟩:=AD Y hm az;exact⟨aZ,b',e1,cs,f2 rfl,rfl⟩
 case clo f eG dy=>
  cases dy with
  |nil =>cases h;obtain⟨vs,a3,rfl⟩:=az;subst a3;exact⟨M,hm,c8.refl _ _ _ _,[_],ba.Iq.2 rfl,by simp[db,aw.isAgg,ug]⟩
  |cons c r=>cases h
def afI:∀{bE:ab aP} {cs:ab jw} {vs:ab aS} {M:R->Prop} {B B':R->bm},(nb El bE).bC g B=J (cs,B')->cd K w0 phx M B w->ha phx (view w M) B bE vs ->
  ∃aZ,cd K w0 phx aZ B' w/\c8 phx M B w phx aZ B' w/\kM phx (view w aZ) B' cs vs
 |[],cs,[],M,B,B',h,hm,_=>by cases h;exact⟨M,hm,c8.refl _ _ _ _,rfl⟩
 |p::bE,cs,v::vs,M,B,B',h,hm,hp=>by replace h:=aR.dd h;obtain⟨c,du,Y,h⟩:=h;replace h:=aR.dd h;obtain⟨kw,cJ,ac,h⟩:=h;cases h;obtain⟨gw,b',e1,e9⟩:=au6 Y hm hp.1;obtain⟨dF,cN,bh,gK⟩:=afI ac b'<|hp.2.ext e1;exact⟨dF,cN,e1.trans bh,v,vs,rfl,e9.mono bh.pl bh.vw bh.bl,gK⟩
def ha.length:∀{bE:ab aP} {vs:ab aS},ha phx H B bE vs->T bE=T vs
 |[],[],_=>rfl
 |_::_,_::_,h=>by simp[ha.length h.2]
 |[],_::_,h=>h.elim
 |_::_,[],h=>h.elim
def afi{E:dO}(dG:pV P E K w0){d:R}:∀{l:ab R} {x:R} {bE:ab aP} {vs:ab aS} {v:aP},(N1 E d l x bE).bC g B=J (v,B')->cd K w0 phx M B w->ha phx (view w M) B bE vs ->
  ∃f,ug l x=.func (.func f) #[] #[]/\tY P f/\Calls P f vs.toArray w λe w'=>∃cF,e=.returned cF/\d? K w0 phx M B w B' v cF w'
 |[],x,bE,vs,v,h,hm,dQ=>by cases h
 |[f],x,bE,vs,v,h,hm,dQ=>by replace h:=jS h;obtain⟨hx,h⟩:=h;have hx:x=1:=iM hx;subst hx;exact⟨f,rfl,VE dG h hm dQ⟩
 |f::xg::r,x,bE,vs,v,h,hm,dQ=>by
  simp only[N1,aR.bC]at h;cases hx:bU x 1 with
  |true =>rw[hx,aH rfl]at h;have hx:x=1:=iM hx;subst hx;exact⟨f,rfl,VE dG h hm dQ⟩
  |false=>
   rw[hx,aD bP]at h;obtain⟨q,Y,ac⟩:=afi dG h hm dQ;refine⟨q,?_,ac⟩;match x,hx,Y with
   |0,_,Y=>simp[cy,ug]at Y
   |1,hx,_=>simp[bU]at hx
   |n+2,_,Y=>simpa[cy,ug]using Y
def af8{t e:aw}(h:Wi t=J e):t=.sl e:=by
 cases t<;>try(cases h;done)
 exact d4 aw.sl<|pb h
def eR.aHo{v:aP}{x:aS}(h:eR phx H B v x)(bq:∀a,v ≠ .tup a):bI phx H B v x:=aNu
def hZ{x:fS}{f:aP->aR α}{r:α×(R->bm)}(h:((e3 x).bind f).bC g B=J r){a:Act}(hs:eh phx H B g a):∃v,bI phx H B v (a.eval x)/\(f v).bC g B=J r:=by
 obtain⟨v,du,Y,ac⟩:=aR.dd h
 grind [z2]
def mE{o:au β}{f:β->aR α}{r:α×(R->bm)}(h:((aR.opt o).bind f).bC g B=J r):∃v,o=J v/\(f v).bC g B=J r:=by
 obtain⟨v,du,Y,ac⟩:=aR.dd h
 grind [eu]
def Nk{p:aP}{f:O->aR α}{r:α×(R->bm)}(h:((Bd p).bind f).bC g B=J r){x:aS}(az:bI phx H B p x):∃n k,x=.int k n/\(f n).bC g B=J r:=by
 obtain⟨v,du,Y,ac⟩:=aR.dd h
 grind [aqj]
def ZL{o:au fS}{f:au O->aR α}{r:α×(R->bm)}(h:((Ke o).bind f).bC g B=J r){a:Act}(hs:eh phx H B g a):∃n k,o.map a.eval=(n.map λi=>.int k i)/\(f n).bC g B=J r:=by
 obtain⟨v,du,Y,ac⟩:=aR.dd h
 grind [aCB]
def ajX{b:aE}{f:Unit->aR α}{r:α×(R->bm)}(h:((aR.need b).bind f).bC g B=J r):b=af/\(f ()).bC g B=J r:=by
 obtain⟨v,du,Y,ac⟩:=aR.dd h
 grind [lT]
def aq3{E:dO}(hT:ou P E.cp){b:Builtin}{e?:cO cD}{bE:ab aP}{vs:ab aS}{v:aP}(h:(UU E d b e?.toList bE).bC g B=J (v,B'))(hm:cd K w0 phx M B w)
  (dQ:ha phx (view w M) B bE vs) (ty:cD) (cs:cO aE):∃r w',(Go.builtin b e? ty cs vs.toArray).run P w=.ok (.value r) w'/\d? K w0 phx M B w B' v r w':=by
 unfold UU at h;split at h
 ·
  split at h
  .rename_i t ts a vQ
   obtain⟨gU,du,Y,ac⟩:=aR.dd h;obtain⟨ht,rfl⟩:=eu Y;match vs,dQ with
   |[cZ],dQ=>
    have aC:e?[0]?=J t:=by rw[<- yM,vQ];rfl
    obtain⟨a4,r,av,aJ⟩:=aA3 (P:=P) (hT _ _ ht) ac dQ.1 aC ty;exact⟨r,w,aL5,d?.same hm a4 aJ⟩
  cases h
 ·
  split at h
  .rename_i t ts vQ
   replace h:=aR.dd h;obtain⟨gU,du,Y,h⟩:=h;obtain⟨ht,rfl⟩:=eu Y;replace h:=hA h;obtain⟨tl,h⟩:=h;obtain⟨e,rfl⟩:=aAy tl;cases h;match vs,dQ with
   |[cZ],dQ=>
    have aC:e?[0]?=J t:=by rw[<- yM,vQ];rfl
    have Jp:=dQ.1;subst Jp;obtain⟨⟨bM,bq,_⟩,_⟩:=hT _ _ ht;refine⟨goInt 0,w,by simp[Go.builtin,Builtin.cap_,aC,d' bq],d?.same hm rfl<|bI.v' _ 0⟩
  cases h
 ·
  split at h
  .rename_i t u s x vQ
   split at h
   .rename_i e ht bq
    match vs,dQ with
    |[vs,ib],dQ=>
     have BF:=aNb
     subst BF;split at h
     .rename_i n _
      replace h:=jS h;obtain⟨aA,h⟩:=h;simp only[df,d5]at aA;obtain⟨eq,g9,rfl,rfl⟩:=x4 h;have Jp:=dQ.1;have azT:=dQ.2.1.int;subst Jp;subst azT;obtain⟨r,w',av,aJ⟩:=aqf (ty:=ty) eq (hT _ _ ht) (hT _ _ bq).1 (n:=(n:O)) (by have:=aA.1;simpa[bL]using this) aA.2 g9 hm;have av:(lG #[t,u] ty #[.slice aq 0 0,.int .i64<|cj.to .i64 n]).run P w=.ok r w':=av;exact⟨r,w',aL5,aJ⟩
     cases h
   .rename_i e aJs bq ht q6
    replace h:=hA h;obtain⟨bD,h⟩:=h;match vs,dQ with
    |[vs,ib],dQ=>
     have BF:=aNb
     subst BF;obtain⟨r,w',av,aJ⟩:∃r w',(lG #[t,u] ty #[vs,ib]).run P w=.ok r w'/\d? K w0 phx M B w B' v r w':=by
      cases ee:E.A with
      |true=>rw[ee]at h;exact aqd (ty:=ty) (hT _ _ ht) (hT _ _ q6) bD h hm dQ.1 dQ.2.1
      |false=>rw[ee]at h;exact aqe (ty:=ty) (hT _ _ ht) (hT _ _ q6) bD h hm dQ.1 dQ.2.1
     exact⟨r,w',aL5,aJ⟩
   cases h
  cases h
 ·
  split at h
  .rename_i t u a x vQ
   split at h
   .rename_i e bh ht bq
    match vs,dQ with
    |[cZ,ib],dQ=>
     have BF:=aNb
     subst BF;obtain⟨r,w',av,aJ⟩:=auW (uid:=u) (ty:=ty) (hT _ _ ht) h hm dQ.1 dQ.2.1;exact⟨r,w',aL5,aJ⟩
   cases h
  cases h
 ·
  split at h
  .rename_i t a vQ
   split at h
   .rename_i e ht
    match vs,dQ with
    |[cZ],dQ=>
     have BF:=aNb
     subst BF;obtain⟨r,w',av,aJ⟩:=auI (ty:=ty) (hT _ _ ht) h hm dQ.1;exact⟨r,w',aL5,aJ⟩
   cases h
  cases h
 ·
  split at h
  .rename_i a b
   cases h;match vs,dQ with
   |[cZ,u9],dQ =>obtain⟨Y,ac,_⟩:=dQ;have e1:=Y.int;have bh:=ac.int;subst e1;subst bh;refine⟨_,w,by rfl,d?.same hm rfl ?_⟩;exact bI.uF _ _ _ .i64<|hE a b
  cases h
 ·
  split at h
  .rename_i a b
   cases h;match vs,dQ with
   |[cZ,u9],dQ =>obtain⟨Y,ac,_⟩:=dQ;have e1:=Y.int;have bh:=ac.int;subst e1;subst bh;refine⟨_,w,by rfl,d?.same hm rfl ?_⟩;exact bI.uF _ _ _ .i64<|dk a b
  cases h
 cases h
def aDi{v:aP}{x:aS}(az:bI phx H B v x){r:aP}(h:(PX v).bC g B=J (r,B')):B'=B/\r=v/\((∃a,x=.pointer (J a))\/∃f a b,x=.func (.func f) a b):=by
 cases v<;>try(cases h;done)
 case ptr id p=>
  simp only[PX,aR.bC]at h;have hs:ci phx H B (.ptr id p) x:=az;simp only[ci]at hs;generalize a4:B id=bl at h hs;cases bl<;>try(cases h;done)
  cases h
  grind
 case opt id i p=>
  simp only[PX,aR.bC]at h;have hs:ci phx H B (.opt id i p) x:=az;simp only[ci]at hs;generalize a4:B id=bl at h hs;cases bl<;>try(cases h;done)
  all_goals
   cases h
   grind
 case ipt e l i p =>cases h;obtain⟨ao,b,o,cap,off,t',Y,ac,rfl⟩:=az;simp
 case clo f eG dy =>cases h;obtain⟨vs,_,rfl⟩:=az;simp
def aB3{a:Act}{y:fS}(h:P7 y=af):∀k n,a.eval y=.int k n->n≠0:=by
 unfold P7 at h;split at h
 .intro k n ax;obtain⟨_,rfl⟩:=ax;simp;omega
 .intro k n ax;obtain⟨_,rfl⟩:=ax;simp
 cases h
def aBR{a:Act}{y:fS}(h:P0 y=af):∀k n,a.eval y=.int k n->0<=n:=by
 unfold P0 at h;split at h
 .intro k n ax;obtain⟨_,rfl⟩:=ax;simp
 cases h
def avS{p:aP}{v:aP}(h:(Ii p i).bC g B=J (v,B')){x:aS}(az:bI phx H B p x):∀a,v ≠ .tup a:=by
 rintro a rfl;unfold Ii at h;split at h
 .obtain⟨h,_⟩:=eu h
  obtain⟨vs,hl,rfl⟩:=az;rename_i q;have key:∀(i:R) (q:aP) (vs:ab aS),jU q (g5 i)=J (.tup a)->mZ phx H B q vs->fI:=by
   intro i;induction i with
   |zero=>
    intro q vs h hl;cases q<;>simp only[g5,jU]at h<;>try(cases h;done)
    .rename_i t y
     cases t<;>(try simp only[jU]at h)<;>cases h
    obtain⟨u,us,rfl,Y,ac⟩:=hl
    (try simp only[jU]at h);cases h
    exact Y.elim
   |succ i ih=>
    intro q vs h hl;cases q<;>simp only[g5,jU]at h<;>try(cases h;done)
    .rename_i t y
     cases t<;>(try simp only[jU]at h)<;>try(cases h;done)
     exact hl.elim
    obtain⟨u,us,rfl,Y,ac⟩:=hl;exact ih _ _ h ac
  exact key i _ vs h hl
 cases h
def ic(P:d_)(K:Kp)(w0:bu)(phx:cV)(M:R->Prop)(B:R->bm)(w:bu)(B':R->bm)(v:aP)(s:Sem Next):Prop:=
 ∃r w',s.run P w=.ok (.value r) w'/\d? K w0 phx M B w B' v r w'
def ic.of{s:Sem aS}{v:aP}{r:aS}{w':bu}(h:s.run P w=.ok r w')(b6:d? K w0 phx M B w B' v r w'):ic P K w0 phx M B w B' v (do pure (.value<|<- s)):=
 ⟨r,w',by simp[h],b6⟩
def ic.pure{v:aP}{r:aS}(b6:d? K w0 phx M B w B' v r w):ic P K w0 phx M B w B' v<|pure<|.value r:=⟨r,w,rfl,b6⟩
def Tp{dD:au R}{f:fS}{args:cO fS}{e?:cO cD}{type:cD}{jI:String}{after:cO Edge}{ES:au<|Nat×aE}{a:Act}{Bt:R}{first cap:cO aS}
  (hf:a.eval f=.func (.func Bt) first cap) (xx:tY P Bt) {Kn:Act->bu->Prop} {Q:Exit->Act->bu->Prop}
  (h:Calls P Bt (first++args.map a.eval++cap) w λe w'=>∃cF,e=.returned cF/\Kn (a.put dD cF) w'):Oper.wp P ⟨dD,.call ⟨.value f,args,e?⟩,type,jI,after,ES⟩ a w Kn Q:=by
 obtain⟨fn,c1,c2,fK⟩:=xx;have xw:¬fn.body=aq:=aMP
 have NA : ¬ fn.name = "runtime.NumGoroutine" := by simpa using fK
 have lR:(execOp a.eval ⟨dD,.call ⟨.value f,args,e?⟩,type,jI,after,ES⟩).run P w=.ok (.enter Bt (first++args.map a.eval++cap)) w:=by simp only[execOp,resolve];simp[hf,Deferred.ofValue,invoke,callFunc,c1,NA,xw]
 unfold Oper.wp;rw[lR,Oper.upon_enter];refine h.mono ?_;rintro e w' ⟨cF,rfl,aB⟩;exact aB
def awT{E:dO}(dG:pV P E K w0){x:fS}{f:aP->aR α}{r:α×(R->bm)}(h:((WZ E x).bind f).bC g B=J r)(hm:cd K w0 phx M B w){a:Act}(hs:eh phx (view w M) B g a):
  ∃v,bI phx (view w M) B v (a.eval x)/\(f v).bC g B=J r:=by
 cases x with
 |global i=>
  simp only[WZ]at h;cases aB:E.K with
  |none=>rw[aB]at h;cases h
  |some k=>
   rw[aB]at h;simp only at h;cases ak:cT k i with
   |false=>exact aNC
   |true =>rw[ak]at h;have:=iM ak;subst this;refine⟨_,?_,h⟩;have dc:=(dG.gk<|.inr<|.inr ⟨_,aB⟩).keys hm k<|dG.kn k aB;show ci phx (view w M) B (.ipt (.ar 64<|.int .u32) [(ke:ab<|cj .u32)] 0 [])<|.pointer<|some ⟨k,0,aq⟩;simp only[ci];exact⟨Nat.zero_lt_one,k,0,1,0,_,dc,rfl,bP⟩
 |tmp t=>exact hZ h hs
 |const v=>exact hZ h hs
 |func xg=>exact hZ h hs
def aBO{op:BinOp}{y:fS}(h:J6 op y=af):op=.eql/\y=.const .nilIface:=by
 grind [J6]
def aF7{tid:cD}{kE:cO<|String×cD}(bq:P.underlying tid=J (.interface kE))(t:R)(v:aS)(w:bu):(Op.equal tid (.iface t v) .nilIface).run P w=.ok ag w:=aLO
def aF9{tid:cD}{kE:cO<|String×cD}(bq:P.underlying tid=J (.interface kE))(w:bu):(Op.equal tid .nilIface .nilIface).run P w=.ok af w:=aLO
def aAl{tid:cD}{t:aw}(ht:(dz P t).1 tid){a r:aP}{cZ:aS}(h:(Po t a).bC g B=J (r,B'))(eF:bI phx H B a cZ)(x:fS)(w:bu):
  B'=B/\∃v,(do eqGuard .eql tid x (.const .nilIface) cZ .nilIface;binOp .eql tid cZ .nilIface:Sem aS).run P w=.ok v w/\bI phx H B r v:=by
 unfold Po at h;cases hX:aw.is t (.op 1) with
 |false=>exact aMe
 |true=>
  have:=ft hX;subst this;obtain⟨kE,bq⟩:=ht.1;split at h
  .cases h
   obtain⟨cs,_,rfl⟩:=eF;have hg:∀v:aS,∀t,(eqGuard .eql tid x (.const .nilIface) (.iface t v) .nilIface).run P w=.ok () w:=λ_ _=>rfl;exact⟨rfl,.bool ag,by simp[hg,binOp,aF7 bq],rfl⟩
  .cases h
   obtain⟨cs,aA,rfl⟩:=eF;subst aA;have hg:(eqGuard .eql tid x (.const .nilIface) .nilIface .nilIface).run P w=.ok () w:=by cases x<;>rfl
   exact⟨rfl,.bool af,by simp[hg,binOp,db,aw.isAgg,Co,aF9 bq],rfl⟩
  cases h
def ZK{E:dO}(hT:ou P E.cp)(dc:qS P E.cp E.C)(ii:sf P E.M)(dG:pV P E K w0){o:c7}{a:Act}{v:aP}(h:(tv E o).bC g B=J (v,B'))(hm:cd K w0 phx M B w)(hs:eh phx (view w M) B g a)
  {Kn:Act->bu->Prop} {Q:Exit->Act->bu->Prop} (aB:∀r w',d? K w0 phx M B w B' v r w'->Kn (a.put o.dst r) w'):o.wp P a w Kn Q:=by
 have h_:ic P K w0 phx M B w B' v (execOp a.eval o)->o.wp P a w Kn Q:=λ⟨r,w',Y,ac⟩=>aH0 Y<|aB r w' ac;obtain⟨dD,op,type,jI,after,ES⟩:=o;cases op<;>try(cases h)
 case move x =>obtain⟨a4,a3⟩:=z2 h hs;exact h_<|ic.pure (d?.same hm a4 a3)
 case assign x =>obtain⟨a4,a3⟩:=z2 h hs;exact h_<|ic.pure (d?.same hm a4 a3)
 case pick c x y =>replace h:=hZ h hs;obtain⟨aCU,aA,h⟩:=h;replace h:=hZ h hs;obtain⟨jJ,hx,h⟩:=h;replace h:=hZ h hs;obtain⟨ak7,bW,h⟩:=h;obtain⟨a4,dH,aJ,bv⟩:=aC2 (P:=P) h aA hx bW w;exact h_ ⟨dH,w,aJ,d?.same hm a4 bv⟩
 case alloc t =>replace h:=mE h;obtain⟨ty,ht,h⟩:=h;replace h:=EG h;obtain⟨hid,h⟩:=h;cases h;obtain⟨r,w',Y,ac⟩:=ap6 (hT _ _ ht) hid hm;exact h_<|ic.of Y ac
 case box t x =>replace h:=mE h;obtain⟨ty,ht,h⟩:=h;replace h:=hZ h hs;obtain⟨jJ,hx,h⟩:=h;obtain⟨_,du,Y,ac⟩:=aR.dd h;obtain⟨e,cu,px,td⟩:=OG Y hx;rw[e]at ac;obtain⟨hid,ac⟩:=EG ac;cases ac;obtain⟨r,w',Y,ac⟩:=ado (hT _ _ ht) hid hm px td;exact h_<|ic.of Y ac
 case build t parts=>
  replace h:=mE h;obtain⟨ty,ht,h⟩:=h;obtain⟨bE,du,Y,ac⟩:=aR.dd h;obtain⟨e,dQ⟩:=ZW hs Y;rw[e]at ac;have E5:qK phx (view w M) B bE (parts.map λ(i,x)=>(i,a.eval x)).toList:=by simpa using dQ
  cases ty<;>try(cases ac)
  case ar n e =>obtain⟨r,av,aJ⟩:=aq2 (hT _ _ ht) ac hm E5;exact h_<|ic.of av aJ
  case unit =>obtain⟨a4,r,av,aJ⟩:=adu rfl (hT _ _ ht) ac E5 w;exact h_<|ic.of av (d?.same hm a4 aJ)
  case pair x y =>obtain⟨a4,r,av,aJ⟩:=adu rfl (hT _ _ ht) ac E5 w;exact h_<|ic.of av (d?.same hm a4 aJ)
 case buildSlice t n parts=>
  replace h:=mE h;obtain⟨ty,ht,h⟩:=h;replace h:=mE h;obtain⟨e,aX,h⟩:=h;have:=af8 aX;subst this;obtain⟨bE,du,Y,ac⟩:=aR.dd h;obtain⟨Wf,dQ⟩:=ZW hs Y;rw[Wf]at ac;have E5:qK phx (view w M) B bE (parts.map λ(i,x)=>(i,a.eval x)).toList:=by simpa using dQ
  cases xI:aw.is e (.op 3) with
  |true =>rw[xI,km]at ac;have:=ft xI;subst this;obtain⟨r,w',av,aJ⟩:=aDj (hT _ _ ht) ac hm E5;exact h_<|ic.of av aJ
  |false =>rw[xI,k1]at ac;obtain⟨r,w',av,aJ⟩:=aq1 (hT _ _ ht) ac hm E5;exact h_<|ic.of av aJ
 case load t x =>replace h:=mE h;obtain⟨ty,ht,h⟩:=h;replace h:=hZ h hs;obtain⟨jJ,hx,h⟩:=h;obtain⟨a4,r,av,aJ⟩:=ajp (hT _ _ ht) h hm hx;exact h_<|ic.of av (d?.same hm a4 aJ)
 case store t x y =>replace h:=mE h;obtain⟨ty,ht,h⟩:=h;replace h:=hZ h hs;obtain⟨jJ,hx,h⟩:=h;replace h:=hZ h hs;obtain⟨ak7,bW,h⟩:=h;obtain⟨rfl,w',aZ,av,aJ,bv⟩:=aHb (hT _ _ ht) h hm hx bW;exact acb (w':=w') aOY<|aB _ _ ⟨phx,aZ,aJ,bv,rfl⟩
 case nilCheck x=>
  replace h:=hZ h hs;obtain⟨jJ,hx,h⟩:=h;obtain⟨a4,rfl,aX⟩:=aDi hx h;refine h_ ⟨a.eval x,w,?_,d?.same hm a4 hx⟩;rcases aX with⟨ad,aX⟩|⟨f,c9,fx,aX⟩
  .simp only[execOp,aX];rfl
  simp only[execOp,aX];rfl
 case binOp op t x y yt=>
  change (bif J6 op y then(aR.opt<|E.cp t).bind λty=>(e3 x).bind λa=>Po ty a else(e3 x).bind λa=>(e3 y).bind λb=>Ns E (P7 y) (P0 y) op t a b:aR aP).bC g B=_ at h;cases XT:J6 op y with
  |true =>obtain⟨rfl,rfl⟩:=aBO XT;rw[XT,km]at h;replace h:=mE h;obtain⟨ty,ht,h⟩:=h;replace h:=hZ h hs;obtain⟨jJ,hx,h⟩:=h;obtain⟨a4,r,av,aJ⟩:=aAl (hT _ _ ht) h hx x w;exact h_<|ic.of av (d?.same hm a4 aJ)
  |false=>
  rw[XT,k1]at h;replace h:=hZ h hs;obtain⟨jJ,hx,h⟩:=h;replace h:=hZ h hs;obtain⟨ak7,bW,h⟩:=h;obtain⟨a4,r,av,aJ⟩:=aqJ hT dc h hx bW (λbN=>aB3 bN) (λbN=>aBR bN) x y w;exact h_<|ic.of av (d?.same hm a4 aJ)
 case unOp op t x =>replace h:=hZ h hs;obtain⟨jJ,hx,h⟩:=h;obtain⟨a4,r,av,aJ⟩:=aHB (P:=P) h hx w;exact h_<|ic.of av (d?.same hm a4 aJ)
 case convert s t x=>
  replace h:=hZ h hs;obtain⟨jJ,hx,h⟩:=h;unfold afB at h;replace h:=mE h;obtain⟨ts,azJ,h⟩:=h;replace h:=mE h;obtain⟨aHu,azK,h⟩:=h;have f':=hT _ _ azJ;have eM:=hT _ _ azK;cases aHu<;>try(cases h;done)
  case int k=>
   cases jJ<;>try(cases h;done)
   rename_i je pl;cases je<;>try(cases h;done)
   rename_i k';cases h;have e:=hx.int;obtain⟨d,a?⟩:=awc f';have az:=aF5 (P:=P) (k:=k) (k':=k') a? eM.1 (cj.to k' pl) w;rw[<- e]at az;refine h_<|ic.of az<|d?.same hm rfl ?_;have:=bI.uF phx (view w M) B k<|cj.of k (cj.to k' pl)
   rwa [cj.S5]at this
  case str=>
   cases ts<;>try(cases h;done)
   case str=>
    cases jJ<;>try(cases h;done)
    rename_i je pl;cases je<;>try(cases h;done)
    cases h;have e:=hx.str;refine h_<|ic.of (r:=a.eval x) (w':=w) ?_<|d?.same hm rfl hx;rw[e];simp[convert,d' f'.1,d' eM.1]
   case sl e=>
    replace h:=hA h;obtain⟨ak,h⟩:=h;have aX:=aNl
    subst aX;obtain⟨l,du,Y,ac⟩:=aR.dd h;cases ac;obtain⟨a4,az⟩:=auT (l:=l) f' eM.1 Y hm hx;exact h_<|ic.of az (d?.same hm a4<|bI.Y6 _ _ _ l)
  case sl e=>
   cases ts<;>try(cases h;done)
   case sl b9=>
    cases jJ<;>try(cases h;done)
    rename_i id fm;cases fm<;>try(cases h;done)
    replace h:=hA h;obtain⟨ak,h⟩:=h;simp only[d5]at ak;have aX:=by
     have:=ak.1;unfold B8 at this;split at this
     .rename_i r2;exact(aw.sl.inj r2)
     cases this
    subst aX;have eU:=iM ak.2.2;subst eU;simp only[aR.bC]at h;generalize a4:B id=bl at h;cases bl<;>try(cases h;done)
    cases h;obtain⟨r,w',av,aJ⟩:=auU (P:=P) eM a4 hm hx;exact h_<|ic.of av aJ
   cases jJ<;>try(cases h;done)
   rename_i je pl;cases je<;>try(cases h;done)
   replace h:=hA h;obtain⟨ak,h⟩:=h;have aX:=aNl
   subst aX;replace h:=jS h;obtain⟨gR,h⟩:=h;obtain⟨_,g9,rfl,rfl⟩:=x4 h;have e:=hx.str;have cP:T (pl:ab aN)*1<=140737488355328:=of_decide_eq_true gR;obtain⟨r,w',av,aJ⟩:=auV (P:=P) (l:=pl) f'.1 eM g9 V hm;rw[<- e]at av;exact h_<|ic.of av aJ
 case makeSlice t l c =>replace h:=mE h;obtain⟨ty,ht,h⟩:=h;replace h:=mE h;obtain⟨e,aX,h⟩:=h;have:=af8 aX;subst this;replace h:=hZ h hs;obtain⟨pl,hl,h⟩:=h;replace h:=Nk h hl;obtain⟨aJd,kl,el,h⟩:=h;replace h:=hZ h hs;obtain⟨aCU,aA,h⟩:=h;replace h:=Nk h aA;obtain⟨aJb,kc,H7,h⟩:=h;obtain⟨r,w',av,aJ⟩:=aBh (kl:=kl) (kc:=kc) (hT _ _ ht) hm h;rw[<- el,<- H7]at av;exact h_<|ic.of av aJ
 case slice t x lo ao sg=>
  replace h:=mE h;obtain⟨ty,ht,h⟩:=h;replace h:=hZ h hs;obtain⟨jJ,hx,h⟩:=h;replace h:=ZL h hs;obtain⟨aBQ,Fj,avv,h⟩:=h;replace h:=ZL h hs;obtain⟨aBJ,Fh,avu,h⟩:=h;replace h:=ZL h hs;obtain⟨aj3,YH,avw,h⟩:=h;have key:∀{s:Sem aS},(∃r w',s.run P w=.ok r w'/\d? K w0 phx M B w B' v r w')->s=qD t (a.eval x) (aBQ.map λi=>.int Fj i) (aBJ.map λi=>.int Fh i) (aj3.map λi=>.int YH i) ->
    Oper.wp P ⟨dD,.slice t x lo ao sg,type,jI,after,ES⟩ a w Kn Q:=by
   rintro s ⟨r,w',Y,ac⟩ rfl;refine h_ ⟨r,w',?_,ac⟩;simp only[execOp,avv,avu,avw];simp[Y]
  cases ee:E.A with
  |true=>
   rw[ee,km]at h;cases ty<;>try(cases h;done)
   obtain⟨a4,r,av,aJ⟩:=aGV (P:=P) (hT _ _ ht) h hm hx Fj Fh YH;exact key ⟨r,w,av,d?.same hm a4 aJ⟩ rfl
  |false=>
  rw[ee,k1]at h;cases aj3 with
  |some m =>obtain⟨a4,r,av,aJ⟩:=aGU (P:=P) (hT _ _ ht) h hx Fj Fh YH;exact key ⟨r,w,av,d?.same hm a4 aJ⟩ rfl
  |none=>
   cases ty<;>try(cases h;done)
   case str=>
    cases jJ<;>try(cases h;done)
    rename_i je pl;cases je<;>try(cases h;done)
    have e:=hx.str;obtain⟨a4,r,av,aJ⟩:=aGX (P:=P) h (hT _ _ ht).1 Fj Fh (phx:=phx) (H:=view w M) w;exact key ⟨r,w,by rw[<- e]at av;exact av,d?.same hm a4 aJ⟩ rfl
   case sl e =>obtain⟨a4,r,av,aJ⟩:=aa9 (P:=P) (hT _ _ ht) h hm hx Fj Fh;exact key ⟨r,w,av,d?.same hm a4 aJ⟩ rfl
   case ar n e =>obtain⟨a4,r,av,aJ⟩:=aGW (P:=P) (hT _ _ ht) h hm hx Fj Fh;exact key ⟨r,w,av,d?.same hm a4 aJ⟩ rfl
 case fieldAddr s x f =>replace h:=hZ h hs;obtain⟨jJ,hx,h⟩:=h;obtain⟨a4,r,av,aJ⟩:=av0 (P:=P) (λt ht=>hT _ _ ht) h hx;exact h_<|ic.of av (d?.same hm a4 aJ)
 case field t x f =>replace h:=hZ h hs;obtain⟨jJ,hx,h⟩:=h;obtain⟨a4,r,av,aJ⟩:=av5 (P:=P) hT h hx;exact h_<|ic.of av (d?.same hm a4 aJ)
 case indexAddr t x i =>replace h:=mE h;obtain⟨ty,ht,h⟩:=h;replace h:=awT dG h hm hs;obtain⟨jJ,hx,h⟩:=h;replace h:=hZ h hs;obtain⟨aCX,ao,h⟩:=h;replace h:=Nk h ao;obtain⟨n,k,H8,h⟩:=h;obtain⟨a4,r,av,aJ⟩:=aAn (P:=P) (k:=k) (hT _ _ ht) h hx;rw[<- H8]at av;exact h_<|ic.of av (d?.same hm a4 aJ)
 case index t x i=>
  replace h:=mE h;obtain⟨ty,ht,h⟩:=h;replace h:=hZ h hs;obtain⟨jJ,hx,h⟩:=h;replace h:=hZ h hs;obtain⟨aCX,ao,h⟩:=h;replace h:=Nk h ao;obtain⟨n,k,H8,h⟩:=h;cases ty with
  |str=>
   have bD:∃l,jJ=.sc .str l:=by
    cases jJ<;>try(cases h;done)
    rename_i je pl;cases je<;>first|exact⟨_,rfl⟩|cases h
   obtain⟨l,rfl⟩:=bD;have e:=hx.str;obtain⟨a4,r,av,aJ⟩:=aAp (P:=P) h (hT _ _ ht).1 k (phx:=phx) (H:=view w M) w;rw[<- H8,<- e]at av;exact h_<|ic.of av (d?.same hm a4 aJ)
  |ar m e =>obtain⟨a4,r,av,aJ⟩:=aAo (P:=P) (hT _ _ ht) h hx k;rw[<- H8]at av;exact h_<|ic.of av (d?.same hm a4 aJ)
  |_=>
   cases jJ<;>try(cases h;done)
   rename_i je pl;cases je<;>cases h
 case range t x=>
  replace h:=mE h;obtain⟨ty,ht,h⟩:=h;replace h:=ajX h;obtain⟨ao,h⟩:=h;have:=ft ao;subst this;replace h:=hZ h hs;obtain⟨jJ,hx,h⟩:=h;cases jJ<;>try(cases h;done)
  rename_i je pl;cases je<;>try(cases h;done)
  replace h:=EG h;obtain⟨hid,h⟩:=h;cases h;have e:=hx.str;obtain⟨r,w',av,aJ⟩:=aDI (P:=P) (hT _ _ ht).1 hid (l:=pl) hm;rw[<- e]at av;exact h_<|ic.of av aJ
 case next x b=>
  cases b<;>try(cases h;done)
  replace h:=hZ h hs;obtain⟨jJ,hx,h⟩:=h;obtain⟨r,w',av,aJ⟩:=aBI (P:=P) h hm hx type;exact h_<|ic.of av aJ
 case extract x i =>replace h:=hZ h hs;obtain⟨jJ,hx,h⟩:=h;obtain⟨a4,r,av,aJ⟩:=avR (P:=P) h hx w;refine h_<|ic.of av<|d?.same hm a4 ?_;exact aJ.aHo<|avS h hx
 case makeFunc fn first cap=>
  cases fn<;>try(cases h;done)
  rename_i f;replace h:=aR.dd h;obtain⟨pa,du,Y,h⟩:=h;obtain⟨e1,air⟩:=zV hs Y;rw[e1]at h;replace h:=aR.dd h;obtain⟨Kk,cJ,ac,h⟩:=h;obtain⟨bh,azj⟩:=zV hs ac;rw[bh]at h;replace h:=aR.dd h;obtain⟨dy,wR,av,h⟩:=h;cases h;obtain⟨aZ,b',DE,e9⟩:=afI av hm<|ha.bb air azj;refine h_ ⟨.func (.func f) (first.map a.eval)<|cap.map a.eval,w,by simp[execOp,Instr.makeFunc],phx,aZ,b',DE,_,e9,?_⟩;have cP:=air.length;rw[cP,T1,Mv];congr 1<;>(apply pe;simp)
 case makeMap t r=>
  cases r<;>try(cases h;done)
  replace h:=mE h;obtain⟨p,hp,h⟩:=h;replace h:=EG h;obtain⟨hid,h⟩:=h;cases h;obtain⟨r,w',Y,ac⟩:=aBg (P:=P) (t:=t) hid p.1 p.2 hm;exact h_<|ic.of Y ac
 case insert t m k x =>replace h:=mE h;obtain⟨p,hp,h⟩:=h;replace h:=hZ h hs;obtain⟨aC7,Jl,h⟩:=h;replace h:=hZ h hs;obtain⟨CF,tk,h⟩:=h;replace h:=hZ h hs;obtain⟨jJ,nG,h⟩:=h;obtain⟨xX,Td,bq,zt,r4⟩:=ii _ _ hp;obtain⟨rfl,w',aZ,av,aJ,bv⟩:=ai1 (P:=P) h bq zt hm Jl tk nG;exact acb (w':=w') aOY<|aB _ _ ⟨phx,aZ,aJ,bv,rfl⟩
 case mapUpdate t m k x =>replace h:=mE h;obtain⟨p,hp,h⟩:=h;replace h:=hZ h hs;obtain⟨aC7,Jl,h⟩:=h;replace h:=hZ h hs;obtain⟨CF,tk,h⟩:=h;replace h:=hZ h hs;obtain⟨jJ,nG,h⟩:=h;obtain⟨xX,Td,bq,zt,r4⟩:=ii _ _ hp;obtain⟨rfl,w',aZ,av,aJ,bv⟩:=ai1 (P:=P) h bq zt hm Jl tk nG;exact acb (w':=w') aOY<|aB _ _ ⟨phx,aZ,aJ,bv,rfl⟩
 case lookup t x i ok =>replace h:=hZ h hs;obtain⟨jJ,nG,h⟩:=h;replace h:=hZ h hs;obtain⟨CF,tk,h⟩:=h;obtain⟨a4,r,av,aJ⟩:=aA8 (P:=P) ii h hm nG tk;exact h_<|ic.of av (d?.same hm a4 aJ)
 case makeInterface t x =>replace h:=mE h;obtain⟨ty,ht,h⟩:=h;replace h:=ajX h;obtain⟨ax,h⟩:=h;replace h:=hZ h hs;obtain⟨jJ,nG,h⟩:=h;replace h:=aR.dd h;obtain⟨y,du,Y,h⟩:=h;cases h;obtain⟨cs,a3,aZ,b',DE,_,_,f2⟩:=AD Y hm nG;refine h_ ⟨.iface t<|a.eval x,w,?_,phx,aZ,b',DE,cs,f2 rfl,by rw[a3]⟩;have:=aBf (P:=P) (hT _ _ ht) (by simpa using ax) (a.eval x) w;simp only[execOp];simp[this]
 case typeAssert x xT vo ok =>replace h:=hZ h hs;obtain⟨jJ,nG,h⟩:=h;obtain⟨a4,r,av,aJ⟩:=aqp (P:=P) hT (xT:=xT) h nG w;exact h_<|ic.of av (d?.same hm a4 aJ)
 case call c=>
  obtain⟨VF,args,e?⟩:=c;cases VF<;>try(cases h;done)
  case builtin b=>
   obtain⟨bE,du,Y,ac⟩:=aR.dd h;obtain⟨e,dQ⟩:=zV hs Y;rw[e]at ac;have b6:(args.toList.map a.eval).toArray=args.map a.eval:=aM7
   have key:∀cs,ic P K w0 phx M B w B' v<|Go.builtin b e? type cs<|args.map a.eval:=λcs=>by obtain⟨r,w',av,aJ⟩:=aq3 (P:=P) hT ac hm dQ type cs;rw[b6]at av;exact⟨r,w',av,aJ⟩
   exact h_<|key _
  case value f=>
   replace h:=hZ h hs;obtain⟨aCV,hf,h⟩:=h;obtain⟨bE,du,Y,ac⟩:=aR.dd h;obtain⟨e,dQ⟩:=zV hs Y;rw[e]at ac;have b6:(args.toList.map a.eval).toArray=args.map a.eval:=aM7
   cases aCV<;>try(cases ac;done)
   case clo Bt eG dy=>
    obtain⟨us,aX,hf⟩:=hf;obtain⟨xx,EZ⟩:=VE (P:=P) dG ac hm<|VR aX dQ;refine Tp hf xx ?_;have jV:(us.take eG++(args.toList.map a.eval++us.drop eG)).toArray=(us.take eG).toArray++args.map a.eval++(us.drop eG).toArray:=by rw[<- b6];simp
    rw[<- jV];refine EZ.mono ?_;rintro e w' ⟨cF,rfl,b6⟩;exact⟨cF,rfl,aB cF w' b6⟩
   case sc t x=>
    cases t<;>try(cases ac;done)
    obtain⟨cs,m9,hf⟩:=hf;have:=ba.Iq.1 m9;subst this;obtain⟨Bt,hfn,xx,EZ⟩:=afi (P:=P) dG ac hm dQ;have hf:a.eval f=.func (.func Bt) #[] #[]:=by rw[hf];simp[db,aw.isAgg,hfn]
    refine Tp hf xx ?_;have jV:(args.toList.map a.eval).toArray=#[]++args.map a.eval ++ #[]:=by rw[b6];simp
    rw[<- jV];refine EZ.mono ?_;rintro e w' ⟨cF,rfl,b6⟩;exact⟨cF,rfl,aB cF w' b6⟩
end
end Yp
namespace Yp
open Go
def kL:=@List.append_assoc
def mU:=@List.mem_cons
def yO:=@List.mem_cons_of_mem
def A1:=@List.map_cons
def qw(g:R->aP)(i:R)(v:aP):R->aP:=λj=>if j=i then v else g j
theorem ey.xn(f i:R):ey.m5 f .e i=.bad:=by cases f<;>rfl
theorem l7(h:a=b):cT a b=af:=by subst h;exact Ha a
theorem iY(h:a≠b):cT a b=ag:=aK3
def ey.Iy:∀(f:R) (t:ey) (i j:R) (v:aP),j≠i->(t.set f i v).m5 f j=t.m5 f j
 |0,t,i,j,v,h=>rfl
 |f+1,.e,i,j,v,h=>by
  simp only[ey.set];by_cases ao:i=0
  .grind [l7,ey.m5,iY,ey.xn]
  rw[iY ao];by_cases hm:i%2=1
  .rw[l7 hm]
   simp only[cond,ey.m5];by_cases aF:j=0
   .rw[l7 aF]
   rw[iY aF];by_cases aB:j%2=1
   .rw[l7 aB];simp only[ey.Iy f .e (i/2) (j/2) v V,ey.xn]
   grind [iY,ey.xn]
  rw[iY hm];simp only[cond,ey.m5];by_cases aF:j=0
  .rw[l7 aF]
  rw[iY aF];by_cases aB:j%2=1
  .grind [l7,ey.xn]
  rw[iY aB];simp only[ey.Iy f .e (i/2-1) (j/2-1) v V,ey.xn]
 |f+1,.n w l r,i,j,v,h=>by
  simp only[ey.set];by_cases ao:i=0
  .grind [l7,ey.m5,iY]
  rw[iY ao];by_cases hm:i%2=1
  .rw[l7 hm]
   simp only[cond,ey.m5];by_cases aF:j=0
   .rw[l7 aF]
   rw[iY aF];by_cases aB:j%2=1
   .simp only[ey.Iy f l (i/2) (j/2) v V]
   rw[iY aB]
  rw[iY hm];simp only[cond,ey.m5];by_cases aF:j=0
  .rw[l7 aF]
  rw[iY aF];by_cases aB:j%2=1
  .rw[l7 aB]
  simp only[ey.Iy f r (i/2-1) (j/2-1) v V]
def ey.EL:∀(f:R) (t:ey) (i:R) (v:aP),(t.set f i v).m5 f i=v\/(t.set f i v).m5 f i=.bad/\2^f<=i+1
 |0,t,i,v=>.inr ⟨rfl,bP⟩
 |f+1,.e,i,v=>by
  simp only[ey.set];by_cases ao:i=0
  .grind [ey.m5,l7]
  rw[iY ao];by_cases hm:i%2=1
  .rw[l7 hm]
   simp only[cond,ey.m5,iY ao,l7 hm];rcases ey.EL f .e (i/2) v with h|h
   .grind
   grind
  rw[iY hm];simp only[cond,ey.m5,iY ao,iY hm];rcases ey.EL f .e (i/2-1) v with h|h
  .grind
  grind
 |f+1,.n w l r,i,v=>by
  simp only[ey.set];by_cases ao:i=0
  .grind [ey.m5,l7]
  rw[iY ao];by_cases hm:i%2=1
  .rw[l7 hm]
   simp only[cond,ey.m5,iY ao,l7 hm];rcases ey.EL f l (i/2) v with h|h
   .grind
   grind
  rw[iY hm];simp only[cond,ey.m5,iY ao,iY hm];rcases ey.EL f r (i/2-1) v with h|h
  .grind
  grind
def bd.xm(s:bd)(v:aP)(h:j≠i):(s.mJ i v).cw j=s.cw j:=ey.Iy 40 s.t i j v h
def bd.Ix(s:bd)(i:R)(v:aP):(s.mJ i v).cw i=v\/(s.mJ i v).cw i=.bad:=(ey.EL 40 s.t i v).imp id (·.1)
def bd.awQ(s:bd)(v:aP)(ao:i<1000000):(s.mJ i v).cw=qw s.cw i v:=by
 funext j;unfold qw;split
 .rename_i h;subst h
  rcases ey.EL 40 s.t j v with h|h
  .exact h
  omega
 rename_i h;exact s.xm v h
def ajy:∀(l:ab<|Nat×bm) (id:R) (b:bm) (j:R),se (CG l id b) j=if j=id then b else se l j
 |[],id,b,j=>by
  grind [CG,se,l7,iY]
 |(i,c)::l,id,b,j=>by
  simp only[CG];by_cases ao:i=id
  .grind [l7,se,iY]
  rw[iY ao];simp only[cond,se];by_cases h:i=j
  .grind [l7]
  rw[iY h];exact ajy l id b j
def bd.Bx(s:bd)(id:R)(b:bm):(s.o3 id b).bz=dx s.bz id b:=by funext j;exact ajy s.h id b j
def bd.oN(s:bd):∀l:ab<|Nat×bm,(s.fc l).bz=en s.bz l
 |[]=>rfl
 |(i,b)::l=>by rw[z3,<- bd.oN s l];exact bd.Bx _ i b
theorem bd.rq(s:bd):∀l:ab<|Nat×bm,(s.fc l).cw=s.cw
 |[]=>rfl
 |(i,b)::l=>bd.rq s l
def bd.aaY(s:bd):∀l:ab<|Nat×bm,(s.fc l).w=l.map (·.1)++s.w
 |[]=>rfl
 |(i,b)::l=>by show i::(s.fc l).w=_;rw[bd.aaY s l];rfl
def bi.gg{γ:Type}(t:bi α)(f:α->bi β)(k:β->bi γ):(t.bind f).bind k=t.bind λa=>(f a).bind k:=by
 induction t with
 |fail=>rfl
 |leaf a=>rfl
 |br c x y hx bW=>simp only[bi.bind,hx,bW]
 |chk c x hx=>simp only[bi.bind,hx]
 |bo d o g hg=>simp only[bi.bind,hg]
 |cs d e o kn ij iD ax aX az=>simp only[bi.bind,ax,aX,az]
def bi.x7{β:Type}:au β->bi β
 |some b=>.leaf b
 |none=>.fail
def bi.Zs{o:au β}{k:β->bi ρ}{r:ρ}(h:((bi.x7 o).bind k).cf=J r):∃b,o=J b/\(k b).cf=J r:=by
 cases o with
 |none=>cases h
 |some b=>exact⟨b,rfl,h⟩
def bi.x9{α β:Type}(f:α->au β):∀(t:bi α),(t.ol f)=t.bind λa=>bi.x7 (f a)
 |.fail=>rfl
 |.leaf a=>by cases h:f a<;>simp only[bi.ol,bi.bind,bi.x7,h]
 |.br c x y=>by simp only[bi.ol,bi.bind,bi.x9 f x,bi.x9 f y]
 |.chk c x=>by simp only[bi.ol,bi.bind,bi.x9 f x]
 |.bo d o k=>by simp only[bi.ol];congr;funext a;exact bi.x9 f<|k a
 |.cs d e o kn ij iD=>by
  simp only[bi.ol];congr
  .funext a;exact bi.x9 f<|kn a
  .funext i a;exact bi.x9 f<|ij i a
  funext a;exact bi.x9 f<|iD a
def lJ{α:Type}:∀t:bi α,t.bind .leaf=t
 |.fail=>rfl
 |.leaf a=>rfl
 |.br c x y=>by simp only[bi.bind,lJ x,lJ y]
 |.chk c x=>by simp only[bi.bind,lJ x]
 |.bo d o k=>by simp only[bi.bind];congr;funext a;exact lJ<|k a
 |.cs d e o kn ij iD=>by
  simp only[bi.bind];congr
  .funext a;exact lJ<|kn a
  .funext i a;exact lJ<|ij i a
  funext a;exact lJ<|iD a
def bi.avP{d:α}{o:au α}{k:α->bi β}{r:β}(h:(bi.bo d o k).cf=J r):∃a,o=J a/\(k a).cf=J r:=by
 cases o with
 |none=>cases h
 |some a=>exact⟨a,rfl,h⟩
def vm(bX aT:bd):Prop:=(∀t,aT.cw t=bX.cw t\/aT.cw t=.bad\/∃ty x,aT.cw t=.sc ty x/\ju ty (bX.cw t)=J x)/\aT.bz=bX.bz
theorem vm.refl(s:bd):vm s s:=⟨λ_=>.inl rfl,rfl⟩
def vm.trans{bX aT eX:bd}(h:vm bX aT)(k:vm aT eX):vm bX eX:=by
 refine⟨λt => ?_,k.2.trans h.2⟩;rcases k.1 t with b4|b4|⟨ty,x,b4,cz⟩
 .rw[b4];exact h.1 t
 .grind
 rcases h.1 t with Y|Y|⟨aow,wQ,Y,ac⟩
 .grind
 .rw[Y]at cz;cases cz
 rw[Y]at cz;obtain⟨e,hx⟩:=w? cz
 grind
def eh.Te{phx:cV}{H:cX}{bX aT:bd}{a:Act}(h:eh phx H bX.bz bX.cw a)(bR:vm bX aT):eh phx H aT.bz aT.cw a:=by
 intro t;rw[bR.2];rcases bR.1 t with k|k|⟨ty,x,b4,cz⟩
 .rw[k];exact h t
 .rw[k];trivial
 rw[b4];exact o6 cz<|h t
def eQ(D:ab R)(s c':bd):Prop:=(∀t,t∉D->c'.cw t=s.cw t)/\∃gJ,c'.w=gJ++s.w/\∀id,id∉gJ->c'.bz id=s.bz id
theorem eQ.refl(D:ab R)(s:bd):eQ D s s:=⟨λ_ _=>rfl,[],rfl,λ_ _=>rfl⟩
def eQ.trans{bX aT eX:bd}(h:eQ D bX aT)(k:eQ le aT eX):eQ (D++le) bX eX:=by
 obtain⟨Y,gJ,ac,av⟩:=h;obtain⟨b4,aB0,cz,dw⟩:=k;refine⟨λt ht => ?_,aB0++gJ,by rw[cz,ac,kL],λid hid => ?_⟩
 .grind
 grind
def eQ.mono{s c':bd}(h:eQ D s c')(a?:∀t,t∈D->t∈le):eQ le s c':=⟨λt ht=>h.1 t λaA=>ht<|a? t aA,h.2⟩
theorem eQ.sub{E:ab R}{bX aT eX:bd}(h:eQ D bX aT)(k:eQ le aT eX)(a?:∀t,t∈D->t∈E)(vR:∀t,t∈le->t∈E):eQ E bX eX:=
 (h.trans k).mono λt ht=>(i7.1 ht).elim (a? t)<|vR t
def eQ.mJ{s:bd}(i:R)(v:aP)(h:i∈D):eQ D s<|s.mJ i v:=
 ⟨λt ht=>s.xm v λe=>ht<|e▸h,[],rfl,λ_ _=>rfl⟩
def eQ.fc{s:bd}(l:ab<|Nat×bm)(D:ab R):eQ D s<|s.fc l:=by
 refine⟨λt _=>by rw[bd.rq],l.map (·.1),bd.aaY s l,λid hid => ?_⟩;rw[bd.oN];have:∀(l:ab<|Nat×bm) (d:bm),id∉l.map (·.1)->oX l id d=d:=by
  intro l d h;induction l with
  |nil=>rfl
  |cons p l ih=>
   grind [oX,iY]
 exact this l _ hid
def ab7:∀(l:ab R) (s:bd),∃c':bd,c'.bz=s.bz/\c'.w=s.w/\(∀t,t∉l->c'.cw t=s.cw t)/\(∀t,t∈l->c'.cw t=.bad)/\(∀(γ:Type 1) (k:bd->γ),Me s l k=k c')
 |[],s=>⟨s,rfl,rfl,λ_ _=>rfl,λt h=>aLm,λ_ _=>rfl⟩
 |i::l,s=>by
  obtain⟨c',Y,ac,av,aJ,bv⟩:=ab7 l<|s.mJ i .bad;refine⟨c',Y,ac,λt ht => ?_,λt ht => ?_,λγ k => ?_⟩
  .simp at ht
   rw[av t ht.2,s.xm _ ht.1]
  .by_cases hl:t∈l
   .grind
   have:=by simpa[hl]using ht
   subst this;rw[av t hl];rcases s.Ix t .bad with h|h<;>exact h
  grind [Me,bd.Ly]
def afx(l:ab bd):∀(keep:ab R),∃ks:ab<|Nat×aw,(∀p∈ks,p.1∈keep)/\∀(γ:Type 1) (k:ab (R×aw)->γ),y' l keep k=k ks
 |[]=>⟨[],λp h=>aLm,λ_ _=>rfl⟩
 |i::keep=>by
  obtain⟨ks,Y,ac⟩:=afx l keep;cases l with
  |nil=>exact⟨[],λp h=>aLm,λ_ _=>rfl⟩
  |cons s m=>
   cases ht:abQ (s.cw i) with
   |none=>exact⟨ks,λp hp=>yO _<|Y p hp,λγ k=>by simp only[y',ht];exact ac γ k⟩
   |some t=>
    cases aA:m.all (am5 i t) with
    |true=>
     refine⟨(i,t)::ks,λp hp => ?_,λγ k => ?_⟩
     .grind
     grind [y',Ou]
    |false=>
     refine⟨ks,λp hp=>yO _<|Y p hp,λγ k => ?_⟩
     grind [y']
def anj:∀(ks:ab<|Nat×aw) (p:En ks) (s:bd),∃c':bd,c'.bz=s.bz/\c'.w=s.w/\(∀t,t∉ks.map (·.1)->c'.cw t=s.cw t) /\
  (∀bX:bd,s' bX ks=J p->∀t,t∈ks.map (·.1)->c'.cw t=.bad\/∃ty x,c'.cw t=.sc ty x/\ju ty (bX.cw t)=J x)/\(∀(γ:Type 1) (k:bd->γ),Sr s k ks p=k c')
 |[],p,s=>⟨s,rfl,rfl,λ_ _=>rfl,λ_ _ t h=>aLm,λ_ _=>rfl⟩
 |(i,ty)::ks,p,s=>by
  obtain⟨c',Y,ac,av,aJ,bv⟩:=anj ks p.2<|s.mJ i<|.sc ty p.1;refine⟨c',Y,ac,λt ht => ?_,λbX hs t ht => ?_,λγ k => ?_⟩
  .simp only[A1,mU,not_or]at ht
   rw[av t ht.2,s.xm _ ht.1]
  .have hg:ju ty (bX.cw i)=J p.1/\s' bX ks=J p.2:=by
    simp only[s']at hs;cases b6:ju ty (bX.cw i) with
    |none=>rw[b6]at hs;cases hs
    |some x=>
     cases ak:s' bX ks with
     |none=>rw[b6,ak]at hs;cases hs
     |some y=>rw[b6,ak]at hs;cases hs;exact aNB
   by_cases hl:t∈ks.map (·.1)
   .exact aJ bX hg.2 t hl
   have:t=i:=by simpa[hl]using ht
   subst this;rw[av t hl];rcases s.Ix t (.sc ty p.1) with h|h
   .exact .inr ⟨ty,p.1,h,hg.1⟩
   exact .inl h
  simp only[Sr,bd.Ly];exact bv γ k
def Mu(D:ab R)(s bX:bd):Prop:=
 (∀t,t∉D->s.cw t=bX.cw t\/∃ty x,s.cw t=.sc ty x/\ju ty (bX.cw t)=J x)/\∃gJ,bX.w=gJ++s.w/\∀id,id∉gJ->bX.bz id=s.bz id
def eQ.awz{s bX:bd}(h:eQ D s bX):Mu D s bX:=⟨λt ht=>.inl (h.1 t ht).symm,h.2⟩
def YB{s:bd}{all keep:ab R}(aB:∀t,t∈keep->t∈all){t:bi bd}{k:bd->bi ρ}{r:ρ}(h:((JE s all keep t).bind k).cf=J r):
  (t.bind k).cf=J r \/
  ∃(ks:ab<|Nat×aw) (p:En ks),(t.bind λbX=>bi.x7<|bif cT bX.w.length s.w.length then s' bX ks else aq).cf=J p /\
   ∀bX,Mu all s bX->bX.w.length=s.w.length->s' bX ks=J p->∃aT,vm bX aT/\eQ all s aT/\(k aT).cf=J r:=by
 unfold JE at h;rw[bi.ajq]at h;cases aA:t.pE.all (ajb s keep) with
 |false=>rw[aA]at h;exact .inl h
 |true=>
  rw[aA,km]at h;obtain⟨ks,ayJ,ax4⟩:=afx t.pE keep;rw[ax4]at h;cases bN:cT (T ks) 0 with
  |true=>rw[bN,km]at h;exact .inl h
  |false=>
   rw[bN,k1]at h;simp only[bi.bind]at h;obtain⟨p,hp,h⟩:=bi.avP h;rw[bi.x9]at hp;refine .inr ⟨ks,p,hp,λbX hf bR hg => ?_⟩;obtain⟨c',cW,dp,fQ,h3,wP⟩:=ab7 all s;obtain⟨aT,b4,cz,dw,f6,hj⟩:=anj ks p c';rw[wP,hj]at h;have a4:bX.bz=s.bz:=by
    obtain⟨_,gJ,Y,ac⟩:=hf;have:gJ=[]:=by have:=d4 T Y;rw[d7]at this;exact mW.1 V
    subst this;funext id;exact ac id bP
   have ayI:∀t,t∈ks.map (·.1)->t∈all:=λt ht=>by obtain⟨q,bD,rfl⟩:=DR.1 ht;exact aB _<|ayJ q bD
   refine⟨aT,⟨λt => ?_,by rw[b4,cW,a4]⟩,⟨λt E8 => ?_,[],by rw[cz,dp];rfl,λid _=>by rw[b4,cW]⟩,h⟩
   .by_cases aig:t∈ks.map (·.1)
    .rcases f6 bX hg t aig with h|h
     .exact .inr (.inl h)
     exact .inr<|.inr h
    rw[dw t aig];by_cases E8:t∈all
    .exact .inr (.inl<|h3 t E8)
    rw[fQ t E8];rcases hf.1 t E8 with h|h
    .exact .inl h
    exact .inr<|.inr h
   rw[dw t λaA=>E8<|ayI t aA,fQ t E8]
def vh:=@List.mem_filter
def TK:=@Nat.testBit_or
structure fU where
 i:R
 o:c7
 v:aP
 al:aE
 rb:ab R
 wr:ab<|Nat×bm
def lV(g:R->aP)(dD:au R)(v:aP):R->aP:=match dD with|some d=>qw g d v|none=>g
def kG(s:bd)(dD:au R)(v:aP):bd:=match dD with|some d=>s.mJ d v|none=>s
def gt:ab fU->(R->aE)->(R->aP)->R->aP
 |[],_,g=>g
 |e::b8,L,g=>gt b8 L<|bif L e.i then lV g e.o.dst e.v else g
def e5:ab fU->(R->aE)->(R->bm)->R->bm
 |[],_,B=>B
 |e::b8,L,B=>e5 b8 L<|bif L e.i then en B e.wr else B
def yV(ops:ab c7)(o:c7)(g:R->aP):Prop:=o.guard=aq\/∃j nn d,o.guard=J (j,nn)/\(ops[j]?).bind (·.dst)=J d/\g d=.kb nn
def Hg(ops:ab c7)(o:c7)(g:R->aP):Prop:=∃j nn d,o.guard=J (j,nn)/\(ops[j]?).bind (·.dst)=J d/\(g d=.kb (!nn)\/g d=.undef)
def t2(gm v:aP):Prop:=v=gm\/∃c,gm=.sc .bool c/\v=.kb c
def WN(g:R->aP):fS->aP
 |.tmp t=>g t
 |.func f=>.clo f 0 []
 |_=>.bad
def yG(E:dO)(ops:ab c7)(o:c7)(g:R->aP)(B:R->bm)(gm:aP)(rb:ab R)(wr:ab<|Nat×bm):Prop:=
 ∃(F eG:R) (dy:ab jw) (ul:g3) (bE:ab aP) (s aT:bd) (f:fS) (args:cO fS) (e?:cO cD) (cQ:R),o.op=.call ⟨.value f,args,e?⟩/\E.I F=J ul/\aad ops o f=af/\WN g f=.clo F eG dy /\
  (∀bT cJ,(∀t,g' (lB ops o) t=af->bT t=g t)->(nb e3 args.toList).bC bT cJ=J (bE,cJ))/\(∀id,id∈sd s++wr.map (·.1)->s.bz id=B id)/\HV s (xa eG dy bE)=af/\(ul cQ (xa eG dy bE) s).cf=J (gm,aT)/\wr=o8 s aT/\rb=sd s
def Ms(E:dO)(ops:ab c7)(nt:R)(dX:aE)(g:R->aP)(B:R->bm)(e:fU):Prop:=
 (∀d,e.o.dst=J d->d<nt) /\
 ((yV ops e.o g/\∃gm,t2 gm e.v/\(tv E e.o).bC g B=J (gm,en B e.wr) /\
  (dX=af->∀bT cJ,(∀t,g' (lB ops e.o) t=af->bT t=g t)->(∀id,id∈e.rb->cJ id=B id)->(tv E e.o).bC bT cJ=J (gm,en cJ e.wr))) \/
  (Hg ops e.o g/\e.v=.undef/\e.wr=[]/\e.rb=[]) \/
  (dX=af/\yV ops e.o g/\∃gm,t2 gm e.v/\yG E ops e.o g B gm e.rb e.wr))
def yU(E:dO)(ops:ab c7)(nt:R)(dX:aE):ab fU->(R->aP)->(R->bm)->Prop
 |[],_,_=>True
 |e::b8,g,B=>Ms E ops nt dX g B e/\yU E ops nt dX b8 (lV g e.o.dst e.v) (en B e.wr)
def oL:ab fU->ab pW
 |[]=>[]
 |e::b8=>(match e.al,e.rb,e.wr with|false,[],[]=>oL b8|_,_,_=>⟨e.i,e.al,e.rb,e.wr.map (·.1)⟩::oL b8)
def aR.amu(s:bd)(m:aR α):∀(gj:R) (gb:ab R) (wr:ab<|Nat×bm) (k:α×TB->bi β) (r:β),((m.run s gj gb wr).bind k).cf=J r ->
  ∃a e,(k (a,e)).cf=J r/\m.bC s.cw (en s.bz wr)=J (a,en s.bz e.wr) /\
   (∀bT cJ,(∀t,g' e.rt t=af->bT t=s.cw t)->(∀id,id∈e.rb->cJ id=s.bz id)->m.bC bT (en cJ wr)=J (a,en cJ e.wr)) /\
   (∀t,g' gj t=af->g' e.rt t=af)/\(∀id,id∈gb->id∈e.rb):=by
 induction m with
 |fail=>intro gj gb wr k r h;cases h
 |ret a=>intro gj gb wr k r h;exact⟨a,_,h,rfl,λ_ _ _ _=>rfl,λ_ h=>h,λ_ h=>h⟩
 |chk c m ih=>
  intro gj gb wr k r h;exact aLy
 |br c x y hx bW=>
  intro gj gb wr k r h;exact aK0
 |bo d o m ih=>
  intro gj gb wr k r h;exact aNM
 |rt i m ih =>intro gj gb wr k r h;obtain⟨a,e,Y,ac,av,aJ,bv⟩:=ih (s.cw i) (gj|||2^i) gb wr k r h;have ao:g' e.rt i=af:=aJ i (by simp[TK]);refine⟨a,e,Y,ac,λbT cJ hg ak => ?_,λt ht=>aJ t<|by simp[TK,ht],bv⟩;simp only[aR.bC];rw[hg i ao];exact av bT cJ hg ak
 |rb i m ih=>
  intro gj gb wr k r h;obtain⟨a,e,Y,ac,av,aJ,bv⟩:=ih (oX wr i<|s.bz i) gj (i::gb) wr k r h;have ao:i∈e.rb:=bv i bP;refine⟨a,e,Y,ac,λbT cJ hg ak => ?_,aJ,λid hid=>bv id<|by simp[hid]⟩;simp only[aR.bC];have:en cJ wr i=oX wr i (s.bz i):=by unfold en;rw[ak i ao]
  rw[this];exact av bT cJ hg ak
 |fk i b m ih=>
  intro gj gb wr k r h;obtain⟨a,e,Y,ac,av,aJ,bv⟩:=ih gj gb ((i,b)::wr) k r h;refine⟨a,e,Y,?_,λbT cJ hg ak => ?_,aJ,bv⟩
  .simp only[aR.bC];rw[<- z3];exact ac
  simp only[aR.bC];rw[<- z3];exact av bT cJ hg ak
def wD{dD:au R}{s:bd}{v:aP}{zK:bd->bi α}{k:α->bi β}{r:β}(h:((js nt dD s v zK).bind k).cf=J r):
  (∀d,dD=J d->d<nt)/\((zK<|kG s dD v).bind k).cf=J r:=by
 cases dD with
 |none=>exact⟨λd h=>by(cases h),h⟩
 |some d=>
  simp only[js]at h;cases a?:hv d nt with
  |false=>rw[a?]at h;cases h
  |true =>rw[a?,bd.Ly]at h;exact⟨λy? ce=>by cases ce;simpa using a?,h⟩
theorem tB{s:bd}{dD:au R}{v:aP}(fg:nt<=1000000)(a?:∀d,dD=J d->d<nt):(kG s dD v).cw=lV s.cw dD v:=by
 cases dD with
 |none=>rfl
 |some d=>exact s.awQ v<|ge (a? d rfl) fg
def mH{s:bd}{dD:au R}{v:aP}:(kG s dD v).bz=s.bz:=by cases dD<;>rfl
def Qq{s:bd}{dD:au R}{v:aP}:(kG s dD v).w=s.w:=by cases dD<;>rfl
def yd{s:bd}{dD:au R}{v:aP}(h:∀d,dD=J d->d∈D):eQ D s<|kG s dD v:=by
 cases dD with
 |none=>exact eQ.refl D s
 |some d=>exact eQ.mJ d v<|h d rfl
def ahk{ops:ab c7}{o:c7}{s:bd}{Ie skip:bi bd}{k:bd->bi ρ}{r:ρ}(h:((OY ops o s Ie skip).bind k).cf=J r):
  (yV ops o s.cw/\(Ie.bind k).cf=J r)\/(Hg ops o s.cw/\(skip.bind k).cf=J r):=by
 unfold OY at h;cases hg:o.guard with
 |none=>rw[hg]at h;exact .inl ⟨.inl hg,h⟩
 |some aAH=>
  obtain⟨j,nn⟩:=aAH;rw[hg]at h;simp only at h;cases a?:(ops[j]?).bind (·.dst) with
  |none=>rw[a?]at h;cases h
  |some g=>
   rw[a?]at h;simp only at h;cases a3:s.cw g<;>rw[a3]at h<;>try(cases h)
   .exact .inr ⟨⟨j,nn,g,hg,a?,.inr a3⟩,h⟩
   rename_i b;cases b<;>cases nn
   .exact .inl ⟨.inr ⟨j,_,g,hg,a?,a3⟩,h⟩
   .exact .inr ⟨⟨j,_,g,hg,a?,.inl a3⟩,h⟩
   .exact .inr ⟨⟨j,_,g,hg,a?,.inl a3⟩,h⟩
   exact .inl ⟨.inr ⟨j,_,g,hg,a?,a3⟩,h⟩
def vI(o:c7)(rest:ab c7):(∀d,o.dst=J d->d∈fD (o::rest))/\∀t,t∈fD rest->t∈fD (o::rest):=by
 grind [fD]
def adv{v:aP}(h:vB v=J c):v=.sc .bool c:=by
 unfold vB at h;split at h
 .cases h;rfl
 cases h
def Hf(E:dO)(ops:ab c7)(nt:R)(dX:aE)(i:R)(l:ab c7)(s:bd)(iC:ab pW)(aT:bd):Prop:=
 ∃(b8:ab fU) (bX:bd),b8.map (·.i)=List.range' i (T l)/\b8.map (·.o)=l/\yU E ops nt dX b8 s.cw s.bz/\bX.cw=gt b8 (λ_=>af) s.cw/\bX.bz=e5 b8 (λ_=>af) s.bz /\
  vm bX aT/\eQ (fD l) s aT/\(dX=af->Li ops=af/\sr (m1 ops []) (iC.reverse++oL b8)=af)
theorem agQ{e:fU}{b8:ab fU}{iC:ab pW}{b:ab R}(b6:e.al=ag)(h:sr b ((s_ af e.i e.rb e.wr iC).reverse++oL b8)=af):sr b (iC.reverse++oL (e::b8))=af:=by
 grind [s_,oL]
def aaU{E:dO}{ops:ab c7}{o:c7}{rest:ab c7}{s lC:bd}{iC agS:ab pW}{aT:bd}{e:fU}(fg:nt<=1000000)(ao:e.i=i)(bg:e.o=o)(jo:Ms E ops nt dX s.cw s.bz e)
  (hT:lC.cw=lV s.cw o.dst e.v) (a4:lC.bz=en s.bz e.wr) (dY:eQ (fD<|o::rest) s lC)
  (ayq:dX=af->∀(b:ab R) (b8:ab fU),sr b (agS.reverse++oL b8)=af->sr b (iC.reverse++oL (e::b8))=af) (h:Hf E ops nt dX (i+1) rest lC agS aT):Hf E ops nt dX i (o::rest) s iC aT:=by
 obtain⟨b8,bX,Y,ac,av,aJ,bv,c_,eJ,cH⟩:=h;have a?:=vI o rest;refine⟨e::b8,bX,?_,?_,⟨jo,?_⟩,?_,?_,c_,dY.sub eJ (λt h=>h) a?.2,λh'=>⟨(cH h').1,ayq h' _ b8 (cH h').2⟩⟩
 .grind [List.range'_succ]
 .grind
 .grind
 .grind [gt]
 grind [e5]
def bi.zd{α β:Type}{k:α->bi β}{r:β}:∀(t:bi α),(t.bind k).cf=J r->∃a,t.cf=J a/\(k a).cf=J r
 |.leaf a,h=>⟨a,rfl,h⟩
 |.br c x y,h=>by
  cases c with
  |true=>exact bi.zd x h
  |false=>exact bi.zd y h
 |.chk c x,h=>by
  cases c with
  |true=>exact bi.zd x h
  |false=>cases h
 |.bo d o f,h=>by
  cases o with
  |none=>cases h
  |some a=>exact bi.zd (f a) h
 |.cs d e o kn ij iD,h=>by
  cases o with
  |none=>cases h
  |some l=>
   cases l with
   |nx a=>exact bi.zd (kn a) h
   |ex i a=>exact bi.zd (ij i a) h
   |rt a=>exact bi.zd (iD a) h
def aIw(s:bd)(f:fS):EH s f=WN s.cw f:=by cases f<;>rfl
def aAt{E:dO}{ops:ab c7}{o:c7}{s:bd}{t:bi<|aP×bd}{p:aP×bd}(h:Pp E ops o s=J t)(hp:t.cf=J p):yG E ops o s.cw s.bz p.1 (sd s)<|o8 s p.2:=by
 unfold Pp at h;split at h
 .rename_i f args e? xI
  split at h
  .rename_i F eG dy hf
   split at h
   .rename_i ul eD
    cases h;rw[<- lJ (bi.bind _ _),bi.gg]at hp;obtain⟨bE,hR,Y,ac,av,_,_⟩:=aR.amu s (nb e3 args.toList) 0 [] [] _ p hp;rw[lJ]at Y;cases aA:(cT (hR.rt|||lB ops o) (lB ops o)&&(aj6 hR.wr&&(aj5 hR.rb&&(aad ops o f&&HV s (xa eG dy bE))))) with
    |false=>rw[aA]at Y;cases Y
    |true=>
     rw[aA]at Y;simp only[d5]at aA;obtain⟨c1,c2,lK,fK,c5⟩:=aA;have vX:hR.rb=[]:=by
      cases bR:hR.rb with
      |nil=>rfl
      |cons x y=>rw[bR]at lK;cases lK
     have E':hR.wr=[]:=by
      cases bR:hR.wr with
      |nil=>rfl
      |cons x y=>rw[bR]at c2;cases c2
     refine⟨F,eG,dy,ul,bE,s,p.2,f,args,e?,_,xI,eD,fK,by exact hf,λbT cJ hg => ?_,λ_ _=>rfl,c5,Y,rfl,rfl⟩;have zz:∀t,g' hR.rt t=af->g' (lB ops o) t=af:=λt ht=>aK3
     have:=av bT cJ (λt ht=>hg t<|zz t ht) (λid hid=>by rw[vX]at hid;cases hid);rw[E']at this;exact this
   cases h
  cases h
 cases h
def amp{E:dO}{ops:ab c7}(fg:nt<=1000000):∀(l:ab c7) (top:aE) (i:R) (s:bd) (iC:ab pW) {ρ:Type} (k:bd->bi ρ) (r:ρ),
  ((pQ E ops nv nt dX top i l s iC).bind k).cf=J r->∃aT,Hf E ops nt dX i l s iC aT/\(k aT).cf=J r:=by
 intro l;induction l with
 |nil=>
  intro top i s iC ρ k r h;simp only[pQ]at h;cases aA:(!dX||(Li ops&&sr (m1 ops []) iC.reverse)) with
  |false=>rw[aA]at h;cases h
  |true=>
   rw[aA]at h;refine⟨s,⟨[],s,rfl,rfl,trivial,rfl,rfl,vm.refl s,eQ.refl _ s,λa? => ?_⟩,h⟩
   grind [oL]
 |cons o rest ih=>
  intro top i s iC ρ k r h;have a?:=vI o rest;rcases ahk h with⟨bR,h⟩|⟨bR,h⟩
  .cases dP:(bif dX then Pp E ops o s else aq) with
   |some t=>
    rw[dP]at h;rw[bi.gg]at h;obtain⟨p,hp,h⟩:=bi.zd _ h;cases h':dX with
    |false=>rw[h']at dP;cases dP
    |true=>
    rw[h']at dP;have jo:=aAt dP hp;cases ah7:g' (zi ops) i with
    |true=>rw[ah7]at h;cases h
    |false=>
    rw[ah7]at h;simp only[bd.Lx,zf]at h;obtain⟨hd,h⟩:=wD h;obtain⟨aT,az,aB⟩:=ih top (i+1) _ _ k r h;subst h';refine⟨aT,aaU (e:=⟨i,o,p.1,ag,sd s,o8 s p.2⟩) fg rfl rfl ⟨hd,.inr<|.inr ⟨rfl,bR,p.1,.inl rfl,jo⟩⟩ ?_ ?_ ?_ ?_ az,aB⟩
    .grind [tB,bd.rq]
    .rw[mH,bd.oN]
    .exact(eQ.fc _ _).sub (yd a?.1) (λt h=>h) (λt h=>h)
    grind [agQ]
   |none=>
   rw[dP]at h;rw[bi.gg]at h;obtain⟨v,hR,h,th,Je,_,_⟩:=aR.amu s (tv E o) 0 [] [] _ r h;simp only[bd.Lx,zf]at h;cases kd:(dX && !(cT (hR.rt|||lB ops o)<|lB ops o)) with
   |true=>rw[kd]at h;cases h
   |false=>
    rw[kd,k1]at h;have zz:dX=af->∀t,g' hR.rt t=af->g' (lB ops o) t=af:=aK3
    have ayP:dX=af->∀bT cJ,(∀t,g' (lB ops o) t=af->bT t=s.cw t)->(∀id,id∈hR.rb->cJ id=s.bz id)->(tv E o).bC bT cJ=J (v,en cJ hR.wr):=
     λh' bT cJ hg ak=>Je bT cJ (λt ht=>hg t<|zz h' t ht) ak
    have avQ:∀dH,t2 v dH->(∀d,o.dst=J d->d<nt)->Ms E ops nt dX s.cw s.bz ⟨i,o,dH,ag,hR.rb,hR.wr⟩:=λdH hs hd=>⟨hd,.inl ⟨bR,v,hs,th,ayP⟩⟩;have aIV:(s.fc hR.wr).cw=s.cw:=bd.rq s _;have azw:(s.fc hR.wr).bz=en s.bz hR.wr:=bd.oN s _;have awn:∀dH,dX=af->∀(b:ab R) (b8:ab fU),sr b ((s_ dX i hR.rb hR.wr iC).reverse++oL b8)=af->sr b (iC.reverse++oL (⟨i,o,dH,ag,hR.rb,hR.wr⟩::b8))=af:=by
     grind [agQ]
    have AL:∀(dH:aP) (Dq:aE) {ρ:Type} (k:bd->bi ρ) (r:ρ),t2 v dH->((js nt o.dst (s.fc hR.wr) dH λs=>pQ E ops nv nt dX Dq (i+1) rest s<|s_ dX i hR.rb hR.wr iC).bind k).cf=J r ->
      ∃aT,Hf E ops nt dX i (o::rest) s iC aT/\(k aT).cf=J r/\eQ (fD rest) (kG (s.fc hR.wr) o.dst dH) aT/\(∀d,o.dst=J d->d<nt):=by
     intro dH Dq ρ k r hs h;obtain⟨hd,h⟩:=wD h;obtain⟨aT,az,aB⟩:=ih Dq (i+1) _ _ k r h;refine⟨aT,aaU fg rfl rfl (avQ dH hs hd) ?_ ?_ ?_ (awn dH) az,aB,?_,hd⟩
     .grind [tB]
     .rw[mH,azw]
     .exact(eQ.fc hR.wr _).sub (yd a?.1) (λt h=>h) (λt h=>h)
     obtain⟨b8,bX,_,_,_,_,_,_,eJ,_⟩:=az;exact eJ
    cases hg:(g' (zi ops) i&&(vB v).isSome) with
    |false =>rw[hg,k1]at h;obtain⟨aT,Y,ac,_⟩:=AL v top k r (.inl rfl) h;exact⟨aT,Y,ac⟩
    |true=>
     rw[hg,km]at h;cases ak:vB v with
     |none=>exact aNC
     |some c=>
      rw[ak]at h;have a3:=adv ak;have two:∀{ρ:Type} (k:bd->bi ρ) (r:ρ),((bi.br c (js nt o.dst (s.fc hR.wr) (.kb af) λs=>pQ E ops nv nt dX ag (i+1) rest s<|s_ dX i hR.rb hR.wr iC)<|js nt o.dst (s.fc hR.wr) (.kb ag) λs=>pQ E ops nv nt dX ag (i+1) rest s<|s_ dX i hR.rb hR.wr iC).bind k).cf=J r ->
        ∃aT,Hf E ops nt dX i (o::rest) s iC aT/\(k aT).cf=J r/\eQ (fD rest) (kG (s.fc hR.wr) o.dst<|.kb c) aT/\(∀d,o.dst=J d->d<nt):=by
       intro ρ k r h;cases c with
       |true=>exact AL (.kb af) ag k r (.inr ⟨af,a3,rfl⟩) h
       |false=>exact AL (.kb ag) ag k r (.inr ⟨ag,a3,rfl⟩) h
      cases top with
      |false=>
       grind
      |true=>
       obtain⟨hd,h⟩:=wD h;rcases YB (λt ht=>(vh.1 ht).1) h with h|⟨ks,p,hp,hrest⟩
       .grind
       obtain⟨aT,⟨b8,bX,cn,cR,da,d9,fO,nQ,tC,j2⟩,ac,av,_⟩:=two _ p hp;obtain⟨tz,q4,jF⟩:∃tz,(bif cT aT.w.length (kG (s.fc hR.wr) o.dst<|.sc .bool c).w.length then s' aT ks else aq)=J tz/\(bi.leaf tz).cf=J p:=by simp_all[lJ,bi.Zs]
       cases jF;cases cP:cT aT.w.length (kG (s.fc hR.wr) o.dst<|.sc .bool c).w.length with
       |false=>rw[cP]at q4;cases q4
       |true=>
        rw[cP,km]at q4;have XG:Mu (fD rest) (kG (s.fc hR.wr) o.dst<|.sc .bool c) aT:=by
         obtain⟨f1,gJ,f2,f3⟩:=av;refine⟨λt ht => ?_,gJ,by rw[f2,Qq,Qq],λid hid=>by rw[f3 id hid,mH,mH]⟩;rw[f1 t ht,tB fg hd,tB fg hd];cases aye:o.dst with
         |none=>exact aKB
         |some d=>
          by_cases BX:t=d
          .right
           refine⟨.bool,c,by simp[lV,qw,BX],?_⟩;simp only[lV,qw,BX];rfl
          simp[lV,qw,BX]
        obtain⟨eX,cW,dp,fQ⟩:=hrest aT XG (iM cP) q4;refine⟨eX,⟨b8,bX,cn,cR,da,d9,fO,nQ.trans cW,?_,j2⟩,fQ⟩;exact((eQ.fc hR.wr _).sub (yd a?.1) (λt h=>h)<|λt h=>h).sub dp (λt h=>h) a?.2
  obtain⟨hd,h⟩:=wD h;obtain⟨aT,az,aB⟩:=ih top (i+1) _ iC k r h;refine⟨aT,aaU (e:=⟨i,o,.undef,ag,[],[]⟩) fg rfl rfl ⟨hd,.inr<|.inl ⟨bR,rfl,rfl,rfl⟩⟩ ?_ ?_ (yd a?.1) (λ_ b b8 h=>h) az,aB⟩
  .rw[tB fg hd]
  rw[mH];rfl
end Yp
namespace Yp
open Go
def nZ:=@List.mem_singleton
def DL:=@List.not_mem_nil
def Ua:=@List.mem_flatMap
section
variable {phx phx':cV} {H H':cX} {B B':R->bm}
def kM.jb:∀{l:ab jw} {vs:ab aS},(∀id,id∈uP l->(B id).jH=af->phx' id=phx id)->H.cU H'->(∀id,id∈uP l->(B id).cU (B' id))->kM phx H B l vs->kM phx' H' B' l vs
 |[],_,_,_,_,h=>h
 |.jA t x::l,vs,eN,c6,a4,⟨v,eV,h,⟨cs,Y,ac⟩,av⟩=>⟨v,eV,h,⟨cs,Y.mono c6,ac⟩,kM.jb (l:=l) eN c6 a4 av⟩
 |.ptr id p::l,vs,eN,c6,a4,⟨v,eV,h,Y,av⟩=>by
  refine⟨v,eV,h,?_,kM.jb (l:=l) (λj aF=>eN j<|by simp[uP,aF]) c6 (λj aF=>a4 j<|by simp[uP,aF]) av⟩;have ak:=a4 id (by simp[uP]);have hf:=eN id (by simp[uP]);simp only[w5]at Y ⊢;cases kQ:B id<;>cases hb1:B' id<;>simp only[kQ,hb1,bm.jH]at ak hf Y ⊢ <;> try(first|exact Y.elim|exact ak.elim|trivial)
  all_goals first
   |(subst ak;rw[hf trivial];exact Y)
   |(obtain⟨b,o,n,b0,bT⟩:=Y;exact⟨b,o,n,(hf trivial).trans b0,bT⟩)
   | (
    obtain⟨b,o,n,off,t',b0,bT,dE⟩:=Y;exact⟨b,o,n,(hf trivial).trans b0,λhp=>by subst hp;simp only[aw.e2,jN,mV]at bT;rw[dE,<- bT.1];rfl⟩)
def kM.old:∀{l:ab jw} {vs:ab aS},kM phx H B l vs->∀id,id∈uP l->B id ≠ .new
 |.jA t x::l,vs,⟨v,eV,h,_,av⟩,id,ao=>kM.old (l:=l) av id ao
 |.ptr j p::l,vs,⟨v,eV,h,Y,av⟩,id,ao=>by
  simp only[uP,mU]at ao;rcases ao with rfl|ao
  .grind [w5]
  exact kM.old (l:=l) av id ao
def ci.jb{pv:aP}(eN:∀id,id∈eP pv->(B id).jH=af->phx' id=phx id)(c6:H.cU H')(a4:∀id,id∈eP pv->(B id).cU (B' id)){v:aS}(h:ci phx H B pv v):ci phx' H' B' pv v:=by
 have key:∀B5:R,(∀id,id∈eP pv->id=B5)->B5∈eP pv->ci phx' H' B' pv v:=λB5 Y ac=>by
  have azm:∀id,(B id).jH=af->(λj=>if j=B5 then phx' j else phx j) id=phx id:=λid hl=>by
   grind
  have lq:∀id,(B id).cU<|(λj=>if j=B5 then B' j else B j) id:=λid=>by
   grind [bm.cU.refl]
  have:=ci.mono (phx':=λj=>if j=B5 then phx' j else phx j) (H':=H') (B':=λj=>if j=B5 then B' j else B j) azm c6 lq h;cases pv<;>simp only[eP,nZ,DL]at Y ac<;>(try exact ac.elim)
  all_goals (first|(subst ac;simpa[ci,iO,vj]using this)|exact this.elim|(obtain⟨vs,b0,bT⟩:=h;exact⟨vs,b0.jb eN c6 a4,bT⟩))
 cases pv with
 |own id fm=>exact ab_
 |osl id o n=>exact ab_
 |ptr id p=>exact ab_
 |opt id i p=>exact ab_
 |itp id=>exact ab_
 |mpp id=>exact ab_
 |psl id n=>exact ab_
 |clo f eG dy=>obtain⟨vs,b0,bT⟩:=h;exact⟨vs,b0.jb eN c6 a4,bT⟩
 |ifc i t x=>exact aG_
 |csl e l=>exact aO8
 |ipt e l i p=>exact aMm
 |_=>exact h
def fX.jb:∀{pv:aP} {t:aw} {cs:ab aS},(∀id,id∈eP pv->(B id).jH=af->phx' id=phx id)->H.cU H'->(∀id,id∈eP pv->(B id).cU (B' id))->fX phx H B pv t cs->fX phx' H' B' pv t cs:=by
 intro pv;induction pv with
 |two u v bq a3=>
  intro t cs eN c6 a4 h;cases t<;>simp only[fX]at h ⊢ <;> try exact h
  grind [eP]
 |sc t' x=>intro t cs eN c6 a4 h;obtain⟨aC,h⟩:=h;exact⟨aC,h.mono c6⟩
 |agg t a=>intro t cs eN c6 a4 h;exact h
 |tup a=>intro t cs eN c6 a4 h;exact h
 |bad=>intro t cs eN c6 a4 h;exact h
 |_=>intro t cs eN c6 a4 h;obtain⟨aC,v,Y,ac,av⟩:=h;exact⟨aC,v,Y,ac,ci.jb eN c6 a4 av⟩
def eR.jb{pv:aP}(eN:∀id,id∈eP pv->(B id).jH=af->phx' id=phx id)(c6:H.cU H')(a4:∀id,id∈eP pv->(B id).cU (B' id)){v:aS}(h:eR phx H B pv v):eR phx' H' B' pv v:=by
 cases pv with
 |sc t x=>exact aG_
 |agg t a=>obtain⟨aC,cs,Y,ac⟩:=h;exact⟨aC,cs,fX.jb eN c6 a4 Y,ac⟩
 |_=>simp only[eR]at h ⊢;exact ci.jb eN c6 a4 h
def mZ.jb:∀{pv:aP} {vs:ab aS},(∀id,id∈eP pv->(B id).jH=af->phx' id=phx id)->H.cU H'->(∀id,id∈eP pv->(B id).cU (B' id))->mZ phx H B pv vs->mZ phx' H' B' pv vs:=by
 intro pv;induction pv with
 |two u r bq az =>intro vs eN c6 a4 h;obtain⟨v,eV,aC,Y,ac⟩:=h;exact⟨v,eV,aC,eR.jb (λid ao=>eN id<|by simp[eP,ao]) c6 (λid ao=>a4 id<|by simp[eP,ao]) Y,az (λid ao=>eN id<|by simp[eP,ao]) c6 (λid ao=>a4 id<|by simp[eP,ao]) ac⟩
 |sc t x=>intro vs eN c6 a4 h;cases t<;>exact h
 |_=>intro vs eN c6 a4 h;exact h
def bI.jb{pv:aP}(eN:∀id,id∈eP pv->(B id).jH=af->phx' id=phx id)(c6:H.cU H')(a4:∀id,id∈eP pv->(B id).cU (B' id)){v:aS}(h:bI phx H B pv v):bI phx' H' B' pv v:=by
 cases pv with
 |tup a=>obtain⟨vs,Y,ac⟩:=h;exact⟨vs,mZ.jb eN c6 a4 Y,ac⟩
 |_=>simp only[bI]at h ⊢;exact eR.jb eN c6 a4 h
def ci.old{pv:aP}{v:aS}(h:ci phx H B pv v):∀id,id∈eP pv->B id ≠ .new:=by
 intro id ao ax;cases pv<;>simp only[eP,nZ,DL]at ao<;>(try exact ao.elim)
 all_goals (first|(subst ao;simp only[ci,ax]at h)|exact h.elim|(obtain⟨vs,b0,bT⟩:=h;exact b0.old id ao ax))
def fX.old:∀{pv:aP} {t:aw} {cs:ab aS},fX phx H B pv t cs->∀id,id∈eP pv->B id ≠ .new:=by
 intro pv;induction pv with
 |two u v bq a3=>
  intro t cs h id ao;cases t<;>simp only[fX]at h
  grind [eP]
 |sc t' x=>intro t cs h id ao;simp[eP]at ao
 |agg t a=>intro t cs h;exact h.elim
 |tup a=>intro t cs h;exact h.elim
 |bad=>intro t cs h id ao;simp[eP]at ao
 |_=>intro t cs h;obtain⟨aC,v,Y,ac,av⟩:=h;exact av.old
def eR.old{pv:aP}{v:aS}(h:eR phx H B pv v):∀id,id∈eP pv->B id ≠ .new:=by
 cases pv with
 |sc t x=>intro id ao;simp[eP]at ao
 |agg t a=>obtain⟨aC,cs,Y,ac⟩:=h;exact Y.old
 |_=>simp only[eR]at h;exact ci.old h
def mZ.old:∀{pv:aP} {vs:ab aS},mZ phx H B pv vs->∀id,id∈eP pv->B id ≠ .new:=by
 intro pv;induction pv with
 |two u r bq az =>intro vs h id ao;obtain⟨v,eV,aC,Y,ac⟩:=h;simp only[eP,i7]at ao;exact ao.elim (Y.old id)<|az ac id
 |sc t x=>intro vs h id ao;simp[eP]at ao
 |_=>intro vs h;exact h.elim
def bI.old{pv:aP}{v:aS}(h:bI phx H B pv v):∀id,id∈eP pv->B id ≠ .new:=by
 cases pv with
 |tup a=>obtain⟨vs,Y,ac⟩:=h;exact Y.old
 |_=>simp only[bI]at h;exact eR.old h
end
def ms.jb{phx phx':cV}{H H':cX}{B B':R->bm}{kt:aw}:∀{l:ab<|kt.a_×aP} {es:ab MapEntry},(∀p∈l,∀id∈eP p.2,(B id).jH=af->phx' id=phx id)->H.cU H'->(∀p∈l,∀id∈eP p.2,(B id).cU<|B' id)->ms phx H B kt l es->ms phx' H' B' kt l es
 |[],_,_,_,_,h=>h
 |(k,v)::l,_,eN,c6,a4,⟨e,es',h,⟨an,Y,ac⟩,av,aJ⟩=>
  ⟨e,es',h,⟨an,Y.mono c6,ac⟩,av.jb (λid ao=>eN (k,v) bP id ao) c6<|λid ao=>a4 (k,v) bP id ao,ms.jb (λp hp=>eN p<|by grind) c6 (λp hp=>a4 p<|by grind) aJ⟩
def ms.old{phx:cV}{H:cX}{B:R->bm}{kt:aw}:∀{l:ab<|kt.a_×aP} {es:ab MapEntry},ms phx H B kt l es->∀p∈l,∀id∈eP p.2,B id ≠ .new
 |[],_,_,p,hp=>by simp at hp
 |(k,v)::l,_,⟨e,es',h,_,av,aJ⟩,p,hp=>by
  rcases mU.1 hp with rfl|hp
  .exact av.old
  exact ms.old aJ p hp
def mY.jb{phx phx':cV}{M aZ:R->Prop}{w w':bu}{H H':cX}{B B':R->bm}{id:R}{b:bm}
  (hid:phx' id=phx id) (eN:∀j,j∈Ak b->(B j).jH=af->phx' j=phx j) (c6:H.cU H') (a4:∀j,j∈Ak b->(B j).cU (B' j))
  (bR:∀x,phx id=J x->b.gB=af->w'.heap[x.1]?=w.heap[x.1]?) (eE:∀x,phx id=J x->b.gB=af->M x.1->aZ x.1)
  (h:mY phx M w H B id b):mY phx' aZ w' H' B' id b:=by
 cases b with
 |new=>trivial
 |ga=>trivial
 |box t v =>obtain⟨b,o,c,el,fz,Y,ac,av,aJ,bv,c_⟩:=h;exact⟨b,o,c,el,fz,hid.trans Y,(bR _ Y rfl).trans ac,av,fX.jb eN c6 a4 aJ,bv,eE _ Y rfl c_⟩
 |ob e l=>
  refine⟨h.1,?_⟩;rcases h.2 with⟨Y,ac⟩|⟨b,o,c,el,fz,Y,ac,av,aJ,bv⟩
  .grind
  exact aMd
 |fz e l=>
  refine⟨h.1,?_⟩;rcases h.2 with⟨Y,ac⟩|⟨b,o,c,el,fz,Y,ac,av⟩
  .grind
  exact aNK
 |it s p =>exact aMn
 |mp kt vt l =>obtain⟨b,es,oI,Y,ac,av,aJ⟩:=h;refine⟨b,es,oI,hid.trans Y,(bR _ Y rfl).trans ac,ms.jb (λp hp j aF=>eN j<|Ua.2 ⟨p,hp,aF⟩) c6 (λp hp j aF=>a4 j<|Ua.2 ⟨p,hp,aF⟩) av,eE _ Y rfl aJ⟩
def mY.old{phx:cV}{M:R->Prop}{w:bu}{H:cX}{B:R->bm}{id:R}{b:bm}(h:mY phx M w H B id b):∀j,j∈Ak b->B j ≠ .new:=by
 cases b with
 |box t v=>obtain⟨b,o,c,el,fz,Y,ac,av,aJ,bv,c_⟩:=h;exact aJ.old
 |mp kt vt l =>obtain⟨b,es,oI,Y,ac,av,aJ⟩:=h;intro j aF;obtain⟨p,hp,aF⟩:=Ua.1 aF;exact av.old p hp j aF
 |_=>intro j aF;simp[Ak]at aF
end Yp
namespace Yp
open Go
def o?:=@Array.getD_eq_getD_getElem?
def nr:=@List.getD_eq_getElem?_getD
def A8:=@List.mem_append_left
def DM:=@List.mem_append_right
def A2:=@Bool.or_eq_true
def M3:=@List.mem_cons_self
def T9:=@List.getElem?_cons_zero
def sU:=@Iff.rfl
def TL:=@Nat.add_sub_cancel
def TP:=@List.Pairwise.nil
variable {P:d_}
def lh(P:d_)(f:R)(g:g3):Prop:=tY P f/\∀(K:Kp) (w0:bu),qG P K w0->∀(cQ:R) (bE:ab aP) (s:bd) (ρ:Type) (k:aP×bd->bi ρ) (r:ρ),((g cQ bE s).bind k).cf=J r ->
 ∀(phx:cV) (M:R->Prop) (w:bu) (vs:ab aS),cd K w0 phx M s.bz w->ha phx (view w M) s.bz bE vs ->
  Calls P f vs.toArray w λe w'=>∃cF,e=.returned cF/\∃v aT phx' aZ,(k (v,aT)).cf=J r/\cd K w0 phx' aZ aT.bz w'/\c8 phx M s.bz w phx' aZ aT.bz w'/\bI phx' (view w' aZ) aT.bz v cF/\eQ [] s aT
def iw(D:ab R)(a bn:Act):Prop:=bn.tmps.size=a.tmps.size/\bn.defers=a.defers/\∀t,t∉D->bn.tmps.getD t undef=a.tmps.getD t undef
theorem iw.refl(D:ab R)(a:Act):iw D a a:=⟨rfl,rfl,λ_ _=>rfl⟩
theorem iw.sub{E:ab R}{a b c:Act}(h:iw D a b)(k:iw le b c)(a?:∀t,t∈D->t∈E)(vR:∀t,t∈le->t∈E):iw E a c:=
 ⟨k.1.trans h.1,k.2.1.trans h.2.1,λt ht=>(k.2.2 t λaA=>ht<|vR t aA).trans<|h.2.2 t λaA=>ht<|a? t aA⟩
def iw.put{a:Act}{dD:au R}{v:aS}(h:∀d,dD=J d->d∈D):iw D a<|a.put dD v:=by
 cases dD with
 |none=>exact iw.refl D a
 |some d =>refine⟨by simp[Act.put],rfl,λt ht => ?_⟩;have:d≠t:=λe=>ht<|e▸h d rfl;simp_all[Act.put]
section
variable {K:Kp} {w0 w:bu} {phx:cV} {M:R->Prop} {B B':R->bm} {g:R->aP} {H:cX} {E:dO} {nt:R}
theorem t2.cb{gm v:aP}{x:aS}(h:t2 gm v)(az:bI phx H B gm x):bI phx H B v x:=by
 rcases h with rfl|⟨c,rfl,rfl⟩
 .exact az
 rw[az.bool];rfl
def eh.put{a:Act}(hs:eh phx H B g a){dD:au R}(a?:∀d,dD=J d->d<a.tmps.size){v:aP}{x:aS}(az:bI phx H B v x):eh phx H B (lV g dD v)<|a.put dD x:=by
 cases dD with
 |none=>exact hs
 |some d=>
  intro t;simp only[lV,qw];by_cases h:t=d
  .simp_all[Act.put]
  rw[aD h];have:=hs t;simp_all[Act.put,Hm]
def acl{ops:cO c7}{a:Act}(h:(ops.toList[j]?).bind (·.dst)=J d):(∀b,a.tmps.getD d undef=.bool b->yielded ops a.tmps j=J b)/\(a.tmps.getD d undef=undef->yielded ops a.tmps j=aq):=by
 rw[yM]at h;unfold yielded;rw[h];simp only[Option.bind_some];refine⟨λb ak => ?_,λak => ?_⟩
 .cases hg:a.tmps[d]? with
  |none=>rw[o?,hg]at ak;cases ak
  |some v=>rw[o?,hg]at ak;simp at ak;rw[ak]
 cases hg:a.tmps[d]? with
 |none=>rfl
 |some v=>rw[o?,hg]at ak;simp at ak;rw[ak];rfl
def ab2{ops:cO c7}{o:c7}{a:Act}(h:yV ops.toList o g)(hs:eh phx H B g a):Region.wanted o (yielded ops a.tmps)=af:=by
 rcases h with h|⟨j,nn,d,Y,ac,av⟩
 .grind [Region.wanted]
 have a3:=hs d;rw[av]at a3;simp[Region.wanted,Y,(acl ac).1 _ a3]
def anE{ops:cO c7}{o:c7}{a:Act}(h:Hg ops.toList o g)(hs:eh phx H B g a):Region.wanted o (yielded ops a.tmps)=ag:=by
 obtain⟨j,nn,d,Y,ac,av⟩:=h;have a3:=hs d;rcases av with av|av<;>rw[av]at a3
 .have a3:=a3
  simp[Region.wanted,Y,(acl ac).1 _ a3]
 have a3:=a3;simp[Region.wanted,Y,(acl ac).2 a3]
def eQ.wr{s aT:bd}(h:eQ D s aT):aT.bz=en s.bz (o8 s aT):=by
 obtain⟨_,gJ,ac,av⟩:=h;have ax:Zd s aT=gJ:=by unfold Zd;rw[ac,d7,TL,List.take_left'];rfl
 funext id;unfold o8 en;have key:∀(l:ab R) (d:bm),oX (l.map λid=>(id,aT.bz id)) id d=if id∈l then aT.bz id else d:=by
  intro l d;induction l with
  |nil=>rfl
  |cons x l ih=>
   simp only[A1,oX];by_cases hx:x=id
   .subst hx;simp
   grind [iY]
 grind
theorem zS{id:R}:∀(l:ab<|Nat×bm) (d:bm),id∉l.map (·.1)->oX l id d=d
 |[],_,_=>rfl
 |p::l,d,h=>by simp only[A1,mU,not_or]at h;simp only[oX];rw[iY<|Hm h.1];exact zS l d h.2
def ha.jb:∀{bE:ab aP} {vs:ab aS} {B':R->bm},(∀p∈bE,∀j,j∈eP p->B' j=B j)->ha phx H B bE vs->ha phx H B' bE vs
 |[],[],_,_,_=>trivial
 |p::bE,v::vs,B',aA,h=>⟨h.1.jb (λ_ _ _=>rfl) (cX.cU.refl _) (λj aF=>by rw[aA p bP j aF];exact bm.cU.refl _),ha.jb (λq bD=>aA q<|by grind) h.2⟩
def lh.frame{ul:g3}(fa:lh P f ul)(he:qG P K w0)(hm:cd K w0 phx M B w){s aT:bd}{cQ:R}{bE:ab aP}{gm:aP}(jo:(ul cQ bE s).cf=J (gm,aT)){lw:ab R}
  (zv:∀id,id∈lw->s.bz id=B id) (Yh:∀id,id∉lw->s.bz id=.new) (fr:∀id j,j∈Ak (s.bz id)->j∈lw) (q2:∀p∈bE,∀j,j∈eP p->j∈lw)
  (azV:∀id,id∈(o8 s aT).map (·.1)->id∈lw) {vs:ab aS} (hp:ha phx (view w M) B bE vs) :
  Calls P f vs.toArray w λe w'=>∃cF,e=.returned cF/\∃phx' aZ,cd K w0 phx' aZ (en B<|o8 s aT) w'/\c8 phx M B w phx' aZ (en B<|o8 s aT) w'/\bI phx' (view w' aZ) (en B<|o8 s aT) gm cF:=by
 let acK:Kp:=⟨λb=>K.k b\/∃id x,id∉lw/\(B id).gB=af/\phx id=J x/\x.1=b,M⟩
 have Y':∀id,(s.bz id).gB=af->id∈lw/\(B id).gB=af:=λid h=>by
  by_cases aB:id∈lw
  .rw[zv id aB]at h;exact⟨aB,h⟩
  rw[Yh id aB]at h;cases h
 have hi:cd acK w phx M s.bz w:=by
  refine⟨rfl,rfl,rfl,cx _,λ_ _=>rfl,λb ak => ?_,λ_ _=>sU,λid ao x hx aA => ?_,hm.mlt,λid => ?_,λi j j? ao aF => ?_⟩
  .rcases ak with ak|⟨id,x,_,ac,av,rfl⟩
   .exact ge (hm.klt b ak) hm.size
   exact(hm.blks id).lt ac av
  .obtain⟨aB,vV⟩:=Y' id ao
   rcases aA with aA|⟨qf,wQ,Y,ac,av,aJ⟩
   .exact hm.own id vV x hx aA
   exact hm.sep qf id (λe=>Y<|e▸aB) ac vV wQ x av hx aJ
  .by_cases aB:id∈lw
   .have h:=hm.blks id
    rw[zv id aB];refine mY.jb rfl (λ_ _ _=>rfl) (cX.cU.refl _) (λj aF => ?_) (λ_ _ _=>rfl) (λ_ _ _ h=>h) h;rw[zv j<|fr id j (by rw[zv id aB];exact aF)];exact bm.cU.refl _
   rw[Yh id aB];trivial
  exact hm.sep i j j? (Y' i ao).2 (Y' j aF).2
 have zx:ha phx (view w M) s.bz bE vs:=hp.jb λp bD j aF=>zv j<|q2 p bD j aF;refine(fa.2 acK w ⟨λg hg=>.inl<|he.gl g hg,he.keys hm⟩ cQ bE s (aP×bd) .leaf (gm,aT) (by rw[lJ];exact jo) phx M w vs hi zx).mono ?_;rintro e w' ⟨cF,rfl,v,eX,iI,gw,cn,cR,da,d9,fO⟩;cases cn;have lq:=fO.wr;have JK:∀id,id∈lw->aT.bz id=en B (o8 s aT) id:=λid aB=>by rw[lq];unfold en;rw[zv id aB]
 have S':∀id,id∉lw->aT.bz id=.new/\en B (o8 s aT) id=B id:=λid aB=>by have ain:id∉(o8 s aT).map (·.1):=λh=>aB<|azV id h;refine⟨?_,zS _ _ ain⟩;rw[lq];exact(zS _ _ ain).trans<|Yh id aB
 have RW:∀j,aT.bz j ≠ .new->j∈lw:=λj h=>by
  by_cases aB:j∈lw
  .exact aB
  exact ev (S' j aB).1 h
 let kU:cV:=λid=>if id∈lw then iI id else phx id
 have xh:∀id,id∈lw->kU id=iI id:=λid h=>aH h;have Br:∀id,id∉lw->kU id=phx id:=λid h=>aD h;have jF:∀id,(B id).jH=af->kU id=phx id:=λid hl=>by
  by_cases aB:id∈lw
  .rw[xh id aB];exact da.pl id (by rw[zv id aB];exact hl)
  exact Br id aB
 have et:∀id,(B id).cU<|en B (o8 s aT) id:=λid=>by
  by_cases aB:id∈lw
  .rw[<- JK id aB,<- zv id aB];exact da.bl id
  rw[(S' id aB).2];exact bm.cU.refl _
 have J2:∀id,id∈lw->(en B (o8 s aT) id).gB=af->(aT.bz id).gB=af:=λid aB h=>by rw[JK id aB];exact h
 have J3:∀id,id∉lw->(en B (o8 s aT) id).gB=af->(B id).gB=af:=λid aB h=>by rw[<- (S' id aB).2];exact h
 refine⟨cF,rfl,kU,gw,⟨cR.os.trans hm.os,cR.tape.trans hm.tape,cR.output.trans hm.output,i6 hm.size cR.size,λb ak=>(cR.keep b<|.inl ak).trans<|hm.keep b ak,hm.klt,λb ak=>(cR.hid b<|.inl ak).trans<|hm.hid b ak,λid ao x hx aA => ?_,cR.mlt,λid => ?_,λi j j? ao aF x y hx bW => ?_⟩,⟨jF,da.vw,et⟩,?_⟩
 .by_cases aB:id∈lw
  .rw[xh id aB]at hx;exact cR.own id (J2 id aB ao) x hx<|.inl aA
  rw[Br id aB]at hx;exact hm.own id (J3 id aB ao) x hx aA
 .by_cases aB:id∈lw
  .rw[<- JK id aB]
   have h:=cR.blks id;refine mY.jb (xh id aB) (λj aF _=>xh j<|RW j<|h.old j aF) (cX.cU.refl _) (λj aF => ?_) (λ_ _ _=>rfl) (λ_ _ _ h=>h) h;rw[JK j<|RW j<|h.old j aF];exact bm.cU.refl _
  rw[(S' id aB).2];refine mY.jb (Br id aB) (λj _ hl=>jF j hl) da.vw (λj _=>et j) (λx hx vV=>cR.keep x.1<|.inr ⟨id,x,aB,vV,hx,rfl⟩) (λx hx vV eE=>(cR.hid x.1<|.inr ⟨id,x,aB,vV,hx,rfl⟩).2 eE)<|hm.blks id
 .by_cases uu:i∈lw<;>by_cases xC:j∈lw
  .rw[xh i uu]at hx;rw[xh j xC]at bW;exact cR.sep i j j? (J2 i uu ao) (J2 j xC aF) x y hx bW
  .rw[xh i uu]at hx;rw[Br j xC]at bW
   exact λe=>cR.own i (J2 i uu ao) x hx<|.inr ⟨j,y,xC,J3 j xC aF,bW,e.symm⟩
  .rw[Br i uu]at hx;rw[xh j xC]at bW
   exact λe=>cR.own j (J2 j xC aF) y bW<|.inr ⟨i,x,uu,J3 i uu ao,hx,e⟩
  rw[Br i uu]at hx;rw[Br j xC]at bW;exact hm.sep i j j? (J3 i uu ao) (J3 j xC aF) x y hx bW
 exact d9.jb (λj aF _=>xh j<|RW j<|d9.old j aF) (cX.cU.refl _) (λj aF=>by rw[JK j<|RW j<|d9.old j aF];exact bm.cU.refl _)
def yG.congr{E:dO}{ops:ab c7}{o:c7}{g bT:R->aP}{B cJ:R->bm}{gm:aP}{rb:ab R}{wr:ab<|Nat×bm}(h:yG E ops o g B gm rb wr)(hg:∀t,g' (lB ops o) t=af->bT t=g t)
  (a4:∀id,id∈rb\/id∈wr.map (·.1)->cJ id=B id):yG E ops o bT cJ gm rb wr:=by
 obtain⟨F,eG,dy,ul,bE,s,aT,f,args,e?,cQ,Y,ac,av,aJ,bv,c_,eJ,cH,kO,n_⟩:=h;refine⟨F,eG,dy,ul,bE,s,aT,f,args,e?,cQ,Y,ac,av,?_,λdE wR XI=>bv dE wR λt ht=>(XI t ht).trans<|hg t ht,λid hid => ?_,eJ,cH,kO,n_⟩
 .cases f with
  |tmp t=>simp only[WN]at aJ ⊢;rw[hg t av];exact aJ
  |func f=>exact aJ
  |const v=>exact aJ
  |global i=>exact aJ
 grind
def YX:∀{l:ab<|Nat×bm} {id:R},id∉l.map (·.1)->se l id=.new
 |[],_,_=>rfl
 |(i,b)::r,id,h=>by simp only[A1,mU,not_or]at h;simp only[se];rw[iY<|Hm h.1];exact YX h.2
def ajx:∀{l:ab<|Nat×bm} {id:R},id∈l.map (·.1)->∃b,(id,b)∈l/\se l id=b
 |(i,b)::r,id,h=>by
  simp only[se];by_cases ao:i=id
  .grind [l7]
  rw[iY ao];simp only[A1,mU]at h;obtain⟨c,aA,ac⟩:=ajx<|h.resolve_left (Hm ao)
  grind
def auL{s:bd}{bE:ab aP}(h:HV s bE=af):(∀id j,j∈Ak (s.bz id)->j∈sd s)/\∀p∈bE,∀j,j∈eP p->j∈sd s:=by
 unfold HV at h;simp only[d5]at h;have any:∀{j:R},(sd s).any (cT j)=af->j∈sd s:=λh=>aK3
 refine⟨λid j aF => ?_,λp hp j aF=>any<|rI.1 (rI.1 h.2 p hp) j aF⟩;by_cases aB:id∈s.h.map (·.1)
 .obtain⟨b,ak,aX⟩:=ajx aB
  have aX:s.bz id=b:=aX
  grind
 have:s.bz id=.new:=YX aB
 grind [Ak]
def aAu(dG:pV P E K w0)(eD:∀f g,E.I f=J g->lh P f g){ops:ab c7}{o:c7}{a:Act}{gm:aP}{rb:ab R}{wr:ab<|Nat×bm}(hm:cd K w0 phx M B w)(hs:eh phx (view w M) B g a)(h:yG E ops o g B gm rb wr)
  {Kn:Act->bu->Prop} {Q:Exit->Act->bu->Prop}
  (aB:∀phx' aZ w' x,cd K w0 phx' aZ (en B wr) w'->c8 phx M B w phx' aZ (en B wr) w'->bI phx' (view w' aZ) (en B wr) gm x->Kn (a.put o.dst x) w'):o.wp P a w Kn Q:=by
 obtain⟨F,eG,dy,ul,bE,s,aT,f,args,e?,cQ,Y,ac,av,aJ,bv,c_,eJ,cH,kO,n_⟩:=h;obtain⟨dD,op,type,jI,after,ES⟩:=o;subst Y;have fa:=eD _ _ ac;have r9:bI phx (view w M) B (.clo F eG dy)<|a.eval f:=by
  rw[<- aJ];cases f with
  |tmp t=>exact hs t
  |func f=>exact⟨[],rfl,rfl⟩
  |const v=>cases av
  |global i=>cases av
 obtain⟨us,aX,r4⟩:=r9;refine Tp r4 fa.1 ?_;obtain⟨_,dQ⟩:=zV hs<|bv g B λ_ _=>rfl;have b6:(args.toList.map a.eval).toArray=args.map a.eval:=aM7
 have jV:(us.take eG++(args.toList.map a.eval++us.drop eG)).toArray=(us.take eG).toArray++args.map a.eval++(us.drop eG).toArray:=bP;rw[<- jV];obtain⟨b4,cz⟩:=auL eJ;subst kO;refine(fa.frame (dG.gk<|.inr<|.inl ⟨_,_,ac⟩) hm cH c_ (λid hid=>YX λaA=>hid<|A8 _ aA) (λid j aF=>A8 _<|b4 id j aF) (λp hp j aF=>A8 _<|cz p hp j aF) (λid hid=>DM _ hid)<|VR aX dQ).mono ?_
 grind
def aoB{x:aS}(h:x=undef):bI phx H B .undef x:=h
def agi(hT:ou P E.cp)(dc:qS P E.cp E.C)(ii:sf P E.M)(dG:pV P E K w0)(eD:∀f g,E.I f=J g->lh P f g){ops:cO c7}{e:fU}{a:Act}(ax:∀d,e.o.dst=J d->d<nt)(fg:nt<=a.tmps.size)(hm:cd K w0 phx M B w)(hs:eh phx (view w M) B g a)
  (h:(yV ops.toList e.o g/\∃gm,t2 gm e.v/\(tv E e.o).bC g B=J (gm,en B e.wr))\/(Hg ops.toList e.o g/\e.v=.undef/\e.wr=[])\/(yV ops.toList e.o g/\∃gm,t2 gm e.v/\yG E ops.toList e.o g B gm e.rb e.wr))
  {Kn:Act->bu->Prop} {Q:Exit->Act->bu->Prop}
  (aB:∀phx' aZ w' x,cd K w0 phx' aZ (en B e.wr) w'->c8 phx M B w phx' aZ (en B e.wr) w'->eh phx' (view w' aZ) (en B e.wr) (lV g e.o.dst e.v) (a.put e.o.dst x)->Kn (a.put e.o.dst x) w') :
  if Region.wanted e.o (yielded ops a.tmps) then e.o.wp P a w Kn Q else Kn (a.put e.o.dst undef) w:=by
 have a?:∀d,e.o.dst=J d->d<a.tmps.size:=λd h=>ge (ax d h) fg;rcases h with⟨bR,gm,zy,th⟩|⟨bR,a3,E'⟩|⟨bR,gm,zy,dP⟩
 .rw[aH<|ab2 bR hs]
  refine ZK hT dc ii dG th hm hs λr w' b6 => ?_;obtain⟨phx',aZ,b',e1,e9⟩:=b6;exact aB phx' aZ w' r b' e1<|(hs.ext e1).put a? (zy.cb e9)
 .rw[aD (by rw[anE bR hs];simp)]
  have a4:en B e.wr=B:=by rw[E'];rfl
  have:=aB phx M w undef aOZ (by rw[a4];exact c8.refl _ _ _ _) (by rw[a4,a3];exact hs.put a?<|aoB rfl);exact this
 rw[aH<|ab2 bR hs];exact aAu dG eD hm hs dP λphx' aZ w' r b' e1 e9=>aB phx' aZ w' r b' e1<|(hs.ext e1).put a? (zy.cb e9)
def aot(hT:ou P E.cp)(dc:qS P E.cp E.C)(ii:sf P E.M)(dG:pV P E K w0)(eD:∀f g,E.I f=J g->lh P f g){ops:cO c7}{Q:Exit->Act->bu->Prop}:∀(b8:ab fU) {phx:cV} {M:R->Prop} {B:R->bm} {g:R->aP} {w:bu} {a:Act},
  yU E ops.toList nt ag b8 g B->cd K w0 phx M B w->eh phx (view w M) B g a->nt<=a.tmps.size ->
  (∀phx' aZ w' bn,cd K w0 phx' aZ (e5 b8 (λ_=>af) B) w'->c8 phx M B w phx' aZ (e5 b8 (λ_=>af) B) w'->eh phx' (view w' aZ) (e5 b8 (λ_=>af) B) (gt b8 (λ_=>af) g) bn->iw (fD<|b8.map (·.o)) a bn->Q .normal bn w') ->
  wpList P ops Q (b8.map (·.o)) a w
 |[],phx,M,B,g,w,a,_,hm,hs,_,bD=>bD phx M w a hm (c8.refl _ _ _ _) hs<|iw.refl _ _
 |e::b8,phx,M,B,g,w,a,a3,hm,hs,fg,bD=>by
  obtain⟨⟨ax,jo⟩,a3⟩:=a3;have a?:=vI e.o<|b8.map (·.o);have:=agi (P:=P) (Kn:=wpList P ops Q<|b8.map (·.o)) (Q:=Q) hT dc ii dG eD ax fg hm hs (jo.imp (λ⟨Y,gm,ac,av,_⟩=>⟨Y,gm,ac,av⟩)<|λh=>h.elim (λ⟨Y,ac,av,_⟩=>.inl ⟨Y,ac,av⟩)<|λh=>by cases h.1) λphx' aZ w' x b' e1 bX=>by refine aot hT dc ii dG eD b8 a3 b' bX (by simp only[Act.put];split<;>simpa using fg) λkU dF dp dl cN bh aT cz => ?_;exact bD kU dF dp dl cN (e1.trans bh) aT<|(iw.put a?.1).sub cz (λt h=>h) a?.2
  simp only[A1,wpList];split
  .rename_i bR;rw[aH bR]at this;exact .inl this
  rename_i bR;rw[aD bR]at this;exact this
theorem Az{t:R}:∀(b8:ab fU) {L yH:R->aE} {g j9:R->aP},g t=j9 t->(∀e∈b8,e.o.dst=J t->L e.i=yH e.i)->gt b8 L g t=gt b8 yH j9 t
 |[],_,_,_,_,h,_=>h
 |e::b8,L,yH,g,j9,h,hL=>by
  refine Az b8 ?_ λb9 aX=>hL b9<|yO _ aX;have key:∀(x:R->aP),e.o.dst≠J t->lV x e.o.dst e.v t=x t:=λx fs=>by
   cases a?:e.o.dst with
   |none=>rfl
   |some d=>simp only[lV,qw];rw[aD];intro h;exact fs (by grind)
  by_cases a?:e.o.dst=J t
  .rw[hL e M3 a?]
   cases yH e.i with
   |false=>exact h
   |true=>simp only[cond,a?,lV,qw,if_true]
  grind
def ajw{id:R}:∀(l:ab<|Nat×bm) (d y?:bm),id∈l.map (·.1)->oX l id d=oX l id y?
 |p::l,d,y?,h=>by
  simp only[oX];by_cases hp:p.1=id
  .grind [l7]
  rw[iY hp];simp only[A1,mU]at h;exact ajw l d y?<|h.resolve_left (Hm hp)
def Ay{id:R}:∀(b8:ab fU) {L yH:R->aE} {B B':R->bm},B id=B' id->(∀e∈b8,id∈e.wr.map (·.1)->L e.i=yH e.i)->e5 b8 L B id=e5 b8 yH B' id
 |[],_,_,_,_,h,_=>h
 |e::b8,L,yH,B,B',h,hL=>by
  refine Ay b8 ?_ λb9 aX=>hL b9<|yO _ aX
  grind [en,zS]
def abg(L:R->aE):∀(a b:ab fU) (g:R->aP),gt (a++b) L g=gt b L (gt a L g)
 |[],_,_=>rfl
 |e::a,b,g=>abg L a b _
def abe(L:R->aE):∀(a b:ab fU) (B:R->bm),e5 (a++b) L B=e5 b L (e5 a L B)
 |[],_,_=>rfl
 |e::a,b,B=>abe L a b _
def yU.at{ops:ab c7}{dX:aE}{e:fU}:∀(pre:ab fU) {post:ab fU} {g:R->aP} {B:R->bm},yU E ops nt dX (pre++e::post) g B->Ms E ops nt dX (gt pre (λ_=>af) g) (e5 pre (λ_=>af) B) e
 |[],_,_,_,h=>h.1
 |_::pre,_,_,_,h=>yU.at pre h.2
end
def TM(e1 bh:fU)(id:R):Prop:=(id∈e1.wr.map (·.1)/\id∈bh.rb)\/(id∈e1.wr.map (·.1)/\id∈bh.wr.map (·.1))\/(id∈e1.rb/\id∈bh.wr.map (·.1))\/(e1.al=af/\id∈bh.wr.map (·.1))\/(bh.al=af/\id∈e1.wr.map (·.1))
theorem Y5{a b:ab R}(Y:k∈a)(ac:k∈b):PO a b=af:=by exact List.any_eq_true.2 ⟨k,Y,List.any_eq_true.2 ⟨k,ac,Ha k⟩⟩
def agn{e:fU}:∀{b8:ab fU},e∈b8->(e.al=af\/e.rb≠[]\/e.wr≠[])->(⟨e.i,e.al,e.rb,e.wr.map (·.1)⟩:pW)∈oL b8
 |b9::b8,h,fs=>by
  simp only[oL];rcases mU.1 h with rfl|h
  .grind
  have:=agn h fs
  grind
def ZM{pk:ab R}:∀{b8:ab fU},sr pk (oL b8)=af->b8.Pairwise λe1 bh=>∀id,TM e1 bh id->g' (pk.getD bh.i 0) e1.i=af
 |[],_=>TP
 |e::b8,h=>by
  have split:sr pk (oL b8)=af/\((e.al=af\/e.rb≠[]\/e.wr≠[])->(oL b8).all (λg=>!((⟨e.i,e.al,e.rb,e.wr.map (·.1)⟩:pW).N4 g)||Nat.testBit (pk.getD g.i 0) e.i)=af):=by
   grind [oL,sr]
  refine List.Pairwise.cons (λbh vS id hh => ?_)<|ZM split.1;have fs:(e.al=af\/e.rb≠[]\/e.wr≠[])/\(bh.al=af\/bh.rb≠[]\/bh.wr≠[]):=by
   have fm:∀{l:ab R},id∈l->l≠[]:=λh e=>by rw[e]at h;simp at h
   have aJc:∀{l:ab<|Nat×bm},id∈l.map (·.1)->l≠[]:=λh e=>by rw[e]at h;simp at h
   rcases hh with⟨Y,ac⟩|⟨Y,ac⟩|⟨Y,ac⟩|⟨Y,ac⟩|⟨Y,ac⟩
   .grind
   .grind
   .grind
   .grind
   grind
  have:=rI.1 (split.2 fs.1) _<|agn vS fs.2;have fr:(⟨e.i,e.al,e.rb,e.wr.map (·.1)⟩:pW).N4 ⟨bh.i,bh.al,bh.rb,bh.wr.map (·.1)⟩=af:=by
   unfold pW.N4;have aiy:∀{l:ab R},id∈l->abd l=af:=λh=>by
    rename_i l;cases l with
    |nil=>cases h
    |cons x l=>rfl
   rcases hh with⟨Y,ac⟩|⟨Y,ac⟩|⟨Y,ac⟩|⟨Y,ac⟩|⟨Y,ac⟩
   .grind [Y5]
   .grind [Y5]
   .grind [Y5]
   .grind
   grind
  grind
def acQ(pk:ab R)(p:R×R×R)(i rl wr:R):Prop:=(Nat.land p.2.2 (rl|||wr)=0/\Nat.land p.2.1 wr=0)\/g' (pk.getD i 0) p.1=af
def anJ{ops:ab c7}{pk:ab R}:∀{l:ab c7} {i:R} {dC:ab<|Nat×R×R},LQ ops pk i l dC=af ->
  (∀p∈dC,∀k o,l[k]?=J o->acQ pk p (i+k) (lB ops o) (G2 o)) /\
  ∀b4 cz nL oj,b4<cz->l[b4]?=J nL->l[cz]?=J oj->acQ pk (i+b4,lB ops nL,G2 nL) (i+cz) (lB ops oj) (G2 oj)
 |[],i,dC,_=>⟨λp _ k o h=>aLm,λb4 cz nL oj _ h _=>aLm⟩
 |o::l,i,dC,h=>by
  simp only[LQ,d5]at h;obtain⟨Y,ac⟩:=h;obtain⟨e9,gK⟩:=anJ ac;refine⟨λp hp k dZ aB => ?_,λb4 cz nL oj bK qc oS => ?_⟩
  .cases k with
   |zero =>simp at aB;subst aB;have:=rI.1 Y p hp;simp only[A2,d5]at this;exact this.imp (λh=>⟨iM h.1,iM h.2⟩) id
   |succ k=>
    grind
  cases cz with
  |zero=>omega
  |succ cz=>
   cases b4 with
   |zero=>
    grind
   |succ b4=>
    grind
theorem ajh(h:Nat.land a b=0)(Y:g' a t=af)(ac:g' b t=af):fI:=by
 have:g' (Nat.land a b) t=af:=by have av:=Nat.testBit_and a b t;simp_all
 grind
theorem ace{o:c7}(h:o.dst=J t):g' (G2 o) t=af:=by simp[G2,h]
def Bp(dC:ab R)(s:R)(e:Edge):R:=bif Region.binds .any e then s|||2^e.on|||dC.getD e.on 0 else s
def agP{dC:ab R}{i:R}:∀(l:ab Edge) (s:R),g' (l.foldl (Bp dC) s) i=af->g' s i=af\/∃e∈l,Region.binds .any e=af/\(i=e.on\/g' (dC.getD e.on 0) i=af)
 |[],s,h=>.inl h
 |e::l,s,h=>by
  rcases agP l _ h with h|⟨b9,aX,h⟩
  .grind [Bp]
  grind
def ac9:∀(l:ab c7) (dC:ab R),(∃Dk,m1 l dC=dC++Dk) /\
  ∀j o,l[j]?=J o->∃pre,pre.length=dC.length+j/\(∃Dk,m1 l dC=pre++Dk)/\(m1 l dC).getD (dC.length+j) 0=o.after.toList.foldl (Bp pre) 0
 |[],dC=>⟨⟨[],by simp[m1]⟩,λj o h=>aLm⟩
 |o::l,dC=>by
  obtain⟨⟨Dk,Y⟩,ac⟩:=ac9 l<|dC++[o.after.toList.foldl (Bp dC) 0];have IY:m1 (o::l) dC=m1 l (dC++[o.after.toList.foldl (Bp dC) 0]):=rfl;refine⟨⟨o.after.toList.foldl (Bp dC) 0::Dk,by rw[IY,Y];simp⟩,λj dZ aF => ?_⟩;cases j with
  |zero =>simp only[T9,jN]at aF;subst aF;refine⟨dC,rfl,⟨o.after.toList.foldl (Bp dC) 0::Dk,by rw[IY,Y];simp⟩,?_⟩;rw[IY,Y];simp[nr]
  |succ j =>simp only[MI]at aF;obtain⟨pre,dN,fC,jd⟩:=ac j dZ aF;simp only[d7,gd,gM]at dN jd;refine⟨pre,V,by rw[IY];exact fC,?_⟩;rw[IY,show dC.length+(j+1)=dC.length+(0+1)+j by omega];exact jd
def UC{ops:ab c7}{L:R->aE}(fr:∀i o,ops[i]?=J o->L i=af->∀e∈o.after.toList,Region.binds .any e=af->L e.on=af):
  ∀j o,ops[j]?=J o->(∀e∈o.after.toList,Region.binds .any e=af->L e.on=af)->∀i,g' ((m1 ops []).getD j 0) i=af->L i=af:=by
 intro j;induction j using Nat.strongRecOn with
 |_ j ih=>
  intro o bg BK i ao;obtain⟨pre,dN,⟨Dk,fC⟩,jd⟩:=(ac9 ops []).2 j o bg;simp only[gM,oD]at dN jd;rw[jd]at ao;rcases agP _ _ ao with h|⟨e,aX,ak,h|h⟩
  .simp at h
  .rw[h];exact BK e aX ak
  have aze:=BK e aX ak;have bK:e.on<j:=by
   rcases DX e.on j with ce|ce
   .exact ce
   rw[nr,A7 V]at h;simp at h
  have tj:pre.getD e.on 0=(m1 ops []).getD e.on 0:=by rw[fC,nr,nr,G? V]
  rw[tj]at h;have cP:e.on<ops.length:=by have:=(oC.1 bg).1;omega
  exact ih e.on bK _ (lg cP) (fr _ _ (lg cP) aze) i h
def Og:∀{l:ab c7} {i:R},xe i l=af->∀k o,l[k]?=J o->∀e∈o.after.toList,Region.binds .any e=af->e.on<i+k
 |[],_,_,k,o,h=>aLm
 |o::l,i,h,k,dZ,aB=>by
  simp only[xe,d5]at h;cases k with
  |zero =>simp at aB;subst aB;intro e aX ak;have:=rI.1 h.1 e aX;simpa[ak]using this
  |succ k =>intro e aX ak;have:=Og h.2 k dZ aB e aX ak;omega
end Yp
namespace Yp
open Go
def oE:=@List.drop_eq_getElem_cons
def np:=@List.length_filter_le
def yP:=@List.filter_filter
def ML:=@List.take_append_drop
def ve:=@List.eq_nil_iff_forall_not_mem
def M?:=@List.pairwise_cons
def Nb:=@List.mem_of_getElem?
def M6:=@List.getElem?_map
def M7:=@Nat.lt_trichotomy
def TQ:=@List.getElem_take
def TR:=@List.getElem_drop
variable {P:d_}
section
variable {K:Kp} {w0:bu} {E:dO} {nt:R} {ops:cO c7} {b8:ab fU}
def nJ(j:R):R->aE:=λi=>decide (i<j)
def mg(j:R):R->aE:=λi=>decide (i<=j)
def fW(cS:cO aE):R->aE:=λi=>cS.getD i ag
def MP{cS:cO aE}(aF:j<cS.size)(i:R):fW (cS.setIfInBounds j af) i=(decide (i=j)||fW cS i):=by
 unfold fW;by_cases h:i=j
 .subst h;simp[aF]
 simp[MK<|Hm h,h]
structure mr(E:dO)(nt:R)(ops:cO c7)(b8:ab fU)(g0:R->aP)(B0:R->bm):Prop where
 is:b8.map (·.i)=List.range' 0 ops.size
 os:b8.map (·.o)=ops.toList
 valid:yU E ops.toList nt af b8 g0 B0
 slots:LQ ops.toList (m1 ops.toList []) 0 ops.toList []=af
 edges:xe 0 ops.toList=af
 ord:b8.Pairwise λe1 bh=>∀id,TM e1 bh id->g' ((m1 ops.toList []).getD bh.i 0) e1.i=af
variable {g0:R->aP} {B0:R->bm}
theorem mr.len(f:mr E nt ops b8 g0 B0):b8.length=ops.size:=by
 have:=d4 T f.is
 grind
def mr.at(f:mr E nt ops b8 g0 B0){e:fU}(h:b8[k]?=J e):e.i=k/\ops.toList[k]?=J e.o:=by
 have Y:(b8.map (·.i))[k]?=J e.i:=by rw[M6,h];rfl
 have ac:(b8.map (·.o))[k]?=J e.o:=by rw[M6,h];rfl
 rw[f.is,List.getElem?_range']at Y
 .rw[f.os]at ac
  grind
 grind
def mr.iF(f:mr E nt ops b8 g0 B0){e:fU}(h:e∈b8):b8[e.i]?=J e:=by
 obtain⟨k,aB,rfl⟩:=sO h;have:=f.at<|lg aB
 grind
def mr.split(f:mr E nt ops b8 g0 B0){e:fU}(h:e∈b8):∃pre post,b8=pre++e::post/\(∀x∈pre,x.i<e.i)/\(∀x∈post,e.i<x.i):=by
 have hg:=f.iF h;obtain⟨bK,aX⟩:=oC.1 hg;refine⟨b8.take e.i,b8.drop<|e.i+1,?_,λx hx => ?_,λx hx => ?_⟩
 .have Y:b8.drop e.i=e::b8.drop (e.i+1):=by rw[oE bK,aX]
  rw[<- Y,ML]
 .obtain⟨k,aB,rfl⟩:=sO hx
  rw[jl]at aB;have:b8[k]?=J (b8.take e.i)[k]:=by rw[TQ];exact lg V
  rw[(f.at this).1];omega
 obtain⟨k,aB,rfl⟩:=sO hx;rw[dV]at aB;have:b8[e.i+1+k]?=J (b8.drop<|e.i+1)[k]:=by rw[TR];exact lg V
 rw[(f.at this).1];omega
def mr.ka(f:mr E nt ops b8 g0 B0){e1 bh:fU}(Y:e1∈b8)(ac:bh∈b8)(bK:e1.i<bh.i){id:R}(h:TM e1 bh id):g' ((m1 ops.toList []).getD bh.i 0) e1.i=af:=by
 obtain⟨pre,post,hs,tj,xK⟩:=f.split Y;have hp:=f.ord;rw[hs]at hp ac;rcases i7.1 ac with ac|ac
 .have:=tj bh ac;omega
 rcases mU.1 ac with rfl|ac
 .omega
 have:=(List.pairwise_append.1 hp).2.1;exact(M?.1 this).1 bh ac id h
def mr.SM(f:mr E nt ops b8 g0 B0){e1 bh:fU}(Y:e1∈b8)(ac:bh∈b8)(bK:e1.i<bh.i)
  (h:(e1.o.dst=J t/\(g' (lB ops.toList bh.o) t=af\/bh.o.dst=J t))\/(g' (lB ops.toList e1.o) t=af/\bh.o.dst=J t)) :
  g' ((m1 ops.toList []).getD bh.i 0) e1.i=af:=by
 have aA:=(anJ f.slots).2 e1.i bh.i e1.o bh.o bK (f.at<|f.iF Y).2 (f.at<|f.iF ac).2;simp at aA;rcases aA with⟨c1,c2⟩|aA
 .exfalso
  rcases h with⟨d1,d2⟩|⟨d1,d2⟩
  .refine ajh c1 (ace d1) ?_
   grind [ace]
  grind [ajh,ace]
 exact aA
def sJ(ops:cO c7)(L:R->aE):Prop:=∀i o,ops.toList[i]?=J o->L i=af->∀e∈o.after.toList,Region.binds .any e=af->L e.on=af
structure Next(ops:cO c7)(L:R->aE)(e:fU):Prop where
 un:L e.i=ag
 ed:∀x∈e.o.after.toList,Region.binds .any x=af->L x.on=af
def Next.Oh(f:mr E nt ops b8 g0 B0){L:R->aE}(fr:sJ ops L){e x:fU}(aX:e∈b8)(ax:Next ops L e)(ak:g' ((m1 ops.toList []).getD e.i 0) x.i=af):L x.i=af:=
 UC fr e.i e.o (f.at<|f.iF aX).2 ax.ed x.i ak
def Next.Tw(f:mr E nt ops b8 g0 B0){L:R->aE}(fr:sJ ops L){e x:fU}(hx:x∈b8)(ax:Next ops L e)(ak:g' ((m1 ops.toList []).getD x.i 0) e.i=af):L x.i=ag:=by
 cases hL:L x.i with
 |false=>rfl
 |true =>have:=UC fr x.i x.o (f.at<|f.iF hx).2 (fr _ _ (f.at<|f.iF hx).2 hL) e.i ak;rw[ax.un]at this;cases this
def aHl{e:fU}{pre post:ab fU}(tj:∀x∈pre,x.i<e.i)(xK:∀x∈post,e.i<x.i)(t:R):gt (pre++e::post) (nJ e.i) g0 t=gt pre (λ_=>af) g0 t:=by
 rw[abg];have Y:∀(g:R->aP),gt (e::post) (nJ e.i) g t=g t:=λg=>by
  have:gt (e::post) (nJ e.i) g t=gt (e::post) (λ_=>ag) g t:=Az _ rfl λx hx _=>by
   grind [nJ]
  rw[this];have:∀(l:ab fU) (g:R->aP),gt l (λ_=>ag) g=g:=by
   intro l;exact aLe
  rw[this]
 grind [Az,nJ]
def aog{e:fU}{pre post:ab fU}(tj:∀x∈pre,x.i<e.i)(xK:∀x∈post,e.i<x.i)(id:R):e5 (pre++e::post) (nJ e.i) B0 id=e5 pre (λ_=>af) B0 id:=by
 rw[abe];have Y:∀(B:R->bm),e5 (e::post) (nJ e.i) B id=B id:=λB=>by
  have:e5 (e::post) (nJ e.i) B id=e5 (e::post) (λ_=>ag) B id:=Ay _ rfl λx hx _=>by
   rcases mU.1 hx with rfl|hx
   .simp[nJ]
   have:=xK x hx;simp only[nJ,decide_eq_false_iff_not];omega
  rw[this];have:∀(l:ab fU) (B:R->bm),e5 l (λ_=>ag) B=B:=by
   intro l;exact aKD
  rw[this]
 rw[Y];exact Ay pre rfl λx hx _=>by have:=tj x hx;simp[nJ,this]
def aGo(f:mr E nt ops b8 g0 B0){L:R->aE}(fr:sJ ops L){e:fU}(aX:e∈b8)(ax:Next ops L e)(ht:g' (lB ops.toList e.o) t=af):gt b8 L g0 t=gt b8 (nJ e.i) g0 t:=by
 refine Az b8 rfl λx hx a? => ?_;rcases M7 x.i e.i with h|h|h
 .have:=ax.Oh f fr aX (f.SM hx aX h<|.inl ⟨a?,.inl ht⟩)
  simp[nJ,h,this]
 .rw[h,ax.un];simp[nJ]
 have:=ax.Tw f fr hx<|f.SM aX hx h<|.inr ⟨ht,a?⟩;rw[this];simp only[nJ];symm;simp;omega
def am9(f:mr E nt ops b8 g0 B0){L:R->aE}(fr:sJ ops L){e:fU}(aX:e∈b8)(ax:Next ops L e){id:R}(ht:id∈e.rb\/id∈e.wr.map (·.1)):e5 b8 L B0 id=e5 b8 (nJ e.i) B0 id:=by
 refine Ay b8 rfl λx hx a? => ?_;rcases M7 x.i e.i with h|h|h
 .have:=ax.Oh f fr aX (f.ka hx aX h (id:=id)<|ht.elim (λh=>.inl ⟨a?,h⟩)<|λh=>.inr<|.inl ⟨a?,h⟩)
  simp[nJ,h,this]
 .rw[h,ax.un];simp[nJ]
 have:=ax.Tw f fr hx<|f.ka aX hx h (id:=id) (ht.elim (λh=>.inr<|.inr<|.inl ⟨h,a?⟩)<|λh=>.inr<|.inl ⟨h,a?⟩)
 grind [nJ]
def add(L:R->aE)(j:R):R->aE:=λi=>decide (i=j)||L i
def apW(f:mr E nt ops b8 g0 B0){L:R->aE}(fr:sJ ops L){e:fU}(aX:e∈b8)(ax:Next ops L e):lV (gt b8 L g0) e.o.dst e.v=gt b8 (add L e.i) g0:=by
 funext t;by_cases a?:e.o.dst=J t
 .have Y:gt b8 (add L e.i) g0 t=gt b8 (mg e.i) g0 t:=Az b8 rfl λx hx B3=>by
   rcases M7 x.i e.i with h|h|h
   .have:=ax.Oh f fr aX (f.SM hx aX h<|.inl ⟨B3,.inr a?⟩)
    grind [mg,add]
   .grind [mg,add]
   have:=ax.Tw f fr hx<|f.SM aX hx h (.inl ⟨a?,.inr B3⟩)
   grind [mg,add]
  rw[Y];obtain⟨pre,post,hs,tj,xK⟩:=f.split aX;have ac:∀(g:R->aP),gt (e::post) (mg e.i) g t=e.v:=λg=>by
   simp only[gt];have:gt post (mg e.i) (bif mg e.i e.i then lV g e.o.dst e.v else g) t=gt post (λ_=>ag) (bif mg e.i e.i then lV g e.o.dst e.v else g) t:=Az _ rfl λx hx _=>by
    grind [mg]
   rw[this];have:∀(l:ab fU) (g:R->aP),gt l (λ_=>ag) g=g:=by
    intro l;exact aLe
   simp_all[mg,lV,qw]
  simp_all[abg,lV,qw]
 have Y:lV (gt b8 L g0) e.o.dst e.v t=gt b8 L g0 t:=by
  cases aIJ:e.o.dst with
  |none=>rfl
  |some d=>simp only[lV,qw];rw[aD];intro h;exact a? (by grind)
 rw[Y];refine Az b8 rfl λx hx B3 => ?_;by_cases Yk:x.i=e.i
 .exact aN5
 simp[add,Yk]
def apV(f:mr E nt ops b8 g0 B0){L:R->aE}(fr:sJ ops L){e:fU}(aX:e∈b8)(ax:Next ops L e):en (e5 b8 L B0) e.wr=e5 b8 (add L e.i) B0:=by
 funext id;by_cases a?:id∈e.wr.map (·.1)
 .have Y:e5 b8 (add L e.i) B0 id=e5 b8 (mg e.i) B0 id:=Ay b8 rfl λx hx B3=>by
   rcases M7 x.i e.i with h|h|h
   .have:=ax.Oh f fr aX (f.ka hx aX h (id:=id)<|.inr<|.inl ⟨B3,a?⟩)
    grind [mg,add]
   .grind [mg,add]
   have:=ax.Tw f fr hx<|f.ka aX hx h (id:=id) (.inr<|.inl ⟨a?,B3⟩)
   grind [mg,add]
  rw[Y];obtain⟨pre,post,hs,tj,xK⟩:=f.split aX;have ac:∀(B:R->bm),e5 (e::post) (mg e.i) B id=oX e.wr id (B id):=λB=>by
   simp only[e5];have:e5 post (mg e.i) (bif mg e.i e.i then en B e.wr else B) id=e5 post (λ_=>ag) (bif mg e.i e.i then en B e.wr else B) id:=Ay _ rfl λx hx _=>by
    grind [mg]
   rw[this];have:∀(l:ab fU) (g:R->bm),e5 l (λ_=>ag) g=g:=by
    intro l;exact aLe
   simp_all[mg,en]
  have av:e5 b8 (mg e.i) B0 id=oX e.wr id (e5 pre (mg e.i) B0 id):=by rw[hs,abe];exact ac _
  rw[av];exact ajw _ _ _ a?
 have Y:en (e5 b8 L B0) e.wr id=e5 b8 L B0 id:=zS _ _ a?;rw[Y];refine Ay b8 rfl λx hx B3 => ?_;by_cases Yk:x.i=e.i
 .exact aN5
 simp[add,Yk]
def W5{o:c7}{nn:aE}(Y:o.guard=J (j,nn))(ac:(ops.toList[j]?).bind (·.dst)=J d):g' (lB ops.toList o) d=af:=by
 have ak:∀(l:ab R),d∈l->g' (bits l) d=af:=by
  intro l h;induction l with
  |nil=>simp at h
  |cons x l ih=>
   simp only[bits,TK,A2];rcases mU.1 h with rfl|h
   .left;simp
   right;exact ih h
 refine ak _<|DM _ ?_;rw[Y];simp only[afW];cases bg:ops.toList[j]? with
 |none=>rw[bg]at ac;cases ac
 |some dZ =>rw[bg]at ac;have ac:dZ.dst=J d:=ac;simp[ac]
def aos(hT:ou P E.cp)(dc:qS P E.cp E.C)(ii:sf P E.M)(dG:pV P E K w0)(eD:∀f g,E.I f=J g->lh P f g)(f:mr E nt ops b8 g0 B0){Q:Exit->Act->bu->Prop}{mF:cV}{DS:R->Prop}{fk:bu}{hM:Act}(fg:nt<=hM.tmps.size)
  (bD:∀phx' aZ w' bn,cd K w0 phx' aZ (e5 b8 (λ_=>af) B0) w'->c8 mF DS B0 fk phx' aZ (e5 b8 (λ_=>af) B0) w'->eh phx' (view w' aZ) (e5 b8 (λ_=>af) B0) (gt b8 (λ_=>af) g0) bn->iw (fD ops.toList) hM bn->Q .normal bn w') :
  ∀(h7:R) (cS:cO aE) (phx:cV) (M:R->Prop) (w:bu) (a:Act),cS.size=ops.size->sJ ops (fW cS)->T ((fw ops.size).filter λi=>!(fW cS i))<=h7 ->
   cd K w0 phx M (e5 b8 (fW cS) B0) w->c8 mF DS B0 fk phx M (e5 b8 (fW cS) B0) w->eh phx (view w M) (e5 b8 (fW cS) B0) (gt b8 (fW cS) g0) a->iw (fD ops.toList) hM a->wpAny P .any ops Q h7 cS a w:=by

 have all:∀cS:cO aE,cS.size=ops.size->Region.ready .any ops cS=[]->∀i,i<ops.size->fW cS i=af:=by
  intro cS kS az i;induction i using Nat.strongRecOn with
  |_ i ih=>
   intro ao;cases hL:fW cS i with
   |true=>rfl
   |false=>
    exfalso;have nF:i∈Region.ready .any ops cS:=by
     rw[mem_ready];refine⟨?_,ops[i],w2 ao,λe aX ak => ?_⟩
     .unfold fW at hL
      have:i<cS.size:=V;simp[this]at hL ⊢;exact hL
     have bK:=Og f.edges i ops[i] (by rw[yM];exact w2 ao) e (by simpa using aX) ak;exact ih e.on V V
    rw[az]at nF;cases nF
 have hC:∀(cS:cO aE) (phx:cV) (M:R->Prop) (w:bu) (a:Act),cS.size=ops.size->Region.ready .any ops cS=[]->cd K w0 phx M (e5 b8 (fW cS) B0) w->c8 mF DS B0 fk phx M (e5 b8 (fW cS) B0) w ->
   eh phx (view w M) (e5 b8 (fW cS) B0) (gt b8 (fW cS) g0) a->iw (fD ops.toList) hM a->Q .normal a w:=by
  intro cS phx M w a kS az hm aX hs aB;have hL:=all cS kS az;have dP:∀x∈b8,fW cS x.i=af:=λx hx=>hL _ (by have:=(oC.1<|f.iF hx).1;rw[f.len]at this;exact this)
  have Wf:e5 b8 (fW cS) B0=e5 b8 (λ_=>af) B0:=funext λid=>Ay b8 rfl λx hx _=>dP x hx;have avp:gt b8 (fW cS) g0=gt b8 (λ_=>af) g0:=funext λt=>Az b8 rfl λx hx _=>dP x hx;rw[Wf]at hm aX hs;rw[avp]at hs;exact bD phx M w a hm aX hs aB
 intro h7;induction h7 with
 |zero=>
  intro cS phx M w a kS fr O4 hm aX hs aB;have az:Region.ready .any ops cS=[]:=by
   rw[ve];intro i ao;obtain⟨aC,o,bg,_⟩:=mem_ready.1 ao;have bK:i<ops.size:=(jO.1 bg).1;have:i∈(fw ops.size).filter λi=>!(fW cS i):=by rw[vh];refine⟨rK.2 bK,?_⟩;unfold fW;have:i<cS.size:=V;simp[this]at aC ⊢;exact aC
   rw[mW.1<|Nat.le_zero.1 O4]at this;cases this
  exact⟨az,hC cS phx M w a kS az hm aX hs aB⟩
 |succ h7 ih=>
  intro cS phx M w a kS fr O4 hm aX hs aB;refine⟨λaz=>hC cS phx M w a kS az hm aX hs aB,λj aF => ?_⟩;obtain⟨aC,o,bg,BK⟩:=mem_ready.1 aF;have bK:j<ops.size:=(jO.1 bg).1;have E2:j<cS.size:=V;have ahv:fW cS j=ag:=by unfold fW;simp[E2]at aC ⊢;exact aC

  obtain⟨e,ur⟩:∃e,b8[j]?=J e:=⟨_,lg (by rw[f.len];exact bK)⟩;have nF:e∈b8:=Nb ur;obtain⟨ah0,zs⟩:=f.at ur;have aip:e.o=o:=by rw[yM,bg]at zs;exact(pb zs).symm
  have ax:Next ops (fW cS) e:=⟨by rw[ah0];exact ahv,λx hx ak=>by rw[aip]at hx;exact BK x (by simpa using hx) ak⟩
  obtain⟨pre,post,iT,tj,xK⟩:=f.split nF;have a3:=f.valid;rw[iT]at a3;obtain⟨hd,jo⟩:=yU.at pre a3;have IM:∀t,g' (lB ops.toList e.o) t=af->gt b8 (fW cS) g0 t=gt pre (λ_=>af) g0 t:=λt ht=>by rw[aGo f fr nF ax ht,<- aHl (g0:=g0) tj xK t,<- iT]
  have axj:∀id,id∈e.rb->e5 b8 (fW cS) B0 id=e5 pre (λ_=>af) B0 id:=λid hid=>by rw[am9 f fr nF ax<|.inl hid,<- aog (B0:=B0) tj xK id,<- iT]
  have ayh:(yV ops.toList e.o (gt b8 (fW cS) g0)/\∃gm,t2 gm e.v/\(tv E e.o).bC (gt b8 (fW cS) g0) (e5 b8 (fW cS) B0)=J (gm,en (e5 b8 (fW cS) B0) e.wr)) \/
    (Hg ops.toList e.o (gt b8 (fW cS) g0)/\e.v=.undef/\e.wr=[]) \/
    (yV ops.toList e.o (gt b8 (fW cS) g0)/\∃gm,t2 gm e.v/\yG E ops.toList e.o (gt b8 (fW cS) g0) (e5 b8 (fW cS) B0) gm e.rb e.wr):=by
   rcases jo with⟨bR,gm,zy,_,Je⟩|⟨bR,zB,E9,_⟩|⟨_,bR,gm,zy,dP⟩
   .left
    refine⟨?_,gm,zy,Je rfl _ _ IM axj⟩;exact aLp
   .right;left
    obtain⟨uD,nn,d,b0,bT,dE⟩:=bR;exact⟨⟨uD,nn,d,b0,bT,by rw[IM d<|W5 b0 bT];exact dE⟩,zB,E9⟩
   right;right;refine⟨?_,gm,zy,dP.congr IM λid hid => ?_⟩
   .exact aLp
   rw[am9 f fr nF ax hid,<- aog (B0:=B0) tj xK id,<- iT]
  have II:fW (cS.setIfInBounds j af)=add (fW cS) e.i:=by funext i;rw[MP E2,ah0];rfl
  have ay9:nt<=a.tmps.size:=by rw[aB.1];exact fg
  have th:=agi (P:=P) (Kn:=wpAny P .any ops Q h7<|cS.setIfInBounds j af) (Q:=Q) hT dc ii dG eD hd ay9 hm hs ayh λphx' aZ w' x b' e1 bX=>by
   rw[apV f fr nF ax,<- II]at b' e1 bX;rw[apW f fr nF ax,<- II]at bX;refine ih (cS.setIfInBounds j af) phx' aZ w' _ (by simpa using kS) ?_ ?_ b' (aX.trans e1) bX<|aB.sub (iw.put (D:=fD ops.toList) λd a? => ?_) (λt h=>h) (λt h=>h)
   .intro i akn XW zn x hx ak
    rw[MP E2]at zn ⊢;simp only[A2,lH]at zn ⊢;right;rcases zn with zn|zn
    .subst zn
     have:akn=e.o:=by rw[zs]at XW;exact(pb XW).symm
     subst this;exact ax.ed x hx ak
    exact fr i akn XW zn x hx ak
   .have cP:T ((fw ops.size).filter λi=>!(fW (cS.setIfInBounds j af) i))<T ((fw ops.size).filter λi=>!(fW cS i)):=by
     have zz:((fw ops.size).filter λi=>!(fW (cS.setIfInBounds j af) i))=((fw ops.size).filter λi=>!(fW cS i)).filter λi=>!(decide (i=j)):=by rw[yP];congr 1;funext i;rw[MP E2,Bool.not_or]
     rw[zz];have jE:j∈((fw ops.size).filter λi=>!(fW cS i)):=by rw[vh];exact⟨rK.2 bK,by rw[ahv];rfl⟩
     exact List.length_filter_lt_length_iff_exists.2 ⟨j,jE,bP⟩
    omega
   have:∀(l:ab c7),e.o∈l->d∈fD l:=by
    intro l hl;induction l with
    |nil=>cases hl
    |cons y l ih=>
     rcases mU.1 hl with h|h
     .exact(vI y l).1 d (by rw[<- h];exact a?)
     exact(vI y l).2 d<|ih h
   exact this _<|Nb zs
  unfold wpOp;rw[bg];simp only;rw[aip]at th;split
  .rename_i bR;rw[aH bR]at th;exact .inl th
  rename_i bR;rw[aD bR]at th;exact th
def aFu(hT:ou P E.cp)(dc:qS P E.cp E.C)(ii:sf P E.M)(dG:pV P E K w0)(eD:∀f g,E.I f=J g->lh P f g)(jX:P.follows .mixedOrders=af)(fg:nt<=1000000){id:R}{s:bd}{k:bd->bi ρ}{r:ρ}
  (h:((pQ E ops.toList nv nt dX af 0 ops.toList s []).bind k).cf=J r) {phx:cV} {M:R->Prop} {w:bu} {a:Act} (hm:cd K w0 phx M s.bz w) (hs:eh phx (view w M) s.bz s.cw a) (g8:nt<=a.tmps.size)
  {Q:Exit->Act->bu->Prop}
  (bD:∀aT phx' aZ w' bn,(k aT).cf=J r->eQ (fD ops.toList) s aT->cd K w0 phx' aZ aT.bz w'->c8 phx M s.bz w phx' aZ aT.bz w'->eh phx' (view w' aZ) aT.bz aT.cw bn->iw (fD ops.toList) a bn->Q .normal bn w') :
  (Code.region id ops dX).wp P Q a w:=by
 obtain⟨aT,⟨b8,bX,Y,ac,av,aJ,bv,c_,eJ,cH⟩,aB⟩:=amp fg _ _ _ _ _ k r h;have hC:∀phx' aZ w' bn,cd K w0 phx' aZ (e5 b8 (λ_=>af) s.bz) w'->c8 phx M s.bz w phx' aZ (e5 b8 (λ_=>af) s.bz) w'->eh phx' (view w' aZ) (e5 b8 (λ_=>af) s.bz) (gt b8 (λ_=>af) s.cw) bn->iw (fD ops.toList) a bn->Q .normal bn w':=aC_
 cases dX with
 |false =>refine wp_region_list ?_;have:=aot (P:=P) hT dc ii dG eD (ops:=ops) (Q:=Q) b8 av hm hs g8 (by rw[ac];exact hC);rw[ac]at this;exact this
 |true=>
  obtain⟨az,bg⟩:=cH rfl;simp only[Li,d5]at az;refine wp_region_any jX ?_;have f:mr E nt ops b8 s.cw s.bz:=⟨aPy,ac,av,az.2,az.1,ZM<|by simpa using bg⟩;have vP:fW (hK ops.size ag)=λ_=>ag:=aM8
  have Cm:∀(l:ab fU) (B:R->bm),e5 l (λ_=>ag) B=B:=by
   intro l;exact aKD
  have Za:∀(l:ab fU) (g:R->aP),gt l (λ_=>ag) g=g:=by
   intro l;exact aMs
  have hi:cd K w0 phx M s.bz { w with drawn:=w.drawn+1 }:={ hm with keep:=hm.keep,blks:=hm.blks };refine aos (P:=P) (K:=K) (w0:=w0) hT dc ii dG eD f g8 hC ops.size _ phx M { w with drawn:=w.drawn+1 } a bP ?_ ?_ ?_ ?_ ?_ (iw.refl _ _)
  .intro i o _ h;rw[vP]at h;cases h
  .exact i6 (np _ _) bP
  .rw[vP,Cm];exact hi
  .exact aNH
  rw[vP,Cm,Za];exact hs
end
end Yp
namespace Yp
open Go
variable {P:d_}
section
variable {K:Kp} {w0 w:bu} {phx:cV} {M:R->Prop} {B B':R->bm} {g:R->aP} {H:cX} {E:dO}
def qa{s:bd}{m:aR α}{k:α×bd->bi β}{r:β}(h:((aR.jW s m).bind k).cf=J r):
  ∃a wr,m.bC s.cw s.bz=J (a,en s.bz wr)/\(k (a,s.fc wr)).cf=J r:=by
 unfold aR.jW at h;rw[bi.gg]at h;obtain⟨a,e,Y,ac⟩:=aR.ams s m 0 [] [] _ r h;simp only[bd.Lx,bi.bind]at ac;exact⟨a,e.wr,Y,ac⟩
def l4(phx:cV)(M:R->Prop)(B:R->bm)(U:R->Prop):Prop:=(∀j,(B j).gB=af->∀z,phx j=J z->¬U z.1)/\∀b,U b->M b
theorem l4.bL{B':R->bm}{U:R->Prop}(h:l4 phx M B U)(a4:∀j,(B' j).gB=af->(B j).gB=af):l4 phx M B' U:=⟨λj aF=>h.1 j<|a4 j aF,h.2⟩
def l4.abI{aZ:R->Prop}{U:R->Prop}(h:l4 phx M B U)(ht:pj phx M B aZ B'):l4 phx aZ B' U:=by refine⟨λj aF=>h.1 j<|ht.2 j aF,λb ak=>lI λax => ?_⟩;obtain⟨j,aF,z,bN,rfl⟩:=ht.1 b (h.2 b ak) ax;exact h.1 j aF z bN ak
theorem w4.bL{lo:R->Prop}{U:R->Prop}{aZ:R->Prop}{e:aw}{l:ab e.a_}{v:aS}(h:w4 w M lo U e l v b)(a3:(view w M).cU<|view w aZ)(eE:aZ b):w4 w aZ lo U e l v b:=by obtain⟨o,c,el,fz,cap,Y,ac,av,aJ,bv,c_,eJ,cH,kO,n_⟩:=h;exact⟨o,c,el,fz,cap,Y,ac,av,aJ,bv,c_.mono a3,eJ,eE,kO,n_⟩
def abH(hm:cd K w0 phx M B w){id:R}{e:aw}{l:ab e.a_}(a4:B id=.ob e l){v:aS}(ct:off+n<=T l)(az:iO phx id e off n v){U:R->Prop}(ef:l4 phx M B U):
  cd K w0 phx M (dx B id .ga) w/\c8 phx M B w phx M (dx B id .ga) w /\
   ((cut l off n=[]/\(∃a,v=.slice a 0 0)/\l4 phx M (dx B id .ga) U)\/∃b,w4 w M (λb=>¬K.k b) U e (cut l off n) v b/\l4 phx M (dx B id .ga) λj=>U j\/j=b):=by
 obtain⟨b',e1⟩:=hm.ga id;refine⟨b',e1,?_⟩;have oc:∀j,((dx B id .ga) j).gB=af->j≠id/\(B j).gB=af:=λj aF=>by
  by_cases h:j=id
  .subst h;rw[fH]at aF;cases aF
  rw[eY _ _ h]at aF;exact⟨h,aF⟩
 have et:=hm.blks id;rw[a4]at et;rcases az with⟨Y,a,ac⟩|⟨b,o,m,cap,Y,ac,av,aJ,bv⟩
 .left
  exact⟨mW.1 (by rw[mw ct];exact Y),⟨a,ac⟩,ef.bL λj aF=>(oc j aF).2⟩
 rcases et.2 with⟨b0,_⟩|⟨eH,dZ,c,el,fz,b0,bT,dE,g6,lP⟩
 .rw[b0]at Y;cases Y
 rw[Y]at b0;cases b0;right;refine⟨b,⟨o+off*e.size,c,el,fz,cap,by rw[mw ct];exact ac,by rw[mw ct];exact av,aJ,by rw[lf]at bv;omega,bT,⟨?_,λi x ao => ?_⟩,g6,lP,?_,ef.1 id af_ _ Y⟩,⟨λj aF z bN aA => ?_,λj aF=>aF.elim (ef.2 j)<|λh=>h▸lP⟩⟩
 .rw[mw ct]
  have:=dE.1;have c_:(off+n)*e.size<=T l*e.size:=jk _ ct;rw[lf]at c_;omega
 .have dP:=JR ao
  rw[mw ct]at dP;rw[HX dP]at ao;have:=dE.2 (off+i) x ao
  rwa [lf,<- l3]at this
 .exact hm.own id af_ _ Y
 obtain⟨eT,aie⟩:=oc j aF;rcases aA with aA|aA
 .exact ef.1 j aie z bN aA
 exact hm.sep j id eT aie af_ z _ bN Y aA
def aHq{r:e6}{v:aP}{x:r.a_}{u:aS}(h:(aon r v).bC g B=J (x,B'))(hm:cd K w0 phx M B w)(az:bI phx (view w M) B v u){U:R->Prop}(ef:l4 phx M B U):
  ∃aZ cv,cd K w0 phx aZ B' w/\c8 phx M B w phx aZ B' w/\l4 phx aZ B' cv/\(∀b,U b->cv b) /\
   ∀{rs:ab e6} {y:e0 rs} {vs:ab aS} {sQ:R->Prop},(view w aZ).cU (view w sQ)->(∀b,cv b->sQ b)->iy w sQ (λb=>¬K.k b) rs y vs cv->iy w sQ (λb=>¬K.k b) (r::rs) (x,y) (u::vs) U:=by
 cases r with
 |im t =>obtain⟨cs,bq,aZ,b',e1,e_,_,f1⟩:=AD h hm az;exact⟨aZ,U,b',e1,ef.abI e_,λ_ h=>h,λa3 _ hrest=>⟨cs,_,by rw[bq],(f1 rfl).mono a3,hrest⟩⟩
 |cl e=>
  cases v<;>try(cases h;done)
  .cases h
   subst az;exact⟨M,U,hm,c8.refl _ _ _ _,ef,λ_ h=>h,λa3 _ hrest=>⟨aq,_,rfl,ba.jt.2 ⟨aq,0,rfl,cx _,V,.inl rfl⟩,hrest⟩⟩
  obtain⟨aA,rfl⟩:=eu h;obtain⟨gy,rfl⟩:=kv aA;subst gy;obtain⟨a,rfl,dc⟩:=az;exact⟨M,U,hm,c8.refl _ _ _ _,ef,λ_ h=>h,λa3 _ hrest=>⟨a,_,rfl,dc.mono a3,hrest⟩⟩
 |ow e=>
  replace h:(S1 e v).bC g B=J (x,B'):=h;have hC:∀{id:R} {l:ab e.a_} {off n:R},B id=.ob e l->off+n<=T l->iO phx id e off n u->∃aZ cv,cd K w0 phx aZ (dx B id .ga) w/\c8 phx M B w phx aZ (dx B id .ga) w/\l4 phx aZ (dx B id .ga) cv/\(∀b,U b->cv b) /\
    ∀{rs:ab e6} {y:e0 rs} {vs:ab aS} {sQ:R->Prop},(view w aZ).cU (view w sQ)->(∀b,cv b->sQ b)->iy w sQ (λb=>¬K.k b) rs y vs cv->iy w sQ (λb=>¬K.k b) (.ow e::rs) ((cut l off n:ab e.a_),y) (u::vs) U:=by
   intro id l off n a4 ct bg;obtain⟨b',e1,av⟩:=abH hm a4 ct bg ef;rcases av with⟨av,aJ,bv⟩|⟨b,av,bv⟩
   .exact⟨M,U,b',e1,bv,λ_ h=>h,λa3 _ hrest=>⟨_,_,rfl,.inl ⟨av,aJ,hrest⟩⟩⟩
   exact⟨M,_,b',e1,bv,λ_ h=>.inl h,λa3 eE hrest=>⟨_,_,rfl,.inr ⟨b,av.bL a3<|eE b<|.inr rfl,hrest⟩⟩⟩
  cases v<;>try(cases h;done)
  case nil =>cases h;subst az;exact⟨M,U,hm,c8.refl _ _ _ _,ef,λ_ h=>h,λa3 _ hrest=>⟨_,_,rfl,.inl ⟨rfl,⟨aq,rfl⟩,hrest⟩⟩⟩
  case own id fm=>
   simp only[S1,aR.bC]at h;have hs:ci phx (view w M) B (.own id fm) u:=az;simp only[ci]at hs;generalize a4:B id=bl at h hs;cases bl<;>try(cases h)
   rename_i b9 l;obtain⟨y,du,Y,ac⟩:=aR.dd h;obtain⟨aA,lp⟩:=eu Y;obtain⟨gy,rfl⟩:=kv aA;subst gy;cases ac
   grind [Ei]
  case osl id off n=>
   simp only[S1,aR.bC]at h;have hs:ci phx (view w M) B (.osl id off n) u:=az;simp only[ci]at hs;generalize a4:B id=bl at h hs;cases bl<;>try(cases h)
   obtain⟨y,du,Y,ac⟩:=aR.dd h;obtain⟨aA,lp⟩:=eu Y;obtain⟨gy,rfl⟩:=kv aA;subst gy;cases ac;rw[lp];exact hC a4 hs.1 hs.2.1
def Gl:∀{rs:ab e6} {vs:ab aP} {us:ab aS} {s:bd} {M:R->Prop} {ρ:Type} {k:e0 rs->bi ρ} {r:ρ} {U:R->Prop},((pN s rs vs).bind k).cf=J r ->
  cd K w0 phx M s.bz w->ha phx (view w M) s.bz vs us->l4 phx M s.bz U->∃x aZ B',(k x).cf=J r/\cd K w0 phx aZ B' w/\(view w M).cU (view w aZ)/\(∀b,U b->aZ b)/\iy w aZ (λb=>¬K.k b) rs x us U
 |[],[],[],s,M,ρ,k,r,U,h,hm,_,ef=>⟨(),M,_,h,hm,cX.cU.refl _,ef.2,rfl⟩
 |[],[],_::_,s,M,ρ,k,r,U,h,hm,hp,ef=>hp.elim
 |[],_::_,_,s,M,ρ,k,r,U,h,hm,hp,ef=>by cases h
 |_::_,[],_,s,M,ρ,k,r,U,h,hm,hp,ef=>by cases h
 |_::_,_::_,[],s,M,ρ,k,r,U,h,hm,hp,ef=>hp.elim
 |t::rs,v::vs,u::us,s,M,ρ,k,r,U,h,hm,hp,ef=>by simp only[pN]at h;rw[bi.gg]at h;obtain⟨x,wr,Y,ac⟩:=qa h;simp only at ac;rw[bi.gg]at ac;obtain⟨gw,vk,b',e1,e_,ct,xM⟩:=aHq Y hm hp.1 ef;rw[<- bd.oN]at b' e1 e_;obtain⟨y,dF,cJ,cn,cR,da,d9,fO⟩:=Gl ac b' (hp.2.ext e1) e_;exact⟨(x,y),dF,cJ,cn,cR,e1.vw.trans da,λb ak=>d9 b<|ct b ak,xM da d9 fO⟩
def uQ(P:d_)(tmps:cO aS)(w:bu):ab ResultVar->ab aS->Prop
 |[],us=>us=[]
 |.tmp t::rs,us=>∃u7,us=tmps.getD t undef::u7/\uQ P tmps w rs u7
 |.cell a t::rs,us=>∃ad u u7,us=u::u7/\tmps.getD a undef=.pointer (J ad)/\(loadVar t ad).run P w=.ok u w/\uQ P tmps w rs u7
def Ao(hT:ou P E.cp):∀{l:ab ResultVar} {s:bd} {ρ:Type} {k:ab aP->bi ρ} {r:ρ} {a:Act},((oq E s l).bind k).cf=J r->cd K w0 phx M s.bz w->eh phx (view w M) s.bz s.cw a ->
  ∃vs us,(k vs).cf=J r/\ha phx (view w M) s.bz vs us/\uQ P a.tmps w l us
 |[],s,ρ,k,r,a,h,hm,hs=>⟨[],[],h,trivial,rfl⟩
 |aaV::l,s,ρ,k,r,a,h,hm,hs=>by
  simp only[oq]at h;rw[bi.gg]at h;obtain⟨v,wr,Y,ac⟩:=qa h;rw[bi.gg]at ac;cases aaV with
  |tmp t =>simp only[al9,aR.bC,jN,mV]at Y;obtain⟨rfl,a4⟩:=Y;obtain⟨vs,us,av,aJ,bv⟩:=Ao hT ac hm hs;exact⟨s.cw t::vs,a.tmps.getD t undef::us,av,⟨hs t,aJ⟩,us,rfl,bv⟩
  |cell ad t=>
   obtain⟨ty,ht,Y⟩:=mE Y;simp only[aR.bC]at Y;have hp:=hs ad;obtain⟨a4,u,b0,bT⟩:=ajp (hT _ _ ht) Y hm hp;obtain⟨vs,us,av,aJ,bv⟩:=Ao hT ac hm hs;have azn:∃q,a.tmps.getD ad undef=.pointer (J q):=by
    generalize s.cw ad=pv at Y hp;cases pv<;>try(cases Y)
    case ptr id p=>
     simp only[zR,aR.bC]at Y;have hp:ci phx (view w M) s.bz (.ptr id p)<|a.tmps.getD ad undef:=hp;simp only[ci]at hp;generalize s.bz id=bl at Y hp;cases bl<;>try(cases Y)
     grind
    case opt id i p=>
     simp only[zR,aR.bC]at Y;have hp:ci phx (view w M) s.bz (.opt id i p)<|a.tmps.getD ad undef:=hp;simp only[ci]at hp;generalize s.bz id=bl at Y hp;cases bl<;>try(cases Y)
     all_goals
      grind
    case ipt e l i p =>obtain⟨_,b,o,n,off,t',_,_,e⟩:=hp;exact⟨_,e⟩
   obtain⟨q,bD⟩:=azn;rw[bD]at b0;refine⟨v::vs,u::us,av,⟨bT,aJ⟩,q,u,us,rfl,bD,?_,bv⟩
   grind [Instr.loadAt,Instr.sureAddr]
def yn{fn:Func}{tmps:cO aS}{us:ab aS}(h:uQ P tmps w fn.results.toList us):(results fn tmps).run P w=.ok (kj us) w:=by
 have key:∀(f:ResultVar->Sem aS),(∀t,f (.tmp t)=pure (tmps.getD t undef))->(∀a t,f (.cell a t)=do loadVar t (<- asAddr (tmps.getD a undef))) ->
   ∀(l:ab ResultVar) (us:ab aS),uQ P tmps w l us->(l.mapM f).run P w=Result.ok us w:=by
  intro f f1 f2 l;induction l with
  |nil=>intro us h;cases h;rfl
  |cons aaV l ih=>
   intro us h;cases aaV with
   |tmp t =>obtain⟨u7,rfl,h⟩:=h;simp[Mw,ih u7 h,f1]
   |cell a t =>obtain⟨ad,u,u7,rfl,Y,ac,av⟩:=h;simp only[Mw,f2,Y,asAddr];simp[ih u7 av,ac]
 unfold results;rw[Array.mapM_eq_mapM_toList];simp only[Sem.run_bind,Sem.run_map];rw[key _ (λ_=>rfl) (λ_ _=>rfl) _ _ h];match us with
 |[]=>rfl
 |[_]=>rfl
 |_::_::_=>rfl
end
end Yp
namespace Yp
open Go
variable {P:d_}
def jQ(B B':R->bm):Prop:=∀id,((∃t v,B id=.box t v)\/∃s p,B id=.it s p)->B' id=B id
theorem jQ.refl(B:R->bm):jQ B B:=λ_ _=>rfl
def jQ.trans{B B' G6:R->bm}(h:jQ B B')(k:jQ B' G6):jQ B G6:=λid ao=>by have Y:=h id ao;rw[k id<|by grind,Y]
theorem jQ.cA{B:R->bm}{id:R}{e:aw}{l:ab e.a_}(h:B id=.ob e l)(b:bm):jQ B<|dx B id b:=λj aF=>by
 rw[eY]
 grind
section
variable {g:R->aP}
def aFY{fy:aE}{id:R}{e:aw}{x:ab e.a_}{B B':R->bm}(h:(uU fy id e).bC g B=J (x,B')):jQ B B':=by
 simp only[uU,aR.bC]at h;generalize a4:B id=bl at h;cases bl<;>try(cases h)
 .obtain⟨y,du,Y,ac⟩:=aR.dd h
  obtain⟨_,lp⟩:=eu Y;cases fy with
  |false=>cases ac;rw[lp];exact jQ.refl _
  |true=>cases ac;rw[lp];exact jQ.cA a4 _
 exact aA_
def aom{fy:aE}:∀{pv:aP} {t:aw} {x:t.a_} {B B':R->bm},Cq pv=af->(AC fy pv t).bC g B=J (x,B')->jQ B B':=by
 intro pv;induction pv with
 |own id fm=>
  intro t x B B' _ h;cases t<;>try(cases h)
  exact aFY h
 |osl id off n=>intro t x B B' ax;cases ax
 |two u v bq a3=>
  intro t x B B' ax h;simp only[Cq,d5]at ax;cases t<;>try(cases h)
  obtain⟨y,du,Y,ac⟩:=aR.dd h;obtain⟨z,cJ,av,aJ⟩:=aR.dd ac;cases aJ;exact(bq ax.1 Y).trans<|a3 ax.2 av
 |agg t' u bq =>intro t x B B' ax h;have ce:=h;obtain⟨_,ce⟩:=hA ce;exact bq ax ce
 |sc t' y=>intro t x B B' _ h;exact aA_
 |kb b=>intro t x B B' _ h;exact aA_
 |nil=>intro t x B B' _ h;exact aA_
 |csl e l=>intro t x B B' _ h;exact aA_
 |clo f eG dy=>intro t x B B' _ h;exact aA_
 |_=>intro t x B B' _ h;cases h
def akN{e:aw}{pv:aP}{x:ab e.a_}{B B':R->bm}(h:(z4 e pv).bC g B=J (x,B')):jQ B B':=by
 cases pv<;>try(cases h)
 .obtain⟨_,h⟩:=hA (h)
  cases h;exact jQ.refl _
 .rename_i id fm
  exact aKN
 rename_i id off n;exact aKN
def ZP:∀{sh:li} {pv:aP} {x:sh.a_} {B B':R->bm},(CD sh pv).bC g B=J (x,B')->jQ B B'
 |.d t,pv,x,B,B',h=>by obtain⟨ax,h⟩:=hA<|h;exact aom (pv:=pv) ax h
 |.o _ e,pv,x,B,B',h=>akN h
 |.p a b,pv,x,B,B',h=>by
  simp only[CD]at h;cases hs:SQ pv with
  |none=>rw[hs]at h;cases h
  |some aHG =>rw[hs]at h;obtain⟨y,du,Y,ac⟩:=aR.dd h;obtain⟨z,cJ,av,aJ⟩:=aR.dd ac;cases aJ;exact(ZP Y).trans<|ZP av
end
def sS(w:bu)(M:R->Prop)(lo:R->Prop):(sh:li)->sh.a_->ab aS->(R->Prop)->(R->Prop)->Prop
 |.d t,x,cs,U,cv=>ba (view w M) t x cs/\cv=U
 |.o _ e,l,cs,U,cv=>0<e.size/\∃v,cs=[v]/\v.oneCell'=af/\(((l:ab e.a_)=[]/\(∃a,v=.slice a 0 0)/\cv=U)\/∃b,w4 w M lo U e l v b/\cv=λj=>U j\/j=b)
 |.p a b,x,cs,U,cv=>∃c1 c2 kq,cs=c1++c2/\sS w M lo a x.1 c1 U kq/\sS w M lo b x.2 c2 kq cv
def sS.one{w:bu}{M:R->Prop}{lo:R->Prop}:∀{sh:li} {x:sh.a_} {cs:ab aS} {U cv:R->Prop},sS w M lo sh x cs U cv->∀v∈cs,v.oneCell'=af
 |.d t,x,cs,U,cv,h=>h.1.one
 |.o _ e,l,cs,U,cv,h=>by obtain⟨_,v,rfl,Y,_⟩:=h;intro w bR;simp at bR;rw[bR];exact Y
 |.p a b,x,cs,U,cv,h=>by obtain⟨c1,c2,kq,rfl,Y,ac⟩:=h;intro v a3;exact(i7.1 a3).elim (Y.one v)<|ac.one v
theorem sS.sub{w:bu}{M:R->Prop}{lo:R->Prop}:∀{sh:li} {x:sh.a_} {cs:ab aS} {U cv:R->Prop},sS w M lo sh x cs U cv->∀b,U b->cv b
 |.d t,x,cs,U,cv,h=>by intro b ak;rw[h.2];exact ak
 |.o _ e,l,cs,U,cv,h=>by
  obtain⟨_,v,_,_,h⟩:=h
  grind
 |.p a b,x,cs,U,cv,h=>by obtain⟨c1,c2,kq,_,Y,ac⟩:=h;exact λb ak=>ac.sub b<|Y.sub b ak
theorem sS.bL{w:bu}{M aZ:R->Prop}{lo:R->Prop}(a3:(view w M).cU<|view w aZ):∀{sh:li} {x:sh.a_} {cs:ab aS} {U cv:R->Prop},sS w M lo sh x cs U cv->(∀b,cv b->aZ b)->sS w aZ lo sh x cs U cv
 |.d t,x,cs,U,cv,h,_=>⟨h.1.mono a3,h.2⟩
 |.o _ e,l,cs,U,cv,h,eE=>by
  obtain⟨aC,v,Y,ac,h⟩:=h;refine⟨aC,v,Y,ac,?_⟩;rcases h with h|⟨b,h,av⟩
  .grind
  exact .inr ⟨b,h.bL a3<|eE b<|by grind,av⟩
 |.p a b,x,cs,U,cv,h,eE=>by obtain⟨c1,c2,kq,aC,Y,ac⟩:=h;exact⟨c1,c2,kq,aC,Y.bL a3<|λb ak=>eE b<|ac.sub b ak,ac.bL a3 eE⟩
section
variable {K:Kp} {w0 w:bu} {phx:cV} {M:R->Prop} {B B':R->bm} {g:R->aP}
def aG5{H:cX}{pv u v:aP}{an8 o4:aw}{cs:ab aS}(h:SQ pv=J (u,v))(az:fX phx H B pv (.pair an8 o4) cs):∃c1 c2,cs=c1++c2/\fX phx H B u an8 c1/\fX phx H B v o4 c2:=by
 cases pv<;>try(cases h;done)
 .rename_i t x
  cases t<;>try(cases h;done)
  cases h;obtain⟨e,dc⟩:=az;cases e;obtain⟨c1,c2,aC,Y,ac⟩:=ba.nO.1 dc;exact⟨c1,c2,aC,⟨rfl,Y⟩,rfl,ac⟩
 cases h;exact az
def akM{e:aw}{pv:aP}{x:ab e.a_}{v:aS}(h:(z4 e pv).bC g B=J (x,B'))(hm:cd K w0 phx M B w)(az:ci phx (view w M) B pv v){U:R->Prop}(ef:l4 phx M B U):
  0<e.size/\v.oneCell'=af/\∃cv,cd K w0 phx M B' w/\c8 phx M B w phx M B' w/\l4 phx M B' cv/\((x=[]/\(∃a,v=.slice a 0 0)/\cv=U)\/∃b,w4 w M (λb=>¬K.k b) U e x v b/\cv=λj=>U j\/j=b):=by
 cases pv<;>try(cases h;done)
 .obtain⟨aC,h⟩:=hA (show(bif hv 0 e.size then .ret []else .fail:aR<|List e.a_).bC g B=J (x,B') from h)
  cases h;simp only[ci]at az;subst az;exact⟨by simpa using aC,rfl,U,hm,c8.refl _ _ _ _,ef,.inl ⟨rfl,⟨aq,rfl⟩,rfl⟩⟩
 .rename_i id fm
  simp only[z4,aR.bC]at h;have et:=hm.blks id;simp only[ci]at az;generalize a4:B id=bl at h az et;cases bl<;>try(cases h;done)
  rename_i b9 l;obtain⟨y,du,Y,ac⟩:=aR.dd h;obtain⟨aA,lp⟩:=eu Y;obtain⟨gy,rfl⟩:=kv aA;subst gy;cases ac;rw[lp];obtain⟨b',e1,av⟩:=abH hm a4 (off:=0) (n:=T l) V az.1 ef;rw[Ei]at av;obtain⟨ad,c,a3⟩:=az.1.slice;refine⟨et.1,by rw[a3];rfl,?_⟩;rcases av with⟨av,aJ,bv⟩|⟨b,av,bv⟩
  .exact⟨U,b',e1,bv,.inl ⟨av,aJ,rfl⟩⟩
  exact⟨_,b',e1,bv,.inr ⟨b,av,rfl⟩⟩
 rename_i id off n;simp only[z4,aR.bC]at h;have et:=hm.blks id;simp only[ci]at az;generalize a4:B id=bl at h az et;cases bl<;>try(cases h;done)
 rename_i b9 l;obtain⟨y,du,Y,ac⟩:=aR.dd h;obtain⟨aA,lp⟩:=eu Y;obtain⟨gy,rfl⟩:=kv aA;subst gy;cases ac;rw[lp];obtain⟨b',e1,av⟩:=abH hm a4 az.1 az.2.1 ef;obtain⟨ad,c,a3⟩:=az.2.1.slice;refine⟨et.1,by rw[a3];rfl,?_⟩;rcases av with⟨av,aJ,bv⟩|⟨b,av,bv⟩
 .exact⟨U,b',e1,bv,.inl ⟨av,aJ,rfl⟩⟩
 exact⟨_,b',e1,bv,.inr ⟨b,av,rfl⟩⟩
def ZO:∀{sh:li} {pv:aP} {x:sh.a_} {M:R->Prop} {B B':R->bm} {cs:ab aS} {U:R->Prop},(CD sh pv).bC g B=J (x,B')->cd K w0 phx M B w->fX phx (view w M) B pv (GA sh) cs->l4 phx M B U ->
  ∃aZ cv,cd K w0 phx aZ B' w/\c8 phx M B w phx aZ B' w/\l4 phx aZ B' cv/\sS w aZ (λb=>¬K.k b) sh x cs U cv
 |.d t,pv,x,M,B,B',cs,U,h,hm,az,ef=>by obtain⟨_,h⟩:=hA<|h;obtain⟨aZ,b',e1,e_,_,f1⟩:=L2 (pv:=pv) h hm az;exact⟨aZ,U,b',e1,ef.abI e_,f1 rfl,rfl⟩
 |.o _ e,pv,x,M,B,B',cs,U,h,hm,az,ef=>by
  have ce:=h;have lr:∃v,cs=[v]/\ci phx (view w M) B pv v:=by
   cases pv<;>try(cases ce)
   all_goals (obtain⟨_,v,Y,_,ac⟩:=az;exact⟨v,Y,ac⟩)
  obtain⟨v,rfl,lr⟩:=lr;obtain⟨aC,Y,cv,b',e1,e_,ac⟩:=akM ce hm lr ef;exact⟨M,cv,b',e1,e_,aC,v,rfl,Y,ac⟩
 |.p a b,pv,x,M,B,B',cs,U,h,hm,az,ef=>by
  simp only[CD]at h;cases hs:SQ pv with
  |none=>rw[hs]at h;cases h
  |some aHG =>rw[hs]at h;obtain⟨y,du,Y,ac⟩:=aR.dd h;obtain⟨z,cJ,av,aJ⟩:=aR.dd ac;cases aJ;obtain⟨c1,c2,rfl,e9,gK⟩:=aG5 hs az;obtain⟨gw,vk,b',e1,e_,f1⟩:=ZO Y hm e9 ef;obtain⟨dF,apL,cN,bh,fP,f2⟩:=ZO av b' (e1.cp gK) e_;exact⟨dF,apL,cN,e1.trans bh,fP,c1,c2,vk,rfl,f1.bL bh.vw<|λb ak=>fP.2 b<|f2.sub b ak,f2⟩
end
def iL(phx:cV)(w:bu)(M:R->Prop)(B:R->bm)(lo:R->Prop)(a:Act):(es:ab fT)->n4 es->(R->Prop)->(R->Prop)->Prop
 |[],_,U,cv=>cv=U
 |.sl i t::r,x,U,cv=>(∃cs,ba (view w M) t x.1 cs/\a.tmps.getD i undef=db t cs)/\iL phx w M B lo a r x.2 U cv
 |.ow i _ e::r,x,U,cv=>0<e.size/\∃kq,(((x.1:ab e.a_)=[]/\(∃ad,a.tmps.getD i undef=.slice ad 0 0)/\kq=U)\/∃b,w4 w M lo U e x.1 (a.tmps.getD i undef) b/\kq=λj=>U j\/j=b)/\iL phx w M B lo a r x.2 kq cv
 |.bk id e::r,x,U,cv=>B id=.ob e x.1/\iL phx w M B lo a r x.2 U cv
 |.bx id t sh::r,x,U,cv=>(∃v,B id=.box t v)/\GA sh=t/\∃b o c el fz kq,phx id=J (b,o,Array.size c)/\w.heap[b]?=J (.cells c el fz)/\o+t.size<=c.size/\jc c fz/\M b/\sS w M lo sh x.1 (dg c o t.size) U kq/\iL phx w M B lo a r x.2 kq cv
 |.it id _::r,x,U,cv=>(∃s,B id=.it s x.1)/\iL phx w M B lo a r x.2 U cv
theorem iL.sub{phx:cV}{w:bu}{M:R->Prop}{B:R->bm}{lo:R->Prop}{a:Act}:∀{es:ab fT} {x:n4 es} {U cv:R->Prop},iL phx w M B lo a es x U cv->∀b,U b->cv b
 |[],_,U,cv,h=>by intro b ak;rw[h];exact ak
 |.sl i t::r,x,U,cv,h=>h.2.sub
 |.ow i _ e::r,x,U,cv,h=>by
  obtain⟨_,kq,Y,ac⟩:=h;intro b ak;refine ac.sub b ?_
  grind
 |.bk id e::r,x,U,cv,h=>h.2.sub
 |.bx id t sh::r,x,U,cv,h=>by obtain⟨_,_,b,o,c,el,fz,kq,_,_,_,_,_,Y,ac⟩:=h;exact λb ak=>ac.sub b<|Y.sub b ak
 |.it id s::r,x,U,cv,h=>h.2.sub
end Yp
namespace Yp
open Go
def A6:=@List.nodup_append
def Ud:=@List.map_append
def T_:=@List.sublist_cons_self
def MC:=@List.Sublist.append_left
def TE:=@List.nodup_cons
variable {P:d_}
section
variable {K:Kp} {w0 w:bu} {phx:cV} {M:R->Prop} {B B':R->bm} {g:R->aP} {a:Act}
def jQ.box{B B':R->bm}(h:jQ B B'){id:R}{t:aw}{v:aP}(ak:B id=.box t v):B' id=.box t v:=(h id<|.inl ⟨t,v,ak⟩).trans ak
def jQ.it{B B':R->bm}(h:jQ B B'){id:R}{s:ab aN}{p:R}(ak:B id=.it s p):B' id=.it s p:=(h id<|.inr ⟨s,p,ak⟩).trans ak
def CC:∀{es:ab fT} {s:bd} {M:R->Prop} {U:R->Prop} {ρ:Type} {k:n4 es×bd->bi ρ} {r:ρ},((tx s es).bind k).cf=J r->cd K w0 phx M s.bz w->eh phx (view w M) s.bz s.cw a->l4 phx M s.bz U ->
  ∃y aT dF cv,(k (y,aT)).cf=J r/\cd K w0 phx dF aT.bz w/\c8 phx M s.bz w phx dF aT.bz w/\aT.cw=s.cw/\eQ [] s aT/\jQ s.bz aT.bz/\l4 phx dF aT.bz cv/\iL phx w dF aT.bz (λb=>¬K.k b) a es y U cv
 |[],s,M,U,ρ,k,r,h,hm,hs,ef=>⟨(),s,M,U,h,hm,c8.refl _ _ _ _,rfl,eQ.refl _ _,jQ.refl _,ef,rfl⟩
 |.bk id e::es,s,M,U,ρ,k,r,h,hm,hs,ef=>by
  simp only[tx,B7,km]at h;rw[bi.gg]at h;obtain⟨y,aT,dF,cv,Y,cN,bh,fP,f2,sz,pU,rW⟩:=CC h hm hs ef;rw[bi.gg]at Y;simp only[CB]at Y;obtain⟨x,wr,av,aJ⟩:=qa Y;simp only[aR.bC]at av;generalize a4:aT.bz id=bl at av;cases bl<;>try(cases av;done)
  rename_i b9 l;obtain⟨aA,lq⟩:=eu av;obtain⟨gy,rfl⟩:=kv aA;subst gy;rw[<- bd.oN]at lq;refine⟨(l,y),aT.fc wr,dF,cv,aJ,by rw[lq];exact cN,by rw[lq];exact bh,by rw[bd.rq];exact fP,(f2.trans<|eQ.fc wr []).mono bP,by rw[lq];exact sz,by rw[lq];exact pU,?_⟩;rw[lq];exact⟨a4,rW⟩
 |.sl i t::es,s,M,U,ρ,k,r,h,hm,hs,ef=>by simp only[tx,B7,k1]at h;rw[bi.gg]at h;simp only[CB]at h;obtain⟨x,wr,Y,ac⟩:=qa h;simp only at ac;rw[bi.gg]at ac;simp only[aR.bC]at Y;obtain⟨xH,Y⟩:=hA<|show(bif Cq (s.cw i) then nl af t (s.cw i) else .fail:aR t.a_).bC _ _=J (x,_) from Y;obtain⟨cs,a3,gw,b',e1,e_,_,f1⟩:=AD Y hm<|hs i;have eU:=aom (pv:=s.cw i) xH Y;rw[<- bd.oN]at b' e1 e_ eU;obtain⟨y,aT,dF,cv,av,cN,bh,fP,f2,sz,pU,rW⟩:=CC ac b' aNg<|ef.abI e_;exact⟨(x,y),aT,dF,cv,av,cN,e1.trans bh,fP.trans<|bd.rq s wr,((eQ.fc wr []).trans f2).mono bP,eU.trans sz,pU,⟨cs,(f1 rfl).mono bh.vw,a3⟩,rW⟩
 |.ow i id e::es,s,M,U,ρ,k,r,h,hm,hs,ef=>by
  simp only[tx,B7,k1]at h;rw[bi.gg]at h;simp only[CB]at h;obtain⟨x,wr,Y,ac⟩:=qa h;simp only at ac;rw[bi.gg]at ac;simp only[aR.bC]at Y;have lr:ci phx (view w M) s.bz (s.cw i)<|a.tmps.getD i undef:=by
   have az:=hs i;generalize s.cw i=pv at Y az;cases pv<;>try(cases Y;done)
   all_goals exact az
  obtain⟨aC,hone,vk,b',e1,e_,f1⟩:=akM Y hm lr ef;have eU:=akN Y;rw[<- bd.oN]at b' e1 e_ eU;obtain⟨y,aT,dF,cv,av,cN,bh,fP,f2,sz,pU,rW⟩:=CC ac b' aNg e_;refine⟨(x,y),aT,dF,cv,av,cN,e1.trans bh,fP.trans<|bd.rq s wr,((eQ.fc wr []).trans f2).mono bP,eU.trans sz,pU,aC,vk,?_,rW⟩;rcases f1 with f1|⟨b,f1,f3⟩
  .exact .inl f1
  exact .inr ⟨b,f1.bL bh.vw<|pU.2 b<|rW.sub b (by rw[f3];exact .inr rfl),f3⟩
 |.bx id t sh::es,s,M,U,ρ,k,r,h,hm,hs,ef=>by
  simp only[tx,B7,k1]at h;rw[bi.gg]at h;simp only[CB]at h;obtain⟨x,wr,Y,ac⟩:=qa h;simp only at ac;rw[bi.gg]at ac;simp only[aR.bC]at Y;have et:=hm.blks id;generalize a4:s.bz id=bl at Y et;cases bl<;>try(cases Y;done)
  rename_i t' v;obtain⟨aA,Y⟩:=hA Y;simp only[d5]at aA;have e1:=ft aA.1;subst e1;have mf:=ft aA.2;obtain⟨b,o,c,el,fz,b0,bT,dE,g6,lP,uk⟩:=et;obtain⟨gw,vk,b',e1,e_,f1⟩:=ZO Y hm (by rw[mf];exact g6) ef;have eU:=ZP Y;rw[<- bd.oN]at b' e1 e_ eU;obtain⟨y,aT,dF,cv,av,cN,bh,fP,f2,sz,pU,rW⟩:=CC ac b' aNg e_;have lq:aT.bz id=.box t' v:=(eU.trans sz).box a4;have axp:dF b:=by have:=cN.blks id;rw[lq]at this;obtain⟨eH,dZ,dj,zb,qY,cn,_,_,_,_,nQ⟩:=this;rw[b0]at cn;simp only[jN,mV]at cn;rw[cn.1];exact nQ
  exact⟨(x,y),aT,dF,cv,av,cN,e1.trans bh,fP.trans<|bd.rq s wr,((eQ.fc wr []).trans f2).mono bP,eU.trans sz,pU,⟨v,lq⟩,mf,b,o,c,el,fz,vk,b0,bT,dE,lP,axp,
   f1.bL bh.vw (λb ak=>pU.2 b<|rW.sub b ak),rW⟩
 |.it id str::es,s,M,U,ρ,k,r,h,hm,hs,ef=>by
  simp only[tx,B7,k1]at h;rw[bi.gg]at h;simp only[CB]at h;obtain⟨x,wr,Y,ac⟩:=qa h;simp only at ac;rw[bi.gg]at ac;simp only[aR.bC]at Y;generalize a4:s.bz id=bl at Y;rcases bl with _|_|_|_|_|⟨aHc,p⟩|_
  .cases Y
  .cases Y
  .cases Y
  .cases Y
  .cases Y
  .have zj:=pb (show J ((p:R),s.bz)=J ((x:R),en s.bz wr) from Y)
   have hx:p=x:=d4 Prod.fst zj;have lp:s.bz=en s.bz wr:=d4 Prod.snd zj;rw[<- bd.oN]at lp;obtain⟨y,aT,dF,cv,av,cN,bh,fP,f2,sz,pU,rW⟩:=CC ac (by rw[<- lp];exact hm) (by rw[bd.rq,<- lp];exact hs) (by rw[<- lp];exact ef);rw[<- lp]at bh sz;exact⟨(x,y),aT,dF,cv,av,cN,bh,fP.trans<|bd.rq s wr,((eQ.fc wr []).trans f2).mono bP,sz,pU,⟨aHc,by rw[<- hx];exact sz.it a4⟩,rW⟩
  cases Y
def bm.cU.trans{a b c:bm}(h:a.cU b)(k:b.cU c):a.cU c:=by cases a<;>cases b<;>cases c<;>simp only[bm.cU]at h k ⊢ <;> first|exact h.elim|exact k.elim|trivial|exact h.trans k|exact⟨h.1.trans k.1,h.2.trans k.2⟩|exact⟨h.trans k.1,k.2⟩|(obtain⟨Y,ac⟩:=h;obtain⟨rfl,aJ⟩:=k;exact⟨by rw[Y,aJ],ac⟩)
def DJ(phx:cV)(B:R->bm)(Uf A:R->Prop):Prop:=∀j,(B j).gB=af->∀z,phx j=J z->¬Uf z.1\/A z.1
def acW(hm:cd K w0 phx M B w){id:R}(hid:B id=.new){e:aw}(eq:0<e.size){l:ab e.a_}{v:aS}{U cv Uf A:R->Prop}
  (h:(l=[]/\(∃ad,v=.slice ad 0 0)/\cv=U)\/∃b,w4 w M (λb=>¬K.k b) U e l v b/\cv=λj=>U j\/j=b) (n?:∀b,cv b->Uf b) (ee:∀b,A b->cv b->U b) (c6:DJ phx B Uf A) :
  ∃phx',cd K w0 phx' M (dx B id<|.ob e l) w/\c8 phx M B w phx' M (dx B id<|.ob e l) w/\ci phx' (view w M) (dx B id<|.ob e l) (.own id ag) v/\(∀j,j≠id->phx' j=phx j)/\DJ phx' (dx B id<|.ob e l) Uf (λb=>A b\/(cv b/\¬U b)):=by
 rcases h with⟨rfl,⟨ad,rfl⟩,rfl⟩|⟨b,⟨o,c,el,fz,cap,rfl,b4,cz,dw,f6,hj,kT,lv,m?,xU⟩,rfl⟩
 .obtain⟨b',e1⟩:=hm.w8 hid (.ob e []) aq (λ_ y bW=>aPk) (λ_ y bW=>aPk) (λ_=>⟨eq,.inl ⟨nm _ _ _,rfl⟩⟩)
  refine⟨_,b',e1,?_,λj aF=>sE _ _ aF,λj aF z bN => ?_⟩
  .simp only[ci,fH]
   exact aPY
  by_cases eT:j=id
  .grind [nm]
  rw[eY _ _ eT]at aF;rw[sE _ _ eT]at bN;exact(c6 j aF z bN).imp (λh=>h) .inl
 obtain⟨b',e1⟩:=hm.w8 hid (.ob e l) (J (b,o,c.size)) (λ_ y bW aB=>by cases bW;exact m? aB) (λ_ y bW j aF z bN aA=>by
   rcases c6 j aF z bN with h|h
   .grind
   exact xU<|by grind)<|λ_=>⟨eq,.inr ⟨b,o,c,el,fz,nm _ _ _,f6,hj,kT,lv⟩⟩
 refine⟨_,b',e1,?_,λj aF=>sE _ _ aF,λj aF z bN => ?_⟩
 .simp only[ci,fH]
  exact aMh
 by_cases eT:j=id
 .grind [nm]
 rw[eY _ _ eT]at aF;rw[sE _ _ eT]at bN;exact(c6 j aF z bN).imp (λh=>h) .inl
def akJ(B:R->bm):∀(l m:ab<|Nat×bm),en B (l++m)=en (en B m) l
 |[],m=>rfl
 |(i,b)::l,m=>by rw[sN,z3,akJ B l m,z3]
def Yv{Uf:R->Prop}:∀{sh:li} {x:sh.a_} {cs:ab aS} {U cv A:R->Prop} {B:R->bm} {phx:cV},cd K w0 phx M B w->(∀id∈mK sh,B id=.new)->(mK sh).Nodup ->
  sS w M (λb=>¬K.k b) sh x cs U cv->(∀b,cv b->Uf b)->(∀b,A b->cv b->U b)->DJ phx B Uf A ->
  ∃phx' Ty,cd K w0 phx' M (en B (hY sh x).2) w/\c8 phx M B w phx' M (en B (hY sh x).2) w/\fX phx' (view w M) (en B (hY sh x).2) (hY sh x).1 (GA sh) cs /\
   (∀j,j∉mK sh->phx' j=phx j)/\DJ phx' (en B (hY sh x).2) Uf Ty/\(∀b,Ty b->A b\/(cv b/\¬U b))/\(hY sh x).2.map (·.1)=mK sh/\∀p∈(hY sh x).2,∃e l,p.2=.ob e l
 |.d t,x,cs,U,cv,A,B,phx,hm,hid,ja,h,n?,ee,c6=>⟨phx,A,hm,c8.refl _ _ _ _,⟨rfl,h.1⟩,λj _=>rfl,c6,λb ak=>.inl ak,rfl,λp hp=>by simp[hY]at hp⟩
 |.o id e,x,cs,U,cv,A,B,phx,hm,hid,ja,h,n?,ee,c6=>by
  obtain⟨aC,v,rfl,Y,ac⟩:=h;obtain⟨phx',b',e1,e9,dN,cn⟩:=acW hm (hid id<|by simp[mK]) aC ac n? ee c6;have a4:en B (hY (.o id e) x).2=dx B id (.ob e x):=by show en B [(id,.ob e x)]=_;rw[z3];rfl
  rw[a4];refine⟨phx',_,b',e1,⟨rfl,v,rfl,Y,e9⟩,λj aF => ?_,cn,λb ak=>ak,rfl,λp hp => ?_⟩
  .grind [mK]
  grind [hY]
 |.p a b,x,cs,U,cv,A,B,phx,hm,hid,ja,h,n?,ee,c6=>by
  obtain⟨c1,c2,kq,rfl,f1,f2⟩:=h;simp only[mK,A6]at ja;obtain⟨x2,uG,Y?⟩:=ja;have BB:=f2.sub;have ef:=f1.sub;obtain⟨iI,act,b',e1,e9,dN,cn,c9,b4,nL⟩:=Yv (sh:=b) hm (λid ao=>hid id<|by simp[mK,ao]) uG f2 n? (λb ak bq=>ef b<|ee b ak bq) c6;obtain⟨kU,apf,cN,bh,gK,fC,cR,dl,cz,oj⟩:=Yv (sh:=a) (B:=en B (hY b x.2).2) b' (λid ao=>by
   have:en B (hY b x.2).2 id=B id:=zS _ _ (by grind);rw[this];exact hid id<|by simp[mK,ao]) x2 f1 (λb ak=>n? b<|BB b ak) (λb ak bq=>by
    rcases c9 b ak with h|h
    .grind
    exact ev bq h.2) cn
  have a4:en B (hY (.p a b) x).2=en (en B (hY b x.2).2) (hY a x.1).2:=akJ B _ _;rw[a4];refine⟨kU,apf,cN,e1.trans bh,⟨c1,c2,rfl,gK,e9.mono bh.pl bh.vw bh.bl⟩,λj aF => ?_,cR,λeH ak => ?_,by simp only[hY,Ud,b4,cz,mK],λp hp => ?_⟩
  .grind [mK]
  .grind
  grind [hY]
def eh.mJ{H:cX}{s:bd}{B:R->bm}(hs:eh phx H B s.cw a){v:aP}(h:bI phx H B v<|a.tmps.getD i undef):eh phx H B (s.mJ i v).cw a:=by
 intro t;by_cases ht:t=i
 .subst ht
  rcases s.Ix t v with ce|ce<;>rw[ce]
  .exact h
  trivial
 rw[s.xm v ht];exact hs t
def aDY(hm:cd K w0 phx M B w){id:R}{t:aw}{u v:aP}(a4:B id=.box t u){c:cO aS}{el:cD}{fz:R×R}(Y:phx id=J (b,o,c.size))(ac:w.heap[b]?=J (.cells c el fz))(av:o+t.size<=c.size)(aJ:jc c fz)(bv:M b)
  (az:fX phx (view w M) B v t<|dg c o t.size):cd K w0 phx M (dx B id<|.box t v) w/\c8 phx M B w phx M (dx B id<|.box t v) w:=
 hm.put af_ Y bv rfl rfl rfl rfl (λ_ _=>rfl) (.box t v) af_ λaX=>⟨b,o,c,el,fz,Y,ac,av,aX.cp az,aJ,bv⟩
def pg(mF:cV)(cJ:R->bm)(phx:cV)(B:R->bm):ab fT->Prop
 |[]=>True
 |.bk id e::r=>(phx id=mF id/\∃l,B id=.ob e l/\cJ id=.ob e l)/\pg mF cJ phx B r
 |.bx id t _::r=>(phx id=mF id/\B id=.box t .bad)/\pg mF cJ phx B r
 |.it id _::r=>(phx id=mF id/\∃s p,B id=.it s p/\cJ id=.it s p)/\pg mF cJ phx B r
 |_::r=>pg mF cJ phx B r
def pg.congr{mF:cV}{cJ:R->bm}{phx phx':cV}{B B':R->bm}:∀{es:ab fT},pg mF cJ phx B es->(∀id∈eg es,phx' id=phx id/\B' id=B id)->pg mF cJ phx' B' es
 |[],_,_=>trivial
 |.bk id e::r,h,bD=>al_
 |.bx id t sh::r,h,bD=>al_
 |.it id s::r,h,bD=>al_
 |.sl i t::r,h,bD=>pg.congr (es:=r) h bD
 |.ow i id e::r,h,bD=>pg.congr (es:=r) h bD
def qE(B:R->bm)(s:bd)(es:ab fT):Prop:=(∀j,j∉eg es->B j=s.bz j)/\∀j c' p,B j=.it c' p->∃tz,s.bz j=.it c' tz
theorem qE.cA{B:R->bm}{s:bd}{es es':ab fT}(h:qE B s es)(id:R)(b:bm)(ah1:∀j,j∉eg es'->j≠id->j∉eg es):qE (dx B id b) (s.o3 id b) es':=by
 refine⟨λj aF => ?_,λj c' p aF => ?_⟩
 .rw[bd.Bx]
  by_cases eT:j=id
  .grind [fH]
  rw[eY _ _ eT,eY _ _ eT];exact h.1 j<|ah1 j aF eT
 rw[bd.Bx];by_cases eT:j=id
 .grind [fH]
 rw[eY _ _ eT]at aF ⊢;exact h.2 j c' p aF
def qE.over{B:R->bm}{s:bd}{es:ab fT}(h:qE B s es):∀(l:ab<|Nat×bm),qE (en B l) (s.fc l) es
 |[]=>h
 |(i,b)::l=>by rw[z3];exact(qE.over h l).cA i b λj aF _=>aF
def Fe{mF:cV}{cJ:R->bm}{Uf:R->Prop}:∀{es:ab fT} {x:n4 es} {U cv A:R->Prop} {s:bd} {B:R->bm} {phx:cV},cd K w0 phx M B w->eh phx (view w M) B s.cw a->qE B s es->(∀id∈i3 es,B id=.new)->(i3 es++eg es).Nodup ->
  iL mF w M cJ (λb=>¬K.k b) a es x U cv->pg mF cJ phx B es->(∀b,cv b->Uf b)->(∀b,A b->cv b->U b)->DJ phx B Uf A ->
  ∃aT phx',(∀(γ:Type 1) (k:bd->γ),r? s es x k=k aT)/\cd K w0 phx' M aT.bz w/\c8 phx M B w phx' M aT.bz w/\eh phx' (view w M) aT.bz aT.cw a /\
   (∀id,id∉i3 es->phx' id=phx id)/\(∃gJ,aT.w=gJ++s.w/\(∀id∈gJ,id∈i3 es\/id∈eg es)/\∀id,id∉gJ->aT.bz id=s.bz id)/\(∀t,t∉xf es->aT.cw t=s.cw t)
 |[],x,U,cv,A,s,B,phx,hm,hs,ky,_,_,_,_,_,_,_=>by have a4:B=s.bz:=funext λj=>ky.1 j (by simp[eg]);subst a4;exact⟨s,phx,λ_ _=>rfl,hm,c8.refl _ _ _ _,hs,λ_ _=>rfl,⟨[],rfl,λid h=>by simp at h,λ_ _=>rfl⟩,λ_ _=>rfl⟩
 |.sl i t::es,x,U,cv,A,s,B,phx,hm,hs,ky,ax,ja,gA,kd,n?,ee,c6=>by
  obtain⟨⟨cs,f1,f2⟩,gA⟩:=gA;obtain⟨aT,phx',cn,cR,da,d9,fO,nQ,tC⟩:=Fe (es:=es) (s:=s.mJ i<|.sc t x.1) hm (hs.mJ ⟨cs,f1,f2⟩) ky ax ja gA kd n? ee c6;refine⟨aT,phx',λγ k => ?_,cR,da,d9,fO,nQ,λt' ht => ?_⟩
  .simp only[r?,Fd,bd.Ly];exact cn γ k
  simp only[xf,mU,not_or]at ht;rw[tC t' ht.2];exact s.xm _ ht.1
 |.ow i id e::es,x,U,cv,A,s,B,phx,hm,hs,ky,ax,ja,gA,kd,n?,ee,c6=>by
  obtain⟨aC,kq,f1,gA⟩:=gA;have BO:id∉i3 es/\id∉eg es/\(i3 es++eg es).Nodup:=by simp only[i3,eg,sN,TE,i7,not_or]at ja;exact⟨ja.1.1,ja.1.2,ja.2⟩
  have BB:=gA.sub;have ef:∀b,U b->kq b:=λb ak=>by
   rcases f1 with⟨_,_,h⟩|⟨_,_,h⟩
   .rw[h];exact ak
   rw[h];exact .inl ak
  obtain⟨iI,b',e1,e9,dN,Y⟩:=acW hm (ax id<|by simp[i3]) aC f1 (λb ak=>n? b<|BB b ak) (λb ak bq=>ee b ak<|BB b bq) c6;obtain⟨aT,phx',cn,cR,da,d9,fO,⟨gJ,nQ,z7,ye⟩,tC⟩:=Fe (es:=es) (s:=(s.o3 id<|.ob e x.1).mJ i<|.own id ag) b' (eh.mJ (s:=s.o3 id<|.ob e x.1) (hs.ext e1) e9)
   (qE.cA (es':=es) ky id _ λj aF _=>aF) (λj aF=>by
    have eT:j≠id:=λh=>BO.1<|h▸aF;rw[eY _ _ eT];exact ax j<|by simp[i3,aF]) BO.2.2 gA (pg.congr (es:=es) kd λj aF=>by
    have eT:j≠id:=λh=>BO.2.1<|h▸aF;exact⟨dN j eT,eY _ _ eT⟩) n? (λb ak bq=>ak.elim (λh=>ef b<|ee b h bq)<|λh=>h.1) Y
  refine⟨aT,phx',λγ k => ?_,cR,e1.trans da,d9,λj aF => ?_,⟨gJ++[id],by rw[nQ];simp[bd.mJ,bd.o3],λj aF => ?_,λj aF => ?_⟩,λt' ht => ?_⟩
  .simp only[r?,Fd,bd.Lw,bd.Ly];exact cn γ k
  .simp only[i3,mU,not_or]at aF
   rw[fO j aF.2,dN j aF.1]
  .simp only[i7,nZ]at aF
   rcases aF with aF|aF
   .rcases z7 j aF with h|h
    .exact .inl (by simp[i3,h])
    exact .inr (by simpa[eg]using h)
   exact .inl (by simp[i3,aF])
  .simp only[i7,nZ,not_or]at aF
   rw[ye j aF.1];show(s.o3 id<|.ob e x.1).bz j=s.bz j;rw[bd.Bx,eY _ _ aF.2]
  simp only[xf,mU,not_or]at ht;rw[tC t' ht.2];exact bd.xm _ _ ht.1
 |.bk id e::es,x,U,cv,A,s,B,phx,hm,hs,ky,ax,ja,gA,kd,n?,ee,c6=>by
  obtain⟨f1,gA⟩:=gA;obtain⟨⟨_,l,b0,bT⟩,kd⟩:=kd;rw[f1]at bT;have IF:dx B id (.ob e x.1)=B:=by
   funext j;by_cases aF:j=id
   .subst aF;rw[fH,b0,bT]
   rw[eY _ _ aF]
  have BO:(i3 es++eg es).Nodup:=by simp only[i3,eg]at ja;exact ja.sublist<|MC (T_ _ _) _
  have BD:=qE.cA (es':=es) ky id (.ob e x.1) λj aF eT=>by simp[eg,aF,eT]
  rw[IF]at BD;obtain⟨aT,phx',cn,cR,da,d9,fO,⟨gJ,nQ,z7,ye⟩,tC⟩:=Fe (es:=es) (s:=s.o3 id<|.ob e x.1) (phx:=phx) hm hs BD ax BO gA kd n? ee c6;refine⟨aT,phx',λγ k => ?_,cR,da,d9,fO,⟨gJ++[id],by rw[nQ];simp[bd.o3],λj aF => ?_,λj aF => ?_⟩,tC⟩
  .simp only[r?,Fd,bd.Lw];exact cn γ k
  .simp only[i7,nZ]at aF
   rcases aF with aF|aF
   .exact(z7 j aF).imp (λh=>by simpa[i3]using h) (λh=>by simp[eg,h])
   exact .inr (by simp[eg,aF])
  simp only[i7,nZ,not_or]at aF;rw[ye j aF.1,bd.Bx,eY _ _ aF.2]
 |.it id str::es,x,U,cv,A,s,B,phx,hm,hs,ky,ax,ja,gA,kd,n?,ee,c6=>by
  obtain⟨⟨c',f1⟩,gA⟩:=gA;obtain⟨⟨_,sw,p,b0,bT⟩,kd⟩:=kd;rw[f1]at bT;cases bT;obtain⟨tz,iT⟩:=ky.2 id c' x.1 b0;have IF:dx B id (.it c' x.1)=B:=by
   funext j;by_cases aF:j=id
   .subst aF;rw[fH,b0]
   rw[eY _ _ aF]
  have BO:(i3 es++eg es).Nodup:=by simp only[i3,eg]at ja;exact ja.sublist<|MC (T_ _ _) _
  have BD:=qE.cA (es':=es) ky id (.it c' x.1) λj aF eT=>by simp[eg,aF,eT]
  rw[IF]at BD;obtain⟨aT,phx',cn,cR,da,d9,fO,⟨gJ,nQ,z7,ye⟩,tC⟩:=Fe (es:=es) (s:=s.o3 id<|.it c' x.1) (phx:=phx) hm hs BD ax BO gA kd n? ee c6;refine⟨aT,phx',λγ k => ?_,cR,da,d9,fO,⟨gJ++[id],by rw[nQ];simp[bd.o3],λj aF => ?_,λj aF => ?_⟩,tC⟩
  .simp only[r?,Fd,iT,bd.Lw];exact cn γ k
  .simp only[i7,nZ]at aF
   rcases aF with aF|aF
   .exact(z7 j aF).imp (λh=>by simpa[i3]using h) (λh=>by simp[eg,h])
   exact .inr (by simp[eg,aF])
  simp only[i7,nZ,not_or]at aF;rw[ye j aF.1,bd.Bx,eY _ _ aF.2]
 |.bx id t sh::es,x,U,cv,A,s,B,phx,hm,hs,ky,ax,ja,gA,kd,n?,ee,c6=>by
  obtain⟨_,mf,b,o,c,el,fz,kq,b0,bT,dE,g6,lP,f1,gA⟩:=gA;obtain⟨⟨eN,a4⟩,kd⟩:=kd;simp only[i3,eg]at ax ja;have ay3:(mK sh).Nodup:=(A6.1 (A6.1 ja).1).1;have ay4:(i3 es++eg es).Nodup:=by refine ja.sublist ?_;exact(List.sublist_append_right _ _).append<|T_ _ _
  have Xx:∀j,j∈mK sh->j∉i3 es/\j≠id/\j∉eg es:=λj aF=>by
   refine⟨λaA=>(A6.1 (A6.1 ja).1).2.2 j aF j aA rfl,λaA => ?_,λaA => ?_⟩
   .exact(A6.1 ja).2.2 j (by simp[aF]) id bP aA
   exact(A6.1 ja).2.2 j (by simp[aF]) j (by simp[aA]) rfl
  have aib:id∉i3 es/\id∉eg es:=by
   refine⟨λaA => ?_,λaA => ?_⟩
   .exact(A6.1 ja).2.2 id (by simp[aA]) id bP rfl
   exact(TE.1 (A6.1 ja).2.1).1 aA
  have BB:=gA.sub;obtain⟨iI,act,b',e1,e9,dN,Y,c9,b4,nL⟩:=Yv hm (λj aF=>ax j<|by simp[aF]) ay3 f1 (λb ak=>n? b<|BB b ak) (λb ak bq=>ee b ak<|BB b bq) c6;have off:∀j,j∉mK sh->en B (hY sh x.1).2 j=B j:=λj aF=>zS _ _ (by rw[b4];exact aF);have aic:id∉mK sh:=λaA=>(Xx id aA).2.1 rfl;have lp:en B (hY sh x.1).2 id=.box t .bad:=by rw[off id aic,a4]
  have azl:iI id=J (b,o,c.size):=by rw[dN id aic,eN,b0]
  rw[mf]at e9;obtain⟨cN,bh⟩:=aDY b' lp azl bT dE g6 lP e9;have axm:DJ iI (dx (en B (hY sh x.1).2) id<|.box t (hY sh x.1).1) Uf act:=by
   intro j aF z bN;by_cases eT:j=id
   .subst eT;exact Y j (by rw[lp];rfl) z bN
   rw[eY _ _ eT]at aF;exact Y j aF z bN
  have BD:qE (dx (en B (hY sh x.1).2) id<|.box t (hY sh x.1).1) ((s.fc (hY sh x.1).2).o3 id<|.box t (hY sh x.1).1) es:=
   (qE.over ky _).cA (es':=es) id _ λj aF eT=>by simp[eg,aF,eT]
  have hT:((s.fc (hY sh x.1).2).o3 id<|.box t (hY sh x.1).1).cw=s.cw:=bd.rq s _;obtain⟨aT,phx',cn,cR,da,d9,fO,⟨gJ,nQ,z7,ye⟩,tC⟩:=Fe (es:=es) (s:=(s.fc (hY sh x.1).2).o3 id<|.box t (hY sh x.1).1) cN (by rw[hT];exact(hs.ext e1).ext bh) BD (λj aF=>by
    have eT:j≠id:=λh=>aib.1<|h▸aF;rw[eY _ _ eT,off j λaA=>(Xx j aA).1 aF];exact ax j<|by simp[aF]) ay4 gA (pg.congr (es:=es) kd λj aF=>by
    have eT:j≠id:=λh=>aib.2<|h▸aF;have aif:j∉mK sh:=λaA=>(Xx j aA).2.2 aF;exact⟨dN j aif,by rw[eY _ _ eT,off j aif]⟩) n? (λb ak bq=>by
    rcases c9 b ak with h|h
    .exact f1.sub b (ee b h bq)
    exact h.1) axm
  refine⟨aT,phx',λγ k => ?_,cR,(e1.trans bh).trans da,d9,λj aF => ?_,⟨gJ++([id]++mK sh),?_,λj aF => ?_,λj aF => ?_⟩,λt' ht => ?_⟩
  .simp only[r?,Fd,bd.Lx,bd.Lw];exact cn γ k
  .simp only[i3,i7,not_or]at aF
   rw[fO j aF.2,dN j aF.1]
  .rw[nQ]
   have:((s.fc (hY sh x.1).2).o3 id<|.box t (hY sh x.1).1).w=id::(mK sh++s.w):=by show id::(s.fc (hY sh x.1).2).w=_;rw[bd.aaY,b4]
   rw[this];simp
  .simp only[i7,nZ]at aF
   rcases aF with aF|aF|aF
   .rcases z7 j aF with h|h
    .exact .inl (by simp[i3,h])
    exact .inr (by simp[eg,h])
   .exact .inr (by simp[eg,aF])
   exact .inl (by simp[i3,aF])
  .simp only[i7,nZ,not_or]at aF
   rw[ye j aF.1,bd.Bx,eY _ _ aF.2.1,bd.oN];exact zS _ _ (by rw[b4];exact aF.2.2)
  rw[tC t' ht,hT]
def p8:ab fT->R->au aw
 |[],_=>aq
 |.bx id t _::r,j=>if j=id then J t else p8 r j
 |_::r,j=>p8 r j
def UP:∀{es:ab fT} {id:R} {t:aw} {sh:li},fT.bx id t sh∈es->∃t',p8 es id=J t'
 |e::es,id,t,sh,h=>by
  rcases mU.1 h with rfl|h
  .simp_all[p8]
  obtain⟨t',ce⟩:=UP h;cases e<;>simp only[p8]<;>first|exact⟨t',ce⟩|(split;exact⟨_,rfl⟩;exact⟨t',ce⟩)
def iL.box{lo:R->Prop}{cJ:R->bm}:∀{es:ab fT} {x:n4 es} {U cv:R->Prop} {id:R} {t:aw},iL phx w M cJ lo a es x U cv->p8 es id=J t ->
  (∃v,cJ id=.box t v)/\∃b o c el fz,phx id=J (b,o,Array.size c)/\w.heap[b]?=J (.cells c el fz)/\o+t.size<=c.size/\jc c fz/\M b/\∀v∈dg c o t.size,v.oneCell'=af
 |.sl i t'::es,x,U,cv,id,t,gA,h=>iL.box (es:=es) gA.2 h
 |.ow i _ e::es,x,U,cv,id,t,gA,h=>by obtain⟨_,kq,_,gA⟩:=gA;exact iL.box (es:=es) gA h
 |.bk _ e::es,x,U,cv,id,t,gA,h=>iL.box (es:=es) gA.2 h
 |.it _ s::es,x,U,cv,id,t,gA,h=>iL.box (es:=es) gA.2 h
 |.bx qf t' sh::es,x,U,cv,id,t,gA,h=>by
  obtain⟨a3,mf,b,o,c,el,fz,kq,b0,bT,dE,g6,lP,f1,gA⟩:=gA;simp only[p8]at h;split at h
  .rename_i hid
   cases h;subst hid;exact⟨a3,b,o,c,el,fz,b0,bT,dE,g6,lP,f1.one⟩
  exact iL.box (es:=es) gA h
def mh(eZ cJ:R->bm)(es:ab fT):R->bm:=λid=>if B9 (eZ id)=af then .new else match p8 es id with|some t=>.box t .bad|none=>cJ id
def uC{b:bm}:B9 b=af↔b=.new:=by cases b<;>simp[B9]
def Fw{eZ cJ:R->bm}{es:ab fT}{lo:R->Prop}(hold:∀id∈eg es,eZ id ≠ .new){oA:n4 es}{apJ apK:R->Prop}(aC:iL phx w M cJ lo a es oA apJ apK):∀{r:ab fT} {x:n4 r} {U cv:R->Prop},(∀e∈r,e∈es)->(∀id∈eg r,id∈eg es)->iL phx w M cJ lo a r x U cv->pg phx cJ phx (mh eZ cJ es) r
 |[],_,_,_,_,_,_=>trivial
 |.sl i t'::r,x,U,cv,hm,bg,h=>Fw hold aC (r:=r) (λe aX=>hm e<|by grind) bg h.2
 |.ow i _ e::r,x,U,cv,hm,bg,h=>by obtain⟨_,kq,_,h⟩:=h;exact Fw hold aC (r:=r) (λe aX=>hm e<|by grind) bg h
 |.bk id e::r,x,U,cv,hm,bg,h=>by
  refine⟨⟨rfl,x.1,?_,h.1⟩,Fw hold aC (r:=r) (λe aX=>hm e<|by grind) (λj aF=>bg j<|by simp[eg,aF]) h.2⟩;unfold mh;rw[aD aLK];cases ak:p8 es id with
  |none=>exact h.1
  |some t=>obtain⟨⟨v,a3⟩,_⟩:=aC.box ak;rw[h.1]at a3;cases a3
 |.it id s::r,x,U,cv,hm,bg,h=>by
  obtain⟨⟨c',Y⟩,ac⟩:=h;refine⟨⟨rfl,c',x.1,?_,Y⟩,Fw hold aC (r:=r) (λe aX=>hm e<|by grind) (λj aF=>bg j<|by simp[eg,aF]) ac⟩;unfold mh;rw[aD aLK];cases ak:p8 es id with
  |none=>exact Y
  |some t=>obtain⟨⟨v,a3⟩,_⟩:=aC.box ak;rw[Y]at a3;cases a3
 |.bx id t sh::r,x,U,cv,hm,bg,h=>by
  obtain⟨⟨v,a3⟩,mf,b,o,c,el,fz,kq,b0,bT,dE,g6,lP,f1,h⟩:=h;refine⟨⟨rfl,?_⟩,Fw hold aC (r:=r) (λe aX=>hm e<|by grind) (λj aF=>bg j<|by simp[eg,aF]) h⟩;unfold mh;rw[aD aLK];obtain⟨t',ht⟩:=UP<|hm (.bx id t sh) bP;obtain⟨⟨dH,aIX⟩,_⟩:=aC.box ht
  grind
def iL.Fi{lo:R->Prop}{cJ:R->bm}:∀{es:ab fT} {x:n4 es} {U cv:R->Prop},iL phx w M cJ lo a es x U cv->∀id∈eg es,∀kt vt l,cJ id ≠ .mp kt vt l
 |[],_,_,_,_,id,ao,_,_,_=>by simp[eg]at ao
 |.sl i t'::es,x,U,cv,h,id,ao,kt,vt,l=>iL.Fi (es:=es) h.2 id ao kt vt l
 |.ow i _ e::es,x,U,cv,h,id,ao,kt,vt,l=>by obtain⟨_,kq,_,h⟩:=h;exact iL.Fi (es:=es) h id ao kt vt l
 |.bk qf e::es,x,U,cv,h,id,ao,kt,vt,l=>by
  simp only[eg,mU]at ao;rcases ao with rfl|ao
  .rw[h.1];intro h;cases h
  exact iL.Fi (es:=es) h.2 id ao kt vt l
 |.it qf s::es,x,U,cv,h,id,ao,kt,vt,l=>by
  simp only[eg,mU]at ao;rcases ao with rfl|ao
  .obtain⟨⟨c',Y⟩,_⟩:=h;rw[Y];intro h;cases h
  exact iL.Fi (es:=es) h.2 id ao kt vt l
 |.bx qf an3 ann::es,x,U,cv,h,id,ao,kt,vt,l=>by
  simp only[eg,mU]at ao;rcases ao with rfl|ao
  .obtain⟨⟨v,a3⟩,_⟩:=h;rw[a3];intro h;cases h
  obtain⟨_,_,b,o,c,el,fz,kq,_,_,_,_,_,_,h⟩:=h;exact iL.Fi (es:=es) h id ao kt vt l
def aBm{eZ cJ:R->bm}{es:ab fT}{lo:R->Prop}(hm:cd K w0 phx M cJ w){x:n4 es}{U cv:R->Prop}(gA:iL phx w M cJ lo a es x U cv)(te:∀id t v,eZ id=.box t v->∀j∈eP v,eZ j ≠ .new)(XP:∀id kt vt l,eZ id=.mp kt vt l->∀p∈l,∀j∈eP p.2,eZ j ≠ .new)
  (q1:∀id,eZ id ≠ .new->id∉eg es->cJ id=eZ id) (Jg:∀id∈eg es,∀t v,cJ id=.box t v->∃t',p8 es id=J t') :
  cd K w0 phx M (mh eZ cJ es) w/\(∀id,eZ id ≠ .new->(cJ id).cU (mh eZ cJ es id))/\(∀id,(mh eZ cJ es id).gB=af->(cJ id).gB=af):=by
 have oc:∀id,(mh eZ cJ es id).gB=af->(cJ id).gB=af:=λid h=>by
  unfold mh at h;split at h
  .cases h
  split at h
  .exact aNR
  exact h
 have ct:∀id,eZ id ≠ .new->(cJ id).cU (mh eZ cJ es id):=λid hid=>by
  unfold mh;rw[aD (by rw[uC];exact hid)];split
  .exact aNR
  exact bm.cU.refl _
 refine⟨{ hm with own:=λid h=>hm.own id<|oc id h,blks:=λid => ?_,sep:=λi j j? ao aF=>hm.sep i j j? (oc i ao) (oc j aF) },ct,oc⟩;have et:=hm.blks id;by_cases ax:B9 (eZ id)=af
 .unfold mh;rw[aH ax];trivial
 have hid:eZ id ≠ .new:=λh=>ax<|uC.2 h;cases ak:p8 es id with
 |some t=>
  have XQ:mh eZ cJ es id=.box t .bad:=by unfold mh;rw[aD ax,ak]
  rw[XQ];obtain⟨_,b,o,c,el,fz,b0,bT,dE,g6,lP,uk⟩:=gA.box ak;exact⟨b,o,c,el,fz,b0,bT,dE,⟨sx dE,uk⟩,g6,lP⟩
 |none=>
  have XQ:mh eZ cJ es id=cJ id:=by unfold mh;rw[aD ax,ak]
  rw[XQ];generalize a4:cJ id=bl at et;cases bl with
  |new=>trivial
  |ga=>trivial
  |ob e l=>exact et
  |fz e l=>exact et
  |it s p=>exact et
  |mp kt vt l=>
   have xH:id∉eg es:=λaA=>gA.Fi id aA kt vt l a4;have aC:eZ id=.mp kt vt l:=by rw[<- q1 id hid xH,a4]
   obtain⟨b,es',oI,b0,bT,dE,g6⟩:=et;exact⟨b,es',oI,b0,bT,dE.jb (λ_ _ _ _ _=>rfl) (cX.cU.refl _)<|λp hp j aF=>ct j<|XP id kt vt l aC p hp j aF,g6⟩
  |box t v=>
   have xH:id∉eg es:=λaA=>by obtain⟨t',xP⟩:=Jg id aA t v a4;rw[ak]at xP;cases xP
   have aC:eZ id=.box t v:=by rw[<- q1 id hid xH,a4]
   obtain⟨b,o,c,el,fz,b0,bT,dE,g6,lP,uk⟩:=et;exact⟨b,o,c,el,fz,b0,bT,dE,fX.jb (λ_ _ _=>rfl) (cX.cU.refl _) (λj aF=>ct j<|te id t v aC j aF) g6,lP,uk⟩
end
end Yp
namespace Yp
open Go
variable {P:d_}
def aoR{c:Code}{Q:Exit->Act->bu->Prop}(I:R->Act->bu->Prop)(bN:∀a w,¬I 0 a w)
  (round:∀n a w,I (n+1) a w->c.wp P (Exit.then (λbn w'=>I n bn w') Q) a w) {n:R} {a:Act} {w:bu} (h:I n a w):(Code.loop c).wp P Q a w:=by
 intro b k cs;have key:∀n a w,I n a w->∃e bn w',Q e bn w'/\Arrives P (lone (b.at a<|.code c :: .inLoop c::k) cs w) b k cs e bn w':=by
  intro n;induction n with
  |zero=>intro a w h;exact ev h<|bN a w
  |succ n ih=>
   intro a w eD;obtain⟨e,a₁,w₁,bD,zo⟩:=round n a w eD b (.inLoop c::k) cs;cases e with
   |normal =>obtain⟨e₂,a₂,w₂,hq₂,harr₂⟩:=ih a₁ w₁ bD;exact⟨e₂,a₂,w₂,hq₂,.of_steps (Steps.trans zo<|.one step_inLoop) harr₂⟩
   |exit id=>exact ag_
   |goto l=>exact ag_
   |ret=>exact ag_
   |panic ch=>exact ag_
   |outgrown=>exact ag_
 obtain⟨e,bn,w',bD,zo⟩:=key n a w h;exact⟨e,bn,w',bD,.of_steps (.one step_loop) zo⟩
def Fv:∀{l:ab R} {t:R},t∈po l↔t∈l
 |[],t=>by simp[po]
 |i::l,t=>by
  simp only[po];cases aA:l.any (cT i) with
  |true=>
   simp;rw[Fv]
   exact aK3
  |false =>simp;rw[Fv]
def aj7:∀{l:ab R},P1 l=af->l.Nodup
 |[],_=>List.nodup_nil
 |i::l,h=>by
  simp only[P1,d5]at h;refine TE.2 ⟨λaA => ?_,aj7 h.2⟩
  grind [Nat.beq_refl]
def ayf{base:bd}{es:ab fT}{D8:ab R}(h:O6 base es D8=af):
  (i3 es++eg es).Nodup/\(∀id∈i3 es,base.bz id=.new)/\(∀id∈eg es,base.bz id ≠ .new)/\∀i∈xf es,i∈D8:=by
 simp only[O6,d5]at h;obtain⟨⟨⟨Y,ac⟩,av⟩,aJ⟩:=h;refine⟨aj7 Y,λid ao=>uC.1<|rI.1 ac id ao,λid ao aA => ?_,λi ao => ?_⟩
 .have:=rI.1 av id ao
  rw[aA]at this;cases this
 grind [Nat.eq_of_beq_eq_true]
def avx{base:bd}{es:ab fT}{s:bd}(h:Es base es s=af){gJ:ab R}(bR:s.w=gJ++base.w):∀id∈gJ,base.bz id=.new\/id∈eg es:=by
 intro id ao;have ht:s.w.take (s.w.length-base.w.length)=gJ:=by rw[bR];simp
 unfold Es at h;rw[ht]at h;have:=rI.1 h id ao;simp only[A2]at this;rcases this with h|h
 .exact .inl (uC.1 h)
 exact aK3
def agm{ρ σ:Type}{kA:R}{s:bd}{k:k3 σ->bi ρ}{r:ρ}:∀{l:ab R},((Ez kA s l).bind k).cf=J r->(k<|.ex kA s).cf=J r
 |[i],h=>by
  simp only[Ez]at h;cases aA:bU kA i with
  |false=>rw[aA]at h;cases h
  |true=>rw[aA]at h;have:=iM aA;subst this;exact h
 |i::j::l,h=>by
  simp only[Ez]at h;cases aA:bU kA i with
  |false=>rw[aA]at h;exact agm h
  |true=>rw[aA]at h;have:=iM aA;subst this;exact h
def Y0{σ:Type}{f:σ->au (aL σ ρ)}{x:σ}{o:aL σ ρ}(h:bG f x=J o):∃n,pF f n x=J o:=by
 unfold bG at h;split at h
 .grind
 cases h
theorem D?: ∀{es:ab fT} {id:R} {t:aw},p8 es id=J t->id∈eg es
 |.sl _ _::es,_,_,h=>D? (es:=es) h
 |.ow _ _ _::es,_,_,h=>D? (es:=es) h
 |.bk _ _::es,_,_,h=>yO _<|D? (es:=es) h
 |.it _ _::es,_,_,h=>yO _<|D? (es:=es) h
 |.bx qf t' sh::es,id,t,h=>by
  simp only[p8]at h;split at h
  .grind [eg]
  exact yO _<|D? h
section
variable {K:Kp} {w0 w:bu} {phx:cV} {M:R->Prop} {B B':R->bm} {g:R->aP} {a:Act} {E:dO} {rs:ab e6} {res:ab ResultVar} {nv nt:R} {inl:aE}
def iL.FF{lo:R->Prop}{cJ:R->bm}:∀{es:ab fT} {x:n4 es} {U cv:R->Prop},iL phx w M cJ lo a es x U cv->∀id∈eg es,∀t v,cJ id=.box t v->∃t' sh,fT.bx id t' sh∈es
 |[],_,_,_,_,id,ao,_,_,_=>by simp[eg]at ao
 |.sl i t'::es,x,U,cv,h,id,ao,t,v,ak=>aKH
 |.ow i _ e::es,x,U,cv,h,id,ao,t,v,ak=>by obtain⟨_,kq,_,h⟩:=h;obtain⟨t',sh,h⟩:=iL.FF (es:=es) h id ao t v ak;exact⟨t',sh,by simp[h]⟩
 |.bk qf e::es,x,U,cv,h,id,ao,t,v,ak=>by
  simp only[eg,mU]at ao;rcases ao with rfl|ao
  .rw[h.1]at ak;cases ak
  exact aKH
 |.it qf s::es,x,U,cv,h,id,ao,t,v,ak=>by
  simp only[eg,mU]at ao;rcases ao with rfl|ao
  .obtain⟨⟨c',Y⟩,_⟩:=h;rw[Y]at ak;cases ak
  exact aKH
 |.bx qf an3 ann::es,x,U,cv,h,id,ao,t,v,ak=>by
  simp only[eg,mU]at ao;rcases ao with rfl|ao
  .exact⟨an3,ann,bP⟩
  obtain⟨_,_,b,o,c,el,fz,kq,_,_,_,_,_,_,h⟩:=h;obtain⟨t',sh,h⟩:=iL.FF (es:=es) h id ao t v ak;exact⟨t',sh,by simp[h]⟩
structure gN(K:Kp)(w0:bu)(D:ab R)(s:bd)(phx:cV)(M:R->Prop)(w:bu)(a:Act)(aT:bd)(phx':cV)(aZ:R->Prop)(w':bu)(bn:Act):Prop where
 i':eQ D s aT
 iF:cd K w0 phx' aZ aT.bz w'
 ext:c8 phx M s.bz w phx' aZ aT.bz w'
 slots:eh phx' (view w' aZ) aT.bz aT.cw bn
 keep:iw D a bn
def m3(E:dO)(id:R):Exit:=if id=jx then .ret else match E.Pn with|some p=>if iN<=id then .panic [{ v:=.iface p.2<|.int .i64 ((id-iN:R):O),recovered:=ag }]else .exit id|none=>.exit id
def agk{E:dO}{id:R}(h:id<jx):m3 E id=.exit id:=by
 grind [m3,iN,jx]
def Oq{E:dO}(h:E.Pn=J (m,t)):m3 E (iN+k)=.panic [{ v:=.iface t<|.int .i64 (k:O),recovered:=ag }]:=by unfold m3;rw[aD (by unfold iN jx;omega),h];simp
def DT(P:d_)(K:Kp)(w0:bu)(E:dO)(rs:ab e6)(res:ab ResultVar)(nv nt:R)(inl:aE)(c:Code):Prop:=
 ∀(s:bd) (ρ:Type) (k:k3 (e0 rs)->bi ρ) (r:ρ),((run E rs res nv nt inl c s).bind k).cf=J r->∀(phx:cV) (M:R->Prop) (w:bu) (a:Act),cd K w0 phx M s.bz w->eh phx (view w M) s.bz s.cw a->nt<=a.tmps.size ->
  ∀(Q:Exit->Act->bu->Prop),
   (∀aT phx' aZ w' bn,(k<|.nx aT).cf=J r->gN K w0 (eS c) s phx M w a aT phx' aZ w' bn->Q .normal bn w') ->
   (∀id aT phx' aZ w' bn,(k<|.ex id aT).cf=J r->gN K w0 (eS c) s phx M w a aT phx' aZ w' bn->Q (m3 E id) bn w') ->
   (∀x w' bn,(k<|.rt x).cf=J r->bn.defers=a.defers->(∃us,uQ P bn.tmps w' res us/\jP w0 K.x w' rs x (kj us))->Q .ret bn w')->c.wp P Q a w
def aA7{b:bm}(h:b.jH=af):b ≠ .new:=by rintro rfl;cases h
def aA1{b c:bm}(h:b.cU c)(aA:c=.new):b=.new:=by subst aA;cases b<;>first|rfl|exact h.elim
def aBa{b:Code}(ef:E.U=ag)(ih:DT P K w0 E rs res nv nt inl b):DT P K w0 E rs res nv nt inl<|.loop b:=by
 intro s ρ k r h mF DS ab0 hM hm hs g8 Q _ X2 X3;simp only[run,ef,k1,bi.ajq,avV]at h;generalize ah1:entries E.b s ((run E rs res nv nt inl b s).pE) (po<|eS b)=es at h;generalize xz:Ey ((run E rs res nv nt inl b s).pE)=exs at h;rw[bi.gg]at h;obtain⟨oA,bX,gw,vk,Y,b',e1,e_,f1,aJn,aHm,avs⟩:=CC (a:=hM) h hm hs (U:=λ_=>fI) ⟨λ_ _ _ _ h=>h,λ_ h=>h.elim⟩;obtain⟨base,Be,aq4,UA,aqu,bk⟩:=ab7 (po<|eS b) bX;rw[bk]at Y;cases XJ:O6 base es (po<|eS b) with
 |false=>rw[XJ]at Y;cases Y
 |true=>
  rw[XJ,km]at Y;obtain⟨ja,g9,hold,tl⟩:=ayf XJ;have te:∀id t v,base.bz id=.box t v->∀j∈eP v,base.bz j ≠ .new:=by intro id t v ak;rw[Be]at ak ⊢;have:=b'.blks id;rw[ak]at this;obtain⟨_,_,_,_,_,_,_,_,hT,_⟩:=this;exact hT.old
  have XP:∀id kt vt l,base.bz id=.mp kt vt l->∀p∈l,∀j∈eP p.2,base.bz j ≠ .new:=by intro id kt vt l ak;rw[Be]at ak ⊢;have:=b'.blks id;rw[ak]at this;obtain⟨_,_,_,_,_,eE,_⟩:=this;exact eE.old
  have aIQ:∀t,t∉po (eS b)->∀j∈eP (base.cw t),base.bz j ≠ .new:=by intro t ht;rw[Be,UA t ht];have:=(hs.ext e1) t;rw[<- e_]at this;exact this.old
  let Mz:n4 es->Act->bu->Prop:=λx a w=>∃(lC:bd) (phx:cV) (M:R->Prop),(∀(γ:Type 1) (k:bd->γ),r? base es x k=k lC)/\cd K w0 phx M lC.bz w/\eh phx (view w M) lC.bz lC.cw a /\
   c8 mF DS s.bz ab0 phx M lC.bz w/\iw (eS b) hM a/\(∀id,(base.bz id).cU<|lC.bz id)/\(∃gJ,lC.w=gJ++base.w/\∀id,id∉gJ->lC.bz id=base.bz id)/\(∀t,t∉xf es->lC.cw t=base.cw t)
  have ac7:∀(c':bd) (phx':cV) (dF:R->Prop) (w':bu) (bn:Act) (y:n4 es) (aT:bd) (cv:R->Prop),cd K w0 phx' dF aT.bz w'->eh phx' (view w' dF) aT.bz aT.cw bn->c8 mF DS s.bz ab0 phx' dF aT.bz w'->iw (eS b) hM bn ->
    l4 phx' dF aT.bz cv->iL phx' w' dF aT.bz (λb=>¬K.k b) bn es y (λ_=>fI) cv->(∀t,t∉po (eS b)->aT.cw t=base.cw t)->(∀id,base.bz id ≠ .new->id∉eg es->aT.bz id=base.bz id)->(∀id,(base.bz id).cU<|aT.bz id)->Mz y bn w':=by
   intro c' phx' dF w' bn y aT cv xF q5 vS oS xQ gA uq q1 ct;have Jg:∀id∈eg es,∀t v,aT.bz id=.box t v->∃t',p8 es id=J t':=λid ao t v ak=>by obtain⟨t',sh,nF⟩:=gA.FF id ao t v ak;exact UP nF
   obtain⟨Y7,aii,oc⟩:=aBm xF gA te XP q1 Jg;have kd:=Fw hold gA (λe h=>h) (λid h=>h) gA;have azC:eh phx' (view w' dF) (mh base.bz aT.bz es) base.cw bn:=by
    intro t;by_cases ht:t∈po (eS b)
    .rw[aqu t ht];trivial
    rw[<- uq t ht];refine bI.jb (λ_ _ _=>rfl) (cX.cU.refl _) (λj aF=>aii j ?_)<|q5 t
    grind
   have ky:qE (mh base.bz aT.bz es) base es:=by
    refine⟨λj aF => ?_,λj c' p aF => ?_⟩
    .unfold mh
     split
     .rename_i ax;exact(uC.1 ax).symm
     rename_i ax;have m_:=λh=>ax<|uC.2 h
     grind [D?]
    unfold mh at aF;split at aF
    .cases aF
    rename_i ax;have m_:=λh=>ax<|uC.2 h;split at aF
    .cases aF
    have:=ct j;rw[aF]at this;generalize base.bz j=q at this m_;cases q<;>simp only[bm.cU]at this<;>first|exact this.elim|exact ev rfl m_|exact⟨_,by rw[this]⟩
   have ay7:∀id∈i3 es,mh base.bz aT.bz es id=.new:=λid ao=>by unfold mh;rw[aH<|uC.2<|g9 id ao]
   obtain⟨lC,aCW,cn,cR,da,d9,fO,⟨gJ,nQ,z7,ye⟩,tC⟩:=Fe (Uf:=cv) (A:=λ_=>fI) Y7 azC ky ay7 ja gA kd (λb ak=>ak) (λb ak=>ak.elim)<|λj aF z bN=>.inl<|xQ.1 j (oc j aF) z bN;have Eg:=λid hid=>(aii id hid).trans<|da.bl id;have aj9:∀id,s.bz id ≠ .new->base.bz id ≠ .new:=λid hid aA=>hid<|aA1 (e1.bl id) (by rw[<- Be];exact aA);refine⟨lC,aCW,dF,cn,cR,d9,⟨λid hl => ?_,vS.vw.trans da.vw,λid => ?_⟩,oS,λid => ?_,⟨gJ,nQ,ye⟩,tC⟩
   .have ak:=aj9 id (aA7 hl)
    rw[fO id λaA=>ak<|g9 id aA];exact vS.pl id hl
   .by_cases hid:s.bz id=.new
    .rw[hid];cases lC.bz id<;>trivial
    exact(vS.bl id).trans<|Eg id (aj9 id hid)
   by_cases hid:base.bz id=.new
   .rw[hid];cases lC.bz id<;>trivial
   exact(ct id).trans<|Eg id hid
  cases hl:bG (λx=>(r? base es x λs=>bi.bind (run E rs res nv nt inl b s)<|Lq base es).cf) oA with
  |none=>rw[hl]at Y;cases Y
  |some o=>
   rw[hl]at Y;obtain⟨n,ax⟩:=Y0 hl;have av9:∀kA y,o=.ex kA y->∀bn w',Mz y bn w'->Q (m3 E kA) bn w':=by
    rintro kA y rfl bn w' ⟨lC,phx,M,dN,fC,jd,qj,tA,rf,⟨gJ,Kg,ZS⟩,we⟩;have Y:((r? base es y λs=>Ez kA s exs).bind k).cf=J r:=Y;rw[dN]at Y;refine X2 kA lC phx M w' bn (agm Y) ⟨⟨λt ht => ?_,?_⟩,fC,qj,jd,tA⟩
    .have xP:=λaA=>ht (Fv.1 aA)
     rw[we t λaA=>xP<|tl t aA,UA t xP,e_]
    obtain⟨_,aB1,b0,bT⟩:=f1;refine⟨gJ++aB1,by rw[Kg,aq4,b0,kL],λid hid => ?_⟩;rw[i7,not_or]at hid;rw[ZS id hid.1,Be,bT id hid.2]
   have awa:∀x,o=.rt x->∀bn w',bn.defers=hM.defers->(∃us,uQ P bn.tmps w' res us/\jP w0 K.x w' rs x (kj us))->Q .ret bn w':=by rintro x rfl bn w' a? bq;exact X3 x w' bn Y a? bq
   have aC:=by refine ac7 bX mF gw ab0 hM oA bX vk b' (by rw[e_];exact hs.ext e1) e1 (iw.refl _ _) aHm avs (λt ht=>(UA t ht).symm) (λid _ _=>by rw[Be]) (λid=>by rw[Be];exact bm.cU.refl _)
   refine aoR (λn a w=>∃x,pF (λx=>(r? base es x λs=>bi.bind (run E rs res nv nt inl b s)<|Lq base es).cf) n x=J o/\Mz x a w) (λa w=>by rintro⟨x,hx,_⟩;cases hx) ?_ (n:=n) ⟨oA,ax,aC⟩;rintro n a w ⟨x,hx,lC,phx,M,dN,fC,jd,qj,tA,rf,⟨gJ,Kg,ZS⟩,we⟩;simp only[pF]at hx;rw[dN]at hx;have dA:nt<=a.tmps.size:=by rw[tA.1];exact g8
   have aoh:∀(c':bd) (phx':cV) (aZ:R->Prop) (w':bu) (bn:Act) {ρ':Type} (kA:n4 es->bi ρ') (dZ:ρ'),gN K w0 (eS b) lC phx M w a c' phx' aZ w' bn->((tx c' es).bind λy=>bif Es base es y.2 then kA y.1 else .fail).cf=J dZ->∃y,(kA y).cf=J dZ/\Mz y bn w':=by
    intro c' phx' aZ w' bn ρ' kA dZ ux jo;obtain⟨y,aT,dF,cv,av,cN,bh,fP,f2,sz,pU,rW⟩:=CC (a:=bn) jo ux.iF ux.slots (U:=λ_=>fI) ⟨λ_ _ _ _ h=>h,λ_ h=>h.elim⟩;cases zs:Es base es aT with
    |false=>rw[zs]at av;cases av
    |true=>
     rw[zs,km]at av;refine⟨y,av,?_⟩;obtain⟨XC,akh,I3,XD⟩:=ux.i';obtain⟨_,aki,XH,XI⟩:=f2;have bR:aT.w=(aki++(akh++gJ))++base.w:=by rw[XH,I3,Kg];simp
     have dh:=avx zs bR;refine ac7 c' phx' dF w' bn y aT cv cN (by rw[fP];exact ux.slots.ext bh) ((qj.trans ux.ext).trans bh) (tA.sub ux.keep (λt h=>h)<|λt h=>h) pU rW (λt ht => ?_) (λid hid xH => ?_)<|λid=>((rf id).trans<|ux.ext.bl id).trans (bh.bl id)
     .rw[fP,XC t<|λaA=>ht<|Fv.2 aA,we t λaA=>ht<|tl t aA]
     have Pc:id∉aki++(akh++gJ):=λaA=>(dh id aA).elim hid xH;simp only[i7,not_or]at Pc;rw[XI id Pc.1,XD id Pc.2.1,ZS id Pc.2.2]
   cases hf:((run E rs res nv nt inl b lC).bind<|Lq base es).cf with
   |none=>rw[hf]at hx;cases hx
   |some dZ=>
    rw[hf]at hx;refine ih lC _ (Lq base es) dZ hf phx M w a fC jd dA _ (λc' phx' aZ w' bn jo ux => ?_) (λid c' phx' aZ w' bn jo ux => ?_)<|λwQ w' bn jo a? bq => ?_
    .obtain⟨y,av,hh⟩:=aoh c' phx' aZ w' bn (λy=>.leaf<|aL.nx y) dZ ux jo
     cases av;exact⟨y,hx,hh⟩
    .obtain⟨y,av,hh⟩:=aoh c' phx' aZ w' bn (λy=>.leaf<|aL.ex id y) dZ ux jo
     cases av;cases hx;have hf:=av9 id y rfl bn w' hh;revert hf;unfold m3
     exact aOE
    cases jo;cases hx;exact awa wQ rfl bn w' (a?.trans tA.2.1) bq
end
end Yp
namespace Yp
open Go
variable {P:d_}
def eQ.cp{s aT:bd}(h:eQ [] s aT):aT.cw=s.cw:=funext λt=>h.1 t bP
section
variable {K:Kp} {w0 w:bu} {phx:cV} {M:R->Prop} {B B':R->bm} {g:R->aP} {H:cX} {E:dO} {nv nt:R}
def awy{s:bd}{f:fS}{a:Act}(hs:eh phx H s.bz s.cw a):bI phx H s.bz (EH s f) (a.eval f)\/EH s f=.bad:=by
 cases f with
 |tmp t=>exact .inl<|hs t
 |func f=>exact .inl ⟨[],rfl,rfl⟩
 |const v=>exact aOU
 |global i=>exact aOU
def aCA(hT:ou P E.cp)(dc:qS P E.cp E.C)(ii:sf P E.M)(dG:pV P E K w0)(eD:∀f g,E.I f=J g->lh P f g)
  {o:c7} {s:bd} {ρ:Type} {k:aP×bd->bi ρ} {r:ρ} (h:((ZJ E o s).bind k).cf=J r) {a:Act} (hm:cd K w0 phx M s.bz w) (hs:eh phx (view w M) s.bz s.cw a)
  {Kn:Act->bu->Prop} {Q:Exit->Act->bu->Prop}
  (aB:∀v aT phx' aZ w' x,(k (v,aT)).cf=J r->cd K w0 phx' aZ aT.bz w'->c8 phx M s.bz w phx' aZ aT.bz w'->bI phx' (view w' aZ) aT.bz v x->eQ [] s aT->Kn (a.put o.dst x) w'):o.wp P a w Kn Q:=by
 have plain:((((tv E o).run s 0 [] []).bind λr=>s.yr r.2.wr λbX=>n7 r.1 λv=>.leaf (v,bX):bi<|aP×bd).bind k).cf=J r->o.wp P a w Kn Q:=by intro h;rw[bi.gg]at h;obtain⟨v,e,Y,ac⟩:=aR.ams s (tv E o) 0 [] [] _ r h;simp only[bd.Lx,zf,bi.bind]at ac;have a4:(s.fc e.wr).bz=en s.bz e.wr:=bd.oN s _;refine ZK hT dc ii dG Y hm hs λx w' b6 => ?_;obtain⟨phx',aZ,b',e1,e9⟩:=b6;exact aB v (s.fc e.wr) phx' aZ w' x ac (by rw[a4];exact b') (by rw[a4];exact e1) (by rw[a4];exact e9)<|eQ.fc e.wr []
 unfold ZJ at h;obtain⟨dD,op,type,jI,after,ES⟩:=o;cases op<;>try(exact plain h)
 rename_i c;obtain⟨VF,args,e?⟩:=c;cases VF<;>try(exact plain h)
 rename_i f;simp only at h;cases ao:Yw E (dD.getD 0) (EH s f) args.toList s with
 |none=>rw[ao]at h;exact plain h
 |some t=>
  rw[ao]at h;simp only at h;unfold Yw at ao;split at ao
  .rename_i F eG dy hf
   split at ao
   .rename_i ul ah5
    cases ao;have fa:=eD _ _ ah5;rw[bi.gg,bi.gg]at h;obtain⟨bE,wr,Y,ac⟩:=qa h;obtain⟨e1,dQ⟩:=zV hs Y;simp only at ac;have a4:(s.fc wr).bz=s.bz:=by rw[bd.oN,e1]
    have r9:bI phx (view w M) s.bz (.clo F eG dy)<|a.eval f:=by
     rcases awy (f:=f) hs with h|h
     .rw[hf]at h;exact h
     rw[hf]at h;cases h
    obtain⟨us,aX,r4⟩:=r9;refine Tp r4 fa.1 ?_;have b6:(args.toList.map a.eval).toArray=args.map a.eval:=aM7
    have jV:(us.take eG++(args.toList.map a.eval++us.drop eG)).toArray=(us.take eG).toArray++args.map a.eval++(us.drop eG).toArray:=by rw[<- b6];simp
    rw[<- jV];refine(fa.2 K w0 (dG.gk<|.inr<|.inl ⟨_,_,ah5⟩) _ (xa eG dy bE) (s.fc wr) _ _ r ac phx M w _ aOZ (by rw[a4];exact VR aX dQ)).mono ?_;rintro e w' ⟨cF,rfl,v,aT,phx',aZ,cn,cR,da,d9,fO⟩;rw[a4]at da;simp only[zf,bi.bind]at cn;exact⟨cF,rfl,aB v aT phx' aZ w' cF cn cR da d9<|((eQ.fc wr []).trans fO).mono bP⟩
   cases ao
  cases ao
def R?(hT:ou P E.cp)(dc:qS P E.cp E.C)(ii:sf P E.M)(dG:pV P E K w0)(eD:∀f g,E.I f=J g->lh P f g)
  (fg:nt<=1000000) {ops:cO c7} {Q:Exit->Act->bu->Prop} {tail:ab c7}:∀(l:ab c7) (top:aE) (i:R) (s:bd) {ρ:Type} (k:bd->bi ρ) (r:ρ),((qq E ops.toList nv nt top i l s).bind k).cf=J r ->
  ∀(phx:cV) (M:R->Prop) (w:bu) (a:Act),cd K w0 phx M s.bz w->eh phx (view w M) s.bz s.cw a->nt<=a.tmps.size ->
  (∀aT phx' aZ w' bn,(k aT).cf=J r->eQ (fD l) s aT->cd K w0 phx' aZ aT.bz w'->c8 phx M s.bz w phx' aZ aT.bz w'->eh phx' (view w' aZ) aT.bz aT.cw bn->iw (fD l) a bn->wpList P ops Q tail bn w')->wpList P ops Q (l++tail) a w:=by
 intro l;induction l with
 |nil=>intro top i s ρ k r h phx M w a hm hs g8 bD;exact bD s phx M w a h (eQ.refl _ _) hm (c8.refl _ _ _ _) hs<|iw.refl _ _
 |cons o rest ih=>
  intro top i s ρ k r h phx M w a hm hs g8 bD;have a?:=vI o rest;simp only[qq]at h

  have AL:∀{ρ:Type} (k:bd->bi ρ) (r:ρ) (Dq:aE) (bX:bd) (v dH:aP) (iI:cV) (gw:R->Prop) (cW:bu) (x:aS),t2 v dH->((js nt o.dst bX dH λs=>qq E ops.toList nv nt Dq (i+1) rest s).bind k).cf=J r ->
    cd K w0 iI gw bX.bz cW->eh iI (view cW gw) bX.bz bX.cw a->bI iI (view cW gw) bX.bz v x ->
    (∀aT phx' aZ w' bn,(k aT).cf=J r->eQ (fD rest) (kG bX o.dst dH) aT->(∀d,o.dst=J d->d<nt)->cd K w0 phx' aZ aT.bz w'->c8 iI gw bX.bz cW phx' aZ aT.bz w'->eh phx' (view w' aZ) aT.bz aT.cw bn->iw (fD<|o::rest) a bn->wpList P ops Q tail bn w') ->
    wpList P ops Q (rest++tail) (a.put o.dst x) cW:=by
   intro ρ k r Dq bX v dH iI gw cW x BU h b' LL e9 bD;obtain⟨hd,h⟩:=wD h;have tf:∀d,o.dst=J d->d<a.tmps.size:=λd a?=>ge (hd d a?) g8;refine ih Dq (i+1) _ k r h iI gw cW _ (by rw[mH];exact b') (by rw[mH,tB fg hd];exact LL.put tf<|BU.cb e9) (by simp only[Act.put];split<;>simpa using g8) λaT phx' aZ w' bn aB hf cN bh uV cz => ?_;rw[mH]at bh;exact bD aT phx' aZ w' bn aB hf hd cN bh uV<|(iw.put a?.1).sub cz (λt h=>h) a?.2
  rcases ahk h with⟨bR,h⟩|⟨bR,h⟩
  .simp only[sN,wpList]
   rw[aH<|ab2 bR hs];left;rw[bi.gg]at h;refine aCA hT dc ii dG eD h hm hs λv bX iI gw cW x h b' e1 e9 f1 => ?_;simp only at h;have LL:eh iI (view cW gw) bX.bz bX.cw a:=by rw[f1.cp];exact hs.ext e1
   have WK:∀dH aT,(∀d,o.dst=J d->d<nt)->eQ (fD rest) (kG bX o.dst dH) aT->eQ (fD<|o::rest) s aT:=λdH aT _ hf=>(f1.sub (yd a?.1) (λt h=>aLm)<|λt h=>h).sub hf (λt h=>h) a?.2;cases hg:(g' (zi ops.toList) i&&(vB v).isSome) with
   |false =>rw[hg,k1]at h;exact AL k r top bX v v iI gw cW x (.inl rfl) h b' LL e9 λaT phx' aZ w' bn aB hf hd cN bh uV cz=>bD aT phx' aZ w' bn aB (WK v aT hd hf) cN (e1.trans bh) uV cz
   |true=>
    rw[hg,km]at h;cases ak:vB v with
    |none=>exact aNC
    |some c=>
     rw[ak]at h;simp only at h;have a3:=adv ak

     have two:∀{ρ:Type} (k:bd->bi ρ) (r:ρ),((bi.br c (js nt o.dst bX (.kb af) λs=>qq E ops.toList nv nt ag (i+1) rest s)<|js nt o.dst bX (.kb ag) λs=>qq E ops.toList nv nt ag (i+1) rest s).bind k).cf=J r ->
       (∀aT phx' aZ w' bn,(k aT).cf=J r->eQ (fD rest) (kG bX o.dst<|.kb c) aT->(∀d,o.dst=J d->d<nt)->cd K w0 phx' aZ aT.bz w'->c8 iI gw bX.bz cW phx' aZ aT.bz w'->eh phx' (view w' aZ) aT.bz aT.cw bn->iw (fD<|o::rest) a bn->wpList P ops Q tail bn w') ->
       wpList P ops Q (rest++tail) (a.put o.dst x) cW:=by
      intro ρ k r h bD;simp only[bi.bind,bi.cf,aa]at h;cases c with
      |true=>exact AL k r ag bX v (.kb af) iI gw cW x (.inr ⟨af,a3,rfl⟩) h b' LL e9 bD
      |false=>exact AL k r ag bX v (.kb ag) iI gw cW x (.inr ⟨ag,a3,rfl⟩) h b' LL e9 bD
     cases top with
     |false=>exact aLk
     |true=>
      rw[km]at h;obtain⟨hd,h⟩:=wD h;rcases YB (λt ht=>(vh.1 ht).1) h with h|⟨ks,p,hp,hrest⟩
      .exact aLk
      refine two _ p hp λaT phx' aZ w' bn ac hf _ cN bh uV cz => ?_;obtain⟨tz,q4,jF⟩:∃tz,(bif cT aT.w.length (kG bX o.dst<|.sc .bool c).w.length then s' aT ks else aq)=J tz/\(bi.leaf tz).cf=J p:=by
       have zl:((bi.x7<|bif cT aT.w.length (kG bX o.dst<|.sc .bool c).w.length then s' aT ks else aq).bind bi.leaf).cf=J p:=by rw[lJ];exact ac
       exact bi.Zs zl
      cases jF;cases cP:cT aT.w.length (kG bX o.dst<|.sc .bool c).w.length with
      |false=>rw[cP]at q4;cases q4
      |true=>
       rw[cP,km]at q4;have XG:Mu (fD rest) (kG bX o.dst<|.sc .bool c) aT:=by
        obtain⟨f1,gJ,f2,f3⟩:=hf;refine⟨λt ht => ?_,gJ,by rw[f2,Qq,Qq],λid hid=>by rw[f3 id hid,mH,mH]⟩;rw[f1 t ht,tB fg hd,tB fg hd];cases aye:o.dst with
        |none=>exact aKB
        |some d=>
         by_cases BX:t=d
         .right
          refine⟨.bool,c,by simp[lV,qw,BX],?_⟩;simp only[lV,qw,BX,if_true];rfl
         left;simp[lV,qw,BX]
       obtain⟨eX,ab1,aHM,aHN⟩:=hrest aT XG (iM cP) q4;refine bD eX phx' aZ w' bn aHN ?_ (by rw[ab1.2];exact cN) (by rw[ab1.2];exact e1.trans bh) (uV.Te ab1) cz;exact(f1.sub (yd a?.1) (λt h=>aLm)<|λt h=>h).sub aHM (λt h=>h) a?.2
  simp only[sN,wpList];rw[aD (by rw[anE bR hs];simp)];exact AL k r top s .undef .undef phx M w undef (.inl rfl) h hm hs (aoB rfl) λaT phx' aZ w' bn aB hf hd cN bh uV cz=>bD aT phx' aZ w' bn aB ((yd a?.1).sub hf (λt h=>h) a?.2) cN bh uV cz
end
end Yp
namespace Yp
open Go
def t0:=@Array.replicate_succ
def rL:=@List.getElem?_toArray
def G9:=@Nat.sub_self
variable {P:d_}
def ahi{n:R}:∀{l:ab c7},OW n l=af->∀o∈l,∀g b,o.guard=J (g,b)->g<n
 |[],_,o,h,_,_,_=>by cases h
 |x::l,h,o,bg,g,b,hg=>by
  simp only[OW,d5]at h;rcases mU.1 bg with rfl|bg
  .simp_all
  exact ahi h.2 o bg g b hg
def af5:∀{l m:ab c7} {i:R},xe i (l++m)=af->xe i l=af
 |[],_,_,_=>rfl
 |o::l,m,i,h=>by simp only[sN,xe,d5]at h ⊢;exact⟨h.1,af5 h.2⟩
def aHY{o:c7}{a:Act}{w:bu}{Kn:Act->bu->Prop}{Q Q':Exit->Act->bu->Prop}(bD:∀e a w,e ≠ .normal->Q' e a w->Q e a w)(h:o.wp P a w Kn Q'):o.wp P a w Kn Q:=by
 unfold Oper.wp at *
 generalize(execOp a.eval o).run P w=r at *
 cases r with
 |ok n w'=>
  cases n<;>simp only[Oper.upon]at h ⊢ <;>
   first
    |exact h
    | (
     refine Calls.mono h λe Mb aX => ?_;cases e with
     |returned v=>exact aX
     |panicked c=>exact bD _ _ _ bP aX
     |outgrown=>obtain⟨a,w,h⟩:=aX;exact⟨a,w,bD _ _ _ bP h⟩)
 |halt x w'=>cases x<;>simp only[Oper.upon]at h ⊢ <;> first|exact bD _ _ _ bP h|exact h
def LZ(P:d_)(ops:cO c7)(n:R)(Q:Exit->Act->bu->Prop):Exit->Act->bu->Prop
 |.normal,a,w=>wpOp P ops Q n (λa w=>Q .normal a w) a w
 |e,a,w=>Q e a w
def aHX{l:ab c7}{o:c7}(hl:JP l o=af){Q:Exit->Act->bu->Prop}:
  ∀(h7:R) (cS:cO aE) (a:Act) (w:bu),cS.size=T l->sJ l.toArray (fW cS) ->
   wpAny P .any l.toArray (LZ P (l++[o]).toArray (T l) Q) h7 cS a w->wpAny P .any (l++[o]).toArray Q (h7+1) (cS.push ag) a w:=by
 simp only[JP,d5]at hl;obtain⟨⟨BK,ayz⟩,Xr⟩:=hl;have ax:(l++[o]).toArray.size=T l+1:=bP;have WV:∀i,i<T l->(l++[o]).toArray[i]?=l.toArray[i]?:=λi ao=>by
  grind
 have awN:(l++[o]).toArray[T l]?=J o:=bP;have FT:∀(cS:cO aE) (i:R) (d:aE),cS.size=T l->i<T l->(cS.push ag).getD i d=cS.getD i d:=λcS i d hs ao=>by simp_all[Array.getElem?_push_lt]
 have aDl:∀(cS:cO aE) (d:aE),cS.size=T l->(cS.push ag).getD (T l) d=ag:=λcS d hs=>by rw[o?,<- hs,Array.getElem?_push_size];rfl
 have af4:=Og<|af5 BK;have aIu:∀e∈o.after.toList,Region.binds .any e=af->e.on<T l:=λe aX ak=>by have:=Og BK (T l) o (by rw[DP<|cx _,G9];rfl) e aX ak;omega

 have aac:∀(cS:cO aE) (i:R),cS.size=T l->i<T l->(i∈Region.ready .any (l++[o]).toArray (cS.push ag)↔i∈Region.ready .any l.toArray cS):=λcS i hs ao=>by
  rw[mem_ready,mem_ready,WV i ao,FT cS i af hs ao];refine and_congr sU<|exists_congr λdZ => ?_;refine and_congr_right λbg => ?_;have azb:l[i]?=J dZ:=by rw[<- rL];exact bg
  refine forall_congr' λe => ?_;refine forall_congr' λaX => ?_;refine forall_congr' λak => ?_;have:=af4 i dZ azb e (by simpa using aX) ak;rw[FT cS e.on ag hs V]
 have ap3:∀(cS:cO aE),cS.size=T l->Region.ready .any l.toArray cS=[]->∀i,i<T l->cS.getD i ag=af:=by
  intro cS kS az i;induction i using Nat.strongRecOn with
  |_ i ih=>
   grind [mem_ready]
 have aBS:∀(cS:cO aE),(∀i,i<T l->cS.getD i ag=af)->cS.size=T l->Region.ready .any l.toArray cS=[]:=λcS h kS=>by
  rw[ve];intro i ao;obtain⟨aC,dZ,bg,_⟩:=mem_ready.1 ao
  grind

 have done:∀(cS:cO aE) (f:R) (a:Act) (w:bu),cS.size=T l->Region.ready .any l.toArray cS=[]->LZ P (l++[o]).toArray (T l) Q .normal a w->wpAny P .any (l++[o]).toArray Q (f+1) (cS.push ag) a w:=by
  intro cS f a w kS az bD;have hall:=ap3 cS kS az;have dP:T l∈Region.ready .any (l++[o]).toArray (cS.push ag):=by simp_all[mem_ready]
  refine⟨λh=>(by rw[h]at dP;cases dP),λi ao => ?_⟩;have bK:i<T l+1:=aMy
  by_cases py:i<T l
  .rw[aac cS i kS py,az]at ao;cases ao
  obtain rfl:i=T l:=V;refine wpOp_mono (λbn w' xL => ?_) bD;have BQ:Region.ready .any (l++[o]).toArray ((cS.push ag).setIfInBounds (T l) af)=[]:=by
   rw[ve];intro i ao;obtain⟨aC,dZ,bg,_⟩:=mem_ready.1 ao;have bK:i<T l+1:=by rw[<- ax];exact(jO.1 bg).1
   have dA:(cS.push ag).size=T l+1:=by simp[kS]
   by_cases py:i=T l
   .subst py
    rw[o?,Array.getElem?_setIfInBounds_self_of_lt V]at aC;cases aC
   rw[o?,MK<|Hm py,<- o?,FT cS i af kS V]at aC;have Y:=hall i V;have:i<cS.size:=V;simp[this]at aC Y;rw[Y]at aC;cases aC
  cases f with
  |zero=>exact⟨BQ,xL⟩
  |succ f=>exact⟨λ_=>xL,λi ao=>by rw[BQ]at ao;cases ao⟩
 intro h7;induction h7 with
 |zero=>intro cS a w kS fr h;exact done cS 0 a w kS h.1 h.2
 |succ h7 ih=>
  intro cS a w kS fr h;by_cases az:Region.ready .any l.toArray cS=[]
  .exact done cS (h7+1) a w kS az (h.1 az)
  refine⟨λgq => ?_,λi ao => ?_⟩
  .exfalso
   apply az;rw[ve];intro i ao;have bK:i<T l:=by obtain⟨_,dZ,bg,_⟩:=mem_ready.1 ao;simpa using(jO.1 bg).1
   have:=(aac cS i kS bK).2 ao;rw[gq]at this;cases this
  have bK:i<T l+1:=aMy
  by_cases py:i<T l
  .have ej:=(aac cS i kS py).1 ao
   have ac:=h.2 i ej;have lu:(cS.push ag).setIfInBounds i af=(cS.setIfInBounds i af).push ag:=by
    have xE:i<cS.toList.length:=by rw[T8];omega
    apply pe;simp only[MA,Array.toList_push,List.set_append];rw[aH xE]
   rw[lu];unfold wpOp at ac ⊢;rw[WV i py];obtain⟨aC,dZ,bg,Xy⟩:=mem_ready.1 ej;rw[bg]at ac ⊢;simp only at ac ⊢;have nF:=by rw[rL]at bg;exact Nb bg
   have azU:Region.wanted dZ (yielded (l++[o]).toArray a.tmps)=Region.wanted dZ (yielded l.toArray a.tmps):=by
    unfold Region.wanted;cases hg:dZ.guard with
    |none=>rfl
    |some p =>obtain⟨g,b⟩:=p;have:=ahi ayz dZ nF g b hg;simp only[yielded,WV g this]
   rw[azU];have ax1:sJ l.toArray<|fW<|cS.setIfInBounds i af:=by
    intro k ok aB um x hx ak;have E2:i<cS.size:=V;rw[MP E2]at um ⊢;simp only[A2,lH]at um ⊢;right;rcases um with um|um
    .subst um
     rw[yM,bg]at aB;cases aB;exact Xy x (by simpa using hx) ak
    exact fr k ok aB um x hx ak
   have aB:=
    λa w h=>ih _ a w (by simpa using kS) ax1 h
   have aiw:∀e a w,e≠Exit.normal->LZ P (l++[o]).toArray (T l) Q e a w->Q e a w:=λe a w aX h=>by cases e<;>first|exact ev rfl aX|exact h
   split
   .rename_i bR
    rw[aH bR]at ac;refine ac.imp (λac=>aHY aiw<|Oper.wp_mono aB ac) λ⟨av,fp,h3,aJ⟩=>⟨av,fp,h3,aiw _ _ _ bP aJ⟩
   rename_i bR;rw[aD bR]at ac;exact aB _ _ ac
  obtain rfl:i=T l:=V;exfalso;apply az;obtain⟨_,dZ,bg,Xy⟩:=mem_ready.1 ao;rw[awN]at bg;cases bg;refine aBS cS (λi ao => ?_) kS;have hall:=UC (ops:=l++[o]) (L:=λi=>(cS.push ag).getD i ag) (λk ok aB um x hx ak => ?_) (T l) o (by rw[DP<|cx _,G9];rfl) (λe aX ak=>Xy e (by simpa using aX) ak) i<|rI.1 Xr i (rK.2 ao)
  .rw[<- FT cS i ag kS ao];exact hall
  have E4:k<T l:=by
   have qc:=by have:=(oC.1 aB).1;simpa using this
   by_cases E4:k=T l
   .subst E4
    rw[aDl cS ag kS]at um;cases um
   omega
  have qb:=by rw[G? E4]at aB;exact aB
  have aiJ:=af4 k ok qb x hx ak;rw[FT cS x.on ag kS V];refine fr k ok (by exact qb) ?_ x hx ak;show cS.getD k ag=af;rw[<- FT cS k ag kS E4];exact um
section
variable {K:Kp} {w0:bu} {E:dO} {nt:R} {ops:cO c7}
def aFt(hT:ou P E.cp)(dc:qS P E.cp E.C)(ii:sf P E.M)(dG:pV P E K w0)(eD:∀f g,E.I f=J g->lh P f g)(fg:nt<=1000000){s:bd}{k:bd->bi ρ}{r:ρ}
  (h:((pQ E ops.toList nv nt af af 0 ops.toList s []).bind k).cf=J r) {phx:cV} {M:R->Prop} {w:bu} {a:Act} (hm:cd K w0 phx M s.bz w) (hs:eh phx (view w M) s.bz s.cw a) (g8:nt<=a.tmps.size)
  {Q:Exit->Act->bu->Prop}
  (bD:∀aT phx' aZ w' bn,(k aT).cf=J r->eQ (fD ops.toList) s aT->cd K w0 phx' aZ aT.bz w'->c8 phx M s.bz w phx' aZ aT.bz w'->eh phx' (view w' aZ) aT.bz aT.cw bn->iw (fD ops.toList) a bn->Q .normal bn w') :
  wpAny P .any ops Q ops.size (hK ops.size ag) a { w with drawn:=w.drawn+1 }/\sJ ops (fW<|Array.replicate ops.size ag):=by
 obtain⟨aT,⟨b8,bX,Y,ac,av,aJ,bv,c_,eJ,cH⟩,aB⟩:=amp fg _ _ _ _ _ k r h;have hC:∀phx' aZ w' bn,cd K w0 phx' aZ (e5 b8 (λ_=>af) s.bz) w'->c8 phx M s.bz w phx' aZ (e5 b8 (λ_=>af) s.bz) w'->eh phx' (view w' aZ) (e5 b8 (λ_=>af) s.bz) (gt b8 (λ_=>af) s.cw) bn->iw (fD ops.toList) a bn->Q .normal bn w':=aC_
 obtain⟨az,bg⟩:=cH rfl;simp only[Li,d5]at az;have f:mr E nt ops b8 s.cw s.bz:=⟨aPy,ac,av,az.2,az.1,ZM<|by simpa using bg⟩;have vP:fW (hK ops.size ag)=λ_=>ag:=aM8
 have Cm:∀(l:ab fU) (B:R->bm),e5 l (λ_=>ag) B=B:=by
  intro l;exact aKD
 have Za:∀(l:ab fU) (g:R->aP),gt l (λ_=>ag) g=g:=by
  intro l;exact aMs
 have hi:cd K w0 phx M s.bz { w with drawn:=w.drawn+1 }:={ hm with keep:=hm.keep,blks:=hm.blks };have fr:sJ ops<|fW<|Array.replicate ops.size ag:=by intro i o _ h;rw[vP]at h;cases h
 refine⟨aos (P:=P) (K:=K) (w0:=w0) hT dc ii dG eD f g8 hC ops.size _ phx M { w with drawn:=w.drawn+1 } a bP fr ?_ ?_ ?_ ?_ (iw.refl _ _),fr⟩
 .exact i6 (np _ _) bP
 .rw[vP,Cm];exact hi
 .exact aNH
 rw[vP,Cm,Za];exact hs
def aFv(jX:P.follows .mixedOrders=af){l:ab c7}{o:c7}(hl:JP l o=af){id:R}{Q:Exit->Act->bu->Prop}{a:Act}{w:bu}(bg:(l++[o]).toArray=ops)
  (h:wpAny P .any l.toArray (LZ P (l++[o]).toArray (T l) Q) l.toArray.size (hK l.toArray.size ag) a { w with drawn:=w.drawn+1 }/\sJ l.toArray (fW<|Array.replicate l.toArray.size ag)) :
  (Code.region id ops af).wp P Q a w:=by
 subst bg;refine wp_region_any jX ?_;have Y:=aHX hl _ _ a _ bP h.2 h.1;have e1:(l++[o]).toArray.size=l.toArray.size+1:=bP;have bh:hK (l++[o]).toArray.size ag=(hK l.toArray.size ag).push ag:=by rw[e1,t0]
 rw[bh,e1];exact Y
end
end Yp
namespace Yp
open Go
variable {P:d_}
section
variable {K:Kp} {w0 w:bu} {phx:cV} {M:R->Prop} {B B':R->bm} {g:R->aP} {a:Act} {E:dO} {rs:ab e6} {res:ab ResultVar} {nv nt:R} {inl:aE}
theorem gN.refl{s:bd}(hm:cd K w0 phx M s.bz w)(hs:eh phx (view w M) s.bz s.cw a):gN K w0 D s phx M w a s phx M w a:=⟨eQ.refl _ _,hm,c8.refl _ _ _ _,hs,iw.refl _ _⟩
def gN.trans{Mq:ab R}{s bX aT:bd}{iI kU:cV}{gw dF:R->Prop}{cW dp:bu}{c9 dl:Act}(h:gN K w0 D s phx M w a bX iI gw cW c9)(k:gN K w0 le bX iI gw cW c9 aT kU dF dp dl)
  (a?:∀t,t∈D->t∈Mq) (vR:∀t,t∈le->t∈Mq):gN K w0 Mq s phx M w a aT kU dF dp dl:=⟨h.i'.sub k.i' a? vR,k.iF,h.ext.trans k.ext,k.slots,h.keep.sub k.keep a? vR⟩
def gN.mono{s bX:bd}{iI:cV}{gw:R->Prop}{cW:bu}{c9:Act}(h:gN K w0 D s phx M w a bX iI gw cW c9)(a?:∀t,t∈D->t∈le):gN K w0 le s phx M w a bX iI gw cW c9:=
 ⟨h.i'.mono a?,h.iF,h.ext,h.slots,h.keep.1,h.keep.2.1,λt ht=>h.keep.2.2 t λaA=>ht<|a? t aA⟩
def aHD{b:Code}(ef:E.U=af)(ih:DT P K w0 E rs res nv nt inl b):DT P K w0 E rs res nv nt inl<|.loop b:=by
 intro s ρ k r h phx M w a hm hs g8 Q jY X2 X3;simp only[run,ef]at h;refine aoR (λn dl dp=>∃aT kU dF,((S? (λs=>run E rs res nv nt inl b s) n aT).bind k).cf=J r/\gN K w0 (eS<|.loop b) s phx M w a aT kU dF dp dl) (λdl dp ⟨aT,kU,dF,aC,_⟩=>by cases aC) ?_ ⟨s,phx,M,h,gN.refl hm hs⟩;rintro n dl dp ⟨aT,kU,dF,ac,ax⟩;simp only[S?]at ac;rw[bi.gg]at ac;have Gt:∀t,t∈eS b->t∈eS (.loop b):=λt h=>h;refine ih aT ρ _ r ac kU dF dp dl ax.iF ax.slots aK6 _ (λeX kF kp fQ dB aB me => ?_) (λid eX kF kp fQ dB aB me => ?_)<|λv fQ dB aB a? bq => ?_
 .exact⟨eX,kF,kp,aB,ax.trans me (λt h=>h) Gt⟩
 .have bD:=X2 id eX kF kp fQ dB aB (ax.trans me (λt h=>h) Gt)
  revert bD;unfold m3;exact aOE
 exact X3 v fQ dB aB (a?.trans ax.keep.2.1) bq
theorem ajO{m:R}:∀{l:ab c7} {q:ab c7×au R×fS×R×c7},J1 m l=J q->∃e? ty jI rO,q.2.2.2.2=⟨q.2.1,.call ⟨.value<|.func m, #[q.2.2.1,.const<|.int .i64 (q.2.2.2.1:O)],e?⟩,ty,jI,rO,aq⟩/\l=q.1++[q.2.2.2.2]
 |[],q,h=>by cases h
 |o::r,q,h=>by
  simp only[J1]at h;cases az:J1 m r with
  |some Qr=>
   obtain⟨e?,ty,jI,rO,e,b9⟩:=ajO az
   grind
  |none=>
   rw[az]at h;simp only at h;split at h
   .rename_i dD f args e? ty jI rO
    cases ak:cT f m with
    |false=>exact aNC
    |true=>
     rw[ak]at h;split at h
     .rename_i c k jV
      cases h;have:=iM ak;subst this;have b6:=by apply pe;exact jV
      simp_all
     cases h
   cases h
def aBz{ops:ab c7}{q:ab c7×au R×fS×R×c7}(h:PU E ops=J q):∃m t e? ty jI rO,E.Pn=J (m,t)/\q.2.2.2.2=⟨q.2.1,.call ⟨.value<|.func m, #[q.2.2.1,.const<|.int .i64 (q.2.2.2.1:O)],e?⟩,ty,jI,rO,aq⟩/\ops=q.1++[q.2.2.2.2]:=by
 grind [PU,ajO]
def ak9:∀{l:ab c7} {p:ab c7×(R×au R×pf×ab fS)×c7×ab c7},FX E l=J p ->
  l=p.1++p.2.2.1::p.2.2.2/\E.Q p.2.1.1=J p.2.1.2.2.1/\∃args e? ty jI rO,p.2.1.2.2.2=args.toList/\p.2.2.1=⟨p.2.1.2.1,.call ⟨.value<|.func p.2.1.1,args,e?⟩,ty,jI,rO,aq⟩
 |[],p,h=>by cases h
 |o::r,p,h=>by
  simp only[FX]at h;cases bD:Z' E o with
  |some q=>
   rw[bD]at h;unfold Z' at bD
   grind
  |none=>
   rw[bD]at h;cases az:FX E r with
   |none=>rw[az]at h;cases h
   |some tz=>
    obtain⟨Y,ac⟩:=ak9 az
    grind
theorem afX{gZ iE:ab c7}(h:t∈fD gZ):t∈fD (gZ++iE):=by
 induction gZ with
 |nil=>cases h
 |cons o r ih=>
  grind [fD]
def aoS{c:fS}{dD:au R}{e?:cO cD}{type:cD}{jI:String}{after:cO Edge}(hp:A_ P m t){b:aE}(ak:a.eval c=.bool b){Kn:Act->bu->Prop}{Q:Exit->Act->bu->Prop}
  (Y:b=af->∀v,Kn (a.put dD v) w) (ac:b=ag->Q (.panic [{ v:=.iface t<|.int .i64 (k:O),recovered:=ag }]) a w):Oper.wp P ⟨dD,.call ⟨.value<|.func m, #[c,.const<|.int .i64 (k:O)],e?⟩,type,jI,after,aq⟩ a w Kn Q:=by
 obtain⟨⟨fn,c1,c2,fK⟩,aA⟩:=hp;have xw:¬fn.body=aq:=aMP
 have NA : ¬ fn.name = "runtime.NumGoroutine" := by simpa using fK
 have lR:(execOp a.eval ⟨dD,.call ⟨.value<|.func m, #[c,.const<|.int .i64 (k:O)],e?⟩,type,jI,after,aq⟩).run P w=.ok (.enter m #[.bool b,.int .i64 (k:O)]) w:=by have m':a.eval (.const<|.int .i64 (k:O))=.int .i64 (k:O):=rfl;have B1:a.eval (.func m)=.func (.func m) #[] #[]:=rfl;simp only[execOp,resolve];simp[ak,m',B1,Deferred.ofValue,invoke,callFunc,c1,NA,xw]
 unfold Oper.wp;rw[lR,Oper.upon_enter];refine(aA b k w).mono ?_;rintro e w' ⟨rfl,rfl⟩;cases b with
 |true=>exact Y rfl _
 |false=>exact ac rfl
def ajN{dD:au R}{c:fS}{kA:R}{e?:cO cD}{ty:cD}{jI:String}{rO:cO Edge}(hp:A_ P m t)(k7:E.Pn=J (m,t))(fg:nt<=1000000){s aT:bd}{phx':cV}{aZ:R->Prop}{w':bu}{bn:Act}{ρ':Type}
  {k:k3 ρ'->bi ρ} {r:ρ} (h:((J0 nt dD c kA aT).bind k).cf=J r) (ax:gN K w0 D s phx M w a aT phx' aZ w' bn) (g8:nt<=bn.tmps.size) {le:ab R} (jD:∀t,t∈D->t∈le) (a?:∀d,dD=J d->d∈le) {Kn:Act->bu->Prop} {Q:Exit->Act->bu->Prop}
  (jY:∀aT phx' aZ w' bn,(k<|.nx aT).cf=J r->gN K w0 le s phx M w a aT phx' aZ w' bn->Kn bn w')
  (ls:∀id aT phx' aZ w' bn,(k<|.ex id aT).cf=J r->gN K w0 le s phx M w a aT phx' aZ w' bn->Q (m3 E id) bn w') :
  Oper.wp P ⟨dD,.call ⟨.value<|.func m, #[c,.const<|.int .i64 (kA:O)],e?⟩,ty,jI,rO,aq⟩ bn w' Kn Q:=by
 unfold J0 at h;rw[bi.gg]at h;obtain⟨v,wr,Y,ac⟩:=qa h;obtain⟨_,a3⟩:=z2 Y ax.slots;simp only at ac;have hx:=Oq (k:=kA) k7;have ag9:((js nt dD aT .bad λs=>bi.leaf<|aL.nx s).bind k).cf=J r->∀v,Kn (bn.put dD v) w':=λhg v=>by obtain⟨hd,hg⟩:=wD hg;refine jY (kG aT dD .bad) phx' aZ w' _ hg ?_;have tf:∀d,dD=J d->d<bn.tmps.size:=λd a?=>ge (hd d a?) g8;exact gN.trans ax ⟨yd (D:=le) a?,by rw[mH];exact ax.iF,by rw[mH];exact c8.refl _ _ _ _,by rw[mH,tB fg hd];exact ax.slots.put tf trivial,iw.put (D:=le) a?⟩ jD λt h=>h
 have bad:(k<|.ex (iN+kA) aT).cf=J r->Q (.panic [{ v:=.iface t<|.int .i64 (kA:O),recovered:=ag }]) bn w':=λak=>by rw[<- hx];exact ls (iN+kA) aT phx' aZ w' bn ak<|ax.mono jD
 cases v<;>try(cases ac;done)
 case kb b=>
  have ak:bn.eval c=.bool b:=a3;refine aoS hp ak (λe => ?_)<|λe => ?_
  .subst e;exact ag9 ac
  subst e;exact bad ac
 case sc aow b=>
  cases aow<;>try(cases ac;done)
  have ak:bn.eval c=.bool b:=bI.bool a3;have ht:∃o4:aE,o4=b:=⟨b,rfl⟩;obtain⟨o4,BW⟩:=ht;subst BW;simp only[bi.bind,bi.cf,aa]at ac;refine aoS hp ak (λe => ?_)<|λe => ?_
  .subst e;exact ag9 ac
  subst e;exact bad ac
def aHZ{dD:au R}{F:fS}{args:cO fS}{e?:cO cD}{type:cD}{jI:String}{after:cO Edge}{VI N2:cO aS}(a3:a.eval F=.func (.func f) VI N2)(aA:tY P f){Kn:Act->bu->Prop}{Q:Exit->Act->bu->Prop}
  (h:Calls P f (VI++args.map a.eval++N2) w fun
   |.returned v,w'=>Kn (a.put dD v) w'
   |.panicked c,w'=>Q (.panic c) a w'
   |.outgrown,_=>LetsOut Q):Oper.wp P ⟨dD,.call ⟨.value F,args,e?⟩,type,jI,after,aq⟩ a w Kn Q:=by
 obtain⟨fn,c1,c2,fK⟩:=aA;have xw:¬fn.body=aq:=aMP
 have NA:=by simpa using fK
 have lR:(execOp a.eval ⟨dD,.call ⟨.value F,args,e?⟩,type,jI,after,aq⟩).run P w=.ok (.enter f<|VI++args.map a.eval++N2) w:=by simp_all[execOp,resolve,Deferred.ofValue,invoke,callFunc]
 unfold Oper.wp;rw[lR];exact h
def agl{ρ' ρ:Type}{n:R}{s:bd}:∀{l:ab R} {k:k3 ρ'->bi ρ} {r:ρ},((Ig n s l).bind k).cf=J r->((k<|.ex (iN+n) s).cf=J r)
 |[i],k,r,h=>by
  simp only[Ig]at h;cases ak:bU n i with
  |false=>exact aNC
  |true=>rw[ak]at h;rw[iM ak];exact h
 |i::j::l,k,r,h=>by
  simp only[Ig]at h;cases ak:bU n i with
  |false=>rw[ak]at h;exact agl (l:=j::l) h
  |true=>rw[ak]at h;rw[iM ak];exact h
def qr(hT:ou P E.cp)(dc:qS P E.cp E.C)(ii:sf P E.M)(dG:pV P E K w0)(eD:∀f g,E.I f=J g->lh P f g)(jX:P.follows .mixedOrders=af)(gz:inl=ag->∀b,K.k b↔b<w0.heap.size)(fg:nt<=1000000):∀c:Code,DT P K w0 E rs res nv nt inl c
 |.skip=>λs ρ k r h phx M w a hm hs g8 Q jY ls qd=>wp_skip<|jY s phx M w a h (gN.refl hm hs)
 |.label l=>λs ρ k r h phx M w a hm hs g8 Q jY ls qd=>wp_label<|jY s phx M w a h (gN.refl hm hs)
 |.region id ops dX=>λs ρ k r h phx M w a hm hs g8 Q jY ls qd=>by
  simp only[run]at h;cases vV:PU E ops.toList with
  |some q=>
   rw[vV]at h;obtain⟨z8,ala,tD,aDw,FY⟩:=q;obtain⟨m,t,e?,ty,jI,rO,k7,Pf,od⟩:=aBz vV;simp only at Pf od h;have jD:∀t,t∈fD z8->t∈eS (.region id ops dX):=λt ht=>by
    grind [eS,afX]
   have a?:∀d,ala=J d->d∈eS (.region id ops dX):=λd a?=>by
    simp only[eS];rw[od];have:∀l:ab c7,d∈fD (l++[FY]):=λl=>by
     induction l with
     |nil=>rw[Pf,a?];exact M3
     |cons o r ih=>exact(vI o<|r++[FY]).2 d ih
    grind
   cases dX with
   |true=>
    simp only[km]at h;cases hl:JP z8 FY with
    |false=>rw[hl]at h;cases h
    |true =>rw[hl,km,bi.gg]at h;refine aFv jX hl (by rw[<- od])<|aFt (ops:=z8.toArray) hT dc ii dG eD fg (k:=λs=>(J0 nt ala tD aDw s).bind k) aKP hm hs g8 λaT phx' aZ w' bn aB hf b' e1 bX b4 => ?_;have ax:gN K w0 (fD z8) s phx M w a aT phx' aZ w' bn:=⟨by simpa using hf,b',e1,bX,by simpa using b4⟩;unfold LZ wpOp;rw[show(z8++[FY]).toArray[z8.length]?=J FY by rw[rL,DP<|cx _,G9];rfl];simp only;exact aPL
   |false =>simp only[k1]at h;rw[bi.gg]at h;refine wp_region_list ?_;rw[od];refine R? (tail:=[FY]) hT dc ii dG eD fg z8 af 0 s _ r h phx M w a hm hs g8 λaT phx' aZ w' bn aB hf b' e1 bX b4 => ?_;have ax:gN K w0 (fD z8) s phx M w a aT phx' aZ w' bn:=⟨hf,b',e1,bX,b4⟩;simp only[wpList];exact aPL
  |none=>
  rw[vV]at h;simp only at h;cases Jk:FX E ops.toList with
  |some p=>
   rw[Jk]at h;obtain⟨gZ,⟨f,dD,ni,aIp⟩,o,iE⟩:=p;cases dX with
   |true=>cases h
   |false=>
    simp only[k1]at h;obtain⟨od,BA,args,e?,ty,jI,rO,jV,bg⟩:=ak9 Jk;simp only at od BA jV bg;subst jV;obtain⟨⟨m,bM,k7,Xu⟩,he⟩:=dG.qn f ni BA;rw[bi.gg]at h;refine wp_region_list ?_;rw[od];have Xb:∀t,t∈fD gZ->t∈eS (.region id ops ag):=λt ht=>by
     grind [eS,afX]
    have aIz:∀gZ:ab c7,∀t,t∈fD (o::iE)->t∈fD (gZ++o::iE):=λgZ t ht=>by
     induction gZ with
     |nil=>exact ht
     |cons dZ r ih=>exact(vI dZ _).2 t ih
    have ahr:∀t,t∈fD (o::iE)->t∈eS (.region id ops ag):=λt ht=>by
     grind [eS]
    refine R? (tail:=o::iE) hT dc ii dG eD fg gZ af 0 s _ r h phx M w a hm hs g8 λaT phx' aZ w' bn aB hf b' e1 bX b4 => ?_;have ax:gN K w0 (fD gZ) s phx M w a aT phx' aZ w' bn:=⟨hf,b',e1,bX,b4⟩;rw[bi.gg]at aB;obtain⟨⟨n,v⟩,wr,Y,ac⟩:=qa aB;obtain⟨bE,du,dN,fC⟩:=aR.dd Y;obtain⟨Wc,dQ⟩:=zV bX dN;subst Wc;simp only at ac;simp only[wpList];rw[bg,aH<|by simp[Region.wanted]];left;have b6:(args.toList.map bn.eval).toArray=args.map bn.eval:=aM7
    obtain⟨xx,EZ⟩:=aDu Xu he fC b' dQ;rw[b6]at EZ;have r4:bn.eval (.func f)=.func (.func f) #[] #[]:=rfl;have ay0:nt<=bn.tmps.size:=aK6
    refine aHZ r4 xx ?_;simp only[Array.empty_append,Array.append_empty];refine EZ.mono ?_;rintro e dp ⟨dF,cN,bh,ahQ⟩;rw[<- bd.oN]at cN bh ahQ;have aIv:=hf.sub (eQ.fc wr<|fD gZ) (λt h=>h)<|λt h=>h;have SH:eh phx' (view dp dF) (aT.fc wr).bz (aT.fc wr).cw bn:=by rw[(eQ.fc wr []).cp];exact bX.ext bh
    simp only[bi.bind,bi.cf,aa]at ac;rcases ahQ with⟨vW,cF,rfl,r9⟩|⟨vW,rfl⟩
    .subst vW
     rw[show bU 0 0=af from rfl,km]at ac;obtain⟨hd,ac⟩:=wD ac;have tf:=λd a?=>ge (hd d a?) ay0;have O5:=λd a?=>(vI o iE).1 d (by rw[bg];exact a?);rw[bi.gg]at ac;have zw:gN K w0 (eS<|.region id ops ag) s phx M w a (kG (aT.fc wr) dD v) phx' dF dp<|bn.put dD cF:=
      gN.trans ax ⟨(eQ.fc wr []).sub (yd (D:=fD<|o::iE) O5) (λt h=>aLm)<|λt h=>h,by rw[mH];exact cN,by rw[mH];exact bh,by rw[mH,tB fg hd];exact SH.put tf r9,iw.put (D:=fD<|o::iE) O5⟩ Xb ahr
     show wpList P ops Q iE (bn.put dD cF) dp;have aC:=R? (P:=P) (tail:=[]) (ops:=ops) (Q:=Q) hT dc ii dG eD fg iE af (gZ.length+1) _ _ r ac phx' dF dp _ zw.iF zw.slots (by rw[zw.keep.1];exact g8) λeX kF kp fQ dB gi XD hD ei aGe dw => ?_
     .rwa [g?]at aC
     exact jY eX kF kp fQ dB gi<|zw.trans ⟨XD,hD,ei,aGe,dw⟩ (λt h=>h) λt ht=>ahr t ((vI o iE).2 t ht)
    have ay2:bU n 0=ag:=by
     cases ak:bU n 0 with
     |false=>rfl
     |true=>exact ev (iM ak) vW
    rw[ay2,k1]at ac;have av:=agl ac;have bD:=ls (iN+n) (aT.fc wr) phx' dF dp bn av<|gN.trans ax ⟨eQ.fc wr<|fD gZ,cN,bh,SH,iw.refl _ _⟩ Xb Xb;rw[Oq k7]at bD;exact bD
  |none=>
  rw[Jk]at h;simp only at h;cases aA:(!dX&&VG E ops.toList) with
  |false =>rw[aA,k1,bi.gg]at h;exact aFu hT dc ii dG eD jX fg h hm hs g8 λaT phx' aZ w' bn aB hf b' e1 bX b4=>jY aT phx' aZ w' bn aB ⟨hf,b',e1,bX,b4⟩
  |true=>
   rw[aA,km,bi.gg]at h;simp only[d5,yK]at aA;rw[aA.1];refine wp_region_list ?_;have aC:=R? (tail:=[]) hT dc ii dG eD fg ops.toList af 0 s _ r h phx M w a hm hs g8 λaT phx' aZ w' bn aB hf b' e1 bX b4=>jY aT phx' aZ w' bn aB ⟨hf,b',e1,bX,b4⟩
   rwa [g?]at aC
 |.seq x y=>λs ρ k r h phx M w a hm hs g8 Q jY ls qd=>by
  simp only[run]at h;rw[bi.gg]at h;have Cl:∀t,t∈eS x->t∈eS (.seq x y):=λt h=>A8 _ h;have Fu:∀t,t∈eS y->t∈eS (.seq x y):=λt h=>DM _ h;refine wp_seq<|qr hT dc ii dG eD jX gz fg x s ρ _ r h phx M w a hm hs g8 _ (λaT phx' aZ w' bn aB ax => ?_) (λid aT phx' aZ w' bn aB ax => ?_) (λv w' bn aB a? bq => ?_)
  .exact qr hT dc ii dG eD jX gz fg y aT ρ k r aB phx' aZ w' bn ax.iF ax.slots aK6 Q (λeX kF kp fQ dB gi me=>jY eX kF kp fQ dB gi<|ax.trans me Cl Fu)
    (λid eX kF kp fQ dB gi me=>ls id eX kF kp fQ dB gi<|ax.trans me Cl Fu) (λv fQ dB gi a? bq=>qd v fQ dB gi (a?.trans ax.keep.2.1) bq)
  .have bD:=ls id aT phx' aZ w' bn aB (ax.mono Cl)
   revert bD;unfold m3;exact aOE
  exact qd v w' bn aB a? bq
 |.cond c x y=>λs ρ k r h phx M w a hm hs g8 Q jY ls qd=>by
  simp only[run]at h;rw[bi.gg]at h;have Cl:∀t,t∈eS x->t∈eS (.cond c x y):=λt h=>A8 _ h;have Fu:∀t,t∈eS y->t∈eS (.cond c x y):=λt h=>DM _ h;obtain⟨v,wr,Y,ac⟩:=qa h;obtain⟨_,a3⟩:=z2 Y hs;simp only at ac;have ag7:∀{ρ:Type} (k:k3 (e0 rs)->bi ρ) (r:ρ),((run E rs res nv nt inl x s).bind k).cf=J r->(∀aT phx' aZ w' bn,(k<|.nx aT).cf=J r->gN K w0 (eS x) s phx M w a aT phx' aZ w' bn->Q .normal bn w') ->
   (∀id aT phx' aZ w' bn,(k<|.ex id aT).cf=J r->gN K w0 (eS x) s phx M w a aT phx' aZ w' bn->Q (m3 E id) bn w') ->
   (∀v w' bn,(k<|.rt v).cf=J r->bn.defers=a.defers->(∃us,uQ P bn.tmps w' res us/\jP w0 K.x w' rs v (kj us))->Q .ret bn w')->x.wp P Q a w:=
   λk r hx b0 bT dE=>qr hT dc ii dG eD jX gz fg x s _ k r hx phx M w a hm hs g8 Q b0 bT dE
  have ag8:∀{ρ:Type} (k:k3 (e0 rs)->bi ρ) (r:ρ),((run E rs res nv nt inl y s).bind k).cf=J r->(∀aT phx' aZ w' bn,(k<|.nx aT).cf=J r->gN K w0 (eS y) s phx M w a aT phx' aZ w' bn->Q .normal bn w') ->
   (∀id aT phx' aZ w' bn,(k<|.ex id aT).cf=J r->gN K w0 (eS y) s phx M w a aT phx' aZ w' bn->Q (m3 E id) bn w') ->
   (∀v w' bn,(k<|.rt v).cf=J r->bn.defers=a.defers->(∃us,uQ P bn.tmps w' res us/\jP w0 K.x w' rs v (kj us))->Q .ret bn w')->y.wp P Q a w:=
   λk r hx b0 bT dE=>qr hT dc ii dG eD jX gz fg y s _ k r hx phx M w a hm hs g8 Q b0 bT dE
  have ab3:=λhx=>ag7 k r hx (λaT phx' aZ w' bn aB ax=>jY aT phx' aZ w' bn aB<|ax.mono Cl) (λid aT phx' aZ w' bn aB ax=>ls id aT phx' aZ w' bn aB<|ax.mono Cl) qd;have ab4:=λhx=>ag8 k r hx (λaT phx' aZ w' bn aB ax=>jY aT phx' aZ w' bn aB<|ax.mono Fu) (λid aT phx' aZ w' bn aB ax=>ls id aT phx' aZ w' bn aB<|ax.mono Fu) qd;cases v<;>try(cases ac)
  case kb t=>
   have a3:=a3;cases t with
   |true=>exact wp_cond_true a3<|ab3 ac
   |false=>exact wp_cond_false a3<|ab4 ac
  case sc ty t=>
   cases ty<;>try(cases ac)
   have a3:=bI.bool a3;cases ef:(E.U && !(rh [] x&&rh [] y)) with
   |true=>
    rw[ef]at ac;simp only[km]at ac;have ht:∃o4:aE,o4=t:=⟨t,rfl⟩;obtain⟨o4,BW⟩:=ht;subst BW;cases o4 with
    |true=>exact wp_cond_true a3<|ab3 ac
    |false=>exact wp_cond_false a3<|ab4 ac
   |false=>
   rw[ef]at ac;simp only[k1]at ac;have br:((bi.br t (run E rs res nv nt inl x s)<|run E rs res nv nt inl y s).bind k).cf=J r->(Code.cond c x y).wp P Q a w:=λak=>by
    simp only[bi.bind,bi.cf,aa]at ak;have ht:∃o4:aE,o4=t:=⟨t,rfl⟩;obtain⟨o4,BW⟩:=ht;subst BW;cases o4 with
    |true=>exact wp_cond_true a3<|ab3 ak
    |false=>exact wp_cond_false a3<|ab4 ak
   generalize(rh [] x&&rh [] y&&aj4 E)=c1 at ac;cases c1 with
   |false=>exact br ac
   |true=>
    simp only[km]at ac;rw[bi.gg]at ac

    have aa4:∀{ρ:Type} (k':bd->bi ρ) (st:ρ),(((bi.br t ((run E rs res nv nt inl x s).ol Cv)<|(run E rs res nv nt inl y s).ol Cv)).bind k').cf=J st ->
     (∀aT phx' aZ w' bn,(k' aT).cf=J st->gN K w0 (eS<|.cond c x y) s phx M w a aT phx' aZ w' bn->Q .normal bn w')->(Code.cond c x y).wp P Q a w:=by
     intro ρ k' st ak m_;simp only[bi.bind,bi.cf,aa,bi.x9,bi.gg]at ak;have hC:∀{D:ab R} (jD:∀t,t∈D->t∈eS (.cond c x y)),(∀aT phx' aZ w' bn,((bi.x7<|Cv (.nx aT:k3<|e0 rs)).bind k').cf=J st->gN K w0 D s phx M w a aT phx' aZ w' bn->Q .normal bn w') /\
      (∀id aT phx' aZ w' bn,((bi.x7<|Cv (.ex id aT:k3<|e0 rs)).bind k').cf=J st->gN K w0 D s phx M w a aT phx' aZ w' bn->Q (m3 E id) bn w') /\
      (∀v w' bn,((bi.x7<|Cv (.rt v:k3<|e0 rs)).bind k').cf=J st->bn.defers=a.defers->(∃us,uQ P bn.tmps w' res us/\jP w0 K.x w' rs v (kj us))->Q .ret bn w'):=
      λjD=>⟨λaT phx' aZ w' bn aB ax=>m_ aT phx' aZ w' bn aB<|ax.mono jD,(λid aT phx' aZ w' bn aB _=>aMW),(λv w' bn aB _ _=>aMW)⟩
     have ht:∃o4:aE,o4=t:=⟨t,rfl⟩;obtain⟨o4,BW⟩:=ht;subst BW;cases o4 with
     |true=>obtain⟨f1,f2,f3⟩:=hC Cl;exact wp_cond_true a3<|ag7 _ st ak f1 f2 f3
     |false=>obtain⟨f1,f2,f3⟩:=hC Fu;exact wp_cond_false a3<|ag8 _ st ak f1 f2 f3
    rcases YB (λt ht=>(vh.1 ht).1) ac with av|⟨ks,p,hp,hrest⟩
    .exact aa4 _ r av λaT phx' aZ w' bn aB ax=>jY aT phx' aZ w' bn aB ax
    refine aa4 _ p hp λaT phx' aZ w' bn aB ax => ?_;have oS:((bi.x7<|bif cT aT.w.length s.w.length then s' aT ks else aq).bind bi.leaf).cf=J p:=aND
    obtain⟨tz,q4,jF⟩:=bi.Zs oS;cases jF;cases cP:cT aT.w.length s.w.length with
    |false=>rw[cP]at q4;cases q4
    |true =>rw[cP,km]at q4;have I7:=ax.i'.mono λt ht=>Fv.2 ht;obtain⟨eX,cW,dp,fQ⟩:=hrest aT I7.awz (iM cP) q4;refine jY eX phx' aZ w' bn fQ ⟨dp.mono λt ht=>Fv.1 ht,by rw[cW.2];exact ax.iF,by rw[cW.2];exact ax.ext,ax.slots.Te cW,ax.keep⟩
 |.block id x=>λs ρ k r h phx M w a hm hs g8 Q jY ls qd=>by
  simp only[run]at h;cases BR:Nat.ble jx id with
  |true=>rw[BR]at h;cases h
  |false=>
  rw[BR,k1,bi.gg]at h;have fs:id<jx:=aOM
  refine wp_block<|qr hT dc ii dG eD jX gz fg x s ρ _ r h phx M w a hm hs g8 _ (λaT phx' aZ w' bn aB ax=>jY aT phx' aZ w' bn aB ax) (λi aT phx' aZ w' bn aB ax => ?_)<|λv w' bn aB a? bq=>qd v w' bn aB a? bq;replace aB:((bif cT i id then bi.leaf (aL.nx aT) else bi.leaf (aL.ex i aT):bi<|k3<|e0 rs).bind k).cf=J r:=aB;cases ak:cT i id with
  |true =>rw[ak]at aB;have ao:=iM ak;rw[agk (by rw[ao];exact fs)];simp only[Exit.inBlock];rw[aH ao];exact jY aT phx' aZ w' bn aB ax
  |false=>
   rw[ak]at aB;have bD:=ls i aT phx' aZ w' bn aB ax;revert bD;unfold m3
   (repeat' split)<;>first
    |exact λh=>h
    | (
     simp only[Exit.inBlock];rw[aD (by rintro rfl;rw[Ha]at ak;cases ak)];exact λh=>h)
 |.exit id=>λs ρ k r h phx M w a hm hs g8 Q jY ls qd=>by
  simp only[run]at h;cases BR:Nat.ble jx id with
  |true=>rw[BR]at h;cases h
  |false=>
   rw[BR,k1]at h;have fs:id<jx:=aOM
   have bD:=ls id s phx M w a h<|gN.refl hm hs;rw[agk fs]at bD;exact wp_exit bD
 |.ret=>λs ρ k r h phx M w a hm hs g8 Q jY ls qd=>by
  simp only[run]at h;cases XK:inl with
  |true =>rw[XK,km]at h;have bD:=ls jx s phx M w a h<|gN.refl hm hs;exact wp_ret bD
  |false=>
  rw[XK,k1,bi.gg]at h;obtain⟨vs,us,Y,ac,av⟩:=Ao hT h hm hs;rw[bi.gg]at Y;obtain⟨x,aZ,B',aJ,b',yx,_,wz⟩:=Gl Y hm ac (U:=λ_=>fI) ⟨λ_ _ _ _ h=>h,λ_ h=>h.elim⟩;have my:=gz XK;rw[show(λb=>¬K.k b)=(λb=>¬b<w0.heap.size) from funext λb=>by rw[my b]]at wz;refine wp_ret<|qd x w a aJ rfl ⟨us,av,aZ,b'.os,b'.tape,b'.output,b'.size,λb ak=>b'.keep b<|(my b).2 ak,λb ak=>b'.hid b<|(my b).2 ak,b'.mlt,us,wz,rfl⟩
 |.loop b=>by
  cases ef:E.U with
  |false=>exact aBa ef<|qr hT dc ii dG eD jX gz fg b
  |true=>exact aHD ef<|qr hT dc ii dG eD jX gz fg b
 |.goto l=>λs ρ k r h=>aM9
 |.scope c=>λs ρ k r h phx M w a hm hs g8 Q jY ls qd=>by refine wp_scope_straight<|qr hT dc ii dG eD jX gz fg c s ρ k r h phx M w a hm hs g8 _ jY (λid aT phx' aZ w' bn aB ax => ?_) qd;have bD:=ls id aT phx' aZ w' bn aB ax;revert bD;unfold m3;(repeat' split)<;>exact λh=>h
 |.refuse why=>λs ρ k r h=>aM9
 |.rangeFunc f bE x y=>λs ρ k r h=>aM9
end
end Yp