/- A part of the proof of the statements of this seat: the engine that turns code into plain functions, and its soundness. No condition of its own. -/
import Derived.Test.YtifmobcdnjcpiaaGreatDoorE0
set_option linter.unusedVariables false
set_option linter.unusedSimpArgs false
set_option linter.defProp false
noncomputable section
open Go Yp
variable {c dk ok:Bool}{D j2:List Nat}{a b d f i j k m n nt nv o off t:Nat}{α β ρ:Type}
namespace Yp
open Go
def e?:=@List.length_drop
def hE:=@List.length_take
def E8:=@Nat.le_of_eq
variable {P:Program}
section
variable {K:Kp} {w0 w:World} {phx:cc} {M:Nat->Prop} {B B':Nat->aQ} {g:Nat->au} {H:cg}
def aff{t u ty bc:TypeId}{i:TypeInfo}(ht:P.underlying t=some (.slice bc))(hi:P.info? bc=some i){x:Value}{mE QH:Nat}{news:List Value}
  (hl:(Builtin.lenOf x).run P w=.ok n w) (hm:Nat.min n mE=m) (hf:(Builtin.firstCells i.size m x).run P w=.ok news.toArray w) :
  (Builtin.copy_ #[t,u] ty #[.slice none mE QH,x]).run P w=.ok (.int .i64 m) w:=by
 simp[Builtin.copy_,run_underlying ht,Go.sizeOf,typeInfo,hi,hl,hm,hf,goInt]
def afg{t u ty bc:TypeId}{i:TypeInfo}(ht:P.underlying t=some (.slice bc))(hi:P.info? bc=some i){x:Value}{mE QH:Nat}{news:List Value}{a:Addr}{w':World}
  (hl:(Builtin.lenOf x).run P w=.ok n w) (hm:Nat.min n mE=m) (hf:(Builtin.firstCells i.size m x).run P w=.ok news.toArray w) (ac:(storeCells a news).run P w=.ok () w') :
  (Builtin.copy_ #[t,u] ty #[.slice (some a) mE QH,x]).run P w=.ok (.int .i64 m) w':=by
 simp[Builtin.copy_,run_underlying ht,Go.sizeOf,typeInfo,hi,hl,hm,hf,ac,goInt]
def awQ{c cL:Array Value}{vs:List Value}(ai:cL.toList=hC c.toList o vs)(aj:o+vs.length<=c.size)(h:o+vs.length<=a):cH cL a n=cH c a n:=by rw[rF,ai,IM J (.inr h),<- rF]
def zf{l bs:List α}(h:off+n<=l.length):(dU l off n bs).length=l.length:=by simp only[dU,cG,hE,e?];omega
def eU.cast{e:ae}{l m:List e.aD}{cs:List Value}(h:eU H e l cs)(hl:l=m):eU H e m cs:=hl▸h
def e3.copy{e:ae}{l bs:List e.aD}{c cL:Array Value}{news:List Value}(h:e3 H e l c o)(bY:off+n<=l.length)(b?:eU H e (bs.take n) news)
  (ai:cL.toList=hC c.toList (o+off*e.size) news):cL.size=c.size/\e3 H e (dU l off n bs) cL o:=by
 have zN:news.length=min n bs.length*e.size:=by rw[b?.1,hE]
 have vr:(off+min n bs.length)*e.size<=l.length*e.size:=iq _ J;rw[fH]at vr;have O:=h.1;have hK:o+off*e.size+news.length<=c.size:=J;have cQ:=ags ai hK;refine⟨cQ,eU.row (by rw[zf bY,cQ];exact O) ?_⟩;have e1:(dU l off n bs).length*e.size=off*e.size+(news.length+(l.length-(off+min n bs.length))*e.size):=by rw[zf bY,zN,<- fH,<- fH];congr 1;omega
 rw[e1,Nq,Nq,af4 ai hK (bU _),af5 ai hK,awQ ai hK (bU _)];have bF:=(h.cut (off:=0) (m:=off) J).r?;have dp:=(h.cut (off:=off+min n bs.length) (m:=l.length-(off+min n bs.length)) J).r?;rw[k_ J,Nat.zero_mul,te]at bF;rw[k_ J,fH,<- jv,<- zN]at dp;have ash:eU H e (l.take off) (cH c o (off*e.size)):=bF.cast (by simp[Yp.cut]);have Hk:eU H e (l.drop (off+min n bs.length)) (cH c (o+off*e.size+news.length) ((l.length-(off+min n bs.length))*e.size)):=dp.cast (by unfold Yp.cut;rw[hS bh])
 exact ash.append (b?.append Hk)
def awr{e:ae}{l:List e.aD}{c:Array Value}(h:e3 H e l c o)(hl:l.length=n):aH H (.ar n e) l (cH c o (n*e.size)):=by have O:=h.1;rw[hl]at O;refine aH.B4.2 ⟨hl,pX O,λi x hi => ?_⟩;have bm:=Dg hi;rw[D5 _ _ _ _ _ (xJ J)];exact h.2 i x hi
def I'{id:Nat}{b:aQ}(h:B id=b):cV B id b=B:=by
 funext j;by_cases an:j=id
 .subst an;rw[eM,h]
 rw[d6 _ _ an]
def QB(l:List α)(off:Nat)(bs:List α):dU l off 0 bs=l:=by simp[dU]
def as7(m n:Nat):fC (m:Int) (n:Int)=((Nat.min n m:Nat):Int):=by
 unfold fC
 grind
def YW{e:ae}{bs:List e.aD}{ad:Option Addr}{cap:Nat}(h:bs=[]\/∃b o c el fz,ad=some ⟨b,o,none⟩/\w.heap[b]?=some (.cells c el fz)/\e3 (view w M) e bs c o)(mE:Nat):
  ∃news,(Builtin.firstCells e.size (Nat.min bs.length mE) (.slice ad bs.length cap)).run P w=.ok news.toArray w/\eU (view w M) e (bs.take mE) news:=by
 rcases h with rfl|⟨b,o,c,el,fz,rfl,R,af⟩
 .refine⟨[],?_,by simpa using eU.nil (H:=view w M) e⟩
  cases ad<;>simp[Builtin.firstCells,loadCells,loadCellsFrom]
 have aq:=(af.cut (off:=0) (m:=Nat.min bs.length mE) (by simp only[jw];exact Nat.min_le_left _ _));have ai:Yp.cut bs 0 (Nat.min bs.length mE)=bs.take mE:=by
  unfold Yp.cut;rw[nD];rcases Nat.le_total bs.length mE with h|h
  .rw[show Nat.min bs.length mE=bs.length from Fe h,nF,hS h]
  rw[show Nat.min bs.length mE=mE from Nat.min_eq_right h]
 rw[ai,Nat.zero_mul,te]at aq;have hl:(bs.take mE).length=Nat.min bs.length mE:=by rw[hE];exact Nat.min_comm _ _
 refine⟨cH c o (Nat.min bs.length mE*e.size),?_,by rw[<- hl];exact aq.r?⟩;simp only[Builtin.firstCells];exact D1 R (by rw[<- hl];exact aq.1)
def Qz{e:ae}{tid uid ty bc:TypeId}(aL:P.underlying tid=some (.slice bc)){i:TypeInfo}(g1:P.info? bc=some i)(bw:i.size=e.size){bs:List e.aD}{ad:Option Addr}{cap:Nat}(hm:Mem K w0 phx M B w)
  (hy:bs=[]\/∃b o c el fz,ad=some ⟨b,o,none⟩/\w.heap[b]?=some (.cells c el fz)/\e3 (view w M) e bs c o) {id off n:Nat} {l:List e.aD} {bl:List e.aD->aQ} {ck:Value}
  (mM:(B id).fv=true) (bY:off+n<=l.length) (vx:hu phx id e off n ck)
  (SH:n=0->Mem K w0 phx M (cV B id (bl l)) w/\cm phx M B w phx M (cV B id (bl l)) w) (ape:∀g6,g6.length=l.length->(B id).cb (bl g6))
  (d9:(phx id=none/\l.length=0)\/∃b o c el fz,phx id=some (b,o,c.size)/\w.heap[b]?=some (.cells c el fz)/\e3 (view w M) e l c o/\h4 c fz/\M b)
  (qv:∀(g6:List e.aD) (cL:Array Value) (b o:Nat) (el:TypeId) (fz:Nat×Nat) (w':World) (b4:Nat->aQ),g6.length=l.length->phx id=some (b,o,cL.size)->w'.heap[b]?=some (.cells cL el fz)->e3 (view w' M) e g6 cL o->h4 cL fz->M b->lC phx M w' (view w' M) b4 id (bl g6)) :
  ∃v w',(Builtin.copy_ #[tid,uid] ty #[ck,.slice ad bs.length cap]).run P w=.ok v w'/\dq K w0 phx M B w (cV B id (bl (dU l off n bs))) (int (fC (bf n) (len bs))) v w':=by
 have cr:(Builtin.lenOf (.slice ad bs.length cap)).run P w=.ok bs.length w:=rfl;obtain⟨news,f1,f2⟩:=YW (P:=P) (cap:=cap) hy n;rw[<- bw]at f1;have aC:∀phx' H' b4,a? phx' H' b4 (int (fC (bf n) (len bs))) (.int .i64 ((Nat.min bs.length n:Nat):Int)):=λphx' H' b4=>by rw[show fC (bf n) (len bs)=((Nat.min bs.length n:Nat):Int) from as7 n bs.length];exact⟨_,aH.ia.2 rfl,rfl⟩
 rcases vx with⟨rfl,a',rfl⟩|⟨b,o,Vg,gz,bF,rfl,dp,fP,go⟩
 .have aj:news=[]:=by have:=f2.1;simpa using this
  subst aj;obtain⟨bD,e1⟩:=SH rfl;refine⟨_,w,?_,phx,M,by rw[QB];exact bD,by rw[QB];exact e1,aC _ _ _⟩;cases a' with
  |none=>exact aff aL g1 cr rfl f1
  |some a'=>exact afg aL g1 cr rfl f1 (by simp[storeCells])
 rcases d9 with⟨bG,_⟩|⟨b',di,c,el,fz,bG,b_,cp,dl,eQ⟩
 .rw[bF]at bG;cases bG
 rw[bF]at bG;cases bG;have zN:news.length=(bs.take n).length*e.size:=f2.1;have vr:(off+(bs.take n).length)*e.size<=l.length*e.size:=iq _ (by rw[hE];omega);rw[fH]at vr;have DQ:=cp.1;have hK:o+off*e.size+news.length<=c.size:=J;obtain⟨w',bp,cL,ax,d5⟩:=Im (P:=P) (b:=b) (el:=el) (fz:=fz) (o:=o+off*e.size) news 0 c w b_ dl J f2.one;simp only[te]at d5;obtain⟨cQ,gD⟩:=cp.copy (n:=n) bY f2 d5;refine⟨_,w',afg aL g1 cr rfl f1 bp,?_⟩;obtain⟨h?,jC⟩:=hm.put (id:=id) (x:=(b,o,c.size)) (w':=w') mM bF eQ ax.os ax.tape ax.output ax.size ax.other (bl (dU l off n bs)) (ape _ (zf bY)) λjC=>
  qv _ cL b o el fz w' _ (zf bY) (by rw[bF,cQ]) ax.iQ (gD.mono jC.vw) (dl.same cQ) eQ
 exact⟨phx,M,h?,jC,aC _ _ _⟩
def amd{e:ae}{tid uid ty:TypeId}(ht:(cP P (.sl e)).1 tid){a x r:au}{ck gU:Value}(h:(YV e a x).aY g B=some (r,B'))(hm:Mem K w0 phx M B w)
  (dP:a? phx (view w M) B a ck) (mb:a? phx (view w M) B x gU) :
  ∃v w',(Builtin.copy_ #[tid,uid] ty #[ck,gU]).run P w=.ok v w'/\dq K w0 phx M B w B' r v w':=by
 replace h:=gx h;obtain⟨dB,h⟩:=h;have dB:=by simpa using dB
 obtain⟨bs,cS,O,R⟩:=aw.cA h;obtain⟨rfl,ad,cap,rfl,hy⟩:=UN O hm mb;obtain⟨⟨bc,aL,aA⟩,_⟩:=ht;obtain⟨i,g1,bw,cX,gd⟩:=nc aA;cases a<;>try(cases R;done)
 case nil =>cases R;have G2:=dP;subst G2;obtain⟨news,f1,f2⟩:=YW (P:=P) (cap:=cap) hy 0;rw[<- bw]at f1;refine⟨_,w,aff aL g1 rfl rfl f1,phx,M,hm,cm.refl _ _ _ _,?_⟩;rw[show Nat.min (List.length (α:=e.aD) bs) 0=0 from Nat.min_zero _];exact⟨_,aH.ia.2 rfl,rfl⟩
 case own id d'=>
  simp only[aw.aY]at R;have ac:bM phx (view w M) cS (.own id d') ck:=dP;simp only[bM]at ac;have Y:=hm.blks id;generalize aB:cS id=bl at R ac Y;cases bl<;>try(cases R)
  rename_i bC l;obtain⟨hD,b4,af,aq⟩:=aw.cA R;obtain⟨bj,rfl⟩:=dE af;obtain⟨fm,rfl⟩:=jg bj;subst fm;cases aq;refine Qz (id:=id) (off:=0) (n:=l.length) (l:=l) (bl:=λl=>.ob e l) aL g1 bw hm hy (by rw[aB];rfl) J ac.1 (λ_=>by rw[I' aB];exact⟨hm,cm.refl _ _ _ _⟩) (λg6 hl=>by rw[aB];exact⟨rfl,hl.symm⟩) Y.2 ?_;intro g6 cL b o el fz w' b4 uq bG b_ cp dl eQ;exact⟨dB,.inr ⟨b,o,cL,el,fz,bG,b_,cp,dl,eQ⟩⟩
 case osl id off n=>
  simp only[aw.aY]at R;have ac:bM phx (view w M) cS (.osl id off n) ck:=dP;simp only[bM]at ac;have Y:=hm.blks id;generalize aB:cS id=bl at R ac Y;cases bl<;>try(cases R)
  case ob bC l =>obtain⟨hD,b4,af,aq⟩:=aw.cA R;obtain⟨bj,rfl⟩:=dE af;obtain⟨fm,rfl⟩:=jg bj;subst fm;cases aq;refine Qz (id:=id) (off:=off) (n:=n) (l:=l) (bl:=λl=>.ob e l) aL g1 bw hm hy (by rw[aB];rfl) ac.1 ac.2.1 (λ_=>by rw[I' aB];exact⟨hm,cm.refl _ _ _ _⟩) (λg6 hl=>by rw[aB];exact⟨rfl,hl.symm⟩) Y.2 ?_;intro g6 cL b o el fz w' b4 uq bG b_ cp dl eQ;exact⟨dB,.inr ⟨b,o,cL,el,fz,bG,b_,cp,dl,eQ⟩⟩
  case box t v=>
   cases t<;>try(cases R)
   rename_i m bC;obtain⟨l,b4,af,aq⟩:=aw.cA R;obtain⟨hl,rfl⟩:=dE af;obtain⟨hD,uJ,a8,cT⟩:=aw.cA aq;obtain⟨bj,rfl⟩:=dE a8;obtain⟨fm,rfl⟩:=jg bj;subst fm;cases cT;obtain⟨eh,sM,c0,r',si,bF,b3,dp,fP,go,jE⟩:=Y;obtain⟨abC,d9⟩:=J3 (rJ hl fP) dp;have zE:∀(g6:List e.aD) (cL:Array Value) (b o:Nat) (el:TypeId) (fz:Nat×Nat) (w':World) (b4:Nat->aQ),g6.length=List.length (α:=e.aD) l->phx id=some (b,o,cL.size)->w'.heap[b]?=some (.cells cL el fz)->e3 (view w' M) e g6 cL o->h4 cL fz->M b->lC phx M w' (view w' M) b4 id (.box (.ar m e) (.sc (.ar m e) g6)):=
    λg6 cL b o el fz w' b4 uq bG b_ cp dl eQ=>by have zL:=uq.trans abC;have DQ:=cp.1;rw[zL]at DQ;exact⟨b,o,cL,el,fz,bG,b_,DQ,⟨rfl,awr cp zL⟩,dl,eQ⟩
   refine Qz (id:=id) (off:=off) (n:=n) (l:=l) (bl:=λl=>.box (.ar m e) (.sc (.ar m e) l)) aL g1 bw hm hy (by rw[aB];rfl) (by rw[abC];exact ac.2.1) ac.2.2 (λ_ => ?_) (λg6 hl=>by rw[aB];rfl)
    (.inr ⟨eh,sM,c0,r',si,bF,b3,d9,go,jE⟩) zE
   exact hm.put (id:=id) (x:=(eh,sM,c0.size)) (w':=w) (by rw[aB];rfl) bF jE rfl rfl rfl rfl (λ_ _=>rfl) _ (by rw[aB];rfl) λjC=>
    zE _ c0 eh sM r' si w _ rfl bF b3 d9 go jE
def ayY(H:cg){e:ae}(dB:0<e.size)(n:Nat):eU H e ((bO n e.zero).take n) (Builtin.zeroCells (cv e (dz e)).cells n).toList:=by
 have Gx:Builtin.zeroCells (cv e (dz e)).cells n=madeCells (dz e).toArray (n*e.size):=by rw[s?];simp[Builtin.zeroCells,madeCells,rU]
 have h:=(Ow H dB (n:=n) (m:=n) (bU _)).r?;have ac:cH (madeCells (dz e).toArray (n*e.size)) 0 ((bO n e.zero).length*e.size)=(madeCells (dz e).toArray (n*e.size)).toList:=Iq rfl (by simp[size_madeCells,bO]);rw[ac]at h;rw[Gx,hS (by simp[bO])];exact h
def YH{e:ae}{tid ty bc:TypeId}(aL:P.underlying tid=some (.slice bc))(aA:(cP P e).1 bc)(dB:0<e.size)(hm:Mem K w0 phx M B w){id:Nat}{l:List e.aD}{ck:Value}(aB:B id=.ob e l)(bY:off+n<=l.length)(vx:hu phx id e off n ck)
  (d9:(phx id=none/\l.length=0)\/∃b o c el fz,phx id=some (b,o,c.size)/\w.heap[b]?=some (.cells c el fz)/\e3 (view w M) e l c o/\h4 c fz/\M b) :
  ∃v w',(Builtin.clear_ #[tid] ty #[ck]).run P w=.ok v w'/\dq K w0 phx M B w (cV B id (.ob e (dU l off n (bO n e.zero)))) (.tup (.sc .unit ())) v w':=by
 have ab2:∀phx' H' b4,a? phx' H' b4 (.tup (.sc .unit ())) (.tuple #[]):=λ_ _ _=>⟨[],rfl,rfl⟩;have D4:n=0->(Builtin.clear_ #[tid] ty #[ck]).run P w=.ok (.tuple #[]) w->∃v w',(Builtin.clear_ #[tid] ty #[ck]).run P w=.ok v w'/\dq K w0 phx M B w (cV B id (.ob e (dU l off n (bO n e.zero)))) (.tup (.sc .unit ())) v w':=by rintro rfl ah;rw[QB,I' aB];exact⟨_,w,ah,phx,M,hm,cm.refl _ _ _ _,ab2 _ _ _⟩
 rcases vx with⟨rfl,a',rfl⟩|⟨b,o,Vg,gz,bF,rfl,dp,fP,go⟩
 .refine D4 rfl ?_
  cases a'<;>simp[Builtin.clear_,run_underlying aL]
 cases n with
 |zero=>exact D4 rfl (by simp[Builtin.clear_,run_underlying aL])
 |succ n=>
  rcases d9 with⟨bG,_⟩|⟨b',di,c,el,fz,bG,b_,cp,dl,eQ⟩
  .omega
  rw[bF]at bG;cases bG;have f2:=ayY (view w M) dB (n+1);have zN:=f2.1;have cr:((bO (n+1) e.zero).take (n+1)).length=n+1:=by simp[bO]
  rw[cr]at zN;have vr:(off+(n+1))*e.size<=l.length*e.size:=iq _ bY;rw[fH]at vr;have DQ:=cp.1;obtain⟨w',bp,cL,ax,d5⟩:=Im (P:=P) (b:=b) (el:=el) (fz:=fz) (o:=o+off*e.size) (Builtin.zeroCells (cv e (dz e)).cells (n+1)).toList 0 c w b_ dl J f2.one;obtain⟨cQ,gD⟩:=cp.copy (n:=n+1) bY f2 d5;refine⟨.tuple #[],w',?_,?_⟩
  .have G9:=A0 aA w
   simp[Builtin.clear_,run_underlying aL,G9];simp[bp]
  obtain⟨h?,jC⟩:=hm.put (id:=id) (x:=(b,o,c.size)) (w':=w') (by rw[aB];rfl) bF eQ ax.os ax.tape ax.output ax.size ax.other (.ob e (dU l off (n+1) (bO (n+1) e.zero))) (by rw[aB];exact⟨rfl,(zf bY).symm⟩) λjC=>
   ⟨dB,.inr ⟨b,o,cL,el,fz,by rw[bF,cQ],ax.iQ,gD.mono jC.vw,dl.same cQ,eQ⟩⟩
  exact⟨phx,M,h?,jC,ab2 _ _ _⟩
def al1{e:ae}{tid ty:TypeId}(ht:(cP P (.sl e)).1 tid){a r:au}{ck:Value}(h:(Qr e a).aY g B=some (r,B'))(hm:Mem K w0 phx M B w)(dP:a? phx (view w M) B a ck):
  ∃v w',(Builtin.clear_ #[tid] ty #[ck]).run P w=.ok v w'/\dq K w0 phx M B w B' r v w':=by
 unfold Qr at h;replace h:=gx h;obtain⟨dB,h⟩:=h;have dB:0<e.size:=by simpa using dB
 obtain⟨⟨bc,aL,aA⟩,_⟩:=ht;cases a<;>try(cases h;done)
 case own id d'=>
  simp only[aw.aY]at h;have ac:bM phx (view w M) B (.own id d') ck:=dP;simp only[bM]at ac;have Y:=hm.blks id;generalize aB:B id=bl at h ac Y;cases bl<;>try(cases h;done)
  replace h:=gx h;obtain⟨ai,h⟩:=h;have:=eD ai;subst this;cases h;exact YH (ty:=ty) aL aA dB hm aB (E8 (jw _)) ac.1 Y.2
 case osl id off n=>
  simp only[aw.aY]at h;have ac:bM phx (view w M) B (.osl id off n) ck:=dP;simp only[bM]at ac;have Y:=hm.blks id;generalize aB:B id=bl at h ac Y;cases bl<;>try(cases h;done)
  replace h:=gx h;obtain⟨ai,h⟩:=h;have:=eD ai;subst this;cases h;exact YH (ty:=ty) aL aA dB hm aB ac.1 ac.2.1 Y.2
def aiU{e u:ae}{tid uid ty:TypeId}(ht:(cP P (.sl e)).1 tid)(aL:(cP P u).1 uid)(a2:LV u=true){s x r:au}{vs gU:Value}(h:(Ph e s x).aY g B=some (r,B'))
  (hm:Mem K w0 phx M B w) (vz:a? phx (view w M) B s vs) (mb:a? phx (view w M) B x gU) :
  ∃v w',(Builtin.append_ #[tid,uid] ty #[vs,gU]).run P w=.ok v w'/\dq K w0 phx M B w B' r v w':=by
 unfold Ph at h;replace h:=gx h;obtain⟨dB,h⟩:=h;have dB:0<e.size:=by simpa using dB
 obtain⟨bs,cS,O,R⟩:=aw.cA h;clear h;obtain⟨rfl,news,hx,b?⟩:=W1 (P:=P) O hm mb;obtain⟨⟨bc,pJ,aA⟩,_⟩:=ht;obtain⟨Ck,xr,aF⟩:=af8 aL a2;obtain⟨i,g1,bw,cX,gd⟩:=nc aA;cases s<;>try(cases R;done)
 rename_i id off n;simp only[aw.aY]at R;have ac:bM phx (view w M) cS (.osl id off n) vs:=vz;simp only[bM]at ac;have Y:=hm.blks id;generalize aB:cS id=bl at R ac Y;cases bl<;>try(cases R;done)
 rename_i bC l;obtain⟨hD,b4,af,aq⟩:=aw.cA R;clear R;obtain⟨bj,rfl⟩:=dE af;obtain⟨fm,rfl⟩:=jg bj;subst fm;replace aq:=iK aq;obtain⟨fT,aq⟩:=aq;simp only[aw.aY]at aq;cases aq;simp only[i7,bQ,aT]at fT;have fT:off+(n+List.length bs)<l.length+1:=by simpa using fT
 obtain⟨bY,aK,pE⟩:=ac;have ve:=b?.1

 have atB:bs=[]->∃v w',(Builtin.append_ #[tid,uid] ty #[vs,gU]).run P w=.ok v w'/\dq K w0 phx M b4 w (cV b4 id (.ob e (dU l (bQ off n) (aT bs) bs))) (.osl id off (bQ n (aT bs))) v w':=by
  rintro rfl;have abG:news=[]:=k3.1 (by rw[ve];simp);subst abG;have ng:dU l (bQ off n) (aT ([]:List e.aD)) []=l:=by simp[dU]
  rw[ng,I' aB];obtain⟨ad,c,rfl⟩:=aK.slice;have qv:a? phx (view w M) b4 (.osl id off (bQ n (aT ([]:List e.aD)))) (.slice ad n c):=by simp only[a?,dZ,bM,aB];exact⟨by simpa[bQ,aT]using bY,aK,pE⟩
  cases n with
  |zero=>exact⟨_,w,UH (P:=P) pJ xr aF g1 (by rw[bw];exact hx),phx,M,hm,cm.refl _ _ _ _,qv⟩
  |succ n=>
   rcases aK with⟨xz,_⟩|⟨b,o,Vg,cap,bF,b3,dp,fP,go⟩
   .omega
   cases b3;rcases Y.2 with⟨bG,_⟩|⟨b',di,cL,el,fz,bG,b_,cp,dl,eQ⟩
   .rw[bF]at bG;cases bG
   rw[bF]at bG;cases bG;have DQ:=cp.1;have vr:(off+(n+1))*e.size<=l.length*e.size:=iq _ bY;rw[fH]at vr;obtain⟨w',ah,c2,hp,nf⟩:=Nd (P:=P) (w:=w) (ty:=ty) pJ xr aF g1 (x:=gU) (n:=0) (news:=[]) (by rw[bw];exact hx) (b:=b) (o:=o+off*e.size) (sLen:=n+1) (sCap:=c) J b_ dl (by rw[bw];simp only[gu];omega) (by intro v aC;cases aC);have R3:c2=cL:=by apply m3;rw[nf];simp[hC]
   subst R3;obtain⟨h?,jC⟩:=hm.put (id:=id) (x:=(b,o,c2.size)) (w':=w') (by rw[aB];rfl) bF eQ hp.os hp.tape hp.output hp.size hp.other (.ob e l) (by rw[aB];exact⟨rfl,rfl⟩) λjC=>
    ⟨dB,.inr ⟨b,o,c2,el,fz,bF,hp.iQ,cp.mono jC.vw,dl,eQ⟩⟩
   rw[I' aB]at h? jC;exact⟨_,w',ah,phx,M,h?,jC,jC.p qv⟩
 by_cases hy:bs=[]
 .exact atB hy
 have azK:0<List.length bs:=by
  cases nl:bs with
  |nil=>exact absurd nl hy
  |cons=>simp
 rcases pE with⟨xz,_⟩|⟨b,o,Vg,uc,cap,bF,b3,dp⟩
 .omega
 subst b3;obtain⟨rfl,ld⟩:=aK.YA;rcases Y.2 with⟨bG,_⟩|⟨b',di,c,el,fz,bG,b_,cp,dl,eQ⟩
 .rw[bF]at bG;cases bG
 rw[bF]at bG;cases bG;have DQ:=cp.1;have vr:(off+(uc+List.length bs))*e.size<=l.length*e.size:=iq _ J;rw[fH,fH]at vr;obtain⟨w',ah,cL,hp,nf⟩:=Nd (P:=P) (w:=w) (ty:=ty) pJ xr aF g1 (x:=gU) (n:=List.length bs) (news:=news) (by rw[bw];exact hx) (b:=b) (o:=o+off*e.size) (sLen:=uc) (sCap:=cap) J b_ dl (by rw[bw];omega) b?.one;rw[bw]at nf;have aoF:eU (view w M) e (bs.take (List.length bs)) news:=by rw[nF];exact b?
 obtain⟨cQ,gD⟩:=cp.copy (off:=off+uc) (n:=List.length bs) J aoF (by rw[nf,fH,jv]);obtain⟨h?,jC⟩:=hm.put (id:=id) (x:=(b,o,c.size)) (w':=w') (by rw[aB];rfl) bF eQ hp.os hp.tape hp.output hp.size hp.other (.ob e (dU l (off+uc) (List.length bs) bs)) (by rw[aB];exact⟨rfl,(zf J).symm⟩) λjC=>
  ⟨dB,.inr ⟨b,o,cL,el,fz,by rw[bF,cQ],hp.iQ,gD.mono jC.vw,dl.same cQ,eQ⟩⟩
 refine⟨_,w',ah,phx,M,h?,jC,?_⟩;have eB:(dU l (off+uc) (List.length bs) bs).length=l.length:=zf J;rcases aK with⟨xz,a0,fP⟩|⟨ei,mf,az3,Kw,fP,go,jE,ka,kd⟩
 .simp only[Value.slice.injEq]at fP;omega
 rw[bF]at fP;cases fP;simp only[Value.slice.injEq]at go;obtain⟨_,_,rfl⟩:=go;simp only[a?,dZ,bM,eM];refine⟨by rw[show bQ off uc=off+uc from rfl,show aT bs=List.length bs from rfl,eB];unfold bQ;omega,.inr ⟨b,o,c.size,cap,bF,rfl,by show uc+List.length bs<=cap;omega,ka,kd⟩,?_⟩;rw[show bQ off uc=off+uc from rfl,show aT bs=List.length bs from rfl,eB];exact .inr ⟨b,o,c.size,_,cap,bF,rfl,dp⟩
def axn{ju:ae}{tid:TypeId}(ht:(cP P (.ar n ju)).1 tid){a r:au}{ck:Value}{lo hi:Option Int}(h:(UV n ju a (bT lo 0) (bT hi (bf n))).aY g B=some (r,B'))(hm:Mem K w0 phx M B w)
  (dP:a? phx (view w M) B a ck) (ks kh:IntKind):B'=B/\∃v,(Instr.sliceAt tid ck (lo.map λi=>.int ks i) (hi.map λi=>.int kh i) none).run P w=.ok v w/\a? phx (view w M) B r v:=by
 have run:∀{b o:Nat},ca (bT lo 0) (bT hi (bf n)) (bf n)=true->(Instr.sliceAt tid (.pointer (some ⟨b,o,none⟩)) (lo.map λi=>.int ks i) (hi.map λi=>.int kh i) none).run P w =
   .ok (.slice (some (if n=(bT lo 0).toNat then⟨b,o,none⟩ else(⟨b,o,none⟩:Addr).add ((bT lo 0).toNat*ju.size))) ((bT hi (bf n)).toNat-(bT lo 0).toNat) (n-(bT lo 0).toNat)) w:=by
  intro b o Y;obtain⟨⟨bc,aL,aA⟩,_⟩:=ht;have kz:=UW (P:=P) (isSlice:=false) (ks:=ks) (kh:=kh) (bU n) Y w;have bj:=od aA w;simp[Instr.sliceAt,Instr.sureAddr,run_underlying aL,kz,bj];rfl
 unfold UV at h;split at h
 .rename_i id
  simp only[aw.aY]at h;have ac:bM phx (view w M) B (.ptr id []) ck:=dP;simp only[bM]at ac;have Y:=hm.blks id;generalize aB:B id=bl at h ac Y;cases bl<;>try(cases h;done)
  case box t v=>
   replace h:=gx h;obtain⟨ai,h⟩:=h;replace h:=iK h;obtain⟨fA,h⟩:=h;cases h;simp only[cM]at ai;obtain⟨O,R,af⟩:=ai;have:=eD O;subst this;have dB:0<ju.size:=by simpa using R
   have i6:n<=16777216:=by simpa using af
   obtain⟨b,o,m,off,t',bF,b3,rfl⟩:=ac;simp only[ae.d?,km,kH]at b3;obtain⟨rfl,_⟩:=b3;obtain⟨eh,sM,c0,r',si,bG,b_,cp,dl,eQ,lq⟩:=Y;rw[bF]at bG;cases bG;have cp:o+n*ju.size<=c0.size:=cp;obtain⟨dF,gp,lk⟩:=rk.1 fA;have lk:bT hi (bf n)<=(n:Int):=lk;refine⟨rfl,_,run fA,?_⟩;show bM phx (view w M) B (.osl id (aa (bT lo 0)) (cd (aa (bT hi (bf n))) (aa (bT lo 0)))) _;simp only[bM,aB];refine⟨dB,by unfold cd aa;omega,?_⟩;unfold cd aa;by_cases hl:n=(bT lo 0).toNat
   .left
    rw[if_pos hl];exact⟨J,_,by rw[show(bT hi (bf n)).toNat-(bT lo 0).toNat=0 by omega,show n-(bT lo 0).toNat=0 by omega]⟩
   right;rw[if_neg hl];refine⟨b,o,c0.size,n-(bT lo 0).toNat,bF,by simp[qc],J,by unfold maxLen;omega,?_⟩;rw[show(bT lo 0).toNat+(n-(bT lo 0).toNat)=n by omega];exact cp
  case fz e l=>
   replace h:=gx h;obtain⟨ai,h⟩:=h;replace h:=iK h;obtain⟨fA,h⟩:=h;cases h;simp only[cM]at ai;obtain⟨O,af⟩:=ai;have:=eD O;subst this;have i6:n<=16777216:=by simpa using af
   simp only[cZ,cM]at fA;obtain⟨abD,fA⟩:=fA;have abD:l.length=n:=fy abD;obtain⟨b,o,m,bF,b3⟩:=ac;have:=b3 trivial;subst this;rcases Y.2 with⟨bG,_⟩|⟨eh,sM,c0,r',si,bG,b_,cp⟩
   .rw[bF]at bG;cases bG
   rw[bF]at bG;cases bG;obtain⟨dF,gp,lk⟩:=rk.1 fA;have lk:bT hi (bf n)<=(n:Int):=lk;have cx:aH (view w M) (.sl e) l [.slice (some ⟨b,o,none⟩) l.length n]:=
    aH.ic.2 ⟨_,n,rfl,J,by unfold maxLen;omega,.inr ⟨b,o,c0,r',si,rfl,b_,cp.1,cp.2⟩⟩
   have a8:=cx.sub (L:=(bT lo 0).toNat) (N:=(bT hi (bf n)).toNat-(bT lo 0).toNat) (cap':=n-(bT lo 0).toNat) J J (bU _);refine⟨rfl,_,run fA,_,a8,?_⟩;refine(show Value.slice _ _ _=Value.slice _ _ _ from ?_);congr 1;by_cases hl:n=(bT lo 0).toNat
   .rw[if_pos hl,if_pos J]
   rw[if_neg hl,if_neg J];rfl
 cases h
end
end Yp
namespace Yp
open Go
def BG:=@Array.getElem?_setIfInBounds_ne
def WO:=@Int.fdiv_eq_ediv_of_nonneg
def EP:=@Nat.ble_eq
variable {P:Program}
section
variable {K:Kp} {w0 w:World} {phx:cc} {M:Nat->Prop} {B B':Nat->aQ} {g:Nat->au} {H:cg}
def atr{x r:au}{gU:Value}(h:(Ty x).aY g B=some (r,B'))(hm:Mem K w0 phx M B w)(ah:a? phx (view w M) B x gU)(ty:TypeId):
  ∃v w',(Instr.next gU true ty).run P w=.ok v w'/\dq K w0 phx M B w B' r v w':=by
 cases x<;>try(cases h)
 rename_i id;simp only[Ty,aw.aY]at h;have ac:bM phx (view w M) B (.itp id) gU:=ah;have dD:=hm.blks id;simp only[bM]at ac;generalize aB:B id=bl at h ac dD;cases bl<;>try(cases h)
 rename_i s p;obtain⟨b,O,rfl⟩:=ac;obtain⟨b',g1,bw,cX⟩:=dD;rw[O]at g1;cases g1;have ra:∀w':World,w'.heap[b]?=some (.stringIter ⟨s.toArray⟩ p)->(getObj b).run P w'=.ok (.stringIter ⟨s.toArray⟩ p) w':=λw' bb=>by simp[getObj,Sem.run,bb]
 have cQ:(⟨s.toArray⟩:ByteArray).size=s.length:=rfl;by_cases hp:p<s.length
 .have aj:i7 p (aT s)=true:=by simpa[i7,aT]using hp
  rw[aw.aY,if_pos aj]at h;cases h
  let w':World:={ w with heap:=w.heap.setIfInBounds b (.stringIter ⟨s.toArray⟩ (p+(gA s p).2)) }
  have bm:=(ip.1 bw).1;have kz:w'.heap[b]?=some (.stringIter ⟨s.toArray⟩ (p+(gA s p).2)):=by simp[w',bm]
  have aK:∀j,j≠b->w'.heap[j]?=w.heap[j]?:=λj an=>by simp[w',BG (nI an)]
  have apB:Utf8.decode (⟨s.toArray⟩:ByteArray) p=gA s p:=rfl;refine⟨.tuple #[.bool true,goInt p,.int .i32 ((gA s p).1:Int)],w',?_,?_⟩
  .simp[Instr.next,ra w bw,cQ,hp,apB,setObj,Sem.run,bw,w']
  obtain⟨bD,e1⟩:=hm.put (id:=id) (x:=(b,0,0)) (w':=w') (by rw[aB];rfl) O cX rfl rfl rfl (by grind) aK (.it s (bQ p (gA s p).2)) (by rw[aB];rfl) (λ_=>⟨b,O,kz,cX⟩);refine⟨phx,M,bD,e1,[.bool true,goInt p,.int .i32 ((gA s p).1:Int)],?_,rfl⟩;have bG:dZ phx (view w' M) (cV B id (.it s (bQ p (gA s p).2))) (Yp.int (bf p)) (goInt p):=a?.ue (phx:=phx) (B:=cV B id (.it s (bQ p (gA s p).2))) _ p;have b_:dZ phx (view w' M) (cV B id (.it s (bQ p (gA s p).2))) (.sc (.int .i32) (bf (gA s p).1)) (.int .i32 ((gA s p).1:Int)):=a?.sI phx _ (cV B id (.it s (bQ p (gA s p).2))) .i32 ((gA s p).1:Int);exact⟨_,_,rfl,rfl,_,_,rfl,bG,_,_,rfl,b_,rfl⟩
 have aj:¬(i7 p (aT s)=true):=by simpa[i7,aT]using hp
 rw[aw.aY,if_neg aj]at h;cases h;refine⟨.tuple #[.bool false],w,?_,dq.same hm rfl ?_⟩
 .simp[Instr.next,ra w bw,cQ,hp]
 exact⟨[.bool false],⟨_,_,rfl,rfl,rfl⟩,rfl⟩
def YD{b:Bool}{k:aw au}{r:au×(Nat->aQ)}(h:(zd b c k).aY g B=some r):(b=true\/c=true)/\k.aY g B=some r:=by
 cases b with
 |true=>exact⟨.inl rfl,h⟩
 |false=>obtain⟨O,R⟩:=iK h;exact⟨.inr O,R⟩
def agj{op:BinOp}(sw:op=.shl\/op=.shr){k k':IntKind}{x:bH k}{y:bH k'}(hy:0<=bH.to k' y)(t:TypeId)(w:World):
  ∃v,(binOp op t (.int k (bH.to k x)) (.int k' (bH.to k' y))).run P w=.ok v w /\
   a? phx H B (match op with|.shl=>.sc (.int k) (bH.of k (ho k (bH.to k x) (bH.to k' y)))|_=>.sc (.int k) (bH.lit k (fp k (bH.to k x) (bH.to k' y)))) v:=by
 have aj:¬bH.to k' y<0:=J;rcases sw with rfl|rfl
 .refine⟨.int k (k.wrap (ho k (bH.to k x) (bH.to k' y))),by simp[binOp,Op.shift,aj,ho],?_⟩
  have:=a?.sI phx H B k (bH.of k (ho k (bH.to k x) (bH.to k' y)))
  rwa [bH.NX]at this
 refine⟨.int k (fp k (bH.to k x) (bH.to k' y)),by simp[binOp,Op.shift,aj,fp],?_⟩;have:=a?.sI phx H B k (bH.lit k (fp k (bH.to k x) (bH.to k' y)));rw[bH.Tf]at this
 .omega
 intro aL;have O:=bH.I6 k x aL;have R:=bH.ahf k x aL;unfold fp;have hp:(0:Int)<2^(Nat.min (bH.to k' y).toNat k.bits):=Int.pow_pos J;rw[WO _ (Int.le_of_lt hp)];exact⟨Int.ediv_nonneg O (Int.le_of_lt hp),Int.le_trans (Int.ediv_le_self _ O) R⟩
def run_equalIn_bool(n:Nat){tid:TypeId}(aL:P.underlying tid=some .bool)(p q:Bool)(w:World):(Op.equalIn (n+1) tid (.bool p) (.bool q)).run P w=.ok (p==q) w:=by rw[Op.equalIn];simp only[Sem.run_bind,run_underlying aL];rfl
def awA{tid:TypeId}(aL:P.underlying tid=some .bool)(p q:Bool)(w:World):(Op.equal tid (.bool p) (.bool q)).run P w=.ok (p==q) w:=
 run_equalIn_bool 9999 aL p q w
def awC{tid bc:TypeId}(aL:P.underlying tid=some (.slice bc))(ad:Option Addr)(l c:Nat)(w:World):(Op.equal tid (.slice ad l c) (.slice none 0 0)).run P w=.ok ad.isNone w:=by show(Op.equalIn (9999+1) tid _ _).run P w=_;rw[Op.equalIn];simp only[Sem.run_bind,run_underlying aL];cases ad<;>rfl
def aju{E:db}(hT:mV P E.b8)(cx:ps P E.b8 E.C){op:BinOp}{tid:TypeId}{a b r:au}{ck s8:Value}(h:(Pw E op tid a b).aY g B=some (r,B'))(dP:a? phx H B a ck)(tU:a? phx H B b s8)(x y:Operand)(w:World):
  B'=B/\∃v,(do eqGuard op tid x y ck s8;binOp op tid ck s8:Sem Value).run P w=.ok v w/\a? phx H B r v:=by
 unfold Pw at h;cases ht:E.b8 tid with
 |none=>rw[ht]at h;cases h
 |some t=>
  rw[ht]at h;cases hi:ae.is t .bool with
  |true=>
   have:=eD hi;subst this;have aL:P.underlying tid=some .bool:=(hT _ _ ht).1;cases bu:ie .bool a with
   |none=>rw[bu]at h;cases h
   |some p=>
    cases Y:ie .bool b with
    |none=>rw[bu,Y]at h;cases h
    |some q=>
     rw[bu,Y]at h;have e1:=(nA bu dP).bool;have aN:=(nA Y tU).bool;subst e1;subst aN;have hg:(eqGuard op tid x y (.bool p) (.bool q)).run P w=.ok () w:=by unfold eqGuard;cases op<;>rfl
     have qq:(Op.equal tid (.bool p) (.bool q)).run P w=.ok (y9 p q) w:=Yp.awA aL p q w;cases op<;>try(cases h;done)
     .cases h
      exact⟨rfl,_,by simp[hg,binOp,qq],a?.ud _ _ _ _⟩
     cases h;exact⟨rfl,_,by simp[hg,binOp,qq,a_],a?.ud _ _ _ _⟩
  |false=>
   simp only[hi,cond_false]at h;cases ai:E.C tid with
   |false=>
    rw[ai,cond_false]at h;unfold adj at h;split at h
    .rename_i e t' z
     obtain⟨az8,cS,O,R⟩:=aw.cA h;obtain⟨bj,rfl⟩:=dE O;obtain⟨fm,rfl⟩:=u2 bj;subst fm;cases R;simp only[a?]at tU;subst tU;obtain⟨cs,af,rfl⟩:=dP;obtain⟨ad,cap,rfl,aq,a8,cT⟩:=aH.x?.1 af;obtain⟨⟨bc,aL,_⟩,_⟩:=hT _ _ ht;refine⟨rfl,_,?_,ad.isNone,rfl,λaj => ?_⟩
     .have hg:∀n,(eqGuard .eql tid x y (.slice ad n cap) (.slice none 0 0)).run P w=.ok () w:=λ_=>rfl
      have qq:=λn=>awC (P:=P) aL ad n cap w;simp[hg,binOp,cv,ae.isAgg,qq]
     rcases cT with cT|⟨b,o,c,el,fz,rfl,_⟩
     .simp[ag,len,cT]
     cases aj
    cases h
   |true=>
   rw[ai]at h;have fS:=cx tid t ai ht;simp only[Qx,cM,wx,EP]at fS;obtain⟨⟨⟨i2,azu⟩,apt⟩,ap3⟩:=fS;cases bu:ie t a with
   |none=>rw[bu]at h;cases h
   |some p=>
    cases Y:ie t b with
    |none=>rw[bu,Y]at h;cases h
    |some q=>
     rw[bu,Y]at h;obtain⟨cs,c1,e1⟩:=nA bu dP;obtain⟨ds,c2,aN⟩:=nA Y tU;rw[vM i2]at e1 aN;subst e1;subst aN;have hg:=run_eqGuard_agg (P:=P) w op tid x y cs.toArray ds.toArray ap3;have qq:(Op.equal tid (.agg cs.toArray) (.agg ds.toArray)).run P w=.ok (t.nV p q) w:=by
      have:=(KV (P:=P) (H:=H) (H':=H) w t).1 tid 10000 p q cs ds apt (hT _ _ ht) c1 c2 J
      rwa [vM i2,vM i2]at this
     cases op<;>try(cases h;done)
     .cases h
      exact⟨rfl,_,by simp[hg,binOp,qq],a?.ud _ _ _ _⟩
     cases h;exact⟨rfl,_,by simp[hg,binOp,qq,a_],a?.ud _ _ _ _⟩
def ajw{E:db}(hT:mV P E.b8)(cx:ps P E.b8 E.C){rp HK:Bool}{op:BinOp}{tid:TypeId}{a b r:au}{ck s8:Value}(h:(Ka E rp HK op tid a b).aY g B=some (r,B'))(dP:a? phx H B a ck)(tU:a? phx H B b s8)
  (LE:rp=true->∀k n,s8=.int k n->n≠0) (abG:HK=true->∀k n,s8=.int k n->0<=n) (x y:Operand) (w:World) :
  B'=B/\∃v,(do eqGuard op tid x y ck s8;binOp op tid ck s8:Sem Value).run P w=.ok v w/\a? phx H B r v:=by
 unfold Ka at h;split at h
 .rename_i k p k' q
  have e1:=dP.int;have aN:=tU.int;subst e1;subst aN;have hg:=am0 (P:=P) op tid x y k k' (bH.to k p) (bH.to k' q) w;split at h
  .obtain⟨ai,h⟩:=YD h
   cases h;have hy:0<=bH.to k' q:=by
    rcases ai with ai|ai
    .simp at ai
     rcases ai with ai|ai
     .grind
     exact bH.I6 _ _ ai
    simpa[bE]using ai
   obtain⟨v,O,R⟩:=agj (P:=P) (phx:=phx) (H:=H) (B:=B) (op:=.shl) (.inl rfl) (x:=p) (y:=q) hy tid w;exact⟨rfl,v,by simp[hg,O],R⟩
  .obtain⟨ai,h⟩:=YD h
   cases h;have hy:0<=bH.to k' q:=by
    rcases ai with ai|ai
    .simp at ai
     rcases ai with ai|ai
     .grind
     exact bH.I6 _ _ ai
    simpa[bE]using ai
   obtain⟨v,O,R⟩:=agj (P:=P) (phx:=phx) (H:=H) (B:=B) (op:=.shr) (.inr rfl) (x:=p) (y:=q) hy tid w;exact⟨rfl,v,by simp[hg,O],R⟩
  split at h
  .rename_i MS a2
   obtain⟨e,rfl⟩:=u2 a2;cases e;obtain⟨aB,v,O,R⟩:=ajv (P:=P) h (λbj=>LE bj _ _ rfl) tid w phx H;exact⟨aB,v,by simp[hg,O],R⟩
  cases h
 .rename_i p q
  have e1:=dP.str;have aN:=tU.str;subst e1;subst aN;have hg:=am1 (P:=P) op tid x y ⟨p.toArray⟩ ⟨q.toArray⟩ w;obtain⟨aB,v,O,R⟩:=ajx (P:=P) h tid w phx H;exact⟨aB,v,by simp[hg,O],R⟩
 exact aju hT cx h dP tU x y w
end
end Yp
namespace Yp
open Go
def ew:=@List.length_cons
def m1:=@List.mem_map
def JF:=@List.getElem?_cons_succ
def O7:=@Array.length_toList
def WP:=@Array.toList_setIfInBounds
def ON:=@List.mapM_cons
variable {P:Program}
def pk(phx:cc)(H:cg)(B:Nat->aQ):List (Nat×au)->List (Nat×Value)->Prop
 |[],[]=>True
 |p::aZ,v::vs=>p.1=v.1/\a? phx H B p.2 v.2/\pk phx H B aZ vs
 |_,_=>False
section
variable {K:Kp} {w0 w:World} {phx:cc} {M:Nat->Prop} {B B':Nat->aQ} {g:Nat->au} {H:cg}
def pk.ext{phx':cc}{ay:Nat->Prop}{w':World}(aA:cm phx M B w phx' ay B' w'):∀{aZ:List (Nat×au)} {vs:List (Nat×Value)},pk phx (view w M) B aZ vs->pk phx' (view w' ay) B' aZ vs
 |[],[],_=>trivial
 |_::_,_::_,h=>⟨h.1,aA.p h.2.1,pk.ext aA h.2.2⟩
def T6{a:Act}(ac:dw phx H B g a):∀{l:List (Nat×Operand)} {B':Nat->aQ} {aZ:List (Nat×au)},(MJ l).aY g B=some (aZ,B')->B'=B/\pk phx H B aZ (l.map λp=>(p.1,a.eval p.2))
 |[],B',aZ,h=>by cases h;exact⟨rfl,trivial⟩
 |p::l,B',aZ,h=>by have h:(((ea p.2).bind λv=>.ret (p.1,v)).bind λb=>(MJ l).bind λb9=>.ret (b::b9)).aY g B=some (aZ,B'):=h;obtain⟨b,cS,O,R⟩:=aw.cA h;obtain⟨v,b4,af,aq⟩:=aw.cA O;cases aq;obtain⟨j_,aC⟩:=xP af ac;obtain⟨b9,uJ,a8,cT⟩:=aw.cA R;cases cT;rw[j_]at a8;obtain⟨aB,hp⟩:=T6 ac a8;exact⟨aB,rfl,aC,hp⟩
def acG(off:Nat):∀(vs:List Value) (k:Nat) (cs:Array Value),off+k+vs.length<=cs.size ->
  ((vs.zipIdx k).foldl (λcs (p:Value×Nat)=>cs.setIfInBounds (off+p.2) p.1) cs).toList=hC cs.toList (off+k) vs
 |[],k,cs,h=>by simp[hC]
 |v::vs,k,cs,h=>by
  simp only[List.zipIdx_cons,yM];simp only[ew]at h;have cr:off+(k+1)+vs.length<=cs.toList.length:=fs;have aqh:off+k+(v::vs).length<=cs.toList.length:=fs;rw[acG off vs (k+1) _ fs];apply tf;intro j;rw[yb fs,yb aqh];simp only[WP,E',ew,O7];by_cases a8:j<off+k
  .rw[if_pos J,if_pos a8,if_neg J]
  rw[if_neg a8];by_cases cT:j=off+k
  .subst cT
   have:off+k<cs.size:=J;simp[this]
  by_cases dN:j<off+k+(vs.length+1)
  .rw[if_neg J,if_pos J,if_pos dN]
   rw[show j-(off+k)=(j-(off+(k+1)))+1 by omega,JF]
  rw[if_neg J,if_neg J,if_neg dN,if_neg J]
def asA(off:Nat)(vs cs:Array Value)(h:off+vs.size<=cs.size):
  (vs.zipIdx.foldl (λcs (p:Value×Nat)=>cs.setIfInBounds (off+p.2) p.1) cs).toList=hC cs.toList off vs.toList:=by
 have:=acG off vs.toList 0 cs J;rw[<- Array.foldl_toList]
 grind
def ZO{place:Nat->Option (Nat×Nat)}{cs:Array Value}{v:Value}{rest:List (Nat×Value)}{size:Nat}(hp:place i=some (off,size))(ac:v.cells.size=size)(aj:off+size<=cs.size):
  ∃ji:Array Value,ji.toList=hC cs.toList off v.cells.toList/\Instr.fill place cs ((i,v)::rest)=Instr.fill place ji rest:=by
 refine⟨_,asA off v.cells cs J,?_⟩;simp[Instr.fill,hp,ac];omega
def aer:∀{t:ae} {l:List Field} {off:Nat},(cP P t).2 l off->∃places,l.mapM (λf=>(P.info? f.type).map λi=>(f.offset,i.size))=some places /\
  ∀i d dV,t.d? (gb i)=some (d,dV)->places[i]?=some (off+d,dV.size)
 |.unit,l,off,h=>by subst h;exact⟨[],rfl,λi d dV h=>by cases i<;>cases h⟩
 |.pair a b,l,off,h=>by
  obtain⟨f,r,rfl,O,R,af⟩:=h;obtain⟨aZ,g1,bw⟩:=aer af;obtain⟨i,bF,b3,_⟩:=nc R;refine⟨(off,a.size)::aZ,by simp[ON,g1,bF,b3,O],λj d dV h => ?_⟩;cases j with
  |zero=>
   simp only[gb,ae.d?]at h
   grind
  |succ j=>
   simp only[gb,ae.d?,k4]at h
   grind
def PI{t:ae}{place:Nat->Option (Nat×Nat)}(iB:∀i d dV,t.d? (gb i)=some (d,dV)->place i=some (d,dV.size)):
  ∀{aZ:List (Nat×au)} {vs:List (Nat×Value)} {v cY:au} {cs:Array Value},(Cz t aZ).aY g B=some ((),B')->D9 t v aZ=some cY->pk phx H B aZ vs->e2 phx H B v t cs.toList ->
  B'=B/\∃ji,Instr.fill place cs vs=some ji/\e2 phx H B cY t ji.toList
 |[],[],v,cY,cs,O,R,af,aq=>by cases O;cases R;exact⟨rfl,cs,rfl,aq⟩
 |(i,u)::aZ,(j,x)::vs,v,cY,cs,O,R,af,aq=>by
  obtain⟨i3,hx,af⟩:=af;simp only[Cz]at O;simp only[D9]at R;cases xk:t.at (gb i) with
  |none=>rw[xk]at O;cases O
  |some dV=>
   rw[xk]at O;obtain⟨_,cS,a8,cT⟩:=aw.cA O;obtain⟨jk,cu,lL,hT⟩:=K8 a8 hx;rw[jk]at cT;obtain⟨d,aK⟩:=Pq xk;cases ac:mj v (gb i) (yg u) with
   |none=>rw[ac]at R;cases R
   |some rM=>
    rw[ac]at R;have hl:=hT.length;have bY:=uh aK;have cQ:x.cells.size=dV.size:=by rw[<- hl,<- lL];simp
    have lK:=aq.length;obtain⟨FJ,e1,aN⟩:=ZO (rest:=vs) (iB i d dV aK) cQ (cs:=cs) (by grind);have aaX:=UQ aq aK ac hT;rw[<- lL,<- e1]at aaX;obtain⟨aB,q6,dJ,gQ⟩:=PI iB cT R af aaX
    grind
def Xr{t:ae}(eL:acs t=true){tid:TypeId}(ht:(cP P t).1 tid){aZ:List (Nat×au)}{parts:Array (Nat×Value)}{r:au}
  (h:((Cz t aZ).bind λ_=>(aw.opt (D9 t (m0 t) aZ)).bind λv=>.ret (p4 t v)).aY g B=some (r,B')) (dd:pk phx H B aZ parts.toList) (w:World) :
  B'=B/\∃v,(Instr.build tid parts).run P w=.ok v w/\a? phx H B r v:=by
 obtain⟨_,cS,O,R⟩:=aw.cA h;obtain⟨v,b4,af,aq⟩:=aw.cA R;obtain⟨a8,rfl⟩:=dE af;cases aq;have i2:t.isAgg=true:=by cases t<;>first|rfl|cases eL
 obtain⟨e8,aL,GE⟩:∃e8,P.underlying tid=some (.struct e8)/\(cP P t).2 e8.toList 0:=by
  cases t<;>try(cases eL;done)
  .obtain⟨⟨e8,aL,aA⟩,_⟩:=ht;exact⟨e8,aL,aA⟩
  obtain⟨⟨e8,aL,f,q,e1,aN,dJ,gQ⟩,_⟩:=ht;exact⟨e8,aL,f,q,e1,aN,dJ,by simpa using gQ⟩
 obtain⟨places,dF,gp⟩:=aer GE;obtain⟨i,bF,b3,_,fP⟩:=nc ht;have SQ:e2 phx H B (m0 t) t (dz t).toArray.toList:=yG t;obtain⟨aB,ji,e1,aN⟩:=PI (g:=g) (B':=B') (place:=(places.toArray[·]?)) (λi d dV aK=>by have:=gp i d dV aK;simpa using this) O a8 dd SQ;refine⟨aB,.agg ji,run_build w tid parts ji ?_,?_⟩
 .have G8:((cv t (dz t))).cells=(dz t).toArray:=s? t
  simp only[Program.built,bF,aL,fP,dF,G8];exact e1
 have:=Bz aN;simp only[cv,i2,if_true]at this;simpa using this
def Nr{α:Type}:∀(et:List (Nat×α)) (l:List α),(uA l et).length=l.length
 |[],l=>rfl
 |(i,x)::et,l=>by simp only[uA];rw[Nr et];simp
def eU.set{e:ae}{l:List e.aD}{cs:List Value}(h:eU H e l cs)(hi:i<l.length){x:e.aD}{cu:List Value}(hx:aH H e x cu):eU H e (l.set i x) (hC cs (i*e.size) cu):=by
 have hl:=hx.length;have hm:=xJ (s:=e.size) hi;have hK:i*e.size+cu.length<=cs.length:=by rw[h.1,hl];exact hm
 refine⟨by rw[Eg hK,h.1,ko],λj y an => ?_⟩;by_cases dK:j=i
 .subst dK
  have:=Td (x:=x) hi;simp only[cj]at this;rw[this]at an;cases an;have:=NO (a:=j*e.size) (o:=0) (n:=e.size) (cs:=cs) (vs:=cu) (by simpa using hK) J;simp only[te]at this;rw[this,agD]
  .exact hx
  rw[hE,e?];omega
 have:=Tc (l:=l) (x:=x) dK;simp only[cj]at this;rw[this]at an;rw[IM hK]
 .exact h.2 j y an
 rcases O_ dK with h|h
 .have:=xJ (s:=e.size) h;left;omega
 have:=xJ (s:=e.size) h;right;omega
def Pb(H:cg)(e:ae):List (Nat×e.aD)->List (Nat×Value)->Prop
 |[],[]=>True
 |p::aZ,v::vs=>p.1=v.1/\aH H e p.2 v.2.cells.toList/\Pb H e aZ vs
 |_,_=>False
def VK{e:ae}:∀{aZ:List (Nat×au)} {vs:List (Nat×Value)} {et:List (Nat×e.aD)} {M:Nat->Prop} {B B':Nat->aQ},(I5 e aZ).aY g B=some (et,B')->Mem K w0 phx M B w->pk phx (view w M) B aZ vs ->
  ∃ay,Mem K w0 phx ay B' w/\cm phx M B w phx ay B' w/\Pb (view w ay) e et vs/\et.map (·.1)=aZ.map (·.1)
 |[],[],et,M,B,B',h,hm,_=>by cases h;exact⟨M,hm,cm.refl _ _ _ _,trivial,rfl⟩
 |(i,u)::aZ,(j,v)::vs,et,M,B,B',h,hm,hp=>by obtain⟨i3,aL,hp⟩:=hp;subst i3;obtain⟨x,cS,O,R⟩:=aw.cA h;obtain⟨az7,b4,af,aq⟩:=aw.cA R;cases aq;obtain⟨cs,aC,fr,bD,e1,_,_,f1⟩:=ym O hm aL;obtain⟨c8,cn,aN,f2,f3⟩:=VK af bD (hp.ext e1);refine⟨c8,cn,e1.trans aN,⟨rfl,?_,f2⟩,by simp[f3]⟩;have cx:=f1 rfl;rw[aC,HB cx];exact cx.mono aN.vw
def Ra{e:ae}{place:Nat->Option (Nat×Nat)}(iB:∀i,place i=some (i*e.size,e.size)):
  ∀{et:List (Nat×e.aD)} {vs:List (Nat×Value)} {l:List e.aD} {cs:Array Value},Pb H e et vs->(∀p∈et.map (·.1),p<l.length)->eU H e l cs.toList ->
  ∃ji,Instr.fill place cs vs=some ji/\eU H e (uA l et) ji.toList
 |[],[],l,cs,_,_,h=>⟨cs,rfl,h⟩
 |(i,x)::et,(j,v)::vs,l,cs,hx,hi,h=>by
  obtain⟨i3,cx,hx⟩:=hx;subst i3;have bm:=hi i bh;have hl:=cx.length;have hm:=xJ (s:=e.size) bm;have cQ:=by simpa using hl
  have lK:=h.1;obtain⟨FJ,e1,aN⟩:=ZO (rest:=vs) (iB i) cQ (cs:=cs) (by grind);have O:=h.set bm cx;rw[<- e1]at O;obtain⟨q6,dJ,gQ⟩:=Ra iB hx (λp hp=>by rw[ko];exact hi p (by grind)) O;exact⟨q6,by rw[aN];exact dJ,gQ⟩
def eU.ar{e:ae}{l:List e.aD}{cs:List Value}(h:eU H e l cs)(aj:l.length=n):aH H (.ar n e) l cs:=aH.B4.2 ⟨aj,by rw[h.1,aj],h.2⟩
def ajS{e:ae}{tid:TypeId}(ht:(cP P (.ar n e)).1 tid){aZ:List (Nat×au)}{parts:Array (Nat×Value)}{r:au}
  (h:((aw.need (aZ.all λp=>Nat.blt p.1 n)).bind λ_=>(I5 e aZ).bind λet=>.ret (.sc (.ar n e) (uA (List.replicate n e.zero) et))).aY g B=some (r,B')) (hm:Mem K w0 phx M B w) (dd:pk phx (view w M) B aZ parts.toList) :
  ∃v,(Instr.build tid parts).run P w=.ok v w/\dq K w0 phx M B w B' r v w:=by
 obtain⟨_,cS,O,R⟩:=aw.cA h;obtain⟨hall,rfl⟩:=kD O;obtain⟨et,b4,af,aq⟩:=aw.cA R;cases aq;obtain⟨c8,cn,aN,f2,f3⟩:=VK af hm dd;obtain⟨i,bF,b3,_,fP⟩:=nc ht;obtain⟨⟨bc,aL,aA⟩,_⟩:=ht;obtain⟨xv,Hi,vE,_,ase⟩:=nc aA;have bj:=aH.B4.1 (aH.zero (view w c8) (.ar n e));have b?:eU (view w c8) e (List.replicate n e.zero) (dz (.ar n e)).toArray.toList:=⟨by simpa using bj.2.1,λi x hi=>by simpa using bj.2.2 i x hi⟩;have bm:∀p∈et.map (·.1),p<(List.replicate n e.zero).length:=λp hp=>by rw[f3,m1]at hp;obtain⟨q,a2,rfl⟩:=hp;have:=pi.1 hall q a2;simpa using this
 obtain⟨ji,bG,b_⟩:=Ra (place:=λi=>some (i*xv.size,xv.size)) (λi=>by rw[vE]) f2 bm b?;refine⟨.agg ji,run_build w tid parts ji ?_,phx,c8,cn,aN,ji.toList,b_.ar (by rw[Nr];simp),by simp[cv,ae.isAgg]⟩;simp only[Program.built,bF,aL,fP,Hi];exact bG
def VN:∀n,(mq n).size=n
 |0=>rfl
 |n+1=>by simp only[mq,ae.size,VN n];omega
def ahU:∀n,dz (mq n)=List.replicate n (Value.pointer none)
 |0=>rfl
 |n+1=>by have:=ahU n;simp only[mq,dz,this];rfl
def asW(v:Value)(n:Nat):(madeCells #[v] n).toList=List.replicate n v:=by rw[List.eq_replicate_iff];simp[madeCells,Nat.mod_one]
def adI:∀{n i d:Nat} {dV:ae},(mq n).d? (gb i)=some (d,dV)->d=i/\dV=.op 3
 |0,i,d,dV,h=>by cases i<;>cases h
 |n+1,0,d,dV,h=>by
  have:=lZ h
  grind
 |n+1,i+1,d,dV,h=>by simp only[mq,gb,ae.d?,k4]at h;obtain⟨q,a2,aA⟩:=h;cases aA;obtain⟨O,R⟩:=adI (n:=n) (i:=i) a2;exact⟨by simp only[ae.size];omega,R⟩
def awy{e:ae}{tid bc:TypeId}(aL:P.underlying tid=some (.slice bc))(aA:(cP P e).1 bc)(Y:n*e.size<=16777216)(dB:0<e.size){parts:Array (Nat×Value)}{ji:Array Value}
  (bG:Instr.fill (λi=>some (i*e.size,e.size)) (madeCells (dz e).toArray (n*e.size)) parts.toList=some ji) (w:World) :
  (Instr.buildSlice tid n parts).run P w=.ok (.slice (some ⟨w.heap.size,0,none⟩) n n) (w.alloc (.cells ji bc)):=by
 have G8:=s? e;by_cases ao:n*e.size=0
 .have Sn:madeCells (dz e).toArray (n*e.size)=#[]:=by rw[ao];simp[madeCells]
  rw[Sn]at bG;have ac:=od aA w;have pG:n=0:=by rcases Nat.mul_eq_zero.1 ao with h|h<;>omega
  rw[pG];simp[Instr.buildSlice,run_underlying aL,ac,bG,Go.newRow,Array.range_zero']
 have ac:=od aA w;have G9:=A0 aA w;have R0:¬(16777216<n*e.size):=J;simp only[madeCells]at bG;simp[Instr.buildSlice,run_underlying aL,ac,ao,R0,G9,G8,Go.newRow];simp at bG;rw[bG];simp
def au7{tid:TypeId}(ht:(cP P (.sl (.op 3))).1 tid){aZ:List (Nat×au)}{parts:Array (Nat×Value)}{r:au}(h:(aey d n aZ).aY g B=some (r,B'))(hm:Mem K w0 phx M B w)
  (dd:pk phx (view w M) B aZ parts.toList):∃v w',(Instr.buildSlice tid n parts).run P w=.ok v w'/\dq K w0 phx M B w B' r v w':=by
 replace h:=gx h;obtain⟨ai,h⟩:=h;simp at ai;obtain⟨_,cS,O,R⟩:=aw.cA h;obtain⟨v,b4,af,aq⟩:=aw.cA R;obtain⟨a8,rfl⟩:=dE af;obtain⟨⟨bc,aL,aA⟩,_⟩:=ht;have SQ:e2 phx (view w M) B (m0 (mq n)) (mq n) (madeCells (dz (.op 3)).toArray (n*(ae.op 3).size)).toList:=by
  have h:=yG (phx:=phx) (B:=B) (H:=view w M) (mq n);rw[ahU]at h;have e:(madeCells (dz (.op 3)).toArray (n*(ae.op 3).size)).toList=List.replicate n (Value.pointer none):=by rw[show n*(ae.op 3).size=n from mw n];exact asW _ n
  grind
 obtain⟨aB,ji,e1,aN⟩:=PI (g:=g) (B':=b4) (place:=λi=>some (i*(ae.op 3).size,(ae.op 3).size)) (λi d dV aK=>by obtain⟨rfl,rfl⟩:=adI aK;rw[show d*(ae.op 3).size=d from mw d]) O a8 dd SQ
 subst aB;obtain⟨hid,aq⟩:=CC aq;cases aq;have cQ:=by have:=aN.length;rw[VN]at this;simpa using this
 refine⟨_,_,awy aL aA (by rw[show n*(ae.op 3).size=n from mw n];omega) bP e1 w,?_⟩;obtain⟨phx',ay,bD,QS,sm⟩:=hm.born hid (w':=w.alloc (.cells ji bc)) rfl rfl rfl bh (q4 w _) (.box (mq n) v) ji.size λphx' ay aA hp dS=>by refine⟨w.heap.size,0,ji,bc,(0,0),hp,q3 w _,by rw[VN];omega,?_,xO _,dS⟩;rw[Iq rfl aN.length];exact aA.b8 aN
 refine⟨phx',ay,bD,QS,?_⟩;simp only[a?,dZ,bM,eM]
 grind
def ajR{e:ae}{tid:TypeId}(ht:(cP P (.sl e)).1 tid){aZ:List (Nat×au)}{parts:Array (Nat×Value)}{r:au}(h:(Xq d e n aZ).aY g B=some (r,B'))(hm:Mem K w0 phx M B w)
  (dd:pk phx (view w M) B aZ parts.toList):∃v w',(Instr.buildSlice tid n parts).run P w=.ok v w'/\dq K w0 phx M B w B' r v w':=by
 obtain⟨_,cS,O,R⟩:=aw.cA h;obtain⟨hall,rfl⟩:=kD O;simp only[cM,EP]at hall;obtain⟨et,b4,af,aq⟩:=aw.cA R;obtain⟨dB,gg,rfl,rfl⟩:=vS aq;obtain⟨c8,cn,aN,f2,f3⟩:=VK af hm dd;obtain⟨⟨bc,aL,aA⟩,_⟩:=ht;obtain⟨xv,Hi,vE,_,ase⟩:=nc aA;have arx:=Ow (view w c8) dB (n:=n) (m:=n) (bU _);have aaP:=arx.r?;have aq1:cH (madeCells (dz e).toArray (n*e.size)) 0 ((bO n e.zero).length*e.size)=(madeCells (dz e).toArray (n*e.size)).toList:=by refine Iq rfl ?_;simp[size_madeCells,bO]
 rw[aq1]at aaP;have bm:∀p∈et.map (·.1),p<(bO n e.zero).length:=λp hp=>by rw[f3,m1]at hp;obtain⟨q,a2,rfl⟩:=hp;have:=pi.1 hall.1 q a2;simpa[bO]using this
 obtain⟨ji,bG,b_⟩:=Ra (place:=λi=>some (i*xv.size,xv.size)) (λi=>by rw[vE]) f2 bm aaP;have cr:(uA (List.replicate n e.zero) et).length=n:=by rw[Nr];simp
 have cQ:=by have:=b_.1;rw[Nr]at this;simpa[bO]using this
 have i6:n<=maxLen:=by have:n*1<=n*e.size:=BJ _ dB;unfold maxLen;omega
 refine⟨.slice (some ⟨w.heap.size,0,none⟩) n n,w.alloc (.cells ji bc),?_,?_⟩
 .have G8:=s? e
  have apc:¬(n*xv.size > 2^24):=by rw[vE];omega
  rw[<- vE]at bG;by_cases ao:n*xv.size=0
  .have Sn:madeCells (dz e).toArray (n*xv.size)=#[]:=by rw[ao];simp[madeCells]
   rw[Sn]at bG;have ac:=od aA w;rw[vE]at ao bG;have pG:n=0:=by rcases Nat.mul_eq_zero.1 ao with h|h<;>omega
   rw[pG];simp[Instr.buildSlice,run_underlying aL,ac,bG,Go.newRow,Array.range_zero']
  have ac:=od aA w;have G9:=A0 aA w;rw[vE]at ao apc bG;have R0:¬(16777216<n*e.size):=J;simp only[madeCells]at bG;simp[Instr.buildSlice,run_underlying aL,ac,ao,R0,G9,G8,Go.newRow];simp at bG;rw[bG];simp
 have d9:e3 (view w c8) e (uA (List.replicate n e.zero) et) ji 0:=by refine eU.row (by rw[cr,cQ];omega) ?_;rw[Iq rfl (by rw[cr];simpa using cQ)];exact b_
 have:=D0 (K:=K) (w0:=w0) (phx:=phx) (M:=c8) (B:=b4) (w:=w) cn gg (w':=w.alloc (.cells ji bc)) rfl rfl rfl (by rw[iv];exact E? _) (q4 w _) dB (l:=uA (List.replicate n e.zero) et) (q3 w _) (xO _) (rO w c8) d9 (cap:=n) (by rw[cr];exact bU _) i6 (by rw[cQ];exact bU _) (Nat.blt 0 n) (λh=>by rw[cr];simpa using Nat.pos_iff_ne_zero.1 (by simpa using h));obtain⟨phx',ay,cI,cR,a3⟩:=this;rw[cr]at a3;exact⟨phx',ay,cI,aN.trans cR,a3⟩
end
end Yp
namespace Yp
open Go
variable {P:Program}
def pc(H:cg):(ts:List ae)->hZ ts->List Value->Prop
 |[],_,vs=>vs=[]
 |t::ts,x,vs=>∃cs d3,vs=cv t cs::d3/\aH H t x.1 cs/\pc H ts x.2 d3
def uR(w:World)(M:Nat->Prop)(lo:Nat->Prop)(U:Nat->Prop)(e:ae)(l:List e.aD)(v:Value)(b:Nat):Prop:=
 ∃o c el fz cap,v=.slice (some ⟨b,o,none⟩) l.length cap/\l.length<=cap/\cap<=maxLen/\o+cap*e.size<=c.size/\w.heap[b]?=some (.cells c el fz)/\e3 (view w M) e l c o/\h4 c fz/\M b/\lo b/\¬U b
def g_(w:World)(M:Nat->Prop)(lo:Nat->Prop):(rs:List ef)->d8 rs->List Value->(Nat->Prop)->Prop
 |[],_,vs,_=>vs=[]
 |.im t::rs,x,vs,U=>∃cs d3,vs=cv t cs::d3/\aH (view w M) t x.1 cs/\g_ w M lo rs x.2 d3 U
 |.cl e::rs,x,vs,U=>∃a d3,vs=.slice a (x.1:List e.aD).length (x.1:List e.aD).length::d3/\aH (view w M) (.sl e) x.1 [.slice a (x.1:List e.aD).length (x.1:List e.aD).length]/\g_ w M lo rs x.2 d3 U
 |.ow e::rs,x,vs,U=>∃v d3,vs=v::d3/\(((x.1:List e.aD)=[]/\(∃a,v=.slice a 0 0)/\g_ w M lo rs x.2 d3 U)\/∃b,uR w M lo U e x.1 v b/\g_ w M lo rs x.2 d3 (λj=>U j\/j=b))
def ja:List Value->Value
 |[v]=>v
 |vs=>.tuple vs.toArray
def iu(w:World)(X:Nat->Prop)(w':World)(rs:List ef)(r:d8 rs)(b2:Value):Prop:=
 ∃ay:Nat->Prop,w'.os=w.os/\w'.tape=w.tape/\w'.output=w.output/\w.heap.size<=w'.heap.size/\(∀b,b<w.heap.size->w'.heap[b]?=w.heap[b]?)/\(∀b,b<w.heap.size->(ay b↔X b))/\(∀b,ay b->b<w'.heap.size) /\
  ∃vs,g_ w' ay (λb=>¬b<w.heap.size) rs r vs (λ_=>False)/\b2=ja vs
def lM (P : Program) (H : cg) : Prop := ∀ g, P.globalNamed "yett/sha.keys" = some g → aH H (.sl (.ar 64 (.int .u32))) ([(pL : List (bH .u32))] : List (ae.ar 64 (.int .u32)).aD) [.slice (some ⟨g, 0, none⟩) 1 1]
def lM.mono{P:Program}{H H':cg}(h:lM P H)(hl:H.cb H'):lM P H':=λg hg=>(h g hg).mono hl
structure pe(P:Program)(K:Kp)(w0:World):Prop where
 gl : ∀ g, P.globalNamed "yett/sha.keys" = some g → K.k g
 mJ:lM P (view w0 K.x)
def rV (P : Program) (f : Nat) : Prop := ∃ fn, P.funcs[f]? = some fn ∧ fn.body.isSome = true ∧ (fn.name == "runtime.NumGoroutine") = false
def fG(P:Program)(f:Nat)(s:eA):Prop:=
 rV P f/\∀(w:World) (X:Nat->Prop) (x:hZ s.args) (vs:List Value) (r:d8 s.res),(∀b,X b->b<w.heap.size)->lM P (view w X)->pc (view w X) s.args x vs->s.fn x=some r ->
  Calls P f vs.toArray w λe w'=>∃b2,e=.returned b2/\iu w X w' s.res r b2
def EY(w:World)(X:Nat->Prop)(b o n:Nat)(w':World)(t:ae)(x:t.aD)(rs:List ef)(r:d8 rs)(b2:Value):Prop:=
 ∃ay:Nat->Prop,w'.os=w.os/\w'.tape=w.tape/\w'.output=w.output/\w.heap.size<=w'.heap.size/\(∀k,k<w.heap.size->k≠b->w'.heap[k]?=w.heap[k]?)/\(∀k,k<w.heap.size->(ay k↔X k))/\(∀k,ay k->k<w'.heap.size) /\
  (∃c el fz,w'.heap[b]?=some (.cells c el fz)/\c.size=n/\h4 c fz/\aH (view w' ay) t x (cH c o t.size)) /\
  ∃vs,g_ w' ay (λk=>¬k<w.heap.size) rs r vs (λ_=>False)/\b2=ja vs
def ij(P:Program)(f:Nat)(s:ik):Prop:=
 rV P f/\∀(w:World) (X:Nat->Prop) (b o:Nat) (c:Array Value) (el:TypeId) (fz:Nat×Nat) (x:s.ty.aD) (y:hZ s.args) (vs:List Value) (r:s.ty.aD×d8 s.res),(∀k,X k->k<w.heap.size)->lM P (view w X)->X b ->
  w.heap[b]?=some (.cells c el fz)->o+s.ty.size<=c.size->h4 c fz->aH (view w X) s.ty x (cH c o s.ty.size)->pc (view w X) s.args y vs->s.fn (x,y)=some r ->
  Calls P f (Value.pointer (some ⟨b,o,none⟩)::vs).toArray w λe w'=>∃b2,e=.returned b2/\EY w X b o c.size w' s.ty r.1 s.res r.2 b2
def WJ(w:World)(X:Nat->Prop)(b o n:Nat)(w':World)(t:ae)(x:t.aD):Prop:=
 ∃ay:Nat->Prop,w'.os=w.os/\w'.tape=w.tape/\w'.output=w.output/\w.heap.size<=w'.heap.size/\(∀k,k<w.heap.size->k≠b->w'.heap[k]?=w.heap[k]?)/\(∀k,k<w.heap.size->(ay k↔X k))/\(∀k,ay k->k<w'.heap.size) /\
  (∃c el fz,w'.heap[b]?=some (.cells c el fz)/\c.size=n/\h4 c fz/\aH (view w' ay) t x (cH c o t.size))
def uK(P:Program)(f bc:Nat)(t:ae)(ts:List ae)(rs:List ef)(m:t.aD×hZ ts->Option (t.aD×Nat×d8 rs)):Prop:=
 rV P f/\∀(w:World) (X:Nat->Prop) (b o:Nat) (c:Array Value) (el:TypeId) (fz:Nat×Nat) (x:t.aD) (y:hZ ts) (vs:List Value) (r:t.aD×Nat×d8 rs),(∀k,X k->k<w.heap.size)->lM P (view w X)->X b ->
  w.heap[b]?=some (.cells c el fz)->o+t.size<=c.size->h4 c fz->aH (view w X) t x (cH c o t.size)->pc (view w X) ts y vs->m (x,y)=some r ->
  Calls P f (Value.pointer (some ⟨b,o,none⟩)::vs).toArray w λe w'=>(r.2.1=0/\∃b2,e=.returned b2/\EY w X b o c.size w' t r.1 rs r.2.2 b2) \/
   (r.2.1≠0/\e=.panicked [{ v:=.iface bc (.int .i64 (r.2.1:Int)),recovered:=false }]/\WJ w X b o c.size w' t r.1)
def EX(P:Program)(E:db)(f:Nat)(s:nJ):Prop:=∃m bc,E.Pn=some (m,bc)/\uK P f bc s.ty s.args [.im s.rt] s.fn
section
variable {K:Kp} {w0 w:World} {phx:cc} {M:Nat->Prop} {B B':Nat->aQ} {g:Nat->au} {H:cg}
def aH.l5{H':cg}:∀{t:ae} {x:t.aD} {cs:List Value},t.l5=true->aH H t x cs->aH H' t x cs
 |.bool,_,_,_,h=>aH.nP.2 (aH.nP.1 h)
 |.int k,_,_,_,h=>aH.ia.2 (aH.ia.1 h)
 |.str,_,_,_,h=>aH.ml.2 (aH.ml.1 h)
 |.op k,_,_,_,h=>aH.vW.2 (aH.vW.1 h)
 |.fn l,_,_,_,h=>aH.F8.2 (aH.F8.1 h)
 |.unit,_,_,_,h=>aH.Bs.2 (aH.Bs.1 h)
 |.pair a b,x,cs,hf,h=>by simp only[ae.l5,cM]at hf;obtain⟨c1,c2,ao,O,R⟩:=aH.mh.1 h;exact aH.mh.2 ⟨c1,c2,ao,aH.l5 hf.1 O,aH.l5 hf.2 R⟩
 |.ar n e,x,cs,hf,h=>by obtain⟨ao,O,R⟩:=aH.u0.1 h;exact aH.u0.2 ⟨ao,O,λi x hi=>aH.l5 hf (R i x hi)⟩
def pc.mono{H':cg}(hl:H.cb H'):∀{ts:List ae} {x:hZ ts} {vs:List Value},pc H ts x vs->pc H' ts x vs
 |[],_,_,h=>h
 |_::_,_,_,⟨cs,d3,h,O,R⟩=>⟨cs,d3,h,O.mono hl,pc.mono hl R⟩
def gi(phx:cc)(H:cg)(B:Nat->aQ):List au->List Value->Prop
 |[],[]=>True
 |p::aZ,v::vs=>a? phx H B p v/\gi phx H B aZ vs
 |_,_=>False
def gi.ext{phx':cc}{ay:Nat->Prop}{w':World}(aA:cm phx M B w phx' ay B' w'):∀{aZ:List au} {vs:List Value},gi phx (view w M) B aZ vs->gi phx' (view w' ay) B' aZ vs
 |[],[],_=>trivial
 |_::_,_::_,h=>⟨aA.p h.1,gi.ext aA h.2⟩
def NW{eJ:Bool}:∀{ts:List ae} {aZ:List au} {vs:List Value} {x:hZ ts} {M:Nat->Prop} {B B':Nat->aQ},(I3 eJ ts aZ).aY g B=some (x,B')->Mem K w0 phx M B w->gi phx (view w M) B aZ vs ->
  ∃ay,Mem K w0 phx ay B' w/\cm phx M B w phx ay B' w/\pc (full w) ts x vs/\(eJ=true->pc (view w ay) ts x vs)
 |[],[],[],x,M,B,B',h,hm,_=>by cases h;exact⟨M,hm,cm.refl _ _ _ _,rfl,λ_=>rfl⟩
 |t::ts,p::aZ,v::vs,x,M,B,B',h,hm,hp=>by obtain⟨y,cS,O,R⟩:=aw.cA h;obtain⟨bs,b4,af,aq⟩:=aw.cA R;cases aq;obtain⟨cs,aC,fr,bD,e1,_,f1,f2⟩:=ym O hm hp.1;obtain⟨c8,cn,aN,f3,f4⟩:=NW af bD (hp.2.ext e1);subst aC;exact⟨c8,cn,e1.trans aN,⟨cs,vs,rfl,f1,f3⟩,λhf=>⟨cs,vs,rfl,(f2 hf).mono aN.vw,f4 hf⟩⟩
def xH{a:Act}(ac:dw phx H B g a):∀{l:List Operand} {B':Nat->aQ} {aZ:List au},(lO ea l).aY g B=some (aZ,B')->B'=B/\gi phx H B aZ (l.map a.eval)
 |[],B',aZ,h=>by cases h;exact⟨rfl,trivial⟩
 |p::l,B',aZ,h=>by simp only[lO]at h;obtain⟨b,cS,O,R⟩:=aw.cA h;obtain⟨jk,aC⟩:=xP O ac;obtain⟨b9,uJ,a8,cT⟩:=aw.cA R;cases cT;rw[jk]at a8;obtain⟨aB,hp⟩:=xH ac a8;exact⟨aB,aC,hp⟩
def Mem.ret(hm:Mem K w0 phx M B w){w':World}{ay:Nat->Prop}(O:w'.os=w.os)(R:w'.tape=w.tape)(af:w'.output=w.output)(ac:w.heap.size<=w'.heap.size)
 (Y:∀b,b<w.heap.size->w'.heap[b]?=w.heap[b]?) (dS:∀b,b<w.heap.size->(ay b↔M b)) (bm:∀b,ay b->b<w'.heap.size) :
 Mem K w0 phx ay B w'/\cm phx M B w phx ay B w':=by
 have hl:∀b o,w.heap[b]?=some o->b<w.heap.size:=λb o aK=>(ip.1 aK).1;have aC:(view w M).cb (view w' ay):=yu λb o aj aK=>⟨λai=>aj ((dS b (hl b o aK)).1 ai),(Y b (hl b o aK)).trans aK⟩;have aA:cm phx M B w phx ay B w':=⟨λ_ _=>rfl,aC,λ_=>aQ.cb.refl _⟩;have ap:∀b,K.k b->b<w.heap.size:=λb h=>hU (hm.klt b h) hm.size;refine⟨{ os:=O.trans hm.os,tape:=R.trans hm.tape,output:=af.trans hm.output,size:=eZ hm.size ac,keep:=λb h=>(Y b (ap b h)).trans (hm.keep b h),klt:=hm.klt,hid:=λb h=>(dS b (ap b h)).trans (hm.hid b h),own:=hm.own,mlt:=bm,blks:=λj => ?_,sep:=hm.sep },aA⟩;exact(hm.blks j).congr rfl aA.pl aA.vw aA.bl (λx hx qu=>Y _ ((hm.blks j).lt qu hx)) (λx hx qu RT=>(dS _ ((hm.blks j).lt qu hx)).2 RT)
def lD.cons{u r:au}{v:Value}{vs:List Value}(h:a? phx H B u v)(aL:∀a,u ≠ .tup a)(k:lD phx H B r vs):lD phx H B (.two u r) (v::vs):=by refine⟨v,vs,rfl,?_,k⟩;cases u<;>first|exact h|exact absurd rfl (aL _)
def ae2{lo:Nat->Prop}{r:ef}{rs:List ef}{x:d8 (r::rs)}{vs:List Value}{U:Nat->Prop}(ah:g_ w M lo (r::rs) x vs U){id:Nat}{v:au}(h:(Uv id r x.1).aY g B=some (v,B'))(hm:Mem K w0 phx M B w)
  (qt:∀b,lo b->¬K.k b) (du:∀j,(B j).fv=true->∀z,phx j=some z->¬lo z.1\/U z.1) :
  ∃phx' bV u d3,vs=u::d3/\Mem K w0 phx' M B' w/\cm phx M B w phx' M B' w/\a? phx' (view w M) B' v u/\(∀a,v ≠ .tup a)/\g_ w M lo rs x.2 d3 bV/\(∀j,(B' j).fv=true->∀z,phx' j=some z->¬lo z.1\/bV z.1):=by
 cases r with
 |im t =>cases h;obtain⟨cs,d3,rfl,O,R⟩:=ah;exact⟨phx,U,_,d3,rfl,hm,cm.refl _ _ _ _,⟨cs,O,rfl⟩,(λa h=>by cases h),R,du⟩
 |cl e =>cases h;obtain⟨a,d3,rfl,O,R⟩:=ah;exact⟨phx,U,_,d3,rfl,hm,cm.refl _ _ _ _,⟨a,rfl,O⟩,(λa h=>by cases h),R,du⟩
 |ow e=>
  obtain⟨dB,gg,rfl,rfl⟩:=vS h;obtain⟨u,d3,rfl,O⟩:=ah;rcases O with⟨O,⟨a,rfl⟩,R⟩|⟨b,⟨o,c,el,fz,cap,rfl,bF,b3,dp,fP,go,jE,ka,kd,t6⟩,R⟩
  .have cr:(x.1:List e.aD).length=0:=by rw[O];rfl
   obtain⟨bD,e1⟩:=hm.uY gg (.ob e x.1) none (λ_ y hy=>by cases hy) (λ_ y hy=>by cases hy) (λ_=>⟨dB,.inl ⟨lU _ _ _,cr⟩⟩);refine⟨_,U,_,d3,rfl,bD,e1,?_,(λa h=>by cases h),R,λj an z bj => ?_⟩
   .simp only[a?,dZ,bM,eM]
    exact⟨.inl ⟨cr,a,rfl⟩,λh=>by cases h⟩
   by_cases dK:j=id
   .subst dK;rw[lU]at bj;cases bj
   rw[d6 _ _ dK]at an;rw[qS _ _ dK]at bj;exact du j an z bj
  obtain⟨bD,e1⟩:=hm.uY gg (.ob e x.1) (some (b,o,c.size)) (λ_ y hy ap=>by cases hy;exact qt _ kd ap) (λ_ y hy j an z bj=>by
    cases hy;rcases du j an z bj with h|h
    .exact λe=>h (by have e:z.1=b:=e;rw[e];exact kd)
    exact λe=>t6 (by have e:z.1=b:=e;rw[<- e];exact h)) (λaA=>⟨dB,.inr ⟨b,o,c,el,fz,lU _ _ _,fP,go,jE,ka⟩⟩)
  refine⟨_,λj=>U j\/j=b,_,d3,rfl,bD,e1,?_,(λa h=>by cases h),R,λj an z bj => ?_⟩
  .simp only[a?,dZ,bM,eM]
   exact⟨.inr ⟨b,o,c.size,cap,lU _ _ _,bh,bF,b3,by simpa using dp⟩,λh=>by cases h⟩
  by_cases dK:j=id
  .subst dK;rw[lU]at bj;cases bj;exact .inr (.inr rfl)
  rw[d6 _ _ dK]at an;rw[qS _ _ dK]at bj;exact(du j an z bj).imp (λh=>h) .inl
def ae1{lo:Nat->Prop}(qt:∀b,lo b->¬K.k b):∀{rs:List ef} {x:d8 rs} {vs:List Value} {U:Nat->Prop} {id:Nat} {v:au} {phx:cc} {B B':Nat->aQ},g_ w M lo rs x vs U->(Uu id rs x).aY g B=some (v,B')->Mem K w0 phx M B w ->
  (∀j,(B j).fv=true->∀z,phx j=some z->¬lo z.1\/U z.1)->∃phx',Mem K w0 phx' M B' w/\cm phx M B w phx' M B' w/\lD phx' (view w M) B' v vs
 |[],x,vs,U,id,v,phx,B,B',ah,h,hm,du=>by cases h;exact⟨phx,hm,cm.refl _ _ _ _,ah⟩
 |r::rs,x,vs,U,id,v,phx,B,B',ah,h,hm,du=>by obtain⟨y,cS,O,R⟩:=aw.cA h;obtain⟨bs,b4,af,aq⟩:=aw.cA R;cases aq;obtain⟨hk,tn,u,d3,rfl,bD,e1,f1,f2,f3,f4⟩:=ae2 ah O hm qt du;obtain⟨jH,cn,aN,f5⟩:=ae1 qt f3 af bD f4;exact⟨jH,cn,e1.trans aN,lD.cons (aN.p f1) f2 f5⟩
def g_.length{w:World}{M:Nat->Prop}{lo:Nat->Prop}:∀{rs:List ef} {x:d8 rs} {vs:List Value} {U:Nat->Prop},g_ w M lo rs x vs U->vs.length=rs.length
 |[],_,vs,_,h=>by have h:vs=[]:=h;subst h;rfl
 |.im t::rs,x,vs,U,h=>by obtain⟨cs,d3,ao,O,R⟩:=h;subst ao;simp[g_.length R]
 |.cl t::rs,x,vs,U,h=>by obtain⟨cs,d3,ao,O,R⟩:=h;subst ao;simp[g_.length R]
 |.ow t::rs,x,vs,U,h=>by obtain⟨v,d3,ao,O⟩:=h;subst ao;rcases O with⟨_,_,R⟩|⟨_,_,R⟩<;>simp[g_.length R]
def g_.sF{w:World}{M:Nat->Prop}{lo sF:Nat->Prop}:∀{rs:List ef} {x:d8 rs} {vs:List Value} {U bV:Nat->Prop},(∀k,lo k->¬U k->sF k)->(∀k,bV k->U k)->g_ w M lo rs x vs U->g_ w M sF rs x vs bV
 |[],_,_,_,_,_,_,h=>h
 |.im t::rs,x,vs,U,bV,O,R,h=>by obtain⟨cs,d3,ao,af,aq⟩:=h;exact⟨cs,d3,ao,af,g_.sF O R aq⟩
 |.cl t::rs,x,vs,U,bV,O,R,h=>by obtain⟨cs,d3,ao,af,aq⟩:=h;exact⟨cs,d3,ao,af,g_.sF O R aq⟩
 |.ow t::rs,x,vs,U,bV,O,R,h=>by obtain⟨v,d3,ao,af⟩:=h;refine⟨v,d3,ao,af.imp (λh=>⟨h.1,h.2.1,g_.sF O R h.2.2⟩) ?_⟩;rintro⟨b,⟨o,c,el,fz,cap,bF,b3,dp,fP,go,jE,ka,kd,t6,L2⟩,aq⟩;exact⟨b,⟨o,c,el,fz,cap,bF,b3,dp,fP,go,jE,ka,kd,O b t6 L2,λai=>L2 (R b ai)⟩,g_.sF (λk ap aj=>O k ap λai=>aj (.inl ai)) (λk ap=>ap.imp (R k) id) aq⟩
def g_.lo{w:World}{M:Nat->Prop}{lo sF U:Nat->Prop}{rs:List ef}{x:d8 rs}{vs:List Value}(h:g_ w M lo rs x vs U)(O:∀k,lo k->¬U k->sF k):g_ w M sF rs x vs (λ_=>False):=
 g_.sF O (λ_ h=>h.elim) h
def g_.l5{w:World}{M ay:Nat->Prop}{lo:Nat->Prop}:∀{rs:List ef} {x:d8 rs} {vs:List Value} {U:Nat->Prop},rs.all ef.l5=true->g_ w M lo rs x vs U->g_ w ay lo rs x vs U
 |[],_,_,_,_,h=>h
 |.im t::rs,x,vs,U,hf,h=>by simp only[uO,cM]at hf;obtain⟨cs,d3,ao,O,R⟩:=h;exact⟨cs,d3,ao,aH.l5 hf.1 O,g_.l5 hf.2 R⟩
 |.ow e::rs,x,vs,U,hf,h=>by simp only[uO,cM]at hf;cases hf.1
 |.cl e::rs,x,vs,U,hf,h=>by simp only[uO,cM]at hf;cases hf.1
def Ux{rs:List ef}{r:d8 rs}{v:au}{vs:List Value}(hm:Mem K w0 phx M B w){lo:Nat->Prop}(qt:∀b,lo b->¬K.k b)(du:∀j,(B j).fv=true->∀z,phx j=some z->¬lo z.1)
  (ah:g_ w M lo rs r vs (λ_=>False))
  (h:(Qf d rs r).aY g B=some (v,B')) :
  ∃phx',Mem K w0 phx' M B' w/\cm phx M B w phx' M B' w/\a? phx' (view w M) B' v (ja vs):=by
 have aaY:∀j,(B j).fv=true->∀z,phx j=some z->¬lo z.1\/(λ_:Nat=>False) z.1:=λj an z bj=>.inl (du j an z bj);match rs,r,ah,h with
 |[],r,ah,h =>cases h;have:vs=[]:=ah;subst this;exact⟨phx,hm,cm.refl _ _ _ _,[],rfl,rfl⟩
 |[t],r,ah,h =>obtain⟨hk,tn,u,d3,rfl,bD,e1,f1,f2,f3,f4⟩:=ae2 ah h hm qt aaY;have:d3=[]:=f3;subst this;exact⟨hk,bD,e1,f1⟩
 |t::t'::ts,r,ah,h=>
  obtain⟨y,cS,O,R⟩:=aw.cA h;cases R;obtain⟨hk,bD,e1,f1⟩:=ae1 qt ah O hm aaY;refine⟨hk,bD,e1,?_⟩;have cr:=ah.length;have eC:∀q,vs≠[q]:=by intro q a2;rw[a2]at cr;simp at cr
  match vs,eC,f1 with
  |[],_,f1=>exact⟨[],f1,rfl⟩
  |[q],eC,_=>exact absurd rfl (eC q)
  |q::MS::vs,_,f1=>exact⟨_,f1,rfl⟩
def ay5{d:β}{o:Option β}{k:β->aw α}:(aw.bo d o k).aY g B=(match o with|some a=>(k a).aY g B|none=>none):=by cases o<;>simp only[aw.aY]
def pe.keys(h:pe P K w0)(hm:Mem K w0 phx M B w):lM P (view w M):=by
 intro g hg;obtain⟨a,cap,O,R,af,aq⟩:=aH.ic.1 (h.mJ g hg);simp only[yU,Value.slice.injEq,and_true]at O;obtain⟨rfl,_,rfl⟩:=O;have ap:=h.gl g hg;refine aH.ic.2 ⟨_,_,rfl,R,af,?_⟩;rcases aq with aq|⟨b,o,c,el,fz,bG,b_,cp,dl⟩
 .exact .inl aq
 cases bG;obtain⟨dF,gp⟩:=js.1 b_;exact .inr ⟨g,0,c,el,fz,rfl,js.2 ⟨λai=>dF ((hm.hid g ap).1 ai),(hm.keep g ap).trans gp⟩,cp,λi x hi=>(dl i x hi).l5 rfl⟩
def yY(P:Program)(m t:Nat):Prop:=
 rV P m/\∀(b:Bool) (k:Nat) (w:World),Calls P m #[.bool b,.int .i64 (k:Int)] w λe w'=>w'=w/\e=if b then .returned (.tuple #[]) else .panicked [{ v:=.iface t (.int .i64 (k:Int)),recovered:=false }]
structure ot(P:Program)(E:db)(K:Kp)(w0:World):Prop where
 fn:∀f s,E.G f=some s->fG P f s
 kn : ∀ g, E.K = some g → P.globalNamed "yett/sha.keys" = some g
 gk:(∃f s,E.G f=some s)\/(∃f g,E.I f=some g)\/(∃g,E.K=some g)->pe P K w0
 bx:∀f s,E.X f=some s->ij P f s/\pe P K w0
 pn:∀m t,E.Pn=some (m,t)->yY P m t
 qn:∀f s,E.Q f=some s->EX P E f s/\pe P K w0
def Mem.Uw(hm:Mem K w0 phx M B w){id:Nat}{t:ae}{v:au}(aB:B id=.box t v)(hx:phx id=some (b,o,n))(RS:M b){w':World}{ay:Nat->Prop}{x:t.aD}(O:w'.os=w.os)(R:w'.tape=w.tape)(af:w'.output=w.output)(ac:w.heap.size<=w'.heap.size)
 (Y:∀k,k<w.heap.size->k≠b->w'.heap[k]?=w.heap[k]?) (dS:∀k,k<w.heap.size->(ay k↔M k)) (bm:∀k,ay k->k<w'.heap.size)
 (ai:∃c el fz,w'.heap[b]?=some (.cells c el fz)/\c.size=n/\h4 c fz/\aH (view w' ay) t x (cH c o t.size)) (aj:o+t.size<=n) :
 Mem K w0 phx ay (cV B id (.box t (.sc t x))) w'/\cm phx M B w phx ay (cV B id (.box t (.sc t x))) w':=by
 have hl:∀b o,w.heap[b]?=some o->b<w.heap.size:=λb o aK=>(ip.1 aK).1;have mM:(B id).fv=true:=by rw[aB];rfl
 have aC:(view w M).cb (view w' ay):=yu λk o aj aK=>⟨λai=>aj ((dS k (hl k o aK)).1 ai),(Y k (hl k o aK) λe=>aj (e▸RS)).trans aK⟩;have aA:cm phx M B w phx ay (cV B id (.box t (.sc t x))) w':=⟨λ_ _=>rfl,aC,λj=>by
  by_cases an:j=id
  .subst an;rw[eM,aB];exact rfl
  rw[d6 _ _ an];exact aQ.cb.refl _⟩
 have ap:∀k,K.k k->k<w.heap.size:=λk h=>hU (hm.klt k h) hm.size;have l':∀k,K.k k->k≠b:=λk h e=>hm.own id mM _ hx (e▸h);have key:∀j,((cV B id (.box t (.sc t x))) j).fv=true->(B j).fv=true:=λj an=>by
  by_cases l_:j=id
  .subst l_;exact mM
  rw[d6 _ _ l_]at an;exact an
 refine⟨{ os:=O.trans hm.os,tape:=R.trans hm.tape,output:=af.trans hm.output,size:=eZ hm.size ac,keep:=λk h=>(Y k (ap k h) (l' k h)).trans (hm.keep k h),klt:=hm.klt,hid:=λk h=>(dS k (ap k h)).trans (hm.hid k h),own:=λj an=>hm.own j (key j an),mlt:=bm,blks:=λj => ?_,sep:=λi j i3 hi an=>hm.sep i j i3 (key i hi) (key j an) },aA⟩;by_cases an:j=id
 .subst an
  rw[eM];obtain⟨c,el,fz,bG,b_,cp,dl⟩:=ai;exact⟨b,o,c,el,fz,by rw[hx,b_],bG,J,⟨rfl,dl⟩,cp,(dS b (hm.mlt b RS)).2 RS⟩
 rw[d6 _ _ an];exact(hm.blks j).congr rfl aA.pl aA.vw aA.bl (λy hy qu=>Y _ ((hm.blks j).lt qu hy) (hm.sep j id an qu mM y _ hy hx)) (λy hy qu aoL=>(dS _ ((hm.blks j).lt qu hy)).2 aoL)
def ajJ{s:ik}{aZ:List au}{vs:List Value}{v:au}(fS:ij P f s)(ap:pe P K w0)(h:(PE d s aZ).aY g B=some (v,B'))(hm:Mem K w0 phx M B w)(dd:gi phx (view w M) B aZ vs):
  rV P f/\Calls P f vs.toArray w λe w'=>∃b2,e=.returned b2/\dq K w0 phx M B w B' v b2 w':=by
 unfold PE at h;split at h
 .rename_i id as
  simp only[aw.aY]at h;cases vs with
  |nil=>exact dd.elim
  |cons v0 vs=>
   have zO:bM phx (view w M) B (.ptr id []) v0:=dd.1;have Y:=hm.blks id;simp only[bM]at zO;generalize aB:B id=bl at h Y zO;cases bl<;>try(cases h)
   rename_i t u;dsimp only at h;obtain⟨b,o,n,off,t',g1,bw,rfl⟩:=zO;obtain⟨b',di,c,el,fz,bG,b_,cp,dl,eQ,lq⟩:=Y;rw[g1]at bG;cases bG;simp only[ae.d?]at bw;obtain⟨rfl,rfl⟩:=bw;cases gH:ae.is t s.ty with
   |false=>rw[gH]at h;cases h
   |true=>
    rw[gH]at h;have ht:=eD gH;subst ht;obtain⟨x,cS,O,R⟩:=aw.cA h;obtain⟨y,b4,af,aq⟩:=aw.cA R;obtain⟨fr,bD,e1,_,f1,f2⟩:=I4 O hm dl;obtain⟨c8,cn,aN,f3,f4⟩:=NW af bD (dd.2.ext e1);simp only[aw.aY]at aq;have hb2:=cn.blks id;generalize j_:b4 id=bl2 at aq hb2;cases bl2<;>try(cases aq)
    rename_i ev uF;dsimp only at aq;cases tX:ae.is ev s.ty with
    |false=>rw[tX]at aq;cases aq
    |true=>
     rw[tX]at aq;have GZ:=eD tX;subst GZ;obtain⟨ei,mf,c2,Zk,aae,dF,gp,lk,xS,xU,sO⟩:=hb2;rw[g1,km,kH,kH]at dF;obtain⟨rfl,rfl,_⟩:=dF;cases ah:s.fn (x,y) with
     |none=>rw[ah]at aq;cases aq
     |some r=>
      rw[ah]at aq;refine⟨fS.1,?_⟩;refine(fS.2 w c8 b o c el fz x y vs r cn.mlt (ap.keys cn) sO b_ cp eQ ((f2 rfl).mono aN.vw) (f4 rfl) ah).mono ?_;rintro e w' ⟨b2,rfl,ay,bF,b3,dp,fP,go,jE,ka,kd,us,t6,rfl⟩;obtain⟨gJ,dJ⟩:=cn.Uw j_ g1 sO bF b3 dp fP go jE ka kd cp;have du:∀j,((cV b4 id (.box s.ty (.sc s.ty r.1))) j).fv=true->∀z,phx j=some z->¬ ¬z.1<w.heap.size:=λj an z bj ai=>by
       by_cases dK:j=id
       .grind
       rw[d6 _ _ dK]at an;exact ai ((cn.blks j).lt an bj)
      obtain⟨T8,Ai,gQ,f5⟩:=Ux (g:=g) gJ (lo:=λk=>¬k<w.heap.size) (λk qs GO=>qs (hU (cn.klt k GO) cn.size)) du t6 aq;exact⟨_,rfl,T8,ay,Ai,((e1.trans aN).trans dJ).trans gQ,f5⟩
 cases h
def avk{s:nJ}{aZ:List au}{vs:List Value}{v:au}{bc:Nat}(fS:uK P f bc s.ty s.args [.im s.rt] s.fn)(ap:pe P K w0)(h:(Qe s aZ).aY g B=some ((n,v),B'))(hm:Mem K w0 phx M B w)(dd:gi phx (view w M) B aZ vs):
  rV P f/\Calls P f vs.toArray w λe w'=>∃ay,Mem K w0 phx ay B' w'/\cm phx M B w phx ay B' w'/\((n=0/\∃b2,e=.returned b2/\a? phx (view w' ay) B' v b2)\/(n≠0/\e=.panicked [{ v:=.iface bc (.int .i64 (n:Int)),recovered:=false }])):=by
 unfold Qe at h;split at h
 .rename_i id as
  simp only[aw.aY]at h;cases vs with
  |nil=>exact dd.elim
  |cons v0 vs=>
   have zO:bM phx (view w M) B (.ptr id []) v0:=dd.1;have Y:=hm.blks id;simp only[bM]at zO;generalize aB:B id=bl at h Y zO;cases bl<;>try(cases h)
   rename_i t u;dsimp only at h;obtain⟨b,o,adc,off,t',g1,bw,rfl⟩:=zO;obtain⟨b',di,c,el,fz,bG,b_,cp,dl,eQ,lq⟩:=Y;rw[g1]at bG;cases bG;simp only[ae.d?]at bw;obtain⟨rfl,rfl⟩:=bw;cases gH:ae.is t s.ty with
   |false=>rw[gH]at h;cases h
   |true=>
    rw[gH]at h;have ht:=eD gH;subst ht;obtain⟨x,cS,O,R⟩:=aw.cA h;obtain⟨y,b4,af,aq⟩:=aw.cA R;obtain⟨fr,bD,e1,_,f1,f2⟩:=I4 O hm dl;obtain⟨c8,cn,aN,f3,f4⟩:=NW af bD (dd.2.ext e1);simp only[aw.aY]at aq;have hb2:=cn.blks id;generalize j_:b4 id=bl2 at aq hb2;cases bl2<;>try(cases aq)
    rename_i ev uF;dsimp only at aq;cases tX:ae.is ev s.ty with
    |false=>rw[tX]at aq;cases aq
    |true=>
     rw[tX]at aq;have GZ:=eD tX;subst GZ;obtain⟨ei,mf,c2,Zk,aae,dF,gp,lk,xS,xU,sO⟩:=hb2;rw[g1,km,kH,kH]at dF;obtain⟨rfl,rfl,_⟩:=dF;cases ah:s.fn (x,y) with
     |none=>rw[ah]at aq;cases aq
     |some r=>
      rw[ah]at aq;cases aq;refine⟨fS.1,?_⟩;refine(fS.2 w c8 b o c el fz x y vs r cn.mlt (ap.keys cn) sO b_ cp eQ ((f2 rfl).mono aN.vw) (f4 rfl) ah).mono ?_;rintro e w' (⟨aj,b2,rfl,ay,bF,b3,dp,fP,go,jE,ka,kd,us,t6,rfl⟩|⟨aj,rfl,ay,bF,b3,dp,fP,go,jE,ka,kd⟩)
      .obtain⟨gJ,dJ⟩:=cn.Uw j_ g1 sO bF b3 dp fP go jE ka kd cp
       refine⟨ay,gJ,(e1.trans aN).trans dJ,.inl ⟨aj,_,rfl,?_⟩⟩;obtain⟨cs,d3,rfl,L2,asi⟩:=t6;cases(asi);exact⟨cs,L2,rfl⟩
      obtain⟨gJ,dJ⟩:=cn.Uw j_ g1 sO bF b3 dp fP go jE ka kd cp;exact⟨ay,gJ,(e1.trans aN).trans dJ,.inr ⟨aj,rfl⟩⟩
 cases h
def Qg{E:db}(dA:ot P E K w0){aZ:List au}{vs:List Value}{v:au}(h:(FC E d f aZ).aY g B=some (v,B'))(hm:Mem K w0 phx M B w)(dd:gi phx (view w M) B aZ vs):
  rV P f/\Calls P f vs.toArray w λe w'=>∃b2,e=.returned b2/\dq K w0 phx M B w B' v b2 w':=by
 unfold FC at h;cases hg:E.G f with
 |none=>
  rw[hg]at h;cases hx:E.X f with
  |none=>rw[hx]at h;cases h
  |some s =>rw[hx]at h;obtain⟨O,R⟩:=dA.bx f s hx;exact ajJ O R h hm dd
 |some s=>
  rw[hg]at h;obtain⟨x,cS,O,R⟩:=aw.cA h;obtain⟨fr,bD,e1,f1,f2⟩:=NW O hm dd;obtain⟨vk,fS⟩:=dA.fn f s hg;cases ah:s.fn x with
  |none=>rw[ah]at R;cases R
  |some r=>
   rw[ah]at R;refine⟨vk,?_⟩;cases q?:s.res.all ef.l5 with
   |false =>rw[q?]at f2;refine(fS w fr x vs r bD.mlt ((dA.gk (.inl ⟨f,s,hg⟩)).keys bD) (f2 rfl) ah).mono ?_;rintro e w' ⟨b2,rfl,ay,bF,b3,dp,fP,go,jE,ka,us,kd,rfl⟩;obtain⟨cn,aN⟩:=bD.ret bF b3 dp fP go jE ka;obtain⟨jn,gJ,dJ,f3⟩:=Ux (g:=g) cn (λb Y ap=>Y (hU (bD.klt b ap) bD.size)) (λj an z bj ai=>ai ((bD.blks j).lt an bj)) kd R;exact⟨_,rfl,jn,ay,gJ,(e1.trans aN).trans dJ,f3⟩
   |true =>have aC:(full w).cb (view w λ_=>False):=λb o Y=>js.2 ⟨λh=>h,Y⟩;refine(fS w (λ_=>False) x vs r (λ_ h=>h.elim) (((dA.gk (.inl ⟨f,s,hg⟩)).keys bD).mono ((rO w fr).trans aC)) (f1.mono aC) ah).mono ?_;rintro e w' ⟨b2,rfl,ay,bF,b3,dp,fP,go,jE,ka,us,kd,rfl⟩;obtain⟨cn,aN⟩:=bD.CJ bF b3 dp fP go (λ_=>False) (λ_ h=>h.elim);obtain⟨jn,gJ,dJ,f3⟩:=Ux (g:=g) cn (λb Y ap=>Y (hU (bD.klt b ap) bD.size)) (λj an z bj ai=>ai ((bD.blks j).lt an bj)) (kd.l5 q?) R;exact⟨_,rfl,jn,_,gJ,(e1.trans aN).trans dJ,f3⟩
end
end Yp
namespace Yp
open Go
variable {P:Program}
def qA(P:Program)(M:Nat->Option (ae×ae)):Prop:=∀tid p,M tid=some p->∃kt vt,P.underlying tid=some (.map kt vt)/\(cP P p.1).1 kt/\(cP P p.2).1 vt
def acY(P:Program)(tid:Nat)(p:ae×ae):Bool:=match P.underlying tid with|some (.map kt vt)=>(kv P p.1).1 kt&&(kv P p.2).1 vt|_=>false
def acZ(P:Program):∀l:List (Nat×ae×ae),(l.all λq=>acY P q.1 q.2)=true->qA P (Hz l)
 |[],_=>λtid p h=>by cases h
 |(i,q)::r,h=>λtid p hp=>by
  simp only[uO,cM]at h;simp only[Hz]at hp;cases Y:Nat.beq i tid with
  |true=>
   rw[Y]at hp;cases hp;have O:=h.1;unfold acY at O;rw[<- fy Y];split at O
   .rename_i kt vt aL
    simp at O;exact⟨kt,vt,aL,(tI _).1 _ O.1,(tI _).1 _ O.2⟩
   cases O
  |false=>rw[Y]at hp;exact acZ P r h.2 tid p hp
section
variable {K:Kp} {w0 w:World} {phx:cc} {M:Nat->Prop} {B B':Nat->aQ} {g:Nat->au} {H:cg}
def asY{t:TypeId}{id:Nat}(hid:B id=.new)(kt vt:ae)(hm:Mem K w0 phx M B w):
  ∃r w',(Instr.makeMap t none).run P w=.ok r w'/\dq K w0 phx M B w (cV B id (.mp kt vt [])) (.mpp id) r w':=by
 refine⟨.map (some w.heap.size),w.alloc (.map #[] 0),by simp[Instr.makeMap],?_⟩;obtain⟨phx',ay,bD,e1,dF⟩:=hm.born hid (w':=w.alloc (.map #[] 0)) rfl rfl rfl (by rw[iv];omega) (q4 w _) (.mp kt vt []) 0 λphx' ay aA hp dS=>
  ⟨w.heap.size, #[],0,hp,q3 w _,rfl,dS⟩
 refine⟨phx',ay,bD,e1,?_⟩;simp only[a?,dZ,bM,eM];exact⟨_,dF,rfl⟩
def t7:ae->TypeDesc
 |.int k=>.int k|_=>.string
def L3{kt:ae}(ap:vH kt=true){tid:TypeId}(hf:(cP P kt).1 tid):P.underlying tid=some (t7 kt):=by cases kt<;>first|exact hf.1|cases ap
def S4{kt:ae}(ap:vH kt=true){tid:TypeId}(hf:(cP P kt).1 tid){key:kt.aD}{am:List Value}(h:aH H kt key am)(b:Bool)(w:World):(Instr.checkKey b 10000 tid (cv kt am)).run P w=.ok () w:=by
 have aL:=L3 ap hf;cases kt<;>try(cases ap)
 .have:=aH.ia.1 h
  rw[Instr.checkKey];simp only[Sem.run_bind,run_underlying aL];rfl
 have:=aH.ml.1 h;rw[Instr.checkKey];simp only[Sem.run_bind,run_underlying aL];rfl
def S5{kt:ae}(ap:vH kt=true){bF b3:kt.aD}{c1 c2:List Value}(O:aH H kt bF c1)(R:aH H kt b3 c2):Instr.sameNow (t7 kt) (cv kt c1) (cv kt c2)=some (vG kt bF b3):=by
 cases kt<;>try(cases ap)
 .have e1:=aH.ia.1 O;have aN:=aH.ia.1 R;subst e1;subst aN
  simp[Instr.sameNow,t7,cv,ae.isAgg,vG,ag]
 have e1:=aH.ml.1 O;have aN:=aH.ml.1 R;subst e1;subst aN;simp only[cv,ae.isAgg,t7,List.headD_cons];simp only[O9,if_false,Instr.sameNow];congr 1;exact ByteArray_beq _ _
where
 ByteArray_beq (a b:List UInt8):((⟨a.toArray⟩:ByteArray)==⟨b.toArray⟩)=(a==b):=by have:=beq_toListBytes (⟨a.toArray⟩:ByteArray) ⟨b.toArray⟩;rw[this,ByteArray.toList_eq,ByteArray.toList_eq]
def awV{a b:List UInt8}(h:¬a=b):seq a b=false:=by unfold seq;exact beq_eq_false_iff_ne.2 h
def asl{kt:ae}{bF b3:kt.aD}(h:Hl kt bF b3=true):vG kt bF b3=false:=by
 cases kt<;>try(cases h)
 .simp only[Hl,aco,wx,decide_eq_false_iff_not]at h
  simp only[vG,ag,beq_eq_false_iff_ne];exact h
 simp only[Hl,agO,wx,decide_eq_false_iff_not]at h;exact awV h
def ZW{kt:ae}(ap:vH kt=true){key:kt.aD}{am:List Value}(ai:aH H kt key am):∀{l:List (kt.aD×au)} {es:List MapEntry} (i:Nat),k5 phx H B kt l es->(l.all λp=>Hl kt key p.1)=true ->
  Instr.findNow (t7 kt) (cv kt am) es i=some none
 |[],es,i,h,_=>by subst h;rfl
 |(k,v)::l,es,i,h,bu=>by obtain⟨e,es',rfl,⟨YF,O,R⟩,af,aq⟩:=h;simp only[uO,cM]at bu;simp only[Instr.findNow];rw[R,S5 ap ai O,asl bu.1];exact ZW ap ai (i+1) aq bu.2
def k5.push{kt:ae}{key:kt.aD}{am:List Value}{v:au}{val:Value}{n:Nat}(O:aH H kt key am)(R:dZ phx H B v val):∀{l:List (kt.aD×au)} {es:List MapEntry},k5 phx H B kt l es->k5 phx H B kt (l++[(key,v)]) (es++[⟨cv kt am,val,n⟩])
 |[],es,h=>by subst h;exact⟨_,[],rfl,⟨am,O,rfl⟩,R,rfl⟩
 |_::_,_,⟨e,es',h,af,aq,a8⟩=>⟨e,es'++[⟨cv kt am,val,n⟩],by rw[h];rfl,af,aq,k5.push O R a8⟩
def Ep{v:au}{x:Value}(h:a? phx H B v x)(aL:∀a,v ≠ .tup a):dZ phx H B v x:=by cases v<;>first|exact h|exact absurd rfl (aL _)
def ads{v:au}(h:vT v=true):∀a,v ≠ .tup a:=by rintro a rfl;cases h
def afi{w:World}{r:Nat}{es:Array MapEntry}{KA:Nat}(Y:w.heap[r]?=some (.map es KA)):(getObj r).run P w=.ok (.map es KA) w:=by simp[getObj,Sem.run,Y]
def awF{w:World}{r:Nat}{es:Array MapEntry}{KA:Nat}(o:Obj)(Y:w.heap[r]?=some (.map es KA)):(setObj r o).run P w=.ok () { w with heap:=w.heap.setIfInBounds r o }:=by simp[setObj,Sem.run,Y]
def acn{q:ae×ae}{t vI N_:TypeId}{m k v r:au}{VZ Jb s_:Value}(h:(LU q m k v).aY g B=some (r,B'))(aL:P.underlying t=some (.map vI N_))
  (aqf:(cP P q.1).1 vI) (hm:Mem K w0 phx M B w)
  (GV:a? phx (view w M) B m VZ) (rh:a? phx (view w M) B k Jb) (zS:a? phx (view w M) B v s_) :
  r=.undef/\∃w' ay,(Instr.mapUpdate t VZ Jb s_).run P w=.ok () w'/\Mem K w0 phx ay B' w'/\cm phx M B w phx ay B' w':=by
 unfold LU at h;cases m<;>try(cases h;done)
 rename_i id;simp only[aw.aY]at h;have ac:bM phx (view w M) B (.mpp id) VZ:=GV;have dD:=hm.blks id;simp only[bM]at ac;generalize aB:B id=bl at h ac dD;cases bl<;>try(cases h;done)
 rename_i kt vt l;simp only at h;replace h:=aw.cA h;obtain⟨key,cS,O,h⟩:=h;obtain⟨pF,rfl⟩:=dE O;replace h:=aw.cA h;obtain⟨_,b4,R,h⟩:=h;obtain⟨aj,rfl⟩:=kD R;simp only[cM]at aj;obtain⟨⟨a2,n1⟩,vu⟩:=aj;have aj:=And.intro n1 vu;cases h;obtain⟨am,vl,rfl⟩:=nA pF rh;obtain⟨b,hb1,rfl⟩:=ac;obtain⟨b',es,m',hb2,hb3,Gt,RX⟩:=dD;rw[hb1]at hb2;cases hb2;have hf:(cP P kt).1 vI:=by rw[eD a2];exact aqf
 have GN:=L3 aj.1 hf;have GI:(Instr.findKey vI (cv kt am) es.toList).run P w=.ok none w:=by simp[Instr.findKey,run_underlying GN,ZW aj.1 vl 0 Gt aj.2.2]
 have Gz:=S4 aj.1 hf vl false w
 let w':World:={ w with heap:=w.heap.setIfInBounds b (.map (es.push { key:=cv kt am,val:=s_,born:=m' }) (m'+1)) }
 have bm:b<w.heap.size:=(ip.1 hb3).1;have jS:(Instr.mapUpdate t (.map (some b)) (cv kt am) s_).run P w=.ok () w':=by simp only[Instr.mapUpdate,Sem.run_bind,run_underlying aL,Result.andThen_ok,afi hb3,Gz,GI];simp only[awF _ hb3];rfl
 have ap6:w'.heap[b]?=some (.map (es.push { key:=cv kt am,val:=s_,born:=m' }) (m'+1)):=by simp[w',bm]
 obtain⟨bD,e1⟩:=hm.put (id:=id) (x:=(b,0,0)) (w':=w') (by rw[aB];rfl) hb1 RX rfl rfl rfl (by simp[w']) (λj an=>by simp[w',BG (nI an)]) (.mp kt vt (l++[(key,v)])) (by rw[aB];exact⟨rfl,rfl⟩) λaA=>by refine⟨b,_,m'+1,hb1,ap6,?_,RX⟩;rw[Array.toList_push];exact(Gt.mono aA.pl aA.vw aA.bl).push (vl.mono aA.vw) ((Ep zS (ads aj.2.1)).mono aA.pl aA.vw aA.bl)
 exact⟨rfl,w',M,jS,bD,e1⟩
def oV(ok:Bool)(v:Value)(b:Bool):Value:=if ok then .tuple #[v,.bool b]else v
def x6{v b:au}{x:Value}(O:dZ phx H B v x)(R:dZ phx H B b (.bool c)):a? phx H B (x5 ok v b) (oV ok x c):=by
 cases ok with
 |false =>cases v<;>first|exact O|exact O.elim
 |true =>exact⟨[x,.bool c],⟨x,[.bool c],rfl,O,.bool c,[],rfl,R,rfl⟩,rfl⟩
def dZ.ax0{v:au}{x:Value}(h:dZ phx H B v x):a? phx H B v x:=by cases v<;>first|exact h|exact h.elim
def aao{kt vt:ae}(ap:vH kt=true){ok:Bool}{key:kt.aD}{am:List Value}(ai:aH H kt key am):∀{l:List (kt.aD×au)} {es:List MapEntry} (i:Nat) {r:au},k5 phx H B kt l es->(Lj kt vt ok key l).aY g B=some (r,B') ->
  B'=B/\((∃j val,Instr.findNow (t7 kt) (cv kt am) es i=some (some (j,val))/\a? phx H B r (oV ok val true)) \/
   (Instr.findNow (t7 kt) (cv kt am) es i=some none/\a? phx H B r (oV ok (cv vt (dz vt)) false)))
 |[],es,i,r,h,ah=>by subst h;cases ah;exact⟨rfl,.inr ⟨rfl,x6 (Ep (Bz (yG vt)) (λa=>by cases vt<;>simp[m0,p4])) rfl⟩⟩
 |(k,v)::l,es,i,r,h,ah=>by
  obtain⟨e,es',rfl,⟨YF,O,R⟩,af,aq⟩:=h;simp only[Lj,aw.aY]at ah;simp only[Instr.findNow];rw[R,S5 ap ai O];cases CY:vG kt key k with
  |true =>rw[CY]at ah;cases ah;exact⟨rfl,.inl ⟨i,e.val,rfl,x6 af rfl⟩⟩
  |false =>rw[CY]at ah;exact aao ap ai (i+1) aq ah
def Y3{kt vt:ae}(ap:vH kt=true){key:kt.aD}{am:List Value}(ai:aH H kt key am):∀{l:List (kt.aD×au)} {et:List (kt.aD×vt.aD)} {es:List MapEntry} (i:Nat),k5 phx H B kt l es->B1 kt vt l=some et ->
  (∃j val,Instr.findNow (t7 kt) (cv kt am) es i=some (some (j,val))/\dZ phx H B (.sc vt (D6 kt vt key et)) val/\CP kt vt key et=true) \/
   (Instr.findNow (t7 kt) (cv kt am) es i=some none/\dZ phx H B (.sc vt (D6 kt vt key et)) (cv vt (dz vt))/\CP kt vt key et=false)
 |[],et,es,i,h,hx=>by subst h;cases hx;exact .inr ⟨rfl,⟨_,aH.zero _ _,rfl⟩,rfl⟩
 |(k,v)::l,et,es,i,h,hx=>by
  obtain⟨e,es',rfl,⟨YF,O,R⟩,af,aq⟩:=h;simp only[B1]at hx;cases aC:ie vt v with
  |none=>rw[aC]at hx;cases hx
  |some x=>
   cases hl:B1 kt vt l with
   |none=>rw[aC,hl]at hx;cases hx
   |some bs=>
    rw[aC,hl]at hx;cases hx;simp only[Instr.findNow];rw[R,S5 ap ai O];have a2:=Ep (nA aC af.ax0) (λa h=>by cases h);cases CY:vG kt key k with
    |true=>exact .inl ⟨i,e.val,rfl,by simp only[D6,CY];exact a2,by simp[CP,CY,T]⟩
    |false =>have:=Y3 (vt:=vt) ap ai (i+1) aq hl;simp only[D6,CP,CY];exact this
def asO{E:db}(g3:qA P E.M){tid:TypeId}{x k r:au}{gU Jb:Value}(h:(Ti E tid x k ok).aY g B=some (r,B'))(hm:Mem K w0 phx M B w)
  (mb:a? phx (view w M) B x gU) (rh:a? phx (view w M) B k Jb):B'=B/\∃v,(Instr.lookup tid gU Jb ok).run P w=.ok v w/\a? phx (view w M) B r v:=by
 unfold Ti at h;replace h:=aw.cA h;obtain⟨p,cS,O,h⟩:=h;obtain⟨hp,rfl⟩:=dE O;obtain⟨vI,N_,aL,xn,oN⟩:=g3 _ _ hp;have bj:=A0 oN w;cases x<;>try(cases h;done)
 case mpp id=>
  simp only[aw.aY]at h;have ac:bM phx (view w M) cS (.mpp id) gU:=mb;have dD:=hm.blks id;simp only[bM]at ac;generalize aB:cS id=bl at h ac dD;cases bl<;>try(cases h;done)
  rename_i kt vt l;simp only at h;replace h:=aw.cA h;obtain⟨_,b4,R,h⟩:=h;obtain⟨aj,rfl⟩:=kD R;simp only[cM]at aj;have e1:=eD aj.1;subst e1;have aN:=eD aj.2.1;subst aN;replace h:=aw.cA h;obtain⟨key,uJ,af,h⟩:=h;obtain⟨pF,rfl⟩:=dE af;obtain⟨am,vl,rfl⟩:=nA pF rh;obtain⟨b,hb1,rfl⟩:=ac;obtain⟨b',es,m',hb2,hb3,Gt,RX⟩:=dD;rw[hb1]at hb2;cases hb2;have GN:=L3 aj.2.2 xn;have Gz:=λc=>S4 aj.2.2 xn vl c w;have run:∀o,Instr.findNow (t7 p.1) (cv p.1 am) es.toList 0=some o->(Instr.lookup tid (.map (some b)) (cv p.1 am) ok).run P w=.ok (match o with|some (_,v)=>oV ok v true|none=>oV ok (cv p.2 (dz p.2)) false) w:=by
   intro o aK;have GI:(Instr.findKey vI (cv p.1 am) es.toList).run P w=.ok o w:=by simp[Instr.findKey,run_underlying GN,aK]
   simp only[Instr.lookup,Sem.run_bind,run_underlying aL,Result.andThen_ok,afi hb3,Sem.run_pure,Gz,GI];cases o with
   |none=>simp[bj,oV]
   |some q=>simp[oV]
  unfold ZU at h;cases bu:B1 p.1 p.2 l with
  |none=>
   rw[bu]at h;obtain⟨ne,h⟩:=aao aj.2.2 vl 0 Gt h;refine⟨ne,?_⟩;rcases h with⟨j,val,bG,b_⟩|⟨bG,b_⟩
   .exact⟨_,run _ bG,b_⟩
   exact⟨_,run _ bG,b_⟩
  |some et=>
   rw[bu]at h;cases h;refine⟨rfl,?_⟩;rcases Y3 (vt:=p.2) aj.2.2 vl 0 Gt bu with⟨j,val,bG,b_,cp⟩|⟨bG,b_,cp⟩
   .exact⟨_,run _ bG,x6 b_ ⟨_,aH.nP.2 (by rw[cp]),rfl⟩⟩
   exact⟨_,run _ bG,x6 b_ ⟨_,aH.nP.2 (by rw[cp]),rfl⟩⟩
 case sc t y=>
  cases t<;>try(cases h;done)
  rename_i jm;have GO:jm=2:=by
   refine k2 λai => ?_;match jm,ai,h with
   |0,_,h=>cases h
   |1,_,h=>cases h
   |2,ai,_=>exact ai rfl
   |n+3,_,h=>cases h
  subst GO;simp only at h;replace h:=aw.cA h;obtain⟨_,b4,R,h⟩:=h;obtain⟨aj,rfl⟩:=kD R;replace h:=aw.cA h;obtain⟨key,uJ,af,h⟩:=h;obtain⟨pF,rfl⟩:=dE af;cases h;obtain⟨am,vl,rfl⟩:=nA pF rh;obtain⟨cs,lK,rfl⟩:=mb;have:=aH.vW.1 lK;subst this;have GN:=L3 aj xn;have Gz:=S4 aj xn vl true w;refine⟨rfl,oV ok (cv p.2 (dz p.2)) false,?_,x6 (Ep (Bz (yG _)) (λa=>by cases p.2<;>simp[m0,p4])) rfl⟩;show(Instr.lookup tid (.map none) (cv p.1 am) ok).run P w=_;have GI:(Instr.findKey vI (cv p.1 am) []).run P w=.ok none w:=by simp[Instr.findKey,run_underlying GN,Instr.findNow]
  simp only[Instr.lookup,Sem.run_bind,run_underlying aL,Result.andThen_ok,Sem.run_pure];simp[Gz,GI,bj,oV]
def VS{t:ae}{tid:TypeId}(hf:(cP P t).1 tid)(aj:ae.is t (.op 1)=false):∃d,P.underlying tid=some d/\∀vO,d ≠ .interface vO:=by
 cases t with
 |bool=>exact⟨_,hf.1,bh⟩
 |int k=>exact⟨_,hf.1,bh⟩
 |str=>exact⟨_,hf.1,bh⟩
 |sl e=>obtain⟨⟨bc,h,_⟩,_⟩:=hf;exact⟨_,h,bh⟩
 |unit=>obtain⟨⟨bc,h,_⟩,_⟩:=hf;exact⟨_,h,bh⟩
 |pair a b=>obtain⟨⟨bc,h,_⟩,_⟩:=hf;exact⟨_,h,bh⟩
 |ar n e=>obtain⟨⟨bc,h,_⟩,_⟩:=hf;exact⟨_,h,bh⟩
 |op k=>
  have h:=hf.1;match k,h,aj with
  |0,⟨_,_,_,h⟩,_=>exact⟨_,h,bh⟩
  |2,⟨_,_,h⟩,_=>exact⟨_,h,bh⟩
  |3,⟨_,h⟩,_=>exact⟨_,h,bh⟩
 |fn l=>obtain⟨⟨_,_,_,h⟩,_⟩:=hf;exact⟨_,h,bh⟩
def asX{t:ae}{tid:TypeId}(hf:(cP P t).1 tid)(aj:ae.is t (.op 1)=false)(x:Value)(w:World):(Instr.makeInterface tid x).run P w=.ok (.iface tid x) w:=by obtain⟨d,aL,aF⟩:=VS hf aj;simp only[Instr.makeInterface,Sem.run_bind,run_underlying aL];simp
def ai7{E:db}(hT:mV P E.b8){tr xT:TypeId}{x r:au}{gU:Value}(h:(W7 E tr x ok).aY g B=some (r,B'))(ah:a? phx H B x gU)(w:World):
  B'=B/\∃v,(Instr.typeAssert gU xT tr ok).run P w=.ok v w/\a? phx H B r v:=by
 have zero:∀{t:ae},dZ phx H B (p4 t (m0 t)) (cv t (dz t)):=fun{t}=>Ep (Bz (yG t)) (λa=>by cases t<;>simp[m0,p4]);cases x<;>try(cases h)
 case ifc tid t y=>
  replace h:=aw.cA h;obtain⟨t',cS,O,h⟩:=h;obtain⟨ht,rfl⟩:=dE O;obtain⟨cs,lK,rfl⟩:=ah;cases hi:ae.is t' (.op 1) with
  |true=>rw[hi]at h;cases h
  |false=>
   rw[hi]at h;have hf:=hT _ _ ht;obtain⟨d,aL,aF⟩:=VS hf hi;have bj:=A0 hf w;cases Y:Nat.beq tid tr with
   |true =>rw[Y]at h;cases h;have:=fy Y;subst this;refine⟨rfl,oV ok (cv t cs) true,?_,x6 ⟨cs,lK,rfl⟩ rfl⟩;simp only[Instr.typeAssert,Sem.run_bind,run_underlying aL];cases d<;>first|exact absurd rfl (aF _)|(simp[oV])
   |false=>
    rw[Y]at h;cases ok with
    |false=>cases h
    |true=>
     cases h;refine⟨rfl,oV true (cv t' (dz t')) false,?_,x6 zero rfl⟩;have eC:¬tid=tr:=λe=>by rw[e,BS]at Y;cases Y
     simp only[Instr.typeAssert,Sem.run_bind,run_underlying aL];cases d<;>first|exact absurd rfl (aF _)|(simp[oV,eC,bj])
 case sc t y=>
  cases t<;>try(cases h)
  rename_i jm;have GO:jm=1:=by
   refine k2 λai => ?_;match jm,ai,h with
   |1,ai,_=>exact ai rfl
  subst GO;replace h:=aw.cA h;obtain⟨t',cS,O,h⟩:=h;obtain⟨ht,rfl⟩:=dE O;obtain⟨cs,lK,rfl⟩:=ah;have:=aH.vW.1 lK;subst this;cases hi:ae.is t' (.op 1) with
  |true=>rw[hi]at h;cases h
  |false=>
   rw[hi]at h;have hf:=hT _ _ ht;obtain⟨d,aL,aF⟩:=VS hf hi;have bj:=A0 hf w;cases ok with
   |false=>cases h
   |true =>cases h;refine⟨rfl,oV true (cv t' (dz t')) false,?_,x6 zero rfl⟩;show(Instr.typeAssert .nilIface xT tr true).run P w=_;simp only[Instr.typeAssert,Sem.run_bind,run_underlying aL];cases d<;>first|exact absurd rfl (aF _)|(simp[oV,bj])
end
end Yp
namespace Yp
open Go
def wD:=@Array.getElem?_toList
variable {P:Program}
section
variable {K:Kp} {w0 w:World} {phx:cc} {M:Nat->Prop} {B B':Nat->aQ} {g:Nat->au} {H:cg}
def ai1{v:au}{n:Int}{x:Value}(h:(y6 v).aY g B=some (n,B'))(ah:a? phx H B v x):B'=B/\∃k,x=.int k n:=by
 cases v<;>try(cases h)
 rename_i t y;cases t<;>try(cases h;done)
 rename_i k;cases h;exact⟨rfl,k,ah.int⟩
def ar4{t:ae}(h:acr t=true):∃e,t=.sl e:=by cases t<;>first|exact⟨_,rfl⟩|cases h
def jx.args:∀{l:List il} {vs:List Value},jx phx H B l vs->gi phx H B (l.map il.pv) vs
 |[],vs,h=>by subst h;trivial
 |c::l,vs,h=>by obtain⟨v,d3,rfl,O,R⟩:=h;refine⟨?_,R.args⟩;cases c<;>exact O
def gi.bv:∀{aZ aeI:List au} {vs us:List Value},gi phx H B aZ vs->gi phx H B aeI us->gi phx H B (aZ++aeI) (vs++us)
 |[],_,[],_,_,h=>h
 |_::_,_,_::_,_,h,k=>⟨h.1,gi.bv h.2 k⟩
def jx.take:∀(n:Nat) {l:List il} {vs:List Value},jx phx H B l vs->jx phx H B (l.take n) (vs.take n)/\jx phx H B (l.drop n) (vs.drop n)
 |0,_,_,h=>⟨rfl,h⟩
 |n+1,[],vs,h=>by have h:vs=[]:=h;subst h;exact⟨rfl,rfl⟩
 |n+1,c::l,vs,h=>by obtain⟨v,d3,rfl,O,R⟩:=h;obtain⟨bF,b3⟩:=jx.take n R;exact⟨⟨v,_,rfl,O,bF⟩,b3⟩
def Qt{dQ:Nat}{cW:List il}{aZ:List au}{us vs:List Value}(aA:jx phx H B cW us)(hp:gi phx H B aZ vs):gi phx H B (u3 dQ cW aZ) (us.take dQ++(vs++us.drop dQ)):=by obtain⟨bF,b3⟩:=jx.take dQ aA;exact gi.bv bF.args (gi.bv hp b3.args)
def ami{p:au}{c:il}{x:Value}(h:(Cj p).aY g B=some (c,B'))(hm:Mem K w0 phx M B w)(ah:a? phx (view w M) B p x):
  ∃ay,Mem K w0 phx ay B' w/\cm phx M B w phx ay B' w/\uS phx (view w ay) B' c x:=by
 cases p<;>try(cases h;done)
 case ptr id p=>cases h;exact⟨M,hm,cm.refl _ _ _ _,ah⟩
 case sc t y=>cases h;exact⟨M,hm,cm.refl _ _ _ _,ah⟩
 case kb b =>cases h;subst ah;exact⟨M,hm,cm.refl _ _ _ _,a?.ud phx _ B b⟩
 case agg t u =>obtain⟨y,cS,O,R⟩:=aw.cA h;cases R;obtain⟨cs,rfl,ay,bD,e1,_,_,f2⟩:=ym O hm ah;exact⟨ay,bD,e1,cs,f2 rfl,rfl⟩
 case clo f dQ cW=>
  cases cW with
  |nil =>cases h;obtain⟨vs,aC,rfl⟩:=ah;subst aC;exact⟨M,hm,cm.refl _ _ _ _,[_],aH.F8.2 rfl,by simp[cv,ae.isAgg,sg]⟩
  |cons c r=>cases h
def Y2:∀{aZ:List au} {cs:List il} {vs:List Value} {M:Nat->Prop} {B B':Nat->aQ},(lO Cj aZ).aY g B=some (cs,B')->Mem K w0 phx M B w->gi phx (view w M) B aZ vs ->
  ∃ay,Mem K w0 phx ay B' w/\cm phx M B w phx ay B' w/\jx phx (view w ay) B' cs vs
 |[],cs,[],M,B,B',h,hm,_=>by cases h;exact⟨M,hm,cm.refl _ _ _ _,rfl⟩
 |p::aZ,cs,v::vs,M,B,B',h,hm,hp=>by replace h:=aw.cA h;obtain⟨c,cS,O,h⟩:=h;replace h:=aw.cA h;obtain⟨ji,b4,R,h⟩:=h;cases h;obtain⟨fr,bD,e1,eG⟩:=ami O hm hp.1;obtain⟨c8,cn,aN,gr⟩:=Y2 R bD (hp.2.ext e1);exact⟨c8,cn,e1.trans aN,v,vs,rfl,eG.mono aN.pl aN.vw aN.bl,gr⟩
def gi.length:∀{aZ:List au} {vs:List Value},gi phx H B aZ vs->aZ.length=vs.length
 |[],[],_=>rfl
 |_::_,_::_,h=>by simp[gi.length h.2]
 |[],_::_,h=>h.elim
 |_::_,[],h=>h.elim
def Yz{E:db}(dA:ot P E K w0){d:Nat}:∀{l:List Nat} {x:Nat} {aZ:List au} {vs:List Value} {v:au},(Kv E d l x aZ).aY g B=some (v,B')->Mem K w0 phx M B w->gi phx (view w M) B aZ vs ->
  ∃f,sg l x=.func (.func f) #[] #[]/\rV P f/\Calls P f vs.toArray w λe w'=>∃b2,e=.returned b2/\dq K w0 phx M B w B' v b2 w'
 |[],x,aZ,vs,v,h,hm,dd=>by cases h
 |[f],x,aZ,vs,v,h,hm,dd=>by replace h:=iK h;obtain⟨hx,h⟩:=h;have hx:x=1:=fy hx;subst hx;exact⟨f,rfl,Qg dA h hm dd⟩
 |f::u6::r,x,aZ,vs,v,h,hm,dd=>by
  simp only[Kv,aw.aY]at h;cases hx:bZ x 1 with
  |true =>rw[hx,if_pos rfl]at h;have hx:x=1:=fy hx;subst hx;exact⟨f,rfl,Qg dA h hm dd⟩
  |false=>
   rw[hx,if_neg bh]at h;obtain⟨q,O,R⟩:=Yz dA h hm dd;refine⟨q,?_,R⟩;match x,hx,O with
   |0,_,O=>simp[cd,sg]at O
   |1,hx,_=>simp[bZ]at hx
   |n+2,_,O=>simpa[cd,sg]using O
def Zl{t e:ae}(h:QX t=some e):t=.sl e:=by
 cases t<;>try(cases h;done)
 exact congrArg ae.sl (lZ h)
def dZ.axZ{v:au}{x:Value}(h:dZ phx H B v x)(aL:∀a,v ≠ .tup a):a? phx H B v x:=by cases v<;>first|exact h|exact absurd rfl (aL _)
def gL{x:Operand}{f:au->aw α}{r:α×(Nat->aQ)}(h:((ea x).bind f).aY g B=some r){a:Act}(ac:dw phx H B g a):∃v,a? phx H B v (a.eval x)/\(f v).aY g B=some r:=by
 obtain⟨v,cS,O,R⟩:=aw.cA h;obtain⟨e,aC⟩:=xP O ac
 grind
def lj{o:Option β}{f:β->aw α}{r:α×(Nat->aQ)}(h:((aw.opt o).bind f).aY g B=some r):∃v,o=some v/\(f v).aY g B=some r:=by
 obtain⟨v,cS,O,R⟩:=aw.cA h;obtain⟨aC,e⟩:=dE O
 grind
def J4{p:au}{f:Int->aw α}{r:α×(Nat->aQ)}(h:((y6 p).bind f).aY g B=some r){x:Value}(ah:a? phx H B p x):∃n k,x=.int k n/\(f n).aY g B=some r:=by
 obtain⟨v,cS,O,R⟩:=aw.cA h;obtain⟨e,k,aC⟩:=ai1 O ah
 grind
def TV{o:Option Operand}{f:Option Int->aw α}{r:α×(Nat->aQ)}(h:((HX o).bind f).aY g B=some r){a:Act}(ac:dw phx H B g a):∃n k,o.map a.eval=(n.map λi=>.int k i)/\(f n).aY g B=some r:=by
 obtain⟨v,cS,O,R⟩:=aw.cA h;obtain⟨e,k,aC⟩:=auj O ac
 grind
def adf{b:Bool}{f:Unit->aw α}{r:α×(Nat->aQ)}(h:((aw.need b).bind f).aY g B=some r):b=true/\(f ()).aY g B=some r:=by
 obtain⟨v,cS,O,R⟩:=aw.cA h;obtain⟨aC,e⟩:=kD O
 grind
def ajT{E:db}(hT:mV P E.b8){b:Builtin}{eg:Array TypeId}{aZ:List au}{vs:List Value}{v:au}(h:(PJ E d b eg.toList aZ).aY g B=some (v,B'))(hm:Mem K w0 phx M B w)
  (dd:gi phx (view w M) B aZ vs) (ty:TypeId) (cs:Array Bool):∃r w',(Go.builtin b eg ty cs vs.toArray).run P w=.ok (.value r) w'/\dq K w0 phx M B w B' v r w':=by
 unfold PJ at h;split at h
 ·
  split at h
  .rename_i t ts a tP
   obtain⟨fV,cS,O,R⟩:=aw.cA h;obtain⟨ht,rfl⟩:=dE O;match vs,dd with
   |[ck],dd=>
    have ao:eg[0]?=some t:=by rw[<- wD,tP];rfl
    obtain⟨aB,r,af,aq⟩:=asJ (P:=P) (hT _ _ ht) R dd.1 ao ty;exact⟨r,w,by simp[Go.builtin,af],dq.same hm aB aq⟩
  cases h
 ·
  split at h
  .rename_i t ts tP
   replace h:=aw.cA h;obtain⟨fV,cS,O,h⟩:=h;obtain⟨ht,rfl⟩:=dE O;replace h:=gx h;obtain⟨qw,h⟩:=h;obtain⟨e,rfl⟩:=ar4 qw;cases h;match vs,dd with
   |[ck],dd=>
    have ao:eg[0]?=some t:=by rw[<- wD,tP];rfl
    have G2:=dd.1;subst G2;obtain⟨⟨bc,aL,_⟩,_⟩:=hT _ _ ht;refine⟨goInt 0,w,by simp[Go.builtin,Builtin.cap_,ao,run_underlying aL],dq.same hm rfl (a?.ue _ 0)⟩
  cases h
 ·
  split at h
  .rename_i t u s x tP
   split at h
   .rename_i e ht aL
    match vs,dd with
    |[vs,gU],dd=>
     have zB:=by apply m3;exact tP
     subst zB;split at h
     .rename_i n _
      replace h:=iK h;obtain⟨ai,h⟩:=h;simp only[cZ,cM]at ai;obtain⟨dB,gg,rfl,rfl⟩:=vS h;have G2:=dd.1;have arl:=dd.2.1.int;subst G2;subst arl;obtain⟨r,w',af,aq⟩:=aiW (ty:=ty) dB (hT _ _ ht) (hT _ _ aL).1 (n:=(n:Int)) (by have:=ai.1;simpa[bE]using this) ai.2 gg hm;have af:(Builtin.append_ #[t,u] ty #[.slice none 0 0,.int .i64 (bH.to .i64 n)]).run P w=.ok r w':=af;exact⟨r,w',by simp[Go.builtin,af],aq⟩
     cases h
   .rename_i e az5 aL ht pJ
    replace h:=gx h;obtain⟨a2,h⟩:=h;match vs,dd with
    |[vs,gU],dd=>
     have zB:=by apply m3;exact tP
     subst zB;obtain⟨r,w',af,aq⟩:∃r w',(Builtin.append_ #[t,u] ty #[vs,gU]).run P w=.ok r w'/\dq K w0 phx M B w B' v r w':=by
      cases dn:E.A with
      |true=>rw[dn]at h;exact aiU (ty:=ty) (hT _ _ ht) (hT _ _ pJ) a2 h hm dd.1 dd.2.1
      |false=>rw[dn]at h;exact aiV (ty:=ty) (hT _ _ ht) (hT _ _ pJ) a2 h hm dd.1 dd.2.1
     exact⟨r,w',by simp[Go.builtin,af],aq⟩
   cases h
  cases h
 ·
  split at h
  .rename_i t u a x tP
   split at h
   .rename_i e aN ht aL
    match vs,dd with
    |[ck,gU],dd=>
     have zB:=by apply m3;exact tP
     subst zB;obtain⟨r,w',af,aq⟩:=amd (uid:=u) (ty:=ty) (hT _ _ ht) h hm dd.1 dd.2.1;exact⟨r,w',by simp[Go.builtin,af],aq⟩
   cases h
  cases h
 ·
  split at h
  .rename_i t a tP
   split at h
   .rename_i e ht
    match vs,dd with
    |[ck],dd=>
     have zB:=by apply m3;exact tP
     subst zB;obtain⟨r,w',af,aq⟩:=al1 (ty:=ty) (hT _ _ ht) h hm dd.1;exact⟨r,w',by simp[Go.builtin,af],aq⟩
   cases h
  cases h
 ·
  split at h
  .rename_i a b
   cases h;match vs,dd with
   |[ck,s8],dd =>obtain⟨O,R,_⟩:=dd;have e1:=O.int;have aN:=R.int;subst e1;subst aN;refine⟨_,w,by rfl,dq.same hm rfl ?_⟩;exact a?.sI _ _ _ .i64 (fC a b)
  cases h
 ·
  split at h
  .rename_i a b
   cases h;match vs,dd with
   |[ck,s8],dd =>obtain⟨O,R,_⟩:=dd;have e1:=O.int;have aN:=R.int;subst e1;subst aN;refine⟨_,w,by rfl,dq.same hm rfl ?_⟩;exact a?.sI _ _ _ .i64 (cU a b)
  cases h
 cases h
def au6{v:au}{x:Value}(ah:a? phx H B v x){r:au}(h:(Ml v).aY g B=some (r,B')):B'=B/\r=v/\((∃a,x=.pointer (some a))\/∃f a b,x=.func (.func f) a b):=by
 cases v<;>try(cases h;done)
 case ptr id p=>
  simp only[Ml,aw.aY]at h;have ac:bM phx H B (.ptr id p) x:=ah;simp only[bM]at ac;generalize aB:B id=bl at h ac;cases bl<;>try(cases h;done)
  cases h
  grind
 case opt id i p=>
  simp only[Ml,aw.aY]at h;have ac:bM phx H B (.opt id i p) x:=ah;simp only[bM]at ac;generalize aB:B id=bl at h ac;cases bl<;>try(cases h;done)
  all_goals
   cases h
   grind
 case ipt e l i p =>cases h;obtain⟨hi,b,o,cap,off,t',O,R,rfl⟩:=ah;simp
 case clo f dQ cW =>cases h;obtain⟨vs,_,rfl⟩:=ah;simp
def atK{a:Act}{y:Operand}(h:Mw y=true):∀k n,a.eval y=.int k n->n≠0:=by
 unfold Mw at h;split at h
 .intro k n aj;obtain⟨_,rfl⟩:=aj;simp;omega
 .intro k n aj;obtain⟨_,rfl⟩:=aj;simp
 cases h
def atx{a:Act}{y:Operand}(h:Mp y=true):∀k n,a.eval y=.int k n->0<=n:=by
 unfold Mp at h;split at h
 .intro k n aj;obtain⟨_,rfl⟩:=aj;simp
 cases h
def am5{p:au}{v:au}(h:(F1 p i).aY g B=some (v,B')){x:Value}(ah:a? phx H B p x):∀a,v ≠ .tup a:=by
 rintro a rfl;unfold F1 at h;split at h
 .obtain⟨h,_⟩:=dE h
  obtain⟨vs,hl,rfl⟩:=ah;rename_i q;have key:∀(i:Nat) (q:au) (vs:List Value),iN q (gb i)=some (.tup a)->lD phx H B q vs->False:=by
   intro i;induction i with
   |zero=>
    intro q vs h hl;cases q<;>simp only[gb,iN]at h<;>try(cases h;done)
    .rename_i t y
     cases t<;>(try simp only[iN]at h)<;>cases h
    obtain⟨u,us,rfl,O,R⟩:=hl
    (try simp only[iN]at h);cases h
    exact O.elim
   |succ i ih=>
    intro q vs h hl;cases q<;>simp only[gb,iN]at h<;>try(cases h;done)
    .rename_i t y
     cases t<;>(try simp only[iN]at h)<;>try(cases h;done)
     exact hl.elim
    obtain⟨u,us,rfl,O,R⟩:=hl;exact ih _ _ h R
  exact key i _ vs h hl
 cases h
def gW(P:Program)(K:Kp)(w0:World)(phx:cc)(M:Nat->Prop)(B:Nat->aQ)(w:World)(B':Nat->aQ)(v:au)(s:Sem Next):Prop:=
 ∃r w',s.run P w=.ok (.value r) w'/\dq K w0 phx M B w B' v r w'
def gW.of{s:Sem Value}{v:au}{r:Value}{w':World}(h:s.run P w=.ok r w')(bu:dq K w0 phx M B w B' v r w'):gW P K w0 phx M B w B' v (do pure (.value (<- s))):=
 ⟨r,w',by simp[h],bu⟩
def gW.pure{v:au}{r:Value}(bu:dq K w0 phx M B w B' v r w):gW P K w0 phx M B w B' v (pure (.value r)):=⟨r,w,rfl,bu⟩
def Ol{c7:Option Nat}{f:Operand}{args:Array Operand}{eg:Array TypeId}{type:TypeId}{i_:String}{after:Array Edge}{CK:Option (Nat×Bool)}{a:Act}{zn:Nat}{first cap:Array Value}
  (hf:a.eval f=.func (.func zn) first cap) (vk:rV P zn) {Kn:Act->World->Prop} {Q:Exit->Act->World->Prop}
  (h:Calls P zn (first++args.map a.eval++cap) w λe w'=>∃b2,e=.returned b2/\Kn (a.put c7 b2) w'):Oper.wp P ⟨c7,.call ⟨.value f,args,eg⟩,type,i_,after,CK⟩ a w Kn Q:=by
 obtain⟨fn,c1,c2,hw⟩:=vk;have tQ:¬fn.body=none:=by intro Y;rw[Y]at c2;cases c2
 have Ft : ¬ fn.name = "runtime.NumGoroutine" := by simpa using hw
 have jS:(execOp a.eval ⟨c7,.call ⟨.value f,args,eg⟩,type,i_,after,CK⟩).run P w=.ok (.enter zn (first++args.map a.eval++cap)) w:=by simp only[execOp,resolve];simp[hf,Deferred.ofValue,invoke,callFunc,c1,Ft,tQ]
 unfold Oper.wp;rw[jS,Oper.upon_enter];refine h.mono ?_;rintro e w' ⟨b2,rfl,ap⟩;exact ap
def aoa{E:db}(dA:ot P E K w0){x:Operand}{f:au->aw α}{r:α×(Nat->aQ)}(h:((Rx E x).bind f).aY g B=some r)(hm:Mem K w0 phx M B w){a:Act}(ac:dw phx (view w M) B g a):
  ∃v,a? phx (view w M) B v (a.eval x)/\(f v).aY g B=some r:=by
 cases x with
 |global i=>
  simp only[Rx]at h;cases ap:E.K with
  |none=>rw[ap]at h;cases h
  |some k=>
   rw[ap]at h;simp only at h;cases Y:Nat.beq k i with
   |false=>rw[Y]at h;cases h
   |true =>rw[Y]at h;have:=fy Y;subst this;refine⟨_,?_,h⟩;have cx:=(dA.gk (.inr (.inr ⟨_,ap⟩))).keys hm k (dA.kn k ap);show bM phx (view w M) B (.ipt (.ar 64 (.int .u32)) [(pL:List (bH .u32))] 0 []) (.pointer (some ⟨k,0,none⟩));simp only[bM];exact⟨Nat.zero_lt_one,k,0,1,0,_,cx,rfl,bh⟩
 |tmp t=>exact gL h ac
 |const v=>exact gL h ac
 |func u6=>exact gL h ac
def atu{op:BinOp}{y:Operand}(h:HJ op y=true):op=.eql/\y=.const .nilIface:=by
 unfold HJ at h
 grind
def awB{tid:TypeId}{vO:Array (String×TypeId)}(aL:P.underlying tid=some (.interface vO))(t:Nat)(v:Value)(w:World):(Op.equal tid (.iface t v) .nilIface).run P w=.ok false w:=by show(Op.equalIn (9999+1) tid _ _).run P w=_;rw[Op.equalIn];simp only[Sem.run_bind,run_underlying aL];rfl
def awD{tid:TypeId}{vO:Array (String×TypeId)}(aL:P.underlying tid=some (.interface vO))(w:World):(Op.equal tid .nilIface .nilIface).run P w=.ok true w:=by show(Op.equalIn (9999+1) tid _ _).run P w=_;rw[Op.equalIn];simp only[Sem.run_bind,run_underlying aL];rfl
def arR{tid:TypeId}{t:ae}(ht:(cP P t).1 tid){a r:au}{ck:Value}(h:(LS t a).aY g B=some (r,B'))(dP:a? phx H B a ck)(x:Operand)(w:World):
  B'=B/\∃v,(do eqGuard .eql tid x (.const .nilIface) ck .nilIface;binOp .eql tid ck .nilIface:Sem Value).run P w=.ok v w/\a? phx H B r v:=by
 unfold LS at h;cases gH:ae.is t (.op 1) with
 |false=>rw[gH]at h;cases h
 |true=>
  have:=eD gH;subst this;obtain⟨vO,aL⟩:=ht.1;split at h
  .cases h
   obtain⟨cs,_,rfl⟩:=dP;have hg:∀v:Value,∀t,(eqGuard .eql tid x (.const .nilIface) (.iface t v) .nilIface).run P w=.ok () w:=λ_ _=>rfl;exact⟨rfl,.bool false,by simp[hg,binOp,awB aL],rfl⟩
  .cases h
   obtain⟨cs,ai,rfl⟩:=dP;subst ai;have hg:(eqGuard .eql tid x (.const .nilIface) .nilIface .nilIface).run P w=.ok () w:=by cases x<;>rfl
   exact⟨rfl,.bool true,by simp[hg,binOp,cv,ae.isAgg,An,awD aL],rfl⟩
  cases h
def TU{E:db}(hT:mV P E.b8)(cx:ps P E.b8 E.C)(g3:qA P E.M)(dA:ot P E K w0){o:Oper}{a:Act}{v:au}(h:(rv E o).aY g B=some (v,B'))(hm:Mem K w0 phx M B w)(ac:dw phx (view w M) B g a)
  {Kn:Act->World->Prop} {Q:Exit->Act->World->Prop} (ap:∀r w',dq K w0 phx M B w B' v r w'->Kn (a.put o.dst r) w'):o.wp P a w Kn Q:=by
 have gR:gW P K w0 phx M B w B' v (execOp a.eval o)->o.wp P a w Kn Q:=λ⟨r,w',O,R⟩=>ayL O (ap r w' R);obtain⟨c7,op,type,i_,after,CK⟩:=o;cases op<;>try(cases h)
 case move x =>obtain⟨aB,aC⟩:=xP h ac;exact gR (gW.pure (dq.same hm aB aC))
 case assign x =>obtain⟨aB,aC⟩:=xP h ac;exact gR (gW.pure (dq.same hm aB aC))
 case pick c x y =>replace h:=gL h ac;obtain⟨auJ,ai,h⟩:=h;replace h:=gL h ac;obtain⟨iF,hx,h⟩:=h;replace h:=gL h ac;obtain⟨aeD,hy,h⟩:=h;obtain⟨aB,cY,aq,a8⟩:=auQ (P:=P) h ai hx hy w;exact gR ⟨cY,w,aq,dq.same hm aB a8⟩
 case alloc t =>replace h:=lj h;obtain⟨ty,ht,h⟩:=h;replace h:=CC h;obtain⟨hid,h⟩:=h;cases h;obtain⟨r,w',O,R⟩:=aiO (hT _ _ ht) hid hm;exact gR (gW.of O R)
 case box t x =>replace h:=lj h;obtain⟨ty,ht,h⟩:=h;replace h:=gL h ac;obtain⟨iF,hx,h⟩:=h;obtain⟨_,cS,O,R⟩:=aw.cA h;obtain⟨e,cu,lL,sq⟩:=K8 O hx;rw[e]at R;obtain⟨hid,R⟩:=CC R;cases R;obtain⟨r,w',O,R⟩:=Xk (hT _ _ ht) hid hm lL sq;exact gR (gW.of O R)
 case build t parts=>
  replace h:=lj h;obtain⟨ty,ht,h⟩:=h;obtain⟨aZ,cS,O,R⟩:=aw.cA h;obtain⟨e,dd⟩:=T6 ac O;rw[e]at R;have C0:pk phx (view w M) B aZ (parts.map λ(i,x)=>(i,a.eval x)).toList:=by simpa using dd
  cases ty<;>try(cases R)
  case ar n e =>obtain⟨r,af,aq⟩:=ajS (hT _ _ ht) R hm C0;exact gR (gW.of af aq)
  case unit =>obtain⟨aB,r,af,aq⟩:=Xr rfl (hT _ _ ht) R C0 w;exact gR (gW.of af (dq.same hm aB aq))
  case pair x y =>obtain⟨aB,r,af,aq⟩:=Xr rfl (hT _ _ ht) R C0 w;exact gR (gW.of af (dq.same hm aB aq))
 case buildSlice t n parts=>
  replace h:=lj h;obtain⟨ty,ht,h⟩:=h;replace h:=lj h;obtain⟨e,aA,h⟩:=h;have:=Zl aA;subst this;obtain⟨aZ,cS,O,R⟩:=aw.cA h;obtain⟨QU,dd⟩:=T6 ac O;rw[QU]at R;have C0:pk phx (view w M) B aZ (parts.map λ(i,x)=>(i,a.eval x)).toList:=by simpa using dd
  cases sw:ae.is e (.op 3) with
  |true =>rw[sw,cond_true]at R;have:=eD sw;subst this;obtain⟨r,w',af,aq⟩:=au7 (hT _ _ ht) R hm C0;exact gR (gW.of af aq)
  |false =>rw[sw,cond_false]at R;obtain⟨r,w',af,aq⟩:=ajR (hT _ _ ht) R hm C0;exact gR (gW.of af aq)
 case load t x =>replace h:=lj h;obtain⟨ty,ht,h⟩:=h;replace h:=gL h ac;obtain⟨iF,hx,h⟩:=h;obtain⟨aB,r,af,aq⟩:=acJ (hT _ _ ht) h hm hx;exact gR (gW.of af (dq.same hm aB aq))
 case store t x y =>replace h:=lj h;obtain⟨ty,ht,h⟩:=h;replace h:=gL h ac;obtain⟨iF,hx,h⟩:=h;replace h:=gL h ac;obtain⟨aeD,hy,h⟩:=h;obtain⟨rfl,w',ay,af,aq,a8⟩:=axG (hT _ _ ht) h hm hx hy;exact Wa (w':=w') (by simp[execOp,af]) (ap _ _ ⟨phx,ay,aq,a8,rfl⟩)
 case nilCheck x=>
  replace h:=gL h ac;obtain⟨iF,hx,h⟩:=h;obtain⟨aB,rfl,aA⟩:=au6 hx h;refine gR ⟨a.eval x,w,?_,dq.same hm aB hx⟩;rcases aA with⟨ad,aA⟩|⟨f,cI,eS,aA⟩
  .simp only[execOp,aA];rfl
  simp only[execOp,aA];rfl
 case binOp op t x y yt=>
  change (bif HJ op y then(aw.opt (E.b8 t)).bind λty=>(ea x).bind λa=>LS ty a else(ea x).bind λa=>(ea y).bind λb=>Ka E (Mw y) (Mp y) op t a b:aw au).aY g B=_ at h;cases Sq:HJ op y with
  |true =>obtain⟨rfl,rfl⟩:=atu Sq;rw[Sq,cond_true]at h;replace h:=lj h;obtain⟨ty,ht,h⟩:=h;replace h:=gL h ac;obtain⟨iF,hx,h⟩:=h;obtain⟨aB,r,af,aq⟩:=arR (hT _ _ ht) h hx x w;exact gR (gW.of af (dq.same hm aB aq))
  |false=>
  rw[Sq,cond_false]at h;replace h:=gL h ac;obtain⟨iF,hx,h⟩:=h;replace h:=gL h ac;obtain⟨aeD,hy,h⟩:=h;obtain⟨aB,r,af,aq⟩:=ajw hT cx h hx hy (λbj=>atK bj) (λbj=>atx bj) x y w;exact gR (gW.of af (dq.same hm aB aq))
 case unOp op t x =>replace h:=gL h ac;obtain⟨iF,hx,h⟩:=h;obtain⟨aB,r,af,aq⟩:=aye (P:=P) h hx w;exact gR (gW.of af (dq.same hm aB aq))
 case convert s t x=>
  replace h:=gL h ac;obtain⟨iF,hx,h⟩:=h;unfold YU at h;replace h:=lj h;obtain⟨ts,arc,h⟩:=h;replace h:=lj h;obtain⟨ax6,ard,h⟩:=h;have e8:=hT _ _ arc;have dV:=hT _ _ ard;cases ax6<;>try(cases h;done)
  case int k=>
   cases iF<;>try(cases h;done)
   rename_i h5 pl;cases h5<;>try(cases h;done)
   rename_i k';cases h;have e:=hx.int;obtain⟨d,aF⟩:=anu e8;have ah:=awz (P:=P) (k:=k) (k':=k') aF dV.1 (bH.to k' pl) w;rw[<- e]at ah;refine gR (gW.of ah (dq.same hm rfl ?_));have:=a?.sI phx (view w M) B k (bH.of k (bH.to k' pl))
   rwa [bH.NX]at this
  case str=>
   cases ts<;>try(cases h;done)
   case str=>
    cases iF<;>try(cases h;done)
    rename_i h5 pl;cases h5<;>try(cases h;done)
    cases h;have e:=hx.str;refine gR (gW.of (r:=a.eval x) (w':=w) ?_ (dq.same hm rfl hx));rw[e];simp[convert,run_underlying e8.1,run_underlying dV.1]
   case sl e=>
    replace h:=gx h;obtain⟨Y,h⟩:=h;have aA:=by
     unfold z7 at Y;split at Y
     .rename_i qq;exact(ae.sl.inj qq)
     cases Y
    subst aA;obtain⟨l,cS,O,R⟩:=aw.cA h;cases R;obtain⟨aB,ah⟩:=ama (l:=l) e8 dV.1 O hm hx;exact gR (gW.of ah (dq.same hm aB (a?.Tq _ _ _ l)))
  case sl e=>
   cases ts<;>try(cases h;done)
   case sl bC=>
    cases iF<;>try(cases h;done)
    rename_i id d';cases d'<;>try(cases h;done)
    replace h:=gx h;obtain⟨Y,h⟩:=h;simp only[cM]at Y;have aA:=by
     have:=Y.1;unfold z7 at this;split at this
     .rename_i qq;exact(ae.sl.inj qq)
     cases this
    subst aA;have eL:=fy Y.2.2;subst eL;simp only[aw.aY]at h;generalize aB:B id=bl at h;cases bl<;>try(cases h;done)
    cases h;obtain⟨r,w',af,aq⟩:=amb (P:=P) dV aB hm hx;exact gR (gW.of af aq)
   cases iF<;>try(cases h;done)
   rename_i h5 pl;cases h5<;>try(cases h;done)
   replace h:=gx h;obtain⟨Y,h⟩:=h;have aA:=by
    unfold z7 at Y;split at Y
    .rename_i qq;exact(ae.sl.inj qq)
    cases Y
   subst aA;replace h:=iK h;obtain⟨fT,h⟩:=h;obtain⟨_,gg,rfl,rfl⟩:=vS h;have e:=hx.str;have cr:(pl:List UInt8).length*1<=140737488355328:=of_decide_eq_true fT;obtain⟨r,w',af,aq⟩:=amc (P:=P) (l:=pl) e8.1 dV gg J hm;rw[<- e]at af;exact gR (gW.of af aq)
 case makeSlice t l c =>replace h:=lj h;obtain⟨ty,ht,h⟩:=h;replace h:=lj h;obtain⟨e,aA,h⟩:=h;have:=Zl aA;subst this;replace h:=gL h ac;obtain⟨pl,hl,h⟩:=h;replace h:=J4 h hl;obtain⟨azS,kl,el,h⟩:=h;replace h:=gL h ac;obtain⟨auJ,ai,h⟩:=h;replace h:=J4 h ai;obtain⟨azQ,kc,amC,h⟩:=h;obtain⟨r,w',af,aq⟩:=asZ (kl:=kl) (kc:=kc) (hT _ _ ht) hm h;rw[<- el,<- amC]at af;exact gR (gW.of af aq)
 case slice t x lo hi qC=>
  replace h:=lj h;obtain⟨ty,ht,h⟩:=h;replace h:=gL h ac;obtain⟨iF,hx,h⟩:=h;replace h:=TV h ac;obtain⟨atw,Dd,amJ,h⟩:=h;replace h:=TV h ac;obtain⟨ats,Dc,amH,h⟩:=h;replace h:=TV h ac;obtain⟨adl,S7,amK,h⟩:=h;have key:∀{s:Sem Value},(∃r w',s.run P w=.ok r w'/\dq K w0 phx M B w B' v r w')->s=Instr.sliceAt t (a.eval x) (atw.map λi=>.int Dd i) (ats.map λi=>.int Dc i) (adl.map λi=>.int S7 i) ->
    Oper.wp P ⟨c7,.slice t x lo hi qC,type,i_,after,CK⟩ a w Kn Q:=by
   rintro s ⟨r,w',O,R⟩ rfl;refine gR ⟨r,w',?_,R⟩;simp only[execOp,amJ,amH,amK];simp[O]
  cases dn:E.A with
  |true=>
   rw[dn,cond_true]at h;cases ty<;>try(cases h;done)
   obtain⟨aB,r,af,aq⟩:=axm (P:=P) (hT _ _ ht) h hm hx Dd Dc S7;exact key ⟨r,w,af,dq.same hm aB aq⟩ rfl
  |false=>
  rw[dn,cond_false]at h;cases adl with
  |some m =>obtain⟨aB,r,af,aq⟩:=axl (P:=P) (hT _ _ ht) h hx Dd Dc S7;exact key ⟨r,w,af,dq.same hm aB aq⟩ rfl
  |none=>
   cases ty<;>try(cases h;done)
   case str=>
    cases iF<;>try(cases h;done)
    rename_i h5 pl;cases h5<;>try(cases h;done)
    have e:=hx.str;obtain⟨aB,r,af,aq⟩:=axo (P:=P) h (hT _ _ ht).1 Dd Dc (phx:=phx) (H:=view w M) w;exact key ⟨r,w,by rw[<- e]at af;exact af,dq.same hm aB aq⟩ rfl
   case sl e =>obtain⟨aB,r,af,aq⟩:=UY (P:=P) (hT _ _ ht) h hm hx Dd Dc;exact key ⟨r,w,af,dq.same hm aB aq⟩ rfl
   case ar n e =>obtain⟨aB,r,af,aq⟩:=axn (P:=P) (hT _ _ ht) h hm hx Dd Dc;exact key ⟨r,w,af,dq.same hm aB aq⟩ rfl
 case fieldAddr s x f =>replace h:=gL h ac;obtain⟨iF,hx,h⟩:=h;obtain⟨aB,r,af,aq⟩:=ane (P:=P) (λt ht=>hT _ _ ht) h hx;exact gR (gW.of af (dq.same hm aB aq))
 case field t x f =>replace h:=gL h ac;obtain⟨iF,hx,h⟩:=h;obtain⟨aB,r,af,aq⟩:=anj (P:=P) hT h hx;exact gR (gW.of af (dq.same hm aB aq))
 case indexAddr t x i =>replace h:=lj h;obtain⟨ty,ht,h⟩:=h;replace h:=aoa dA h hm ac;obtain⟨iF,hx,h⟩:=h;replace h:=gL h ac;obtain⟨auM,hi,h⟩:=h;replace h:=J4 h hi;obtain⟨n,k,KN,h⟩:=h;obtain⟨aB,r,af,aq⟩:=arT (P:=P) (k:=k) (hT _ _ ht) h hx;rw[<- KN]at af;exact gR (gW.of af (dq.same hm aB aq))
 case index t x i=>
  replace h:=lj h;obtain⟨ty,ht,h⟩:=h;replace h:=gL h ac;obtain⟨iF,hx,h⟩:=h;replace h:=gL h ac;obtain⟨auM,hi,h⟩:=h;replace h:=J4 h hi;obtain⟨n,k,KN,h⟩:=h;cases ty with
  |str=>
   have a2:∃l,iF=.sc .str l:=by
    cases iF<;>try(cases h;done)
    rename_i h5 pl;cases h5<;>first|exact⟨_,rfl⟩|cases h
   obtain⟨l,rfl⟩:=a2;have e:=hx.str;obtain⟨aB,r,af,aq⟩:=arV (P:=P) h (hT _ _ ht).1 k (phx:=phx) (H:=view w M) w;rw[<- KN,<- e]at af;exact gR (gW.of af (dq.same hm aB aq))
  |ar m e =>obtain⟨aB,r,af,aq⟩:=arU (P:=P) (hT _ _ ht) h hx k;rw[<- KN]at af;exact gR (gW.of af (dq.same hm aB aq))
  |_=>
   cases iF<;>try(cases h;done)
   rename_i h5 pl;cases h5<;>cases h
 case range t x=>
  replace h:=lj h;obtain⟨ty,ht,h⟩:=h;replace h:=adf h;obtain⟨hi,h⟩:=h;have:=eD hi;subst this;replace h:=gL h ac;obtain⟨iF,hx,h⟩:=h;cases iF<;>try(cases h;done)
  rename_i h5 pl;cases h5<;>try(cases h;done)
  replace h:=CC h;obtain⟨hid,h⟩:=h;cases h;have e:=hx.str;obtain⟨r,w',af,aq⟩:=avw (P:=P) (hT _ _ ht).1 hid (l:=pl) hm;rw[<- e]at af;exact gR (gW.of af aq)
 case next x b=>
  cases b<;>try(cases h;done)
  replace h:=gL h ac;obtain⟨iF,hx,h⟩:=h;obtain⟨r,w',af,aq⟩:=atr (P:=P) h hm hx type;exact gR (gW.of af aq)
 case extract x i =>replace h:=gL h ac;obtain⟨iF,hx,h⟩:=h;obtain⟨aB,r,af,aq⟩:=am4 (P:=P) h hx w;refine gR (gW.of af (dq.same hm aB ?_));exact aq.axZ (am5 h hx)
 case makeFunc fn first cap=>
  cases fn<;>try(cases h;done)
  rename_i f;replace h:=aw.cA h;obtain⟨pa,cS,O,h⟩:=h;obtain⟨e1,abJ⟩:=xH ac O;rw[e1]at h;replace h:=aw.cA h;obtain⟨H2,b4,R,h⟩:=h;obtain⟨aN,aqL⟩:=xH ac R;rw[aN]at h;replace h:=aw.cA h;obtain⟨cW,uJ,af,h⟩:=h;cases h;obtain⟨ay,bD,We,eG⟩:=Y2 af hm (gi.bv abJ aqL);refine gR ⟨.func (.func f) (first.map a.eval) (cap.map a.eval),w,by simp[execOp,Instr.makeFunc],phx,ay,bD,We,_,eG,?_⟩;have cr:=abJ.length;rw[cr,wB,E5];congr 1<;>(apply m3;simp)
 case makeMap t r=>
  cases r<;>try(cases h;done)
  replace h:=lj h;obtain⟨p,hp,h⟩:=h;replace h:=CC h;obtain⟨hid,h⟩:=h;cases h;obtain⟨r,w',O,R⟩:=asY (P:=P) (t:=t) hid p.1 p.2 hm;exact gR (gW.of O R)
 case insert t m k x =>replace h:=lj h;obtain⟨p,hp,h⟩:=h;replace h:=gL h ac;obtain⟨auU,GV,h⟩:=h;replace h:=gL h ac;obtain⟨AH,rh,h⟩:=h;replace h:=gL h ac;obtain⟨iF,mb,h⟩:=h;obtain⟨vI,N_,aL,xn,oN⟩:=g3 _ _ hp;obtain⟨rfl,w',ay,af,aq,a8⟩:=acn (P:=P) h aL xn hm GV rh mb;exact Wa (w':=w') (by simp[execOp,af]) (ap _ _ ⟨phx,ay,aq,a8,rfl⟩)
 case mapUpdate t m k x =>replace h:=lj h;obtain⟨p,hp,h⟩:=h;replace h:=gL h ac;obtain⟨auU,GV,h⟩:=h;replace h:=gL h ac;obtain⟨AH,rh,h⟩:=h;replace h:=gL h ac;obtain⟨iF,mb,h⟩:=h;obtain⟨vI,N_,aL,xn,oN⟩:=g3 _ _ hp;obtain⟨rfl,w',ay,af,aq,a8⟩:=acn (P:=P) h aL xn hm GV rh mb;exact Wa (w':=w') (by simp[execOp,af]) (ap _ _ ⟨phx,ay,aq,a8,rfl⟩)
 case lookup t x i ok =>replace h:=gL h ac;obtain⟨iF,mb,h⟩:=h;replace h:=gL h ac;obtain⟨AH,rh,h⟩:=h;obtain⟨aB,r,af,aq⟩:=asO (P:=P) g3 h hm mb rh;exact gR (gW.of af (dq.same hm aB aq))
 case makeInterface t x =>replace h:=lj h;obtain⟨ty,ht,h⟩:=h;replace h:=adf h;obtain⟨aj,h⟩:=h;replace h:=gL h ac;obtain⟨iF,mb,h⟩:=h;replace h:=aw.cA h;obtain⟨y,cS,O,h⟩:=h;cases h;obtain⟨cs,aC,ay,bD,We,_,_,f2⟩:=ym O hm mb;refine gR ⟨.iface t (a.eval x),w,?_,phx,ay,bD,We,cs,f2 rfl,by rw[aC]⟩;have:=asX (P:=P) (hT _ _ ht) (by simpa using aj) (a.eval x) w;simp only[execOp];simp[this]
 case typeAssert x xT tr ok =>replace h:=gL h ac;obtain⟨iF,mb,h⟩:=h;obtain⟨aB,r,af,aq⟩:=ai7 (P:=P) hT (xT:=xT) h mb w;exact gR (gW.of af (dq.same hm aB aq))
 case call c=>
  obtain⟨Qh,args,eg⟩:=c;cases Qh<;>try(cases h;done)
  case builtin b=>
   obtain⟨aZ,cS,O,R⟩:=aw.cA h;obtain⟨e,dd⟩:=xH ac O;rw[e]at R;have bu:(args.toList.map a.eval).toArray=args.map a.eval:=by apply m3;simp
   have key:∀cs,gW P K w0 phx M B w B' v (Go.builtin b eg type cs (args.map a.eval)):=λcs=>by obtain⟨r,w',af,aq⟩:=ajT (P:=P) hT R hm dd type cs;rw[bu]at af;exact⟨r,w',af,aq⟩
   exact gR (key _)
  case value f=>
   replace h:=gL h ac;obtain⟨auK,hf,h⟩:=h;obtain⟨aZ,cS,O,R⟩:=aw.cA h;obtain⟨e,dd⟩:=xH ac O;rw[e]at R;have bu:(args.toList.map a.eval).toArray=args.map a.eval:=by apply m3;simp
   cases auK<;>try(cases R;done)
   case clo zn dQ cW=>
    obtain⟨us,aA,hf⟩:=hf;obtain⟨vk,CS⟩:=Qg (P:=P) dA R hm (Qt aA dd);refine Ol hf vk ?_;have iO:(us.take dQ++(args.toList.map a.eval++us.drop dQ)).toArray=(us.take dQ).toArray++args.map a.eval++(us.drop dQ).toArray:=by rw[<- bu];simp
    rw[<- iO];refine CS.mono ?_;rintro e w' ⟨b2,rfl,bu⟩;exact⟨b2,rfl,ap b2 w' bu⟩
   case sc t x=>
    cases t<;>try(cases R;done)
    obtain⟨cs,lK,hf⟩:=hf;have:=aH.F8.1 lK;subst this;obtain⟨zn,hfn,vk,CS⟩:=Yz (P:=P) dA R hm dd;have hf:a.eval f=.func (.func zn) #[] #[]:=by rw[hf];simp[cv,ae.isAgg,hfn]
    refine Ol hf vk ?_;have iO:(args.toList.map a.eval).toArray=#[]++args.map a.eval ++ #[]:=by rw[bu];simp
    rw[<- iO];refine CS.mono ?_;rintro e w' ⟨b2,rfl,bu⟩;exact⟨b2,rfl,ap b2 w' bu⟩
end
end Yp
namespace Yp
open Go
def gt:=@List.append_assoc
def gE:=@List.mem_cons
def wH:=@List.mem_cons_of_mem
def o_(g:Nat->au)(i:Nat)(v:au):Nat->au:=λj=>if j=i then v else g j
def dH.vd(f i:Nat):dH.lH f .e i=.bad:=by cases f<;>rfl
def kp(h:a=b):Nat.beq a b=true:=by subst h;exact BS a
def hv(h:a≠b):Nat.beq a b=false:=by
 cases Y:Nat.beq a b with
 |false=>rfl
 |true=>exact absurd (fy Y) h
def dH.Gb:∀(f:Nat) (t:dH) (i j:Nat) (v:au),j≠i->(t.set f i v).lH f j=t.lH f j
 |0,t,i,j,v,h=>rfl
 |f+1,.e,i,j,v,h=>by
  simp only[dH.set];by_cases hi:i=0
  .rw[kp hi]
   simp only[cond,dH.lH];rw[hv (by omega:j≠0)];simp only[ dH.vd]
   grind
  rw[hv hi];by_cases hm:i%2=1
  .rw[kp hm]
   simp only[cond,dH.lH];by_cases an:j=0
   .rw[kp an]
   rw[hv an];by_cases ap:j%2=1
   .rw[kp ap];simp only[dH.Gb f .e (i/2) (j/2) v J,dH.vd]
   rw[hv ap];simp only[dH.vd]
  rw[hv hm];simp only[cond,dH.lH];by_cases an:j=0
  .rw[kp an]
  rw[hv an];by_cases ap:j%2=1
  .rw[kp ap];simp only[dH.vd]
  rw[hv ap];simp only[dH.Gb f .e (i/2-1) (j/2-1) v J,dH.vd]
 |f+1,.n w l r,i,j,v,h=>by
  simp only[dH.set];by_cases hi:i=0
  .rw[kp hi]
   simp only[cond,dH.lH];rw[hv (by omega:j≠0)]
  rw[hv hi];by_cases hm:i%2=1
  .rw[kp hm]
   simp only[cond,dH.lH];by_cases an:j=0
   .rw[kp an]
   rw[hv an];by_cases ap:j%2=1
   .simp only[dH.Gb f l (i/2) (j/2) v J]
   rw[hv ap]
  rw[hv hm];simp only[cond,dH.lH];by_cases an:j=0
  .rw[kp an]
  rw[hv an];by_cases ap:j%2=1
  .rw[kp ap]
  simp only[dH.Gb f r (i/2-1) (j/2-1) v J]
def dH.CG:∀(f:Nat) (t:dH) (i:Nat) (v:au),(t.set f i v).lH f i=v\/(t.set f i v).lH f i=.bad/\2^f<=i+1
 |0,t,i,v=>.inr ⟨rfl,bh⟩
 |f+1,.e,i,v=>by
  simp only[dH.set];by_cases hi:i=0
  .left;simp only[cond,dH.lH,kp hi]
  rw[hv hi];by_cases hm:i%2=1
  .rw[kp hm]
   simp only[cond,dH.lH,hv hi,kp hm];rcases dH.CG f .e (i/2) v with h|h
   .grind
   grind
  rw[hv hm];simp only[cond,dH.lH,hv hi,hv hm];rcases dH.CG f .e (i/2-1) v with h|h
  .grind
  grind
 |f+1,.n w l r,i,v=>by
  simp only[dH.set];by_cases hi:i=0
  .left;simp only[cond,dH.lH,kp hi]
  rw[hv hi];by_cases hm:i%2=1
  .rw[kp hm]
   simp only[cond,dH.lH,hv hi,kp hm];rcases dH.CG f l (i/2) v with h|h
   .grind
   grind
  rw[hv hm];simp only[cond,dH.lH,hv hi,hv hm];rcases dH.CG f r (i/2-1) v with h|h
  .grind
  grind
def aM.vc(s:aM)(v:au)(h:j≠i):(s.lu i v).bX j=s.bX j:=dH.Gb 40 s.t i j v h
def aM.Ga(s:aM)(i:Nat)(v:au):(s.lu i v).bX i=v\/(s.lu i v).bX i=.bad:=(dH.CG 40 s.t i v).imp id (·.1)
def aM.an7(s:aM)(v:au)(hi:i<1000000):(s.lu i v).bX=o_ s.bX i v:=by
 funext j;unfold o_;split
 .rename_i h;subst h
  rcases dH.CG 40 s.t j v with h|h
  .exact h
  omega
 rename_i h;exact s.vc v h
def acS:∀(l:List (Nat×aQ)) (id:Nat) (b:aQ) (j:Nat),qz (AK l id b) j=if j=id then b else qz l j
 |[],id,b,j=>by
  simp only[AK,qz];by_cases h:j=id
  .rw[kp h.symm,if_pos h];rfl
  rw[hv (nI h),if_neg h];rfl
 |(i,c)::l,id,b,j=>by
  simp only[AK];by_cases hi:i=id
  .rw[kp hi]
   simp only[cond,qz];by_cases h:j=id
   .rw[kp h.symm,if_pos h]
   rw[hv (nI h),if_neg h,hv J]
  rw[hv hi];simp only[cond,qz];by_cases h:i=j
  .rw[kp h,if_neg J]
  rw[hv h];exact acS l id b j
def aM.zr(s:aM)(id:Nat)(b:aQ):(s.nw id b).aR=cV s.aR id b:=by funext j;exact acS s.h id b j
def aM.nd(s:aM):∀l:List (Nat×aQ),(s.ek l).aR=dx s.aR l
 |[]=>rfl
 |(i,b)::l=>by rw[xQ,<- aM.nd s l];exact aM.zr _ i b
def aM.pY(s:aM):∀l:List (Nat×aQ),(s.ek l).bX=s.bX
 |[]=>rfl
 |(i,b)::l=>aM.pY s l
def aM.UO(s:aM):∀l:List (Nat×aQ),(s.ek l).w=l.map (·.1)++s.w
 |[]=>rfl
 |(i,b)::l=>by show i::(s.ek l).w=_;rw[aM.UO s l];rfl
def aP.fb{γ:Type}(t:aP α)(f:α->aP β)(k:β->aP γ):(t.bind f).bind k=t.bind λa=>(f a).bind k:=by
 induction t with
 |fail=>rfl
 |leaf a=>rfl
 |br c x y hx hy=>simp only[aP.bind,hx,hy]
 |chk c x hx=>simp only[aP.bind,hx]
 |bo d o g hg=>simp only[aP.bind,hg]
 |cs d e o kn g5 hb aj aA ah=>simp only[aP.bind,aj,aA,ah]
def aP.ug{β:Type}:Option β->aP β
 |some b=>.leaf b
 |none=>.fail
def aP.TN{o:Option β}{k:β->aP ρ}{r:ρ}(h:((aP.ug o).bind k).bI=some r):∃b,o=some b/\(k b).bI=some r:=by
 cases o with
 |none=>cases h
 |some b=>exact⟨b,rfl,h⟩
def aP.vV{α β:Type}(f:α->Option β):∀(t:aP α),(t.mR f)=t.bind λa=>aP.ug (f a)
 |.fail=>rfl
 |.leaf a=>by cases h:f a<;>simp only[aP.mR,aP.bind,aP.ug,h]
 |.br c x y=>by simp only[aP.mR,aP.bind,aP.vV f x,aP.vV f y]
 |.chk c x=>by simp only[aP.mR,aP.bind,aP.vV f x]
 |.bo d o k=>by simp only[aP.mR];congr;funext a;exact aP.vV f (k a)
 |.cs d e o kn g5 hb=>by
  simp only[aP.mR];congr
  .funext a;exact aP.vV f (kn a)
  .funext i a;exact aP.vV f (g5 i a)
  funext a;exact aP.vV f (hb a)
def kq{α:Type}:∀t:aP α,t.bind .leaf=t
 |.fail=>rfl
 |.leaf a=>rfl
 |.br c x y=>by simp only[aP.bind,kq x,kq y]
 |.chk c x=>by simp only[aP.bind,kq x]
 |.bo d o k=>by simp only[aP.bind];congr;funext a;exact kq (k a)
 |.cs d e o kn g5 hb=>by
  simp only[aP.bind];congr
  .funext a;exact kq (kn a)
  .funext i a;exact kq (g5 i a)
  funext a;exact kq (hb a)
def aP.am2{d:α}{o:Option α}{k:α->aP β}{r:β}(h:(aP.bo d o k).bI=some r):∃a,o=some a/\(k a).bI=some r:=by
 cases o with
 |none=>cases h
 |some a=>exact⟨a,rfl,h⟩
def tp(bp ax:aM):Prop:=(∀t,ax.bX t=bp.bX t\/ax.bX t=.bad\/∃ty x,ax.bX t=.sc ty x/\ie ty (bp.bX t)=some x)/\ax.aR=bp.aR
def tp.refl(s:aM):tp s s:=⟨λ_=>.inl rfl,rfl⟩
def tp.trans{bp ax d5:aM}(h:tp bp ax)(k:tp ax d5):tp bp d5:=by
 refine⟨λt => ?_,k.2.trans h.2⟩;rcases k.1 t with bF|bF|⟨ty,x,bF,b3⟩
 .rw[bF];exact h.1 t
 .grind
 rcases h.1 t with O|O|⟨aho,wl,O,R⟩
 .grind
 .rw[O]at b3;cases b3
 rw[O]at b3;obtain⟨e,hx⟩:=u2 b3
 grind
def dw.Oa{phx:cc}{H:cg}{bp ax:aM}{a:Act}(h:dw phx H bp.aR bp.bX a)(bb:tp bp ax):dw phx H ax.aR ax.bX a:=by
 intro t;rw[bb.2];rcases bb.1 t with k|k|⟨ty,x,bF,b3⟩
 .rw[k];exact h t
 .rw[k];trivial
 rw[bF];exact nA b3 (h t)
def dY(D:List Nat)(s cq:aM):Prop:=(∀t,t∉D->cq.bX t=s.bX t)/\∃fQ,cq.w=fQ++s.w/\∀id,id∉fQ->cq.aR id=s.aR id
def dY.refl(D:List Nat)(s:aM):dY D s s:=⟨λ_ _=>rfl,[],rfl,λ_ _=>rfl⟩
def dY.trans{bp ax d5:aM}(h:dY D bp ax)(k:dY j2 ax d5):dY (D++j2) bp d5:=by
 obtain⟨O,fQ,R,af⟩:=h;obtain⟨bF,atI,b3,dp⟩:=k;refine⟨λt ht => ?_,atI++fQ,by rw[b3,R,gt],λid hid => ?_⟩
 .grind
 grind
def dY.mono{s cq:aM}(h:dY D s cq)(aF:∀t,t∈D->t∈j2):dY j2 s cq:=⟨λt ht=>h.1 t λai=>ht (aF t ai),h.2⟩
def dY.sub{E:List Nat}{bp ax d5:aM}(h:dY D bp ax)(k:dY j2 ax d5)(aF:∀t,t∈D->t∈E)(CT:∀t,t∈j2->t∈E):dY E bp d5:=
 (h.trans k).mono λt ht=>(io.1 ht).elim (aF t) (CT t)
def dY.lu{s:aM}(i:Nat)(v:au)(h:i∈D):dY D s (s.lu i v):=
 ⟨λt ht=>s.vc v λe=>ht (e▸h),[],rfl,λ_ _=>rfl⟩
def dY.ek{s:aM}(l:List (Nat×aQ))(D:List Nat):dY D s (s.ek l):=by
 refine⟨λt _=>by rw[aM.pY],l.map (·.1),aM.UO s l,λid hid => ?_⟩;rw[aM.nd];have:∀(l:List (Nat×aQ)) (d:aQ),id∉l.map (·.1)->nr l id d=d:=by
  intro l d h;induction l with
  |nil=>rfl
  |cons p l ih=>
   simp only[pj,gE,not_or]at h;simp only[nr];rw[hv (nI h.1)]
   grind
 exact this l _ hid
def V8:∀(l:List Nat) (s:aM),∃cq:aM,cq.aR=s.aR/\cq.w=s.w/\(∀t,t∉l->cq.bX t=s.bX t)/\(∀t,t∈l->cq.bX t=.bad)/\(∀(γ:Type 1) (k:aM->γ),Jf s l k=k cq)
 |[],s=>⟨s,rfl,rfl,λ_ _=>rfl,λt h=>by simp at h,λ_ _=>rfl⟩
 |i::l,s=>by
  obtain⟨cq,O,R,af,aq,a8⟩:=V8 l (s.lu i .bad);refine⟨cq,O,R,λt ht => ?_,λt ht => ?_,λγ k => ?_⟩
  .simp at ht
   rw[af t ht.2,s.vc _ ht.1]
  .by_cases hl:t∈l
   .grind
   have:=by simpa[hl]using ht
   subst this;rw[af t hl];rcases s.Ga t .bad with h|h<;>exact h
  simp only[Jf,aM.It];exact a8 γ k
def YQ(l:List aM):∀(keep:List Nat),∃ks:List (Nat×ae),(∀p∈ks,p.1∈keep)/\∀(γ:Type 1) (k:List (Nat×ae)->γ),wY l keep k=k ks
 |[]=>⟨[],λp h=>by simp at h,λ_ _=>rfl⟩
 |i::keep=>by
  obtain⟨ks,O,R⟩:=YQ l keep;cases l with
  |nil=>exact⟨[],λp h=>by simp at h,λ_ _=>rfl⟩
  |cons s m=>
   cases ht:VQ (s.bX i) with
   |none=>exact⟨ks,λp hp=>wH _ (O p hp),λγ k=>by simp only[wY,ht];exact R γ k⟩
   |some t=>
    cases ai:m.all (afZ i t) with
    |true=>
     refine⟨(i,t)::ks,λp hp => ?_,λγ k => ?_⟩
     .grind
     simp only[wY,ht];rw[ai];rw[R];exact KY t _
    |false=>
     refine⟨ks,λp hp=>wH _ (O p hp),λγ k => ?_⟩;simp only[wY,ht]
     grind
def aga:∀(ks:List (Nat×ae)) (p:Cl ks) (s:aM),∃cq:aM,cq.aR=s.aR/\cq.w=s.w/\(∀t,t∉ks.map (·.1)->cq.bX t=s.bX t) /\
  (∀bp:aM,qk bp ks=some p->∀t,t∈ks.map (·.1)->cq.bX t=.bad\/∃ty x,cq.bX t=.sc ty x/\ie ty (bp.bX t)=some x)/\(∀(γ:Type 1) (k:aM->γ),Ns s k ks p=k cq)
 |[],p,s=>⟨s,rfl,rfl,λ_ _=>rfl,λ_ _ t h=>by simp at h,λ_ _=>rfl⟩
 |(i,ty)::ks,p,s=>by
  obtain⟨cq,O,R,af,aq,a8⟩:=aga ks p.2 (s.lu i (.sc ty p.1));refine⟨cq,O,R,λt ht => ?_,λbp ac t ht => ?_,λγ k => ?_⟩
  .simp only[pj,gE,not_or]at ht
   rw[af t ht.2,s.vc _ ht.1]
  .have hg:ie ty (bp.bX i)=some p.1/\qk bp ks=some p.2:=by
    simp only[qk]at ac;cases bu:ie ty (bp.bX i) with
    |none=>rw[bu]at ac;cases ac
    |some x=>
     cases Y:qk bp ks with
     |none=>rw[bu,Y]at ac;cases ac
     |some y=>rw[bu,Y]at ac;cases ac;exact⟨rfl,rfl⟩
   by_cases hl:t∈ks.map (·.1)
   .exact aq bp hg.2 t hl
   have:t=i:=by simpa[hl]using ht
   subst this;rw[af t hl];rcases s.Ga t (.sc ty p.1) with h|h
   .exact .inr ⟨ty,p.1,h,hg.1⟩
   exact .inl h
  simp only[Ns,aM.It];exact a8 γ k
def Jt(D:List Nat)(s bp:aM):Prop:=
 (∀t,t∉D->s.bX t=bp.bX t\/∃ty x,s.bX t=.sc ty x/\ie ty (bp.bX t)=some x)/\∃fQ,bp.w=fQ++s.w/\∀id,id∉fQ->bp.aR id=s.aR id
def dY.anS{s bp:aM}(h:dY D s bp):Jt D s bp:=⟨λt ht=>.inl (h.1 t ht).symm,h.2⟩
def S2{s:aM}{all keep:List Nat}(ap:∀t,t∈keep->t∈all){t:aP aM}{k:aM->aP ρ}{r:ρ}(h:((Hj s all keep t).bind k).bI=some r):
  (t.bind k).bI=some r \/
  ∃(ks:List (Nat×ae)) (p:Cl ks),(t.bind λbp=>aP.ug (bif Nat.beq bp.w.length s.w.length then qk bp ks else none)).bI=some p /\
   ∀bp,Jt all s bp->bp.w.length=s.w.length->qk bp ks=some p->∃ax,tp bp ax/\dY all s ax/\(k ax).bI=some r:=by
 unfold Hj at h;rw[aP.acK]at h;cases ai:t.n3.all (acv s keep) with
 |false=>rw[ai]at h;exact .inl h
 |true=>
  rw[ai,cond_true]at h;obtain⟨ks,aqe,apu⟩:=YQ t.n3 keep;rw[apu]at h;cases bj:Nat.beq ks.length 0 with
  |true=>rw[bj,cond_true]at h;exact .inl h
  |false=>
   rw[bj,cond_false]at h;simp only[aP.bind]at h;obtain⟨p,hp,h⟩:=aP.am2 h;rw[aP.vV]at hp;refine .inr ⟨ks,p,hp,λbp hf bb hg => ?_⟩;obtain⟨cq,cf,cO,fi,hq,Bu⟩:=V8 all s;obtain⟨ax,bF,b3,dp,fP,go⟩:=aga ks p cq;rw[Bu,go]at h;have aB:bp.aR=s.aR:=by
    obtain⟨_,fQ,O,R⟩:=hf;have:fQ=[]:=by have:=congrArg List.length O;rw[cG]at this;exact k3.1 J
    subst this;funext id;exact R id bh
   have aqd:∀t,t∈ks.map (·.1)->t∈all:=λt ht=>by obtain⟨q,a2,rfl⟩:=m1.1 ht;exact ap _ (aqe q a2)
   refine⟨ax,⟨λt => ?_,by rw[bF,cf,aB]⟩,⟨λt C3 => ?_,[],by rw[b3,cO];rfl,λid _=>by rw[bF,cf]⟩,h⟩
   .by_cases abz:t∈ks.map (·.1)
    .rcases fP bp hg t abz with h|h
     .exact .inr (.inl h)
     exact .inr (.inr h)
    rw[dp t abz];by_cases C3:t∈all
    .exact .inr (.inl (hq t C3))
    rw[fi t C3];rcases hf.1 t C3 with h|h
    .exact .inl h
    exact .inr (.inr h)
   rw[dp t λai=>C3 (aqd t ai),fi t C3]
def r0:=@List.mem_filter
def E6:=@Nat.testBit_or
def OP:=@Bool.true_and
structure eY where
 i:Nat
 o:Oper
 v:au
 al:Bool
 rb:List Nat
 wr:List (Nat×aQ)
def kE(g:Nat->au)(c7:Option Nat)(v:au):Nat->au:=match c7 with|some d=>o_ g d v|none=>g
def i'(s:aM)(c7:Option Nat)(v:au):aM:=match c7 with|some d=>s.lu d v|none=>s
def fg:List eY->(Nat->Bool)->(Nat->au)->Nat->au
 |[],_,g=>g
 |e::bz,L,g=>fg bz L (bif L e.i then kE g e.o.dst e.v else g)
def eb:List eY->(Nat->Bool)->(Nat->aQ)->Nat->aQ
 |[],_,B=>B
 |e::bz,L,B=>eb bz L (bif L e.i then dx B e.wr else B)
def wN(ops:List Oper)(o:Oper)(g:Nat->au):Prop:=o.guard=none\/∃j lV d,o.guard=some (j,lV)/\(ops[j]?).bind (·.dst)=some d/\g d=.kb lV
def E1(ops:List Oper)(o:Oper)(g:Nat->au):Prop:=∃j lV d,o.guard=some (j,lV)/\(ops[j]?).bind (·.dst)=some d/\(g d=.kb (!lV)\/g d=.undef)
def r2(v0 v:au):Prop:=v=v0\/∃c,v0=.sc .bool c/\v=.kb c
def Rn(g:Nat->au):Operand->au
 |.tmp t=>g t
 |.func f=>.clo f 0 []
 |_=>.bad
def ww(E:db)(ops:List Oper)(o:Oper)(g:Nat->au)(B:Nat->aQ)(v0:au)(rb:List Nat)(wr:List (Nat×aQ)):Prop:=
 ∃(F dQ:Nat) (cW:List il) (sk:fJ) (aZ:List au) (s ax:aM) (f:Operand) (args:Array Operand) (eg:Array TypeId) (b9:Nat),o.op=.call ⟨.value f,args,eg⟩/\E.I F=some sk/\Up ops o f=true/\Rn g f=.clo F dQ cW /\
  (∀bw b4,(∀t,Nat.testBit (ki ops o) t=true->bw t=g t)->(lO ea args.toList).aY bw b4=some (aZ,b4))/\(∀id,id∈pK s++wr.map (·.1)->s.aR id=B id)/\FH s (u3 dQ cW aZ)=true/\(sk b9 (u3 dQ cW aZ) s).bI=some (v0,ax)/\wr=mZ s ax/\rb=pK s
def Js(E:db)(ops:List Oper)(nt:Nat)(dk:Bool)(g:Nat->au)(B:Nat->aQ)(e:eY):Prop:=
 (∀d,e.o.dst=some d->d<nt) /\
 ((wN ops e.o g/\∃v0,r2 v0 e.v/\(rv E e.o).aY g B=some (v0,dx B e.wr) /\
  (dk=true->∀bw b4,(∀t,Nat.testBit (ki ops e.o) t=true->bw t=g t)->(∀id,id∈e.rb->b4 id=B id)->(rv E e.o).aY bw b4=some (v0,dx b4 e.wr))) \/
  (E1 ops e.o g/\e.v=.undef/\e.wr=[]/\e.rb=[]) \/
  (dk=true/\wN ops e.o g/\∃v0,r2 v0 e.v/\ww E ops e.o g B v0 e.rb e.wr))
def wM(E:db)(ops:List Oper)(nt:Nat)(dk:Bool):List eY->(Nat->au)->(Nat->aQ)->Prop
 |[],_,_=>True
 |e::bz,g,B=>Js E ops nt dk g B e/\wM E ops nt dk bz (kE g e.o.dst e.v) (dx B e.wr)
def nb:List eY->List ou
 |[]=>[]
 |e::bz=>(match e.al,e.rb,e.wr with|false,[],[]=>nb bz|_,_,_=>⟨e.i,e.al,e.rb,e.wr.map (·.1)⟩::nb bz)
def aw.afj(s:aM)(m:aw α):∀(ff:Nat) (e':List Nat) (wr:List (Nat×aQ)) (k:α×Oz->aP β) (r:β),((m.run s ff e' wr).bind k).bI=some r ->
  ∃a e,(k (a,e)).bI=some r/\m.aY s.bX (dx s.aR wr)=some (a,dx s.aR e.wr) /\
   (∀bw b4,(∀t,Nat.testBit e.rt t=true->bw t=s.bX t)->(∀id,id∈e.rb->b4 id=s.aR id)->m.aY bw (dx b4 wr)=some (a,dx b4 e.wr)) /\
   (∀t,Nat.testBit ff t=true->Nat.testBit e.rt t=true)/\(∀id,id∈e'->id∈e.rb):=by
 induction m with
 |fail=>intro ff e' wr k r h;cases h
 |ret a=>intro ff e' wr k r h;exact⟨a,_,h,rfl,λ_ _ _ _=>rfl,λ_ h=>h,λ_ h=>h⟩
 |chk c m ih=>
  intro ff e' wr k r h;simp only[aw.run,aP.bind,aP.bI,am,aw.aY]at h ⊢;cases c with
  |true=>simpa using ih ff e' wr k r h
  |false=>cases h
 |br c x y hx hy=>
  intro ff e' wr k r h;simp only[aw.run,aP.bind,aP.bI,T,aw.aY]at h ⊢;cases c with
  |true=>simpa using hx ff e' wr k r h
  |false=>simpa using hy ff e' wr k r h
 |bo d o m ih=>
  intro ff e' wr k r h;cases o with
  |some a=>exact ih a ff e' wr k r h
  |none=>cases h
 |rt i m ih =>intro ff e' wr k r h;obtain⟨a,e,O,R,af,aq,a8⟩:=ih (s.bX i) (ff|||2^i) e' wr k r h;have hi:Nat.testBit e.rt i=true:=aq i (by simp[E6]);refine⟨a,e,O,R,λbw b4 hg Y => ?_,λt ht=>aq t (by simp[E6,ht]),a8⟩;simp only[aw.aY];rw[hg i hi];exact af bw b4 hg Y
 |rb i m ih=>
  intro ff e' wr k r h;obtain⟨a,e,O,R,af,aq,a8⟩:=ih (nr wr i (s.aR i)) ff (i::e') wr k r h;have hi:i∈e.rb:=a8 i bh;refine⟨a,e,O,R,λbw b4 hg Y => ?_,aq,λid hid=>a8 id (by simp[hid])⟩;simp only[aw.aY];have:dx b4 wr i=nr wr i (s.aR i):=by unfold dx;rw[Y i hi]
  rw[this];exact af bw b4 hg Y
 |eI i b m ih=>
  intro ff e' wr k r h;obtain⟨a,e,O,R,af,aq,a8⟩:=ih ff e' ((i,b)::wr) k r h;refine⟨a,e,O,?_,λbw b4 hg Y => ?_,aq,a8⟩
  .simp only[aw.aY];rw[<- xQ];exact R
  simp only[aw.aY];rw[<- xQ];exact af bw b4 hg Y
def uB{c7:Option Nat}{s:aM}{v:au}{xz:aM->aP α}{k:α->aP β}{r:β}(h:((ib nt c7 s v xz).bind k).bI=some r):
  (∀d,c7=some d->d<nt)/\((xz (i' s c7 v)).bind k).bI=some r:=by
 cases c7 with
 |none=>exact⟨λd h=>by(cases h),h⟩
 |some d=>
  simp only[ib]at h;cases aF:Nat.blt d nt with
  |false=>rw[aF]at h;cases h
  |true =>rw[aF,aM.It]at h;exact⟨λl4 bL=>by cases bL;simpa using aF,h⟩
def rA{s:aM}{c7:Option Nat}{v:au}(ej:nt<=1000000)(aF:∀d,c7=some d->d<nt):(i' s c7 v).bX=kE s.bX c7 v:=by
 cases c7 with
 |none=>rfl
 |some d=>exact s.an7 v (hU (aF d rfl) ej)
def lp{s:aM}{c7:Option Nat}{v:au}:(i' s c7 v).aR=s.aR:=by cases c7<;>rfl
def MR{s:aM}{c7:Option Nat}{v:au}:(i' s c7 v).w=s.w:=by cases c7<;>rfl
def vZ{s:aM}{c7:Option Nat}{v:au}(h:∀d,c7=some d->d∈D):dY D s (i' s c7 v):=by
 cases c7 with
 |none=>exact dY.refl D s
 |some d=>exact dY.lu d v (h d rfl)
def aaG{ops:List Oper}{o:Oper}{s:aM}{FZ skip:aP aM}{k:aM->aP ρ}{r:ρ}(h:((Lm ops o s FZ skip).bind k).bI=some r):
  (wN ops o s.bX/\(FZ.bind k).bI=some r)\/(E1 ops o s.bX/\(skip.bind k).bI=some r):=by
 unfold Lm at h;cases hg:o.guard with
 |none=>rw[hg]at h;exact .inl ⟨.inl hg,h⟩
 |some asg=>
  obtain⟨j,lV⟩:=asg;rw[hg]at h;simp only at h;cases aF:(ops[j]?).bind (·.dst) with
  |none=>rw[aF]at h;cases h
  |some g=>
   rw[aF]at h;simp only at h;cases aC:s.bX g<;>rw[aC]at h<;>try(cases h)
   .exact .inr ⟨⟨j,lV,g,hg,aF,.inr aC⟩,h⟩
   rename_i b;cases b<;>cases lV
   .exact .inl ⟨.inr ⟨j,_,g,hg,aF,aC⟩,h⟩
   .exact .inr ⟨⟨j,_,g,hg,aF,.inl aC⟩,h⟩
   .exact .inr ⟨⟨j,_,g,hg,aF,.inl aC⟩,h⟩
   exact .inl ⟨.inr ⟨j,_,g,hg,aF,aC⟩,h⟩
def tG(o:Oper)(rest:List Oper):(∀d,o.dst=some d->d∈en (o::rest))/\∀t,t∈en rest->t∈en (o::rest):=by
 cases aF:o.dst with
 |none=>
  have e:en (o::rest)=en rest:=by simp only[en,aF]
  grind
 |some d=>
  have e:en (o::rest)=d::en rest:=by simp only[en,aF]
  grind
def Xt{v:au}(h:tB v=some c):v=.sc .bool c:=by
 unfold tB at h;split at h
 .cases h;rfl
 cases h
def E0(E:db)(ops:List Oper)(nt:Nat)(dk:Bool)(i:Nat)(l:List Oper)(s:aM)(g?:List ou)(ax:aM):Prop:=
 ∃(bz:List eY) (bp:aM),bz.map (·.i)=List.range' i l.length/\bz.map (·.o)=l/\wM E ops nt dk bz s.bX s.aR/\bp.bX=fg bz (λ_=>true) s.bX/\bp.aR=eb bz (λ_=>true) s.aR /\
  tp bp ax/\dY (en l) s ax/\(dk=true->H? ops=true/\qJ (lE ops []) (g?.reverse++nb bz)=true)
def Z?{e:eY}{bz:List eY}{g?:List ou}{b:List Nat}(bu:e.al=false)(h:qJ b ((q9 true e.i e.rb e.wr g?).reverse++nb bz)=true):qJ b (g?.reverse++nb (e::bz))=true:=by cases ah:e.rb<;>cases bb:e.wr<;>simp only[q9,bu,ah,bb,cond,nb,List.reverse_cons,gt]at h ⊢ <;> exact h
def UK{E:db}{ops:List Oper}{o:Oper}{rest:List Oper}{s kk:aM}{g? aab:List ou}{ax:aM}{e:eY}(ej:nt<=1000000)(hi:e.i=i)(aK:e.o=o)(iR:Js E ops nt dk s.bX s.aR e)
  (hT:kk.bX=kE s.bX o.dst e.v) (aB:kk.aR=dx s.aR e.wr) (dW:dY (en (o::rest)) s kk)
  (apX:dk=true->∀(b:List Nat) (bz:List eY),qJ b (aab.reverse++nb bz)=true->qJ b (g?.reverse++nb (e::bz))=true) (h:E0 E ops nt dk (i+1) rest kk aab ax):E0 E ops nt dk i (o::rest) s g? ax:=by
 obtain⟨bz,bp,O,R,af,aq,a8,cT,dN,cz⟩:=h;have aF:=tG o rest;refine⟨e::bz,bp,?_,?_,⟨iR,?_⟩,?_,?_,cT,dW.sub dN (λt h=>h) aF.2,λg4=>⟨(cz g4).1,apX g4 _ bz (cz g4).2⟩⟩
 .simp only[pj,hi,O,ew,List.range'_succ]
 .grind
 .grind
 .simp only[fg,aK,<- hT];exact aq
 simp only[eb,<- aB];exact a8
def aP.w7{α β:Type}{k:α->aP β}{r:β}:∀(t:aP α),(t.bind k).bI=some r->∃a,t.bI=some a/\(k a).bI=some r
 |.leaf a,h=>⟨a,rfl,h⟩
 |.br c x y,h=>by
  cases c with
  |true=>exact aP.w7 x h
  |false=>exact aP.w7 y h
 |.chk c x,h=>by
  cases c with
  |true=>exact aP.w7 x h
  |false=>cases h
 |.bo d o f,h=>by
  cases o with
  |none=>cases h
  |some a=>exact aP.w7 (f a) h
 |.cs d e o kn g5 hb,h=>by
  cases o with
  |none=>cases h
  |some l=>
   cases l with
   |nx a=>exact aP.w7 (kn a) h
   |ex i a=>exact aP.w7 (g5 i a) h
   |rt a=>exact aP.w7 (hb a) h
def azd(s:aM)(f:Operand):CD s f=Rn s.bX f:=by cases f<;>rfl
def arZ{E:db}{ops:List Oper}{o:Oper}{s:aM}{t:aP (au×aM)}{p:au×aM}(h:LT E ops o s=some t)(hp:t.bI=some p):ww E ops o s.bX s.aR p.1 (pK s) (mZ s p.2):=by
 unfold LT at h;split at h
 .rename_i f args eg sw
  split at h
  .rename_i F dQ cW hf
   split at h
   .rename_i sk eo
    cases h;rw[<- kq (aP.bind _ _),aP.fb]at hp;obtain⟨aZ,f?,O,R,af,_,_⟩:=aw.afj s (lO ea args.toList) 0 [] [] _ p hp;rw[kq]at O;cases ai:(Nat.beq (f?.rt|||ki ops o) (ki ops o)&&(adp f?.wr&&(ado f?.rb&&(Up ops o f&&FH s (u3 dQ cW aZ))))) with
    |false=>rw[ai]at O;cases O
    |true=>
     rw[ai]at O;simp only[cM]at ai;obtain⟨c1,c2,c4,hw,c5⟩:=ai;have tU:f?.rb=[]:=by
      cases bb:f?.rb with
      |nil=>rfl
      |cons x y=>rw[bb]at c4;cases c4
     have C6:f?.wr=[]:=by
      cases bb:f?.wr with
      |nil=>rfl
      |cons x y=>rw[bb]at c2;cases c2
     refine⟨F,dQ,cW,sk,aZ,s,p.2,f,args,eg,_,sw,eo,hw,by exact hf,λbw b4 hg => ?_,λ_ _=>rfl,c5,O,rfl,rfl⟩;have GY:∀t,Nat.testBit f?.rt t=true->Nat.testBit (ki ops o) t=true:=λt ht=>by
      have:=fy c1
      grind
     have:=af bw b4 (λt ht=>hg t (GY t ht)) (λid hid=>by rw[tU]at hid;cases hid);rw[C6]at this;exact this
   cases h
  cases h
 cases h
def afe{E:db}{ops:List Oper}(ej:nt<=1000000):∀(l:List Oper) (top:Bool) (i:Nat) (s:aM) (g?:List ou) {ρ:Type} (k:aM->aP ρ) (r:ρ),
  ((oc E ops nv nt dk top i l s g?).bind k).bI=some r->∃ax,E0 E ops nt dk i l s g? ax/\(k ax).bI=some r:=by
 intro l;induction l with
 |nil=>
  intro top i s g? ρ k r h;simp only[oc]at h;cases ai:(!dk||(H? ops&&qJ (lE ops []) g?.reverse)) with
  |false=>rw[ai]at h;cases h
  |true =>rw[ai]at h;refine⟨s,⟨[],s,rfl,rfl,trivial,rfl,rfl,tp.refl s,dY.refl _ s,λaF => ?_⟩,h⟩;subst aF;simp at ai;exact⟨ai.1,by simpa[nb]using ai.2⟩
 |cons o rest ih=>
  intro top i s g? ρ k r h;have aF:=tG o rest;rcases aaG h with⟨bb,h⟩|⟨bb,h⟩
  .cases fA:(bif dk then LT E ops o s else none) with
   |some t=>
    rw[fA]at h;rw[aP.fb]at h;obtain⟨p,hp,h⟩:=aP.w7 _ h;cases g4:dk with
    |false=>rw[g4]at fA;cases fA
    |true=>
    rw[g4]at fA;have iR:=arZ fA hp;cases abp:Nat.testBit (xf ops) i with
    |true=>rw[abp]at h;cases h
    |false=>
    rw[abp]at h;simp only[aM.Is,w9]at h;obtain⟨fZ,h⟩:=uB h;obtain⟨ax,ah,ap⟩:=ih top (i+1) _ _ k r h;subst g4;refine⟨ax,UK (e:=⟨i,o,p.1,false,pK s,mZ s p.2⟩) ej rfl rfl ⟨fZ,.inr (.inr ⟨rfl,bb,p.1,.inl rfl,iR⟩)⟩ ?_ ?_ ?_ ?_ ah,ap⟩
    .rw[rA ej fZ,aM.pY]
    .rw[lp,aM.nd]
    .exact(dY.ek _ _).sub (vZ aF.1) (λt h=>h) (λt h=>h)
    intro _ b bz h;exact Z? (e:=⟨i,o,p.1,false,pK s,mZ s p.2⟩) rfl h
   |none=>
   rw[fA]at h;rw[aP.fb]at h;obtain⟨v,f?,h,ra,GQ,_,_⟩:=aw.afj s (rv E o) 0 [] [] _ r h;simp only[aM.Is,w9]at h;cases hz:(dk && !(Nat.beq (f?.rt|||ki ops o) (ki ops o))) with
   |true=>rw[hz]at h;cases h
   |false=>
    rw[hz,cond_false]at h;have GY:dk=true->∀t,Nat.testBit f?.rt t=true->Nat.testBit (ki ops o) t=true:=by intro g4 t ht;subst g4;simp only[OP,Bool.not_eq_false']at hz;have:=fy hz;rw[<- this];simp[E6,ht]
    have aqi:dk=true->∀bw b4,(∀t,Nat.testBit (ki ops o) t=true->bw t=s.bX t)->(∀id,id∈f?.rb->b4 id=s.aR id)->(rv E o).aY bw b4=some (v,dx b4 f?.wr):=
     λg4 bw b4 hg Y=>GQ bw b4 (λt ht=>hg t (GY g4 t ht)) Y
    have am3:∀cY,r2 v cY->(∀d,o.dst=some d->d<nt)->Js E ops nt dk s.bX s.aR ⟨i,o,cY,false,f?.rb,f?.wr⟩:=λcY ac fZ=>⟨fZ,.inl ⟨bb,v,ac,ra,aqi⟩⟩;have aqY:(s.ek f?.wr).bX=s.bX:=aM.pY s _;have aqX:(s.ek f?.wr).aR=dx s.aR f?.wr:=aM.nd s _;have anF:∀cY,dk=true->∀(b:List Nat) (bz:List eY),qJ b ((q9 dk i f?.rb f?.wr g?).reverse++nb bz)=true->qJ b (g?.reverse++nb (⟨i,o,cY,false,f?.rb,f?.wr⟩::bz))=true:=by intro cY g4 b bz h;subst g4;exact Z? (e:=⟨i,o,cY,false,f?.rb,f?.wr⟩) rfl h
    have yv:∀(cY:au) (Bf:Bool) {ρ:Type} (k:aM->aP ρ) (r:ρ),r2 v cY->((ib nt o.dst (s.ek f?.wr) cY λs=>oc E ops nv nt dk Bf (i+1) rest s (q9 dk i f?.rb f?.wr g?)).bind k).bI=some r ->
      ∃ax,E0 E ops nt dk i (o::rest) s g? ax/\(k ax).bI=some r/\dY (en rest) (i' (s.ek f?.wr) o.dst cY) ax/\(∀d,o.dst=some d->d<nt):=by
     intro cY Bf ρ k r ac h;obtain⟨fZ,h⟩:=uB h;obtain⟨ax,ah,ap⟩:=ih Bf (i+1) _ _ k r h;refine⟨ax,UK ej rfl rfl (am3 cY ac fZ) ?_ ?_ ?_ (anF cY) ah,ap,?_,fZ⟩
     .rw[rA ej fZ,aqY]
     .rw[lp,aqX]
     .exact(dY.ek f?.wr _).sub (vZ aF.1) (λt h=>h) (λt h=>h)
     obtain⟨bz,bp,_,_,_,_,_,_,dN,_⟩:=ah;exact dN
    cases hg:(Nat.testBit (xf ops) i&&(tB v).isSome) with
    |false =>rw[hg,cond_false]at h;obtain⟨ax,O,R,_⟩:=yv v top k r (.inl rfl) h;exact⟨ax,O,R⟩
    |true=>
     rw[hg,cond_true]at h;cases Y:tB v with
     |none=>rw[Y]at h;cases h
     |some c=>
      rw[Y]at h;have aC:=Xt Y;have two:∀{ρ:Type} (k:aM->aP ρ) (r:ρ),((aP.br c (ib nt o.dst (s.ek f?.wr) (.kb true) λs=>oc E ops nv nt dk false (i+1) rest s (q9 dk i f?.rb f?.wr g?)) (ib nt o.dst (s.ek f?.wr) (.kb false) λs=>oc E ops nv nt dk false (i+1) rest s (q9 dk i f?.rb f?.wr g?))).bind k).bI=some r ->
        ∃ax,E0 E ops nt dk i (o::rest) s g? ax/\(k ax).bI=some r/\dY (en rest) (i' (s.ek f?.wr) o.dst (.kb c)) ax/\(∀d,o.dst=some d->d<nt):=by
       intro ρ k r h;cases c with
       |true=>exact yv (.kb true) false k r (.inr ⟨true,aC,rfl⟩) h
       |false=>exact yv (.kb false) false k r (.inr ⟨false,aC,rfl⟩) h
      cases top with
      |false =>obtain⟨ax,O,R,_⟩:=two k r h;exact⟨ax,O,R⟩
      |true=>
       obtain⟨fZ,h⟩:=uB h;rcases S2 (λt ht=>(r0.1 ht).1) h with h|⟨ks,p,hp,hrest⟩
       .obtain⟨ax,O,R,_⟩:=two k r h
        exact⟨ax,O,R⟩
       obtain⟨ax,⟨bz,bp,bG,b_,cp,dl,eQ,lq,pS,jX⟩,R,af,_⟩:=two _ p hp;obtain⟨rz,pH,iB⟩:∃rz,(bif Nat.beq ax.w.length (i' (s.ek f?.wr) o.dst (.sc .bool c)).w.length then qk ax ks else none)=some rz/\(aP.leaf rz).bI=some p:=by
        have tM:((aP.ug (bif Nat.beq ax.w.length (i' (s.ek f?.wr) o.dst (.sc .bool c)).w.length then qk ax ks else none)).bind aP.leaf).bI=some p:=by rw[kq];exact R
        exact aP.TN tM
       cases iB;cases cr:Nat.beq ax.w.length (i' (s.ek f?.wr) o.dst (.sc .bool c)).w.length with
       |false=>rw[cr]at pH;cases pH
       |true=>
        rw[cr,cond_true]at pH;have Sc:Jt (en rest) (i' (s.ek f?.wr) o.dst (.sc .bool c)) ax:=by
         obtain⟨f1,fQ,f2,f3⟩:=af;refine⟨λt ht => ?_,fQ,by rw[f2,MR,MR],λid hid=>by rw[f3 id hid,lp,lp]⟩;rw[f1 t ht,rA ej fZ,rA ej fZ];cases apF:o.dst with
         |none=>exact .inl rfl
         |some d=>
          by_cases zU:t=d
          .right
           refine⟨.bool,c,by simp[kE,o_,zU],?_⟩;simp only[kE,o_,zU];rfl
          simp[kE,o_,zU]
        obtain⟨d5,cf,cO,fi⟩:=hrest ax Sc (fy cr) pH;refine⟨d5,⟨bz,bp,bG,b_,cp,dl,eQ,lq.trans cf,?_,jX⟩,fi⟩;exact((dY.ek f?.wr _).sub (vZ aF.1) (λt h=>h) (λt h=>h)).sub cO (λt h=>h) aF.2
  obtain⟨fZ,h⟩:=uB h;obtain⟨ax,ah,ap⟩:=ih top (i+1) _ g? k r h;refine⟨ax,UK (e:=⟨i,o,.undef,false,[],[]⟩) ej rfl rfl ⟨fZ,.inr (.inl ⟨bb,rfl,rfl,rfl⟩)⟩ ?_ ?_ (vZ aF.1) (λ_ b bz h=>h) ah,ap⟩
  .rw[rA ej fZ]
  rw[lp];rfl
end Yp
namespace Yp
open Go
def pf:=@List.mem_singleton
def yS:=@List.not_mem_nil
def Fa:=@List.mem_flatMap
section
variable {phx phx':cc} {H H':cg} {B B':Nat->aQ}
def jx.h3:∀{l:List il} {vs:List Value},(∀id,id∈sT l->(B id).iC=true->phx' id=phx id)->H.cb H'->(∀id,id∈sT l->(B id).cb (B' id))->jx phx H B l vs->jx phx' H' B' l vs
 |[],_,_,_,_,h=>h
 |.iw t x::l,vs,dO,cy,aB,⟨v,d3,h,⟨cs,O,R⟩,af⟩=>⟨v,d3,h,⟨cs,O.mono cy,R⟩,jx.h3 (l:=l) dO cy aB af⟩
 |.ptr id p::l,vs,dO,cy,aB,⟨v,d3,h,O,af⟩=>by
  refine⟨v,d3,h,?_,jx.h3 (l:=l) (λj an=>dO j (by simp[sT,an])) cy (λj an=>aB j (by simp[sT,an])) af⟩;have Y:=aB id (by simp[sT]);have hf:=dO id (by simp[sT]);simp only[uS]at O ⊢;cases jB:B id<;>cases hb1:B' id<;>simp only[jB,hb1,aQ.iC]at Y hf O ⊢ <;> try(first|exact O.elim|exact Y.elim|trivial)
  all_goals first
   |(subst Y;rw[hf trivial];exact O)
   |(obtain⟨b,o,n,g1,bw⟩:=O;exact⟨b,o,n,(hf trivial).trans g1,bw⟩)
   | (
    obtain⟨b,o,n,off,t',g1,bw,cX⟩:=O;exact⟨b,o,n,(hf trivial).trans g1,λhp=>by subst hp;simp only[ae.d?,km,kH]at bw;rw[cX,<- bw.1];rfl⟩)
def jx.old:∀{l:List il} {vs:List Value},jx phx H B l vs->∀id,id∈sT l->B id ≠ .new
 |.iw t x::l,vs,⟨v,d3,h,_,af⟩,id,hi=>jx.old (l:=l) af id hi
 |.ptr j p::l,vs,⟨v,d3,h,O,af⟩,id,hi=>by
  simp only[sT,gE]at hi;rcases hi with rfl|hi
  .intro aj;simp only[uS,aj]at O
  exact jx.old (l:=l) af id hi
def bM.h3{pv:au}(dO:∀id,id∈dM pv->(B id).iC=true->phx' id=phx id)(cy:H.cb H')(aB:∀id,id∈dM pv->(B id).cb (B' id)){v:Value}(h:bM phx H B pv v):bM phx' H' B' pv v:=by
 have key:∀xu:Nat,(∀id,id∈dM pv->id=xu)->xu∈dM pv->bM phx' H' B' pv v:=λxu O R=>by
  have aqO:∀id,(B id).iC=true->(λj=>if j=xu then phx' j else phx j) id=phx id:=λid hl=>by
   grind
  have j_:∀id,(B id).cb ((λj=>if j=xu then B' j else B j) id):=λid=>by
   by_cases hi:id=xu
   .grind
   simp[hi,aQ.cb.refl]
  have:=bM.mono (phx':=λj=>if j=xu then phx' j else phx j) (H':=H') (B':=λj=>if j=xu then B' j else B j) aqO cy j_ h;cases pv<;>simp only[dM,pf,yS]at O R<;>(try exact R.elim)
  all_goals (first|(subst R;simpa[bM,hu,ti]using this)|exact this.elim|(obtain⟨vs,g1,bw⟩:=h;exact⟨vs,g1.h3 dO cy aB,bw⟩))
 cases pv with
 |own id d'=>exact key id (λ_ h=>by simpa[dM]using h) (by simp[dM])
 |osl id o n=>exact key id (λ_ h=>by simpa[dM]using h) (by simp[dM])
 |ptr id p=>exact key id (λ_ h=>by simpa[dM]using h) (by simp[dM])
 |opt id i p=>exact key id (λ_ h=>by simpa[dM]using h) (by simp[dM])
 |itp id=>exact key id (λ_ h=>by simpa[dM]using h) (by simp[dM])
 |mpp id=>exact key id (λ_ h=>by simpa[dM]using h) (by simp[dM])
 |psl id n=>exact key id (λ_ h=>by simpa[dM]using h) (by simp[dM])
 |clo f dQ cW=>obtain⟨vs,g1,bw⟩:=h;exact⟨vs,g1.h3 dO cy aB,bw⟩
 |ifc i t x=>obtain⟨cs,O,R⟩:=h;exact⟨cs,O.mono cy,R⟩
 |csl e l=>obtain⟨a,O,R⟩:=h;exact⟨a,O,R.mono cy⟩
 |ipt e l i p=>obtain⟨ao,b,o,cap,off,t',O,R,af⟩:=h;exact⟨ao,b,o,cap,off,t',O.mono cy,R,af⟩
 |_=>exact h
def e2.h3:∀{pv:au} {t:ae} {cs:List Value},(∀id,id∈dM pv->(B id).iC=true->phx' id=phx id)->H.cb H'->(∀id,id∈dM pv->(B id).cb (B' id))->e2 phx H B pv t cs->e2 phx' H' B' pv t cs:=by
 intro pv;induction pv with
 |two u v aL aC=>
  intro t cs dO cy aB h;cases t<;>simp only[e2]at h ⊢ <;> try exact h
  obtain⟨c1,c2,h,O,R⟩:=h;exact⟨c1,c2,h,aL (λid hi=>dO id (by simp[dM,hi])) cy (λid hi=>aB id (by simp[dM,hi])) O,aC (λid hi=>dO id (by simp[dM,hi])) cy (λid hi=>aB id (by simp[dM,hi])) R⟩
 |sc t' x=>intro t cs dO cy aB h;obtain⟨ao,h⟩:=h;exact⟨ao,h.mono cy⟩
 |agg t a=>intro t cs dO cy aB h;exact h
 |tup a=>intro t cs dO cy aB h;exact h
 |bad=>intro t cs dO cy aB h;exact h
 |_=>intro t cs dO cy aB h;obtain⟨ao,v,O,R,af⟩:=h;exact⟨ao,v,O,R,bM.h3 dO cy aB af⟩
def dZ.h3{pv:au}(dO:∀id,id∈dM pv->(B id).iC=true->phx' id=phx id)(cy:H.cb H')(aB:∀id,id∈dM pv->(B id).cb (B' id)){v:Value}(h:dZ phx H B pv v):dZ phx' H' B' pv v:=by
 cases pv with
 |sc t x=>obtain⟨cs,O,R⟩:=h;exact⟨cs,O.mono cy,R⟩
 |agg t a=>obtain⟨ao,cs,O,R⟩:=h;exact⟨ao,cs,e2.h3 dO cy aB O,R⟩
 |_=>simp only[dZ]at h ⊢;exact bM.h3 dO cy aB h
def lD.h3:∀{pv:au} {vs:List Value},(∀id,id∈dM pv->(B id).iC=true->phx' id=phx id)->H.cb H'->(∀id,id∈dM pv->(B id).cb (B' id))->lD phx H B pv vs->lD phx' H' B' pv vs:=by
 intro pv;induction pv with
 |two u r aL ah =>intro vs dO cy aB h;obtain⟨v,d3,ao,O,R⟩:=h;exact⟨v,d3,ao,dZ.h3 (λid hi=>dO id (by simp[dM,hi])) cy (λid hi=>aB id (by simp[dM,hi])) O,ah (λid hi=>dO id (by simp[dM,hi])) cy (λid hi=>aB id (by simp[dM,hi])) R⟩
 |sc t x=>intro vs dO cy aB h;cases t<;>exact h
 |_=>intro vs dO cy aB h;exact h
def a?.h3{pv:au}(dO:∀id,id∈dM pv->(B id).iC=true->phx' id=phx id)(cy:H.cb H')(aB:∀id,id∈dM pv->(B id).cb (B' id)){v:Value}(h:a? phx H B pv v):a? phx' H' B' pv v:=by
 cases pv with
 |tup a=>obtain⟨vs,O,R⟩:=h;exact⟨vs,lD.h3 dO cy aB O,R⟩
 |_=>simp only[a?]at h ⊢;exact dZ.h3 dO cy aB h
def bM.old{pv:au}{v:Value}(h:bM phx H B pv v):∀id,id∈dM pv->B id ≠ .new:=by
 intro id hi aj;cases pv<;>simp only[dM,pf,yS]at hi<;>(try exact hi.elim)
 all_goals (first|(subst hi;simp only[bM,aj]at h)|exact h.elim|(obtain⟨vs,g1,bw⟩:=h;exact g1.old id hi aj))
def e2.old:∀{pv:au} {t:ae} {cs:List Value},e2 phx H B pv t cs->∀id,id∈dM pv->B id ≠ .new:=by
 intro pv;induction pv with
 |two u v aL aC=>
  intro t cs h id hi;cases t<;>simp only[e2]at h;simp only[dM,io]at hi
  grind
 |sc t' x=>intro t cs h id hi;simp[dM]at hi
 |agg t a=>intro t cs h;exact h.elim
 |tup a=>intro t cs h;exact h.elim
 |bad=>intro t cs h id hi;simp[dM]at hi
 |_=>intro t cs h;obtain⟨ao,v,O,R,af⟩:=h;exact af.old
def dZ.old{pv:au}{v:Value}(h:dZ phx H B pv v):∀id,id∈dM pv->B id ≠ .new:=by
 cases pv with
 |sc t x=>intro id hi;simp[dM]at hi
 |agg t a=>obtain⟨ao,cs,O,R⟩:=h;exact O.old
 |_=>simp only[dZ]at h;exact bM.old h
def lD.old:∀{pv:au} {vs:List Value},lD phx H B pv vs->∀id,id∈dM pv->B id ≠ .new:=by
 intro pv;induction pv with
 |two u r aL ah =>intro vs h id hi;obtain⟨v,d3,ao,O,R⟩:=h;simp only[dM,io]at hi;exact hi.elim (O.old id) (ah R id)
 |sc t x=>intro vs h id hi;simp[dM]at hi
 |_=>intro vs h;exact h.elim
def a?.old{pv:au}{v:Value}(h:a? phx H B pv v):∀id,id∈dM pv->B id ≠ .new:=by
 cases pv with
 |tup a=>obtain⟨vs,O,R⟩:=h;exact O.old
 |_=>simp only[a?]at h;exact dZ.old h
end
def k5.h3{phx phx':cc}{H H':cg}{B B':Nat->aQ}{kt:ae}:∀{l:List (kt.aD×au)} {es:List MapEntry},(∀p∈l,∀id∈dM p.2,(B id).iC=true->phx' id=phx id)->H.cb H'->(∀p∈l,∀id∈dM p.2,(B id).cb (B' id))->k5 phx H B kt l es->k5 phx' H' B' kt l es
 |[],_,_,_,_,h=>h
 |(k,v)::l,_,dO,cy,aB,⟨e,es',h,⟨am,O,R⟩,af,aq⟩=>
  ⟨e,es',h,⟨am,O.mono cy,R⟩,af.h3 (λid hi=>dO (k,v) bh id hi) cy (λid hi=>aB (k,v) bh id hi),k5.h3 (λp hp=>dO p (by grind)) cy (λp hp=>aB p (by grind)) aq⟩
def k5.old{phx:cc}{H:cg}{B:Nat->aQ}{kt:ae}:∀{l:List (kt.aD×au)} {es:List MapEntry},k5 phx H B kt l es->∀p∈l,∀id∈dM p.2,B id ≠ .new
 |[],_,_,p,hp=>by simp at hp
 |(k,v)::l,_,⟨e,es',h,_,af,aq⟩,p,hp=>by
  rcases gE.1 hp with rfl|hp
  .exact af.old
  exact k5.old aq p hp
def lC.h3{phx phx':cc}{M ay:Nat->Prop}{w w':World}{H H':cg}{B B':Nat->aQ}{id:Nat}{b:aQ}
  (hid:phx' id=phx id) (dO:∀j,j∈x3 b->(B j).iC=true->phx' j=phx j) (cy:H.cb H') (aB:∀j,j∈x3 b->(B j).cb (B' j))
  (bb:∀x,phx id=some x->b.fv=true->w'.heap[x.1]?=w.heap[x.1]?) (dS:∀x,phx id=some x->b.fv=true->M x.1->ay x.1)
  (h:lC phx M w H B id b):lC phx' ay w' H' B' id b:=by
 cases b with
 |new=>trivial
 |e9=>trivial
 |box t v =>obtain⟨b,o,c,el,fz,O,R,af,aq,a8,cT⟩:=h;exact⟨b,o,c,el,fz,hid.trans O,(bb _ O rfl).trans R,af,e2.h3 dO cy aB aq,a8,dS _ O rfl cT⟩
 |ob e l=>
  refine⟨h.1,?_⟩;rcases h.2 with⟨O,R⟩|⟨b,o,c,el,fz,O,R,af,aq,a8⟩
  .grind
  exact .inr ⟨b,o,c,el,fz,hid.trans O,(bb _ O rfl).trans R,af.mono cy,aq,dS _ O rfl a8⟩
 |fz e l=>
  refine⟨h.1,?_⟩;rcases h.2 with⟨O,R⟩|⟨b,o,c,el,fz,O,R,af⟩
  .grind
  exact .inr ⟨b,o,c,el,fz,hid.trans O,cy _ _ R,af.mono cy⟩
 |it s p =>obtain⟨b,O,R,af⟩:=h;exact⟨b,hid.trans O,(bb _ O rfl).trans R,dS _ O rfl af⟩
 |mp kt vt l =>obtain⟨b,es,m',O,R,af,aq⟩:=h;refine⟨b,es,m',hid.trans O,(bb _ O rfl).trans R,k5.h3 (λp hp j an=>dO j (Fa.2 ⟨p,hp,an⟩)) cy (λp hp j an=>aB j (Fa.2 ⟨p,hp,an⟩)) af,dS _ O rfl aq⟩
def lC.old{phx:cc}{M:Nat->Prop}{w:World}{H:cg}{B:Nat->aQ}{id:Nat}{b:aQ}(h:lC phx M w H B id b):∀j,j∈x3 b->B j ≠ .new:=by
 cases b with
 |box t v=>obtain⟨b,o,c,el,fz,O,R,af,aq,a8,cT⟩:=h;exact aq.old
 |mp kt vt l =>obtain⟨b,es,m',O,R,af,aq⟩:=h;intro j an;obtain⟨p,hp,an⟩:=Fa.1 an;exact af.old p hp j an
 |_=>intro j an;simp[x3]at an
end Yp
namespace Yp
open Go
def mv:=@Array.getD_eq_getD_getElem?
def wE:=@List.mem_append_right
def yX:=@List.mem_append_left
def wz:=@List.any_eq_true
def yN:=@Bool.or_eq_true
def ES:=@List.mem_cons_self
def pm:=@Iff.rfl
def O2:=@List.getElem?_cons_zero
variable {P:Program}
def j3(P:Program)(f:Nat)(g:fJ):Prop:=rV P f/\∀(K:Kp) (w0:World),pe P K w0->∀(b9:Nat) (aZ:List au) (s:aM) (ρ:Type) (k:au×aM->aP ρ) (r:ρ),((g b9 aZ s).bind k).bI=some r ->
 ∀(phx:cc) (M:Nat->Prop) (w:World) (vs:List Value),Mem K w0 phx M s.aR w->gi phx (view w M) s.aR aZ vs ->
  Calls P f vs.toArray w λe w'=>∃b2,e=.returned b2/\∃v ax phx' ay,(k (v,ax)).bI=some r/\Mem K w0 phx' ay ax.aR w'/\cm phx M s.aR w phx' ay ax.aR w'/\a? phx' (view w' ay) ax.aR v b2/\dY [] s ax
def g9(D:List Nat)(a a':Act):Prop:=a'.tmps.size=a.tmps.size/\a'.defers=a.defers/\∀t,t∉D->a'.tmps.getD t undef=a.tmps.getD t undef
def g9.refl(D:List Nat)(a:Act):g9 D a a:=⟨rfl,rfl,λ_ _=>rfl⟩
def g9.sub{E:List Nat}{a b c:Act}(h:g9 D a b)(k:g9 j2 b c)(aF:∀t,t∈D->t∈E)(CT:∀t,t∈j2->t∈E):g9 E a c:=
 ⟨k.1.trans h.1,k.2.1.trans h.2.1,λt ht=>(k.2.2 t λai=>ht (CT t ai)).trans (h.2.2 t λai=>ht (aF t ai))⟩
def g9.put{a:Act}{c7:Option Nat}{v:Value}(h:∀d,c7=some d->d∈D):g9 D a (a.put c7 v):=by
 cases c7 with
 |none=>exact g9.refl D a
 |some d =>refine⟨by simp[Act.put],rfl,λt ht => ?_⟩;have:d≠t:=λe=>ht (e▸h d rfl);simp[Act.put,BG this]
section
variable {K:Kp} {w0 w:World} {phx:cc} {M:Nat->Prop} {B B':Nat->aQ} {g:Nat->au} {H:cg} {E:db} {nt:Nat}
def r2.bO{v0 v:au}{x:Value}(h:r2 v0 v)(ah:a? phx H B v0 x):a? phx H B v x:=by
 rcases h with rfl|⟨c,rfl,rfl⟩
 .exact ah
 rw[ah.bool];rfl
def dw.put{a:Act}(ac:dw phx H B g a){c7:Option Nat}(aF:∀d,c7=some d->d<a.tmps.size){v:au}{x:Value}(ah:a? phx H B v x):dw phx H B (kE g c7 v) (a.put c7 x):=by
 cases c7 with
 |none=>exact ac
 |some d=>
  intro t;simp only[kE,o_];by_cases h:t=d
  .subst h
   have:=aF t rfl;simpa[Act.put,this]using ah
  rw[if_neg h];have:=ac t;simpa[Act.put,BG (nI h)]using this
def Wk{ops:Array Oper}{a:Act}(h:(ops.toList[j]?).bind (·.dst)=some d):(∀b,a.tmps.getD d undef=.bool b->yielded ops a.tmps j=some b)/\(a.tmps.getD d undef=undef->yielded ops a.tmps j=none):=by
 rw[wD]at h;unfold yielded;rw[h];simp only[Option.bind_some];refine⟨λb Y => ?_,λY => ?_⟩
 .cases hg:a.tmps[d]? with
  |none=>rw[mv,hg]at Y;cases Y
  |some v=>rw[mv,hg]at Y;simp at Y;rw[Y]
 cases hg:a.tmps[d]? with
 |none=>rfl
 |some v=>rw[mv,hg]at Y;simp at Y;rw[Y];rfl
def V2{ops:Array Oper}{o:Oper}{a:Act}(h:wN ops.toList o g)(ac:dw phx H B g a):Region.wanted o (yielded ops a.tmps)=true:=by
 rcases h with h|⟨j,lV,d,O,R,af⟩
 .simp[Region.wanted,h]
 have aC:=ac d;rw[af]at aC;simp[Region.wanted,O,(Wk R).1 _ aC]
def agt{ops:Array Oper}{o:Oper}{a:Act}(h:E1 ops.toList o g)(ac:dw phx H B g a):Region.wanted o (yielded ops a.tmps)=false:=by
 obtain⟨j,lV,d,O,R,af⟩:=h;have aC:=ac d;rcases af with af|af<;>rw[af]at aC
 .have aC:=aC
  simp[Region.wanted,O,(Wk R).1 _ aC]
 have aC:=aC;simp[Region.wanted,O,(Wk R).2 aC]
def dY.wr{s ax:aM}(h:dY D s ax):ax.aR=dx s.aR (mZ s ax):=by
 obtain⟨_,fQ,R,af⟩:=h;have aj:Tx s ax=fQ:=by unfold Tx;rw[R,cG,Nat.add_sub_cancel,List.take_left'];rfl
 funext id;unfold mZ dx;have key:∀(l:List Nat) (d:aQ),nr (l.map λid=>(id,ax.aR id)) id d=if id∈l then ax.aR id else d:=by
  intro l d;induction l with
  |nil=>rfl
  |cons x l ih=>
   simp only[pj,nr];by_cases hx:x=id
   .subst hx;simp
   rw[hv hx,cond_false,ih]
   grind
 grind
def xE{id:Nat}:∀(l:List (Nat×aQ)) (d:aQ),id∉l.map (·.1)->nr l id d=d
 |[],_,_=>rfl
 |p::l,d,h=>by simp only[pj,gE,not_or]at h;simp only[nr];rw[hv (nI h.1)];exact xE l d h.2
def gi.h3:∀{aZ:List au} {vs:List Value} {B':Nat->aQ},(∀p∈aZ,∀j,j∈dM p->B' j=B j)->gi phx H B aZ vs->gi phx H B' aZ vs
 |[],[],_,_,_=>trivial
 |p::aZ,v::vs,B',ai,h=>⟨h.1.h3 (λ_ _ _=>rfl) (cg.cb.refl _) (λj an=>by rw[ai p bh j an];exact aQ.cb.refl _),gi.h3 (λq a2=>ai q (by grind)) h.2⟩
def j3.frame{sk:fJ}(fS:j3 P f sk)(gn:pe P K w0)(hm:Mem K w0 phx M B w){s ax:aM}{b9:Nat}{aZ:List au}{v0:au}(iR:(sk b9 aZ s).bI=some (v0,ax)){ke:List Nat}
  (xp:∀id,id∈ke->s.aR id=B id) (SM:∀id,id∉ke->s.aR id=.new) (eB:∀id j,j∈x3 (s.aR id)->j∈ke) (pE:∀p∈aZ,∀j,j∈dM p->j∈ke)
  (arn:∀id,id∈(mZ s ax).map (·.1)->id∈ke) {vs:List Value} (hp:gi phx (view w M) B aZ vs) :
  Calls P f vs.toArray w λe w'=>∃b2,e=.returned b2/\∃phx' ay,Mem K w0 phx' ay (dx B (mZ s ax)) w'/\cm phx M B w phx' ay (dx B (mZ s ax)) w'/\a? phx' (view w' ay) (dx B (mZ s ax)) v0 b2:=by
 let WF:Kp:=⟨λb=>K.k b\/∃id x,id∉ke/\(B id).fv=true/\phx id=some x/\x.1=b,M⟩
 have Tt:∀id,(s.aR id).fv=true->id∈ke/\(B id).fv=true:=λid h=>by
  by_cases ap:id∈ke
  .rw[xp id ap]at h;exact⟨ap,h⟩
  rw[SM id ap]at h;cases h
 have h?:Mem WF w phx M s.aR w:=by
  refine⟨rfl,rfl,rfl,bU _,λ_ _=>rfl,λb Y => ?_,λ_ _=>pm,λid hi x hx ai => ?_,hm.mlt,λid => ?_,λi j i3 hi an => ?_⟩
  .rcases Y with Y|⟨id,x,_,R,af,rfl⟩
   .exact hU (hm.klt b Y) hm.size
   exact(hm.blks id).lt R af
  .obtain⟨ap,tT⟩:=Tt id hi
   rcases ai with ai|⟨oR,wl,O,R,af,aq⟩
   .exact hm.own id tT x hx ai
   exact hm.sep oR id (λe=>O (e▸ap)) R tT wl x af hx aq
  .by_cases ap:id∈ke
   .have h:=hm.blks id
    rw[xp id ap];refine lC.h3 rfl (λ_ _ _=>rfl) (cg.cb.refl _) (λj an => ?_) (λ_ _ _=>rfl) (λ_ _ _ h=>h) h;rw[xp j (eB id j (by rw[xp id ap];exact an))];exact aQ.cb.refl _
   rw[SM id ap];trivial
  exact hm.sep i j i3 (Tt i hi).2 (Tt j an).2
 have aqJ:gi phx (view w M) s.aR aZ vs:=hp.h3 λp a2 j an=>xp j (pE p a2 j an);refine(fS.2 WF w ⟨λg hg=>.inl (gn.gl g hg),gn.keys hm⟩ b9 aZ s (au×aM) .leaf (v0,ax) (by rw[kq];exact iR) phx M w vs h? aqJ).mono ?_;rintro e w' ⟨b2,rfl,v,d5,hk,fr,bG,b_,cp,dl,eQ⟩;cases bG;have j_:=eQ.wr;have Ho:∀id,id∈ke->ax.aR id=dx B (mZ s ax) id:=λid ap=>by rw[j_];unfold dx;rw[xp id ap]
 have N1:∀id,id∉ke->ax.aR id=.new/\dx B (mZ s ax) id=B id:=λid ap=>by have abH:id∉(mZ s ax).map (·.1):=λh=>ap (arn id h);refine⟨?_,xE _ _ abH⟩;rw[j_];exact(xE _ _ abH).trans (SM id ap)
 have M1:∀j,ax.aR j ≠ .new->j∈ke:=λj h=>by
  by_cases ap:j∈ke
  .exact ap
  exact absurd (N1 j ap).1 h
 let jH:cc:=λid=>if id∈ke then hk id else phx id
 have u7:∀id,id∈ke->jH id=hk id:=λid h=>if_pos h;have zl:∀id,id∉ke->jH id=phx id:=λid h=>if_neg h;have iB:∀id,(B id).iC=true->jH id=phx id:=λid hl=>by
  by_cases ap:id∈ke
  .rw[u7 id ap];exact cp.pl id (by rw[xp id ap];exact hl)
  exact zl id ap
 have dD:∀id,(B id).cb (dx B (mZ s ax) id):=λid=>by
  by_cases ap:id∈ke
  .rw[<- Ho id ap,<- xp id ap];exact cp.bl id
  rw[(N1 id ap).2];exact aQ.cb.refl _
 have HF:∀id,id∈ke->(dx B (mZ s ax) id).fv=true->(ax.aR id).fv=true:=λid ap h=>by rw[Ho id ap];exact h
 have HG:∀id,id∉ke->(dx B (mZ s ax) id).fv=true->(B id).fv=true:=λid ap h=>by rw[<- (N1 id ap).2];exact h
 refine⟨b2,rfl,jH,fr,⟨b_.os.trans hm.os,b_.tape.trans hm.tape,b_.output.trans hm.output,eZ hm.size b_.size,λb Y=>(b_.keep b (.inl Y)).trans (hm.keep b Y),hm.klt,λb Y=>(b_.hid b (.inl Y)).trans (hm.hid b Y),λid hi x hx ai => ?_,b_.mlt,λid => ?_,λi j i3 hi an x y hx hy => ?_⟩,⟨iB,cp.vw,dD⟩,?_⟩
 .by_cases ap:id∈ke
  .rw[u7 id ap]at hx;exact b_.own id (HF id ap hi) x hx (.inl ai)
  rw[zl id ap]at hx;exact hm.own id (HG id ap hi) x hx ai
 .by_cases ap:id∈ke
  .rw[<- Ho id ap]
   have h:=b_.blks id;refine lC.h3 (u7 id ap) (λj an _=>u7 j (M1 j (h.old j an))) (cg.cb.refl _) (λj an => ?_) (λ_ _ _=>rfl) (λ_ _ _ h=>h) h;rw[Ho j (M1 j (h.old j an))];exact aQ.cb.refl _
  rw[(N1 id ap).2];refine lC.h3 (zl id ap) (λj _ hl=>iB j hl) cp.vw (λj _=>dD j) (λx hx tT=>b_.keep x.1 (.inr ⟨id,x,ap,tT,hx,rfl⟩)) (λx hx tT dS=>(b_.hid x.1 (.inr ⟨id,x,ap,tT,hx,rfl⟩)).2 dS) (hm.blks id)
 .by_cases vn:i∈ke<;>by_cases vo:j∈ke
  .rw[u7 i vn]at hx;rw[u7 j vo]at hy;exact b_.sep i j i3 (HF i vn hi) (HF j vo an) x y hx hy
  .rw[u7 i vn]at hx;rw[zl j vo]at hy
   exact λe=>b_.own i (HF i vn hi) x hx (.inr ⟨j,y,vo,HG j vo an,hy,e.symm⟩)
  .rw[zl i vn]at hx;rw[u7 j vo]at hy
   exact λe=>b_.own j (HF j vo an) y hy (.inr ⟨i,x,vn,HG i vn hi,hx,e⟩)
  rw[zl i vn]at hx;rw[zl j vo]at hy;exact hm.sep i j i3 (HG i vn hi) (HG j vo an) x y hx hy
 exact dl.h3 (λj an _=>u7 j (M1 j (dl.old j an))) (cg.cb.refl _) (λj an=>by rw[Ho j (M1 j (dl.old j an))];exact aQ.cb.refl _)
def ww.congr{E:db}{ops:List Oper}{o:Oper}{g bw:Nat->au}{B b4:Nat->aQ}{v0:au}{rb:List Nat}{wr:List (Nat×aQ)}(h:ww E ops o g B v0 rb wr)(hg:∀t,Nat.testBit (ki ops o) t=true->bw t=g t)
  (aB:∀id,id∈rb\/id∈wr.map (·.1)->b4 id=B id):ww E ops o bw b4 v0 rb wr:=by
 obtain⟨F,dQ,cW,sk,aZ,s,ax,f,args,eg,b9,O,R,af,aq,a8,cT,dN,cz,lJ,kO⟩:=h;refine⟨F,dQ,cW,sk,aZ,s,ax,f,args,eg,b9,O,R,af,?_,λcX uJ Sf=>a8 cX uJ λt ht=>(Sf t ht).trans (hg t ht),λid hid => ?_,dN,cz,lJ,kO⟩
 .cases f with
  |tmp t=>simp only[Rn]at aq ⊢;rw[hg t af];exact aq
  |func f=>exact aq
  |const v=>exact aq
  |global i=>exact aq
 grind
def Th:∀{l:List (Nat×aQ)} {id:Nat},id∉l.map (·.1)->qz l id=.new
 |[],_,_=>rfl
 |(i,b)::r,id,h=>by simp only[pj,gE,not_or]at h;simp only[qz];rw[hv (nI h.1)];exact Th h.2
def acR:∀{l:List (Nat×aQ)} {id:Nat},id∈l.map (·.1)->∃b,(id,b)∈l/\qz l id=b
 |(i,b)::r,id,h=>by
  simp only[qz];by_cases hi:i=id
  .subst hi;rw[kp rfl];exact⟨b,bh,rfl⟩
  rw[hv hi];simp only[pj,gE]at h;obtain⟨c,ai,R⟩:=acR (h.resolve_left (nI hi))
  grind
def al4{s:aM}{aZ:List au}(h:FH s aZ=true):(∀id j,j∈x3 (s.aR id)->j∈pK s)/\∀p∈aZ,∀j,j∈dM p->j∈pK s:=by
 unfold FH at h;simp only[cM]at h;have any:∀{j:Nat},(pK s).any (Nat.beq j)=true->j∈pK s:=λh=>by obtain⟨x,hx,aA⟩:=wz.1 h;rw[fy aA];exact hx
 refine⟨λid j an => ?_,λp hp j an=>any (pi.1 (pi.1 h.2 p hp) j an)⟩;by_cases ap:id∈s.h.map (·.1)
 .obtain⟨b,Y,aA⟩:=acR ap
  have aA:s.aR id=b:=aA
  grind
 have:s.aR id=.new:=Th ap;rw[this]at an;simp[x3]at an
def ar0(dA:ot P E K w0)(eo:∀f g,E.I f=some g->j3 P f g){ops:List Oper}{o:Oper}{a:Act}{v0:au}{rb:List Nat}{wr:List (Nat×aQ)}(hm:Mem K w0 phx M B w)(ac:dw phx (view w M) B g a)(h:ww E ops o g B v0 rb wr)
  {Kn:Act->World->Prop} {Q:Exit->Act->World->Prop}
  (ap:∀phx' ay w' x,Mem K w0 phx' ay (dx B wr) w'->cm phx M B w phx' ay (dx B wr) w'->a? phx' (view w' ay) (dx B wr) v0 x->Kn (a.put o.dst x) w'):o.wp P a w Kn Q:=by
 obtain⟨F,dQ,cW,sk,aZ,s,ax,f,args,eg,b9,O,R,af,aq,a8,cT,dN,cz,lJ,kO⟩:=h;obtain⟨c7,op,type,i_,after,CK⟩:=o;subst O;have fS:=eo _ _ R;have qv:a? phx (view w M) B (.clo F dQ cW) (a.eval f):=by
  rw[<- aq];cases f with
  |tmp t=>exact ac t
  |func f=>exact⟨[],rfl,rfl⟩
  |const v=>cases af
  |global i=>cases af
 obtain⟨us,aA,oN⟩:=qv;refine Ol oN fS.1 ?_;obtain⟨_,dd⟩:=xH ac (a8 g B λ_ _=>rfl);have bu:(args.toList.map a.eval).toArray=args.map a.eval:=by apply m3;simp
 have iO:(us.take dQ++(args.toList.map a.eval++us.drop dQ)).toArray=(us.take dQ).toArray++args.map a.eval++(us.drop dQ).toArray:=bh;rw[<- iO];obtain⟨bF,b3⟩:=al4 dN;subst lJ;refine(fS.frame (dA.gk (.inr (.inl ⟨_,_,R⟩))) hm cz cT (λid hid=>Th λai=>hid (yX _ ai)) (λid j an=>yX _ (bF id j an)) (λp hp j an=>yX _ (b3 p hp j an)) (λid hid=>wE _ hid) (Qt aA dd)).mono ?_
 grind
def aht{x:Value}(h:x=undef):a? phx H B .undef x:=h
def Zw(hT:mV P E.b8)(cx:ps P E.b8 E.C)(g3:qA P E.M)(dA:ot P E K w0)(eo:∀f g,E.I f=some g->j3 P f g){ops:Array Oper}{e:eY}{a:Act}(aj:∀d,e.o.dst=some d->d<nt)(ej:nt<=a.tmps.size)(hm:Mem K w0 phx M B w)(ac:dw phx (view w M) B g a)
  (h:(wN ops.toList e.o g/\∃v0,r2 v0 e.v/\(rv E e.o).aY g B=some (v0,dx B e.wr))\/(E1 ops.toList e.o g/\e.v=.undef/\e.wr=[])\/(wN ops.toList e.o g/\∃v0,r2 v0 e.v/\ww E ops.toList e.o g B v0 e.rb e.wr))
  {Kn:Act->World->Prop} {Q:Exit->Act->World->Prop}
  (ap:∀phx' ay w' x,Mem K w0 phx' ay (dx B e.wr) w'->cm phx M B w phx' ay (dx B e.wr) w'->dw phx' (view w' ay) (dx B e.wr) (kE g e.o.dst e.v) (a.put e.o.dst x)->Kn (a.put e.o.dst x) w') :
  if Region.wanted e.o (yielded ops a.tmps) then e.o.wp P a w Kn Q else Kn (a.put e.o.dst undef) w:=by
 have aF:∀d,e.o.dst=some d->d<a.tmps.size:=λd h=>hU (aj d h) ej;rcases h with⟨bb,v0,tV,ra⟩|⟨bb,aC,C6⟩|⟨bb,v0,tV,fA⟩
 .rw[if_pos (V2 bb ac)]
  refine TU hT cx g3 dA ra hm ac λr w' bu => ?_;obtain⟨phx',ay,bD,e1,eG⟩:=bu;exact ap phx' ay w' r bD e1 ((ac.ext e1).put aF (tV.bO eG))
 .rw[if_neg (by rw[agt bb ac];simp)]
  have aB:dx B e.wr=B:=by rw[C6];rfl
  have:=ap phx M w undef (by rw[aB];exact hm) (by rw[aB];exact cm.refl _ _ _ _) (by rw[aB,aC];exact ac.put aF (aht rfl));exact this
 rw[if_pos (V2 bb ac)];exact ar0 dA eo hm ac fA λphx' ay w' r bD e1 eG=>ap phx' ay w' r bD e1 ((ac.ext e1).put aF (tV.bO eG))
def ahj(hT:mV P E.b8)(cx:ps P E.b8 E.C)(g3:qA P E.M)(dA:ot P E K w0)(eo:∀f g,E.I f=some g->j3 P f g){ops:Array Oper}{Q:Exit->Act->World->Prop}:∀(bz:List eY) {phx:cc} {M:Nat->Prop} {B:Nat->aQ} {g:Nat->au} {w:World} {a:Act},
  wM E ops.toList nt false bz g B->Mem K w0 phx M B w->dw phx (view w M) B g a->nt<=a.tmps.size ->
  (∀phx' ay w' a',Mem K w0 phx' ay (eb bz (λ_=>true) B) w'->cm phx M B w phx' ay (eb bz (λ_=>true) B) w'->dw phx' (view w' ay) (eb bz (λ_=>true) B) (fg bz (λ_=>true) g) a'->g9 (en (bz.map (·.o))) a a'->Q .normal a' w') ->
  wpList P ops Q (bz.map (·.o)) a w
 |[],phx,M,B,g,w,a,_,hm,ac,_,a2=>a2 phx M w a hm (cm.refl _ _ _ _) ac (g9.refl _ _)
 |e::bz,phx,M,B,g,w,a,aC,hm,ac,ej,a2=>by
  obtain⟨⟨aj,iR⟩,aC⟩:=aC;have aF:=tG e.o (bz.map (·.o));have:=Zw (P:=P) (Kn:=wpList P ops Q (bz.map (·.o))) (Q:=Q) hT cx g3 dA eo aj ej hm ac (iR.imp (λ⟨O,v0,R,af,_⟩=>⟨O,v0,R,af⟩) (λh=>h.elim (λ⟨O,R,af,_⟩=>.inl ⟨O,R,af⟩) (λh=>by cases h.1))) λphx' ay w' x bD e1 bp=>by refine ahj hT cx g3 dA eo bz aC bD bp (by simp only[Act.put];split<;>simpa using ej) λjH c8 cO cR cn aN ax b3 => ?_;exact a2 jH c8 cO cR cn (e1.trans aN) ax ((g9.put aF.1).sub b3 (λt h=>h) aF.2)
  simp only[pj,wpList];split
  .rename_i bb;rw[if_pos bb]at this;exact .inl this
  rename_i bb;rw[if_neg bb]at this;exact this
def ye{t:Nat}:∀(bz:List eY) {L uM:Nat->Bool} {g i1:Nat->au},g t=i1 t->(∀e∈bz,e.o.dst=some t->L e.i=uM e.i)->fg bz L g t=fg bz uM i1 t
 |[],_,_,_,_,h,_=>h
 |e::bz,L,uM,g,i1,h,hL=>by
  refine ye bz ?_ λbC aA=>hL bC (wH _ aA);have key:∀(x:Nat->au),e.o.dst≠some t->kE x e.o.dst e.v t=x t:=λx eC=>by
   cases aF:e.o.dst with
   |none=>rfl
   |some d=>simp only[kE,o_];rw[if_neg];intro h;exact eC (by grind)
  by_cases aF:e.o.dst=some t
  .rw[hL e ES aF]
   cases uM e.i with
   |false=>exact h
   |true=>simp only[cond,aF,kE,o_,if_true]
  grind
def acQ{id:Nat}:∀(l:List (Nat×aQ)) (d l4:aQ),id∈l.map (·.1)->nr l id d=nr l id l4
 |p::l,d,l4,h=>by
  simp only[nr];by_cases hp:p.1=id
  .rw[kp hp];rfl
  rw[hv hp];simp only[pj,gE]at h;exact acQ l d l4 (h.resolve_left (nI hp))
def yd{id:Nat}:∀(bz:List eY) {L uM:Nat->Bool} {B B':Nat->aQ},B id=B' id->(∀e∈bz,id∈e.wr.map (·.1)->L e.i=uM e.i)->eb bz L B id=eb bz uM B' id
 |[],_,_,_,_,h,_=>h
 |e::bz,L,uM,B,B',h,hL=>by
  refine yd bz ?_ λbC aA=>hL bC (wH _ aA);by_cases aF:id∈e.wr.map (·.1)
  .rw[hL e ES aF]
   cases uM e.i with
   |false=>exact h
   |true=>simp only[cond,dx,h]
  have key:∀(x:Nat->aQ),dx x e.wr id=x id:=λx=>xE _ _ aF
  grind
def U6(L:Nat->Bool):∀(a b:List eY) (g:Nat->au),fg (a++b) L g=fg b L (fg a L g)
 |[],_,_=>rfl
 |e::a,b,g=>U6 L a b _
def U5(L:Nat->Bool):∀(a b:List eY) (B:Nat->aQ),eb (a++b) L B=eb b L (eb a L B)
 |[],_,_=>rfl
 |e::a,b,B=>U5 L a b _
def wM.at{ops:List Oper}{dk:Bool}{e:eY}:∀(pre:List eY) {post:List eY} {g:Nat->au} {B:Nat->aQ},wM E ops nt dk (pre++e::post) g B->Js E ops nt dk (fg pre (λ_=>true) g) (eb pre (λ_=>true) B) e
 |[],_,_,_,h=>h.1
 |_::pre,_,_,_,h=>wM.at pre h.2
end
def OH(e1 aN:eY)(id:Nat):Prop:=(id∈e1.wr.map (·.1)/\id∈aN.rb)\/(id∈e1.wr.map (·.1)/\id∈aN.wr.map (·.1))\/(id∈e1.rb/\id∈aN.wr.map (·.1))\/(e1.al=true/\id∈aN.wr.map (·.1))\/(aN.al=true/\id∈e1.wr.map (·.1))
def Tp{a b:List Nat}(O:k∈a)(R:k∈b):Me a b=true:=by exact wz.2 ⟨k,O,wz.2 ⟨k,R,BS k⟩⟩
def ZA{e:eY}:∀{bz:List eY},e∈bz->(e.al=true\/e.rb≠[]\/e.wr≠[])->(⟨e.i,e.al,e.rb,e.wr.map (·.1)⟩:ou)∈nb bz
 |bC::bz,h,eC=>by
  simp only[nb];rcases gE.1 h with rfl|h
  .grind
  have:=ZA h eC
  grind
def TW{nO:List Nat}:∀{bz:List eY},qJ nO (nb bz)=true->bz.Pairwise λe1 aN=>∀id,OH e1 aN id->Nat.testBit (nO.getD aN.i 0) e1.i=true
 |[],_=>List.Pairwise.nil
 |e::bz,h=>by
  have split:qJ nO (nb bz)=true/\((e.al=true\/e.rb≠[]\/e.wr≠[])->(nb bz).all (λg=>!((⟨e.i,e.al,e.rb,e.wr.map (·.1)⟩:ou).Kx g)||Nat.testBit (nO.getD g.i 0) e.i)=true):=by
   simp only[nb]at h;cases bu:e.al<;>cases ah:e.rb<;>cases bb:e.wr<;>rw[bu,ah,bb]at h
   .grind
   all_goals
    simp only[qJ,cM]at h
    grind
  refine List.Pairwise.cons (λaN tR id hh => ?_) (TW split.1);have eC:(e.al=true\/e.rb≠[]\/e.wr≠[])/\(aN.al=true\/aN.rb≠[]\/aN.wr≠[]):=by
   have d':∀{l:List Nat},id∈l->l≠[]:=λh e=>by rw[e]at h;simp at h
   have azR:∀{l:List (Nat×aQ)},id∈l.map (·.1)->l≠[]:=λh e=>by rw[e]at h;simp at h
   rcases hh with⟨O,R⟩|⟨O,R⟩|⟨O,R⟩|⟨O,R⟩|⟨O,R⟩
   .grind
   .grind
   .grind
   .grind
   grind
  have:=pi.1 (split.2 eC.1) _ (ZA tR eC.2);have eB:(⟨e.i,e.al,e.rb,e.wr.map (·.1)⟩:ou).Kx ⟨aN.i,aN.al,aN.rb,aN.wr.map (·.1)⟩=true:=by
   unfold ou.Kx;have abS:∀{l:List Nat},id∈l->U2 l=true:=λh=>by
    rename_i l;cases l with
    |nil=>cases h
    |cons x l=>rfl
   rcases hh with⟨O,R⟩|⟨O,R⟩|⟨O,R⟩|⟨O,R⟩|⟨O,R⟩
   .simp only[Tp O R,Bool.true_or]
   .simp only[Tp O R,Bool.true_or,Bool.or_true]
   .simp only[Tp O R,Bool.true_or,Bool.or_true]
   .grind
   grind
  grind
def WL(nO:List Nat)(p:Nat×Nat×Nat)(i pT wr:Nat):Prop:=(Nat.land p.2.2 (pT|||wr)=0/\Nat.land p.2.1 wr=0)\/Nat.testBit (nO.getD i 0) p.1=true
def agy{ops:List Oper}{nO:List Nat}:∀{l:List Oper} {i:Nat} {dc:List (Nat×Nat×Nat)},IL ops nO i l dc=true ->
  (∀p∈dc,∀k o,l[k]?=some o->WL nO p (i+k) (ki ops o) (EF o)) /\
  ∀bF b3 li mf,bF<b3->l[bF]?=some li->l[b3]?=some mf->WL nO (i+bF,ki ops li,EF li) (i+b3) (ki ops mf) (EF mf)
 |[],i,dc,_=>⟨λp _ k o h=>by simp at h,λbF b3 li mf _ h _=>by simp at h⟩
 |o::l,i,dc,h=>by
  simp only[IL,cM]at h;obtain⟨O,R⟩:=h;obtain⟨eG,gr⟩:=agy R;refine⟨λp hp k di ap => ?_,λbF b3 li mf bm re ni => ?_⟩
  .cases k with
   |zero =>simp at ap;subst ap;have:=pi.1 O p hp;simp only[yN,cM]at this;exact this.imp (λh=>⟨fy h.1,fy h.2⟩) id
   |succ k=>
    grind
  cases b3 with
  |zero=>omega
  |succ b3=>
   cases bF with
   |zero=>
    grind
   |succ bF=>
    grind
def acA(h:Nat.land a b=0)(O:Nat.testBit a t=true)(R:Nat.testBit b t=true):False:=by
 have:Nat.testBit (Nat.land a b) t=true:=by have af:=Nat.testBit_and a b t;exact af.trans (by grind)
 grind
def Wd{o:Oper}(h:o.dst=some t):Nat.testBit (EF o) t=true:=by simp[EF,h]
def zi(dc:List Nat)(s:Nat)(e:Edge):Nat:=bif Region.binds .any e then s|||2^e.on|||dc.getD e.on 0 else s
def Z'{dc:List Nat}{i:Nat}:∀(l:List Edge) (s:Nat),Nat.testBit (l.foldl (zi dc) s) i=true->Nat.testBit s i=true\/∃e∈l,Region.binds .any e=true/\(i=e.on\/Nat.testBit (dc.getD e.on 0) i=true)
 |[],s,h=>.inl h
 |e::l,s,h=>by
  rcases Z' l _ h with h|⟨bC,aA,h⟩
  .unfold zi at h
   grind
  grind
def W?: ∀(l:List Oper) (dc:List Nat),(∃A_,lE l dc=dc++A_) /\
  ∀j o,l[j]?=some o->∃pre,pre.length=dc.length+j/\(∃A_,lE l dc=pre++A_)/\(lE l dc).getD (dc.length+j) 0=o.after.toList.foldl (zi pre) 0
 |[],dc=>⟨⟨[],by simp[lE]⟩,λj o h=>by simp at h⟩
 |o::l,dc=>by
  obtain⟨⟨A_,O⟩,R⟩:=W? l (dc++[o.after.toList.foldl (zi dc) 0]);have GA:lE (o::l) dc=lE l (dc++[o.after.toList.foldl (zi dc) 0]):=rfl;refine⟨⟨o.after.toList.foldl (zi dc) 0::A_,by rw[GA,O];simp⟩,λj di an => ?_⟩;cases j with
  |zero =>simp only[O2,km]at an;subst an;refine⟨dc,rfl,⟨o.after.toList.foldl (zi dc) 0::A_,by rw[GA,O];simp⟩,?_⟩;rw[GA,O];simp[nE]
  |succ j =>simp only[JF]at an;obtain⟨pre,dF,gp,lk⟩:=R j di an;simp only[cG,ew,gu]at dF lk;refine⟨pre,J,by rw[GA];exact gp,?_⟩;rw[GA,show dc.length+(j+1)=dc.length+(0+1)+j by omega];exact lk
def Pu{ops:List Oper}{L:Nat->Bool}(eB:∀i o,ops[i]?=some o->L i=true->∀e∈o.after.toList,Region.binds .any e=true->L e.on=true):
  ∀j o,ops[j]?=some o->(∀e∈o.after.toList,Region.binds .any e=true->L e.on=true)->∀i,Nat.testBit ((lE ops []).getD j 0) i=true->L i=true:=by
 intro j;induction j using Nat.strongRecOn with
 |_ j ih=>
  intro o aK zG i hi;obtain⟨pre,dF,⟨A_,gp⟩,lk⟩:=(W? ops []).2 j o aK;simp only[gu,jw]at dF lk;rw[lk]at hi;rcases Z' _ _ hi with h|⟨e,aA,Y,h|h⟩
  .simp at h
  .rw[h];exact zG e aA Y
  have aqF:=zG e aA Y;have bm:e.on<j:=by
   rcases y2 e.on j with bL|bL
   .exact bL
   rw[nE,wC J]at h;simp at h
  have oO:pre.getD e.on 0=(lE ops []).getD e.on 0:=by rw[gp,nE,nE,EU J]
  rw[oO]at h;have cr:e.on<ops.length:=by have:=(mt.1 aK).1;omega
  exact ih e.on bm _ (jN cr) (eB _ _ (jN cr) aqF) i h
def KM:∀{l:List Oper} {i:Nat},u4 i l=true->∀k o,l[k]?=some o->∀e∈o.after.toList,Region.binds .any e=true->e.on<i+k
 |[],_,_,k,o,h=>by simp at h
 |o::l,i,h,k,di,ap=>by
  simp only[u4,cM]at h;cases k with
  |zero =>simp at ap;subst ap;intro e aA Y;have:=pi.1 h.1 e aA;simpa[Y]using this
  |succ k =>intro e aA Y;have:=KM h.2 k di ap e aA Y;omega
end Yp
namespace Yp
open Go
def m2:=@List.drop_eq_getElem_cons
def rW:=@List.length_filter_le
def JG:=@List.eq_nil_iff_forall_not_mem
def EV:=@List.take_append_drop
def ET:=@List.pairwise_cons
def E9:=@List.filter_filter
def JY:=@List.mem_of_getElem?
def JQ:=@List.getElem?_map
def JR:=@Nat.lt_trichotomy
def OC:=@List.getElem_take
variable {P:Program}
section
variable {K:Kp} {w0:World} {E:db} {nt:Nat} {ops:Array Oper} {bz:List eY}
def lN(j:Nat):Nat->Bool:=λi=>decide (i<j)
def kA(j:Nat):Nat->Bool:=λi=>decide (i<=j)
def e0(b6:Array Bool):Nat->Bool:=λi=>b6.getD i false
def JJ{b6:Array Bool}(an:j<b6.size)(i:Nat):e0 (b6.setIfInBounds j true) i=(decide (i=j)||e0 b6 i):=by
 unfold e0;by_cases h:i=j
 .subst h;simp[an]
 simp[BG (nI h),h]
structure k1(E:db)(nt:Nat)(ops:Array Oper)(bz:List eY)(g0:Nat->au)(B0:Nat->aQ):Prop where
 is:bz.map (·.i)=List.range' 0 ops.size
 os:bz.map (·.o)=ops.toList
 valid:wM E ops.toList nt true bz g0 B0
 slots:IL ops.toList (lE ops.toList []) 0 ops.toList []=true
 edges:u4 0 ops.toList=true
 ord:bz.Pairwise λe1 aN=>∀id,OH e1 aN id->Nat.testBit ((lE ops.toList []).getD aN.i 0) e1.i=true
variable {g0:Nat->au} {B0:Nat->aQ}
def k1.len(f:k1 E nt ops bz g0 B0):bz.length=ops.size:=by
 have:=congrArg List.length f.is
 grind
def k1.at(f:k1 E nt ops bz g0 B0){e:eY}(h:bz[k]?=some e):e.i=k/\ops.toList[k]?=some e.o:=by
 have O:(bz.map (·.i))[k]?=some e.i:=by rw[JQ,h];rfl
 have R:(bz.map (·.o))[k]?=some e.o:=by rw[JQ,h];rfl
 rw[f.is,List.getElem?_range']at O
 .rw[f.os]at R
  grind
 grind
def k1.hd(f:k1 E nt ops bz g0 B0){e:eY}(h:e∈bz):bz[e.i]?=some e:=by
 obtain⟨k,ap,rfl⟩:=uP h;have:=f.at (jN ap)
 grind
def k1.split(f:k1 E nt ops bz g0 B0){e:eY}(h:e∈bz):∃pre post,bz=pre++e::post/\(∀x∈pre,x.i<e.i)/\(∀x∈post,e.i<x.i):=by
 have hg:=f.hd h;obtain⟨bm,aA⟩:=mt.1 hg;refine⟨bz.take e.i,bz.drop (e.i+1),?_,λx hx => ?_,λx hx => ?_⟩
 .have O:bz.drop e.i=e::bz.drop (e.i+1):=by rw[m2 bm,aA]
  rw[<- O,EV]
 .obtain⟨k,ap,rfl⟩:=uP hx
  rw[hE]at ap;have:bz[k]?=some (bz.take e.i)[k]:=by rw[OC];exact jN J
  rw[(f.at this).1];omega
 obtain⟨k,ap,rfl⟩:=uP hx;rw[e?]at ap;have:bz[e.i+1+k]?=some (bz.drop (e.i+1))[k]:=by rw[List.getElem_drop];exact jN J
 rw[(f.at this).1];omega
def k1.i4(f:k1 E nt ops bz g0 B0){e1 aN:eY}(O:e1∈bz)(R:aN∈bz)(bm:e1.i<aN.i){id:Nat}(h:OH e1 aN id):Nat.testBit ((lE ops.toList []).getD aN.i 0) e1.i=true:=by
 obtain⟨pre,post,ac,oO,rg⟩:=f.split O;have hp:=f.ord;rw[ac]at hp R;rcases io.1 R with R|R
 .have:=oO aN R;omega
 rcases gE.1 R with rfl|R
 .omega
 have:=(List.pairwise_append.1 hp).2.1;exact(ET.1 this).1 aN R id h
def k1.NL(f:k1 E nt ops bz g0 B0){e1 aN:eY}(O:e1∈bz)(R:aN∈bz)(bm:e1.i<aN.i)
  (h:(e1.o.dst=some t/\(Nat.testBit (ki ops.toList aN.o) t=true\/aN.o.dst=some t))\/(Nat.testBit (ki ops.toList e1.o) t=true/\aN.o.dst=some t)) :
  Nat.testBit ((lE ops.toList []).getD aN.i 0) e1.i=true:=by
 have ai:=(agy f.slots).2 e1.i aN.i e1.o aN.o bm (f.at (f.hd O)).2 (f.at (f.hd R)).2;simp at ai;rcases ai with⟨c1,c2⟩|ai
 .exfalso
  rcases h with⟨k?,mB⟩|⟨k?,mB⟩
  .refine acA c1 (Wd k?) ?_
   rcases mB with mB|mB
   .simp[mB]
   simp[Wd mB]
  exact acA c2 k? (Wd mB)
 exact ai
def qV(ops:Array Oper)(L:Nat->Bool):Prop:=∀i o,ops.toList[i]?=some o->L i=true->∀e∈o.after.toList,Region.binds .any e=true->L e.on=true
structure Next(ops:Array Oper)(L:Nat->Bool)(e:eY):Prop where
 un:L e.i=false
 ed:∀x∈e.o.after.toList,Region.binds .any x=true->L x.on=true
def Next.KO(f:k1 E nt ops bz g0 B0){L:Nat->Bool}(eB:qV ops L){e x:eY}(aA:e∈bz)(aj:Next ops L e)(Y:Nat.testBit ((lE ops.toList []).getD e.i 0) x.i=true):L x.i=true:=
 Pu eB e.i e.o (f.at (f.hd aA)).2 aj.ed x.i Y
def Next.Ov(f:k1 E nt ops bz g0 B0){L:Nat->Bool}(eB:qV ops L){e x:eY}(hx:x∈bz)(aj:Next ops L e)(Y:Nat.testBit ((lE ops.toList []).getD x.i 0) e.i=true):L x.i=false:=by
 cases hL:L x.i with
 |false=>rfl
 |true =>have:=Pu eB x.i x.o (f.at (f.hd hx)).2 (eB _ _ (f.at (f.hd hx)).2 hL) e.i Y;rw[aj.un]at this;cases this
def axT{e:eY}{pre post:List eY}(oO:∀x∈pre,x.i<e.i)(rg:∀x∈post,e.i<x.i)(t:Nat):fg (pre++e::post) (lN e.i) g0 t=fg pre (λ_=>true) g0 t:=by
 rw[U6];have O:∀(g:Nat->au),fg (e::post) (lN e.i) g t=g t:=λg=>by
  have:fg (e::post) (lN e.i) g t=fg (e::post) (λ_=>false) g t:=ye _ rfl λx hx _=>by
   rcases gE.1 hx with rfl|hx
   .simp[lN]
   have:=rg x hx;simp only[lN,decide_eq_false_iff_not];omega
  rw[this];have:∀(l:List eY) (g:Nat->au),fg l (λ_=>false) g=g:=by
   intro l;induction l with
   |nil=>intro g;rfl
   |cons y l ih=>intro g;exact ih g
  rw[this]
 rw[O];exact ye pre rfl λx hx _=>by have:=oO x hx;simp[lN,this]
def ag3{e:eY}{pre post:List eY}(oO:∀x∈pre,x.i<e.i)(rg:∀x∈post,e.i<x.i)(id:Nat):eb (pre++e::post) (lN e.i) B0 id=eb pre (λ_=>true) B0 id:=by
 rw[U5];have O:∀(B:Nat->aQ),eb (e::post) (lN e.i) B id=B id:=λB=>by
  have:eb (e::post) (lN e.i) B id=eb (e::post) (λ_=>false) B id:=yd _ rfl λx hx _=>by
   rcases gE.1 hx with rfl|hx
   .simp[lN]
   have:=rg x hx;simp only[lN,decide_eq_false_iff_not];omega
  rw[this];have:∀(l:List eY) (B:Nat->aQ),eb l (λ_=>false) B=B:=by
   intro l;induction l with
   |nil=>intro g;rfl
   |cons y l ih=>intro g;simp only[eb,cond];exact ih g
  rw[this]
 rw[O];exact yd pre rfl λx hx _=>by have:=oO x hx;simp[lN,this]
def awO(f:k1 E nt ops bz g0 B0){L:Nat->Bool}(eB:qV ops L){e:eY}(aA:e∈bz)(aj:Next ops L e)(ht:Nat.testBit (ki ops.toList e.o) t=true):fg bz L g0 t=fg bz (lN e.i) g0 t:=by
 refine ye bz rfl λx hx aF => ?_;rcases JR x.i e.i with h|h|h
 .have:=aj.KO f eB aA (f.NL hx aA h (.inl ⟨aF,.inl ht⟩))
  simp[lN,h,this]
 .rw[h,aj.un];simp[lN]
 have:=aj.Ov f eB hx (f.NL aA hx h (.inr ⟨ht,aF⟩));rw[this];simp only[lN];symm;simp;omega
def af3(f:k1 E nt ops bz g0 B0){L:Nat->Bool}(eB:qV ops L){e:eY}(aA:e∈bz)(aj:Next ops L e){id:Nat}(ht:id∈e.rb\/id∈e.wr.map (·.1)):eb bz L B0 id=eb bz (lN e.i) B0 id:=by
 refine yd bz rfl λx hx aF => ?_;rcases JR x.i e.i with h|h|h
 .have:=aj.KO f eB aA (f.i4 hx aA h (id:=id) (ht.elim (λh=>.inl ⟨aF,h⟩) (λh=>.inr (.inl ⟨aF,h⟩))))
  simp[lN,h,this]
 .rw[h,aj.un];simp[lN]
 have:=aj.Ov f eB hx (f.i4 aA hx h (id:=id) (ht.elim (λh=>.inr (.inr (.inl ⟨h,aF⟩))) (λh=>.inr (.inl ⟨h,aF⟩))));rw[this];simp only[lN];simp;omega
def add(L:Nat->Bool)(j:Nat):Nat->Bool:=λi=>decide (i=j)||L i
def aiG(f:k1 E nt ops bz g0 B0){L:Nat->Bool}(eB:qV ops L){e:eY}(aA:e∈bz)(aj:Next ops L e):kE (fg bz L g0) e.o.dst e.v=fg bz (add L e.i) g0:=by
 funext t;by_cases aF:e.o.dst=some t
 .have O:fg bz (add L e.i) g0 t=fg bz (kA e.i) g0 t:=ye bz rfl λx hx zY=>by
   rcases JR x.i e.i with h|h|h
   .have:=aj.KO f eB aA (f.NL hx aA h (.inl ⟨zY,.inr aF⟩))
    simp[kA,add,JA h,this]
   .rw[h];simp[kA,add]
   have:=aj.Ov f eB hx (f.NL aA hx h (.inl ⟨aF,.inr zY⟩));have R:¬x.i=e.i:=J;have af:¬x.i<=e.i:=J;simp[kA,add,this,R,af]
  rw[O];obtain⟨pre,post,ac,oO,rg⟩:=f.split aA;have R:∀(g:Nat->au),fg (e::post) (kA e.i) g t=e.v:=λg=>by
   simp only[fg];have:fg post (kA e.i) (bif kA e.i e.i then kE g e.o.dst e.v else g) t=fg post (λ_=>false) (bif kA e.i e.i then kE g e.o.dst e.v else g) t:=ye _ rfl λx hx _=>by have:=rg x hx;simp only[kA,decide_eq_false_iff_not];omega
   rw[this];have:∀(l:List eY) (g:Nat->au),fg l (λ_=>false) g=g:=by
    intro l;induction l with
    |nil=>intro g;rfl
    |cons y l ih=>intro g;exact ih g
   rw[this];simp[kA,aF,kE,o_]
  have af:fg bz (kA e.i) g0 t=e.v:=by rw[ac,U6];exact R _
  rw[af];simp[aF,kE,o_]
 have O:kE (fg bz L g0) e.o.dst e.v t=fg bz L g0 t:=by
  cases azt:e.o.dst with
  |none=>rfl
  |some d=>simp only[kE,o_];rw[if_neg];intro h;exact aF (by grind)
 rw[O];refine ye bz rfl λx hx zY => ?_;by_cases SO:x.i=e.i
 .have:x=e:=by
   have O:=f.hd hx;have R:=f.hd aA
   grind
  grind
 simp[add,SO]
def aiF(f:k1 E nt ops bz g0 B0){L:Nat->Bool}(eB:qV ops L){e:eY}(aA:e∈bz)(aj:Next ops L e):dx (eb bz L B0) e.wr=eb bz (add L e.i) B0:=by
 funext id;by_cases aF:id∈e.wr.map (·.1)
 .have O:eb bz (add L e.i) B0 id=eb bz (kA e.i) B0 id:=yd bz rfl λx hx zY=>by
   rcases JR x.i e.i with h|h|h
   .have:=aj.KO f eB aA (f.i4 hx aA h (id:=id) (.inr (.inl ⟨zY,aF⟩)))
    simp[kA,add,JA h,this]
   .rw[h];simp[kA,add]
   have:=aj.Ov f eB hx (f.i4 aA hx h (id:=id) (.inr (.inl ⟨aF,zY⟩)));have R:¬x.i=e.i:=J;have af:¬x.i<=e.i:=J;simp[kA,add,this,R,af]
  rw[O];obtain⟨pre,post,ac,oO,rg⟩:=f.split aA;have R:∀(B:Nat->aQ),eb (e::post) (kA e.i) B id=nr e.wr id (B id):=λB=>by
   simp only[eb];have:eb post (kA e.i) (bif kA e.i e.i then dx B e.wr else B) id=eb post (λ_=>false) (bif kA e.i e.i then dx B e.wr else B) id:=yd _ rfl λx hx _=>by have:=rg x hx;simp only[kA,decide_eq_false_iff_not];omega
   rw[this];have:∀(l:List eY) (g:Nat->aQ),eb l (λ_=>false) g=g:=by
    intro l;induction l with
    |nil=>intro g;rfl
    |cons y l ih=>intro g;exact ih g
   rw[this];simp[kA,dx]
  have af:eb bz (kA e.i) B0 id=nr e.wr id (eb pre (kA e.i) B0 id):=by rw[ac,U5];exact R _
  rw[af];exact acQ _ _ _ aF
 have O:dx (eb bz L B0) e.wr id=eb bz L B0 id:=xE _ _ aF;rw[O];refine yd bz rfl λx hx zY => ?_;by_cases SO:x.i=e.i
 .have:x=e:=by
   have O:=f.hd hx;have R:=f.hd aA
   grind
  grind
 simp[add,SO]
def RD{o:Oper}{lV:Bool}(O:o.guard=some (j,lV))(R:(ops.toList[j]?).bind (·.dst)=some d):Nat.testBit (ki ops.toList o) d=true:=by
 have Y:∀(l:List Nat),d∈l->Nat.testBit (bits l) d=true:=by
  intro l h;induction l with
  |nil=>simp at h
  |cons x l ih=>
   simp only[bits,E6,yN];rcases gE.1 h with rfl|h
   .left;simp
   right;exact ih h
 refine Y _ (wE _ ?_);rw[O];simp only[Zd];cases aK:ops.toList[j]? with
 |none=>rw[aK]at R;cases R
 |some di =>rw[aK]at R;have R:di.dst=some d:=R;simp[R]
def ahi(hT:mV P E.b8)(cx:ps P E.b8 E.C)(g3:qA P E.M)(dA:ot P E K w0)(eo:∀f g,E.I f=some g->j3 P f g)(f:k1 E nt ops bz g0 B0){Q:Exit->Act->World->Prop}{ll:cc}{BN:Nat->Prop}{eI:World}{a0:Act}(ej:nt<=a0.tmps.size)
  (a2:∀phx' ay w' a',Mem K w0 phx' ay (eb bz (λ_=>true) B0) w'->cm ll BN B0 eI phx' ay (eb bz (λ_=>true) B0) w'->dw phx' (view w' ay) (eb bz (λ_=>true) B0) (fg bz (λ_=>true) g0) a'->g9 (en ops.toList) a0 a'->Q .normal a' w') :
  ∀(gC:Nat) (b6:Array Bool) (phx:cc) (M:Nat->Prop) (w:World) (a:Act),b6.size=ops.size->qV ops (e0 b6)->((List.range ops.size).filter λi=>!(e0 b6 i)).length<=gC ->
   Mem K w0 phx M (eb bz (e0 b6) B0) w->cm ll BN B0 eI phx M (eb bz (e0 b6) B0) w->dw phx (view w M) (eb bz (e0 b6) B0) (fg bz (e0 b6) g0) a->g9 (en ops.toList) a0 a->wpAny P .any ops Q gC b6 a w:=by

 have all:∀b6:Array Bool,b6.size=ops.size->Region.ready .any ops b6=[]->∀i,i<ops.size->e0 b6 i=true:=by
  intro b6 i5 ah i;induction i using Nat.strongRecOn with
  |_ i ih=>
   intro hi;cases hL:e0 b6 i with
   |true=>rfl
   |false=>
    exfalso;have l?:i∈Region.ready .any ops b6:=by
     rw[mem_ready];refine⟨?_,ops[i],yW hi,λe aA Y => ?_⟩
     .unfold e0 at hL
      have:i<b6.size:=J;simp[this]at hL ⊢;exact hL
     have bm:=KM f.edges i ops[i] (by rw[wD];exact yW hi) e (by simpa using aA) Y;exact ih e.on J J
    rw[ah]at l?;cases l?
 have gm:∀(b6:Array Bool) (phx:cc) (M:Nat->Prop) (w:World) (a:Act),b6.size=ops.size->Region.ready .any ops b6=[]->Mem K w0 phx M (eb bz (e0 b6) B0) w->cm ll BN B0 eI phx M (eb bz (e0 b6) B0) w ->
   dw phx (view w M) (eb bz (e0 b6) B0) (fg bz (e0 b6) g0) a->g9 (en ops.toList) a0 a->Q .normal a w:=by
  intro b6 phx M w a i5 ah hm aA ac ap;have hL:=all b6 i5 ah;have fA:∀x∈bz,e0 b6 x.i=true:=λx hx=>hL _ (by have:=(mt.1 (f.hd hx)).1;rw[f.len]at this;exact this)
  have QU:eb bz (e0 b6) B0=eb bz (λ_=>true) B0:=funext λid=>yd bz rfl λx hx _=>fA x hx;have amB:fg bz (e0 b6) g0=fg bz (λ_=>true) g0:=funext λt=>ye bz rfl λx hx _=>fA x hx;rw[QU]at hm aA ac;rw[amB]at ac;exact a2 phx M w a hm aA ac ap
 intro gC;induction gC with
 |zero=>
  intro b6 phx M w a i5 eB abd hm aA ac ap;have ah:Region.ready .any ops b6=[]:=by
   rw[JG];intro i hi;obtain⟨ao,o,aK,_⟩:=mem_ready.1 hi;have bm:i<ops.size:=(ip.1 aK).1;have:i∈(List.range ops.size).filter λi=>!(e0 b6 i):=by rw[r0];refine⟨ox.2 bm,?_⟩;unfold e0;have:i<b6.size:=J;simp[this]at ao ⊢;exact ao
   rw[k3.1 (Nat.le_zero.1 abd)]at this;cases this
  exact⟨ah,gm b6 phx M w a i5 ah hm aA ac ap⟩
 |succ gC ih=>
  intro b6 phx M w a i5 eB abd hm aA ac ap;refine⟨λah=>gm b6 phx M w a i5 ah hm aA ac ap,λj an => ?_⟩;obtain⟨ao,o,aK,zG⟩:=mem_ready.1 an;have bm:j<ops.size:=(ip.1 aK).1;have CX:j<b6.size:=J;have aaS:e0 b6 j=false:=by unfold e0;simp[CX]at ao ⊢;exact ao

  obtain⟨e,ss⟩:∃e,bz[j]?=some e:=⟨_,jN (by rw[f.len];exact bm)⟩;have l?:e∈bz:=JY ss;obtain⟨abl,xm⟩:=f.at ss;have abI:e.o=o:=by rw[wD,aK]at xm;exact(lZ xm).symm
  have aj:Next ops (e0 b6) e:=⟨by rw[abl];exact aaS,λx hx Y=>by rw[abI]at hx;exact zG x (by simpa using hx) Y⟩
  obtain⟨pre,post,hA,oO,rg⟩:=f.split l?;have aC:=f.valid;rw[hA]at aC;obtain⟨fZ,iR⟩:=wM.at pre aC;have Gq:∀t,Nat.testBit (ki ops.toList e.o) t=true->fg bz (e0 b6) g0 t=fg pre (λ_=>true) g0 t:=λt ht=>by rw[awO f eB l? aj ht,<- axT (g0:=g0) oO rg t,<- hA]
  have aoC:∀id,id∈e.rb->eb bz (e0 b6) B0 id=eb pre (λ_=>true) B0 id:=λid hid=>by rw[af3 f eB l? aj (.inl hid),<- ag3 (B0:=B0) oO rg id,<- hA]
  have apM:(wN ops.toList e.o (fg bz (e0 b6) g0)/\∃v0,r2 v0 e.v/\(rv E e.o).aY (fg bz (e0 b6) g0) (eb bz (e0 b6) B0)=some (v0,dx (eb bz (e0 b6) B0) e.wr)) \/
    (E1 ops.toList e.o (fg bz (e0 b6) g0)/\e.v=.undef/\e.wr=[]) \/
    (wN ops.toList e.o (fg bz (e0 b6) g0)/\∃v0,r2 v0 e.v/\ww E ops.toList e.o (fg bz (e0 b6) g0) (eb bz (e0 b6) B0) v0 e.rb e.wr):=by
   rcases iR with⟨bb,v0,tV,_,GQ⟩|⟨bb,xs,C4,_⟩|⟨_,bb,v0,tV,fA⟩
   .left
    refine⟨?_,v0,tV,GQ rfl _ _ Gq aoC⟩;rcases bb with bb|⟨Hh,lV,d,g1,bw,cX⟩
    .exact .inl bb
    exact .inr ⟨Hh,lV,d,g1,bw,by rw[Gq d (RD g1 bw)];exact cX⟩
   .right;left
    obtain⟨Hh,lV,d,g1,bw,cX⟩:=bb;exact⟨⟨Hh,lV,d,g1,bw,by rw[Gq d (RD g1 bw)];exact cX⟩,xs,C4⟩
   right;right;refine⟨?_,v0,tV,fA.congr Gq λid hid => ?_⟩
   .rcases bb with bb|⟨Hh,lV,d,g1,bw,cX⟩
    .exact .inl bb
    exact .inr ⟨Hh,lV,d,g1,bw,by rw[Gq d (RD g1 bw)];exact cX⟩
   rw[af3 f eB l? aj hid,<- ag3 (B0:=B0) oO rg id,<- hA]
  have Gm:e0 (b6.setIfInBounds j true)=add (e0 b6) e.i:=by funext i;rw[JJ CX,abl];rfl
  have aqA:nt<=a.tmps.size:=by rw[ap.1];exact ej
  have ra:=Zw (P:=P) (Kn:=wpAny P .any ops Q gC (b6.setIfInBounds j true)) (Q:=Q) hT cx g3 dA eo fZ aqA hm ac apM λphx' ay w' x bD e1 bp=>by
   rw[aiF f eB l? aj,<- Gm]at bD e1 bp;rw[aiG f eB l? aj,<- Gm]at bp;refine ih (b6.setIfInBounds j true) phx' ay w' _ (by simpa using i5) ?_ ?_ bD (aA.trans e1) bp (ap.sub (g9.put (D:=en ops.toList) λd aF => ?_) (λt h=>h) (λt h=>h))
   .intro i adJ Ss xi x hx Y
    rw[JJ CX]at xi ⊢;simp only[yN,decide_eq_true_eq]at xi ⊢;right;rcases xi with xi|xi
    .subst xi
     have:adJ=e.o:=by rw[xm]at Ss;exact(lZ Ss).symm
     subst this;exact aj.ed x hx Y
    exact eB i adJ Ss xi x hx Y
   .have cr:((List.range ops.size).filter λi=>!(e0 (b6.setIfInBounds j true) i)).length<((List.range ops.size).filter λi=>!(e0 b6 i)).length:=by
     have GY:((List.range ops.size).filter λi=>!(e0 (b6.setIfInBounds j true) i))=((List.range ops.size).filter λi=>!(e0 b6 i)).filter λi=>!(decide (i=j)):=by rw[E9];congr 1;funext i;rw[JJ CX,Bool.not_or]
     rw[GY];have l_:j∈((List.range ops.size).filter λi=>!(e0 b6 i)):=by rw[r0];exact⟨ox.2 bm,by rw[aaS];rfl⟩
     exact List.length_filter_lt_length_iff_exists.2 ⟨j,l_,bh⟩
    omega
   have:∀(l:List Oper),e.o∈l->d∈en l:=by
    intro l hl;induction l with
    |nil=>cases hl
    |cons y l ih=>
     rcases gE.1 hl with h|h
     .exact(tG y l).1 d (by rw[<- h];exact aF)
     exact(tG y l).2 d (ih h)
   exact this _ (JY xm)
  unfold wpOp;rw[aK];simp only;rw[abI]at ra;split
  .rename_i bb;rw[if_pos bb]at ra;exact .inl ra
  rename_i bb;rw[if_neg bb]at ra;exact ra
def avV(hT:mV P E.b8)(cx:ps P E.b8 E.C)(g3:qA P E.M)(dA:ot P E K w0)(eo:∀f g,E.I f=some g->j3 P f g)(iS:P.follows .mixedOrders=true)(ej:nt<=1000000){id:Nat}{s:aM}{k:aM->aP ρ}{r:ρ}
  (h:((oc E ops.toList nv nt dk true 0 ops.toList s []).bind k).bI=some r) {phx:cc} {M:Nat->Prop} {w:World} {a:Act} (hm:Mem K w0 phx M s.aR w) (ac:dw phx (view w M) s.aR s.bX a) (ge:nt<=a.tmps.size)
  {Q:Exit->Act->World->Prop}
  (a2:∀ax phx' ay w' a',(k ax).bI=some r->dY (en ops.toList) s ax->Mem K w0 phx' ay ax.aR w'->cm phx M s.aR w phx' ay ax.aR w'->dw phx' (view w' ay) ax.aR ax.bX a'->g9 (en ops.toList) a a'->Q .normal a' w') :
  (Code.region id ops dk).wp P Q a w:=by
 obtain⟨ax,⟨bz,bp,O,R,af,aq,a8,cT,dN,cz⟩,ap⟩:=afe ej _ _ _ _ _ k r h;have gm:∀phx' ay w' a',Mem K w0 phx' ay (eb bz (λ_=>true) s.aR) w'->cm phx M s.aR w phx' ay (eb bz (λ_=>true) s.aR) w'->dw phx' (view w' ay) (eb bz (λ_=>true) s.aR) (fg bz (λ_=>true) s.bX) a'->g9 (en ops.toList) a a'->Q .normal a' w':=by intro phx' ay w' a' bD e1 bp bF;rw[<- a8]at bD e1 bp;rw[<- aq]at bp;exact a2 ax phx' ay w' a' ap dN (by rw[cT.2];exact bD) (by rw[cT.2];exact e1) (bp.Oa cT) bF
 cases dk with
 |false =>refine wp_region_list ?_;have:=ahj (P:=P) hT cx g3 dA eo (ops:=ops) (Q:=Q) bz af hm ac ge (by rw[R];exact gm);rw[R]at this;exact this
 |true=>
  obtain⟨ah,aK⟩:=cz rfl;simp only[H?,cM]at ah;refine wp_region_any iS ?_;have f:k1 E nt ops bz s.bX s.aR:=⟨by simpa using O,R,af,ah.2,ah.1,TW (by simpa using aK)⟩;have tO:e0 (Array.replicate ops.size false)=λ_=>false:=by funext i;unfold e0;by_cases hi:i<ops.size<;>simp[hi]
  have Al:∀(l:List eY) (B:Nat->aQ),eb l (λ_=>false) B=B:=by
   intro l;induction l with
   |nil=>intro g;rfl
   |cons y l ih=>intro g;simp only[eb,cond];exact ih g
  have Tv:∀(l:List eY) (g:Nat->au),fg l (λ_=>false) g=g:=by
   intro l;induction l with
   |nil=>intro g;rfl
   |cons y l ih=>intro g;simp only[fg,cond];exact ih g
  have h?:Mem K w0 phx M s.aR { w with drawn:=w.drawn+1 }:={ hm with keep:=hm.keep,blks:=hm.blks };refine ahi (P:=P) (K:=K) (w0:=w0) hT cx g3 dA eo f ge gm ops.size _ phx M { w with drawn:=w.drawn+1 } a bh ?_ ?_ ?_ ?_ ?_ (g9.refl _ _)
  .intro i o _ h;rw[tO]at h;cases h
  .exact eZ (rW _ _) bh
  .rw[tO,Al];exact h?
  .rw[tO,Al];exact⟨λ_ _=>rfl,cg.cb.refl _,λ_=>aQ.cb.refl _⟩
  rw[tO,Al,Tv];exact ac
end
end Yp
namespace Yp
open Go
variable {P:Program}
section
variable {K:Kp} {w0 w:World} {phx:cc} {M:Nat->Prop} {B B':Nat->aQ} {g:Nat->au} {H:cg} {E:db}
def oM{s:aM}{m:aw α}{k:α×aM->aP β}{r:β}(h:((aw.iQ s m).bind k).bI=some r):
  ∃a wr,m.aY s.bX s.aR=some (a,dx s.aR wr)/\(k (a,s.ek wr)).bI=some r:=by
 unfold aw.iQ at h;rw[aP.fb]at h;obtain⟨a,e,O,R⟩:=aw.afh s m 0 [] [] _ r h;simp only[aM.Is,aP.bind]at R;exact⟨a,e.wr,O,R⟩
def kI(phx:cc)(M:Nat->Prop)(B:Nat->aQ)(U:Nat->Prop):Prop:=(∀j,(B j).fv=true->∀z,phx j=some z->¬U z.1)/\∀b,U b->M b
def kI.bE{B':Nat->aQ}{U:Nat->Prop}(h:kI phx M B U)(aB:∀j,(B' j).fv=true->(B j).fv=true):kI phx M B' U:=⟨λj an=>h.1 j (aB j an),h.2⟩
def kI.VF{ay:Nat->Prop}{U:Nat->Prop}(h:kI phx M B U)(ht:nL phx M B ay B'):kI phx ay B' U:=by refine⟨λj an=>h.1 j (ht.2 j an),λb Y=>k2 λaj => ?_⟩;obtain⟨j,an,z,bj,rfl⟩:=ht.1 b (h.2 b Y) aj;exact h.1 j an z bj Y
def uR.bE{lo:Nat->Prop}{U:Nat->Prop}{ay:Nat->Prop}{e:ae}{l:List e.aD}{v:Value}(h:uR w M lo U e l v b)(aC:(view w M).cb (view w ay))(dS:ay b):uR w ay lo U e l v b:=by obtain⟨o,c,el,fz,cap,O,R,af,aq,a8,cT,dN,cz,lJ,kO⟩:=h;exact⟨o,c,el,fz,cap,O,R,af,aq,a8,cT.mono aC,dN,dS,lJ,kO⟩
def VD(hm:Mem K w0 phx M B w){id:Nat}{e:ae}{l:List e.aD}(aB:B id=.ob e l){v:Value}(bY:off+n<=l.length)(ah:hu phx id e off n v){U:Nat->Prop}(du:kI phx M B U):
  Mem K w0 phx M (cV B id .e9) w/\cm phx M B w phx M (cV B id .e9) w /\
   ((cut l off n=[]/\(∃a,v=.slice a 0 0)/\kI phx M (cV B id .e9) U)\/∃b,uR w M (λb=>¬K.k b) U e (cut l off n) v b/\kI phx M (cV B id .e9) λj=>U j\/j=b):=by
 obtain⟨bD,e1⟩:=hm.e9 id;refine⟨bD,e1,?_⟩;have mM:∀j,((cV B id .e9) j).fv=true->j≠id/\(B j).fv=true:=λj an=>by
  by_cases h:j=id
  .subst h;rw[eM]at an;cases an
  rw[d6 _ _ h]at an;exact⟨h,an⟩
 have dD:=hm.blks id;rw[aB]at dD;rcases ah with⟨O,a,R⟩|⟨b,o,m,cap,O,R,af,aq,a8⟩
 .left
  exact⟨k3.1 (by rw[k_ bY];exact O),⟨a,R⟩,du.bE λj an=>(mM j an).2⟩
 rcases dD.2 with⟨g1,_⟩|⟨b',di,c,el,fz,g1,bw,cX,gd,kw⟩
 .rw[g1]at O;cases O
 rw[O]at g1;cases g1;right;refine⟨b,⟨o+off*e.size,c,el,fz,cap,by rw[k_ bY];exact R,by rw[k_ bY];exact af,aq,by rw[fH]at a8;omega,bw,⟨?_,λi x hi => ?_⟩,gd,kw,?_,du.1 id (by rw[aB];rfl) _ O⟩,⟨λj an z bj ai => ?_,λj an=>an.elim (du.2 j) (λh=>h▸kw)⟩⟩
 .rw[k_ bY]
  have:=cX.1;have cT:(off+n)*e.size<=l.length*e.size:=iq _ bY;rw[fH]at cT;omega
 .have fA:=Dg hi
  rw[k_ bY]at fA;rw[FM fA]at hi;have:=cX.2 (off+i) x hi
  rwa [fH,<- jv]at this
 .exact hm.own id (by rw[aB];rfl) _ O
 obtain⟨dK,abx⟩:=mM j an;rcases ai with ai|ai
 .exact du.1 j abx z bj ai
 exact hm.sep j id dK abx (by rw[aB];rfl) z _ bj O ai
def ax1{r:ef}{v:au}{x:r.aD}{u:Value}(h:(ahd r v).aY g B=some (x,B'))(hm:Mem K w0 phx M B w)(ah:a? phx (view w M) B v u){U:Nat->Prop}(du:kI phx M B U):
  ∃ay bV,Mem K w0 phx ay B' w/\cm phx M B w phx ay B' w/\kI phx ay B' bV/\(∀b,U b->bV b) /\
   ∀{rs:List ef} {y:d8 rs} {vs:List Value} {qY:Nat->Prop},(view w ay).cb (view w qY)->(∀b,bV b->qY b)->g_ w qY (λb=>¬K.k b) rs y vs bV->g_ w qY (λb=>¬K.k b) (r::rs) (x,y) (u::vs) U:=by
 cases r with
 |im t =>obtain⟨cs,aL,ay,bD,e1,dT,_,f1⟩:=ym h hm ah;exact⟨ay,U,bD,e1,du.VF dT,λ_ h=>h,λaC _ hrest=>⟨cs,_,by rw[aL],(f1 rfl).mono aC,hrest⟩⟩
 |cl e=>
  cases v<;>try(cases h;done)
  .cases h
   subst ah;exact⟨M,U,hm,cm.refl _ _ _ _,du,λ_ h=>h,λaC _ hrest=>⟨none,_,rfl,aH.ic.2 ⟨none,0,rfl,bU _,J,.inl rfl⟩,hrest⟩⟩
  obtain⟨ai,rfl⟩:=dE h;obtain⟨fm,rfl⟩:=jg ai;subst fm;obtain⟨a,rfl,cx⟩:=ah;exact⟨M,U,hm,cm.refl _ _ _ _,du,λ_ h=>h,λaC _ hrest=>⟨a,_,rfl,cx.mono aC,hrest⟩⟩
 |ow e=>
  replace h:(NV e v).aY g B=some (x,B'):=h;have gm:∀{id:Nat} {l:List e.aD} {off n:Nat},B id=.ob e l->off+n<=l.length->hu phx id e off n u->∃ay bV,Mem K w0 phx ay (cV B id .e9) w/\cm phx M B w phx ay (cV B id .e9) w/\kI phx ay (cV B id .e9) bV/\(∀b,U b->bV b) /\
    ∀{rs:List ef} {y:d8 rs} {vs:List Value} {qY:Nat->Prop},(view w ay).cb (view w qY)->(∀b,bV b->qY b)->g_ w qY (λb=>¬K.k b) rs y vs bV->g_ w qY (λb=>¬K.k b) (.ow e::rs) ((cut l off n:List e.aD),y) (u::vs) U:=by
   intro id l off n aB bY aK;obtain⟨bD,e1,af⟩:=VD hm aB bY aK du;rcases af with⟨af,aq,a8⟩|⟨b,af,a8⟩
   .exact⟨M,U,bD,e1,a8,λ_ h=>h,λaC _ hrest=>⟨_,_,rfl,.inl ⟨af,aq,hrest⟩⟩⟩
   exact⟨M,_,bD,e1,a8,λ_ h=>.inl h,λaC dS hrest=>⟨_,_,rfl,.inr ⟨b,af.bE aC (dS b (.inr rfl)),hrest⟩⟩⟩
  cases v<;>try(cases h;done)
  case nil =>cases h;subst ah;exact⟨M,U,hm,cm.refl _ _ _ _,du,λ_ h=>h,λaC _ hrest=>⟨_,_,rfl,.inl ⟨rfl,⟨none,rfl⟩,hrest⟩⟩⟩
  case own id d'=>
   simp only[NV,aw.aY]at h;have ac:bM phx (view w M) B (.own id d') u:=ah;simp only[bM]at ac;generalize aB:B id=bl at h ac;cases bl<;>try(cases h)
   rename_i bC l;obtain⟨y,cS,O,R⟩:=aw.cA h;obtain⟨ai,jk⟩:=dE O;obtain⟨fm,rfl⟩:=jg ai;subst fm;cases R;rw[jk];have:=gm aB (off:=0) (n:=l.length) J ac.1;rw[Ci]at this;exact this
  case osl id off n=>
   simp only[NV,aw.aY]at h;have ac:bM phx (view w M) B (.osl id off n) u:=ah;simp only[bM]at ac;generalize aB:B id=bl at h ac;cases bl<;>try(cases h)
   obtain⟨y,cS,O,R⟩:=aw.cA h;obtain⟨ai,jk⟩:=dE O;obtain⟨fm,rfl⟩:=jg ai;subst fm;cases R;rw[jk];exact gm aB ac.1 ac.2.1
def DW:∀{rs:List ef} {vs:List au} {us:List Value} {s:aM} {M:Nat->Prop} {ρ:Type} {k:d8 rs->aP ρ} {r:ρ} {U:Nat->Prop},((n_ s rs vs).bind k).bI=some r ->
  Mem K w0 phx M s.aR w->gi phx (view w M) s.aR vs us->kI phx M s.aR U->∃x ay B',(k x).bI=some r/\Mem K w0 phx ay B' w/\(view w M).cb (view w ay)/\(∀b,U b->ay b)/\g_ w ay (λb=>¬K.k b) rs x us U
 |[],[],[],s,M,ρ,k,r,U,h,hm,_,du=>⟨(),M,_,h,hm,cg.cb.refl _,du.2,rfl⟩
 |[],[],_::_,s,M,ρ,k,r,U,h,hm,hp,du=>hp.elim
 |[],_::_,_,s,M,ρ,k,r,U,h,hm,hp,du=>by cases h
 |_::_,[],_,s,M,ρ,k,r,U,h,hm,hp,du=>by cases h
 |_::_,_::_,[],s,M,ρ,k,r,U,h,hm,hp,du=>hp.elim
 |t::rs,v::vs,u::us,s,M,ρ,k,r,U,h,hm,hp,du=>by simp only[n_]at h;rw[aP.fb]at h;obtain⟨x,wr,O,R⟩:=oM h;simp only at R;rw[aP.fb]at R;obtain⟨fr,tn,bD,e1,dT,bY,vy⟩:=ax1 O hm hp.1 du;rw[<- aM.nd]at bD e1 dT;obtain⟨y,c8,b4,bG,b_,cp,dl,eQ⟩:=DW R bD (hp.2.ext e1) dT;exact⟨(x,y),c8,b4,bG,b_,e1.vw.trans cp,λb Y=>dl b (bY b Y),vy cp dl eQ⟩
def sV(P:Program)(tmps:Array Value)(w:World):List ResultVar->List Value->Prop
 |[],us=>us=[]
 |.tmp t::rs,us=>∃s7,us=tmps.getD t undef::s7/\sV P tmps w rs s7
 |.cell a t::rs,us=>∃ad u s7,us=u::s7/\tmps.getD a undef=.pointer (some ad)/\(loadVar t ad).run P w=.ok u w/\sV P tmps w rs s7
def x7(hT:mV P E.b8):∀{l:List ResultVar} {s:aM} {ρ:Type} {k:List au->aP ρ} {r:ρ} {a:Act},((mT E s l).bind k).bI=some r->Mem K w0 phx M s.aR w->dw phx (view w M) s.aR s.bX a ->
  ∃vs us,(k vs).bI=some r/\gi phx (view w M) s.aR vs us/\sV P a.tmps w l us
 |[],s,ρ,k,r,a,h,hm,ac=>⟨[],[],h,trivial,rfl⟩
 |UL::l,s,ρ,k,r,a,h,hm,ac=>by
  simp only[mT]at h;rw[aP.fb]at h;obtain⟨v,wr,O,R⟩:=oM h;rw[aP.fb]at R;cases UL with
  |tmp t =>simp only[ae0,aw.aY,km,kH]at O;obtain⟨rfl,aB⟩:=O;obtain⟨vs,us,af,aq,a8⟩:=x7 hT R hm ac;exact⟨s.bX t::vs,a.tmps.getD t undef::us,af,⟨ac t,aq⟩,us,rfl,a8⟩
  |cell ad t=>
   obtain⟨ty,ht,O⟩:=lj O;simp only[aw.aY]at O;have hp:=ac ad;obtain⟨aB,u,g1,bw⟩:=acJ (hT _ _ ht) O hm hp;obtain⟨vs,us,af,aq,a8⟩:=x7 hT R hm ac;have aqQ:∃q,a.tmps.getD ad undef=.pointer (some q):=by
    generalize s.bX ad=pv at O hp;cases pv<;>try(cases O)
    case ptr id p=>
     simp only[xD,aw.aY]at O;have hp:bM phx (view w M) s.aR (.ptr id p) (a.tmps.getD ad undef):=hp;simp only[bM]at hp;generalize s.aR id=bl at O hp;cases bl<;>try(cases O)
     grind
    case opt id i p=>
     simp only[xD,aw.aY]at O;have hp:bM phx (view w M) s.aR (.opt id i p) (a.tmps.getD ad undef):=hp;simp only[bM]at hp;generalize s.aR id=bl at O hp;cases bl<;>try(cases O)
     all_goals
      grind
    case ipt e l i p =>obtain⟨_,b,o,n,off,t',_,_,e⟩:=hp;exact⟨_,e⟩
   obtain⟨q,a2⟩:=aqQ;rw[a2]at g1;refine⟨v::vs,u::us,af,⟨bw,aq⟩,q,u,us,rfl,a2,?_,a8⟩;simpa[Instr.loadAt,Instr.sureAddr]using g1
def v7{fn:Func}{tmps:Array Value}{us:List Value}(h:sV P tmps w fn.results.toList us):(results fn tmps).run P w=.ok (ja us) w:=by
 have key:∀(f:ResultVar->Sem Value),(∀t,f (.tmp t)=pure (tmps.getD t undef))->(∀a t,f (.cell a t)=do loadVar t (<- asAddr (tmps.getD a undef))) ->
   ∀(l:List ResultVar) (us:List Value),sV P tmps w l us->(l.mapM f).run P w=Result.ok us w:=by
  intro f f1 f2 l;induction l with
  |nil=>intro us h;cases h;rfl
  |cons UL l ih=>
   intro us h;cases UL with
   |tmp t =>obtain⟨s7,rfl,h⟩:=h;simp[ON,ih s7 h,f1]
   |cell a t =>obtain⟨ad,u,s7,rfl,O,R,af⟩:=h;simp only[ON,f2,O,asAddr];simp[ih s7 af,R]
 unfold results;rw[Array.mapM_eq_mapM_toList];simp only[Sem.run_bind,Sem.run_map];rw[key _ (λ_=>rfl) (λ_ _=>rfl) _ _ h];match us with
 |[]=>rfl
 |[_]=>rfl
 |_::_::_=>rfl
end
end Yp
namespace Yp
open Go
variable {P:Program}
def iH(B B':Nat->aQ):Prop:=∀id,((∃t v,B id=.box t v)\/∃s p,B id=.it s p)->B' id=B id
def iH.refl(B:Nat->aQ):iH B B:=λ_ _=>rfl
def iH.trans{B B' EL:Nat->aQ}(h:iH B B')(k:iH B' EL):iH B EL:=λid hi=>by have O:=h id hi;rw[k id (by grind),O]
def iH.cj{B:Nat->aQ}{id:Nat}{e:ae}{l:List e.aD}(h:B id=.ob e l)(b:aQ):iH B (cV B id b):=λj an=>by
 rw[d6]
 grind
section
variable {g:Nat->au}
def awu{eJ:Bool}{id:Nat}{e:ae}{x:List e.aD}{B B':Nat->aQ}(h:(sW eJ id e).aY g B=some (x,B')):iH B B':=by
 simp only[sW,aw.aY]at h;generalize aB:B id=bl at h;cases bl<;>try(cases h)
 .obtain⟨y,cS,O,R⟩:=aw.cA h
  obtain⟨_,jk⟩:=dE O;cases eJ with
  |false=>cases R;rw[jk];exact iH.refl _
  |true=>cases R;rw[jk];exact iH.cj aB _
 obtain⟨_,O⟩:=dE h;rw[O];exact iH.refl _
def ahc{eJ:Bool}:∀{pv:au} {t:ae} {x:t.aD} {B B':Nat->aQ},Aq pv=true->(yl eJ pv t).aY g B=some (x,B')->iH B B':=by
 intro pv;induction pv with
 |own id d'=>
  intro t x B B' _ h;cases t<;>try(cases h)
  exact awu h
 |osl id off n=>intro t x B B' aj;cases aj
 |two u v aL aC=>
  intro t x B B' aj h;simp only[Aq,cM]at aj;cases t<;>try(cases h)
  obtain⟨y,cS,O,R⟩:=aw.cA h;obtain⟨z,b4,af,aq⟩:=aw.cA R;cases aq;exact(aL aj.1 O).trans (aC aj.2 af)
 |agg t' u aL =>intro t x B B' aj h;have bL:=h;obtain⟨_,bL⟩:=gx bL;exact aL aj bL
 |sc t' y=>intro t x B B' _ h;obtain⟨_,O⟩:=dE h;rw[O];exact iH.refl _
 |kb b=>intro t x B B' _ h;obtain⟨_,O⟩:=dE h;rw[O];exact iH.refl _
 |nil=>intro t x B B' _ h;obtain⟨_,O⟩:=dE h;rw[O];exact iH.refl _
 |csl e l=>intro t x B B' _ h;obtain⟨_,O⟩:=dE h;rw[O];exact iH.refl _
 |clo f dQ cW=>intro t x B B' _ h;obtain⟨_,O⟩:=dE h;rw[O];exact iH.refl _
 |_=>intro t x B B' _ h;cases h
def aei{e:ae}{pv:au}{x:List e.aD}{B B':Nat->aQ}(h:(xR e pv).aY g B=some (x,B')):iH B B':=by
 cases pv<;>try(cases h)
 .obtain⟨_,h⟩:=gx (h)
  cases h;exact iH.refl _
 .rename_i id d'
  simp only[xR,aw.aY]at h;generalize aB:B id=bl at h;cases bl<;>try(cases h)
  obtain⟨y,cS,O,R⟩:=aw.cA h;obtain⟨_,jk⟩:=dE O;cases R;rw[jk];exact iH.cj aB _
 rename_i id off n;simp only[xR,aw.aY]at h;generalize aB:B id=bl at h;cases bl<;>try(cases h)
 obtain⟨y,cS,O,R⟩:=aw.cA h;obtain⟨_,jk⟩:=dE O;cases R;rw[jk];exact iH.cj aB _
def TY:∀{sh:j4} {pv:au} {x:sh.aD} {B B':Nat->aQ},(AC sh pv).aY g B=some (x,B')->iH B B'
 |.d t,pv,x,B,B',h=>by obtain⟨aj,h⟩:=gx (h);exact ahc (pv:=pv) aj h
 |.o _ e,pv,x,B,B',h=>aei h
 |.p a b,pv,x,B,B',h=>by
  simp only[AC]at h;cases ac:NP pv with
  |none=>rw[ac]at h;cases h
  |some ayk =>rw[ac]at h;obtain⟨y,cS,O,R⟩:=aw.cA h;obtain⟨z,b4,af,aq⟩:=aw.cA R;cases aq;exact(TY O).trans (TY af)
end
def q0(w:World)(M:Nat->Prop)(lo:Nat->Prop):(sh:j4)->sh.aD->List Value->(Nat->Prop)->(Nat->Prop)->Prop
 |.d t,x,cs,U,bV=>aH (view w M) t x cs/\bV=U
 |.o _ e,l,cs,U,bV=>0<e.size/\∃v,cs=[v]/\v.oneCell'=true/\(((l:List e.aD)=[]/\(∃a,v=.slice a 0 0)/\bV=U)\/∃b,uR w M lo U e l v b/\bV=λj=>U j\/j=b)
 |.p a b,x,cs,U,bV=>∃c1 c2 jd,cs=c1++c2/\q0 w M lo a x.1 c1 U jd/\q0 w M lo b x.2 c2 jd bV
def q0.one{w:World}{M:Nat->Prop}{lo:Nat->Prop}:∀{sh:j4} {x:sh.aD} {cs:List Value} {U bV:Nat->Prop},q0 w M lo sh x cs U bV->∀v∈cs,v.oneCell'=true
 |.d t,x,cs,U,bV,h=>h.1.one
 |.o _ e,l,cs,U,bV,h=>by obtain⟨_,v,rfl,O,_⟩:=h;intro w bb;simp at bb;rw[bb];exact O
 |.p a b,x,cs,U,bV,h=>by obtain⟨c1,c2,jd,rfl,O,R⟩:=h;intro v aC;exact(io.1 aC).elim (O.one v) (R.one v)
def q0.sub{w:World}{M:Nat->Prop}{lo:Nat->Prop}:∀{sh:j4} {x:sh.aD} {cs:List Value} {U bV:Nat->Prop},q0 w M lo sh x cs U bV->∀b,U b->bV b
 |.d t,x,cs,U,bV,h=>by intro b Y;rw[h.2];exact Y
 |.o _ e,l,cs,U,bV,h=>by
  obtain⟨_,v,_,_,h⟩:=h
  grind
 |.p a b,x,cs,U,bV,h=>by obtain⟨c1,c2,jd,_,O,R⟩:=h;exact λb Y=>R.sub b (O.sub b Y)
def q0.bE{w:World}{M ay:Nat->Prop}{lo:Nat->Prop}(aC:(view w M).cb (view w ay)):∀{sh:j4} {x:sh.aD} {cs:List Value} {U bV:Nat->Prop},q0 w M lo sh x cs U bV->(∀b,bV b->ay b)->q0 w ay lo sh x cs U bV
 |.d t,x,cs,U,bV,h,_=>⟨h.1.mono aC,h.2⟩
 |.o _ e,l,cs,U,bV,h,dS=>by
  obtain⟨ao,v,O,R,h⟩:=h;refine⟨ao,v,O,R,?_⟩;rcases h with h|⟨b,h,af⟩
  .grind
  exact .inr ⟨b,h.bE aC (dS b (by grind)),af⟩
 |.p a b,x,cs,U,bV,h,dS=>by obtain⟨c1,c2,jd,ao,O,R⟩:=h;exact⟨c1,c2,jd,ao,O.bE aC (λb Y=>dS b (R.sub b Y)),R.bE aC dS⟩
section
variable {K:Kp} {w0 w:World} {phx:cc} {M:Nat->Prop} {B B':Nat->aQ} {g:Nat->au}
def axv{H:cg}{pv u v:au}{agV ny:ae}{cs:List Value}(h:NP pv=some (u,v))(ah:e2 phx H B pv (.pair agV ny) cs):∃c1 c2,cs=c1++c2/\e2 phx H B u agV c1/\e2 phx H B v ny c2:=by
 cases pv<;>try(cases h;done)
 .rename_i t x
  cases t<;>try(cases h;done)
  cases h;obtain⟨e,cx⟩:=ah;cases e;obtain⟨c1,c2,ao,O,R⟩:=aH.mh.1 cx;exact⟨c1,c2,ao,⟨rfl,O⟩,rfl,R⟩
 cases h;exact ah
def aeh{e:ae}{pv:au}{x:List e.aD}{v:Value}(h:(xR e pv).aY g B=some (x,B'))(hm:Mem K w0 phx M B w)(ah:bM phx (view w M) B pv v){U:Nat->Prop}(du:kI phx M B U):
  0<e.size/\v.oneCell'=true/\∃bV,Mem K w0 phx M B' w/\cm phx M B w phx M B' w/\kI phx M B' bV/\((x=[]/\(∃a,v=.slice a 0 0)/\bV=U)\/∃b,uR w M (λb=>¬K.k b) U e x v b/\bV=λj=>U j\/j=b):=by
 cases pv<;>try(cases h;done)
 .obtain⟨ao,h⟩:=gx (show(bif Nat.blt 0 e.size then .ret []else .fail:aw (List e.aD)).aY g B=some (x,B') from h)
  cases h;simp only[bM]at ah;subst ah;exact⟨by simpa using ao,rfl,U,hm,cm.refl _ _ _ _,du,.inl ⟨rfl,⟨none,rfl⟩,rfl⟩⟩
 .rename_i id d'
  simp only[xR,aw.aY]at h;have dD:=hm.blks id;simp only[bM]at ah;generalize aB:B id=bl at h ah dD;cases bl<;>try(cases h;done)
  rename_i bC l;obtain⟨y,cS,O,R⟩:=aw.cA h;obtain⟨ai,jk⟩:=dE O;obtain⟨fm,rfl⟩:=jg ai;subst fm;cases R;rw[jk];obtain⟨bD,e1,af⟩:=VD hm aB (off:=0) (n:=l.length) J ah.1 du;rw[Ci]at af;obtain⟨ad,c,aC⟩:=ah.1.slice;refine⟨dD.1,by rw[aC];rfl,?_⟩;rcases af with⟨af,aq,a8⟩|⟨b,af,a8⟩
  .exact⟨U,bD,e1,a8,.inl ⟨af,aq,rfl⟩⟩
  exact⟨_,bD,e1,a8,.inr ⟨b,af,rfl⟩⟩
 rename_i id off n;simp only[xR,aw.aY]at h;have dD:=hm.blks id;simp only[bM]at ah;generalize aB:B id=bl at h ah dD;cases bl<;>try(cases h;done)
 rename_i bC l;obtain⟨y,cS,O,R⟩:=aw.cA h;obtain⟨ai,jk⟩:=dE O;obtain⟨fm,rfl⟩:=jg ai;subst fm;cases R;rw[jk];obtain⟨bD,e1,af⟩:=VD hm aB ah.1 ah.2.1 du;obtain⟨ad,c,aC⟩:=ah.2.1.slice;refine⟨dD.1,by rw[aC];rfl,?_⟩;rcases af with⟨af,aq,a8⟩|⟨b,af,a8⟩
 .exact⟨U,bD,e1,a8,.inl ⟨af,aq,rfl⟩⟩
 exact⟨_,bD,e1,a8,.inr ⟨b,af,rfl⟩⟩
def TX:∀{sh:j4} {pv:au} {x:sh.aD} {M:Nat->Prop} {B B':Nat->aQ} {cs:List Value} {U:Nat->Prop},(AC sh pv).aY g B=some (x,B')->Mem K w0 phx M B w->e2 phx (view w M) B pv (D' sh) cs->kI phx M B U ->
  ∃ay bV,Mem K w0 phx ay B' w/\cm phx M B w phx ay B' w/\kI phx ay B' bV/\q0 w ay (λb=>¬K.k b) sh x cs U bV
 |.d t,pv,x,M,B,B',cs,U,h,hm,ah,du=>by obtain⟨_,h⟩:=gx (h);obtain⟨ay,bD,e1,dT,_,f1⟩:=I4 (pv:=pv) h hm ah;exact⟨ay,U,bD,e1,du.VF dT,f1 rfl,rfl⟩
 |.o _ e,pv,x,M,B,B',cs,U,h,hm,ah,du=>by
  have bL:=h;have ky:∃v,cs=[v]/\bM phx (view w M) B pv v:=by
   cases pv<;>try(cases bL)
   all_goals (obtain⟨_,v,O,_,R⟩:=ah;exact⟨v,O,R⟩)
  obtain⟨v,rfl,ky⟩:=ky;obtain⟨ao,O,bV,bD,e1,dT,R⟩:=aeh bL hm ky du;exact⟨M,bV,bD,e1,dT,ao,v,rfl,O,R⟩
 |.p a b,pv,x,M,B,B',cs,U,h,hm,ah,du=>by
  simp only[AC]at h;cases ac:NP pv with
  |none=>rw[ac]at h;cases h
  |some ayk =>rw[ac]at h;obtain⟨y,cS,O,R⟩:=aw.cA h;obtain⟨z,b4,af,aq⟩:=aw.cA R;cases aq;obtain⟨c1,c2,rfl,eG,gr⟩:=axv ac ah;obtain⟨fr,tn,bD,e1,dT,f1⟩:=TX O hm eG du;obtain⟨c8,aiz,cn,aN,ev,f2⟩:=TX af bD (e1.b8 gr) dT;exact⟨c8,aiz,cn,e1.trans aN,ev,c1,c2,tn,rfl,f1.bE aN.vw (λb Y=>ev.2 b (f2.sub b Y)),f2⟩
end
def hr(phx:cc)(w:World)(M:Nat->Prop)(B:Nat->aQ)(lo:Nat->Prop)(a:Act):(es:List eX)->mC es->(Nat->Prop)->(Nat->Prop)->Prop
 |[],_,U,bV=>bV=U
 |.sl i t::r,x,U,bV=>(∃cs,aH (view w M) t x.1 cs/\a.tmps.getD i undef=cv t cs)/\hr phx w M B lo a r x.2 U bV
 |.ow i _ e::r,x,U,bV=>0<e.size/\∃jd,(((x.1:List e.aD)=[]/\(∃ad,a.tmps.getD i undef=.slice ad 0 0)/\jd=U)\/∃b,uR w M lo U e x.1 (a.tmps.getD i undef) b/\jd=λj=>U j\/j=b)/\hr phx w M B lo a r x.2 jd bV
 |.bk id e::r,x,U,bV=>B id=.ob e x.1/\hr phx w M B lo a r x.2 U bV
 |.bx id t sh::r,x,U,bV=>(∃v,B id=.box t v)/\D' sh=t/\∃b o c el fz jd,phx id=some (b,o,Array.size c)/\w.heap[b]?=some (.cells c el fz)/\o+t.size<=c.size/\h4 c fz/\M b/\q0 w M lo sh x.1 (cH c o t.size) U jd/\hr phx w M B lo a r x.2 jd bV
 |.it id _::r,x,U,bV=>(∃s,B id=.it s x.1)/\hr phx w M B lo a r x.2 U bV
def hr.sub{phx:cc}{w:World}{M:Nat->Prop}{B:Nat->aQ}{lo:Nat->Prop}{a:Act}:∀{es:List eX} {x:mC es} {U bV:Nat->Prop},hr phx w M B lo a es x U bV->∀b,U b->bV b
 |[],_,U,bV,h=>by intro b Y;rw[h];exact Y
 |.sl i t::r,x,U,bV,h=>h.2.sub
 |.ow i _ e::r,x,U,bV,h=>by
  obtain⟨_,jd,O,R⟩:=h;intro b Y;refine R.sub b ?_
  grind
 |.bk id e::r,x,U,bV,h=>h.2.sub
 |.bx id t sh::r,x,U,bV,h=>by obtain⟨_,_,b,o,c,el,fz,jd,_,_,_,_,_,O,R⟩:=h;exact λb Y=>R.sub b (O.sub b Y)
 |.it id s::r,x,U,bV,h=>h.2.sub
end Yp
namespace Yp
open Go
def rZ:=@List.nodup_append
def E4:=@List.map_append
def O4:=@List.sublist_cons_self
def Wu:=@List.Sublist.append_left
def OK:=@List.nodup_cons
variable {P:Program}
section
variable {K:Kp} {w0 w:World} {phx:cc} {M:Nat->Prop} {B B':Nat->aQ} {g:Nat->au} {a:Act}
def iH.box{B B':Nat->aQ}(h:iH B B'){id:Nat}{t:ae}{v:au}(Y:B id=.box t v):B' id=.box t v:=(h id (.inl ⟨t,v,Y⟩)).trans Y
def iH.it{B B':Nat->aQ}(h:iH B B'){id:Nat}{s:List UInt8}{p:Nat}(Y:B id=.it s p):B' id=.it s p:=(h id (.inr ⟨s,p,Y⟩)).trans Y
def AB:∀{es:List eX} {s:aM} {M:Nat->Prop} {U:Nat->Prop} {ρ:Type} {k:mC es×aM->aP ρ} {r:ρ},((ry s es).bind k).bI=some r->Mem K w0 phx M s.aR w->dw phx (view w M) s.aR s.bX a->kI phx M s.aR U ->
  ∃y ax c8 bV,(k (y,ax)).bI=some r/\Mem K w0 phx c8 ax.aR w/\cm phx M s.aR w phx c8 ax.aR w/\ax.bX=s.bX/\dY [] s ax/\iH s.aR ax.aR/\kI phx c8 ax.aR bV/\hr phx w c8 ax.aR (λb=>¬K.k b) a es y U bV
 |[],s,M,U,ρ,k,r,h,hm,ac,du=>⟨(),s,M,U,h,hm,cm.refl _ _ _ _,rfl,dY.refl _ _,iH.refl _,du,rfl⟩
 |.bk id e::es,s,M,U,ρ,k,r,h,hm,ac,du=>by
  simp only[ry,z6,cond_true]at h;rw[aP.fb]at h;obtain⟨y,ax,c8,bV,O,cn,aN,ev,f2,qP,oh,qf⟩:=AB h hm ac du;rw[aP.fb]at O;simp only[AA]at O;obtain⟨x,wr,af,aq⟩:=oM O;simp only[aw.aY]at af;generalize aB:ax.aR id=bl at af;cases bl<;>try(cases af;done)
  rename_i bC l;obtain⟨ai,j_⟩:=dE af;obtain⟨fm,rfl⟩:=jg ai;subst fm;rw[<- aM.nd]at j_;refine⟨(l,y),ax.ek wr,c8,bV,aq,by rw[j_];exact cn,by rw[j_];exact aN,by rw[aM.pY];exact ev,(f2.trans (dY.ek wr [])).mono bh,by rw[j_];exact qP,by rw[j_];exact oh,?_⟩;rw[j_];exact⟨aB,qf⟩
 |.sl i t::es,s,M,U,ρ,k,r,h,hm,ac,du=>by simp only[ry,z6,cond_false]at h;rw[aP.fb]at h;simp only[AA]at h;obtain⟨x,wr,O,R⟩:=oM h;simp only at R;rw[aP.fb]at R;simp only[aw.aY]at O;obtain⟨vv,O⟩:=gx (show(bif Aq (s.bX i) then lT true t (s.bX i) else .fail:aw t.aD).aY _ _=some (x,_) from O);obtain⟨cs,aC,fr,bD,e1,dT,_,f1⟩:=ym O hm (ac i);have eL:=ahc (pv:=s.bX i) vv O;rw[<- aM.nd]at bD e1 dT eL;obtain⟨y,ax,c8,bV,af,cn,aN,ev,f2,qP,oh,qf⟩:=AB R bD (by rw[aM.pY];exact ac.ext e1) (du.VF dT);exact⟨(x,y),ax,c8,bV,af,cn,e1.trans aN,ev.trans (aM.pY s wr),((dY.ek wr []).trans f2).mono bh,eL.trans qP,oh,⟨cs,(f1 rfl).mono aN.vw,aC⟩,qf⟩
 |.ow i id e::es,s,M,U,ρ,k,r,h,hm,ac,du=>by
  simp only[ry,z6,cond_false]at h;rw[aP.fb]at h;simp only[AA]at h;obtain⟨x,wr,O,R⟩:=oM h;simp only at R;rw[aP.fb]at R;simp only[aw.aY]at O;have ky:bM phx (view w M) s.aR (s.bX i) (a.tmps.getD i undef):=by
   have ah:=ac i;generalize s.bX i=pv at O ah;cases pv<;>try(cases O;done)
   all_goals exact ah
  obtain⟨ao,hone,tn,bD,e1,dT,f1⟩:=aeh O hm ky du;have eL:=aei O;rw[<- aM.nd]at bD e1 dT eL;obtain⟨y,ax,c8,bV,af,cn,aN,ev,f2,qP,oh,qf⟩:=AB R bD (by rw[aM.pY];exact ac.ext e1) dT;refine⟨(x,y),ax,c8,bV,af,cn,e1.trans aN,ev.trans (aM.pY s wr),((dY.ek wr []).trans f2).mono bh,eL.trans qP,oh,ao,tn,?_,qf⟩;rcases f1 with f1|⟨b,f1,f3⟩
  .exact .inl f1
  exact .inr ⟨b,f1.bE aN.vw (oh.2 b (qf.sub b (by rw[f3];exact .inr rfl))),f3⟩
 |.bx id t sh::es,s,M,U,ρ,k,r,h,hm,ac,du=>by
  simp only[ry,z6,cond_false]at h;rw[aP.fb]at h;simp only[AA]at h;obtain⟨x,wr,O,R⟩:=oM h;simp only at R;rw[aP.fb]at R;simp only[aw.aY]at O;have dD:=hm.blks id;generalize aB:s.aR id=bl at O dD;cases bl<;>try(cases O;done)
  rename_i t' v;obtain⟨ai,O⟩:=gx O;simp only[cM]at ai;have e1:=eD ai.1;subst e1;have ri:=eD ai.2;obtain⟨b,o,c,el,fz,g1,bw,cX,gd,kw,sj⟩:=dD;obtain⟨fr,tn,bD,e1,dT,f1⟩:=TX O hm (by rw[ri];exact gd) du;have eL:=TY O;rw[<- aM.nd]at bD e1 dT eL;obtain⟨y,ax,c8,bV,af,cn,aN,ev,f2,qP,oh,qf⟩:=AB R bD (by rw[aM.pY];exact ac.ext e1) dT;have j_:ax.aR id=.box t' v:=(eL.trans qP).box aB;have aoJ:c8 b:=by have:=cn.blks id;rw[j_]at this;obtain⟨b',di,cL,w5,pB,bG,_,_,_,_,lq⟩:=this;rw[g1]at bG;simp only[km,kH]at bG;rw[bG.1];exact lq
  exact⟨(x,y),ax,c8,bV,af,cn,e1.trans aN,ev.trans (aM.pY s wr),((dY.ek wr []).trans f2).mono bh,eL.trans qP,oh,⟨v,j_⟩,ri,b,o,c,el,fz,tn,g1,bw,cX,kw,aoJ,
   f1.bE aN.vw (λb Y=>oh.2 b (qf.sub b Y)),qf⟩
 |.it id str::es,s,M,U,ρ,k,r,h,hm,ac,du=>by
  simp only[ry,z6,cond_false]at h;rw[aP.fb]at h;simp only[AA]at h;obtain⟨x,wr,O,R⟩:=oM h;simp only at R;rw[aP.fb]at R;simp only[aw.aY]at O;generalize aB:s.aR id=bl at O;rcases bl with _|_|_|_|_|⟨axH,p⟩|_
  .cases O
  .cases O
  .cases O
  .cases O
  .cases O
  .have sm:=lZ (show some ((p:Nat),s.aR)=some ((x:Nat),dx s.aR wr) from O)
   have hx:p=x:=congrArg Prod.fst sm;have jk:s.aR=dx s.aR wr:=congrArg Prod.snd sm;rw[<- aM.nd]at jk;obtain⟨y,ax,c8,bV,af,cn,aN,ev,f2,qP,oh,qf⟩:=AB R (by rw[<- jk];exact hm) (by rw[aM.pY,<- jk];exact ac) (by rw[<- jk];exact du);rw[<- jk]at aN qP;exact⟨(x,y),ax,c8,bV,af,cn,aN,ev.trans (aM.pY s wr),((dY.ek wr []).trans f2).mono bh,qP,oh,⟨axH,by rw[<- hx];exact qP.it aB⟩,qf⟩
  cases O
def aQ.cb.trans{a b c:aQ}(h:a.cb b)(k:b.cb c):a.cb c:=by cases a<;>cases b<;>cases c<;>simp only[aQ.cb]at h k ⊢ <;> first|exact h.elim|exact k.elim|trivial|exact h.trans k|exact⟨h.1.trans k.1,h.2.trans k.2⟩|exact⟨h.trans k.1,k.2⟩|(obtain⟨O,R⟩:=h;obtain⟨rfl,aq⟩:=k;exact⟨by rw[O,aq],R⟩)
def BH(phx:cc)(B:Nat->aQ)(Uf A:Nat->Prop):Prop:=∀j,(B j).fv=true->∀z,phx j=some z->¬Uf z.1\/A z.1
def WW(hm:Mem K w0 phx M B w){id:Nat}(hid:B id=.new){e:ae}(dB:0<e.size){l:List e.aD}{v:Value}{U bV Uf A:Nat->Prop}
  (h:(l=[]/\(∃ad,v=.slice ad 0 0)/\bV=U)\/∃b,uR w M (λb=>¬K.k b) U e l v b/\bV=λj=>U j\/j=b) (mL:∀b,bV b->Uf b) (dn:∀b,A b->bV b->U b) (cy:BH phx B Uf A) :
  ∃phx',Mem K w0 phx' M (cV B id (.ob e l)) w/\cm phx M B w phx' M (cV B id (.ob e l)) w/\bM phx' (view w M) (cV B id (.ob e l)) (.own id false) v/\(∀j,j≠id->phx' j=phx j)/\BH phx' (cV B id (.ob e l)) Uf (λb=>A b\/(bV b/\¬U b)):=by
 rcases h with⟨rfl,⟨ad,rfl⟩,rfl⟩|⟨b,⟨o,c,el,fz,cap,rfl,bF,b3,dp,fP,go,jE,ka,kd,t6⟩,rfl⟩
 .obtain⟨bD,e1⟩:=hm.uY hid (.ob e []) none (λ_ y hy=>by cases hy) (λ_ y hy=>by cases hy) (λ_=>⟨dB,.inl ⟨lU _ _ _,rfl⟩⟩)
  refine⟨_,bD,e1,?_,λj an=>qS _ _ an,λj an z bj => ?_⟩
  .simp only[bM,eM]
   exact⟨.inl ⟨rfl,ad,rfl⟩,λh=>by cases h⟩
  by_cases dK:j=id
  .subst dK;rw[lU]at bj;cases bj
  rw[d6 _ _ dK]at an;rw[qS _ _ dK]at bj;exact(cy j an z bj).imp (λh=>h) .inl
 obtain⟨bD,e1⟩:=hm.uY hid (.ob e l) (some (b,o,c.size)) (λ_ y hy ap=>by cases hy;exact kd ap) (λ_ y hy j an z bj ai=>by
   rcases cy j an z bj with h|h
   .grind
   exact t6 (by grind)) (λ_=>⟨dB,.inr ⟨b,o,c,el,fz,lU _ _ _,fP,go,jE,ka⟩⟩)
 refine⟨_,bD,e1,?_,λj an=>qS _ _ an,λj an z bj => ?_⟩
 .simp only[bM,eM]
  exact⟨.inr ⟨b,o,c.size,cap,lU _ _ _,bh,bF,b3,by simpa using dp⟩,λh=>by cases h⟩
 by_cases dK:j=id
 .subst dK;rw[lU]at bj;cases bj;exact .inr (.inr ⟨.inr rfl,t6⟩)
 rw[d6 _ _ dK]at an;rw[qS _ _ dK]at bj;exact(cy j an z bj).imp (λh=>h) .inl
def aee(B:Nat->aQ):∀(l m:List (Nat×aQ)),dx B (l++m)=dx (dx B m) l
 |[],m=>rfl
 |(i,b)::l,m=>by rw[lA,xQ,aee B l m,xQ]
def SW{Uf:Nat->Prop}:∀{sh:j4} {x:sh.aD} {cs:List Value} {U bV A:Nat->Prop} {B:Nat->aQ} {phx:cc},Mem K w0 phx M B w->(∀id∈lv sh,B id=.new)->(lv sh).Nodup ->
  q0 w M (λb=>¬K.k b) sh x cs U bV->(∀b,bV b->Uf b)->(∀b,A b->bV b->U b)->BH phx B Uf A ->
  ∃phx' Ox,Mem K w0 phx' M (dx B (gI sh x).2) w/\cm phx M B w phx' M (dx B (gI sh x).2) w/\e2 phx' (view w M) (dx B (gI sh x).2) (gI sh x).1 (D' sh) cs /\
   (∀j,j∉lv sh->phx' j=phx j)/\BH phx' (dx B (gI sh x).2) Uf Ox/\(∀b,Ox b->A b\/(bV b/\¬U b))/\(gI sh x).2.map (·.1)=lv sh/\∀p∈(gI sh x).2,∃e l,p.2=.ob e l
 |.d t,x,cs,U,bV,A,B,phx,hm,hid,iT,h,mL,dn,cy=>⟨phx,A,hm,cm.refl _ _ _ _,⟨rfl,h.1⟩,λj _=>rfl,cy,λb Y=>.inl Y,rfl,λp hp=>by simp[gI]at hp⟩
 |.o id e,x,cs,U,bV,A,B,phx,hm,hid,iT,h,mL,dn,cy=>by
  obtain⟨ao,v,rfl,O,R⟩:=h;obtain⟨phx',bD,e1,eG,dF,bG⟩:=WW hm (hid id (by simp[lv])) ao R mL dn cy;have aB:dx B (gI (.o id e) x).2=cV B id (.ob e x):=by show dx B [(id,.ob e x)]=_;rw[xQ];rfl
  rw[aB];refine⟨phx',_,bD,e1,⟨rfl,v,rfl,O,eG⟩,λj an => ?_,bG,λb Y=>Y,rfl,λp hp => ?_⟩
  .have:=by simpa[lv]using an
   grind
  have:=by simpa[gI]using hp
  grind
 |.p a b,x,cs,U,bV,A,B,phx,hm,hid,iT,h,mL,dn,cy=>by
  obtain⟨c1,c2,jd,rfl,f1,f2⟩:=h;simp only[lv,rZ]at iT;obtain⟨vP,qD,HI⟩:=iT;have zy:=f2.sub;have du:=f1.sub;obtain⟨hk,Wq,bD,e1,eG,dF,bG,cI,bF,li⟩:=SW (sh:=b) hm (λid hi=>hid id (by simp[lv,hi])) qD f2 mL (λb Y aL=>du b (dn b Y aL)) cy;obtain⟨jH,ahY,cn,aN,gr,gp,b_,cR,b3,mf⟩:=SW (sh:=a) (B:=dx B (gI b x.2).2) bD (λid hi=>by
   have:dx B (gI b x.2).2 id=B id:=xE _ _ (by grind);rw[this];exact hid id (by simp[lv,hi])) vP f1 (λb Y=>mL b (zy b Y)) (λb Y aL=>by
    rcases cI b Y with h|h
    .grind
    exact absurd aL h.2) bG
  have aB:dx B (gI (.p a b) x).2=dx (dx B (gI b x.2).2) (gI a x.1).2:=aee B _ _;rw[aB];refine⟨jH,ahY,cn,e1.trans aN,⟨c1,c2,rfl,gr,eG.mono aN.pl aN.vw aN.bl⟩,λj an => ?_,b_,λb' Y => ?_,by simp only[gI,E4,bF,b3,lv],λp hp => ?_⟩
  .simp only[lv,io,not_or]at an
   grind
  .grind
  simp only[gI,io]at hp
  grind
def dw.lu{H:cg}{s:aM}{B:Nat->aQ}(ac:dw phx H B s.bX a){v:au}(h:a? phx H B v (a.tmps.getD i undef)):dw phx H B (s.lu i v).bX a:=by
 intro t;by_cases ht:t=i
 .subst ht
  rcases s.Ga t v with bL|bL<;>rw[bL]
  .exact h
  trivial
 rw[s.vc v ht];exact ac t
def avN(hm:Mem K w0 phx M B w){id:Nat}{t:ae}{u v:au}(aB:B id=.box t u){c:Array Value}{el:TypeId}{fz:Nat×Nat}(O:phx id=some (b,o,c.size))(R:w.heap[b]?=some (.cells c el fz))(af:o+t.size<=c.size)(aq:h4 c fz)(a8:M b)
  (ah:e2 phx (view w M) B v t (cH c o t.size)):Mem K w0 phx M (cV B id (.box t v)) w/\cm phx M B w phx M (cV B id (.box t v)) w:=
 hm.put (by rw[aB];rfl) O a8 rfl rfl rfl rfl (λ_ _=>rfl) (.box t v) (by rw[aB];rfl) λaA=>⟨b,o,c,el,fz,O,R,af,aA.b8 ah,aq,a8⟩
def nK(ll:cc)(b4:Nat->aQ)(phx:cc)(B:Nat->aQ):List eX->Prop
 |[]=>True
 |.bk id e::r=>(phx id=ll id/\∃l,B id=.ob e l/\b4 id=.ob e l)/\nK ll b4 phx B r
 |.bx id t _::r=>(phx id=ll id/\B id=.box t .bad)/\nK ll b4 phx B r
 |.it id _::r=>(phx id=ll id/\∃s p,B id=.it s p/\b4 id=.it s p)/\nK ll b4 phx B r
 |_::r=>nK ll b4 phx B r
def nK.congr{ll:cc}{b4:Nat->aQ}{phx phx':cc}{B B':Nat->aQ}:∀{es:List eX},nK ll b4 phx B es->(∀id∈dv es,phx' id=phx id/\B' id=B id)->nK ll b4 phx' B' es
 |[],_,_=>trivial
 |.bk id e::r,h,a2=>by have:=a2 id (by simp[dv]);exact⟨by rw[this.1,this.2];exact h.1,nK.congr h.2 λj an=>a2 j (by simp[dv,an])⟩
 |.bx id t sh::r,h,a2=>by have:=a2 id (by simp[dv]);exact⟨by rw[this.1,this.2];exact h.1,nK.congr h.2 λj an=>a2 j (by simp[dv,an])⟩
 |.it id s::r,h,a2=>by have:=a2 id (by simp[dv]);exact⟨by rw[this.1,this.2];exact h.1,nK.congr h.2 λj an=>a2 j (by simp[dv,an])⟩
 |.sl i t::r,h,a2=>nK.congr (es:=r) h a2
 |.ow i id e::r,h,a2=>nK.congr (es:=r) h a2
def pb(B:Nat->aQ)(s:aM)(es:List eX):Prop:=(∀j,j∉dv es->B j=s.aR j)/\∀j cq p,B j=.it cq p->∃rz,s.aR j=.it cq rz
def pb.cj{B:Nat->aQ}{s:aM}{es es':List eX}(h:pb B s es)(id:Nat)(b:aQ)(abm:∀j,j∉dv es'->j≠id->j∉dv es):pb (cV B id b) (s.nw id b) es':=by
 refine⟨λj an => ?_,λj cq p an => ?_⟩
 .rw[aM.zr]
  by_cases dK:j=id
  .subst dK;rw[eM,eM]
  rw[d6 _ _ dK,d6 _ _ dK];exact h.1 j (abm j an dK)
 rw[aM.zr];by_cases dK:j=id
 .subst dK;rw[eM]at an ⊢;exact⟨p,an⟩
 rw[d6 _ _ dK]at an ⊢;exact h.2 j cq p an
def pb.over{B:Nat->aQ}{s:aM}{es:List eX}(h:pb B s es):∀(l:List (Nat×aQ)),pb (dx B l) (s.ek l) es
 |[]=>h
 |(i,b)::l=>by rw[xQ];exact(pb.over h l).cj i b λj an _=>an
def C_{ll:cc}{b4:Nat->aQ}{Uf:Nat->Prop}:∀{es:List eX} {x:mC es} {U bV A:Nat->Prop} {s:aM} {B:Nat->aQ} {phx:cc},Mem K w0 phx M B w->dw phx (view w M) B s.bX a->pb B s es->(∀id∈hP es,B id=.new)->(hP es++dv es).Nodup ->
  hr ll w M b4 (λb=>¬K.k b) a es x U bV->nK ll b4 phx B es->(∀b,bV b->Uf b)->(∀b,A b->bV b->U b)->BH phx B Uf A ->
  ∃ax phx',(∀(γ:Type 1) (k:aM->γ),qx s es x k=k ax)/\Mem K w0 phx' M ax.aR w/\cm phx M B w phx' M ax.aR w/\dw phx' (view w M) ax.aR ax.bX a /\
   (∀id,id∉hP es->phx' id=phx id)/\(∃fQ,ax.w=fQ++s.w/\(∀id∈fQ,id∈hP es\/id∈dv es)/\∀id,id∉fQ->ax.aR id=s.aR id)/\(∀t,t∉u5 es->ax.bX t=s.bX t)
 |[],x,U,bV,A,s,B,phx,hm,ac,i2,_,_,_,_,_,_,_=>by have aB:B=s.aR:=funext λj=>i2.1 j (by simp[dv]);subst aB;exact⟨s,phx,λ_ _=>rfl,hm,cm.refl _ _ _ _,ac,λ_ _=>rfl,⟨[],rfl,λid h=>by simp at h,λ_ _=>rfl⟩,λ_ _=>rfl⟩
 |.sl i t::es,x,U,bV,A,s,B,phx,hm,ac,i2,aj,iT,ft,hz,mL,dn,cy=>by
  obtain⟨⟨cs,f1,f2⟩,ft⟩:=ft;obtain⟨ax,phx',bG,b_,cp,dl,eQ,lq,pS⟩:=C_ (es:=es) (s:=s.lu i (.sc t x.1)) hm (ac.lu ⟨cs,f1,f2⟩) i2 aj iT ft hz mL dn cy;refine⟨ax,phx',λγ k => ?_,b_,cp,dl,eQ,lq,λt' ht => ?_⟩
  .simp only[qx,C9,aM.It];exact bG γ k
  simp only[u5,gE,not_or]at ht;rw[pS t' ht.2];exact s.vc _ ht.1
 |.ow i id e::es,x,U,bV,A,s,B,phx,hm,ac,i2,aj,iT,ft,hz,mL,dn,cy=>by
  obtain⟨ao,jd,f1,ft⟩:=ft;have zM:id∉hP es/\id∉dv es/\(hP es++dv es).Nodup:=by simp only[hP,dv,lA,OK,io,not_or]at iT;exact⟨iT.1.1,iT.1.2,iT.2⟩
  have zy:=ft.sub;have du:∀b,U b->jd b:=λb Y=>by
   rcases f1 with⟨_,_,h⟩|⟨_,_,h⟩
   .rw[h];exact Y
   rw[h];exact .inl Y
  obtain⟨hk,bD,e1,eG,dF,O⟩:=WW hm (aj id (by simp[hP])) ao f1 (λb Y=>mL b (zy b Y)) (λb Y aL=>dn b Y (zy b aL)) cy;obtain⟨ax,phx',bG,b_,cp,dl,eQ,⟨fQ,lq,xX,v1⟩,pS⟩:=C_ (es:=es) (s:=(s.nw id (.ob e x.1)).lu i (.own id false)) bD (dw.lu (s:=s.nw id (.ob e x.1)) (ac.ext e1) eG)
   (pb.cj (es':=es) i2 id _ λj an _=>an) (λj an=>by
    have dK:j≠id:=λh=>zM.1 (h▸an);rw[d6 _ _ dK];exact aj j (by simp[hP,an])) zM.2.2 ft (nK.congr (es:=es) hz λj an=>by
    have dK:j≠id:=λh=>zM.2.1 (h▸an);exact⟨dF j dK,d6 _ _ dK⟩) mL (λb Y aL=>Y.elim (λh=>du b (dn b h aL)) (λh=>h.1)) O
  refine⟨ax,phx',λγ k => ?_,b_,e1.trans cp,dl,λj an => ?_,⟨fQ++[id],by rw[lq];simp[aM.lu,aM.nw],λj an => ?_,λj an => ?_⟩,λt' ht => ?_⟩
  .simp only[qx,C9,aM.Ir,aM.It];exact bG γ k
  .simp only[hP,gE,not_or]at an
   rw[eQ j an.2,dF j an.1]
  .simp only[io,pf]at an
   rcases an with an|an
   .rcases xX j an with h|h
    .exact .inl (by simp[hP,h])
    exact .inr (by simpa[dv]using h)
   exact .inl (by simp[hP,an])
  .simp only[io,pf,not_or]at an
   rw[v1 j an.1];show(s.nw id (.ob e x.1)).aR j=s.aR j;rw[aM.zr,d6 _ _ an.2]
  simp only[u5,gE,not_or]at ht;rw[pS t' ht.2];exact aM.vc _ _ ht.1
 |.bk id e::es,x,U,bV,A,s,B,phx,hm,ac,i2,aj,iT,ft,hz,mL,dn,cy=>by
  obtain⟨f1,ft⟩:=ft;obtain⟨⟨_,l,g1,bw⟩,hz⟩:=hz;rw[f1]at bw;have Gj:cV B id (.ob e x.1)=B:=by
   funext j;by_cases an:j=id
   .subst an;rw[eM,g1,bw]
   rw[d6 _ _ an]
  have zM:(hP es++dv es).Nodup:=by simp only[hP,dv]at iT;exact iT.sublist (Wu (O4 _ _) _)
  have zA:=pb.cj (es':=es) i2 id (.ob e x.1) λj an dK=>by simp[dv,an,dK]
  rw[Gj]at zA;obtain⟨ax,phx',bG,b_,cp,dl,eQ,⟨fQ,lq,xX,v1⟩,pS⟩:=C_ (es:=es) (s:=s.nw id (.ob e x.1)) (phx:=phx) hm ac zA aj zM ft hz mL dn cy;refine⟨ax,phx',λγ k => ?_,b_,cp,dl,eQ,⟨fQ++[id],by rw[lq];simp[aM.nw],λj an => ?_,λj an => ?_⟩,pS⟩
  .simp only[qx,C9,aM.Ir];exact bG γ k
  .simp only[io,pf]at an
   rcases an with an|an
   .exact(xX j an).imp (λh=>by simpa[hP]using h) (λh=>by simp[dv,h])
   exact .inr (by simp[dv,an])
  simp only[io,pf,not_or]at an;rw[v1 j an.1,aM.zr,d6 _ _ an.2]
 |.it id str::es,x,U,bV,A,s,B,phx,hm,ac,i2,aj,iT,ft,hz,mL,dn,cy=>by
  obtain⟨⟨cq,f1⟩,ft⟩:=ft;obtain⟨⟨_,qN,p,g1,bw⟩,hz⟩:=hz;rw[f1]at bw;cases bw;obtain⟨rz,hA⟩:=i2.2 id cq x.1 g1;have Gj:cV B id (.it cq x.1)=B:=by
   funext j;by_cases an:j=id
   .subst an;rw[eM,g1]
   rw[d6 _ _ an]
  have zM:(hP es++dv es).Nodup:=by simp only[hP,dv]at iT;exact iT.sublist (Wu (O4 _ _) _)
  have zA:=pb.cj (es':=es) i2 id (.it cq x.1) λj an dK=>by simp[dv,an,dK]
  rw[Gj]at zA;obtain⟨ax,phx',bG,b_,cp,dl,eQ,⟨fQ,lq,xX,v1⟩,pS⟩:=C_ (es:=es) (s:=s.nw id (.it cq x.1)) (phx:=phx) hm ac zA aj zM ft hz mL dn cy;refine⟨ax,phx',λγ k => ?_,b_,cp,dl,eQ,⟨fQ++[id],by rw[lq];simp[aM.nw],λj an => ?_,λj an => ?_⟩,pS⟩
  .simp only[qx,C9,hA,aM.Ir];exact bG γ k
  .simp only[io,pf]at an
   rcases an with an|an
   .exact(xX j an).imp (λh=>by simpa[hP]using h) (λh=>by simp[dv,h])
   exact .inr (by simp[dv,an])
  simp only[io,pf,not_or]at an;rw[v1 j an.1,aM.zr,d6 _ _ an.2]
 |.bx id t sh::es,x,U,bV,A,s,B,phx,hm,ac,i2,aj,iT,ft,hz,mL,dn,cy=>by
  obtain⟨_,ri,b,o,c,el,fz,jd,g1,bw,cX,gd,kw,f1,ft⟩:=ft;obtain⟨⟨dO,aB⟩,hz⟩:=hz;simp only[hP,dv]at aj iT;have aqu:(lv sh).Nodup:=(rZ.1 (rZ.1 iT).1).1;have aqv:(hP es++dv es).Nodup:=by refine iT.sublist ?_;exact(List.sublist_append_right _ _).append (O4 _ _)
  have R4:∀j,j∈lv sh->j∉hP es/\j≠id/\j∉dv es:=λj an=>by
   refine⟨λai=>(rZ.1 (rZ.1 iT).1).2.2 j an j ai rfl,λai => ?_,λai => ?_⟩
   .exact(rZ.1 iT).2.2 j (by simp[an]) id bh ai
   exact(rZ.1 iT).2.2 j (by simp[an]) j (by simp[ai]) rfl
  have abt:id∉hP es/\id∉dv es:=by
   refine⟨λai => ?_,λai => ?_⟩
   .exact(rZ.1 iT).2.2 id (by simp[ai]) id bh rfl
   exact(OK.1 (rZ.1 iT).2.1).1 ai
  have zy:=ft.sub;obtain⟨hk,Wq,bD,e1,eG,dF,O,cI,bF,li⟩:=SW hm (λj an=>aj j (by simp[an])) aqu f1 (λb Y=>mL b (zy b Y)) (λb Y aL=>dn b Y (zy b aL)) cy;have off:∀j,j∉lv sh->dx B (gI sh x.1).2 j=B j:=λj an=>xE _ _ (by rw[bF];exact an);have abu:id∉lv sh:=λai=>(R4 id ai).2.1 rfl;have jk:dx B (gI sh x.1).2 id=.box t .bad:=by rw[off id abu,aB]
  have aqN:hk id=some (b,o,c.size):=by rw[dF id abu,dO,g1]
  rw[ri]at eG;obtain⟨cn,aN⟩:=avN bD jk aqN bw cX gd kw eG;have aoG:BH hk (cV (dx B (gI sh x.1).2) id (.box t (gI sh x.1).1)) Uf Wq:=by
   intro j an z bj;by_cases dK:j=id
   .subst dK;exact O j (by rw[jk];rfl) z bj
   rw[d6 _ _ dK]at an;exact O j an z bj
  have zA:pb (cV (dx B (gI sh x.1).2) id (.box t (gI sh x.1).1)) ((s.ek (gI sh x.1).2).nw id (.box t (gI sh x.1).1)) es:=
   (pb.over i2 _).cj (es':=es) id _ λj an dK=>by simp[dv,an,dK]
  have hT:((s.ek (gI sh x.1).2).nw id (.box t (gI sh x.1).1)).bX=s.bX:=aM.pY s _;obtain⟨ax,phx',bG,b_,cp,dl,eQ,⟨fQ,lq,xX,v1⟩,pS⟩:=C_ (es:=es) (s:=(s.ek (gI sh x.1).2).nw id (.box t (gI sh x.1).1)) cn (by rw[hT];exact(ac.ext e1).ext aN) zA (λj an=>by
    have dK:j≠id:=λh=>abt.1 (h▸an);rw[d6 _ _ dK,off j λai=>(R4 j ai).1 an];exact aj j (by simp[an])) aqv ft (nK.congr (es:=es) hz λj an=>by
    have dK:j≠id:=λh=>abt.2 (h▸an);have aby:j∉lv sh:=λai=>(R4 j ai).2.2 an;exact⟨dF j aby,by rw[d6 _ _ dK,off j aby]⟩) mL (λb Y aL=>by
    rcases cI b Y with h|h
    .exact f1.sub b (dn b h aL)
    exact h.1) aoG
  refine⟨ax,phx',λγ k => ?_,b_,(e1.trans aN).trans cp,dl,λj an => ?_,⟨fQ++([id]++lv sh),?_,λj an => ?_,λj an => ?_⟩,λt' ht => ?_⟩
  .simp only[qx,C9,aM.Is,aM.Ir];exact bG γ k
  .simp only[hP,io,not_or]at an
   rw[eQ j an.2,dF j an.1]
  .rw[lq]
   have:((s.ek (gI sh x.1).2).nw id (.box t (gI sh x.1).1)).w=id::(lv sh++s.w):=by show id::(s.ek (gI sh x.1).2).w=_;rw[aM.UO,bF]
   rw[this];simp
  .simp only[io,pf]at an
   rcases an with an|an|an
   .rcases xX j an with h|h
    .exact .inl (by simp[hP,h])
    exact .inr (by simp[dv,h])
   .exact .inr (by simp[dv,an])
   exact .inl (by simp[hP,an])
  .simp only[io,pf,not_or]at an
   rw[v1 j an.1,aM.zr,d6 _ _ an.2.1,aM.nd];exact xE _ _ (by rw[bF];exact an.2.2)
  rw[pS t' ht,hT]
def nQ:List eX->Nat->Option ae
 |[],_=>none
 |.bx id t _::r,j=>if j=id then some t else nQ r j
 |_::r,j=>nQ r j
def PF:∀{es:List eX} {id:Nat} {t:ae} {sh:j4},eX.bx id t sh∈es->∃t',nQ es id=some t'
 |e::es,id,t,sh,h=>by
  rcases gE.1 h with rfl|h
  .exact⟨t,by simp[nQ]⟩
  obtain⟨t',bL⟩:=PF h;cases e<;>simp only[nQ]<;>first|exact⟨t',bL⟩|(split;exact⟨_,rfl⟩;exact⟨t',bL⟩)
def hr.box{lo:Nat->Prop}{b4:Nat->aQ}:∀{es:List eX} {x:mC es} {U bV:Nat->Prop} {id:Nat} {t:ae},hr phx w M b4 lo a es x U bV->nQ es id=some t ->
  (∃v,b4 id=.box t v)/\∃b o c el fz,phx id=some (b,o,Array.size c)/\w.heap[b]?=some (.cells c el fz)/\o+t.size<=c.size/\h4 c fz/\M b/\∀v∈cH c o t.size,v.oneCell'=true
 |.sl i t'::es,x,U,bV,id,t,ft,h=>hr.box (es:=es) ft.2 h
 |.ow i _ e::es,x,U,bV,id,t,ft,h=>by obtain⟨_,jd,_,ft⟩:=ft;exact hr.box (es:=es) ft h
 |.bk _ e::es,x,U,bV,id,t,ft,h=>hr.box (es:=es) ft.2 h
 |.it _ s::es,x,U,bV,id,t,ft,h=>hr.box (es:=es) ft.2 h
 |.bx oR t' sh::es,x,U,bV,id,t,ft,h=>by
  obtain⟨aC,ri,b,o,c,el,fz,jd,g1,bw,cX,gd,kw,f1,ft⟩:=ft;simp only[nQ]at h;split at h
  .rename_i hid
   cases h;subst hid;exact⟨aC,b,o,c,el,fz,g1,bw,cX,gd,kw,f1.one⟩
  exact hr.box (es:=es) ft h
def kU(eh b4:Nat->aQ)(es:List eX):Nat->aQ:=λid=>if z8 (eh id)=true then .new else match nQ es id with|some t=>.box t .bad|none=>b4 id
def sD{b:aQ}:z8 b=true↔b=.new:=by cases b<;>simp[z8]
def Dp{eh b4:Nat->aQ}{es:List eX}{lo:Nat->Prop}(hold:∀id∈dv es,eh id ≠ .new){rS:mC es}{aix aiy:Nat->Prop}(ao:hr phx w M b4 lo a es rS aix aiy):∀{r:List eX} {x:mC r} {U bV:Nat->Prop},(∀e∈r,e∈es)->(∀id∈dv r,id∈dv es)->hr phx w M b4 lo a r x U bV->nK phx b4 phx (kU eh b4 es) r
 |[],_,_,_,_,_,_=>trivial
 |.sl i t'::r,x,U,bV,hm,aK,h=>Dp hold ao (r:=r) (λe aA=>hm e (by grind)) aK h.2
 |.ow i _ e::r,x,U,bV,hm,aK,h=>by obtain⟨_,jd,_,h⟩:=h;exact Dp hold ao (r:=r) (λe aA=>hm e (by grind)) aK h
 |.bk id e::r,x,U,bV,hm,aK,h=>by
  refine⟨⟨rfl,x.1,?_,h.1⟩,Dp hold ao (r:=r) (λe aA=>hm e (by grind)) (λj an=>aK j (by simp[dv,an])) h.2⟩;unfold kU;rw[if_neg (by rw[sD];exact hold id (aK id (by simp[dv])))];cases Y:nQ es id with
  |none=>exact h.1
  |some t=>obtain⟨⟨v,aC⟩,_⟩:=ao.box Y;rw[h.1]at aC;cases aC
 |.it id s::r,x,U,bV,hm,aK,h=>by
  obtain⟨⟨cq,O⟩,R⟩:=h;refine⟨⟨rfl,cq,x.1,?_,O⟩,Dp hold ao (r:=r) (λe aA=>hm e (by grind)) (λj an=>aK j (by simp[dv,an])) R⟩;unfold kU;rw[if_neg (by rw[sD];exact hold id (aK id (by simp[dv])))];cases Y:nQ es id with
  |none=>exact O
  |some t=>obtain⟨⟨v,aC⟩,_⟩:=ao.box Y;rw[O]at aC;cases aC
 |.bx id t sh::r,x,U,bV,hm,aK,h=>by
  obtain⟨⟨v,aC⟩,ri,b,o,c,el,fz,jd,g1,bw,cX,gd,kw,f1,h⟩:=h;refine⟨⟨rfl,?_⟩,Dp hold ao (r:=r) (λe aA=>hm e (by grind)) (λj an=>aK j (by simp[dv,an])) h⟩;unfold kU;rw[if_neg (by rw[sD];exact hold id (aK id (by simp[dv])))];obtain⟨t',ht⟩:=PF (hm (.bx id t sh) bh);obtain⟨⟨cY,azD⟩,_⟩:=ao.box ht
  grind
def hr.t_{lo:Nat->Prop}{b4:Nat->aQ}:∀{es:List eX} {x:mC es} {U bV:Nat->Prop},hr phx w M b4 lo a es x U bV->∀id∈dv es,∀kt vt l,b4 id ≠ .mp kt vt l
 |[],_,_,_,_,id,hi,_,_,_=>by simp[dv]at hi
 |.sl i t'::es,x,U,bV,h,id,hi,kt,vt,l=>hr.t_ (es:=es) h.2 id hi kt vt l
 |.ow i _ e::es,x,U,bV,h,id,hi,kt,vt,l=>by obtain⟨_,jd,_,h⟩:=h;exact hr.t_ (es:=es) h id hi kt vt l
 |.bk oR e::es,x,U,bV,h,id,hi,kt,vt,l=>by
  simp only[dv,gE]at hi;rcases hi with rfl|hi
  .rw[h.1];intro h;cases h
  exact hr.t_ (es:=es) h.2 id hi kt vt l
 |.it oR s::es,x,U,bV,h,id,hi,kt,vt,l=>by
  simp only[dv,gE]at hi;rcases hi with rfl|hi
  .obtain⟨⟨cq,O⟩,_⟩:=h;rw[O];intro h;cases h
  exact hr.t_ (es:=es) h.2 id hi kt vt l
 |.bx oR t0 agd::es,x,U,bV,h,id,hi,kt,vt,l=>by
  simp only[dv,gE]at hi;rcases hi with rfl|hi
  .obtain⟨⟨v,aC⟩,_⟩:=h;rw[aC];intro h;cases h
  obtain⟨_,_,b,o,c,el,fz,jd,_,_,_,_,_,_,h⟩:=h;exact hr.t_ (es:=es) h id hi kt vt l
def as6{eh b4:Nat->aQ}{es:List eX}{lo:Nat->Prop}(hm:Mem K w0 phx M b4 w){x:mC es}{U bV:Nat->Prop}(ft:hr phx w M b4 lo a es x U bV)(q_:∀id t v,eh id=.box t v->∀j∈dM v,eh j ≠ .new)(Sl:∀id kt vt l,eh id=.mp kt vt l->∀p∈l,∀j∈dM p.2,eh j ≠ .new)
  (oL:∀id,eh id ≠ .new->id∉dv es->b4 id=eh id) (GT:∀id∈dv es,∀t v,b4 id=.box t v->∃t',nQ es id=some t') :
  Mem K w0 phx M (kU eh b4 es) w/\(∀id,eh id ≠ .new->(b4 id).cb (kU eh b4 es id))/\(∀id,(kU eh b4 es id).fv=true->(b4 id).fv=true):=by
 have mM:∀id,(kU eh b4 es id).fv=true->(b4 id).fv=true:=λid h=>by
  unfold kU at h;split at h
  .cases h
  split at h
  .rename_i t ht
   obtain⟨⟨v,aC⟩,_⟩:=ft.box ht;rw[aC];rfl
  exact h
 have bY:∀id,eh id ≠ .new->(b4 id).cb (kU eh b4 es id):=λid hid=>by
  unfold kU;rw[if_neg (by rw[sD];exact hid)];split
  .rename_i t ht
   obtain⟨⟨v,aC⟩,_⟩:=ft.box ht;rw[aC];rfl
  exact aQ.cb.refl _
 refine⟨{ hm with own:=λid h=>hm.own id (mM id h),blks:=λid => ?_,sep:=λi j i3 hi an=>hm.sep i j i3 (mM i hi) (mM j an) },bY,mM⟩;have dD:=hm.blks id;by_cases aj:z8 (eh id)=true
 .unfold kU;rw[if_pos aj];trivial
 have hid:eh id ≠ .new:=λh=>aj (sD.2 h);cases Y:nQ es id with
 |some t=>
  have Sm:kU eh b4 es id=.box t .bad:=by unfold kU;rw[if_neg aj,Y]
  rw[Sm];obtain⟨_,b,o,c,el,fz,g1,bw,cX,gd,kw,sj⟩:=ft.box Y;exact⟨b,o,c,el,fz,g1,bw,cX,⟨pX cX,sj⟩,gd,kw⟩
 |none=>
  have Sm:kU eh b4 es id=b4 id:=by unfold kU;rw[if_neg aj,Y]
  rw[Sm];generalize aB:b4 id=bl at dD;cases bl with
  |new=>trivial
  |e9=>trivial
  |ob e l=>exact dD
  |fz e l=>exact dD
  |it s p=>exact dD
  |mp kt vt l=>
   have vv:id∉dv es:=λai=>ft.t_ id ai kt vt l aB;have ao:eh id=.mp kt vt l:=by rw[<- oL id hid vv,aB]
   obtain⟨b,es',m',g1,bw,cX,gd⟩:=dD;exact⟨b,es',m',g1,bw,cX.h3 (λ_ _ _ _ _=>rfl) (cg.cb.refl _) (λp hp j an=>bY j (Sl id kt vt l ao p hp j an)),gd⟩
  |box t v=>
   have vv:id∉dv es:=λai=>by obtain⟨t',vA⟩:=GT id ai t v aB;rw[Y]at vA;cases vA
   have ao:eh id=.box t v:=by rw[<- oL id hid vv,aB]
   obtain⟨b,o,c,el,fz,g1,bw,cX,gd,kw,sj⟩:=dD;exact⟨b,o,c,el,fz,g1,bw,cX,e2.h3 (λ_ _ _=>rfl) (cg.cb.refl _) (λj an=>bY j (q_ id t v ao j an)) gd,kw,sj⟩
end
end Yp
namespace Yp
open Go
variable {P:Program}
def ahF{c:Code}{Q:Exit->Act->World->Prop}(I:Nat->Act->World->Prop)(bj:∀a w,¬I 0 a w)
  (round:∀n a w,I (n+1) a w->c.wp P (Exit.then (λa' w'=>I n a' w') Q) a w) {n:Nat} {a:Act} {w:World} (h:I n a w):(Code.loop c).wp P Q a w:=by
 intro b k cs;have key:∀n a w,I n a w->∃e a' w',Q e a' w'/\Arrives P (lone (b.at a (.code c :: .inLoop c::k)) cs w) b k cs e a' w':=by
  intro n;induction n with
  |zero=>intro a w h;exact absurd h (bj a w)
  |succ n ih=>
   intro a w eo;obtain⟨e,a₁,w₁,a2,xj⟩:=round n a w eo b (.inLoop c::k) cs;cases e with
   |normal =>obtain⟨e₂,a₂,w₂,hq₂,harr₂⟩:=ih a₁ w₁ a2;exact⟨e₂,a₂,w₂,hq₂,.of_steps (Steps.trans xj (.one step_inLoop)) harr₂⟩
   |exit id=>exact⟨_,a₁,w₁,a2,.pass (x:=.inLoop c) rfl (λ_ _=>.inl bh) xj⟩
   |goto l=>exact⟨_,a₁,w₁,a2,.pass (x:=.inLoop c) rfl (λ_ _=>.inl bh) xj⟩
   |ret=>exact⟨_,a₁,w₁,a2,.pass (x:=.inLoop c) rfl (λ_ _=>.inl bh) xj⟩
   |panic ch=>exact⟨_,a₁,w₁,a2,.pass (x:=.inLoop c) rfl (λ_ _=>.inl bh) xj⟩
   |outgrown=>exact⟨_,a₁,w₁,a2,.pass (x:=.inLoop c) rfl (λ_ _=>.inl bh) xj⟩
 obtain⟨e,a',w',a2,xj⟩:=key n a w h;exact⟨e,a',w',a2,.of_steps (.one step_loop) xj⟩
def Do:∀{l:List Nat} {t:Nat},t∈nS l↔t∈l
 |[],t=>by simp[nS]
 |i::l,t=>by
  simp only[nS];cases ai:l.any (Nat.beq i) with
  |true =>simp;rw[Do];refine⟨.inr,λh=>h.elim (λh => ?_) id⟩;obtain⟨j,an,Y⟩:=wz.1 ai;rw[h,fy Y];exact an
  |false =>simp;rw[Do]
def adq:∀{l:List Nat},Mq l=true->l.Nodup
 |[],_=>List.nodup_nil
 |i::l,h=>by
  simp only[Mq,cM]at h;refine OK.2 ⟨λai => ?_,adq h.2⟩;have:=wz.2 ⟨i,ai,BS i⟩
  grind
def apG{base:aM}{es:List eX}{B6:List Nat}(h:Lu base es B6=true):
  (hP es++dv es).Nodup/\(∀id∈hP es,base.aR id=.new)/\(∀id∈dv es,base.aR id ≠ .new)/\∀i∈u5 es,i∈B6:=by
 simp only[Lu,cM]at h;obtain⟨⟨⟨O,R⟩,af⟩,aq⟩:=h;refine⟨adq O,λid hi=>sD.1 (pi.1 R id hi),λid hi ai => ?_,λi hi => ?_⟩
 .have:=pi.1 af id hi
  rw[ai]at this;cases this
 obtain⟨j,an,Y⟩:=wz.1 (pi.1 aq i hi);rw[fy Y];exact an
def amM{base:aM}{es:List eX}{s:aM}(h:Cq base es s=true){fQ:List Nat}(bb:s.w=fQ++base.w):∀id∈fQ,base.aR id=.new\/id∈dv es:=by
 intro id hi;have ht:s.w.take (s.w.length-base.w.length)=fQ:=by rw[bb];simp
 unfold Cq at h;rw[ht]at h;have:=pi.1 h id hi;simp only[yN]at this;rcases this with h|h
 .exact .inl (sD.1 h)
 obtain⟨j,an,Y⟩:=wz.1 h;right;rw[fy Y];exact an
def Zz{ρ σ:Type}{jm:Nat}{s:aM}{k:jO σ->aP ρ}{r:ρ}:∀{l:List Nat},((Cw jm s l).bind k).bI=some r->(k (.ex jm s)).bI=some r
 |[i],h=>by
  simp only[Cw]at h;cases ai:bZ jm i with
  |false=>rw[ai]at h;cases h
  |true=>rw[ai]at h;have:=fy ai;subst this;exact h
 |i::j::l,h=>by
  simp only[Cw]at h;cases ai:bZ jm i with
  |false=>rw[ai]at h;exact Zz h
  |true=>rw[ai]at h;have:=fy ai;subst this;exact h
def Tk{σ:Type}{f:σ->Option (aE σ ρ)}{x:σ}{o:aE σ ρ}(h:bN f x=some o):∃n,n6 f n x=some o:=by
 unfold bN at h;split at h
 .grind
 cases h
def Ca:∀{es:List eX} {id:Nat} {t:ae},nQ es id=some t->id∈dv es
 |.sl _ _::es,_,_,h=>Ca (es:=es) h
 |.ow _ _ _::es,_,_,h=>Ca (es:=es) h
 |.bk _ _::es,_,_,h=>wH _ (Ca (es:=es) h)
 |.it _ _::es,_,_,h=>wH _ (Ca (es:=es) h)
 |.bx oR t' sh::es,id,t,h=>by
  simp only[nQ]at h;split at h
  .rename_i e;rw[e];simp[dv]
  exact wH _ (Ca h)
section
variable {K:Kp} {w0 w:World} {phx:cc} {M:Nat->Prop} {B B':Nat->aQ} {g:Nat->au} {a:Act} {E:db} {rs:List ef} {res:List ResultVar} {nv nt:Nat} {inl:Bool}
def hr.DC{lo:Nat->Prop}{b4:Nat->aQ}:∀{es:List eX} {x:mC es} {U bV:Nat->Prop},hr phx w M b4 lo a es x U bV->∀id∈dv es,∀t v,b4 id=.box t v->∃t' sh,eX.bx id t' sh∈es
 |[],_,_,_,_,id,hi,_,_,_=>by simp[dv]at hi
 |.sl i t'::es,x,U,bV,h,id,hi,t,v,Y=>by obtain⟨t',sh,h⟩:=hr.DC (es:=es) h.2 id hi t v Y;exact⟨t',sh,by simp[h]⟩
 |.ow i _ e::es,x,U,bV,h,id,hi,t,v,Y=>by obtain⟨_,jd,_,h⟩:=h;obtain⟨t',sh,h⟩:=hr.DC (es:=es) h id hi t v Y;exact⟨t',sh,by simp[h]⟩
 |.bk oR e::es,x,U,bV,h,id,hi,t,v,Y=>by
  simp only[dv,gE]at hi;rcases hi with rfl|hi
  .rw[h.1]at Y;cases Y
  obtain⟨t',sh,h⟩:=hr.DC (es:=es) h.2 id hi t v Y;exact⟨t',sh,by simp[h]⟩
 |.it oR s::es,x,U,bV,h,id,hi,t,v,Y=>by
  simp only[dv,gE]at hi;rcases hi with rfl|hi
  .obtain⟨⟨cq,O⟩,_⟩:=h;rw[O]at Y;cases Y
  obtain⟨t',sh,h⟩:=hr.DC (es:=es) h.2 id hi t v Y;exact⟨t',sh,by simp[h]⟩
 |.bx oR t0 agd::es,x,U,bV,h,id,hi,t,v,Y=>by
  simp only[dv,gE]at hi;rcases hi with rfl|hi
  .exact⟨t0,agd,bh⟩
  obtain⟨_,_,b,o,c,el,fz,jd,_,_,_,_,_,_,h⟩:=h;obtain⟨t',sh,h⟩:=hr.DC (es:=es) h id hi t v Y;exact⟨t',sh,by simp[h]⟩
structure fR(K:Kp)(w0:World)(D:List Nat)(s:aM)(phx:cc)(M:Nat->Prop)(w:World)(a:Act)(ax:aM)(phx':cc)(ay:Nat->Prop)(w':World)(a':Act):Prop where
 iz:dY D s ax
 hd:Mem K w0 phx' ay ax.aR w'
 ext:cm phx M s.aR w phx' ay ax.aR w'
 slots:dw phx' (view w' ay) ax.aR ax.bX a'
 keep:g9 D a a'
def lG(E:db)(id:Nat):Exit:=if id=ir then .ret else match E.Pn with|some p=>if hs<=id then .panic [{ v:=.iface p.2 (.int .i64 ((id-hs:Nat):Int)),recovered:=false }]else .exit id|none=>.exit id
def Zx{E:db}{id:Nat}(h:id<ir):lG E id=.exit id:=by
 unfold lG;rw[if_neg J];split
 .rw[if_neg (by unfold hs;unfold ir at h;omega)]
 rfl
def KW{E:db}(h:E.Pn=some (m,t)):lG E (hs+k)=.panic [{ v:=.iface t (.int .i64 (k:Int)),recovered:=false }]:=by unfold lG;rw[if_neg (by unfold hs ir;omega),h];simp
def BO(P:Program)(K:Kp)(w0:World)(E:db)(rs:List ef)(res:List ResultVar)(nv nt:Nat)(inl:Bool)(c:Code):Prop:=
 ∀(s:aM) (ρ:Type) (k:jO (d8 rs)->aP ρ) (r:ρ),((run E rs res nv nt inl c s).bind k).bI=some r->∀(phx:cc) (M:Nat->Prop) (w:World) (a:Act),Mem K w0 phx M s.aR w->dw phx (view w M) s.aR s.bX a->nt<=a.tmps.size ->
  ∀(Q:Exit->Act->World->Prop),
   (∀ax phx' ay w' a',(k (.nx ax)).bI=some r->fR K w0 (d2 c) s phx M w a ax phx' ay w' a'->Q .normal a' w') ->
   (∀id ax phx' ay w' a',(k (.ex id ax)).bI=some r->fR K w0 (d2 c) s phx M w a ax phx' ay w' a'->Q (lG E id) a' w') ->
   (∀x w' a',(k (.rt x)).bI=some r->a'.defers=a.defers->(∃us,sV P a'.tmps w' res us/\iu w0 K.x w' rs x (ja us))->Q .ret a' w')->c.wp P Q a w
def asN{b:aQ}(h:b.iC=true):b ≠ .new:=by rintro rfl;cases h
def asG{b c:aQ}(h:b.cb c)(ai:c=.new):b=.new:=by subst ai;cases b<;>first|rfl|exact h.elim
def asQ{b:Code}(du:E.U=false)(ih:BO P K w0 E rs res nv nt inl b):BO P K w0 E rs res nv nt inl (.loop b):=by
 intro s ρ k r h ll BN V0 a0 hm ac ge Q _ Sx Sy;simp only[run,du,cond_false,aP.acK,am8]at h;generalize abm:entries E.b s ((run E rs res nv nt inl b s).n3) (nS (d2 b))=es at h;generalize tS:Cv ((run E rs res nv nt inl b s).n3)=exs at h;rw[aP.fb]at h;obtain⟨rS,bp,fr,tn,O,bD,e1,dT,f1,az1,axW,amG⟩:=AB (a:=a0) h hm ac (U:=λ_=>False) ⟨λ_ _ _ _ h=>h,λ_ h=>h.elim⟩;obtain⟨base,y7,ajU,Pr,ajb,bk⟩:=V8 (nS (d2 b)) bp;rw[bk]at O;cases Sg:Lu base es (nS (d2 b)) with
 |false=>rw[Sg]at O;cases O
 |true=>
  rw[Sg,cond_true]at O;obtain⟨iT,gg,hold,qw⟩:=apG Sg;have q_:∀id t v,base.aR id=.box t v->∀j∈dM v,base.aR j ≠ .new:=by intro id t v Y;rw[y7]at Y ⊢;have:=bD.blks id;rw[Y]at this;obtain⟨_,_,_,_,_,_,_,_,hT,_⟩:=this;exact hT.old
  have Sl:∀id kt vt l,base.aR id=.mp kt vt l->∀p∈l,∀j∈dM p.2,base.aR j ≠ .new:=by intro id kt vt l Y;rw[y7]at Y ⊢;have:=bD.blks id;rw[Y]at this;obtain⟨_,_,_,_,_,dS,_⟩:=this;exact dS.old
  have azy:∀t,t∉nS (d2 b)->∀j∈dM (base.bX t),base.aR j ≠ .new:=by intro t ht;rw[y7,Pr t ht];have:=(ac.ext e1) t;rw[<- dT]at this;exact this.old
  let Jv:mC es->Act->World->Prop:=λx a w=>∃(kk:aM) (phx:cc) (M:Nat->Prop),(∀(γ:Type 1) (k:aM->γ),qx base es x k=k kk)/\Mem K w0 phx M kk.aR w/\dw phx (view w M) kk.aR kk.bX a /\
   cm ll BN s.aR V0 phx M kk.aR w/\g9 (d2 b) a0 a/\(∀id,(base.aR id).cb (kk.aR id))/\(∃fQ,kk.w=fQ++base.w/\∀id,id∉fQ->kk.aR id=base.aR id)/\(∀t,t∉u5 es->kk.bX t=base.bX t)
  have W6:∀(cq:aM) (phx':cc) (c8:Nat->Prop) (w':World) (a':Act) (y:mC es) (ax:aM) (bV:Nat->Prop),Mem K w0 phx' c8 ax.aR w'->dw phx' (view w' c8) ax.aR ax.bX a'->cm ll BN s.aR V0 phx' c8 ax.aR w'->g9 (d2 b) a0 a' ->
    kI phx' c8 ax.aR bV->hr phx' w' c8 ax.aR (λb=>¬K.k b) a' es y (λ_=>False) bV->(∀t,t∉nS (d2 b)->ax.bX t=base.bX t)->(∀id,base.aR id ≠ .new->id∉dv es->ax.aR id=base.aR id)->(∀id,(base.aR id).cb (ax.aR id))->Jv y a' w':=by
   intro cq phx' c8 w' a' y ax bV GR pI tR ni xq ft sr oL bY;have GT:∀id∈dv es,∀t v,ax.aR id=.box t v->∃t',nQ es id=some t':=λid hi t v Y=>by obtain⟨t',sh,l?⟩:=ft.DC id hi t v Y;exact PF l?
   obtain⟨Tr,abB,mM⟩:=as6 GR ft q_ Sl oL GT;have hz:=Dp hold ft (λe h=>h) (λid h=>h) ft;have aq4:dw phx' (view w' c8) (kU base.aR ax.aR es) base.bX a':=by
    intro t;by_cases ht:t∈nS (d2 b)
    .rw[ajb t ht];trivial
    rw[<- sr t ht];refine a?.h3 (λ_ _ _=>rfl) (cg.cb.refl _) (λj an=>abB j ?_) (pI t)
    grind
   have i2:pb (kU base.aR ax.aR es) base es:=by
    refine⟨λj an => ?_,λj cq p an => ?_⟩
    .unfold kU
     split
     .rename_i aj;exact(sD.1 aj).symm
     rename_i aj;have kQ:=λh=>aj (sD.2 h);cases Y:nQ es j with
     |some t=>exact absurd (Ca Y) an
     |none=>exact oL j kQ an
    unfold kU at an;split at an
    .cases an
    rename_i aj;have kQ:=λh=>aj (sD.2 h);split at an
    .cases an
    have:=bY j;rw[an]at this;generalize base.aR j=q at this kQ;cases q<;>simp only[aQ.cb]at this<;>first|exact this.elim|exact absurd rfl kQ|exact⟨_,by rw[this]⟩
   have aqx:∀id∈hP es,kU base.aR ax.aR es id=.new:=λid hi=>by unfold kU;rw[if_pos (sD.2 (gg id hi))]
   obtain⟨kk,auL,bG,b_,cp,dl,eQ,⟨fQ,lq,xX,v1⟩,pS⟩:=C_ (Uf:=bV) (A:=λ_=>False) Tr aq4 i2 aqx iT ft hz (λb Y=>Y) (λb Y=>Y.elim) (λj an z bj=>.inl (xq.1 j (mM j an) z bj));have Cg:=λid hid=>(abB id hid).trans (cp.bl id);have adr:∀id,s.aR id ≠ .new->base.aR id ≠ .new:=λid hid ai=>hid (asG (e1.bl id) (by rw[<- y7];exact ai));refine⟨kk,auL,c8,bG,b_,dl,⟨λid hl => ?_,tR.vw.trans cp.vw,λid => ?_⟩,ni,λid => ?_,⟨fQ,lq,v1⟩,pS⟩
   .have Y:=adr id (asN hl)
    rw[eQ id λai=>Y (gg id ai)];exact tR.pl id hl
   .by_cases hid:s.aR id=.new
    .rw[hid];cases kk.aR id<;>trivial
    exact(tR.bl id).trans (Cg id (adr id hid))
   by_cases hid:base.aR id=.new
   .rw[hid];cases kk.aR id<;>trivial
   exact(bY id).trans (Cg id hid)
  cases hl:bN (λx=>(qx base es x λs=>aP.bind (run E rs res nv nt inl b s) (Ij base es)).bI) rS with
  |none=>rw[hl]at O;cases O
  |some o=>
   rw[hl]at O;obtain⟨n,aj⟩:=Tk hl;have anq:∀jm y,o=.ex jm y->∀a' w',Jv y a' w'->Q (lG E jm) a' w':=by
    rintro jm y rfl a' w' ⟨kk,phx,M,dF,gp,lk,xS,xU,sO,⟨fQ,T2,T3⟩,DH⟩;have O:((qx base es y λs=>Cw jm s exs).bind k).bI=some r:=O;rw[dF]at O;refine Sx jm kk phx M w' a' (Zz O) ⟨⟨λt ht => ?_,?_⟩,gp,xS,lk,xU⟩
    .have vA:=λai=>ht (Do.1 ai)
     rw[DH t λai=>vA (qw t ai),Pr t vA,dT]
    obtain⟨_,atJ,g1,bw⟩:=f1;refine⟨fQ++atJ,by rw[T2,ajU,g1,gt],λid hid => ?_⟩;rw[io,not_or]at hid;rw[T3 id hid.1,y7,bw id hid.2]
   have anr:∀x,o=.rt x->∀a' w',a'.defers=a0.defers->(∃us,sV P a'.tmps w' res us/\iu w0 K.x w' rs x (ja us))->Q .ret a' w':=by rintro x rfl a' w' aF aL;exact Sy x w' a' O aF aL
   have ao:=by refine W6 bp ll fr V0 a0 rS bp tn bD (by rw[dT];exact ac.ext e1) e1 (g9.refl _ _) axW amG (λt ht=>(Pr t ht).symm) (λid _ _=>by rw[y7]) (λid=>by rw[y7];exact aQ.cb.refl _)
   refine ahF (λn a w=>∃x,n6 (λx=>(qx base es x λs=>aP.bind (run E rs res nv nt inl b s) (Ij base es)).bI) n x=some o/\Jv x a w) (λa w=>by rintro⟨x,hx,_⟩;cases hx) ?_ (n:=n) ⟨rS,aj,ao⟩;rintro n a w ⟨x,hx,kk,phx,M,dF,gp,lk,xS,xU,sO,⟨fQ,T2,T3⟩,DH⟩;simp only[n6]at hx;rw[dF]at hx;have cQ:nt<=a.tmps.size:=by rw[xU.1];exact ge
   have ag4:∀(cq:aM) (phx':cc) (ay:Nat->Prop) (w':World) (a':Act) {ρ':Type} (jm:mC es->aP ρ') (di:ρ'),fR K w0 (d2 b) kk phx M w a cq phx' ay w' a'->((ry cq es).bind λy=>bif Cq base es y.2 then jm y.1 else .fail).bI=some di->∃y,(jm y).bI=some di/\Jv y a' w':=by
    intro cq phx' ay w' a' ρ' jm di sv iR;obtain⟨y,ax,c8,bV,af,cn,aN,ev,f2,qP,oh,qf⟩:=AB (a:=a') iR sv.hd sv.slots (U:=λ_=>False) ⟨λ_ _ _ _ h=>h,λ_ h=>h.elim⟩;cases xm:Cq base es ax with
    |false=>rw[xm]at af;cases af
    |true=>
     rw[xm,cond_true]at af;refine⟨y,af,?_⟩;obtain⟨R',adB,GE,R?⟩:=sv.iz;obtain⟨_,adC,Se,Sf⟩:=f2;have bb:ax.w=(adC++(adB++fQ))++base.w:=by rw[Se,GE,T2];simp
     have f6:=amM xm bb;refine W6 cq phx' c8 w' a' y ax bV cn (by rw[ev];exact sv.slots.ext aN) ((xS.trans sv.ext).trans aN) (xU.sub sv.keep (λt h=>h) (λt h=>h)) oh qf (λt ht => ?_) (λid hid vv => ?_) (λid=>((sO id).trans (sv.ext.bl id)).trans (aN.bl id))
     .rw[ev,R' t (λai=>ht (Do.2 ai)),DH t λai=>ht (qw t ai)]
     have LC:id∉adC++(adB++fQ):=λai=>(f6 id ai).elim hid vv;simp only[io,not_or]at LC;rw[Sf id LC.1,R? id LC.2.1,T3 id LC.2.2]
   cases hf:((run E rs res nv nt inl b kk).bind (Ij base es)).bI with
   |none=>rw[hf]at hx;cases hx
   |some di=>
    rw[hf]at hx;refine ih kk _ (Ij base es) di hf phx M w a gp lk cQ _ (λcq phx' ay w' a' iR sv => ?_) (λid cq phx' ay w' a' iR sv => ?_) (λwl w' a' iR aF aL => ?_)
    .obtain⟨y,af,hh⟩:=ag4 cq phx' ay w' a' (λy=>.leaf (aE.nx y)) di sv iR
     cases af;exact⟨y,hx,hh⟩
    .obtain⟨y,af,hh⟩:=ag4 cq phx' ay w' a' (λy=>.leaf (aE.ex id y)) di sv iR
     cases af;cases hx;have hf:=anq id y rfl a' w' hh;revert hf;unfold lG
     (repeat' split)<;>exact λh=>h
    cases iR;cases hx;exact anr wl rfl a' w' (aF.trans xU.2.1) aL
end
end Yp
namespace Yp
open Go
variable {P:Program}
def dY.b8{s ax:aM}(h:dY [] s ax):ax.bX=s.bX:=funext λt=>h.1 t bh
section
variable {K:Kp} {w0 w:World} {phx:cc} {M:Nat->Prop} {B B':Nat->aQ} {g:Nat->au} {H:cg} {E:db} {nv nt:Nat}
def anR{s:aM}{f:Operand}{a:Act}(ac:dw phx H s.aR s.bX a):a? phx H s.aR (CD s f) (a.eval f)\/CD s f=.bad:=by
 cases f with
 |tmp t=>exact .inl (ac t)
 |func f=>exact .inl ⟨[],rfl,rfl⟩
 |const v=>exact .inr rfl
 |global i=>exact .inr rfl
def aui(hT:mV P E.b8)(cx:ps P E.b8 E.C)(g3:qA P E.M)(dA:ot P E K w0)(eo:∀f g,E.I f=some g->j3 P f g)
  {o:Oper} {s:aM} {ρ:Type} {k:au×aM->aP ρ} {r:ρ} (h:((TT E o s).bind k).bI=some r) {a:Act} (hm:Mem K w0 phx M s.aR w) (ac:dw phx (view w M) s.aR s.bX a)
  {Kn:Act->World->Prop} {Q:Exit->Act->World->Prop}
  (ap:∀v ax phx' ay w' x,(k (v,ax)).bI=some r->Mem K w0 phx' ay ax.aR w'->cm phx M s.aR w phx' ay ax.aR w'->a? phx' (view w' ay) ax.aR v x->dY [] s ax->Kn (a.put o.dst x) w'):o.wp P a w Kn Q:=by
 have plain:((((rv E o).run s 0 [] []).bind λr=>s.v' r.2.wr λbp=>mH r.1 λv=>.leaf (v,bp):aP (au×aM)).bind k).bI=some r->o.wp P a w Kn Q:=by intro h;rw[aP.fb]at h;obtain⟨v,e,O,R⟩:=aw.afh s (rv E o) 0 [] [] _ r h;simp only[aM.Is,w9,aP.bind]at R;have aB:(s.ek e.wr).aR=dx s.aR e.wr:=aM.nd s _;refine TU hT cx g3 dA O hm ac λx w' bu => ?_;obtain⟨phx',ay,bD,e1,eG⟩:=bu;exact ap v (s.ek e.wr) phx' ay w' x R (by rw[aB];exact bD) (by rw[aB];exact e1) (by rw[aB];exact eG) (dY.ek e.wr [])
 unfold TT at h;obtain⟨c7,op,type,i_,after,CK⟩:=o;cases op<;>try(exact plain h)
 rename_i c;obtain⟨Qh,args,eg⟩:=c;cases Qh<;>try(exact plain h)
 rename_i f;simp only at h;cases hi:SX E (c7.getD 0) (CD s f) args.toList s with
 |none=>rw[hi]at h;exact plain h
 |some t=>
  rw[hi]at h;simp only at h;unfold SX at hi;split at hi
  .rename_i F dQ cW hf
   split at hi
   .rename_i sk abo
    cases hi;have fS:=eo _ _ abo;rw[aP.fb,aP.fb]at h;obtain⟨aZ,wr,O,R⟩:=oM h;obtain⟨e1,dd⟩:=xH ac O;simp only at R;have aB:(s.ek wr).aR=s.aR:=by rw[aM.nd,e1]
    have qv:a? phx (view w M) s.aR (.clo F dQ cW) (a.eval f):=by
     rcases anR (f:=f) ac with h|h
     .rw[hf]at h;exact h
     rw[hf]at h;cases h
    obtain⟨us,aA,oN⟩:=qv;refine Ol oN fS.1 ?_;have bu:(args.toList.map a.eval).toArray=args.map a.eval:=by apply m3;simp
    have iO:(us.take dQ++(args.toList.map a.eval++us.drop dQ)).toArray=(us.take dQ).toArray++args.map a.eval++(us.drop dQ).toArray:=by rw[<- bu];simp
    rw[<- iO];refine(fS.2 K w0 (dA.gk (.inr (.inl ⟨_,_,abo⟩))) _ (u3 dQ cW aZ) (s.ek wr) _ _ r R phx M w _ (by rw[aB];exact hm) (by rw[aB];exact Qt aA dd)).mono ?_;rintro e w' ⟨b2,rfl,v,ax,phx',ay,bG,b_,cp,dl,eQ⟩;rw[aB]at cp;simp only[w9,aP.bind]at bG;exact⟨b2,rfl,ap v ax phx' ay w' b2 bG b_ cp dl (((dY.ek wr []).trans eQ).mono bh)⟩
   cases hi
  cases hi
def Nc(hT:mV P E.b8)(cx:ps P E.b8 E.C)(g3:qA P E.M)(dA:ot P E K w0)(eo:∀f g,E.I f=some g->j3 P f g)
  (ej:nt<=1000000) {ops:Array Oper} {Q:Exit->Act->World->Prop} {tail:List Oper}:∀(l:List Oper) (top:Bool) (i:Nat) (s:aM) {ρ:Type} (k:aM->aP ρ) (r:ρ),((o3 E ops.toList nv nt top i l s).bind k).bI=some r ->
  ∀(phx:cc) (M:Nat->Prop) (w:World) (a:Act),Mem K w0 phx M s.aR w->dw phx (view w M) s.aR s.bX a->nt<=a.tmps.size ->
  (∀ax phx' ay w' a',(k ax).bI=some r->dY (en l) s ax->Mem K w0 phx' ay ax.aR w'->cm phx M s.aR w phx' ay ax.aR w'->dw phx' (view w' ay) ax.aR ax.bX a'->g9 (en l) a a'->wpList P ops Q tail a' w')->wpList P ops Q (l++tail) a w:=by
 intro l;induction l with
 |nil=>intro top i s ρ k r h phx M w a hm ac ge a2;exact a2 s phx M w a h (dY.refl _ _) hm (cm.refl _ _ _ _) ac (g9.refl _ _)
 |cons o rest ih=>
  intro top i s ρ k r h phx M w a hm ac ge a2;have aF:=tG o rest;simp only[o3]at h

  have yv:∀{ρ:Type} (k:aM->aP ρ) (r:ρ) (Bf:Bool) (bp:aM) (v cY:au) (hk:cc) (fr:Nat->Prop) (cf:World) (x:Value),r2 v cY->((ib nt o.dst bp cY λs=>o3 E ops.toList nv nt Bf (i+1) rest s).bind k).bI=some r ->
    Mem K w0 hk fr bp.aR cf->dw hk (view cf fr) bp.aR bp.bX a->a? hk (view cf fr) bp.aR v x ->
    (∀ax phx' ay w' a',(k ax).bI=some r->dY (en rest) (i' bp o.dst cY) ax->(∀d,o.dst=some d->d<nt)->Mem K w0 phx' ay ax.aR w'->cm hk fr bp.aR cf phx' ay ax.aR w'->dw phx' (view w' ay) ax.aR ax.bX a'->g9 (en (o::rest)) a a'->wpList P ops Q tail a' w') ->
    wpList P ops Q (rest++tail) (a.put o.dst x) cf:=by
   intro ρ k r Bf bp v cY hk fr cf x SH h bD IF eG a2;obtain⟨fZ,h⟩:=uB h;have q':∀d,o.dst=some d->d<a.tmps.size:=λd aF=>hU (fZ d aF) ge;refine ih Bf (i+1) _ k r h hk fr cf _ (by rw[lp];exact bD) (by rw[lp,rA ej fZ];exact IF.put q' (SH.bO eG)) (by simp only[Act.put];split<;>simpa using ge) λax phx' ay w' a' ap hf cn aN sX b3 => ?_;rw[lp]at aN;exact a2 ax phx' ay w' a' ap hf fZ cn aN sX ((g9.put aF.1).sub b3 (λt h=>h) aF.2)
  rcases aaG h with⟨bb,h⟩|⟨bb,h⟩
  .simp only[lA,wpList]
   rw[if_pos (V2 bb ac)];left;rw[aP.fb]at h;refine aui hT cx g3 dA eo h hm ac λv bp hk fr cf x h bD e1 eG f1 => ?_;simp only at h;have IF:dw hk (view cf fr) bp.aR bp.bX a:=by rw[f1.b8];exact ac.ext e1
   have Rk:∀cY ax,(∀d,o.dst=some d->d<nt)->dY (en rest) (i' bp o.dst cY) ax->dY (en (o::rest)) s ax:=λcY ax _ hf=>(f1.sub (vZ aF.1) (λt h=>by simp at h) (λt h=>h)).sub hf (λt h=>h) aF.2;cases hg:(Nat.testBit (xf ops.toList) i&&(tB v).isSome) with
   |false =>rw[hg,cond_false]at h;exact yv k r top bp v v hk fr cf x (.inl rfl) h bD IF eG λax phx' ay w' a' ap hf fZ cn aN sX b3=>a2 ax phx' ay w' a' ap (Rk v ax fZ hf) cn (e1.trans aN) sX b3
   |true=>
    rw[hg,cond_true]at h;cases Y:tB v with
    |none=>rw[Y]at h;cases h
    |some c=>
     rw[Y]at h;simp only at h;have aC:=Xt Y

     have two:∀{ρ:Type} (k:aM->aP ρ) (r:ρ),((aP.br c (ib nt o.dst bp (.kb true) λs=>o3 E ops.toList nv nt false (i+1) rest s) (ib nt o.dst bp (.kb false) λs=>o3 E ops.toList nv nt false (i+1) rest s)).bind k).bI=some r ->
       (∀ax phx' ay w' a',(k ax).bI=some r->dY (en rest) (i' bp o.dst (.kb c)) ax->(∀d,o.dst=some d->d<nt)->Mem K w0 phx' ay ax.aR w'->cm hk fr bp.aR cf phx' ay ax.aR w'->dw phx' (view w' ay) ax.aR ax.bX a'->g9 (en (o::rest)) a a'->wpList P ops Q tail a' w') ->
       wpList P ops Q (rest++tail) (a.put o.dst x) cf:=by
      intro ρ k r h a2;simp only[aP.bind,aP.bI,T]at h;cases c with
      |true=>exact yv k r false bp v (.kb true) hk fr cf x (.inr ⟨true,aC,rfl⟩) h bD IF eG a2
      |false=>exact yv k r false bp v (.kb false) hk fr cf x (.inr ⟨false,aC,rfl⟩) h bD IF eG a2
     cases top with
     |false=>exact two k r h λax phx' ay w' a' ap hf fZ cn aN sX b3=>a2 ax phx' ay w' a' ap (Rk _ ax fZ hf) cn (e1.trans aN) sX b3
     |true=>
      rw[cond_true]at h;obtain⟨fZ,h⟩:=uB h;rcases S2 (λt ht=>(r0.1 ht).1) h with h|⟨ks,p,hp,hrest⟩
      .exact two k r h λax phx' ay w' a' ap hf fZ cn aN sX b3=>a2 ax phx' ay w' a' ap (Rk _ ax fZ hf) cn (e1.trans aN) sX b3
      refine two _ p hp λax phx' ay w' a' R hf _ cn aN sX b3 => ?_;obtain⟨rz,pH,iB⟩:∃rz,(bif Nat.beq ax.w.length (i' bp o.dst (.sc .bool c)).w.length then qk ax ks else none)=some rz/\(aP.leaf rz).bI=some p:=by
       have tM:((aP.ug (bif Nat.beq ax.w.length (i' bp o.dst (.sc .bool c)).w.length then qk ax ks else none)).bind aP.leaf).bI=some p:=by rw[kq];exact R
       exact aP.TN tM
      cases iB;cases cr:Nat.beq ax.w.length (i' bp o.dst (.sc .bool c)).w.length with
      |false=>rw[cr]at pH;cases pH
      |true=>
       rw[cr,cond_true]at pH;have Sc:Jt (en rest) (i' bp o.dst (.sc .bool c)) ax:=by
        obtain⟨f1,fQ,f2,f3⟩:=hf;refine⟨λt ht => ?_,fQ,by rw[f2,MR,MR],λid hid=>by rw[f3 id hid,lp,lp]⟩;rw[f1 t ht,rA ej fZ,rA ej fZ];cases apF:o.dst with
        |none=>exact .inl rfl
        |some d=>
         by_cases zU:t=d
         .right
          refine⟨.bool,c,by simp[kE,o_,zU],?_⟩;simp only[kE,o_,zU,if_true];rfl
         left;simp[kE,o_,zU]
       obtain⟨d5,V1,ayv,ayw⟩:=hrest ax Sc (fy cr) pH;refine a2 d5 phx' ay w' a' ayw ?_ (by rw[V1.2];exact cn) (by rw[V1.2];exact e1.trans aN) (sX.Oa V1) b3;exact(f1.sub (vZ aF.1) (λt h=>by simp at h) (λt h=>h)).sub ayv (λt h=>h) aF.2
  simp only[lA,wpList];rw[if_neg (by rw[agt bb ac];simp)];exact yv k r top s .undef .undef phx M w undef (.inl rfl) h hm ac (aht rfl) λax phx' ay w' a' ap hf fZ cn aN sX b3=>a2 ax phx' ay w' a' ap ((vZ aF.1).sub hf (λt h=>h) aF.2) cn aN sX b3
end
end Yp
namespace Yp
open Go
def rX:=@Array.replicate_succ
def wF:=@List.getElem?_toArray
def BT:=@Nat.sub_self
variable {P:Program}
def aaE{n:Nat}:∀{l:List Oper},Ll n l=true->∀o∈l,∀g b,o.guard=some (g,b)->g<n
 |[],_,o,h,_,_,_=>by cases h
 |x::l,h,o,aK,g,b,hg=>by
  simp only[Ll,cM]at h;rcases gE.1 aK with rfl|aK
  .rw[hg]at h;simpa using h.1
  exact aaE h.2 o aK g b hg
def Zj:∀{l m:List Oper} {i:Nat},u4 i (l++m)=true->u4 i l=true
 |[],_,_,_=>rfl
 |o::l,m,i,h=>by simp only[lA,u4,cM]at h ⊢;exact⟨h.1,Zj h.2⟩
def ayJ{o:Oper}{a:Act}{w:World}{Kn:Act->World->Prop}{Q Q':Exit->Act->World->Prop}(a2:∀e a w,e ≠ .normal->Q' e a w->Q e a w)(h:o.wp P a w Kn Q'):o.wp P a w Kn Q:=by
 unfold Oper.wp at *
 generalize(execOp a.eval o).run P w=r at *
 cases r with
 |ok n w'=>
  cases n<;>simp only[Oper.upon]at h ⊢ <;>
   first
    |exact h
    | (
     refine Calls.mono h λe Jc aA => ?_;cases e with
     |returned v=>exact aA
     |panicked c=>exact a2 _ _ _ bh aA
     |outgrown=>obtain⟨a,w,h⟩:=aA;exact⟨a,w,a2 _ _ _ bh h⟩)
 |halt x w'=>cases x<;>simp only[Oper.upon]at h ⊢ <;> first|exact a2 _ _ _ bh h|exact h
def I1(P:Program)(ops:Array Oper)(n:Nat)(Q:Exit->Act->World->Prop):Exit->Act->World->Prop
 |.normal,a,w=>wpOp P ops Q n (λa w=>Q .normal a w) a w
 |e,a,w=>Q e a w
def ayI{l:List Oper}{o:Oper}(hl:Ht l o=true){Q:Exit->Act->World->Prop}:
  ∀(gC:Nat) (b6:Array Bool) (a:Act) (w:World),b6.size=l.length->qV l.toArray (e0 b6) ->
   wpAny P .any l.toArray (I1 P (l++[o]).toArray l.length Q) gC b6 a w->wpAny P .any (l++[o]).toArray Q (gC+1) (b6.push false) a w:=by
 simp only[Ht,cM]at hl;obtain⟨⟨zG,ap5⟩,RY⟩:=hl;have aj:(l++[o]).toArray.size=l.length+1:=bh;have Ru:∀i,i<l.length->(l++[o]).toArray[i]?=l.toArray[i]?:=λi hi=>by
  grind
 have aam:(l++[o]).toArray[l.length]?=some o:=bh;have AJ:∀(b6:Array Bool) (i:Nat) (d:Bool),b6.size=l.length->i<l.length->(b6.push false).getD i d=b6.getD i d:=λb6 i d ac hi=>by
  rw[mv,mv,Array.getElem?_push_lt J]
  grind
 have aez:∀(b6:Array Bool) (d:Bool),b6.size=l.length->(b6.push false).getD l.length d=false:=λb6 d ac=>by rw[mv,<- ac,Array.getElem?_push_size];rfl
 have QW:=KM (Zj zG);have amF:∀e∈o.after.toList,Region.binds .any e=true->e.on<l.length:=λe aA Y=>by have:=KM zG l.length o (by rw[BL (bU _),BT];rfl) e aA Y;omega

 have Uo:∀(b6:Array Bool) (i:Nat),b6.size=l.length->i<l.length->(i∈Region.ready .any (l++[o]).toArray (b6.push false)↔i∈Region.ready .any l.toArray b6):=λb6 i ac hi=>by
  rw[mem_ready,mem_ready,Ru i hi,AJ b6 i true ac hi];refine and_congr pm (exists_congr λdi => ?_);refine and_congr_right λaK => ?_;have aqC:l[i]?=some di:=by rw[<- wF];exact aK
  refine forall_congr' λe => ?_;refine forall_congr' λaA => ?_;refine forall_congr' λY => ?_;have:=QW i di aqC e (by simpa using aA) Y;rw[AJ b6 e.on false ac J]
 have aiM:∀(b6:Array Bool),b6.size=l.length->Region.ready .any l.toArray b6=[]->∀i,i<l.length->b6.getD i false=true:=by
  intro b6 i5 ah i;induction i using Nat.strongRecOn with
  |_ i ih=>
   intro hi;cases hL:b6.getD i false with
   |true=>rfl
   |false=>
    exfalso;have l?:i∈Region.ready .any l.toArray b6:=by
     rw[mem_ready];refine⟨?_,l[i],by rw[wF];exact jN hi,λe aA Y => ?_⟩
     .have:i<b6.size:=J
      simp[this]at hL ⊢;exact hL
     have bm:=QW i l[i] (jN hi) e (by simpa using aA) Y;exact ih e.on J J
    rw[ah]at l?;cases l?
 have atA:∀(b6:Array Bool),(∀i,i<l.length->b6.getD i false=true)->b6.size=l.length->Region.ready .any l.toArray b6=[]:=λb6 h i5=>by
  rw[JG];intro i hi;obtain⟨ao,di,aK,_⟩:=mem_ready.1 hi;have bm:=by simpa using(ip.1 aK).1
  have O:=h i bm;have:i<b6.size:=J;simp[this]at ao O;rw[O]at ao;cases ao

 have done:∀(b6:Array Bool) (f:Nat) (a:Act) (w:World),b6.size=l.length->Region.ready .any l.toArray b6=[]->I1 P (l++[o]).toArray l.length Q .normal a w->wpAny P .any (l++[o]).toArray Q (f+1) (b6.push false) a w:=by
  intro b6 f a w i5 ah a2;have hall:=aiM b6 i5 ah;have fA:l.length∈Region.ready .any (l++[o]).toArray (b6.push false):=by rw[mem_ready];exact⟨aez b6 true i5,o,aam,λe aA Y=>by have:=amF e (by simpa using aA) Y;rw[AJ b6 e.on false i5 this];exact hall _ this⟩
  refine⟨λh=>(by rw[h]at fA;cases fA),λi hi => ?_⟩;have bm:i<l.length+1:=by obtain⟨_,di,aK,_⟩:=mem_ready.1 hi;rw[<- aj];exact(ip.1 aK).1
  by_cases rc:i<l.length
  .rw[Uo b6 i i5 rc,ah]at hi;cases hi
  obtain rfl:i=l.length:=J;refine wpOp_mono (λa' w' sx => ?_) a2;have zQ:Region.ready .any (l++[o]).toArray ((b6.push false).setIfInBounds l.length true)=[]:=by
   rw[JG];intro i hi;obtain⟨ao,di,aK,_⟩:=mem_ready.1 hi;have bm:i<l.length+1:=by rw[<- aj];exact(ip.1 aK).1
   have cQ:(b6.push false).size=l.length+1:=by simp[i5]
   by_cases rc:i=l.length
   .subst rc
    rw[mv,Array.getElem?_setIfInBounds_self_of_lt J]at ao;cases ao
   rw[mv,BG (nI rc),<- mv,AJ b6 i true i5 J]at ao;have O:=hall i J;have:i<b6.size:=J;simp[this]at ao O;rw[O]at ao;cases ao
  cases f with
  |zero=>exact⟨zQ,sx⟩
  |succ f=>exact⟨λ_=>sx,λi hi=>by rw[zQ]at hi;cases hi⟩
 intro gC;induction gC with
 |zero=>intro b6 a w i5 eB h;exact done b6 0 a w i5 h.1 h.2
 |succ gC ih=>
  intro b6 a w i5 eB h;by_cases ah:Region.ready .any l.toArray b6=[]
  .exact done b6 (gC+1) a w i5 ah (h.1 ah)
  refine⟨λgD => ?_,λi hi => ?_⟩
  .exfalso
   apply ah;rw[JG];intro i hi;have bm:i<l.length:=by obtain⟨_,di,aK,_⟩:=mem_ready.1 hi;simpa using(ip.1 aK).1
   have:=(Uo b6 i i5 bm).2 hi;rw[gD]at this;cases this
  have bm:i<l.length+1:=by obtain⟨_,di,aK,_⟩:=mem_ready.1 hi;rw[<- aj];exact(ip.1 aK).1
  by_cases rc:i<l.length
  .have gG:=(Uo b6 i i5 rc).1 hi
   have R:=h.2 i gG;have nj:(b6.push false).setIfInBounds i true=(b6.setIfInBounds i true).push false:=by
    have vq:i<b6.toList.length:=by rw[O7];omega
    apply m3;simp only[WP,Array.toList_push,List.set_append];rw[if_pos vq]
   rw[nj];unfold wpOp at R ⊢;rw[Ru i rc];obtain⟨ao,di,aK,R5⟩:=mem_ready.1 gG;rw[aK]at R ⊢;simp only at R ⊢;have l?:=by rw[wF]at aK;exact JY aK
   have arm:Region.wanted di (yielded (l++[o]).toArray a.tmps)=Region.wanted di (yielded l.toArray a.tmps):=by
    unfold Region.wanted;cases hg:di.guard with
    |none=>rfl
    |some p =>obtain⟨g,b⟩:=p;have:=aaE ap5 di l? g b hg;simp only[yielded,Ru g this]
   rw[arm];have apr:qV l.toArray (e0 (b6.setIfInBounds i true)):=by
    intro k ok ap sp x hx Y;have CX:i<b6.size:=J;rw[JJ CX]at sp ⊢;simp only[yN,decide_eq_true_eq]at sp ⊢;right;rcases sp with sp|sp
    .subst sp
     rw[wD,aK]at ap;cases ap;exact R5 x (by simpa using hx) Y
    exact eB k ok ap sp x hx Y
   have ap:=
    λa w h=>ih _ a w (by simpa using i5) apr h
   have abO:∀e a w,e≠Exit.normal->I1 P (l++[o]).toArray l.length Q e a w->Q e a w:=λe a w aA h=>by cases e<;>first|exact absurd rfl aA|exact h
   split
   .rename_i bb
    rw[if_pos bb]at R;refine R.imp (λR=>ayJ abO (Oper.wp_mono ap R)) λ⟨af,a4,hq,aq⟩=>⟨af,a4,hq,abO _ _ _ bh aq⟩
   rename_i bb;rw[if_neg bb]at R;exact ap _ _ R
  obtain rfl:i=l.length:=J;exfalso;apply ah;obtain⟨_,di,aK,R5⟩:=mem_ready.1 hi;rw[aam]at aK;cases aK;refine atA b6 (λi hi => ?_) i5;have hall:=Pu (ops:=l++[o]) (L:=λi=>(b6.push false).getD i false) (λk ok ap sp x hx Y => ?_) l.length o (by rw[BL (bU _),BT];rfl) (λe aA Y=>R5 e (by simpa using aA) Y) i (pi.1 RY i (ox.2 hi))
  .rw[<- AJ b6 i false i5 hi];exact hall
  have CZ:k<l.length:=by
   have re:=by have:=(mt.1 ap).1;simpa using this
   by_cases CZ:k=l.length
   .subst CZ
    rw[aez b6 false i5]at sp;cases sp
   omega
  have qs:=by rw[EU CZ]at ap;exact ap
  have ab8:=QW k ok qs x hx Y;rw[AJ b6 x.on false i5 J];refine eB k ok (by exact qs) ?_ x hx Y;show b6.getD k false=true;rw[<- AJ b6 k false i5 CZ];exact sp
section
variable {K:Kp} {w0:World} {E:db} {nt:Nat} {ops:Array Oper}
def avU(hT:mV P E.b8)(cx:ps P E.b8 E.C)(g3:qA P E.M)(dA:ot P E K w0)(eo:∀f g,E.I f=some g->j3 P f g)(ej:nt<=1000000){s:aM}{k:aM->aP ρ}{r:ρ}
  (h:((oc E ops.toList nv nt true true 0 ops.toList s []).bind k).bI=some r) {phx:cc} {M:Nat->Prop} {w:World} {a:Act} (hm:Mem K w0 phx M s.aR w) (ac:dw phx (view w M) s.aR s.bX a) (ge:nt<=a.tmps.size)
  {Q:Exit->Act->World->Prop}
  (a2:∀ax phx' ay w' a',(k ax).bI=some r->dY (en ops.toList) s ax->Mem K w0 phx' ay ax.aR w'->cm phx M s.aR w phx' ay ax.aR w'->dw phx' (view w' ay) ax.aR ax.bX a'->g9 (en ops.toList) a a'->Q .normal a' w') :
  wpAny P .any ops Q ops.size (Array.replicate ops.size false) a { w with drawn:=w.drawn+1 }/\qV ops (e0 (Array.replicate ops.size false)):=by
 obtain⟨ax,⟨bz,bp,O,R,af,aq,a8,cT,dN,cz⟩,ap⟩:=afe ej _ _ _ _ _ k r h;have gm:∀phx' ay w' a',Mem K w0 phx' ay (eb bz (λ_=>true) s.aR) w'->cm phx M s.aR w phx' ay (eb bz (λ_=>true) s.aR) w'->dw phx' (view w' ay) (eb bz (λ_=>true) s.aR) (fg bz (λ_=>true) s.bX) a'->g9 (en ops.toList) a a'->Q .normal a' w':=by intro phx' ay w' a' bD e1 bp bF;rw[<- a8]at bD e1 bp;rw[<- aq]at bp;exact a2 ax phx' ay w' a' ap dN (by rw[cT.2];exact bD) (by rw[cT.2];exact e1) (bp.Oa cT) bF
 obtain⟨ah,aK⟩:=cz rfl;simp only[H?,cM]at ah;have f:k1 E nt ops bz s.bX s.aR:=⟨by simpa using O,R,af,ah.2,ah.1,TW (by simpa using aK)⟩;have tO:e0 (Array.replicate ops.size false)=λ_=>false:=by funext i;unfold e0;by_cases hi:i<ops.size<;>simp[hi]
 have Al:∀(l:List eY) (B:Nat->aQ),eb l (λ_=>false) B=B:=by
  intro l;induction l with
  |nil=>intro g;rfl
  |cons y l ih=>intro g;simp only[eb,cond];exact ih g
 have Tv:∀(l:List eY) (g:Nat->au),fg l (λ_=>false) g=g:=by
  intro l;induction l with
  |nil=>intro g;rfl
  |cons y l ih=>intro g;simp only[fg,cond];exact ih g
 have h?:Mem K w0 phx M s.aR { w with drawn:=w.drawn+1 }:={ hm with keep:=hm.keep,blks:=hm.blks };have eB:qV ops (e0 (Array.replicate ops.size false)):=by intro i o _ h;rw[tO]at h;cases h
 refine⟨ahi (P:=P) (K:=K) (w0:=w0) hT cx g3 dA eo f ge gm ops.size _ phx M { w with drawn:=w.drawn+1 } a bh eB ?_ ?_ ?_ ?_ (g9.refl _ _),eB⟩
 .exact eZ (rW _ _) bh
 .rw[tO,Al];exact h?
 .rw[tO,Al];exact⟨λ_ _=>rfl,cg.cb.refl _,λ_=>aQ.cb.refl _⟩
 rw[tO,Al,Tv];exact ac
def avW(iS:P.follows .mixedOrders=true){l:List Oper}{o:Oper}(hl:Ht l o=true){id:Nat}{Q:Exit->Act->World->Prop}{a:Act}{w:World}(aK:(l++[o]).toArray=ops)
  (h:wpAny P .any l.toArray (I1 P (l++[o]).toArray l.length Q) l.toArray.size (Array.replicate l.toArray.size false) a { w with drawn:=w.drawn+1 }/\qV l.toArray (e0 (Array.replicate l.toArray.size false))) :
  (Code.region id ops true).wp P Q a w:=by
 subst aK;refine wp_region_any iS ?_;have O:=ayI hl _ _ a _ bh h.2 h.1;have e1:(l++[o]).toArray.size=l.toArray.size+1:=bh;have aN:Array.replicate (l++[o]).toArray.size false=(Array.replicate l.toArray.size false).push false:=by rw[e1,rX]
 rw[aN,e1];exact O
end
end Yp