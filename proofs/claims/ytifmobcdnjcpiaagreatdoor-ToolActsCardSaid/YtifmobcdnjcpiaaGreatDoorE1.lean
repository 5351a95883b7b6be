/- A part of the proof of the statements of this seat: the engine that turns code into plain functions, and its soundness. No condition of its own. -/
import Derived.Test.YtifmobcdnjcpiaaGreatDoorE0
set_option linter.unusedVariables false
set_option linter.unusedSimpArgs false
set_option linter.defProp false
noncomputable section
open Go Yp
variable {c dk ok:Bool}{D j1:List Nat}{a b d f i j k m n nt nv o off t:Nat}{α β ρ:Type}
namespace Yp
open Go
def fb:=@List.length_drop
def hE:=@List.length_take
def E2:=@Nat.le_of_eq
variable {P:Program}
section
variable {K:Kp} {w0 w:World} {phx:cc} {M:Nat->Prop} {B B':Nat->aQ} {g:Nat->au} {H:cg}
def ae6{t u ty bc:TypeId}{i:TypeInfo}(ht:P.underlying t=some (.slice bc))(hi:P.info? bc=some i){x:Value}{mE QB:Nat}{news:List Value}
  (hl:(Builtin.lenOf x).run P w=.ok n w) (hm:Nat.min n mE=m) (hf:(Builtin.firstCells i.size m x).run P w=.ok news.toArray w) :
  (Builtin.copy_ #[t,u] ty #[.slice none mE QB,x]).run P w=.ok (.int .i64 m) w:=by
 simp[Builtin.copy_,run_underlying ht,Go.sizeOf,typeInfo,hi,hl,hm,hf,goInt]
def ae7{t u ty bc:TypeId}{i:TypeInfo}(ht:P.underlying t=some (.slice bc))(hi:P.info? bc=some i){x:Value}{mE QB:Nat}{news:List Value}{a:Addr}{w':World}
  (hl:(Builtin.lenOf x).run P w=.ok n w) (hm:Nat.min n mE=m) (hf:(Builtin.firstCells i.size m x).run P w=.ok news.toArray w) (ac:(storeCells a news).run P w=.ok () w') :
  (Builtin.copy_ #[t,u] ty #[.slice (some a) mE QB,x]).run P w=.ok (.int .i64 m) w':=by
 simp[Builtin.copy_,run_underlying ht,Go.sizeOf,typeInfo,hi,hl,hm,hf,ac,goInt]
def awG{c cK:Array Value}{vs:List Value}(ai:cK.toList=hC c.toList o vs)(aj:o+vs.length<=c.size)(h:o+vs.length<=a):cF cK a n=cF c a n:=by rw[rF,ai,IF J (.inr h),<- rF]
def zb{l bs:List α}(h:off+n<=l.length):(dU l off n bs).length=l.length:=by simp only[dU,cE,hE,fb];omega
def eV.cast{e:ae}{l m:List e.aD}{cs:List Value}(h:eV H e l cs)(hl:l=m):eV H e m cs:=hl▸h
def e4.copy{e:ae}{l bs:List e.aD}{c cK:Array Value}{news:List Value}(h:e4 H e l c o)(bY:off+n<=l.length)(b?:eV H e (bs.take n) news)
  (ai:cK.toList=hC c.toList (o+off*e.size) news):cK.size=c.size/\e4 H e (dU l off n bs) cK o:=by
 have zJ:news.length=min n bs.length*e.size:=by rw[b?.1,hE]
 have vp:(off+min n bs.length)*e.size<=l.length*e.size:=iq _ J;rw[fJ]at vp;have O:=h.1;have hK:o+off*e.size+news.length<=c.size:=J;have cP:=agj ai hK;refine⟨cP,eV.row (by rw[zb bY,cP];exact O) ?_⟩;have e1:(dU l off n bs).length*e.size=off*e.size+(news.length+(l.length-(off+min n bs.length))*e.size):=by rw[zb bY,zJ,<- fJ,<- fJ];congr 1;omega
 rw[e1,Nk,Nk,afV ai hK (bU _),afW ai hK,awG ai hK (bU _)];have bF:=(h.cut (off:=0) (m:=off) J).r';have dp:=(h.cut (off:=off+min n bs.length) (m:=l.length-(off+min n bs.length)) J).r';rw[k_ J,Nat.zero_mul,td]at bF;rw[k_ J,fJ,<- ju,<- zJ]at dp;have ar7:eV H e (l.take off) (cF c o (off*e.size)):=bF.cast (by simp[Yp.cut]);have He:eV H e (l.drop (off+min n bs.length)) (cF c (o+off*e.size+news.length) ((l.length-(off+min n bs.length))*e.size)):=dp.cast (by unfold Yp.cut;rw[hS bh])
 exact ar7.append (b?.append He)
def awh{e:ae}{l:List e.aD}{c:Array Value}(h:e4 H e l c o)(hl:l.length=n):aH H (.ar n e) l (cF c o (n*e.size)):=by have O:=h.1;rw[hl]at O;refine aH.BW.2 ⟨hl,pW O,λi x hi => ?_⟩;have bm:=Da hi;rw[DZ _ _ _ _ _ (xH J)];exact h.2 i x hi
def I6{id:Nat}{b:aQ}(h:B id=b):cU B id b=B:=by
 funext j;by_cases an:j=id
 .subst an;rw[eM,h]
 rw[d6 _ _ an]
def Qv(l:List α)(off:Nat)(bs:List α):dU l off 0 bs=l:=by simp[dU]
def asX(m n:Nat):fE (m:Int) (n:Int)=((Nat.min n m:Nat):Int):=by
 unfold fE
 grind
def YN{e:ae}{bs:List e.aD}{ad:Option Addr}{cap:Nat}(h:bs=[]\/∃b o c el fz,ad=some ⟨b,o,none⟩/\w.heap[b]?=some (.cells c el fz)/\e4 (view w M) e bs c o)(mE:Nat):
  ∃news,(Builtin.firstCells e.size (Nat.min bs.length mE) (.slice ad bs.length cap)).run P w=.ok news.toArray w/\eV (view w M) e (bs.take mE) news:=by
 rcases h with rfl|⟨b,o,c,el,fz,rfl,R,af⟩
 .refine⟨[],?_,by simpa using eV.nil (H:=view w M) e⟩
  cases ad<;>simp[Builtin.firstCells,loadCells,loadCellsFrom]
 have aq:=(af.cut (off:=0) (m:=Nat.min bs.length mE) (by simp only[jv];exact Nat.min_le_left _ _));have ai:Yp.cut bs 0 (Nat.min bs.length mE)=bs.take mE:=by
  unfold Yp.cut;rw[nD];rcases Nat.le_total bs.length mE with h|h
  .rw[show Nat.min bs.length mE=bs.length from E' h,nF,hS h]
  rw[show Nat.min bs.length mE=mE from Nat.min_eq_right h]
 rw[ai,Nat.zero_mul,td]at aq;have hl:(bs.take mE).length=Nat.min bs.length mE:=by rw[hE];exact Nat.min_comm _ _
 refine⟨cF c o (Nat.min bs.length mE*e.size),?_,by rw[<- hl];exact aq.r'⟩;simp only[Builtin.firstCells];exact DV R (by rw[<- hl];exact aq.1)
def Qt{e:ae}{tid uid ty bc:TypeId}(aL:P.underlying tid=some (.slice bc)){i:TypeInfo}(g1:P.info? bc=some i)(bw:i.size=e.size){bs:List e.aD}{ad:Option Addr}{cap:Nat}(hm:Mem K w0 phx M B w)
  (hy:bs=[]\/∃b o c el fz,ad=some ⟨b,o,none⟩/\w.heap[b]?=some (.cells c el fz)/\e4 (view w M) e bs c o) {id off n:Nat} {l:List e.aD} {bl:List e.aD->aQ} {ck:Value}
  (mM:(B id).fx=true) (bY:off+n<=l.length) (vu:hu phx id e off n ck)
  (SB:n=0->Mem K w0 phx M (cU B id (bl l)) w/\cm phx M B w phx M (cU B id (bl l)) w) (ao4:∀g6,g6.length=l.length->(B id).cb (bl g6))
  (d9:(phx id=none/\l.length=0)\/∃b o c el fz,phx id=some (b,o,c.size)/\w.heap[b]?=some (.cells c el fz)/\e4 (view w M) e l c o/\h4 c fz/\M b)
  (qw:∀(g6:List e.aD) (cK:Array Value) (b o:Nat) (el:TypeId) (fz:Nat×Nat) (w':World) (b4:Nat->aQ),g6.length=l.length->phx id=some (b,o,cK.size)->w'.heap[b]?=some (.cells cK el fz)->e4 (view w' M) e g6 cK o->h4 cK fz->M b->lC phx M w' (view w' M) b4 id (bl g6)) :
  ∃v w',(Builtin.copy_ #[tid,uid] ty #[ck,.slice ad bs.length cap]).run P w=.ok v w'/\dq K w0 phx M B w (cU B id (bl (dU l off n bs))) (int (fE (bf n) (len bs))) v w':=by
 have cq:(Builtin.lenOf (.slice ad bs.length cap)).run P w=.ok bs.length w:=rfl;obtain⟨news,f1,f2⟩:=YN (P:=P) (cap:=cap) hy n;rw[<- bw]at f1;have aC:∀phx' H' b4,a? phx' H' b4 (int (fE (bf n) (len bs))) (.int .i64 ((Nat.min bs.length n:Nat):Int)):=λphx' H' b4=>by rw[show fE (bf n) (len bs)=((Nat.min bs.length n:Nat):Int) from asX n bs.length];exact⟨_,aH.ia.2 rfl,rfl⟩
 rcases vu with⟨rfl,a',rfl⟩|⟨b,o,Va,gz,bF,rfl,dp,fR,gq⟩
 .have aj:news=[]:=by have:=f2.1;simpa using this
  subst aj;obtain⟨bD,e1⟩:=SB rfl;refine⟨_,w,?_,phx,M,by rw[Qv];exact bD,by rw[Qv];exact e1,aC _ _ _⟩;cases a' with
  |none=>exact ae6 aL g1 cq rfl f1
  |some a'=>exact ae7 aL g1 cq rfl f1 (by simp[storeCells])
 rcases d9 with⟨bG,_⟩|⟨b',di,c,el,fz,bG,b_,co,dl,eQ⟩
 .rw[bF]at bG;cases bG
 rw[bF]at bG;cases bG;have zJ:news.length=(bs.take n).length*e.size:=f2.1;have vp:(off+(bs.take n).length)*e.size<=l.length*e.size:=iq _ (by rw[hE];omega);rw[fJ]at vp;have DK:=co.1;have hK:o+off*e.size+news.length<=c.size:=J;obtain⟨w',bp,cK,ax,d5⟩:=Ig (P:=P) (b:=b) (el:=el) (fz:=fz) (o:=o+off*e.size) news 0 c w b_ dl J f2.one;simp only[td]at d5;obtain⟨cP,gD⟩:=co.copy (n:=n) bY f2 d5;refine⟨_,w',ae7 aL g1 cq rfl f1 bp,?_⟩;obtain⟨h?,jB⟩:=hm.put (id:=id) (x:=(b,o,c.size)) (w':=w') mM bF eQ ax.os ax.tape ax.output ax.size ax.other (bl (dU l off n bs)) (ao4 _ (zb bY)) λjB=>
  qw _ cK b o el fz w' _ (zb bY) (by rw[bF,cP]) ax.iQ (gD.mono jB.vw) (dl.same cP) eQ
 exact⟨phx,M,h?,jB,aC _ _ _⟩
def al3{e:ae}{tid uid ty:TypeId}(ht:(cO P (.sl e)).1 tid){a x r:au}{ck gU:Value}(h:(YM e a x).aX g B=some (r,B'))(hm:Mem K w0 phx M B w)
  (dP:a? phx (view w M) B a ck) (mb:a? phx (view w M) B x gU) :
  ∃v w',(Builtin.copy_ #[tid,uid] ty #[ck,gU]).run P w=.ok v w'/\dq K w0 phx M B w B' r v w':=by
 replace h:=gx h;obtain⟨dB,h⟩:=h;have dB:=by simpa using dB
 obtain⟨bs,cR,O,R⟩:=aw.cy h;obtain⟨rfl,ad,cap,rfl,hy⟩:=UH O hm mb;obtain⟨⟨bc,aL,aA⟩,_⟩:=ht;obtain⟨i,g1,bw,cW,gg⟩:=nc aA;cases a<;>try(cases R;done)
 case nil =>cases R;have GW:=dP;subst GW;obtain⟨news,f1,f2⟩:=YN (P:=P) (cap:=cap) hy 0;rw[<- bw]at f1;refine⟨_,w,ae6 aL g1 rfl rfl f1,phx,M,hm,cm.refl _ _ _ _,?_⟩;rw[show Nat.min (List.length (α:=e.aD) bs) 0=0 from Nat.min_zero _];exact⟨_,aH.ia.2 rfl,rfl⟩
 case own id d'=>
  simp only[aw.aX]at R;have ac:bM phx (view w M) cR (.own id d') ck:=dP;simp only[bM]at ac;have Y:=hm.blks id;generalize aB:cR id=bl at R ac Y;cases bl<;>try(cases R)
  rename_i bC l;obtain⟨hD,b4,af,aq⟩:=aw.cy R;obtain⟨bj,rfl⟩:=dE af;obtain⟨fp,rfl⟩:=jf bj;subst fp;cases aq;refine Qt (id:=id) (off:=0) (n:=l.length) (l:=l) (bl:=λl=>.ob e l) aL g1 bw hm hy (by rw[aB];rfl) J ac.1 (λ_=>by rw[I6 aB];exact⟨hm,cm.refl _ _ _ _⟩) (λg6 hl=>by rw[aB];exact⟨rfl,hl.symm⟩) Y.2 ?_;intro g6 cK b o el fz w' b4 um bG b_ co dl eQ;exact⟨dB,.inr ⟨b,o,cK,el,fz,bG,b_,co,dl,eQ⟩⟩
 case osl id off n=>
  simp only[aw.aX]at R;have ac:bM phx (view w M) cR (.osl id off n) ck:=dP;simp only[bM]at ac;have Y:=hm.blks id;generalize aB:cR id=bl at R ac Y;cases bl<;>try(cases R)
  case ob bC l =>obtain⟨hD,b4,af,aq⟩:=aw.cy R;obtain⟨bj,rfl⟩:=dE af;obtain⟨fp,rfl⟩:=jf bj;subst fp;cases aq;refine Qt (id:=id) (off:=off) (n:=n) (l:=l) (bl:=λl=>.ob e l) aL g1 bw hm hy (by rw[aB];rfl) ac.1 ac.2.1 (λ_=>by rw[I6 aB];exact⟨hm,cm.refl _ _ _ _⟩) (λg6 hl=>by rw[aB];exact⟨rfl,hl.symm⟩) Y.2 ?_;intro g6 cK b o el fz w' b4 um bG b_ co dl eQ;exact⟨dB,.inr ⟨b,o,cK,el,fz,bG,b_,co,dl,eQ⟩⟩
  case box t v=>
   cases t<;>try(cases R)
   rename_i m bC;obtain⟨l,b4,af,aq⟩:=aw.cy R;obtain⟨hl,rfl⟩:=dE af;obtain⟨hD,uH,a8,cS⟩:=aw.cy aq;obtain⟨bj,rfl⟩:=dE a8;obtain⟨fp,rfl⟩:=jf bj;subst fp;cases cS;obtain⟨eh,sL,c0,r_,sg,bF,b3,dp,fR,gq,jD⟩:=Y;obtain⟨abt,d9⟩:=JY (rI hl fR) dp;have zA:∀(g6:List e.aD) (cK:Array Value) (b o:Nat) (el:TypeId) (fz:Nat×Nat) (w':World) (b4:Nat->aQ),g6.length=List.length (α:=e.aD) l->phx id=some (b,o,cK.size)->w'.heap[b]?=some (.cells cK el fz)->e4 (view w' M) e g6 cK o->h4 cK fz->M b->lC phx M w' (view w' M) b4 id (.box (.ar m e) (.sc (.ar m e) g6)):=
    λg6 cK b o el fz w' b4 um bG b_ co dl eQ=>by have zH:=um.trans abt;have DK:=co.1;rw[zH]at DK;exact⟨b,o,cK,el,fz,bG,b_,DK,⟨rfl,awh co zH⟩,dl,eQ⟩
   refine Qt (id:=id) (off:=off) (n:=n) (l:=l) (bl:=λl=>.box (.ar m e) (.sc (.ar m e) l)) aL g1 bw hm hy (by rw[aB];rfl) (by rw[abt];exact ac.2.1) ac.2.2 (λ_ => ?_) (λg6 hl=>by rw[aB];rfl)
    (.inr ⟨eh,sL,c0,r_,sg,bF,b3,d9,gq,jD⟩) zA
   exact hm.put (id:=id) (x:=(eh,sL,c0.size)) (w':=w) (by rw[aB];rfl) bF jD rfl rfl rfl rfl (λ_ _=>rfl) _ (by rw[aB];rfl) λjB=>
    zA _ c0 eh sL r_ sg w _ rfl bF b3 d9 gq jD
def ayO(H:cg){e:ae}(dB:0<e.size)(n:Nat):eV H e ((bO n e.zero).take n) (Builtin.zeroCells (ct e (dz e)).cells n).toList:=by
 have Gr:Builtin.zeroCells (ct e (dz e)).cells n=madeCells (dz e).toArray (n*e.size):=by rw[s'];simp[Builtin.zeroCells,madeCells,rT]
 have h:=(Oq H dB (n:=n) (m:=n) (bU _)).r';have ac:cF (madeCells (dz e).toArray (n*e.size)) 0 ((bO n e.zero).length*e.size)=(madeCells (dz e).toArray (n*e.size)).toList:=Ij rfl (by simp[size_madeCells,bO]);rw[ac]at h;rw[Gr,hS (by simp[bO])];exact h
def Yy{e:ae}{tid ty bc:TypeId}(aL:P.underlying tid=some (.slice bc))(aA:(cO P e).1 bc)(dB:0<e.size)(hm:Mem K w0 phx M B w){id:Nat}{l:List e.aD}{ck:Value}(aB:B id=.ob e l)(bY:off+n<=l.length)(vu:hu phx id e off n ck)
  (d9:(phx id=none/\l.length=0)\/∃b o c el fz,phx id=some (b,o,c.size)/\w.heap[b]?=some (.cells c el fz)/\e4 (view w M) e l c o/\h4 c fz/\M b) :
  ∃v w',(Builtin.clear_ #[tid] ty #[ck]).run P w=.ok v w'/\dq K w0 phx M B w (cU B id (.ob e (dU l off n (bO n e.zero)))) (.tup (.sc .unit ())) v w':=by
 have abT:∀phx' H' b4,a? phx' H' b4 (.tup (.sc .unit ())) (.tuple #[]):=λ_ _ _=>⟨[],rfl,rfl⟩;have DY:n=0->(Builtin.clear_ #[tid] ty #[ck]).run P w=.ok (.tuple #[]) w->∃v w',(Builtin.clear_ #[tid] ty #[ck]).run P w=.ok v w'/\dq K w0 phx M B w (cU B id (.ob e (dU l off n (bO n e.zero)))) (.tup (.sc .unit ())) v w':=by rintro rfl ah;rw[Qv,I6 aB];exact⟨_,w,ah,phx,M,hm,cm.refl _ _ _ _,abT _ _ _⟩
 rcases vu with⟨rfl,a',rfl⟩|⟨b,o,Va,gz,bF,rfl,dp,fR,gq⟩
 .refine DY rfl ?_
  cases a'<;>simp[Builtin.clear_,run_underlying aL]
 cases n with
 |zero=>exact DY rfl (by simp[Builtin.clear_,run_underlying aL])
 |succ n=>
  rcases d9 with⟨bG,_⟩|⟨b',di,c,el,fz,bG,b_,co,dl,eQ⟩
  .omega
  rw[bF]at bG;cases bG;have f2:=ayO (view w M) dB (n+1);have zJ:=f2.1;have cq:((bO (n+1) e.zero).take (n+1)).length=n+1:=by simp[bO]
  rw[cq]at zJ;have vp:(off+(n+1))*e.size<=l.length*e.size:=iq _ bY;rw[fJ]at vp;have DK:=co.1;obtain⟨w',bp,cK,ax,d5⟩:=Ig (P:=P) (b:=b) (el:=el) (fz:=fz) (o:=o+off*e.size) (Builtin.zeroCells (ct e (dz e)).cells (n+1)).toList 0 c w b_ dl J f2.one;obtain⟨cP,gD⟩:=co.copy (n:=n+1) bY f2 d5;refine⟨.tuple #[],w',?_,?_⟩
  .have G3:=AW aA w
   simp[Builtin.clear_,run_underlying aL,G3];simp[bp]
  obtain⟨h?,jB⟩:=hm.put (id:=id) (x:=(b,o,c.size)) (w':=w') (by rw[aB];rfl) bF eQ ax.os ax.tape ax.output ax.size ax.other (.ob e (dU l off (n+1) (bO (n+1) e.zero))) (by rw[aB];exact⟨rfl,(zb bY).symm⟩) λjB=>
   ⟨dB,.inr ⟨b,o,cK,el,fz,by rw[bF,cP],ax.iQ,gD.mono jB.vw,dl.same cP,eQ⟩⟩
  exact⟨phx,M,h?,jB,abT _ _ _⟩
def alR{e:ae}{tid ty:TypeId}(ht:(cO P (.sl e)).1 tid){a r:au}{ck:Value}(h:(Ql e a).aX g B=some (r,B'))(hm:Mem K w0 phx M B w)(dP:a? phx (view w M) B a ck):
  ∃v w',(Builtin.clear_ #[tid] ty #[ck]).run P w=.ok v w'/\dq K w0 phx M B w B' r v w':=by
 unfold Ql at h;replace h:=gx h;obtain⟨dB,h⟩:=h;have dB:0<e.size:=by simpa using dB
 obtain⟨⟨bc,aL,aA⟩,_⟩:=ht;cases a<;>try(cases h;done)
 case own id d'=>
  simp only[aw.aX]at h;have ac:bM phx (view w M) B (.own id d') ck:=dP;simp only[bM]at ac;have Y:=hm.blks id;generalize aB:B id=bl at h ac Y;cases bl<;>try(cases h;done)
  replace h:=gx h;obtain⟨ai,h⟩:=h;have:=eD ai;subst this;cases h;exact Yy (ty:=ty) aL aA dB hm aB (E2 (jv _)) ac.1 Y.2
 case osl id off n=>
  simp only[aw.aX]at h;have ac:bM phx (view w M) B (.osl id off n) ck:=dP;simp only[bM]at ac;have Y:=hm.blks id;generalize aB:B id=bl at h ac Y;cases bl<;>try(cases h;done)
  replace h:=gx h;obtain⟨ai,h⟩:=h;have:=eD ai;subst this;cases h;exact Yy (ty:=ty) aL aA dB hm aB ac.1 ac.2.1 Y.2
def aiK{e u:ae}{tid uid ty:TypeId}(ht:(cO P (.sl e)).1 tid)(aL:(cO P u).1 uid)(a2:LQ u=true){s x r:au}{vs gU:Value}(h:(Pb e s x).aX g B=some (r,B'))
  (hm:Mem K w0 phx M B w) (vx:a? phx (view w M) B s vs) (mb:a? phx (view w M) B x gU) :
  ∃v w',(Builtin.append_ #[tid,uid] ty #[vs,gU]).run P w=.ok v w'/\dq K w0 phx M B w B' r v w':=by
 unfold Pb at h;replace h:=gx h;obtain⟨dB,h⟩:=h;have dB:0<e.size:=by simpa using dB
 obtain⟨bs,cR,O,R⟩:=aw.cy h;clear h;obtain⟨rfl,news,hx,b?⟩:=WS (P:=P) O hm mb;obtain⟨⟨bc,pI,aA⟩,_⟩:=ht;obtain⟨Ce,xp,aF⟩:=afZ aL a2;obtain⟨i,g1,bw,cW,gg⟩:=nc aA;cases s<;>try(cases R;done)
 rename_i id off n;simp only[aw.aX]at R;have ac:bM phx (view w M) cR (.osl id off n) vs:=vx;simp only[bM]at ac;have Y:=hm.blks id;generalize aB:cR id=bl at R ac Y;cases bl<;>try(cases R;done)
 rename_i bC l;obtain⟨hD,b4,af,aq⟩:=aw.cy R;clear R;obtain⟨bj,rfl⟩:=dE af;obtain⟨fp,rfl⟩:=jf bj;subst fp;replace aq:=iK aq;obtain⟨fV,aq⟩:=aq;simp only[aw.aX]at aq;cases aq;simp only[i6,bQ,aT]at fV;have fV:off+(n+List.length bs)<l.length+1:=by simpa using fV
 obtain⟨bY,aK,pD⟩:=ac;have vc:=b?.1

 have atr:bs=[]->∃v w',(Builtin.append_ #[tid,uid] ty #[vs,gU]).run P w=.ok v w'/\dq K w0 phx M b4 w (cU b4 id (.ob e (dU l (bQ off n) (aT bs) bs))) (.osl id off (bQ n (aT bs))) v w':=by
  rintro rfl;have abx:news=[]:=k3.1 (by rw[vc];simp);subst abx;have ng:dU l (bQ off n) (aT ([]:List e.aD)) []=l:=by simp[dU]
  rw[ng,I6 aB];obtain⟨ad,c,rfl⟩:=aK.slice;have qw:a? phx (view w M) b4 (.osl id off (bQ n (aT ([]:List e.aD)))) (.slice ad n c):=by simp only[a?,dZ,bM,aB];exact⟨by simpa[bQ,aT]using bY,aK,pD⟩
  cases n with
  |zero=>exact⟨_,w,UB (P:=P) pI xp aF g1 (by rw[bw];exact hx),phx,M,hm,cm.refl _ _ _ _,qw⟩
  |succ n=>
   rcases aK with⟨xx,_⟩|⟨b,o,Va,cap,bF,b3,dp,fR,gq⟩
   .omega
   cases b3;rcases Y.2 with⟨bG,_⟩|⟨b',di,cK,el,fz,bG,b_,co,dl,eQ⟩
   .rw[bF]at bG;cases bG
   rw[bF]at bG;cases bG;have DK:=co.1;have vp:(off+(n+1))*e.size<=l.length*e.size:=iq _ bY;rw[fJ]at vp;obtain⟨w',ah,c2,hp,nf⟩:=M' (P:=P) (w:=w) (ty:=ty) pI xp aF g1 (x:=gU) (n:=0) (news:=[]) (by rw[bw];exact hx) (b:=b) (o:=o+off*e.size) (sLen:=n+1) (sCap:=c) J b_ dl (by rw[bw];simp only[gw];omega) (by intro v aC;cases aC);have RX:c2=cK:=by apply m3;rw[nf];simp[hC]
   subst RX;obtain⟨h?,jB⟩:=hm.put (id:=id) (x:=(b,o,c2.size)) (w':=w') (by rw[aB];rfl) bF eQ hp.os hp.tape hp.output hp.size hp.other (.ob e l) (by rw[aB];exact⟨rfl,rfl⟩) λjB=>
    ⟨dB,.inr ⟨b,o,c2,el,fz,bF,hp.iQ,co.mono jB.vw,dl,eQ⟩⟩
   rw[I6 aB]at h? jB;exact⟨_,w',ah,phx,M,h?,jB,jB.p qw⟩
 by_cases hy:bs=[]
 .exact atr hy
 have azA:0<List.length bs:=by
  cases nl:bs with
  |nil=>exact absurd nl hy
  |cons=>simp
 rcases pD with⟨xx,_⟩|⟨b,o,Va,ua,cap,bF,b3,dp⟩
 .omega
 subst b3;obtain⟨rfl,ld⟩:=aK.Yr;rcases Y.2 with⟨bG,_⟩|⟨b',di,c,el,fz,bG,b_,co,dl,eQ⟩
 .rw[bF]at bG;cases bG
 rw[bF]at bG;cases bG;have DK:=co.1;have vp:(off+(ua+List.length bs))*e.size<=l.length*e.size:=iq _ J;rw[fJ,fJ]at vp;obtain⟨w',ah,cK,hp,nf⟩:=M' (P:=P) (w:=w) (ty:=ty) pI xp aF g1 (x:=gU) (n:=List.length bs) (news:=news) (by rw[bw];exact hx) (b:=b) (o:=o+off*e.size) (sLen:=ua) (sCap:=cap) J b_ dl (by rw[bw];omega) b?.one;rw[bw]at nf;have aov:eV (view w M) e (bs.take (List.length bs)) news:=by rw[nF];exact b?
 obtain⟨cP,gD⟩:=co.copy (off:=off+ua) (n:=List.length bs) J aov (by rw[nf,fJ,ju]);obtain⟨h?,jB⟩:=hm.put (id:=id) (x:=(b,o,c.size)) (w':=w') (by rw[aB];rfl) bF eQ hp.os hp.tape hp.output hp.size hp.other (.ob e (dU l (off+ua) (List.length bs) bs)) (by rw[aB];exact⟨rfl,(zb J).symm⟩) λjB=>
  ⟨dB,.inr ⟨b,o,cK,el,fz,by rw[bF,cP],hp.iQ,gD.mono jB.vw,dl.same cP,eQ⟩⟩
 refine⟨_,w',ah,phx,M,h?,jB,?_⟩;have eB:(dU l (off+ua) (List.length bs) bs).length=l.length:=zb J;rcases aK with⟨xx,a0,fR⟩|⟨ei,mf,azT,Kr,fR,gq,jD,j?,ka⟩
 .simp only[Value.slice.injEq]at fR;omega
 rw[bF]at fR;cases fR;simp only[Value.slice.injEq]at gq;obtain⟨_,_,rfl⟩:=gq;simp only[a?,dZ,bM,eM];refine⟨by rw[show bQ off ua=off+ua from rfl,show aT bs=List.length bs from rfl,eB];unfold bQ;omega,.inr ⟨b,o,c.size,cap,bF,rfl,by show ua+List.length bs<=cap;omega,j?,ka⟩,?_⟩;rw[show bQ off ua=off+ua from rfl,show aT bs=List.length bs from rfl,eB];exact .inr ⟨b,o,c.size,_,cap,bF,rfl,dp⟩
def axd{jt:ae}{tid:TypeId}(ht:(cO P (.ar n jt)).1 tid){a r:au}{ck:Value}{lo hi:Option Int}(h:(UP n jt a (bT lo 0) (bT hi (bf n))).aX g B=some (r,B'))(hm:Mem K w0 phx M B w)
  (dP:a? phx (view w M) B a ck) (ks kh:IntKind):B'=B/\∃v,(Instr.sliceAt tid ck (lo.map λi=>.int ks i) (hi.map λi=>.int kh i) none).run P w=.ok v w/\a? phx (view w M) B r v:=by
 have run:∀{b o:Nat},ca (bT lo 0) (bT hi (bf n)) (bf n)=true->(Instr.sliceAt tid (.pointer (some ⟨b,o,none⟩)) (lo.map λi=>.int ks i) (hi.map λi=>.int kh i) none).run P w =
   .ok (.slice (some (if n=(bT lo 0).toNat then⟨b,o,none⟩ else(⟨b,o,none⟩:Addr).add ((bT lo 0).toNat*jt.size))) ((bT hi (bf n)).toNat-(bT lo 0).toNat) (n-(bT lo 0).toNat)) w:=by
  intro b o Y;obtain⟨⟨bc,aL,aA⟩,_⟩:=ht;have kz:=UQ (P:=P) (isSlice:=false) (ks:=ks) (kh:=kh) (bU n) Y w;have bj:=od aA w;simp[Instr.sliceAt,Instr.sureAddr,run_underlying aL,kz,bj];rfl
 unfold UP at h;split at h
 .rename_i id
  simp only[aw.aX]at h;have ac:bM phx (view w M) B (.ptr id []) ck:=dP;simp only[bM]at ac;have Y:=hm.blks id;generalize aB:B id=bl at h ac Y;cases bl<;>try(cases h;done)
  case box t v=>
   replace h:=gx h;obtain⟨ai,h⟩:=h;replace h:=iK h;obtain⟨fC,h⟩:=h;cases h;simp only[cL]at ai;obtain⟨O,R,af⟩:=ai;have:=eD O;subst this;have dB:0<jt.size:=by simpa using R
   have i5:n<=16777216:=by simpa using af
   obtain⟨b,o,m,off,t',bF,b3,rfl⟩:=ac;simp only[ae.d?,km,kH]at b3;obtain⟨rfl,_⟩:=b3;obtain⟨eh,sL,c0,r_,sg,bG,b_,co,dl,eQ,lq⟩:=Y;rw[bF]at bG;cases bG;have co:o+n*jt.size<=c0.size:=co;obtain⟨dF,gr,lk⟩:=rk.1 fC;have lk:bT hi (bf n)<=(n:Int):=lk;refine⟨rfl,_,run fC,?_⟩;show bM phx (view w M) B (.osl id (aa (bT lo 0)) (cd (aa (bT hi (bf n))) (aa (bT lo 0)))) _;simp only[bM,aB];refine⟨dB,by unfold cd aa;omega,?_⟩;unfold cd aa;by_cases hl:n=(bT lo 0).toNat
   .left
    rw[if_pos hl];exact⟨J,_,by rw[show(bT hi (bf n)).toNat-(bT lo 0).toNat=0 by omega,show n-(bT lo 0).toNat=0 by omega]⟩
   right;rw[if_neg hl];refine⟨b,o,c0.size,n-(bT lo 0).toNat,bF,by simp[qd],J,by unfold maxLen;omega,?_⟩;rw[show(bT lo 0).toNat+(n-(bT lo 0).toNat)=n by omega];exact co
  case fz e l=>
   replace h:=gx h;obtain⟨ai,h⟩:=h;replace h:=iK h;obtain⟨fC,h⟩:=h;cases h;simp only[cL]at ai;obtain⟨O,af⟩:=ai;have:=eD O;subst this;have i5:n<=16777216:=by simpa using af
   simp only[cY,cL]at fC;obtain⟨abu,fC⟩:=fC;have abu:l.length=n:=fB abu;obtain⟨b,o,m,bF,b3⟩:=ac;have:=b3 trivial;subst this;rcases Y.2 with⟨bG,_⟩|⟨eh,sL,c0,r_,sg,bG,b_,co⟩
   .rw[bF]at bG;cases bG
   rw[bF]at bG;cases bG;obtain⟨dF,gr,lk⟩:=rk.1 fC;have lk:bT hi (bf n)<=(n:Int):=lk;have cv:aH (view w M) (.sl e) l [.slice (some ⟨b,o,none⟩) l.length n]:=
    aH.ic.2 ⟨_,n,rfl,J,by unfold maxLen;omega,.inr ⟨b,o,c0,r_,sg,rfl,b_,co.1,co.2⟩⟩
   have a8:=cv.sub (L:=(bT lo 0).toNat) (N:=(bT hi (bf n)).toNat-(bT lo 0).toNat) (cap':=n-(bT lo 0).toNat) J J (bU _);refine⟨rfl,_,run fC,_,a8,?_⟩;refine(show Value.slice _ _ _=Value.slice _ _ _ from ?_);congr 1;by_cases hl:n=(bT lo 0).toNat
   .rw[if_pos hl,if_pos J]
   rw[if_neg hl,if_neg J];rfl
 cases h
end
end Yp
namespace Yp
open Go
def BB:=@Array.getElem?_setIfInBounds_ne
def WF:=@Int.fdiv_eq_ediv_of_nonneg
def EI:=@Nat.ble_eq
variable {P:Program}
section
variable {K:Kp} {w0 w:World} {phx:cc} {M:Nat->Prop} {B B':Nat->aQ} {g:Nat->au} {H:cg}
def ath{x r:au}{gU:Value}(h:(Ts x).aX g B=some (r,B'))(hm:Mem K w0 phx M B w)(ah:a? phx (view w M) B x gU)(ty:TypeId):
  ∃v w',(Instr.next gU true ty).run P w=.ok v w'/\dq K w0 phx M B w B' r v w':=by
 cases x<;>try(cases h)
 rename_i id;simp only[Ts,aw.aX]at h;have ac:bM phx (view w M) B (.itp id) gU:=ah;have dD:=hm.blks id;simp only[bM]at ac;generalize aB:B id=bl at h ac dD;cases bl<;>try(cases h)
 rename_i s p;obtain⟨b,O,rfl⟩:=ac;obtain⟨b',g1,bw,cW⟩:=dD;rw[O]at g1;cases g1;have ra:∀w':World,w'.heap[b]?=some (.stringIter ⟨s.toArray⟩ p)->(getObj b).run P w'=.ok (.stringIter ⟨s.toArray⟩ p) w':=λw' bb=>by simp[getObj,Sem.run,bb]
 have cP:(⟨s.toArray⟩:ByteArray).size=s.length:=rfl;by_cases hp:p<s.length
 .have aj:i6 p (aT s)=true:=by simpa[i6,aT]using hp
  rw[aw.aX,if_pos aj]at h;cases h
  let w':World:={ w with heap:=w.heap.setIfInBounds b (.stringIter ⟨s.toArray⟩ (p+(gA s p).2)) }
  have bm:=(ip.1 bw).1;have kz:w'.heap[b]?=some (.stringIter ⟨s.toArray⟩ (p+(gA s p).2)):=by simp[w',bm]
  have aK:∀j,j≠b->w'.heap[j]?=w.heap[j]?:=λj an=>by simp[w',BB (nI an)]
  have apr:Utf8.decode (⟨s.toArray⟩:ByteArray) p=gA s p:=rfl;refine⟨.tuple #[.bool true,goInt p,.int .i32 ((gA s p).1:Int)],w',?_,?_⟩
  .simp[Instr.next,ra w bw,cP,hp,apr,setObj,Sem.run,bw,w']
  obtain⟨bD,e1⟩:=hm.put (id:=id) (x:=(b,0,0)) (w':=w') (by rw[aB];rfl) O cW rfl rfl rfl (by grind) aK (.it s (bQ p (gA s p).2)) (by rw[aB];rfl) (λ_=>⟨b,O,kz,cW⟩);refine⟨phx,M,bD,e1,[.bool true,goInt p,.int .i32 ((gA s p).1:Int)],?_,rfl⟩;have bG:dZ phx (view w' M) (cU B id (.it s (bQ p (gA s p).2))) (Yp.int (bf p)) (goInt p):=a?.uc (phx:=phx) (B:=cU B id (.it s (bQ p (gA s p).2))) _ p;have b_:dZ phx (view w' M) (cU B id (.it s (bQ p (gA s p).2))) (.sc (.int .i32) (bf (gA s p).1)) (.int .i32 ((gA s p).1:Int)):=a?.sH phx _ (cU B id (.it s (bQ p (gA s p).2))) .i32 ((gA s p).1:Int);exact⟨_,_,rfl,rfl,_,_,rfl,bG,_,_,rfl,b_,rfl⟩
 have aj:¬(i6 p (aT s)=true):=by simpa[i6,aT]using hp
 rw[aw.aX,if_neg aj]at h;cases h;refine⟨.tuple #[.bool false],w,?_,dq.same hm rfl ?_⟩
 .simp[Instr.next,ra w bw,cP,hp]
 exact⟨[.bool false],⟨_,_,rfl,rfl,rfl⟩,rfl⟩
def Yu{b:Bool}{k:aw au}{r:au×(Nat->aQ)}(h:(y? b c k).aX g B=some r):(b=true\/c=true)/\k.aX g B=some r:=by
 cases b with
 |true=>exact⟨.inl rfl,h⟩
 |false=>obtain⟨O,R⟩:=iK h;exact⟨.inr O,R⟩
def af9{op:BinOp}(sv:op=.shl\/op=.shr){k k':IntKind}{x:bH k}{y:bH k'}(hy:0<=bH.to k' y)(t:TypeId)(w:World):
  ∃v,(binOp op t (.int k (bH.to k x)) (.int k' (bH.to k' y))).run P w=.ok v w /\
   a? phx H B (match op with|.shl=>.sc (.int k) (bH.of k (ho k (bH.to k x) (bH.to k' y)))|_=>.sc (.int k) (bH.lit k (fr k (bH.to k x) (bH.to k' y)))) v:=by
 have aj:¬bH.to k' y<0:=J;rcases sv with rfl|rfl
 .refine⟨.int k (k.wrap (ho k (bH.to k x) (bH.to k' y))),by simp[binOp,Op.shift,aj,ho],?_⟩
  have:=a?.sH phx H B k (bH.of k (ho k (bH.to k x) (bH.to k' y)))
  rwa [bH.NS]at this
 refine⟨.int k (fr k (bH.to k x) (bH.to k' y)),by simp[binOp,Op.shift,aj,fr],?_⟩;have:=a?.sH phx H B k (bH.lit k (fr k (bH.to k x) (bH.to k' y)));rw[bH.S?]at this
 .omega
 intro aL;have O:=bH.I1 k x aL;have R:=bH.ag6 k x aL;unfold fr;have hp:(0:Int)<2^(Nat.min (bH.to k' y).toNat k.bits):=Int.pow_pos J;rw[WF _ (Int.le_of_lt hp)];exact⟨Int.ediv_nonneg O (Int.le_of_lt hp),Int.le_trans (Int.ediv_le_self _ O) R⟩
def run_equalIn_bool(n:Nat){tid:TypeId}(aL:P.underlying tid=some .bool)(p q:Bool)(w:World):(Op.equalIn (n+1) tid (.bool p) (.bool q)).run P w=.ok (p==q) w:=by rw[Op.equalIn];simp only[Sem.run_bind,run_underlying aL];rfl
def awq{tid:TypeId}(aL:P.underlying tid=some .bool)(p q:Bool)(w:World):(Op.equal tid (.bool p) (.bool q)).run P w=.ok (p==q) w:=
 run_equalIn_bool 9999 aL p q w
def aws{tid bc:TypeId}(aL:P.underlying tid=some (.slice bc))(ad:Option Addr)(l c:Nat)(w:World):(Op.equal tid (.slice ad l c) (.slice none 0 0)).run P w=.ok ad.isNone w:=by show(Op.equalIn (9999+1) tid _ _).run P w=_;rw[Op.equalIn];simp only[Sem.run_bind,run_underlying aL];cases ad<;>rfl
def ajk{E:da}(hT:mV P E.b8)(cv:pr P E.b8 E.C){op:BinOp}{tid:TypeId}{a b r:au}{ck s7:Value}(h:(Pq E op tid a b).aX g B=some (r,B'))(dP:a? phx H B a ck)(tS:a? phx H B b s7)(x y:Operand)(w:World):
  B'=B/\∃v,(do eqGuard op tid x y ck s7;binOp op tid ck s7:Sem Value).run P w=.ok v w/\a? phx H B r v:=by
 unfold Pq at h;cases ht:E.b8 tid with
 |none=>rw[ht]at h;cases h
 |some t=>
  rw[ht]at h;cases hi:ae.is t .bool with
  |true=>
   have:=eD hi;subst this;have aL:P.underlying tid=some .bool:=(hT _ _ ht).1;cases bu:ie .bool a with
   |none=>rw[bu]at h;cases h
   |some p=>
    cases Y:ie .bool b with
    |none=>rw[bu,Y]at h;cases h
    |some q=>
     rw[bu,Y]at h;have e1:=(nA bu dP).bool;have aN:=(nA Y tS).bool;subst e1;subst aN;have hg:(eqGuard op tid x y (.bool p) (.bool q)).run P w=.ok () w:=by unfold eqGuard;cases op<;>rfl
     have qr:(Op.equal tid (.bool p) (.bool q)).run P w=.ok (y5 p q) w:=Yp.awq aL p q w;cases op<;>try(cases h;done)
     .cases h
      exact⟨rfl,_,by simp[hg,binOp,qr],a?.ub _ _ _ _⟩
     cases h;exact⟨rfl,_,by simp[hg,binOp,qr,a_],a?.ub _ _ _ _⟩
  |false=>
   simp only[hi,cond_false]at h;cases ai:E.C tid with
   |false=>
    rw[ai,cond_false]at h;unfold ac9 at h;split at h
    .rename_i e t' z
     obtain⟨azY,cR,O,R⟩:=aw.cy h;obtain⟨bj,rfl⟩:=dE O;obtain⟨fp,rfl⟩:=u0 bj;subst fp;cases R;simp only[a?]at tS;subst tS;obtain⟨cs,af,rfl⟩:=dP;obtain⟨ad,cap,rfl,aq,a8,cS⟩:=aH.x_.1 af;obtain⟨⟨bc,aL,_⟩,_⟩:=hT _ _ ht;refine⟨rfl,_,?_,ad.isNone,rfl,λaj => ?_⟩
     .have hg:∀n,(eqGuard .eql tid x y (.slice ad n cap) (.slice none 0 0)).run P w=.ok () w:=λ_=>rfl
      have qr:=λn=>aws (P:=P) aL ad n cap w;simp[hg,binOp,ct,ae.isAgg,qr]
     rcases cS with cS|⟨b,o,c,el,fz,rfl,_⟩
     .simp[ag,len,cS]
     cases aj
    cases h
   |true=>
   rw[ai]at h;have fU:=cv tid t ai ht;simp only[Qr,cL,wv,EI]at fU;obtain⟨⟨⟨i1,azk⟩,apj⟩,apT⟩:=fU;cases bu:ie t a with
   |none=>rw[bu]at h;cases h
   |some p=>
    cases Y:ie t b with
    |none=>rw[bu,Y]at h;cases h
    |some q=>
     rw[bu,Y]at h;obtain⟨cs,c1,e1⟩:=nA bu dP;obtain⟨ds,c2,aN⟩:=nA Y tS;rw[vK i1]at e1 aN;subst e1;subst aN;have hg:=run_eqGuard_agg (P:=P) w op tid x y cs.toArray ds.toArray apT;have qr:(Op.equal tid (.agg cs.toArray) (.agg ds.toArray)).run P w=.ok (t.nV p q) w:=by
      have:=(KQ (P:=P) (H:=H) (H':=H) w t).1 tid 10000 p q cs ds apj (hT _ _ ht) c1 c2 J
      rwa [vK i1,vK i1]at this
     cases op<;>try(cases h;done)
     .cases h
      exact⟨rfl,_,by simp[hg,binOp,qr],a?.ub _ _ _ _⟩
     cases h;exact⟨rfl,_,by simp[hg,binOp,qr,a_],a?.ub _ _ _ _⟩
def ajm{E:da}(hT:mV P E.b8)(cv:pr P E.b8 E.C){rp HE:Bool}{op:BinOp}{tid:TypeId}{a b r:au}{ck s7:Value}(h:(J8 E rp HE op tid a b).aX g B=some (r,B'))(dP:a? phx H B a ck)(tS:a? phx H B b s7)
  (Lz:rp=true->∀k n,s7=.int k n->n≠0) (abx:HE=true->∀k n,s7=.int k n->0<=n) (x y:Operand) (w:World) :
  B'=B/\∃v,(do eqGuard op tid x y ck s7;binOp op tid ck s7:Sem Value).run P w=.ok v w/\a? phx H B r v:=by
 unfold J8 at h;split at h
 .rename_i k p k' q
  have e1:=dP.int;have aN:=tS.int;subst e1;subst aN;have hg:=amQ (P:=P) op tid x y k k' (bH.to k p) (bH.to k' q) w;split at h
  .obtain⟨ai,h⟩:=Yu h
   cases h;have hy:0<=bH.to k' q:=by
    rcases ai with ai|ai
    .simp at ai
     rcases ai with ai|ai
     .grind
     exact bH.I1 _ _ ai
    simpa[bE]using ai
   obtain⟨v,O,R⟩:=af9 (P:=P) (phx:=phx) (H:=H) (B:=B) (op:=.shl) (.inl rfl) (x:=p) (y:=q) hy tid w;exact⟨rfl,v,by simp[hg,O],R⟩
  .obtain⟨ai,h⟩:=Yu h
   cases h;have hy:0<=bH.to k' q:=by
    rcases ai with ai|ai
    .simp at ai
     rcases ai with ai|ai
     .grind
     exact bH.I1 _ _ ai
    simpa[bE]using ai
   obtain⟨v,O,R⟩:=af9 (P:=P) (phx:=phx) (H:=H) (B:=B) (op:=.shr) (.inr rfl) (x:=p) (y:=q) hy tid w;exact⟨rfl,v,by simp[hg,O],R⟩
  split at h
  .rename_i MN a2
   obtain⟨e,rfl⟩:=u0 a2;cases e;obtain⟨aB,v,O,R⟩:=ajl (P:=P) h (λbj=>Lz bj _ _ rfl) tid w phx H;exact⟨aB,v,by simp[hg,O],R⟩
  cases h
 .rename_i p q
  have e1:=dP.str;have aN:=tS.str;subst e1;subst aN;have hg:=amR (P:=P) op tid x y ⟨p.toArray⟩ ⟨q.toArray⟩ w;obtain⟨aB,v,O,R⟩:=ajn (P:=P) h tid w phx H;exact⟨aB,v,by simp[hg,O],R⟩
 exact ajk hT cv h dP tS x y w
end
end Yp
namespace Yp
open Go
def ew:=@List.length_cons
def m1:=@List.mem_map
def JA:=@List.getElem?_cons_succ
def O1:=@Array.length_toList
def WG:=@Array.toList_setIfInBounds
def OJ:=@List.mapM_cons
variable {P:Program}
def pj(phx:cc)(H:cg)(B:Nat->aQ):List (Nat×au)->List (Nat×Value)->Prop
 |[],[]=>True
 |p::aZ,v::vs=>p.1=v.1/\a? phx H B p.2 v.2/\pj phx H B aZ vs
 |_,_=>False
section
variable {K:Kp} {w0 w:World} {phx:cc} {M:Nat->Prop} {B B':Nat->aQ} {g:Nat->au} {H:cg}
def pj.ext{phx':cc}{ay:Nat->Prop}{w':World}(aA:cm phx M B w phx' ay B' w'):∀{aZ:List (Nat×au)} {vs:List (Nat×Value)},pj phx (view w M) B aZ vs->pj phx' (view w' ay) B' aZ vs
 |[],[],_=>trivial
 |_::_,_::_,h=>⟨h.1,aA.p h.2.1,pj.ext aA h.2.2⟩
def T0{a:Act}(ac:dw phx H B g a):∀{l:List (Nat×Operand)} {B':Nat->aQ} {aZ:List (Nat×au)},(ME l).aX g B=some (aZ,B')->B'=B/\pj phx H B aZ (l.map λp=>(p.1,a.eval p.2))
 |[],B',aZ,h=>by cases h;exact⟨rfl,trivial⟩
 |p::l,B',aZ,h=>by have h:(((ea p.2).bind λv=>.ret (p.1,v)).bind λb=>(ME l).bind λb9=>.ret (b::b9)).aX g B=some (aZ,B'):=h;obtain⟨b,cR,O,R⟩:=aw.cy h;obtain⟨v,b4,af,aq⟩:=aw.cy O;cases aq;obtain⟨j9,aC⟩:=xN af ac;obtain⟨b9,uH,a8,cS⟩:=aw.cy R;cases cS;rw[j9]at a8;obtain⟨aB,hp⟩:=T0 ac a8;exact⟨aB,rfl,aC,hp⟩
def acx(off:Nat):∀(vs:List Value) (k:Nat) (cs:Array Value),off+k+vs.length<=cs.size ->
  ((vs.zipIdx k).foldl (λcs (p:Value×Nat)=>cs.setIfInBounds (off+p.2) p.1) cs).toList=hC cs.toList (off+k) vs
 |[],k,cs,h=>by simp[hC]
 |v::vs,k,cs,h=>by
  simp only[List.zipIdx_cons,yI];simp only[ew]at h;have cq:off+(k+1)+vs.length<=cs.toList.length:=fv;have ap7:off+k+(v::vs).length<=cs.toList.length:=fv;rw[acx off vs (k+1) _ fv];apply te;intro j;rw[x? fv,x? ap7];simp only[WG,E5,ew,O1];by_cases a8:j<off+k
  .rw[if_pos J,if_pos a8,if_neg J]
  rw[if_neg a8];by_cases cS:j=off+k
  .subst cS
   have:off+k<cs.size:=J;simp[this]
  by_cases dN:j<off+k+(vs.length+1)
  .rw[if_neg J,if_pos J,if_pos dN]
   rw[show j-(off+k)=(j-(off+(k+1)))+1 by omega,JA]
  rw[if_neg J,if_neg J,if_neg dN,if_neg J]
def asq(off:Nat)(vs cs:Array Value)(h:off+vs.size<=cs.size):
  (vs.zipIdx.foldl (λcs (p:Value×Nat)=>cs.setIfInBounds (off+p.2) p.1) cs).toList=hC cs.toList off vs.toList:=by
 have:=acx off vs.toList 0 cs J;rw[<- Array.foldl_toList]
 grind
def ZF{place:Nat->Option (Nat×Nat)}{cs:Array Value}{v:Value}{rest:List (Nat×Value)}{size:Nat}(hp:place i=some (off,size))(ac:v.cells.size=size)(aj:off+size<=cs.size):
  ∃jh:Array Value,jh.toList=hC cs.toList off v.cells.toList/\Instr.fill place cs ((i,v)::rest)=Instr.fill place jh rest:=by
 refine⟨_,asq off v.cells cs J,?_⟩;simp[Instr.fill,hp,ac];omega
def aei:∀{t:ae} {l:List Field} {off:Nat},(cO P t).2 l off->∃places,l.mapM (λf=>(P.info? f.type).map λi=>(f.offset,i.size))=some places /\
  ∀i d dV,t.d? (gd i)=some (d,dV)->places[i]?=some (off+d,dV.size)
 |.unit,l,off,h=>by subst h;exact⟨[],rfl,λi d dV h=>by cases i<;>cases h⟩
 |.pair a b,l,off,h=>by
  obtain⟨f,r,rfl,O,R,af⟩:=h;obtain⟨aZ,g1,bw⟩:=aei af;obtain⟨i,bF,b3,_⟩:=nc R;refine⟨(off,a.size)::aZ,by simp[OJ,g1,bF,b3,O],λj d dV h => ?_⟩;cases j with
  |zero=>
   simp only[gd,ae.d?]at h
   grind
  |succ j=>
   simp only[gd,ae.d?,k4]at h
   grind
def PC{t:ae}{place:Nat->Option (Nat×Nat)}(iB:∀i d dV,t.d? (gd i)=some (d,dV)->place i=some (d,dV.size)):
  ∀{aZ:List (Nat×au)} {vs:List (Nat×Value)} {v cX:au} {cs:Array Value},(Ct t aZ).aX g B=some ((),B')->D3 t v aZ=some cX->pj phx H B aZ vs->e3 phx H B v t cs.toList ->
  B'=B/\∃jh,Instr.fill place cs vs=some jh/\e3 phx H B cX t jh.toList
 |[],[],v,cX,cs,O,R,af,aq=>by cases O;cases R;exact⟨rfl,cs,rfl,aq⟩
 |(i,u)::aZ,(j,x)::vs,v,cX,cs,O,R,af,aq=>by
  obtain⟨i2,hx,af⟩:=af;simp only[Ct]at O;simp only[D3]at R;cases xi:t.at (gd i) with
  |none=>rw[xi]at O;cases O
  |some dV=>
   rw[xi]at O;obtain⟨_,cR,a8,cS⟩:=aw.cy O;obtain⟨jj,cu,lL,hT⟩:=K3 a8 hx;rw[jj]at cS;obtain⟨d,aK⟩:=Pj xi;cases ac:mj v (gd i) (ye u) with
   |none=>rw[ac]at R;cases R
   |some rL=>
    rw[ac]at R;have hl:=hT.length;have bY:=uf aK;have cP:x.cells.size=dV.size:=by rw[<- hl,<- lL];simp
    have lK:=aq.length;obtain⟨FD,e1,aN⟩:=ZF (rest:=vs) (iB i d dV aK) cP (cs:=cs) (by grind);have aaO:=UK aq aK ac hT;rw[<- lL,<- e1]at aaO;obtain⟨aB,q6,dJ,gQ⟩:=PC iB cS R af aaO
    grind
def Xi{t:ae}(eL:acj t=true){tid:TypeId}(ht:(cO P t).1 tid){aZ:List (Nat×au)}{parts:Array (Nat×Value)}{r:au}
  (h:((Ct t aZ).bind λ_=>(aw.opt (D3 t (m0 t) aZ)).bind λv=>.ret (p4 t v)).aX g B=some (r,B')) (dc:pj phx H B aZ parts.toList) (w:World) :
  B'=B/\∃v,(Instr.build tid parts).run P w=.ok v w/\a? phx H B r v:=by
 obtain⟨_,cR,O,R⟩:=aw.cy h;obtain⟨v,b4,af,aq⟩:=aw.cy R;obtain⟨a8,rfl⟩:=dE af;cases aq;have i1:t.isAgg=true:=by cases t<;>first|rfl|cases eL
 obtain⟨e_,aL,Gy⟩:∃e_,P.underlying tid=some (.struct e_)/\(cO P t).2 e_.toList 0:=by
  cases t<;>try(cases eL;done)
  .obtain⟨⟨e_,aL,aA⟩,_⟩:=ht;exact⟨e_,aL,aA⟩
  obtain⟨⟨e_,aL,f,q,e1,aN,dJ,gQ⟩,_⟩:=ht;exact⟨e_,aL,f,q,e1,aN,dJ,by simpa using gQ⟩
 obtain⟨places,dF,gr⟩:=aei Gy;obtain⟨i,bF,b3,_,fR⟩:=nc ht;have SK:e3 phx H B (m0 t) t (dz t).toArray.toList:=yC t;obtain⟨aB,jh,e1,aN⟩:=PC (g:=g) (B':=B') (place:=(places.toArray[·]?)) (λi d dV aK=>by have:=gr i d dV aK;simpa using this) O a8 dc SK;refine⟨aB,.agg jh,run_build w tid parts jh ?_,?_⟩
 .have G2:((ct t (dz t))).cells=(dz t).toArray:=s' t
  simp only[Program.built,bF,aL,fR,dF,G2];exact e1
 have:=Bt aN;simp only[ct,i1,if_true]at this;simpa using this
def Nl{α:Type}:∀(et:List (Nat×α)) (l:List α),(uy l et).length=l.length
 |[],l=>rfl
 |(i,x)::et,l=>by simp only[uy];rw[Nl et];simp
def eV.set{e:ae}{l:List e.aD}{cs:List Value}(h:eV H e l cs)(hi:i<l.length){x:e.aD}{cu:List Value}(hx:aH H e x cu):eV H e (l.set i x) (hC cs (i*e.size) cu):=by
 have hl:=hx.length;have hm:=xH (s:=e.size) hi;have hK:i*e.size+cu.length<=cs.length:=by rw[h.1,hl];exact hm
 refine⟨by rw[Ea hK,h.1,ko],λj y an => ?_⟩;by_cases dK:j=i
 .subst dK
  have:=S_ (x:=x) hi;simp only[cj]at this;rw[this]at an;cases an;have:=NJ (a:=j*e.size) (o:=0) (n:=e.size) (cs:=cs) (vs:=cu) (by simpa using hK) J;simp only[td]at this;rw[this,agu]
  .exact hx
  rw[hE,fb];omega
 have:=S9 (l:=l) (x:=x) dK;simp only[cj]at this;rw[this]at an;rw[IF hK]
 .exact h.2 j y an
 rcases O4 dK with h|h
 .have:=xH (s:=e.size) h;left;omega
 have:=xH (s:=e.size) h;right;omega
def O8(H:cg)(e:ae):List (Nat×e.aD)->List (Nat×Value)->Prop
 |[],[]=>True
 |p::aZ,v::vs=>p.1=v.1/\aH H e p.2 v.2.cells.toList/\O8 H e aZ vs
 |_,_=>False
def VD{e:ae}:∀{aZ:List (Nat×au)} {vs:List (Nat×Value)} {et:List (Nat×e.aD)} {M:Nat->Prop} {B B':Nat->aQ},(I0 e aZ).aX g B=some (et,B')->Mem K w0 phx M B w->pj phx (view w M) B aZ vs ->
  ∃ay,Mem K w0 phx ay B' w/\cm phx M B w phx ay B' w/\O8 (view w ay) e et vs/\et.map (·.1)=aZ.map (·.1)
 |[],[],et,M,B,B',h,hm,_=>by cases h;exact⟨M,hm,cm.refl _ _ _ _,trivial,rfl⟩
 |(i,u)::aZ,(j,v)::vs,et,M,B,B',h,hm,hp=>by obtain⟨i2,aL,hp⟩:=hp;subst i2;obtain⟨x,cR,O,R⟩:=aw.cy h;obtain⟨azX,b4,af,aq⟩:=aw.cy R;cases aq;obtain⟨cs,aC,ft,bD,e1,_,_,f1⟩:=yk O hm aL;obtain⟨c7,cn,aN,f2,f3⟩:=VD af bD (hp.ext e1);refine⟨c7,cn,e1.trans aN,⟨rfl,?_,f2⟩,by simp[f3]⟩;have cv:=f1 rfl;rw[aC,Hv cv];exact cv.mono aN.vw
def Q6{e:ae}{place:Nat->Option (Nat×Nat)}(iB:∀i,place i=some (i*e.size,e.size)):
  ∀{et:List (Nat×e.aD)} {vs:List (Nat×Value)} {l:List e.aD} {cs:Array Value},O8 H e et vs->(∀p∈et.map (·.1),p<l.length)->eV H e l cs.toList ->
  ∃jh,Instr.fill place cs vs=some jh/\eV H e (uy l et) jh.toList
 |[],[],l,cs,_,_,h=>⟨cs,rfl,h⟩
 |(i,x)::et,(j,v)::vs,l,cs,hx,hi,h=>by
  obtain⟨i2,cv,hx⟩:=hx;subst i2;have bm:=hi i bh;have hl:=cv.length;have hm:=xH (s:=e.size) bm;have cP:=by simpa using hl
  have lK:=h.1;obtain⟨FD,e1,aN⟩:=ZF (rest:=vs) (iB i) cP (cs:=cs) (by grind);have O:=h.set bm cv;rw[<- e1]at O;obtain⟨q6,dJ,gQ⟩:=Q6 iB hx (λp hp=>by rw[ko];exact hi p (by grind)) O;exact⟨q6,by rw[aN];exact dJ,gQ⟩
def eV.ar{e:ae}{l:List e.aD}{cs:List Value}(h:eV H e l cs)(aj:l.length=n):aH H (.ar n e) l cs:=aH.BW.2 ⟨aj,by rw[h.1,aj],h.2⟩
def ajI{e:ae}{tid:TypeId}(ht:(cO P (.ar n e)).1 tid){aZ:List (Nat×au)}{parts:Array (Nat×Value)}{r:au}
  (h:((aw.need (aZ.all λp=>Nat.blt p.1 n)).bind λ_=>(I0 e aZ).bind λet=>.ret (.sc (.ar n e) (uy (List.replicate n e.zero) et))).aX g B=some (r,B')) (hm:Mem K w0 phx M B w) (dc:pj phx (view w M) B aZ parts.toList) :
  ∃v,(Instr.build tid parts).run P w=.ok v w/\dq K w0 phx M B w B' r v w:=by
 obtain⟨_,cR,O,R⟩:=aw.cy h;obtain⟨hall,rfl⟩:=kD O;obtain⟨et,b4,af,aq⟩:=aw.cy R;cases aq;obtain⟨c7,cn,aN,f2,f3⟩:=VD af hm dc;obtain⟨i,bF,b3,_,fR⟩:=nc ht;obtain⟨⟨bc,aL,aA⟩,_⟩:=ht;obtain⟨xt,Hc,vC,_,ar4⟩:=nc aA;have bj:=aH.BW.1 (aH.zero (view w c7) (.ar n e));have b?:eV (view w c7) e (List.replicate n e.zero) (dz (.ar n e)).toArray.toList:=⟨by simpa using bj.2.1,λi x hi=>by simpa using bj.2.2 i x hi⟩;have bm:∀p∈et.map (·.1),p<(List.replicate n e.zero).length:=λp hp=>by rw[f3,m1]at hp;obtain⟨q,a2,rfl⟩:=hp;have:=pg.1 hall q a2;simpa using this
 obtain⟨jh,bG,b_⟩:=Q6 (place:=λi=>some (i*xt.size,xt.size)) (λi=>by rw[vC]) f2 bm b?;refine⟨.agg jh,run_build w tid parts jh ?_,phx,c7,cn,aN,jh.toList,b_.ar (by rw[Nl];simp),by simp[ct,ae.isAgg]⟩;simp only[Program.built,bF,aL,fR,Hc];exact bG
def VG:∀n,(mq n).size=n
 |0=>rfl
 |n+1=>by simp only[mq,ae.size,VG n];omega
def ahK:∀n,dz (mq n)=List.replicate n (Value.pointer none)
 |0=>rfl
 |n+1=>by have:=ahK n;simp only[mq,dz,this];rfl
def asM(v:Value)(n:Nat):(madeCells #[v] n).toList=List.replicate n v:=by rw[List.eq_replicate_iff];simp[madeCells,Nat.mod_one]
def adz:∀{n i d:Nat} {dV:ae},(mq n).d? (gd i)=some (d,dV)->d=i/\dV=.op 3
 |0,i,d,dV,h=>by cases i<;>cases h
 |n+1,0,d,dV,h=>by
  have:=lZ h
  grind
 |n+1,i+1,d,dV,h=>by simp only[mq,gd,ae.d?,k4]at h;obtain⟨q,a2,aA⟩:=h;cases aA;obtain⟨O,R⟩:=adz (n:=n) (i:=i) a2;exact⟨by simp only[ae.size];omega,R⟩
def awo{e:ae}{tid bc:TypeId}(aL:P.underlying tid=some (.slice bc))(aA:(cO P e).1 bc)(Y:n*e.size<=16777216)(dB:0<e.size){parts:Array (Nat×Value)}{jh:Array Value}
  (bG:Instr.fill (λi=>some (i*e.size,e.size)) (madeCells (dz e).toArray (n*e.size)) parts.toList=some jh) (w:World) :
  (Instr.buildSlice tid n parts).run P w=.ok (.slice (some ⟨w.heap.size,0,none⟩) n n) (w.alloc (.cells jh bc)):=by
 have G2:=s' e;by_cases ao:n*e.size=0
 .have Sh:madeCells (dz e).toArray (n*e.size)=#[]:=by rw[ao];simp[madeCells]
  rw[Sh]at bG;have ac:=od aA w;have pF:n=0:=by rcases Nat.mul_eq_zero.1 ao with h|h<;>omega
  rw[pF];simp[Instr.buildSlice,run_underlying aL,ac,bG,Go.newRow,Array.range_zero']
 have ac:=od aA w;have G3:=AW aA w;have RU:¬(16777216<n*e.size):=J;simp only[madeCells]at bG;simp[Instr.buildSlice,run_underlying aL,ac,ao,RU,G3,G2,Go.newRow];simp at bG;rw[bG];simp
def auX{tid:TypeId}(ht:(cO P (.sl (.op 3))).1 tid){aZ:List (Nat×au)}{parts:Array (Nat×Value)}{r:au}(h:(aep d n aZ).aX g B=some (r,B'))(hm:Mem K w0 phx M B w)
  (dc:pj phx (view w M) B aZ parts.toList):∃v w',(Instr.buildSlice tid n parts).run P w=.ok v w'/\dq K w0 phx M B w B' r v w':=by
 replace h:=gx h;obtain⟨ai,h⟩:=h;simp at ai;obtain⟨_,cR,O,R⟩:=aw.cy h;obtain⟨v,b4,af,aq⟩:=aw.cy R;obtain⟨a8,rfl⟩:=dE af;obtain⟨⟨bc,aL,aA⟩,_⟩:=ht;have SK:e3 phx (view w M) B (m0 (mq n)) (mq n) (madeCells (dz (.op 3)).toArray (n*(ae.op 3).size)).toList:=by
  have h:=yC (phx:=phx) (B:=B) (H:=view w M) (mq n);rw[ahK]at h;have e:(madeCells (dz (.op 3)).toArray (n*(ae.op 3).size)).toList=List.replicate n (Value.pointer none):=by rw[show n*(ae.op 3).size=n from mw n];exact asM _ n
  grind
 obtain⟨aB,jh,e1,aN⟩:=PC (g:=g) (B':=b4) (place:=λi=>some (i*(ae.op 3).size,(ae.op 3).size)) (λi d dV aK=>by obtain⟨rfl,rfl⟩:=adz aK;rw[show d*(ae.op 3).size=d from mw d]) O a8 dc SK
 subst aB;obtain⟨hid,aq⟩:=Cw aq;cases aq;have cP:=by have:=aN.length;rw[VG]at this;simpa using this
 refine⟨_,_,awo aL aA (by rw[show n*(ae.op 3).size=n from mw n];omega) bP e1 w,?_⟩;obtain⟨phx',ay,bD,QM,sk⟩:=hm.born hid (w':=w.alloc (.cells jh bc)) rfl rfl rfl bh (q4 w _) (.box (mq n) v) jh.size λphx' ay aA hp dS=>by refine⟨w.heap.size,0,jh,bc,(0,0),hp,q3 w _,by rw[VG];omega,?_,xM _,dS⟩;rw[Ij rfl aN.length];exact aA.b8 aN
 refine⟨phx',ay,bD,QM,?_⟩;simp only[a?,dZ,bM,eM]
 grind
def ajH{e:ae}{tid:TypeId}(ht:(cO P (.sl e)).1 tid){aZ:List (Nat×au)}{parts:Array (Nat×Value)}{r:au}(h:(Xh d e n aZ).aX g B=some (r,B'))(hm:Mem K w0 phx M B w)
  (dc:pj phx (view w M) B aZ parts.toList):∃v w',(Instr.buildSlice tid n parts).run P w=.ok v w'/\dq K w0 phx M B w B' r v w':=by
 obtain⟨_,cR,O,R⟩:=aw.cy h;obtain⟨hall,rfl⟩:=kD O;simp only[cL,EI]at hall;obtain⟨et,b4,af,aq⟩:=aw.cy R;obtain⟨dB,gi,rfl,rfl⟩:=vQ aq;obtain⟨c7,cn,aN,f2,f3⟩:=VD af hm dc;obtain⟨⟨bc,aL,aA⟩,_⟩:=ht;obtain⟨xt,Hc,vC,_,ar4⟩:=nc aA;have arn:=Oq (view w c7) dB (n:=n) (m:=n) (bU _);have aaG:=arn.r';have aqR:cF (madeCells (dz e).toArray (n*e.size)) 0 ((bO n e.zero).length*e.size)=(madeCells (dz e).toArray (n*e.size)).toList:=by refine Ij rfl ?_;simp[size_madeCells,bO]
 rw[aqR]at aaG;have bm:∀p∈et.map (·.1),p<(bO n e.zero).length:=λp hp=>by rw[f3,m1]at hp;obtain⟨q,a2,rfl⟩:=hp;have:=pg.1 hall.1 q a2;simpa[bO]using this
 obtain⟨jh,bG,b_⟩:=Q6 (place:=λi=>some (i*xt.size,xt.size)) (λi=>by rw[vC]) f2 bm aaG;have cq:(uy (List.replicate n e.zero) et).length=n:=by rw[Nl];simp
 have cP:=by have:=b_.1;rw[Nl]at this;simpa[bO]using this
 have i5:n<=maxLen:=by have:n*1<=n*e.size:=BE _ dB;unfold maxLen;omega
 refine⟨.slice (some ⟨w.heap.size,0,none⟩) n n,w.alloc (.cells jh bc),?_,?_⟩
 .have G2:=s' e
  have ao2:¬(n*xt.size > 2^24):=by rw[vC];omega
  rw[<- vC]at bG;by_cases ao:n*xt.size=0
  .have Sh:madeCells (dz e).toArray (n*xt.size)=#[]:=by rw[ao];simp[madeCells]
   rw[Sh]at bG;have ac:=od aA w;rw[vC]at ao bG;have pF:n=0:=by rcases Nat.mul_eq_zero.1 ao with h|h<;>omega
   rw[pF];simp[Instr.buildSlice,run_underlying aL,ac,bG,Go.newRow,Array.range_zero']
  have ac:=od aA w;have G3:=AW aA w;rw[vC]at ao ao2 bG;have RU:¬(16777216<n*e.size):=J;simp only[madeCells]at bG;simp[Instr.buildSlice,run_underlying aL,ac,ao,RU,G3,G2,Go.newRow];simp at bG;rw[bG];simp
 have d9:e4 (view w c7) e (uy (List.replicate n e.zero) et) jh 0:=by refine eV.row (by rw[cq,cP];omega) ?_;rw[Ij rfl (by rw[cq];simpa using cP)];exact b_
 have:=DU (K:=K) (w0:=w0) (phx:=phx) (M:=c7) (B:=b4) (w:=w) cn gi (w':=w.alloc (.cells jh bc)) rfl rfl rfl (by rw[iv];exact E6 _) (q4 w _) dB (l:=uy (List.replicate n e.zero) et) (q3 w _) (xM _) (rN w c7) d9 (cap:=n) (by rw[cq];exact bU _) i5 (by rw[cP];exact bU _) (Nat.blt 0 n) (λh=>by rw[cq];simpa using Nat.pos_iff_ne_zero.1 (by simpa using h));obtain⟨phx',ay,cG,cQ,a3⟩:=this;rw[cq]at a3;exact⟨phx',ay,cG,aN.trans cQ,a3⟩
end
end Yp
namespace Yp
open Go
variable {P:Program}
def pb(H:cg):(ts:List ae)->hZ ts->List Value->Prop
 |[],_,vs=>vs=[]
 |t::ts,x,vs=>∃cs d3,vs=ct t cs::d3/\aH H t x.1 cs/\pb H ts x.2 d3
def uP(w:World)(M:Nat->Prop)(lo:Nat->Prop)(U:Nat->Prop)(e:ae)(l:List e.aD)(v:Value)(b:Nat):Prop:=
 ∃o c el fz cap,v=.slice (some ⟨b,o,none⟩) l.length cap/\l.length<=cap/\cap<=maxLen/\o+cap*e.size<=c.size/\w.heap[b]?=some (.cells c el fz)/\e4 (view w M) e l c o/\h4 c fz/\M b/\lo b/\¬U b
def g_(w:World)(M:Nat->Prop)(lo:Nat->Prop):(rs:List ef)->d8 rs->List Value->(Nat->Prop)->Prop
 |[],_,vs,_=>vs=[]
 |.im t::rs,x,vs,U=>∃cs d3,vs=ct t cs::d3/\aH (view w M) t x.1 cs/\g_ w M lo rs x.2 d3 U
 |.cl e::rs,x,vs,U=>∃a d3,vs=.slice a (x.1:List e.aD).length (x.1:List e.aD).length::d3/\aH (view w M) (.sl e) x.1 [.slice a (x.1:List e.aD).length (x.1:List e.aD).length]/\g_ w M lo rs x.2 d3 U
 |.ow e::rs,x,vs,U=>∃v d3,vs=v::d3/\(((x.1:List e.aD)=[]/\(∃a,v=.slice a 0 0)/\g_ w M lo rs x.2 d3 U)\/∃b,uP w M lo U e x.1 v b/\g_ w M lo rs x.2 d3 (λj=>U j\/j=b))
def i?: List Value->Value
 |[v]=>v
 |vs=>.tuple vs.toArray
def iu(w:World)(X:Nat->Prop)(w':World)(rs:List ef)(r:d8 rs)(b2:Value):Prop:=
 ∃ay:Nat->Prop,w'.os=w.os/\w'.tape=w.tape/\w'.output=w.output/\w.heap.size<=w'.heap.size/\(∀b,b<w.heap.size->w'.heap[b]?=w.heap[b]?)/\(∀b,b<w.heap.size->(ay b↔X b))/\(∀b,ay b->b<w'.heap.size) /\
  ∃vs,g_ w' ay (λb=>¬b<w.heap.size) rs r vs (λ_=>False)/\b2=i? vs
def lM (P : Program) (H : cg) : Prop := ∀ g, P.globalNamed "yett/sha.keys" = some g → aH H (.sl (.ar 64 (.int .u32))) ([(pK : List (bH .u32))] : List (ae.ar 64 (.int .u32)).aD) [.slice (some ⟨g, 0, none⟩) 1 1]
def lM.mono{P:Program}{H H':cg}(h:lM P H)(hl:H.cb H'):lM P H':=λg hg=>(h g hg).mono hl
structure pd(P:Program)(K:Kp)(w0:World):Prop where
 gl : ∀ g, P.globalNamed "yett/sha.keys" = some g → K.k g
 mJ:lM P (view w0 K.x)
def rU (P : Program) (f : Nat) : Prop := ∃ fn, P.funcs[f]? = some fn ∧ fn.body.isSome = true ∧ (fn.name == "runtime.NumGoroutine") = false
def fI(P:Program)(f:Nat)(s:eA):Prop:=
 rU P f/\∀(w:World) (X:Nat->Prop) (x:hZ s.args) (vs:List Value) (r:d8 s.res),(∀b,X b->b<w.heap.size)->lM P (view w X)->pb (view w X) s.args x vs->s.fn x=some r ->
  Calls P f vs.toArray w λe w'=>∃b2,e=.returned b2/\iu w X w' s.res r b2
def ER(w:World)(X:Nat->Prop)(b o n:Nat)(w':World)(t:ae)(x:t.aD)(rs:List ef)(r:d8 rs)(b2:Value):Prop:=
 ∃ay:Nat->Prop,w'.os=w.os/\w'.tape=w.tape/\w'.output=w.output/\w.heap.size<=w'.heap.size/\(∀k,k<w.heap.size->k≠b->w'.heap[k]?=w.heap[k]?)/\(∀k,k<w.heap.size->(ay k↔X k))/\(∀k,ay k->k<w'.heap.size) /\
  (∃c el fz,w'.heap[b]?=some (.cells c el fz)/\c.size=n/\h4 c fz/\aH (view w' ay) t x (cF c o t.size)) /\
  ∃vs,g_ w' ay (λk=>¬k<w.heap.size) rs r vs (λ_=>False)/\b2=i? vs
def ij(P:Program)(f:Nat)(s:ik):Prop:=
 rU P f/\∀(w:World) (X:Nat->Prop) (b o:Nat) (c:Array Value) (el:TypeId) (fz:Nat×Nat) (x:s.ty.aD) (y:hZ s.args) (vs:List Value) (r:s.ty.aD×d8 s.res),(∀k,X k->k<w.heap.size)->lM P (view w X)->X b ->
  w.heap[b]?=some (.cells c el fz)->o+s.ty.size<=c.size->h4 c fz->aH (view w X) s.ty x (cF c o s.ty.size)->pb (view w X) s.args y vs->s.fn (x,y)=some r ->
  Calls P f (Value.pointer (some ⟨b,o,none⟩)::vs).toArray w λe w'=>∃b2,e=.returned b2/\ER w X b o c.size w' s.ty r.1 s.res r.2 b2
def WA(w:World)(X:Nat->Prop)(b o n:Nat)(w':World)(t:ae)(x:t.aD):Prop:=
 ∃ay:Nat->Prop,w'.os=w.os/\w'.tape=w.tape/\w'.output=w.output/\w.heap.size<=w'.heap.size/\(∀k,k<w.heap.size->k≠b->w'.heap[k]?=w.heap[k]?)/\(∀k,k<w.heap.size->(ay k↔X k))/\(∀k,ay k->k<w'.heap.size) /\
  (∃c el fz,w'.heap[b]?=some (.cells c el fz)/\c.size=n/\h4 c fz/\aH (view w' ay) t x (cF c o t.size))
def uI(P:Program)(f bc:Nat)(t:ae)(ts:List ae)(rs:List ef)(m:t.aD×hZ ts->Option (t.aD×Nat×d8 rs)):Prop:=
 rU P f/\∀(w:World) (X:Nat->Prop) (b o:Nat) (c:Array Value) (el:TypeId) (fz:Nat×Nat) (x:t.aD) (y:hZ ts) (vs:List Value) (r:t.aD×Nat×d8 rs),(∀k,X k->k<w.heap.size)->lM P (view w X)->X b ->
  w.heap[b]?=some (.cells c el fz)->o+t.size<=c.size->h4 c fz->aH (view w X) t x (cF c o t.size)->pb (view w X) ts y vs->m (x,y)=some r ->
  Calls P f (Value.pointer (some ⟨b,o,none⟩)::vs).toArray w λe w'=>(r.2.1=0/\∃b2,e=.returned b2/\ER w X b o c.size w' t r.1 rs r.2.2 b2) \/
   (r.2.1≠0/\e=.panicked [{ v:=.iface bc (.int .i64 (r.2.1:Int)),recovered:=false }]/\WA w X b o c.size w' t r.1)
def EQ(P:Program)(E:da)(f:Nat)(s:nJ):Prop:=∃m bc,E.Pn=some (m,bc)/\uI P f bc s.ty s.args [.im s.rt] s.fn
section
variable {K:Kp} {w0 w:World} {phx:cc} {M:Nat->Prop} {B B':Nat->aQ} {g:Nat->au} {H:cg}
def aH.l5{H':cg}:∀{t:ae} {x:t.aD} {cs:List Value},t.l5=true->aH H t x cs->aH H' t x cs
 |.bool,_,_,_,h=>aH.nP.2 (aH.nP.1 h)
 |.int k,_,_,_,h=>aH.ia.2 (aH.ia.1 h)
 |.str,_,_,_,h=>aH.ml.2 (aH.ml.1 h)
 |.op k,_,_,_,h=>aH.vU.2 (aH.vU.1 h)
 |.fn l,_,_,_,h=>aH.F2.2 (aH.F2.1 h)
 |.unit,_,_,_,h=>aH.Bn.2 (aH.Bn.1 h)
 |.pair a b,x,cs,hf,h=>by simp only[ae.l5,cL]at hf;obtain⟨c1,c2,ao,O,R⟩:=aH.mh.1 h;exact aH.mh.2 ⟨c1,c2,ao,aH.l5 hf.1 O,aH.l5 hf.2 R⟩
 |.ar n e,x,cs,hf,h=>by obtain⟨ao,O,R⟩:=aH.uY.1 h;exact aH.uY.2 ⟨ao,O,λi x hi=>aH.l5 hf (R i x hi)⟩
def pb.mono{H':cg}(hl:H.cb H'):∀{ts:List ae} {x:hZ ts} {vs:List Value},pb H ts x vs->pb H' ts x vs
 |[],_,_,h=>h
 |_::_,_,_,⟨cs,d3,h,O,R⟩=>⟨cs,d3,h,O.mono hl,pb.mono hl R⟩
def gm(phx:cc)(H:cg)(B:Nat->aQ):List au->List Value->Prop
 |[],[]=>True
 |p::aZ,v::vs=>a? phx H B p v/\gm phx H B aZ vs
 |_,_=>False
def gm.ext{phx':cc}{ay:Nat->Prop}{w':World}(aA:cm phx M B w phx' ay B' w'):∀{aZ:List au} {vs:List Value},gm phx (view w M) B aZ vs->gm phx' (view w' ay) B' aZ vs
 |[],[],_=>trivial
 |_::_,_::_,h=>⟨aA.p h.1,gm.ext aA h.2⟩
def NR{eJ:Bool}:∀{ts:List ae} {aZ:List au} {vs:List Value} {x:hZ ts} {M:Nat->Prop} {B B':Nat->aQ},(IY eJ ts aZ).aX g B=some (x,B')->Mem K w0 phx M B w->gm phx (view w M) B aZ vs ->
  ∃ay,Mem K w0 phx ay B' w/\cm phx M B w phx ay B' w/\pb (full w) ts x vs/\(eJ=true->pb (view w ay) ts x vs)
 |[],[],[],x,M,B,B',h,hm,_=>by cases h;exact⟨M,hm,cm.refl _ _ _ _,rfl,λ_=>rfl⟩
 |t::ts,p::aZ,v::vs,x,M,B,B',h,hm,hp=>by obtain⟨y,cR,O,R⟩:=aw.cy h;obtain⟨bs,b4,af,aq⟩:=aw.cy R;cases aq;obtain⟨cs,aC,ft,bD,e1,_,f1,f2⟩:=yk O hm hp.1;obtain⟨c7,cn,aN,f3,f4⟩:=NR af bD (hp.2.ext e1);subst aC;exact⟨c7,cn,e1.trans aN,⟨cs,vs,rfl,f1,f3⟩,λhf=>⟨cs,vs,rfl,(f2 hf).mono aN.vw,f4 hf⟩⟩
def xF{a:Act}(ac:dw phx H B g a):∀{l:List Operand} {B':Nat->aQ} {aZ:List au},(lO ea l).aX g B=some (aZ,B')->B'=B/\gm phx H B aZ (l.map a.eval)
 |[],B',aZ,h=>by cases h;exact⟨rfl,trivial⟩
 |p::l,B',aZ,h=>by simp only[lO]at h;obtain⟨b,cR,O,R⟩:=aw.cy h;obtain⟨jj,aC⟩:=xN O ac;obtain⟨b9,uH,a8,cS⟩:=aw.cy R;cases cS;rw[jj]at a8;obtain⟨aB,hp⟩:=xF ac a8;exact⟨aB,aC,hp⟩
def Mem.ret(hm:Mem K w0 phx M B w){w':World}{ay:Nat->Prop}(O:w'.os=w.os)(R:w'.tape=w.tape)(af:w'.output=w.output)(ac:w.heap.size<=w'.heap.size)
 (Y:∀b,b<w.heap.size->w'.heap[b]?=w.heap[b]?) (dS:∀b,b<w.heap.size->(ay b↔M b)) (bm:∀b,ay b->b<w'.heap.size) :
 Mem K w0 phx ay B w'/\cm phx M B w phx ay B w':=by
 have hl:∀b o,w.heap[b]?=some o->b<w.heap.size:=λb o aK=>(ip.1 aK).1;have aC:(view w M).cb (view w' ay):=yr λb o aj aK=>⟨λai=>aj ((dS b (hl b o aK)).1 ai),(Y b (hl b o aK)).trans aK⟩;have aA:cm phx M B w phx ay B w':=⟨λ_ _=>rfl,aC,λ_=>aQ.cb.refl _⟩;have ap:∀b,K.k b->b<w.heap.size:=λb h=>hU (hm.klt b h) hm.size;refine⟨{ os:=O.trans hm.os,tape:=R.trans hm.tape,output:=af.trans hm.output,size:=e0 hm.size ac,keep:=λb h=>(Y b (ap b h)).trans (hm.keep b h),klt:=hm.klt,hid:=λb h=>(dS b (ap b h)).trans (hm.hid b h),own:=hm.own,mlt:=bm,blks:=λj => ?_,sep:=hm.sep },aA⟩;exact(hm.blks j).congr rfl aA.pl aA.vw aA.bl (λx hx qv=>Y _ ((hm.blks j).lt qv hx)) (λx hx qv RN=>(dS _ ((hm.blks j).lt qv hx)).2 RN)
def lD.cons{u r:au}{v:Value}{vs:List Value}(h:a? phx H B u v)(aL:∀a,u ≠ .tup a)(k:lD phx H B r vs):lD phx H B (.two u r) (v::vs):=by refine⟨v,vs,rfl,?_,k⟩;cases u<;>first|exact h|exact absurd rfl (aL _)
def aeT{lo:Nat->Prop}{r:ef}{rs:List ef}{x:d8 (r::rs)}{vs:List Value}{U:Nat->Prop}(ah:g_ w M lo (r::rs) x vs U){id:Nat}{v:au}(h:(Up id r x.1).aX g B=some (v,B'))(hm:Mem K w0 phx M B w)
  (qu:∀b,lo b->¬K.k b) (du:∀j,(B j).fx=true->∀z,phx j=some z->¬lo z.1\/U z.1) :
  ∃phx' bV u d3,vs=u::d3/\Mem K w0 phx' M B' w/\cm phx M B w phx' M B' w/\a? phx' (view w M) B' v u/\(∀a,v ≠ .tup a)/\g_ w M lo rs x.2 d3 bV/\(∀j,(B' j).fx=true->∀z,phx' j=some z->¬lo z.1\/bV z.1):=by
 cases r with
 |im t =>cases h;obtain⟨cs,d3,rfl,O,R⟩:=ah;exact⟨phx,U,_,d3,rfl,hm,cm.refl _ _ _ _,⟨cs,O,rfl⟩,(λa h=>by cases h),R,du⟩
 |cl e =>cases h;obtain⟨a,d3,rfl,O,R⟩:=ah;exact⟨phx,U,_,d3,rfl,hm,cm.refl _ _ _ _,⟨a,rfl,O⟩,(λa h=>by cases h),R,du⟩
 |ow e=>
  obtain⟨dB,gi,rfl,rfl⟩:=vQ h;obtain⟨u,d3,rfl,O⟩:=ah;rcases O with⟨O,⟨a,rfl⟩,R⟩|⟨b,⟨o,c,el,fz,cap,rfl,bF,b3,dp,fR,gq,jD,j?,ka,t1⟩,R⟩
  .have cq:(x.1:List e.aD).length=0:=by rw[O];rfl
   obtain⟨bD,e1⟩:=hm.uW gi (.ob e x.1) none (λ_ y hy=>by cases hy) (λ_ y hy=>by cases hy) (λ_=>⟨dB,.inl ⟨lU _ _ _,cq⟩⟩);refine⟨_,U,_,d3,rfl,bD,e1,?_,(λa h=>by cases h),R,λj an z bj => ?_⟩
   .simp only[a?,dZ,bM,eM]
    exact⟨.inl ⟨cq,a,rfl⟩,λh=>by cases h⟩
   by_cases dK:j=id
   .subst dK;rw[lU]at bj;cases bj
   rw[d6 _ _ dK]at an;rw[qT _ _ dK]at bj;exact du j an z bj
  obtain⟨bD,e1⟩:=hm.uW gi (.ob e x.1) (some (b,o,c.size)) (λ_ y hy ap=>by cases hy;exact qu _ ka ap) (λ_ y hy j an z bj=>by
    cases hy;rcases du j an z bj with h|h
    .exact λe=>h (by have e:z.1=b:=e;rw[e];exact ka)
    exact λe=>t1 (by have e:z.1=b:=e;rw[<- e];exact h)) (λaA=>⟨dB,.inr ⟨b,o,c,el,fz,lU _ _ _,fR,gq,jD,j?⟩⟩)
  refine⟨_,λj=>U j\/j=b,_,d3,rfl,bD,e1,?_,(λa h=>by cases h),R,λj an z bj => ?_⟩
  .simp only[a?,dZ,bM,eM]
   exact⟨.inr ⟨b,o,c.size,cap,lU _ _ _,bh,bF,b3,by simpa using dp⟩,λh=>by cases h⟩
  by_cases dK:j=id
  .subst dK;rw[lU]at bj;cases bj;exact .inr (.inr rfl)
  rw[d6 _ _ dK]at an;rw[qT _ _ dK]at bj;exact(du j an z bj).imp (λh=>h) .inl
def aeS{lo:Nat->Prop}(qu:∀b,lo b->¬K.k b):∀{rs:List ef} {x:d8 rs} {vs:List Value} {U:Nat->Prop} {id:Nat} {v:au} {phx:cc} {B B':Nat->aQ},g_ w M lo rs x vs U->(Uo id rs x).aX g B=some (v,B')->Mem K w0 phx M B w ->
  (∀j,(B j).fx=true->∀z,phx j=some z->¬lo z.1\/U z.1)->∃phx',Mem K w0 phx' M B' w/\cm phx M B w phx' M B' w/\lD phx' (view w M) B' v vs
 |[],x,vs,U,id,v,phx,B,B',ah,h,hm,du=>by cases h;exact⟨phx,hm,cm.refl _ _ _ _,ah⟩
 |r::rs,x,vs,U,id,v,phx,B,B',ah,h,hm,du=>by obtain⟨y,cR,O,R⟩:=aw.cy h;obtain⟨bs,b4,af,aq⟩:=aw.cy R;cases aq;obtain⟨hk,tk,u,d3,rfl,bD,e1,f1,f2,f3,f4⟩:=aeT ah O hm qu du;obtain⟨jG,cn,aN,f5⟩:=aeS qu f3 af bD f4;exact⟨jG,cn,e1.trans aN,lD.cons (aN.p f1) f2 f5⟩
def g_.length{w:World}{M:Nat->Prop}{lo:Nat->Prop}:∀{rs:List ef} {x:d8 rs} {vs:List Value} {U:Nat->Prop},g_ w M lo rs x vs U->vs.length=rs.length
 |[],_,vs,_,h=>by have h:vs=[]:=h;subst h;rfl
 |.im t::rs,x,vs,U,h=>by obtain⟨cs,d3,ao,O,R⟩:=h;subst ao;simp[g_.length R]
 |.cl t::rs,x,vs,U,h=>by obtain⟨cs,d3,ao,O,R⟩:=h;subst ao;simp[g_.length R]
 |.ow t::rs,x,vs,U,h=>by obtain⟨v,d3,ao,O⟩:=h;subst ao;rcases O with⟨_,_,R⟩|⟨_,_,R⟩<;>simp[g_.length R]
def g_.sE{w:World}{M:Nat->Prop}{lo sE:Nat->Prop}:∀{rs:List ef} {x:d8 rs} {vs:List Value} {U bV:Nat->Prop},(∀k,lo k->¬U k->sE k)->(∀k,bV k->U k)->g_ w M lo rs x vs U->g_ w M sE rs x vs bV
 |[],_,_,_,_,_,_,h=>h
 |.im t::rs,x,vs,U,bV,O,R,h=>by obtain⟨cs,d3,ao,af,aq⟩:=h;exact⟨cs,d3,ao,af,g_.sE O R aq⟩
 |.cl t::rs,x,vs,U,bV,O,R,h=>by obtain⟨cs,d3,ao,af,aq⟩:=h;exact⟨cs,d3,ao,af,g_.sE O R aq⟩
 |.ow t::rs,x,vs,U,bV,O,R,h=>by obtain⟨v,d3,ao,af⟩:=h;refine⟨v,d3,ao,af.imp (λh=>⟨h.1,h.2.1,g_.sE O R h.2.2⟩) ?_⟩;rintro⟨b,⟨o,c,el,fz,cap,bF,b3,dp,fR,gq,jD,j?,ka,t1,LX⟩,aq⟩;exact⟨b,⟨o,c,el,fz,cap,bF,b3,dp,fR,gq,jD,j?,ka,O b t1 LX,λai=>LX (R b ai)⟩,g_.sE (λk ap aj=>O k ap λai=>aj (.inl ai)) (λk ap=>ap.imp (R k) id) aq⟩
def g_.lo{w:World}{M:Nat->Prop}{lo sE U:Nat->Prop}{rs:List ef}{x:d8 rs}{vs:List Value}(h:g_ w M lo rs x vs U)(O:∀k,lo k->¬U k->sE k):g_ w M sE rs x vs (λ_=>False):=
 g_.sE O (λ_ h=>h.elim) h
def g_.l5{w:World}{M ay:Nat->Prop}{lo:Nat->Prop}:∀{rs:List ef} {x:d8 rs} {vs:List Value} {U:Nat->Prop},rs.all ef.l5=true->g_ w M lo rs x vs U->g_ w ay lo rs x vs U
 |[],_,_,_,_,h=>h
 |.im t::rs,x,vs,U,hf,h=>by simp only[uM,cL]at hf;obtain⟨cs,d3,ao,O,R⟩:=h;exact⟨cs,d3,ao,aH.l5 hf.1 O,g_.l5 hf.2 R⟩
 |.ow e::rs,x,vs,U,hf,h=>by simp only[uM,cL]at hf;cases hf.1
 |.cl e::rs,x,vs,U,hf,h=>by simp only[uM,cL]at hf;cases hf.1
def Ur{rs:List ef}{r:d8 rs}{v:au}{vs:List Value}(hm:Mem K w0 phx M B w){lo:Nat->Prop}(qu:∀b,lo b->¬K.k b)(du:∀j,(B j).fx=true->∀z,phx j=some z->¬lo z.1)
  (ah:g_ w M lo rs r vs (λ_=>False))
  (h:(P? d rs r).aX g B=some (v,B')) :
  ∃phx',Mem K w0 phx' M B' w/\cm phx M B w phx' M B' w/\a? phx' (view w M) B' v (i? vs):=by
 have aaP:∀j,(B j).fx=true->∀z,phx j=some z->¬lo z.1\/(λ_:Nat=>False) z.1:=λj an z bj=>.inl (du j an z bj);match rs,r,ah,h with
 |[],r,ah,h =>cases h;have:vs=[]:=ah;subst this;exact⟨phx,hm,cm.refl _ _ _ _,[],rfl,rfl⟩
 |[t],r,ah,h =>obtain⟨hk,tk,u,d3,rfl,bD,e1,f1,f2,f3,f4⟩:=aeT ah h hm qu aaP;have:d3=[]:=f3;subst this;exact⟨hk,bD,e1,f1⟩
 |t::t'::ts,r,ah,h=>
  obtain⟨y,cR,O,R⟩:=aw.cy h;cases R;obtain⟨hk,bD,e1,f1⟩:=aeS qu ah O hm aaP;refine⟨hk,bD,e1,?_⟩;have cq:=ah.length;have eC:∀q,vs≠[q]:=by intro q a2;rw[a2]at cq;simp at cq
  match vs,eC,f1 with
  |[],_,f1=>exact⟨[],f1,rfl⟩
  |[q],eC,_=>exact absurd rfl (eC q)
  |q::MN::vs,_,f1=>exact⟨_,f1,rfl⟩
def ayV{d:β}{o:Option β}{k:β->aw α}:(aw.bo d o k).aX g B=(match o with|some a=>(k a).aX g B|none=>none):=by cases o<;>simp only[aw.aX]
def pd.keys(h:pd P K w0)(hm:Mem K w0 phx M B w):lM P (view w M):=by
 intro g hg;obtain⟨a,cap,O,R,af,aq⟩:=aH.ic.1 (h.mJ g hg);simp only[yQ,Value.slice.injEq,and_true]at O;obtain⟨rfl,_,rfl⟩:=O;have ap:=h.gl g hg;refine aH.ic.2 ⟨_,_,rfl,R,af,?_⟩;rcases aq with aq|⟨b,o,c,el,fz,bG,b_,co,dl⟩
 .exact .inl aq
 cases bG;obtain⟨dF,gr⟩:=jr.1 b_;exact .inr ⟨g,0,c,el,fz,rfl,jr.2 ⟨λai=>dF ((hm.hid g ap).1 ai),(hm.keep g ap).trans gr⟩,co,λi x hi=>(dl i x hi).l5 rfl⟩
def yU(P:Program)(m t:Nat):Prop:=
 rU P m/\∀(b:Bool) (k:Nat) (w:World),Calls P m #[.bool b,.int .i64 (k:Int)] w λe w'=>w'=w/\e=if b then .returned (.tuple #[]) else .panicked [{ v:=.iface t (.int .i64 (k:Int)),recovered:=false }]
structure oq(P:Program)(E:da)(K:Kp)(w0:World):Prop where
 fn:∀f s,E.G f=some s->fI P f s
 kn : ∀ g, E.K = some g → P.globalNamed "yett/sha.keys" = some g
 gk:(∃f s,E.G f=some s)\/(∃f g,E.I f=some g)\/(∃g,E.K=some g)->pd P K w0
 bx:∀f s,E.X f=some s->ij P f s/\pd P K w0
 pn:∀m t,E.Pn=some (m,t)->yU P m t
 qn:∀f s,E.Q f=some s->EQ P E f s/\pd P K w0
def Mem.Uq(hm:Mem K w0 phx M B w){id:Nat}{t:ae}{v:au}(aB:B id=.box t v)(hx:phx id=some (b,o,n))(RM:M b){w':World}{ay:Nat->Prop}{x:t.aD}(O:w'.os=w.os)(R:w'.tape=w.tape)(af:w'.output=w.output)(ac:w.heap.size<=w'.heap.size)
 (Y:∀k,k<w.heap.size->k≠b->w'.heap[k]?=w.heap[k]?) (dS:∀k,k<w.heap.size->(ay k↔M k)) (bm:∀k,ay k->k<w'.heap.size)
 (ai:∃c el fz,w'.heap[b]?=some (.cells c el fz)/\c.size=n/\h4 c fz/\aH (view w' ay) t x (cF c o t.size)) (aj:o+t.size<=n) :
 Mem K w0 phx ay (cU B id (.box t (.sc t x))) w'/\cm phx M B w phx ay (cU B id (.box t (.sc t x))) w':=by
 have hl:∀b o,w.heap[b]?=some o->b<w.heap.size:=λb o aK=>(ip.1 aK).1;have mM:(B id).fx=true:=by rw[aB];rfl
 have aC:(view w M).cb (view w' ay):=yr λk o aj aK=>⟨λai=>aj ((dS k (hl k o aK)).1 ai),(Y k (hl k o aK) λe=>aj (e▸RM)).trans aK⟩;have aA:cm phx M B w phx ay (cU B id (.box t (.sc t x))) w':=⟨λ_ _=>rfl,aC,λj=>by
  by_cases an:j=id
  .subst an;rw[eM,aB];exact rfl
  rw[d6 _ _ an];exact aQ.cb.refl _⟩
 have ap:∀k,K.k k->k<w.heap.size:=λk h=>hU (hm.klt k h) hm.size;have l':∀k,K.k k->k≠b:=λk h e=>hm.own id mM _ hx (e▸h);have key:∀j,((cU B id (.box t (.sc t x))) j).fx=true->(B j).fx=true:=λj an=>by
  by_cases l_:j=id
  .subst l_;exact mM
  rw[d6 _ _ l_]at an;exact an
 refine⟨{ os:=O.trans hm.os,tape:=R.trans hm.tape,output:=af.trans hm.output,size:=e0 hm.size ac,keep:=λk h=>(Y k (ap k h) (l' k h)).trans (hm.keep k h),klt:=hm.klt,hid:=λk h=>(dS k (ap k h)).trans (hm.hid k h),own:=λj an=>hm.own j (key j an),mlt:=bm,blks:=λj => ?_,sep:=λi j i2 hi an=>hm.sep i j i2 (key i hi) (key j an) },aA⟩;by_cases an:j=id
 .subst an
  rw[eM];obtain⟨c,el,fz,bG,b_,co,dl⟩:=ai;exact⟨b,o,c,el,fz,by rw[hx,b_],bG,J,⟨rfl,dl⟩,co,(dS b (hm.mlt b RM)).2 RM⟩
 rw[d6 _ _ an];exact(hm.blks j).congr rfl aA.pl aA.vw aA.bl (λy hy qv=>Y _ ((hm.blks j).lt qv hy) (hm.sep j id an qv mM y _ hy hx)) (λy hy qv aoB=>(dS _ ((hm.blks j).lt qv hy)).2 aoB)
def ajz{s:ik}{aZ:List au}{vs:List Value}{v:au}(fU:ij P f s)(ap:pd P K w0)(h:(Py d s aZ).aX g B=some (v,B'))(hm:Mem K w0 phx M B w)(dc:gm phx (view w M) B aZ vs):
  rU P f/\Calls P f vs.toArray w λe w'=>∃b2,e=.returned b2/\dq K w0 phx M B w B' v b2 w':=by
 unfold Py at h;split at h
 .rename_i id as
  simp only[aw.aX]at h;cases vs with
  |nil=>exact dc.elim
  |cons v0 vs=>
   have zK:bM phx (view w M) B (.ptr id []) v0:=dc.1;have Y:=hm.blks id;simp only[bM]at zK;generalize aB:B id=bl at h Y zK;cases bl<;>try(cases h)
   rename_i t u;dsimp only at h;obtain⟨b,o,n,off,t',g1,bw,rfl⟩:=zK;obtain⟨b',di,c,el,fz,bG,b_,co,dl,eQ,lq⟩:=Y;rw[g1]at bG;cases bG;simp only[ae.d?]at bw;obtain⟨rfl,rfl⟩:=bw;cases gH:ae.is t s.ty with
   |false=>rw[gH]at h;cases h
   |true=>
    rw[gH]at h;have ht:=eD gH;subst ht;obtain⟨x,cR,O,R⟩:=aw.cy h;obtain⟨y,b4,af,aq⟩:=aw.cy R;obtain⟨ft,bD,e1,_,f1,f2⟩:=IZ O hm dl;obtain⟨c7,cn,aN,f3,f4⟩:=NR af bD (dc.2.ext e1);simp only[aw.aX]at aq;have hb2:=cn.blks id;generalize j9:b4 id=bl2 at aq hb2;cases bl2<;>try(cases aq)
    rename_i ev uD;dsimp only at aq;cases tV:ae.is ev s.ty with
    |false=>rw[tV]at aq;cases aq
    |true=>
     rw[tV]at aq;have GT:=eD tV;subst GT;obtain⟨ei,mf,c2,Zb,Z8,dF,gr,lk,xQ,xR,sN⟩:=hb2;rw[g1,km,kH,kH]at dF;obtain⟨rfl,rfl,_⟩:=dF;cases ah:s.fn (x,y) with
     |none=>rw[ah]at aq;cases aq
     |some r=>
      rw[ah]at aq;refine⟨fU.1,?_⟩;refine(fU.2 w c7 b o c el fz x y vs r cn.mlt (ap.keys cn) sN b_ co eQ ((f2 rfl).mono aN.vw) (f4 rfl) ah).mono ?_;rintro e w' ⟨b2,rfl,ay,bF,b3,dp,fR,gq,jD,j?,ka,us,t1,rfl⟩;obtain⟨gJ,dJ⟩:=cn.Uq j9 g1 sN bF b3 dp fR gq jD j? ka co;have du:∀j,((cU b4 id (.box s.ty (.sc s.ty r.1))) j).fx=true->∀z,phx j=some z->¬ ¬z.1<w.heap.size:=λj an z bj ai=>by
       by_cases dK:j=id
       .grind
       rw[d6 _ _ dK]at an;exact ai ((cn.blks j).lt an bj)
      obtain⟨T2,Ae,gQ,f5⟩:=Ur (g:=g) gJ (lo:=λk=>¬k<w.heap.size) (λk qt GI=>qt (hU (cn.klt k GI) cn.size)) du t1 aq;exact⟨_,rfl,T2,ay,Ae,((e1.trans aN).trans dJ).trans gQ,f5⟩
 cases h
def ava{s:nJ}{aZ:List au}{vs:List Value}{v:au}{bc:Nat}(fU:uI P f bc s.ty s.args [.im s.rt] s.fn)(ap:pd P K w0)(h:(P' s aZ).aX g B=some ((n,v),B'))(hm:Mem K w0 phx M B w)(dc:gm phx (view w M) B aZ vs):
  rU P f/\Calls P f vs.toArray w λe w'=>∃ay,Mem K w0 phx ay B' w'/\cm phx M B w phx ay B' w'/\((n=0/\∃b2,e=.returned b2/\a? phx (view w' ay) B' v b2)\/(n≠0/\e=.panicked [{ v:=.iface bc (.int .i64 (n:Int)),recovered:=false }])):=by
 unfold P' at h;split at h
 .rename_i id as
  simp only[aw.aX]at h;cases vs with
  |nil=>exact dc.elim
  |cons v0 vs=>
   have zK:bM phx (view w M) B (.ptr id []) v0:=dc.1;have Y:=hm.blks id;simp only[bM]at zK;generalize aB:B id=bl at h Y zK;cases bl<;>try(cases h)
   rename_i t u;dsimp only at h;obtain⟨b,o,ac3,off,t',g1,bw,rfl⟩:=zK;obtain⟨b',di,c,el,fz,bG,b_,co,dl,eQ,lq⟩:=Y;rw[g1]at bG;cases bG;simp only[ae.d?]at bw;obtain⟨rfl,rfl⟩:=bw;cases gH:ae.is t s.ty with
   |false=>rw[gH]at h;cases h
   |true=>
    rw[gH]at h;have ht:=eD gH;subst ht;obtain⟨x,cR,O,R⟩:=aw.cy h;obtain⟨y,b4,af,aq⟩:=aw.cy R;obtain⟨ft,bD,e1,_,f1,f2⟩:=IZ O hm dl;obtain⟨c7,cn,aN,f3,f4⟩:=NR af bD (dc.2.ext e1);simp only[aw.aX]at aq;have hb2:=cn.blks id;generalize j9:b4 id=bl2 at aq hb2;cases bl2<;>try(cases aq)
    rename_i ev uD;dsimp only at aq;cases tV:ae.is ev s.ty with
    |false=>rw[tV]at aq;cases aq
    |true=>
     rw[tV]at aq;have GT:=eD tV;subst GT;obtain⟨ei,mf,c2,Zb,Z8,dF,gr,lk,xQ,xR,sN⟩:=hb2;rw[g1,km,kH,kH]at dF;obtain⟨rfl,rfl,_⟩:=dF;cases ah:s.fn (x,y) with
     |none=>rw[ah]at aq;cases aq
     |some r=>
      rw[ah]at aq;cases aq;refine⟨fU.1,?_⟩;refine(fU.2 w c7 b o c el fz x y vs r cn.mlt (ap.keys cn) sN b_ co eQ ((f2 rfl).mono aN.vw) (f4 rfl) ah).mono ?_;rintro e w' (⟨aj,b2,rfl,ay,bF,b3,dp,fR,gq,jD,j?,ka,us,t1,rfl⟩|⟨aj,rfl,ay,bF,b3,dp,fR,gq,jD,j?,ka⟩)
      .obtain⟨gJ,dJ⟩:=cn.Uq j9 g1 sN bF b3 dp fR gq jD j? ka co
       refine⟨ay,gJ,(e1.trans aN).trans dJ,.inl ⟨aj,_,rfl,?_⟩⟩;obtain⟨cs,d3,rfl,LX,ar8⟩:=t1;cases(ar8);exact⟨cs,LX,rfl⟩
      obtain⟨gJ,dJ⟩:=cn.Uq j9 g1 sN bF b3 dp fR gq jD j? ka co;exact⟨ay,gJ,(e1.trans aN).trans dJ,.inr ⟨aj,rfl⟩⟩
 cases h
def Qa{E:da}(dA:oq P E K w0){aZ:List au}{vs:List Value}{v:au}(h:(Fw E d f aZ).aX g B=some (v,B'))(hm:Mem K w0 phx M B w)(dc:gm phx (view w M) B aZ vs):
  rU P f/\Calls P f vs.toArray w λe w'=>∃b2,e=.returned b2/\dq K w0 phx M B w B' v b2 w':=by
 unfold Fw at h;cases hg:E.G f with
 |none=>
  rw[hg]at h;cases hx:E.X f with
  |none=>rw[hx]at h;cases h
  |some s =>rw[hx]at h;obtain⟨O,R⟩:=dA.bx f s hx;exact ajz O R h hm dc
 |some s=>
  rw[hg]at h;obtain⟨x,cR,O,R⟩:=aw.cy h;obtain⟨ft,bD,e1,f1,f2⟩:=NR O hm dc;obtain⟨vi,fU⟩:=dA.fn f s hg;cases ah:s.fn x with
  |none=>rw[ah]at R;cases R
  |some r=>
   rw[ah]at R;refine⟨vi,?_⟩;cases q?:s.res.all ef.l5 with
   |false =>rw[q?]at f2;refine(fU w ft x vs r bD.mlt ((dA.gk (.inl ⟨f,s,hg⟩)).keys bD) (f2 rfl) ah).mono ?_;rintro e w' ⟨b2,rfl,ay,bF,b3,dp,fR,gq,jD,j?,us,ka,rfl⟩;obtain⟨cn,aN⟩:=bD.ret bF b3 dp fR gq jD j?;obtain⟨jm,gJ,dJ,f3⟩:=Ur (g:=g) cn (λb Y ap=>Y (hU (bD.klt b ap) bD.size)) (λj an z bj ai=>ai ((bD.blks j).lt an bj)) ka R;exact⟨_,rfl,jm,ay,gJ,(e1.trans aN).trans dJ,f3⟩
   |true =>have aC:(full w).cb (view w λ_=>False):=λb o Y=>jr.2 ⟨λh=>h,Y⟩;refine(fU w (λ_=>False) x vs r (λ_ h=>h.elim) (((dA.gk (.inl ⟨f,s,hg⟩)).keys bD).mono ((rN w ft).trans aC)) (f1.mono aC) ah).mono ?_;rintro e w' ⟨b2,rfl,ay,bF,b3,dp,fR,gq,jD,j?,us,ka,rfl⟩;obtain⟨cn,aN⟩:=bD.CD bF b3 dp fR gq (λ_=>False) (λ_ h=>h.elim);obtain⟨jm,gJ,dJ,f3⟩:=Ur (g:=g) cn (λb Y ap=>Y (hU (bD.klt b ap) bD.size)) (λj an z bj ai=>ai ((bD.blks j).lt an bj)) (ka.l5 q?) R;exact⟨_,rfl,jm,_,gJ,(e1.trans aN).trans dJ,f3⟩
end
end Yp
namespace Yp
open Go
variable {P:Program}
def qB(P:Program)(M:Nat->Option (ae×ae)):Prop:=∀tid p,M tid=some p->∃kt vt,P.underlying tid=some (.map kt vt)/\(cO P p.1).1 kt/\(cO P p.2).1 vt
def acP(P:Program)(tid:Nat)(p:ae×ae):Bool:=match P.underlying tid with|some (.map kt vt)=>(kv P p.1).1 kt&&(kv P p.2).1 vt|_=>false
def acQ(P:Program):∀l:List (Nat×ae×ae),(l.all λq=>acP P q.1 q.2)=true->qB P (Ht l)
 |[],_=>λtid p h=>by cases h
 |(i,q)::r,h=>λtid p hp=>by
  simp only[uM,cL]at h;simp only[Ht]at hp;cases Y:Nat.beq i tid with
  |true=>
   rw[Y]at hp;cases hp;have O:=h.1;unfold acP at O;rw[<- fB Y];split at O
   .rename_i kt vt aL
    simp at O;exact⟨kt,vt,aL,(tG _).1 _ O.1,(tG _).1 _ O.2⟩
   cases O
  |false=>rw[Y]at hp;exact acQ P r h.2 tid p hp
section
variable {K:Kp} {w0 w:World} {phx:cc} {M:Nat->Prop} {B B':Nat->aQ} {g:Nat->au} {H:cg}
def asO{t:TypeId}{id:Nat}(hid:B id=.new)(kt vt:ae)(hm:Mem K w0 phx M B w):
  ∃r w',(Instr.makeMap t none).run P w=.ok r w'/\dq K w0 phx M B w (cU B id (.mp kt vt [])) (.mpp id) r w':=by
 refine⟨.map (some w.heap.size),w.alloc (.map #[] 0),by simp[Instr.makeMap],?_⟩;obtain⟨phx',ay,bD,e1,dF⟩:=hm.born hid (w':=w.alloc (.map #[] 0)) rfl rfl rfl (by rw[iv];omega) (q4 w _) (.mp kt vt []) 0 λphx' ay aA hp dS=>
  ⟨w.heap.size, #[],0,hp,q3 w _,rfl,dS⟩
 refine⟨phx',ay,bD,e1,?_⟩;simp only[a?,dZ,bM,eM];exact⟨_,dF,rfl⟩
def t2:ae->TypeDesc
 |.int k=>.int k|_=>.string
def LY{kt:ae}(ap:vF kt=true){tid:TypeId}(hf:(cO P kt).1 tid):P.underlying tid=some (t2 kt):=by cases kt<;>first|exact hf.1|cases ap
def SY{kt:ae}(ap:vF kt=true){tid:TypeId}(hf:(cO P kt).1 tid){key:kt.aD}{am:List Value}(h:aH H kt key am)(b:Bool)(w:World):(Instr.checkKey b 10000 tid (ct kt am)).run P w=.ok () w:=by
 have aL:=LY ap hf;cases kt<;>try(cases ap)
 .have:=aH.ia.1 h
  rw[Instr.checkKey];simp only[Sem.run_bind,run_underlying aL];rfl
 have:=aH.ml.1 h;rw[Instr.checkKey];simp only[Sem.run_bind,run_underlying aL];rfl
def SZ{kt:ae}(ap:vF kt=true){bF b3:kt.aD}{c1 c2:List Value}(O:aH H kt bF c1)(R:aH H kt b3 c2):Instr.sameNow (t2 kt) (ct kt c1) (ct kt c2)=some (vE kt bF b3):=by
 cases kt<;>try(cases ap)
 .have e1:=aH.ia.1 O;have aN:=aH.ia.1 R;subst e1;subst aN
  simp[Instr.sameNow,t2,ct,ae.isAgg,vE,ag]
 have e1:=aH.ml.1 O;have aN:=aH.ml.1 R;subst e1;subst aN;simp only[ct,ae.isAgg,t2,List.headD_cons];simp only[O3,if_false,Instr.sameNow];congr 1;exact ByteArray_beq _ _
where
 ByteArray_beq (a b:List UInt8):((⟨a.toArray⟩:ByteArray)==⟨b.toArray⟩)=(a==b):=by have:=beq_toListBytes (⟨a.toArray⟩:ByteArray) ⟨b.toArray⟩;rw[this,ByteArray.toList_eq,ByteArray.toList_eq]
def awL{a b:List UInt8}(h:¬a=b):seq a b=false:=by unfold seq;exact beq_eq_false_iff_ne.2 h
def asa{kt:ae}{bF b3:kt.aD}(h:Hf kt bF b3=true):vE kt bF b3=false:=by
 cases kt<;>try(cases h)
 .simp only[Hf,acf,wv,decide_eq_false_iff_not]at h
  simp only[vE,ag,beq_eq_false_iff_ne];exact h
 simp only[Hf,agF,wv,decide_eq_false_iff_not]at h;exact awL h
def ZN{kt:ae}(ap:vF kt=true){key:kt.aD}{am:List Value}(ai:aH H kt key am):∀{l:List (kt.aD×au)} {es:List MapEntry} (i:Nat),k5 phx H B kt l es->(l.all λp=>Hf kt key p.1)=true ->
  Instr.findNow (t2 kt) (ct kt am) es i=some none
 |[],es,i,h,_=>by subst h;rfl
 |(k,v)::l,es,i,h,bu=>by obtain⟨e,es',rfl,⟨Yw,O,R⟩,af,aq⟩:=h;simp only[uM,cL]at bu;simp only[Instr.findNow];rw[R,SZ ap ai O,asa bu.1];exact ZN ap ai (i+1) aq bu.2
def k5.push{kt:ae}{key:kt.aD}{am:List Value}{v:au}{val:Value}{n:Nat}(O:aH H kt key am)(R:dZ phx H B v val):∀{l:List (kt.aD×au)} {es:List MapEntry},k5 phx H B kt l es->k5 phx H B kt (l++[(key,v)]) (es++[⟨ct kt am,val,n⟩])
 |[],es,h=>by subst h;exact⟨_,[],rfl,⟨am,O,rfl⟩,R,rfl⟩
 |_::_,_,⟨e,es',h,af,aq,a8⟩=>⟨e,es'++[⟨ct kt am,val,n⟩],by rw[h];rfl,af,aq,k5.push O R a8⟩
def Ei{v:au}{x:Value}(h:a? phx H B v x)(aL:∀a,v ≠ .tup a):dZ phx H B v x:=by cases v<;>first|exact h|exact absurd rfl (aL _)
def adj{v:au}(h:vR v=true):∀a,v ≠ .tup a:=by rintro a rfl;cases h
def ae9{w:World}{r:Nat}{es:Array MapEntry}{Kv:Nat}(Y:w.heap[r]?=some (.map es Kv)):(getObj r).run P w=.ok (.map es Kv) w:=by simp[getObj,Sem.run,Y]
def awv{w:World}{r:Nat}{es:Array MapEntry}{Kv:Nat}(o:Obj)(Y:w.heap[r]?=some (.map es Kv)):(setObj r o).run P w=.ok () { w with heap:=w.heap.setIfInBounds r o }:=by simp[setObj,Sem.run,Y]
def ace{q:ae×ae}{t vG N5:TypeId}{m k v r:au}{VS I9 s9:Value}(h:(LP q m k v).aX g B=some (r,B'))(aL:P.underlying t=some (.map vG N5))
  (ap5:(cO P q.1).1 vG) (hm:Mem K w0 phx M B w)
  (GP:a? phx (view w M) B m VS) (rh:a? phx (view w M) B k I9) (zO:a? phx (view w M) B v s9) :
  r=.undef/\∃w' ay,(Instr.mapUpdate t VS I9 s9).run P w=.ok () w'/\Mem K w0 phx ay B' w'/\cm phx M B w phx ay B' w':=by
 unfold LP at h;cases m<;>try(cases h;done)
 rename_i id;simp only[aw.aX]at h;have ac:bM phx (view w M) B (.mpp id) VS:=GP;have dD:=hm.blks id;simp only[bM]at ac;generalize aB:B id=bl at h ac dD;cases bl<;>try(cases h;done)
 rename_i kt vt l;simp only at h;replace h:=aw.cy h;obtain⟨key,cR,O,h⟩:=h;obtain⟨pE,rfl⟩:=dE O;replace h:=aw.cy h;obtain⟨_,b4,R,h⟩:=h;obtain⟨aj,rfl⟩:=kD R;simp only[cL]at aj;obtain⟨⟨a2,n1⟩,vq⟩:=aj;have aj:=And.intro n1 vq;cases h;obtain⟨am,vj,rfl⟩:=nA pE rh;obtain⟨b,hb1,rfl⟩:=ac;obtain⟨b',es,m',hb2,hb3,Gm,RR⟩:=dD;rw[hb1]at hb2;cases hb2;have hf:(cO P kt).1 vG:=by rw[eD a2];exact ap5
 have GH:=LY aj.1 hf;have GC:(Instr.findKey vG (ct kt am) es.toList).run P w=.ok none w:=by simp[Instr.findKey,run_underlying GH,ZN aj.1 vj 0 Gm aj.2.2]
 have Gt:=SY aj.1 hf vj false w
 let w':World:={ w with heap:=w.heap.setIfInBounds b (.map (es.push { key:=ct kt am,val:=s9,born:=m' }) (m'+1)) }
 have bm:b<w.heap.size:=(ip.1 hb3).1;have jR:(Instr.mapUpdate t (.map (some b)) (ct kt am) s9).run P w=.ok () w':=by simp only[Instr.mapUpdate,Sem.run_bind,run_underlying aL,Result.andThen_ok,ae9 hb3,Gt,GC];simp only[awv _ hb3];rfl
 have apW:w'.heap[b]?=some (.map (es.push { key:=ct kt am,val:=s9,born:=m' }) (m'+1)):=by simp[w',bm]
 obtain⟨bD,e1⟩:=hm.put (id:=id) (x:=(b,0,0)) (w':=w') (by rw[aB];rfl) hb1 RR rfl rfl rfl (by simp[w']) (λj an=>by simp[w',BB (nI an)]) (.mp kt vt (l++[(key,v)])) (by rw[aB];exact⟨rfl,rfl⟩) λaA=>by refine⟨b,_,m'+1,hb1,apW,?_,RR⟩;rw[Array.toList_push];exact(Gm.mono aA.pl aA.vw aA.bl).push (vj.mono aA.vw) ((Ei zO (adj aj.2.1)).mono aA.pl aA.vw aA.bl)
 exact⟨rfl,w',M,jR,bD,e1⟩
def oU(ok:Bool)(v:Value)(b:Bool):Value:=if ok then .tuple #[v,.bool b]else v
def x4{v b:au}{x:Value}(O:dZ phx H B v x)(R:dZ phx H B b (.bool c)):a? phx H B (x3 ok v b) (oU ok x c):=by
 cases ok with
 |false =>cases v<;>first|exact O|exact O.elim
 |true =>exact⟨[x,.bool c],⟨x,[.bool c],rfl,O,.bool c,[],rfl,R,rfl⟩,rfl⟩
def dZ.axQ{v:au}{x:Value}(h:dZ phx H B v x):a? phx H B v x:=by cases v<;>first|exact h|exact h.elim
def aaf{kt vt:ae}(ap:vF kt=true){ok:Bool}{key:kt.aD}{am:List Value}(ai:aH H kt key am):∀{l:List (kt.aD×au)} {es:List MapEntry} (i:Nat) {r:au},k5 phx H B kt l es->(Le kt vt ok key l).aX g B=some (r,B') ->
  B'=B/\((∃j val,Instr.findNow (t2 kt) (ct kt am) es i=some (some (j,val))/\a? phx H B r (oU ok val true)) \/
   (Instr.findNow (t2 kt) (ct kt am) es i=some none/\a? phx H B r (oU ok (ct vt (dz vt)) false)))
 |[],es,i,r,h,ah=>by subst h;cases ah;exact⟨rfl,.inr ⟨rfl,x4 (Ei (Bt (yC vt)) (λa=>by cases vt<;>simp[m0,p4])) rfl⟩⟩
 |(k,v)::l,es,i,r,h,ah=>by
  obtain⟨e,es',rfl,⟨Yw,O,R⟩,af,aq⟩:=h;simp only[Le,aw.aX]at ah;simp only[Instr.findNow];rw[R,SZ ap ai O];cases CS:vE kt key k with
  |true =>rw[CS]at ah;cases ah;exact⟨rfl,.inl ⟨i,e.val,rfl,x4 af rfl⟩⟩
  |false =>rw[CS]at ah;exact aaf ap ai (i+1) aq ah
def YU{kt vt:ae}(ap:vF kt=true){key:kt.aD}{am:List Value}(ai:aH H kt key am):∀{l:List (kt.aD×au)} {et:List (kt.aD×vt.aD)} {es:List MapEntry} (i:Nat),k5 phx H B kt l es->BT kt vt l=some et ->
  (∃j val,Instr.findNow (t2 kt) (ct kt am) es i=some (some (j,val))/\dZ phx H B (.sc vt (D0 kt vt key et)) val/\CJ kt vt key et=true) \/
   (Instr.findNow (t2 kt) (ct kt am) es i=some none/\dZ phx H B (.sc vt (D0 kt vt key et)) (ct vt (dz vt))/\CJ kt vt key et=false)
 |[],et,es,i,h,hx=>by subst h;cases hx;exact .inr ⟨rfl,⟨_,aH.zero _ _,rfl⟩,rfl⟩
 |(k,v)::l,et,es,i,h,hx=>by
  obtain⟨e,es',rfl,⟨Yw,O,R⟩,af,aq⟩:=h;simp only[BT]at hx;cases aC:ie vt v with
  |none=>rw[aC]at hx;cases hx
  |some x=>
   cases hl:BT kt vt l with
   |none=>rw[aC,hl]at hx;cases hx
   |some bs=>
    rw[aC,hl]at hx;cases hx;simp only[Instr.findNow];rw[R,SZ ap ai O];have a2:=Ei (nA aC af.axQ) (λa h=>by cases h);cases CS:vE kt key k with
    |true=>exact .inl ⟨i,e.val,rfl,by simp only[D0,CS];exact a2,by simp[CJ,CS,T]⟩
    |false =>have:=YU (vt:=vt) ap ai (i+1) aq hl;simp only[D0,CJ,CS];exact this
def asE{E:da}(g3:qB P E.M){tid:TypeId}{x k r:au}{gU I9:Value}(h:(Tc E tid x k ok).aX g B=some (r,B'))(hm:Mem K w0 phx M B w)
  (mb:a? phx (view w M) B x gU) (rh:a? phx (view w M) B k I9):B'=B/\∃v,(Instr.lookup tid gU I9 ok).run P w=.ok v w/\a? phx (view w M) B r v:=by
 unfold Tc at h;replace h:=aw.cy h;obtain⟨p,cR,O,h⟩:=h;obtain⟨hp,rfl⟩:=dE O;obtain⟨vG,N5,aL,xl,oM⟩:=g3 _ _ hp;have bj:=AW oM w;cases x<;>try(cases h;done)
 case mpp id=>
  simp only[aw.aX]at h;have ac:bM phx (view w M) cR (.mpp id) gU:=mb;have dD:=hm.blks id;simp only[bM]at ac;generalize aB:cR id=bl at h ac dD;cases bl<;>try(cases h;done)
  rename_i kt vt l;simp only at h;replace h:=aw.cy h;obtain⟨_,b4,R,h⟩:=h;obtain⟨aj,rfl⟩:=kD R;simp only[cL]at aj;have e1:=eD aj.1;subst e1;have aN:=eD aj.2.1;subst aN;replace h:=aw.cy h;obtain⟨key,uH,af,h⟩:=h;obtain⟨pE,rfl⟩:=dE af;obtain⟨am,vj,rfl⟩:=nA pE rh;obtain⟨b,hb1,rfl⟩:=ac;obtain⟨b',es,m',hb2,hb3,Gm,RR⟩:=dD;rw[hb1]at hb2;cases hb2;have GH:=LY aj.2.2 xl;have Gt:=λc=>SY aj.2.2 xl vj c w;have run:∀o,Instr.findNow (t2 p.1) (ct p.1 am) es.toList 0=some o->(Instr.lookup tid (.map (some b)) (ct p.1 am) ok).run P w=.ok (match o with|some (_,v)=>oU ok v true|none=>oU ok (ct p.2 (dz p.2)) false) w:=by
   intro o aK;have GC:(Instr.findKey vG (ct p.1 am) es.toList).run P w=.ok o w:=by simp[Instr.findKey,run_underlying GH,aK]
   simp only[Instr.lookup,Sem.run_bind,run_underlying aL,Result.andThen_ok,ae9 hb3,Sem.run_pure,Gt,GC];cases o with
   |none=>simp[bj,oU]
   |some q=>simp[oU]
  unfold ZL at h;cases bu:BT p.1 p.2 l with
  |none=>
   rw[bu]at h;obtain⟨ne,h⟩:=aaf aj.2.2 vj 0 Gm h;refine⟨ne,?_⟩;rcases h with⟨j,val,bG,b_⟩|⟨bG,b_⟩
   .exact⟨_,run _ bG,b_⟩
   exact⟨_,run _ bG,b_⟩
  |some et=>
   rw[bu]at h;cases h;refine⟨rfl,?_⟩;rcases YU (vt:=p.2) aj.2.2 vj 0 Gm bu with⟨j,val,bG,b_,co⟩|⟨bG,b_,co⟩
   .exact⟨_,run _ bG,x4 b_ ⟨_,aH.nP.2 (by rw[co]),rfl⟩⟩
   exact⟨_,run _ bG,x4 b_ ⟨_,aH.nP.2 (by rw[co]),rfl⟩⟩
 case sc t y=>
  cases t<;>try(cases h;done)
  rename_i jl;have GI:jl=2:=by
   refine k2 λai => ?_;match jl,ai,h with
   |0,_,h=>cases h
   |1,_,h=>cases h
   |2,ai,_=>exact ai rfl
   |n+3,_,h=>cases h
  subst GI;simp only at h;replace h:=aw.cy h;obtain⟨_,b4,R,h⟩:=h;obtain⟨aj,rfl⟩:=kD R;replace h:=aw.cy h;obtain⟨key,uH,af,h⟩:=h;obtain⟨pE,rfl⟩:=dE af;cases h;obtain⟨am,vj,rfl⟩:=nA pE rh;obtain⟨cs,lK,rfl⟩:=mb;have:=aH.vU.1 lK;subst this;have GH:=LY aj xl;have Gt:=SY aj xl vj true w;refine⟨rfl,oU ok (ct p.2 (dz p.2)) false,?_,x4 (Ei (Bt (yC _)) (λa=>by cases p.2<;>simp[m0,p4])) rfl⟩;show(Instr.lookup tid (.map none) (ct p.1 am) ok).run P w=_;have GC:(Instr.findKey vG (ct p.1 am) []).run P w=.ok none w:=by simp[Instr.findKey,run_underlying GH,Instr.findNow]
  simp only[Instr.lookup,Sem.run_bind,run_underlying aL,Result.andThen_ok,Sem.run_pure];simp[Gt,GC,bj,oU]
def VL{t:ae}{tid:TypeId}(hf:(cO P t).1 tid)(aj:ae.is t (.op 1)=false):∃d,P.underlying tid=some d/\∀vM,d ≠ .interface vM:=by
 cases t with
 |bool=>exact⟨_,hf.1,bh⟩
 |int k=>exact⟨_,hf.1,bh⟩
 |str=>exact⟨_,hf.1,bh⟩
 |sl e=>obtain⟨⟨bc,h,_⟩,_⟩:=hf;exact⟨_,h,bh⟩
 |unit=>obtain⟨⟨bc,h,_⟩,_⟩:=hf;exact⟨_,h,bh⟩
 |pair a b=>obtain⟨⟨bc,h,_⟩,_⟩:=hf;exact⟨_,h,bh⟩
 |ar n e=>obtain⟨⟨bc,h,_⟩,_⟩:=hf;exact⟨_,h,bh⟩
 |op k=>
  have h:=hf.1;match k,h,aj with
  |0,⟨_,_,_,h⟩,_=>exact⟨_,h,bh⟩
  |2,⟨_,_,h⟩,_=>exact⟨_,h,bh⟩
  |3,⟨_,h⟩,_=>exact⟨_,h,bh⟩
 |fn l=>obtain⟨⟨_,_,_,h⟩,_⟩:=hf;exact⟨_,h,bh⟩
def asN{t:ae}{tid:TypeId}(hf:(cO P t).1 tid)(aj:ae.is t (.op 1)=false)(x:Value)(w:World):(Instr.makeInterface tid x).run P w=.ok (.iface tid x) w:=by obtain⟨d,aL,aF⟩:=VL hf aj;simp only[Instr.makeInterface,Sem.run_bind,run_underlying aL];simp
def aiX{E:da}(hT:mV P E.b8){tp xT:TypeId}{x r:au}{gU:Value}(h:(WY E tp x ok).aX g B=some (r,B'))(ah:a? phx H B x gU)(w:World):
  B'=B/\∃v,(Instr.typeAssert gU xT tp ok).run P w=.ok v w/\a? phx H B r v:=by
 have zero:∀{t:ae},dZ phx H B (p4 t (m0 t)) (ct t (dz t)):=fun{t}=>Ei (Bt (yC t)) (λa=>by cases t<;>simp[m0,p4]);cases x<;>try(cases h)
 case ifc tid t y=>
  replace h:=aw.cy h;obtain⟨t',cR,O,h⟩:=h;obtain⟨ht,rfl⟩:=dE O;obtain⟨cs,lK,rfl⟩:=ah;cases hi:ae.is t' (.op 1) with
  |true=>rw[hi]at h;cases h
  |false=>
   rw[hi]at h;have hf:=hT _ _ ht;obtain⟨d,aL,aF⟩:=VL hf hi;have bj:=AW hf w;cases Y:Nat.beq tid tp with
   |true =>rw[Y]at h;cases h;have:=fB Y;subst this;refine⟨rfl,oU ok (ct t cs) true,?_,x4 ⟨cs,lK,rfl⟩ rfl⟩;simp only[Instr.typeAssert,Sem.run_bind,run_underlying aL];cases d<;>first|exact absurd rfl (aF _)|(simp[oU])
   |false=>
    rw[Y]at h;cases ok with
    |false=>cases h
    |true=>
     cases h;refine⟨rfl,oU true (ct t' (dz t')) false,?_,x4 zero rfl⟩;have eC:¬tid=tp:=λe=>by rw[e,BM]at Y;cases Y
     simp only[Instr.typeAssert,Sem.run_bind,run_underlying aL];cases d<;>first|exact absurd rfl (aF _)|(simp[oU,eC,bj])
 case sc t y=>
  cases t<;>try(cases h)
  rename_i jl;have GI:jl=1:=by
   refine k2 λai => ?_;match jl,ai,h with
   |1,ai,_=>exact ai rfl
  subst GI;replace h:=aw.cy h;obtain⟨t',cR,O,h⟩:=h;obtain⟨ht,rfl⟩:=dE O;obtain⟨cs,lK,rfl⟩:=ah;have:=aH.vU.1 lK;subst this;cases hi:ae.is t' (.op 1) with
  |true=>rw[hi]at h;cases h
  |false=>
   rw[hi]at h;have hf:=hT _ _ ht;obtain⟨d,aL,aF⟩:=VL hf hi;have bj:=AW hf w;cases ok with
   |false=>cases h
   |true =>cases h;refine⟨rfl,oU true (ct t' (dz t')) false,?_,x4 zero rfl⟩;show(Instr.typeAssert .nilIface xT tp true).run P w=_;simp only[Instr.typeAssert,Sem.run_bind,run_underlying aL];cases d<;>first|exact absurd rfl (aF _)|(simp[oU,bj])
end
end Yp
namespace Yp
open Go
def wB:=@Array.getElem?_toList
variable {P:Program}
section
variable {K:Kp} {w0 w:World} {phx:cc} {M:Nat->Prop} {B B':Nat->aQ} {g:Nat->au} {H:cg}
def aiR{v:au}{n:Int}{x:Value}(h:(y2 v).aX g B=some (n,B'))(ah:a? phx H B v x):B'=B/\∃k,x=.int k n:=by
 cases v<;>try(cases h)
 rename_i t y;cases t<;>try(cases h;done)
 rename_i k;cases h;exact⟨rfl,k,ah.int⟩
def arU{t:ae}(h:aci t=true):∃e,t=.sl e:=by cases t<;>first|exact⟨_,rfl⟩|cases h
def jw.args:∀{l:List il} {vs:List Value},jw phx H B l vs->gm phx H B (l.map il.pv) vs
 |[],vs,h=>by subst h;trivial
 |c::l,vs,h=>by obtain⟨v,d3,rfl,O,R⟩:=h;refine⟨?_,R.args⟩;cases c<;>exact O
def gm.bv:∀{aZ aez:List au} {vs us:List Value},gm phx H B aZ vs->gm phx H B aez us->gm phx H B (aZ++aez) (vs++us)
 |[],_,[],_,_,h=>h
 |_::_,_,_::_,_,h,k=>⟨h.1,gm.bv h.2 k⟩
def jw.take:∀(n:Nat) {l:List il} {vs:List Value},jw phx H B l vs->jw phx H B (l.take n) (vs.take n)/\jw phx H B (l.drop n) (vs.drop n)
 |0,_,_,h=>⟨rfl,h⟩
 |n+1,[],vs,h=>by have h:vs=[]:=h;subst h;exact⟨rfl,rfl⟩
 |n+1,c::l,vs,h=>by obtain⟨v,d3,rfl,O,R⟩:=h;obtain⟨bF,b3⟩:=jw.take n R;exact⟨⟨v,_,rfl,O,bF⟩,b3⟩
def Qn{dQ:Nat}{cV:List il}{aZ:List au}{us vs:List Value}(aA:jw phx H B cV us)(hp:gm phx H B aZ vs):gm phx H B (u1 dQ cV aZ) (us.take dQ++(vs++us.drop dQ)):=by obtain⟨bF,b3⟩:=jw.take dQ aA;exact gm.bv bF.args (gm.bv hp b3.args)
def al8{p:au}{c:il}{x:Value}(h:(Cd p).aX g B=some (c,B'))(hm:Mem K w0 phx M B w)(ah:a? phx (view w M) B p x):
  ∃ay,Mem K w0 phx ay B' w/\cm phx M B w phx ay B' w/\uQ phx (view w ay) B' c x:=by
 cases p<;>try(cases h;done)
 case ptr id p=>cases h;exact⟨M,hm,cm.refl _ _ _ _,ah⟩
 case sc t y=>cases h;exact⟨M,hm,cm.refl _ _ _ _,ah⟩
 case kb b =>cases h;subst ah;exact⟨M,hm,cm.refl _ _ _ _,a?.ub phx _ B b⟩
 case agg t u =>obtain⟨y,cR,O,R⟩:=aw.cy h;cases R;obtain⟨cs,rfl,ay,bD,e1,_,_,f2⟩:=yk O hm ah;exact⟨ay,bD,e1,cs,f2 rfl,rfl⟩
 case clo f dQ cV=>
  cases cV with
  |nil =>cases h;obtain⟨vs,aC,rfl⟩:=ah;subst aC;exact⟨M,hm,cm.refl _ _ _ _,[_],aH.F2.2 rfl,by simp[ct,ae.isAgg,sf]⟩
  |cons c r=>cases h
def YT:∀{aZ:List au} {cs:List il} {vs:List Value} {M:Nat->Prop} {B B':Nat->aQ},(lO Cd aZ).aX g B=some (cs,B')->Mem K w0 phx M B w->gm phx (view w M) B aZ vs ->
  ∃ay,Mem K w0 phx ay B' w/\cm phx M B w phx ay B' w/\jw phx (view w ay) B' cs vs
 |[],cs,[],M,B,B',h,hm,_=>by cases h;exact⟨M,hm,cm.refl _ _ _ _,rfl⟩
 |p::aZ,cs,v::vs,M,B,B',h,hm,hp=>by replace h:=aw.cy h;obtain⟨c,cR,O,h⟩:=h;replace h:=aw.cy h;obtain⟨jh,b4,R,h⟩:=h;cases h;obtain⟨ft,bD,e1,eG⟩:=al8 O hm hp.1;obtain⟨c7,cn,aN,gt⟩:=YT R bD (hp.2.ext e1);exact⟨c7,cn,e1.trans aN,v,vs,rfl,eG.mono aN.pl aN.vw aN.bl,gt⟩
def gm.length:∀{aZ:List au} {vs:List Value},gm phx H B aZ vs->aZ.length=vs.length
 |[],[],_=>rfl
 |_::_,_::_,h=>by simp[gm.length h.2]
 |[],_::_,h=>h.elim
 |_::_,[],h=>h.elim
def Yq{E:da}(dA:oq P E K w0){d:Nat}:∀{l:List Nat} {x:Nat} {aZ:List au} {vs:List Value} {v:au},(Kq E d l x aZ).aX g B=some (v,B')->Mem K w0 phx M B w->gm phx (view w M) B aZ vs ->
  ∃f,sf l x=.func (.func f) #[] #[]/\rU P f/\Calls P f vs.toArray w λe w'=>∃b2,e=.returned b2/\dq K w0 phx M B w B' v b2 w'
 |[],x,aZ,vs,v,h,hm,dc=>by cases h
 |[f],x,aZ,vs,v,h,hm,dc=>by replace h:=iK h;obtain⟨hx,h⟩:=h;have hx:x=1:=fB hx;subst hx;exact⟨f,rfl,Qa dA h hm dc⟩
 |f::u4::r,x,aZ,vs,v,h,hm,dc=>by
  simp only[Kq,aw.aX]at h;cases hx:bZ x 1 with
  |true =>rw[hx,if_pos rfl]at h;have hx:x=1:=fB hx;subst hx;exact⟨f,rfl,Qa dA h hm dc⟩
  |false=>
   rw[hx,if_neg bh]at h;obtain⟨q,O,R⟩:=Yq dA h hm dc;refine⟨q,?_,R⟩;match x,hx,O with
   |0,_,O=>simp[cd,sf]at O
   |1,hx,_=>simp[bZ]at hx
   |n+2,_,O=>simpa[cd,sf]using O
def Zc{t e:ae}(h:QR t=some e):t=.sl e:=by
 cases t<;>try(cases h;done)
 exact congrArg ae.sl (lZ h)
def dZ.axP{v:au}{x:Value}(h:dZ phx H B v x)(aL:∀a,v ≠ .tup a):a? phx H B v x:=by cases v<;>first|exact h|exact absurd rfl (aL _)
def gL{x:Operand}{f:au->aw α}{r:α×(Nat->aQ)}(h:((ea x).bind f).aX g B=some r){a:Act}(ac:dw phx H B g a):∃v,a? phx H B v (a.eval x)/\(f v).aX g B=some r:=by
 obtain⟨v,cR,O,R⟩:=aw.cy h;obtain⟨e,aC⟩:=xN O ac
 grind
def lj{o:Option β}{f:β->aw α}{r:α×(Nat->aQ)}(h:((aw.opt o).bind f).aX g B=some r):∃v,o=some v/\(f v).aX g B=some r:=by
 obtain⟨v,cR,O,R⟩:=aw.cy h;obtain⟨aC,e⟩:=dE O
 grind
def JZ{p:au}{f:Int->aw α}{r:α×(Nat->aQ)}(h:((y2 p).bind f).aX g B=some r){x:Value}(ah:a? phx H B p x):∃n k,x=.int k n/\(f n).aX g B=some r:=by
 obtain⟨v,cR,O,R⟩:=aw.cy h;obtain⟨e,k,aC⟩:=aiR O ah
 grind
def TP{o:Option Operand}{f:Option Int->aw α}{r:α×(Nat->aQ)}(h:((HR o).bind f).aX g B=some r){a:Act}(ac:dw phx H B g a):∃n k,o.map a.eval=(n.map λi=>.int k i)/\(f n).aX g B=some r:=by
 obtain⟨v,cR,O,R⟩:=aw.cy h;obtain⟨e,k,aC⟩:=at9 O ac
 grind
def ac5{b:Bool}{f:Unit->aw α}{r:α×(Nat->aQ)}(h:((aw.need b).bind f).aX g B=some r):b=true/\(f ()).aX g B=some r:=by
 obtain⟨v,cR,O,R⟩:=aw.cy h;obtain⟨aC,e⟩:=kD O
 grind
def ajJ{E:da}(hT:mV P E.b8){b:Builtin}{eg:Array TypeId}{aZ:List au}{vs:List Value}{v:au}(h:(PD E d b eg.toList aZ).aX g B=some (v,B'))(hm:Mem K w0 phx M B w)
  (dc:gm phx (view w M) B aZ vs) (ty:TypeId) (cs:Array Bool):∃r w',(Go.builtin b eg ty cs vs.toArray).run P w=.ok (.value r) w'/\dq K w0 phx M B w B' v r w':=by
 unfold PD at h;split at h
 ·
  split at h
  .rename_i t ts a tN
   obtain⟨fW,cR,O,R⟩:=aw.cy h;obtain⟨ht,rfl⟩:=dE O;match vs,dc with
   |[ck],dc=>
    have ao:eg[0]?=some t:=by rw[<- wB,tN];rfl
    obtain⟨aB,r,af,aq⟩:=asz (P:=P) (hT _ _ ht) R dc.1 ao ty;exact⟨r,w,by simp[Go.builtin,af],dq.same hm aB aq⟩
  cases h
 ·
  split at h
  .rename_i t ts tN
   replace h:=aw.cy h;obtain⟨fW,cR,O,h⟩:=h;obtain⟨ht,rfl⟩:=dE O;replace h:=gx h;obtain⟨qx,h⟩:=h;obtain⟨e,rfl⟩:=arU qx;cases h;match vs,dc with
   |[ck],dc=>
    have ao:eg[0]?=some t:=by rw[<- wB,tN];rfl
    have GW:=dc.1;subst GW;obtain⟨⟨bc,aL,_⟩,_⟩:=hT _ _ ht;refine⟨goInt 0,w,by simp[Go.builtin,Builtin.cap_,ao,run_underlying aL],dq.same hm rfl (a?.uc _ 0)⟩
  cases h
 ·
  split at h
  .rename_i t u s x tN
   split at h
   .rename_i e ht aL
    match vs,dc with
    |[vs,gU],dc=>
     have zx:=by apply m3;exact tN
     subst zx;split at h
     .rename_i n _
      replace h:=iK h;obtain⟨ai,h⟩:=h;simp only[cY,cL]at ai;obtain⟨dB,gi,rfl,rfl⟩:=vQ h;have GW:=dc.1;have ara:=dc.2.1.int;subst GW;subst ara;obtain⟨r,w',af,aq⟩:=aiM (ty:=ty) dB (hT _ _ ht) (hT _ _ aL).1 (n:=(n:Int)) (by have:=ai.1;simpa[bE]using this) ai.2 gi hm;have af:(Builtin.append_ #[t,u] ty #[.slice none 0 0,.int .i64 (bH.to .i64 n)]).run P w=.ok r w':=af;exact⟨r,w',by simp[Go.builtin,af],aq⟩
     cases h
   .rename_i e azV aL ht pI
    replace h:=gx h;obtain⟨a2,h⟩:=h;match vs,dc with
    |[vs,gU],dc=>
     have zx:=by apply m3;exact tN
     subst zx;obtain⟨r,w',af,aq⟩:∃r w',(Builtin.append_ #[t,u] ty #[vs,gU]).run P w=.ok r w'/\dq K w0 phx M B w B' v r w':=by
      cases dn:E.A with
      |true=>rw[dn]at h;exact aiK (ty:=ty) (hT _ _ ht) (hT _ _ pI) a2 h hm dc.1 dc.2.1
      |false=>rw[dn]at h;exact aiL (ty:=ty) (hT _ _ ht) (hT _ _ pI) a2 h hm dc.1 dc.2.1
     exact⟨r,w',by simp[Go.builtin,af],aq⟩
   cases h
  cases h
 ·
  split at h
  .rename_i t u a x tN
   split at h
   .rename_i e aN ht aL
    match vs,dc with
    |[ck,gU],dc=>
     have zx:=by apply m3;exact tN
     subst zx;obtain⟨r,w',af,aq⟩:=al3 (uid:=u) (ty:=ty) (hT _ _ ht) h hm dc.1 dc.2.1;exact⟨r,w',by simp[Go.builtin,af],aq⟩
   cases h
  cases h
 ·
  split at h
  .rename_i t a tN
   split at h
   .rename_i e ht
    match vs,dc with
    |[ck],dc=>
     have zx:=by apply m3;exact tN
     subst zx;obtain⟨r,w',af,aq⟩:=alR (ty:=ty) (hT _ _ ht) h hm dc.1;exact⟨r,w',by simp[Go.builtin,af],aq⟩
   cases h
  cases h
 ·
  split at h
  .rename_i a b
   cases h;match vs,dc with
   |[ck,s7],dc =>obtain⟨O,R,_⟩:=dc;have e1:=O.int;have aN:=R.int;subst e1;subst aN;refine⟨_,w,by rfl,dq.same hm rfl ?_⟩;exact a?.sH _ _ _ .i64 (fE a b)
  cases h
 ·
  split at h
  .rename_i a b
   cases h;match vs,dc with
   |[ck,s7],dc =>obtain⟨O,R,_⟩:=dc;have e1:=O.int;have aN:=R.int;subst e1;subst aN;refine⟨_,w,by rfl,dq.same hm rfl ?_⟩;exact a?.sH _ _ _ .i64 (cT a b)
  cases h
 cases h
def auW{v:au}{x:Value}(ah:a? phx H B v x){r:au}(h:(Mg v).aX g B=some (r,B')):B'=B/\r=v/\((∃a,x=.pointer (some a))\/∃f a b,x=.func (.func f) a b):=by
 cases v<;>try(cases h;done)
 case ptr id p=>
  simp only[Mg,aw.aX]at h;have ac:bM phx H B (.ptr id p) x:=ah;simp only[bM]at ac;generalize aB:B id=bl at h ac;cases bl<;>try(cases h;done)
  cases h
  grind
 case opt id i p=>
  simp only[Mg,aw.aX]at h;have ac:bM phx H B (.opt id i p) x:=ah;simp only[bM]at ac;generalize aB:B id=bl at h ac;cases bl<;>try(cases h;done)
  all_goals
   cases h
   grind
 case ipt e l i p =>cases h;obtain⟨hi,b,o,cap,off,t',O,R,rfl⟩:=ah;simp
 case clo f dQ cV =>cases h;obtain⟨vs,_,rfl⟩:=ah;simp
def atA{a:Act}{y:Operand}(h:Mr y=true):∀k n,a.eval y=.int k n->n≠0:=by
 unfold Mr at h;split at h
 .intro k n aj;obtain⟨_,rfl⟩:=aj;simp;omega
 .intro k n aj;obtain⟨_,rfl⟩:=aj;simp
 cases h
def atn{a:Act}{y:Operand}(h:Mk y=true):∀k n,a.eval y=.int k n->0<=n:=by
 unfold Mk at h;split at h
 .intro k n aj;obtain⟨_,rfl⟩:=aj;simp
 cases h
def amV{p:au}{v:au}(h:(FV p i).aX g B=some (v,B')){x:Value}(ah:a? phx H B p x):∀a,v ≠ .tup a:=by
 rintro a rfl;unfold FV at h;split at h
 .obtain⟨h,_⟩:=dE h
  obtain⟨vs,hl,rfl⟩:=ah;rename_i q;have key:∀(i:Nat) (q:au) (vs:List Value),iN q (gd i)=some (.tup a)->lD phx H B q vs->False:=by
   intro i;induction i with
   |zero=>
    intro q vs h hl;cases q<;>simp only[gd,iN]at h<;>try(cases h;done)
    .rename_i t y
     cases t<;>(try simp only[iN]at h)<;>cases h
    obtain⟨u,us,rfl,O,R⟩:=hl
    (try simp only[iN]at h);cases h
    exact O.elim
   |succ i ih=>
    intro q vs h hl;cases q<;>simp only[gd,iN]at h<;>try(cases h;done)
    .rename_i t y
     cases t<;>(try simp only[iN]at h)<;>try(cases h;done)
     exact hl.elim
    obtain⟨u,us,rfl,O,R⟩:=hl;exact ih _ _ h R
  exact key i _ vs h hl
 cases h
def gW(P:Program)(K:Kp)(w0:World)(phx:cc)(M:Nat->Prop)(B:Nat->aQ)(w:World)(B':Nat->aQ)(v:au)(s:Sem Next):Prop:=
 ∃r w',s.run P w=.ok (.value r) w'/\dq K w0 phx M B w B' v r w'
def gW.of{s:Sem Value}{v:au}{r:Value}{w':World}(h:s.run P w=.ok r w')(bu:dq K w0 phx M B w B' v r w'):gW P K w0 phx M B w B' v (do pure (.value (<- s))):=
 ⟨r,w',by simp[h],bu⟩
def gW.pure{v:au}{r:Value}(bu:dq K w0 phx M B w B' v r w):gW P K w0 phx M B w B' v (pure (.value r)):=⟨r,w,rfl,bu⟩
def Oh{c6:Option Nat}{f:Operand}{args:Array Operand}{eg:Array TypeId}{type:TypeId}{i9:String}{after:Array Edge}{CE:Option (Nat×Bool)}{a:Act}{zj:Nat}{first cap:Array Value}
  (hf:a.eval f=.func (.func zj) first cap) (vi:rU P zj) {Kn:Act->World->Prop} {Q:Exit->Act->World->Prop}
  (h:Calls P zj (first++args.map a.eval++cap) w λe w'=>∃b2,e=.returned b2/\Kn (a.put c6 b2) w'):Oper.wp P ⟨c6,.call ⟨.value f,args,eg⟩,type,i9,after,CE⟩ a w Kn Q:=by
 obtain⟨fn,c1,c2,hw⟩:=vi;have tO:¬fn.body=none:=by intro Y;rw[Y]at c2;cases c2
 have Fm : ¬ fn.name = "runtime.NumGoroutine" := by simpa using hw
 have jR:(execOp a.eval ⟨c6,.call ⟨.value f,args,eg⟩,type,i9,after,CE⟩).run P w=.ok (.enter zj (first++args.map a.eval++cap)) w:=by simp only[execOp,resolve];simp[hf,Deferred.ofValue,invoke,callFunc,c1,Fm,tO]
 unfold Oper.wp;rw[jR,Oper.upon_enter];refine h.mono ?_;rintro e w' ⟨b2,rfl,ap⟩;exact ap
def an0{E:da}(dA:oq P E K w0){x:Operand}{f:au->aw α}{r:α×(Nat->aQ)}(h:((Rr E x).bind f).aX g B=some r)(hm:Mem K w0 phx M B w){a:Act}(ac:dw phx (view w M) B g a):
  ∃v,a? phx (view w M) B v (a.eval x)/\(f v).aX g B=some r:=by
 cases x with
 |global i=>
  simp only[Rr]at h;cases ap:E.K with
  |none=>rw[ap]at h;cases h
  |some k=>
   rw[ap]at h;simp only at h;cases Y:Nat.beq k i with
   |false=>rw[Y]at h;cases h
   |true =>rw[Y]at h;have:=fB Y;subst this;refine⟨_,?_,h⟩;have cv:=(dA.gk (.inr (.inr ⟨_,ap⟩))).keys hm k (dA.kn k ap);show bM phx (view w M) B (.ipt (.ar 64 (.int .u32)) [(pK:List (bH .u32))] 0 []) (.pointer (some ⟨k,0,none⟩));simp only[bM];exact⟨Nat.zero_lt_one,k,0,1,0,_,cv,rfl,bh⟩
 |tmp t=>exact gL h ac
 |const v=>exact gL h ac
 |func u4=>exact gL h ac
def atk{op:BinOp}{y:Operand}(h:HD op y=true):op=.eql/\y=.const .nilIface:=by
 unfold HD at h
 grind
def awr{tid:TypeId}{vM:Array (String×TypeId)}(aL:P.underlying tid=some (.interface vM))(t:Nat)(v:Value)(w:World):(Op.equal tid (.iface t v) .nilIface).run P w=.ok false w:=by show(Op.equalIn (9999+1) tid _ _).run P w=_;rw[Op.equalIn];simp only[Sem.run_bind,run_underlying aL];rfl
def awt{tid:TypeId}{vM:Array (String×TypeId)}(aL:P.underlying tid=some (.interface vM))(w:World):(Op.equal tid .nilIface .nilIface).run P w=.ok true w:=by show(Op.equalIn (9999+1) tid _ _).run P w=_;rw[Op.equalIn];simp only[Sem.run_bind,run_underlying aL];rfl
def arH{tid:TypeId}{t:ae}(ht:(cO P t).1 tid){a r:au}{ck:Value}(h:(LN t a).aX g B=some (r,B'))(dP:a? phx H B a ck)(x:Operand)(w:World):
  B'=B/\∃v,(do eqGuard .eql tid x (.const .nilIface) ck .nilIface;binOp .eql tid ck .nilIface:Sem Value).run P w=.ok v w/\a? phx H B r v:=by
 unfold LN at h;cases gH:ae.is t (.op 1) with
 |false=>rw[gH]at h;cases h
 |true=>
  have:=eD gH;subst this;obtain⟨vM,aL⟩:=ht.1;split at h
  .cases h
   obtain⟨cs,_,rfl⟩:=dP;have hg:∀v:Value,∀t,(eqGuard .eql tid x (.const .nilIface) (.iface t v) .nilIface).run P w=.ok () w:=λ_ _=>rfl;exact⟨rfl,.bool false,by simp[hg,binOp,awr aL],rfl⟩
  .cases h
   obtain⟨cs,ai,rfl⟩:=dP;subst ai;have hg:(eqGuard .eql tid x (.const .nilIface) .nilIface .nilIface).run P w=.ok () w:=by cases x<;>rfl
   exact⟨rfl,.bool true,by simp[hg,binOp,ct,ae.isAgg,Aj,awt aL],rfl⟩
  cases h
def TO{E:da}(hT:mV P E.b8)(cv:pr P E.b8 E.C)(g3:qB P E.M)(dA:oq P E K w0){o:Oper}{a:Act}{v:au}(h:(rv E o).aX g B=some (v,B'))(hm:Mem K w0 phx M B w)(ac:dw phx (view w M) B g a)
  {Kn:Act->World->Prop} {Q:Exit->Act->World->Prop} (ap:∀r w',dq K w0 phx M B w B' v r w'->Kn (a.put o.dst r) w'):o.wp P a w Kn Q:=by
 have gR:gW P K w0 phx M B w B' v (execOp a.eval o)->o.wp P a w Kn Q:=λ⟨r,w',O,R⟩=>ayB O (ap r w' R);obtain⟨c6,op,type,i9,after,CE⟩:=o;cases op<;>try(cases h)
 case move x =>obtain⟨aB,aC⟩:=xN h ac;exact gR (gW.pure (dq.same hm aB aC))
 case assign x =>obtain⟨aB,aC⟩:=xN h ac;exact gR (gW.pure (dq.same hm aB aC))
 case pick c x y =>replace h:=gL h ac;obtain⟨auz,ai,h⟩:=h;replace h:=gL h ac;obtain⟨iF,hx,h⟩:=h;replace h:=gL h ac;obtain⟨aeu,hy,h⟩:=h;obtain⟨aB,cX,aq,a8⟩:=auG (P:=P) h ai hx hy w;exact gR ⟨cX,w,aq,dq.same hm aB a8⟩
 case alloc t =>replace h:=lj h;obtain⟨ty,ht,h⟩:=h;replace h:=Cw h;obtain⟨hid,h⟩:=h;cases h;obtain⟨r,w',O,R⟩:=aiE (hT _ _ ht) hid hm;exact gR (gW.of O R)
 case box t x =>replace h:=lj h;obtain⟨ty,ht,h⟩:=h;replace h:=gL h ac;obtain⟨iF,hx,h⟩:=h;obtain⟨_,cR,O,R⟩:=aw.cy h;obtain⟨e,cu,lL,sp⟩:=K3 O hx;rw[e]at R;obtain⟨hid,R⟩:=Cw R;cases R;obtain⟨r,w',O,R⟩:=Xb (hT _ _ ht) hid hm lL sp;exact gR (gW.of O R)
 case build t parts=>
  replace h:=lj h;obtain⟨ty,ht,h⟩:=h;obtain⟨aZ,cR,O,R⟩:=aw.cy h;obtain⟨e,dc⟩:=T0 ac O;rw[e]at R;have CU:pj phx (view w M) B aZ (parts.map λ(i,x)=>(i,a.eval x)).toList:=by simpa using dc
  cases ty<;>try(cases R)
  case ar n e =>obtain⟨r,af,aq⟩:=ajI (hT _ _ ht) R hm CU;exact gR (gW.of af aq)
  case unit =>obtain⟨aB,r,af,aq⟩:=Xi rfl (hT _ _ ht) R CU w;exact gR (gW.of af (dq.same hm aB aq))
  case pair x y =>obtain⟨aB,r,af,aq⟩:=Xi rfl (hT _ _ ht) R CU w;exact gR (gW.of af (dq.same hm aB aq))
 case buildSlice t n parts=>
  replace h:=lj h;obtain⟨ty,ht,h⟩:=h;replace h:=lj h;obtain⟨e,aA,h⟩:=h;have:=Zc aA;subst this;obtain⟨aZ,cR,O,R⟩:=aw.cy h;obtain⟨QO,dc⟩:=T0 ac O;rw[QO]at R;have CU:pj phx (view w M) B aZ (parts.map λ(i,x)=>(i,a.eval x)).toList:=by simpa using dc
  cases sv:ae.is e (.op 3) with
  |true =>rw[sv,cond_true]at R;have:=eD sv;subst this;obtain⟨r,w',af,aq⟩:=auX (hT _ _ ht) R hm CU;exact gR (gW.of af aq)
  |false =>rw[sv,cond_false]at R;obtain⟨r,w',af,aq⟩:=ajH (hT _ _ ht) R hm CU;exact gR (gW.of af aq)
 case load t x =>replace h:=lj h;obtain⟨ty,ht,h⟩:=h;replace h:=gL h ac;obtain⟨iF,hx,h⟩:=h;obtain⟨aB,r,af,aq⟩:=acA (hT _ _ ht) h hm hx;exact gR (gW.of af (dq.same hm aB aq))
 case store t x y =>replace h:=lj h;obtain⟨ty,ht,h⟩:=h;replace h:=gL h ac;obtain⟨iF,hx,h⟩:=h;replace h:=gL h ac;obtain⟨aeu,hy,h⟩:=h;obtain⟨rfl,w',ay,af,aq,a8⟩:=axw (hT _ _ ht) h hm hx hy;exact V5 (w':=w') (by simp[execOp,af]) (ap _ _ ⟨phx,ay,aq,a8,rfl⟩)
 case nilCheck x=>
  replace h:=gL h ac;obtain⟨iF,hx,h⟩:=h;obtain⟨aB,rfl,aA⟩:=auW hx h;refine gR ⟨a.eval x,w,?_,dq.same hm aB hx⟩;rcases aA with⟨ad,aA⟩|⟨f,cG,eT,aA⟩
  .simp only[execOp,aA];rfl
  simp only[execOp,aA];rfl
 case binOp op t x y yt=>
  change (bif HD op y then(aw.opt (E.b8 t)).bind λty=>(ea x).bind λa=>LN ty a else(ea x).bind λa=>(ea y).bind λb=>J8 E (Mr y) (Mk y) op t a b:aw au).aX g B=_ at h;cases Sj:HD op y with
  |true =>obtain⟨rfl,rfl⟩:=atk Sj;rw[Sj,cond_true]at h;replace h:=lj h;obtain⟨ty,ht,h⟩:=h;replace h:=gL h ac;obtain⟨iF,hx,h⟩:=h;obtain⟨aB,r,af,aq⟩:=arH (hT _ _ ht) h hx x w;exact gR (gW.of af (dq.same hm aB aq))
  |false=>
  rw[Sj,cond_false]at h;replace h:=gL h ac;obtain⟨iF,hx,h⟩:=h;replace h:=gL h ac;obtain⟨aeu,hy,h⟩:=h;obtain⟨aB,r,af,aq⟩:=ajm hT cv h hx hy (λbj=>atA bj) (λbj=>atn bj) x y w;exact gR (gW.of af (dq.same hm aB aq))
 case unOp op t x =>replace h:=gL h ac;obtain⟨iF,hx,h⟩:=h;obtain⟨aB,r,af,aq⟩:=ax4 (P:=P) h hx w;exact gR (gW.of af (dq.same hm aB aq))
 case convert s t x=>
  replace h:=gL h ac;obtain⟨iF,hx,h⟩:=h;unfold YL at h;replace h:=lj h;obtain⟨ts,aq2,h⟩:=h;replace h:=lj h;obtain⟨axW,aq3,h⟩:=h;have e_:=hT _ _ aq2;have dV:=hT _ _ aq3;cases axW<;>try(cases h;done)
  case int k=>
   cases iF<;>try(cases h;done)
   rename_i h5 pl;cases h5<;>try(cases h;done)
   rename_i k';cases h;have e:=hx.int;obtain⟨d,aF⟩:=ank e_;have ah:=awp (P:=P) (k:=k) (k':=k') aF dV.1 (bH.to k' pl) w;rw[<- e]at ah;refine gR (gW.of ah (dq.same hm rfl ?_));have:=a?.sH phx (view w M) B k (bH.of k (bH.to k' pl))
   rwa [bH.NS]at this
  case str=>
   cases ts<;>try(cases h;done)
   case str=>
    cases iF<;>try(cases h;done)
    rename_i h5 pl;cases h5<;>try(cases h;done)
    cases h;have e:=hx.str;refine gR (gW.of (r:=a.eval x) (w':=w) ?_ (dq.same hm rfl hx));rw[e];simp[convert,run_underlying e_.1,run_underlying dV.1]
   case sl e=>
    replace h:=gx h;obtain⟨Y,h⟩:=h;have aA:=by
     unfold zZ at Y;split at Y
     .rename_i qr;exact(ae.sl.inj qr)
     cases Y
    subst aA;obtain⟨l,cR,O,R⟩:=aw.cy h;cases R;obtain⟨aB,ah⟩:=al0 (l:=l) e_ dV.1 O hm hx;exact gR (gW.of ah (dq.same hm aB (a?.Tk _ _ _ l)))
  case sl e=>
   cases ts<;>try(cases h;done)
   case sl bC=>
    cases iF<;>try(cases h;done)
    rename_i id d';cases d'<;>try(cases h;done)
    replace h:=gx h;obtain⟨Y,h⟩:=h;simp only[cL]at Y;have aA:=by
     have:=Y.1;unfold zZ at this;split at this
     .rename_i qr;exact(ae.sl.inj qr)
     cases this
    subst aA;have eL:=fB Y.2.2;subst eL;simp only[aw.aX]at h;generalize aB:B id=bl at h;cases bl<;>try(cases h;done)
    cases h;obtain⟨r,w',af,aq⟩:=al1 (P:=P) dV aB hm hx;exact gR (gW.of af aq)
   cases iF<;>try(cases h;done)
   rename_i h5 pl;cases h5<;>try(cases h;done)
   replace h:=gx h;obtain⟨Y,h⟩:=h;have aA:=by
    unfold zZ at Y;split at Y
    .rename_i qr;exact(ae.sl.inj qr)
    cases Y
   subst aA;replace h:=iK h;obtain⟨fV,h⟩:=h;obtain⟨_,gi,rfl,rfl⟩:=vQ h;have e:=hx.str;have cq:(pl:List UInt8).length*1<=140737488355328:=of_decide_eq_true fV;obtain⟨r,w',af,aq⟩:=al2 (P:=P) (l:=pl) e_.1 dV gi J hm;rw[<- e]at af;exact gR (gW.of af aq)
 case makeSlice t l c =>replace h:=lj h;obtain⟨ty,ht,h⟩:=h;replace h:=lj h;obtain⟨e,aA,h⟩:=h;have:=Zc aA;subst this;replace h:=gL h ac;obtain⟨pl,hl,h⟩:=h;replace h:=JZ h hl;obtain⟨azI,kl,el,h⟩:=h;replace h:=gL h ac;obtain⟨auz,ai,h⟩:=h;replace h:=JZ h ai;obtain⟨azG,kc,ams,h⟩:=h;obtain⟨r,w',af,aq⟩:=asP (kl:=kl) (kc:=kc) (hT _ _ ht) hm h;rw[<- el,<- ams]at af;exact gR (gW.of af aq)
 case slice t x lo hi qD=>
  replace h:=lj h;obtain⟨ty,ht,h⟩:=h;replace h:=gL h ac;obtain⟨iF,hx,h⟩:=h;replace h:=TP h ac;obtain⟨atm,C_,amz,h⟩:=h;replace h:=TP h ac;obtain⟨ati,C9,amx,h⟩:=h;replace h:=TP h ac;obtain⟨adb,S1,amA,h⟩:=h;have key:∀{s:Sem Value},(∃r w',s.run P w=.ok r w'/\dq K w0 phx M B w B' v r w')->s=Instr.sliceAt t (a.eval x) (atm.map λi=>.int C_ i) (ati.map λi=>.int C9 i) (adb.map λi=>.int S1 i) ->
    Oper.wp P ⟨c6,.slice t x lo hi qD,type,i9,after,CE⟩ a w Kn Q:=by
   rintro s ⟨r,w',O,R⟩ rfl;refine gR ⟨r,w',?_,R⟩;simp only[execOp,amz,amx,amA];simp[O]
  cases dn:E.A with
  |true=>
   rw[dn,cond_true]at h;cases ty<;>try(cases h;done)
   obtain⟨aB,r,af,aq⟩:=axc (P:=P) (hT _ _ ht) h hm hx C_ C9 S1;exact key ⟨r,w,af,dq.same hm aB aq⟩ rfl
  |false=>
  rw[dn,cond_false]at h;cases adb with
  |some m =>obtain⟨aB,r,af,aq⟩:=axb (P:=P) (hT _ _ ht) h hx C_ C9 S1;exact key ⟨r,w,af,dq.same hm aB aq⟩ rfl
  |none=>
   cases ty<;>try(cases h;done)
   case str=>
    cases iF<;>try(cases h;done)
    rename_i h5 pl;cases h5<;>try(cases h;done)
    have e:=hx.str;obtain⟨aB,r,af,aq⟩:=axe (P:=P) h (hT _ _ ht).1 C_ C9 (phx:=phx) (H:=view w M) w;exact key ⟨r,w,by rw[<- e]at af;exact af,dq.same hm aB aq⟩ rfl
   case sl e =>obtain⟨aB,r,af,aq⟩:=US (P:=P) (hT _ _ ht) h hm hx C_ C9;exact key ⟨r,w,af,dq.same hm aB aq⟩ rfl
   case ar n e =>obtain⟨aB,r,af,aq⟩:=axd (P:=P) (hT _ _ ht) h hm hx C_ C9;exact key ⟨r,w,af,dq.same hm aB aq⟩ rfl
 case fieldAddr s x f =>replace h:=gL h ac;obtain⟨iF,hx,h⟩:=h;obtain⟨aB,r,af,aq⟩:=am3 (P:=P) (λt ht=>hT _ _ ht) h hx;exact gR (gW.of af (dq.same hm aB aq))
 case field t x f =>replace h:=gL h ac;obtain⟨iF,hx,h⟩:=h;obtain⟨aB,r,af,aq⟩:=am8 (P:=P) hT h hx;exact gR (gW.of af (dq.same hm aB aq))
 case indexAddr t x i =>replace h:=lj h;obtain⟨ty,ht,h⟩:=h;replace h:=an0 dA h hm ac;obtain⟨iF,hx,h⟩:=h;replace h:=gL h ac;obtain⟨auC,hi,h⟩:=h;replace h:=JZ h hi;obtain⟨n,k,KI,h⟩:=h;obtain⟨aB,r,af,aq⟩:=arJ (P:=P) (k:=k) (hT _ _ ht) h hx;rw[<- KI]at af;exact gR (gW.of af (dq.same hm aB aq))
 case index t x i=>
  replace h:=lj h;obtain⟨ty,ht,h⟩:=h;replace h:=gL h ac;obtain⟨iF,hx,h⟩:=h;replace h:=gL h ac;obtain⟨auC,hi,h⟩:=h;replace h:=JZ h hi;obtain⟨n,k,KI,h⟩:=h;cases ty with
  |str=>
   have a2:∃l,iF=.sc .str l:=by
    cases iF<;>try(cases h;done)
    rename_i h5 pl;cases h5<;>first|exact⟨_,rfl⟩|cases h
   obtain⟨l,rfl⟩:=a2;have e:=hx.str;obtain⟨aB,r,af,aq⟩:=arL (P:=P) h (hT _ _ ht).1 k (phx:=phx) (H:=view w M) w;rw[<- KI,<- e]at af;exact gR (gW.of af (dq.same hm aB aq))
  |ar m e =>obtain⟨aB,r,af,aq⟩:=arK (P:=P) (hT _ _ ht) h hx k;rw[<- KI]at af;exact gR (gW.of af (dq.same hm aB aq))
  |_=>
   cases iF<;>try(cases h;done)
   rename_i h5 pl;cases h5<;>cases h
 case range t x=>
  replace h:=lj h;obtain⟨ty,ht,h⟩:=h;replace h:=ac5 h;obtain⟨hi,h⟩:=h;have:=eD hi;subst this;replace h:=gL h ac;obtain⟨iF,hx,h⟩:=h;cases iF<;>try(cases h;done)
  rename_i h5 pl;cases h5<;>try(cases h;done)
  replace h:=Cw h;obtain⟨hid,h⟩:=h;cases h;have e:=hx.str;obtain⟨r,w',af,aq⟩:=avm (P:=P) (hT _ _ ht).1 hid (l:=pl) hm;rw[<- e]at af;exact gR (gW.of af aq)
 case next x b=>
  cases b<;>try(cases h;done)
  replace h:=gL h ac;obtain⟨iF,hx,h⟩:=h;obtain⟨r,w',af,aq⟩:=ath (P:=P) h hm hx type;exact gR (gW.of af aq)
 case extract x i =>replace h:=gL h ac;obtain⟨iF,hx,h⟩:=h;obtain⟨aB,r,af,aq⟩:=amU (P:=P) h hx w;refine gR (gW.of af (dq.same hm aB ?_));exact aq.axP (amV h hx)
 case makeFunc fn first cap=>
  cases fn<;>try(cases h;done)
  rename_i f;replace h:=aw.cy h;obtain⟨pa,cR,O,h⟩:=h;obtain⟨e1,abA⟩:=xF ac O;rw[e1]at h;replace h:=aw.cy h;obtain⟨HW,b4,R,h⟩:=h;obtain⟨aN,aqB⟩:=xF ac R;rw[aN]at h;replace h:=aw.cy h;obtain⟨cV,uH,af,h⟩:=h;cases h;obtain⟨ay,bD,V9,eG⟩:=YT af hm (gm.bv abA aqB);refine gR ⟨.func (.func f) (first.map a.eval) (cap.map a.eval),w,by simp[execOp,Instr.makeFunc],phx,ay,bD,V9,_,eG,?_⟩;have cq:=abA.length;rw[cq,wz,EZ];congr 1<;>(apply m3;simp)
 case makeMap t r=>
  cases r<;>try(cases h;done)
  replace h:=lj h;obtain⟨p,hp,h⟩:=h;replace h:=Cw h;obtain⟨hid,h⟩:=h;cases h;obtain⟨r,w',O,R⟩:=asO (P:=P) (t:=t) hid p.1 p.2 hm;exact gR (gW.of O R)
 case insert t m k x =>replace h:=lj h;obtain⟨p,hp,h⟩:=h;replace h:=gL h ac;obtain⟨auK,GP,h⟩:=h;replace h:=gL h ac;obtain⟨AD,rh,h⟩:=h;replace h:=gL h ac;obtain⟨iF,mb,h⟩:=h;obtain⟨vG,N5,aL,xl,oM⟩:=g3 _ _ hp;obtain⟨rfl,w',ay,af,aq,a8⟩:=ace (P:=P) h aL xl hm GP rh mb;exact V5 (w':=w') (by simp[execOp,af]) (ap _ _ ⟨phx,ay,aq,a8,rfl⟩)
 case mapUpdate t m k x =>replace h:=lj h;obtain⟨p,hp,h⟩:=h;replace h:=gL h ac;obtain⟨auK,GP,h⟩:=h;replace h:=gL h ac;obtain⟨AD,rh,h⟩:=h;replace h:=gL h ac;obtain⟨iF,mb,h⟩:=h;obtain⟨vG,N5,aL,xl,oM⟩:=g3 _ _ hp;obtain⟨rfl,w',ay,af,aq,a8⟩:=ace (P:=P) h aL xl hm GP rh mb;exact V5 (w':=w') (by simp[execOp,af]) (ap _ _ ⟨phx,ay,aq,a8,rfl⟩)
 case lookup t x i ok =>replace h:=gL h ac;obtain⟨iF,mb,h⟩:=h;replace h:=gL h ac;obtain⟨AD,rh,h⟩:=h;obtain⟨aB,r,af,aq⟩:=asE (P:=P) g3 h hm mb rh;exact gR (gW.of af (dq.same hm aB aq))
 case makeInterface t x =>replace h:=lj h;obtain⟨ty,ht,h⟩:=h;replace h:=ac5 h;obtain⟨aj,h⟩:=h;replace h:=gL h ac;obtain⟨iF,mb,h⟩:=h;replace h:=aw.cy h;obtain⟨y,cR,O,h⟩:=h;cases h;obtain⟨cs,aC,ay,bD,V9,_,_,f2⟩:=yk O hm mb;refine gR ⟨.iface t (a.eval x),w,?_,phx,ay,bD,V9,cs,f2 rfl,by rw[aC]⟩;have:=asN (P:=P) (hT _ _ ht) (by simpa using aj) (a.eval x) w;simp only[execOp];simp[this]
 case typeAssert x xT tp ok =>replace h:=gL h ac;obtain⟨iF,mb,h⟩:=h;obtain⟨aB,r,af,aq⟩:=aiX (P:=P) hT (xT:=xT) h mb w;exact gR (gW.of af (dq.same hm aB aq))
 case call c=>
  obtain⟨Qb,args,eg⟩:=c;cases Qb<;>try(cases h;done)
  case builtin b=>
   obtain⟨aZ,cR,O,R⟩:=aw.cy h;obtain⟨e,dc⟩:=xF ac O;rw[e]at R;have bu:(args.toList.map a.eval).toArray=args.map a.eval:=by apply m3;simp
   have key:∀cs,gW P K w0 phx M B w B' v (Go.builtin b eg type cs (args.map a.eval)):=λcs=>by obtain⟨r,w',af,aq⟩:=ajJ (P:=P) hT R hm dc type cs;rw[bu]at af;exact⟨r,w',af,aq⟩
   exact gR (key _)
  case value f=>
   replace h:=gL h ac;obtain⟨auA,hf,h⟩:=h;obtain⟨aZ,cR,O,R⟩:=aw.cy h;obtain⟨e,dc⟩:=xF ac O;rw[e]at R;have bu:(args.toList.map a.eval).toArray=args.map a.eval:=by apply m3;simp
   cases auA<;>try(cases R;done)
   case clo zj dQ cV=>
    obtain⟨us,aA,hf⟩:=hf;obtain⟨vi,CM⟩:=Qa (P:=P) dA R hm (Qn aA dc);refine Oh hf vi ?_;have iO:(us.take dQ++(args.toList.map a.eval++us.drop dQ)).toArray=(us.take dQ).toArray++args.map a.eval++(us.drop dQ).toArray:=by rw[<- bu];simp
    rw[<- iO];refine CM.mono ?_;rintro e w' ⟨b2,rfl,bu⟩;exact⟨b2,rfl,ap b2 w' bu⟩
   case sc t x=>
    cases t<;>try(cases R;done)
    obtain⟨cs,lK,hf⟩:=hf;have:=aH.F2.1 lK;subst this;obtain⟨zj,hfn,vi,CM⟩:=Yq (P:=P) dA R hm dc;have hf:a.eval f=.func (.func zj) #[] #[]:=by rw[hf];simp[ct,ae.isAgg,hfn]
    refine Oh hf vi ?_;have iO:(args.toList.map a.eval).toArray=#[]++args.map a.eval ++ #[]:=by rw[bu];simp
    rw[<- iO];refine CM.mono ?_;rintro e w' ⟨b2,rfl,bu⟩;exact⟨b2,rfl,ap b2 w' bu⟩
end
end Yp
namespace Yp
open Go
def gv:=@List.append_assoc
def gE:=@List.mem_cons
def wF:=@List.mem_cons_of_mem
def o9(g:Nat->au)(i:Nat)(v:au):Nat->au:=λj=>if j=i then v else g j
def dH.vb(f i:Nat):dH.lH f .e i=.bad:=by cases f<;>rfl
def kp(h:a=b):Nat.beq a b=true:=by subst h;exact BM a
def hv(h:a≠b):Nat.beq a b=false:=by
 cases Y:Nat.beq a b with
 |false=>rfl
 |true=>exact absurd (fB Y) h
def dH.F8:∀(f:Nat) (t:dH) (i j:Nat) (v:au),j≠i->(t.set f i v).lH f j=t.lH f j
 |0,t,i,j,v,h=>rfl
 |f+1,.e,i,j,v,h=>by
  simp only[dH.set];by_cases hi:i=0
  .rw[kp hi]
   simp only[cond,dH.lH];rw[hv (by omega:j≠0)];simp only[ dH.vb]
   grind
  rw[hv hi];by_cases hm:i%2=1
  .rw[kp hm]
   simp only[cond,dH.lH];by_cases an:j=0
   .rw[kp an]
   rw[hv an];by_cases ap:j%2=1
   .rw[kp ap];simp only[dH.F8 f .e (i/2) (j/2) v J,dH.vb]
   rw[hv ap];simp only[dH.vb]
  rw[hv hm];simp only[cond,dH.lH];by_cases an:j=0
  .rw[kp an]
  rw[hv an];by_cases ap:j%2=1
  .rw[kp ap];simp only[dH.vb]
  rw[hv ap];simp only[dH.F8 f .e (i/2-1) (j/2-1) v J,dH.vb]
 |f+1,.n w l r,i,j,v,h=>by
  simp only[dH.set];by_cases hi:i=0
  .rw[kp hi]
   simp only[cond,dH.lH];rw[hv (by omega:j≠0)]
  rw[hv hi];by_cases hm:i%2=1
  .rw[kp hm]
   simp only[cond,dH.lH];by_cases an:j=0
   .rw[kp an]
   rw[hv an];by_cases ap:j%2=1
   .simp only[dH.F8 f l (i/2) (j/2) v J]
   rw[hv ap]
  rw[hv hm];simp only[cond,dH.lH];by_cases an:j=0
  .rw[kp an]
  rw[hv an];by_cases ap:j%2=1
  .rw[kp ap]
  simp only[dH.F8 f r (i/2-1) (j/2-1) v J]
def dH.CA:∀(f:Nat) (t:dH) (i:Nat) (v:au),(t.set f i v).lH f i=v\/(t.set f i v).lH f i=.bad/\2^f<=i+1
 |0,t,i,v=>.inr ⟨rfl,bh⟩
 |f+1,.e,i,v=>by
  simp only[dH.set];by_cases hi:i=0
  .left;simp only[cond,dH.lH,kp hi]
  rw[hv hi];by_cases hm:i%2=1
  .rw[kp hm]
   simp only[cond,dH.lH,hv hi,kp hm];rcases dH.CA f .e (i/2) v with h|h
   .grind
   grind
  rw[hv hm];simp only[cond,dH.lH,hv hi,hv hm];rcases dH.CA f .e (i/2-1) v with h|h
  .grind
  grind
 |f+1,.n w l r,i,v=>by
  simp only[dH.set];by_cases hi:i=0
  .left;simp only[cond,dH.lH,kp hi]
  rw[hv hi];by_cases hm:i%2=1
  .rw[kp hm]
   simp only[cond,dH.lH,hv hi,kp hm];rcases dH.CA f l (i/2) v with h|h
   .grind
   grind
  rw[hv hm];simp only[cond,dH.lH,hv hi,hv hm];rcases dH.CA f r (i/2-1) v with h|h
  .grind
  grind
def aM.va(s:aM)(v:au)(h:j≠i):(s.lu i v).bX j=s.bX j:=dH.F8 40 s.t i j v h
def aM.F7(s:aM)(i:Nat)(v:au):(s.lu i v).bX i=v\/(s.lu i v).bX i=.bad:=(dH.CA 40 s.t i v).imp id (·.1)
def aM.anX(s:aM)(v:au)(hi:i<1000000):(s.lu i v).bX=o9 s.bX i v:=by
 funext j;unfold o9;split
 .rename_i h;subst h
  rcases dH.CA 40 s.t j v with h|h
  .exact h
  omega
 rename_i h;exact s.va v h
def acJ:∀(l:List (Nat×aQ)) (id:Nat) (b:aQ) (j:Nat),qA (AF l id b) j=if j=id then b else qA l j
 |[],id,b,j=>by
  simp only[AF,qA];by_cases h:j=id
  .rw[kp h.symm,if_pos h];rfl
  rw[hv (nI h),if_neg h];rfl
 |(i,c)::l,id,b,j=>by
  simp only[AF];by_cases hi:i=id
  .rw[kp hi]
   simp only[cond,qA];by_cases h:j=id
   .rw[kp h.symm,if_pos h]
   rw[hv (nI h),if_neg h,hv J]
  rw[hv hi];simp only[cond,qA];by_cases h:i=j
  .rw[kp h,if_neg J]
  rw[hv h];exact acJ l id b j
def aM.zn(s:aM)(id:Nat)(b:aQ):(s.nw id b).aR=cU s.aR id b:=by funext j;exact acJ s.h id b j
def aM.nd(s:aM):∀l:List (Nat×aQ),(s.ek l).aR=dx s.aR l
 |[]=>rfl
 |(i,b)::l=>by rw[xO,<- aM.nd s l];exact aM.zn _ i b
def aM.pX(s:aM):∀l:List (Nat×aQ),(s.ek l).bX=s.bX
 |[]=>rfl
 |(i,b)::l=>aM.pX s l
def aM.UI(s:aM):∀l:List (Nat×aQ),(s.ek l).w=l.map (·.1)++s.w
 |[]=>rfl
 |(i,b)::l=>by show i::(s.ek l).w=_;rw[aM.UI s l];rfl
def aP.fe{γ:Type}(t:aP α)(f:α->aP β)(k:β->aP γ):(t.bind f).bind k=t.bind λa=>(f a).bind k:=by
 induction t with
 |fail=>rfl
 |leaf a=>rfl
 |br c x y hx hy=>simp only[aP.bind,hx,hy]
 |chk c x hx=>simp only[aP.bind,hx]
 |bo d o g hg=>simp only[aP.bind,hg]
 |cs d e o kn g5 hb aj aA ah=>simp only[aP.bind,aj,aA,ah]
def aP.ue{β:Type}:Option β->aP β
 |some b=>.leaf b
 |none=>.fail
def aP.TH{o:Option β}{k:β->aP ρ}{r:ρ}(h:((aP.ue o).bind k).bI=some r):∃b,o=some b/\(k b).bI=some r:=by
 cases o with
 |none=>cases h
 |some b=>exact⟨b,rfl,h⟩
def aP.vT{α β:Type}(f:α->Option β):∀(t:aP α),(t.mR f)=t.bind λa=>aP.ue (f a)
 |.fail=>rfl
 |.leaf a=>by cases h:f a<;>simp only[aP.mR,aP.bind,aP.ue,h]
 |.br c x y=>by simp only[aP.mR,aP.bind,aP.vT f x,aP.vT f y]
 |.chk c x=>by simp only[aP.mR,aP.bind,aP.vT f x]
 |.bo d o k=>by simp only[aP.mR];congr;funext a;exact aP.vT f (k a)
 |.cs d e o kn g5 hb=>by
  simp only[aP.mR];congr
  .funext a;exact aP.vT f (kn a)
  .funext i a;exact aP.vT f (g5 i a)
  funext a;exact aP.vT f (hb a)
def kq{α:Type}:∀t:aP α,t.bind .leaf=t
 |.fail=>rfl
 |.leaf a=>rfl
 |.br c x y=>by simp only[aP.bind,kq x,kq y]
 |.chk c x=>by simp only[aP.bind,kq x]
 |.bo d o k=>by simp only[aP.bind];congr;funext a;exact kq (k a)
 |.cs d e o kn g5 hb=>by
  simp only[aP.bind];congr
  .funext a;exact kq (kn a)
  .funext i a;exact kq (g5 i a)
  funext a;exact kq (hb a)
def aP.amS{d:α}{o:Option α}{k:α->aP β}{r:β}(h:(aP.bo d o k).bI=some r):∃a,o=some a/\(k a).bI=some r:=by
 cases o with
 |none=>cases h
 |some a=>exact⟨a,rfl,h⟩
def tl(bp ax:aM):Prop:=(∀t,ax.bX t=bp.bX t\/ax.bX t=.bad\/∃ty x,ax.bX t=.sc ty x/\ie ty (bp.bX t)=some x)/\ax.aR=bp.aR
def tl.refl(s:aM):tl s s:=⟨λ_=>.inl rfl,rfl⟩
def tl.trans{bp ax d5:aM}(h:tl bp ax)(k:tl ax d5):tl bp d5:=by
 refine⟨λt => ?_,k.2.trans h.2⟩;rcases k.1 t with bF|bF|⟨ty,x,bF,b3⟩
 .rw[bF];exact h.1 t
 .grind
 rcases h.1 t with O|O|⟨ahf,wj,O,R⟩
 .grind
 .rw[O]at b3;cases b3
 rw[O]at b3;obtain⟨e,hx⟩:=u0 b3
 grind
def dw.N8{phx:cc}{H:cg}{bp ax:aM}{a:Act}(h:dw phx H bp.aR bp.bX a)(bb:tl bp ax):dw phx H ax.aR ax.bX a:=by
 intro t;rw[bb.2];rcases bb.1 t with k|k|⟨ty,x,bF,b3⟩
 .rw[k];exact h t
 .rw[k];trivial
 rw[bF];exact nA b3 (h t)
def dY(D:List Nat)(s cp:aM):Prop:=(∀t,t∉D->cp.bX t=s.bX t)/\∃fS,cp.w=fS++s.w/\∀id,id∉fS->cp.aR id=s.aR id
def dY.refl(D:List Nat)(s:aM):dY D s s:=⟨λ_ _=>rfl,[],rfl,λ_ _=>rfl⟩
def dY.trans{bp ax d5:aM}(h:dY D bp ax)(k:dY j1 ax d5):dY (D++j1) bp d5:=by
 obtain⟨O,fS,R,af⟩:=h;obtain⟨bF,aty,b3,dp⟩:=k;refine⟨λt ht => ?_,aty++fS,by rw[b3,R,gv],λid hid => ?_⟩
 .grind
 grind
def dY.mono{s cp:aM}(h:dY D s cp)(aF:∀t,t∈D->t∈j1):dY j1 s cp:=⟨λt ht=>h.1 t λai=>ht (aF t ai),h.2⟩
def dY.sub{E:List Nat}{bp ax d5:aM}(h:dY D bp ax)(k:dY j1 ax d5)(aF:∀t,t∈D->t∈E)(CN:∀t,t∈j1->t∈E):dY E bp d5:=
 (h.trans k).mono λt ht=>(io.1 ht).elim (aF t) (CN t)
def dY.lu{s:aM}(i:Nat)(v:au)(h:i∈D):dY D s (s.lu i v):=
 ⟨λt ht=>s.va v λe=>ht (e▸h),[],rfl,λ_ _=>rfl⟩
def dY.ek{s:aM}(l:List (Nat×aQ))(D:List Nat):dY D s (s.ek l):=by
 refine⟨λt _=>by rw[aM.pX],l.map (·.1),aM.UI s l,λid hid => ?_⟩;rw[aM.nd];have:∀(l:List (Nat×aQ)) (d:aQ),id∉l.map (·.1)->nr l id d=d:=by
  intro l d h;induction l with
  |nil=>rfl
  |cons p l ih=>
   simp only[pi,gE,not_or]at h;simp only[nr];rw[hv (nI h.1)]
   grind
 exact this l _ hid
def V1:∀(l:List Nat) (s:aM),∃cp:aM,cp.aR=s.aR/\cp.w=s.w/\(∀t,t∉l->cp.bX t=s.bX t)/\(∀t,t∈l->cp.bX t=.bad)/\(∀(γ:Type 1) (k:aM->γ),Ja s l k=k cp)
 |[],s=>⟨s,rfl,rfl,λ_ _=>rfl,λt h=>by simp at h,λ_ _=>rfl⟩
 |i::l,s=>by
  obtain⟨cp,O,R,af,aq,a8⟩:=V1 l (s.lu i .bad);refine⟨cp,O,R,λt ht => ?_,λt ht => ?_,λγ k => ?_⟩
  .simp at ht
   rw[af t ht.2,s.va _ ht.1]
  .by_cases hl:t∈l
   .grind
   have:=by simpa[hl]using ht
   subst this;rw[af t hl];rcases s.F7 t .bad with h|h<;>exact h
  simp only[Ja,aM.Im];exact a8 γ k
def YH(l:List aM):∀(keep:List Nat),∃ks:List (Nat×ae),(∀p∈ks,p.1∈keep)/\∀(γ:Type 1) (k:List (Nat×ae)->γ),wW l keep k=k ks
 |[]=>⟨[],λp h=>by simp at h,λ_ _=>rfl⟩
 |i::keep=>by
  obtain⟨ks,O,R⟩:=YH l keep;cases l with
  |nil=>exact⟨[],λp h=>by simp at h,λ_ _=>rfl⟩
  |cons s m=>
   cases ht:VJ (s.bX i) with
   |none=>exact⟨ks,λp hp=>wF _ (O p hp),λγ k=>by simp only[wW,ht];exact R γ k⟩
   |some t=>
    cases ai:m.all (afQ i t) with
    |true=>
     refine⟨(i,t)::ks,λp hp => ?_,λγ k => ?_⟩
     .grind
     simp only[wW,ht];rw[ai];rw[R];exact KT t _
    |false=>
     refine⟨ks,λp hp=>wF _ (O p hp),λγ k => ?_⟩;simp only[wW,ht]
     grind
def af1:∀(ks:List (Nat×ae)) (p:Cf ks) (s:aM),∃cp:aM,cp.aR=s.aR/\cp.w=s.w/\(∀t,t∉ks.map (·.1)->cp.bX t=s.bX t) /\
  (∀bp:aM,ql bp ks=some p->∀t,t∈ks.map (·.1)->cp.bX t=.bad\/∃ty x,cp.bX t=.sc ty x/\ie ty (bp.bX t)=some x)/\(∀(γ:Type 1) (k:aM->γ),Nm s k ks p=k cp)
 |[],p,s=>⟨s,rfl,rfl,λ_ _=>rfl,λ_ _ t h=>by simp at h,λ_ _=>rfl⟩
 |(i,ty)::ks,p,s=>by
  obtain⟨cp,O,R,af,aq,a8⟩:=af1 ks p.2 (s.lu i (.sc ty p.1));refine⟨cp,O,R,λt ht => ?_,λbp ac t ht => ?_,λγ k => ?_⟩
  .simp only[pi,gE,not_or]at ht
   rw[af t ht.2,s.va _ ht.1]
  .have hg:ie ty (bp.bX i)=some p.1/\ql bp ks=some p.2:=by
    simp only[ql]at ac;cases bu:ie ty (bp.bX i) with
    |none=>rw[bu]at ac;cases ac
    |some x=>
     cases Y:ql bp ks with
     |none=>rw[bu,Y]at ac;cases ac
     |some y=>rw[bu,Y]at ac;cases ac;exact⟨rfl,rfl⟩
   by_cases hl:t∈ks.map (·.1)
   .exact aq bp hg.2 t hl
   have:t=i:=by simpa[hl]using ht
   subst this;rw[af t hl];rcases s.F7 t (.sc ty p.1) with h|h
   .exact .inr ⟨ty,p.1,h,hg.1⟩
   exact .inl h
  simp only[Nm,aM.Im];exact a8 γ k
def Jo(D:List Nat)(s bp:aM):Prop:=
 (∀t,t∉D->s.bX t=bp.bX t\/∃ty x,s.bX t=.sc ty x/\ie ty (bp.bX t)=some x)/\∃fS,bp.w=fS++s.w/\∀id,id∉fS->bp.aR id=s.aR id
def dY.anI{s bp:aM}(h:dY D s bp):Jo D s bp:=⟨λt ht=>.inl (h.1 t ht).symm,h.2⟩
def SW{s:aM}{all keep:List Nat}(ap:∀t,t∈keep->t∈all){t:aP aM}{k:aM->aP ρ}{r:ρ}(h:((Hd s all keep t).bind k).bI=some r):
  (t.bind k).bI=some r \/
  ∃(ks:List (Nat×ae)) (p:Cf ks),(t.bind λbp=>aP.ue (bif Nat.beq bp.w.length s.w.length then ql bp ks else none)).bI=some p /\
   ∀bp,Jo all s bp->bp.w.length=s.w.length->ql bp ks=some p->∃ax,tl bp ax/\dY all s ax/\(k ax).bI=some r:=by
 unfold Hd at h;rw[aP.acB]at h;cases ai:t.n3.all (acm s keep) with
 |false=>rw[ai]at h;exact .inl h
 |true=>
  rw[ai,cond_true]at h;obtain⟨ks,ap4,apk⟩:=YH t.n3 keep;rw[apk]at h;cases bj:Nat.beq ks.length 0 with
  |true=>rw[bj,cond_true]at h;exact .inl h
  |false=>
   rw[bj,cond_false]at h;simp only[aP.bind]at h;obtain⟨p,hp,h⟩:=aP.amS h;rw[aP.vT]at hp;refine .inr ⟨ks,p,hp,λbp hf bb hg => ?_⟩;obtain⟨cp,cf,cN,fk,hq,Bp⟩:=V1 all s;obtain⟨ax,bF,b3,dp,fR,gq⟩:=af1 ks p cp;rw[Bp,gq]at h;have aB:bp.aR=s.aR:=by
    obtain⟨_,fS,O,R⟩:=hf;have:fS=[]:=by have:=congrArg List.length O;rw[cE]at this;exact k3.1 J
    subst this;funext id;exact R id bh
   have ap3:∀t,t∈ks.map (·.1)->t∈all:=λt ht=>by obtain⟨q,a2,rfl⟩:=m1.1 ht;exact ap _ (ap4 q a2)
   refine⟨ax,⟨λt => ?_,by rw[bF,cf,aB]⟩,⟨λt CX => ?_,[],by rw[b3,cN];rfl,λid _=>by rw[bF,cf]⟩,h⟩
   .by_cases abq:t∈ks.map (·.1)
    .rcases fR bp hg t abq with h|h
     .exact .inr (.inl h)
     exact .inr (.inr h)
    rw[dp t abq];by_cases CX:t∈all
    .exact .inr (.inl (hq t CX))
    rw[fk t CX];rcases hf.1 t CX with h|h
    .exact .inl h
    exact .inr (.inr h)
   rw[dp t λai=>CX (ap3 t ai),fk t CX]
def rZ:=@List.mem_filter
def E0:=@Nat.testBit_or
def OL:=@Bool.true_and
structure eZ where
 i:Nat
 o:Oper
 v:au
 al:Bool
 rb:List Nat
 wr:List (Nat×aQ)
def kE(g:Nat->au)(c6:Option Nat)(v:au):Nat->au:=match c6 with|some d=>o9 g d v|none=>g
def i_(s:aM)(c6:Option Nat)(v:au):aM:=match c6 with|some d=>s.lu d v|none=>s
def fi:List eZ->(Nat->Bool)->(Nat->au)->Nat->au
 |[],_,g=>g
 |e::bz,L,g=>fi bz L (bif L e.i then kE g e.o.dst e.v else g)
def eb:List eZ->(Nat->Bool)->(Nat->aQ)->Nat->aQ
 |[],_,B=>B
 |e::bz,L,B=>eb bz L (bif L e.i then dx B e.wr else B)
def wL(ops:List Oper)(o:Oper)(g:Nat->au):Prop:=o.guard=none\/∃j lV d,o.guard=some (j,lV)/\(ops[j]?).bind (·.dst)=some d/\g d=.kb lV
def EU(ops:List Oper)(o:Oper)(g:Nat->au):Prop:=∃j lV d,o.guard=some (j,lV)/\(ops[j]?).bind (·.dst)=some d/\(g d=.kb (!lV)\/g d=.undef)
def r1(v0 v:au):Prop:=v=v0\/∃c,v0=.sc .bool c/\v=.kb c
def Rh(g:Nat->au):Operand->au
 |.tmp t=>g t
 |.func f=>.clo f 0 []
 |_=>.bad
def wu(E:da)(ops:List Oper)(o:Oper)(g:Nat->au)(B:Nat->aQ)(v0:au)(rb:List Nat)(wr:List (Nat×aQ)):Prop:=
 ∃(F dQ:Nat) (cV:List il) (sj:fL) (aZ:List au) (s ax:aM) (f:Operand) (args:Array Operand) (eg:Array TypeId) (b9:Nat),o.op=.call ⟨.value f,args,eg⟩/\E.I F=some sj/\Uj ops o f=true/\Rh g f=.clo F dQ cV /\
  (∀bw b4,(∀t,Nat.testBit (kg ops o) t=true->bw t=g t)->(lO ea args.toList).aX bw b4=some (aZ,b4))/\(∀id,id∈pJ s++wr.map (·.1)->s.aR id=B id)/\FB s (u1 dQ cV aZ)=true/\(sj b9 (u1 dQ cV aZ) s).bI=some (v0,ax)/\wr=mZ s ax/\rb=pJ s
def Jn(E:da)(ops:List Oper)(nt:Nat)(dk:Bool)(g:Nat->au)(B:Nat->aQ)(e:eZ):Prop:=
 (∀d,e.o.dst=some d->d<nt) /\
 ((wL ops e.o g/\∃v0,r1 v0 e.v/\(rv E e.o).aX g B=some (v0,dx B e.wr) /\
  (dk=true->∀bw b4,(∀t,Nat.testBit (kg ops e.o) t=true->bw t=g t)->(∀id,id∈e.rb->b4 id=B id)->(rv E e.o).aX bw b4=some (v0,dx b4 e.wr))) \/
  (EU ops e.o g/\e.v=.undef/\e.wr=[]/\e.rb=[]) \/
  (dk=true/\wL ops e.o g/\∃v0,r1 v0 e.v/\wu E ops e.o g B v0 e.rb e.wr))
def wK(E:da)(ops:List Oper)(nt:Nat)(dk:Bool):List eZ->(Nat->au)->(Nat->aQ)->Prop
 |[],_,_=>True
 |e::bz,g,B=>Jn E ops nt dk g B e/\wK E ops nt dk bz (kE g e.o.dst e.v) (dx B e.wr)
def nb:List eZ->List ot
 |[]=>[]
 |e::bz=>(match e.al,e.rb,e.wr with|false,[],[]=>nb bz|_,_,_=>⟨e.i,e.al,e.rb,e.wr.map (·.1)⟩::nb bz)
def aw.afa(s:aM)(m:aw α):∀(fh:Nat) (fa:List Nat) (wr:List (Nat×aQ)) (k:α×Ov->aP β) (r:β),((m.run s fh fa wr).bind k).bI=some r ->
  ∃a e,(k (a,e)).bI=some r/\m.aX s.bX (dx s.aR wr)=some (a,dx s.aR e.wr) /\
   (∀bw b4,(∀t,Nat.testBit e.rt t=true->bw t=s.bX t)->(∀id,id∈e.rb->b4 id=s.aR id)->m.aX bw (dx b4 wr)=some (a,dx b4 e.wr)) /\
   (∀t,Nat.testBit fh t=true->Nat.testBit e.rt t=true)/\(∀id,id∈fa->id∈e.rb):=by
 induction m with
 |fail=>intro fh fa wr k r h;cases h
 |ret a=>intro fh fa wr k r h;exact⟨a,_,h,rfl,λ_ _ _ _=>rfl,λ_ h=>h,λ_ h=>h⟩
 |chk c m ih=>
  intro fh fa wr k r h;simp only[aw.run,aP.bind,aP.bI,am,aw.aX]at h ⊢;cases c with
  |true=>simpa using ih fh fa wr k r h
  |false=>cases h
 |br c x y hx hy=>
  intro fh fa wr k r h;simp only[aw.run,aP.bind,aP.bI,T,aw.aX]at h ⊢;cases c with
  |true=>simpa using hx fh fa wr k r h
  |false=>simpa using hy fh fa wr k r h
 |bo d o m ih=>
  intro fh fa wr k r h;cases o with
  |some a=>exact ih a fh fa wr k r h
  |none=>cases h
 |rt i m ih =>intro fh fa wr k r h;obtain⟨a,e,O,R,af,aq,a8⟩:=ih (s.bX i) (fh|||2^i) fa wr k r h;have hi:Nat.testBit e.rt i=true:=aq i (by simp[E0]);refine⟨a,e,O,R,λbw b4 hg Y => ?_,λt ht=>aq t (by simp[E0,ht]),a8⟩;simp only[aw.aX];rw[hg i hi];exact af bw b4 hg Y
 |rb i m ih=>
  intro fh fa wr k r h;obtain⟨a,e,O,R,af,aq,a8⟩:=ih (nr wr i (s.aR i)) fh (i::fa) wr k r h;have hi:i∈e.rb:=a8 i bh;refine⟨a,e,O,R,λbw b4 hg Y => ?_,aq,λid hid=>a8 id (by simp[hid])⟩;simp only[aw.aX];have:dx b4 wr i=nr wr i (s.aR i):=by unfold dx;rw[Y i hi]
  rw[this];exact af bw b4 hg Y
 |eI i b m ih=>
  intro fh fa wr k r h;obtain⟨a,e,O,R,af,aq,a8⟩:=ih fh fa ((i,b)::wr) k r h;refine⟨a,e,O,?_,λbw b4 hg Y => ?_,aq,a8⟩
  .simp only[aw.aX];rw[<- xO];exact R
  simp only[aw.aX];rw[<- xO];exact af bw b4 hg Y
def uz{c6:Option Nat}{s:aM}{v:au}{xx:aM->aP α}{k:α->aP β}{r:β}(h:((ib nt c6 s v xx).bind k).bI=some r):
  (∀d,c6=some d->d<nt)/\((xx (i_ s c6 v)).bind k).bI=some r:=by
 cases c6 with
 |none=>exact⟨λd h=>by(cases h),h⟩
 |some d=>
  simp only[ib]at h;cases aF:Nat.blt d nt with
  |false=>rw[aF]at h;cases h
  |true =>rw[aF,aM.Im]at h;exact⟨λl4 bL=>by cases bL;simpa using aF,h⟩
def rA{s:aM}{c6:Option Nat}{v:au}(ej:nt<=1000000)(aF:∀d,c6=some d->d<nt):(i_ s c6 v).bX=kE s.bX c6 v:=by
 cases c6 with
 |none=>rfl
 |some d=>exact s.anX v (hU (aF d rfl) ej)
def lp{s:aM}{c6:Option Nat}{v:au}:(i_ s c6 v).aR=s.aR:=by cases c6<;>rfl
def MM{s:aM}{c6:Option Nat}{v:au}:(i_ s c6 v).w=s.w:=by cases c6<;>rfl
def vX{s:aM}{c6:Option Nat}{v:au}(h:∀d,c6=some d->d∈D):dY D s (i_ s c6 v):=by
 cases c6 with
 |none=>exact dY.refl D s
 |some d=>exact dY.lu d v (h d rfl)
def aax{ops:List Oper}{o:Oper}{s:aM}{FT skip:aP aM}{k:aM->aP ρ}{r:ρ}(h:((Lh ops o s FT skip).bind k).bI=some r):
  (wL ops o s.bX/\(FT.bind k).bI=some r)\/(EU ops o s.bX/\(skip.bind k).bI=some r):=by
 unfold Lh at h;cases hg:o.guard with
 |none=>rw[hg]at h;exact .inl ⟨.inl hg,h⟩
 |some ar6=>
  obtain⟨j,lV⟩:=ar6;rw[hg]at h;simp only at h;cases aF:(ops[j]?).bind (·.dst) with
  |none=>rw[aF]at h;cases h
  |some g=>
   rw[aF]at h;simp only at h;cases aC:s.bX g<;>rw[aC]at h<;>try(cases h)
   .exact .inr ⟨⟨j,lV,g,hg,aF,.inr aC⟩,h⟩
   rename_i b;cases b<;>cases lV
   .exact .inl ⟨.inr ⟨j,_,g,hg,aF,aC⟩,h⟩
   .exact .inr ⟨⟨j,_,g,hg,aF,.inl aC⟩,h⟩
   .exact .inr ⟨⟨j,_,g,hg,aF,.inl aC⟩,h⟩
   exact .inl ⟨.inr ⟨j,_,g,hg,aF,aC⟩,h⟩
def tE(o:Oper)(rest:List Oper):(∀d,o.dst=some d->d∈en (o::rest))/\∀t,t∈en rest->t∈en (o::rest):=by
 cases aF:o.dst with
 |none=>
  have e:en (o::rest)=en rest:=by simp only[en,aF]
  grind
 |some d=>
  have e:en (o::rest)=d::en rest:=by simp only[en,aF]
  grind
def Xk{v:au}(h:tz v=some c):v=.sc .bool c:=by
 unfold tz at h;split at h
 .cases h;rfl
 cases h
def ET(E:da)(ops:List Oper)(nt:Nat)(dk:Bool)(i:Nat)(l:List Oper)(s:aM)(g?:List ot)(ax:aM):Prop:=
 ∃(bz:List eZ) (bp:aM),bz.map (·.i)=List.range' i l.length/\bz.map (·.o)=l/\wK E ops nt dk bz s.bX s.aR/\bp.bX=fi bz (λ_=>true) s.bX/\bp.aR=eb bz (λ_=>true) s.aR /\
  tl bp ax/\dY (en l) s ax/\(dk=true->H5 ops=true/\qK (lE ops []) (g?.reverse++nb bz)=true)
def Z3{e:eZ}{bz:List eZ}{g?:List ot}{b:List Nat}(bu:e.al=false)(h:qK b ((q9 true e.i e.rb e.wr g?).reverse++nb bz)=true):qK b (g?.reverse++nb (e::bz))=true:=by cases ah:e.rb<;>cases bb:e.wr<;>simp only[q9,bu,ah,bb,cond,nb,List.reverse_cons,gv]at h ⊢ <;> exact h
def UE{E:da}{ops:List Oper}{o:Oper}{rest:List Oper}{s kj:aM}{g? Z5:List ot}{ax:aM}{e:eZ}(ej:nt<=1000000)(hi:e.i=i)(aK:e.o=o)(iR:Jn E ops nt dk s.bX s.aR e)
  (hT:kj.bX=kE s.bX o.dst e.v) (aB:kj.aR=dx s.aR e.wr) (dW:dY (en (o::rest)) s kj)
  (apN:dk=true->∀(b:List Nat) (bz:List eZ),qK b (Z5.reverse++nb bz)=true->qK b (g?.reverse++nb (e::bz))=true) (h:ET E ops nt dk (i+1) rest kj Z5 ax):ET E ops nt dk i (o::rest) s g? ax:=by
 obtain⟨bz,bp,O,R,af,aq,a8,cS,dN,cx⟩:=h;have aF:=tE o rest;refine⟨e::bz,bp,?_,?_,⟨iR,?_⟩,?_,?_,cS,dW.sub dN (λt h=>h) aF.2,λg4=>⟨(cx g4).1,apN g4 _ bz (cx g4).2⟩⟩
 .simp only[pi,hi,O,ew,List.range'_succ]
 .grind
 .grind
 .simp only[fi,aK,<- hT];exact aq
 simp only[eb,<- aB];exact a8
def aP.w5{α β:Type}{k:α->aP β}{r:β}:∀(t:aP α),(t.bind k).bI=some r->∃a,t.bI=some a/\(k a).bI=some r
 |.leaf a,h=>⟨a,rfl,h⟩
 |.br c x y,h=>by
  cases c with
  |true=>exact aP.w5 x h
  |false=>exact aP.w5 y h
 |.chk c x,h=>by
  cases c with
  |true=>exact aP.w5 x h
  |false=>cases h
 |.bo d o f,h=>by
  cases o with
  |none=>cases h
  |some a=>exact aP.w5 (f a) h
 |.cs d e o kn g5 hb,h=>by
  cases o with
  |none=>cases h
  |some l=>
   cases l with
   |nx a=>exact aP.w5 (kn a) h
   |ex i a=>exact aP.w5 (g5 i a) h
   |rt a=>exact aP.w5 (hb a) h
def ay3(s:aM)(f:Operand):Cx s f=Rh s.bX f:=by cases f<;>rfl
def arP{E:da}{ops:List Oper}{o:Oper}{s:aM}{t:aP (au×aM)}{p:au×aM}(h:LO E ops o s=some t)(hp:t.bI=some p):wu E ops o s.bX s.aR p.1 (pJ s) (mZ s p.2):=by
 unfold LO at h;split at h
 .rename_i f args eg sv
  split at h
  .rename_i F dQ cV hf
   split at h
   .rename_i sj eo
    cases h;rw[<- kq (aP.bind _ _),aP.fe]at hp;obtain⟨aZ,gb,O,R,af,_,_⟩:=aw.afa s (lO ea args.toList) 0 [] [] _ p hp;rw[kq]at O;cases ai:(Nat.beq (gb.rt|||kg ops o) (kg ops o)&&(adg gb.wr&&(adf gb.rb&&(Uj ops o f&&FB s (u1 dQ cV aZ))))) with
    |false=>rw[ai]at O;cases O
    |true=>
     rw[ai]at O;simp only[cL]at ai;obtain⟨c1,c2,c4,hw,c5⟩:=ai;have tS:gb.rb=[]:=by
      cases bb:gb.rb with
      |nil=>rfl
      |cons x y=>rw[bb]at c4;cases c4
     have C0:gb.wr=[]:=by
      cases bb:gb.wr with
      |nil=>rfl
      |cons x y=>rw[bb]at c2;cases c2
     refine⟨F,dQ,cV,sj,aZ,s,p.2,f,args,eg,_,sv,eo,hw,by exact hf,λbw b4 hg => ?_,λ_ _=>rfl,c5,O,rfl,rfl⟩;have GS:∀t,Nat.testBit gb.rt t=true->Nat.testBit (kg ops o) t=true:=λt ht=>by
      have:=fB c1
      grind
     have:=af bw b4 (λt ht=>hg t (GS t ht)) (λid hid=>by rw[tS]at hid;cases hid);rw[C0]at this;exact this
   cases h
  cases h
 cases h
def ae5{E:da}{ops:List Oper}(ej:nt<=1000000):∀(l:List Oper) (top:Bool) (i:Nat) (s:aM) (g?:List ot) {ρ:Type} (k:aM->aP ρ) (r:ρ),
  ((oc E ops nv nt dk top i l s g?).bind k).bI=some r->∃ax,ET E ops nt dk i l s g? ax/\(k ax).bI=some r:=by
 intro l;induction l with
 |nil=>
  intro top i s g? ρ k r h;simp only[oc]at h;cases ai:(!dk||(H5 ops&&qK (lE ops []) g?.reverse)) with
  |false=>rw[ai]at h;cases h
  |true =>rw[ai]at h;refine⟨s,⟨[],s,rfl,rfl,trivial,rfl,rfl,tl.refl s,dY.refl _ s,λaF => ?_⟩,h⟩;subst aF;simp at ai;exact⟨ai.1,by simpa[nb]using ai.2⟩
 |cons o rest ih=>
  intro top i s g? ρ k r h;have aF:=tE o rest;rcases aax h with⟨bb,h⟩|⟨bb,h⟩
  .cases fC:(bif dk then LO E ops o s else none) with
   |some t=>
    rw[fC]at h;rw[aP.fe]at h;obtain⟨p,hp,h⟩:=aP.w5 _ h;cases g4:dk with
    |false=>rw[g4]at fC;cases fC
    |true=>
    rw[g4]at fC;have iR:=arP fC hp;cases abf:Nat.testBit (xd ops) i with
    |true=>rw[abf]at h;cases h
    |false=>
    rw[abf]at h;simp only[aM.Il,w7]at h;obtain⟨f6,h⟩:=uz h;obtain⟨ax,ah,ap⟩:=ih top (i+1) _ _ k r h;subst g4;refine⟨ax,UE (e:=⟨i,o,p.1,false,pJ s,mZ s p.2⟩) ej rfl rfl ⟨f6,.inr (.inr ⟨rfl,bb,p.1,.inl rfl,iR⟩)⟩ ?_ ?_ ?_ ?_ ah,ap⟩
    .rw[rA ej f6,aM.pX]
    .rw[lp,aM.nd]
    .exact(dY.ek _ _).sub (vX aF.1) (λt h=>h) (λt h=>h)
    intro _ b bz h;exact Z3 (e:=⟨i,o,p.1,false,pJ s,mZ s p.2⟩) rfl h
   |none=>
   rw[fC]at h;rw[aP.fe]at h;obtain⟨v,gb,h,ra,GK,_,_⟩:=aw.afa s (rv E o) 0 [] [] _ r h;simp only[aM.Il,w7]at h;cases hz:(dk && !(Nat.beq (gb.rt|||kg ops o) (kg ops o))) with
   |true=>rw[hz]at h;cases h
   |false=>
    rw[hz,cond_false]at h;have GS:dk=true->∀t,Nat.testBit gb.rt t=true->Nat.testBit (kg ops o) t=true:=by intro g4 t ht;subst g4;simp only[OL,Bool.not_eq_false']at hz;have:=fB hz;rw[<- this];simp[E0,ht]
    have ap8:dk=true->∀bw b4,(∀t,Nat.testBit (kg ops o) t=true->bw t=s.bX t)->(∀id,id∈gb.rb->b4 id=s.aR id)->(rv E o).aX bw b4=some (v,dx b4 gb.wr):=
     λg4 bw b4 hg Y=>GK bw b4 (λt ht=>hg t (GS g4 t ht)) Y
    have amT:∀cX,r1 v cX->(∀d,o.dst=some d->d<nt)->Jn E ops nt dk s.bX s.aR ⟨i,o,cX,false,gb.rb,gb.wr⟩:=λcX ac f6=>⟨f6,.inl ⟨bb,v,ac,ra,ap8⟩⟩;have aqO:(s.ek gb.wr).bX=s.bX:=aM.pX s _;have aqN:(s.ek gb.wr).aR=dx s.aR gb.wr:=aM.nd s _;have anu:∀cX,dk=true->∀(b:List Nat) (bz:List eZ),qK b ((q9 dk i gb.rb gb.wr g?).reverse++nb bz)=true->qK b (g?.reverse++nb (⟨i,o,cX,false,gb.rb,gb.wr⟩::bz))=true:=by intro cX g4 b bz h;subst g4;exact Z3 (e:=⟨i,o,cX,false,gb.rb,gb.wr⟩) rfl h
    have ys:∀(cX:au) (Ba:Bool) {ρ:Type} (k:aM->aP ρ) (r:ρ),r1 v cX->((ib nt o.dst (s.ek gb.wr) cX λs=>oc E ops nv nt dk Ba (i+1) rest s (q9 dk i gb.rb gb.wr g?)).bind k).bI=some r ->
      ∃ax,ET E ops nt dk i (o::rest) s g? ax/\(k ax).bI=some r/\dY (en rest) (i_ (s.ek gb.wr) o.dst cX) ax/\(∀d,o.dst=some d->d<nt):=by
     intro cX Ba ρ k r ac h;obtain⟨f6,h⟩:=uz h;obtain⟨ax,ah,ap⟩:=ih Ba (i+1) _ _ k r h;refine⟨ax,UE ej rfl rfl (amT cX ac f6) ?_ ?_ ?_ (anu cX) ah,ap,?_,f6⟩
     .rw[rA ej f6,aqO]
     .rw[lp,aqN]
     .exact(dY.ek gb.wr _).sub (vX aF.1) (λt h=>h) (λt h=>h)
     obtain⟨bz,bp,_,_,_,_,_,_,dN,_⟩:=ah;exact dN
    cases hg:(Nat.testBit (xd ops) i&&(tz v).isSome) with
    |false =>rw[hg,cond_false]at h;obtain⟨ax,O,R,_⟩:=ys v top k r (.inl rfl) h;exact⟨ax,O,R⟩
    |true=>
     rw[hg,cond_true]at h;cases Y:tz v with
     |none=>rw[Y]at h;cases h
     |some c=>
      rw[Y]at h;have aC:=Xk Y;have two:∀{ρ:Type} (k:aM->aP ρ) (r:ρ),((aP.br c (ib nt o.dst (s.ek gb.wr) (.kb true) λs=>oc E ops nv nt dk false (i+1) rest s (q9 dk i gb.rb gb.wr g?)) (ib nt o.dst (s.ek gb.wr) (.kb false) λs=>oc E ops nv nt dk false (i+1) rest s (q9 dk i gb.rb gb.wr g?))).bind k).bI=some r ->
        ∃ax,ET E ops nt dk i (o::rest) s g? ax/\(k ax).bI=some r/\dY (en rest) (i_ (s.ek gb.wr) o.dst (.kb c)) ax/\(∀d,o.dst=some d->d<nt):=by
       intro ρ k r h;cases c with
       |true=>exact ys (.kb true) false k r (.inr ⟨true,aC,rfl⟩) h
       |false=>exact ys (.kb false) false k r (.inr ⟨false,aC,rfl⟩) h
      cases top with
      |false =>obtain⟨ax,O,R,_⟩:=two k r h;exact⟨ax,O,R⟩
      |true=>
       obtain⟨f6,h⟩:=uz h;rcases SW (λt ht=>(rZ.1 ht).1) h with h|⟨ks,p,hp,hrest⟩
       .obtain⟨ax,O,R,_⟩:=two k r h
        exact⟨ax,O,R⟩
       obtain⟨ax,⟨bz,bp,bG,b_,co,dl,eQ,lq,pR,jW⟩,R,af,_⟩:=two _ p hp;obtain⟨rz,pG,iB⟩:∃rz,(bif Nat.beq ax.w.length (i_ (s.ek gb.wr) o.dst (.sc .bool c)).w.length then ql ax ks else none)=some rz/\(aP.leaf rz).bI=some p:=by
        have tK:((aP.ue (bif Nat.beq ax.w.length (i_ (s.ek gb.wr) o.dst (.sc .bool c)).w.length then ql ax ks else none)).bind aP.leaf).bI=some p:=by rw[kq];exact R
        exact aP.TH tK
       cases iB;cases cq:Nat.beq ax.w.length (i_ (s.ek gb.wr) o.dst (.sc .bool c)).w.length with
       |false=>rw[cq]at pG;cases pG
       |true=>
        rw[cq,cond_true]at pG;have R9:Jo (en rest) (i_ (s.ek gb.wr) o.dst (.sc .bool c)) ax:=by
         obtain⟨f1,fS,f2,f3⟩:=af;refine⟨λt ht => ?_,fS,by rw[f2,MM,MM],λid hid=>by rw[f3 id hid,lp,lp]⟩;rw[f1 t ht,rA ej f6,rA ej f6];cases apv:o.dst with
         |none=>exact .inl rfl
         |some d=>
          by_cases zQ:t=d
          .right
           refine⟨.bool,c,by simp[kE,o9,zQ],?_⟩;simp only[kE,o9,zQ];rfl
          simp[kE,o9,zQ]
        obtain⟨d5,cf,cN,fk⟩:=hrest ax R9 (fB cq) pG;refine⟨d5,⟨bz,bp,bG,b_,co,dl,eQ,lq.trans cf,?_,jW⟩,fk⟩;exact((dY.ek gb.wr _).sub (vX aF.1) (λt h=>h) (λt h=>h)).sub cN (λt h=>h) aF.2
  obtain⟨f6,h⟩:=uz h;obtain⟨ax,ah,ap⟩:=ih top (i+1) _ g? k r h;refine⟨ax,UE (e:=⟨i,o,.undef,false,[],[]⟩) ej rfl rfl ⟨f6,.inr (.inl ⟨bb,rfl,rfl,rfl⟩)⟩ ?_ ?_ (vX aF.1) (λ_ b bz h=>h) ah,ap⟩
  .rw[rA ej f6]
  rw[lp];rfl
end Yp
namespace Yp
open Go
def pe:=@List.mem_singleton
def yO:=@List.not_mem_nil
def E7:=@List.mem_flatMap
section
variable {phx phx':cc} {H H':cg} {B B':Nat->aQ}
def jw.h3:∀{l:List il} {vs:List Value},(∀id,id∈sS l->(B id).iC=true->phx' id=phx id)->H.cb H'->(∀id,id∈sS l->(B id).cb (B' id))->jw phx H B l vs->jw phx' H' B' l vs
 |[],_,_,_,_,h=>h
 |.iw t x::l,vs,dO,cw,aB,⟨v,d3,h,⟨cs,O,R⟩,af⟩=>⟨v,d3,h,⟨cs,O.mono cw,R⟩,jw.h3 (l:=l) dO cw aB af⟩
 |.ptr id p::l,vs,dO,cw,aB,⟨v,d3,h,O,af⟩=>by
  refine⟨v,d3,h,?_,jw.h3 (l:=l) (λj an=>dO j (by simp[sS,an])) cw (λj an=>aB j (by simp[sS,an])) af⟩;have Y:=aB id (by simp[sS]);have hf:=dO id (by simp[sS]);simp only[uQ]at O ⊢;cases jA:B id<;>cases hb1:B' id<;>simp only[jA,hb1,aQ.iC]at Y hf O ⊢ <;> try(first|exact O.elim|exact Y.elim|trivial)
  all_goals first
   |(subst Y;rw[hf trivial];exact O)
   |(obtain⟨b,o,n,g1,bw⟩:=O;exact⟨b,o,n,(hf trivial).trans g1,bw⟩)
   | (
    obtain⟨b,o,n,off,t',g1,bw,cW⟩:=O;exact⟨b,o,n,(hf trivial).trans g1,λhp=>by subst hp;simp only[ae.d?,km,kH]at bw;rw[cW,<- bw.1];rfl⟩)
def jw.old:∀{l:List il} {vs:List Value},jw phx H B l vs->∀id,id∈sS l->B id ≠ .new
 |.iw t x::l,vs,⟨v,d3,h,_,af⟩,id,hi=>jw.old (l:=l) af id hi
 |.ptr j p::l,vs,⟨v,d3,h,O,af⟩,id,hi=>by
  simp only[sS,gE]at hi;rcases hi with rfl|hi
  .intro aj;simp only[uQ,aj]at O
  exact jw.old (l:=l) af id hi
def bM.h3{pv:au}(dO:∀id,id∈dM pv->(B id).iC=true->phx' id=phx id)(cw:H.cb H')(aB:∀id,id∈dM pv->(B id).cb (B' id)){v:Value}(h:bM phx H B pv v):bM phx' H' B' pv v:=by
 have key:∀xs:Nat,(∀id,id∈dM pv->id=xs)->xs∈dM pv->bM phx' H' B' pv v:=λxs O R=>by
  have aqE:∀id,(B id).iC=true->(λj=>if j=xs then phx' j else phx j) id=phx id:=λid hl=>by
   grind
  have j9:∀id,(B id).cb ((λj=>if j=xs then B' j else B j) id):=λid=>by
   by_cases hi:id=xs
   .grind
   simp[hi,aQ.cb.refl]
  have:=bM.mono (phx':=λj=>if j=xs then phx' j else phx j) (H':=H') (B':=λj=>if j=xs then B' j else B j) aqE cw j9 h;cases pv<;>simp only[dM,pe,yO]at O R<;>(try exact R.elim)
  all_goals (first|(subst R;simpa[bM,hu,th]using this)|exact this.elim|(obtain⟨vs,g1,bw⟩:=h;exact⟨vs,g1.h3 dO cw aB,bw⟩))
 cases pv with
 |own id d'=>exact key id (λ_ h=>by simpa[dM]using h) (by simp[dM])
 |osl id o n=>exact key id (λ_ h=>by simpa[dM]using h) (by simp[dM])
 |ptr id p=>exact key id (λ_ h=>by simpa[dM]using h) (by simp[dM])
 |opt id i p=>exact key id (λ_ h=>by simpa[dM]using h) (by simp[dM])
 |itp id=>exact key id (λ_ h=>by simpa[dM]using h) (by simp[dM])
 |mpp id=>exact key id (λ_ h=>by simpa[dM]using h) (by simp[dM])
 |psl id n=>exact key id (λ_ h=>by simpa[dM]using h) (by simp[dM])
 |clo f dQ cV=>obtain⟨vs,g1,bw⟩:=h;exact⟨vs,g1.h3 dO cw aB,bw⟩
 |ifc i t x=>obtain⟨cs,O,R⟩:=h;exact⟨cs,O.mono cw,R⟩
 |csl e l=>obtain⟨a,O,R⟩:=h;exact⟨a,O,R.mono cw⟩
 |ipt e l i p=>obtain⟨ao,b,o,cap,off,t',O,R,af⟩:=h;exact⟨ao,b,o,cap,off,t',O.mono cw,R,af⟩
 |_=>exact h
def e3.h3:∀{pv:au} {t:ae} {cs:List Value},(∀id,id∈dM pv->(B id).iC=true->phx' id=phx id)->H.cb H'->(∀id,id∈dM pv->(B id).cb (B' id))->e3 phx H B pv t cs->e3 phx' H' B' pv t cs:=by
 intro pv;induction pv with
 |two u v aL aC=>
  intro t cs dO cw aB h;cases t<;>simp only[e3]at h ⊢ <;> try exact h
  obtain⟨c1,c2,h,O,R⟩:=h;exact⟨c1,c2,h,aL (λid hi=>dO id (by simp[dM,hi])) cw (λid hi=>aB id (by simp[dM,hi])) O,aC (λid hi=>dO id (by simp[dM,hi])) cw (λid hi=>aB id (by simp[dM,hi])) R⟩
 |sc t' x=>intro t cs dO cw aB h;obtain⟨ao,h⟩:=h;exact⟨ao,h.mono cw⟩
 |agg t a=>intro t cs dO cw aB h;exact h
 |tup a=>intro t cs dO cw aB h;exact h
 |bad=>intro t cs dO cw aB h;exact h
 |_=>intro t cs dO cw aB h;obtain⟨ao,v,O,R,af⟩:=h;exact⟨ao,v,O,R,bM.h3 dO cw aB af⟩
def dZ.h3{pv:au}(dO:∀id,id∈dM pv->(B id).iC=true->phx' id=phx id)(cw:H.cb H')(aB:∀id,id∈dM pv->(B id).cb (B' id)){v:Value}(h:dZ phx H B pv v):dZ phx' H' B' pv v:=by
 cases pv with
 |sc t x=>obtain⟨cs,O,R⟩:=h;exact⟨cs,O.mono cw,R⟩
 |agg t a=>obtain⟨ao,cs,O,R⟩:=h;exact⟨ao,cs,e3.h3 dO cw aB O,R⟩
 |_=>simp only[dZ]at h ⊢;exact bM.h3 dO cw aB h
def lD.h3:∀{pv:au} {vs:List Value},(∀id,id∈dM pv->(B id).iC=true->phx' id=phx id)->H.cb H'->(∀id,id∈dM pv->(B id).cb (B' id))->lD phx H B pv vs->lD phx' H' B' pv vs:=by
 intro pv;induction pv with
 |two u r aL ah =>intro vs dO cw aB h;obtain⟨v,d3,ao,O,R⟩:=h;exact⟨v,d3,ao,dZ.h3 (λid hi=>dO id (by simp[dM,hi])) cw (λid hi=>aB id (by simp[dM,hi])) O,ah (λid hi=>dO id (by simp[dM,hi])) cw (λid hi=>aB id (by simp[dM,hi])) R⟩
 |sc t x=>intro vs dO cw aB h;cases t<;>exact h
 |_=>intro vs dO cw aB h;exact h
def a?.h3{pv:au}(dO:∀id,id∈dM pv->(B id).iC=true->phx' id=phx id)(cw:H.cb H')(aB:∀id,id∈dM pv->(B id).cb (B' id)){v:Value}(h:a? phx H B pv v):a? phx' H' B' pv v:=by
 cases pv with
 |tup a=>obtain⟨vs,O,R⟩:=h;exact⟨vs,lD.h3 dO cw aB O,R⟩
 |_=>simp only[a?]at h ⊢;exact dZ.h3 dO cw aB h
def bM.old{pv:au}{v:Value}(h:bM phx H B pv v):∀id,id∈dM pv->B id ≠ .new:=by
 intro id hi aj;cases pv<;>simp only[dM,pe,yO]at hi<;>(try exact hi.elim)
 all_goals (first|(subst hi;simp only[bM,aj]at h)|exact h.elim|(obtain⟨vs,g1,bw⟩:=h;exact g1.old id hi aj))
def e3.old:∀{pv:au} {t:ae} {cs:List Value},e3 phx H B pv t cs->∀id,id∈dM pv->B id ≠ .new:=by
 intro pv;induction pv with
 |two u v aL aC=>
  intro t cs h id hi;cases t<;>simp only[e3]at h;simp only[dM,io]at hi
  grind
 |sc t' x=>intro t cs h id hi;simp[dM]at hi
 |agg t a=>intro t cs h;exact h.elim
 |tup a=>intro t cs h;exact h.elim
 |bad=>intro t cs h id hi;simp[dM]at hi
 |_=>intro t cs h;obtain⟨ao,v,O,R,af⟩:=h;exact af.old
def dZ.old{pv:au}{v:Value}(h:dZ phx H B pv v):∀id,id∈dM pv->B id ≠ .new:=by
 cases pv with
 |sc t x=>intro id hi;simp[dM]at hi
 |agg t a=>obtain⟨ao,cs,O,R⟩:=h;exact O.old
 |_=>simp only[dZ]at h;exact bM.old h
def lD.old:∀{pv:au} {vs:List Value},lD phx H B pv vs->∀id,id∈dM pv->B id ≠ .new:=by
 intro pv;induction pv with
 |two u r aL ah =>intro vs h id hi;obtain⟨v,d3,ao,O,R⟩:=h;simp only[dM,io]at hi;exact hi.elim (O.old id) (ah R id)
 |sc t x=>intro vs h id hi;simp[dM]at hi
 |_=>intro vs h;exact h.elim
def a?.old{pv:au}{v:Value}(h:a? phx H B pv v):∀id,id∈dM pv->B id ≠ .new:=by
 cases pv with
 |tup a=>obtain⟨vs,O,R⟩:=h;exact O.old
 |_=>simp only[a?]at h;exact dZ.old h
end
def k5.h3{phx phx':cc}{H H':cg}{B B':Nat->aQ}{kt:ae}:∀{l:List (kt.aD×au)} {es:List MapEntry},(∀p∈l,∀id∈dM p.2,(B id).iC=true->phx' id=phx id)->H.cb H'->(∀p∈l,∀id∈dM p.2,(B id).cb (B' id))->k5 phx H B kt l es->k5 phx' H' B' kt l es
 |[],_,_,_,_,h=>h
 |(k,v)::l,_,dO,cw,aB,⟨e,es',h,⟨am,O,R⟩,af,aq⟩=>
  ⟨e,es',h,⟨am,O.mono cw,R⟩,af.h3 (λid hi=>dO (k,v) bh id hi) cw (λid hi=>aB (k,v) bh id hi),k5.h3 (λp hp=>dO p (by grind)) cw (λp hp=>aB p (by grind)) aq⟩
def k5.old{phx:cc}{H:cg}{B:Nat->aQ}{kt:ae}:∀{l:List (kt.aD×au)} {es:List MapEntry},k5 phx H B kt l es->∀p∈l,∀id∈dM p.2,B id ≠ .new
 |[],_,_,p,hp=>by simp at hp
 |(k,v)::l,_,⟨e,es',h,_,af,aq⟩,p,hp=>by
  rcases gE.1 hp with rfl|hp
  .exact af.old
  exact k5.old aq p hp
def lC.h3{phx phx':cc}{M ay:Nat->Prop}{w w':World}{H H':cg}{B B':Nat->aQ}{id:Nat}{b:aQ}
  (hid:phx' id=phx id) (dO:∀j,j∈x1 b->(B j).iC=true->phx' j=phx j) (cw:H.cb H') (aB:∀j,j∈x1 b->(B j).cb (B' j))
  (bb:∀x,phx id=some x->b.fx=true->w'.heap[x.1]?=w.heap[x.1]?) (dS:∀x,phx id=some x->b.fx=true->M x.1->ay x.1)
  (h:lC phx M w H B id b):lC phx' ay w' H' B' id b:=by
 cases b with
 |new=>trivial
 |e'=>trivial
 |box t v =>obtain⟨b,o,c,el,fz,O,R,af,aq,a8,cS⟩:=h;exact⟨b,o,c,el,fz,hid.trans O,(bb _ O rfl).trans R,af,e3.h3 dO cw aB aq,a8,dS _ O rfl cS⟩
 |ob e l=>
  refine⟨h.1,?_⟩;rcases h.2 with⟨O,R⟩|⟨b,o,c,el,fz,O,R,af,aq,a8⟩
  .grind
  exact .inr ⟨b,o,c,el,fz,hid.trans O,(bb _ O rfl).trans R,af.mono cw,aq,dS _ O rfl a8⟩
 |fz e l=>
  refine⟨h.1,?_⟩;rcases h.2 with⟨O,R⟩|⟨b,o,c,el,fz,O,R,af⟩
  .grind
  exact .inr ⟨b,o,c,el,fz,hid.trans O,cw _ _ R,af.mono cw⟩
 |it s p =>obtain⟨b,O,R,af⟩:=h;exact⟨b,hid.trans O,(bb _ O rfl).trans R,dS _ O rfl af⟩
 |mp kt vt l =>obtain⟨b,es,m',O,R,af,aq⟩:=h;refine⟨b,es,m',hid.trans O,(bb _ O rfl).trans R,k5.h3 (λp hp j an=>dO j (E7.2 ⟨p,hp,an⟩)) cw (λp hp j an=>aB j (E7.2 ⟨p,hp,an⟩)) af,dS _ O rfl aq⟩
def lC.old{phx:cc}{M:Nat->Prop}{w:World}{H:cg}{B:Nat->aQ}{id:Nat}{b:aQ}(h:lC phx M w H B id b):∀j,j∈x1 b->B j ≠ .new:=by
 cases b with
 |box t v=>obtain⟨b,o,c,el,fz,O,R,af,aq,a8,cS⟩:=h;exact aq.old
 |mp kt vt l =>obtain⟨b,es,m',O,R,af,aq⟩:=h;intro j an;obtain⟨p,hp,an⟩:=E7.1 an;exact af.old p hp j an
 |_=>intro j an;simp[x1]at an
end Yp
namespace Yp
open Go
def mv:=@Array.getD_eq_getD_getElem?
def wC:=@List.mem_append_right
def yT:=@List.mem_append_left
def wx:=@List.any_eq_true
def yJ:=@Bool.or_eq_true
def EL:=@List.mem_cons_self
def pk:=@Iff.rfl
def OW:=@List.getElem?_cons_zero
variable {P:Program}
def j2(P:Program)(f:Nat)(g:fL):Prop:=rU P f/\∀(K:Kp) (w0:World),pd P K w0->∀(b9:Nat) (aZ:List au) (s:aM) (ρ:Type) (k:au×aM->aP ρ) (r:ρ),((g b9 aZ s).bind k).bI=some r ->
 ∀(phx:cc) (M:Nat->Prop) (w:World) (vs:List Value),Mem K w0 phx M s.aR w->gm phx (view w M) s.aR aZ vs ->
  Calls P f vs.toArray w λe w'=>∃b2,e=.returned b2/\∃v ax phx' ay,(k (v,ax)).bI=some r/\Mem K w0 phx' ay ax.aR w'/\cm phx M s.aR w phx' ay ax.aR w'/\a? phx' (view w' ay) ax.aR v b2/\dY [] s ax
def g9(D:List Nat)(a a':Act):Prop:=a'.tmps.size=a.tmps.size/\a'.defers=a.defers/\∀t,t∉D->a'.tmps.getD t undef=a.tmps.getD t undef
def g9.refl(D:List Nat)(a:Act):g9 D a a:=⟨rfl,rfl,λ_ _=>rfl⟩
def g9.sub{E:List Nat}{a b c:Act}(h:g9 D a b)(k:g9 j1 b c)(aF:∀t,t∈D->t∈E)(CN:∀t,t∈j1->t∈E):g9 E a c:=
 ⟨k.1.trans h.1,k.2.1.trans h.2.1,λt ht=>(k.2.2 t λai=>ht (CN t ai)).trans (h.2.2 t λai=>ht (aF t ai))⟩
def g9.put{a:Act}{c6:Option Nat}{v:Value}(h:∀d,c6=some d->d∈D):g9 D a (a.put c6 v):=by
 cases c6 with
 |none=>exact g9.refl D a
 |some d =>refine⟨by simp[Act.put],rfl,λt ht => ?_⟩;have:d≠t:=λe=>ht (e▸h d rfl);simp[Act.put,BB this]
section
variable {K:Kp} {w0 w:World} {phx:cc} {M:Nat->Prop} {B B':Nat->aQ} {g:Nat->au} {H:cg} {E:da} {nt:Nat}
def r1.bO{v0 v:au}{x:Value}(h:r1 v0 v)(ah:a? phx H B v0 x):a? phx H B v x:=by
 rcases h with rfl|⟨c,rfl,rfl⟩
 .exact ah
 rw[ah.bool];rfl
def dw.put{a:Act}(ac:dw phx H B g a){c6:Option Nat}(aF:∀d,c6=some d->d<a.tmps.size){v:au}{x:Value}(ah:a? phx H B v x):dw phx H B (kE g c6 v) (a.put c6 x):=by
 cases c6 with
 |none=>exact ac
 |some d=>
  intro t;simp only[kE,o9];by_cases h:t=d
  .subst h
   have:=aF t rfl;simpa[Act.put,this]using ah
  rw[if_neg h];have:=ac t;simpa[Act.put,BB (nI h)]using this
def Wc{ops:Array Oper}{a:Act}(h:(ops.toList[j]?).bind (·.dst)=some d):(∀b,a.tmps.getD d undef=.bool b->yielded ops a.tmps j=some b)/\(a.tmps.getD d undef=undef->yielded ops a.tmps j=none):=by
 rw[wB]at h;unfold yielded;rw[h];simp only[Option.bind_some];refine⟨λb Y => ?_,λY => ?_⟩
 .cases hg:a.tmps[d]? with
  |none=>rw[mv,hg]at Y;cases Y
  |some v=>rw[mv,hg]at Y;simp at Y;rw[Y]
 cases hg:a.tmps[d]? with
 |none=>rfl
 |some v=>rw[mv,hg]at Y;simp at Y;rw[Y];rfl
def VV{ops:Array Oper}{o:Oper}{a:Act}(h:wL ops.toList o g)(ac:dw phx H B g a):Region.wanted o (yielded ops a.tmps)=true:=by
 rcases h with h|⟨j,lV,d,O,R,af⟩
 .simp[Region.wanted,h]
 have aC:=ac d;rw[af]at aC;simp[Region.wanted,O,(Wc R).1 _ aC]
def agk{ops:Array Oper}{o:Oper}{a:Act}(h:EU ops.toList o g)(ac:dw phx H B g a):Region.wanted o (yielded ops a.tmps)=false:=by
 obtain⟨j,lV,d,O,R,af⟩:=h;have aC:=ac d;rcases af with af|af<;>rw[af]at aC
 .have aC:=aC
  simp[Region.wanted,O,(Wc R).1 _ aC]
 have aC:=aC;simp[Region.wanted,O,(Wc R).2 aC]
def dY.wr{s ax:aM}(h:dY D s ax):ax.aR=dx s.aR (mZ s ax):=by
 obtain⟨_,fS,R,af⟩:=h;have aj:Tr s ax=fS:=by unfold Tr;rw[R,cE,Nat.add_sub_cancel,List.take_left'];rfl
 funext id;unfold mZ dx;have key:∀(l:List Nat) (d:aQ),nr (l.map λid=>(id,ax.aR id)) id d=if id∈l then ax.aR id else d:=by
  intro l d;induction l with
  |nil=>rfl
  |cons x l ih=>
   simp only[pi,nr];by_cases hx:x=id
   .subst hx;simp
   rw[hv hx,cond_false,ih]
   grind
 grind
def xC{id:Nat}:∀(l:List (Nat×aQ)) (d:aQ),id∉l.map (·.1)->nr l id d=d
 |[],_,_=>rfl
 |p::l,d,h=>by simp only[pi,gE,not_or]at h;simp only[nr];rw[hv (nI h.1)];exact xC l d h.2
def gm.h3:∀{aZ:List au} {vs:List Value} {B':Nat->aQ},(∀p∈aZ,∀j,j∈dM p->B' j=B j)->gm phx H B aZ vs->gm phx H B' aZ vs
 |[],[],_,_,_=>trivial
 |p::aZ,v::vs,B',ai,h=>⟨h.1.h3 (λ_ _ _=>rfl) (cg.cb.refl _) (λj an=>by rw[ai p bh j an];exact aQ.cb.refl _),gm.h3 (λq a2=>ai q (by grind)) h.2⟩
def j2.frame{sj:fL}(fU:j2 P f sj)(gp:pd P K w0)(hm:Mem K w0 phx M B w){s ax:aM}{b9:Nat}{aZ:List au}{v0:au}(iR:(sj b9 aZ s).bI=some (v0,ax)){kd:List Nat}
  (xn:∀id,id∈kd->s.aR id=B id) (SG:∀id,id∉kd->s.aR id=.new) (eB:∀id j,j∈x1 (s.aR id)->j∈kd) (pD:∀p∈aZ,∀j,j∈dM p->j∈kd)
  (arc:∀id,id∈(mZ s ax).map (·.1)->id∈kd) {vs:List Value} (hp:gm phx (view w M) B aZ vs) :
  Calls P f vs.toArray w λe w'=>∃b2,e=.returned b2/\∃phx' ay,Mem K w0 phx' ay (dx B (mZ s ax)) w'/\cm phx M B w phx' ay (dx B (mZ s ax)) w'/\a? phx' (view w' ay) (dx B (mZ s ax)) v0 b2:=by
 let Ww:Kp:=⟨λb=>K.k b\/∃id x,id∉kd/\(B id).fx=true/\phx id=some x/\x.1=b,M⟩
 have Tn:∀id,(s.aR id).fx=true->id∈kd/\(B id).fx=true:=λid h=>by
  by_cases ap:id∈kd
  .rw[xn id ap]at h;exact⟨ap,h⟩
  rw[SG id ap]at h;cases h
 have h?:Mem Ww w phx M s.aR w:=by
  refine⟨rfl,rfl,rfl,bU _,λ_ _=>rfl,λb Y => ?_,λ_ _=>pk,λid hi x hx ai => ?_,hm.mlt,λid => ?_,λi j i2 hi an => ?_⟩
  .rcases Y with Y|⟨id,x,_,R,af,rfl⟩
   .exact hU (hm.klt b Y) hm.size
   exact(hm.blks id).lt R af
  .obtain⟨ap,tR⟩:=Tn id hi
   rcases ai with ai|⟨oQ,wj,O,R,af,aq⟩
   .exact hm.own id tR x hx ai
   exact hm.sep oQ id (λe=>O (e▸ap)) R tR wj x af hx aq
  .by_cases ap:id∈kd
   .have h:=hm.blks id
    rw[xn id ap];refine lC.h3 rfl (λ_ _ _=>rfl) (cg.cb.refl _) (λj an => ?_) (λ_ _ _=>rfl) (λ_ _ _ h=>h) h;rw[xn j (eB id j (by rw[xn id ap];exact an))];exact aQ.cb.refl _
   rw[SG id ap];trivial
  exact hm.sep i j i2 (Tn i hi).2 (Tn j an).2
 have aqz:gm phx (view w M) s.aR aZ vs:=hp.h3 λp a2 j an=>xn j (pD p a2 j an);refine(fU.2 Ww w ⟨λg hg=>.inl (gp.gl g hg),gp.keys hm⟩ b9 aZ s (au×aM) .leaf (v0,ax) (by rw[kq];exact iR) phx M w vs h? aqz).mono ?_;rintro e w' ⟨b2,rfl,v,d5,hk,ft,bG,b_,co,dl,eQ⟩;cases bG;have j9:=eQ.wr;have Hi:∀id,id∈kd->ax.aR id=dx B (mZ s ax) id:=λid ap=>by rw[j9];unfold dx;rw[xn id ap]
 have NW:∀id,id∉kd->ax.aR id=.new/\dx B (mZ s ax) id=B id:=λid ap=>by have aby:id∉(mZ s ax).map (·.1):=λh=>ap (arc id h);refine⟨?_,xC _ _ aby⟩;rw[j9];exact(xC _ _ aby).trans (SG id ap)
 have MW:∀j,ax.aR j ≠ .new->j∈kd:=λj h=>by
  by_cases ap:j∈kd
  .exact ap
  exact absurd (NW j ap).1 h
 let jG:cc:=λid=>if id∈kd then hk id else phx id
 have u5:∀id,id∈kd->jG id=hk id:=λid h=>if_pos h;have zh:∀id,id∉kd->jG id=phx id:=λid h=>if_neg h;have iB:∀id,(B id).iC=true->jG id=phx id:=λid hl=>by
  by_cases ap:id∈kd
  .rw[u5 id ap];exact co.pl id (by rw[xn id ap];exact hl)
  exact zh id ap
 have dD:∀id,(B id).cb (dx B (mZ s ax) id):=λid=>by
  by_cases ap:id∈kd
  .rw[<- Hi id ap,<- xn id ap];exact co.bl id
  rw[(NW id ap).2];exact aQ.cb.refl _
 have Hz:∀id,id∈kd->(dx B (mZ s ax) id).fx=true->(ax.aR id).fx=true:=λid ap h=>by rw[Hi id ap];exact h
 have HA:∀id,id∉kd->(dx B (mZ s ax) id).fx=true->(B id).fx=true:=λid ap h=>by rw[<- (NW id ap).2];exact h
 refine⟨b2,rfl,jG,ft,⟨b_.os.trans hm.os,b_.tape.trans hm.tape,b_.output.trans hm.output,e0 hm.size b_.size,λb Y=>(b_.keep b (.inl Y)).trans (hm.keep b Y),hm.klt,λb Y=>(b_.hid b (.inl Y)).trans (hm.hid b Y),λid hi x hx ai => ?_,b_.mlt,λid => ?_,λi j i2 hi an x y hx hy => ?_⟩,⟨iB,co.vw,dD⟩,?_⟩
 .by_cases ap:id∈kd
  .rw[u5 id ap]at hx;exact b_.own id (Hz id ap hi) x hx (.inl ai)
  rw[zh id ap]at hx;exact hm.own id (HA id ap hi) x hx ai
 .by_cases ap:id∈kd
  .rw[<- Hi id ap]
   have h:=b_.blks id;refine lC.h3 (u5 id ap) (λj an _=>u5 j (MW j (h.old j an))) (cg.cb.refl _) (λj an => ?_) (λ_ _ _=>rfl) (λ_ _ _ h=>h) h;rw[Hi j (MW j (h.old j an))];exact aQ.cb.refl _
  rw[(NW id ap).2];refine lC.h3 (zh id ap) (λj _ hl=>iB j hl) co.vw (λj _=>dD j) (λx hx tR=>b_.keep x.1 (.inr ⟨id,x,ap,tR,hx,rfl⟩)) (λx hx tR dS=>(b_.hid x.1 (.inr ⟨id,x,ap,tR,hx,rfl⟩)).2 dS) (hm.blks id)
 .by_cases vl:i∈kd<;>by_cases vm:j∈kd
  .rw[u5 i vl]at hx;rw[u5 j vm]at hy;exact b_.sep i j i2 (Hz i vl hi) (Hz j vm an) x y hx hy
  .rw[u5 i vl]at hx;rw[zh j vm]at hy
   exact λe=>b_.own i (Hz i vl hi) x hx (.inr ⟨j,y,vm,HA j vm an,hy,e.symm⟩)
  .rw[zh i vl]at hx;rw[u5 j vm]at hy
   exact λe=>b_.own j (Hz j vm an) y hy (.inr ⟨i,x,vl,HA i vl hi,hx,e⟩)
  rw[zh i vl]at hx;rw[zh j vm]at hy;exact hm.sep i j i2 (HA i vl hi) (HA j vm an) x y hx hy
 exact dl.h3 (λj an _=>u5 j (MW j (dl.old j an))) (cg.cb.refl _) (λj an=>by rw[Hi j (MW j (dl.old j an))];exact aQ.cb.refl _)
def wu.congr{E:da}{ops:List Oper}{o:Oper}{g bw:Nat->au}{B b4:Nat->aQ}{v0:au}{rb:List Nat}{wr:List (Nat×aQ)}(h:wu E ops o g B v0 rb wr)(hg:∀t,Nat.testBit (kg ops o) t=true->bw t=g t)
  (aB:∀id,id∈rb\/id∈wr.map (·.1)->b4 id=B id):wu E ops o bw b4 v0 rb wr:=by
 obtain⟨F,dQ,cV,sj,aZ,s,ax,f,args,eg,b9,O,R,af,aq,a8,cS,dN,cx,lJ,kO⟩:=h;refine⟨F,dQ,cV,sj,aZ,s,ax,f,args,eg,b9,O,R,af,?_,λcW uH R?=>a8 cW uH λt ht=>(R? t ht).trans (hg t ht),λid hid => ?_,dN,cx,lJ,kO⟩
 .cases f with
  |tmp t=>simp only[Rh]at aq ⊢;rw[hg t af];exact aq
  |func f=>exact aq
  |const v=>exact aq
  |global i=>exact aq
 grind
def Tb:∀{l:List (Nat×aQ)} {id:Nat},id∉l.map (·.1)->qA l id=.new
 |[],_,_=>rfl
 |(i,b)::r,id,h=>by simp only[pi,gE,not_or]at h;simp only[qA];rw[hv (nI h.1)];exact Tb h.2
def acI:∀{l:List (Nat×aQ)} {id:Nat},id∈l.map (·.1)->∃b,(id,b)∈l/\qA l id=b
 |(i,b)::r,id,h=>by
  simp only[qA];by_cases hi:i=id
  .subst hi;rw[kp rfl];exact⟨b,bh,rfl⟩
  rw[hv hi];simp only[pi,gE]at h;obtain⟨c,ai,R⟩:=acI (h.resolve_left (nI hi))
  grind
def alU{s:aM}{aZ:List au}(h:FB s aZ=true):(∀id j,j∈x1 (s.aR id)->j∈pJ s)/\∀p∈aZ,∀j,j∈dM p->j∈pJ s:=by
 unfold FB at h;simp only[cL]at h;have any:∀{j:Nat},(pJ s).any (Nat.beq j)=true->j∈pJ s:=λh=>by obtain⟨x,hx,aA⟩:=wx.1 h;rw[fB aA];exact hx
 refine⟨λid j an => ?_,λp hp j an=>any (pg.1 (pg.1 h.2 p hp) j an)⟩;by_cases ap:id∈s.h.map (·.1)
 .obtain⟨b,Y,aA⟩:=acI ap
  have aA:s.aR id=b:=aA
  grind
 have:s.aR id=.new:=Tb ap;rw[this]at an;simp[x1]at an
def arQ(dA:oq P E K w0)(eo:∀f g,E.I f=some g->j2 P f g){ops:List Oper}{o:Oper}{a:Act}{v0:au}{rb:List Nat}{wr:List (Nat×aQ)}(hm:Mem K w0 phx M B w)(ac:dw phx (view w M) B g a)(h:wu E ops o g B v0 rb wr)
  {Kn:Act->World->Prop} {Q:Exit->Act->World->Prop}
  (ap:∀phx' ay w' x,Mem K w0 phx' ay (dx B wr) w'->cm phx M B w phx' ay (dx B wr) w'->a? phx' (view w' ay) (dx B wr) v0 x->Kn (a.put o.dst x) w'):o.wp P a w Kn Q:=by
 obtain⟨F,dQ,cV,sj,aZ,s,ax,f,args,eg,b9,O,R,af,aq,a8,cS,dN,cx,lJ,kO⟩:=h;obtain⟨c6,op,type,i9,after,CE⟩:=o;subst O;have fU:=eo _ _ R;have qw:a? phx (view w M) B (.clo F dQ cV) (a.eval f):=by
  rw[<- aq];cases f with
  |tmp t=>exact ac t
  |func f=>exact⟨[],rfl,rfl⟩
  |const v=>cases af
  |global i=>cases af
 obtain⟨us,aA,oM⟩:=qw;refine Oh oM fU.1 ?_;obtain⟨_,dc⟩:=xF ac (a8 g B λ_ _=>rfl);have bu:(args.toList.map a.eval).toArray=args.map a.eval:=by apply m3;simp
 have iO:(us.take dQ++(args.toList.map a.eval++us.drop dQ)).toArray=(us.take dQ).toArray++args.map a.eval++(us.drop dQ).toArray:=bh;rw[<- iO];obtain⟨bF,b3⟩:=alU dN;subst lJ;refine(fU.frame (dA.gk (.inr (.inl ⟨_,_,R⟩))) hm cx cS (λid hid=>Tb λai=>hid (yT _ ai)) (λid j an=>yT _ (bF id j an)) (λp hp j an=>yT _ (b3 p hp j an)) (λid hid=>wC _ hid) (Qn aA dc)).mono ?_
 grind
def ahk{x:Value}(h:x=undef):a? phx H B .undef x:=h
def Zn(hT:mV P E.b8)(cv:pr P E.b8 E.C)(g3:qB P E.M)(dA:oq P E K w0)(eo:∀f g,E.I f=some g->j2 P f g){ops:Array Oper}{e:eZ}{a:Act}(aj:∀d,e.o.dst=some d->d<nt)(ej:nt<=a.tmps.size)(hm:Mem K w0 phx M B w)(ac:dw phx (view w M) B g a)
  (h:(wL ops.toList e.o g/\∃v0,r1 v0 e.v/\(rv E e.o).aX g B=some (v0,dx B e.wr))\/(EU ops.toList e.o g/\e.v=.undef/\e.wr=[])\/(wL ops.toList e.o g/\∃v0,r1 v0 e.v/\wu E ops.toList e.o g B v0 e.rb e.wr))
  {Kn:Act->World->Prop} {Q:Exit->Act->World->Prop}
  (ap:∀phx' ay w' x,Mem K w0 phx' ay (dx B e.wr) w'->cm phx M B w phx' ay (dx B e.wr) w'->dw phx' (view w' ay) (dx B e.wr) (kE g e.o.dst e.v) (a.put e.o.dst x)->Kn (a.put e.o.dst x) w') :
  if Region.wanted e.o (yielded ops a.tmps) then e.o.wp P a w Kn Q else Kn (a.put e.o.dst undef) w:=by
 have aF:∀d,e.o.dst=some d->d<a.tmps.size:=λd h=>hU (aj d h) ej;rcases h with⟨bb,v0,tT,ra⟩|⟨bb,aC,C0⟩|⟨bb,v0,tT,fC⟩
 .rw[if_pos (VV bb ac)]
  refine TO hT cv g3 dA ra hm ac λr w' bu => ?_;obtain⟨phx',ay,bD,e1,eG⟩:=bu;exact ap phx' ay w' r bD e1 ((ac.ext e1).put aF (tT.bO eG))
 .rw[if_neg (by rw[agk bb ac];simp)]
  have aB:dx B e.wr=B:=by rw[C0];rfl
  have:=ap phx M w undef (by rw[aB];exact hm) (by rw[aB];exact cm.refl _ _ _ _) (by rw[aB,aC];exact ac.put aF (ahk rfl));exact this
 rw[if_pos (VV bb ac)];exact arQ dA eo hm ac fC λphx' ay w' r bD e1 eG=>ap phx' ay w' r bD e1 ((ac.ext e1).put aF (tT.bO eG))
def aha(hT:mV P E.b8)(cv:pr P E.b8 E.C)(g3:qB P E.M)(dA:oq P E K w0)(eo:∀f g,E.I f=some g->j2 P f g){ops:Array Oper}{Q:Exit->Act->World->Prop}:∀(bz:List eZ) {phx:cc} {M:Nat->Prop} {B:Nat->aQ} {g:Nat->au} {w:World} {a:Act},
  wK E ops.toList nt false bz g B->Mem K w0 phx M B w->dw phx (view w M) B g a->nt<=a.tmps.size ->
  (∀phx' ay w' a',Mem K w0 phx' ay (eb bz (λ_=>true) B) w'->cm phx M B w phx' ay (eb bz (λ_=>true) B) w'->dw phx' (view w' ay) (eb bz (λ_=>true) B) (fi bz (λ_=>true) g) a'->g9 (en (bz.map (·.o))) a a'->Q .normal a' w') ->
  wpList P ops Q (bz.map (·.o)) a w
 |[],phx,M,B,g,w,a,_,hm,ac,_,a2=>a2 phx M w a hm (cm.refl _ _ _ _) ac (g9.refl _ _)
 |e::bz,phx,M,B,g,w,a,aC,hm,ac,ej,a2=>by
  obtain⟨⟨aj,iR⟩,aC⟩:=aC;have aF:=tE e.o (bz.map (·.o));have:=Zn (P:=P) (Kn:=wpList P ops Q (bz.map (·.o))) (Q:=Q) hT cv g3 dA eo aj ej hm ac (iR.imp (λ⟨O,v0,R,af,_⟩=>⟨O,v0,R,af⟩) (λh=>h.elim (λ⟨O,R,af,_⟩=>.inl ⟨O,R,af⟩) (λh=>by cases h.1))) λphx' ay w' x bD e1 bp=>by refine aha hT cv g3 dA eo bz aC bD bp (by simp only[Act.put];split<;>simpa using ej) λjG c7 cN cQ cn aN ax b3 => ?_;exact a2 jG c7 cN cQ cn (e1.trans aN) ax ((g9.put aF.1).sub b3 (λt h=>h) aF.2)
  simp only[pi,wpList];split
  .rename_i bb;rw[if_pos bb]at this;exact .inl this
  rename_i bb;rw[if_neg bb]at this;exact this
def yc{t:Nat}:∀(bz:List eZ) {L uK:Nat->Bool} {g i0:Nat->au},g t=i0 t->(∀e∈bz,e.o.dst=some t->L e.i=uK e.i)->fi bz L g t=fi bz uK i0 t
 |[],_,_,_,_,h,_=>h
 |e::bz,L,uK,g,i0,h,hL=>by
  refine yc bz ?_ λbC aA=>hL bC (wF _ aA);have key:∀(x:Nat->au),e.o.dst≠some t->kE x e.o.dst e.v t=x t:=λx eC=>by
   cases aF:e.o.dst with
   |none=>rfl
   |some d=>simp only[kE,o9];rw[if_neg];intro h;exact eC (by grind)
  by_cases aF:e.o.dst=some t
  .rw[hL e EL aF]
   cases uK e.i with
   |false=>exact h
   |true=>simp only[cond,aF,kE,o9,if_true]
  grind
def acH{id:Nat}:∀(l:List (Nat×aQ)) (d l4:aQ),id∈l.map (·.1)->nr l id d=nr l id l4
 |p::l,d,l4,h=>by
  simp only[nr];by_cases hp:p.1=id
  .rw[kp hp];rfl
  rw[hv hp];simp only[pi,gE]at h;exact acH l d l4 (h.resolve_left (nI hp))
def yb{id:Nat}:∀(bz:List eZ) {L uK:Nat->Bool} {B B':Nat->aQ},B id=B' id->(∀e∈bz,id∈e.wr.map (·.1)->L e.i=uK e.i)->eb bz L B id=eb bz uK B' id
 |[],_,_,_,_,h,_=>h
 |e::bz,L,uK,B,B',h,hL=>by
  refine yb bz ?_ λbC aA=>hL bC (wF _ aA);by_cases aF:id∈e.wr.map (·.1)
  .rw[hL e EL aF]
   cases uK e.i with
   |false=>exact h
   |true=>simp only[cond,dx,h]
  have key:∀(x:Nat->aQ),dx x e.wr id=x id:=λx=>xC _ _ aF
  grind
def U0(L:Nat->Bool):∀(a b:List eZ) (g:Nat->au),fi (a++b) L g=fi b L (fi a L g)
 |[],_,_=>rfl
 |e::a,b,g=>U0 L a b _
def UZ(L:Nat->Bool):∀(a b:List eZ) (B:Nat->aQ),eb (a++b) L B=eb b L (eb a L B)
 |[],_,_=>rfl
 |e::a,b,B=>UZ L a b _
def wK.at{ops:List Oper}{dk:Bool}{e:eZ}:∀(pre:List eZ) {post:List eZ} {g:Nat->au} {B:Nat->aQ},wK E ops nt dk (pre++e::post) g B->Jn E ops nt dk (fi pre (λ_=>true) g) (eb pre (λ_=>true) B) e
 |[],_,_,_,h=>h.1
 |_::pre,_,_,_,h=>wK.at pre h.2
end
def OC(e1 aN:eZ)(id:Nat):Prop:=(id∈e1.wr.map (·.1)/\id∈aN.rb)\/(id∈e1.wr.map (·.1)/\id∈aN.wr.map (·.1))\/(id∈e1.rb/\id∈aN.wr.map (·.1))\/(e1.al=true/\id∈aN.wr.map (·.1))\/(aN.al=true/\id∈e1.wr.map (·.1))
def Tj{a b:List Nat}(O:k∈a)(R:k∈b):L? a b=true:=by exact wx.2 ⟨k,O,wx.2 ⟨k,R,BM k⟩⟩
def Zr{e:eZ}:∀{bz:List eZ},e∈bz->(e.al=true\/e.rb≠[]\/e.wr≠[])->(⟨e.i,e.al,e.rb,e.wr.map (·.1)⟩:ot)∈nb bz
 |bC::bz,h,eC=>by
  simp only[nb];rcases gE.1 h with rfl|h
  .grind
  have:=Zr h eC
  grind
def TQ{nO:List Nat}:∀{bz:List eZ},qK nO (nb bz)=true->bz.Pairwise λe1 aN=>∀id,OC e1 aN id->Nat.testBit (nO.getD aN.i 0) e1.i=true
 |[],_=>List.Pairwise.nil
 |e::bz,h=>by
  have split:qK nO (nb bz)=true/\((e.al=true\/e.rb≠[]\/e.wr≠[])->(nb bz).all (λg=>!((⟨e.i,e.al,e.rb,e.wr.map (·.1)⟩:ot).Ks g)||Nat.testBit (nO.getD g.i 0) e.i)=true):=by
   simp only[nb]at h;cases bu:e.al<;>cases ah:e.rb<;>cases bb:e.wr<;>rw[bu,ah,bb]at h
   .grind
   all_goals
    simp only[qK,cL]at h
    grind
  refine List.Pairwise.cons (λaN tP id hh => ?_) (TQ split.1);have eC:(e.al=true\/e.rb≠[]\/e.wr≠[])/\(aN.al=true\/aN.rb≠[]\/aN.wr≠[]):=by
   have d':∀{l:List Nat},id∈l->l≠[]:=λh e=>by rw[e]at h;simp at h
   have azH:∀{l:List (Nat×aQ)},id∈l.map (·.1)->l≠[]:=λh e=>by rw[e]at h;simp at h
   rcases hh with⟨O,R⟩|⟨O,R⟩|⟨O,R⟩|⟨O,R⟩|⟨O,R⟩
   .grind
   .grind
   .grind
   .grind
   grind
  have:=pg.1 (split.2 eC.1) _ (Zr tP eC.2);have eB:(⟨e.i,e.al,e.rb,e.wr.map (·.1)⟩:ot).Ks ⟨aN.i,aN.al,aN.rb,aN.wr.map (·.1)⟩=true:=by
   unfold ot.Ks;have abJ:∀{l:List Nat},id∈l->UW l=true:=λh=>by
    rename_i l;cases l with
    |nil=>cases h
    |cons x l=>rfl
   rcases hh with⟨O,R⟩|⟨O,R⟩|⟨O,R⟩|⟨O,R⟩|⟨O,R⟩
   .simp only[Tj O R,Bool.true_or]
   .simp only[Tj O R,Bool.true_or,Bool.or_true]
   .simp only[Tj O R,Bool.true_or,Bool.or_true]
   .grind
   grind
  grind
def WC(nO:List Nat)(p:Nat×Nat×Nat)(i pS wr:Nat):Prop:=(Nat.land p.2.2 (pS|||wr)=0/\Nat.land p.2.1 wr=0)\/Nat.testBit (nO.getD i 0) p.1=true
def agp{ops:List Oper}{nO:List Nat}:∀{l:List Oper} {i:Nat} {db:List (Nat×Nat×Nat)},IE ops nO i l db=true ->
  (∀p∈db,∀k o,l[k]?=some o->WC nO p (i+k) (kg ops o) (Ex o)) /\
  ∀bF b3 li mf,bF<b3->l[bF]?=some li->l[b3]?=some mf->WC nO (i+bF,kg ops li,Ex li) (i+b3) (kg ops mf) (Ex mf)
 |[],i,db,_=>⟨λp _ k o h=>by simp at h,λbF b3 li mf _ h _=>by simp at h⟩
 |o::l,i,db,h=>by
  simp only[IE,cL]at h;obtain⟨O,R⟩:=h;obtain⟨eG,gt⟩:=agp R;refine⟨λp hp k di ap => ?_,λbF b3 li mf bm re ni => ?_⟩
  .cases k with
   |zero =>simp at ap;subst ap;have:=pg.1 O p hp;simp only[yJ,cL]at this;exact this.imp (λh=>⟨fB h.1,fB h.2⟩) id
   |succ k=>
    grind
  cases b3 with
  |zero=>omega
  |succ b3=>
   cases bF with
   |zero=>
    grind
   |succ bF=>
    grind
def acr(h:Nat.land a b=0)(O:Nat.testBit a t=true)(R:Nat.testBit b t=true):False:=by
 have:Nat.testBit (Nat.land a b) t=true:=by have af:=Nat.testBit_and a b t;exact af.trans (by grind)
 grind
def V8{o:Oper}(h:o.dst=some t):Nat.testBit (Ex o) t=true:=by simp[Ex,h]
def ze(db:List Nat)(s:Nat)(e:Edge):Nat:=bif Region.binds .any e then s|||2^e.on|||db.getD e.on 0 else s
def Z2{db:List Nat}{i:Nat}:∀(l:List Edge) (s:Nat),Nat.testBit (l.foldl (ze db) s) i=true->Nat.testBit s i=true\/∃e∈l,Region.binds .any e=true/\(i=e.on\/Nat.testBit (db.getD e.on 0) i=true)
 |[],s,h=>.inl h
 |e::l,s,h=>by
  rcases Z2 l _ h with h|⟨bC,aA,h⟩
  .unfold ze at h
   grind
  grind
def W2:∀(l:List Oper) (db:List Nat),(∃A6,lE l db=db++A6) /\
  ∀j o,l[j]?=some o->∃pre,pre.length=db.length+j/\(∃A6,lE l db=pre++A6)/\(lE l db).getD (db.length+j) 0=o.after.toList.foldl (ze pre) 0
 |[],db=>⟨⟨[],by simp[lE]⟩,λj o h=>by simp at h⟩
 |o::l,db=>by
  obtain⟨⟨A6,O⟩,R⟩:=W2 l (db++[o.after.toList.foldl (ze db) 0]);have Gu:lE (o::l) db=lE l (db++[o.after.toList.foldl (ze db) 0]):=rfl;refine⟨⟨o.after.toList.foldl (ze db) 0::A6,by rw[Gu,O];simp⟩,λj di an => ?_⟩;cases j with
  |zero =>simp only[OW,km]at an;subst an;refine⟨db,rfl,⟨o.after.toList.foldl (ze db) 0::A6,by rw[Gu,O];simp⟩,?_⟩;rw[Gu,O];simp[nE]
  |succ j =>simp only[JA]at an;obtain⟨pre,dF,gr,lk⟩:=R j di an;simp only[cE,ew,gw]at dF lk;refine⟨pre,J,by rw[Gu];exact gr,?_⟩;rw[Gu,show db.length+(j+1)=db.length+(0+1)+j by omega];exact lk
def Po{ops:List Oper}{L:Nat->Bool}(eB:∀i o,ops[i]?=some o->L i=true->∀e∈o.after.toList,Region.binds .any e=true->L e.on=true):
  ∀j o,ops[j]?=some o->(∀e∈o.after.toList,Region.binds .any e=true->L e.on=true)->∀i,Nat.testBit ((lE ops []).getD j 0) i=true->L i=true:=by
 intro j;induction j using Nat.strongRecOn with
 |_ j ih=>
  intro o aK zC i hi;obtain⟨pre,dF,⟨A6,gr⟩,lk⟩:=(W2 ops []).2 j o aK;simp only[gw,jv]at dF lk;rw[lk]at hi;rcases Z2 _ _ hi with h|⟨e,aA,Y,h|h⟩
  .simp at h
  .rw[h];exact zC e aA Y
  have aqv:=zC e aA Y;have bm:e.on<j:=by
   rcases yY e.on j with bL|bL
   .exact bL
   rw[nE,wA J]at h;simp at h
  have oN:pre.getD e.on 0=(lE ops []).getD e.on 0:=by rw[gr,nE,nE,EN J]
  rw[oN]at h;have cq:e.on<ops.length:=by have:=(mt.1 aK).1;omega
  exact ih e.on bm _ (jM cq) (eB _ _ (jM cq) aqv) i h
def KH:∀{l:List Oper} {i:Nat},u2 i l=true->∀k o,l[k]?=some o->∀e∈o.after.toList,Region.binds .any e=true->e.on<i+k
 |[],_,_,k,o,h=>by simp at h
 |o::l,i,h,k,di,ap=>by
  simp only[u2,cL]at h;cases k with
  |zero =>simp at ap;subst ap;intro e aA Y;have:=pg.1 h.1 e aA;simpa[Y]using this
  |succ k =>intro e aA Y;have:=KH h.2 k di ap e aA Y;omega
end Yp
namespace Yp
open Go
def m2:=@List.drop_eq_getElem_cons
def rV:=@List.length_filter_le
def JB:=@List.eq_nil_iff_forall_not_mem
def EO:=@List.take_append_drop
def EM:=@List.pairwise_cons
def E3:=@List.filter_filter
def JT:=@List.mem_of_getElem?
def JL:=@List.getElem?_map
def JM:=@Nat.lt_trichotomy
def Oy:=@List.getElem_take
variable {P:Program}
section
variable {K:Kp} {w0:World} {E:da} {nt:Nat} {ops:Array Oper} {bz:List eZ}
def lN(j:Nat):Nat->Bool:=λi=>decide (i<j)
def kA(j:Nat):Nat->Bool:=λi=>decide (i<=j)
def e2(b6:Array Bool):Nat->Bool:=λi=>b6.getD i false
def JE{b6:Array Bool}(an:j<b6.size)(i:Nat):e2 (b6.setIfInBounds j true) i=(decide (i=j)||e2 b6 i):=by
 unfold e2;by_cases h:i=j
 .subst h;simp[an]
 simp[BB (nI h),h]
structure k1(E:da)(nt:Nat)(ops:Array Oper)(bz:List eZ)(g0:Nat->au)(B0:Nat->aQ):Prop where
 is:bz.map (·.i)=List.range' 0 ops.size
 os:bz.map (·.o)=ops.toList
 valid:wK E ops.toList nt true bz g0 B0
 slots:IE ops.toList (lE ops.toList []) 0 ops.toList []=true
 edges:u2 0 ops.toList=true
 ord:bz.Pairwise λe1 aN=>∀id,OC e1 aN id->Nat.testBit ((lE ops.toList []).getD aN.i 0) e1.i=true
variable {g0:Nat->au} {B0:Nat->aQ}
def k1.len(f:k1 E nt ops bz g0 B0):bz.length=ops.size:=by
 have:=congrArg List.length f.is
 grind
def k1.at(f:k1 E nt ops bz g0 B0){e:eZ}(h:bz[k]?=some e):e.i=k/\ops.toList[k]?=some e.o:=by
 have O:(bz.map (·.i))[k]?=some e.i:=by rw[JL,h];rfl
 have R:(bz.map (·.o))[k]?=some e.o:=by rw[JL,h];rfl
 rw[f.is,List.getElem?_range']at O
 .rw[f.os]at R
  grind
 grind
def k1.hd(f:k1 E nt ops bz g0 B0){e:eZ}(h:e∈bz):bz[e.i]?=some e:=by
 obtain⟨k,ap,rfl⟩:=uN h;have:=f.at (jM ap)
 grind
def k1.split(f:k1 E nt ops bz g0 B0){e:eZ}(h:e∈bz):∃pre post,bz=pre++e::post/\(∀x∈pre,x.i<e.i)/\(∀x∈post,e.i<x.i):=by
 have hg:=f.hd h;obtain⟨bm,aA⟩:=mt.1 hg;refine⟨bz.take e.i,bz.drop (e.i+1),?_,λx hx => ?_,λx hx => ?_⟩
 .have O:bz.drop e.i=e::bz.drop (e.i+1):=by rw[m2 bm,aA]
  rw[<- O,EO]
 .obtain⟨k,ap,rfl⟩:=uN hx
  rw[hE]at ap;have:bz[k]?=some (bz.take e.i)[k]:=by rw[Oy];exact jM J
  rw[(f.at this).1];omega
 obtain⟨k,ap,rfl⟩:=uN hx;rw[fb]at ap;have:bz[e.i+1+k]?=some (bz.drop (e.i+1))[k]:=by rw[List.getElem_drop];exact jM J
 rw[(f.at this).1];omega
def k1.i3(f:k1 E nt ops bz g0 B0){e1 aN:eZ}(O:e1∈bz)(R:aN∈bz)(bm:e1.i<aN.i){id:Nat}(h:OC e1 aN id):Nat.testBit ((lE ops.toList []).getD aN.i 0) e1.i=true:=by
 obtain⟨pre,post,ac,oN,rg⟩:=f.split O;have hp:=f.ord;rw[ac]at hp R;rcases io.1 R with R|R
 .have:=oN aN R;omega
 rcases gE.1 R with rfl|R
 .omega
 have:=(List.pairwise_append.1 hp).2.1;exact(EM.1 this).1 aN R id h
def k1.NG(f:k1 E nt ops bz g0 B0){e1 aN:eZ}(O:e1∈bz)(R:aN∈bz)(bm:e1.i<aN.i)
  (h:(e1.o.dst=some t/\(Nat.testBit (kg ops.toList aN.o) t=true\/aN.o.dst=some t))\/(Nat.testBit (kg ops.toList e1.o) t=true/\aN.o.dst=some t)) :
  Nat.testBit ((lE ops.toList []).getD aN.i 0) e1.i=true:=by
 have ai:=(agp f.slots).2 e1.i aN.i e1.o aN.o bm (f.at (f.hd O)).2 (f.at (f.hd R)).2;simp at ai;rcases ai with⟨c1,c2⟩|ai
 .exfalso
  rcases h with⟨k?,mB⟩|⟨k?,mB⟩
  .refine acr c1 (V8 k?) ?_
   rcases mB with mB|mB
   .simp[mB]
   simp[V8 mB]
  exact acr c2 k? (V8 mB)
 exact ai
def qW(ops:Array Oper)(L:Nat->Bool):Prop:=∀i o,ops.toList[i]?=some o->L i=true->∀e∈o.after.toList,Region.binds .any e=true->L e.on=true
structure Next(ops:Array Oper)(L:Nat->Bool)(e:eZ):Prop where
 un:L e.i=false
 ed:∀x∈e.o.after.toList,Region.binds .any x=true->L x.on=true
def Next.KJ(f:k1 E nt ops bz g0 B0){L:Nat->Bool}(eB:qW ops L){e x:eZ}(aA:e∈bz)(aj:Next ops L e)(Y:Nat.testBit ((lE ops.toList []).getD e.i 0) x.i=true):L x.i=true:=
 Po eB e.i e.o (f.at (f.hd aA)).2 aj.ed x.i Y
def Next.Oo(f:k1 E nt ops bz g0 B0){L:Nat->Bool}(eB:qW ops L){e x:eZ}(hx:x∈bz)(aj:Next ops L e)(Y:Nat.testBit ((lE ops.toList []).getD x.i 0) e.i=true):L x.i=false:=by
 cases hL:L x.i with
 |false=>rfl
 |true =>have:=Po eB x.i x.o (f.at (f.hd hx)).2 (eB _ _ (f.at (f.hd hx)).2 hL) e.i Y;rw[aj.un]at this;cases this
def axJ{e:eZ}{pre post:List eZ}(oN:∀x∈pre,x.i<e.i)(rg:∀x∈post,e.i<x.i)(t:Nat):fi (pre++e::post) (lN e.i) g0 t=fi pre (λ_=>true) g0 t:=by
 rw[U0];have O:∀(g:Nat->au),fi (e::post) (lN e.i) g t=g t:=λg=>by
  have:fi (e::post) (lN e.i) g t=fi (e::post) (λ_=>false) g t:=yc _ rfl λx hx _=>by
   rcases gE.1 hx with rfl|hx
   .simp[lN]
   have:=rg x hx;simp only[lN,decide_eq_false_iff_not];omega
  rw[this];have:∀(l:List eZ) (g:Nat->au),fi l (λ_=>false) g=g:=by
   intro l;induction l with
   |nil=>intro g;rfl
   |cons y l ih=>intro g;exact ih g
  rw[this]
 rw[O];exact yc pre rfl λx hx _=>by have:=oN x hx;simp[lN,this]
def agU{e:eZ}{pre post:List eZ}(oN:∀x∈pre,x.i<e.i)(rg:∀x∈post,e.i<x.i)(id:Nat):eb (pre++e::post) (lN e.i) B0 id=eb pre (λ_=>true) B0 id:=by
 rw[UZ];have O:∀(B:Nat->aQ),eb (e::post) (lN e.i) B id=B id:=λB=>by
  have:eb (e::post) (lN e.i) B id=eb (e::post) (λ_=>false) B id:=yb _ rfl λx hx _=>by
   rcases gE.1 hx with rfl|hx
   .simp[lN]
   have:=rg x hx;simp only[lN,decide_eq_false_iff_not];omega
  rw[this];have:∀(l:List eZ) (B:Nat->aQ),eb l (λ_=>false) B=B:=by
   intro l;induction l with
   |nil=>intro g;rfl
   |cons y l ih=>intro g;simp only[eb,cond];exact ih g
  rw[this]
 rw[O];exact yb pre rfl λx hx _=>by have:=oN x hx;simp[lN,this]
def awE(f:k1 E nt ops bz g0 B0){L:Nat->Bool}(eB:qW ops L){e:eZ}(aA:e∈bz)(aj:Next ops L e)(ht:Nat.testBit (kg ops.toList e.o) t=true):fi bz L g0 t=fi bz (lN e.i) g0 t:=by
 refine yc bz rfl λx hx aF => ?_;rcases JM x.i e.i with h|h|h
 .have:=aj.KJ f eB aA (f.NG hx aA h (.inl ⟨aF,.inl ht⟩))
  simp[lN,h,this]
 .rw[h,aj.un];simp[lN]
 have:=aj.Oo f eB hx (f.NG aA hx h (.inr ⟨ht,aF⟩));rw[this];simp only[lN];symm;simp;omega
def afU(f:k1 E nt ops bz g0 B0){L:Nat->Bool}(eB:qW ops L){e:eZ}(aA:e∈bz)(aj:Next ops L e){id:Nat}(ht:id∈e.rb\/id∈e.wr.map (·.1)):eb bz L B0 id=eb bz (lN e.i) B0 id:=by
 refine yb bz rfl λx hx aF => ?_;rcases JM x.i e.i with h|h|h
 .have:=aj.KJ f eB aA (f.i3 hx aA h (id:=id) (ht.elim (λh=>.inl ⟨aF,h⟩) (λh=>.inr (.inl ⟨aF,h⟩))))
  simp[lN,h,this]
 .rw[h,aj.un];simp[lN]
 have:=aj.Oo f eB hx (f.i3 aA hx h (id:=id) (ht.elim (λh=>.inr (.inr (.inl ⟨h,aF⟩))) (λh=>.inr (.inl ⟨h,aF⟩))));rw[this];simp only[lN];simp;omega
def add(L:Nat->Bool)(j:Nat):Nat->Bool:=λi=>decide (i=j)||L i
def aiw(f:k1 E nt ops bz g0 B0){L:Nat->Bool}(eB:qW ops L){e:eZ}(aA:e∈bz)(aj:Next ops L e):kE (fi bz L g0) e.o.dst e.v=fi bz (add L e.i) g0:=by
 funext t;by_cases aF:e.o.dst=some t
 .have O:fi bz (add L e.i) g0 t=fi bz (kA e.i) g0 t:=yc bz rfl λx hx zU=>by
   rcases JM x.i e.i with h|h|h
   .have:=aj.KJ f eB aA (f.NG hx aA h (.inl ⟨zU,.inr aF⟩))
    simp[kA,add,Jv h,this]
   .rw[h];simp[kA,add]
   have:=aj.Oo f eB hx (f.NG aA hx h (.inl ⟨aF,.inr zU⟩));have R:¬x.i=e.i:=J;have af:¬x.i<=e.i:=J;simp[kA,add,this,R,af]
  rw[O];obtain⟨pre,post,ac,oN,rg⟩:=f.split aA;have R:∀(g:Nat->au),fi (e::post) (kA e.i) g t=e.v:=λg=>by
   simp only[fi];have:fi post (kA e.i) (bif kA e.i e.i then kE g e.o.dst e.v else g) t=fi post (λ_=>false) (bif kA e.i e.i then kE g e.o.dst e.v else g) t:=yc _ rfl λx hx _=>by have:=rg x hx;simp only[kA,decide_eq_false_iff_not];omega
   rw[this];have:∀(l:List eZ) (g:Nat->au),fi l (λ_=>false) g=g:=by
    intro l;induction l with
    |nil=>intro g;rfl
    |cons y l ih=>intro g;exact ih g
   rw[this];simp[kA,aF,kE,o9]
  have af:fi bz (kA e.i) g0 t=e.v:=by rw[ac,U0];exact R _
  rw[af];simp[aF,kE,o9]
 have O:kE (fi bz L g0) e.o.dst e.v t=fi bz L g0 t:=by
  cases azj:e.o.dst with
  |none=>rfl
  |some d=>simp only[kE,o9];rw[if_neg];intro h;exact aF (by grind)
 rw[O];refine yc bz rfl λx hx zU => ?_;by_cases SI:x.i=e.i
 .have:x=e:=by
   have O:=f.hd hx;have R:=f.hd aA
   grind
  grind
 simp[add,SI]
def aiv(f:k1 E nt ops bz g0 B0){L:Nat->Bool}(eB:qW ops L){e:eZ}(aA:e∈bz)(aj:Next ops L e):dx (eb bz L B0) e.wr=eb bz (add L e.i) B0:=by
 funext id;by_cases aF:id∈e.wr.map (·.1)
 .have O:eb bz (add L e.i) B0 id=eb bz (kA e.i) B0 id:=yb bz rfl λx hx zU=>by
   rcases JM x.i e.i with h|h|h
   .have:=aj.KJ f eB aA (f.i3 hx aA h (id:=id) (.inr (.inl ⟨zU,aF⟩)))
    simp[kA,add,Jv h,this]
   .rw[h];simp[kA,add]
   have:=aj.Oo f eB hx (f.i3 aA hx h (id:=id) (.inr (.inl ⟨aF,zU⟩)));have R:¬x.i=e.i:=J;have af:¬x.i<=e.i:=J;simp[kA,add,this,R,af]
  rw[O];obtain⟨pre,post,ac,oN,rg⟩:=f.split aA;have R:∀(B:Nat->aQ),eb (e::post) (kA e.i) B id=nr e.wr id (B id):=λB=>by
   simp only[eb];have:eb post (kA e.i) (bif kA e.i e.i then dx B e.wr else B) id=eb post (λ_=>false) (bif kA e.i e.i then dx B e.wr else B) id:=yb _ rfl λx hx _=>by have:=rg x hx;simp only[kA,decide_eq_false_iff_not];omega
   rw[this];have:∀(l:List eZ) (g:Nat->aQ),eb l (λ_=>false) g=g:=by
    intro l;induction l with
    |nil=>intro g;rfl
    |cons y l ih=>intro g;exact ih g
   rw[this];simp[kA,dx]
  have af:eb bz (kA e.i) B0 id=nr e.wr id (eb pre (kA e.i) B0 id):=by rw[ac,UZ];exact R _
  rw[af];exact acH _ _ _ aF
 have O:dx (eb bz L B0) e.wr id=eb bz L B0 id:=xC _ _ aF;rw[O];refine yb bz rfl λx hx zU => ?_;by_cases SI:x.i=e.i
 .have:x=e:=by
   have O:=f.hd hx;have R:=f.hd aA
   grind
  grind
 simp[add,SI]
def Rx{o:Oper}{lV:Bool}(O:o.guard=some (j,lV))(R:(ops.toList[j]?).bind (·.dst)=some d):Nat.testBit (kg ops.toList o) d=true:=by
 have Y:∀(l:List Nat),d∈l->Nat.testBit (bits l) d=true:=by
  intro l h;induction l with
  |nil=>simp at h
  |cons x l ih=>
   simp only[bits,E0,yJ];rcases gE.1 h with rfl|h
   .left;simp
   right;exact ih h
 refine Y _ (wC _ ?_);rw[O];simp only[Y7];cases aK:ops.toList[j]? with
 |none=>rw[aK]at R;cases R
 |some di =>rw[aK]at R;have R:di.dst=some d:=R;simp[R]
def ag9(hT:mV P E.b8)(cv:pr P E.b8 E.C)(g3:qB P E.M)(dA:oq P E K w0)(eo:∀f g,E.I f=some g->j2 P f g)(f:k1 E nt ops bz g0 B0){Q:Exit->Act->World->Prop}{ll:cc}{BI:Nat->Prop}{eI:World}{a0:Act}(ej:nt<=a0.tmps.size)
  (a2:∀phx' ay w' a',Mem K w0 phx' ay (eb bz (λ_=>true) B0) w'->cm ll BI B0 eI phx' ay (eb bz (λ_=>true) B0) w'->dw phx' (view w' ay) (eb bz (λ_=>true) B0) (fi bz (λ_=>true) g0) a'->g9 (en ops.toList) a0 a'->Q .normal a' w') :
  ∀(gC:Nat) (b6:Array Bool) (phx:cc) (M:Nat->Prop) (w:World) (a:Act),b6.size=ops.size->qW ops (e2 b6)->((List.range ops.size).filter λi=>!(e2 b6 i)).length<=gC ->
   Mem K w0 phx M (eb bz (e2 b6) B0) w->cm ll BI B0 eI phx M (eb bz (e2 b6) B0) w->dw phx (view w M) (eb bz (e2 b6) B0) (fi bz (e2 b6) g0) a->g9 (en ops.toList) a0 a->wpAny P .any ops Q gC b6 a w:=by

 have all:∀b6:Array Bool,b6.size=ops.size->Region.ready .any ops b6=[]->∀i,i<ops.size->e2 b6 i=true:=by
  intro b6 i4 ah i;induction i using Nat.strongRecOn with
  |_ i ih=>
   intro hi;cases hL:e2 b6 i with
   |true=>rfl
   |false=>
    exfalso;have l?:i∈Region.ready .any ops b6:=by
     rw[mem_ready];refine⟨?_,ops[i],yS hi,λe aA Y => ?_⟩
     .unfold e2 at hL
      have:i<b6.size:=J;simp[this]at hL ⊢;exact hL
     have bm:=KH f.edges i ops[i] (by rw[wB];exact yS hi) e (by simpa using aA) Y;exact ih e.on J J
    rw[ah]at l?;cases l?
 have go:∀(b6:Array Bool) (phx:cc) (M:Nat->Prop) (w:World) (a:Act),b6.size=ops.size->Region.ready .any ops b6=[]->Mem K w0 phx M (eb bz (e2 b6) B0) w->cm ll BI B0 eI phx M (eb bz (e2 b6) B0) w ->
   dw phx (view w M) (eb bz (e2 b6) B0) (fi bz (e2 b6) g0) a->g9 (en ops.toList) a0 a->Q .normal a w:=by
  intro b6 phx M w a i4 ah hm aA ac ap;have hL:=all b6 i4 ah;have fC:∀x∈bz,e2 b6 x.i=true:=λx hx=>hL _ (by have:=(mt.1 (f.hd hx)).1;rw[f.len]at this;exact this)
  have QO:eb bz (e2 b6) B0=eb bz (λ_=>true) B0:=funext λid=>yb bz rfl λx hx _=>fC x hx;have amr:fi bz (e2 b6) g0=fi bz (λ_=>true) g0:=funext λt=>yc bz rfl λx hx _=>fC x hx;rw[QO]at hm aA ac;rw[amr]at ac;exact a2 phx M w a hm aA ac ap
 intro gC;induction gC with
 |zero=>
  intro b6 phx M w a i4 eB aa4 hm aA ac ap;have ah:Region.ready .any ops b6=[]:=by
   rw[JB];intro i hi;obtain⟨ao,o,aK,_⟩:=mem_ready.1 hi;have bm:i<ops.size:=(ip.1 aK).1;have:i∈(List.range ops.size).filter λi=>!(e2 b6 i):=by rw[rZ];refine⟨ov.2 bm,?_⟩;unfold e2;have:i<b6.size:=J;simp[this]at ao ⊢;exact ao
   rw[k3.1 (Nat.le_zero.1 aa4)]at this;cases this
  exact⟨ah,go b6 phx M w a i4 ah hm aA ac ap⟩
 |succ gC ih=>
  intro b6 phx M w a i4 eB aa4 hm aA ac ap;refine⟨λah=>go b6 phx M w a i4 ah hm aA ac ap,λj an => ?_⟩;obtain⟨ao,o,aK,zC⟩:=mem_ready.1 an;have bm:j<ops.size:=(ip.1 aK).1;have CR:j<b6.size:=J;have aaJ:e2 b6 j=false:=by unfold e2;simp[CR]at ao ⊢;exact ao

  obtain⟨e,sr⟩:∃e,bz[j]?=some e:=⟨_,jM (by rw[f.len];exact bm)⟩;have l?:e∈bz:=JT sr;obtain⟨abb,xk⟩:=f.at sr;have abz:e.o=o:=by rw[wB,aK]at xk;exact(lZ xk).symm
  have aj:Next ops (e2 b6) e:=⟨by rw[abb];exact aaJ,λx hx Y=>by rw[abz]at hx;exact zC x (by simpa using hx) Y⟩
  obtain⟨pre,post,hA,oN,rg⟩:=f.split l?;have aC:=f.valid;rw[hA]at aC;obtain⟨f6,iR⟩:=wK.at pre aC;have Gj:∀t,Nat.testBit (kg ops.toList e.o) t=true->fi bz (e2 b6) g0 t=fi pre (λ_=>true) g0 t:=λt ht=>by rw[awE f eB l? aj ht,<- axJ (g0:=g0) oN rg t,<- hA]
  have aos:∀id,id∈e.rb->eb bz (e2 b6) B0 id=eb pre (λ_=>true) B0 id:=λid hid=>by rw[afU f eB l? aj (.inl hid),<- agU (B0:=B0) oN rg id,<- hA]
  have apC:(wL ops.toList e.o (fi bz (e2 b6) g0)/\∃v0,r1 v0 e.v/\(rv E e.o).aX (fi bz (e2 b6) g0) (eb bz (e2 b6) B0)=some (v0,dx (eb bz (e2 b6) B0) e.wr)) \/
    (EU ops.toList e.o (fi bz (e2 b6) g0)/\e.v=.undef/\e.wr=[]) \/
    (wL ops.toList e.o (fi bz (e2 b6) g0)/\∃v0,r1 v0 e.v/\wu E ops.toList e.o (fi bz (e2 b6) g0) (eb bz (e2 b6) B0) v0 e.rb e.wr):=by
   rcases iR with⟨bb,v0,tT,_,GK⟩|⟨bb,xq,CY,_⟩|⟨_,bb,v0,tT,fC⟩
   .left
    refine⟨?_,v0,tT,GK rfl _ _ Gj aos⟩;rcases bb with bb|⟨Hb,lV,d,g1,bw,cW⟩
    .exact .inl bb
    exact .inr ⟨Hb,lV,d,g1,bw,by rw[Gj d (Rx g1 bw)];exact cW⟩
   .right;left
    obtain⟨Hb,lV,d,g1,bw,cW⟩:=bb;exact⟨⟨Hb,lV,d,g1,bw,by rw[Gj d (Rx g1 bw)];exact cW⟩,xq,CY⟩
   right;right;refine⟨?_,v0,tT,fC.congr Gj λid hid => ?_⟩
   .rcases bb with bb|⟨Hb,lV,d,g1,bw,cW⟩
    .exact .inl bb
    exact .inr ⟨Hb,lV,d,g1,bw,by rw[Gj d (Rx g1 bw)];exact cW⟩
   rw[afU f eB l? aj hid,<- agU (B0:=B0) oN rg id,<- hA]
  have Gg:e2 (b6.setIfInBounds j true)=add (e2 b6) e.i:=by funext i;rw[JE CR,abb];rfl
  have aqq:nt<=a.tmps.size:=by rw[ap.1];exact ej
  have ra:=Zn (P:=P) (Kn:=wpAny P .any ops Q gC (b6.setIfInBounds j true)) (Q:=Q) hT cv g3 dA eo f6 aqq hm ac apC λphx' ay w' x bD e1 bp=>by
   rw[aiv f eB l? aj,<- Gg]at bD e1 bp;rw[aiw f eB l? aj,<- Gg]at bp;refine ih (b6.setIfInBounds j true) phx' ay w' _ (by simpa using i4) ?_ ?_ bD (aA.trans e1) bp (ap.sub (g9.put (D:=en ops.toList) λd aF => ?_) (λt h=>h) (λt h=>h))
   .intro i adA Sl xg x hx Y
    rw[JE CR]at xg ⊢;simp only[yJ,decide_eq_true_eq]at xg ⊢;right;rcases xg with xg|xg
    .subst xg
     have:adA=e.o:=by rw[xk]at Sl;exact(lZ Sl).symm
     subst this;exact aj.ed x hx Y
    exact eB i adA Sl xg x hx Y
   .have cq:((List.range ops.size).filter λi=>!(e2 (b6.setIfInBounds j true) i)).length<((List.range ops.size).filter λi=>!(e2 b6 i)).length:=by
     have GS:((List.range ops.size).filter λi=>!(e2 (b6.setIfInBounds j true) i))=((List.range ops.size).filter λi=>!(e2 b6 i)).filter λi=>!(decide (i=j)):=by rw[E3];congr 1;funext i;rw[JE CR,Bool.not_or]
     rw[GS];have l_:j∈((List.range ops.size).filter λi=>!(e2 b6 i)):=by rw[rZ];exact⟨ov.2 bm,by rw[aaJ];rfl⟩
     exact List.length_filter_lt_length_iff_exists.2 ⟨j,l_,bh⟩
    omega
   have:∀(l:List Oper),e.o∈l->d∈en l:=by
    intro l hl;induction l with
    |nil=>cases hl
    |cons y l ih=>
     rcases gE.1 hl with h|h
     .exact(tE y l).1 d (by rw[<- h];exact aF)
     exact(tE y l).2 d (ih h)
   exact this _ (JT xk)
  unfold wpOp;rw[aK];simp only;rw[abz]at ra;split
  .rename_i bb;rw[if_pos bb]at ra;exact .inl ra
  rename_i bb;rw[if_neg bb]at ra;exact ra
def avL(hT:mV P E.b8)(cv:pr P E.b8 E.C)(g3:qB P E.M)(dA:oq P E K w0)(eo:∀f g,E.I f=some g->j2 P f g)(iS:P.follows .mixedOrders=true)(ej:nt<=1000000){id:Nat}{s:aM}{k:aM->aP ρ}{r:ρ}
  (h:((oc E ops.toList nv nt dk true 0 ops.toList s []).bind k).bI=some r) {phx:cc} {M:Nat->Prop} {w:World} {a:Act} (hm:Mem K w0 phx M s.aR w) (ac:dw phx (view w M) s.aR s.bX a) (gh:nt<=a.tmps.size)
  {Q:Exit->Act->World->Prop}
  (a2:∀ax phx' ay w' a',(k ax).bI=some r->dY (en ops.toList) s ax->Mem K w0 phx' ay ax.aR w'->cm phx M s.aR w phx' ay ax.aR w'->dw phx' (view w' ay) ax.aR ax.bX a'->g9 (en ops.toList) a a'->Q .normal a' w') :
  (Code.region id ops dk).wp P Q a w:=by
 obtain⟨ax,⟨bz,bp,O,R,af,aq,a8,cS,dN,cx⟩,ap⟩:=ae5 ej _ _ _ _ _ k r h;have go:∀phx' ay w' a',Mem K w0 phx' ay (eb bz (λ_=>true) s.aR) w'->cm phx M s.aR w phx' ay (eb bz (λ_=>true) s.aR) w'->dw phx' (view w' ay) (eb bz (λ_=>true) s.aR) (fi bz (λ_=>true) s.bX) a'->g9 (en ops.toList) a a'->Q .normal a' w':=by intro phx' ay w' a' bD e1 bp bF;rw[<- a8]at bD e1 bp;rw[<- aq]at bp;exact a2 ax phx' ay w' a' ap dN (by rw[cS.2];exact bD) (by rw[cS.2];exact e1) (bp.N8 cS) bF
 cases dk with
 |false =>refine wp_region_list ?_;have:=aha (P:=P) hT cv g3 dA eo (ops:=ops) (Q:=Q) bz af hm ac gh (by rw[R];exact go);rw[R]at this;exact this
 |true=>
  obtain⟨ah,aK⟩:=cx rfl;simp only[H5,cL]at ah;refine wp_region_any iS ?_;have f:k1 E nt ops bz s.bX s.aR:=⟨by simpa using O,R,af,ah.2,ah.1,TQ (by simpa using aK)⟩;have tM:e2 (Array.replicate ops.size false)=λ_=>false:=by funext i;unfold e2;by_cases hi:i<ops.size<;>simp[hi]
  have Ah:∀(l:List eZ) (B:Nat->aQ),eb l (λ_=>false) B=B:=by
   intro l;induction l with
   |nil=>intro g;rfl
   |cons y l ih=>intro g;simp only[eb,cond];exact ih g
  have Tp:∀(l:List eZ) (g:Nat->au),fi l (λ_=>false) g=g:=by
   intro l;induction l with
   |nil=>intro g;rfl
   |cons y l ih=>intro g;simp only[fi,cond];exact ih g
  have h?:Mem K w0 phx M s.aR { w with drawn:=w.drawn+1 }:={ hm with keep:=hm.keep,blks:=hm.blks };refine ag9 (P:=P) (K:=K) (w0:=w0) hT cv g3 dA eo f gh go ops.size _ phx M { w with drawn:=w.drawn+1 } a bh ?_ ?_ ?_ ?_ ?_ (g9.refl _ _)
  .intro i o _ h;rw[tM]at h;cases h
  .exact e0 (rV _ _) bh
  .rw[tM,Ah];exact h?
  .rw[tM,Ah];exact⟨λ_ _=>rfl,cg.cb.refl _,λ_=>aQ.cb.refl _⟩
  rw[tM,Ah,Tp];exact ac
end
end Yp
namespace Yp
open Go
variable {P:Program}
section
variable {K:Kp} {w0 w:World} {phx:cc} {M:Nat->Prop} {B B':Nat->aQ} {g:Nat->au} {H:cg} {E:da}
def oL{s:aM}{m:aw α}{k:α×aM->aP β}{r:β}(h:((aw.iQ s m).bind k).bI=some r):
  ∃a wr,m.aX s.bX s.aR=some (a,dx s.aR wr)/\(k (a,s.ek wr)).bI=some r:=by
 unfold aw.iQ at h;rw[aP.fe]at h;obtain⟨a,e,O,R⟩:=aw.ae8 s m 0 [] [] _ r h;simp only[aM.Il,aP.bind]at R;exact⟨a,e.wr,O,R⟩
def kI(phx:cc)(M:Nat->Prop)(B:Nat->aQ)(U:Nat->Prop):Prop:=(∀j,(B j).fx=true->∀z,phx j=some z->¬U z.1)/\∀b,U b->M b
def kI.bE{B':Nat->aQ}{U:Nat->Prop}(h:kI phx M B U)(aB:∀j,(B' j).fx=true->(B j).fx=true):kI phx M B' U:=⟨λj an=>h.1 j (aB j an),h.2⟩
def kI.Vy{ay:Nat->Prop}{U:Nat->Prop}(h:kI phx M B U)(ht:nL phx M B ay B'):kI phx ay B' U:=by refine⟨λj an=>h.1 j (ht.2 j an),λb Y=>k2 λaj => ?_⟩;obtain⟨j,an,z,bj,rfl⟩:=ht.1 b (h.2 b Y) aj;exact h.1 j an z bj Y
def uP.bE{lo:Nat->Prop}{U:Nat->Prop}{ay:Nat->Prop}{e:ae}{l:List e.aD}{v:Value}(h:uP w M lo U e l v b)(aC:(view w M).cb (view w ay))(dS:ay b):uP w ay lo U e l v b:=by obtain⟨o,c,el,fz,cap,O,R,af,aq,a8,cS,dN,cx,lJ,kO⟩:=h;exact⟨o,c,el,fz,cap,O,R,af,aq,a8,cS.mono aC,dN,dS,lJ,kO⟩
def Vw(hm:Mem K w0 phx M B w){id:Nat}{e:ae}{l:List e.aD}(aB:B id=.ob e l){v:Value}(bY:off+n<=l.length)(ah:hu phx id e off n v){U:Nat->Prop}(du:kI phx M B U):
  Mem K w0 phx M (cU B id .e') w/\cm phx M B w phx M (cU B id .e') w /\
   ((cut l off n=[]/\(∃a,v=.slice a 0 0)/\kI phx M (cU B id .e') U)\/∃b,uP w M (λb=>¬K.k b) U e (cut l off n) v b/\kI phx M (cU B id .e') λj=>U j\/j=b):=by
 obtain⟨bD,e1⟩:=hm.e' id;refine⟨bD,e1,?_⟩;have mM:∀j,((cU B id .e') j).fx=true->j≠id/\(B j).fx=true:=λj an=>by
  by_cases h:j=id
  .subst h;rw[eM]at an;cases an
  rw[d6 _ _ h]at an;exact⟨h,an⟩
 have dD:=hm.blks id;rw[aB]at dD;rcases ah with⟨O,a,R⟩|⟨b,o,m,cap,O,R,af,aq,a8⟩
 .left
  exact⟨k3.1 (by rw[k_ bY];exact O),⟨a,R⟩,du.bE λj an=>(mM j an).2⟩
 rcases dD.2 with⟨g1,_⟩|⟨b',di,c,el,fz,g1,bw,cW,gg,kw⟩
 .rw[g1]at O;cases O
 rw[O]at g1;cases g1;right;refine⟨b,⟨o+off*e.size,c,el,fz,cap,by rw[k_ bY];exact R,by rw[k_ bY];exact af,aq,by rw[fJ]at a8;omega,bw,⟨?_,λi x hi => ?_⟩,gg,kw,?_,du.1 id (by rw[aB];rfl) _ O⟩,⟨λj an z bj ai => ?_,λj an=>an.elim (du.2 j) (λh=>h▸kw)⟩⟩
 .rw[k_ bY]
  have:=cW.1;have cS:(off+n)*e.size<=l.length*e.size:=iq _ bY;rw[fJ]at cS;omega
 .have fC:=Da hi
  rw[k_ bY]at fC;rw[FF fC]at hi;have:=cW.2 (off+i) x hi
  rwa [fJ,<- ju]at this
 .exact hm.own id (by rw[aB];rfl) _ O
 obtain⟨dK,abo⟩:=mM j an;rcases ai with ai|ai
 .exact du.1 j abo z bj ai
 exact hm.sep j id dK abo (by rw[aB];rfl) z _ bj O ai
def axR{r:ef}{v:au}{x:r.aD}{u:Value}(h:(ag4 r v).aX g B=some (x,B'))(hm:Mem K w0 phx M B w)(ah:a? phx (view w M) B v u){U:Nat->Prop}(du:kI phx M B U):
  ∃ay bV,Mem K w0 phx ay B' w/\cm phx M B w phx ay B' w/\kI phx ay B' bV/\(∀b,U b->bV b) /\
   ∀{rs:List ef} {y:d8 rs} {vs:List Value} {qZ:Nat->Prop},(view w ay).cb (view w qZ)->(∀b,bV b->qZ b)->g_ w qZ (λb=>¬K.k b) rs y vs bV->g_ w qZ (λb=>¬K.k b) (r::rs) (x,y) (u::vs) U:=by
 cases r with
 |im t =>obtain⟨cs,aL,ay,bD,e1,dT,_,f1⟩:=yk h hm ah;exact⟨ay,U,bD,e1,du.Vy dT,λ_ h=>h,λaC _ hrest=>⟨cs,_,by rw[aL],(f1 rfl).mono aC,hrest⟩⟩
 |cl e=>
  cases v<;>try(cases h;done)
  .cases h
   subst ah;exact⟨M,U,hm,cm.refl _ _ _ _,du,λ_ h=>h,λaC _ hrest=>⟨none,_,rfl,aH.ic.2 ⟨none,0,rfl,bU _,J,.inl rfl⟩,hrest⟩⟩
  obtain⟨ai,rfl⟩:=dE h;obtain⟨fp,rfl⟩:=jf ai;subst fp;obtain⟨a,rfl,cv⟩:=ah;exact⟨M,U,hm,cm.refl _ _ _ _,du,λ_ h=>h,λaC _ hrest=>⟨a,_,rfl,cv.mono aC,hrest⟩⟩
 |ow e=>
  replace h:(NQ e v).aX g B=some (x,B'):=h;have go:∀{id:Nat} {l:List e.aD} {off n:Nat},B id=.ob e l->off+n<=l.length->hu phx id e off n u->∃ay bV,Mem K w0 phx ay (cU B id .e') w/\cm phx M B w phx ay (cU B id .e') w/\kI phx ay (cU B id .e') bV/\(∀b,U b->bV b) /\
    ∀{rs:List ef} {y:d8 rs} {vs:List Value} {qZ:Nat->Prop},(view w ay).cb (view w qZ)->(∀b,bV b->qZ b)->g_ w qZ (λb=>¬K.k b) rs y vs bV->g_ w qZ (λb=>¬K.k b) (.ow e::rs) ((cut l off n:List e.aD),y) (u::vs) U:=by
   intro id l off n aB bY aK;obtain⟨bD,e1,af⟩:=Vw hm aB bY aK du;rcases af with⟨af,aq,a8⟩|⟨b,af,a8⟩
   .exact⟨M,U,bD,e1,a8,λ_ h=>h,λaC _ hrest=>⟨_,_,rfl,.inl ⟨af,aq,hrest⟩⟩⟩
   exact⟨M,_,bD,e1,a8,λ_ h=>.inl h,λaC dS hrest=>⟨_,_,rfl,.inr ⟨b,af.bE aC (dS b (.inr rfl)),hrest⟩⟩⟩
  cases v<;>try(cases h;done)
  case nil =>cases h;subst ah;exact⟨M,U,hm,cm.refl _ _ _ _,du,λ_ h=>h,λaC _ hrest=>⟨_,_,rfl,.inl ⟨rfl,⟨none,rfl⟩,hrest⟩⟩⟩
  case own id d'=>
   simp only[NQ,aw.aX]at h;have ac:bM phx (view w M) B (.own id d') u:=ah;simp only[bM]at ac;generalize aB:B id=bl at h ac;cases bl<;>try(cases h)
   rename_i bC l;obtain⟨y,cR,O,R⟩:=aw.cy h;obtain⟨ai,jj⟩:=dE O;obtain⟨fp,rfl⟩:=jf ai;subst fp;cases R;rw[jj];have:=go aB (off:=0) (n:=l.length) J ac.1;rw[Cc]at this;exact this
  case osl id off n=>
   simp only[NQ,aw.aX]at h;have ac:bM phx (view w M) B (.osl id off n) u:=ah;simp only[bM]at ac;generalize aB:B id=bl at h ac;cases bl<;>try(cases h)
   obtain⟨y,cR,O,R⟩:=aw.cy h;obtain⟨ai,jj⟩:=dE O;obtain⟨fp,rfl⟩:=jf ai;subst fp;cases R;rw[jj];exact go aB ac.1 ac.2.1
def DQ:∀{rs:List ef} {vs:List au} {us:List Value} {s:aM} {M:Nat->Prop} {ρ:Type} {k:d8 rs->aP ρ} {r:ρ} {U:Nat->Prop},((n_ s rs vs).bind k).bI=some r ->
  Mem K w0 phx M s.aR w->gm phx (view w M) s.aR vs us->kI phx M s.aR U->∃x ay B',(k x).bI=some r/\Mem K w0 phx ay B' w/\(view w M).cb (view w ay)/\(∀b,U b->ay b)/\g_ w ay (λb=>¬K.k b) rs x us U
 |[],[],[],s,M,ρ,k,r,U,h,hm,_,du=>⟨(),M,_,h,hm,cg.cb.refl _,du.2,rfl⟩
 |[],[],_::_,s,M,ρ,k,r,U,h,hm,hp,du=>hp.elim
 |[],_::_,_,s,M,ρ,k,r,U,h,hm,hp,du=>by cases h
 |_::_,[],_,s,M,ρ,k,r,U,h,hm,hp,du=>by cases h
 |_::_,_::_,[],s,M,ρ,k,r,U,h,hm,hp,du=>hp.elim
 |t::rs,v::vs,u::us,s,M,ρ,k,r,U,h,hm,hp,du=>by simp only[n_]at h;rw[aP.fe]at h;obtain⟨x,wr,O,R⟩:=oL h;simp only at R;rw[aP.fe]at R;obtain⟨ft,tk,bD,e1,dT,bY,vv⟩:=axR O hm hp.1 du;rw[<- aM.nd]at bD e1 dT;obtain⟨y,c7,b4,bG,b_,co,dl,eQ⟩:=DQ R bD (hp.2.ext e1) dT;exact⟨(x,y),c7,b4,bG,b_,e1.vw.trans co,λb Y=>dl b (bY b Y),vv co dl eQ⟩
def sU(P:Program)(tmps:Array Value)(w:World):List ResultVar->List Value->Prop
 |[],us=>us=[]
 |.tmp t::rs,us=>∃s6,us=tmps.getD t undef::s6/\sU P tmps w rs s6
 |.cell a t::rs,us=>∃ad u s6,us=u::s6/\tmps.getD a undef=.pointer (some ad)/\(loadVar t ad).run P w=.ok u w/\sU P tmps w rs s6
def x5(hT:mV P E.b8):∀{l:List ResultVar} {s:aM} {ρ:Type} {k:List au->aP ρ} {r:ρ} {a:Act},((mT E s l).bind k).bI=some r->Mem K w0 phx M s.aR w->dw phx (view w M) s.aR s.bX a ->
  ∃vs us,(k vs).bI=some r/\gm phx (view w M) s.aR vs us/\sU P a.tmps w l us
 |[],s,ρ,k,r,a,h,hm,ac=>⟨[],[],h,trivial,rfl⟩
 |UF::l,s,ρ,k,r,a,h,hm,ac=>by
  simp only[mT]at h;rw[aP.fe]at h;obtain⟨v,wr,O,R⟩:=oL h;rw[aP.fe]at R;cases UF with
  |tmp t =>simp only[aeR,aw.aX,km,kH]at O;obtain⟨rfl,aB⟩:=O;obtain⟨vs,us,af,aq,a8⟩:=x5 hT R hm ac;exact⟨s.bX t::vs,a.tmps.getD t undef::us,af,⟨ac t,aq⟩,us,rfl,a8⟩
  |cell ad t=>
   obtain⟨ty,ht,O⟩:=lj O;simp only[aw.aX]at O;have hp:=ac ad;obtain⟨aB,u,g1,bw⟩:=acA (hT _ _ ht) O hm hp;obtain⟨vs,us,af,aq,a8⟩:=x5 hT R hm ac;have aqG:∃q,a.tmps.getD ad undef=.pointer (some q):=by
    generalize s.bX ad=pv at O hp;cases pv<;>try(cases O)
    case ptr id p=>
     simp only[xB,aw.aX]at O;have hp:bM phx (view w M) s.aR (.ptr id p) (a.tmps.getD ad undef):=hp;simp only[bM]at hp;generalize s.aR id=bl at O hp;cases bl<;>try(cases O)
     grind
    case opt id i p=>
     simp only[xB,aw.aX]at O;have hp:bM phx (view w M) s.aR (.opt id i p) (a.tmps.getD ad undef):=hp;simp only[bM]at hp;generalize s.aR id=bl at O hp;cases bl<;>try(cases O)
     all_goals
      grind
    case ipt e l i p =>obtain⟨_,b,o,n,off,t',_,_,e⟩:=hp;exact⟨_,e⟩
   obtain⟨q,a2⟩:=aqG;rw[a2]at g1;refine⟨v::vs,u::us,af,⟨bw,aq⟩,q,u,us,rfl,a2,?_,a8⟩;simpa[Instr.loadAt,Instr.sureAddr]using g1
def v2{fn:Func}{tmps:Array Value}{us:List Value}(h:sU P tmps w fn.results.toList us):(results fn tmps).run P w=.ok (i? us) w:=by
 have key:∀(f:ResultVar->Sem Value),(∀t,f (.tmp t)=pure (tmps.getD t undef))->(∀a t,f (.cell a t)=do loadVar t (<- asAddr (tmps.getD a undef))) ->
   ∀(l:List ResultVar) (us:List Value),sU P tmps w l us->(l.mapM f).run P w=Result.ok us w:=by
  intro f f1 f2 l;induction l with
  |nil=>intro us h;cases h;rfl
  |cons UF l ih=>
   intro us h;cases UF with
   |tmp t =>obtain⟨s6,rfl,h⟩:=h;simp[OJ,ih s6 h,f1]
   |cell a t =>obtain⟨ad,u,s6,rfl,O,R,af⟩:=h;simp only[OJ,f2,O,asAddr];simp[ih s6 af,R]
 unfold results;rw[Array.mapM_eq_mapM_toList];simp only[Sem.run_bind,Sem.run_map];rw[key _ (λ_=>rfl) (λ_ _=>rfl) _ _ h];match us with
 |[]=>rfl
 |[_]=>rfl
 |_::_::_=>rfl
end
end Yp
namespace Yp
open Go
variable {P:Program}
def iH(B B':Nat->aQ):Prop:=∀id,((∃t v,B id=.box t v)\/∃s p,B id=.it s p)->B' id=B id
def iH.refl(B:Nat->aQ):iH B B:=λ_ _=>rfl
def iH.trans{B B' EE:Nat->aQ}(h:iH B B')(k:iH B' EE):iH B EE:=λid hi=>by have O:=h id hi;rw[k id (by grind),O]
def iH.cj{B:Nat->aQ}{id:Nat}{e:ae}{l:List e.aD}(h:B id=.ob e l)(b:aQ):iH B (cU B id b):=λj an=>by
 rw[d6]
 grind
section
variable {g:Nat->au}
def awk{eJ:Bool}{id:Nat}{e:ae}{x:List e.aD}{B B':Nat->aQ}(h:(sV eJ id e).aX g B=some (x,B')):iH B B':=by
 simp only[sV,aw.aX]at h;generalize aB:B id=bl at h;cases bl<;>try(cases h)
 .obtain⟨y,cR,O,R⟩:=aw.cy h
  obtain⟨_,jj⟩:=dE O;cases eJ with
  |false=>cases R;rw[jj];exact iH.refl _
  |true=>cases R;rw[jj];exact iH.cj aB _
 obtain⟨_,O⟩:=dE h;rw[O];exact iH.refl _
def ag3{eJ:Bool}:∀{pv:au} {t:ae} {x:t.aD} {B B':Nat->aQ},Am pv=true->(yj eJ pv t).aX g B=some (x,B')->iH B B':=by
 intro pv;induction pv with
 |own id d'=>
  intro t x B B' _ h;cases t<;>try(cases h)
  exact awk h
 |osl id off n=>intro t x B B' aj;cases aj
 |two u v aL aC=>
  intro t x B B' aj h;simp only[Am,cL]at aj;cases t<;>try(cases h)
  obtain⟨y,cR,O,R⟩:=aw.cy h;obtain⟨z,b4,af,aq⟩:=aw.cy R;cases aq;exact(aL aj.1 O).trans (aC aj.2 af)
 |agg t' u aL =>intro t x B B' aj h;have bL:=h;obtain⟨_,bL⟩:=gx bL;exact aL aj bL
 |sc t' y=>intro t x B B' _ h;obtain⟨_,O⟩:=dE h;rw[O];exact iH.refl _
 |kb b=>intro t x B B' _ h;obtain⟨_,O⟩:=dE h;rw[O];exact iH.refl _
 |nil=>intro t x B B' _ h;obtain⟨_,O⟩:=dE h;rw[O];exact iH.refl _
 |csl e l=>intro t x B B' _ h;obtain⟨_,O⟩:=dE h;rw[O];exact iH.refl _
 |clo f dQ cV=>intro t x B B' _ h;obtain⟨_,O⟩:=dE h;rw[O];exact iH.refl _
 |_=>intro t x B B' _ h;cases h
def ad9{e:ae}{pv:au}{x:List e.aD}{B B':Nat->aQ}(h:(xP e pv).aX g B=some (x,B')):iH B B':=by
 cases pv<;>try(cases h)
 .obtain⟨_,h⟩:=gx (h)
  cases h;exact iH.refl _
 .rename_i id d'
  simp only[xP,aw.aX]at h;generalize aB:B id=bl at h;cases bl<;>try(cases h)
  obtain⟨y,cR,O,R⟩:=aw.cy h;obtain⟨_,jj⟩:=dE O;cases R;rw[jj];exact iH.cj aB _
 rename_i id off n;simp only[xP,aw.aX]at h;generalize aB:B id=bl at h;cases bl<;>try(cases h)
 obtain⟨y,cR,O,R⟩:=aw.cy h;obtain⟨_,jj⟩:=dE O;cases R;rw[jj];exact iH.cj aB _
def TS:∀{sh:j3} {pv:au} {x:sh.aD} {B B':Nat->aQ},(Ay sh pv).aX g B=some (x,B')->iH B B'
 |.d t,pv,x,B,B',h=>by obtain⟨aj,h⟩:=gx (h);exact ag3 (pv:=pv) aj h
 |.o _ e,pv,x,B,B',h=>ad9 h
 |.p a b,pv,x,B,B',h=>by
  simp only[Ay]at h;cases ac:NK pv with
  |none=>rw[ac]at h;cases h
  |some aya =>rw[ac]at h;obtain⟨y,cR,O,R⟩:=aw.cy h;obtain⟨z,b4,af,aq⟩:=aw.cy R;cases aq;exact(TS O).trans (TS af)
end
def q1(w:World)(M:Nat->Prop)(lo:Nat->Prop):(sh:j3)->sh.aD->List Value->(Nat->Prop)->(Nat->Prop)->Prop
 |.d t,x,cs,U,bV=>aH (view w M) t x cs/\bV=U
 |.o _ e,l,cs,U,bV=>0<e.size/\∃v,cs=[v]/\v.oneCell'=true/\(((l:List e.aD)=[]/\(∃a,v=.slice a 0 0)/\bV=U)\/∃b,uP w M lo U e l v b/\bV=λj=>U j\/j=b)
 |.p a b,x,cs,U,bV=>∃c1 c2 jc,cs=c1++c2/\q1 w M lo a x.1 c1 U jc/\q1 w M lo b x.2 c2 jc bV
def q1.one{w:World}{M:Nat->Prop}{lo:Nat->Prop}:∀{sh:j3} {x:sh.aD} {cs:List Value} {U bV:Nat->Prop},q1 w M lo sh x cs U bV->∀v∈cs,v.oneCell'=true
 |.d t,x,cs,U,bV,h=>h.1.one
 |.o _ e,l,cs,U,bV,h=>by obtain⟨_,v,rfl,O,_⟩:=h;intro w bb;simp at bb;rw[bb];exact O
 |.p a b,x,cs,U,bV,h=>by obtain⟨c1,c2,jc,rfl,O,R⟩:=h;intro v aC;exact(io.1 aC).elim (O.one v) (R.one v)
def q1.sub{w:World}{M:Nat->Prop}{lo:Nat->Prop}:∀{sh:j3} {x:sh.aD} {cs:List Value} {U bV:Nat->Prop},q1 w M lo sh x cs U bV->∀b,U b->bV b
 |.d t,x,cs,U,bV,h=>by intro b Y;rw[h.2];exact Y
 |.o _ e,l,cs,U,bV,h=>by
  obtain⟨_,v,_,_,h⟩:=h
  grind
 |.p a b,x,cs,U,bV,h=>by obtain⟨c1,c2,jc,_,O,R⟩:=h;exact λb Y=>R.sub b (O.sub b Y)
def q1.bE{w:World}{M ay:Nat->Prop}{lo:Nat->Prop}(aC:(view w M).cb (view w ay)):∀{sh:j3} {x:sh.aD} {cs:List Value} {U bV:Nat->Prop},q1 w M lo sh x cs U bV->(∀b,bV b->ay b)->q1 w ay lo sh x cs U bV
 |.d t,x,cs,U,bV,h,_=>⟨h.1.mono aC,h.2⟩
 |.o _ e,l,cs,U,bV,h,dS=>by
  obtain⟨ao,v,O,R,h⟩:=h;refine⟨ao,v,O,R,?_⟩;rcases h with h|⟨b,h,af⟩
  .grind
  exact .inr ⟨b,h.bE aC (dS b (by grind)),af⟩
 |.p a b,x,cs,U,bV,h,dS=>by obtain⟨c1,c2,jc,ao,O,R⟩:=h;exact⟨c1,c2,jc,ao,O.bE aC (λb Y=>dS b (R.sub b Y)),R.bE aC dS⟩
section
variable {K:Kp} {w0 w:World} {phx:cc} {M:Nat->Prop} {B B':Nat->aQ} {g:Nat->au}
def axl{H:cg}{pv u v:au}{agM ny:ae}{cs:List Value}(h:NK pv=some (u,v))(ah:e3 phx H B pv (.pair agM ny) cs):∃c1 c2,cs=c1++c2/\e3 phx H B u agM c1/\e3 phx H B v ny c2:=by
 cases pv<;>try(cases h;done)
 .rename_i t x
  cases t<;>try(cases h;done)
  cases h;obtain⟨e,cv⟩:=ah;cases e;obtain⟨c1,c2,ao,O,R⟩:=aH.mh.1 cv;exact⟨c1,c2,ao,⟨rfl,O⟩,rfl,R⟩
 cases h;exact ah
def ad8{e:ae}{pv:au}{x:List e.aD}{v:Value}(h:(xP e pv).aX g B=some (x,B'))(hm:Mem K w0 phx M B w)(ah:bM phx (view w M) B pv v){U:Nat->Prop}(du:kI phx M B U):
  0<e.size/\v.oneCell'=true/\∃bV,Mem K w0 phx M B' w/\cm phx M B w phx M B' w/\kI phx M B' bV/\((x=[]/\(∃a,v=.slice a 0 0)/\bV=U)\/∃b,uP w M (λb=>¬K.k b) U e x v b/\bV=λj=>U j\/j=b):=by
 cases pv<;>try(cases h;done)
 .obtain⟨ao,h⟩:=gx (show(bif Nat.blt 0 e.size then .ret []else .fail:aw (List e.aD)).aX g B=some (x,B') from h)
  cases h;simp only[bM]at ah;subst ah;exact⟨by simpa using ao,rfl,U,hm,cm.refl _ _ _ _,du,.inl ⟨rfl,⟨none,rfl⟩,rfl⟩⟩
 .rename_i id d'
  simp only[xP,aw.aX]at h;have dD:=hm.blks id;simp only[bM]at ah;generalize aB:B id=bl at h ah dD;cases bl<;>try(cases h;done)
  rename_i bC l;obtain⟨y,cR,O,R⟩:=aw.cy h;obtain⟨ai,jj⟩:=dE O;obtain⟨fp,rfl⟩:=jf ai;subst fp;cases R;rw[jj];obtain⟨bD,e1,af⟩:=Vw hm aB (off:=0) (n:=l.length) J ah.1 du;rw[Cc]at af;obtain⟨ad,c,aC⟩:=ah.1.slice;refine⟨dD.1,by rw[aC];rfl,?_⟩;rcases af with⟨af,aq,a8⟩|⟨b,af,a8⟩
  .exact⟨U,bD,e1,a8,.inl ⟨af,aq,rfl⟩⟩
  exact⟨_,bD,e1,a8,.inr ⟨b,af,rfl⟩⟩
 rename_i id off n;simp only[xP,aw.aX]at h;have dD:=hm.blks id;simp only[bM]at ah;generalize aB:B id=bl at h ah dD;cases bl<;>try(cases h;done)
 rename_i bC l;obtain⟨y,cR,O,R⟩:=aw.cy h;obtain⟨ai,jj⟩:=dE O;obtain⟨fp,rfl⟩:=jf ai;subst fp;cases R;rw[jj];obtain⟨bD,e1,af⟩:=Vw hm aB ah.1 ah.2.1 du;obtain⟨ad,c,aC⟩:=ah.2.1.slice;refine⟨dD.1,by rw[aC];rfl,?_⟩;rcases af with⟨af,aq,a8⟩|⟨b,af,a8⟩
 .exact⟨U,bD,e1,a8,.inl ⟨af,aq,rfl⟩⟩
 exact⟨_,bD,e1,a8,.inr ⟨b,af,rfl⟩⟩
def TR:∀{sh:j3} {pv:au} {x:sh.aD} {M:Nat->Prop} {B B':Nat->aQ} {cs:List Value} {U:Nat->Prop},(Ay sh pv).aX g B=some (x,B')->Mem K w0 phx M B w->e3 phx (view w M) B pv (D5 sh) cs->kI phx M B U ->
  ∃ay bV,Mem K w0 phx ay B' w/\cm phx M B w phx ay B' w/\kI phx ay B' bV/\q1 w ay (λb=>¬K.k b) sh x cs U bV
 |.d t,pv,x,M,B,B',cs,U,h,hm,ah,du=>by obtain⟨_,h⟩:=gx (h);obtain⟨ay,bD,e1,dT,_,f1⟩:=IZ (pv:=pv) h hm ah;exact⟨ay,U,bD,e1,du.Vy dT,f1 rfl,rfl⟩
 |.o _ e,pv,x,M,B,B',cs,U,h,hm,ah,du=>by
  have bL:=h;have ky:∃v,cs=[v]/\bM phx (view w M) B pv v:=by
   cases pv<;>try(cases bL)
   all_goals (obtain⟨_,v,O,_,R⟩:=ah;exact⟨v,O,R⟩)
  obtain⟨v,rfl,ky⟩:=ky;obtain⟨ao,O,bV,bD,e1,dT,R⟩:=ad8 bL hm ky du;exact⟨M,bV,bD,e1,dT,ao,v,rfl,O,R⟩
 |.p a b,pv,x,M,B,B',cs,U,h,hm,ah,du=>by
  simp only[Ay]at h;cases ac:NK pv with
  |none=>rw[ac]at h;cases h
  |some aya =>rw[ac]at h;obtain⟨y,cR,O,R⟩:=aw.cy h;obtain⟨z,b4,af,aq⟩:=aw.cy R;cases aq;obtain⟨c1,c2,rfl,eG,gt⟩:=axl ac ah;obtain⟨ft,tk,bD,e1,dT,f1⟩:=TR O hm eG du;obtain⟨c7,aip,cn,aN,ev,f2⟩:=TR af bD (e1.b8 gt) dT;exact⟨c7,aip,cn,e1.trans aN,ev,c1,c2,tk,rfl,f1.bE aN.vw (λb Y=>ev.2 b (f2.sub b Y)),f2⟩
end
def hr(phx:cc)(w:World)(M:Nat->Prop)(B:Nat->aQ)(lo:Nat->Prop)(a:Act):(es:List eY)->mC es->(Nat->Prop)->(Nat->Prop)->Prop
 |[],_,U,bV=>bV=U
 |.sl i t::r,x,U,bV=>(∃cs,aH (view w M) t x.1 cs/\a.tmps.getD i undef=ct t cs)/\hr phx w M B lo a r x.2 U bV
 |.ow i _ e::r,x,U,bV=>0<e.size/\∃jc,(((x.1:List e.aD)=[]/\(∃ad,a.tmps.getD i undef=.slice ad 0 0)/\jc=U)\/∃b,uP w M lo U e x.1 (a.tmps.getD i undef) b/\jc=λj=>U j\/j=b)/\hr phx w M B lo a r x.2 jc bV
 |.bk id e::r,x,U,bV=>B id=.ob e x.1/\hr phx w M B lo a r x.2 U bV
 |.bx id t sh::r,x,U,bV=>(∃v,B id=.box t v)/\D5 sh=t/\∃b o c el fz jc,phx id=some (b,o,Array.size c)/\w.heap[b]?=some (.cells c el fz)/\o+t.size<=c.size/\h4 c fz/\M b/\q1 w M lo sh x.1 (cF c o t.size) U jc/\hr phx w M B lo a r x.2 jc bV
 |.it id _::r,x,U,bV=>(∃s,B id=.it s x.1)/\hr phx w M B lo a r x.2 U bV
def hr.sub{phx:cc}{w:World}{M:Nat->Prop}{B:Nat->aQ}{lo:Nat->Prop}{a:Act}:∀{es:List eY} {x:mC es} {U bV:Nat->Prop},hr phx w M B lo a es x U bV->∀b,U b->bV b
 |[],_,U,bV,h=>by intro b Y;rw[h];exact Y
 |.sl i t::r,x,U,bV,h=>h.2.sub
 |.ow i _ e::r,x,U,bV,h=>by
  obtain⟨_,jc,O,R⟩:=h;intro b Y;refine R.sub b ?_
  grind
 |.bk id e::r,x,U,bV,h=>h.2.sub
 |.bx id t sh::r,x,U,bV,h=>by obtain⟨_,_,b,o,c,el,fz,jc,_,_,_,_,_,O,R⟩:=h;exact λb Y=>R.sub b (O.sub b Y)
 |.it id s::r,x,U,bV,h=>h.2.sub
end Yp
namespace Yp
open Go
def rY:=@List.nodup_append
def EY:=@List.map_append
def OY:=@List.sublist_cons_self
def Wl:=@List.Sublist.append_left
def OG:=@List.nodup_cons
variable {P:Program}
section
variable {K:Kp} {w0 w:World} {phx:cc} {M:Nat->Prop} {B B':Nat->aQ} {g:Nat->au} {a:Act}
def iH.box{B B':Nat->aQ}(h:iH B B'){id:Nat}{t:ae}{v:au}(Y:B id=.box t v):B' id=.box t v:=(h id (.inl ⟨t,v,Y⟩)).trans Y
def iH.it{B B':Nat->aQ}(h:iH B B'){id:Nat}{s:List UInt8}{p:Nat}(Y:B id=.it s p):B' id=.it s p:=(h id (.inr ⟨s,p,Y⟩)).trans Y
def Ax:∀{es:List eY} {s:aM} {M:Nat->Prop} {U:Nat->Prop} {ρ:Type} {k:mC es×aM->aP ρ} {r:ρ},((ry s es).bind k).bI=some r->Mem K w0 phx M s.aR w->dw phx (view w M) s.aR s.bX a->kI phx M s.aR U ->
  ∃y ax c7 bV,(k (y,ax)).bI=some r/\Mem K w0 phx c7 ax.aR w/\cm phx M s.aR w phx c7 ax.aR w/\ax.bX=s.bX/\dY [] s ax/\iH s.aR ax.aR/\kI phx c7 ax.aR bV/\hr phx w c7 ax.aR (λb=>¬K.k b) a es y U bV
 |[],s,M,U,ρ,k,r,h,hm,ac,du=>⟨(),s,M,U,h,hm,cm.refl _ _ _ _,rfl,dY.refl _ _,iH.refl _,du,rfl⟩
 |.bk id e::es,s,M,U,ρ,k,r,h,hm,ac,du=>by
  simp only[ry,zY,cond_true]at h;rw[aP.fe]at h;obtain⟨y,ax,c7,bV,O,cn,aN,ev,f2,qQ,oh,qg⟩:=Ax h hm ac du;rw[aP.fe]at O;simp only[Aw]at O;obtain⟨x,wr,af,aq⟩:=oL O;simp only[aw.aX]at af;generalize aB:ax.aR id=bl at af;cases bl<;>try(cases af;done)
  rename_i bC l;obtain⟨ai,j9⟩:=dE af;obtain⟨fp,rfl⟩:=jf ai;subst fp;rw[<- aM.nd]at j9;refine⟨(l,y),ax.ek wr,c7,bV,aq,by rw[j9];exact cn,by rw[j9];exact aN,by rw[aM.pX];exact ev,(f2.trans (dY.ek wr [])).mono bh,by rw[j9];exact qQ,by rw[j9];exact oh,?_⟩;rw[j9];exact⟨aB,qg⟩
 |.sl i t::es,s,M,U,ρ,k,r,h,hm,ac,du=>by simp only[ry,zY,cond_false]at h;rw[aP.fe]at h;simp only[Aw]at h;obtain⟨x,wr,O,R⟩:=oL h;simp only at R;rw[aP.fe]at R;simp only[aw.aX]at O;obtain⟨vr,O⟩:=gx (show(bif Am (s.bX i) then lT true t (s.bX i) else .fail:aw t.aD).aX _ _=some (x,_) from O);obtain⟨cs,aC,ft,bD,e1,dT,_,f1⟩:=yk O hm (ac i);have eL:=ag3 (pv:=s.bX i) vr O;rw[<- aM.nd]at bD e1 dT eL;obtain⟨y,ax,c7,bV,af,cn,aN,ev,f2,qQ,oh,qg⟩:=Ax R bD (by rw[aM.pX];exact ac.ext e1) (du.Vy dT);exact⟨(x,y),ax,c7,bV,af,cn,e1.trans aN,ev.trans (aM.pX s wr),((dY.ek wr []).trans f2).mono bh,eL.trans qQ,oh,⟨cs,(f1 rfl).mono aN.vw,aC⟩,qg⟩
 |.ow i id e::es,s,M,U,ρ,k,r,h,hm,ac,du=>by
  simp only[ry,zY,cond_false]at h;rw[aP.fe]at h;simp only[Aw]at h;obtain⟨x,wr,O,R⟩:=oL h;simp only at R;rw[aP.fe]at R;simp only[aw.aX]at O;have ky:bM phx (view w M) s.aR (s.bX i) (a.tmps.getD i undef):=by
   have ah:=ac i;generalize s.bX i=pv at O ah;cases pv<;>try(cases O;done)
   all_goals exact ah
  obtain⟨ao,hone,tk,bD,e1,dT,f1⟩:=ad8 O hm ky du;have eL:=ad9 O;rw[<- aM.nd]at bD e1 dT eL;obtain⟨y,ax,c7,bV,af,cn,aN,ev,f2,qQ,oh,qg⟩:=Ax R bD (by rw[aM.pX];exact ac.ext e1) dT;refine⟨(x,y),ax,c7,bV,af,cn,e1.trans aN,ev.trans (aM.pX s wr),((dY.ek wr []).trans f2).mono bh,eL.trans qQ,oh,ao,tk,?_,qg⟩;rcases f1 with f1|⟨b,f1,f3⟩
  .exact .inl f1
  exact .inr ⟨b,f1.bE aN.vw (oh.2 b (qg.sub b (by rw[f3];exact .inr rfl))),f3⟩
 |.bx id t sh::es,s,M,U,ρ,k,r,h,hm,ac,du=>by
  simp only[ry,zY,cond_false]at h;rw[aP.fe]at h;simp only[Aw]at h;obtain⟨x,wr,O,R⟩:=oL h;simp only at R;rw[aP.fe]at R;simp only[aw.aX]at O;have dD:=hm.blks id;generalize aB:s.aR id=bl at O dD;cases bl<;>try(cases O;done)
  rename_i t' v;obtain⟨ai,O⟩:=gx O;simp only[cL]at ai;have e1:=eD ai.1;subst e1;have ri:=eD ai.2;obtain⟨b,o,c,el,fz,g1,bw,cW,gg,kw,si⟩:=dD;obtain⟨ft,tk,bD,e1,dT,f1⟩:=TR O hm (by rw[ri];exact gg) du;have eL:=TS O;rw[<- aM.nd]at bD e1 dT eL;obtain⟨y,ax,c7,bV,af,cn,aN,ev,f2,qQ,oh,qg⟩:=Ax R bD (by rw[aM.pX];exact ac.ext e1) dT;have j9:ax.aR id=.box t' v:=(eL.trans qQ).box aB;have aoz:c7 b:=by have:=cn.blks id;rw[j9]at this;obtain⟨b',di,cK,w3,pA,bG,_,_,_,_,lq⟩:=this;rw[g1]at bG;simp only[km,kH]at bG;rw[bG.1];exact lq
  exact⟨(x,y),ax,c7,bV,af,cn,e1.trans aN,ev.trans (aM.pX s wr),((dY.ek wr []).trans f2).mono bh,eL.trans qQ,oh,⟨v,j9⟩,ri,b,o,c,el,fz,tk,g1,bw,cW,kw,aoz,
   f1.bE aN.vw (λb Y=>oh.2 b (qg.sub b Y)),qg⟩
 |.it id str::es,s,M,U,ρ,k,r,h,hm,ac,du=>by
  simp only[ry,zY,cond_false]at h;rw[aP.fe]at h;simp only[Aw]at h;obtain⟨x,wr,O,R⟩:=oL h;simp only at R;rw[aP.fe]at R;simp only[aw.aX]at O;generalize aB:s.aR id=bl at O;rcases bl with _|_|_|_|_|⟨axx,p⟩|_
  .cases O
  .cases O
  .cases O
  .cases O
  .cases O
  .have sk:=lZ (show some ((p:Nat),s.aR)=some ((x:Nat),dx s.aR wr) from O)
   have hx:p=x:=congrArg Prod.fst sk;have jj:s.aR=dx s.aR wr:=congrArg Prod.snd sk;rw[<- aM.nd]at jj;obtain⟨y,ax,c7,bV,af,cn,aN,ev,f2,qQ,oh,qg⟩:=Ax R (by rw[<- jj];exact hm) (by rw[aM.pX,<- jj];exact ac) (by rw[<- jj];exact du);rw[<- jj]at aN qQ;exact⟨(x,y),ax,c7,bV,af,cn,aN,ev.trans (aM.pX s wr),((dY.ek wr []).trans f2).mono bh,qQ,oh,⟨axx,by rw[<- hx];exact qQ.it aB⟩,qg⟩
  cases O
def aQ.cb.trans{a b c:aQ}(h:a.cb b)(k:b.cb c):a.cb c:=by cases a<;>cases b<;>cases c<;>simp only[aQ.cb]at h k ⊢ <;> first|exact h.elim|exact k.elim|trivial|exact h.trans k|exact⟨h.1.trans k.1,h.2.trans k.2⟩|exact⟨h.trans k.1,k.2⟩|(obtain⟨O,R⟩:=h;obtain⟨rfl,aq⟩:=k;exact⟨by rw[O,aq],R⟩)
def BC(phx:cc)(B:Nat->aQ)(Uf A:Nat->Prop):Prop:=∀j,(B j).fx=true->∀z,phx j=some z->¬Uf z.1\/A z.1
def WN(hm:Mem K w0 phx M B w){id:Nat}(hid:B id=.new){e:ae}(dB:0<e.size){l:List e.aD}{v:Value}{U bV Uf A:Nat->Prop}
  (h:(l=[]/\(∃ad,v=.slice ad 0 0)/\bV=U)\/∃b,uP w M (λb=>¬K.k b) U e l v b/\bV=λj=>U j\/j=b) (mL:∀b,bV b->Uf b) (dn:∀b,A b->bV b->U b) (cw:BC phx B Uf A) :
  ∃phx',Mem K w0 phx' M (cU B id (.ob e l)) w/\cm phx M B w phx' M (cU B id (.ob e l)) w/\bM phx' (view w M) (cU B id (.ob e l)) (.own id false) v/\(∀j,j≠id->phx' j=phx j)/\BC phx' (cU B id (.ob e l)) Uf (λb=>A b\/(bV b/\¬U b)):=by
 rcases h with⟨rfl,⟨ad,rfl⟩,rfl⟩|⟨b,⟨o,c,el,fz,cap,rfl,bF,b3,dp,fR,gq,jD,j?,ka,t1⟩,rfl⟩
 .obtain⟨bD,e1⟩:=hm.uW hid (.ob e []) none (λ_ y hy=>by cases hy) (λ_ y hy=>by cases hy) (λ_=>⟨dB,.inl ⟨lU _ _ _,rfl⟩⟩)
  refine⟨_,bD,e1,?_,λj an=>qT _ _ an,λj an z bj => ?_⟩
  .simp only[bM,eM]
   exact⟨.inl ⟨rfl,ad,rfl⟩,λh=>by cases h⟩
  by_cases dK:j=id
  .subst dK;rw[lU]at bj;cases bj
  rw[d6 _ _ dK]at an;rw[qT _ _ dK]at bj;exact(cw j an z bj).imp (λh=>h) .inl
 obtain⟨bD,e1⟩:=hm.uW hid (.ob e l) (some (b,o,c.size)) (λ_ y hy ap=>by cases hy;exact ka ap) (λ_ y hy j an z bj ai=>by
   rcases cw j an z bj with h|h
   .grind
   exact t1 (by grind)) (λ_=>⟨dB,.inr ⟨b,o,c,el,fz,lU _ _ _,fR,gq,jD,j?⟩⟩)
 refine⟨_,bD,e1,?_,λj an=>qT _ _ an,λj an z bj => ?_⟩
 .simp only[bM,eM]
  exact⟨.inr ⟨b,o,c.size,cap,lU _ _ _,bh,bF,b3,by simpa using dp⟩,λh=>by cases h⟩
 by_cases dK:j=id
 .subst dK;rw[lU]at bj;cases bj;exact .inr (.inr ⟨.inr rfl,t1⟩)
 rw[d6 _ _ dK]at an;rw[qT _ _ dK]at bj;exact(cw j an z bj).imp (λh=>h) .inl
def ad5(B:Nat->aQ):∀(l m:List (Nat×aQ)),dx B (l++m)=dx (dx B m) l
 |[],m=>rfl
 |(i,b)::l,m=>by rw[lA,xO,ad5 B l m,xO]
def SQ{Uf:Nat->Prop}:∀{sh:j3} {x:sh.aD} {cs:List Value} {U bV A:Nat->Prop} {B:Nat->aQ} {phx:cc},Mem K w0 phx M B w->(∀id∈lv sh,B id=.new)->(lv sh).Nodup ->
  q1 w M (λb=>¬K.k b) sh x cs U bV->(∀b,bV b->Uf b)->(∀b,A b->bV b->U b)->BC phx B Uf A ->
  ∃phx' Ot,Mem K w0 phx' M (dx B (gI sh x).2) w/\cm phx M B w phx' M (dx B (gI sh x).2) w/\e3 phx' (view w M) (dx B (gI sh x).2) (gI sh x).1 (D5 sh) cs /\
   (∀j,j∉lv sh->phx' j=phx j)/\BC phx' (dx B (gI sh x).2) Uf Ot/\(∀b,Ot b->A b\/(bV b/\¬U b))/\(gI sh x).2.map (·.1)=lv sh/\∀p∈(gI sh x).2,∃e l,p.2=.ob e l
 |.d t,x,cs,U,bV,A,B,phx,hm,hid,iT,h,mL,dn,cw=>⟨phx,A,hm,cm.refl _ _ _ _,⟨rfl,h.1⟩,λj _=>rfl,cw,λb Y=>.inl Y,rfl,λp hp=>by simp[gI]at hp⟩
 |.o id e,x,cs,U,bV,A,B,phx,hm,hid,iT,h,mL,dn,cw=>by
  obtain⟨ao,v,rfl,O,R⟩:=h;obtain⟨phx',bD,e1,eG,dF,bG⟩:=WN hm (hid id (by simp[lv])) ao R mL dn cw;have aB:dx B (gI (.o id e) x).2=cU B id (.ob e x):=by show dx B [(id,.ob e x)]=_;rw[xO];rfl
  rw[aB];refine⟨phx',_,bD,e1,⟨rfl,v,rfl,O,eG⟩,λj an => ?_,bG,λb Y=>Y,rfl,λp hp => ?_⟩
  .have:=by simpa[lv]using an
   grind
  have:=by simpa[gI]using hp
  grind
 |.p a b,x,cs,U,bV,A,B,phx,hm,hid,iT,h,mL,dn,cw=>by
  obtain⟨c1,c2,jc,rfl,f1,f2⟩:=h;simp only[lv,rY]at iT;obtain⟨vN,qE,HC⟩:=iT;have zu:=f2.sub;have du:=f1.sub;obtain⟨hk,Wh,bD,e1,eG,dF,bG,cG,bF,li⟩:=SQ (sh:=b) hm (λid hi=>hid id (by simp[lv,hi])) qE f2 mL (λb Y aL=>du b (dn b Y aL)) cw;obtain⟨jG,ahO,cn,aN,gt,gr,b_,cQ,b3,mf⟩:=SQ (sh:=a) (B:=dx B (gI b x.2).2) bD (λid hi=>by
   have:dx B (gI b x.2).2 id=B id:=xC _ _ (by grind);rw[this];exact hid id (by simp[lv,hi])) vN f1 (λb Y=>mL b (zu b Y)) (λb Y aL=>by
    rcases cG b Y with h|h
    .grind
    exact absurd aL h.2) bG
  have aB:dx B (gI (.p a b) x).2=dx (dx B (gI b x.2).2) (gI a x.1).2:=ad5 B _ _;rw[aB];refine⟨jG,ahO,cn,e1.trans aN,⟨c1,c2,rfl,gt,eG.mono aN.pl aN.vw aN.bl⟩,λj an => ?_,b_,λb' Y => ?_,by simp only[gI,EY,bF,b3,lv],λp hp => ?_⟩
  .simp only[lv,io,not_or]at an
   grind
  .grind
  simp only[gI,io]at hp
  grind
def dw.lu{H:cg}{s:aM}{B:Nat->aQ}(ac:dw phx H B s.bX a){v:au}(h:a? phx H B v (a.tmps.getD i undef)):dw phx H B (s.lu i v).bX a:=by
 intro t;by_cases ht:t=i
 .subst ht
  rcases s.F7 t v with bL|bL<;>rw[bL]
  .exact h
  trivial
 rw[s.va v ht];exact ac t
def avD(hm:Mem K w0 phx M B w){id:Nat}{t:ae}{u v:au}(aB:B id=.box t u){c:Array Value}{el:TypeId}{fz:Nat×Nat}(O:phx id=some (b,o,c.size))(R:w.heap[b]?=some (.cells c el fz))(af:o+t.size<=c.size)(aq:h4 c fz)(a8:M b)
  (ah:e3 phx (view w M) B v t (cF c o t.size)):Mem K w0 phx M (cU B id (.box t v)) w/\cm phx M B w phx M (cU B id (.box t v)) w:=
 hm.put (by rw[aB];rfl) O a8 rfl rfl rfl rfl (λ_ _=>rfl) (.box t v) (by rw[aB];rfl) λaA=>⟨b,o,c,el,fz,O,R,af,aA.b8 ah,aq,a8⟩
def nK(ll:cc)(b4:Nat->aQ)(phx:cc)(B:Nat->aQ):List eY->Prop
 |[]=>True
 |.bk id e::r=>(phx id=ll id/\∃l,B id=.ob e l/\b4 id=.ob e l)/\nK ll b4 phx B r
 |.bx id t _::r=>(phx id=ll id/\B id=.box t .bad)/\nK ll b4 phx B r
 |.it id _::r=>(phx id=ll id/\∃s p,B id=.it s p/\b4 id=.it s p)/\nK ll b4 phx B r
 |_::r=>nK ll b4 phx B r
def nK.congr{ll:cc}{b4:Nat->aQ}{phx phx':cc}{B B':Nat->aQ}:∀{es:List eY},nK ll b4 phx B es->(∀id∈dv es,phx' id=phx id/\B' id=B id)->nK ll b4 phx' B' es
 |[],_,_=>trivial
 |.bk id e::r,h,a2=>by have:=a2 id (by simp[dv]);exact⟨by rw[this.1,this.2];exact h.1,nK.congr h.2 λj an=>a2 j (by simp[dv,an])⟩
 |.bx id t sh::r,h,a2=>by have:=a2 id (by simp[dv]);exact⟨by rw[this.1,this.2];exact h.1,nK.congr h.2 λj an=>a2 j (by simp[dv,an])⟩
 |.it id s::r,h,a2=>by have:=a2 id (by simp[dv]);exact⟨by rw[this.1,this.2];exact h.1,nK.congr h.2 λj an=>a2 j (by simp[dv,an])⟩
 |.sl i t::r,h,a2=>nK.congr (es:=r) h a2
 |.ow i id e::r,h,a2=>nK.congr (es:=r) h a2
def o?(B:Nat->aQ)(s:aM)(es:List eY):Prop:=(∀j,j∉dv es->B j=s.aR j)/\∀j cp p,B j=.it cp p->∃rz,s.aR j=.it cp rz
def o?.cj{B:Nat->aQ}{s:aM}{es es':List eY}(h:o? B s es)(id:Nat)(b:aQ)(abc:∀j,j∉dv es'->j≠id->j∉dv es):o? (cU B id b) (s.nw id b) es':=by
 refine⟨λj an => ?_,λj cp p an => ?_⟩
 .rw[aM.zn]
  by_cases dK:j=id
  .subst dK;rw[eM,eM]
  rw[d6 _ _ dK,d6 _ _ dK];exact h.1 j (abc j an dK)
 rw[aM.zn];by_cases dK:j=id
 .subst dK;rw[eM]at an ⊢;exact⟨p,an⟩
 rw[d6 _ _ dK]at an ⊢;exact h.2 j cp p an
def o?.over{B:Nat->aQ}{s:aM}{es:List eY}(h:o? B s es):∀(l:List (Nat×aQ)),o? (dx B l) (s.ek l) es
 |[]=>h
 |(i,b)::l=>by rw[xO];exact(o?.over h l).cj i b λj an _=>an
def C4{ll:cc}{b4:Nat->aQ}{Uf:Nat->Prop}:∀{es:List eY} {x:mC es} {U bV A:Nat->Prop} {s:aM} {B:Nat->aQ} {phx:cc},Mem K w0 phx M B w->dw phx (view w M) B s.bX a->o? B s es->(∀id∈hP es,B id=.new)->(hP es++dv es).Nodup ->
  hr ll w M b4 (λb=>¬K.k b) a es x U bV->nK ll b4 phx B es->(∀b,bV b->Uf b)->(∀b,A b->bV b->U b)->BC phx B Uf A ->
  ∃ax phx',(∀(γ:Type 1) (k:aM->γ),qy s es x k=k ax)/\Mem K w0 phx' M ax.aR w/\cm phx M B w phx' M ax.aR w/\dw phx' (view w M) ax.aR ax.bX a /\
   (∀id,id∉hP es->phx' id=phx id)/\(∃fS,ax.w=fS++s.w/\(∀id∈fS,id∈hP es\/id∈dv es)/\∀id,id∉fS->ax.aR id=s.aR id)/\(∀t,t∉u3 es->ax.bX t=s.bX t)
 |[],x,U,bV,A,s,B,phx,hm,ac,i1,_,_,_,_,_,_,_=>by have aB:B=s.aR:=funext λj=>i1.1 j (by simp[dv]);subst aB;exact⟨s,phx,λ_ _=>rfl,hm,cm.refl _ _ _ _,ac,λ_ _=>rfl,⟨[],rfl,λid h=>by simp at h,λ_ _=>rfl⟩,λ_ _=>rfl⟩
 |.sl i t::es,x,U,bV,A,s,B,phx,hm,ac,i1,aj,iT,fw,hz,mL,dn,cw=>by
  obtain⟨⟨cs,f1,f2⟩,fw⟩:=fw;obtain⟨ax,phx',bG,b_,co,dl,eQ,lq,pR⟩:=C4 (es:=es) (s:=s.lu i (.sc t x.1)) hm (ac.lu ⟨cs,f1,f2⟩) i1 aj iT fw hz mL dn cw;refine⟨ax,phx',λγ k => ?_,b_,co,dl,eQ,lq,λt' ht => ?_⟩
  .simp only[qy,C3,aM.Im];exact bG γ k
  simp only[u3,gE,not_or]at ht;rw[pR t' ht.2];exact s.va _ ht.1
 |.ow i id e::es,x,U,bV,A,s,B,phx,hm,ac,i1,aj,iT,fw,hz,mL,dn,cw=>by
  obtain⟨ao,jc,f1,fw⟩:=fw;have zI:id∉hP es/\id∉dv es/\(hP es++dv es).Nodup:=by simp only[hP,dv,lA,OG,io,not_or]at iT;exact⟨iT.1.1,iT.1.2,iT.2⟩
  have zu:=fw.sub;have du:∀b,U b->jc b:=λb Y=>by
   rcases f1 with⟨_,_,h⟩|⟨_,_,h⟩
   .rw[h];exact Y
   rw[h];exact .inl Y
  obtain⟨hk,bD,e1,eG,dF,O⟩:=WN hm (aj id (by simp[hP])) ao f1 (λb Y=>mL b (zu b Y)) (λb Y aL=>dn b Y (zu b aL)) cw;obtain⟨ax,phx',bG,b_,co,dl,eQ,⟨fS,lq,xV,vY⟩,pR⟩:=C4 (es:=es) (s:=(s.nw id (.ob e x.1)).lu i (.own id false)) bD (dw.lu (s:=s.nw id (.ob e x.1)) (ac.ext e1) eG)
   (o?.cj (es':=es) i1 id _ λj an _=>an) (λj an=>by
    have dK:j≠id:=λh=>zI.1 (h▸an);rw[d6 _ _ dK];exact aj j (by simp[hP,an])) zI.2.2 fw (nK.congr (es:=es) hz λj an=>by
    have dK:j≠id:=λh=>zI.2.1 (h▸an);exact⟨dF j dK,d6 _ _ dK⟩) mL (λb Y aL=>Y.elim (λh=>du b (dn b h aL)) (λh=>h.1)) O
  refine⟨ax,phx',λγ k => ?_,b_,e1.trans co,dl,λj an => ?_,⟨fS++[id],by rw[lq];simp[aM.lu,aM.nw],λj an => ?_,λj an => ?_⟩,λt' ht => ?_⟩
  .simp only[qy,C3,aM.Ik,aM.Im];exact bG γ k
  .simp only[hP,gE,not_or]at an
   rw[eQ j an.2,dF j an.1]
  .simp only[io,pe]at an
   rcases an with an|an
   .rcases xV j an with h|h
    .exact .inl (by simp[hP,h])
    exact .inr (by simpa[dv]using h)
   exact .inl (by simp[hP,an])
  .simp only[io,pe,not_or]at an
   rw[vY j an.1];show(s.nw id (.ob e x.1)).aR j=s.aR j;rw[aM.zn,d6 _ _ an.2]
  simp only[u3,gE,not_or]at ht;rw[pR t' ht.2];exact aM.va _ _ ht.1
 |.bk id e::es,x,U,bV,A,s,B,phx,hm,ac,i1,aj,iT,fw,hz,mL,dn,cw=>by
  obtain⟨f1,fw⟩:=fw;obtain⟨⟨_,l,g1,bw⟩,hz⟩:=hz;rw[f1]at bw;have Gd:cU B id (.ob e x.1)=B:=by
   funext j;by_cases an:j=id
   .subst an;rw[eM,g1,bw]
   rw[d6 _ _ an]
  have zI:(hP es++dv es).Nodup:=by simp only[hP,dv]at iT;exact iT.sublist (Wl (OY _ _) _)
  have zw:=o?.cj (es':=es) i1 id (.ob e x.1) λj an dK=>by simp[dv,an,dK]
  rw[Gd]at zw;obtain⟨ax,phx',bG,b_,co,dl,eQ,⟨fS,lq,xV,vY⟩,pR⟩:=C4 (es:=es) (s:=s.nw id (.ob e x.1)) (phx:=phx) hm ac zw aj zI fw hz mL dn cw;refine⟨ax,phx',λγ k => ?_,b_,co,dl,eQ,⟨fS++[id],by rw[lq];simp[aM.nw],λj an => ?_,λj an => ?_⟩,pR⟩
  .simp only[qy,C3,aM.Ik];exact bG γ k
  .simp only[io,pe]at an
   rcases an with an|an
   .exact(xV j an).imp (λh=>by simpa[hP]using h) (λh=>by simp[dv,h])
   exact .inr (by simp[dv,an])
  simp only[io,pe,not_or]at an;rw[vY j an.1,aM.zn,d6 _ _ an.2]
 |.it id str::es,x,U,bV,A,s,B,phx,hm,ac,i1,aj,iT,fw,hz,mL,dn,cw=>by
  obtain⟨⟨cp,f1⟩,fw⟩:=fw;obtain⟨⟨_,qO,p,g1,bw⟩,hz⟩:=hz;rw[f1]at bw;cases bw;obtain⟨rz,hA⟩:=i1.2 id cp x.1 g1;have Gd:cU B id (.it cp x.1)=B:=by
   funext j;by_cases an:j=id
   .subst an;rw[eM,g1]
   rw[d6 _ _ an]
  have zI:(hP es++dv es).Nodup:=by simp only[hP,dv]at iT;exact iT.sublist (Wl (OY _ _) _)
  have zw:=o?.cj (es':=es) i1 id (.it cp x.1) λj an dK=>by simp[dv,an,dK]
  rw[Gd]at zw;obtain⟨ax,phx',bG,b_,co,dl,eQ,⟨fS,lq,xV,vY⟩,pR⟩:=C4 (es:=es) (s:=s.nw id (.it cp x.1)) (phx:=phx) hm ac zw aj zI fw hz mL dn cw;refine⟨ax,phx',λγ k => ?_,b_,co,dl,eQ,⟨fS++[id],by rw[lq];simp[aM.nw],λj an => ?_,λj an => ?_⟩,pR⟩
  .simp only[qy,C3,hA,aM.Ik];exact bG γ k
  .simp only[io,pe]at an
   rcases an with an|an
   .exact(xV j an).imp (λh=>by simpa[hP]using h) (λh=>by simp[dv,h])
   exact .inr (by simp[dv,an])
  simp only[io,pe,not_or]at an;rw[vY j an.1,aM.zn,d6 _ _ an.2]
 |.bx id t sh::es,x,U,bV,A,s,B,phx,hm,ac,i1,aj,iT,fw,hz,mL,dn,cw=>by
  obtain⟨_,ri,b,o,c,el,fz,jc,g1,bw,cW,gg,kw,f1,fw⟩:=fw;obtain⟨⟨dO,aB⟩,hz⟩:=hz;simp only[hP,dv]at aj iT;have aqk:(lv sh).Nodup:=(rY.1 (rY.1 iT).1).1;have aql:(hP es++dv es).Nodup:=by refine iT.sublist ?_;exact(List.sublist_append_right _ _).append (OY _ _)
  have RY:∀j,j∈lv sh->j∉hP es/\j≠id/\j∉dv es:=λj an=>by
   refine⟨λai=>(rY.1 (rY.1 iT).1).2.2 j an j ai rfl,λai => ?_,λai => ?_⟩
   .exact(rY.1 iT).2.2 j (by simp[an]) id bh ai
   exact(rY.1 iT).2.2 j (by simp[an]) j (by simp[ai]) rfl
  have abk:id∉hP es/\id∉dv es:=by
   refine⟨λai => ?_,λai => ?_⟩
   .exact(rY.1 iT).2.2 id (by simp[ai]) id bh rfl
   exact(OG.1 (rY.1 iT).2.1).1 ai
  have zu:=fw.sub;obtain⟨hk,Wh,bD,e1,eG,dF,O,cG,bF,li⟩:=SQ hm (λj an=>aj j (by simp[an])) aqk f1 (λb Y=>mL b (zu b Y)) (λb Y aL=>dn b Y (zu b aL)) cw;have off:∀j,j∉lv sh->dx B (gI sh x.1).2 j=B j:=λj an=>xC _ _ (by rw[bF];exact an);have abl:id∉lv sh:=λai=>(RY id ai).2.1 rfl;have jj:dx B (gI sh x.1).2 id=.box t .bad:=by rw[off id abl,aB]
  have aqD:hk id=some (b,o,c.size):=by rw[dF id abl,dO,g1]
  rw[ri]at eG;obtain⟨cn,aN⟩:=avD bD jj aqD bw cW gg kw eG;have aow:BC hk (cU (dx B (gI sh x.1).2) id (.box t (gI sh x.1).1)) Uf Wh:=by
   intro j an z bj;by_cases dK:j=id
   .subst dK;exact O j (by rw[jj];rfl) z bj
   rw[d6 _ _ dK]at an;exact O j an z bj
  have zw:o? (cU (dx B (gI sh x.1).2) id (.box t (gI sh x.1).1)) ((s.ek (gI sh x.1).2).nw id (.box t (gI sh x.1).1)) es:=
   (o?.over i1 _).cj (es':=es) id _ λj an dK=>by simp[dv,an,dK]
  have hT:((s.ek (gI sh x.1).2).nw id (.box t (gI sh x.1).1)).bX=s.bX:=aM.pX s _;obtain⟨ax,phx',bG,b_,co,dl,eQ,⟨fS,lq,xV,vY⟩,pR⟩:=C4 (es:=es) (s:=(s.ek (gI sh x.1).2).nw id (.box t (gI sh x.1).1)) cn (by rw[hT];exact(ac.ext e1).ext aN) zw (λj an=>by
    have dK:j≠id:=λh=>abk.1 (h▸an);rw[d6 _ _ dK,off j λai=>(RY j ai).1 an];exact aj j (by simp[an])) aql fw (nK.congr (es:=es) hz λj an=>by
    have dK:j≠id:=λh=>abk.2 (h▸an);have abp:j∉lv sh:=λai=>(RY j ai).2.2 an;exact⟨dF j abp,by rw[d6 _ _ dK,off j abp]⟩) mL (λb Y aL=>by
    rcases cG b Y with h|h
    .exact f1.sub b (dn b h aL)
    exact h.1) aow
  refine⟨ax,phx',λγ k => ?_,b_,(e1.trans aN).trans co,dl,λj an => ?_,⟨fS++([id]++lv sh),?_,λj an => ?_,λj an => ?_⟩,λt' ht => ?_⟩
  .simp only[qy,C3,aM.Il,aM.Ik];exact bG γ k
  .simp only[hP,io,not_or]at an
   rw[eQ j an.2,dF j an.1]
  .rw[lq]
   have:((s.ek (gI sh x.1).2).nw id (.box t (gI sh x.1).1)).w=id::(lv sh++s.w):=by show id::(s.ek (gI sh x.1).2).w=_;rw[aM.UI,bF]
   rw[this];simp
  .simp only[io,pe]at an
   rcases an with an|an|an
   .rcases xV j an with h|h
    .exact .inl (by simp[hP,h])
    exact .inr (by simp[dv,h])
   .exact .inr (by simp[dv,an])
   exact .inl (by simp[hP,an])
  .simp only[io,pe,not_or]at an
   rw[vY j an.1,aM.zn,d6 _ _ an.2.1,aM.nd];exact xC _ _ (by rw[bF];exact an.2.2)
  rw[pR t' ht,hT]
def nQ:List eY->Nat->Option ae
 |[],_=>none
 |.bx id t _::r,j=>if j=id then some t else nQ r j
 |_::r,j=>nQ r j
def Pz:∀{es:List eY} {id:Nat} {t:ae} {sh:j3},eY.bx id t sh∈es->∃t',nQ es id=some t'
 |e::es,id,t,sh,h=>by
  rcases gE.1 h with rfl|h
  .exact⟨t,by simp[nQ]⟩
  obtain⟨t',bL⟩:=Pz h;cases e<;>simp only[nQ]<;>first|exact⟨t',bL⟩|(split;exact⟨_,rfl⟩;exact⟨t',bL⟩)
def hr.box{lo:Nat->Prop}{b4:Nat->aQ}:∀{es:List eY} {x:mC es} {U bV:Nat->Prop} {id:Nat} {t:ae},hr phx w M b4 lo a es x U bV->nQ es id=some t ->
  (∃v,b4 id=.box t v)/\∃b o c el fz,phx id=some (b,o,Array.size c)/\w.heap[b]?=some (.cells c el fz)/\o+t.size<=c.size/\h4 c fz/\M b/\∀v∈cF c o t.size,v.oneCell'=true
 |.sl i t'::es,x,U,bV,id,t,fw,h=>hr.box (es:=es) fw.2 h
 |.ow i _ e::es,x,U,bV,id,t,fw,h=>by obtain⟨_,jc,_,fw⟩:=fw;exact hr.box (es:=es) fw h
 |.bk _ e::es,x,U,bV,id,t,fw,h=>hr.box (es:=es) fw.2 h
 |.it _ s::es,x,U,bV,id,t,fw,h=>hr.box (es:=es) fw.2 h
 |.bx oQ t' sh::es,x,U,bV,id,t,fw,h=>by
  obtain⟨aC,ri,b,o,c,el,fz,jc,g1,bw,cW,gg,kw,f1,fw⟩:=fw;simp only[nQ]at h;split at h
  .rename_i hid
   cases h;subst hid;exact⟨aC,b,o,c,el,fz,g1,bw,cW,gg,kw,f1.one⟩
  exact hr.box (es:=es) fw h
def kU(eh b4:Nat->aQ)(es:List eY):Nat->aQ:=λid=>if z1 (eh id)=true then .new else match nQ es id with|some t=>.box t .bad|none=>b4 id
def sC{b:aQ}:z1 b=true↔b=.new:=by cases b<;>simp[z1]
def Dj{eh b4:Nat->aQ}{es:List eY}{lo:Nat->Prop}(hold:∀id∈dv es,eh id ≠ .new){rR:mC es}{ain aio:Nat->Prop}(ao:hr phx w M b4 lo a es rR ain aio):∀{r:List eY} {x:mC r} {U bV:Nat->Prop},(∀e∈r,e∈es)->(∀id∈dv r,id∈dv es)->hr phx w M b4 lo a r x U bV->nK phx b4 phx (kU eh b4 es) r
 |[],_,_,_,_,_,_=>trivial
 |.sl i t'::r,x,U,bV,hm,aK,h=>Dj hold ao (r:=r) (λe aA=>hm e (by grind)) aK h.2
 |.ow i _ e::r,x,U,bV,hm,aK,h=>by obtain⟨_,jc,_,h⟩:=h;exact Dj hold ao (r:=r) (λe aA=>hm e (by grind)) aK h
 |.bk id e::r,x,U,bV,hm,aK,h=>by
  refine⟨⟨rfl,x.1,?_,h.1⟩,Dj hold ao (r:=r) (λe aA=>hm e (by grind)) (λj an=>aK j (by simp[dv,an])) h.2⟩;unfold kU;rw[if_neg (by rw[sC];exact hold id (aK id (by simp[dv])))];cases Y:nQ es id with
  |none=>exact h.1
  |some t=>obtain⟨⟨v,aC⟩,_⟩:=ao.box Y;rw[h.1]at aC;cases aC
 |.it id s::r,x,U,bV,hm,aK,h=>by
  obtain⟨⟨cp,O⟩,R⟩:=h;refine⟨⟨rfl,cp,x.1,?_,O⟩,Dj hold ao (r:=r) (λe aA=>hm e (by grind)) (λj an=>aK j (by simp[dv,an])) R⟩;unfold kU;rw[if_neg (by rw[sC];exact hold id (aK id (by simp[dv])))];cases Y:nQ es id with
  |none=>exact O
  |some t=>obtain⟨⟨v,aC⟩,_⟩:=ao.box Y;rw[O]at aC;cases aC
 |.bx id t sh::r,x,U,bV,hm,aK,h=>by
  obtain⟨⟨v,aC⟩,ri,b,o,c,el,fz,jc,g1,bw,cW,gg,kw,f1,h⟩:=h;refine⟨⟨rfl,?_⟩,Dj hold ao (r:=r) (λe aA=>hm e (by grind)) (λj an=>aK j (by simp[dv,an])) h⟩;unfold kU;rw[if_neg (by rw[sC];exact hold id (aK id (by simp[dv])))];obtain⟨t',ht⟩:=Pz (hm (.bx id t sh) bh);obtain⟨⟨cX,azt⟩,_⟩:=ao.box ht
  grind
def hr.t7{lo:Nat->Prop}{b4:Nat->aQ}:∀{es:List eY} {x:mC es} {U bV:Nat->Prop},hr phx w M b4 lo a es x U bV->∀id∈dv es,∀kt vt l,b4 id ≠ .mp kt vt l
 |[],_,_,_,_,id,hi,_,_,_=>by simp[dv]at hi
 |.sl i t'::es,x,U,bV,h,id,hi,kt,vt,l=>hr.t7 (es:=es) h.2 id hi kt vt l
 |.ow i _ e::es,x,U,bV,h,id,hi,kt,vt,l=>by obtain⟨_,jc,_,h⟩:=h;exact hr.t7 (es:=es) h id hi kt vt l
 |.bk oQ e::es,x,U,bV,h,id,hi,kt,vt,l=>by
  simp only[dv,gE]at hi;rcases hi with rfl|hi
  .rw[h.1];intro h;cases h
  exact hr.t7 (es:=es) h.2 id hi kt vt l
 |.it oQ s::es,x,U,bV,h,id,hi,kt,vt,l=>by
  simp only[dv,gE]at hi;rcases hi with rfl|hi
  .obtain⟨⟨cp,O⟩,_⟩:=h;rw[O];intro h;cases h
  exact hr.t7 (es:=es) h.2 id hi kt vt l
 |.bx oQ t0 af4::es,x,U,bV,h,id,hi,kt,vt,l=>by
  simp only[dv,gE]at hi;rcases hi with rfl|hi
  .obtain⟨⟨v,aC⟩,_⟩:=h;rw[aC];intro h;cases h
  obtain⟨_,_,b,o,c,el,fz,jc,_,_,_,_,_,_,h⟩:=h;exact hr.t7 (es:=es) h id hi kt vt l
def asW{eh b4:Nat->aQ}{es:List eY}{lo:Nat->Prop}(hm:Mem K w0 phx M b4 w){x:mC es}{U bV:Nat->Prop}(fw:hr phx w M b4 lo a es x U bV)(q_:∀id t v,eh id=.box t v->∀j∈dM v,eh j ≠ .new)(Sf:∀id kt vt l,eh id=.mp kt vt l->∀p∈l,∀j∈dM p.2,eh j ≠ .new)
  (oK:∀id,eh id ≠ .new->id∉dv es->b4 id=eh id) (GN:∀id∈dv es,∀t v,b4 id=.box t v->∃t',nQ es id=some t') :
  Mem K w0 phx M (kU eh b4 es) w/\(∀id,eh id ≠ .new->(b4 id).cb (kU eh b4 es id))/\(∀id,(kU eh b4 es id).fx=true->(b4 id).fx=true):=by
 have mM:∀id,(kU eh b4 es id).fx=true->(b4 id).fx=true:=λid h=>by
  unfold kU at h;split at h
  .cases h
  split at h
  .rename_i t ht
   obtain⟨⟨v,aC⟩,_⟩:=fw.box ht;rw[aC];rfl
  exact h
 have bY:∀id,eh id ≠ .new->(b4 id).cb (kU eh b4 es id):=λid hid=>by
  unfold kU;rw[if_neg (by rw[sC];exact hid)];split
  .rename_i t ht
   obtain⟨⟨v,aC⟩,_⟩:=fw.box ht;rw[aC];rfl
  exact aQ.cb.refl _
 refine⟨{ hm with own:=λid h=>hm.own id (mM id h),blks:=λid => ?_,sep:=λi j i2 hi an=>hm.sep i j i2 (mM i hi) (mM j an) },bY,mM⟩;have dD:=hm.blks id;by_cases aj:z1 (eh id)=true
 .unfold kU;rw[if_pos aj];trivial
 have hid:eh id ≠ .new:=λh=>aj (sC.2 h);cases Y:nQ es id with
 |some t=>
  have Sg:kU eh b4 es id=.box t .bad:=by unfold kU;rw[if_neg aj,Y]
  rw[Sg];obtain⟨_,b,o,c,el,fz,g1,bw,cW,gg,kw,si⟩:=fw.box Y;exact⟨b,o,c,el,fz,g1,bw,cW,⟨pW cW,si⟩,gg,kw⟩
 |none=>
  have Sg:kU eh b4 es id=b4 id:=by unfold kU;rw[if_neg aj,Y]
  rw[Sg];generalize aB:b4 id=bl at dD;cases bl with
  |new=>trivial
  |e'=>trivial
  |ob e l=>exact dD
  |fz e l=>exact dD
  |it s p=>exact dD
  |mp kt vt l=>
   have vr:id∉dv es:=λai=>fw.t7 id ai kt vt l aB;have ao:eh id=.mp kt vt l:=by rw[<- oK id hid vr,aB]
   obtain⟨b,es',m',g1,bw,cW,gg⟩:=dD;exact⟨b,es',m',g1,bw,cW.h3 (λ_ _ _ _ _=>rfl) (cg.cb.refl _) (λp hp j an=>bY j (Sf id kt vt l ao p hp j an)),gg⟩
  |box t v=>
   have vr:id∉dv es:=λai=>by obtain⟨t',vy⟩:=GN id ai t v aB;rw[Y]at vy;cases vy
   have ao:eh id=.box t v:=by rw[<- oK id hid vr,aB]
   obtain⟨b,o,c,el,fz,g1,bw,cW,gg,kw,si⟩:=dD;exact⟨b,o,c,el,fz,g1,bw,cW,e3.h3 (λ_ _ _=>rfl) (cg.cb.refl _) (λj an=>bY j (q_ id t v ao j an)) gg,kw,si⟩
end
end Yp
namespace Yp
open Go
variable {P:Program}
def ahw{c:Code}{Q:Exit->Act->World->Prop}(I:Nat->Act->World->Prop)(bj:∀a w,¬I 0 a w)
  (round:∀n a w,I (n+1) a w->c.wp P (Exit.then (λa' w'=>I n a' w') Q) a w) {n:Nat} {a:Act} {w:World} (h:I n a w):(Code.loop c).wp P Q a w:=by
 intro b k cs;have key:∀n a w,I n a w->∃e a' w',Q e a' w'/\Arrives P (lone (b.at a (.code c :: .inLoop c::k)) cs w) b k cs e a' w':=by
  intro n;induction n with
  |zero=>intro a w h;exact absurd h (bj a w)
  |succ n ih=>
   intro a w eo;obtain⟨e,a₁,w₁,a2,xh⟩:=round n a w eo b (.inLoop c::k) cs;cases e with
   |normal =>obtain⟨e₂,a₂,w₂,hq₂,harr₂⟩:=ih a₁ w₁ a2;exact⟨e₂,a₂,w₂,hq₂,.of_steps (Steps.trans xh (.one step_inLoop)) harr₂⟩
   |exit id=>exact⟨_,a₁,w₁,a2,.pass (x:=.inLoop c) rfl (λ_ _=>.inl bh) xh⟩
   |goto l=>exact⟨_,a₁,w₁,a2,.pass (x:=.inLoop c) rfl (λ_ _=>.inl bh) xh⟩
   |ret=>exact⟨_,a₁,w₁,a2,.pass (x:=.inLoop c) rfl (λ_ _=>.inl bh) xh⟩
   |panic ch=>exact⟨_,a₁,w₁,a2,.pass (x:=.inLoop c) rfl (λ_ _=>.inl bh) xh⟩
   |outgrown=>exact⟨_,a₁,w₁,a2,.pass (x:=.inLoop c) rfl (λ_ _=>.inl bh) xh⟩
 obtain⟨e,a',w',a2,xh⟩:=key n a w h;exact⟨e,a',w',a2,.of_steps (.one step_loop) xh⟩
def Di:∀{l:List Nat} {t:Nat},t∈nS l↔t∈l
 |[],t=>by simp[nS]
 |i::l,t=>by
  simp only[nS];cases ai:l.any (Nat.beq i) with
  |true =>simp;rw[Di];refine⟨.inr,λh=>h.elim (λh => ?_) id⟩;obtain⟨j,an,Y⟩:=wx.1 ai;rw[h,fB Y];exact an
  |false =>simp;rw[Di]
def adh:∀{l:List Nat},Ml l=true->l.Nodup
 |[],_=>List.nodup_nil
 |i::l,h=>by
  simp only[Ml,cL]at h;refine OG.2 ⟨λai => ?_,adh h.2⟩;have:=wx.2 ⟨i,ai,BM i⟩
  grind
def apw{base:aM}{es:List eY}{BZ:List Nat}(h:Lp base es BZ=true):
  (hP es++dv es).Nodup/\(∀id∈hP es,base.aR id=.new)/\(∀id∈dv es,base.aR id ≠ .new)/\∀i∈u3 es,i∈BZ:=by
 simp only[Lp,cL]at h;obtain⟨⟨⟨O,R⟩,af⟩,aq⟩:=h;refine⟨adh O,λid hi=>sC.1 (pg.1 R id hi),λid hi ai => ?_,λi hi => ?_⟩
 .have:=pg.1 af id hi
  rw[ai]at this;cases this
 obtain⟨j,an,Y⟩:=wx.1 (pg.1 aq i hi);rw[fB Y];exact an
def amC{base:aM}{es:List eY}{s:aM}(h:Ck base es s=true){fS:List Nat}(bb:s.w=fS++base.w):∀id∈fS,base.aR id=.new\/id∈dv es:=by
 intro id hi;have ht:s.w.take (s.w.length-base.w.length)=fS:=by rw[bb];simp
 unfold Ck at h;rw[ht]at h;have:=pg.1 h id hi;simp only[yJ]at this;rcases this with h|h
 .exact .inl (sC.1 h)
 obtain⟨j,an,Y⟩:=wx.1 h;right;rw[fB Y];exact an
def Zq{ρ σ:Type}{jl:Nat}{s:aM}{k:jN σ->aP ρ}{r:ρ}:∀{l:List Nat},((Cq jl s l).bind k).bI=some r->(k (.ex jl s)).bI=some r
 |[i],h=>by
  simp only[Cq]at h;cases ai:bZ jl i with
  |false=>rw[ai]at h;cases h
  |true=>rw[ai]at h;have:=fB ai;subst this;exact h
 |i::j::l,h=>by
  simp only[Cq]at h;cases ai:bZ jl i with
  |false=>rw[ai]at h;exact Zq h
  |true=>rw[ai]at h;have:=fB ai;subst this;exact h
def Te{σ:Type}{f:σ->Option (aE σ ρ)}{x:σ}{o:aE σ ρ}(h:bN f x=some o):∃n,n6 f n x=some o:=by
 unfold bN at h;split at h
 .grind
 cases h
def B6:∀{es:List eY} {id:Nat} {t:ae},nQ es id=some t->id∈dv es
 |.sl _ _::es,_,_,h=>B6 (es:=es) h
 |.ow _ _ _::es,_,_,h=>B6 (es:=es) h
 |.bk _ _::es,_,_,h=>wF _ (B6 (es:=es) h)
 |.it _ _::es,_,_,h=>wF _ (B6 (es:=es) h)
 |.bx oQ t' sh::es,id,t,h=>by
  simp only[nQ]at h;split at h
  .rename_i e;rw[e];simp[dv]
  exact wF _ (B6 h)
section
variable {K:Kp} {w0 w:World} {phx:cc} {M:Nat->Prop} {B B':Nat->aQ} {g:Nat->au} {a:Act} {E:da} {rs:List ef} {res:List ResultVar} {nv nt:Nat} {inl:Bool}
def hr.Dw{lo:Nat->Prop}{b4:Nat->aQ}:∀{es:List eY} {x:mC es} {U bV:Nat->Prop},hr phx w M b4 lo a es x U bV->∀id∈dv es,∀t v,b4 id=.box t v->∃t' sh,eY.bx id t' sh∈es
 |[],_,_,_,_,id,hi,_,_,_=>by simp[dv]at hi
 |.sl i t'::es,x,U,bV,h,id,hi,t,v,Y=>by obtain⟨t',sh,h⟩:=hr.Dw (es:=es) h.2 id hi t v Y;exact⟨t',sh,by simp[h]⟩
 |.ow i _ e::es,x,U,bV,h,id,hi,t,v,Y=>by obtain⟨_,jc,_,h⟩:=h;obtain⟨t',sh,h⟩:=hr.Dw (es:=es) h id hi t v Y;exact⟨t',sh,by simp[h]⟩
 |.bk oQ e::es,x,U,bV,h,id,hi,t,v,Y=>by
  simp only[dv,gE]at hi;rcases hi with rfl|hi
  .rw[h.1]at Y;cases Y
  obtain⟨t',sh,h⟩:=hr.Dw (es:=es) h.2 id hi t v Y;exact⟨t',sh,by simp[h]⟩
 |.it oQ s::es,x,U,bV,h,id,hi,t,v,Y=>by
  simp only[dv,gE]at hi;rcases hi with rfl|hi
  .obtain⟨⟨cp,O⟩,_⟩:=h;rw[O]at Y;cases Y
  obtain⟨t',sh,h⟩:=hr.Dw (es:=es) h.2 id hi t v Y;exact⟨t',sh,by simp[h]⟩
 |.bx oQ t0 af4::es,x,U,bV,h,id,hi,t,v,Y=>by
  simp only[dv,gE]at hi;rcases hi with rfl|hi
  .exact⟨t0,af4,bh⟩
  obtain⟨_,_,b,o,c,el,fz,jc,_,_,_,_,_,_,h⟩:=h;obtain⟨t',sh,h⟩:=hr.Dw (es:=es) h id hi t v Y;exact⟨t',sh,by simp[h]⟩
structure fT(K:Kp)(w0:World)(D:List Nat)(s:aM)(phx:cc)(M:Nat->Prop)(w:World)(a:Act)(ax:aM)(phx':cc)(ay:Nat->Prop)(w':World)(a':Act):Prop where
 iz:dY D s ax
 hd:Mem K w0 phx' ay ax.aR w'
 ext:cm phx M s.aR w phx' ay ax.aR w'
 slots:dw phx' (view w' ay) ax.aR ax.bX a'
 keep:g9 D a a'
def lG(E:da)(id:Nat):Exit:=if id=ir then .ret else match E.Pn with|some p=>if hs<=id then .panic [{ v:=.iface p.2 (.int .i64 ((id-hs:Nat):Int)),recovered:=false }]else .exit id|none=>.exit id
def Zo{E:da}{id:Nat}(h:id<ir):lG E id=.exit id:=by
 unfold lG;rw[if_neg J];split
 .rw[if_neg (by unfold hs;unfold ir at h;omega)]
 rfl
def KR{E:da}(h:E.Pn=some (m,t)):lG E (hs+k)=.panic [{ v:=.iface t (.int .i64 (k:Int)),recovered:=false }]:=by unfold lG;rw[if_neg (by unfold hs ir;omega),h];simp
def BJ(P:Program)(K:Kp)(w0:World)(E:da)(rs:List ef)(res:List ResultVar)(nv nt:Nat)(inl:Bool)(c:Code):Prop:=
 ∀(s:aM) (ρ:Type) (k:jN (d8 rs)->aP ρ) (r:ρ),((run E rs res nv nt inl c s).bind k).bI=some r->∀(phx:cc) (M:Nat->Prop) (w:World) (a:Act),Mem K w0 phx M s.aR w->dw phx (view w M) s.aR s.bX a->nt<=a.tmps.size ->
  ∀(Q:Exit->Act->World->Prop),
   (∀ax phx' ay w' a',(k (.nx ax)).bI=some r->fT K w0 (d2 c) s phx M w a ax phx' ay w' a'->Q .normal a' w') ->
   (∀id ax phx' ay w' a',(k (.ex id ax)).bI=some r->fT K w0 (d2 c) s phx M w a ax phx' ay w' a'->Q (lG E id) a' w') ->
   (∀x w' a',(k (.rt x)).bI=some r->a'.defers=a.defers->(∃us,sU P a'.tmps w' res us/\iu w0 K.x w' rs x (i? us))->Q .ret a' w')->c.wp P Q a w
def asD{b:aQ}(h:b.iC=true):b ≠ .new:=by rintro rfl;cases h
def asw{b c:aQ}(h:b.cb c)(ai:c=.new):b=.new:=by subst ai;cases b<;>first|rfl|exact h.elim
def asG{b:Code}(du:E.U=false)(ih:BJ P K w0 E rs res nv nt inl b):BJ P K w0 E rs res nv nt inl (.loop b):=by
 intro s ρ k r h ll BI VT a0 hm ac gh Q _ Sr Ss;simp only[run,du,cond_false,aP.acB,amY]at h;generalize abc:entries E.b s ((run E rs res nv nt inl b s).n3) (nS (d2 b))=es at h;generalize tQ:Cp ((run E rs res nv nt inl b s).n3)=exs at h;rw[aP.fe]at h;obtain⟨rR,bp,ft,tk,O,bD,e1,dT,f1,azR,axM,amw⟩:=Ax (a:=a0) h hm ac (U:=λ_=>False) ⟨λ_ _ _ _ h=>h,λ_ h=>h.elim⟩;obtain⟨base,y3,ajK,Pk,ai1,bk⟩:=V1 (nS (d2 b)) bp;rw[bk]at O;cases Sa:Lp base es (nS (d2 b)) with
 |false=>rw[Sa]at O;cases O
 |true=>
  rw[Sa,cond_true]at O;obtain⟨iT,gi,hold,qx⟩:=apw Sa;have q_:∀id t v,base.aR id=.box t v->∀j∈dM v,base.aR j ≠ .new:=by intro id t v Y;rw[y3]at Y ⊢;have:=bD.blks id;rw[Y]at this;obtain⟨_,_,_,_,_,_,_,_,hT,_⟩:=this;exact hT.old
  have Sf:∀id kt vt l,base.aR id=.mp kt vt l->∀p∈l,∀j∈dM p.2,base.aR j ≠ .new:=by intro id kt vt l Y;rw[y3]at Y ⊢;have:=bD.blks id;rw[Y]at this;obtain⟨_,_,_,_,_,dS,_⟩:=this;exact dS.old
  have azo:∀t,t∉nS (d2 b)->∀j∈dM (base.bX t),base.aR j ≠ .new:=by intro t ht;rw[y3,Pk t ht];have:=(ac.ext e1) t;rw[<- dT]at this;exact this.old
  let Jq:mC es->Act->World->Prop:=λx a w=>∃(kj:aM) (phx:cc) (M:Nat->Prop),(∀(γ:Type 1) (k:aM->γ),qy base es x k=k kj)/\Mem K w0 phx M kj.aR w/\dw phx (view w M) kj.aR kj.bX a /\
   cm ll BI s.aR VT phx M kj.aR w/\g9 (d2 b) a0 a/\(∀id,(base.aR id).cb (kj.aR id))/\(∃fS,kj.w=fS++base.w/\∀id,id∉fS->kj.aR id=base.aR id)/\(∀t,t∉u3 es->kj.bX t=base.bX t)
  have WX:∀(cp:aM) (phx':cc) (c7:Nat->Prop) (w':World) (a':Act) (y:mC es) (ax:aM) (bV:Nat->Prop),Mem K w0 phx' c7 ax.aR w'->dw phx' (view w' c7) ax.aR ax.bX a'->cm ll BI s.aR VT phx' c7 ax.aR w'->g9 (d2 b) a0 a' ->
    kI phx' c7 ax.aR bV->hr phx' w' c7 ax.aR (λb=>¬K.k b) a' es y (λ_=>False) bV->(∀t,t∉nS (d2 b)->ax.bX t=base.bX t)->(∀id,base.aR id ≠ .new->id∉dv es->ax.aR id=base.aR id)->(∀id,(base.aR id).cb (ax.aR id))->Jq y a' w':=by
   intro cp phx' c7 w' a' y ax bV GL pH tP ni xo fw sq oK bY;have GN:∀id∈dv es,∀t v,ax.aR id=.box t v->∃t',nQ es id=some t':=λid hi t v Y=>by obtain⟨t',sh,l?⟩:=fw.Dw id hi t v Y;exact Pz l?
   obtain⟨Tl,abs,mM⟩:=asW GL fw q_ Sf oK GN;have hz:=Dj hold fw (λe h=>h) (λid h=>h) fw;have aqU:dw phx' (view w' c7) (kU base.aR ax.aR es) base.bX a':=by
    intro t;by_cases ht:t∈nS (d2 b)
    .rw[ai1 t ht];trivial
    rw[<- sq t ht];refine a?.h3 (λ_ _ _=>rfl) (cg.cb.refl _) (λj an=>abs j ?_) (pH t)
    grind
   have i1:o? (kU base.aR ax.aR es) base es:=by
    refine⟨λj an => ?_,λj cp p an => ?_⟩
    .unfold kU
     split
     .rename_i aj;exact(sC.1 aj).symm
     rename_i aj;have kQ:=λh=>aj (sC.2 h);cases Y:nQ es j with
     |some t=>exact absurd (B6 Y) an
     |none=>exact oK j kQ an
    unfold kU at an;split at an
    .cases an
    rename_i aj;have kQ:=λh=>aj (sC.2 h);split at an
    .cases an
    have:=bY j;rw[an]at this;generalize base.aR j=q at this kQ;cases q<;>simp only[aQ.cb]at this<;>first|exact this.elim|exact absurd rfl kQ|exact⟨_,by rw[this]⟩
   have aqn:∀id∈hP es,kU base.aR ax.aR es id=.new:=λid hi=>by unfold kU;rw[if_pos (sC.2 (gi id hi))]
   obtain⟨kj,auB,bG,b_,co,dl,eQ,⟨fS,lq,xV,vY⟩,pR⟩:=C4 (Uf:=bV) (A:=λ_=>False) Tl aqU i1 aqn iT fw hz (λb Y=>Y) (λb Y=>Y.elim) (λj an z bj=>.inl (xo.1 j (mM j an) z bj));have Ca:=λid hid=>(abs id hid).trans (co.bl id);have adi:∀id,s.aR id ≠ .new->base.aR id ≠ .new:=λid hid ai=>hid (asw (e1.bl id) (by rw[<- y3];exact ai));refine⟨kj,auB,c7,bG,b_,dl,⟨λid hl => ?_,tP.vw.trans co.vw,λid => ?_⟩,ni,λid => ?_,⟨fS,lq,vY⟩,pR⟩
   .have Y:=adi id (asD hl)
    rw[eQ id λai=>Y (gi id ai)];exact tP.pl id hl
   .by_cases hid:s.aR id=.new
    .rw[hid];cases kj.aR id<;>trivial
    exact(tP.bl id).trans (Ca id (adi id hid))
   by_cases hid:base.aR id=.new
   .rw[hid];cases kj.aR id<;>trivial
   exact(bY id).trans (Ca id hid)
  cases hl:bN (λx=>(qy base es x λs=>aP.bind (run E rs res nv nt inl b s) (Ic base es)).bI) rR with
  |none=>rw[hl]at O;cases O
  |some o=>
   rw[hl]at O;obtain⟨n,aj⟩:=Te hl;have ang:∀jl y,o=.ex jl y->∀a' w',Jq y a' w'->Q (lG E jl) a' w':=by
    rintro jl y rfl a' w' ⟨kj,phx,M,dF,gr,lk,xQ,xR,sN,⟨fS,TW,TX⟩,DB⟩;have O:((qy base es y λs=>Cq jl s exs).bind k).bI=some r:=O;rw[dF]at O;refine Sr jl kj phx M w' a' (Zq O) ⟨⟨λt ht => ?_,?_⟩,gr,xQ,lk,xR⟩
    .have vy:=λai=>ht (Di.1 ai)
     rw[DB t λai=>vy (qx t ai),Pk t vy,dT]
    obtain⟨_,atz,g1,bw⟩:=f1;refine⟨fS++atz,by rw[TW,ajK,g1,gv],λid hid => ?_⟩;rw[io,not_or]at hid;rw[TX id hid.1,y3,bw id hid.2]
   have anh:∀x,o=.rt x->∀a' w',a'.defers=a0.defers->(∃us,sU P a'.tmps w' res us/\iu w0 K.x w' rs x (i? us))->Q .ret a' w':=by rintro x rfl a' w' aF aL;exact Ss x w' a' O aF aL
   have ao:=by refine WX bp ll ft VT a0 rR bp tk bD (by rw[dT];exact ac.ext e1) e1 (g9.refl _ _) axM amw (λt ht=>(Pk t ht).symm) (λid _ _=>by rw[y3]) (λid=>by rw[y3];exact aQ.cb.refl _)
   refine ahw (λn a w=>∃x,n6 (λx=>(qy base es x λs=>aP.bind (run E rs res nv nt inl b s) (Ic base es)).bI) n x=some o/\Jq x a w) (λa w=>by rintro⟨x,hx,_⟩;cases hx) ?_ (n:=n) ⟨rR,aj,ao⟩;rintro n a w ⟨x,hx,kj,phx,M,dF,gr,lk,xQ,xR,sN,⟨fS,TW,TX⟩,DB⟩;simp only[n6]at hx;rw[dF]at hx;have cP:nt<=a.tmps.size:=by rw[xR.1];exact gh
   have agV:∀(cp:aM) (phx':cc) (ay:Nat->Prop) (w':World) (a':Act) {ρ':Type} (jl:mC es->aP ρ') (di:ρ'),fT K w0 (d2 b) kj phx M w a cp phx' ay w' a'->((ry cp es).bind λy=>bif Ck base es y.2 then jl y.1 else .fail).bI=some di->∃y,(jl y).bI=some di/\Jq y a' w':=by
    intro cp phx' ay w' a' ρ' jl di su iR;obtain⟨y,ax,c7,bV,af,cn,aN,ev,f2,qQ,oh,qg⟩:=Ax (a:=a') iR su.hd su.slots (U:=λ_=>False) ⟨λ_ _ _ _ h=>h,λ_ h=>h.elim⟩;cases xk:Ck base es ax with
    |false=>rw[xk]at af;cases af
    |true=>
     rw[xk,cond_true]at af;refine⟨y,af,?_⟩;obtain⟨R5,ads,Gy,R6⟩:=su.iz;obtain⟨_,adt,R',R?⟩:=f2;have bb:ax.w=(adt++(ads++fS))++base.w:=by rw[R',Gy,TW];simp
     have f7:=amC xk bb;refine WX cp phx' c7 w' a' y ax bV cn (by rw[ev];exact su.slots.ext aN) ((xQ.trans su.ext).trans aN) (xR.sub su.keep (λt h=>h) (λt h=>h)) oh qg (λt ht => ?_) (λid hid vr => ?_) (λid=>((sN id).trans (su.ext.bl id)).trans (aN.bl id))
     .rw[ev,R5 t (λai=>ht (Di.2 ai)),DB t λai=>ht (qx t ai)]
     have Lx:id∉adt++(ads++fS):=λai=>(f7 id ai).elim hid vr;simp only[io,not_or]at Lx;rw[R? id Lx.1,R6 id Lx.2.1,TX id Lx.2.2]
   cases hf:((run E rs res nv nt inl b kj).bind (Ic base es)).bI with
   |none=>rw[hf]at hx;cases hx
   |some di=>
    rw[hf]at hx;refine ih kj _ (Ic base es) di hf phx M w a gr lk cP _ (λcp phx' ay w' a' iR su => ?_) (λid cp phx' ay w' a' iR su => ?_) (λwj w' a' iR aF aL => ?_)
    .obtain⟨y,af,hh⟩:=agV cp phx' ay w' a' (λy=>.leaf (aE.nx y)) di su iR
     cases af;exact⟨y,hx,hh⟩
    .obtain⟨y,af,hh⟩:=agV cp phx' ay w' a' (λy=>.leaf (aE.ex id y)) di su iR
     cases af;cases hx;have hf:=ang id y rfl a' w' hh;revert hf;unfold lG
     (repeat' split)<;>exact λh=>h
    cases iR;cases hx;exact anh wj rfl a' w' (aF.trans xR.2.1) aL
end
end Yp
namespace Yp
open Go
variable {P:Program}
def dY.b8{s ax:aM}(h:dY [] s ax):ax.bX=s.bX:=funext λt=>h.1 t bh
section
variable {K:Kp} {w0 w:World} {phx:cc} {M:Nat->Prop} {B B':Nat->aQ} {g:Nat->au} {H:cg} {E:da} {nv nt:Nat}
def anH{s:aM}{f:Operand}{a:Act}(ac:dw phx H s.aR s.bX a):a? phx H s.aR (Cx s f) (a.eval f)\/Cx s f=.bad:=by
 cases f with
 |tmp t=>exact .inl (ac t)
 |func f=>exact .inl ⟨[],rfl,rfl⟩
 |const v=>exact .inr rfl
 |global i=>exact .inr rfl
def at8(hT:mV P E.b8)(cv:pr P E.b8 E.C)(g3:qB P E.M)(dA:oq P E K w0)(eo:∀f g,E.I f=some g->j2 P f g)
  {o:Oper} {s:aM} {ρ:Type} {k:au×aM->aP ρ} {r:ρ} (h:((TN E o s).bind k).bI=some r) {a:Act} (hm:Mem K w0 phx M s.aR w) (ac:dw phx (view w M) s.aR s.bX a)
  {Kn:Act->World->Prop} {Q:Exit->Act->World->Prop}
  (ap:∀v ax phx' ay w' x,(k (v,ax)).bI=some r->Mem K w0 phx' ay ax.aR w'->cm phx M s.aR w phx' ay ax.aR w'->a? phx' (view w' ay) ax.aR v x->dY [] s ax->Kn (a.put o.dst x) w'):o.wp P a w Kn Q:=by
 have plain:((((rv E o).run s 0 [] []).bind λr=>s.v8 r.2.wr λbp=>mH r.1 λv=>.leaf (v,bp):aP (au×aM)).bind k).bI=some r->o.wp P a w Kn Q:=by intro h;rw[aP.fe]at h;obtain⟨v,e,O,R⟩:=aw.ae8 s (rv E o) 0 [] [] _ r h;simp only[aM.Il,w7,aP.bind]at R;have aB:(s.ek e.wr).aR=dx s.aR e.wr:=aM.nd s _;refine TO hT cv g3 dA O hm ac λx w' bu => ?_;obtain⟨phx',ay,bD,e1,eG⟩:=bu;exact ap v (s.ek e.wr) phx' ay w' x R (by rw[aB];exact bD) (by rw[aB];exact e1) (by rw[aB];exact eG) (dY.ek e.wr [])
 unfold TN at h;obtain⟨c6,op,type,i9,after,CE⟩:=o;cases op<;>try(exact plain h)
 rename_i c;obtain⟨Qb,args,eg⟩:=c;cases Qb<;>try(exact plain h)
 rename_i f;simp only at h;cases hi:SR E (c6.getD 0) (Cx s f) args.toList s with
 |none=>rw[hi]at h;exact plain h
 |some t=>
  rw[hi]at h;simp only at h;unfold SR at hi;split at hi
  .rename_i F dQ cV hf
   split at hi
   .rename_i sj abe
    cases hi;have fU:=eo _ _ abe;rw[aP.fe,aP.fe]at h;obtain⟨aZ,wr,O,R⟩:=oL h;obtain⟨e1,dc⟩:=xF ac O;simp only at R;have aB:(s.ek wr).aR=s.aR:=by rw[aM.nd,e1]
    have qw:a? phx (view w M) s.aR (.clo F dQ cV) (a.eval f):=by
     rcases anH (f:=f) ac with h|h
     .rw[hf]at h;exact h
     rw[hf]at h;cases h
    obtain⟨us,aA,oM⟩:=qw;refine Oh oM fU.1 ?_;have bu:(args.toList.map a.eval).toArray=args.map a.eval:=by apply m3;simp
    have iO:(us.take dQ++(args.toList.map a.eval++us.drop dQ)).toArray=(us.take dQ).toArray++args.map a.eval++(us.drop dQ).toArray:=by rw[<- bu];simp
    rw[<- iO];refine(fU.2 K w0 (dA.gk (.inr (.inl ⟨_,_,abe⟩))) _ (u1 dQ cV aZ) (s.ek wr) _ _ r R phx M w _ (by rw[aB];exact hm) (by rw[aB];exact Qn aA dc)).mono ?_;rintro e w' ⟨b2,rfl,v,ax,phx',ay,bG,b_,co,dl,eQ⟩;rw[aB]at co;simp only[w7,aP.bind]at bG;exact⟨b2,rfl,ap v ax phx' ay w' b2 bG b_ co dl (((dY.ek wr []).trans eQ).mono bh)⟩
   cases hi
  cases hi
def M_(hT:mV P E.b8)(cv:pr P E.b8 E.C)(g3:qB P E.M)(dA:oq P E K w0)(eo:∀f g,E.I f=some g->j2 P f g)
  (ej:nt<=1000000) {ops:Array Oper} {Q:Exit->Act->World->Prop} {tail:List Oper}:∀(l:List Oper) (top:Bool) (i:Nat) (s:aM) {ρ:Type} (k:aM->aP ρ) (r:ρ),((o2 E ops.toList nv nt top i l s).bind k).bI=some r ->
  ∀(phx:cc) (M:Nat->Prop) (w:World) (a:Act),Mem K w0 phx M s.aR w->dw phx (view w M) s.aR s.bX a->nt<=a.tmps.size ->
  (∀ax phx' ay w' a',(k ax).bI=some r->dY (en l) s ax->Mem K w0 phx' ay ax.aR w'->cm phx M s.aR w phx' ay ax.aR w'->dw phx' (view w' ay) ax.aR ax.bX a'->g9 (en l) a a'->wpList P ops Q tail a' w')->wpList P ops Q (l++tail) a w:=by
 intro l;induction l with
 |nil=>intro top i s ρ k r h phx M w a hm ac gh a2;exact a2 s phx M w a h (dY.refl _ _) hm (cm.refl _ _ _ _) ac (g9.refl _ _)
 |cons o rest ih=>
  intro top i s ρ k r h phx M w a hm ac gh a2;have aF:=tE o rest;simp only[o2]at h

  have ys:∀{ρ:Type} (k:aM->aP ρ) (r:ρ) (Ba:Bool) (bp:aM) (v cX:au) (hk:cc) (ft:Nat->Prop) (cf:World) (x:Value),r1 v cX->((ib nt o.dst bp cX λs=>o2 E ops.toList nv nt Ba (i+1) rest s).bind k).bI=some r ->
    Mem K w0 hk ft bp.aR cf->dw hk (view cf ft) bp.aR bp.bX a->a? hk (view cf ft) bp.aR v x ->
    (∀ax phx' ay w' a',(k ax).bI=some r->dY (en rest) (i_ bp o.dst cX) ax->(∀d,o.dst=some d->d<nt)->Mem K w0 phx' ay ax.aR w'->cm hk ft bp.aR cf phx' ay ax.aR w'->dw phx' (view w' ay) ax.aR ax.bX a'->g9 (en (o::rest)) a a'->wpList P ops Q tail a' w') ->
    wpList P ops Q (rest++tail) (a.put o.dst x) cf:=by
   intro ρ k r Ba bp v cX hk ft cf x SB h bD Iz eG a2;obtain⟨f6,h⟩:=uz h;have q':∀d,o.dst=some d->d<a.tmps.size:=λd aF=>hU (f6 d aF) gh;refine ih Ba (i+1) _ k r h hk ft cf _ (by rw[lp];exact bD) (by rw[lp,rA ej f6];exact Iz.put q' (SB.bO eG)) (by simp only[Act.put];split<;>simpa using gh) λax phx' ay w' a' ap hf cn aN sW b3 => ?_;rw[lp]at aN;exact a2 ax phx' ay w' a' ap hf f6 cn aN sW ((g9.put aF.1).sub b3 (λt h=>h) aF.2)
  rcases aax h with⟨bb,h⟩|⟨bb,h⟩
  .simp only[lA,wpList]
   rw[if_pos (VV bb ac)];left;rw[aP.fe]at h;refine at8 hT cv g3 dA eo h hm ac λv bp hk ft cf x h bD e1 eG f1 => ?_;simp only at h;have Iz:dw hk (view cf ft) bp.aR bp.bX a:=by rw[f1.b8];exact ac.ext e1
   have Re:∀cX ax,(∀d,o.dst=some d->d<nt)->dY (en rest) (i_ bp o.dst cX) ax->dY (en (o::rest)) s ax:=λcX ax _ hf=>(f1.sub (vX aF.1) (λt h=>by simp at h) (λt h=>h)).sub hf (λt h=>h) aF.2;cases hg:(Nat.testBit (xd ops.toList) i&&(tz v).isSome) with
   |false =>rw[hg,cond_false]at h;exact ys k r top bp v v hk ft cf x (.inl rfl) h bD Iz eG λax phx' ay w' a' ap hf f6 cn aN sW b3=>a2 ax phx' ay w' a' ap (Re v ax f6 hf) cn (e1.trans aN) sW b3
   |true=>
    rw[hg,cond_true]at h;cases Y:tz v with
    |none=>rw[Y]at h;cases h
    |some c=>
     rw[Y]at h;simp only at h;have aC:=Xk Y

     have two:∀{ρ:Type} (k:aM->aP ρ) (r:ρ),((aP.br c (ib nt o.dst bp (.kb true) λs=>o2 E ops.toList nv nt false (i+1) rest s) (ib nt o.dst bp (.kb false) λs=>o2 E ops.toList nv nt false (i+1) rest s)).bind k).bI=some r ->
       (∀ax phx' ay w' a',(k ax).bI=some r->dY (en rest) (i_ bp o.dst (.kb c)) ax->(∀d,o.dst=some d->d<nt)->Mem K w0 phx' ay ax.aR w'->cm hk ft bp.aR cf phx' ay ax.aR w'->dw phx' (view w' ay) ax.aR ax.bX a'->g9 (en (o::rest)) a a'->wpList P ops Q tail a' w') ->
       wpList P ops Q (rest++tail) (a.put o.dst x) cf:=by
      intro ρ k r h a2;simp only[aP.bind,aP.bI,T]at h;cases c with
      |true=>exact ys k r false bp v (.kb true) hk ft cf x (.inr ⟨true,aC,rfl⟩) h bD Iz eG a2
      |false=>exact ys k r false bp v (.kb false) hk ft cf x (.inr ⟨false,aC,rfl⟩) h bD Iz eG a2
     cases top with
     |false=>exact two k r h λax phx' ay w' a' ap hf f6 cn aN sW b3=>a2 ax phx' ay w' a' ap (Re _ ax f6 hf) cn (e1.trans aN) sW b3
     |true=>
      rw[cond_true]at h;obtain⟨f6,h⟩:=uz h;rcases SW (λt ht=>(rZ.1 ht).1) h with h|⟨ks,p,hp,hrest⟩
      .exact two k r h λax phx' ay w' a' ap hf f6 cn aN sW b3=>a2 ax phx' ay w' a' ap (Re _ ax f6 hf) cn (e1.trans aN) sW b3
      refine two _ p hp λax phx' ay w' a' R hf _ cn aN sW b3 => ?_;obtain⟨rz,pG,iB⟩:∃rz,(bif Nat.beq ax.w.length (i_ bp o.dst (.sc .bool c)).w.length then ql ax ks else none)=some rz/\(aP.leaf rz).bI=some p:=by
       have tK:((aP.ue (bif Nat.beq ax.w.length (i_ bp o.dst (.sc .bool c)).w.length then ql ax ks else none)).bind aP.leaf).bI=some p:=by rw[kq];exact R
       exact aP.TH tK
      cases iB;cases cq:Nat.beq ax.w.length (i_ bp o.dst (.sc .bool c)).w.length with
      |false=>rw[cq]at pG;cases pG
      |true=>
       rw[cq,cond_true]at pG;have R9:Jo (en rest) (i_ bp o.dst (.sc .bool c)) ax:=by
        obtain⟨f1,fS,f2,f3⟩:=hf;refine⟨λt ht => ?_,fS,by rw[f2,MM,MM],λid hid=>by rw[f3 id hid,lp,lp]⟩;rw[f1 t ht,rA ej f6,rA ej f6];cases apv:o.dst with
        |none=>exact .inl rfl
        |some d=>
         by_cases zQ:t=d
         .right
          refine⟨.bool,c,by simp[kE,o9,zQ],?_⟩;simp only[kE,o9,zQ,if_true];rfl
         left;simp[kE,o9,zQ]
       obtain⟨d5,VU,ayl,aym⟩:=hrest ax R9 (fB cq) pG;refine a2 d5 phx' ay w' a' aym ?_ (by rw[VU.2];exact cn) (by rw[VU.2];exact e1.trans aN) (sW.N8 VU) b3;exact(f1.sub (vX aF.1) (λt h=>by simp at h) (λt h=>h)).sub ayl (λt h=>h) aF.2
  simp only[lA,wpList];rw[if_neg (by rw[agk bb ac];simp)];exact ys k r top s .undef .undef phx M w undef (.inl rfl) h hm ac (ahk rfl) λax phx' ay w' a' ap hf f6 cn aN sW b3=>a2 ax phx' ay w' a' ap ((vX aF.1).sub hf (λt h=>h) aF.2) cn aN sW b3
end
end Yp
namespace Yp
open Go
def rW:=@Array.replicate_succ
def wD:=@List.getElem?_toArray
def BN:=@Nat.sub_self
variable {P:Program}
def aav{n:Nat}:∀{l:List Oper},Lg n l=true->∀o∈l,∀g b,o.guard=some (g,b)->g<n
 |[],_,o,h,_,_,_=>by cases h
 |x::l,h,o,aK,g,b,hg=>by
  simp only[Lg,cL]at h;rcases gE.1 aK with rfl|aK
  .rw[hg]at h;simpa using h.1
  exact aav h.2 o aK g b hg
def Za:∀{l m:List Oper} {i:Nat},u2 i (l++m)=true->u2 i l=true
 |[],_,_,_=>rfl
 |o::l,m,i,h=>by simp only[lA,u2,cL]at h ⊢;exact⟨h.1,Za h.2⟩
def ayz{o:Oper}{a:Act}{w:World}{Kn:Act->World->Prop}{Q Q':Exit->Act->World->Prop}(a2:∀e a w,e ≠ .normal->Q' e a w->Q e a w)(h:o.wp P a w Kn Q'):o.wp P a w Kn Q:=by
 unfold Oper.wp at *
 generalize(execOp a.eval o).run P w=r at *
 cases r with
 |ok n w'=>
  cases n<;>simp only[Oper.upon]at h ⊢ <;>
   first
    |exact h
    | (
     refine Calls.mono h λe I_ aA => ?_;cases e with
     |returned v=>exact aA
     |panicked c=>exact a2 _ _ _ bh aA
     |outgrown=>obtain⟨a,w,h⟩:=aA;exact⟨a,w,a2 _ _ _ bh h⟩)
 |halt x w'=>cases x<;>simp only[Oper.upon]at h ⊢ <;> first|exact a2 _ _ _ bh h|exact h
def IW(P:Program)(ops:Array Oper)(n:Nat)(Q:Exit->Act->World->Prop):Exit->Act->World->Prop
 |.normal,a,w=>wpOp P ops Q n (λa w=>Q .normal a w) a w
 |e,a,w=>Q e a w
def ayy{l:List Oper}{o:Oper}(hl:Hn l o=true){Q:Exit->Act->World->Prop}:
  ∀(gC:Nat) (b6:Array Bool) (a:Act) (w:World),b6.size=l.length->qW l.toArray (e2 b6) ->
   wpAny P .any l.toArray (IW P (l++[o]).toArray l.length Q) gC b6 a w->wpAny P .any (l++[o]).toArray Q (gC+1) (b6.push false) a w:=by
 simp only[Hn,cL]at hl;obtain⟨⟨zC,apV⟩,RS⟩:=hl;have aj:(l++[o]).toArray.size=l.length+1:=bh;have Ro:∀i,i<l.length->(l++[o]).toArray[i]?=l.toArray[i]?:=λi hi=>by
  grind
 have aad:(l++[o]).toArray[l.length]?=some o:=bh;have AE:∀(b6:Array Bool) (i:Nat) (d:Bool),b6.size=l.length->i<l.length->(b6.push false).getD i d=b6.getD i d:=λb6 i d ac hi=>by
  rw[mv,mv,Array.getElem?_push_lt J]
  grind
 have aeq:∀(b6:Array Bool) (d:Bool),b6.size=l.length->(b6.push false).getD l.length d=false:=λb6 d ac=>by rw[mv,<- ac,Array.getElem?_push_size];rfl
 have QQ:=KH (Za zC);have amv:∀e∈o.after.toList,Region.binds .any e=true->e.on<l.length:=λe aA Y=>by have:=KH zC l.length o (by rw[BG (bU _),BN];rfl) e aA Y;omega

 have Ui:∀(b6:Array Bool) (i:Nat),b6.size=l.length->i<l.length->(i∈Region.ready .any (l++[o]).toArray (b6.push false)↔i∈Region.ready .any l.toArray b6):=λb6 i ac hi=>by
  rw[mem_ready,mem_ready,Ro i hi,AE b6 i true ac hi];refine and_congr pk (exists_congr λdi => ?_);refine and_congr_right λaK => ?_;have aqs:l[i]?=some di:=by rw[<- wD];exact aK
  refine forall_congr' λe => ?_;refine forall_congr' λaA => ?_;refine forall_congr' λY => ?_;have:=QQ i di aqs e (by simpa using aA) Y;rw[AE b6 e.on false ac J]
 have aiC:∀(b6:Array Bool),b6.size=l.length->Region.ready .any l.toArray b6=[]->∀i,i<l.length->b6.getD i false=true:=by
  intro b6 i4 ah i;induction i using Nat.strongRecOn with
  |_ i ih=>
   intro hi;cases hL:b6.getD i false with
   |true=>rfl
   |false=>
    exfalso;have l?:i∈Region.ready .any l.toArray b6:=by
     rw[mem_ready];refine⟨?_,l[i],by rw[wD];exact jM hi,λe aA Y => ?_⟩
     .have:i<b6.size:=J
      simp[this]at hL ⊢;exact hL
     have bm:=QQ i l[i] (jM hi) e (by simpa using aA) Y;exact ih e.on J J
    rw[ah]at l?;cases l?
 have atq:∀(b6:Array Bool),(∀i,i<l.length->b6.getD i false=true)->b6.size=l.length->Region.ready .any l.toArray b6=[]:=λb6 h i4=>by
  rw[JB];intro i hi;obtain⟨ao,di,aK,_⟩:=mem_ready.1 hi;have bm:=by simpa using(ip.1 aK).1
  have O:=h i bm;have:i<b6.size:=J;simp[this]at ao O;rw[O]at ao;cases ao

 have done:∀(b6:Array Bool) (f:Nat) (a:Act) (w:World),b6.size=l.length->Region.ready .any l.toArray b6=[]->IW P (l++[o]).toArray l.length Q .normal a w->wpAny P .any (l++[o]).toArray Q (f+1) (b6.push false) a w:=by
  intro b6 f a w i4 ah a2;have hall:=aiC b6 i4 ah;have fC:l.length∈Region.ready .any (l++[o]).toArray (b6.push false):=by rw[mem_ready];exact⟨aeq b6 true i4,o,aad,λe aA Y=>by have:=amv e (by simpa using aA) Y;rw[AE b6 e.on false i4 this];exact hall _ this⟩
  refine⟨λh=>(by rw[h]at fC;cases fC),λi hi => ?_⟩;have bm:i<l.length+1:=by obtain⟨_,di,aK,_⟩:=mem_ready.1 hi;rw[<- aj];exact(ip.1 aK).1
  by_cases rc:i<l.length
  .rw[Ui b6 i i4 rc,ah]at hi;cases hi
  obtain rfl:i=l.length:=J;refine wpOp_mono (λa' w' sw => ?_) a2;have zM:Region.ready .any (l++[o]).toArray ((b6.push false).setIfInBounds l.length true)=[]:=by
   rw[JB];intro i hi;obtain⟨ao,di,aK,_⟩:=mem_ready.1 hi;have bm:i<l.length+1:=by rw[<- aj];exact(ip.1 aK).1
   have cP:(b6.push false).size=l.length+1:=by simp[i4]
   by_cases rc:i=l.length
   .subst rc
    rw[mv,Array.getElem?_setIfInBounds_self_of_lt J]at ao;cases ao
   rw[mv,BB (nI rc),<- mv,AE b6 i true i4 J]at ao;have O:=hall i J;have:i<b6.size:=J;simp[this]at ao O;rw[O]at ao;cases ao
  cases f with
  |zero=>exact⟨zM,sw⟩
  |succ f=>exact⟨λ_=>sw,λi hi=>by rw[zM]at hi;cases hi⟩
 intro gC;induction gC with
 |zero=>intro b6 a w i4 eB h;exact done b6 0 a w i4 h.1 h.2
 |succ gC ih=>
  intro b6 a w i4 eB h;by_cases ah:Region.ready .any l.toArray b6=[]
  .exact done b6 (gC+1) a w i4 ah (h.1 ah)
  refine⟨λgD => ?_,λi hi => ?_⟩
  .exfalso
   apply ah;rw[JB];intro i hi;have bm:i<l.length:=by obtain⟨_,di,aK,_⟩:=mem_ready.1 hi;simpa using(ip.1 aK).1
   have:=(Ui b6 i i4 bm).2 hi;rw[gD]at this;cases this
  have bm:i<l.length+1:=by obtain⟨_,di,aK,_⟩:=mem_ready.1 hi;rw[<- aj];exact(ip.1 aK).1
  by_cases rc:i<l.length
  .have gG:=(Ui b6 i i4 rc).1 hi
   have R:=h.2 i gG;have nj:(b6.push false).setIfInBounds i true=(b6.setIfInBounds i true).push false:=by
    have vo:i<b6.toList.length:=by rw[O1];omega
    apply m3;simp only[WG,Array.toList_push,List.set_append];rw[if_pos vo]
   rw[nj];unfold wpOp at R ⊢;rw[Ro i rc];obtain⟨ao,di,aK,RZ⟩:=mem_ready.1 gG;rw[aK]at R ⊢;simp only at R ⊢;have l?:=by rw[wD]at aK;exact JT aK
   have arb:Region.wanted di (yielded (l++[o]).toArray a.tmps)=Region.wanted di (yielded l.toArray a.tmps):=by
    unfold Region.wanted;cases hg:di.guard with
    |none=>rfl
    |some p =>obtain⟨g,b⟩:=p;have:=aav apV di l? g b hg;simp only[yielded,Ro g this]
   rw[arb];have aph:qW l.toArray (e2 (b6.setIfInBounds i true)):=by
    intro k ok ap sn x hx Y;have CR:i<b6.size:=J;rw[JE CR]at sn ⊢;simp only[yJ,decide_eq_true_eq]at sn ⊢;right;rcases sn with sn|sn
    .subst sn
     rw[wB,aK]at ap;cases ap;exact RZ x (by simpa using hx) Y
    exact eB k ok ap sn x hx Y
   have ap:=
    λa w h=>ih _ a w (by simpa using i4) aph h
   have abF:∀e a w,e≠Exit.normal->IW P (l++[o]).toArray l.length Q e a w->Q e a w:=λe a w aA h=>by cases e<;>first|exact absurd rfl aA|exact h
   split
   .rename_i bb
    rw[if_pos bb]at R;refine R.imp (λR=>ayz abF (Oper.wp_mono ap R)) λ⟨af,a4,hq,aq⟩=>⟨af,a4,hq,abF _ _ _ bh aq⟩
   rename_i bb;rw[if_neg bb]at R;exact ap _ _ R
  obtain rfl:i=l.length:=J;exfalso;apply ah;obtain⟨_,di,aK,RZ⟩:=mem_ready.1 hi;rw[aad]at aK;cases aK;refine atq b6 (λi hi => ?_) i4;have hall:=Po (ops:=l++[o]) (L:=λi=>(b6.push false).getD i false) (λk ok ap sn x hx Y => ?_) l.length o (by rw[BG (bU _),BN];rfl) (λe aA Y=>RZ e (by simpa using aA) Y) i (pg.1 RS i (ov.2 hi))
  .rw[<- AE b6 i false i4 hi];exact hall
  have CT:k<l.length:=by
   have re:=by have:=(mt.1 ap).1;simpa using this
   by_cases CT:k=l.length
   .subst CT
    rw[aeq b6 false i4]at sn;cases sn
   omega
  have qt:=by rw[EN CT]at ap;exact ap
  have abZ:=QQ k ok qt x hx Y;rw[AE b6 x.on false i4 J];refine eB k ok (by exact qt) ?_ x hx Y;show b6.getD k false=true;rw[<- AE b6 k false i4 CT];exact sn
section
variable {K:Kp} {w0:World} {E:da} {nt:Nat} {ops:Array Oper}
def avK(hT:mV P E.b8)(cv:pr P E.b8 E.C)(g3:qB P E.M)(dA:oq P E K w0)(eo:∀f g,E.I f=some g->j2 P f g)(ej:nt<=1000000){s:aM}{k:aM->aP ρ}{r:ρ}
  (h:((oc E ops.toList nv nt true true 0 ops.toList s []).bind k).bI=some r) {phx:cc} {M:Nat->Prop} {w:World} {a:Act} (hm:Mem K w0 phx M s.aR w) (ac:dw phx (view w M) s.aR s.bX a) (gh:nt<=a.tmps.size)
  {Q:Exit->Act->World->Prop}
  (a2:∀ax phx' ay w' a',(k ax).bI=some r->dY (en ops.toList) s ax->Mem K w0 phx' ay ax.aR w'->cm phx M s.aR w phx' ay ax.aR w'->dw phx' (view w' ay) ax.aR ax.bX a'->g9 (en ops.toList) a a'->Q .normal a' w') :
  wpAny P .any ops Q ops.size (Array.replicate ops.size false) a { w with drawn:=w.drawn+1 }/\qW ops (e2 (Array.replicate ops.size false)):=by
 obtain⟨ax,⟨bz,bp,O,R,af,aq,a8,cS,dN,cx⟩,ap⟩:=ae5 ej _ _ _ _ _ k r h;have go:∀phx' ay w' a',Mem K w0 phx' ay (eb bz (λ_=>true) s.aR) w'->cm phx M s.aR w phx' ay (eb bz (λ_=>true) s.aR) w'->dw phx' (view w' ay) (eb bz (λ_=>true) s.aR) (fi bz (λ_=>true) s.bX) a'->g9 (en ops.toList) a a'->Q .normal a' w':=by intro phx' ay w' a' bD e1 bp bF;rw[<- a8]at bD e1 bp;rw[<- aq]at bp;exact a2 ax phx' ay w' a' ap dN (by rw[cS.2];exact bD) (by rw[cS.2];exact e1) (bp.N8 cS) bF
 obtain⟨ah,aK⟩:=cx rfl;simp only[H5,cL]at ah;have f:k1 E nt ops bz s.bX s.aR:=⟨by simpa using O,R,af,ah.2,ah.1,TQ (by simpa using aK)⟩;have tM:e2 (Array.replicate ops.size false)=λ_=>false:=by funext i;unfold e2;by_cases hi:i<ops.size<;>simp[hi]
 have Ah:∀(l:List eZ) (B:Nat->aQ),eb l (λ_=>false) B=B:=by
  intro l;induction l with
  |nil=>intro g;rfl
  |cons y l ih=>intro g;simp only[eb,cond];exact ih g
 have Tp:∀(l:List eZ) (g:Nat->au),fi l (λ_=>false) g=g:=by
  intro l;induction l with
  |nil=>intro g;rfl
  |cons y l ih=>intro g;simp only[fi,cond];exact ih g
 have h?:Mem K w0 phx M s.aR { w with drawn:=w.drawn+1 }:={ hm with keep:=hm.keep,blks:=hm.blks };have eB:qW ops (e2 (Array.replicate ops.size false)):=by intro i o _ h;rw[tM]at h;cases h
 refine⟨ag9 (P:=P) (K:=K) (w0:=w0) hT cv g3 dA eo f gh go ops.size _ phx M { w with drawn:=w.drawn+1 } a bh eB ?_ ?_ ?_ ?_ (g9.refl _ _),eB⟩
 .exact e0 (rV _ _) bh
 .rw[tM,Ah];exact h?
 .rw[tM,Ah];exact⟨λ_ _=>rfl,cg.cb.refl _,λ_=>aQ.cb.refl _⟩
 rw[tM,Ah,Tp];exact ac
def avM(iS:P.follows .mixedOrders=true){l:List Oper}{o:Oper}(hl:Hn l o=true){id:Nat}{Q:Exit->Act->World->Prop}{a:Act}{w:World}(aK:(l++[o]).toArray=ops)
  (h:wpAny P .any l.toArray (IW P (l++[o]).toArray l.length Q) l.toArray.size (Array.replicate l.toArray.size false) a { w with drawn:=w.drawn+1 }/\qW l.toArray (e2 (Array.replicate l.toArray.size false))) :
  (Code.region id ops true).wp P Q a w:=by
 subst aK;refine wp_region_any iS ?_;have O:=ayy hl _ _ a _ bh h.2 h.1;have e1:(l++[o]).toArray.size=l.toArray.size+1:=bh;have aN:Array.replicate (l++[o]).toArray.size false=(Array.replicate l.toArray.size false).push false:=by rw[e1,rW]
 rw[aN,e1];exact O
end
end Yp