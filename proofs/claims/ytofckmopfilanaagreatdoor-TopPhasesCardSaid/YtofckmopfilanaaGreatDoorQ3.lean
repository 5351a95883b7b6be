/- A part of the proof of the statements of this seat: plain functions, and laws on them. No condition of its own. -/
import Derived.Test.YtofckmopfilanaaGreatDoorQ2
set_option linter.unusedVariables false
set_option linter.unusedSimpArgs false
set_option linter.defProp false
noncomputable section
open Go Yp
variable {a c r:Nat}{B b key:V}
namespace Yp
open Go
set_option maxRecDepth 100000
set_option maxHeartbeats 2000000
def wl(i:Bool)(key:V)(bS:Int)(h:ej):c8:={ eN i key bS h with seq:=2 }
def td:gr:=(k3 lv 1).1
def Ae(i:Bool)(key:V)(bS:Int)(h:ej):c8:={ eN i key bS h with win:=td }
def oD(i:Bool)(key:V)(B:V):c9:=go (eN i key 0 dY) B
theorem aBR:lv.1=1:=rfl
theorem avp:(k3 lv 1).2=0:=rfl
def aBi(i:Bool)(key:V)(az:jM B):iE (oD i key B):=I2 (q:=1) (g:=1) (.inr rfl) (pM (e:=eN i key 0 dY) (mq i) rfl rfl) vC vC rfl vC (mq i) rfl bO az
def aAr(i:Bool)(key:V)(bS:Int){h:ej}(aL:ne c h)(p:eG)(ab:ki b 0=(B,0))(az:jM B):
  pd ⟨eN i key bS h,p⟩ b=(⟨{ wl i key bS (ez h).1 with bC:=[((c:Int),fw (jo (ib key) (oD i key B)),())],got:=[(1,[1,1],0,B,())] },hX p (ib key) (cA (oD i key B))⟩,0):=by
 have hp:fE (nL ⟨eN i key bS h,p⟩ [B]).e=[1,1]:=pM (mq i) rfl rfl;unfold pd;rw[show(⟨eN i key bS h,p⟩:aw).e.day=0 from rfl,ab];refine(if_neg (not_not_intro rfl)).trans ((if_neg (not_not_intro (show kR 3 from .inl rfl))).trans ((if_neg (not_not_intro rfl)).trans ?_));refine YD ?_ rfl;show lI (sd (nL ⟨eN i key bS h,p⟩ [B]) 1 0 B)=_;have e:sd (nL ⟨eN i key bS h,p⟩ [B]) 1 0 B=⟨{ eN i key bS h with queue:=[B],got:=[(1,[1,1],0,B,())] },p⟩:=by unfold sd;rw[hp];rfl
 rw[e];have DN:=Wx (s:=⟨{ eN i key bS h with queue:=[B],got:=[(1,[1,1],0,B,())] },p⟩) aL ⟨by show(2:Int)<=3;decide,by show(3:Int)<=6;decide⟩ (by show ¬(1:Int)=4611686018427387904;decide) az;unfold lI;show ox 1 _=_;unfold ox;show(if(ee ⟨{ eN i key bS h with queue:=[B],got:=[(1,[1,1],0,B,())] },p⟩ B).2=0 then ox 0 (nL (ee ⟨{ eN i key bS h with queue:=[B],got:=[(1,[1,1],0,B,())] },p⟩ B).1 []) else _)=_;rw[DN];exact(if_pos rfl).trans rfl
def ar4(i:Bool)(key:V)(bS:Int){h:ej}{p:eG}(az:jM B)(hg:kT B)(hm:(ib key,cA (oD i key B),())∈p.2.1):
  lc ⟨eN (!i) key bS h,p⟩ (jo (ib key) (oD i key B))=⟨{ Ae (!i) key bS h with got:=[(2,[1,1],1,B,())] },p⟩:=by
 have ht:=Xo (s:=⟨eN (!i) key bS h,p⟩) (a:=eN i key 0 dY) (b:=B) (by cases i<;>rfl) ((pM (mq i) rfl rfl).trans (pM (e:=eN (!i) key bS h) (mq (!i)) rfl rfl).symm) ⟨by show(2:Int)<=3;decide,by show(3:Int)<=6;decide⟩ (SB key) (aBi i key az) hm avp;rw[show jo (ib key) (oD i key B)=cA (go (eN i key 0 dY) B)++jV (eN i key 0 dY).ring.1.2.1 (cA (go (eN i key 0 dY) B)) from rfl,GV ht];generalize jV (eN i key 0 dY).ring.1.2.1 (cA (go (eN i key 0 dY) B))=t;rw[show qq (⟨eN (!i) key bS h,p⟩:aw).e (eN i key 0 dY).ring.1.1=mI key from Tx rfl];obtain⟨g1,cD,cQ,gj⟩:=hg;have aJ:kp ⟨{ eN (!i) key bS h with win:=td,ring:=mI key },p⟩ (jE (go (eN i key 0 dY) B) t)=⟨{ Ae (!i) key bS h with got:=[(2,[1,1],1,B,())] },p⟩:=by unfold kp;refine(if_pos rfl).trans ((if_neg g1).trans ((if_pos cD).trans ?_));rw[show mt ⟨{ eN (!i) key bS h with win:=td,ring:=mI key },p⟩=⟨{ eN (!i) key bS h with win:=td,ring:=mI key },p⟩ from if_neg (show ¬(3:Int)=2 by decide)];unfold qT;refine(if_neg (not_not_intro cQ)).trans ((if_pos (show kR 3 from .inl rfl)).trans ?_);rw[if_neg (show ¬tl (eO (jE (go (eN i key 0 dY) B) t).2.2.2.2.2.1).1 from gj)];unfold sd;rw[show fE (⟨{ eN (!i) key bS h with win:=td,ring:=mI key },p⟩:aw).e=[1,1] from pM (mq (!i)) rfl rfl];rfl
 refine(congrArg lI aJ).trans (I8 rfl)
def akn{i:Bool}(key:V){bS vU:Int}{bh aa:ej}(aL:ne c bh)(p:eG)(o:List eM)(eu lb:List eg)(ab:ki b 0=(B,0))(az:jM B)(x:Int):
  ho (fo i (eN i key bS bh) (eN (!i) key vU aa) p [] o eu lb) (0,dg i,x,0,b,())=(fo i (wl i key bS (ez bh).1) (eN (!i) key vU aa) (hX p (ib key) (cA (oD i key B))) [ww i c (ib key) (oD i key B)] (o++[ww i c (ib key) (oD i key B)]) (eu++[(1,[1,1],0,B,())]) lb,0):=by
 have ea:ho (fo i (eN i key bS bh) (eN (!i) key vU aa) p [] o eu lb) (0,dg i,x,0,b,())=r3 (fo i (eN i key bS bh) (eN (!i) key vU aa) p [] o eu lb) (0,dg i,x,0,b,()):=rfl;rw[ea];unfold r3;refine(if_neg (not_not_intro (show 0<=dg i/\dg i<2 by cases i<;>decide))).trans ?_;have bf:lq (dg i)=i:=by cases i<;>rfl
 dsimp only;rw[bf,K?];have ed:mr ⟨eN i key bS bh,p⟩ (0,dg i,x,0,b,())=pd ⟨eN i key bS bh,p⟩ b:=rfl;rw[ed,aAr i key bS aL p ab az,GZ _ _ _ _ _ _ _ _ (by show ¬(3:Int)=8;decide)];rfl
def az2:O3 ()=some (Eh,()):=by unfold O3;rw[WL _ bO];rfl
def ao5(i:Bool)(am:key.length=32):Sn (dg i,key,())=some ((l0 i key).t,0,()):=by
 have h:(T (aH (dg i) 0) (some (true,())) (T (aH 1 (dg i)) (some (true,())) (some (bg (aj (len key) 32),()))):Option (Bool×Unit))=some (false,()):=by have aa:bg (aj (len key) 32)=false:=kN (by show(key.length:Int)=32;omega);rw[aa];cases i<;>rfl
 refine aS h (a2 rfl ((cw az2).trans ?_));rfl
def XU(am:key.length=32)(fD:Bool):zD (key,fD,())=some ((kj key fD).t,0,()):=by
 unfold zD;generalize hg:(λ(Y:Int×Int×d7×Unit)=>(_:Option (aF (Int×Int×d7×Unit) (d7×Int×Unit))))=F;have bS:∀(i:Bool) (e:Int) (W:d7),F (e,dg i,W,())=some (.nx (e,dg i+1,(cn W.1 (ae (dg i)) (l0 i key).t,W.2),())):=by intro i e W;subst hg;refine bm (di (Vk i).2) (aS (ao5 i am) (a2 rfl (bd (H1 i) ?_)));cases i<;>rfl
 have gv:∀(e:Int) (W:d7),F (e,2,W,())=some (.ex 0 (e,2,W,())):=λe W=>by subst hg;exact bT rfl
 refine(cW ((ev (bS false 0 _)).trans ((ev (bS true 0 _)).trans (ec (gv _ _))))).trans (lc_ex'.trans (bd g62 ?_));rfl
def CR(l:List eM)(hl:l.length<=1500000000000):nK (l,l,())=some (true,()):=by
 unfold nK;generalize hg:(λ(Y:Bool×Int×Unit)=>(_:Option (aF (Bool×Int×Unit) (Bool×Unit))))=F;refine a2 (kN rfl) ?_;have key:∀(r:List eM) (i:Nat),l.drop i=r->i<=l.length->∃j:Int,bK F (false,(i:Int),())=some (.ex 0 (false,j,())):=by
  intro r;induction r with
  |nil =>intro i aJ ac;have cm:=congrArg List.length aJ;rw[eU,j4]at cm;refine⟨(i:Int),ec ?_⟩;subst hg;exact bT (cR (by show ¬(i:Int)<(l.length:Int);omega))
  |cons x r ih=>
   intro i aJ ac;have cm:=congrArg List.length aJ;rw[eU,gL]at cm;have bn:i<l.length:=J;have hx:l[i]=x/\l.drop (i+1)=r:=by
    rw[h3 bn]at aJ
    grind
   have fk:i64 (aE (i:Int) 1)=((i+1:Nat):Int):=fY rfl J;have ah:aN (i:Int) (len l)=true:=cS;obtain⟨j,ap⟩:=ih (i+1) hx.2 J;refine⟨j,F6 (ev ?_) ap⟩;subst hg;refine bm (di (by show(i:Int)<(l.length:Int);omega)) (bd ah (bd ah ?_));rw[fk];refine aS (a:=(false,())) ?_ (bT rfl);refine a2 (kN rfl) (bd ah (bd ah (a2 (kN rfl) (bd ah (bd ah ?_)))));rw[ayo];rw[WA rfl];rfl
 obtain⟨j,ap⟩:=key l 0 rfl (nV _);exact(cW (ap)).trans (lc_ex'.trans (eV g62))
def VC{w:bP}(h:hr w):i3 (w.t,w.t,())=some (true,()):=by
 have dx:pK (w.t,w.t,())=some (true,()):=by
  unfold pK;dsimp only;generalize hg:(λ(Y:Bool×Int×Unit)=>(_:Option (aF (Bool×Int×Unit) (Bool×Unit))))=F;have bS:∀i:Bool,F (false,dg i,())=some (.nx (false,dg i+1,())):=by
   intro i;have ab:=Uw (h.s i).e J;have aC:=CC (w.dw i) (by have:=h.dw i;omega);have e1:ao w.t.1 (ae (dg i)) pi=(w.e i).t:=by cases i<;>rfl
   have aU:ao w.t.2.2.2.2.1 (ae (dg i)) (aR eg)=w.dw i:=by cases i<;>rfl
   subst hg;refine bm (di (Vk i).2) (bd (H1 i) (bd (H1 i) ?_));dsimp only;rw[e1,aU];refine aS ab (bd (H1 i) (bd (H1 i) (aS aC ?_)));cases i<;>rfl
  have gv:F (false,2,())=some (.ex 0 (false,2,())):=by subst hg;exact bT rfl
  refine(cW ((ev (bS false)).trans ((ev (bS true)).trans (ec gv)))).trans (lc_ex'.trans (bd g62 ?_));refine aS (show nK (w.bc,w.bc,())=_ from CR w.bc (by have:=h.bc;omega)) ?_;refine aS (a:=(true,())) (bm rfl ?_) rfl;exact(cw (show nK (w.old,w.old,())=_ from CR w.old (by have:=h.old;omega))).trans rfl
 unfold i3;dsimp only;refine aS dx (aS (a:=(true,())) (bm rfl ?_) rfl);exact(cw (show Ao (w.p,w.p,())=_ from avX w.p (by have bs:=h.z;unfold eH at bs;omega))).trans rfl
def aww(i:Bool)(am:key.length<=1000):o5 0 (l0 i key) where
 id:=by cases i;exact .inl rfl;exact .inr rfl
 key:=am
 ph:=⟨by show(0:Int)<=0;decide,by show(0:Int)<=8;decide⟩
 store:=⟨Ja 1,p2⟩
 own:=yZ
 oth:=yZ
 seq:=yZ
 ring:=.inl rfl
 up:=rfl
 next:=⟨by show(0:Int)<=0;decide,by show(0:Int)<4;decide⟩
 bC:=b1 _
 got:=b1 _
 cJ:=rfl
 win:=rfl
 feed:=rfl
 life:=rfl
 queue:=by show([]:List V).length<=8;simp
 top:=⟨by show(0:Int)<=0;decide,by show(0:Int)<=4611686018427387905;decide⟩
 fd:=adR
 askr:=.inl rfl
 outs:=λx hx=>by cases hx
def afZ(am:key.length<=1000)(fD:Bool):hj (kj key fD):=
 ⟨λi=>⟨0,aww i am,b1 _⟩,λ_=>rfl,λ_=>rfl,λf hf=>(by cases hf),λf hf=>(by cases hf)⟩
def Ya(am:key.length<=1000)(fD:Bool):jF 0 0 (kj key fD):=by
 refine⟨afZ am fD,?_,?_⟩
 .have:ip (kj key fD)=0:=rfl
  omega
 have:eH (kj key fD)=0:=rfl;omega
def jF.L5{w:bP}(h:jF a r w)(bh:a<=41)(ai:r<=66):zK w:=by
 have aa:=h.mono bh ai;have O:=aa.Em;have R:ip w<=430000000000:=by have hL:=aa.L;omega
 exact⟨h.ok,J⟩
def Li(l:List g3):Prop:=∀a∈l,a.2.2.2.2.1.length<=1200
def nM(a:g3):Nat:=if a.1=17 then(min a.2.2.1 100).toNat else 0
def rL:List g3->Nat
 |[]=>0
 |a::l=>nM a+rL l
def aAl{w:bP}{a:g3}(h:a.1=17):(ho w a).1=oO (nM a) w:=by
 unfold ho nM;rw[if_neg J,if_neg J,if_neg J,if_neg J,if_neg J,if_neg J,if_neg J,if_pos h];split
 .have:(min a.2.2.1 100).toNat=0:=J
  rw[this];rfl
 rfl
def QU{w:bP}(h:jF a r w){x:g3}(aa:x.2.2.2.2.1.length<=1200):jF (a+1) (r+nM x) (ho w x).1:=by
 by_cases mZ:x.1=17
 .rw[aAl mZ]
  exact(h.x_ (nM x)).mono (xP a) (b1 _)
 have:nM x=0:=if_neg mZ;rw[this];exact h.akm (az4 h.ok x aa mZ)
def Su{w:bP}(h:jF a r w)(bh:a<=41){x:g3}(ai:r+nM x<=66)(aa:x.2.2.2.2.1.length<=1200):Ku w x:=by refine⟨(h.L5 bh J).n?,J,λmZ j ap => ?_⟩;have:nM x=(min x.2.2.1 100).toNat:=if_pos mZ;exact(h.x_ j).L5 bh J
def aby:∀(l:List g3) {a r:Nat} {w:bP},jF a r w->a+l.length<=41->r+rL l<=66->Li l->FE w l/\jF (a+l.length) (r+rL l) (t? w l).1
 |[],a,r,w,h,_,_,_=>⟨trivial,h⟩
 |x::l,a,r,w,h,bh,ai,aa=>by
  rw[gL]at bh;have fN:r+(nM x+rL l)<=66:=ai;have Ay:=aa x (KH ..);obtain⟨bF,b2⟩:=aby l (QU h Ay) J J (λy hy=>aa y (nW _ hy));refine⟨⟨Su h J J Ay,bF⟩,?_⟩;show jF (a+(l.length+1)) (r+(nM x+rL l)) (t? (ho w x).1 l).1
  grind
def apx:Pg (0,())=some ([48],()):=by unfold Pg;rw[show sa (fR (0,()).1 10,1,())=some ([48],0,()) from(GE 0 1 J).trans rfl];rfl
def ay3:J8 ([0,0,0,0,0],())=some ([48,32,48,32,48,32,48,32,48],()):=by
 unfold J8;dsimp only;generalize hg:(λ(Y:List V×Int×Unit)=>(_:Option (aF (List V×Int×Unit) (V×Unit))))=F;have bS:∀(l:List V) (i:Nat),i<5->l.length<=5->F (l,(i:Int),())=some (.nx (l++[[48]],((i+1:Nat):Int),())):=by
  intro l i ac hl;subst hg;have aq:ao [(0:Int),0,0,0,0] (ae (i:Int)) 0=0:=by rcases(by omega:i=0\/i=1\/i=2\/i=3\/i=4) with rfl|rfl|rfl|rfl|rfl<;>rfl
  refine bm (di (by show(i:Int)<5;omega)) (bd (Ut (by show(0:Int)<=i;omega) (by show(i:Int)<5;omega)) ?_);dsimp only;rw[aq];refine aS apx (bd (mJ (by show(l.length+1)*32<=_;omega)) ?_);rw[fY (n:=i+1) (a:=aE (i:Int) 1) (by show(i:Int)+1=_;omega) J];rfl
 have LR:∀(l:List V),F (l,(5:Nat),())=some (.ex 0 (l,(5:Nat),())):=by intro l;subst hg;rfl
 refine(cW ((ev (bS [] 0 J bO)).trans ((ev (bS _ 1 J bO)).trans ((ev (bS _ 2 J bO)).trans ((ev (bS _ 3 J bO)).trans ((ev (bS _ 4 J bO)).trans (ec (LR _)))))))).trans ?_;rfl
def azK{e:p_}(h:e.2.2.1=0)(O:[e.2.2.2.2.2.1,e.2.2.2.2.2.2.1,e.2.2.2.2.2.2.2.2.2.2.1.1.1,e.2.2.2.2.2.2.2.2.2.2.2.2.2.1,len e.2.2.2.2.2.2.2.2.2.2.2.2.2.2.1]=[0,0,0,0,0]):
  Fl (e,())=some ([111,102,102,32,48,32,48,32,48,32,48,32,48,10],()):=by
 unfold Fl;dsimp only;rw[h,O];refine aS (show VU (0,())=some ([111,102,102],()) from rfl) (bd rfl (aS ay3 rfl))
def az9{s:V}(h:s.count 10=0)(hl:s.length<=1000000):O8 (s,[10],())=some ([s],()):=by
 unfold O8 WY;dsimp only;have ah:WX (s,[10],())=some (0,()):=by show some (((s.count 10:Nat):Int),())=_;rw[h];rfl
 have hm:f6 1 (i64 (aE (len s) 1))=1:=by rw[fY (n:=s.length+1) (a:=aE (len s) 1) (by show(s.length:Int)+1=_;omega) J];unfold f6;split<;>omega
 rw[ah];refine(cw (a2 (show aj (-1) 0=false from rfl) (a2 (show seq [10] (aR UInt8)=false from rfl) ((cw (show(T (aH (-1) 0) (ob (some (0,())) λ(a:Int×Unit)=>some (i64 (aE a.1 1),())) (some (-1,())):Option (Int×Unit))=some (1,()) from rfl)).trans (dr rfl))))).trans ?_;dsimp only;rw[hm];refine(cw (bd rfl ((cW (ec (k:=0) (y:=(s,0,[[]],())) rfl)).trans rfl))).trans rfl
def aoF(K:V):Pd ((kj K false).t,[115,104,111,119,32,48],())=some ((kj K false).t,[111,102,102,32,48,32,48,32,48,32,48,32,48,10],()):=by
 have O:(l0 false K).t.2.2.1=0:=rfl;have R:[(l0 false K).t.2.2.2.2.2.1,(l0 false K).t.2.2.2.2.2.2.1,(l0 false K).t.2.2.2.2.2.2.2.2.2.2.1.1.1,(l0 false K).t.2.2.2.2.2.2.2.2.2.2.2.2.2.1,len (l0 false K).t.2.2.2.2.2.2.2.2.2.2.2.2.2.2.1]=[0,0,0,0,0]:=by unfold l0 c8.t;rfl
 unfold Pd;exact bm rfl (bd rfl ((cw (show Fl ((l0 false K).t,())=some ([111,102,102,32,48,32,48,32,48,32,48,32,48,10],()) from azK (e:=(l0 false K).t) O R)).trans rfl))
def azk:Pe ([115,104,111,119,32,48],())=some ([111,102,102,32,48,32,48,32,48,32,48,32,48,10],()):=by
 unfold Pe;have ab:Pf ()=some ((kj (List.replicate 32 (u8 0)) false).t,()):=by unfold Pf;refine bd rfl ((cw (show zD (bR (ae 32) (u8 0),false,())=_ from XU (p2 (n:=32)) false)).trans rfl)
 refine aS ab (aS (az9 rfl bO) ?_);dsimp only;have aJ:=aoF (List.replicate 32 (u8 0));generalize(kj (List.replicate 32 (u8 0)) false).t=W at aJ;refine(cW ((ev (y:=([111,102,102,32,48,32,48,32,48,32,48,32,48,10],1,W,())) ?_).trans (ec (k:=0) (y:=([111,102,102,32,48,32,48,32,48,32,48,32,48,10],1,W,())) rfl))).trans rfl;refine bm rfl (bd rfl (a2 rfl (aS aJ (bd (show b3 (aE (len ([]:V)) (len ([111,102,102,32,48,32,48,32,48,32,48,32,48,10]:V))) 140737488355328=true by decide +kernel) ?_))));dsimp only;rw[show i64 (aE 0 1)=1 from fY (n:=1) rfl J];rfl
def x2(c:Nat)(i:Bool):List g3:=[(12,0,(c:Int),0,[],()),(1,dg i,0,0,[],()),(17,0,4,0,[],())]
def yW(key:V)(fD i:Bool)(c:Nat):bP:=fo i (eN i key 2 (wU c)) (eN (!i) key 0 (wU c)) (IY key fD i) [] (IH key i c) j9 j9
def alJ(c:Nat)(i:Bool):Li (x2 c i):=by
 intro a bh;simp only[x2,f',KZ,or_false]at bh
 grind
def ag5(am:key.length=32)(fD i:Bool)(h:c<4):FE (kj key fD) (x2 c i)/\jF 3 4 (yW key fD i c)/\t? (kj key fD) (x2 c i)=(yW key fD i c,[0,0,0]):=by obtain⟨O,R⟩:=aby (x2 c i) (Ya (show key.length<=1000 by omega) fD) (show 0+3<=41 by omega) (show 0+(0+(0+(4+0)))<=66 by omega) (alJ c i);have hm:t? (kj key fD) (x2 c i)=(yW key fD i c,[0,0,0]):=avu key fD i h;rw[hm]at R;exact⟨O,R,hm⟩
def aza(am:key.length=32)(fD i:Bool)(h:c<4):Fv ((kj key fD).t,x2 c i,())=some ((yW key fD i c).t,[0,0,0],()):=by obtain⟨O,_,af⟩:=ag5 am fD i h;rw[akc O (show 3<=1000000 by omega),af]
def iV:V:=List.replicate 32 (u8 0)
def QB:iV.length=32:=p2
def yU:M:=(200,[(11,dm 7 6,())],())
def x4:V:=fP yU
def w6:M:=sT yU 0
def qd:V:=fP w6
def Io:hZ yU=true:=ir
def U0:hZ w6=true:=aiF Io 0
def axf:Pi (200,7,())=some (x4,()):=by unfold Pi;refine(cw (aik (day:=7) J J).2).trans (aS rfl (bd rfl ?_));rw[show EO ((200,[(11,dm 7 6,())],()),())=EO (yU,()) from rfl,ayx _ (ER Io).2,if_pos Io];rfl
def QQ:jM qd:=by
 refine⟨?_,?_⟩
 .unfold qd fP
  rw[dd,dd,pA];split<;>omega
 have:=XX U0;have h:(w6.2.1.map (λv=>v.2.1.length+2)).sum=16:=ir;show(fP w6).length<=900;omega
def ak0:x4.length<=1200:=by have:=XX Io;have h:(yU.2.1.map (λv=>v.2.1.length+2)).sum=8:=ir;show(fP yU).length<=1200;omega
def YW:eO x4=(yU,0,()):=EL Io
def QR:eO qd=(w6,0,()):=EL U0
def aAj:ki x4 0=(qd,0):=by
 unfold ki;rw[if_neg,YW]
 .rw[if_neg]
  .rfl
  have:=QQ.2;show ¬900<qd.length;omega
 unfold Lc;rw[YW];rintro(h|h|h|h|h)
 .exact absurd h bO
 .exact absurd h bO
 .exact h rfl
 .exact h (by show uk 200;decide)
 exact absurd h (by show ¬sR yU;decide +kernel)
def ak2:kg qd=(vB,2,()):=ayd U0 λn ak h=>by
 have O:=congrArg (λm:M=>m.1) h;have R:w6.1=200:=rfl;rw[R]at O;unfold jk at O;split at O
 .exact absurd O (show ¬(810:Int)=200 by decide)
 split at O
 .exact absurd O (show ¬(800:Int)=200 by decide)
 split at O<;>exact absurd O (show ¬(800:Int)=200 by decide)
def ak1:kT qd:=by
 refine⟨?_,?_,?_,?_⟩
 .rw[ak2];show ¬(2:Int)=0;decide
 .rw[QR]
 .rw[QR];show uk 200;decide
 rw[QR];rintro⟨h,_⟩;have:pD w6.1=0:=by show pD 200=0;decide
 rcases h with h|h
 .have bE:pD w6.1=1:=h
  rw[this]at bE;exact absurd bE bO
 have bE:pD w6.1=3:=h;rw[this]at bE;exact absurd bE bO
def aAH(i:Bool)(key:V)(bS:Int)(h:ej)(p:eG):ij ⟨wl i key bS h,p⟩=⟨wl i key bS h,p⟩:=by unfold ij;rw[if_neg (by rintro(q|q);exact absurd (show(3:Int)=7 from q) bO;exact absurd (show(3:Int)=8 from q) bO),if_pos ⟨by show(2:Int)<=3;decide,by show(3:Int)<=6;decide⟩,if_neg (by show ¬(2:Int)=4611686018427387904;decide)];rfl
def aAG(i:Bool)(key:V)(bS:Int)(h:ej)(p:eG):ij ⟨Ae i key bS h,p⟩=⟨Ae i key bS h,p⟩:=by unfold ij;rw[if_neg (by rintro(q|q);exact absurd (show(3:Int)=7 from q) bO;exact absurd (show(3:Int)=8 from q) bO),if_pos ⟨by show(2:Int)<=3;decide,by show(3:Int)<=6;decide⟩,if_neg (by show ¬(1:Int)=4611686018427387904;decide)];rfl
def E'(B:V):bP:=fo false (wl false iV 2 (ez (wU 0)).1) (eN true iV 0 (wU 0)) (hX (IY iV true false) (ib iV) (cA (oD false iV B))) [ww false 0 (ib iV) (oD false iV B)] (IH iV false 0++[ww false 0 (ib iV) (oD false iV B)]) (j9++[(1,[1,1],0,B,())]) j9
def SZ(B:V):bP:=fo false (wl false iV 2 (ez (wU 0)).1) (Ae true iV 0 (wU 0)) (hX (IY iV true false) (ib iV) (cA (oD false iV B))) [] ((IH iV false 0++[ww false 0 (ib iV) (oD false iV B)])++[]) (j9++[(1,[1,1],0,B,())]) (j9++[(2,[1,1],1,B,())])
def apI(i:Bool)(key:V)(h:jM B):jM (oD i key B).2.2.2.2.2.1:=h
def aAW(i:Bool)(key:V)(bS vU:Int){O R:ej}(aL:ne c R){p:eG}(az:jM B)(hg:kT B)(hm:(ib key,cA (oD i key B),())∈p.2.1)(o:List eM)(eu lb:List eg):
  jB (fo i (wl i key bS O) (eN (!i) key vU R) p [(1-dg i,(c:Int),fw (jo (ib key) (oD i key B)),())] o eu lb)=fo i (wl i key bS O) (Ae (!i) key vU R) p [] (o++[]) eu (lb++[(2,[1,1],1,B,())]):=by
 rw[Oo (y:=_) (a':=wl i key bS O) (b':=Ae (!i) key vU R) aL rfl (by show ¬(3:Int)=8;decide) (ab6 (apI i key az)) (ar4 i key vU az hg hm) (by show ¬(3:Int)=8;decide) (aAH i key bS _ _) (aAG (!i) key vU _ _) ⟨by show ¬(3:Int)=8;decide,by show ¬(3:Int)=8;decide⟩ ⟨rfl,rfl⟩ ⟨rfl,rfl⟩];rfl
def az7(az:jM B)(hg:kT B):jB (E' B)=SZ B:=aAW false iV 2 0 (adS J) az hg (JZ _ _ _) _ _ _
theorem aqt(B:V):(SZ B).t.2.2.2.2.1=[j9++[(1,[1,1],0,B,())],j9++[(2,[1,1],1,B,())]]:=rfl
def aiu:ho (yW iV true false 0) (0,0,0,0,x4,())=(E' qd,0):=akn (i:=false) iV (adS J) (IY iV true false) (IH iV false 0) j9 j9 aAj QQ 0
def az8:Ku (yW iV true false 0) (0,0,0,0,x4,())/\jF 4 4 (E' qd):=by obtain⟨_,R,_⟩:=ag5 QB true false (c:=0) J;have aa:((0,0,0,0,x4,()):g3).2.2.2.2.1.length<=1200:=ak0;refine⟨Su R J (show 4+0<=66 by omega) aa,?_⟩;have:=QU R aa;rw[aiu]at this;exact this
def ak9:J9 (iV,true,())=some ((yW iV true false 0).t,true,()):=by unfold J9;refine bd rfl (aS (show zD (cut iV (ae 0) (cc (ae (bi 32)) (ae 0)),true,())=_ from XU QB true) ?_);refine aS (show Fv ((kj iV true).t,x2 0 false,())=_ from aza QB true false (c:=0) J) ?_;exact bm rfl (bm rfl (bd rfl (bm rfl (bd rfl (bm rfl (bd rfl (bm rfl (bd rfl (bm rfl (bd rfl rfl))))))))))
def azL:Pj ()=some (true,()):=by
 unfold Pj;obtain⟨ab,aa⟩:=az8;have O:Cg ((yW iV true false 0).t,(0,0,0,0,x4,()),())=some ((E' qd).t,0,()):=by rw[Qg ab,aiu]
 have R:Fu ((E' qd).t,1,())=some ((SZ qd).t,()):=by
  have:=Yd (w:=E' qd) 1 (λj ap=>by obtain rfl:j=0:=J;exact aa.L5 J J) J
  rw[<- az7 QQ ak1];exact this
 refine aS (show J9 (bR 32 (u8 0),true,())=_ from ak9) (aS axf (aS O (aS R ?_)));dsimp only;rw[aqt];generalize qd=B;refine bd rfl (a2 rfl (aS (a:=(true,())) ?_ rfl));exact bm rfl (bm rfl (bd rfl (bd rfl (bm rfl (bd rfl (bd rfl (bm rfl (aS azk rfl))))))))
def aj9(l:List g3)(n:Nat)(ak:n<=1000):∃b:Bool,Jf (l,(n:Int),())=some (b,())/\(b=true->l.length<=n/\Li l/\rL l<=60):=by
 unfold Jf;by_cases aq:(n:Int)<(l.length:Int)
 .exact⟨false,b4 (di aq),λh=>by cases h⟩
 generalize hg:(λ(Y:Int×Bool×Int×Unit)=>(_:Option (aF (Int×Bool×Int×Unit) (Bool×Unit))))=F;have MG:l.length<=n:=J;have key:∀(r:List g3) (i c:Nat),l.drop i=r->i<=l.length->c<=6 ->
   bK F ((c:Int),false,(i:Int),())=some (.rt (false,()))\/∃z j:Int,bK F ((c:Int),false,(i:Int),())=some (.ex 0 (z,false,j,()))/\Li r/\rL r+10*c<=60:=by
  intro r;induction r with
  |nil =>intro i c aJ ac ah;have cm:=congrArg List.length aJ;rw[eU,j4]at cm;refine .inr ⟨(c:Int),(i:Int),ec ?_,λa bh=>(by cases bh),show 0+10*c<=60 by omega⟩;subst hg;exact bT (cR (by show ¬(i:Int)<(l.length:Int);omega))
  |cons x r ih=>
   intro i c aJ ac ah;have cm:=congrArg List.length aJ;rw[eU,gL]at cm;have bn:i<l.length:=J;have hx:l[i]=x/\l.drop (i+1)=r:=by
    rw[h3 bn]at aJ
    grind
   have fk:i64 (aE (i:Int) 1)=((i+1:Nat):Int):=fY (by show(i:Int)+1=_;omega) J;have m0:i64 (aE (c:Int) 1)=((c+1:Nat):Int):=fY (by show(c:Int)+1=_;omega) J;have et:aN (i:Int) (len l)=true:=cS;have dn:F ((c:Int),false,(i:Int),())=(T (aH 1200 (len x.2.2.2.2.1)) (some (.rt (false,()))) (ob (T (aj x.1 17) (some (((c+1:Nat):Int),())) (some ((c:Int),()))) λ(a:Int×Unit)=>
     ob (T (aj x.1 17) (T (aH 10 x.2.2.1) (some (true,())) (some (aH 6 a.1,()))) (some (aH 6 a.1,()))) λ(a?:Bool×Unit)=>T a?.1 (some (.rt (false,()))) (some (.nx (a.1,false,((i+1:Nat):Int),()))))):=by
    subst hg;refine bm (di (by show(i:Int)<(l.length:Int);omega)) (bd et ?_);rw[gx,nth_get bn,hx.1,fk,m0,et];rfl
   by_cases aa:1200<x.2.2.2.2.1.length
   .exact .inl (o2 (dn.trans (b4 (di (by show(1200:Int)<(x.2.2.2.2.1.length:Int);omega)))))
   replace dn:=dn.trans (bT (cR (by show ¬(1200:Int)<(x.2.2.2.2.1.length:Int);omega)));by_cases mZ:x.1=17
   .replace dn:=dn.trans ((cw (b4 (cI mZ))).trans (dr rfl))
    by_cases oT:10<x.2.2.1
    .exact .inl (o2 (dn.trans (aS (bm (cI mZ) (b4 (di oT))) (b4 rfl))))
    replace dn:=dn.trans ((cw (bm (cI mZ) (bT (cR oT)))).trans (dr rfl));by_cases cp:6<((c+1:Nat):Int)
    .exact .inl (o2 (dn.trans (b4 (di cp))))
    replace dn:=dn.trans (bT (cR cp));rcases ih (i+1) (c+1) hx.2 J J with h|⟨z,j,O,R,af⟩
    .exact .inl ((ev dn).trans h)
    refine .inr ⟨z,j,(ev dn).trans O,λa bh => ?_,?_⟩
    .rcases f'.1 bh with rfl|bh
     .omega
     exact R a bh
    have:nM x<=10:=by unfold nM;rw[if_pos mZ];omega
    show nM x+rL r+10*c<=60;omega
   replace dn:=dn.trans ((cw (bT (cv mZ))).trans (dr rfl));have cp:¬6<(c:Int):=J;replace dn:=dn.trans (aS (bT (cv mZ)) (bT (cR cp)));rcases ih (i+1) c hx.2 J ah with h|⟨z,j,O,R,af⟩
   .exact .inl ((ev dn).trans h)
   refine .inr ⟨z,j,(ev dn).trans O,λa bh => ?_,?_⟩
   .rcases f'.1 bh with rfl|bh
    .omega
    exact R a bh
   have:nM x=0:=if_neg mZ;show nM x+rL r+10*c<=60;omega
 rcases key l 0 0 rfl (nV _) (nV _) with h|⟨z,j,O,R,af⟩
 .exact⟨false,a2 (cR aq) ((cW h).trans rfl),λh=>by cases h⟩
 exact⟨true,a2 (cR aq) ((cW O).trans (lc_ex'.trans (eV g62))),λ_=>⟨MG,R,J⟩⟩
abbrev ajh:ag:=.pair (.int .i64) (.pair (.int .i64) (.pair (.int .i64) (.pair (.int .i64) (.pair (.sl (.int .u8)) .unit))))
def axd{a:V}:seq a b=true↔a=b:=by unfold seq;exact beq_iff_eq
def abr{a b:Bool}:c3 a b=true↔a=true/\b=true:=by cases a<;>cases b<;>decide
def gI(k:Int)(E:List Int)(B:V)(g:eg):Bool:=c3 (aj g.1 k) (c3 (mT (λ(p q:Int)=>aj p q) g.2.1 E) (seq g.2.2.2.1 B))
def acr(l:List eg)(k:Int)(E:List Int)(B:V)(hl:l.length<=1000000000000):qH (l,k,E,B,())=some (((l.countP (gI k E B):Nat):Int),()):=by
 unfold qH;dsimp only;generalize hg:(λ(Y:Int×Int×Unit)=>(_:Option (aF (Int×Int×Unit) (Int×Unit))))=F;have bS:∀i,i<l.length->F ((((l.take i).countP (gI k E B):Nat):Int),(i:Int),())=some (.nx ((((l.take (i+1)).countP (gI k E B):Nat):Int),((i+1:Nat):Int),())):=by
  intro i ac;have ah:(l.take i).countP (gI k E B)<=i:=hH List.countP_le_length (by rw[io];omega);have O:(l.take (i+1)).countP (gI k E B)=(l.take i).countP (gI k E B)+(if gI k E B l[i]then 1 else 0):=by rw[e0 ac,List.countP_append,List.countP_singleton]
  have et:aN (i:Int) (len l)=true:=iA ac;have fk:i64 (aE (i:Int) 1)=((i+1:Nat):Int):=fY (by show(i:Int)+1=_;omega) J;generalize(l.take i).countP (gI k E B)=c at ah O;rw[O];subst hg;refine bm (di (by show(i:Int)<(l.length:Int);omega)) (bd et ?_);dsimp only;rw[gx,nth_get ac,fk,et];have aa:(T (aj l[i].1 k) (an true (T (mT (λ(p q:Int)=>aj p q) l[i].2.1 E) (an true (ob (N3 (l[i].2.2.2.1,B,())) λ(a:Bool×Unit)=>some (a.1,()))) (some (false,())))) (some (false,())):Option (Bool×Unit))=some (gI k E B l[i],()):=by
   rw[ayo];unfold gI;cases aj l[i].1 k
   .rfl
   cases mT (λ(p q:Int)=>aj p q) l[i].2.1 E<;>rfl
  refine aS aa ?_;dsimp only;cases gI k E B l[i]
  .rfl
  refine aS (b4 rfl) ?_;rw[show i64 (aE (c:Int) 1)=((c+1:Nat):Int) from fY (by show(c:Int)+1=_;omega) J];rfl
 have aC:F ((((l.take l.length).countP (gI k E B):Nat):Int),(l.length:Int),())=some (.ex 0 ((((l.take l.length).countP (gI k E B):Nat):Int),(l.length:Int),())):=by subst hg;exact bT (cR (by show ¬(l.length:Int)<(l.length:Int);omega))
 have hall:=(lh (f:=F) (λi=>((((l.take i).countP (gI k E B):Nat):Int),(i:Int),())) l.length bS 0 (nV _)).trans (ec aC);rw[ni]at hall;exact(cW hall).trans rfl
def lz:List (List Int):=[[0,0,1],[0,2,2],[0,10,8],[1,0,1],[1,1,3],[1,2,2],[1,4,0],[1,9,0],[1,10,8],[2,0,1],[2,2,2],[2,3,3],[2,4,0],[2,10,8],[3,0,1],[3,2,2],[3,4,6],[3,5,0],[3,6,4],[3,7,5],[3,9,0],[3,10,8],[4,0,1],[4,2,2],[4,4,6],[4,5,0],[4,8,3],[4,9,3],[4,10,8],[5,0,1],[5,2,2],[5,4,6],[5,5,0],[5,8,3],[5,9,3],[5,10,8],[6,0,1],[6,2,2],[6,5,0],[6,9,0],[6,10,8],[7,10,8],[8,11,0],[8,12,7]]
def lk(p e:Int):List (List Int)->Int×Bool
 |[]=>(p,false)
 |r::l=>bif c3 (aj (ao r 0 0) p) (aj (ao r 1 0) e) then(ao r 2 0,true) else lk p e l
def avQ(p e:Int):Nq (p,e,())=some ((lk p e lz).1,(lk p e lz).2,()):=by
 unfold Nq;dsimp only;rw[show([[0,0,1],[0,2,2],[0,10,8],[1,0,1],[1,1,3],[1,2,2],[1,4,0],[1,9,0],[1,10,8],[2,0,1],[2,2,2],[2,3,3],[2,4,0],[2,10,8],[3,0,1],[3,2,2],[3,4,6],[3,5,0],[3,6,4],[3,7,5],[3,9,0],[3,10,8],[4,0,1],[4,2,2],[4,4,6],[4,5,0],[4,8,3],[4,9,3],[4,10,8],[5,0,1],[5,2,2],[5,4,6],[5,5,0],[5,8,3],[5,9,3],[5,10,8],[6,0,1],[6,2,2],[6,5,0],[6,9,0],[6,10,8],[7,10,8],[8,11,0],[8,12,7]]:List (List Int))=lz from rfl,show len ([[0,0,1],[0,2,2],[0,10,8],[1,0,1],[1,1,3],[1,2,2],[1,4,0],[1,9,0],[1,10,8],[2,0,1],[2,2,2],[2,3,3],[2,4,0],[2,10,8],[3,0,1],[3,2,2],[3,4,6],[3,5,0],[3,6,4],[3,7,5],[3,9,0],[3,10,8],[4,0,1],[4,2,2],[4,4,6],[4,5,0],[4,8,3],[4,9,3],[4,10,8],[5,0,1],[5,2,2],[5,4,6],[5,5,0],[5,8,3],[5,9,3],[5,10,8],[6,0,1],[6,2,2],[6,5,0],[6,9,0],[6,10,8],[7,10,8],[8,11,0],[8,12,7]]:List (List Nat))=len lz from rfl];have hT:lz.length=44:=rfl;generalize lz=bv at hT;generalize hg:(λ(Y:Int×Bool×Int×Unit)=>(_:Option (aF (Int×Bool×Int×Unit) (Int×Bool×Unit))))=F;have run:∀(r:List (List Int)) (i:Nat),bv.drop i=r->i<=bv.length->(∃s,bK F (0,false,(i:Int),())=some (.ex 0 s)/\lk p e r=(p,false))\/bK F (0,false,(i:Int),())=some (.rt ((lk p e r).1,(lk p e r).2,())):=by
  intro r;induction r with
  |nil =>intro i aJ ac;have cm:=congrArg List.length aJ;rw[eU,j4]at cm;refine .inl ⟨(0,false,(i:Int),()),ec ?_,rfl⟩;subst hg;exact bT (cR (by show ¬(i:Int)<(bv.length:Int);omega))
  |cons x r ih=>
   intro i aJ ac;have cm:=congrArg List.length aJ;rw[eU,gL]at cm;have bn:i<bv.length:=J;have hx:bv[i]=x/\bv.drop (i+1)=r:=by rw[h3 bn]at aJ;exact⟨(xX aJ).1,(xX aJ).2⟩
   have fk:i64 (aE (i:Int) 1)=((i+1:Nat):Int):=fY (by show(i:Int)+1=_;omega) J;have et:aN (i:Int) (len bv)=true:=iA bn;have dn:F (0,false,(i:Int),())=T (c3 (aj (ao x 0 0) p) (aj (ao x 1 0) e)) (some (.rt (ao x 2 0,true,()))) (some (.nx (0,false,((i+1:Nat):Int),()))):=by
    subst hg;refine bm (di (by show(i:Int)<(bv.length:Int);omega)) (bd et (bd rfl ?_));dsimp only;rw[gx,nth_get bn,hx.1,fk,et];show ob (T (aj (ao x 0 0) p) _ _) _=_;cases aj (ao x 0 0) p
    .rfl
    show T (aj (ao x 1 0) e) _ _=T (c3 true (aj (ao x 1 0) e)) _ _;cases aj (ao x 1 0) e<;>rfl
   unfold lk;cases ah:c3 (aj (ao x 0 0) p) (aj (ao x 1 0) e)
   .rw[ah]at dn
    rw[ev dn];exact ih (i+1) hx.2 J
   rw[ah]at dn;exact .inr (o2 dn)
 rcases run bv 0 rfl (nV _) with⟨s,h,R⟩|h
 .rw[R];exact(cW h).trans (lc_ex'.trans (eV g62))
 exact(cW h).trans rfl
def e8(k:Int):List Int:=ao [[],[0,10],[4],[],[6],[7],[9,0,10]] (ae k) []
def iU(p q:Int)(v:Int):Bool:=c3 (lk p v lz).2 (aj q (lk p v lz).1)
def avW{k p q:Int}(hp:0<=p/\p<=8)(h:L1 k p q):mW (aj q p) ((e8 k).any (iU p q))=true:=by
 rcases h with rfl|⟨O,R,af⟩|⟨rfl,h⟩|⟨rfl,rfl,rfl⟩|⟨rfl,rfl,rfl⟩|⟨rfl,h⟩
 .rw[cI rfl];rfl
 .rcases(by omega:p=0\/p=1\/p=2\/p=3\/p=4\/p=5\/p=6) with rfl|rfl|rfl|rfl|rfl|rfl|rfl<;>rcases O with rfl|rfl<;>rcases af with rfl|rfl<;>decide +kernel
 .rcases h with⟨rfl|rfl,rfl⟩|⟨rfl|rfl|rfl,rfl⟩<;>decide +kernel
 .decide +kernel
 .decide +kernel
 rcases h with⟨rfl|rfl|rfl,rfl⟩|⟨rfl|rfl,rfl⟩<;>decide +kernel
def azE{α:Type}{c:Bool}{A aP:Option α}{r:Option α}(jq:aP=r)(dx:c=true->A=aP):T c A aP=r:=by
 cases c
 .exact jq
 exact(dx rfl).trans jq
def arQ(w:bP)(i:Bool)(s:aw):(iy w i s).dw i=w.dw i++s.e.got:=by
 have key:(mv w i s).dw i=w.dw i++s.e.got:=by show gJ w.dw i _ i=_;unfold gJ;rw[if_pos rfl]
 unfold iy;split
 .exact key
 exact key
def aiE(w:bP)(i:Bool)(b:V):ho w (0,dg i,0,0,b,())=(iy w i (pd (w.at i) b).1,(pd (w.at i) b).2):=by have ea:ho w (0,dg i,0,0,b,())=r3 w (0,dg i,0,0,b,()):=rfl;rw[ea];unfold r3;refine(if_neg (not_not_intro (Vk i))).trans ?_;dsimp only;rw[aju];rfl
def akd{w:bP}(h:hj w)(i:Bool){a:g3}(aC:a.2.1=dg i)(am:0<=a.1/\a.1<7):L1 a.1 (w.e i).ph ((ho w a).1.e i).ph/\((ho w a).1.e (!i)).ph=(w.e (!i)).ph:=by
 have ea:ho w a=r3 w a:=by unfold ho;rw[if_neg J,if_neg J,if_neg J,if_neg J,if_neg J,if_neg J,if_neg J,if_neg J,if_pos J]
 rw[ea];unfold r3;rw[if_neg (not_not_intro (by rw[aC];exact Vk i)),aC,aju];obtain⟨g1,cD⟩:=ar5 w i (mr (w.at i) a).1;obtain⟨n,ak⟩:=h.s i;refine⟨?_,cD⟩;show L1 a.1 _ ((iy w i (mr (w.at i) a).1).e i).ph;rw[g1];exact apE (w.at i) ak.e.ph a J
def xw(w:bP)(i:Bool):ao w.t.1 (ae (dg i)) pi=(w.e i).t:=by cases i<;>rfl
def ae9(w:bP)(i:Bool):ao w.t.2.2.2.2.1 (ae (dg i)) (aR eg)=w.dw i:=by cases i<;>rfl
def ahZ(b:V)(d:Int)(aa:b.length<=1000000):vQ (b,d,())=some ((ki b d).1,()):=(cw (ahO b d aa)).trans rfl
def TopPhases'(l:List g3)(a:g3)(b:V):Pa (l,a,b,())=some (true,()):=by
 unfold Pa;refine aS azL ?_;dsimp only;obtain⟨c1,hL,aa⟩:=aj9 l 30 J;obtain⟨c2,ats,hb2⟩:=aj9 [a] 1 J;refine aS (show Jf (l,30,())=_ from hL) ?_;dsimp only;cases c1 with
 |false=>exact b4 rfl
 |true=>
 refine a2 rfl (aS (show Jf ([a],1,())=_ from ats) ?_);dsimp only;cases c2 with
 |false=>exact b4 rfl
 |true=>
 obtain⟨O,R,af⟩:=aa rfl;obtain⟨_,b2,dy⟩:=hb2 rfl;have atB:a.2.2.2.2.1.length<=1200:=b2 a (s_.2 rfl);refine a2 rfl ?_;by_cases az:300<b.length
 .exact b4 (di (by show(300:Int)<(b.length:Int);omega))
 refine a2 (cR (by show ¬(300:Int)<(b.length:Int);omega)) ?_;by_cases rk:a.2.1<0
 .exact b4 (di rk)
 refine a2 (cR rk) ?_;by_cases adO:1<a.2.1
 .exact b4 (di adO)
 refine a2 (cR adO) ?_;obtain⟨i,ac⟩:∃i:Bool,a.2.1=dg i:=⟨lq a.2.1,(NB J).symm⟩;have bs:iV.length<=1000:=by rw[QB];omega
 obtain⟨eY,gT⟩:=aby l (Ya bs true) J J R;refine bd rfl (aS (show zD (bR (ae 32) (u8 0),true,())=_ from XU QB true) (aS (akc eY J) ?_));dsimp only;generalize(t? (kj iV true) l).1=w at gT;have hf:=(gT.L5 J J).n?;rw[ac];refine aS (a:=(D (0<=a.1/\a.1<7),())) ?_ (azE ?_ (λam => ?_))
 .by_cases aq:0<=a.1
  .refine bm (by rw[g09];exact cF aq) ?_
   rw[g08];exact pR ⟨λh=>⟨aq,h⟩,λh=>h.2⟩
  refine a2 (by rw[g09];exact cH aq) ?_;rw[cH (λh=>aq h.1)]
 .rw[xw]
  have uN:=QU gT (x:=(0,dg i,0,0,b,())) (show b.length<=1200 by omega);have ab:Cg (w.t,(0,dg i,0,0,b,()),())=some ((iy w i (pd (w.at i) b).1).t,(pd (w.at i) b).2,()):=by rw[Qg (Su gT (x:=(0,dg i,0,0,b,())) J (show 0+rL l+0<=66 by omega) (show b.length<=1200 by omega)),aiE]
  rw[aiE]at uN;have EX:=asx w i (hf.ok.bC i) (hf.ok.got i);refine bd (H1 i) (aS (ahO b (w.e i).day J) (aS ab (bd (H1 i) (aS (awv (w.e i).ph) ?_))));dsimp only;by_cases Ax:(ki b (w.e i).day).2=0
  .refine a2 (kN Ax) ?_
   by_cases EE:kR (w.e i).ph
   .refine a2 (by rw[cF EE];rfl) (bm rfl ?_)
    rcases azB (s:=w.at i) Ax EE with⟨ea,aqo⟩|⟨aqm,es,aQ⟩
    .rw[ea]
     have adP:=arQ w i (pd (w.at i) b).1;rw[aqo,show(w.at i).e.got=[] from hf.ok.got i,p4]at adP;have auL:=(uN.L5 J (show 0+rL l+0<=66 by omega)).n?;have ah:=congrArg (λL=>L.countP (gI 1 (fE (w.e i)) (ki b (w.e i).day).1)) adP;rw[List.countP_append,List.countP_singleton,if_pos (show gI 1 (fE (w.e i)) (ki b (w.e i).day).1 (1,fE (w.at i).e,0,(ki b (w.at i).e.day).1,())=true from abr.2 ⟨cI rfl,abr.2 ⟨K4 _,axd.2 rfl⟩⟩)]at ah;have aCi:((iy w i (pd (w.at i) b).1).dw i).length<=990000000000:=auL.dw i;have aAf:=hf.dw i;generalize iy w i (pd (w.at i) b).1=x at ah aCi;rw[ae9,ae9];refine bm rfl (bd (H1 i) (bd (H1 i) (aS (agp (w.e i)) (bd (H1 i) (aS (ahZ b (w.e i).day J) (aS (acr (x.dw i) 1 (fE (w.e i)) (ki b (w.e i).day).1 J) ?_))))));refine bd (H1 i) (bd (H1 i) (aS (agp (w.e i)) (bd (H1 i) (aS (ahZ b (w.e i).day J) (aS (acr (w.dw i) 1 (fE (w.e i)) (ki b (w.e i).day).1 J) ?_)))));exact b4 (di (by show(((w.dw i).countP (gI 1 (fE (w.e i)) (ki b (w.e i).day).1):Nat):Int)<(((x.dw i).countP (gI 1 (fE (w.e i)) (ki b (w.e i).day).1):Nat):Int);omega))
    rw[aqm,es,EX];have avJ:=(hf.s i).e.queue;have m4:8<=(w.e i).queue.length:=aQ;refine a2 rfl (bm rfl (bd (H1 i) (bm (cI (by show((w.e i).queue.length:Int)=8;have:(w.e i).queue.length<=8:=avJ;omega)) ((cw (VC hf)).trans rfl))))
   rw[azr (s:=w.at i) Ax EE];dsimp only;rw[EX];refine bm (by rw[cH EE];rfl) (aS (a:=(true,())) ?_ rfl);exact bm rfl (bm rfl ((cw (VC hf)).trans rfl))
  rw[ax2 (s:=w.at i) Ax];dsimp only;rw[EX];refine bm (mo Ax) (aS (a:=(true,())) ?_ rfl);exact bm rfl (bm rfl (bm (mo Ax) ((cw (VC hf)).trans rfl)))
 have rj:0<=a.1/\a.1<7:=pk.1 am;have avK:Ku w a:=Su gT J (by have:nM a=0:=if_neg J;omega) atB;obtain⟨atb,ad4⟩:=akd hf.ok i ac rj;refine aS (show Cg (w.t,a,())=_ from Qg avK) (bd (H1 i) (bd (H1 i) ?_));dsimp only;generalize(ho w a).1=x at atb ad4;rw[xw,xw,show(w.e i).t.2.2.1=(w.e i).ph from rfl,show(x.e i).t.2.2.1=(x.e i).ph from rfl];have avo:0<=(w.e i).ph/\(w.e i).ph<=8:=(hf.s i).e.ph;have aue:=avW avo atb;generalize hg:(λ(Y:Bool×Int×Unit)=>(_:Option (aF (Bool×Int×Unit) (Bool×Unit))))=F;have aoM:aN a.1 (len [aR Int,[0,10],[4],aR Int,[6],[7],[9,0,10]])=true:=Ut rj.1 rj.2;have je:(e8 a.1).length<=3:=by rcases(by omega:a.1=0\/a.1=1\/a.1=2\/a.1=3\/a.1=4\/a.1=5\/a.1=6) with h|h|h|h|h|h|h<;>rw[h]<;>decide
 have bS:∀j,j<(e8 a.1).length->F (mW (aj (x.e i).ph (w.e i).ph) (((e8 a.1).take j).any (iU (w.e i).ph (x.e i).ph)),(j:Int),())=some (.nx (mW (aj (x.e i).ph (w.e i).ph) (((e8 a.1).take (j+1)).any (iU (w.e i).ph (x.e i).ph)),((j+1:Nat):Int),())):=by
  intro j ap;have kV:i64 (aE (j:Int) 1)=((j+1:Nat):Int):=fY (by show(j:Int)+1=_;omega) J;have auM:aN (j:Int) (len (e8 a.1))=true:=iA ap;have hb1:mW (aj (x.e i).ph (w.e i).ph) (((e8 a.1).take (j+1)).any (iU (w.e i).ph (x.e i).ph))=mW (mW (aj (x.e i).ph (w.e i).ph) (((e8 a.1).take j).any (iU (w.e i).ph (x.e i).ph))) (iU (w.e i).ph (x.e i).ph (e8 a.1)[j]):=by rw[e0 ap,List.any_append];simp[mW,Bool.or_assoc]
  rw[hb1];generalize mW (aj (x.e i).ph (w.e i).ph) (((e8 a.1).take j).any (iU (w.e i).ph (x.e i).ph))=c;subst hg;refine bd aoM (bm (di (by show(j:Int)<((e8 a.1).length:Int);omega)) (bd aoM (bd auM ?_)));dsimp only;rw[show ao (ao [aR Int,[0,10],[4],aR Int,[6],[7],[9,0,10]] (ae a.1) (aR Int)) (ae (j:Int)) 0=(e8 a.1)[j] from by rw[gx];exact nth_get ap,avQ,kV];refine aS rfl ?_;dsimp only;refine aS (a:=(mW c (iU (w.e i).ph (x.e i).ph (e8 a.1)[j]),())) ?_ rfl;cases c
  .unfold iU
   refine a2 rfl ?_;cases(lk (w.e i).ph (e8 a.1)[j] lz).2
   .rfl
   exact bm rfl (eV (H1 i))
  rfl
 have LR:F (mW (aj (x.e i).ph (w.e i).ph) (((e8 a.1).take (e8 a.1).length).any (iU (w.e i).ph (x.e i).ph)),((e8 a.1).length:Int),())=some (.ex 0 (mW (aj (x.e i).ph (w.e i).ph) (((e8 a.1).take (e8 a.1).length).any (iU (w.e i).ph (x.e i).ph)),((e8 a.1).length:Int),())):=by subst hg;exact bd aoM (bT (cR (by show ¬((e8 a.1).length:Int)<((e8 a.1).length:Int);omega)))
 have hall:bK F (aj (x.e i).ph (w.e i).ph,0,())=some (.ex 0 (true,((e8 a.1).length:Int),())):=by have h:=(lh (f:=F) (λj=>(mW (aj (x.e i).ph (w.e i).ph) (((e8 a.1).take j).any (iU (w.e i).ph (x.e i).ph)),(j:Int),())) (e8 a.1).length bS 0 (nV _)).trans (ec LR);rw[ni,aue]at h;exact F6 (b:=bK F (mW (aj (x.e i).ph (w.e i).ph) false,0,())) (by rw[g39]) h
 have ak:i64 (bq 1 (dg i))=dg (!i):=by cases i<;>decide +kernel
 refine(cW hall).trans (lc_ex'.trans (bd g62 ?_));dsimp only;rw[ak];refine aS (a:=(false,())) (a2 rfl (bd (H1 (!i)) (bd (H1 (!i)) ?_))) (a2 rfl ?_)
 .rw[xw,xw]
  show some (bg (aj (x.e (!i)).ph (w.e (!i)).ph),())=_;rw[kN ad4]
 rfl
def ajD(x:iu [.sl ajh,ajh,.sl (.int .u8)])(_:NE [.sl ajh,ajh,.sl (.int .u8)] x):Pa x=some (true,()):=TopPhases' x.1 x.2.1 x.2.2.1
end Yp