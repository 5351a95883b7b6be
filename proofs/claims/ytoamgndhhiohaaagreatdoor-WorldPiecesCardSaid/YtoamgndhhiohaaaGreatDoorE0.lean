/- A part of the proof of the statements of this seat: the engine that turns code into plain functions, and its soundness. No condition of its own. -/
import Derived.WalkKit
set_option linter.unusedVariables false
set_option linter.unusedSimpArgs false
set_option linter.defProp false
open _root_ renaming Array->cO,Array.replicate->hK,BitVec.ofInt->jv,Bool->aE,Go.Builtin.append_->lG,Go.Builtin.zeroCells->k0,False->fI,Go.Instr.sliceAt->qD,Go.Instr.sliceBounds->rE,Int->O,Go.IntKind->gL,List->ab,List.length->T,List.replicate->eC,Nat->R,Nat.beq->cT,Nat.blt->hv,Nat.testBit->g',Go.Oper->c7,Go.Operand->fS,Option->au,Go.Program->d_,Go.TypeId->cD,UInt32->b_,UInt8->aN,Unit->aj,Go.Value->aS,Go.World->bu,absurd->ev,Bool.false->ag,Go.grownCap->ko,Go.madeCells->l2,Option.none->aq,Go.run_underlying->d',Option.some->J,Bool.true->af
noncomputable section
variable {fm fy:aE}{l:ab aN}{L N a b d f i j k m n o off:R}{α β:Type}
namespace Yp
section
variable {p:Prop}
def AI(h:p:=by simp(disch:=omega) only[go_sem]):p:=h
def AS(h:p:=by simp only[go_sem,Int.reduceToNat];omega):p:=h
def AT(h:p:=by simp only[go_sem];simp;omega):p:=h
def By(h:p:=by simp(disch:=first|assumption|omega|(dsimp only;omega)|decide) only[go_sem,Int.reduceToNat];simp;omega):p:=h
def If(h:p:=by simp(disch:=first|assumption|omega|(dsimp only;omega)|decide) only[go_sem,Int.reduceToNat]):p:=h
def In(h:p:=by simp only[len];omega):p:=h
def IN(h:p:=by rw[if_pos<|.inr<|.inr<|.inr aJ];exact(b3 (a:=(true,()))<|(bf<|cm Y).trans<|(bf<|cm ac).trans<|(bf<|cm av).trans<|congrArg (λb=>some (b,()))<|cB aJ).trans rfl):p:=h
def IS(h:p:=by show(i:Int)+1=_;omega):p:=h
def IT(h:p:=by
 have dh:f (false,(List.length q:Int),())=some (.ex 0 (false,(List.length q:Int),())):=by subst hf;exact bf b2
 have dU:=(gS (f:=f) (λi=>(false,(i:Int),())) (List.length q) step 0<|ea _).trans<|dr dh;exact(cE<|dU).trans<|c3 g62):p:=h
def No(h:p:=by
 rcases ce with ce|ce<;>rw[ce]
 .obtain⟨v,a3,az⟩:=bT j p (by simpa using h)
  have bK:j<List.length vs:=(oC.1 a3).1;have:(vs.toArray++Array.replicate (n-vs.toArray.size) undef).getD j undef=v:=by rw[o?,AZ<|by simpa using bK];simp[a3]
  show bI _ _ _ p<|(vs.toArray++Array.replicate (n-vs.toArray.size) undef).getD j undef;rw[this];exact az
 trivial):p:=h
def OF(h:p:=by subst hf;simp(disch:=omega) only[go_sem]):p:=h
def aa_(h:p:=by
 by_cases Y:i=id
 .subst Y;rw[fH]at ao;cases ao
 by_cases ac:j=id
 .subst ac;rw[fH]at aF;cases aF
 rw[eY _ _ Y]at ao;rw[eY _ _ ac]at aF;exact h.sep i j j? ao aF):p:=h
def ab_(h:p:=by exact key id (λ_ h=>by simpa[eP]using h)<|by simp[eP]):p:=h
def ac_(h:p:=by simp(disch:=omega) only[go_sem,Int.reduceToNat];omega):p:=h
def ad_(h:p:=by simp[results,Tryz.f360,go_sem,bN.c0.cell,bN.c1.cell,bN.c2.cell]):p:=h
def ae_(h:p:=by
 have bK:List.length vs<=j:=by rw[b0]at h;simpa using h
 have:(vs.toArray++Array.replicate (n-vs.toArray.size) undef).getD j undef=undef:=by
  rw[o?,wY<|by simpa using bK];by_cases aF:j-vs.toArray.size<n-vs.toArray.size
  .rw[yF,if_pos aF];rfl
  rw[yF,if_neg aF];rfl
 exact this):p:=h
def af_(h:p:=by rw[a4];rfl):p:=h
def ag_(h:p:=by exact⟨_,a₁,w₁,bD,.pass (x:=.inLoop c) rfl (λ_ _=>.inl bP) zo⟩):p:=h
def ah_(h:p:=by refine aW (a:=(true,())) (by simp only[go_sem];try exact ru V) ?_;rfl):p:=h
def ai_(h:p:=by unfold maxLen;omega):p:=h
def aj_(h:p:=by simp(disch:=omega) only[go_sem];omega):p:=h
def ak_(h:p:=by
 generalize m6 s.1=a;generalize m6 s.2.1=b;obtain⟨n,i,⟨⟩⟩:=a;obtain⟨m,j,⟨⟩⟩:=b;by_cases h:n<m
 .cases i<;>cases j<;>(simp(disch:=omega) only[go_sem];try simp[h])
 cases i<;>cases j<;>(simp(disch:=omega) only[go_sem];try simp[h])):p:=h
def al_(h:p:=by have:=bD id (by simp[eg]);exact⟨by rw[this.1,this.2];exact h.1,pg.congr h.2 λj aF=>bD j<|by simp[eg,aF]⟩):p:=h
def am_(h:p:=by have aC:=ny<|hs.e.fd 0;have Y:=ny<|hs.e.fd 1;have ac:=ny<|hs.e.fd 2;have av:=ny<|hs.e.fd 3;unfold f9;omega):p:=h
def an_(h:p:=by subst hf;have:¬jp s[i]:=λh=>hp λ_=>h;obtain⟨q,e1⟩:=Wu ao this;refine(bj<|FA ao).trans ?_;refine(b3 e1).trans ?_;rfl):p:=h
def ao_(h:p:=by exact(cE<|qh 5 rfl).trans rfl):p:=h
def ap_(h:p:=by simp only[bw];omega):p:=h
def aq_(h:p:=by
 refine aW (a:=(false,())) rfl (a8 rfl<|a8 rfl<|aW (a:=(false,())) rfl<|a8 rfl<|aW rfl ?_)
 exact(bs bD).trans rfl):p:=h
def ar_(h:p:=by
 refine aW rfl ?_;generalize Bl m.1=c;by_cases Y:c=1
 .subst Y;rw[bS<|.inl rfl];rfl
 by_cases ac:c=2
 .subst ac;rw[bS<|.inr<|.inl rfl];rfl
 by_cases aJ:c=4
 .subst aJ;rw[bS<|.inr<|.inr rfl];rfl
 rw[b1 V,cc Y,cc ac,cc aJ];rfl):p:=h
def as_(h:p:=by
 have dM:((nw (t.take 0):Int),((0:Nat):Int),())=((0:Int),(0:Int),()):=by simp[nw]
 rw[dM]at key;rcases key with⟨_,az⟩|⟨⟨i,ao,ax⟩,az⟩
 .rw[az,i5 V]
  show some ((nw t:Int),((A+W:Nat):Int),0,())=_;simp
 grind):p:=h
def at_(h:p:=by exact cL.same _ _ rfl (cx _) rfl rfl rfl):p:=h
def au_(h:p:=by
 match k with
 |0=>exact az.1.2.1
 |1=>exact az.1.2.2.1
 |k+2=>show dv 0;decide):p:=h
def av_(h:p:=by simp[binOp,Op.intCmp,am,a2,aK,bL,bne]):p:=h
def aw_(h:p:=by simp only[go_sem];exact aA):p:=h
def ax_(h:p:=by simp(disch:=omega) only[go_sem];rfl):p:=h
def ay_(h:p:=by refine⟨λtid d x y cs ds aA=>(by cases aA),λl off d x y cs ds aA=>by cases aA⟩):p:=h
def az_(h:p:=by rw[fF (by show -9223372036854775808<=h1-((h1.toNat:Nat):Int);omega) (by show h1-((h1.toNat:Nat):Int)<=9223372036854775807;omega)];show h1-((h1.toNat:Nat):Int)=0;omega):p:=h
def aA_(h:p:=by obtain⟨_,Y⟩:=eu h;rw[Y];exact jQ.refl _):p:=h
def aB_(h:p:=by
 rw[dM]at key;rcases key with⟨hall,az⟩|⟨⟨i,ao,ax⟩,az⟩
 .rw[az,if_pos ⟨h,(O8 ac).1 hall⟩,i5 (by simp[o7];omega)];rfl
 rw[az,if_neg<|λaA=>ax<|(O8 ac).2 aA.2 i ao];rfl):p:=h
def aC_(h:p:=by intro phx' aZ w' bn b' e1 bX b4;rw[<- bv]at b' e1 bX;rw[<- aJ]at bX;exact bD aT phx' aZ w' bn aB eJ (by rw[c_.2];exact b') (by rw[c_.2];exact e1) (bX.Te c_) b4):p:=h
def aD_(h:p:=by rw[dV];omega):p:=h
def aE_(h:p:=by cases i<;>rfl):p:=h
def aF_(h:p:=by obtain⟨Y,rfl⟩:=y9<|show an (bO 1<|aQ (x.1:ai)) (some ((x.1:ai),()))=some r from hm;rw[show bB (aQ ([]:ai)) (aQ (x.1:ai))=aQ (x.1:ai) from oD _,Y];rfl):p:=h
def aG_(h:p:=by obtain⟨cs,Y,ac⟩:=h;exact⟨cs,Y.mono c6,ac⟩):p:=h
def aH_(h:p:=by
 repeat' split
 all_goals first|exact .inl rfl|exact oK<|CH _ _):p:=h
def aI_(h:p:=by obtain⟨⟨bM,h,_⟩,_⟩:=h;simp[run_underlying h,aw.isAgg]):p:=h
def aJ_(h:p:=by rw[j'.bV,if_pos ⟨by trivial,.inr hall⟩];exact Ap ep ((a4.trans<|Fg _ _ _ _ _).trans<|belowK_b (w:=w) (cx _) _ D _ _ (by simp at jD;omega) (my _ _ _) rfl rfl) 2):p:=h
def aKB(h:p:=by exact .inl rfl):p:=h
def aKC(h:p:=by subst hf;intro v;exact bf rfl):p:=h
def aKD(h:p:=by
 induction l with
 |nil=>intro g;rfl
 |cons y l ih=>intro g;simp only[e5,cond];exact ih g):p:=h
def aKE(h:p:=by cases c<;>rfl):p:=h
def aKF(h:p:=by simp(disch:=omega) only[go_sem,Int.reduceToNat]):p:=h
def aKG(h:p:=by
 repeat' split
 all_goals first|exact fe rfl|exact fe<|CI _ _):p:=h
def aKH(h:p:=by obtain⟨t',sh,h⟩:=iL.FF (es:=es) h.2 id ao t v ak;exact⟨t',sh,by simp[h]⟩):p:=h
def aKI(h:p:=by refine⟨λtid h => ?_,λl off h=>by cases h⟩;simp only[lO,d5]at h;refine⟨?_,xS h.2⟩;have Y:=h.1;split at Y<;>first|assumption|cases Y):p:=h
def aKJ(h:p:=by rw[eY _ _ aF];refine(h.blks j).congr rfl aX.pl aX.vw aX.bl (λ_ _ _=>rfl) λx hx hm eE=>⟨eE,λy bW => ?_⟩;exact h.sep j id aF hm (by rw[ak];rfl) x y hx bW):p:=h
def aKK(h:p:=by exact(cL.refl s).mono V V V):p:=h
def aKL(h:p:=by
 cases op<;>try(cases h;done)
 .cases h
  exact⟨rfl,_,by simp[hg,binOp,r2],bI.v_ _ _ _ _⟩
 cases h;exact⟨rfl,_,by simp[hg,binOp,r2,a2],bI.v_ _ _ _ _⟩):p:=h
def aKM(h:p:=by
 by_cases Y:j=id
 .subst Y;rw[fH]at aF;cases aF
 rw[eY _ _ Y]at aF;exact h.own j aF):p:=h
def aKN(h:p:=by
 simp only[z4,aR.bC]at h;generalize a4:B id=bl at h;cases bl<;>try(cases h)
 obtain⟨y,du,Y,ac⟩:=aR.dd h;obtain⟨_,lp⟩:=eu Y;cases ac
 grind [jQ.cA]):p:=h
def aKO(h:p:=by repeat(first|rfl|split)):p:=h
def aKP(h:p:=by simpa using h):p:=h
def aKQ(h:p:=by simp(disch:=omega) only[go_sem];refine lZ ?_;simp;omega):p:=h
def aKS(h:p:=by
 rw[if_pos xp]
 refine aW (a:=(true,())) ?_<|bj rfl;by_cases eJ:s.e.ph=7
 .exact bj (ck eJ)
 refine a8 (cc eJ) ?_;show some (am s.e.ph 8,())=_
 grind [ck]):p:=h
def aKT(h:p:=by show aO (N:Int) (len w.a')=true;simp(disch:=first|assumption|omega|(dsimp only;omega)|decide) only[go_sem,Int.reduceToNat];omega):p:=h
def aKU(h:p:=by rw[h];rfl):p:=h
def aKV(h:p:=by
 refine Ik h (λg hg => ?_) (by rw[jj];exact cx _);rcases A3 hg with hg|rfl
 .exact h.ok.a' g hg
 exact⟨fa.1,fa.2.1,by rw[dV];have:=fa.2.2;omega⟩):p:=h
def aKW(h:p:=by simp(disch:=omega) only[go_sem,Int.reduceToNat,hs,kB]):p:=h
def aKX(h:p:=by
 refine aW rfl (a8 rfl<|a8 rfl<|a8 rfl<|aW rfl ?_)
 exact(bs bD).trans rfl):p:=h
def aKY(h:p:=by simp[results,Tryz.f360,go_sem]):p:=h
def aKZ(h:p:=by exact⟨h.e.up,h.e.next,h.e.feed,h.e.life,h.e.fd⟩):p:=h
def aK0(h:p:=by
 simp only[aR.run,bi.bind,bi.cf,aa,aR.bC]at h ⊢;cases c with
 |true=>simpa using hx gj gb wr k r h
 |false=>simpa using bW gj gb wr k r h):p:=h
def aK1(h:p:=by have Y:=Wj s (yq s.e b) s.e.ring.1.2.1;exact MN (bs vT)<|anf (s:=s) (r:=lm s (yq s.e b) s.e.ring.1.2.1) (by rw[Y];exact hs.e.seq) V):p:=h
def aK2(h:p:=by simpa using bK):p:=h
def aK3(h:p:=by grind [Nat.eq_of_beq_eq_true]):p:=h
def aK4(h:p:=by show List.length ([]:List ai)<=8;simp):p:=h
def aK5(h:p:=by grind [List.drop_eq_getElem_cons]):p:=h
def aK6(h:p:=by rw[ax.keep.1];exact g8):p:=h
def aK7(h:p:=by obtain⟨⟨bM,h,_⟩,_⟩:=hf;exact⟨_,h,bP⟩):p:=h
def aK8(h:p:=by rw[jz];omega):p:=h
def aK9(h:p:=by simp[Frame.enter,Frame.at,Tryz.func425,base,Tryz.f425]):p:=h
def aK_(h:p:=by exact(bs hl).trans rfl):p:=h
def aLa(h:p:=by show BitVec.ofInt 64 ((a.toNat:Nat):Int)=_;exact yN bP):p:=h
def aLb(h:p:=by show BitVec.ofInt 64 ((b.toNat:Nat):Int)=_;exact yN bP):p:=h
def aLc(h:p:=by
 rw[fv _<|by rw[if_neg Y],ac]
 exact⟨5,bA rfl<|(bs<|show o0 ((⟨s.e,(hb s v).1⟩:aU).t,5,())=_ from alM _).trans rfl,bP⟩):p:=h
def aLd(h:p:=by rw[show s.bz 3=.box t (.sc t x) by rw[<- hs];rfl];rfl):p:=h
def aLe(h:p:=by
 induction l with
 |nil=>intro g;rfl
 |cons y l ih=>intro g;exact ih g):p:=h
def aLf(h:p:=by rw[if_pos<|.inr<|.inr<|.inl av];exact(b3 (a:=(true,()))<|(bf<|cm Y).trans<|(bf<|cm ac).trans<|bj<|cB av).trans rfl):p:=h
def aLg(h:p:=by show(0:Int)<=0;decide):p:=h
def aLh(h:p:=by subst hg;exact bf rfl):p:=h
def aLi(h:p:=by simp[binOp,Op.intBits,hz,hG,em,J8]):p:=h
def aLj(h:p:=by
 repeat' split
 all_goals first|rfl|exact C_ _ _):p:=h
def aLk(h:p:=by exact two k r h λaT phx' aZ w' bn aB hf hd cN bh uV cz=>bD aT phx' aZ w' bn aB (WK _ aT hd hf) cN (e1.trans bh) uV cz):p:=h
def aLl(h:p:=by
 refine⟨λj aF y bW Yl => ?_,λk aB=>aB▸b4⟩;by_cases I_:j=3
 .subst I_;rw[cz]at aF;cases aF
 exact lv j I_ aF y bW Yl):p:=h
def aLm(h:p:=by simp at h):p:=h
def aLn(h:p:=by rw[if_neg hf];exact nh (decide_eq_false λh=>hf<|h.1.2 V).symm):p:=h
def aLo(h:p:=by have ak:a2 (am (len key) 32)=false:=eI (by show(List.length key:Int)=32;omega);rw[ak];cases i<;>rfl):p:=h
def aLp(h:p:=by
 rcases bR with bR|⟨uD,nn,d,b0,bT,dE⟩
 .exact .inl bR
 exact .inr ⟨uD,nn,d,b0,bT,by rw[IM d<|W5 b0 bT];exact dE⟩):p:=h
def aLr(h:p:=by obtain⟨⟨bM,h,_⟩,_⟩:=h;exact⟨_,h⟩):p:=h
def aLs(h:p:=by rcases aB with rfl|rfl|rfl|rfl|rfl|rfl|rfl<;>rfl):p:=h
def aLt(h:p:=by rw[d7];omega):p:=h
def aLu(h:p:=by show dv 0;decide):p:=h
def aLv(h:p:=by
 refine .inr ⟨z,j,(dT dY).trans Y,λa b6 => ?_,?_⟩
 .rcases mU.1 b6 with rfl|b6
  .omega
  exact ac a b6
 grind [tE,wq]):p:=h
def aLw(h:p:=by
 refine aW (a:=(true,())) (a8 (cm ac)<|nh<|cB av) ?_
 simp only[if_pos (Or.inr av:a<0\/(List.length b:Int)<a)];rfl):p:=h
def aLx(h:p:=by refine⟨λtid h => ?_,λl off h=>by cases h⟩;simp only[lO,d5]at h;exact⟨akA h.1,xS h.2⟩):p:=h
def aLy(h:p:=by
 simp only[aR.run,bi.bind,bi.cf,an,aR.bC]at h ⊢;cases c with
 |true=>simpa using ih gj gb wr k r h
 |false=>cases h):p:=h
def aLz(h:p:=by rw[if_neg aC];simp(disch:=first|assumption|omega|(dsimp only;omega)|decide) only[go_sem,Int.reduceToNat,aC];rfl):p:=h
def aLA(h:p:=by
 refine aW (a:=(true,())) (a8 (cm pA)<|nh<|cB xF) ?_
 simp only[if_pos (Or.inr xF:(val s:Int)<1\/l<val s)];rfl):p:=h
def aLB(h:p:=by unfold ah;omega):p:=h
def aLC(h:p:=by rw[bT];exact hx):p:=h
def aLD(h:p:=by exact(hW.cell (p:=⟨b,off+A+j,none⟩) e8).trans<|(Bz.cell (p:=⟨b,off+A+j,none⟩) ak).trans<|aA j h):p:=h
def aLE(h:p:=by rw[if_neg h];exact bj<|ff h):p:=h
def aLF(h:p:=by obtain⟨⟨f',bq,_⟩,_⟩:=hf;obtain⟨cs,rfl,_⟩:=okWide_struct bq jZ;simp[db,aw.isAgg,Value.cells]):p:=h
def aLG(h:p:=by simp(disch:=first|assumption|omega|(omega)|decide) only[go_sem,Int.reduceToNat];omega):p:=h
def aLH(h:p:=by cases h;exact⟨rfl,_,ba.x_.2 rfl,rfl⟩):p:=h
def aLI(h:p:=by
 rcases hs with⟨Y,a,ac⟩|⟨b,o,m,cap',Y,ac,av,aJ,bv⟩
 .omega
 simp only[Value.slice.injEq]at ac;omega):p:=h
def aLJ(h:p:=by rw[jl];omega):p:=h
def aLK(h:p:=by rw[uC];exact hold id<|bg id<|by simp[eg]):p:=h
def aLL(h:p:=by show(t:Int)+1=_;omega):p:=h
def aLM(h:p:=by subst hf;intro u;exact bf b2):p:=h
def aLN(h:p:=by
 show some (aK 0<|len u.a',())=_
 rw[hf,cB (by show(0:Int)<((List.length (f::r):Nat):Int);rw[gd];omega)]):p:=h
def aLO(h:p:=by show(Op.equalIn (9999+1) tid _ _).run P w=_;rw[Op.equalIn];simp_all[run_underlying]):p:=h
def aLP(h:p:=by refine(bf (by rw[kO,aT,PV];exact cm V)).trans ?_;refine(c3 dP).trans ?_;refine(c3 dP).trans ?_;rw[bX]):p:=h
def aLQ(h:p:=by simp only[go_sem]):p:=h
def aLS(h:p:=by show -9223372036854775808<=w.1-1024;omega):p:=h
def aLT(h:p:=by simp only[aw.pp]at a?;omega):p:=h
def aLU(h:p:=by
 by_cases aB:nH c
 .simp only[go_sem,aB];exact lZ V
 rw[b1 (p:=_/\_)<|λh=>aB h.1];simp only[go_sem,aB]):p:=h
def aLV(h:p:=by refine⟨_,_,cN,bh,?_⟩;simp only[bI,eR,ci,fH];exact⟨.inl ⟨rfl,none,rfl⟩,λh=>by cases h⟩):p:=h
def aLW(h:p:=by rw[XR]at cn;have hs:=pS aX w;simp_all[Instr.buildSlice,run_underlying,Go.newRow,Array.range_zero']):p:=h
def aLX(h:p:=by show(0:Int)<=3;omega):p:=h
def aLY(h:p:=by obtain⟨c9,dl,dB,fp,mu⟩:=h;obtain⟨fx,e7,kr,p5,rQ⟩:=k;exact⟨V,V,V,V,V⟩):p:=h
def aLZ(h:p:=by rcases Qe h.1 with⟨_,_,_,h⟩|⟨_,h⟩|⟨_,_,h⟩|⟨_,h⟩<;>simp[run_underlying h,aw.isAgg]):p:=h
def aL0(h:p:=by
 rw[if_neg tb];refine a8 (cc tb) ?_;by_cases mc:a.1=16
 .rw[if_pos mc];exact bj (ck mc)
 grind [bf,cc]):p:=h
def aL1(h:p:=by rw[ba]at h;subst h;simp[Value.oneCell']):p:=h
def aL2(h:p:=by rw[show i64 (aG (N:Int) 1)=((N+1:Nat):Int) from gY (b:=1) V];exact zD (b:=2) V):p:=h
def aL3(h:p:=by
 rcases aA with aA|aA
 .simp at aA
  rcases aA with aA|aA
  .grind
  exact cj.L4 _ _ aA
 simpa[bL]using aA):p:=h
def aL4(h:p:=by rw[if_pos<|.inr<|.inl ac];exact(b3 (a:=(true,()))<|(bf<|cm Y).trans<|bj<|cB ac).trans rfl):p:=h
def aL5(h:p:=by simp[Go.builtin,av]):p:=h
def aL6(h:p:=by rw[g32 V];omega):p:=h
def aL7(h:p:=by rw[b1 h,if_neg h];rfl):p:=h
def aL8(h:p:=by
 by_cases h:m<16
 .rw[bS h]
  show some (c,())=_
  grind [pG]
 rw[b1 h];show some ((16:Int),())=_
 grind):p:=h
def aL9(h:p:=by
 by_cases aJ:s.e.ph=4
 .have aC:¬s.e.id=0:=λaC=>Y ⟨aJ,aC⟩
  rw[ck aJ,cc aC];rfl
 rw[cc aJ];rfl):p:=h
def aL_(h:p:=by simp only[bL,decide_eq_true_eq];omega):p:=h
def aMa(h:p:=by conv=>{ lhs;unfold hS };rw[if_neg aA]):p:=h
def aMb(h:p:=by conv=>{ lhs;unfold kP };rw[if_neg aA]):p:=h
def aMc(h:p:=by
 show _=some (if true=false then _ else if c=101 then _ else if c=201 then _ else _,())
 grind):p:=h
def aMd(h:p:=by exact .inr ⟨b,o,c,el,fz,hid.trans Y,(bR _ Y rfl).trans ac,av.mono c6,aJ,eE _ Y rfl bv⟩):p:=h
def aMe(h:p:=by rw[hX]at h;cases h):p:=h
def aMf(h:p:=by obtain⟨rfl,_,rfl⟩:=ac;left;exact⟨V,_,by rw[show N=0 by omega,show 0-L=0 by omega]⟩):p:=h
def aMg(h:p:=by show -9223372036854775808<=n+1;omega):p:=h
def aMh(h:p:=by exact⟨.inr ⟨b,o,c.size,cap,nm _ _ _,bP,b4,cz,by simpa using dw⟩,λh=>by cases h⟩):p:=h
def aMi(h:p:=by rw[if_pos bq];exact bj (by rw[g33];cases hx:ap h.1 c.toNat false;rfl;exact absurd hx bq)):p:=h
def aMj(h:p:=by rw[Y]at hx;cases hx;exact bK _ _ ac):p:=h
def aMk(h:p:=by unfold sub;rw[ie,i5];rw[dV];show _<=(List.length b:Int).toNat-_;omega):p:=h
def aMl(h:p:=by have bN:=h.z;unfold e' at bN;omega):p:=h
def aMm(h:p:=by obtain⟨aC,b,o,cap,off,t',Y,ac,av⟩:=h;exact⟨aC,b,o,cap,off,t',Y.mono c6,ac,av⟩):p:=h
def aMn(h:p:=by obtain⟨b,Y,ac,av⟩:=h;exact⟨b,hid.trans Y,(bR _ Y rfl).trans ac,eE _ Y rfl av⟩):p:=h
def aMo(h:p:=by refine lI λaA=>ax ⟨ak,λx hx e=>aA ⟨id,by rw[‹B id=_›];rfl,x,hx,e.symm⟩⟩):p:=h
def aMp(h:p:=by
 refine aW (bj<|cB ac) ?_
 simp only[if_pos (Or.inl ac:a<0\/(List.length b:Int)<a)];rfl):p:=h
def aMq(h:p:=by show ¬((0:Int)<0\/(65535:Int)<0\/(0:Int)<0/\0<List.length a);omega):p:=h
def aMr(h:p:=by obtain⟨cs,eV,aC,av,aJ⟩:=h;exact⟨cs,eV,aC,av,iy.uE Y ac aJ⟩):p:=h
def aMs(h:p:=by
 induction l with
 |nil=>intro g;rfl
 |cons y l ih=>intro g;simp only[gt,cond];exact ih g):p:=h
def aMt(h:p:=by
 unfold h9;split
 .exact h
 dsimp only;split
 .exact(h.a' _).Bc _ _ _
 exact(h.a' _).Bc _ _ _):p:=h
def aMu(h:p:=by cases t<;>simp only[aw.e2,jN,mV]at bg<;>exact⟨bg.2,bg.1.symm⟩):p:=h
def aMv(h:p:=by exact .inr ⟨b,o,c,el,fz,b0,(kY.1 bT).2,dE⟩):p:=h
def aMw(h:p:=by
 by_cases nE:k=b
 .subst nE;exact⟨λ_=>xs,λ_=>Xh k rfl⟩
 exact hD.hid k ⟨aB,nE⟩):p:=h
def aMx(h:p:=by simp[binOp,Op.intArith,aG,bw,dI]):p:=h
def aMy(h:p:=by obtain⟨_,dZ,bg,_⟩:=mem_ready.1 ao;rw[<- ax];exact(jO.1 bg).1):p:=h
def aMz(h:p:=by simp only[go_sem];try exact u1 V):p:=h
def aMA(h:p:=by dsimp only;omega):p:=h
def aMB(h:p:=by rw[a4]at h;cases h):p:=h
def aMC(h:p:=by
 refine aW (bj<|cB pA) ?_
 simp only[if_pos (Or.inl pA:(val s:Int)<1\/l<val s)];rfl):p:=h
def aMD(h:p:=by exact⟨cF,h,by rw[e];exact ce⟩):p:=h
def aME(h:p:=by unfold lz;split<;>rfl):p:=h
def aMF(h:p:=by show(j:Int)+1=_;omega):p:=h
def aMG(h:p:=by rcases Qe h.1 with⟨_,_,_,h⟩|⟨_,h⟩|⟨_,_,h⟩|⟨_,h⟩<;>exact⟨_,h⟩):p:=h
def aMH(h:p:=by rw[g21];refine bS ?_;show(List.length (w.d8 i)+List.length x.e.got)*128<=_;omega):p:=h
def aMI(h:p:=by show ¬(List.length x.e.bV:Int)<(List.length x.e.bV:Int);omega):p:=h
def aMJ(h:p:=by simp_all[Instr.typeAssert,run_underlying,qi]):p:=h
def aMK(h:p:=by rw[if_neg h];exact bj (by show a2 (am s.e.ph 4)=true;simp only[go_sem];exact h)):p:=h
def aML(h:p:=by simp[Value.oneCell']):p:=h
def aMM(h:p:=by rw[rR];split<;>omega):p:=h
def aMN(h:p:=by rw[IW];exact(hW.cell (p:=⟨w.heap.size+1+1+1+1+1,0,none⟩) bP).trans Bf.cell):p:=h
def aMO(h:p:=by simp(disch:=omega) only[go_sem];exact u1<|λh=>av<|.inr h):p:=h
def aMP(h:p:=by intro ak;rw[ak]at c2;cases c2):p:=h
def aMQ(h:p:=by obtain⟨aZ,Y,ac,av,aJ,bv,_⟩:=h;exact⟨Y,ac,av,aJ,bv⟩):p:=h
def aMR(h:p:=by
 rw[if_pos av]
 refine aW (a:=(true,())) (by simp only[go_sem];exact ru av) rfl):p:=h
def aMS(h:p:=by show ¬(s<0\/65535<s\/0<s/\0<List.length (buf++[c]));omega):p:=h
def aMT(h:p:=by
 by_cases cH:s.e.ph=8
 .rw[if_pos cH,if_pos cH];rfl
 rw[if_neg cH,if_neg cH];rfl):p:=h
def aMU(h:p:=by show List.length s.p.2.1+List.length ([]:List ai)<=_;simp):p:=h
def aMV(h:p:=by obtain⟨cs,eV,aC,Y,ac⟩:=h;subst aC;simp[iy.length ac]):p:=h
def aMW(h:p:=by cases aB):p:=h
def aMX(h:p:=by cases i<;>cases j<;>simp_all):p:=h
def aMY(h:p:=by subst hp;simp only[aw.e2,jN,mV]at ac;rw[av,<- ac.1];rfl):p:=h
def aMZ(h:p:=by show ¬((0:Int)<0\/(65535:Int)<0\/(0:Int)<0/\0<0);omega):p:=h
def aM0(h:p:=by simp[Frame.enter,Frame.at,Tryz.func284,base,Tryz.f284]):p:=h
def aM1(h:p:=by
 rw[if_pos av]
 refine aW (a:=(true,())) ?_ rfl;simp only[go_sem]
 grind [ru]):p:=h
def aM2(h:p:=by rw[if_pos aC];exact bj<|ff aC):p:=h
def aM3(h:p:=by
 rw[if_pos Y]
 refine aW (a:=(true,())) ?_ rfl;simp only[go_sem];exact ru Y):p:=h
def aM4(h:p:=by show ¬(i:Int)<((fL s.e.hub c b).2.1.length:Int);omega):p:=h
def aM5(h:p:=by show ¬(List.length iz:Int)<(List.length iz:Int);omega):p:=h
def aM6(h:p:=by simp only[wE,ey.set,ih];cases Nat.beq i 0<;>cases Nat.beq (i%2) 1<;>rfl):p:=h
def aM7(h:p:=by apply pe;simp):p:=h
def aM8(h:p:=by funext i;unfold fW;by_cases ao:i<ops.size<;>simp[ao]):p:=h
def aM9(h:p:=by simp only[run]at h;cases h):p:=h
def aM_(h:p:=by simp only[go_sem];exact aC):p:=h
def aNa(h:p:=by rw[jz];exact Hs _):p:=h
def aNb(h:p:=by apply pe;exact vQ):p:=h
def aNc(h:p:=by rw[bS h,if_pos h];rfl):p:=h
def aNd(h:p:=by exact mt.refl h):p:=h
def aNe(h:p:=by
 induction j with
 |zero=>intro v;rfl
 |succ j ih=>intro v;exact ih<|pP v):p:=h
def aNf(h:p:=by unfold maxLen at kz;omega):p:=h
def aNg(h:p:=by rw[bd.rq];exact hs.ext e1):p:=h
def aNh(h:p:=by rw[jl];have:=fa.2.2;omega):p:=h
def aNi(h:p:=by rw[g33,show ap h.1 c.toNat false=true from bq];rfl):p:=h
def aNj(h:p:=by rw[b1<|show ¬(0<=a.2.2.1/\a.2.2.1<len w.a') from aC,if_pos aC];rfl):p:=h
def aNk(h:p:=by subst hg;exact bf<|cm (by show ¬(i:Int)<(List.length l:Int);omega)):p:=h
def aNl(h:p:=by
 unfold B8 at ak;split at ak
 .rename_i r2;exact(aw.sl.inj r2)
 cases ak):p:=h
def aNm(h:p:=by exact⟨a?,kj us,yn cn,kj us,rfl,cR⟩):p:=h
def aNn(h:p:=by grind [sub,len,List.take_of_length_le]):p:=h
def aNo(h:p:=by left;exact⟨V,_,by rw[show N=0 by omega,show cap-L=0 by omega]⟩):p:=h
def aNp(h:p:=by rw[show off+L+(cap-L)=off+cap by omega];exact bv):p:=h
def aNq(h:p:=by exact YQ none .returning eX kF kp fQ dB gi me<|.inl ⟨rfl,rfl⟩):p:=h
def aNr(h:p:=by
 refine a8 (decide_eq_false ac) ?_
 grind [c3,kW,bB,aQ,aI,bb,body,lF]):p:=h
def aNs(h:p:=by have:=h.a';omega):p:=h
def aNt(h:p:=by
 rename_i t y
 cases t<;>(try simp at h)<;>try(cases h)
 exact hl.elim):p:=h
def aNu(h:p:=by cases v<;>first|exact h|exact absurd rfl<|bq _):p:=h
def aNv(h:p:=by simp(disch:=omega) only[go_sem,hs,kB]):p:=h
def aNw(h:p:=by
 simp only[go_sem]
 grind [lZ]):p:=h
def aNx(h:p:=by exact(cE<|(dT g0).trans<|(dT b0).trans<|(dT bT).trans<|dr dh)):p:=h
def aNy(h:p:=by rw[Instr.checkKey];simp only[Sem.run_bind,run_underlying bq];rfl):p:=h
def aNz(h:p:=by unfold dk;split<;>omega):p:=h
def aNA(h:p:=by rcases hp with h|h|h|h|h|h|h|h|h<;>rw[h]<;>rfl):p:=h
def aNB(h:p:=by exact⟨rfl,rfl⟩):p:=h
def aNC(h:p:=by rw[ak]at h;cases h):p:=h
def aND(h:p:=by rw[lJ];exact aB):p:=h
def aNE(h:p:=by rw[if_neg hf];exact nh (decide_eq_false λh=>hf<|h.1.1 V).symm):p:=h
def aNF(h:p:=by
 by_cases a?:rU m
 .rw[bS a?,if_pos a?];rfl
 rw[b1 a?,if_neg a?];rfl):p:=h
def aNG(h:p:=by rw[oE bK]at a?;exact⟨(pc a?).1,(pc a?).2⟩):p:=h
def aNH(h:p:=by rw[vP,Cm];exact⟨λ_ _=>rfl,cX.cU.refl _,λ_=>bm.cU.refl _⟩):p:=h
def aNI(h:p:=by simp(disch:=omega) only[go_sem,Int.reduceToNat,q3,ac,hs,kB,bD]):p:=h
def aNJ(h:p:=by show -9223372036854775808<=a.2.2.2.1-1;omega):p:=h
def aNK(h:p:=by exact .inr ⟨b,o,c,el,fz,hid.trans Y,c6 _ _ ac,av.mono c6⟩):p:=h
def aNL(h:p:=by rw[b1<|show ¬(0<=a.2.2.1/\a.2.2.1<4) from aC,if_pos aC];rfl):p:=h
def aNM(h:p:=by
 cases o with
 |some a=>exact ih a gj gb wr k r h
 |none=>cases h):p:=h
def aNN(h:p:=by simpa using eq):p:=h
def aNO(h:p:=by simpa using ct):p:=h
def aNP(h:p:=by show(j:Int)<(List.length x.e.bV:Int);omega):p:=h
def aNQ(h:p:=by exact⟨_,run _ cn,An cR ⟨_,ba.pm.2<|by rw[da],rfl⟩⟩):p:=h
def aNR(h:p:=by
 rename_i t ht
 obtain⟨⟨v,a3⟩,_⟩:=gA.box ht;rw[a3];rfl):p:=h
def aNS(h:p:=by grind [aa,ob,aK,aI]):p:=h
def aNT(h:p:=by simp(disch:=omega) only[go_sem,Int.reduceToNat,q3,ac,hs,kB]):p:=h
def aNU(h:p:=by simp(disch:=omega) only[go_sem,Int.reduceToNat,j_,qJ,bD,ax]):p:=h
def aNV(h:p:=by refine a7 b2<|a7 b2 ?_;simp only[ an0];exact aW (aA _) rfl):p:=h
def aNW(h:p:=by
 repeat' split
 all_goals first|exact fe rfl|exact fe<|C' _ _):p:=h
def aNX(h:p:=by rw[ba];rfl):p:=h
def aNY(h:p:=by simp[cb]):p:=h
def aNZ(h:p:=by unfold seq;exact beq_eq_false_iff_ne.2 h):p:=h
def aN0(h:p:=by simp only[go_sem];exact not_not_intro aJ):p:=h
def aN1(h:p:=by exact congrArg some<|congrArg aL.nx<|T6 rfl<|T6 rfl rfl):p:=h
def aN2(h:p:=by simp[binOp,Op.stringOp,hl,seq,y2,iP,a2]):p:=h
def aN3(h:p:=by simp[run_underlying h.1,aw.isAgg]):p:=h
def aN4(h:p:=by grind [bf,cm,len]):p:=h
def aN5(h:p:=by
 have:x=e:=by
  have Y:=f.iF hx;have ac:=f.iF aX
  grind
 grind):p:=h
def aN6(h:p:=by simp only[bc];omega):p:=h
def aN7(h:p:=by simp(disch:=omega) only[go_sem,Int.reduceToNat,hs,kB,bD]):p:=h
def aN8(h:p:=by simp[results,Tryz.f319,go_sem,bN.cell]):p:=h
def aN9(h:p:=by exact cL.mono (cL.same _ _ rfl (cx _) rfl rfl rfl) V V V):p:=h
def aN_(h:p:=by show some (am s.e.ph 8,())=_;rw[cc cH]):p:=h
def aOa(h:p:=by
 refine(bj<|ck V).trans ?_
 rw[if_neg<|λaA=>h aA.1];rfl):p:=h
def aOb(h:p:=by show(l.toArray[i+0]!).toNat=_;simp[h]):p:=h
def aOc(h:p:=by simp(disch:=omega) only[go_sem,Int.reduceToNat,Ac,h,ac]):p:=h
def aOd(h:p:=by show a2 (am s.e.ph 4)=false;rw[h];rfl):p:=h
def aOe(h:p:=by show(i:Int)<(List.length l:Int);omega):p:=h
def aOf(h:p:=by rw[mj];omega):p:=h
def aOg(h:p:=by refine a7 (by simp only[go_sem];simp[s0];omega) ?_;rfl):p:=h
def aOh(h:p:=by rw[if_pos aJ];exact bj (by simp only[go_sem];exact aJ)):p:=h
def aOi(h:p:=by exact(rZ s 3).mono V V V):p:=h
def aOj(h:p:=by have:=fa.2.2;omega):p:=h
def aOk(h:p:=by rw[Y]at hx;cases hx;exact bK ac):p:=h
def aOl(h:p:=by rw[i?]at ak;cases ak):p:=h
def aOm(h:p:=by cases bX;simp only at Y ac;rw[Y,ac]):p:=h
def aOn(h:p:=by
 cases ak
 have iS:=tH gq.1 m.2.1[i] (j7 h)
 grind [gT,Mj]):p:=h
def aOo(h:p:=by rw[pH V,pH V];show(_:Int)+_=_;omega):p:=h
def aOp(h:p:=by
 rw[if_pos bD]
 exact bj (by simp only[go_sem];exact bD)):p:=h
def aOq(h:p:=by simp only[go_sem,c9,dl];exact u1 dB):p:=h
def aOr(h:p:=by have:=agz hs.e.ring v.2.2.2.1;omega):p:=h
def aOs(h:p:=by cases s;simp only at Y ac;rw[Y,ac]):p:=h
def aOt(h:p:=by simp only[decide_eq_true av,a2,Hn]):p:=h
def aOu(h:p:=by simp[go_sem,execOp,scase,Act.eval]):p:=h
def aOv(h:p:=by rw[xR];simp;omega):p:=h
def aOw(h:p:=by rw[g31 b2];simp only[go_sem];omega):p:=h
def aOx(h:p:=by rw[if_neg bv];refine(bj<|ff bv).trans ?_;exact vC s):p:=h
def aOy(h:p:=by rw[if_neg bv];refine(bj<|ff bv).trans ?_;exact qs s):p:=h
def aOz(h:p:=by show(List.length b:Int)-16=_;omega):p:=h
def aOA(h:p:=by unfold h9;rw[hf];rw[if_neg bP];rfl):p:=h
def aOB(h:p:=by
 have:=bI.uF phx H B k (cj.of k n)
 rwa [cj.S5]at this):p:=h
def aOC(h:p:=by simp[Instr.sliceBounds,Instr.sliceBound,asIntOf,b0]):p:=h
def aOD(h:p:=by simpa using av):p:=h
def aOE(h:p:=by (repeat' split)<;>exact λh=>h):p:=h
def aOF(h:p:=by rw[if_pos<|.inl Y];exact(b3<|bj<|cB Y).trans rfl):p:=h
def aOG(h:p:=by rw[if_pos bv];exact bj<|cB bv):p:=h
def aOH(h:p:=by show List.length A<=1000000;omega):p:=h
def aOI(h:p:=by rw[b1 ac,if_pos ac];rfl):p:=h
def aOJ(h:p:=by unfold ho;rw[if_neg (by cases i<;>decide)]):p:=h
def aOK(h:p:=by simp_all[Instr.sliceAt,Instr.slice,run_underlying]):p:=h
def aOL(h:p:=by simp only[yL,d5]at hf;cases hf.1):p:=h
def aOM(h:p:=by rw[<- Nat.not_le,<- acy,BR];simp):p:=h
def aON(h:p:=by have:=hW.size;simp at this;omega):p:=h
def aOO(h:p:=by simp[results,Tryz.f425,Frame.at]):p:=h
def aOP(h:p:=by simp[results,Tryz.f373,Frame.at]):p:=h
def aOQ(h:p:=by simp[results,Tryz.f284,Frame.at]):p:=h
def aOR(h:p:=by rw[cm V]):p:=h
def aOS(h:p:=by rw[bq.length,Y.length];exact ct):p:=h
def aOT(h:p:=by
 obtain⟨i,Y,ac,_⟩:=oM h
 grind [Program.cellsOf]):p:=h
def aOU(h:p:=by exact .inr rfl):p:=h
def aOV(h:p:=by show((64*i:Nat):Int)+64=_;omega):p:=h
def aOW(h:p:=by simp[hg,Y]):p:=h
def aOX(h:p:=by cases h;exact⟨rfl,trivial⟩):p:=h
def aOY(h:p:=by simp[execOp,av]):p:=h
def aOZ(h:p:=by rw[a4];exact hm):p:=h
def aO0(h:p:=by exact⟨rfl,rfl,rfl⟩):p:=h
def aO1(h:p:=by exact absurd trivial h):p:=h
def aO2(h:p:=by rw[az,if_neg<|λaA=>ax<|(OB bK).1 aA i ao];rfl):p:=h
def aO3(h:p:=by exact(Int.ofNat_tdiv _ _).symm):p:=h
def aO4(h:p:=by exact(Int.ofNat_tmod _ _).symm):p:=h
def aO5(h:p:=by simp(disch:=omega) only[go_sem,ahx,agT,aC,eU,kB]):p:=h
def aO6(h:p:=by rw[g31 V];omega):p:=h
def aO7(h:p:=by have:=az.1.2.2.2.2.2.2.2;omega):p:=h
def aO8(h:p:=by obtain⟨a,Y,ac⟩:=h;exact⟨a,Y,ac.mono c6⟩):p:=h
def aO9(h:p:=by exact⟨0,0,1,(EP s).to (rZ _ 3) V V V,V,V,V⟩):p:=h
def aO_(h:p:=by
 by_cases az:r=oZ
 .rw[bS az,if_pos az];rfl
 rw[b1 az,if_neg az];by_cases ht:2147483647<=r.2.2.2.2.1
 .rw[if_pos ht];exact AI
 rw[if_neg ht];exact AI):p:=h
def aPa(h:p:=by simp only[bB,aQ,aI,gM];omega):p:=h
def aPb(h:p:=by
 have h:an (bO 1<|bB (aQ ([]:ai))<|aQ (x.1:ai)) (some<|aL.rt (σ:=bd) (bb ([]:ai) (x.1:ai),()))=some (.rt r):=aF_
 exact MN BY h):p:=h
def aPc(h:p:=by
 by_cases a?:d=0
 .subst a?
  exact aKQ
 by_cases vR:d=1
 .subst vR
  exact aKQ
 rw[b1 (p:=_/\_) (λh=>by have:=h.2.2.2.2.1;omega)];exact AI):p:=h
def aPd(h:p:=by
 by_cases aA:q.2.1=1
 .rw[if_pos aA]
  refine bA aw_ ?_;exact(bs lu).trans rfl
 rw[if_neg aA];refine a8 aw_ ?_;exact(bs xN).trans rfl):p:=h
def aPe(h:p:=by
 have Y:=US s.e.hub c b aC hs.e.feed;have ac:=ZT (fL s.e.hub c b).2.1;have bv:f9 s.e.hub<=4100:=am_
 omega):p:=h
def aPf(h:p:=by show(3:Int)<=8;omega):p:=h
def aPg(h:p:=by show w.1-1024<=9223372036854775807;omega):p:=h
def aPh(h:p:=by show(0:Int)<=4611686018427387905;decide):p:=h
def aPi(h:p:=by
 refine aW (a:=(false,())) rfl (a8 rfl<|a8 rfl<|aW (a:=(true,())) rfl<|bA rfl ?_)
 exact aK_):p:=h
def aPj(h:p:=by simp only[go_sem];simp only[gd];omega):p:=h
def aPk(h:p:=by cases bW):p:=h
def aPl(h:p:=by
 refine aW (a:=(true,())) rfl (bA rfl ?_)
 exact aK_):p:=h
def aPm(h:p:=by show n+1<=9223372036854775807;omega):p:=h
def aPn(h:p:=by rw[eO,nth_get ao]):p:=h
def aPo(h:p:=by show -9223372036854775808<=N+(List.length b:Int);omega):p:=h
def aPp(h:p:=by
 by_cases h:List.length k=32
 .rw[if_pos h];exact ax_
 rw[if_neg h];exact ax_):p:=h
def aPq(h:p:=by rw[dA];exact cx _):p:=h
def aPr(h:p:=by show(i:Int)<((fL s.e.hub c b).2.1.length:Int);omega):p:=h
def aPs(h:p:=by rw[a4];exact⟨rfl,rfl⟩):p:=h
def aPt(h:p:=by
 by_cases h:n<0\/999999<=n
 .rw[if_pos h];exact AI
 rw[if_neg h];exact AI):p:=h
def aPv(h:p:=by rw[show aK 4611686018427387904 n=true from cB V]):p:=h
def aPw(h:p:=by show a.2.2.2.1-1<=9223372036854775807;omega):p:=h
def aPx(h:p:=by rw[show aK 1024 (len b)=false from cm b2]):p:=h
def aPy(h:p:=by simpa using Y):p:=h
def aPz(h:p:=by rw[L9 a4];exact⟨hm,c8.refl _ _ _ _⟩):p:=h
def aPA(h:p:=by subst hf;exact AI):p:=h
def aPB(h:p:=by rw[g21];refine bS ?_;show(List.length w.a'+1)*80<=_;omega):p:=h
def aPC(h:p:=by show(i:Int)<(List.length iz:Int);omega):p:=h
def aPD(h:p:=by rw[Nr];omega):p:=h
def aPE(h:p:=by have:=h.d8 i;omega):p:=h
def aPF(h:p:=by rw[heap_alloc_old _ _ bK];exact aA):p:=h
def aPG(h:p:=by
 refine aW rfl (a8 rfl<|a8 rfl<|bA rfl ?_)
 exact aK_):p:=h
def aPH(h:p:=by show List.length B<=1000000;omega):p:=h
def aPI(h:p:=by simp at jD;omega):p:=h
def aPJ(h:p:=by
 refine(b3<|bj<|cB In).trans ?_
 rw[if_neg V];rfl):p:=h
def aPK(h:p:=by unfold fR;omega):p:=h
def aPL(h:p:=by rw[Pf,if_pos<|by simp[Region.wanted]];left;exact ajN (dG.pn m t k7) k7 fg aB ax aK6 jD a? jY ls):p:=h
def aPM(h:p:=by show N+(List.length b:Int)<=9223372036854775807;omega):p:=h
def aPN(h:p:=by rw[heap_alloc_old _ _ aK8];exact heap_alloc_new _ _):p:=h
def aPO(h:p:=by show -9223372036854775808<=a.2.2.1-1;omega):p:=h
def aPP(h:p:=by show(i:Int)<(List.length w.a':Int);omega):p:=h
def aPQ(h:p:=by rw[g21];refine bS ?_;show(List.length e+1)*32<=_;omega):p:=h
def aPR(h:p:=by rw[jz];exact Na _):p:=h
def aPS(h:p:=by have:=h.old;omega):p:=h
def aPT(h:p:=by rw[a4];exact⟨rfl,hl.symm⟩):p:=h
def aPU(h:p:=by simp only[go_sem,Int.reduceToNat];simp;omega):p:=h
def aPV(h:p:=by rw[eY _ _ fs];exact g9):p:=h
def aPW(h:p:=by show a.2.2.1-1<=9223372036854775807;omega):p:=h
def aPX(h:p:=by rw[heap_alloc_old _ _ aK8,heap_alloc_old _ _ ak]):p:=h
def aPY(h:p:=by exact⟨.inl ⟨rfl,ad,rfl⟩,λh=>by cases h⟩):p:=h
def aPZ(h:p:=by rw[show aK 4611686018427387904 n=false from cm V]):p:=h
end
end Yp
namespace Yp
def V{p:Prop}(h:p:=by omega):p:=h
def bP{p:Prop}(h:p:=by simp):p:=h
def di{p:Prop}(h:p:=by decide):p:=h
def e8{p:Prop}(h:p:=by simp;omega):p:=h
end Yp
namespace Yp
open Go
def sN:=@List.cons_append
def i64(n:O):O:=IntKind.i64.wrap n
def Jw(n:O):O:=IntKind.i32.wrap n
def aiQ(n:O):O:=IntKind.i16.wrap n
def aiR(n:O):O:=IntKind.i8.wrap n
def u8(n:O):aN:=UInt8.ofInt n
def u16(n:O):UInt16:=UInt16.ofInt n
def u32(n:O):b_:=UInt32.ofInt n
def u64(n:O):UInt64:=UInt64.ofInt n
def aV(x:aN):O:=(x.toNat:O)
def J4(x:UInt16):O:=(x.toNat:O)
def aY(x:b_):O:=(x.toNat:O)
def cC(x:UInt64):O:=(x.toNat:O)
def ah(n:O):R:=n.toNat
def bc(n:R):O:=(n:O)
def aG(a b:O):O:=a+b
def bw(a b:O):O:=a-b
def dI(a b:O):O:=a*b
def de(a b:O):O:=Int.tdiv a b
def cY(a b:O):O:=Int.tmod a b
def bB(a b:R):R:=a+b
def cy(a b:R):R:=a-b
def k_(a b:R):aE:=hv a b
def bU(a b:R):aE:=cT a b
def a2(a:aE):aE:=!a
def df(a b:aE):aE:=a&&b
def iP(a b:aE):aE:=a||b
def p7(a b:aE):aE:=a==b
def aK(a b:O):aE:=decide (a<b)
def bL(a b:O):aE:=decide (a<=b)
def am(a b:O):aE:=a==b
def seq(a b:ab aN):aE:=a==b
def aI(α:Type):ab α:=[]
def aQ{α:Type}(l:ab α):R:=T l
def bO(c n:R):aE:=decide (n*c<=140737488355328)
def aO(i:O)(n:O):aE:=decide (0<=i)&&decide (i<n)
def cq(lo ao n:O):aE:=decide (0<=lo)&&decide (lo<=ao)&&decide (ao<=n)
def hE(a b:O):O:=if b<a then b else a
def dk(a b:O):O:=if b > a then b else a
def hz(k:gL)(x y:O):O:=((jv k.bits x&&&jv k.bits y).toNat:O)
def hG(k:gL)(x y:O):O:=((jv k.bits x|||BitVec.ofInt k.bits y).toNat:O)
def em(k:gL)(x y:O):O:=((jv k.bits x^^^jv k.bits y).toNat:O)
def J8(k:gL)(x y:O):O:=((jv k.bits x &&& ~~~(jv k.bits y)).toNat:O)
def h0(k:gL)(x y:O):O:=x*2^(Nat.min y.toNat k.bits)
def e4(k:gL)(x y:O):O:=Int.fdiv x<|2^(Nat.min y.toNat k.bits)
def iZ(s:ab aN)(i:R):R×R:=Utf8.decode ⟨s.toArray⟩ i
def y2(a b:ab aN):aE:=Op.bytesLess a b
def sub{α:Type}(l:ab α)(lo ao:O):ab α:=(l.drop lo.toNat).take<|ao.toNat-lo.toNat
def p2{α:Type}(f:α->α->aE)(a b:ab α):aE:=(a.zip b).all λp=>f p.1 p.2
def bb{α:Type}(l m:ab α):ab α:=l++m
def ap{α:Type}(l:ab α)(i:R)(d:α):α:=l.getD i d
def cA{α:Type}(l:ab α)(i:R)(x:α):ab α:=l.set i x
def cb{α:Type}(n:R)(x:α):ab α:=eC n x
def cut{α:Type}(l:ab α)(off n:R):ab α:=(l.drop off).take n
def len{α:Type}(l:ab α):O:=(T l:O)
def aa{α:Type}(c:aE)(a b:α):α:=bif c then a else b
def an{α:Type}(c:aE)(a:au α):au α:=bif c then a else aq
def ob{α β:Type}(o:au α)(k:α->au β):au β:=match o with|some a=>k a|none=>aq
def cj:gL->Type
 |.u8=>aN|.u16=>UInt16|.u32=>b_|.u64=>UInt64
 |.i8=>O|.i16=>O|.i32=>O|.i64=>O
def cj.of:(k:gL)->O->cj k
 |.u8,n=>u8 n|.u16,n=>u16 n|.u32,n=>u32 n|.u64,n=>u64 n
 |.i8,n=>aiR n|.i16,n=>aiQ n|.i32,n=>Jw n|.i64,n=>i64 n
def cj.lit:(k:gL)->O->cj k
 |.u8,n=>u8 n|.u16,n=>u16 n|.u32,n=>u32 n|.u64,n=>u64 n
 |.i8,n=>n|.i16,n=>n|.i32,n=>n|.i64,n=>n
def cj.to:(k:gL)->cj k->O
 |.u8,x=>aV x|.u16,x=>J4 x|.u32,x=>aY x|.u64,x=>cC x
 |.i8,x=>x|.i16,x=>x|.i32,x=>x|.i64,x=>x
def cj.zero:(k:gL)->cj k
 |.u8=>u8 0|.u16=>u16 0|.u32=>u32 0|.u64=>u64 0
 |.i8=>(0:O)|.i16=>(0:O)|.i32=>(0:O)|.i64=>(0:O)
inductive aw where
 |bool|int (k:gL)|str|sl (e:aw)|unit|pair (a b:aw)|ar (n:R) (e:aw)
 |op (k:R)
 |fn (l:ab R)
 deriving Inhabited
def aw.a_:aw->Type
 |.bool=>aE
 |.int k=>cj k
 |.str=>ab aN
 |.sl e=>ab e.a_
 |.unit=>aj
 |.pair a b=>a.a_×b.a_
 |.ar _ e=>ab e.a_
 |.op _=>aj
 |.fn _=>R
def aw.zero:(t:aw)->t.a_
 |.bool=>ag
 |.int k=>cj.zero k
 |.str=>([]:ab aN)
 |.sl e=>([]:ab e.a_)
 |.unit=>()
 |.pair a b=>(a.zero,b.zero)
 |.ar n e=>eC n e.zero
 |.op _=>()
 |.fn _=>(0:R)
instance (t:aw):Inhabited t.a_:=⟨t.zero⟩
def aw.size:aw->R
 |.bool=>1|.int _=>1|.str=>1|.sl _=>1|.unit=>0
 |.pair a b=>a.size+b.size
 |.ar n e=>n*e.size
 |.op _=>1|.fn _=>1
def aw.bytes:aw->R
 |.bool=>1|.int .u8=>1|t=>24*t.size+8
def aw.isAgg:aw->aE
 |.unit=>af|.pair _ _=>af|.ar _ _=>af|_=>ag
def aw.nz:aw->aE
 |.sl _=>ag|.pair a b=>a.nz&&b.nz|.ar _ e=>e.nz|_=>af
def aw.same:(a b:aw)->au (PLift<|a=b)
 |.bool,.bool=>J ⟨rfl⟩
 |.str,.str=>J ⟨rfl⟩
 |.unit,.unit=>J ⟨rfl⟩
 |.int k,.int k'=>if h:k=k' then J ⟨h▸rfl⟩ else aq
 |.sl a,.sl b=>match aw.same a b with|some ⟨h⟩=>J ⟨h▸rfl⟩|none=>aq
 |.pair a b,.pair c d=>match aw.same a c,aw.same b d with|some ⟨h⟩,J ⟨ce⟩=>J ⟨h▸ce▸rfl⟩|_,_=>aq
 |.ar n a,.ar m b=>if h:n=m then(match aw.same a b with|some ⟨ce⟩=>J ⟨h▸ce▸rfl⟩|none=>aq) else aq
 |.op k,.op k'=>if h:k=k' then J ⟨h▸rfl⟩ else aq
 |.fn k,.fn k'=>if h:k=k' then J ⟨h▸rfl⟩ else aq
 |_,_=>aq
def aw.is(a b:aw):aE:=(aw.same a b).isSome
def aw.cast(a b:aw)(x:a.a_):au b.a_:=match aw.same a b with|some ⟨h⟩=>J (h▸x)|none=>aq
def aw.l?(a b:aw)(x:ab a.a_):au<|List b.a_:=match aw.same a b with|some ⟨h⟩=>J (h▸x)|none=>aq
def aw.pr:(t:aw)->t.a_->t.a_->aE
 |.bool,a,b=>p7 a b
 |.int k,a,b=>am (cj.to k a)<|cj.to k b
 |.str,a,b=>seq a b
 |.sl _,_,_=>ag
 |.unit,_,_=>af
 |.pair s t,a,b=>df (s.pr a.1 b.1)<|t.pr a.2 b.2
 |.ar _ e,a,b=>p2 (λp q=>e.pr p q) (a:ab e.a_) (b:ab e.a_)
 |.op _,_,_=>ag
 |.fn _,_,_=>ag
def nW:R->aw
 |0=>.unit|n+1=>.pair (.op 3)<|nW n
inductive e6 where
 |im (t:aw)
 |ow (e:aw)
 |cl (e:aw)
 deriving Inhabited
def e6.a_:e6->Type
 |.im t=>t.a_|.ow e=>ab e.a_|.cl e=>ab e.a_
def i_:ab aw->Type
 |[]=>aj|t::ts=>t.a_×i_ ts
def e0:ab e6->Type
 |[]=>aj|t::ts=>t.a_×e0 ts
def e6.zero:(t:e6)->t.a_
 |.im t=>t.zero|.ow e=>([]:ab e.a_)|.cl e=>([]:ab e.a_)
def AW:(l:ab e6)->e0 l
 |[]=>()|t::ts=>(t.zero,AW ts)
instance (l:ab e6):Inhabited<|e0 l:=⟨AW l⟩
def e6.nz:e6->aE
 |.im t=>t.nz|_=>ag
structure fV where
 args:ab aw
 res:ab e6
 fn:i_ args->au (e0 res)
structure jM where
 ty:aw
 args:ab aw
 res:ab e6
 fn:ty.a_×i_ args->au (ty.a_×e0 res)
structure pf where
 ty:aw
 args:ab aw
 rt:aw
 ks:ab R
 fn:ty.a_×i_ args->au (ty.a_×R×e0 [.im rt])
def Fo:ab (R×pf)->R->au pf
 |[],_=>aq
 |(i,t)::r,j=>bif cT i j then J t else Fo r j
def zT:ab (R×jM)->R->au jM
 |[],_=>aq
 |(i,t)::r,j=>bif cT i j then J t else zT r j
def Fp:ab (R×aw)->R->au aw
 |[],_=>aq
 |(i,t)::r,j=>bif cT i j then J t else Fp r j
def v7:ab (R×fV)->R->au fV
 |[],_=>aq
 |(i,t)::r,j=>bif cT i j then J t else v7 r j
inductive n1 where
 |fst|snd|ix (i:R)
inductive jw where
 |ptr (id:R) (p:ab n1)
 |jA (t:aw) (x:t.a_)
inductive aP where
 |bad|undef
 |kb (b:aE)
 |nq (c:aE)
 |sc (t:aw) (x:t.a_)
 |nil
 |own (id:R) (fm:aE)
 |osl (id off len:R)
 |csl (e:aw) (l:ab e.a_)
 |ptr (id:R) (p:ab n1)
 |opt (id i:R) (p:ab n1)
 |ipt (e:aw) (l:ab e.a_) (i:R) (p:ab n1)
 |itp (id:R)
 |two (a b:aP)
 |agg (t:aw) (a:aP)
 |tup (a:aP)
 |clo (f eG:R) (dy:ab jw)
 |ifc (tid:R) (t:aw) (x:t.a_)
 |mpp (id:R)
 |psl (id n:R)
 deriving Inhabited
inductive bm where
 |new
 |ga
 |box (t:aw) (v:aP)
 |ob (e:aw) (l:ab e.a_)
 |fz (e:aw) (l:ab e.a_)
 |it (s:ab aN) (jI:R)
 |mp (kt vt:aw) (l:ab<|kt.a_×aP)
 deriving Inhabited
inductive ey where
 |e
 |n (v:aP) (l r:ey)
 deriving Inhabited
def ey.m5:R->ey->R->aP
 |0,_,_=>.bad
 |_+1,.e,_=>.bad
 |f+1,.n v l r,i=>bif cT i 0 then v else bif cT (i%2) 1 then l.m5 f (i/2) else r.m5 f<|i/2-1
def ey.set:R->ey->R->aP->ey
 |0,t,_,_=>t
 |f+1,.e,i,u=>bif cT i 0 then .n u .e .e else bif cT (i%2) 1 then .n .bad (ey.set f .e (i/2) u) .e else .n .bad .e<|ey.set f .e (i/2-1) u
 |f+1,.n v l r,i,u=>bif cT i 0 then .n u l r else bif cT (i%2) 1 then .n v (l.set f (i/2) u) r else .n v l<|r.set f (i/2-1) u
structure bd where
 t:ey
 h:ab (R×bm)
 w:ab R
 deriving Inhabited
def bd.cw(s:bd)(i:R):aP:=s.t.m5 40 i
def se:ab (R×bm)->R->bm
 |[],_=>.new
 |(i,b)::r,j=>bif cT i j then b else se r j
def bd.bz(s:bd)(id:R):bm:=se s.h id
def bd.mJ(s:bd)(i:R)(v:aP):bd:={ s with t:=s.t.set 40 i v }
def CG:ab (R×bm)->R->bm->ab (R×bm)
 |[],j,b=>[(j,b)]
 |(i,c)::r,j,b=>bif cT i j then(j,b)::r else(i,c)::CG r j b
def bd.o3(s:bd)(id:R)(b:bm):bd:={ s with h:=CG s.h id b,w:=id::s.w }
def bd.fc(s:bd):ab (R×bm)->bd
 |[]=>s
 |(i,b)::r=>(s.fc r).o3 i b
def Ij{β:Type 1}:ab jw->(ab jw->β)->β
 |[],k=>k []
 |.ptr id p::r,k=>Ij r λr=>k<|.ptr id p::r
 |.jA t x::r,k=>Ij r λr=>k<|.jA t x::r
def avU{β:Type 1}(l:ab jw)(k:ab jw->β):Ij l k=k l:=by
 induction l generalizing k with
 |nil=>rfl
 |cons c r ih=>cases c<;>simp only[Ij,ih]
def n7{β:Type 1}:aP->(aP->β)->β
 |.bad,k=>k .bad
 |.undef,k=>k .undef
 |.kb af,k=>k<|.kb af
 |.kb ag,k=>k<|.kb ag
 |.nq c,k=>k<|.nq c
 |.sc t x,k=>k<|.sc t x
 |.nil,k=>k .nil
 |.own id fm,k=>k<|.own id fm
 |.osl id off n,k=>k<|.osl id off n
 |.csl e l,k=>k<|.csl e l
 |.ptr id p,k=>k<|.ptr id p
 |.opt id i p,k=>k<|.opt id i p
 |.ipt e l i p,k=>k<|.ipt e l i p
 |.itp id,k=>k<|.itp id
 |.two a b,k=>n7 a λa=>n7 b λb=>k<|.two a b
 |.agg t a,k=>n7 a λa=>k<|.agg t a
 |.tup a,k=>n7 a λa=>k<|.tup a
 |.clo f eG dy,k=>Ij dy λdy=>k<|.clo f eG dy
 |.ifc i t x,k=>k<|.ifc i t x
 |.mpp id,k=>k<|.mpp id
 |.psl id n,k=>k<|.psl id n
def zf{β:Type 1}(v:aP)(k:aP->β):n7 v k=k v:=by
 induction v generalizing k with
 |kb b=>cases b<;>rfl
 |two a b b6 ak=>simp only[n7,b6,ak]
 |agg t a b6=>simp only[n7,b6]
 |tup a b6=>simp only[n7,b6]
 |clo f eG dy=>simp only[n7,avU]
 |_=>rfl
def Ot{α:Type}{β:Type 1}:ab (α×aP)->(ab (α×aP)->β)->β
 |[],k=>k []
 |(a,v)::r,k=>n7 v λv=>Ot r λr=>k<|(a,v)::r
def avW{β:Type 1}(l:ab<|α×aP)(k:ab (α×aP)->β):Ot l k=k l:=by
 induction l generalizing k with
 |nil=>rfl
 |cons c r ih=>simp only[Ot,zf,ih]
def Wp{β:Type 1}:bm->(bm->β)->β
 |.new,k=>k .new
 |.ga,k=>k .ga
 |.box t v,k=>n7 v λv=>k<|.box t v
 |.ob e l,k=>k<|.ob e l
 |.fz e l,k=>k<|.fz e l
 |.it s p,k=>k<|.it s p
 |.mp kt vt l,k=>Ot l λl=>k<|.mp kt vt l
def avT{β:Type 1}(v:bm)(k:bm->β):Wp v k=k v:=by cases v<;>simp only[Wp,zf,avW]
def wE{β:Type 1}:R->ey->R->aP->(ey->β)->β
 |0,t,_,_,k=>k t
 |f+1,.e,i,u,k=>bif cT i 0 then k (.n u .e .e) else bif cT (i%2) 1 then wE f .e (i/2) u λl=>k (.n .bad l .e) else wE f .e (i/2-1) u λr=>k<|.n .bad .e r
 |f+1,.n v l r,i,u,k=>bif cT i 0 then k (.n u l r) else bif cT (i%2) 1 then wE f l (i/2) u λl=>k (.n v l r) else wE f r (i/2-1) u λr=>k<|.n v l r
def aaZ{β:Type 1}(f:R)(t:ey)(i:R)(u:aP)(k:ey->β):wE f t i u k=k (t.set f i u):=by
 induction f generalizing t i k with
 |zero=>rfl
 |succ f ih=>
  cases t with
  |e=>exact aM6
  |n v l r=>exact aM6
def Qp{β:Type 1}:ab (R×bm)->R->bm->(ab (R×bm)->β)->β
 |[],j,b,k=>k [(j,b)]
 |(i,c)::r,j,b,k=>bif cT i j then k ((j,b)::r) else Qp r j b λr=>k<|(i,c)::r
def aDn{β:Type 1}(l:ab<|Nat×bm)(i:R)(v:bm)(k:ab (R×bm)->β):Qp l i v k=k (CG l i v):=by
 induction l generalizing k with
 |nil=>rfl
 |cons x r ih=>cases h:cT x.1 i<;>simp only[Qp,CG,ih,h,cond]
def bd.Db{β:Type 1}(s:bd)(i:R)(v:aP)(k:bd->β):β:=
 match s with|⟨t,h,w⟩=>n7 v λv=>wE 40 t i v λt=>k ⟨t,h,w⟩
theorem bd.Ly{β:Type 1}(s:bd)(i:R)(v:aP)(k:bd->β):s.Db i v k=k (s.mJ i v):=by simp_all[bd.Db,zf,aaZ,bd.mJ]
def bd.Da{β:Type 1}(s:bd)(id:R)(b:bm)(k:bd->β):β:=
 match s with|⟨t,h,w⟩=>Wp b λb=>Qp h id b λh=>k ⟨t,h,id::w⟩
def bd.Lw{β:Type 1}(s:bd)(i:R)(v:bm)(k:bd->β):s.Da i v k=k (s.o3 i v):=by simp_all[bd.Da,avT,aDn,bd.o3]
def bd.yr{β:Type 1}(s:bd):ab (R×bm)->(bd->β)->β
 |[],k=>k s
 |(i,b)::r,k=>s.yr r λs=>s.Da i b k
def bd.Lx{β:Type 1}(s:bd)(l:ab<|Nat×bm)(k:bd->β):s.yr l k=k (s.fc l):=by
 induction l generalizing k with
 |nil=>rfl
 |cons x r ih=>simp only[bd.yr,bd.Lw,ih,bd.fc]
inductive aL (σ ρ:Type) where
 |nx (x:σ)|ex (k:R) (x:σ)|rt (r:ρ)
 deriving Inhabited
def b?{σ ρ β:Type}(o:au<|aL σ ρ)(kn:σ->au β)(ij:R->σ->au β)(iD:ρ->au β):au β:=
 match o with
 |some (.nx a)=>kn a|some (.ex i a)=>ij i a|some (.rt r)=>iD r|none=>aq
inductive bi (β:Type):Type 1 where
 |fail
 |leaf (a:β)
 |br (c:aE) (x y:bi β)
 |chk (c:aE) (x:bi β)
 |bo {α:Type} (d:α) (o:au α) (k:α->bi β)
 |cs {σ ρ:Type} (d:σ) (e:ρ) (o:au<|aL σ ρ) (kn:σ->bi β) (ij:R->σ->bi β) (iD:ρ->bi β)
def bi.bind{α β:Type}:bi α->(α->bi β)->bi β
 |.fail,_=>.fail
 |.leaf a,f=>f a
 |.br c x y,f=>.br c (x.bind f)<|y.bind f
 |.chk c x,f=>.chk c<|x.bind f
 |.bo d o k,f=>.bo d o λa=>(k a).bind f
 |.cs d e o kn ij iD,f=>.cs d e o (λa=>(kn a).bind f) (λk a=>(ij k a).bind f)<|λa=>(iD a).bind f
def bi.cf{α:Type}:bi α->au α
 |.fail=>aq
 |.leaf a=>J a
 |.br c x y=>aa c x.cf y.cf
 |.chk c x=>an c x.cf
 |.bo _ o k=>ob o λa=>(k a).cf
 |.cs _ _ o kn ij iD=>b? o (λa=>(kn a).cf) (λi a=>(ij i a).cf)<|λr=>(iD r).cf
def bi.pE{α:Type}:bi α->ab α
 |.fail=>[]
 |.leaf a=>[a]
 |.br _ x y=>x.pE++y.pE
 |.chk _ x=>x.pE
 |.bo d _ k=>(k d).pE
 |.cs d e _ kn ij iD=>(kn d).pE++(ij 0 d).pE++(iD e).pE
def D5{α:Type}{β:Type 1}:ab α->ab α->(ab α->β)->β
 |[],m,k=>k m
 |a::r,m,k=>D5 r m λr=>k<|a::r
def ac1{β:Type 1}(l m:ab α)(k:ab α->β):D5 l m k=k (l++m):=by
 induction l generalizing k with
 |nil=>rfl
 |cons a r ih=>simp only[D5,ih,sN]
def bi.q9{α:Type}{β:Type 1}:bi α->(ab α->β)->β
 |.fail,k=>k []
 |.leaf a,k=>k [a]
 |.br _ x y,k=>x.q9 λl=>y.q9 λm=>D5 l m k
 |.chk _ x,k=>x.q9 k
 |.bo d _ f,k=>(f d).q9 k
 |.cs d e _ kn ij iD,k=>(kn d).q9 λl=>(ij 0 d).q9 λm=>(iD e).q9 λn=>D5 l m λl=>D5 l n k
def bi.ajq{β:Type 1}(t:bi α)(k:ab α->β):t.q9 k=k t.pE:=by
 induction t generalizing k with
 |fail=>rfl
 |leaf a=>rfl
 |br c x y hx bW=>simp only[bi.q9,hx,bW,ac1,bi.pE]
 |chk c x hx=>simp only[bi.q9,hx,bi.pE]
 |bo d o f hf=>simp only[bi.q9,hf,bi.pE]
 |cs d e o kn ij iD ax aX az=>simp only[bi.q9,ax,aX,az,ac1,bi.pE]
def ke:ab b_:=[u32 1116352408,u32 1899447441,u32 3049323471,u32 3921009573,u32 961987163,u32 1508970993,u32 2453635748,u32 2870763221,u32 3624381080,u32 310598401,u32 607225278,u32 1426881987,u32 1925078388,u32 2162078206,u32 2614888103,u32 3248222580,u32 3835390401,u32 4022224774,u32 264347078,u32 604807628,u32 770255983,u32 1249150122,u32 1555081692,u32 1996064986,u32 2554220882,u32 2821834349,u32 2952996808,u32 3210313671,u32 3336571891,u32 3584528711,u32 113926993,u32 338241895,u32 666307205,u32 773529912,u32 1294757372,u32 1396182291,u32 1695183700,u32 1986661051,u32 2177026350,u32 2456956037,u32 2730485921,u32 2820302411,u32 3259730800,u32 3345764771,u32 3516065817,u32 3600352804,u32 4094571909,u32 275423344,u32 430227734,u32 506948616,u32 659060556,u32 883997877,u32 958139571,u32 1322822218,u32 1537002063,u32 1747873779,u32 1955562222,u32 2024104815,u32 2227730452,u32 2361852424,u32 2428436474,u32 2756734187,u32 3204031479,u32 3329325298]
def g3:Type 1:=R->ab aP->bd->bi (aP×bd)
structure dO where
 cp:R->au aw
 G:R->au fV
 I:R->au g3:=λ_=>aq
 /-- maps' types -/
 M:R->au (aw×aw):=λ_=>aq
 /-- types whose values may be compared -/
 C:R->aE:=λ_=>ag
 /-- the program's variable -/
 K:au R:=aq
 b:R:=0
 /-- functions that change a variable of their auA -/
 X:R->au jM:=λ_=>aq
 /-- are loops unrolled,and tests decided? -/
 U:aE:=ag
 /-- the function that axJ up what goes aH7,and the type of what it axJ up -/
 Pn:au<|Nat×R:=aq
 /-- functions that change a variable of their auA,and may hand up what goes aH7 -/
 Q:R->au pf:=λ_=>aq
 /-- are aJU of own slices appended to in place? -/
 A:aE:=ag
def v8:ab (R×g3)->R->au g3
 |[],_=>aq
 |(i,t)::r,j=>bif cT i j then J t else v8 r j
def JU:ab (R×aw×aw)->R->au (aw×aw)
 |[],_=>aq
 |(i,t)::r,j=>bif cT i j then J t else JU r j
def JT:ab R->R->aE
 |[],_=>ag
 |i::r,j=>bif cT i j then af else JT r j
inductive aR (α:Type):Type 1 where
 |fail
 |ret (a:α)
 |chk (c:aE) (k:aR α)
 |br (c:aE) (x y:aR α)
 |bo {β:Type} (d:β) (o:au β) (k:β->aR α)
 |rt (i:R) (k:aP->aR α)
 |rb (id:R) (k:bm->aR α)
 |fk (id:R) (b:bm) (k:aR α)
def aR.bind{α β:Type}:aR α->(α->aR β)->aR β
 |.fail,_=>.fail
 |.ret a,f=>f a
 |.chk c k,f=>.chk c<|k.bind f
 |.br c x y,f=>.br c (x.bind f)<|y.bind f
 |.bo d o k,f=>.bo d o λa=>(k a).bind f
 |.rt i k,f=>.rt i λv=>(k v).bind f
 |.rb i k,f=>.rb i λv=>(k v).bind f
 |.fk i b k,f=>.fk i b<|k.bind f
instance:Monad aR where
 pure:=.ret
 bind:=.bind
structure TB where
 rt:R
 rb:ab R
 wr:ab<|Nat×bm
def oX:ab (R×bm)->R->bm->bm
 |[],_,d=>d
 |(i,b)::r,j,d=>bif cT i j then b else oX r j d
def aR.run{α:Type}(s:bd):aR α->R->ab R->ab (R×bm)->bi (α×TB)
 |.fail,_,_,_=>.fail
 |.ret a,gj,gb,wr=>.leaf (a,⟨gj,gb,wr⟩)
 |.chk c k,gj,gb,wr=>.chk c<|k.run s gj gb wr
 |.br c x y,gj,gb,wr=>.br c (x.run s gj gb wr)<|y.run s gj gb wr
 |.bo d o k,gj,gb,wr=>.bo d o λa=>(k a).run s gj gb wr
 |.rt i k,gj,gb,wr=>(k<|s.cw i).run s (gj|||2^i) gb wr
 |.rb i k,gj,gb,wr=>(k<|oX wr i<|s.bz i).run s gj (i::gb) wr
 |.fk i b k,gj,gb,wr=>k.run s gj gb<|(i,b)::wr
def aR.opt{α:Type}:au α->aR α
 |some a=>.ret a|none=>.fail
def aR.need(b:aE):aR aj:=bif b then .ret () else .fail
def aw.at:aw->ab n1->au aw
 |t,[]=>J t
 |.pair a _,.fst::p=>a.at p
 |.pair _ b,.snd::p=>b.at p
 |.ar _ e,.ix _::p=>e.at p
 |_,_=>aq
def jU:aP->ab n1->au aP
 |v,[]=>J v
 |.two a _,.fst::p=>jU a p
 |.two _ b,.snd::p=>jU b p
 |.sc (.pair s _) x,.fst::p=>jU (.sc s x.1) p
 |.sc (.pair _ t) x,.snd::p=>jU (.sc t x.2) p
 |.sc (.ar _ e) l,.ix i::p=>jU (.sc e<|ap (l:ab e.a_) i e.zero) p
 |_,_=>aq
def g5:R->ab n1
 |0=>[.fst]|n+1=>.snd::g5 n
def ajc(b:aE):(t:aw)->au t.a_
 |.bool=>J b
 |_=>aq
def Zf:(t:aw)->au t.a_
 |.sl e=>J ([]:ab e.a_)
 |_=>aq
def afG(b9:aw)(l:ab b9.a_):(t:aw)->au t.a_
 |.sl e=>aw.l? b9 e l
 |_=>aq
def aov{α β:Type}:au α->au β->au (α×β)
 |some x,J y=>J (x,y)
 |_,_=>aq
def aHx(f g:(t:aw)->au t.a_):(t:aw)->au t.a_
 |.pair a b=>aov (f a)<|g b
 |_=>aq
def ap0(t':aw)(f:(t:aw)->au t.a_)(t:aw):au t.a_:=bif aw.is t' t then f t else aq
def Jx(f:R):ab R->R->au R
 |[],_=>aq
 |a::r,n=>bif cT a f then J n else Jx f r<|n+1
def VS(f:R)(dy:ab jw):(t:aw)->au t.a_
 |.fn l=>match dy with|[]=>Jx f l 1|_=>aq
 |_=>aq
def u6:aP->(t:aw)->au t.a_
 |.sc t' x=>λt=>aw.cast t' t x
 |.kb b=>ajc b
 |.nil=>Zf
 |.csl b9 l=>afG b9 l
 |.two u v=>aHx (u6 u)<|u6 v
 |.agg t' u=>ap0 t'<|u6 u
 |.bad=>λ_=>aq
 |.undef=>λ_=>aq
 |.nq _=>λ_=>aq
 |.own _ _=>λ_=>aq
 |.osl _ _ _=>λ_=>aq
 |.ptr _ _=>λ_=>aq
 |.opt _ _ _=>λ_=>aq
 |.ipt _ _ _ _=>λ_=>aq
 |.itp _=>λ_=>aq
 |.tup _=>λ_=>aq
 |.clo f _ dy=>VS f dy
 |.ifc _ _ _=>λ_=>aq
 |.mpp _=>λ_=>aq
 |.psl _ _=>λ_=>aq
def ju(t:aw)(v:aP):au t.a_:=u6 v t
def nT:aP->ab n1->aP->au aP
 |_,[],u=>J u
 |.two a b,.fst::p,u=>(nT a p u).map (aP.two · b)
 |.two a b,.snd::p,u=>(nT b p u).map (aP.two a ·)
 |.sc (.pair s t) x,.fst::p,u=>(nT (.sc s x.1) p u).map (aP.two · (.sc t x.2))
 |.sc (.pair s t) x,.snd::p,u=>(nT (.sc t x.2) p u).map (aP.two (.sc s x.1) ·)
 |.sc (.ar n e) l,.ix i::p,u=>match nT (.sc e<|ap (l:ab e.a_) i e.zero) p u with
  |some v=>(ju e v).map λy=>.sc (.ar n e)<|cA (l:ab e.a_) i y
  |none=>aq
 |_,_,_=>aq
def oB:aw->aP
 |.sl _=>.nil
 |.pair a b=>.two (oB a)<|oB b
 |t=>.sc t t.zero
def uU(fy:aE)(id:R)(e:aw):aR<|List e.a_:=.rb id λb=>match b with
 |.ob b9 l=>(aR.opt<|aw.l? b9 e l).bind λx=>bif fy then .fk id (.fz b9 l) (.ret x) else .ret x
 |.fz b9 l=>aR.opt<|aw.l? b9 e l
 |_=>.fail
def C4(fy:aE)(id:R)(e:aw):aR<|List e.a_:=.rb id λb=>match b with
 |.ob b9 l=>(aR.opt<|aw.l? b9 e l).bind λx=>bif fy then .fk id (.fz b9 l) (.ret x) else .ret x
 |.fz b9 l=>aR.opt<|aw.l? b9 e l
 | .box t v=>(match t with
  |.ar n b9=>(aR.opt<|ju (.ar n b9) v).bind λl=>(aR.opt<|aw.l? b9 e l).bind λx=>bif hv 0 b9.size then(bif fy then .fk id (.fz b9 l) (.ret x) else .ret x) else .fail
  |_=>.fail)
 |_=>.fail
def akL(fy:aE)(id:R):(t:aw)->aR t.a_
 |.sl e=>uU fy id e
 |_=>.fail
def akC(fy:aE)(id off n:R):(t:aw)->aR t.a_
 |.sl e=>(C4 fy id e).bind λx=>.ret<|cut x off n
 |_=>.fail
def aHy(f g:(t:aw)->aR t.a_):(t:aw)->aR t.a_
 |.pair a b=>(f a).bind λx=>(g b).bind λy=>.ret (x,y)
 |_=>.fail
def ap1(t':aw)(f:(t:aw)->aR t.a_)(t:aw):aR t.a_:=bif aw.is t' t then f t else .fail
def AC(fy:aE):aP->(t:aw)->aR t.a_
 |.own id _=>akL fy id
 |.osl id off n=>akC fy id off n
 |.two u v=>aHy (AC fy u)<|AC fy v
 |.agg t' u=>ap1 t'<|AC fy u
 |.sc t' x=>λt=>aR.opt<|aw.cast t' t x
 |.kb b=>λt=>aR.opt<|ajc b t
 |.nil=>λt=>aR.opt<|Zf t
 |.csl e l=>λt=>aR.opt<|afG e l t
 |.bad=>λ_=>.fail
 |.undef=>λ_=>.fail
 |.nq _=>λ_=>.fail
 |.ptr _ _=>λ_=>.fail
 |.opt _ _ _=>λ_=>.fail
 |.ipt _ _ _ _=>λ_=>.fail
 |.itp _=>λ_=>.fail
 |.tup _=>λ_=>.fail
 |.clo f _ dy=>λt=>aR.opt<|VS f dy t
 |.ifc _ _ _=>λ_=>.fail
 |.mpp _=>λ_=>.fail
 |.psl _ _=>λ_=>.fail
def nl(fy:aE)(t:aw)(v:aP):aR t.a_:=AC fy v t
def Cq:aP->aE
 |.osl _ _ _=>ag
 |.two u v=>Cq u&&Cq v
 |.agg _ u=>Cq u
 |_=>af
def akH(t:aw)(v:aP):aR t.a_:=bif Cq v then nl af t v else .fail
def rC(t:aw):aP->aP
 |.two a b=>.agg t<|.two a b
 |v=>v
def AA:aP->aP
 |.agg _ a=>a
 |.kb b=>.sc .bool b
 |v=>v
def ai3:aw->aE
 |.fn _=>af|.op k=>cT k 0|_=>ag
def uf(t:aw):aP->aR aj
 |.sc t' _=>aR.need<|aw.is t' t
 |.kb _=>aR.need<|aw.is t .bool
 |.agg t' _=>aR.need<|aw.is t' t
 |.nil=>match t with|.sl _=>.ret ()|_=>.fail
 |.csl e _=>aR.need<|aw.is (.sl e) t
 |.own id _=>.rb id fun|.ob e _=>aR.need (aw.is (.sl e) t)|.fz e _=>aR.need (aw.is (.sl e) t)|_=>.fail
 |.osl id _ _=>.rb id fun|.ob e _=>aR.need (aw.is (.sl e) t)|.fz e _=>aR.need (aw.is (.sl e) t)|.box t' _=>(match t' with|.ar _ e=>aR.need (aw.is (.sl e) t)|_=>.fail)|_=>.fail
 |.clo _ _ _=>aR.need<|ai3 t
 |.ifc _ _ _=>aR.need<|aw.is t (.op 1)
 |.mpp id=>.rb id fun|.mp _ _ _=>aR.need (aw.is t<|.op 2)|_=>.fail
 |.ptr id _=>.rb id fun|.box _ _=>aR.need (aw.is t<|.op 3)|_=>.fail
 |_=>.fail
def iq(e:aw)(n:R):aE:=bO e.bytes n
def int(n:O):aP:=.sc (.int .i64) n
def JS:gL->O->aE
 |.u8,.ofNat m=>hv m 256|.u16,.ofNat m=>hv m 65536|.u32,.ofNat m=>hv m 4294967296|.u64,.ofNat m=>hv m 18446744073709551616
 |.i8,_=>af|.i16,_=>af|.i32,_=>af|.i64,_=>af
 |_,_=>ag
def VY:aS->aR aP
 |.bool b=>.ret<|.kb b
 |.int k n=>bif JS k n then .ret (.sc (.int k)<|cj.lit k n) else .fail
 |.string s=>.ret<|.sc .str s.data.toList
 |.slice aq 0 0=>.ret .nil
 |.nilFunc=>.ret<|.sc (.op 0) ()
 |.nilIface=>.ret<|.sc (.op 1) ()
 |.map aq=>.ret<|.sc (.op 2) ()
 |.pointer aq=>.ret<|.sc (.op 3) ()
 |_=>.fail
def e3:fS->aR aP
 |.tmp t=>.rt t .ret
 |.const v=>VY v
 |.func f=>.ret<|.clo f 0 []
 |.global _=>.fail
def WZ(E:dO):fS->aR aP
 |.global g=>match E.K with|some k=>bif cT k g then .ret (.ipt (.ar 64<|.int .u32) [(ke:ab<|cj .u32)] 0 []) else .fail|none=>.fail
 |x=>e3 x
def Bd:aP->aR O
 |.sc (.int k) x=>.ret<|cj.to k x
 |_=>.fail
def Bk(b:aE)(c:aE)(k:aR aP):aR aP:=bif b then k else .chk c k
def P7:fS->aE
 |.const (.int _<|.ofNat<|_+1)=>af
 |.const (.int _<|.negSucc _)=>af
 |_=>ag
def P0:fS->aE
 |.const (.int _<|.ofNat _)=>af
 |_=>ag
def GX:gL->aE
 |.u8=>af|.u16=>af|.u32=>af|.u64=>af|_=>ag
def UH(wc:aE)(op:BinOp)(k:gL)(x y:cj k):aR aP:=
 let a:=cj.to k x;let b:=cj.to k y
 match op with
 |.add=>.ret<|.sc (.int k) (cj.of k<|aG a b)
 |.sub=>.ret<|.sc (.int k) (cj.of k<|bw a b)
 |.mul=>.ret<|.sc (.int k) (cj.of k<|dI a b)
 |.quo=>Bk wc (a2<|am b 0)<|.ret (.sc (.int k)<|cj.of k<|de a b)
 |.rem=>Bk wc (a2<|am b 0)<|.ret (.sc (.int k)<|cj.lit k<|cY a b)
 |.and=>.ret<|.sc (.int k) (cj.of k<|hz k a b)
 |.or=>.ret<|.sc (.int k) (cj.of k<|hG k a b)
 |.xor=>.ret<|.sc (.int k) (cj.of k<|em k a b)
 |.andNot=>.ret<|.sc (.int k) (cj.of k<|J8 k a b)
 |.eql=>.ret<|.sc .bool (am a b)
 |.neq=>.ret<|.sc .bool (a2<|am a b)
 |.lss=>.ret<|.sc .bool (aK a b)
 |.leq=>.ret<|.sc .bool (bL a b)
 |.gtr=>.ret<|.sc .bool (aK b a)
 |.geq=>.ret<|.sc .bool (bL b a)
 |_=>.fail
def UI(op:BinOp)(a b:ab aN):aR aP:=
 match op with
 |.add=>.chk (bL (aG (len a)<|len b) 140737488355328)<|.ret (.sc .str<|bb a b)
 |.eql=>.ret<|.sc .bool (seq a b)
 |.neq=>.ret<|.sc .bool (a2<|seq a b)
 |.lss=>.ret<|.sc .bool (y2 a b)
 |.leq=>.ret<|.sc .bool (iP (y2 a b)<|seq a b)
 |.gtr=>.ret<|.sc .bool (a2<|iP (y2 a b)<|seq a b)
 |.geq=>.ret<|.sc .bool (a2<|y2 a b)
 |_=>.fail
def aj1(t:aw)(op:BinOp)(a b:aP):aR aP:=
 match op,t,a,b with
 |.eql,.sl e,.sc t' x,.nil=>(aR.opt<|aw.cast t' (.sl e) x).bind λl=>.ret<|.nq (am (len (l:ab e.a_)) 0)
 |_,_,_,_=>.fail
def UG(E:dO)(op:BinOp)(xT:R)(a b:aP):aR aP:=
 match E.cp xT with
 |some t=>bif aw.is t .bool then
   (match ju .bool a,ju .bool b with
    | some x,J y=>(match op with
     |.eql=>.ret (.sc .bool<|p7 x y)
     |.neq=>.ret (.sc .bool<|a2<|p7 x y)
     |_=>.fail)
    |_,_=>.fail)
   else bif E.C xT then
   (match ju t a,ju t b with
    | some x,J y=>(match op with
     |.eql=>.ret (.sc .bool<|t.pr x y)
     |.neq=>.ret (.sc .bool<|a2<|t.pr x y)
     |_=>.fail)
    |_,_=>.fail)
   else aj1 t op a b
 |none=>.fail
def Ns(E:dO)(wc J7:aE)(op:BinOp)(xT:R)(a b:aP):aR aP:=
 match a,b with
 |.sc (.int k) x,.sc (.int k') y=>
  (match op with
  |.shl=>Bk (J7||GX k') (bL 0<|cj.to k' y) (.ret<|.sc (.int k)<|cj.of k<|h0 k (cj.to k x)<|cj.to k' y)
  |.shr=>Bk (J7||GX k') (bL 0<|cj.to k' y) (.ret<|.sc (.int k)<|cj.lit k<|e4 k (cj.to k x)<|cj.to k' y)
  | op=>(match aw.cast (.int k') (.int k) y with | some y=>UH wc op k x y | none => .fail))
 |.sc .str x,.sc .str y=>UI op x y
 |a,b=>UG E op xT a b
def abV(op:UnOp)(a:aP):aR aP:=
 match op,a with
 |.not,.kb b=>.ret<|.kb (!b)
 |.not,.sc .bool b=>.ret<|.sc .bool (a2 b)
 |.neg,.sc (.int k) x=>.ret<|.sc (.int k) (cj.of k<|bw 0<|cj.to k x)
 |.xor,.sc (.int k) x=>.ret<|.sc (.int k) (cj.of k<|em k (match k with|.u8=>255|.u16=>65535|.u32=>4294967295|.u64=>18446744073709551615|_ => -1)<|cj.to k x)
 |_,_=>.fail
def ZZ(c a b:aP):aR aP:=
 match c with
 |.kb c=>.ret<|bif c then a else b
 | .sc .bool c=>(match a,b with
  |.sc t x,b=>(match ju t b with|some y=>.ret (.sc t<|aa c x y)|none=>.fail)
  |.kb x,b=>(match ju .bool b with|some y=>.ret (.sc .bool<|aa (c:aE) x y)|none=>.fail)
  |_,_=>.fail)
 |_=>.fail
def JQ(gU:aw)(a:aP):aR aP:=
 match gU with
 |.str=>(match a with|.sc .str l=>.ret (int<|len (l:ab aN))|_=>.fail)
 |.ar n _=>.ret<|int (bc n)
 |.sl _=>
  (match a with
  |.sc (.sl e) l=>.ret (int<|len (l:ab e.a_))
  |.csl _ l=>.ret (int<|len l)
  |.nil=>.ret (int 0)
  |.own id _=>.rb id fun|.ob _ l=>.ret (int<|len l)|.fz _ l=>.ret (int<|len l)|_=>.fail
  |.osl id _ n=>.rb id fun|.ob _ _=>.ret (int<|bc n)|.fz _ _=>.ret (int<|bc n)|_=>.fail
  |.psl id n=>.rb id fun|.box _ _=>.ret (int<|bc n)|_=>.fail
  |_=>.fail)
 |_=>.fail
def vN(id:R)(k:aR aP):aR aP:=.rb id fun|.new=>k|_=>.fail
def x3(id:R)(e:aw)(l:ab e.a_)(fm:aE):aR aP:=bif hv 0 e.size then vN id (.fk id (.ob e l)<|.ret<|.own id fm) else .fail
def B8:aw->aE
 |.sl (.int .u8)=>af|_=>ag
def afB(E:dO)(d:R)(tI dD:R)(a:aP):aR aP:=
 (aR.opt<|E.cp tI).bind λs=>(aR.opt<|E.cp dD).bind λt=>
 match t with
 |.int k=>(match a with|.sc (.int k') x=>.ret (.sc (.int k)<|cj.of k<|cj.to k' x)|_=>.fail)
 | .str=>(match s with
  |.str=>(match a with|.sc .str x=>.ret (.sc .str x)|_=>.fail)
  |.sl e=>bif B8 (.sl e) then(nl ag (.sl<|.int .u8) a).bind λx=>.ret (.sc .str (x:ab aN)) else .fail
  |_=>.fail)
 | .sl e=>(match s,a with
  |.str,.sc .str x=>bif B8 (.sl e) then .chk (bO 1<|aQ (x:ab aN)) (x3 (16*d) (.int .u8) (x:ab aN) ag) else .fail
  |.sl b9,.own id af=>bif B8 (.sl e)&&(B8 (.sl b9)&&cT tI dD) then .rb id (fun|.ob _ _=>.ret (.own id af)|_=>.fail) else .fail
  |_,_=>.fail)
 |_=>.fail
def zR(t:aw)(a:aP):aR aP:=
 match a with
 |.ptr id p=>.rb id fun
  |.box rt v=>(match rt.at p,jU v p with|some t',J pv=>bif aw.is t' t then .ret (rC t pv) else .fail|_,_=>.fail)
  |_=>.fail
 |.ipt e l i p=>(match e.at p,jU (.sc e<|ap l i e.zero) p with|some t',J pv=>bif aw.is t' t then .ret pv else .fail|_,_=>.fail)
 |.opt id i p=>.rb id fun
  |.ob e l=>(match e.at p,jU (.sc e<|ap l i e.zero) p with|some t',J pv=>bif aw.is t' t then .ret pv else .fail|_,_=>.fail)
  |.fz e l=>(match e.at p,jU (.sc e<|ap l i e.zero) p with|some t',J pv=>bif aw.is t' t then .ret pv else .fail|_,_=>.fail)
  |_=>.fail
 |_=>.fail
def LT(t:aw)(a v:aP):aR aP:=
 match a with
 |.ptr id p=>.rb id fun
  | .box rt c=>(match rt.at p,nT c p (AA v) with
    |some t',J dj=>bif aw.is t' t then(uf t v).bind λ_=>.fk id (.box rt dj) (.ret .undef) else .fail
    |_,_=>.fail)
  |_=>.fail
 |.opt id i p=>(nl af t v).bind λx=>.rb id fun
  | .ob e l=>(match e.at p with
   | some t'=>bif aw.is t' t then (match nT (.sc e<|ap l i e.zero) p (.sc t x) with
     |some c=>(match ju e c with|some y=>.fk id (.ob e<|cA l i y) (.ret .undef)|none=>.fail)
     |none=>.fail) else .fail
   |none=>.fail)
  |_=>.fail
 |_=>.fail
def aAx:n1->aE
 |.ix _=>af
 |_=>ag
def akK:aP->aP->aE
 |.ptr _ p,.own _ _=>p.any aAx
 |_,_=>ag
def abk(t:aw)(a v:aP):aR aP:=bif akK a v then(nl af t v).bind λx=>LT t a (.sc t x) else LT t a v
def EA(t' cI:au aw)(f:R):aE:=
 match t',cI with
 |some t',J cI=>aw.is t' cI&&(match cI.at (g5 f) with|some eM=>hv 0 eM.size|none=>ag)
 |_,_=>ag
def Ox(cI:au aw)(f:R)(a:aP):aR aP:=
 match a with
 |.ptr id p=>.rb id fun
  |.box t _=>bif EA (t.at p) cI f then .ret (.ptr id<|p++g5 f) else .fail
  |_=>.fail
 |.ipt e l i p=>bif EA (e.at p) cI f then .ret (.ipt e l i<|p++g5 f) else .fail
 |.opt id i p=>.rb id fun
  |.ob e _=>bif EA (e.at p) cI f then .ret (.opt id i<|p++g5 f) else .fail
  |.fz e _=>bif EA (e.at p) cI f then .ret (.opt id i<|p++g5 f) else .fail
  |_=>.fail
 |_=>.fail
def D7(t':au aw)(gU:aw)(i:O)(v:aP):aR aP:=
 match t',gU with
 |some t',.ar n e=>bif aw.is t' (.ar n e)&&hv 0 e.size then .chk (aO i<|bc n) (.ret v) else .fail
 |_,_=>.fail
def zG(gU:aw)(a:aP)(i:O):aR aP:=
 match a with
 | .sc t l=>(match gU with
  |.sl e=>(aR.opt<|aw.cast t (.sl e) l).bind λl=>.chk (aO i<|len (l:ab e.a_)) (.ret<|.ipt e l (ah i) [])
  |_=>.fail)
 |.csl e l=>bif aw.is (.sl e) gU then .chk (aO i<|len l) (.ret<|.ipt e l (ah i) []) else .fail
 |.own id _=>.rb id fun
  |.ob e l=>bif aw.is (.sl e) gU then .chk (aO i<|len l) (.ret<|.opt id (ah i) []) else .fail
  |.fz e l=>bif aw.is (.sl e) gU then .chk (aO i<|len l) (.ret<|.opt id (ah i) []) else .fail
  |_=>.fail
 |.osl id off n=>.rb id fun
  |.ob e _=>bif aw.is (.sl e) gU then .chk (aO i<|bc n) (.ret<|.opt id (bB off<|ah i) []) else .fail
  |.fz e _=>bif aw.is (.sl e) gU then .chk (aO i<|bc n) (.ret<|.opt id (bB off<|ah i) []) else .fail
  |_=>.fail
 |.ptr id p=>.rb id fun
  |.box t _=>D7 (t.at p) gU i<|.ptr id (p++[.ix<|ah i])
  |_=>.fail
 |.ipt e l j p=>D7 (e.at p) gU i<|.ipt e l j (p++[.ix<|ah i])
 |.psl id n=>.rb id fun
  |.box _ _=>bif aw.is (.sl<|.op 3) gU then .chk (aO i<|bc n) (.ret<|.ptr id<|g5<|ah i) else .fail
  |_=>.fail
 |.opt id j p=>.rb id fun
  |.ob e _=>D7 (e.at p) gU i<|.opt id j (p++[.ix<|ah i])
  |.fz e _=>D7 (e.at p) gU i<|.opt id j (p++[.ix<|ah i])
  |_=>.fail
 |_=>.fail
def Jy(gU:aw)(a:aP)(i:O):aR aP:=
 match a with
 | .sc .str l=>(match gU with
  |.str=>.chk (aO i<|len (l:ab aN)) (.ret<|.sc (.int .u8)<|ap (l:ab aN) (ah i)<|u8 0)
  |_=>.fail)
 | a=>(match gU with
  |.ar n e=>(aR.opt<|ju (.ar n e) a).bind λl=>.chk (aO i<|bc n) (.ret<|.sc e<|ap (l:ab e.a_) (ah i) e.zero)
  |_=>.fail)
def Wt(E:dO)(xT:R)(f:R)(a:aP):aR aP:=
 match E.cp xT with
 |some t=>(uf t a).bind λ_=>(match t.at (g5 f),jU (AA a) (g5 f) with|some eM,J v=>.ret (rC eM v)|_,_=>.fail)
 |none=>.fail
def cr(i:au O)(d:O):O:=match i with|some i=>i|none=>d
def aa6(n:R)(kJ:aw)(a:aP)(lo ao:O):aR aP:=
 match a with
 |.ptr id []=>.rb id fun
  |.box t _=>bif aw.is t (.ar n kJ)&&(hv 0 kJ.size&&Nat.ble n 16777216) then .chk (cq lo ao<|bc n) (.ret<|.osl id (ah lo)<|cy (ah ao)<|ah lo) else .fail
  |.fz e l=>bif aw.is e kJ&&Nat.ble n 16777216 then .chk (df (bU (aQ l) n)<|cq lo ao<|bc n) (.ret<|.sc (.sl e)<|sub l lo ao) else .fail
  |_=>.fail
 |_=>.fail
def yu(gU:aw)(a:aP)(lo ao sg:au O):aR aP:=
 match sg with
 |none=>
  (match gU with
  | .str=>(match a with
   |.sc t l=>(aR.opt<|aw.cast t .str l).bind λl=>.chk (cq (cr lo 0) (cr ao<|len (l:ab aN))<|len (l:ab aN)) (.ret<|.sc .str<|sub (l:ab aN) (cr lo 0)<|cr ao<|len (l:ab aN))
   |_=>.fail)
  | .sl kJ=>(match a with
   |.nil=>.chk (cq (cr lo 0) (cr ao 0) 0) (.ret .nil)
   |.sc t l=>(aR.opt<|aw.cast t (.sl kJ) l).bind λl=>.chk (cq (cr lo 0) (cr ao<|len (l:ab kJ.a_))<|len (l:ab kJ.a_)) (.ret<|.sc (.sl kJ)<|sub (l:ab kJ.a_) (cr lo 0)<|cr ao<|len (l:ab kJ.a_))
   |.csl e l=>bif aw.is (.sl e) (.sl kJ) then .chk (cq (cr lo 0) (cr ao<|len l)<|len l) (.ret<|.sc (.sl e)<|sub l (cr lo 0)<|cr ao<|len l) else .fail
   |.own id _=>.rb id fun
    |.ob e l=>bif aw.is (.sl e) (.sl kJ) then .chk (cq (cr lo 0) (cr ao<|len l)<|len l) (.ret<|.osl id (ah<|cr lo 0)<|cy (ah<|cr ao<|len l)<|ah<|cr lo 0) else .fail
    |.fz e l=>bif aw.is (.sl e) (.sl kJ) then .chk (cq (cr lo 0) (cr ao<|len l)<|len l) (.ret<|.sc (.sl e)<|sub l (cr lo 0)<|cr ao<|len l) else .fail
    |_=>.fail
   |.osl id off n=>.rb id fun
    |.ob e _=>bif aw.is (.sl e) (.sl kJ) then .chk (cq (cr lo 0) (cr ao<|bc n)<|bc n) (.ret<|.osl id (bB off<|ah<|cr lo 0)<|cy (ah<|cr ao<|bc n)<|ah<|cr lo 0) else .fail
    |.fz e _=>bif aw.is (.sl e) (.sl kJ) then .chk (cq (cr lo 0) (cr ao<|bc n)<|bc n) (.ret<|.osl id (bB off<|ah<|cr lo 0)<|cy (ah<|cr ao<|bc n)<|ah<|cr lo 0) else .fail
    |_=>.fail
   |_=>.fail)
  |.ar n kJ=>aa6 n kJ a (cr lo 0) (cr ao<|bc n)
  |_=>.fail)
 |some m=>
  (match ao with
  |some h=>
   (match a with
   | .sc t l=>(match gU with
    |.sl e=>(aR.opt<|aw.cast t (.sl e) l).bind λl=>.chk (df (cq (cr lo 0) h<|len (l:ab e.a_))<|am h m) (.ret<|.csl e<|sub (l:ab e.a_) (cr lo 0) h)
    |_=>.fail)
   |_=>.fail)
  |none=>.fail)
def aa5(gU:aw)(a:aP)(lo ao sg:au O):aR aP:=
 match sg with
 | none=>(match ao with
  | some h=>(match a with
   | .osl id off n=>(match gU with
    |.sl kJ=>.rb id fun
     |.ob e l=>bif aw.is (.sl e) (.sl kJ) then .chk (df (k_ off<|bB (aQ l) 1)<|cq (cr lo 0) h<|bw (len l)<|bc off) (.ret<|.osl id (bB off<|ah<|cr lo 0)<|cy (ah h)<|ah<|cr lo 0) else .fail
     |_=>.fail
    |_=>.fail)
   | a=>yu gU a lo (J h) aq)
  |none=>yu gU a lo aq aq)
 | some m=>(match ao with
  | some h=>(match a with
   | .own id _=>(match gU with
    |.sl kJ=>.rb id fun
     |.ob e l=>bif aw.is (.sl e) (.sl kJ) then .chk (df (cq (cr lo 0) h m)<|bL m<|len l) (.ret .bad) else .fail
     |_=>.fail
    |_=>.fail)
   |_=>.fail)
  |none=>.fail)
def Ii(a:aP)(i:R):aR aP:=
 match a with
 |.tup a=>aR.opt<|jU a (g5 i)
 |_=>.fail
def L1(fy:aE):(ts:ab aw)->ab aP->aR (i_ ts)
 |[],[]=>.ret ()
 |t::ts,v::vs=>(nl fy t v).bind λx=>(L1 fy ts vs).bind λy=>.ret (x,y)
 |_,_=>.fail
def aaJ(id:R):(r:e6)->r.a_->aR aP
 |.im t,x=>.ret<|.sc t x
 |.ow e,l=>x3 id e l ag
 |.cl e,l=>.ret<|.csl e l
def aaI(id:R):(rs:ab e6)->e0 rs->aR aP
 |[],_=>.ret<|.sc .unit ()
 |r::rs,x=>(aaJ id r x.1).bind λv=>(aaI (id+1) rs x.2).bind λw=>.ret<|.two v w
def VD(d:R):(rs:ab e6)->e0 rs->aR aP
 |[],_=>.ret<|.tup (.sc .unit ())
 |[t],r=>aaJ (16*d) t r.1
 |t::t'::ts,r=>(aaI (16*d) (t::t'::ts) r).bind λv=>.ret<|.tup v
def UO(d:R)(s:jM):ab aP->aR aP
 |.ptr id []::as=>.rb id λb=>match b with
  |.box t v=>bif aw.is t s.ty then(nl af s.ty v).bind λx=>(L1 af s.args as).bind λy=>.rb id λe7=>match e7 with
   |.box fP _=>bif aw.is fP s.ty then .bo (s.ty.zero,AW s.res) (s.fn (x,y)) λr=>.fk id (.box s.ty<|.sc s.ty r.1) (VD d s.res r.2) else .fail
   |_=>.fail
   else .fail
  |_=>.fail
 |_=>.fail
def VC(s:pf):ab aP->aR (R×aP)
 |.ptr id []::as=>.rb id λb=>match b with
  |.box t v=>bif aw.is t s.ty then(nl af s.ty v).bind λx=>(L1 af s.args as).bind λy=>.rb id λe7=>match e7 with
   |.box fP _=>bif aw.is fP s.ty then .bo (s.ty.zero,(0:R),AW [.im s.rt]) (s.fn (x,y)) λr=>.fk id (.box s.ty<|.sc s.ty r.1) (.ret (r.2.1,.sc s.rt r.2.2.1)) else .fail
   |_=>.fail
   else .fail
  |_=>.fail
 |_=>.fail
def HS(E:dO)(d:R)(f:R)(args:ab aP):aR aP:=
 match E.G f with
 |none=>(match E.X f with|some s=>UO d s args|none=>.fail)
 |some g=>(L1 (!(g.res.all e6.nz)) g.args args).bind λx=>.bo (AW g.res) (g.fn x) λr=>VD d g.res r
def nb{α β:Type}(f:α->aR β):ab α->aR (ab β)
 |[]=>.ret []
 |a::r=>(f a).bind λb=>(nb f r).bind λcQ=>.ret<|b::cQ
def jw.pv:jw->aP
 |.ptr id p=>.ptr id p
 |.jA t x=>.sc t x
def El:aP->aR jw
 |.ptr id p=>.ret<|.ptr id p
 |.sc t x=>.ret<|.jA t x
 |.kb b=>.ret<|.jA .bool b
 |.agg t u=>(nl af t<|.agg t u).bind λx=>.ret<|.jA t x
 |.clo f _ []=>.ret<|.jA (.fn [f]) (1:R)
 |_=>.fail
def N1(E:dO)(d:R):ab R->R->ab aP->aR aP
 |[],_,_=>.fail
 |[f],x,args=>.chk (bU x 1)<|HS E d f args
 |f::xg::r,x,args=>.br (bU x 1) (HS E d f args)<|N1 E d (xg::r) (cy x 1) args
def xa(eG:R)(dy:ab jw)(args:ab aP):ab aP:=(dy.take eG).map jw.pv++(args++(dy.drop eG).map jw.pv)
def auz(E:dO)(d:R)(f:aP)(args:ab aP):aR aP:=
 match f with
 |.clo f eG dy=>HS E d f<|xa eG dy args
 |.sc (.fn l) x=>N1 E d l x args
 |_=>.fail
def xW:aw->aE
 |.int _=>af|.str=>af|_=>ag
def anZ(a b:ab aN):aE:=!(decide (a=b))
def ai2(a b:O):aE:=!(decide (a=b))
def JG:(t:aw)->t.a_->t.a_->aE
 |.int k,a,b=>ai2 (cj.to k a)<|cj.to k b
 |.str,a,b=>anZ (a:ab aN) (b:ab aN)
 |_,_,_=>ag
def xV:(t:aw)->t.a_->t.a_->aE
 |.int k,a,b=>am (cj.to k a)<|cj.to k b
 |.str,a,b=>seq (a:ab aN) (b:ab aN)
 |_,_,_=>ag
def x6:aP->aE
 |.tup _=>ag|_=>af
def Pq(q:aw×aw)(m k v:aP):aR aP:=
 match m with
 |.mpp id=>.rb id fun
  |.mp kt vt l=>(aR.opt<|ju kt k).bind λkey=>(aR.need<|aw.is kt q.1&&xW kt&&(x6 v&&l.all λp=>JG kt key p.1)).bind λ_=>.fk id (.mp kt vt<|l++[(key,v)])<|.ret .undef
  |_=>.fail
 |_=>.fail
def Am(ok:aE)(v b:aP):aP:=bif ok then .tup (.two v<|.two b<|.sc .unit ()) else v
def D4(kt vt:aw):ab (kt.a_×aP)->au (ab<|kt.a_×vt.a_)
 |[]=>J []
 |(k,v)::r=>match ju vt v,D4 kt vt r with|some x,J f7=>J ((k,x)::f7)|_,_=>aq
def Gv(kt vt:aw)(key:kt.a_):ab (kt.a_×vt.a_)->vt.a_
 |[]=>vt.zero
 |(k,x)::r=>aa (xV kt key k) x<|Gv kt vt key r
def EW(kt vt:aw)(key:kt.a_):ab (kt.a_×vt.a_)->aE
 |[]=>ag
 |(k,_)::r=>aa (xV kt key k) af<|EW kt vt key r
def OT(kt vt:aw)(ok:aE)(key:kt.a_):ab (kt.a_×aP)->aR aP
 |[]=>.ret<|Am ok (rC vt<|oB vt) (.kb ag)
 |(k,v)::r=>.br (xV kt key k) (.ret<|Am ok v<|.kb af)<|OT kt vt ok key r
def agy(kt vt:aw)(ok:aE)(key:kt.a_)(l:ab<|kt.a_×aP):aR aP:=
 match D4 kt vt l with
 |some f7=>.ret<|Am ok (.sc vt<|Gv kt vt key f7) (.sc .bool<|EW kt vt key f7)
 |none=>OT kt vt ok key l
def YY(E:dO)(xT:R)(x k:aP)(ok:aE):aR aP:=
 (aR.opt<|E.M xT).bind λp=>
 match x with
 |.mpp id=>.rb id fun
  |.mp kt vt l=>(aR.need<|aw.is kt p.1&&(aw.is vt p.2&&xW kt)).bind λ_=>(aR.opt<|ju kt k).bind λkey=>agy kt vt ok key l
  |_=>.fail
 |.sc (.op 2) _=>(aR.need<|xW p.1).bind λ_=>(aR.opt<|ju p.1 k).bind λ_=>.ret<|Am ok (rC p.2<|oB p.2) (.kb ag)
 |_=>.fail
def ac8(E:dO)(vo:R)(x:aP)(ok:aE):aR aP:=
 match x with
 |.ifc tid t y=>(aR.opt<|E.cp vo).bind λt'=>bif aw.is t' (.op 1) then .fail else
   bif cT tid vo then .ret (Am ok (.sc t y)<|.kb af) else bif ok then .ret (Am ok (rC t'<|oB t')<|.kb ag) else .fail
 |.sc (.op 1) _=>(aR.opt<|E.cp vo).bind λt'=>bif aw.is t' (.op 1) then .fail else bif ok then .ret (Am ok (rC t'<|oB t')<|.kb ag) else .fail
 |_=>.fail
def Hy(e:aw)(x:aP):aR<|List e.a_:=
 match x with
 |.sc .str l=>aR.opt<|aw.l? (.int .u8) e (l:ab aN)
 |x=>nl ag (.sl e) x
def Zb:aP->aE
 |.own _ af=>af|_=>ag
def Ur(d:R)(e:aw)(s x:aP):aR aP:=
 bif hv 0 e.size then(Hy e x).bind λbZ=>
 match s with
 |.nil=>.chk (iq e<|aQ bZ)<|x3 (16*d) e bZ ag
 |.own id _=>.rb id fun
  |.ob b9 l=>(aR.opt<|aw.l? b9 e l).bind λl=>.chk (iq e<|bB (aQ l)<|aQ bZ)<|.fk id .ga (x3 (16*d) e (bb l bZ) ag)
  |_=>.fail
 |.osl id off n=>.rb id fun
  |.ob b9 l=>(aR.opt<|aw.l? b9 e l).bind λl=>.chk (iq e<|bB n<|aQ bZ)<|.fk id .ga (x3 (16*d) e (bb (cut l off n) bZ) ag)
  |_=>.fail
 |.csl b9 l=>(aR.opt<|aw.l? b9 e l).bind λl=>.chk (iq e<|bB (aQ l)<|aQ bZ)<|bif Zb x then x3 (16*d) e (bb l bZ) ag else .ret (.sc (.sl e)<|bb l bZ)
 |_=>.fail
 else .fail
def eL{α:Type}(l:ab α)(off n:R)(bZ:ab α):ab α:=l.take off++(bZ.take n++l.drop (off+min n bZ.length))
def Uq(e:aw)(s x:aP):aR aP:=
 bif hv 0 e.size then(Hy e x).bind λbZ=>
 match s with
 |.osl id off n=>.rb id fun
  |.ob b9 l=>(aR.opt<|aw.l? e b9 bZ).bind λfR=>.chk (k_ (bB off<|bB n<|aQ fR)<|bB (aQ l) 1)<|.fk id (.ob b9<|eL l (bB off n) (aQ fR) fR) (.ret<|.osl id off<|bB n<|aQ fR)
  |_=>.fail
 |_=>.fail
 else .fail
def afC(e:aw)(a x:aP):aR aP:=
 bif hv 0 e.size then(nl ag (.sl e) x).bind λbZ=>
 match a with
 |.nil=>.ret<|int 0
 |.own id _=>.rb id fun
  |.ob b9 l=>(aR.opt<|aw.l? e b9 bZ).bind λfR=>.fk id (.ob b9<|eL l 0 (aQ l) fR)<|.ret (int<|hE (len l)<|len fR)
  |_=>.fail
 |.osl id off n=>.rb id fun
  |.ob b9 l=>(aR.opt<|aw.l? e b9 bZ).bind λfR=>.fk id (.ob b9<|eL l off n fR)<|.ret (int<|hE (bc n)<|len fR)
  | .box t v=>(match t with
   |.ar m b9=>(aR.opt<|ju (.ar m b9) v).bind λl=>(aR.opt<|aw.l? e b9 bZ).bind λfR=>.fk id (.box (.ar m b9)<|.sc (.ar m b9)<|eL (l:ab b9.a_) off n fR) (.ret<|int<|hE (bc n)<|len fR)
   |_=>.fail)
  |_=>.fail
 |_=>.fail
 else .fail
def VP(e:aw)(a:aP):aR aP:=
 bif hv 0 e.size then
 match a with
 |.own id _=>.rb id fun
  |.ob b9 l=>bif aw.is b9 e then .fk id (.ob b9<|eL l 0 (aQ l)<|cb (aQ l) b9.zero) (.ret<|.tup<|.sc .unit ()) else .fail
  |_=>.fail
 |.osl id off n=>.rb id fun
  |.ob b9 l=>bif aw.is b9 e then .fk id (.ob b9<|eL l off n<|cb n b9.zero) (.ret<|.tup<|.sc .unit ()) else .fail
  |_=>.fail
 |_=>.fail
 else .fail
def Wi:aw->au aw
 |.sl e=>J e|_=>aq
def ai4:aw->aE
 |.sl _=>af|_=>ag
def Pr:aw->aE
 |.sl _=>af|.str=>af|_=>ag
def UU(E:dO)(d:R)(b:Builtin)(e?:ab R)(args:ab aP):aR aP:=
 match b with
 | .len=>(match e?,args with
  |t::_,[a]=>(aR.opt<|E.cp t).bind λt=>JQ t a
  |_,_=>.fail)
 | .cap=>(match e?,args with
  |t::_,[.nil]=>(aR.opt<|E.cp t).bind λt=>bif ai4 t then .ret (int 0) else .fail
  |_,_=>.fail)
 | .append=>(match e?,args with
  | [t,u],[s,x]=>(match E.cp t,E.cp u with
   | some (.sl e),J (.int .i64)=>(match s,x with
    |.nil,.sc (.int .i64) n=>.chk (df (bL 0 n)<|iq e<|ah n) (x3 (16*d) e (cb (ah n) e.zero) ag)
    |_,_=>.fail)
   |some (.sl e),J u=>bif Pr u then(bif E.A then Uq e s x else Ur d e s x) else .fail
   |_,_=>.fail)
  |_,_=>.fail)
 | .copy=>(match e?,args with
  | [t,u],[a,x]=>(match E.cp t,E.cp u with
   |some (.sl e),J (.sl _)=>afC e a x
   |_,_=>.fail)
  |_,_=>.fail)
 | .clear=>(match e?,args with
  | [t],[a]=>(match E.cp t with
   |some (.sl e)=>VP e a
   |_=>.fail)
  |_,_=>.fail)
 |.min=>(match args with|[.sc (.int .i64) a,.sc (.int .i64) b]=>.ret (int<|hE a b)|_=>.fail)
 |.max=>(match args with|[.sc (.int .i64) a,.sc (.int .i64) b]=>.ret (int<|dk a b)|_=>.fail)
 |_=>.fail
def Gy(t:aw):aP->ab (R×aP)->au aP
 |v,[]=>J v
 |v,(i,u)::r=>match nT v (g5 i) (AA u) with|some dH=>Gy t dH r|none=>aq
def ED(t:aw):ab (R×aP)->aR aj
 |[]=>.ret ()
 |(i,u)::r=>match t.at (g5 i) with|some eM=>(uf eM u).bind λ_=>ED t r|none=>.fail
def L3(e:aw):ab (R×aP)->aR (ab<|Nat×e.a_)
 |[]=>.ret []
 |(i,u)::r=>(nl af e u).bind λx=>(L3 e r).bind λf7=>.ret<|(i,x)::f7
def wC{α:Type}:ab α->ab (R×α)->ab α
 |l,[]=>l
 |l,(i,x)::r=>wC (l.set i x) r
def ai5:aw->aE
 |.unit=>af|.pair _ _=>af|_=>ag
def aq0(t:aw)(bE:ab<|Nat×aP):aR aP:=
 match t with
 |.ar n e=>(aR.need<|bE.all λp=>hv p.1 n).bind λ_=>(L3 e bE).bind λf7=>.ret<|.sc (.ar n e) (wC (eC n e.zero) f7)
 |t=>bif ai5 t then(ED t bE).bind λ_=>(aR.opt<|Gy t (oB t) bE).bind λv=>.ret (rC t v) else .fail
def adt(d:R)(e:aw)(n:R)(bE:ab<|Nat×aP):aR aP:=
 (aR.need<|bE.all (λp=>hv p.1 n)&&Nat.ble (n*e.size) 16777216).bind λ_=>(L3 e bE).bind λf7=>
  x3 (16*d) e (wC (eC n e.zero) f7) (hv 0 n)
def ak0(d n:R)(bE:ab<|Nat×aP):aR aP:=
 bif hv 0 n&&Nat.ble n 64 then(ED (nW n) bE).bind λ_=>(aR.opt<|Gy (nW n) (oB<|nW n) bE).bind λv=>vN (16*d) (.fk (16*d) (.box (nW n) v)<|.ret<|.psl (16*d) n) else .fail
def Ke:au fS->aR (au O)
 |none=>.ret aq
 |some o=>(e3 o).bind λv=>(Bd v).bind λn=>.ret<|some n
def Ql(bE:ab<|Nat×fS):aR<|List<|Nat×aP:=nb (λp=>(e3 p.2).bind λv=>.ret (p.1,v)) bE
def PX(v:aP):aR aP:=
 match v with
 |.ptr id p=>.rb id fun|.box _ _=>.ret (.ptr id p)|_=>.fail
 |.ipt e l i p=>.ret<|.ipt e l i p
 |.opt id i p=>.rb id fun|.ob _ _=>.ret (.opt id i p)|.fz _ _=>.ret (.opt id i p)|_=>.fail
 |.clo f eG dy=>.ret<|.clo f eG dy
 |_=>.fail
def aDH(id:R)(x:aP):aR aP:=
 match x with
 |.sc .str l=>vN id<|.fk id (.it l 0) (.ret<|.itp id)
 |_=>.fail
def Ze(x:aP):aR aP:=
 match x with
 |.itp id=>.rb id fun
  |.it s p=>.br (k_ p<|aQ s)
    (.fk id (.it s<|bB p (iZ s p).2)<|.ret<|.tup<|.two (.kb af)<|.two (int<|bc p)<|.two (.sc (.int .i32)<|bc (iZ s p).1)<|.sc .unit ())
    (.ret<|.tup<|.two (.kb ag)<|.sc .unit ())
  |_=>.fail
 |_=>.fail
def J6:BinOp->fS->aE
 |.eql,.const .nilIface=>af
 |_,_=>ag
def Po(t:aw)(a:aP):aR aP:=
 bif aw.is t (.op 1) then(match a with
  |.ifc _ _ _=>.ret (.kb ag)
  |.sc (.op 1) _=>.ret (.kb af)
  |_=>.fail) else .fail
def tv(E:dO)(o:c7):aR aP:=
 let d:=E.b+o.dst.getD 0
 match o.op with
 |.move x=>e3 x
 |.assign x=>e3 x
 |.pick c a b=>(e3 c).bind λc=>(e3 a).bind λa=>(e3 b).bind λb=>ZZ c a b
 |.alloc t=>(aR.opt<|E.cp t).bind λt=>vN (16*d)<|.fk (16*d) (.box t<|oB t) (.ret<|.ptr (16*d) [])
 |.box t x=>(aR.opt<|E.cp t).bind λt=>(e3 x).bind λv=>(uf t v).bind λ_=>vN (16*d)<|.fk (16*d) (.box t<|AA v) (.ret<|.ptr (16*d) [])
 |.build t bE=>(aR.opt<|E.cp t).bind λt=>(Ql bE.toList).bind λbE=>aq0 t bE
 |.buildSlice t n bE=>(aR.opt<|E.cp t).bind λt=>(aR.opt<|Wi t).bind λe=>(Ql bE.toList).bind λbE=>bif aw.is e (.op 3) then ak0 d n bE else adt d e n bE
 |.load t a=>(aR.opt<|E.cp t).bind λt=>(e3 a).bind λa=>zR t a
 |.store t a x=>(aR.opt<|E.cp t).bind λt=>(e3 a).bind λa=>(e3 x).bind λx=>abk t a x
 |.nilCheck x=>(e3 x).bind λv=>PX v
 |.binOp op t x y _=>bif J6 op y then(aR.opt<|E.cp t).bind λty=>(e3 x).bind λa=>Po ty a else(e3 x).bind λa=>(e3 y).bind λb=>Ns E (P7 y) (P0 y) op t a b
 |.unOp op _ x=>(e3 x).bind λx=>abV op x
 |.convert s t x=>(e3 x).bind λx=>afB E d s t x
 |.makeSlice t l c=>(aR.opt<|E.cp t).bind λt=>(aR.opt<|Wi t).bind λe=>(e3 l).bind λl=>(Bd l).bind λl=>(e3 c).bind λc=>(Bd c).bind λc=>
   .chk (df (cq 0 l c)<|iq e<|ah c) (x3 (16*d) e (cb (ah l) e.zero) ag)
 |.slice t x lo ao sg=>(aR.opt<|E.cp t).bind λt=>(e3 x).bind λx=>(Ke lo).bind λlo=>(Ke ao).bind λao=>(Ke sg).bind λsg=>bif E.A then(match t with|.sl e=>aa5 (.sl e) x lo ao sg|_=>.fail) else yu t x lo ao sg
 |.fieldAddr s x f=>(e3 x).bind λx=>Ox (E.cp s) f x
 |.field t x f=>(e3 x).bind λx=>Wt E t f x
 |.indexAddr t x i=>(aR.opt<|E.cp t).bind λt=>(WZ E x).bind λx=>(e3 i).bind λi=>(Bd i).bind λi=>zG t x i
 |.index t x i=>(aR.opt<|E.cp t).bind λt=>(e3 x).bind λx=>(e3 i).bind λi=>(Bd i).bind λi=>Jy t x i
 |.range t x=>(aR.opt<|E.cp t).bind λt=>(aR.need<|aw.is t .str).bind λ_=>(e3 x).bind λx=>aDH (16*d) x
 |.next x af=>(e3 x).bind λx=>Ze x
 |.extract x i=>(e3 x).bind λx=>Ii x i
 |.makeFunc (.func f) first cap=>(nb e3 first.toList).bind λa=>(nb e3 cap.toList).bind λb=>(nb El<|a++b).bind λdy=>.ret<|.clo f a.length dy
 |.makeMap t aq=>(aR.opt<|E.M t).bind λp=>vN (16*d)<|.fk (16*d) (.mp p.1 p.2 []) (.ret<|.mpp<|16*d)
 |.insert t m k v=>(aR.opt<|E.M t).bind λq=>(e3 m).bind λm=>(e3 k).bind λk=>(e3 v).bind λv=>Pq q m k v
 |.mapUpdate t m k v=>(aR.opt<|E.M t).bind λq=>(e3 m).bind λm=>(e3 k).bind λk=>(e3 v).bind λv=>Pq q m k v
 |.lookup t x i ok=>(e3 x).bind λx=>(e3 i).bind λi=>YY E t x i ok
 |.makeInterface t x=>(aR.opt<|E.cp t).bind λty=>(aR.need<|!(aw.is ty<|.op 1)).bind λ_=>(e3 x).bind λx=>(nl af ty x).bind λy=>.ret<|.ifc t ty y
 |.typeAssert x _ a ok=>(e3 x).bind λx=>ac8 E a x ok
 | .call c=>(match c.callee with
  |.builtin b=>(nb e3 c.args.toList).bind λargs=>UU E d b c.argTypes.toList args
  |.value f=>(e3 f).bind λf=>(nb e3 c.args.toList).bind λargs=>auz E d f args
  |.invoke .. => .fail)
 |_=>.fail
end Yp
namespace Yp
open Go
structure pW where
 i:R
 al:aE
 rb:ab R
 fk:ab R
def PO(a b:ab R):aE:=a.any λk=>b.any<|Nat.beq k
def abd:ab R->aE
 |[]=>ag|_=>af
def pW.N4(a b:pW):aE:=PO a.fk b.rb||PO a.fk b.fk||PO a.rb b.fk||(a.al&&abd b.fk)||(b.al&&abd a.fk)
def sr(pk:ab R):ab pW->aE
 |[]=>af
 |f::r=>r.all (λg=>!(f.N4 g)||Nat.testBit (pk.getD g.i 0) f.i)&&sr pk r
def bits:ab R->R
 |[]=>0
 |i::r=>2^i|||bits r
def abK:ab fS->ab R
 |[]=>[]
 |.tmp t::r=>t::abK r
 |_::r=>abK r
def afW(ops:ab c7)(j:R):ab R:=match ops[j]? with|some o=>(match o.dst with|some d=>[d]|none=>[])|none=>[]
def lB(ops:ab c7)(o:c7):R:=bits<|abK o.op.operands.toList++(match o.guard with|some (g,_)=>afW ops g|none=>[])
def G2(o:c7):R:=match o.dst with|some d=>2^d|none=>0
def LQ(ops:ab c7)(pk:ab R):R->ab c7->ab (R×R×R)->aE
 |_,[],_=>af
 |i,o::r,l=>
  let rl:=lB ops o
  let wr:=G2 o
  l.all (λp=>(cT (Nat.land p.2.2 (rl|||wr)) 0&&cT (Nat.land p.2.1 wr) 0)||Nat.testBit (pk.getD i 0) p.1) &&
  LQ ops pk (i+1) r ((i,rl,wr)::l)
def m1:ab c7->ab R->ab R
 |[],dC=>dC
 |o::r,dC=>m1 r<|dC++[o.after.toList.foldl (λs e=>bif Region.binds .any e then s|||2^e.on|||dC.getD e.on 0 else s) 0]
def xe:R->ab c7->aE
 |_,[]=>af
 |i,o::r=>o.after.toList.all (λe=>!(Region.binds .any e)||Nat.blt e.on i)&&xe (i+1) r
def zi:ab c7->R
 |[]=>0
 |o::r=>match o.guard with|some (g,_)=>2^g|||zi r|none=>zi r
def Li(ops:ab c7):aE:=xe 0 ops&&LQ ops (m1 ops []) 0 ops []
def fD:ab c7->ab R
 |[]=>[]
 |o::r=>match o.dst with|some d=>d::fD r|none=>fD r
def k3(ρ:Type):Type:=aL bd ρ
def abQ:aP->au aw
 |.sc t _=>J t|.kb _=>J .bool|_=>aq
def qV{β:Type 1}:aw->(aw->β)->β
 |.bool,k=>k .bool|.str,k=>k .str|.unit,k=>k .unit
 |.int i,k=>(match i with|.u8=>k (.int .u8)|.u16=>k (.int .u16)|.u32=>k (.int .u32)|.u64=>k (.int .u64)|.i8=>k (.int .i8)|.i16=>k (.int .i16)|.i32=>k (.int .i32)|.i64=>k<|.int .i64)
 |.sl e,k=>qV e λe=>k<|.sl e
 |.pair a b,k=>qV a λa=>qV b λb=>k<|.pair a b
 |.ar n e,k=>qV e λe=>k<|.ar n e
 |.op i,k=>k (.op i)|.fn l,k=>k<|.fn l
theorem Ou{β:Type 1}(t:aw)(k:aw->β):qV t k=k t:=by
 induction t generalizing k with
 |int i=>exact aE_
 |sl e h=>simp only[qV,h]
 |pair a b h g=>simp only[qV,h,g]
 |ar n e h=>simp only[qV,h]
 |_=>rfl
def am5(i:R)(t:aw)(s:bd):aE:=match abQ (s.cw i) with|some t'=>aw.is t' t|none=>ag
def y'{β:Type 1}(l:ab bd):ab R->(ab (R×aw)->β)->β
 |[],k=>k []
 |i::r,k=>match l with
  | s :: m=>(match abQ (s.cw i) with
   |some t=>bif m.all (am5 i t) then y' l r λks=>qV t λt=>k ((i,t)::ks) else y' l r k
   |none=>y' l r k)
  |[]=>k []
def En:ab (R×aw)->Type
 |[]=>aj|p::r=>p.2.a_×En r
def ao8:(l:ab<|Nat×aw)->En l
 |[]=>()|p::r=>(p.2.zero,ao8 r)
def s'(s:bd):(l:ab<|Nat×aw)->au (En l)
 |[]=>J ()
 |p::r=>match ju p.2 (s.cw p.1),s' s r with|some x,J y=>J (x,y)|_,_=>aq
def Sr{β:Type 1}(s:bd)(k:bd->β):(l:ab<|Nat×aw)->En l->β
 |[],_=>k s
 |p::r,x=>s.Db p.1 (.sc p.2 x.1) λs=>Sr s k r x.2
def bi.ol{α β:Type}(f:α->au β):bi α->bi β
 |.fail=>.fail
 |.leaf a=>match f a with|some b=>.leaf b|none=>.fail
 |.br c x y=>.br c (x.ol f)<|y.ol f
 |.chk c x=>.chk c<|x.ol f
 |.bo d o k=>.bo d o λa=>(k a).ol f
 |.cs d e o kn ij iD=>.cs d e o (λa=>(kn a).ol f) (λk a=>(ij k a).ol f)<|λa=>(iD a).ol f
def Me{β:Type 1}(s:bd):ab R->(bd->β)->β
 |[],k=>k s
 |i::r,k=>s.Db i .bad λs=>Me s r k
def ajb(s:bd)(keep:ab R)(c':bd):aE:=cT c'.w.length s.w.length&&keep.all λi=>match c'.cw i with|.own _ _=>ag|_=>af
def JE(s:bd)(all keep:ab R)(t:bi bd):bi bd:=
 t.q9 λl=>
 bif l.all (ajb s keep) then
  y' l keep λks=>
  bif cT (T ks) 0 then t else
  .bo (ao8 ks) (t.ol<|λc'=>bif cT c'.w.length s.w.length then s' c' ks else aq).cf λp=>Me s all λs=>Sr s .leaf ks p
 else t
def YN:ab c7->ab R
 |[]=>[]
 |[o]=>(match o.dst with|some d=>[d]|none=>[])
 |_::r=>YN r
def js{β:Type}(nt:R)(dD:au R)(s:bd)(v:aP)(k:bd->bi β):bi β:=
 match dD with|some d=>bif hv d nt then s.Db d v k else .fail|none=>k s
def s_(dX:aE)(i:R)(rb:ab R)(wr:ab<|Nat×bm)(iC:ab pW):ab pW:=
 bif dX then(match rb,wr with|[],[]=>iC|_,_=>⟨i,ag,rb,wr.map λp=>p.1⟩::iC) else iC
def vB:aP->au aE
 |.sc .bool c=>J c
 |_=>aq
def OY(ops:ab c7)(o:c7)(s:bd)(Ie skip:bi bd):bi bd:=
 match o.guard with
 |none=>Ie
 | some (j,nn)=>(match (ops[j]?).bind (·.dst) with
  |none=>.fail
  | some g=>(match s.cw g with
   |.kb b=>bif b==nn then Ie else skip
   |.undef=>skip
   |_=>.fail))
def EH(s:bd):fS->aP
 |.tmp t=>s.cw t
 |.func f=>.clo f 0 []
 |_=>.bad
def uP:ab jw->ab R
 |[]=>[]
 |.ptr id _::r=>id::uP r
 |.jA _ _::r=>uP r
def eP:aP->ab R
 |.own id _=>[id]|.osl id _ _=>[id]|.ptr id _=>[id]|.opt id _ _=>[id]|.itp id=>[id]|.mpp id=>[id]|.psl id _=>[id]|.clo _ _ dy=>uP dy
 |.two a b=>eP a++eP b|.agg _ a=>eP a|.tup a=>eP a
 |_=>[]
def Ak:bm->ab R
 |.box _ v=>eP v
 |.mp _ _ l=>l.flatMap λp=>eP p.2
 |_=>[]
def sd(s:bd):ab R:=s.h.map λp=>p.1
def HV(s:bd)(bE:ab aP):aE:=s.h.all (λp=>(Ak p.2).all λj=>(sd s).any<|Nat.beq j)&&bE.all λp=>(eP p).all λj=>(sd s).any<|Nat.beq j
def aj5:ab R->aE
 |[]=>af|_=>ag
def aad(ops:ab c7)(o:c7):fS->aE
 |.tmp t=>g' (lB ops o) t|.func _=>af|_=>ag
def aj6:ab (R×bm)->aE
 |[]=>af|_=>ag
def Pp(E:dO)(ops:ab c7)(o:c7)(s:bd):au<|bi<|aP×bd:=
 match o.op with
 | .call ⟨.value f,args,_⟩=>(match EH s f with
  | .clo F eG dy=>(match E.I F with
   | some g=>J (((nb e3 args.toList).run s 0 [] []).bind λr =>
     bif cT (r.2.rt|||lB ops o) (lB ops o)&&(aj6 r.2.wr&&(aj5 r.2.rb&&(aad ops o f&&HV s (xa eG dy r.1)))) then g ((E.b+o.dst.getD 0+1)*65536) (xa eG dy r.1) s else .fail)
   |none=>aq)
  |_=>aq)
 |_=>aq
def Zd(s aT:bd):ab R:=aT.w.take<|aT.w.length-s.w.length
def o8(s aT:bd):ab<|Nat×bm:=(Zd s aT).map λid=>(id,aT.bz id)
def pQ(E:dO)(ops:ab c7)(nv nt:R)(dX:aE):aE->R->ab c7->bd->ab pW->bi bd
 |_,_,[],s,iC=>bif !dX||(Li ops&&sr (m1 ops []) iC.reverse) then .leaf s else .fail
 |top,i,o::rest,s,iC=>
  OY ops o s
   (match(bif dX then Pp E ops o s else aq) with
   |some t=>t.bind λr=>bif g' (zi ops) i then .fail else s.yr (o8 s r.2) λbX=>n7 r.1 λv=>js nt o.dst bX v λaT=>pQ E ops nv nt dX top (i+1) rest aT (s_ dX i (sd s) (o8 s r.2) iC)
   |none=>((tv E o).run s 0 [] []).bind λr=>s.yr r.2.wr λbX=>n7 r.1 λv=>
    bif dX && !(cT (r.2.rt|||lB ops o)<|lB ops o) then .fail else
    bif g' (zi ops) i&&(vB v).isSome then
     (match vB v with
     |some c=>
      bif top then js nt o.dst bX (.sc .bool c) λaT=>JE aT (fD rest) ((fD rest).filter λk=>hv k nv||(YN rest).any (cT k))
       (.br c (js nt o.dst bX (.kb af) λs=>pQ E ops nv nt dX ag (i+1) rest s<|s_ dX i r.2.rb r.2.wr iC)<|js nt o.dst bX (.kb ag) λs=>pQ E ops nv nt dX ag (i+1) rest s<|s_ dX i r.2.rb r.2.wr iC)
      else .br c (js nt o.dst bX (.kb af) λs=>pQ E ops nv nt dX ag (i+1) rest s<|s_ dX i r.2.rb r.2.wr iC) (js nt o.dst bX (.kb ag) λs=>pQ E ops nv nt dX ag (i+1) rest s<|s_ dX i r.2.rb r.2.wr iC)
     |none=>.fail)
    else js nt o.dst bX v λs=>pQ E ops nv nt dX top (i+1) rest s<|s_ dX i r.2.rb r.2.wr iC)
   (js nt o.dst s .undef λs=>pQ E ops nv nt dX top (i+1) rest s iC)
def aR.jW{α:Type}(s:bd)(m:aR α):bi<|α×bd:=(m.run s 0 [] []).bind λr=>s.yr r.2.wr λs=>.leaf (r.1,s)
def Yw(E:dO)(d:R)(f:aP)(args:ab fS)(s:bd):au<|bi<|aP×bd:=
 match f with
 | .clo F eG dy=>(match E.I F with
  |some g=>J ((aR.jW s<|nb e3 args).bind λr=>g ((E.b+d+1)*65536) (xa eG dy r.1) r.2)
  |none=>aq)
 |_=>aq
def ZJ(E:dO)(o:c7)(s:bd):bi<|aP×bd:=
 let plain:bi<|aP×bd:=((tv E o).run s 0 [] []).bind λr=>s.yr r.2.wr λbX=>n7 r.1 λv=>.leaf (v,bX)
 match o.op with
 | .call ⟨.value f,args,_⟩=>(match Yw E (o.dst.getD 0) (EH s f) args.toList s with
  |some t=>t.bind λr=>n7 r.1 λv=>.leaf (v,r.2)
  |none=>plain)
 |_=>plain
def qq(E:dO)(ops:ab c7)(nv nt:R):aE->R->ab c7->bd->bi bd
 |_,_,[],s=>.leaf s
 |top,i,o::rest,s=>
  OY ops o s
   ((ZJ E o s).bind λr=>
    bif g' (zi ops) i&&(vB r.1).isSome then
     (match vB r.1 with
     |some c=>
      bif top then js nt o.dst r.2 (.sc .bool c) λaT=>JE aT (fD rest) ((fD rest).filter λk=>hv k nv||(YN rest).any (cT k))
       (.br c (js nt o.dst r.2 (.kb af) λs=>qq E ops nv nt ag (i+1) rest s)<|js nt o.dst r.2 (.kb ag) λs=>qq E ops nv nt ag (i+1) rest s)
      else .br c (js nt o.dst r.2 (.kb af) λs=>qq E ops nv nt ag (i+1) rest s) (js nt o.dst r.2 (.kb ag) λs=>qq E ops nv nt ag (i+1) rest s)
     |none=>.fail)
    else js nt o.dst r.2 r.1 λs=>qq E ops nv nt top (i+1) rest s)
   (js nt o.dst s .undef λs=>qq E ops nv nt top (i+1) rest s)
def VG(E:dO):ab c7->aE
 |[]=>ag
 | o :: r=>(match o.op with
  |.call ⟨.value<|.func f,_,_⟩=>(E.I f).isSome
  |.call ⟨.value _,_,_⟩=>af
  |_=>ag)||VG E r
def al9(E:dO)(s:bd):ResultVar->aR aP
 |.tmp t=>.rt t .ret
 |.cell a t=>(aR.opt<|E.cp t).bind λt=>.rt a λv=>zR t v
def S1(e:aw):aP->aR (ab e.a_)
 |.own id _=>.rb id fun
  |.ob b9 l=>(aR.opt<|aw.l? b9 e l).bind λx=>.fk id .ga<|.ret x
  |_=>.fail
 |.osl id off n=>.rb id fun
  |.ob b9 l=>(aR.opt<|aw.l? b9 e l).bind λx=>.fk id .ga<|.ret (cut x off n)
  |_=>.fail
 |.nil=>.ret []
 |_=>.fail
def auH(e:aw):aP->aR (ab e.a_)
 |.csl b9 l=>aR.opt<|aw.l? b9 e l
 |.nil=>.ret []
 |_=>.fail
def aon:(r:e6)->aP->aR r.a_
 |.im t,v=>nl af t v
 |.ow e,v=>S1 e v
 |.cl e,v=>auH e v
def pN(s:bd):(rs:ab e6)->ab aP->bi (e0 rs)
 |[],[]=>.leaf ()
 |r::rs,v::vs=>(aR.jW s<|aon r v).bind λx=>(pN x.2 rs vs).bind λy=>.leaf (x.1,y)
 |_,_=>.fail
def oq(E:dO)(s:bd):ab ResultVar->bi (ab aP)
 |[]=>.leaf []
 |r::rs=>(aR.jW s<|al9 E s r).bind λv=>(oq E s rs).bind λvs=>.leaf<|v.1::vs
def eS:Code->ab R
 |.region _ ops _=>fD ops.toList
 |.seq a b=>eS a++eS b
 |.cond _ a b=>eS a++eS b
 |.block _ b=>eS b
 |.loop b=>eS b
 |.scope b=>eS b
 |.rangeFunc _ bE a b=>bE.toList++eS a++eS b
 |_=>[]
def po:ab R->ab R
 |[]=>[]
 |i::r=>bif r.any (cT i) then po r else i::po r
inductive li where
 |d (t:aw)|o (id:R) (e:aw)|p (a b:li)
 deriving Inhabited
def li.a_:li->Type
 |.d t=>t.a_|.o _ e=>ab e.a_|.p a b=>a.a_×b.a_
def li.zero:(s:li)->s.a_
 |.d t=>t.zero|.o _ e=>([]:ab e.a_)|.p a b=>(a.zero,b.zero)
inductive fT where
 |sl (i:R) (t:aw)|ow (i id:R) (e:aw)|bk (id:R) (e:aw)|bx (id:R) (t:aw) (s:li)|it (id:R) (s:ab aN)
 deriving Inhabited
def fT.a_:fT->Type
 |.sl _ t=>t.a_|.ow _ _ e=>ab e.a_|.bk _ e=>ab e.a_|.bx _ _ s=>s.a_|.it _ _=>R
def fT.zero:(e:fT)->e.a_
 |.sl _ t=>t.zero|.ow _ _ e=>([]:ab e.a_)|.bk _ e=>([]:ab e.a_)|.bx _ _ s=>s.zero|.it _ _=>(0:R)
def n4:ab fT->Type
 |[]=>aj|e::r=>e.a_×n4 r
def ao7:(l:ab fT)->n4 l
 |[]=>()|e::r=>(e.zero,ao7 r)
def ys(Y ac:bd):R->R->aP->aP->au li
 |0,_,_,_=>aq
 |fu+1,n,.two a b,.two c d=>match ys Y ac fu (2*n) a c,ys Y ac fu (2*n+1) b d with
  |some (.d t),J (.d u)=>J<|.d (.pair t u)
  |some x,J y=>J (.p x y)|_,_=>aq
 |fu+1,n,.two a b,.sc (.pair s t) x=>match ys Y ac fu (2*n) a (.sc s x.1),ys Y ac fu (2*n+1) b (.sc t x.2) with
  |some (.d t),J (.d u)=>J<|.d (.pair t u)
  |some x,J y=>J (.p x y)|_,_=>aq
 |fu+1,n,.sc (.pair s t) x,.two c d=>match ys Y ac fu (2*n) (.sc s x.1) c,ys Y ac fu (2*n+1) (.sc t x.2) d with
  |some (.d t),J (.d u)=>J<|.d (.pair t u)
  |some x,J y=>J (.p x y)|_,_=>aq
 |_+1,_,.sc t _,.sc t' _=>bif aw.is t t' then J (.d t) else aq
 |_+1,_,.sc t _,.kb _=>bif aw.is t .bool then J (.d .bool) else aq
 |_+1,_,.kb _,.sc t _=>bif aw.is t .bool then J (.d .bool) else aq
 |_+1,_,.kb _,.kb _=>J<|.d .bool
 |_+1,_,.nil,.sc (.sl e) _=>J<|.d (.sl e)
 |_+1,_,.sc (.sl e) _,.nil=>J<|.d (.sl e)
 |_+1,n,.nil,.own id _=>(match ac.bz id with|.ob e _=>J (.o n e)|.fz e _=>J (.d<|.sl e)|_=>aq)
 |_+1,n,.own id _,.nil=>(match Y.bz id with|.ob e _=>J (.o n e)|.fz e _=>J (.d<|.sl e)|_=>aq)
 | _+1,n, .own id _, .own qf _=>(match Y.bz id,ac.bz qf with
   |.ob e _,.ob b9 _=>bif aw.is e b9 then J (.o n e) else aq
   |.fz e _,.ob b9 _=>bif aw.is e b9 then J (.d<|.sl e) else aq
   |.ob e _,.fz b9 _=>bif aw.is e b9 then J (.d<|.sl e) else aq
   |.fz e _,.fz b9 _=>bif aw.is e b9 then J (.d<|.sl e) else aq
   |_,_=>aq)
 |_+1,_,.sc (.sl e) _,.own id _=>(match ac.bz id with|.ob b9 _=>bif aw.is e b9 then J (.d<|.sl e) else aq|.fz b9 _=>bif aw.is e b9 then J (.d<|.sl e) else aq|_=>aq)
 |_+1,_,.own id _,.sc (.sl e) _=>(match Y.bz id with|.ob b9 _=>bif aw.is e b9 then J (.d<|.sl e) else aq|.fz b9 _=>bif aw.is e b9 then J (.d<|.sl e) else aq|_=>aq)
 |_+1,n,.nil,.osl id _ _=>(match ac.bz id with|.ob e _=>J (.o n e)|.fz e _=>J (.d<|.sl e)|_=>aq)
 |_+1,n,.osl id _ _,.nil=>(match Y.bz id with|.ob e _=>J (.o n e)|.fz e _=>J (.d<|.sl e)|_=>aq)
 | _+1,n, .osl id _ _, .own qf _=>(match Y.bz id,ac.bz qf with
   |.ob e _,.ob b9 _=>bif aw.is e b9 then J (.o n e) else aq
   |.fz e _,.ob b9 _=>bif aw.is e b9 then J (.d<|.sl e) else aq
   |.ob e _,.fz b9 _=>bif aw.is e b9 then J (.d<|.sl e) else aq
   |.fz e _,.fz b9 _=>bif aw.is e b9 then J (.d<|.sl e) else aq
   |_,_=>aq)
 | _+1,n, .own id _, .osl qf _ _=>(match Y.bz id,ac.bz qf with
   |.ob e _,.ob b9 _=>bif aw.is e b9 then J (.o n e) else aq
   |.fz e _,.ob b9 _=>bif aw.is e b9 then J (.d<|.sl e) else aq
   |.ob e _,.fz b9 _=>bif aw.is e b9 then J (.d<|.sl e) else aq
   |.fz e _,.fz b9 _=>bif aw.is e b9 then J (.d<|.sl e) else aq
   |_,_=>aq)
 |_+1,_,.osl _ _ _,.osl _ _ _=>aq
 |_+1,_,_,_=>aq
def GA:li->aw
 |.d t=>t|.o _ e=>.sl e|.p a b=>.pair (GA a)<|GA b
def mK:li->ab R
 |.d _=>[]|.o id _=>[id]|.p a b=>mK a++mK b
def i3:ab fT->ab R
 |[]=>[]
 |.ow _ id _::r=>id::i3 r
 |.bx _ _ sh::r=>mK sh++i3 r
 |_::r=>i3 r
def eg:ab fT->ab R
 |[]=>[]
 |.bk id _::r=>id::eg r
 |.bx id _ _::r=>id::eg r
 |.it id _::r=>id::eg r
 |_::r=>eg r
def xf:ab fT->ab R
 |[]=>[]
 |.sl i _::r=>i::xf r
 |.ow i _ _::r=>i::xf r
 |_::r=>xf r
def B9:bm->aE
 |.new=>af|_=>ag
def B7:fT->aE
 |.bk _ _=>af|_=>ag
def P1:ab R->aE
 |[]=>af
 |i::r=>!(r.any<|Nat.beq i)&&P1 r
def O6(base:bd)(es:ab fT)(D8:ab R):aE:=
 P1 (i3 es++eg es)&&(i3 es).all (λid=>B9<|base.bz id)&&(eg es).all (λid=>!(B9<|base.bz id))&&(xf es).all (λi=>D8.any<|Nat.beq i)
def Es(base:bd)(es:ab fT)(s:bd):aE:=
 (s.w.take<|s.w.length-base.w.length).all λid=>B9 (base.bz id)||(eg es).any (cT id)
def z4(e:aw):aP->aR (ab e.a_)
 |.nil=>bif hv 0 e.size then .ret []else .fail
 |.own id _=>.rb id fun|.ob b9 l=>(aR.opt<|aw.l? b9 e l).bind λx=>.fk id .ga (.ret x)|_=>.fail
 |.osl id off n=>.rb id fun|.ob b9 l=>(aR.opt<|aw.l? b9 e l).bind λx=>.fk id .ga (.ret<|cut x off n)|_=>.fail
 |_=>.fail
def SQ:aP->au (aP×aP)
 |.two u v=>J (u,v)
 |.sc (.pair t u) x=>J (.sc t x.1,.sc u x.2)
 |_=>aq
def CD:(sh:li)->aP->aR sh.a_
 |.d t,v=>akH t v
 |.o _ e,v=>z4 e v
 |.p a b,v=>match SQ v with
  |some (u,w)=>(CD a u).bind λx=>(CD b w).bind λy=>.ret (x,y)
  |none=>.fail
def hY:(sh:li)->sh.a_->aP×ab (R×bm)
 |.d t,x=>(.sc t x,[])
 |.o id e,l=>(.own id ag,[(id,.ob e l)])
 |.p a b,x=>(.two (hY a x.1).1 (hY b x.2).1,(hY a x.1).2++(hY b x.2).2)
def CB(s:bd):(e:fT)->bi (e.a_×bd)
 |.sl i t=>aR.jW s<|.rt i λv=>akH t v
 |.ow i _ e=>aR.jW s<|.rt i λv=>z4 e v
 |.bk id e=>aR.jW s (.rb id fun|.ob b9 l=>aR.opt (aw.l? b9 e l)|_=>.fail)
 |.bx id t sh=>aR.jW s (.rb id fun|.box t' v=>bif aw.is t' t&&aw.is (GA sh) t then CD sh v else .fail|_=>.fail)
 |.it id _=>aR.jW s (.rb id fun|.it _ p=>.ret p|_=>.fail)
def tx(s:bd):(l:ab fT)->bi (n4 l×bd)
 |[]=>.leaf ((),s)
 |e::r=>bif B7 e then(tx s r).bind λy=>(CB y.2 e).bind λx=>.leaf ((x.1,y.1),x.2)
  else(CB s e).bind λx=>(tx x.2 r).bind λy=>.leaf ((x.1,y.1),y.2)
def PW(h:ab<|Nat×bm):R->R->R
 |0,i=>i
 |n+1,i=>match se h i with|.new=>i|_=>PW h n<|i+1000000
def Fd{β:Type 1}(s:bd):(e:fT)->e.a_->(bd->β)->β
 |.sl i t,x,k=>s.Db i (.sc t x) k
 |.ow i id e,l,k=>s.Da id (.ob e l) λs=>s.Db i (.own id ag) k
 |.bk id e,l,k=>s.Da id (.ob e l) k
 |.bx id t sh,x,k=>s.yr (hY sh x).2 λs=>s.Da id (.box t (hY sh x).1) k
 |.it id _,p,k=>(match s.bz id with|.it str _=>s.Da id (.it str p) k|_=>k s)
def r?{β:Type 1}(s:bd):(l:ab fT)->n4 l->(bd->β)->β
 |[],_,k=>k s
 |e::r,x,k=>Fd s e x.1 λs=>r? s r x.2 k
def ano(s:bd)(n i:R)(v:aP):ab bd->au li
 |[]=>aq
 |c'::r=>match ys s c' 60 n v (c'.cw i) with|some x=>J x|none=>ano s n i v r
def anG(b:R)(s:bd)(Bq:ab bd):ab R->ab fT
 |[]=>[]
 |i::r=>
  let rest:=anG b s Bq r
  match Bq with
  |[]=>(match s.cw i with|.sc t _=>.sl i t::rest|.kb _=>.sl i .bool::rest|_=>rest)
  |_::_=>match ano s (PW s.h 9<|16*(b+i)+15) i (s.cw i) Bq with
   |some (.d t)=>.sl i t::rest
   |some (.o id e)=>.ow i id e::rest
   |_=>rest
def FM:aw->aP->aP->aP×aP
 |.sl e,.nil,.nil=>(.sc (.sl e) ([]:ab e.a_),.sc (.sl e) ([]:ab e.a_))
 |.pair a b,.two u v,.two u' dH=>(.two (FM a u u').1 (FM b v dH).1,.two (FM a u u').2 (FM b v dH).2)
 |_,v,dH=>(v,dH)
def adl(s:bd)(Bq:ab bd)(aof:ab R):ab (R×bm)->ab fT
 |[]=>[]
 |(id,b)::r=>
  let rest:=adl s Bq aof r
  bif Bq.any (λc'=>(c'.w.take<|c'.w.length-s.w.length).any<|Nat.beq id) && !(aof.any<|Nat.beq id) then
   match b,Bq with
   | .box t v,c' :: _=>(match c'.bz id with
    |.box _ dH=>(match ys s c' 60 (PW s.h 9<|1000003*(id+1)) (FM t v dH).1 (FM t v dH).2 with|some sh=>.bx id t sh::rest|none=>rest)
    |_=>rest)
   |.box t v,[]=>(match ys s s 60 (PW s.h 9<|1000003*(id+1)) v v with|some sh=>.bx id t sh::rest|none=>rest)
   |.ob e _,_=>.bk id e::rest
   |.it str _,_=>.it id str::rest
   |_,_=>rest
  else rest
def FL(s:bd):ab fT->ab R
 |[]=>[]
 |.ow i _ _::r=>(match s.cw i with|.own id _=>id::FL s r|.osl id _ _=>id::FL s r|_=>FL s r)
 |.bx id _ _::r=>id::FL s r
 |_::r=>FL s r
def Bs{β:Type 1}:li->(li->β)->β
 |.d t,k=>qV t λt=>k<|.d t
 |.o i e,k=>qV e λe=>k<|.o i e
 |.p a b,k=>Bs a λa=>Bs b λb=>k<|.p a b
def avX{β:Type 1}(t:li)(k:li->β):Bs t k=k t:=by
 induction t generalizing k with
 |d t=>simp only[Bs,Ou]
 |o i e=>simp only[Bs,Ou]
 |p a b b6 ak=>simp only[Bs,b6,ak]
def ze{β:Type 1}:ab fT->(ab fT->β)->β
 |[],k=>k []
 |.sl i t::r,k=>qV t λt=>ze r λr=>k<|.sl i t::r
 |.ow i id e::r,k=>qV e λe=>ze r λr=>k<|.ow i id e::r
 |.bk i e::r,k=>qV e λe=>ze r λr=>k<|.bk i e::r
 |.bx i t s::r,k=>Bs s λs=>ze r λr=>k<|.bx i t s::r
 |.it i s::r,k=>ze r λr=>k<|.it i s::r
def avV{β:Type 1}(l:ab fT)(k:ab fT->β):ze l k=k l:=by
 induction l generalizing k with
 |nil=>rfl
 |cons e r ih=>cases e<;>simp only[ze,Ou,avX,ih]
def Zp{ρ:Type}:ab (k3 ρ)->ab bd
 |[]=>[]
 |.nx s::r=>s::Zp r
 |_::r=>Zp r
def Cv{ρ:Type}:k3 ρ->au bd
 |.nx s=>J s
 |_=>aq
def Ey{ρ:Type}:ab (k3 ρ)->ab R
 |[]=>[]
 |.ex k _::r=>bif (Ey r).any (cT k) then Ey r else k::Ey r
 |_::r=>Ey r
def SR{ρ:Type}:ab (k3 ρ)->ab bd
 |[]=>[]
 |.nx s::r=>s::SR r
 |.ex _ s::r=>s::SR r
 |_::r=>SR r
def pF{σ ρ:Type}(f:σ->au (aL σ ρ)):R->σ->au (aL σ ρ)
 |0,_=>aq
 |n+1,x=>match f x with
  |some (.nx wQ)=>pF f n wQ
  |r=>r
open Classical in
def bG{σ ρ:Type}(f:σ->au (aL σ ρ))(x:σ):au<|aL σ ρ:=
 if h:∃n,(pF f n x).isSome then pF f (choose h) x else aq
def UW(s:bd):ab fT->ab R
 |[]=>[]
 |.bx id _ _::r=>(match s.bz id with|.box _ v=>eP v|_=>[])++UW s r
 |_::r=>UW s r
def aqO(l:ab R):fT->aE
 |.bk id _=>!(l.any<|Nat.beq id)
 |_=>ag
def entries{ρ:Type}(b:R)(s:bd)(JL:ab<|k3 ρ)(D8:ab R):ab fT:=
 let agb:=anG b s (Zp JL) D8
 let Wh:=adl s (SR JL) (FL s agb) s.h
 agb++(Wh.filter (λe=>!(B7 e))++Wh.filter (aqO<|UW s Wh))
def Lq{ρ:Type}(base:bd)(es:ab fT):k3 ρ->bi (aL (n4 es) ρ)
 |.nx c'=>(tx c' es).bind λy=>bif Es base es y.2 then .leaf (aL.nx y.1) else .fail
 |.ex k c'=>(tx c' es).bind λy=>bif Es base es y.2 then .leaf (aL.ex k y.1) else .fail
 |.rt r=>.leaf<|aL.rt r
def Ez{ρ:Type}(k:R)(s:bd):ab R->bi (k3 ρ)
 |[]=>.fail
 |[i]=>.chk (bU k i)<|.leaf (.ex i s)
 |i::r=>.br (bU k i) (.leaf<|.ex i s)<|Ez k s r
def rh:ab R->Code->aE
 |_,.skip=>af
 |_,.label _=>af
 |_,.region _ _ _=>af
 |cQ,.seq a b=>rh cQ a&&rh cQ b
 |cQ,.cond _ a b=>rh cQ a&&rh cQ b
 |cQ,.block i b=>rh (i::cQ) b
 |cQ,.loop b=>rh cQ b
 |cQ,.exit i=>cQ.any<|Nat.beq i
 |_,_=>ag
def aj4(E:dO):aE:=match E.Pn with|none=>af|some _=>ag
def jx:R:=999999999
def iN:R:=1000000000
def J1(m:R):ab c7->au (ab c7×au R×fS×R×c7)
 |[]=>aq
 |o::r=>match J1 m r with
  |some q=>J (o::q.1,q.2)
  | none=>(match r,o with
   | [],⟨dD, .call ⟨.value<|.func f,args,e?⟩,ty,jI,rO,aq⟩=>bif cT f m then (match args.toList with
    |[c,.const<|.int .i64<|.ofNat k]=>J ([],dD,c,k,⟨dD,.call ⟨.value<|.func f,args,e?⟩,ty,jI,rO,aq⟩)
    |_=>aq) else aq
   |_,_=>aq)
def PU(E:dO)(ops:ab c7):au<|List c7×au R×fS×R×c7:=match E.Pn with|some p=>J1 p.1 ops|none=>aq
def OW(n:R):ab c7->aE
 |[]=>af
 |o::r=>(match o.guard with|some (g,_)=>hv g n|none=>af)&&OW n r
def JP(l:ab c7)(o:c7):aE:=xe 0 (l++[o])&&OW (T l) l&&(List.range<|List.length l).all λi=>g' ((m1 (l++[o]) []).getD (T l) 0) i
def Z'(E:dO):c7->au (R×au R×pf×ab fS)
 |⟨dD,.call ⟨.value<|.func f,args,_⟩,_,_,_,aq⟩=>(match E.Q f with|some s=>J (f,dD,s,args.toList)|none=>aq)
 |_=>aq
def FX(E:dO):ab c7->au (ab c7×(R×au R×pf×ab fS)×c7×ab c7)
 |[]=>aq
 | o :: r=>(match Z' E o with
  |some q=>J ([],q,o,r)
  | none=>(match FX E r with | some p=>J (o :: p.1,p.2) | none=>aq))
def Ig{ρ:Type}(k:R)(s:bd):ab R->bi (k3 ρ)
 |[]=>.fail
 |[i]=>.chk (bU k i)<|.leaf (.ex (iN+i) s)
 |i::r=>.br (bU k i) (.leaf<|.ex (iN+i) s)<|Ig k s r
def J0{ρ:Type}(nt:R)(dD:au R)(c:fS)(k:R)(s:bd):bi<|k3 ρ:=
 (aR.jW s<|e3 c).bind λr=>match r.1 with
   |.sc .bool v=>.br v (js nt dD s .bad λs=>.leaf<|.nx s)<|.leaf (.ex (iN+k) s)
   |.kb v=>bif v then js nt dD s .bad λs=>.leaf (.nx s) else .leaf<|.ex (iN+k) s
   |_=>.fail
def S?{ρ:Type}(f:bd->bi (k3 ρ)):R->bd->bi (k3 ρ)
 |0,_=>.fail
 |n+1,s=>(f s).bind fun
  |.nx c'=>S? f n c'
  |o=>.leaf o
section
variable (E:dO) (rs:ab e6) (res:ab ResultVar) (nv nt:R) (inl:aE)
def run:Code->bd->bi (k3<|e0 rs)
 |.skip,s=>.leaf<|.nx s
 |.label _,s=>.leaf<|.nx s
 | .region _ ops dX,s=>(match PU E ops.toList with
  |some q=>bif dX then(bif JP q.1 q.2.2.2.2 then(pQ E q.1 nv nt af af 0 q.1 s []).bind λs=>J0 nt q.2.1 q.2.2.1 q.2.2.2.1 s else .fail) else(qq E ops.toList nv nt af 0 q.1 s).bind λs=>J0 nt q.2.1 q.2.2.1 q.2.2.2.1 s
  |none=>match FX E ops.toList with
  |some (gZ,q,_,iE)=>bif dX then .fail else(qq E ops.toList nv nt af 0 gZ s).bind λbX=>(aR.jW bX<|(nb e3 q.2.2.2).bind λbE=>VC q.2.2.1 bE).bind λr=>
    .br (bU r.1.1 0) (js nt q.2.1 r.2 r.1.2 λeX=>(qq E ops.toList nv nt af (gZ.length+1) iE eX).bind λfj=>.leaf<|.nx fj) (Ig r.1.1 r.2 q.2.2.1.ks)
  | none=>bif !dX && VG E ops.toList then (qq E ops.toList nv nt af 0 ops.toList s).bind λs => .leaf (.nx s) else (pQ E ops.toList nv nt dX af 0 ops.toList s []).bind λs => .leaf<|.nx s)
 |.seq a b,s=>(run a s).bind fun
  |.nx c'=>run b c'
  |o=>.leaf o
 |.cond c a b,s=>(aR.jW s<|e3 c).bind λr=>match r.1 with
  |.kb v=>bif v then run a s else run b s
  |.sc .bool v=>
   bif E.U && !(rh [] a&&rh [] b) then(bif v then run a s else run b s) else
   bif rh [] a&&rh [] b&&aj4 E then
    (JE s (po<|eS a++eS b) ((po<|eS a++eS b).filter λk=>hv k nv)
     (.br v ((run a s).ol Cv)<|(run b s).ol Cv)).bind λs=>.leaf (.nx s)
   else .br v (run a s)<|run b s
  |_=>.fail
 |.block id b,s=>bif Nat.ble jx id then .fail else(run b s).bind fun
  |.ex k c'=>bif cT k id then .leaf (.nx c') else .leaf<|.ex k c'
  |o=>.leaf o
 |.exit id,s=>bif Nat.ble jx id then .fail else .leaf<|.ex id s
 |.scope b,s=>run b s
 |.ret,s=>bif inl then .leaf (.ex jx s) else(oq E s res).bind λvs=>(pN s rs vs).bind λr=>.leaf<|.rt r
 |.loop b,s=>bif E.U then S? (λs=>run b s) 64 s else
  (run b s).q9 λJL=>
  ze (entries E.b s JL<|po<|eS b) λes=>
  (tx s es).bind λoA=>Me oA.2 (po<|eS b) λbase=>
   bif O6 base es (po<|eS b) then
    .cs (ao7 es) (AW rs) (bG (λx=>(r? base es x λs=>bi.bind (run b s)<|Lq base es).cf) oA.1) (λ_=>.fail) (λk x=>r? base es x λs=>Ez k s<|Ey JL) (λr=>.leaf<|.rt r)
   else .fail
 |_,_=>.fail
end
def oG:(ts:ab aw)->i_ ts->ab aP
 |[],_=>[]
 |t::ts,x=>.sc t x.1::oG ts x.2
def OC{β:Type 1}:R->R->ey->(ey->β)->β
 |0,_,t,k=>k t
 |n+1,i,t,k=>wE 40 t i .undef λt=>OC n (i+1) t k
def fill{β:Type 1}(n:R):ab aP->R->ey->(ey->β)->β
 |[],i,t,k=>OC (n-i) i t k
 |v::r,i,t,k=>n7 v λv=>wE 40 t i v λt=>fill n r (i+1) t k
def PS(E:dO)(fn:Func)(nv:R)(ts:ab aw)(rs:ab e6)(x:i_ ts):au<|e0 rs:=
 match fn.body with
 |none=>aq
 | some c=>bif !(Nat.ble fn.ntmps 1000000) then aq else (fill fn.ntmps (oG ts x) 0 .e λt=>bi.bind (run E rs fn.results.toList nv fn.ntmps ag c ⟨t,[],[]⟩) fun
   |.rt r=>.leaf r
   |.nx s=>(oq E s fn.results.toList).bind λvs=>pN s rs vs
   |.ex _ _=>.fail).cf
def HF(t:aw):aR t.a_:=.rb 3 λb=>match b with
 |.box t' v=>bif aw.is t' t then(nl af t v).bind λx=>.rb 3 λe7=>match e7 with
  |.box fP _=>bif aw.is fP t then .fk 3 .ga (.ret x) else .fail
  |_=>.fail
  else .fail
 |_=>.fail
def ue(E:dO)(t:aw)(rs:ab e6)(res:ab ResultVar)(s:bd):bi<|t.a_×e0 rs:=
 (oq E s res).bind λvs=>(aR.jW s<|HF t).bind λz=>(pN z.2 rs vs).bind λr=>.leaf (z.1,r)
def JZ(E:dO)(fn:Func)(nv:R)(t:aw)(ts:ab aw)(rs:ab e6)(x:t.a_×i_ ts):au<|t.a_×e0 rs:=
 match fn.body with
 |none=>aq
 | some c=>bif !(Nat.ble fn.ntmps 1000000) then aq else (fill fn.ntmps (.ptr 3 [] :: oG ts x.2) 0 .e λb8=>bi.bind (run E [] fn.results.toList nv fn.ntmps af c ⟨b8,[(3, .box t<|.sc t x.1)],[]⟩) fun
   |.nx s=>ue E t rs fn.results.toList s
   |.ex k s=>bif cT k jx then ue E t rs fn.results.toList s else .fail
   |.rt _=>.fail).cf
def PT(E:dO)(fn:Func)(nv:R)(t:aw)(ts:ab aw)(rs:ab e6)(x:t.a_×i_ ts):au<|t.a_×R×e0 rs:=
 match fn.body with
 |none=>aq
 | some c=>bif !(Nat.ble fn.ntmps 1000000) then aq else (fill fn.ntmps (.ptr 3 [] :: oG ts x.2) 0 .e λb8=>bi.bind (run E [] fn.results.toList nv fn.ntmps af c ⟨b8,[(3, .box t<|.sc t x.1)],[]⟩) fun
   |.nx s=>(ue E t rs fn.results.toList s).bind λz=>.leaf (z.1,0,z.2)
   |.ex k s=>bif cT k jx then(ue E t rs fn.results.toList s).bind λz=>.leaf (z.1,0,z.2) else
     bif hv iN k then(aR.jW s<|HF t).bind λz=>.leaf (z.1,k-iN,AW rs) else .fail
   |.rt _=>.fail).cf
def Cp:ab fS->aE
 |[]=>af|_=>ag
def z9(bM:R):au R->aP
 |none=>.sc (.op 1) ()|some k=>.ifc bM (.int .i64)<|bc k
def HZ:Code->au (R×R×ab fS)
 |.region _ ops dX=>bif dX then aq else match ops.toList with
  |[⟨J d,.makeFunc (.func F) first y8,_,_,_,aq⟩,⟨aq,.defer ⟨.value<|.tmp y?,args,_⟩,_,_,_,aq⟩]=>bif cT d y?&&(Cp first.toList&&Cp args.toList) then J (d,F,y8.toList) else aq
  |_=>aq
 |_=>aq
def Aw:Code->au (Code×(R×R×ab fS)×Code)
 | .seq a b=>(match HZ a with
  |some q=>J (.skip,q,b)
  | none=>(match Aw b with | some p=>J (.seq a p.1,p.2) | none=>aq))
 |_=>aq
def LS:Code->au (R×Code)
 | .seq (.region _ ops ag) b=>(match ops.toList with
  |[⟨J d,.call ⟨.builtin .recover,args,_⟩,_,_,_,aq⟩]=>bif Cp args.toList then J (d,b) else aq
  |_=>aq)
 |_=>aq
def t?(E EC:dO)(fn f_:Func)(ne jT bM:R)(C:Code)(rs:ab e6)(dy:ab jw)(o:au R)(s:bd):bi<|e0 rs:=
 fill f_.ntmps (dy.map jw.pv) 0 .e λaHh=>js f_.ntmps (J jT) ⟨aHh,s.h,s.w⟩ (z9 bM o) λsw=>
  bi.bind (run EC [] f_.results.toList ne f_.ntmps af C sw) fun
   |.nx fj=>(oq E ⟨s.t,fj.h,fj.w⟩ fn.results.toList).bind λvs=>pN ⟨s.t,fj.h,fj.w⟩ rs vs
   |.ex k fj=>bif cT k jx then(oq E ⟨s.t,fj.h,fj.w⟩ fn.results.toList).bind λvs=>pN ⟨s.t,fj.h,fj.w⟩ rs vs else .fail
   |.rt _=>.fail
def Y8(E EC:dO)(fn f_:Func)(nv ne bM:R)(ts:ab aw)(rs:ab e6)(x:i_ ts):au<|e0 rs:=
 match fn.body,f_.body with
 | some c,J a9=>(match Aw c,LS a9 with
  |some (A,q,B),J (jT,C)=>bif !(Nat.ble fn.ntmps 1000000&&(Nat.ble f_.ntmps 1000000&&cT f_.results.size 0)) then aq else
   (fill fn.ntmps (oG ts x) 0 .e λt=>bi.bind (run E [] fn.results.toList nv fn.ntmps af A ⟨t,[],[]⟩) fun
    |.nx bX=>(aR.jW bX<|(nb e3 q.2.2).bind λb=>nb El b).bind λdy=>js fn.ntmps (J q.1) dy.2 .bad λaT=>
     bi.bind (run E [] fn.results.toList nv fn.ntmps af B aT) fun
      |.nx eX=>t? E EC fn f_ ne jT bM C rs dy.1 aq eX
      |.ex k eX=>bif cT k jx then t? E EC fn f_ ne jT bM C rs dy.1 aq eX else bif hv iN k then t? E EC fn f_ ne jT bM C rs dy.1 (J<|k-iN) eX else .fail
      |.rt _=>.fail
    |_=>.fail).cf
  |_,_=>aq)
 |_,_=>aq
def Dr:ab aP->aP
 |[v]=>v
 |vs=>.tup<|vs.foldr aP.two (.sc .unit ())
def j0(E:dO)(fn:Func)(nv:R):g3:=λb args s=>
 match fn.body with
 |none=>.fail
 |some c=>bif !(Nat.ble fn.ntmps 1000000) then .fail else fill fn.ntmps args 0 .e λt=>bi.bind (run { E with b:=b } [] fn.results.toList nv fn.ntmps af c ⟨t,s.h,s.w⟩) fun
   |.nx aT=>(oq { E with b:=b } aT fn.results.toList).bind λvs=>bif vs.all x6 then .leaf (Dr vs,⟨s.t,aT.h,aT.w⟩) else .fail
   |.ex k aT=>bif cT k jx then(oq { E with b:=b } aT fn.results.toList).bind λvs=>bif vs.all x6 then .leaf (Dr vs,⟨s.t,aT.h,aT.w⟩) else .fail else .fail
   |.rt _=>.fail
end Yp
namespace Yp
open Go
def d7:=@List.length_append
def lg:=@List.getElem?_eq_getElem
def i7:=@List.mem_append
def sO:=@List.getElem_of_mem
def Hc:=@List.drop_drop
def MO:=@UInt8.toNat_ofNat'
def DK:=@Nat.mod_lt
def acU:=@UInt32.toNat_ofNat'
def M2:=@Bool.false_eq_true
def DY:=@List.mem_iff_getElem
def ME:=@Nat.blt_eq
def TC:=@Nat.mul_comm
def TD:=@Nat.div_add_mod
theorem cj.S5(k:gL)(n:O):cj.to k (cj.of k n)=k.wrap n:=by
 cases k<;>simp only[cj.to,cj.of,i64,Jw,aiQ,aiR,u8,u16,u32,u64,aV,J4,aY,cC]
 .simp[UInt8.ofInt,IntKind.wrap,IntKind.signed,IntKind.bits];omega
 .simp[UInt16.ofInt,IntKind.wrap,IntKind.signed,IntKind.bits];omega
 .simp[UInt32.ofInt,IntKind.wrap,IntKind.signed,IntKind.bits];omega
 simp[UInt64.ofInt,IntKind.wrap,IntKind.signed,IntKind.bits];omega
def cj.aoo(k:gL)(n:O)(h:JS k n=af):cj.to k (cj.lit k n)=n:=by
 cases k<;>cases n<;>simp only[cj.to,cj.lit,u8,u16,u32,u64,aV,J4,aY,cC,JS,ME,M2]at h ⊢
 .rw[UInt8.ofInt,MO];simp;omega
 .rw[UInt16.ofInt,UInt16.toNat_ofNat'];simp;omega
 .rw[UInt32.ofInt,acU];simp;omega
 rw[UInt64.ofInt,UInt64.toNat_ofNat'];simp;omega
def dg(c:cO aS)(o n:R):ab aS:=(c.toList.drop o).take n
abbrev jq{α:Type}(l:ab α)(i:R):au α:=l[i]?
abbrev cX:=R->au Obj
def cX.cU(H H':cX):Prop:=∀b o,H b=J o->H' b=J o
theorem cX.cU.refl(H:cX):H.cU H:=λ_ _ h=>h
def cX.cU.trans{H H' acx:cX}(h:H.cU H')(g:H'.cU acx):H.cU acx:=λb o e=>g b o<|h b o e
def Co:R->aS
 |0=>.nilFunc|1=>.nilIface|2=>.map aq|_=>.pointer aq
def ug(l:ab R):R->aS
 |0=>.nilFunc
 |n+1=>match l[n]? with|some f=>.func (.func f) #[] #[]|none=>.nilFunc
def ba(H:cX):(t:aw)->t.a_->ab aS->Prop
 |.bool,b,cs=>cs=[.bool b]
 |.int k,x,cs=>cs=[.int k<|cj.to k x]
 |.str,s,cs=>cs=[.string ⟨(s:ab aN).toArray⟩]
 |.sl e,l,cs=>∃a cap,cs=[.slice a (T (l:ab e.a_)) cap]/\T (l:ab e.a_)<=cap/\cap<=maxLen /\
   ((l:ab e.a_)=[]\/∃b o c el fz,a=J ⟨b,o,aq⟩/\H b=J (.cells c el fz)/\o+T (l:ab e.a_)*e.size<=c.size /\
    ∀(i:R) (x:e.a_),jq (α:=e.a_) l i=J x->ba H e x (dg c (o+i*e.size) e.size))
 |.unit,_,cs=>cs=[]
 |.pair a b,x,cs=>∃c1 c2,cs=c1++c2/\ba H a x.1 c1/\ba H b x.2 c2
 |.ar n e,l,cs=>T (l:ab e.a_)=n/\T cs=n*e.size /\
   ∀(i:R) (x:e.a_),jq (α:=e.a_) l i=J x->ba H e x ((cs.drop<|i*e.size).take e.size)
 |.op k,_,cs=>cs=[Co k]
 |.fn l,x,cs=>cs=[ug l x]
def aBP(k:R):(Co k).oneCell'=af:=by unfold Co;split<;>simp[Value.oneCell']
def awf(l:ab R)(x:R):(ug l x).oneCell'=af:=by
 cases x with
 |zero=>simp[ug,Value.oneCell']
 |succ n=>simp only[ug];split<;>simp[Value.oneCell']
def ba.length{H:cX}:∀{t:aw} {x:t.a_} {cs:ab aS},ba H t x cs->T cs=t.size
 |.bool,_,_,h=>aKU
 |.int _,_,_,h=>aKU
 |.str,_,_,h=>aKU
 |.sl _,_,_,h=>by obtain⟨a,cap,h,_⟩:=h;rw[h];rfl
 |.unit,_,_,h=>aKU
 |.pair a b,_,_,h=>by obtain⟨c1,c2,h,Y,ac⟩:=h;rw[h,d7,ba.length Y,ba.length ac];rfl
 |.ar n e,_,_,h=>by exact h.2.1
 |.op k,_,_,h=>aKU
 |.fn l,_,_,h=>aKU
def ba.mono{H H':cX}(hl:H.cU H'):∀{t:aw} {x:t.a_} {cs:ab aS},ba H t x cs->ba H' t x cs
 |.bool,_,_,h=>by exact h
 |.int _,_,_,h=>by exact h
 |.str,_,_,h=>by exact h
 |.sl e,_,_,h=>by
  obtain⟨a,cap,h,aA,hm,ac⟩:=h;refine⟨a,cap,h,aA,hm,?_⟩;rcases ac with ac|⟨b,o,c,el,fz,b6,ak,hs,hx⟩
  .grind
  exact .inr ⟨b,o,c,el,fz,b6,hl _ _ ak,hs,λi x ao=>ba.mono hl<|hx i x ao⟩
 |.unit,_,_,h=>by exact h
 |.pair a b,_,_,h=>by obtain⟨c1,c2,h,Y,ac⟩:=h;exact⟨c1,c2,h,ba.mono hl Y,ba.mono hl ac⟩
 |.ar n e,_,_,h=>by exact⟨h.1,h.2.1,λi x ao=>ba.mono hl<|h.2.2 i x ao⟩
 |.op k,_,_,h=>by exact h
 |.fn l,_,_,h=>by exact h
def ajI(n e:R)(cs:ab α)(h:T cs=n*e)(v:α)(a3:v∈cs):∃i,i<n/\v∈(cs.drop<|i*e).take e:=by
 obtain⟨j,aF,rfl⟩:=sO a3;have aX:0<e:=by
  rcases Nat.eq_zero_or_pos e with aC|aC;· subst aC;simp at h;subst h;simp at aF
  exact aC
 refine⟨j/e,?_,?_⟩
 .exact Nat.div_lt_of_lt_mul (by grind)
 rw[DY];have hm:j%e<e:=DK _ aX;have a?:j/e*e+j%e=j:=by rw[TC];exact TD j e
 have cP:j%e<T ((cs.drop<|j/e*e).take e):=by
  grind
 grind
def ba.one{H:cX}:∀{t:aw} {x:t.a_} {cs:ab aS},ba H t x cs->∀v∈cs,v.oneCell'=af
 |.bool,_,_,h=>aL1
 |.int _,_,_,h=>aL1
 |.str,_,_,h=>aL1
 |.sl _,_,_,h=>by rw[ba]at h;obtain⟨a,cap,h,_⟩:=h;subst h;simp[Value.oneCell']
 |.unit,_,_,h=>by rw[ba]at h;subst h;simp
 |.pair a b,_,_,h=>by
  rw[ba]at h;obtain⟨c1,c2,h,Y,ac⟩:=h;subst h;intro v a3;rcases i7.1 a3 with a3|a3
  .exact ba.one Y v a3
  exact ba.one ac v a3
 |.ar n e,x,cs,h=>by rw[ba]at h;obtain⟨ax,hl,hx⟩:=h;intro v a3;obtain⟨i,ao,hm⟩:=ajI n e.size cs hl v a3;have:i<T (x:ab e.a_):=V;exact ba.one (hx i _<|lg this) v hm
 |.op k,_,_,h=>by rw[ba]at h;subst h;intro v a3;simp at a3;rw[a3];exact aBP k
 |.fn l,_,_,h=>by rw[ba]at h;subst h;intro v a3;simp at a3;rw[a3];exact awf l _
def db(t:aw)(cs:ab aS):aS:=if t.isAgg then .agg cs.toArray else cs.headD undef
theorem JY{H:cX}{t:aw}{x:t.a_}{cs:ab aS}(h:ba H t x cs):(db t cs).cells=cs.toArray:=by
 cases t with
 |unit=>rfl
 |pair a b=>rfl
 |ar n e=>rfl
 |bool=>rw[ba]at h;subst h;rfl
 |int k=>rw[ba]at h;subst h;rfl
 |str=>rw[ba]at h;subst h;rfl
 |sl e=>rw[ba]at h;obtain⟨a,cap,h,_⟩:=h;subst h;rfl
 |op k =>subst h;unfold Co;split<;>rfl
 |fn l =>subst h;unfold ug;split<;>(try split)<;>rfl
theorem sx{c:cO aS}(h:o+n<=c.size):T (dg c o n)=n:=by simp[dg];omega
theorem yp{c:cO aS}(h:i<n):(dg c o n)[i]?=c[o+i]?:=by simp[dg,h]
theorem Gu(c:cO aS)(o n p m:R)(h:p+m<=n):((dg c o n).drop p).take m=dg c (o+p) m:=by
 grind [dg,List.drop_take,List.drop_drop]
def Sm(c:cO aS)(o m n:R):dg c o (m+n)=dg c o m++dg c (o+m) n:=by
 grind [dg,List.drop_drop]
def ba.j1{H:cX}{k:gL}{x:(aw.int k).a_}{cs:ab aS}:ba H (.int k) x cs↔cs=[.int k<|cj.to k x]:=by rw[ba]
def ba.pm{H:cX}{x:aw.bool.a_}{cs:ab aS}:ba H .bool x cs↔cs=[.bool x]:=by rw[ba]
def ba.u2{H:cX}{x:aw.str.a_}{cs:ab aS}:ba H .str x cs↔cs=[.string ⟨(x:ab aN).toArray⟩]:=by rw[ba]
def ba.Dy{H:cX}{x:aw.unit.a_}{cs:ab aS}:ba H .unit x cs↔cs=[]:=by rw[ba]
def ba.nO{H:cX}{a b:aw}{x:(aw.pair a b).a_}{cs:ab aS}:ba H (.pair a b) x cs↔∃c1 c2,cs=c1++c2/\ba H a x.1 c1/\ba H b x.2 c2:=by rw[ba]
def ba.w9{H:cX}{e:aw}{l:(aw.ar n e).a_}{cs:ab aS}:ba H (.ar n e) l cs↔T (l:ab e.a_)=n/\T cs=n*e.size /\
  ∀(i:R) (x:e.a_),jq (α:=e.a_) l i=J x->ba H e x ((cs.drop<|i*e.size).take e.size):=by rw[ba]
def ba.D6{H:cX}{e:aw}{l:ab e.a_}{cs:ab aS}:ba H (.ar n e) l cs↔T l=n/\T cs=n*e.size /\
  ∀(i:R) (x:e.a_),jq l i=J x->ba H e x ((cs.drop<|i*e.size).take e.size):=ba.w9
def ba.Dh{H:cX}{e:aw}{l:(aw.sl e).a_}{cs:ab aS}:ba H (.sl e) l cs↔∃a cap,cs=[.slice a (T (l:ab e.a_)) cap]/\T (l:ab e.a_)<=cap/\cap<=maxLen /\
 ((l:ab e.a_)=[]\/∃b o c el fz,a=J ⟨b,o,aq⟩/\H b=J (.cells c el fz)/\o+T (l:ab e.a_)*e.size<=c.size /\
  ∀(i:R) (x:e.a_),jq (α:=e.a_) l i=J x->ba H e x (dg c (o+i*e.size) e.size)):=by rw[ba]
def ba.jt{H:cX}{e:aw}{l:ab e.a_}{cs:ab aS}:ba H (.sl e) l cs↔∃a cap,cs=[.slice a (T l) cap]/\T l<=cap/\cap<=maxLen /\
 (l=[]\/∃b o c el fz,a=J ⟨b,o,aq⟩/\H b=J (.cells c el fz)/\o+T l*e.size<=c.size /\
  ∀(i:R) (x:e.a_),jq l i=J x->ba H e x (dg c (o+i*e.size) e.size)):=ba.Dh
def ba.x_{H:cX}{x:(aw.op k).a_}{cs:ab aS}:ba H (.op k) x cs↔cs=[Co k]:=by rw[ba]
def ba.Iq{H:cX}{l:ab R}{x:(aw.fn l).a_}{cs:ab aS}:ba H (.fn l) x cs↔cs=[ug l x]:=by rw[ba]
def cx:=@Nat.le_refl
def d5:=@Bool.and_eq_true
def iM:=@Nat.eq_of_beq_eq_true
def lf:=@Nat.add_mul
def yL:=@List.all_cons
def Nc:=@List.replicate_succ
def Mv:=@List.drop_left
def auZ:=@Nat.beq_eq
def eB:aw->ab aS
 |.bool=>[.bool ag]|.int k=>[.int k 0]|.str=>[.string ⟨#[]⟩]|.sl _=>[.slice aq 0 0]|.unit=>[]
 |.pair a b=>eB a++eB b
 |.ar n e=>(eC n<|eB e).flatten
 |.op k=>[Co k]|.fn _=>[.nilFunc]
theorem tX:∀t:aw,T (eB t)=t.size
 |.bool=>rfl|.int _=>rfl|.str=>rfl|.sl _=>rfl|.unit=>rfl
 |.pair a b=>by simp[eB,aw.size,tX a,tX b]
 |.ar n e=>by simp[eB,aw.size,tX e]
 |.op _=>rfl|.fn _=>rfl
def awe(l:ab α)(n i:R)(h:i<n):((eC n l).flatten.drop<|i*T l).take (T l)=l:=by
 induction n generalizing i with
 |zero=>omega
 |succ n ih=>
  rw[Nc,List.flatten_cons];cases i with
  |zero=>simp
  |succ i=>
   grind [Nat.add_mul,List.drop_drop,List.drop_left]
def cj.aHr(k:gL):cj.to k (cj.zero k)=0:=by cases k<;>first|rfl|decide
theorem ba.zero(H:cX):∀t:aw,ba H t t.zero (eB t)
 |.bool=>aNX
 |.int k=>by rw[ba];simp[eB,aw.zero,cj.aHr]
 |.str=>aNX
 |.sl e=>by rw[ba];exact⟨aq,0,rfl,cx _,ai_,.inl rfl⟩
 |.unit=>aNX
 |.pair a b=>by rw[ba];exact⟨_,_,rfl,ba.zero H a,ba.zero H b⟩
 |.ar n e=>by
  rw[ba];refine⟨by simp[aw.zero],by simp[eB,tX e],λi x ao => ?_⟩;simp only[jq,aw.zero,List.getElem?_replicate]at ao;split at ao
  .rename_i h
   cases ao;have:=awe (eB e) n i h;rw[tX]at this;simp only[eB];rw[this];exact ba.zero H e
  cases ao
 |.op k=>aNX
 |.fn l=>aNX
def uB(P:d_)(tid:cD)(t:aw):Prop:=
 ∃i,P.info? tid=J i/\i.size=t.size/\i.bytes<=t.bytes/\i.zero=J (db t<|eB t)
def Kd:R->au TypeDesc->Prop
 |0,d=>∃a b c,d=J (.func a b c)
 |1,d=>∃a,d=J (.interface a)
 |2,d=>∃a b,d=J (.map a b)
 |3,d=>∃a,d=J (.pointer a)
 |_,_=>fI
def dz(P:d_):aw->(cD->Prop)×(ab Field->R->Prop)
 |.bool=>(λt=>P.underlying t=J .bool/\uB P t .bool,λ_ _=>fI)
 |.int k=>(λt=>P.underlying t=J (.int k)/\uB P t (.int k),λ_ _=>fI)
 |.str=>(λt=>P.underlying t=J .string/\uB P t .str,λ_ _=>fI)
 |.sl e=>(λt=>(∃bM,P.underlying t=J (.slice bM)/\(dz P e).1 bM)/\uB P t (.sl e),λ_ _=>fI)
 |.unit=>(λt=>(∃f',P.underlying t=J (.struct f')/\f'.toList=[])/\uB P t .unit,λl _=>l=[])
 |.pair a b=>
  (λt=>(∃f',P.underlying t=J (.struct f')/\∃f r,f'.toList=f::r/\f.offset=0/\(dz P a).1 f.type/\(dz P b).2 r a.size)/\uB P t (.pair a b),
   λl off=>∃f r,l=f::r/\f.offset=off/\(dz P a).1 f.type/\(dz P b).2 r (off+a.size))
 |.ar n e=>(λt=>(∃bM,P.underlying t=J (.array n bM)/\(dz P e).1 bM)/\uB P t (.ar n e),λ_ _=>fI)
 |.op k=>(λt=>Kd k (P.underlying t)/\uB P t (.op k),λ_ _=>fI)
 |.fn l=>(λt=>Kd 0 (P.underlying t)/\uB P t (.fn l),λ_ _=>fI)
def oM{P:d_}:∀{t:aw} {tid:cD},(dz P t).1 tid->uB P tid t
 |.bool,_,h=>h.2|.int _,_,h=>h.2|.str,_,h=>h.2|.sl _,_,h=>h.2|.unit,_,h=>h.2|.pair _ _,_,h=>h.2|.ar _ _,_,h=>h.2|.op _,_,h=>h.2|.fn _,_,h=>h.2
def VL:aS->aS->aE
 |.bool a,.bool b=>a==b
 |.int k n,.int k' m=>decide (k=k')&&decide (n=m)
 |.string s,.string t=>s.data.toList.isEmpty&&t.data.toList.isEmpty
 |.slice aq 0 0,.slice aq 0 0=>af
 |.nilFunc,.nilFunc=>af
 |.nilIface,.nilIface=>af
 |.map aq,.map aq=>af
 |.pointer aq,.pointer aq=>af
 |_,_=>ag
def auE{a b:aS}(h:VL a b=af):a=b:=by
 unfold VL at h;split at h
 .grind
 .grind
 .rename_i s t
  rcases s with⟨s⟩;rcases t with⟨t⟩
  grind
 .rfl
 .rfl
 .rfl
 .rfl
 .rfl
 cases h
def HT:ab aS->ab aS->aE
 |[],[]=>af
 |a::l,b::m=>VL a b&&HT l m
 |_,_=>ag
theorem VM:∀{l m:ab aS},HT l m=af->l=m
 |[],[],_=>rfl
 |a::l,b::m,h=>by simp only[HT,d5]at h;rw[auE h.1,VM h.2]
def aco(t:aw):au aS->aE
 |some (.agg cs)=>t.isAgg&&HT cs.toList (eB t)
 |some v=>!t.isAgg&&HT [v] (eB t)
 |none=>ag
def aId{t:aw}{o:au aS}(h:aco t o=af):o=J (db t<|eB t):=by
 unfold aco at h;split at h
 .rename_i cs
  simp at h;rw[<- VM h.2,db,if_pos h.1]
 .grind [VM,db]
 cases h
def uA(P:d_)(tid:cD)(t:aw):aE:=
 match P.info? tid with
 |some i=>cT i.size t.size&&Nat.ble i.bytes t.bytes&&aco t i.zero
 |none=>ag
def xS{P:d_}{tid:cD}{t:aw}(h:uA P tid t=af):uB P tid t:=by
 unfold uA at h;split at h
 .rename_i i ao
  simp at h;exact⟨i,ao,h.1.1,h.1.2,aId h.2⟩
 cases h
def Qd:R->au TypeDesc->aE
 |0,J (.func _ _ _)=>af
 |1,J (.interface _)=>af
 |2,J (.map _ _)=>af
 |3,J (.pointer _)=>af
 |_,_=>ag
def akA{d:au TypeDesc}(h:Qd k d=af):Kd k d:=by unfold Qd at h;split at h<;>first|exact⟨_,_,_,rfl⟩|exact⟨_,_,rfl⟩|exact⟨_,rfl⟩|cases h
def lO(P:d_):aw->(cD->aE)×(ab Field->R->aE)
 |.bool=>(λt=>(match P.underlying t with|some .bool=>af|_=>ag)&&uA P t .bool,λ_ _=>ag)
 |.int k=>(λt=>(match P.underlying t with|some (.int k')=>decide (k'=k)|_=>ag)&&uA P t (.int k),λ_ _=>ag)
 |.str=>(λt=>(match P.underlying t with|some .string=>af|_=>ag)&&uA P t .str,λ_ _=>ag)
 |.sl e=>(λt=>(match P.underlying t with|some (.slice bM)=>(lO P e).1 bM|_=>ag)&&uA P t (.sl e),λ_ _=>ag)
 |.unit=>(λt=>(match P.underlying t with|some (.struct f')=>f'.toList.isEmpty|_=>ag)&&uA P t .unit,λl _=>l.isEmpty)
 |.pair a b=>
  (λt=>(match P.underlying t with
   |some (.struct f')=>(match f'.toList with|f::r=>cT f.offset 0&&(lO P a).1 f.type&&(lO P b).2 r a.size|[]=>ag)
   | _=>ag) && uA P t (.pair a b),
   λl off=>match l with|f::r=>cT f.offset off&&(lO P a).1 f.type&&(lO P b).2 r (off+a.size)|[]=>ag)
 |.ar n e=>(λt=>(match P.underlying t with|some (.array m bM)=>cT m n&&(lO P e).1 bM|_=>ag)&&uA P t (.ar n e),λ_ _=>ag)
 |.op k=>(λt=>Qd k (P.underlying t)&&uA P t (.op k),λ_ _=>ag)
 |.fn l=>(λt=>Qd 0 (P.underlying t)&&uA P t (.fn l),λ_ _=>ag)
def vL{P:d_}:∀(t:aw),(∀tid,(lO P t).1 tid=af->(dz P t).1 tid)/\(∀l off,(lO P t).2 l off=af->(dz P t).2 l off)
 |.bool=>aKI
 |.int k=>by
  refine⟨λtid h => ?_,λl off h=>by cases h⟩;simp only[lO,d5]at h;refine⟨?_,xS h.2⟩;have Y:=h.1;split at Y
  .rename_i bq;simp at Y;rw[<- Y];exact bq
  cases Y
 |.str=>aKI
 |.sl e=>by
  refine⟨λtid h => ?_,λl off h=>by cases h⟩;simp only[lO,d5]at h;refine⟨?_,xS h.2⟩;have Y:=h.1;split at Y
  .rename_i bM bq;exact⟨bM,bq,(vL e).1 _ Y⟩
  cases Y
 |.unit=>by
  refine⟨λtid h => ?_,λl off h=>by simpa[lO,dz]using h⟩;simp only[lO,d5]at h;refine⟨?_,xS h.2⟩;have Y:=h.1;split at Y
  .rename_i f' bq;exact⟨f',bq,aPy⟩
  cases Y
 |.pair a b=>by
  refine⟨λtid h => ?_,λl off h => ?_⟩
  .simp only[lO,d5]at h
   refine⟨?_,xS h.2⟩;have Y:=h.1;split at Y
   .rename_i f' bq
    split at Y
    .rename_i f r hf
     simp only[d5,auZ]at Y;exact⟨f',bq,f,r,hf,Y.1.1,(vL a).1 _ Y.1.2,(vL b).2 _ _ Y.2⟩
    cases Y
   cases Y
  simp only[lO]at h;split at h
  .rename_i f r
   simp only[d5,auZ]at h;exact⟨f,r,rfl,h.1.1,(vL a).1 _ h.1.2,(vL b).2 _ _ h.2⟩
  cases h
 |.ar n e=>by
  refine⟨λtid h => ?_,λl off h=>by cases h⟩;simp only[lO,d5]at h;refine⟨?_,xS h.2⟩;have Y:=h.1;split at Y
  .rename_i m bM bq
   simp only[d5,auZ]at Y;rw[<- Y.1];exact⟨bM,bq,(vL e).1 _ Y.2⟩
  cases Y
 |.op k=>aLx
 |.fn k=>aLx
def ou(P:d_)(cp:R->au aw):Prop:=∀tid t,cp tid=J t->(dz P t).1 tid
def an9(P:d_):∀(l:ab<|Nat×aw),(l.all λp=>(lO P p.2).1 p.1)=af->ou P (Fp l)
 |[],_=>λtid t h=>by cases h
 |(i,u)::r,h=>λtid t ht=>by
  simp only[yL,d5]at h;simp only[Fp]at ht;cases ak:cT i tid with
  |true=>rw[ak]at ht;cases ht;rw[<- iM ak];exact(vL _).1 _ h.1
  |false=>rw[ak]at ht;exact an9 P r h.2 tid t ht
end Yp
namespace Yp
open Go
def jN:=@Option.some.injEq
def mV:=@Prod.mk.injEq
abbrev cV:=R->au (R×R×R)
def aw.e2:aw->ab n1->au (R×aw)
 |t,[]=>J (0,t)
 |.pair a _,.fst::p=>a.e2 p
 |.pair a b,.snd::p=>(b.e2 p).map λq=>(a.size+q.1,q.2)
 |.ar n e,.ix i::p=>if i<n then(e.e2 p).map λq=>(i*e.size+q.1,q.2) else aq
 |_,_=>aq
def iO(phx:cV)(id:R)(e:aw)(off len:R)(v:aS):Prop:=
 (len=0/\∃a,v=.slice a 0 0) \/
 ∃b o n cap,phx id=J (b,o,n)/\v=.slice (J ⟨b,o+off*e.size,aq⟩) len cap/\len<=cap/\cap<=maxLen/\o+(off+cap)*e.size<=n
def vj(phx:cV)(id:R)(e:aw)(off N:R)(v:aS):Prop:=
 (N<=off/\∃a,v=.slice a 0 0)\/∃b o n m cap,phx id=J (b,o,n)/\v=.slice (J ⟨b,o+off*e.size,aq⟩) m cap/\N<=off+cap
section
variable (phx:cV) (H:cX) (B:R->bm)
def w5:jw->aS->Prop
 | .ptr id p,v=>(match B id with
  |.box t _=>∃b o n off t',phx id=J (b,o,n)/\t.e2 p=J (off,t')/\v=.pointer (J ⟨b,o+off,aq⟩)
  |.fz _ _=>∃b o n,phx id=J (b,o,n)/\(p=[]->v=.pointer (J ⟨b,o,aq⟩))
  |.ga=>True
  |_=>fI)
 |.jA t x,v=>∃cs,ba H t x cs/\v=db t cs
def kM:ab jw->ab aS->Prop
 |[],vs=>vs=[]
 |c::r,vs=>∃v eV,vs=v::eV/\w5 phx H B c v/\kM r eV
def ci:aP->aS->Prop
 |.bad,_=>True
 |.undef,v=>v=Go.undef
 |.kb b,v=>v=.bool b
 |.nq c,v=>∃b,v=.bool b/\(b=af->c=af)
 |.nil,v=>v=.slice aq 0 0
 | .own id fm,v=>(match B id with
  |.ob e l=>iO phx id e 0 (T l) v/\(fm=af->T l≠0)
  |.fz e l=>iO phx id e 0 (T l) v/\(fm=af->T l≠0)
  |.ga=>True
  |_=>fI)
 | .osl id off n,v=>(match B id with
  |.ob e l=>off+n<=T l/\iO phx id e off n v/\vj phx id e off (T l) v
  |.fz e l=>off+n<=T l/\iO phx id e off n v
  |.box t _=>(match t with|.ar m e=>0<e.size/\off+n<=m/\iO phx id e off n v|_=>fI)
  |.ga=>True
  |_=>fI)
 |.csl e l,v=>∃a,v=.slice a (T l) (T l)/\ba H (.sl e) l [v]
 | .ptr id p,v=>(match B id with
  |.box t _=>∃b o n off t',phx id=J (b,o,n)/\t.e2 p=J (off,t')/\v=.pointer (J ⟨b,o+off,aq⟩)
  |.fz _ _=>∃b o n,phx id=J (b,o,n)/\(p=[]->v=.pointer (J ⟨b,o,aq⟩))
  |.ga=>True
  |_=>fI)
 | .opt id i p,v=>(match B id with
  |.ob e l=>i<T l/\∃b o n off t',phx id=J (b,o,n)/\e.e2 p=J (off,t')/\v=.pointer (J ⟨b,o+i*e.size+off,aq⟩)
  |.fz e l=>i<T l/\∃b o n off t',phx id=J (b,o,n)/\e.e2 p=J (off,t')/\v=.pointer (J ⟨b,o+i*e.size+off,aq⟩)
  |.ga=>True
  |_=>fI)
 |.ipt e l i p,v=>i<T l/\∃b o cap off t',ba H (.sl e) l [.slice (J ⟨b,o,aq⟩) (T l) cap]/\e.e2 p=J (off,t')/\v=.pointer (J ⟨b,o+i*e.size+off,aq⟩)
 | .itp id,v=>(match B id with
  |.it _ _=>∃b,phx id=J (b,0,0)/\v=.pointer (J ⟨b,0,aq⟩)
  |.ga=>True
  |_=>fI)
 |.clo f eG dy,v=>∃vs,kM phx H B dy vs/\v=.func (.func f) (vs.take eG).toArray (vs.drop eG).toArray
 |.ifc tid t x,v=>∃cs,ba H t x cs/\v=.iface tid (db t cs)
 | .mpp id,v=>(match B id with
  |.mp _ _ _=>∃b,phx id=J (b,0,0)/\v=.map (J b)
  |.ga=>True
  |_=>fI)
 | .psl id n,v=>(match B id with
  |.box t _=>t=nW n/\∃b o m cap,phx id=J (b,o,m)/\v=.slice (J ⟨b,o,aq⟩) n cap
  |.ga=>True
  |_=>fI)
 |.sc _ _,_=>fI
 |.two _ _,_=>fI
 |.agg _ _,_=>fI
 |.tup _,_=>fI
def fX:aP->aw->ab aS->Prop
 |.two u v,t,cs=>(match t with|.pair a b=>∃c1 c2,cs=c1++c2/\fX u a c1/\fX v b c2|_=>fI)
 |.sc t' x,t,cs=>∃h:t'=t,ba H t (h▸x) cs
 |.agg _ _,_,_=>fI
 |.tup _,_,_=>fI
 |.bad,t,cs=>T cs=t.size/\∀v∈cs,v.oneCell'=af
 |pv,t,cs=>t.isAgg=ag/\∃v,cs=[v]/\v.oneCell'=af/\ci phx H B pv v
def eR:aP->aS->Prop
 |.sc t x,v=>∃cs,ba H t x cs/\v=db t cs
 |.agg t a,v=>t.isAgg=af/\∃cs,fX phx H B a t cs/\v=.agg cs.toArray
 |pv,v=>ci phx H B pv v
def mZ:aP->ab aS->Prop
 |.two u r,vs=>∃v eV,vs=v::eV/\eR phx H B u v/\mZ r eV
 |.sc .unit _,vs=>vs=[]
 |_,_=>fI
def bI:aP->aS->Prop
 |.tup a,v=>∃vs,mZ phx H B a vs/\v=.tuple vs.toArray
 |pv,v=>eR phx H B pv v
end
def bm.cU:bm->bm->Prop
 |.new,_=>True
 |_,.ga=>True
 |.box t _,.box t' _=>t=t'
 |.box t _,.fz e l=>t=.ar (T l) e/\0<e.size
 |.ob e l,.ob b9 ik=>e=b9/\T l=ik.length
 |.ob e l,.fz b9 ik=>e=b9/\T l=ik.length
 |.fz e l,.fz b9 ik=>e=b9/\T l=ik.length
 |.it s _,.it c' _=>s=c'
 |.mp k v _,.mp k' dH _=>k=k'/\v=dH
 |_,_=>fI
theorem bm.cU.refl:∀b:bm,b.cU b
 |.new=>trivial|.ga=>trivial|.box _ _=>rfl|.ob _ _=>⟨rfl,rfl⟩|.fz _ _=>⟨rfl,rfl⟩|.it _ _=>rfl|.mp _ _ _=>⟨rfl,rfl⟩
def bm.jH:bm->aE
 |.new=>ag|_=>af
def vj.congr{phx phx':cV}{id:R}{e:aw}{v:aS}(h:phx' id=phx id)(az:vj phx id e off N v):vj phx' id e off N v:=by
 grind [vj]
def iO.cap{phx:cV}{id:R}{e:aw}{v:aS}(h:iO phx id e 0 n v):vj phx id e 0 n v:=by
 rcases h with⟨Y,a,ac⟩|⟨b,o,m,cap,Y,ac,av,_⟩
 .exact .inl ⟨V,a,ac⟩
 exact .inr ⟨b,o,m,n,cap,Y,ac,V⟩
def iO.congr{phx phx':cV}{id:R}{e:aw}{len:R}{v:aS}(h:phx' id=phx id)(az:iO phx id e off len v):iO phx' id e off len v:=by
 grind [iO]
section
variable {phx phx':cV} {H H':cX} {B B':R->bm}
def w5.mono(eN:∀id,(B id).jH=af->phx' id=phx id)(c6:H.cU H')(a4:∀id,(B id).cU<|B' id){c:jw}{v:aS}(h:w5 phx H B c v):w5 phx' H' B' c v:=by
 cases c with
 |jA t x=>exact aG_
 |ptr id p=>
  have ak:=a4 id;have hf:=eN id;simp only[w5]at h ⊢;cases kQ:B id<;>cases hb1:B' id<;>simp only[kQ,hb1,bm.jH]at ak hf h ⊢ <;> try(first|exact h.elim|exact ak.elim|trivial)
  all_goals first
   |(subst ak;rw[hf trivial];exact h)
   |(obtain⟨b,o,n,Y,ac⟩:=h;exact⟨b,o,n,(hf trivial).trans Y,ac⟩)
   | (
    obtain⟨b,o,n,off,t',Y,ac,av⟩:=h;exact⟨b,o,n,(hf trivial).trans Y,λhp=>aMY⟩)
def kM.mono(eN:∀id,(B id).jH=af->phx' id=phx id)(c6:H.cU H')(a4:∀id,(B id).cU<|B' id):∀{l:ab jw} {vs:ab aS},kM phx H B l vs->kM phx' H' B' l vs
 |[],_,h=>h
 |_::_,_,⟨v,eV,h,Y,ac⟩=>⟨v,eV,h,w5.mono eN c6 a4 Y,kM.mono eN c6 a4 ac⟩
def ci.mono(eN:∀id,(B id).jH=af->phx' id=phx id)(c6:H.cU H')(a4:∀id,(B id).cU<|B' id):∀{pv:aP} {v:aS},ci phx H B pv v->ci phx' H' B' pv v:=by
 intro pv v h;cases pv with
 |bad=>trivial
 |undef=>exact h
 |kb b=>exact h
 |nq c=>exact h
 |nil=>exact h
 |sc t x=>exact h
 |two a b=>exact h
 |agg t a=>exact h
 |tup a=>exact h
 |clo f eG dy=>obtain⟨vs,Y,ac⟩:=h;exact⟨vs,Y.mono eN c6 a4,ac⟩
 |ifc i t x=>exact aG_
 |csl e l=>exact aO8
 |ipt e l i p=>exact aMm
 |own id fm=>
  have ak:=a4 id;have hf:=eN id;simp only[ci]at h ⊢;cases kQ:B id<;>cases hb1:B' id<;>simp only[kQ,hb1,bm.jH]at ak hf h ⊢ <;> try(first|exact h.elim|exact ak.elim|trivial)
  all_goals
   obtain⟨rfl,hl⟩:=ak;rw[<- hl];exact⟨h.1.congr<|hf trivial,h.2⟩
 |osl id off n=>
  have ak:=a4 id;have hf:=eN id;simp only[ci]at h ⊢;cases kQ:B id<;>cases hb1:B' id<;>simp only[kQ,hb1,bm.cU,bm.jH]at ak hf h ⊢ <;> try(first|exact h.elim|exact ak.elim|trivial)
  all_goals first
   |(obtain⟨rfl,hl⟩:=ak;rw[<- hl];exact⟨h.1,h.2.1.congr<|hf trivial,h.2.2.congr<|hf trivial⟩)
   |(obtain⟨rfl,hl⟩:=ak;rw[<- hl];exact⟨h.1,h.2.1.congr<|hf trivial⟩)
   |(obtain⟨rfl,hl⟩:=ak;rw[<- hl];exact⟨h.1,h.2.congr<|hf trivial⟩)
   | (
    subst ak;rename_i t _ _;cases t<;>try exact h.elim
    exact⟨h.1,h.2.1,h.2.2.congr<|hf trivial⟩)
   |(obtain⟨ak,_⟩:=ak;subst ak;exact⟨h.2.1,h.2.2.congr<|hf trivial⟩)
 |ptr id p=>
  have ak:=a4 id;have hf:=eN id;simp only[ci]at h ⊢;cases kQ:B id<;>cases hb1:B' id<;>simp only[kQ,hb1,bm.cU,bm.jH]at ak hf h ⊢ <;> try(first|exact h.elim|exact ak.elim|trivial)
  all_goals first
   |(subst ak;rw[hf trivial];exact h)
   |(obtain⟨b,o,n,Y,ac⟩:=h;exact⟨b,o,n,(hf trivial).trans Y,ac⟩)
   | (
    obtain⟨b,o,n,off,t',Y,ac,av⟩:=h;exact⟨b,o,n,(hf trivial).trans Y,λhp=>aMY⟩)
 |opt id i p=>
  have ak:=a4 id;have hf:=eN id;simp only[ci]at h ⊢;cases kQ:B id<;>cases hb1:B' id<;>simp only[kQ,hb1,bm.cU,bm.jH]at ak hf h ⊢ <;> try(first|exact h.elim|exact ak.elim|trivial)
  all_goals
   grind
 |itp id=>
  have ak:=a4 id;have hf:=eN id;simp only[ci]at h ⊢;cases kQ:B id<;>cases hb1:B' id<;>simp only[kQ,hb1,bm.cU,bm.jH]at ak hf h ⊢ <;> try(first|exact h.elim|exact ak.elim|trivial)
  grind
 |mpp id=>
  have ak:=a4 id;have hf:=eN id;simp only[ci]at h ⊢;cases kQ:B id<;>cases hb1:B' id<;>simp only[kQ,hb1,bm.cU,bm.jH]at ak hf h ⊢ <;> try(first|exact h.elim|exact ak.elim|trivial)
  grind
 |psl id n=>
  have ak:=a4 id;have hf:=eN id;simp only[ci]at h ⊢;cases kQ:B id<;>cases hb1:B' id<;>simp only[kQ,hb1,bm.cU,bm.jH]at ak hf h ⊢ <;> try(first|exact h.elim|exact ak.elim|trivial)
  all_goals first
   |(subst ak;rw[hf trivial];exact h)
   |(obtain⟨h,_⟩:=h;cases n<;>exact ev (ak.1.symm.trans h)<|by simp[nW])
def fX.mono(eN:∀id,(B id).jH=af->phx' id=phx id)(c6:H.cU H')(a4:∀id,(B id).cU<|B' id):∀{pv:aP} {t:aw} {cs:ab aS},fX phx H B pv t cs->fX phx' H' B' pv t cs:=by
 intro pv;induction pv with
 |two u v bq a3=>
  intro t cs h;cases t<;>simp only[fX]at h ⊢ <;> try exact h
  grind
 |sc t' x=>intro t cs h;obtain⟨aC,h⟩:=h;exact⟨aC,h.mono c6⟩
 |agg t a=>intro t cs h;exact h
 |tup a=>intro t cs h;exact h
 |bad=>intro t cs h;exact h
 |_=>intro t cs h;obtain⟨aC,v,Y,ac,av⟩:=h;exact⟨aC,v,Y,ac,ci.mono eN c6 a4 av⟩
def eR.mono(eN:∀id,(B id).jH=af->phx' id=phx id)(c6:H.cU H')(a4:∀id,(B id).cU<|B' id){pv:aP}{v:aS}(h:eR phx H B pv v):eR phx' H' B' pv v:=by
 cases pv with
 |sc t x=>exact aG_
 |agg t a=>obtain⟨aC,cs,Y,ac⟩:=h;exact⟨aC,cs,fX.mono eN c6 a4 Y,ac⟩
 |_=>simp only[eR]at h ⊢;exact ci.mono eN c6 a4 h
def mZ.mono(eN:∀id,(B id).jH=af->phx' id=phx id)(c6:H.cU H')(a4:∀id,(B id).cU<|B' id):∀{pv:aP} {vs:ab aS},mZ phx H B pv vs->mZ phx' H' B' pv vs:=by
 intro pv;induction pv with
 |two u r bq az=>intro vs h;obtain⟨v,eV,aC,Y,ac⟩:=h;exact⟨v,eV,aC,eR.mono eN c6 a4 Y,az ac⟩
 |sc t x=>intro vs h;cases t<;>exact h
 |_=>intro vs h;exact h
def bI.mono(eN:∀id,(B id).jH=af->phx' id=phx id)(c6:H.cU H')(a4:∀id,(B id).cU<|B' id){pv:aP}{v:aS}(h:bI phx H B pv v):bI phx' H' B' pv v:=by
 cases pv with
 |tup a=>obtain⟨vs,Y,ac⟩:=h;exact⟨vs,mZ.mono eN c6 a4 Y,ac⟩
 |_=>simp only[bI]at h ⊢;exact eR.mono eN c6 a4 h
end
def fX.length{phx:cV}{H:cX}{B:R->bm}:∀{pv:aP} {t:aw} {cs:ab aS},fX phx H B pv t cs->T cs=t.size:=by
 intro pv;induction pv with
 |two u v bq a3 =>intro t cs h;cases t<;>simp only[fX]at h;obtain⟨c1,c2,h,Y,ac⟩:=h;rw[h,d7,bq Y,a3 ac];rfl
 |sc t' x=>intro t cs h;obtain⟨aC,h⟩:=h;exact h.length
 |agg t a=>intro t cs h;exact h.elim
 |tup a=>intro t cs h;exact h.elim
 |bad=>intro t cs h;exact h.1
 |_ =>intro t cs h;obtain⟨aC,v,Y,ac,av⟩:=h;subst Y;cases t<;>first|rfl|cases aC
def fX.one{phx:cV}{H:cX}{B:R->bm}:∀{pv:aP} {t:aw} {cs:ab aS},fX phx H B pv t cs->∀v∈cs,v.oneCell'=af:=by
 intro pv;induction pv with
 |two u v bq a3=>
  intro t cs h;cases t<;>simp only[fX]at h
  grind
 |sc t' x=>intro t cs h;obtain⟨aC,h⟩:=h;exact h.one
 |agg t a=>intro t cs h;exact h.elim
 |tup a=>intro t cs h;exact h.elim
 |bad=>intro t cs h;exact h.2
 |_=>
  intro t cs h;obtain⟨aC,v,Y,ac,av⟩:=h
  grind
end Yp
namespace Yp
open Go
def jO:=@Array.getElem?_eq_some_iff
def lI:=@Classical.byContradiction
def ge:=@Nat.lt_of_lt_of_le
def i6:=@Nat.le_trans
open Classical in
def view(w:bu)(M:R->Prop):cX:=λb=>if M b then aq else w.heap[b]?
def kY{w:bu}{M:R->Prop}{o:Obj}:view w M b=J o↔¬M b/\w.heap[b]?=J o:=by unfold view;simp
def AK{w w':bu}{M aZ:R->Prop}(h:∀b o,¬M b->w.heap[b]?=J o->¬aZ b/\w'.heap[b]?=J o):(view w M).cU<|view w' aZ:=by intro b o ak;rw[kY]at ak ⊢;exact h b o ak.1 ak.2
def jc(c:cO aS)(fz:R×R):Prop:=fz.1=fz.2\/c.size<=fz.1
def jc.no{c:cO aS}{fz:R×R}(h:jc c fz):∀i,i<c.size->¬(fz.1<=i/\i<fz.2):=λi ao aA=>by unfold jc at h;omega
theorem jc.same{c dj:cO aS}{fz:R×R}(h:jc c fz)(hs:dj.size=c.size):jc dj fz:=by unfold jc at *;rw[hs];exact h
def fY(H:cX)(e:aw)(l:ab e.a_)(c:cO aS)(o:R):Prop:=
 o+T l*e.size<=c.size/\∀(i:R) (x:e.a_),jq l i=J x->ba H e x (dg c (o+i*e.size) e.size)
def fY.mono{H H':cX}(hl:H.cU H'){e:aw}{l:ab e.a_}{c:cO aS}(h:fY H e l c o):fY H' e l c o:=
 ⟨h.1,λi x ao=>(h.2 i x ao).mono hl⟩
section
variable (phx:cV) (M:R->Prop) (w:bu) (H:cX) (B:R->bm)
def ms(kt:aw):ab (kt.a_×aP)->ab MapEntry->Prop
 |[],es=>es=[]
 |(k,v)::r,es=>∃e es',es=e::es'/\(∃an,ba H kt k an/\e.key=db kt an)/\eR phx H B v e.val/\ms kt r es'
def mY(id:R):bm->Prop
 |.new=>True
 |.ga=>True
 |.box t v=>∃b o c el fz,phx id=J (b,o,c.size)/\w.heap[b]?=J (.cells c el fz)/\o+t.size<=c.size/\fX phx H B v t (dg c o t.size)/\jc c fz/\M b
 |.ob e l=>0<e.size/\((phx id=aq/\T l=0)\/∃b o c el fz,phx id=J (b,o,c.size)/\w.heap[b]?=J (.cells c el fz)/\fY H e l c o/\jc c fz/\M b)
 |.fz e l=>0<e.size/\((phx id=aq/\T l=0)\/∃b o c el fz,phx id=J (b,o,c.size)/\H b=J (.cells c el fz)/\fY H e l c o)
 |.it s p=>∃b,phx id=J (b,0,0)/\w.heap[b]?=J (.stringIter ⟨s.toArray⟩ p)/\M b
 |.mp kt _ l=>∃b es oI,phx id=J (b,0,0)/\w.heap[b]?=J (.map es oI)/\ms phx H B kt l es.toList/\M b
end
def bm.gB:bm->aE
 |.box _ _=>af|.ob _ _=>af|.it _ _=>af|.mp _ _ _=>af|_=>ag
structure Kp where
 k:R->Prop
 x:R->Prop
structure cd(K:Kp)(w0:bu)(phx:cV)(M:R->Prop)(B:R->bm)(w:bu):Prop where
 os:w.os=w0.os
 tape:w.tape=w0.tape
 output:w.output=w0.output
 size:w0.heap.size<=w.heap.size
 keep:∀b,K.k b->w.heap[b]?=w0.heap[b]?
 klt:∀b,K.k b->b<w0.heap.size
 hid:∀b,K.k b->(M b↔K.x b)
 own:∀id,(B id).gB=af->∀x,phx id=J x->¬K.k x.1
 mlt:∀b,M b->b<w.heap.size
 blks:∀id,mY phx M w (view w M) B id (B id)
 sep:∀i j,i≠j->(B i).gB=af->(B j).gB=af->∀x y,phx i=J x->phx j=J y->x.1≠y.1
structure c8(phx:cV)(M:R->Prop)(B:R->bm)(w:bu)(phx':cV)(aZ:R->Prop)(B':R->bm)(w':bu):Prop where
 pl:∀id,(B id).jH=af->phx' id=phx id
 vw:(view w M).cU (view w' aZ)
 bl:∀id,(B id).cU<|B' id
theorem c8.refl(phx:cV)(M:R->Prop)(B:R->bm)(w:bu):c8 phx M B w phx M B w:=
 ⟨λ_ _=>rfl,cX.cU.refl _,λ_=>bm.cU.refl _⟩
def c8.p{phx phx':cV}{M aZ:R->Prop}{B B':R->bm}{w w':bu}(h:c8 phx M B w phx' aZ B' w'){pv:aP}{v:aS}(hp:bI phx (view w M) B pv v):bI phx' (view w' aZ) B' pv v:=
 hp.mono h.pl h.vw h.bl
def dx(B:R->bm)(id:R)(b:bm):R->bm:=λj=>if j=id then b else B j
theorem fH(B:R->bm)(id:R)(b:bm):dx B id b id=b:=by simp[dx]
theorem eY(B:R->bm){id:R}(b:bm)(h:j≠id):dx B id b j=B j:=by simp[dx,h]
def ms.mono{phx phx':cV}{H H':cX}{B B':R->bm}(eN:∀id,(B id).jH=af->phx' id=phx id)(c6:H.cU H')(a4:∀id,(B id).cU<|B' id){kt:aw}:∀{l:ab<|kt.a_×aP} {es:ab MapEntry},ms phx H B kt l es->ms phx' H' B' kt l es
 |[],_,h=>h
 |_::_,_,⟨e,es',h,⟨an,Y,ac⟩,av,aJ⟩=>⟨e,es',h,⟨an,Y.mono c6,ac⟩,av.mono eN c6 a4,ms.mono eN c6 a4 aJ⟩
def mY.congr{phx phx':cV}{M aZ:R->Prop}{w w':bu}{H H':cX}{B B':R->bm}{id:R}{b:bm}
  (hid:phx' id=phx id) (eN:∀id,(B id).jH=af->phx' id=phx id) (c6:H.cU H') (a4:∀id,(B id).cU<|B' id)
  (bR:∀x,phx id=J x->b.gB=af->w'.heap[x.1]?=w.heap[x.1]?) (eE:∀x,phx id=J x->b.gB=af->M x.1->aZ x.1)
  (h:mY phx M w H B id b):mY phx' aZ w' H' B' id b:=by
 cases b with
 |new=>trivial
 |ga=>trivial
 |box t v =>obtain⟨b,o,c,el,fz,Y,ac,av,aJ,bv,c_⟩:=h;exact⟨b,o,c,el,fz,hid.trans Y,(bR _ Y rfl).trans ac,av,aJ.mono eN c6 a4,bv,eE _ Y rfl c_⟩
 |ob e l=>
  refine⟨h.1,?_⟩;rcases h.2 with⟨Y,ac⟩|⟨b,o,c,el,fz,Y,ac,av,aJ,bv⟩
  .exact .inl ⟨hid.trans Y,ac⟩
  exact aMd
 |fz e l=>
  refine⟨h.1,?_⟩;rcases h.2 with⟨Y,ac⟩|⟨b,o,c,el,fz,Y,ac,av⟩
  .exact .inl ⟨hid.trans Y,ac⟩
  exact aNK
 |it s p =>exact aMn
 |mp kt vt l =>obtain⟨b,es,oI,Y,ac,av,aJ⟩:=h;exact⟨b,es,oI,hid.trans Y,(bR _ Y rfl).trans ac,av.mono eN c6 a4,eE _ Y rfl aJ⟩
section
variable {K:Kp} {w0 w:bu} {phx:cV} {M:R->Prop} {B:R->bm}
def cd.ga(h:cd K w0 phx M B w)(id:R):cd K w0 phx M (dx B id .ga) w/\c8 phx M B w phx M (dx B id .ga) w:=by
 have aX:c8 phx M B w phx M (dx B id .ga) w:=⟨λ_ _=>rfl,cX.cU.refl _,λj=>by
  by_cases aF:j=id
  .subst aF;rw[fH];cases B j<;>trivial
  rw[eY _ _ aF];exact bm.cU.refl _⟩
 refine⟨{ h with own:=λj aF => ?_,blks:=λj => ?_,sep:=λi j j? ao aF => ?_ },aX⟩
 .exact aKM
 .by_cases aF:j=id
  .subst aF;rw[fH];trivial
  rw[eY _ _ aF];exact(h.blks j).congr rfl aX.pl aX.vw aX.bl (λ_ _ _=>rfl)<|λ_ _ _ h=>h
 exact aa_
def pj(phx:cV)(M:R->Prop)(B:R->bm)(aZ:R->Prop)(B':R->bm):Prop:=
 (∀b,M b->¬aZ b->∃j,(B j).gB=af/\∃z,phx j=J z/\z.1=b)/\∀j,(B' j).gB=af->(B j).gB=af
theorem pj.refl(phx:cV)(M:R->Prop)(B:R->bm):pj phx M B M B:=⟨λb h ce=>ev h ce,λ_ h=>h⟩
def pj.trans{phx:cV}{M aZ sQ:R->Prop}{B B' G6:R->bm}(h:pj phx M B aZ B')(k:pj phx aZ B' sQ G6):pj phx M B sQ G6:=by
 refine⟨λb Y ac => ?_,λj aF=>h.2 j<|k.2 j aF⟩;by_cases hm:aZ b
 .obtain⟨j,aF,z,bN⟩:=k.1 b hm ac
  exact⟨j,h.2 j aF,z,bN⟩
 exact h.1 b Y hm
theorem cd.freeze(h:cd K w0 phx M B w){id:R}{e:aw}{l:ab e.a_}(ak:B id=.ob e l):
  ∃aZ,cd K w0 phx aZ (dx B id<|.fz e l) w/\c8 phx M B w phx aZ (dx B id<|.fz e l) w/\pj phx M B aZ (dx B id<|.fz e l):=by
 refine⟨λb=>M b/\∀x,phx id=J x->b≠x.1,?_⟩;have a3:(view w M).cU (view w λb=>M b/\∀x,phx id=J x->b≠x.1):=AK λb o eE bg=>⟨λaA=>eE aA.1,bg⟩;have aX:c8 phx M B w phx (λb=>M b/\∀x,phx id=J x->b≠x.1) (dx B id<|.fz e l) w:=⟨λ_ _=>rfl,a3,λj=>by
  by_cases aF:j=id
  .subst aF;rw[fH,ak];exact aNB
  rw[eY _ _ aF];exact bm.cU.refl _⟩
 refine⟨{ h with hid:=λb aB=>⟨λhm=>(h.hid b aB).1 hm.1,λhx=>⟨(h.hid b aB).2 hx,λx m' e=>h.own id (by rw[ak];rfl) x m'<|e▸aB⟩⟩,mlt:=λb hm=>h.mlt b hm.1,own:=λj aF => ?_,blks:=λj => ?_,sep:=λi j j? ao aF => ?_ },aX,⟨λb ak ax => ?_,λj aF => ?_⟩⟩
 .exact aKM
 .by_cases aF:j=id
  .subst aF;rw[fH]
   have az:=h.blks j;rw[ak]at az;refine⟨az.1,?_⟩;rcases az.2 with⟨Y,ac⟩|⟨b,o,c,el,fz,Y,ac,av,aJ,bv⟩
   .exact .inl ⟨Y,ac⟩
   exact .inr ⟨b,o,c,el,fz,Y,kY.2 ⟨λaA=>aA.2 _ Y rfl,ac⟩,av.mono a3⟩
  exact aKJ
 .exact aa_
 .exact aMo
 by_cases Y:j=id
 .subst Y;rw[fH]at aF;cases aF
 rw[eY _ _ Y]at aF;exact aF
def yw(phx:cV)(id:R)(x:au<|Nat×R×R):cV:=λj=>if j=id then x else phx j
theorem nm(phx:cV)(id:R)(x:au<|Nat×R×R):yw phx id x id=x:=by simp[yw]
def sE(phx:cV){id:R}(x:au<|Nat×R×R)(h:j≠id):yw phx id x j=phx j:=by simp[yw,h]
def cd.ER(h:cd K w0 phx M B w){w':bu}(Y:w'.os=w.os)(ac:w'.tape=w.tape)(av:w'.output=w.output)(hs:w.heap.size<=w'.heap.size)
 (ak:∀b,b<w.heap.size->w'.heap[b]?=w.heap[b]?) (N:R->Prop) (fE:∀b,N b->w.heap.size<=b/\b<w'.heap.size) :
 cd K w0 phx (λb=>M b\/N b) B w'/\c8 phx M B w phx (λb=>M b\/N b) B w':=by
 have bK:∀b o,w.heap[b]?=J o->b<w.heap.size:=λb o bg=>(jO.1 bg).1;have a3:(view w M).cU<|view w' λb=>M b\/N b:=AK λb o eE bg=>
  ⟨λaA=>aA.elim eE λax=>by have:=fE b ax;have:=bK b o bg;omega,(ak b<|bK b o bg).trans bg⟩
 have aX:c8 phx M B w phx (λb=>M b\/N b) B w':=⟨λ_ _=>rfl,a3,λ_=>bm.cU.refl _⟩;refine⟨{ os:=Y.trans h.os,tape:=ac.trans h.tape,output:=av.trans h.output,size:=i6 h.size hs,keep:=λb aB => ?_,klt:=h.klt,hid:=λb aB=>⟨λhm => ?_,λhx=>.inl<|(h.hid b aB).2 hx⟩,own:=h.own,mlt:=λb hm => ?_,blks:=λj => ?_,sep:=h.sep },aX⟩
 .exact(ak b<|ge (h.klt b aB) h.size).trans (h.keep b aB)
 .rcases hm with hm|hm
  .exact(h.hid b aB).1 hm
  have:=fE b hm;have:=h.klt b aB;have:=h.size;omega
 .rcases hm with hm|hm
  .exact ge (h.mlt b hm) hs
  exact(fE b hm).2
 refine(h.blks j).congr rfl aX.pl aX.vw aX.bl (λx hx hm=>ak _ ?_)<|λx _ _ hm=>.inl hm;have az:=h.blks j;generalize B j=bl at az hm;cases bl with
 |new=>cases hm
 |ga=>cases hm
 |fz e l=>cases hm
 |box t v=>obtain⟨b,o,c,el,fz,Y,ac,_⟩:=az;exact aMj
 |ob e l=>
  rcases az.2 with⟨Y,_⟩|⟨b,o,c,el,fz,Y,ac,_⟩
  .rw[Y]at hx;cases hx
  exact aMj
 |it s p=>obtain⟨b,Y,ac,_⟩:=az;exact aMj
 |mp kt vt l=>obtain⟨b,es,oI,Y,ac,_⟩:=az;exact aMj
def cd.w8(h:cd K w0 phx M B w){id:R}(hid:B id=.new)(lk:bm)(x:au<|Nat×R×R)
  (xJ:lk.gB=af->∀y,x=J y->¬K.k y.1) (aiz:lk.gB=af->∀y,x=J y->∀j,(B j).gB=af->∀z,phx j=J z->z.1≠y.1)
  (az:c8 phx M B w (yw phx id x) M (dx B id lk) w->mY (yw phx id x) M w (view w M) (dx B id lk) id lk) :
  cd K w0 (yw phx id x) M (dx B id lk) w/\c8 phx M B w (yw phx id x) M (dx B id lk) w:=by
 have aX:c8 phx M B w (yw phx id x) M (dx B id lk) w:=⟨λj aF=>sE _ _ (λe=>by subst e;rw[hid]at aF;cases aF),cX.cU.refl _,λj=>by
  by_cases aF:j=id
  .subst aF;rw[fH,hid];trivial
  rw[eY _ _ aF];exact bm.cU.refl _⟩
 refine⟨{ h with own:=λj aF y bW => ?_,blks:=λj => ?_,sep:=λi j j? ao aF y z bW bN => ?_ },aX⟩
 .by_cases Y:j=id
  .subst Y;rw[fH]at aF;rw[nm]at bW;exact xJ aF y bW
  rw[eY _ _ Y]at aF;rw[sE _ _ Y]at bW;exact h.own j aF y bW
 .by_cases aF:j=id
  .subst aF;rw[fH];exact az aX
  rw[eY _ _ aF];exact(h.blks j).congr (sE _ _ aF) aX.pl aX.vw aX.bl (λ_ _ _=>rfl)<|λ_ _ _ h=>h
 by_cases Y:i=id
 .subst Y
  have ac:j≠i:=λe=>j? e.symm;rw[fH]at ao;rw[eY _ _ ac]at aF;rw[nm]at bW;rw[sE _ _ ac]at bN;exact(aiz ao y bW j aF z bN).symm
 by_cases ac:j=id
 .subst ac
  rw[fH]at aF;rw[eY _ _ Y]at ao;rw[nm]at bN;rw[sE _ _ Y]at bW;exact aiz aF z bN i ao y bW
 rw[eY _ _ Y]at ao;rw[eY _ _ ac]at aF;rw[sE _ _ Y]at bW;rw[sE _ _ ac]at bN;exact h.sep i j j? ao aF y z bW bN
def cd.put(h:cd K w0 phx M B w){id:R}{x:R×R×R}(hm:(B id).gB=af)(hx:phx id=J x)(Xj:M x.1){w':bu}
 (Y:w'.os=w.os) (ac:w'.tape=w.tape) (av:w'.output=w.output) (hs:w'.heap.size=w.heap.size)
 (ak:∀b,b≠x.1->w'.heap[b]?=w.heap[b]?) (lk:bm) (ct:(B id).cU lk)
 (az:c8 phx M B w phx M (dx B id lk) w'->mY phx M w' (view w' M) (dx B id lk) id lk) :
 cd K w0 phx M (dx B id lk) w'/\c8 phx M B w phx M (dx B id lk) w':=by
 have a3:(view w M).cU<|view w' M:=AK λb o eE bg=>⟨eE,(ak b λe=>eE<|e▸Xj).trans bg⟩;have aX:c8 phx M B w phx M (dx B id lk) w':=⟨λ_ _=>rfl,a3,λj=>by
  by_cases aF:j=id
  .subst aF;rw[fH];exact ct
  rw[eY _ _ aF];exact bm.cU.refl _⟩
 refine⟨{ os:=Y.trans h.os,tape:=ac.trans h.tape,output:=av.trans h.output,size:=hs▸h.size,keep:=λb aB => ?_,klt:=h.klt,hid:=h.hid,own:=λj aF => ?_,mlt:=λb hm=>hs▸h.mlt b hm,blks:=λj => ?_,sep:=λi j j? ao aF => ?_ },aX⟩
 .exact(ak b λe=>h.own id hm x hx<|e▸aB).trans (h.keep b aB)
 .by_cases Y:j=id
  .subst Y;exact h.own j hm
  rw[eY _ _ Y]at aF;exact h.own j aF
 .by_cases aF:j=id
  .subst aF;rw[fH];exact az aX
  rw[eY _ _ aF];exact(h.blks j).congr rfl aX.pl aX.vw aX.bl (λy bW r6=>ak _<|h.sep j id aF r6 hm y x bW hx)<|λ_ _ _ h=>h
 have key:∀k,((dx B id lk) k).gB=af->(B k).gB=af:=λk aB=>by
  by_cases qb:k=id
  .subst qb;exact hm
  rw[eY _ _ qb]at aB;exact aB
 exact h.sep i j j? (key i ao)<|key j aF
def c8.trans{iI kU:cV}{gw dF:R->Prop}{du cJ:R->bm}{cW dp:bu}(h:c8 phx M B w iI gw du cW)(g:c8 iI gw du cW kU dF cJ dp):c8 phx M B w kU dF cJ dp:=by
 refine⟨λid hl => ?_,h.vw.trans g.vw,λid => ?_⟩
 .have Y:=h.pl id hl;have ak:=h.bl id
  rw[<- Y];refine g.pl id ?_;generalize B id=b at *;generalize du id=fx at *
  cases b<;>cases fx<;>simp only[bm.cU]at ak<;>first|rfl|cases hl
 have ak:=h.bl id;have zh:=g.bl id;generalize B id=b at *;generalize du id=fx at *;generalize cJ id=e7 at *
 cases b<;>cases fx<;>cases e7<;>simp only[bm.cU]at ak zh ⊢ <;> first|exact ak.elim|exact zh.elim|trivial|exact ak.trans zh|exact⟨ak.1.trans zh.1,ak.2.trans zh.2⟩|exact⟨ak.trans zh.1,zh.2⟩|(obtain⟨Y,ac⟩:=ak;obtain⟨rfl,aJ⟩:=zh;exact⟨by rw[Y,aJ],ac⟩)
end
end Yp
namespace Yp
open Go
def Ha:=@Nat.beq_refl
def Hm:=@Ne.symm
def aR.bC{α:Type}(g:R->aP):aR α->(R->bm)->au (α×(R->bm))
 |.fail,_=>aq
 |.ret a,B=>J (a,B)
 |.chk c k,B=>if c=af then k.bC g B else aq
 |.br c x y,B=>if c=af then x.bC g B else y.bC g B
 |.bo _ o k,B=>(match o with|some a=>(k a).bC g B|none=>aq)
 |.rt i k,B=>(k<|g i).bC g B
 |.rb i k,B=>(k<|B i).bC g B
 |.fk i b k,B=>k.bC g<|dx B i b
def aR.WY(g:R->aP)(m:aR α)(f:α->aR β)(B:R->bm):
  (m.bind f).bC g B=(match m.bC g B with|some (a,B')=>(f a).bC g B'|none=>aq):=by
 induction m generalizing B with
 |fail=>rfl
 |ret a=>rfl
 |chk c k ih=>simp only[aR.bind,aR.bC];split<;>simp[ih]
 |br c x y hx bW=>simp only[aR.bind,aR.bC];split<;>simp[hx,bW]
 |bo d o k ih=>cases o<;>simp only[aR.bind,aR.bC,ih]
 |rt i k ih=>simp only[aR.bind,aR.bC,ih]
 |rb i k ih=>simp only[aR.bind,aR.bC,ih]
 |fk i b k ih=>simp only[aR.bind,aR.bC,ih]
def aR.dd{g:R->aP}{m:aR α}{f:α->aR β}{B:R->bm}{r:β×(R->bm)}(h:(m.bind f).bC g B=J r):
  ∃a B',m.bC g B=J (a,B')/\(f a).bC g B'=J r:=by
 rw[aR.WY]at h;split at h
 .rename_i a B' hm;exact⟨a,B',hm,h⟩
 cases h
def en(B:R->bm)(wr:ab<|Nat×bm):R->bm:=λid=>oX wr id<|B id
def z3(B:R->bm)(i:R)(b:bm)(wr:ab<|Nat×bm):en B ((i,b)::wr)=dx (en B wr) i b:=by
 funext j;simp only[en,oX,dx];by_cases h:i=j
 .subst h;rw[Ha];simp
 have:cT i j=ag:=by cases ak:cT i j with
  |false=>rfl
  |true=>exact ev (iM ak) h
 rw[this];simp[Hm h]
def aR.ams(s:bd)(m:aR α):∀(gj:R) (gb:ab R) (wr:ab<|Nat×bm) (k:α×TB->bi β) (r:β),((m.run s gj gb wr).bind k).cf=J r ->
  ∃a e,m.bC s.cw (en s.bz wr)=J (a,en s.bz e.wr)/\(k (a,e)).cf=J r:=by
 induction m with
 |fail=>intro gj gb wr k r h;cases h
 |ret a=>intro gj gb wr k r h;exact⟨a,_,rfl,h⟩
 |chk c m ih=>
  intro gj gb wr k r h;exact aLy
 |br c x y hx bW=>
  intro gj gb wr k r h;exact aK0
 |bo d o m ih=>
  intro gj gb wr k r h;exact aNM
 |rt i m ih=>intro gj gb wr k r h;exact ih (s.cw i) _ gb wr k r h
 |rb i m ih=>intro gj gb wr k r h;exact ih _ gj (i::gb) wr k r h
 |fk i b m ih =>intro gj gb wr k r h;obtain⟨a,e,Y,ac⟩:=ih gj gb ((i,b)::wr) k r h;refine⟨a,e,?_,ac⟩;simp only[aR.bC];rw[<- z3];exact Y
def eh(phx:cV)(H:cX)(B:R->bm)(g:R->aP)(a:Act):Prop:=∀t,bI phx H B (g t)<|a.tmps.getD t undef
def eh.ext{phx phx':cV}{M aZ:R->Prop}{B B':R->bm}{w w':bu}{g:R->aP}{a:Act}(h:eh phx (view w M) B g a)(aX:c8 phx M B w phx' aZ B' w'):eh phx' (view w' aZ) B' g a:=
 λt=>aX.p<|h t
theorem eu{g:R->aP}{o:au α}{B B':R->bm}{a:α}(h:(aR.opt o).bC g B=J (a,B')):o=J a/\B'=B:=by
 cases o with
 |none=>cases h
 |some b=>simp only[aR.opt,aR.bC,jN,mV]at h;exact⟨by rw[h.1],h.2.symm⟩
theorem lT{g:R->aP}{b:aE}{B B':R->bm}{a:aj}(h:(aR.need b).bC g B=J (a,B')):b=af/\B'=B:=by
 grind [aR.need,aR.bC]
def auS{g:R->aP}{c:aS}{B B':R->bm}{v:aP}(h:(VY c).bC g B=J (v,B'))(phx:cV)(H:cX):B'=B/\bI phx H B v c:=by
 unfold VY at h;split at h
 .cases h;exact aNB
 .rename_i k n
  cases hl:JS k n with
  |false=>rw[hl]at h;cases h
  |true =>rw[hl]at h;cases h;exact⟨rfl,[.int k n],ba.j1.2<|by rw[cj.aoo k n hl],rfl⟩
 .rename_i s
  cases h;exact⟨rfl,[.string s],ba.u2.2 rfl,rfl⟩
 .cases h;exact aNB
 .exact aLH
 .exact aLH
 .exact aLH
 .exact aLH
 cases h
theorem z2{g:R->aP}{x:fS}{B B':R->bm}{v:aP}(h:(e3 x).bC g B=J (v,B')){phx:cV}{H:cX}{a:Act}(hs:eh phx H B g a):B'=B/\bI phx H B v (a.eval x):=by
 cases x with
 |tmp t=>cases h;exact⟨rfl,hs t⟩
 |const c=>exact auS h phx H
 |global i=>cases h
 |func f=>cases h;exact⟨rfl,[],rfl,rfl⟩
def bI.int{phx:cV}{H:cX}{B:R->bm}{k:gL}{x:cj k}{v:aS}(h:bI phx H B (.sc (.int k) x) v):v=.int k (cj.to k x):=by obtain⟨cs,h,rfl⟩:=h;rw[ba.j1.1 h];rfl
theorem bI.uF(phx:cV)(H:cX)(B:R->bm)(k:gL)(x:cj k):bI phx H B (.sc (.int k) x)<|.int k<|cj.to k x:=
 ⟨[.int k<|cj.to k x],ba.j1.2 rfl,rfl⟩
def bI.bool{phx:cV}{H:cX}{B:R->bm}{x:aE}{v:aS}(h:bI phx H B (.sc .bool x) v):v=.bool x:=by obtain⟨cs,h,rfl⟩:=h;rw[ba.pm.1 h];rfl
def bI.v_(phx:cV)(H:cX)(B:R->bm)(x:aE):bI phx H B (.sc .bool x)<|.bool x:=⟨[.bool x],ba.pm.2 rfl,rfl⟩
def bI.str{phx:cV}{H:cX}{B:R->bm}{x:ab aN}{v:aS}(h:bI phx H B (.sc .str x) v):v=.string ⟨x.toArray⟩:=by obtain⟨cs,h,rfl⟩:=h;rw[ba.u2.1 h];rfl
def bI.Y6(phx:cV)(H:cX)(B:R->bm)(x:ab aN):bI phx H B (.sc .str x)<|.string ⟨x.toArray⟩:=⟨[.string ⟨x.toArray⟩],ba.u2.2 rfl,rfl⟩
end Yp
namespace Yp
open Go
variable {P:d_}
def aH0{o:c7}{a:Act}{w w':bu}{v:aS}{K:Act->bu->Prop}{Q:Exit->Act->bu->Prop}
  (h:(execOp a.eval o).run P w=.ok (.value v) w') (aB:K (a.put o.dst v) w'):o.wp P a w K Q:=by
 unfold Oper.wp;rw[h];exact aB
def acb{o:c7}{a:Act}{w w':bu}{K:Act->bu->Prop}{Q:Exit->Act->bu->Prop}
  (h:(execOp a.eval o).run P w=.ok .skip w') (aB:K (a.put o.dst undef) w'):o.wp P a w K Q:=by
 unfold Oper.wp;rw[h];exact aB
def avN(op:BinOp)(t:cD)(x y:fS)(k k':gL)(n m:O)(w:bu):(eqGuard op t x y (.int k n)<|.int k' m).run P w=.ok () w:=by cases op<;>rfl
def avO(op:BinOp)(t:cD)(x y:fS)(n m:ByteArray)(w:bu):(eqGuard op t x y (.string n)<|.string m).run P w=.ok () w:=by cases op<;>rfl
def aoU(k:gL)(n:O)(Y:k.min<=n)(ac:n<=k.max):k.wrap n=n:=by cases k<;>simp[IntKind.min,IntKind.max,IntKind.signed,IntKind.bits,IntKind.wrap]at * <;> omega
def cj.L4(k:gL)(x:cj k)(h:GX k=af):0<=cj.to k x:=by cases k<;>first|cases h;done|exact Int.natCast_nonneg _
def cj.YV(k:gL)(n:O)(h:GX k=af->0<=n/\n<=k.max):cj.to k (cj.lit k n)=n:=by
 apply cj.aoo;cases k<;>first
  |rfl
  | (have:=h rfl;cases n with
    |ofNat m=>simp[JS,IntKind.max,IntKind.signed,IntKind.bits]at *;omega
    |negSucc m=>omega)
def cj.aop(k:gL)(x:cj k)(h:GX k=af):cj.to k x<=k.max:=by
 cases k with
 |u8=>have:=UInt8.toNat_lt x;simp only[cj.to,aV,IntKind.max,IntKind.signed,IntKind.bits];simp;omega
 |u16=>have:=UInt16.toNat_lt x;simp only[cj.to,J4,IntKind.max,IntKind.signed,IntKind.bits];simp;omega
 |u32=>have:=UInt32.toNat_lt x;simp only[cj.to,aY,IntKind.max,IntKind.signed,IntKind.bits];simp;omega
 |u64=>have:=UInt64.toNat_lt x;simp only[cj.to,cC,IntKind.max,IntKind.signed,IntKind.bits];simp;omega
 |_=>cases h
def aqI{wc:aE}{op:BinOp}{k:gL}{x y:cj k}{g:R->aP}{B B':R->bm}{v:aP}(h:(UH wc op k x y).bC g B=J (v,B'))
  (aio:wc=af->cj.to k y≠0) (t:cD) (w:bu) (phx:cV) (H:cX) :
  B'=B/\∃dH,(binOp op t (.int k<|cj.to k x)<|.int k<|cj.to k y).run P w=.ok dH w/\bI phx H B v dH:=by
 have uy:=λn=>aOB
 have ak:=bI.v_ phx H B;cases op<;>simp only[UH]at h
 all_goals try(cases h;done)
 case add=>cases h;exact⟨rfl,_,aMx,uy _⟩
 case sub=>cases h;exact⟨rfl,_,aMx,uy _⟩
 case mul=>cases h;exact⟨rfl,_,aMx,uy _⟩
 case and=>cases h;exact⟨rfl,_,aLi,uy _⟩
 case or=>cases h;exact⟨rfl,_,aLi,uy _⟩
 case xor=>cases h;exact⟨rfl,_,aLi,uy _⟩
 case andNot=>cases h;exact⟨rfl,_,aLi,uy _⟩
 case eql=>cases h;exact⟨rfl,_,av_,ak _⟩
 case neq=>cases h;exact⟨rfl,_,av_,ak _⟩
 case lss=>cases h;exact⟨rfl,_,av_,ak _⟩
 case leq=>cases h;exact⟨rfl,_,av_,ak _⟩
 case gtr=>cases h;exact⟨rfl,_,av_,ak _⟩
 case geq=>cases h;exact⟨rfl,_,av_,ak _⟩
 case quo=>
  have key:cj.to k y≠0/\B'=B/\v=.sc (.int k) (cj.of k<|de (cj.to k x)<|cj.to k y):=by
   grind [Bk,aR.bC,a2,am]
  simp_all[binOp,Op.intDiv,de]
 case rem=>
  have key:cj.to k y≠0/\B'=B/\v=.sc (.int k) (cj.lit k<|cY (cj.to k x)<|cj.to k y):=by
   grind [Bk,aR.bC,a2,am]
  obtain⟨aC,a4,rfl⟩:=key;refine⟨a4,_,by simp[binOp,Op.intDiv,aC];rfl,?_⟩;have hm:=bI.uF phx H B k<|cj.lit k<|cY (cj.to k x)<|cj.to k y;rw[cj.YV]at hm
  .exact hm
  intro bq;have Y:=cj.L4 k x bq;have ac:=cj.L4 k y bq;have av:=cj.aop k y bq;unfold cY;have aJ:=Int.tmod_nonneg (cj.to k y) Y;have bv:(cj.to k x).tmod (cj.to k y)<cj.to k y:=Int.tmod_lt_of_pos _ V;omega
def aqK{op:BinOp}{x y:ab aN}{g:R->aP}{B B':R->bm}{v:aP}(h:(UI op x y).bC g B=J (v,B'))(t:cD)(w:bu)(phx:cV)(H:cX):
  B'=B/\∃dH,(binOp op t (.string ⟨x.toArray⟩)<|.string ⟨y.toArray⟩).run P w=.ok dH w/\bI phx H B v dH:=by
 have ak:=bI.v_ phx H B;have hl:∀z:ab aN,ByteArray.toList ⟨z.toArray⟩=z:=λz=>by rw[ByteArray.toList_eq]
 cases op<;>simp only[UI]at h
 all_goals try(cases h;done)
 case add=>
  simp only[aR.bC]at h;split at h
  .rename_i aA
   cases h;refine⟨rfl,_,?_,bI.Y6 phx H B<|bb x y⟩;have hs:¬((x.length+y.length:R):O) > IntKind.i64.max:=by have m8:((x.length:O)+(y.length:O))<=140737488355328:=of_decide_eq_true aA;simp;omega
   have Y:(⟨x.toArray⟩:ByteArray).size=x.length:=rfl;have ac:(⟨y.toArray⟩:ByteArray).size=y.length:=rfl;simp only[binOp,Op.stringOp,Y,ac,if_neg hs];rfl
  cases h
 case eql=>cases h;exact⟨rfl,_,by simp[binOp,Op.stringOp,hl,seq],ak _⟩
 case neq=>cases h;exact⟨rfl,_,by simp[binOp,Op.stringOp,hl,seq,a2],ak _⟩
 case lss=>cases h;exact⟨rfl,_,by simp[binOp,Op.stringOp,hl,seq,y2],ak _⟩
 case leq=>cases h;exact⟨rfl,_,by simp[binOp,Op.stringOp,hl,seq,y2,iP],ak _⟩
 case gtr=>cases h;exact⟨rfl,_,aN2,ak _⟩
 case geq=>cases h;exact⟨rfl,_,aN2,ak _⟩
end Yp
namespace Yp
open Go
def w?{a b:aw}{x:a.a_}{y:b.a_}(h:aw.cast a b x=J y):∃e:a=b,e▸x=y:=by
 grind [aw.cast]
theorem kv{a b:aw}{x:ab a.a_}{y:ab b.a_}(h:aw.l? a b x=J y):∃e:a=b,e▸x=y:=by
 grind [aw.l?]
def ft{a b:aw}(h:aw.is a b=af):a=b:=by
 unfold aw.is at h;cases hs:aw.same a b with
 |none=>rw[hs]at h;cases h
 |some e=>exact e.down
section
variable {phx:cV} {H:cX} {B:R->bm}
def aiY{f:R}:∀{l:ab R} {n m:R},Jx f l n=J m->∃j,m=j+n/\l[j]?=J f
 |a::l,n,m,h=>by
  simp only[Jx]at h;cases ak:cT a f with
  |true=>rw[ak]at h;cases h;exact⟨0,V,by rw[iM ak];rfl⟩
  |false =>rw[ak]at h;obtain⟨j,Y,ac⟩:=aiY h;exact⟨j+1,V,by simpa using ac⟩
def afr{eG:R}{dy:ab jw}{t:aw}{x:t.a_}{v:aS}(h:VS f dy t=J x)(az:ci phx H B (.clo f eG dy) v):ba H t x [v]/\t.isAgg=ag:=by
 cases t<;>try(cases h;done)
 rename_i l;cases dy with
 |cons c r=>cases h
 |nil =>obtain⟨vs,Y,rfl⟩:=az;have Y:vs=[]:=Y;subst Y;obtain⟨j,ac,av⟩:=aiY<|show Jx f l 1=J x from h;refine⟨ba.Iq.2 ?_,rfl⟩;have ac:x=j+1:=ac;subst ac;simp only[List.take_nil,List.drop_nil,ug,av]
def tM:∀{pv:aP} {t:aw} {x:t.a_} {cs:ab aS},u6 pv t=J x->fX phx H B pv t cs->ba H t x cs:=by
 intro pv;induction pv with
 |sc t' y =>intro t x cs h az;obtain⟨e,rfl⟩:=w? h;obtain⟨b9,az⟩:=az;exact az
 |kb b=>
  intro t x cs h az;cases t<;>try(cases h;done)
  obtain⟨_,v,rfl,_,av⟩:=az;cases h;simp only[ci]at av;rw[av];exact ba.pm.2 rfl
 |nil=>
  intro t x cs h az;cases t<;>try(cases h;done)
  obtain⟨_,v,rfl,_,av⟩:=az;cases h;simp only[ci]at av;rw[av];exact ba.jt.2 ⟨aq,0,rfl,cx _,ai_,.inl rfl⟩
 |csl e l=>
  intro t x cs h az;cases t<;>try(cases h;done)
  obtain⟨_,v,rfl,_,av⟩:=az;obtain⟨b9,rfl⟩:=kv h;subst b9;obtain⟨a,_,aJ⟩:=av;exact aJ
 |two u v bq a3=>
  intro t x cs h az;cases t<;>try(cases h;done)
  rename_i a b;obtain⟨c1,c2,rfl,Y,ac⟩:=az;have ce:aov (u6 u a) (u6 v b)=J x:=h;cases bW:u6 u a with
  |none=>rw[bW]at ce;cases ce
  |some y=>
   cases bN:u6 v b with
   |none=>rw[bW,bN]at ce;cases ce
   |some z =>rw[bW,bN]at ce;cases ce;exact ba.nO.2 ⟨c1,c2,rfl,bq bW Y,a3 bN ac⟩
 |agg t' u _=>intro t x cs h az;exact az.elim
 |clo f eG dy =>intro t x cs h az;obtain⟨_,v,rfl,_,av⟩:=az;exact(afr h av).1
 |_=>intro t x cs h;cases h
def fX.aAw{u v:aP}{t:aw}{cs:ab aS}(h:fX phx H B (.two u v) t cs):t.isAgg=af:=by cases t<;>first|rfl|exact h.elim
def o6{pv:aP}{t:aw}{x:t.a_}{v:aS}(h:ju t pv=J x)(az:bI phx H B pv v):bI phx H B (.sc t x) v:=by
 unfold ju at h;cases pv<;>try(cases h;done)
 case kb b=>
  cases t<;>try(cases h;done)
  cases h;simp only[bI,eR,ci]at az;rw[az];exact bI.v_ _ _ _ _
 case sc t' y =>obtain⟨e,rfl⟩:=w? h;subst e;exact az
 case nil=>
  cases t<;>try(cases h;done)
  cases h;simp only[bI,eR,ci]at az;rw[az];exact⟨[_],ba.jt.2 ⟨aq,0,rfl,cx _,ai_,.inl rfl⟩,rfl⟩
 case csl e l=>
  cases t<;>try(cases h;done)
  obtain⟨b9,rfl⟩:=kv h;subst b9;obtain⟨a,av,aJ⟩:=az;exact⟨[v],aJ,rfl⟩
 case two u w=>exact az.elim
 case clo f eG dy =>obtain⟨Y,ac⟩:=afr h az;exact⟨[v],Y,by simp[db,ac]⟩
 case agg t' u=>
  have ce:(bif aw.is t' t then u6 u t else aq)=J x:=h;cases ao:aw.is t' t with
  |false=>rw[ao]at ce;cases ce
  |true =>rw[ao]at ce;have h:u6 u t=J x:=ce;have e:=ft ao;subst e;obtain⟨b6,cs,Y,ac⟩:=az;exact⟨cs,tM h Y,by rw[ac,db,if_pos b6]⟩
end
end Yp
namespace Yp
open Go
def jk:=@Nat.mul_le_mul_right
def oC:=@List.getElem?_eq_some_iff
def l3:=@Nat.add_assoc
def A7:=@List.getElem?_eq_none
def DX:=@Nat.lt_or_ge
def full(w:bu):cX:=λb=>w.heap[b]?
def tP(w:bu)(M:R->Prop):(view w M).cU<|full w:=λ_ _ h=>(kY.1 h).2
theorem mw{l:ab α}(h:off+n<=T l):T (cut l off n)=n:=by simp[cut];omega
theorem HX{l:ab α}(h:i<n):jq (cut l off n) i=jq l (off+i):=by
 grind [cut]
theorem Ei(l:ab α):cut l 0 (T l)=l:=by simp[cut]
theorem ZQ{phx:cV}{H:cX}{id:R}{e:aw}{l:ab e.a_}{v:aS}(az:iO phx id e off n v)(ct:off+n<=T l)
  (ak:(phx id=aq/\T l=0)\/∃b o c el fz,phx id=J (b,o,c.size)/\H b=J (.cells c el fz)/\fY H e l c o):ba H (.sl e) (cut l off n) [v]:=by
 refine ba.jt.2 ?_;rw[mw ct];rcases az with⟨Y,a,ac⟩|⟨b,o,m,cap,Y,ac,av,aJ,bv⟩
 .subst Y ac
  exact⟨a,0,rfl,cx _,ai_,.inl<|by simp[cut]⟩
 refine⟨_,cap,by rw[ac],av,aJ,?_⟩;rcases ak with⟨b0,bT⟩|⟨eH,dZ,c,el,fz,b0,bT,dE⟩
 .rw[Y]at b0;cases b0
 rw[Y]at b0;cases b0;refine .inr ⟨b,o+off*e.size,c,el,fz,rfl,bT,?_,λi x ao => ?_⟩
 .have:(off+n)*e.size<=(off+cap)*e.size:=jk _ V
  rw[lf]at this;have c_:=bv;omega
 have dP:i<n:=by
  rcases DX i n with h|h
  .exact h
  have:T (cut l off n)<=i:=by rw[mw ct];exact h
  simp only[jq,A7 this]at ao;cases ao
 rw[HX dP]at ao;have:=dE.2 (off+i) x ao;rw[lf,<- l3]at this;exact this
def ZR{phx:cV}{H:cX}{id:R}{e:aw}{l:ab e.a_}{v:aS}(az:iO phx id e 0 (T l) v)
  (ak:(phx id=aq/\T l=0)\/∃b o c el fz,phx id=J (b,o,c.size)/\H b=J (.cells c el fz)/\fY H e l c o):ba H (.sl e) l [v]:=by
 grind [ZQ,Ei]
section
variable {K:Kp} {w0 w:bu} {phx:cV} {M:R->Prop} {B B':R->bm} {g:R->aP}
theorem akj{e:aw}{l:ab e.a_}(h:mY phx M w (view w M) B i<|.ob e l):(phx i=aq/\T l=0)\/∃b o c el fz,phx i=J (b,o,c.size)/\full w b=J (.cells c el fz)/\fY (full w) e l c o:=by
 rcases h.2 with h|⟨b,o,c,el,fz,Y,ac,av,_⟩
 .grind
 exact .inr ⟨b,o,c,el,fz,Y,ac,av.mono<|tP w M⟩
def amn{id:R}{e:aw}{x:ab e.a_}(h:(uU fy id e).bC g B=J (x,B'))(hm:cd K w0 phx M B w):
  ∃aZ,cd K w0 phx aZ B' w/\c8 phx M B w phx aZ B' w/\pj phx M B aZ B'/\(B id=.ob e x\/B id=.fz e x) /\
   ((phx id=aq/\x.length=0)\/∃b o c el fz,phx id=J (b,o,c.size)/\full w b=J (.cells c el fz)/\fY (full w) e x c o) /\
   (fy=af->(phx id=aq/\x.length=0)\/∃b o c el fz,phx id=J (b,o,c.size)/\view w aZ b=J (.cells c el fz)/\fY (view w aZ) e x c o):=by
 simp only[uU,aR.bC]at h;have ak:=hm.blks id;cases a4:B id with
 |ob b9 l=>
  rw[a4]at h ak;obtain⟨y,du,Y,ac⟩:=aR.dd h;obtain⟨aA,rfl⟩:=eu Y;obtain⟨gy,rfl⟩:=kv aA;subst gy;cases fy with
  |false=>
   cases ac
   grind [c8.refl,pj.refl,akj]
  |true =>obtain⟨aZ,hi,k5,xP⟩:=hm.freeze a4;cases ac;have oa:=hi.blks id;rw[fH]at oa;exact⟨aZ,hi,k5,xP,.inl rfl,akj ak,λ_=>oa.2⟩
 |fz b9 l=>
  rw[a4]at h ak;obtain⟨aA,rfl⟩:=eu h;obtain⟨gy,rfl⟩:=kv aA;subst gy;refine⟨M,hm,c8.refl _ _ _ _,pj.refl _ _ _,.inr rfl,?_,λ_=>ak.2⟩;rcases ak.2 with h|⟨b,o,c,el,fz,Y,ac,av⟩
  .grind
  exact .inr ⟨b,o,c,el,fz,Y,tP w M _ _ ac,av.mono<|tP w M⟩
 |new=>exact aMB
 |ga=>exact aMB
 |box t v=>exact aMB
 |it s p=>exact aMB
 |mp kt vt l=>exact aMB
def Nj{H:cX}{e:aw}{l:ab e.a_}{c:cO aS}(h:ba H (.ar n e) l<|dg c o<|n*e.size)(ax:o+n*e.size<=c.size):T l=n/\fY H e l c o:=by
 obtain⟨Y,_,av⟩:=ba.D6.1 h;refine⟨Y,by rw[Y];exact ax,λi x ao => ?_⟩;have bK:i<T l:=(oC.1 ao).1;have:=av i x ao;have hm:=jk e.size (show i+1<=n by omega);rw[lf,Nat.one_mul]at hm
 rwa [Gu _ _ _ _ _ hm]at this
def cd.awx(h:cd K w0 phx M B w){id:R}{e:aw}{v:aP}{l:ab e.a_}(ak:B id=.box (.ar n e) v)(hl:ju (.ar n e) v=J l)(eq:0<e.size):
  ∃aZ,cd K w0 phx aZ (dx B id<|.fz e l) w/\c8 phx M B w phx aZ (dx B id<|.fz e l) w/\pj phx M B aZ (dx B id<|.fz e l):=by
 have az:=h.blks id;rw[ak]at az;obtain⟨eZ,uI,c0,ub,uj,b0,bT,dE,g6,lP,uk⟩:=az;obtain⟨cP,fb⟩:=Nj (tM hl g6) dE;refine⟨λb=>M b/\∀x,phx id=J x->b≠x.1,?_⟩;have a3:(view w M).cU (view w λb=>M b/\∀x,phx id=J x->b≠x.1):=AK λb o eE bg=>⟨λaA=>eE aA.1,bg⟩;have aX:c8 phx M B w phx (λb=>M b/\∀x,phx id=J x->b≠x.1) (dx B id<|.fz e l) w:=⟨λ_ _=>rfl,a3,λj=>by
  by_cases aF:j=id
  .subst aF;rw[fH,ak];exact⟨by rw[cP],eq⟩
  rw[eY _ _ aF];exact bm.cU.refl _⟩
 refine⟨{ h with hid:=λb aB=>⟨λhm=>(h.hid b aB).1 hm.1,λhx=>⟨(h.hid b aB).2 hx,λx m' e=>h.own id (by rw[ak];rfl) x m'<|e▸aB⟩⟩,mlt:=λb hm=>h.mlt b hm.1,own:=λj aF => ?_,blks:=λj => ?_,sep:=λi j j? ao aF => ?_ },aX,
  λb ak ax => ?_,λj aF => ?_⟩
 .exact aKM
 .by_cases aF:j=id
  .subst aF;rw[fH]
   exact⟨eq,.inr ⟨eZ,uI,c0,ub,uj,b0,kY.2 ⟨λaA=>aA.2 _ b0 rfl,bT⟩,fb.mono a3⟩⟩
  exact aKJ
 .exact aa_
 .exact aMo
 by_cases Y:j=id
 .subst Y;rw[fH]at aF;cases aF
 rw[eY _ _ Y]at aF;exact aF
def T3(B:R->bm)(id:R)(e:aw)(x:ab e.a_):Prop:=
 B id=.ob e x\/B id=.fz e x\/∃v,B id=.box (.ar x.length e) v
def aFV{id:R}{e:aw}{x:ab e.a_}(h:(C4 fy id e).bC g B=J (x,B'))(hm:cd K w0 phx M B w):
  ∃aZ,cd K w0 phx aZ B' w/\c8 phx M B w phx aZ B' w/\pj phx M B aZ B'/\T3 B id e x /\
   ((phx id=aq/\x.length=0)\/∃b o c el fz,phx id=J (b,o,c.size)/\full w b=J (.cells c el fz)/\fY (full w) e x c o) /\
   (fy=af->(phx id=aq/\x.length=0)\/∃b o c el fz,phx id=J (b,o,c.size)/\view w aZ b=J (.cells c el fz)/\fY (view w aZ) e x c o):=by
 cases a4:B id with
 |box t v=>
  simp only[C4,aR.bC]at h;have ak:=hm.blks id;rw[a4]at h ak;cases t<;>try(cases h)
  rename_i n b9;obtain⟨l,du,Y,ac⟩:=aR.dd h;obtain⟨hl,rfl⟩:=eu Y;obtain⟨y,cJ,av,aJ⟩:=aR.dd ac;obtain⟨aA,rfl⟩:=eu av;obtain⟨gy,rfl⟩:=kv aA;subst gy;have hp:hv 0 b9.size=af:=by
   cases bD:hv 0 b9.size with
   |true=>rfl
   |false=>rw[bD]at aJ;cases aJ
  have h:=aJ;rw[hp]at h;have eq:=by simpa using hp
  obtain⟨eZ,uI,c0,ub,uj,b0,bT,dE,g6,lP,uk⟩:=ak;obtain⟨cP,fb⟩:=Nj (tM hl g6) dE;have hf:∃b o c el fz,phx id=J (b,o,c.size)/\full w b=J (.cells c el fz)/\fY (full w) b9 l c o:=⟨eZ,uI,c0,ub,uj,b0,bT,fb.mono<|tP w M⟩;cases fy with
  |false =>cases h;exact⟨M,hm,c8.refl _ _ _ _,pj.refl _ _ _,.inr<|.inr ⟨v,by rw[cP];exact a4⟩,.inr hf,λh=>by cases h⟩
  |true =>obtain⟨aZ,hi,k5,xP⟩:=hm.awx a4 hl eq;cases h;have oa:=hi.blks id;rw[fH]at oa;exact⟨aZ,hi,k5,xP,.inr<|.inr ⟨v,by rw[cP];exact a4⟩,.inr hf,λ_=>oa.2⟩
 |_=>
  have ce:(uU fy id e).bC g B=J (x,B'):=by
   grind [C4,aR.bC,uU]
  obtain⟨aZ,Y,ac,av,aJ,bv⟩:=amn ce hm;exact⟨aZ,Y,ac,av,aJ.elim .inl λh=>.inr<|.inl h,bv⟩
def c8.cp{phx':cV}{aZ:R->Prop}{w':bu}(h:c8 phx M B w phx' aZ B' w'){pv:aP}{t:aw}{cs:ab aS}(hp:fX phx (view w M) B pv t cs):fX phx' (view w' aZ) B' pv t cs:=
 hp.mono h.pl h.vw h.bl
def rJ(K:Kp)(w0 w:bu)(phx:cV)(M:R->Prop)(B B':R->bm)(fy:aE)(t:aw)(x:t.a_)(cs:ab aS):Prop:=
 ∃aZ,cd K w0 phx aZ B' w/\c8 phx M B w phx aZ B' w/\pj phx M B aZ B'/\ba (full w) t x cs/\(fy=af->ba (view w aZ) t x cs)
def rJ.plain(hm:cd K w0 phx M B w){t:aw}{x:t.a_}{cs:ab aS}(h:ba (view w M) t x cs):rJ K w0 w phx M B B fy t x cs:=
 ⟨M,hm,c8.refl _ _ _ _,pj.refl _ _ _,h.mono<|tP w M,λ_=>h⟩
def aCK{e:aw}{x:ab e.a_}{id:R}{H:cX}{v:aS}(ak:B id=.ob e x\/B id=.fz e x)(h:ci phx H B (.own id fm) v):iO phx id e 0 x.length v:=by
 grind [ci]
def akE{e:aw}{x:ab e.a_}{id:R}{H:cX}{v:aS}(ak:T3 B id e x)(h:ci phx H B (.osl id off n) v):off+n<=x.length/\iO phx id e off n v:=by
 rcases ak with ak|ak|⟨u,ak⟩<;>simp only[ci,ak]at h
 .grind
 .exact h
 exact h.2
def akO{id:R}{t:aw}{x:t.a_}{v:aS}(h:(akL fy id t).bC g B=J (x,B'))(hm:cd K w0 phx M B w)(az:ci phx (view w M) B (.own id fm) v):
  rJ K w0 w phx M B B' fy t x [v]:=by
 cases t<;>try(cases h)
 obtain⟨aZ,Y,ac,ht,av,aJ,bv⟩:=amn h hm;have bg:=aCK av az;exact⟨aZ,Y,ac,ht,ZR bg aJ,λhf=>ZR bg<|bv hf⟩
def akD{id:R}{t:aw}{x:t.a_}{v:aS}(h:(akC fy id off n t).bC g B=J (x,B'))(hm:cd K w0 phx M B w)(az:ci phx (view w M) B (.osl id off n) v):
  rJ K w0 w phx M B B' fy t x [v]:=by
 cases t<;>try(cases h)
 obtain⟨y,du,bW,h⟩:=aR.dd h;cases h;obtain⟨aZ,Y,ac,ht,av,aJ,bv⟩:=aFV bW hm;have bg:=akE av az;exact⟨aZ,Y,ac,ht,ZQ bg.2 bg.1 aJ,λhf=>ZQ bg.2 bg.1<|bv hf⟩
def L2:∀{pv:aP} {B B':R->bm} {M:R->Prop} {t:aw} {x:t.a_} {cs:ab aS},(AC fy pv t).bC g B=J (x,B')->cd K w0 phx M B w->fX phx (view w M) B pv t cs ->
  rJ K w0 w phx M B B' fy t x cs:=by
 intro pv;induction pv with
 |own id fm =>intro B B' M t x cs h hm az;obtain⟨_,v,rfl,_,av⟩:=az;exact akO h hm av
 |osl id off n =>intro B B' M t x cs h hm az;obtain⟨_,v,rfl,_,av⟩:=az;exact akD h hm av
 |two u v bq a3=>
  intro B B' M t x cs h hm az;cases t<;>try(cases h)
  obtain⟨c1,c2,rfl,e9,gK⟩:=az;obtain⟨y,du,bW,h⟩:=aR.dd h;obtain⟨z,cJ,bN,h⟩:=aR.dd h;cases h;obtain⟨gw,b',e1,e_,f1,yx⟩:=bq bW hm e9;obtain⟨dF,cN,bh,fP,f2,L_⟩:=a3 bN b'<|e1.cp gK;exact⟨dF,cN,e1.trans bh,e_.trans fP,ba.nO.2 ⟨c1,c2,rfl,f1,f2⟩,λhf=>ba.nO.2 ⟨c1,c2,rfl,(yx hf).mono bh.vw,L_ hf⟩⟩
 |sc t' y =>intro B B' M t x cs h hm az;obtain⟨aA,rfl⟩:=eu h;exact rJ.plain hm<|tM (pv:=.sc t' y) aA az
 |kb b =>intro B B' M t x cs h hm az;obtain⟨aA,rfl⟩:=eu h;exact rJ.plain hm<|tM (pv:=.kb b) aA az
 |nil =>intro B B' M t x cs h hm az;obtain⟨aA,rfl⟩:=eu h;exact rJ.plain hm<|tM (pv:=.nil) aA az
 |csl e l =>intro B B' M t x cs h hm az;obtain⟨aA,rfl⟩:=eu h;exact rJ.plain hm<|tM (pv:=.csl e l) aA az
 |clo f eG dy =>intro B B' M t x cs h hm az;obtain⟨aA,rfl⟩:=eu h;exact rJ.plain hm<|tM (pv:=.clo f eG dy) aA az
 |agg t' u _=>intro B B' M t x cs h hm az;exact az.elim
 |_=>intro B B' M t x cs h;cases h
def AD{pv:aP}{t:aw}{x:t.a_}{v:aS}(h:(nl fy t pv).bC g B=J (x,B'))(hm:cd K w0 phx M B w)(az:bI phx (view w M) B pv v):
  ∃cs,v=db t cs/\rJ K w0 w phx M B B' fy t x cs:=by
 have plain:∀{t:aw} {x:t.a_},bI phx (view w M) B (.sc t x) v->∃cs,v=db t cs/\rJ K w0 w phx M B B fy t x cs:=λ⟨cs,Y,ac⟩=>⟨cs,ac,rJ.plain hm Y⟩;cases pv<;>try(cases h)
 case own id fm=>
  have hg:=akO h hm az;cases t<;>try(cases h)
  exact⟨[v],rfl,hg⟩
 case osl id off n=>
  have hg:=akD h hm az;cases t<;>try(cases h)
  exact⟨[v],rfl,hg⟩
 case two u w=>exact az.elim
 case sc t' y =>obtain⟨aA,rfl⟩:=eu h;exact plain<|o6 (pv:=.sc t' y) aA az
 case kb b =>obtain⟨aA,rfl⟩:=eu h;exact plain<|o6 (pv:=.kb b) aA az
 case nil =>obtain⟨aA,rfl⟩:=eu h;exact plain<|o6 (pv:=.nil) aA az
 case csl e l =>obtain⟨aA,rfl⟩:=eu h;exact plain<|o6 (pv:=.csl e l) aA az
 case clo f eG dy =>obtain⟨aA,rfl⟩:=eu h;exact plain<|o6 (pv:=.clo f eG dy) aA az
 case agg t' u=>
  have ce:(bif aw.is t' t then AC fy u t else .fail:aR t.a_).bC g B=J (x,B'):=h;cases ao:aw.is t' t with
  |false=>rw[ao]at ce;cases ce
  |true =>rw[ao]at ce;have e:=ft ao;subst e;obtain⟨b6,cs,Y,ac⟩:=az;exact⟨cs,by rw[ac,db,if_pos b6],L2 ce hm Y⟩
end
end Yp
namespace Yp
open Go
variable {P:d_}
def aHB{op:UnOp}{p:aP}{g:R->aP}{B B':R->bm}{v:aP}(h:(abV op p).bC g B=J (v,B')){x:aS}{phx:cV}{H:cX}(hx:bI phx H B p x)(w:bu):
  B'=B/\∃dH,(Op.unary op x).run P w=.ok dH w/\bI phx H B v dH:=by
 have uy:=λk n=>aOB
 unfold abV at h;split at h
 .rename_i b
  cases h;subst hx;exact⟨rfl,_,rfl,rfl⟩
 .rename_i b
  cases h;rw[hx.bool];exact⟨rfl,_,rfl,bI.v_ _ _ _ _⟩
 .rename_i k n
  cases h;rw[hx.int];exact⟨rfl,_,by rfl,by simpa[bw]using uy k (0-cj.to k n)⟩
 .rename_i k n
  cases h;rw[hx.int];exact⟨rfl,_,by cases k<;>rfl,uy k _⟩
 cases h
def avR{p:aP}{g:R->aP}{B B':R->bm}{v:aP}(h:(Ii p i).bC g B=J (v,B')){x:aS}{phx:cV}{H:cX}(hx:bI phx H B p x)(w:bu):
  B'=B/\∃dH,(Instr.extract x i).run P w=.ok dH w/\eR phx H B v dH:=by
 unfold Ii at h;split at h
 .rename_i a
  obtain⟨h,a4⟩:=eu h;obtain⟨vs,hl,rfl⟩:=hx;refine⟨a4,?_⟩;have key:∀(i:R) (a:aP) (vs:ab aS),jU a (g5 i)=J v->mZ phx H B a vs->∃dH,vs[i]?=J dH/\eR phx H B v dH:=by
   intro i;induction i with
   |zero=>
    intro a vs h hl;cases a<;>simp only[g5]at h<;>try(cases h;done)
    .exact aNt
    obtain⟨u,us,rfl,Y,ac⟩:=hl;cases h
    grind
   |succ i ih=>
    intro a vs h hl;cases a<;>simp only[g5]at h<;>try(cases h)
    .exact aNt
    obtain⟨u,us,rfl,Y,ac⟩:=hl;obtain⟨dH,av,aJ⟩:=ih _ _ h ac
    grind
  obtain⟨dH,Y,ac⟩:=key i a vs h hl;simp_all[Instr.extract]
 cases h
def aC2{c a b:aP}{g:R->aP}{B B':R->bm}{v:aP}(h:(ZZ c a b).bC g B=J (v,B')){x y z:aS}{phx:cV}{H:cX}
  (aA:bI phx H B c x) (b6:bI phx H B a y) (ak:bI phx H B b z) (w:bu) :
  B'=B/\∃dH,(do pure (Next.value<|if <- asBool x then y else z):Sem Next).run P w=.ok (.value dH) w/\bI phx H B v dH:=by
 have hC:∀(t:aw) (c:aE) (p q:t.a_),bI phx H B (.sc t p) y->bI phx H B (.sc t q) z->x=.bool c ->
   ∃dH,(do pure (Next.value<|if <- asBool x then y else z):Sem Next).run P w=.ok (.value dH) w/\bI phx H B (.sc t<|aa c p q) dH:=by
  intro t c p q Y ac av;subst av;cases c with
  |true=>exact⟨y,rfl,Y⟩
  |false=>exact⟨z,rfl,ac⟩
 unfold ZZ at h;split at h
 .rename_i c
  cases h;subst aA;cases c with
  |true=>exact⟨rfl,y,rfl,b6⟩
  |false=>exact⟨rfl,z,rfl,ak⟩
 .rename_i c
  split at h
  .rename_i t p
   split at h
   .rename_i q bD
    cases h;exact⟨rfl,hC t c p q b6 (o6 bD ak) aA.bool⟩
   cases h
  .rename_i p
   split at h
   .rename_i q bD
    cases h;refine⟨rfl,hC .bool c p q ?_ (o6 bD ak) aA.bool⟩;rw[b6];exact bI.v_ _ _ _ _
   cases h
  cases h
 cases h
def B6{i n:O}:aO i n=af↔0<=i/\i<n:=by simp[aO]
def aAp{i:O}{g:R->aP}{B B':R->bm}{v:aP}(h:(Jy .str (.sc .str l) i).bC g B=J (v,B')){tid:cD}(bq:P.underlying tid=J .string)(k:gL)
  {phx:cV} {H:cX} (w:bu):B'=B/\∃dH,(Instr.index tid (.string ⟨l.toArray⟩)<|.int k i).run P w=.ok dH w/\bI phx H B v dH:=by
 simp only[Jy,aR.bC]at h;split at h
 .rename_i aA
  cases h;obtain⟨aC,Y⟩:=B6.1 aA;have bK:i.toNat<T l:=by unfold len at Y;omega
  have hs:=bK;have hg:(⟨l.toArray⟩:ByteArray)[i.toNat]?=J l[i.toNat]:=by rw[getElem?_pos (⟨l.toArray⟩:ByteArray) i.toNat hs];rfl
  refine⟨rfl,.int .u8 (l[i.toNat].toNat:O),?_,?_⟩
  .simp_all[Instr.index,asIntOf,d']
  have e:ap l (ah i) (u8 0)=l[i.toNat]:=by simp[ap,ah,bK]
  show bI phx H B (.sc (.int .u8) (ap l (ah i) (u8 0):cj .u8)) _;rw[show(ap l (ah i) (u8 0):cj .u8)=l[i.toNat] from e];exact bI.uF phx H B .u8 l[i.toNat]
 cases h
def tn{lo ao n:O}:cq lo ao n=af↔0<=lo/\lo<=ao/\ao<=n:=by simp[cq,and_assoc]
def aa7{isSlice:aE}{cap:R}{lo ao:au O}{ks kh:gL}(oR:n<=cap)(h:cq (cr lo 0) (cr ao n) n=af)(w:bu):
  (rE isSlice n cap (lo.map λi=>.int ks i) (ao.map λi=>.int kh i) aq).run P w=.ok ((cr lo 0).toNat,(cr ao n).toNat,cap) w:=by
 obtain⟨Y,ac,av⟩:=tn.1 h;cases lo with
 |none=>
  cases ao with
  |none=>simp[rE,cr]
  |some ao =>simp only[cr]at Y ac av ⊢;have b0:0<=ao/\ao<=(cap:O):=⟨V,V⟩;exact aOC
 |some lo=>
  cases ao with
  |none =>simp only[cr]at Y ac av ⊢;have b0:0<=lo/\lo<=(n:O):=⟨Y,V⟩;exact aOC
  |some ao =>simp only[cr]at Y ac av ⊢;have b0:0<=ao/\ao<=(cap:O):=⟨V,V⟩;have bT:0<=lo/\lo<=((ao.toNat:R):O):=⟨Y,V⟩;simp[rE,Instr.sliceBound,asIntOf,b0,bT];omega
theorem aCB{o:au fS}{g:R->aP}{B B':R->bm}{r:au O}(h:(Ke o).bC g B=J (r,B')){phx:cV}{H:cX}{a:Act}(hs:eh phx H B g a):
  B'=B/\∃k,o.map a.eval=r.map λi=>.int k i:=by
 cases o with
 |none=>cases h;exact⟨rfl,.i64,rfl⟩
 |some x=>
  obtain⟨v,du,Y,h⟩:=aR.dd h;obtain⟨a4,a3⟩:=z2 Y hs;obtain⟨n,cJ,ac,h⟩:=aR.dd h;cases h;cases v<;>try(cases ac)
  rename_i t y;cases t<;>try(cases ac;done)
  rename_i k;cases ac;exact⟨a4,k,by simp only[Option.map_some,a3.int]⟩
def aGX{lo ao:au O}{g:R->aP}{B B':R->bm}{v:aP}(h:(yu .str (.sc .str l) lo ao aq).bC g B=J (v,B')){tid:cD}(bq:P.underlying tid=J .string)
  (ks kh:gL) {phx:cV} {H:cX} (w:bu) :
  B'=B/\∃dH,(qD tid (.string ⟨l.toArray⟩) (lo.map λi=>.int ks i) (ao.map λi=>.int kh i) aq).run P w=.ok dH w/\bI phx H B v dH:=by
 have h:(if cq (cr lo 0) (cr ao<|len l) (len l)=af then J (aP.sc .str<|sub l (cr lo 0)<|cr ao<|len l,B) else aq)=J (v,B'):=h;split at h
 .rename_i aA
  cases h;have ak:=aa7 (P:=P) (isSlice:=ag) (ks:=ks) (kh:=kh) (cx<|List.length l) aA w;have dA:(⟨l.toArray⟩:ByteArray).size=T l:=rfl;refine⟨rfl,.string ⟨(sub l (cr lo 0)<|cr ao<|List.length l).toArray⟩,?_,bI.Y6 _ _ _ _⟩;have aX:(⟨l.toArray⟩:ByteArray).extract (cr lo 0).toNat (cr ao<|List.length l).toNat=⟨(sub l (cr lo 0)<|cr ao<|List.length l).toArray⟩:=by apply ByteArray.ext;simp_all[sub]
  exact aOK
 cases h
end Yp
namespace Yp
open Go
def ns:=@Option.map_eq_some_iff
def w2:=@Array.getElem?_eq_getElem
variable {P:d_}
def Qe{d:au TypeDesc}(h:Kd k d):(∃a b c,d=J (.func a b c))\/(∃a,d=J (.interface a))\/(∃a b,d=J (.map a b))\/∃a,d=J (.pointer a):=by
 unfold Kd at h
 grind
def awc{t:aw}{tid:cD}(h:(dz P t).1 tid):∃d,P.underlying tid=J d:=by
 cases t with
 |bool=>exact⟨_,h.1⟩|int k=>exact⟨_,h.1⟩|str=>exact⟨_,h.1⟩
 |sl e=>exact aLr
 |unit=>exact aLr
 |pair a b=>exact aLr
 |ar n e=>exact aLr
 |op k=>exact aMG
 |fn l=>exact aMG
def aF5{tI dD:cD}{k k':gL}{d:TypeDesc}(hs:P.underlying tI=J d)(a?:P.underlying dD=J (.int k))(n:O)(w:bu):
  (convert tI dD<|.int k' n).run P w=.ok (.int k<|k.wrap n) w:=by
 unfold convert;simp[d' hs,d' a?];cases d<;>simp[Conv.intToInt]
theorem N3{w:bu}{c:cO aS}{el:cD}{fz:R×R}(h:w.heap[b]?=J (.cells c el fz))(i:R):w.cell? ⟨b,i,aq⟩=c[i]?:=by simp[World.cell?,h]
theorem rN(b o n:R):(⟨b,o,aq⟩:Addr).add n=⟨b,o+n,aq⟩:=by
 grind [Addr.add]
def Gq{w:bu}{c:cO aS}{el:cD}{fz:R×R}(h:w.heap[b]?=J (.cells c el fz))(ax:o+n<=c.size):
  (loadCells ⟨b,o,aq⟩ n).run P w=.ok (dg c o n).toArray w:=by
 grind [run_loadCells_list,rN,N3,sx,yp]
def Sb{t:aw}{tid:cD}(h:(dz P t).1 tid)(w:bu):(isAgg tid).run P w=.ok t.isAgg w:=by
 unfold isAgg;cases t with
 |bool=>exact aN3
 |int k=>exact aN3
 |str=>exact aN3
 |sl e=>exact aI_
 |unit=>exact aI_
 |pair a b=>exact aI_
 |ar n e=>exact aI_
 |op k=>exact aLZ
 |fn l=>exact aLZ
def amw{t:cD}{i:TypeInfo}(h:P.info? t=J i)(w:bu):(typeInfo t).run P w=.ok i w:=by simp_all[typeInfo]
def pS{t:aw}{tid:cD}(h:(dz P t).1 tid)(w:bu):(Go.sizeOf tid).run P w=.ok t.size w:=by obtain⟨i,Y,ac,_⟩:=oM h;simp_all[Go.sizeOf,amw]
def anC{t:aw}(h:t.isAgg=ag):t.size=1:=by cases t<;>first|rfl|cases h
theorem aGa{t:aw}{tid:cD}(h:(dz P t).1 tid){w:bu}{c:cO aS}{el:cD}{fz:R×R}(ak:w.heap[b]?=J (.cells c el fz))(ax:o+t.size<=c.size):
  (loadVar tid ⟨b,o,aq⟩).run P w=.ok (db t<|dg c o t.size) w:=by
 unfold loadVar;cases b6:t.isAgg with
 |true=>simp[Sb h,b6,pS h,Gq ak ax,db]
 |false=>
  have Y:=anC b6;have bK:o<c.size:=V;have aA:w.cell? ⟨b,o,aq⟩=J c[o]:=by rw[N3 ak];exact w2 bK
  have hs:dg c o 1=[c[o]]:=by
   have hl:=sx (c:=c) (o:=o) (n:=1) V;have hg:=yp (c:=c) (o:=o) (n:=1) (i:=0) V;match azA:dg c o 1,hl,hg with
   |[x],_,hg=>simp[bK]at hg;rw[hg]
  simp[Sb h,b6,load,Sem.run,aA,db,Y,hs]
theorem awb:∀(f:R) {t:aw} {l:ab Field} {off d:R} {eM:aw},(dz P t).2 l off->t.e2 (g5 f)=J (d,eM) ->
  ∃fd,l[f]?=J fd/\fd.offset=off+d/\(dz P eM).1 fd.type:=by
 intro f;induction f with
 |zero=>
  intro t l off d eM h bg;cases t<;>try(cases bg)
  obtain⟨fd,r,rfl,Y,ac,av⟩:=h
  grind [g5,aw.e2]
 |succ f ih=>
  intro t l off d eM h bg;cases t<;>try(cases bg)
  rename_i a b;obtain⟨fd,r,rfl,Y,ac,av⟩:=h;simp only[g5,aw.e2]at bg;cases ak:b.e2 (g5 f) with
  |none=>rw[ak]at bg;cases bg
  |some q=>
   grind
def agD{t:aw}{tid:cD}{eM:aw}(h:(dz P t).1 tid)(bg:t.e2 (g5 f)=J (d,eM)):
  ∃f' fd,P.underlying tid=J (.struct f')/\f'[f]?=J fd/\fd.offset=d/\(dz P eM).1 fd.type:=by
 have hp:∃a b,t=.pair a b:=by cases f<;>cases t<;>simp only[g5]at bg<;>first|exact⟨_,_,rfl⟩|cases bg
 obtain⟨a,b,rfl⟩:=hp;obtain⟨⟨f',bq,fd,r,Y,ac,av,aJ⟩,_⟩:=h;have:(dz P<|.pair a b).2 f'.toList 0:=⟨fd,r,Y,ac,av,by simpa using aJ⟩
 grind [awb]
def aaS{t:aw}{tid:cD}{eM:aw}(h:(dz P t).1 tid)(bg:t.e2 (g5 f)=J (d,eM))(hs:0<eM.size)(b o:R)(w:bu):
  (Instr.fieldAt tid (.pointer<|some ⟨b,o,aq⟩) f).run P w=.ok (.pointer<|some ⟨b,o+d,aq⟩) w:=by
 obtain⟨f',fd,Y,ac,av,aJ⟩:=agD h bg;have bN:=pS aJ w;have fs:eM.size≠0:=V;simp_all[Instr.fieldAt,d',Instr.sureAddr,fieldPlace,rN]
def tt:∀{p:ab n1} {t t':aw} {o:R},t.e2 p=J (o,t')->t.at p=J t':=by
 intro p;induction p with
 |nil=>intro t t' o h;cases t<;>simp only[aw.e2]at h<;>(obtain⟨_,rfl⟩:=h;rfl)
 |cons s p ih=>
  intro t t' o h;cases s with
  |fst=>
   cases t<;>try(cases h)
   exact ih h
  |snd=>
   cases t<;>try(cases h)
   simp only[aw.e2,ns]at h;obtain⟨q,bD,aX⟩:=h;cases aX;exact ih bD
  |ix i=>
   cases t<;>try(cases h)
   simp only[aw.e2]at h;split at h
   .simp at h
    obtain⟨q,bD,aX⟩:=h;exact ih bD
   cases h
def FE:∀{p q:ab n1} {t e_ fP:aw} {nL oj:R},t.e2 p=J (nL,e_)->e_.e2 q=J (oj,fP)->t.e2 (p++q)=J (nL+oj,fP):=by
 intro p;induction p with
 |nil=>
  grind [aw.e2]
 |cons s p ih=>
  intro q t e_ fP nL oj h g;cases s with
  |fst=>
   cases t<;>try(cases h)
   exact ih h g
  |snd=>
   cases t<;>try(cases h)
   simp only[aw.e2,ns]at h;obtain⟨r,az,aX⟩:=h;cases aX
   grind [aw.e2]
  |ix i=>
   cases t<;>try(cases h)
   simp only[aw.e2]at h;split at h
   .rename_i ao
    simp at h;obtain⟨r,az,aX⟩:=h;cases aX
    grind [aw.e2]
   cases h
section
variable {phx:cV} {H:cX} {B:R->bm}
def aHj(cs:ab α)(n:R)(h:T cs=n):(cs.drop 0).take n=cs:=by subst h;simp
def wd:∀{p:ab n1} {t t':aw} {off:R},t.e2 p=J (off,t')->off+t'.size<=t.size:=by
 intro p;induction p with
 |nil=>
  grind [aw.e2]
 |cons s p ih=>
  intro t t' off bg;cases s with
  |fst=>
   cases t<;>try(cases bg)
   rename_i a b;have:=ih (t:=a) bg
   grind [aw.size]
  |snd=>
   cases t<;>try(cases bg)
   grind [aw.e2,Option.map_eq_some_iff,aw.size]
  |ix i=>
   cases t<;>try(cases bg)
   rename_i n e;simp only[aw.e2]at bg;split at bg
   .rename_i ao
    simp only[ns]at bg;obtain⟨r,az,aX⟩:=bg;cases aX;have:=ih (t:=e) (off:=r.1) (t':=r.2) az;have ac:(i+1)*e.size<=n*e.size:=jk _ ao
    grind [aw.size]
   cases bg
def V4(c1 c2:ab α)(o n:R)(h:o+n<=c1.length):((c1++c2).drop o).take n=(c1.drop o).take n:=by grind
def V6(c1 c2:ab α)(o n:R):((c1++c2).drop<|c1.length+o).take n=(c2.drop o).take n:=bP
def au1(cs:ab α)(a m o n:R)(h:o+n<=m):((((cs.drop a).take m).drop o).take n)=(cs.drop<|a+o).take n:=by
 grind [List.drop_take,List.drop_drop]
theorem Cj{l:ab α}{d:α}(h:i<T l):jq l i=J (ap l i d):=by
 grind [ap]
def WX:∀{p:ab n1} {pv u:aP} {t t':aw} {off:R} {cs:ab aS},fX phx H B pv t cs->t.e2 p=J (off,t')->jU pv p=J u ->
  fX phx H B u t' ((cs.drop off).take t'.size):=by
 intro p;induction p with
 |nil=>
  intro pv u t t' off cs h bg hg;have:t=t'/\off=0:=aMu
  obtain⟨rfl,rfl⟩:=this;have:u=pv:=by cases pv<;>simp only[jU,jN]at hg<;>exact hg.symm
  subst this;rw[aHj cs _ h.length];exact h
 |cons s p ih=>
  intro pv u t t' off cs h bg hg;cases s with
  |fst=>
   cases t<;>try(cases bg)
   rename_i a b;have ct:=wd (t:=a) bg;cases pv<;>try(cases hg)
   .rename_i s x
    obtain⟨eU,hx⟩:=h;subst eU;obtain⟨c1,c2,rfl,Y,ac⟩:=ba.nO.1 hx;rw[V4 _ _ _ _ (by rw[Y.length];exact ct)];exact ih (pv:=.sc a x.1) (t:=a) ⟨rfl,Y⟩ bg hg
   rename_i yx L_;obtain⟨c1,c2,rfl,Y,ac⟩:=h;rw[V4 _ _ _ _ (by rw[Y.length];exact ct)];exact ih Y bg hg
  |snd=>
   cases t<;>try(cases bg)
   rename_i a b;simp only[aw.e2,ns]at bg;obtain⟨r,az,aX⟩:=bg;cases aX;cases pv<;>try(cases hg)
   .rename_i s x
    obtain⟨eU,hx⟩:=h;subst eU;obtain⟨c1,c2,rfl,Y,ac⟩:=ba.nO.1 hx;rw[<- Y.length,V6];exact ih (pv:=.sc b x.2) (t:=b) ⟨rfl,ac⟩ az hg
   rename_i yx L_;obtain⟨c1,c2,rfl,Y,ac⟩:=h;rw[<- Y.length,V6];exact ih ac az hg
  |ix i=>
   cases t<;>try(cases bg)
   rename_i n e;simp only[aw.e2]at bg;split at bg
   .rename_i ao
    simp only[ns]at bg;obtain⟨r,az,aX⟩:=bg;cases aX;have ct:=wd (t:=e) (off:=r.1) (t':=r.2) az;cases pv<;>try(cases hg)
    rename_i s x;obtain⟨eU,hx⟩:=h;subst eU;obtain⟨Y,ac,av⟩:=ba.w9.1 hx;rw[<- au1 cs (i*e.size) e.size r.1 r.2.size ct];refine ih (pv:=.sc e<|ap (x:ab e.a_) i e.zero) (t:=e) ⟨rfl,?_⟩ az hg
    grind [Cj]
   cases bg
end
end Yp
namespace Yp
open Go
variable {P:d_}
section
variable {K:Kp} {w0 w:bu} {phx:cV} {M:R->Prop} {B B':R->bm} {H:cX}
theorem DD{pv:aP}{t:aw}{cs:ab aS}(h:fX phx H B pv t cs):bI phx H B (rC t pv)<|db t cs:=by
 cases pv with
 |two u v =>have b6:=h.aAw;refine⟨b6,cs,h,?_⟩;simp[db,b6]
 |sc s x =>obtain⟨rfl,aA⟩:=h;exact⟨cs,aA,rfl⟩
 |agg t a=>exact h.elim
 |tup a=>exact h.elim
 |bad=>trivial
 |_=>
  obtain⟨b6,v,rfl,_,az⟩:=h;have:db t [v]=v:=by simp[db,b6]
  rw[this];exact az
def awR:∀{p:ab n1} {s:aw} {x:s.a_} {u:aP},jU (.sc s x) p=J u->∃c' wQ,u=.sc c' wQ:=by
 intro p;induction p with
 |nil=>intro s x u h;simp only[jU,jN]at h;exact⟨s,x,h.symm⟩
 |cons q p ih=>
  intro s x u h;cases q<;>cases s<;>try(cases h)
  .exact ih h
  .exact ih h
  exact ih h
def aH6{p:ab n1}{s t:aw}{x:s.a_}{u:aP}(h:jU (.sc s x) p=J u):rC t u=u:=by obtain⟨c',wQ,rfl⟩:=awR h;rfl
def aaP{e t:aw}{l:ab e.a_}{p:ab n1}{pv:aP}{c:cO aS}(fb:fY H e l c o)(ao:i<T l)
  (bg:e.e2 p=J (off,t)) (hg:jU (.sc e<|ap l i e.zero) p=J pv) :
  o+i*e.size+off+t.size<=c.size/\bI phx H B pv (db t<|dg c (o+i*e.size+off) t.size):=by
 have ct:=wd bg;have Y:(i+1)*e.size<=T l*e.size:=jk _ ao;rw[lf]at Y;have ac:=fb.1;refine⟨V,?_⟩;have av:=fb.2 i _<|Cj (d:=e.zero) ao;have aJ:=WX (phx:=phx) (H:=H) (B:=B) (pv:=.sc e<|ap l i e.zero) (t:=e) ⟨rfl,av⟩ bg hg;rw[Gu _ _ _ _ _ ct]at aJ;have bv:=DD aJ
 rwa [aH6 hg]at bv
def ajp{t:aw}{tid:cD}(ht:(dz P t).1 tid){g:R->aP}{a v:aP}{cZ:aS}(h:(zR t a).bC g B=J (v,B'))(hm:cd K w0 phx M B w)
  (az:bI phx (view w M) B a cZ):B'=B/\∃r,(Instr.loadAt tid cZ).run P w=.ok r w/\bI phx (view w M) B v r:=by
 have key:∀{b o:R} {c:cO aS} {el:cD} {fz:R×R} {q:R},w.heap[b]?=J (.cells c el fz)->q+t.size<=c.size ->
   (Instr.loadAt tid<|.pointer<|some ⟨b,q,aq⟩).run P w=.ok (db t<|dg c q t.size) w:=by
  grind [Instr.loadAt,Instr.sureAddr,aGa]
 cases a with
 |ptr id p=>
  simp only[zR,aR.bC]at h;have ak:=hm.blks id;have hs:ci phx (view w M) B (.ptr id p) cZ:=az;simp only[ci]at hs;generalize a4:B id=bl at h ak hs;cases bl<;>try(cases h)
  rename_i rt u;obtain⟨b,o,n,off,t',Y,ac,rfl⟩:=hs;obtain⟨eH,dZ,c,el,fz,b0,bT,dE,g6,lP,uk⟩:=ak;rw[Y]at b0;cases b0;simp only[tt ac]at h;cases nD:jU u p with
  |none=>rw[nD]at h;cases h
  |some pv=>
   simp only[nD]at h;cases hX:aw.is t' t with
   |false=>exact aMe
   |true=>
    rw[hX]at h;obtain⟨rfl,rfl⟩:=h;have:=ft hX;subst this;have ct:=wd ac;refine⟨rfl,_,key (o:=0) bT V,?_⟩;have aJ:=WX g6 ac nD
    grind [Gu,DD]
 |ipt e l i p=>
  have hs:=az;obtain⟨ao,b,o,cap,off,t',Y,ac,rfl⟩:=hs;simp only[zR,tt ac]at h;cases nD:jU (.sc e<|ap l i e.zero) p with
  |none=>rw[nD]at h;cases h
  |some pv=>
   simp only[nD]at h;cases hX:aw.is t' t with
   |false=>exact aMe
   |true=>
    rw[hX]at h;obtain⟨rfl,rfl⟩:=h;have:=ft hX;subst this;obtain⟨bn,cap',cn,cR,da,d9⟩:=ba.jt.1 Y;simp at cn;rcases d9 with d9|⟨eH,dZ,c,el,fz,dN,fC,jd,qj⟩
    .subst d9;cases ao
    rw[<- cn.1]at dN;cases dN;obtain⟨e9,gK⟩:=aaP (phx:=phx) (B:=B) (H:=view w M) ⟨jd,qj⟩ ao ac nD;exact⟨rfl,_,key (o:=0) (kY.1 fC).2 e9,gK⟩
 |opt id i p=>
  simp only[zR,aR.bC]at h;have ak:=hm.blks id;have hs:ci phx (view w M) B (.opt id i p) cZ:=az;simp only[ci]at hs;generalize a4:B id=bl at h ak hs;cases bl<;>try(cases h)
  .rename_i e l
   obtain⟨ao,b,o,n,off,t',Y,ac,rfl⟩:=hs;rcases ak.2 with⟨b0,_⟩|⟨eH,dZ,c,el,fz,b0,bT,dE,_⟩
   .grind
   rw[Y]at b0;cases b0;simp only[tt ac]at h;cases nD:jU (.sc e<|ap l i e.zero) p with
   |none=>rw[nD]at h;cases h
   |some pv=>
    simp only[nD]at h;cases hX:aw.is t' t with
    |false=>exact aMe
    |true =>rw[hX]at h;obtain⟨rfl,rfl⟩:=h;have:=ft hX;subst this;obtain⟨e9,gK⟩:=aaP (phx:=phx) (B:=B) (H:=view w M) dE ao ac nD;exact⟨rfl,_,key (o:=0) bT e9,gK⟩
  rename_i e l;obtain⟨ao,b,o,n,off,t',Y,ac,rfl⟩:=hs;rcases ak.2 with⟨b0,_⟩|⟨eH,dZ,c,el,fz,b0,bT,dE⟩
  .rw[b0]at Y;cases Y
  rw[Y]at b0;cases b0;simp only[tt ac]at h;cases nD:jU (.sc e<|ap l i e.zero) p with
  |none=>rw[nD]at h;cases h
  |some pv=>
   simp only[nD]at h;cases hX:aw.is t' t with
   |false=>exact aMe
   |true =>rw[hX]at h;obtain⟨rfl,rfl⟩:=h;have:=ft hX;subst this;obtain⟨e9,gK⟩:=aaP (phx:=phx) (B:=B) (H:=view w M) dE ao ac nD;exact⟨rfl,_,key (o:=0) (kY.1 bT).2 e9,gK⟩
 |_=>cases h
end
end Yp
namespace Yp
open Go
def i5:=@List.take_of_length_le
def jj:=@List.length_set
def vf:=@List.ext_getElem?
def TJ:=@List.getElem?_take
def G':=@Nat.lt_or_gt_of_ne
def TO:=@List.getElem?_set
variable {P:d_}
structure MQ(w w':bu)(b:R)(ob:Obj):Prop where
 os:w'.os=w.os
 tape:w'.tape=w.tape
 output:w'.output=w.output
 size:w'.heap.size=w.heap.size
 jW:w'.heap[b]?=J ob
 other:∀j,j≠b->w'.heap[j]?=w.heap[j]?
def iU(cs:ab aS)(o:R)(vs:ab aS):ab aS:=cs.take o++vs++cs.drop (o+T vs)
theorem GJ{cs:ab aS}{vs:ab aS}(h:o+T vs<=T cs):T (iU cs o vs)=T cs:=by simp[iU];omega
theorem GI{cs:ab aS}{vs:ab aS}(h:o+T vs<=T cs)(i:R):
  (iU cs o vs)[i]?=if i<o then cs[i]? else if i<o+T vs then vs[i-o]? else cs[i]?:=by
 unfold iU
 grind
def Lt{b:R}{el:cD}{fz:R×R}{o:R}:∀(vs:ab aS) (i:R) (c:cO aS) (w:bu),w.heap[b]?=J (.cells c el fz)->jc c fz ->
  o+i+T vs<=c.size->(∀v∈vs,v.oneCell'=af) ->
  ∃w',(storeCells ⟨b,o,aq⟩ vs i).run P w=.ok () w'/\∃dj:cO aS,MQ w w' b (.cells dj el fz)/\dj.toList=iU c.toList (o+i) vs
 |[],i,c,w,ak,_,_,_=>⟨w,rfl,c,⟨rfl,rfl,rfl,rfl,ak,λ_ _=>rfl⟩,by simp[iU]⟩
 |v::vs,i,c,w,ak,hf,ax,Y=>by
  have bK:o+i<c.size:=by simp at ax;omega
  have hcell:w.cell? ⟨b,o+i,aq⟩=J c[o+i]:=by rw[N3 ak];exact w2 bK
  have O9:=hf.no;have BM:w.frozen? ⟨b,o+i,aq⟩=ag:=by
   grind [World.frozen?]
  have lu:(w.setCell ⟨b,o+i,aq⟩ v).heap[b]?=J (.cells (c.setIfInBounds (o+i) v) el fz):=by
   grind [World.setCell]
  have eU:(store ((⟨b,o,aq⟩:Addr).add i) v).run P w=.ok () (w.setCell ⟨b,o+i,aq⟩ v):=by
   grind [rN,run_store]
  obtain⟨w',ac,dj,av,aJ⟩:=Lt (o:=o) vs (i+1) (c.setIfInBounds (o+i) v) (w.setCell ⟨b,o+i,aq⟩ v) lu
   (hf.same bP) (by grind) (λu bq=>Y u<|by grind)
  refine⟨w',?_,dj,?_,?_⟩
  .simp_all[storeCells]
  .refine⟨av.os,av.tape,av.output,av.size.trans bP,av.jW,λj aF=>(av.other j aF).trans ?_⟩
   grind [World.setCell]
  rw[aJ];have m_:=by simpa using ax
  apply vf
  grind [GI]
def anO{c1 c2:ab aS}{vs:ab aS}(h:o+T vs<=c1.length):iU (c1++c2) o vs=iU c1 o vs++c2:=by
 unfold iU
 grind
def anP{c1 c2:ab aS}{vs:ab aS}:iU (c1++c2) (c1.length+o) vs=c1++iU c2 o vs:=by simp_all[iU,List.take_append,i5,l3]
def anN{cs vs:ab aS}(h:T vs=T cs):iU cs 0 vs=vs:=by simp[iU,h]
theorem LR{cs vs:ab aS}(h:o+T vs<=T cs)(a?:a+n<=o\/o+T vs<=a):((iU cs o vs).drop a).take n=(cs.drop a).take n:=by
 apply vf;intro j;simp only[TJ,List.getElem?_drop];split
 .rename_i aF
  rw[GI h];split
  .rfl
  split
  .omega
  rfl
 rfl
def SP{cs vs:ab aS}(h:a+o+T vs<=T cs)(a?:o+T vs<=n):((iU cs (a+o) vs).drop a).take n=iU ((cs.drop a).take n) o vs:=by
 apply vf
 grind [GI]
section
variable {phx:cV} {H:cX} {B:R->bm}
def YT{l:ab α}{x:α}(h:i<T l):jq (cA l i x) i=J x:=by simp[jq,cA,h]
def YS{l:ab α}{x:α}(h:j≠i):jq (cA l i x) j=jq l j:=by simp[jq,cA,TO,Hm h]
def aa1:∀{p:ab n1} {pv u Ks:aP} {t t':aw} {off:R} {cs cu:ab aS},fX phx H B pv t cs->t.e2 p=J (off,t')->nT pv p u=J Ks->fX phx H B u t' cu ->
  fX phx H B Ks t (iU cs off cu):=by
 intro p;induction p with
 |nil=>
  intro pv u Ks t t' off cs cu h bg hs bq;have:t=t'/\off=0:=aMu
  obtain⟨rfl,rfl⟩:=this;have:u=Ks:=by cases pv<;>simp only[nT,jN]at hs<;>exact hs
  subst this;rw[anN<|by rw[bq.length,h.length]];exact bq
 |cons s p ih=>
  intro pv u Ks t t' off cs cu h bg hs bq;cases s with
  |fst=>
   cases t<;>try(cases bg;done)
   rename_i a b;have ct:=wd (t:=a) bg;cases pv<;>try(cases hs;done)
   .rename_i s x
    obtain⟨eU,hx⟩:=h;subst eU;obtain⟨c1,c2,rfl,Y,ac⟩:=ba.nO.1 hx;simp only[nT,ns]at hs;obtain⟨q,bD,rfl⟩:=hs;rw[anO aOS];exact⟨_,_,rfl,ih (pv:=.sc a x.1) (t:=a) ⟨rfl,Y⟩ bg bD bq,rfl,ac⟩
   rename_i yx L_;obtain⟨c1,c2,rfl,Y,ac⟩:=h;simp only[nT,ns]at hs;obtain⟨q,bD,rfl⟩:=hs;rw[anO aOS];exact⟨_,_,rfl,ih Y bg bD bq,ac⟩
  |snd=>
   cases t<;>try(cases bg;done)
   rename_i a b;simp only[aw.e2,ns]at bg;obtain⟨r,az,aX⟩:=bg;cases aX;cases pv<;>try(cases hs;done)
   .rename_i s x
    obtain⟨eU,hx⟩:=h;subst eU;obtain⟨c1,c2,rfl,Y,ac⟩:=ba.nO.1 hx;simp only[nT,ns]at hs;obtain⟨q,bD,rfl⟩:=hs;rw[<- Y.length,anP];exact⟨_,_,rfl,⟨rfl,Y⟩,ih (pv:=.sc b x.2) (t:=b) ⟨rfl,ac⟩ az bD bq⟩
   rename_i yx L_;obtain⟨c1,c2,rfl,Y,ac⟩:=h;simp only[nT,ns]at hs;obtain⟨q,bD,rfl⟩:=hs;rw[<- Y.length,anP];exact⟨_,_,rfl,Y,ih ac az bD bq⟩
  |ix i=>
   cases t<;>try(cases bg;done)
   rename_i n e;simp only[aw.e2]at bg;split at bg
   .rename_i ao
    simp only[ns]at bg;obtain⟨r,az,aX⟩:=bg;cases aX;have ct:=wd (t:=e) (off:=r.1) (t':=r.2) az;cases pv<;>try(cases hs;done)
    rename_i s x;obtain⟨eU,hx⟩:=h;subst eU;obtain⟨Y,ac,av⟩:=ba.w9.1 hx;have Y:T (x:ab e.a_)=n:=Y;simp only[nT]at hs;generalize bD:nT (.sc e<|ap (x:ab e.a_) i e.zero) p u=q at hs;cases q with
    |none=>cases hs
    |some q=>
     simp only[ns]at hs;obtain⟨y,bW,rfl⟩:=hs;have bK:i<T (x:ab e.a_):=V;have aiF:=bq.length;have mz:(i+1)*e.size<=n*e.size:=jk _ ao;rw[lf]at mz;have iS:i*e.size+r.1+cu.length<=T cs:=V;have aJ:=ih (pv:=.sc e<|ap (x:ab e.a_) i e.zero) (t:=e) ⟨rfl,av i _<|Cj bK⟩ az bD bq;have bv:=tM bW aJ;refine⟨rfl,(ba.D6 (l:=cA (x:ab e.a_) i y)).2 ⟨(jj (as:=(x:ab e.a_))).trans Y,by rw[GJ iS,ac],λj z aF => ?_⟩⟩;by_cases eT:j=i
     .subst eT
      rw[YT bK]at aF;cases aF;rw[SP iS V];exact bv
     have aF:jq (x:ab e.a_) j=J z:=(YS (l:=(x:ab e.a_)) eT).symm.trans aF;rw[LR iS]
     .exact av j z aF
     rcases G' eT with h|h
     .have:=jk e.size (show j+1<=i from h)
      rw[lf]at this;left;omega
     have:=jk e.size<|show i+1<=j from h;rw[lf]at this;right;omega
   cases bg
end
end Yp
namespace Yp
open Go
variable {P:d_}
section
variable {K:Kp} {w0 w:bu} {phx:cV} {M:R->Prop} {B B':R->bm} {g:R->aP}
def iO.slice{id:R}{e:aw}{len:R}{v:aS}(h:iO phx id e off len v):∃a c,v=.slice a len c:=by rcases h with⟨rfl,a,rfl⟩|⟨b,o,n,cap,_,rfl,_⟩<;>exact⟨_,_,rfl⟩
def OG{t:aw}{v:aP}{cZ:aS}{H:cX}(h:(uf t v).bC g B=J ((),B'))(az:bI phx H B v cZ):B'=B/\∃cu,cZ.cells.toList=cu/\fX phx H B (AA v) t cu:=by
 cases v<;>try(cases h)
 case kb b =>obtain⟨ao,a4⟩:=lT h;have:=ft ao;subst this;subst az;exact⟨a4,[.bool b],rfl,rfl,ba.pm.2 rfl⟩
 case sc s x =>obtain⟨ao,a4⟩:=lT h;have:=ft ao;subst this;obtain⟨cs,Y,rfl⟩:=az;exact⟨a4,cs,by rw[JY Y],rfl,Y⟩
 case nil=>
  cases t<;>try(cases h;done)
  cases h;subst az;exact⟨rfl,_,rfl,rfl,_,rfl,rfl,rfl⟩
 case csl e l =>obtain⟨ao,a4⟩:=lT h;have:=ft ao;subst this;obtain⟨a,Y,ac⟩:=az;exact⟨a4,[cZ],by subst Y;rfl,rfl,cZ,rfl,by subst Y;rfl,a,Y,ac⟩
 case agg s x =>obtain⟨ao,a4⟩:=lT h;have:=ft ao;subst this;obtain⟨b6,cs,Y,rfl⟩:=az;exact⟨a4,cs,rfl,Y⟩
 case own id fm=>
  simp only[uf,aR.bC]at h;have gq:ci phx H B (.own id fm) cZ:=az;have hs:=gq;simp only[ci]at hs;generalize a4:B id=bl at h hs;cases bl<;>try(cases h)
  all_goals
   obtain⟨ao,oO⟩:=lT h;have:=ft ao;subst this;obtain⟨a,c,rfl⟩:=hs.1.slice;exact⟨oO,_,rfl,rfl,_,rfl,rfl,gq⟩
 case osl id off n=>
  simp only[uf,aR.bC]at h;have gq:ci phx H B (.osl id off n) cZ:=az;have hs:=gq;simp only[ci]at hs;generalize a4:B id=bl at h hs;cases bl<;>try(cases h)
  case box t' v=>
   cases t'<;>try(cases h)
   obtain⟨ao,oO⟩:=lT h;have:=ft ao;subst this;obtain⟨a,c,rfl⟩:=hs.2.2.slice;exact⟨oO,_,rfl,rfl,_,rfl,rfl,gq⟩
  all_goals
   obtain⟨ao,oO⟩:=lT h;have:=ft ao;subst this;obtain⟨a,c,rfl⟩:=(by first|exact hs.2.slice|exact hs.2.1.slice:∃a c,cZ=.slice a n c);exact⟨oO,_,rfl,rfl,_,rfl,rfl,gq⟩
 case ptr id p=>
  simp only[uf,aR.bC]at h;have gq:ci phx H B (.ptr id p) cZ:=az;have hs:=gq;simp only[ci]at hs;generalize a4:B id=bl at h hs;cases bl<;>try(cases h)
  obtain⟨ao,oO⟩:=lT h;have:=ft ao;subst this;obtain⟨b,o,n,off,t',_,_,rfl⟩:=hs;exact⟨oO,_,rfl,rfl,_,rfl,aML,gq⟩
 case mpp id=>
  simp only[uf,aR.bC]at h;have gq:ci phx H B (.mpp id) cZ:=az;have hs:=gq;simp only[ci]at hs;generalize a4:B id=bl at h hs;cases bl<;>try(cases h)
  obtain⟨ao,oO⟩:=lT h;have:=ft ao;subst this;obtain⟨b,_,rfl⟩:=hs;exact⟨oO,_,rfl,rfl,_,rfl,aML,gq⟩
 case ifc i s x =>obtain⟨ao,a4⟩:=lT h;have:=ft ao;subst this;have gq:=az;obtain⟨cs,Y,rfl⟩:=az;exact⟨a4,_,rfl,rfl,_,rfl,aML,gq⟩
 case clo f eG dy=>
  obtain⟨ao,a4⟩:=lT h;have ht:t.isAgg=ag:=by
   unfold ai3 at ao;split at ao
   .rfl
   .rfl
   cases ao
  have gq:=az;obtain⟨vs,Y,rfl⟩:=az;exact⟨a4,_,rfl,by exact⟨ht,_,rfl,aML,gq⟩⟩
def amv{t:aw}{tid:cD}(h:(dz P t).1 tid){c:cO aS}{el:cD}{fz:R×R}(ak:w.heap[b]?=J (.cells c el fz))(hf:jc c fz)
  {v:aS} {cu:ab aS} (a3:v.cells.toList=cu) (hl:cu.length=t.size) (Y:∀v∈cu,v.oneCell'=af) (ax:o+t.size<=c.size) :
  ∃w',(storeVar tid ⟨b,o,aq⟩ v).run P w=.ok () w'/\∃dj:cO aS,MQ w w' b (.cells dj el fz)/\dj.toList=iU c.toList o cu:=by
 obtain⟨w',ac,dj,av,aJ⟩:=Lt (P:=P) (b:=b) (el:=el) (fz:=fz) (o:=o) cu 0 c w ak hf V Y;refine⟨w',?_,dj,av,by simpa using aJ⟩;unfold storeVar;have dA:v.cells.size=t.size:=by rw[<- hl,<- a3];simp
 simp[pS h,dA,a3,ac]
theorem wB(c:cO aS)(o n:R):dg c o n=(c.toList.drop o).take n:=rfl
def fY.put{H:cX}{e:aw}{l:ab e.a_}{c dj:cO aS}{y:e.a_}{cu:ab aS}(h:fY H e l c o)(ao:i<T l)(aiq:off+cu.length<=e.size)
  (aA:dj.toList=iU c.toList (o+i*e.size+off) cu) (bW:ba H e y<|iU (dg c (o+i*e.size) e.size) off cu):dj.size=c.size/\fY H e (cA l i y) dj o:=by
 have Y:=h.1;have mz:(i+1)*e.size<=T l*e.size:=jk _ ao;rw[lf]at mz;have iS:o+i*e.size+off+cu.length<=c.toList.length:=e8;have dA:dj.size=c.size:=by
  grind [GJ]
 refine⟨dA,by simp only[cA,jj];omega,λj z aF => ?_⟩;by_cases eT:j=i
 .simp_all[YT,wB,SP]
 rw[YS eT]at aF;rw[wB,aA,LR iS]
 .exact h.2 j z aF
 rcases G' eT with h|h
 .have:=jk e.size (show j+1<=i from h)
  grind
 have:=jk e.size<|show i+1<=j from h
 grind
def anY{t:aw}{tid:cD}(ht:(dz P t).1 tid){a v r:aP}{cZ u_:aS}(h:(LT t a v).bC g B=J (r,B'))(hm:cd K w0 phx M B w)
  (eF:bI phx (view w M) B a cZ) (BT:bI phx (view w M) B v u_) :
  r=.undef/\∃w' aZ,(Instr.storeAt tid cZ u_).run P w=.ok () w'/\cd K w0 phx aZ B' w'/\c8 phx M B w phx aZ B' w':=by
 cases a with
 |ptr id p=>
  simp only[LT,aR.bC]at h;have ak:=hm.blks id;have hs:ci phx (view w M) B (.ptr id p) cZ:=eF;simp only[ci]at hs;generalize a4:B id=bl at h ak hs;cases bl<;>try(cases h;done)
  rename_i rt u;obtain⟨b,o,n,off,t',Y,ac,rfl⟩:=hs;obtain⟨eH,dZ,c,el,fz,b0,bT,dE,g6,lP,uk⟩:=ak;rw[Y]at b0;cases b0;simp only[tt ac]at h;generalize nD:nT u p (AA v)=q at h;cases q with
  |none=>cases h
  |some pv=>
   simp only at h;cases hX:aw.is t' t with
   |false=>exact aMe
   |true=>
    rw[hX]at h;simp only[cond]at h;have:=ft hX;subst this;obtain⟨_,du,hf,ce⟩:=aR.dd h;clear h;obtain⟨rfl,cu,px,hT⟩:=OG hf BT;cases ce;have ct:=wd ac;obtain⟨w',bR,dj,hp,m8⟩:=amv (P:=P) (w:=w) ht (o:=o+off) bT lP px hT.length hT.one V;have EV:=hT.length;have dA:dj.size=c.size:=by
     grind [GJ]
    obtain⟨hi,k5⟩:=hm.put (id:=id) (x:=(b,o,c.size)) (w':=w') af_ Y uk hp.os hp.tape hp.output hp.size hp.other (.box rt pv) af_ λaX=>by refine⟨b,o,dj,el,fz,by rw[Y,dA],hp.jW,V,?_,lP.same V,uk⟩;have td:=aX.cp<|aa1 g6 ac nD hT;rw[wB,m8,SP e8 V,<- wB];exact td
    grind [Instr.storeAt,Instr.sureAddr]
 |opt id i p=>
  simp only[LT]at h;obtain⟨x,du,hx,h⟩:=aR.dd h;obtain⟨cu,rfl,gw,pA,ur,_,_,px⟩:=AD hx hm BT;have px:=px rfl;simp only[aR.bC]at h;have ak:=pA.blks id;have hs:ci phx (view w gw) du (.opt id i p) cZ:=ur.p eF;simp only[ci]at hs;generalize a4:du id=bl at h ak hs;cases bl<;>try(cases h;done)
  rename_i e l;obtain⟨ao,b,o,n,off,t',Y,ac,rfl⟩:=hs;rcases ak with⟨eq,⟨b0,_⟩|⟨eH,dZ,c,el,fz,b0,bT,dE,g6,lP⟩⟩
  .grind
  rw[Y]at b0;cases b0;simp only[tt ac]at h;cases hX:aw.is t' t with
  |false=>exact aMe
  |true=>
   rw[hX]at h;simp only[cond]at h;have:=ft hX;subst this;generalize nD:nT (.sc e<|ap l i e.zero) p (.sc t' x)=q at h;cases q with
   |none=>cases h
   |some pv=>
    simp only at h;generalize bW:ju e pv=y at h;cases y with
    |none=>cases h
    |some y=>
     cases h;have ct:=wd ac;have fr:=px.length;have g31:=dE.1;have mz:(i+1)*e.size<=T l*e.size:=jk _ ao;rw[lf]at mz;obtain⟨w',bR,dj,hp,m8⟩:=amv (P:=P) (w:=w) ht (o:=o+i*e.size+off) (v:=db t' cu) bT g6 (by rw[JY px]) fr px.one V;have vY:=dE.2 i _<|Cj (d:=e.zero) ao;have hT:=aa1 (phx:=phx) (H:=view w gw) (B:=du) (pv:=.sc e<|ap l i e.zero) (t:=e) ⟨rfl,vY⟩ ac nD (cu:=cu) ⟨rfl,px⟩;have az1:=tM bW hT;obtain⟨dA,fb⟩:=dE.put ao V m8 az1;obtain⟨hi,k5⟩:=pA.put (id:=id) (x:=(b,o,c.size)) (w':=w') af_ Y lP hp.os hp.tape hp.output hp.size hp.other (.ob e<|cA l i y) (by rw[a4];exact⟨rfl,by simp[cA]⟩) λaX=>by exact⟨eq,.inr ⟨b,o,dj,el,fz,by rw[Y,dA],hp.jW,fb.mono aX.vw,g6.same dA,lP⟩⟩
     exact⟨rfl,w',gw,by simp[Instr.storeAt,Instr.sureAddr,bR],hi,ur.trans k5⟩
 |_=>cases h
def aHb{t:aw}{tid:cD}(ht:(dz P t).1 tid){a v r:aP}{cZ u_:aS}(h:(abk t a v).bC g B=J (r,B'))(hm:cd K w0 phx M B w)
  (eF:bI phx (view w M) B a cZ) (BT:bI phx (view w M) B v u_) :
  r=.undef/\∃w' aZ,(Instr.storeAt tid cZ u_).run P w=.ok () w'/\cd K w0 phx aZ B' w'/\c8 phx M B w phx aZ B' w':=by
 unfold abk at h;cases bg:akK a v with
 |false=>rw[bg]at h;exact anY ht h hm eF BT
 |true =>rw[bg]at h;obtain⟨x,du,hx,h⟩:=aR.dd h;obtain⟨cu,rfl,gw,pA,ur,_,_,px⟩:=AD hx hm BT;obtain⟨Y,w',aZ,ac,av,aJ⟩:=anY ht h pA (ur.p eF) ⟨cu,px rfl,rfl⟩;exact⟨Y,w',aZ,ac,av,ur.trans aJ⟩
end
end Yp
namespace Yp
open Go
def pb:=@Option.some.inj
def MH:=@Nat.add_zero
variable {P:d_}
section
variable {K:Kp} {w0 w:bu} {phx:cV} {M:R->Prop} {B B':R->bm} {g:R->aP}
def Uy:∀{f:R} {t eM:aw},t.at (g5 f)=J eM->∃d,t.e2 (g5 f)=J (d,eM):=by
 intro f;induction f with
 |zero=>
  intro t eM h;cases t<;>try(cases h)
  rename_i a b;have:a=eM:=by cases a<;>exact pb h
  subst this;exact⟨0,by cases a<;>rfl⟩
 |succ f ih=>
  intro t eM h;cases t<;>try(cases h)
  rename_i a b;obtain⟨d,a?⟩:=ih (t:=b) h
  grind [g5,aw.e2]
def Ws{t' cI:au aw}(h:EA t' cI f=af):∃s d eM,t'=J s/\cI=J s/\s.e2 (g5 f)=J (d,eM)/\0<eM.size:=by
 unfold EA at h;split at h
 .rename_i a b
  simp at h;obtain⟨Y,ac⟩:=h;have:=ft Y;subst this;split at ac
  .rename_i eM ays
   obtain⟨d,a?⟩:=Uy ays;exact⟨a,d,eM,rfl,rfl,a?,by simpa using ac⟩
  cases ac
 cases h
def hA{c:aE}{x:aR α}{r:α×(R->bm)}(h:(bif c then x else .fail:aR α).bC g B=J r):c=af/\x.bC g B=J r:=by
 cases c with
 |true=>exact⟨rfl,h⟩
 |false=>cases h
def jS{c:aE}{x:aR α}{r:α×(R->bm)}(h:(aR.chk c x).bC g B=J r):c=af/\x.bC g B=J r:=by
 grind [aR.bC]
def av0{cI:au aw}{tid:cD}(ht:∀t,cI=J t->(dz P t).1 tid){a r:aP}{cZ:aS}(h:(Ox cI f a).bC g B=J (r,B'))
  (eF:bI phx (view w M) B a cZ):B'=B/\∃v,(Instr.fieldAt tid cZ f).run P w=.ok v w/\bI phx (view w M) B r v:=by
 cases a with
 |ptr id p=>
  simp only[Ox,aR.bC]at h;have hs:ci phx (view w M) B (.ptr id p) cZ:=eF;simp only[ci]at hs;generalize a4:B id=bl at h hs;cases bl<;>try(cases h)
  obtain⟨b,o,n,off,t',Y,ac,rfl⟩:=hs;replace h:=hA h;obtain⟨aA,h⟩:=h;cases h;obtain⟨s,d,eM,e1,bh,ei,hQ⟩:=Ws aA;rw[tt ac]at e1;cases e1;refine⟨rfl,_,aaS (ht _ bh) ei hQ b (o+off) w,?_⟩;simp only[bI,eR,ci,a4];exact⟨b,o,n,off+d,eM,Y,FE ac ei,by rw[l3]⟩
 |ipt e l i p =>obtain⟨ao,b,o,cap,off,t',Y,ac,rfl⟩:=(eF:ci phx (view w M) B (.ipt e l i p) cZ);replace h:=hA h;obtain⟨aA,h⟩:=h;cases h;obtain⟨s,d,eM,e1,bh,ei,hQ⟩:=Ws aA;rw[tt ac]at e1;cases e1;exact⟨rfl,_,aaS (ht _ bh) ei hQ b _ w,ao,b,o,cap,off+d,eM,Y,FE ac ei,by rw[l3]⟩
 |opt id i p=>
  simp only[Ox,aR.bC]at h;have hs:ci phx (view w M) B (.opt id i p) cZ:=eF;simp only[ci]at hs;generalize a4:B id=bl at h hs;cases bl<;>try(cases h)
  all_goals
   obtain⟨ao,b,o,n,off,t',Y,ac,rfl⟩:=hs;replace h:=hA h;obtain⟨aA,h⟩:=h;cases h;obtain⟨s,d,eM,e1,bh,ei,hQ⟩:=Ws aA;rw[tt ac]at e1;cases e1;refine⟨rfl,_,aaS (ht _ bh) ei hQ b _ w,?_⟩;simp only[bI,eR,ci,a4];exact⟨ao,b,o,n,off+d,eM,Y,FE ac ei,by rw[l3]⟩
 |_=>cases h
def Ut{t':au aw}{gU:aw}{i:O}{v r:aP}(h:(D7 t' gU i v).bC g B=J (r,B')):B'=B/\r=v/\∃n e,gU=.ar n e/\t'=J (.ar n e)/\0<e.size/\0<=i/\i<n:=by
 unfold D7 at h;split at h
 .rename_i t' n e
  replace h:=hA h;obtain⟨aA,h⟩:=h;replace h:=jS h;obtain⟨ao,h⟩:=h;cases h;simp at aA;have:=ft aA.1;subst this;obtain⟨Y,ac⟩:=B6.1 ao;exact⟨rfl,rfl,n,e,rfl,rfl,aA.2,Y,ac⟩
 cases h
def Zt{e:aw}(h:i<n):(aw.ar n e).e2 [.ix i]=J (i*e.size,e):=by
 grind [aw.e2]
def aaT{e:aw}{tid:cD}(ht:(dz P<|.ar n e).1 tid){k:gL}{i:O}(aC:0<=i)(Y:i<n)(b o:R)(w:bu):
  (Instr.indexAt tid (.pointer<|some ⟨b,o,aq⟩)<|.int k i).run P w=.ok (.pointer<|some ⟨b,o+i.toNat*e.size,aq⟩) w:=by
 obtain⟨⟨bM,bq,aX⟩,_⟩:=ht;have bN:=pS aX w;simp_all[Instr.indexAt,asIntOf,d',Instr.sureAddr,rN]
def Lr{e:aw}{tid:cD}(ht:(dz P<|.sl e).1 tid){k:gL}{i:O}{cap:R}(aC:0<=i)(Y:i<n)(b o:R)(w:bu):
  (Instr.indexAt tid (.slice (J ⟨b,o,aq⟩) n cap)<|.int k i).run P w=.ok (.pointer<|some ⟨b,o+i.toNat*e.size,aq⟩) w:=by
 obtain⟨⟨bM,bq,aX⟩,_⟩:=ht;have bN:=pS aX w;simp_all[Instr.indexAt,asIntOf,d',rN]
def P9(e:aw):e.e2 []=J (0,e):=by cases e<;>rfl
def aGT{H:cX}{e:aw}{l:ab e.a_}{v:aS}(h:ba H (.sl e) l [v])(ax:l≠[]):∃b o cap,v=.slice (J ⟨b,o,aq⟩) (T l) cap:=by
 obtain⟨a,cap,Y,_,_,ac⟩:=ba.jt.1 h
 grind
def aja{H:cX}{e:aw}{l:ab e.a_}{v:aS}(h:ba H (.sl e) l [v]){tid:cD}(ht:(dz P<|.sl e).1 tid){k:gL}{i:O}(ao:aO i (len l)=af)(w:bu):
  ∃r,(Instr.indexAt tid v<|.int k i).run P w=.ok r w/\bI phx H B (.ipt e l (ah i) []) r:=by
 obtain⟨aC,Y⟩:=B6.1 ao;have Y:i<(T l:O):=Y;have bK:i.toNat<T l:=V;obtain⟨b,o,cap,rfl⟩:=aGT h (λe=>by subst e;simp at bK);exact⟨_,Lr ht aC Y b o w,bK,b,o,cap,0,e,h,P9 e,rfl⟩
def akP{id:R}{e:aw}{v:aS}(h:iO phx id e off n v)(ax:0<n):∃b o m cap,phx id=J (b,o,m)/\v=.slice (J ⟨b,o+off*e.size,aq⟩) n cap:=by
 rcases h with⟨h,_⟩|⟨b,o,m,cap,Y,ac,_⟩
 .omega
 grind
def akl:∀{n i:R},i<n->(nW n).e2 (g5 i)=J (i,.op 3)
 |n+1,0,_=>rfl
 |n+1,i+1,h=>by
  have:=akl (n:=n) (i:=i) V
  grind [nW,g5,aw.e2,aw.size]
def aAn{gU:aw}{tid:cD}(ht:(dz P gU).1 tid){a r:aP}{cZ:aS}{k:gL}{i:O}(h:(zG gU a i).bC g B=J (r,B'))
  (eF:bI phx (view w M) B a cZ):B'=B/\∃v,(Instr.indexAt tid cZ<|.int k i).run P w=.ok v w/\bI phx (view w M) B r v:=by
 cases a with
 |sc t l=>
  cases gU<;>try(cases h)
  rename_i e;simp only[zG]at h;replace h:=aR.dd h;obtain⟨y,du,Y,h⟩:=h;obtain⟨aA,rfl⟩:=eu Y;obtain⟨b9,rfl⟩:=w? aA;subst b9;replace h:=jS h;obtain⟨ao,h⟩:=h;cases h;obtain⟨cs,dc,rfl⟩:=eF;obtain⟨a,cap,rfl,_⟩:=ba.Dh.1 dc;exact⟨rfl,aja dc ht ao w⟩
 |csl e l =>replace h:=hA h;obtain⟨aA,h⟩:=h;have:=ft aA;subst this;replace h:=jS h;obtain⟨ao,h⟩:=h;cases h;obtain⟨a,_,dc⟩:=eF;simp_all[aja]
 |own id fm=>
  simp only[zG,aR.bC]at h;have hs:ci phx (view w M) B (.own id fm) cZ:=eF;simp only[ci]at hs;generalize a4:B id=bl at h hs;cases bl<;>try(cases h)
  all_goals
   replace h:=hA h;obtain⟨aA,h⟩:=h;have:=ft aA;subst this;replace h:=jS h;obtain⟨ao,h⟩:=h;cases h;obtain⟨aC,Y⟩:=B6.1 ao;rename_i e l;have Y:i<(T l:O):=Y;obtain⟨b,o,m,cap,b0,rfl⟩:=akP hs.1 V;refine⟨rfl,_,Lr ht aC Y b _ w,?_⟩;simp only[bI,eR,ci,a4];exact⟨aLB,b,o,m,0,e,b0,P9 e,by simp[ah]⟩
 |osl id off n=>
  simp only[zG,aR.bC]at h;have hs:ci phx (view w M) B (.osl id off n) cZ:=eF;simp only[ci]at hs;generalize a4:B id=bl at h hs;cases bl<;>try(cases h)
  all_goals
   replace h:=hA h;obtain⟨aA,h⟩:=h;have:=ft aA;subst this;replace h:=jS h;obtain⟨ao,h⟩:=h;cases h;obtain⟨aC,Y⟩:=B6.1 ao;rename_i e l;have Y:i<(n:O):=Y;obtain⟨b,o,m,cap,b0,rfl⟩:=akP (by first|exact hs.2|exact hs.2.1:iO phx id e off n cZ) V;refine⟨rfl,_,Lr ht aC Y b _ w,?_⟩;simp only[bI,eR,ci,a4];exact⟨by unfold bB ah;omega,b,o,m,0,e,b0,P9 e,by simp only[ah,bB,lf,MH,l3]⟩
 |ptr id p=>
  simp only[zG,aR.bC]at h;have hs:ci phx (view w M) B (.ptr id p) cZ:=eF;simp only[ci]at hs;generalize a4:B id=bl at h hs;cases bl<;>try(cases h)
  obtain⟨b,o,n,off,t',Y,ac,rfl⟩:=hs;obtain⟨oO,rfl,m,e,rfl,bh,ei,hQ,rV⟩:=Ut h;rw[tt ac]at bh;cases bh;refine⟨oO,_,aaT ht hQ rV b (o+off) w,?_⟩;simp only[bI,eR,ci,a4];exact⟨b,o,n,off+(ah i)*e.size,e,Y,FE ac<|Zt aLB,by rw[l3];rfl⟩
 |ipt e l j p =>obtain⟨ao,b,o,cap,off,t',Y,ac,rfl⟩:=(eF:ci phx (view w M) B (.ipt e l j p) cZ);obtain⟨oO,rfl,m,b9,rfl,bh,ei,hQ,rV⟩:=Ut h;rw[tt ac]at bh;cases bh;exact⟨oO,_,aaT ht hQ rV b _ w,ao,b,o,cap,off+(ah i)*b9.size,b9,Y,FE ac<|Zt aLB,by rw[l3<|o+j*e.size];rfl⟩
 |opt id j p=>
  simp only[zG,aR.bC]at h;have hs:ci phx (view w M) B (.opt id j p) cZ:=eF;simp only[ci]at hs;generalize a4:B id=bl at h hs;cases bl<;>try(cases h)
  all_goals
   rename_i e l;obtain⟨ao,b,o,n,off,t',Y,ac,rfl⟩:=hs;obtain⟨oO,rfl,m,b9,rfl,bh,ei,hQ,rV⟩:=Ut h;rw[tt ac]at bh;cases bh;refine⟨oO,_,aaT ht hQ rV b _ w,?_⟩;simp only[bI,eR,ci,a4];exact⟨ao,b,o,n,off+(ah i)*b9.size,b9,Y,FE ac<|Zt aLB,by rw[l3<|o+j*e.size];rfl⟩
 |psl id n=>
  simp only[zG,aR.bC]at h;have hs:ci phx (view w M) B (.psl id n) cZ:=eF;simp only[ci]at hs;generalize a4:B id=bl at h hs;cases bl<;>try(cases h)
  replace h:=hA h;obtain⟨aA,h⟩:=h;have:=ft aA;subst this;replace h:=jS h;obtain⟨ao,h⟩:=h;cases h;obtain⟨aC,Y⟩:=B6.1 ao;have Y:i<(n:O):=Y;obtain⟨rfl,b,o,m,cap,b0,rfl⟩:=hs;refine⟨rfl,_,Lr ht aC Y b _ w,?_⟩;simp only[bI,eR,ci,a4];exact⟨b,o,m,ah i,.op 3,b0,akl aLB,by simp[ah,aw.size]⟩
 |_=>cases h
end
end Yp
namespace Yp
open Go
def oD:=@Nat.zero_add
def Ht:=@Int.max_eq_left
variable {P:d_}
section
variable {K:Kp} {w0 w:bu} {phx:cV} {M:R->Prop} {B B':R->bm} {g:R->aP}
def bI.v'(H:cX)(n:R):bI phx H B (Yp.int (n:O))<|goInt n:=bI.uF phx H B .i64 (n:O)
def aA3{gU:aw}{tid:cD}(ht:(dz P gU).1 tid){a r:aP}{cZ:aS}(h:(JQ gU a).bC g B=J (r,B'))(eF:bI phx (view w M) B a cZ)
  {e?:cO cD} (aC:e?[0]?=J tid) (ty:cD):B'=B/\∃v,(Builtin.len_ e? ty #[cZ]).run P w=.ok v w/\bI phx (view w M) B r v:=by
 have hC:∀{n c:R} {ad:au Addr} {e:aw},(dz P<|.sl e).1 tid->(Builtin.len_ e? ty #[.slice ad n c]).run P w=.ok (goInt n) w:=by intro n c ad e hf;obtain⟨⟨bM,bq,_⟩,_⟩:=hf;simp_all[Builtin.len_,d']
 cases gU<;>try(cases h;done)
 case str=>
  cases a<;>try(cases h)
  rename_i t x;cases t<;>try(cases h;done)
  cases h;rw[eF.str];exact⟨rfl,_,by simp[Builtin.len_,aC,d' ht.1];rfl,bI.v' _<|List.length (x:ab aN)⟩
 case ar n e =>cases h;obtain⟨⟨bM,bq,_⟩,_⟩:=ht;exact⟨rfl,goInt n,by simp[Builtin.len_,aC,d' bq],bI.v' _ n⟩
 case sl e=>
  cases a<;>try(cases h;done)
  case sc t x=>
   cases t<;>try(cases h;done)
   cases h;obtain⟨cs,dc,rfl⟩:=eF;obtain⟨ad,cap,rfl,_⟩:=ba.Dh.1 dc;exact⟨rfl,_,hC ht,bI.v' _ _⟩
  case csl b9 l =>cases h;obtain⟨ad,rfl,_⟩:=eF;exact⟨rfl,_,hC ht,bI.v' _ _⟩
  case nil =>cases h;subst eF;exact⟨rfl,_,hC ht,bI.v' _ 0⟩
  case own id fm=>
   simp only[JQ,aR.bC]at h;have hs:ci phx (view w M) B (.own id fm) cZ:=eF;simp only[ci]at hs;generalize a4:B id=bl at h hs;cases bl<;>try(cases h;done)
   all_goals
    cases h;obtain⟨ad,c,rfl⟩:=hs.1.slice;exact⟨rfl,_,hC ht,bI.v' _ _⟩
  case psl id n=>
   simp only[JQ,aR.bC]at h;have hs:ci phx (view w M) B (.psl id n) cZ:=eF;simp only[ci]at hs;generalize a4:B id=bl at h hs;cases bl<;>try(cases h;done)
   cases h;obtain⟨_,b,o,m,cap,_,rfl⟩:=hs;exact⟨rfl,_,hC ht,bI.v' _ _⟩
  case osl id off n=>
   simp only[JQ,aR.bC]at h;have hs:ci phx (view w M) B (.osl id off n) cZ:=eF;simp only[ci]at hs;generalize a4:B id=bl at h hs;cases bl<;>try(cases h;done)
   all_goals
    cases h;obtain⟨ad,c,rfl⟩:=(by first|exact hs.2.slice|exact hs.2.1.slice:∃a c,cZ=.slice a n c);exact⟨rfl,_,hC ht,bI.v' _ _⟩
def Gr{t:aw}{tid:cD}(h:(dz P t).1 tid){cs:cO aS}(ax:off+t.size<=cs.size)(w:bu):(part tid cs off).run P w=.ok (db t<|dg cs off t.size) w:=by
 unfold part;cases b6:t.isAgg with
 |true=>
  have aX:cs.extract off (off+t.size)=(dg cs off t.size).toArray:=by
   grind [dg]
  simp[Sb h,b6,pS h,db,aX]
 |false=>
  have Y:=anC b6;have bK:off<cs.size:=V;have hs:dg cs off 1=[cs[off]]:=by
   have hl:=sx (c:=cs) (o:=off) (n:=1) V;have hg:=yp (c:=cs) (o:=off) (n:=1) (i:=0) V;match azA:dg cs off 1,hl,hg with
   |[x],_,hg=>simp[bK]at hg;rw[hg]
  simp[Sb h,b6,w2 bK,db,Y,hs]
def av5{E:dO}(hT:ou P E.cp){tid:cD}{a r:aP}{cZ:aS}(h:(Wt E tid f a).bC g B=J (r,B'))(eF:bI phx (view w M) B a cZ):
  B'=B/\∃v,(Instr.field tid cZ f).run P w=.ok v w/\bI phx (view w M) B r v:=by
 unfold Wt at h;cases ht:E.cp tid with
 |none=>rw[ht]at h;cases h
 |some t=>
  rw[ht]at h;have hf:=hT _ _ ht;obtain⟨_,du,Y,ce⟩:=aR.dd h;obtain⟨rfl,cu,px,td⟩:=OG Y eF;cases zp:t.at (g5 f) with
  |none=>rw[zp]at ce;cases ce
  |some eM=>
   cases hg:jU (AA a) (g5 f) with
   |none=>rw[zp,hg]at ce;cases ce
   |some v=>
    rw[zp,hg]at ce;cases ce;obtain⟨d,bg⟩:=Uy zp;obtain⟨f',fd,b0,bT,dE,g6⟩:=agD hf bg;have ct:=wd bg;have hl:=td.length;have ky:t.isAgg=af:=by cases f<;>cases t<;>first|rfl|cases bg
    have axI:cZ=.agg cu.toArray:=by
     cases a<;>try(cases Y)
     case kb b=>obtain⟨ao,_⟩:=lT Y;have:=ft ao;subst this;cases ky
     case nil=>cases t<;>first|cases ky;done|cases Y
     case csl e l=>obtain⟨ao,_⟩:=lT Y;have:=ft ao;subst this;cases ky
     case own id fm=>
      simp only[uf,aR.bC]at Y;generalize B' id=bl at Y;cases bl<;>try(cases Y)
      all_goals
       obtain⟨ao,_⟩:=lT Y;have:=ft ao;subst this;cases ky
     case osl id off n=>
      simp only[uf,aR.bC]at Y;generalize B' id=bl at Y;cases bl<;>try(cases Y)
      case box t' _=>
       cases t'<;>try(cases Y)
       obtain⟨ao,_⟩:=lT Y;have:=ft ao;subst this;cases ky
      all_goals
       obtain⟨ao,_⟩:=lT Y;have:=ft ao;subst this;cases ky
     case sc s x=>
      obtain⟨ao,_⟩:=lT Y;have:=ft ao;subst this;obtain⟨cs,cn,rfl⟩:=eF
      grind [JY,db]
     case agg s x=>
      obtain⟨_,cs,cn,rfl⟩:=eF
      grind [Value.cells]
     case ptr id p=>cases f<;>cases hg
     case mpp id=>cases f<;>cases hg
     case ifc i s x=>cases f<;>cases hg
     case clo xg eG dy=>cases f<;>cases hg
    subst axI;refine⟨rfl,db eM<|dg cu.toArray d eM.size,?_,DD<|WX td bg hg⟩;have hp:=Gr (P:=P) g6 (cs:=cu.toArray) (off:=d) e8 w;simp_all[Instr.field,d',asAgg]
def aAo{e:aw}{tid:cD}(ht:(dz P<|.ar n e).1 tid){a r:aP}{cZ:aS}{i:O}(h:(Jy (.ar n e) a i).bC g B=J (r,B'))(eF:bI phx (view w M) B a cZ)(k:gL):
  B'=B/\∃v,(Instr.index tid cZ<|.int k i).run P w=.ok v w/\bI phx (view w M) B r v:=by
 have ce:((aR.opt<|ju (.ar n e) a).bind λl=>.chk (aO i<|bc n)<|.ret<|.sc e<|ap (l:ab e.a_) (ah i) e.zero).bC g B=J (r,B'):=by
  unfold Jy at h;split at h
  .cases h
  exact h
 obtain⟨l,du,Y,ac⟩:=aR.dd ce;obtain⟨a?,rfl⟩:=eu Y;obtain⟨ao,ac⟩:=jS ac;cases ac;obtain⟨cs,dc,rfl⟩:=o6 a? eF;obtain⟨cn,cR,da⟩:=ba.w9.1 dc;have cn:T (l:ab e.a_)=n:=cn;obtain⟨⟨bM,bq,aX⟩,_⟩:=ht;obtain⟨aC,Y⟩:=B6.1 ao;have Y:i<(n:O):=Y;have bK:i.toNat<T (l:ab e.a_):=V;have bN:=pS aX w;have mz:(i.toNat+1)*e.size<=n*e.size:=jk _ V;rw[lf]at mz;have hp:=Gr (P:=P) aX (cs:=cs.toArray) (off:=i.toNat*e.size) e8 w;refine⟨rfl,db e<|dg cs.toArray (i.toNat*e.size) e.size,?_,?_⟩
 .simp[Instr.index,asIntOf,d' bq,db,aw.isAgg,aC,Y,bN,hp]
 exact⟨_,da _ _<|Cj (d:=e.zero) bK,rfl⟩
theorem Ls{e:aw}{tid:cD}(ht:(dz P<|.sl e).1 tid){ad:au Addr}{cap:R}{lo ao:au O}{ks kh:gL}(oR:n<=cap)(h:cq (cr lo 0) (cr ao n) n=af)(w:bu):
  (qD tid (.slice ad n cap) (lo.map λi=>.int ks i) (ao.map λi=>.int kh i) aq).run P w =
   .ok (.slice (if cap=(cr lo 0).toNat then ad else ad.map (·.add ((cr lo 0).toNat*e.size))) ((cr ao n).toNat-(cr lo 0).toNat)<|cap-(cr lo 0).toNat) w:=by
 obtain⟨⟨bM,bq,aX⟩,_⟩:=ht;have ak:=aa7 (P:=P) (isSlice:=af) (ks:=ks) (kh:=kh) oR h w;have bN:=pS aX w;simp[qD,Instr.slice,d' bq,ak,bN]
theorem ba.sub{H:cX}{e:aw}{l:ab e.a_}{ad:au Addr}{cap:R}(dc:ba H (.sl e) l [.slice ad (T l) cap]){cap':R}(ct:L+N<=T l)(oR:N<=cap')(aIG:cap'<=cap-L):
  ba H (.sl e) (cut l L N) [.slice (if cap'=0 then ad else ad.map (·.add (L*e.size))) N cap']:=by
 obtain⟨bn,dj,Y,ac,av,aJ⟩:=ba.jt.1 dc;obtain⟨rfl,_,rfl⟩:=Y;refine ba.jt.2 ⟨_,cap',by rw[mw ct],by rw[mw ct];exact oR,V,?_⟩;by_cases fE:N=0
 .grind [mw]
 rcases aJ with aJ|⟨b,o,c,el,fz,rfl,bT,dE,g6⟩
 .grind
 right;rw[if_neg V];refine⟨b,o+L*e.size,c,el,fz,by simp[rN],bT,?_,λi x ao => ?_⟩
 .rw[mw ct]
  have:(L+N)*e.size<=T l*e.size:=jk _ ct
  grind
 grind [mw,HX]
def aa8{H:cX}{e:aw}{tid:cD}(ht:(dz P<|.sl e).1 tid){l:ab e.a_}{cZ:aS}(dc:ba H (.sl e) l [cZ]){lo ao:au O}{ks kh:gL}(h:cq (cr lo 0) (cr ao<|len l) (len l)=af)(w:bu):
  ∃v,(qD tid cZ (lo.map λi=>.int ks i) (ao.map λi=>.int kh i) aq).run P w=.ok v w/\bI phx H B (.sc (.sl e)<|sub l (cr lo 0)<|cr ao<|len l) v:=by
 obtain⟨ad,cap,Y,ac,av,aJ⟩:=ba.jt.1 dc;simp at Y;subst Y;have az:=Ls (P:=P) ht (ad:=ad) (ks:=ks) (kh:=kh) ac h w;refine⟨_,az,?_⟩;obtain⟨b4,cz,dw⟩:=tn.1 h;have dw:cr ao (len l)<=(T l:O):=dw;have:=dc.sub (L:=(cr lo 0).toNat) (N:=(cr ao<|len l).toNat-(cr lo 0).toNat) (cap':=cap-(cr lo 0).toNat) V V<|cx _;refine⟨_,this,?_⟩;congr 1
 grind
theorem iO.sub{id:R}{e:aw}{ad:au Addr}{cap:R}(h:iO phx id e off n<|.slice ad n cap)(ct:L+N<=n):
  iO phx id e (off+L) N (.slice (if cap=L then ad else ad.map (·.add (L*e.size))) N<|cap-L):=by
 rcases h with⟨Y,a,ac⟩|⟨b,o,m,cap',Y,ac,av,aJ,bv⟩
 .simp at ac
  exact aMf
 simp at ac;obtain⟨rfl,_,rfl⟩:=ac;by_cases aA:cap=L
 .exact aNo
 right;refine⟨b,o,m,cap-L,Y,?_,V,V,aNp⟩
 grind [rN]
theorem vj.sub{id:R}{e:aw}{ad:au Addr}{cap:R}(h:vj phx id e off N<|.slice ad n cap){n':R}(ct:L+n'<=cap):
  vj phx id e (off+L) N (.slice (if cap=L then ad else ad.map (·.add (L*e.size))) n'<|cap-L):=by
 rcases h with⟨Y,a,ac⟩|⟨b,o,m,ajQ,cap',Y,ac,av⟩
 .simp at ac
  obtain⟨rfl,_,rfl⟩:=ac;left;exact⟨V,_,by rw[show n'=0 by omega,show 0-L=0 by omega]⟩
 simp at ac;obtain⟨rfl,_,rfl⟩:=ac;by_cases aA:cap=L
 .left;exact⟨V,_,by rw[show n'=0 by omega,show cap-L=0 by omega]⟩
 right;refine⟨b,o,m,n',cap-L,Y,?_,V⟩
 grind [rN]
def aa9{e:aw}{tid:cD}(ht:(dz P<|.sl e).1 tid){a r:aP}{cZ:aS}{lo ao:au O}(h:(yu (.sl e) a lo ao aq).bC g B=J (r,B'))
  (hm:cd K w0 phx M B w) (eF:bI phx (view w M) B a cZ) (ks kh:gL) :
  B'=B/\∃v,(qD tid cZ (lo.map λi=>.int ks i) (ao.map λi=>.int kh i) aq).run P w=.ok v w/\bI phx (view w M) B r v:=by
 cases a<;>try(cases h)
 case nil=>
  simp only[yu]at h;replace h:=jS h;obtain⟨ak,h⟩:=h;cases h;have az:=eF;subst az;have oa:=ak;have bD:=tn.1 oa
  grind [Ls]
 case sc t x =>replace h:=aR.dd h;obtain⟨l,du,Y,h⟩:=h;obtain⟨aA,rfl⟩:=eu Y;obtain⟨b9,rfl⟩:=w? aA;subst b9;replace h:=jS h;obtain⟨ak,h⟩:=h;cases h;obtain⟨cs,dc,rfl⟩:=eF;obtain⟨ad,cap,rfl,_⟩:=ba.Dh.1 dc;exact⟨rfl,aa8 ht dc ak w⟩
 case csl b9 l =>replace h:=hA h;obtain⟨aA,h⟩:=h;have:=ft aA;cases this;replace h:=jS h;obtain⟨ak,h⟩:=h;cases h;obtain⟨ad,_,dc⟩:=eF;simp_all[aa8]
 case own id fm=>
  simp only[yu,aR.bC]at h;have hs:ci phx (view w M) B (.own id fm) cZ:=eF;have et:=hm.blks id;simp only[ci]at hs;generalize a4:B id=bl at h hs et;cases bl<;>try(cases h)
  .replace h:=hA h;obtain⟨aA,h⟩:=h
   have:=ft aA;cases this;replace h:=jS h;obtain⟨ak,h⟩:=h;cases h;rename_i l;obtain⟨ad,cap,rfl⟩:=hs.1.slice;have oR:T l<=cap:=by
    rcases hs.1 with⟨Y,a,ac⟩|⟨b,o,m,cap',Y,ac,av,aJ,bv⟩
    .omega
    grind
   refine⟨rfl,_,Ls ht oR ak w,?_⟩;obtain⟨b4,cz,dw⟩:=tn.1 ak;have dw:cr ao (len l)<=(T l:O):=dw;have q2:=hs.1.cap.sub (L:=(cr lo 0).toNat) (n':=(cr ao<|len l).toNat-(cr lo 0).toNat) V;have:=hs.1.sub (L:=(cr lo 0).toNat) (N:=(cr ao<|len l).toNat-(cr lo 0).toNat) V;simp only[bI,eR,ci,a4];simp only[oD]at this q2;exact⟨by unfold ah cy;omega,this,q2⟩
  replace h:=hA h;obtain⟨aA,h⟩:=h;have:=ft aA;cases this;replace h:=jS h;obtain⟨ak,h⟩:=h;cases h;exact⟨rfl,aa8 ht (ZR hs.1 et.2) ak w⟩
 case osl id off n=>
  simp only[yu,aR.bC]at h;have hs:ci phx (view w M) B (.osl id off n) cZ:=eF;have et:=hm.blks id;simp only[ci]at hs;generalize a4:B id=bl at h hs et;cases bl<;>try(cases h)
  .replace h:=hA h;obtain⟨aA,h⟩:=h
   have:=ft aA;cases this;replace h:=jS h;obtain⟨ak,h⟩:=h;cases h;obtain⟨ct,hs,m9⟩:=hs;obtain⟨ad,cap,rfl⟩:=hs.slice;have oR:n<=cap:=aLI
   refine⟨rfl,_,Ls ht oR ak w,?_⟩;obtain⟨b4,cz,dw⟩:=tn.1 ak;have dw:cr ao (bc n)<=(n:O):=dw;have:=hs.sub (L:=(cr lo 0).toNat) (N:=(cr ao<|bc n).toNat-(cr lo 0).toNat) V;have q2:=m9.sub (L:=(cr lo 0).toNat) (n':=(cr ao<|bc n).toNat-(cr lo 0).toNat) V;simp only[bI,eR,ci,a4];exact⟨by unfold ah cy bB;omega,this,q2⟩
  replace h:=hA h;obtain⟨aA,h⟩:=h;have:=ft aA;cases this;replace h:=jS h;obtain⟨ak,h⟩:=h;cases h;obtain⟨ct,hs⟩:=hs;obtain⟨ad,cap,rfl⟩:=hs.slice;have oR:n<=cap:=aLI
  refine⟨rfl,_,Ls ht oR ak w,?_⟩;obtain⟨b4,cz,dw⟩:=tn.1 ak;have dw:cr ao (bc n)<=(n:O):=dw;have:=hs.sub (L:=(cr lo 0).toNat) (N:=(cr ao<|bc n).toNat-(cr lo 0).toNat) V;simp only[bI,eR,ci,a4];exact⟨by unfold ah cy bB;omega,this⟩
def aGU{gU:aw}{tid:cD}(ht:(dz P gU).1 tid){a r:aP}{cZ:aS}{lo ao:au O}{m:O}(h:(yu gU a lo ao<|some m).bC g B=J (r,B'))
  (eF:bI phx (view w M) B a cZ) (ks kh JJ:gL) :
  B'=B/\∃v,(qD tid cZ (lo.map λi=>.int ks i) (ao.map λi=>.int kh i)<|some<|.int JJ m).run P w=.ok v w/\bI phx (view w M) B r v:=by
 cases ao with
 |none=>cases h
 |some ao=>
  cases a<;>try(cases h)
  rename_i t x;cases gU<;>try(cases h)
  rename_i e;replace h:=aR.dd h;obtain⟨l,du,Y,h⟩:=h;obtain⟨aA,rfl⟩:=eu Y;obtain⟨b9,rfl⟩:=w? aA;subst b9;replace h:=jS h;obtain⟨ak,h⟩:=h;cases h;simp only[df,d5,Yp.am,beq_iff_eq]at ak;obtain⟨ak,rfl⟩:=ak;obtain⟨b4,cz,dw⟩:=tn.1 ak;obtain⟨cs,dc,rfl⟩:=eF;obtain⟨ad,cap,rfl,cR,_⟩:=ba.Dh.1 dc;have dw:ao<=(T (x:ab e.a_):O):=dw;obtain⟨⟨bM,bq,aX⟩,_⟩:=ht;have bN:=pS aX w;have b0:0<=ao/\ao<=(cap:O):=⟨V,V⟩;have g0:=b0.1;have Ya:(rE af (T (x:ab e.a_)) cap (lo.map λi=>.int ks i) (J<|.int kh ao)<|some<|.int JJ ao).run P w=.ok ((cr lo 0).toNat,ao.toNat,ao.toNat) w:=by
   cases lo with
   |none=>simp[rE,Instr.sliceBound,asIntOf,b0,cr,g0,Ht g0]
   |some lo =>simp_all[cr,rE,Instr.sliceBound,asIntOf,Ht]
  refine⟨rfl,.slice (if ao.toNat=(cr lo 0).toNat then ad else ad.map (·.add ((cr lo 0).toNat*e.size))) (ao.toNat-(cr lo 0).toNat)<|ao.toNat-(cr lo 0).toNat,?_,?_⟩
  .simp_all[qD,Instr.slice,d',db,aw.isAgg]
  have:=dc.sub (L:=(cr lo 0).toNat) (N:=ao.toNat-(cr lo 0).toNat) (cap':=ao.toNat-(cr lo 0).toNat) V V V;have cP:T (Yp.sub (x:ab e.a_) (cr lo 0) ao)=ao.toNat-(cr lo 0).toNat:=mw (α:=e.a_) (l:=(x:ab e.a_)) V;have vS:(if ao.toNat=(cr lo 0).toNat then ad else ad.map (·.add ((cr lo 0).toNat*e.size)))=if ao.toNat-(cr lo 0).toNat=0 then ad else ad.map (·.add ((cr lo 0).toNat*e.size)):=by
   grind
  rw[vS];exact⟨_,by rw[cP],this⟩
def iO.afj{id:R}{e:aw}{ad:au Addr}{cap:R}(h:iO phx id e off n<|.slice ad m cap):m=n/\n<=cap:=by
 rcases h with⟨Y,a,ac⟩|⟨b,o,m,cap',Y,ac,av,aJ,bv⟩
 .simp only[Value.slice.injEq]at ac;omega
 simp only[Value.slice.injEq]at ac;omega
def iO.avY{id:R}{e:aw}{ad:au Addr}{cap:R}(h:iO phx id e off n<|.slice ad n cap)(ct:L+N<=cap):
  iO phx id e (off+L) N (.slice (if cap=L then ad else ad.map (·.add (L*e.size))) N<|cap-L):=by
 rcases h with⟨Y,a,ac⟩|⟨b,o,m,cap',Y,ac,av,aJ,bv⟩
 .simp only[Value.slice.injEq]at ac
  exact aMf
 simp only[Value.slice.injEq]at ac;obtain⟨rfl,_,rfl⟩:=ac;by_cases aA:cap=L
 .exact aNo
 right;refine⟨b,o,m,cap-L,Y,?_,V,V,aNp⟩;rw[if_neg aA];simp[rN,lf,l3]
def aGV{e:aw}{tid:cD}(ht:(dz P<|.sl e).1 tid){a r:aP}{cZ:aS}{lo ao sg:au O}(h:(aa5 (.sl e) a lo ao sg).bC g B=J (r,B'))
  (hm:cd K w0 phx M B w) (eF:bI phx (view w M) B a cZ) (ks kh JJ:gL) :
  B'=B/\∃v,(qD tid cZ (lo.map λi=>.int ks i) (ao.map λi=>.int kh i)<|sg.map λi=>.int JJ i).run P w=.ok v w/\bI phx (view w M) B r v:=by
 unfold aa5 at h;split at h
 .split at h
  .rename_i hh
   split at h
   .rename_i id off n
    simp only[aR.bC]at h;have hs:ci phx (view w M) B (.osl id off n) cZ:=eF;simp only[ci]at hs;generalize a4:B id=bl at h hs;cases bl<;>try(cases h)
    replace h:=hA h;obtain⟨aA,h⟩:=h;have:=ft aA;cases this;replace h:=jS h;obtain⟨ak,h⟩:=h;cases h;rename_i l;simp only[df,d5]at ak;obtain⟨uy,ak⟩:=ak;obtain⟨ct,bg,q2⟩:=hs;obtain⟨ad,cap,rfl⟩:=bg.slice;obtain⟨b4,cz,dw⟩:=tn.1 ak;have dw:hh<=(T l:O)-(off:O):=dw;have fE:T l<=off+cap:=by
     rcases q2 with⟨Y,a,ac⟩|⟨b,o,m,ajQ,cap',Y,ac,av⟩
     .omega
     simp at ac;omega
    have b0:0<=hh/\hh<=(cap:O):=⟨V,V⟩;have Ya:(rE af n cap (lo.map λi=>.int ks i) (J<|.int kh hh) aq).run P w=.ok ((cr lo 0).toNat,hh.toNat,cap) w:=by
     cases lo with
     |none=>simp[rE,Instr.sliceBound,asIntOf,b0,cr]
     |some lo =>simp only[cr]at b4 cz ⊢;have bT:0<=lo/\lo<=max hh 0:=⟨b4,V⟩;simp_all[rE,Instr.sliceBound,asIntOf]
    obtain⟨⟨bM,bq,aX⟩,_⟩:=ht;have bN:=pS aX w;refine⟨rfl,.slice (if cap=(cr lo 0).toNat then ad else ad.map (·.add ((cr lo 0).toNat*e.size))) (hh.toNat-(cr lo 0).toNat)<|cap-(cr lo 0).toNat,?_,?_⟩
    .exact aOK
    have Y:=bg.avY (L:=(cr lo 0).toNat) (N:=hh.toNat-(cr lo 0).toNat) V;have ac:=q2.sub (L:=(cr lo 0).toNat) (n':=hh.toNat-(cr lo 0).toNat) V
    grind [bI,eR,ci,ah,cy,bB]
   exact aa9 ht h hm eF ks kh
  exact aa9 ht h hm eF ks kh
 rename_i m;split at h
 .rename_i hh
  split at h
  .rename_i id fm
   simp only[aR.bC]at h;have hs:ci phx (view w M) B (.own id fm) cZ:=eF;simp only[ci]at hs;generalize a4:B id=bl at h hs;cases bl<;>try(cases h)
   replace h:=hA h;obtain⟨aA,h⟩:=h;replace h:=jS h;obtain⟨ak,h⟩:=h;cases h;rename_i l;simp only[df,d5,bL,decide_eq_true_eq]at ak;obtain⟨ak,r7⟩:=ak;have r7:m<=(T l:O):=r7;obtain⟨b4,cz,dw⟩:=tn.1 ak;obtain⟨ad,cap,rfl⟩:=hs.1.slice;obtain⟨_,oR⟩:=hs.1.afj;obtain⟨⟨bM,bq,aX⟩,_⟩:=ht;have bN:=pS aX w;have b0:0<=m/\m<=(cap:O):=⟨V,V⟩;have g0:=b0.1;have bT:0<=hh/\hh<=m:=⟨V,dw⟩;have Ya:(rE af (T l) cap (lo.map λi=>.int ks i) (J<|.int kh hh)<|some<|.int JJ m).run P w=.ok ((cr lo 0).toNat,hh.toNat,m.toNat) w:=by
    cases lo with
    |none=>simp[rE,Instr.sliceBound,asIntOf,b0,cr,g0,bT,Ht g0]
    |some lo =>simp only[cr]at b4 cz ⊢;have dE:0<=lo/\lo<=max hh 0:=⟨b4,V⟩;simp[rE,Instr.sliceBound,asIntOf,b0,g0,bT,Ht g0,dE,b4,cz]
   exact⟨rfl,_,by simp[qD,Instr.slice,d' bq,Ya,bN];rfl,trivial⟩
  cases h
 cases h
end
end Yp
namespace Yp
open Go
def w1:=@Nat.mod_eq_of_lt
def MM:=@Nat.mul_le_mul_left
variable {P:d_}
def d?(K:Kp)(w0:bu)(phx:cV)(M:R->Prop)(B:R->bm)(w:bu)(B':R->bm)(v:aP)(r:aS)(w':bu):Prop:=
 ∃phx' aZ,cd K w0 phx' aZ B' w'/\c8 phx M B w phx' aZ B' w'/\bI phx' (view w' aZ) B' v r
section
variable {K:Kp} {w0 w:bu} {phx:cV} {M:R->Prop} {B B':R->bm} {g:R->aP}
theorem d?.same(hm:cd K w0 phx M B w){v:aP}{r:aS}(h:B'=B)(az:bI phx (view w M) B v r):d? K w0 phx M B w B' v r w:=by subst h;exact⟨phx,M,hm,c8.refl _ _ _ _,az⟩
def EG{id:R}{k:aR aP}{r:aP×(R->bm)}(h:(Yp.vN id k).bC g B=J r):B id=.new/\k.bC g B=J r:=by
 grind [Yp.vN,aR.bC]
def mY.lt{id:R}{b:bm}{H:cX}(h:mY phx M w H B id b)(hm:b.gB=af){x:R×R×R}(hx:phx id=J x):x.1<w.heap.size:=by
 have bK:∀{b:R} {o:Obj},w.heap[b]?=J o->b<w.heap.size:=λbg=>(jO.1 bg).1;cases b with
 |new=>cases hm
 |ga=>cases hm
 |fz e l=>cases hm
 |box t v=>obtain⟨b,o,c,el,fz,Y,ac,_⟩:=h;exact aOk
 |ob e l=>
  rcases h.2 with⟨Y,_⟩|⟨b,o,c,el,fz,Y,ac,_⟩
  .grind
  grind
 |it s p=>obtain⟨b,Y,ac,_⟩:=h;exact aOk
 |mp kt vt l=>obtain⟨b,es,oI,Y,ac,_⟩:=h;exact aOk
def cd.born(hm:cd K w0 phx M B w){id:R}(hid:B id=.new){w':bu}(Y:w'.os=w.os)(ac:w'.tape=w.tape)(av:w'.output=w.output)(hs:w.heap.size<w'.heap.size)
  (ak:∀b,b<w.heap.size->w'.heap[b]?=w.heap[b]?) (lk:bm) (n:R)
  (az:∀phx' aZ,c8 phx M B w phx' aZ (dx B id lk) w'->phx' id=J (w.heap.size,0,n)->aZ w.heap.size->mY phx' aZ w' (view w' aZ) (dx B id lk) id lk) :
  ∃phx' aZ,cd K w0 phx' aZ (dx B id lk) w'/\c8 phx M B w phx' aZ (dx B id lk) w'/\phx' id=J (w.heap.size,0,n):=by
 obtain⟨b',e1⟩:=hm.ER Y ac av (Nat.le_of_lt hs) ak (λb=>b=w.heap.size)<|λb h=>V;obtain⟨cN,bh⟩:=b'.w8 hid lk (J (w.heap.size,0,n)) (λ_ y bW aB=>by cases bW;have Y:=hm.klt _ aB;have ac:=hm.size;omega) (λ_ y bW j aF z bN=>by cases bW;have:=(hm.blks j).lt aF bN;omega)<|λaX=>az _ _ (e1.trans aX) (nm _ _ _) (.inr rfl)
 exact⟨_,_,cN,e1.trans bh,nm _ _ _⟩
def sX(w:bu)(o:Obj)(b:R)(h:b<w.heap.size):(w.alloc o).heap[b]?=w.heap[b]?:=by
 show(w.heap.push o)[b]?=_
 grind
def sW(w:bu)(o:Obj):(w.alloc o).heap[w.heap.size]?=J o:=by show(w.heap.push o)[w.heap.size]?=_;simp
def jz(w:bu)(o:Obj):(w.alloc o).heap.size=w.heap.size+1:=bP
def z0(c:cO aS):jc c (0,0):=.inl rfl
def Sn{c:cO aS}{cu:ab aS}(h:c.toList=cu)(ax:cu.length=n):dg c 0 n=cu:=by
 grind [dg]
def ado{t:aw}{tid:cD}(ht:(dz P t).1 tid){id:R}(hid:B id=.new){pv:aP}{v:aS}{cu:ab aS}(hm:cd K w0 phx M B w)(a3:v.cells.toList=cu)(hT:fX phx (view w M) B pv t cu):
  ∃r w',(Instr.box tid v).run P w=.ok r w'/\d? K w0 phx M B w (dx B id<|.box t pv) (.ptr id []) r w':=by
 have dA:v.cells.size=t.size:=by rw[<- hT.length,<- a3];simp
 refine⟨.pointer<|some ⟨w.heap.size,0,aq⟩,w.alloc<|.cells v.cells tid,by simp[Instr.box,newVar,Go.newRow],?_⟩;obtain⟨phx',aZ,b',e1,Y⟩:=hm.born hid (w':=w.alloc<|.cells v.cells tid) rfl rfl rfl bP (sX w _) (.box t pv) v.cells.size λphx' aZ aX hp eE=>by refine⟨w.heap.size,0,v.cells,tid,(0,0),hp,sW w _,V,?_,z0 _,eE⟩;rw[Sn a3 hT.length];exact aX.cp hT
 refine⟨phx',aZ,b',e1,?_⟩;simp_all[bI,eR,ci,fH,P9]
def AV{H:cX}:∀t:aw,fX phx H B (oB t) t (eB t)
 |.bool=>⟨rfl,ba.zero _ .bool⟩
 |.int k=>⟨rfl,ba.zero _<|.int k⟩
 |.str=>⟨rfl,ba.zero _ .str⟩
 |.sl e=>⟨rfl,_,rfl,rfl,rfl⟩
 |.unit=>⟨rfl,ba.zero _ .unit⟩
 |.pair a b=>⟨_,_,rfl,AV a,AV b⟩
 |.ar n e=>⟨rfl,ba.zero _<|.ar n e⟩
 |.op k=>⟨rfl,ba.zero _<|.op k⟩
 |.fn l=>⟨rfl,ba.zero _<|.fn l⟩
def C6{t:aw}{tid:cD}(ht:(dz P t).1 tid)(w:bu):(zeroValue tid).run P w=.ok (db t<|eB t) w:=by obtain⟨i,Y,ac,av,aJ⟩:=oM ht;simp_all[zeroValue,amw]
theorem vb(t:aw):(db t<|eB t).cells=(eB t).toArray:=JY<|ba.zero (λ_=>aq) t
def ap6{t:aw}{tid:cD}(ht:(dz P t).1 tid){id:R}(hid:B id=.new)(hm:cd K w0 phx M B w):
  ∃r w',(Instr.alloc tid af<|.tuple #[]).run P w=.ok r w'/\d? K w0 phx M B w (dx B id<|.box t<|oB t) (.ptr id []) r w':=by
 obtain⟨r,w',Y,ac⟩:=ado ht hid hm (v:=db t<|eB t) (cu:=eB t) (by rw[vb])<|AV t;refine⟨r,w',?_,ac⟩;simp only[Instr.box]at Y;simp[Instr.alloc,C6 ht]at Y ⊢;exact Y
def Gp(hm:cd K w0 phx M B w){id:R}(hid:B id=.new){w':bu}(Y:w'.os=w.os)(ac:w'.tape=w.tape)(av:w'.output=w.output)(hs:w.heap.size<w'.heap.size)
  (ak:∀b,b<w.heap.size->w'.heap[b]?=w.heap[b]?) {e:aw} (eq:0<e.size) {l:ab e.a_} {hP:cO aS} {el:cD} {fz:R×R} (aA:w'.heap[w.heap.size]?=J (.cells hP el fz)) (hf:jc hP fz)
  {H:cX} (c6:H.cU<|full w) (fb:fY (view w M) e l hP 0) {cap:R} (oR:T l<=cap) (kz:cap<=maxLen) (dA:cap*e.size<=hP.size) (fm:aE) (fs:fm=af->T l≠0) :
  d? K w0 phx M B w (dx B id<|.ob e l) (.own id fm) (.slice (J ⟨w.heap.size,0,aq⟩) (T l) cap) w':=by
 obtain⟨phx',aZ,b',e1,dN⟩:=hm.born hid Y ac av hs ak (.ob e l) hP.size λphx' aZ aX hp eE=>
  ⟨eq,.inr ⟨w.heap.size,0,hP,el,fz,hp,aA,fb.mono aX.vw,hf,eE⟩⟩
 refine⟨phx',aZ,b',e1,?_⟩;simp only[bI,eR,ci,fH];exact⟨.inr ⟨_,0,_,cap,dN,bP,oR,kz,by simpa using dA⟩,fs⟩
def x4{id:R}{e:aw}{l:ab e.a_}{r:aP}(h:(Yp.x3 id e l fm).bC g B=J (r,B')):0<e.size/\B id=.new/\r=.own id fm/\B'=dx B id (.ob e l):=by replace h:=hA h;obtain⟨aC,h⟩:=h;replace h:=EG h;obtain⟨Y,h⟩:=h;cases h;simp_all
def aJy{z:ab aS}(h:i<n):(l2 z.toArray n)[i]?=J (z.toArray[i%z.length]!):=by simp[l2,h]
theorem aIf{z:ab aS}(bN:0<z.length)(h:i<m):dg (l2 z.toArray<|m*z.length) (i*z.length) z.length=z:=by
 have mz:(i+1)*z.length<=m*z.length:=jk _ h;rw[lf]at mz;apply vf
 grind [yp,Nat.add_mul_mod_self_right,Nat.mod_eq_of_lt,sx,l2]
def Tx(H:cX){e:aw}(eq:0<e.size)(h:n<=m):fY H e (cb n e.zero) (l2 (eB e).toArray<|m*e.size) 0:=by
 refine⟨?_,λi x ao => ?_⟩
 .simp_all[size_madeCells,cb,jk]
 grind [cb,tX,aIf,ba.zero]
def aq6(e:aw):0<e.bytes:=by unfold aw.bytes;split<;>omega
def amj{e:aw}:iq e n=af↔n*e.bytes<=140737488355328:=by exact decide_eq_true_iff
def R'{e:aw}(h:iq e n=af):n<=maxLen:=by rw[amj]at h;have:n*1<=n*e.bytes:=MM _<|aq6 e;unfold maxLen;omega
def R_{e:aw}(h:iq e n=af)(ak:b<=e.bytes):n*b<=140737488355328:=by rw[amj]at h;have:n*b<=n*e.bytes:=MM _ ak;omega
def aBh{e:aw}{tid:cD}(ht:(dz P<|.sl e).1 tid){id:R}{l c:O}{kl kc:gL}{r:aP}(hm:cd K w0 phx M B w)
  (h:(aR.chk (df (cq 0 l c)<|iq e<|ah c)<|Yp.x3 id e (cb (ah l) e.zero) ag).bC g B=J (r,B')) :
  ∃v w',(Instr.makeSlice tid (.int kl l)<|.int kc c).run P w=.ok v w'/\d? K w0 phx M B w B' r v w':=by
 replace h:=jS h;obtain⟨aA,h⟩:=h;simp only[df,d5]at aA;obtain⟨aC,hid,rfl,rfl⟩:=x4 h;obtain⟨_,b4,cz⟩:=tn.1 aA.1;have gR:=aA.2;obtain⟨⟨bM,bq,aX⟩,_⟩:=ht;obtain⟨i,b0,bT,dE,g6⟩:=oM aX;have EY:=R_ gR dE;have kz:=R' gR;have ax:((ah c:R):O)=c:=aLB
 have axN:(i.bytes:O)*c<=281474976710656:=by
  grind
 have az:=run_make (P:=P) w tid bM i _ bq b0 g6 kl kc l c b4 cz axN aNf;refine⟨_,_,az,?_⟩;rw[vb,bT];have cP:T (cb (ah l) e.zero)=l.toNat:=by simp[cb,ah]
 have:=Gp (K:=K) (w0:=w0) (phx:=phx) (M:=M) (B:=B) (w:=w) hm hid (w':=w.alloc<|.cells (l2 (eB e).toArray<|c.toNat*e.size) bM) rfl rfl rfl bP (sX w _) aC
  (l:=cb (ah l) e.zero) (sW w _) (z0 _) (tP w M) (Tx _ aC aLB) (cap:=c.toNat) V V (by rw[size_madeCells];exact cx _) ag (λh=>by cases h)
 grind
def aDI{tid:cD}(bq:P.underlying tid=J .string){id:R}(hid:B id=.new)(hm:cd K w0 phx M B w):
  ∃v w',(Instr.range tid<|.string ⟨l.toArray⟩).run P w=.ok v w'/\d? K w0 phx M B w (dx B id<|.it l 0) (.itp id) v w':=by
 refine⟨.pointer<|some ⟨w.heap.size,0,aq⟩,w.alloc<|.stringIter ⟨l.toArray⟩ 0,by simp[Instr.range,d' bq],?_⟩;obtain⟨phx',aZ,b',e1,dN⟩:=hm.born hid (w':=w.alloc<|.stringIter ⟨l.toArray⟩ 0) rfl rfl rfl bP (sX w _) (.it l 0) 0 λphx' aZ aX hp eE=>
  ⟨w.heap.size,hp,sW w _,eE⟩
 refine⟨phx',aZ,b',e1,?_⟩
 grind [bI,eR,ci,fH]
end
end Yp
namespace Yp
open Go
def mW:=@List.length_eq_zero_iff
def qJ:=@List.length_map
def DP:=@List.getElem?_append_right
def pd:=@Nat.mul_one
def pe:=@Array.ext'
def G?:=@List.getElem?_append_left
def D0:=@List.cons.injEq
variable {P:d_}
section
variable {K:Kp} {w0 w:bu} {phx:cV} {M:R->Prop} {B B':R->bm} {g:R->aP} {H:cX}
def fM(H:cX)(e:aw)(l:ab e.a_)(cs:ab aS):Prop:=T cs=T l*e.size/\∀(i:R) (x:e.a_),jq l i=J x->ba H e x ((cs.drop<|i*e.size).take e.size)
def JR{l:ab α}{x:α}(h:jq l i=J x):i<T l:=(oC.1 h).1
theorem zX{s:R}(h:i<n):i*s+s<=n*s:=by
 have:=jk s<|show i+1<=n from h
 grind
def fY.uc{e:aw}{l:ab e.a_}{c:cO aS}(h:fY H e l c o):fM H e l<|dg c o<|List.length l*e.size:=by refine⟨sx h.1,λi x ao => ?_⟩;rw[Gu _ _ _ _ _<|zX<|JR ao];exact h.2 i x ao
def fM.row{e:aw}{l:ab e.a_}{c:cO aS}(ax:o+T l*e.size<=c.size)(h:fM H e l<|dg c o<|List.length l*e.size):fY H e l c o:=by
 refine⟨ax,λi x ao => ?_⟩;have:=h.2 i x ao
 grind [Gu,zX]
def fM.nil(e:aw):fM H e [] []:=⟨bP,λi x ao=>by simp[jq]at ao⟩
def fM.append{e:aw}{l m:ab e.a_}{cs ds:ab aS}(h:fM H e l cs)(k:fM H e m ds):fM H e (l++m)<|cs++ds:=by
 refine⟨by rw[d7,d7,h.1,k.1,lf],λi x ao => ?_⟩;by_cases hl:i<T l
 .simp only[jq]at ao
  rw[G? hl]at ao;rw[V4 _ _ _ _ (by rw[h.1];exact zX hl)];exact h.2 i x ao
 simp only[jq]at ao;rw[DP V]at ao;have:=k.2 (i-T l) x ao;rw[<- V6 cs ds,h.1,<- lf]at this
 grind
def fM.one{e:aw}{l:ab e.a_}{cs:ab aS}(h:fM H e l cs):∀v∈cs,v.oneCell'=af:=by intro v a3;obtain⟨i,ao,hm⟩:=ajI _ _ cs h.1 v a3;exact(h.2 i _<|lg ao).one v hm
def fM.bytes(l:ab aN):fM H (.int .u8) (l:ab<|cj .u8)<|l.map λb=>Value.int .u8 b.toNat:=by
 refine⟨by simp only[qJ,aw.size,pd];rfl,λi x ao => ?_⟩;simp only[aw.size,pd];have:((l.map λb=>Value.int .u8 (b.toNat:O)).drop i).take 1=[Value.int .u8<|cj.to .u8 x]:=by
  apply vf;intro j;cases j with
  |zero =>have ej:l[i]?=J (x:aN):=ao;simp[ej];rfl
  |succ j=>simp[TJ]
 rw[this];rfl
def aFU{id:R}{e:aw}{x:ab e.a_}(h:(C4 ag id e).bC g B=J (x,B'))(hm:cd K w0 phx M B w):
  B'=B/\T3 B id e x/\((phx id=aq/\x.length=0)\/∃b o c el fz,phx id=J (b,o,c.size)/\w.heap[b]?=J (.cells c el fz)/\fY (view w M) e x c o):=by
 have ak:=hm.blks id;simp only[C4,aR.bC]at h;cases a4:B id with
 |ob b9 l=>
  rw[a4]at h ak;obtain⟨y,du,Y,ac⟩:=aR.dd h;obtain⟨aA,rfl⟩:=eu Y;obtain⟨gy,rfl⟩:=kv aA;subst gy;cases ac;refine⟨rfl,.inl a4,?_⟩;rcases ak.2 with h|⟨b,o,c,el,fz,b0,bT,dE,_⟩
  .exact .inl h
  exact .inr ⟨b,o,c,el,fz,b0,bT,dE⟩
 |fz b9 l=>
  rw[a4]at h ak;obtain⟨aA,rfl⟩:=eu h;obtain⟨gy,rfl⟩:=kv aA;subst gy;refine⟨rfl,.inr<|.inl a4,?_⟩;rcases ak.2 with h|⟨b,o,c,el,fz,b0,bT,dE⟩
  .exact .inl h
  exact aMv
 |box t v=>
  rw[a4]at h ak;cases t<;>try(cases h;done)
  rename_i n b9;obtain⟨l,du,Y,ac⟩:=aR.dd h;clear h;obtain⟨hl,rfl⟩:=eu Y;obtain⟨y,cJ,av,aJ⟩:=aR.dd ac;clear ac;obtain⟨aA,rfl⟩:=eu av;obtain⟨gy,rfl⟩:=kv aA;subst gy;obtain⟨_,h⟩:=hA aJ;clear aJ;cases h;obtain⟨eZ,uI,c0,ub,uj,b0,bT,dE,g6,lP,uk⟩:=ak;obtain⟨cP,fb⟩:=Nj (tM hl g6) dE;exact⟨rfl,.inr<|.inr ⟨v,by show _=bm.box (.ar (T (α:=b9.a_) l) b9) v;rw[cP];exact a4⟩,.inr ⟨eZ,uI,c0,ub,uj,b0,bT,fb⟩⟩
 |new=>exact aMB
 |ga=>exact aMB
 |it s p=>exact aMB
 |mp kt vt l=>exact aMB
def aaX{e:aw}{x:aP}{ib:aS}{bZ:ab e.a_}(h:(nl ag (.sl e) x).bC g B=J (bZ,B'))(hm:cd K w0 phx M B w)(az:bI phx (view w M) B x ib):
  B'=B/\∃ad cap,ib=.slice ad bZ.length cap/\(bZ=[]\/∃b o c el fz,ad=J ⟨b,o,aq⟩/\w.heap[b]?=J (.cells c el fz)/\fY (view w M) e bZ c o):=by
 have plain:∀{v:aS},ba (view w M) (.sl e) bZ [v]->∃ad cap,v=.slice ad bZ.length cap/\(bZ=[]\/∃b o c el fz,ad=J ⟨b,o,aq⟩/\w.heap[b]?=J (.cells c el fz)/\fY (view w M) e bZ c o):=by
  intro v dc;obtain⟨ad,cap,Y,_,_,aJ⟩:=ba.jt.1 dc;simp only[D0,and_true]at Y;refine⟨ad,cap,Y,?_⟩;rcases aJ with aJ|⟨b,o,c,el,fz,b0,bT,dE⟩
  .exact .inl aJ
  exact aMv
 have row:∀{id:R} {b9:aw} {l:ab b9.a_},(B id=.ob b9 l\/B id=.fz b9 l)->(phx id=aq/\T l=0)\/∃b o c el fz,phx id=J (b,o,c.size)/\w.heap[b]?=J (.cells c el fz)/\fY (view w M) b9 l c o:=by
  intro id b9 l ak;have et:=hm.blks id;rcases ak with ak|ak<;>rw[ak]at et
  .rcases et.2 with h|⟨b,o,c,el,fz,b0,bT,dE,_⟩
   .exact .inl h
   exact .inr ⟨b,o,c,el,fz,b0,bT,dE⟩
  rcases et.2 with h|⟨b,o,c,el,fz,b0,bT,dE⟩
  .exact .inl h
  exact aMv
 have Z0:∀{id:R} {l:ab e.a_} {off n:R} {v:aS},((phx id=aq/\T l=0)\/∃b o c el fz,phx id=J (b,o,c.size)/\w.heap[b]?=J (.cells c el fz)/\fY (view w M) e l c o)->iO phx id e off n v->off+n<=T l ->
   ∃ad cap,v=.slice ad (T<|cut l off n) cap/\(cut l off n=[]\/∃b o c el fz,ad=J ⟨b,o,aq⟩/\w.heap[b]?=J (.cells c el fz)/\fY (view w M) e (cut l off n) c o):=by
  intro id l off n v ak bg ct;rw[mw ct];rcases bg with⟨Y,a,ac⟩|⟨b,o,m,cap,Y,ac,av,aJ,bv⟩
  .subst Y;exact⟨a,0,ac,.inl<|by simp[cut]⟩
  refine⟨_,cap,ac,?_⟩;rcases ak with⟨b4,cz⟩|⟨eH,dZ,c,el,fz,b4,cz,dw⟩
  .exact .inl (mW.1 (by rw[mw ct];omega))
  rw[Y]at b4;cases b4;refine .inr ⟨b,o+off*e.size,c,el,fz,rfl,cz,?_,λi x ao => ?_⟩
  .rw[mw ct]
   have c_:=dw.1;have:(off+n)*e.size<=T l*e.size:=jk _ ct;rw[lf]at this;omega
  have dP:=JR ao;rw[mw ct]at dP;rw[HX dP]at ao;have:=dw.2 (off+i) x ao;rw[lf,<- l3]at this;exact this
 unfold nl at h;cases x<;>try(cases h;done)
 case sc t y =>obtain⟨aA,rfl⟩:=eu h;obtain⟨b9,rfl⟩:=w? aA;subst b9;obtain⟨cs,dc,rfl⟩:=az;obtain⟨ad,cap,rfl,_⟩:=ba.Dh.1 dc;exact⟨rfl,plain dc⟩
 case nil =>have h:(aR.opt<|Zf<|.sl e).bC g B=J (bZ,B'):=h;obtain⟨aA,rfl⟩:=eu h;cases aA;simp only[bI,eR,ci]at az;subst az;exact⟨rfl,aq,0,rfl,.inl rfl⟩
 case csl b9 l =>obtain⟨aA,rfl⟩:=eu h;obtain⟨gy,rfl⟩:=kv aA;subst gy;obtain⟨ad,_,dc⟩:=az;exact⟨rfl,plain dc⟩
 case agg t u =>exfalso;obtain⟨b6,_⟩:=az;have ce:(bif aw.is t (.sl e) then AC ag u (.sl e) else .fail:aR (aw.sl e).a_).bC g B=J (bZ,B'):=h;obtain⟨ao,_⟩:=hA ce;have:=ft ao;subst this;cases b6
 case own id fm=>
  have hs:ci phx (view w M) B (.own id fm) ib:=az;have ce:(uU ag id e).bC g B=J (bZ,B'):=h;simp only[uU,aR.bC]at ce;simp only[ci]at hs;generalize a4:B id=bl at ce hs;cases bl<;>try(cases ce;done)
  .obtain⟨y,du,Y,ac⟩:=aR.dd ce
   obtain⟨aA,rfl⟩:=eu Y;obtain⟨gy,rfl⟩:=kv aA;subst gy;cases ac;have:=Z0 (row<|.inl a4) hs.1 V;rw[Ei]at this;exact⟨rfl,this⟩
  obtain⟨aA,rfl⟩:=eu ce;obtain⟨gy,rfl⟩:=kv aA;subst gy;have:=Z0 (row<|.inr a4) hs.1 V;rw[Ei]at this;exact⟨rfl,this⟩
 case osl id off n =>have hs:ci phx (view w M) B (.osl id off n) ib:=az;have ce:((C4 ag id e).bind λx=>.ret<|cut x off n).bC g B=J (bZ,B'):=h;obtain⟨z,du,av,aJ⟩:=aR.dd ce;cases aJ;obtain⟨rfl,bv,c_⟩:=aFU av hm;obtain⟨eJ,cH⟩:=akE bv hs;exact⟨rfl,Z0 c_ cH eJ⟩
def oF(P:d_)(w:bu)(size n:R)(x:aS)(news:ab aS):Prop:=
 (∀w':bu,(Builtin.lenOf x).run P w'=.ok n w')/\∀w':bu,w'.heap=w.heap->(Builtin.firstCells size n x).run P w'=.ok news.toArray w'
def abo{e:aw}{l:ab e.a_}{c:cO aS}{el:cD}{fz:R×R}{cap:R}(ak:w.heap[b]?=J (.cells c el fz))(az:fY H e l c o):
  oF P w e.size (T l) (.slice (J ⟨b,o,aq⟩) (T l) cap) (dg c o<|List.length l*e.size):=by
 refine⟨λ_=>rfl,λw' bR => ?_⟩;exact Gq (by rw[bR];exact ak) az.1
def abn(s:R)(ad:au Addr)(cap:R):oF P w s 0 (.slice ad 0 cap) []:=by refine⟨λ_=>rfl,λw' _ => ?_⟩;cases ad<;>simp[Builtin.firstCells,loadCells,loadCellsFrom]
def aHe(l:ab aN):oF P w 1 (T l) (.string ⟨l.toArray⟩)<|l.map λb=>Value.int .u8 b.toNat:=by refine⟨λ_=>rfl,λw' _ => ?_⟩;simp_all[Builtin.firstCells]
def Sa{t u ty bM:cD}{i:TypeInfo}{d:TypeDesc}(ht:P.underlying t=J (.slice bM))(bq:P.underlying u=J d)(a?:d=.string\/∃q,d=.slice q)(ao:P.info? bM=J i)
  {x:aS} {n:R} {news:ab aS} (hx:oF P w i.size n x news) {b o sLen sCap:R} (gR:sLen+n<=sCap) {c:cO aS} {el:cD} {fz:R×R} (ak:w.heap[b]?=J (.cells c el fz)) (hf:jc c fz)
  (ax:o+sLen*i.size+T news<=c.size) (Y:∀v∈news,v.oneCell'=af) :
  ∃w',(lG #[t,u] ty #[.slice (J ⟨b,o,aq⟩) sLen sCap,x]).run P w=.ok (.slice (J ⟨b,o,aq⟩) (sLen+n) sCap) w' /\
   ∃dj:cO aS,MQ w w' b (.cells dj el fz)/\dj.toList=iU c.toList (o+sLen*i.size) news:=by
 obtain⟨w',ac,dj,av,aJ⟩:=Lt (P:=P) (b:=b) (el:=el) (fz:=fz) (o:=o+sLen*i.size) news 0 c w ak hf V Y;refine⟨w',?_,dj,av,by simpa using aJ⟩;have e1:=hx.1 w;have bh:=hx.2 w rfl;rcases a? with rfl|⟨q,rfl⟩<;>simp[lG,d' ht,d' bq,Go.sizeOf,typeInfo,ao,e1,bh,gR,rN,ac]
def aaR{t u ty bM:cD}{i:TypeInfo}{d:TypeDesc}(ht:P.underlying t=J (.slice bM))(bq:P.underlying u=J d)(a?:d=.string\/∃q,d=.slice q)(ao:P.info? bM=J i)
  {x:aS} (hx:oF P w i.size 0 x []) {ad:au Addr} {sCap:R} :
  (lG #[t,u] ty #[.slice ad 0 sCap,x]).run P w=.ok (.slice ad 0 sCap) w:=by
 have e1:=hx.1 w;have bh:=hx.2 w rfl;cases ad<;>(rcases a? with rfl|⟨q,rfl⟩<;>simp[lG,d' ht,d' bq,Go.sizeOf,typeInfo,ao,e1,bh,storeCells])
def aaQ{t u ty bM:cD}{i:TypeInfo}{z:aS}{d:TypeDesc}(ht:P.underlying t=J (.slice bM))(bq:P.underlying u=J d)(a?:d=.string\/∃q,d=.slice q)(ao:P.info? bM=J i)(bN:i.zero=J z)
  {x:aS} {n:R} {news:ab aS} (hx:oF P w i.size n x news) {ad:au Addr} {sLen sCap:R} {olds:ab aS} (bg:oF P w i.size sLen (.slice ad sLen sCap) olds) (hg:sCap<sLen+n)
  (kz:sLen+n<=maxLen) (iS:(sLen+n)*i.bytes<=140737488355328) :
  (lG #[t,u] ty #[.slice ad sLen sCap,x]).run P w =
   .ok (.slice (J ⟨w.heap.size,0,aq⟩) (sLen+n)<|grownCap w (sLen+n) sCap bM)
    (w.drew.alloc<|.cells (olds.toArray++news.toArray++k0 z.cells (ko w (sLen+n) sCap bM-(sLen+n))) bM):=by
 have ax:¬(sLen+n<=sCap):=V;have W9:¬(9223372036854775807<((sLen:O)+(n:O))):=aNf
 have ayo:=growslice_fits hg iS;have W8:¬(281474976710656<Builtin.nextslicecap (sLen+n) sCap*i.bytes):=V;have e1:=hx.1 w;have bh:=hx.2 w.drew rfl;have ei:=bg.2 w.drew rfl;rcases a? with rfl|⟨q,rfl⟩<;>simp[lG,d' ht,d' bq,Go.sizeOf,typeInfo,zeroValue,ao,bN,e1,ax,W9,W8,Question.forced,bh,ei,Go.newRow,ko]<;>(congr 2;apply pe;simp)
end
end Yp
namespace Yp
open Go
def gM:=@List.length_nil
def g?:=@List.append_nil
def qI:=@List.size_toArray
def vi:=@List.drop_zero
def yI:=@Array.size_append
def T1:=@List.take_left
def Na:=@Nat.le_succ
def Hs:=@Nat.lt_succ_self
def Nd:=@Array.toList_append
variable {P:d_}
section
variable {K:Kp} {w0 w:bu} {phx:cV} {M:R->Prop} {B B':R->bm} {g:R->aP} {H:cX}
def ana{c dj:cO aS}{vs:ab aS}(aA:dj.toList=iU c.toList o vs)(ax:o+T vs<=c.size)(h:a+n<=o):dg dj a n=dg c a n:=by
 grind [wB,LR]
def anb{c dj:cO aS}{vs:ab aS}(aA:dj.toList=iU c.toList o vs)(ax:o+T vs<=c.size):dg dj o (T vs)=vs:=by
 grind [wB,iU]
def anD{c dj:cO aS}{vs:ab aS}(aA:dj.toList=iU c.toList o vs)(ax:o+T vs<=c.size):dj.size=c.size:=by
 grind [GJ]
theorem fY.cut{H:cX}{e:aw}{l:ab e.a_}{c:cO aS}(h:fY H e l c o)(ct:off+m<=T l):fY H e (cut l off m) c<|o+off*e.size:=by
 have hl:=mw ct;have mz:(off+m)*e.size<=T l*e.size:=jk _ ct;rw[lf]at mz;refine⟨by rw[hl];have:=h.1;omega,λi x ao => ?_⟩;have bK:=JR ao;rw[hl]at bK;rw[HX bK]at ao;have:=h.2 (off+i) x ao
 rwa [lf,<- l3]at this
def ac3{e:aw}(eq:0<e.size){t u ty bM:cD}{d:TypeDesc}(ht:P.underlying t=J (.slice bM))(aX:(dz P e).1 bM)(bq:P.underlying u=J d)(a?:d=.string\/∃q,d=.slice q)
  (hm:cd K w0 phx M B w) {x:aS} {bZ:ab e.a_} {news:ab aS} (hx:oF P w e.size bZ.length x news) (c4:fM (view w M) e bZ news)
  {id off m:R} {l:ab e.a_} {vs:aS} (a4:B id=.ob e l) (ct:off+m<=T l) (xJ:iO phx id e off m vs) (gR:iq e (m+aQ bZ)=af) {k9:R} (g9:B k9=.new) :
  ∃r w',(lG #[t,u] ty #[vs,x]).run P w=.ok r w'/\d? K w0 phx M B w (dx (dx B id .ga) k9<|.ob e<|Yp.cut l off m++bZ) (.own k9 ag) r w':=by
 have fs:k9≠id:=λe=>by rw[e,a4]at g9;cases g9
 obtain⟨i,b0,bT,dE,g6⟩:=oM aX;have EY:=R_ gR dE;have kz:=R' gR;have et:=hm.blks id;rw[a4]at et;have xq:=c4.1;have fr:=mw ct

 have ER:∀{ad:au Addr} {cap:R} {olds:ab aS},oF P w e.size m (.slice ad m cap) olds->fM (view w M) e (Yp.cut l off m) olds->cap<m+bZ.length ->
   ∃r w',(lG #[t,u] ty #[.slice ad m cap,x]).run P w=.ok r w'/\d? K w0 phx M B w (dx (dx B id .ga) k9<|.ob e<|Yp.cut l off m++bZ) (.own k9 ag) r w':=by
  intro ad cap olds bg IH hg;have az:=aaQ (P:=P) (w:=w) (ty:=ty) ht bq a? b0 g6 (x:=x) (n:=bZ.length) (news:=news) aLC (ad:=ad) (sLen:=m) (sCap:=cap) (olds:=olds) (by rw[bT];exact bg) hg kz EY;refine⟨_,_,az,?_⟩;obtain⟨b',e1⟩:=hm.ga id;have nC:=grownCap_ge w (m+bZ.length) cap bM;have pw:=grownCap_le_maxLen w (m+bZ.length) cap bM kz;have IG:=IH.append c4;have cP:T (Yp.cut l off m++bZ)=m+bZ.length:=by rw[d7,fr]
  have vY:dg (olds.toArray++news.toArray++k0 (db e<|eB e).cells (ko w (m+bZ.length) cap bM-(m+bZ.length))) 0 (T (Yp.cut l off m++bZ)*e.size)=olds++news:=by rw[wB,<- IG.1];simp only[Nd,vi];exact T1
  have dA:ko w (m+bZ.length) cap bM*e.size=(olds.toArray++news.toArray++k0 (db e<|eB e).cells (ko w (m+bZ.length) cap bM-(m+bZ.length))).size:=by rw[yI,size_zeroCells,vb];simp only[yI,qI,tX,IH.1,xq,fr,<- lf];congr 1;omega
  have fb:fY (view w M) e (Yp.cut l off m++bZ) (olds.toArray++news.toArray++k0 (db e<|eB e).cells (ko w (m+bZ.length) cap bM-(m+bZ.length))) 0:=by
   refine fM.row ?_ ?_
   .rw[<- dA,oD,cP];exact jk _ nC
   rw[vY];exact IG
  have:=Gp (K:=K) (w0:=w0) (phx:=phx) (M:=M) (B:=dx B id .ga) (w:=w) b' (id:=k9) aPV
   (w':=w.drew.alloc<|.cells (olds.toArray++news.toArray++k0 (db e<|eB e).cells (ko w (m+bZ.length) cap bM-(m+bZ.length))) bM)
   rfl rfl rfl aNa (sX w.drew _) eq (l:=Yp.cut l off m++bZ) (sW w.drew _) (z0 _) (tP w M) fb (cap:=ko w (m+bZ.length) cap bM) (by rw[cP];exact nC) pw aPq ag (λh=>by cases h)
  obtain⟨phx',aZ,cN,bh,ac⟩:=this;rw[cP]at ac;exact⟨phx',aZ,cN,e1.trans bh,ac⟩
 rcases xJ with⟨Y,ad,ac⟩|⟨b,o,n,cap,Y,ac,av,aJ,bv⟩
 .subst Y;subst ac
  have oQ:Yp.cut l off 0=[]:=by simp[Yp.cut]
  by_cases bW:bZ.length=0
  .have oU:bZ=[]:=mW.1 bW
   subst oU;have ax:news=[]:=mW.1 (by rw[xq];simp);subst ax;refine⟨_,_,aaR (P:=P) ht bq a? b0 aLC,?_⟩;obtain⟨b',e1⟩:=hm.ga id;rw[oQ];obtain⟨cN,bh⟩:=b'.w8 (id:=k9) aPV (.ob e<|[]++[]) aq (λ_ y bW=>aPk) (λ_ y bW=>aPk)<|λ_=>⟨eq,.inl ⟨nm _ _ _,rfl⟩⟩;refine⟨_,_,cN,e1.trans bh,?_⟩;simp only[bI,eR,ci,fH];exact aPY
  exact ER (olds:=[]) (abn _ _ _) (by rw[oQ];exact fM.nil e) V
 subst ac;rcases et.2 with⟨b4,_⟩|⟨eH,dZ,c,el,fz,b4,cz,dw,f6,hj⟩
 .rw[Y]at b4;cases b4
 rw[Y]at b4;cases b4;have JF:=dw.cut ct;have bg:oF P w e.size m (.slice (J ⟨b,o+off*e.size,aq⟩) m cap)<|dg c (o+off*e.size)<|m*e.size:=by
  have:=abo (P:=P) (cap:=cap) cz JF
  rwa [fr]at this
 by_cases hg:cap<m+bZ.length
 .have:=JF.uc
  rw[fr]at this;exact ER bg this hg
 have X':m+bZ.length<=cap:=V;have mz:(m+bZ.length)*e.size<=cap*e.size:=jk _ X';rw[lf]at mz bv;obtain⟨w',az,dj,hp,m8⟩:=Sa (P:=P) (w:=w) (ty:=ty) ht bq a? b0 (x:=x) (n:=bZ.length) (news:=news) aLC (b:=b) (o:=o+off*e.size) (sLen:=m) (sCap:=cap) X' cz f6 (by rw[bT];omega) c4.one;rw[bT]at m8;have iS:o+off*e.size+m*e.size+T news<=c.size:=V;have dA:=anD m8 iS;refine⟨_,w',az,?_⟩;obtain⟨cN,af2⟩:=hm.put (id:=id) (x:=(b,o,c.size)) (w':=w') af_ Y hj hp.os hp.tape hp.output hp.size hp.other .ga (by rw[a4];trivial) λaX=>trivial;obtain⟨hD,ei⟩:=cN.w8 (id:=k9) aPV (.ob e<|Yp.cut l off m++bZ) (J (b,o+off*e.size,c.size)) (λ_ y bW=>by cases bW;exact hm.own id af_ (b,o,c.size) Y) (λ_ y bW j aF z bN=>by
   cases bW;have eT:j≠id:=λe=>by subst e;rw[fH]at aF;cases aF
   rw[eY _ _ eT]at aF;exact hm.sep j id eT aF af_ z (b,o,c.size) bN Y) (λaX=>by
  refine⟨eq,.inr ⟨b,o+off*e.size,dj,el,fz,by rw[nm,dA],hp.jW,?_,f6.same dA,hj⟩⟩;refine fM.row (by rw[d7,fr,lf];omega) ?_;rw[d7,fr,lf,Sm,ana m8 iS<|cx _,<- xq,anb m8 iS];have ct:=af2.vw;have eJ:=(JF.mono ct).uc;rw[fr]at eJ;exact eJ.append ⟨xq,λi x ao=>(c4.2 i x ao).mono ct⟩)
 refine⟨_,_,hD,af2.trans ei,?_⟩;simp only[bI,eR,ci,fH];refine⟨.inr ⟨b,o+off*e.size,c.size,cap,nm _ _ _,by rw[Nat.zero_mul,MH,d7,fr],by rw[d7,fr];exact X',aJ,by rw[oD];omega⟩,λh=>by cases h⟩
def aqh{e:aw}(eq:0<e.size){t u ty bM:cD}{d:TypeDesc}(ht:P.underlying t=J (.slice bM))(aX:(dz P e).1 bM)(bq:P.underlying u=J d)(a?:d=.string\/∃q,d=.slice q)
  (hm:cd K w0 phx M B w) {x:aS} {bZ:ab e.a_} {news:ab aS} (hx:oF P w e.size bZ.length x news) (c4:fM (view w M) e bZ news)
  {id:R} {l:ab e.a_} {fm:aE} {vs:aS} (a4:B id=.ob e l) (az:ci phx (view w M) B (.own id fm) vs) (gR:iq e (aQ l+aQ bZ)=af) {k9:R} (g9:B k9=.new) :
  ∃r w',(lG #[t,u] ty #[vs,x]).run P w=.ok r w'/\d? K w0 phx M B w (dx (dx B id .ga) k9<|.ob e<|l++bZ) (.own k9 ag) r w':=by
 simp only[ci,a4]at az;have:=ac3 (ty:=ty) eq ht aX bq a? hm hx c4 a4 (off:=0) (m:=T l) V az.1 gR g9
 rwa [Ei]at this
def ac2{e:aw}(eq:0<e.size){t u ty bM:cD}{d:TypeDesc}(ht:P.underlying t=J (.slice bM))(aX:(dz P e).1 bM)(bq:P.underlying u=J d)(a?:d=.string\/∃q,d=.slice q)
  (hm:cd K w0 phx M B w) {x:aS} {bZ:ab e.a_} {news:ab aS} (hx:oF P w e.size bZ.length x news) (c4:fM (view w M) e bZ news)
  {l:ab e.a_} {ad:au Addr} (dc:ba (view w M) (.sl e) l [.slice ad (T l)<|List.length l]) (gR:iq e (aQ l+aQ bZ)=af) :
  (∃r w',(lG #[t,u] ty #[.slice ad (T l)<|List.length l,x]).run P w=.ok r w'/\d? K w0 phx M B w B (.sc (.sl e)<|l++bZ) r w') /\
  (bZ.length≠0->∀k9,B k9=.new->∃r w',(lG #[t,u] ty #[.slice ad (T l)<|List.length l,x]).run P w=.ok r w'/\d? K w0 phx M B w (dx B k9<|.ob e<|l++bZ) (.own k9 ag) r w'):=by
 obtain⟨i,b0,bT,dE,g6⟩:=oM aX;have EY:=R_ gR dE;have kz:=R' gR;have xq:=c4.1;obtain⟨olds,bg,IH⟩:∃olds,oF P w e.size (T l) (.slice ad (T l)<|List.length l) olds/\fM (view w M) e l olds:=by
  obtain⟨bn,dj,cn,_,_,cR⟩:=ba.jt.1 dc;simp only[D0,Value.slice.injEq,and_true]at cn;rcases cR with cR|⟨b,o,c,el,fz,da,d9,fO⟩
  .subst cR;exact⟨[],abn _ _ _,fM.nil e⟩
  rw[<- cn.1]at da;subst da;exact⟨_,abo (kY.1 d9).2 fO,fY.uc fO⟩
 by_cases bW:bZ.length=0
 .have oU:bZ=[]:=mW.1 bW
  subst oU;have ax:news=[]:=mW.1 (by rw[xq];simp);subst ax;refine⟨?_,λh=>ev bW h⟩;have lR:(lG #[t,u] ty #[.slice ad (T l)<|List.length l,x]).run P w=.ok (.slice ad (T l)<|List.length l) w:=by have e1:=hx.1 w;have bh:=hx.2 w rfl;rw[<- bT]at bh;simp only[gM]at e1 bh;cases ad<;>(rcases a? with rfl|⟨q,rfl⟩<;>simp[lG,d' ht,d' bq,Go.sizeOf,typeInfo,b0,e1,bh,storeCells])
  refine⟨_,_,lR,d?.same hm rfl ?_⟩;rw[g?];exact⟨_,dc,rfl⟩
 have hg:T l<T l+bZ.length:=V;have az:=aaQ (P:=P) (w:=w) (ty:=ty) ht bq a? b0 g6 (x:=x) (n:=bZ.length) (news:=news) aLC (ad:=ad) (sLen:=T l) (sCap:=T l) (olds:=olds) (by rw[bT];exact bg) hg kz EY;have nC:=grownCap_ge w (T l+bZ.length) (T l) bM;have pw:=grownCap_le_maxLen w (T l+bZ.length) (T l) bM kz;have IG:=IH.append c4;generalize BJ:(olds.toArray++news.toArray++k0 (db e<|eB e).cells (ko w (T l+bZ.length) (T l) bM-(T l+bZ.length)))=hP at az;have vY:dg hP 0 (T (l++bZ)*e.size)=olds++news:=by rw[<- BJ,wB,<- IG.1];simp only[Nd,vi];exact T1
 have dA:ko w (T l+bZ.length) (T l) bM*e.size=hP.size:=by rw[<- BJ,yI,size_zeroCells,vb];simp only[yI,qI,tX,IH.1,xq,<- lf];congr 1;omega
 have fb:fY (view w M) e (l++bZ) hP 0:=by
  refine fM.row ?_ ?_
  .rw[<- dA,oD,d7];exact jk _ nC
  rw[vY];exact IG
 refine⟨⟨_,_,az,?_⟩,λ_ k9 g9=>⟨_,_,az,?_⟩⟩
 .obtain⟨b',e1⟩:=hm.ER (w':=w.drew.alloc<|.cells hP bM) rfl rfl rfl aPR (sX w.drew _) (λ_=>fI) (λb h=>h.elim)
  refine⟨_,_,b',e1,[_],ba.jt.2 ⟨J ⟨w.heap.size,0,aq⟩,ko w (T l+bZ.length) (T l) bM,by rw[d7],by rw[d7];exact nC,pw,.inr ⟨w.heap.size,0,hP,bM,(0,0),rfl,?_,(fb.mono e1.vw).1,λi x ao=>(fb.mono e1.vw).2 i x ao⟩⟩,rfl⟩;refine kY.2 ⟨λh=>h.elim (λh => ?_) id,sW w.drew _⟩;have:=hm.mlt _ h;omega
 have:=Gp (K:=K) (w0:=w0) (phx:=phx) (M:=M) (B:=B) (w:=w) hm (id:=k9) g9
  (w':=w.drew.alloc<|.cells hP bM) rfl rfl rfl aNa (sX w.drew _) eq (l:=l++bZ) (sW w.drew _) (z0 _) (tP w M) fb (cap:=ko w (T l+bZ.length) (T l) bM) (by rw[d7];exact nC) pw aPq ag (λh=>by cases h)
 rw[d7]at this;exact this
def aqg{e:aw}(eq:0<e.size){t u ty bM:cD}{d:TypeDesc}(ht:P.underlying t=J (.slice bM))(aX:(dz P e).1 bM)(bq:P.underlying u=J d)(a?:d=.string\/∃q,d=.slice q)
  (hm:cd K w0 phx M B w) {x:aS} {bZ:ab e.a_} {news:ab aS} (hx:oF P w e.size bZ.length x news) (c4:fM (view w M) e bZ news) (gR:iq e (aQ bZ)=af) {k9:R} (g9:B k9=.new) :
  ∃r w',(lG #[t,u] ty #[.slice aq 0 0,x]).run P w=.ok r w'/\d? K w0 phx M B w (dx B k9<|.ob e bZ) (.own k9 ag) r w':=by
 by_cases bW:bZ.length=0
 .have oU:=mW.1 bW
  subst oU;have ax:=mW.1 (by rw[c4.1];simp);obtain⟨i,b0,bT,dE,g6⟩:=oM aX;refine⟨_,_,aaR (P:=P) ht bq a? b0<|by grind,?_⟩;obtain⟨cN,bh⟩:=hm.w8 (id:=k9) g9 (.ob e []) aq (λ_ y bW=>aPk) (λ_ y bW=>aPk)<|λ_=>⟨eq,.inl ⟨nm _ _ _,rfl⟩⟩;exact aLV
 have:=(ac2 (ty:=ty) eq ht aX bq a? hm hx c4 (l:=[]) (ad:=aq) (ba.jt.2 ⟨aq,0,rfl,cx _,V,.inl rfl⟩)<|by simpa[aQ]using gR).2 bW k9 g9
 grind
def aF3{t u ty bM:cD}{i:TypeInfo}{z:aS}(ht:P.underlying t=J (.slice bM))(bq:P.underlying u=J (.int .i64))(ao:P.info? bM=J i)(bN:i.zero=J z){n:O}(aC:0<=n)(ax:0<n.toNat)
  (kz:n.toNat<=maxLen) (iS:n.toNat*i.bytes<=140737488355328) (hs:0<i.size) :
  (lG #[t,u] ty #[.slice aq 0 0,.int .i64 n]).run P w =
   .ok (.slice (J ⟨w.heap.size,0,aq⟩) n.toNat<|grownCap w n.toNat 0 bM)
    (w.drew.alloc<|.cells (k0 z.cells n.toNat++k0 z.cells (ko w n.toNat 0 bM-n.toNat)) bM):=by
 have E':=aoU .i64 n (by show(-9223372036854775808:O)<=n;omega) (by show n<=(9223372036854775807:O);unfold maxLen at kz;omega);have bK:¬n<0:=V;have hb1:¬(281474976710656<n*(i.bytes:O)):=by
  grind
 have fs:¬(n.toNat*i.size=0):=by have:=Nat.mul_pos ax hs;omega
 have ay5:=V;have ay8:=V;have vW:=V;have W9:=V;have ayo:=growslice_fits (need:=n.toNat) (old:=0) V iS;have W8:¬(281474976710656<Builtin.nextslicecap n.toNat 0*i.bytes):=V;have ayW:¬n<=0:=V;have zm:¬(9223372036854775807<n):=aNf
 have ayV:max n 0=n:=V;simp[lG,d' ht,d' bq,Go.sizeOf,typeInfo,zeroValue,ao,bN,E',bK,hb1,fs,vW,ay5,ay8,W9,W8,Question.forced,asInt,asIntOf,Go.newRow,ko,Builtin.firstCells,ayW,zm,ayV,aC]
end
end Yp
namespace Yp
open Go
def qH:=@List.take_length
def wU:=@List.length_replicate
variable {P:d_}
section
variable {K:Kp} {w0 w:bu} {phx:cV} {M:R->Prop} {B B':R->bm} {g:R->aP} {H:cX}
def ac4{e:aw}{x:aP}{ib:aS}{bZ:ab e.a_}(h:(Hy e x).bC g B=J (bZ,B'))(hm:cd K w0 phx M B w)(az:bI phx (view w M) B x ib):
  B'=B/\∃news,oF P w e.size bZ.length ib news/\fM (view w M) e bZ news:=by
 by_cases hs:∃l,x=.sc .str l
 .obtain⟨l,rfl⟩:=hs
  obtain⟨aA,rfl⟩:=eu h;obtain⟨b9,rfl⟩:=kv aA;subst b9;rw[bI.str az];exact⟨rfl,_,aHe l,fM.bytes l⟩
 have hx:Hy e x=nl ag (.sl e) x:=by
  cases x with
  |sc t l=>
   cases t with
   |str=>exact ev ⟨_,rfl⟩ hs
   |_=>rfl
  |_=>rfl
 rw[hx]at h;obtain⟨a4,ad,cap,rfl,ac⟩:=aaX h hm az;refine⟨a4,?_⟩;rcases ac with ac|⟨b,o,c,el,fz,rfl,bT,dE⟩
 .subst ac;exact⟨[],abn _ _ _,fM.nil e⟩
 exact⟨_,abo bT dE,dE.uc⟩
def aBH{e:aw}{x:aP}{ib:aS}{bZ:ab e.a_}(ax:Zb x=af)(h:(Hy e x).bC g B=J (bZ,B'))(az:bI phx (view w M) B x ib):bZ.length≠0:=by
 cases x<;>try(cases ax)
 rename_i id fm;cases fm<;>try(cases ax)
 have hs:ci phx (view w M) B (.own id af) ib:=az;have ce:(uU ag id e).bC g B=J (bZ,B'):=h;simp only[uU,aR.bC]at ce;simp only[ci]at hs;generalize a4:B id=bl at ce hs;cases bl<;>try(cases ce)
 .obtain⟨y,du,Y,ac⟩:=aR.dd ce
  obtain⟨aA,rfl⟩:=eu Y;obtain⟨gy,rfl⟩:=kv aA;cases ac
  grind
 obtain⟨aA,rfl⟩:=eu ce
 grind [kv]
def ang{t:aw}{tid:cD}(h:(dz P t).1 tid)(hs:Pr t=af):∃d,P.underlying tid=J d/\(d=.string\/∃q,d=.slice q):=by
 cases t<;>try(cases hs)
 .exact⟨_,h.1,.inl rfl⟩
 obtain⟨⟨bM,bq,_⟩,_⟩:=h;exact⟨_,bq,.inr ⟨_,rfl⟩⟩
def aqe{e u:aw}{tid uid ty:cD}(ht:(dz P<|.sl e).1 tid)(bq:(dz P u).1 uid)(bD:Pr u=af){s x r:aP}{vs ib:aS}(h:(Ur d e s x).bC g B=J (r,B'))
  (hm:cd K w0 phx M B w) (BS:bI phx (view w M) B s vs) (nG:bI phx (view w M) B x ib) :
  ∃v w',(lG #[tid,uid] ty #[vs,ib]).run P w=.ok v w'/\d? K w0 phx M B w B' r v w':=by
 unfold Ur at h;replace h:=hA h;obtain⟨eq,h⟩:=h;have eq:0<e.size:=aNN
 obtain⟨bZ,du,Y,ac⟩:=aR.dd h;clear h;obtain⟨rfl,news,hx,c4⟩:=ac4 (P:=P) Y hm nG;obtain⟨⟨bM,q6,aX⟩,_⟩:=ht;obtain⟨Em,zA,a?⟩:=ang bq bD;cases s<;>try(cases ac;done)
 case nil =>replace ac:=jS ac;obtain⟨gR,ac⟩:=ac;obtain⟨_,g9,rfl,rfl⟩:=x4 ac;simp only[bI,eR,ci]at BS;subst BS;exact aqg eq q6 aX zA a? hm hx c4 gR g9
 case own id fm=>
  simp only[aR.bC]at ac;generalize a4:du id=bl at ac;cases bl<;>try(cases ac;done)
  rename_i b9 l;obtain⟨ik,cJ,av,ac⟩:=aR.dd ac;obtain⟨aA,rfl⟩:=eu av;obtain⟨gy,rfl⟩:=kv aA;subst gy;replace ac:=jS ac;obtain⟨gR,ac⟩:=ac;simp only[aR.bC]at ac;obtain⟨_,g9,rfl,rfl⟩:=x4 ac;have fs:16*d≠id:=λe=>by rw[e,fH]at g9;cases g9
  rw[eY _ _ fs]at g9;exact aqh eq q6 aX zA a? hm hx c4 a4 BS gR g9
 case osl id off n=>
  simp only[aR.bC]at ac;have hs:ci phx (view w M) du (.osl id off n) vs:=BS;simp only[ci]at hs;generalize a4:du id=bl at ac hs;cases bl<;>try(cases ac;done)
  rename_i b9 l;obtain⟨ik,cJ,av,ac⟩:=aR.dd ac;obtain⟨aA,rfl⟩:=eu av;obtain⟨gy,rfl⟩:=kv aA;subst gy;replace ac:=jS ac;obtain⟨gR,ac⟩:=ac;simp only[aR.bC]at ac;obtain⟨_,g9,rfl,rfl⟩:=x4 ac;have fs:16*d≠id:=λe=>by rw[e,fH]at g9;cases g9
  rw[eY _ _ fs]at g9;exact ac3 eq q6 aX zA a? hm hx c4 a4 hs.1 hs.2.1 gR g9
 case csl b9 l=>
  obtain⟨ik,cJ,av,ac⟩:=aR.dd ac;obtain⟨aA,rfl⟩:=eu av;obtain⟨gy,rfl⟩:=kv aA;subst gy;replace ac:=jS ac;obtain⟨gR,ac⟩:=ac;obtain⟨ad,rfl,dc⟩:=BS;have key:=ac2 (ty:=ty) eq q6 aX zA a? hm hx c4 dc gR;cases ax:Zb x with
  |true =>rw[ax]at ac;obtain⟨_,g9,rfl,rfl⟩:=x4 ac;exact key.2 (aBH ax Y nG) _ g9
  |false =>rw[ax]at ac;cases ac;exact key.1
def aqf{e:aw}(eq:0<e.size){tid uid ty:cD}(ht:(dz P<|.sl e).1 tid)(bq:P.underlying uid=J (.int .i64)){n:O}(aC:0<=n)(gR:iq e n.toNat=af){id:R}(g9:B id=.new)(hm:cd K w0 phx M B w):
  ∃v w',(lG #[tid,uid] ty #[.slice aq 0 0,.int .i64 n]).run P w=.ok v w'/\d? K w0 phx M B w (dx B id<|.ob e<|cb n.toNat e.zero) (.own id ag) v w':=by
 obtain⟨⟨bM,q6,aX⟩,_⟩:=ht;obtain⟨i,b0,bT,dE,g6⟩:=oM aX;by_cases ax:n.toNat=0
 .have bN:n=0:=V
  subst bN;refine⟨.slice aq 0 0,w,by simp[lG,d' q6,d' bq,Go.sizeOf,typeInfo,b0,asInt,asIntOf,IntKind.wrap,IntKind.bits],?_⟩;obtain⟨cN,bh⟩:=hm.w8 (id:=id) g9 (.ob e<|cb (0:O).toNat e.zero) aq (λ_ y bW=>aPk) (λ_ y bW=>aPk)<|λ_=>⟨eq,.inl ⟨nm _ _ _,rfl⟩⟩;exact aLV
 have EY:=R_ gR dE;have kz:=R' gR;have az:=aF3 (P:=P) (w:=w) (ty:=ty) q6 bq b0 g6 aC V kz EY (by rw[bT];exact eq);refine⟨_,_,az,?_⟩;have nC:=grownCap_ge w n.toNat 0 bM;have pw:=grownCap_le_maxLen w n.toNat 0 bM kz;have ahS:∀m,k0 (db e<|eB e).cells m=l2 (eB e).toArray (m*e.size):=λm=>by rw[vb];simp[k0,l2,tX]
 have dA:(k0 (db e<|eB e).cells n.toNat++k0 (db e<|eB e).cells (ko w n.toNat 0 bM-n.toNat)).size=ko w n.toNat 0 bM*e.size:=by rw[yI,size_zeroCells,size_zeroCells,vb];simp only[qI,tX,<- lf];congr 1;omega
 have fb:fY (view w M) e (cb n.toNat e.zero) (k0 (db e<|eB e).cells n.toNat++k0 (db e<|eB e).cells (ko w n.toNat 0 bM-n.toNat)) 0:=by
  have Y:=Tx (view w M) eq<|cx n.toNat;rw[<- ahS]at Y;refine fM.row (by rw[dA,oD];simp only[cb,wU];exact jk _ nC) ?_;have ac:=Y.uc;have hl:T (cb n.toNat e.zero)*e.size=(k0 (db e<|eB e).cells n.toNat).size:=by rw[size_zeroCells,vb];simp[cb,tX]
  have aiy:dg (k0 (db e<|eB e).cells n.toNat++k0 (db e<|eB e).cells (ko w n.toNat 0 bM-n.toNat)) 0 (T (cb n.toNat e.zero)*e.size)=dg (k0 (db e<|eB e).cells n.toNat) 0 (T (cb n.toNat e.zero)*e.size):=by rw[hl];simp only[dg,Nd,vi];have:(k0 (db e<|eB e).cells n.toNat).size=(k0 (db e<|eB e).cells n.toNat).toList.length:=bP;rw[this,T1,qH]
  rw[aiy];exact ac
 have:=Gp (K:=K) (w0:=w0) (phx:=phx) (M:=M) (B:=B) (w:=w) hm (id:=id) g9
  (w':=w.drew.alloc<|.cells (k0 (db e<|eB e).cells n.toNat++k0 (db e<|eB e).cells (ko w n.toNat 0 bM-n.toNat)) bM)
  rfl rfl rfl aNa (sX w.drew _) eq (l:=cb n.toNat e.zero) (sW w.drew _) (z0 _) (tP w M) fb (cap:=ko w n.toNat 0 bM) (by simpa[cb]using nC) pw aPq ag (λh=>by cases h)
 have cP:T (cb n.toNat e.zero)=n.toNat:=aNY
 rw[cP]at this;exact this
def agV{c:cO aS}{el:cD}{fz:R×R}(hf:jc c fz)(o:R)(ak:w.heap[b]?=J (.cells c el fz)):
  ∃w',(markStringish ⟨b,o,aq⟩).run P w=.ok () w'/\∃qY,jc c qY/\MQ w w' b (.cells c el qY):=by
 refine⟨w.freeze ⟨b,c.size,aq⟩ 1,?_,(if fz.1==fz.2 then(c.size,c.size+1) else(min fz.1 c.size,max fz.2<|c.size+1)),?_,?_⟩
 .simp_all[World.shape?,markStringish,Sem.run]
 .grind [jc]
 refine⟨rfl,rfl,rfl,by simp[World.freeze],?_,λj aF => ?_⟩
 .grind [World.freeze]
 grind [World.freeze]
def auV{tI dD:cD}(hs:P.underlying tI=J .string)(ht:(dz P<|.sl<|.int .u8).1 dD){id:R}(hid:B id=.new)(hl:T l<=140737488355328)(hm:cd K w0 phx M B w):
  ∃v w',(convert tI dD<|.string ⟨l.toArray⟩).run P w=.ok v w'/\d? K w0 phx M B w (dx B id<|.ob (.int .u8) (l:ab<|cj .u8)) (.own id ag) v w':=by
 obtain⟨⟨bM,bq,aX⟩,_⟩:=ht;have kz:T l<=maxLen:=ai_
 have nC:=grownCap_ge w (T l) 0 bM;have pw:=grownCap_le_maxLen w (T l) 0 bM kz;have dA:(⟨l.toArray⟩:ByteArray).size=T l:=rfl;generalize BJ:((⟨l.toArray⟩:ByteArray).data.map (λb=>Value.int .u8 (b.toNat:O))++hK (ko w (T l) 0 bM-T l) (.int .u8 0))=hP;have m9:hP.size=ko w (T l) 0 bM:=by rw[<- BJ];simp;omega
 obtain⟨w',Y,qY,ayu,ac⟩:=agV (P:=P) (w:=w.drew.alloc<|.cells hP bM) (b:=w.heap.size) (z0 hP) 0<|sW w.drew _;refine⟨.slice (J ⟨w.heap.size,0,aq⟩) (T l)<|grownCap w (T l) 0 bM,w',?_,?_⟩
 .have ayx:(Question.appendCap (T l) 0 bM).cut (w.tape w.drawn<|Question.appendCap (T l) 0 bM)=ko w (T l) 0 bM:=rfl
  have aIH:(Array.map (λb=>Value.int .u8 (b.toNat:O)) l.toArray++hK (ko w (T l) 0 bM-T l) (.int .u8 0))=hP:=BJ;have q5:=aX.1;unfold convert;simp only[Sem.run_bind,d' hs,d' bq,Result.andThen,d' q5];unfold Conv.stringToBytes;simp only[Sem.run_bind,run_choose_drew,Question.forced,M2,if_false,Result.andThen,dA,ayx,Go.newRow,run_newObj_alloc,Sem.run_pure];rw[BJ];have zj:(markStringish ⟨w.drew.heap.size,0,aq⟩).run P (w.drew.alloc<|.cells hP bM)=.ok () w':=Y;simp only[zj,Result.andThen];rfl
 have fb:fY (view w M) (.int .u8) (l:ab<|cj .u8) hP 0:=by
  refine fM.row ?_ ?_
  .simp only[aw.size,pd];rw[m9]
   show 0+T l<=_;omega
  have:dg hP 0 (T (l:ab<|cj .u8)*(aw.int .u8).size)=l.map λb=>Value.int .u8 b.toNat:=by rw[wB,<- BJ];simp only[aw.size,pd,vi,Nd,Array.toList_map];have hl:T ((⟨l.toArray⟩:ByteArray).data.toList.map λb=>Value.int .u8 (b.toNat:O))=T l:=bP;show List.take (T l) _=_;rw[<- hl];exact T1
  exact Eq.mpr (congrArg (fM (view w M) (aw.int .u8) l) this)<|fM.bytes l
 refine Gp (K:=K) (w0:=w0) (phx:=phx) (M:=M) (B:=B) (w:=w) hm hid ac.os ac.tape ac.output (by rw[ac.size,jz];exact Hs _) (λb ak=>(ac.other b V).trans<|sX w.drew _ b ak) (e:=.int .u8) di (l:=(l:ab<|cj .u8)) ac.jW ?_ (tP w M) fb (cap:=ko w (T l) 0 bM) nC pw ?_ ag (λh=>by cases h)
 .exact ayu
 simp only[aw.size,pd];omega
def auU{t:cD}(ht:(dz P<|.sl<|.int .u8).1 t){id:R}{e:aw}{l:ab e.a_}{cZ:aS}(a4:B id=.ob e l)(hm:cd K w0 phx M B w)(az:ci phx (view w M) B (.own id af) cZ):
  ∃v w',(convert t t cZ).run P w=.ok v w'/\d? K w0 phx M B w B (.own id af) v w':=by
 obtain⟨⟨bM,bq,aX⟩,_⟩:=ht;have et:=hm.blks id;rw[a4]at et;have E6:=az;simp only[ci,a4]at az;obtain⟨xJ,fs⟩:=az;rcases xJ with⟨Y,_⟩|⟨b,o,n,cap,Y,ac,av,aJ,bv⟩
 .exact ev Y (fs trivial)
 subst ac;rcases et.2 with⟨b4,_⟩|⟨eH,dZ,c,el,fz,b4,cz,dw,f6,hj⟩
 .rw[Y]at b4;cases b4
 rw[Y]at b4;cases b4;obtain⟨w',cn,qY,cR,da⟩:=agV (P:=P) f6 (o+0*e.size) cz;refine⟨.slice (J ⟨b,o+0*e.size,aq⟩) (T l) cap,w',?_,?_⟩
 .have q5:=aX.1
  unfold convert;simp only[Sem.run_bind,d' bq,Result.andThen_ok,beq_self_eq_true,d' q5,cn,Sem.run_pure]
 obtain⟨b',e1⟩:=hm.put (id:=id) (x:=(b,o,c.size)) (w':=w') af_ Y hj da.os da.tape da.output da.size da.other (.ob e l) aPs λhx=>
  ⟨et.1,.inr ⟨b,o,c,el,qY,Y,da.jW,dw.mono hx.vw,cR,hj⟩⟩
 have IF:dx B id (.ob e l)=B:=by
  funext j;by_cases aF:j=id
  .subst aF;rw[fH,a4]
  rw[eY _ _ aF]
 rw[IF]at b' e1;exact⟨phx,M,b',e1,E6.mono e1.pl e1.vw e1.bl⟩
def auT{tI dD:cD}(hs:(dz P<|.sl<|.int .u8).1 tI)(a?:P.underlying dD=J .string){a:aP}{cZ:aS}(h:(nl ag (.sl<|.int .u8) a).bC g B=J ((l:ab<|cj .u8),B'))
  (hm:cd K w0 phx M B w) (az:bI phx (view w M) B a cZ):B'=B/\(convert tI dD cZ).run P w=.ok (.string ⟨l.toArray⟩) w:=by
 obtain⟨⟨bM,bq,aX⟩,_⟩:=hs;obtain⟨a4,ad,cap,rfl,ac⟩:=aaX h hm az;refine⟨a4,?_⟩;rw[run_convert_bytes_string w tI dD bM _ _ _ bq aX.1 a?];rcases ac with ac|⟨b,o,c,el,fz,rfl,bT,dE⟩
 .have zl:=ac
  subst zl;cases ad with
  |none=>simp[Conv.bytesToString];rfl
  |some ad =>rfl
 have c4:=dE.uc;have vY:dg c o (T (l:ab<|cj .u8)*(aw.int .u8).size)=(l.map λx=>(x.toNat:O)).map (Value.int .u8):=by
  apply vf;intro i;by_cases ao:i<T l
  .have bv:=c4.2 i l[i] (lg ao)
   simp only[aw.size,pd]at bv ⊢;have c_:=ba.j1.1 bv;have eJ:((dg c o<|List.length (l:ab<|cj .u8)).drop i)[0]?=J (Value.int .u8<|cj.to .u8 l[i]):=by have cH:=congrArg (λq:ab aS=>q[0]?) c_;simp only[TJ]at cH;exact cH
   rw[List.getElem?_drop,MH]at eJ;rw[eJ];simp[ao];rfl
  grind [aw.size,dg]
 have aik:=Gq (P:=P) (w:=w) (b:=b) (o:=o) (n:=T l) bT (by have:=dE.1;simp only[aw.size,pd]at this;exact this);have azx:=by have:=vY;simp only[aw.size,pd]at this;exact this
 rw[azx]at aik;have lR:=run_bytesToString (P:=P) w ⟨b,o,aq⟩ (T l) cap _ aik;have I6:∀(l:ab aN) (s:ByteArray),(l.map λx=>(x.toNat:O)).foldl (λr n=>r.push<|UInt8.ofNat n.toNat) s=⟨s.data++l.toArray⟩:=by
  intro l;induction l with
  |nil=>intro s;simp
  |cons x l ih =>simp_all
 rw[I6]at lR;have:(⟨ByteArray.empty.data++l.toArray⟩:ByteArray)=⟨l.toArray⟩:=bP;rw[this]at lR;exact lR
end
end Yp