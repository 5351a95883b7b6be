/- A part of the proof of the statements of this seat: plain functions, and laws on them. No condition of its own. -/
import Derived.Test.YtbpaehkcjccplaaGreatDoorE2
import Derived.Lib.LaidTab
import Derived.MakeChecks
import Derived.KernelRfl
import Derived.Test.YtbpaehkcjccplaaGreatDoorProg
import Derived.RangeFuncBox
import Derived.RangeFuncLeaves
import Derived.Shelf.Abstract
import Derived.WalkKit
import Derived.OwnWalkIn
import Derived.TacticsInMore
import Derived.LoopNIn
import Derived.LoopIn
import Derived.Maps.AppendAt
set_option linter.unusedVariables false
set_option linter.unusedSimpArgs false
namespace Yp
abbrev BB:=List UInt8
abbrev ta_:=Bool×Unit
abbrev tb_:=BB×Int×Unit
abbrev tc_:=Bool×Int×Unit
abbrev td_:=(Int×List (Int×BB×Unit)×Unit)×Int×Unit
abbrev te_:=BB×Unit
abbrev tf_:=Int×Unit
abbrev tg_:=Int×Int×Unit
abbrev th_:=(List UInt32×Int×BB×Unit)×Unit
abbrev ti_:=(Bool×Int×Int×Int×Int×BB×BB×Int×Unit)×Unit
abbrev tj_:=(Int×List (Int×BB×Unit)×Unit)×Unit
abbrev tk_:=Int×BB×Unit
abbrev tl_:=BB×Int×Int×Unit
abbrev tm_:=Int×List UInt32×Unit
abbrev tn_:=(Int×Int×Unit)×Bool×Unit
abbrev to_:=List (Int×BB×Unit)×Unit
abbrev tp_:=(Bool×Int×Int×Int×Int×BB×BB×Int×Unit)×Int×Unit
abbrev tq_:=(Int×List UInt64×Unit)×Int×Unit
abbrev tr_:=BB×Bool×Unit
abbrev ts_:=UInt32×UInt32×UInt32×UInt32×UInt32×UInt32×UInt32×UInt32×Int×Unit
abbrev tt_:=Int×Int×Int×(Int×List (Int×BB×Unit)×Unit)×Unit
abbrev tu_:=UInt32×Unit
abbrev tv_:=Int×Bool×Unit
abbrev tw_:=Int×BB×Int×Unit
abbrev tx_:=List (Int×BB×Unit)×Int×Unit
abbrev ty_:=List Int×Int×Unit
abbrev tz_:=List UInt32×Unit
abbrev tA_:=BB×Int×Int×Int×BB×Unit
abbrev tB_:=List Int×Unit
abbrev tC_:=Int×Int×BB×Unit
abbrev tD_:=BB×Int×Int×Nat×Unit
abbrev tE_:=Bool×Int×Int×Unit
abbrev tF_:=List BB×Int×(BB×Int×Int×Unit)×Unit
abbrev tG_:=List (Int×List Int×Int×BB×Unit)×Unit
abbrev tH_:=(List (Int×BB×Unit)×Nat×Unit)×Unit
abbrev tI_:=Int×(List UInt32×Int×BB×Unit)×Unit
abbrev tJ_:=List Int×Int×Int×Unit
abbrev tK_:=Int×UInt8×Unit
abbrev tL_:=BB×(List UInt32×Int×BB×Unit)×Unit
abbrev tM_:=Int×Int×Int×Unit
abbrev tN_:=(BB×Int×Int×Unit)×List BB×Unit
abbrev tO_:=Int×(Int×List UInt64×Unit)×Unit
abbrev tP_:=List UInt32×Int×Unit
abbrev tQ_:=(BB×Int×Int×Unit)×BB×Unit
abbrev tR_:=(Int×BB×Unit)×(Int×BB×Unit)×Unit
abbrev tS_:=(List UInt32×Int×BB×Unit)×BB×Unit
abbrev tT_:=BB×BB×Unit
abbrev tU_:=Int×Int×Int×Nat×Unit
abbrev tV_:=List (BB×BB×Unit)×Unit
abbrev tW_:=Int×Int×Nat×BB×Unit
abbrev tX_:=List Int×BB×Int×Unit
abbrev tY_:=Int×Bool×Int×Unit
abbrev tZ_:=BB×List UInt32×Unit
abbrev t0_:=(BB×BB×Unit)×Unit
abbrev t1_:=UInt8×Unit
abbrev t2_:=BB×BB×Int×Unit
abbrev t3_:=UInt8×Bool×Unit
abbrev t4_:=UInt64×Int×Unit
abbrev t5_:=UInt8×Int×Unit
abbrev t6_:=List BB×Unit
abbrev t7_:=UInt64×Unit
end Yp
namespace Yp
open Go
set_option maxRecDepth 100000
theorem qLv {a b:Bool} (h1:a=true) (h2:b=true):(a && b)=true:=by rw [h1,h2];rfl
def qJJ : List (String × DataW Unit) := [("yett/sha.keys", Lib.tabData .u32 ((qfV : List UInt32).map n32))]
theorem qpC:(qfV:List UInt32).length=64:=by kernel_rfl
theorem qzB {P : Program} {W : World} {g t e : Nat} (hg : P.globalNamed "yett/sha.keys" = some g) (hty : (P.globals[g]?).map (·.type) = some t) (ht : P.underlying t = some (.array 64 e)) (he : P.underlying e = some (.int .u32)) (hce : P.cellsOf e = 1) (hct : P.cellsOf t = 64)
  {laid:List (String×DataW Unit)} (hl:laid=qJJ) (h:laidMetH P laid W):yO P (full W):=by
 subst hl
 have h':laidMet P qJJ W:=by
  rw [MakeChecks.laidMetH_plain P qJJ W (by kernel_rfl)] at h
  exact h
 have hT : Lib.TabIs P W "yett/sha.keys" .u32 ((qfV : List UInt32).map n32) := Lib.tabIs_of_head (rest := []) hg hty ht he hce hct h'
 intro g' hg'
 obtain rfl:g=g':=Option.some.inj (hg.symm.trans hg')
 unfold Lib.TabIs World.var? at hT
 rw [hg] at hT
 simp only [Option.bind_some] at hT
 split at hT
 ·rename_i cs el fz hcell
  have hcs:cs=(((qfV:List UInt32).map n32).map fun z=>Value.int .u32 z).toArray:=Option.some.inj hT
  have hlen:cs.size=64:=by rw [hcs];simp [qpC]
  refine RepC.jT.2 ⟨some ⟨g,0,none⟩,1,rfl,Nat.le_refl _,by decide, .inr ⟨g,0,cs,el,fz,rfl,hcell,by show 0+1*64≤cs.size;omega, ?_⟩⟩
  intro i x hi
  have:i=0∧x=(qfV:List (KD .u32)):=by
   match i,hi with
   | 0,hi=>exact ⟨rfl,(Option.some.inj hi).symm⟩
  obtain ⟨rfl,rfl⟩:=this
  have hs:seg cs (0+0*(Ty.ar 64 (.int .u32)).size) (Ty.ar 64 (.int .u32)).size=((qfV:List UInt32).map n32).map fun z=>Value.int .u32 z:=by
   unfold seg
   rw [hcs]
   show (List.drop (0+0*64) _).take 64=_
   simp only [Nat.zero_mul,Nat.add_zero,List.drop_zero]
   exact List.take_of_length_le (by simp [qpC])
  rw [hs]
  refine RepC.qfE.2 ⟨qpC,by simp [qpC,Ty.size], ?_⟩
  intro j y hj
  have hj':(qfV:List UInt32)[j]? = some y:=hj
  refine RepC.zV.2 ?_
  show (List.drop (j*1) _).take 1=_
  rw [Nat.mul_one]
  obtain ⟨hlt,rfl⟩:=List.getElem?_eq_some_iff.1 hj'
  rw [List.drop_eq_getElem_cons (by simpa using hlt)]
  simp [KD.to]
 ·cases hT
end Yp
namespace Yp
open Go
noncomputable def x6 (x:tg_):Option (tb_):=ob (sel (lt x.2.1 1) (some (true,())) (sel (lt 18 x.2.1) (some (true,())) (some (lt x.1 0,())))) fun (a:ta_)=>sel a.1 (some (none' UInt8,1,())) (ck (band (inC 0 x.2.1 x.2.1) (rm 1 (nat x.2.1))) (lc (loop (fun (x:tC_)=>sel (le 0 x.2.1) (ck (inB (imod x.1 10) (len [48,49,50,51,52,53,54,55,56,57,97,98,99,100,101,102])) (ck (inB x.2.1 (len x.2.2.1)) (some (LS.nx (i64 (idiv x.1 10),i64 (isub x.2.1 1),upd x.2.2.1 (nat x.2.1) (nth [48,49,50,51,52,53,54,55,56,57,97,98,99,100,101,102] (nat (imod x.1 10)) (u8 0)),()))))) (some (LS.ex 0 (x.1,x.2.1,x.2.2.1,())))) (x.1,i64 (isub x.2.1 1),rep (nat x.2.1) (u8 0),())) (fun (a:tC_)=>none) (fun (i:Nat) (a:tC_)=>ck (neb i 0) (sel (lt 0 a.1) (some (none' UInt8,1,())) (some (a.2.2.1,0,())))) fun (r:tb_)=>some r))
noncomputable def xL (x:tf_):Option (tv_):=ob (sel (le 48 x.1) (some (i64 (i32 (isub x.1 48)),le x.1 57,())) (some (i64 (i32 (isub x.1 48)),false,()))) fun (a:tv_)=>some (a.1,a.2.1,())
noncomputable def vG (x:te_):Option (tg_):=ob (sel (lt (len x.1) 1) (some (true,())) (some (lt 18 (len x.1),()))) fun (a:ta_)=>sel a.1 (some (0,2,())) (lc (loop (fun (x_1:tU_)=>sel (nlt x_1.2.2.2.1 (ln x.1)) (ob (xL (ofn (decode x.1 x_1.2.2.2.1).1,())) fun (a:tv_)=>sel (bnot a.2.1) (some (LS.rt (0,2,()))) (some (LS.nx (x_1.1,x_1.2.1,i64 (iadd (i64 (imul 10 x_1.2.2.1)) a.1),nadd x_1.2.2.2.1 (decode x.1 x_1.2.2.2.1).2,())))) (some (LS.ex 0 (x_1.1,x_1.2.1,x_1.2.2.1,x_1.2.2.2.1,())))) (0,0,0,0,())) (fun (a:tU_)=>none) (fun (i:Nat) (a:tU_)=>ck (neb i 0) (some (a.2.2.1,0,()))) fun (r:tg_)=>some r)
noncomputable def qcI (x:te_):Option (tb_):=ck (band (inC 0 (i64 (idiv (i64 (iadd (len x.1) 1)) 2)) (i64 (idiv (i64 (iadd (len x.1) 1)) 2))) (rm 1 (nat (i64 (idiv (i64 (iadd (len x.1) 1)) 2))))) (lc (loop (fun (x_1:tW_)=>sel (nlt x_1.2.2.1 (ln x.1)) (ob (xL (ofn (decode x.1 x_1.2.2.1).1,())) fun (a:tv_)=>sel (bnot a.2.1) (some (LS.rt (none' UInt8,2,()))) (ck (inB (i64 (idiv x_1.2.1 2)) (len x_1.2.2.2.1)) (ck (inB (i64 (idiv x_1.2.1 2)) (len x_1.2.2.2.1)) (some (LS.nx (x_1.1,i64 (iadd x_1.2.1 1),nadd x_1.2.2.1 (decode x.1 x_1.2.2.1).2,upd x_1.2.2.2.1 (nat (i64 (idiv x_1.2.1 2))) (u8 (orI IntKind.u8 (n8 (u8 (shlI IntKind.u8 (n8 (nth x_1.2.2.2.1 (nat (i64 (idiv x_1.2.1 2))) (u8 0))) (n64 (u64 4))))) (n8 (u8 a.1)))),())))))) (some (LS.ex 0 (x_1.1,x_1.2.1,x_1.2.2.1,x_1.2.2.2.1,())))) (0,imod (len x.1) 2,0,rep (nat (i64 (idiv (i64 (iadd (len x.1) 1)) 2))) (u8 0),())) (fun (a:tW_)=>none) (fun (i:Nat) (a:tW_)=>ck (neb i 0) (some (a.2.2.2.1,0,()))) fun (r:tb_)=>some r)
noncomputable def z1 (x:tT_):Option (ta_):=some (seq x.1 x.2.1,())
noncomputable def qrF (x:te_):Option (te_):=ck (band (inC 0 0 (i64 (imul 2 (len x.1)))) (rm 1 (nat (i64 (imul 2 (len x.1)))))) (lc (loop (fun (x_1:tb_)=>sel (lt x_1.2.1 (len x.1)) (ck (inB x_1.2.1 (len x.1)) (ck (inB (n8 (u8 (shrI IntKind.u8 (n8 (nth x.1 (nat x_1.2.1) (u8 0))) (n64 (u64 4))))) (len [48,49,50,51,52,53,54,55,56,57,97,98,99,100,101,102])) (ck (inB (n8 (u8 (andI IntKind.u8 (n8 (nth x.1 (nat x_1.2.1) (u8 0))) (n8 (u8 15))))) (len [48,49,50,51,52,53,54,55,56,57,97,98,99,100,101,102])) (ck (rm 1 (nadd (ln x_1.1) (ln [nth [48,49,50,51,52,53,54,55,56,57,97,98,99,100,101,102] (nat (n8 (u8 (shrI IntKind.u8 (n8 (nth x.1 (nat x_1.2.1) (u8 0))) (n64 (u64 4)))))) (u8 0),nth [48,49,50,51,52,53,54,55,56,57,97,98,99,100,101,102] (nat (n8 (u8 (andI IntKind.u8 (n8 (nth x.1 (nat x_1.2.1) (u8 0))) (n8 (u8 15)))))) (u8 0)]))) (some (LS.nx (app x_1.1 [nth [48,49,50,51,52,53,54,55,56,57,97,98,99,100,101,102] (nat (n8 (u8 (shrI IntKind.u8 (n8 (nth x.1 (nat x_1.2.1) (u8 0))) (n64 (u64 4)))))) (u8 0),nth [48,49,50,51,52,53,54,55,56,57,97,98,99,100,101,102] (nat (n8 (u8 (andI IntKind.u8 (n8 (nth x.1 (nat x_1.2.1) (u8 0))) (n8 (u8 15)))))) (u8 0)],i64 (iadd x_1.2.1 1),()))))))) (some (LS.ex 0 (x_1.1,x_1.2.1,())))) (rep (nat 0) (u8 0),0,())) (fun (a:tb_)=>none) (fun (i:Nat) (a:tb_)=>ck (neb i 0) (some (a.1,()))) fun (r:te_)=>some r)
noncomputable def vH (x:tl_):Option (tl_):=ob (sel (lt x.2.2.1 0) (some (true,())) (sel (lt 999 x.2.2.1) (some (true,())) (sel (lt x.2.1 0) (some (true,())) (some (lt (len x.1) x.2.1,()))))) fun (a:ta_)=>sel a.1 (some (none' UInt8,0,1,())) (sel (lt (i64 (isub (len x.1) x.2.1)) (i64 (idiv (i64 (iadd x.2.2.1 1)) 2))) (some (none' UInt8,0,3,())) (ck (inC x.2.1 (i64 (iadd x.2.1 (i64 (idiv (i64 (iadd x.2.2.1 1)) 2)))) (len x.1)) (ob (qrF (sub x.1 x.2.1 (i64 (iadd x.2.1 (i64 (idiv (i64 (iadd x.2.2.1 1)) 2)))),())) fun (a:te_)=>sel (beq (imod x.2.2.1 2) 1) (ck (inB 0 (len a.1)) (sel (bnot (beq (n8 (nth a.1 (nat 0) (u8 0))) (n8 (u8 48)))) (some (none' UInt8,0,2,())) (ck (inC 1 (len a.1) (len a.1)) (lc (loop (fun (x:tD_)=>sel (nlt x.2.2.2.1 (ln (sub a.1 1 (len a.1)))) (ob (xL (ofn (decode (sub a.1 1 (len a.1)) x.2.2.2.1).1,())) fun (a_1:tv_)=>sel (bnot a_1.2.1) (some (LS.rt (none' UInt8,0,2,()))) (some (LS.nx (x.1,x.2.1,x.2.2.1,nadd x.2.2.2.1 (decode (sub a.1 1 (len a.1)) x.2.2.2.1).2,())))) (some (LS.ex 0 (x.1,x.2.1,x.2.2.1,x.2.2.2.1,())))) (none' UInt8,0,0,0,())) (fun (a:tD_)=>none) (fun (i:Nat) (a_1:tD_)=>ck (neb i 0) (some (sub a.1 1 (len a.1),i64 (iadd x.2.1 (i64 (idiv (i64 (iadd x.2.2.1 1)) 2))),0,()))) fun (r:tl_)=>some r)))) (lc (loop (fun (x:tD_)=>sel (nlt x.2.2.2.1 (ln a.1)) (ob (xL (ofn (decode a.1 x.2.2.2.1).1,())) fun (a_1:tv_)=>sel (bnot a_1.2.1) (some (LS.rt (none' UInt8,0,2,()))) (some (LS.nx (x.1,x.2.1,x.2.2.1,nadd x.2.2.2.1 (decode a.1 x.2.2.2.1).2,())))) (some (LS.ex 0 (x.1,x.2.1,x.2.2.1,x.2.2.2.1,())))) (none' UInt8,0,0,0,())) (fun (a:tD_)=>none)
 (fun (i:Nat) (a_1:tD_)=>ck (neb i 0) (some (a.1,i64 (iadd x.2.1 (i64 (idiv (i64 (iadd x.2.2.1 1)) 2))),0,()))) fun (r:tl_)=>some r))))
noncomputable def qe6 (x:tg_):Option (tb_):=ob (sel (lt x.2.1 1) (some (true,())) (sel (lt 8 x.2.1) (some (true,())) (sel (lt x.1 0) (some (true,())) (sel (lt x.2.1 8) (ck (le 0 (i64 (imul 8 x.2.1))) (some (lt 0 (shrI IntKind.i64 x.1 (i64 (imul 8 x.2.1))),()))) (some (false,())))))) fun (a:ta_)=>sel a.1 (some (none' UInt8,1,())) (ck (band (inC 0 x.2.1 x.2.1) (rm 1 (nat x.2.1))) (lc (loop (fun (x_1:tk_)=>sel (lt x_1.1 (len (rep (nat x.2.1) (u8 0)))) (ck (le 0 (i64 (imul 8 x_1.1))) (ck (inB (i64 (isub (i64 (isub x.2.1 1)) x_1.1)) (len x_1.2.1)) (some (LS.nx (i64 (iadd x_1.1 1),upd x_1.2.1 (nat (i64 (isub (i64 (isub x.2.1 1)) x_1.1))) (u8 (shrI IntKind.i64 x.1 (i64 (imul 8 x_1.1)))),()))))) (some (LS.ex 0 (x_1.1,x_1.2.1,())))) (0,rep (nat x.2.1) (u8 0),())) (fun (a:tk_)=>none) (fun (i:Nat) (a:tk_)=>ck (neb i 0) (some (a.2.1,0,()))) fun (r:tb_)=>some r))
noncomputable def qpE (x:t1_):Option (t3_):=ob (sel (le (n8 (u8 48)) (n8 x.1)) (some (le (n8 x.1) (n8 (u8 57)),())) (some (false,()))) fun (a:ta_)=>sel a.1 (some (u8 (isub (n8 x.1) (n8 (u8 48))),true,())) (ob (sel (le (n8 (u8 97)) (n8 x.1)) (some (le (n8 x.1) (n8 (u8 102)),())) (some (false,()))) fun (a:ta_)=>sel a.1 (some (u8 (iadd (n8 (u8 (isub (n8 x.1) (n8 (u8 97))))) (n8 (u8 10))),true,())) (some (u8 0,false,())))
noncomputable def qhC (x:te_):Option (tb_):=sel (beq (imod (len x.1) 2) 1) (some (none' UInt8,2,())) (ck (band (inC 0 0 (i64 (idiv (len x.1) 2))) (rm 1 (nat (i64 (idiv (len x.1) 2))))) (lc (loop (fun (x_1:tw_)=>sel (lt x_1.2.2.1 (len x.1)) (ck (inB x_1.2.2.1 (len x.1)) (ob (qpE (nth x.1 (nat x_1.2.2.1) (u8 0),())) fun (a:t3_)=>ck (inB (i64 (iadd x_1.2.2.1 1)) (len x.1)) (ob (qpE (nth x.1 (nat (i64 (iadd x_1.2.2.1 1))) (u8 0),())) fun (a_1:t3_)=>ob (sel (bnot a.2.1) (some (true,())) (some (bnot a_1.2.1,()))) fun (a_2:ta_)=>sel a_2.1 (some (LS.rt (none' UInt8,2,()))) (ck (rm 1 (nadd (ln x_1.2.1) (ln [u8 (orI IntKind.u8 (n8 (u8 (shlI IntKind.u8 (n8 a.1) (n64 (u64 4))))) (n8 a_1.1))]))) (some (LS.nx (x_1.1,app x_1.2.1 [u8 (orI IntKind.u8 (n8 (u8 (shlI IntKind.u8 (n8 a.1) (n64 (u64 4))))) (n8 a_1.1))],i64 (iadd x_1.2.2.1 2),()))))))) (some (LS.ex 0 (x_1.1,x_1.2.1,x_1.2.2.1,())))) (0,rep (nat 0) (u8 0),0,())) (fun (a:tw_)=>none) (fun (i:Nat) (a:tw_)=>ck (neb i 0) (some (a.2.1,0,()))) fun (r:tb_)=>some r))
noncomputable def xS (x:tg_):Option (tf_):=lc (loop (fun (x_1:tg_)=>sel (lt x_1.2.1 x.2.1) (some (LS.nx (i64 (imul x_1.1 x.1),i64 (iadd x_1.2.1 1),()))) (some (LS.ex 0 (x_1.1,x_1.2.1,())))) (1,0,())) (fun (a:tg_)=>none) (fun (i:Nat) (a:tg_)=>ck (neb i 0) (some (a.1,()))) fun (r:tf_)=>some r
noncomputable def j5 (x:tg_):Option (tb_):=ob (sel (lt x.2.1 1) (some (true,())) (sel (lt 18 x.2.1) (some (true,())) (sel (lt x.1 0) (some (true,())) (ob (xS (10,x.2.1,())) fun (a:tf_)=>some (le a.1 x.1,()))))) fun (a:ta_)=>sel a.1 (some (none' UInt8,1,())) (lc (loop (fun (x_1:tb_)=>sel (le 0 x_1.2.1) (ob (xS (10,x_1.2.1,())) fun (a:tf_)=>ck (bnot (beq a.1 0)) (ck (rm 1 (nadd (ln x_1.1) (ln [u8 (i64 (iadd 48 (imod (i64 (idiv x.1 a.1)) 10)))]))) (some (LS.nx (app x_1.1 [u8 (i64 (iadd 48 (imod (i64 (idiv x.1 a.1)) 10)))],i64 (isub x_1.2.1 1),()))))) (some (LS.ex 0 (x_1.1,x_1.2.1,())))) (none' UInt8,i64 (isub x.2.1 1),())) (fun (a:tb_)=>none) (fun (i:Nat) (a:tb_)=>ck (neb i 0) (some (a.1,0,()))) fun (r:tb_)=>some r)
noncomputable def kR (x:te_):Option (ta_):=lc (loop (fun (x_1:tc_)=>sel (lt x_1.2.1 (len x.1)) (ck (inB x_1.2.1 (len x.1)) (ob (sel (lt (n8 (nth x.1 (nat x_1.2.1) (u8 0))) (n8 (u8 48))) (some (true,())) (ck (inB x_1.2.1 (len x.1)) (some (lt (n8 (u8 57)) (n8 (nth x.1 (nat x_1.2.1) (u8 0))),())))) fun (a:ta_)=>sel a.1 (some (LS.rt (false,()))) (some (LS.nx (x_1.1,i64 (iadd x_1.2.1 1),()))))) (some (LS.ex 0 (x_1.1,x_1.2.1,())))) (false,0,())) (fun (a:tc_)=>none) (fun (i:Nat) (a:tc_)=>ck (neb i 0) (some (true,()))) fun (r:ta_)=>some r
noncomputable def v7 (x:te_):Option (tg_):=ob (sel (lt (len x.1) 1) (some (true,())) (sel (lt 18 (len x.1)) (some (true,())) (ob (kR (x.1,())) fun (a:ta_)=>some (bnot a.1,())))) fun (a:ta_)=>sel a.1 (some (0,2,())) (lc (loop (fun (x_1:tg_)=>sel (lt x_1.2.1 (len x.1)) (ck (inB x_1.2.1 (len x.1)) (ob (xS (10,i64 (isub (i64 (isub (len x.1) 1)) x_1.2.1),())) fun (a:tf_)=>some (LS.nx (i64 (iadd x_1.1 (i64 (imul (i64 (isub (i64 (n8 (nth x.1 (nat x_1.2.1) (u8 0)))) 48)) a.1))),i64 (iadd x_1.2.1 1),())))) (some (LS.ex 0 (x_1.1,x_1.2.1,())))) (0,0,())) (fun (a:tg_)=>none) (fun (i:Nat) (a:tg_)=>ck (neb i 0) (some (a.1,0,()))) fun (r:tg_)=>some r)
noncomputable def vT (x:te_):Option (tb_):=ob (kR (x.1,())) fun (a:ta_)=>sel (bnot a.1) (some (none' UInt8,2,())) (ob (sel (beq (imod (len x.1) 2) 1) (ck (le (iadd (len [48]) (len x.1)) 140737488355328) (some (app [48] x.1,()))) (some (x.1,()))) fun (a:te_)=>lc (loop (fun (x:tb_)=>sel (lt x.2.1 (len a.1)) (ck (inB x.2.1 (len a.1)) (ck (inB (i64 (iadd x.2.1 1)) (len a.1)) (ck (rm 1 (nadd (ln x.1) (ln [u8 (isub (n8 (u8 (iadd (n8 (u8 (imul (n8 (u8 16)) (n8 (u8 (isub (n8 (nth a.1 (nat x.2.1) (u8 0))) (n8 (u8 48)))))))) (n8 (nth a.1 (nat (i64 (iadd x.2.1 1))) (u8 0)))))) (n8 (u8 48)))]))) (some (LS.nx (app x.1 [u8 (isub (n8 (u8 (iadd (n8 (u8 (imul (n8 (u8 16)) (n8 (u8 (isub (n8 (nth a.1 (nat x.2.1) (u8 0))) (n8 (u8 48)))))))) (n8 (nth a.1 (nat (i64 (iadd x.2.1 1))) (u8 0)))))) (n8 (u8 48)))],i64 (iadd x.2.1 2),())))))) (some (LS.ex 0 (x.1,x.2.1,())))) (none' UInt8,0,())) (fun (a:tb_)=>none) (fun (i:Nat) (a:tb_)=>ck (neb i 0) (some (a.1,0,()))) fun (r:tb_)=>some r)
noncomputable def j3 (x:tl_):Option (tl_):=ob (sel (lt x.2.2.1 0) (some (true,())) (sel (lt 999 x.2.2.1) (some (true,())) (sel (lt x.2.1 0) (some (true,())) (some (lt (len x.1) x.2.1,()))))) fun (a:ta_)=>sel a.1 (some (none' UInt8,0,1,())) (sel (lt (i64 (isub (len x.1) x.2.1)) (i64 (idiv (i64 (iadd x.2.2.1 1)) 2))) (some (none' UInt8,0,3,())) (lc (loop (fun (x_1:tb_)=>sel (lt x_1.2.1 (i64 (iadd x.2.1 (i64 (idiv (i64 (iadd x.2.2.1 1)) 2))))) (ck (inB x_1.2.1 (len x.1)) (ck (inB x_1.2.1 (len x.1)) (ck (rm 1 (nadd (ln x_1.1) (ln [u8 (idiv (n8 (nth x.1 (nat x_1.2.1) (u8 0))) (n8 (u8 16))),u8 (imod (n8 (nth x.1 (nat x_1.2.1) (u8 0))) (n8 (u8 16)))]))) (some (LS.nx (app x_1.1 [u8 (idiv (n8 (nth x.1 (nat x_1.2.1) (u8 0))) (n8 (u8 16))),u8 (imod (n8 (nth x.1 (nat x_1.2.1) (u8 0))) (n8 (u8 16)))],i64 (iadd x_1.2.1 1),())))))) (some (LS.ex 0 (x_1.1,x_1.2.1,())))) (none' UInt8,x.2.1,())) (fun (a:tb_)=>none) (fun (i:Nat) (a:tb_)=>ck (neb i 0) (sel (beq (imod x.2.2.1 2) 1) (ck (inB 0 (len a.1)) (sel (bnot (beq (n8 (nth a.1 (nat 0) (u8 0))) (n8 (u8 0)))) (some (none' UInt8,0,2,())) (ck (inC 1 (len a.1) (len a.1)) (lc (loop (fun (x:tA_)=>sel (lt x.2.2.2.1 (ofn (nsub (nat (len a.1)) (nat 1)))) (ck (inB x.2.2.2.1 (ofn (nsub (nat (len a.1)) (nat 1)))) (sel (lt (n8 (u8 9)) (n8 (nth x.2.2.2.2.1 (nadd (nat 1) (nat x.2.2.2.1)) (u8 0)))) (some (LS.rt (none' UInt8,0,2,()))) (ck (inB x.2.2.2.1 (ofn (nsub (nat (len a.1)) (nat 1)))) (ck (inB x.2.2.2.1 (ofn (nsub (nat (len a.1)) (nat 1)))) (some (LS.nx (x.1,x.2.1,x.2.2.1,i64 (iadd x.2.2.2.1 1),upd x.2.2.2.2.1 (nadd (nat 1) (nat x.2.2.2.1)) (u8 (iadd (n8 (nth x.2.2.2.2.1 (nadd (nat 1) (nat x.2.2.2.1)) (u8 0))) (n8 (u8 48)))),()))))))) (some (LS.ex 2 (x.1,x.2.1,x.2.2.1,x.2.2.2.1,x.2.2.2.2.1,())))) (none' UInt8,
 0,0,0,a.1,())) (fun (a:tA_)=>none) (fun (i:Nat) (a_1:tA_)=>ck (neb i 2) (some (cut a_1.2.2.2.2.1 (nat 1) (nsub (nat (len a.1)) (nat 1)),i64 (iadd x.2.1 (i64 (idiv (i64 (iadd x.2.2.1 1)) 2))),0,()))) fun (r:tl_)=>some r)))) (lc (loop (fun (x:tA_)=>sel (lt x.2.2.2.1 (len x.2.2.2.2.1)) (ck (inB x.2.2.2.1 (len x.2.2.2.2.1)) (sel (lt (n8 (u8 9)) (n8 (nth x.2.2.2.2.1 (nat x.2.2.2.1) (u8 0)))) (some (LS.rt (none' UInt8,0,2,()))) (ck (inB x.2.2.2.1 (len x.2.2.2.2.1)) (ck (inB x.2.2.2.1 (len x.2.2.2.2.1)) (some (LS.nx (x.1,x.2.1,x.2.2.1,i64 (iadd x.2.2.2.1 1),upd x.2.2.2.2.1 (nat x.2.2.2.1) (u8 (iadd (n8 (nth x.2.2.2.2.1 (nat x.2.2.2.1) (u8 0))) (n8 (u8 48)))),()))))))) (some (LS.ex 2 (x.1,x.2.1,x.2.2.1,x.2.2.2.1,x.2.2.2.2.1,())))) (none' UInt8,0,0,0,a.1,())) (fun (a:tA_)=>none) (fun (i:Nat) (a:tA_)=>ck (neb i 2) (some (a.2.2.2.2.1,i64 (iadd x.2.1 (i64 (idiv (i64 (iadd x.2.2.1 1)) 2))),0,()))) fun (r:tl_)=>some r))) fun (r:tl_)=>some r))
noncomputable def qaA (x:tl_):Option (tM_):=ob (sel (lt x.2.2.1 1) (some (true,())) (sel (lt 8 x.2.2.1) (some (true,())) (sel (lt x.2.1 0) (some (true,())) (some (lt (len x.1) x.2.1,()))))) fun (a:ta_)=>sel a.1 (some (0,0,1,())) (sel (lt (i64 (isub (len x.1) x.2.1)) x.2.2.1) (some (0,0,3,())) (ob (sel (beq x.2.2.1 8) (ck (inB x.2.1 (len x.1)) (some (le (n8 (u8 128)) (n8 (nth x.1 (nat x.2.1) (u8 0))),()))) (some (false,()))) fun (a:ta_)=>sel a.1 (some (0,0,2,())) (lc (loop (fun (x_1:tg_)=>sel (lt x_1.2.1 x.2.2.1) (ck (inB (i64 (iadd x.2.1 x_1.2.1)) (len x.1)) (some (LS.nx (i64 (iadd (i64 (imul 256 x_1.1)) (i64 (n8 (nth x.1 (nat (i64 (iadd x.2.1 x_1.2.1))) (u8 0))))),i64 (iadd x_1.2.1 1),())))) (some (LS.ex 0 (x_1.1,x_1.2.1,())))) (0,0,())) (fun (a:tg_)=>none) (fun (i:Nat) (a:tg_)=>ck (neb i 0) (some (a.1,i64 (iadd x.2.1 x.2.2.1),0,()))) fun (r:tM_)=>some r)))
noncomputable def kS (x:tg_):Option (tb_):=ob (sel (lt x.2.1 1) (some (true,())) (sel (lt 8 x.2.1) (some (true,())) (some (lt x.1 0,())))) fun (a:ta_)=>sel a.1 (some (none' UInt8,1,())) (ob (sel (lt x.2.1 8) (ob (xS (256,x.2.1,())) fun (a:tf_)=>some (le a.1 x.1,())) (some (false,()))) fun (a:ta_)=>sel a.1 (some (none' UInt8,1,())) (ck (band (inC 0 x.2.1 x.2.1) (rm 1 (nat x.2.1))) (lc (loop (fun (x:tC_)=>sel (le 0 x.2.1) (ck (inB x.2.1 (len x.2.2.1)) (some (LS.nx (i64 (idiv x.1 256),i64 (isub x.2.1 1),upd x.2.2.1 (nat x.2.1) (u8 (imod x.1 256)),())))) (some (LS.ex 0 (x.1,x.2.1,x.2.2.1,())))) (x.1,i64 (isub x.2.1 1),rep (nat x.2.1) (u8 0),())) (fun (a:tC_)=>none) (fun (i:Nat) (a:tC_)=>ck (neb i 0) (some (a.2.2.1,0,()))) fun (r:tb_)=>some r)))
noncomputable def qeO (x:t1_):Option (tf_):=ob (sel (le (n8 (u8 48)) (n8 x.1)) (some (le (n8 x.1) (n8 (u8 57)),())) (some (false,()))) fun (a:ta_)=>sel a.1 (some (i64 (isub (i64 (n8 x.1)) 48),())) (ob (sel (le (n8 (u8 97)) (n8 x.1)) (some (le (n8 x.1) (n8 (u8 102)),())) (some (false,()))) fun (a:ta_)=>sel a.1 (some (i64 (isub (i64 (n8 x.1)) 87),())) (some (16,())))
noncomputable def qaY (x:te_):Option (tb_):=sel (beq (imod (len x.1) 2) 1) (some (none' UInt8,2,())) (lc (loop (fun (x_1:tw_)=>sel (lt x_1.2.2.1 (len x.1)) (ck (inB x_1.2.2.1 (len x.1)) (ob (qeO (nth x.1 (nat x_1.2.2.1) (u8 0),())) fun (a:tf_)=>ck (inB (i64 (iadd x_1.2.2.1 1)) (len x.1)) (ob (qeO (nth x.1 (nat (i64 (iadd x_1.2.2.1 1))) (u8 0),())) fun (a_1:tf_)=>ob (sel (lt 15 a.1) (some (true,())) (some (lt 15 a_1.1,()))) fun (a_2:ta_)=>sel a_2.1 (some (LS.rt (none' UInt8,2,()))) (ck (rm 1 (nadd (ln x_1.2.1) (ln [u8 (i64 (iadd (i64 (imul 16 a.1)) a_1.1))]))) (some (LS.nx (x_1.1,app x_1.2.1 [u8 (i64 (iadd (i64 (imul 16 a.1)) a_1.1))],i64 (iadd x_1.2.2.1 2),()))))))) (some (LS.ex 0 (x_1.1,x_1.2.1,x_1.2.2.1,())))) (0,none' UInt8,0,())) (fun (a:tw_)=>none) (fun (i:Nat) (a:tw_)=>ck (neb i 0) (some (a.2.1,0,()))) fun (r:tb_)=>some r)
noncomputable def qc5 (x:t1_):Option (t1_):=sel (lt (n8 x.1) (n8 (u8 10))) (some (u8 (iadd (n8 (u8 48)) (n8 x.1)),())) (some (u8 (iadd (n8 (u8 87)) (n8 x.1)),()))
noncomputable def qgJ (x:te_):Option (te_):=lc (loop (fun (x_1:tb_)=>sel (lt x_1.2.1 (len x.1)) (ck (inB x_1.2.1 (len x.1)) (ob (qc5 (u8 (idiv (n8 (nth x.1 (nat x_1.2.1) (u8 0))) (n8 (u8 16))),())) fun (a:t1_)=>ck (inB x_1.2.1 (len x.1)) (ob (qc5 (u8 (imod (n8 (nth x.1 (nat x_1.2.1) (u8 0))) (n8 (u8 16))),())) fun (a_1:t1_)=>ck (rm 1 (nadd (ln x_1.1) (ln [a.1,a_1.1]))) (some (LS.nx (app x_1.1 [a.1,a_1.1],i64 (iadd x_1.2.1 1),())))))) (some (LS.ex 0 (x_1.1,x_1.2.1,())))) (none' UInt8,0,())) (fun (a:tb_)=>none) (fun (i:Nat) (a:tb_)=>ck (neb i 0) (some (a.1,()))) fun (r:te_)=>some r
noncomputable def yC (x:tf_):Option (tf_):=sel (beq x.1 25) (some (2,())) (sel (beq x.1 22) (sel (beq x.1 22) (some (3,())) (sel (beq x.1 13) (sel (beq x.1 13) (some (4,())) (sel (beq x.1 3) (sel (beq x.1 3) (some (6,())) (sel (beq x.1 7) (some (10,())) (sel (beq x.1 4) (some (12,())) (sel (beq x.1 53) (some (16,())) (sel (beq x.1 90) (some (42,())) (some (0,()))))))) (sel (beq x.1 11) (sel (beq x.1 11) (some (6,())) (sel (beq x.1 7) (some (10,())) (sel (beq x.1 4) (some (12,())) (sel (beq x.1 53) (some (16,())) (sel (beq x.1 90) (some (42,())) (some (0,()))))))) (sel (beq x.1 12) (sel (beq x.1 12) (some (6,())) (sel (beq x.1 7) (some (10,())) (sel (beq x.1 4) (some (12,())) (sel (beq x.1 53) (some (16,())) (sel (beq x.1 90) (some (42,())) (some (0,()))))))) (sel (beq x.1 15) (some (6,())) (sel (beq x.1 7) (some (10,())) (sel (beq x.1 4) (some (12,())) (sel (beq x.1 53) (some (16,())) (sel (beq x.1 90) (some (42,())) (some (0,()))))))))))) (sel (beq x.1 14) (sel (beq x.1 14) (some (4,())) (sel (beq x.1 3) (sel (beq x.1 3) (some (6,())) (sel (beq x.1 7) (some (10,())) (sel (beq x.1 4) (some (12,())) (sel (beq x.1 53) (some (16,())) (sel (beq x.1 90) (some (42,())) (some (0,()))))))) (sel (beq x.1 11) (sel (beq x.1 11) (some (6,())) (sel (beq x.1 7) (some (10,())) (sel (beq x.1 4) (some (12,())) (sel (beq x.1 53) (some (16,())) (sel (beq x.1 90) (some (42,())) (some (0,()))))))) (sel (beq x.1 12) (sel (beq x.1 12) (some (6,())) (sel (beq x.1 7) (some (10,())) (sel (beq x.1 4) (some (12,())) (sel (beq x.1 53) (some (16,())) (sel (beq x.1 90) (some (42,())) (some (0,()))))))) (sel (beq x.1 15) (some (6,())) (sel (beq x.1 7) (some (10,())) (sel (beq x.1 4) (some (12,())) (sel (beq x.1 53) (some (16,())) (sel (beq x.1 90) (some (42,())) (some (0,()))))))))))) (sel (beq x.1 18) (some (4,())) (sel (beq x.1 3) (sel (beq x.1 3) (some (6,())) (sel (beq x.1 7) (some (10,())) (sel (beq x.1 4)
 (some (12,())) (sel (beq x.1 53) (some (16,())) (sel (beq x.1 90) (some (42,())) (some (0,()))))))) (sel (beq x.1 11) (sel (beq x.1 11) (some (6,())) (sel (beq x.1 7) (some (10,())) (sel (beq x.1 4) (some (12,())) (sel (beq x.1 53) (some (16,())) (sel (beq x.1 90) (some (42,())) (some (0,()))))))) (sel (beq x.1 12) (sel (beq x.1 12) (some (6,())) (sel (beq x.1 7) (some (10,())) (sel (beq x.1 4) (some (12,())) (sel (beq x.1 53) (some (16,())) (sel (beq x.1 90) (some (42,())) (some (0,()))))))) (sel (beq x.1 15) (some (6,())) (sel (beq x.1 7) (some (10,())) (sel (beq x.1 4) (some (12,())) (sel (beq x.1 53) (some (16,())) (sel (beq x.1 90) (some (42,())) (some (0,())))))))))))))) (sel (beq x.1 49) (sel (beq x.1 49) (some (3,())) (sel (beq x.1 13) (sel (beq x.1 13) (some (4,())) (sel (beq x.1 3) (sel (beq x.1 3) (some (6,())) (sel (beq x.1 7) (some (10,())) (sel (beq x.1 4) (some (12,())) (sel (beq x.1 53) (some (16,())) (sel (beq x.1 90) (some (42,())) (some (0,()))))))) (sel (beq x.1 11) (sel (beq x.1 11) (some (6,())) (sel (beq x.1 7) (some (10,())) (sel (beq x.1 4) (some (12,())) (sel (beq x.1 53) (some (16,())) (sel (beq x.1 90) (some (42,())) (some (0,()))))))) (sel (beq x.1 12) (sel (beq x.1 12) (some (6,())) (sel (beq x.1 7) (some (10,())) (sel (beq x.1 4) (some (12,())) (sel (beq x.1 53) (some (16,())) (sel (beq x.1 90) (some (42,())) (some (0,()))))))) (sel (beq x.1 15) (some (6,())) (sel (beq x.1 7) (some (10,())) (sel (beq x.1 4) (some (12,())) (sel (beq x.1 53) (some (16,())) (sel (beq x.1 90) (some (42,())) (some (0,()))))))))))) (sel (beq x.1 14) (sel (beq x.1 14) (some (4,())) (sel (beq x.1 3) (sel (beq x.1 3) (some (6,())) (sel (beq x.1 7) (some (10,())) (sel (beq x.1 4) (some (12,())) (sel (beq x.1 53) (some (16,())) (sel (beq x.1 90) (some (42,())) (some (0,()))))))) (sel (beq x.1 11) (sel (beq x.1 11) (some (6,())) (sel (beq x.1 7) (some (10,())) (sel (beq x.1 4) (some (12,())) (sel (beq x.1
 53) (some (16,())) (sel (beq x.1 90) (some (42,())) (some (0,()))))))) (sel (beq x.1 12) (sel (beq x.1 12) (some (6,())) (sel (beq x.1 7) (some (10,())) (sel (beq x.1 4) (some (12,())) (sel (beq x.1 53) (some (16,())) (sel (beq x.1 90) (some (42,())) (some (0,()))))))) (sel (beq x.1 15) (some (6,())) (sel (beq x.1 7) (some (10,())) (sel (beq x.1 4) (some (12,())) (sel (beq x.1 53) (some (16,())) (sel (beq x.1 90) (some (42,())) (some (0,()))))))))))) (sel (beq x.1 18) (some (4,())) (sel (beq x.1 3) (sel (beq x.1 3) (some (6,())) (sel (beq x.1 7) (some (10,())) (sel (beq x.1 4) (some (12,())) (sel (beq x.1 53) (some (16,())) (sel (beq x.1 90) (some (42,())) (some (0,()))))))) (sel (beq x.1 11) (sel (beq x.1 11) (some (6,())) (sel (beq x.1 7) (some (10,())) (sel (beq x.1 4) (some (12,())) (sel (beq x.1 53) (some (16,())) (sel (beq x.1 90) (some (42,())) (some (0,()))))))) (sel (beq x.1 12) (sel (beq x.1 12) (some (6,())) (sel (beq x.1 7) (some (10,())) (sel (beq x.1 4) (some (12,())) (sel (beq x.1 53) (some (16,())) (sel (beq x.1 90) (some (42,())) (some (0,()))))))) (sel (beq x.1 15) (some (6,())) (sel (beq x.1 7) (some (10,())) (sel (beq x.1 4) (some (12,())) (sel (beq x.1 53) (some (16,())) (sel (beq x.1 90) (some (42,())) (some (0,())))))))))))))) (sel (beq x.1 70) (some (3,())) (sel (beq x.1 13) (sel (beq x.1 13) (some (4,())) (sel (beq x.1 3) (sel (beq x.1 3) (some (6,())) (sel (beq x.1 7) (some (10,())) (sel (beq x.1 4) (some (12,())) (sel (beq x.1 53) (some (16,())) (sel (beq x.1 90) (some (42,())) (some (0,()))))))) (sel (beq x.1 11) (sel (beq x.1 11) (some (6,())) (sel (beq x.1 7) (some (10,())) (sel (beq x.1 4) (some (12,())) (sel (beq x.1 53) (some (16,())) (sel (beq x.1 90) (some (42,())) (some (0,()))))))) (sel (beq x.1 12) (sel (beq x.1 12) (some (6,())) (sel (beq x.1 7) (some (10,())) (sel (beq x.1 4) (some (12,())) (sel (beq x.1 53) (some (16,())) (sel (beq x.1 90) (some (42,())) (some (0,
 ()))))))) (sel (beq x.1 15) (some (6,())) (sel (beq x.1 7) (some (10,())) (sel (beq x.1 4) (some (12,())) (sel (beq x.1 53) (some (16,())) (sel (beq x.1 90) (some (42,())) (some (0,()))))))))))) (sel (beq x.1 14) (sel (beq x.1 14) (some (4,())) (sel (beq x.1 3) (sel (beq x.1 3) (some (6,())) (sel (beq x.1 7) (some (10,())) (sel (beq x.1 4) (some (12,())) (sel (beq x.1 53) (some (16,())) (sel (beq x.1 90) (some (42,())) (some (0,()))))))) (sel (beq x.1 11) (sel (beq x.1 11) (some (6,())) (sel (beq x.1 7) (some (10,())) (sel (beq x.1 4) (some (12,())) (sel (beq x.1 53) (some (16,())) (sel (beq x.1 90) (some (42,())) (some (0,()))))))) (sel (beq x.1 12) (sel (beq x.1 12) (some (6,())) (sel (beq x.1 7) (some (10,())) (sel (beq x.1 4) (some (12,())) (sel (beq x.1 53) (some (16,())) (sel (beq x.1 90) (some (42,())) (some (0,()))))))) (sel (beq x.1 15) (some (6,())) (sel (beq x.1 7) (some (10,())) (sel (beq x.1 4) (some (12,())) (sel (beq x.1 53) (some (16,())) (sel (beq x.1 90) (some (42,())) (some (0,()))))))))))) (sel (beq x.1 18) (some (4,())) (sel (beq x.1 3) (sel (beq x.1 3) (some (6,())) (sel (beq x.1 7) (some (10,())) (sel (beq x.1 4) (some (12,())) (sel (beq x.1 53) (some (16,())) (sel (beq x.1 90) (some (42,())) (some (0,()))))))) (sel (beq x.1 11) (sel (beq x.1 11) (some (6,())) (sel (beq x.1 7) (some (10,())) (sel (beq x.1 4) (some (12,())) (sel (beq x.1 53) (some (16,())) (sel (beq x.1 90) (some (42,())) (some (0,()))))))) (sel (beq x.1 12) (sel (beq x.1 12) (some (6,())) (sel (beq x.1 7) (some (10,())) (sel (beq x.1 4) (some (12,())) (sel (beq x.1 53) (some (16,())) (sel (beq x.1 90) (some (42,())) (some (0,()))))))) (sel (beq x.1 15) (some (6,())) (sel (beq x.1 7) (some (10,())) (sel (beq x.1 4) (some (12,())) (sel (beq x.1 53) (some (16,())) (sel (beq x.1 90) (some (42,())) (some (0,()))))))))))))))))
noncomputable def yY (x:tg_):Option (tf_):=sel (beq x.1 1) (ob (yC (x.2.1,())) fun (a:tf_)=>some (a.1,())) (sel (beq x.1 2) (some (sel (beq x.2.1 2) 19 (sel (beq x.2.1 32) 11 (sel (beq x.2.1 100) 11 0)),())) (sel (beq x.1 3) (some (sel (beq x.2.1 37) 12 (sel (beq x.2.1 38) 6 (sel (beq x.2.1 39) 2 (sel (beq x.2.1 41) 8 (sel (beq x.2.1 42) 15 (sel (beq x.2.1 95) 42 0))))),())) (sel (beq x.1 4) (some (sel (beq x.2.1 35) 37 (sel (beq x.2.1 102) 28 0),())) (sel (beq x.1 5) (some (sel (beq x.2.1 48) 400 (sel (beq x.2.1 54) 120 0),())) (sel (beq x.1 6) (some (sel (beq x.2.1 52) 8 (sel (beq x.2.1 64) 8 (sel (beq x.2.1 96) 8 (sel (beq x.2.1 128) 8 0))),())) (sel (beq x.1 7) (some (sel (beq x.2.1 55) 255 (sel (beq x.2.1 127) 400 0),())) (some (0,()))))))))
noncomputable def qaE (x:tf_):Option (tn_):=lc (loop (fun (x_1:tc_)=>sel (le x_1.2.1 7) (ob (yY (x_1.2.1,x.1,())) fun (a:tf_)=>sel (lt 0 a.1) (some (LS.rt ((x_1.2.1,a.1,()),true,()))) (some (LS.nx (x_1.1,i64 (iadd x_1.2.1 1),())))) (some (LS.ex 0 (x_1.1,x_1.2.1,())))) (false,1,())) (fun (a:tc_)=>none) (fun (i:Nat) (a:tc_)=>ck (neb i 0) (some ((0,0,()),false,()))) fun (r:tn_)=>some r
noncomputable def qR (x:tf_):Option (tf_):=sel (beq x.1 2) (sel (beq x.1 2) (some (2,())) (sel (beq x.1 5) (sel (beq x.1 5) (some (3,())) (some (0,()))) (sel (beq x.1 7) (some (3,())) (some (0,()))))) (sel (beq x.1 4) (some (2,())) (sel (beq x.1 5) (sel (beq x.1 5) (some (3,())) (some (0,()))) (sel (beq x.1 7) (some (3,())) (some (0,())))))
noncomputable def vP (x:tk_):Option (ta_):=ob (qaE (x.1,())) fun (a:tn_)=>ob (sel (bnot a.2.1) (some (true,())) (some (lt a.1.2.1 (len x.2.1),()))) fun (a_1:ta_)=>sel a_1.1 (some (false,())) (sel (beq a.1.1 1) (sel (beq a.1.1 1) (lc (loop (fun (x_1:tc_)=>sel (lt x_1.2.1 (len x.2.1)) (ck (inB x_1.2.1 (len x.2.1)) (ob (sel (lt (n8 (nth x.2.1 (nat x_1.2.1) (u8 0))) (n8 (u8 48))) (some (true,())) (some (lt (n8 (u8 57)) (n8 (nth x.2.1 (nat x_1.2.1) (u8 0))),()))) fun (a:ta_)=>sel a.1 (some (LS.ex 999999999 (false,x_1.2.1,()))) (some (LS.nx (x_1.1,i64 (iadd x_1.2.1 1),()))))) (some (LS.ex 0 (x_1.1,x_1.2.1,())))) (false,0,())) (fun (a:tc_)=>none) (fun (i:Nat) (a_2:tc_)=>sel (neb i 999999999) (sel (bnot a_2.1) (some (false,())) (lc (loop (fun (x_1:tc_)=>sel (lt x_1.2.1 (len x.2.1)) (ck (inB x_1.2.1 (len x.2.1)) (ob (sel (lt (n8 (nth x.2.1 (nat x_1.2.1) (u8 0))) (n8 (u8 32))) (some (true,())) (some (lt (n8 (u8 126)) (n8 (nth x.2.1 (nat x_1.2.1) (u8 0))),()))) fun (a:ta_)=>sel a.1 (some (LS.ex 999999999 (false,x_1.2.1,()))) (some (LS.nx (x_1.1,i64 (iadd x_1.2.1 1),()))))) (some (LS.ex 0 (x_1.1,x_1.2.1,())))) (false,0,())) (fun (a:tc_)=>none) (fun (i:Nat) (a_3:tc_)=>sel (neb i 999999999) (sel (bnot a_3.1) (some (false,())) (ob (qR (a.1.1,())) fun (a_4:tf_)=>sel (lt 0 a_4.1) (some (lt 0 (len x.2.1),())) (some (beq (len x.2.1) a.1.2.1,())))) (ck (neb i 0) (ob (qR (a.1.1,())) fun (a_4:tf_)=>sel (lt 0 a_4.1) (some (lt 0 (len x.2.1),())) (some (beq (len x.2.1) a.1.2.1,()))))) fun (r:Unit)=>none)) (ck (neb i 0) (lc (loop (fun (x_1:tc_)=>sel (lt x_1.2.1 (len x.2.1)) (ck (inB x_1.2.1 (len x.2.1)) (ob (sel (lt (n8 (nth x.2.1 (nat x_1.2.1) (u8 0))) (n8 (u8 32))) (some
 (true,())) (some (lt (n8 (u8 126)) (n8 (nth x.2.1 (nat x_1.2.1) (u8 0))),()))) fun (a:ta_)=>sel a.1 (some (LS.ex 999999999 (false,x_1.2.1,()))) (some (LS.nx (x_1.1,i64 (iadd x_1.2.1 1),()))))) (some (LS.ex 0 (x_1.1,x_1.2.1,())))) (false,0,())) (fun (a:tc_)=>none) (fun (i:Nat) (a_3:tc_)=>sel (neb i 999999999) (sel (bnot a_3.1) (some (false,())) (ob (qR (a.1.1,())) fun (a_4:tf_)=>sel (lt 0 a_4.1) (some (lt 0 (len x.2.1),())) (some (beq (len x.2.1) a.1.2.1,())))) (ck (neb i 0) (ob (qR (a.1.1,())) fun (a_4:tf_)=>sel (lt 0 a_4.1) (some (lt 0 (len x.2.1),())) (some (beq (len x.2.1) a.1.2.1,()))))) fun (r:Unit)=>none))) fun (r:Unit)=>none) (sel (beq a.1.1 3) (sel (beq a.1.1 3) (lc (loop (fun (x_1:tc_)=>sel (lt x_1.2.1 (len x.2.1)) (ck (inB x_1.2.1 (len x.2.1)) (ob (sel (lt (n8 (nth x.2.1 (nat x_1.2.1) (u8 0))) (n8 (u8 32))) (some (true,())) (some (lt (n8 (u8 126)) (n8 (nth x.2.1 (nat x_1.2.1) (u8 0))),()))) fun (a:ta_)=>sel a.1 (some (LS.ex 999999999 (false,x_1.2.1,()))) (some (LS.nx (x_1.1,i64 (iadd x_1.2.1 1),()))))) (some (LS.ex 0 (x_1.1,x_1.2.1,())))) (false,0,())) (fun (a:tc_)=>none) (fun (i:Nat) (a_2:tc_)=>sel (neb i 999999999) (sel (bnot a_2.1) (some (false,())) (ob (qR (a.1.1,())) fun (a_3:tf_)=>sel (lt 0 a_3.1) (some (lt 0 (len x.2.1),())) (some (beq (len x.2.1) a.1.2.1,())))) (ck (neb i 0) (ob (qR (a.1.1,())) fun (a_3:tf_)=>sel (lt 0 a_3.1) (some (lt 0 (len x.2.1),())) (some (beq (len x.2.1) a.1.2.1,()))))) fun (r:Unit)=>none) (ob (qR (a.1.1,())) fun (a_2:tf_)=>sel (lt 0 a_2.1) (some (lt 0 (len x.2.1),())) (some (beq (len x.2.1) a.1.2.1,())))) (sel (beq a.1.1 4) (sel (beq a.1.1 4) (lc (loop (fun (x_1:tc_)=>sel (lt x_1.2.1 (len x.2.1)) (ck (inB x_1.2.1 (len x.2.1)) (ob (sel (lt (n8 (nth
 x.2.1 (nat x_1.2.1) (u8 0))) (n8 (u8 32))) (some (true,())) (some (lt (n8 (u8 126)) (n8 (nth x.2.1 (nat x_1.2.1) (u8 0))),()))) fun (a:ta_)=>sel a.1 (some (LS.ex 999999999 (false,x_1.2.1,()))) (some (LS.nx (x_1.1,i64 (iadd x_1.2.1 1),()))))) (some (LS.ex 0 (x_1.1,x_1.2.1,())))) (false,0,())) (fun (a:tc_)=>none) (fun (i:Nat) (a_2:tc_)=>sel (neb i 999999999) (sel (bnot a_2.1) (some (false,())) (ob (qR (a.1.1,())) fun (a_3:tf_)=>sel (lt 0 a_3.1) (some (lt 0 (len x.2.1),())) (some (beq (len x.2.1) a.1.2.1,())))) (ck (neb i 0) (ob (qR (a.1.1,())) fun (a_3:tf_)=>sel (lt 0 a_3.1) (some (lt 0 (len x.2.1),())) (some (beq (len x.2.1) a.1.2.1,()))))) fun (r:Unit)=>none) (ob (qR (a.1.1,())) fun (a_2:tf_)=>sel (lt 0 a_2.1) (some (lt 0 (len x.2.1),())) (some (beq (len x.2.1) a.1.2.1,())))) (sel (beq a.1.1 5) (lc (loop (fun (x_1:tc_)=>sel (lt x_1.2.1 (len x.2.1)) (ck (inB x_1.2.1 (len x.2.1)) (ob (sel (lt (n8 (nth x.2.1 (nat x_1.2.1) (u8 0))) (n8 (u8 32))) (some (true,())) (some (lt (n8 (u8 126)) (n8 (nth x.2.1 (nat x_1.2.1) (u8 0))),()))) fun (a:ta_)=>sel a.1 (some (LS.ex 999999999 (false,x_1.2.1,()))) (some (LS.nx (x_1.1,i64 (iadd x_1.2.1 1),()))))) (some (LS.ex 0 (x_1.1,x_1.2.1,())))) (false,0,())) (fun (a:tc_)=>none) (fun (i:Nat) (a_2:tc_)=>sel (neb i 999999999) (sel (bnot a_2.1) (some (false,())) (ob (qR (a.1.1,())) fun (a_3:tf_)=>sel (lt 0 a_3.1) (some (lt 0 (len x.2.1),())) (some (beq (len x.2.1) a.1.2.1,())))) (ck (neb i 0) (ob (qR (a.1.1,())) fun (a_3:tf_)=>sel (lt 0 a_3.1) (some (lt 0 (len x.2.1),())) (some (beq (len x.2.1) a.1.2.1,()))))) fun (r:Unit)=>none) (ob (qR (a.1.1,())) fun (a_2:tf_)=>sel (lt 0 a_2.1) (some (lt 0 (len x.2.1),())) (some (beq (len x.2.1) a.1.2.1,()))))))) (sel (beq a.1.1
 2) (lc (loop (fun (x_1:tc_)=>sel (lt x_1.2.1 (len x.2.1)) (ck (inB x_1.2.1 (len x.2.1)) (ob (sel (lt (n8 (nth x.2.1 (nat x_1.2.1) (u8 0))) (n8 (u8 48))) (some (true,())) (some (lt (n8 (u8 57)) (n8 (nth x.2.1 (nat x_1.2.1) (u8 0))),()))) fun (a:ta_)=>sel a.1 (some (LS.ex 999999999 (false,x_1.2.1,()))) (some (LS.nx (x_1.1,i64 (iadd x_1.2.1 1),()))))) (some (LS.ex 0 (x_1.1,x_1.2.1,())))) (false,0,())) (fun (a:tc_)=>none) (fun (i:Nat) (a_2:tc_)=>sel (neb i 999999999) (sel (bnot a_2.1) (some (false,())) (lc (loop (fun (x_1:tc_)=>sel (lt x_1.2.1 (len x.2.1)) (ck (inB x_1.2.1 (len x.2.1)) (ob (sel (lt (n8 (nth x.2.1 (nat x_1.2.1) (u8 0))) (n8 (u8 32))) (some (true,())) (some (lt (n8 (u8 126)) (n8 (nth x.2.1 (nat x_1.2.1) (u8 0))),()))) fun (a:ta_)=>sel a.1 (some (LS.ex 999999999 (false,x_1.2.1,()))) (some (LS.nx (x_1.1,i64 (iadd x_1.2.1 1),()))))) (some (LS.ex 0 (x_1.1,x_1.2.1,())))) (false,0,())) (fun (a:tc_)=>none) (fun (i:Nat) (a_3:tc_)=>sel (neb i 999999999) (sel (bnot a_3.1) (some (false,())) (ob (qR (a.1.1,())) fun (a_4:tf_)=>sel (lt 0 a_4.1) (some (lt 0 (len x.2.1),())) (some (beq (len x.2.1) a.1.2.1,())))) (ck (neb i 0) (ob (qR (a.1.1,())) fun (a_4:tf_)=>sel (lt 0 a_4.1) (some (lt 0 (len x.2.1),())) (some (beq (len x.2.1) a.1.2.1,()))))) fun (r:Unit)=>none)) (ck (neb i 0) (lc (loop (fun (x_1:tc_)=>sel (lt x_1.2.1 (len x.2.1)) (ck (inB x_1.2.1 (len x.2.1)) (ob (sel (lt (n8 (nth x.2.1 (nat x_1.2.1) (u8 0))) (n8 (u8 32))) (some (true,())) (some (lt (n8 (u8 126)) (n8 (nth x.2.1 (nat x_1.2.1) (u8 0))),()))) fun (a:ta_)=>sel a.1 (some (LS.ex 999999999 (false,x_1.2.1,()))) (some (LS.nx (x_1.1,i64 (iadd x_1.2.1 1),()))))) (some (LS.ex 0 (x_1.1,x_1.2.1,())))) (false,0,())) (fun (a:tc_)=>none) (fun (i:Nat) (a_3 :
 Bool×Int×Unit)=>sel (neb i 999999999) (sel (bnot a_3.1) (some (false,())) (ob (qR (a.1.1,())) fun (a_4:tf_)=>sel (lt 0 a_4.1) (some (lt 0 (len x.2.1),())) (some (beq (len x.2.1) a.1.2.1,())))) (ck (neb i 0) (ob (qR (a.1.1,())) fun (a_4:tf_)=>sel (lt 0 a_4.1) (some (lt 0 (len x.2.1),())) (some (beq (len x.2.1) a.1.2.1,()))))) fun (r:Unit)=>none))) fun (r:Unit)=>none) (sel (beq a.1.1 3) (sel (beq a.1.1 3) (lc (loop (fun (x_1:tc_)=>sel (lt x_1.2.1 (len x.2.1)) (ck (inB x_1.2.1 (len x.2.1)) (ob (sel (lt (n8 (nth x.2.1 (nat x_1.2.1) (u8 0))) (n8 (u8 32))) (some (true,())) (some (lt (n8 (u8 126)) (n8 (nth x.2.1 (nat x_1.2.1) (u8 0))),()))) fun (a:ta_)=>sel a.1 (some (LS.ex 999999999 (false,x_1.2.1,()))) (some (LS.nx (x_1.1,i64 (iadd x_1.2.1 1),()))))) (some (LS.ex 0 (x_1.1,x_1.2.1,())))) (false,0,())) (fun (a:tc_)=>none) (fun (i:Nat) (a_2:tc_)=>sel (neb i 999999999) (sel (bnot a_2.1) (some (false,())) (ob (qR (a.1.1,())) fun (a_3:tf_)=>sel (lt 0 a_3.1) (some (lt 0 (len x.2.1),())) (some (beq (len x.2.1) a.1.2.1,())))) (ck (neb i 0) (ob (qR (a.1.1,())) fun (a_3:tf_)=>sel (lt 0 a_3.1) (some (lt 0 (len x.2.1),())) (some (beq (len x.2.1) a.1.2.1,()))))) fun (r:Unit)=>none) (ob (qR (a.1.1,())) fun (a_2:tf_)=>sel (lt 0 a_2.1) (some (lt 0 (len x.2.1),())) (some (beq (len x.2.1) a.1.2.1,())))) (sel (beq a.1.1 4) (sel (beq a.1.1 4) (lc (loop (fun (x_1:tc_)=>sel (lt x_1.2.1 (len x.2.1)) (ck (inB x_1.2.1 (len x.2.1)) (ob (sel (lt (n8 (nth x.2.1 (nat x_1.2.1) (u8 0))) (n8 (u8 32))) (some (true,())) (some (lt (n8 (u8 126)) (n8 (nth x.2.1 (nat x_1.2.1) (u8 0))),()))) fun (a:ta_)=>sel a.1 (some (LS.ex 999999999 (false,x_1.2.1,()))) (some (LS.nx (x_1.1,i64 (iadd x_1.2.1 1),()))))) (some (LS.ex 0 (x_1.1,x_1.2.1,())))) (false,0,())) (fun (a :
 Bool×Int×Unit)=>none) (fun (i:Nat) (a_2:tc_)=>sel (neb i 999999999) (sel (bnot a_2.1) (some (false,())) (ob (qR (a.1.1,())) fun (a_3:tf_)=>sel (lt 0 a_3.1) (some (lt 0 (len x.2.1),())) (some (beq (len x.2.1) a.1.2.1,())))) (ck (neb i 0) (ob (qR (a.1.1,())) fun (a_3:tf_)=>sel (lt 0 a_3.1) (some (lt 0 (len x.2.1),())) (some (beq (len x.2.1) a.1.2.1,()))))) fun (r:Unit)=>none) (ob (qR (a.1.1,())) fun (a_2:tf_)=>sel (lt 0 a_2.1) (some (lt 0 (len x.2.1),())) (some (beq (len x.2.1) a.1.2.1,())))) (sel (beq a.1.1 5) (lc (loop (fun (x_1:tc_)=>sel (lt x_1.2.1 (len x.2.1)) (ck (inB x_1.2.1 (len x.2.1)) (ob (sel (lt (n8 (nth x.2.1 (nat x_1.2.1) (u8 0))) (n8 (u8 32))) (some (true,())) (some (lt (n8 (u8 126)) (n8 (nth x.2.1 (nat x_1.2.1) (u8 0))),()))) fun (a:ta_)=>sel a.1 (some (LS.ex 999999999 (false,x_1.2.1,()))) (some (LS.nx (x_1.1,i64 (iadd x_1.2.1 1),()))))) (some (LS.ex 0 (x_1.1,x_1.2.1,())))) (false,0,())) (fun (a:tc_)=>none) (fun (i:Nat) (a_2:tc_)=>sel (neb i 999999999) (sel (bnot a_2.1) (some (false,())) (ob (qR (a.1.1,())) fun (a_3:tf_)=>sel (lt 0 a_3.1) (some (lt 0 (len x.2.1),())) (some (beq (len x.2.1) a.1.2.1,())))) (ck (neb i 0) (ob (qR (a.1.1,())) fun (a_3:tf_)=>sel (lt 0 a_3.1) (some (lt 0 (len x.2.1),())) (some (beq (len x.2.1) a.1.2.1,()))))) fun (r:Unit)=>none) (ob (qR (a.1.1,())) fun (a_2:tf_)=>sel (lt 0 a_2.1) (some (lt 0 (len x.2.1),())) (some (beq (len x.2.1) a.1.2.1,()))))))))
noncomputable def qbF (x:tk_):Option (tb_):=ob (qaE (x.1,())) fun (a:tn_)=>sel (bnot a.2.1) (some (none' UInt8,12,())) (ob (vP (x.1,x.2.1,())) fun (a_1:ta_)=>sel (bnot a_1.1) (some (none' UInt8,1,())) (ob (qR (a.1.1,())) fun (a_2:tf_)=>sel (lt 0 a_2.1) (ob (x6 (len x.2.1,a_2.1,())) fun (a_3:tb_)=>ob (qcI (a_3.1,())) fun (a_4:tb_)=>ob (sel (beq a.1.1 1) (some (true,())) (some (beq a.1.1 2,()))) fun (a:ta_)=>sel a.1 (ob (qcI (x.2.1,())) fun (a:tb_)=>ck (rm 1 (nadd (ln a_4.1) (ln a.1))) (some (app a_4.1 a.1,0,()))) (ck (rm 1 (nadd (ln a_4.1) (ln x.2.1))) (some (app a_4.1 x.2.1,0,())))) (ob (sel (beq a.1.1 1) (some (true,())) (some (beq a.1.1 2,()))) fun (a:ta_)=>sel a.1 (ob (qcI (x.2.1,())) fun (a:tb_)=>ck (rm 1 (ln a.1)) (some (a.1,0,()))) (ck (rm 1 (ln x.2.1)) (some (x.2.1,0,()))))))
noncomputable def qiM (x:tw_):Option (tl_):=ob (qaE (x.1,())) fun (a:tn_)=>sel (bnot a.2.1) (some (none' UInt8,0,12,())) (ob (sel (lt x.2.2.1 0) (some (true,())) (some (lt (len x.2.1) x.2.2.1,()))) fun (a_1:ta_)=>sel a_1.1 (some (none' UInt8,0,1,())) (ob (qR (a.1.1,())) fun (a_2:tf_)=>sel (lt 0 a_2.1) (ob (vH (x.2.1,x.2.2.1,a_2.1,())) fun (a_3:tl_)=>sel (bnot (beq a_3.2.2.1 0)) (some (none' UInt8,0,a_3.2.2.1,())) (ob (vG (a_3.1,())) fun (a_4:tg_)=>ob (sel (lt a_4.1 1) (some (true,())) (some (lt a.1.2.1 a_4.1,()))) fun (a_5:ta_)=>sel a_5.1 (some (none' UInt8,0,2,())) (ob (sel (beq a.1.1 1) (some (true,())) (some (beq a.1.1 2,()))) fun (a:ta_)=>sel a.1 (ob (vH (x.2.1,a_3.2.1,a_4.1,())) fun (a:tl_)=>sel (bnot (beq a.2.2.1 0)) (some (none' UInt8,0,a.2.2.1,())) (ck (rm 1 (ln a.1)) (some (a.1,a.2.1,0,())))) (sel (lt (i64 (isub (len x.2.1) a_3.2.1)) a_4.1) (some (none' UInt8,0,3,())) (ck (inC a_3.2.1 (i64 (iadd a_3.2.1 a_4.1)) (len x.2.1)) (ck (rm 1 (nadd (ln (none' UInt8)) (ln (sub x.2.1 a_3.2.1 (i64 (iadd a_3.2.1 a_4.1)))))) (ob (vP (x.1,app (none' UInt8) (sub x.2.1 a_3.2.1 (i64 (iadd a_3.2.1 a_4.1))),())) fun (a:ta_)=>sel (bnot a.1) (some (none' UInt8,0,2,())) (some (app (none' UInt8) (sub x.2.1 a_3.2.1 (i64 (iadd a_3.2.1 a_4.1))),i64 (iadd a_3.2.1 a_4.1),0,()))))))))) (ob (sel (beq a.1.1 1) (some (true,())) (some (beq a.1.1 2,()))) fun (a_3:ta_)=>sel a_3.1 (ob (vH (x.2.1,x.2.2.1,a.1.2.1,())) fun (a:tl_)=>sel (bnot (beq a.2.2.1 0)) (some (none' UInt8,0,a.2.2.1,())) (ck (rm 1 (ln a.1)) (some (a.1,a.2.1,0,())))) (sel (lt (i64 (isub (len x.2.1) x.2.2.1)) a.1.2.1) (some (none' UInt8,0,3,()))
 (ck (inC x.2.2.1 (i64 (iadd x.2.2.1 a.1.2.1)) (len x.2.1)) (ck (rm 1 (nadd (ln (none' UInt8)) (ln (sub x.2.1 x.2.2.1 (i64 (iadd x.2.2.1 a.1.2.1)))))) (ob (vP (x.1,app (none' UInt8) (sub x.2.1 x.2.2.1 (i64 (iadd x.2.2.1 a.1.2.1))),())) fun (a_4:ta_)=>sel (bnot a_4.1) (some (none' UInt8,0,2,())) (some (app (none' UInt8) (sub x.2.1 x.2.2.1 (i64 (iadd x.2.2.1 a.1.2.1))),i64 (iadd x.2.2.1 a.1.2.1),0,())))))))))
noncomputable def qk0 (x:ty_):Option (ta_):=lc (loop (fun (x_1:tc_)=>sel (lt x_1.2.1 (len x.1)) (ck (inB x_1.2.1 (len x.1)) (sel (beq (nth x.1 (nat x_1.2.1) 0) x.2.1) (some (LS.rt (true,()))) (some (LS.nx (x_1.1,i64 (iadd x_1.2.1 1),()))))) (some (LS.ex 0 (x_1.1,x_1.2.1,())))) (false,0,())) (fun (a:tc_)=>none) (fun (i:Nat) (a:tc_)=>ck (neb i 0) (some (false,()))) fun (r:ta_)=>some r
noncomputable def qeK (x:tf_):Option (tn_):=lc (loop (fun (x_1:tc_)=>sel (lt x_1.2.1 (len [[1,2,25],[1,3,22,49,70],[1,4,13,14,18],[1,6,3,11,12,15],[1,10,7],[1,12,4],[1,16,53],[1,42,90],[2,19,2],[2,11,32,100],[3,12,37],[3,6,38],[3,2,39],[3,8,41],[3,15,42],[3,42,95],[4,37,35],[4,28,102],[5,400,48],[5,120,54],[6,8,52,64,96,128],[7,255,55],[7,400,127]])) (ck (inB x_1.2.1 (len [[1,2,25],[1,3,22,49,70],[1,4,13,14,18],[1,6,3,11,12,15],[1,10,7],[1,12,4],[1,16,53],[1,42,90],[2,19,2],[2,11,32,100],[3,12,37],[3,6,38],[3,2,39],[3,8,41],[3,15,42],[3,42,95],[4,37,35],[4,28,102],[5,400,48],[5,120,54],[6,8,52,64,96,128],[7,255,55],[7,400,127]])) (ck (inC 2 (len (nth [[1,2,25],[1,3,22,49,70],[1,4,13,14,18],[1,6,3,11,12,15],[1,10,7],[1,12,4],[1,16,53],[1,42,90],[2,19,2],[2,11,32,100],[3,12,37],[3,6,38],[3,2,39],[3,8,41],[3,15,42],[3,42,95],[4,37,35],[4,28,102],[5,400,48],[5,120,54],[6,8,52,64,96,128],[7,255,55],[7,400,127]] (nat x_1.2.1) (none' Int))) (len (nth [[1,2,25],[1,3,22,49,70],[1,4,13,14,18],[1,6,3,11,12,15],[1,10,7],[1,12,4],[1,16,53],[1,42,90],[2,19,2],[2,11,32,100],[3,12,37],[3,6,38],[3,2,39],[3,8,41],[3,15,42],[3,42,95],[4,37,35],[4,28,102],[5,400,48],[5,120,54],[6,8,52,64,96,128],[7,255,55],[7,400,127]] (nat x_1.2.1) (none' Int)))) (ob (qk0 (sub (nth [[1,2,25],[1,3,22,49,70],[1,4,13,14,18],[1,6,3,11,12,15],[1,10,7],[1,12,4],[1,16,53],[1,42,90],[2,19,2],[2,11,32,100],[3,12,37],[3,6,38],[3,2,39],[3,8,41],[3,15,42],[3,42,95],[4,37,35],[4,28,102],[5,400,48],[5,120,54],[6,8,52,64,96,128],[7,255,55],[7,400,127]] (nat
 x_1.2.1) (none' Int)) 2 (len (nth [[1,2,25],[1,3,22,49,70],[1,4,13,14,18],[1,6,3,11,12,15],[1,10,7],[1,12,4],[1,16,53],[1,42,90],[2,19,2],[2,11,32,100],[3,12,37],[3,6,38],[3,2,39],[3,8,41],[3,15,42],[3,42,95],[4,37,35],[4,28,102],[5,400,48],[5,120,54],[6,8,52,64,96,128],[7,255,55],[7,400,127]] (nat x_1.2.1) (none' Int))),x.1,())) fun (a:ta_)=>sel a.1 (ck (inB x_1.2.1 (len [[1,2,25],[1,3,22,49,70],[1,4,13,14,18],[1,6,3,11,12,15],[1,10,7],[1,12,4],[1,16,53],[1,42,90],[2,19,2],[2,11,32,100],[3,12,37],[3,6,38],[3,2,39],[3,8,41],[3,15,42],[3,42,95],[4,37,35],[4,28,102],[5,400,48],[5,120,54],[6,8,52,64,96,128],[7,255,55],[7,400,127]])) (ck (inB 0 (len (nth [[1,2,25],[1,3,22,49,70],[1,4,13,14,18],[1,6,3,11,12,15],[1,10,7],[1,12,4],[1,16,53],[1,42,90],[2,19,2],[2,11,32,100],[3,12,37],[3,6,38],[3,2,39],[3,8,41],[3,15,42],[3,42,95],[4,37,35],[4,28,102],[5,400,48],[5,120,54],[6,8,52,64,96,128],[7,255,55],[7,400,127]] (nat x_1.2.1) (none' Int)))) (ck (inB x_1.2.1 (len [[1,2,25],[1,3,22,49,70],[1,4,13,14,18],[1,6,3,11,12,15],[1,10,7],[1,12,4],[1,16,53],[1,42,90],[2,19,2],[2,11,32,100],[3,12,37],[3,6,38],[3,2,39],[3,8,41],[3,15,42],[3,42,95],[4,37,35],[4,28,102],[5,400,48],[5,120,54],[6,8,52,64,96,128],[7,255,55],[7,400,127]])) (ck (inB 1 (len (nth [[1,2,25],[1,3,22,49,70],[1,4,13,14,18],[1,6,3,11,12,15],[1,10,7],[1,12,4],[1,16,53],[1,42,90],[2,19,2],[2,11,32,100],[3,12,37],[3,6,38],[3,2,39],[3,8,41],[3,15,42],[3,42,95],[4,37,35],[4,28,102],[5,400,48],[5,120,54],[6,8,52,64,96,128],[7,255,55],[7,400,127]] (nat x_1.2.1) (none' Int)))) (some (LS.rt ((nth (nth [[1,2,25],[1,3,
 22,49,70],[1,4,13,14,18],[1,6,3,11,12,15],[1,10,7],[1,12,4],[1,16,53],[1,42,90],[2,19,2],[2,11,32,100],[3,12,37],[3,6,38],[3,2,39],[3,8,41],[3,15,42],[3,42,95],[4,37,35],[4,28,102],[5,400,48],[5,120,54],[6,8,52,64,96,128],[7,255,55],[7,400,127]] (nat x_1.2.1) (none' Int)) (nat 0) 0,nth (nth [[1,2,25],[1,3,22,49,70],[1,4,13,14,18],[1,6,3,11,12,15],[1,10,7],[1,12,4],[1,16,53],[1,42,90],[2,19,2],[2,11,32,100],[3,12,37],[3,6,38],[3,2,39],[3,8,41],[3,15,42],[3,42,95],[4,37,35],[4,28,102],[5,400,48],[5,120,54],[6,8,52,64,96,128],[7,255,55],[7,400,127]] (nat x_1.2.1) (none' Int)) (nat 1) 0,()),true,()))))))) (some (LS.nx (x_1.1,i64 (iadd x_1.2.1 1),())))))) (some (LS.ex 0 (x_1.1,x_1.2.1,())))) (false,0,())) (fun (a:tc_)=>none) (fun (i:Nat) (a:tc_)=>ck (neb i 0) (some ((0,0,()),false,()))) fun (r:tn_)=>some r
noncomputable def xH (x:(Int×Int×Unit)×BB×Unit):Option (ta_):=lc (loop (fun (x_1:tc_)=>sel (lt x_1.2.1 (len x.2.1)) (ob (sel (le x.1.1 2) (ck (inB x_1.2.1 (len x.2.1)) (sel (lt (n8 (nth x.2.1 (nat x_1.2.1) (u8 0))) (n8 (u8 48))) (some (true,())) (ck (inB x_1.2.1 (len x.2.1)) (sel (lt (n8 (u8 57)) (n8 (nth x.2.1 (nat x_1.2.1) (u8 0)))) (some (true,())) (sel (le 3 x.1.1) (sel (le x.1.1 5) (ck (inB x_1.2.1 (len x.2.1)) (sel (lt (n8 (nth x.2.1 (nat x_1.2.1) (u8 0))) (n8 (u8 32))) (some (true,())) (ck (inB x_1.2.1 (len x.2.1)) (some (lt (n8 (u8 126)) (n8 (nth x.2.1 (nat x_1.2.1) (u8 0))),()))))) (some (false,()))) (some (false,()))))))) (sel (le 3 x.1.1) (sel (le x.1.1 5) (ck (inB x_1.2.1 (len x.2.1)) (sel (lt (n8 (nth x.2.1 (nat x_1.2.1) (u8 0))) (n8 (u8 32))) (some (true,())) (ck (inB x_1.2.1 (len x.2.1)) (some (lt (n8 (u8 126)) (n8 (nth x.2.1 (nat x_1.2.1) (u8 0))),()))))) (some (false,()))) (some (false,())))) fun (a:ta_)=>sel a.1 (some (LS.rt (false,()))) (some (LS.nx (x_1.1,i64 (iadd x_1.2.1 1),())))) (some (LS.ex 0 (x_1.1,x_1.2.1,())))) (false,0,())) (fun (a:tc_)=>none) (fun (i:Nat) (a:tc_)=>ck (neb i 0) (ob (sel (beq x.1.1 1) (some (true,())) (sel (beq x.1.1 3) (some (true,())) (some (beq x.1.1 6,())))) fun (a:ta_)=>sel a.1 (some (beq (len x.2.1) x.1.2.1,())) (ob (sel (le 1 (len x.2.1)) (some (le (len x.2.1) x.1.2.1,())) (some (false,()))) fun (a:ta_)=>some (a.1,())))) fun (r:ta_)=>some r
noncomputable def yT (x:tf_):Option (tf_):=ob (sel (beq x.1 2) (some (true,())) (some (beq x.1 4,()))) fun (a:ta_)=>sel a.1 (some (2,())) (ob (sel (beq x.1 5) (some (true,())) (some (beq x.1 7,()))) fun (a:ta_)=>sel a.1 (some (3,())) (some (0,())))
noncomputable def qaW (x:tk_):Option (tb_):=ob (qeK (x.1,())) fun (a:tn_)=>sel (bnot a.2.1) (some (none' UInt8,12,())) (ob (xH (a.1,x.2.1,())) fun (a_1:ta_)=>sel (bnot a_1.1) (some (none' UInt8,1,())) (ob (yT (a.1.1,())) fun (a_2:tf_)=>sel (lt 0 a_2.1) (ob (yT (a.1.1,())) fun (a_3:tf_)=>ob (j5 (len x.2.1,a_3.1,())) fun (a_4:tb_)=>ob (vT (a_4.1,())) fun (a_5:tb_)=>sel (le a.1.1 2) (ob (vT (x.2.1,())) fun (a:tb_)=>ck (rm 1 (nadd (ln (none' UInt8)) (ln a_5.1))) (ck (rm 1 (nadd (ln (app (none' UInt8) a_5.1)) (ln a.1))) (some (app (app (none' UInt8) a_5.1) a.1,0,())))) (ck (rm 1 (nadd (ln (none' UInt8)) (ln a_5.1))) (ck (rm 1 (nadd (ln (app (none' UInt8) a_5.1)) (ln x.2.1))) (some (app (app (none' UInt8) a_5.1) x.2.1,0,()))))) (sel (le a.1.1 2) (ob (vT (x.2.1,())) fun (a:tb_)=>ck (rm 1 (nadd (ln (none' UInt8)) (ln (none' UInt8)))) (ck (rm 1 (nadd (ln (app (none' UInt8) (none' UInt8))) (ln a.1))) (some (app (app (none' UInt8) (none' UInt8)) a.1,0,())))) (ck (rm 1 (nadd (ln (none' UInt8)) (ln (none' UInt8)))) (ck (rm 1 (nadd (ln (app (none' UInt8) (none' UInt8))) (ln x.2.1))) (some (app (app (none' UInt8) (none' UInt8)) x.2.1,0,())))))))
noncomputable def qiA (x:tk_):Option (ta_):=ob (qeK (x.1,())) fun (a:tn_)=>ob (xH (a.1,x.2.1,())) fun (a_1:ta_)=>ob (sel a.2.1 (some (a_1.1,())) (some (false,()))) fun (a:ta_)=>some (a.1,())
noncomputable def qh9 (x:tw_):Option (tl_):=ob (qeK (x.1,())) fun (a:tn_)=>sel (bnot a.2.1) (some (none' UInt8,0,12,())) (ob (sel (lt x.2.2.1 0) (some (true,())) (some (lt (len x.2.1) x.2.2.1,()))) fun (a_1:ta_)=>sel a_1.1 (some (none' UInt8,0,1,())) (ob (yT (a.1.1,())) fun (a_2:tf_)=>sel (lt 0 a_2.1) (ob (yT (a.1.1,())) fun (a_3:tf_)=>ob (j3 (x.2.1,x.2.2.1,a_3.1,())) fun (a_4:tl_)=>sel (bnot (beq a_4.2.2.1 0)) (some (none' UInt8,0,a_4.2.2.1,())) (ob (v7 (a_4.1,())) fun (a_5:tg_)=>ob (sel (lt a_5.1 1) (some (true,())) (some (lt a.1.2.1 a_5.1,()))) fun (a_6:ta_)=>sel a_6.1 (some (none' UInt8,0,2,())) (ob (sel (le a.1.1 2) (some (i64 (idiv (i64 (iadd a_5.1 1)) 2),())) (some (a_5.1,()))) fun (a_7:tf_)=>sel (lt (i64 (isub (len x.2.1) a_4.2.1)) a_7.1) (some (none' UInt8,0,3,())) (ck (inC a_4.2.1 (i64 (iadd a_4.2.1 a_7.1)) (len x.2.1)) (ck (rm 1 (nadd (ln (none' UInt8)) (ln (sub x.2.1 a_4.2.1 (i64 (iadd a_4.2.1 a_7.1)))))) (sel (le a.1.1 2) (ob (j3 (x.2.1,a_4.2.1,a_5.1,())) fun (a_8:tl_)=>sel (bnot (beq a_8.2.2.1 0)) (some (none' UInt8,0,2,())) (ck (rm 1 (ln a_8.1)) (ob (xH (a.1,a_8.1,())) fun (a:ta_)=>sel (bnot a.1) (some (none' UInt8,0,2,())) (some (a_8.1,i64 (iadd a_4.2.1 a_7.1),0,()))))) (ob (xH (a.1,app (none' UInt8) (sub x.2.1 a_4.2.1 (i64 (iadd a_4.2.1 a_7.1))),())) fun (a:ta_)=>sel (bnot a.1) (some (none' UInt8,0,2,())) (some (app (none' UInt8) (sub x.2.1 a_4.2.1 (i64 (iadd a_4.2.1 a_7.1))),i64 (iadd a_4.2.1 a_7.1),0,()))))))))) (ob (sel (le a.1.1 2) (some (i64 (idiv (i64 (iadd a.1.2.1 1)) 2),())) (some (a.1.2.1,()))) fun (a_3:tf_)=>sel (lt (i64 (isub (len x.2.1) x.2.2.1)) a_3.1)
 (some (none' UInt8,0,3,())) (ck (inC x.2.2.1 (i64 (iadd x.2.2.1 a_3.1)) (len x.2.1)) (ck (rm 1 (nadd (ln (none' UInt8)) (ln (sub x.2.1 x.2.2.1 (i64 (iadd x.2.2.1 a_3.1)))))) (sel (le a.1.1 2) (ob (j3 (x.2.1,x.2.2.1,a.1.2.1,())) fun (a_4:tl_)=>sel (bnot (beq a_4.2.2.1 0)) (some (none' UInt8,0,2,())) (ck (rm 1 (ln a_4.1)) (ob (xH (a.1,a_4.1,())) fun (a:ta_)=>sel (bnot a.1) (some (none' UInt8,0,2,())) (some (a_4.1,i64 (iadd x.2.2.1 a_3.1),0,()))))) (ob (xH (a.1,app (none' UInt8) (sub x.2.1 x.2.2.1 (i64 (iadd x.2.2.1 a_3.1))),())) fun (a:ta_)=>sel (bnot a.1) (some (none' UInt8,0,2,())) (some (app (none' UInt8) (sub x.2.1 x.2.2.1 (i64 (iadd x.2.2.1 a_3.1))),i64 (iadd x.2.2.1 a_3.1),0,())))))))))
def bt (c:UInt8) (t:Nat):Bool:=c.toNat.testBit (7 - t)
def hasB (b:BB) (n:Nat):Bool:=bt (nth b ((n - 1) / 8) (u8 0)) ((n - 1) % 8)
def xU (b:BB):List Nat:=(List.range (8*b.length+1)).filter fun n=>Nat.ble 2 n && hasB b n
def bmC (c:BB) (a:Int):List Int×Int×Int×Unit :=
 if c.length < 8∨(hasB c 1=true∧c.length < 16) then ([],0,3,())
 else if hasB c 1=true then
  (if 65∈xU (c.take 16)∨∀ n∈xU (c.take 16),n < 65 then ([],0,2,()) else ((xU (c.take 16)).map Int.ofNat,a+16,0,()))
 else ((xU (c.take 8)).map Int.ofNat,a+8,0,())
def bmR (b:BB) (a:Int):List Int×Int×Int×Unit:=if a < 0∨(b.length:Int) < a then ([],0,1,()) else bmC (b.drop a.toNat) a
def qsC (x:tb_):Option (tJ_):=some (bmR x.1 x.2.1)
noncomputable def kF (x:tg_):Option (tf_):=lc (loop (fun (x_1:tg_)=>sel (lt x_1.2.1 x.2.1) (some (LS.nx (i64 (idiv x_1.1 10),i64 (iadd x_1.2.1 1),()))) (some (LS.ex 0 (x_1.1,x_1.2.1,())))) (x.1,0,())) (fun (a:tg_)=>none) (fun (i:Nat) (a:tg_)=>ck (neb i 0) (some (imod a.1 10,()))) fun (r:tf_)=>some r
noncomputable def qeX (x:tf_):Option (ta_):=ob (sel (lt x.1 0) (some (true,())) (some (lt 999 x.1,()))) fun (a:ta_)=>sel a.1 (some (false,())) (ob (kF (x.1,2,())) fun (a:tf_)=>ob (sel (le 1 a.1) (sel (le a.1 8) (ob (kF (x.1,1,())) fun (a:tf_)=>sel (le a.1 4) (ob (kF (x.1,0,())) fun (a:tf_)=>some (le a.1 5,())) (some (false,()))) (some (false,()))) (some (false,()))) fun (a:ta_)=>some (a.1,()))
noncomputable def qa4 (x:ti_):Option (ta_):=ob (sel (le 1 x.1.2.2.2.2.1) (sel (le x.1.2.2.2.2.1 2147483647) (sel (beq (len x.1.2.2.2.2.2.1) 8) (sel (beq (len x.1.2.2.2.2.2.2.1) 3) (some (beq x.1.2.2.2.2.2.2.2.1 0,())) (some (false,()))) (some (false,()))) (some (false,()))) (some (false,()))) fun (a:ta_)=>some (a.1,())
noncomputable def y8 (x:ti_):Option (ta_):=ob (sel (beq x.1.2.2.2.2.1 0) (sel (beq (len x.1.2.2.2.2.2.1) 0) (sel (beq (len x.1.2.2.2.2.2.2.1) 0) (some (beq x.1.2.2.2.2.2.2.2.1 0,())) (some (false,()))) (some (false,()))) (some (false,()))) fun (a:ta_)=>some (a.1,())
noncomputable def qa5 (x:ti_):Option (ta_):=ob (sel (le 0 x.1.2.2.2.2.2.2.2.1) (sel (le x.1.2.2.2.2.2.2.2.1 999999) (ob (y8 ((x.1.1,x.1.2.1,x.1.2.2.1,x.1.2.2.2.1,x.1.2.2.2.2.1,x.1.2.2.2.2.2.1,x.1.2.2.2.2.2.2.1,0,x.1.2.2.2.2.2.2.2.2),())) fun (a:ta_)=>some (a.1,())) (some (false,()))) (some (false,()))) fun (a:ta_)=>some (a.1,()) -- not served: yett/note.rule$1
noncomputable def qlH (x:tj_):Option (ta_):=lc (loop (fun (x_1:tE_)=>sel (lt x_1.2.2.1 (len x.1.2.1)) (ck (inB x_1.2.2.1 (len x.1.2.1)) (ob (sel (le (nth x.1.2.1 (nat x_1.2.2.1) (0,none' UInt8,())).1 x_1.2.1) (some (true,())) (ob (vP ((nth x.1.2.1 (nat x_1.2.2.1) (0,none' UInt8,())).1,(nth x.1.2.1 (nat x_1.2.2.1) (0,none' UInt8,())).2.1,())) fun (a:ta_)=>some (bnot a.1,()))) fun (a:ta_)=>sel a.1 (some (LS.rt (false,()))) (some (LS.nx (x_1.1,(nth x.1.2.1 (nat x_1.2.2.1) (0,none' UInt8,())).1,i64 (iadd x_1.2.2.1 1),()))))) (some (LS.ex 0 (x_1.1,x_1.2.1,x_1.2.2.1,())))) (false,0,0,())) (fun (a:tE_)=>none) (fun (i:Nat) (a:tE_)=>ck (neb i 0) (ob (qeX (x.1.1,())) fun (a:ta_)=>some (a.1,()))) fun (r:ta_)=>some r
noncomputable def qbI (x:tT_):Option (ta_):=some (seq x.1 x.2.1,())
noncomputable def qiH (x:tR_):Option (ta_):=ob (sel (beq x.1.1 x.2.1.1) (ob (qbI (x.1.2.1,x.2.1.2.1,())) fun (a:ta_)=>some (a.1,())) (some (false,()))) fun (a:ta_)=>some (a.1,())
noncomputable def qbZ (x:tB_):Option (ta_):=lc (loop (fun (x_1:tE_)=>sel (lt x_1.2.2.1 (len x.1)) (ck (inB x_1.2.2.1 (len x.1)) (ob (sel (le (nth x.1 (nat x_1.2.2.1) 0) x_1.2.1) (some (true,())) (sel (lt 128 (nth x.1 (nat x_1.2.2.1) 0)) (some (true,())) (some (beq (nth x.1 (nat x_1.2.2.1) 0) 65,())))) fun (a:ta_)=>sel a.1 (some (LS.rt (false,()))) (some (LS.nx (x_1.1,nth x.1 (nat x_1.2.2.1) 0,i64 (iadd x_1.2.2.1 1),()))))) (some (LS.ex 0 (x_1.1,x_1.2.1,x_1.2.2.1,())))) (false,1,0,())) (fun (a:tE_)=>none) (fun (i:Nat) (a:tE_)=>ck (neb i 0) (some (true,()))) fun (r:ta_)=>some r
noncomputable def jL (x:tf_):Option (tK_):=ob (sel (lt x.1 1) (some (true,())) (some (lt 128 x.1,()))) fun (a:ta_)=>sel a.1 (some (0,u8 0,())) (ck (le 0 (imod (i64 (isub x.1 1)) 8)) (some (i64 (idiv (i64 (isub x.1 1)) 8),u8 (shrI IntKind.u8 (n8 (u8 128)) (imod (i64 (isub x.1 1)) 8)),())))
noncomputable def qbY (x:tB_):Option (tb_):=ob (qbZ (x.1,())) fun (a:ta_)=>sel (bnot a.1) (some (none' UInt8,1,())) (ck (band (inC 0 8 8) (rm 1 (nat 8))) (ob (sel (lt 0 (len x.1)) (ck (inB (i64 (isub (len x.1) 1)) (len x.1)) (some (lt 64 (nth x.1 (nat (i64 (isub (len x.1) 1))) 0),()))) (some (false,()))) fun (a:ta_)=>sel a.1 (ck (band (inC 0 16 16) (rm 1 (nat 16))) (ck (inB 0 (len (rep (nat 16) (u8 0)))) (lc (loop (fun (x_1:tk_)=>sel (lt x_1.1 (len x.1)) (ck (inB x_1.1 (len x.1)) (ob (jL (nth x.1 (nat x_1.1) 0,())) fun (a:tK_)=>ck (inB a.1 (len x_1.2.1)) (ck (inB a.1 (len x_1.2.1)) (some (LS.nx (i64 (iadd x_1.1 1),upd x_1.2.1 (nat a.1) (u8 (orI IntKind.u8 (n8 (nth x_1.2.1 (nat a.1) (u8 0))) (n8 a.2.1))),())))))) (some (LS.ex 0 (x_1.1,x_1.2.1,())))) (0,upd (rep (nat 16) (u8 0)) (nat 0) (u8 128),())) (fun (a:tk_)=>none) (fun (i:Nat) (a:tk_)=>ck (neb i 0) (some (a.2.1,0,()))) fun (r:tb_)=>some r))) (lc (loop (fun (x_1:tk_)=>sel (lt x_1.1 (len x.1)) (ck (inB x_1.1 (len x.1)) (ob (jL (nth x.1 (nat x_1.1) 0,())) fun (a:tK_)=>ck (inB a.1 (len x_1.2.1)) (ck (inB a.1 (len x_1.2.1)) (some (LS.nx (i64 (iadd x_1.1 1),upd x_1.2.1 (nat a.1) (u8 (orI IntKind.u8 (n8 (nth x_1.2.1 (nat a.1) (u8 0))) (n8 a.2.1))),())))))) (some (LS.ex 0 (x_1.1,x_1.2.1,())))) (0,rep (nat 8) (u8 0),())) (fun (a:tk_)=>none) (fun (i:Nat) (a:tk_)=>ck (neb i 0) (some (a.2.1,0,()))) fun (r:tb_)=>some r)))
noncomputable def qbA (x:tj_):Option (tb_):=ob (qlH (x.1,())) fun (a:ta_)=>sel (bnot a.1) (some (none' UInt8,1,())) (ob (x6 (x.1.1,4,())) fun (a:tb_)=>ob (qcI (a.1,())) fun (a:tb_)=>lc (loop (fun (x_1:ty_)=>sel (lt x_1.2.1 (len x.1.2.1)) (ck (inB x_1.2.1 (len x.1.2.1)) (ck (rm 32 (nadd (ln x_1.1) (ln [(nth x.1.2.1 (nat x_1.2.1) (0,none' UInt8,())).1]))) (some (LS.nx (app x_1.1 [(nth x.1.2.1 (nat x_1.2.1) (0,none' UInt8,())).1],i64 (iadd x_1.2.1 1),()))))) (some (LS.ex 0 (x_1.1,x_1.2.1,())))) (none' Int,0,())) (fun (a:ty_)=>none) (fun (i:Nat) (a_1:ty_)=>ck (neb i 0) (ob (qbY (a_1.1,())) fun (a_2:tb_)=>ck (rm 1 (nadd (ln a.1) (ln a_2.1))) (lc (loop (fun (x_1:tb_)=>sel (lt x_1.2.1 (len x.1.2.1)) (ck (inB x_1.2.1 (len x.1.2.1)) (ob (qbF ((nth x.1.2.1 (nat x_1.2.1) (0,none' UInt8,())).1,(nth x.1.2.1 (nat x_1.2.1) (0,none' UInt8,())).2.1,())) fun (a:tb_)=>ck (rm 1 (nadd (ln x_1.1) (ln a.1))) (some (LS.nx (app x_1.1 a.1,i64 (iadd x_1.2.1 1),()))))) (some (LS.ex 2 (x_1.1,x_1.2.1,())))) (app a.1 a_2.1,0,())) (fun (a:tb_)=>none) (fun (i:Nat) (a:tb_)=>ck (neb i 2) (some (a.1,0,()))) fun (r:tb_)=>some r))) fun (r:tb_)=>some r)
noncomputable def qzC (x:tf_):Option (tv_):=ob (kF (x.1,1,())) fun (a:tf_)=>ob (qeX (x.1,())) fun (a_1:ta_)=>ob (sel (bnot a_1.1) (some (true,())) (sel (bnot (beq a.1 0)) (some (bnot (beq a.1 2),())) (some (false,())))) fun (a:ta_)=>sel a.1 (some (0,false,())) (some (i64 (iadd x.1 10),true,()))
noncomputable def qQ (x:List (Int×BB×Unit)×List (Int×BB×Unit)×Nat×Unit):Option (ta_):=sel (bnot (beq (len x.1) (len x.2.1))) (some (false,())) (lc (loop (fun (x_1:tc_)=>sel (lt x_1.2.1 (len x.1)) (ck (inB x_1.2.1 (len x.1)) (ck (inB x_1.2.1 (len x.2.1)) (ck (neb x.2.2.1 1) (ob (qiH (nth x.1 (nat x_1.2.1) (0,none' UInt8,()),nth x.2.1 (nat x_1.2.1) (0,none' UInt8,()),())) fun (a:ta_)=>sel (bnot a.1) (some (LS.rt (false,()))) (some (LS.nx (x_1.1,i64 (iadd x_1.2.1 1),()))))))) (some (LS.ex 0 (x_1.1,x_1.2.1,())))) (false,0,())) (fun (a:tc_)=>none) (fun (i:Nat) (a:tc_)=>ck (neb i 0) (some (true,()))) fun (r:ta_)=>some r)
noncomputable def qlG (x:(Int×List (Int×BB×Unit)×Unit)×(Int×List (Int×BB×Unit)×Unit)×Unit):Option (ta_):=ob (sel (beq x.1.1 x.2.1.1) (ob (qQ (x.1.2.1,x.2.1.2.1,1,())) fun (a:ta_)=>some (a.1,())) (some (false,()))) fun (a:ta_)=>some (a.1,())
noncomputable def qgY (x:tf_):Option (tf_):=ob (qeX (x.1,())) fun (a:ta_)=>sel (bnot a.1) (some (0,())) (ob (kF (x.1,2,())) fun (a:tf_)=>some (a.1,()))
noncomputable def wG (x:(Int×BB×Unit)×Unit):Option (tf_):=some (x.1.1,())
noncomputable def qlJ (x:te_):Option (td_):=ob (vH (x.1,0,4,())) fun (a:tl_)=>sel (bnot (beq a.2.2.1 0)) (some ((0,none' (Int×BB×Unit),()),a.2.2.1,())) (ob (vG (a.1,())) fun (a_1:tg_)=>ob (qeX (a_1.1,())) fun (a_2:ta_)=>sel (bnot a_2.1) (some ((0,none' (Int×BB×Unit),()),2,())) (ob (qsC (x.1,a.2.1,())) fun (a:tJ_)=>sel (bnot (beq a.2.2.1 0)) (some ((0,none' (Int×BB×Unit),()),a.2.2.1,())) (lc (loop (fun (x:tg_)=>sel (lt x.2.1 (len a.1)) (ck (inB x.2.1 (len a.1)) (ob (qaE (nth a.1 (nat x.2.1) 0,())) fun (a:tn_)=>sel (bnot a.2.1) (some (LS.rt ((0,none' (Int×BB×Unit),()),2,()))) (some (LS.nx (x.1,i64 (iadd x.2.1 1),()))))) (some (LS.ex 0 (x.1,x.2.1,())))) (0,0,())) (fun (a:tg_)=>none) (fun (i:Nat) (a_3:tg_)=>ck (neb i 0) (lc (loop (fun (x_1:tt_)=>sel (lt x_1.2.2.1 (len a.1)) (ck (inB x_1.2.2.1 (len a.1)) (ob (qiM (nth a.1 (nat x_1.2.2.1) 0,x.1,x_1.2.1,())) fun (a_4:tl_)=>sel (bnot (beq a_4.2.2.1 0)) (some (LS.rt ((0,none' (Int×BB×Unit),()),a_4.2.2.1,()))) (ck (rm 56 (nadd (ln x_1.2.2.2.1.2.1) (ln [(nth a.1 (nat x_1.2.2.1) 0,a_4.1,())]))) (some (LS.nx (x_1.1,a_4.2.1,i64 (iadd x_1.2.2.1 1),(x_1.2.2.2.1.1,app x_1.2.2.2.1.2.1 [(nth a.1 (nat x_1.2.2.1) 0,a_4.1,())],x_1.2.2.2.1.2.2),())))))) (some (LS.ex 2 (x_1.1,x_1.2.1,x_1.2.2.1,(x_1.2.2.2.1.1,x_1.2.2.2.1.2.1,x_1.2.2.2.1.2.2),())))) (a_3.1,a.2.1,0,(a_1.1,none' (Int×BB×Unit),()),())) (fun (a:tt_)=>none) (fun (i:Nat) (a:Int×Int×Int ×
 (Int×List (Int×BB×Unit)×Unit)×Unit)=>ck (neb i 2) (sel (lt a.2.1 (len x.1)) (some ((0,none' (Int×BB×Unit),()),4,())) (some ((a.2.2.2.1.1,a.2.2.2.1.2.1,a.2.2.2.1.2.2),0,())))) fun (r:td_)=>some r)) fun (r:td_)=>some r)))
noncomputable def qdM (x:tj_):Option (tH_):=some ((x.1.2.1,1,()),())
noncomputable def z8 (x:(List (Int×BB×Unit)×Nat×Unit)×Int×Unit):Option (tv_):=lc (loop (fun (x_1:tY_)=>sel (lt x_1.2.2.1 (len x.1.1)) (ck (inB x_1.2.2.1 (len x.1.1)) (ck (neb x.1.2.1 1) (ob (wG (nth x.1.1 (nat x_1.2.2.1) (0,none' UInt8,()),())) fun (a:tf_)=>sel (le x.2.1 a.1) (some (LS.rt (x_1.2.2.1,beq a.1 x.2.1,()))) (some (LS.nx (x_1.1,x_1.2.1,i64 (iadd x_1.2.2.1 1),())))))) (some (LS.ex 0 (x_1.1,x_1.2.1,x_1.2.2.1,())))) (0,false,0,())) (fun (a:tY_)=>none) (fun (i:Nat) (a:tY_)=>ck (neb i 0) (some (len x.1.1,false,()))) fun (r:tv_)=>some r
noncomputable def zG (x:List (List (Int×BB×Unit))×Unit):Option (to_):=lc (loop (fun (x_1:tg_)=>sel (lt x_1.2.1 (len x.1)) (ck (inB x_1.2.1 (len x.1)) (sel (lt (i64 (iadd x_1.1 (len (nth x.1 (nat x_1.2.1) (none' (Int×BB×Unit)))))) 0) none (some (LS.nx (i64 (iadd x_1.1 (len (nth x.1 (nat x_1.2.1) (none' (Int×BB×Unit))))),i64 (iadd x_1.2.1 1),()))))) (some (LS.ex 0 (x_1.1,x_1.2.1,())))) (0,0,())) (fun (a:tg_)=>none) (fun (i:Nat) (a:tg_)=>ck (neb i 0) (sel (lt a.1 0) none (sel (lt 0 (i64 (isub a.1 (i64 (isub 0 0))))) (ck (inC 0 0 0) (ck (band (le 0 (i64 (isub a.1 (i64 (isub 0 0))))) (rm 56 (nat (i64 (isub a.1 (i64 (isub 0 0))))))) (ck (inC 0 0 (len (rep (nat (i64 (isub a.1 (i64 (isub 0 0))))) (0,none' UInt8,())))) (lc (loop (fun (x_1:tx_)=>sel (lt x_1.2.1 (len x.1)) (ck (inB x_1.2.1 (len x.1)) (ck (rm 56 (nadd (ln x_1.1) (ln (nth x.1 (nat x_1.2.1) (none' (Int×BB×Unit)))))) (some (LS.nx (app x_1.1 (nth x.1 (nat x_1.2.1) (none' (Int×BB×Unit))),i64 (iadd x_1.2.1 1),()))))) (some (LS.ex 2 (x_1.1,x_1.2.1,())))) (cut (rep (nat (i64 (isub a.1 (i64 (isub 0 0))))) (0,none' UInt8,())) (nat 0) (nsub (nat 0) (nat 0)),0,())) (fun (a:tx_)=>none) (fun (i:Nat) (a:tx_)=>ck (neb i 2) (some (a.1,()))) fun (r:to_)=>some r)))) (lc (loop (fun (x_1:tx_)=>sel (lt x_1.2.1 (len x.1)) (ck (inB x_1.2.1 (len x.1)) (ck (rm 56 (nadd (ln x_1.1) (ln (nth x.1 (nat x_1.2.1) (none' (Int×BB×Unit)))))) (some (LS.nx (app x_1.1 (nth x.1 (nat x_1.2.1) (none' (Int×BB×Unit))),i64 (iadd x_1.2.1 1),()))))) (some (LS.ex 2 (x_1.1,x_1.2.1,())))) (none' (Int×BB×Unit),0,
 ())) (fun (a:tx_)=>none) (fun (i:Nat) (a:tx_)=>ck (neb i 2) (some (a.1,()))) fun (r:to_)=>some r)))) fun (r:to_)=>some r
noncomputable def j6 (x:(List (Int×BB×Unit)×Nat×Unit)×(Int×BB×Unit)×Unit):Option (to_):=ck (neb x.1.2.1 1) (ob (wG (x.2.1,())) fun (a:tf_)=>ob (z8 (x.1,a.1,())) fun (a:tv_)=>ob (sel a.2.1 (some (i64 (iadd a.1 1),())) (some (a.1,()))) fun (a_1:tf_)=>ck (inC 0 a.1 (len x.1.1)) (ck (inC a_1.1 (len x.1.1) (len x.1.1)) (ob (zG ([sub x.1.1 0 a.1,[x.2.1],sub x.1.1 a_1.1 (len x.1.1)],())) fun (a:to_)=>some (a.1,()))))
noncomputable def jR (x:(Int×List (Int×BB×Unit)×Unit)×Int×BB×Unit):Option (td_):=ob (qaE (x.2.1,())) fun (a:tn_)=>sel (bnot a.2.1) (some (x.1,12,())) (ob (vP (x.2.1,x.2.2.1,())) fun (a:ta_)=>sel (bnot a.1) (some (x.1,1,())) (ob (qdM (x.1,())) fun (a:tH_)=>ob (j6 (a.1,(x.2.1,x.2.2.1,()),())) fun (a:to_)=>some ((x.1.1,a.1,x.1.2.2),0,())))
noncomputable def yX (x:td_):Option (tr_):=ob (qdM (x.1,())) fun (a:tH_)=>ob (z8 (a.1,x.2.1,())) fun (a:tv_)=>sel (bnot a.2.1) (some (none' UInt8,false,())) (ck (inB a.1 (len x.1.2.1)) (some ((nth x.1.2.1 (nat a.1) (0,none' UInt8,())).2.1,true,())))
noncomputable def qc1 (x:tf_):Option (ta_):=ob (sel (le 100 x.1) (sel (le x.1 899) (sel (le (imod (i64 (idiv x.1 10)) 10) 4) (some (le (imod x.1 10) 5,())) (some (false,()))) (some (false,()))) (some (false,()))) fun (a:ta_)=>some (a.1,())
noncomputable def qeH (x:tj_):Option (ta_):=lc (loop (fun (x_1:tc_)=>sel (lt x_1.2.1 (len x.1.2.1)) (ck (inB x_1.2.1 (len x.1.2.1)) (ck (inB x_1.2.1 (len x.1.2.1)) (ob (qiA ((nth x.1.2.1 (nat x_1.2.1) (0,none' UInt8,())).1,(nth x.1.2.1 (nat x_1.2.1) (0,none' UInt8,())).2.1,())) fun (a:ta_)=>ob (sel (bnot a.1) (some (true,())) (sel (lt 0 x_1.2.1) (ck (inB (i64 (isub x_1.2.1 1)) (len x.1.2.1)) (ck (inB x_1.2.1 (len x.1.2.1)) (some (le (nth x.1.2.1 (nat x_1.2.1) (0,none' UInt8,())).1 (nth x.1.2.1 (nat (i64 (isub x_1.2.1 1))) (0,none' UInt8,())).1,())))) (some (false,())))) fun (a:ta_)=>sel a.1 (some (LS.rt (false,()))) (some (LS.nx (x_1.1,i64 (iadd x_1.2.1 1),())))))) (some (LS.ex 0 (x_1.1,x_1.2.1,())))) (false,0,())) (fun (a:tc_)=>none) (fun (i:Nat) (a:tc_)=>ck (neb i 0) (ob (qc1 (x.1.1,())) fun (a:ta_)=>some (a.1,()))) fun (r:ta_)=>some r
noncomputable def qeJ (x:tB_):Option (ta_):=lc (loop (fun (x_1:tc_)=>sel (lt x_1.2.1 (len x.1)) (ck (inB x_1.2.1 (len x.1)) (ob (sel (lt (nth x.1 (nat x_1.2.1) 0) 2) (some (true,())) (ck (inB x_1.2.1 (len x.1)) (sel (lt 128 (nth x.1 (nat x_1.2.1) 0)) (some (true,())) (ck (inB x_1.2.1 (len x.1)) (sel (beq (nth x.1 (nat x_1.2.1) 0) 65) (some (true,())) (sel (lt 0 x_1.2.1) (ck (inB (i64 (isub x_1.2.1 1)) (len x.1)) (ck (inB x_1.2.1 (len x.1)) (some (le (nth x.1 (nat x_1.2.1) 0) (nth x.1 (nat (i64 (isub x_1.2.1 1))) 0),())))) (some (false,())))))))) fun (a:ta_)=>sel a.1 (some (LS.rt (false,()))) (some (LS.nx (x_1.1,i64 (iadd x_1.2.1 1),()))))) (some (LS.ex 0 (x_1.1,x_1.2.1,())))) (false,0,())) (fun (a:tc_)=>none) (fun (i:Nat) (a:tc_)=>ck (neb i 0) (some (true,()))) fun (r:ta_)=>some r
noncomputable def v6 (x:tf_):Option (tK_):=ob (sel (lt x.1 1) (some (true,())) (some (lt 128 x.1,()))) fun (a:ta_)=>sel a.1 (some (0,u8 0,())) (lc (loop (fun (x_1:tg_)=>sel (lt x_1.2.1 (imod (i64 (isub x.1 1)) 8)) (some (LS.nx (i64 (idiv x_1.1 2),i64 (iadd x_1.2.1 1),()))) (some (LS.ex 0 (x_1.1,x_1.2.1,())))) (128,0,())) (fun (a:tg_)=>none) (fun (i:Nat) (a:tg_)=>ck (neb i 0) (some (i64 (idiv (i64 (isub x.1 1)) 8),u8 a.1,()))) fun (r:tK_)=>some r)
noncomputable def qeI (x:tB_):Option (tb_):=ob (qeJ (x.1,())) fun (a:ta_)=>sel (bnot a.1) (some (none' UInt8,1,())) (ck (rm 32 (nadd (ln (none' Int)) (ln x.1))) (ob (sel (lt 0 (len x.1)) (ck (inB (i64 (isub (len x.1) 1)) (len x.1)) (some (lt 64 (nth x.1 (nat (i64 (isub (len x.1) 1))) 0),()))) (some (false,()))) fun (a:ta_)=>sel a.1 (ck (rm 32 (nadd (ln (app (none' Int) x.1)) (ln [1]))) (ck (band (inC 0 16 16) (rm 1 (nat 16))) (lc (loop (fun (x_1:tk_)=>sel (lt x_1.1 (len (app (app (none' Int) x.1) [1]))) (ck (inB x_1.1 (len (app (app (none' Int) x.1) [1]))) (ob (v6 (nth (app (app (none' Int) x.1) [1]) (nat x_1.1) 0,())) fun (a:tK_)=>ck (inB a.1 (len x_1.2.1)) (ck (inB a.1 (len x_1.2.1)) (some (LS.nx (i64 (iadd x_1.1 1),upd x_1.2.1 (nat a.1) (u8 (iadd (n8 (nth x_1.2.1 (nat a.1) (u8 0))) (n8 a.2.1))),())))))) (some (LS.ex 0 (x_1.1,x_1.2.1,())))) (0,rep (nat 16) (u8 0),())) (fun (a:tk_)=>none) (fun (i:Nat) (a:tk_)=>ck (neb i 0) (some (a.2.1,0,()))) fun (r:tb_)=>some r))) (ck (band (inC 0 8 8) (rm 1 (nat 8))) (lc (loop (fun (x_1:tk_)=>sel (lt x_1.1 (len (app (none' Int) x.1))) (ck (inB x_1.1 (len (app (none' Int) x.1))) (ob (v6 (nth (app (none' Int) x.1) (nat x_1.1) 0,())) fun (a:tK_)=>ck (inB a.1 (len x_1.2.1)) (ck (inB a.1 (len x_1.2.1)) (some (LS.nx (i64 (iadd x_1.1 1),upd x_1.2.1 (nat a.1) (u8 (iadd (n8 (nth x_1.2.1 (nat a.1) (u8 0))) (n8 a.2.1))),())))))) (some (LS.ex 0 (x_1.1,x_1.2.1,())))) (0,rep (nat 8) (u8 0),())) (fun (a:tk_)=>none) (fun (i:Nat) (a:tk_)=>ck (neb i 0) (some (a.2.1,0,()))) fun (r:tb_)=>some r))))
noncomputable def qh7 (x:tf_):Option (te_):=ob (j5 (x.1,4,())) fun (a:tb_)=>some (a.1,())
noncomputable def v5 (x:tj_):Option (tb_):=ob (qeH (x.1,())) fun (a:ta_)=>sel (bnot a.1) (some (none' UInt8,1,())) (lc (loop (fun (x_1:tX_)=>sel (lt x_1.2.2.1 (len x.1.2.1)) (ck (inB x_1.2.2.1 (len x.1.2.1)) (ck (inB x_1.2.2.1 (len x.1.2.1)) (ob (qaW ((nth x.1.2.1 (nat x_1.2.2.1) (0,none' UInt8,())).1,(nth x.1.2.1 (nat x_1.2.2.1) (0,none' UInt8,())).2.1,())) fun (a:tb_)=>ck (inB x_1.2.2.1 (len x.1.2.1)) (ck (rm 32 (nadd (ln x_1.1) (ln [(nth x.1.2.1 (nat x_1.2.2.1) (0,none' UInt8,())).1]))) (ck (rm 1 (nadd (ln x_1.2.1) (ln a.1))) (some (LS.nx (app x_1.1 [(nth x.1.2.1 (nat x_1.2.2.1) (0,none' UInt8,())).1],app x_1.2.1 a.1,i64 (iadd x_1.2.2.1 1),())))))))) (some (LS.ex 0 (x_1.1,x_1.2.1,x_1.2.2.1,())))) (none' Int,none' UInt8,0,())) (fun (a:tX_)=>none) (fun (i:Nat) (a:tX_)=>ck (neb i 0) (ob (qeI (a.1,())) fun (a_1:tb_)=>ob (qh7 (x.1.1,())) fun (a_2:te_)=>ob (vT (a_2.1,())) fun (a_3:tb_)=>ck (rm 1 (nadd (ln a_3.1) (ln a_1.1))) (ck (rm 1 (nadd (ln (app a_3.1 a_1.1)) (ln a.2.1))) (some (app (app a_3.1 a_1.1) a.2.1,0,()))))) fun (r:tb_)=>some r)
noncomputable def kQ (x:tb_):Option (ta_):=ob (v6 (x.2.1,())) fun (a:tK_)=>ck (inB a.1 (len x.1)) (some (bnot (beq (n8 (u8 (andI IntKind.u8 (n8 (nth x.1 (nat a.1) (u8 0))) (n8 a.2.1)))) (n8 (u8 0))),()))
noncomputable def qh8 (x:tb_):Option (tJ_):=ob (sel (lt x.2.1 0) (some (true,())) (some (lt (len x.1) x.2.1,()))) fun (a:ta_)=>sel a.1 (some (none' Int,0,1,())) (ck (inC x.2.1 (len x.1) (len x.1)) (sel (lt (len (sub x.1 x.2.1 (len x.1))) 8) (some (none' Int,0,3,())) (ob (kQ (sub x.1 x.2.1 (len x.1),1,())) fun (a:ta_)=>ob (sel a.1 (some (16,())) (some (8,()))) fun (a_1:tf_)=>sel (lt (len (sub x.1 x.2.1 (len x.1))) a_1.1) (some (none' Int,0,3,())) (lc (loop (fun (x_1:ty_)=>sel (le x_1.2.1 (i64 (imul 8 a_1.1))) (ob (kQ (sub x.1 x.2.1 (len x.1),x_1.2.1,())) fun (a:ta_)=>sel a.1 (ck (rm 32 (nadd (ln x_1.1) (ln [x_1.2.1]))) (some (LS.nx (app x_1.1 [x_1.2.1],i64 (iadd x_1.2.1 1),())))) (some (LS.nx (x_1.1,i64 (iadd x_1.2.1 1),())))) (some (LS.ex 0 (x_1.1,x_1.2.1,())))) (none' Int,2,())) (fun (a:ty_)=>none) (fun (i:Nat) (a_2:ty_)=>ck (neb i 0) (ob (sel a.1 (ob (kQ (sub x.1 x.2.1 (len x.1),65,())) fun (a:ta_)=>sel a.1 (some (true,())) (sel (beq (len a_2.1) 0) (some (true,())) (ck (inB (i64 (isub (len a_2.1) 1)) (len a_2.1)) (some (le (nth a_2.1 (nat (i64 (isub (len a_2.1) 1))) 0) 65,()))))) (some (false,()))) fun (a:ta_)=>sel a.1 (some (none' Int,0,2,())) (some (a_2.1,i64 (iadd x.2.1 a_1.1),0,())))) fun (r:tJ_)=>some r))))
noncomputable def qaI (x:te_):Option (td_):=sel (lt (len x.1) 2) (some ((0,none' (Int×BB×Unit),()),3,())) (ob (j3 (x.1,0,4,())) fun (a:tl_)=>ob (v7 (a.1,())) fun (a_1:tg_)=>ob (sel (bnot (beq a.2.2.1 0)) (some (true,())) (ob (qc1 (a_1.1,())) fun (a:ta_)=>some (bnot a.1,()))) fun (a:ta_)=>sel a.1 (some ((0,none' (Int×BB×Unit),()),2,())) (ob (qh8 (x.1,2,())) fun (a:tJ_)=>sel (bnot (beq a.2.2.1 0)) (some ((0,none' (Int×BB×Unit),()),a.2.2.1,())) (lc (loop (fun (x:tg_)=>sel (lt x.2.1 (len a.1)) (ck (inB x.2.1 (len a.1)) (ob (qeK (nth a.1 (nat x.2.1) 0,())) fun (a:tn_)=>sel (bnot a.2.1) (some (LS.rt ((0,none' (Int×BB×Unit),()),2,()))) (some (LS.nx (x.1,i64 (iadd x.2.1 1),()))))) (some (LS.ex 0 (x.1,x.2.1,())))) (0,0,())) (fun (a:tg_)=>none) (fun (i:Nat) (a_2:tg_)=>ck (neb i 0) (lc (loop (fun (x_1:tt_)=>sel (lt x_1.2.2.1 (len a.1)) (ck (inB x_1.2.2.1 (len a.1)) (ob (qh9 (nth a.1 (nat x_1.2.2.1) 0,x.1,x_1.2.1,())) fun (a_3:tl_)=>sel (bnot (beq a_3.2.2.1 0)) (some (LS.rt ((0,none' (Int×BB×Unit),()),a_3.2.2.1,()))) (ck (inB x_1.2.2.1 (len a.1)) (ck (rm 56 (nadd (ln x_1.2.2.2.1.2.1) (ln [(nth a.1 (nat x_1.2.2.1) 0,a_3.1,())]))) (some (LS.nx (x_1.1,a_3.2.1,i64 (iadd x_1.2.2.1 1),(x_1.2.2.2.1.1,app x_1.2.2.2.1.2.1 [(nth a.1 (nat x_1.2.2.1) 0,a_3.1,())],x_1.2.2.2.1.2.2),()))))))) (some (LS.ex 2 (x_1.1,x_1.2.1,x_1.2.2.1,(x_1.2.2.2.1.1,x_1.2.2.2.1.2.1,x_1.2.2.2.1.2.2),())))) (a_2.1,a.2.1,0,(a_1.1,none' (Int×BB×Unit),()),())) (fun (a:Int×Int
 × Int×(Int×List (Int×BB×Unit)×Unit)×Unit)=>none) (fun (i:Nat) (a:tt_)=>ck (neb i 2) (sel (lt a.2.1 (len x.1)) (some ((0,none' (Int×BB×Unit),()),4,())) (some ((a.2.2.2.1.1,a.2.2.2.1.2.1,a.2.2.2.1.2.2),0,())))) fun (r:td_)=>some r)) fun (r:td_)=>some r)))
noncomputable def kP (x:td_):Option (tr_):=lc (loop (fun (x_1:tc_)=>sel (lt x_1.2.1 (len x.1.2.1)) (ck (inB x_1.2.1 (len x.1.2.1)) (sel (beq (nth x.1.2.1 (nat x_1.2.1) (0,none' UInt8,())).1 x.2.1) (ck (inB x_1.2.1 (len x.1.2.1)) (some (LS.rt ((nth x.1.2.1 (nat x_1.2.1) (0,none' UInt8,())).2.1,true,())))) (some (LS.nx (x_1.1,i64 (iadd x_1.2.1 1),()))))) (some (LS.ex 0 (x_1.1,x_1.2.1,())))) (false,0,())) (fun (a:tc_)=>none) (fun (i:Nat) (a:tc_)=>ck (neb i 0) (some (none' UInt8,false,()))) fun (r:tr_)=>some r
noncomputable def qjU (x:ti_):Option (ta_):=some (false,())
noncomputable def qqR (x:ti_):Option (Nat×Unit):=ob (sel (beq x.1.2.1 101) (some (x.1.1,())) (some (false,()))) fun (a:ta_)=>sel a.1 (some (1,())) (ob (sel (beq x.1.2.1 201) (some (x.1.1,())) (some (false,()))) fun (a:ta_)=>sel a.1 (some (2,())) (ob (sel (beq x.1.2.1 1) (some (true,())) (sel (beq x.1.2.1 2) (some (true,())) (sel (beq x.1.2.1 101) (some (true,())) (sel (beq x.1.2.1 201) (some (true,())) (some (beq x.1.2.1 301,())))))) fun (a:ta_)=>sel a.1 (some (3,())) (some (4,()))))
noncomputable def qdG (x:ti_):Option (ta_):=ob (sel (lt x.1.2.2.1 1) (some (true,())) (sel (lt 999999 x.1.2.2.1) (some (true,())) (sel (lt x.1.2.2.2.1 0) (some (true,())) (sel (lt 99 x.1.2.2.2.1) (some (true,())) (sel x.1.1 (some (lt 0 x.1.2.2.2.1,())) (some (false,()))))))) fun (a:ta_)=>sel a.1 (some (false,())) (ob (qqR (x.1,())) fun (a:Nat×Unit)=>sel (neb a.1 1) (ob (qa4 (x.1,())) fun (a:ta_)=>some (a.1,())) (sel (neb (nsub a.1 1) 1) (ob (qa5 (x.1,())) fun (a:ta_)=>some (a.1,())) (sel (neb (nsub (nsub a.1 1) 1) 1) (ob (y8 (x.1,())) fun (a:ta_)=>some (a.1,())) (ck (neb (nsub (nsub (nsub a.1 1) 1) 1) 1) (ob (qjU (x.1,())) fun (a:ta_)=>some (a.1,()))))))
noncomputable def zY (x:tg_):Option (te_):=ob (x6 (x.1,x.2.1,())) fun (a:tb_)=>ck (rm 1 (ln a.1)) (some (a.1,()))
noncomputable def kD (x:ti_):Option (tj_):=ob (zY (x.1.2.2.1,6,())) fun (a:te_)=>ob (jR ((810,none' (Int×BB×Unit),()),11,a.1,())) fun (a:td_)=>ob (zY (x.1.2.1,3,())) fun (a_1:te_)=>ob (jR (a.1,70,a_1.1,())) fun (a:td_)=>sel (bnot x.1.1) (ob (zY (x.1.2.2.2.1,2,())) fun (a_2:te_)=>ob (jR (a.1,39,a_2.1,())) fun (a:td_)=>some (a.1,())) (sel (beq x.1.2.1 101) (ob (qrF (x.1.2.2.2.2.2.2.1,())) fun (a_2:te_)=>ck (rm 1 (ln a_2.1)) (ob (jR ((800,a.1.2),48,a_2.1,())) fun (a:td_)=>ob (zY (x.1.2.2.2.2.1,16,())) fun (a_3:te_)=>ob (jR (a.1,53,a_3.1,())) fun (a:td_)=>ob (jR (a.1,96,x.1.2.2.2.2.2.1,())) fun (a:td_)=>some (a.1,()))) (sel (beq x.1.2.1 201) (ob (zY (x.1.2.2.2.2.2.2.2.1,6,())) fun (a_2:te_)=>ob (jR ((800,a.1.2),15,a_2.1,())) fun (a:td_)=>some (a.1,())) (some ((800,a.1.2),()))))
noncomputable def qaK (x:ti_):Option (tb_):=ob (qdG (x.1,())) fun (a:ta_)=>sel (bnot a.1) (some (none' UInt8,1,())) (ob (kD (x.1,())) fun (a:tj_)=>ob (qbA (a.1,())) fun (a:tb_)=>some (a.1,a.2.1,()))
noncomputable def qa7 (x:tp_):Option (tp_):=sel (bnot x.1.1) (some ((false,0,0,0,0,none' UInt8,none' UInt8,0,()),9,())) (ob (sel (lt x.2.1 0) (some (true,())) (some (lt 99 x.2.1,()))) fun (a:ta_)=>sel a.1 (some ((false,0,0,0,0,none' UInt8,none' UInt8,0,()),1,())) (some ((false,x.1.2.1,x.1.2.2.1,x.2.1,0,none' UInt8,none' UInt8,0,()),0,())))
noncomputable def qk8 (x:te_):Option (tp_):=ob (qlJ (x.1,())) fun (a:td_)=>sel (bnot (beq a.2.1 0)) (some ((false,0,0,0,0,none' UInt8,none' UInt8,0,()),a.2.1,())) (ob (yX (a.1,70,())) fun (a_1:tr_)=>ob (vG (a_1.1,())) fun (a_2:tg_)=>ob (yX (a.1,11,())) fun (a_3:tr_)=>ob (vG (a_3.1,())) fun (a_4:tg_)=>ob (yX (a.1,39,())) fun (a_5:tr_)=>ob (vG (a_5.1,())) fun (a_6:tg_)=>ob (yX (a.1,53,())) fun (a_7:tr_)=>ob (vG (a_7.1,())) fun (a_8:tg_)=>ob (yX (a.1,15,())) fun (a_9:tr_)=>ob (vG (a_9.1,())) fun (a_10:tg_)=>ob (yX (a.1,96,())) fun (a_11:tr_)=>ob (yX (a.1,48,())) fun (a_12:tr_)=>ob (qhC (a_12.1,())) fun (a_13:tb_)=>ob (qdG ((beq a.1.1 800,a_2.1,a_4.1,a_6.1,a_8.1,a_11.1,a_13.1,a_10.1,()),())) fun (a_14:ta_)=>sel (bnot a_14.1) (some ((false,0,0,0,0,none' UInt8,none' UInt8,0,()),2,())) (ob (kD ((beq a.1.1 800,a_2.1,a_4.1,a_6.1,a_8.1,a_11.1,a_13.1,a_10.1,()),())) fun (a_15:tj_)=>ob (qlG (a_15.1,a.1,())) fun (a_16:ta_)=>sel (bnot a_16.1) (some ((false,0,0,0,0,none' UInt8,none' UInt8,0,()),2,())) (some ((beq a.1.1 800,a_2.1,a_4.1,a_6.1,a_8.1,a_11.1,a_13.1,a_10.1,()),0,()))))
noncomputable def qeE (x:tf_):Option (ta_):=ob (sel (beq x.1 1) (some (true,())) (sel (beq x.1 2) (some (true,())) (sel (beq x.1 101) (some (true,())) (sel (beq x.1 201) (some (true,())) (some (beq x.1 301,())))))) fun (a:ta_)=>some (a.1,())
noncomputable def qeD (x:ti_):Option (ta_):=ob (qeE (x.1.2.1,())) fun (a:ta_)=>ob (sel (bnot a.1) (some (true,())) (sel (lt x.1.2.2.1 1) (some (true,())) (sel (lt 999999 x.1.2.2.1) (some (true,())) (sel (lt x.1.2.2.2.1 0) (some (true,())) (sel (lt 99 x.1.2.2.2.1) (some (true,())) (sel x.1.1 (some (bnot (beq x.1.2.2.2.1 0),())) (some (false,())))))))) fun (a:ta_)=>sel a.1 (some (false,())) (ob (sel x.1.1 (some (beq x.1.2.1 101,())) (some (false,()))) fun (a:ta_)=>sel a.1 (ob (sel (le 1 x.1.2.2.2.2.1) (sel (le x.1.2.2.2.2.1 2147483647) (sel (beq (len x.1.2.2.2.2.2.1) 8) (sel (beq (len x.1.2.2.2.2.2.2.1) 3) (some (beq x.1.2.2.2.2.2.2.2.1 0,())) (some (false,()))) (some (false,()))) (some (false,()))) (some (false,()))) fun (a:ta_)=>some (a.1,())) (ob (sel (bnot (beq x.1.2.2.2.2.1 0)) (some (true,())) (sel (bnot (beq (len x.1.2.2.2.2.2.1) 0)) (some (true,())) (some (bnot (beq (len x.1.2.2.2.2.2.2.1) 0),())))) fun (a:ta_)=>sel a.1 (some (false,())) (ob (sel x.1.1 (some (beq x.1.2.1 201,())) (some (false,()))) fun (a:ta_)=>sel a.1 (ob (sel (le 0 x.1.2.2.2.2.2.2.2.1) (some (le x.1.2.2.2.2.2.2.2.1 999999,())) (some (false,()))) fun (a:ta_)=>some (a.1,())) (some (beq x.1.2.2.2.2.2.2.2.1 0,())))))
noncomputable def qW (x:tg_):Option (te_):=ob (j5 (x.1,x.2.1,())) fun (a:tb_)=>ck (rm 1 (ln a.1)) (some (a.1,()))
noncomputable def wZ (x:ti_):Option (tj_):=ob (qW (x.1.2.2.1,6,())) fun (a:te_)=>sel (bnot x.1.1) (ob (qW (x.1.2.2.2.1,2,())) fun (a_1:te_)=>ob (qW (x.1.2.1,3,())) fun (a_2:te_)=>ck (rm 56 (nadd (ln [(11,a.1,())]) (ln [(39,a_1.1,()),(70,a_2.1,())]))) (some ((810,app [(11,a.1,())] [(39,a_1.1,()),(70,a_2.1,())],()),()))) (sel (beq x.1.2.1 201) (ob (qW (x.1.2.2.2.2.2.2.2.1,6,())) fun (a_1:te_)=>ck (rm 56 (nadd (ln [(11,a.1,())]) (ln [(15,a_1.1,())]))) (sel (beq x.1.2.1 101) (ob (qgJ (x.1.2.2.2.2.2.2.1,())) fun (a_2:te_)=>ck (rm 1 (ln a_2.1)) (ob (qW (x.1.2.2.2.2.1,16,())) fun (a_3:te_)=>ck (rm 56 (nadd (ln (app [(11,a.1,())] [(15,a_1.1,())])) (ln [(48,a_2.1,()),(53,a_3.1,())]))) (ob (qW (x.1.2.1,3,())) fun (a_4:te_)=>ck (rm 56 (nadd (ln (app (app [(11,a.1,())] [(15,a_1.1,())]) [(48,a_2.1,()),(53,a_3.1,())])) (ln [(70,a_4.1,())]))) (sel (beq x.1.2.1 101) (ck (rm 56 (nadd (ln (app (app (app [(11,a.1,())] [(15,a_1.1,())]) [(48,a_2.1,()),(53,a_3.1,())]) [(70,a_4.1,())])) (ln [(96,x.1.2.2.2.2.2.1,())]))) (some ((800,app (app (app (app [(11,a.1,())] [(15,a_1.1,())]) [(48,a_2.1,()),(53,a_3.1,())]) [(70,a_4.1,())]) [(96,x.1.2.2.2.2.2.1,())],()),()))) (some ((800,app (app (app [(11,a.1,())] [(15,a_1.1,())]) [(48,a_2.1,()),(53,a_3.1,())]) [(70,a_4.1,())],()),())))))) (ob (qW (x.1.2.1,3,())) fun (a_2:te_)=>ck (rm 56 (nadd (ln (app [(11,a.1,())] [(15,a_1.1,())])) (ln [(70,a_2.1,())]))) (sel (beq x.1.2.1 101) (ck (rm 56 (nadd (ln (app (app [(11,a.1,())] [(15,a_1.1,())]) [(70,a_2.1,())])) (ln [(96,x.1.2.2.2.2.2.1,
 ())]))) (some ((800,app (app (app [(11,a.1,())] [(15,a_1.1,())]) [(70,a_2.1,())]) [(96,x.1.2.2.2.2.2.1,())],()),()))) (some ((800,app (app [(11,a.1,())] [(15,a_1.1,())]) [(70,a_2.1,())],()),())))))) (sel (beq x.1.2.1 101) (ob (qgJ (x.1.2.2.2.2.2.2.1,())) fun (a_1:te_)=>ck (rm 1 (ln a_1.1)) (ob (qW (x.1.2.2.2.2.1,16,())) fun (a_2:te_)=>ck (rm 56 (nadd (ln [(11,a.1,())]) (ln [(48,a_1.1,()),(53,a_2.1,())]))) (ob (qW (x.1.2.1,3,())) fun (a_3:te_)=>ck (rm 56 (nadd (ln (app [(11,a.1,())] [(48,a_1.1,()),(53,a_2.1,())])) (ln [(70,a_3.1,())]))) (sel (beq x.1.2.1 101) (ck (rm 56 (nadd (ln (app (app [(11,a.1,())] [(48,a_1.1,()),(53,a_2.1,())]) [(70,a_3.1,())])) (ln [(96,x.1.2.2.2.2.2.1,())]))) (some ((800,app (app (app [(11,a.1,())] [(48,a_1.1,()),(53,a_2.1,())]) [(70,a_3.1,())]) [(96,x.1.2.2.2.2.2.1,())],()),()))) (some ((800,app (app [(11,a.1,())] [(48,a_1.1,()),(53,a_2.1,())]) [(70,a_3.1,())],()),())))))) (ob (qW (x.1.2.1,3,())) fun (a_1:te_)=>ck (rm 56 (nadd (ln [(11,a.1,())]) (ln [(70,a_1.1,())]))) (sel (beq x.1.2.1 101) (ck (rm 56 (nadd (ln (app [(11,a.1,())] [(70,a_1.1,())])) (ln [(96,x.1.2.2.2.2.2.1,())]))) (some ((800,app (app [(11,a.1,())] [(70,a_1.1,())]) [(96,x.1.2.2.2.2.2.1,())],()),()))) (some ((800,app [(11,a.1,())] [(70,a_1.1,())],()),()))))))
noncomputable def qeC (x:ti_):Option (tb_):=ob (qeD (x.1,())) fun (a:ta_)=>sel (bnot a.1) (some (none' UInt8,1,())) (ob (wZ (x.1,())) fun (a:tj_)=>ob (v5 (a.1,())) fun (a:tb_)=>some (a.1,0,()))
noncomputable def xR (x:td_):Option (tf_):=ob (kP (x.1,x.2.1,())) fun (a:tr_)=>ob (v7 (a.1,())) fun (a:tg_)=>some (a.1,())
noncomputable def yQ (x:te_):Option (tp_):=ob (qaI (x.1,())) fun (a:td_)=>sel (bnot (beq a.2.1 0)) (some ((false,0,0,0,0,none' UInt8,none' UInt8,0,()),a.2.1,())) (ob (kP (a.1,96,())) fun (a_1:tr_)=>ob (kP (a.1,48,())) fun (a_2:tr_)=>ob (qaY (a_2.1,())) fun (a_3:tb_)=>ob (xR (a.1,70,())) fun (a_4:tf_)=>ob (xR (a.1,11,())) fun (a_5:tf_)=>ob (xR (a.1,39,())) fun (a_6:tf_)=>ob (xR (a.1,53,())) fun (a_7:tf_)=>ob (xR (a.1,15,())) fun (a_8:tf_)=>ob (qeC ((beq a.1.1 800,a_4.1,a_5.1,a_6.1,a_7.1,a_1.1,a_3.1,a_8.1,()),())) fun (a_9:tb_)=>ob (sel (bnot (beq a_9.2.1 0)) (some (true,())) (ob (z1 (a_9.1,x.1,())) fun (a:ta_)=>some (bnot a.1,()))) fun (a_10:ta_)=>sel a_10.1 (some ((false,0,0,0,0,none' UInt8,none' UInt8,0,()),2,())) (some ((beq a.1.1 800,a_4.1,a_5.1,a_6.1,a_7.1,a_1.1,a_3.1,a_8.1,()),0,())))
end Yp
namespace Yp
abbrev qdZ:=(Int×BB×Unit)×(Int×BB×Unit)×(Int×BB×Unit)×Int×Int×Unit
abbrev THub:=List Bool×List (BB×Int×Int×Unit)×List Int×Int×Unit
abbrev wO:=Bool×List (BB×BB×Unit)×Bool×Unit
abbrev TAsk:=Int×Int×Int×Int×BB×Unit
abbrev v8:=Bool×Int×Int×Int×Int×BB×BB×Int×Unit
abbrev TEnv:=Int×Int×List Int×Int×Int×BB×BB×Unit
abbrev TEnd:=Int×BB×Int×(BB×BB×Unit)×Int×Int×Int×Int×Int×(Int×List UInt64×Unit)×qdZ×TAsk×Int×Int×List BB×THub×List (Int×BB×Unit)×List (Int×List Int×Int×BB×Unit)×List Int×Unit
abbrev y5:=TEnd×wO×Unit
end Yp
namespace Yp
abbrev Ta_:=y5×Unit
abbrev Tb_:=y5×Int×Unit
abbrev Tc_:=Int×y5×Unit
abbrev Td_:=qdZ×Int×Unit
abbrev Te_:=y5×TEnv×Int×Unit
abbrev Tf_:=THub×Int×Int×Unit
abbrev Tg_:=v8×Int×Unit
abbrev Th_:=wO×BB×BB×Unit
abbrev Ti_:=TEnv×Unit
abbrev Tj_:=y5×v8×Unit
abbrev Tk_:=TEnd×Unit
abbrev Tl_:=wO×Bool×Unit
end Yp
namespace Yp
open Go
noncomputable def qbJ (x:te_):Option (te_):=ck (rm 1 (ln x.1)) (some (x.1,()))
noncomputable def kK (x:t6_):Option (t6_):=ck (rm 32 (ln x.1)) (some (x.1,()))
noncomputable def qo7 (x:Th_):Option (ta_):=some (x.1.2.1.any fun e=>band (seq x.2.1 e.1) (seq x.2.2.1 e.2.1),())
noncomputable def qc8 (x:List BB×List BB×Int×Unit):Option (List BB×Int×Int×Unit):=if x.2.2.1 < 1∨64 < x.2.2.1 then some (x.1,0,1,()) else if x.2.2.1 < (x.1.length:Int) then some (x.1,0,0,()) else some (x.1++x.2.1.take (x.2.2.1.toNat - x.1.length),((min (x.2.2.1.toNat - x.1.length) x.2.1.length:Nat):Int),0,())
noncomputable def qa9 (x:Int×List Int×Unit):Option (ta_):=lc (loop (fun (x_1:tc_)=>sel (lt x_1.2.1 (len x.2.1)) (ck (inB x_1.2.1 (len x.2.1)) (ob (sel (lt (nth x.2.1 (nat x_1.2.1) 0) 0) (some (true,())) (some (lt x.1 (nth x.2.1 (nat x_1.2.1) 0),()))) fun (a:ta_)=>sel a.1 (some (LS.rt (false,()))) (some (LS.nx (x_1.1,i64 (iadd x_1.2.1 1),()))))) (some (LS.ex 0 (x_1.1,x_1.2.1,())))) (false,0,())) (fun (a:tc_)=>none) (fun (i:Nat) (a:tc_)=>ck (neb i 0) (some (true,()))) fun (r:ta_)=>some r
noncomputable def kY (x:Tk_):Option (tB_):=ob (qa9 (1,[x.1.1],())) fun (a:ta_)=>sel a.1 (ck (inB x.1.1 (ofn 2)) (ck (inB (i64 (isub 1 x.1.1)) (ofn 2)) (some (upd (upd [0,0] (nat x.1.1) x.1.2.2.2.2.2.1) (nat (i64 (isub 1 x.1.1))) x.1.2.2.2.2.2.2.1,())))) (some ([0,0],()))
noncomputable def qgU (x:te_):Option (ta_):=ob (sel (le 1 (len x.1)) (some (le (len x.1) 900,())) (some (false,()))) fun (a:ta_)=>some (a.1,())
noncomputable def yU (x:tf_):Option (tf_):=sel (beq x.1 0) (some (0,())) (sel (beq x.1 1) (some (1,())) (sel (beq x.1 2) (some (2,())) (sel (beq x.1 3) (some (3,())) (sel (beq x.1 4) (sel (beq x.1 4) (some (4,())) (sel (beq x.1 6) (some (5,())) (some (-1,())))) (sel (beq x.1 5) (some (4,())) (sel (beq x.1 6) (some (5,())) (some (-1,()))))))))
noncomputable def qbP (x:tf_):Option (ta_):=ob (yU (x.1,())) fun (a:tf_)=>some (le 2 a.1,())
noncomputable def qpD (x:THub×Unit):Option (Tf_):=lc (loop (fun (x_1:tM_)=>sel (lt x_1.2.2.1 4) (ck (inB (imod (i64 (iadd x.1.2.2.2.1 x_1.2.2.1)) 4) (ofn 4)) (sel (nth x.1.1 (nat (imod (i64 (iadd x.1.2.2.2.1 x_1.2.2.1)) 4)) false) (some (LS.rt ((x.1.1,x.1.2.1,x.1.2.2.1,imod (i64 (iadd (imod (i64 (iadd x.1.2.2.2.1 x_1.2.2.1)) 4) 1)) 4,x.1.2.2.2.2),imod (i64 (iadd x.1.2.2.2.1 x_1.2.2.1)) 4,0,()))) (some (LS.nx (x_1.1,x_1.2.1,i64 (iadd x_1.2.2.1 1),()))))) (some (LS.ex 0 (x_1.1,x_1.2.1,x_1.2.2.1,())))) (0,0,0,())) (fun (a:tM_)=>none) (fun (i:Nat) (a:tM_)=>ck (neb i 0) (some (x.1,0,11,()))) fun (r:Tf_)=>some r
noncomputable def qaM (x:tg_):Option (ta_):=ob (sel (le 0 x.1) (some (le x.1 x.2.1,())) (some (false,()))) fun (a:ta_)=>some (a.1,())
noncomputable def qhA (x:Ti_):Option (ta_):=ob (sel (bnot (beq x.1.1 1)) (some (bnot (beq x.1.1 2),())) (some (false,()))) fun (a:ta_)=>sel a.1 (some (false,())) (ck (inB 0 (ofn 2)) (ck (inB 1 (ofn 2)) (lc (loop (fun (x_1:tc_)=>sel (lt x_1.2.1 3) (ck (inB x_1.2.1 (ofn 3)) (ob (qaM (nth [nth x.1.2.2.1 (nat 0) 0,nth x.1.2.2.1 (nat 1) 0,x.1.2.2.2.2.1] (nat x_1.2.1) 0,4611686018427387904,())) fun (a:ta_)=>sel (bnot a.1) (some (LS.rt (false,()))) (some (LS.nx (x_1.1,i64 (iadd x_1.2.1 1),()))))) (some (LS.ex 0 (x_1.1,x_1.2.1,())))) (false,0,())) (fun (a:tc_)=>none) (fun (i:Nat) (a:tc_)=>ck (neb i 0) (ob (qaM (x.1.2.1,1,())) fun (a:ta_)=>ob (sel a.1 (ob (qaM (x.1.2.2.2.1,2147483647,())) fun (a:ta_)=>sel a.1 (sel (le 1 (len x.1.2.2.2.2.2.1)) (some (le (len x.1.2.2.2.2.2.1) 900,())) (some (false,()))) (some (false,()))) (some (false,()))) fun (a:ta_)=>some (a.1,()))) fun (r:ta_)=>some r)))
noncomputable def qhB (x:Ti_):Option (tb_):=ob (qhA (x.1,())) fun (a:ta_)=>sel (bnot a.1) (some (none' UInt8,1,())) (lc (loop (fun (x_1:tk_)=>sel (lt x_1.1 (len [x.1.1,x.1.2.1])) (ck (inB x_1.1 (len [x.1.1,x.1.2.1])) (ob (qe6 (nth [x.1.1,x.1.2.1] (nat x_1.1) 0,1,())) fun (a:tb_)=>ck (rm 1 (nadd (ln x_1.2.1) (ln a.1))) (some (LS.nx (i64 (iadd x_1.1 1),app x_1.2.1 a.1,()))))) (some (LS.ex 0 (x_1.1,x_1.2.1,())))) (0,none' UInt8,())) (fun (a:tk_)=>none) (fun (i:Nat) (a:tk_)=>ck (neb i 0) (ck (inB 0 (ofn 2)) (ck (inB 1 (ofn 2)) (lc (loop (fun (x_1:tk_)=>sel (lt x_1.1 (len [nth x.1.2.2.1 (nat 0) 0,nth x.1.2.2.1 (nat 1) 0])) (ck (inB x_1.1 (len [nth x.1.2.2.1 (nat 0) 0,nth x.1.2.2.1 (nat 1) 0])) (ob (qe6 (nth [nth x.1.2.2.1 (nat 0) 0,nth x.1.2.2.1 (nat 1) 0] (nat x_1.1) 0,8,())) fun (a:tb_)=>ck (rm 1 (nadd (ln x_1.2.1) (ln a.1))) (some (LS.nx (i64 (iadd x_1.1 1),app x_1.2.1 a.1,()))))) (some (LS.ex 0 (x_1.1,x_1.2.1,())))) (0,a.2.1,())) (fun (a:tk_)=>none) (fun (i:Nat) (a:tk_)=>ck (neb i 0) (lc (loop (fun (x_1:tk_)=>sel (lt x_1.1 (len [x.1.2.2.2.1])) (ck (inB x_1.1 (len [x.1.2.2.2.1])) (ob (qe6 (nth [x.1.2.2.2.1] (nat x_1.1) 0,4,())) fun (a:tb_)=>ck (rm 1 (nadd (ln x_1.2.1) (ln a.1))) (some (LS.nx (i64 (iadd x_1.1 1),app x_1.2.1 a.1,()))))) (some (LS.ex 0 (x_1.1,x_1.2.1,())))) (0,a.2.1,())) (fun (a:tk_)=>none) (fun (i:Nat) (a:tk_)=>ck (neb i 0) (lc (loop (fun (x_1:tk_)=>sel (lt x_1.1 (len [x.1.2.2.2.2.1])) (ck (inB x_1.1 (len [x.1.2.2.2.2.1])) (ob (qe6 (nth [x.1.2.2.2.2.1] (nat x_1.1) 0,8,())) fun (a:tb_)=>ck (rm 1 (nadd (ln
 x_1.2.1) (ln a.1))) (some (LS.nx (i64 (iadd x_1.1 1),app x_1.2.1 a.1,()))))) (some (LS.ex 0 (x_1.1,x_1.2.1,())))) (0,a.2.1,())) (fun (a:tk_)=>none) (fun (i:Nat) (a:tk_)=>ck (neb i 0) (ck (rm 1 (nadd (ln a.2.1) (ln x.1.2.2.2.2.2.1))) (some (app a.2.1 x.1.2.2.2.2.2.1,0,())))) fun (r:Unit)=>none)) fun (r:Unit)=>none)) fun (r:Unit)=>none)))) fun (r:Unit)=>none)
noncomputable def qeT (x:tT_):Option (ta_):=sel (bnot (beq (len x.1) (len x.2.1))) (some (false,())) (lc (loop (fun (x_1:t5_)=>sel (lt x_1.2.1 (len x.1)) (ck (inB x_1.2.1 (len x.1)) (ck (inB x_1.2.1 (len x.2.1)) (some (LS.nx (u8 (orI IntKind.u8 (n8 x_1.1) (n8 (u8 (xorI IntKind.u8 (n8 (nth x.1 (nat x_1.2.1) (u8 0))) (n8 (nth x.2.1 (nat x_1.2.1) (u8 0))))))),i64 (iadd x_1.2.1 1),()))))) (some (LS.ex 0 (x_1.1,x_1.2.1,())))) (u8 0,0,())) (fun (a:t5_)=>none) (fun (i:Nat) (a:t5_)=>ck (neb i 0) (some (beq (n8 a.1) (n8 (u8 0)),()))) fun (r:ta_)=>some r)
noncomputable def zP (x:tV_):Option (tV_):=ck (band (inC 0 (len x.1) (len x.1)) (beq (len x.1) (len x.1))) (some (sub x.1 0 (len x.1),()))
noncomputable def qI (x:UInt32×Int×Unit):Option (tu_):=some (u32 (orI IntKind.u32 (n32 (u32 (shlI IntKind.u32 (n32 x.1) (n64 (u64 (andI IntKind.u64 (n64 (u64 x.2.1)) (n64 (u64 31)))))))) (n32 (u32 (shrI IntKind.u32 (n32 x.1) (n64 (u64 (isub (n64 (u64 32)) (n64 (u64 (andI IntKind.u64 (n64 (u64 x.2.1)) (n64 (u64 31)))))))))))),())
noncomputable def qhT (x:te_):Option (tz_):=lc (loop (fun (x_1:tm_)=>sel (lt x_1.1 64) (sel (lt x_1.1 16) (ck (inB (i64 (imul 4 x_1.1)) (len x.1)) (ck (inB (i64 (iadd (i64 (imul 4 x_1.1)) 1)) (len x.1)) (ck (inB (i64 (iadd (i64 (imul 4 x_1.1)) 2)) (len x.1)) (ck (inB (i64 (iadd (i64 (imul 4 x_1.1)) 3)) (len x.1)) (ck (inB x_1.1 (ofn 64)) (some (LS.nx (i64 (iadd x_1.1 1),upd x_1.2.1 (nat x_1.1) (u32 (orI IntKind.u32 (n32 (u32 (orI IntKind.u32 (n32 (u32 (orI IntKind.u32 (n32 (u32 (shlI IntKind.u32 (n32 (u32 (n8 (nth x.1 (nat (i64 (imul 4 x_1.1))) (u8 0))))) (n64 (u64 24))))) (n32 (u32 (shlI IntKind.u32 (n32 (u32 (n8 (nth x.1 (nat (i64 (iadd (i64 (imul 4 x_1.1)) 1))) (u8 0))))) (n64 (u64 16)))))))) (n32 (u32 (shlI IntKind.u32 (n32 (u32 (n8 (nth x.1 (nat (i64 (iadd (i64 (imul 4 x_1.1)) 2))) (u8 0))))) (n64 (u64 8)))))))) (n32 (u32 (n8 (nth x.1 (nat (i64 (iadd (i64 (imul 4 x_1.1)) 3))) (u8 0))))))),())))))))) (ck (inB (i64 (isub x_1.1 15)) (ofn 64)) (ck (inB (i64 (isub x_1.1 2)) (ofn 64)) (ob (qI (nth x_1.2.1 (nat (i64 (isub x_1.1 15))) (u32 0), -7,())) fun (a:tu_)=>ob (qI (nth x_1.2.1 (nat (i64 (isub x_1.1 15))) (u32 0), -18,())) fun (a_1:tu_)=>ob (qI (nth x_1.2.1 (nat (i64 (isub x_1.1 2))) (u32 0), -17,())) fun (a_2:tu_)=>ob (qI (nth x_1.2.1 (nat (i64 (isub x_1.1 2))) (u32 0), -19,())) fun (a_3:tu_)=>ck (inB (i64 (isub x_1.1 7)) (ofn 64)) (ck (inB (i64 (isub x_1.1 16)) (ofn 64)) (ck (inB x_1.1 (ofn 64)) (some (LS.nx (i64 (iadd x_1.1 1),upd x_1.2.1 (nat x_1.1) (u32 (iadd (n32 (u32 (iadd (n32 (u32 (iadd (n32 (u32 (xorI IntKind.u32 (n32 (u32 (xorI IntKind.u32 (n32 a_2.1) (n32 a_3.1)))) (n32 (u32 (shrI IntKind.u32 (n32 (nth x_1.2.1 (nat (i64 (isub x_1.1 2))) (u32 0))) (n64 (u64 10)))))))) (n32 (nth x_1.2.1 (nat (i64 (isub x_1.1 7))) (u32 0)))))) (n32 (u32 (xorI
 IntKind.u32 (n32 (u32 (xorI IntKind.u32 (n32 a.1) (n32 a_1.1)))) (n32 (u32 (shrI IntKind.u32 (n32 (nth x_1.2.1 (nat (i64 (isub x_1.1 15))) (u32 0))) (n64 (u64 3))))))))))) (n32 (nth x_1.2.1 (nat (i64 (isub x_1.1 16))) (u32 0))))),()))))))))) (some (LS.ex 0 (x_1.1,x_1.2.1,())))) (0,[u32 0,u32 0,u32 0,u32 0,u32 0,u32 0,u32 0,u32 0,u32 0,u32 0,u32 0,u32 0,u32 0,u32 0,u32 0,u32 0,u32 0,u32 0,u32 0,u32 0,u32 0,u32 0,u32 0,u32 0,u32 0,u32 0,u32 0,u32 0,u32 0,u32 0,u32 0,u32 0,u32 0,u32 0,u32 0,u32 0,u32 0,u32 0,u32 0,u32 0,u32 0,u32 0,u32 0,u32 0,u32 0,u32 0,u32 0,u32 0,u32 0,u32 0,u32 0,u32 0,u32 0,u32 0,u32 0,u32 0,u32 0,u32 0,u32 0,u32 0,u32 0,u32 0,u32 0,u32 0],())) (fun (a:tm_)=>none) (fun (i:Nat) (a:tm_)=>ck (neb i 0) (some (a.2.1,()))) fun (r:tz_)=>some r
noncomputable def qf0 (x:List UInt32×BB×Unit):Option (tP_):=sel (bnot (beq (len x.2.1) 64)) (some (x.1,1,())) (ob (qhT (x.2.1,())) fun (a:tz_)=>lc (loop (fun (x:tm_)=>sel (lt x.1 64) (ck (inB x.1 (ofn 64)) (ck (inB 0 (ofn 8)) (ck (inB 4 (ofn 8)) (ob (qI (nth x.2.1 (nat 4) (u32 0), -6,())) fun (a_1:tu_)=>ob (qI (nth x.2.1 (nat 4) (u32 0), -11,())) fun (a_2:tu_)=>ob (qI (nth x.2.1 (nat 4) (u32 0), -25,())) fun (a_3:tu_)=>ob (qI (nth x.2.1 (nat 0) (u32 0), -2,())) fun (a_4:tu_)=>ob (qI (nth x.2.1 (nat 0) (u32 0), -13,())) fun (a_5:tu_)=>ob (qI (nth x.2.1 (nat 0) (u32 0), -22,())) fun (a_6:tu_)=>ck (inB 7 (ofn 8)) (ck (inB 5 (ofn 8)) (ck (inB 6 (ofn 8)) (ck (inB x.1 (ofn 64)) (ck (inB 1 (ofn 8)) (ck (inB 2 (ofn 8)) (ck (inB 1 (ofn 8)) (ck (inB 2 (ofn 8)) (ck (inC 1 (ofn 8) (ofn 8)) (ck (inC 0 7 (ofn 8)) (ck (inB 4 (ofn 8)) (ck (inB 4 (ofn 8)) (ck (inB 0 (ofn 8)) (some (LS.nx (i64 (iadd x.1 1),upd (upd (cpy x.2.1 (nat 1) (nsub (nat (ofn 8)) (nat 1)) (cut x.2.1 (nat 0) (nsub (nat 7) (nat 0)))) (nat 4) (u32 (iadd (n32 (nth (cpy x.2.1 (nat 1) (nsub (nat (ofn 8)) (nat 1)) (cut x.2.1 (nat 0) (nsub (nat 7) (nat 0)))) (nat 4) (u32 0))) (n32 (u32 (iadd (n32 (u32 (iadd (n32 (u32 (iadd (n32 (u32 (iadd (n32 (nth x.2.1 (nat 7) (u32 0))) (n32 (u32 (xorI IntKind.u32 (n32 (u32 (xorI IntKind.u32 (n32 a_1.1) (n32 a_2.1)))) (n32 a_3.1))))))) (n32 (u32 (xorI IntKind.u32 (n32 (u32 (andI IntKind.u32 (n32 (nth x.2.1 (nat 4) (u32 0))) (n32 (nth x.2.1 (nat 5) (u32 0)))))) (n32 (u32 (andI IntKind.u32 (n32 (u32 (xorI IntKind.u32 4294967295 (n32 (nth x.2.1 (nat 4) (u32 0)))))) (n32 (nth x.2.1 (nat 6) (u32 0)))))))))))) (n32 (nth (nth [qfV] 0 [u32 0,u32 0,u32 0,u32 0,u32 0,u32 0,u32 0,
 u32 0,u32 0,u32 0,u32 0,u32 0,u32 0,u32 0,u32 0,u32 0,u32 0,u32 0,u32 0,u32 0,u32 0,u32 0,u32 0,u32 0,u32 0,u32 0,u32 0,u32 0,u32 0,u32 0,u32 0,u32 0,u32 0,u32 0,u32 0,u32 0,u32 0,u32 0,u32 0,u32 0,u32 0,u32 0,u32 0,u32 0,u32 0,u32 0,u32 0,u32 0,u32 0,u32 0,u32 0,u32 0,u32 0,u32 0,u32 0,u32 0,u32 0,u32 0,u32 0,u32 0,u32 0,u32 0,u32 0,u32 0]) (nat x.1) (u32 0)))))) (n32 (nth a.1 (nat x.1) (u32 0))))))))) (nat 0) (u32 (iadd (n32 (u32 (iadd (n32 (u32 (iadd (n32 (u32 (iadd (n32 (u32 (iadd (n32 (nth x.2.1 (nat 7) (u32 0))) (n32 (u32 (xorI IntKind.u32 (n32 (u32 (xorI IntKind.u32 (n32 a_1.1) (n32 a_2.1)))) (n32 a_3.1))))))) (n32 (u32 (xorI IntKind.u32 (n32 (u32 (andI IntKind.u32 (n32 (nth x.2.1 (nat 4) (u32 0))) (n32 (nth x.2.1 (nat 5) (u32 0)))))) (n32 (u32 (andI IntKind.u32 (n32 (u32 (xorI IntKind.u32 4294967295 (n32 (nth x.2.1 (nat 4) (u32 0)))))) (n32 (nth x.2.1 (nat 6) (u32 0)))))))))))) (n32 (nth (nth [qfV] 0 [u32 0,u32 0,u32 0,u32 0,u32 0,u32 0,u32 0,u32 0,u32 0,u32 0,u32 0,u32 0,u32 0,u32 0,u32 0,u32 0,u32 0,u32 0,u32 0,u32 0,u32 0,u32 0,u32 0,u32 0,u32 0,u32 0,u32 0,u32 0,u32 0,u32 0,u32 0,u32 0,u32 0,u32 0,u32 0,u32 0,u32 0,u32 0,u32 0,u32 0,u32 0,u32 0,u32 0,u32 0,u32 0,u32 0,u32 0,u32 0,u32 0,u32 0,u32 0,u32 0,u32 0,u32 0,u32 0,u32 0,u32 0,u32 0,u32 0,u32 0,u32 0,u32 0,u32 0,u32 0]) (nat x.1) (u32 0)))))) (n32 (nth a.1 (nat x.1) (u32 0)))))) (n32 (u32 (iadd (n32 (u32 (xorI IntKind.u32 (n32 (u32 (xorI IntKind.u32 (n32 a_4.1) (n32 a_5.1)))) (n32 a_6.1)))) (n32 (u32 (xorI IntKind.u32 (n32 (u32 (xorI IntKind.u32 (n32 (u32 (andI IntKind.u32 (n32 (nth x.2.1 (nat 0) (u32 0))) (n32 (nth x.2.1 (nat 1) (u32 0)))))) (n32 (u32 (andI IntKind.u32 (n32 (nth x.2.1 (nat 0) (u32 0))) (n32 (nth x.2.1 (nat 2) (u32 0))))))))) (n32 (u32 (andI IntKind.u32 (n32 (nth x.2.1 (nat 1) (u32 0))) (n32 (nth x.2.1 (nat 2) (u32 0)))))))))))))),()))))))))))))))))))) (some
 (LS.ex 0 (x.1,x.2.1,())))) (0,x.1,())) (fun (a:tm_)=>none) (fun (i:Nat) (a:tm_)=>ck (neb i 0) (lc (loop (fun (x:tm_)=>sel (lt x.1 8) (ck (inB x.1 (ofn 8)) (ck (inB x.1 (ofn 8)) (ck (inB x.1 (ofn 8)) (some (LS.nx (i64 (iadd x.1 1),upd x.2.1 (nat x.1) (u32 (iadd (n32 (nth x.2.1 (nat x.1) (u32 0))) (n32 (nth a.2.1 (nat x.1) (u32 0))))),())))))) (some (LS.ex 2 (x.1,x.2.1,())))) (0,x.1,())) (fun (a:tm_)=>none) (fun (i:Nat) (a:tm_)=>ck (neb i 2) (some (a.2.1,0,()))) fun (r:tP_)=>some r)) fun (r:tP_)=>some r)
noncomputable def qd6 (x:tS_):Option (th_):=sel (lt (i64 (isub 1125899906842624 x.1.2.1)) (len x.2.1)) (some (x.1,())) (ck (band (inC 0 (i64 (iadd (len x.1.2.2.1) (len x.2.1))) (i64 (iadd (len x.1.2.2.1) (len x.2.1)))) (rm 1 (nat (i64 (iadd (len x.1.2.2.1) (len x.2.1)))))) (ck (inC (len x.1.2.2.1) (len (cpy (rep (nat (i64 (iadd (len x.1.2.2.1) (len x.2.1)))) (u8 0)) 0 (ln (rep (nat (i64 (iadd (len x.1.2.2.1) (len x.2.1)))) (u8 0))) x.1.2.2.1)) (len (cpy (rep (nat (i64 (iadd (len x.1.2.2.1) (len x.2.1)))) (u8 0)) 0 (ln (rep (nat (i64 (iadd (len x.1.2.2.1) (len x.2.1)))) (u8 0))) x.1.2.2.1))) (lc (loop (fun (x:tL_)=>sel (le 64 (len x.1)) (ck (inC 0 64 (len x.1)) (ob (qf0 (x.2.1.1,cut x.1 (nat 0) (nsub (nat 64) (nat 0)),())) fun (a:tP_)=>ck (inC 64 (len x.1) (len x.1)) (some (LS.nx (cut x.1 (nat 64) (nsub (nat (len x.1)) (nat 64)),(a.1,x.2.1.2),()))))) (some (LS.ex 0 (x.1,x.2.1,())))) (cpy (cpy (rep (nat (i64 (iadd (len x.1.2.2.1) (len x.2.1)))) (u8 0)) 0 (ln (rep (nat (i64 (iadd (len x.1.2.2.1) (len x.2.1)))) (u8 0))) x.1.2.2.1) (nat (len x.1.2.2.1)) (nsub (nat (len (cpy (rep (nat (i64 (iadd (len x.1.2.2.1) (len x.2.1)))) (u8 0)) 0 (ln (rep (nat (i64 (iadd (len x.1.2.2.1) (len x.2.1)))) (u8 0))) x.1.2.2.1))) (nat (len x.1.2.2.1))) x.2.1,(x.1.1,i64 (iadd x.1.2.1 (len x.2.1)),x.1.2.2),())) (fun (a:tL_)=>none) (fun (i:Nat) (a:tL_)=>ck (neb i 0) (some ((a.2.1.1,a.2.1.2.1,a.1,a.2.1.2.2.2),()))) fun (r:th_)=>some r)))
noncomputable def qpV (x:Unit):Option (th_):=some (([u32 1779033703,u32 3144134277,u32 1013904242,u32 2773480762,u32 1359893119,u32 2600822924,u32 528734635,u32 1541459225],0,none' UInt8,()),())
noncomputable def qjN (x:th_):Option (te_):=ck (band (inC 0 0 128) (rm 1 (nat 128))) (ck (rm 1 (nadd (ln (rep (nat 0) (u8 0))) (ln x.1.2.2.1))) (ck (rm 1 (nadd (ln (app (rep (nat 0) (u8 0)) x.1.2.2.1)) (ln [u8 128]))) (lc (loop (fun (x:te_)=>sel (bnot (beq (imod (len x.1) 64) 56)) (ck (rm 1 (nadd (ln x.1) (ln [u8 0]))) (some (LS.nx (app x.1 [u8 0],())))) (some (LS.ex 0 (x.1,())))) (app (app (rep (nat 0) (u8 0)) x.1.2.2.1) [u8 128],())) (fun (a:te_)=>none) (fun (i:Nat) (a:te_)=>ck (neb i 0) (lc (loop (fun (x_1:tb_)=>sel (le 0 x_1.2.1) (ck (le 0 x_1.2.1) (ck (rm 1 (nadd (ln x_1.1) (ln [u8 (shrI IntKind.i64 (i64 (imul 8 x.1.2.1)) x_1.2.1)]))) (some (LS.nx (app x_1.1 [u8 (shrI IntKind.i64 (i64 (imul 8 x.1.2.1)) x_1.2.1)],i64 (isub x_1.2.1 8),()))))) (some (LS.ex 2 (x_1.1,x_1.2.1,())))) (a.1,56,())) (fun (a:tb_)=>none) (fun (i:Nat) (a:tb_)=>ck (neb i 2) (lc (loop (fun (x:tZ_)=>sel (lt 0 (len x.1)) (ck (inC 0 64 (len x.1)) (ob (qf0 (x.2.1,cut x.1 (nat 0) (nsub (nat 64) (nat 0)),())) fun (a:tP_)=>ck (inC 64 (len x.1) (len x.1)) (some (LS.nx (cut x.1 (nat 64) (nsub (nat (len x.1)) (nat 64)),a.1,()))))) (some (LS.ex 4 (x.1,x.2.1,())))) (a.1,x.1.1,())) (fun (a:tZ_)=>none) (fun (i:Nat) (a:tZ_)=>ck (neb i 4) (ck (band (inC 0 0 32) (rm 1 (nat 32))) (lc (loop (fun (x:tb_)=>sel (lt x.2.1 8) (ck (inB x.2.1 (ofn 8)) (ck (rm 1 (nadd (ln x.1) (ln [u8 (n32 (u32 (shrI IntKind.u32 (n32 (nth a.2.1 (nat x.2.1) (u32 0))) (n64 (u64 24))))),u8 (n32 (u32 (shrI IntKind.u32 (n32 (nth a.2.1 (nat x.2.1) (u32 0))) (n64 (u64 16))))),u8 (n32 (u32 (shrI IntKind.u32 (n32 (nth a.2.1 (nat x.2.1) (u32 0))) (n64 (u64 8))))),u8 (n32 (nth a.2.1
 (nat x.2.1) (u32 0)))]))) (some (LS.nx (app x.1 [u8 (n32 (u32 (shrI IntKind.u32 (n32 (nth a.2.1 (nat x.2.1) (u32 0))) (n64 (u64 24))))),u8 (n32 (u32 (shrI IntKind.u32 (n32 (nth a.2.1 (nat x.2.1) (u32 0))) (n64 (u64 16))))),u8 (n32 (u32 (shrI IntKind.u32 (n32 (nth a.2.1 (nat x.2.1) (u32 0))) (n64 (u64 8))))),u8 (n32 (nth a.2.1 (nat x.2.1) (u32 0)))],i64 (iadd x.2.1 1),()))))) (some (LS.ex 6 (x.1,x.2.1,())))) (rep (nat 0) (u8 0),0,())) (fun (a:tb_)=>none) (fun (i:Nat) (a:tb_)=>ck (neb i 6) (some (a.1,()))) fun (r:te_)=>some r))) fun (r:te_)=>some r)) fun (r:te_)=>some r)) fun (r:te_)=>some r)))
noncomputable def qCG (x:te_):Option (te_):=ob (qpV ()) fun (a:th_)=>ob (qd6 (a.1,x.1,())) fun (a:th_)=>ob (qjN (a.1,())) fun (a:te_)=>some (a.1,())
noncomputable def qlE (x:te_):Option (te_):=ck (band (inC 0 64 64) (rm 1 (nat 64))) (sel (lt 64 (len x.1)) (ob (qCG (x.1,())) fun (a:te_)=>some (cpy (rep (nat 64) (u8 0)) 0 (ln (rep (nat 64) (u8 0))) a.1,())) (some (cpy (rep (nat 64) (u8 0)) 0 (ln (rep (nat 64) (u8 0))) x.1,())))
noncomputable def qqT (x:tT_):Option (te_):=ob (qlE (x.1,())) fun (a:te_)=>ck (band (inC 0 64 64) (rm 1 (nat 64))) (lc (loop (fun (x:tk_)=>sel (lt x.1 (len a.1)) (ck (inB x.1 (len a.1)) (ck (inB x.1 (len x.2.1)) (some (LS.nx (i64 (iadd x.1 1),upd x.2.1 (nat x.1) (u8 (xorI IntKind.u8 (n8 (nth a.1 (nat x.1) (u8 0))) (n8 (u8 92)))),()))))) (some (LS.ex 0 (x.1,x.2.1,())))) (0,rep (nat 64) (u8 0),())) (fun (a:tk_)=>none) (fun (i:Nat) (a_1:tk_)=>ck (neb i 0) (ob (qpV ()) fun (a_2:th_)=>ob (qd6 (a_2.1,a_1.2.1,())) fun (a_3:th_)=>ck (band (inC 0 64 64) (rm 1 (nat 64))) (lc (loop (fun (x:tk_)=>sel (lt x.1 (len a.1)) (ck (inB x.1 (len a.1)) (ck (inB x.1 (len x.2.1)) (some (LS.nx (i64 (iadd x.1 1),upd x.2.1 (nat x.1) (u8 (xorI IntKind.u8 (n8 (nth a.1 (nat x.1) (u8 0))) (n8 (u8 54)))),()))))) (some (LS.ex 0 (x.1,x.2.1,())))) (0,rep (nat 64) (u8 0),())) (fun (a:tk_)=>none) (fun (i:Nat) (a:tk_)=>ck (neb i 0) (ob (qpV ()) fun (a_4:th_)=>ob (qd6 (a_4.1,a.2.1,())) fun (a:th_)=>ob (qd6 (a.1,x.2.1,())) fun (a:th_)=>ob (qjN (a.1,())) fun (a:te_)=>ob (qd6 (a_3.1,a.1,())) fun (a:th_)=>ob (qjN (a.1,())) fun (a:te_)=>some (a.1,()))) fun (r:Unit)=>none))) fun (r:Unit)=>none)
noncomputable def qc9 (x:tT_):Option (te_):=ob (qqT (x.1,x.2.1,())) fun (a:te_)=>ck (inC 0 16 (len a.1)) (some (cut a.1 (nat 0) (nsub (nat 16) (nat 0)),()))
noncomputable def qo6 (x:Th_):Option (wO×BB×Unit):=ob (qo7 (x.1,x.2.1,x.2.2.1,())) fun (a:ta_)=>sel (bnot a.1) (ob (zP (x.1.2.1,())) fun (a:tV_)=>ob (qbJ (x.2.1,())) fun (a_1:te_)=>ob (qbJ (x.2.2.1,())) fun (a_2:te_)=>ck (rm 56 (nadd (ln a.1) (ln [(a_1.1,a_2.1,())]))) (ob (qc9 (x.2.1,x.2.2.1,())) fun (a_3:te_)=>some ((x.1.1,app a.1 [(a_1.1,a_2.1,())],x.1.2.2),a_3.1,()))) (ob (qc9 (x.2.1,x.2.2.1,())) fun (a:te_)=>some (x.1,a.1,()))
noncomputable def qlT (x:Ti_):Option (ta_):=ob (qhA (x.1,())) fun (a:ta_)=>ob (sel a.1 (some (beq (len x.1.2.2.2.2.2.2.1) 16,())) (some (false,()))) fun (a:ta_)=>some (a.1,())
noncomputable def qlS (x:Ti_):Option (tb_):=ob (qlT (x.1,())) fun (a:ta_)=>sel (bnot a.1) (some (none' UInt8,1,())) (ob (qhB (x.1,())) fun (a:tb_)=>ck (rm 1 (nadd (ln a.1) (ln x.1.2.2.2.2.2.2.1))) (some (app a.1 x.1.2.2.2.2.2.2.1,0,())))
noncomputable def qiK (x:te_):Option (tb_):=ob (sel (lt (len x.1) 1) (some (true,())) (some (lt 1024 (len x.1),()))) fun (a:ta_)=>sel a.1 (some (none' UInt8,1,())) (ck (rm 1 (nadd (ln [u8 (shrI IntKind.i64 (len x.1) (n64 (u64 8))),u8 (len x.1)]) (ln x.1))) (some (app [u8 (shrI IntKind.i64 (len x.1) (n64 (u64 8))),u8 (len x.1)] x.1,0,())))
noncomputable def zR (x:to_):Option (to_):=ck (band (inC 0 (len x.1) (len x.1)) (beq (len x.1) (len x.1))) (some (sub x.1 0 (len x.1),()))
noncomputable def qgV (x:y5×TEnv×BB×Unit):Option (Tb_):=ob (qpD (x.1.1.2.2.2.2.2.2.2.2.2.2.2.2.2.2.2.1,())) fun (a:Tf_)=>sel (bnot (beq a.2.2.1 0)) (some (x.1,a.2.2.1,())) (ob (qhB (x.2.1,())) fun (a_1:tb_)=>ob (qo6 (x.1.2.1,x.2.2.1,a_1.1,())) fun (a_2:wO×BB×Unit)=>ob (qlS ((x.2.1.1,x.2.1.2.1,x.2.1.2.2.1,x.2.1.2.2.2.1,x.2.1.2.2.2.2.1,x.2.1.2.2.2.2.2.1,a_2.2.1,x.2.1.2.2.2.2.2.2.2),())) fun (a_3:tb_)=>ob (qiK (a_3.1,())) fun (a_4:tb_)=>ob (zR (x.1.1.2.2.2.2.2.2.2.2.2.2.2.2.2.2.2.2.1,())) fun (a_5:to_)=>ck (rm 56 (nadd (ln a_5.1) (ln [(a.2.1,a_4.1,())]))) (some (((x.1.1.1,x.1.1.2.1,x.1.1.2.2.1,x.1.1.2.2.2.1,x.1.1.2.2.2.2.1,x.1.1.2.2.2.2.2.1,x.1.1.2.2.2.2.2.2.1,x.1.1.2.2.2.2.2.2.2.1,x.1.1.2.2.2.2.2.2.2.2.1,x.1.1.2.2.2.2.2.2.2.2.2.1,x.1.1.2.2.2.2.2.2.2.2.2.2.1,x.1.1.2.2.2.2.2.2.2.2.2.2.2.1,x.1.1.2.2.2.2.2.2.2.2.2.2.2.2.1,x.1.1.2.2.2.2.2.2.2.2.2.2.2.2.2.1,x.1.1.2.2.2.2.2.2.2.2.2.2.2.2.2.2.1,a.1,app a_5.1 [(a.2.1,a_4.1,())],x.1.1.2.2.2.2.2.2.2.2.2.2.2.2.2.2.2.2.2),a_2.1,x.1.2.2),0,())))
noncomputable def kX (x:y5×BB×Unit):Option (Tb_):=ob (qgU (x.2.1,())) fun (a:ta_)=>sel (bnot a.1) (some (x.1,1,())) (ob (qbP (x.1.1.2.2.1,())) fun (a:ta_)=>sel (bnot a.1) (some (x.1,7,())) (sel (beq x.1.1.2.2.2.2.2.2.2.2.1 4611686018427387904) (some (x.1,10,())) (ob (kY (x.1.1,())) fun (a:tB_)=>ob (qgV (x.1,(2,x.1.1.1,a.1,x.1.1.2.2.2.2.2.2.2.2.2.2.1.1.1,x.1.1.2.2.2.2.2.2.2.2.1,x.2.1,none' UInt8,()),x.1.1.2.2.2.2.2.2.2.2.2.2.1.1.2.1,())) fun (a:Tb_)=>sel (beq a.2.1 0) (some (((a.1.1.1,a.1.1.2.1,a.1.1.2.2.1,a.1.1.2.2.2.1,a.1.1.2.2.2.2.1,a.1.1.2.2.2.2.2.1,a.1.1.2.2.2.2.2.2.1,a.1.1.2.2.2.2.2.2.2.1,i64 (iadd a.1.1.2.2.2.2.2.2.2.2.1 1),a.1.1.2.2.2.2.2.2.2.2.2),a.1.2),a.2.1,())) (some (a.1,a.2.1,())))))
noncomputable def qpH (x:tf_):Option (tf_):=ob (sel (lt x.1 0) (some (true,())) (some (le 999999 x.1,()))) fun (a:ta_)=>sel a.1 (some (1,())) (some (i64 (iadd x.1 1),()))
noncomputable def ql9 (x:tf_):Option (ta_):=sel (beq x.1 1) (sel (beq x.1 1) (some (true,())) (some (false,()))) (sel (beq x.1 2) (sel (beq x.1 2) (some (true,())) (some (false,()))) (sel (beq x.1 101) (sel (beq x.1 101) (some (true,())) (some (false,()))) (sel (beq x.1 201) (sel (beq x.1 201) (some (true,())) (some (false,()))) (sel (beq x.1 301) (some (true,())) (some (false,()))))))
noncomputable def qpG (x:tC_):Option (ta_):=ob (ql9 (x.1,())) fun (a:ta_)=>ob (sel a.1 (sel (le 1 x.2.1) (sel (le x.2.1 999999) (sel (le 1 (len x.2.2.1)) (some (le (len x.2.2.1) 900,())) (some (false,()))) (some (false,()))) (some (false,()))) (some (false,()))) fun (a:ta_)=>some (a.1,())
noncomputable def qmA (x:tC_):Option (TAsk×Int×Unit):=ob (qpG (x.1,x.2.1,x.2.2.1,())) fun (a:ta_)=>sel (bnot a.1) (some ((0,0,0,0,none' UInt8,()),1,())) (some ((x.1,x.2.1,8,3,x.2.2.1,()),0,()))
noncomputable def qiF (x:BB×BB×List BB×Unit):Option (tb_):=ob (sel (lt 255 (len x.2.1)) (some (true,())) (some (lt 16 (len x.2.2.1),()))) fun (a:ta_)=>sel a.1 (some (none' UInt8,1,())) (ck (rm 1 (nadd (ln [u8 (len x.2.1)]) (ln x.2.1))) (lc (loop (fun (x_1:tw_)=>sel (lt x_1.2.2.1 (len x.2.2.1)) (ck (inB x_1.2.2.1 (len x.2.2.1)) (sel (lt 65535 (len (nth x.2.2.1 (nat x_1.2.2.1) (none' UInt8)))) (some (LS.rt (none' UInt8,1,()))) (ck (rm 1 (nadd (ln x_1.2.1) (ln [u8 (shrI IntKind.i64 (len (nth x.2.2.1 (nat x_1.2.2.1) (none' UInt8))) (n64 (u64 8))),u8 (len (nth x.2.2.1 (nat x_1.2.2.1) (none' UInt8)))]))) (ck (rm 1 (nadd (ln (app x_1.2.1 [u8 (shrI IntKind.i64 (len (nth x.2.2.1 (nat x_1.2.2.1) (none' UInt8))) (n64 (u64 8))),u8 (len (nth x.2.2.1 (nat x_1.2.2.1) (none' UInt8)))])) (ln (nth x.2.2.1 (nat x_1.2.2.1) (none' UInt8))))) (some (LS.nx (x_1.1,app (app x_1.2.1 [u8 (shrI IntKind.i64 (len (nth x.2.2.1 (nat x_1.2.2.1) (none' UInt8))) (n64 (u64 8))),u8 (len (nth x.2.2.1 (nat x_1.2.2.1) (none' UInt8)))]) (nth x.2.2.1 (nat x_1.2.2.1) (none' UInt8)),i64 (iadd x_1.2.2.1 1),()))))))) (some (LS.ex 0 (x_1.1,x_1.2.1,x_1.2.2.1,())))) (0,app [u8 (len x.2.1)] x.2.1,0,())) (fun (a:tw_)=>none) (fun (i:Nat) (a:tw_)=>ck (neb i 0) (ob (qqT (x.1,a.2.1,())) fun (a:te_)=>some (a.1,0,()))) fun (r:tb_)=>some r))
noncomputable def qgW (x:te_):Option (te_):=ob (qiF (x.1,[98,97,115,101],none' BB,())) fun (a:tb_)=>some (a.1,())
noncomputable def qiG (x:y5×Int×BB×Unit):Option (Tb_):=ob (qa9 (4611686018427387904,[x.2.1],())) fun (a:ta_)=>ob (sel (bnot a.1) (some (true,())) (ob (qgU (x.2.2.1,())) fun (a:ta_)=>some (bnot a.1,()))) fun (a:ta_)=>sel a.1 (some (x.1,1,())) (ob (kY ((x.1.1.1,x.1.1.2.1,x.1.1.2.2.1,x.1.1.2.2.2.1,x.1.1.2.2.2.2.1,x.1.1.2.2.2.2.2.1,x.2.1,x.1.1.2.2.2.2.2.2.2),())) fun (a:tB_)=>ob (qgW (x.1.1.2.1,())) fun (a_1:te_)=>ob (qgV (x.1,(1,x.1.1.1,a.1,0,0,x.2.2.1,none' UInt8,()),a_1.1,())) fun (a:Tb_)=>some (a.1,a.2.1,()))
noncomputable def wV (x:Tj_):Option (Ta_):=ob (qpH (x.1.1.2.2.2.2.2.2.2.2.2.2.2.2.1,())) fun (a:tf_)=>ob (qaK ((x.2.1.1,x.2.1.2.1,a.1,x.2.1.2.2.2),())) fun (a_1:tb_)=>ob (qmA (x.2.1.2.1,a.1,a_1.1,())) fun (a_2:TAsk×Int×Unit)=>ob (sel (bnot (beq a_1.2.1 0)) (some (true,())) (some (bnot (beq a_2.2.1 0),()))) fun (a_3:ta_)=>sel a_3.1 (some (x.1,())) (sel (beq x.2.1.2.1 1) (ob (qiG (((x.1.1.1,x.1.1.2.1,x.1.1.2.2.1,x.1.1.2.2.2.1,x.1.1.2.2.2.2.1,x.1.1.2.2.2.2.2.1,x.1.1.2.2.2.2.2.2.1,x.1.1.2.2.2.2.2.2.2.1,x.1.1.2.2.2.2.2.2.2.2.1,x.1.1.2.2.2.2.2.2.2.2.2.1,x.1.1.2.2.2.2.2.2.2.2.2.2.1,a_2.1,a.1,x.1.1.2.2.2.2.2.2.2.2.2.2.2.2.2),x.1.2),0,a_1.1,())) fun (a:Tb_)=>some (a.1,())) (ob (kX (((x.1.1.1,x.1.1.2.1,x.1.1.2.2.1,x.1.1.2.2.2.1,x.1.1.2.2.2.2.1,x.1.1.2.2.2.2.2.1,x.1.1.2.2.2.2.2.2.1,x.1.1.2.2.2.2.2.2.2.1,x.1.1.2.2.2.2.2.2.2.2.1,x.1.1.2.2.2.2.2.2.2.2.2.1,x.1.1.2.2.2.2.2.2.2.2.2.2.1,a_2.1,a.1,x.1.1.2.2.2.2.2.2.2.2.2.2.2.2.2),x.1.2),a_1.1,())) fun (a:Tb_)=>some (a.1,())))
noncomputable def qaJ (x:tf_):Option (ta_):=ob (yU (x.1,())) fun (a:tf_)=>ob (sel (beq a.1 3) (some (true,())) (ob (yU (x.1,())) fun (a:tf_)=>some (beq a.1 4,()))) fun (a:ta_)=>some (a.1,())
noncomputable def qdA (x:tg_):Option (tv_):=ob (yU (x.1,())) fun (a:tf_)=>ob (sel (beq x.1 8) (some (beq x.2.1 11,())) (some (false,()))) fun (a_1:ta_)=>sel a_1.1 (some (0,true,())) (ob (sel (beq x.1 8) (some (beq x.2.1 12,())) (some (false,()))) fun (a_2:ta_)=>sel a_2.1 (some (7,true,())) (ob (sel (beq x.2.1 10) (sel (le 0 a.1) (some (true,())) (some (beq x.1 7,()))) (some (false,()))) fun (a_3:ta_)=>sel a_3.1 (some (8,true,())) (ob (sel (beq x.2.1 0) (some (le 0 a.1,())) (some (false,()))) fun (a_4:ta_)=>sel a_4.1 (some (1,true,())) (ob (sel (beq x.2.1 2) (some (le 0 a.1,())) (some (false,()))) fun (a_5:ta_)=>sel a_5.1 (some (2,true,())) (sel (beq a.1 1) (sel (sel (beq x.2.1 1) true (sel (beq x.2.1 4) true (sel (beq x.2.1 9) true false))) (some (sel (beq x.2.1 1) 3 (sel (beq x.2.1 4) 0 (sel (beq x.2.1 9) 0 0)),true,())) (some (x.1,false,()))) (sel (beq a.1 2) (sel (sel (beq x.2.1 3) true (sel (beq x.2.1 4) true false)) (some (sel (beq x.2.1 3) 3 (sel (beq x.2.1 4) 0 0),true,())) (some (x.1,false,()))) (sel (beq a.1 3) (sel (sel (beq x.2.1 4) true (sel (beq x.2.1 5) true (sel (beq x.2.1 6) true (sel (beq x.2.1 7) true (sel (beq x.2.1 9) true false))))) (some (sel (beq x.2.1 4) 6 (sel (beq x.2.1 5) 0 (sel (beq x.2.1 6) 4 (sel (beq x.2.1 7) 5 (sel (beq x.2.1 9) 0 0)))),true,())) (some (x.1,false,()))) (sel (beq a.1 4) (sel (sel (beq x.2.1 4) true (sel (beq x.2.1 5) true (sel (beq x.2.1 8) true (sel (beq x.2.1 9) true false)))) (some (sel (beq x.2.1 4) 6 (sel (beq x.2.1 5) 0 (sel (beq x.2.1 8) 3 (sel (beq x.2.1 9) 3 0))),true,())) (some (x.1,false,()))) (sel (beq a.1 5) (sel (sel (beq x.2.1 5) true (sel (beq x.2.1 9) true false)) (some (sel (beq x.2.1 5) 0 (sel (beq x.2.1 9) 0 0),true,())) (some (x.1,false,()))) (some (x.1,false,())))))))))))
noncomputable def kE (x:Tb_):Option (Ta_):=lc (loop (fun (x_1:Tc_)=>sel (lt x_1.1 4) (ck (inB x_1.1 (ofn 4)) (sel (beq (nth [2,5,6,13] (nat x_1.1) 0) x.2.1) (ck (inB x_1.1 (ofn 4)) (ck (inB x_1.1 (ofn 4)) (some (LS.nx (i64 (iadd x_1.1 1),((x_1.2.1.1.1,x_1.2.1.1.2.1,x_1.2.1.1.2.2.1,x_1.2.1.1.2.2.2.1,x_1.2.1.1.2.2.2.2.1,x_1.2.1.1.2.2.2.2.2.1,x_1.2.1.1.2.2.2.2.2.2.1,x_1.2.1.1.2.2.2.2.2.2.2.1,x_1.2.1.1.2.2.2.2.2.2.2.2.1,x_1.2.1.1.2.2.2.2.2.2.2.2.2.1,x_1.2.1.1.2.2.2.2.2.2.2.2.2.2.1,x_1.2.1.1.2.2.2.2.2.2.2.2.2.2.2.1,x_1.2.1.1.2.2.2.2.2.2.2.2.2.2.2.2.1,x_1.2.1.1.2.2.2.2.2.2.2.2.2.2.2.2.2.1,x_1.2.1.1.2.2.2.2.2.2.2.2.2.2.2.2.2.2.1,x_1.2.1.1.2.2.2.2.2.2.2.2.2.2.2.2.2.2.2.1,x_1.2.1.1.2.2.2.2.2.2.2.2.2.2.2.2.2.2.2.2.1,x_1.2.1.1.2.2.2.2.2.2.2.2.2.2.2.2.2.2.2.2.2.1,upd x_1.2.1.1.2.2.2.2.2.2.2.2.2.2.2.2.2.2.2.2.2.2.1 (nat x_1.1) (i64 (iadd (nth x_1.2.1.1.2.2.2.2.2.2.2.2.2.2.2.2.2.2.2.2.2.2.1 (nat x_1.1) 0) 1)),x_1.2.1.1.2.2.2.2.2.2.2.2.2.2.2.2.2.2.2.2.2.2.2),x_1.2.1.2),()))))) (some (LS.nx (i64 (iadd x_1.1 1),x_1.2.1,()))))) (some (LS.ex 0 (x_1.1,x_1.2.1,())))) (0,x.1,())) (fun (a:Tc_)=>none) (fun (i:Nat) (a:Tc_)=>ck (neb i 0) (some (a.2.1,()))) fun (r:Ta_)=>some r
noncomputable def qxH (x:TAsk×TAsk×Unit):Option (ta_):=ob (sel (beq x.1.1 x.2.1.1) (sel (beq x.1.2.1 x.2.1.2.1) (sel (beq x.1.2.2.1 x.2.1.2.2.1) (sel (beq x.1.2.2.2.1 x.2.1.2.2.2.1) (ob (qbI (x.1.2.2.2.2.1,x.2.1.2.2.2.2.1,())) fun (a:ta_)=>some (a.1,())) (some (false,()))) (some (false,()))) (some (false,()))) (some (false,()))) fun (a:ta_)=>some (a.1,())
noncomputable def qpF (x:TAsk×Unit):Option (ta_):=ob (qxH (x.1,(0,0,0,0,none' UInt8,()),())) fun (a:ta_)=>some (a.1,())
noncomputable def ql8 (x:TAsk×Int×Int×Unit):Option (ta_):=ob (qpF (x.1,())) fun (a:ta_)=>ob (sel (bnot a.1) (sel (beq x.1.1 x.2.1) (some (beq x.1.2.1 x.2.2.1,())) (some (false,()))) (some (false,()))) fun (a:ta_)=>some (a.1,())
noncomputable def qjR (x:THub×Int×Unit):Option (THub×Int×Unit):=ob (sel (lt x.2.1 0) (some (true,())) (some (lt 3 x.2.1,()))) fun (a:ta_)=>sel a.1 (some (x.1,1,())) (ck (inB x.2.1 (ofn 4)) (sel (nth x.1.1 (nat x.2.1) false) (some (x.1,9,())) (ck (inB x.2.1 (ofn 4)) (ck (inB x.2.1 (ofn 4)) (ck (inB x.2.1 (ofn 4)) (ck (inB x.2.1 (ofn 4)) (some ((upd x.1.1 (nat x.2.1) true,upd x.1.2.1 (nat x.2.1) (none' UInt8,0,0,()),upd x.1.2.2.1 (nat x.2.1) (i64 (iadd (nth x.1.2.2.1 (nat x.2.1) 0) 1)),x.1.2.2.2),0,()))))))))
noncomputable def qcX (x:qdZ×Unit):Option (Td_):=sel (beq x.1.2.2.1.1 0) (some (x.1,9,())) (some ((x.1.2.2.1,x.1.1,(0,none' UInt8,()),16,x.1.2.2.2.2.1,()),0,()))
noncomputable def qkZ (x:te_):Option (Td_):=sel (bnot (beq (len x.1) 32)) (some (((0,none' UInt8,()),(0,none' UInt8,()),(0,none' UInt8,()),0,0,()),1,())) (some (((1,x.1,()),(0,none' UInt8,()),(0,none' UInt8,()),0,1,()),0,()))
noncomputable def wC (x:tf_):Option (ta_):=ob (sel (le 0 x.1) (some (le x.1 4611686018427387904,())) (some (false,()))) fun (a:ta_)=>some (a.1,())
noncomputable def qk3 (x:tf_):Option (te_):=lc (loop (fun (x_1:te_)=>sel (bnot (beq (imod (i64 (iadd (i64 (iadd x.1 (len x_1.1))) 8)) 64) 0)) (ck (rm 1 (nadd (ln x_1.1) (ln [u8 0]))) (some (LS.nx (app x_1.1 [u8 0],())))) (some (LS.ex 0 (x_1.1,())))) ([u8 128],())) (fun (a:te_)=>none) (fun (i:Nat) (a:te_)=>ck (neb i 0) (lc (loop (fun (x_1:tb_)=>sel (le 0 x_1.2.1) (ck (rm 1 (nadd (ln x_1.1) (ln [u8 (shrI IntKind.i64 (i64 (imul 8 x.1)) (n64 (u64 x_1.2.1)))]))) (some (LS.nx (app x_1.1 [u8 (shrI IntKind.i64 (i64 (imul 8 x.1)) (n64 (u64 x_1.2.1)))],i64 (isub x_1.2.1 8),())))) (some (LS.ex 2 (x_1.1,x_1.2.1,())))) (a.1,56,())) (fun (a:tb_)=>none) (fun (i:Nat) (a:tb_)=>ck (neb i 2) (some (a.1,()))) fun (r:te_)=>some r)) fun (r:te_)=>some r
noncomputable def qiC (x:Unit):Option (tz_):=some ([u32 1116352408,u32 1899447441,u32 3049323471,u32 3921009573,u32 961987163,u32 1508970993,u32 2453635748,u32 2870763221,u32 3624381080,u32 310598401,u32 607225278,u32 1426881987,u32 1925078388,u32 2162078206,u32 2614888103,u32 3248222580,u32 3835390401,u32 4022224774,u32 264347078,u32 604807628,u32 770255983,u32 1249150122,u32 1555081692,u32 1996064986,u32 2554220882,u32 2821834349,u32 2952996808,u32 3210313671,u32 3336571891,u32 3584528711,u32 113926993,u32 338241895,u32 666307205,u32 773529912,u32 1294757372,u32 1396182291,u32 1695183700,u32 1986661051,u32 2177026350,u32 2456956037,u32 2730485921,u32 2820302411,u32 3259730800,u32 3345764771,u32 3516065817,u32 3600352804,u32 4094571909,u32 275423344,u32 430227734,u32 506948616,u32 659060556,u32 883997877,u32 958139571,u32 1322822218,u32 1537002063,u32 1747873779,u32 1955562222,u32 2024104815,u32 2227730452,u32 2361852424,u32 2428436474,u32 2756734187,u32 3204031479,u32 3329325298],())
noncomputable def jW (x:UInt32×UInt32×Unit):Option (tu_):=some (u32 (orI IntKind.u32 (n32 (u32 (shrI IntKind.u32 (n32 x.1) (n32 x.2.1)))) (n32 (u32 (shlI IntKind.u32 (n32 x.1) (n32 (u32 (isub (n32 (u32 32)) (n32 x.2.1)))))))),())
noncomputable def qc4 (x:List UInt32×BB×Int×List UInt32×Unit):Option (tz_):=ck (band (inC 0 64 64) (rm 32 (nat 64))) (lc (loop (fun (x_1:tm_)=>sel (lt x_1.1 16) (ck (inB (i64 (iadd x.2.2.1 (i64 (imul 4 x_1.1)))) (len x.2.1)) (ck (inB (i64 (iadd (i64 (iadd x.2.2.1 (i64 (imul 4 x_1.1)))) 1)) (len x.2.1)) (ck (inB (i64 (iadd (i64 (iadd x.2.2.1 (i64 (imul 4 x_1.1)))) 2)) (len x.2.1)) (ck (inB (i64 (iadd (i64 (iadd x.2.2.1 (i64 (imul 4 x_1.1)))) 3)) (len x.2.1)) (ck (inB x_1.1 (len x_1.2.1)) (some (LS.nx (i64 (iadd x_1.1 1),upd x_1.2.1 (nat x_1.1) (u32 (iadd (n32 (u32 (iadd (n32 (u32 (iadd (n32 (u32 (imul (n32 (u32 (n8 (nth x.2.1 (nat (i64 (iadd x.2.2.1 (i64 (imul 4 x_1.1))))) (u8 0))))) (n32 (u32 16777216))))) (n32 (u32 (imul (n32 (u32 (n8 (nth x.2.1 (nat (i64 (iadd (i64 (iadd x.2.2.1 (i64 (imul 4 x_1.1)))) 1))) (u8 0))))) (n32 (u32 65536)))))))) (n32 (u32 (imul (n32 (u32 (n8 (nth x.2.1 (nat (i64 (iadd (i64 (iadd x.2.2.1 (i64 (imul 4 x_1.1)))) 2))) (u8 0))))) (n32 (u32 256)))))))) (n32 (u32 (n8 (nth x.2.1 (nat (i64 (iadd (i64 (iadd x.2.2.1 (i64 (imul 4 x_1.1)))) 3))) (u8 0))))))),())))))))) (some (LS.ex 0 (x_1.1,x_1.2.1,())))) (0,rep (nat 64) (u32 0),())) (fun (a:tm_)=>none) (fun (i:Nat) (a:tm_)=>ck (neb i 0) (lc (loop (fun (x:tm_)=>sel (lt x.1 64) (ck (inB (i64 (isub x.1 15)) (len x.2.1)) (ck (inB (i64 (isub x.1 2)) (len x.2.1)) (ob (jW (nth x.2.1 (nat (i64 (isub x.1 15))) (u32 0),u32 7,())) fun (a:tu_)=>ob (jW (nth x.2.1 (nat (i64 (isub x.1 15))) (u32 0),u32 18,())) fun (a_1:tu_)=>ob (jW (nth x.2.1 (nat (i64 (isub x.1 2))) (u32 0),u32 17,())) fun (a_2:tu_)=>ob (jW (nth x.2.1 (nat (i64 (isub x.1 2))) (u32 0),u32 19,())) fun (a_3:tu_)=>ck (inB (i64 (isub x.1 7)) (len x.2.1)) (ck (inB (i64 (isub x.1 16)) (len x.2.1)) (ck (inB
 x.1 (len x.2.1)) (some (LS.nx (i64 (iadd x.1 1),upd x.2.1 (nat x.1) (u32 (iadd (n32 (u32 (iadd (n32 (u32 (iadd (n32 (u32 (xorI IntKind.u32 (n32 (u32 (xorI IntKind.u32 (n32 a_2.1) (n32 a_3.1)))) (n32 (u32 (shrI IntKind.u32 (n32 (nth x.2.1 (nat (i64 (isub x.1 2))) (u32 0))) (n64 (u64 10)))))))) (n32 (nth x.2.1 (nat (i64 (isub x.1 7))) (u32 0)))))) (n32 (u32 (xorI IntKind.u32 (n32 (u32 (xorI IntKind.u32 (n32 a.1) (n32 a_1.1)))) (n32 (u32 (shrI IntKind.u32 (n32 (nth x.2.1 (nat (i64 (isub x.1 15))) (u32 0))) (n64 (u64 3))))))))))) (n32 (nth x.2.1 (nat (i64 (isub x.1 16))) (u32 0))))),())))))))) (some (LS.ex 2 (x.1,x.2.1,())))) (16,a.2.1,())) (fun (a:tm_)=>none) (fun (i:Nat) (a:tm_)=>ck (neb i 2) (ck (inB 0 (ofn 8)) (ck (inB 1 (ofn 8)) (ck (inB 2 (ofn 8)) (ck (inB 3 (ofn 8)) (ck (inB 4 (ofn 8)) (ck (inB 5 (ofn 8)) (ck (inB 6 (ofn 8)) (ck (inB 7 (ofn 8)) (lc (loop (fun (x_1:ts_)=>sel (lt x_1.2.2.2.2.2.2.2.2.1 64) (ob (jW (x_1.2.2.2.1,u32 6,())) fun (a_1:tu_)=>ob (jW (x_1.2.2.2.1,u32 11,())) fun (a_2:tu_)=>ob (jW (x_1.2.2.2.1,u32 25,())) fun (a_3:tu_)=>ck (inB x_1.2.2.2.2.2.2.2.2.1 (len x.2.2.2.1)) (ck (inB x_1.2.2.2.2.2.2.2.2.1 (len a.2.1)) (ob (jW (x_1.2.2.2.2.2.2.2.1,u32 2,())) fun (a_4:tu_)=>ob (jW (x_1.2.2.2.2.2.2.2.1,u32 13,())) fun (a_5:tu_)=>ob (jW (x_1.2.2.2.2.2.2.2.1,u32 22,())) fun (a_6:tu_)=>some (LS.nx (x_1.2.1,x_1.2.2.1,x_1.2.2.2.1,u32 (iadd (n32 x_1.2.2.2.2.1) (n32 (u32 (iadd (n32 (u32 (iadd (n32 (u32 (iadd (n32 (u32 (iadd (n32 x_1.1) (n32 (u32 (xorI IntKind.u32 (n32 (u32 (xorI IntKind.u32 (n32 a_1.1) (n32 a_2.1)))) (n32 a_3.1))))))) (n32 (u32 (xorI IntKind.u32 (n32 (u32 (andI IntKind.u32 (n32 x_1.2.2.2.1) (n32 x_1.2.2.1)))) (n32 (u32 (andI IntKind.u32 (n32 (u32 (xorI
 IntKind.u32 4294967295 (n32 x_1.2.2.2.1)))) (n32 x_1.2.1)))))))))) (n32 (nth x.2.2.2.1 (nat x_1.2.2.2.2.2.2.2.2.1) (u32 0)))))) (n32 (nth a.2.1 (nat x_1.2.2.2.2.2.2.2.2.1) (u32 0))))))),x_1.2.2.2.2.2.1,x_1.2.2.2.2.2.2.1,x_1.2.2.2.2.2.2.2.1,u32 (iadd (n32 (u32 (iadd (n32 (u32 (iadd (n32 (u32 (iadd (n32 (u32 (iadd (n32 x_1.1) (n32 (u32 (xorI IntKind.u32 (n32 (u32 (xorI IntKind.u32 (n32 a_1.1) (n32 a_2.1)))) (n32 a_3.1))))))) (n32 (u32 (xorI IntKind.u32 (n32 (u32 (andI IntKind.u32 (n32 x_1.2.2.2.1) (n32 x_1.2.2.1)))) (n32 (u32 (andI IntKind.u32 (n32 (u32 (xorI IntKind.u32 4294967295 (n32 x_1.2.2.2.1)))) (n32 x_1.2.1)))))))))) (n32 (nth x.2.2.2.1 (nat x_1.2.2.2.2.2.2.2.2.1) (u32 0)))))) (n32 (nth a.2.1 (nat x_1.2.2.2.2.2.2.2.2.1) (u32 0)))))) (n32 (u32 (iadd (n32 (u32 (xorI IntKind.u32 (n32 (u32 (xorI IntKind.u32 (n32 a_4.1) (n32 a_5.1)))) (n32 a_6.1)))) (n32 (u32 (xorI IntKind.u32 (n32 (u32 (xorI IntKind.u32 (n32 (u32 (andI IntKind.u32 (n32 x_1.2.2.2.2.2.2.2.1) (n32 x_1.2.2.2.2.2.2.1)))) (n32 (u32 (andI IntKind.u32 (n32 x_1.2.2.2.2.2.2.2.1) (n32 x_1.2.2.2.2.2.1))))))) (n32 (u32 (andI IntKind.u32 (n32 x_1.2.2.2.2.2.2.1) (n32 x_1.2.2.2.2.2.1))))))))))),i64 (iadd x_1.2.2.2.2.2.2.2.2.1 1),()))))) (some (LS.ex 4 (x_1.1,x_1.2.1,x_1.2.2.1,x_1.2.2.2.1,x_1.2.2.2.2.1,x_1.2.2.2.2.2.1,x_1.2.2.2.2.2.2.1,x_1.2.2.2.2.2.2.2.1,x_1.2.2.2.2.2.2.2.2.1,())))) (nth x.1 (nat 7) (u32 0),nth x.1 (nat 6) (u32 0),nth x.1 (nat 5) (u32 0),nth x.1 (nat 4) (u32 0),nth x.1 (nat 3) (u32 0),nth x.1 (nat 2) (u32 0),nth x.1 (nat 1) (u32 0),nth x.1 (nat 0) (u32 0),0,())) (fun (a:ts_)=>none) (fun (i:Nat) (a:ts_)=>ck (neb i 4) (ck (inB 0 (ofn 8)) (ck (inB 1 (ofn 8)) (ck (inB 2 (ofn 8)) (ck (inB 3 (ofn 8)) (ck (inB 4 (ofn 8)) (ck (inB 5 (ofn 8)) (ck (inB 6 (ofn 8)) (ck (inB 7 (ofn 8)) (some ([u32 (iadd (n32 (nth x.1
 (nat 0) (u32 0))) (n32 a.2.2.2.2.2.2.2.1)),u32 (iadd (n32 (nth x.1 (nat 1) (u32 0))) (n32 a.2.2.2.2.2.2.1)),u32 (iadd (n32 (nth x.1 (nat 2) (u32 0))) (n32 a.2.2.2.2.2.1)),u32 (iadd (n32 (nth x.1 (nat 3) (u32 0))) (n32 a.2.2.2.2.1)),u32 (iadd (n32 (nth x.1 (nat 4) (u32 0))) (n32 a.2.2.2.1)),u32 (iadd (n32 (nth x.1 (nat 5) (u32 0))) (n32 a.2.2.1)),u32 (iadd (n32 (nth x.1 (nat 6) (u32 0))) (n32 a.2.1)),u32 (iadd (n32 (nth x.1 (nat 7) (u32 0))) (n32 a.1))],()))))))))))) fun (r:tz_)=>some r)))))))))) fun (r:tz_)=>some r)) fun (r:tz_)=>some r)
noncomputable def qgG (x:th_):Option (te_):=ck (rm 1 (nadd (ln (none' UInt8)) (ln x.1.2.2.1))) (ob (qk3 (x.1.2.1,())) fun (a:te_)=>ck (rm 1 (nadd (ln (app (none' UInt8) x.1.2.2.1)) (ln a.1))) (ob (qiC ()) fun (a_1:tz_)=>lc (loop (fun (x_1:tm_)=>sel (lt x_1.1 (len (app (app (none' UInt8) x.1.2.2.1) a.1))) (ob (qc4 (x_1.2.1,app (app (none' UInt8) x.1.2.2.1) a.1,x_1.1,a_1.1,())) fun (a:tz_)=>some (LS.nx (i64 (iadd x_1.1 64),a.1,()))) (some (LS.ex 0 (x_1.1,x_1.2.1,())))) (0,x.1.1,())) (fun (a:tm_)=>none) (fun (i:Nat) (a:tm_)=>ck (neb i 0) (lc (loop (fun (x:tb_)=>sel (lt x.2.1 8) (ck (inB x.2.1 (ofn 8)) (ck (inB x.2.1 (ofn 8)) (ck (inB x.2.1 (ofn 8)) (ck (inB x.2.1 (ofn 8)) (ck (rm 1 (nadd (ln x.1) (ln [u8 (n32 (u32 (idiv (n32 (nth a.2.1 (nat x.2.1) (u32 0))) (n32 (u32 16777216))))),u8 (n32 (u32 (imod (n32 (u32 (idiv (n32 (nth a.2.1 (nat x.2.1) (u32 0))) (n32 (u32 65536))))) (n32 (u32 256))))),u8 (n32 (u32 (imod (n32 (u32 (idiv (n32 (nth a.2.1 (nat x.2.1) (u32 0))) (n32 (u32 256))))) (n32 (u32 256))))),u8 (n32 (u32 (imod (n32 (nth a.2.1 (nat x.2.1) (u32 0))) (n32 (u32 256)))))]))) (some (LS.nx (app x.1 [u8 (n32 (u32 (idiv (n32 (nth a.2.1 (nat x.2.1) (u32 0))) (n32 (u32 16777216))))),u8 (n32 (u32 (imod (n32 (u32 (idiv (n32 (nth a.2.1 (nat x.2.1) (u32 0))) (n32 (u32 65536))))) (n32 (u32 256))))),u8 (n32 (u32 (imod (n32 (u32 (idiv (n32 (nth a.2.1 (nat x.2.1) (u32 0))) (n32 (u32 256))))) (n32 (u32 256))))),u8 (n32 (u32 (imod (n32 (nth a.2.1 (nat x.2.1) (u32 0))) (n32 (u32 256)))))],i64 (iadd x.2.1 1),())))))))) (some (LS.ex 2 (x.1,x.2.1,())))) (none' UInt8,0,())) (fun (a:tb_)=>none) (fun (i:Nat) (a:tb_)=>ck (neb i 2) (some (a.1,()))) fun (r:BB×Unit)
 => some r)) fun (r:te_)=>some r))
noncomputable def qgH (x:tS_):Option (th_):=sel (lt (i64 (isub 1125899906842624 x.1.2.1)) (len x.2.1)) (some (x.1,())) (ck (rm 1 (nadd (ln (none' UInt8)) (ln x.1.2.2.1))) (ck (rm 1 (nadd (ln (app (none' UInt8) x.1.2.2.1)) (ln x.2.1))) (ob (qiC ()) fun (a:tz_)=>lc (loop (fun (x_1:tI_)=>sel (le 64 (i64 (isub (len (app (app (none' UInt8) x.1.2.2.1) x.2.1)) x_1.1))) (ob (qc4 (x_1.2.1.1,app (app (none' UInt8) x.1.2.2.1) x.2.1,x_1.1,a.1,())) fun (a:tz_)=>some (LS.nx (i64 (iadd x_1.1 64),(a.1,x_1.2.1.2),()))) (some (LS.ex 0 (x_1.1,x_1.2.1,())))) (0,x.1,())) (fun (a:tI_)=>none) (fun (i:Nat) (a:tI_)=>ck (neb i 0) (ck (inC a.1 (len (app (app (none' UInt8) x.1.2.2.1) x.2.1)) (len (app (app (none' UInt8) x.1.2.2.1) x.2.1))) (some ((a.2.1.1,i64 (iadd a.2.1.2.1 (len x.2.1)),cut (app (app (none' UInt8) x.1.2.2.1) x.2.1) (nat a.1) (nsub (nat (len (app (app (none' UInt8) x.1.2.2.1) x.2.1))) (nat a.1)),a.2.1.2.2.2),())))) fun (r:th_)=>some r)))
noncomputable def qqG (x:Unit):Option (th_):=some (([u32 1779033703,u32 3144134277,u32 1013904242,u32 2773480762,u32 1359893119,u32 2600822924,u32 528734635,u32 1541459225],0,none' UInt8,()),())
noncomputable def qeN (x:te_):Option (te_):=ob (qqG ()) fun (a:th_)=>ob (qgH (a.1,x.1,())) fun (a:th_)=>ob (qgG (a.1,())) fun (a:te_)=>some (a.1,())
noncomputable def qeM (x:te_):Option (te_):=ck (rm 1 (nadd (ln (none' UInt8)) (ln x.1))) (sel (lt 64 (len x.1)) (ob (qeN (x.1,())) fun (a:te_)=>lc (loop (fun (x:te_)=>sel (lt (len x.1) 64) (ck (rm 1 (nadd (ln x.1) (ln [u8 0]))) (some (LS.nx (app x.1 [u8 0],())))) (some (LS.ex 0 (x.1,())))) (a.1,())) (fun (a:te_)=>none) (fun (i:Nat) (a:te_)=>ck (neb i 0) (some (a.1,()))) fun (r:te_)=>some r) (lc (loop (fun (x:te_)=>sel (lt (len x.1) 64) (ck (rm 1 (nadd (ln x.1) (ln [u8 0]))) (some (LS.nx (app x.1 [u8 0],())))) (some (LS.ex 0 (x.1,())))) (app (none' UInt8) x.1,())) (fun (a:te_)=>none) (fun (i:Nat) (a:te_)=>ck (neb i 0) (some (a.1,()))) fun (r:te_)=>some r))
noncomputable def qgE (x:tT_):Option (te_):=ob (qeM (x.1,())) fun (a:te_)=>lc (loop (fun (x:t2_)=>sel (lt x.2.2.1 64) (ck (inB x.2.2.1 (len a.1)) (ck (rm 1 (nadd (ln x.1) (ln [u8 (xorI IntKind.u8 (n8 (nth a.1 (nat x.2.2.1) (u8 0))) (n8 (u8 54)))]))) (ck (inB x.2.2.1 (len a.1)) (ck (rm 1 (nadd (ln x.2.1) (ln [u8 (xorI IntKind.u8 (n8 (nth a.1 (nat x.2.2.1) (u8 0))) (n8 (u8 92)))]))) (some (LS.nx (app x.1 [u8 (xorI IntKind.u8 (n8 (nth a.1 (nat x.2.2.1) (u8 0))) (n8 (u8 54)))],app x.2.1 [u8 (xorI IntKind.u8 (n8 (nth a.1 (nat x.2.2.1) (u8 0))) (n8 (u8 92)))],i64 (iadd x.2.2.1 1),()))))))) (some (LS.ex 0 (x.1,x.2.1,x.2.2.1,())))) (none' UInt8,none' UInt8,0,())) (fun (a:t2_)=>none) (fun (i:Nat) (a:t2_)=>ck (neb i 0) (ck (rm 1 (nadd (ln a.1) (ln x.2.1))) (ob (qeN (app a.1 x.2.1,())) fun (a_1:te_)=>ck (rm 1 (nadd (ln a.2.1) (ln a_1.1))) (ob (qeN (app a.2.1 a_1.1,())) fun (a:te_)=>some (a.1,()))))) fun (r:te_)=>some r
noncomputable def qiB (x:BB×List BB×Unit):Option (te_):=ck (rm 1 (ln x.1)) (ck (rm 1 (nadd (ln [u8 (len x.1)]) (ln x.1))) (lc (loop (fun (x_1:tb_)=>sel (lt x_1.2.1 (len x.2.1)) (ck (inB x_1.2.1 (len x.2.1)) (ck (inB x_1.2.1 (len x.2.1)) (ck (rm 1 (nadd (ln x_1.1) (ln [u8 (i64 (idiv (len (nth x.2.1 (nat x_1.2.1) (none' UInt8))) 256)),u8 (imod (len (nth x.2.1 (nat x_1.2.1) (none' UInt8))) 256)]))) (ck (inB x_1.2.1 (len x.2.1)) (ck (rm 1 (nadd (ln (app x_1.1 [u8 (i64 (idiv (len (nth x.2.1 (nat x_1.2.1) (none' UInt8))) 256)),u8 (imod (len (nth x.2.1 (nat x_1.2.1) (none' UInt8))) 256)])) (ln (nth x.2.1 (nat x_1.2.1) (none' UInt8))))) (some (LS.nx (app (app x_1.1 [u8 (i64 (idiv (len (nth x.2.1 (nat x_1.2.1) (none' UInt8))) 256)),u8 (imod (len (nth x.2.1 (nat x_1.2.1) (none' UInt8))) 256)]) (nth x.2.1 (nat x_1.2.1) (none' UInt8)),i64 (iadd x_1.2.1 1),())))))))) (some (LS.ex 0 (x_1.1,x_1.2.1,())))) (app [u8 (len x.1)] x.1,0,())) (fun (a:tb_)=>none) (fun (i:Nat) (a:tb_)=>ck (neb i 0) (some (a.1,()))) fun (r:te_)=>some r))
noncomputable def wE (x:BB×BB×List BB×Unit):Option (tb_):=ob (sel (lt 255 (len x.2.1)) (some (true,())) (some (lt 16 (len x.2.2.1),()))) fun (a:ta_)=>sel a.1 (some (none' UInt8,1,())) (lc (loop (fun (x_1:tg_)=>sel (lt x_1.2.1 (len x.2.2.1)) (ck (inB x_1.2.1 (len x.2.2.1)) (sel (lt 65535 (len (nth x.2.2.1 (nat x_1.2.1) (none' UInt8)))) (some (LS.rt (none' UInt8,1,()))) (some (LS.nx (x_1.1,i64 (iadd x_1.2.1 1),()))))) (some (LS.ex 0 (x_1.1,x_1.2.1,())))) (0,0,())) (fun (a:tg_)=>none) (fun (i:Nat) (a:tg_)=>ck (neb i 0) (ob (qiB (x.2.1,x.2.2.1,())) fun (a:te_)=>ob (qgE (x.1,a.1,())) fun (a:te_)=>some (a.1,0,()))) fun (r:tb_)=>some r)
noncomputable def qf8 (x:BB×List Int×Int×BB×Unit):Option (te_):=ck (inB 0 (ofn 2)) (ob (wC (nth x.2.1 (nat 0) 0,())) fun (a:ta_)=>ck (inB 1 (ofn 2)) (ob (wC (nth x.2.1 (nat 1) 0,())) fun (a_1:ta_)=>ob (sel (bnot a.1) (some (true,())) (sel (bnot a_1.1) (some (true,())) (sel (lt x.2.2.1 0) (some (true,())) (some (lt 2147483647 x.2.2.1,()))))) fun (a:ta_)=>sel a.1 (some (none' UInt8,())) (ck (inB 0 (ofn 2)) (ob (kS (nth x.2.1 (nat 0) 0,8,())) fun (a:tb_)=>ck (inB 1 (ofn 2)) (ob (kS (nth x.2.1 (nat 1) 0,8,())) fun (a_2:tb_)=>ob (kS (x.2.2.1,4,())) fun (a_3:tb_)=>ob (wE (x.1,[108,105,110,107],[a.1,a_2.1,a_3.1,x.2.2.2.1],())) fun (a:tb_)=>some (a.1,()))))))
noncomputable def qbN (x:tf_):Option (tb_):=ob (sel (lt x.1 1) (some (true,())) (some (lt 4611686018427387904 x.1,()))) fun (a:ta_)=>sel a.1 (some (none' UInt8,1,())) (ob (kS (x.1,8,())) fun (a:tb_)=>ck (rm 1 (nadd (ln [u8 121,u8 101,u8 116,u8 116]) (ln a.1))) (ob (qeN (app [u8 121,u8 101,u8 116,u8 116] a.1,())) fun (a_1:te_)=>ck (rm 1 (nadd (ln (none' UInt8)) (ln a.1))) (ck (inC 0 8 (len a_1.1)) (ck (rm 1 (nadd (ln (app (none' UInt8) a.1)) (ln (cut a_1.1 (nat 0) (nsub (nat 8) (nat 0)))))) (some (app (app (none' UInt8) a.1) (cut a_1.1 (nat 0) (nsub (nat 8) (nat 0))),0,()))))))
noncomputable def qgA (x:Unit):Option (t0_):=ob (qbN (1,())) fun (a:tb_)=>ck (band (inC 0 16 16) (rm 1 (nat 16))) (some ((a.1,rep (nat 16) (u8 0),()),()))
noncomputable def qk1 (x:ta_):Option (wO×Unit):=some ((x.1,none' (BB×BB×Unit),false,()),())
noncomputable def qc0 (x:(BB×Int×Int×Unit)×UInt8×Unit):Option (tQ_):=sel (lt 0 x.1.2.1) (some ((x.1.1,i64 (isub x.1.2.1 1),x.1.2.2),none' UInt8,())) (ck (rm 1 (nadd (ln (none' UInt8)) (ln x.1.1))) (ck (rm 1 (nadd (ln (app (none' UInt8) x.1.1)) (ln [x.2.1]))) (sel (lt (len (app (app (none' UInt8) x.1.1) [x.2.1])) 2) (some ((app (app (none' UInt8) x.1.1) [x.2.1],x.1.2),none' UInt8,())) (ck (inB 0 (len (app (app (none' UInt8) x.1.1) [x.2.1]))) (ck (inB 1 (len (app (app (none' UInt8) x.1.1) [x.2.1]))) (ob (sel (beq (i64 (iadd (i64 (imul 256 (i64 (n8 (nth (app (app (none' UInt8) x.1.1) [x.2.1]) (nat 0) (u8 0)))))) (i64 (n8 (nth (app (app (none' UInt8) x.1.1) [x.2.1]) (nat 1) (u8 0)))))) 0) (some (true,())) (some (lt 1024 (i64 (iadd (i64 (imul 256 (i64 (n8 (nth (app (app (none' UInt8) x.1.1) [x.2.1]) (nat 0) (u8 0)))))) (i64 (n8 (nth (app (app (none' UInt8) x.1.1) [x.2.1]) (nat 1) (u8 0)))))),()))) fun (a:ta_)=>sel a.1 (some ((none' UInt8,i64 (iadd (i64 (imul 256 (i64 (n8 (nth (app (app (none' UInt8) x.1.1) [x.2.1]) (nat 0) (u8 0)))))) (i64 (n8 (nth (app (app (none' UInt8) x.1.1) [x.2.1]) (nat 1) (u8 0))))),i64 (iadd x.1.2.2.1 1),()),none' UInt8,())) (sel (lt (len (app (app (none' UInt8) x.1.1) [x.2.1])) (i64 (iadd (i64 (iadd (i64 (imul 256 (i64 (n8 (nth (app (app (none' UInt8) x.1.1) [x.2.1]) (nat 0) (u8 0)))))) (i64 (n8 (nth (app (app (none' UInt8) x.1.1) [x.2.1]) (nat 1) (u8 0)))))) 2))) (some ((app (app (none' UInt8) x.1.1) [x.2.1],x.1.2),none' UInt8,())) (ck (inC 2 (len (app (app (none' UInt8) x.1.1) [x.2.1])) (len (app (app (none' UInt8) x.1.1) [x.2.1]))) (some ((none' UInt8,0,x.1.2.2.1,()),cut (app (app (none' UInt8) x.1.1) [x.2.1]) (nat 2) (nsub (nat (len (app (app (none' UInt8) x.1.1) [x.2.1]))) (nat 2)),()))))))))))
noncomputable def qmT (x:tQ_):Option (tN_):=lc (loop (fun (x_1:tF_)=>sel (lt x_1.2.1 (len x.2.1)) (ck (inB x_1.2.1 (len x.2.1)) (ob (qc0 (x_1.2.2.1,nth x.2.1 (nat x_1.2.1) (u8 0),())) fun (a:tQ_)=>sel (lt 0 (len a.2.1)) (ck (rm 32 (nadd (ln x_1.1) (ln [a.2.1]))) (some (LS.nx (app x_1.1 [a.2.1],i64 (iadd x_1.2.1 1),a.1,())))) (some (LS.nx (x_1.1,i64 (iadd x_1.2.1 1),a.1,()))))) (some (LS.ex 0 (x_1.1,x_1.2.1,x_1.2.2.1,())))) (none' BB,0,x.1,())) (fun (a:tF_)=>none) (fun (i:Nat) (a:tF_)=>ck (neb i 0) (some (a.2.2.1,a.1,()))) fun (r:tN_)=>some r
noncomputable def qaG (x:te_):Option (te_):=ob (qmT ((none' UInt8,0,0,()),x.1,())) fun (a:tN_)=>sel (bnot (beq (len a.2.1) 1)) (some (none' UInt8,())) (ck (inB 0 (len a.2.1)) (some (nth a.2.1 (nat 0) (none' UInt8),())))
noncomputable def vL (x:tl_):Option (tf_):=ob (qaA (x.1,x.2.1,x.2.2.1,())) fun (a:tM_)=>sel (bnot (beq a.2.2.1 0)) (some (-1,())) (some (a.1,()))
noncomputable def kB (x:tf_):Option (ta_):=ob (sel (le 0 x.1) (some (le x.1 4611686018427387904,())) (some (false,()))) fun (a:ta_)=>some (a.1,())
noncomputable def qaS (x:Ti_):Option (ta_):=ck (inB 0 (ofn 2)) (ob (kB (nth x.1.2.2.1 (nat 0) 0,())) fun (a:ta_)=>ck (inB 1 (ofn 2)) (ob (kB (nth x.1.2.2.1 (nat 1) 0,())) fun (a_1:ta_)=>ob (kB (x.1.2.2.2.2.1,())) fun (a_2:ta_)=>ob (sel a.1 (sel a_1.1 (sel a_2.1 (sel (beq x.1.1 1) (sel (beq x.1.2.1 0) (sel (le 0 x.1.2.2.2.1) (sel (le x.1.2.2.2.1 2147483647) (sel (le 1 (len x.1.2.2.2.2.2.1)) (some (le (len x.1.2.2.2.2.2.1) 900,())) (some (false,()))) (some (false,()))) (some (false,()))) (sel (beq x.1.2.1 1) (sel (le 0 x.1.2.2.2.1) (sel (le x.1.2.2.2.1 2147483647) (sel (le 1 (len x.1.2.2.2.2.2.1)) (some (le (len x.1.2.2.2.2.2.1) 900,())) (some (false,()))) (some (false,()))) (some (false,()))) (some (false,())))) (sel (beq x.1.1 2) (sel (beq x.1.2.1 0) (sel (le 0 x.1.2.2.2.1) (sel (le x.1.2.2.2.1 2147483647) (sel (le 1 (len x.1.2.2.2.2.2.1)) (some (le (len x.1.2.2.2.2.2.1) 900,())) (some (false,()))) (some (false,()))) (some (false,()))) (sel (beq x.1.2.1 1) (sel (le 0 x.1.2.2.2.1) (sel (le x.1.2.2.2.1 2147483647) (sel (le 1 (len x.1.2.2.2.2.2.1)) (some (le (len x.1.2.2.2.2.2.1) 900,())) (some (false,()))) (some (false,()))) (some (false,()))) (some (false,())))) (some (false,())))) (some (false,()))) (some (false,()))) (some (false,()))) fun (a:ta_)=>some (a.1,())))
noncomputable def qaT (x:Ti_):Option (ta_):=ob (qaS (x.1,())) fun (a:ta_)=>ob (sel a.1 (some (beq (len x.1.2.2.2.2.2.2.1) 16,())) (some (false,()))) fun (a:ta_)=>some (a.1,())
noncomputable def qh3 (x:te_):Option (TEnv×Int×Unit):=sel (lt (len x.1) 47) (some ((0,0,[0,0],0,0,none' UInt8,none' UInt8,()),3,())) (sel (lt 946 (len x.1)) (some ((0,0,[0,0],0,0,none' UInt8,none' UInt8,()),4,())) (ob (vL (x.1,0,1,())) fun (a:tf_)=>ob (vL (x.1,1,1,())) fun (a_1:tf_)=>ob (vL (x.1,2,8,())) fun (a_2:tf_)=>ob (vL (x.1,10,8,())) fun (a_3:tf_)=>ob (vL (x.1,18,4,())) fun (a_4:tf_)=>ob (vL (x.1,22,8,())) fun (a_5:tf_)=>ck (inC 30 (i64 (isub (len x.1) 16)) (len x.1)) (ck (inC (i64 (isub (len x.1) 16)) (len x.1) (len x.1)) (ob (qaT ((a.1,a_1.1,[a_2.1,a_3.1],a_4.1,a_5.1,sub x.1 30 (i64 (isub (len x.1) 16)),sub x.1 (i64 (isub (len x.1) 16)) (len x.1),()),())) fun (a_6:ta_)=>sel (bnot a_6.1) (some ((0,0,[0,0],0,0,none' UInt8,none' UInt8,()),2,())) (some ((a.1,a_1.1,[a_2.1,a_3.1],a_4.1,a_5.1,sub x.1 30 (i64 (isub (len x.1) 16)),sub x.1 (i64 (isub (len x.1) 16)) (len x.1),()),0,()))))))
noncomputable def v4 (x:Tb_):Option (Ta_):=lc (loop (fun (x_1:Tc_)=>sel (lt x_1.1 4) (ck (inB x_1.1 (len [2,5,6,13])) (sel (beq (nth [2,5,6,13] (nat x_1.1) 0) x.2.1) (ck (inB x_1.1 (ofn 4)) (ck (inB x_1.1 (ofn 4)) (some (LS.nx (i64 (iadd x_1.1 1),((x_1.2.1.1.1,x_1.2.1.1.2.1,x_1.2.1.1.2.2.1,x_1.2.1.1.2.2.2.1,x_1.2.1.1.2.2.2.2.1,x_1.2.1.1.2.2.2.2.2.1,x_1.2.1.1.2.2.2.2.2.2.1,x_1.2.1.1.2.2.2.2.2.2.2.1,x_1.2.1.1.2.2.2.2.2.2.2.2.1,x_1.2.1.1.2.2.2.2.2.2.2.2.2.1,x_1.2.1.1.2.2.2.2.2.2.2.2.2.2.1,x_1.2.1.1.2.2.2.2.2.2.2.2.2.2.2.1,x_1.2.1.1.2.2.2.2.2.2.2.2.2.2.2.2.1,x_1.2.1.1.2.2.2.2.2.2.2.2.2.2.2.2.2.1,x_1.2.1.1.2.2.2.2.2.2.2.2.2.2.2.2.2.2.1,x_1.2.1.1.2.2.2.2.2.2.2.2.2.2.2.2.2.2.2.1,x_1.2.1.1.2.2.2.2.2.2.2.2.2.2.2.2.2.2.2.2.1,x_1.2.1.1.2.2.2.2.2.2.2.2.2.2.2.2.2.2.2.2.2.1,upd x_1.2.1.1.2.2.2.2.2.2.2.2.2.2.2.2.2.2.2.2.2.2.1 (nat x_1.1) (i64 (iadd (nth x_1.2.1.1.2.2.2.2.2.2.2.2.2.2.2.2.2.2.2.2.2.2.1 (nat x_1.1) 0) 1)),x_1.2.1.1.2.2.2.2.2.2.2.2.2.2.2.2.2.2.2.2.2.2.2),x_1.2.1.2),()))))) (some (LS.nx (i64 (iadd x_1.1 1),x_1.2.1,()))))) (some (LS.ex 0 (x_1.1,x_1.2.1,())))) (0,x.1,())) (fun (a:Tc_)=>none) (fun (i:Nat) (a:Tc_)=>ck (neb i 0) (some (a.2.1,()))) fun (r:Ta_)=>some r
noncomputable def wD (x:tf_):Option (ta_):=ob (sel (le 2 x.1) (some (le x.1 6,())) (some (false,()))) fun (a:ta_)=>some (a.1,())
noncomputable def qcV (x:Tk_):Option (tB_):=sel (beq x.1.1 0) (some ([x.1.2.2.2.2.2.1,x.1.2.2.2.2.2.2.1],())) (sel (beq x.1.1 1) (some ([x.1.2.2.2.2.2.2.1,x.1.2.2.2.2.2.1],())) (some ([0,0],())))
noncomputable def qcY (x:Td_):Option (tr_):=sel (lt x.2.1 1) (some (none' UInt8,false,())) (sel (beq x.1.1.1 x.2.1) (some (x.1.1.2.1,true,())) (sel (beq x.1.2.1.1 x.2.1) (some (x.1.2.1.2.1,true,())) (sel (beq x.1.2.2.1.1 x.2.1) (some (x.1.2.2.1.2.1,true,())) (some (none' UInt8,false,())))))
noncomputable def qeB (x:TEnd×TEnv×Unit):Option (ta_):=ob (sel (bnot (beq x.2.1.2.1 (i64 (isub 1 x.1.1)))) (some (true,())) (sel (beq x.1.2.2.1 7) (some (true,())) (some (beq x.1.2.2.1 8,())))) fun (a:ta_)=>sel a.1 (some (true,())) (sel (beq x.2.1.1 1) (some (false,())) (ob (qcV (x.1,())) fun (a:tB_)=>ob (wD (x.1.2.2.1,())) fun (a_1:ta_)=>ob (qcY (x.1.2.2.2.2.2.2.2.2.2.2.1,x.2.1.2.2.2.1,())) fun (a_2:tr_)=>ob (sel (bnot a_1.1) (some (true,())) (sel (bnot a_2.2.1) (some (true,())) (ck (inB 0 (ofn 2)) (ck (inB 0 (ofn 2)) (sel (bnot (beq (nth x.2.1.2.2.1 (nat 0) 0) (nth a.1 (nat 0) 0))) (some (true,())) (ck (inB 1 (ofn 2)) (ck (inB 1 (ofn 2)) (some (bnot (beq (nth x.2.1.2.2.1 (nat 1) 0) (nth a.1 (nat 1) 0)),()))))))))) fun (a:ta_)=>some (a.1,())))
noncomputable def qh0 (x:te_):Option (te_):=ob (wE (x.1,[98,97,115,101],none' BB,())) fun (a:tb_)=>some (a.1,())
noncomputable def jP (x:tg_):Option (te_):=ob (kS (x.1,x.2.1,())) fun (a:tb_)=>some (a.1,())
noncomputable def qaU (x:Ti_):Option (tb_):=ob (qaS (x.1,())) fun (a:ta_)=>sel (bnot a.1) (some (none' UInt8,1,())) (ob (jP (x.1.1,1,())) fun (a:te_)=>ob (jP (x.1.2.1,1,())) fun (a_1:te_)=>ck (rm 1 (nadd (ln a.1) (ln a_1.1))) (ck (inB 0 (ofn 2)) (ob (jP (nth x.1.2.2.1 (nat 0) 0,8,())) fun (a_2:te_)=>ck (rm 1 (nadd (ln (app a.1 a_1.1)) (ln a_2.1))) (ck (inB 1 (ofn 2)) (ob (jP (nth x.1.2.2.1 (nat 1) 0,8,())) fun (a_3:te_)=>ck (rm 1 (nadd (ln (app (app a.1 a_1.1) a_2.1)) (ln a_3.1))) (ob (jP (x.1.2.2.2.1,4,())) fun (a_4:te_)=>ck (rm 1 (nadd (ln (app (app (app a.1 a_1.1) a_2.1) a_3.1)) (ln a_4.1))) (ob (jP (x.1.2.2.2.2.1,8,())) fun (a_5:te_)=>ck (rm 1 (nadd (ln (app (app (app (app a.1 a_1.1) a_2.1) a_3.1) a_4.1)) (ln a_5.1))) (ck (rm 1 (nadd (ln (app (app (app (app (app a.1 a_1.1) a_2.1) a_3.1) a_4.1) a_5.1)) (ln x.1.2.2.2.2.2.1))) (some (app (app (app (app (app (app a.1 a_1.1) a_2.1) a_3.1) a_4.1) a_5.1) x.1.2.2.2.2.2.1,0,()))))))))))
noncomputable def qeL (x:tT_):Option (te_):=ob (qgE (x.1,x.2.1,())) fun (a:te_)=>ck (inC 0 16 (len a.1)) (some (cut a.1 (nat 0) (nsub (nat 16) (nat 0)),()))
noncomputable def qk2 (x:Th_):Option (ta_):=lc (loop (fun (x_1:tc_)=>sel (lt x_1.2.1 (len x.1.2.1)) (ck (inB x_1.2.1 (len x.1.2.1)) (ob (z1 ((nth x.1.2.1 (nat x_1.2.1) (none' UInt8,none' UInt8,())).1,x.2.1,())) fun (a:ta_)=>ob (sel a.1 (ck (inB x_1.2.1 (len x.1.2.1)) (ob (z1 ((nth x.1.2.1 (nat x_1.2.1) (none' UInt8,none' UInt8,())).2.1,x.2.2.1,())) fun (a:ta_)=>some (a.1,()))) (some (false,()))) fun (a:ta_)=>sel a.1 (some (LS.rt (true,()))) (some (LS.nx (x_1.1,i64 (iadd x_1.2.1 1),()))))) (some (LS.ex 0 (x_1.1,x_1.2.1,())))) (false,0,())) (fun (a:tc_)=>none) (fun (i:Nat) (a:tc_)=>ck (neb i 0) (some (false,()))) fun (r:ta_)=>some r
noncomputable def qaX (x:wO×BB×BB×BB×Unit):Option (Tl_):=ob (qeL (x.2.1,x.2.2.1,())) fun (a:te_)=>ob (z1 (a.1,x.2.2.2.1,())) fun (a:ta_)=>sel (bnot a.1) (some (x.1,false,())) (ob (qk2 (x.1,x.2.1,x.2.2.1,())) fun (a:ta_)=>sel (bnot a.1) (sel a.1 (some ((x.1.1,x.1.2.1,true,x.1.2.2.2),true,())) (some ((x.1.1,x.1.2.1,true,x.1.2.2.2),bnot x.1.1,()))) (sel a.1 (some (x.1,true,())) (some (x.1,bnot x.1.1,()))))
noncomputable def yS (x:tf_):Option (t7_):=lc (loop (fun (x_1:t4_)=>sel (lt x_1.2.1 x.1) (some (LS.nx (u64 (imul (n64 (u64 2)) (n64 x_1.1)),i64 (iadd x_1.2.1 1),()))) (some (LS.ex 0 (x_1.1,x_1.2.1,())))) (u64 1,0,())) (fun (a:t4_)=>none) (fun (i:Nat) (a:t4_)=>ck (neb i 0) (some (a.1,()))) fun (r:t7_)=>some r
noncomputable def qgC (x:tq_):Option (ta_):=ck (inB (i64 (idiv x.2.1 64)) (ofn 16)) (ob (yS (imod x.2.1 64,())) fun (a:t7_)=>ck (bnot (beq (n64 a.1) 0)) (some (beq (n64 (u64 (imod (n64 (u64 (idiv (n64 (nth x.1.2.1 (nat (i64 (idiv x.2.1 64))) (u64 0))) (n64 a.1)))) (n64 (u64 2))))) (n64 (u64 1)),())))
noncomputable def qeG (x:tq_):Option (ta_):=ob (sel (lt x.2.1 0) (some (true,())) (sel (lt 4611686018427387904 x.2.1) (some (true,())) (some (lt x.2.1 (i64 (isub x.1.1 1024)),())))) fun (a:ta_)=>sel a.1 (some (false,())) (ob (sel (le x.1.1 x.2.1) (some (true,())) (ob (qgC (x.1,imod x.2.1 1024,())) fun (a:ta_)=>some (bnot a.1,()))) fun (a:ta_)=>some (a.1,()))
noncomputable def qeF (x:(Int×List UInt64×Unit)×Unit):Option (tB_):=lc (loop (fun (x_1:ty_)=>sel (lt x_1.2.1 x.1.1) (ob (qgC (x.1,imod x_1.2.1 1024,())) fun (a:ta_)=>sel a.1 (ck (rm 32 (nadd (ln x_1.1) (ln [x_1.2.1]))) (some (LS.nx (app x_1.1 [x_1.2.1],i64 (iadd x_1.2.1 1),())))) (some (LS.nx (x_1.1,i64 (iadd x_1.2.1 1),())))) (some (LS.ex 0 (x_1.1,x_1.2.1,())))) (none' Int,maxI 0 (i64 (isub x.1.1 1024)),())) (fun (a:ty_)=>none) (fun (i:Nat) (a:ty_)=>ck (neb i 0) (some (a.1,()))) fun (r:tB_)=>some r
noncomputable def qcZ (x:tq_):Option (tq_):=ob (sel (lt x.2.1 0) (some (true,())) (some (lt 4611686018427387904 x.2.1,()))) fun (a:ta_)=>sel a.1 (some (x.1,1,())) (ob (qeG (x.1,x.2.1,())) fun (a:ta_)=>sel (bnot a.1) (some (x.1,6,())) (ob (sel (le x.1.1 x.2.1) (some (i64 (iadd x.2.1 1),())) (some (x.1.1,()))) fun (a:tf_)=>ob (qeF (x.1,())) fun (a_1:tB_)=>ck (rm 32 (nadd (ln a_1.1) (ln [x.2.1]))) (lc (loop (fun (x_1:tO_)=>sel (lt x_1.1 (len (app a_1.1 [x.2.1]))) (ck (inB x_1.1 (len (app a_1.1 [x.2.1]))) (ck (inB x_1.1 (len (app a_1.1 [x.2.1]))) (sel (le (i64 (isub a.1 1024)) (nth (app a_1.1 [x.2.1]) (nat x_1.1) 0)) (ck (inB (i64 (idiv (imod (nth (app a_1.1 [x.2.1]) (nat x_1.1) 0) 1024) 64)) (ofn 16)) (ob (yS (imod (imod (nth (app a_1.1 [x.2.1]) (nat x_1.1) 0) 1024) 64,())) fun (a:t7_)=>ck (inB (i64 (idiv (imod (nth (app a_1.1 [x.2.1]) (nat x_1.1) 0) 1024) 64)) (ofn 16)) (some (LS.nx (i64 (iadd x_1.1 1),(x_1.2.1.1,upd x_1.2.1.2.1 (nat (i64 (idiv (imod (nth (app a_1.1 [x.2.1]) (nat x_1.1) 0) 1024) 64))) (u64 (iadd (n64 (nth x_1.2.1.2.1 (nat (i64 (idiv (imod (nth (app a_1.1 [x.2.1]) (nat x_1.1) 0) 1024) 64))) (u64 0))) (n64 a.1))),x_1.2.1.2.2),()))))) (some (LS.nx (i64 (iadd x_1.1 1),x_1.2.1,())))))) (some (LS.ex 0 (x_1.1,x_1.2.1,())))) (0,(a.1,[u64 0,u64 0,u64 0,u64 0,u64 0,u64 0,u64 0,u64 0,u64 0,u64 0,u64 0,u64 0,u64 0,u64 0,u64 0,u64 0],()),())) (fun (a:tO_)=>none) (fun (i:Nat) (a:tO_)=>ck (neb i 0) (some (a.2.1,0,()))) fun (r:tq_)=>some r)))
noncomputable def qaH (x:y5×BB×Unit):Option (Te_):=ob (qh3 (x.2.1,())) fun (a:TEnv×Int×Unit)=>sel (bnot (beq a.2.1 0)) (ob (v4 (x.1,2,())) fun (a:Ta_)=>some (a.1,(0,0,[0,0],0,0,none' UInt8,none' UInt8,()),2,())) (ob (qeB (x.1.1,a.1,())) fun (a_1:ta_)=>sel a_1.1 (ob (v4 (x.1,13,())) fun (a:Ta_)=>some (a.1,(0,0,[0,0],0,0,none' UInt8,none' UInt8,()),13,())) (ob (qh0 (x.1.1.2.1,())) fun (a_2:te_)=>sel (beq a.1.1 2) (ob (qcY (x.1.1.2.2.2.2.2.2.2.2.2.2.1,a.1.2.2.2.1,())) fun (a_3:tr_)=>ob (qaU (a.1,())) fun (a_4:tb_)=>ob (qaX (x.1.2.1,a_3.1,a_4.1,a.1.2.2.2.2.2.2.1,())) fun (a_5:Tl_)=>sel (bnot a_5.2.1) (ob (v4 ((x.1.1,a_5.1,x.1.2.2),5,())) fun (a:Ta_)=>some (a.1,(0,0,[0,0],0,0,none' UInt8,none' UInt8,()),5,())) (sel (beq a.1.1 1) (some ((x.1.1,a_5.1,x.1.2.2),a.1,0,())) (ob (qcZ (x.1.1.2.2.2.2.2.2.2.2.2.1,a.1.2.2.2.2.1,())) fun (a_6:tq_)=>sel (bnot (beq a_6.2.1 0)) (ob (v4 ((x.1.1,a_5.1,x.1.2.2),6,())) fun (a:Ta_)=>some (a.1,(0,0,[0,0],0,0,none' UInt8,none' UInt8,()),6,())) (ob (sel (beq x.1.1.2.2.2.2.2.2.2.2.2.2.1.2.2.1.1 a.1.2.2.2.1) (some (bnot (beq x.1.1.2.2.1 4),())) (some (false,()))) fun (a_7:ta_)=>sel a_7.1 (ob (qcX (x.1.1.2.2.2.2.2.2.2.2.2.2.1,())) fun (a_8:Td_)=>some (((x.1.1.1,x.1.1.2.1,x.1.1.2.2.1,x.1.1.2.2.2.1,x.1.1.2.2.2.2.1,x.1.1.2.2.2.2.2.1,x.1.1.2.2.2.2.2.2.1,x.1.1.2.2.2.2.2.2.2.1,x.1.1.2.2.2.2.2.2.2.2.1,a_6.1,a_8.1,x.1.1.2.2.2.2.2.2.2.2.2.2.2),a_5.1,x.1.2.2),a.1,0,())) (some (((x.1.1.1,x.1.1.2.1,x.1.1.2.2.1,x.1.1.2.2.2.1,x.1.1.2.2.2.2.1,x.1.1.2.2.2.2.2.1,x.1.1.2.2.2.2.2.2.1,
 x.1.1.2.2.2.2.2.2.2.1,x.1.1.2.2.2.2.2.2.2.2.1,a_6.1,x.1.1.2.2.2.2.2.2.2.2.2.2),a_5.1,x.1.2.2),a.1,0,())))))) (ob (qaU (a.1,())) fun (a_3:tb_)=>ob (qaX (x.1.2.1,a_2.1,a_3.1,a.1.2.2.2.2.2.2.1,())) fun (a_4:Tl_)=>sel (bnot a_4.2.1) (ob (v4 ((x.1.1,a_4.1,x.1.2.2),5,())) fun (a:Ta_)=>some (a.1,(0,0,[0,0],0,0,none' UInt8,none' UInt8,()),5,())) (sel (beq a.1.1 1) (some ((x.1.1,a_4.1,x.1.2.2),a.1,0,())) (ob (qcZ (x.1.1.2.2.2.2.2.2.2.2.2.1,a.1.2.2.2.2.1,())) fun (a_5:tq_)=>sel (bnot (beq a_5.2.1 0)) (ob (v4 ((x.1.1,a_4.1,x.1.2.2),6,())) fun (a:Ta_)=>some (a.1,(0,0,[0,0],0,0,none' UInt8,none' UInt8,()),6,())) (ob (sel (beq x.1.1.2.2.2.2.2.2.2.2.2.2.1.2.2.1.1 a.1.2.2.2.1) (some (bnot (beq x.1.1.2.2.1 4),())) (some (false,()))) fun (a_6:ta_)=>sel a_6.1 (ob (qcX (x.1.1.2.2.2.2.2.2.2.2.2.2.1,())) fun (a_7:Td_)=>some (((x.1.1.1,x.1.1.2.1,x.1.1.2.2.1,x.1.1.2.2.2.1,x.1.1.2.2.2.2.1,x.1.1.2.2.2.2.2.1,x.1.1.2.2.2.2.2.2.1,x.1.1.2.2.2.2.2.2.2.1,x.1.1.2.2.2.2.2.2.2.2.1,a_5.1,a_7.1,x.1.1.2.2.2.2.2.2.2.2.2.2.2),a_4.1,x.1.2.2),a.1,0,())) (some (((x.1.1.1,x.1.1.2.1,x.1.1.2.2.1,x.1.1.2.2.2.1,x.1.1.2.2.2.2.1,x.1.1.2.2.2.2.2.1,x.1.1.2.2.2.2.2.2.1,x.1.1.2.2.2.2.2.2.2.1,x.1.1.2.2.2.2.2.2.2.2.1,a_5.1,x.1.1.2.2.2.2.2.2.2.2.2.2),a_4.1,x.1.2.2),a.1,0,()))))))))
noncomputable def qh6 (x:(BB×Int×Int×Unit)×(BB×Int×Int×Unit)×Unit):Option (ta_):=ob (z1 (x.1.1,x.2.1.1,())) fun (a:ta_)=>ob (sel a.1 (sel (beq x.1.2.1 x.2.1.2.1) (some (beq x.1.2.2.1 x.2.1.2.2.1,())) (some (false,()))) (some (false,()))) fun (a:ta_)=>some (a.1,())
noncomputable def kO (x:tR_):Option (ta_):=ob (sel (beq x.1.1 x.2.1.1) (ob (z1 (x.1.2.1,x.2.1.2.1,())) fun (a:ta_)=>some (a.1,())) (some (false,()))) fun (a:ta_)=>some (a.1,())
noncomputable def qh4 (x:qdZ×qdZ×Unit):Option (ta_):=ob (kO (x.1.1,x.2.1.1,())) fun (a:ta_)=>ob (kO (x.1.2.1,x.2.1.2.1,())) fun (a_1:ta_)=>ob (kO (x.1.2.2.1,x.2.1.2.2.1,())) fun (a_2:ta_)=>ob (sel a.1 (sel a_1.1 (sel a_2.1 (sel (beq x.1.2.2.2.1 x.2.1.2.2.2.1) (some (beq x.1.2.2.2.2.1 x.2.1.2.2.2.2.1,())) (some (false,()))) (some (false,()))) (some (false,()))) (some (false,()))) fun (a:ta_)=>some (a.1,())
noncomputable def qiD (x:List BB×List BB×Unit):Option (ta_):=sel (bnot (beq (len x.1) (len x.2.1))) (some (false,())) (lc (loop (fun (x_1:tc_)=>sel (lt x_1.2.1 (len x.1)) (ck (inB x_1.2.1 (len x.1)) (ck (inB x_1.2.1 (len x.2.1)) (sel (bnot (seq (nth x.1 (nat x_1.2.1) (none' UInt8)) (nth x.2.1 (nat x_1.2.1) (none' UInt8)))) (some (LS.rt (false,()))) (some (LS.nx (x_1.1,i64 (iadd x_1.2.1 1),())))))) (some (LS.ex 0 (x_1.1,x_1.2.1,())))) (false,0,())) (fun (a:tc_)=>none) (fun (i:Nat) (a:tc_)=>ck (neb i 0) (some (true,()))) fun (r:ta_)=>some r)
noncomputable def qh2 (x:(BB×BB×Unit)×(BB×BB×Unit)×Unit):Option (ta_):=ob (z1 (x.1.1,x.2.1.1,())) fun (a:ta_)=>ob (sel a.1 (ob (z1 (x.1.2.1,x.2.1.2.1,())) fun (a:ta_)=>some (a.1,())) (some (false,()))) fun (a:ta_)=>some (a.1,())
noncomputable def qh1 (x:TAsk×TAsk×Unit):Option (ta_):=ob (sel (beq x.1.1 x.2.1.1) (sel (beq x.1.2.1 x.2.1.2.1) (sel (beq x.1.2.2.1 x.2.1.2.2.1) (sel (beq x.1.2.2.2.1 x.2.1.2.2.2.1) (ob (z1 (x.1.2.2.2.2.1,x.2.1.2.2.2.2.1,())) fun (a:ta_)=>some (a.1,())) (some (false,()))) (some (false,()))) (some (false,()))) (some (false,()))) fun (a:ta_)=>some (a.1,())
noncomputable def qh5 (x:THub×THub×Unit):Option (ta_):=lc (loop (fun (x_1:tc_)=>sel (lt x_1.2.1 4) (ck (inB x_1.2.1 (ofn 4)) (ck (inB x_1.2.1 (ofn 4)) (ob (qh6 (nth x.1.2.1 (nat x_1.2.1) (none' UInt8,0,0,()),nth x.2.1.2.1 (nat x_1.2.1) (none' UInt8,0,0,()),())) fun (a:ta_)=>ob (sel (bnot a.1) (some (true,())) (ck (inB x_1.2.1 (ofn 4)) (ck (inB x_1.2.1 (ofn 4)) (sel (bnot (beb (nth x.1.1 (nat x_1.2.1) false) (nth x.2.1.1 (nat x_1.2.1) false))) (some (true,())) (ck (inB x_1.2.1 (ofn 4)) (ck (inB x_1.2.1 (ofn 4)) (some (bnot (beq (nth x.1.2.2.1 (nat x_1.2.1) 0) (nth x.2.1.2.2.1 (nat x_1.2.1) 0)),())))))))) fun (a:ta_)=>sel a.1 (some (LS.rt (false,()))) (some (LS.nx (x_1.1,i64 (iadd x_1.2.1 1),())))))) (some (LS.ex 0 (x_1.1,x_1.2.1,())))) (false,0,())) (fun (a:tc_)=>none) (fun (i:Nat) (a:tc_)=>ck (neb i 0) (some (beq x.1.2.2.2.1 x.2.1.2.2.2.1,()))) fun (r:ta_)=>some r
noncomputable def qhY (x:List (Int×BB×Unit)×List (Int×BB×Unit)×Unit):Option (ta_):=sel (bnot (beq (len x.1) (len x.2.1))) (some (false,())) (lc (loop (fun (x_1:tc_)=>sel (lt x_1.2.1 (len x.1)) (ck (inB x_1.2.1 (len x.1)) (ck (inB x_1.2.1 (len x.2.1)) (ob (sel (bnot (beq (nth x.1 (nat x_1.2.1) (0,none' UInt8,())).1 (nth x.2.1 (nat x_1.2.1) (0,none' UInt8,())).1)) (some (true,())) (ck (inB x_1.2.1 (len x.1)) (ck (inB x_1.2.1 (len x.2.1)) (ob (z1 ((nth x.1 (nat x_1.2.1) (0,none' UInt8,())).2.1,(nth x.2.1 (nat x_1.2.1) (0,none' UInt8,())).2.1,())) fun (a:ta_)=>some (bnot a.1,()))))) fun (a:ta_)=>sel a.1 (some (LS.rt (false,()))) (some (LS.nx (x_1.1,i64 (iadd x_1.2.1 1),())))))) (some (LS.ex 0 (x_1.1,x_1.2.1,())))) (false,0,())) (fun (a:tc_)=>none) (fun (i:Nat) (a:tc_)=>ck (neb i 0) (some (true,()))) fun (r:ta_)=>some r)
noncomputable def qbM (x:List (Int×List Int×Int×BB×Unit)×List (Int×List Int×Int×BB×Unit)×Unit):Option (ta_):=sel (bnot (beq (len x.1) (len x.2.1))) (some (false,())) (lc (loop (fun (x_1:tc_)=>sel (lt x_1.2.1 (len x.1)) (ck (inB x_1.2.1 (len x.1)) (ck (inB x_1.2.1 (len x.2.1)) (ob (sel (bnot (beq (nth x.1 (nat x_1.2.1) (0,[0,0],0,none' UInt8,())).1 (nth x.2.1 (nat x_1.2.1) (0,[0,0],0,none' UInt8,())).1)) (some (true,())) (ck (inB x_1.2.1 (len x.1)) (ck (inB 0 (ofn 2)) (ck (inB x_1.2.1 (len x.2.1)) (ck (inB 0 (ofn 2)) (sel (bnot (beq (nth (nth x.1 (nat x_1.2.1) (0,[0,0],0,none' UInt8,())).2.1 (nat 0) 0) (nth (nth x.2.1 (nat x_1.2.1) (0,[0,0],0,none' UInt8,())).2.1 (nat 0) 0))) (some (true,())) (ck (inB x_1.2.1 (len x.1)) (ck (inB 1 (ofn 2)) (ck (inB x_1.2.1 (len x.2.1)) (ck (inB 1 (ofn 2)) (sel (bnot (beq (nth (nth x.1 (nat x_1.2.1) (0,[0,0],0,none' UInt8,())).2.1 (nat 1) 0) (nth (nth x.2.1 (nat x_1.2.1) (0,[0,0],0,none' UInt8,())).2.1 (nat 1) 0))) (some (true,())) (ck (inB x_1.2.1 (len x.1)) (ck (inB x_1.2.1 (len x.2.1)) (sel (bnot (beq (nth x.1 (nat x_1.2.1) (0,[0,0],0,none' UInt8,())).2.2.1 (nth x.2.1 (nat x_1.2.1) (0,[0,0],0,none' UInt8,())).2.2.1)) (some (true,())) (ck (inB x_1.2.1 (len x.1)) (ck (inB x_1.2.1 (len x.2.1)) (ob (z1 ((nth x.1 (nat x_1.2.1) (0,[0,0],0,none' UInt8,())).2.2.2.1,(nth x.2.1 (nat x_1.2.1) (0,[0,0],0,none' UInt8,())).2.2.2.1,())) fun (a:ta_)=>some (bnot a.1,())))))))))))))))))) fun (a:ta_)=>sel a.1 (some (LS.rt (false,()))) (some (LS.nx (x_1.1,i64 (iadd x_1.2.1 1),())))))) (some (LS.ex 0 (x_1.1,x_1.2.1,())))) (false,0,())) (fun (a:tc_)=>none) (fun (i:Nat) (a:tc_)=>ck (neb i 0) (some (true,()))) fun (r:ta_)=>some r)
noncomputable def qcU (x:TEnd×TEnd×Unit):Option (ta_):=ob (qh2 (x.1.2.2.2.1,x.2.1.2.2.2.1,())) fun (a:ta_)=>ob (qh4 (x.1.2.2.2.2.2.2.2.2.2.2.1,x.2.1.2.2.2.2.2.2.2.2.2.2.1,())) fun (a_1:ta_)=>ob (qh1 (x.1.2.2.2.2.2.2.2.2.2.2.2.1,x.2.1.2.2.2.2.2.2.2.2.2.2.2.1,())) fun (a_2:ta_)=>ob (qiD (x.1.2.2.2.2.2.2.2.2.2.2.2.2.2.2.1,x.2.1.2.2.2.2.2.2.2.2.2.2.2.2.2.2.1,())) fun (a_3:ta_)=>ob (qh5 (x.1.2.2.2.2.2.2.2.2.2.2.2.2.2.2.2.1,x.2.1.2.2.2.2.2.2.2.2.2.2.2.2.2.2.2.1,())) fun (a_4:ta_)=>ob (qhY (x.1.2.2.2.2.2.2.2.2.2.2.2.2.2.2.2.2.1,x.2.1.2.2.2.2.2.2.2.2.2.2.2.2.2.2.2.2.1,())) fun (a_5:ta_)=>ob (qbM (x.1.2.2.2.2.2.2.2.2.2.2.2.2.2.2.2.2.2.1,x.2.1.2.2.2.2.2.2.2.2.2.2.2.2.2.2.2.2.2.1,())) fun (a_6:ta_)=>ob (sel (bnot a.1) (some (true,())) (sel (bnot a_1.1) (some (true,())) (sel (bnot a_2.1) (some (true,())) (sel (bnot a_3.1) (some (true,())) (sel (bnot a_4.1) (some (true,())) (sel (bnot a_5.1) (some (true,())) (sel (bnot a_6.1) (some (true,())) (ob (z1 (x.1.2.1,x.2.1.2.1,())) fun (a:ta_)=>sel (bnot a.1) (some (true,())) (sel (bnot (band (beq x.1.2.2.2.2.2.2.2.2.2.1.1 x.2.1.2.2.2.2.2.2.2.2.2.1.1) (band (all2 (fun (p q:UInt64)=>beq (n64 p) (n64 q)) x.1.2.2.2.2.2.2.2.2.2.1.2.1 x.2.1.2.2.2.2.2.2.2.2.2.1.2.1) true))) (some (true,())) (some (bnot (all2 (fun (p q:Int)=>beq p q) x.1.2.2.2.2.2.2.2.2.2.2.2.2.2.2.2.2.2.2.1 x.2.1.2.2.2.2.2.2.2.2.2.2.2.2.2.2.2.2.2.2.1),()))))))))))) fun (a:ta_)=>sel a.1 (some (false,())) (ob (sel (beq x.1.1 x.2.1.1) (sel (beq x.1.2.2.1 x.2.1.2.2.1) (sel (beq x.1.2.2.2.2.1 x.2.1.2.2.2.2.1) (sel (beq x.1.2.2.2.2.2.1 x.2.1.2.2.2.2.2.1) (sel (beq x.1.2.2.2.2.2.2.1 x.2.1.2.2.2.2.2.2.1) (sel (beq x.1.2.2.2.2.2.2.2.1 x.2.1.2.2.2.2.2.2.2.1) (sel (beq x.1.2.2.2.2.2.2.2.2.1 x.2.1.2.2.2.2.2.2.2.2.1) (sel (beq x.1.2.2.2.2.2.2.2.2.2.2.2.2.1
 x.2.1.2.2.2.2.2.2.2.2.2.2.2.2.1) (some (beq x.1.2.2.2.2.2.2.2.2.2.2.2.2.2.1 x.2.1.2.2.2.2.2.2.2.2.2.2.2.2.2.1,())) (some (false,()))) (some (false,()))) (some (false,()))) (some (false,()))) (some (false,()))) (some (false,()))) (some (false,()))) (some (false,()))) fun (a:ta_)=>some (a.1,()))
noncomputable def qc2 (x:wO×wO×Unit):Option (ta_):=ob (sel (bnot (beb x.1.1 x.2.1.1)) (some (true,())) (sel (bnot (beb x.1.2.2.1 x.2.1.2.2.1)) (some (true,())) (some (bnot (beq (len x.1.2.1) (len x.2.1.2.1)),())))) fun (a:ta_)=>sel a.1 (some (false,())) (lc (loop (fun (x_1:tc_)=>sel (lt x_1.2.1 (len x.1.2.1)) (ck (inB x_1.2.1 (len x.1.2.1)) (ck (inB x_1.2.1 (len x.2.1.2.1)) (ob (z1 ((nth x.1.2.1 (nat x_1.2.1) (none' UInt8,none' UInt8,())).1,(nth x.2.1.2.1 (nat x_1.2.1) (none' UInt8,none' UInt8,())).1,())) fun (a:ta_)=>ob (sel (bnot a.1) (some (true,())) (ck (inB x_1.2.1 (len x.1.2.1)) (ck (inB x_1.2.1 (len x.2.1.2.1)) (ob (z1 ((nth x.1.2.1 (nat x_1.2.1) (none' UInt8,none' UInt8,())).2.1,(nth x.2.1.2.1 (nat x_1.2.1) (none' UInt8,none' UInt8,())).2.1,())) fun (a:ta_)=>some (bnot a.1,()))))) fun (a:ta_)=>sel a.1 (some (LS.rt (false,()))) (some (LS.nx (x_1.1,i64 (iadd x_1.2.1 1),())))))) (some (LS.ex 0 (x_1.1,x_1.2.1,())))) (false,0,())) (fun (a:tc_)=>none) (fun (i:Nat) (a:tc_)=>ck (neb i 0) (some (true,()))) fun (r:ta_)=>some r)
noncomputable def x5 (x:y5×y5×Unit):Option (ta_):=ob (qcU (x.1.1,x.2.1.1,())) fun (a:ta_)=>ob (qc2 (x.1.2.1,x.2.1.2.1,())) fun (a_1:ta_)=>ob (sel a.1 (some (a_1.1,())) (some (false,()))) fun (a:ta_)=>some (a.1,())
noncomputable def zN (x:tG_):Option (tG_):=ck (band (inC 0 (len x.1) (len x.1)) (beq (len x.1) (len x.1))) (some (sub x.1 0 (len x.1),()))
noncomputable def qkX (x:TEnd×Int×List Int×Int×BB×Unit):Option (Tk_):=ck (rm 128 (nadd (ln (none' (Int×List Int×Int×BB×Unit))) (ln x.1.2.2.2.2.2.2.2.2.2.2.2.2.2.2.2.2.2.1))) (ck (rm 128 (nadd (ln (app (none' (Int×List Int×Int×BB×Unit)) x.1.2.2.2.2.2.2.2.2.2.2.2.2.2.2.2.2.2.1)) (ln [(x.2.1,x.2.2.1,x.2.2.2.1,x.2.2.2.2.1,())]))) (some ((x.1.1,x.1.2.1,x.1.2.2.1,x.1.2.2.2.1,x.1.2.2.2.2.1,x.1.2.2.2.2.2.1,x.1.2.2.2.2.2.2.1,x.1.2.2.2.2.2.2.2.1,x.1.2.2.2.2.2.2.2.2.1,x.1.2.2.2.2.2.2.2.2.2.1,x.1.2.2.2.2.2.2.2.2.2.2.1,x.1.2.2.2.2.2.2.2.2.2.2.2.1,x.1.2.2.2.2.2.2.2.2.2.2.2.2.1,x.1.2.2.2.2.2.2.2.2.2.2.2.2.2.1,x.1.2.2.2.2.2.2.2.2.2.2.2.2.2.2.1,x.1.2.2.2.2.2.2.2.2.2.2.2.2.2.2.2.1,x.1.2.2.2.2.2.2.2.2.2.2.2.2.2.2.2.2.1,app (app (none' (Int×List Int×Int×BB×Unit)) x.1.2.2.2.2.2.2.2.2.2.2.2.2.2.2.2.2.2.1) [(x.2.1,x.2.2.1,x.2.2.2.1,x.2.2.2.2.1,())],x.1.2.2.2.2.2.2.2.2.2.2.2.2.2.2.2.2.2.2),())))
noncomputable def qhZ (x:TEnd×Int×Unit):Option (Tk_):=ob (wD (x.1.2.2.1,())) fun (a:ta_)=>sel a.1 (ob (qcV (x.1,())) fun (a:tB_)=>ob (qkX (x.1,5,a.1,0,none' UInt8,())) fun (a:Tk_)=>some ((a.1.1,a.1.2.1,x.2.1,a.1.2.2.2.1,a.1.2.2.2.2.1,0,0,a.1.2.2.2.2.2.2.2.1,0,(0,[u64 0,u64 0,u64 0,u64 0,u64 0,u64 0,u64 0,u64 0,u64 0,u64 0,u64 0,u64 0,u64 0,u64 0,u64 0,u64 0],()),((0,none' UInt8,()),(0,none' UInt8,()),(0,none' UInt8,()),0,0,()),(0,0,0,0,none' UInt8,()),a.1.2.2.2.2.2.2.2.2.2.2.2.2.1,a.1.2.2.2.2.2.2.2.2.2.2.2.2.2.1,none' BB,a.1.2.2.2.2.2.2.2.2.2.2.2.2.2.2.2),())) (some ((x.1.1,x.1.2.1,x.2.1,x.1.2.2.2.1,x.1.2.2.2.2.1,0,0,x.1.2.2.2.2.2.2.2.1,0,(0,[u64 0,u64 0,u64 0,u64 0,u64 0,u64 0,u64 0,u64 0,u64 0,u64 0,u64 0,u64 0,u64 0,u64 0,u64 0,u64 0],()),((0,none' UInt8,()),(0,none' UInt8,()),(0,none' UInt8,()),0,0,()),(0,0,0,0,none' UInt8,()),x.1.2.2.2.2.2.2.2.2.2.2.2.2.1,x.1.2.2.2.2.2.2.2.2.2.2.2.2.2.1,none' BB,x.1.2.2.2.2.2.2.2.2.2.2.2.2.2.2.2),()))
noncomputable def wH (x:tj_):Option (ta_):=ob (qgY (x.1.1,())) fun (a:tf_)=>sel (beq a.1 1) (sel (beq a.1 1) (some (true,())) (some (false,()))) (sel (beq a.1 2) (sel (beq a.1 2) (some (true,())) (some (false,()))) (sel (beq a.1 4) (some (true,())) (some (false,()))))
noncomputable def qdP (x:tj_):Option (ta_):=ob (yX (x.1,39,())) fun (a:tr_)=>ob (sel a.2.1 (some (seq a.1 [57,49],())) (some (false,()))) fun (a:ta_)=>some (a.1,())
noncomputable def qdS (x:tb_):Option (tb_):=ob (qlJ (x.1,())) fun (a:td_)=>ob (sel (lt x.2.1 0) (some (true,())) (sel (lt 999999 x.2.1) (some (true,())) (sel (bnot (beq a.2.1 0)) (some (true,())) (ob (wH (a.1,())) fun (a_1:ta_)=>sel (bnot a_1.1) (some (true,())) (ob (qdP (a.1,())) fun (a:ta_)=>some (a.1,())))))) fun (a_1:ta_)=>sel a_1.1 (some (none' UInt8,1,())) (ob (x6 (x.2.1,6,())) fun (a_2:tb_)=>ck (rm 1 (ln a_2.1)) (ob (jR (a.1,15,a_2.1,())) fun (a:td_)=>ob (qbA (a.1,())) fun (a:tb_)=>sel (lt 900 (len a.1)) (some (none' UInt8,4,())) (some (a.1,0,()))))
noncomputable def qc7 (x:t6_):Option (BB×List BB×Bool×Unit):=sel (beq (len x.1) 0) (some (none' UInt8,x.1,false,())) (ck (inB 0 (len x.1)) (ck (inC 1 (len x.1) (len x.1)) (ob (kK (sub x.1 1 (len x.1),())) fun (a:t6_)=>some (nth x.1 (nat 0) (none' UInt8),a.1,true,()))))
noncomputable def qg5 (x:Ta_):Option (Ta_):=lc (loop (fun (x:Ta_)=>ob (qc7 (x.1.1.2.2.2.2.2.2.2.2.2.2.2.2.2.2.1,())) fun (a:BB×List BB×Bool×Unit)=>sel (bnot a.2.2.1) (some (LS.ex 0 (x.1,()))) (ob (kX (x.1,a.1,())) fun (a_1:Tb_)=>sel (bnot (beq a_1.2.1 0)) (some (LS.ex 0 (x.1,()))) (some (LS.nx (((a_1.1.1.1,a_1.1.1.2.1,a_1.1.1.2.2.1,a_1.1.1.2.2.2.1,a_1.1.1.2.2.2.2.1,a_1.1.1.2.2.2.2.2.1,a_1.1.1.2.2.2.2.2.2.1,a_1.1.1.2.2.2.2.2.2.2.1,a_1.1.1.2.2.2.2.2.2.2.2.1,a_1.1.1.2.2.2.2.2.2.2.2.2.1,a_1.1.1.2.2.2.2.2.2.2.2.2.2.1,a_1.1.1.2.2.2.2.2.2.2.2.2.2.2.1,a_1.1.1.2.2.2.2.2.2.2.2.2.2.2.2.1,a_1.1.1.2.2.2.2.2.2.2.2.2.2.2.2.2.1,a.2.1,a_1.1.1.2.2.2.2.2.2.2.2.2.2.2.2.2.2.2),a_1.1.2),()))))) (x.1,())) (fun (a:Ta_)=>none) (fun (i:Nat) (a:Ta_)=>ck (neb i 0) (some (a.1,()))) fun (r:Ta_)=>some r
noncomputable def qk5 (x:List BB×BB×Int×Unit):Option (List BB×Int×Unit):=ob (qc8 (x.1,[x.2.1],x.2.2.1,())) fun (a:List BB×Int×Int×Unit)=>ob (sel (beq a.2.2.1 0) (some (beq a.2.1 0,())) (some (false,()))) fun (a_1:ta_)=>sel a_1.1 (some (x.1,8,())) (some (a.1,a.2.2.1,()))
noncomputable def qdR (x:y5×Int×Int×BB×Unit):Option (Ta_):=ob (zN (x.1.1.2.2.2.2.2.2.2.2.2.2.2.2.2.2.2.2.2.1,())) fun (a:tG_)=>ob (kY (x.1.1,())) fun (a_1:tB_)=>ck (rm 128 (nadd (ln a.1) (ln [(x.2.1,a_1.1,x.2.2.1,x.2.2.2.1,())]))) (some (((x.1.1.1,x.1.1.2.1,x.1.1.2.2.1,x.1.1.2.2.2.1,x.1.1.2.2.2.2.1,x.1.1.2.2.2.2.2.1,x.1.1.2.2.2.2.2.2.1,x.1.1.2.2.2.2.2.2.2.1,x.1.1.2.2.2.2.2.2.2.2.1,x.1.1.2.2.2.2.2.2.2.2.2.1,x.1.1.2.2.2.2.2.2.2.2.2.2.1,x.1.1.2.2.2.2.2.2.2.2.2.2.2.1,x.1.1.2.2.2.2.2.2.2.2.2.2.2.2.1,x.1.1.2.2.2.2.2.2.2.2.2.2.2.2.2.1,x.1.1.2.2.2.2.2.2.2.2.2.2.2.2.2.2.1,x.1.1.2.2.2.2.2.2.2.2.2.2.2.2.2.2.2.1,x.1.1.2.2.2.2.2.2.2.2.2.2.2.2.2.2.2.2.1,app a.1 [(x.2.1,a_1.1,x.2.2.1,x.2.2.2.1,())],x.1.1.2.2.2.2.2.2.2.2.2.2.2.2.2.2.2.2.2.2),x.1.2),()))
noncomputable def qbB (x:y5×BB×Unit):Option (Tb_):=ob (qdS (x.2.1,x.1.1.2.2.2.2.2.2.2.2.2.2.2.2.2.1,())) fun (a:tb_)=>sel (bnot (beq a.2.1 0)) (some (x.1,a.2.1,())) (ob (qaJ (x.1.1.2.2.1,())) fun (a_1:ta_)=>sel (bnot a_1.1) (some (x.1,7,())) (ob (qk5 (x.1.1.2.2.2.2.2.2.2.2.2.2.2.2.2.2.1,a.1,8,())) fun (a_2:List BB×Int×Unit)=>sel (bnot (beq a_2.2.1 0)) (some (x.1,a_2.2.1,())) (ob (qdR (((x.1.1.1,x.1.1.2.1,x.1.1.2.2.1,x.1.1.2.2.2.1,x.1.1.2.2.2.2.1,x.1.1.2.2.2.2.2.1,x.1.1.2.2.2.2.2.2.1,x.1.1.2.2.2.2.2.2.2.1,x.1.1.2.2.2.2.2.2.2.2.1,x.1.1.2.2.2.2.2.2.2.2.2.1,x.1.1.2.2.2.2.2.2.2.2.2.2.1,x.1.1.2.2.2.2.2.2.2.2.2.2.2.1,x.1.1.2.2.2.2.2.2.2.2.2.2.2.2.1,x.1.1.2.2.2.2.2.2.2.2.2.2.2.2.2.1,a_2.1,x.1.1.2.2.2.2.2.2.2.2.2.2.2.2.2.2.2),x.1.2),1,0,a.1,())) fun (a:Ta_)=>ob (qg5 (a.1,())) fun (a:Ta_)=>some (a.1,0,()))))
noncomputable def qg7 (x:Tb_):Option (Tb_):=ob (sel (le x.2.1 x.1.1.2.2.2.2.2.2.2.2.2.2.2.2.2.1) (some (true,())) (some (lt 999999 x.2.1,()))) fun (a:ta_)=>sel a.1 (some (x.1,1,())) (ob (qaJ (x.1.1.2.2.1,())) fun (a:ta_)=>sel (bnot a.1) (some (x.1,7,())) (ob (sel (bnot (beq x.1.1.2.2.1 3)) (some (true,())) (some (bnot (beq x.1.1.2.2.2.2.2.2.2.2.2.2.2.1.1 0),()))) fun (a:ta_)=>sel a.1 (some (x.1,9,())) (ob (qdA (x.1.1.2.2.1,7,())) fun (a:tv_)=>ob (wV (((x.1.1.1,x.1.1.2.1,a.1,x.1.1.2.2.2),x.1.2),(true,201,0,0,0,none' UInt8,none' UInt8,x.2.1,()),())) fun (a:Ta_)=>some (a.1,0,()))))
noncomputable def qdQ (x:Ta_):Option (Ta_):=ob (qdA (x.1.1.2.2.1,8,())) fun (a:tv_)=>some (((x.1.1.1,x.1.1.2.1,a.1,x.1.1.2.2.2.1,x.1.1.2.2.2.2.1,x.1.1.2.2.2.2.2.1,x.1.1.2.2.2.2.2.2.1,x.1.1.2.2.2.2.2.2.2.1,x.1.1.2.2.2.2.2.2.2.2.1,x.1.1.2.2.2.2.2.2.2.2.2.1,x.1.1.2.2.2.2.2.2.2.2.2.2.1,(0,0,0,0,none' UInt8,()),x.1.1.2.2.2.2.2.2.2.2.2.2.2.2),x.1.2),())
noncomputable def qiJ (x:Ta_):Option (Ta_):=sel (bnot (beq x.1.1.2.2.1 5)) (some (x.1,())) (ob (qdQ (x.1,())) fun (a:Ta_)=>some (a.1,()))
noncomputable def qdT (x:Tj_):Option (Ta_):=ob (qa7 (x.2.1,0,())) fun (a:Tg_)=>ob (qaK (a.1,())) fun (a:tb_)=>ob (kX (((x.1.1.1,x.1.1.2.1,x.1.1.2.2.1,x.1.1.2.2.2.1,x.1.1.2.2.2.2.1,x.1.1.2.2.2.2.2.1,x.1.1.2.2.2.2.2.2.1,x.1.1.2.2.2.2.2.2.2.1,x.1.1.2.2.2.2.2.2.2.2.1,x.1.1.2.2.2.2.2.2.2.2.2.1,x.1.1.2.2.2.2.2.2.2.2.2.2.1,x.1.1.2.2.2.2.2.2.2.2.2.2.2.1,x.1.1.2.2.2.2.2.2.2.2.2.2.2.2.1,maxI x.1.1.2.2.2.2.2.2.2.2.2.2.2.2.2.1 x.2.1.2.2.2.2.2.2.2.1,x.1.1.2.2.2.2.2.2.2.2.2.2.2.2.2.2),x.1.2),a.1,())) fun (a:Tb_)=>some (a.1,())
noncomputable def qbC (x:Tj_):Option (Ta_):=ob (sel (bnot (beq x.1.1.2.2.1 5)) (some (true,())) (ob (ql8 (x.1.1.2.2.2.2.2.2.2.2.2.2.2.1,x.2.1.2.1,x.2.1.2.2.1,())) fun (a:ta_)=>some (bnot a.1,()))) fun (a:ta_)=>sel a.1 (ob (kE (x.1,13,())) fun (a:Ta_)=>some (a.1,())) (ob (qk8 (x.1.1.2.2.2.2.2.2.2.2.2.2.2.1.2.2.2.2.1,())) fun (a:Tg_)=>sel (beq x.2.1.2.2.2.1 0) (ob (qdQ (((x.1.1.1,x.1.1.2.1,x.1.1.2.2.1,x.1.1.2.2.2.1,x.1.1.2.2.2.2.1,x.1.1.2.2.2.2.2.1,x.1.1.2.2.2.2.2.2.1,x.1.1.2.2.2.2.2.2.2.1,x.1.1.2.2.2.2.2.2.2.2.1,x.1.1.2.2.2.2.2.2.2.2.2.1,x.1.1.2.2.2.2.2.2.2.2.2.2.1,x.1.1.2.2.2.2.2.2.2.2.2.2.2.1,x.1.1.2.2.2.2.2.2.2.2.2.2.2.2.1,maxI x.1.1.2.2.2.2.2.2.2.2.2.2.2.2.2.1 a.1.2.2.2.2.2.2.2.1,x.1.1.2.2.2.2.2.2.2.2.2.2.2.2.2.2),x.1.2),())) fun (a:Ta_)=>some (a.1,())) (ob (qdQ (x.1,())) fun (a:Ta_)=>some (a.1,())))
noncomputable def qdK (x:ta_):Option (Ta_):=ck (band (inC 0 32 32) (rm 1 (nat 32))) (ob (qf8 (rep (nat 32) (u8 0),[3,4],1,none' UInt8,())) fun (a:te_)=>ob (qkZ (a.1,())) fun (a:Td_)=>sel x.1 (ob (qjR (([false,false,false,false],[(none' UInt8,0,0,()),(none' UInt8,0,0,()),(none' UInt8,0,0,()),(none' UInt8,0,0,())],[0,0,0,0],0,()),0,())) fun (a_1:THub×Int×Unit)=>ob (qgA ()) fun (a_2:t0_)=>ob (qk1 (true,())) fun (a_3:wO×Unit)=>some (((0,rep (nat 32) (u8 0),3,a_2.1, -1,3,4,4,0,(0,[u64 0,u64 0,u64 0,u64 0,u64 0,u64 0,u64 0,u64 0,u64 0,u64 0,u64 0,u64 0,u64 0,u64 0,u64 0,u64 0],()),a.1,(0,0,0,0,none' UInt8,()),0,0,none' BB,a_1.1,none' (Int×BB×Unit),none' (Int×List Int×Int×BB×Unit),[0,0,0,0],()),a_3.1,()),())) (ob (qgA ()) fun (a_1:t0_)=>ob (qk1 (true,())) fun (a_2:wO×Unit)=>some (((0,rep (nat 32) (u8 0),3,a_1.1, -1,3,4,4,0,(0,[u64 0,u64 0,u64 0,u64 0,u64 0,u64 0,u64 0,u64 0,u64 0,u64 0,u64 0,u64 0,u64 0,u64 0,u64 0,u64 0],()),a.1,(0,0,0,0,none' UInt8,()),0,0,none' BB,([false,false,false,false],[(none' UInt8,0,0,()),(none' UInt8,0,0,()),(none' UInt8,0,0,()),(none' UInt8,0,0,())],[0,0,0,0],0,()),none' (Int×BB×Unit),none' (Int×List Int×Int×BB×Unit),[0,0,0,0],()),a_2.1,()),())))
noncomputable def qe2 (x:tE_):Option (tf_):=sel x.1 (some (x.2.1,())) (some (x.2.2.1,()))
noncomputable def qe3 (x:tj_):Option (ta_):=ob (sel (beq (imod (i64 (idiv x.1.1 10)) 10) 1) (ob (qdP (x.1,())) fun (a:ta_)=>some (a.1,())) (sel (beq (imod (i64 (idiv x.1.1 10)) 10) 3) (ob (qdP (x.1,())) fun (a:ta_)=>some (a.1,())) (some (false,())))) fun (a:ta_)=>some (a.1,())
noncomputable def qnY (x:y5×(Int×List (Int×BB×Unit)×Unit)×Unit):Option (Ta_):=ob (qzC (x.2.1.1,())) fun (a:tv_)=>sel (bnot a.2.1) (ob (kE (x.1,13,())) fun (a:Ta_)=>some (a.1,())) (ob (jR ((a.1,none' (Int×BB×Unit),()),39,[u8 57,u8 49],())) fun (a:td_)=>ob (yX (x.2.1,11,())) fun (a_1:tr_)=>sel a_1.2.1 (ob (jR (a.1,11,a_1.1,())) fun (a:td_)=>ob (qbA (a.1,())) fun (a:tb_)=>ob (kX (x.1,a.1,())) fun (a:Tb_)=>some (a.1,())) (ob (qbA (a.1,())) fun (a:tb_)=>ob (kX (x.1,a.1,())) fun (a:Tb_)=>some (a.1,())))
noncomputable def qbS (x:y5×TEnv×(Int×List (Int×BB×Unit)×Unit)×Unit):Option (Ta_):=ob (wH (x.2.2.1,())) fun (a:ta_)=>sel (bnot a.1) (ob (kE (x.1,13,())) fun (a:Ta_)=>some (a.1,())) (ob (qaJ (x.1.1.2.2.1,())) fun (a:ta_)=>sel a.1 (ob (qe3 (x.2.2.1,())) fun (a:ta_)=>ob (qe2 (a.1,3,2,())) fun (a:tf_)=>ob (qdR (x.1,a.1,x.2.1.2.2.2.2.1,x.2.1.2.2.2.2.2.1,())) fun (a:Ta_)=>some (a.1,())) (sel (beq x.1.1.2.2.1 6) (ob (qnY (x.1,x.2.2.1,())) fun (a:Ta_)=>some (a.1,())) (ob (kE (x.1,13,())) fun (a:Ta_)=>some (a.1,()))))
noncomputable def qa8 (x:tf_):Option (te_):=ob (v5 ((x.1,[(11,[u8 48,u8 48,u8 48,u8 48,u8 48,u8 55],())],()),())) fun (a:tb_)=>some (a.1,())
noncomputable def qeW (x:Unit):Option (ta_):=ob (qdK (true,())) fun (a:Ta_)=>ob (qa8 (200,())) fun (a_1:te_)=>ob (qbB (a.1,a_1.1,())) fun (a_2:Tb_)=>ob (qa8 (200,())) fun (a_3:te_)=>ob (qdS (a_3.1,5,())) fun (a_4:tb_)=>ob (qaI (a_4.1,())) fun (a_5:td_)=>ob (kP (a_5.1,15,())) fun (a_6:tr_)=>ob (qhZ (a.1.1,0,())) fun (a_7:Tk_)=>ob (qa8 (200,())) fun (a_8:te_)=>ob (qbB ((a_7.1,a.1.2),a_8.1,())) fun (a_9:Tb_)=>ob (qg7 (a.1,9,())) fun (a_10:Tb_)=>ob (qa8 (400,())) fun (a_11:te_)=>ob (qbS (a.1,(2,0,[0,0],0,4,a_11.1,none' UInt8,()),a_5.1,())) fun (a_12:Ta_)=>ob (qdT (a.1,(true,201,1,0,0,none' UInt8,none' UInt8,8,()),())) fun (a_13:Ta_)=>ob (sel (bnot (beq (len a_2.1.1.2.2.2.2.2.2.2.2.2.2.2.2.2.2.2.2.2.1) 1)) (some (true,())) (some (bnot (beq (len a_12.1.1.2.2.2.2.2.2.2.2.2.2.2.2.2.2.2.2.2.1) 1),()))) fun (a_14:ta_)=>sel a_14.1 (some (false,())) (ob (qbC (a_10.1,(false,201,a_10.1.1.2.2.2.2.2.2.2.2.2.2.2.1.2.1,0,0,none' UInt8,none' UInt8,0,()),())) fun (a_15:Ta_)=>ob (sel (beq a_2.2.1 0) (sel (beq (len a_2.1.1.2.2.2.2.2.2.2.2.2.2.2.2.2.2.2.2.1) 1) (ck (inB 0 (len a_2.1.1.2.2.2.2.2.2.2.2.2.2.2.2.2.2.2.2.2.1)) (sel (beq (nth a_2.1.1.2.2.2.2.2.2.2.2.2.2.2.2.2.2.2.2.2.1 (nat 0) (0,[0,0],0,none' UInt8,())).1 1) (sel (beq a_4.2.1 0) (sel (beq a_5.2.1 0) (sel a_6.2.1 (sel (seq a_6.1 [48,48,48,48,48,53]) (sel (beq a_9.2.1 7) (ob (x5 (a_9.1,(a_7.1,a.1.2),())) fun (a_16:ta_)=>sel a_16.1 (sel (beq a_10.2.1 0) (sel (beq a_10.1.1.2.2.1 5) (ck (inB 0 (len
 a_12.1.1.2.2.2.2.2.2.2.2.2.2.2.2.2.2.2.2.2.1)) (sel (beq (nth a_12.1.1.2.2.2.2.2.2.2.2.2.2.2.2.2.2.2.2.2.1 (nat 0) (0,[0,0],0,none' UInt8,())).1 2) (ck (inB 0 (len a_12.1.1.2.2.2.2.2.2.2.2.2.2.2.2.2.2.2.2.2.1)) (sel (beq (nth a_12.1.1.2.2.2.2.2.2.2.2.2.2.2.2.2.2.2.2.2.1 (nat 0) (0,[0,0],0,none' UInt8,())).2.2.1 4) (sel (beq a_13.1.1.2.2.2.2.2.2.2.2.2.2.2.2.2.1 8) (sel (beq a_15.1.1.2.2.1 3) (sel (beq a_15.1.1.2.2.2.2.2.2.2.2.2.2.2.2.2.1 9) (ob (qiJ (a_10.1,())) fun (a_17:Ta_)=>sel (beq a_17.1.1.2.2.2.2.2.2.2.2.2.2.2.2.2.1 0) (ob (qg5 (a.1,())) fun (a_18:Ta_)=>ob (x5 (a_18.1,a.1,())) fun (a:ta_)=>some (a.1,())) (some (false,()))) (some (false,()))) (some (false,()))) (some (false,()))) (some (false,())))) (some (false,())))) (some (false,()))) (some (false,()))) (some (false,()))) (some (false,()))) (some (false,()))) (some (false,()))) (some (false,()))) (some (false,()))) (some (false,())))) (some (false,()))) (some (false,()))) fun (a:ta_)=>some (a.1,()))
noncomputable def kW (x:UInt16×UInt16×UInt16×Unit):Option (ta_):=ob (qeW ()) fun (a:ta_)=>ob (qdK (true,())) fun (a_1:Ta_)=>ob (qg7 (((a_1.1.1.1,a_1.1.1.2.1,a_1.1.1.2.2.1,a_1.1.1.2.2.2.1,a_1.1.1.2.2.2.2.1,a_1.1.1.2.2.2.2.2.1,a_1.1.1.2.2.2.2.2.2.1,a_1.1.1.2.2.2.2.2.2.2.1,a_1.1.1.2.2.2.2.2.2.2.2.1,a_1.1.1.2.2.2.2.2.2.2.2.2.1,a_1.1.1.2.2.2.2.2.2.2.2.2.2.1,a_1.1.1.2.2.2.2.2.2.2.2.2.2.2.1,a_1.1.1.2.2.2.2.2.2.2.2.2.2.2.2.1,i64 (n16 x.1),a_1.1.1.2.2.2.2.2.2.2.2.2.2.2.2.2.2),a_1.1.2),i64 (iadd (i64 (iadd (i64 (n16 x.1)) 1)) (i64 (n16 x.2.2.1))),())) fun (a_2:Tb_)=>ob (sel (bnot (beq a_2.2.1 0)) (some (true,())) (some (bnot (beq (len a_2.1.1.2.2.2.2.2.2.2.2.2.2.2.2.2.2.2.2.1) 1),()))) fun (a_3:ta_)=>sel a_3.1 (some (false,())) (ck (inB 0 (len a_2.1.1.2.2.2.2.2.2.2.2.2.2.2.2.2.2.2.2.1)) (ob (qaG ((nth a_2.1.1.2.2.2.2.2.2.2.2.2.2.2.2.2.2.2.2.1 (nat 0) (0,none' UInt8,())).2.1,())) fun (a_4:te_)=>ob (qaH (((1,a_1.1.1.2.1,a_1.1.1.2.2.1,a_1.1.1.2.2.2.1,a_1.1.1.2.2.2.2.1,4,3,a_1.1.1.2.2.2.2.2.2.2.1,a_1.1.1.2.2.2.2.2.2.2.2.1,a_1.1.1.2.2.2.2.2.2.2.2.2.1,a_1.1.1.2.2.2.2.2.2.2.2.2.2.1,a_1.1.1.2.2.2.2.2.2.2.2.2.2.2.1,a_1.1.1.2.2.2.2.2.2.2.2.2.2.2.2.1,i64 (n16 x.2.1),a_1.1.1.2.2.2.2.2.2.2.2.2.2.2.2.2.2),a_2.1.2.1,a_1.1.2.2),a_4.1,())) fun (a_5:Te_)=>ob (yQ (a_5.2.1.2.2.2.2.2.1,())) fun (a_6:Tg_)=>ob (sel (bnot (beq a_5.2.2.1 0)) (some (true,())) (sel (bnot (beq a_6.2.1 0)) (some (true,())) (sel (bnot a_6.1.1) (some (true,())) (sel (bnot (beq a_6.1.2.1 201)) (some (true,())) (some (bnot (beq a_6.1.2.2.2.2.2.2.2.1 (i64 (iadd (i64 (iadd (i64 (n16 x.1)) 1)) (i64 (n16 x.2.2.1))))),())))))) fun (a_7:ta_)=>sel a_7.1 (some (false,())) (ob (qdT (a_5.1,a_6.1,())) fun (a_8:Ta_)=>sel (bnot (beq (len
 a_8.1.1.2.2.2.2.2.2.2.2.2.2.2.2.2.2.2.2.1) 1)) (some (false,())) (ck (inB 0 (len a_8.1.1.2.2.2.2.2.2.2.2.2.2.2.2.2.2.2.2.1)) (ob (qaG ((nth a_8.1.1.2.2.2.2.2.2.2.2.2.2.2.2.2.2.2.2.1 (nat 0) (0,none' UInt8,())).2.1,())) fun (a_9:te_)=>ob (qaH ((a_2.1.1,a_8.1.2.1,a_2.1.2.2),a_9.1,())) fun (a_10:Te_)=>ob (yQ (a_10.2.1.2.2.2.2.2.1,())) fun (a_11:Tg_)=>ob (qbC (a_10.1,a_11.1,())) fun (a_12:Ta_)=>ob (sel a.1 (sel (beq a_10.2.2.1 0) (sel (beq a_11.2.1 0) (sel (beq a_12.1.1.2.2.1 3) (sel (beq a_12.1.1.2.2.2.2.2.2.2.2.2.2.2.1.1 0) (sel (beq a_12.1.1.2.2.2.2.2.2.2.2.2.2.2.2.2.1 (i64 (iadd (i64 (iadd (i64 (n16 x.1)) 1)) (i64 (n16 x.2.2.1))))) (some (beq a_8.1.1.2.2.2.2.2.2.2.2.2.2.2.2.2.1 (maxI (i64 (iadd (i64 (iadd (i64 (n16 x.1)) 1)) (i64 (n16 x.2.2.1)))) (i64 (n16 x.2.1))),())) (some (false,()))) (some (false,()))) (some (false,()))) (some (false,()))) (some (false,()))) (some (false,()))) fun (a:ta_)=>some (a.1,()))))))
end Yp
namespace Yp
open Go Go.Proofs Tryz
abbrev yS10:Ty := .unit
abbrev yS6:Ty := .int .u8
abbrev yS20:Ty := .pair yS6 (.pair yS6 (.pair yS6 (.pair (.ar 3 yS6) yS10)))
abbrev yS19:Ty := .pair yS6 (.pair yS6 (.pair (.ar 8 yS6) (.pair yS6 yS10)))
abbrev yS18:Ty := .pair yS6 (.pair yS6 (.pair (.ar 8 yS6) (.pair (.bool) yS10)))
abbrev yS17:Ty := .pair yS6 (.pair yS6 (.pair (.ar 8 yS6) (.pair (.ar 8 yS6) yS10)))
abbrev yS14:Ty := .sl yS6
abbrev yS3:Ty := .int .i64
abbrev yS21:Ty := .pair yS3 (.pair yS3 (.pair (.bool) (.pair yS6 yS10)))
abbrev yS13:Ty := .pair yS3 (.pair (.ar 16 (.int .u64)) yS10)
abbrev yS7:Ty := .pair yS3 (.pair yS3 yS10)
abbrev yS8:Ty := .pair (.ar 4 (.bool)) (.pair (.ar 4 (.pair yS14 yS7)) (.pair (.ar 4 yS3) (.pair yS3 yS10)))
abbrev yS4:Ty := .pair (.bool) (.pair yS3 (.pair yS3 (.pair yS3 (.pair yS3 (.pair yS14 (.pair yS14 (.pair yS3 yS10)))))))
abbrev yS2:Ty := .pair yS14 (.pair yS14 yS10)
abbrev yS16:Ty := .pair yS3 (.pair yS3 (.pair (.ar 2 yS3) (.pair yS3 (.pair yS3 yS2))))
abbrev yS11:Ty := .pair (.bool) (.pair (.sl yS2) (.pair (.bool) yS10))
abbrev yS1:Ty := .pair yS3 (.pair yS14 yS10)
abbrev yS15:Ty := .pair yS3 (.pair yS3 (.pair yS3 yS1))
abbrev yS12:Ty := .pair yS3 (.pair (.ar 2 yS3) yS1)
abbrev yS9:Ty := .pair yS1 (.pair yS1 (.pair yS1 yS7))
abbrev yS0:Ty := .pair yS3 (.pair yS14 (.pair yS3 (.pair yS2 (.pair yS3 (.pair yS3 (.pair yS3 (.pair yS3 (.pair yS3 (.pair yS13 (.pair yS9 (.pair yS15 (.pair yS3 (.pair yS3 (.pair (.sl yS14) (.pair yS8 (.pair (.sl yS1) (.pair (.sl yS12) (.pair (.ar 4 yS3) yS10))))))))))))))))))
abbrev yS5:Ty := .pair yS0 (.pair yS11 yS10)
abbrev yS22:Ty := .pair yS5 (.pair yS3 (.pair yS4 (.pair yS14 yS10)))
def TT:List (Nat×Ty):=[(1,(.op 0)),(2,yS3),(3,yS3),(4,(.bool)),(5,yS6),(6,yS6),(7,yS21),(8,yS21),(9,(.str)),(10,(.str)),(11,(.str)),(12,(.int .u64)),(13,(.pair (.str) (.pair (.int .u64) yS10))),(14,(.pair (.str) (.pair (.int .u64) yS10))),(15,(.op 3)),(16,(.op 3)),(17,(.op 3)),(18,(.pair (.op 3) yS10)),(19,(.pair (.op 3) yS10)),(20,(.op 1)),(21,(.int .i32)),(22,yS14),(23,yS2),(24,yS2),(25,(.int .u64)),(26,(.ar 16 (.int .u64))),(27,yS13),(28,yS13),(29,yS1),(30,yS1),(31,yS9),(32,yS9),(33,yS15),(34,yS15),(35,(.sl yS14)),(36,(.ar 4 (.bool))),(37,(.pair yS14 yS7)),(38,(.pair yS14 yS7)),(39,(.ar 4 (.pair yS14 yS7))),(40,(.ar 4 yS3)),(41,yS8),(42,yS8),(43,(.sl yS1)),(44,(.sl yS12)),(45,yS0),(46,yS0),(47,(.sl yS2)),(48,yS11),(49,yS11),(50,yS5),(51,yS5),(52,(.op 0)),(53,(.op 0)),(54,yS3),(56,(.op 0)),(58,(.op 0)),(59,(.op 0)),(60,(.op 0)),(61,(.op 0)),(62,yS4),(63,yS4),(64,(.op 0)),(65,(.op 0)),(66,(.op 0)),(67,(.op 0)),(68,(.sl yS5)),(69,(.op 0)),(70,(.ar 2 yS3)),(71,(.op 0)),(72,(.op 0)),(73,(.ar 8 yS6)),(74,yS18),(75,yS18),(77,(.op 0)),(79,(.op 0)),(80,(.op 0)),(81,(.op 0)),(82,(.op 0)),(83,yS17),(84,yS17),(85,(.op 0)),(86,(.op 0)),(87,yS19),(88,yS19),(89,(.op 0)),(90,(.op 0)),(91,(.op 0)),(92,(.ar 3 yS6)),(93,yS20),(94,yS20),(95,(.op 0)),(96,(.op 0)),(97,(.op 0)),(98,(.op 0)),(99,(.op 0)),(100,(.op 0)),(101,(.sl yS3)),(102,(.op 0)),(103,(.op 0)),(104,(.op 0)),(106,(.op 0)),(107,(.op 0)),(109,(.op 0)),(110,yS1),(111,yS1),(112,(.op 0)),(114,(.op 0)),(116,(.op 0)),(117,(.op 0)),(118,(.op 0)),(119,(.op 0)),(120,(.op 0)),(121,(.int .u16)),(122,(.op 0)),(123,(.op 0)),(125,(.op 0)),(126,yS16),(127,yS16),(129,(.op 0)),(130,yS12),(131,yS12),(132,(.op 0)),(133,yS22),(134,yS22),(135,(.op 0)),(136,(.sl yS1)),(137,(.pair yS3 (.pair (.sl yS1) yS10))),(138,(.pair yS3 (.pair (.sl yS1) yS10))),(140,(.op 0)),(142,(.op 0)),(144,(.op 0)),(145,(.op 0)),(146,(.op 0)),(147,(.op 0)),(148,(.int .u32)),(150,(.op 0)),(151,yS1),(152,yS1),(153,(.op 0)),(155,(.op 0)),(156,(.op 0)),(157,(.op 0)),(158,(.op 0)),(160,(.op 0)),(162,(.op 0)),(163,(.op 0)),(164,(.op 0)),(166,(.op 0)),(167,(.pair yS0 yS10)),(168,(.pair yS0 yS10)),(169,(.pair (.pair yS0 yS10) (.pair yS5 yS10))),(170,(.pair (.pair yS0 yS10) (.pair yS5 yS10))),(171,(.op 0)),(172,(.op 0)),(174,(.op 0)),(176,(.op 0)),(177,(.op 0)),(179,(.op 0)),(180,(.op 0)),(181,(.op 0)),(183,(.op 0)),(184,(.op 0)),(185,(.op 0)),(186,(.op 0)),(187,(.op 0)),(188,(.op 0)),(189,(.op 0)),(190,(.op 0)),(191,(.op 0)),(192,(.op 0)),(193,(.op 0)),(194,(.op 0)),(195,(.op 0)),(196,(.op 0)),(197,(.op 0)),(198,(.op 0)),(199,(.op 0)),(200,(.op 0)),(201,(.op 0)),(202,(.op 0)),(203,(.op 0)),(204,(.op 0)),(206,(.op 0)),(207,(.op 0)),(209,(.op 0)),(210,(.op 0)),(211,(.pair (.op 0) (.pair (.op 0) yS10))),(212,(.pair (.op 0) (.pair (.op 0) yS10))),(214,(.op 2)),(215,(.op 0)),(216,(.op 0)),(217,(.op 0)),(219,(.op 0)),(220,(.op 0)),(221,(.op 0)),(222,(.op 0)),(223,(.op 0)),(224,(.op 0)),(225,(.op 0)),(226,(.op 0)),(228,(.op 0)),(230,(.op 0)),(231,(.op 0)),(232,(.op 0)),(233,(.op 0)),(235,(.op 0)),(236,(.op 0)),(238,(.op 0)),(239,(.op 0)),(241,(.op 0)),(242,(.op 0)),(243,(.op 0)),(244,(.op 0)),(246,(.op 0)),(248,(.op 0)),(250,(.op 0)),(251,yS7),(252,yS7),(254,(.op 0)),(256,(.op 0)),(257,(.op 0)),(258,(.op 0)),(259,(.op 0)),(260,(.op 0)),(261,(.op 0)),(262,(.op 0)),(263,(.op 0)),(264,(.op 0)),(265,(.op 0)),(266,(.op 0)),(267,(.op 0)),(268,(.op 0)),(270,(.op 0)),(272,(.op 0)),(273,(.op 0)),(274,(.op 0)),(275,yS2),(276,yS2),(277,(.pair yS9 yS10)),(278,(.pair yS9 yS10)),(279,(.op 2)),(280,(.op 0)),(281,(.op 0)),(282,(.op 0)),(283,(.op 0)),(284,(.ar 4 yS3)),(285,(.op 0)),(286,(.op 0)),(287,(.op 0)),(288,(.op 0)),(289,(.op 0)),(290,(.op 0)),(292,(.op 0)),(294,(.op 0)),(295,(.op 0)),(296,(.op 0)),(297,(.op 0)),(298,(.op 0)),(299,(.op 0)),(301,(.op 0)),(303,(.op 0)),(304,(.op 0)),(306,(.op 0)),(308,(.op 0)),(309,(.op 0)),(310,(.fn [350])),(311,(.pair (.sl yS1) (.pair (.fn [350]) yS10))),(312,(.pair (.sl yS1) (.pair (.fn [350]) yS10))),(313,(.op 0)),(314,(.op 0)),(315,(.op 0)),(316,(.op 0)),(317,(.op 0)),(319,(.op 0)),(320,(.op 0)),(322,(.op 0)),(323,(.op 0)),(324,(.sl (.sl yS3))),(325,(.op 0)),(326,(.op 0)),(327,(.op 0)),(329,(.op 0)),(330,(.op 0)),(331,(.op 0)),(332,(.op 0)),(333,(.op 0)),(334,(.op 0)),(335,(.op 0)),(336,(.ar 3 yS1)),(337,(.op 0)),(338,(.op 0)),(339,(.op 0)),(340,(.ar 8 (.int .u32))),(341,(.pair (.ar 8 (.int .u32)) yS1)),(342,(.pair (.ar 8 (.int .u32)) yS1)),(343,(.op 0)),(344,(.op 0)),(345,(.op 0)),(346,(.op 0)),(347,(.fn [363,364,365,366])),(348,(.op 0)),(349,yS4),(350,(.op 0)),(351,(.op 0)),(353,(.op 0)),(354,(.op 0)),(356,(.op 0)),(357,(.op 0)),(358,(.op 0)),(359,(.op 0)),(360,(.op 0)),(361,(.op 0)),(363,(.op 0)),(365,(.op 0)),(366,(.op 0)),(367,(.op 0)),(368,(.op 0)),(369,(.op 0)),(370,(.op 0)),(371,(.op 0)),(372,(.op 0)),(373,(.op 0)),(374,(.op 0)),(375,(.int .u64)),(379,(.op 0)),(380,(.op 0)),(383,(.op 0)),(384,(.op 0)),(385,(.fn [359])),(387,(.op 0)),(388,(.op 0)),(389,(.op 0)),(390,(.sl (.int .u32))),(391,(.op 0)),(392,(.op 0)),(396,(.sl (.sl yS1))),(398,(.ar 64 (.int .u32))),(400,(.op 0)),(401,(.ar 3 yS3)),(403,(.op 0)),(404,yS2)]
def MM:List (Nat×Ty×Ty):=[(214, .int .i64, .pair (.op 0) (.pair (.op 0) (.unit))),(279, .int .i64, .int .i64)]
def CC:List Nat:=[28,40,70]
theorem hTT:qfZ Tryz.prog (qD3 TT):=qCw _ _ (by kernel_rfl)
theorem hCC:qm9 Tryz.prog (qD3 TT) (qF1 CC):=qDu _ _ _ (by kernel_rfl)
theorem hMM:qfM Tryz.prog (qF0 MM):=qy3 _ _ (by kernel_rfl)
theorem hMix:Tryz.prog.follows .mixedOrders=true:=by kernel_rfl
theorem hKK : ∀ g, (some 0 : Option Nat) = some g → Tryz.prog.globalNamed "yett/sha.keys" = some g := by intro g h; cases h; kernel_rfl
abbrev eN (G:List (Nat×wQ)) (I:List (Nat×Inl)):Env:={ T:=qD3 TT,G:=qy6 G,I:=qy5 I,M:=qF0 MM,C:=qF1 CC,K:=some 0 }
abbrev FK:=FOK Tryz.prog
abbrev IK:=qd0 Tryz.prog
theorem mkC {G : List (Nat × wQ)} {I : List (Nat × Inl)} {f : Nat} {fn : Func} {s : wQ} (hG : ∀ f s, qy6 G f = some s → FOK Tryz.prog f s) (hI : ∀ f g, qy5 I f = some g → qd0 Tryz.prog f g) (hf : Tryz.prog.funcs[f]? = some fn) (nv : Nat) (hn : (fn.name == "runtime.NumGoroutine") = false := by kernel_rfl) (hb : fn.body.isSome = true := by kernel_rfl)
  (he:∀ x,model (eN G I) fn nv s.args s.res x=s.fn x:=by intro x;kernel_rfl):FOK Tryz.prog f s:=(qHJ (E:=eN G I) ⟨hTT,hCC,hMM,hG,hKK,hI,fun _ _ h=>by cases h⟩ hMix hf hn nv s.args s.res hb).congr he
theorem mkI {G : List (Nat × wQ)} {I : List (Nat × Inl)} {f : Nat} {fn : Func} (hG : ∀ f s, qy6 G f = some s → FOK Tryz.prog f s) (hI : ∀ f g, qy5 I f = some g → qd0 Tryz.prog f g) (hf : Tryz.prog.funcs[f]? = some fn) (nv : Nat) (hn : (fn.name == "runtime.NumGoroutine") = false := by kernel_rfl) (hb : fn.body.isSome = true := by kernel_rfl) :
  qd0 Tryz.prog f (inlF (eN G I) fn nv):=qK6 (E:=eN G I) ⟨hTT,hCC,hMM,hG,hKK,hI,fun _ _ h=>by cases h⟩ hMix hf hn nv hb
noncomputable abbrev qhU:wQ:=⟨[yS14,yS14],[.im (.bool)],qeT⟩
theorem qEl:FK 126 qhU:=mkC qD qC func126 7
theorem qjG:FK 353 ⟨[yS3],[.im yS3, .im yS6],jL⟩:=mkC qD qC func353 4
end Yp
namespace Yp
open Go Go.Proofs
set_option maxRecDepth 100000
noncomputable abbrev qkL:wQ:=⟨[.sl (.int .u8)],[.ow (.int .u8)],qbJ⟩
def qJk (c:Code):Code:=match c with | .seq a _=>a | _ => .skip
def qJj (c:Code):Code:=match c with | .seq _ (.seq (.seq c _) _)=>c | _ => .skip
def qKO (c:Code):Code:=match c with | .seq _ (.seq (.seq _ (.cond _ x _)) _)=>x | _ => .skip
def qKN (c:Code):Code:=match c with | .seq _ (.seq _ z)=>z | _ => .skip
def qjH (f:Func):Code:=f.body.getD .skip
noncomputable def qIv (f:Func) (nv:Nat) (ts:List Ty) (rs:List RTy) (x:denL ts):R (Out (denR rs)) :=
 fill f.ntmps (qfT ts x) 0 .e fun t=>R.bind (run (eN [] []) rs f.results.toList nv f.ntmps false (qJk (qjH f)) ⟨t,[],[]⟩) fun | .nx s=>run (eN [] []) rs f.results.toList nv f.ntmps false (qJj (qjH f)) s | o => .leaf o
theorem qwH {α:Type} {c:Bool} {a r:α} (h:ck c (some a)=some r):c=true∧a=r:=by
 cases c
 ·cases h
 ·exact ⟨rfl,Option.some.inj h⟩
theorem qF4 {α:Type} {l:List α} (h:beq (len l) 0=true):l=[]:=by
 have h2:len l=0:=by unfold beq at h;exact beq_iff_eq.1 h
 unfold len at h2
 exact List.length_eq_zero_iff.1 (by omega)
theorem qv1:FOK Tryz.prog 371 qkL:=by
 refine qIu (E:=eN [] []) ⟨hTT,hCC,hMM,qD,hKK,qC,fun _ _ h=>by cases h⟩ hMix Tryz.func371 (by kernel_rfl) 3 _ _ (A:=qJk (qjH Tryz.f371)) (C:=qJj (qjH Tryz.f371)) (X:=qKO (qjH Tryz.f371)) (Z:=qKN (qjH Tryz.f371)) (k:=4) (by kernel_rfl) (by decide +kernel)
  (fun x=>qIA (qIv Tryz.f371 3 [.sl (.int .u8)] [.ow (.int .u8)] x)) (fun x=>beq (len (x.1:BB)) 0) (fun x=>by kernel_rfl) (fun x=>by kernel_rfl) (fun x r hc hm => ?_) (fun x r hm => ?_)
 ·obtain ⟨l,⟨⟩⟩:=x
  obtain ⟨_,rfl⟩:=qwH (show ck (rm 1 (ln (l:BB))) (some ((l:BB),()))=some r from hm)
  obtain rfl:l=([]:BB):=qF4 hc
  kernel_rfl
 ·have h:ck (rm 1 (nadd (ln ([]:BB)) (ln (x.1:BB)))) (some (LS.rt (σ:=St) (app ([]:BB) (x.1:BB),())))=some (.rt r):=by
   obtain ⟨h1,rfl⟩:=qwH (show ck (rm 1 (ln (x.1:BB))) (some ((x.1:BB),()))=some r from hm)
   rw [show nadd (ln ([]:BB)) (ln (x.1:BB))=ln (x.1:BB) from Nat.zero_add _,h1];rfl
  exact Eq.trans (by kernel_rfl) h
noncomputable abbrev wT:wQ:=⟨[.sl (.sl (.int .u8))],[.ow (.sl (.int .u8))],kK⟩
theorem qiT:FOK Tryz.prog 287 wT:=by
 refine qIu (E:=eN [] []) ⟨hTT,hCC,hMM,qD,hKK,qC,fun _ _ h=>by cases h⟩ hMix Tryz.func287 (by kernel_rfl) 3 _ _ (A:=qJk (qjH Tryz.f287)) (C:=qJj (qjH Tryz.f287)) (X:=qKO (qjH Tryz.f287)) (Z:=qKN (qjH Tryz.f287)) (k:=4) (by kernel_rfl) (by decide +kernel)
  (fun x=>qIA (qIv Tryz.f287 3 [.sl (.sl (.int .u8))] [.ow (.sl (.int .u8))] x)) (fun x=>beq (len (x.1:List BB)) 0) (fun x=>by kernel_rfl) (fun x=>by kernel_rfl) (fun x r hc hm => ?_) (fun x r hm => ?_)
 ·obtain ⟨l,⟨⟩⟩:=x
  obtain ⟨_,rfl⟩:=qwH (show ck (rm 32 (ln (l:List BB))) (some ((l:List BB),()))=some r from hm)
  obtain rfl:l=([]:List BB):=qF4 hc
  kernel_rfl
 ·have h:ck (rm 32 (nadd (ln ([]:List BB)) (ln (x.1:List BB)))) (some (LS.rt (σ:=St) (app ([]:List BB) (x.1:List BB),())))=some (.rt r):=by
   obtain ⟨h1,rfl⟩:=qwH (show ck (rm 32 (ln (x.1:List BB))) (some ((x.1:List BB),()))=some r from hm)
   rw [show nadd (ln ([]:List BB)) (ln (x.1:List BB))=ln (x.1:List BB) from Nat.zero_add _,h1];rfl
  exact Eq.trans (by kernel_rfl) h
end Yp
namespace Yp
open Go Go.Proofs Go.RowKit Go.Shelf
attribute [local go_sem] Oper.semAt_some
def hits (res:Nat→Bool) (k:Nat):List Nat:=(List.range k).filter res
theorem qzH (res:Nat→Bool) (k:Nat):hits res (k+1)=hits res k++if res k=true then [k] else []:=by
 unfold hits
 rw [List.range_succ,List.filter_append]
 simp only [List.filter_cons,List.filter_nil]
theorem qHV (res:Nat→Bool) (k:Nat):(hits res k).length≤k:=by
 have:=List.length_filter_le res (List.range k)
 unfold hits;simpa using this
set_option maxRecDepth 100000 in
set_option maxHeartbeats 2000000 in
theorem qGq (n l Bt Bf n₀ b off cap N:Nat) (ad:Option Addr) (pk pb:Value) (ev:Nat→Value×Value) (res:Nat→Bool) (hev:∀ j,∃ a n c a' n' c',ev j=(.slice a n c, .slice a' n' c')) (hN:N≤9223372036854775807) (hb:0 < N→ad=some ⟨b,off,none⟩∧b < n₀) (J Jx:List Nat→World→Prop)
  (hJ:∀ s W W',J s W→Below W.heap.size W W'→J s W')
  (hY:∀ (pre:List Nat) (x:Nat) W,J pre W→x < N→res x=true→pre.length < N→YieldAt Fence.wide n Tryz.prog l #[.int .i64 (x:Int)] W fun e W' =>
   (e = .returned (.bool true)∧J (pre++[x]) W'∧Below n₀ W W')∨(e = .returned (.bool false)∧Jx (pre++[x]) W'))
  (W:World) (hBt:W.cell? ⟨Bt,0,none⟩=some (.slice ad N cap)) (hBf:W.cell? ⟨Bf,0,none⟩=some (.func (.func 390) #[.agg #[pk,pb]] #[])) (hBtn:Bt < n₀) (hBfn:Bf < n₀) (hn:n₀≤W.heap.size)
  (hc0:∀ j,j < N→W.cell? ⟨b,off+j*2,none⟩=some (ev j).1) (hc1:∀ j,j < N→W.cell? ⟨b,off+j*2+1,none⟩=some (ev j).2)
  (hIs:∀ j,j < N→∀ w,Below n₀ W w→CallsIn Fence.wide n Tryz.prog 390 #[.agg #[pk,pb], .agg #[(ev j).1,(ev j).2]] w fun e w'=>e = .returned (.bool (res j))∧Below w.heap.size w w') (h0:J [] W) :
  CallsIn Fence.wide (n+1) Tryz.prog 393 #[.func (.yield l) #[] #[], .pointer (some ⟨Bt,0,none⟩), .pointer (some ⟨Bf,0,none⟩)] W fun e W'=>(∃ v,e = .returned v) ∧
   (J (hits res N) W'∨(∃ k,k≤N∧Jx (hits res k) W')):=by
 have hw390:Fence.wide.fn 390:=trivial
 refine callsIn_of_wp Tryz.func393 rfl trivial ?_ rfl
 simp only [Tryz.ntmps393,List.size_toArray,List.length_cons,List.length_nil,Nat.reduceAdd,Nat.reduceSub,Array.replicate_succ,Array.replicate_zero,List.push_toArray,List.append_toArray,List.nil_append,List.cons_append]
 gi_wp2
 gi_loopw [8] (fun i wr=>∃ k:Nat,k≤N∧i = .int .i64 k∧J (hits res k) wr∧Below n₀ W wr∧W.heap.size≤wr.heap.size)
  (fun i _=>N - (intOf i).toNat)
 case atStart=>exact ⟨0,by omega,rfl,h0,Below.refl _ _,Nat.le_refl _⟩
 case round =>
  obtain ⟨k,hk,rfl,hJs,hnx,hsz⟩:=hrel
  have hBt':wr.cell? ⟨Bt,0,none⟩=some (.slice ad N cap):=(hnx.cell (p:=⟨Bt,0,none⟩) hBtn).trans hBt
  have hBf':wr.cell? ⟨Bf,0,none⟩=some (.func (.func 390) #[.agg #[pk,pb]] #[]):=(hnx.cell (p:=⟨Bf,0,none⟩) hBfn).trans hBf
  by_cases hlt:k < N
  ·have hlt':(k:Int) < (N:Int):=by omega
   obtain ⟨rfl,hbn⟩:=hb (by omega)
   have e0:wr.cell? ⟨b,off+k*2,none⟩=some (ev k).1:=(hnx.cell (p:=⟨b,off+k*2,none⟩) hbn).trans (hc0 k hlt)
   have e1:wr.cell? ⟨b,off+k*2+1,none⟩=some (ev k).2:=(hnx.cell (p:=⟨b,off+k*2+1,none⟩) hbn).trans (hc1 k hlt)
   have hIs':=hIs k hlt
   have hYk:=hY (hits res k) k
   obtain ⟨a1,n1,c1,a2,n2,c2,hek⟩:=hev k
   rw [hek] at e0 e1 hIs'
   dsimp only at e0 e1 hIs'
   have hb3:Below wr.heap.size wr (wr.alloc (.cells #[.slice a1 n1 c1, .slice a2 n2 c2] 276)):=(Below.refl _ _).alloc (Nat.le_refl _) _
   have hsz0:n₀≤wr.heap.size:=Nat.le_trans hn hsz
   have hBf2:(wr.alloc (.cells #[.slice a1 n1 c1, .slice a2 n2 c2] 276)).cell? ⟨Bf,0,none⟩=some (.func (.func 390) #[.agg #[pk,pb]] #[]):=(hb3.cell (p:=⟨Bf,0,none⟩) (Nat.lt_of_lt_of_le hBfn hsz0)).trans hBf'
   have hIs2:=hIs' _ (hnx.trans (hb3.mono hsz0))
   have hJ2:=hJ _ _ _ hJs hb3
   cases hh:res k
   ·rw [hh] at hIs2
    have hys:hits res (k+1)=hits res k:=by rw [qzH,hh,if_neg (by simp),List.append_nil]
    gi_wp2_with (gi_at_call 390;refine hIs2.mono ?_;rintro e w1 ⟨rfl,hb1⟩)
    refine ⟨fun _ _=>trivial, ?_⟩
    gi_wp2
    refine ⟨⟨k+1,by omega,by simp,by rw [hys];exact hJ _ _ _ hJ2 hb1,(hnx.trans (hb3.mono hsz0)).trans (hb1.mono (Nat.le_trans hsz0 hb3.size)),Nat.le_trans hsz (Nat.le_trans hb3.size hb1.size)⟩, ?_⟩
    simp [intOf];omega
   ·rw [hh] at hIs2
    have hys:hits res (k+1)=hits res k++[k]:=by rw [qzH,hh,if_pos rfl]
    have hl:=qHV res k
    gi_wp2_with (gi_at_call 390;refine hIs2.mono ?_;rintro e w1 ⟨rfl,hb1⟩;obtain ⟨fn,tmps,assign,body,hy,hR⟩:=hYk w1 (hJ _ _ _ hJ2 hb1) hlt hh (by omega))
    refine hR.mono ?_
    rintro e W3 (⟨rfl,hJ3,hk3⟩ | ⟨rfl,hJx3⟩)
    ·gi_wp2
     refine ⟨⟨k+1,by omega,by simp,by rw [hys];exact hJ3,((hnx.trans (hb3.mono hsz0)).trans (hb1.mono (Nat.le_trans hsz0 hb3.size))).trans hk3,Nat.le_trans hsz (Nat.le_trans (Nat.le_trans hb3.size hb1.size) hk3.size)⟩, ?_⟩
     simp [intOf];omega
    ·gi_wp2
     refine bodyPost_ret (results_none rfl _ _ _) rfl ?_
     exact ⟨⟨_,rfl⟩, .inr ⟨k+1,by omega,by rw [hys];exact hJx3⟩⟩
  ·have hk':k=N:=by omega
   subst hk'
   have hlt':¬ ((k:Nat):Int) < (k:Int):=by omega
   gi_wp2
   go_end0
   exact ⟨⟨_,rfl⟩, .inl hJs⟩
set_option maxRecDepth 100000 in
theorem qH0 (m:Nat) (a:Option Addr) (n cap:Nat) (f:Value) (w:World) (hv:f.oneCell'=true):CallsIn Fence.wide m Tryz.prog 391 #[.slice a n cap,f] w fun e w'=>e = .returned (.func (.func 393) #[] #[.pointer (some ⟨w.heap.size,0,none⟩), .pointer (some ⟨w.heap.size+1,0,none⟩)])∧w'=(w.alloc (.cells #[.slice a n cap] 47)).alloc (.cells #[f] 403):=by
 refine callsIn_of_wp Tryz.func391 rfl trivial ?_ rfl
 simp only [Tryz.ntmps391,List.size_toArray,List.length_cons,List.length_nil,Nat.reduceAdd,Nat.reduceSub,Array.replicate_succ,Array.replicate_zero,List.push_toArray,List.append_toArray,List.nil_append,List.cons_append]
 gi_wp2
 go_ret
 exact ⟨rfl,rfl⟩
end Yp
namespace Yp
open Go
theorem qmX {σ ρ:Type} {f:σ→Option (LS σ ρ)}:∀ {n m:Nat} {x:σ} {r:LS σ ρ},qgS f n x=some r→n≤m→qgS f m x=some r
 | 0,_,_,_,h,_=>by simp [qgS] at h
 | n+1,0,_,_,_,h=>by omega
 | n+1,m+1,x,r,h,hm=>by
  simp only [qgS] at h ⊢
  split at h
  ·exact qmX h (by omega)
  ·exact h
theorem qjW {σ ρ:Type} {f:σ→Option (LS σ ρ)} {x:σ} {r:LS σ ρ} (n:Nat) (h:qgS f n x=some r):loop f x=some r:=by
 have hex:∃ n,(qgS f n x).isSome:=⟨n,by rw [h];rfl⟩
 unfold loop
 rw [dif_pos hex]
 have hs:=Classical.choose_spec hex
 obtain ⟨r',hr⟩:=Option.isSome_iff_exists.1 hs
 have h1:=qmX hr (Nat.le_max_left _ n)
 have h2:=qmX h (Nat.le_max_right (Classical.choose hex) n)
 rw [hr];rw [h1] at h2;exact h2
theorem vR {σ ρ:Type} {f:σ→Option (LS σ ρ)} {x y:σ} (h:f x=some (.nx y)):loop f x=loop f y:=by
 cases hy:loop f y with
 | some r =>
  obtain ⟨n,hn⟩:=qqV hy
  exact qjW (n+1) (by simp [qgS,h,hn])
 | none =>
  cases hx:loop f x with
  | none=>rfl
  | some r =>
   obtain ⟨n,hn⟩:=qqV hx
   cases n with
   | zero=>simp [qgS] at hn
   | succ n =>
    simp only [qgS,h] at hn
    rw [qjW n hn] at hy;cases hy
theorem qT {σ ρ:Type} {f:σ→Option (LS σ ρ)} {x y:σ} {k:Nat} (h:f x=some (.ex k y)):loop f x=some (.ex k y):=qjW 1 (by simp [qgS,h])
theorem qgR {σ ρ:Type} {f:σ→Option (LS σ ρ)} {x:σ} {r:ρ} (h:f x=some (.rt r)):loop f x=some (.rt r):=qjW 1 (by simp [qgS,h])
theorem qM {σ ρ:Type} {f:σ→Option (LS σ ρ)} (st:Nat→σ) (n:Nat) (h:∀ i,i < n→f (st i)=some (.nx (st (i+1)))):∀ i,i≤n→loop f (st i)=loop f (st n):=by
 intro i hi
 obtain ⟨d,rfl⟩:∃ d,n=i+d:=⟨n - i,by omega⟩
 clear hi
 induction d generalizing i with
 | zero=>rfl
 | succ d ih =>
  rw [vR (h i (by omega))]
  have:=ih (i+1) (fun j hj=>h j (by omega))
  rw [this];congr 2;omega
theorem z0 {n:Int} (h1 : -9223372036854775808≤n) (h2:n≤9223372036854775807):i64 n=n:=by
 show (if (true && decide (n % 18446744073709551616 ≥ 9223372036854775808))=true then n % 18446744073709551616 - 18446744073709551616 else n % 18446744073709551616)=n
 simp only [Bool.true_and,decide_eq_true_eq]
 split <;> omega
theorem qA6 {α:Type} (a b:α):sel true a b=a:=rfl
theorem qyA {α:Type} (a b:α):sel false a b=b:=rfl
theorem ck_t {α:Type} (a:Option α):ck true a=a:=rfl
theorem ob_s {α β:Type} (a:α) (k:α→Option β):ob (some a) k=k a:=rfl
end Yp
namespace Yp
open Go
theorem qG {α β:Type} {o:Option α} {a:α} {k:α→Option β} (h:o=some a):ob o k=k a:=by rw [h];rfl
theorem qE {α:Type} {c:Bool} {a b:α} (h:c=true):sel c a b=a:=by rw [h];rfl
theorem qB {α:Type} {c:Bool} {a b:α} (h:c=false):sel c a b=b:=by rw [h];rfl
theorem qH {α:Type} {c:Bool} {a:Option α} (h:c=true):ck c a=a:=by rw [h];rfl
theorem zH {σ ρ β:Type} {o o':Option (LS σ ρ)} {kn:σ→Option β} {ke:Nat→σ→Option β} {kr:ρ→Option β} (h:o=o'):lc o kn ke kr=lc o' kn ke kr:=by rw [h]
theorem z7 {σ ρ:Type} {f:σ→Option (LS σ ρ)} (st:Nat→σ) (n:Nat) (p:Nat→Prop) (r:ρ) (k:Nat) (hs:∀ i,i < n→(∀ j,j≤i→p j)→f (st i)=some (.nx (st (i+1)))) (hb:∀ i,i < n→(∀ j,j < i→p j)→¬ p i→f (st i)=some (.rt r))
  (he:(∀ i,i < n→p i)→f (st n)=some (.ex k (st n))):((∀ i,i < n→p i)∧loop f (st 0)=some (.ex k (st n)))∨((∃ i,i < n∧¬ p i)∧loop f (st 0)=some (.rt r)):=by
 by_cases h:∀ i,i < n→p i
 ·refine .inl ⟨h, ?_⟩
  rw [qM st n (fun i hi=>hs i hi fun j hj=>h j (by omega)) 0 (Nat.zero_le _)]
  exact qT (he h)
 ·refine .inr ?_
  have hex:∃ i,i < n∧¬ p i:=by
   refine Classical.byContradiction fun hc=>h fun i hi=>Classical.byContradiction fun hp=>hc ⟨i,hi,hp⟩
  refine ⟨hex, ?_⟩
  obtain ⟨k,hk,hp⟩:=hex
  induction k using Nat.strongRecOn with
  | _ k ih =>
   by_cases hl:∃ j,j < k∧¬ p j
   ·obtain ⟨j,hj,hpj⟩:=hl
    exact ih j hj (by omega) hpj
   ·have hall:∀ i,i < k→p i:=fun i hi=>Classical.byContradiction fun hp=>hl ⟨i,hi,hp⟩
    rw [qM st k (fun i hi=>hs i (by omega) fun j hj=>hall j (by omega)) 0 (Nat.zero_le _)]
    exact qgR (hb k hk hall hp)
theorem qnV {a b:Nat}:lt (a:Int) (b:Int)=decide (a < b):=by unfold lt;rw [decide_eq_decide];omega
theorem qF5 {a b:Nat}:le (a:Int) (b:Int)=decide (a≤b):=by unfold le;rw [decide_eq_decide];omega
theorem lt_t {a b:Int} (h:a < b):lt a b=true:=decide_eq_true h
theorem lt_f {a b:Int} (h:¬ a < b):lt a b=false:=decide_eq_false h
theorem le_t {a b:Int} (h:a≤b):le a b=true:=decide_eq_true h
theorem le_f {a b:Int} (h:¬ a≤b):le a b=false:=decide_eq_false h
theorem qfD {a b:Int} (h:a=b):beq a b=true:=by unfold beq;exact beq_iff_eq.2 h
theorem wJ {a b:Int} (h:¬ a=b):beq a b=false:=by unfold beq;exact beq_eq_false_iff_ne.2 h
theorem qHc {a b:BB} (h:a=b):seq a b=true:=by unfold seq;exact beq_iff_eq.2 h
theorem qI3 {a b:BB} (h:¬ a=b):seq a b=false:=by unfold seq;exact beq_eq_false_iff_ne.2 h
theorem qD0 {a b:Nat} (h:a < b):nlt a b=true:=by unfold nlt;rw [Nat.blt_eq];exact h
theorem qJt {a b:Nat} (h:¬ a < b):nlt a b=false:=by
 unfold nlt;cases hb:Nat.blt a b with
 | false=>rfl
 | true=>rw [Nat.blt_eq] at hb;exact absurd hb h
theorem q9 {a n:Nat} (h:a < n):inB (a:Int) (n:Int)=true:=by
 simp only [inB,Bool.and_eq_true,decide_eq_true_eq];omega
theorem qK9 {a n:Int} (h0:0≤a) (h:a < n):inB a n=true:=by
 simp only [inB,Bool.and_eq_true,decide_eq_true_eq];omega
theorem qmZ {a b n:Int} (h0:0≤a) (h:a≤b) (h':b≤n):inC a b n=true:=by
 simp only [inC,Bool.and_eq_true,decide_eq_true_eq];omega
theorem rm_t {c n:Nat} (h:n*c≤140737488355328):rm c n=true:=decide_eq_true h
theorem qcE {n:Nat} (h:n≤9223372036854775807):i64 (n:Int)=(n:Int):=z0 (by omega) (by omega)
theorem qJG {α:Type} (l:List α):len l=((l.length:Nat):Int):=rfl
theorem qL {α:Type} {l:List α} {i:Nat} {d:α} (h:i < l.length):nth l i d=l[i]:=by
 simp [nth,List.getD_eq_getElem?_getD,h]
theorem qvO (x:UInt8):x.toNat < 256:=x.toNat_lt
theorem qpP (q:Nat):u8 (q:Int)=UInt8.ofNat q:=by
 apply UInt8.toNat_inj.1
 unfold u8
 have h1:(UInt8.ofInt (q:Int)).toNat=q % 256:=by
  simp [UInt8.ofInt,UInt8.toNat_ofNat]
  omega
 rw [h1];simp
theorem qHt (b n:Nat):((b:Int) ^ n)=((b ^ n:Nat):Int):=(Int.natCast_pow b n).symm
theorem quQ {l:BB} {i:Nat} (h:i < l.length) (hl:l[i].toNat < 128):decode l i=(l[i].toNat,1):=by
 have hb:((⟨l.toArray⟩:ByteArray).get! (i+0)).toNat=l[i].toNat:=by
  show (l.toArray[i+0]!).toNat=_
  simp [h]
 unfold decode Utf8.decode
 simp only [hb]
 rw [if_pos hl]
theorem qBG {l:BB} {i:Nat} (h:i < l.length) (hl:¬ l[i].toNat < 128):128≤(decode l i).1∧(decode l i).1≤1114111:=by
 have hb:((⟨l.toArray⟩:ByteArray).get! (i+0)).toNat=l[i].toNat:=by
  show (l.toArray[i+0]!).toNat=_
  simp [h]
 have h256:=qvO l[i]
 unfold decode Utf8.decode
 simp only [hb,if_neg hl,Utf8.runeError]
 have b:∀ k,((⟨l.toArray⟩:ByteArray).get! k).toNat < 256:=fun k=>qvO _
 generalize l[i].toNat=c at *
 repeat' split
 all_goals simp only
 all_goals (rename_i hc hd;simp only [Bool.and_eq_true,decide_eq_true_eq,beq_iff_eq,Utf8.valid,Bool.or_eq_true] at hc hd;omega)
theorem qHT {a b:Nat}:iadd (a:Int) (b:Int)=((a+b:Nat):Int):=by simp [iadd]
theorem qHR {a b:Nat}:imul (a:Int) (b:Int)=((a*b:Nat):Int):=by simp [imul]
theorem qHQ {a b:Nat} (h:b≤a):isub (a:Int) (b:Int)=((a - b:Nat):Int):=by simp only [isub];omega
theorem qHS {a b:Nat}:idiv (a:Int) (b:Int)=((a / b:Nat):Int):=by simp only [idiv];exact (Int.ofNat_tdiv _ _).symm
theorem qbR {a b:Nat}:imod (a:Int) (b:Int)=((a % b:Nat):Int):=by simp only [imod];exact (Int.ofNat_tmod _ _).symm
theorem zE {a b:Nat} (h:a+b≤9223372036854775807):i64 (iadd (a:Int) (b:Int))=((a+b:Nat):Int):=by rw [qHT,qcE h]
theorem qm1 {a b:Nat} (h:a*b≤9223372036854775807):i64 (imul (a:Int) (b:Int))=((a*b:Nat):Int):=by rw [qHR,qcE h]
theorem qBw {a b:Nat} (h:b≤a) (h':a≤9223372036854775807):i64 (isub (a:Int) (b:Int))=((a - b:Nat):Int):=by rw [qHQ h,qcE (by omega)]
theorem qg0 {a b:Nat} (h':a≤9223372036854775807):i64 (idiv (a:Int) (b:Int))=((a / b:Nat):Int):=by rw [qHS,qcE (Nat.le_trans (Nat.div_le_self _ _) h')]
theorem qZ {a:Nat}:nat (a:Int)=a:=by simp [nat]
theorem qLH {a:Nat} (h:a < 256):n8 (u8 (a:Int))=(a:Int):=by
 rw [qpP];simp only [n8,UInt8.toNat_ofNat'];omega
end Yp
namespace Yp
open Go
def ps (B:Nat) (g:Nat→UInt8) (v:Nat):Nat→BB
 | 0=>[]
 | n+1=>g (v / B ^ n % B) :: ps B g v n
theorem zK (B:Nat) (g:Nat→UInt8) (v:Nat):∀ n,(ps B g v n).length=n
 | 0=>rfl
 | n+1=>by simp [ps,zK B g v n]
def dch (d:Nat):UInt8:=UInt8.ofNat (48+d)
def byt (d:Nat):UInt8:=UInt8.ofNat d
theorem qAR {n:Nat} {d z:UInt8} {tl:BB}:upd (rep (n+1) z++tl) n d=rep n z++d :: tl:=by
 induction n with
 | zero=>simp [upd,rep]
 | succ n ih =>
  have e1:rep (n+1+1) z++tl=z :: (rep (n+1) z++tl):=by simp [rep,List.replicate_succ]
  have e2:rep (n+1) z++d :: tl=z :: (rep n z++d :: tl):=by simp [rep,List.replicate_succ]
  rw [e1,e2,← ih];rfl
def hexs:BB:=[48,49,50,51,52,53,54,55,56,57,97,98,99,100,101,102]
theorem qHW:∀ d,d < 10→nth hexs d (u8 0)=dch d:=by decide
theorem yF (v w:Int) (hv:v≤9223372036854775807):x6 (v,w,())=some (if 1≤w∧w≤18∧0≤v∧v < 10 ^ w.toNat then (ps 10 dch v.toNat w.toNat,0,()) else ([],1,())):=by
 unfold x6
 by_cases h1:w < 1
 ·rw [if_neg (by omega)];simp [sel,ob,lt,h1,none']
 by_cases h2:18 < w
 ·rw [if_neg (by omega)];simp [sel,ob,lt,h1,h2,none']
 by_cases h3:v < 0
 ·rw [if_neg (by omega)];simp [sel,ob,lt,h1,h2,h3,none']
 obtain ⟨n,rfl⟩:∃ n:Nat,w=n:=⟨w.toNat,by omega⟩
 obtain ⟨V,rfl⟩:∃ n:Nat,v=n:=⟨v.toNat,by omega⟩
 simp only [lt,h1,h2,h3,decide_false,decide_true,qyA,qA6,ob_s,Int.toNat_natCast]
 have c0:band (inC 0 (n:Int) n) (rm 1 (nat n))=true:=by simp [band,inC,rm,nat];omega
 rw [c0,ck_t]
 have e0:i64 (isub (n:Int) 1)=(n:Int) - 1:=z0 (by simp only [isub];omega) (by simp only [isub];omega)
 rw [e0]
 generalize hf:(fun (x:Int×Int×BB×Unit)=>_)=f
 have step:∀ i,i < n→f (((V / 10 ^ i:Nat):Int),(n:Int) - 1 - i,rep (n - i) (u8 0)++ps 10 dch V i,())=some (.nx (((V / 10 ^ (i+1):Nat):Int),(n:Int) - 1 - (i+1:Nat),rep (n - (i+1)) (u8 0)++ps 10 dch V (i+1),())):=by
  intro i hi
  subst hf
  have hm:imod ((V / 10 ^ i:Nat):Int) 10=((V / 10 ^ i % 10:Nat):Int):=by simp only [imod];exact (Int.ofNat_tmod _ _).symm
  have hlt:V / 10 ^ i % 10 < 10:=Nat.mod_lt _ (by omega)
  have hle:V / 10 ^ i≤V:=Nat.div_le_self _ _
  have hd:i64 (idiv ((V / 10 ^ i:Nat):Int) 10)=((V / 10 ^ (i+1):Nat):Int):=by
   have:idiv ((V / 10 ^ i:Nat):Int) 10=((V / 10 ^ i / 10:Nat):Int):=by simp only [idiv];exact (Int.ofNat_tdiv _ _).symm
   rw [this,qcE (by omega),Nat.div_div_eq_div_mul,Nat.pow_succ]
  have hi1:i64 (isub ((n:Int) - 1 - i) 1)=(n:Int) - 1 - (i+1:Nat):=by
   rw [z0 (by simp only [isub];omega) (by simp only [isub];omega)];simp only [isub];omega
  have hle0:le 0 ((n:Int) - 1 - i)=true:=by simp only [le,decide_eq_true_eq];omega
  have hb1:inB ((V / 10 ^ i % 10:Nat):Int) (len [48,49,50,51,52,53,54,55,56,57,97,98,99,100,101,102])=true:=q9 (n:=16) (by omega)
  have hb2:inB ((n:Int) - 1 - i) (len (rep (n - i) (u8 0)++ps 10 dch V i))=true:=by
   simp only [inB,len,List.length_append,zK,rep,List.length_replicate,Bool.and_eq_true,decide_eq_true_eq];omega
  have hn:nat ((n:Int) - 1 - i)=n - (i+1):=by simp only [nat];omega
  have hn2:nat ((V / 10 ^ i % 10:Nat):Int)=V / 10 ^ i % 10:=by simp only [nat];omega
  have hs:rep (n - i) (u8 0)=rep (n - (i+1)+1) (u8 0):=by congr 1;omega
  show sel (le 0 ((n:Int) - 1 - i)) _ _=_
  rw [hle0,qA6]
  simp only [hm]
  rw [hb1,ck_t,hb2,ck_t,hd,hi1,hn,hn2,hs,qAR]
  have:=qHW _ hlt
  simp only [hexs] at this
  rw [this];rfl
 have hrun:=qM (f:=f) (fun i=>(((V / 10 ^ i:Nat):Int),(n:Int) - 1 - i,rep (n - i) (u8 0)++ps 10 dch V i,())) n step 0 (by omega)
 have hend:f (((V / 10 ^ n:Nat):Int),(n:Int) - 1 - n,rep (n - n) (u8 0)++ps 10 dch V n,())=some (.ex 0 (((V / 10 ^ n:Nat):Int),(n:Int) - 1 - n,rep (n - n) (u8 0)++ps 10 dch V n,())):=by
  subst hf
  have hle0:le 0 ((n:Int) - 1 - n)=false:=by simp only [le,decide_eq_false_iff_not];omega
  show sel (le 0 ((n:Int) - 1 - n)) _ _=_
  rw [hle0,qyA]
 have e1:(((V / 10 ^ 0:Nat):Int),(n:Int) - 1 - (0:Nat),rep (n - 0) (u8 0)++ps 10 dch V 0,())=(((V:Nat):Int),(n:Int) - 1,rep (nat n) (u8 0),()):=by
  simp [ps,nat]
 rw [e1,qT hend] at hrun
 rw [hrun]
 have e2:rep (n - n) (u8 0)++ps 10 dch V n=ps 10 dch V n:=by simp [rep]
 simp only [lc,e2]
 show sel (decide ((0:Int) < ((V / 10 ^ n:Nat):Int))) _ _=_
 by_cases hlt:V < 10 ^ n
 ·have:V / 10 ^ n=0:=Nat.div_eq_of_lt hlt
  rw [this,if_pos ⟨by omega,by omega,by omega,by exact_mod_cast hlt⟩];rfl
 ·have:0 < V / 10 ^ n:=Nat.div_pos (by omega) (Nat.pow_pos (by omega))
  rw [if_neg (fun h=>hlt (by exact_mod_cast h.2.2.2))]
  have hp:decide ((0:Int) < ((V / 10 ^ n:Nat):Int))=true:=by simp only [decide_eq_true_eq];omega
  rw [hp];rfl
end Yp
namespace Yp
open Go
theorem qKt (q:Nat):u8 (q:Int)=byt (q % 256):=by
 unfold u8 byt
 apply UInt8.toNat_inj.1
 have h1:(UInt8.ofInt (q:Int)).toNat=q % 256:=by
  simp [UInt8.ofInt,UInt8.toNat_ofNat]
  omega
 rw [h1];simp
theorem qER {V k:Nat} (hk:k≤64):shrI .i64 (V:Int) (k:Int)=((V / 2 ^ k:Nat):Int):=by
 unfold shrI
 have:Nat.min (Int.toNat (k:Int)) IntKind.i64.bits=k:=by
  show Nat.min (Int.toNat (k:Int)) 64=k
  rw [Int.toNat_natCast];exact Nat.min_eq_left hk
 rw [this,Int.ofNat_fdiv];norm_cast
theorem qz0 (v w:Int) (hv:v≤9223372036854775807):qe6 (v,w,())=some (if 1≤w∧w≤8∧0≤v∧v < 256 ^ w.toNat then (ps 256 byt v.toNat w.toNat,0,()) else ([],1,())):=by
 unfold qe6
 by_cases h1:w < 1
 ·rw [if_neg (by omega)];simp [sel,ob,lt,h1,none']
 by_cases h2:8 < w
 ·rw [if_neg (by omega)];simp [sel,ob,lt,h1,h2,none']
 by_cases h3:v < 0
 ·rw [if_neg (by omega)];simp [sel,ob,lt,h1,h2,h3,none']
 obtain ⟨n,rfl⟩:∃ n:Nat,w=n:=⟨w.toNat,by omega⟩
 obtain ⟨V,rfl⟩:∃ n:Nat,v=n:=⟨v.toNat,by omega⟩
 have hpow:∀ i,(256:Nat) ^ i=2 ^ (8*i):=fun i=>by rw [Nat.pow_mul]
 have hmul:∀ i:Nat,i≤8→i64 (imul 8 (i:Int))=((8*i:Nat):Int):=fun i hi=>by
  have:imul 8 (i:Int)=((8*i:Nat):Int):=by simp [imul]
  rw [this,qcE (by omega)]
 have hcond:(sel (lt (n:Int) 8) (ck (le 0 (i64 (imul 8 (n:Int)))) (some (lt 0 (shrI IntKind.i64 (V:Int) (i64 (imul 8 (n:Int)))),()))) (some (false,())):Option (Bool×Unit))=some (decide (¬ V < 256 ^ n),()):=by
  by_cases h8:n < 8
  ·have c1:lt (n:Int) 8=true:=by simp only [lt,decide_eq_true_eq];omega
   have c2:le 0 ((8*n:Nat):Int)=true:=by simp only [le,decide_eq_true_eq];omega
   rw [c1,qA6,hmul n (by omega),c2,ck_t,qER (by omega)]
   have:lt 0 ((V / 2 ^ (8*n):Nat):Int)=decide (¬ V < 256 ^ n):=by
    unfold lt
    rw [decide_eq_decide,hpow]
    constructor
    ·intro h hc
     rw [Nat.div_eq_of_lt hc] at h;simp at h
    ·intro h
     have:=Nat.div_pos (Nat.le_of_not_lt h) (Nat.pow_pos (by omega))
     omega
   rw [this]
  ·have c1:lt (n:Int) 8=false:=by simp only [lt,decide_eq_false_iff_not];omega
   have:n=8:=by omega
   rw [c1,qyA,this]
   have:V < 256 ^ 8:=by
    have:(256:Nat) ^ 8=18446744073709551616:=by decide
    omega
   simp [this]
 rw [hcond]
 simp only [lt,h1,h2,h3,decide_false,decide_true,qyA,qA6,ob_s,Int.toNat_natCast]
 have hp:((256:Int) ^ n)=((256 ^ n:Nat):Int):=(Int.natCast_pow 256 n).symm
 by_cases hlt:V < 256 ^ n
 rotate_left
 ·rw [if_neg (fun h=>hlt (by have:=h.2.2.2;rw [hp] at this;exact Int.ofNat_lt.1 this))]
  have hd:decide (¬ V < 256 ^ n)=true:=decide_eq_true hlt
  rw [hd,qA6];rfl
 rw [if_pos ⟨by omega,by omega,by omega,by rw [hp];exact Int.ofNat_lt.2 hlt⟩]
 have hd:decide (¬ V < 256 ^ n)=false:=decide_eq_false (fun h=>h hlt)
 rw [hd,qyA]
 have c0:band (inC 0 (n:Int) n) (rm 1 (nat n))=true:=by simp [band,inC,rm,nat];omega
 rw [c0,ck_t]
 have e0:i64 (isub (n:Int) 1)=(n:Int) - 1:=z0 (by simp only [isub];omega) (by simp only [isub];omega)
 rw [e0]
 generalize hf:(fun (x:Int×BB×Unit)=>_)=f
 have step:∀ i,i < n→f ((i:Int),rep (n - i) (u8 0)++ps 256 byt V i,())=some (.nx (((i+1:Nat):Int),rep (n - (i+1)) (u8 0)++ps 256 byt V (i+1),())):=by
  intro i hi
  subst hf
  have c1:(decide ((i:Int) < len (rep (nat (n:Int)) (u8 0))))=true:=by simp only [len,rep,nat,List.length_replicate,decide_eq_true_eq];omega
  have c2:le 0 ((8*i:Nat):Int)=true:=by simp only [le,decide_eq_true_eq];omega
  have c3:i64 (isub ((n:Int) - 1) i)=((n - (i+1):Nat):Int):=by
   have:isub ((n:Int) - 1) i=((n - (i+1):Nat):Int):=by simp only [isub];omega
   rw [this,qcE (by omega)]
  have c4:inB ((n - (i+1):Nat):Int) (len (rep (n - i) (u8 0)++ps 256 byt V i))=true:=by
   refine q9 ?_
   simp only [List.length_append,zK,rep,List.length_replicate];omega
  have c5:i64 (iadd (i:Int) 1)=((i+1:Nat):Int):=by
   have:iadd (i:Int) 1=((i+1:Nat):Int):=by simp [iadd]
   rw [this,qcE (by omega)]
  have hs:rep (n - i) (u8 0)=rep (n - (i+1)+1) (u8 0):=by congr 1;omega
  show sel (decide ((i:Int) < len (rep (nat (n:Int)) (u8 0)))) _ _=_
  rw [c1,qA6]
  simp only [hmul i (by omega),c3]
  rw [c2,ck_t,c4,ck_t,c5,qER (by omega),qKt,hs]
  have:nat ((n - (i+1):Nat):Int)=n - (i+1):=by simp [nat]
  rw [this,qAR,← hpow];rfl
 have hrun:=qM (f:=f) (fun i=>((i:Int),rep (n - i) (u8 0)++ps 256 byt V i,())) n step 0 (by omega)
 have hend:f ((n:Int),rep (n - n) (u8 0)++ps 256 byt V n,())=some (.ex 0 ((n:Int),rep (n - n) (u8 0)++ps 256 byt V n,())):=by
  subst hf
  have c1:(decide ((n:Int) < len (rep (nat (n:Int)) (u8 0))))=false:=by simp only [len,rep,nat,List.length_replicate,decide_eq_false_iff_not];omega
  show sel (decide ((n:Int) < len (rep (nat (n:Int)) (u8 0)))) _ _=_
  rw [c1,qyA]
 have e1:(((0:Nat):Int),rep (n - 0) (u8 0)++ps 256 byt V 0,())=((0:Int),rep (nat n) (u8 0),()):=by
  simp [ps,nat]
 rw [e1,qT hend] at hrun
 rw [hrun]
 have e2:rep (n - n) (u8 0)++ps 256 byt V n=ps 256 byt V n:=by simp [rep]
 simp only [lc,e2];rfl
end Yp
namespace Yp
open Go
def vB (c:UInt8):Prop:=48≤c.toNat∧c.toNat≤57
instance (c:UInt8):Decidable (vB c):=inferInstanceAs (Decidable (_∧_))
def figs (s:BB):Prop:=∀ (i:Nat) (h:i < s.length),vB s[i]
def val (s:BB):Nat:=s.foldl (fun n c=>10*n+(c.toNat - 48)) 0
theorem qkB {s:BB} {i:Nat} (h:i < s.length):val (s.take (i+1))=10*val (s.take i)+(s[i].toNat - 48):=by
 unfold val
 rw [List.take_succ_eq_append_getElem h,List.foldl_append];rfl
theorem qCs {s:BB}:∀ i,i≤s.length→(∀ j,j < i→∀ h:j < s.length,vB s[j])→val (s.take i) < 10 ^ i
 | 0,_,_=>by simp [val]
 | i+1,h,hf=>by
  have:=qCs i (by omega) (fun j hj=>hf j (by omega))
  have hi:=hf i (by omega) (by omega)
  rw [qkB (by omega),Nat.pow_succ]
  unfold vB at hi
  omega
theorem qHu {i:Nat} (h:i≤18):10 ^ i≤1000000000000000000:=by
 have:=Nat.pow_le_pow_right (n:=10) (by omega) h
 exact this
theorem qs8 {c:Nat} (h1:48≤c) (h2:c≤57):xL (ofn c,())=some (((c - 48:Nat):Int),true,()):=by
 have:c=48∨c=49∨c=50∨c=51∨c=52∨c=53∨c=54∨c=55∨c=56∨c=57:=by omega
 rcases this with rfl | rfl | rfl | rfl | rfl | rfl | rfl | rfl | rfl | rfl <;> decide
theorem qjA {c:Nat} (h:¬ (48≤c∧c≤57)):∃ q:Int,xL (ofn c,())=some (q,false,()):=by
 refine ⟨i64 (i32 (isub (ofn c) 48)), ?_⟩
 unfold xL
 by_cases h1:48≤c
 ·refine (qG (qE (le_t (by simp only [ofn];omega)))).trans ?_
  show some (_,le (ofn c) 57,())=_
  rw [le_f (by simp only [ofn];omega)]
 ·refine (qG (qB (le_f (by simp only [ofn];omega)))).trans ?_
  rfl
theorem qwA {s:BB} {i:Nat} (h:i < s.length) (hf:vB s[i]):xL (ofn (decode s i).1,())=some (((s[i].toNat - 48:Nat):Int),true,())∧(decode s i).2=1:=by
 have hl:s[i].toNat < 128:=by unfold vB at hf;omega
 rw [quQ h hl]
 exact ⟨qs8 hf.1 hf.2,rfl⟩
theorem qBy {s:BB} {i:Nat} (h:i < s.length) (hf:¬ vB s[i]):∃ q:Int,xL (ofn (decode s i).1,())=some (q,false,()):=by
 by_cases hl:s[i].toNat < 128
 ·rw [quQ h hl];exact qjA hf
 ·have:=qBG h hl
  exact qjA (by omega)
theorem qbT {s:BB}:figs s↔∀ i,i < s.length→∀ h:i < s.length,vB s[i]:=⟨fun h i hi _=>h i hi,fun h i hi=>h i hi hi⟩
instance (s:BB):Decidable (figs s):=inferInstanceAs (Decidable (∀ (i:Nat) (h:i < s.length),vB s[i]))
theorem qcH (s:BB):vG (s,())=some (if 1≤s.length∧s.length≤18∧figs s then ((val s:Int),0,()) else (0,2,())):=by
 unfold vG
 by_cases h1:s.length < 1
 ·refine (qG (qE (lt_t (by simp only [len];omega)))).trans ?_
  rw [if_neg (by omega)];rfl
 by_cases h2:18 < s.length
 ·refine (qG ((qB (lt_f (by simp only [len];omega))).trans (congrArg (fun b=>some (b,())) (lt_t (by simp only [len];omega))))).trans ?_
  rw [if_neg (by omega)];rfl
 refine (qG ((qB (lt_f (by simp only [len];omega))).trans (congrArg (fun b=>some (b,())) (lt_f (by simp only [len];omega))))).trans ?_
 refine (qB rfl).trans ?_
 generalize hf:(fun (x:Int×Int×Int×Nat×Unit)=>_)=f
 have key:=z7 (f:=f) (fun i=>(0,0,(val (s.take i):Int),i,())) s.length (fun i=>∀ h:i < s.length,vB s[i]) (0,2,()) 0 ?_ ?_ ?_
 ·have e0:((0:Int),(0:Int),(val (s.take 0):Int),0,())=((0:Int),(0:Int),(0:Int),0,()):=by simp [val]
  rw [e0] at key
  rcases key with ⟨hall,hr⟩ | ⟨⟨i,hi,hn⟩,hr⟩
  ·rw [hr,if_pos ⟨by omega,by omega,qbT.2 hall⟩]
   show some ((val (s.take s.length):Int),(0:Int),())=_
   rw [List.take_length]
  ·rw [hr,if_neg (fun hc=>hn (qbT.1 hc.2.2 i hi))];rfl
 ·intro i hi hp
  subst hf
  obtain ⟨e1,e2⟩:=qwA hi (hp i (Nat.le_refl _) hi)
  refine (qE (qD0 hi)).trans ?_
  refine (qG e1).trans ?_
  refine (qB rfl).trans ?_
  have hv:=qCs (i+1) (by omega) (fun j hj=>hp j (by omega))
  have hp:=qHu (i:=i+1) (by omega)
  rw [qkB hi] at hv
  have c1:i64 (imul 10 (val (s.take i):Int))=((10*val (s.take i):Nat):Int):=qm1 (a:=10) (by omega)
  simp only [e2,c1]
  rw [zE (by omega),qkB hi];rfl
 ·intro i hi _ hp
  subst hf
  have:¬ vB s[i]:=fun h=>hp fun _=>h
  obtain ⟨q,e1⟩:=qBy hi this
  refine (qE (qD0 hi)).trans ?_
  refine (qG e1).trans ?_
  rfl
 ·intro _
  subst hf
  exact qB (qJt (Nat.lt_irrefl _))
end Yp
namespace Yp
open Go
theorem qDW {b w:Nat} (hb:1≤b) (h:b ^ w≤9223372036854775807):∀ i,i≤w→b ^ i≤9223372036854775807:=fun i hi=>Nat.le_trans (Nat.pow_le_pow_right hb hi) h
theorem wL (b w:Nat) (hb:1≤b) (hw:w≤1000) (h:b ^ w≤9223372036854775807):xS ((b:Int),(w:Int),())=some (((b ^ w:Nat):Int),()):=by
 unfold xS
 generalize hf:(fun (x:Int×Int×Unit)=>_)=f
 have key:=z7 (f:=f) (fun i=>(((b ^ i:Nat):Int),(i:Int),())) w (fun _=>True) (0,()) 0 ?_ ?_ ?_
 ·have e0:(((b ^ 0:Nat):Int),((0:Nat):Int),())=((1:Int),(0:Int),()):=by simp
  rw [e0] at key
  rcases key with ⟨_,hr⟩ | ⟨⟨i,hi,hn⟩,hr⟩
  ·rw [hr];rfl
  ·exact absurd trivial hn
 ·intro i hi _
  subst hf
  refine (qE (lt_t (show (i:Int) < (w:Int) by omega))).trans ?_
  have:=qDW hb h (i+1) (by omega)
  rw [Nat.pow_succ] at this
  simp only
  rw [qm1 this]
  have c:i64 (iadd (i:Int) 1)=((i+1:Nat):Int):=zE (b:=1) (by omega)
  rw [c,← Nat.pow_succ]
 ·intro i _ _ h;exact absurd trivial h
 ·intro _;subst hf;exact qB (lt_f (show ¬ (w:Int) < (w:Int) by omega))
theorem qbO (s:BB) (hl:s.length≤1000000):kR (s,())=some (decide (figs s),()):=by
 unfold kR
 generalize hf:(fun (x:Bool×Int×Unit)=>_)=f
 have cond:∀ i (hi:i < s.length),(sel (lt (n8 (nth s (nat (i:Int)) (u8 0))) (n8 (u8 48))) (some (true,())) (ck (inB (i:Int) (len s)) (some (lt (n8 (u8 57)) (n8 (nth s (nat (i:Int)) (u8 0))),()))):Option (Bool×Unit))=some (decide (¬ vB s[i]),()):=by
  intro i hi
  have hin:inB (i:Int) (len s)=true:=q9 hi
  rw [qZ,qL hi,hin,ck_t]
  have e1:n8 (u8 48)=48:=by decide
  have e2:n8 (u8 57)=57:=by decide
  rw [e1,e2]
  by_cases h1:s[i].toNat < 48
  ·rw [lt_t (by simp only [n8];omega),qA6,decide_eq_true (show ¬ vB s[i] from fun h=>by unfold vB at h;omega)]
  ·rw [lt_f (by simp only [n8];omega),qyA]
   by_cases h2:57 < s[i].toNat
   ·rw [lt_t (by simp only [n8];omega),decide_eq_true (show ¬ vB s[i] from fun h=>by unfold vB at h;omega)]
   ·rw [lt_f (by simp only [n8];omega),decide_eq_false (show ¬ ¬ vB s[i] from fun h=>h (by unfold vB;omega))]
 have key:=z7 (f:=f) (fun i=>(false,(i:Int),())) s.length (fun i=>∀ h:i < s.length,vB s[i]) (false,()) 0 ?_ ?_ ?_
 ·rcases key with ⟨hall,hr⟩ | ⟨⟨i,hi,hn⟩,hr⟩
  ·rw [show (false,((0:Nat):Int),())=(false,(0:Int),()) from rfl] at hr
   rw [hr,decide_eq_true (qbT.2 hall)];rfl
  ·rw [show (false,((0:Nat):Int),())=(false,(0:Int),()) from rfl] at hr
   rw [hr,decide_eq_false (fun hc=>hn (qbT.1 hc i hi))];rfl
 ·intro i hi hp
  subst hf
  refine (qE (lt_t (by simp only [len];omega))).trans ?_
  refine (qH (q9 hi)).trans ?_
  refine (qG (cond i hi)).trans ?_
  refine (qB (decide_eq_false (fun h=>h (hp i (Nat.le_refl _) hi)))).trans ?_
  have c:i64 (iadd (i:Int) 1)=((i+1:Nat):Int):=zE (b:=1) (by omega)
  simp only [c]
 ·intro i hi _ hp
  subst hf
  refine (qE (lt_t (by simp only [len];omega))).trans ?_
  refine (qH (q9 hi)).trans ?_
  refine (qG (cond i hi)).trans ?_
  exact qE (decide_eq_true (fun h=>hp fun _=>h))
 ·intro _;subst hf;exact qB (lt_f (by simp only [len];omega))
theorem vW (s:BB) (hl:s.length≤1000000):v7 (s,())=some (if 1≤s.length∧s.length≤18∧figs s then ((val s:Int),0,()) else (0,2,())):=by
 unfold v7
 by_cases h1:s.length < 1
 ·refine (qG (qE (lt_t (by simp only [len];omega)))).trans ?_
  rw [if_neg (by omega)];rfl
 by_cases h2:18 < s.length
 ·refine (qG ((qB (lt_f (by simp only [len];omega))).trans (qE (lt_t (by simp only [len];omega))))).trans ?_
  rw [if_neg (by omega)];rfl
 refine (qG (a:=(bnot (decide (figs s)),())) ?_).trans ?_
 ·refine (qB (lt_f (by simp only [len];omega))).trans ?_
  refine (qB (lt_f (by simp only [len];omega))).trans ?_
  exact qG (qbO s hl)
 by_cases h3:figs s
 rotate_left
 ·refine (qE (by simp only [decide_eq_false h3,bnot,Bool.not_false])).trans ?_
  rw [if_neg (fun h=>h3 h.2.2)]
 refine (qB (by simp only [decide_eq_true h3,bnot,Bool.not_true])).trans ?_
 rw [if_pos ⟨by omega,by omega,h3⟩]
 generalize hf:(fun (x:Int×Int×Unit)=>_)=f
 have key:=z7 (f:=f) (fun i=>(((val (s.take i)*10 ^ (s.length - i):Nat):Int),(i:Int),())) s.length (fun _=>True) (0,2,()) 0 ?_ ?_ ?_
 ·have e0:(((val (s.take 0)*10 ^ (s.length - 0):Nat):Int),((0:Nat):Int),())=((0:Int),(0:Int),()):=by simp [val]
  rw [e0] at key
  rcases key with ⟨_,hr⟩ | ⟨⟨i,hi,hn⟩,hr⟩
  ·rw [hr]
   show some (((val (s.take s.length)*10 ^ (s.length - s.length):Nat):Int),(0:Int),())=_
   rw [List.take_length];simp
  ·exact absurd trivial hn
 ·intro i hi _
  subst hf
  refine (qE (lt_t (by simp only [len];omega))).trans ?_
  refine (qH (q9 hi)).trans ?_
  have c1:i64 (isub (i64 (isub (len s) 1)) (i:Int))=((s.length - 1 - i:Nat):Int):=by
   have:i64 (isub (len s) 1)=((s.length - 1:Nat):Int):=qBw (b:=1) (by omega) (by omega)
   rw [this,qBw (by omega) (by omega)]
  have hb:=qHu (i:=s.length - 1 - i) (by omega)
  have c2:xS (10,((s.length - 1 - i:Nat):Int),())=some (((10 ^ (s.length - 1 - i):Nat):Int),()):=wL 10 _ (by omega) (by omega) (by omega)
  have c3:=h3 i hi
  have c4:i64 (isub (i64 (n8 (nth s (nat (i:Int)) (u8 0)))) 48)=((s[i].toNat - 48:Nat):Int):=by
   rw [qZ,qL hi]
   have h256:=qvO s[i]
   have:i64 (n8 s[i])=((s[i].toNat:Nat):Int):=qcE (by omega)
   rw [this]
   exact qBw (b:=48) c3.1 (by omega)
  simp only [c1,c2]
  refine (qG rfl).trans ?_
  have hv:=qCs (s:=s) (i+1) (by omega) (fun j hj h=>h3 j h)
  have hp:10 ^ (i+1)*10 ^ (s.length - (i+1))≤1000000000000000000:=by
   rw [← Nat.pow_add];exact qHu (by omega)
  rw [qkB hi] at hv
  have e1:s.length - i=(s.length - (i+1))+1:=by omega
  have e2:s.length - 1 - i=s.length - (i+1):=by omega
  have hm:(10*val (s.take i)+(s[i].toNat - 48))*10 ^ (s.length - (i+1))≤10 ^ (i+1)*10 ^ (s.length - (i+1)):=Nat.mul_le_mul_right _ (by omega)
  have hs:val (s.take i)*10 ^ (s.length - i)+(s[i].toNat - 48)*10 ^ (s.length - (i+1))=(10*val (s.take i)+(s[i].toNat - 48))*10 ^ (s.length - (i+1)):=by
   rw [e1,Nat.pow_succ,Nat.add_mul];congr 1
   rw [Nat.mul_comm (10 ^ _) 10,← Nat.mul_assoc,Nat.mul_comm (val _) 10]
  simp only [c4,e2]
  rw [qm1 (by omega),zE (by omega),hs,qkB hi]
  have c:i64 (iadd (i:Int) 1)=((i+1:Nat):Int):=zE (b:=1) (by omega)
  rw [c]
 ·intro i _ _ h;exact absurd trivial h
 ·intro _;subst hf;exact qB (lt_f (by simp only [len];omega))
end Yp
namespace Yp
open Go
theorem qCR {B:Nat} {g:Nat→UInt8} {v:Nat}:∀ {n j:Nat} (h:j < (ps B g v n).length),(ps B g v n)[j]=g (v / B ^ (n - 1 - j) % B)
 | 0,j,h=>by simp [ps] at h
 | n+1,0,h=>by simp [ps]
 | n+1,j+1,h=>by
  simp only [ps,List.getElem_cons_succ]
  rw [qCR]
  have:n - 1 - j=n+1 - 1 - (j+1):=by omega
  rw [this]
theorem vM                (v w : Int) (hv : v ≤ 9223372036854775807) : j5           (v, w, ()) = some (if 1 ≤ w ∧ w ≤ 18 ∧ 0 ≤ v ∧ v < 10 ^ w.toNat then (ps 10 dch v.toNat w.toNat, 0, ()) else ([], 1, ())) := by
  unfold j5          
  by_cases h1 : w < 1
  · rw [if_neg (by omega)]; simp [sel, ob, lt, h1, none']
  by_cases h2 : 18 < w
  · rw [if_neg (by omega)]; simp [sel, ob, lt, h1, h2, none']
  by_cases h3 : v < 0
  · rw [if_neg (by omega)]; simp [sel, ob, lt, h1, h2, h3, none']
  obtain ⟨n, rfl⟩ : ∃ n : Nat, w = n := ⟨w.toNat, by omega⟩
  obtain ⟨V, rfl⟩ : ∃ n : Nat, v = n := ⟨v.toNat, by omega⟩
  have hpw : ∀ i : Nat, i ≤ 18 → xS          (10, (i : Int), ()) = some (((10 ^ i : Nat) : Int), ()) := fun i hi => by
    have := qHu   hi
    exact wL               10 i (by omega) (by omega) (by omega)
  refine (qG    (a := (decide (10 ^ n ≤ V), ())) ?_).trans ?_
  · refine (qB       (lt_f h1)).trans ?_
    refine (qB       (lt_f h2)).trans ?_
    refine (qB       (lt_f h3)).trans ?_
    refine (qG    (hpw n (by omega))).trans ?_
    show some (le ((10 ^ n : Nat) : Int) (V : Int), ()) = _
    rw [qF5   ]
  have hp : ((10 : Int) ^ n) = ((10 ^ n : Nat) : Int) := (Int.natCast_pow 10 n).symm
  by_cases hle : 10 ^ n ≤ V
  · refine (qE       (decide_eq_true hle)).trans ?_
    rw [if_neg]; · rfl
    intro h
    have := h.2.2.2
    rw [Int.toNat_natCast, hp] at this
    omega
  refine (qB       (decide_eq_false hle)).trans ?_
  rw [if_pos ⟨by omega, by omega, by omega, by rw [Int.toNat_natCast, hp]; omega⟩]
  simp only [Int.toNat_natCast]
  have e0 : i64 (isub (n : Int) 1) = (n : Int) - 1 := z0     (by simp only [isub]; omega) (by simp only [isub]; omega)
  rw [e0]
  generalize hf : (fun (x : List UInt8 × Int × Unit) => _) = f
  have key := z7        (f := f) (fun j => ((ps 10 dch V n).take j, (n : Int) - 1 - j, ())) n (fun _ => True) ([], 0, ()) 0 ?_ ?_ ?_
  · have e0 : ((ps 10 dch V n).take 0, (n : Int) - 1 - (0 : Nat), ()) = (none' UInt8, (n : Int) - 1, ()) := by simp [none']
    rw [e0] at key
    rcases key with ⟨_, hr⟩ | ⟨⟨i, hi, hn⟩, hr⟩
    · rw [hr]
      show some ((ps 10 dch V n).take n, (0 : Int), ()) = _
      rw [List.take_of_length_le (by rw [zK       ]; omega)]
    · exact absurd trivial hn
  · intro i hi _
    subst hf
    have e1 : (n : Int) - 1 - i = ((n - 1 - i : Nat) : Int) := by omega
    refine (qE       (le_t (show (0 : Int) ≤ (n : Int) - 1 - i by omega))).trans ?_
    simp only [e1]
    refine (qG    (hpw (n - 1 - i) (by omega))).trans ?_
    have hpos : 0 < 10 ^ (n - 1 - i) := Nat.pow_pos (by omega)
    have c1 : bnot (beq ((10 ^ (n - 1 - i) : Nat) : Int) 0) = true := by rw [wJ    (by omega)]; rfl
    refine (qH    c1).trans ?_
    have c2 : u8 (i64 (iadd 48 (imod (i64 (idiv (V : Int) ((10 ^ (n - 1 - i) : Nat) : Int))) 10))) = dch (V / 10 ^ (n - 1 - i) % 10) := by
      rw [qg0     (by omega), show (10 : Int) = ((10 : Nat) : Int) from rfl, qbR     ]
      have : V / 10 ^ (n - 1 - i) % 10 < 10 := Nat.mod_lt _ (by omega)
      rw [show (48 : Int) = ((48 : Nat) : Int) from rfl, zE      (by omega), qpP    ]; rfl
    have hj : i < (ps 10 dch V n).length := by rw [zK       ]; exact hi
    have c3 : (ps 10 dch V n)[i] = dch (V / 10 ^ (n - 1 - i) % 10) := qCR    hj
    have c4 : i64 (isub ((n - 1 - i : Nat) : Int) 1) = (n : Int) - 1 - ((i + 1 : Nat) : Int) := by
      rw [z0     (by simp only [isub]; omega) (by simp only [isub]; omega)]; simp only [isub]; omega
    simp only [c2, c4]
    refine (qH    (rm_t ?_)).trans ?_
    · simp only [nadd, ln, List.length_take, List.length_cons, List.length_nil]; omega
    rw [List.take_succ_eq_append_getElem hj, c3]; rfl
  · intro i _ _ h; exact absurd trivial h
  · intro _; subst hf
    exact qB       (le_f (show ¬ (0 : Int) ≤ (n : Int) - 1 - n by omega))
end Yp
namespace Yp
open Go
def dv (c:UInt8):Nat:=c.toNat - 48
def pad (s:BB):BB:=if s.length % 2=1 then 48 :: s else s
def dat (p:BB) (t:Nat):Nat:=dv (nth p t (u8 0))
def ql7 (p:BB) (a j:Nat):UInt8:=if 2*j+1 < a then UInt8.ofNat (16*dat p (2*j)+dat p (2*j+1)) else if 2*j < a then UInt8.ofNat (dat p (2*j)) else u8 0
def bcd (p:BB):BB:=(List.range (p.length / 2)).map fun j=>UInt8.ofNat (16*dat p (2*j)+dat p (2*j+1))
theorem qdD (s:BB):(pad s).length=2*((s.length+1) / 2):=by
 unfold pad
 split
 ·simp only [List.length_cons];omega
 ·omega
theorem qFA {s:BB} {i:Nat} (h:i < s.length):nth (pad s) (s.length % 2+i) (u8 0)=s[i]:=by
 unfold pad nth
 split
 ·rename_i h1;rw [h1,Nat.add_comm];simp [h]
 ·rename_i h1
  have:s.length % 2=0:=by omega
  rw [this,Nat.zero_add];simp [h]
theorem qbH {c:UInt8} (h:vB c):c=UInt8.ofNat (48+dv c)∧dv c < 10:=by
 unfold vB at h
 refine ⟨?_,by unfold dv;omega⟩
 apply UInt8.toNat_inj.1
 simp only [UInt8.toNat_ofNat',dv];omega
theorem qKB:∀ x:Nat,x < 10→∀ d:Nat,d < 10→u8 (orI .u8 (n8 (u8 (shlI .u8 (n8 (UInt8.ofNat x)) (n64 (u64 4))))) (n8 (u8 (d:Int))))=UInt8.ofNat (16*x+d):=by decide +kernel
theorem or0:∀ d:Nat,d < 10→u8 (orI .u8 (n8 (u8 (shlI .u8 (n8 (u8 0)) (n64 (u64 4))))) (n8 (u8 (d:Int))))=UInt8.ofNat d:=by decide +kernel
theorem qJl {s:BB} {a:Nat} (hf:∀ j,j < a - s.length % 2→∀ h:j < s.length,vB s[j]) (ha:a≤(pad s).length):∀ t,t < a→dat (pad s) t < 10:=by
 intro t ht
 have hl:=qdD s
 unfold dat
 by_cases h:t < s.length % 2
 ·have h1:s.length % 2=1:=by omega
  have h0:t=0:=by omega
  subst h0
  unfold pad;rw [if_pos h1]
  show dv 48 < 10
  decide
 ·have e:t=s.length % 2+(t - s.length % 2):=by omega
  have hi:t - s.length % 2 < s.length:=by omega
  rw [e,qFA hi]
  exact (qbH (hf _ (by omega) hi)).2
theorem qhD (s:BB) (hl:s.length≤1000000):qcI (s,())=some (if figs s then (bcd (pad s),0,()) else ([],2,())):=by
 unfold qcI
 have k1:i64 (idiv (i64 (iadd (len s) 1)) 2)=(((s.length+1) / 2:Nat):Int):=by
  rw [qJG,show i64 (iadd ((s.length:Nat):Int) 1)=((s.length+1:Nat):Int) from zE (b:=1) (by omega)]
  exact qg0 (b:=2) (by omega)
 have k2:imod (len s) 2=((s.length % 2:Nat):Int):=qbR (b:=2)
 simp only [k1,k2,qZ]
 generalize hk:(s.length+1) / 2=k
 have hpl:=qdD s
 rw [hk] at hpl
 refine (qH ?_).trans ?_
 ·simp only [band,Bool.and_eq_true]
  exact ⟨qmZ (by omega) (by omega) (by omega),rm_t (by omega)⟩
 generalize hf:(fun (x:Int×Int×Nat×BB×Unit)=>_)=f
 have key:=z7 (f:=f) (fun i=>(0,((s.length % 2+i:Nat):Int),i,(List.range k).map (ql7 (pad s) (s.length % 2+i)),())) s.length (fun i=>∀ h:i < s.length,vB s[i]) ([],2,()) 0 ?_ ?_ ?_
 ·have e0:((0:Int),((s.length % 2+0:Nat):Int),0,(List.range k).map (ql7 (pad s) (s.length % 2+0)),())=((0:Int),((s.length % 2:Nat):Int),0,rep k (u8 0),()):=by
   have:(List.range k).map (ql7 (pad s) (s.length % 2+0))=rep k (u8 0):=by
    apply List.ext_getElem
    ·simp [rep]
    ·intro j h1 h2
     simp only [List.getElem_map,List.getElem_range,rep,List.getElem_replicate,ql7]
     rw [if_neg (by omega)]
     split
     ·rename_i h3
      have h4:s.length % 2=1:=by omega
      have h5:j=0:=by omega
      subst h5
      unfold pad;rw [if_pos h4]
      show UInt8.ofNat (dv 48)=u8 0
      decide
     ·rfl
   rw [this];rfl
  rw [e0] at key
  rcases key with ⟨hall,hr⟩ | ⟨⟨i,hi,hn⟩,hr⟩
  ·rw [hr,if_pos (qbT.2 hall)]
   have:(List.range k).map (ql7 (pad s) (s.length % 2+s.length))=bcd (pad s):=by
    unfold bcd
    rw [hpl,show 2*k / 2=k by omega]
    apply List.map_congr_left
    intro j hj
    have:=List.mem_range.1 hj
    unfold ql7
    rw [if_pos (by omega)]
   rw [this];rfl
  ·rw [hr,if_neg (fun hc=>hn (qbT.1 hc i hi))];rfl
 ·intro i hi hp
  subst hf
  obtain ⟨e1,e2⟩:=qwA hi (hp i (Nat.le_refl _) hi)
  refine (qE (qD0 hi)).trans ?_
  refine (qG e1).trans ?_
  refine (qB rfl).trans ?_
  have hd:=(qbH (hp i (Nat.le_refl _) hi)).2
  generalize ha:s.length % 2+i=a
  have hlt10:=qJl (s:=s) (a:=a+1) (fun j hj=>hp j (by omega)) (by omega)
  have hda:dat (pad s) a=s[i].toNat - 48:=by unfold dat;rw [← ha,qFA hi];rfl
  have c1:i64 (idiv ((a:Nat):Int) 2)=((a / 2:Nat):Int):=qg0 (b:=2) (by omega)
  have c2:i64 (iadd ((a:Nat):Int) 1)=((a+1:Nat):Int):=zE (b:=1) (by omega)
  have hq:a / 2 < ((List.range k).map (ql7 (pad s) a)).length:=by simp;omega
  simp only [ha,c1,c2,e2,qZ]
  refine (qH (q9 hq)).trans ?_
  refine (qH (q9 hq)).trans ?_
  have e3:s.length % 2+(i+1)=a+1:=by omega
  have hv:u8 (orI .u8 (n8 (u8 (shlI .u8 (n8 (nth ((List.range k).map (ql7 (pad s) a)) (a / 2) (u8 0))) (n64 (u64 4))))) (n8 (u8 ((s[i].toNat - 48:Nat):Int))))=ql7 (pad s) (a+1) (a / 2):=by
   rw [qL hq,List.getElem_map,List.getElem_range,← hda]
   unfold ql7
   rw [if_neg (by omega)]
   by_cases hpar:a % 2=0
   ·rw [if_neg (by omega),if_neg (by omega),if_pos (by omega),or0 _ (hlt10 a (by omega)),show 2*(a / 2)=a by omega]
   ·rw [if_pos (by omega),if_pos (by omega),qKB _ (hlt10 _ (by omega)) _ (hlt10 a (by omega)),show 2*(a / 2)+1=a by omega]
  simp only [hv,e3]
  have hset:upd ((List.range k).map (ql7 (pad s) a)) (a / 2) (ql7 (pad s) (a+1) (a / 2))=(List.range k).map (ql7 (pad s) (a+1)):=by
   unfold upd
   apply List.ext_getElem
   ·simp
   ·intro j h1 h2
    rw [List.getElem_set]
    simp only [List.getElem_map,List.getElem_range]
    split
    ·rename_i h3;rw [h3]
    ·unfold ql7
     by_cases h4:2*j+1 < a
     ·rw [if_pos h4,if_pos (by omega)]
     ·rw [if_neg h4]
      by_cases h5:2*j < a
      ·rw [if_pos h5,if_neg (by omega),if_pos (by omega)]
      ·rw [if_neg h5,if_neg (by omega),if_neg (by omega)]
  rw [hset];rfl
 ·intro i hi _ hp
  subst hf
  have:¬ vB s[i]:=fun h=>hp fun _=>h
  obtain ⟨q,e1⟩:=qBy hi this
  refine (qE (qD0 hi)).trans ?_
  refine (qG e1).trans ?_
  rfl
 ·intro _
  subst hf
  exact qB (qJt (Nat.lt_irrefl _))
theorem qHl:∀ x,x < 10→∀ y,y < 10→u8 (isub (n8 (u8 (iadd (n8 (u8 (imul (n8 (u8 16)) (n8 (u8 (isub (n8 (UInt8.ofNat (48+x))) (n8 (u8 48)))))))) (n8 (UInt8.ofNat (48+y)))))) (n8 (u8 48)))=UInt8.ofNat (16*x+y):=by decide +kernel
theorem qb9 (s:BB) (hl:s.length≤1000000):vT (s,())=some (if figs s then (bcd (pad s),0,()) else ([],2,())):=by
 unfold vT
 refine (qG (qbO s hl)).trans ?_
 by_cases h3:figs s
 rotate_left
 ·refine (qE (by simp only [decide_eq_false h3,bnot,Bool.not_false])).trans ?_
  rw [if_neg h3];rfl
 refine (qB (by simp only [decide_eq_true h3,bnot,Bool.not_true])).trans ?_
 rw [if_pos h3]
 refine (qG (a:=(pad s,())) ?_).trans ?_
 ·have k2:imod (len s) 2=((s.length % 2:Nat):Int):=qbR (b:=2)
  simp only [k2]
  unfold pad
  by_cases h:s.length % 2=1
  ·rw [if_pos h]
   refine (qE (qfD (by omega))).trans ?_
   refine (qH (le_t ?_)).trans rfl
   simp only [iadd,len,List.length_cons,List.length_nil];omega
  ·rw [if_neg h]
   refine (qB (wJ (by omega)))
 have hpl:=qdD s
 have hfig:∀ t,(ht:t < (pad s).length)→vB (pad s)[t]:=by
  intro t ht
  by_cases h:s.length % 2=1
  ·have e:pad s=48 :: s:=by unfold pad;rw [if_pos h]
   simp only [e] at ht ⊢
   cases t with
   | zero=>exact (by decide:vB 48)
   | succ t=>exact h3 t (by simpa using ht)
  ·have e:pad s=s:=by unfold pad;rw [if_neg h]
   simp only [e] at ht ⊢
   exact h3 t ht
 have hpl':(pad s).length≤1000001:=by omega
 generalize pad s=p at *
 generalize hk:(s.length+1) / 2=k at *
 generalize hf:(fun (x:BB×Int×Unit)=>_)=f
 have key:=z7 (f:=f) (fun j=>((bcd p).take j,((2*j:Nat):Int),())) k (fun _=>True) ([],0,()) 0 ?_ ?_ ?_
 ·rcases key with ⟨_,hr⟩ | ⟨⟨i,hi,hn⟩,hr⟩
  ·have e0:((bcd p).take 0,((2*0:Nat):Int),())=(none' UInt8,(0:Int),()):=by simp [none']
   rw [e0] at hr
   rw [hr]
   show some ((bcd p).take k,(0:Int),())=_
   rw [List.take_of_length_le (by simp [bcd];omega)]
  ·exact absurd trivial hn
 ·intro i hi _
  subst hf
  refine (qE (lt_t (show ((2*i:Nat):Int) < len p by simp only [len];omega))).trans ?_
  have h0:2*i < p.length:=by omega
  have h1:2*i+1 < p.length:=by omega
  have c1:i64 (iadd ((2*i:Nat):Int) 1)=((2*i+1:Nat):Int):=zE (b:=1) (by omega)
  have c2:i64 (iadd ((2*i:Nat):Int) 2)=((2*(i+1):Nat):Int):=zE (b:=2) (by omega)
  simp only [c1,c2,qZ]
  refine (qH (q9 h0)).trans ?_
  refine (qH (q9 h1)).trans ?_
  refine (qH (rm_t ?_)).trans ?_
  ·simp only [nadd,ln,List.length_take,List.length_cons,List.length_nil,bcd,List.length_map,List.length_range];omega
  have hj:i < (bcd p).length:=by simp [bcd];omega
  have hg:(bcd p)[i]=UInt8.ofNat (16*dat p (2*i)+dat p (2*i+1)):=by simp [bcd]
  rw [List.take_succ_eq_append_getElem hj,hg,qL h0,qL h1]
  obtain ⟨a1,a2⟩:=qbH (hfig _ h0)
  obtain ⟨b1,b2⟩:=qbH (hfig _ h1)
  have hv:=qHl _ a2 _ b2
  rw [← a1,← b1] at hv
  have d1:dat p (2*i)=dv p[2*i]:=by unfold dat;rw [qL h0]
  have d2:dat p (2*i+1)=dv p[2*i+1]:=by unfold dat;rw [qL h1]
  rw [hv,d1,d2];rfl
 ·intro i _ _ h;exact absurd trivial h
 ·intro _;subst hf
  exact qB (lt_f (show ¬ ((2*k:Nat):Int) < len p by simp only [len];omega))
end Yp
namespace Yp
open Go
theorem qj2 {v:Nat}:∀ {n:Nat},figs (ps 10 dch v n)
 | n=>by
  intro i hi
  rw [qCR]
  have h10:v / 10 ^ (n - 1 - i) % 10 < 10:=Nat.mod_lt _ (by omega)
  generalize v / 10 ^ (n - 1 - i) % 10=d at *
  unfold vB dch
  simp only [UInt8.toNat_ofNat'];omega
theorem qHB {s:BB} (h:s.length % 2=0):pad s=s:=by unfold pad;rw [if_neg (by omega)]
end Yp
namespace Yp
open Go
theorem qb8            (v w : Int) (hv : v ≤ 9223372036854775807) : kS        (v, w, ()) = some (if 1 ≤ w ∧ w ≤ 8 ∧ 0 ≤ v ∧ v < 256 ^ w.toNat then (ps 256 byt v.toNat w.toNat, 0, ()) else ([], 1, ())) := by
  unfold kS       
  by_cases h1 : w < 1
  · rw [if_neg (by omega)]; simp [sel, ob, lt, h1, none']
  by_cases h2 : 8 < w
  · rw [if_neg (by omega)]; simp [sel, ob, lt, h1, h2, none']
  by_cases h3 : v < 0
  · rw [if_neg (by omega)]; simp [sel, ob, lt, h1, h2, h3, none']
  obtain ⟨n, rfl⟩ : ∃ n : Nat, w = n := ⟨w.toNat, by omega⟩
  obtain ⟨V, rfl⟩ : ∃ n : Nat, v = n := ⟨v.toNat, by omega⟩
  have p7 : ∀ i, i ≤ 7 → 256 ^ i ≤ 72057594037927936 := fun i hi => Nat.pow_le_pow_right (n := 256) (by omega) hi
  have p8 : 256 ^ 8 = 18446744073709551616 := by decide
  refine (qG    (a := (false, ())) ?_).trans ?_
  · refine (qB       (lt_f h1)).trans ?_
    refine (qB       (lt_f h2)).trans ?_
    exact congrArg (fun b => some (b, ())) (lt_f h3)
  refine (qB       rfl).trans ?_
  refine (qG    (a := (decide (¬ V < 256 ^ n), ())) ?_).trans ?_
  · by_cases h8 : n < 8
    · refine (qE       (lt_t (show (n : Int) < 8 by omega))).trans ?_
      have := p7 n (by omega)
      refine (qG    (wL               256 n (by omega) (by omega) (by omega))).trans ?_
      show some (le ((256 ^ n : Nat) : Int) (V : Int), ()) = _
      rw [qF5   ]
      have : decide (256 ^ n ≤ V) = decide (¬ V < 256 ^ n) := by rw [decide_eq_decide]; omega
      rw [this]
    · refine (qB       (lt_f (show ¬ (n : Int) < 8 by omega))).trans ?_
      have h : n = 8 := by omega
      subst h
      rw [decide_eq_false (by rw [p8]; omega)]
  have hp : ((256 : Int) ^ n) = ((256 ^ n : Nat) : Int) := (Int.natCast_pow 256 n).symm
  by_cases hlt : V < 256 ^ n
  rotate_left
  · refine (qE       (decide_eq_true hlt)).trans ?_
    rw [if_neg]; · rfl
    intro h
    have := h.2.2.2
    rw [Int.toNat_natCast, hp] at this
    omega
  refine (qB       (decide_eq_false (fun h => h hlt))).trans ?_
  rw [if_pos ⟨by omega, by omega, by omega, by rw [Int.toNat_natCast, hp]; omega⟩]
  simp only [Int.toNat_natCast]
  have e0 : i64 (isub (n : Int) 1) = (n : Int) - 1 := z0     (by simp only [isub]; omega) (by simp only [isub]; omega)
  rw [e0]
  refine (qH    ?_).trans ?_
  · simp only [band, Bool.and_eq_true]
    exact ⟨qmZ   (by omega) (by omega) (by omega), rm_t (by simp only [qZ     ]; omega)⟩
  generalize hf : (fun (x : Int × Int × List UInt8 × Unit) => _) = f
  have key := z7        (f := f) (fun i => (((V / 256 ^ i : Nat) : Int), (n : Int) - 1 - i, rep (n - i) (u8 0) ++ ps 256 byt V i, ())) n (fun _ => True) ([], 0, ()) 0 ?_ ?_ ?_
  · have e0 : (((V / 256 ^ 0 : Nat) : Int), (n : Int) - 1 - (0 : Nat), rep (n - 0) (u8 0) ++ ps 256 byt V 0, ()) = ((V : Int), (n : Int) - 1, rep (nat (n : Int)) (u8 0), ()) := by simp [ps, nat]
    rw [e0] at key
    rcases key with ⟨_, hr⟩ | ⟨⟨i, hi, hn⟩, hr⟩
    · rw [hr]
      have : rep (n - n) (u8 0) ++ ps 256 byt V n = ps 256 byt V n := by simp [rep]
      rw [this]; rfl
    · exact absurd trivial hn
  · intro i hi _
    subst hf
    refine (qE       (le_t (show (0 : Int) ≤ (n : Int) - 1 - i by omega))).trans ?_
    have e1 : (n : Int) - 1 - i = ((n - (i + 1) : Nat) : Int) := by omega
    have hin : n - (i + 1) < (rep (n - i) (u8 0) ++ ps 256 byt V i).length := by
      simp only [List.length_append, zK       , rep, List.length_replicate]; omega
    have hle : V / 256 ^ i ≤ V := Nat.div_le_self _ _
    have c1 : i64 (idiv ((V / 256 ^ i : Nat) : Int) 256) = ((V / 256 ^ (i + 1) : Nat) : Int) := by
      refine (qg0     (b := 256) (by omega)).trans ?_
      rw [Nat.div_div_eq_div_mul, Nat.pow_succ]
    have c2 : i64 (isub ((n - (i + 1) : Nat) : Int) 1) = (n : Int) - 1 - ((i + 1 : Nat) : Int) := by
      rw [z0     (by simp only [isub]; omega) (by simp only [isub]; omega)]; simp only [isub]; omega
    have c3 : u8 (imod ((V / 256 ^ i : Nat) : Int) 256) = byt (V / 256 ^ i % 256) := by
      rw [show imod ((V / 256 ^ i : Nat) : Int) 256 = ((V / 256 ^ i % 256 : Nat) : Int) from qbR      (b := 256), qpP    ]; rfl
    have hs : rep (n - i) (u8 0) = rep (n - (i + 1) + 1) (u8 0) := by congr 1; omega
    simp only [e1]
    refine (qH    (q9      hin)).trans ?_
    rw [c1, c2, c3, qZ     , hs, qAR    ]; rfl
  · intro i _ _ h; exact absurd trivial h
  · intro _; subst hf
    exact qB       (le_f (show ¬ (0 : Int) ≤ (n : Int) - 1 - n by omega))
def nib (d:Nat):UInt8:=nth hexs d (u8 0)
def jC (b:BB):BB:=b.flatMap fun x=>[nib (x.toNat / 16),nib (x.toNat % 16)]
theorem zM (b:BB):(jC b).length=2*b.length:=by
 induction b with
 | nil=>rfl
 | cons x r ih =>
  have:jC (x :: r)=[nib (x.toNat / 16),nib (x.toNat % 16)]++jC r:=rfl
  rw [this,List.length_append,ih];simp;omega
theorem qzI (a b:BB):jC (a++b)=jC a++jC b:=by simp [jC]
theorem qqQ (c:UInt8):UInt8.ofNat c.toNat=c:=by
 apply UInt8.toNat_inj.1;simp
theorem all8 {p:UInt8→Prop} (h:∀ n,n < 256→p (UInt8.ofNat n)) (c:UInt8):p c:=by
 have:=h c.toNat c.toNat_lt
 rwa [qqQ] at this
theorem qLa:∀ c:UInt8,inB (n8 (u8 (shrI IntKind.u8 (n8 c) (n64 (u64 4))))) (len [48,49,50,51,52,53,54,55,56,57,97,98,99,100,101,102])=true ∧
  nth [48,49,50,51,52,53,54,55,56,57,97,98,99,100,101,102] (nat (n8 (u8 (shrI IntKind.u8 (n8 c) (n64 (u64 4)))))) (u8 0)=nib (c.toNat / 16):=all8 (by decide +kernel)
theorem qK2:∀ c:UInt8,inB (n8 (u8 (andI IntKind.u8 (n8 c) (n8 (u8 15))))) (len [48,49,50,51,52,53,54,55,56,57,97,98,99,100,101,102])=true ∧
  nth [48,49,50,51,52,53,54,55,56,57,97,98,99,100,101,102] (nat (n8 (u8 (andI IntKind.u8 (n8 c) (n8 (u8 15)))))) (u8 0)=nib (c.toNat % 16):=all8 (by decide +kernel)
theorem qn2 (b:BB) (hl:b.length≤1000000):qrF (b,())=some (jC b,()):=by
 unfold qrF
 have k1:i64 (imul 2 (len b))=((2*b.length:Nat):Int):=qm1 (a:=2) (by omega)
 simp only [k1,qZ]
 refine (qH ?_).trans ?_
 ·simp only [band,Bool.and_eq_true]
  exact ⟨qmZ (by omega) (by omega) (by omega),rm_t (by omega)⟩
 generalize hf:(fun (x:BB×Int×Unit)=>_)=f
 have key:=z7 (f:=f) (fun i=>(jC (b.take i),(i:Int),())) b.length (fun _=>True) ([],()) 0 ?_ ?_ ?_
 ·have e0:(jC (b.take 0),((0:Nat):Int),())=(rep (nat 0) (u8 0),(0:Int),()):=by simp [jC,rep,nat]
  rw [e0] at key
  rcases key with ⟨_,hr⟩ | ⟨⟨i,hi,hn⟩,hr⟩
  ·rw [hr,List.take_length];rfl
  ·exact absurd trivial hn
 ·intro i hi _
  subst hf
  refine (qE (lt_t (show (i:Int) < len b by simp only [len];omega))).trans ?_
  refine (qH (q9 hi)).trans ?_
  have c:i64 (iadd (i:Int) 1)=((i+1:Nat):Int):=zE (b:=1) (by omega)
  simp only [qZ,qL hi,c]
  refine (qH (qLa _).1).trans ?_
  refine (qH (qK2 _).1).trans ?_
  simp only [(qLa _).2,(qK2 _).2]
  refine (qH (rm_t ?_)).trans ?_
  ·simp only [nadd,ln,zM,List.length_take,List.length_cons,List.length_nil];omega
  rw [List.take_succ_eq_append_getElem hi,qzI];rfl
 ·intro i _ _ h;exact absurd trivial h
 ·intro _;subst hf
  exact qB (lt_f (show ¬ ((b.length:Nat):Int) < len b by simp only [len];omega))
theorem qKE:∀ c:UInt8,qc5 (u8 (idiv (n8 c) (n8 (u8 16))),())=some (nib (c.toNat / 16),()):=all8 (by decide +kernel)
theorem qKD:∀ c:UInt8,qc5 (u8 (imod (n8 c) (n8 (u8 16))),())=some (nib (c.toNat % 16),()):=all8 (by decide +kernel)
theorem qsW (b:BB) (hl:b.length≤1000000):qgJ (b,())=some (jC b,()):=by
 unfold qgJ
 generalize hf:(fun (x:BB×Int×Unit)=>_)=f
 have key:=z7 (f:=f) (fun i=>(jC (b.take i),(i:Int),())) b.length (fun _=>True) ([],()) 0 ?_ ?_ ?_
 ·have e0:(jC (b.take 0),((0:Nat):Int),())=(none' UInt8,(0:Int),()):=by simp [jC,none']
  rw [e0] at key
  rcases key with ⟨_,hr⟩ | ⟨⟨i,hi,hn⟩,hr⟩
  ·rw [hr,List.take_length];rfl
  ·exact absurd trivial hn
 ·intro i hi _
  subst hf
  refine (qE (lt_t (show (i:Int) < len b by simp only [len];omega))).trans ?_
  refine (qH (q9 hi)).trans ?_
  have c:i64 (iadd (i:Int) 1)=((i+1:Nat):Int):=zE (b:=1) (by omega)
  simp only [qZ,qL hi,c]
  refine (qG (qKE _)).trans ?_
  refine (qH (q9 hi)).trans ?_
  refine (qG (qKD _)).trans ?_
  refine (qH (rm_t ?_)).trans ?_
  ·simp only [nadd,ln,zM,List.length_take,List.length_cons,List.length_nil];omega
  rw [List.take_succ_eq_append_getElem hi,qzI];rfl
 ·intro i _ _ h;exact absurd trivial h
 ·intro _;subst hf
  exact qB (lt_f (show ¬ ((b.length:Nat):Int) < len b by simp only [len];omega))
def qjZ (c:UInt8):Prop:=(48≤c.toNat∧c.toNat≤57)∨(97≤c.toNat∧c.toNat≤102)
instance (c:UInt8):Decidable (qjZ c):=inferInstanceAs (Decidable (_∨_))
def hval (c:UInt8):Nat:=if c.toNat≤57 then c.toNat - 48 else c.toNat - 87
def unh (s:BB):BB:=(List.range (s.length / 2)).map fun j=>UInt8.ofNat (16*hval (nth s (2*j) (u8 0))+hval (nth s (2*j+1) (u8 0)))
def hexy (s:BB):Prop:=∀ (i:Nat) (h:i < s.length),qjZ s[i]
instance (s:BB):Decidable (hexy s):=inferInstanceAs (Decidable (∀ (i:Nat) (h:i < s.length),qjZ s[i]))
theorem qn1:∀ c:UInt8,qpE (c,())=some (if qjZ c then (UInt8.ofNat (hval c),true,()) else (u8 0,false,())):=all8 (by decide +kernel)
theorem qgI:∀ c:UInt8,qeO (c,())=some (if qjZ c then ((hval c:Nat):Int) else 16,()):=all8 (by decide +kernel)
theorem qq2:∀ c:UInt8,qjZ c→hval c < 16:=all8 (by decide +kernel)
theorem qKZ:∀ x:Nat,x < 16→∀ y:Nat,y < 16→u8 (orI IntKind.u8 (n8 (u8 (shlI IntKind.u8 (n8 (UInt8.ofNat x)) (n64 (u64 4))))) (n8 (UInt8.ofNat y)))=UInt8.ofNat (16*x+y):=by decide +kernel
theorem qq3 {s:BB} {k:Nat} (h2:s.length=2*k):(∀ i,i < k→qjZ (nth s (2*i) (u8 0))∧qjZ (nth s (2*i+1) (u8 0)))↔hexy s:=by
 constructor
 ·intro h i hi
  have:=h (i / 2) (by omega)
  by_cases hp:i % 2=0
  ·have:=this.1
   rw [show 2*(i / 2)=i by omega,qL hi] at this;exact this
  ·have:=this.2
   rw [show 2*(i / 2)+1=i by omega,qL hi] at this;exact this
 ·intro h i hi
  rw [qL (by omega),qL (by omega)]
  exact ⟨h _ _,h _ _⟩
theorem qs9 (s:BB) (hl:s.length≤1000000):qhC (s,())=some (if s.length % 2=0∧hexy s then (unh s,0,()) else ([],2,())):=by
 unfold qhC
 have k2:imod (len s) 2=((s.length % 2:Nat):Int):=qbR (b:=2)
 have k1:i64 (idiv (len s) 2)=((s.length / 2:Nat):Int):=qg0 (b:=2) (by omega)
 simp only [k1,k2,qZ]
 by_cases h:s.length % 2=0
 rotate_left
 ·refine (qE (qfD (by omega))).trans ?_
  rw [if_neg (fun hc=>h hc.1)];rfl
 refine (qB (wJ (by omega))).trans ?_
 refine (qH ?_).trans ?_
 ·simp only [band,Bool.and_eq_true]
  exact ⟨qmZ (by omega) (by omega) (by omega),rm_t (by omega)⟩
 generalize hk:s.length / 2=k
 have h2:s.length=2*k:=by omega
 generalize hf:(fun (x:Int×BB×Int×Unit)=>_)=f
 have key:=z7 (f:=f) (fun i=>(0,(unh s).take i,((2*i:Nat):Int),())) k (fun i=>qjZ (nth s (2*i) (u8 0))∧qjZ (nth s (2*i+1) (u8 0))) ([],2,()) 0 ?_ ?_ ?_
 ·have e0:((0:Int),(unh s).take 0,((2*0:Nat):Int),())=((0:Int),rep (nat 0) (u8 0),(0:Int),()):=by simp [rep,nat]
  rw [e0] at key
  rcases key with ⟨hall,hr⟩ | ⟨⟨i,hi,hn⟩,hr⟩
  ·rw [hr,if_pos ⟨h,(qq3 h2).1 hall⟩,List.take_of_length_le (by simp [unh];omega)];rfl
  ·rw [hr,if_neg (fun hc=>hn ((qq3 h2).2 hc.2 i hi))];rfl
 ·intro i hi hp
  subst hf
  obtain ⟨p0,p1⟩:=hp i (Nat.le_refl _)
  have h0:2*i < s.length:=by omega
  have h1:2*i+1 < s.length:=by omega
  have c1:i64 (iadd ((2*i:Nat):Int) 1)=((2*i+1:Nat):Int):=zE (b:=1) (by omega)
  have c2:i64 (iadd ((2*i:Nat):Int) 2)=((2*(i+1):Nat):Int):=zE (b:=2) (by omega)
  refine (qE (lt_t (show ((2*i:Nat):Int) < len s by simp only [len];omega))).trans ?_
  refine (qH (q9 h0)).trans ?_
  simp only [c1,c2,qZ,qn1,if_pos p0,if_pos p1]
  refine (qG rfl).trans ?_
  refine (qH (q9 h1)).trans ?_
  refine (qG rfl).trans ?_
  refine (qG (a:=(false,())) rfl).trans ?_
  refine (qB rfl).trans ?_
  refine (qH (rm_t ?_)).trans ?_
  ·simp only [nadd,ln,List.length_take,List.length_cons,List.length_nil]
   have:(unh s).length=s.length / 2:=by simp [unh]
   omega
  have hj:i < (unh s).length:=by simp [unh];omega
  have hg:(unh s)[i]=UInt8.ofNat (16*hval (nth s (2*i) (u8 0))+hval (nth s (2*i+1) (u8 0))):=by simp [unh]
  rw [List.take_succ_eq_append_getElem hj,hg]
  simp only [qKZ _ (qq2 _ p0) _ (qq2 _ p1)];rfl
 ·intro i hi _ hp
  subst hf
  have h0:2*i < s.length:=by omega
  have h1:2*i+1 < s.length:=by omega
  have c1:i64 (iadd ((2*i:Nat):Int) 1)=((2*i+1:Nat):Int):=zE (b:=1) (by omega)
  refine (qE (lt_t (show ((2*i:Nat):Int) < len s by simp only [len];omega))).trans ?_
  refine (qH (q9 h0)).trans ?_
  simp only [c1,qZ,qn1]
  refine (qG rfl).trans ?_
  refine (qH (q9 h1)).trans ?_
  refine (qG rfl).trans ?_
  refine (qG (a:=(true,())) ?_).trans ?_
  ·by_cases q0:qjZ (nth s (2*i) (u8 0))
   ·rw [if_pos q0,if_neg (fun q1=>hp ⟨q0,q1⟩)];rfl
   ·rw [if_neg q0];rfl
  exact qE rfl
 ·intro _;subst hf
  exact qB (lt_f (show ¬ ((2*k:Nat):Int) < len s by simp only [len];omega))
theorem qoX (s:BB) (hl:s.length≤1000000):qaY (s,())=some (if s.length % 2=0∧hexy s then (unh s,0,()) else ([],2,())):=by
 unfold qaY
 have k2:imod (len s) 2=((s.length % 2:Nat):Int):=qbR (b:=2)
 simp only [k2]
 by_cases h:s.length % 2=0
 rotate_left
 ·refine (qE (qfD (by omega))).trans ?_
  rw [if_neg (fun hc=>h hc.1)];rfl
 refine (qB (wJ (by omega))).trans ?_
 generalize hk:s.length / 2=k
 have h2:s.length=2*k:=by omega
 generalize hf:(fun (x:Int×BB×Int×Unit)=>_)=f
 have key:=z7 (f:=f) (fun i=>(0,(unh s).take i,((2*i:Nat):Int),())) k (fun i=>qjZ (nth s (2*i) (u8 0))∧qjZ (nth s (2*i+1) (u8 0))) ([],2,()) 0 ?_ ?_ ?_
 ·have e0:((0:Int),(unh s).take 0,((2*0:Nat):Int),())=((0:Int),none' UInt8,(0:Int),()):=by simp [none']
  rw [e0] at key
  rcases key with ⟨hall,hr⟩ | ⟨⟨i,hi,hn⟩,hr⟩
  ·rw [hr,if_pos ⟨h,(qq3 h2).1 hall⟩,List.take_of_length_le (by simp [unh];omega)];rfl
  ·rw [hr,if_neg (fun hc=>hn ((qq3 h2).2 hc.2 i hi))];rfl
 ·intro i hi hp
  subst hf
  obtain ⟨p0,p1⟩:=hp i (Nat.le_refl _)
  have h0:2*i < s.length:=by omega
  have h1:2*i+1 < s.length:=by omega
  have c1:i64 (iadd ((2*i:Nat):Int) 1)=((2*i+1:Nat):Int):=zE (b:=1) (by omega)
  have c2:i64 (iadd ((2*i:Nat):Int) 2)=((2*(i+1):Nat):Int):=zE (b:=2) (by omega)
  have g0:=qq2 _ p0
  have g1:=qq2 _ p1
  refine (qE (lt_t (show ((2*i:Nat):Int) < len s by simp only [len];omega))).trans ?_
  refine (qH (q9 h0)).trans ?_
  simp only [c1,c2,qZ,qgI,if_pos p0,if_pos p1]
  refine (qG rfl).trans ?_
  refine (qH (q9 h1)).trans ?_
  refine (qG rfl).trans ?_
  refine (qG (a:=(false,())) ?_).trans ?_
  ·refine (qB (lt_f (by omega))).trans ?_
   exact congrArg (fun b=>some (b,())) (lt_f (by omega))
  refine (qB rfl).trans ?_
  refine (qH (rm_t ?_)).trans ?_
  ·simp only [nadd,ln,List.length_take,List.length_cons,List.length_nil]
   have:(unh s).length=s.length / 2:=by simp [unh]
   omega
  have hj:i < (unh s).length:=by simp [unh];omega
  have hg:(unh s)[i]=UInt8.ofNat (16*hval (nth s (2*i) (u8 0))+hval (nth s (2*i+1) (u8 0))):=by simp [unh]
  have c3:i64 (iadd (i64 (imul 16 ((hval (nth s (2*i) (u8 0)):Nat):Int))) ((hval (nth s (2*i+1) (u8 0)):Nat):Int))=((16*hval (nth s (2*i) (u8 0))+hval (nth s (2*i+1) (u8 0)):Nat):Int):=by
   rw [show i64 (imul 16 ((hval (nth s (2*i) (u8 0)):Nat):Int))=((16*hval (nth s (2*i) (u8 0)):Nat):Int) from qm1 (a:=16) (by omega)]
   exact zE (by omega)
  rw [List.take_succ_eq_append_getElem hj,hg]
  simp only [c3,qpP];rfl
 ·intro i hi _ hp
  subst hf
  have h0:2*i < s.length:=by omega
  have h1:2*i+1 < s.length:=by omega
  have c1:i64 (iadd ((2*i:Nat):Int) 1)=((2*i+1:Nat):Int):=zE (b:=1) (by omega)
  refine (qE (lt_t (show ((2*i:Nat):Int) < len s by simp only [len];omega))).trans ?_
  refine (qH (q9 h0)).trans ?_
  simp only [c1,qZ,qgI]
  refine (qG rfl).trans ?_
  refine (qH (q9 h1)).trans ?_
  refine (qG rfl).trans ?_
  refine (qG (a:=(true,())) ?_).trans ?_
  ·by_cases q0:qjZ (nth s (2*i) (u8 0))
   ·rw [if_pos q0,if_neg (fun q1=>hp ⟨q0,q1⟩)]
    have:=qq2 _ q0
    refine (qB (lt_f (by omega))).trans ?_
    exact congrArg (fun b=>some (b,())) (lt_t (by omega))
   ·rw [if_neg q0]
    exact qE (lt_t (by omega))
  exact qE rfl
 ·intro _;subst hf
  exact qB (lt_f (show ¬ ((2*k:Nat):Int) < len s by simp only [len];omega))
end Yp
namespace Yp
open Go
def bev (l:BB):Nat:=l.foldl (fun n c=>256*n+c.toNat) 0
theorem ql5 {s:BB} {i:Nat} (h:i < s.length):bev (s.take (i+1))=256*bev (s.take i)+s[i].toNat:=by
 unfold bev
 rw [List.take_succ_eq_append_getElem h,List.foldl_append];rfl
theorem qIL {s:BB}:∀ i,i≤s.length→bev (s.take i) < 256 ^ i
 | 0,_=>by simp [bev]
 | i+1,h=>by
  have:=qIL (s:=s) i (by omega)
  have hi:=qvO s[i]
  rw [ql5 (by omega),Nat.pow_succ]
  omega
theorem qGS {s:BB} (h0:0 < s.length) (hs:s[0].toNat≤127):∀ i,i < s.length→bev (s.take (i+1)) < 128*256 ^ i
 | 0,_=>by rw [ql5 h0];simp [bev];omega
 | i+1,h=>by
  have:=qGS h0 hs i (by omega)
  have hi:=qvO s[i+1]
  rw [ql5 h,Nat.pow_succ]
  omega
def tk (b:BB) (A W:Nat):BB:=(b.drop A).take W
theorem vC {b:BB} {A W:Nat} (h:A+W≤b.length):(tk b A W).length=W:=by simp [tk];omega
theorem qCv {b:BB} {A W i:Nat} (h:i < (tk b A W).length) (h':A+i < b.length):(tk b A W)[i]=b[A+i]:=by simp [tk]
theorem qCx {b:BB} {A W:Nat}:sub b (A:Int) ((A+W:Nat):Int)=tk b A W:=by
 unfold sub tk
 rw [Int.toNat_natCast,Int.toNat_natCast,show A+W - A=W by omega]
def qjJ (b:BB) (at' w:Int):Int×Int×Int×Unit :=
 if w < 1∨8 < w∨at' < 0∨(b.length:Int) < at' then (0,0,1,()) else if (b.length:Int) - at' < w then (0,0,3,())
 else if w=8∧127 < (nth b at'.toNat (u8 0)).toNat then (0,0,2,()) else ((bev (tk b at'.toNat w.toNat):Int),at'+w,0,())
theorem qGT {b:BB} {A W:Nat} (hA:A+W≤b.length) (hW:W≤8) (h7:¬ ((W:Int)=8∧127 < (nth b A (u8 0)).toNat)):∀ i,i < W→bev ((tk b A W).take (i+1))≤9223372036854775807:=by
 intro i hi
 have hl:=vC hA
 by_cases hi7:i+1≤7
 ·have h1:=qIL (s:=tk b A W) (i+1) (by omega)
  have h2:256 ^ (i+1)≤256 ^ 7:=Nat.pow_le_pow_right (by omega) hi7
  have h3:256 ^ 7=72057594037927936:=by decide
  omega
 ·have h8:W=8:=by omega
  have h0:0 < (tk b A W).length:=by omega
  have hn:(tk b A W)[0]=nth b A (u8 0):=by
   rw [qCv h0 (by omega),qL (by omega)];rfl
  have hs:(tk b A W)[0].toNat≤127:=by rw [hn];exact Nat.le_of_not_lt fun h=>h7 ⟨by omega,h⟩
  have:=qGS h0 hs i (by omega)
  have hi':i=7:=by omega
  subst hi'
  have h3:256 ^ 7=72057594037927936:=by decide
  omega
theorem qk4 (b:BB) (at' w:Int) (hl:b.length≤1000000):qaA (b,at',w,())=some (qjJ b at' w):=by
 unfold qaA qjJ
 by_cases h1:w < 1
 ·rw [if_pos (.inl h1)];exact (qG (qE (lt_t h1))).trans rfl
 by_cases h2:8 < w
 ·rw [if_pos (.inr (.inl h2))];exact (qG (a:=(true,())) ((qB (lt_f h1)).trans (qE (lt_t h2)))).trans rfl
 by_cases h3:at' < 0
 ·rw [if_pos (.inr (.inr (.inl h3)))];exact (qG (a:=(true,())) ((qB (lt_f h1)).trans ((qB (lt_f h2)).trans (qE (lt_t h3))))).trans rfl
 by_cases h4:(b.length:Int) < at'
 ·rw [if_pos (.inr (.inr (.inr h4)))];exact (qG (a:=(true,())) ((qB (lt_f h1)).trans ((qB (lt_f h2)).trans ((qB (lt_f h3)).trans (congrArg (fun b=>some (b,())) (lt_t h4)))))).trans rfl
 rw [if_neg (by omega)]
 refine (qG (a:=(false,())) ((qB (lt_f h1)).trans ((qB (lt_f h2)).trans ((qB (lt_f h3)).trans (congrArg (fun b=>some (b,())) (lt_f h4)))))).trans ?_
 refine (qB rfl).trans ?_
 obtain ⟨A,rfl⟩:∃ n:Nat,at'=n:=⟨at'.toNat,by omega⟩
 obtain ⟨W,rfl⟩:∃ n:Nat,w=n:=⟨w.toNat,by omega⟩
 have c0:i64 (isub (len b) (A:Int))=(b.length:Int) - A:=by
  simp only [isub,len];exact z0 (by omega) (by omega)
 simp only [c0]
 by_cases h5:(b.length:Int) - A < W
 ·rw [if_pos h5];exact qE (lt_t h5)
 rw [if_neg h5]
 refine (qB (lt_f h5)).trans ?_
 have hAW:A+W≤b.length:=by omega
 have hA:A < b.length:=by omega
 have ctest:(sel (beq (W:Int) 8) (ck (inB (A:Int) (len b)) (some (le (n8 (u8 128)) (n8 (nth b (nat (A:Int)) (u8 0))),()))) (some (false,())):Option (Bool×Unit))=some (decide ((W:Int)=8∧127 < (nth b A (u8 0)).toNat),()):=by
  by_cases h8:(W:Int)=8
  ·refine (qE (qfD h8)).trans ?_
   refine (qH (q9 hA)).trans ?_
   rw [qZ,show n8 (u8 128)=((128:Nat):Int) by decide,show n8 (nth b A (u8 0))=(((nth b A (u8 0)).toNat:Nat):Int) from rfl,qF5]
   simp only [h8,true_and]
   rfl
  ·refine (qB (wJ h8)).trans ?_
   rw [decide_eq_false (fun h=>h8 h.1)]
 simp only [Int.toNat_natCast]
 refine (qG ctest).trans ?_
 by_cases h7:(W:Int)=8∧127 < (nth b A (u8 0)).toNat
 ·rw [if_pos h7];exact qE (decide_eq_true h7)
 rw [if_neg h7]
 refine (qB (decide_eq_false h7)).trans ?_
 have c1:i64 (iadd (A:Int) (W:Int))=((A+W:Nat):Int):=zE (by omega)
 simp only [c1]
 have hlt:=vC hAW
 have hbnd:=qGT hAW (by omega) h7
 have hget:∀ i (h:i < (tk b A W).length),(tk b A W)[i]=nth b (A+i) (u8 0):=fun i h=>by
  rw [qCv h (by omega),qL (by omega)]
 generalize htk:tk b A W=t at *
 generalize hf:(fun (x:Int×Int×Unit)=>_)=f
 have key:=z7 (f:=f) (fun i=>((bev (t.take i):Int),(i:Int),())) W (fun _=>True) (0,0,0,()) 0 ?_ ?_ ?_
 ·have e0:((bev (t.take 0):Int),((0:Nat):Int),())=((0:Int),(0:Int),()):=by simp [bev]
  rw [e0] at key
  rcases key with ⟨_,hr⟩ | ⟨⟨i,hi,hn⟩,hr⟩
  ·rw [hr,List.take_of_length_le (by omega)]
   show some ((bev t:Int),((A+W:Nat):Int),0,())=_
   simp
  ·exact absurd trivial hn
 ·intro i hi _
  subst hf
  have hit:i < t.length:=by omega
  refine (qE (lt_t (show (i:Int) < (W:Int) by omega))).trans ?_
  have c3:i64 (iadd (A:Int) (i:Int))=((A+i:Nat):Int):=zE (by omega)
  simp only [c3,qZ]
  refine (qH (q9 (show A+i < b.length by omega))).trans ?_
  have c:i64 (iadd (i:Int) 1)=((i+1:Nat):Int):=zE (b:=1) (by omega)
  have h256:=qvO t[i]
  have hb:=hbnd i hi
  rw [ql5 hit] at hb
  have c2:i64 (n8 t[i])=((t[i].toNat:Nat):Int):=qcE (by omega)
  rw [← hget i hit,c,c2,show i64 (imul 256 (bev (t.take i):Int))=((256*bev (t.take i):Nat):Int) from qm1 (a:=256) (by omega),zE hb,ql5 hit]
 ·intro i _ _ h;exact absurd trivial h
 ·intro _;subst hf
  exact qB (lt_f (show ¬ (W:Int) < (W:Int) by omega))
end Yp
namespace Yp
open Go
def zJ (b:BB) (at' n:Int):BB×Int×Int×Unit :=
 if n < 0∨999 < n∨at' < 0∨(b.length:Int) < at' then ([],0,1,()) else if (b.length:Int) - at' < (n+1) / 2 then ([],0,3,())
 else if n % 2=1∧¬ nth (jC (tk b at'.toNat ((n.toNat+1) / 2))) 0 (u8 0)=48 then ([],0,2,())
 else if figs ((jC (tk b at'.toNat ((n.toNat+1) / 2))).drop (n.toNat % 2)) then ((jC (tk b at'.toNat ((n.toNat+1) / 2))).drop (n.toNat % 2),at'+((n.toNat+1) / 2:Nat),0,()) else ([],0,2,())
theorem qyI (s:BB) (f:BB×Int×Int×Nat×Unit→Option (LS (BB×Int×Int×Nat×Unit) (BB×Int×Int×Unit)))
  (hf:f=fun x=>sel (nlt x.2.2.2.1 (ln s)) (ob (xL (ofn (decode s x.2.2.2.1).1,())) fun a_1=>sel (bnot a_1.2.1) (some (LS.rt (none' UInt8,0,2,()))) (some (LS.nx (x.1,x.2.1,x.2.2.1,nadd x.2.2.2.1 (decode s x.2.2.2.1).2,())))) (some (LS.ex 0 (x.1,x.2.1,x.2.2.1,x.2.2.2.1,())))) :
  loop f (none' UInt8,0,0,0,())=some (if figs s then LS.ex 0 (none' UInt8,0,0,s.length,()) else LS.rt (none' UInt8,0,2,())):=by
 have key:=z7 (f:=f) (fun i=>(none' UInt8,(0:Int),(0:Int),i,())) s.length (fun i=>∀ h:i < s.length,vB s[i]) (none' UInt8,0,2,()) 0 ?_ ?_ ?_
 ·rcases key with ⟨hall,hr⟩ | ⟨⟨i,hi,hn⟩,hr⟩
  ·rw [hr,if_pos (qbT.2 hall)]
  ·rw [hr,if_neg (fun hc=>hn (qbT.1 hc i hi))]
 ·intro i hi hp
  subst hf
  obtain ⟨e1,e2⟩:=qwA hi (hp i (Nat.le_refl _) hi)
  refine (qE (qD0 hi)).trans ?_
  refine (qG e1).trans ?_
  refine (qB rfl).trans ?_
  simp only [e2];rfl
 ·intro i hi _ hp
  subst hf
  have:¬ vB s[i]:=fun h=>hp fun _=>h
  obtain ⟨q,e1⟩:=qBy hi this
  refine (qE (qD0 hi)).trans ?_
  refine (qG e1).trans ?_
  rfl
 ·intro _
  subst hf
  exact qB (qJt (Nat.lt_irrefl _))
theorem wN (b:BB) (at' n:Int) (hl:b.length≤1000000):vH (b,at',n,())=some (zJ b at' n):=by
 unfold vH zJ
 by_cases h1:n < 0
 ·rw [if_pos (.inl h1)];exact (qG (qE (lt_t h1))).trans rfl
 by_cases h2:999 < n
 ·rw [if_pos (.inr (.inl h2))];exact (qG (a:=(true,())) ((qB (lt_f h1)).trans (qE (lt_t h2)))).trans rfl
 by_cases h3:at' < 0
 ·rw [if_pos (.inr (.inr (.inl h3)))];exact (qG (a:=(true,())) ((qB (lt_f h1)).trans ((qB (lt_f h2)).trans (qE (lt_t h3))))).trans rfl
 by_cases h4:(b.length:Int) < at'
 ·rw [if_pos (.inr (.inr (.inr h4)))];exact (qG (a:=(true,())) ((qB (lt_f h1)).trans ((qB (lt_f h2)).trans ((qB (lt_f h3)).trans (congrArg (fun b=>some (b,())) (lt_t h4)))))).trans rfl
 rw [if_neg (by omega)]
 refine (qG (a:=(false,())) ((qB (lt_f h1)).trans ((qB (lt_f h2)).trans ((qB (lt_f h3)).trans (congrArg (fun b=>some (b,())) (lt_f h4)))))).trans ?_
 refine (qB rfl).trans ?_
 obtain ⟨A,rfl⟩:∃ n:Nat,at'=n:=⟨at'.toNat,by omega⟩
 obtain ⟨N,rfl⟩:∃ k:Nat,n=k:=⟨n.toNat,by omega⟩
 have c0:i64 (isub (len b) (A:Int))=(b.length:Int) - A:=by
  simp only [isub,len];exact z0 (by omega) (by omega)
 have c1:i64 (idiv (i64 (iadd (N:Int) 1)) 2)=(((N+1) / 2:Nat):Int):=by
  rw [show i64 (iadd (N:Int) 1)=((N+1:Nat):Int) from zE (b:=1) (by omega)]
  exact qg0 (b:=2) (by omega)
 have c2:((N:Int)+1) / 2=(((N+1) / 2:Nat):Int):=by omega
 simp only [c0,c1,c2,Int.toNat_natCast]
 generalize hM:(N+1) / 2=M
 by_cases h5:(b.length:Int) - A < M
 ·rw [if_pos h5];exact qE (lt_t h5)
 rw [if_neg h5]
 refine (qB (lt_f h5)).trans ?_
 have hAM:A+M≤b.length:=by omega
 have c3:i64 (iadd (A:Int) (M:Int))=((A+M:Nat):Int):=zE (by omega)
 simp only [c3,qCx]
 refine (qH (qmZ (by omega) (by omega) (by simp only [len];omega))).trans ?_
 have htl:=vC hAM
 refine (qG (qn2 (tk b A M) (by omega))).trans ?_
 have hhl:=zM (tk b A M)
 rw [htl] at hhl
 generalize jC (tk b A M)=h at *
 have k2:imod (N:Int) 2=((N % 2:Nat):Int):=qbR (b:=2)
 simp only [k2]
 by_cases hodd:N % 2=1
 ·have hm:(N:Int) % 2=1:=by omega
  refine (qE (qfD (by omega))).trans ?_
  have h0:0 < h.length:=by omega
  refine (qH (q9 (a:=0) h0)).trans ?_
  have e0:beq (n8 (nth h (nat 0) (u8 0))) (n8 (u8 48))=decide (nth h 0 (u8 0)=48):=by
   show ((((nth h 0 (u8 0)).toNat:Nat):Int) == ((48:Nat):Int))=_
   rw [Bool.eq_iff_iff]
   simp only [beq_iff_eq,decide_eq_true_eq]
   constructor
   ·intro hh;apply UInt8.toNat_inj.1;exact Int.ofNat.inj hh
   ·intro hh;rw [hh];rfl
  rw [e0]
  by_cases hz:nth h 0 (u8 0)=48
  rotate_left
  ·rw [if_pos ⟨hm,hz⟩]
   exact qE (by rw [decide_eq_false hz];rfl)
  rw [if_neg (fun hc=>hc.2 hz)]
  refine (qB (by rw [decide_eq_true hz];rfl)).trans ?_
  refine (qH (qmZ (by omega) (by simp only [len];omega) (by simp only [len];omega))).trans ?_
  have es:sub h 1 (len h)=h.drop 1:=by
   unfold sub len
   show (h.drop 1).take (h.length - 1)=_
   rw [List.take_of_length_le (by simp)]
  simp only [es,hodd]
  refine (zH (qyI (h.drop 1) _ rfl)).trans ?_
  by_cases hf:figs (h.drop 1)
  ·rw [if_pos hf,if_pos hf]
   show some (h.drop 1,((A+M:Nat):Int),(0:Int),())=_
   simp
  ·rw [if_neg hf,if_neg hf];rfl
 ·have hev:N % 2=0:=by omega
  rw [if_neg (fun hc=>by omega)]
  refine (qB (wJ (by omega))).trans ?_
  simp only [hev,List.drop_zero]
  refine (zH (qyI h _ rfl)).trans ?_
  by_cases hf:figs h
  ·rw [if_pos hf,if_pos hf]
   show some (h,((A+M:Nat):Int),(0:Int),())=_
   simp
  ·rw [if_neg hf,if_neg hf];rfl
end Yp
namespace Yp
open Go
def nbs (b:BB):BB:=b.flatMap fun c=>[u8 (idiv (n8 c) (n8 (u8 16))),u8 (imod (n8 c) (n8 (u8 16)))]
theorem qJy (a b:BB):nbs (a++b)=nbs a++nbs b:=by simp [nbs]
theorem qC4:∀ c:UInt8,([u8 (idiv (n8 c) (n8 (u8 16))),u8 (imod (n8 c) (n8 (u8 16)))].map fun x=>nib x.toNat)=[nib (c.toNat / 16),nib (c.toNat % 16)]∧(u8 (idiv (n8 c) (n8 (u8 16)))).toNat < 16∧(u8 (imod (n8 c) (n8 (u8 16)))).toNat < 16:=all8 (by decide +kernel)
theorem qFW (b:BB):jC b=(nbs b).map fun x=>nib x.toNat:=by
 induction b with
 | nil=>rfl
 | cons c r ih =>
  have e1:jC (c :: r)=[nib (c.toNat / 16),nib (c.toNat % 16)]++jC r:=rfl
  have e2:nbs (c :: r)=[u8 (idiv (n8 c) (n8 (u8 16))),u8 (imod (n8 c) (n8 (u8 16)))]++nbs r:=rfl
  rw [e1,e2,List.map_append,(qC4 c).1,ih]
theorem qK0 (b:BB):∀ x∈nbs b,x.toNat < 16:=by
 intro x hx
 unfold nbs at hx
 rw [List.mem_flatMap] at hx
 obtain ⟨c,_,hx⟩:=hx
 have:=qC4 c
 simp only [List.mem_cons,List.not_mem_nil,or_false] at hx
 rcases hx with rfl | rfl
 ·exact this.2.1
 ·exact this.2.2
theorem qt8 (b:BB):(nbs b).length=2*b.length:=by rw [← zM,qFW,List.length_map]
theorem qFU:∀ d:Nat,d < 16→(vB (nib d)↔d≤9):=by decide +kernel
theorem qJu:∀ d:Nat,d < 10→u8 (iadd (n8 (UInt8.ofNat d)) (n8 (u8 48)))=nib d:=by decide +kernel
theorem qHH:∀ d:Nat,d < 16→(nib d=48↔d=0):=by decide +kernel
def half' (l:BB) (o i:Nat):BB:=(List.range l.length).map fun j=>if o≤j∧j < o+i then nib (nth l j (u8 0)).toNat else nth l j (u8 0)
theorem j7 (l:BB) (o i:Nat):(half' l o i).length=l.length:=by simp [half']
theorem quE (l:BB) (o:Nat):half' l o 0=l:=by
 apply List.ext_getElem
 ·simp [half']
 ·intro j h1 h2
  simp only [half',List.getElem_map,List.getElem_range]
  rw [if_neg (by omega),qL h2]
theorem qzK {l:BB} {o:Nat}:(half' l o (l.length - o)).drop o=(l.map fun x=>nib x.toNat).drop o:=by
 apply List.ext_getElem
 ·simp [half']
 ·intro j h1 h2
  simp only [List.length_drop,j7] at h1
  simp only [half',List.getElem_drop,List.getElem_map,List.getElem_range]
  rw [if_pos (by omega),qL (by omega)]
theorem quF {l:BB} {o i:Nat} (h:o+i < l.length) (hd:(nth l (o+i) (u8 0)).toNat≤9) :
  upd (half' l o i) (o+i) (u8 (iadd (n8 (nth (half' l o i) (o+i) (u8 0))) (n8 (u8 48))))=half' l o (i+1)∧nth (half' l o i) (o+i) (u8 0)=nth l (o+i) (u8 0):=by
 have e:nth (half' l o i) (o+i) (u8 0)=nth l (o+i) (u8 0):=by
  rw [qL (by rw [j7];exact h)]
  simp only [half',List.getElem_map,List.getElem_range]
  rw [if_neg (by omega)]
 refine ⟨?_,e⟩
 rw [e]
 have hv:=qJu (nth l (o+i) (u8 0)).toNat (by omega)
 rw [qqQ] at hv
 rw [hv]
 unfold upd
 apply List.ext_getElem
 ·simp [half']
 ·intro j h1 h2
  rw [List.getElem_set]
  simp only [half',List.getElem_map,List.getElem_range]
  split
  ·rename_i hj;subst hj;rw [if_pos (by omega)]
  ·by_cases hc:o≤j∧j < o+i
   ·rw [if_pos hc,if_pos (by omega)]
   ·rw [if_neg hc,if_neg (by omega)]
theorem qzJ {l:BB} {o i:Nat} (h:o+i < l.length):nth (half' l o i) (o+i) (u8 0)=nth l (o+i) (u8 0):=by
 rw [qL (by rw [j7];exact h)]
 simp only [half',List.getElem_map,List.getElem_range]
 rw [if_neg (by omega)]
theorem qlP {l:BB} {o:Nat} (hlt:∀ x∈l,x.toNat < 16):figs ((l.map fun x=>nib x.toNat).drop o)↔∀ i,i < l.length - o→(nth l (o+i) (u8 0)).toNat≤9:=by
 unfold figs
 constructor
 ·intro h i hi
  have h1:=h i (by simp;omega)
  simp only [List.getElem_drop,List.getElem_map] at h1
  rw [qL (by omega)]
  exact (qFU _ (hlt _ (List.getElem_mem _))).1 h1
 ·intro h i hi
  simp only [List.length_drop,List.length_map] at hi
  simp only [List.getElem_drop,List.getElem_map]
  have h1:=h i hi
  rw [qL (by omega)] at h1
  exact (qFU _ (hlt _ (List.getElem_mem _))).2 h1
theorem j0 (b:BB) (at' n:Int) (hl:b.length≤1000000):j3 (b,at',n,())=some (zJ b at' n):=by
 unfold j3 zJ
 by_cases h1:n < 0
 ·rw [if_pos (.inl h1)];exact (qG (qE (lt_t h1))).trans rfl
 by_cases h2:999 < n
 ·rw [if_pos (.inr (.inl h2))];exact (qG (a:=(true,())) ((qB (lt_f h1)).trans (qE (lt_t h2)))).trans rfl
 by_cases h3:at' < 0
 ·rw [if_pos (.inr (.inr (.inl h3)))];exact (qG (a:=(true,())) ((qB (lt_f h1)).trans ((qB (lt_f h2)).trans (qE (lt_t h3))))).trans rfl
 by_cases h4:(b.length:Int) < at'
 ·rw [if_pos (.inr (.inr (.inr h4)))];exact (qG (a:=(true,())) ((qB (lt_f h1)).trans ((qB (lt_f h2)).trans ((qB (lt_f h3)).trans (congrArg (fun b=>some (b,())) (lt_t h4)))))).trans rfl
 rw [if_neg (by omega)]
 refine (qG (a:=(false,())) ((qB (lt_f h1)).trans ((qB (lt_f h2)).trans ((qB (lt_f h3)).trans (congrArg (fun b=>some (b,())) (lt_f h4)))))).trans ?_
 refine (qB rfl).trans ?_
 obtain ⟨A,rfl⟩:∃ n:Nat,at'=n:=⟨at'.toNat,by omega⟩
 obtain ⟨N,rfl⟩:∃ k:Nat,n=k:=⟨n.toNat,by omega⟩
 have c0:i64 (isub (len b) (A:Int))=(b.length:Int) - A:=by
  simp only [isub,len];exact z0 (by omega) (by omega)
 have c1:i64 (idiv (i64 (iadd (N:Int) 1)) 2)=(((N+1) / 2:Nat):Int):=by
  rw [show i64 (iadd (N:Int) 1)=((N+1:Nat):Int) from zE (b:=1) (by omega)]
  exact qg0 (b:=2) (by omega)
 have c2:((N:Int)+1) / 2=(((N+1) / 2:Nat):Int):=by omega
 simp only [c0,c1,c2,Int.toNat_natCast]
 generalize hM:(N+1) / 2=M
 by_cases h5:(b.length:Int) - A < M
 ·rw [if_pos h5];exact qE (lt_t h5)
 rw [if_neg h5]
 refine (qB (lt_f h5)).trans ?_
 have hAM:A+M≤b.length:=by omega
 have c3:i64 (iadd (A:Int) (M:Int))=((A+M:Nat):Int):=zE (by omega)
 simp only [c3]
 have htl:=vC hAM
 have hget:∀ i (h:i < (tk b A M).length),(tk b A M)[i]=nth b (A+i) (u8 0):=fun i h=>by
  rw [qCv h (by omega),qL (by omega)]
 generalize tk b A M=t at *
 -- the first loop
 have first:loop (fun (x_1:BB×Int×Unit)=>sel (lt x_1.2.1 ((A+M:Nat):Int)) (ck (inB x_1.2.1 (len b)) (ck (inB x_1.2.1 (len b)) (ck (rm 1 (nadd (ln x_1.1) (ln [u8 (idiv (n8 (nth b (nat x_1.2.1) (u8 0))) (n8 (u8 16))),u8 (imod (n8 (nth b (nat x_1.2.1) (u8 0))) (n8 (u8 16)))])))
   (some (LS.nx (app x_1.1 [u8 (idiv (n8 (nth b (nat x_1.2.1) (u8 0))) (n8 (u8 16))),u8 (imod (n8 (nth b (nat x_1.2.1) (u8 0))) (n8 (u8 16)))],i64 (iadd x_1.2.1 1),())))))) (some (LS.ex 0 (x_1.1,x_1.2.1,()))))
   (none' UInt8,(A:Int),())=some (LS.ex 0 (nbs t,((A+M:Nat):Int),()):LS (BB×Int×Unit) (BB×Int×Int×Unit)):=by
  generalize hf:(fun (x:BB×Int×Unit)=>_)=f
  have key:=z7 (f:=f) (fun i=>(nbs (t.take i),((A+i:Nat):Int),())) M (fun _=>True) ([],0,0,()) 0 ?_ ?_ ?_
  ·have e0:(nbs (t.take 0),((A+0:Nat):Int),())=(none' UInt8,(A:Int),()):=by simp [nbs,none']
   rw [e0] at key
   rcases key with ⟨_,hr⟩ | ⟨⟨i,hi,hn⟩,hr⟩
   ·rw [hr,List.take_of_length_le (by omega)]
   ·exact absurd trivial hn
  ·intro i hi _
   subst hf
   have hit:i < t.length:=by omega
   have hin:A+i < b.length:=by omega
   refine (qE (lt_t (show ((A+i:Nat):Int) < ((A+M:Nat):Int) by omega))).trans ?_
   refine (qH (q9 hin)).trans ?_
   refine (qH (q9 hin)).trans ?_
   have c:i64 (iadd ((A+i:Nat):Int) 1)=((A+(i+1):Nat):Int):=zE (b:=1) (by omega)
   simp only [qZ,c,← hget i hit]
   refine (qH (rm_t ?_)).trans ?_
   ·simp only [nadd,ln,qt8,List.length_take,List.length_cons,List.length_nil];omega
   rw [List.take_succ_eq_append_getElem hit,qJy];rfl
  ·intro i _ _ h;exact absurd trivial h
  ·intro _;subst hf
   exact qB (lt_f (show ¬ ((A+M:Nat):Int) < ((A+M:Nat):Int) by omega))
 refine (zH first).trans ?_
 have hnl:=qt8 t
 rw [htl] at hnl
 have hlt:=qK0 t
 simp only [lc]
 refine (qH rfl).trans ?_
 rw [qFW]
 generalize nbs t=l at *
 have k2:imod (N:Int) 2=((N % 2:Nat):Int):=qbR (b:=2)
 simp only [k2]
 have h9:n8 (u8 9)=((9:Nat):Int):=by decide
 have n8n:∀ c:UInt8,n8 c=((c.toNat:Nat):Int):=fun _=>rfl
 by_cases hodd:N % 2=1
 ·have hm:(N:Int) % 2=1:=by omega
  refine (qE (qfD (by omega))).trans ?_
  have h0:0 < l.length:=by omega
  refine (qH (q9 (a:=0) h0)).trans ?_
  have e0:beq (n8 (nth l (nat 0) (u8 0))) (n8 (u8 0))=decide (nth l 0 (u8 0)=0):=by
   show ((((nth l 0 (u8 0)).toNat:Nat):Int) == ((0:Nat):Int))=_
   rw [Bool.eq_iff_iff]
   simp only [beq_iff_eq,decide_eq_true_eq]
   constructor
   ·intro hh;apply UInt8.toNat_inj.1;exact Int.ofNat.inj hh
   ·intro hh;rw [hh];rfl
  have hx16:(nth l 0 (u8 0)).toNat < 16:=by rw [qL h0];exact hlt _ (List.getElem_mem _)
  have e1:nth (l.map fun x=>nib x.toNat) 0 (u8 0)=nib (nth l 0 (u8 0)).toNat:=by
   rw [qL (by simpa using h0),qL h0];simp
  have e2:(nth (l.map fun x=>nib x.toNat) 0 (u8 0)=48)↔nth l 0 (u8 0)=0:=by
   rw [e1,qHH _ hx16]
   constructor
   ·intro hh;apply UInt8.toNat_inj.1;exact hh
   ·intro hh;rw [hh];rfl
  rw [e0]
  by_cases hz:nth l 0 (u8 0)=0
  rotate_left
  ·rw [if_pos ⟨hm,fun h=>hz (e2.1 h)⟩]
   exact qE (by rw [decide_eq_false hz];rfl)
  rw [if_neg (fun hc=>hc.2 (e2.2 hz))]
  refine (qB (by rw [decide_eq_true hz];rfl)).trans ?_
  refine (qH (qmZ (by omega) (by simp only [len];omega) (by simp only [len];omega))).trans ?_
  have c4:nsub (nat (len l)) (nat 1)=l.length - 1:=by simp [nsub,nat,len]
  have c5:nat 1=1:=by decide
  simp only [c4,c5,hodd]
  generalize hf:(fun (x:BB×Int×Int×Int×BB×Unit)=>_)=f
  have key:=z7 (f:=f) (fun i=>(none' UInt8,(0:Int),(0:Int),(i:Int),half' l 1 i,())) (l.length - 1) (fun i=>(nth l (1+i) (u8 0)).toNat≤9) (none' UInt8,0,2,()) 2 ?_ ?_ ?_
  ·have e0:(none' UInt8,(0:Int),(0:Int),((0:Nat):Int),half' l 1 0,())=(none' UInt8,(0:Int),(0:Int),(0:Int),l,()):=by rw [quE];rfl
   rw [e0] at key
   rcases key with ⟨hall,hr⟩ | ⟨⟨i,hi,hn⟩,hr⟩
   ·rw [hr,if_pos ((qlP hlt).2 hall),← qzK]
    show some (cut (half' l 1 (l.length - 1)) 1 (l.length - 1),((A+M:Nat):Int),(0:Int),())=_
    have:cut (half' l 1 (l.length - 1)) 1 (l.length - 1)=(half' l 1 (l.length - 1)).drop 1:=by
     unfold cut
     rw [List.take_of_length_le (by simp [j7])]
    rw [this];simp
   ·rw [hr,if_neg (fun hc=>hn ((qlP hlt).1 hc i hi))];rfl
  ·intro i hi hp
   subst hf
   have hi1:1+i < l.length:=by omega
   have hp':=hp i (Nat.le_refl _)
   obtain ⟨s1,s2⟩:=quF hi1 hp'
   refine (qE (lt_t (show (i:Int) < ofn (l.length - 1) by simp only [ofn];omega))).trans ?_
   have hin:inB (i:Int) (ofn (l.length - 1))=true:=q9 hi
   refine (qH hin).trans ?_
   have c6:nadd 1 (nat (i:Int))=1+i:=by simp [nadd,nat]
   have c:i64 (iadd (i:Int) 1)=((i+1:Nat):Int):=zE (b:=1) (by omega)
   simp only [c6,c]
   refine (qB (by rw [h9,s2,n8n];exact lt_f (by omega))).trans ?_
   refine (qH hin).trans ?_
   refine (qH hin).trans ?_
   rw [s1]
  ·intro i hi _ hp
   subst hf
   have hi1:1+i < l.length:=by omega
   refine (qE (lt_t (show (i:Int) < ofn (l.length - 1) by simp only [ofn];omega))).trans ?_
   have hin:inB (i:Int) (ofn (l.length - 1))=true:=q9 hi
   refine (qH hin).trans ?_
   have c6:nadd 1 (nat (i:Int))=1+i:=by simp [nadd,nat]
   simp only [c6]
   exact qE (by rw [h9,qzJ hi1,n8n];exact lt_t (by omega))
  ·intro _;subst hf
   exact qB (lt_f (show ¬ ((l.length - 1:Nat):Int) < ofn (l.length - 1) by simp only [ofn];omega))
 ·have hev:N % 2=0:=by omega
  rw [if_neg (fun hc=>by omega)]
  refine (qB (wJ (by omega))).trans ?_
  simp only [hev]
  generalize hf:(fun (x:BB×Int×Int×Int×BB×Unit)=>_)=f
  have key:=z7 (f:=f) (fun i=>(none' UInt8,(0:Int),(0:Int),(i:Int),half' l 0 i,())) (l.length - 0) (fun i=>(nth l (0+i) (u8 0)).toNat≤9) (none' UInt8,0,2,()) 2 ?_ ?_ ?_
  ·have e0:(none' UInt8,(0:Int),(0:Int),((0:Nat):Int),half' l 0 0,())=(none' UInt8,(0:Int),(0:Int),(0:Int),l,()):=by rw [quE];rfl
   rw [e0] at key
   rcases key with ⟨hall,hr⟩ | ⟨⟨i,hi,hn⟩,hr⟩
   ·rw [hr,if_pos ((qlP hlt).2 hall),← qzK]
    show some (half' l 0 (l.length - 0),((A+M:Nat):Int),(0:Int),())=_
    rw [List.drop_zero];simp
   ·rw [hr,if_neg (fun hc=>hn ((qlP hlt).1 hc i hi))];rfl
  ·intro i hi hp
   subst hf
   have hi1:0+i < l.length:=by omega
   have hp':=hp i (Nat.le_refl _)
   obtain ⟨s1,s2⟩:=quF hi1 hp'
   rw [Nat.zero_add] at s1 s2 hp'
   have hin:inB (i:Int) (len (half' l 0 i))=true:=q9 (by rw [j7];omega)
   refine (qE (lt_t (show (i:Int) < len (half' l 0 i) by simp only [len,j7];omega))).trans ?_
   refine (qH hin).trans ?_
   have c:i64 (iadd (i:Int) 1)=((i+1:Nat):Int):=zE (b:=1) (by omega)
   simp only [qZ,c]
   refine (qB (by rw [h9,s2,n8n];exact lt_f (by omega))).trans ?_
   refine (qH hin).trans ?_
   refine (qH hin).trans ?_
   rw [s1]
  ·intro i hi _ hp
   subst hf
   have hi1:0+i < l.length:=by omega
   have hin:inB (i:Int) (len (half' l 0 i))=true:=q9 (by rw [j7];omega)
   refine (qE (lt_t (show (i:Int) < len (half' l 0 i) by simp only [len,j7];omega))).trans ?_
   refine (qH hin).trans ?_
   simp only [qZ]
   have hg:=qzJ hi1
   rw [Nat.zero_add] at hg hp
   exact qE (by rw [h9,hg,n8n];exact lt_t (by omega))
  ·intro _;subst hf
   exact qB (lt_f (show ¬ ((l.length - 0:Nat):Int) < len (half' l 0 (l.length - 0)) by simp only [len,j7];omega))
end Yp
namespace Yp
open Go
def vl (B:Nat) (wt:UInt8→Nat) (l:BB):Nat:=l.foldl (fun n c=>B*n+wt c) 0
theorem qEE (B:Nat) (wt:UInt8→Nat) (l:BB) (c:UInt8):vl B wt (l++[c])=B*vl B wt l+wt c:=by
 unfold vl;rw [List.foldl_append];rfl
theorem qBh (B:Nat) (g:Nat→UInt8) (v:Nat):∀ n,ps B g v (n+1)=ps B g (v / B) n++[g (v % B)]
 | 0=>by simp [ps]
 | n+1=>by
  have e:ps B g v (n+1+1)=g (v / B ^ (n+1) % B) :: ps B g v (n+1):=rfl
  have e2:ps B g (v / B) (n+1)=g (v / B / B ^ n % B) :: ps B g (v / B) n:=rfl
  rw [e,qBh B g v n,e2,Nat.div_div_eq_div_mul,Nat.pow_succ',List.cons_append]
theorem qIU {B:Nat} {g:Nat→UInt8} {wt:UInt8→Nat} (hB:0 < B) (h:∀ d,d < B→wt (g d)=d):∀ (n v:Nat),vl B wt (ps B g v n)=v % B ^ n
 | 0,v=>by simp [ps,vl,Nat.mod_one]
 | n+1,v=>by
  rw [qBh,qEE,qIU hB h n,h _ (Nat.mod_lt _ hB),Nat.pow_succ',Nat.mod_mul]
  omega
theorem qKK {B:Nat} {g:Nat→UInt8} {wt:UInt8→Nat} {l:BB} (h:∀ c∈l,wt c < B∧g (wt c)=c):∀ i,i≤l.length→ps B g (vl B wt (l.take i)) i=l.take i
 | 0,_=>by simp [ps]
 | i+1,hi=>by
  have hc:=h _ (List.getElem_mem (show i < l.length by omega))
  rw [List.take_succ_eq_append_getElem (by omega),qEE,qBh]
  have e1:(B*vl B wt (l.take i)+wt l[i]) / B=vl B wt (l.take i):=by
   rw [Nat.mul_add_div (by omega),Nat.div_eq_of_lt hc.1];omega
  have e2:(B*vl B wt (l.take i)+wt l[i]) % B=wt l[i]:=by
   rw [Nat.mul_add_mod,Nat.mod_eq_of_lt hc.1]
  rw [e1,e2,qKK h i (by omega),hc.2]
theorem qLr (l:BB):bev l=vl 256 UInt8.toNat l:=rfl
theorem qKr (l:BB):val l=vl 10 dv l:=rfl
theorem qLs (v n:Nat):bev (ps 256 byt v n)=v % 256 ^ n:=by
 rw [qLr]
 refine qIU (by omega) (fun d hd => ?_) n v
 simp only [byt,UInt8.toNat_ofNat'];omega
theorem qEF (v n:Nat):val (ps 10 dch v n)=v % 10 ^ n:=by
 rw [qKr]
 refine qIU (by omega) (fun d hd => ?_) n v
 simp only [dv,dch,UInt8.toNat_ofNat'];omega
theorem qIs {l:BB} (hf:figs l):ps 10 dch (val l) l.length=l:=by
 have:=qKK (B:=10) (g:=dch) (wt:=dv) (l:=l) (fun c hc=>by
  obtain ⟨i,hi,rfl⟩:=List.getElem_of_mem hc
  have:=qbH (hf i hi)
  exact ⟨this.2,this.1.symm⟩) l.length (Nat.le_refl _)
 rw [List.take_length] at this;exact this
theorem qDI {l:BB} (hf:figs l):val l < 10 ^ l.length:=by
 have:=qCs (s:=l) l.length (Nat.le_refl _) (fun j _ h=>hf j h)
 rw [List.take_length] at this;exact this
theorem qlL {b:BB}:∀ {i:Nat} (h:i < b.length),nth (jC b) (2*i) (u8 0)=nib (b[i].toNat / 16)∧nth (jC b) (2*i+1) (u8 0)=nib (b[i].toNat % 16):=by
 induction b with
 | nil=>intro i h;simp at h
 | cons x r ih =>
  intro i h
  have e:jC (x :: r)=nib (x.toNat / 16) :: nib (x.toNat % 16) :: jC r:=rfl
  cases i with
  | zero=>rw [e];exact ⟨rfl,rfl⟩
  | succ i =>
   have:=ih (i:=i) (by simpa using h)
   rw [e]
   exact this
theorem qFz {a b:BB} {k:Nat} (ha:a.length=2*k) (hb:b.length=2*k) (h:∀ i,i < k→nth a (2*i) (u8 0)=nth b (2*i) (u8 0)∧nth a (2*i+1) (u8 0)=nth b (2*i+1) (u8 0)):a=b:=by
 apply List.ext_getElem
 ·omega
 ·intro j h1 h2
  have:=h (j / 2) (by omega)
  by_cases hp:j % 2=0
  ·have:=this.1
   rw [show 2*(j / 2)=j by omega,qL h1,qL h2] at this;exact this
  ·have:=this.2
   rw [show 2*(j / 2)+1=j by omega,qL h1,qL h2] at this;exact this
theorem qIw:∀ d:Nat,d < 16→vB (nib d)→dv (nib d)=d:=by decide +kernel
theorem qIH:∀ d:Nat,d < 10→nib d=UInt8.ofNat (48+d):=by decide +kernel
theorem qpA:∀ d:Nat,d < 16→qjZ (nib d)∧hval (nib d)=d:=by decide +kernel
theorem qGk {p:BB} (hf:figs p) (he:p.length % 2=0):jC (bcd p)=p:=by
 have hl:(bcd p).length=p.length / 2:=by simp [bcd]
 refine qFz (k:=p.length / 2) (by rw [zM,hl]) (by omega) fun i hi => ?_
 have hi':i < (bcd p).length:=by omega
 have h0:2*i < p.length:=by omega
 have h1:2*i+1 < p.length:=by omega
 obtain ⟨e1,e2⟩:=qlL hi'
 obtain ⟨a1,a2⟩:=qbH (hf _ h0)
 obtain ⟨b1,b2⟩:=qbH (hf _ h1)
 have hg:(bcd p)[i]=UInt8.ofNat (16*dv p[2*i]+dv p[2*i+1]):=by simp [bcd,dat,qL h0,qL h1]
 have hn:(bcd p)[i].toNat=16*dv p[2*i]+dv p[2*i+1]:=by rw [hg,UInt8.toNat_ofNat'];omega
 rw [e1,e2,hn,qL h0,qL h1]
 rw [show (16*dv p[2*i]+dv p[2*i+1]) / 16=dv p[2*i] by omega,show (16*dv p[2*i]+dv p[2*i+1]) % 16=dv p[2*i+1] by omega]
 rw [qIH _ a2,qIH _ b2]
 exact ⟨a1.symm,b1.symm⟩
theorem qGU {u:BB} (hf:figs (jC u)):bcd (jC u)=u:=by
 have hl:=zM u
 apply List.ext_getElem
 ·simp [bcd];omega
 ·intro i h1 h2
  obtain ⟨e1,e2⟩:=qlL h2
  have f0:=hf (2*i) (by omega)
  have f1:=hf (2*i+1) (by omega)
  rw [← qL (d:=u8 0)] at f0 f1
  rw [e1] at f0;rw [e2] at f1
  have hu:=qvO u[i]
  simp only [bcd,List.getElem_map,List.getElem_range,dat,e1,e2]
  rw [qIw _ (by omega) f0,qIw _ (by omega) f1]
  apply UInt8.toNat_inj.1
  rw [UInt8.toNat_ofNat'];omega
theorem qD6 (b:BB):hexy (jC b):=by
 have hl:=zM b
 refine (qq3 (k:=b.length) (by omega)).1 fun i hi => ?_
 obtain ⟨e1,e2⟩:=qlL hi
 have hu:=qvO b[i]
 rw [e1,e2]
 exact ⟨(qpA _ (by omega)).1,(qpA _ (by omega)).1⟩
theorem qEH (b:BB):unh (jC b)=b:=by
 have hl:=zM b
 apply List.ext_getElem
 ·simp [unh];omega
 ·intro i h1 h2
  obtain ⟨e1,e2⟩:=qlL h2
  have hu:=qvO b[i]
  simp only [unh,List.getElem_map,List.getElem_range,e1,e2]
  rw [(qpA _ (by omega)).2,(qpA _ (by omega)).2]
  apply UInt8.toNat_inj.1
  rw [UInt8.toNat_ofNat'];omega
end Yp