/- A part of the proof of the statements of this seat: plain functions, and laws on them. No condition of its own. -/
import Derived.Test.YtbpaehkcjccplaaGreatDoorE2
import Derived.Lib.LaidTab
import Derived.MakeChecks
import Derived.KernelRfl
import Derived.Test.YtbpaehkcjccplaaGreatDoorProg
import Derived.RangeFuncBox
import Derived.RangeFuncLeaves
import Derived.Shelf.Abstract
import Derived.WalkKit
import Derived.OwnWalkIn
import Derived.TacticsInMore
import Derived.LoopNIn
import Derived.LoopIn
import Derived.Maps.AppendAt
set_option linter.unusedVariables false
set_option linter.unusedSimpArgs false
namespace Yp
abbrev BB:=List UInt8
abbrev ta_:=Bool×Int×Unit
abbrev tb_:=BB×Int×Unit
abbrev tc_:=(Bool×Int×Int×Int×Int×BB×BB×Int×Unit)×Unit
abbrev td_:=Bool×Unit
abbrev te_:=Int×Int×Unit
abbrev tf_:=BB×Unit
abbrev tg_:=Int×BB×Unit
abbrev th_:=Int×List UInt32×Unit
abbrev ti_:=(Int×List (Int×BB×Unit)×Unit)×Unit
abbrev tj_:=(Int×List (Int×BB×Unit)×Unit)×Int×Unit
abbrev tk_:=(List UInt32×Int×BB×Unit)×Unit
abbrev tl_:=Int×Unit
abbrev tm_:=UInt32×UInt32×UInt32×UInt32×UInt32×UInt32×UInt32×UInt32×Int×Unit
abbrev tn_:=List (Int×BB×Unit)×Unit
abbrev to_:=List (Int×BB×Unit)×Int×Unit
abbrev tp_:=(Bool×Int×Int×Int×Int×BB×BB×Int×Unit)×Int×Unit
abbrev tq_:=List Int×Int×Unit
abbrev tr_:=(Int×List UInt64×Unit)×Int×Unit
abbrev ts_:=Int×Int×Int×(Int×List (Int×BB×Unit)×Unit)×Unit
abbrev tt_:=BB×Int×Int×Int×BB×Unit
abbrev tu_:=Int×Int×BB×Unit
abbrev tv_:=BB×Int×Int×Unit
abbrev tw_:=List BB×Int×(BB×Int×Int×Unit)×Unit
abbrev tx_:=Int×BB×Int×Unit
abbrev ty_:=Int×(List UInt32×Int×BB×Unit)×Unit
abbrev tz_:=Bool×Int×Int×Unit
abbrev tA_:=BB×(List UInt32×Int×BB×Unit)×Unit
abbrev tB_:=(Int×Int×Unit)×Bool×Unit
abbrev tC_:=Int×(Int×List UInt64×Unit)×Unit
abbrev tD_:=List UInt32×Unit
abbrev tE_:=List Int×Unit
abbrev tF_:=Int×Int×Int×Unit
abbrev tG_:=(Int×BB×Unit)×Unit
abbrev tH_:=(Int×BB×Unit)×(Int×BB×Unit)×Unit
abbrev tI_:=(List UInt32×Int×BB×Unit)×BB×Unit
abbrev tJ_:=BB×BB×Unit
abbrev tK_:=(BB×Int×Int×Unit)×List BB×Unit
abbrev tL_:=Int×Int×Nat×BB×Unit
abbrev tM_:=List Int×BB×Int×Unit
abbrev tN_:=(BB×Int×Int×Unit)×BB×Unit
abbrev tO_:=List UInt32×Int×Unit
abbrev tP_:=Int×Bool×Int×Unit
abbrev tQ_:=UInt8×Int×Unit
abbrev tR_:=BB×List UInt32×Unit
abbrev tS_:=Int×Bool×Unit
abbrev tT_:=BB×BB×Int×Unit
abbrev tU_:=UInt64×Int×Unit
abbrev tV_:=Int×UInt8×Unit
end Yp
namespace Yp
open Go
set_option maxRecDepth 100000
theorem qM1 {a b:Bool} (h1:a=true) (h2:b=true):(a && b)=true:=by rw [h1,h2];rfl
def qOa : List (String × DataW Unit) := [("yett/sha.keys", Lib.tabData .u32 ((qiU : List UInt32).map n32))]
theorem quE:(qiU:List UInt32).length=64:=by kernel_rfl
theorem qsL {P : Program} {W : World} {g t e : Nat} (hg : P.globalNamed "yett/sha.keys" = some g) (hty : (P.globals[g]?).map (·.type) = some t) (ht : P.underlying t = some (.array 64 e)) (he : P.underlying e = some (.int .u32)) (hce : P.cellsOf e = 1) (hct : P.cellsOf t = 64)
  {laid:List (String×DataW Unit)} (hl:laid=qOa) (h:laidMetH P laid W):wL P (full W):=by
 subst hl
 have h':laidMet P qOa W:=by
  rw [MakeChecks.laidMetH_plain P qOa W (by kernel_rfl)] at h
  exact h
 have hT : Lib.TabIs P W "yett/sha.keys" .u32 ((qiU : List UInt32).map n32) := Lib.tabIs_of_head (rest := []) hg hty ht he hce hct h'
 intro g' hg'
 obtain rfl:g=g':=Option.some.inj (hg.symm.trans hg')
 unfold Lib.TabIs World.var? at hT
 rw [hg] at hT
 simp only [Option.bind_some] at hT
 split at hT
 ·rename_i cs el fz hcell
  have hcs:cs=(((qiU:List UInt32).map n32).map fun z=>Value.int .u32 z).toArray:=Option.some.inj hT
  have hlen:cs.size=64:=by rw [hcs];simp [quE]
  refine RepC.j9.2 ⟨some ⟨g,0,none⟩,1,rfl,Nat.le_refl _,by decide, .inr ⟨g,0,cs,el,fz,rfl,hcell,by show 0+1*64≤cs.size;omega, ?_⟩⟩
  intro i x hi
  have:i=0∧x=(qiU:List (KD .u32)):=by
   match i,hi with
   | 0,hi=>exact ⟨rfl,(Option.some.inj hi).symm⟩
  obtain ⟨rfl,rfl⟩:=this
  have hs:seg cs (0+0*(Ty.ar 64 (.int .u32)).size) (Ty.ar 64 (.int .u32)).size=((qiU:List UInt32).map n32).map fun z=>Value.int .u32 z:=by
   unfold seg
   rw [hcs]
   show (List.drop (0+0*64) _).take 64=_
   simp only [Nat.zero_mul,Nat.add_zero,List.drop_zero]
   exact List.take_of_length_le (by simp [quE])
  rw [hs]
  refine RepC.qiA.2 ⟨quE,by simp [quE,Ty.size], ?_⟩
  intro j y hj
  have hj':(qiU:List UInt32)[j]? = some y:=hj
  refine RepC.z4.2 ?_
  show (List.drop (j*1) _).take 1=_
  rw [Nat.mul_one]
  obtain ⟨hlt,rfl⟩:=List.getElem?_eq_some_iff.1 hj'
  rw [List.drop_eq_getElem_cons (by simpa using hlt)]
  simp [KD.to]
 ·cases hT
end Yp
namespace Yp
open Go
noncomputable def vR (x:te_):Option (tb_):=ob (sel (lt x.2.1 1) (some (true,())) (sel (lt 18 x.2.1) (some (true,())) (some (lt x.1 0,())))) fun a=>sel a.1 (some (none' UInt8,1,())) (ck (band (inC 0 x.2.1 x.2.1) (rm 1 (nat x.2.1))) (lc (loop (fun (x:tu_)=>sel (le 0 x.2.1) (ck (inB (imod x.1 10) (len [48,49,50,51,52,53,54,55,56,57,97,98,99,100,101,102])) (ck (inB x.2.1 (len x.2.2.1)) (some (LS.nx (i64 (idiv x.1 10),i64 (isub x.2.1 1),upd x.2.2.1 (nat x.2.1) (nth [48,49,50,51,52,53,54,55,56,57,97,98,99,100,101,102] (nat (imod x.1 10)) (u8 0)),()))))) (some (LS.ex 0 (x.1,x.2.1,x.2.2.1,())))) (x.1,i64 (isub x.2.1 1),rep (nat x.2.1) (u8 0),())) (fun (a:tu_)=>none) (fun (i:Nat) (a:tu_)=>ck (neb i 0) (sel (lt 0 a.1) (some (none' UInt8,1,())) (some (a.2.2.1,0,())))) fun (r:tb_)=>some r))
noncomputable def x6 (x:tl_):Option (tS_):=ob (sel (le 48 x.1) (some (i64 (i32 (isub x.1 48)),le x.1 57,())) (some (i64 (i32 (isub x.1 48)),false,()))) fun a=>some (a.1,a.2.1,())
noncomputable def qe2 (x:tf_):Option (tb_):=ck (band (inC 0 (i64 (idiv (i64 (iadd (len x.1) 1)) 2)) (i64 (idiv (i64 (iadd (len x.1) 1)) 2))) (rm 1 (nat (i64 (idiv (i64 (iadd (len x.1) 1)) 2))))) (lc (loop (fun (x_1:tL_)=>sel (nlt x_1.2.2.1 (ln x.1)) (ob (x6 (ofn (decode x.1 x_1.2.2.1).1,())) fun a=>sel (bnot a.2.1) (some (LS.rt (none' UInt8,2,()))) (ck (inB (i64 (idiv x_1.2.1 2)) (len x_1.2.2.2.1)) (ck (inB (i64 (idiv x_1.2.1 2)) (len x_1.2.2.2.1)) (some (LS.nx (x_1.1,i64 (iadd x_1.2.1 1),nadd x_1.2.2.1 (decode x.1 x_1.2.2.1).2,upd x_1.2.2.2.1 (nat (i64 (idiv x_1.2.1 2))) (u8 (orI IntKind.u8 (n8 (u8 (shlI IntKind.u8 (n8 (nth x_1.2.2.2.1 (nat (i64 (idiv x_1.2.1 2))) (u8 0))) (n64 (u64 4))))) (n8 (u8 a.1)))),())))))) (some (LS.ex 0 (x_1.1,x_1.2.1,x_1.2.2.1,x_1.2.2.2.1,())))) (0,imod (len x.1) 2,0,rep (nat (i64 (idiv (i64 (iadd (len x.1) 1)) 2))) (u8 0),())) (fun (a:tL_)=>none) (fun (i:Nat) (a:tL_)=>ck (neb i 0) (some (a.2.2.2.1,0,()))) fun (r:tb_)=>some r)
noncomputable def zV (x:tJ_):Option (td_):=some (seq x.1 x.2.1,())
noncomputable def qwV (x:tf_):Option (tf_):=ck (band (inC 0 0 (i64 (imul 2 (len x.1)))) (rm 1 (nat (i64 (imul 2 (len x.1)))))) (lc (loop (fun (x_1:tb_)=>sel (lt x_1.2.1 (len x.1)) (ck (inB x_1.2.1 (len x.1)) (ck (inB (n8 (u8 (shrI IntKind.u8 (n8 (nth x.1 (nat x_1.2.1) (u8 0))) (n64 (u64 4))))) (len [48,49,50,51,52,53,54,55,56,57,97,98,99,100,101,102])) (ck (inB (n8 (u8 (andI IntKind.u8 (n8 (nth x.1 (nat x_1.2.1) (u8 0))) (n8 (u8 15))))) (len [48,49,50,51,52,53,54,55,56,57,97,98,99,100,101,102])) (ck (rm 1 (nadd (ln x_1.1) (ln [nth [48,49,50,51,52,53,54,55,56,57,97,98,99,100,101,102] (nat (n8 (u8 (shrI IntKind.u8 (n8 (nth x.1 (nat x_1.2.1) (u8 0))) (n64 (u64 4)))))) (u8 0),nth [48,49,50,51,52,53,54,55,56,57,97,98,99,100,101,102] (nat (n8 (u8 (andI IntKind.u8 (n8 (nth x.1 (nat x_1.2.1) (u8 0))) (n8 (u8 15)))))) (u8 0)]))) (some (LS.nx (app x_1.1 [nth [48,49,50,51,52,53,54,55,56,57,97,98,99,100,101,102] (nat (n8 (u8 (shrI IntKind.u8 (n8 (nth x.1 (nat x_1.2.1) (u8 0))) (n64 (u64 4)))))) (u8 0),nth [48,49,50,51,52,53,54,55,56,57,97,98,99,100,101,102] (nat (n8 (u8 (andI IntKind.u8 (n8 (nth x.1 (nat x_1.2.1) (u8 0))) (n8 (u8 15)))))) (u8 0)],i64 (iadd x_1.2.1 1),()))))))) (some (LS.ex 0 (x_1.1,x_1.2.1,())))) (rep (nat 0) (u8 0),0,())) (fun (a:tb_)=>none) (fun (i:Nat) (a:tb_)=>ck (neb i 0) (some (a.1,()))) fun (r:tf_)=>some r)
noncomputable def qaV (x:te_):Option (tb_):=ob (sel (lt x.2.1 1) (some (true,())) (sel (lt 8 x.2.1) (some (true,())) (sel (lt x.1 0) (some (true,())) (sel (lt x.2.1 8) (ck (le 0 (i64 (imul 8 x.2.1))) (some (lt 0 (shrI IntKind.i64 x.1 (i64 (imul 8 x.2.1))),()))) (some (false,())))))) fun a=>sel a.1 (some (none' UInt8,1,())) (ck (band (inC 0 x.2.1 x.2.1) (rm 1 (nat x.2.1))) (lc (loop (fun (x_1:tg_)=>sel (lt x_1.1 (len (rep (nat x.2.1) (u8 0)))) (ck (le 0 (i64 (imul 8 x_1.1))) (ck (inB (i64 (isub (i64 (isub x.2.1 1)) x_1.1)) (len x_1.2.1)) (some (LS.nx (i64 (iadd x_1.1 1),upd x_1.2.1 (nat (i64 (isub (i64 (isub x.2.1 1)) x_1.1))) (u8 (shrI IntKind.i64 x.1 (i64 (imul 8 x_1.1)))),()))))) (some (LS.ex 0 (x_1.1,x_1.2.1,())))) (0,rep (nat x.2.1) (u8 0),())) (fun (a:tg_)=>none) (fun (i:Nat) (a:tg_)=>ck (neb i 0) (some (a.2.1,0,()))) fun (r:tb_)=>some r))
noncomputable def vD (x:te_):Option (tl_):=lc (loop (fun (x_1:te_)=>sel (lt x_1.2.1 x.2.1) (some (LS.nx (i64 (imul x_1.1 x.1),i64 (iadd x_1.2.1 1),()))) (some (LS.ex 0 (x_1.1,x_1.2.1,())))) (1,0,())) (fun (a:te_)=>none) (fun (i:Nat) (a:te_)=>ck (neb i 0) (some (a.1,()))) fun (r:tl_)=>some r
noncomputable def jU (x:te_):Option (tb_):=ob (sel (lt x.2.1 1) (some (true,())) (sel (lt 18 x.2.1) (some (true,())) (sel (lt x.1 0) (some (true,())) (ob (vD (10,x.2.1,())) fun a=>some (le a.1 x.1,()))))) fun a=>sel a.1 (some (none' UInt8,1,())) (lc (loop (fun (x_1:tb_)=>sel (le 0 x_1.2.1) (ob (vD (10,x_1.2.1,())) fun a=>ck (bnot (beq a.1 0)) (ck (rm 1 (nadd (ln x_1.1) (ln [u8 (i64 (iadd 48 (imod (i64 (idiv x.1 a.1)) 10)))]))) (some (LS.nx (app x_1.1 [u8 (i64 (iadd 48 (imod (i64 (idiv x.1 a.1)) 10)))],i64 (isub x_1.2.1 1),()))))) (some (LS.ex 0 (x_1.1,x_1.2.1,())))) (none' UInt8,i64 (isub x.2.1 1),())) (fun (a:tb_)=>none) (fun (i:Nat) (a:tb_)=>ck (neb i 0) (some (a.1,0,()))) fun (r:tb_)=>some r)
noncomputable def wE (x:tf_):Option (td_):=lc (loop (fun (x_1:ta_)=>sel (lt x_1.2.1 (len x.1)) (ck (inB x_1.2.1 (len x.1)) (ob (sel (lt (n8 (nth x.1 (nat x_1.2.1) (u8 0))) (n8 (u8 48))) (some (true,())) (ck (inB x_1.2.1 (len x.1)) (some (lt (n8 (u8 57)) (n8 (nth x.1 (nat x_1.2.1) (u8 0))),())))) fun a=>sel a.1 (some (LS.rt (false,()))) (some (LS.nx (x_1.1,i64 (iadd x_1.2.1 1),()))))) (some (LS.ex 0 (x_1.1,x_1.2.1,())))) (false,0,())) (fun (a:ta_)=>none) (fun (i:Nat) (a:ta_)=>ck (neb i 0) (some (true,()))) fun (r:td_)=>some r
noncomputable def yN (x:tf_):Option (te_):=ob (sel (lt (len x.1) 1) (some (true,())) (sel (lt 18 (len x.1)) (some (true,())) (ob (wE (x.1,())) fun a=>some (bnot a.1,())))) fun a=>sel a.1 (some (0,2,())) (lc (loop (fun (x_1:te_)=>sel (lt x_1.2.1 (len x.1)) (ck (inB x_1.2.1 (len x.1)) (ob (vD (10,i64 (isub (i64 (isub (len x.1) 1)) x_1.2.1),())) fun a=>some (LS.nx (i64 (iadd x_1.1 (i64 (imul (i64 (isub (i64 (n8 (nth x.1 (nat x_1.2.1) (u8 0)))) 48)) a.1))),i64 (iadd x_1.2.1 1),())))) (some (LS.ex 0 (x_1.1,x_1.2.1,())))) (0,0,())) (fun (a:te_)=>none) (fun (i:Nat) (a:te_)=>ck (neb i 0) (some (a.1,0,()))) fun (r:te_)=>some r)
noncomputable def kY (x:tf_):Option (tb_):=ob (wE (x.1,())) fun a=>sel (bnot a.1) (some (none' UInt8,2,())) (ob (sel (beq (imod (len x.1) 2) 1) (ck (le (iadd (len [48]) (len x.1)) 140737488355328) (some (app [48] x.1,()))) (some (x.1,()))) fun a=>lc (loop (fun (x:tb_)=>sel (lt x.2.1 (len a.1)) (ck (inB x.2.1 (len a.1)) (ck (inB (i64 (iadd x.2.1 1)) (len a.1)) (ck (rm 1 (nadd (ln x.1) (ln [u8 (isub (n8 (u8 (iadd (n8 (u8 (imul (n8 (u8 16)) (n8 (u8 (isub (n8 (nth a.1 (nat x.2.1) (u8 0))) (n8 (u8 48)))))))) (n8 (nth a.1 (nat (i64 (iadd x.2.1 1))) (u8 0)))))) (n8 (u8 48)))]))) (some (LS.nx (app x.1 [u8 (isub (n8 (u8 (iadd (n8 (u8 (imul (n8 (u8 16)) (n8 (u8 (isub (n8 (nth a.1 (nat x.2.1) (u8 0))) (n8 (u8 48)))))))) (n8 (nth a.1 (nat (i64 (iadd x.2.1 1))) (u8 0)))))) (n8 (u8 48)))],i64 (iadd x.2.1 2),())))))) (some (LS.ex 0 (x.1,x.2.1,())))) (none' UInt8,0,())) (fun (a:tb_)=>none) (fun (i:Nat) (a:tb_)=>ck (neb i 0) (some (a.1,0,()))) fun (r:tb_)=>some r)
noncomputable def xL (x:tv_):Option (tv_):=ob (sel (lt x.2.2.1 0) (some (true,())) (sel (lt 999 x.2.2.1) (some (true,())) (sel (lt x.2.1 0) (some (true,())) (some (lt (len x.1) x.2.1,()))))) fun a=>sel a.1 (some (none' UInt8,0,1,())) (sel (lt (i64 (isub (len x.1) x.2.1)) (i64 (idiv (i64 (iadd x.2.2.1 1)) 2))) (some (none' UInt8,0,3,())) (lc (loop (fun (x_1:tb_)=>sel (lt x_1.2.1 (i64 (iadd x.2.1 (i64 (idiv (i64 (iadd x.2.2.1 1)) 2))))) (ck (inB x_1.2.1 (len x.1)) (ck (inB x_1.2.1 (len x.1)) (ck (rm 1 (nadd (ln x_1.1) (ln [u8 (idiv (n8 (nth x.1 (nat x_1.2.1) (u8 0))) (n8 (u8 16))),u8 (imod (n8 (nth x.1 (nat x_1.2.1) (u8 0))) (n8 (u8 16)))]))) (some (LS.nx (app x_1.1 [u8 (idiv (n8 (nth x.1 (nat x_1.2.1) (u8 0))) (n8 (u8 16))),u8 (imod (n8 (nth x.1 (nat x_1.2.1) (u8 0))) (n8 (u8 16)))],i64 (iadd x_1.2.1 1),())))))) (some (LS.ex 0 (x_1.1,x_1.2.1,())))) (none' UInt8,x.2.1,())) (fun (a:tb_)=>none) (fun (i:Nat) (a:tb_)=>ck (neb i 0) (sel (beq (imod x.2.2.1 2) 1) (ck (inB 0 (len a.1)) (sel (bnot (beq (n8 (nth a.1 (nat 0) (u8 0))) (n8 (u8 0)))) (some (none' UInt8,0,2,())) (ck (inC 1 (len a.1) (len a.1)) (lc (loop (fun (x:tt_)=>sel (lt x.2.2.2.1 (ofn (nsub (nat (len a.1)) (nat 1)))) (ck (inB x.2.2.2.1 (ofn (nsub (nat (len a.1)) (nat 1)))) (sel (lt (n8 (u8 9)) (n8 (nth x.2.2.2.2.1 (nadd (nat 1) (nat x.2.2.2.1)) (u8 0)))) (some (LS.rt (none' UInt8,0,2,()))) (ck (inB x.2.2.2.1 (ofn (nsub (nat (len a.1)) (nat 1)))) (ck (inB x.2.2.2.1 (ofn (nsub (nat (len a.1)) (nat 1)))) (some (LS.nx (x.1,x.2.1,x.2.2.1,i64 (iadd x.2.2.2.1 1),upd x.2.2.2.2.1 (nadd (nat 1) (nat x.2.2.2.1)) (u8 (iadd (n8 (nth x.2.2.2.2.1 (nadd (nat 1) (nat x.2.2.2.1)) (u8 0))) (n8 (u8 48)))),()))))))) (some (LS.ex 2 (x.1,x.2.1,x.2.2.1,x.2.2.2.1,x.2.2.2.2.1,())))) (none' UInt8,0,0,0,a.1,
 ())) (fun (a:tt_)=>none) (fun (i:Nat) (a_1:tt_)=>ck (neb i 2) (some (cut a_1.2.2.2.2.1 (nat 1) (nsub (nat (len a.1)) (nat 1)),i64 (iadd x.2.1 (i64 (idiv (i64 (iadd x.2.2.1 1)) 2))),0,()))) fun (r:tv_)=>some r)))) (lc (loop (fun (x:tt_)=>sel (lt x.2.2.2.1 (len x.2.2.2.2.1)) (ck (inB x.2.2.2.1 (len x.2.2.2.2.1)) (sel (lt (n8 (u8 9)) (n8 (nth x.2.2.2.2.1 (nat x.2.2.2.1) (u8 0)))) (some (LS.rt (none' UInt8,0,2,()))) (ck (inB x.2.2.2.1 (len x.2.2.2.2.1)) (ck (inB x.2.2.2.1 (len x.2.2.2.2.1)) (some (LS.nx (x.1,x.2.1,x.2.2.1,i64 (iadd x.2.2.2.1 1),upd x.2.2.2.2.1 (nat x.2.2.2.1) (u8 (iadd (n8 (nth x.2.2.2.2.1 (nat x.2.2.2.1) (u8 0))) (n8 (u8 48)))),()))))))) (some (LS.ex 2 (x.1,x.2.1,x.2.2.1,x.2.2.2.1,x.2.2.2.2.1,())))) (none' UInt8,0,0,0,a.1,())) (fun (a:tt_)=>none) (fun (i:Nat) (a:tt_)=>ck (neb i 2) (some (a.2.2.2.2.1,i64 (iadd x.2.1 (i64 (idiv (i64 (iadd x.2.2.1 1)) 2))),0,()))) fun (r:tv_)=>some r))) fun (r:tv_)=>some r))
noncomputable def qcA (x:tv_):Option (tF_):=ob (sel (lt x.2.2.1 1) (some (true,())) (sel (lt 8 x.2.2.1) (some (true,())) (sel (lt x.2.1 0) (some (true,())) (some (lt (len x.1) x.2.1,()))))) fun a=>sel a.1 (some (0,0,1,())) (sel (lt (i64 (isub (len x.1) x.2.1)) x.2.2.1) (some (0,0,3,())) (ob (sel (beq x.2.2.1 8) (ck (inB x.2.1 (len x.1)) (some (le (n8 (u8 128)) (n8 (nth x.1 (nat x.2.1) (u8 0))),()))) (some (false,()))) fun a=>sel a.1 (some (0,0,2,())) (lc (loop (fun (x_1:te_)=>sel (lt x_1.2.1 x.2.2.1) (ck (inB (i64 (iadd x.2.1 x_1.2.1)) (len x.1)) (some (LS.nx (i64 (iadd (i64 (imul 256 x_1.1)) (i64 (n8 (nth x.1 (nat (i64 (iadd x.2.1 x_1.2.1))) (u8 0))))),i64 (iadd x_1.2.1 1),())))) (some (LS.ex 0 (x_1.1,x_1.2.1,())))) (0,0,())) (fun (a:te_)=>none) (fun (i:Nat) (a:te_)=>ck (neb i 0) (some (a.1,i64 (iadd x.2.1 x.2.2.1),0,()))) fun (r:tF_)=>some r)))
noncomputable def wF (x:te_):Option (tb_):=ob (sel (lt x.2.1 1) (some (true,())) (sel (lt 8 x.2.1) (some (true,())) (some (lt x.1 0,())))) fun a=>sel a.1 (some (none' UInt8,1,())) (ob (sel (lt x.2.1 8) (ob (vD (256,x.2.1,())) fun a=>some (le a.1 x.1,())) (some (false,()))) fun a=>sel a.1 (some (none' UInt8,1,())) (ck (band (inC 0 x.2.1 x.2.1) (rm 1 (nat x.2.1))) (lc (loop (fun (x:tu_)=>sel (le 0 x.2.1) (ck (inB x.2.1 (len x.2.2.1)) (some (LS.nx (i64 (idiv x.1 256),i64 (isub x.2.1 1),upd x.2.2.1 (nat x.2.1) (u8 (imod x.1 256)),())))) (some (LS.ex 0 (x.1,x.2.1,x.2.2.1,())))) (x.1,i64 (isub x.2.1 1),rep (nat x.2.1) (u8 0),())) (fun (a:tu_)=>none) (fun (i:Nat) (a:tu_)=>ck (neb i 0) (some (a.2.2.1,0,()))) fun (r:tb_)=>some r)))
noncomputable def qhF (x:UInt8×Unit):Option (tl_):=ob (sel (le (n8 (u8 48)) (n8 x.1)) (some (le (n8 x.1) (n8 (u8 57)),())) (some (false,()))) fun a=>sel a.1 (some (i64 (isub (i64 (n8 x.1)) 48),())) (ob (sel (le (n8 (u8 97)) (n8 x.1)) (some (le (n8 x.1) (n8 (u8 102)),())) (some (false,()))) fun a=>sel a.1 (some (i64 (isub (i64 (n8 x.1)) 87),())) (some (16,())))
noncomputable def qdB (x:tf_):Option (tb_):=sel (beq (imod (len x.1) 2) 1) (some (none' UInt8,2,())) (lc (loop (fun (x_1:tx_)=>sel (lt x_1.2.2.1 (len x.1)) (ck (inB x_1.2.2.1 (len x.1)) (ob (qhF (nth x.1 (nat x_1.2.2.1) (u8 0),())) fun a=>ck (inB (i64 (iadd x_1.2.2.1 1)) (len x.1)) (ob (qhF (nth x.1 (nat (i64 (iadd x_1.2.2.1 1))) (u8 0),())) fun a_1=>ob (sel (lt 15 a.1) (some (true,())) (some (lt 15 a_1.1,()))) fun a_2=>sel a_2.1 (some (LS.rt (none' UInt8,2,()))) (ck (rm 1 (nadd (ln x_1.2.1) (ln [u8 (i64 (iadd (i64 (imul 16 a.1)) a_1.1))]))) (some (LS.nx (x_1.1,app x_1.2.1 [u8 (i64 (iadd (i64 (imul 16 a.1)) a_1.1))],i64 (iadd x_1.2.2.1 2),()))))))) (some (LS.ex 0 (x_1.1,x_1.2.1,x_1.2.2.1,())))) (0,none' UInt8,0,())) (fun (a:tx_)=>none) (fun (i:Nat) (a:tx_)=>ck (neb i 0) (some (a.2.1,0,()))) fun (r:tb_)=>some r)
noncomputable def qfV (x:UInt8×Unit):Option (UInt8×Unit):=sel (lt (n8 x.1) (n8 (u8 10))) (some (u8 (iadd (n8 (u8 48)) (n8 x.1)),())) (some (u8 (iadd (n8 (u8 87)) (n8 x.1)),()))
noncomputable def qjS (x:tf_):Option (tf_):=lc (loop (fun (x_1:tb_)=>sel (lt x_1.2.1 (len x.1)) (ck (inB x_1.2.1 (len x.1)) (ob (qfV (u8 (idiv (n8 (nth x.1 (nat x_1.2.1) (u8 0))) (n8 (u8 16))),())) fun a=>ck (inB x_1.2.1 (len x.1)) (ob (qfV (u8 (imod (n8 (nth x.1 (nat x_1.2.1) (u8 0))) (n8 (u8 16))),())) fun a_1=>ck (rm 1 (nadd (ln x_1.1) (ln [a.1,a_1.1]))) (some (LS.nx (app x_1.1 [a.1,a_1.1],i64 (iadd x_1.2.1 1),())))))) (some (LS.ex 0 (x_1.1,x_1.2.1,())))) (none' UInt8,0,())) (fun (a:tb_)=>none) (fun (i:Nat) (a:tb_)=>ck (neb i 0) (some (a.1,()))) fun (r:tf_)=>some r
noncomputable def wO (x:tl_):Option (tl_):=sel (beq x.1 25) (some (2,())) (sel (beq x.1 22) (sel (beq x.1 22) (some (3,())) (sel (beq x.1 13) (sel (beq x.1 13) (some (4,())) (sel (beq x.1 3) (sel (beq x.1 3) (some (6,())) (sel (beq x.1 7) (some (10,())) (sel (beq x.1 4) (some (12,())) (sel (beq x.1 53) (some (16,())) (sel (beq x.1 90) (some (42,())) (some (0,()))))))) (sel (beq x.1 11) (sel (beq x.1 11) (some (6,())) (sel (beq x.1 7) (some (10,())) (sel (beq x.1 4) (some (12,())) (sel (beq x.1 53) (some (16,())) (sel (beq x.1 90) (some (42,())) (some (0,()))))))) (sel (beq x.1 12) (sel (beq x.1 12) (some (6,())) (sel (beq x.1 7) (some (10,())) (sel (beq x.1 4) (some (12,())) (sel (beq x.1 53) (some (16,())) (sel (beq x.1 90) (some (42,())) (some (0,()))))))) (sel (beq x.1 15) (some (6,())) (sel (beq x.1 7) (some (10,())) (sel (beq x.1 4) (some (12,())) (sel (beq x.1 53) (some (16,())) (sel (beq x.1 90) (some (42,())) (some (0,()))))))))))) (sel (beq x.1 14) (sel (beq x.1 14) (some (4,())) (sel (beq x.1 3) (sel (beq x.1 3) (some (6,())) (sel (beq x.1 7) (some (10,())) (sel (beq x.1 4) (some (12,())) (sel (beq x.1 53) (some (16,())) (sel (beq x.1 90) (some (42,())) (some (0,()))))))) (sel (beq x.1 11) (sel (beq x.1 11) (some (6,())) (sel (beq x.1 7) (some (10,())) (sel (beq x.1 4) (some (12,())) (sel (beq x.1 53) (some (16,())) (sel (beq x.1 90) (some (42,())) (some (0,()))))))) (sel (beq x.1 12) (sel (beq x.1 12) (some (6,())) (sel (beq x.1 7) (some (10,())) (sel (beq x.1 4) (some (12,())) (sel (beq x.1 53) (some (16,())) (sel (beq x.1 90) (some (42,())) (some (0,()))))))) (sel (beq x.1 15) (some (6,())) (sel (beq x.1 7) (some (10,())) (sel (beq x.1 4) (some (12,())) (sel (beq x.1 53) (some (16,())) (sel (beq x.1 90) (some (42,())) (some (0,()))))))))))) (sel (beq x.1 18) (some (4,())) (sel (beq x.1 3) (sel (beq x.1 3) (some (6,())) (sel (beq x.1 7) (some (10,())) (sel (beq x.1 4)
 (some (12,())) (sel (beq x.1 53) (some (16,())) (sel (beq x.1 90) (some (42,())) (some (0,()))))))) (sel (beq x.1 11) (sel (beq x.1 11) (some (6,())) (sel (beq x.1 7) (some (10,())) (sel (beq x.1 4) (some (12,())) (sel (beq x.1 53) (some (16,())) (sel (beq x.1 90) (some (42,())) (some (0,()))))))) (sel (beq x.1 12) (sel (beq x.1 12) (some (6,())) (sel (beq x.1 7) (some (10,())) (sel (beq x.1 4) (some (12,())) (sel (beq x.1 53) (some (16,())) (sel (beq x.1 90) (some (42,())) (some (0,()))))))) (sel (beq x.1 15) (some (6,())) (sel (beq x.1 7) (some (10,())) (sel (beq x.1 4) (some (12,())) (sel (beq x.1 53) (some (16,())) (sel (beq x.1 90) (some (42,())) (some (0,())))))))))))))) (sel (beq x.1 49) (sel (beq x.1 49) (some (3,())) (sel (beq x.1 13) (sel (beq x.1 13) (some (4,())) (sel (beq x.1 3) (sel (beq x.1 3) (some (6,())) (sel (beq x.1 7) (some (10,())) (sel (beq x.1 4) (some (12,())) (sel (beq x.1 53) (some (16,())) (sel (beq x.1 90) (some (42,())) (some (0,()))))))) (sel (beq x.1 11) (sel (beq x.1 11) (some (6,())) (sel (beq x.1 7) (some (10,())) (sel (beq x.1 4) (some (12,())) (sel (beq x.1 53) (some (16,())) (sel (beq x.1 90) (some (42,())) (some (0,()))))))) (sel (beq x.1 12) (sel (beq x.1 12) (some (6,())) (sel (beq x.1 7) (some (10,())) (sel (beq x.1 4) (some (12,())) (sel (beq x.1 53) (some (16,())) (sel (beq x.1 90) (some (42,())) (some (0,()))))))) (sel (beq x.1 15) (some (6,())) (sel (beq x.1 7) (some (10,())) (sel (beq x.1 4) (some (12,())) (sel (beq x.1 53) (some (16,())) (sel (beq x.1 90) (some (42,())) (some (0,()))))))))))) (sel (beq x.1 14) (sel (beq x.1 14) (some (4,())) (sel (beq x.1 3) (sel (beq x.1 3) (some (6,())) (sel (beq x.1 7) (some (10,())) (sel (beq x.1 4) (some (12,())) (sel (beq x.1 53) (some (16,())) (sel (beq x.1 90) (some (42,())) (some (0,()))))))) (sel (beq x.1 11) (sel (beq x.1 11) (some (6,())) (sel (beq x.1 7) (some (10,())) (sel (beq x.1 4) (some (12,())) (sel (beq x.1
 53) (some (16,())) (sel (beq x.1 90) (some (42,())) (some (0,()))))))) (sel (beq x.1 12) (sel (beq x.1 12) (some (6,())) (sel (beq x.1 7) (some (10,())) (sel (beq x.1 4) (some (12,())) (sel (beq x.1 53) (some (16,())) (sel (beq x.1 90) (some (42,())) (some (0,()))))))) (sel (beq x.1 15) (some (6,())) (sel (beq x.1 7) (some (10,())) (sel (beq x.1 4) (some (12,())) (sel (beq x.1 53) (some (16,())) (sel (beq x.1 90) (some (42,())) (some (0,()))))))))))) (sel (beq x.1 18) (some (4,())) (sel (beq x.1 3) (sel (beq x.1 3) (some (6,())) (sel (beq x.1 7) (some (10,())) (sel (beq x.1 4) (some (12,())) (sel (beq x.1 53) (some (16,())) (sel (beq x.1 90) (some (42,())) (some (0,()))))))) (sel (beq x.1 11) (sel (beq x.1 11) (some (6,())) (sel (beq x.1 7) (some (10,())) (sel (beq x.1 4) (some (12,())) (sel (beq x.1 53) (some (16,())) (sel (beq x.1 90) (some (42,())) (some (0,()))))))) (sel (beq x.1 12) (sel (beq x.1 12) (some (6,())) (sel (beq x.1 7) (some (10,())) (sel (beq x.1 4) (some (12,())) (sel (beq x.1 53) (some (16,())) (sel (beq x.1 90) (some (42,())) (some (0,()))))))) (sel (beq x.1 15) (some (6,())) (sel (beq x.1 7) (some (10,())) (sel (beq x.1 4) (some (12,())) (sel (beq x.1 53) (some (16,())) (sel (beq x.1 90) (some (42,())) (some (0,())))))))))))))) (sel (beq x.1 70) (some (3,())) (sel (beq x.1 13) (sel (beq x.1 13) (some (4,())) (sel (beq x.1 3) (sel (beq x.1 3) (some (6,())) (sel (beq x.1 7) (some (10,())) (sel (beq x.1 4) (some (12,())) (sel (beq x.1 53) (some (16,())) (sel (beq x.1 90) (some (42,())) (some (0,()))))))) (sel (beq x.1 11) (sel (beq x.1 11) (some (6,())) (sel (beq x.1 7) (some (10,())) (sel (beq x.1 4) (some (12,())) (sel (beq x.1 53) (some (16,())) (sel (beq x.1 90) (some (42,())) (some (0,()))))))) (sel (beq x.1 12) (sel (beq x.1 12) (some (6,())) (sel (beq x.1 7) (some (10,())) (sel (beq x.1 4) (some (12,())) (sel (beq x.1 53) (some (16,())) (sel (beq x.1 90) (some (42,())) (some (0,
 ()))))))) (sel (beq x.1 15) (some (6,())) (sel (beq x.1 7) (some (10,())) (sel (beq x.1 4) (some (12,())) (sel (beq x.1 53) (some (16,())) (sel (beq x.1 90) (some (42,())) (some (0,()))))))))))) (sel (beq x.1 14) (sel (beq x.1 14) (some (4,())) (sel (beq x.1 3) (sel (beq x.1 3) (some (6,())) (sel (beq x.1 7) (some (10,())) (sel (beq x.1 4) (some (12,())) (sel (beq x.1 53) (some (16,())) (sel (beq x.1 90) (some (42,())) (some (0,()))))))) (sel (beq x.1 11) (sel (beq x.1 11) (some (6,())) (sel (beq x.1 7) (some (10,())) (sel (beq x.1 4) (some (12,())) (sel (beq x.1 53) (some (16,())) (sel (beq x.1 90) (some (42,())) (some (0,()))))))) (sel (beq x.1 12) (sel (beq x.1 12) (some (6,())) (sel (beq x.1 7) (some (10,())) (sel (beq x.1 4) (some (12,())) (sel (beq x.1 53) (some (16,())) (sel (beq x.1 90) (some (42,())) (some (0,()))))))) (sel (beq x.1 15) (some (6,())) (sel (beq x.1 7) (some (10,())) (sel (beq x.1 4) (some (12,())) (sel (beq x.1 53) (some (16,())) (sel (beq x.1 90) (some (42,())) (some (0,()))))))))))) (sel (beq x.1 18) (some (4,())) (sel (beq x.1 3) (sel (beq x.1 3) (some (6,())) (sel (beq x.1 7) (some (10,())) (sel (beq x.1 4) (some (12,())) (sel (beq x.1 53) (some (16,())) (sel (beq x.1 90) (some (42,())) (some (0,()))))))) (sel (beq x.1 11) (sel (beq x.1 11) (some (6,())) (sel (beq x.1 7) (some (10,())) (sel (beq x.1 4) (some (12,())) (sel (beq x.1 53) (some (16,())) (sel (beq x.1 90) (some (42,())) (some (0,()))))))) (sel (beq x.1 12) (sel (beq x.1 12) (some (6,())) (sel (beq x.1 7) (some (10,())) (sel (beq x.1 4) (some (12,())) (sel (beq x.1 53) (some (16,())) (sel (beq x.1 90) (some (42,())) (some (0,()))))))) (sel (beq x.1 15) (some (6,())) (sel (beq x.1 7) (some (10,())) (sel (beq x.1 4) (some (12,())) (sel (beq x.1 53) (some (16,())) (sel (beq x.1 90) (some (42,())) (some (0,()))))))))))))))))
noncomputable def qaT (x:te_):Option (tl_):=sel (beq x.1 1) (ob (wO (x.2.1,())) fun a=>some (a.1,())) (sel (beq x.1 2) (some (sel (beq x.2.1 2) 19 (sel (beq x.2.1 32) 11 (sel (beq x.2.1 100) 11 0)),())) (sel (beq x.1 3) (some (sel (beq x.2.1 37) 12 (sel (beq x.2.1 38) 6 (sel (beq x.2.1 39) 2 (sel (beq x.2.1 41) 8 (sel (beq x.2.1 42) 15 (sel (beq x.2.1 95) 42 0))))),())) (sel (beq x.1 4) (some (sel (beq x.2.1 35) 37 (sel (beq x.2.1 102) 28 0),())) (sel (beq x.1 5) (some (sel (beq x.2.1 48) 400 (sel (beq x.2.1 54) 120 0),())) (sel (beq x.1 6) (some (sel (beq x.2.1 52) 8 (sel (beq x.2.1 64) 8 (sel (beq x.2.1 96) 8 (sel (beq x.2.1 128) 8 0))),())) (sel (beq x.1 7) (some (sel (beq x.2.1 55) 255 (sel (beq x.2.1 127) 400 0),())) (some (0,()))))))))
noncomputable def qcE (x:tl_):Option (tB_):=lc (loop (fun (x_1:ta_)=>sel (le x_1.2.1 7) (ob (qaT (x_1.2.1,x.1,())) fun a=>sel (lt 0 a.1) (some (LS.rt ((x_1.2.1,a.1,()),true,()))) (some (LS.nx (x_1.1,i64 (iadd x_1.2.1 1),())))) (some (LS.ex 0 (x_1.1,x_1.2.1,())))) (false,1,())) (fun (a:ta_)=>none) (fun (i:Nat) (a:ta_)=>ck (neb i 0) (some ((0,0,()),false,()))) fun (r:tB_)=>some r
noncomputable def qV (x:tl_):Option (tl_):=sel (beq x.1 2) (sel (beq x.1 2) (some (2,())) (sel (beq x.1 5) (sel (beq x.1 5) (some (3,())) (some (0,()))) (sel (beq x.1 7) (some (3,())) (some (0,()))))) (sel (beq x.1 4) (some (2,())) (sel (beq x.1 5) (sel (beq x.1 5) (some (3,())) (some (0,()))) (sel (beq x.1 7) (some (3,())) (some (0,())))))
noncomputable def kP (x:tg_):Option (td_):=ob (qcE (x.1,())) fun a=>ob (sel (bnot a.2.1) (some (true,())) (some (lt a.1.2.1 (len x.2.1),()))) fun a_1=>sel a_1.1 (some (false,())) (sel (beq a.1.1 1) (sel (beq a.1.1 1) (lc (loop (fun (x_1:ta_)=>sel (lt x_1.2.1 (len x.2.1)) (ck (inB x_1.2.1 (len x.2.1)) (ob (sel (lt (n8 (nth x.2.1 (nat x_1.2.1) (u8 0))) (n8 (u8 48))) (some (true,())) (some (lt (n8 (u8 57)) (n8 (nth x.2.1 (nat x_1.2.1) (u8 0))),()))) fun a=>sel a.1 (some (LS.ex 999999999 (false,x_1.2.1,()))) (some (LS.nx (x_1.1,i64 (iadd x_1.2.1 1),()))))) (some (LS.ex 0 (x_1.1,x_1.2.1,())))) (false,0,())) (fun (a:ta_)=>none) (fun (i:Nat) (a_2:ta_)=>sel (neb i 999999999) (sel (bnot a_2.1) (some (false,())) (lc (loop (fun (x_1:ta_)=>sel (lt x_1.2.1 (len x.2.1)) (ck (inB x_1.2.1 (len x.2.1)) (ob (sel (lt (n8 (nth x.2.1 (nat x_1.2.1) (u8 0))) (n8 (u8 32))) (some (true,())) (some (lt (n8 (u8 126)) (n8 (nth x.2.1 (nat x_1.2.1) (u8 0))),()))) fun a=>sel a.1 (some (LS.ex 999999999 (false,x_1.2.1,()))) (some (LS.nx (x_1.1,i64 (iadd x_1.2.1 1),()))))) (some (LS.ex 0 (x_1.1,x_1.2.1,())))) (false,0,())) (fun (a:ta_)=>none) (fun (i:Nat) (a_3:ta_)=>sel (neb i 999999999) (sel (bnot a_3.1) (some (false,())) (ob (qV (a.1.1,())) fun a_4=>sel (lt 0 a_4.1) (some (lt 0 (len x.2.1),())) (some (beq (len x.2.1) a.1.2.1,())))) (ck (neb i 0) (ob (qV (a.1.1,())) fun a_4=>sel (lt 0 a_4.1) (some (lt 0 (len x.2.1),())) (some (beq (len x.2.1) a.1.2.1,()))))) fun (r:Unit)=>none)) (ck (neb i 0) (lc (loop (fun (x_1:ta_)=>sel (lt x_1.2.1 (len x.2.1)) (ck (inB x_1.2.1 (len x.2.1)) (ob (sel (lt (n8 (nth x.2.1 (nat x_1.2.1) (u8 0))) (n8 (u8 32))) (some (true,())) (some (lt (n8 (u8 126)) (n8 (nth x.2.1 (nat x_1.2.1) (u8 0))),()))) fun a=>sel a.1 (some (LS.ex
 999999999 (false,x_1.2.1,()))) (some (LS.nx (x_1.1,i64 (iadd x_1.2.1 1),()))))) (some (LS.ex 0 (x_1.1,x_1.2.1,())))) (false,0,())) (fun (a:ta_)=>none) (fun (i:Nat) (a_3:ta_)=>sel (neb i 999999999) (sel (bnot a_3.1) (some (false,())) (ob (qV (a.1.1,())) fun a_4=>sel (lt 0 a_4.1) (some (lt 0 (len x.2.1),())) (some (beq (len x.2.1) a.1.2.1,())))) (ck (neb i 0) (ob (qV (a.1.1,())) fun a_4=>sel (lt 0 a_4.1) (some (lt 0 (len x.2.1),())) (some (beq (len x.2.1) a.1.2.1,()))))) fun (r:Unit)=>none))) fun (r:Unit)=>none) (sel (beq a.1.1 3) (sel (beq a.1.1 3) (lc (loop (fun (x_1:ta_)=>sel (lt x_1.2.1 (len x.2.1)) (ck (inB x_1.2.1 (len x.2.1)) (ob (sel (lt (n8 (nth x.2.1 (nat x_1.2.1) (u8 0))) (n8 (u8 32))) (some (true,())) (some (lt (n8 (u8 126)) (n8 (nth x.2.1 (nat x_1.2.1) (u8 0))),()))) fun a=>sel a.1 (some (LS.ex 999999999 (false,x_1.2.1,()))) (some (LS.nx (x_1.1,i64 (iadd x_1.2.1 1),()))))) (some (LS.ex 0 (x_1.1,x_1.2.1,())))) (false,0,())) (fun (a:ta_)=>none) (fun (i:Nat) (a_2:ta_)=>sel (neb i 999999999) (sel (bnot a_2.1) (some (false,())) (ob (qV (a.1.1,())) fun a_3=>sel (lt 0 a_3.1) (some (lt 0 (len x.2.1),())) (some (beq (len x.2.1) a.1.2.1,())))) (ck (neb i 0) (ob (qV (a.1.1,())) fun a_3=>sel (lt 0 a_3.1) (some (lt 0 (len x.2.1),())) (some (beq (len x.2.1) a.1.2.1,()))))) fun (r:Unit)=>none) (ob (qV (a.1.1,())) fun a_2=>sel (lt 0 a_2.1) (some (lt 0 (len x.2.1),())) (some (beq (len x.2.1) a.1.2.1,())))) (sel (beq a.1.1 4) (sel (beq a.1.1 4) (lc (loop (fun (x_1:ta_)=>sel (lt x_1.2.1 (len x.2.1)) (ck (inB x_1.2.1 (len x.2.1)) (ob (sel (lt (n8 (nth x.2.1 (nat x_1.2.1) (u8 0))) (n8 (u8 32))) (some (true,())) (some (lt (n8 (u8 126)) (n8 (nth x.2.1 (nat x_1.2.1) (u8 0))),()))) fun a=>sel a.1 (some (LS.ex 999999999 (false,x_1.2.1,()))) (some (LS.nx (x_1.1,i64
 (iadd x_1.2.1 1),()))))) (some (LS.ex 0 (x_1.1,x_1.2.1,())))) (false,0,())) (fun (a:ta_)=>none) (fun (i:Nat) (a_2:ta_)=>sel (neb i 999999999) (sel (bnot a_2.1) (some (false,())) (ob (qV (a.1.1,())) fun a_3=>sel (lt 0 a_3.1) (some (lt 0 (len x.2.1),())) (some (beq (len x.2.1) a.1.2.1,())))) (ck (neb i 0) (ob (qV (a.1.1,())) fun a_3=>sel (lt 0 a_3.1) (some (lt 0 (len x.2.1),())) (some (beq (len x.2.1) a.1.2.1,()))))) fun (r:Unit)=>none) (ob (qV (a.1.1,())) fun a_2=>sel (lt 0 a_2.1) (some (lt 0 (len x.2.1),())) (some (beq (len x.2.1) a.1.2.1,())))) (sel (beq a.1.1 5) (lc (loop (fun (x_1:ta_)=>sel (lt x_1.2.1 (len x.2.1)) (ck (inB x_1.2.1 (len x.2.1)) (ob (sel (lt (n8 (nth x.2.1 (nat x_1.2.1) (u8 0))) (n8 (u8 32))) (some (true,())) (some (lt (n8 (u8 126)) (n8 (nth x.2.1 (nat x_1.2.1) (u8 0))),()))) fun a=>sel a.1 (some (LS.ex 999999999 (false,x_1.2.1,()))) (some (LS.nx (x_1.1,i64 (iadd x_1.2.1 1),()))))) (some (LS.ex 0 (x_1.1,x_1.2.1,())))) (false,0,())) (fun (a:ta_)=>none) (fun (i:Nat) (a_2:ta_)=>sel (neb i 999999999) (sel (bnot a_2.1) (some (false,())) (ob (qV (a.1.1,())) fun a_3=>sel (lt 0 a_3.1) (some (lt 0 (len x.2.1),())) (some (beq (len x.2.1) a.1.2.1,())))) (ck (neb i 0) (ob (qV (a.1.1,())) fun a_3=>sel (lt 0 a_3.1) (some (lt 0 (len x.2.1),())) (some (beq (len x.2.1) a.1.2.1,()))))) fun (r:Unit)=>none) (ob (qV (a.1.1,())) fun a_2=>sel (lt 0 a_2.1) (some (lt 0 (len x.2.1),())) (some (beq (len x.2.1) a.1.2.1,()))))))) (sel (beq a.1.1 2) (lc (loop (fun (x_1:ta_)=>sel (lt x_1.2.1 (len x.2.1)) (ck (inB x_1.2.1 (len x.2.1)) (ob (sel (lt (n8 (nth x.2.1 (nat x_1.2.1) (u8 0))) (n8 (u8 48))) (some (true,())) (some (lt (n8 (u8 57)) (n8 (nth x.2.1 (nat x_1.2.1) (u8 0))),()))) fun a=>sel a.1 (some (LS.ex 999999999 (false,x_1.2.1,()))) (some (LS.nx (x_1.1,
 i64 (iadd x_1.2.1 1),()))))) (some (LS.ex 0 (x_1.1,x_1.2.1,())))) (false,0,())) (fun (a:ta_)=>none) (fun (i:Nat) (a_2:ta_)=>sel (neb i 999999999) (sel (bnot a_2.1) (some (false,())) (lc (loop (fun (x_1:ta_)=>sel (lt x_1.2.1 (len x.2.1)) (ck (inB x_1.2.1 (len x.2.1)) (ob (sel (lt (n8 (nth x.2.1 (nat x_1.2.1) (u8 0))) (n8 (u8 32))) (some (true,())) (some (lt (n8 (u8 126)) (n8 (nth x.2.1 (nat x_1.2.1) (u8 0))),()))) fun a=>sel a.1 (some (LS.ex 999999999 (false,x_1.2.1,()))) (some (LS.nx (x_1.1,i64 (iadd x_1.2.1 1),()))))) (some (LS.ex 0 (x_1.1,x_1.2.1,())))) (false,0,())) (fun (a:ta_)=>none) (fun (i:Nat) (a_3:ta_)=>sel (neb i 999999999) (sel (bnot a_3.1) (some (false,())) (ob (qV (a.1.1,())) fun a_4=>sel (lt 0 a_4.1) (some (lt 0 (len x.2.1),())) (some (beq (len x.2.1) a.1.2.1,())))) (ck (neb i 0) (ob (qV (a.1.1,())) fun a_4=>sel (lt 0 a_4.1) (some (lt 0 (len x.2.1),())) (some (beq (len x.2.1) a.1.2.1,()))))) fun (r:Unit)=>none)) (ck (neb i 0) (lc (loop (fun (x_1:ta_)=>sel (lt x_1.2.1 (len x.2.1)) (ck (inB x_1.2.1 (len x.2.1)) (ob (sel (lt (n8 (nth x.2.1 (nat x_1.2.1) (u8 0))) (n8 (u8 32))) (some (true,())) (some (lt (n8 (u8 126)) (n8 (nth x.2.1 (nat x_1.2.1) (u8 0))),()))) fun a=>sel a.1 (some (LS.ex 999999999 (false,x_1.2.1,()))) (some (LS.nx (x_1.1,i64 (iadd x_1.2.1 1),()))))) (some (LS.ex 0 (x_1.1,x_1.2.1,())))) (false,0,())) (fun (a:ta_)=>none) (fun (i:Nat) (a_3:ta_)=>sel (neb i 999999999) (sel (bnot a_3.1) (some (false,())) (ob (qV (a.1.1,())) fun a_4=>sel (lt 0 a_4.1) (some (lt 0 (len x.2.1),())) (some (beq (len x.2.1) a.1.2.1,())))) (ck (neb i 0) (ob (qV (a.1.1,())) fun a_4=>sel (lt 0 a_4.1) (some (lt 0 (len x.2.1),())) (some (beq (len x.2.1) a.1.2.1,()))))) fun (r:Unit)=>none))) fun (r:Unit)=>none) (sel (beq a.1.1 3)
 (sel (beq a.1.1 3) (lc (loop (fun (x_1:ta_)=>sel (lt x_1.2.1 (len x.2.1)) (ck (inB x_1.2.1 (len x.2.1)) (ob (sel (lt (n8 (nth x.2.1 (nat x_1.2.1) (u8 0))) (n8 (u8 32))) (some (true,())) (some (lt (n8 (u8 126)) (n8 (nth x.2.1 (nat x_1.2.1) (u8 0))),()))) fun a=>sel a.1 (some (LS.ex 999999999 (false,x_1.2.1,()))) (some (LS.nx (x_1.1,i64 (iadd x_1.2.1 1),()))))) (some (LS.ex 0 (x_1.1,x_1.2.1,())))) (false,0,())) (fun (a:ta_)=>none) (fun (i:Nat) (a_2:ta_)=>sel (neb i 999999999) (sel (bnot a_2.1) (some (false,())) (ob (qV (a.1.1,())) fun a_3=>sel (lt 0 a_3.1) (some (lt 0 (len x.2.1),())) (some (beq (len x.2.1) a.1.2.1,())))) (ck (neb i 0) (ob (qV (a.1.1,())) fun a_3=>sel (lt 0 a_3.1) (some (lt 0 (len x.2.1),())) (some (beq (len x.2.1) a.1.2.1,()))))) fun (r:Unit)=>none) (ob (qV (a.1.1,())) fun a_2=>sel (lt 0 a_2.1) (some (lt 0 (len x.2.1),())) (some (beq (len x.2.1) a.1.2.1,())))) (sel (beq a.1.1 4) (sel (beq a.1.1 4) (lc (loop (fun (x_1:ta_)=>sel (lt x_1.2.1 (len x.2.1)) (ck (inB x_1.2.1 (len x.2.1)) (ob (sel (lt (n8 (nth x.2.1 (nat x_1.2.1) (u8 0))) (n8 (u8 32))) (some (true,())) (some (lt (n8 (u8 126)) (n8 (nth x.2.1 (nat x_1.2.1) (u8 0))),()))) fun a=>sel a.1 (some (LS.ex 999999999 (false,x_1.2.1,()))) (some (LS.nx (x_1.1,i64 (iadd x_1.2.1 1),()))))) (some (LS.ex 0 (x_1.1,x_1.2.1,())))) (false,0,())) (fun (a:ta_)=>none) (fun (i:Nat) (a_2:ta_)=>sel (neb i 999999999) (sel (bnot a_2.1) (some (false,())) (ob (qV (a.1.1,())) fun a_3=>sel (lt 0 a_3.1) (some (lt 0 (len x.2.1),())) (some (beq (len x.2.1) a.1.2.1,())))) (ck (neb i 0) (ob (qV (a.1.1,())) fun a_3=>sel (lt 0 a_3.1) (some (lt 0 (len x.2.1),())) (some (beq (len x.2.1) a.1.2.1,()))))) fun (r:Unit)=>none) (ob (qV (a.1.1,())) fun a_2=>sel (lt 0 a_2.1) (some (lt 0 (len x.2.1),())) (some (beq (len
 x.2.1) a.1.2.1,())))) (sel (beq a.1.1 5) (lc (loop (fun (x_1:ta_)=>sel (lt x_1.2.1 (len x.2.1)) (ck (inB x_1.2.1 (len x.2.1)) (ob (sel (lt (n8 (nth x.2.1 (nat x_1.2.1) (u8 0))) (n8 (u8 32))) (some (true,())) (some (lt (n8 (u8 126)) (n8 (nth x.2.1 (nat x_1.2.1) (u8 0))),()))) fun a=>sel a.1 (some (LS.ex 999999999 (false,x_1.2.1,()))) (some (LS.nx (x_1.1,i64 (iadd x_1.2.1 1),()))))) (some (LS.ex 0 (x_1.1,x_1.2.1,())))) (false,0,())) (fun (a:ta_)=>none) (fun (i:Nat) (a_2:ta_)=>sel (neb i 999999999) (sel (bnot a_2.1) (some (false,())) (ob (qV (a.1.1,())) fun a_3=>sel (lt 0 a_3.1) (some (lt 0 (len x.2.1),())) (some (beq (len x.2.1) a.1.2.1,())))) (ck (neb i 0) (ob (qV (a.1.1,())) fun a_3=>sel (lt 0 a_3.1) (some (lt 0 (len x.2.1),())) (some (beq (len x.2.1) a.1.2.1,()))))) fun (r:Unit)=>none) (ob (qV (a.1.1,())) fun a_2=>sel (lt 0 a_2.1) (some (lt 0 (len x.2.1),())) (some (beq (len x.2.1) a.1.2.1,()))))))))
noncomputable def qdO (x:tg_):Option (tb_):=ob (qcE (x.1,())) fun a=>sel (bnot a.2.1) (some (none' UInt8,12,())) (ob (kP (x.1,x.2.1,())) fun a_1=>sel (bnot a_1.1) (some (none' UInt8,1,())) (ob (qV (a.1.1,())) fun a_2=>sel (lt 0 a_2.1) (ob (vR (len x.2.1,a_2.1,())) fun a_3=>ob (qe2 (a_3.1,())) fun a_4=>ob (sel (beq a.1.1 1) (some (true,())) (some (beq a.1.1 2,()))) fun a=>sel a.1 (ob (qe2 (x.2.1,())) fun a=>ck (rm 1 (nadd (ln a_4.1) (ln a.1))) (some (app a_4.1 a.1,0,()))) (ck (rm 1 (nadd (ln a_4.1) (ln x.2.1))) (some (app a_4.1 x.2.1,0,())))) (ob (sel (beq a.1.1 1) (some (true,())) (some (beq a.1.1 2,()))) fun a=>sel a.1 (ob (qe2 (x.2.1,())) fun a=>ck (rm 1 (ln a.1)) (some (a.1,0,()))) (ck (rm 1 (ln x.2.1)) (some (x.2.1,0,()))))))
noncomputable def qo2 (x:tq_):Option (td_):=lc (loop (fun (x_1:ta_)=>sel (lt x_1.2.1 (len x.1)) (ck (inB x_1.2.1 (len x.1)) (sel (beq (nth x.1 (nat x_1.2.1) 0) x.2.1) (some (LS.rt (true,()))) (some (LS.nx (x_1.1,i64 (iadd x_1.2.1 1),()))))) (some (LS.ex 0 (x_1.1,x_1.2.1,())))) (false,0,())) (fun (a:ta_)=>none) (fun (i:Nat) (a:ta_)=>ck (neb i 0) (some (false,()))) fun (r:td_)=>some r
noncomputable def qd1 (x:tl_):Option (tB_):=lc (loop (fun (x_1:ta_)=>sel (lt x_1.2.1 (len [[1,2,25],[1,3,22,49,70],[1,4,13,14,18],[1,6,3,11,12,15],[1,10,7],[1,12,4],[1,16,53],[1,42,90],[2,19,2],[2,11,32,100],[3,12,37],[3,6,38],[3,2,39],[3,8,41],[3,15,42],[3,42,95],[4,37,35],[4,28,102],[5,400,48],[5,120,54],[6,8,52,64,96,128],[7,255,55],[7,400,127]])) (ck (inB x_1.2.1 (len [[1,2,25],[1,3,22,49,70],[1,4,13,14,18],[1,6,3,11,12,15],[1,10,7],[1,12,4],[1,16,53],[1,42,90],[2,19,2],[2,11,32,100],[3,12,37],[3,6,38],[3,2,39],[3,8,41],[3,15,42],[3,42,95],[4,37,35],[4,28,102],[5,400,48],[5,120,54],[6,8,52,64,96,128],[7,255,55],[7,400,127]])) (ck (inC 2 (len (nth [[1,2,25],[1,3,22,49,70],[1,4,13,14,18],[1,6,3,11,12,15],[1,10,7],[1,12,4],[1,16,53],[1,42,90],[2,19,2],[2,11,32,100],[3,12,37],[3,6,38],[3,2,39],[3,8,41],[3,15,42],[3,42,95],[4,37,35],[4,28,102],[5,400,48],[5,120,54],[6,8,52,64,96,128],[7,255,55],[7,400,127]] (nat x_1.2.1) (none' Int))) (len (nth [[1,2,25],[1,3,22,49,70],[1,4,13,14,18],[1,6,3,11,12,15],[1,10,7],[1,12,4],[1,16,53],[1,42,90],[2,19,2],[2,11,32,100],[3,12,37],[3,6,38],[3,2,39],[3,8,41],[3,15,42],[3,42,95],[4,37,35],[4,28,102],[5,400,48],[5,120,54],[6,8,52,64,96,128],[7,255,55],[7,400,127]] (nat x_1.2.1) (none' Int)))) (ob (qo2 (sub (nth [[1,2,25],[1,3,22,49,70],[1,4,13,14,18],[1,6,3,11,12,15],[1,10,7],[1,12,4],[1,16,53],[1,42,90],[2,19,2],[2,11,32,100],[3,12,37],[3,6,38],[3,2,39],[3,8,41],[3,15,42],[3,42,95],[4,37,35],[4,28,102],[5,400,48],[5,120,54],[6,8,52,64,96,128],[7,255,55],[7,400,127]] (nat
 x_1.2.1) (none' Int)) 2 (len (nth [[1,2,25],[1,3,22,49,70],[1,4,13,14,18],[1,6,3,11,12,15],[1,10,7],[1,12,4],[1,16,53],[1,42,90],[2,19,2],[2,11,32,100],[3,12,37],[3,6,38],[3,2,39],[3,8,41],[3,15,42],[3,42,95],[4,37,35],[4,28,102],[5,400,48],[5,120,54],[6,8,52,64,96,128],[7,255,55],[7,400,127]] (nat x_1.2.1) (none' Int))),x.1,())) fun a=>sel a.1 (ck (inB x_1.2.1 (len [[1,2,25],[1,3,22,49,70],[1,4,13,14,18],[1,6,3,11,12,15],[1,10,7],[1,12,4],[1,16,53],[1,42,90],[2,19,2],[2,11,32,100],[3,12,37],[3,6,38],[3,2,39],[3,8,41],[3,15,42],[3,42,95],[4,37,35],[4,28,102],[5,400,48],[5,120,54],[6,8,52,64,96,128],[7,255,55],[7,400,127]])) (ck (inB 0 (len (nth [[1,2,25],[1,3,22,49,70],[1,4,13,14,18],[1,6,3,11,12,15],[1,10,7],[1,12,4],[1,16,53],[1,42,90],[2,19,2],[2,11,32,100],[3,12,37],[3,6,38],[3,2,39],[3,8,41],[3,15,42],[3,42,95],[4,37,35],[4,28,102],[5,400,48],[5,120,54],[6,8,52,64,96,128],[7,255,55],[7,400,127]] (nat x_1.2.1) (none' Int)))) (ck (inB x_1.2.1 (len [[1,2,25],[1,3,22,49,70],[1,4,13,14,18],[1,6,3,11,12,15],[1,10,7],[1,12,4],[1,16,53],[1,42,90],[2,19,2],[2,11,32,100],[3,12,37],[3,6,38],[3,2,39],[3,8,41],[3,15,42],[3,42,95],[4,37,35],[4,28,102],[5,400,48],[5,120,54],[6,8,52,64,96,128],[7,255,55],[7,400,127]])) (ck (inB 1 (len (nth [[1,2,25],[1,3,22,49,70],[1,4,13,14,18],[1,6,3,11,12,15],[1,10,7],[1,12,4],[1,16,53],[1,42,90],[2,19,2],[2,11,32,100],[3,12,37],[3,6,38],[3,2,39],[3,8,41],[3,15,42],[3,42,95],[4,37,35],[4,28,102],[5,400,48],[5,120,54],[6,8,52,64,96,128],[7,255,55],[7,400,127]] (nat x_1.2.1) (none' Int)))) (some (LS.rt ((nth (nth [[1,2,25],[1,3,22,49,70],[1,
 4,13,14,18],[1,6,3,11,12,15],[1,10,7],[1,12,4],[1,16,53],[1,42,90],[2,19,2],[2,11,32,100],[3,12,37],[3,6,38],[3,2,39],[3,8,41],[3,15,42],[3,42,95],[4,37,35],[4,28,102],[5,400,48],[5,120,54],[6,8,52,64,96,128],[7,255,55],[7,400,127]] (nat x_1.2.1) (none' Int)) (nat 0) 0,nth (nth [[1,2,25],[1,3,22,49,70],[1,4,13,14,18],[1,6,3,11,12,15],[1,10,7],[1,12,4],[1,16,53],[1,42,90],[2,19,2],[2,11,32,100],[3,12,37],[3,6,38],[3,2,39],[3,8,41],[3,15,42],[3,42,95],[4,37,35],[4,28,102],[5,400,48],[5,120,54],[6,8,52,64,96,128],[7,255,55],[7,400,127]] (nat x_1.2.1) (none' Int)) (nat 1) 0,()),true,()))))))) (some (LS.nx (x_1.1,i64 (iadd x_1.2.1 1),())))))) (some (LS.ex 0 (x_1.1,x_1.2.1,())))) (false,0,())) (fun (a:ta_)=>none) (fun (i:Nat) (a:ta_)=>ck (neb i 0) (some ((0,0,()),false,()))) fun (r:tB_)=>some r
noncomputable def x3 (x:(Int×Int×Unit)×BB×Unit):Option (td_):=lc (loop (fun (x_1:ta_)=>sel (lt x_1.2.1 (len x.2.1)) (ob (sel (le x.1.1 2) (ck (inB x_1.2.1 (len x.2.1)) (sel (lt (n8 (nth x.2.1 (nat x_1.2.1) (u8 0))) (n8 (u8 48))) (some (true,())) (ck (inB x_1.2.1 (len x.2.1)) (sel (lt (n8 (u8 57)) (n8 (nth x.2.1 (nat x_1.2.1) (u8 0)))) (some (true,())) (sel (le 3 x.1.1) (sel (le x.1.1 5) (ck (inB x_1.2.1 (len x.2.1)) (sel (lt (n8 (nth x.2.1 (nat x_1.2.1) (u8 0))) (n8 (u8 32))) (some (true,())) (ck (inB x_1.2.1 (len x.2.1)) (some (lt (n8 (u8 126)) (n8 (nth x.2.1 (nat x_1.2.1) (u8 0))),()))))) (some (false,()))) (some (false,()))))))) (sel (le 3 x.1.1) (sel (le x.1.1 5) (ck (inB x_1.2.1 (len x.2.1)) (sel (lt (n8 (nth x.2.1 (nat x_1.2.1) (u8 0))) (n8 (u8 32))) (some (true,())) (ck (inB x_1.2.1 (len x.2.1)) (some (lt (n8 (u8 126)) (n8 (nth x.2.1 (nat x_1.2.1) (u8 0))),()))))) (some (false,()))) (some (false,())))) fun a=>sel a.1 (some (LS.rt (false,()))) (some (LS.nx (x_1.1,i64 (iadd x_1.2.1 1),())))) (some (LS.ex 0 (x_1.1,x_1.2.1,())))) (false,0,())) (fun (a:ta_)=>none) (fun (i:Nat) (a:ta_)=>ck (neb i 0) (ob (sel (beq x.1.1 1) (some (true,())) (sel (beq x.1.1 3) (some (true,())) (some (beq x.1.1 6,())))) fun a=>sel a.1 (some (beq (len x.2.1) x.1.2.1,())) (ob (sel (le 1 (len x.2.1)) (some (le (len x.2.1) x.1.2.1,())) (some (false,()))) fun a=>some (a.1,())))) fun (r:td_)=>some r
noncomputable def qaI (x:tl_):Option (tl_):=ob (sel (beq x.1 2) (some (true,())) (some (beq x.1 4,()))) fun a=>sel a.1 (some (2,())) (ob (sel (beq x.1 5) (some (true,())) (some (beq x.1 7,()))) fun a=>sel a.1 (some (3,())) (some (0,())))
noncomputable def qc9 (x:tg_):Option (tb_):=ob (qd1 (x.1,())) fun a=>sel (bnot a.2.1) (some (none' UInt8,12,())) (ob (x3 (a.1,x.2.1,())) fun a_1=>sel (bnot a_1.1) (some (none' UInt8,1,())) (ob (qaI (a.1.1,())) fun a_2=>sel (lt 0 a_2.1) (ob (qaI (a.1.1,())) fun a_3=>ob (jU (len x.2.1,a_3.1,())) fun a_4=>ob (kY (a_4.1,())) fun a_5=>sel (le a.1.1 2) (ob (kY (x.2.1,())) fun a=>ck (rm 1 (nadd (ln (none' UInt8)) (ln a_5.1))) (ck (rm 1 (nadd (ln (app (none' UInt8) a_5.1)) (ln a.1))) (some (app (app (none' UInt8) a_5.1) a.1,0,())))) (ck (rm 1 (nadd (ln (none' UInt8)) (ln a_5.1))) (ck (rm 1 (nadd (ln (app (none' UInt8) a_5.1)) (ln x.2.1))) (some (app (app (none' UInt8) a_5.1) x.2.1,0,()))))) (sel (le a.1.1 2) (ob (kY (x.2.1,())) fun a=>ck (rm 1 (nadd (ln (none' UInt8)) (ln (none' UInt8)))) (ck (rm 1 (nadd (ln (app (none' UInt8) (none' UInt8))) (ln a.1))) (some (app (app (none' UInt8) (none' UInt8)) a.1,0,())))) (ck (rm 1 (nadd (ln (none' UInt8)) (ln (none' UInt8)))) (ck (rm 1 (nadd (ln (app (none' UInt8) (none' UInt8))) (ln x.2.1))) (some (app (app (none' UInt8) (none' UInt8)) x.2.1,0,())))))))
noncomputable def qfQ (x:tg_):Option (td_):=ob (qd1 (x.1,())) fun a=>ob (x3 (a.1,x.2.1,())) fun a_1=>ob (sel a.2.1 (some (a_1.1,())) (some (false,()))) fun a=>some (a.1,())
noncomputable def qlV (x:tx_):Option (tv_):=ob (qd1 (x.1,())) fun a=>sel (bnot a.2.1) (some (none' UInt8,0,12,())) (ob (sel (lt x.2.2.1 0) (some (true,())) (some (lt (len x.2.1) x.2.2.1,()))) fun a_1=>sel a_1.1 (some (none' UInt8,0,1,())) (ob (qaI (a.1.1,())) fun a_2=>sel (lt 0 a_2.1) (ob (qaI (a.1.1,())) fun a_3=>ob (xL (x.2.1,x.2.2.1,a_3.1,())) fun a_4=>sel (bnot (beq a_4.2.2.1 0)) (some (none' UInt8,0,a_4.2.2.1,())) (ob (yN (a_4.1,())) fun a_5=>ob (sel (lt a_5.1 1) (some (true,())) (some (lt a.1.2.1 a_5.1,()))) fun a_6=>sel a_6.1 (some (none' UInt8,0,2,())) (ob (sel (le a.1.1 2) (some (i64 (idiv (i64 (iadd a_5.1 1)) 2),())) (some (a_5.1,()))) fun a_7=>sel (lt (i64 (isub (len x.2.1) a_4.2.1)) a_7.1) (some (none' UInt8,0,3,())) (ck (inC a_4.2.1 (i64 (iadd a_4.2.1 a_7.1)) (len x.2.1)) (ck (rm 1 (nadd (ln (none' UInt8)) (ln (sub x.2.1 a_4.2.1 (i64 (iadd a_4.2.1 a_7.1)))))) (sel (le a.1.1 2) (ob (xL (x.2.1,a_4.2.1,a_5.1,())) fun a_8=>sel (bnot (beq a_8.2.2.1 0)) (some (none' UInt8,0,2,())) (ck (rm 1 (ln a_8.1)) (ob (x3 (a.1,a_8.1,())) fun a=>sel (bnot a.1) (some (none' UInt8,0,2,())) (some (a_8.1,i64 (iadd a_4.2.1 a_7.1),0,()))))) (ob (x3 (a.1,app (none' UInt8) (sub x.2.1 a_4.2.1 (i64 (iadd a_4.2.1 a_7.1))),())) fun a=>sel (bnot a.1) (some (none' UInt8,0,2,())) (some (app (none' UInt8) (sub x.2.1 a_4.2.1 (i64 (iadd a_4.2.1 a_7.1))),i64 (iadd a_4.2.1 a_7.1),0,()))))))))) (ob (sel (le a.1.1 2) (some (i64 (idiv (i64 (iadd a.1.2.1 1)) 2),())) (some (a.1.2.1,()))) fun a_3=>sel (lt (i64 (isub (len x.2.1) x.2.2.1)) a_3.1) (some (none' UInt8,0,3,())) (ck (inC x.2.2.1 (i64 (iadd x.2.2.1 a_3.1)) (len x.2.1)) (ck (rm 1 (nadd (ln (none' UInt8)) (ln (sub x.2.1 x.2.2.1 (i64 (iadd x.2.2.1 a_3.1)))))) (sel (le a.1.1 2) (ob (xL (x.2.1,x.2.2.1,a.1.2.1,())) fun a_4
 => sel (bnot (beq a_4.2.2.1 0)) (some (none' UInt8,0,2,())) (ck (rm 1 (ln a_4.1)) (ob (x3 (a.1,a_4.1,())) fun a=>sel (bnot a.1) (some (none' UInt8,0,2,())) (some (a_4.1,i64 (iadd x.2.2.1 a_3.1),0,()))))) (ob (x3 (a.1,app (none' UInt8) (sub x.2.1 x.2.2.1 (i64 (iadd x.2.2.1 a_3.1))),())) fun a=>sel (bnot a.1) (some (none' UInt8,0,2,())) (some (app (none' UInt8) (sub x.2.1 x.2.2.1 (i64 (iadd x.2.2.1 a_3.1))),i64 (iadd x.2.2.1 a_3.1),0,())))))))))
def bt (c:UInt8) (t:Nat):Bool:=c.toNat.testBit (7 - t)
def hasB (b:BB) (n:Nat):Bool:=bt (nth b ((n - 1) / 8) (u8 0)) ((n - 1) % 8)
def vE (b:BB):List Nat:=(List.range (8*b.length+1)).filter fun n=>Nat.ble 2 n && hasB b n
def bmC (c:BB) (a:Int):List Int×Int×Int×Unit :=
 if c.length < 8∨(hasB c 1=true∧c.length < 16) then ([],0,3,())
 else if hasB c 1=true then
  (if 65∈vE (c.take 16)∨∀ n∈vE (c.take 16),n < 65 then ([],0,2,()) else ((vE (c.take 16)).map Int.ofNat,a+16,0,()))
 else ((vE (c.take 8)).map Int.ofNat,a+8,0,())
def bmR (b:BB) (a:Int):List Int×Int×Int×Unit:=if a < 0∨(b.length:Int) < a then ([],0,1,()) else bmC (b.drop a.toNat) a
noncomputable def yW (x:te_):Option (tl_):=lc (loop (fun (x_1:te_)=>sel (lt x_1.2.1 x.2.1) (some (LS.nx (i64 (idiv x_1.1 10),i64 (iadd x_1.2.1 1),()))) (some (LS.ex 0 (x_1.1,x_1.2.1,())))) (x.1,0,())) (fun (a:te_)=>none) (fun (i:Nat) (a:te_)=>ck (neb i 0) (some (imod a.1 10,()))) fun (r:tl_)=>some r
noncomputable def qhP (x:tl_):Option (td_):=ob (sel (lt x.1 0) (some (true,())) (some (lt 999 x.1,()))) fun a=>sel a.1 (some (false,())) (ob (yW (x.1,2,())) fun a=>ob (sel (le 1 a.1) (sel (le a.1 8) (ob (yW (x.1,1,())) fun a=>sel (le a.1 4) (ob (yW (x.1,0,())) fun a=>some (le a.1 5,())) (some (false,()))) (some (false,()))) (some (false,()))) fun a=>some (a.1,()))
noncomputable def qdF (x:tc_):Option (td_):=ob (sel (le 1 x.1.2.2.2.2.1) (sel (le x.1.2.2.2.2.1 2147483647) (sel (beq (len x.1.2.2.2.2.2.1) 8) (sel (beq (len x.1.2.2.2.2.2.2.1) 3) (some (beq x.1.2.2.2.2.2.2.2.1 0,())) (some (false,()))) (some (false,()))) (some (false,()))) (some (false,()))) fun a=>some (a.1,())
noncomputable def qa9 (x:tc_):Option (td_):=ob (sel (beq x.1.2.2.2.2.1 0) (sel (beq (len x.1.2.2.2.2.2.1) 0) (sel (beq (len x.1.2.2.2.2.2.2.1) 0) (some (beq x.1.2.2.2.2.2.2.2.1 0,())) (some (false,()))) (some (false,()))) (some (false,()))) fun a=>some (a.1,())
noncomputable def qdG (x:tc_):Option (td_):=ob (sel (le 0 x.1.2.2.2.2.2.2.2.1) (sel (le x.1.2.2.2.2.2.2.2.1 999999) (ob (qa9 ((x.1.1,x.1.2.1,x.1.2.2.1,x.1.2.2.2.1,x.1.2.2.2.2.1,x.1.2.2.2.2.2.1,x.1.2.2.2.2.2.2.1,0,x.1.2.2.2.2.2.2.2.2),())) fun a=>some (a.1,())) (some (false,()))) (some (false,()))) fun a=>some (a.1,()) -- not served: yett/note.rule$1
noncomputable def qpO (x:ti_):Option (td_):=lc (loop (fun (x_1:tz_)=>sel (lt x_1.2.2.1 (len x.1.2.1)) (ck (inB x_1.2.2.1 (len x.1.2.1)) (ob (sel (le (nth x.1.2.1 (nat x_1.2.2.1) (0,none' UInt8,())).1 x_1.2.1) (some (true,())) (ob (kP ((nth x.1.2.1 (nat x_1.2.2.1) (0,none' UInt8,())).1,(nth x.1.2.1 (nat x_1.2.2.1) (0,none' UInt8,())).2.1,())) fun a=>some (bnot a.1,()))) fun a=>sel a.1 (some (LS.rt (false,()))) (some (LS.nx (x_1.1,(nth x.1.2.1 (nat x_1.2.2.1) (0,none' UInt8,())).1,i64 (iadd x_1.2.2.1 1),()))))) (some (LS.ex 0 (x_1.1,x_1.2.1,x_1.2.2.1,())))) (false,0,0,())) (fun (a:tz_)=>none) (fun (i:Nat) (a:tz_)=>ck (neb i 0) (ob (qhP (x.1.1,())) fun a=>some (a.1,()))) fun (r:td_)=>some r
noncomputable def qdT (x:tJ_):Option (td_):=some (seq x.1 x.2.1,())
noncomputable def ql4 (x:tH_):Option (td_):=ob (sel (beq x.1.1 x.2.1.1) (ob (qdT (x.1.2.1,x.2.1.2.1,())) fun a=>some (a.1,())) (some (false,()))) fun a=>some (a.1,())
noncomputable def qeG (x:tE_):Option (td_):=lc (loop (fun (x_1:tz_)=>sel (lt x_1.2.2.1 (len x.1)) (ck (inB x_1.2.2.1 (len x.1)) (ob (sel (le (nth x.1 (nat x_1.2.2.1) 0) x_1.2.1) (some (true,())) (sel (lt 128 (nth x.1 (nat x_1.2.2.1) 0)) (some (true,())) (some (beq (nth x.1 (nat x_1.2.2.1) 0) 65,())))) fun a=>sel a.1 (some (LS.rt (false,()))) (some (LS.nx (x_1.1,nth x.1 (nat x_1.2.2.1) 0,i64 (iadd x_1.2.2.1 1),()))))) (some (LS.ex 0 (x_1.1,x_1.2.1,x_1.2.2.1,())))) (false,1,0,())) (fun (a:tz_)=>none) (fun (i:Nat) (a:tz_)=>ck (neb i 0) (some (true,()))) fun (r:td_)=>some r
noncomputable def jW (x:tl_):Option (tV_):=ob (sel (lt x.1 1) (some (true,())) (some (lt 128 x.1,()))) fun a=>sel a.1 (some (0,u8 0,())) (ck (le 0 (imod (i64 (isub x.1 1)) 8)) (some (i64 (idiv (i64 (isub x.1 1)) 8),u8 (shrI IntKind.u8 (n8 (u8 128)) (imod (i64 (isub x.1 1)) 8)),())))
noncomputable def qeF (x:tE_):Option (tb_):=ob (qeG (x.1,())) fun a=>sel (bnot a.1) (some (none' UInt8,1,())) (ck (band (inC 0 8 8) (rm 1 (nat 8))) (ob (sel (lt 0 (len x.1)) (ck (inB (i64 (isub (len x.1) 1)) (len x.1)) (some (lt 64 (nth x.1 (nat (i64 (isub (len x.1) 1))) 0),()))) (some (false,()))) fun a=>sel a.1 (ck (band (inC 0 16 16) (rm 1 (nat 16))) (ck (inB 0 (len (rep (nat 16) (u8 0)))) (lc (loop (fun (x_1:tg_)=>sel (lt x_1.1 (len x.1)) (ck (inB x_1.1 (len x.1)) (ob (jW (nth x.1 (nat x_1.1) 0,())) fun a=>ck (inB a.1 (len x_1.2.1)) (ck (inB a.1 (len x_1.2.1)) (some (LS.nx (i64 (iadd x_1.1 1),upd x_1.2.1 (nat a.1) (u8 (orI IntKind.u8 (n8 (nth x_1.2.1 (nat a.1) (u8 0))) (n8 a.2.1))),())))))) (some (LS.ex 0 (x_1.1,x_1.2.1,())))) (0,upd (rep (nat 16) (u8 0)) (nat 0) (u8 128),())) (fun (a:tg_)=>none) (fun (i:Nat) (a:tg_)=>ck (neb i 0) (some (a.2.1,0,()))) fun (r:tb_)=>some r))) (lc (loop (fun (x_1:tg_)=>sel (lt x_1.1 (len x.1)) (ck (inB x_1.1 (len x.1)) (ob (jW (nth x.1 (nat x_1.1) 0,())) fun a=>ck (inB a.1 (len x_1.2.1)) (ck (inB a.1 (len x_1.2.1)) (some (LS.nx (i64 (iadd x_1.1 1),upd x_1.2.1 (nat a.1) (u8 (orI IntKind.u8 (n8 (nth x_1.2.1 (nat a.1) (u8 0))) (n8 a.2.1))),())))))) (some (LS.ex 0 (x_1.1,x_1.2.1,())))) (0,rep (nat 8) (u8 0),())) (fun (a:tg_)=>none) (fun (i:Nat) (a:tg_)=>ck (neb i 0) (some (a.2.1,0,()))) fun (r:tb_)=>some r)))
noncomputable def qdK (x:ti_):Option (tb_):=ob (qpO (x.1,())) fun a=>sel (bnot a.1) (some (none' UInt8,1,())) (ob (vR (x.1.1,4,())) fun a=>ob (qe2 (a.1,())) fun a=>lc (loop (fun (x_1:tq_)=>sel (lt x_1.2.1 (len x.1.2.1)) (ck (inB x_1.2.1 (len x.1.2.1)) (ck (rm 32 (nadd (ln x_1.1) (ln [(nth x.1.2.1 (nat x_1.2.1) (0,none' UInt8,())).1]))) (some (LS.nx (app x_1.1 [(nth x.1.2.1 (nat x_1.2.1) (0,none' UInt8,())).1],i64 (iadd x_1.2.1 1),()))))) (some (LS.ex 0 (x_1.1,x_1.2.1,())))) (none' Int,0,())) (fun (a:tq_)=>none) (fun (i:Nat) (a_1:tq_)=>ck (neb i 0) (ob (qeF (a_1.1,())) fun a_2=>ck (rm 1 (nadd (ln a.1) (ln a_2.1))) (lc (loop (fun (x_1:tb_)=>sel (lt x_1.2.1 (len x.1.2.1)) (ck (inB x_1.2.1 (len x.1.2.1)) (ob (qdO ((nth x.1.2.1 (nat x_1.2.1) (0,none' UInt8,())).1,(nth x.1.2.1 (nat x_1.2.1) (0,none' UInt8,())).2.1,())) fun a=>ck (rm 1 (nadd (ln x_1.1) (ln a.1))) (some (LS.nx (app x_1.1 a.1,i64 (iadd x_1.2.1 1),()))))) (some (LS.ex 2 (x_1.1,x_1.2.1,())))) (app a.1 a_2.1,0,())) (fun (a:tb_)=>none) (fun (i:Nat) (a:tb_)=>ck (neb i 2) (some (a.1,0,()))) fun (r:tb_)=>some r))) fun (r:tb_)=>some r)
noncomputable def qbJ (x:tG_):Option (tl_):=some (x.1.1,())
noncomputable def qf8 (x:ti_):Option ((List (Int×BB×Unit)×Nat×Unit)×Unit):=some ((x.1.2.1,1,()),())
noncomputable def jH (x:(List (Int×BB×Unit)×Nat×Unit)×Int×Unit):Option (tS_):=lc (loop (fun (x_1:tP_)=>sel (lt x_1.2.2.1 (len x.1.1)) (ck (inB x_1.2.2.1 (len x.1.1)) (ck (neb x.1.2.1 1) (ob (qbJ (nth x.1.1 (nat x_1.2.2.1) (0,none' UInt8,()),())) fun a=>sel (le x.2.1 a.1) (some (LS.rt (x_1.2.2.1,beq a.1 x.2.1,()))) (some (LS.nx (x_1.1,x_1.2.1,i64 (iadd x_1.2.2.1 1),())))))) (some (LS.ex 0 (x_1.1,x_1.2.1,x_1.2.2.1,())))) (0,false,0,())) (fun (a:tP_)=>none) (fun (i:Nat) (a:tP_)=>ck (neb i 0) (some (len x.1.1,false,()))) fun (r:tS_)=>some r
noncomputable def zK (x:List (List (Int×BB×Unit))×Unit):Option (tn_):=lc (loop (fun (x_1:te_)=>sel (lt x_1.2.1 (len x.1)) (ck (inB x_1.2.1 (len x.1)) (sel (lt (i64 (iadd x_1.1 (len (nth x.1 (nat x_1.2.1) (none' (Int×BB×Unit)))))) 0) none (some (LS.nx (i64 (iadd x_1.1 (len (nth x.1 (nat x_1.2.1) (none' (Int×BB×Unit))))),i64 (iadd x_1.2.1 1),()))))) (some (LS.ex 0 (x_1.1,x_1.2.1,())))) (0,0,())) (fun (a:te_)=>none) (fun (i:Nat) (a:te_)=>ck (neb i 0) (sel (lt a.1 0) none (sel (lt 0 (i64 (isub a.1 (i64 (isub 0 0))))) (ck (inC 0 0 0) (ck (band (le 0 (i64 (isub a.1 (i64 (isub 0 0))))) (rm 56 (nat (i64 (isub a.1 (i64 (isub 0 0))))))) (ck (inC 0 0 (len (rep (nat (i64 (isub a.1 (i64 (isub 0 0))))) (0,none' UInt8,())))) (lc (loop (fun (x_1:to_)=>sel (lt x_1.2.1 (len x.1)) (ck (inB x_1.2.1 (len x.1)) (ck (rm 56 (nadd (ln x_1.1) (ln (nth x.1 (nat x_1.2.1) (none' (Int×BB×Unit)))))) (some (LS.nx (app x_1.1 (nth x.1 (nat x_1.2.1) (none' (Int×BB×Unit))),i64 (iadd x_1.2.1 1),()))))) (some (LS.ex 2 (x_1.1,x_1.2.1,())))) (cut (rep (nat (i64 (isub a.1 (i64 (isub 0 0))))) (0,none' UInt8,())) (nat 0) (nsub (nat 0) (nat 0)),0,())) (fun (a:to_)=>none) (fun (i:Nat) (a:to_)=>ck (neb i 2) (some (a.1,()))) fun (r:tn_)=>some r)))) (lc (loop (fun (x_1:to_)=>sel (lt x_1.2.1 (len x.1)) (ck (inB x_1.2.1 (len x.1)) (ck (rm 56 (nadd (ln x_1.1) (ln (nth x.1 (nat x_1.2.1) (none' (Int×BB×Unit)))))) (some (LS.nx (app x_1.1 (nth x.1 (nat x_1.2.1) (none' (Int×BB×Unit))),i64 (iadd x_1.2.1 1),()))))) (some (LS.ex 2 (x_1.1,x_1.2.1,())))) (none' (Int×BB×Unit),0,
 ())) (fun (a:to_)=>none) (fun (i:Nat) (a:to_)=>ck (neb i 2) (some (a.1,()))) fun (r:tn_)=>some r)))) fun (r:tn_)=>some r
noncomputable def xO (x:(List (Int×BB×Unit)×Nat×Unit)×(Int×BB×Unit)×Unit):Option (tn_):=ck (neb x.1.2.1 1) (ob (qbJ (x.2.1,())) fun a=>ob (jH (x.1,a.1,())) fun a=>ob (sel a.2.1 (some (i64 (iadd a.1 1),())) (some (a.1,()))) fun a_1=>ck (inC 0 a.1 (len x.1.1)) (ck (inC a_1.1 (len x.1.1) (len x.1.1)) (ob (zK ([sub x.1.1 0 a.1,[x.2.1],sub x.1.1 a_1.1 (len x.1.1)],())) fun a=>some (a.1,()))))
noncomputable def j7 (x:(Int×List (Int×BB×Unit)×Unit)×Int×BB×Unit):Option (tj_):=ob (qcE (x.2.1,())) fun a=>sel (bnot a.2.1) (some (x.1,12,())) (ob (kP (x.2.1,x.2.2.1,())) fun a=>sel (bnot a.1) (some (x.1,1,())) (ob (qf8 (x.1,())) fun a=>ob (xO (a.1,(x.2.1,x.2.2.1,()),())) fun a=>some ((x.1.1,a.1,x.1.2.2),0,())))
noncomputable def qcL (x:tl_):Option (td_):=ob (sel (le 100 x.1) (sel (le x.1 899) (sel (le (imod (i64 (idiv x.1 10)) 10) 4) (some (le (imod x.1 10) 5,())) (some (false,()))) (some (false,()))) (some (false,()))) fun a=>some (a.1,())
noncomputable def qhA (x:ti_):Option (td_):=lc (loop (fun (x_1:ta_)=>sel (lt x_1.2.1 (len x.1.2.1)) (ck (inB x_1.2.1 (len x.1.2.1)) (ck (inB x_1.2.1 (len x.1.2.1)) (ob (qfQ ((nth x.1.2.1 (nat x_1.2.1) (0,none' UInt8,())).1,(nth x.1.2.1 (nat x_1.2.1) (0,none' UInt8,())).2.1,())) fun a=>ob (sel (bnot a.1) (some (true,())) (sel (lt 0 x_1.2.1) (ck (inB (i64 (isub x_1.2.1 1)) (len x.1.2.1)) (ck (inB x_1.2.1 (len x.1.2.1)) (some (le (nth x.1.2.1 (nat x_1.2.1) (0,none' UInt8,())).1 (nth x.1.2.1 (nat (i64 (isub x_1.2.1 1))) (0,none' UInt8,())).1,())))) (some (false,())))) fun a=>sel a.1 (some (LS.rt (false,()))) (some (LS.nx (x_1.1,i64 (iadd x_1.2.1 1),())))))) (some (LS.ex 0 (x_1.1,x_1.2.1,())))) (false,0,())) (fun (a:ta_)=>none) (fun (i:Nat) (a:ta_)=>ck (neb i 0) (ob (qcL (x.1.1,())) fun a=>some (a.1,()))) fun (r:td_)=>some r
noncomputable def qhC (x:tE_):Option (td_):=lc (loop (fun (x_1:ta_)=>sel (lt x_1.2.1 (len x.1)) (ck (inB x_1.2.1 (len x.1)) (ob (sel (lt (nth x.1 (nat x_1.2.1) 0) 2) (some (true,())) (ck (inB x_1.2.1 (len x.1)) (sel (lt 128 (nth x.1 (nat x_1.2.1) 0)) (some (true,())) (ck (inB x_1.2.1 (len x.1)) (sel (beq (nth x.1 (nat x_1.2.1) 0) 65) (some (true,())) (sel (lt 0 x_1.2.1) (ck (inB (i64 (isub x_1.2.1 1)) (len x.1)) (ck (inB x_1.2.1 (len x.1)) (some (le (nth x.1 (nat x_1.2.1) 0) (nth x.1 (nat (i64 (isub x_1.2.1 1))) 0),())))) (some (false,())))))))) fun a=>sel a.1 (some (LS.rt (false,()))) (some (LS.nx (x_1.1,i64 (iadd x_1.2.1 1),()))))) (some (LS.ex 0 (x_1.1,x_1.2.1,())))) (false,0,())) (fun (a:ta_)=>none) (fun (i:Nat) (a:ta_)=>ck (neb i 0) (some (true,()))) fun (r:td_)=>some r
noncomputable def yM (x:tl_):Option (tV_):=ob (sel (lt x.1 1) (some (true,())) (some (lt 128 x.1,()))) fun a=>sel a.1 (some (0,u8 0,())) (lc (loop (fun (x_1:te_)=>sel (lt x_1.2.1 (imod (i64 (isub x.1 1)) 8)) (some (LS.nx (i64 (idiv x_1.1 2),i64 (iadd x_1.2.1 1),()))) (some (LS.ex 0 (x_1.1,x_1.2.1,())))) (128,0,())) (fun (a:te_)=>none) (fun (i:Nat) (a:te_)=>ck (neb i 0) (some (i64 (idiv (i64 (isub x.1 1)) 8),u8 a.1,()))) fun (r:tV_)=>some r)
noncomputable def qhB (x:tE_):Option (tb_):=ob (qhC (x.1,())) fun a=>sel (bnot a.1) (some (none' UInt8,1,())) (ck (rm 32 (nadd (ln (none' Int)) (ln x.1))) (ob (sel (lt 0 (len x.1)) (ck (inB (i64 (isub (len x.1) 1)) (len x.1)) (some (lt 64 (nth x.1 (nat (i64 (isub (len x.1) 1))) 0),()))) (some (false,()))) fun a=>sel a.1 (ck (rm 32 (nadd (ln (app (none' Int) x.1)) (ln [1]))) (ck (band (inC 0 16 16) (rm 1 (nat 16))) (lc (loop (fun (x_1:tg_)=>sel (lt x_1.1 (len (app (app (none' Int) x.1) [1]))) (ck (inB x_1.1 (len (app (app (none' Int) x.1) [1]))) (ob (yM (nth (app (app (none' Int) x.1) [1]) (nat x_1.1) 0,())) fun a=>ck (inB a.1 (len x_1.2.1)) (ck (inB a.1 (len x_1.2.1)) (some (LS.nx (i64 (iadd x_1.1 1),upd x_1.2.1 (nat a.1) (u8 (iadd (n8 (nth x_1.2.1 (nat a.1) (u8 0))) (n8 a.2.1))),())))))) (some (LS.ex 0 (x_1.1,x_1.2.1,())))) (0,rep (nat 16) (u8 0),())) (fun (a:tg_)=>none) (fun (i:Nat) (a:tg_)=>ck (neb i 0) (some (a.2.1,0,()))) fun (r:tb_)=>some r))) (ck (band (inC 0 8 8) (rm 1 (nat 8))) (lc (loop (fun (x_1:tg_)=>sel (lt x_1.1 (len (app (none' Int) x.1))) (ck (inB x_1.1 (len (app (none' Int) x.1))) (ob (yM (nth (app (none' Int) x.1) (nat x_1.1) 0,())) fun a=>ck (inB a.1 (len x_1.2.1)) (ck (inB a.1 (len x_1.2.1)) (some (LS.nx (i64 (iadd x_1.1 1),upd x_1.2.1 (nat a.1) (u8 (iadd (n8 (nth x_1.2.1 (nat a.1) (u8 0))) (n8 a.2.1))),())))))) (some (LS.ex 0 (x_1.1,x_1.2.1,())))) (0,rep (nat 8) (u8 0),())) (fun (a:tg_)=>none) (fun (i:Nat) (a:tg_)=>ck (neb i 0) (some (a.2.1,0,()))) fun (r:tb_)=>some r))))
noncomputable def qlT (x:tl_):Option (tf_):=ob (jU (x.1,4,())) fun a=>some (a.1,())
noncomputable def v8 (x:ti_):Option (tb_):=ob (qhA (x.1,())) fun a=>sel (bnot a.1) (some (none' UInt8,1,())) (lc (loop (fun (x_1:tM_)=>sel (lt x_1.2.2.1 (len x.1.2.1)) (ck (inB x_1.2.2.1 (len x.1.2.1)) (ck (inB x_1.2.2.1 (len x.1.2.1)) (ob (qc9 ((nth x.1.2.1 (nat x_1.2.2.1) (0,none' UInt8,())).1,(nth x.1.2.1 (nat x_1.2.2.1) (0,none' UInt8,())).2.1,())) fun a=>ck (inB x_1.2.2.1 (len x.1.2.1)) (ck (rm 32 (nadd (ln x_1.1) (ln [(nth x.1.2.1 (nat x_1.2.2.1) (0,none' UInt8,())).1]))) (ck (rm 1 (nadd (ln x_1.2.1) (ln a.1))) (some (LS.nx (app x_1.1 [(nth x.1.2.1 (nat x_1.2.2.1) (0,none' UInt8,())).1],app x_1.2.1 a.1,i64 (iadd x_1.2.2.1 1),())))))))) (some (LS.ex 0 (x_1.1,x_1.2.1,x_1.2.2.1,())))) (none' Int,none' UInt8,0,())) (fun (a:tM_)=>none) (fun (i:Nat) (a:tM_)=>ck (neb i 0) (ob (qhB (a.1,())) fun a_1=>ob (qlT (x.1.1,())) fun a_2=>ob (kY (a_2.1,())) fun a_3=>ck (rm 1 (nadd (ln a_3.1) (ln a_1.1))) (ck (rm 1 (nadd (ln (app a_3.1 a_1.1)) (ln a.2.1))) (some (app (app a_3.1 a_1.1) a.2.1,0,()))))) fun (r:tb_)=>some r)
noncomputable def wC (x:tb_):Option (td_):=ob (yM (x.2.1,())) fun a=>ck (inB a.1 (len x.1)) (some (bnot (beq (n8 (u8 (andI IntKind.u8 (n8 (nth x.1 (nat a.1) (u8 0))) (n8 a.2.1)))) (n8 (u8 0))),()))
noncomputable def qlU (x:tb_):Option (List Int×Int×Int×Unit):=ob (sel (lt x.2.1 0) (some (true,())) (some (lt (len x.1) x.2.1,()))) fun a=>sel a.1 (some (none' Int,0,1,())) (ck (inC x.2.1 (len x.1) (len x.1)) (sel (lt (len (sub x.1 x.2.1 (len x.1))) 8) (some (none' Int,0,3,())) (ob (wC (sub x.1 x.2.1 (len x.1),1,())) fun a=>ob (sel a.1 (some (16,())) (some (8,()))) fun a_1=>sel (lt (len (sub x.1 x.2.1 (len x.1))) a_1.1) (some (none' Int,0,3,())) (lc (loop (fun (x_1:tq_)=>sel (le x_1.2.1 (i64 (imul 8 a_1.1))) (ob (wC (sub x.1 x.2.1 (len x.1),x_1.2.1,())) fun a=>sel a.1 (ck (rm 32 (nadd (ln x_1.1) (ln [x_1.2.1]))) (some (LS.nx (app x_1.1 [x_1.2.1],i64 (iadd x_1.2.1 1),())))) (some (LS.nx (x_1.1,i64 (iadd x_1.2.1 1),())))) (some (LS.ex 0 (x_1.1,x_1.2.1,())))) (none' Int,2,())) (fun (a:tq_)=>none) (fun (i:Nat) (a_2:tq_)=>ck (neb i 0) (ob (sel a.1 (ob (wC (sub x.1 x.2.1 (len x.1),65,())) fun a=>sel a.1 (some (true,())) (sel (beq (len a_2.1) 0) (some (true,())) (ck (inB (i64 (isub (len a_2.1) 1)) (len a_2.1)) (some (le (nth a_2.1 (nat (i64 (isub (len a_2.1) 1))) 0) 65,()))))) (some (false,()))) fun a=>sel a.1 (some (none' Int,0,2,())) (some (a_2.1,i64 (iadd x.2.1 a_1.1),0,())))) fun (r:List Int×Int×Int×Unit)=>some r))))
noncomputable def qaH (x:tf_):Option (tj_):=sel (lt (len x.1) 2) (some ((0,none' (Int×BB×Unit),()),3,())) (ob (xL (x.1,0,4,())) fun a=>ob (yN (a.1,())) fun a_1=>ob (sel (bnot (beq a.2.2.1 0)) (some (true,())) (ob (qcL (a_1.1,())) fun a=>some (bnot a.1,()))) fun a=>sel a.1 (some ((0,none' (Int×BB×Unit),()),2,())) (ob (qlU (x.1,2,())) fun a=>sel (bnot (beq a.2.2.1 0)) (some ((0,none' (Int×BB×Unit),()),a.2.2.1,())) (lc (loop (fun (x:te_)=>sel (lt x.2.1 (len a.1)) (ck (inB x.2.1 (len a.1)) (ob (qd1 (nth a.1 (nat x.2.1) 0,())) fun a=>sel (bnot a.2.1) (some (LS.rt ((0,none' (Int×BB×Unit),()),2,()))) (some (LS.nx (x.1,i64 (iadd x.2.1 1),()))))) (some (LS.ex 0 (x.1,x.2.1,())))) (0,0,())) (fun (a:te_)=>none) (fun (i:Nat) (a_2:te_)=>ck (neb i 0) (lc (loop (fun (x_1:ts_)=>sel (lt x_1.2.2.1 (len a.1)) (ck (inB x_1.2.2.1 (len a.1)) (ob (qlV (nth a.1 (nat x_1.2.2.1) 0,x.1,x_1.2.1,())) fun a_3=>sel (bnot (beq a_3.2.2.1 0)) (some (LS.rt ((0,none' (Int×BB×Unit),()),a_3.2.2.1,()))) (ck (inB x_1.2.2.1 (len a.1)) (ck (rm 56 (nadd (ln x_1.2.2.2.1.2.1) (ln [(nth a.1 (nat x_1.2.2.1) 0,a_3.1,())]))) (some (LS.nx (x_1.1,a_3.2.1,i64 (iadd x_1.2.2.1 1),(x_1.2.2.2.1.1,app x_1.2.2.2.1.2.1 [(nth a.1 (nat x_1.2.2.1) 0,a_3.1,())],x_1.2.2.2.1.2.2),()))))))) (some (LS.ex 2 (x_1.1,x_1.2.1,x_1.2.2.1,(x_1.2.2.2.1.1,x_1.2.2.2.1.2.1,x_1.2.2.2.1.2.2),())))) (a_2.1,a.2.1,0,(a_1.1,none' (Int×BB×Unit),()),())) (fun (a:ts_)=>none) (fun (i:Nat) (a:ts_)=>ck (neb i 2) (sel (lt
 a.2.1 (len x.1)) (some ((0,none' (Int×BB×Unit),()),4,())) (some ((a.2.2.2.1.1,a.2.2.2.1.2.1,a.2.2.2.1.2.2),0,())))) fun (r:tj_)=>some r)) fun (r:tj_)=>some r)))
noncomputable def kX (x:tj_):Option (BB×Bool×Unit):=lc (loop (fun (x_1:ta_)=>sel (lt x_1.2.1 (len x.1.2.1)) (ck (inB x_1.2.1 (len x.1.2.1)) (sel (beq (nth x.1.2.1 (nat x_1.2.1) (0,none' UInt8,())).1 x.2.1) (ck (inB x_1.2.1 (len x.1.2.1)) (some (LS.rt ((nth x.1.2.1 (nat x_1.2.1) (0,none' UInt8,())).2.1,true,())))) (some (LS.nx (x_1.1,i64 (iadd x_1.2.1 1),()))))) (some (LS.ex 0 (x_1.1,x_1.2.1,())))) (false,0,())) (fun (a:ta_)=>none) (fun (i:Nat) (a:ta_)=>ck (neb i 0) (some (none' UInt8,false,()))) fun (r:BB×Bool×Unit)=>some r
noncomputable def qnK (x:tc_):Option (td_):=some (false,())
noncomputable def qv6 (x:tc_):Option (Nat×Unit):=ob (sel (beq x.1.2.1 101) (some (x.1.1,())) (some (false,()))) fun a=>sel a.1 (some (1,())) (ob (sel (beq x.1.2.1 201) (some (x.1.1,())) (some (false,()))) fun a=>sel a.1 (some (2,())) (ob (sel (beq x.1.2.1 1) (some (true,())) (sel (beq x.1.2.1 2) (some (true,())) (sel (beq x.1.2.1 101) (some (true,())) (sel (beq x.1.2.1 201) (some (true,())) (some (beq x.1.2.1 301,())))))) fun a=>sel a.1 (some (3,())) (some (4,()))))
noncomputable def qf3 (x:tc_):Option (td_):=ob (sel (lt x.1.2.2.1 1) (some (true,())) (sel (lt 999999 x.1.2.2.1) (some (true,())) (sel (lt x.1.2.2.2.1 0) (some (true,())) (sel (lt 99 x.1.2.2.2.1) (some (true,())) (sel x.1.1 (some (lt 0 x.1.2.2.2.1,())) (some (false,()))))))) fun a=>sel a.1 (some (false,())) (ob (qv6 (x.1,())) fun a=>sel (neb a.1 1) (ob (qdF (x.1,())) fun a=>some (a.1,())) (sel (neb (nsub a.1 1) 1) (ob (qdG (x.1,())) fun a=>some (a.1,())) (sel (neb (nsub (nsub a.1 1) 1) 1) (ob (qa9 (x.1,())) fun a=>some (a.1,())) (ck (neb (nsub (nsub (nsub a.1 1) 1) 1) 1) (ob (qnK (x.1,())) fun a=>some (a.1,()))))))
noncomputable def z6 (x:te_):Option (tf_):=ob (vR (x.1,x.2.1,())) fun a=>ck (rm 1 (ln a.1)) (some (a.1,()))
noncomputable def yU (x:tc_):Option (ti_):=ob (z6 (x.1.2.2.1,6,())) fun a=>ob (j7 ((810,none' (Int×BB×Unit),()),11,a.1,())) fun a=>ob (z6 (x.1.2.1,3,())) fun a_1=>ob (j7 (a.1,70,a_1.1,())) fun a=>sel (bnot x.1.1) (ob (z6 (x.1.2.2.2.1,2,())) fun a_2=>ob (j7 (a.1,39,a_2.1,())) fun a=>some (a.1,())) (sel (beq x.1.2.1 101) (ob (qwV (x.1.2.2.2.2.2.2.1,())) fun a_2=>ck (rm 1 (ln a_2.1)) (ob (j7 ((800,a.1.2),48,a_2.1,())) fun a=>ob (z6 (x.1.2.2.2.2.1,16,())) fun a_3=>ob (j7 (a.1,53,a_3.1,())) fun a=>ob (j7 (a.1,96,x.1.2.2.2.2.2.1,())) fun a=>some (a.1,()))) (sel (beq x.1.2.1 201) (ob (z6 (x.1.2.2.2.2.2.2.2.1,6,())) fun a_2=>ob (j7 ((800,a.1.2),15,a_2.1,())) fun a=>some (a.1,())) (some ((800,a.1.2),()))))
noncomputable def xD (x:tc_):Option (tb_):=ob (qf3 (x.1,())) fun a=>sel (bnot a.1) (some (none' UInt8,1,())) (ob (yU (x.1,())) fun a=>ob (qdK (a.1,())) fun a=>some (a.1,a.2.1,()))
noncomputable def j3 (x:tp_):Option (tp_):=sel (bnot x.1.1) (some ((false,0,0,0,0,none' UInt8,none' UInt8,0,()),9,())) (ob (sel (lt x.2.1 0) (some (true,())) (some (lt 99 x.2.1,()))) fun a=>sel a.1 (some ((false,0,0,0,0,none' UInt8,none' UInt8,0,()),1,())) (some ((false,x.1.2.1,x.1.2.2.1,x.2.1,0,none' UInt8,none' UInt8,0,()),0,())))
noncomputable def qc0 (x:tl_):Option (td_):=ob (sel (beq x.1 1) (some (true,())) (sel (beq x.1 2) (some (true,())) (sel (beq x.1 101) (some (true,())) (sel (beq x.1 201) (some (true,())) (some (beq x.1 301,())))))) fun a=>some (a.1,())
noncomputable def qgY (x:tc_):Option (td_):=ob (qc0 (x.1.2.1,())) fun a=>ob (sel (bnot a.1) (some (true,())) (sel (lt x.1.2.2.1 1) (some (true,())) (sel (lt 999999 x.1.2.2.1) (some (true,())) (sel (lt x.1.2.2.2.1 0) (some (true,())) (sel (lt 99 x.1.2.2.2.1) (some (true,())) (sel x.1.1 (some (bnot (beq x.1.2.2.2.1 0),())) (some (false,())))))))) fun a=>sel a.1 (some (false,())) (ob (sel x.1.1 (some (beq x.1.2.1 101,())) (some (false,()))) fun a=>sel a.1 (ob (sel (le 1 x.1.2.2.2.2.1) (sel (le x.1.2.2.2.2.1 2147483647) (sel (beq (len x.1.2.2.2.2.2.1) 8) (sel (beq (len x.1.2.2.2.2.2.2.1) 3) (some (beq x.1.2.2.2.2.2.2.2.1 0,())) (some (false,()))) (some (false,()))) (some (false,()))) (some (false,()))) fun a=>some (a.1,())) (ob (sel (bnot (beq x.1.2.2.2.2.1 0)) (some (true,())) (sel (bnot (beq (len x.1.2.2.2.2.2.1) 0)) (some (true,())) (some (bnot (beq (len x.1.2.2.2.2.2.2.1) 0),())))) fun a=>sel a.1 (some (false,())) (ob (sel x.1.1 (some (beq x.1.2.1 201,())) (some (false,()))) fun a=>sel a.1 (ob (sel (le 0 x.1.2.2.2.2.2.2.2.1) (some (le x.1.2.2.2.2.2.2.2.1 999999,())) (some (false,()))) fun a=>some (a.1,())) (some (beq x.1.2.2.2.2.2.2.2.1 0,())))))
noncomputable def q9 (x:te_):Option (tf_):=ob (jU (x.1,x.2.1,())) fun a=>ck (rm 1 (ln a.1)) (some (a.1,()))
noncomputable def qb8 (x:tc_):Option (ti_):=ob (q9 (x.1.2.2.1,6,())) fun a=>sel (bnot x.1.1) (ob (q9 (x.1.2.2.2.1,2,())) fun a_1=>ob (q9 (x.1.2.1,3,())) fun a_2=>ck (rm 56 (nadd (ln [(11,a.1,())]) (ln [(39,a_1.1,()),(70,a_2.1,())]))) (some ((810,app [(11,a.1,())] [(39,a_1.1,()),(70,a_2.1,())],()),()))) (sel (beq x.1.2.1 201) (ob (q9 (x.1.2.2.2.2.2.2.2.1,6,())) fun a_1=>ck (rm 56 (nadd (ln [(11,a.1,())]) (ln [(15,a_1.1,())]))) (sel (beq x.1.2.1 101) (ob (qjS (x.1.2.2.2.2.2.2.1,())) fun a_2=>ck (rm 1 (ln a_2.1)) (ob (q9 (x.1.2.2.2.2.1,16,())) fun a_3=>ck (rm 56 (nadd (ln (app [(11,a.1,())] [(15,a_1.1,())])) (ln [(48,a_2.1,()),(53,a_3.1,())]))) (ob (q9 (x.1.2.1,3,())) fun a_4=>ck (rm 56 (nadd (ln (app (app [(11,a.1,())] [(15,a_1.1,())]) [(48,a_2.1,()),(53,a_3.1,())])) (ln [(70,a_4.1,())]))) (sel (beq x.1.2.1 101) (ck (rm 56 (nadd (ln (app (app (app [(11,a.1,())] [(15,a_1.1,())]) [(48,a_2.1,()),(53,a_3.1,())]) [(70,a_4.1,())])) (ln [(96,x.1.2.2.2.2.2.1,())]))) (some ((800,app (app (app (app [(11,a.1,())] [(15,a_1.1,())]) [(48,a_2.1,()),(53,a_3.1,())]) [(70,a_4.1,())]) [(96,x.1.2.2.2.2.2.1,())],()),()))) (some ((800,app (app (app [(11,a.1,())] [(15,a_1.1,())]) [(48,a_2.1,()),(53,a_3.1,())]) [(70,a_4.1,())],()),())))))) (ob (q9 (x.1.2.1,3,())) fun a_2=>ck (rm 56 (nadd (ln (app [(11,a.1,())] [(15,a_1.1,())])) (ln [(70,a_2.1,())]))) (sel (beq x.1.2.1 101) (ck (rm 56 (nadd (ln (app (app [(11,a.1,())] [(15,a_1.1,())]) [(70,a_2.1,())])) (ln [(96,x.1.2.2.2.2.2.1,())]))) (some ((800,app (app (app [(11,a.1,())] [(15,a_1.1,())]) [(70,a_2.1,())]) [(96,x.1.2.2.2.2.2.1,())],()),()))) (some ((800,app (app [(11,a.1,())] [(15,
 a_1.1,())]) [(70,a_2.1,())],()),())))))) (sel (beq x.1.2.1 101) (ob (qjS (x.1.2.2.2.2.2.2.1,())) fun a_1=>ck (rm 1 (ln a_1.1)) (ob (q9 (x.1.2.2.2.2.1,16,())) fun a_2=>ck (rm 56 (nadd (ln [(11,a.1,())]) (ln [(48,a_1.1,()),(53,a_2.1,())]))) (ob (q9 (x.1.2.1,3,())) fun a_3=>ck (rm 56 (nadd (ln (app [(11,a.1,())] [(48,a_1.1,()),(53,a_2.1,())])) (ln [(70,a_3.1,())]))) (sel (beq x.1.2.1 101) (ck (rm 56 (nadd (ln (app (app [(11,a.1,())] [(48,a_1.1,()),(53,a_2.1,())]) [(70,a_3.1,())])) (ln [(96,x.1.2.2.2.2.2.1,())]))) (some ((800,app (app (app [(11,a.1,())] [(48,a_1.1,()),(53,a_2.1,())]) [(70,a_3.1,())]) [(96,x.1.2.2.2.2.2.1,())],()),()))) (some ((800,app (app [(11,a.1,())] [(48,a_1.1,()),(53,a_2.1,())]) [(70,a_3.1,())],()),())))))) (ob (q9 (x.1.2.1,3,())) fun a_1=>ck (rm 56 (nadd (ln [(11,a.1,())]) (ln [(70,a_1.1,())]))) (sel (beq x.1.2.1 101) (ck (rm 56 (nadd (ln (app [(11,a.1,())] [(70,a_1.1,())])) (ln [(96,x.1.2.2.2.2.2.1,())]))) (some ((800,app (app [(11,a.1,())] [(70,a_1.1,())]) [(96,x.1.2.2.2.2.2.1,())],()),()))) (some ((800,app [(11,a.1,())] [(70,a_1.1,())],()),()))))))
noncomputable def qgX (x:tc_):Option (tb_):=ob (qgY (x.1,())) fun a=>sel (bnot a.1) (some (none' UInt8,1,())) (ob (qb8 (x.1,())) fun a=>ob (v8 (a.1,())) fun a=>some (a.1,0,()))
noncomputable def vB (x:tj_):Option (tl_):=ob (kX (x.1,x.2.1,())) fun a=>ob (yN (a.1,())) fun a=>some (a.1,())
noncomputable def qfJ (x:tf_):Option (tp_):=ob (qaH (x.1,())) fun a=>sel (bnot (beq a.2.1 0)) (some ((false,0,0,0,0,none' UInt8,none' UInt8,0,()),a.2.1,())) (ob (kX (a.1,96,())) fun a_1=>ob (kX (a.1,48,())) fun a_2=>ob (qdB (a_2.1,())) fun a_3=>ob (vB (a.1,70,())) fun a_4=>ob (vB (a.1,11,())) fun a_5=>ob (vB (a.1,39,())) fun a_6=>ob (vB (a.1,53,())) fun a_7=>ob (vB (a.1,15,())) fun a_8=>ob (qgX ((beq a.1.1 800,a_4.1,a_5.1,a_6.1,a_7.1,a_1.1,a_3.1,a_8.1,()),())) fun a_9=>ob (sel (bnot (beq a_9.2.1 0)) (some (true,())) (ob (zV (a_9.1,x.1,())) fun a=>some (bnot a.1,()))) fun a_10=>sel a_10.1 (some ((false,0,0,0,0,none' UInt8,none' UInt8,0,()),2,())) (some ((beq a.1.1 800,a_4.1,a_5.1,a_6.1,a_7.1,a_1.1,a_3.1,a_8.1,()),0,())))
end Yp
namespace Yp
abbrev jF:=(Int×BB×Unit)×(Int×BB×Unit)×(Int×BB×Unit)×Int×Int×Unit
abbrev THub:=List Bool×List (BB×Int×Int×Unit)×List Int×Int×Unit
abbrev qa2:=Bool×List (BB×BB×Unit)×Bool×Unit
abbrev TAsk:=Int×Int×Int×Int×BB×Unit
abbrev jZ:=Bool×Int×Int×Int×Int×BB×BB×Int×Unit
abbrev TEnv:=Int×Int×List Int×Int×Int×BB×BB×Unit
abbrev TEnd:=Int×BB×Int×(BB×BB×Unit)×Int×Int×Int×Int×Int×(Int×List UInt64×Unit)×jF×TAsk×Int×Int×List BB×THub×List (Int×BB×Unit)×List (Int×List Int×Int×BB×Unit)×List Int×Unit
abbrev kG:=TEnd×qa2×Unit
end Yp
namespace Yp
abbrev Ta_:=kG×Unit
abbrev Tb_:=kG×Int×Unit
abbrev Tc_:=jF×Int×Unit
abbrev Td_:=Int×kG×Unit
abbrev Te_:=qa2×BB×BB×Unit
abbrev Tf_:=TEnv×Unit
abbrev Tg_:=jF×Unit
abbrev Th_:=kG×jZ×Unit
abbrev Ti_:=kG×kG×Unit
abbrev Tj_:=Int×jF×Unit
end Yp
namespace Yp
open Go
noncomputable def qdU (x:tf_):Option (tf_):=ck (rm 1 (ln x.1)) (some (x.1,()))
noncomputable def quA (x:Te_):Option (td_):=some (x.1.2.1.any fun e=>band (seq x.2.1 e.1) (seq x.2.2.1 e.2.1),())
noncomputable def vH (x:Int×List Int×Unit):Option (td_):=lc (loop (fun (x_1:ta_)=>sel (lt x_1.2.1 (len x.2.1)) (ck (inB x_1.2.1 (len x.2.1)) (ob (sel (lt (nth x.2.1 (nat x_1.2.1) 0) 0) (some (true,())) (some (lt x.1 (nth x.2.1 (nat x_1.2.1) 0),()))) fun a=>sel a.1 (some (LS.rt (false,()))) (some (LS.nx (x_1.1,i64 (iadd x_1.2.1 1),()))))) (some (LS.ex 0 (x_1.1,x_1.2.1,())))) (false,0,())) (fun (a:ta_)=>none) (fun (i:Nat) (a:ta_)=>ck (neb i 0) (some (true,()))) fun (r:td_)=>some r
noncomputable def kZ (x:TEnd×Unit):Option (tE_):=ob (vH (1,[x.1.1],())) fun a=>sel a.1 (ck (inB x.1.1 (ofn 2)) (ck (inB (i64 (isub 1 x.1.1)) (ofn 2)) (some (upd (upd [0,0] (nat x.1.1) x.1.2.2.2.2.2.1) (nat (i64 (isub 1 x.1.1))) x.1.2.2.2.2.2.2.1,())))) (some ([0,0],()))
noncomputable def qj8 (x:tf_):Option (td_):=ob (sel (le 1 (len x.1)) (some (le (len x.1) 900,())) (some (false,()))) fun a=>some (a.1,())
noncomputable def qaK (x:tl_):Option (tl_):=sel (beq x.1 0) (some (0,())) (sel (beq x.1 1) (some (1,())) (sel (beq x.1 2) (some (2,())) (sel (beq x.1 3) (some (3,())) (sel (beq x.1 4) (sel (beq x.1 4) (some (4,())) (sel (beq x.1 6) (some (5,())) (some (-1,())))) (sel (beq x.1 5) (some (4,())) (sel (beq x.1 6) (some (5,())) (some (-1,()))))))))
noncomputable def qd3 (x:tl_):Option (td_):=ob (qaK (x.1,())) fun a=>some (le 2 a.1,())
noncomputable def quF (x:THub×Unit):Option (THub×Int×Int×Unit):=lc (loop (fun (x_1:tF_)=>sel (lt x_1.2.2.1 4) (ck (inB (imod (i64 (iadd x.1.2.2.2.1 x_1.2.2.1)) 4) (ofn 4)) (sel (nth x.1.1 (nat (imod (i64 (iadd x.1.2.2.2.1 x_1.2.2.1)) 4)) false) (some (LS.rt ((x.1.1,x.1.2.1,x.1.2.2.1,imod (i64 (iadd (imod (i64 (iadd x.1.2.2.2.1 x_1.2.2.1)) 4) 1)) 4,x.1.2.2.2.2),imod (i64 (iadd x.1.2.2.2.1 x_1.2.2.1)) 4,0,()))) (some (LS.nx (x_1.1,x_1.2.1,i64 (iadd x_1.2.2.1 1),()))))) (some (LS.ex 0 (x_1.1,x_1.2.1,x_1.2.2.1,())))) (0,0,0,())) (fun (a:tF_)=>none) (fun (i:Nat) (a:tF_)=>ck (neb i 0) (some (x.1,0,11,()))) fun (r:THub×Int×Int×Unit)=>some r
noncomputable def qcO (x:te_):Option (td_):=ob (sel (le 0 x.1) (some (le x.1 x.2.1,())) (some (false,()))) fun a=>some (a.1,())
noncomputable def qkJ (x:Tf_):Option (td_):=ob (sel (bnot (beq x.1.1 1)) (some (bnot (beq x.1.1 2),())) (some (false,()))) fun a=>sel a.1 (some (false,())) (ck (inB 0 (ofn 2)) (ck (inB 1 (ofn 2)) (lc (loop (fun (x_1:ta_)=>sel (lt x_1.2.1 3) (ck (inB x_1.2.1 (ofn 3)) (ob (qcO (nth [nth x.1.2.2.1 (nat 0) 0,nth x.1.2.2.1 (nat 1) 0,x.1.2.2.2.2.1] (nat x_1.2.1) 0,4611686018427387904,())) fun a=>sel (bnot a.1) (some (LS.rt (false,()))) (some (LS.nx (x_1.1,i64 (iadd x_1.2.1 1),()))))) (some (LS.ex 0 (x_1.1,x_1.2.1,())))) (false,0,())) (fun (a:ta_)=>none) (fun (i:Nat) (a:ta_)=>ck (neb i 0) (ob (qcO (x.1.2.1,1,())) fun a=>ob (sel a.1 (ob (qcO (x.1.2.2.2.1,2147483647,())) fun a=>sel a.1 (sel (le 1 (len x.1.2.2.2.2.2.1)) (some (le (len x.1.2.2.2.2.2.1) 900,())) (some (false,()))) (some (false,()))) (some (false,()))) fun a=>some (a.1,()))) fun (r:td_)=>some r)))
noncomputable def qkK (x:Tf_):Option (tb_):=ob (qkJ (x.1,())) fun a=>sel (bnot a.1) (some (none' UInt8,1,())) (lc (loop (fun (x_1:tg_)=>sel (lt x_1.1 (len [x.1.1,x.1.2.1])) (ck (inB x_1.1 (len [x.1.1,x.1.2.1])) (ob (qaV (nth [x.1.1,x.1.2.1] (nat x_1.1) 0,1,())) fun a=>ck (rm 1 (nadd (ln x_1.2.1) (ln a.1))) (some (LS.nx (i64 (iadd x_1.1 1),app x_1.2.1 a.1,()))))) (some (LS.ex 0 (x_1.1,x_1.2.1,())))) (0,none' UInt8,())) (fun (a:tg_)=>none) (fun (i:Nat) (a:tg_)=>ck (neb i 0) (ck (inB 0 (ofn 2)) (ck (inB 1 (ofn 2)) (lc (loop (fun (x_1:tg_)=>sel (lt x_1.1 (len [nth x.1.2.2.1 (nat 0) 0,nth x.1.2.2.1 (nat 1) 0])) (ck (inB x_1.1 (len [nth x.1.2.2.1 (nat 0) 0,nth x.1.2.2.1 (nat 1) 0])) (ob (qaV (nth [nth x.1.2.2.1 (nat 0) 0,nth x.1.2.2.1 (nat 1) 0] (nat x_1.1) 0,8,())) fun a=>ck (rm 1 (nadd (ln x_1.2.1) (ln a.1))) (some (LS.nx (i64 (iadd x_1.1 1),app x_1.2.1 a.1,()))))) (some (LS.ex 0 (x_1.1,x_1.2.1,())))) (0,a.2.1,())) (fun (a:tg_)=>none) (fun (i:Nat) (a:tg_)=>ck (neb i 0) (lc (loop (fun (x_1:tg_)=>sel (lt x_1.1 (len [x.1.2.2.2.1])) (ck (inB x_1.1 (len [x.1.2.2.2.1])) (ob (qaV (nth [x.1.2.2.2.1] (nat x_1.1) 0,4,())) fun a=>ck (rm 1 (nadd (ln x_1.2.1) (ln a.1))) (some (LS.nx (i64 (iadd x_1.1 1),app x_1.2.1 a.1,()))))) (some (LS.ex 0 (x_1.1,x_1.2.1,())))) (0,a.2.1,())) (fun (a:tg_)=>none) (fun (i:Nat) (a:tg_)=>ck (neb i 0) (lc (loop (fun (x_1:tg_)=>sel (lt x_1.1 (len [x.1.2.2.2.2.1])) (ck (inB x_1.1 (len [x.1.2.2.2.2.1])) (ob (qaV (nth [x.1.2.2.2.2.1] (nat x_1.1) 0,8,())) fun a=>ck (rm 1 (nadd (ln x_1.2.1) (ln a.1))) (some (LS.nx (i64 (iadd x_1.1 1),app x_1.2.1 a.1,()))))) (some (LS.ex 0 (x_1.1,x_1.2.1,())))) (0,a.2.1,()))
 (fun (a:tg_)=>none) (fun (i:Nat) (a:tg_)=>ck (neb i 0) (ck (rm 1 (nadd (ln a.2.1) (ln x.1.2.2.2.2.2.1))) (some (app a.2.1 x.1.2.2.2.2.2.1,0,())))) fun (r:Unit)=>none)) fun (r:Unit)=>none)) fun (r:Unit)=>none)))) fun (r:Unit)=>none)
noncomputable def qd5 (x:tJ_):Option (td_):=sel (bnot (beq (len x.1) (len x.2.1))) (some (false,())) (lc (loop (fun (x_1:tQ_)=>sel (lt x_1.2.1 (len x.1)) (ck (inB x_1.2.1 (len x.1)) (ck (inB x_1.2.1 (len x.2.1)) (some (LS.nx (u8 (orI IntKind.u8 (n8 x_1.1) (n8 (u8 (xorI IntKind.u8 (n8 (nth x.1 (nat x_1.2.1) (u8 0))) (n8 (nth x.2.1 (nat x_1.2.1) (u8 0))))))),i64 (iadd x_1.2.1 1),()))))) (some (LS.ex 0 (x_1.1,x_1.2.1,())))) (u8 0,0,())) (fun (a:tQ_)=>none) (fun (i:Nat) (a:tQ_)=>ck (neb i 0) (some (beq (n8 a.1) (n8 (u8 0)),()))) fun (r:td_)=>some r)
noncomputable def zU (x:List (BB×BB×Unit)×Unit):Option (List (BB×BB×Unit)×Unit):=ck (band (inC 0 (len x.1) (len x.1)) (beq (len x.1) (len x.1))) (some (sub x.1 0 (len x.1),()))
noncomputable def qI (x:UInt32×Int×Unit):Option (UInt32×Unit):=some (u32 (orI IntKind.u32 (n32 (u32 (shlI IntKind.u32 (n32 x.1) (n64 (u64 (andI IntKind.u64 (n64 (u64 x.2.1)) (n64 (u64 31)))))))) (n32 (u32 (shrI IntKind.u32 (n32 x.1) (n64 (u64 (isub (n64 (u64 32)) (n64 (u64 (andI IntKind.u64 (n64 (u64 x.2.1)) (n64 (u64 31)))))))))))),())
noncomputable def qk9 (x:tf_):Option (tD_):=lc (loop (fun (x_1:th_)=>sel (lt x_1.1 64) (sel (lt x_1.1 16) (ck (inB (i64 (imul 4 x_1.1)) (len x.1)) (ck (inB (i64 (iadd (i64 (imul 4 x_1.1)) 1)) (len x.1)) (ck (inB (i64 (iadd (i64 (imul 4 x_1.1)) 2)) (len x.1)) (ck (inB (i64 (iadd (i64 (imul 4 x_1.1)) 3)) (len x.1)) (ck (inB x_1.1 (ofn 64)) (some (LS.nx (i64 (iadd x_1.1 1),upd x_1.2.1 (nat x_1.1) (u32 (orI IntKind.u32 (n32 (u32 (orI IntKind.u32 (n32 (u32 (orI IntKind.u32 (n32 (u32 (shlI IntKind.u32 (n32 (u32 (n8 (nth x.1 (nat (i64 (imul 4 x_1.1))) (u8 0))))) (n64 (u64 24))))) (n32 (u32 (shlI IntKind.u32 (n32 (u32 (n8 (nth x.1 (nat (i64 (iadd (i64 (imul 4 x_1.1)) 1))) (u8 0))))) (n64 (u64 16)))))))) (n32 (u32 (shlI IntKind.u32 (n32 (u32 (n8 (nth x.1 (nat (i64 (iadd (i64 (imul 4 x_1.1)) 2))) (u8 0))))) (n64 (u64 8)))))))) (n32 (u32 (n8 (nth x.1 (nat (i64 (iadd (i64 (imul 4 x_1.1)) 3))) (u8 0))))))),())))))))) (ck (inB (i64 (isub x_1.1 15)) (ofn 64)) (ck (inB (i64 (isub x_1.1 2)) (ofn 64)) (ob (qI (nth x_1.2.1 (nat (i64 (isub x_1.1 15))) (u32 0), -7,())) fun a=>ob (qI (nth x_1.2.1 (nat (i64 (isub x_1.1 15))) (u32 0), -18,())) fun a_1=>ob (qI (nth x_1.2.1 (nat (i64 (isub x_1.1 2))) (u32 0), -17,())) fun a_2=>ob (qI (nth x_1.2.1 (nat (i64 (isub x_1.1 2))) (u32 0), -19,())) fun a_3=>ck (inB (i64 (isub x_1.1 7)) (ofn 64)) (ck (inB (i64 (isub x_1.1 16)) (ofn 64)) (ck (inB x_1.1 (ofn 64)) (some (LS.nx (i64 (iadd x_1.1 1),upd x_1.2.1 (nat x_1.1) (u32 (iadd (n32 (u32 (iadd (n32 (u32 (iadd (n32 (u32 (xorI IntKind.u32 (n32 (u32 (xorI IntKind.u32 (n32 a_2.1) (n32 a_3.1)))) (n32 (u32 (shrI IntKind.u32 (n32 (nth x_1.2.1 (nat (i64 (isub x_1.1 2))) (u32 0))) (n64 (u64 10)))))))) (n32 (nth x_1.2.1 (nat (i64 (isub x_1.1 7))) (u32 0)))))) (n32 (u32 (xorI IntKind.u32 (n32 (u32 (xorI IntKind.u32 (n32 a.1) (n32 a_1.1)))) (n32 (u32
 (shrI IntKind.u32 (n32 (nth x_1.2.1 (nat (i64 (isub x_1.1 15))) (u32 0))) (n64 (u64 3))))))))))) (n32 (nth x_1.2.1 (nat (i64 (isub x_1.1 16))) (u32 0))))),()))))))))) (some (LS.ex 0 (x_1.1,x_1.2.1,())))) (0,[u32 0,u32 0,u32 0,u32 0,u32 0,u32 0,u32 0,u32 0,u32 0,u32 0,u32 0,u32 0,u32 0,u32 0,u32 0,u32 0,u32 0,u32 0,u32 0,u32 0,u32 0,u32 0,u32 0,u32 0,u32 0,u32 0,u32 0,u32 0,u32 0,u32 0,u32 0,u32 0,u32 0,u32 0,u32 0,u32 0,u32 0,u32 0,u32 0,u32 0,u32 0,u32 0,u32 0,u32 0,u32 0,u32 0,u32 0,u32 0,u32 0,u32 0,u32 0,u32 0,u32 0,u32 0,u32 0,u32 0,u32 0,u32 0,u32 0,u32 0,u32 0,u32 0,u32 0,u32 0],())) (fun (a:th_)=>none) (fun (i:Nat) (a:th_)=>ck (neb i 0) (some (a.2.1,()))) fun (r:tD_)=>some r
noncomputable def qiZ (x:List UInt32×BB×Unit):Option (tO_):=sel (bnot (beq (len x.2.1) 64)) (some (x.1,1,())) (ob (qk9 (x.2.1,())) fun a=>lc (loop (fun (x:th_)=>sel (lt x.1 64) (ck (inB x.1 (ofn 64)) (ck (inB 0 (ofn 8)) (ck (inB 4 (ofn 8)) (ob (qI (nth x.2.1 (nat 4) (u32 0), -6,())) fun a_1=>ob (qI (nth x.2.1 (nat 4) (u32 0), -11,())) fun a_2=>ob (qI (nth x.2.1 (nat 4) (u32 0), -25,())) fun a_3=>ob (qI (nth x.2.1 (nat 0) (u32 0), -2,())) fun a_4=>ob (qI (nth x.2.1 (nat 0) (u32 0), -13,())) fun a_5=>ob (qI (nth x.2.1 (nat 0) (u32 0), -22,())) fun a_6=>ck (inB 7 (ofn 8)) (ck (inB 5 (ofn 8)) (ck (inB 6 (ofn 8)) (ck (inB x.1 (ofn 64)) (ck (inB 1 (ofn 8)) (ck (inB 2 (ofn 8)) (ck (inB 1 (ofn 8)) (ck (inB 2 (ofn 8)) (ck (inC 1 (ofn 8) (ofn 8)) (ck (inC 0 7 (ofn 8)) (ck (inB 4 (ofn 8)) (ck (inB 4 (ofn 8)) (ck (inB 0 (ofn 8)) (some (LS.nx (i64 (iadd x.1 1),upd (upd (cpy x.2.1 (nat 1) (nsub (nat (ofn 8)) (nat 1)) (cut x.2.1 (nat 0) (nsub (nat 7) (nat 0)))) (nat 4) (u32 (iadd (n32 (nth (cpy x.2.1 (nat 1) (nsub (nat (ofn 8)) (nat 1)) (cut x.2.1 (nat 0) (nsub (nat 7) (nat 0)))) (nat 4) (u32 0))) (n32 (u32 (iadd (n32 (u32 (iadd (n32 (u32 (iadd (n32 (u32 (iadd (n32 (nth x.2.1 (nat 7) (u32 0))) (n32 (u32 (xorI IntKind.u32 (n32 (u32 (xorI IntKind.u32 (n32 a_1.1) (n32 a_2.1)))) (n32 a_3.1))))))) (n32 (u32 (xorI IntKind.u32 (n32 (u32 (andI IntKind.u32 (n32 (nth x.2.1 (nat 4) (u32 0))) (n32 (nth x.2.1 (nat 5) (u32 0)))))) (n32 (u32 (andI IntKind.u32 (n32 (u32 (xorI IntKind.u32 4294967295 (n32 (nth x.2.1 (nat 4) (u32 0)))))) (n32 (nth x.2.1 (nat 6) (u32 0)))))))))))) (n32 (nth (nth [qiU] 0 [u32 0,u32 0,u32 0,u32 0,u32 0,u32 0,u32 0,u32 0,u32 0,u32 0,u32 0,u32 0,u32 0,u32 0,u32 0,u32 0,u32 0,u32 0,u32 0,u32 0,u32 0,u32 0,u32 0,u32 0,u32 0,u32
 0,u32 0,u32 0,u32 0,u32 0,u32 0,u32 0,u32 0,u32 0,u32 0,u32 0,u32 0,u32 0,u32 0,u32 0,u32 0,u32 0,u32 0,u32 0,u32 0,u32 0,u32 0,u32 0,u32 0,u32 0,u32 0,u32 0,u32 0,u32 0,u32 0,u32 0,u32 0,u32 0,u32 0,u32 0,u32 0,u32 0,u32 0,u32 0]) (nat x.1) (u32 0)))))) (n32 (nth a.1 (nat x.1) (u32 0))))))))) (nat 0) (u32 (iadd (n32 (u32 (iadd (n32 (u32 (iadd (n32 (u32 (iadd (n32 (u32 (iadd (n32 (nth x.2.1 (nat 7) (u32 0))) (n32 (u32 (xorI IntKind.u32 (n32 (u32 (xorI IntKind.u32 (n32 a_1.1) (n32 a_2.1)))) (n32 a_3.1))))))) (n32 (u32 (xorI IntKind.u32 (n32 (u32 (andI IntKind.u32 (n32 (nth x.2.1 (nat 4) (u32 0))) (n32 (nth x.2.1 (nat 5) (u32 0)))))) (n32 (u32 (andI IntKind.u32 (n32 (u32 (xorI IntKind.u32 4294967295 (n32 (nth x.2.1 (nat 4) (u32 0)))))) (n32 (nth x.2.1 (nat 6) (u32 0)))))))))))) (n32 (nth (nth [qiU] 0 [u32 0,u32 0,u32 0,u32 0,u32 0,u32 0,u32 0,u32 0,u32 0,u32 0,u32 0,u32 0,u32 0,u32 0,u32 0,u32 0,u32 0,u32 0,u32 0,u32 0,u32 0,u32 0,u32 0,u32 0,u32 0,u32 0,u32 0,u32 0,u32 0,u32 0,u32 0,u32 0,u32 0,u32 0,u32 0,u32 0,u32 0,u32 0,u32 0,u32 0,u32 0,u32 0,u32 0,u32 0,u32 0,u32 0,u32 0,u32 0,u32 0,u32 0,u32 0,u32 0,u32 0,u32 0,u32 0,u32 0,u32 0,u32 0,u32 0,u32 0,u32 0,u32 0,u32 0,u32 0]) (nat x.1) (u32 0)))))) (n32 (nth a.1 (nat x.1) (u32 0)))))) (n32 (u32 (iadd (n32 (u32 (xorI IntKind.u32 (n32 (u32 (xorI IntKind.u32 (n32 a_4.1) (n32 a_5.1)))) (n32 a_6.1)))) (n32 (u32 (xorI IntKind.u32 (n32 (u32 (xorI IntKind.u32 (n32 (u32 (andI IntKind.u32 (n32 (nth x.2.1 (nat 0) (u32 0))) (n32 (nth x.2.1 (nat 1) (u32 0)))))) (n32 (u32 (andI IntKind.u32 (n32 (nth x.2.1 (nat 0) (u32 0))) (n32 (nth x.2.1 (nat 2) (u32 0))))))))) (n32 (u32 (andI IntKind.u32 (n32 (nth x.2.1 (nat 1) (u32 0))) (n32 (nth x.2.1 (nat 2) (u32 0)))))))))))))),()))))))))))))))))))) (some (LS.ex 0 (x.1,x.2.1,())))) (0,x.1,())) (fun (a:th_)=>none) (fun (i:Nat) (a:Int×List UInt32 ×
 Unit)=>ck (neb i 0) (lc (loop (fun (x:th_)=>sel (lt x.1 8) (ck (inB x.1 (ofn 8)) (ck (inB x.1 (ofn 8)) (ck (inB x.1 (ofn 8)) (some (LS.nx (i64 (iadd x.1 1),upd x.2.1 (nat x.1) (u32 (iadd (n32 (nth x.2.1 (nat x.1) (u32 0))) (n32 (nth a.2.1 (nat x.1) (u32 0))))),())))))) (some (LS.ex 2 (x.1,x.2.1,())))) (0,x.1,())) (fun (a:th_)=>none) (fun (i:Nat) (a:th_)=>ck (neb i 2) (some (a.2.1,0,()))) fun (r:tO_)=>some r)) fun (r:tO_)=>some r)
noncomputable def qgQ (x:tI_):Option (tk_):=sel (lt (i64 (isub 1125899906842624 x.1.2.1)) (len x.2.1)) (some (x.1,())) (ck (band (inC 0 (i64 (iadd (len x.1.2.2.1) (len x.2.1))) (i64 (iadd (len x.1.2.2.1) (len x.2.1)))) (rm 1 (nat (i64 (iadd (len x.1.2.2.1) (len x.2.1)))))) (ck (inC (len x.1.2.2.1) (len (cpy (rep (nat (i64 (iadd (len x.1.2.2.1) (len x.2.1)))) (u8 0)) 0 (ln (rep (nat (i64 (iadd (len x.1.2.2.1) (len x.2.1)))) (u8 0))) x.1.2.2.1)) (len (cpy (rep (nat (i64 (iadd (len x.1.2.2.1) (len x.2.1)))) (u8 0)) 0 (ln (rep (nat (i64 (iadd (len x.1.2.2.1) (len x.2.1)))) (u8 0))) x.1.2.2.1))) (lc (loop (fun (x:tA_)=>sel (le 64 (len x.1)) (ck (inC 0 64 (len x.1)) (ob (qiZ (x.2.1.1,cut x.1 (nat 0) (nsub (nat 64) (nat 0)),())) fun a=>ck (inC 64 (len x.1) (len x.1)) (some (LS.nx (cut x.1 (nat 64) (nsub (nat (len x.1)) (nat 64)),(a.1,x.2.1.2),()))))) (some (LS.ex 0 (x.1,x.2.1,())))) (cpy (cpy (rep (nat (i64 (iadd (len x.1.2.2.1) (len x.2.1)))) (u8 0)) 0 (ln (rep (nat (i64 (iadd (len x.1.2.2.1) (len x.2.1)))) (u8 0))) x.1.2.2.1) (nat (len x.1.2.2.1)) (nsub (nat (len (cpy (rep (nat (i64 (iadd (len x.1.2.2.1) (len x.2.1)))) (u8 0)) 0 (ln (rep (nat (i64 (iadd (len x.1.2.2.1) (len x.2.1)))) (u8 0))) x.1.2.2.1))) (nat (len x.1.2.2.1))) x.2.1,(x.1.1,i64 (iadd x.1.2.1 (len x.2.1)),x.1.2.2),())) (fun (a:tA_)=>none) (fun (i:Nat) (a:tA_)=>ck (neb i 0) (some ((a.2.1.1,a.2.1.2.1,a.1,a.2.1.2.2.2),()))) fun (r:tk_)=>some r)))
noncomputable def quZ (x:Unit):Option (tk_):=some (([u32 1779033703,u32 3144134277,u32 1013904242,u32 2773480762,u32 1359893119,u32 2600822924,u32 528734635,u32 1541459225],0,none' UInt8,()),())
noncomputable def qnD (x:tk_):Option (tf_):=ck (band (inC 0 0 128) (rm 1 (nat 128))) (ck (rm 1 (nadd (ln (rep (nat 0) (u8 0))) (ln x.1.2.2.1))) (ck (rm 1 (nadd (ln (app (rep (nat 0) (u8 0)) x.1.2.2.1)) (ln [u8 128]))) (lc (loop (fun (x:tf_)=>sel (bnot (beq (imod (len x.1) 64) 56)) (ck (rm 1 (nadd (ln x.1) (ln [u8 0]))) (some (LS.nx (app x.1 [u8 0],())))) (some (LS.ex 0 (x.1,())))) (app (app (rep (nat 0) (u8 0)) x.1.2.2.1) [u8 128],())) (fun (a:tf_)=>none) (fun (i:Nat) (a:tf_)=>ck (neb i 0) (lc (loop (fun (x_1:tb_)=>sel (le 0 x_1.2.1) (ck (le 0 x_1.2.1) (ck (rm 1 (nadd (ln x_1.1) (ln [u8 (shrI IntKind.i64 (i64 (imul 8 x.1.2.1)) x_1.2.1)]))) (some (LS.nx (app x_1.1 [u8 (shrI IntKind.i64 (i64 (imul 8 x.1.2.1)) x_1.2.1)],i64 (isub x_1.2.1 8),()))))) (some (LS.ex 2 (x_1.1,x_1.2.1,())))) (a.1,56,())) (fun (a:tb_)=>none) (fun (i:Nat) (a:tb_)=>ck (neb i 2) (lc (loop (fun (x:tR_)=>sel (lt 0 (len x.1)) (ck (inC 0 64 (len x.1)) (ob (qiZ (x.2.1,cut x.1 (nat 0) (nsub (nat 64) (nat 0)),())) fun a=>ck (inC 64 (len x.1) (len x.1)) (some (LS.nx (cut x.1 (nat 64) (nsub (nat (len x.1)) (nat 64)),a.1,()))))) (some (LS.ex 4 (x.1,x.2.1,())))) (a.1,x.1.1,())) (fun (a:tR_)=>none) (fun (i:Nat) (a:tR_)=>ck (neb i 4) (ck (band (inC 0 0 32) (rm 1 (nat 32))) (lc (loop (fun (x:tb_)=>sel (lt x.2.1 8) (ck (inB x.2.1 (ofn 8)) (ck (rm 1 (nadd (ln x.1) (ln [u8 (n32 (u32 (shrI IntKind.u32 (n32 (nth a.2.1 (nat x.2.1) (u32 0))) (n64 (u64 24))))),u8 (n32 (u32 (shrI IntKind.u32 (n32 (nth a.2.1 (nat x.2.1) (u32 0))) (n64 (u64 16))))),u8 (n32 (u32 (shrI IntKind.u32 (n32 (nth a.2.1 (nat x.2.1) (u32 0))) (n64 (u64 8))))),u8 (n32 (nth a.2.1 (nat x.2.1) (u32 0)))])))
 (some (LS.nx (app x.1 [u8 (n32 (u32 (shrI IntKind.u32 (n32 (nth a.2.1 (nat x.2.1) (u32 0))) (n64 (u64 24))))),u8 (n32 (u32 (shrI IntKind.u32 (n32 (nth a.2.1 (nat x.2.1) (u32 0))) (n64 (u64 16))))),u8 (n32 (u32 (shrI IntKind.u32 (n32 (nth a.2.1 (nat x.2.1) (u32 0))) (n64 (u64 8))))),u8 (n32 (nth a.2.1 (nat x.2.1) (u32 0)))],i64 (iadd x.2.1 1),()))))) (some (LS.ex 6 (x.1,x.2.1,())))) (rep (nat 0) (u8 0),0,())) (fun (a:tb_)=>none) (fun (i:Nat) (a:tb_)=>ck (neb i 6) (some (a.1,()))) fun (r:tf_)=>some r))) fun (r:tf_)=>some r)) fun (r:tf_)=>some r)) fun (r:tf_)=>some r)))
noncomputable def qGG (x:tf_):Option (tf_):=ob (quZ ()) fun a=>ob (qgQ (a.1,x.1,())) fun a=>ob (qnD (a.1,())) fun a=>some (a.1,())
noncomputable def qpJ (x:tf_):Option (tf_):=ck (band (inC 0 64 64) (rm 1 (nat 64))) (sel (lt 64 (len x.1)) (ob (qGG (x.1,())) fun a=>some (cpy (rep (nat 64) (u8 0)) 0 (ln (rep (nat 64) (u8 0))) a.1,())) (some (cpy (rep (nat 64) (u8 0)) 0 (ln (rep (nat 64) (u8 0))) x.1,())))
noncomputable def qrH (x:tJ_):Option (tf_):=ob (qpJ (x.1,())) fun a=>ck (band (inC 0 64 64) (rm 1 (nat 64))) (lc (loop (fun (x:tg_)=>sel (lt x.1 (len a.1)) (ck (inB x.1 (len a.1)) (ck (inB x.1 (len x.2.1)) (some (LS.nx (i64 (iadd x.1 1),upd x.2.1 (nat x.1) (u8 (xorI IntKind.u8 (n8 (nth a.1 (nat x.1) (u8 0))) (n8 (u8 92)))),()))))) (some (LS.ex 0 (x.1,x.2.1,())))) (0,rep (nat 64) (u8 0),())) (fun (a:tg_)=>none) (fun (i:Nat) (a_1:tg_)=>ck (neb i 0) (ob (quZ ()) fun a_2=>ob (qgQ (a_2.1,a_1.2.1,())) fun a_3=>ck (band (inC 0 64 64) (rm 1 (nat 64))) (lc (loop (fun (x:tg_)=>sel (lt x.1 (len a.1)) (ck (inB x.1 (len a.1)) (ck (inB x.1 (len x.2.1)) (some (LS.nx (i64 (iadd x.1 1),upd x.2.1 (nat x.1) (u8 (xorI IntKind.u8 (n8 (nth a.1 (nat x.1) (u8 0))) (n8 (u8 54)))),()))))) (some (LS.ex 0 (x.1,x.2.1,())))) (0,rep (nat 64) (u8 0),())) (fun (a:tg_)=>none) (fun (i:Nat) (a:tg_)=>ck (neb i 0) (ob (quZ ()) fun a_4=>ob (qgQ (a_4.1,a.2.1,())) fun a=>ob (qgQ (a.1,x.2.1,())) fun a=>ob (qnD (a.1,())) fun a=>ob (qgQ (a_3.1,a.1,())) fun a=>ob (qnD (a.1,())) fun a=>some (a.1,()))) fun (r:Unit)=>none))) fun (r:Unit)=>none)
noncomputable def qfZ (x:tJ_):Option (tf_):=ob (qrH (x.1,x.2.1,())) fun a=>ck (inC 0 16 (len a.1)) (some (cut a.1 (nat 0) (nsub (nat 16) (nat 0)),()))
noncomputable def qt9 (x:Te_):Option (qa2×BB×Unit):=ob (quA (x.1,x.2.1,x.2.2.1,())) fun a=>sel (bnot a.1) (ob (zU (x.1.2.1,())) fun a=>ob (qdU (x.2.1,())) fun a_1=>ob (qdU (x.2.2.1,())) fun a_2=>ck (rm 56 (nadd (ln a.1) (ln [(a_1.1,a_2.1,())]))) (ob (qfZ (x.2.1,x.2.2.1,())) fun a_3=>some ((x.1.1,app a.1 [(a_1.1,a_2.1,())],x.1.2.2),a_3.1,()))) (ob (qfZ (x.2.1,x.2.2.1,())) fun a=>some (x.1,a.1,()))
noncomputable def qp1 (x:Tf_):Option (td_):=ob (qkJ (x.1,())) fun a=>ob (sel a.1 (some (beq (len x.1.2.2.2.2.2.2.1) 16,())) (some (false,()))) fun a=>some (a.1,())
noncomputable def qp0 (x:Tf_):Option (tb_):=ob (qp1 (x.1,())) fun a=>sel (bnot a.1) (some (none' UInt8,1,())) (ob (qkK (x.1,())) fun a=>ck (rm 1 (nadd (ln a.1) (ln x.1.2.2.2.2.2.2.1))) (some (app a.1 x.1.2.2.2.2.2.2.1,0,())))
noncomputable def ql8 (x:tf_):Option (tb_):=ob (sel (lt (len x.1) 1) (some (true,())) (some (lt 1024 (len x.1),()))) fun a=>sel a.1 (some (none' UInt8,1,())) (ck (rm 1 (nadd (ln [u8 (shrI IntKind.i64 (len x.1) (n64 (u64 8))),u8 (len x.1)]) (ln x.1))) (some (app [u8 (shrI IntKind.i64 (len x.1) (n64 (u64 8))),u8 (len x.1)] x.1,0,())))
noncomputable def z0 (x:tn_):Option (tn_):=ck (band (inC 0 (len x.1) (len x.1)) (beq (len x.1) (len x.1))) (some (sub x.1 0 (len x.1),()))
noncomputable def qj9 (x:kG×TEnv×BB×Unit):Option (Tb_):=ob (quF (x.1.1.2.2.2.2.2.2.2.2.2.2.2.2.2.2.2.1,())) fun a=>sel (bnot (beq a.2.2.1 0)) (some (x.1,a.2.2.1,())) (ob (qkK (x.2.1,())) fun a_1=>ob (qt9 (x.1.2.1,x.2.2.1,a_1.1,())) fun a_2=>ob (qp0 ((x.2.1.1,x.2.1.2.1,x.2.1.2.2.1,x.2.1.2.2.2.1,x.2.1.2.2.2.2.1,x.2.1.2.2.2.2.2.1,a_2.2.1,x.2.1.2.2.2.2.2.2.2),())) fun a_3=>ob (ql8 (a_3.1,())) fun a_4=>ob (z0 (x.1.1.2.2.2.2.2.2.2.2.2.2.2.2.2.2.2.2.1,())) fun a_5=>ck (rm 56 (nadd (ln a_5.1) (ln [(a.2.1,a_4.1,())]))) (some (((x.1.1.1,x.1.1.2.1,x.1.1.2.2.1,x.1.1.2.2.2.1,x.1.1.2.2.2.2.1,x.1.1.2.2.2.2.2.1,x.1.1.2.2.2.2.2.2.1,x.1.1.2.2.2.2.2.2.2.1,x.1.1.2.2.2.2.2.2.2.2.1,x.1.1.2.2.2.2.2.2.2.2.2.1,x.1.1.2.2.2.2.2.2.2.2.2.2.1,x.1.1.2.2.2.2.2.2.2.2.2.2.2.1,x.1.1.2.2.2.2.2.2.2.2.2.2.2.2.1,x.1.1.2.2.2.2.2.2.2.2.2.2.2.2.2.1,x.1.1.2.2.2.2.2.2.2.2.2.2.2.2.2.2.1,a.1,app a_5.1 [(a.2.1,a_4.1,())],x.1.1.2.2.2.2.2.2.2.2.2.2.2.2.2.2.2.2.2),a_2.1,x.1.2.2),0,())))
noncomputable def j6 (x:kG×BB×Unit):Option (Tb_):=ob (qj8 (x.2.1,())) fun a=>sel (bnot a.1) (some (x.1,1,())) (ob (qd3 (x.1.1.2.2.1,())) fun a=>sel (bnot a.1) (some (x.1,7,())) (sel (beq x.1.1.2.2.2.2.2.2.2.2.1 4611686018427387904) (some (x.1,10,())) (ob (kZ (x.1.1,())) fun a=>ob (qj9 (x.1,(2,x.1.1.1,a.1,x.1.1.2.2.2.2.2.2.2.2.2.2.1.1.1,x.1.1.2.2.2.2.2.2.2.2.1,x.2.1,none' UInt8,()),x.1.1.2.2.2.2.2.2.2.2.2.2.1.1.2.1,())) fun a=>sel (beq a.2.1 0) (some (((a.1.1.1,a.1.1.2.1,a.1.1.2.2.1,a.1.1.2.2.2.1,a.1.1.2.2.2.2.1,a.1.1.2.2.2.2.2.1,a.1.1.2.2.2.2.2.2.1,a.1.1.2.2.2.2.2.2.2.1,i64 (iadd a.1.1.2.2.2.2.2.2.2.2.1 1),a.1.1.2.2.2.2.2.2.2.2.2),a.1.2),a.2.1,())) (some (a.1,a.2.1,())))))
noncomputable def quJ (x:tl_):Option (tl_):=ob (sel (lt x.1 0) (some (true,())) (some (le 999999 x.1,()))) fun a=>sel a.1 (some (1,())) (some (i64 (iadd x.1 1),()))
noncomputable def qqP (x:tl_):Option (td_):=sel (beq x.1 1) (sel (beq x.1 1) (some (true,())) (some (false,()))) (sel (beq x.1 2) (sel (beq x.1 2) (some (true,())) (some (false,()))) (sel (beq x.1 101) (sel (beq x.1 101) (some (true,())) (some (false,()))) (sel (beq x.1 201) (sel (beq x.1 201) (some (true,())) (some (false,()))) (sel (beq x.1 301) (some (true,())) (some (false,()))))))
noncomputable def quI (x:tu_):Option (td_):=ob (qqP (x.1,())) fun a=>ob (sel a.1 (sel (le 1 x.2.1) (sel (le x.2.1 999999) (sel (le 1 (len x.2.2.1)) (some (le (len x.2.2.1) 900,())) (some (false,()))) (some (false,()))) (some (false,()))) (some (false,()))) fun a=>some (a.1,())
noncomputable def qqQ (x:tu_):Option (TAsk×Int×Unit):=ob (quI (x.1,x.2.1,x.2.2.1,())) fun a=>sel (bnot a.1) (some ((0,0,0,0,none' UInt8,()),1,())) (some ((x.1,x.2.1,8,3,x.2.2.1,()),0,()))
noncomputable def qf7 (x:BB×BB×List BB×Unit):Option (tb_):=ob (sel (lt 255 (len x.2.1)) (some (true,())) (some (lt 16 (len x.2.2.1),()))) fun a=>sel a.1 (some (none' UInt8,1,())) (ck (rm 1 (nadd (ln [u8 (len x.2.1)]) (ln x.2.1))) (lc (loop (fun (x_1:tx_)=>sel (lt x_1.2.2.1 (len x.2.2.1)) (ck (inB x_1.2.2.1 (len x.2.2.1)) (sel (lt 65535 (len (nth x.2.2.1 (nat x_1.2.2.1) (none' UInt8)))) (some (LS.rt (none' UInt8,1,()))) (ck (rm 1 (nadd (ln x_1.2.1) (ln [u8 (shrI IntKind.i64 (len (nth x.2.2.1 (nat x_1.2.2.1) (none' UInt8))) (n64 (u64 8))),u8 (len (nth x.2.2.1 (nat x_1.2.2.1) (none' UInt8)))]))) (ck (rm 1 (nadd (ln (app x_1.2.1 [u8 (shrI IntKind.i64 (len (nth x.2.2.1 (nat x_1.2.2.1) (none' UInt8))) (n64 (u64 8))),u8 (len (nth x.2.2.1 (nat x_1.2.2.1) (none' UInt8)))])) (ln (nth x.2.2.1 (nat x_1.2.2.1) (none' UInt8))))) (some (LS.nx (x_1.1,app (app x_1.2.1 [u8 (shrI IntKind.i64 (len (nth x.2.2.1 (nat x_1.2.2.1) (none' UInt8))) (n64 (u64 8))),u8 (len (nth x.2.2.1 (nat x_1.2.2.1) (none' UInt8)))]) (nth x.2.2.1 (nat x_1.2.2.1) (none' UInt8)),i64 (iadd x_1.2.2.1 1),()))))))) (some (LS.ex 0 (x_1.1,x_1.2.1,x_1.2.2.1,())))) (0,app [u8 (len x.2.1)] x.2.1,0,())) (fun (a:tx_)=>none) (fun (i:Nat) (a:tx_)=>ck (neb i 0) (ob (qrH (x.1,a.2.1,())) fun a=>some (a.1,0,()))) fun (r:tb_)=>some r))
noncomputable def qkA (x:tf_):Option (tf_):=ob (qf7 (x.1,[98,97,115,101],none' BB,())) fun a=>some (a.1,())
noncomputable def ql3 (x:kG×Int×BB×Unit):Option (Tb_):=ob (vH (4611686018427387904,[x.2.1],())) fun a=>ob (sel (bnot a.1) (some (true,())) (ob (qj8 (x.2.2.1,())) fun a=>some (bnot a.1,()))) fun a=>sel a.1 (some (x.1,1,())) (ob (kZ ((x.1.1.1,x.1.1.2.1,x.1.1.2.2.1,x.1.1.2.2.2.1,x.1.1.2.2.2.2.1,x.1.1.2.2.2.2.2.1,x.2.1,x.1.1.2.2.2.2.2.2.2),())) fun a=>ob (qkA (x.1.1.2.1,())) fun a_1=>ob (qj9 (x.1,(1,x.1.1.1,a.1,0,0,x.2.2.1,none' UInt8,()),a_1.1,())) fun a=>some (a.1,a.2.1,()))
noncomputable def kI (x:Th_):Option (Ta_):=ob (quJ (x.1.1.2.2.2.2.2.2.2.2.2.2.2.2.1,())) fun a=>ob (xD ((x.2.1.1,x.2.1.2.1,a.1,x.2.1.2.2.2),())) fun a_1=>ob (qqQ (x.2.1.2.1,a.1,a_1.1,())) fun a_2=>ob (sel (bnot (beq a_1.2.1 0)) (some (true,())) (some (bnot (beq a_2.2.1 0),()))) fun a_3=>sel a_3.1 (some (x.1,())) (sel (beq x.2.1.2.1 1) (ob (ql3 (((x.1.1.1,x.1.1.2.1,x.1.1.2.2.1,x.1.1.2.2.2.1,x.1.1.2.2.2.2.1,x.1.1.2.2.2.2.2.1,x.1.1.2.2.2.2.2.2.1,x.1.1.2.2.2.2.2.2.2.1,x.1.1.2.2.2.2.2.2.2.2.1,x.1.1.2.2.2.2.2.2.2.2.2.1,x.1.1.2.2.2.2.2.2.2.2.2.2.1,a_2.1,a.1,x.1.1.2.2.2.2.2.2.2.2.2.2.2.2.2),x.1.2),0,a_1.1,())) fun a=>some (a.1,())) (ob (j6 (((x.1.1.1,x.1.1.2.1,x.1.1.2.2.1,x.1.1.2.2.2.1,x.1.1.2.2.2.2.1,x.1.1.2.2.2.2.2.1,x.1.1.2.2.2.2.2.2.1,x.1.1.2.2.2.2.2.2.2.1,x.1.1.2.2.2.2.2.2.2.2.1,x.1.1.2.2.2.2.2.2.2.2.2.1,x.1.1.2.2.2.2.2.2.2.2.2.2.1,a_2.1,a.1,x.1.1.2.2.2.2.2.2.2.2.2.2.2.2.2),x.1.2),a_1.1,())) fun a=>some (a.1,())))
noncomputable def qaL (x:tl_):Option (td_):=ob (qaK (x.1,())) fun a=>ob (sel (beq a.1 3) (some (true,())) (ob (qaK (x.1,())) fun a=>some (beq a.1 4,()))) fun a=>some (a.1,())
noncomputable def qi3 (x:tG_):Option (td_):=ob (sel (beq x.1.1 0) (some (beq (len x.1.2.1) 0,())) (some (false,()))) fun a=>some (a.1,())
noncomputable def qgU (x:(jF×Unit)×Unit):Option (tn_):=some ([x.1.1.1,x.1.1.2.1,x.1.1.2.2.1],())
noncomputable def v4 (x:(jF×Unit)×Unit):Option (td_):=ob (qgU (x.1,())) fun a=>lc (loop (fun (x:ta_)=>sel (lt x.2.1 3) (ck (inB x.2.1 (ofn 3)) (ob (qi3 (nth a.1 (nat x.2.1) (0,none' UInt8,()),())) fun a=>sel (bnot a.1) (some (LS.rt (false,()))) (some (LS.nx (x.1,i64 (iadd x.2.1 1),()))))) (some (LS.ex 0 (x.1,x.2.1,())))) (false,0,())) (fun (a:ta_)=>none) (fun (i:Nat) (a:ta_)=>ck (neb i 0) (ob (sel (beq x.1.1.2.2.2.1 0) (some (beq x.1.1.2.2.2.2.1 0,())) (some (false,()))) fun a=>some (a.1,()))) fun (r:td_)=>some r
noncomputable def qoQ (x:Tg_):Option (te_):=ob (v4 ((x.1,()),())) fun a=>sel a.1 (some (0,9,())) (sel (beq x.1.2.2.2.2.1 2147483647) (some (0,10,())) (some (i64 (iadd x.1.2.2.2.2.1 1),0,())))
noncomputable def vC (x:Ta_):Option (((TEnd×Unit)×kG×Unit)×Unit):=some (((x.1.1,()),x.1,()),())
noncomputable def qpL (x:BB×List Int×Int×BB×Unit):Option (tf_):=ck (inB 0 (ofn 2)) (ck (inB 1 (ofn 2)) (ob (vH (4611686018427387904,[nth x.2.1 (nat 0) 0,nth x.2.1 (nat 1) 0],())) fun a=>sel (bnot a.1) (some (none' UInt8,())) (ob (vH (2147483647,[x.2.2.1],())) fun a=>sel (bnot a.1) (some (none' UInt8,())) (ck (inB 0 (ofn 2)) (ob (qaV (nth x.2.1 (nat 0) 0,8,())) fun a=>ck (inB 1 (ofn 2)) (ob (qaV (nth x.2.1 (nat 1) 0,8,())) fun a_1=>ob (qaV (x.2.2.1,4,())) fun a_2=>ob (qf7 (x.1,[108,105,110,107],[a.1,a_1.1,a_2.1,x.2.2.2.1],())) fun a=>some (a.1,())))))))
noncomputable def xS (x:(TEnd×Unit)×Int×BB×Unit):Option (tf_):=ob (kZ (x.1.1,())) fun a=>ob (qpL (x.1.1.2.1,a.1,x.2.1,x.2.2.1,())) fun a=>some (a.1,())
noncomputable def qoO (x:tG_):Option (td_):=ob (sel (le 1 x.1.1) (sel (le x.1.1 2147483647) (some (beq (len x.1.2.1) 32,())) (some (false,()))) (some (false,()))) fun a=>some (a.1,())
noncomputable def qcH (x:jF×Int×BB×Unit):Option (Tc_):=ob (qoO ((x.2.1,x.2.2.1,()),())) fun a=>sel (bnot a.1) (some (x.1,1,())) (ob (v4 ((x.1,()),())) fun a=>ob (sel a.1 (some (true,())) (sel (le x.2.1 x.1.1.1) (some (true,())) (some (lt x.2.1 x.1.2.2.1.1,())))) fun a=>sel a.1 (some (x.1,9,())) (some ((x.1.1,x.1.2.1,(x.2.1,x.2.2.1,()),x.1.2.2.2.1,maxI x.1.2.2.2.2.1 x.2.1,x.1.2.2.2.2.2),0,())))
noncomputable def kN (x:te_):Option (tS_):=ob (qaK (x.1,())) fun a=>ob (sel (beq x.1 8) (some (beq x.2.1 11,())) (some (false,()))) fun a_1=>sel a_1.1 (some (0,true,())) (ob (sel (beq x.1 8) (some (beq x.2.1 12,())) (some (false,()))) fun a_2=>sel a_2.1 (some (7,true,())) (ob (sel (beq x.2.1 10) (sel (le 0 a.1) (some (true,())) (some (beq x.1 7,()))) (some (false,()))) fun a_3=>sel a_3.1 (some (8,true,())) (ob (sel (beq x.2.1 0) (some (le 0 a.1,())) (some (false,()))) fun a_4=>sel a_4.1 (some (1,true,())) (ob (sel (beq x.2.1 2) (some (le 0 a.1,())) (some (false,()))) fun a_5=>sel a_5.1 (some (2,true,())) (sel (beq a.1 1) (sel (sel (beq x.2.1 1) true (sel (beq x.2.1 4) true (sel (beq x.2.1 9) true false))) (some (sel (beq x.2.1 1) 3 (sel (beq x.2.1 4) 0 (sel (beq x.2.1 9) 0 0)),true,())) (some (x.1,false,()))) (sel (beq a.1 2) (sel (sel (beq x.2.1 3) true (sel (beq x.2.1 4) true false)) (some (sel (beq x.2.1 3) 3 (sel (beq x.2.1 4) 0 0),true,())) (some (x.1,false,()))) (sel (beq a.1 3) (sel (sel (beq x.2.1 4) true (sel (beq x.2.1 5) true (sel (beq x.2.1 6) true (sel (beq x.2.1 7) true (sel (beq x.2.1 9) true false))))) (some (sel (beq x.2.1 4) 6 (sel (beq x.2.1 5) 0 (sel (beq x.2.1 6) 4 (sel (beq x.2.1 7) 5 (sel (beq x.2.1 9) 0 0)))),true,())) (some (x.1,false,()))) (sel (beq a.1 4) (sel (sel (beq x.2.1 4) true (sel (beq x.2.1 5) true (sel (beq x.2.1 8) true (sel (beq x.2.1 9) true false)))) (some (sel (beq x.2.1 4) 6 (sel (beq x.2.1 5) 0 (sel (beq x.2.1 8) 3 (sel (beq x.2.1 9) 3 0))),true,())) (some (x.1,false,()))) (sel (beq a.1 5) (sel (sel (beq x.2.1 5) true (sel (beq x.2.1 9) true false)) (some (sel (beq x.2.1 5) 0 (sel (beq x.2.1 9) 0 0),true,())) (some (x.1,false,()))) (some (x.1,false,())))))))))))
noncomputable def qv8 (x:tf_):Option (tf_):=ck (band (inC 0 8 8) (rm 1 (nat 8))) (ob (qrH (x.1,rep (nat 8) (u8 0),())) fun a=>ck (inC 0 3 (len a.1)) (some (cut a.1 (nat 0) (nsub (nat 3) (nat 0)),())))
noncomputable def qi9 (x:kG×BB×Unit):Option (Tb_):=sel (bnot (beq (len x.2.1) 8)) (some (x.1,1,())) (ob (qaL (x.1.1.2.2.1,())) fun a=>sel (bnot a.1) (some (x.1,7,())) (ob (sel (bnot (beq x.1.1.2.2.1 3)) (some (true,())) (sel (bnot (beq x.1.1.2.2.2.2.2.2.2.2.2.2.2.1.1 0)) (some (true,())) (some (lt 0 x.1.1.2.2.2.2.2.2.2.2.2.2.1.2.2.1.1,())))) fun a=>sel a.1 (some (x.1,9,())) (ob (qoQ (x.1.1.2.2.2.2.2.2.2.2.2.2.1,())) fun a=>sel (bnot (beq a.2.1 0)) (some (x.1,a.2.1,())) (ob (vC (x.1,())) fun a_1=>ob (xS (a_1.1.1,a.1,x.2.1,())) fun a_2=>ob (qcH (x.1.1.2.2.2.2.2.2.2.2.2.2.1,a.1,a_2.1,())) fun a_3=>ob (kN (x.1.1.2.2.1,6,())) fun a_4=>ob (qv8 (a_2.1,())) fun a_5=>ob (kI (((x.1.1.1,x.1.1.2.1,a_4.1,x.1.1.2.2.2.1,x.1.1.2.2.2.2.1,x.1.1.2.2.2.2.2.1,x.1.1.2.2.2.2.2.2.1,x.1.1.2.2.2.2.2.2.2.1,x.1.1.2.2.2.2.2.2.2.2.1,x.1.1.2.2.2.2.2.2.2.2.2.1,a_3.1,x.1.1.2.2.2.2.2.2.2.2.2.2.2),x.1.2),(true,101,0,0,a.1,x.2.1,a_5.1,0,()),())) fun a=>some (a.1,0,())))))
noncomputable def zG (x:(TEnd×Unit)×Unit):Option (td_):=some (beq x.1.1.2.2.1 4,())
noncomputable def qaB (x:Ta_):Option (Ta_):=ob (kN (x.1.1.2.2.1,8,())) fun a=>some (((x.1.1.1,x.1.1.2.1,a.1,x.1.1.2.2.2.1,x.1.1.2.2.2.2.1,x.1.1.2.2.2.2.2.1,x.1.1.2.2.2.2.2.2.1,x.1.1.2.2.2.2.2.2.2.1,x.1.1.2.2.2.2.2.2.2.2.1,x.1.1.2.2.2.2.2.2.2.2.2.1,x.1.1.2.2.2.2.2.2.2.2.2.2.1,(0,0,0,0,none' UInt8,()),x.1.1.2.2.2.2.2.2.2.2.2.2.2.2),x.1.2),())
noncomputable def qb7 (x:Tg_):Option (Tg_):=some ((x.1.1,x.1.2.1,(0,none' UInt8,()),x.1.2.2.2),())
noncomputable def qcX (x:Ta_):Option (Ta_):=ob (vC (x.1,())) fun a=>ob (zG (a.1.1,())) fun a=>sel (bnot a.1) (some (x.1,())) (ob (qaB (x.1,())) fun a=>ob (qb7 (a.1.1.2.2.2.2.2.2.2.2.2.2.1,())) fun a_1=>some (((a.1.1.1,a.1.1.2.1,a.1.1.2.2.1,a.1.1.2.2.2.1,a.1.1.2.2.2.2.1,a.1.1.2.2.2.2.2.1,a.1.1.2.2.2.2.2.2.1,a.1.1.2.2.2.2.2.2.2.1,a.1.1.2.2.2.2.2.2.2.2.1,a.1.1.2.2.2.2.2.2.2.2.2.1,a_1.1,a.1.1.2.2.2.2.2.2.2.2.2.2.2),a.1.2),()))
noncomputable def xE (x:Tb_):Option (Ta_):=lc (loop (fun (x_1:Td_)=>sel (lt x_1.1 4) (ck (inB x_1.1 (ofn 4)) (sel (beq (nth [2,5,6,13] (nat x_1.1) 0) x.2.1) (ck (inB x_1.1 (ofn 4)) (ck (inB x_1.1 (ofn 4)) (some (LS.nx (i64 (iadd x_1.1 1),((x_1.2.1.1.1,x_1.2.1.1.2.1,x_1.2.1.1.2.2.1,x_1.2.1.1.2.2.2.1,x_1.2.1.1.2.2.2.2.1,x_1.2.1.1.2.2.2.2.2.1,x_1.2.1.1.2.2.2.2.2.2.1,x_1.2.1.1.2.2.2.2.2.2.2.1,x_1.2.1.1.2.2.2.2.2.2.2.2.1,x_1.2.1.1.2.2.2.2.2.2.2.2.2.1,x_1.2.1.1.2.2.2.2.2.2.2.2.2.2.1,x_1.2.1.1.2.2.2.2.2.2.2.2.2.2.2.1,x_1.2.1.1.2.2.2.2.2.2.2.2.2.2.2.2.1,x_1.2.1.1.2.2.2.2.2.2.2.2.2.2.2.2.2.1,x_1.2.1.1.2.2.2.2.2.2.2.2.2.2.2.2.2.2.1,x_1.2.1.1.2.2.2.2.2.2.2.2.2.2.2.2.2.2.2.1,x_1.2.1.1.2.2.2.2.2.2.2.2.2.2.2.2.2.2.2.2.1,x_1.2.1.1.2.2.2.2.2.2.2.2.2.2.2.2.2.2.2.2.2.1,upd x_1.2.1.1.2.2.2.2.2.2.2.2.2.2.2.2.2.2.2.2.2.2.1 (nat x_1.1) (i64 (iadd (nth x_1.2.1.1.2.2.2.2.2.2.2.2.2.2.2.2.2.2.2.2.2.2.1 (nat x_1.1) 0) 1)),x_1.2.1.1.2.2.2.2.2.2.2.2.2.2.2.2.2.2.2.2.2.2.2),x_1.2.1.2),()))))) (some (LS.nx (i64 (iadd x_1.1 1),x_1.2.1,()))))) (some (LS.ex 0 (x_1.1,x_1.2.1,())))) (0,x.1,())) (fun (a:Td_)=>none) (fun (i:Nat) (a:Td_)=>ck (neb i 0) (some (a.2.1,()))) fun (r:Ta_)=>some r
noncomputable def xH (x:Th_):Option (Ta_):=ob (vC (x.1,())) fun a=>ob (xS (a.1.1,x.2.1.2.2.2.2.1,x.2.1.2.2.2.2.2.1,())) fun a_1=>ob (zG (a.1.1,())) fun a_2=>ob (sel a_2.1 (some (beq x.1.1.1 0,())) (some (false,()))) fun a_3=>sel a_3.1 (ob (xE (x.1,13,())) fun a=>some (a.1,())) (ob (qv8 (a_1.1,())) fun a_4=>ob (qd5 (a_4.1,x.2.1.2.2.2.2.2.2.1,())) fun a_5=>sel (bnot a_5.1) (ob (j3 (x.2.1,63,())) fun a_6=>ob (xD (a_6.1,())) fun a_7=>ob (j6 (a.1.2.1,a_7.1,())) fun a=>some (a.1,())) (sel (beq x.2.1.2.2.2.2.1 x.1.1.2.2.2.2.2.2.2.2.2.2.1.1.1) (ob (j3 (x.2.1,0,())) fun a_6=>ob (xD (a_6.1,())) fun a_7=>ob (j6 (a.1.2.1,a_7.1,())) fun a=>some (a.1,())) (ob (zG (a.1.1,())) fun a_6=>sel a_6.1 (ob (qb7 (x.1.1.2.2.2.2.2.2.2.2.2.2.1,())) fun a_7=>ob (qcH (a_7.1,x.2.1.2.2.2.2.1,a_1.1,())) fun a_8=>sel (bnot (beq a_8.2.1 0)) (ob (xE (x.1,13,())) fun a=>some (a.1,())) (ob (zG (a.1.1,())) fun a_9=>sel a_9.1 (ob (qaB (a.1.2.1,())) fun a=>ob (j3 (x.2.1,0,())) fun a_10=>ob (xD (a_10.1,())) fun a_11=>ob (j6 (((a.1.1.1,a.1.1.2.1,a.1.1.2.2.1,a.1.1.2.2.2.1,a.1.1.2.2.2.2.1,a.1.1.2.2.2.2.2.1,a.1.1.2.2.2.2.2.2.1,a.1.1.2.2.2.2.2.2.2.1,a.1.1.2.2.2.2.2.2.2.2.1,a.1.1.2.2.2.2.2.2.2.2.2.1,a_8.1,a.1.1.2.2.2.2.2.2.2.2.2.2.2),a.1.2),a_11.1,())) fun a=>some (a.1,())) (ob (j3 (x.2.1,0,())) fun a_10=>ob (xD (a_10.1,())) fun a_11=>ob (j6 (((a.1.2.1.1.1,a.1.2.1.1.2.1,a.1.2.1.1.2.2.1,a.1.2.1.1.2.2.2.1,a.1.2.1.1.2.2.2.2.1,a.1.2.1.1.2.2.2.2.2.1,a.1.2.1.1.2.2.2.2.2.2.1,a.1.2.1.1.2.2.2.2.2.2.2.1,a.1.2.1.1.2.2.2.2.2.2.2.2.1,a.1.2.1.1.2.2.2.2.2.2.2.2.2.1,a_8.1,a.1.2.1.1.2.2.2.2.2.2.2.2.2.2.2),a.1.2.1.2),a_11.1,())) fun a=>some (a.1,())))) (ob (qcH
 (x.1.1.2.2.2.2.2.2.2.2.2.2.1,x.2.1.2.2.2.2.1,a_1.1,())) fun a_7=>sel (bnot (beq a_7.2.1 0)) (ob (xE (x.1,13,())) fun a=>some (a.1,())) (ob (zG (a.1.1,())) fun a_8=>sel a_8.1 (ob (qaB (a.1.2.1,())) fun a=>ob (j3 (x.2.1,0,())) fun a_9=>ob (xD (a_9.1,())) fun a_10=>ob (j6 (((a.1.1.1,a.1.1.2.1,a.1.1.2.2.1,a.1.1.2.2.2.1,a.1.1.2.2.2.2.1,a.1.1.2.2.2.2.2.1,a.1.1.2.2.2.2.2.2.1,a.1.1.2.2.2.2.2.2.2.1,a.1.1.2.2.2.2.2.2.2.2.1,a.1.1.2.2.2.2.2.2.2.2.2.1,a_7.1,a.1.1.2.2.2.2.2.2.2.2.2.2.2),a.1.2),a_10.1,())) fun a=>some (a.1,())) (ob (j3 (x.2.1,0,())) fun a_9=>ob (xD (a_9.1,())) fun a_10=>ob (j6 (((a.1.2.1.1.1,a.1.2.1.1.2.1,a.1.2.1.1.2.2.1,a.1.2.1.1.2.2.2.1,a.1.2.1.1.2.2.2.2.1,a.1.2.1.1.2.2.2.2.2.1,a.1.2.1.1.2.2.2.2.2.2.1,a.1.2.1.1.2.2.2.2.2.2.2.1,a.1.2.1.1.2.2.2.2.2.2.2.2.1,a.1.2.1.1.2.2.2.2.2.2.2.2.2.1,a_7.1,a.1.2.1.1.2.2.2.2.2.2.2.2.2.2.2),a.1.2.1.2),a_10.1,())) fun a=>some (a.1,())))))))
noncomputable def qCa (x:TAsk×TAsk×Unit):Option (td_):=ob (sel (beq x.1.1 x.2.1.1) (sel (beq x.1.2.1 x.2.1.2.1) (sel (beq x.1.2.2.1 x.2.1.2.2.1) (sel (beq x.1.2.2.2.1 x.2.1.2.2.2.1) (ob (qdT (x.1.2.2.2.2.1,x.2.1.2.2.2.2.1,())) fun a=>some (a.1,())) (some (false,()))) (some (false,()))) (some (false,()))) (some (false,()))) fun a=>some (a.1,())
noncomputable def quH (x:TAsk×Unit):Option (td_):=ob (qCa (x.1,(0,0,0,0,none' UInt8,()),())) fun a=>some (a.1,())
noncomputable def qk5 (x:TAsk×Int×Int×Unit):Option (td_):=ob (quH (x.1,())) fun a=>ob (sel (bnot a.1) (sel (beq x.1.1 x.2.1) (some (beq x.1.2.1 x.2.2.1,())) (some (false,()))) (some (false,()))) fun a=>some (a.1,())
noncomputable def qi5 (x:Tg_):Option (Tc_):=ob (qi3 (x.1.2.2.1,())) fun a=>sel a.1 (some (x.1,9,())) (some ((x.1.2.2.1,x.1.1,(0,none' UInt8,()),16,x.1.2.2.2.2),0,()))
noncomputable def qa4 (x:Th_):Option (Ta_):=ob (vC (x.1,())) fun a=>ob (zG (a.1.1,())) fun a=>ob (sel (bnot a.1) (some (true,())) (ob (qk5 (x.1.1.2.2.2.2.2.2.2.2.2.2.2.1,x.2.1.2.1,x.2.1.2.2.1,())) fun a=>some (bnot a.1,()))) fun a=>sel a.1 (ob (xE (x.1,13,())) fun a=>some (a.1,())) (sel (bnot (beq x.2.1.2.2.2.1 0)) (ob (qcX (x.1,())) fun a=>some (a.1,())) (ob (qaB (x.1,())) fun a=>ob (qi5 (a.1.1.2.2.2.2.2.2.2.2.2.2.1,())) fun a_1=>ob (kI (((a.1.1.1,a.1.1.2.1,a.1.1.2.2.1,a.1.1.2.2.2.1,a.1.1.2.2.2.2.1,a.1.1.2.2.2.2.2.1,a.1.1.2.2.2.2.2.2.1,a.1.1.2.2.2.2.2.2.2.1,a.1.1.2.2.2.2.2.2.2.2.1,a.1.1.2.2.2.2.2.2.2.2.2.1,a_1.1,a.1.1.2.2.2.2.2.2.2.2.2.2.2),a.1.2),(true,301,0,0,0,none' UInt8,none' UInt8,0,()),())) fun a=>some (a.1,())))
noncomputable def qg8 (x:THub×Int×Unit):Option (THub×Int×Unit):=ob (sel (lt x.2.1 0) (some (true,())) (some (lt 3 x.2.1,()))) fun a=>sel a.1 (some (x.1,1,())) (ck (inB x.2.1 (ofn 4)) (sel (nth x.1.1 (nat x.2.1) false) (some (x.1,9,())) (ck (inB x.2.1 (ofn 4)) (ck (inB x.2.1 (ofn 4)) (ck (inB x.2.1 (ofn 4)) (ck (inB x.2.1 (ofn 4)) (some ((upd x.1.1 (nat x.2.1) true,upd x.1.2.1 (nat x.2.1) (none' UInt8,0,0,()),upd x.1.2.2.1 (nat x.2.1) (i64 (iadd (nth x.1.2.2.1 (nat x.2.1) 0) 1)),x.1.2.2.2),0,()))))))))
noncomputable def yR (x:tG_):Option (td_):=ob (sel (beq x.1.1 0) (some (beq (len x.1.2.1) 0,())) (some (false,()))) fun a=>some (a.1,())
noncomputable def qaE (x:Tg_):Option (td_):=ob (yR (x.1.1,())) fun a=>ob (yR (x.1.2.1,())) fun a_1=>ob (yR (x.1.2.2.1,())) fun a_2=>ob (sel a.1 (sel a_1.1 (sel a_2.1 (sel (beq x.1.2.2.2.1 0) (some (beq x.1.2.2.2.2.1 0,())) (some (false,()))) (some (false,()))) (some (false,()))) (some (false,()))) fun a=>some (a.1,())
noncomputable def qg3 (x:jF×Int×BB×Unit):Option (Tc_):=ob (sel (bnot (beq (len x.2.2.1) 32)) (some (true,())) (sel (lt x.2.1 1) (some (true,())) (some (lt 2147483647 x.2.1,())))) fun a=>sel a.1 (some (x.1,1,())) (ob (qaE (x.1,())) fun a=>ob (sel a.1 (some (true,())) (sel (le x.2.1 x.1.1.1) (some (true,())) (some (lt x.2.1 x.1.2.2.1.1,())))) fun a=>sel a.1 (some (x.1,9,())) (sel (lt x.1.2.2.2.2.1 x.2.1) (some ((x.1.1,x.1.2.1,(x.2.1,x.2.2.1,()),x.1.2.2.2.1,x.2.1,x.1.2.2.2.2.2),0,())) (some ((x.1.1,x.1.2.1,(x.2.1,x.2.2.1,()),x.1.2.2.2),0,()))))
noncomputable def qcK (x:Tg_):Option (Tc_):=sel (beq x.1.2.2.1.1 0) (some (x.1,9,())) (some ((x.1.2.2.1,x.1.1,(0,none' UInt8,()),16,x.1.2.2.2.2.1,()),0,()))
noncomputable def qjH (x:tf_):Option (Tc_):=sel (bnot (beq (len x.1) 32)) (some (((0,none' UInt8,()),(0,none' UInt8,()),(0,none' UInt8,()),0,0,()),1,())) (some (((1,x.1,()),(0,none' UInt8,()),(0,none' UInt8,()),0,1,()),0,()))
noncomputable def xI (x:tl_):Option (td_):=ob (sel (le 0 x.1) (some (le x.1 4611686018427387904,())) (some (false,()))) fun a=>some (a.1,())
noncomputable def qo5 (x:tl_):Option (tf_):=lc (loop (fun (x_1:tf_)=>sel (bnot (beq (imod (i64 (iadd (i64 (iadd x.1 (len x_1.1))) 8)) 64) 0)) (ck (rm 1 (nadd (ln x_1.1) (ln [u8 0]))) (some (LS.nx (app x_1.1 [u8 0],())))) (some (LS.ex 0 (x_1.1,())))) ([u8 128],())) (fun (a:tf_)=>none) (fun (i:Nat) (a:tf_)=>ck (neb i 0) (lc (loop (fun (x_1:tb_)=>sel (le 0 x_1.2.1) (ck (rm 1 (nadd (ln x_1.1) (ln [u8 (shrI IntKind.i64 (i64 (imul 8 x.1)) (n64 (u64 x_1.2.1)))]))) (some (LS.nx (app x_1.1 [u8 (shrI IntKind.i64 (i64 (imul 8 x.1)) (n64 (u64 x_1.2.1)))],i64 (isub x_1.2.1 8),())))) (some (LS.ex 2 (x_1.1,x_1.2.1,())))) (a.1,56,())) (fun (a:tb_)=>none) (fun (i:Nat) (a:tb_)=>ck (neb i 2) (some (a.1,()))) fun (r:tf_)=>some r)) fun (r:tf_)=>some r
noncomputable def qlX (x:Unit):Option (tD_):=some ([u32 1116352408,u32 1899447441,u32 3049323471,u32 3921009573,u32 961987163,u32 1508970993,u32 2453635748,u32 2870763221,u32 3624381080,u32 310598401,u32 607225278,u32 1426881987,u32 1925078388,u32 2162078206,u32 2614888103,u32 3248222580,u32 3835390401,u32 4022224774,u32 264347078,u32 604807628,u32 770255983,u32 1249150122,u32 1555081692,u32 1996064986,u32 2554220882,u32 2821834349,u32 2952996808,u32 3210313671,u32 3336571891,u32 3584528711,u32 113926993,u32 338241895,u32 666307205,u32 773529912,u32 1294757372,u32 1396182291,u32 1695183700,u32 1986661051,u32 2177026350,u32 2456956037,u32 2730485921,u32 2820302411,u32 3259730800,u32 3345764771,u32 3516065817,u32 3600352804,u32 4094571909,u32 275423344,u32 430227734,u32 506948616,u32 659060556,u32 883997877,u32 958139571,u32 1322822218,u32 1537002063,u32 1747873779,u32 1955562222,u32 2024104815,u32 2227730452,u32 2361852424,u32 2428436474,u32 2756734187,u32 3204031479,u32 3329325298],())
noncomputable def xC (x:UInt32×UInt32×Unit):Option (UInt32×Unit):=some (u32 (orI IntKind.u32 (n32 (u32 (shrI IntKind.u32 (n32 x.1) (n32 x.2.1)))) (n32 (u32 (shlI IntKind.u32 (n32 x.1) (n32 (u32 (isub (n32 (u32 32)) (n32 x.2.1)))))))),())
noncomputable def qfU (x:List UInt32×BB×Int×List UInt32×Unit):Option (tD_):=ck (band (inC 0 64 64) (rm 32 (nat 64))) (lc (loop (fun (x_1:th_)=>sel (lt x_1.1 16) (ck (inB (i64 (iadd x.2.2.1 (i64 (imul 4 x_1.1)))) (len x.2.1)) (ck (inB (i64 (iadd (i64 (iadd x.2.2.1 (i64 (imul 4 x_1.1)))) 1)) (len x.2.1)) (ck (inB (i64 (iadd (i64 (iadd x.2.2.1 (i64 (imul 4 x_1.1)))) 2)) (len x.2.1)) (ck (inB (i64 (iadd (i64 (iadd x.2.2.1 (i64 (imul 4 x_1.1)))) 3)) (len x.2.1)) (ck (inB x_1.1 (len x_1.2.1)) (some (LS.nx (i64 (iadd x_1.1 1),upd x_1.2.1 (nat x_1.1) (u32 (iadd (n32 (u32 (iadd (n32 (u32 (iadd (n32 (u32 (imul (n32 (u32 (n8 (nth x.2.1 (nat (i64 (iadd x.2.2.1 (i64 (imul 4 x_1.1))))) (u8 0))))) (n32 (u32 16777216))))) (n32 (u32 (imul (n32 (u32 (n8 (nth x.2.1 (nat (i64 (iadd (i64 (iadd x.2.2.1 (i64 (imul 4 x_1.1)))) 1))) (u8 0))))) (n32 (u32 65536)))))))) (n32 (u32 (imul (n32 (u32 (n8 (nth x.2.1 (nat (i64 (iadd (i64 (iadd x.2.2.1 (i64 (imul 4 x_1.1)))) 2))) (u8 0))))) (n32 (u32 256)))))))) (n32 (u32 (n8 (nth x.2.1 (nat (i64 (iadd (i64 (iadd x.2.2.1 (i64 (imul 4 x_1.1)))) 3))) (u8 0))))))),())))))))) (some (LS.ex 0 (x_1.1,x_1.2.1,())))) (0,rep (nat 64) (u32 0),())) (fun (a:th_)=>none) (fun (i:Nat) (a:th_)=>ck (neb i 0) (lc (loop (fun (x:th_)=>sel (lt x.1 64) (ck (inB (i64 (isub x.1 15)) (len x.2.1)) (ck (inB (i64 (isub x.1 2)) (len x.2.1)) (ob (xC (nth x.2.1 (nat (i64 (isub x.1 15))) (u32 0),u32 7,())) fun a=>ob (xC (nth x.2.1 (nat (i64 (isub x.1 15))) (u32 0),u32 18,())) fun a_1=>ob (xC (nth x.2.1 (nat (i64 (isub x.1 2))) (u32 0),u32 17,())) fun a_2=>ob (xC (nth x.2.1 (nat (i64 (isub x.1 2))) (u32 0),u32 19,())) fun a_3=>ck (inB (i64 (isub x.1 7)) (len x.2.1)) (ck (inB (i64 (isub x.1 16)) (len x.2.1)) (ck (inB x.1 (len x.2.1)) (some (LS.nx (i64 (iadd x.1 1),upd x.2.1 (nat x.1) (u32
 (iadd (n32 (u32 (iadd (n32 (u32 (iadd (n32 (u32 (xorI IntKind.u32 (n32 (u32 (xorI IntKind.u32 (n32 a_2.1) (n32 a_3.1)))) (n32 (u32 (shrI IntKind.u32 (n32 (nth x.2.1 (nat (i64 (isub x.1 2))) (u32 0))) (n64 (u64 10)))))))) (n32 (nth x.2.1 (nat (i64 (isub x.1 7))) (u32 0)))))) (n32 (u32 (xorI IntKind.u32 (n32 (u32 (xorI IntKind.u32 (n32 a.1) (n32 a_1.1)))) (n32 (u32 (shrI IntKind.u32 (n32 (nth x.2.1 (nat (i64 (isub x.1 15))) (u32 0))) (n64 (u64 3))))))))))) (n32 (nth x.2.1 (nat (i64 (isub x.1 16))) (u32 0))))),())))))))) (some (LS.ex 2 (x.1,x.2.1,())))) (16,a.2.1,())) (fun (a:th_)=>none) (fun (i:Nat) (a:th_)=>ck (neb i 2) (ck (inB 0 (ofn 8)) (ck (inB 1 (ofn 8)) (ck (inB 2 (ofn 8)) (ck (inB 3 (ofn 8)) (ck (inB 4 (ofn 8)) (ck (inB 5 (ofn 8)) (ck (inB 6 (ofn 8)) (ck (inB 7 (ofn 8)) (lc (loop (fun (x_1:tm_)=>sel (lt x_1.2.2.2.2.2.2.2.2.1 64) (ob (xC (x_1.2.2.2.1,u32 6,())) fun a_1=>ob (xC (x_1.2.2.2.1,u32 11,())) fun a_2=>ob (xC (x_1.2.2.2.1,u32 25,())) fun a_3=>ck (inB x_1.2.2.2.2.2.2.2.2.1 (len x.2.2.2.1)) (ck (inB x_1.2.2.2.2.2.2.2.2.1 (len a.2.1)) (ob (xC (x_1.2.2.2.2.2.2.2.1,u32 2,())) fun a_4=>ob (xC (x_1.2.2.2.2.2.2.2.1,u32 13,())) fun a_5=>ob (xC (x_1.2.2.2.2.2.2.2.1,u32 22,())) fun a_6=>some (LS.nx (x_1.2.1,x_1.2.2.1,x_1.2.2.2.1,u32 (iadd (n32 x_1.2.2.2.2.1) (n32 (u32 (iadd (n32 (u32 (iadd (n32 (u32 (iadd (n32 (u32 (iadd (n32 x_1.1) (n32 (u32 (xorI IntKind.u32 (n32 (u32 (xorI IntKind.u32 (n32 a_1.1) (n32 a_2.1)))) (n32 a_3.1))))))) (n32 (u32 (xorI IntKind.u32 (n32 (u32 (andI IntKind.u32 (n32 x_1.2.2.2.1) (n32 x_1.2.2.1)))) (n32 (u32 (andI IntKind.u32 (n32 (u32 (xorI IntKind.u32 4294967295 (n32 x_1.2.2.2.1)))) (n32 x_1.2.1)))))))))) (n32 (nth x.2.2.2.1 (nat x_1.2.2.2.2.2.2.2.2.1) (u32 0)))))) (n32 (nth a.2.1 (nat x_1.2.2.2.2.2.2.2.2.1) (u32 0))))))),
 x_1.2.2.2.2.2.1,x_1.2.2.2.2.2.2.1,x_1.2.2.2.2.2.2.2.1,u32 (iadd (n32 (u32 (iadd (n32 (u32 (iadd (n32 (u32 (iadd (n32 (u32 (iadd (n32 x_1.1) (n32 (u32 (xorI IntKind.u32 (n32 (u32 (xorI IntKind.u32 (n32 a_1.1) (n32 a_2.1)))) (n32 a_3.1))))))) (n32 (u32 (xorI IntKind.u32 (n32 (u32 (andI IntKind.u32 (n32 x_1.2.2.2.1) (n32 x_1.2.2.1)))) (n32 (u32 (andI IntKind.u32 (n32 (u32 (xorI IntKind.u32 4294967295 (n32 x_1.2.2.2.1)))) (n32 x_1.2.1)))))))))) (n32 (nth x.2.2.2.1 (nat x_1.2.2.2.2.2.2.2.2.1) (u32 0)))))) (n32 (nth a.2.1 (nat x_1.2.2.2.2.2.2.2.2.1) (u32 0)))))) (n32 (u32 (iadd (n32 (u32 (xorI IntKind.u32 (n32 (u32 (xorI IntKind.u32 (n32 a_4.1) (n32 a_5.1)))) (n32 a_6.1)))) (n32 (u32 (xorI IntKind.u32 (n32 (u32 (xorI IntKind.u32 (n32 (u32 (andI IntKind.u32 (n32 x_1.2.2.2.2.2.2.2.1) (n32 x_1.2.2.2.2.2.2.1)))) (n32 (u32 (andI IntKind.u32 (n32 x_1.2.2.2.2.2.2.2.1) (n32 x_1.2.2.2.2.2.1))))))) (n32 (u32 (andI IntKind.u32 (n32 x_1.2.2.2.2.2.2.1) (n32 x_1.2.2.2.2.2.1))))))))))),i64 (iadd x_1.2.2.2.2.2.2.2.2.1 1),()))))) (some (LS.ex 4 (x_1.1,x_1.2.1,x_1.2.2.1,x_1.2.2.2.1,x_1.2.2.2.2.1,x_1.2.2.2.2.2.1,x_1.2.2.2.2.2.2.1,x_1.2.2.2.2.2.2.2.1,x_1.2.2.2.2.2.2.2.2.1,())))) (nth x.1 (nat 7) (u32 0),nth x.1 (nat 6) (u32 0),nth x.1 (nat 5) (u32 0),nth x.1 (nat 4) (u32 0),nth x.1 (nat 3) (u32 0),nth x.1 (nat 2) (u32 0),nth x.1 (nat 1) (u32 0),nth x.1 (nat 0) (u32 0),0,())) (fun (a:tm_)=>none) (fun (i:Nat) (a:tm_)=>ck (neb i 4) (ck (inB 0 (ofn 8)) (ck (inB 1 (ofn 8)) (ck (inB 2 (ofn 8)) (ck (inB 3 (ofn 8)) (ck (inB 4 (ofn 8)) (ck (inB 5 (ofn 8)) (ck (inB 6 (ofn 8)) (ck (inB 7 (ofn 8)) (some ([u32 (iadd (n32 (nth x.1 (nat 0) (u32 0))) (n32 a.2.2.2.2.2.2.2.1)),u32 (iadd (n32 (nth x.1 (nat 1) (u32 0))) (n32 a.2.2.2.2.2.2.1)),u32 (iadd (n32 (nth x.1 (nat 2) (u32 0))) (n32 a.2.2.2.2.2.1)),u32 (iadd (n32
 (nth x.1 (nat 3) (u32 0))) (n32 a.2.2.2.2.1)),u32 (iadd (n32 (nth x.1 (nat 4) (u32 0))) (n32 a.2.2.2.1)),u32 (iadd (n32 (nth x.1 (nat 5) (u32 0))) (n32 a.2.2.1)),u32 (iadd (n32 (nth x.1 (nat 6) (u32 0))) (n32 a.2.1)),u32 (iadd (n32 (nth x.1 (nat 7) (u32 0))) (n32 a.1))],()))))))))))) fun (r:tD_)=>some r)))))))))) fun (r:tD_)=>some r)) fun (r:tD_)=>some r)
noncomputable def qjP (x:tk_):Option (tf_):=ck (rm 1 (nadd (ln (none' UInt8)) (ln x.1.2.2.1))) (ob (qo5 (x.1.2.1,())) fun a=>ck (rm 1 (nadd (ln (app (none' UInt8) x.1.2.2.1)) (ln a.1))) (ob (qlX ()) fun a_1=>lc (loop (fun (x_1:th_)=>sel (lt x_1.1 (len (app (app (none' UInt8) x.1.2.2.1) a.1))) (ob (qfU (x_1.2.1,app (app (none' UInt8) x.1.2.2.1) a.1,x_1.1,a_1.1,())) fun a=>some (LS.nx (i64 (iadd x_1.1 64),a.1,()))) (some (LS.ex 0 (x_1.1,x_1.2.1,())))) (0,x.1.1,())) (fun (a:th_)=>none) (fun (i:Nat) (a:th_)=>ck (neb i 0) (lc (loop (fun (x:tb_)=>sel (lt x.2.1 8) (ck (inB x.2.1 (ofn 8)) (ck (inB x.2.1 (ofn 8)) (ck (inB x.2.1 (ofn 8)) (ck (inB x.2.1 (ofn 8)) (ck (rm 1 (nadd (ln x.1) (ln [u8 (n32 (u32 (idiv (n32 (nth a.2.1 (nat x.2.1) (u32 0))) (n32 (u32 16777216))))),u8 (n32 (u32 (imod (n32 (u32 (idiv (n32 (nth a.2.1 (nat x.2.1) (u32 0))) (n32 (u32 65536))))) (n32 (u32 256))))),u8 (n32 (u32 (imod (n32 (u32 (idiv (n32 (nth a.2.1 (nat x.2.1) (u32 0))) (n32 (u32 256))))) (n32 (u32 256))))),u8 (n32 (u32 (imod (n32 (nth a.2.1 (nat x.2.1) (u32 0))) (n32 (u32 256)))))]))) (some (LS.nx (app x.1 [u8 (n32 (u32 (idiv (n32 (nth a.2.1 (nat x.2.1) (u32 0))) (n32 (u32 16777216))))),u8 (n32 (u32 (imod (n32 (u32 (idiv (n32 (nth a.2.1 (nat x.2.1) (u32 0))) (n32 (u32 65536))))) (n32 (u32 256))))),u8 (n32 (u32 (imod (n32 (u32 (idiv (n32 (nth a.2.1 (nat x.2.1) (u32 0))) (n32 (u32 256))))) (n32 (u32 256))))),u8 (n32 (u32 (imod (n32 (nth a.2.1 (nat x.2.1) (u32 0))) (n32 (u32 256)))))],i64 (iadd x.2.1 1),())))))))) (some (LS.ex 2 (x.1,x.2.1,())))) (none' UInt8,0,())) (fun (a:tb_)=>none) (fun (i:Nat) (a:tb_)=>ck (neb i 2) (some (a.1,()))) fun (r:tf_)=>some r)) fun (r:tf_)=>some r))
noncomputable def qjQ (x:tI_):Option (tk_):=sel (lt (i64 (isub 1125899906842624 x.1.2.1)) (len x.2.1)) (some (x.1,())) (ck (rm 1 (nadd (ln (none' UInt8)) (ln x.1.2.2.1))) (ck (rm 1 (nadd (ln (app (none' UInt8) x.1.2.2.1)) (ln x.2.1))) (ob (qlX ()) fun a=>lc (loop (fun (x_1:ty_)=>sel (le 64 (i64 (isub (len (app (app (none' UInt8) x.1.2.2.1) x.2.1)) x_1.1))) (ob (qfU (x_1.2.1.1,app (app (none' UInt8) x.1.2.2.1) x.2.1,x_1.1,a.1,())) fun a=>some (LS.nx (i64 (iadd x_1.1 64),(a.1,x_1.2.1.2),()))) (some (LS.ex 0 (x_1.1,x_1.2.1,())))) (0,x.1,())) (fun (a:ty_)=>none) (fun (i:Nat) (a:ty_)=>ck (neb i 0) (ck (inC a.1 (len (app (app (none' UInt8) x.1.2.2.1) x.2.1)) (len (app (app (none' UInt8) x.1.2.2.1) x.2.1))) (some ((a.2.1.1,i64 (iadd a.2.1.2.1 (len x.2.1)),cut (app (app (none' UInt8) x.1.2.2.1) x.2.1) (nat a.1) (nsub (nat (len (app (app (none' UInt8) x.1.2.2.1) x.2.1))) (nat a.1)),a.2.1.2.2.2),())))) fun (r:tk_)=>some r)))
noncomputable def qvP (x:Unit):Option (tk_):=some (([u32 1779033703,u32 3144134277,u32 1013904242,u32 2773480762,u32 1359893119,u32 2600822924,u32 528734635,u32 1541459225],0,none' UInt8,()),())
noncomputable def qhE (x:tf_):Option (tf_):=ob (qvP ()) fun a=>ob (qjQ (a.1,x.1,())) fun a=>ob (qjP (a.1,())) fun a=>some (a.1,())
noncomputable def qhD (x:tf_):Option (tf_):=ck (rm 1 (nadd (ln (none' UInt8)) (ln x.1))) (sel (lt 64 (len x.1)) (ob (qhE (x.1,())) fun a=>lc (loop (fun (x:tf_)=>sel (lt (len x.1) 64) (ck (rm 1 (nadd (ln x.1) (ln [u8 0]))) (some (LS.nx (app x.1 [u8 0],())))) (some (LS.ex 0 (x.1,())))) (a.1,())) (fun (a:tf_)=>none) (fun (i:Nat) (a:tf_)=>ck (neb i 0) (some (a.1,()))) fun (r:tf_)=>some r) (lc (loop (fun (x:tf_)=>sel (lt (len x.1) 64) (ck (rm 1 (nadd (ln x.1) (ln [u8 0]))) (some (LS.nx (app x.1 [u8 0],())))) (some (LS.ex 0 (x.1,())))) (app (none' UInt8) x.1,())) (fun (a:tf_)=>none) (fun (i:Nat) (a:tf_)=>ck (neb i 0) (some (a.1,()))) fun (r:tf_)=>some r))
noncomputable def qfS (x:tJ_):Option (tf_):=ob (qhD (x.1,())) fun a=>lc (loop (fun (x:tT_)=>sel (lt x.2.2.1 64) (ck (inB x.2.2.1 (len a.1)) (ck (rm 1 (nadd (ln x.1) (ln [u8 (xorI IntKind.u8 (n8 (nth a.1 (nat x.2.2.1) (u8 0))) (n8 (u8 54)))]))) (ck (inB x.2.2.1 (len a.1)) (ck (rm 1 (nadd (ln x.2.1) (ln [u8 (xorI IntKind.u8 (n8 (nth a.1 (nat x.2.2.1) (u8 0))) (n8 (u8 92)))]))) (some (LS.nx (app x.1 [u8 (xorI IntKind.u8 (n8 (nth a.1 (nat x.2.2.1) (u8 0))) (n8 (u8 54)))],app x.2.1 [u8 (xorI IntKind.u8 (n8 (nth a.1 (nat x.2.2.1) (u8 0))) (n8 (u8 92)))],i64 (iadd x.2.2.1 1),()))))))) (some (LS.ex 0 (x.1,x.2.1,x.2.2.1,())))) (none' UInt8,none' UInt8,0,())) (fun (a:tT_)=>none) (fun (i:Nat) (a:tT_)=>ck (neb i 0) (ck (rm 1 (nadd (ln a.1) (ln x.2.1))) (ob (qhE (app a.1 x.2.1,())) fun a_1=>ck (rm 1 (nadd (ln a.2.1) (ln a_1.1))) (ob (qhE (app a.2.1 a_1.1,())) fun a=>some (a.1,()))))) fun (r:tf_)=>some r
noncomputable def qlW (x:BB×List BB×Unit):Option (tf_):=ck (rm 1 (ln x.1)) (ck (rm 1 (nadd (ln [u8 (len x.1)]) (ln x.1))) (lc (loop (fun (x_1:tb_)=>sel (lt x_1.2.1 (len x.2.1)) (ck (inB x_1.2.1 (len x.2.1)) (ck (inB x_1.2.1 (len x.2.1)) (ck (rm 1 (nadd (ln x_1.1) (ln [u8 (i64 (idiv (len (nth x.2.1 (nat x_1.2.1) (none' UInt8))) 256)),u8 (imod (len (nth x.2.1 (nat x_1.2.1) (none' UInt8))) 256)]))) (ck (inB x_1.2.1 (len x.2.1)) (ck (rm 1 (nadd (ln (app x_1.1 [u8 (i64 (idiv (len (nth x.2.1 (nat x_1.2.1) (none' UInt8))) 256)),u8 (imod (len (nth x.2.1 (nat x_1.2.1) (none' UInt8))) 256)])) (ln (nth x.2.1 (nat x_1.2.1) (none' UInt8))))) (some (LS.nx (app (app x_1.1 [u8 (i64 (idiv (len (nth x.2.1 (nat x_1.2.1) (none' UInt8))) 256)),u8 (imod (len (nth x.2.1 (nat x_1.2.1) (none' UInt8))) 256)]) (nth x.2.1 (nat x_1.2.1) (none' UInt8)),i64 (iadd x_1.2.1 1),())))))))) (some (LS.ex 0 (x_1.1,x_1.2.1,())))) (app [u8 (len x.1)] x.1,0,())) (fun (a:tb_)=>none) (fun (i:Nat) (a:tb_)=>ck (neb i 0) (some (a.1,()))) fun (r:tf_)=>some r))
noncomputable def qbH (x:BB×BB×List BB×Unit):Option (tb_):=ob (sel (lt 255 (len x.2.1)) (some (true,())) (some (lt 16 (len x.2.2.1),()))) fun a=>sel a.1 (some (none' UInt8,1,())) (lc (loop (fun (x_1:te_)=>sel (lt x_1.2.1 (len x.2.2.1)) (ck (inB x_1.2.1 (len x.2.2.1)) (sel (lt 65535 (len (nth x.2.2.1 (nat x_1.2.1) (none' UInt8)))) (some (LS.rt (none' UInt8,1,()))) (some (LS.nx (x_1.1,i64 (iadd x_1.2.1 1),()))))) (some (LS.ex 0 (x_1.1,x_1.2.1,())))) (0,0,())) (fun (a:te_)=>none) (fun (i:Nat) (a:te_)=>ck (neb i 0) (ob (qlW (x.2.1,x.2.2.1,())) fun a=>ob (qfS (x.1,a.1,())) fun a=>some (a.1,0,()))) fun (r:tb_)=>some r)
noncomputable def kW (x:BB×List Int×Int×BB×Unit):Option (tf_):=ck (inB 0 (ofn 2)) (ob (xI (nth x.2.1 (nat 0) 0,())) fun a=>ck (inB 1 (ofn 2)) (ob (xI (nth x.2.1 (nat 1) 0,())) fun a_1=>ob (sel (bnot a.1) (some (true,())) (sel (bnot a_1.1) (some (true,())) (sel (lt x.2.2.1 0) (some (true,())) (some (lt 2147483647 x.2.2.1,()))))) fun a=>sel a.1 (some (none' UInt8,())) (ck (inB 0 (ofn 2)) (ob (wF (nth x.2.1 (nat 0) 0,8,())) fun a=>ck (inB 1 (ofn 2)) (ob (wF (nth x.2.1 (nat 1) 0,8,())) fun a_2=>ob (wF (x.2.2.1,4,())) fun a_3=>ob (qbH (x.1,[108,105,110,107],[a.1,a_2.1,a_3.1,x.2.2.2.1],())) fun a=>some (a.1,()))))))
noncomputable def qd0 (x:tl_):Option (tb_):=ob (sel (lt x.1 1) (some (true,())) (some (lt 4611686018427387904 x.1,()))) fun a=>sel a.1 (some (none' UInt8,1,())) (ob (wF (x.1,8,())) fun a=>ck (rm 1 (nadd (ln [u8 121,u8 101,u8 116,u8 116]) (ln a.1))) (ob (qhE (app [u8 121,u8 101,u8 116,u8 116] a.1,())) fun a_1=>ck (rm 1 (nadd (ln (none' UInt8)) (ln a.1))) (ck (inC 0 8 (len a_1.1)) (ck (rm 1 (nadd (ln (app (none' UInt8) a.1)) (ln (cut a_1.1 (nat 0) (nsub (nat 8) (nat 0)))))) (some (app (app (none' UInt8) a.1) (cut a_1.1 (nat 0) (nsub (nat 8) (nat 0))),0,()))))))
noncomputable def qfL (x:Unit):Option ((BB×BB×Unit)×Unit):=ob (qd0 (1,())) fun a=>ck (band (inC 0 16 16) (rm 1 (nat 16))) (some ((a.1,rep (nat 16) (u8 0),()),()))
noncomputable def qjL (x:td_):Option (qa2×Unit):=some ((x.1,none' (BB×BB×Unit),false,()),())
noncomputable def qaP (x:tQ_):Option (Ti_):=ck (band (inC 0 32 32) (rm 1 (nat 32))) (ck (inB 0 (len (rep (nat 32) (u8 0)))) (ob (kW (upd (rep (nat 32) (u8 0)) (nat 0) x.1,[3,4],1,none' UInt8,())) fun a=>ob (qjH (a.1,())) fun a=>lc (loop (fun (x_1:Tj_)=>sel (le x_1.1 x.2.1) (ob (kW (upd (rep (nat 32) (u8 0)) (nat 0) x.1,[3,4],x_1.1,[u8 x_1.1],())) fun a=>ob (qg3 (x_1.2.1,x_1.1,a.1,())) fun a=>ob (qcK (a.1,())) fun a=>some (LS.nx (i64 (iadd x_1.1 1),a.1,()))) (some (LS.ex 0 (x_1.1,x_1.2.1,())))) (2,a.1,())) (fun (a:Tj_)=>none) (fun (i:Nat) (a:Tj_)=>ck (neb i 0) (ob (qg8 (([false,false,false,false],[(none' UInt8,0,0,()),(none' UInt8,0,0,()),(none' UInt8,0,0,()),(none' UInt8,0,0,())],[0,0,0,0],0,()),0,())) fun a_1=>ob (qfL ()) fun a_2=>ob (qjL (true,())) fun a_3=>some (((0,upd (rep (nat 32) (u8 0)) (nat 0) x.1,3,a_2.1, -1,3,4,4,0,(0,[u64 0,u64 0,u64 0,u64 0,u64 0,u64 0,u64 0,u64 0,u64 0,u64 0,u64 0,u64 0,u64 0,u64 0,u64 0,u64 0],()),a.2.1,(0,0,0,0,none' UInt8,()),0,0,none' BB,a_1.1,none' (Int×BB×Unit),none' (Int×List Int×Int×BB×Unit),[0,0,0,0],()),a_3.1,()),((1,upd (rep (nat 32) (u8 0)) (nat 0) x.1,3,a_2.1, -1,4,3,4,0,(0,[u64 0,u64 0,u64 0,u64 0,u64 0,u64 0,u64 0,u64 0,u64 0,u64 0,u64 0,u64 0,u64 0,u64 0,u64 0,u64 0],()),a.2.1,(0,0,0,0,none' UInt8,()),0,0,none' BB,a_1.1,none' (Int×BB×Unit),none' (Int×List Int×Int×BB×Unit),[0,0,0,0],()),a_3.1,()),()))) fun (r:Ti_)=>some r))
noncomputable def qfP (x:(BB×Int×Int×Unit)×UInt8×Unit):Option (tN_):=sel (lt 0 x.1.2.1) (some ((x.1.1,i64 (isub x.1.2.1 1),x.1.2.2),none' UInt8,())) (ck (rm 1 (nadd (ln (none' UInt8)) (ln x.1.1))) (ck (rm 1 (nadd (ln (app (none' UInt8) x.1.1)) (ln [x.2.1]))) (sel (lt (len (app (app (none' UInt8) x.1.1) [x.2.1])) 2) (some ((app (app (none' UInt8) x.1.1) [x.2.1],x.1.2),none' UInt8,())) (ck (inB 0 (len (app (app (none' UInt8) x.1.1) [x.2.1]))) (ck (inB 1 (len (app (app (none' UInt8) x.1.1) [x.2.1]))) (ob (sel (beq (i64 (iadd (i64 (imul 256 (i64 (n8 (nth (app (app (none' UInt8) x.1.1) [x.2.1]) (nat 0) (u8 0)))))) (i64 (n8 (nth (app (app (none' UInt8) x.1.1) [x.2.1]) (nat 1) (u8 0)))))) 0) (some (true,())) (some (lt 1024 (i64 (iadd (i64 (imul 256 (i64 (n8 (nth (app (app (none' UInt8) x.1.1) [x.2.1]) (nat 0) (u8 0)))))) (i64 (n8 (nth (app (app (none' UInt8) x.1.1) [x.2.1]) (nat 1) (u8 0)))))),()))) fun a=>sel a.1 (some ((none' UInt8,i64 (iadd (i64 (imul 256 (i64 (n8 (nth (app (app (none' UInt8) x.1.1) [x.2.1]) (nat 0) (u8 0)))))) (i64 (n8 (nth (app (app (none' UInt8) x.1.1) [x.2.1]) (nat 1) (u8 0))))),i64 (iadd x.1.2.2.1 1),()),none' UInt8,())) (sel (lt (len (app (app (none' UInt8) x.1.1) [x.2.1])) (i64 (iadd (i64 (iadd (i64 (imul 256 (i64 (n8 (nth (app (app (none' UInt8) x.1.1) [x.2.1]) (nat 0) (u8 0)))))) (i64 (n8 (nth (app (app (none' UInt8) x.1.1) [x.2.1]) (nat 1) (u8 0)))))) 2))) (some ((app (app (none' UInt8) x.1.1) [x.2.1],x.1.2),none' UInt8,())) (ck (inC 2 (len (app (app (none' UInt8) x.1.1) [x.2.1])) (len (app (app (none' UInt8) x.1.1) [x.2.1]))) (some ((none' UInt8,0,x.1.2.2.1,()),cut (app (app (none' UInt8) x.1.1) [x.2.1]) (nat 2) (nsub (nat (len (app (app (none' UInt8) x.1.1) [x.2.1]))) (nat 2)),()))))))))))
noncomputable def qrC (x:tN_):Option (tK_):=lc (loop (fun (x_1:tw_)=>sel (lt x_1.2.1 (len x.2.1)) (ck (inB x_1.2.1 (len x.2.1)) (ob (qfP (x_1.2.2.1,nth x.2.1 (nat x_1.2.1) (u8 0),())) fun a=>sel (lt 0 (len a.2.1)) (ck (rm 32 (nadd (ln x_1.1) (ln [a.2.1]))) (some (LS.nx (app x_1.1 [a.2.1],i64 (iadd x_1.2.1 1),a.1,())))) (some (LS.nx (x_1.1,i64 (iadd x_1.2.1 1),a.1,()))))) (some (LS.ex 0 (x_1.1,x_1.2.1,x_1.2.2.1,())))) (none' BB,0,x.1,())) (fun (a:tw_)=>none) (fun (i:Nat) (a:tw_)=>ck (neb i 0) (some (a.2.2.1,a.1,()))) fun (r:tK_)=>some r
noncomputable def qfG (x:tf_):Option (tf_):=ob (qrC ((none' UInt8,0,0,()),x.1,())) fun a=>sel (bnot (beq (len a.2.1) 1)) (some (none' UInt8,())) (ck (inB 0 (len a.2.1)) (some (nth a.2.1 (nat 0) (none' UInt8),())))
noncomputable def kL (x:tv_):Option (tl_):=ob (qcA (x.1,x.2.1,x.2.2.1,())) fun a=>sel (bnot (beq a.2.2.1 0)) (some (-1,())) (some (a.1,()))
noncomputable def yQ (x:tl_):Option (td_):=ob (sel (le 0 x.1) (some (le x.1 4611686018427387904,())) (some (false,()))) fun a=>some (a.1,())
noncomputable def qc2 (x:Tf_):Option (td_):=ck (inB 0 (ofn 2)) (ob (yQ (nth x.1.2.2.1 (nat 0) 0,())) fun a=>ck (inB 1 (ofn 2)) (ob (yQ (nth x.1.2.2.1 (nat 1) 0,())) fun a_1=>ob (yQ (x.1.2.2.2.2.1,())) fun a_2=>ob (sel a.1 (sel a_1.1 (sel a_2.1 (sel (beq x.1.1 1) (sel (beq x.1.2.1 0) (sel (le 0 x.1.2.2.2.1) (sel (le x.1.2.2.2.1 2147483647) (sel (le 1 (len x.1.2.2.2.2.2.1)) (some (le (len x.1.2.2.2.2.2.1) 900,())) (some (false,()))) (some (false,()))) (some (false,()))) (sel (beq x.1.2.1 1) (sel (le 0 x.1.2.2.2.1) (sel (le x.1.2.2.2.1 2147483647) (sel (le 1 (len x.1.2.2.2.2.2.1)) (some (le (len x.1.2.2.2.2.2.1) 900,())) (some (false,()))) (some (false,()))) (some (false,()))) (some (false,())))) (sel (beq x.1.1 2) (sel (beq x.1.2.1 0) (sel (le 0 x.1.2.2.2.1) (sel (le x.1.2.2.2.1 2147483647) (sel (le 1 (len x.1.2.2.2.2.2.1)) (some (le (len x.1.2.2.2.2.2.1) 900,())) (some (false,()))) (some (false,()))) (some (false,()))) (sel (beq x.1.2.1 1) (sel (le 0 x.1.2.2.2.1) (sel (le x.1.2.2.2.1 2147483647) (sel (le 1 (len x.1.2.2.2.2.2.1)) (some (le (len x.1.2.2.2.2.2.1) 900,())) (some (false,()))) (some (false,()))) (some (false,()))) (some (false,())))) (some (false,())))) (some (false,()))) (some (false,()))) (some (false,()))) fun a=>some (a.1,())))
noncomputable def qaD (x:Tf_):Option (td_):=ob (qc2 (x.1,())) fun a=>ob (sel a.1 (some (beq (len x.1.2.2.2.2.2.2.1) 16,())) (some (false,()))) fun a=>some (a.1,())
noncomputable def qfM (x:tf_):Option (TEnv×Int×Unit):=sel (lt (len x.1) 47) (some ((0,0,[0,0],0,0,none' UInt8,none' UInt8,()),3,())) (sel (lt 946 (len x.1)) (some ((0,0,[0,0],0,0,none' UInt8,none' UInt8,()),4,())) (ob (kL (x.1,0,1,())) fun a=>ob (kL (x.1,1,1,())) fun a_1=>ob (kL (x.1,2,8,())) fun a_2=>ob (kL (x.1,10,8,())) fun a_3=>ob (kL (x.1,18,4,())) fun a_4=>ob (kL (x.1,22,8,())) fun a_5=>ck (inC 30 (i64 (isub (len x.1) 16)) (len x.1)) (ck (inC (i64 (isub (len x.1) 16)) (len x.1) (len x.1)) (ob (qaD ((a.1,a_1.1,[a_2.1,a_3.1],a_4.1,a_5.1,sub x.1 30 (i64 (isub (len x.1) 16)),sub x.1 (i64 (isub (len x.1) 16)) (len x.1),()),())) fun a_6=>sel (bnot a_6.1) (some ((0,0,[0,0],0,0,none' UInt8,none' UInt8,()),2,())) (some ((a.1,a_1.1,[a_2.1,a_3.1],a_4.1,a_5.1,sub x.1 30 (i64 (isub (len x.1) 16)),sub x.1 (i64 (isub (len x.1) 16)) (len x.1),()),0,()))))))
noncomputable def yK (x:Tb_):Option (Ta_):=lc (loop (fun (x_1:Td_)=>sel (lt x_1.1 4) (ck (inB x_1.1 (len [2,5,6,13])) (sel (beq (nth [2,5,6,13] (nat x_1.1) 0) x.2.1) (ck (inB x_1.1 (ofn 4)) (ck (inB x_1.1 (ofn 4)) (some (LS.nx (i64 (iadd x_1.1 1),((x_1.2.1.1.1,x_1.2.1.1.2.1,x_1.2.1.1.2.2.1,x_1.2.1.1.2.2.2.1,x_1.2.1.1.2.2.2.2.1,x_1.2.1.1.2.2.2.2.2.1,x_1.2.1.1.2.2.2.2.2.2.1,x_1.2.1.1.2.2.2.2.2.2.2.1,x_1.2.1.1.2.2.2.2.2.2.2.2.1,x_1.2.1.1.2.2.2.2.2.2.2.2.2.1,x_1.2.1.1.2.2.2.2.2.2.2.2.2.2.1,x_1.2.1.1.2.2.2.2.2.2.2.2.2.2.2.1,x_1.2.1.1.2.2.2.2.2.2.2.2.2.2.2.2.1,x_1.2.1.1.2.2.2.2.2.2.2.2.2.2.2.2.2.1,x_1.2.1.1.2.2.2.2.2.2.2.2.2.2.2.2.2.2.1,x_1.2.1.1.2.2.2.2.2.2.2.2.2.2.2.2.2.2.2.1,x_1.2.1.1.2.2.2.2.2.2.2.2.2.2.2.2.2.2.2.2.1,x_1.2.1.1.2.2.2.2.2.2.2.2.2.2.2.2.2.2.2.2.2.1,upd x_1.2.1.1.2.2.2.2.2.2.2.2.2.2.2.2.2.2.2.2.2.2.1 (nat x_1.1) (i64 (iadd (nth x_1.2.1.1.2.2.2.2.2.2.2.2.2.2.2.2.2.2.2.2.2.2.1 (nat x_1.1) 0) 1)),x_1.2.1.1.2.2.2.2.2.2.2.2.2.2.2.2.2.2.2.2.2.2.2),x_1.2.1.2),()))))) (some (LS.nx (i64 (iadd x_1.1 1),x_1.2.1,()))))) (some (LS.ex 0 (x_1.1,x_1.2.1,())))) (0,x.1,())) (fun (a:Td_)=>none) (fun (i:Nat) (a:Td_)=>ck (neb i 0) (some (a.2.1,()))) fun (r:Ta_)=>some r
noncomputable def v7 (x:tl_):Option (td_):=ob (sel (le 2 x.1) (some (le x.1 6,())) (some (false,()))) fun a=>some (a.1,())
noncomputable def kJ (x:TEnd×Unit):Option (tE_):=sel (beq x.1.1 0) (some ([x.1.2.2.2.2.2.1,x.1.2.2.2.2.2.2.1],())) (sel (beq x.1.1 1) (some ([x.1.2.2.2.2.2.2.1,x.1.2.2.2.2.2.1],())) (some ([0,0],())))
noncomputable def qfN (x:Tc_):Option (BB×Bool×Unit):=sel (lt x.2.1 1) (some (none' UInt8,false,())) (sel (beq x.1.1.1 x.2.1) (some (x.1.1.2.1,true,())) (sel (beq x.1.2.1.1 x.2.1) (some (x.1.2.1.2.1,true,())) (sel (beq x.1.2.2.1.1 x.2.1) (some (x.1.2.2.1.2.1,true,())) (some (none' UInt8,false,())))))
noncomputable def qgV (x:TEnd×TEnv×Unit):Option (td_):=ob (sel (bnot (beq x.2.1.2.1 (i64 (isub 1 x.1.1)))) (some (true,())) (sel (beq x.1.2.2.1 7) (some (true,())) (some (beq x.1.2.2.1 8,())))) fun a=>sel a.1 (some (true,())) (sel (beq x.2.1.1 1) (some (false,())) (ob (kJ (x.1,())) fun a=>ob (v7 (x.1.2.2.1,())) fun a_1=>ob (qfN (x.1.2.2.2.2.2.2.2.2.2.2.1,x.2.1.2.2.2.1,())) fun a_2=>ob (sel (bnot a_1.1) (some (true,())) (sel (bnot a_2.2.1) (some (true,())) (ck (inB 0 (ofn 2)) (ck (inB 0 (ofn 2)) (sel (bnot (beq (nth x.2.1.2.2.1 (nat 0) 0) (nth a.1 (nat 0) 0))) (some (true,())) (ck (inB 1 (ofn 2)) (ck (inB 1 (ofn 2)) (some (bnot (beq (nth x.2.1.2.2.1 (nat 1) 0) (nth a.1 (nat 1) 0)),()))))))))) fun a=>some (a.1,())))
noncomputable def qlL (x:tf_):Option (tf_):=ob (qbH (x.1,[98,97,115,101],none' BB,())) fun a=>some (a.1,())
noncomputable def j0 (x:te_):Option (tf_):=ob (wF (x.1,x.2.1,())) fun a=>some (a.1,())
noncomputable def yL (x:Tf_):Option (tb_):=ob (qc2 (x.1,())) fun a=>sel (bnot a.1) (some (none' UInt8,1,())) (ob (j0 (x.1.1,1,())) fun a=>ob (j0 (x.1.2.1,1,())) fun a_1=>ck (rm 1 (nadd (ln a.1) (ln a_1.1))) (ck (inB 0 (ofn 2)) (ob (j0 (nth x.1.2.2.1 (nat 0) 0,8,())) fun a_2=>ck (rm 1 (nadd (ln (app a.1 a_1.1)) (ln a_2.1))) (ck (inB 1 (ofn 2)) (ob (j0 (nth x.1.2.2.1 (nat 1) 0,8,())) fun a_3=>ck (rm 1 (nadd (ln (app (app a.1 a_1.1) a_2.1)) (ln a_3.1))) (ob (j0 (x.1.2.2.2.1,4,())) fun a_4=>ck (rm 1 (nadd (ln (app (app (app a.1 a_1.1) a_2.1) a_3.1)) (ln a_4.1))) (ob (j0 (x.1.2.2.2.2.1,8,())) fun a_5=>ck (rm 1 (nadd (ln (app (app (app (app a.1 a_1.1) a_2.1) a_3.1) a_4.1)) (ln a_5.1))) (ck (rm 1 (nadd (ln (app (app (app (app (app a.1 a_1.1) a_2.1) a_3.1) a_4.1) a_5.1)) (ln x.1.2.2.2.2.2.1))) (some (app (app (app (app (app (app a.1 a_1.1) a_2.1) a_3.1) a_4.1) a_5.1) x.1.2.2.2.2.2.1,0,()))))))))))
noncomputable def qaJ (x:tJ_):Option (tf_):=ob (qfS (x.1,x.2.1,())) fun a=>ck (inC 0 16 (len a.1)) (some (cut a.1 (nat 0) (nsub (nat 16) (nat 0)),()))
noncomputable def qjM (x:Te_):Option (td_):=lc (loop (fun (x_1:ta_)=>sel (lt x_1.2.1 (len x.1.2.1)) (ck (inB x_1.2.1 (len x.1.2.1)) (ob (zV ((nth x.1.2.1 (nat x_1.2.1) (none' UInt8,none' UInt8,())).1,x.2.1,())) fun a=>ob (sel a.1 (ck (inB x_1.2.1 (len x.1.2.1)) (ob (zV ((nth x.1.2.1 (nat x_1.2.1) (none' UInt8,none' UInt8,())).2.1,x.2.2.1,())) fun a=>some (a.1,()))) (some (false,()))) fun a=>sel a.1 (some (LS.rt (true,()))) (some (LS.nx (x_1.1,i64 (iadd x_1.2.1 1),()))))) (some (LS.ex 0 (x_1.1,x_1.2.1,())))) (false,0,())) (fun (a:ta_)=>none) (fun (i:Nat) (a:ta_)=>ck (neb i 0) (some (false,()))) fun (r:td_)=>some r
noncomputable def qdA (x:qa2×BB×BB×BB×Unit):Option (qa2×Bool×Unit):=ob (qaJ (x.2.1,x.2.2.1,())) fun a=>ob (zV (a.1,x.2.2.2.1,())) fun a=>sel (bnot a.1) (some (x.1,false,())) (ob (qjM (x.1,x.2.1,x.2.2.1,())) fun a=>sel (bnot a.1) (sel a.1 (some ((x.1.1,x.1.2.1,true,x.1.2.2.2),true,())) (some ((x.1.1,x.1.2.1,true,x.1.2.2.2),bnot x.1.1,()))) (sel a.1 (some (x.1,true,())) (some (x.1,bnot x.1.1,()))))
noncomputable def qaF (x:tl_):Option (UInt64×Unit):=lc (loop (fun (x_1:tU_)=>sel (lt x_1.2.1 x.1) (some (LS.nx (u64 (imul (n64 (u64 2)) (n64 x_1.1)),i64 (iadd x_1.2.1 1),()))) (some (LS.ex 0 (x_1.1,x_1.2.1,())))) (u64 1,0,())) (fun (a:tU_)=>none) (fun (i:Nat) (a:tU_)=>ck (neb i 0) (some (a.1,()))) fun (r:UInt64×Unit)=>some r
noncomputable def qbG (x:tr_):Option (td_):=ck (inB (i64 (idiv x.2.1 64)) (ofn 16)) (ob (qaF (imod x.2.1 64,())) fun a=>ck (bnot (beq (n64 a.1) 0)) (some (beq (n64 (u64 (imod (n64 (u64 (idiv (n64 (nth x.1.2.1 (nat (i64 (idiv x.2.1 64))) (u64 0))) (n64 a.1)))) (n64 (u64 2))))) (n64 (u64 1)),())))
noncomputable def qg6 (x:tr_):Option (td_):=ob (sel (lt x.2.1 0) (some (true,())) (sel (lt 4611686018427387904 x.2.1) (some (true,())) (some (lt x.2.1 (i64 (isub x.1.1 1024)),())))) fun a=>sel a.1 (some (false,())) (ob (sel (le x.1.1 x.2.1) (some (true,())) (ob (qbG (x.1,imod x.2.1 1024,())) fun a=>some (bnot a.1,()))) fun a=>some (a.1,()))
noncomputable def qg4 (x:(Int×List UInt64×Unit)×Unit):Option (tE_):=lc (loop (fun (x_1:tq_)=>sel (lt x_1.2.1 x.1.1) (ob (qbG (x.1,imod x_1.2.1 1024,())) fun a=>sel a.1 (ck (rm 32 (nadd (ln x_1.1) (ln [x_1.2.1]))) (some (LS.nx (app x_1.1 [x_1.2.1],i64 (iadd x_1.2.1 1),())))) (some (LS.nx (x_1.1,i64 (iadd x_1.2.1 1),())))) (some (LS.ex 0 (x_1.1,x_1.2.1,())))) (none' Int,maxI 0 (i64 (isub x.1.1 1024)),())) (fun (a:tq_)=>none) (fun (i:Nat) (a:tq_)=>ck (neb i 0) (some (a.1,()))) fun (r:tE_)=>some r
noncomputable def qfO (x:tr_):Option (tr_):=ob (sel (lt x.2.1 0) (some (true,())) (some (lt 4611686018427387904 x.2.1,()))) fun a=>sel a.1 (some (x.1,1,())) (ob (qg6 (x.1,x.2.1,())) fun a=>sel (bnot a.1) (some (x.1,6,())) (ob (sel (le x.1.1 x.2.1) (some (i64 (iadd x.2.1 1),())) (some (x.1.1,()))) fun a=>ob (qg4 (x.1,())) fun a_1=>ck (rm 32 (nadd (ln a_1.1) (ln [x.2.1]))) (lc (loop (fun (x_1:tC_)=>sel (lt x_1.1 (len (app a_1.1 [x.2.1]))) (ck (inB x_1.1 (len (app a_1.1 [x.2.1]))) (ck (inB x_1.1 (len (app a_1.1 [x.2.1]))) (sel (le (i64 (isub a.1 1024)) (nth (app a_1.1 [x.2.1]) (nat x_1.1) 0)) (ck (inB (i64 (idiv (imod (nth (app a_1.1 [x.2.1]) (nat x_1.1) 0) 1024) 64)) (ofn 16)) (ob (qaF (imod (imod (nth (app a_1.1 [x.2.1]) (nat x_1.1) 0) 1024) 64,())) fun a=>ck (inB (i64 (idiv (imod (nth (app a_1.1 [x.2.1]) (nat x_1.1) 0) 1024) 64)) (ofn 16)) (some (LS.nx (i64 (iadd x_1.1 1),(x_1.2.1.1,upd x_1.2.1.2.1 (nat (i64 (idiv (imod (nth (app a_1.1 [x.2.1]) (nat x_1.1) 0) 1024) 64))) (u64 (iadd (n64 (nth x_1.2.1.2.1 (nat (i64 (idiv (imod (nth (app a_1.1 [x.2.1]) (nat x_1.1) 0) 1024) 64))) (u64 0))) (n64 a.1))),x_1.2.1.2.2),()))))) (some (LS.nx (i64 (iadd x_1.1 1),x_1.2.1,())))))) (some (LS.ex 0 (x_1.1,x_1.2.1,())))) (0,(a.1,[u64 0,u64 0,u64 0,u64 0,u64 0,u64 0,u64 0,u64 0,u64 0,u64 0,u64 0,u64 0,u64 0,u64 0,u64 0,u64 0],()),())) (fun (a:tC_)=>none) (fun (i:Nat) (a:tC_)=>ck (neb i 0) (some (a.2.1,0,()))) fun (r:tr_)=>some r)))
noncomputable def qfH (x:kG×BB×Unit):Option (kG×TEnv×Int×Unit):=ob (qfM (x.2.1,())) fun a=>sel (bnot (beq a.2.1 0)) (ob (yK (x.1,2,())) fun a=>some (a.1,(0,0,[0,0],0,0,none' UInt8,none' UInt8,()),2,())) (ob (qgV (x.1.1,a.1,())) fun a_1=>sel a_1.1 (ob (yK (x.1,13,())) fun a=>some (a.1,(0,0,[0,0],0,0,none' UInt8,none' UInt8,()),13,())) (ob (qlL (x.1.1.2.1,())) fun a_2=>sel (beq a.1.1 2) (ob (qfN (x.1.1.2.2.2.2.2.2.2.2.2.2.1,a.1.2.2.2.1,())) fun a_3=>ob (yL (a.1,())) fun a_4=>ob (qdA (x.1.2.1,a_3.1,a_4.1,a.1.2.2.2.2.2.2.1,())) fun a_5=>sel (bnot a_5.2.1) (ob (yK ((x.1.1,a_5.1,x.1.2.2),5,())) fun a=>some (a.1,(0,0,[0,0],0,0,none' UInt8,none' UInt8,()),5,())) (sel (beq a.1.1 1) (some ((x.1.1,a_5.1,x.1.2.2),a.1,0,())) (ob (qfO (x.1.1.2.2.2.2.2.2.2.2.2.1,a.1.2.2.2.2.1,())) fun a_6=>sel (bnot (beq a_6.2.1 0)) (ob (yK ((x.1.1,a_5.1,x.1.2.2),6,())) fun a=>some (a.1,(0,0,[0,0],0,0,none' UInt8,none' UInt8,()),6,())) (ob (sel (beq x.1.1.2.2.2.2.2.2.2.2.2.2.1.2.2.1.1 a.1.2.2.2.1) (some (bnot (beq x.1.1.2.2.1 4),())) (some (false,()))) fun a_7=>sel a_7.1 (ob (qcK (x.1.1.2.2.2.2.2.2.2.2.2.2.1,())) fun a_8=>some (((x.1.1.1,x.1.1.2.1,x.1.1.2.2.1,x.1.1.2.2.2.1,x.1.1.2.2.2.2.1,x.1.1.2.2.2.2.2.1,x.1.1.2.2.2.2.2.2.1,x.1.1.2.2.2.2.2.2.2.1,x.1.1.2.2.2.2.2.2.2.2.1,a_6.1,a_8.1,x.1.1.2.2.2.2.2.2.2.2.2.2.2),a_5.1,x.1.2.2),a.1,0,())) (some (((x.1.1.1,x.1.1.2.1,x.1.1.2.2.1,x.1.1.2.2.2.1,x.1.1.2.2.2.2.1,x.1.1.2.2.2.2.2.1,x.1.1.2.2.2.2.2.2.1,x.1.1.2.2.2.2.2.2.2.1,x.1.1.2.2.2.2.2.2.2.2.1,a_6.1,x.1.1.2.2.2.2.2.2.2.2.2.2),a_5.1,x.1.2.2),a.1,0,())))))) (ob (yL (a.1,())) fun a_3=>ob (qdA (x.1.2.1,a_2.1,a_3.1,a.1.2.2.2.2.2.2.1,())) fun a_4=>sel (bnot a_4.2.1) (ob (yK ((x.1.1,a_4.1,x.1.2.2),5,())) fun a
 => some (a.1,(0,0,[0,0],0,0,none' UInt8,none' UInt8,()),5,())) (sel (beq a.1.1 1) (some ((x.1.1,a_4.1,x.1.2.2),a.1,0,())) (ob (qfO (x.1.1.2.2.2.2.2.2.2.2.2.1,a.1.2.2.2.2.1,())) fun a_5=>sel (bnot (beq a_5.2.1 0)) (ob (yK ((x.1.1,a_4.1,x.1.2.2),6,())) fun a=>some (a.1,(0,0,[0,0],0,0,none' UInt8,none' UInt8,()),6,())) (ob (sel (beq x.1.1.2.2.2.2.2.2.2.2.2.2.1.2.2.1.1 a.1.2.2.2.1) (some (bnot (beq x.1.1.2.2.1 4),())) (some (false,()))) fun a_6=>sel a_6.1 (ob (qcK (x.1.1.2.2.2.2.2.2.2.2.2.2.1,())) fun a_7=>some (((x.1.1.1,x.1.1.2.1,x.1.1.2.2.1,x.1.1.2.2.2.1,x.1.1.2.2.2.2.1,x.1.1.2.2.2.2.2.1,x.1.1.2.2.2.2.2.2.1,x.1.1.2.2.2.2.2.2.2.1,x.1.1.2.2.2.2.2.2.2.2.1,a_5.1,a_7.1,x.1.1.2.2.2.2.2.2.2.2.2.2.2),a_4.1,x.1.2.2),a.1,0,())) (some (((x.1.1.1,x.1.1.2.1,x.1.1.2.2.1,x.1.1.2.2.2.1,x.1.1.2.2.2.2.1,x.1.1.2.2.2.2.2.1,x.1.1.2.2.2.2.2.2.1,x.1.1.2.2.2.2.2.2.2.1,x.1.1.2.2.2.2.2.2.2.2.1,a_5.1,x.1.1.2.2.2.2.2.2.2.2.2.2),a_4.1,x.1.2.2),a.1,0,()))))))))
noncomputable def vG (x:Ti_):Option (kG×jZ×Bool×Unit):=sel (beq (len x.1.1.2.2.2.2.2.2.2.2.2.2.2.2.2.2.2.2.1) 0) (some (x.2.1,(false,0,0,0,0,none' UInt8,none' UInt8,0,()),false,())) (ck (inB (i64 (isub (len x.1.1.2.2.2.2.2.2.2.2.2.2.2.2.2.2.2.2.1) 1)) (len x.1.1.2.2.2.2.2.2.2.2.2.2.2.2.2.2.2.2.1)) (ob (qfG ((nth x.1.1.2.2.2.2.2.2.2.2.2.2.2.2.2.2.2.2.1 (nat (i64 (isub (len x.1.1.2.2.2.2.2.2.2.2.2.2.2.2.2.2.2.2.1) 1))) (0,none' UInt8,())).2.1,())) fun a=>ob (qfH ((x.2.1.1,x.1.2.1,x.2.1.2.2),a.1,())) fun a=>ob (qfJ (a.2.1.2.2.2.2.2.1,())) fun a_1=>sel (beq a.2.2.1 0) (some (a.1,a_1.1,beq a_1.2.1 0,())) (some (a.1,a_1.1,false,()))))
noncomputable def qhO (x:Unit):Option (td_):=ob (qaP (u8 1,1,())) fun a=>ck (band (inC 0 8 8) (rm 1 (nat 8))) (ob (qi9 (a.1,rep (nat 8) (u8 0),())) fun a_1=>ob (vG (a_1.1,a.2.1,())) fun a=>ob (sel (bnot (beq a_1.2.1 0)) (some (true,())) (sel (bnot a.2.2.1) (some (true,())) (sel (bnot (beq a_1.1.1.2.2.1 4)) (some (true,())) (sel (bnot a.2.1.1) (some (true,())) (some (bnot (beq a.2.1.2.2.2.2.1 2),())))))) fun a_2=>sel a_2.1 (some (false,())) (ob (xH (a.1,a.2.1,())) fun a=>ob (vG (a.1,a_1.1,())) fun a_3=>ob (qa4 (a_3.1,a_3.2.1,())) fun a_4=>ck (band (inC 0 7 7) (rm 1 (nat 7))) (ob (qi9 (a_4.1,rep (nat 7) (u8 0),())) fun a_5=>ob (sel a_3.2.2.1 (sel (beq a_3.2.1.2.2.2.1 0) (sel (beq a_4.1.1.2.2.1 3) (sel (beq a_4.1.1.2.2.2.2.2.2.2.2.2.2.1.1.1 2) (sel (beq a_4.1.1.2.2.2.2.2.2.2.2.2.2.1.2.1.1 1) (sel (beq a.1.1.2.2.2.2.2.2.2.2.2.2.1.2.2.1.1 2) (ob (zV (a.1.1.2.2.2.2.2.2.2.2.2.2.1.2.2.1.2.1,a_4.1.1.2.2.2.2.2.2.2.2.2.2.1.1.2.1,())) fun a=>sel a.1 (sel (beq a_4.1.1.2.2.2.2.2.2.2.2.2.2.2.1.1 301) (sel (beq a_5.2.1 1) (ob (qcX (a_1.1,())) fun a=>some (beq a.1.1.2.2.1 3,())) (some (false,()))) (some (false,()))) (some (false,()))) (some (false,()))) (some (false,()))) (some (false,()))) (some (false,()))) (some (false,()))) (some (false,()))) fun a=>some (a.1,()))))
noncomputable def wA (x:TEnd×Int×BB×Unit):Option (tf_):=ob (kJ (x.1,())) fun a=>ob (kW (x.1.2.1,a.1,x.2.1,x.2.2.1,())) fun a=>some (a.1,())
noncomputable def qo4 (x:tf_):Option (tf_):=ck (band (inC 0 8 8) (rm 1 (nat 8))) (ob (qfS (x.1,rep (nat 8) (u8 0),())) fun a=>ck (inC 0 3 (len a.1)) (some (cut a.1 (nat 0) (nsub (nat 3) (nat 0)),())))
noncomputable def wB (x:tH_):Option (td_):=ob (sel (beq x.1.1 x.2.1.1) (ob (zV (x.1.2.1,x.2.1.2.1,())) fun a=>some (a.1,())) (some (false,()))) fun a=>some (a.1,())
noncomputable def yS (x:jF×jF×Unit):Option (td_):=ob (wB (x.1.1,x.2.1.1,())) fun a=>ob (wB (x.1.2.1,x.2.1.2.1,())) fun a_1=>ob (wB (x.1.2.2.1,x.2.1.2.2.1,())) fun a_2=>ob (sel a.1 (sel a_1.1 (sel a_2.1 (sel (beq x.1.2.2.2.1 x.2.1.2.2.2.1) (some (beq x.1.2.2.2.2.1 x.2.1.2.2.2.2.1,())) (some (false,()))) (some (false,()))) (some (false,()))) (some (false,()))) fun a=>some (a.1,())
noncomputable def xN (x:kG×kG×Int×Unit):Option (td_):=sel (bnot (beq (len x.2.1.1.2.2.2.2.2.2.2.2.2.2.2.2.2.2.2.2.1) (i64 (iadd (len x.1.1.2.2.2.2.2.2.2.2.2.2.2.2.2.2.2.2.1) 1)))) (some (false,())) (ck (inB (len x.1.1.2.2.2.2.2.2.2.2.2.2.2.2.2.2.2.2.1) (len x.2.1.1.2.2.2.2.2.2.2.2.2.2.2.2.2.2.2.2.1)) (ob (qfG ((nth x.2.1.1.2.2.2.2.2.2.2.2.2.2.2.2.2.2.2.2.1 (nat (len x.1.1.2.2.2.2.2.2.2.2.2.2.2.2.2.2.2.2.1)) (0,none' UInt8,())).2.1,())) fun a=>ob (qfM (a.1,())) fun a=>ob (qfJ (a.1.2.2.2.2.2.1,())) fun a_1=>ob (sel (beq a.2.1 0) (sel (beq a_1.2.1 0) (sel (bnot a_1.1.1) (sel (beq a_1.1.2.1 101) (sel (beq a_1.1.2.2.2.1 x.2.2.1) (some (beq a_1.1.2.2.1 9,())) (some (false,()))) (some (false,()))) (some (false,()))) (some (false,()))) (some (false,()))) fun a=>some (a.1,())))
noncomputable def yF (x:(UInt8×UInt8×UInt8×BB×Unit)×Unit):Option (td_):=ob (qhO ()) fun a=>ob (qaP (x.1.1,i64 (iadd 1 (imod (i64 (n8 x.1.2.1)) 5)),())) fun a_1=>ob (wA (a_1.2.1.1,i64 (iadd 1 (imod (i64 (n8 x.1.2.2.1)) 8)),[u8 1,u8 2,u8 3,u8 4,u8 5,u8 6,u8 7,u8 8],())) fun a_2=>ob (qo4 (a_2.1,())) fun a_3=>ck (inC 0 (ofn 3) (ofn 3)) (ob (xH (a_1.2.1,(true,101,9,0,i64 (iadd 1 (imod (i64 (n8 x.1.2.2.1)) 8)),[u8 1,u8 2,u8 3,u8 4,u8 5,u8 6,u8 7,u8 8],cut x.1.2.2.2.1 (nat 0) (nsub (nat (ofn 3)) (nat 0)),0,()),())) fun a_4=>ob (xH (a_1.2.1,(true,101,9,0,i64 (iadd 1 (imod (i64 (n8 x.1.2.2.1)) 8)),[u8 1,u8 2,u8 3,u8 4,u8 5,u8 6,u8 7,u8 8],a_3.1,0,()),())) fun a_5=>ck (band (neb (ln x.1.2.2.2.1) 3) (inC 0 (ofn 3) (ofn 3))) (ob (zV (a_3.1,sub x.1.2.2.2.1 0 (ofn 3),())) fun a_6=>ob (sel (bnot a_6.1) (ob (yS (a_4.1.1.2.2.2.2.2.2.2.2.2.2.1,a_1.2.1.1.2.2.2.2.2.2.2.2.2.2.1,())) fun a=>sel (bnot a.1) (some (true,())) (ob (xN (a_1.2.1,a_4.1,63,())) fun a=>some (bnot a.1,()))) (some (false,()))) fun a_7=>sel a_7.1 (some (false,())) (sel (lt (i64 (iadd 1 (imod (i64 (n8 x.1.2.2.1)) 8))) (i64 (iadd 1 (imod (i64 (n8 x.1.2.1)) 5)))) (ob (sel a.1 (sel (beq (len a_5.1.1.2.2.2.2.2.2.2.2.2.2.2.2.2.2.2.2.1) 0) (ck (inB 3 (ofn 4)) (sel (beq (nth a_5.1.1.2.2.2.2.2.2.2.2.2.2.2.2.2.2.2.2.2.2.1 (nat 3) 0) 1) (ob (yS (a_5.1.1.2.2.2.2.2.2.2.2.2.2.1,a_1.2.1.1.2.2.2.2.2.2.2.2.2.2.1,())) fun a=>some (a.1,())) (some (false,())))) (some (false,()))) (some (false,()))) fun a=>some (a.1,())) (ob (sel a.1 (ob (xN (a_1.2.1,a_5.1,0,())) fun a=>sel a.1 (some (beb (beq a_5.1.1.2.2.2.2.2.2.2.2.2.2.1.2.2.1.1 (i64 (iadd 1 (imod (i64 (n8 x.1.2.2.1)) 8)))) (lt (i64 (iadd 1 (imod (i64 (n8 x.1.2.1)) 5))) (i64 (iadd 1 (imod (i64 (n8 x.1.2.2.1)) 8)))),())) (some (false,()))) (some
 (false,()))) fun a=>some (a.1,())))))
end Yp
namespace Yp
open Go Go.Proofs Tryz
abbrev yS10:Ty := .unit
abbrev yS6:Ty := .int .u8
abbrev yS20:Ty := .pair yS6 (.pair yS6 (.pair yS6 (.pair (.ar 3 yS6) yS10)))
abbrev yS19:Ty := .pair yS6 (.pair yS6 (.pair (.ar 8 yS6) (.pair yS6 yS10)))
abbrev yS18:Ty := .pair yS6 (.pair yS6 (.pair (.ar 8 yS6) (.pair (.bool) yS10)))
abbrev yS17:Ty := .pair yS6 (.pair yS6 (.pair (.ar 8 yS6) (.pair (.ar 8 yS6) yS10)))
abbrev yS14:Ty := .sl yS6
abbrev yS3:Ty := .int .i64
abbrev yS21:Ty := .pair yS3 (.pair yS3 (.pair (.bool) (.pair yS6 yS10)))
abbrev yS13:Ty := .pair yS3 (.pair (.ar 16 (.int .u64)) yS10)
abbrev yS7:Ty := .pair yS3 (.pair yS3 yS10)
abbrev yS8:Ty := .pair (.ar 4 (.bool)) (.pair (.ar 4 (.pair yS14 yS7)) (.pair (.ar 4 yS3) (.pair yS3 yS10)))
abbrev yS4:Ty := .pair (.bool) (.pair yS3 (.pair yS3 (.pair yS3 (.pair yS3 (.pair yS14 (.pair yS14 (.pair yS3 yS10)))))))
abbrev yS2:Ty := .pair yS14 (.pair yS14 yS10)
abbrev yS16:Ty := .pair yS3 (.pair yS3 (.pair (.ar 2 yS3) (.pair yS3 (.pair yS3 yS2))))
abbrev yS11:Ty := .pair (.bool) (.pair (.sl yS2) (.pair (.bool) yS10))
abbrev yS1:Ty := .pair yS3 (.pair yS14 yS10)
abbrev yS15:Ty := .pair yS3 (.pair yS3 (.pair yS3 yS1))
abbrev yS12:Ty := .pair yS3 (.pair (.ar 2 yS3) yS1)
abbrev yS9:Ty := .pair yS1 (.pair yS1 (.pair yS1 yS7))
abbrev yS0:Ty := .pair yS3 (.pair yS14 (.pair yS3 (.pair yS2 (.pair yS3 (.pair yS3 (.pair yS3 (.pair yS3 (.pair yS3 (.pair yS13 (.pair yS9 (.pair yS15 (.pair yS3 (.pair yS3 (.pair (.sl yS14) (.pair yS8 (.pair (.sl yS1) (.pair (.sl yS12) (.pair (.ar 4 yS3) yS10))))))))))))))))))
abbrev yS5:Ty := .pair yS0 (.pair yS11 yS10)
abbrev yS22:Ty := .pair yS5 (.pair yS3 (.pair yS4 (.pair yS14 yS10)))
def TT:List (Nat×Ty):=[(1,(.op 0)),(2,yS3),(3,yS3),(4,(.bool)),(5,yS6),(6,yS6),(7,yS21),(8,yS21),(9,(.str)),(10,(.str)),(11,(.str)),(12,(.int .u64)),(13,(.pair (.str) (.pair (.int .u64) yS10))),(14,(.pair (.str) (.pair (.int .u64) yS10))),(15,(.op 3)),(16,(.op 3)),(17,(.op 3)),(18,(.pair (.op 3) yS10)),(19,(.pair (.op 3) yS10)),(20,(.op 1)),(21,(.int .i32)),(22,yS14),(23,yS2),(24,yS2),(25,(.int .u64)),(26,(.ar 16 (.int .u64))),(27,yS13),(28,yS13),(29,yS1),(30,yS1),(31,yS9),(32,yS9),(33,yS15),(34,yS15),(35,(.sl yS14)),(36,(.ar 4 (.bool))),(37,(.pair yS14 yS7)),(38,(.pair yS14 yS7)),(39,(.ar 4 (.pair yS14 yS7))),(40,(.ar 4 yS3)),(41,yS8),(42,yS8),(43,(.sl yS1)),(44,(.sl yS12)),(45,yS0),(46,yS0),(47,(.sl yS2)),(48,yS11),(49,yS11),(50,yS5),(51,yS5),(52,(.op 0)),(53,(.op 0)),(54,yS3),(56,(.op 0)),(58,(.op 0)),(59,(.op 0)),(60,(.op 0)),(61,(.op 0)),(62,yS4),(63,yS4),(64,(.op 0)),(65,(.op 0)),(66,(.op 0)),(67,(.op 0)),(68,(.sl yS5)),(69,(.op 0)),(70,(.ar 2 yS3)),(71,(.op 0)),(72,(.op 0)),(73,(.ar 8 yS6)),(74,yS18),(75,yS18),(77,(.op 0)),(79,(.op 0)),(80,(.op 0)),(81,(.op 0)),(82,(.op 0)),(83,yS17),(84,yS17),(85,(.op 0)),(86,(.op 0)),(87,yS19),(88,yS19),(89,(.op 0)),(90,(.op 0)),(91,(.op 0)),(92,(.ar 3 yS6)),(93,yS20),(94,yS20),(95,(.op 0)),(96,(.op 0)),(97,(.op 0)),(98,(.op 0)),(99,(.op 0)),(100,(.op 0)),(101,(.sl yS3)),(102,(.op 0)),(103,(.op 0)),(104,(.op 0)),(106,(.op 0)),(107,(.op 0)),(109,(.op 0)),(110,yS1),(111,yS1),(112,(.op 0)),(114,(.op 0)),(116,(.op 0)),(117,(.op 0)),(118,(.op 0)),(119,(.op 0)),(120,(.op 0)),(121,(.int .u16)),(122,(.op 0)),(123,(.op 0)),(125,(.op 0)),(126,yS16),(127,yS16),(129,(.op 0)),(130,yS12),(131,yS12),(132,(.op 0)),(133,yS22),(134,yS22),(135,(.op 0)),(136,(.sl yS1)),(137,(.pair yS3 (.pair (.sl yS1) yS10))),(138,(.pair yS3 (.pair (.sl yS1) yS10))),(140,(.op 0)),(142,(.op 0)),(144,(.op 0)),(145,(.op 0)),(146,(.op 0)),(147,(.op 0)),(148,(.int .u32)),(150,(.op 0)),(151,yS1),(152,yS1),(153,(.op 0)),(155,(.op 0)),(156,(.op 0)),(157,(.op 0)),(158,(.op 0)),(160,(.op 0)),(162,(.op 0)),(163,(.op 0)),(164,(.op 0)),(166,(.op 0)),(167,(.pair yS0 yS10)),(168,(.pair yS0 yS10)),(169,(.pair (.pair yS0 yS10) (.pair yS5 yS10))),(170,(.pair (.pair yS0 yS10) (.pair yS5 yS10))),(171,(.op 0)),(172,(.op 0)),(174,(.op 0)),(176,(.op 0)),(177,(.op 0)),(179,(.op 0)),(180,(.op 0)),(181,(.op 0)),(183,(.op 0)),(184,(.op 0)),(185,(.op 0)),(186,(.op 0)),(187,(.op 0)),(188,(.op 0)),(189,(.op 0)),(190,(.op 0)),(191,(.op 0)),(192,(.op 0)),(193,(.op 0)),(194,(.op 0)),(195,(.op 0)),(196,(.op 0)),(197,(.op 0)),(198,(.op 0)),(199,(.op 0)),(200,(.op 0)),(201,(.op 0)),(202,(.op 0)),(203,(.op 0)),(204,(.op 0)),(206,(.op 0)),(207,(.op 0)),(209,(.op 0)),(210,(.op 0)),(211,(.pair (.op 0) (.pair (.op 0) yS10))),(212,(.pair (.op 0) (.pair (.op 0) yS10))),(214,(.op 2)),(215,(.op 0)),(216,(.op 0)),(217,(.op 0)),(219,(.op 0)),(220,(.op 0)),(221,(.op 0)),(222,(.op 0)),(223,(.op 0)),(224,(.op 0)),(225,(.op 0)),(226,(.op 0)),(228,(.op 0)),(230,(.op 0)),(231,(.op 0)),(232,(.op 0)),(233,(.op 0)),(235,(.op 0)),(236,(.op 0)),(238,(.op 0)),(239,(.op 0)),(241,(.op 0)),(242,(.op 0)),(243,(.op 0)),(244,(.op 0)),(246,(.op 0)),(248,(.op 0)),(250,(.op 0)),(251,yS7),(252,yS7),(254,(.op 0)),(256,(.op 0)),(257,(.op 0)),(258,(.op 0)),(259,(.op 0)),(260,(.op 0)),(261,(.op 0)),(262,(.op 0)),(263,(.op 0)),(264,(.op 0)),(265,(.op 0)),(266,(.op 0)),(267,(.op 0)),(268,(.op 0)),(270,(.op 0)),(272,(.op 0)),(273,(.op 0)),(274,(.op 0)),(275,yS2),(276,yS2),(277,(.pair yS9 yS10)),(278,(.pair yS9 yS10)),(279,(.op 2)),(280,(.op 0)),(281,(.op 0)),(282,(.op 0)),(283,(.op 0)),(284,(.ar 4 yS3)),(285,(.op 0)),(286,(.op 0)),(287,(.op 0)),(288,(.op 0)),(289,(.op 0)),(290,(.op 0)),(292,(.op 0)),(294,(.op 0)),(295,(.op 0)),(296,(.op 0)),(297,(.op 0)),(298,(.op 0)),(299,(.op 0)),(301,(.op 0)),(303,(.op 0)),(304,(.op 0)),(306,(.op 0)),(308,(.op 0)),(309,(.op 0)),(310,(.fn [350])),(311,(.pair (.sl yS1) (.pair (.fn [350]) yS10))),(312,(.pair (.sl yS1) (.pair (.fn [350]) yS10))),(313,(.op 0)),(314,(.op 0)),(315,(.op 0)),(316,(.op 0)),(317,(.op 0)),(319,(.op 0)),(320,(.op 0)),(322,(.op 0)),(323,(.op 0)),(324,(.sl (.sl yS3))),(325,(.op 0)),(326,(.op 0)),(327,(.op 0)),(329,(.op 0)),(330,(.op 0)),(331,(.op 0)),(332,(.op 0)),(333,(.op 0)),(334,(.op 0)),(335,(.op 0)),(336,(.ar 3 yS1)),(337,(.op 0)),(338,(.op 0)),(339,(.op 0)),(340,(.ar 8 (.int .u32))),(341,(.pair (.ar 8 (.int .u32)) yS1)),(342,(.pair (.ar 8 (.int .u32)) yS1)),(343,(.op 0)),(344,(.op 0)),(345,(.op 0)),(346,(.op 0)),(347,(.fn [363,364,365,366])),(348,(.op 0)),(349,yS4),(350,(.op 0)),(351,(.op 0)),(353,(.op 0)),(354,(.op 0)),(356,(.op 0)),(357,(.op 0)),(358,(.op 0)),(359,(.op 0)),(360,(.op 0)),(361,(.op 0)),(363,(.op 0)),(365,(.op 0)),(366,(.op 0)),(367,(.op 0)),(368,(.op 0)),(369,(.op 0)),(370,(.op 0)),(371,(.op 0)),(372,(.op 0)),(373,(.op 0)),(374,(.op 0)),(375,(.int .u64)),(379,(.op 0)),(380,(.op 0)),(383,(.op 0)),(384,(.op 0)),(385,(.fn [359])),(387,(.op 0)),(388,(.op 0)),(389,(.op 0)),(390,(.sl (.int .u32))),(391,(.op 0)),(392,(.op 0)),(396,(.sl (.sl yS1))),(398,(.ar 64 (.int .u32))),(400,(.op 0)),(401,(.ar 3 yS3)),(403,(.op 0)),(404,yS2)]
def MM:List (Nat×Ty×Ty):=[(214, .int .i64, .pair (.op 0) (.pair (.op 0) (.unit))),(279, .int .i64, .int .i64)]
def CC:List Nat:=[28,40,70]
theorem hTT:qiY Tryz.prog (qH4 TT):=qGw _ _ (by kernel_rfl)
theorem hCC:qrU Tryz.prog (qH4 TT) (qJ7 CC):=qHt _ _ _ (by kernel_rfl)
theorem hMM:qiL Tryz.prog (qJ6 MM):=qC8 _ _ (by kernel_rfl)
theorem hMix:Tryz.prog.follows .mixedOrders=true:=by kernel_rfl
theorem hKK : ∀ g, (some 0 : Option Nat) = some g → Tryz.prog.globalNamed "yett/sha.keys" = some g := by intro g h; cases h; kernel_rfl
abbrev eN (G:List (Nat×wZ)) (I:List (Nat×Inl)):Env:={ T:=qH4 TT,G:=qDb G,I:=qDa I,M:=qJ6 MM,C:=qJ7 CC,K:=some 0 }
abbrev FK:=FOK Tryz.prog
abbrev IK:=qgL Tryz.prog
theorem mkC {G : List (Nat × wZ)} {I : List (Nat × Inl)} {f : Nat} {fn : Func} {s : wZ} (hG : ∀ f s, qDb G f = some s → FOK Tryz.prog f s) (hI : ∀ f g, qDa I f = some g → qgL Tryz.prog f g) (hf : Tryz.prog.funcs[f]? = some fn) (nv : Nat) (hn : (fn.name == "runtime.NumGoroutine") = false := by kernel_rfl) (hb : fn.body.isSome = true := by kernel_rfl)
  (he:∀ x,model (eN G I) fn nv s.args s.res x=s.fn x:=by intro x;kernel_rfl):FOK Tryz.prog f s:=(qLR (E:=eN G I) ⟨hTT,hCC,hMM,hG,hKK,hI,fun _ _ h=>by cases h⟩ hMix hf hn nv s.args s.res hb).congr he
theorem mkI {G : List (Nat × wZ)} {I : List (Nat × Inl)} {f : Nat} {fn : Func} (hG : ∀ f s, qDb G f = some s → FOK Tryz.prog f s) (hI : ∀ f g, qDa I f = some g → qgL Tryz.prog f g) (hf : Tryz.prog.funcs[f]? = some fn) (nv : Nat) (hn : (fn.name == "runtime.NumGoroutine") = false := by kernel_rfl) (hb : fn.body.isSome = true := by kernel_rfl) :
  qgL Tryz.prog f (inlF (eN G I) fn nv):=qPF (E:=eN G I) ⟨hTT,hCC,hMM,hG,hKK,hI,fun _ _ h=>by cases h⟩ hMix hf hn nv hb
noncomputable abbrev qlB:wZ:=⟨[yS14,yS14],[.im (.bool)],qd5⟩
theorem qAr:FK 126 qlB:=mkC qD qC func126 7
theorem qm5:FK 353 ⟨[yS3],[.im yS3, .im yS6],jW⟩:=mkC qD qC func353 4
end Yp
namespace Yp
open Go Go.Proofs
set_option maxRecDepth 100000
noncomputable abbrev qoG:wZ:=⟨[.sl (.int .u8)],[.ow (.int .u8)],qdU⟩
def qNz (c:Code):Code:=match c with | .seq a _=>a | _ => .skip
def qNy (c:Code):Code:=match c with | .seq _ (.seq (.seq c _) _)=>c | _ => .skip
def qPk (c:Code):Code:=match c with | .seq _ (.seq (.seq _ (.cond _ x _)) _)=>x | _ => .skip
def qPj (c:Code):Code:=match c with | .seq _ (.seq _ z)=>z | _ => .skip
def qm6 (f:Func):Code:=f.body.getD .skip
noncomputable def qMJ (f:Func) (nv:Nat) (ts:List Ty) (rs:List RTy) (x:denL ts):R (Out (denR rs)) :=
 fill f.ntmps (qiS ts x) 0 .e fun t=>R.bind (run (eN [] []) rs f.results.toList nv f.ntmps false (qNz (qm6 f)) ⟨t,[],[]⟩) fun | .nx s=>run (eN [] []) rs f.results.toList nv f.ntmps false (qNy (qm6 f)) s | o => .leaf o
theorem qBt {α:Type} {c:Bool} {a r:α} (h:ck c (some a)=some r):c=true∧a=r:=by
 cases c
 ·cases h
 ·exact ⟨rfl,Option.some.inj h⟩
theorem qKb {α:Type} {l:List α} (h:beq (len l) 0=true):l=[]:=by
 have h2:len l=0:=by unfold beq at h;exact beq_iff_eq.1 h
 unfold len at h2
 exact List.length_eq_zero_iff.1 (by omega)
theorem qBc:FOK Tryz.prog 371 qoG:=by
 refine qMI (E:=eN [] []) ⟨hTT,hCC,hMM,qD,hKK,qC,fun _ _ h=>by cases h⟩ hMix Tryz.func371 (by kernel_rfl) 3 _ _ (A:=qNz (qm6 Tryz.f371)) (C:=qNy (qm6 Tryz.f371)) (X:=qPk (qm6 Tryz.f371)) (Z:=qPj (qm6 Tryz.f371)) (k:=4) (by kernel_rfl) (by decide +kernel)
  (fun x=>qMP (qMJ Tryz.f371 3 [.sl (.int .u8)] [.ow (.int .u8)] x)) (fun x=>beq (len (x.1:BB)) 0) (fun x=>by kernel_rfl) (fun x=>by kernel_rfl) (fun x r hc hm => ?_) (fun x r hm => ?_)
 ·obtain ⟨l,⟨⟩⟩:=x
  obtain ⟨_,rfl⟩:=qBt (show ck (rm 1 (ln (l:BB))) (some ((l:BB),()))=some r from hm)
  obtain rfl:l=([]:BB):=qKb hc
  kernel_rfl
 ·have h:ck (rm 1 (nadd (ln ([]:BB)) (ln (x.1:BB)))) (some (LS.rt (σ:=St) (app ([]:BB) (x.1:BB),())))=some (.rt r):=by
   obtain ⟨h1,rfl⟩:=qBt (show ck (rm 1 (ln (x.1:BB))) (some ((x.1:BB),()))=some r from hm)
   rw [show nadd (ln ([]:BB)) (ln (x.1:BB))=ln (x.1:BB) from Nat.zero_add _,h1];rfl
  exact Eq.trans (by kernel_rfl) h
end Yp
namespace Yp
open Go Go.Proofs Go.RowKit Go.Shelf
attribute [local go_sem] Oper.semAt_some
def hits (res:Nat→Bool) (k:Nat):List Nat:=(List.range k).filter res
theorem qDn (res:Nat→Bool) (k:Nat):hits res (k+1)=hits res k++if res k=true then [k] else []:=by
 unfold hits
 rw [List.range_succ,List.filter_append]
 simp only [List.filter_cons,List.filter_nil]
theorem qL2 (res:Nat→Bool) (k:Nat):(hits res k).length≤k:=by
 have:=List.length_filter_le res (List.range k)
 unfold hits;simpa using this
set_option maxRecDepth 100000 in
set_option maxHeartbeats 2000000 in
theorem qKx (n l Bt Bf n₀ b off cap N:Nat) (ad:Option Addr) (pk pb:Value) (ev:Nat→Value×Value) (res:Nat→Bool) (hev:∀ j,∃ a n c a' n' c',ev j=(.slice a n c, .slice a' n' c')) (hN:N≤9223372036854775807) (hb:0 < N→ad=some ⟨b,off,none⟩∧b < n₀) (J Jx:List Nat→World→Prop)
  (hJ:∀ s W W',J s W→Below W.heap.size W W'→J s W')
  (hY:∀ (pre:List Nat) (x:Nat) W,J pre W→x < N→res x=true→pre.length < N→YieldAt Fence.wide n Tryz.prog l #[.int .i64 (x:Int)] W fun e W' =>
   (e = .returned (.bool true)∧J (pre++[x]) W'∧Below n₀ W W')∨(e = .returned (.bool false)∧Jx (pre++[x]) W'))
  (W:World) (hBt:W.cell? ⟨Bt,0,none⟩=some (.slice ad N cap)) (hBf:W.cell? ⟨Bf,0,none⟩=some (.func (.func 390) #[.agg #[pk,pb]] #[])) (hBtn:Bt < n₀) (hBfn:Bf < n₀) (hn:n₀≤W.heap.size)
  (hc0:∀ j,j < N→W.cell? ⟨b,off+j*2,none⟩=some (ev j).1) (hc1:∀ j,j < N→W.cell? ⟨b,off+j*2+1,none⟩=some (ev j).2)
  (hIs:∀ j,j < N→∀ w,Below n₀ W w→CallsIn Fence.wide n Tryz.prog 390 #[.agg #[pk,pb], .agg #[(ev j).1,(ev j).2]] w fun e w'=>e = .returned (.bool (res j))∧Below w.heap.size w w') (h0:J [] W) :
  CallsIn Fence.wide (n+1) Tryz.prog 393 #[.func (.yield l) #[] #[], .pointer (some ⟨Bt,0,none⟩), .pointer (some ⟨Bf,0,none⟩)] W fun e W'=>(∃ v,e = .returned v) ∧
   (J (hits res N) W'∨(∃ k,k≤N∧Jx (hits res k) W')):=by
 have hw390:Fence.wide.fn 390:=trivial
 refine callsIn_of_wp Tryz.func393 rfl trivial ?_ rfl
 simp only [Tryz.ntmps393,List.size_toArray,List.length_cons,List.length_nil,Nat.reduceAdd,Nat.reduceSub,Array.replicate_succ,Array.replicate_zero,List.push_toArray,List.append_toArray,List.nil_append,List.cons_append]
 gi_wp2
 gi_loopw [8] (fun i wr=>∃ k:Nat,k≤N∧i = .int .i64 k∧J (hits res k) wr∧Below n₀ W wr∧W.heap.size≤wr.heap.size)
  (fun i _=>N - (intOf i).toNat)
 case atStart=>exact ⟨0,by omega,rfl,h0,Below.refl _ _,Nat.le_refl _⟩
 case round =>
  obtain ⟨k,hk,rfl,hJs,hnx,hsz⟩:=hrel
  have hBt':wr.cell? ⟨Bt,0,none⟩=some (.slice ad N cap):=(hnx.cell (p:=⟨Bt,0,none⟩) hBtn).trans hBt
  have hBf':wr.cell? ⟨Bf,0,none⟩=some (.func (.func 390) #[.agg #[pk,pb]] #[]):=(hnx.cell (p:=⟨Bf,0,none⟩) hBfn).trans hBf
  by_cases hlt:k < N
  ·have hlt':(k:Int) < (N:Int):=by omega
   obtain ⟨rfl,hbn⟩:=hb (by omega)
   have e0:wr.cell? ⟨b,off+k*2,none⟩=some (ev k).1:=(hnx.cell (p:=⟨b,off+k*2,none⟩) hbn).trans (hc0 k hlt)
   have e1:wr.cell? ⟨b,off+k*2+1,none⟩=some (ev k).2:=(hnx.cell (p:=⟨b,off+k*2+1,none⟩) hbn).trans (hc1 k hlt)
   have hIs':=hIs k hlt
   have hYk:=hY (hits res k) k
   obtain ⟨a1,n1,c1,a2,n2,c2,hek⟩:=hev k
   rw [hek] at e0 e1 hIs'
   dsimp only at e0 e1 hIs'
   have hb3:Below wr.heap.size wr (wr.alloc (.cells #[.slice a1 n1 c1, .slice a2 n2 c2] 276)):=(Below.refl _ _).alloc (Nat.le_refl _) _
   have hsz0:n₀≤wr.heap.size:=Nat.le_trans hn hsz
   have hBf2:(wr.alloc (.cells #[.slice a1 n1 c1, .slice a2 n2 c2] 276)).cell? ⟨Bf,0,none⟩=some (.func (.func 390) #[.agg #[pk,pb]] #[]):=(hb3.cell (p:=⟨Bf,0,none⟩) (Nat.lt_of_lt_of_le hBfn hsz0)).trans hBf'
   have hIs2:=hIs' _ (hnx.trans (hb3.mono hsz0))
   have hJ2:=hJ _ _ _ hJs hb3
   cases hh:res k
   ·rw [hh] at hIs2
    have hys:hits res (k+1)=hits res k:=by rw [qDn,hh,if_neg (by simp),List.append_nil]
    gi_wp2_with (gi_at_call 390;refine hIs2.mono ?_;rintro e w1 ⟨rfl,hb1⟩)
    refine ⟨fun _ _=>trivial, ?_⟩
    gi_wp2
    refine ⟨⟨k+1,by omega,by simp,by rw [hys];exact hJ _ _ _ hJ2 hb1,(hnx.trans (hb3.mono hsz0)).trans (hb1.mono (Nat.le_trans hsz0 hb3.size)),Nat.le_trans hsz (Nat.le_trans hb3.size hb1.size)⟩, ?_⟩
    simp [intOf];omega
   ·rw [hh] at hIs2
    have hys:hits res (k+1)=hits res k++[k]:=by rw [qDn,hh,if_pos rfl]
    have hl:=qL2 res k
    gi_wp2_with (gi_at_call 390;refine hIs2.mono ?_;rintro e w1 ⟨rfl,hb1⟩;obtain ⟨fn,tmps,assign,body,hy,hR⟩:=hYk w1 (hJ _ _ _ hJ2 hb1) hlt hh (by omega))
    refine hR.mono ?_
    rintro e W3 (⟨rfl,hJ3,hk3⟩ | ⟨rfl,hJx3⟩)
    ·gi_wp2
     refine ⟨⟨k+1,by omega,by simp,by rw [hys];exact hJ3,((hnx.trans (hb3.mono hsz0)).trans (hb1.mono (Nat.le_trans hsz0 hb3.size))).trans hk3,Nat.le_trans hsz (Nat.le_trans (Nat.le_trans hb3.size hb1.size) hk3.size)⟩, ?_⟩
     simp [intOf];omega
    ·gi_wp2
     refine bodyPost_ret (results_none rfl _ _ _) rfl ?_
     exact ⟨⟨_,rfl⟩, .inr ⟨k+1,by omega,by rw [hys];exact hJx3⟩⟩
  ·have hk':k=N:=by omega
   subst hk'
   have hlt':¬ ((k:Nat):Int) < (k:Int):=by omega
   gi_wp2
   go_end0
   exact ⟨⟨_,rfl⟩, .inl hJs⟩
set_option maxRecDepth 100000 in
theorem qL8 (m:Nat) (a:Option Addr) (n cap:Nat) (f:Value) (w:World) (hv:f.oneCell'=true):CallsIn Fence.wide m Tryz.prog 391 #[.slice a n cap,f] w fun e w'=>e = .returned (.func (.func 393) #[] #[.pointer (some ⟨w.heap.size,0,none⟩), .pointer (some ⟨w.heap.size+1,0,none⟩)])∧w'=(w.alloc (.cells #[.slice a n cap] 47)).alloc (.cells #[f] 403):=by
 refine callsIn_of_wp Tryz.func391 rfl trivial ?_ rfl
 simp only [Tryz.ntmps391,List.size_toArray,List.length_cons,List.length_nil,Nat.reduceAdd,Nat.reduceSub,Array.replicate_succ,Array.replicate_zero,List.push_toArray,List.append_toArray,List.nil_append,List.cons_append]
 gi_wp2
 go_ret
 exact ⟨rfl,rfl⟩
end Yp
namespace Yp
open Go
theorem qrI {σ ρ:Type} {f:σ→Option (LS σ ρ)}:∀ {n m:Nat} {x:σ} {r:LS σ ρ},qj5 f n x=some r→n≤m→qj5 f m x=some r
 | 0,_,_,_,h,_=>by simp [qj5] at h
 | n+1,0,_,_,_,h=>by omega
 | n+1,m+1,x,r,h,hm=>by
  simp only [qj5] at h ⊢
  split at h
  ·exact qrI h (by omega)
  ·exact h
theorem qj4 {σ ρ:Type} {f:σ→Option (LS σ ρ)} {x:σ} {r:LS σ ρ} (n:Nat) (h:qj5 f n x=some r):loop f x=some r:=by
 have hex:∃ n,(qj5 f n x).isSome:=⟨n,by rw [h];rfl⟩
 unfold loop
 rw [dif_pos hex]
 have hs:=Classical.choose_spec hex
 obtain ⟨r',hr⟩:=Option.isSome_iff_exists.1 hs
 have h1:=qrI hr (Nat.le_max_left _ n)
 have h2:=qrI h (Nat.le_max_right (Classical.choose hex) n)
 rw [hr];rw [h1] at h2;exact h2
theorem vF {σ ρ:Type} {f:σ→Option (LS σ ρ)} {x y:σ} (h:f x=some (.nx y)):loop f x=loop f y:=by
 cases hy:loop f y with
 | some r =>
  obtain ⟨n,hn⟩:=qwA hy
  exact qj4 (n+1) (by simp [qj5,h,hn])
 | none =>
  cases hx:loop f x with
  | none=>rfl
  | some r =>
   obtain ⟨n,hn⟩:=qwA hx
   cases n with
   | zero=>simp [qj5] at hn
   | succ n =>
    simp only [qj5,h] at hn
    rw [qj4 n hn] at hy;cases hy
theorem qU {σ ρ:Type} {f:σ→Option (LS σ ρ)} {x y:σ} {k:Nat} (h:f x=some (.ex k y)):loop f x=some (.ex k y):=qj4 1 (by simp [qj5,h])
theorem qdI {σ ρ:Type} {f:σ→Option (LS σ ρ)} {x:σ} {r:ρ} (h:f x=some (.rt r)):loop f x=some (.rt r):=qj4 1 (by simp [qj5,h])
theorem qM {σ ρ:Type} {f:σ→Option (LS σ ρ)} (st:Nat→σ) (n:Nat) (h:∀ i,i < n→f (st i)=some (.nx (st (i+1)))):∀ i,i≤n→loop f (st i)=loop f (st n):=by
 intro i hi
 obtain ⟨d,rfl⟩:∃ d,n=i+d:=⟨n - i,by omega⟩
 clear hi
 induction d generalizing i with
 | zero=>rfl
 | succ d ih =>
  rw [vF (h i (by omega))]
  have:=ih (i+1) (fun j hj=>h j (by omega))
  rw [this];congr 2;omega
theorem zR {n:Int} (h1 : -9223372036854775808≤n) (h2:n≤9223372036854775807):i64 n=n:=by
 show (if (true && decide (n % 18446744073709551616 ≥ 9223372036854775808))=true then n % 18446744073709551616 - 18446744073709551616 else n % 18446744073709551616)=n
 simp only [Bool.true_and,decide_eq_true_eq]
 split <;> omega
theorem qET {α:Type} (a b:α):sel true a b=a:=rfl
theorem qCB {α:Type} (a b:α):sel false a b=b:=rfl
theorem ck_t {α:Type} (a:Option α):ck true a=a:=rfl
theorem ob_s {α β:Type} (a:α) (k:α→Option β):ob (some a) k=k a:=rfl
end Yp
namespace Yp
open Go
theorem qF {α β:Type} {o:Option α} {a:α} {k:α→Option β} (h:o=some a):ob o k=k a:=by rw [h];rfl
theorem qE {α:Type} {c:Bool} {a b:α} (h:c=true):sel c a b=a:=by rw [h];rfl
theorem qB {α:Type} {c:Bool} {a b:α} (h:c=false):sel c a b=b:=by rw [h];rfl
theorem qH {α:Type} {c:Bool} {a:Option α} (h:c=true):ck c a=a:=by rw [h];rfl
theorem qX {σ ρ β:Type} {o o':Option (LS σ ρ)} {kn:σ→Option β} {ke:Nat→σ→Option β} {kr:ρ→Option β} (h:o=o'):lc o kn ke kr=lc o' kn ke kr:=by rw [h]
theorem jG {σ ρ:Type} {f:σ→Option (LS σ ρ)} (st:Nat→σ) (n:Nat) (p:Nat→Prop) (r:ρ) (k:Nat) (hs:∀ i,i < n→(∀ j,j≤i→p j)→f (st i)=some (.nx (st (i+1)))) (hb:∀ i,i < n→(∀ j,j < i→p j)→¬ p i→f (st i)=some (.rt r))
  (he:(∀ i,i < n→p i)→f (st n)=some (.ex k (st n))):((∀ i,i < n→p i)∧loop f (st 0)=some (.ex k (st n)))∨((∃ i,i < n∧¬ p i)∧loop f (st 0)=some (.rt r)):=by
 by_cases h:∀ i,i < n→p i
 ·refine .inl ⟨h, ?_⟩
  rw [qM st n (fun i hi=>hs i hi fun j hj=>h j (by omega)) 0 (Nat.zero_le _)]
  exact qU (he h)
 ·refine .inr ?_
  have hex:∃ i,i < n∧¬ p i:=by
   refine Classical.byContradiction fun hc=>h fun i hi=>Classical.byContradiction fun hp=>hc ⟨i,hi,hp⟩
  refine ⟨hex, ?_⟩
  obtain ⟨k,hk,hp⟩:=hex
  induction k using Nat.strongRecOn with
  | _ k ih =>
   by_cases hl:∃ j,j < k∧¬ p j
   ·obtain ⟨j,hj,hpj⟩:=hl
    exact ih j hj (by omega) hpj
   ·have hall:∀ i,i < k→p i:=fun i hi=>Classical.byContradiction fun hp=>hl ⟨i,hi,hp⟩
    rw [qM st k (fun i hi=>hs i (by omega) fun j hj=>hall j (by omega)) 0 (Nat.zero_le _)]
    exact qdI (hb k hk hall hp)
theorem qsJ {a b:Nat}:lt (a:Int) (b:Int)=decide (a < b):=by unfold lt;rw [decide_eq_decide];omega
theorem qKc {a b:Nat}:le (a:Int) (b:Int)=decide (a≤b):=by unfold le;rw [decide_eq_decide];omega
theorem lt_t {a b:Int} (h:a < b):lt a b=true:=decide_eq_true h
theorem lt_f {a b:Int} (h:¬ a < b):lt a b=false:=decide_eq_false h
theorem le_t {a b:Int} (h:a≤b):le a b=true:=decide_eq_true h
theorem le_f {a b:Int} (h:¬ a≤b):le a b=false:=decide_eq_false h
theorem kQ {a b:Int} (h:a=b):beq a b=true:=by unfold beq;exact beq_iff_eq.2 h
theorem vL {a b:Int} (h:¬ a=b):beq a b=false:=by unfold beq;exact beq_eq_false_iff_ne.2 h
theorem qHQ {a b:BB} (h:a=b):seq a b=true:=by unfold seq;exact beq_iff_eq.2 h
theorem qI3 {a b:BB} (h:¬ a=b):seq a b=false:=by unfold seq;exact beq_eq_false_iff_ne.2 h
theorem qH1 {a b:Nat} (h:a < b):nlt a b=true:=by unfold nlt;rw [Nat.blt_eq];exact h
theorem qNP {a b:Nat} (h:¬ a < b):nlt a b=false:=by
 unfold nlt;cases hb:Nat.blt a b with
 | false=>rfl
 | true=>rw [Nat.blt_eq] at hb;exact absurd hb h
theorem zD {a n:Nat} (h:a < n):inB (a:Int) (n:Int)=true:=by
 simp only [inB,Bool.and_eq_true,decide_eq_true_eq];omega
theorem qPI {a n:Int} (h0:0≤a) (h:a < n):inB a n=true:=by
 simp only [inB,Bool.and_eq_true,decide_eq_true_eq];omega
theorem qrL {a b n:Int} (h0:0≤a) (h:a≤b) (h':b≤n):inC a b n=true:=by
 simp only [inC,Bool.and_eq_true,decide_eq_true_eq];omega
theorem rm_t {c n:Nat} (h:n*c≤140737488355328):rm c n=true:=decide_eq_true h
theorem qeV {n:Nat} (h:n≤9223372036854775807):i64 (n:Int)=(n:Int):=zR (by omega) (by omega)
theorem qN7 {α:Type} (l:List α):len l=((l.length:Nat):Int):=rfl
theorem qK {α:Type} {l:List α} {i:Nat} {d:α} (h:i < l.length):nth l i d=l[i]:=by
 simp [nth,List.getD_eq_getElem?_getD,h]
theorem qAX (x:UInt8):x.toNat < 256:=x.toNat_lt
theorem quR (q:Nat):u8 (q:Int)=UInt8.ofNat q:=by
 apply UInt8.toNat_inj.1
 unfold u8
 have h1:(UInt8.ofInt (q:Int)).toNat=q % 256:=by
  simp [UInt8.ofInt,UInt8.toNat_ofNat]
  omega
 rw [h1];simp
theorem qLz (b n:Nat):((b:Int) ^ n)=((b ^ n:Nat):Int):=(Int.natCast_pow b n).symm
theorem qAo {l:BB} {i:Nat} (h:i < l.length) (hl:l[i].toNat < 128):decode l i=(l[i].toNat,1):=by
 have hb:((⟨l.toArray⟩:ByteArray).get! (i+0)).toNat=l[i].toNat:=by
  show (l.toArray[i+0]!).toNat=_
  simp [h]
 unfold decode Utf8.decode
 simp only [hb]
 rw [if_pos hl]
theorem qFy {l:BB} {i:Nat} (h:i < l.length) (hl:¬ l[i].toNat < 128):128≤(decode l i).1∧(decode l i).1≤1114111:=by
 have hb:((⟨l.toArray⟩:ByteArray).get! (i+0)).toNat=l[i].toNat:=by
  show (l.toArray[i+0]!).toNat=_
  simp [h]
 have h256:=qAX l[i]
 unfold decode Utf8.decode
 simp only [hb,if_neg hl,Utf8.runeError]
 have b:∀ k,((⟨l.toArray⟩:ByteArray).get! k).toNat < 256:=fun k=>qAX _
 generalize l[i].toNat=c at *
 repeat' split
 all_goals simp only
 all_goals (rename_i hc hd;simp only [Bool.and_eq_true,decide_eq_true_eq,beq_iff_eq,Utf8.valid,Bool.or_eq_true] at hc hd;omega)
theorem qL0 {a b:Nat}:iadd (a:Int) (b:Int)=((a+b:Nat):Int):=by simp [iadd]
theorem qLY {a b:Nat}:imul (a:Int) (b:Int)=((a*b:Nat):Int):=by simp [imul]
theorem qLX {a b:Nat} (h:b≤a):isub (a:Int) (b:Int)=((a - b:Nat):Int):=by simp only [isub];omega
theorem qLZ {a b:Nat}:idiv (a:Int) (b:Int)=((a / b:Nat):Int):=by simp only [idiv];exact (Int.ofNat_tdiv _ _).symm
theorem qd6 {a b:Nat}:imod (a:Int) (b:Int)=((a % b:Nat):Int):=by simp only [imod];exact (Int.ofNat_tmod _ _).symm
theorem zH {a b:Nat} (h:a+b≤9223372036854775807):i64 (iadd (a:Int) (b:Int))=((a+b:Nat):Int):=by rw [qL0,qeV h]
theorem qrO {a b:Nat} (h:a*b≤9223372036854775807):i64 (imul (a:Int) (b:Int))=((a*b:Nat):Int):=by rw [qLY,qeV h]
theorem qFm {a b:Nat} (h:b≤a) (h':a≤9223372036854775807):i64 (isub (a:Int) (b:Int))=((a - b:Nat):Int):=by rw [qLX h,qeV (by omega)]
theorem qkE {a b:Nat} (h':a≤9223372036854775807):i64 (idiv (a:Int) (b:Int))=((a / b:Nat):Int):=by rw [qLZ,qeV (Nat.le_trans (Nat.div_le_self _ _) h')]
theorem qP {a:Nat}:nat (a:Int)=a:=by simp [nat]
theorem qQi {a:Nat} (h:a < 256):n8 (u8 (a:Int))=(a:Int):=by
 rw [quR];simp only [n8,UInt8.toNat_ofNat'];omega
end Yp
namespace Yp
open Go
def ps (B:Nat) (g:Nat→UInt8) (v:Nat):Nat→BB
 | 0=>[]
 | n+1=>g (v / B ^ n % B) :: ps B g v n
theorem zP (B:Nat) (g:Nat→UInt8) (v:Nat):∀ n,(ps B g v n).length=n
 | 0=>rfl
 | n+1=>by simp [ps,zP B g v n]
def dch (d:Nat):UInt8:=UInt8.ofNat (48+d)
def byt (d:Nat):UInt8:=UInt8.ofNat d
theorem qEE {n:Nat} {d z:UInt8} {tl:BB}:upd (rep (n+1) z++tl) n d=rep n z++d :: tl:=by
 induction n with
 | zero=>simp [upd,rep]
 | succ n ih =>
  have e1:rep (n+1+1) z++tl=z :: (rep (n+1) z++tl):=by simp [rep,List.replicate_succ]
  have e2:rep (n+1) z++d :: tl=z :: (rep n z++d :: tl):=by simp [rep,List.replicate_succ]
  rw [e1,e2,← ih];rfl
def hexs:BB:=[48,49,50,51,52,53,54,55,56,57,97,98,99,100,101,102]
theorem qL3:∀ d,d < 10→nth hexs d (u8 0)=dch d:=by decide
theorem wR (v w:Int) (hv:v≤9223372036854775807):vR (v,w,())=some (if 1≤w∧w≤18∧0≤v∧v < 10 ^ w.toNat then (ps 10 dch v.toNat w.toNat,0,()) else ([],1,())):=by
 unfold vR
 by_cases h1:w < 1
 ·rw [if_neg (by omega)];simp [sel,ob,lt,h1,none']
 by_cases h2:18 < w
 ·rw [if_neg (by omega)];simp [sel,ob,lt,h1,h2,none']
 by_cases h3:v < 0
 ·rw [if_neg (by omega)];simp [sel,ob,lt,h1,h2,h3,none']
 obtain ⟨n,rfl⟩:∃ n:Nat,w=n:=⟨w.toNat,by omega⟩
 obtain ⟨V,rfl⟩:∃ n:Nat,v=n:=⟨v.toNat,by omega⟩
 simp only [lt,h1,h2,h3,decide_false,decide_true,qCB,qET,ob_s,Int.toNat_natCast]
 have c0:band (inC 0 (n:Int) n) (rm 1 (nat n))=true:=by simp [band,inC,rm,nat];omega
 rw [c0,ck_t]
 have e0:i64 (isub (n:Int) 1)=(n:Int) - 1:=zR (by simp only [isub];omega) (by simp only [isub];omega)
 rw [e0]
 generalize hf:(fun (x:Int×Int×BB×Unit)=>_)=f
 have step:∀ i,i < n→f (((V / 10 ^ i:Nat):Int),(n:Int) - 1 - i,rep (n - i) (u8 0)++ps 10 dch V i,())=some (.nx (((V / 10 ^ (i+1):Nat):Int),(n:Int) - 1 - (i+1:Nat),rep (n - (i+1)) (u8 0)++ps 10 dch V (i+1),())):=by
  intro i hi
  subst hf
  have hm:imod ((V / 10 ^ i:Nat):Int) 10=((V / 10 ^ i % 10:Nat):Int):=by simp only [imod];exact (Int.ofNat_tmod _ _).symm
  have hlt:V / 10 ^ i % 10 < 10:=Nat.mod_lt _ (by omega)
  have hle:V / 10 ^ i≤V:=Nat.div_le_self _ _
  have hd:i64 (idiv ((V / 10 ^ i:Nat):Int) 10)=((V / 10 ^ (i+1):Nat):Int):=by
   have:idiv ((V / 10 ^ i:Nat):Int) 10=((V / 10 ^ i / 10:Nat):Int):=by simp only [idiv];exact (Int.ofNat_tdiv _ _).symm
   rw [this,qeV (by omega),Nat.div_div_eq_div_mul,Nat.pow_succ]
  have hi1:i64 (isub ((n:Int) - 1 - i) 1)=(n:Int) - 1 - (i+1:Nat):=by
   rw [zR (by simp only [isub];omega) (by simp only [isub];omega)];simp only [isub];omega
  have hle0:le 0 ((n:Int) - 1 - i)=true:=by simp only [le,decide_eq_true_eq];omega
  have hb1:inB ((V / 10 ^ i % 10:Nat):Int) (len [48,49,50,51,52,53,54,55,56,57,97,98,99,100,101,102])=true:=zD (n:=16) (by omega)
  have hb2:inB ((n:Int) - 1 - i) (len (rep (n - i) (u8 0)++ps 10 dch V i))=true:=by
   simp only [inB,len,List.length_append,zP,rep,List.length_replicate,Bool.and_eq_true,decide_eq_true_eq];omega
  have hn:nat ((n:Int) - 1 - i)=n - (i+1):=by simp only [nat];omega
  have hn2:nat ((V / 10 ^ i % 10:Nat):Int)=V / 10 ^ i % 10:=by simp only [nat];omega
  have hs:rep (n - i) (u8 0)=rep (n - (i+1)+1) (u8 0):=by congr 1;omega
  show sel (le 0 ((n:Int) - 1 - i)) _ _=_
  rw [hle0,qET]
  simp only [hm]
  rw [hb1,ck_t,hb2,ck_t,hd,hi1,hn,hn2,hs,qEE]
  have:=qL3 _ hlt
  simp only [hexs] at this
  rw [this];rfl
 have hrun:=qM (f:=f) (fun i=>(((V / 10 ^ i:Nat):Int),(n:Int) - 1 - i,rep (n - i) (u8 0)++ps 10 dch V i,())) n step 0 (by omega)
 have hend:f (((V / 10 ^ n:Nat):Int),(n:Int) - 1 - n,rep (n - n) (u8 0)++ps 10 dch V n,())=some (.ex 0 (((V / 10 ^ n:Nat):Int),(n:Int) - 1 - n,rep (n - n) (u8 0)++ps 10 dch V n,())):=by
  subst hf
  have hle0:le 0 ((n:Int) - 1 - n)=false:=by simp only [le,decide_eq_false_iff_not];omega
  show sel (le 0 ((n:Int) - 1 - n)) _ _=_
  rw [hle0,qCB]
 have e1:(((V / 10 ^ 0:Nat):Int),(n:Int) - 1 - (0:Nat),rep (n - 0) (u8 0)++ps 10 dch V 0,())=(((V:Nat):Int),(n:Int) - 1,rep (nat n) (u8 0),()):=by
  simp [ps,nat]
 rw [e1,qU hend] at hrun
 rw [hrun]
 have e2:rep (n - n) (u8 0)++ps 10 dch V n=ps 10 dch V n:=by simp [rep]
 simp only [lc,e2]
 show sel (decide ((0:Int) < ((V / 10 ^ n:Nat):Int))) _ _=_
 by_cases hlt:V < 10 ^ n
 ·have:V / 10 ^ n=0:=Nat.div_eq_of_lt hlt
  rw [this,if_pos ⟨by omega,by omega,by omega,by exact_mod_cast hlt⟩];rfl
 ·have:0 < V / 10 ^ n:=Nat.div_pos (by omega) (Nat.pow_pos (by omega))
  rw [if_neg (fun h=>hlt (by exact_mod_cast h.2.2.2))]
  have hp:decide ((0:Int) < ((V / 10 ^ n:Nat):Int))=true:=by simp only [decide_eq_true_eq];omega
  rw [hp];rfl
end Yp
namespace Yp
open Go
theorem qOX (q:Nat):u8 (q:Int)=byt (q % 256):=by
 unfold u8 byt
 apply UInt8.toNat_inj.1
 have h1:(UInt8.ofInt (q:Int)).toNat=q % 256:=by
  simp [UInt8.ofInt,UInt8.toNat_ofNat]
  omega
 rw [h1];simp
theorem qIX {V k:Nat} (hk:k≤64):shrI .i64 (V:Int) (k:Int)=((V / 2 ^ k:Nat):Int):=by
 unfold shrI
 have:Nat.min (Int.toNat (k:Int)) IntKind.i64.bits=k:=by
  show Nat.min (Int.toNat (k:Int)) 64=k
  rw [Int.toNat_natCast];exact Nat.min_eq_left hk
 rw [this,Int.ofNat_fdiv];norm_cast
theorem qsT (v w:Int) (hv:v≤9223372036854775807):qaV (v,w,())=some (if 1≤w∧w≤8∧0≤v∧v < 256 ^ w.toNat then (ps 256 byt v.toNat w.toNat,0,()) else ([],1,())):=by
 unfold qaV
 by_cases h1:w < 1
 ·rw [if_neg (by omega)];simp [sel,ob,lt,h1,none']
 by_cases h2:8 < w
 ·rw [if_neg (by omega)];simp [sel,ob,lt,h1,h2,none']
 by_cases h3:v < 0
 ·rw [if_neg (by omega)];simp [sel,ob,lt,h1,h2,h3,none']
 obtain ⟨n,rfl⟩:∃ n:Nat,w=n:=⟨w.toNat,by omega⟩
 obtain ⟨V,rfl⟩:∃ n:Nat,v=n:=⟨v.toNat,by omega⟩
 have hpow:∀ i,(256:Nat) ^ i=2 ^ (8*i):=fun i=>by rw [Nat.pow_mul]
 have hmul:∀ i:Nat,i≤8→i64 (imul 8 (i:Int))=((8*i:Nat):Int):=fun i hi=>by
  have:imul 8 (i:Int)=((8*i:Nat):Int):=by simp [imul]
  rw [this,qeV (by omega)]
 have hcond:(sel (lt (n:Int) 8) (ck (le 0 (i64 (imul 8 (n:Int)))) (some (lt 0 (shrI IntKind.i64 (V:Int) (i64 (imul 8 (n:Int)))),()))) (some (false,())):Option (Bool×Unit))=some (decide (¬ V < 256 ^ n),()):=by
  by_cases h8:n < 8
  ·have c1:lt (n:Int) 8=true:=by simp only [lt,decide_eq_true_eq];omega
   have c2:le 0 ((8*n:Nat):Int)=true:=by simp only [le,decide_eq_true_eq];omega
   rw [c1,qET,hmul n (by omega),c2,ck_t,qIX (by omega)]
   have:lt 0 ((V / 2 ^ (8*n):Nat):Int)=decide (¬ V < 256 ^ n):=by
    unfold lt
    rw [decide_eq_decide,hpow]
    constructor
    ·intro h hc
     rw [Nat.div_eq_of_lt hc] at h;simp at h
    ·intro h
     have:=Nat.div_pos (Nat.le_of_not_lt h) (Nat.pow_pos (by omega))
     omega
   rw [this]
  ·have c1:lt (n:Int) 8=false:=by simp only [lt,decide_eq_false_iff_not];omega
   have:n=8:=by omega
   rw [c1,qCB,this]
   have:V < 256 ^ 8:=by
    have:(256:Nat) ^ 8=18446744073709551616:=by decide
    omega
   simp [this]
 rw [hcond]
 simp only [lt,h1,h2,h3,decide_false,decide_true,qCB,qET,ob_s,Int.toNat_natCast]
 have hp:((256:Int) ^ n)=((256 ^ n:Nat):Int):=(Int.natCast_pow 256 n).symm
 by_cases hlt:V < 256 ^ n
 rotate_left
 ·rw [if_neg (fun h=>hlt (by have:=h.2.2.2;rw [hp] at this;exact Int.ofNat_lt.1 this))]
  have hd:decide (¬ V < 256 ^ n)=true:=decide_eq_true hlt
  rw [hd,qET];rfl
 rw [if_pos ⟨by omega,by omega,by omega,by rw [hp];exact Int.ofNat_lt.2 hlt⟩]
 have hd:decide (¬ V < 256 ^ n)=false:=decide_eq_false (fun h=>h hlt)
 rw [hd,qCB]
 have c0:band (inC 0 (n:Int) n) (rm 1 (nat n))=true:=by simp [band,inC,rm,nat];omega
 rw [c0,ck_t]
 have e0:i64 (isub (n:Int) 1)=(n:Int) - 1:=zR (by simp only [isub];omega) (by simp only [isub];omega)
 rw [e0]
 generalize hf:(fun (x:Int×BB×Unit)=>_)=f
 have step:∀ i,i < n→f ((i:Int),rep (n - i) (u8 0)++ps 256 byt V i,())=some (.nx (((i+1:Nat):Int),rep (n - (i+1)) (u8 0)++ps 256 byt V (i+1),())):=by
  intro i hi
  subst hf
  have c1:(decide ((i:Int) < len (rep (nat (n:Int)) (u8 0))))=true:=by simp only [len,rep,nat,List.length_replicate,decide_eq_true_eq];omega
  have c2:le 0 ((8*i:Nat):Int)=true:=by simp only [le,decide_eq_true_eq];omega
  have c3:i64 (isub ((n:Int) - 1) i)=((n - (i+1):Nat):Int):=by
   have:isub ((n:Int) - 1) i=((n - (i+1):Nat):Int):=by simp only [isub];omega
   rw [this,qeV (by omega)]
  have c4:inB ((n - (i+1):Nat):Int) (len (rep (n - i) (u8 0)++ps 256 byt V i))=true:=by
   refine zD ?_
   simp only [List.length_append,zP,rep,List.length_replicate];omega
  have c5:i64 (iadd (i:Int) 1)=((i+1:Nat):Int):=by
   have:iadd (i:Int) 1=((i+1:Nat):Int):=by simp [iadd]
   rw [this,qeV (by omega)]
  have hs:rep (n - i) (u8 0)=rep (n - (i+1)+1) (u8 0):=by congr 1;omega
  show sel (decide ((i:Int) < len (rep (nat (n:Int)) (u8 0)))) _ _=_
  rw [c1,qET]
  simp only [hmul i (by omega),c3]
  rw [c2,ck_t,c4,ck_t,c5,qIX (by omega),qOX,hs]
  have:nat ((n - (i+1):Nat):Int)=n - (i+1):=by simp [nat]
  rw [this,qEE,← hpow];rfl
 have hrun:=qM (f:=f) (fun i=>((i:Int),rep (n - i) (u8 0)++ps 256 byt V i,())) n step 0 (by omega)
 have hend:f ((n:Int),rep (n - n) (u8 0)++ps 256 byt V n,())=some (.ex 0 ((n:Int),rep (n - n) (u8 0)++ps 256 byt V n,())):=by
  subst hf
  have c1:(decide ((n:Int) < len (rep (nat (n:Int)) (u8 0))))=false:=by simp only [len,rep,nat,List.length_replicate,decide_eq_false_iff_not];omega
  show sel (decide ((n:Int) < len (rep (nat (n:Int)) (u8 0)))) _ _=_
  rw [c1,qCB]
 have e1:(((0:Nat):Int),rep (n - 0) (u8 0)++ps 256 byt V 0,())=((0:Int),rep (nat n) (u8 0),()):=by
  simp [ps,nat]
 rw [e1,qU hend] at hrun
 rw [hrun]
 have e2:rep (n - n) (u8 0)++ps 256 byt V n=ps 256 byt V n:=by simp [rep]
 simp only [lc,e2];rfl
end Yp
namespace Yp
open Go
def vX (c:UInt8):Prop:=48≤c.toNat∧c.toNat≤57
instance (c:UInt8):Decidable (vX c):=inferInstanceAs (Decidable (_∧_))
def figs (s:BB):Prop:=∀ (i:Nat) (h:i < s.length),vX s[i]
def val (s:BB):Nat:=s.foldl (fun n c=>10*n+(c.toNat - 48)) 0
theorem qn4 {s:BB} {i:Nat} (h:i < s.length):val (s.take (i+1))=10*val (s.take i)+(s[i].toNat - 48):=by
 unfold val
 rw [List.take_succ_eq_append_getElem h,List.foldl_append];rfl
theorem qGt {s:BB}:∀ i,i≤s.length→(∀ j,j < i→∀ h:j < s.length,vX s[j])→val (s.take i) < 10 ^ i
 | 0,_,_=>by simp [val]
 | i+1,h,hf=>by
  have:=qGt i (by omega) (fun j hj=>hf j (by omega))
  have hi:=hf i (by omega) (by omega)
  rw [qn4 (by omega),Nat.pow_succ]
  unfold vX at hi
  omega
theorem qLA {i:Nat} (h:i≤18):10 ^ i≤1000000000000000000:=by
 have:=Nat.pow_le_pow_right (n:=10) (by omega) h
 exact this
theorem qy4 {c:Nat} (h1:48≤c) (h2:c≤57):x6 (ofn c,())=some (((c - 48:Nat):Int),true,()):=by
 have:c=48∨c=49∨c=50∨c=51∨c=52∨c=53∨c=54∨c=55∨c=56∨c=57:=by omega
 rcases this with rfl | rfl | rfl | rfl | rfl | rfl | rfl | rfl | rfl | rfl <;> decide
theorem qm0 {c:Nat} (h:¬ (48≤c∧c≤57)):∃ q:Int,x6 (ofn c,())=some (q,false,()):=by
 refine ⟨i64 (i32 (isub (ofn c) 48)), ?_⟩
 unfold x6
 by_cases h1:48≤c
 ·refine (qF (qE (le_t (by simp only [ofn];omega)))).trans ?_
  show some (_,le (ofn c) 57,())=_
  rw [le_f (by simp only [ofn];omega)]
 ·refine (qF (qB (le_f (by simp only [ofn];omega)))).trans ?_
  rfl
theorem qBm {s:BB} {i:Nat} (h:i < s.length) (hf:vX s[i]):x6 (ofn (decode s i).1,())=some (((s[i].toNat - 48:Nat):Int),true,())∧(decode s i).2=1:=by
 have hl:s[i].toNat < 128:=by unfold vX at hf;omega
 rw [qAo h hl]
 exact ⟨qy4 hf.1 hf.2,rfl⟩
theorem qFp {s:BB} {i:Nat} (h:i < s.length) (hf:¬ vX s[i]):∃ q:Int,x6 (ofn (decode s i).1,())=some (q,false,()):=by
 by_cases hl:s[i].toNat < 128
 ·rw [qAo h hl];exact qm0 hf
 ·have:=qFy h hl
  exact qm0 (by omega)
theorem qd8 {s:BB}:figs s↔∀ i,i < s.length→∀ h:i < s.length,vX s[i]:=⟨fun h i hi _=>h i hi,fun h i hi=>h i hi hi⟩
instance (s:BB):Decidable (figs s):=inferInstanceAs (Decidable (∀ (i:Nat) (h:i < s.length),vX s[i]))
end Yp
namespace Yp
open Go
theorem qHW {b w:Nat} (hb:1≤b) (h:b ^ w≤9223372036854775807):∀ i,i≤w→b ^ i≤9223372036854775807:=fun i hi=>Nat.le_trans (Nat.pow_le_pow_right hb hi) h
theorem qbT (b w:Nat) (hb:1≤b) (hw:w≤1000) (h:b ^ w≤9223372036854775807):vD ((b:Int),(w:Int),())=some (((b ^ w:Nat):Int),()):=by
 unfold vD
 generalize hf:(fun (x:Int×Int×Unit)=>_)=f
 have key:=jG (f:=f) (fun i=>(((b ^ i:Nat):Int),(i:Int),())) w (fun _=>True) (0,()) 0 ?_ ?_ ?_
 ·have e0:(((b ^ 0:Nat):Int),((0:Nat):Int),())=((1:Int),(0:Int),()):=by simp
  rw [e0] at key
  rcases key with ⟨_,hr⟩ | ⟨⟨i,hi,hn⟩,hr⟩
  ·rw [hr];rfl
  ·exact absurd trivial hn
 ·intro i hi _
  subst hf
  refine (qE (lt_t (show (i:Int) < (w:Int) by omega))).trans ?_
  have:=qHW hb h (i+1) (by omega)
  rw [Nat.pow_succ] at this
  simp only
  rw [qrO this]
  have c:i64 (iadd (i:Int) 1)=((i+1:Nat):Int):=zH (b:=1) (by omega)
  rw [c,← Nat.pow_succ]
 ·intro i _ _ h;exact absurd trivial h
 ·intro _;subst hf;exact qB (lt_f (show ¬ (w:Int) < (w:Int) by omega))
theorem qd2 (s:BB) (hl:s.length≤1000000):wE (s,())=some (decide (figs s),()):=by
 unfold wE
 generalize hf:(fun (x:Bool×Int×Unit)=>_)=f
 have cond:∀ i (hi:i < s.length),(sel (lt (n8 (nth s (nat (i:Int)) (u8 0))) (n8 (u8 48))) (some (true,())) (ck (inB (i:Int) (len s)) (some (lt (n8 (u8 57)) (n8 (nth s (nat (i:Int)) (u8 0))),()))):Option (Bool×Unit))=some (decide (¬ vX s[i]),()):=by
  intro i hi
  have hin:inB (i:Int) (len s)=true:=zD hi
  rw [qP,qK hi,hin,ck_t]
  have e1:n8 (u8 48)=48:=by decide
  have e2:n8 (u8 57)=57:=by decide
  rw [e1,e2]
  by_cases h1:s[i].toNat < 48
  ·rw [lt_t (by simp only [n8];omega),qET,decide_eq_true (show ¬ vX s[i] from fun h=>by unfold vX at h;omega)]
  ·rw [lt_f (by simp only [n8];omega),qCB]
   by_cases h2:57 < s[i].toNat
   ·rw [lt_t (by simp only [n8];omega),decide_eq_true (show ¬ vX s[i] from fun h=>by unfold vX at h;omega)]
   ·rw [lt_f (by simp only [n8];omega),decide_eq_false (show ¬ ¬ vX s[i] from fun h=>h (by unfold vX;omega))]
 have key:=jG (f:=f) (fun i=>(false,(i:Int),())) s.length (fun i=>∀ h:i < s.length,vX s[i]) (false,()) 0 ?_ ?_ ?_
 ·rcases key with ⟨hall,hr⟩ | ⟨⟨i,hi,hn⟩,hr⟩
  ·rw [show (false,((0:Nat):Int),())=(false,(0:Int),()) from rfl] at hr
   rw [hr,decide_eq_true (qd8.2 hall)];rfl
  ·rw [show (false,((0:Nat):Int),())=(false,(0:Int),()) from rfl] at hr
   rw [hr,decide_eq_false (fun hc=>hn (qd8.1 hc i hi))];rfl
 ·intro i hi hp
  subst hf
  refine (qE (lt_t (by simp only [len];omega))).trans ?_
  refine (qH (zD hi)).trans ?_
  refine (qF (cond i hi)).trans ?_
  refine (qB (decide_eq_false (fun h=>h (hp i (Nat.le_refl _) hi)))).trans ?_
  have c:i64 (iadd (i:Int) 1)=((i+1:Nat):Int):=zH (b:=1) (by omega)
  simp only [c]
 ·intro i hi _ hp
  subst hf
  refine (qE (lt_t (by simp only [len];omega))).trans ?_
  refine (qH (zD hi)).trans ?_
  refine (qF (cond i hi)).trans ?_
  exact qE (decide_eq_true (fun h=>hp fun _=>h))
 ·intro _;subst hf;exact qB (lt_f (by simp only [len];omega))
theorem yD (s:BB) (hl:s.length≤1000000):yN (s,())=some (if 1≤s.length∧s.length≤18∧figs s then ((val s:Int),0,()) else (0,2,())):=by
 unfold yN
 by_cases h1:s.length < 1
 ·refine (qF (qE (lt_t (by simp only [len];omega)))).trans ?_
  rw [if_neg (by omega)];rfl
 by_cases h2:18 < s.length
 ·refine (qF ((qB (lt_f (by simp only [len];omega))).trans (qE (lt_t (by simp only [len];omega))))).trans ?_
  rw [if_neg (by omega)];rfl
 refine (qF (a:=(bnot (decide (figs s)),())) ?_).trans ?_
 ·refine (qB (lt_f (by simp only [len];omega))).trans ?_
  refine (qB (lt_f (by simp only [len];omega))).trans ?_
  exact qF (qd2 s hl)
 by_cases h3:figs s
 rotate_left
 ·refine (qE (by simp only [decide_eq_false h3,bnot,Bool.not_false])).trans ?_
  rw [if_neg (fun h=>h3 h.2.2)]
 refine (qB (by simp only [decide_eq_true h3,bnot,Bool.not_true])).trans ?_
 rw [if_pos ⟨by omega,by omega,h3⟩]
 generalize hf:(fun (x:Int×Int×Unit)=>_)=f
 have key:=jG (f:=f) (fun i=>(((val (s.take i)*10 ^ (s.length - i):Nat):Int),(i:Int),())) s.length (fun _=>True) (0,2,()) 0 ?_ ?_ ?_
 ·have e0:(((val (s.take 0)*10 ^ (s.length - 0):Nat):Int),((0:Nat):Int),())=((0:Int),(0:Int),()):=by simp [val]
  rw [e0] at key
  rcases key with ⟨_,hr⟩ | ⟨⟨i,hi,hn⟩,hr⟩
  ·rw [hr]
   show some (((val (s.take s.length)*10 ^ (s.length - s.length):Nat):Int),(0:Int),())=_
   rw [List.take_length];simp
  ·exact absurd trivial hn
 ·intro i hi _
  subst hf
  refine (qE (lt_t (by simp only [len];omega))).trans ?_
  refine (qH (zD hi)).trans ?_
  have c1:i64 (isub (i64 (isub (len s) 1)) (i:Int))=((s.length - 1 - i:Nat):Int):=by
   have:i64 (isub (len s) 1)=((s.length - 1:Nat):Int):=qFm (b:=1) (by omega) (by omega)
   rw [this,qFm (by omega) (by omega)]
  have hb:=qLA (i:=s.length - 1 - i) (by omega)
  have c2:vD (10,((s.length - 1 - i:Nat):Int),())=some (((10 ^ (s.length - 1 - i):Nat):Int),()):=qbT 10 _ (by omega) (by omega) (by omega)
  have c3:=h3 i hi
  have c4:i64 (isub (i64 (n8 (nth s (nat (i:Int)) (u8 0)))) 48)=((s[i].toNat - 48:Nat):Int):=by
   rw [qP,qK hi]
   have h256:=qAX s[i]
   have:i64 (n8 s[i])=((s[i].toNat:Nat):Int):=qeV (by omega)
   rw [this]
   exact qFm (b:=48) c3.1 (by omega)
  simp only [c1,c2]
  refine (qF rfl).trans ?_
  have hv:=qGt (s:=s) (i+1) (by omega) (fun j hj h=>h3 j h)
  have hp:10 ^ (i+1)*10 ^ (s.length - (i+1))≤1000000000000000000:=by
   rw [← Nat.pow_add];exact qLA (by omega)
  rw [qn4 hi] at hv
  have e1:s.length - i=(s.length - (i+1))+1:=by omega
  have e2:s.length - 1 - i=s.length - (i+1):=by omega
  have hm:(10*val (s.take i)+(s[i].toNat - 48))*10 ^ (s.length - (i+1))≤10 ^ (i+1)*10 ^ (s.length - (i+1)):=Nat.mul_le_mul_right _ (by omega)
  have hs:val (s.take i)*10 ^ (s.length - i)+(s[i].toNat - 48)*10 ^ (s.length - (i+1))=(10*val (s.take i)+(s[i].toNat - 48))*10 ^ (s.length - (i+1)):=by
   rw [e1,Nat.pow_succ,Nat.add_mul];congr 1
   rw [Nat.mul_comm (10 ^ _) 10,← Nat.mul_assoc,Nat.mul_comm (val _) 10]
  simp only [c4,e2]
  rw [qrO (by omega),zH (by omega),hs,qn4 hi]
  have c:i64 (iadd (i:Int) 1)=((i+1:Nat):Int):=zH (b:=1) (by omega)
  rw [c]
 ·intro i _ _ h;exact absurd trivial h
 ·intro _;subst hf;exact qB (lt_f (by simp only [len];omega))
end Yp
namespace Yp
open Go
theorem qGT {B:Nat} {g:Nat→UInt8} {v:Nat}:∀ {n j:Nat} (h:j < (ps B g v n).length),(ps B g v n)[j]=g (v / B ^ (n - 1 - j) % B)
 | 0,j,h=>by simp [ps] at h
 | n+1,0,h=>by simp [ps]
 | n+1,j+1,h=>by
  simp only [ps,List.getElem_cons_succ]
  rw [qGT]
  have:n - 1 - j=n+1 - 1 - (j+1):=by omega
  rw [this]
theorem kM                (v w : Int) (hv : v ≤ 9223372036854775807) : jU           (v, w, ()) = some (if 1 ≤ w ∧ w ≤ 18 ∧ 0 ≤ v ∧ v < 10 ^ w.toNat then (ps 10 dch v.toNat w.toNat, 0, ()) else ([], 1, ())) := by
  unfold jU          
  by_cases h1 : w < 1
  · rw [if_neg (by omega)]; simp [sel, ob, lt, h1, none']
  by_cases h2 : 18 < w
  · rw [if_neg (by omega)]; simp [sel, ob, lt, h1, h2, none']
  by_cases h3 : v < 0
  · rw [if_neg (by omega)]; simp [sel, ob, lt, h1, h2, h3, none']
  obtain ⟨n, rfl⟩ : ∃ n : Nat, w = n := ⟨w.toNat, by omega⟩
  obtain ⟨V, rfl⟩ : ∃ n : Nat, v = n := ⟨v.toNat, by omega⟩
  have hpw : ∀ i : Nat, i ≤ 18 → vD          (10, (i : Int), ()) = some (((10 ^ i : Nat) : Int), ()) := fun i hi => by
    have := qLA   hi
    exact qbT              10 i (by omega) (by omega) (by omega)
  refine (qF    (a := (decide (10 ^ n ≤ V), ())) ?_).trans ?_
  · refine (qB       (lt_f h1)).trans ?_
    refine (qB       (lt_f h2)).trans ?_
    refine (qB       (lt_f h3)).trans ?_
    refine (qF    (hpw n (by omega))).trans ?_
    show some (le ((10 ^ n : Nat) : Int) (V : Int), ()) = _
    rw [qKc   ]
  have hp : ((10 : Int) ^ n) = ((10 ^ n : Nat) : Int) := (Int.natCast_pow 10 n).symm
  by_cases hle : 10 ^ n ≤ V
  · refine (qE       (decide_eq_true hle)).trans ?_
    rw [if_neg]; · rfl
    intro h
    have := h.2.2.2
    rw [Int.toNat_natCast, hp] at this
    omega
  refine (qB       (decide_eq_false hle)).trans ?_
  rw [if_pos ⟨by omega, by omega, by omega, by rw [Int.toNat_natCast, hp]; omega⟩]
  simp only [Int.toNat_natCast]
  have e0 : i64 (isub (n : Int) 1) = (n : Int) - 1 := zR     (by simp only [isub]; omega) (by simp only [isub]; omega)
  rw [e0]
  generalize hf : (fun (x : List UInt8 × Int × Unit) => _) = f
  have key := jG        (f := f) (fun j => ((ps 10 dch V n).take j, (n : Int) - 1 - j, ())) n (fun _ => True) ([], 0, ()) 0 ?_ ?_ ?_
  · have e0 : ((ps 10 dch V n).take 0, (n : Int) - 1 - (0 : Nat), ()) = (none' UInt8, (n : Int) - 1, ()) := by simp [none']
    rw [e0] at key
    rcases key with ⟨_, hr⟩ | ⟨⟨i, hi, hn⟩, hr⟩
    · rw [hr]
      show some ((ps 10 dch V n).take n, (0 : Int), ()) = _
      rw [List.take_of_length_le (by rw [zP       ]; omega)]
    · exact absurd trivial hn
  · intro i hi _
    subst hf
    have e1 : (n : Int) - 1 - i = ((n - 1 - i : Nat) : Int) := by omega
    refine (qE       (le_t (show (0 : Int) ≤ (n : Int) - 1 - i by omega))).trans ?_
    simp only [e1]
    refine (qF    (hpw (n - 1 - i) (by omega))).trans ?_
    have hpos : 0 < 10 ^ (n - 1 - i) := Nat.pow_pos (by omega)
    have c1 : bnot (beq ((10 ^ (n - 1 - i) : Nat) : Int) 0) = true := by rw [vL    (by omega)]; rfl
    refine (qH    c1).trans ?_
    have c2 : u8 (i64 (iadd 48 (imod (i64 (idiv (V : Int) ((10 ^ (n - 1 - i) : Nat) : Int))) 10))) = dch (V / 10 ^ (n - 1 - i) % 10) := by
      rw [qkE     (by omega), show (10 : Int) = ((10 : Nat) : Int) from rfl, qd6     ]
      have : V / 10 ^ (n - 1 - i) % 10 < 10 := Nat.mod_lt _ (by omega)
      rw [show (48 : Int) = ((48 : Nat) : Int) from rfl, zH      (by omega), quR    ]; rfl
    have hj : i < (ps 10 dch V n).length := by rw [zP       ]; exact hi
    have c3 : (ps 10 dch V n)[i] = dch (V / 10 ^ (n - 1 - i) % 10) := qGT    hj
    have c4 : i64 (isub ((n - 1 - i : Nat) : Int) 1) = (n : Int) - 1 - ((i + 1 : Nat) : Int) := by
      rw [zR     (by simp only [isub]; omega) (by simp only [isub]; omega)]; simp only [isub]; omega
    simp only [c2, c4]
    refine (qH    (rm_t ?_)).trans ?_
    · simp only [nadd, ln, List.length_take, List.length_cons, List.length_nil]; omega
    rw [List.take_succ_eq_append_getElem hj, c3]; rfl
  · intro i _ _ h; exact absurd trivial h
  · intro _; subst hf
    exact qB       (le_f (show ¬ (0 : Int) ≤ (n : Int) - 1 - n by omega))
end Yp
namespace Yp
open Go
def dv (c:UInt8):Nat:=c.toNat - 48
def pad (s:BB):BB:=if s.length % 2=1 then 48 :: s else s
def dat (p:BB) (t:Nat):Nat:=dv (nth p t (u8 0))
def qqO (p:BB) (a j:Nat):UInt8:=if 2*j+1 < a then UInt8.ofNat (16*dat p (2*j)+dat p (2*j+1)) else if 2*j < a then UInt8.ofNat (dat p (2*j)) else u8 0
def bcd (p:BB):BB:=(List.range (p.length / 2)).map fun j=>UInt8.ofNat (16*dat p (2*j)+dat p (2*j+1))
theorem qf0 (s:BB):(pad s).length=2*((s.length+1) / 2):=by
 unfold pad
 split
 ·simp only [List.length_cons];omega
 ·omega
theorem qJG {s:BB} {i:Nat} (h:i < s.length):nth (pad s) (s.length % 2+i) (u8 0)=s[i]:=by
 unfold pad nth
 split
 ·rename_i h1;rw [h1,Nat.add_comm];simp [h]
 ·rename_i h1
  have:s.length % 2=0:=by omega
  rw [this,Nat.zero_add];simp [h]
theorem qdQ {c:UInt8} (h:vX c):c=UInt8.ofNat (48+dv c)∧dv c < 10:=by
 unfold vX at h
 refine ⟨?_,by unfold dv;omega⟩
 apply UInt8.toNat_inj.1
 simp only [UInt8.toNat_ofNat',dv];omega
theorem qO9:∀ x:Nat,x < 10→∀ d:Nat,d < 10→u8 (orI .u8 (n8 (u8 (shlI .u8 (n8 (UInt8.ofNat x)) (n64 (u64 4))))) (n8 (u8 (d:Int))))=UInt8.ofNat (16*x+d):=by decide +kernel
theorem or0:∀ d:Nat,d < 10→u8 (orI .u8 (n8 (u8 (shlI .u8 (n8 (u8 0)) (n64 (u64 4))))) (n8 (u8 (d:Int))))=UInt8.ofNat d:=by decide +kernel
theorem qNA {s:BB} {a:Nat} (hf:∀ j,j < a - s.length % 2→∀ h:j < s.length,vX s[j]) (ha:a≤(pad s).length):∀ t,t < a→dat (pad s) t < 10:=by
 intro t ht
 have hl:=qf0 s
 unfold dat
 by_cases h:t < s.length % 2
 ·have h1:s.length % 2=1:=by omega
  have h0:t=0:=by omega
  subst h0
  unfold pad;rw [if_pos h1]
  show dv 48 < 10
  decide
 ·have e:t=s.length % 2+(t - s.length % 2):=by omega
  have hi:t - s.length % 2 < s.length:=by omega
  rw [e,qJG hi]
  exact (qdQ (hf _ (by omega) hi)).2
theorem qkN (s:BB) (hl:s.length≤1000000):qe2 (s,())=some (if figs s then (bcd (pad s),0,()) else ([],2,())):=by
 unfold qe2
 have k1:i64 (idiv (i64 (iadd (len s) 1)) 2)=(((s.length+1) / 2:Nat):Int):=by
  rw [qN7,show i64 (iadd ((s.length:Nat):Int) 1)=((s.length+1:Nat):Int) from zH (b:=1) (by omega)]
  exact qkE (b:=2) (by omega)
 have k2:imod (len s) 2=((s.length % 2:Nat):Int):=qd6 (b:=2)
 simp only [k1,k2,qP]
 generalize hk:(s.length+1) / 2=k
 have hpl:=qf0 s
 rw [hk] at hpl
 refine (qH ?_).trans ?_
 ·simp only [band,Bool.and_eq_true]
  exact ⟨qrL (by omega) (by omega) (by omega),rm_t (by omega)⟩
 generalize hf:(fun (x:Int×Int×Nat×BB×Unit)=>_)=f
 have key:=jG (f:=f) (fun i=>(0,((s.length % 2+i:Nat):Int),i,(List.range k).map (qqO (pad s) (s.length % 2+i)),())) s.length (fun i=>∀ h:i < s.length,vX s[i]) ([],2,()) 0 ?_ ?_ ?_
 ·have e0:((0:Int),((s.length % 2+0:Nat):Int),0,(List.range k).map (qqO (pad s) (s.length % 2+0)),())=((0:Int),((s.length % 2:Nat):Int),0,rep k (u8 0),()):=by
   have:(List.range k).map (qqO (pad s) (s.length % 2+0))=rep k (u8 0):=by
    apply List.ext_getElem
    ·simp [rep]
    ·intro j h1 h2
     simp only [List.getElem_map,List.getElem_range,rep,List.getElem_replicate,qqO]
     rw [if_neg (by omega)]
     split
     ·rename_i h3
      have h4:s.length % 2=1:=by omega
      have h5:j=0:=by omega
      subst h5
      unfold pad;rw [if_pos h4]
      show UInt8.ofNat (dv 48)=u8 0
      decide
     ·rfl
   rw [this];rfl
  rw [e0] at key
  rcases key with ⟨hall,hr⟩ | ⟨⟨i,hi,hn⟩,hr⟩
  ·rw [hr,if_pos (qd8.2 hall)]
   have:(List.range k).map (qqO (pad s) (s.length % 2+s.length))=bcd (pad s):=by
    unfold bcd
    rw [hpl,show 2*k / 2=k by omega]
    apply List.map_congr_left
    intro j hj
    have:=List.mem_range.1 hj
    unfold qqO
    rw [if_pos (by omega)]
   rw [this];rfl
  ·rw [hr,if_neg (fun hc=>hn (qd8.1 hc i hi))];rfl
 ·intro i hi hp
  subst hf
  obtain ⟨e1,e2⟩:=qBm hi (hp i (Nat.le_refl _) hi)
  refine (qE (qH1 hi)).trans ?_
  refine (qF e1).trans ?_
  refine (qB rfl).trans ?_
  have hd:=(qdQ (hp i (Nat.le_refl _) hi)).2
  generalize ha:s.length % 2+i=a
  have hlt10:=qNA (s:=s) (a:=a+1) (fun j hj=>hp j (by omega)) (by omega)
  have hda:dat (pad s) a=s[i].toNat - 48:=by unfold dat;rw [← ha,qJG hi];rfl
  have c1:i64 (idiv ((a:Nat):Int) 2)=((a / 2:Nat):Int):=qkE (b:=2) (by omega)
  have c2:i64 (iadd ((a:Nat):Int) 1)=((a+1:Nat):Int):=zH (b:=1) (by omega)
  have hq:a / 2 < ((List.range k).map (qqO (pad s) a)).length:=by simp;omega
  simp only [ha,c1,c2,e2,qP]
  refine (qH (zD hq)).trans ?_
  refine (qH (zD hq)).trans ?_
  have e3:s.length % 2+(i+1)=a+1:=by omega
  have hv:u8 (orI .u8 (n8 (u8 (shlI .u8 (n8 (nth ((List.range k).map (qqO (pad s) a)) (a / 2) (u8 0))) (n64 (u64 4))))) (n8 (u8 ((s[i].toNat - 48:Nat):Int))))=qqO (pad s) (a+1) (a / 2):=by
   rw [qK hq,List.getElem_map,List.getElem_range,← hda]
   unfold qqO
   rw [if_neg (by omega)]
   by_cases hpar:a % 2=0
   ·rw [if_neg (by omega),if_neg (by omega),if_pos (by omega),or0 _ (hlt10 a (by omega)),show 2*(a / 2)=a by omega]
   ·rw [if_pos (by omega),if_pos (by omega),qO9 _ (hlt10 _ (by omega)) _ (hlt10 a (by omega)),show 2*(a / 2)+1=a by omega]
  simp only [hv,e3]
  have hset:upd ((List.range k).map (qqO (pad s) a)) (a / 2) (qqO (pad s) (a+1) (a / 2))=(List.range k).map (qqO (pad s) (a+1)):=by
   unfold upd
   apply List.ext_getElem
   ·simp
   ·intro j h1 h2
    rw [List.getElem_set]
    simp only [List.getElem_map,List.getElem_range]
    split
    ·rename_i h3;rw [h3]
    ·unfold qqO
     by_cases h4:2*j+1 < a
     ·rw [if_pos h4,if_pos (by omega)]
     ·rw [if_neg h4]
      by_cases h5:2*j < a
      ·rw [if_pos h5,if_neg (by omega),if_pos (by omega)]
      ·rw [if_neg h5,if_neg (by omega),if_neg (by omega)]
  rw [hset];rfl
 ·intro i hi _ hp
  subst hf
  have:¬ vX s[i]:=fun h=>hp fun _=>h
  obtain ⟨q,e1⟩:=qFp hi this
  refine (qE (qH1 hi)).trans ?_
  refine (qF e1).trans ?_
  rfl
 ·intro _
  subst hf
  exact qB (qNP (Nat.lt_irrefl _))
theorem qLs:∀ x,x < 10→∀ y,y < 10→u8 (isub (n8 (u8 (iadd (n8 (u8 (imul (n8 (u8 16)) (n8 (u8 (isub (n8 (UInt8.ofNat (48+x))) (n8 (u8 48)))))))) (n8 (UInt8.ofNat (48+y)))))) (n8 (u8 48)))=UInt8.ofNat (16*x+y):=by decide +kernel
theorem qeR (s:BB) (hl:s.length≤1000000):kY (s,())=some (if figs s then (bcd (pad s),0,()) else ([],2,())):=by
 unfold kY
 refine (qF (qd2 s hl)).trans ?_
 by_cases h3:figs s
 rotate_left
 ·refine (qE (by simp only [decide_eq_false h3,bnot,Bool.not_false])).trans ?_
  rw [if_neg h3];rfl
 refine (qB (by simp only [decide_eq_true h3,bnot,Bool.not_true])).trans ?_
 rw [if_pos h3]
 refine (qF (a:=(pad s,())) ?_).trans ?_
 ·have k2:imod (len s) 2=((s.length % 2:Nat):Int):=qd6 (b:=2)
  simp only [k2]
  unfold pad
  by_cases h:s.length % 2=1
  ·rw [if_pos h]
   refine (qE (kQ (by omega))).trans ?_
   refine (qH (le_t ?_)).trans rfl
   simp only [iadd,len,List.length_cons,List.length_nil];omega
  ·rw [if_neg h]
   refine (qB (vL (by omega)))
 have hpl:=qf0 s
 have hfig:∀ t,(ht:t < (pad s).length)→vX (pad s)[t]:=by
  intro t ht
  by_cases h:s.length % 2=1
  ·have e:pad s=48 :: s:=by unfold pad;rw [if_pos h]
   simp only [e] at ht ⊢
   cases t with
   | zero=>exact (by decide:vX 48)
   | succ t=>exact h3 t (by simpa using ht)
  ·have e:pad s=s:=by unfold pad;rw [if_neg h]
   simp only [e] at ht ⊢
   exact h3 t ht
 have hpl':(pad s).length≤1000001:=by omega
 generalize pad s=p at *
 generalize hk:(s.length+1) / 2=k at *
 generalize hf:(fun (x:BB×Int×Unit)=>_)=f
 have key:=jG (f:=f) (fun j=>((bcd p).take j,((2*j:Nat):Int),())) k (fun _=>True) ([],0,()) 0 ?_ ?_ ?_
 ·rcases key with ⟨_,hr⟩ | ⟨⟨i,hi,hn⟩,hr⟩
  ·have e0:((bcd p).take 0,((2*0:Nat):Int),())=(none' UInt8,(0:Int),()):=by simp [none']
   rw [e0] at hr
   rw [hr]
   show some ((bcd p).take k,(0:Int),())=_
   rw [List.take_of_length_le (by simp [bcd];omega)]
  ·exact absurd trivial hn
 ·intro i hi _
  subst hf
  refine (qE (lt_t (show ((2*i:Nat):Int) < len p by simp only [len];omega))).trans ?_
  have h0:2*i < p.length:=by omega
  have h1:2*i+1 < p.length:=by omega
  have c1:i64 (iadd ((2*i:Nat):Int) 1)=((2*i+1:Nat):Int):=zH (b:=1) (by omega)
  have c2:i64 (iadd ((2*i:Nat):Int) 2)=((2*(i+1):Nat):Int):=zH (b:=2) (by omega)
  simp only [c1,c2,qP]
  refine (qH (zD h0)).trans ?_
  refine (qH (zD h1)).trans ?_
  refine (qH (rm_t ?_)).trans ?_
  ·simp only [nadd,ln,List.length_take,List.length_cons,List.length_nil,bcd,List.length_map,List.length_range];omega
  have hj:i < (bcd p).length:=by simp [bcd];omega
  have hg:(bcd p)[i]=UInt8.ofNat (16*dat p (2*i)+dat p (2*i+1)):=by simp [bcd]
  rw [List.take_succ_eq_append_getElem hj,hg,qK h0,qK h1]
  obtain ⟨a1,a2⟩:=qdQ (hfig _ h0)
  obtain ⟨b1,b2⟩:=qdQ (hfig _ h1)
  have hv:=qLs _ a2 _ b2
  rw [← a1,← b1] at hv
  have d1:dat p (2*i)=dv p[2*i]:=by unfold dat;rw [qK h0]
  have d2:dat p (2*i+1)=dv p[2*i+1]:=by unfold dat;rw [qK h1]
  rw [hv,d1,d2];rfl
 ·intro i _ _ h;exact absurd trivial h
 ·intro _;subst hf
  exact qB (lt_f (show ¬ ((2*k:Nat):Int) < len p by simp only [len];omega))
end Yp
namespace Yp
open Go
theorem qnT {v:Nat}:∀ {n:Nat},figs (ps 10 dch v n)
 | n=>by
  intro i hi
  rw [qGT]
  have h10:v / 10 ^ (n - 1 - i) % 10 < 10:=Nat.mod_lt _ (by omega)
  generalize v / 10 ^ (n - 1 - i) % 10=d at *
  unfold vX dch
  simp only [UInt8.toNat_ofNat'];omega
theorem qLG {s:BB} (h:s.length % 2=0):pad s=s:=by unfold pad;rw [if_neg (by omega)]
end Yp
namespace Yp
open Go
theorem qeQ            (v w : Int) (hv : v ≤ 9223372036854775807) : wF        (v, w, ()) = some (if 1 ≤ w ∧ w ≤ 8 ∧ 0 ≤ v ∧ v < 256 ^ w.toNat then (ps 256 byt v.toNat w.toNat, 0, ()) else ([], 1, ())) := by
  unfold wF       
  by_cases h1 : w < 1
  · rw [if_neg (by omega)]; simp [sel, ob, lt, h1, none']
  by_cases h2 : 8 < w
  · rw [if_neg (by omega)]; simp [sel, ob, lt, h1, h2, none']
  by_cases h3 : v < 0
  · rw [if_neg (by omega)]; simp [sel, ob, lt, h1, h2, h3, none']
  obtain ⟨n, rfl⟩ : ∃ n : Nat, w = n := ⟨w.toNat, by omega⟩
  obtain ⟨V, rfl⟩ : ∃ n : Nat, v = n := ⟨v.toNat, by omega⟩
  have p7 : ∀ i, i ≤ 7 → 256 ^ i ≤ 72057594037927936 := fun i hi => Nat.pow_le_pow_right (n := 256) (by omega) hi
  have p8 : 256 ^ 8 = 18446744073709551616 := by decide
  refine (qF    (a := (false, ())) ?_).trans ?_
  · refine (qB       (lt_f h1)).trans ?_
    refine (qB       (lt_f h2)).trans ?_
    exact congrArg (fun b => some (b, ())) (lt_f h3)
  refine (qB       rfl).trans ?_
  refine (qF    (a := (decide (¬ V < 256 ^ n), ())) ?_).trans ?_
  · by_cases h8 : n < 8
    · refine (qE       (lt_t (show (n : Int) < 8 by omega))).trans ?_
      have := p7 n (by omega)
      refine (qF    (qbT              256 n (by omega) (by omega) (by omega))).trans ?_
      show some (le ((256 ^ n : Nat) : Int) (V : Int), ()) = _
      rw [qKc   ]
      have : decide (256 ^ n ≤ V) = decide (¬ V < 256 ^ n) := by rw [decide_eq_decide]; omega
      rw [this]
    · refine (qB       (lt_f (show ¬ (n : Int) < 8 by omega))).trans ?_
      have h : n = 8 := by omega
      subst h
      rw [decide_eq_false (by rw [p8]; omega)]
  have hp : ((256 : Int) ^ n) = ((256 ^ n : Nat) : Int) := (Int.natCast_pow 256 n).symm
  by_cases hlt : V < 256 ^ n
  rotate_left
  · refine (qE       (decide_eq_true hlt)).trans ?_
    rw [if_neg]; · rfl
    intro h
    have := h.2.2.2
    rw [Int.toNat_natCast, hp] at this
    omega
  refine (qB       (decide_eq_false (fun h => h hlt))).trans ?_
  rw [if_pos ⟨by omega, by omega, by omega, by rw [Int.toNat_natCast, hp]; omega⟩]
  simp only [Int.toNat_natCast]
  have e0 : i64 (isub (n : Int) 1) = (n : Int) - 1 := zR     (by simp only [isub]; omega) (by simp only [isub]; omega)
  rw [e0]
  refine (qH    ?_).trans ?_
  · simp only [band, Bool.and_eq_true]
    exact ⟨qrL   (by omega) (by omega) (by omega), rm_t (by simp only [qP     ]; omega)⟩
  generalize hf : (fun (x : Int × Int × List UInt8 × Unit) => _) = f
  have key := jG        (f := f) (fun i => (((V / 256 ^ i : Nat) : Int), (n : Int) - 1 - i, rep (n - i) (u8 0) ++ ps 256 byt V i, ())) n (fun _ => True) ([], 0, ()) 0 ?_ ?_ ?_
  · have e0 : (((V / 256 ^ 0 : Nat) : Int), (n : Int) - 1 - (0 : Nat), rep (n - 0) (u8 0) ++ ps 256 byt V 0, ()) = ((V : Int), (n : Int) - 1, rep (nat (n : Int)) (u8 0), ()) := by simp [ps, nat]
    rw [e0] at key
    rcases key with ⟨_, hr⟩ | ⟨⟨i, hi, hn⟩, hr⟩
    · rw [hr]
      have : rep (n - n) (u8 0) ++ ps 256 byt V n = ps 256 byt V n := by simp [rep]
      rw [this]; rfl
    · exact absurd trivial hn
  · intro i hi _
    subst hf
    refine (qE       (le_t (show (0 : Int) ≤ (n : Int) - 1 - i by omega))).trans ?_
    have e1 : (n : Int) - 1 - i = ((n - (i + 1) : Nat) : Int) := by omega
    have hin : n - (i + 1) < (rep (n - i) (u8 0) ++ ps 256 byt V i).length := by
      simp only [List.length_append, zP       , rep, List.length_replicate]; omega
    have hle : V / 256 ^ i ≤ V := Nat.div_le_self _ _
    have c1 : i64 (idiv ((V / 256 ^ i : Nat) : Int) 256) = ((V / 256 ^ (i + 1) : Nat) : Int) := by
      refine (qkE     (b := 256) (by omega)).trans ?_
      rw [Nat.div_div_eq_div_mul, Nat.pow_succ]
    have c2 : i64 (isub ((n - (i + 1) : Nat) : Int) 1) = (n : Int) - 1 - ((i + 1 : Nat) : Int) := by
      rw [zR     (by simp only [isub]; omega) (by simp only [isub]; omega)]; simp only [isub]; omega
    have c3 : u8 (imod ((V / 256 ^ i : Nat) : Int) 256) = byt (V / 256 ^ i % 256) := by
      rw [show imod ((V / 256 ^ i : Nat) : Int) 256 = ((V / 256 ^ i % 256 : Nat) : Int) from qd6      (b := 256), quR    ]; rfl
    have hs : rep (n - i) (u8 0) = rep (n - (i + 1) + 1) (u8 0) := by congr 1; omega
    simp only [e1]
    refine (qH    (zD      hin)).trans ?_
    rw [c1, c2, c3, qP     , hs, qEE    ]; rfl
  · intro i _ _ h; exact absurd trivial h
  · intro _; subst hf
    exact qB       (le_f (show ¬ (0 : Int) ≤ (n : Int) - 1 - n by omega))
def nib (d:Nat):UInt8:=nth hexs d (u8 0)
def jI (b:BB):BB:=b.flatMap fun x=>[nib (x.toNat / 16),nib (x.toNat % 16)]
theorem zS (b:BB):(jI b).length=2*b.length:=by
 induction b with
 | nil=>rfl
 | cons x r ih =>
  have:jI (x :: r)=[nib (x.toNat / 16),nib (x.toNat % 16)]++jI r:=rfl
  rw [this,List.length_append,ih];simp;omega
theorem qDo (a b:BB):jI (a++b)=jI a++jI b:=by simp [jI]
theorem qv5 (c:UInt8):UInt8.ofNat c.toNat=c:=by
 apply UInt8.toNat_inj.1;simp
theorem all8 {p:UInt8→Prop} (h:∀ n,n < 256→p (UInt8.ofNat n)) (c:UInt8):p c:=by
 have:=h c.toNat c.toNat_lt
 rwa [qv5] at this
theorem qPJ:∀ c:UInt8,inB (n8 (u8 (shrI IntKind.u8 (n8 c) (n64 (u64 4))))) (len [48,49,50,51,52,53,54,55,56,57,97,98,99,100,101,102])=true ∧
  nth [48,49,50,51,52,53,54,55,56,57,97,98,99,100,101,102] (nat (n8 (u8 (shrI IntKind.u8 (n8 c) (n64 (u64 4)))))) (u8 0)=nib (c.toNat / 16):=all8 (by decide +kernel)
theorem qPz:∀ c:UInt8,inB (n8 (u8 (andI IntKind.u8 (n8 c) (n8 (u8 15))))) (len [48,49,50,51,52,53,54,55,56,57,97,98,99,100,101,102])=true ∧
  nth [48,49,50,51,52,53,54,55,56,57,97,98,99,100,101,102] (nat (n8 (u8 (andI IntKind.u8 (n8 c) (n8 (u8 15)))))) (u8 0)=nib (c.toNat % 16):=all8 (by decide +kernel)
theorem qsS (b:BB) (hl:b.length≤1000000):qwV (b,())=some (jI b,()):=by
 unfold qwV
 have k1:i64 (imul 2 (len b))=((2*b.length:Nat):Int):=qrO (a:=2) (by omega)
 simp only [k1,qP]
 refine (qH ?_).trans ?_
 ·simp only [band,Bool.and_eq_true]
  exact ⟨qrL (by omega) (by omega) (by omega),rm_t (by omega)⟩
 generalize hf:(fun (x:BB×Int×Unit)=>_)=f
 have key:=jG (f:=f) (fun i=>(jI (b.take i),(i:Int),())) b.length (fun _=>True) ([],()) 0 ?_ ?_ ?_
 ·have e0:(jI (b.take 0),((0:Nat):Int),())=(rep (nat 0) (u8 0),(0:Int),()):=by simp [jI,rep,nat]
  rw [e0] at key
  rcases key with ⟨_,hr⟩ | ⟨⟨i,hi,hn⟩,hr⟩
  ·rw [hr,List.take_length];rfl
  ·exact absurd trivial hn
 ·intro i hi _
  subst hf
  refine (qE (lt_t (show (i:Int) < len b by simp only [len];omega))).trans ?_
  refine (qH (zD hi)).trans ?_
  have c:i64 (iadd (i:Int) 1)=((i+1:Nat):Int):=zH (b:=1) (by omega)
  simp only [qP,qK hi,c]
  refine (qH (qPJ _).1).trans ?_
  refine (qH (qPz _).1).trans ?_
  simp only [(qPJ _).2,(qPz _).2]
  refine (qH (rm_t ?_)).trans ?_
  ·simp only [nadd,ln,zS,List.length_take,List.length_cons,List.length_nil];omega
  rw [List.take_succ_eq_append_getElem hi,qDo];rfl
 ·intro i _ _ h;exact absurd trivial h
 ·intro _;subst hf
  exact qB (lt_f (show ¬ ((b.length:Nat):Int) < len b by simp only [len];omega))
theorem qPc:∀ c:UInt8,qfV (u8 (idiv (n8 c) (n8 (u8 16))),())=some (nib (c.toNat / 16),()):=all8 (by decide +kernel)
theorem qPb:∀ c:UInt8,qfV (u8 (imod (n8 c) (n8 (u8 16))),())=some (nib (c.toNat % 16),()):=all8 (by decide +kernel)
theorem qyR (b:BB) (hl:b.length≤1000000):qjS (b,())=some (jI b,()):=by
 unfold qjS
 generalize hf:(fun (x:BB×Int×Unit)=>_)=f
 have key:=jG (f:=f) (fun i=>(jI (b.take i),(i:Int),())) b.length (fun _=>True) ([],()) 0 ?_ ?_ ?_
 ·have e0:(jI (b.take 0),((0:Nat):Int),())=(none' UInt8,(0:Int),()):=by simp [jI,none']
  rw [e0] at key
  rcases key with ⟨_,hr⟩ | ⟨⟨i,hi,hn⟩,hr⟩
  ·rw [hr,List.take_length];rfl
  ·exact absurd trivial hn
 ·intro i hi _
  subst hf
  refine (qE (lt_t (show (i:Int) < len b by simp only [len];omega))).trans ?_
  refine (qH (zD hi)).trans ?_
  have c:i64 (iadd (i:Int) 1)=((i+1:Nat):Int):=zH (b:=1) (by omega)
  simp only [qP,qK hi,c]
  refine (qF (qPc _)).trans ?_
  refine (qH (zD hi)).trans ?_
  refine (qF (qPb _)).trans ?_
  refine (qH (rm_t ?_)).trans ?_
  ·simp only [nadd,ln,zS,List.length_take,List.length_cons,List.length_nil];omega
  rw [List.take_succ_eq_append_getElem hi,qDo];rfl
 ·intro i _ _ h;exact absurd trivial h
 ·intro _;subst hf
  exact qB (lt_f (show ¬ ((b.length:Nat):Int) < len b by simp only [len];omega))
def qnQ (c:UInt8):Prop:=(48≤c.toNat∧c.toNat≤57)∨(97≤c.toNat∧c.toNat≤102)
instance (c:UInt8):Decidable (qnQ c):=inferInstanceAs (Decidable (_∨_))
def hval (c:UInt8):Nat:=if c.toNat≤57 then c.toNat - 48 else c.toNat - 87
def unh (s:BB):BB:=(List.range (s.length / 2)).map fun j=>UInt8.ofNat (16*hval (nth s (2*j) (u8 0))+hval (nth s (2*j+1) (u8 0)))
def hexy (s:BB):Prop:=∀ (i:Nat) (h:i < s.length),qnQ s[i]
instance (s:BB):Decidable (hexy s):=inferInstanceAs (Decidable (∀ (i:Nat) (h:i < s.length),qnQ s[i]))
theorem qjR:∀ c:UInt8,qhF (c,())=some (if qnQ c then ((hval c:Nat):Int) else 16,()):=all8 (by decide +kernel)
theorem qwF:∀ c:UInt8,qnQ c→hval c < 16:=all8 (by decide +kernel)
theorem qwG {s:BB} {k:Nat} (h2:s.length=2*k):(∀ i,i < k→qnQ (nth s (2*i) (u8 0))∧qnQ (nth s (2*i+1) (u8 0)))↔hexy s:=by
 constructor
 ·intro h i hi
  have:=h (i / 2) (by omega)
  by_cases hp:i % 2=0
  ·have:=this.1
   rw [show 2*(i / 2)=i by omega,qK hi] at this;exact this
  ·have:=this.2
   rw [show 2*(i / 2)+1=i by omega,qK hi] at this;exact this
 ·intro h i hi
  rw [qK (by omega),qK (by omega)]
  exact ⟨h _ _,h _ _⟩
theorem qtY (s:BB) (hl:s.length≤1000000):qdB (s,())=some (if s.length % 2=0∧hexy s then (unh s,0,()) else ([],2,())):=by
 unfold qdB
 have k2:imod (len s) 2=((s.length % 2:Nat):Int):=qd6 (b:=2)
 simp only [k2]
 by_cases h:s.length % 2=0
 rotate_left
 ·refine (qE (kQ (by omega))).trans ?_
  rw [if_neg (fun hc=>h hc.1)];rfl
 refine (qB (vL (by omega))).trans ?_
 generalize hk:s.length / 2=k
 have h2:s.length=2*k:=by omega
 generalize hf:(fun (x:Int×BB×Int×Unit)=>_)=f
 have key:=jG (f:=f) (fun i=>(0,(unh s).take i,((2*i:Nat):Int),())) k (fun i=>qnQ (nth s (2*i) (u8 0))∧qnQ (nth s (2*i+1) (u8 0))) ([],2,()) 0 ?_ ?_ ?_
 ·have e0:((0:Int),(unh s).take 0,((2*0:Nat):Int),())=((0:Int),none' UInt8,(0:Int),()):=by simp [none']
  rw [e0] at key
  rcases key with ⟨hall,hr⟩ | ⟨⟨i,hi,hn⟩,hr⟩
  ·rw [hr,if_pos ⟨h,(qwG h2).1 hall⟩,List.take_of_length_le (by simp [unh];omega)];rfl
  ·rw [hr,if_neg (fun hc=>hn ((qwG h2).2 hc.2 i hi))];rfl
 ·intro i hi hp
  subst hf
  obtain ⟨p0,p1⟩:=hp i (Nat.le_refl _)
  have h0:2*i < s.length:=by omega
  have h1:2*i+1 < s.length:=by omega
  have c1:i64 (iadd ((2*i:Nat):Int) 1)=((2*i+1:Nat):Int):=zH (b:=1) (by omega)
  have c2:i64 (iadd ((2*i:Nat):Int) 2)=((2*(i+1):Nat):Int):=zH (b:=2) (by omega)
  have g0:=qwF _ p0
  have g1:=qwF _ p1
  refine (qE (lt_t (show ((2*i:Nat):Int) < len s by simp only [len];omega))).trans ?_
  refine (qH (zD h0)).trans ?_
  simp only [c1,c2,qP,qjR,if_pos p0,if_pos p1]
  refine (qF rfl).trans ?_
  refine (qH (zD h1)).trans ?_
  refine (qF rfl).trans ?_
  refine (qF (a:=(false,())) ?_).trans ?_
  ·refine (qB (lt_f (by omega))).trans ?_
   exact congrArg (fun b=>some (b,())) (lt_f (by omega))
  refine (qB rfl).trans ?_
  refine (qH (rm_t ?_)).trans ?_
  ·simp only [nadd,ln,List.length_take,List.length_cons,List.length_nil]
   have:(unh s).length=s.length / 2:=by simp [unh]
   omega
  have hj:i < (unh s).length:=by simp [unh];omega
  have hg:(unh s)[i]=UInt8.ofNat (16*hval (nth s (2*i) (u8 0))+hval (nth s (2*i+1) (u8 0))):=by simp [unh]
  have c3:i64 (iadd (i64 (imul 16 ((hval (nth s (2*i) (u8 0)):Nat):Int))) ((hval (nth s (2*i+1) (u8 0)):Nat):Int))=((16*hval (nth s (2*i) (u8 0))+hval (nth s (2*i+1) (u8 0)):Nat):Int):=by
   rw [show i64 (imul 16 ((hval (nth s (2*i) (u8 0)):Nat):Int))=((16*hval (nth s (2*i) (u8 0)):Nat):Int) from qrO (a:=16) (by omega)]
   exact zH (by omega)
  rw [List.take_succ_eq_append_getElem hj,hg]
  simp only [c3,quR];rfl
 ·intro i hi _ hp
  subst hf
  have h0:2*i < s.length:=by omega
  have h1:2*i+1 < s.length:=by omega
  have c1:i64 (iadd ((2*i:Nat):Int) 1)=((2*i+1:Nat):Int):=zH (b:=1) (by omega)
  refine (qE (lt_t (show ((2*i:Nat):Int) < len s by simp only [len];omega))).trans ?_
  refine (qH (zD h0)).trans ?_
  simp only [c1,qP,qjR]
  refine (qF rfl).trans ?_
  refine (qH (zD h1)).trans ?_
  refine (qF rfl).trans ?_
  refine (qF (a:=(true,())) ?_).trans ?_
  ·by_cases q0:qnQ (nth s (2*i) (u8 0))
   ·rw [if_pos q0,if_neg (fun q1=>hp ⟨q0,q1⟩)]
    have:=qwF _ q0
    refine (qB (lt_f (by omega))).trans ?_
    exact congrArg (fun b=>some (b,())) (lt_t (by omega))
   ·rw [if_neg q0]
    exact qE (lt_t (by omega))
  exact qE rfl
 ·intro _;subst hf
  exact qB (lt_f (show ¬ ((2*k:Nat):Int) < len s by simp only [len];omega))
end Yp
namespace Yp
open Go
def bev (l:BB):Nat:=l.foldl (fun n c=>256*n+c.toNat) 0
theorem qqM {s:BB} {i:Nat} (h:i < s.length):bev (s.take (i+1))=256*bev (s.take i)+s[i].toNat:=by
 unfold bev
 rw [List.take_succ_eq_append_getElem h,List.foldl_append];rfl
theorem qMZ {s:BB}:∀ i,i≤s.length→bev (s.take i) < 256 ^ i
 | 0,_=>by simp [bev]
 | i+1,h=>by
  have:=qMZ (s:=s) i (by omega)
  have hi:=qAX s[i]
  rw [qqM (by omega),Nat.pow_succ]
  omega
theorem qKY {s:BB} (h0:0 < s.length) (hs:s[0].toNat≤127):∀ i,i < s.length→bev (s.take (i+1)) < 128*256 ^ i
 | 0,_=>by rw [qqM h0];simp [bev];omega
 | i+1,h=>by
  have:=qKY h0 hs i (by omega)
  have hi:=qAX s[i+1]
  rw [qqM h,Nat.pow_succ]
  omega
def tk (b:BB) (A W:Nat):BB:=(b.drop A).take W
theorem vZ {b:BB} {A W:Nat} (h:A+W≤b.length):(tk b A W).length=W:=by simp [tk];omega
theorem qGv {b:BB} {A W i:Nat} (h:i < (tk b A W).length) (h':A+i < b.length):(tk b A W)[i]=b[A+i]:=by simp [tk]
theorem qGx {b:BB} {A W:Nat}:sub b (A:Int) ((A+W:Nat):Int)=tk b A W:=by
 unfold sub tk
 rw [Int.toNat_natCast,Int.toNat_natCast,show A+W - A=W by omega]
def qm9 (b:BB) (at' w:Int):Int×Int×Int×Unit :=
 if w < 1∨8 < w∨at' < 0∨(b.length:Int) < at' then (0,0,1,()) else if (b.length:Int) - at' < w then (0,0,3,())
 else if w=8∧127 < (nth b at'.toNat (u8 0)).toNat then (0,0,2,()) else ((bev (tk b at'.toNat w.toNat):Int),at'+w,0,())
theorem qKZ {b:BB} {A W:Nat} (hA:A+W≤b.length) (hW:W≤8) (h7:¬ ((W:Int)=8∧127 < (nth b A (u8 0)).toNat)):∀ i,i < W→bev ((tk b A W).take (i+1))≤9223372036854775807:=by
 intro i hi
 have hl:=vZ hA
 by_cases hi7:i+1≤7
 ·have h1:=qMZ (s:=tk b A W) (i+1) (by omega)
  have h2:256 ^ (i+1)≤256 ^ 7:=Nat.pow_le_pow_right (by omega) hi7
  have h3:256 ^ 7=72057594037927936:=by decide
  omega
 ·have h8:W=8:=by omega
  have h0:0 < (tk b A W).length:=by omega
  have hn:(tk b A W)[0]=nth b A (u8 0):=by
   rw [qGv h0 (by omega),qK (by omega)];rfl
  have hs:(tk b A W)[0].toNat≤127:=by rw [hn];exact Nat.le_of_not_lt fun h=>h7 ⟨by omega,h⟩
  have:=qKY h0 hs i (by omega)
  have hi':i=7:=by omega
  subst hi'
  have h3:256 ^ 7=72057594037927936:=by decide
  omega
theorem qo6 (b:BB) (at' w:Int) (hl:b.length≤1000000):qcA (b,at',w,())=some (qm9 b at' w):=by
 unfold qcA qm9
 by_cases h1:w < 1
 ·rw [if_pos (.inl h1)];exact (qF (qE (lt_t h1))).trans rfl
 by_cases h2:8 < w
 ·rw [if_pos (.inr (.inl h2))];exact (qF (a:=(true,())) ((qB (lt_f h1)).trans (qE (lt_t h2)))).trans rfl
 by_cases h3:at' < 0
 ·rw [if_pos (.inr (.inr (.inl h3)))];exact (qF (a:=(true,())) ((qB (lt_f h1)).trans ((qB (lt_f h2)).trans (qE (lt_t h3))))).trans rfl
 by_cases h4:(b.length:Int) < at'
 ·rw [if_pos (.inr (.inr (.inr h4)))];exact (qF (a:=(true,())) ((qB (lt_f h1)).trans ((qB (lt_f h2)).trans ((qB (lt_f h3)).trans (congrArg (fun b=>some (b,())) (lt_t h4)))))).trans rfl
 rw [if_neg (by omega)]
 refine (qF (a:=(false,())) ((qB (lt_f h1)).trans ((qB (lt_f h2)).trans ((qB (lt_f h3)).trans (congrArg (fun b=>some (b,())) (lt_f h4)))))).trans ?_
 refine (qB rfl).trans ?_
 obtain ⟨A,rfl⟩:∃ n:Nat,at'=n:=⟨at'.toNat,by omega⟩
 obtain ⟨W,rfl⟩:∃ n:Nat,w=n:=⟨w.toNat,by omega⟩
 have c0:i64 (isub (len b) (A:Int))=(b.length:Int) - A:=by
  simp only [isub,len];exact zR (by omega) (by omega)
 simp only [c0]
 by_cases h5:(b.length:Int) - A < W
 ·rw [if_pos h5];exact qE (lt_t h5)
 rw [if_neg h5]
 refine (qB (lt_f h5)).trans ?_
 have hAW:A+W≤b.length:=by omega
 have hA:A < b.length:=by omega
 have ctest:(sel (beq (W:Int) 8) (ck (inB (A:Int) (len b)) (some (le (n8 (u8 128)) (n8 (nth b (nat (A:Int)) (u8 0))),()))) (some (false,())):Option (Bool×Unit))=some (decide ((W:Int)=8∧127 < (nth b A (u8 0)).toNat),()):=by
  by_cases h8:(W:Int)=8
  ·refine (qE (kQ h8)).trans ?_
   refine (qH (zD hA)).trans ?_
   rw [qP,show n8 (u8 128)=((128:Nat):Int) by decide,show n8 (nth b A (u8 0))=(((nth b A (u8 0)).toNat:Nat):Int) from rfl,qKc]
   simp only [h8,true_and]
   rfl
  ·refine (qB (vL h8)).trans ?_
   rw [decide_eq_false (fun h=>h8 h.1)]
 simp only [Int.toNat_natCast]
 refine (qF ctest).trans ?_
 by_cases h7:(W:Int)=8∧127 < (nth b A (u8 0)).toNat
 ·rw [if_pos h7];exact qE (decide_eq_true h7)
 rw [if_neg h7]
 refine (qB (decide_eq_false h7)).trans ?_
 have c1:i64 (iadd (A:Int) (W:Int))=((A+W:Nat):Int):=zH (by omega)
 simp only [c1]
 have hlt:=vZ hAW
 have hbnd:=qKZ hAW (by omega) h7
 have hget:∀ i (h:i < (tk b A W).length),(tk b A W)[i]=nth b (A+i) (u8 0):=fun i h=>by
  rw [qGv h (by omega),qK (by omega)]
 generalize htk:tk b A W=t at *
 generalize hf:(fun (x:Int×Int×Unit)=>_)=f
 have key:=jG (f:=f) (fun i=>((bev (t.take i):Int),(i:Int),())) W (fun _=>True) (0,0,0,()) 0 ?_ ?_ ?_
 ·have e0:((bev (t.take 0):Int),((0:Nat):Int),())=((0:Int),(0:Int),()):=by simp [bev]
  rw [e0] at key
  rcases key with ⟨_,hr⟩ | ⟨⟨i,hi,hn⟩,hr⟩
  ·rw [hr,List.take_of_length_le (by omega)]
   show some ((bev t:Int),((A+W:Nat):Int),0,())=_
   simp
  ·exact absurd trivial hn
 ·intro i hi _
  subst hf
  have hit:i < t.length:=by omega
  refine (qE (lt_t (show (i:Int) < (W:Int) by omega))).trans ?_
  have c3:i64 (iadd (A:Int) (i:Int))=((A+i:Nat):Int):=zH (by omega)
  simp only [c3,qP]
  refine (qH (zD (show A+i < b.length by omega))).trans ?_
  have c:i64 (iadd (i:Int) 1)=((i+1:Nat):Int):=zH (b:=1) (by omega)
  have h256:=qAX t[i]
  have hb:=hbnd i hi
  rw [qqM hit] at hb
  have c2:i64 (n8 t[i])=((t[i].toNat:Nat):Int):=qeV (by omega)
  rw [← hget i hit,c,c2,show i64 (imul 256 (bev (t.take i):Int))=((256*bev (t.take i):Nat):Int) from qrO (a:=256) (by omega),zH hb,qqM hit]
 ·intro i _ _ h;exact absurd trivial h
 ·intro _;subst hf
  exact qB (lt_f (show ¬ (W:Int) < (W:Int) by omega))
end Yp
namespace Yp
open Go
def zM (b:BB) (at' n:Int):BB×Int×Int×Unit :=
 if n < 0∨999 < n∨at' < 0∨(b.length:Int) < at' then ([],0,1,()) else if (b.length:Int) - at' < (n+1) / 2 then ([],0,3,())
 else if n % 2=1∧¬ nth (jI (tk b at'.toNat ((n.toNat+1) / 2))) 0 (u8 0)=48 then ([],0,2,())
 else if figs ((jI (tk b at'.toNat ((n.toNat+1) / 2))).drop (n.toNat % 2)) then ((jI (tk b at'.toNat ((n.toNat+1) / 2))).drop (n.toNat % 2),at'+((n.toNat+1) / 2:Nat),0,()) else ([],0,2,())
end Yp
namespace Yp
open Go
def nbs (b:BB):BB:=b.flatMap fun c=>[u8 (idiv (n8 c) (n8 (u8 16))),u8 (imod (n8 c) (n8 (u8 16)))]
theorem qNW (a b:BB):nbs (a++b)=nbs a++nbs b:=by simp [nbs]
theorem qG5:∀ c:UInt8,([u8 (idiv (n8 c) (n8 (u8 16))),u8 (imod (n8 c) (n8 (u8 16)))].map fun x=>nib x.toNat)=[nib (c.toNat / 16),nib (c.toNat % 16)]∧(u8 (idiv (n8 c) (n8 (u8 16)))).toNat < 16∧(u8 (imod (n8 c) (n8 (u8 16)))).toNat < 16:=all8 (by decide +kernel)
theorem qJ1 (b:BB):jI b=(nbs b).map fun x=>nib x.toNat:=by
 induction b with
 | nil=>rfl
 | cons c r ih =>
  have e1:jI (c :: r)=[nib (c.toNat / 16),nib (c.toNat % 16)]++jI r:=rfl
  have e2:nbs (c :: r)=[u8 (idiv (n8 c) (n8 (u8 16))),u8 (imod (n8 c) (n8 (u8 16)))]++nbs r:=rfl
  rw [e1,e2,List.map_append,(qG5 c).1,ih]
theorem qPx (b:BB):∀ x∈nbs b,x.toNat < 16:=by
 intro x hx
 unfold nbs at hx
 rw [List.mem_flatMap] at hx
 obtain ⟨c,_,hx⟩:=hx
 have:=qG5 c
 simp only [List.mem_cons,List.not_mem_nil,or_false] at hx
 rcases hx with rfl | rfl
 ·exact this.2.1
 ·exact this.2.2
theorem qz6 (b:BB):(nbs b).length=2*b.length:=by rw [← zS,qJ1,List.length_map]
theorem qJZ:∀ d:Nat,d < 16→(vX (nib d)↔d≤9):=by decide +kernel
theorem qNQ:∀ d:Nat,d < 10→u8 (iadd (n8 (UInt8.ofNat d)) (n8 (u8 48)))=nib d:=by decide +kernel
theorem qLP:∀ d:Nat,d < 16→(nib d=48↔d=0):=by decide +kernel
def half' (l:BB) (o i:Nat):BB:=(List.range l.length).map fun j=>if o≤j∧j < o+i then nib (nth l j (u8 0)).toNat else nth l j (u8 0)
theorem xP (l:BB) (o i:Nat):(half' l o i).length=l.length:=by simp [half']
theorem qAc (l:BB) (o:Nat):half' l o 0=l:=by
 apply List.ext_getElem
 ·simp [half']
 ·intro j h1 h2
  simp only [half',List.getElem_map,List.getElem_range]
  rw [if_neg (by omega),qK h2]
theorem qDs {l:BB} {o:Nat}:(half' l o (l.length - o)).drop o=(l.map fun x=>nib x.toNat).drop o:=by
 apply List.ext_getElem
 ·simp [half']
 ·intro j h1 h2
  simp only [List.length_drop,xP] at h1
  simp only [half',List.getElem_drop,List.getElem_map,List.getElem_range]
  rw [if_pos (by omega),qK (by omega)]
theorem qAd {l:BB} {o i:Nat} (h:o+i < l.length) (hd:(nth l (o+i) (u8 0)).toNat≤9) :
  upd (half' l o i) (o+i) (u8 (iadd (n8 (nth (half' l o i) (o+i) (u8 0))) (n8 (u8 48))))=half' l o (i+1)∧nth (half' l o i) (o+i) (u8 0)=nth l (o+i) (u8 0):=by
 have e:nth (half' l o i) (o+i) (u8 0)=nth l (o+i) (u8 0):=by
  rw [qK (by rw [xP];exact h)]
  simp only [half',List.getElem_map,List.getElem_range]
  rw [if_neg (by omega)]
 refine ⟨?_,e⟩
 rw [e]
 have hv:=qNQ (nth l (o+i) (u8 0)).toNat (by omega)
 rw [qv5] at hv
 rw [hv]
 unfold upd
 apply List.ext_getElem
 ·simp [half']
 ·intro j h1 h2
  rw [List.getElem_set]
  simp only [half',List.getElem_map,List.getElem_range]
  split
  ·rename_i hj;subst hj;rw [if_pos (by omega)]
  ·by_cases hc:o≤j∧j < o+i
   ·rw [if_pos hc,if_pos (by omega)]
   ·rw [if_neg hc,if_neg (by omega)]
theorem qDr {l:BB} {o i:Nat} (h:o+i < l.length):nth (half' l o i) (o+i) (u8 0)=nth l (o+i) (u8 0):=by
 rw [qK (by rw [xP];exact h)]
 simp only [half',List.getElem_map,List.getElem_range]
 rw [if_neg (by omega)]
theorem qpX {l:BB} {o:Nat} (hlt:∀ x∈l,x.toNat < 16):figs ((l.map fun x=>nib x.toNat).drop o)↔∀ i,i < l.length - o→(nth l (o+i) (u8 0)).toNat≤9:=by
 unfold figs
 constructor
 ·intro h i hi
  have h1:=h i (by simp;omega)
  simp only [List.getElem_drop,List.getElem_map] at h1
  rw [qK (by omega)]
  exact (qJZ _ (hlt _ (List.getElem_mem _))).1 h1
 ·intro h i hi
  simp only [List.length_drop,List.length_map] at hi
  simp only [List.getElem_drop,List.getElem_map]
  have h1:=h i hi
  rw [qK (by omega)] at h1
  exact (qJZ _ (hlt _ (List.getElem_mem _))).2 h1
theorem xK (b:BB) (at' n:Int) (hl:b.length≤1000000):xL (b,at',n,())=some (zM b at' n):=by
 unfold xL zM
 by_cases h1:n < 0
 ·rw [if_pos (.inl h1)];exact (qF (qE (lt_t h1))).trans rfl
 by_cases h2:999 < n
 ·rw [if_pos (.inr (.inl h2))];exact (qF (a:=(true,())) ((qB (lt_f h1)).trans (qE (lt_t h2)))).trans rfl
 by_cases h3:at' < 0
 ·rw [if_pos (.inr (.inr (.inl h3)))];exact (qF (a:=(true,())) ((qB (lt_f h1)).trans ((qB (lt_f h2)).trans (qE (lt_t h3))))).trans rfl
 by_cases h4:(b.length:Int) < at'
 ·rw [if_pos (.inr (.inr (.inr h4)))];exact (qF (a:=(true,())) ((qB (lt_f h1)).trans ((qB (lt_f h2)).trans ((qB (lt_f h3)).trans (congrArg (fun b=>some (b,())) (lt_t h4)))))).trans rfl
 rw [if_neg (by omega)]
 refine (qF (a:=(false,())) ((qB (lt_f h1)).trans ((qB (lt_f h2)).trans ((qB (lt_f h3)).trans (congrArg (fun b=>some (b,())) (lt_f h4)))))).trans ?_
 refine (qB rfl).trans ?_
 obtain ⟨A,rfl⟩:∃ n:Nat,at'=n:=⟨at'.toNat,by omega⟩
 obtain ⟨N,rfl⟩:∃ k:Nat,n=k:=⟨n.toNat,by omega⟩
 have c0:i64 (isub (len b) (A:Int))=(b.length:Int) - A:=by
  simp only [isub,len];exact zR (by omega) (by omega)
 have c1:i64 (idiv (i64 (iadd (N:Int) 1)) 2)=(((N+1) / 2:Nat):Int):=by
  rw [show i64 (iadd (N:Int) 1)=((N+1:Nat):Int) from zH (b:=1) (by omega)]
  exact qkE (b:=2) (by omega)
 have c2:((N:Int)+1) / 2=(((N+1) / 2:Nat):Int):=by omega
 simp only [c0,c1,c2,Int.toNat_natCast]
 generalize hM:(N+1) / 2=M
 by_cases h5:(b.length:Int) - A < M
 ·rw [if_pos h5];exact qE (lt_t h5)
 rw [if_neg h5]
 refine (qB (lt_f h5)).trans ?_
 have hAM:A+M≤b.length:=by omega
 have c3:i64 (iadd (A:Int) (M:Int))=((A+M:Nat):Int):=zH (by omega)
 simp only [c3]
 have htl:=vZ hAM
 have hget:∀ i (h:i < (tk b A M).length),(tk b A M)[i]=nth b (A+i) (u8 0):=fun i h=>by
  rw [qGv h (by omega),qK (by omega)]
 generalize tk b A M=t at *
 -- the first loop
 have first:loop (fun (x_1:BB×Int×Unit)=>sel (lt x_1.2.1 ((A+M:Nat):Int)) (ck (inB x_1.2.1 (len b)) (ck (inB x_1.2.1 (len b)) (ck (rm 1 (nadd (ln x_1.1) (ln [u8 (idiv (n8 (nth b (nat x_1.2.1) (u8 0))) (n8 (u8 16))),u8 (imod (n8 (nth b (nat x_1.2.1) (u8 0))) (n8 (u8 16)))])))
   (some (LS.nx (app x_1.1 [u8 (idiv (n8 (nth b (nat x_1.2.1) (u8 0))) (n8 (u8 16))),u8 (imod (n8 (nth b (nat x_1.2.1) (u8 0))) (n8 (u8 16)))],i64 (iadd x_1.2.1 1),())))))) (some (LS.ex 0 (x_1.1,x_1.2.1,()))))
   (none' UInt8,(A:Int),())=some (LS.ex 0 (nbs t,((A+M:Nat):Int),()):LS (BB×Int×Unit) (BB×Int×Int×Unit)):=by
  generalize hf:(fun (x:BB×Int×Unit)=>_)=f
  have key:=jG (f:=f) (fun i=>(nbs (t.take i),((A+i:Nat):Int),())) M (fun _=>True) ([],0,0,()) 0 ?_ ?_ ?_
  ·have e0:(nbs (t.take 0),((A+0:Nat):Int),())=(none' UInt8,(A:Int),()):=by simp [nbs,none']
   rw [e0] at key
   rcases key with ⟨_,hr⟩ | ⟨⟨i,hi,hn⟩,hr⟩
   ·rw [hr,List.take_of_length_le (by omega)]
   ·exact absurd trivial hn
  ·intro i hi _
   subst hf
   have hit:i < t.length:=by omega
   have hin:A+i < b.length:=by omega
   refine (qE (lt_t (show ((A+i:Nat):Int) < ((A+M:Nat):Int) by omega))).trans ?_
   refine (qH (zD hin)).trans ?_
   refine (qH (zD hin)).trans ?_
   have c:i64 (iadd ((A+i:Nat):Int) 1)=((A+(i+1):Nat):Int):=zH (b:=1) (by omega)
   simp only [qP,c,← hget i hit]
   refine (qH (rm_t ?_)).trans ?_
   ·simp only [nadd,ln,qz6,List.length_take,List.length_cons,List.length_nil];omega
   rw [List.take_succ_eq_append_getElem hit,qNW];rfl
  ·intro i _ _ h;exact absurd trivial h
  ·intro _;subst hf
   exact qB (lt_f (show ¬ ((A+M:Nat):Int) < ((A+M:Nat):Int) by omega))
 refine (qX first).trans ?_
 have hnl:=qz6 t
 rw [htl] at hnl
 have hlt:=qPx t
 simp only [lc]
 refine (qH rfl).trans ?_
 rw [qJ1]
 generalize nbs t=l at *
 have k2:imod (N:Int) 2=((N % 2:Nat):Int):=qd6 (b:=2)
 simp only [k2]
 have h9:n8 (u8 9)=((9:Nat):Int):=by decide
 have n8n:∀ c:UInt8,n8 c=((c.toNat:Nat):Int):=fun _=>rfl
 by_cases hodd:N % 2=1
 ·have hm:(N:Int) % 2=1:=by omega
  refine (qE (kQ (by omega))).trans ?_
  have h0:0 < l.length:=by omega
  refine (qH (zD (a:=0) h0)).trans ?_
  have e0:beq (n8 (nth l (nat 0) (u8 0))) (n8 (u8 0))=decide (nth l 0 (u8 0)=0):=by
   show ((((nth l 0 (u8 0)).toNat:Nat):Int) == ((0:Nat):Int))=_
   rw [Bool.eq_iff_iff]
   simp only [beq_iff_eq,decide_eq_true_eq]
   constructor
   ·intro hh;apply UInt8.toNat_inj.1;exact Int.ofNat.inj hh
   ·intro hh;rw [hh];rfl
  have hx16:(nth l 0 (u8 0)).toNat < 16:=by rw [qK h0];exact hlt _ (List.getElem_mem _)
  have e1:nth (l.map fun x=>nib x.toNat) 0 (u8 0)=nib (nth l 0 (u8 0)).toNat:=by
   rw [qK (by simpa using h0),qK h0];simp
  have e2:(nth (l.map fun x=>nib x.toNat) 0 (u8 0)=48)↔nth l 0 (u8 0)=0:=by
   rw [e1,qLP _ hx16]
   constructor
   ·intro hh;apply UInt8.toNat_inj.1;exact hh
   ·intro hh;rw [hh];rfl
  rw [e0]
  by_cases hz:nth l 0 (u8 0)=0
  rotate_left
  ·rw [if_pos ⟨hm,fun h=>hz (e2.1 h)⟩]
   exact qE (by rw [decide_eq_false hz];rfl)
  rw [if_neg (fun hc=>hc.2 (e2.2 hz))]
  refine (qB (by rw [decide_eq_true hz];rfl)).trans ?_
  refine (qH (qrL (by omega) (by simp only [len];omega) (by simp only [len];omega))).trans ?_
  have c4:nsub (nat (len l)) (nat 1)=l.length - 1:=by simp [nsub,nat,len]
  have c5:nat 1=1:=by decide
  simp only [c4,c5,hodd]
  generalize hf:(fun (x:BB×Int×Int×Int×BB×Unit)=>_)=f
  have key:=jG (f:=f) (fun i=>(none' UInt8,(0:Int),(0:Int),(i:Int),half' l 1 i,())) (l.length - 1) (fun i=>(nth l (1+i) (u8 0)).toNat≤9) (none' UInt8,0,2,()) 2 ?_ ?_ ?_
  ·have e0:(none' UInt8,(0:Int),(0:Int),((0:Nat):Int),half' l 1 0,())=(none' UInt8,(0:Int),(0:Int),(0:Int),l,()):=by rw [qAc];rfl
   rw [e0] at key
   rcases key with ⟨hall,hr⟩ | ⟨⟨i,hi,hn⟩,hr⟩
   ·rw [hr,if_pos ((qpX hlt).2 hall),← qDs]
    show some (cut (half' l 1 (l.length - 1)) 1 (l.length - 1),((A+M:Nat):Int),(0:Int),())=_
    have:cut (half' l 1 (l.length - 1)) 1 (l.length - 1)=(half' l 1 (l.length - 1)).drop 1:=by
     unfold cut
     rw [List.take_of_length_le (by simp [xP])]
    rw [this];simp
   ·rw [hr,if_neg (fun hc=>hn ((qpX hlt).1 hc i hi))];rfl
  ·intro i hi hp
   subst hf
   have hi1:1+i < l.length:=by omega
   have hp':=hp i (Nat.le_refl _)
   obtain ⟨s1,s2⟩:=qAd hi1 hp'
   refine (qE (lt_t (show (i:Int) < ofn (l.length - 1) by simp only [ofn];omega))).trans ?_
   have hin:inB (i:Int) (ofn (l.length - 1))=true:=zD hi
   refine (qH hin).trans ?_
   have c6:nadd 1 (nat (i:Int))=1+i:=by simp [nadd,nat]
   have c:i64 (iadd (i:Int) 1)=((i+1:Nat):Int):=zH (b:=1) (by omega)
   simp only [c6,c]
   refine (qB (by rw [h9,s2,n8n];exact lt_f (by omega))).trans ?_
   refine (qH hin).trans ?_
   refine (qH hin).trans ?_
   rw [s1]
  ·intro i hi _ hp
   subst hf
   have hi1:1+i < l.length:=by omega
   refine (qE (lt_t (show (i:Int) < ofn (l.length - 1) by simp only [ofn];omega))).trans ?_
   have hin:inB (i:Int) (ofn (l.length - 1))=true:=zD hi
   refine (qH hin).trans ?_
   have c6:nadd 1 (nat (i:Int))=1+i:=by simp [nadd,nat]
   simp only [c6]
   exact qE (by rw [h9,qDr hi1,n8n];exact lt_t (by omega))
  ·intro _;subst hf
   exact qB (lt_f (show ¬ ((l.length - 1:Nat):Int) < ofn (l.length - 1) by simp only [ofn];omega))
 ·have hev:N % 2=0:=by omega
  rw [if_neg (fun hc=>by omega)]
  refine (qB (vL (by omega))).trans ?_
  simp only [hev]
  generalize hf:(fun (x:BB×Int×Int×Int×BB×Unit)=>_)=f
  have key:=jG (f:=f) (fun i=>(none' UInt8,(0:Int),(0:Int),(i:Int),half' l 0 i,())) (l.length - 0) (fun i=>(nth l (0+i) (u8 0)).toNat≤9) (none' UInt8,0,2,()) 2 ?_ ?_ ?_
  ·have e0:(none' UInt8,(0:Int),(0:Int),((0:Nat):Int),half' l 0 0,())=(none' UInt8,(0:Int),(0:Int),(0:Int),l,()):=by rw [qAc];rfl
   rw [e0] at key
   rcases key with ⟨hall,hr⟩ | ⟨⟨i,hi,hn⟩,hr⟩
   ·rw [hr,if_pos ((qpX hlt).2 hall),← qDs]
    show some (half' l 0 (l.length - 0),((A+M:Nat):Int),(0:Int),())=_
    rw [List.drop_zero];simp
   ·rw [hr,if_neg (fun hc=>hn ((qpX hlt).1 hc i hi))];rfl
  ·intro i hi hp
   subst hf
   have hi1:0+i < l.length:=by omega
   have hp':=hp i (Nat.le_refl _)
   obtain ⟨s1,s2⟩:=qAd hi1 hp'
   rw [Nat.zero_add] at s1 s2 hp'
   have hin:inB (i:Int) (len (half' l 0 i))=true:=zD (by rw [xP];omega)
   refine (qE (lt_t (show (i:Int) < len (half' l 0 i) by simp only [len,xP];omega))).trans ?_
   refine (qH hin).trans ?_
   have c:i64 (iadd (i:Int) 1)=((i+1:Nat):Int):=zH (b:=1) (by omega)
   simp only [qP,c]
   refine (qB (by rw [h9,s2,n8n];exact lt_f (by omega))).trans ?_
   refine (qH hin).trans ?_
   refine (qH hin).trans ?_
   rw [s1]
  ·intro i hi _ hp
   subst hf
   have hi1:0+i < l.length:=by omega
   have hin:inB (i:Int) (len (half' l 0 i))=true:=zD (by rw [xP];omega)
   refine (qE (lt_t (show (i:Int) < len (half' l 0 i) by simp only [len,xP];omega))).trans ?_
   refine (qH hin).trans ?_
   simp only [qP]
   have hg:=qDr hi1
   rw [Nat.zero_add] at hg hp
   exact qE (by rw [h9,hg,n8n];exact lt_t (by omega))
  ·intro _;subst hf
   exact qB (lt_f (show ¬ ((l.length - 0:Nat):Int) < len (half' l 0 (l.length - 0)) by simp only [len,xP];omega))
end Yp
namespace Yp
open Go
def vl (B:Nat) (wt:UInt8→Nat) (l:BB):Nat:=l.foldl (fun n c=>B*n+wt c) 0
theorem qII (B:Nat) (wt:UInt8→Nat) (l:BB) (c:UInt8):vl B wt (l++[c])=B*vl B wt l+wt c:=by
 unfold vl;rw [List.foldl_append];rfl
theorem qE6 (B:Nat) (g:Nat→UInt8) (v:Nat):∀ n,ps B g v (n+1)=ps B g (v / B) n++[g (v % B)]
 | 0=>by simp [ps]
 | n+1=>by
  have e:ps B g v (n+1+1)=g (v / B ^ (n+1) % B) :: ps B g v (n+1):=rfl
  have e2:ps B g (v / B) (n+1)=g (v / B / B ^ n % B) :: ps B g (v / B) n:=rfl
  rw [e,qE6 B g v n,e2,Nat.div_div_eq_div_mul,Nat.pow_succ',List.cons_append]
theorem qM9 {B:Nat} {g:Nat→UInt8} {wt:UInt8→Nat} (hB:0 < B) (h:∀ d,d < B→wt (g d)=d):∀ (n v:Nat),vl B wt (ps B g v n)=v % B ^ n
 | 0,v=>by simp [ps,vl,Nat.mod_one]
 | n+1,v=>by
  rw [qE6,qII,qM9 hB h n,h _ (Nat.mod_lt _ hB),Nat.pow_succ',Nat.mod_mul]
  omega
theorem qPg {B:Nat} {g:Nat→UInt8} {wt:UInt8→Nat} {l:BB} (h:∀ c∈l,wt c < B∧g (wt c)=c):∀ i,i≤l.length→ps B g (vl B wt (l.take i)) i=l.take i
 | 0,_=>by simp [ps]
 | i+1,hi=>by
  have hc:=h _ (List.getElem_mem (show i < l.length by omega))
  rw [List.take_succ_eq_append_getElem (by omega),qII,qE6]
  have e1:(B*vl B wt (l.take i)+wt l[i]) / B=vl B wt (l.take i):=by
   rw [Nat.mul_add_div (by omega),Nat.div_eq_of_lt hc.1];omega
  have e2:(B*vl B wt (l.take i)+wt l[i]) % B=wt l[i]:=by
   rw [Nat.mul_add_mod,Nat.mod_eq_of_lt hc.1]
  rw [e1,e2,qPg h i (by omega),hc.2]
theorem qP0 (l:BB):bev l=vl 256 UInt8.toNat l:=rfl
theorem qOV (l:BB):val l=vl 10 dv l:=rfl
theorem qP1 (v n:Nat):bev (ps 256 byt v n)=v % 256 ^ n:=by
 rw [qP0]
 refine qM9 (by omega) (fun d hd => ?_) n v
 simp only [byt,UInt8.toNat_ofNat'];omega
theorem qIJ (v n:Nat):val (ps 10 dch v n)=v % 10 ^ n:=by
 rw [qOV]
 refine qM9 (by omega) (fun d hd => ?_) n v
 simp only [dv,dch,UInt8.toNat_ofNat'];omega
theorem qMF {l:BB} (hf:figs l):ps 10 dch (val l) l.length=l:=by
 have:=qPg (B:=10) (g:=dch) (wt:=dv) (l:=l) (fun c hc=>by
  obtain ⟨i,hi,rfl⟩:=List.getElem_of_mem hc
  have:=qdQ (hf i hi)
  exact ⟨this.2,this.1.symm⟩) l.length (Nat.le_refl _)
 rw [List.take_length] at this;exact this
theorem qHH {l:BB} (hf:figs l):val l < 10 ^ l.length:=by
 have:=qGt (s:=l) l.length (Nat.le_refl _) (fun j _ h=>hf j h)
 rw [List.take_length] at this;exact this
theorem qpS {b:BB}:∀ {i:Nat} (h:i < b.length),nth (jI b) (2*i) (u8 0)=nib (b[i].toNat / 16)∧nth (jI b) (2*i+1) (u8 0)=nib (b[i].toNat % 16):=by
 induction b with
 | nil=>intro i h;simp at h
 | cons x r ih =>
  intro i h
  have e:jI (x :: r)=nib (x.toNat / 16) :: nib (x.toNat % 16) :: jI r:=rfl
  cases i with
  | zero=>rw [e];exact ⟨rfl,rfl⟩
  | succ i =>
   have:=ih (i:=i) (by simpa using h)
   rw [e]
   exact this
theorem qJF {a b:BB} {k:Nat} (ha:a.length=2*k) (hb:b.length=2*k) (h:∀ i,i < k→nth a (2*i) (u8 0)=nth b (2*i) (u8 0)∧nth a (2*i+1) (u8 0)=nth b (2*i+1) (u8 0)):a=b:=by
 apply List.ext_getElem
 ·omega
 ·intro j h1 h2
  have:=h (j / 2) (by omega)
  by_cases hp:j % 2=0
  ·have:=this.1
   rw [show 2*(j / 2)=j by omega,qK h1,qK h2] at this;exact this
  ·have:=this.2
   rw [show 2*(j / 2)+1=j by omega,qK h1,qK h2] at this;exact this
theorem qMK:∀ d:Nat,d < 16→vX (nib d)→dv (nib d)=d:=by decide +kernel
theorem qMV:∀ d:Nat,d < 10→nib d=UInt8.ofNat (48+d):=by decide +kernel
theorem quC:∀ d:Nat,d < 16→qnQ (nib d)∧hval (nib d)=d:=by decide +kernel
theorem qKr {p:BB} (hf:figs p) (he:p.length % 2=0):jI (bcd p)=p:=by
 have hl:(bcd p).length=p.length / 2:=by simp [bcd]
 refine qJF (k:=p.length / 2) (by rw [zS,hl]) (by omega) fun i hi => ?_
 have hi':i < (bcd p).length:=by omega
 have h0:2*i < p.length:=by omega
 have h1:2*i+1 < p.length:=by omega
 obtain ⟨e1,e2⟩:=qpS hi'
 obtain ⟨a1,a2⟩:=qdQ (hf _ h0)
 obtain ⟨b1,b2⟩:=qdQ (hf _ h1)
 have hg:(bcd p)[i]=UInt8.ofNat (16*dv p[2*i]+dv p[2*i+1]):=by simp [bcd,dat,qK h0,qK h1]
 have hn:(bcd p)[i].toNat=16*dv p[2*i]+dv p[2*i+1]:=by rw [hg,UInt8.toNat_ofNat'];omega
 rw [e1,e2,hn,qK h0,qK h1]
 rw [show (16*dv p[2*i]+dv p[2*i+1]) / 16=dv p[2*i] by omega,show (16*dv p[2*i]+dv p[2*i+1]) % 16=dv p[2*i+1] by omega]
 rw [qMV _ a2,qMV _ b2]
 exact ⟨a1.symm,b1.symm⟩
theorem qK0 {u:BB} (hf:figs (jI u)):bcd (jI u)=u:=by
 have hl:=zS u
 apply List.ext_getElem
 ·simp [bcd];omega
 ·intro i h1 h2
  obtain ⟨e1,e2⟩:=qpS h2
  have f0:=hf (2*i) (by omega)
  have f1:=hf (2*i+1) (by omega)
  rw [← qK (d:=u8 0)] at f0 f1
  rw [e1] at f0;rw [e2] at f1
  have hu:=qAX u[i]
  simp only [bcd,List.getElem_map,List.getElem_range,dat,e1,e2]
  rw [qMK _ (by omega) f0,qMK _ (by omega) f1]
  apply UInt8.toNat_inj.1
  rw [UInt8.toNat_ofNat'];omega
theorem qH8 (b:BB):hexy (jI b):=by
 have hl:=zS b
 refine (qwG (k:=b.length) (by omega)).1 fun i hi => ?_
 obtain ⟨e1,e2⟩:=qpS hi
 have hu:=qAX b[i]
 rw [e1,e2]
 exact ⟨(quC _ (by omega)).1,(quC _ (by omega)).1⟩
theorem qIL (b:BB):unh (jI b)=b:=by
 have hl:=zS b
 apply List.ext_getElem
 ·simp [unh];omega
 ·intro i h1 h2
  obtain ⟨e1,e2⟩:=qpS h2
  have hu:=qAX b[i]
  simp only [unh,List.getElem_map,List.getElem_range,e1,e2]
  rw [(quC _ (by omega)).2,(quC _ (by omega)).2]
  apply UInt8.toNat_inj.1
  rw [UInt8.toNat_ofNat'];omega
end Yp
namespace Yp
open Go
theorem qrJ {σ ρ β:Type} {k:Nat} {y:σ} {kn:σ→Option β} {ke:Nat→σ→Option β} {kr:ρ→Option β}:lc (some (.ex k y)) kn ke kr=ke k y:=rfl
theorem qGI {α:Type} {c:Bool} {a b:α}:sel c (some a) (some b)=some (sel c a b):=by cases c <;> rfl
theorem qLm {α:Type} {c:Bool} {a:α}:sel c a a=a:=by cases c <;> rfl
theorem qpK {σ ρ:Type} {f:σ→Option (LS σ ρ)} (st:Nat→σ) (n:Nat) (p:Nat→Prop) (r:Nat→LS σ ρ) (k:Nat) (hr:∀ i,match r i with | .nx _=>False | _=>True) (hs:∀ i,i < n→p i→f (st i)=some (.nx (st (i+1)))) (hb:∀ i,i < n→¬ p i→f (st i)=some (r i)) (he:f (st n)=some (.ex k (st n))) :
  ((∀ i,i < n→p i)∧loop f (st 0)=some (.ex k (st n)))∨∃ i,i < n∧(∀ j,j < i→p j)∧¬ p i∧loop f (st 0)=some (r i):=by
 by_cases h:∀ i,i < n→p i
 ·refine .inl ⟨h, ?_⟩
  rw [qM st n (fun i hi=>hs i hi (h i hi)) 0 (Nat.zero_le _)]
  exact qU he
 ·refine .inr ?_
  have hex:∃ i,i < n∧¬ p i:=Classical.byContradiction fun hc=>h fun i hi=>Classical.byContradiction fun hp=>hc ⟨i,hi,hp⟩
  obtain ⟨k,hk,hp⟩:=hex
  induction k using Nat.strongRecOn with
  | _ k ih =>
   by_cases hl:∃ j,j < k∧¬ p j
   ·obtain ⟨j,hj,hpj⟩:=hl
    exact ih j hj (by omega) hpj
   ·have hall:∀ i,i < k→p i:=fun i hi=>Classical.byContradiction fun hp=>hl ⟨i,hi,hp⟩
    refine ⟨k,hk,hall,hp, ?_⟩
    rw [qM st k (fun i hi=>hs i (by omega) (hall i hi)) 0 (Nat.zero_le _)]
    have:=hb k hk hp
    have hrk:=hr k
    generalize r k=x at *
    cases x with
    | nx y=>exact hrk.elim
    | ex j y=>exact qU this
    | rt y=>exact qdI this
def frows:List (List Int):=[[1,2,25],[1,3,22,49,70],[1,4,13,14,18],[1,6,3,11,12,15],[1,10,7],[1,12,4],[1,16,53],[1,42,90],[2,19,2],[2,11,32,100],[3,12,37],[3,6,38],[3,2,39],[3,8,41],[3,15,42],[3,42,95],[4,37,35],[4,28,102],[5,400,48],[5,120,54],[6,8,52,64,96,128],[7,255,55],[7,400,127]]
def frow (i:Nat):List Int:=nth frows i (none' Int)
def zF (no:Int):Option (Int×Int):=(frows.find? fun r=>(r.drop 2).contains no).map fun r=>(nth r 0 0,nth r 1 0)
def fr (o:Option (Int×Int)):(Int×Int×Unit)×Bool×Unit:=match o with | some (k,l)=>((k,l,()),true,()) | none=>((0,0,()),false,())
theorem qAL (l:List Int) (n:Int) (hl:l.length≤1000000):qo2 (l,n,())=some (l.contains n,()):=by
 unfold qo2
 generalize hf:(fun (x_1:Bool×Int×Unit)=>_)=f
 have key:=qpK (f:=f) (fun i=>(false,(i:Int),())) l.length (fun i=>¬ nth l i 0=n) (fun _ => .rt (true,())) 0 (fun _=>trivial) ?_ ?_ ?_
 ·rcases key with ⟨h,hr⟩ | ⟨i,hi,_,hp,hr⟩
  ·refine (qX hr).trans ?_
   have:l.contains n=false:=by
    rw [List.contains_eq_mem,decide_eq_false_iff_not]
    intro hm
    obtain ⟨i,hi,rfl⟩:=List.getElem_of_mem hm
    exact h i hi (qK hi)
   rw [this];rfl
  ·refine (qX hr).trans ?_
   have:l.contains n=true:=by
    rw [List.contains_eq_mem,decide_eq_true_eq,← Classical.not_not.1 hp,qK hi];exact List.getElem_mem hi
   rw [this];rfl
 ·intro i hi hp
  subst hf
  refine (qE (qsJ.trans (decide_eq_true hi))).trans ?_
  refine (qH (zD hi)).trans ?_
  refine (qB (vL hp)).trans ?_
  have c:i64 (iadd (i:Int) 1)=((i+1:Nat):Int):=zH (b:=1) (by omega)
  simp only [c]
 ·intro i hi hp
  subst hf
  refine (qE (qsJ.trans (decide_eq_true hi))).trans ?_
  refine (qH (zD hi)).trans ?_
  exact qE (kQ (Classical.not_not.1 hp))
 ·subst hf
  exact qB (lt_f (by simp only [len];omega))
theorem qAj {α:Type} {p:α→Bool}:∀ {l:List α} {i:Nat} (h:i < l.length),(∀ j (hj:j < i),p (l[j]'(by omega))=false)→p l[i]=true→l.find? p=some l[i]
 | a :: r,0,_,_,h=>by simp only [List.getElem_cons_zero] at h ⊢; exact List.find?_cons_of_pos h
 | a :: r,i+1,hi,hj,h=>by
  rw [List.find?_cons_of_neg (by have:=hj 0 (by omega);simp only [List.getElem_cons_zero] at this;rw [this];exact Bool.false_ne_true)]
  simp only [List.getElem_cons_succ] at h ⊢
  exact qAj (by simpa using hi) (fun j hj'=>by have:=hj (j+1) (by omega);simpa using this) h
theorem wD (no:Int):qd1 (no,())=some (fr (zF no)):=by
 unfold qd1
 generalize hf:(fun (x_1:Bool×Int×Unit)=>_)=f
 have hlen:∀ i,i < 23→3≤(frow i).length∧(frow i).length≤10:=by decide
 have hin:∀ i,i < 23→qo2 (sub (frow i) 2 (len (frow i)),no,())=some (((frow i).drop 2).contains no,()):=by
  intro i hi
  have:=hlen i hi
  rw [qAL _ _ (by simp only [sub,List.length_take,List.length_drop];omega)]
  have:sub (frow i) 2 (len (frow i))=(frow i).drop 2:=by
   simp only [sub,len]
   rw [List.take_of_length_le (by simp)];rfl
  rw [this]
 have key:=qpK (f:=f) (fun i=>(false,(i:Int),())) 23 (fun i=>((frow i).drop 2).contains no=false) (fun i => .rt ((nth (frow i) 0 0,nth (frow i) 1 0,()),true,())) 0 (fun _=>trivial) ?_ ?_ ?_
 ·have hn:∀ i,(h:i < 23)→frows[i]'(by exact h)=frow i:=fun i h=>(qK (d:=none' Int) (by exact h)).symm
  rcases key with ⟨h,hr⟩ | ⟨i,hi,hj,hp,hr⟩
  ·refine (qX hr).trans ?_
   have:zF no=none:=by
    unfold zF
    rw [Option.map_eq_none_iff,List.find?_eq_none]
    intro r hm
    obtain ⟨i,hi,rfl⟩:=List.getElem_of_mem hm
    rw [hn i hi,h i hi];exact Bool.false_ne_true
   rw [this];rfl
  ·refine (qX hr).trans ?_
   have:zF no=some (nth (frow i) 0 0,nth (frow i) 1 0):=by
    unfold zF
    have hfi:frows.find? (fun r=>(r.drop 2).contains no)=some (frows[i]'(by exact hi)):=qAj (l:=frows) (p:=fun (r:List Int)=>(r.drop 2).contains no) hi (fun j hj'=>(congrArg (fun (r:List Int)=>(r.drop 2).contains no) (hn j (by omega))).trans (hj j hj')) ((congrArg (fun (r:List Int)=>(r.drop 2).contains no) (hn i hi)).trans ((Bool.not_eq_false _).mp hp))
    rw [hfi,hn i hi];rfl
   rw [this];rfl
 ·intro i hi hp
  subst hf
  have h:=hlen i hi
  refine (qE (qsJ (b:=23).trans (decide_eq_true hi))).trans ?_
  refine (qH (zD (n:=23) hi)).trans ?_
  refine (qH (show inC 2 (len (frow i)) (len (frow i))=true from qrL (by omega) (by simp only [len];omega) (by omega))).trans ?_
  refine (qF (hin i hi)).trans ?_
  refine (qB hp).trans ?_
  have c:i64 (iadd (i:Int) 1)=((i+1:Nat):Int):=zH (b:=1) (by omega)
  simp only [c]
 ·intro i hi hp
  subst hf
  have h:=hlen i hi
  refine (qE (qsJ (b:=23).trans (decide_eq_true hi))).trans ?_
  refine (qH (zD (n:=23) hi)).trans ?_
  refine (qH (show inC 2 (len (frow i)) (len (frow i))=true from qrL (by omega) (by simp only [len];omega) (by omega))).trans ?_
  refine (qF (hin i hi)).trans ?_
  refine (qE ((Bool.not_eq_false _).mp hp)).trans ?_
  repeat refine (qH (zD (n:=23) hi)).trans ?_
  repeat first
   | refine (qH (show inB 0 (len (frow i))=true from qPI (by omega) (by simp only [len];omega))).trans ?_
   | refine (qH (show inB 1 (len (frow i))=true from qPI (by omega) (by simp only [len];omega))).trans ?_
   | refine (qH (zD (n:=23) hi)).trans ?_
  rfl
 ·subst hf
  exact qB (lt_f (by simp only [len];decide))
def fnums:List Int:=frows.flatMap fun r=>r.drop 2
noncomputable def lg (k no:Int):Int:=match qaT (k,no,()) with | some (a,())=>a | none=>0
theorem qpY (no:Int):∃ a,wO (no,())=some (a,()):=by
 unfold wO
 simp only [qGI]
 exact ⟨_,rfl⟩
theorem qwR (k no:Int):qaT (k,no,())=some (lg k no,()):=by
 have:∃ a,qaT (k,no,())=some (a,()):=by
  unfold qaT
  obtain ⟨a,ha⟩:=qpY no
  simp only [ha,ob_s,qGI]
  exact ⟨_,rfl⟩
 obtain ⟨a,ha⟩:=this
 unfold lg;rw [ha]
noncomputable def qHZ (no:Int):Option (Int×Int):=if 0 < lg 1 no then some (1,lg 1 no) else if 0 < lg 2 no then some (2,lg 2 no) else if 0 < lg 3 no then some (3,lg 3 no) else if 0 < lg 4 no then some (4,lg 4 no)
 else if 0 < lg 5 no then some (5,lg 5 no) else if 0 < lg 6 no then some (6,lg 6 no) else if 0 < lg 7 no then some (7,lg 7 no) else none
theorem qBn (no:Int):qcE (no,())=some (fr (qHZ no)):=by
 unfold qcE
 generalize hf:(fun (x_1:Bool×Int×Unit)=>_)=f
 have step:∀ k:Nat,k≤7→f (false,(k:Int),())=if 0 < lg k no then some (.rt (((k:Int),lg k no,()),true,())) else some (.nx (false,((k+1:Nat):Int),())):=by
  intro k hk
  subst hf
  refine (qE (le_t (show (k:Int)≤7 by omega))).trans ?_
  refine (qF (qwR _ _)).trans ?_
  have c:i64 (iadd (k:Int) 1)=((k+1:Nat):Int):=zH (b:=1) (by omega)
  simp only [c]
  by_cases h:0 < lg k no
  ·rw [if_pos h];exact qE (lt_t h)
  ·rw [if_neg h];exact qB (lt_f h)
 have last:f (false,((8:Nat):Int),())=some (.ex 0 (false,((8:Nat):Int),())):=by
  subst hf;exact qB (le_f (show ¬ ((8:Nat):Int)≤7 by omega))
 have key:∀ k:Nat,k≤7→lg k no≤0→loop f (false,(k:Int),())=loop f (false,((k+1:Nat):Int),()):=fun k hk h=>vF (by rw [step k hk,if_neg (by omega)])
 have hit:∀ k:Nat,k≤7→0 < lg k no→loop f (false,(k:Int),())=some (.rt (((k:Int),lg k no,()),true,())):=fun k hk h=>qdI (by rw [step k hk,if_pos h])
 have:=key 1;have:=key 2;have:=key 3;have:=key 4;have:=key 5;have:=key 6;have:=key 7
 have:=hit 1;have:=hit 2;have:=hit 3;have:=hit 4;have:=hit 5;have:=hit 6;have:=hit 7
 have h8:loop f (false,((8:Nat):Int),())=some (.ex 0 (false,((8:Nat):Int),())):=qU last
 show lc (loop f (false,((1:Nat):Int),())) _ _ _=_
 unfold qHZ
 repeat' split
 all_goals
  simp_all
  first | done | rfl
theorem qN6 {no:Int} (h:∀ c∈fnums,¬ no=c):∀ k,lg k no=0:=by
 have h':∀ c∈fnums,beq no c=false:=fun c hc=>vL (h c hc)
 have e:fnums=[25,22,49,70,13,14,18,3,11,12,15,7,4,53,90,2,32,100,37,38,39,41,42,95,35,102,48,54,52,64,96,128,55,127]:=by decide
 rw [e] at h'
 simp only [List.mem_cons,List.not_mem_nil,or_false,forall_eq_or_imp,forall_eq] at h'
 intro k
 unfold lg qaT wO
 simp only [h',qCB,ob_s,qLm]
theorem qJA (no:Int):qHZ no=zF no:=by
 by_cases h:no∈fnums
 ·exact (by decide +kernel:∀ no∈fnums,qHZ no=zF no) no h
 ·have h':∀ c∈fnums,¬ no=c:=fun c hc e=>h (e ▸ hc)
  have e1:qHZ no=none:=by simp [qHZ,qN6 h']
  have e2:zF no=none:=by
   unfold zF
   rw [Option.map_eq_none_iff,List.find?_eq_none]
   intro r hr hc
   rw [List.contains_eq_mem,decide_eq_true_eq] at hc
   exact h (List.mem_flatMap.2 ⟨r,hr,hc⟩)
  rw [e1,e2]
theorem wP (no:Int):qcE (no,())=some (fr (zF no)):=by rw [qBn,qJA]
def kinds (k:Int):Prop:=k=1∨k=2∨k=3∨k=4∨k=5∨k=6∨k=7
instance (k:Int):Decidable (kinds k):=by unfold kinds;infer_instance
theorem wN {no k l:Int} (h:zF no=some (k,l)):kinds k∧1≤l∧l≤400∧(k=2∨k=4→l≤99):=by
 unfold zF at h
 rw [Option.map_eq_some_iff] at h
 obtain ⟨r,hr,he⟩:=h
 have hm:=List.mem_of_find?_eq_some hr
 have:∀ r∈frows,kinds (nth r 0 0)∧1≤nth r 1 0∧nth r 1 0≤400∧(nth r 0 0=2∨nth r 0 0=4→nth r 1 0≤99):=by decide +kernel
 have:=this r hm
 cases he
 exact this
def rng (lo hi:Int) (v:BB):Prop:=∀ i (h:i < v.length),lo≤n8 v[i]∧n8 v[i]≤hi
instance (lo hi:Int) (v:BB):Decidable (rng lo hi v):=inferInstanceAs (Decidable (∀ (i:Nat) (h:i < v.length),lo≤n8 v[i]∧n8 v[i]≤hi))
theorem okl (lo hi:UInt8) (v:BB) (hl:v.length≤1000000):∃ i,loop (fun (x_1:Bool×Int×Unit) =>
  sel (lt x_1.2.1 (len v)) (ck (inB x_1.2.1 (len v)) (ob (sel (lt (n8 (nth v (nat x_1.2.1) (u8 0))) (n8 lo)) (some (true,())) (some (lt (n8 hi) (n8 (nth v (nat x_1.2.1) (u8 0))),())))
   fun (a:Bool×Unit)=>sel a.1 (some (LS.ex 999999999 (false,x_1.2.1,()))) (some (LS.nx (x_1.1,i64 (iadd x_1.2.1 1),())))))
   (some (LS.ex 0 (x_1.1,x_1.2.1,()):LS (Bool×Int×Unit) Unit))) (false,0,())=some (if rng (n8 lo) (n8 hi) v then .ex 0 (false,i,()) else .ex 999999999 (false,i,())):=by
 generalize hf:(fun (x_1:Bool×Int×Unit)=>_)=f
 have key:=qpK (f:=f) (fun i=>(false,(i:Int),())) v.length (fun i=>n8 lo≤n8 (nth v i (u8 0))∧n8 (nth v i (u8 0))≤n8 hi) (fun i => .ex 999999999 (false,(i:Int),())) 0 (fun _=>trivial) ?_ ?_ ?_
 ·rcases key with ⟨h,hr⟩ | ⟨i,hi,_,hp,hr⟩
  ·refine ⟨(v.length:Int),hr.trans ?_⟩
   rw [if_pos (show rng (n8 lo) (n8 hi) v from fun i hi=>by have:=h i hi;rwa [qK hi] at this)]
  ·refine ⟨(i:Int),hr.trans ?_⟩
   rw [if_neg (fun (hc:rng (n8 lo) (n8 _) v)=>hp (by have:=hc i hi;rwa [← qK (d:=u8 0) hi] at this))]
 ·intro i hi hp
  subst hf
  refine (qE (qsJ.trans (decide_eq_true hi))).trans ?_
  refine (qH (zD hi)).trans ?_
  have c:i64 (iadd (i:Int) 1)=((i+1:Nat):Int):=zH (b:=1) (by omega)
  simp only [qP,c]
  refine (qF (a:=(false,())) ((qB (lt_f (by omega))).trans (congrArg (fun b=>some (b,())) (lt_f (by omega))))).trans ?_
  rfl
 ·intro i hi hp
  subst hf
  refine (qE (qsJ.trans (decide_eq_true hi))).trans ?_
  refine (qH (zD hi)).trans ?_
  simp only [qP]
  by_cases h:n8 (nth v i (u8 0)) < n8 lo
  ·exact (qF (qE (lt_t h))).trans rfl
  ·exact (qF (a:=(true,())) ((qB (lt_f h)).trans (congrArg (fun b=>some (b,())) (lt_t (by omega))))).trans rfl
 ·subst hf
  exact qB (lt_f (by simp only [len];omega))
def fch (k:Int) (v:BB):Prop:=(k≤2→figs v)∧(k≤5→rng 32 126 v)
def fln (k l:Int) (n:Nat):Prop:=if k=1∨k=3∨k=6 then (n:Int)=l else 1≤n∧(n:Int)≤l
instance (k l:Int) (n:Nat):Decidable (fln k l n):=by unfold fln;infer_instance
def fv (k l:Int) (v:BB):Prop:=fch k v∧fln k l v.length
instance (k l:Int) (v:BB):Decidable (fv k l v):=inferInstanceAs (Decidable (((k≤2→figs v)∧(k≤5→rng 32 126 v))∧fln k l v.length))
theorem qC5 (c:UInt8):n8 c=((c.toNat:Nat):Int):=rfl
theorem qLp {v:BB}:rng 48 57 v↔figs v:=by
 unfold rng figs vX
 refine forall_congr' fun i=>forall_congr' fun h => ?_
 rw [qC5];omega
theorem qmA {v:BB} (h:figs v):rng 32 126 v:=fun i hi=>by
 have:=h i hi
 unfold vX at this
 rw [qC5];omega
def cnt (k:Int):Int:=if k=2∨k=4 then 2 else if k=5∨k=7 then 3 else 0
theorem qdN {k:Int} (hk:kinds k):qV (k,())=some (cnt k,()):=by
 rcases hk with rfl | rfl | rfl | rfl | rfl | rfl | rfl <;> rfl
theorem yC {k:Int} (hk:kinds k):qaI (k,())=some (cnt k,()):=by
 rcases hk with rfl | rfl | rfl | rfl | rfl | rfl | rfl <;> rfl
theorem qrP {o:Option (Int×Int)} {k l:Int} (h:o=some (k,l)):fr o=((k,l,()),true,()):=by rw [h];rfl
theorem qOl {o:Option (Int×Int)} (h:o=none):fr o=((0,0,()),false,()):=by rw [h];rfl
theorem vU {a b:Bool} (h:a=b):some (a,())=some (b,()):=by rw [h]
def xQ (no:Int) (v:BB):Bool:=match zF no with | some (k,l)=>decide (fv k l v) | none=>false
theorem wQ (no:Int) (v:BB) (hl:v.length≤1000000):kP (no,v,())=some (xQ no v,()):=by
 unfold kP xQ
 refine (qF (wP no)).trans ?_
 cases ho:zF no with
 | none=>exact (qF (a:=(true,())) (qE rfl)).trans rfl
 | some p =>
  obtain ⟨k,l⟩:=p
  rw [qrP rfl]
  obtain ⟨hk,h1,h400,h99⟩:=wN ho
  by_cases hlen:l < v.length
  ·refine (qF (a:=(true,())) ((qB rfl).trans (vU (lt_t hlen)))).trans ?_
   refine (qE rfl).trans (vU ?_)
   refine (decide_eq_false fun h => ?_).symm
   have:=h.2
   unfold fln at this
   split at this <;> omega
  refine (qF (a:=(false,())) ((qB rfl).trans (vU (lt_f hlen)))).trans ?_
  obtain ⟨i,r1⟩:=okl (u8 48) (u8 57) v hl
  obtain ⟨j,r2⟩:=okl (u8 32) (u8 126) v hl
  have e1:rng (n8 (u8 48)) (n8 (u8 57)) v↔figs v:=qLp
  have e2:rng (n8 (u8 32)) (n8 (u8 126)) v↔rng 32 126 v:=Iff.rfl
  simp only [e1] at r1
  simp only [e2] at r2
  have ht:=qdN hk
  have zz:∀ {c:Bool} {p:Prop} [Decidable p],(c=true↔p)→some (c,())=some (decide p,()):=fun {c p _} h=>vU (Bool.eq_iff_iff.2 (h.trans decide_eq_true_iff.symm))
  refine (qB rfl).trans ?_
  rcases hk with rfl | rfl | rfl | rfl | rfl | rfl | rfl
  ·refine (qE rfl).trans ?_;refine (qE rfl).trans ?_
   refine (qX r1).trans ?_
   by_cases hf:figs v
   ·rw [if_pos hf]
    refine qrJ.trans ?_
    refine (qB rfl).trans ?_;refine (qH rfl).trans ?_
    refine (qX r2).trans ?_
    rw [if_pos (qmA hf)]
    refine qrJ.trans ?_
    refine (qB rfl).trans ?_;refine (qH rfl).trans ?_
    refine (qF ht).trans ?_
    refine (qB rfl).trans ?_
    refine zz ?_
    simp [beq,len,fv,fln,fch,hf,qmA hf]
   ·rw [if_neg hf]
    refine qrJ.trans ?_
    refine (qE rfl).trans ?_;refine (qE rfl).trans ?_
    exact vU (decide_eq_false fun h=>hf (h.1.1 (by omega))).symm
  ·refine (qB rfl).trans ?_;refine (qE rfl).trans ?_
   refine (qX r1).trans ?_
   by_cases hf:figs v
   ·rw [if_pos hf]
    refine qrJ.trans ?_
    refine (qB rfl).trans ?_;refine (qH rfl).trans ?_
    refine (qX r2).trans ?_
    rw [if_pos (qmA hf)]
    refine qrJ.trans ?_
    refine (qB rfl).trans ?_;refine (qH rfl).trans ?_
    refine (qF ht).trans ?_
    refine (qE rfl).trans ?_
    refine zz ?_
    simp [lt,len,fv,fln,fch,hf,qmA hf]
    omega
   ·rw [if_neg hf]
    refine qrJ.trans ?_
    refine (qE rfl).trans ?_;refine (qE rfl).trans ?_
    exact vU (decide_eq_false fun h=>hf (h.1.1 (by omega))).symm
  ·refine (qB rfl).trans ?_;refine (qB rfl).trans ?_;refine (qE rfl).trans ?_;refine (qE rfl).trans ?_
   refine (qX r2).trans ?_
   by_cases hf:rng 32 126 v
   ·rw [if_pos hf]
    refine qrJ.trans ?_
    refine (qB rfl).trans ?_;refine (qH rfl).trans ?_
    refine (qF ht).trans ?_
    refine (qB rfl).trans ?_
    refine zz ?_
    simp [beq,len,fv,fln,fch,hf]
   ·rw [if_neg hf]
    refine qrJ.trans ?_
    refine (qE rfl).trans ?_;refine (qE rfl).trans ?_
    exact vU (decide_eq_false fun h=>hf (h.1.2 (by omega))).symm
  ·refine (qB rfl).trans ?_;refine (qB rfl).trans ?_;refine (qB rfl).trans ?_;refine (qE rfl).trans ?_
   refine (qX r2).trans ?_
   by_cases hf:rng 32 126 v
   ·rw [if_pos hf]
    refine qrJ.trans ?_
    refine (qB rfl).trans ?_;refine (qH rfl).trans ?_
    refine (qF ht).trans ?_
    refine (qE rfl).trans ?_
    refine zz ?_
    simp [lt,len,fv,fln,fch,hf]
    omega
   ·rw [if_neg hf]
    refine qrJ.trans ?_
    refine (qE rfl).trans ?_;refine (qE rfl).trans ?_
    exact vU (decide_eq_false fun h=>hf (h.1.2 (by omega))).symm
  ·refine (qB rfl).trans ?_;refine (qB rfl).trans ?_;refine (qB rfl).trans ?_;refine (qB rfl).trans ?_;refine (qE rfl).trans ?_
   refine (qX r2).trans ?_
   by_cases hf:rng 32 126 v
   ·rw [if_pos hf]
    refine qrJ.trans ?_
    refine (qB rfl).trans ?_;refine (qH rfl).trans ?_
    refine (qF ht).trans ?_
    refine (qE rfl).trans ?_
    refine zz ?_
    simp [lt,len,fv,fln,fch,hf]
    omega
   ·rw [if_neg hf]
    refine qrJ.trans ?_
    refine (qE rfl).trans ?_;refine (qE rfl).trans ?_
    exact vU (decide_eq_false fun h=>hf (h.1.2 (by omega))).symm
  ·refine (qB rfl).trans ?_;refine (qB rfl).trans ?_;refine (qB rfl).trans ?_;refine (qB rfl).trans ?_;refine (qB rfl).trans ?_
   refine (qF ht).trans ?_
   refine (qB rfl).trans ?_
   refine zz ?_
   simp [beq,len,fv,fln,fch]
  ·refine (qB rfl).trans ?_;refine (qB rfl).trans ?_;refine (qB rfl).trans ?_;refine (qB rfl).trans ?_;refine (qB rfl).trans ?_
   refine (qF ht).trans ?_
   refine (qE rfl).trans ?_
   refine zz ?_
   simp [lt,len,fv,fln,fch]
   omega
theorem kA (k l:Int) (v:BB) (hl:v.length≤1000000):∃ b,x3 ((k,l,()),v,())=some (b,())∧(1≤k→b=decide (fv k l v)):=by
 unfold x3
 generalize hf:(fun (x_1:Bool×Int×Unit)=>_)=f
 have n48:n8 (u8 48)=48:=by decide
 have n57:n8 (u8 57)=57:=by decide
 have n32:n8 (u8 32)=32:=by decide
 have n126:n8 (u8 126)=126:=by decide
 have key:=qpK (f:=f) (fun i=>(false,(i:Int),())) v.length (fun i=>(k≤2→48≤n8 (nth v i (u8 0))∧n8 (nth v i (u8 0))≤57)∧(3≤k→k≤5→32≤n8 (nth v i (u8 0))∧n8 (nth v i (u8 0))≤126)) (fun i => .rt (false,())) 0 (fun _=>trivial) ?_ ?_ ?_
 ·rcases key with ⟨h,hr⟩ | ⟨i,hi,_,hp,hr⟩
  ·refine ⟨fln k l v.length, ?_,fun hk => ?_⟩
   ·refine (qX hr).trans ?_
    refine qrJ.trans ?_
    refine (qH rfl).trans ?_
    by_cases hk:k=1∨k=3∨k=6
    ·refine (qF (a:=(true,())) ?_).trans ?_
     ·rcases hk with rfl | rfl | rfl
      ·exact qE rfl
      ·exact (qB rfl).trans (qE rfl)
      ·exact (qB rfl).trans ((qB rfl).trans rfl)
     ·refine (qE rfl).trans ?_
      refine vU ?_
      rw [Bool.eq_iff_iff]
      simp only [beq,len,fln,if_pos hk,decide_eq_true_eq,beq_iff_eq]
    ·refine (qF (a:=(false,())) ?_).trans ?_
     ·exact (qB (vL (fun h=>hk (.inl h)))).trans ((qB (vL (fun h=>hk (.inr (.inl h))))).trans (vU (vL (fun h=>hk (.inr (.inr h))))))
     ·refine (qB rfl).trans ?_
      by_cases h1:1≤v.length
      ·refine (qF (qE (le_t (by simp only [len];omega)))).trans ?_
       refine vU ?_
       rw [Bool.eq_iff_iff]
       simp only [le,len,fln,if_neg hk,decide_eq_true_eq];exact (decide_eq_true_iff (p:=(v.length:Int)≤l)).trans ⟨fun h=>⟨h1,h⟩,fun h=>h.2⟩
      ·refine (qF (qB (le_f (by simp only [len];omega)))).trans ?_
       refine vU ?_
       rw [Bool.eq_iff_iff]
       simp only [fln,if_neg hk,decide_eq_true_eq,Bool.false_eq_true,false_iff];omega
   ·have hc:fch k v:=by
     refine ⟨fun h2 i hi => ?_,fun h5 i hi => ?_⟩
     ·have:=(h i hi).1 h2
      rw [qK hi,qC5] at this
      unfold vX;omega
     ·by_cases h2:k≤2
      ·have:=(h i hi).1 h2
       rw [qK hi] at this;omega
      ·have:=(h i hi).2 (by omega) h5
       rw [qK hi] at this;omega
    rw [Bool.eq_iff_iff]
    simp [fv,hc]
  ·refine ⟨false,(qX hr).trans rfl,fun hk=>(decide_eq_false fun hc=>hp ⟨fun h2 => ?_,fun h3 h5 => ?_⟩).symm⟩
   ·have:=hc.1.1 h2 i hi
    unfold vX at this
    rw [qK hi,qC5];omega
   ·have:=hc.1.2 h5 i hi
    rw [qK hi];omega
 ·intro i hi hp
  subst hf
  refine (qE (qsJ.trans (decide_eq_true hi))).trans ?_
  have c:i64 (iadd (i:Int) 1)=((i+1:Nat):Int):=zH (b:=1) (by omega)
  have ci:inB (i:Int) (len v)=true:=zD hi
  simp only [qP,c,n48,n57,n32,n126,ci]
  refine (qF (a:=(false,())) ?_).trans rfl
  by_cases h2:k≤2
  ·have:=hp.1 h2
   refine (qE (le_t h2)).trans ?_
   refine (qH rfl).trans ?_
   refine (qB (lt_f (by omega))).trans ?_
   refine (qH rfl).trans ?_
   refine (qB (lt_f (by omega))).trans ?_
   exact qB (le_f (show ¬ 3≤k by omega))
  ·refine (qB (le_f h2)).trans ?_
   refine (qE (le_t (show 3≤k by omega))).trans ?_
   by_cases h5:k≤5
   ·have:=hp.2 (by omega) h5
    refine (qE (le_t h5)).trans ?_
    refine (qH rfl).trans ?_
    refine (qB (lt_f (by omega))).trans ?_
    refine (qH rfl).trans ?_
    exact vU (lt_f (by omega))
   ·exact qB (le_f h5)
 ·intro i hi hp
  subst hf
  refine (qE (qsJ.trans (decide_eq_true hi))).trans ?_
  have ci:inB (i:Int) (len v)=true:=zD hi
  simp only [qP,n48,n57,n32,n126,ci]
  refine (qF (a:=(true,())) ?_).trans rfl
  by_cases h2:k≤2
  ·refine (qE (le_t h2)).trans ?_
   refine (qH rfl).trans ?_
   by_cases ha:n8 (nth v i (u8 0)) < 48
   ·exact qE (lt_t ha)
   ·refine (qB (lt_f ha)).trans ?_
    refine (qH rfl).trans ?_
    refine (qE (lt_t ?_)).trans rfl
    refine Classical.byContradiction fun hb=>hp ⟨fun _=>by omega,fun h=>by omega⟩
  ·by_cases h5:k≤5
   ·refine (qB (le_f h2)).trans ?_
    refine (qE (le_t (show 3≤k by omega))).trans ?_
    refine (qE (le_t h5)).trans ?_
    refine (qH rfl).trans ?_
    by_cases ha:n8 (nth v i (u8 0)) < 32
    ·exact qE (lt_t ha)
    ·refine (qB (lt_f ha)).trans ?_
     refine (qH rfl).trans ?_
     refine vU (lt_t ?_)
     refine Classical.byContradiction fun hb=>hp ⟨fun _=>by omega,fun _ _=>by omega⟩
   ·exact absurd ⟨fun h=>absurd h h2,fun _ h=>absurd h h5⟩ hp
 ·subst hf
  exact qB (lt_f (by simp only [len];omega))
theorem qjK (no:Int) (v:BB) (hl:v.length≤1000000):qfQ (no,v,())=some (xQ no v,()):=by
 unfold qfQ xQ
 refine (qF (wD no)).trans ?_
 cases ho:zF no with
 | none =>
  rw [qOl rfl]
  obtain ⟨b,hb,_⟩:=kA 0 0 v hl
  refine (qF hb).trans ?_
  exact (qF (qB rfl)).trans rfl
 | some p =>
  obtain ⟨k,l⟩:=p
  rw [qrP rfl]
  obtain ⟨b,hb,h⟩:=kA k l v hl
  refine (qF hb).trans ?_
  refine (qF (qE rfl)).trans (vU (h ?_))
  have:=(wN ho).1
  unfold kinds at this;omega
def hdr (k:Int) (n:Nat):BB:=if 0 < cnt k then bcd (pad (ps 10 dch n (cnt k).toNat)) else []
def body (k:Int) (v:BB):BB:=if k≤2 then bcd (pad v) else v
def wrF (k:Int) (v:BB):BB:=hdr k v.length++body k v
def wrD (no:Int) (v:BB):BB×Int×Unit:=match zF no with | none=>([],12,()) | some (k,l)=>if fv k l v then (wrF k v,0,()) else ([],1,())
theorem qIA (p:BB):(bcd p).length=p.length / 2:=by simp [bcd]
theorem z2 (p:BB):(bcd (pad p)).length=(p.length+1) / 2:=by rw [qIA,qf0];omega
theorem qn2 (k:Int) (v:BB):(body k v).length=if k≤2 then (v.length+1) / 2 else v.length:=by
 unfold body;split
 ·exact z2 v
 ·rfl
theorem qKQ {k l:Int} {v:BB} (hk:kinds k) (h99:k=2∨k=4→l≤99) (h400:l≤400) (hv:fv k l v) (h0:0 < cnt k):(1≤cnt k∧cnt k≤18)∧(0≤(v.length:Int)∧(v.length:Int) < 10 ^ (cnt k).toNat)∧1≤v.length∧(v.length:Int)≤l:=by
 have:=hv.2
 unfold fln at this
 rcases hk with rfl | rfl | rfl | rfl | rfl | rfl | rfl
 ·exact absurd h0 (by decide)
 ·have h2:(10:Int) ^ (cnt 2).toNat=100:=by decide
  rw [if_neg (by decide)] at this
  rw [h2];exact ⟨by decide,by omega,by omega⟩
 ·exact absurd h0 (by decide)
 ·have h2:(10:Int) ^ (cnt 4).toNat=100:=by decide
  rw [if_neg (by decide)] at this
  rw [h2];exact ⟨by decide,by omega,by omega⟩
 ·have h2:(10:Int) ^ (cnt 5).toNat=1000:=by decide
  rw [if_neg (by decide)] at this
  rw [h2];exact ⟨by decide,by omega,by omega⟩
 ·exact absurd h0 (by decide)
 ·have h2:(10:Int) ^ (cnt 7).toNat=1000:=by decide
  rw [if_neg (by decide)] at this
  rw [h2];exact ⟨by decide,by omega,by omega⟩
theorem qw0 {k:Int} (hk:kinds k):cnt k=0∨cnt k=2∨cnt k=3:=by
 unfold cnt;split
 ·simp
 ·split <;> simp
theorem qJV {k:Int} (hk:kinds k):(sel (beq k 1) (some (true,())) (some (beq k 2,())):Option (Bool×Unit))=some (decide (k≤2),()):=by
 rcases hk with rfl | rfl | rfl | rfl | rfl | rfl | rfl <;> rfl
theorem qt2 (no:Int) (v:BB) (hl:v.length≤1000000):qdO (no,v,())=some (wrD no v):=by
 unfold qdO wrD
 refine (qF (wP no)).trans ?_
 cases ho:zF no with
 | none=>rfl
 | some p =>
  obtain ⟨k,l⟩:=p
  rw [qrP rfl]
  obtain ⟨hk,h1,h400,h99⟩:=wN ho
  refine (qB rfl).trans ?_
  refine (qF (wQ no v hl)).trans ?_
  have hfd:xQ no v=decide (fv k l v):=by unfold xQ;rw [ho]
  rw [hfd]
  by_cases hv:fv k l v
  rotate_left
  ·rw [decide_eq_false hv]
   refine (qE rfl).trans ?_
   simp only [if_neg hv];rfl
  rw [decide_eq_true hv]
  refine (qB rfl).trans ?_
  simp only [if_pos hv]
  refine (qF (qdN hk)).trans ?_
  have hb:=qJV hk
  have hfig:k≤2→qe2 (v,())=some (body k v,0,()):=fun h=>by
   rw [qkN v hl,if_pos (hv.1.1 h)];unfold body;rw [if_pos h]
  have hvl:=qn2 k v
  by_cases h0:0 < cnt k
  ·obtain ⟨c1,c2,c3⟩:=qKQ hk h99 h400 hv h0
   refine (qE (lt_t h0)).trans ?_
   have hd:vR (len v,cnt k,())=some (ps 10 dch v.length (cnt k).toNat,0,()):=by
    rw [wR _ _ (by simp only [len];omega),if_pos ⟨c1.1,c1.2,c2⟩];rfl
   refine (qF hd).trans ?_
   have hbc:qe2 (ps 10 dch v.length (cnt k).toNat,())=some (hdr k v.length,0,()):=by
    rw [qkN _ (by rw [zP];omega),if_pos qnT];unfold hdr;rw [if_pos h0]
   refine (qF hbc).trans ?_
   refine (qF hb).trans ?_
   have hhl:(hdr k v.length).length≤10:=by
    unfold hdr;rw [if_pos h0,z2,zP];omega
   by_cases h2:k≤2
   ·refine (qE (decide_eq_true h2)).trans ?_
    refine (qF (hfig h2)).trans ?_
    rw [if_pos h2] at hvl
    exact (qH (rm_t (by simp only [nadd,ln];omega))).trans rfl
   ·refine (qB (decide_eq_false h2)).trans ?_
    refine (qH (rm_t (by simp only [nadd,ln];omega))).trans ?_
    have:body k v=v:=by unfold body;rw [if_neg h2]
    simp only [wrF,this];rfl
  ·refine (qB (lt_f h0)).trans ?_
   refine (qF hb).trans ?_
   have hh:hdr k v.length=[]:=by unfold hdr;rw [if_neg h0]
   by_cases h2:k≤2
   ·refine (qE (decide_eq_true h2)).trans ?_
    refine (qF (hfig h2)).trans ?_
    rw [if_pos h2] at hvl
    refine (qH (rm_t (by simp only [ln];omega))).trans ?_
    simp only [wrF,hh,List.nil_append]
   ·refine (qB (decide_eq_false h2)).trans ?_
    refine (qH (rm_t (by simp only [ln];omega))).trans ?_
    have:body k v=v:=by unfold body;rw [if_neg h2]
    simp only [wrF,this,hh,List.nil_append]
theorem qtV (no:Int) (v:BB) (hl:v.length≤1000000):qc9 (no,v,())=some (wrD no v):=by
 unfold qc9 wrD
 refine (qF (wD no)).trans ?_
 cases ho:zF no with
 | none=>rfl
 | some p =>
  obtain ⟨k,l⟩:=p
  rw [qrP rfl]
  obtain ⟨hk,h1,h400,h99⟩:=wN ho
  refine (qB rfl).trans ?_
  obtain ⟨b,hb,he⟩:=kA k l v hl
  refine (qF hb).trans ?_
  rw [he (by unfold kinds at hk;omega)]
  by_cases hv:fv k l v
  rotate_left
  ·rw [decide_eq_false hv]
   refine (qE rfl).trans ?_
   simp only [if_neg hv];rfl
  rw [decide_eq_true hv]
  refine (qB rfl).trans ?_
  simp only [if_pos hv]
  refine (qF (yC hk)).trans ?_
  have hfig:k≤2→kY (v,())=some (body k v,0,()):=fun h=>by
   rw [qeR v hl,if_pos (hv.1.1 h)];unfold body;rw [if_pos h]
  have hvl:=qn2 k v
  by_cases h0:0 < cnt k
  ·obtain ⟨c1,c2,c3⟩:=qKQ hk h99 h400 hv h0
   refine (qE (lt_t h0)).trans ?_
   refine (qF (yC hk)).trans ?_
   have hd:jU (len v,cnt k,())=some (ps 10 dch v.length (cnt k).toNat,0,()):=by
    rw [kM _ _ (by simp only [len];omega),if_pos ⟨c1.1,c1.2,c2⟩];rfl
   refine (qF hd).trans ?_
   have hbc:kY (ps 10 dch v.length (cnt k).toNat,())=some (hdr k v.length,0,()):=by
    rw [qeR _ (by rw [zP];omega),if_pos qnT];unfold hdr;rw [if_pos h0]
   refine (qF hbc).trans ?_
   have hhl:(hdr k v.length).length≤10:=by
    unfold hdr;rw [if_pos h0,z2,zP];omega
   by_cases h2:k≤2
   ·refine (qE (decide_eq_true h2)).trans ?_
    refine (qF (hfig h2)).trans ?_
    rw [if_pos h2] at hvl
    refine (qH (rm_t (by simp only [nadd,ln,none',List.length_nil];omega))).trans ?_
    exact (qH (rm_t (by simp only [nadd,ln,none',app,List.length_append,List.length_nil];omega))).trans rfl
   ·refine (qB (decide_eq_false h2)).trans ?_
    refine (qH (rm_t (by simp only [nadd,ln,none',List.length_nil];omega))).trans ?_
    refine (qH (rm_t (by simp only [nadd,ln,none',app,List.length_append,List.length_nil];omega))).trans ?_
    have:body k v=v:=by unfold body;rw [if_neg h2]
    simp only [wrF,this];rfl
  ·refine (qB (lt_f h0)).trans ?_
   have hh:hdr k v.length=[]:=by unfold hdr;rw [if_neg h0]
   by_cases h2:k≤2
   ·refine (qE (decide_eq_true h2)).trans ?_
    refine (qF (hfig h2)).trans ?_
    rw [if_pos h2] at hvl
    refine (qH rfl).trans ?_
    refine (qH (rm_t (by simp only [nadd,ln,none',app,List.length_append,List.length_nil];omega))).trans ?_
    simp only [wrF,hh,List.nil_append];rfl
   ·refine (qB (decide_eq_false h2)).trans ?_
    refine (qH rfl).trans ?_
    refine (qH (rm_t (by simp only [nadd,ln,none',app,List.length_append,List.length_nil];omega))).trans ?_
    have:body k v=v:=by unfold body;rw [if_neg h2]
    simp only [wrF,this,hh,List.nil_append];rfl
theorem qY (a b:BB):zV (a,b,())=some (seq a b,()):=rfl
end Yp