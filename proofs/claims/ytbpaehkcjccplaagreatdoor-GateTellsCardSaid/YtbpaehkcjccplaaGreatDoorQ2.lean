/- A part of the proof of the statements of this seat: plain functions, and laws on them. No condition of its own. -/
import Derived.Test.YtbpaehkcjccplaaGreatDoorQ1
import Derived.Test.YtbpaehkcjccplaaGreatDoorProg
import Derived.KernelRfl
set_option linter.unusedVariables false
set_option linter.unusedSimpArgs false
namespace Yp
open Go Go.Conc Go.RowKit Go.Proofs
set_option maxRecDepth 100000 in
theorem qFV {w:World} {qa la:Option Addr} {qn qc ln lc R:Nat} (h1:1≤R) (h64:R≤64) {qpt lpt:Nat→Addr} {qv lv:Nat→Value} (hq:Src1 w qa qn qc qpt qv) (hl:Src1 w la ln lc lpt lv) :
  Calls Tryz.prog 286 #[.slice qa qn qc, .slice la ln lc, .int .i64 R] w fun e w'=>(R < qn∧e = .returned (.tuple #[.slice qa qn qc, .int .i64 0, .int .i64 0])∨qn≤R∧∃ sv,e = .returned (.tuple #[sv, .int .i64 (min ln (R - qn):Nat), .int .i64 0])∧qyD w' w.heap.size (w.heap.size+1) ((List.range qn).map qv++(List.range (min ln (R - qn))).map lv).toArray (qn+min ln (R - qn)) sv)∧qyG w w' w.heap.size (w.heap.size+1):=by
 have hr1:¬ (R:Int) < 1:=by omega
 have hr2:¬ (64:Int) < (R:Int):=by omega
 refine calls_of_loneTo fun cs => ?_
 have e:Frame.enter Tryz.prog 286 #[.slice qa qn qc, .slice la ln lc, .int .i64 R] .normal=(base 286).at ⟨#[.slice qa qn qc, .slice la ln lc, .int .i64 R,undef,undef,undef,undef,undef,undef,undef,undef,undef,undef,undef,undef,undef,undef,undef,undef,undef,undef,undef,undef,undef,undef,undef,undef,undef,undef,undef,undef,undef,undef],[]⟩ [.code (Tryz.f286.body.getD .skip)]:=by
  simp [Frame.enter,Frame.at,Tryz.func286,base,Tryz.f286]
 rw [e]
 refine LoneTo.goes (n:=30) ?_
 simp only [Tryz.f286,Option.getD_some]
 s_c stepG_seq
 s_reg
 s_op
 s_op
 s_op
 s_c stepG_region_end
 s_c stepG_seq
 s_c stepG_seq
 s_reg
 s_op
 s_op
 s_op
 s_op
 s_op
 s_op
 s_c stepG_region_end
 s_cond false
 s_c stepG_skip
 s_c stepG_seq
 s_reg
 s_op
 s_in
 refine goes_call rfl rfl (by decide) rfl Tryz.func354 (by kernel_rfl) rfl ⟨trivial, ?_⟩
 walk_nrmf Tryz.f354
 s_stop
 have he1:Frame.enter Tryz.prog 354 #[.int .i64 R] .normal=(base 354).at ⟨#[.int .i64 R,undef,undef,undef,undef,undef],[]⟩ [.code (Tryz.f354.body.getD .skip)]:=by
  simp [Frame.enter,Frame.at,Tryz.func354,base,Tryz.f354]
 simp only [Tryz.f354,Option.getD_some] at he1
 rw [← he1]
 refine qaB (qEW h64) (fun e w' h=>⟨_,h.1⟩) (fun v w1 h => ?_)
 obtain ⟨hv,b1,b2,b3,b4,b5,b6⟩:=h
 cases hv
 rw [Frame.finish_at]
 walk_nrm
 refine LoneTo.goes (n:=30) ?_
 s_op
 s_op
 s_c stepG_region_end
 s_c stepG_seq
 s_c stepG_seq
 s_reg
 s_op
 s_op
 s_stop
 have hbox:(w1.alloc (.cells #[.chan (some (w.heap.size+1))] 378)).heap[w.heap.size+2]? = some (.cells #[.chan (some (w.heap.size+1))] 378):=by
  have:=heap_alloc_new w1 (.cells #[.chan (some (w.heap.size+1))] 378)
  rw [b4] at this
  exact this
 have hch:∃ s r,(w1.alloc (.cells #[.chan (some (w.heap.size+1))] 378)).heap[w.heap.size+1]? = some (.chan R #[] false s r false):=⟨0,0,by rw [heap_alloc_old _ _ (by omega)];exact b6⟩
 have hk2:qyG w (w1.alloc (.cells #[.chan (some (w.heap.size+1))] 378)) w.heap.size (w.heap.size+1):=⟨b1,b2,b3,by rw [qP];omega,fun b hb _=>by rw [heap_alloc_old _ _ (by omega)];exact b5 b hb⟩
 have hs2:(w1.alloc (.cells #[.chan (some (w.heap.size+1))] 378)).heap.size=w.heap.size+3:=by rw [qP];omega
 generalize w1.alloc (.cells #[.chan (some (w.heap.size+1))] 378)=w2 at hbox hch hk2 hs2
 have srcOf:∀ {a:Option Addr} {n cp:Nat} {pt:Nat→Addr} {val:Nat→Value} (wx:World),Src1 w a n cp pt val→qyG w wx w.heap.size (w.heap.size+1)→(∀ i,i < n→wx.cell? (pt i)=some (val i))∧∀ i,i < n→(pt i).block < wx.heap.size∧(pt i).block≠w.heap.size+1:=by
  intro a n cp pt val wx hs hk
  refine ⟨fun i hi => ?_,fun i hi=>⟨Nat.lt_of_lt_of_le (hs.low i hi) hk.size,by have:=hs.low i hi;omega⟩⟩
  rw [← hs.cell i hi]
  exact qvI (hk.other _ (hs.low i hi) (by have:=hs.low i hi;omega))
 refine LoneTo.goes (n:=3) ?_
 s_in
 refine goes_call rfl rfl (by decide) rfl Tryz.func355 (by kernel_rfl) rfl ⟨trivial, ?_⟩
 walk_nrmf Tryz.f355
 s_stop
 have he2:Frame.enter Tryz.prog 355 #[.agg #[.chan (some (w.heap.size+1))], .slice qa qn qc] .normal=(base 355).at ⟨#[.agg #[.chan (some (w.heap.size+1))], .slice qa qn qc,undef,undef,undef,undef,undef,undef,undef,undef,undef,undef,undef,undef,undef,undef,undef,undef,undef,undef,undef,undef],[]⟩ [.code (Tryz.f355.body.getD .skip)]:=by
  simp [Frame.enter,Frame.at,Tryz.func355,base,Tryz.f355]
 simp only [Tryz.f355,Option.getD_some] at he2
 rw [← he2]
 have hq2:=srcOf w2 hq hk2
 refine qaB (qAo hch hq.le (Nat.zero_le _) hq.ix hq2.1 hq2.2) (fun e w' h=>⟨_,h.1⟩) (fun v w3 h => ?_)
 obtain ⟨hv,hw3⟩:=h
 cases hv
 have hk3:qyG w w3 w.heap.size (w.heap.size+1):=⟨hw3.os.trans hk2.os,hw3.tape.trans hk2.tape,hw3.output.trans hk2.output,Nat.le_trans hk2.size hw3.size,fun b hb hne=>(hw3.other b (by omega) hne).trans (hk2.other b hb hne)⟩
 have hbox3:w3.heap[w.heap.size+2]? = some (.cells #[.chan (some (w.heap.size+1))] 378):=(hw3.other _ (by omega) (by omega)).trans hbox
 have hs3:w.heap.size+3≤w3.heap.size:=by have:=hw3.size;omega
 have hbc:w3.cell? ⟨w.heap.size+2,0,none⟩=some (.chan (some (w.heap.size+1))):=by simp [World.cell?,hbox3]
 by_cases hfull:R < qn
 ·have hm:min qn (R - (#[]:Array Value).size)=R:=by simp;omega
  rw [hm,Frame.finish_at]
  walk_nrm
  refine LoneTo.goes (n:=30) ?_
  s_op
  s_op
  s_op
  s_c stepG_region_end
  s_cond true
  s_c stepG_seq
  s_reg
  s_op
  s_op
  s_op
  s_op
  s_c stepG_region_end
  s_c stepG_ret'
  s_stop
  exact LoneTo.done ⟨.returned (.tuple #[.slice qa qn qc, .int .i64 0, .int .i64 0]),_,rfl,⟨.inl ⟨hfull,rfl⟩,hk3⟩,rfl,rfl,rfl,rfl,_,Tryz.func286,by simp [results,Tryz.f286,Frame.at]⟩
 ·have hm:min qn (R - (#[]:Array Value).size)=qn:=by simp;omega
  rw [hm] at hw3 ⊢
  rw [Frame.finish_at]
  walk_nrm
  have hbf : #[]++((List.range qn).map qv).toArray=((List.range qn).map qv).toArray:=by simp
  rw [hbf] at hw3
  have hbsz:((List.range qn).map qv).toArray.size=qn:=by simp
  refine LoneTo.goes (n:=30) ?_
  s_op
  s_op
  s_op
  s_c stepG_region_end
  s_cond false
  s_c stepG_skip
  s_c stepG_seq
  s_reg
  s_op
  s_op
  s_stop
  refine LoneTo.goes (n:=3) ?_
  s_in
  refine goes_call rfl rfl (by decide) rfl Tryz.func355 (by kernel_rfl) rfl ⟨trivial, ?_⟩
  walk_nrmf Tryz.f355
  s_stop
  have he3:Frame.enter Tryz.prog 355 #[.agg #[.chan (some (w.heap.size+1))], .slice la ln lc] .normal=(base 355).at ⟨#[.agg #[.chan (some (w.heap.size+1))], .slice la ln lc,undef,undef,undef,undef,undef,undef,undef,undef,undef,undef,undef,undef,undef,undef,undef,undef,undef,undef,undef,undef],[]⟩ [.code (Tryz.f355.body.getD .skip)]:=by
   simp [Frame.enter,Frame.at,Tryz.func355,base,Tryz.f355]
  simp only [Tryz.f355,Option.getD_some] at he3
  rw [← he3]
  have hl3:=srcOf w3 hl hk3
  refine qaB (qAo hw3.ch hl.le (by omega) hl.ix hl3.1 hl3.2) (fun e w' h=>⟨_,h.1⟩) (fun v w4 h => ?_)
  obtain ⟨hv,hw4⟩:=h
  cases hv
  rw [hbsz] at hw4 ⊢
  have hk4:qyG w w4 w.heap.size (w.heap.size+1):=⟨hw4.os.trans hk3.os,hw4.tape.trans hk3.tape,hw4.output.trans hk3.output,Nat.le_trans hk3.size hw4.size,fun b hb hne=>(hw4.other b (by omega) hne).trans (hk3.other b hb hne)⟩
  have hbox4:w4.heap[w.heap.size+2]? = some (.cells #[.chan (some (w.heap.size+1))] 378):=(hw4.other _ (by omega) (by omega)).trans hbox3
  have hs4:w.heap.size+3≤w4.heap.size:=by have:=hw4.size;omega
  have hbc4:w4.cell? ⟨w.heap.size+2,0,none⟩=some (.chan (some (w.heap.size+1))):=by simp [World.cell?,hbox4]
  have hall:((List.range qn).map qv).toArray++((List.range (min ln (R - qn))).map lv).toArray=((List.range qn).map qv++(List.range (min ln (R - qn))).map lv).toArray:=by simp
  rw [hall] at hw4
  have hasz:((List.range qn).map qv++(List.range (min ln (R - qn))).map lv).toArray.size=qn+min ln (R - qn):=by simp
  rw [Frame.finish_at]
  walk_nrm
  refine LoneTo.goes (n:=30) ?_
  s_op
  s_c stepG_region_end
  s_c stepG_seq
  s_reg
  s_op
  s_in
  refine goes_call rfl rfl (by decide) rfl Tryz.func356 (by kernel_rfl) rfl ⟨trivial, ?_⟩
  walk_nrmf Tryz.f356
  s_stop
  have he4:Frame.enter Tryz.prog 356 #[.agg #[.chan (some (w.heap.size+1))]] .normal=(base 356).at ⟨#[.agg #[.chan (some (w.heap.size+1))],undef,undef,undef,undef,undef,undef,undef,undef,undef,undef,undef,undef,undef,undef,undef,undef,undef],[]⟩ [.code (Tryz.f356.body.getD .skip)]:=by
   simp [Frame.enter,Frame.at,Tryz.func356,base,Tryz.f356]
  simp only [Tryz.f356,Option.getD_some] at he4
  rw [← he4]
  refine qaB (qIF hw4.ch (by rw [hasz];omega) ?_) (fun e w' h=>h.elim fun sv h=>⟨sv,h.1⟩) (fun v w5 h => ?_)
  ·intro v hv
   simp only [List.mem_toArray,List.mem_append,List.mem_map,List.mem_range] at hv
   rcases hv with ⟨i,hi,rfl⟩ | ⟨i,hi,rfl⟩
   ·exact hq.sl i hi
   ·exact hl.sl i (by omega)
  obtain ⟨sv,hv,hR5,hk5⟩:=h
  cases hv
  rw [hasz] at hR5
  rw [Frame.finish_at]
  walk_nrm
  refine LoneTo.goes (n:=30) ?_
  s_op
  s_op
  s_op
  s_op
  s_c stepG_region_end
  s_c stepG_ret'
  s_stop
  refine LoneTo.done ⟨.returned (.tuple #[v, .int .i64 (min ln (R - qn):Nat), .int .i64 0]),_,rfl,⟨.inr ⟨by omega,v,rfl, ?_⟩, ?_⟩,rfl,rfl,rfl,rfl,_,Tryz.func286,by simp [results,Tryz.f286,Frame.at]⟩
  ·obtain ⟨b,cp,arr,r1,r2,r3,r4,r5,r6,r7,r8⟩:=hR5
   exact ⟨b,cp,arr,r1,r2,r3,r4,r5,r6,by omega,r8⟩
  ·exact ⟨hk5.os.trans hk4.os,hk5.tape.trans hk4.tape,hk5.output.trans hk4.output,Nat.le_trans hk4.size hk5.size,fun b hb hne=>(hk5.other b (by omega) hne).trans (hk4.other b hb hne)⟩
end Yp
namespace Yp
open Go Go.RowKit Go.Proofs
abbrev qnV:Ty := .sl (.sl (.int .u8))
theorem qIM {w:World} {X:Nat→Prop} {l:List BB} {a:Option Addr} {cap:Nat} (h1:l.length≤cap) (h2:cap≤maxLen)
  (h:l=[]∨∃ b o c el fz,a=some ⟨b,o,none⟩∧view w X b=some (.cells c el fz)∧o+l.length*(Ty.sl (.int .u8)).size≤c.size∧∀ (i:Nat) (x:BB),lget l i=some x→RepC (view w X) (.sl (.int .u8)) x (seg c (o+i*(Ty.sl (.int .u8)).size) (Ty.sl (.int .u8)).size)) :
  ∃ pt val,Src1 w a l.length cap pt val∧∀ i (hi:i < l.length),RepC (view w X) (.sl (.int .u8)) (l[i]:BB) [val i]:=by
 have hle:l.length≤9223372036854775807:=by unfold maxLen at h2;omega
 rcases h with rfl | ⟨b,o,c,el,fz,rfl,hb,hsz,hrow⟩
 ·exact ⟨fun _=>⟨0,0,none⟩,fun _=>undef,⟨fun i hi=>absurd hi (Nat.not_lt_zero i),fun i hi=>absurd hi (Nat.not_lt_zero i),fun i hi=>absurd hi (Nat.not_lt_zero i),fun i hi=>absurd hi (Nat.not_lt_zero i),hle⟩,fun i hi=>absurd hi (Nat.not_lt_zero i)⟩
 ·have hsz:o+l.length≤c.size:=by
   have:(Ty.sl (.int .u8)).size=1:=rfl
   rw [this] at hsz;omega
  have hh:=(zA.1 hb).2
  have hget:∀ i,i < l.length→c[o+i]? = some (c[o+i]?.getD undef):=by
   intro i hi
   rw [Array.getElem?_eq_getElem (by omega)];rfl
  have hr:∀ i (hi:i < l.length),RepC (view w X) (.sl (.int .u8)) (l[i]:BB) [c[o+i]?.getD undef]:=by
   intro i hi
   have:=hrow i l[i] (List.getElem?_eq_getElem hi)
   have hs:seg c (o+i*(Ty.sl (.int .u8)).size) (Ty.sl (.int .u8)).size=[c[o+i]?.getD undef]:=by
    have e1:(Ty.sl (.int .u8)).size=1:=rfl
    rw [e1,Nat.mul_one]
    refine List.ext_getElem? fun j => ?_
    by_cases hj:j < 1
    ·obtain rfl:j=0:=by omega
     rw [qd5 hj,Nat.add_zero,hget i hi];rfl
    ·rw [List.getElem?_eq_none (by rw [z8 (by omega)];omega),List.getElem?_eq_none (by simp;omega)]
   rwa [hs] at this
  refine ⟨fun i=>⟨b,o+i,none⟩,fun i=>c[o+i]?.getD undef,⟨fun i hi w1 => ?_,fun i hi => ?_,fun i _=>(Array.getElem?_eq_some_iff.1 hh).1,fun i hi => ?_,hle⟩,hr⟩
  ·have:=yX (P:=Tryz.prog) (e := .sl (.int .u8)) (tid:=35) (hTT 35 _ (by kernel_rfl)) (k := .i64) (i:=(i:Int)) (n:=l.length) (cap:=cap) (by omega) (by omega) b o w1
   rw [this]
   have e1:(Ty.sl (.int .u8)).size=1:=rfl
   rw [e1,Nat.mul_one,Int.toNat_natCast]
  ·show w.cell? ⟨b,o+i,none⟩=_
   simp only [World.cell?,hh]
   rw [hget i hi];rfl
  ·obtain ⟨a',cp',hv,_⟩:=RepC.jR.1 (hr i hi)
   exact ⟨_,_,_,List.cons.inj hv |>.1⟩
noncomputable abbrev qn1:wI:=⟨[.sl (.sl (.int .u8)), .sl (.sl (.int .u8)), .int .i64],[.im (.sl (.sl (.int .u8))), .im (.int .i64), .im (.int .i64)],qdA⟩
theorem ret3 {w w':World} {X:Nat→Prop} (hX:∀ b,X b→b < w.heap.size) (hos:w'.os=w.os) (htape:w'.tape=w.tape) (hout:w'.output=w.output) (hsz:w.heap.size≤w'.heap.size) (hold:∀ b,b < w.heap.size→w'.heap[b]? = w.heap[b]?) {q:List BB} {n m:Int} {v:Value} (hv:RepC (view w' X) qnV q [v]) :
  ∃ vr,Ending.returned (.tuple #[v, .int .i64 n, .int .i64 m]) = .returned vr∧qcQ w X w' [.im qnV, .im (.int .i64), .im (.int .i64)] (q,n,m,()) vr:=by
 refine ⟨_,rfl,X,hos,htape,hout,hsz,hold,fun _ _=>Iff.rfl,fun b h=>Nat.lt_of_lt_of_le (hX b h) hsz,[v, .int .i64 n, .int .i64 m], ?_,rfl⟩
 exact ⟨[v],_,rfl,hv,[.int .i64 n],_,rfl,RepC.zS.2 rfl,[.int .i64 m],[],rfl,RepC.zS.2 rfl,rfl⟩
theorem qHD {w w':World} {X:Nat→Prop} (hX:∀ b,X b→b < w.heap.size) (hold:∀ b,b < w.heap.size→w'.heap[b]? = w.heap[b]?) {q:List BB} {c:Nat} {vals:Array Value} {sv:Value} (hR:qyD w' w.heap.size c vals q.length sv)
  (hq:∀ i (hi:i < q.length),∃ v,vals[i]? = some v∧RepC (view w X) (.sl (.int .u8)) (q[i]:BB) [v]):RepC (view w' X) qnV q [sv]:=by
 obtain ⟨b,cp,arr,rfl,hb,hmc,hcm,hasz,hvals,hlb,hbc⟩:=hR
 have hle:(view w X).Le (view w' X):=qf0 fun b' o hM ho=>⟨hM,(hold b' (Array.getElem?_eq_some_iff.1 ho).1).trans ho⟩
 have e1:(Ty.sl (.int .u8)).size=1:=rfl
 refine RepC.jR.2 ⟨some ⟨b,0,none⟩,cp,rfl,hmc,hcm, .inr ⟨b,0,arr,22,(0,0),rfl,zA.2 ⟨fun h=>absurd (hX b h) (by omega),hb⟩, ?_,fun i x hx => ?_⟩⟩
 ·show 0+q.length*1≤arr.size
  omega
 ·obtain ⟨hi,rfl⟩:=List.getElem?_eq_some_iff.1 hx
  have hi:i < q.length:=hi
  obtain ⟨v,hv,hr⟩:=hq i hi
  have hs:seg arr (0+i*(Ty.sl (.int .u8)).size) (Ty.sl (.int .u8)).size=[v]:=by
   rw [e1,Nat.mul_one,Nat.zero_add]
   refine List.ext_getElem? fun j => ?_
   by_cases hj:j < 1
   ·obtain rfl:j=0:=by omega
    rw [qd5 hj,Nat.add_zero,hvals i hi,hv];rfl
   ·rw [List.getElem?_eq_none (by rw [z8 (by omega)];omega),List.getElem?_eq_none (by simp;omega)]
  rw [hs]
  exact hr.mono hle
theorem qHR {w:World} {X:Nat→Prop} (hX:∀ b,X b→b < w.heap.size) (q l:List BB) (room:Int) {r:List BB×Int×Int×Unit} {cs1 cs2:List Value} (hq:RepC (view w X) qnV q cs1) (hl:RepC (view w X) qnV l cs2) (hr:qdA (q,l,room,())=some r) :
  Calls Tryz.prog 286 #[mkV qnV cs1,mkV qnV cs2, .int .i64 room] w fun e w'=>∃ vr,e = .returned vr∧qcQ w X w' [.im qnV, .im (.int .i64), .im (.int .i64)] r vr:=by
 have hq0:=hq
 obtain ⟨qa,qc,rfl,q1,q2,q3⟩:=RepC.jR.1 hq
 obtain ⟨la,lc,rfl,l1,l2,l3⟩:=RepC.jR.1 hl
 obtain ⟨qpt,qv,sq,rq⟩:=qIM (l:=q) q1 q2 q3
 obtain ⟨lpt,lv,sl,rl⟩:=qIM (l:=l) l1 l2 l3
 unfold qdA at hr
 dsimp only at hr
 show Calls Tryz.prog 286 #[.slice qa q.length qc, .slice la l.length lc, .int .i64 room] w _
 by_cases h1:room < 1
 ·rw [if_pos (.inl h1)] at hr
  obtain rfl:=Option.some.inj hr
  refine (qHS h1).mono fun e w' h => ?_
  obtain ⟨rfl,rfl⟩:=h
  exact ret3 hX rfl rfl rfl (Nat.le_refl _) (fun _ _=>rfl) hq0
 by_cases h2:64 < room
 ·rw [if_pos (.inr h2)] at hr
  obtain rfl:=Option.some.inj hr
  refine (qFW h1 h2).mono fun e w' h => ?_
  obtain ⟨rfl,rfl⟩:=h
  exact ret3 hX rfl rfl rfl (Nat.le_refl _) (fun _ _=>rfl) hq0
 rw [if_neg (by omega)] at hr
 obtain ⟨R,rfl⟩:∃ R:Nat,room=R:=⟨room.toNat,by omega⟩
 refine (qFV (by omega) (by omega) sq sl).mono fun e w' h => ?_
 obtain ⟨h,hk⟩:=h
 have hold:∀ b,b < w.heap.size→w'.heap[b]? = w.heap[b]? := fun b hb=>hk.other b hb (by omega)
 have hle:(view w X).Le (view w' X):=qf0 fun b' o hM ho=>⟨hM,(hold b' (Array.getElem?_eq_some_iff.1 ho).1).trans ho⟩
 rcases h with ⟨hlt,rfl⟩ | ⟨hge,sv,rfl,hR⟩
 ·rw [if_pos (by omega)] at hr
  obtain rfl:=Option.some.inj hr
  exact ret3 hX hk.os hk.tape hk.output hk.size hold (hq0.mono hle)
 ·rw [if_neg (by omega),Int.toNat_natCast] at hr
  obtain rfl:=Option.some.inj hr
  rw [Nat.min_comm (R - q.length) l.length]
  have hlen:(q++l.take (R - q.length):List BB).length=q.length+min l.length (R - q.length):=by
   rw [List.length_append,List.length_take,Nat.min_comm]
  refine ret3 hX hk.os hk.tape hk.output hk.size hold (qHD hX hold (c:=w.heap.size+1) (vals:=((List.range q.length).map qv++(List.range (min l.length (R - q.length))).map lv).toArray) (by rw [hlen];exact hR) fun i hi => ?_)
  by_cases hiq:i < q.length
  ·refine ⟨qv i, ?_, ?_⟩
   ·rw [List.getElem?_toArray,List.getElem?_append_left (by simpa using hiq)]
    simp [hiq]
   ·rw [List.getElem_append_left hiq]
    exact rq i hiq
  ·have hj:i - q.length < min l.length (R - q.length):=by omega
   refine ⟨lv (i - q.length), ?_, ?_⟩
   ·rw [List.getElem?_toArray,List.getElem?_append_right (by simp;omega)]
    simp [hj]
   ·rw [List.getElem_append_right (by omega),List.getElem_take]
    exact rl _ (by omega)
theorem qAh:FOK Tryz.prog 286 qn1:=by
 refine ⟨⟨Tryz.f286,Tryz.func286,by kernel_rfl,by kernel_rfl⟩, ?_⟩
 intro w X x vs r hX hkeys ha hr
 obtain ⟨q,l,room,⟨⟩⟩:=x
 obtain ⟨cs1,vs1,rfl,hq,cs2,vs2,rfl,hl,cs3,vs3,rfl,hro,rfl⟩:=ha
 obtain rfl:=RepC.zS.1 hro
 exact qHR hX q l room hq hl hr
end Yp
namespace Yp
open Go Go.Proofs Tryz
abbrev yT19:Ty := .int .u32
abbrev yT13:Ty := .bool
abbrev yT12:Ty := .int .u8
abbrev yT3:Ty := .sl yT12
abbrev yT22:Ty := .sl yT3
abbrev yT16:Ty := .pair yT3 (.pair yT3 (.unit))
abbrev yT9:Ty := .pair yT13 (.pair (.sl yT16) (.pair yT13 (.unit)))
abbrev yT2:Ty := .int .i64
abbrev yT15:Ty := .pair yT2 (.pair (.ar 16 (.int .u64)) (.unit))
abbrev yT14:Ty := .pair yT2 (.pair yT2 (.unit))
abbrev yT20:Ty := .pair yT3 yT14
abbrev yT7:Ty := .pair yT2 (.pair yT2 (.pair (.ar 2 yT2) (.pair yT2 (.pair yT2 yT16))))
abbrev yT6:Ty := .pair (.ar 4 yT13) (.pair (.ar 4 yT20) (.pair (.ar 4 yT2) (.pair yT2 (.unit))))
abbrev yT5:Ty := .pair yT13 (.pair yT2 (.pair yT2 (.pair yT2 (.pair yT2 (.pair yT3 (.pair yT3 (.pair yT2 (.unit))))))))
abbrev yT4:Ty := .pair yT2 (.pair yT3 (.unit))
abbrev yT21:Ty := .pair (.sl yT4) (.pair (.fn [350]) (.unit))
abbrev yT18:Ty := .pair yT2 (.pair (.ar 2 yT2) yT4)
abbrev yT17:Ty := .pair (.ar 8 yT19) yT4
abbrev yT11:Ty := .pair yT2 (.pair yT2 (.pair yT2 yT4))
abbrev yT10:Ty := .pair yT4 (.pair yT4 (.pair yT4 yT14))
abbrev yT8:Ty := .pair yT2 (.pair (.sl yT4) (.unit))
abbrev yT0:Ty := .pair yT2 (.pair yT3 (.pair yT2 (.pair yT16 (.pair yT2 (.pair yT2 (.pair yT2 (.pair yT2 (.pair yT2 (.pair yT15 (.pair yT10 (.pair yT11 (.pair yT2 (.pair yT2 (.pair yT22 (.pair yT6 (.pair (.sl yT4) (.pair (.sl yT18) (.pair (.ar 4 yT2) (.unit)))))))))))))))))))
abbrev yT1:Ty := .pair yT0 (.pair yT9 (.unit))
theorem qxG:FK 65 ⟨[yT16],[.im yT13],qeA⟩:=mkC qD qC func65 3
theorem qjK:FK 133 ⟨[yT2],[.im yT13],jX⟩:=mkC qD qC func133 3
theorem qxK:FK 305 ⟨[yT2],[.im (.int .u64)],qeE⟩:=mkC qD qC func305 5
theorem qCo:FK 240 ⟨[yT15,yT2],[.im yT13],qc2⟩:=mkC (qA qD qxK) qC func240 5
theorem qxL:FK 134 ⟨[yT15],[.im yT13],qeF⟩:=mkC (qA qD qCo) qC func134 5
theorem qoN:FK 173 ⟨[yT4],[.im yT13],v3⟩:=mkC qD qC func173 3
theorem ql8:FK 67 ⟨[yT10],[.im yT13],qaS⟩:=mkC (qA qD qoN) qC func67 6
theorem qAL:FK 241 ⟨[yT4],[.im yT13],wY⟩:=mkC qD qC func241 3
theorem qxJ:FK 135 ⟨[yT10],[.im yT13],qeD⟩:=mkC (qA (qA (qA qD qAL) qoN) ql8) qC func135 9
theorem qxF:FK 120 ⟨[yT2],[.im yT13],qd9⟩:=mkC qD qC func120 3
theorem qAH:FK 208 ⟨[yT2,yT2,yT3],[.im yT13],qh6⟩:=mkC (qA qD qxF) qC func208 8
theorem qAJ:FK 239 ⟨[yT11],[.im yT13],qh8⟩:=mkC qD qC func239 3
theorem qxE:FK 136 ⟨[yT11],[.im yT13],qd8⟩:=mkC (qA (qA qD qAJ) qAH) qC func136 5
theorem qxO:FK 242 ⟨[yT20],[.im yT13],qeH⟩:=mkC qD qC func242 4
theorem jG:FK 39 ⟨[yT3,yT3],[.im yT13],z3⟩:=mkC qD qC func39 5
theorem qoO:FK 243 ⟨[yT20,yT20],[.im yT13],yI⟩:=mkC (qA qD jG) qC func243 5
theorem qxM:FK 137 ⟨[yT6],[.im yT13],qeG⟩:=mkC (qA (qA qD qoO) qxO) qC func137 6
theorem qoM:FK 112 ⟨[yT2],[.im yT13],qc1⟩:=mkC qD qC func112 3
theorem qxC:FK 138 ⟨[yT0],[.im yT13],qd7⟩:=mkC (qA qD qoM) qC func138 4
theorem qcN:FK 28 ⟨[yT2],[.im yT13],vY⟩:=mkC qD qC func28 3
theorem qAD:FK 244 ⟨[yT2],[.im yT2],qm6⟩:=mkC qD qC func244 4
theorem qAC:FK 245 ⟨[yT0],[.im yT13],qh4⟩:=mkC (qA qD ql8) qC func245 4
theorem qt2:FK 139 ⟨[yT0],[.im yT13],qbL⟩:=mkC (qA (qA (qA qD qAC) qAD) qcN) qC func139 5
theorem qxD:FK 35 ⟨[yT0],[.im yT13],qaL⟩:=mkC (qA (qA (qA (qA (qA (qA (qA (qA qD qt2) qxC) qxM) qxE) qxJ) qxL) qjK) qxG) qC func35 13
theorem qCk:FK 221 ⟨[yT16],[.im yT13],qk5⟩:=mkC qD qC func221 3
theorem qCn:FK 222 ⟨[yT10],[.im yT13],qk7⟩:=mkC qD qC func222 3
theorem qCp:FK 223 ⟨[yT6],[.im yT13],qk8⟩:=mkC qD qC func223 3
theorem qAX:FK 224 ⟨[yT22,yT2],[.im yT2],qiK⟩:=mkC qD qC func224 7
theorem qCh:FK 103 ⟨[yT0],[.im yT13],qgF⟩:=mkC (qA (qA (qA (qA qD qAX) qCp) qCn) qCk) qC func103 8
theorem qCw:FK 104 ⟨[yT9,yT2],[.im yT13],qgK⟩:=mkC qD qC func104 6
theorem qCf:FK 22 ⟨[yT1],[.im yT13],qk3⟩:=mkC (qA (qA (qA qD qCw) qCh) qxD) qC func22 5
theorem qsF:FK 144 ⟨[yT4,yT4],[.im yT13],kF⟩:=mkC (qA qD jG) qC func144 5
theorem qAM:FK 40 ⟨[yT10,yT10],[.im yT13],qiA⟩:=mkC (qA qD qsF) qC func40 8
theorem qAW:FK 86 ⟨[yT22,yT22],[.im yT13],qiJ⟩:=mkC qD qC func86 6
theorem qAK:FK 145 ⟨[yT16,yT16],[.im yT13],qh9⟩:=mkC (qA qD jG) qC func145 5
theorem qAI:FK 146 ⟨[yT11,yT11],[.im yT13],qh7⟩:=mkC (qA qD jG) qC func146 5
theorem qAN:FK 147 ⟨[yT6,yT6],[.im yT13],qiB⟩:=mkC (qA qD qoO) qC func147 7
theorem qAA:FK 148 ⟨[(.sl yT4),(.sl yT4)],[.im yT13],qh2⟩:=mkC (qA qD jG) qC func148 6
theorem qt3:FK 149 ⟨[(.sl yT18),(.sl yT18)],[.im yT13],qbM⟩:=mkC (qA qD jG) qC func149 6
theorem qAF:FK 42 ⟨[yT0,yT0],[.im yT13],qc0⟩:=mkC (qA (qA (qA (qA (qA (qA (qA (qA qD qt3) qAA) qAN) qAI) qAK) qAW) qAM) jG) qC func42 12
theorem qAT:FK 115 ⟨[yT9,yT9],[.im yT13],qc5⟩:=mkC (qA qD jG) qC func115 6
theorem qfU:FK 25 ⟨[yT1,yT1],[.im yT13],jF⟩:=mkC (qA (qA qD qAT) qAF) qC func25 7
theorem qBb:FK 318 ⟨[yT3],[.im (.str)],qr3⟩:=mkC qD qC func318 6
theorem qhS:FK 343 ⟨[(.int .i32)],[.im yT2, .im yT13],xJ⟩:=mkC qD qC func343 4
theorem qmG:FK 269 ⟨[yT3,yT2,yT2],[.im (.str), .im yT2, .im yT2],vF⟩:=mkC (qA (qA qD qhS) qBb) qC func269 15
noncomputable abbrev qqJ:wI:=⟨[.str],[.im yT2, .im yT2],vE⟩
theorem qkB:FK 270 qqJ:=mkC (qA qD qhS) qC func270 9
theorem qhO:FK 344 ⟨[yT2,yT2],[.im yT2],v7⟩:=mkC qD qC func344 5
theorem qi0:FK 271 ⟨[yT2],[.im yT13],qeW⟩:=mkC (qA qD qhO) qC func271 4
theorem qx1:FK 272 wQ:=qwU qjN
theorem qsQ:FK 382 ⟨[yT2],[.im yT2],kS⟩:=mkC qD qC func382 3
noncomputable def qcR:Inl:=inlF (eN [] []) f383 3
theorem qcG:IK 383 qcR:=mkI qD qC func383 3
theorem qA8:FK 346 ⟨[yT2,yT2],[.im yT2],yQ⟩:=mkC (qA qD qsQ) (jK qC qcG) func346 5
theorem qdV:FK 273 ⟨[yT2],[.im yT14, .im yT13],wW⟩:=mkC (qA qD qA8) qC func273 6
theorem qhR:FK 347 ⟨[yT2],[.im yT2],qR⟩:=mkC qD qC func347 3
noncomputable def qmR:Inl:=inlF (eN [] [(383,qcR)]) f384 7
theorem qlU:IK 384 qmR:=mkI qD (jK qC qcG) func384 7
noncomputable def qCX:Inl:=inlF (eN [] [(383,qcR),(384,qmR)]) f349 3
theorem qBX:IK 349 qCX:=mkI qD (jK (jK qC qlU) qcG) func349 3
theorem xK:FK 363 ⟨[yT5],[.im yT13],qa2⟩:=mkC qD qC func363 3
theorem jV:FK 365 ⟨[yT5],[.im yT13],yZ⟩:=mkC qD qC func365 3
theorem xL:FK 364 ⟨[yT5],[.im yT13],qa3⟩:=mkC (qA qD jV) qC func364 4
theorem kZ:FK 366 ⟨[yT5],[.im yT13],qj0⟩:=mkC qD qC func366 3
theorem qbY:FK 277 ⟨[yT2,yT3],[.im yT13],vK⟩:=mkC (qA (qA (qA (qA (qA (qA qD kZ) jV) xL) xK) qhR) qdV) (jK (jK qC qBX) qlU) func277 8
theorem qA9:FK 274 ⟨[yT2,yT3,yT2],[.ow yT12, .im yT2, .im yT2],qiW⟩:=mkC (qA (qA (qA (qA (qA (qA (qA (qA (qA qD kZ) jV) xL) xK) qhR) qbY) qdV) qkB) qmG) qC func274 20
theorem qvJ:FK 177 ⟨[yT3],[.im yT8, .im yT2],qlT⟩:=mkC (qA (qA (qA (qA (qA (qA qD qA9) qdV) qx1) qi0) qkB) qmG) qC func177 20
theorem qCJ:FK 275 ⟨[yT2],[.im yT2],qg3⟩:=mkC (qA (qA qD qhO) qi0) qC func275 3
theorem qjM:FK 178 ⟨[yT8],[.im yT13],y8⟩:=mkC (qA qD qCJ) qC func178 3
noncomputable abbrev qi7:wI:=⟨[yT4],[.im yT2],y7⟩
theorem jH:FK 350 qi7:=mkC qD qC func350 3
theorem qoW:FK 278 ⟨[yT8],[.im yT21],qdL⟩:=mkC (qA qD jH) qC func278 3
theorem yA:FK 348 ⟨[yT21,yT2],[.im yT2, .im yT13],z6⟩:=mkC (qA qD jH) qC func348 9
noncomputable abbrev qy9:wI:=⟨[yT8,yT2],[.im yT3, .im yT13],yO⟩
theorem qmE:FK 276 qy9:=mkC (qA (qA (qA qD jH) yA) qoW) qC func276 8
theorem qsM:FK 179 ⟨[yT8],[.im yT13],qdO⟩:=mkC (qA qD qmE) qC func179 5
theorem qbZ:FK 180 ⟨[yT2,yT2],[.im (.str), .im yT2],x3⟩:=mkC qD qC func180 8
noncomputable def wH:Inl:=inlF (eN [] []) f385 5
theorem wE:IK 385 wH:=mkI qD qC func385 5
theorem qmH:FK 333 ⟨[yT3,yT3],[.im yT13],qbF⟩:=mkC qD qC func333 5
theorem qhP:FK 359 ⟨[yT4,yT4],[.im yT13],qiP⟩:=mkC (qA qD qmH) qC func359 5
theorem yT:FK 351 ⟨[(.sl (.sl yT4))],[.ow yT4],zB⟩:=mkC (qA qD qhP) (jK qC wE) func351 9
theorem qfF:FK 279 ⟨[yT21,yT4],[.ow yT4],j6⟩:=mkC (qA (qA (qA qD jH) yT) yA) qC func279 8
noncomputable abbrev qy8:wI:=⟨[yT8,yT2,yT3],[.im yT8, .im yT2],jO⟩
theorem qsL:FK 181 qy8:=mkC (qA (qA (qA (qA (qA qD jH) qfF) qoW) qbY) qdV) qC func181 10
theorem qCH:FK 280 ⟨[yT8],[.im yT13],qlR⟩:=mkC (qA (qA qD qbY) qi0) qC func280 6
theorem qBc:FK 281 ⟨[.str],[.ow yT12, .im yT2],qcL⟩:=mkC (qA qD qhS) qC func281 10
theorem quD:FK 352 ⟨[(.sl yT2)],[.im yT13],qb1⟩:=mkC qD qC func352 6
theorem quC:FK 282 ⟨[(.sl yT2)],[.ow yT12, .im yT2],qb0⟩:=mkC (qA (qA qD qjN) quD) qC func282 9
theorem qxZ:FK 283 ⟨[yT2,yT3],[.ow yT12, .im yT2],qbC⟩:=mkC (qA (qA (qA (qA (qA (qA (qA (qA (qA qD kZ) jV) xL) xK) qhR) qBc) qbY) qdV) qbZ) qC func283 14
theorem qj9:FK 182 ⟨[yT8],[.ow yT12, .im yT2],qa8⟩:=mkC (qA (qA (qA (qA (qA qD qxZ) quC) qBc) qCH) qbZ) qC func182 17
theorem qhQ:FK 71 ⟨[yT3,yT2],[.ow yT12, .im yT2],qaC⟩:=mkC (qA (qA (qA (qA (qA (qA qD qj9) qsL) qbZ) qsM) qjM) qvJ) qC func71 12
theorem qmD:FK 263 ⟨[yT2,(.sl yT2)],[.im yT13],qa7⟩:=mkC qD qC func263 7
theorem qj8:FK 228 ⟨[yT0],[.im (.ar 2 yT2)],kP⟩:=mkC (qA qD qmD) qC func228 4
theorem qsJ:FK 234 ⟨[yT3],[.im yT13],qgZ⟩:=mkC qD qC func234 3
theorem qhL:FK 225 ⟨[yT2],[.im yT2],yL⟩:=mkC qD qC func225 3
theorem qt8:FK 235 ⟨[yT2],[.im yT13],qbR⟩:=mkC (qA qD qhL) qC func235 3
theorem qEP:FK 319 ⟨[yT6],[.im yT6, .im yT2, .im yT2],qpX⟩:=mkC qD qC func319 7
theorem qBa:FK 389 ⟨[yT2,yT2],[.im yT13],qaD⟩:=mkC qD qC func389 5
theorem qsR:FK 367 ⟨[yT7],[.im yT13],qhA⟩:=mkC (qA qD qBa) qC func367 5
noncomputable abbrev qzA:wI:=⟨[yT2,yT2],[.ow yT12, .im yT2],qfA⟩
theorem qHf:FK 308 qzA:=mkC qD qC func308 8
noncomputable def qyI:Inl:=inlF (eN [(308,qzA)] []) f368 8
theorem qwO:IK 368 qyI:=mkI (qA qD qHf) qC func368 8
theorem qsS:FK 320 ⟨[yT7],[.ow yT12, .im yT2],qhB⟩:=mkC (qA qD qsR) (jK qC qwO) func320 6
theorem qEM:FK 369 quQ:=qEz qEN
theorem kY:FK 370 ⟨[(.sl yT16)],[.cl yT16],zL⟩:=mkC qD qC func370 3
theorem qx0:FK 371 qkR:=qwT
theorem kA:FK 388 ⟨[yT19,yT2],[.im yT19],qI⟩:=mkC qD qC func388 6
theorem qAw:FK 387 ⟨[yT3],[.im (.ar 64 yT19)],qhW⟩:=mkC (qA qD kA) qC func387 9
theorem qsD:FK 362 ⟨[(.ar 8 yT19),yT3],[.im (.ar 8 yT19), .im yT2],qf4⟩:=mkC (qA (qA qD kA) qAw) qC func362 16
noncomputable abbrev qy6:wI:=⟨[yT17,yT3],[.im yT17],qd4⟩
theorem qsC:FK 312 qy6:=mkC (qA qD qsD) qC func312 6
noncomputable abbrev qy7:wI:=⟨[],[.im yT17],qqH⟩
theorem qAy:FK 313 qy7:=mkC qD qC func313 1
theorem qAx:FK 314 ⟨[yT17],[.ow yT12],qjT⟩:=mkC (qA qD qsD) qC func314 9
theorem qIx:FK 361 ⟨[yT3],[.ow yT12],qDg⟩:=mkC (qA (qA (qA (qA qD jH) qAx) qAy) qsC) qC func361 3
theorem qCE:FK 310 ⟨[yT3],[.ow yT12],qlO⟩:=mkC (qA qD qIx) qC func310 4
noncomputable def qCW:Inl:=inlF (eN [(312,qy6),(313,qy7),(350,qi7)] []) f311 6
theorem qBW:IK 311 qCW:=mkI (qA (qA (qA qD jH) qAy) qsC) qC func311 6
theorem qA1:FK 231 ⟨[yT3,yT3],[.ow yT12],qrJ⟩:=mkC (qA (qA (qA (qA qD jH) qAx) qsC) qCE) (jK qC qBW) func231 7
theorem qA0:FK 372 ⟨[yT3,yT3],[.ow yT12],qdB⟩:=mkC (qA qD qA1) qC func372 5
theorem qEL:FK 321 ⟨[yT9,yT3,yT3],[.im yT9, .ow yT12],qpR⟩:=mkC (qA (qA (qA (qA qD qA0) qx0) kY) qEM) qC func321 8
theorem qCM:FK 373 ⟨[yT7],[.im yT13],ql4⟩:=mkC (qA qD qsR) qC func373 3
theorem qCL:FK 322 ⟨[yT7],[.ow yT12, .im yT2],ql3⟩:=mkC (qA (qA qD qCM) qsS) qC func322 6
theorem qA7:FK 323 ⟨[yT3],[.ow yT12, .im yT2],qiT⟩:=mkC qD qC func323 4
theorem yU:FK 324 ⟨[(.sl yT4)],[.cl yT4],zN⟩:=mkC qD qC func324 3
theorem qsK:FK 236 ⟨[yT1,yT7,yT3],[.im yT1, .im yT2],qg0⟩:=mkC (qA (qA (qA (qA (qA (qA qD yU) qA7) qCL) qEL) qsS) qEP) qC func236 17
theorem qfE:FK 124 ⟨[yT1,yT3],[.im yT1, .im yT2],kO⟩:=mkC (qA (qA (qA (qA qD qsK) qt8) qsJ) qj8) qC func124 9
theorem qi2:FK 287 wM:=qi1
theorem qAY:FK 190 ⟨[yT22],[.im yT3, .im yT22, .im yT13],qc9⟩:=mkC (qA qD qi2) qC func190 5
theorem qkA:FK 75 ⟨[yT1],[.im yT1],qdR⟩:=mkC (qA (qA qD qAY) qfE) qC func75 8
theorem qhM:FK 105 ⟨[yT2],[.im yT13],w9⟩:=mkC (qA qD qhL) qC func105 3
theorem qAZ:FK 286 qn1:=qAh
theorem qCB:FK 186 ⟨[yT22,yT3,yT2],[.im yT22, .im yT2],qlE⟩:=mkC (qA qD qAZ) qC func186 11
theorem kX:FK 253 ⟨[(.sl yT18)],[.cl yT18],zK⟩:=mkC qD qC func253 3
theorem qoX:FK 187 ⟨[yT1,yT2,yT2,yT3],[.im yT1],qdQ⟩:=mkC (qA (qA qD kX) qj8) qC func187 9
theorem qmF:FK 73 ⟨[yT1,yT3],[.im yT1, .im yT2],yP⟩:=mkC (qA (qA (qA (qA (qA qD qoX) qCB) qhM) qkA) qhQ) qC func73 9
theorem qCC:FK 315 ⟨[yT5],[.im (.fn [363,364,365,366])],qrH⟩:=mkC (qA (qA (qA (qA qD kZ) jV) xL) xK) qC func315 3
theorem qoV:FK 232 ⟨[yT5],[.im yT13],qdH⟩:=mkC (qA (qA (qA (qA (qA qD kZ) jV) xL) xK) qCC) qC func232 3
noncomputable def qfY:Inl:=inlF (eN [(181,qy8)] []) f316 4
theorem qfS:IK 316 qfY:=mkI (qA qD qsL) qC func316 4
theorem qt9:FK 317 ⟨[yT2,yT2],[.ow yT12],zW⟩:=mkC (qA qD qbZ) qC func317 7
theorem qjL:FK 233 ⟨[yT5],[.im yT8],v5⟩:=mkC (qA (qA qD qBb) qt9) (jK qC qfS) func233 5
theorem qoU:FK 123 ⟨[yT5],[.ow yT12, .im yT2],qaA⟩:=mkC (qA (qA (qA qD qjL) qoV) qj9) qC func123 4
theorem qET:FK 167 ⟨[yT2],[.im yT2],qp1⟩:=mkC qD qC func167 3
theorem qCP:FK 338 ⟨[yT2],[.im yT13],qmN⟩:=mkC qD qC func338 3
theorem qES:FK 262 ⟨[yT2,yT2,yT3],[.im yT13],qp0⟩:=mkC (qA qD qCP) qC func262 7
theorem qCQ:FK 168 ⟨[yT2,yT2,yT3],[.im yT11, .im yT2],qmO⟩:=mkC (qA qD qES) qC func168 8
theorem qA2:FK 309 ⟨[yT3, .str,yT22],[.ow yT12, .im yT2],qiM⟩:=mkC (qA qD qA1) qC func309 11
theorem qCG:FK 264 ⟨[yT3],[.ow yT12],qg1⟩:=mkC (qA qD qA2) qC func264 5
theorem qA4:FK 169 ⟨[yT1,yT2,yT3],[.im yT1, .im yT2],qiO⟩:=mkC (qA (qA (qA (qA (qA qD qCG) qmD) qsK) qsJ) qj8) qC func169 9
theorem qsB:FK 63 ⟨[yT1,yT5],[.im yT1],wO⟩:=mkC (qA (qA (qA (qA (qA qD qA4) qCQ) qET) qfE) qoU) qC func63 9
noncomputable def qBl:Inl:=inlF (eN [] []) f230 3
theorem qAd:IK 230 qBl:=mkI qD qC func230 3
theorem qoT:FK 110 ⟨[yT2,yT2],[.im yT2, .im yT13],qdC⟩:=mkC (qA qD qhL) (jK qC qAd) func110 9
theorem qCK:FK 77 ⟨[yT1,yT2],[.im yT1, .im yT2],qlW⟩:=mkC (qA (qA (qA qD qoT) qhM) qsB) qC func77 6
theorem qsO:FK 191 ⟨[yT1],[.im yT1],qdP⟩:=mkC (qA qD qoT) qC func191 3
theorem qA5:FK 79 ⟨[yT1],[.im yT1],qiR⟩:=mkC (qA qD qsO) qC func79 3
theorem qxW:FK 122 ⟨[yT5,yT2],[.im yT5, .im yT2],qa5⟩:=mkC qD qC func122 6
theorem qA6:FK 81 ⟨[yT1,yT5],[.im yT1],qiS⟩:=mkC (qA (qA (qA qD qfE) qoU) qxW) qC func81 9
theorem qhN:FK 125 ⟨[yT1,yT2],[.im yT1],v6⟩:=mkC qD qC func125 7
theorem qEU:FK 325 ⟨[yT11,yT11],[.im yT13],qyA⟩:=mkC (qA qD qmH) qC func325 5
theorem qER:FK 237 ⟨[yT11],[.im yT13],qpZ⟩:=mkC (qA qD qEU) qC func237 3
theorem qCO:FK 129 ⟨[yT11,yT2,yT2],[.im yT13],qmM⟩:=mkC (qA qD qER) qC func129 7
noncomputable def qyH:Inl:=inlF (eN [(270,qqJ),(276,qy9)] [(316,qfY)]) f288 7
theorem qwN:IK 288 qyH:=mkI (qA (qA qD qmE) qkB) (jK qC qfS) func288 7
theorem qEQ:FK 357 ⟨[yT12],[.im yT12, .im yT13],qpY⟩:=mkC qD qC func357 4
theorem qCN:FK 289 ⟨[.str],[.ow yT12, .im yT2],qhD⟩:=mkC (qA qD qEQ) qC func289 10
theorem jQ:FK 358 ⟨[(.sl yT4),(.sl yT4),(.fn [359])],[.im yT13],qQ⟩:=mkC (qA qD qhP) qC func358 10
theorem qEO:FK 290 ⟨[yT8,yT8],[.im yT13],qlQ⟩:=mkC (qA (qA qD qhP) jQ) qC func290 5
theorem qCD:FK 193 ⟨[yT3],[.im yT5, .im yT2],qlI⟩:=mkC (qA (qA (qA (qA (qA (qA qD qEO) qCN) qmE) qjL) qoV) qvJ) (jK qC qwN) func193 10
theorem qxY:FK 83 ⟨[yT1,yT5],[.im yT1],qe5⟩:=mkC (qA (qA (qA (qA qD qCD) qsO) qCO) qhN) qC func83 7
theorem qxN:FK 87 ⟨[yT6,yT2],[.im yT6, .im yT2],qjX⟩:=mkC qD qC func87 6
theorem qCm:FK 140 ⟨[yT3],[.im yT10, .im yT2],qk6⟩:=mkC qD qC func140 4
theorem qfD:FK 202 ⟨[yT2,yT2],[.im yT2],xP⟩:=mkC qD qC func202 7
theorem qj7:FK 246 ⟨[yT2,yT2],[.ow yT12, .im yT2],kJ⟩:=mkC (qA qD qfD) qC func246 8
theorem qCz:FK 374 ⟨[yT2],[.ow yT12],qlD⟩:=mkC qD qC func374 6
theorem qoS:FK 375 ⟨[],[.ow yT19],qiI⟩:=mkC qD qC func375 1
theorem qAV:FK 392 ⟨[yT19,yT19],[.im yT19],jU⟩:=mkC qD qC func392 5
theorem qoR:FK 376 ⟨[(.ar 8 yT19),yT3,yT2,(.sl yT19)],[.im (.ar 8 yT19)],qc6⟩:=mkC (qA qD qAV) qC func376 30
theorem qCx:FK 327 ⟨[yT17],[.ow yT12],qgN⟩:=mkC (qA (qA (qA qD qoR) qoS) qCz) qC func327 9
theorem qCy:FK 328 ⟨[yT17,yT3],[.im yT17],qgO⟩:=mkC (qA (qA qD qoR) qoS) qC func328 8
theorem qCA:FK 329 ⟨[],[.im yT17],qq5⟩:=mkC qD qC func329 1
theorem qnQ:FK 250 ⟨[yT3],[.ow yT12],qeM⟩:=mkC (qA (qA (qA qD qCA) qCy) qCx) qC func250 3
theorem qxV:FK 249 ⟨[yT3],[.ow yT12],qeL⟩:=mkC (qA qD qnQ) qC func249 4
theorem qsH:FK 150 ⟨[yT3,yT3],[.ow yT12],qgL⟩:=mkC (qA (qA qD qnQ) qxV) qC func150 9
theorem qAU:FK 326 ⟨[.str,yT22],[.ow yT12],qiH⟩:=mkC qD qC func326 7
theorem qt6:FK 247 ⟨[yT3, .str,yT22],[.ow yT12, .im yT2],qbP⟩:=mkC (qA (qA qD qAU) qsH) qC func247 9
theorem qCg:FK 141 ⟨[yT3,(.ar 2 yT2),yT2,yT3],[.ow yT12],qgD⟩:=mkC (qA (qA (qA qD qt6) qj7) qjK) qC func141 19
theorem qt4:FK 248 ⟨[yT2],[.ow yT12, .im yT2],qbN⟩:=mkC (qA (qA qD qnQ) qj7) qC func248 7
theorem qCj:FK 142 ⟨[],[.im yT16],qgG⟩:=mkC (qA qD qt4) qC func142 3
theorem qCu:FK 143 ⟨[.bool],[.im yT9],qlB⟩:=mkC qD qC func143 3
theorem qA3:FK 85 ⟨[.bool],[.im yT1],qiN⟩:=mkC (qA (qA (qA (qA (qA qD qCu) qCj) qCg) qCm) qxN) qC func85 7
theorem qhK:FK 201 ⟨[.str],[.im yT13],kI⟩:=mkC qD qC func201 4
theorem qmC:FK 92 ⟨[.str],[.im yT2, .im yT2],qaX⟩:=mkC (qA (qA qD qfD) qhK) qC func92 6
theorem qhH:FK 95 ⟨[yT2],[.im yT13],wZ⟩:=mkC qD qC func95 3
theorem qhJ:FK 197 ⟨[yT3,yT2,yT2],[.im (.str), .im yT2, .im yT2],jZ⟩:=mkC qD qC func197 13
theorem qmA:FK 298 ⟨[yT2],[.im yT2, .im yT12],vU⟩:=mkC qD qC func298 6
theorem qCs:FK 293 ⟨[yT3,yT2],[.im yT13],kG⟩:=mkC (qA qD qmA) qC func293 7
theorem qAR:FK 198 ⟨[yT3,yT2],[.ow yT2, .im yT2, .im yT2],qiF⟩:=mkC (qA qD qCs) qC func198 12
theorem qEK:FK 294 ⟨[(.sl yT2),yT2],[.im yT13],qk9⟩:=mkC qD qC func294 6
theorem qdU:FK 199 ⟨[yT2],[.im yT14, .im yT13],qbO⟩:=mkC (qA qD qEK) qC func199 7
theorem qmB:FK 295 ⟨[yT2],[.im yT2],yJ⟩:=mkC qD qC func295 3
theorem qhI:FK 296 ⟨[yT14,yT3],[.im yT13],xG⟩:=mkC qD qC func296 6
theorem qAS:FK 200 ⟨[yT2,yT3,yT2],[.ow yT12, .im yT2, .im yT2],qiG⟩:=mkC (qA (qA (qA (qA (qA qD qhI) qmB) qdU) qhJ) qmC) qC func200 23
theorem qoP:FK 90 ⟨[yT3],[.im yT8, .im yT2],w8⟩:=mkC (qA (qA (qA (qA (qA (qA qD qAS) qdU) qAR) qhJ) qhH) qmC) qC func90 20
theorem qsG:FK 91 ⟨[yT8,yT2],[.im yT3, .im yT13],qc3⟩:=mkC qD qC func91 7
theorem qsN:FK 209 ⟨[.bool,yT2,yT2],[.im yT2],qe3⟩:=mkC qD qC func209 7
theorem qsP:FK 210 ⟨[yT8],[.im yT13],qe4⟩:=mkC (qA qD qsM) qC func210 4
theorem qCI:FK 299 ⟨[yT2],[.im yT2, .im yT13],qz9⟩:=mkC (qA (qA qD qhO) qi0) qC func299 5
theorem quA:FK 211 ⟨[yT1,yT8],[.im yT1],qoF⟩:=mkC (qA (qA (qA (qA (qA (qA qD qCI) qmE) qj9) qsL) qhN) qfE) qC func211 13
theorem quB:FK 99 ⟨[yT1,yT7,yT8],[.im yT1],qbU⟩:=mkC (qA (qA (qA (qA (qA (qA (qA qD quA) qsP) qsN) qoX) qjM) qhN) qhM) qC func99 7
theorem qhG:FK 36 ⟨[yT0],[.im (.ar 2 yT2)],yF⟩:=mkC qD qC func36 3
theorem qsE:FK 189 ⟨[yT0,yT2,(.ar 2 yT2),yT2,yT3],[.im yT0],qgE⟩:=mkC qD qC func189 11
theorem qAG:FK 158 ⟨[yT0,yT2],[.im yT0],qh5⟩:=mkC (qA (qA (qA qD qsE) qhG) qcN) qC func158 6
theorem qoQ:FK 285 ⟨[yT2,yT3],[.im yT13],qc4⟩:=mkC (qA (qA qD qhI) qdU) qC func285 8
theorem qxP:FK 203 ⟨[yT8],[.im yT13],qeI⟩:=mkC (qA (qA qD qoQ) qhH) qC func203 5
theorem qcO:FK 96 ⟨[yT2,yT2],[.im (.str), .im yT2],j0⟩:=mkC (qA qD qfD) qC func96 8
theorem qsI:FK 206 ⟨[.str],[.ow yT12, .im yT2],vO⟩:=mkC (qA qD qhK) qC func206 6
theorem qxT:FK 204 ⟨[yT2,yT3],[.ow yT12, .im yT2],qaV⟩:=mkC (qA (qA (qA (qA (qA qD qhI) qmB) qsI) qdU) qcO) qC func204 16
theorem qxS:FK 297 ⟨[(.sl yT2)],[.im yT13],qeK⟩:=mkC qD qC func297 4
theorem qxR:FK 205 ⟨[(.sl yT2)],[.ow yT12, .im yT2],qeJ⟩:=mkC (qA (qA qD qmA) qxS) qC func205 11
theorem qAQ:FK 207 ⟨[yT2],[.im (.str)],qiE⟩:=mkC (qA qD qcO) qC func207 5
theorem ql9:FK 97 ⟨[yT8],[.ow yT12, .im yT2],vT⟩:=mkC (qA (qA (qA (qA (qA qD qAQ) qsI) qxR) qxT) qxP) qC func97 14
theorem qCF:FK 176 ⟨[yT2],[.ow yT12],qa6⟩:=mkC (qA qD ql9) qC func176 5
theorem qxX:FK 70 ⟨[],[.im yT13],qeV⟩:=mkC (qA (qA (qA (qA (qA (qA (qA (qA (qA (qA (qA (qA (qA (qA qD qCF) qAG) quB) qsG) qoP) qA3) qxY) qA6) qA5) qCK) qkA) qmF) qhQ) qfU) qC func70 18
theorem qxQ:FK 284 ⟨[yT2],[.im yT2],qaU⟩:=mkC (qA qD qhH) qC func284 4
theorem qEJ:FK 183 ⟨[yT8],[.im yT13],qpQ⟩:=mkC (qA qD qxQ) qC func183 4
theorem qAz:FK 184 ⟨[yT8],[.im yT13],qh1⟩:=mkC (qA qD qsG) qC func184 5
theorem qCr:FK 185 ⟨[yT8,yT2,yT3],[.im yT8, .im yT2],qgH⟩:=mkC (qA (qA qD qoQ) qdU) qC func185 14
theorem ql5:FK 72 ⟨[yT3,yT2],[.ow yT12, .im yT2],qaK⟩:=mkC (qA (qA (qA (qA (qA (qA qD qCr) qAz) qEJ) ql9) qcO) qoP) qC func72 16
theorem qt5:FK 360 ⟨[yT2],[.im yT13],vZ⟩:=mkC qD qC func360 3
theorem ql6:FK 291 ⟨[yT7],[.im yT13],qaO⟩:=mkC (qA qD qt5) qC func291 6
theorem qCl:FK 300 ⟨[yT2,yT2],[.ow yT12],jL⟩:=mkC (qA qD qj7) qC func300 7
theorem ql7:FK 216 ⟨[yT7],[.ow yT12, .im yT2],qaP⟩:=mkC (qA (qA qD qCl) ql6) qC func216 6
theorem qCq:FK 378 ⟨[yT6],[.im yT13],qqY⟩:=mkC qD qC func378 3
theorem qAO:FK 334 ⟨[yT6],[.im yT6, .im yT2, .im yT2],qiC⟩:=mkC (qA qD qCq) qC func334 7
theorem qxU:FK 301 ⟨[yT3,yT3],[.ow yT12],qaW⟩:=mkC (qA qD qsH) qC func301 5
theorem qCv:FK 302 ⟨[yT9,yT3,yT3],[.im yT13],qlC⟩:=mkC (qA qD jG) qC func302 8
theorem qCt:FK 335 ⟨[yT9,yT3,yT3],[.im yT9, .ow yT12],qlA⟩:=mkC (qA (qA qD qCv) qxU) qC func335 9
theorem qxI:FK 195 ⟨[yT7],[.im yT13],qeC⟩:=mkC (qA qD ql6) qC func195 4
theorem qxH:FK 336 ⟨[yT7],[.ow yT12, .im yT2],qeB⟩:=mkC (qA (qA qD ql7) qxI) qC func336 7
theorem qAP:FK 337 ⟨[yT3],[.ow yT12, .im yT2],qiD⟩:=mkC qD qC func337 4
theorem qAB:FK 260 ⟨[yT1,yT7,yT3],[.im yT1, .im yT2],qh3⟩:=mkC (qA (qA (qA (qA (qA qD qAP) qxH) qCt) qAO) ql7) qC func260 19
theorem qAE:FK 165 ⟨[yT1,yT3],[.im yT1, .im yT2],wX⟩:=mkC (qA (qA (qA qD qAB) qhG) qcN) qC func165 9
theorem qoL:FK 76 ⟨[yT1],[.im yT1],qcZ⟩:=mkC (qA qD qAE) qC func76 5
theorem qCi:FK 188 ⟨[yT22,yT3,yT2],[.im yT22, .im yT2],qk4⟩:=mkC qD qC func188 8
theorem qt1:FK 74 ⟨[yT1,yT3],[.im yT1, .im yT2],qbK⟩:=mkC (qA (qA (qA (qA (qA (qA qD qsE) qCi) qoM) qoL) ql5) qhG) qC func74 11
theorem qnR:FK 14 ⟨[yT1,yT3,yT2],[.im yT13],kN⟩:=mkC (qA (qA (qA (qA (qA (qA (qA (qA (qA (qA qD qoL) qkA) qt1) qmF) ql5) qhQ) qxX) jG) qfU) qCf) qC func14 16
end Yp
namespace Yp
open Go
set_option maxRecDepth 100000
set_option maxHeartbeats 2000000
def tn (x n:UInt32):UInt32:=u32 (orI .u32 (n32 (u32 (shrI .u32 (n32 x) (n32 n)))) (n32 (u32 (shlI .u32 (n32 x) (n32 (u32 (isub (n32 (u32 32)) (n32 n))))))))
theorem qb3 (x n:UInt32):jU (x,n,())=some (tn x n,()):=rfl
theorem qF6 (a b:UInt32):u32 (orI .u32 (n32 a) (n32 b))=u32 (orI .u32 (n32 b) (n32 a)):=by rw [or32,or32,UInt32.or_comm]
theorem qi8 {x:UInt32} {k:Int} {n:UInt32} (h1:n64 (u64 (andI .u64 (n64 (u64 k)) (n64 (u64 31))))=n32 (u32 (isub (n32 (u32 32)) (n32 n)))) (h2:n64 (u64 (isub (n64 (u64 32)) (n64 (u64 (andI .u64 (n64 (u64 k)) (n64 (u64 31)))))))=n32 n) :
  qI (x,k,())=some (tn x n,()):=by
 unfold qI tn
 dsimp only
 rw [qF6,h2,h1]
theorem r2 (x:UInt32):qI (x, -2,())=some (tn x (u32 2),()):=qi8 (by decide +kernel) (by decide +kernel)
theorem r3 (x:UInt32):qI (x, -13,())=some (tn x (u32 13),()):=qi8 (by decide +kernel) (by decide +kernel)
theorem r4 (x:UInt32):qI (x, -22,())=some (tn x (u32 22),()):=qi8 (by decide +kernel) (by decide +kernel)
theorem r6 (x:UInt32):qI (x, -6,())=some (tn x (u32 6),()):=qi8 (by decide +kernel) (by decide +kernel)
theorem r11 (x:UInt32):qI (x, -11,())=some (tn x (u32 11),()):=qi8 (by decide +kernel) (by decide +kernel)
theorem r25 (x:UInt32):qI (x, -25,())=some (tn x (u32 25),()):=qi8 (by decide +kernel) (by decide +kernel)
theorem r7 (x:UInt32):qI (x, -7,())=some (tn x (u32 7),()):=qi8 (by decide +kernel) (by decide +kernel)
theorem r18 (x:UInt32):qI (x, -18,())=some (tn x (u32 18),()):=qi8 (by decide +kernel) (by decide +kernel)
theorem r17 (x:UInt32):qI (x, -17,())=some (tn x (u32 17),()):=qi8 (by decide +kernel) (by decide +kernel)
theorem r19 (x:UInt32):qI (x, -19,())=some (tn x (u32 19),()):=qi8 (by decide +kernel) (by decide +kernel)
def qJk (a b c d:UInt8):UInt32 :=
 u32 (iadd (n32 (u32 (iadd (n32 (u32 (iadd (n32 (u32 (imul (n32 (u32 (n8 a))) (n32 (u32 16777216))))) (n32 (u32 (imul (n32 (u32 (n8 b))) (n32 (u32 65536)))))))) (n32 (u32 (imul (n32 (u32 (n8 c))) (n32 (u32 256)))))))) (n32 (u32 (n8 d))))
def qKP (a b c d:UInt8):UInt32 :=
 u32 (orI .u32 (n32 (u32 (orI .u32 (n32 (u32 (orI .u32 (n32 (u32 (shlI .u32 (n32 (u32 (n8 a))) (n64 (u64 24))))) (n32 (u32 (shlI .u32 (n32 (u32 (n8 b))) (n64 (u64 16)))))))) (n32 (u32 (shlI .u32 (n32 (u32 (n8 c))) (n64 (u64 8)))))))) (n32 (u32 (n8 d))))
theorem kL {a:Int} (h:0≤a∧a < 4294967296):n32 (u32 a)=a:=by
 show (((BitVec.ofNat 32 ((a % 2 ^ 32).toNat)).toNat:Nat):Int)=a
 rw [BitVec.toNat_ofNat];omega
theorem qf1 {a:Nat} (h:a < 4294967296):(u32 (a:Int)).toNat=a:=by
 have:=kL (a:=(a:Int)) (by omega)
 unfold n32 at this;omega
theorem qJj (a b c d:UInt8):qKP a b c d=qJk a b c d:=by
 have ha:=a.toNat_lt;have hb:=b.toNat_lt;have hc:=c.toNat_lt;have hd:=d.toNat_lt
 unfold qKP qJk
 have e1:∀ x:UInt8,n32 (u32 (n8 x))=(x.toNat:Int):=fun x=>by
  have:=x.toNat_lt
  exact kL (a:=(x.toNat:Int)) (by omega)
 have s1:∀ (x:UInt8),shlI .u32 (n32 (u32 (n8 x))) (n64 (u64 24))=((x.toNat*16777216:Nat):Int):=fun x=>by rw [e1];show (x.toNat:Int)*2 ^ 24=_;omega
 have s2:∀ (x:UInt8),shlI .u32 (n32 (u32 (n8 x))) (n64 (u64 16))=((x.toNat*65536:Nat):Int):=fun x=>by rw [e1];show (x.toNat:Int)*2 ^ 16=_;omega
 have s3:∀ (x:UInt8),shlI .u32 (n32 (u32 (n8 x))) (n64 (u64 8))=((x.toNat*256:Nat):Int):=fun x=>by rw [e1];show (x.toNat:Int)*2 ^ 8=_;omega
 have m1:∀ (x:UInt8),imul (n32 (u32 (n8 x))) (n32 (u32 16777216))=((x.toNat*16777216:Nat):Int):=fun x=>by rw [e1,kL (by decide)];show (x.toNat:Int)*16777216=_;omega
 have m2:∀ (x:UInt8),imul (n32 (u32 (n8 x))) (n32 (u32 65536))=((x.toNat*65536:Nat):Int):=fun x=>by rw [e1,kL (by decide)];show (x.toNat:Int)*65536=_;omega
 have m3:∀ (x:UInt8),imul (n32 (u32 (n8 x))) (n32 (u32 256))=((x.toNat*256:Nat):Int):=fun x=>by rw [e1,kL (by decide)];show (x.toNat:Int)*256=_;omega
 rw [s1,s2,s3,m1,m2,m3,or32,or32,or32]
 have d1:(u32 (n8 d)).toNat=d.toNat:=qf1 (by omega)
 apply UInt32.toNat_inj.1
 rw [UInt32.toNat_or,UInt32.toNat_or,UInt32.toNat_or,qf1 (by omega),qf1 (by omega),qf1 (by omega),d1]
 have o3:(c.toNat*256) ||| d.toNat=c.toNat*256+d.toNat:=by
  have:=Nat.two_pow_add_eq_or_of_lt (i:=8) (b:=d.toNat) (by omega) c.toNat
  rw [Nat.mul_comm];exact this.symm
 have o2:(b.toNat*65536) ||| (c.toNat*256+d.toNat)=b.toNat*65536+(c.toNat*256+d.toNat):=by
  have:=Nat.two_pow_add_eq_or_of_lt (i:=16) (b:=c.toNat*256+d.toNat) (by omega) b.toNat
  rw [Nat.mul_comm b.toNat];exact this.symm
 have o1:(a.toNat*16777216) ||| (b.toNat*65536+(c.toNat*256+d.toNat))=a.toNat*16777216+(b.toNat*65536+(c.toNat*256+d.toNat)):=by
  have:=Nat.two_pow_add_eq_or_of_lt (i:=24) (b:=b.toNat*65536+(c.toNat*256+d.toNat)) (by omega) a.toNat
  rw [Nat.mul_comm a.toNat];exact this.symm
 rw [Nat.or_assoc,Nat.or_assoc,o3,o2,o1]
 have q1:iadd (n32 (u32 ((a.toNat*16777216:Nat):Int))) (n32 (u32 ((b.toNat*65536:Nat):Int)))=((a.toNat*16777216+b.toNat*65536:Nat):Int):=by
  rw [kL (by omega),kL (by omega)];show (_:Int)+_=_;omega
 rw [q1]
 have q2:iadd (n32 (u32 ((a.toNat*16777216+b.toNat*65536:Nat):Int))) (n32 (u32 ((c.toNat*256:Nat):Int)))=((a.toNat*16777216+b.toNat*65536+c.toNat*256:Nat):Int):=by
  rw [kL (by omega),kL (by omega)];show (_:Int)+_=_;omega
 rw [q2]
 have q3:iadd (n32 (u32 ((a.toNat*16777216+b.toNat*65536+c.toNat*256:Nat):Int))) (n32 (u32 (n8 d)))=((a.toNat*16777216+b.toNat*65536+c.toNat*256+d.toNat:Nat):Int):=by
  rw [kL (by omega),e1];show (_:Int)+_=_;omega
 rw [q3,qf1 (by omega)];omega
def mixW (m2 m7 m15 m16:UInt32):UInt32 :=
 u32 (iadd (n32 (u32 (iadd (n32 (u32 (iadd (n32 (u32 (xorI .u32 (n32 (u32 (xorI .u32 (n32 (tn m2 (u32 17))) (n32 (tn m2 (u32 19)))))) (n32 (u32 (shrI .u32 (n32 m2) (n64 (u64 10)))))))) (n32 m7)))) (n32 (u32 (xorI .u32 (n32 (u32 (xorI .u32 (n32 (tn m15 (u32 7))) (n32 (tn m15 (u32 18)))))) (n32 (u32 (shrI .u32 (n32 m15) (n64 (u64 3))))))))))) (n32 m16))
def q8 (b:BB) (i:Nat):UInt8:=b.getD i 0
def q32 (m:List UInt32) (i:Nat):UInt32:=m.getD i 0
def sch (b:BB) (at':Nat):Nat→List UInt32
 | 0=>List.replicate 64 0
 | t+1=>(sch b at' t).set t (if t < 16 then qJk (q8 b (at'+4*t)) (q8 b (at'+4*t+1)) (q8 b (at'+4*t+2)) (q8 b (at'+4*t+3))
   else mixW (q32 (sch b at' t) (t - 2)) (q32 (sch b at' t) (t - 7)) (q32 (sch b at' t) (t - 15)) (q32 (sch b at' t) (t - 16)))
theorem qcV (b:BB) (at':Nat):∀ t,(sch b at' t).length=64
 | 0=>by simp [sch]
 | t+1=>by rw [sch,List.length_set];exact qcV b at' t
theorem qy4 {b c:BB} {x y:Nat} (h:∀ i,i < 64→q8 b (x+i)=q8 c (y+i)):∀ t,sch b x t=sch c y t
 | 0=>rfl
 | t+1=>by
  rw [sch,sch,qy4 h t]
  by_cases ht:t < 16
  ·rw [if_pos ht,if_pos ht,h (4*t) (by omega),Nat.add_assoc x,Nat.add_assoc x,Nat.add_assoc x,h (4*t+1) (by omega),h (4*t+2) (by omega),h (4*t+3) (by omega)];rfl
  ·rw [if_neg ht,if_neg ht]
theorem i64n {n:Nat} {a:Int} (h:a=(n:Int)) (hn:n≤9223372036854775807):i64 a=(n:Int):=by rw [h];exact jA (by omega) (by omega)
theorem qqG (b:BB) (hb:b.length=64):qhW (b,())=some (sch b 0 64,()):=by
 unfold qhW
 generalize hf:(fun (x_1:Int×List UInt32×Unit)=>_)=f
 have step:∀ t:Nat,t < 64→f ((t:Int),sch b 0 t,())=some (.nx (((t+1:Nat):Int),sch b 0 (t+1),())):=by
  intro t ht
  subst hf
  have hi:i64 (iadd (t:Int) 1)=((t+1:Nat):Int):=i64n (by show (t:Int)+1=_;omega) (by omega)
  refine (qE (by simp only [go_sem,Int.reduceToNat];omega)).trans ?_
  by_cases h16:t < 16
  ·have e0:i64 (imul 4 (t:Int))=((4*t:Nat):Int):=i64n (by show 4*(t:Int)=_;omega) (by omega)
   have e1:i64 (iadd (i64 (imul 4 (t:Int))) 1)=((4*t+1:Nat):Int):=by rw [e0];exact i64n (by show ((4*t:Nat):Int)+1=_;omega) (by omega)
   have e2:i64 (iadd (i64 (imul 4 (t:Int))) 2)=((4*t+2:Nat):Int):=by rw [e0];exact i64n (by show ((4*t:Nat):Int)+2=_;omega) (by omega)
   have e3:i64 (iadd (i64 (imul 4 (t:Int))) 3)=((4*t+3:Nat):Int):=by rw [e0];exact i64n (by show ((4*t:Nat):Int)+3=_;omega) (by omega)
   refine (qE (by simp only [go_sem,Int.reduceToNat];omega)).trans ?_
   dsimp only
   rw [e1,e2,e3,e0,hi]
   refine (qH (by simp only [go_sem,Int.reduceToNat];omega)).trans ((qH (by simp only [go_sem,Int.reduceToNat];omega)).trans ((qH (by simp only [go_sem,Int.reduceToNat];omega)).trans ((qH (by simp only [go_sem,Int.reduceToNat];omega)).trans ((qH (by simp only [go_sem,Int.reduceToNat];omega)).trans ?_))))
   have hw:=qJj (q8 b (4*t)) (q8 b (4*t+1)) (q8 b (4*t+2)) (q8 b (4*t+3))
   rw [sch,if_pos h16,Nat.zero_add,← hw]
   rfl
  ·have e15:i64 (isub (t:Int) 15)=((t - 15:Nat):Int):=i64n (by show (t:Int) - 15=_;omega) (by omega)
   have e2:i64 (isub (t:Int) 2)=((t - 2:Nat):Int):=i64n (by show (t:Int) - 2=_;omega) (by omega)
   have e7:i64 (isub (t:Int) 7)=((t - 7:Nat):Int):=i64n (by show (t:Int) - 7=_;omega) (by omega)
   have e16:i64 (isub (t:Int) 16)=((t - 16:Nat):Int):=i64n (by show (t:Int) - 16=_;omega) (by omega)
   refine (qB (by simp only [go_sem,Int.reduceToNat];omega)).trans ?_
   dsimp only
   rw [e15,e2,e7,e16,hi]
   refine (qH (by simp only [go_sem,Int.reduceToNat];omega)).trans ?_
   refine (qH (by simp only [go_sem,Int.reduceToNat];omega)).trans ?_
   rw [r7]
   refine (qG rfl).trans ?_
   rw [r18]
   refine (qG rfl).trans ?_
   rw [r17]
   refine (qG rfl).trans ?_
   rw [r19]
   refine (qG rfl).trans ?_
   refine (qH (by simp only [go_sem,Int.reduceToNat];omega)).trans ?_
   refine (qH (by simp only [go_sem,Int.reduceToNat];omega)).trans ?_
   refine (qH (by simp only [go_sem,Int.reduceToNat];omega)).trans ?_
   rw [sch,if_neg h16]
   rfl
 have hend:∀ m,f (((64:Nat):Int),m,())=some (.ex 0 (((64:Nat):Int),m,())):=by subst hf;intro m;exact qB rfl
 have hloop:loop f (((0:Nat):Int),sch b 0 0,())=some (.ex 0 (((64:Nat):Int),sch b 0 64,())) :=
  (qM (f:=f) (fun t=>((t:Int),sch b 0 t,())) 64 step 0 (Nat.zero_le _)).trans (qT (hend _))
 generalize hs:sch b 0 64=m at hloop
 refine (qY (show loop f _=_ from hloop)).trans ?_
 rfl
abbrev R8:=UInt32×UInt32×UInt32×UInt32×UInt32×UInt32×UInt32×UInt32
def t1D (k m h g f e:UInt32):UInt32 :=
 u32 (iadd (n32 (u32 (iadd (n32 (u32 (iadd (n32 (u32 (iadd (n32 h) (n32 (u32 (xorI .u32 (n32 (u32 (xorI .u32 (n32 (tn e (u32 6))) (n32 (tn e (u32 11)))))) (n32 (tn e (u32 25))))))))) (n32 (u32 (xorI .u32 (n32 (u32 (andI .u32 (n32 e) (n32 f)))) (n32 (u32 (andI .u32 (n32 (u32 (xorI .u32 4294967295 (n32 e)))) (n32 g)))))))))) (n32 k)))) (n32 m))
def t2D (c b a:UInt32):UInt32 :=
 u32 (iadd (n32 (u32 (xorI .u32 (n32 (u32 (xorI .u32 (n32 (tn a (u32 2))) (n32 (tn a (u32 13)))))) (n32 (tn a (u32 22)))))) (n32 (u32 (xorI .u32 (n32 (u32 (xorI .u32 (n32 (u32 (andI .u32 (n32 a) (n32 b)))) (n32 (u32 (andI .u32 (n32 a) (n32 c))))))) (n32 (u32 (andI .u32 (n32 b) (n32 c))))))))
def nxt (k m:UInt32) (s:R8):R8 :=
 (s.2.1,s.2.2.1,s.2.2.2.1,u32 (iadd (n32 s.2.2.2.2.1) (n32 (t1D k m s.1 s.2.1 s.2.2.1 s.2.2.2.1))),s.2.2.2.2.2.1,s.2.2.2.2.2.2.1,s.2.2.2.2.2.2.2,
  u32 (iadd (n32 (t1D k m s.1 s.2.1 s.2.2.1 s.2.2.2.1)) (n32 (t2D s.2.2.2.2.2.1 s.2.2.2.2.2.2.1 s.2.2.2.2.2.2.2))))
def rounds (ms:List UInt32) (s:R8):Nat→R8
 | 0=>s
 | t+1=>nxt (q32 qfZ t) (q32 ms t) (rounds ms s t)
def r8L (s:R8):List UInt32:=[s.2.2.2.2.2.2.2,s.2.2.2.2.2.2.1,s.2.2.2.2.2.1,s.2.2.2.2.1,s.2.2.2.1,s.2.2.1,s.2.1,s.1]
def addL (w:List UInt32) (s:R8):List UInt32 :=
  [u32 (iadd (n32 (q32 w 0)) (n32 s.2.2.2.2.2.2.2)),u32 (iadd (n32 (q32 w 1)) (n32 s.2.2.2.2.2.2.1)),u32 (iadd (n32 (q32 w 2)) (n32 s.2.2.2.2.2.1)),u32 (iadd (n32 (q32 w 3)) (n32 s.2.2.2.2.1)),
   u32 (iadd (n32 (q32 w 4)) (n32 s.2.2.2.1)),u32 (iadd (n32 (q32 w 5)) (n32 s.2.2.1)),u32 (iadd (n32 (q32 w 6)) (n32 s.2.1)),u32 (iadd (n32 (q32 w 7)) (n32 s.1))]
def ofL (w:List UInt32):R8:=(q32 w 7,q32 w 6,q32 w 5,q32 w 4,q32 w 3,q32 w 2,q32 w 1,q32 w 0)
def qs1 (w:List UInt32) (b:BB) (at':Nat):List UInt32:=addL w (rounds (sch b at' 64) (ofL w) 64)
theorem eight {α:Type} {w:List α} (h:w.length=8):∃ a b c d e f g i,w=[a,b,c,d,e,f,g,i]:=by
 match w,h with
 | [a,b,c,d,e,f,g,i],_=>exact ⟨a,b,c,d,e,f,g,i,rfl⟩
theorem qjR {b c:BB} {x y:Nat} (h:∀ i,i < 64→q8 b (x+i)=q8 c (y+i)) (w:List UInt32):qs1 w b x=qs1 w c y:=by unfold qs1;rw [qy4 h]
theorem qi5 (w:List UInt32) (hw:w.length=8) (b:BB) (hb:b.length=64):qf4 (w,b,())=some (qs1 w b 0,0,()):=by
 unfold qf4
 refine (qB (by simp only [go_sem,Int.reduceToNat];omega)).trans ?_
 dsimp only
 rw [qqG b hb]
 have hm:=qcV b 0 64
 unfold qs1
 generalize sch b 0 64=m at hm
 refine (qG rfl).trans ?_
 obtain ⟨w0,w1,w2,w3,w4,w5,w6,w7,rfl⟩:=eight hw
 generalize hf:(fun (x:Int×List UInt32×Unit)=>(_:Option (LS (Int×List UInt32×Unit) (List UInt32×Int×Unit))))=f
 obtain ⟨s,hs⟩:∃ s,s=ofL [w0,w1,w2,w3,w4,w5,w6,w7]:=⟨_,rfl⟩
 have step:∀ t:Nat,t < 64→f ((t:Int),r8L (rounds m s t),())=some (.nx (((t+1:Nat):Int),r8L (rounds m s (t+1)),())):=by
  intro t ht
  subst hf
  have hi:i64 (iadd (t:Int) 1)=((t+1:Nat):Int):=i64n (by show (t:Int)+1=_;omega) (by omega)
  rw [show rounds m s (t+1)=nxt (q32 qfZ t) (q32 m t) (rounds m s t) from rfl]
  generalize rounds m s t=r
  obtain ⟨h,g,f,e,d,c,b,a⟩:=r
  refine (qE (by simp only [go_sem,Int.reduceToNat];omega)).trans ?_
  dsimp only [r8L]
  rw [hi]
  refine (qH (by simp only [go_sem,Int.reduceToNat];omega)).trans ?_
  refine (qH rfl).trans ?_
  refine (qH rfl).trans ?_
  rw [show nth [a,b,c,d,e,f,g,h] (nat 4) (u32 0)=e from rfl,r6]
  refine (qG rfl).trans ?_
  rw [r11]
  refine (qG rfl).trans ?_
  rw [r25]
  refine (qG rfl).trans ?_
  rw [show nth [a,b,c,d,e,f,g,h] (nat 0) (u32 0)=a from rfl,r2]
  refine (qG rfl).trans ?_
  rw [r3]
  refine (qG rfl).trans ?_
  rw [r4]
  refine (qG rfl).trans ?_
  refine (qH rfl).trans ?_
  refine (qH rfl).trans ?_
  refine (qH rfl).trans ?_
  refine (qH (by simp only [go_sem,Int.reduceToNat];omega)).trans ?_
  refine (qH rfl).trans ?_
  refine (qH rfl).trans ?_
  refine (qH rfl).trans ?_
  refine (qH rfl).trans ?_
  refine (qH rfl).trans ?_
  refine (qH rfl).trans ?_
  refine (qH rfl).trans ?_
  refine (qH rfl).trans ?_
  refine (qH rfl).trans ?_
  rfl
 have hend:∀ v,f (((64:Nat):Int),v,())=some (.ex 0 (((64:Nat):Int),v,())):=by subst hf;intro v;exact qB rfl
 have hloop:loop f (((0:Nat):Int),r8L (rounds m s 0),())=some (.ex 0 (((64:Nat):Int),r8L (rounds m s 64),())) :=
  (qM (f:=f) (fun t=>((t:Int),r8L (rounds m s t),())) 64 step 0 (Nat.zero_le _)).trans (qT (hend _))
 have h0:r8L (rounds m s 0)=[w0,w1,w2,w3,w4,w5,w6,w7]:=by rw [hs];rfl
 rw [h0] at hloop
 rw [← hs]
 generalize rounds m s 64=r at hloop
 obtain ⟨h,g,f',e,d,c,b',a⟩:=r
 refine (qY (show loop f (0,[w0,w1,w2,w3,w4,w5,w6,w7],())=_ from hloop)).trans ?_
 refine (qH g62).trans ?_
 refine (qY (qgW (r := .ex 2 (((8:Nat):Int),addL [w0,w1,w2,w3,w4,w5,w6,w7] (h,g,f',e,d,c,b',a),())) 9 rfl)).trans ?_
 rfl
theorem qgM (w:List UInt32) (hw:w.length=8) (b:BB) (n:Nat) (hb:n+64≤b.length) (hl:b.length≤4611686018427387904):qc6 (w,b,(n:Int),qfZ,())=some (qs1 w b n,()):=by
 unfold qc6
 refine (qH (by decide)).trans ?_
 generalize hf:(fun (x_1:Int×List UInt32×Unit)=>(_:Option (LS (Int×List UInt32×Unit) (List UInt32×Unit))))=f
 have step:∀ t:Nat,t < 16→f ((t:Int),sch b n t,())=some (.nx (((t+1:Nat):Int),sch b n (t+1),())):=by
  intro t ht
  subst hf
  have hi:i64 (iadd (t:Int) 1)=((t+1:Nat):Int):=i64n (by show (t:Int)+1=_;omega) (by omega)
  have hm:=qcV b n t
  have e4:i64 (imul 4 (t:Int))=((4*t:Nat):Int):=i64n (by show 4*(t:Int)=_;omega) (by omega)
  have e0:i64 (iadd (n:Int) (i64 (imul 4 (t:Int))))=((n+4*t:Nat):Int):=by rw [e4];exact i64n (by show (n:Int)+((4*t:Nat):Int)=_;omega) (by omega)
  have e1:i64 (iadd (i64 (iadd (n:Int) (i64 (imul 4 (t:Int))))) 1)=((n+4*t+1:Nat):Int):=by rw [e0];exact i64n (by show ((n+4*t:Nat):Int)+1=_;omega) (by omega)
  have e2:i64 (iadd (i64 (iadd (n:Int) (i64 (imul 4 (t:Int))))) 2)=((n+4*t+2:Nat):Int):=by rw [e0];exact i64n (by show ((n+4*t:Nat):Int)+2=_;omega) (by omega)
  have e3:i64 (iadd (i64 (iadd (n:Int) (i64 (imul 4 (t:Int))))) 3)=((n+4*t+3:Nat):Int):=by rw [e0];exact i64n (by show ((n+4*t:Nat):Int)+3=_;omega) (by omega)
  refine (qE (by simp only [go_sem,Int.reduceToNat];omega)).trans ?_
  dsimp only
  rw [e1,e2,e3,e0,hi]
  refine (qH (by simp only [go_sem,Int.reduceToNat];omega)).trans ?_
  refine (qH (by simp only [go_sem,Int.reduceToNat];omega)).trans ?_
  refine (qH (by simp only [go_sem,Int.reduceToNat];omega)).trans ?_
  refine (qH (by simp only [go_sem,Int.reduceToNat];omega)).trans ?_
  refine (qH (by simp only [go_sem,Int.reduceToNat];omega)).trans ?_
  rw [sch,if_pos ht]
  rfl
 have hend:∀ v,f (((16:Nat):Int),v,())=some (.ex 0 (((16:Nat):Int),v,())):=by subst hf;intro v;exact qB rfl
 have hloop:loop f (((0:Nat):Int),sch b n 0,())=some (.ex 0 (((16:Nat):Int),sch b n 16,())) :=
  (qM (f:=f) (fun t=>((t:Int),sch b n t,())) 16 step 0 (Nat.zero_le _)).trans (qT (hend _))
 refine (qY (show loop f (0,rep (nat 64) (u32 0),())=_ from hloop)).trans ?_
 clear hloop hend step
 refine (qH g62).trans ?_
 dsimp only
 clear hf f
 generalize hf:(fun (x:Int×List UInt32×Unit)=>(_:Option (LS (Int×List UInt32×Unit) (List UInt32×Unit))))=f
 have step:∀ t:Nat,16≤t→t < 64→f ((t:Int),sch b n t,())=some (.nx (((t+1:Nat):Int),sch b n (t+1),())):=by
  intro t h16 ht
  subst hf
  have hi:i64 (iadd (t:Int) 1)=((t+1:Nat):Int):=i64n (by show (t:Int)+1=_;omega) (by omega)
  have hm:=qcV b n t
  have e15:i64 (isub (t:Int) 15)=((t - 15:Nat):Int):=i64n (by show (t:Int) - 15=_;omega) (by omega)
  have e2:i64 (isub (t:Int) 2)=((t - 2:Nat):Int):=i64n (by show (t:Int) - 2=_;omega) (by omega)
  have e7:i64 (isub (t:Int) 7)=((t - 7:Nat):Int):=i64n (by show (t:Int) - 7=_;omega) (by omega)
  have e16:i64 (isub (t:Int) 16)=((t - 16:Nat):Int):=i64n (by show (t:Int) - 16=_;omega) (by omega)
  refine (qE (by simp only [go_sem,Int.reduceToNat];omega)).trans ?_
  dsimp only
  rw [e15,e2,e7,e16,hi]
  refine (qH (by simp only [go_sem,Int.reduceToNat];omega)).trans ?_
  refine (qH (by simp only [go_sem,Int.reduceToNat];omega)).trans ?_
  rw [qb3]
  refine (qG rfl).trans ?_
  rw [qb3]
  refine (qG rfl).trans ?_
  rw [qb3]
  refine (qG rfl).trans ?_
  rw [qb3]
  refine (qG rfl).trans ?_
  refine (qH (by simp only [go_sem,Int.reduceToNat];omega)).trans ?_
  refine (qH (by simp only [go_sem,Int.reduceToNat];omega)).trans ?_
  refine (qH (by simp only [go_sem,Int.reduceToNat];omega)).trans ?_
  rw [sch,if_neg (by omega)]
  rfl
 have hend:∀ v,f (((64:Nat):Int),v,())=some (.ex 2 (((64:Nat):Int),v,())):=by subst hf;intro v;exact qB rfl
 have hloop:loop f (((16:Nat):Int),sch b n 16,())=some (.ex 2 (((64:Nat):Int),sch b n 64,())) :=
  (qM (f:=f) (fun t=>(((16+t:Nat):Int),sch b n (16+t),())) 48 (fun t ht=>step (16+t) (by omega) (by omega)) 0 (Nat.zero_le _)).trans (qT (hend _))
 refine (qY (show loop f (16,sch b n 16,())=_ from hloop)).trans ?_
 clear hloop hend step hf f
 refine (qH g62).trans ?_
 have hm:=qcV b n 64
 unfold qs1
 generalize sch b n 64=m at hm
 obtain ⟨w0,w1,w2,w3,w4,w5,w6,w7,rfl⟩:=eight hw
 refine (qH rfl).trans ((qH rfl).trans ((qH rfl).trans ((qH rfl).trans ((qH rfl).trans ((qH rfl).trans ((qH rfl).trans ((qH rfl).trans ?_)))))))
 dsimp only
 generalize hf:(fun (x_1:UInt32×UInt32×UInt32×UInt32×UInt32×UInt32×UInt32×UInt32×Int×Unit)=>(_:Option (LS (UInt32×UInt32×UInt32×UInt32×UInt32×UInt32×UInt32×UInt32×Int×Unit) (List UInt32×Unit))))=f
 obtain ⟨s,hs⟩:∃ s,s=ofL [w0,w1,w2,w3,w4,w5,w6,w7]:=⟨_,rfl⟩
 let st:R8→Nat→UInt32×UInt32×UInt32×UInt32×UInt32×UInt32×UInt32×UInt32×Int×Unit:=fun r t=>(r.1,r.2.1,r.2.2.1,r.2.2.2.1,r.2.2.2.2.1,r.2.2.2.2.2.1,r.2.2.2.2.2.2.1,r.2.2.2.2.2.2.2,(t:Int),())
 have step:∀ t:Nat,t < 64→f (st (rounds m s t) t)=some (.nx (st (rounds m s (t+1)) (t+1))):=by
  intro t ht
  subst hf
  have hi:i64 (iadd (t:Int) 1)=((t+1:Nat):Int):=i64n (by show (t:Int)+1=_;omega) (by omega)
  have hk:(qfZ:List UInt32).length=64:=rfl
  rw [show rounds m s (t+1)=nxt (q32 qfZ t) (q32 m t) (rounds m s t) from rfl]
  generalize rounds m s t=r
  obtain ⟨h,g,f,e,d,c,b,a⟩:=r
  dsimp only [st]
  refine (qE (by simp only [go_sem,Int.reduceToNat];omega)).trans ?_
  rw [hi,qb3]
  refine (qG rfl).trans ?_
  rw [qb3]
  refine (qG rfl).trans ?_
  rw [qb3]
  refine (qG rfl).trans ?_
  refine (qH (by simp only [go_sem,Int.reduceToNat];omega)).trans ?_
  refine (qH (by simp only [go_sem,Int.reduceToNat];omega)).trans ?_
  rw [qb3]
  refine (qG rfl).trans ?_
  rw [qb3]
  refine (qG rfl).trans ?_
  rw [qb3]
  refine (qG rfl).trans ?_
  rfl
 have hend:∀ r,f (st r 64)=some (.ex 4 (st r 64)):=by subst hf;intro v;exact qB rfl
 have hloop:loop f (st (rounds m s 0) 0)=some (.ex 4 (st (rounds m s 64) 64)) :=
  (qM (f:=f) (fun t=>st (rounds m s t) t) 64 step 0 (Nat.zero_le _)).trans (qT (hend _))
 rw [show rounds m s 0=s from rfl] at hloop
 rw [← hs]
 generalize rounds m s 64=r at hloop
 obtain ⟨h,g,f',e,d,c,b',a⟩:=r
 rw [hs] at hloop
 refine (qY (show loop f (w7,w6,w5,w4,w3,w2,w1,w0,0,())=_ from hloop)).trans ?_
 refine (qH g62).trans ?_
 refine (qH rfl).trans ((qH rfl).trans ((qH rfl).trans ((qH rfl).trans ((qH rfl).trans ((qH rfl).trans ((qH rfl).trans ((qH rfl).trans ?_)))))))
 rfl
def eat (w:List UInt32) (l:BB):Nat→List UInt32
 | 0=>w
 | i+1=>qs1 (eat w l i) l (64*i)
theorem yR {w:List UInt32} (hw:w.length=8) (l:BB):∀ i,(eat w l i).length=8
 | 0=>hw
 | _+1=>rfl
theorem qFQ (l:BB) (k i:Nat):q8 (l.drop k) i=q8 l (k+i):=by
 unfold q8;rw [List.getD_eq_getElem?_getD,List.getElem?_drop,← List.getD_eq_getElem?_getD]
theorem qJD (l:BB) {k i:Nat} (h:i < k):q8 (l.take k) i=q8 l i:=by
 unfold q8;rw [List.getD_eq_getElem?_getD,List.getElem?_take_of_lt h,← List.getD_eq_getElem?_getD]
theorem qyT (w:List UInt32) (l:BB) (k:Nat):qs1 w ((l.drop k).take 64) 0=qs1 w l k :=
 qjR (fun i hi=>by rw [Nat.zero_add,qJD _ hi,qFQ]) w
theorem qAt {l m:BB} (w:List UInt32):∀ {i},(∀ j,j < 64*i→q8 l j=q8 m j)→eat w l i=eat w m i
 | 0,_=>rfl
 | i+1,h=>by
  rw [eat,eat,qAt w fun j hj=>h j (by omega)]
  exact qjR (fun j hj=>h _ (by omega)) _
theorem qG1 (w:List UInt32) (l:BB) (i:Nat):∀ j,eat w l (i+j)=eat (eat w l i) (l.drop (64*i)) j
 | 0=>rfl
 | j+1=>by
  rw [← Nat.add_assoc,eat,eat,qG1 w l i j]
  exact qjR (fun k _=>by rw [qFQ];congr 1;omega) _
abbrev HT:=List UInt32×Int×BB×Unit
def putD (h:HT) (b:BB):HT :=
 (eat h.1 (h.2.2.1++b) ((h.2.2.1++b).length / 64),h.2.1+(b.length:Int),(h.2.2.1++b).drop (64*((h.2.2.1++b).length / 64)),())
theorem cpy2 (r b:BB):cpy (cpy (rep (r.length+b.length) (u8 0)) 0 (ln (rep (r.length+b.length) (u8 0))) r) r.length (r.length+b.length - r.length) b=r++b:=by
 unfold cpy rep ln
 rw [List.length_replicate,List.take_zero,List.nil_append,List.take_of_length_le (show r.length≤r.length+b.length by omega),Nat.zero_add,Nat.min_eq_right (show r.length≤r.length+b.length by omega),List.drop_replicate,
  List.take_left,Nat.add_sub_cancel_left,List.take_of_length_le (Nat.le_refl _),Nat.min_self,List.drop_of_length_le (by simp),List.append_nil]
theorem qGx:qiI ()=some (qfZ,()):=rfl
theorem qyZ (H:List UInt32) (hH:H.length=8) (N:Int) (r b:BB) (hN:0≤N) (hb:N+(b.length:Int)≤1125899906842624) (hr:r.length≤64) (hm:b.length≤1000000000):qd4 ((H,N,r,()),b,())=some (putD (H,N,r,()) b,()):=by
 unfold qd4
 have e0:i64 (isub 1125899906842624 N)=1125899906842624 - N:=jA (by show -9223372036854775808≤(1125899906842624:Int) - N;omega) (by show (1125899906842624:Int) - N≤9223372036854775807;omega)
 dsimp only
 rw [e0]
 refine (qB (by simp only [go_sem,Int.reduceToNat];omega)).trans ?_
 have e1:i64 (iadd (len r) (len b))=((r.length+b.length:Nat):Int):=i64n (by show (r.length:Int)+(b.length:Int)=_;omega) (by omega)
 have e2:i64 (iadd N (len b))=N+(b.length:Int):=jA (by show -9223372036854775808≤N+(b.length:Int);omega) (by show N+(b.length:Int)≤9223372036854775807;omega)
 rw [e1,e2]
 refine (qH (by simp only [go_sem,Int.reduceToNat];omega)).trans ?_
 have hlen:len (cpy (rep (nat ((r.length+b.length:Nat):Int)) (u8 0)) 0 (ln (rep (nat ((r.length+b.length:Nat):Int)) (u8 0))) r)=((r.length+b.length:Nat):Int):=by
  unfold len cpy rep ln nat
  simp only [Int.toNat_natCast,List.length_replicate,List.take_zero,List.nil_append,List.length_append,List.length_take,List.length_drop]
  omega
 rw [hlen]
 refine (qH (by simp only [go_sem,Int.reduceToNat];omega)).trans ?_
 rw [show nat (len r)=r.length from qU,show nat ((r.length+b.length:Nat):Int)=r.length+b.length from qU,show nsub (r.length+b.length) r.length=r.length+b.length - r.length from rfl,cpy2]
 generalize hf:(fun (x:BB×(List UInt32×Int×BB×Unit)×Unit)=>(_:Option (LS (BB×(List UInt32×Int×BB×Unit)×Unit) ((List UInt32×Int×BB×Unit)×Unit))))=f
 generalize hl:r++b=l
 have hll:l.length=r.length+b.length:=by rw [← hl,List.length_append]
 have step:∀ i,i < l.length / 64→f (l.drop (64*i),(eat H l i,N+(b.length:Int),r,()),())=some (.nx (l.drop (64*(i+1)),(eat H l (i+1),N+(b.length:Int),r,()),())):=by
  intro i hi
  subst hf
  have hd:(l.drop (64*i)).length=l.length - 64*i:=List.length_drop
  have hlen:len (l.drop (64*i))=((l.length - 64*i:Nat):Int):=by unfold len;rw [hd]
  dsimp only
  rw [hlen]
  refine (qE (by simp only [go_sem,Int.reduceToNat];omega)).trans ?_
  refine (qH (by simp only [go_sem,Int.reduceToNat];omega)).trans ?_
  rw [show cut (l.drop (64*i)) (nat 0) (nsub (nat 64) (nat 0))=(l.drop (64*i)).take 64 from rfl,qi5 _ (yR hH l i) _ (by rw [List.length_take,hd];omega)]
  refine (qG rfl).trans ?_
  refine (qH (by simp only [go_sem,Int.reduceToNat];omega)).trans ?_
  rw [qyT]
  have hc:cut (l.drop (64*i)) (nat 64) (nsub (nat ((l.length - 64*i:Nat):Int)) (nat 64))=l.drop (64*(i+1)):=by
   unfold cut
   rw [show nat 64=64 from rfl,qU,List.drop_drop,List.take_of_length_le (by rw [List.length_drop];show _≤l.length - 64*i - 64;omega)]
   congr 1
  rw [hc];rfl
 have hend:f (l.drop (64*(l.length / 64)),(eat H l (l.length / 64),N+(b.length:Int),r,()),())=some (.ex 0 (l.drop (64*(l.length / 64)),(eat H l (l.length / 64),N+(b.length:Int),r,()),())):=by
  subst hf
  have hlen:len (l.drop (64*(l.length / 64)))=((l.length - 64*(l.length / 64):Nat):Int):=by unfold len;rw [List.length_drop]
  dsimp only
  rw [hlen]
  exact qB (by simp only [go_sem,Int.reduceToNat];omega)
 have hloop:=(qM (f:=f) (fun i=>(l.drop (64*i),(eat H l i,N+(b.length:Int),r,()),())) (l.length / 64) step 0 (Nat.zero_le _)).trans (qT hend)
 refine (qY (show loop f (l,(H,N+(b.length:Int),r,()),())=_ from hloop)).trans ?_
 refine (qH g62).trans ?_
 subst hl;rfl
theorem qtK (H:List UInt32) (hH:H.length=8) (N:Int) (r b:BB) (hN:0≤N) (hb:N+(b.length:Int)≤1125899906842624) (hr:r.length≤64) (hm:b.length≤1000000000):qgO ((H,N,r,()),b,())=some (putD (H,N,r,()) b,()):=by
 unfold qgO
 have e0:i64 (isub 1125899906842624 N)=1125899906842624 - N:=jA (by show -9223372036854775808≤(1125899906842624:Int) - N;omega) (by show (1125899906842624:Int) - N≤9223372036854775807;omega)
 dsimp only
 rw [e0]
 refine (qB (by simp only [go_sem,Int.reduceToNat];omega)).trans ?_
 refine (qH (by simp only [go_sem,Int.reduceToNat];omega)).trans ?_
 rw [show app (none' UInt8) r=r from rfl]
 refine (qH (by simp only [go_sem,Int.reduceToNat];omega)).trans ?_
 rw [qGx]
 refine (qG rfl).trans ?_
 generalize hf:(fun (x_1:Int×(List UInt32×Int×BB×Unit)×Unit)=>(_:Option (LS (Int×(List UInt32×Int×BB×Unit)×Unit) ((List UInt32×Int×BB×Unit)×Unit))))=f
 rw [show app r b=r++b from rfl] at hf ⊢
 generalize hl:r++b=l at hf ⊢
 have hll:l.length=r.length+b.length:=by rw [← hl,List.length_append]
 have step:∀ i:Nat,i < l.length / 64→f (((64*i:Nat):Int),(eat H l i,N,r,()),())=some (.nx (((64*(i+1):Nat):Int),(eat H l (i+1),N,r,()),())):=by
  intro i hi
  subst hf
  have e:i64 (isub (len l) ((64*i:Nat):Int))=((l.length - 64*i:Nat):Int):=i64n (by show (l.length:Int) - _=_;omega) (by omega)
  have e':i64 (iadd ((64*i:Nat):Int) 64)=((64*(i+1):Nat):Int):=i64n (by show ((64*i:Nat):Int)+64=_;omega) (by omega)
  dsimp only
  rw [e,e']
  refine (qE (by simp only [go_sem,Int.reduceToNat];omega)).trans ?_
  rw [qgM _ (yR hH l i) l (64*i) (by omega) (by omega)]
  rfl
 have hend:f (((64*(l.length / 64):Nat):Int),(eat H l (l.length / 64),N,r,()),())=some (.ex 0 (((64*(l.length / 64):Nat):Int),(eat H l (l.length / 64),N,r,()),())):=by
  subst hf
  have e:i64 (isub (len l) ((64*(l.length / 64):Nat):Int))=((l.length - 64*(l.length / 64):Nat):Int):=i64n (by show (l.length:Int) - _=_;omega) (by omega)
  dsimp only
  rw [e]
  exact qB (by simp only [go_sem,Int.reduceToNat];omega)
 have hloop:=(qM (f:=f) (fun i=>(((64*i:Nat):Int),(eat H l i,N,r,()),())) (l.length / 64) step 0 (Nat.zero_le _)).trans (qT hend)
 refine (qY (show loop f (0,(H,N,r,()),())=_ from hloop)).trans ?_
 refine (qH g62).trans ?_
 refine (qH (by simp only [go_sem,Int.reduceToNat];omega)).trans ?_
 have e2:i64 (iadd N (len b))=N+(b.length:Int):=jA (by show -9223372036854775808≤N+(b.length:Int);omega) (by show N+(b.length:Int)≤9223372036854775807;omega)
 have hc:cut l (nat ((64*(l.length / 64):Nat):Int)) (nsub (nat (len l)) (nat ((64*(l.length / 64):Nat):Int)))=l.drop (64*(l.length / 64)):=by
  unfold cut
  rw [qU,show nat (len l)=l.length from qU,List.take_of_length_le (by rw [List.length_drop];exact Nat.le_refl _)]
 dsimp only
 rw [e2,hc]
 subst hl;rfl
def zs (r:Nat):Nat:=(119 - r) % 64
def lenB (n:Int) (i:Nat):BB:=(List.range i).map fun j=>u8 (shrI .i64 (i64 (imul 8 n)) ((56 - 8*j:Nat):Int))
def padD (n:Int):BB:=[u8 128]++List.replicate (zs (n.toNat % 64)) (u8 0)++lenB n 8
def wb (x:UInt32):BB:=[u8 (n32 (u32 (shrI .u32 (n32 x) (n64 (u64 24))))),u8 (n32 (u32 (shrI .u32 (n32 x) (n64 (u64 16))))),u8 (n32 (u32 (shrI .u32 (n32 x) (n64 (u64 8))))),u8 (n32 x)]
theorem qyO {a b:Int} (h:a % 256=b % 256):u8 a=u8 b:=by
 show UInt8.ofNat (a % 2 ^ 8).toNat=UInt8.ofNat (b % 2 ^ 8).toNat
 rw [show a % 2 ^ 8=b % 2 ^ 8 from h]
theorem qKQ (x:UInt32):wb x=[u8 (n32 (u32 (idiv (n32 x) (n32 (u32 16777216))))),u8 (n32 (u32 (imod (n32 (u32 (idiv (n32 x) (n32 (u32 65536))))) (n32 (u32 256))))),u8 (n32 (u32 (imod (n32 (u32 (idiv (n32 x) (n32 (u32 256))))) (n32 (u32 256))))),u8 (n32 (u32 (imod (n32 x) (n32 (u32 256)))))]:=by
 have hx:=x.toNat_lt
 obtain ⟨v,hv⟩:∃ v,v=x.toNat:=⟨_,rfl⟩
 rw [← hv] at hx
 have e:n32 x=(v:Int):=by rw [hv];rfl
 have k1:n32 (u32 16777216)=16777216:=kL (by decide)
 have k2:n32 (u32 65536)=65536:=kL (by decide)
 have k3:n32 (u32 256)=256:=kL (by decide)
 have a1:shrI .u32 (v:Int) (n64 (u64 24))=((v / 16777216:Nat):Int):=by show Int.fdiv (v:Int) (2 ^ 24)=_;rw [Int.fdiv_eq_ediv_of_nonneg _ (by decide)];omega
 have a2:shrI .u32 (v:Int) (n64 (u64 16))=((v / 65536:Nat):Int):=by show Int.fdiv (v:Int) (2 ^ 16)=_;rw [Int.fdiv_eq_ediv_of_nonneg _ (by decide)];omega
 have a3:shrI .u32 (v:Int) (n64 (u64 8))=((v / 256:Nat):Int):=by show Int.fdiv (v:Int) (2 ^ 8)=_;rw [Int.fdiv_eq_ediv_of_nonneg _ (by decide)];omega
 have b1:idiv (v:Int) 16777216=((v / 16777216:Nat):Int):=by rw [g31 (by omega)];omega
 have b2:idiv (v:Int) 65536=((v / 65536:Nat):Int):=by rw [g31 (by omega)];omega
 have b3:idiv (v:Int) 256=((v / 256:Nat):Int):=by rw [g31 (by omega)];omega
 have c:∀ m:Nat,m < 4294967296→n32 (u32 (m:Int))=(m:Int):=fun m hm=>kL (by omega)
 have d:∀ m:Nat,imod (m:Int) 256=((m % 256:Nat):Int):=fun m=>by rw [g32 (by omega)];omega
 unfold wb
 rw [e,k1,k2,k3,a1,a2,a3,b1,b2,b3,c _ (by omega),c _ (by omega),c _ (by omega),d,d,d,c _ (by omega),c _ (by omega),c _ (by omega)]
 congr 1
 congr 1
 ·exact qyO (by omega)
 ·congr 1
  ·exact qyO (by omega)
  ·congr 1
   exact qyO (by omega)
def outW (w:List UInt32) (i:Nat):BB:=(List.range i).flatMap fun j=>wb (q32 w j)
theorem qeN (w:List UInt32):∀ i,(outW w i).length=4*i
 | 0=>rfl
 | i+1=>by unfold outW;rw [List.range_succ,List.flatMap_append,List.length_append];have:=qeN w i;unfold outW at this;rw [this];simp [wb];omega
theorem qzP (w:List UInt32) (i:Nat):outW w (i+1)=outW w i++wb (q32 w i):=by unfold outW;rw [List.range_succ,List.flatMap_append];simp
theorem qz3 (n:Int) (i:Nat):lenB n (i+1)=lenB n i++[u8 (shrI .i64 (i64 (imul 8 n)) ((56 - 8*i:Nat):Int))]:=by unfold lenB;rw [List.range_succ,List.map_append];rfl
theorem yN (n:Int) (i:Nat):(lenB n i).length=i:=by simp [lenB]
def sumD (h:HT):BB:=outW (eat h.1 (h.2.2.1++padD h.2.1) ((h.2.2.1++padD h.2.1).length / 64)) 8
theorem qv0 (l:BB) (k:Nat):l++List.replicate k (u8 0)++[u8 0]=l++List.replicate (k+1) (u8 0):=by rw [List.append_assoc,← List.replicate_succ']
theorem qyY (H:List UInt32) (hH:H.length=8) (N:Int) (r:BB) (hN:0≤N) (hN2:N≤1125899906842624) (hr:r.length=N.toNat % 64):qjT ((H,N,r,()),())=some (sumD (H,N,r,()),()):=by
 unfold qjT
 dsimp only
 have hz:rep (nat 0) (u8 0)=[]:=rfl
 rw [hz,show app ([]:BB) r=r from rfl,show app r [u8 128]=r++[u8 128] from rfl]
 refine (qH (by decide)).trans ?_
 refine (qH (by simp only [go_sem,Int.reduceToNat];omega)).trans ?_
 refine (qH (by simp only [go_sem,Int.reduceToNat];simp;omega)).trans ?_
 generalize hf:(fun (x:BB×Unit)=>(_:Option (LS (BB×Unit) (BB×Unit))))=f
 have hr64:r.length < 64:=by omega
 have hzs:zs (N.toNat % 64) < 64:=by unfold zs;omega
 have step:∀ i:Nat,i < zs (N.toNat % 64)→f (r++[u8 128]++List.replicate i (u8 0),())=some (.nx (r++[u8 128]++List.replicate (i+1) (u8 0),())):=by
  intro i hi
  subst hf
  have hl:(r++[u8 128]++List.replicate i (u8 0)).length=r.length+1+i:=by simp;omega
  have hne:¬ (((r++[u8 128]++List.replicate i (u8 0)).length:Int) % 64=56):=by rw [hl];unfold zs at hi;omega
  refine (qE (by simp (disch:=omega) only [go_sem,Int.reduceToNat];omega)).trans ?_
  refine (qH (by simp only [go_sem,Int.reduceToNat];simp;omega)).trans ?_
  show some (LS.nx (r++[u8 128]++List.replicate i (u8 0)++[u8 0],()))=_
  rw [qv0]
 have hend:f (r++[u8 128]++List.replicate (zs (N.toNat % 64)) (u8 0),())=some (.ex 0 (r++[u8 128]++List.replicate (zs (N.toNat % 64)) (u8 0),())):=by
  subst hf
  have hl:(r++[u8 128]++List.replicate (zs (N.toNat % 64)) (u8 0)).length=r.length+1+zs (N.toNat % 64):=by simp;omega
  have he:(((r++[u8 128]++List.replicate (zs (N.toNat % 64)) (u8 0)).length:Int) % 64=56):=by rw [hl];unfold zs;omega
  exact qB (by simp (disch:=omega) only [go_sem,Int.reduceToNat];omega)
 have hloop:=(qM (f:=f) (fun i=>(r++[u8 128]++List.replicate i (u8 0),())) (zs (N.toNat % 64)) step 0 (Nat.zero_le _)).trans (qT hend)
 rw [List.replicate_zero,List.append_nil] at hloop
 refine (qY hloop).trans ?_
 clear hloop hend step
 refine (qH g62).trans ?_
 clear hf f
 dsimp only
 generalize hL:r++[u8 128]++List.replicate (zs (N.toNat % 64)) (u8 0)=L
 have hLl:L.length=r.length+1+zs (N.toNat % 64):=by rw [← hL];simp;omega
 generalize hf:(fun (x_1:BB×Int×Unit)=>(_:Option (LS (BB×Int×Unit) (BB×Unit))))=f
 have step:∀ i:Nat,i < 8→f (L++lenB N i,56 - 8*(i:Int),())=some (.nx (L++lenB N (i+1),56 - 8*((i+1:Nat):Int),())):=by
  intro i hi
  subst hf
  have hl:(L++lenB N i).length=L.length+i:=by rw [List.length_append,yN]
  refine (qE (by simp only [go_sem,Int.reduceToNat];omega)).trans ?_
  refine (qH (by simp only [go_sem,Int.reduceToNat];omega)).trans ?_
  refine (qH (by simp only [go_sem,Int.reduceToNat];simp [yN];omega)).trans ?_
  dsimp only
  rw [show app (L++lenB N i) [u8 (shrI .i64 (i64 (imul 8 N)) (56 - 8*(i:Int)))]=L++lenB N (i+1) by rw [qz3,show ((56 - 8*i:Nat):Int)=56 - 8*(i:Int) by omega];exact List.append_assoc _ _ _,
   show i64 (isub (56 - 8*(i:Int)) 8)=56 - 8*((i+1:Nat):Int) by rw [jA (by show -9223372036854775808≤56 - 8*(i:Int) - 8;omega) (by show 56 - 8*(i:Int) - 8≤9223372036854775807;omega)];show 56 - 8*(i:Int) - 8=_;omega]
 have hend:f (L++lenB N 8,56 - 8*((8:Nat):Int),())=some (.ex 2 (L++lenB N 8,56 - 8*((8:Nat):Int),())):=by subst hf;exact qB (show le 0 (56 - 8*((8:Nat):Int))=false from rfl)
 have hloop:=(qM (f:=f) (fun i=>(L++lenB N i,56 - 8*(i:Int),())) 8 step 0 (Nat.zero_le _)).trans (qT hend)
 have h0:(L++lenB N 0,56 - 8*((0:Nat):Int),())=(L,56,()):=by simp [lenB]
 rw [h0] at hloop
 refine (qY hloop).trans ?_
 clear hloop hend step
 refine (qH g62).trans ?_
 clear hf f
 dsimp only
 have hT:L++lenB N 8=r++padD N:=by rw [← hL];unfold padD;simp
 rw [hT]
 have hTl:(r++padD N).length=r.length+1+zs (N.toNat % 64)+8:=by rw [← hT,List.length_append,yN,hLl]
 have hT64:(r++padD N).length % 64=0:=by rw [hTl];unfold zs;omega
 generalize hTT:r++padD N=T at hTl hT64
 generalize hf:(fun (x:BB×List UInt32×Unit)=>(_:Option (LS (BB×List UInt32×Unit) (BB×Unit))))=f
 have step:∀ i,i < T.length / 64→f (T.drop (64*i),eat H T i,())=some (.nx (T.drop (64*(i+1)),eat H T (i+1),())):=by
  intro i hi
  subst hf
  have hd:(T.drop (64*i)).length=T.length - 64*i:=List.length_drop
  have hlen:len (T.drop (64*i))=((T.length - 64*i:Nat):Int):=by unfold len;rw [hd]
  dsimp only
  rw [hlen]
  refine (qE (by simp only [go_sem,Int.reduceToNat];omega)).trans ?_
  refine (qH (by simp only [go_sem,Int.reduceToNat];omega)).trans ?_
  rw [show cut (T.drop (64*i)) (nat 0) (nsub (nat 64) (nat 0))=(T.drop (64*i)).take 64 from rfl,qi5 _ (yR hH T i) _ (by rw [List.length_take,hd];omega)]
  refine (qG rfl).trans ?_
  refine (qH (by simp only [go_sem,Int.reduceToNat];omega)).trans ?_
  rw [qyT]
  have hc:cut (T.drop (64*i)) (nat 64) (nsub (nat ((T.length - 64*i:Nat):Int)) (nat 64))=T.drop (64*(i+1)):=by
   unfold cut
   rw [show nat 64=64 from rfl,qU,List.drop_drop,List.take_of_length_le (by rw [List.length_drop];show _≤T.length - 64*i - 64;omega)]
   congr 1
  rw [hc];rfl
 have hend:f (T.drop (64*(T.length / 64)),eat H T (T.length / 64),())=some (.ex 4 (T.drop (64*(T.length / 64)),eat H T (T.length / 64),())):=by
  subst hf
  have hlen:len (T.drop (64*(T.length / 64)))=((T.length - 64*(T.length / 64):Nat):Int):=by unfold len;rw [List.length_drop]
  dsimp only
  rw [hlen]
  exact qB (by simp only [go_sem,Int.reduceToNat];omega)
 have hloop:=(qM (f:=f) (fun i=>(T.drop (64*i),eat H T i,())) (T.length / 64) step 0 (Nat.zero_le _)).trans (qT hend)
 refine (qY (show loop f (T,H,())=_ from hloop)).trans ?_
 clear hloop hend step
 refine (qH g62).trans ?_
 clear hf f
 refine (qH (by decide)).trans ?_
 dsimp only
 unfold sumD
 dsimp only
 rw [hTT]
 have hw:=yR hH T (T.length / 64)
 generalize eat H T (T.length / 64)=w at hw
 generalize hf:(fun (x:BB×Int×Unit)=>(_:Option (LS (BB×Int×Unit) (BB×Unit))))=f
 have step:∀ i:Nat,i < 8→f (outW w i,(i:Int),())=some (.nx (outW w (i+1),((i+1:Nat):Int),())):=by
  intro i hi
  subst hf
  have hl:=qeN w i
  have hi':i64 (iadd (i:Int) 1)=((i+1:Nat):Int):=i64n (by show (i:Int)+1=_;omega) (by omega)
  refine (qE (by simp only [go_sem,Int.reduceToNat];omega)).trans ?_
  refine (qH (by simp only [go_sem,Int.reduceToNat];omega)).trans ?_
  refine (qH (by simp only [go_sem,Int.reduceToNat];simp;omega)).trans ?_
  dsimp only
  rw [hi',qzP];rfl
 have hend:∀ v,f (v,((8:Nat):Int),())=some (.ex 6 (v,((8:Nat):Int),())):=by subst hf;intro v;exact qB rfl
 have hloop:=(qM (f:=f) (fun i=>(outW w i,(i:Int),())) 8 step 0 (Nat.zero_le _)).trans (qT (hend _))
 refine (qY (show loop f ([],0,())=_ from hloop)).trans ?_
 exact qH g62
theorem qgT {a:Int} (h:0≤a∧a < 18446744073709551616):n64 (u64 a)=a:=by
 show (((BitVec.ofNat 64 ((a % 2 ^ 64).toNat)).toNat:Nat):Int)=a
 rw [BitVec.toNat_ofNat];omega
theorem qtL (N:Int) (hN:0≤N) (hN2:N≤1125899906842624):qlD (N,())=some (padD N,()):=by
 unfold qlD
 dsimp only
 have hzs:zs (N.toNat % 64) < 64:=by unfold zs;omega
 generalize hf:(fun (x_1:BB×Unit)=>(_:Option (LS (BB×Unit) (BB×Unit))))=f
 have step:∀ i:Nat,i < zs (N.toNat % 64)→f ([u8 128]++List.replicate i (u8 0),())=some (.nx ([u8 128]++List.replicate (i+1) (u8 0),())):=by
  intro i hi
  subst hf
  have hl:([u8 128]++List.replicate i (u8 0)).length=1+i:=by simp;omega
  have e:i64 (iadd (i64 (iadd N (len ([u8 128]++List.replicate i (u8 0))))) 8)=N+((1+i:Nat):Int)+8:=by
   have e1:i64 (iadd N (len ([u8 128]++List.replicate i (u8 0))))=N+((1+i:Nat):Int):=by
    show i64 (N+(([u8 128]++List.replicate i (u8 0)).length:Int))=_
    rw [hl];exact jA (by omega) (by omega)
   rw [e1];exact jA (by show -9223372036854775808≤N+((1+i:Nat):Int)+8;omega) (by show N+((1+i:Nat):Int)+8≤9223372036854775807;omega)
  dsimp only
  rw [e]
  have hne:¬ ((N+((1+i:Nat):Int)+8) % 64=0):=by unfold zs at hi;omega
  refine (qE (by simp (disch:=omega) only [go_sem,Int.reduceToNat];omega)).trans ?_
  refine (qH (by simp only [go_sem,Int.reduceToNat];simp;omega)).trans ?_
  show some (LS.nx ([u8 128]++List.replicate i (u8 0)++[u8 0],()))=_
  rw [qv0]
 have hend:f ([u8 128]++List.replicate (zs (N.toNat % 64)) (u8 0),())=some (.ex 0 ([u8 128]++List.replicate (zs (N.toNat % 64)) (u8 0),())):=by
  subst hf
  obtain ⟨i,hi⟩:∃ i,i=zs (N.toNat % 64):=⟨_,rfl⟩
  rw [← hi]
  have hl:([u8 128]++List.replicate i (u8 0)).length=1+i:=by simp;omega
  have e:i64 (iadd (i64 (iadd N (len ([u8 128]++List.replicate i (u8 0))))) 8)=N+((1+i:Nat):Int)+8:=by
   have e1:i64 (iadd N (len ([u8 128]++List.replicate i (u8 0))))=N+((1+i:Nat):Int):=by
    show i64 (N+(([u8 128]++List.replicate i (u8 0)).length:Int))=_
    rw [hl];exact jA (by omega) (by omega)
   rw [e1];exact jA (by show -9223372036854775808≤N+((1+i:Nat):Int)+8;omega) (by show N+((1+i:Nat):Int)+8≤9223372036854775807;omega)
  dsimp only
  rw [e]
  have hne:((N+((1+i:Nat):Int)+8) % 64=0):=by unfold zs at hi;omega
  exact qB (by simp (disch:=omega) only [go_sem,Int.reduceToNat];omega)
 have hloop:=(qM (f:=f) (fun i=>([u8 128]++List.replicate i (u8 0),())) (zs (N.toNat % 64)) step 0 (Nat.zero_le _)).trans (qT hend)
 rw [List.replicate_zero,List.append_nil] at hloop
 refine (qY hloop).trans ?_
 clear hloop hend step
 refine (qH g62).trans ?_
 clear hf f
 dsimp only
 generalize hL:[u8 128]++List.replicate (zs (N.toNat % 64)) (u8 0)=L
 have hLl:L.length=1+zs (N.toNat % 64):=by rw [← hL];simp;omega
 generalize hf:(fun (x_1:BB×Int×Unit)=>(_:Option (LS (BB×Int×Unit) (BB×Unit))))=f
 have step:∀ i:Nat,i < 8→f (L++lenB N i,56 - 8*(i:Int),())=some (.nx (L++lenB N (i+1),56 - 8*((i+1:Nat):Int),())):=by
  intro i hi
  subst hf
  have hl:(L++lenB N i).length=L.length+i:=by rw [List.length_append,yN]
  refine (qE (by simp only [go_sem,Int.reduceToNat];omega)).trans ?_
  refine (qH (by simp only [go_sem,Int.reduceToNat];simp [yN];omega)).trans ?_
  dsimp only
  rw [qgT (a:=56 - 8*(i:Int)) (by omega),show app (L++lenB N i) [u8 (shrI .i64 (i64 (imul 8 N)) (56 - 8*(i:Int)))]=L++lenB N (i+1) by rw [qz3,show ((56 - 8*i:Nat):Int)=56 - 8*(i:Int) by omega];exact List.append_assoc _ _ _,
   show i64 (isub (56 - 8*(i:Int)) 8)=56 - 8*((i+1:Nat):Int) by rw [jA (by show -9223372036854775808≤56 - 8*(i:Int) - 8;omega) (by show 56 - 8*(i:Int) - 8≤9223372036854775807;omega)];show 56 - 8*(i:Int) - 8=_;omega]
 have hend:f (L++lenB N 8,56 - 8*((8:Nat):Int),())=some (.ex 2 (L++lenB N 8,56 - 8*((8:Nat):Int),())):=by subst hf;exact qB (show le 0 (56 - 8*((8:Nat):Int))=false from rfl)
 have hloop:=(qM (f:=f) (fun i=>(L++lenB N i,56 - 8*(i:Int),())) 8 step 0 (Nat.zero_le _)).trans (qT hend)
 have h0:(L++lenB N 0,56 - 8*((0:Nat):Int),())=(L,56,()):=by simp [lenB]
 rw [h0] at hloop
 refine (qY hloop).trans ?_
 refine (qH g62).trans ?_
 dsimp only
 rw [← hL];rfl
theorem qBK (N:Int):(padD N).length=9+zs (N.toNat % 64):=by unfold padD;simp [yN];omega
theorem qtJ (H:List UInt32) (hH:H.length=8) (N:Int) (r:BB) (hN:0≤N) (hN2:N≤1125899906842624) (hr:r.length=N.toNat % 64):qgN ((H,N,r,()),())=some (sumD (H,N,r,()),()):=by
 unfold qgN
 dsimp only
 rw [show app (none' UInt8) r=r from rfl]
 refine (qH (by simp only [go_sem,Int.reduceToNat];omega)).trans ?_
 rw [qtL N hN hN2]
 refine (qG rfl).trans ?_
 have hp:=qBK N
 have hzs:zs (N.toNat % 64) < 64:=by unfold zs;omega
 refine (qH (by simp only [go_sem,Int.reduceToNat];omega)).trans ?_
 rw [qGx]
 refine (qG rfl).trans ?_
 dsimp only
 unfold sumD
 dsimp only
 rw [show app r (padD N)=r++padD N from rfl]
 have hTl:(r++padD N).length=r.length+1+zs (N.toNat % 64)+8:=by rw [List.length_append,hp];omega
 have hT64:(r++padD N).length % 64=0:=by rw [hTl];unfold zs;omega
 generalize hTT:r++padD N=T at hTl hT64
 generalize hf:(fun (x_1:Int×List UInt32×Unit)=>(_:Option (LS (Int×List UInt32×Unit) (BB×Unit))))=f
 have step:∀ i:Nat,i < T.length / 64→f (((64*i:Nat):Int),eat H T i,())=some (.nx (((64*(i+1):Nat):Int),eat H T (i+1),())):=by
  intro i hi
  subst hf
  have e':i64 (iadd ((64*i:Nat):Int) 64)=((64*(i+1):Nat):Int):=i64n (by show ((64*i:Nat):Int)+64=_;omega) (by omega)
  dsimp only
  rw [e']
  refine (qE (by simp only [go_sem,Int.reduceToNat];omega)).trans ?_
  rw [qgM _ (yR hH T i) T (64*i) (by omega) (by omega)]
  rfl
 have hend:f (((64*(T.length / 64):Nat):Int),eat H T (T.length / 64),())=some (.ex 0 (((64*(T.length / 64):Nat):Int),eat H T (T.length / 64),())):=by
  subst hf
  exact qB (by simp only [go_sem,Int.reduceToNat];omega)
 have hloop:=(qM (f:=f) (fun i=>(((64*i:Nat):Int),eat H T i,())) (T.length / 64) step 0 (Nat.zero_le _)).trans (qT hend)
 refine (qY (show loop f (0,H,())=_ from hloop)).trans ?_
 clear hloop hend step
 refine (qH g62).trans ?_
 clear hf f
 dsimp only
 have hw:=yR hH T (T.length / 64)
 generalize eat H T (T.length / 64)=w at hw
 generalize hf:(fun (x:BB×Int×Unit)=>(_:Option (LS (BB×Int×Unit) (BB×Unit))))=f
 have step:∀ i:Nat,i < 8→f (outW w i,(i:Int),())=some (.nx (outW w (i+1),((i+1:Nat):Int),())):=by
  intro i hi
  subst hf
  have hl:=qeN w i
  have hi':i64 (iadd (i:Int) 1)=((i+1:Nat):Int):=i64n (by show (i:Int)+1=_;omega) (by omega)
  refine (qE (by simp only [go_sem,Int.reduceToNat];omega)).trans ?_
  refine (qH (by simp only [go_sem,Int.reduceToNat];omega)).trans ?_
  refine (qH (by simp only [go_sem,Int.reduceToNat];omega)).trans ?_
  refine (qH (by simp only [go_sem,Int.reduceToNat];omega)).trans ?_
  refine (qH (by simp only [go_sem,Int.reduceToNat];omega)).trans ?_
  refine (qH (by simp only [go_sem,Int.reduceToNat];simp;omega)).trans ?_
  dsimp only
  rw [hi',qzP,qKQ];rfl
 have hend:∀ v,f (v,((8:Nat):Int),())=some (.ex 2 (v,((8:Nat):Int),())):=by subst hf;intro v;exact qB rfl
 have hloop:=(qM (f:=f) (fun i=>(outW w i,(i:Int),())) 8 step 0 (Nat.zero_le _)).trans (qT (hend _))
 refine (qY (show loop f (none' UInt8,0,())=_ from hloop)).trans ?_
 exact qH g62
def okH (h:HT):Prop:=h.1.length=8∧0≤h.2.1∧h.2.2.1.length=h.2.1.toNat % 64
theorem qgP {h:HT} (hh:okH h) (b:BB):okH (putD h b):=by
 obtain ⟨h1,h2,h3⟩:=hh
 refine ⟨yR h1 _ _, ?_, ?_⟩
 ·show 0≤h.2.1+(b.length:Int);omega
 ·show ((h.2.2.1++b).drop (64*((h.2.2.1++b).length / 64))).length=(h.2.1+(b.length:Int)).toNat % 64
  rw [List.length_drop,List.length_append,h3];omega
theorem qJE (h:HT) (x y:BB):putD (putD h x) y=putD h (x++y):=by
 obtain ⟨H,N,r,⟨⟩⟩:=h
 unfold putD
 dsimp only
 generalize hL:r++x=L
 have hM:r++(x++y)=L++y:=by rw [← List.append_assoc,hL]
 rw [hM]
 have hq:64*(L.length / 64)≤L.length:=by omega
 have hd:(L++y).drop (64*(L.length / 64))=L.drop (64*(L.length / 64))++y:=List.drop_append_of_le_length hq
 have hlen:(L.drop (64*(L.length / 64))++y).length=L.length - 64*(L.length / 64)+y.length:=by rw [List.length_append,List.length_drop]
 have hn:(L++y).length / 64=L.length / 64+(L.drop (64*(L.length / 64))++y).length / 64:=by rw [hlen,List.length_append];omega
 have he:eat H (L++y) (L.length / 64)=eat H L (L.length / 64):=by
  refine qAt H fun j hj => ?_
  unfold q8
  rw [List.getD_eq_getElem?_getD,List.getElem?_append_left (by omega),← List.getD_eq_getElem?_getD]
 refine Prod.ext ?_ (Prod.ext ?_ (Prod.ext ?_ rfl))
 ·dsimp only;rw [hn,qG1,hd,he]
 ·dsimp only;rw [List.length_append];omega
 ·dsimp only;rw [hn,← hd,List.drop_drop];congr 1;omega
theorem qBr (h:HT):(sumD h).length=32:=by unfold sumD;rw [qeN]
def iv:HT:=([u32 1779033703,u32 3144134277,u32 1013904242,u32 2773480762,u32 1359893119,u32 2600822924,u32 528734635,u32 1541459225],0,[],())
theorem qtS:okH iv:=⟨rfl,Int.le_refl _,rfl⟩
theorem qcU {h:HT} (hh:okH h) (b:BB) (hN:h.2.1≤1000000000) (hb:b.length≤1000000000):qd4 (h,b,())=some (putD h b,()):=by
 obtain ⟨H,N,r,⟨⟩⟩:=h
 obtain ⟨h1,h2,h3⟩:=hh
 have h2':0≤N:=h2
 have h3':r.length=N.toNat % 64:=h3
 have hN':N≤1000000000:=hN
 exact qyZ H h1 N r b h2 (by omega) (by omega) hb
theorem qzG {h:HT} (hh:okH h) (b:BB) (hN:h.2.1≤1000000000) (hb:b.length≤1000000000):qgO (h,b,())=some (putD h b,()):=by
 obtain ⟨H,N,r,⟨⟩⟩:=h
 obtain ⟨h1,h2,h3⟩:=hh
 have h2':0≤N:=h2
 have h3':r.length=N.toNat % 64:=h3
 have hN':N≤1000000000:=hN
 exact qtK H h1 N r b h2 (by omega) (by omega) hb
theorem qm0 {h:HT} (hh:okH h) (hN:h.2.1≤1000000000000):qjT (h,())=some (sumD h,()):=by
 obtain ⟨H,N,r,⟨⟩⟩:=h
 obtain ⟨h1,h2,h3⟩:=hh
 have hN':N≤1000000000000:=hN
 exact qyY H h1 N r h2 (by omega) h3
theorem qzF {h:HT} (hh:okH h) (hN:h.2.1≤1000000000000):qgN (h,())=some (sumD h,()):=by
 obtain ⟨H,N,r,⟨⟩⟩:=h
 obtain ⟨h1,h2,h3⟩:=hh
 have hN':N≤1000000000000:=hN
 exact qtJ H h1 N r h2 (by omega) h3
theorem qnZ:qqH ()=some (iv,()):=rfl
theorem qtM:qq5 ()=some (iv,()):=rfl
def qo1 (b:BB):BB:=sumD (putD iv b)
theorem xN (b:BB):(qo1 b).length=32:=qBr _
theorem qBw (b:BB) (hb:b.length≤1000000000):qDg (b,())=some (qo1 b,()):=by
 unfold qDg
 rw [qnZ]
 refine (qG rfl).trans ?_
 dsimp only
 rw [qcU qtS b (by decide) hb]
 refine (qG rfl).trans ?_
 dsimp only
 have hn:(putD iv b).2.1=0+(b.length:Int):=rfl
 rw [qm0 (qgP qtS b) (by omega)];rfl
theorem wS (b:BB) (hb:b.length≤1000000000):qeM (b,())=some (qo1 b,()):=by
 unfold qeM
 rw [qtM]
 refine (qG rfl).trans ?_
 dsimp only
 rw [qzG qtS b (by decide) hb]
 refine (qG rfl).trans ?_
 dsimp only
 have hn:(putD iv b).2.1=0+(b.length:Int):=rfl
 rw [qzF (qgP qtS b) (by omega)];rfl
theorem qbS {α σ ρ:Type} {f:σ→Option (LS σ ρ)} (l:List α) (mk:Nat→σ) (e:Nat) (r:ρ) (p:α→Prop)
  (hs:∀ i (h:i < l.length),p l[i]→f (mk i)=some (.nx (mk (i+1)))) (hb:∀ i (h:i < l.length),¬ p l[i]→f (mk i)=some (.rt r)) (he:f (mk l.length)=some (.ex e (mk l.length))) :
  ((∀ x∈l,p x)∧loop f (mk 0)=some (.ex e (mk l.length)))∨((¬ ∀ x∈l,p x)∧loop f (mk 0)=some (.rt r)):=by
 by_cases h:∀ x∈l,p x
 ·exact .inl ⟨h,(qM mk l.length (fun i hi=>hs i hi (h _ (List.getElem_mem hi))) 0 (Nat.zero_le _)).trans (qT he)⟩
 ·refine .inr ⟨h, ?_⟩
  have key:∀ (n i:Nat),l.length - i=n→i≤l.length→(∃ j,∃ (hj:j < l.length),i≤j∧¬ p l[j])→loop f (mk i)=some (.rt r):=by
   intro n
   induction n with
   | zero=>rintro i hn hi ⟨j,hj,h1,_⟩;omega
   | succ n ih =>
    rintro i hn hi ⟨j,hj,h1,h2⟩
    have hil:i < l.length:=by omega
    by_cases hp:p l[i]
    ·rw [vV (hs i hil hp)]
     refine ih (i+1) (by omega) (by omega) ⟨j,hj, ?_,h2⟩
     rcases Nat.lt_or_eq_of_le h1 with h | rfl
     ·exact h
     ·exact absurd hp h2
    ·exact qeS (hb i hil hp)
  refine key _ 0 rfl (Nat.zero_le _) ?_
  refine Classical.byContradiction fun hn=>h fun x hx=>Classical.byContradiction fun hpx => ?_
  obtain ⟨j,hj,rfl⟩:=List.getElem_of_mem hx
  exact hn ⟨j,hj,Nat.zero_le _,hpx⟩
def vM (key:BB):BB:=let k:=if 64 < key.length then qo1 key else key;k++List.replicate (64 - k.length) (u8 0)
theorem qmJ (key:BB):(vM key).length=64:=by
 unfold vM
 by_cases h:64 < key.length
 ·simp only [if_pos h,List.length_append,List.length_replicate,xN]
 ·simp only [if_neg h,List.length_append,List.length_replicate];omega
theorem qG3 (k:BB) (h:k.length≤64):cpy (rep (nat 64) (u8 0)) 0 (ln (rep (nat 64) (u8 0))) k=k++List.replicate (64 - k.length) (u8 0):=by
 unfold cpy rep ln
 rw [List.length_replicate,show nat 64=64 from rfl,List.take_zero,List.nil_append,List.take_of_length_le h,Nat.zero_add,Nat.min_eq_right h,List.drop_replicate]
theorem qtP (key:BB) (h:key.length≤1000000000):qlO (key,())=some (vM key,()):=by
 unfold qlO
 refine (qH (by decide)).trans ?_
 by_cases hk:64 < key.length
 ·refine (qE (by simp only [go_sem,Int.reduceToNat];omega)).trans ?_
  dsimp only
  rw [qBw _ h]
  refine (qG rfl).trans ?_
  dsimp only
  rw [qG3 _ (by rw [xN];omega)]
  unfold vM;simp only [if_pos hk]
 ·refine (qB (by simp only [go_sem,Int.reduceToNat];omega)).trans ?_
  dsimp only
  rw [qG3 _ (by omega)]
  unfold vM;simp only [if_neg hk]
theorem qLi {f:BB×Unit→Option (LS (BB×Unit) (BB×Unit))} (hf:f=fun (x:BB×Unit)=>sel (lt (len x.1) 64) (ck (rm 1 (nadd (ln x.1) (ln [u8 0]))) (some (LS.nx (app x.1 [u8 0],())))) (some (LS.ex 0 (x.1,())))) (k:BB) (h:k.length≤64) :
  loop f (k,())=some (.ex 0 (k++List.replicate (64 - k.length) (u8 0),())):=by
 have step:∀ i:Nat,i < 64 - k.length→f (k++List.replicate i (u8 0),())=some (.nx (k++List.replicate (i+1) (u8 0),())):=by
  intro i hi
  subst hf
  have hl:(k++List.replicate i (u8 0)).length=k.length+i:=by simp
  refine (qE (by simp only [go_sem,Int.reduceToNat];omega)).trans ?_
  refine (qH (by simp only [go_sem,Int.reduceToNat];simp;omega)).trans ?_
  show some (LS.nx (k++List.replicate i (u8 0)++[u8 0],()))=_
  rw [qv0]
 have hend:f (k++List.replicate (64 - k.length) (u8 0),())=some (.ex 0 (k++List.replicate (64 - k.length) (u8 0),())):=by
  subst hf
  have hl:(k++List.replicate (64 - k.length) (u8 0)).length=64:=by simp;omega
  exact qB (by simp only [go_sem,Int.reduceToNat];omega)
 have:=(qM (f:=f) (fun i=>(k++List.replicate i (u8 0),())) (64 - k.length) step 0 (Nat.zero_le _)).trans (qT hend)
 rwa [List.replicate_zero,List.append_nil] at this
theorem qpI (key:BB) (h:key.length≤1000000000):qeL (key,())=some (vM key,()):=by
 unfold qeL
 refine (qH (by simp only [go_sem,Int.reduceToNat];omega)).trans ?_
 by_cases hk:64 < key.length
 ·refine (qE (by simp only [go_sem,Int.reduceToNat];omega)).trans ?_
  dsimp only
  rw [wS _ h]
  refine (qG rfl).trans ?_
  dsimp only
  rw [qLi rfl _ (by rw [xN];omega)]
  refine (qH g62).trans ?_
  unfold vM;simp only [if_pos hk]
 ·refine (qB (by simp only [go_sem,Int.reduceToNat];omega)).trans ?_
  dsimp only
  rw [show app (none' UInt8) key=key from rfl,qLi rfl _ (by omega)]
  refine (qH g62).trans ?_
  unfold vM;simp only [if_neg hk]
def xr (c:UInt8) (l:BB):BB:=l.map fun x=>u8 (xorI .u8 (n8 x) (n8 c))
theorem qcS (c:UInt8) (l:BB):(xr c l).length=l.length:=by simp [xr]
theorem qIq {α:Type} {L:List α} {n:Nat} {z:α} (hL:L.length=n) {i:Nat} (hi:i < n):(L.take i++List.replicate (n - i) z).set i (L[i]'(by omega))=L.take (i+1)++List.replicate (n - (i+1)) z:=by
 have h1:(L.take i).length=i:=by rw [List.length_take];omega
 rw [List.set_append_right _ _ (by omega),h1,Nat.sub_self,show n - i=(n - (i+1))+1 by omega,List.replicate_succ,List.set_cons_zero,List.take_succ_eq_append_getElem (by omega),List.append_assoc]
 rfl
theorem qCZ {f:Int×BB×Unit→Option (LS (Int×BB×Unit) Unit)} (c:UInt8) (k:BB) (hk:k.length=64)
  (hf:f=fun (x:Int×BB×Unit)=>sel (lt x.1 (len k)) (ck (inB x.1 (len k)) (ck (inB x.1 (len x.2.1)) (some (LS.nx (i64 (iadd x.1 1),upd x.2.1 (nat x.1) (u8 (xorI .u8 (n8 (nth k (nat x.1) (u8 0))) (n8 c))),()))))) (some (LS.ex 0 (x.1,x.2.1,())))) :
  loop f (0,rep (nat 64) (u8 0),())=some (.ex 0 (64,xr c k,())):=by
 have hx:(xr c k).length=64:=by rw [qcS,hk]
 have step:∀ i:Nat,i < 64→f ((i:Int),(xr c k).take i++List.replicate (64 - i) (u8 0),())=some (.nx (((i+1:Nat):Int),(xr c k).take (i+1)++List.replicate (64 - (i+1)) (u8 0),())):=by
  intro i hi
  subst hf
  have hl:((xr c k).take i++List.replicate (64 - i) (u8 0)).length=64:=by rw [List.length_append,List.length_take,List.length_replicate];omega
  have hi':i64 (iadd (i:Int) 1)=((i+1:Nat):Int):=i64n (by show (i:Int)+1=_;omega) (by omega)
  refine (qE (by simp only [go_sem,Int.reduceToNat];omega)).trans ?_
  refine (qH (by simp only [go_sem,Int.reduceToNat];omega)).trans ?_
  refine (qH (by simp only [go_sem,Int.reduceToNat];omega)).trans ?_
  dsimp only
  rw [hi',show upd ((xr c k).take i++List.replicate (64 - i) (u8 0)) (nat (i:Int)) (u8 (xorI .u8 (n8 (nth k (nat (i:Int)) (u8 0))) (n8 c)))=(xr c k).take (i+1)++List.replicate (64 - (i+1)) (u8 0) from ?_]
  rw [← qIq hx hi,qU,qL (by omega:i < k.length)]
  unfold upd
  congr 1
  simp [xr]
 have hend:f (((64:Nat):Int),(xr c k).take 64++List.replicate (64 - 64) (u8 0),())=some (.ex 0 (((64:Nat):Int),(xr c k).take 64++List.replicate (64 - 64) (u8 0),())):=by
  subst hf
  exact qB (by simp only [go_sem,Int.reduceToNat];omega)
 have:=(qM (f:=f) (fun i=>((i:Int),(xr c k).take i++List.replicate (64 - i) (u8 0),())) 64 step 0 (Nat.zero_le _)).trans (qT hend)
 rw [List.take_of_length_le (show (xr c k).length≤64 by omega),Nat.sub_self,List.replicate_zero,List.append_nil] at this
 exact this
def tagD (key b:BB):BB:=qo1 (xr (u8 92) (vM key)++qo1 (xr (u8 54) (vM key)++b))
theorem qd3 (key b:BB):(tagD key b).length=32:=xN _
theorem qDr (x y:BB):sumD (putD (putD iv x) y)=qo1 (x++y):=by rw [qJE];rfl
theorem qoA (key b:BB) (h:key.length≤1000000) (hb:b.length≤1000000):qrJ (key,b,())=some (tagD key b,()):=by
 unfold qrJ
 dsimp only
 rw [qtP _ (by omega)]
 refine (qG rfl).trans ?_
 refine (qH (by decide)).trans ?_
 dsimp only
 have hk:=qmJ key
 rw [qCZ (u8 92) _ hk rfl]
 refine (qH g62).trans ?_
 dsimp only
 rw [qnZ]
 refine (qG rfl).trans ?_
 dsimp only
 have l1:=(qcS (u8 92) (vM key)).trans hk
 have l2:=(qcS (u8 54) (vM key)).trans hk
 rw [qcU qtS _ (by decide) (by omega)]
 refine (qG rfl).trans ?_
 refine (qH (by decide)).trans ?_
 dsimp only
 rw [qCZ (u8 54) _ hk rfl]
 refine (qH g62).trans ?_
 refine (qG rfl).trans ?_
 dsimp only
 rw [qcU qtS _ (by decide) (by omega)]
 refine (qG rfl).trans ?_
 dsimp only
 have n1:(putD iv (xr (u8 54) (vM key))).2.1=0+((xr (u8 54) (vM key)).length:Int):=rfl
 have n2:(putD (putD iv (xr (u8 54) (vM key))) b).2.1=0+((xr (u8 54) (vM key)).length:Int)+(b.length:Int):=rfl
 have n3:(putD iv (xr (u8 92) (vM key))).2.1=0+((xr (u8 92) (vM key)).length:Int):=rfl
 rw [qcU (qgP qtS _) b (by omega) (by omega)]
 refine (qG rfl).trans ?_
 dsimp only
 rw [qm0 (qgP (qgP qtS _) _) (by omega),qDr]
 refine (qG rfl).trans ?_
 dsimp only
 have l4:=xN (xr (u8 54) (vM key)++b)
 rw [qcU (qgP qtS _) _ (by omega) (by omega)]
 refine (qG rfl).trans ?_
 dsimp only
 have n4:∀ y,(putD (putD iv (xr (u8 92) (vM key))) y).2.1=0+((xr (u8 92) (vM key)).length:Int)+(y.length:Int):=fun _=>rfl
 rw [qm0 (qgP (qgP qtS _) _) (by rw [n4];omega),qDr]
 rfl
theorem qjB (key b:BB) (h:key.length≤1000000) (hb:b.length≤1000000):qgL (key,b,())=some (tagD key b,()):=by
 unfold qgL
 dsimp only
 rw [qpI _ (by omega)]
 refine (qG rfl).trans ?_
 dsimp only
 have hk:=qmJ key
 unfold tagD
 generalize vM key=k at hk
 generalize hf:(fun (x:BB×BB×Int×Unit)=>(_:Option (LS (BB×BB×Int×Unit) (BB×Unit))))=f
 have x1:(xr (u8 54) k).length=64:=by rw [qcS,hk]
 have x2:(xr (u8 92) k).length=64:=by rw [qcS,hk]
 have tk:∀ (c:UInt8) (i:Nat) (hi:i < 64),app ((xr c k).take i) [u8 (xorI .u8 (n8 (nth k (nat (i:Int)) (u8 0))) (n8 c))]=(xr c k).take (i+1):=by
  intro c i hi
  have hx:(xr c k).length=64:=by rw [qcS,hk]
  rw [qU,qL (by omega:i < k.length),List.take_succ_eq_append_getElem (by omega)]
  unfold app
  congr 2
  simp [xr]
 have step:∀ i:Nat,i < 64→f ((xr (u8 54) k).take i,(xr (u8 92) k).take i,(i:Int),())=some (.nx ((xr (u8 54) k).take (i+1),(xr (u8 92) k).take (i+1),((i+1:Nat):Int),())):=by
  intro i hi
  subst hf
  have hi':i64 (iadd (i:Int) 1)=((i+1:Nat):Int):=i64n (by show (i:Int)+1=_;omega) (by omega)
  have h1:((xr (u8 54) k).take i).length=i:=by rw [List.length_take];omega
  have h2:((xr (u8 92) k).take i).length=i:=by rw [List.length_take];omega
  refine (qE (by simp only [go_sem,Int.reduceToNat];omega)).trans ?_
  refine (qH (by simp only [go_sem,Int.reduceToNat];omega)).trans ?_
  refine (qH (by simp only [go_sem,Int.reduceToNat];simp;omega)).trans ?_
  refine (qH (by simp only [go_sem,Int.reduceToNat];omega)).trans ?_
  refine (qH (by simp only [go_sem,Int.reduceToNat];simp;omega)).trans ?_
  dsimp only
  rw [hi',tk _ i hi,tk _ i hi]
 have hend:∀ u v,f (u,v,((64:Nat):Int),())=some (.ex 0 (u,v,((64:Nat):Int),())):=by subst hf;intro u v;exact qB rfl
 have hloop:=(qM (f:=f) (fun i=>((xr (u8 54) k).take i,(xr (u8 92) k).take i,(i:Int),())) 64 step 0 (Nat.zero_le _)).trans (qT (hend _ _))
 rw [List.take_of_length_le (show (xr (u8 54) k).length≤64 by omega),List.take_of_length_le (show (xr (u8 92) k).length≤64 by omega)] at hloop
 refine (qY (show loop f (none' UInt8,none' UInt8,0,())=_ from hloop)).trans ?_
 refine (qH g62).trans ?_
 dsimp only
 refine (qH (by simp only [go_sem,Int.reduceToNat];omega)).trans ?_
 rw [show app (xr (u8 54) k) b=xr (u8 54) k++b from rfl,wS _ (by rw [List.length_append];omega)]
 refine (qG rfl).trans ?_
 dsimp only
 have l4:=xN (xr (u8 54) k++b)
 refine (qH (by simp only [go_sem,Int.reduceToNat];omega)).trans ?_
 rw [show app (xr (u8 92) k) (qo1 (xr (u8 54) k++b))=xr (u8 92) k++qo1 (xr (u8 54) k++b) from rfl,wS _ (by rw [List.length_append];omega)]
 rfl
def qnA (p:BB):BB:=[u8 (shrI .i64 (len p) (n64 (u64 8))),u8 (len p)]++p
def tlD (l:List BB):BB:=l.flatMap qnA
def qbI (label:BB) (l:List BB):BB:=[u8 (len label)]++label++tlD l
theorem qzL (p:BB):(qnA p).length=p.length+2:=by simp [qnA]
theorem qEf {l:List BB} (h:∀ p∈l,p.length≤1000):(tlD l).length≤1002*l.length:=by
 induction l with
 | nil=>simp [tlD]
 | cons p r ih =>
  have h1:=h p (by simp)
  have h2:=ih fun q hq=>h q (by simp [hq])
  unfold tlD at h2 ⊢
  rw [List.flatMap_cons,List.length_append,qzL,List.length_cons];omega
theorem qC5 {l:List BB} {i:Nat} (hi:i < l.length):tlD (l.take (i+1))=tlD (l.take i)++qnA l[i]:=by
 unfold tlD
 rw [List.take_succ_eq_append_getElem hi,List.flatMap_append,List.flatMap_cons,List.flatMap_nil,List.append_nil]
theorem qbJ {label:BB} {l:List BB} (h1:label.length≤255) (h2:l.length≤16) (h:∀ p∈l,p.length≤1000):(qbI label l).length≤20000:=by
 have:=qEf h
 unfold qbI
 simp only [List.length_append,List.length_cons,List.length_nil];omega
def qr4 (key label:BB) (l:List BB):BB:=tagD key (qbI label l)
theorem qjJ (key label:BB) (l:List BB):(qr4 key label l).length=32:=qd3 _ _
theorem qrK (key label:BB) (l:List BB) (hk:key.length≤1000000) (h1:label.length≤255) (h2:l.length≤16) (h:∀ p∈l,p.length≤1000):qiM (key,label,l,())=some (qr4 key label l,0,()):=by
 unfold qiM
 dsimp only
 refine (qG (a:=(false,())) ((qB (by simp only [go_sem,Int.reduceToNat];omega)).trans (by rw [show lt 16 (len l)=false from lt_f (by simp only [go_sem,Int.reduceToNat];omega)]))).trans ?_
 refine (qB rfl).trans ?_
 refine (qH (by simp only [go_sem,Int.reduceToNat];simp;omega)).trans ?_
 generalize hf:(fun (x_1:Int×BB×Int×Unit)=>(_:Option (LS (Int×BB×Int×Unit) (BB×Int×Unit))))=f
 have hT:∀ i,(qbI label (l.take i)).length≤20000:=fun i=>qbJ h1 (by rw [List.length_take];omega) (fun p hp=>h p (List.mem_of_mem_take hp))
 have step:∀ i:Nat,i < l.length→f (0,qbI label (l.take i),(i:Int),())=some (.nx (0,qbI label (l.take (i+1)),((i+1:Nat):Int),())):=by
  intro i hi
  subst hf
  have hi':i64 (iadd (i:Int) 1)=((i+1:Nat):Int):=i64n (by show (i:Int)+1=_;omega) (by omega)
  have hp:=h l[i] (List.getElem_mem hi)
  have ht:=hT i
  have hn:nth l (nat (i:Int)) (none' UInt8)=l[i]:=by rw [qU,qL hi]
  refine (qE (by simp only [go_sem,Int.reduceToNat];omega)).trans ?_
  refine (qH (by simp only [go_sem,Int.reduceToNat];omega)).trans ?_
  dsimp only
  rw [hn]
  refine (qB (by simp only [go_sem,Int.reduceToNat];omega)).trans ?_
  refine (qH (by simp only [go_sem,Int.reduceToNat];simp;omega)).trans ?_
  refine (qH (by simp only [go_sem,Int.reduceToNat];simp;omega)).trans ?_
  rw [hi',show qbI label (l.take (i+1))=qbI label (l.take i)++qnA l[i] by unfold qbI;rw [qC5 hi,List.append_assoc,List.append_assoc,List.append_assoc]]
  unfold qnA app
  rw [List.append_assoc]
 have hend:∀ u,f (0,u,(l.length:Int),())=some (.ex 0 (0,u,(l.length:Int),())):=by subst hf;intro u;exact qB (by simp only [go_sem,Int.reduceToNat];omega)
 have hloop:=(qM (f:=f) (fun i=>(0,qbI label (l.take i),(i:Int),())) l.length step 0 (Nat.zero_le _)).trans (qT (hend _))
 rw [List.take_of_length_le (Nat.le_refl _)] at hloop
 have h0:qbI label (l.take 0)=app [u8 (len label)] label:=by unfold qbI;rw [List.take_zero];exact List.append_nil _
 rw [h0] at hloop
 refine (qY (show loop f (0,app [u8 (len label)] label,0,())=_ from hloop)).trans ?_
 refine (qH g62).trans ?_
 dsimp only
 have:=qbJ h1 h2 h
 rw [qoA _ _ hk (by omega)];rfl
theorem qq4 (label:BB) (l:List BB) (h1:label.length≤255) (h2:l.length≤16) (h:∀ p∈l,p.length≤1000):qiH (label,l,())=some (qbI label l,()):=by
 unfold qiH
 dsimp only
 refine (qH (by simp only [go_sem,Int.reduceToNat];omega)).trans ?_
 refine (qH (by simp only [go_sem,Int.reduceToNat];simp;omega)).trans ?_
 generalize hf:(fun (x_1:BB×Int×Unit)=>(_:Option (LS (BB×Int×Unit) (BB×Unit))))=f
 have hT:∀ i,(qbI label (l.take i)).length≤20000:=fun i=>qbJ h1 (by rw [List.length_take];omega) (fun p hp=>h p (List.mem_of_mem_take hp))
 have step:∀ i:Nat,i < l.length→f (qbI label (l.take i),(i:Int),())=some (.nx (qbI label (l.take (i+1)),((i+1:Nat):Int),())):=by
  intro i hi
  subst hf
  have hi':i64 (iadd (i:Int) 1)=((i+1:Nat):Int):=i64n (by show (i:Int)+1=_;omega) (by omega)
  have hp:=h l[i] (List.getElem_mem hi)
  have ht:=hT i
  have hn:nth l (nat (i:Int)) (none' UInt8)=l[i]:=by rw [qU,qL hi]
  have q1:u8 (i64 (idiv (len l[i]) 256))=u8 (shrI .i64 (len l[i]) (n64 (u64 8))):=by
   have a1:idiv (len l[i]) 256=((l[i].length / 256:Nat):Int):=by rw [g31 (by simp only [go_sem,Int.reduceToNat];omega)];simp only [go_sem,Int.reduceToNat];omega
   have a2:shrI .i64 (len l[i]) (n64 (u64 8))=((l[i].length / 256:Nat):Int):=by show Int.fdiv (l[i].length:Int) (2 ^ 8)=_;rw [Int.fdiv_eq_ediv_of_nonneg _ (by decide)];omega
   rw [a1,a2,i64n rfl (by omega)]
  have q2:u8 (imod (len l[i]) 256)=u8 (len l[i]):=by
   rw [g32 (by simp only [go_sem,Int.reduceToNat];omega)];exact qyO (by simp only [go_sem,Int.reduceToNat];omega)
  refine (qE (by simp only [go_sem,Int.reduceToNat];omega)).trans ?_
  dsimp only
  rw [hn]
  refine (qH (by simp only [go_sem,Int.reduceToNat];omega)).trans ?_
  refine (qH (by simp only [go_sem,Int.reduceToNat];omega)).trans ?_
  refine (qH (by simp only [go_sem,Int.reduceToNat];simp;omega)).trans ?_
  refine (qH (by simp only [go_sem,Int.reduceToNat];omega)).trans ?_
  refine (qH (by simp only [go_sem,Int.reduceToNat];simp;omega)).trans ?_
  rw [hi',q1,q2,show qbI label (l.take (i+1))=qbI label (l.take i)++qnA l[i] by unfold qbI;rw [qC5 hi,List.append_assoc,List.append_assoc,List.append_assoc]]
  unfold qnA app
  rw [List.append_assoc]
 have hend:∀ u,f (u,(l.length:Int),())=some (.ex 0 (u,(l.length:Int),())):=by subst hf;intro u;exact qB (by simp only [go_sem,Int.reduceToNat];omega)
 have hloop:=(qM (f:=f) (fun i=>(qbI label (l.take i),(i:Int),())) l.length step 0 (Nat.zero_le _)).trans (qT (hend _))
 rw [List.take_of_length_le (Nat.le_refl _)] at hloop
 have h0:qbI label (l.take 0)=app [u8 (len label)] label:=by unfold qbI;rw [List.take_zero];exact List.append_nil _
 rw [h0] at hloop
 refine (qY (show loop f (app [u8 (len label)] label,0,())=_ from hloop)).trans ?_
 exact qH g62
theorem qm8 (key label:BB) (l:List BB) (hk:key.length≤1000000) (h1:label.length≤255) (h2:l.length≤16) (h:∀ p∈l,p.length≤1000):qbP (key,label,l,())=some (qr4 key label l,0,()):=by
 unfold qbP
 dsimp only
 refine (qG (a:=(false,())) ((qB (by simp only [go_sem,Int.reduceToNat];omega)).trans (by rw [show lt 16 (len l)=false from lt_f (by simp only [go_sem,Int.reduceToNat];omega)]))).trans ?_
 refine (qB rfl).trans ?_
 generalize hf:(fun (x_1:Int×Int×Unit)=>(_:Option (LS (Int×Int×Unit) (BB×Int×Unit))))=f
 have step:∀ i:Nat,i < l.length→f (0,(i:Int),())=some (.nx (0,((i+1:Nat):Int),())):=by
  intro i hi
  subst hf
  have hi':i64 (iadd (i:Int) 1)=((i+1:Nat):Int):=i64n (by show (i:Int)+1=_;omega) (by omega)
  have hp:=h l[i] (List.getElem_mem hi)
  have hn:nth l (nat (i:Int)) (none' UInt8)=l[i]:=by rw [qU,qL hi]
  refine (qE (by simp only [go_sem,Int.reduceToNat];omega)).trans ?_
  dsimp only
  rw [hn,hi']
  refine (qH (by simp only [go_sem,Int.reduceToNat];omega)).trans ?_
  exact qB (by simp only [go_sem,Int.reduceToNat];omega)
 have hend:f (0,(l.length:Int),())=some (.ex 0 (0,(l.length:Int),())):=by subst hf;exact qB (by simp only [go_sem,Int.reduceToNat];omega)
 have hloop:=(qM (f:=f) (fun i=>(0,(i:Int),())) l.length step 0 (Nat.zero_le _)).trans (qT hend)
 refine (qY (show loop f (0,0,())=_ from hloop)).trans ?_
 refine (qH g62).trans ?_
 rw [qq4 _ _ h1 h2 h]
 refine (qG rfl).trans ?_
 dsimp only
 have:=qbJ h1 h2 h
 rw [qjB _ _ hk (by omega)];rfl
def qcX (k b:BB):BB:=(tagD k b).take 16
theorem qkZ (k b:BB):(qcX k b).length=16:=by unfold qcX;rw [List.length_take,qd3];rfl
theorem qgQ (k b:BB) (hk:k.length≤1000000) (hb:b.length≤1000000):qdB (k,b,())=some (qcX k b,()):=by
 unfold qdB
 dsimp only
 rw [qoA _ _ hk hb]
 refine (qG rfl).trans ?_
 dsimp only
 have:=qd3 k b
 refine (qH (by simp only [go_sem,Int.reduceToNat];omega)).trans ?_
 rfl
theorem qfQ (k b:BB) (hk:k.length≤1000000) (hb:b.length≤1000000):qaW (k,b,())=some (qcX k b,()):=by
 unfold qaW
 dsimp only
 rw [qjB _ _ hk hb]
 refine (qG rfl).trans ?_
 dsimp only
 have:=qd3 k b
 refine (qH (by simp only [go_sem,Int.reduceToNat];omega)).trans ?_
 rfl
abbrev ET:=BB×BB×Unit
theorem qv6 (p:qcP) (k b:BB):qpS (p,k,b,())=some (D ((k,b,())∈p.2.1),()):=by
 unfold qpS
 congr 2
 refine qi4 ?_
 rw [List.any_eq_true]
 constructor
 ·rintro ⟨⟨e1,e2,⟨⟩⟩,he,h⟩
  simp only [band,seq,Bool.and_eq_true,beq_iff_eq] at h
  rw [h.1,h.2];exact he
 ·intro h
  exact ⟨_,h,by simp [band,seq]⟩
theorem qtH (p:qcP) (k b:BB) (hl:p.2.1.length≤1000000):qlC (p,k,b,())=some (D ((k,b,())∈p.2.1),()):=by
 unfold qlC
 dsimp only
 generalize p.2.1=l at hl
 generalize hf:(fun (x_1:Bool×Int×Unit)=>(_:Option (LS (Bool×Int×Unit) (Bool×Unit))))=f
 have hsame:∀ (i:Nat) (h:i < l.length),nth l (nat (i:Int)) (none' UInt8,none' UInt8,())=l[i]:=fun i h=>by rw [qU,qL h]
 have key:=qbS (f:=f) l (fun i=>(false,(i:Int),())) 0 ((true,()):Bool×Unit) (fun e=>¬ e=(k,b,())) (fun i h hp => ?_) (fun i h hp => ?_) ?_
 ·rcases key with ⟨h,hl⟩ | ⟨h,hl⟩
  ·refine (qY (show loop f (false,0,())=_ from hl)).trans ?_
   refine (qH g62).trans ?_
   rw [D_f (fun hm=>h _ hm rfl)]
  ·refine (qY (show loop f (false,0,())=_ from hl)).trans ?_
   rw [D_t (Classical.byContradiction fun hm=>h fun x hx e=>hm (e ▸ hx))];rfl
 ·subst hf
  have hi':i64 (iadd (i:Int) 1)=((i+1:Nat):Int):=i64n (by show (i:Int)+1=_;omega) (by omega)
  refine (qE (by simp (disch:=first | assumption | omega | (dsimp only;omega) | decide) only [go_sem,Int.reduceToNat];omega)).trans ?_
  refine (qH (by simp (disch:=first | assumption | omega | (dsimp only;omega) | decide) only [go_sem,Int.reduceToNat];omega)).trans ?_
  dsimp only
  rw [hsame i h,hi']
  generalize l[i]=e at hp
  obtain ⟨e1,e2,⟨⟩⟩:=e
  by_cases h1:e1=k
  ·have h2:¬ e2=b:=fun h2=>hp (by rw [h1,h2])
   simp (disch:=omega) only [go_sem,Int.reduceToNat,zC,h1,h2]
  ·simp (disch:=omega) only [go_sem,Int.reduceToNat,zC,h1]
 ·subst hf
  have hp':l[i]=(k,b,()):=Classical.byContradiction hp
  refine (qE (by simp (disch:=omega) only [go_sem,Int.reduceToNat];omega)).trans ?_
  refine (qH (by simp (disch:=omega) only [go_sem,Int.reduceToNat];omega)).trans ?_
  dsimp only
  rw [hsame i h,hp']
  simp (disch:=omega) only [go_sem,Int.reduceToNat,zC]
 ·subst hf
  exact qB (by simp (disch:=omega) only [go_sem,Int.reduceToNat];omega)
def ptag (p:qcP) (k b:BB):qcP:=if (k,b,())∈p.2.1 then p else (p.1,p.2.1++[(k,b,())],p.2.2)
theorem qBs {α:Type} (l:List α):sub l 0 (len l)=l:=by
 unfold sub
 rw [show (0:Int).toNat=0 from rfl,List.drop_zero,show (len l).toNat=l.length from qU,List.take_of_length_le (by omega)]
theorem qCd {α:Type} (l:List α):band (inC 0 (len l) (len l)) (beq (len l) (len l))=true:=by
 rw [qnT rfl,g37];simp only [go_sem,Int.reduceToNat];omega
theorem qEH (l:List ET):zL (l,())=some (l,()):=by
 unfold zL
 dsimp only
 rw [qBs]
 exact qH (qCd l)
theorem qfW (l:BB) (h:l.length≤1000000):qbG (l,())=some (l,()):=by
 unfold qbG
 exact qH (by simp only [go_sem,Int.reduceToNat];omega)
theorem qv5 (p:qcP) (k b:BB) (hl:p.2.1.length≤1000000) (hk:k.length≤1000000) (hb:b.length≤1000000):qpR (p,k,b,())=some (ptag p k b,qcX k b,()):=by
 unfold qpR
 dsimp only
 rw [qv6]
 refine (qG rfl).trans ?_
 unfold ptag
 by_cases h:(k,b,())∈p.2.1
 ·rw [D_t h,if_pos h]
  refine (qB rfl).trans ?_
  rw [qgQ _ _ hk hb];rfl
 ·rw [D_f h,if_neg h]
  refine (qE rfl).trans ?_
  rw [qEH]
  refine (qG rfl).trans ?_
  rw [qfW _ hk]
  refine (qG rfl).trans ?_
  rw [qfW _ hb]
  refine (qG rfl).trans ?_
  refine (qH (by simp only [go_sem,Int.reduceToNat];simp;omega)).trans ?_
  rw [qgQ _ _ hk hb];rfl
theorem qtG (p:qcP) (k b:BB) (hl:p.2.1.length≤1000000) (hk:k.length≤1000000) (hb:b.length≤1000000):qlA (p,k,b,())=some (ptag p k b,qcX k b,()):=by
 unfold qlA
 dsimp only
 rw [qtH _ _ _ hl]
 refine (qG rfl).trans ?_
 unfold ptag
 by_cases h:(k,b,())∈p.2.1
 ·rw [D_t h,if_pos h]
  refine (qB rfl).trans ?_
  rw [qfQ _ _ hk hb];rfl
 ·rw [D_f h,if_neg h]
  refine (qE rfl).trans ?_
  refine (qH (by simp only [go_sem,Int.reduceToNat];omega)).trans ?_
  refine (qH (by simp only [go_sem,Int.reduceToNat];simp;omega)).trans ?_
  rw [qfQ _ _ hk hb];rfl
theorem qLe (p:qcP) (k b:BB):(ptag p k b).2.1.length≤p.2.1.length+1:=by
 unfold ptag
 split
 ·omega
 ·simp
theorem qq3 (p:qcP) (hl:p.2.1.length≤1000000):qc5 (p,p,())=some (true,()):=by
 unfold qc5
 dsimp only
 have e1:∀ b:Bool,beb b b=true:=fun b=>by cases b <;> rfl
 rw [e1,e1,qnT rfl]
 refine (qG (a:=(false,())) rfl).trans ?_
 refine (qB rfl).trans ?_
 generalize p.2.1=l at hl
 generalize hf:(fun (x_1:Bool×Int×Unit)=>(_:Option (LS (Bool×Int×Unit) (Bool×Unit))))=f
 have step:∀ i:Nat,i < l.length→f (false,(i:Int),())=some (.nx (false,((i+1:Nat):Int),())):=by
  intro i hi
  subst hf
  have hi':i64 (iadd (i:Int) 1)=((i+1:Nat):Int):=i64n (by show (i:Int)+1=_;omega) (by omega)
  refine (qE (by simp (disch:=omega) only [go_sem,Int.reduceToNat];omega)).trans ?_
  dsimp only
  rw [hi']
  simp (disch:=omega) only [go_sem,Int.reduceToNat,zC]
 have hend:f (false,(l.length:Int),())=some (.ex 0 (false,(l.length:Int),())):=by subst hf;exact qB (by simp (disch:=omega) only [go_sem,Int.reduceToNat];omega)
 have hloop:=(qM (f:=f) (fun i=>(false,(i:Int),())) l.length step 0 (Nat.zero_le _)).trans (qT hend)
 refine (qY (show loop f (false,0,())=_ from hloop)).trans ?_
 exact qH g62
def fewP (p:qcP) (most:Int):Prop:=(p.2.1.length:Int)≤most∧∀ e∈p.2.1,e.1.length≤100∧e.2.1.length≤2000
theorem qtI (p:qcP) (most:Int) (hm:most≤1000000):qgK (p,most,())=some (D (fewP p most),()):=by
 unfold qgK fewP
 dsimp only
 generalize p.2.1=l
 by_cases h0:(l.length:Int)≤most
 ·refine (qB (by simp (disch:=first | assumption | omega | (dsimp only;omega) | decide) only [go_sem,Int.reduceToNat];omega)).trans ?_
  generalize hf:(fun (x_1:Bool×Int×Unit)=>(_:Option (LS (Bool×Int×Unit) (Bool×Unit))))=f
  have hsame:∀ (i:Nat) (h:i < l.length),nth l (nat (i:Int)) (none' UInt8,none' UInt8,())=l[i]:=fun i h=>by rw [qU,qL h]
  have key:=qbS (f:=f) l (fun i=>(false,(i:Int),())) 0 ((false,()):Bool×Unit) (fun e=>e.1.length≤100∧e.2.1.length≤2000) (fun i h hp => ?_) (fun i h hp => ?_) ?_
  ·rcases key with ⟨h,hl⟩ | ⟨h,hl⟩
   ·refine (qY (show loop f (false,0,())=_ from hl)).trans ?_
    refine (qH g62).trans ?_
    rw [D_t ⟨h0,h⟩]
   ·refine (qY (show loop f (false,0,())=_ from hl)).trans ?_
    rw [D_f (fun hm=>h hm.2)];rfl
  ·subst hf
   have hi':i64 (iadd (i:Int) 1)=((i+1:Nat):Int):=i64n (by show (i:Int)+1=_;omega) (by omega)
   refine (qE (by simp (disch:=omega) only [go_sem,Int.reduceToNat];omega)).trans ?_
   dsimp only
   rw [hsame i h,hi']
   obtain ⟨p1,p2⟩:=hp
   simp (disch:=omega) only [go_sem,Int.reduceToNat]
  ·subst hf
   refine (qE (by simp (disch:=omega) only [go_sem,Int.reduceToNat];omega)).trans ?_
   dsimp only
   rw [hsame i h]
   by_cases h1:l[i].1.length≤100
   ·have h2:¬ l[i].2.1.length≤2000:=fun h2=>hp ⟨h1,h2⟩
    simp (disch:=omega) only [go_sem,Int.reduceToNat]
   ·simp (disch:=omega) only [go_sem,Int.reduceToNat]
  ·subst hf
   exact qB (by simp (disch:=omega) only [go_sem,Int.reduceToNat];omega)
 ·refine (qE (by simp (disch:=omega) only [go_sem,Int.reduceToNat];omega)).trans ?_
  rw [D_f (fun h=>h0 h.1)]
def big8 (n:Int):BB:=ps 256 byt n.toNat 8
theorem qsW (n:Int):(big8 n).length=8:=zI _ _ _ _
def recD (n:Int):BB:=big8 n++(qo1 ([u8 121,u8 101,u8 116,u8 116]++big8 n)).take 8
theorem qBG (n:Int):(recD n).length=16:=by unfold recD;rw [List.length_append,qsW,List.length_take,xN];rfl
def qKn (n:Int):Prop:=1≤n∧n≤4611686018427387904
theorem qMk {n:Int} (h:qKn n):((1:Int)≤8∧(8:Int)≤8∧0≤n∧n < 256 ^ (8:Int).toNat):=by
 obtain ⟨h1,h2⟩:=h
 refine ⟨by omega,by omega,by omega, ?_⟩
 show n < 256 ^ 8
 omega
theorem qm7 (n:Int) (hn:n≤9223372036854775807):qbN (n,())=some (if 1≤n∧n≤4611686018427387904 then (recD n,0,()) else ([],1,())):=by
 unfold qbN
 dsimp only
 by_cases h:1≤n∧n≤4611686018427387904
 ·rw [if_pos h]
  refine (qG (a:=(false,())) ((qB (by simp only [go_sem,Int.reduceToNat];omega)).trans (by rw [show lt 4611686018427387904 n=false from lt_f (by omega)]))).trans ?_
  refine (qB rfl).trans ?_
  rw [qcB _ _ hn,if_pos (qMk h)]
  refine (qG rfl).trans ?_
  dsimp only
  rw [show ps 256 byt n.toNat (8:Int).toNat=big8 n from rfl]
  have:=qsW n
  refine (qH (by simp only [go_sem,Int.reduceToNat];simp;omega)).trans ?_
  rw [show app [u8 121,u8 101,u8 116,u8 116] (big8 n)=[u8 121,u8 101,u8 116,u8 116]++big8 n from rfl,wS _ (by simp;omega)]
  refine (qG rfl).trans ?_
  dsimp only
  have h2:=xN ([u8 121,u8 101,u8 116,u8 116]++big8 n)
  refine (qH (by simp only [go_sem,Int.reduceToNat];omega)).trans ?_
  refine (qH (by simp only [go_sem,Int.reduceToNat];omega)).trans ?_
  rw [show cut (qo1 ([u8 121,u8 101,u8 116,u8 116]++big8 n)) (nat 0) (nsub (nat 8) (nat 0))=(qo1 ([u8 121,u8 101,u8 116,u8 116]++big8 n)).take 8 from rfl,show app (none' UInt8) (big8 n)=big8 n from rfl]
  refine (qH (by simp only [go_sem,Int.reduceToNat];simp;omega)).trans ?_
  rfl
 ·rw [if_neg h]
  by_cases h1:n < 1
  ·refine (qG (a:=(true,())) (qE (by simp only [go_sem,Int.reduceToNat];omega))).trans ?_
   rfl
  ·refine (qG (a:=(true,())) ((qB (by simp only [go_sem,Int.reduceToNat];omega)).trans (by rw [show lt 4611686018427387904 n=true from lt_t (by omega)]))).trans ?_
   rfl
abbrev ST:=BB×BB×Unit
def qDk (s:ST):Prop:=s.1.length=16∧s.2.1.length=16
def newS:ST:=(recD 1,List.replicate 16 (u8 0),())
theorem qtA:qgG ()=some (newS,()):=by
 unfold qgG
 rw [qm7 _ (by decide),if_pos (by decide)]
 rfl
theorem qo7 (s:ST):qeA (s,())=some (D (qDk s),()):=by
 unfold qeA qDk
 by_cases h:s.1.length=16
 ·simp only [go_sem,Int.reduceToNat,h];exact zH (by omega)
 ·rw [D_f (fun h'=>h h'.1)];simp (disch:=omega) only [go_sem,Int.reduceToNat];try omega
theorem qqV (s:ST):qh9 (s,s,())=some (true,()):=by
 unfold qh9
 simp only [go_sem,Int.reduceToNat,zC]
theorem qtB (s:ST):qk5 (s,())=some (D (s.1.length≤100∧s.2.1.length≤100),()):=by
 unfold qk5
 by_cases h:s.1.length≤100
 ·simp only [go_sem,Int.reduceToNat];exact zH (by omega)
 ·rw [D_f (fun h'=>h h'.1)];simp (disch:=omega) only [go_sem,Int.reduceToNat];try omega
def jN (p:Int):Prop:=2≤p∧p≤6
def qe6 (p:Int):Prop:=p=3∨p=4∨p=5
instance (p:Int):Decidable (jN p):=by unfold jN;infer_instance
instance (p:Int):Decidable (qe6 p):=by unfold qe6;infer_instance
def qBR (p:Int):Int:=if p=0 then 0 else if p=1 then 1 else if p=2 then 2 else if p=3 then 3 else if p=4 then 4 else if p=5 then 4 else if p=6 then 5 else -1
theorem qaY (p:Int):yL (p,())=some (qBR p,()):=by
 unfold yL qBR
 by_cases h0:p=0
 ·subst h0;rfl
 by_cases h1:p=1
 ·subst h1;rfl
 by_cases h2:p=2
 ·subst h2;rfl
 by_cases h3:p=3
 ·subst h3;rfl
 by_cases h4:p=4
 ·subst h4;rfl
 by_cases h5:p=5
 ·subst h5;rfl
 by_cases h6:p=6
 ·subst h6;rfl
 rw [if_neg h0,if_neg h1,if_neg h2,if_neg h3,if_neg h4,if_neg h5,if_neg h6]
 simp (disch:=omega) only [go_sem,Int.reduceToNat]
theorem qJ9 (p:Int):2≤qBR p↔jN p:=by
 unfold qBR jN
 repeat' split
 all_goals omega
theorem qIa (p:Int):qBR p=3∨qBR p=4↔qe6 p:=by
 unfold qBR qe6
 repeat' split
 all_goals omega
theorem qm9 (p:Int):qbR (p,())=some (D (jN p),()):=by
 unfold qbR
 rw [qaY]
 simp only [go_sem,Int.reduceToNat,qJ9]
theorem qaZ (p:Int):w9 (p,())=some (D (qe6 p),()):=by
 unfold w9
 rw [qaY]
 simp only [go_sem,Int.reduceToNat,qaY,qIa]
theorem yG (p:Int):vY (p,())=some (D (jN p),()):=by
 unfold vY jN
 simp only [go_sem,Int.reduceToNat]
theorem qaN (p:Int):qc1 (p,())=some (D (qe6 p),()):=by
 unfold qc1 qe6
 simp only [go_sem,Int.reduceToNat]
 exact zH or_assoc
def qwZ (c s:Int) (b:BB):Prop:=y6 c∧1≤s∧s≤999999∧1≤b.length∧b.length≤900
instance (c s:Int) (b:BB):Decidable (qwZ c s b):=by unfold qwZ;infer_instance
theorem quF (c:Int):qmN (c,())=some (D (y6 c),()):=by
 unfold qmN y6
 by_cases h1:c=1
 ·subst h1;simp only [go_sem,Int.reduceToNat]
 by_cases h2:c=2
 ·subst h2;simp (disch:=omega) only [go_sem,Int.reduceToNat]
 by_cases h3:c=101
 ·subst h3;simp (disch:=omega) only [go_sem,Int.reduceToNat]
 by_cases h4:c=201
 ·subst h4;simp (disch:=omega) only [go_sem,Int.reduceToNat]
 simp only [go_sem,Int.reduceToNat,h1,h2,h3,h4]
theorem qx8 (c s:Int) (b:BB):qp0 (c,s,b,())=some (D (qwZ c s b),()):=by
 unfold qp0 qwZ
 rw [quF]
 by_cases hk:y6 c
 ·simp only [go_sem,Int.reduceToNat,hk];exact zH (by omega)
 ·rw [D_f (p:=_∧_) (fun h=>hk h.1)];simp only [go_sem,Int.reduceToNat,hk]
theorem qqS (c s:Int) (b:BB):qh6 (c,s,b,())=some (D (qwZ c s b),()):=by
 unfold qh6 qwZ
 rw [qo6]
 by_cases hk:y6 c
 ·simp only [go_sem,Int.reduceToNat,hk];exact zH (by omega)
 ·rw [D_f (p:=_∧_) (fun h=>hk h.1)];simp only [go_sem,Int.reduceToNat,hk]
def noA:TAsk:=(0,0,0,0,[],())
def qsX (c s:Int) (b:BB):TAsk×Int×Unit:=if qwZ c s b then ((c,s,8,3,b,()),0,()) else (noA,1,())
theorem quG (c s:Int) (b:BB):qmO (c,s,b,())=some (qsX c s b):=by
 unfold qmO qsX
 rw [qx8]
 by_cases h:qwZ c s b
 ·rw [D_t h,if_pos h];rfl
 ·rw [D_f h,if_neg h];rfl
theorem qqU (a:TAsk):qh8 (a,())=some (D (a=noA),()):=by
 obtain ⟨c,s,d,l,b,⟨⟩⟩:=a
 unfold qh8 noA
 simp only [go_sem,Int.reduceToNat]
 refine zH ?_
 simp only [Prod.mk.injEq,and_true]
 have hb:(b.length:Int)=0↔b=[]:=by rw [← List.length_eq_zero_iff];omega
 rw [hb]
 constructor
 ·rintro ⟨⟨⟨⟨h1,h2⟩,h3⟩,h4⟩,h5⟩;exact ⟨h1,h2,h3,h4,h5⟩
 ·rintro ⟨h1,h2,h3,h4,h5⟩;exact ⟨⟨⟨⟨h1,h2⟩,h3⟩,h4⟩,h5⟩
theorem qx7 (a:TAsk):qpZ (a,())=some (D (a=noA),()):=by
 obtain ⟨c,s,d,l,b,⟨⟩⟩:=a
 unfold qpZ qyA noA
 simp only [go_sem,Int.reduceToNat,qfV]
 refine zH ?_
 simp only [Prod.mk.injEq,and_true]
 constructor
 ·rintro ⟨⟨⟨⟨h1,h2⟩,h3⟩,h4⟩,h5⟩;exact ⟨h1,h2,h3,h4,h5⟩
 ·rintro ⟨h1,h2,h3,h4,h5⟩;exact ⟨⟨⟨⟨h1,h2⟩,h3⟩,h4⟩,h5⟩
def quZ (a:TAsk) (c s:Int):Prop:=¬ a=noA∧a.1=c∧a.2.1=s
theorem quE (a:TAsk) (c s:Int):qmM (a,c,s,())=some (D (quZ a c s),()):=by
 unfold qmM quZ
 rw [qx7]
 simp only [go_sem,Int.reduceToNat]
def qFE (a:TAsk):Prop:=a=noA∨qwZ a.1 a.2.1 a.2.2.2.2.1∧1≤a.2.2.1∧a.2.2.1≤8∧0≤a.2.2.2.1∧a.2.2.2.1≤3
theorem qo5 (a:TAsk):qd8 (a,())=some (D (qFE a),()):=by
 unfold qd8 qFE
 rw [qqU]
 simp only [go_sem,Int.reduceToNat,qqS]
 refine zH ?_
 simp only [and_assoc]
theorem qqT (a:TAsk):qh7 (a,a,())=some (true,()):=by
 unfold qh7
 simp only [go_sem,Int.reduceToNat,zC]
def wN (n:Int):Int:=if n < 0∨999999≤n then 1 else n+1
theorem qx9 (n:Int):qp1 (n,())=some (wN n,()):=by
 unfold qp1 wN
 by_cases h:n < 0∨999999≤n
 ·rw [if_pos h];simp (disch:=omega) only [go_sem,Int.reduceToNat]
 ·rw [if_neg h];simp (disch:=omega) only [go_sem,Int.reduceToNat]
def qLf (u:List Bool) (n:Nat):Option Nat:=((List.range 4).map fun i=>(n+i) % 4).find? fun c=>u.getD c false
def wD (h:THub):THub×Int×Int×Unit:=match qLf h.1 h.2.2.2.1.toNat with | none=>(h,0,11,()) | some c=>((h.1,h.2.1,h.2.2.1,(((c+1) % 4:Nat):Int),()),(c:Int),0,())
theorem four {α:Type} {w:List α} (h:w.length=4):∃ a b c d,w=[a,b,c,d]:=by
 match w,h with
 | [a,b,c,d],_=>exact ⟨a,b,c,d,rfl⟩
theorem qwR (h:THub) (hu:h.1.length=4) (hn:0≤h.2.2.2.1∧h.2.2.2.1 < 4):qpX (h,())=some (wD h):=by
 obtain ⟨u,f,l,n,⟨⟩⟩:=h
 dsimp only at hu hn
 obtain ⟨a,b,c,d,rfl⟩:=four hu
 have:n=0∨n=1∨n=2∨n=3:=by omega
 unfold qpX
 rcases this with rfl | rfl | rfl | rfl <;> cases a <;> cases b <;> cases c <;> cases d <;> (refine (qY (qgW 5 rfl)).trans ?_;kernel_rfl)
theorem qqX (h:THub) (hu:h.1.length=4) (hn:0≤h.2.2.2.1∧h.2.2.2.1 < 4):qiC (h,())=some (wD h):=by
 obtain ⟨u,f,l,n,⟨⟩⟩:=h
 dsimp only at hu hn
 obtain ⟨a,b,c,d,rfl⟩:=four hu
 have:n=0∨n=1∨n=2∨n=3:=by omega
 unfold qiC qqY
 rcases this with rfl | rfl | rfl | rfl <;> cases a <;> cases b <;> cases c <;> cases d <;> first | (refine (qG (a:=(false,())) rfl).trans ?_;refine (qE rfl).trans ?_;kernel_rfl) | (refine (qG (a:=(true,())) rfl).trans ?_;refine (qB rfl).trans ?_;refine (qY (qgW 5 rfl)).trans ?_;kernel_rfl)
theorem qrV (b:BB) (h:1≤b.length∧b.length≤1024):qiT (b,())=some (qnA b,0,()):=by
 unfold qiT
 refine (qG (a:=(false,())) ((qB (by simp only [go_sem,Int.reduceToNat];omega)).trans (by rw [show lt 1024 (len b)=false from lt_f (by simp only [go_sem,Int.reduceToNat];omega)]))).trans ?_
 refine (qB rfl).trans ?_
 refine (qH (by simp only [go_sem,Int.reduceToNat];simp;omega)).trans ?_
 rfl
theorem qqZ (b:BB) (h:1≤b.length∧b.length≤1024):qiD (b,())=some (qnA b,0,()):=by
 unfold qiD
 refine (qG (a:=(false,())) ((qB (by simp only [go_sem,Int.reduceToNat];omega)).trans (by rw [show lt 1024 (len b)=false from lt_f (by simp only [go_sem,Int.reduceToNat];omega)]))).trans ?_
 refine (qB rfl).trans ?_
 refine (qH (by simp only [go_sem,Int.reduceToNat];simp;omega)).trans ?_
 have q1:u8 (i64 (idiv (len b) 256))=u8 (shrI .i64 (len b) (n64 (u64 8))):=by
  have a1:idiv (len b) 256=((b.length / 256:Nat):Int):=by rw [g31 (by simp only [go_sem,Int.reduceToNat];omega)];simp only [go_sem,Int.reduceToNat];omega
  have a2:shrI .i64 (len b) (n64 (u64 8))=((b.length / 256:Nat):Int):=by show Int.fdiv (b.length:Int) (2 ^ 8)=_;rw [Int.fdiv_eq_ediv_of_nonneg _ (by decide)];omega
  rw [a1,a2,i64n rfl (by omega)]
 have q2:u8 (imod (len b) 256)=u8 (len b):=by
  rw [g32 (by simp only [go_sem,Int.reduceToNat];omega)];exact qyO (by simp only [go_sem,Int.reduceToNat];omega)
 dsimp only
 rw [q1,q2];rfl
abbrev GT:=Int×BB×Unit
def noG:GT:=(0,[],())
def noR:qdX:=(noG,noG,noG,0,0,())
theorem qMb (g:GT):(g.1=0∧(g.2.1.length:Int)=0)↔g=noG:=by
 obtain ⟨n,k,⟨⟩⟩:=g
 unfold noG
 have hb:(k.length:Int)=0↔k=[]:=by rw [← List.length_eq_zero_iff];omega
 simp only [Prod.mk.injEq,and_true,hb]
theorem qaR (g:GT):v3 (g,())=some (D (g=noG),()):=by
 unfold v3
 simp only [go_sem,Int.reduceToNat]
 exact zH (qMb g)
def qc7 (g:GT):Prop:=1≤g.1∧g.1≤2147483647∧g.2.1.length=32
instance (g:GT):Decidable (qc7 g):=by unfold qc7;infer_instance
theorem qaQ (g:GT):wY (g,())=some (D (qc7 g),()):=by
 unfold wY qc7
 simp only [go_sem,Int.reduceToNat]
 exact zH (by omega)
theorem qMa (r:qdX):(r.1=noG∧r.2.1=noG∧r.2.2.1=noG∧r.2.2.2.1=0∧r.2.2.2.2.1=0)↔r=noR:=by
 obtain ⟨a,b,c,l,t,⟨⟩⟩:=r
 unfold noR
 simp only [Prod.mk.injEq,and_true]
theorem qfM (r:qdX):qaS (r,())=some (D (r=noR),()):=by
 unfold qaS
 simp only [go_sem,Int.reduceToNat,qaR]
 refine zH (Iff.trans ?_ (qMa r))
 simp only [and_assoc]
def newR (k:BB):qdX×Int×Unit:=if k.length=32 then (((1,k,()),noG,noG,0,1,()),0,()) else (noR,1,())
theorem qtC (k:BB):qk6 (k,())=some (newR k):=by
 unfold qk6 newR
 by_cases h:k.length=32
 ·rw [if_pos h];simp (disch:=omega) only [go_sem,Int.reduceToNat];rfl
 ·rw [if_neg h];simp (disch:=omega) only [go_sem,Int.reduceToNat];rfl
def qn4 (r:qdX):Prop:=r=noR∨(qc7 r.1∧r.2.2.2.2.1≤2147483647∧r.1.1≤r.2.2.2.2.1∧r.2.2.1.1≤r.2.2.2.2.1 ∧
 (r.2.1=noG∧r.2.2.2.1=0∨¬ r.2.1=noG∧qc7 r.2.1∧r.2.1.1 < r.1.1∧1≤r.2.2.2.1∧r.2.2.2.1≤16)∧(r.2.2.1=noG∨qc7 r.2.2.1∧r.1.1 < r.2.2.1.1))
theorem qpA (r:qdX):qeD (r,())=some (D (qn4 r),()):=by
 unfold qeD qn4
 dsimp only
 rw [qfM]
 refine (qG rfl).trans ?_
 by_cases h0:r=noR
 ·rw [D_t h0,D_t (.inl h0)];rfl
 ·rw [D_f h0]
  refine (qB rfl).trans ?_
  rw [qaQ]
  refine (qG rfl).trans ?_
  by_cases h1:qc7 r.1∧r.2.2.2.2.1≤2147483647∧r.1.1≤r.2.2.2.2.1∧r.2.2.1.1≤r.2.2.2.2.1
  ·obtain ⟨a1,a2,a3,a4⟩:=h1
   refine (qG (a:=(false,())) (by simp (disch:=first | assumption | omega | (dsimp only;omega) | decide) only [go_sem,Int.reduceToNat,a1];try exact qb4 (by omega))).trans ?_
   refine (qB rfl).trans ?_
   rw [qaR,qaQ,qaR,qaQ]
   refine (qG rfl).trans ?_
   refine (qG rfl).trans ?_
   refine (qG rfl).trans ?_
   refine (qG rfl).trans ?_
   dsimp only
   by_cases h2:r.2.1=noG
   ·by_cases h3:r.2.2.2.1=0
    ·simp (disch:=first | assumption | omega | (dsimp only;omega) | decide) only [go_sem,Int.reduceToNat,h2,h3,a1,a2,a3,a4,h0]
    ·have:¬ (r=noR∨(qc7 r.1∧r.2.2.2.2.1≤2147483647∧r.1.1≤r.2.2.2.2.1∧r.2.2.1.1≤r.2.2.2.2.1∧(r.2.1=noG∧r.2.2.2.1=0∨¬ r.2.1=noG∧qc7 r.2.1∧r.2.1.1 < r.1.1∧1≤r.2.2.2.1∧r.2.2.2.1≤16)∧(r.2.2.1=noG∨qc7 r.2.2.1∧r.1.1 < r.2.2.1.1))):=by
      rintro (h | ⟨_,_,_,_,h | h,_⟩)
      ·exact h0 h
      ·exact h3 h.2
      ·exact h.1 h2
     rw [D_f this]
     simp (disch:=first | assumption | omega | (dsimp only;omega) | decide) only [go_sem,Int.reduceToNat,h2,h3]
   ·by_cases h3:qc7 r.2.1∧r.2.1.1 < r.1.1∧1≤r.2.2.2.1∧r.2.2.2.1≤16
    ·obtain ⟨b1,b2,b3,b4⟩:=h3
     simp (disch:=omega) only [go_sem,Int.reduceToNat,h2,b1,b2,b3,b4,a1,a2,a3,a4,h0]
    ·have:¬ (r=noR∨(qc7 r.1∧r.2.2.2.2.1≤2147483647∧r.1.1≤r.2.2.2.2.1∧r.2.2.1.1≤r.2.2.2.2.1∧(r.2.1=noG∧r.2.2.2.1=0∨¬ r.2.1=noG∧qc7 r.2.1∧r.2.1.1 < r.1.1∧1≤r.2.2.2.1∧r.2.2.2.1≤16)∧(r.2.2.1=noG∨qc7 r.2.2.1∧r.1.1 < r.2.2.1.1))):=by
      rintro (h | ⟨_,_,_,_,h | h,_⟩)
      ·exact h0 h
      ·exact h2 h.1
      ·exact h3 h.2
     rw [D_f this]
     by_cases c1:qc7 r.2.1
     ·have c2:¬ (r.2.1.1 < r.1.1∧1≤r.2.2.2.1∧r.2.2.2.1≤16):=fun h=>h3 ⟨c1,h⟩
      refine (qG (a:=(true,())) (by simp (disch:=omega) only [go_sem,Int.reduceToNat,h2,c1];try exact qfH (by omega))).trans ?_
      rfl
     ·simp (disch:=omega) only [go_sem,Int.reduceToNat,h2,c1]
  ·have:¬ (r=noR∨(qc7 r.1∧r.2.2.2.2.1≤2147483647∧r.1.1≤r.2.2.2.2.1∧r.2.2.1.1≤r.2.2.2.2.1∧(r.2.1=noG∧r.2.2.2.1=0∨¬ r.2.1=noG∧qc7 r.2.1∧r.2.1.1 < r.1.1∧1≤r.2.2.2.1∧r.2.2.2.1≤16)∧(r.2.2.1=noG∨qc7 r.2.2.1∧r.1.1 < r.2.2.1.1))):=by
    rintro (h | ⟨b1,b2,b3,b4,_⟩)
    ·exact h0 h
    ·exact h1 ⟨b1,b2,b3,b4⟩
   rw [D_f this]
   by_cases c1:qc7 r.1
   ·have c2:¬ (r.2.2.2.2.1≤2147483647∧r.1.1≤r.2.2.2.2.1∧r.2.2.1.1≤r.2.2.2.2.1):=fun h=>h1 ⟨c1,h⟩
    refine (qG (a:=(true,())) (by simp (disch:=omega) only [go_sem,Int.reduceToNat,c1];try exact qfH (by omega))).trans ?_
    rfl
   ·simp (disch:=omega) only [go_sem,Int.reduceToNat,c1]
theorem qqW (r:qdX):qiA (r,r,())=some (true,()):=by
 unfold qiA kF
 simp only [go_sem,Int.reduceToNat,zC]
def fewR (r:qdX):Prop:=r.1.2.1.length≤100∧r.2.1.2.1.length≤100∧r.2.2.1.2.1.length≤100
theorem qtD (r:qdX):qk7 (r,())=some (D (fewR r),()):=by
 unfold qk7 fewR
 simp only [go_sem,Int.reduceToNat]
 exact zH (by omega)
def z1 (n:Int):Prop:=0≤n∧n≤4611686018427387904
instance (n:Int):Decidable (z1 n):=by unfold z1;infer_instance
def e0 (v:TEnv):Int:=nth v.2.2.1 0 0
def e1 (v:TEnv):Int:=nth v.2.2.1 1 0
def qdD (v:TEnv):Prop:=(v.1=1∨v.1=2)∧z1 (e0 v)∧z1 (e1 v)∧z1 v.2.2.2.2.1∧(v.2.1=0∨v.2.1=1)∧(0≤v.2.2.2.1∧v.2.2.2.1≤2147483647)∧1≤v.2.2.2.2.2.1.length∧v.2.2.2.2.2.1.length≤900
theorem qbD (n hi:Int):qaD (n,hi,())=some (D (0≤n∧n≤hi),()):=by
 unfold qaD
 simp only [go_sem,Int.reduceToNat]
theorem yH (n:Int):vZ (n,())=some (D (z1 n),()):=by
 unfold vZ z1
 simp only [go_sem,Int.reduceToNat]
theorem qjG (v:TEnv):qhA (v,())=some (D (qdD v),()):=by
 obtain ⟨k,d,e,g,s,b,t,⟨⟩⟩:=v
 unfold qhA qdD e0 e1
 dsimp only
 by_cases hk:k=1∨k=2
 ·refine (qG (a:=(false,())) (by rcases hk with rfl | rfl <;> rfl)).trans ?_
  refine (qB rfl).trans ((qH rfl).trans ((qH rfl).trans ?_))
  rw [show nat 0=0 from rfl,show nat 1=1 from rfl]
  generalize nth e 0 0=x
  generalize nth e 1 0=y
  generalize hf:(fun (x_1:Bool×Int×Unit)=>(_:Option (LS (Bool×Int×Unit) (Bool×Unit))))=f
  have key:=qbS (f:=f) [x,y,s] (fun i=>(false,(i:Int),())) 0 ((false,()):Bool×Unit) z1 (fun i h hp => ?_) (fun i h hp => ?_) ?_
  ·rcases key with ⟨h,hl⟩ | ⟨h,hl⟩
   ·refine (qY (show loop f (false,0,())=_ from hl)).trans ?_
    refine (qH g62).trans ?_
    have h1:=h x (by simp)
    have h2:=h y (by simp)
    have h3:=h s (by simp)
    simp only [go_sem,Int.reduceToNat,qbD]
    refine zH ?_
    simp only [hk,h1,h2,h3,true_and]
    omega
   ·refine (qY (show loop f (false,0,())=_ from hl)).trans ?_
    rw [D_f (fun hc=>h fun z hz => ?_)]
    ·rfl
    ·simp only [List.mem_cons,List.not_mem_nil,or_false] at hz
     rcases hz with rfl | rfl | rfl
     ·exact hc.2.1
     ·exact hc.2.2.1
     ·exact hc.2.2.2.1
  ·subst hf
   have h3:i < 3:=h
   have hi':i64 (iadd (i:Int) 1)=((i+1:Nat):Int):=i64n (by show (i:Int)+1=_;omega) (by omega)
   refine (qE (by simp only [go_sem,Int.reduceToNat];omega)).trans ?_
   refine (qH (by simp only [go_sem,Int.reduceToNat];omega)).trans ?_
   dsimp only
   rw [hi',qU,qL h,qbD,D_t (show 0≤[x,y,s][i]∧[x,y,s][i]≤4611686018427387904 from hp)];rfl
  ·subst hf
   have h3:i < 3:=h
   refine (qE (by simp only [go_sem,Int.reduceToNat];omega)).trans ?_
   refine (qH (by simp only [go_sem,Int.reduceToNat];omega)).trans ?_
   dsimp only
   rw [qU,qL h,qbD,D_f (show ¬ (0≤[x,y,s][i]∧[x,y,s][i]≤4611686018427387904) from hp)];rfl
  ·subst hf
   exact qB rfl
 ·rw [D_f (fun h=>hk h.1)]
  simp only [not_or] at hk
  obtain ⟨h1,h2⟩:=hk
  refine (qG (a:=(true,())) (by simp only [go_sem,Int.reduceToNat,h1,h2])).trans ?_
  rfl
theorem qfK (v:TEnv):qaO (v,())=some (D (qdD v),()):=by
 obtain ⟨k,d,e,g,s,b,t,⟨⟩⟩:=v
 unfold qaO qdD e0 e1
 dsimp only
 refine (qH rfl).trans ?_
 rw [yH]
 refine (qG rfl).trans ?_
 refine (qH rfl).trans ?_
 rw [yH]
 refine (qG rfl).trans ?_
 rw [yH]
 refine (qG rfl).trans ?_
 dsimp only
 rw [show nat 0=0 from rfl,show nat 1=1 from rfl]
 by_cases h1:z1 (nth e 0 0)∧z1 (nth e 1 0)∧z1 s
 ·obtain ⟨a1,a2,a3⟩:=h1
  rw [D_t a1,D_t a2,D_t a3]
  by_cases hk:k=1
  ·subst hk
   by_cases hd:d=0
   ·subst hd
    simp only [go_sem,Int.reduceToNat];refine zH ?_;simp only [a1,a2,a3,true_and];omega
   ·by_cases hd':d=1
    ·subst hd'
     simp only [go_sem,Int.reduceToNat];refine zH ?_;simp only [a1,a2,a3,true_and];omega
    ·rw [D_f (p:=_∧_) (fun h=>by have:=h.2.2.2.2.1;omega)];simp (disch:=omega) only [go_sem,Int.reduceToNat]
  ·by_cases hk':k=2
   ·subst hk'
    by_cases hd:d=0
    ·subst hd
     simp only [go_sem,Int.reduceToNat];refine zH ?_;simp only [a1,a2,a3,true_and];omega
    ·by_cases hd':d=1
     ·subst hd'
      simp only [go_sem,Int.reduceToNat];refine zH ?_;simp only [a1,a2,a3,true_and];omega
     ·rw [D_f (p:=_∧_) (fun h=>by have:=h.2.2.2.2.1;omega)];simp (disch:=omega) only [go_sem,Int.reduceToNat]
   ·rw [D_f (p:=_∧_) (fun h=>by have:=h.1;omega)];simp (disch:=omega) only [go_sem,Int.reduceToNat]
 ·rw [D_f (p:=(k=1∨k=2)∧_) (fun h=>h1 ⟨h.2.1,h.2.2.1,h.2.2.2.1⟩)]
  by_cases c1:z1 (nth e 0 0)
  ·by_cases c2:z1 (nth e 1 0)
   ·have c3:¬ z1 s:=fun h=>h1 ⟨c1,c2,h⟩
    rw [D_t c1,D_t c2,D_f c3];rfl
   ·rw [D_t c1,D_f c2];rfl
  ·rw [D_f c1];rfl
def bigN (w:Nat) (n:Int):BB:=ps 256 byt n.toNat w
theorem zF (w:Nat) (n:Int):(bigN w n).length=w:=zI _ _ _ _
def j7 (v:TEnv):BB:=bigN 1 v.1++bigN 1 v.2.1++bigN 8 (e0 v)++bigN 8 (e1 v)++bigN 4 v.2.2.2.1++bigN 8 v.2.2.2.2.1++v.2.2.2.2.2.1
theorem wU (v:TEnv):(j7 v).length=30+v.2.2.2.2.2.1.length:=by unfold j7;simp only [List.length_append,zF]
theorem qIz {n:Int} {w:Nat} (h1:1≤w) (h8:w≤8) (h0:0≤n) (h:n < 256 ^ w) (hn:n≤9223372036854775807):qfA (n,(w:Int),())=some (bigN w n,0,()):=by
 rw [qAu _ _ hn,if_pos ⟨by omega,by omega,h0,by rw [Int.toNat_natCast];exact h⟩,Int.toNat_natCast];rfl
theorem qc8 {n:Int} {w:Nat} (h1:1≤w) (h8:w≤8) (h0:0≤n) (h:n < 256 ^ w) (hn:n≤9223372036854775807):jL (n,(w:Int),())=some (bigN w n,()):=by
 unfold jL
 dsimp only
 rw [qcB _ _ hn,if_pos ⟨by omega,by omega,h0,by rw [Int.toNat_natCast];exact h⟩,Int.toNat_natCast];rfl
theorem qpV {f:Int×BB×Unit→Option (LS (Int×BB×Unit) Unit)} (w:Nat) (l:List Int) (acc:BB) (h1:1≤w) (h8:w≤8) (hl:l.length≤10) (ha:acc.length≤1000) (h:∀ n∈l,0≤n∧n < 256 ^ w∧n≤9223372036854775807)
  (hf:f=fun (x_1:Int×BB×Unit)=>sel (lt x_1.1 (len l)) (ck (inB x_1.1 (len l)) (ob (qfA (nth l (nat x_1.1) 0,(w:Int),())) fun (a:BB×Int×Unit)=>ck (rm 1 (nadd (ln x_1.2.1) (ln a.1))) (some (LS.nx (i64 (iadd x_1.1 1),app x_1.2.1 a.1,()))))) (some (LS.ex 0 (x_1.1,x_1.2.1,())))) :
  loop f (0,acc,())=some (.ex 0 ((l.length:Int),acc++l.flatMap (bigN w),())):=by
 have hL:∀ i,((l.take i).flatMap (bigN w)).length≤8*i:=by
  intro i
  rw [List.length_flatMap]
  have:((l.take i).map fun a=>(bigN w a).length)=(l.take i).map fun _=>w:=List.map_congr_left fun a _=>zF w a
  rw [this,List.map_const',List.sum_replicate_nat,List.length_take]
  have:min i l.length*w≤i*8:=Nat.mul_le_mul (Nat.min_le_left _ _) h8
  omega
 have step:∀ i:Nat,i < l.length→f ((i:Int),acc++(l.take i).flatMap (bigN w),())=some (.nx (((i+1:Nat):Int),acc++(l.take (i+1)).flatMap (bigN w),())):=by
  intro i hi
  subst hf
  have hi':i64 (iadd (i:Int) 1)=((i+1:Nat):Int):=i64n (by show (i:Int)+1=_;omega) (by omega)
  obtain ⟨q1,q2,q3⟩:=h l[i] (List.getElem_mem hi)
  have hLi:=hL i
  refine (qE (by simp only [go_sem,Int.reduceToNat];omega)).trans ?_
  refine (qH (by simp only [go_sem,Int.reduceToNat];omega)).trans ?_
  dsimp only
  rw [hi',qU,qL hi,qIz h1 h8 q1 q2 q3]
  refine (qG rfl).trans ?_
  have hb:=zF w l[i]
  refine (qH (by simp only [go_sem,Int.reduceToNat];simp only [List.length_append,zF];omega)).trans ?_
  rw [List.take_succ_eq_append_getElem hi,List.flatMap_append,List.flatMap_cons,List.flatMap_nil,List.append_nil]
  unfold app
  rw [List.append_assoc]
 have hend:∀ u,f ((l.length:Int),u,())=some (.ex 0 ((l.length:Int),u,())):=by subst hf;intro u;exact qB (by simp only [go_sem,Int.reduceToNat];omega)
 have:=(qM (f:=f) (fun i=>((i:Int),acc++(l.take i).flatMap (bigN w),())) l.length step 0 (Nat.zero_le _)).trans (qT (hend _))
 rw [List.take_of_length_le (Nat.le_refl _),List.take_zero,List.flatMap_nil,List.append_nil] at this
 exact this
theorem qjH (v:TEnv) (hv:qdD v):qhB (v,())=some (j7 v,0,()):=by
 unfold qhB
 dsimp only
 rw [qjG,D_t hv]
 refine (qG rfl).trans ?_
 refine (qB rfl).trans ?_
 obtain ⟨k,d,e,g,s,b,t,⟨⟩⟩:=v
 unfold j7
 obtain ⟨h1,h2,h3,h4,h5,h6,h7,h8⟩:=hv
 unfold e0 z1 at h2
 unfold e1 z1 at h3
 unfold z1 at h4
 unfold e0 e1
 dsimp only at *
 rw [show nat 0=0 from rfl,show nat 1=1 from rfl]
 generalize nth e 0 0=x at h2
 generalize nth e 1 0=y at h3
 refine (qY (qpV 1 [k,d] [] (by omega) (by omega) (by simp) (by simp) (fun n hn => ?_) rfl)).trans ?_
 ·simp only [List.mem_cons,List.not_mem_nil,or_false] at hn
  rcases hn with rfl | rfl <;> omega
 refine (qH g62).trans ((qH rfl).trans ((qH rfl).trans ?_))
 refine (qY (qpV 8 [x,y] _ (by omega) (by omega) (by simp) (by simp [zF]) (fun n hn => ?_) rfl)).trans ?_
 ·simp only [List.mem_cons,List.not_mem_nil,or_false] at hn
  rcases hn with rfl | rfl <;> omega
 refine (qH g62).trans ?_
 refine (qY (qpV 4 [g] _ (by omega) (by omega) (by simp) (by simp [zF]) (fun n hn => ?_) rfl)).trans ?_
 ·simp only [List.mem_cons,List.not_mem_nil,or_false] at hn
  subst hn;omega
 refine (qH g62).trans ?_
 refine (qY (qpV 8 [s] _ (by omega) (by omega) (by simp) (by simp [zF]) (fun n hn => ?_) rfl)).trans ?_
 ·simp only [List.mem_cons,List.not_mem_nil,or_false] at hn
  subst hn;omega
 refine (qH g62).trans ?_
 dsimp only
 refine (qH (by simp only [go_sem,Int.reduceToNat];simp [zF];omega)).trans ?_
 unfold app
 simp only [List.flatMap_cons,List.flatMap_nil,List.append_nil,List.nil_append,List.append_assoc]
theorem qfL (v:TEnv) (hv:qdD v):qaP (v,())=some (j7 v,0,()):=by
 unfold qaP
 dsimp only
 rw [qfK,D_t hv]
 refine (qG rfl).trans ?_
 refine (qB rfl).trans ?_
 obtain ⟨k,d,e,g,s,b,t,⟨⟩⟩:=v
 unfold j7
 obtain ⟨h1,h2,h3,h4,h5,h6,h7,h8⟩:=hv
 unfold e0 z1 at h2
 unfold e1 z1 at h3
 unfold z1 at h4
 unfold e0 e1
 dsimp only at *
 rw [show nat 0=0 from rfl,show nat 1=1 from rfl]
 generalize nth e 0 0=x at h2
 generalize nth e 1 0=y at h3
 rw [show jL (k,1,())=_ from qc8 (w:=1) (by omega) (by omega) (by omega) (by omega) (by omega)]
 refine (qG rfl).trans ?_
 rw [show jL (d,1,())=_ from qc8 (w:=1) (by omega) (by omega) (by omega) (by omega) (by omega)]
 refine (qG rfl).trans ?_
 have l1:=zF 1 k
 have l2:=zF 1 d
 refine (qH (by simp only [go_sem,Int.reduceToNat];omega)).trans ?_
 refine (qH rfl).trans ?_
 rw [show jL (x,8,())=_ from qc8 (w:=8) (by omega) (by omega) (by omega) (by omega) (by omega)]
 refine (qG rfl).trans ?_
 refine (qH (by simp only [go_sem,Int.reduceToNat];simp [zF])).trans ?_
 refine (qH rfl).trans ?_
 rw [show jL (y,8,())=_ from qc8 (w:=8) (by omega) (by omega) (by omega) (by omega) (by omega)]
 refine (qG rfl).trans ?_
 refine (qH (by simp only [go_sem,Int.reduceToNat];simp [zF])).trans ?_
 rw [show jL (g,4,())=_ from qc8 (w:=4) (by omega) (by omega) (by omega) (by omega) (by omega)]
 refine (qG rfl).trans ?_
 refine (qH (by simp only [go_sem,Int.reduceToNat];simp [zF])).trans ?_
 rw [show jL (s,8,())=_ from qc8 (w:=8) (by omega) (by omega) (by omega) (by omega) (by omega)]
 refine (qG rfl).trans ?_
 refine (qH (by simp only [go_sem,Int.reduceToNat];simp [zF])).trans ?_
 refine (qH (by simp only [go_sem,Int.reduceToNat];simp [zF];omega)).trans ?_
 rfl
def qn3 (v:TEnv):Prop:=qdD v∧v.2.2.2.2.2.2.1.length=16
theorem qtY (v:TEnv):ql4 (v,())=some (D (qn3 v),()):=by
 unfold ql4 qn3
 rw [qjG]
 simp only [go_sem,Int.reduceToNat]
 exact zH (and_congr_right fun _=>by omega)
theorem qo9 (v:TEnv):qeC (v,())=some (D (qn3 v),()):=by
 unfold qeC qn3
 rw [qfK]
 simp only [go_sem,Int.reduceToNat]
 exact zH (and_congr_right fun _=>by omega)
theorem qtX (v:TEnv) (hv:qn3 v):ql3 (v,())=some (j7 v++v.2.2.2.2.2.2.1,0,()):=by
 unfold ql3
 dsimp only
 rw [qtY,D_t hv]
 refine (qG rfl).trans ?_
 refine (qB rfl).trans ?_
 rw [qjH _ hv.1]
 refine (qG rfl).trans ?_
 have h1:=wU v
 have h2:=hv.2
 have h3:=hv.1.2.2.2.2.2.2.2
 refine (qH (by simp only [go_sem,Int.reduceToNat];omega)).trans ?_
 rfl
theorem qo8 (v:TEnv) (hv:qn3 v):qeB (v,())=some (j7 v++v.2.2.2.2.2.2.1,0,()):=by
 unfold qeB
 dsimp only
 rw [qo9,D_t hv]
 refine (qG rfl).trans ?_
 refine (qB rfl).trans ?_
 rw [qfL _ hv.1]
 refine (qG rfl).trans ?_
 have h1:=wU v
 have h2:=hv.2
 have h3:=hv.1.2.2.2.2.2.2.2
 refine (qH (by simp only [go_sem,Int.reduceToNat];omega)).trans ?_
 rfl
abbrev WT:=Int×List UInt64×Unit
abbrev qKI:=Int×BB×Unit
abbrev EvT:=Int×List Int×Int×BB×Unit
structure En' where
 id:Int
 key:BB
 ph:Int
 store:ST
 power:Int
 own:Int
 oth:Int
 seen:Int
 seq:Int
 win:WT
 ring:qdX
 ask:TAsk
 stan:Int
 day:Int
 queue:List BB
 hub:THub
 out:List qKI
 got:List EvT
 cnt:List Int
def En'.t (e:En'):TEnd:=(e.id,e.key,e.ph,e.store,e.power,e.own,e.oth,e.seen,e.seq,e.win,e.ring,e.ask,e.stan,e.day,e.queue,e.hub,e.out,e.got,e.cnt,())
structure Si where
 e:En'
 p:qcP
def Si.t (s:Si):yC:=(s.e.t,s.p,())
def toEn (x:TEnd):En':=⟨x.1,x.2.1,x.2.2.1,x.2.2.2.1,x.2.2.2.2.1,x.2.2.2.2.2.1,x.2.2.2.2.2.2.1,x.2.2.2.2.2.2.2.1,x.2.2.2.2.2.2.2.2.1,x.2.2.2.2.2.2.2.2.2.1,x.2.2.2.2.2.2.2.2.2.2.1,x.2.2.2.2.2.2.2.2.2.2.2.1,x.2.2.2.2.2.2.2.2.2.2.2.2.1,
 x.2.2.2.2.2.2.2.2.2.2.2.2.2.1,x.2.2.2.2.2.2.2.2.2.2.2.2.2.2.1,x.2.2.2.2.2.2.2.2.2.2.2.2.2.2.2.1,x.2.2.2.2.2.2.2.2.2.2.2.2.2.2.2.2.1,x.2.2.2.2.2.2.2.2.2.2.2.2.2.2.2.2.2.1,x.2.2.2.2.2.2.2.2.2.2.2.2.2.2.2.2.2.2.1⟩
theorem qK5 (x:yC):∃ s:Si,x=s.t:=⟨⟨toEn x.1,x.2.1⟩,rfl⟩
def noW:WT:=(0,[u64 0,u64 0,u64 0,u64 0,u64 0,u64 0,u64 0,u64 0,u64 0,u64 0,u64 0,u64 0,u64 0,u64 0,u64 0,u64 0],())
structure okE (n:Nat) (e:En'):Prop where
 id:e.id=0∨e.id=1
 key:e.key.length≤1000
 ph:0≤e.ph∧e.ph≤8
 store:qDk e.store
 own:z1 e.own
 oth:z1 e.oth
 seq:z1 e.seq
 ring:qn4 e.ring
 up:e.hub.1.length=4
 next:0≤e.hub.2.2.2.1∧e.hub.2.2.2.1 < 4
 out:e.out.length≤n
 got:e.got.length≤n
 cnt:e.cnt.length=4
 win:e.win.2.1.length=16
 feed:e.hub.2.1.length=4
 life:e.hub.2.2.1.length=4
 queue:e.queue.length≤1000
structure okS (n:Nat) (s:Si):Prop where
 e:okE n s.e
 p:s.p.2.1.length≤n
def qlG (e:En'):List Int:=if e.id=0 then [e.own,e.oth] else if e.id=1 then [e.oth,e.own] else [0,0]
theorem qdK (hi n:Int):qa7 (hi,[n],())=some (D (0≤n∧n≤hi),()):=by
 unfold qa7
 dsimp only
 by_cases h:0≤n∧n≤hi
 ·rw [D_t h]
  refine (qY (vV (y:=(false,1,())) ?_)).trans ((qY (qT (y:=(false,1,())) (k:=0) rfl)).trans rfl)
  refine (qE rfl).trans ((qH rfl).trans ?_)
  dsimp only
  rw [show nth [n] (nat 0) 0=n from rfl]
  simp (disch:=omega) only [go_sem,Int.reduceToNat]
  rfl
 ·rw [D_f h]
  refine (qY (qeS (r:=(false,())) ?_)).trans rfl
  refine (qE rfl).trans ((qH rfl).trans ?_)
  dsimp only
  rw [show nth [n] (nat 0) 0=n from rfl]
  refine (qG (a:=(true,())) (by simp only [go_sem,Int.reduceToNat];try exact qfH (by omega))).trans ?_
  rfl
theorem qcF (e:En'):kP (e.t,())=some (qlG e,()):=by
 unfold kP qlG
 dsimp only [En'.t]
 rw [qdK]
 by_cases h0:e.id=0
 ·rw [h0,D_t (by omega),if_pos rfl];rfl
 ·rw [if_neg h0]
  by_cases h1:e.id=1
  ·rw [h1,D_t (by omega),if_pos rfl];rfl
  ·rw [if_neg h1,D_f (by omega)];rfl
theorem qaM (e:En'):yF (e.t,())=some (qlG e,()):=by
 unfold yF qlG
 dsimp only [En'.t]
 by_cases h0:e.id=0
 ·rw [h0,if_pos rfl];rfl
 ·rw [if_neg h0]
  by_cases h1:e.id=1
  ·rw [h1,if_pos rfl];rfl
  ·rw [if_neg h1];simp (disch:=omega) only [go_sem,Int.reduceToNat]
def qIA (key:BB):BB:=qr4 key [98,97,115,101] []
theorem qBg (key:BB):(qIA key).length=32:=qjJ _ _ _
theorem qtQ (key:BB) (h:key.length≤1000000):qg1 (key,())=some (qIA key,()):=by
 unfold qg1
 dsimp only
 rw [qrK _ _ _ h (by decide) (by decide) (by simp [none'])];rfl
def keyD (key:BB) (p:List Int) (gen:Int) (nonce:BB):BB :=
 if z1 (nth p 0 0)∧z1 (nth p 1 0)∧0≤gen∧gen≤2147483647 then qr4 key [108,105,110,107] [bigN 8 (nth p 0 0),bigN 8 (nth p 1 0),bigN 4 gen,nonce] else []
theorem jJ (n:Int):jX (n,())=some (D (z1 n),()):=by
 unfold jX z1
 simp only [go_sem,Int.reduceToNat]
theorem qJC {n:Int} {w:Int} (hw:w=8∨w=4) (h:0≤n∧n < 256 ^ w.toNat) (hn:n≤9223372036854775807):kJ (n,w,())=some (bigN w.toNat n,0,()):=by
 rw [qcB _ _ hn,if_pos ⟨by omega,by omega,h.1,h.2⟩];rfl
theorem qGy {a b:BB} {c nonce:BB} (ha:a.length=8) (hb:b.length=8) (hc:c.length=4) (hn:nonce.length≤1000):∀ p∈[a,b,c,nonce],p.length≤1000:=by
 intro p hp
 simp only [List.mem_cons,List.not_mem_nil,or_false] at hp
 rcases hp with rfl | rfl | rfl | rfl <;> omega
theorem p8 {n:Int} (h:z1 n):0≤n∧n < 256 ^ (8:Int).toNat:=⟨h.1,by have:=h.2;show n < 256 ^ 8;omega⟩
theorem qs7 (key:BB) (p:List Int) (gen:Int) (nonce:BB) (hk:key.length≤1000000) (hn:nonce.length≤1000):qgD (key,p,gen,nonce,())=some (keyD key p gen nonce,()):=by
 unfold qgD keyD
 refine (qH rfl).trans ?_
 dsimp only
 rw [show nat 0=0 from rfl,show nat 1=1 from rfl]
 generalize nth p 0 0=x
 generalize nth p 1 0=y
 rw [jJ]
 refine (qG rfl).trans ((qH rfl).trans ?_)
 rw [jJ]
 refine (qG rfl).trans ?_
 by_cases h:z1 x∧z1 y∧0≤gen∧gen≤2147483647
 ·obtain ⟨h1,h2,h3,h4⟩:=h
  rw [if_pos ⟨h1,h2,h3,h4⟩]
  refine (qG (a:=(false,())) (by rw [D_t h1,D_t h2];simp only [go_sem,Int.reduceToNat];try exact qb4 (by omega))).trans ?_
  refine (qB rfl).trans ((qH rfl).trans ?_)
  rw [qJC (.inl rfl) (p8 h1) (by have:=h1.2;omega)]
  refine (qG rfl).trans ((qH rfl).trans ?_)
  rw [qJC (.inl rfl) (p8 h2) (by have:=h2.2;omega)]
  refine (qG rfl).trans ?_
  rw [qJC (.inr rfl) ⟨h3,by show gen < 256 ^ 4;omega⟩ (by omega)]
  refine (qG rfl).trans ?_
  dsimp only
  rw [show (8:Int).toNat=8 from rfl,show (4:Int).toNat=4 from rfl,qm8 key [108,105,110,107] _ hk (by simp) (by simp) (qGy (zF _ _) (zF _ _) (zF _ _) hn)];rfl
 ·rw [if_neg h]
  refine (qG (a:=(true,())) ?_).trans rfl
  by_cases h1:z1 x
  ·by_cases h2:z1 y
   ·rw [D_t h1,D_t h2]
    have h3:¬ (0≤gen∧gen≤2147483647):=fun h3=>h ⟨h1,h2,h3⟩
    simp only [go_sem,Int.reduceToNat];try exact qfH (by omega)
   ·rw [D_t h1,D_f h2];rfl
  ·rw [D_f h1];rfl
theorem qBS {key:BB} {p:List Int} {gen:Int} {nonce:BB} (h:z1 (nth p 0 0)∧z1 (nth p 1 0)∧0≤gen∧gen≤2147483647):(keyD key p gen nonce).length=32:=by
 unfold keyD;rw [if_pos h,qjJ]
def qH7 (e:En') (p:Int):En':={ e with ph:=p,own:=0,oth:=0,seq:=0,win:=noW,ring:=noR,ask:=noA,queue:=[],got:=if jN e.ph then e.got++[(5,qlG e,0,[],())] else e.got }
theorem qEF (l:List EvT):zK (l,())=some (l,()):=by
 unfold zK
 dsimp only
 rw [qBs]
 exact qH (qCd l)
theorem qEG (l:List qKI):zN (l,())=some (l,()):=by
 unfold zN
 dsimp only
 rw [qBs]
 exact qH (qCd l)
theorem qi9 (e:En') (k:Int) (p:List Int) (s:Int) (b:BB) (hg:e.got.length≤1000000):qgE (e.t,k,p,s,b,())=some (({ e with got:=e.got++[(k,p,s,b,())] }:En').t,()):=by
 unfold qgE
 dsimp only [En'.t]
 refine (qH (by simp only [go_sem,Int.reduceToNat];omega)).trans ?_
 refine (qH (by simp only [go_sem,Int.reduceToNat];simp;omega)).trans ?_
 rfl
theorem qqR (e:En') (p:Int) (hg:e.got.length≤1000000):qh5 (e.t,p,())=some ((qH7 e p).t,()):=by
 unfold qh5 qH7
 rw [show (e.t,p,()).1.2.2.1=e.ph from rfl,yG]
 refine (qG rfl).trans ?_
 by_cases h:jN e.ph
 ·rw [D_t h,if_pos h]
  refine (qE rfl).trans ?_
  dsimp only
  rw [qaM]
  refine (qG rfl).trans ?_
  dsimp only
  rw [show (none' UInt8:BB)=[] from rfl,qi9 _ _ _ _ _ hg]
  rfl
 ·rw [D_f h,if_neg h];rfl
theorem bq_f {a b:Int} (h:a=b):bnot (beq a b)=false:=by rw [qnT h];rfl
theorem bq_t {a b:Int} (h:¬ a=b):bnot (beq a b)=true:=by rw [qbH h];rfl
theorem qm3 {r:qdX} (h:qn4 r):0≤r.1.1∧r.1.1≤2147483647∧r.1.2.1.length≤32:=by
 rcases h with rfl | ⟨⟨h1,h2,h3⟩,_⟩
 ·exact ⟨by decide,by decide,by decide⟩
 ·omega
def qhC (s:Si) (v:TEnv) (key:BB):Si×Int :=
 if (wD s.e.hub).2.2.1=0 then
  (⟨{ s.e with hub:=(wD s.e.hub).1,out:=s.e.out++[((wD s.e.hub).2.1,qnA (j7 v++qcX key (j7 v)),())] },ptag s.p key (j7 v)⟩,0)
 else (s,(wD s.e.hub).2.2.1)
theorem qjE {s:Si} {n:Nat} (hs:okS n s) (hn:n≤900000) (v:TEnv) (hv:qdD v) (key:BB) (hk:key.length≤1000000):qg0 (s.t,v,key,())=some ((qhC s v key).1.t,(qhC s v key).2,()):=by
 unfold qg0 qhC
 dsimp only [Si.t,En'.t]
 have hp:=hs.p
 have ho:=hs.e.out
 rw [qwR _ hs.e.up hs.e.next]
 refine (qG rfl).trans ?_
 by_cases hh:(wD s.e.hub).2.2.1=0
 ·rw [if_pos hh]
  refine (qB (by simp only [go_sem,Int.reduceToNat];exact not_not_intro hh)).trans ?_
  rw [qjH _ hv]
  refine (qG rfl).trans ?_
  have hb:=hv.2.2.2.2.2.2
  have hl:=wU v
  dsimp only
  rw [qv5 _ _ _ (by omega) hk (by omega)]
  refine (qG rfl).trans ?_
  dsimp only
  have ht:=qkZ key (j7 v)
  rw [qtX (v.1,v.2.1,v.2.2.1,v.2.2.2.1,v.2.2.2.2.1,v.2.2.2.2.2.1,qcX key (j7 v),v.2.2.2.2.2.2.2) ⟨hv,ht⟩]
  refine (qG rfl).trans ?_
  dsimp only
  rw [show j7 (v.1,v.2.1,v.2.2.1,v.2.2.2.1,v.2.2.2.2.1,v.2.2.2.2.2.1,qcX key (j7 v),v.2.2.2.2.2.2.2)=j7 v from rfl,qrV _ (by rw [List.length_append];omega)]
  refine (qG rfl).trans ?_
  rw [qEG]
  refine (qG rfl).trans ?_
  refine (qH (by simp only [go_sem,Int.reduceToNat];simp;omega)).trans ?_
  rfl
 ·rw [if_neg hh]
  refine (qE (by simp only [go_sem,Int.reduceToNat];exact hh)).trans ?_
  rfl
theorem qqP {s:Si} {n:Nat} (hs:okS n s) (hn:n≤900000) (v:TEnv) (hv:qdD v) (key:BB) (hk:key.length≤1000000):qh3 (s.t,v,key,())=some ((qhC s v key).1.t,(qhC s v key).2,()):=by
 unfold qh3 qhC
 dsimp only [Si.t,En'.t]
 have hp:=hs.p
 have ho:=hs.e.out
 rw [qqX _ hs.e.up hs.e.next]
 refine (qG rfl).trans ?_
 by_cases hh:(wD s.e.hub).2.2.1=0
 ·rw [if_pos hh]
  refine (qB (by simp only [go_sem,Int.reduceToNat];exact not_not_intro hh)).trans ?_
  rw [qfL _ hv]
  refine (qG rfl).trans ?_
  have hb:=hv.2.2.2.2.2.2
  have hl:=wU v
  dsimp only
  rw [qtG _ _ _ (by omega) hk (by omega)]
  refine (qG rfl).trans ?_
  dsimp only
  have ht:=qkZ key (j7 v)
  rw [qo8 (v.1,v.2.1,v.2.2.1,v.2.2.2.1,v.2.2.2.2.1,v.2.2.2.2.2.1,qcX key (j7 v),v.2.2.2.2.2.2.2) ⟨hv,ht⟩]
  refine (qG rfl).trans ?_
  dsimp only
  rw [show j7 (v.1,v.2.1,v.2.2.1,v.2.2.2.1,v.2.2.2.2.1,v.2.2.2.2.2.1,qcX key (j7 v),v.2.2.2.2.2.2.2)=j7 v from rfl,qqZ _ (by rw [List.length_append];omega)]
  refine (qG rfl).trans ?_
  refine (qH (by simp only [go_sem,Int.reduceToNat];omega)).trans ?_
  refine (qH (by simp only [go_sem,Int.reduceToNat];simp;omega)).trans ?_
  rfl
 ·rw [if_neg hh]
  refine (qE (by simp only [go_sem,Int.reduceToNat];exact hh)).trans ?_
  rfl
def qjU (e:En') (body:BB):TEnv:=(2,e.id,qlG e,e.ring.1.1,e.seq,body,[],())
def setV (e:En') (other:Int) (body:BB):TEnv:=(1,e.id,qlG { e with oth:=other },0,0,body,[],())
def qe7 (b:BB):Prop:=1≤b.length∧b.length≤900
instance (b:BB):Decidable (qe7 b):=by unfold qe7;infer_instance
theorem qv8 {e:En'} (h1:z1 e.own) (h2:z1 e.oth):z1 (nth (qlG e) 0 0)∧z1 (nth (qlG e) 1 0):=by
 unfold qlG
 split
 ·exact ⟨h1,h2⟩
 split
 ·exact ⟨h2,h1⟩
 ·exact ⟨by decide,by decide⟩
theorem qqI {n:Nat} {e:En'} (h:okE n e) {body:BB} (hb:qe7 body):qdD (qjU e body):=by
 have hr:=qm3 h.ring
 exact ⟨.inr rfl,(qv8 h.own h.oth).1,(qv8 h.own h.oth).2,h.seq,h.id,⟨hr.1,hr.2.1⟩,hb.1,hb.2⟩
theorem qEg {n:Nat} {e:En'} (h:okE n e) {o:Int} (ho:z1 o) {body:BB} (hb:qe7 body):qdD (setV e o body):=by
 have:=qv8 (e:={ e with oth:=o }) h.own ho
 exact ⟨.inl rfl,this.1,this.2,by show z1 0;decide,h.id,⟨by show (0:Int)≤0;decide,by show (0:Int)≤2147483647;decide⟩,hb.1,hb.2⟩
def qaH (s:Si) (body:BB):Si×Int :=
 if ¬ qe7 body then (s,1) else if ¬ jN s.e.ph then (s,7) else if s.e.seq=4611686018427387904 then (s,10)
 else let r:=qhC s (qjU s.e body) s.e.ring.1.2.1;if r.2=0 then (⟨{ r.1.e with seq:=r.1.e.seq+1 },r.1.p⟩,0) else r
theorem qr1 (s:Si) (v:TEnv) (key:BB):(qhC s v key).1.e.seq=s.e.seq:=by unfold qhC;split <;> rfl
theorem qcE (b:BB):qgZ (b,())=some (D (qe7 b),()):=by
 unfold qgZ qe7
 simp only [go_sem,Int.reduceToNat]
 exact zH (by omega)
theorem qy1 {s:Si} {r:Si×Int} (hseq:z1 r.1.e.seq) (h10:¬ r.1.e.seq=4611686018427387904) :
    (ob (some (r.1.t,r.2,())) fun (a:yC×Int×Unit) =>
   sel (beq a.2.1 0) (some (((a.1.1.1,a.1.1.2.1,a.1.1.2.2.1,a.1.1.2.2.2.1,a.1.1.2.2.2.2.1,a.1.1.2.2.2.2.2.1,a.1.1.2.2.2.2.2.2.1,a.1.1.2.2.2.2.2.2.2.1,i64 (iadd a.1.1.2.2.2.2.2.2.2.2.1 1),a.1.1.2.2.2.2.2.2.2.2.2),a.1.2),a.2.1,())) (some (a.1,a.2.1,()))) =
      some ((if r.2=0 then (⟨{ r.1.e with seq:=r.1.e.seq+1 },r.1.p⟩,0) else r:Si×Int).1.t,(if r.2=0 then (⟨{ r.1.e with seq:=r.1.e.seq+1 },r.1.p⟩,0) else r:Si×Int).2,()):=by
  obtain ⟨⟨e,p⟩,c⟩:=r
  refine (qG rfl).trans ?_
  by_cases h:c=0
  · subst h
    rw [if_pos rfl]
    refine (qE rfl).trans ?_
    dsimp only [Si.t,En'.t] at hseq ⊢
    obtain ⟨q1,q2⟩:=hseq
    rw [show i64 (iadd e.seq 1)=e.seq+1 from jA (by show -9223372036854775808≤e.seq+1;omega) (by show e.seq+1≤9223372036854775807;omega)]
  · rw [if_neg h]
    refine (qB (by simp only [go_sem,Int.reduceToNat];exact h)).trans ?_
    rfl
theorem y0 {s:Si} {n:Nat} (hs:okS n s) (hn:n≤900000) (b:BB):kO (s.t,b,())=some ((qaH s b).1.t,(qaH s b).2,()):=by
 unfold kO qaH
 dsimp only
 rw [qcE]
 refine (qG rfl).trans ?_
 by_cases hb:qe7 b
 ·rw [D_t hb,if_neg (not_not_intro hb)]
  refine (qB rfl).trans ?_
  rw [show s.t.1.2.2.1=s.e.ph from rfl,qm9]
  refine (qG rfl).trans ?_
  by_cases hl:jN s.e.ph
  ·rw [D_t hl,if_neg (not_not_intro hl)]
   refine (qB rfl).trans ?_
   by_cases hq:s.e.seq=4611686018427387904
   ·rw [if_pos hq]
    exact qE (by simp only [go_sem,Int.reduceToNat];exact hq)
   ·rw [if_neg hq]
    refine (qB (by simp only [go_sem,Int.reduceToNat];exact hq)).trans ?_
    rw [show kP (s.t.1,())=_ from qcF s.e]
    refine (qG rfl).trans ?_
    have hv:=qqI hs.e hb
    have hk:=(qm3 hs.e.ring).2.2
    have hem:=qjE hs hn _ hv s.e.ring.1.2.1 (by omega)
    have h1:=qr1 s (qjU s.e b) s.e.ring.1.2.1
    exact Eq.trans (zV hem) (qy1 (s:=s) (r:=qhC s (qjU s.e b) s.e.ring.1.2.1) (by rw [h1];exact hs.e.seq) (by rw [h1];exact hq))
  ·rw [D_f hl,if_pos hl];rfl
 ·rw [D_f hb,if_pos hb];rfl
theorem qgC {s:Si} {n:Nat} (hs:okS n s) (hn:n≤900000) (b:BB):wX (s.t,b,())=some ((qaH s b).1.t,(qaH s b).2,()):=by
 unfold wX qaH
 dsimp only
 by_cases hb:qe7 b
 ·rw [if_neg (not_not_intro hb)]
  have hb1:=hb.1
  have hb2:=hb.2
  refine (qG (a:=(false,())) (by simp only [go_sem,Int.reduceToNat];try exact qb4 (by omega))).trans ?_
  refine (qB rfl).trans ?_
  rw [show s.t.1.2.2.1=s.e.ph from rfl,yG]
  refine (qG rfl).trans ?_
  by_cases hl:jN s.e.ph
  ·rw [D_t hl,if_neg (not_not_intro hl)]
   refine (qB rfl).trans ?_
   by_cases hq:s.e.seq=4611686018427387904
   ·rw [if_pos hq]
    exact qE (by simp only [go_sem,Int.reduceToNat];exact hq)
   ·rw [if_neg hq]
    refine (qB (by simp only [go_sem,Int.reduceToNat];exact hq)).trans ?_
    rw [show yF (s.t.1,())=_ from qaM s.e]
    refine (qG rfl).trans ?_
    have hv:=qqI hs.e hb
    have hk:=(qm3 hs.e.ring).2.2
    have hem:=qqP hs hn _ hv s.e.ring.1.2.1 (by omega)
    have h1:=qr1 s (qjU s.e b) s.e.ring.1.2.1
    exact Eq.trans (zV hem) (qy1 (s:=s) (r:=qhC s (qjU s.e b) s.e.ring.1.2.1) (by rw [h1];exact hs.e.seq) (by rw [h1];exact hq))
  ·rw [D_f hl,if_pos hl];rfl
 ·rw [if_pos hb]
  unfold qe7 at hb
  refine (qG (a:=(true,())) (by simp only [go_sem,Int.reduceToNat];try exact qfH (by omega))).trans ?_
  rfl
def quP (s:Si) (other:Int) (body:BB):Si×Int:=if z1 other∧qe7 body then qhC s (setV s.e other body) (qIA s.e.key) else (s,1)
theorem qrM {s:Si} {n:Nat} (hs:okS n s) (hn:n≤900000) (o:Int) (b:BB):qiO (s.t,o,b,())=some ((quP s o b).1.t,(quP s o b).2,()):=by
 unfold qiO quP
 dsimp only
 rw [qdK]
 refine (qG rfl).trans ?_
 by_cases hb:z1 o∧qe7 b
 ·rw [if_pos hb,D_t (show 0≤o∧o≤4611686018427387904 from hb.1)]
  refine (qG (a:=(false,())) ((qB rfl).trans (by rw [qcE,D_t hb.2];rfl))).trans ?_
  refine (qB rfl).trans ?_
  have hp:=qcF { s.e with oth:=o }
  refine (zV (show kP ((s.t.1.1,s.t.1.2.1,s.t.1.2.2.1,s.t.1.2.2.2.1,s.t.1.2.2.2.2.1,s.t.1.2.2.2.2.2.1,o,s.t.1.2.2.2.2.2.2.2),())=_ from hp)).trans ?_
  refine (qG rfl).trans ?_
  have hk:=hs.e.key
  rw [show qg1 (s.t.1.2.1,())=_ from qtQ s.e.key (by omega)]
  refine (qG rfl).trans ?_
  have hem:=qjE hs hn _ (qEg hs.e hb.1 hb.2) (qIA s.e.key) (by rw [qBg];omega)
  exact (zV hem).trans rfl
 ·rw [if_neg hb]
  refine (qG (a:=(true,())) ?_).trans rfl
  by_cases h1:z1 o
  ·rw [D_t (show 0≤o∧o≤4611686018427387904 from h1)]
   refine (qB rfl).trans ?_
   rw [qcE,D_f (fun h=>hb ⟨h1,h⟩)];rfl
  ·rw [D_f (show ¬ (0≤o∧o≤4611686018427387904) from h1)];rfl
def qMj (c:List Int) (i:Nat):List Int:=upd c i (i64 (iadd (nth c i 0) 1))
def qG4 (s:Si) (i:Nat):Si:=⟨{ s.e with cnt:=qMj s.e.cnt i },s.p⟩
theorem qz4 (s:Si):v6 (s.t,13,())=some ((qG4 s 3).t,()):=by
 unfold v6
 exact (qY (qgW 5 rfl)).trans rfl
theorem qwE {n m:Nat} {e:En'} (h:okE n e) (hm:n≤m):okE m e:={ h with out:=Nat.le_trans h.out hm,got:=Nat.le_trans h.got hm }
theorem xC {n m:Nat} {s:Si} (h:okS n s) (hm:n≤m):okS m s:=⟨qwE h.e hm,Nat.le_trans h.p hm⟩
theorem qDt (h:THub):(wD h).1.1=h.1:=by unfold wD;split <;> rfl
theorem qEo (h:THub):(wD h).1.2.1=h.2.1:=by unfold wD;split <;> rfl
theorem qEn (h:THub):(wD h).1.2.2.1=h.2.2.1:=by unfold wD;split <;> rfl
theorem quS {h:THub} (hn:0≤h.2.2.2.1∧h.2.2.2.1 < 4):0≤(wD h).1.2.2.2.1∧(wD h).1.2.2.2.1 < 4:=by
 unfold wD
 split
 ·exact hn
 ·rename_i c _
  show (0:Int)≤((c+1) % 4:Nat)∧(((c+1) % 4:Nat):Int) < 4
  omega
theorem qDA {n:Nat} {s:Si} (h:okS n s) (v:TEnv) (key:BB):okS (n+1) (qhC s v key).1:=by
 unfold qhC
 split
 ·refine ⟨{ h.e with up:=(by rw [← h.e.up];exact congrArg List.length (qDt s.e.hub)),next:=quS h.e.next,feed:=(by rw [← h.e.feed];exact congrArg List.length (qEo s.e.hub)),life:=(by rw [← h.e.life];exact congrArg List.length (qEn s.e.hub)),out := ?_,got:=Nat.le_succ_of_le h.e.got }, ?_⟩
  ·have:=h.e.out
   simp only [List.length_append,List.length_cons,List.length_nil];omega
  ·have:=qLe s.p key (j7 v)
   have:=h.p
   show (ptag s.p key (j7 v)).2.1.length≤n+1
   omega
 ·exact xC h (by omega)
theorem qwD {n:Nat} {s:Si} (h:okS n s) (b:BB):okS (n+1) (qaH s b).1:=by
 unfold qaH
 split
 ·exact xC h (by omega)
 split
 ·exact xC h (by omega)
 split
 ·exact xC h (by omega)
 ·rename_i h1 h2 h3
  have h4:=qDA h (qjU s.e b) s.e.ring.1.2.1
  have h5:=qr1 s (qjU s.e b) s.e.ring.1.2.1
  dsimp only
  split
  ·refine ⟨{ h4.e with seq := ?_ },h4.p⟩
   have:=h.e.seq
   show z1 (_+1)
   rw [h5]
   unfold z1 at *
   omega
  ·exact h4
theorem qF8 {n:Nat} {s:Si} (h:okS n s) (o:Int) (b:BB):okS (n+1) (quP s o b).1:=by
 unfold quP
 split
 ·exact qDA h _ _
 ·exact xC h (by omega)
def qvM (s:Si) (q:yW):Si:=⟨{ s.e with stan:=wN s.e.stan,ask:=(qsX q.2.1 (wN s.e.stan) (wrN (q.1,q.2.1,wN s.e.stan,q.2.2.2)).1).1 },s.p⟩
def qq8 (s:Si) (q:yW):Si :=
 if (wrN (q.1,q.2.1,wN s.e.stan,q.2.2.2)).2.1=0∧(qsX q.2.1 (wN s.e.stan) (wrN (q.1,q.2.1,wN s.e.stan,q.2.2.2)).1).2.1=0 then
  (if q.2.1=1 then (quP (qvM s q) 0 (wrN (q.1,q.2.1,wN s.e.stan,q.2.2.2)).1).1 else (qaH (qvM s q) (wrN (q.1,q.2.1,wN s.e.stan,q.2.2.2)).1).1)
 else s
theorem qnC {n:Nat} {s:Si} (h:okS n s) (q:yW):okS n (qvM s q):=⟨{ h.e with },h.p⟩
theorem qF9 {n:Nat} {s:Si} (h:okS n s) (q:yW):okS (n+1) (qq8 s q):=by
 unfold qq8
 split
 ·split
  ·exact qF8 (qnC h q) _ _
  ·exact qwD (qnC h q) _
 ·exact xC h (by omega)
theorem qkL {s:Si} {n:Nat} (hs:okS n s) (hn:n≤900000) (q:yW):wO (s.t,q,())=some ((qq8 s q).t,()):=by
 unfold wO qq8
 dsimp only
 rw [show s.t.1.2.2.2.2.2.2.2.2.2.2.2.2.1=s.e.stan from rfl,qx9]
 refine (qG rfl).trans ?_
 dsimp only
 rw [qgS]
 have hok:=qnC hs q
 have hset:=qrM hok hn 0 (wrN (q.1,q.2.1,wN s.e.stan,q.2.2.2)).1
 have hsend:=y0 hok hn (wrN (q.1,q.2.1,wN s.e.stan,q.2.2.2)).1
 unfold qvM at hset hsend ⊢
 generalize wrN (q.1,q.2.1,wN s.e.stan,q.2.2.2)=w at hset hsend ⊢
 obtain ⟨b,we,⟨⟩⟩:=w
 refine (qG rfl).trans ?_
 dsimp only at hset hsend ⊢
 rw [quG]
 generalize qsX q.2.1 (wN s.e.stan) b=a at hset hsend ⊢
 obtain ⟨a,ae,⟨⟩⟩:=a
 refine (qG rfl).trans ?_
 dsimp only at hset hsend ⊢
 by_cases h:we=0∧ae=0
 ·obtain ⟨rfl,rfl⟩:=h
  rw [if_pos ⟨rfl,rfl⟩]
  refine (qG (a:=(false,())) rfl).trans ((qB rfl).trans ?_)
  by_cases hc:q.2.1=1
  ·rw [if_pos hc]
   refine (qE (by simp only [go_sem,Int.reduceToNat];exact hc)).trans ?_
   exact (zV hset).trans rfl
  ·rw [if_neg hc]
   refine (qB (by simp only [go_sem,Int.reduceToNat];exact hc)).trans ?_
   exact (zV hsend).trans rfl
 ·rw [if_neg h]
  refine (qG (a:=(true,())) ?_).trans rfl
  by_cases h1:we=0
  ·have h2:¬ ae=0:=fun h2=>h ⟨h1,h2⟩
   exact (qB (by rw [h1];rfl)).trans (by rw [show beq ae 0=false from qbH h2];rfl)
  ·exact qE (by rw [show beq we 0=false from qbH h1];rfl)
def qF7 (e:En'):En':={ e with ph:=3,ask:=noA }
def qFI (n:yW) (res:Int):BB:=(wrN (ansN n res).1).1
theorem qID {s:Si} {m:Nat} (hs:okS m s) (hm:m≤900000) (n:yW) (res:Int) :
  (ob (qa5 (n,res,())) fun (a:yW×Int×Unit)=>ob (qaA (a.1,())) fun (b:BB×Int×Unit)=>ob (kO (s.t,b.1,())) fun (c:yC×Int×Unit)=>(some (c.1,()):Option (yC×Unit)))=some ((qaH s (qFI n res)).1.t,()):=by
 rw [qpJ]
 refine (qG rfl).trans ?_
 rw [qgS]
 refine (qG rfl).trans ?_
 exact (zV (y0 hs hm (qFI n res))).trans rfl
theorem qvG (s:Si):(ob (v6 (s.t,13,())) fun (a:yC×Unit)=>(some (a.1,()):Option (yC×Unit)))=some ((qG4 s 3).t,()):=(zV (qz4 s)).trans rfl
instance (a:TAsk) (c s:Int):Decidable (quZ a c s):=by unfold quZ;infer_instance
theorem qzW (x:UInt64):n64 x=(x.toNat:Int):=rfl
theorem qDs {k:Nat} (h:k≤63):2 ^ k≤9223372036854775808:=by
 have:=Nat.pow_le_pow_right (show 0 < 2 by omega) h
 have e:2 ^ 63=9223372036854775808:=by decide
 omega
theorem qpB (k:Nat) (hk:k≤63):qeE ((k:Int),())=some (u64 ((2 ^ k:Nat):Int),()):=by
 unfold qeE
 dsimp only
 generalize hf:(fun (x_1:UInt64×Int×Unit)=>(_:Option (LS (UInt64×Int×Unit) (UInt64×Unit))))=f
 have step:∀ i:Nat,i < k→f (u64 ((2 ^ i:Nat):Int),(i:Int),())=some (.nx (u64 ((2 ^ (i+1):Nat):Int),((i+1:Nat):Int),())):=by
  intro i hi
  subst hf
  have hi':i64 (iadd (i:Int) 1)=((i+1:Nat):Int):=i64n (by show (i:Int)+1=_;omega) (by omega)
  have hp:=qDs (k:=i) (by omega)
  have e:imul (n64 (u64 2)) (n64 (u64 ((2 ^ i:Nat):Int)))=((2 ^ (i+1):Nat):Int):=by
   rw [Nat.pow_succ]
   generalize 2 ^ i=m at hp
   rw [qgT (by decide),qgT (by omega)]
   show (2:Int)*(m:Int)=_
   omega
  refine (qE (by simp only [go_sem,Int.reduceToNat];omega)).trans ?_
  dsimp only
  rw [hi',e]
 have hend:∀ u,f (u,(k:Int),())=some (.ex 0 (u,(k:Int),())):=by subst hf;intro u;exact qB (by simp only [go_sem,Int.reduceToNat];omega)
 have hloop:=(qM (f:=f) (fun i=>(u64 ((2 ^ i:Nat):Int),(i:Int),())) k step 0 (Nat.zero_le _)).trans (qT (hend _))
 refine (qY (show loop f (u64 1,0,())=_ from hloop)).trans ?_
 exact qH g62
def bitW (w:WT) (p:Nat):Bool:=(nth w.2.1 (p / 64) (u64 0)).toNat / 2 ^ (p % 64) % 2 == 1
theorem qb9 (w:WT) (hw:w.2.1.length=16) (p:Nat) (hp:p < 1024):qc2 (w,(p:Int),())=some (bitW w p,()):=by
 unfold qc2 bitW
 dsimp only
 have e1:i64 (idiv (p:Int) 64)=((p / 64:Nat):Int):=by rw [g31 (by omega)];exact i64n (by omega) (by omega)
 have e2:imod (p:Int) 64=((p % 64:Nat):Int):=by rw [g32 (by omega)];omega
 rw [e1,e2]
 refine (qH (by simp only [go_sem,Int.reduceToNat];omega)).trans ?_
 rw [qpB _ (by omega)]
 refine (qG rfl).trans ?_
 have hq:=qDs (k:=p % 64) (by omega)
 have hq0:0 < 2 ^ (p % 64):=Nat.pow_pos (by omega)
 generalize 2 ^ (p % 64)=m at hq hq0 ⊢
 have e3:n64 (u64 (m:Int))=(m:Int):=qgT (by omega)
 dsimp only
 rw [e3]
 refine (qH (by simp only [go_sem,Int.reduceToNat];omega)).trans ?_
 rw [qU]
 generalize nth w.2.1 (p / 64) (u64 0)=x
 have hx:=x.toNat_lt
 have e4:idiv (n64 x) (m:Int)=((x.toNat / m:Nat):Int):=by
  rw [g31 (by rw [qzW];omega),qzW,Int.natCast_ediv]
 have hle:x.toNat / m≤x.toNat:=Nat.div_le_self _ _
 rw [e4]
 generalize x.toNat / m=q at hle ⊢
 rw [show n64 (u64 (q:Int))=(q:Int) from qgT (by omega),show n64 (u64 2)=2 from qgT (by decide),show imod (q:Int) 2=((q % 2:Nat):Int) by rw [g32 (by omega)];omega,
  show n64 (u64 ((q % 2:Nat):Int))=((q % 2:Nat):Int) from qgT (by omega),show n64 (u64 1)=1 from qgT (by decide)]
 congr 2
 unfold beq
 rw [Bool.eq_iff_iff,beq_iff_eq,beq_iff_eq]
 omega
def qFx (w:WT):Prop:=(0≤w.1∧w.1≤4611686018427387905)∧(∀ p∈(List.range 1024).drop w.1.toNat,bitW w p=false)∧(w.1=0∨bitW w ((w.1 - 1) % 1024).toNat=true)
theorem qpC (w:WT) (hw:w.2.1.length=16):qeF (w,())=some (D (qFx w),()):=by
 unfold qeF qFx
 dsimp only
 by_cases h0:0≤w.1∧w.1≤4611686018427387905
 ·refine (qG (a:=(false,())) (by simp only [go_sem,Int.reduceToNat];try exact qb4 (by omega))).trans ((qB rfl).trans ?_)
  generalize hf:(fun (x_1:Bool×Int×Unit)=>(_:Option (LS (Bool×Int×Unit) (Bool×Unit))))=f
  have hlen:((List.range 1024).drop w.1.toNat).length=1024 - w.1.toNat:=by rw [List.length_drop,List.length_range]
  have hT:w.1=(w.1.toNat:Int):=by omega
  generalize w.1.toNat=T at hT hlen
  have hget:∀ i (h:i < ((List.range 1024).drop T).length),((List.range 1024).drop T)[i]=T+i:=fun i h=>by rw [List.getElem_drop,List.getElem_range]
  have fin:(ck (neb 0 0) (ob (sel (beq w.1 0) (some (true,())) (ob (qc2 (w,imod (i64 (isub w.1 1)) 1024,())) fun (a:Bool×Unit)=>some (a.1,()))) fun (a:Bool×Unit)=>some (a.1,())):Option (Bool×Unit))=some (D (w.1=0∨bitW w ((w.1 - 1) % 1024).toNat=true),()):=by
   refine (qH g62).trans ?_
   by_cases hz:w.1=0
   ·rw [D_t (.inl hz),hz];rfl
   ·have e:imod (i64 (isub w.1 1)) 1024=((((w.1 - 1) % 1024).toNat:Nat):Int):=by
     rw [show i64 (isub w.1 1)=w.1 - 1 from jA (by show -9223372036854775808≤w.1 - 1;omega) (by show w.1 - 1≤9223372036854775807;omega),g32 (by omega)];omega
    refine (zV ((qB (qbH hz)).trans (by rw [e,qb9 w hw _ (by omega)]))).trans ?_
    refine (qG rfl).trans ?_
    cases hb:bitW w ((w.1 - 1) % 1024).toNat
    ·rw [D_f (fun h=>h.elim hz (by simp))]
    ·rw [D_t (.inr rfl)]
  have key:=qbS (f:=f) ((List.range 1024).drop T) (fun i=>(false,((T+i:Nat):Int),())) 0 ((false,()):Bool×Unit) (fun p=>bitW w p=false) (fun i h hp => ?_) (fun i h hp => ?_) ?_
  ·rcases key with ⟨h,hl⟩ | ⟨h,hl⟩
   ·rw [Nat.add_zero,← hT] at hl
    refine (qY hl).trans ?_
    refine fin.trans (zH ?_)
    exact ⟨fun h'=>⟨h0,h,h'⟩,fun h'=>h'.2.2⟩
   ·rw [Nat.add_zero,← hT] at hl
    refine (qY hl).trans ?_
    rw [D_f (fun h'=>h h'.2.1)];rfl
  ·subst hf
   have hi':i64 (iadd ((T+i:Nat):Int) 1)=((T+(i+1):Nat):Int):=i64n (by show ((T+i:Nat):Int)+1=_;omega) (by omega)
   rw [hget i h] at hp
   refine (qE (by simp only [go_sem,Int.reduceToNat];omega)).trans ?_
   dsimp only
   rw [qb9 w hw _ (by omega),hp,hi'];rfl
  ·subst hf
   rw [hget i h,Bool.not_eq_false] at hp
   refine (qE (by simp only [go_sem,Int.reduceToNat];omega)).trans ?_
   dsimp only
   rw [qb9 w hw _ (by omega),hp];rfl
  ·subst hf
   refine qB ?_
   show lt ((T+((List.range 1024).drop T).length:Nat):Int) 1024=false
   rw [List.length_drop,List.length_range]
   exact lt_f (by omega)
 ·rw [D_f (fun h=>h0 h.1)]
  refine (qG (a:=(true,())) (by simp only [go_sem,Int.reduceToNat];try exact qfH (by omega))).trans ?_
  rfl
abbrev FT:=BB×Int×Int×Unit
def noF:FT:=([],0,0,())
def qIt (f:FT):Int:=256*n8 (nth f.1 0 (u8 0))+n8 (nth f.1 1 (u8 0))
def qqM (f:FT):Prop:=¬ (f.2.1 < 0∨65535 < f.2.1∨0 < f.2.1∧0 < f.1.length)∧(f.1.length < 2∨1≤qIt f∧qIt f≤1024∧(f.1.length:Int) < qIt f+2)
theorem qI0 (c:UInt8):0≤n8 c∧n8 c < 256:=by have:=c.toNat_lt;unfold n8;omega
theorem qfN (f:FT):qeH (f,())=some (D (qqM f),()):=by
 unfold qeH qqM qIt
 dsimp only
 by_cases h1:f.2.1 < 0∨65535 < f.2.1∨0 < f.2.1∧0 < f.1.length
 ·rw [D_f (fun h=>h.1 h1)]
  refine (qG (a:=(true,())) (by simp only [go_sem,Int.reduceToNat];try exact qfH (by omega))).trans ?_
  rfl
 ·refine (qG (a:=(false,())) (by simp only [go_sem,Int.reduceToNat];try exact qb4 (by omega))).trans ((qB rfl).trans ?_)
  by_cases h2:f.1.length < 2
  ·rw [D_t ⟨h1, .inl h2⟩]
   exact qE (by simp only [go_sem,Int.reduceToNat];omega)
  ·refine (qB (by simp only [go_sem,Int.reduceToNat];omega)).trans ?_
   refine (qH (by simp only [go_sem,Int.reduceToNat];omega)).trans ?_
   refine (qH (by simp only [go_sem,Int.reduceToNat];omega)).trans ?_
   rw [show nat 0=0 from rfl,show nat 1=1 from rfl]
   have hx:=qI0 (nth f.1 0 (u8 0))
   have hy:=qI0 (nth f.1 1 (u8 0))
   generalize n8 (nth f.1 0 (u8 0))=x at hx
   generalize n8 (nth f.1 1 (u8 0))=y at hy
   have e:i64 (iadd (i64 (imul 256 (i64 x))) (i64 y))=256*x+y:=by
    rw [show i64 x=x from jA (by omega) (by omega),show i64 y=y from jA (by omega) (by omega),show i64 (imul 256 x)=256*x from jA (by show -9223372036854775808≤256*x;omega) (by show 256*x≤9223372036854775807;omega)]
    exact jA (by show -9223372036854775808≤256*x+y;omega) (by show 256*x+y≤9223372036854775807;omega)
   rw [e,show i64 (iadd (256*x+y) 2)=256*x+y+2 from jA (by show -9223372036854775808≤256*x+y+2;omega) (by show 256*x+y+2≤9223372036854775807;omega)]
   simp only [go_sem,Int.reduceToNat]
   refine zH ⟨fun h=>⟨h1, .inr (by omega)⟩,fun h=>by have:=h.2;omega⟩
theorem qaT (a b:FT):yI (a,b,())=some (D (a=b),()):=by
 obtain ⟨x,y,z,⟨⟩⟩:=a
 obtain ⟨x',y',z',⟨⟩⟩:=b
 unfold yI
 simp only [go_sem,Int.reduceToNat,zC]
 refine zH ?_
 simp only [Prod.mk.injEq,and_true,and_assoc]
def qFB (h:THub):Prop:=(∀ c∈List.range 4,qqM (nth h.2.1 c noF)∧(nth h.1 c false=true∨nth h.2.1 c noF=noF))∧0≤h.2.2.2.1∧h.2.2.2.1 < 4
theorem qpD (h:THub):qeG (h,())=some (D (qFB h),()):=by
 unfold qeG qFB
 dsimp only
 generalize hf:(fun (x_1:Bool×Int×Unit)=>(_:Option (LS (Bool×Int×Unit) (Bool×Unit))))=f
 have hget:∀ i (hi:i < (List.range 4).length),(List.range 4)[i]=i:=fun i hi=>List.getElem_range _
 have key:=qbS (f:=f) (List.range 4) (fun i=>(false,(i:Int),())) 0 ((false,()):Bool×Unit) (fun c=>qqM (nth h.2.1 c noF)∧(nth h.1 c false=true∨nth h.2.1 c noF=noF)) (fun i hi hp => ?_) (fun i hi hp => ?_) ?_
 ·rcases key with ⟨hk,hl⟩ | ⟨hk,hl⟩
  ·refine (qY (show loop f (false,0,())=_ from hl)).trans ?_
   refine (qH g62).trans ?_
   simp only [go_sem,Int.reduceToNat]
   exact zH ⟨fun h'=>⟨hk,h'⟩,fun h'=>h'.2⟩
  ·refine (qY (show loop f (false,0,())=_ from hl)).trans ?_
   rw [D_f (fun h'=>hk h'.1)];rfl
 ·subst hf
  rw [hget i hi] at hp
  have hi4:i < 4:=by simpa using hi
  have hi':i64 (iadd (i:Int) 1)=((i+1:Nat):Int):=i64n (by show (i:Int)+1=_;omega) (by omega)
  refine (qE (by simp only [go_sem,Int.reduceToNat];omega)).trans ?_
  dsimp only
  rw [hi',qU]
  refine (qH (by simp only [go_sem,Int.reduceToNat];omega)).trans ?_
  rw [show nth h.2.1 i (none' UInt8,0,0,())=nth h.2.1 i noF from rfl,qfN,D_t hp.1]
  refine (qG rfl).trans ?_
  refine (qH (by simp only [go_sem,Int.reduceToNat];omega)).trans ?_
  rw [show yI (nth h.2.1 i noF,(none' UInt8,0,0,()),())=_ from qaT _ noF]
  refine (qG rfl).trans ?_
  refine (qG (a:=(false,())) ((qB rfl).trans ((qH (by simp only [go_sem,Int.reduceToNat];omega)).trans ?_))).trans rfl
  rcases hp.2 with h1 | h1
  ·rw [h1];rfl
  ·rw [D_t h1];cases nth h.1 i false <;> rfl
 ·subst hf
  rw [hget i hi] at hp
  have hi4:i < 4:=by simpa using hi
  refine (qE (by simp only [go_sem,Int.reduceToNat];omega)).trans ?_
  dsimp only
  rw [qU]
  refine (qH (by simp only [go_sem,Int.reduceToNat];omega)).trans ?_
  rw [show nth h.2.1 i (none' UInt8,0,0,())=nth h.2.1 i noF from rfl,qfN]
  refine (qG rfl).trans ?_
  refine (qH (by simp only [go_sem,Int.reduceToNat];omega)).trans ?_
  rw [show yI (nth h.2.1 i noF,(none' UInt8,0,0,()),())=_ from qaT _ noF]
  refine (qG rfl).trans ?_
  by_cases h1:qqM (nth h.2.1 i noF)
  ·rw [D_t h1]
   refine (qG (a:=(true,())) ((qB rfl).trans ((qH (by simp only [go_sem,Int.reduceToNat];omega)).trans ?_))).trans rfl
   have h2:¬ (nth h.1 i false=true∨nth h.2.1 i noF=noF):=fun h2=>hp ⟨h1,h2⟩
   simp only [not_or,Bool.not_eq_true] at h2
   rw [h2.1,D_f h2.2];rfl
  ·rw [D_f h1];rfl
 ·subst hf;exact qB rfl
def fewH (h:THub):Prop:=(nth h.2.1 0 noF).1.length≤1200∧(nth h.2.1 1 noF).1.length≤1200∧(nth h.2.1 2 noF).1.length≤1200∧(nth h.2.1 3 noF).1.length≤1200
theorem qtE (h:THub):qk8 (h,())=some (D (fewH h),()):=by
 unfold qk8 fewH
 rw [show (none' UInt8,0,0,())=noF from rfl]
 refine (qH rfl).trans ?_
 dsimp only
 rw [show nat 0=0 from rfl,show nat 1=1 from rfl,show nat 2=2 from rfl,show nat 3=3 from rfl]
 rw [qH (show inB 1 (ofn 4)=true from rfl),qH (show inB 2 (ofn 4)=true from rfl),qH (show inB 3 (ofn 4)=true from rfl)]
 simp only [go_sem,Int.reduceToNat]
 exact zH (by omega)
theorem qwQ (h:THub) (h1:h.1.length=4) (h2:h.2.1.length=4) (h3:h.2.2.1.length=4):qiB (h,h,())=some (true,()):=by
 unfold qiB
 dsimp only
 generalize hf:(fun (x_1:Bool×Int×Unit)=>(_:Option (LS (Bool×Int×Unit) (Bool×Unit))))=f
 have step:∀ i:Nat,i < 4→f (false,(i:Int),())=some (.nx (false,((i+1:Nat):Int),())):=by
  intro i hi
  subst hf
  have hi':i64 (iadd (i:Int) 1)=((i+1:Nat):Int):=i64n (by show (i:Int)+1=_;omega) (by omega)
  refine (qE (by simp (disch:=omega) only [go_sem,Int.reduceToNat];omega)).trans ?_
  dsimp only
  rw [hi']
  simp (disch:=omega) only [go_sem,Int.reduceToNat,qaT]
 have hend:f (false,((4:Nat):Int),())=some (.ex 0 (false,((4:Nat):Int),())):=by subst hf;exact qB rfl
 have hloop:=(qM (f:=f) (fun i=>(false,(i:Int),())) 4 step 0 (Nat.zero_le _)).trans (qT hend)
 refine (qY (show loop f (false,0,())=_ from hloop)).trans ?_
 refine (qH g62).trans ?_
 simp (disch:=omega) only [go_sem,Int.reduceToNat]
def qFz (e:En'):Prop:=e.queue.length≤8∧(e.queue=[]∨qe6 e.ph)∧∀ b∈e.queue,qe7 b
theorem qo3 (e:En'):qd7 (e.t,())=some (D (qFz e),()):=by
 unfold qd7 qFz
 dsimp only [En'.t]
 have hq0:(e.queue=[])↔e.queue.length=0:=List.length_eq_zero_iff.symm
 by_cases h1:e.queue.length≤8∧(e.queue=[]∨qe6 e.ph)
 ·refine (qG (a:=(false,())) ?_).trans ((qB rfl).trans ?_)
  ·refine (qB (by simp (disch:=first | assumption | omega | (dsimp only;omega) | decide) only [go_sem,Int.reduceToNat];omega)).trans ?_
   by_cases h2:e.queue.length=0
   ·exact qB (by simp (disch:=first | assumption | omega | (dsimp only;omega) | decide) only [go_sem,Int.reduceToNat];omega)
   ·refine (qE (by simp (disch:=first | assumption | omega | (dsimp only;omega) | decide) only [go_sem,Int.reduceToNat];omega)).trans ?_
    rw [qaN,D_t (h1.2.resolve_left (fun h=>h2 (hq0.1 h)))];rfl
  generalize hf:(fun (x_1:Bool×Int×Unit)=>(_:Option (LS (Bool×Int×Unit) (Bool×Unit))))=f
  have key:=qbS (f:=f) e.queue (fun i=>(false,(i:Int),())) 0 ((false,()):Bool×Unit) qe7 (fun i hi hp => ?_) (fun i hi hp => ?_) ?_
  ·rcases key with ⟨hk,hl⟩ | ⟨hk,hl⟩
   ·refine (qY (show loop f (false,0,())=_ from hl)).trans ?_
    refine (qH g62).trans ?_
    rw [D_t ⟨h1.1,h1.2,hk⟩]
   ·refine (qY (show loop f (false,0,())=_ from hl)).trans ?_
    rw [D_f (fun h'=>hk h'.2.2)];rfl
  ·subst hf
   have hi':i64 (iadd (i:Int) 1)=((i+1:Nat):Int):=i64n (by show (i:Int)+1=_;omega) (by omega)
   refine (qE (by simp (disch:=omega) only [go_sem,Int.reduceToNat];omega)).trans ?_
   refine (qH (by simp (disch:=omega) only [go_sem,Int.reduceToNat];omega)).trans ?_
   dsimp only
   rw [hi',qU,qL hi]
   have q1:=hp.1
   have q2:=hp.2
   simp (disch:=omega) only [go_sem,Int.reduceToNat]
  ·subst hf
   refine (qE (by simp (disch:=omega) only [go_sem,Int.reduceToNat];omega)).trans ?_
   refine (qH (by simp (disch:=omega) only [go_sem,Int.reduceToNat];omega)).trans ?_
   dsimp only
   rw [qU,qL hi]
   unfold qe7 at hp
   by_cases q1:e.queue[i].length < 1
   ·simp (disch:=omega) only [go_sem,Int.reduceToNat]
   ·simp (disch:=omega) only [go_sem,Int.reduceToNat]
  ·subst hf
   exact qB (by simp (disch:=omega) only [go_sem,Int.reduceToNat];omega)
 ·rw [D_f (fun h=>h1 ⟨h.1,h.2.1⟩)]
  refine (qG (a:=(true,())) ?_).trans rfl
  by_cases h2:e.queue.length≤8
  ·have h3:¬ (e.queue=[]∨qe6 e.ph):=fun h3=>h1 ⟨h2,h3⟩
   simp only [not_or] at h3
   have h4:¬ e.queue.length=0:=fun h=>h3.1 (hq0.2 h)
   refine (qB (by simp (disch:=omega) only [go_sem,Int.reduceToNat];omega)).trans ((qE (by simp (disch:=omega) only [go_sem,Int.reduceToNat];omega)).trans ?_)
   rw [qaN,D_f h3.2];rfl
  ·exact qE (by simp (disch:=omega) only [go_sem,Int.reduceToNat];omega)
theorem qJZ {a b:UInt64}:n64 a=n64 b↔a=b:=by
 constructor
 ·intro h
  unfold n64 at h
  exact UInt64.toNat_inj.1 (by omega)
 ·rintro rfl;rfl
theorem qHn:∀ {l m:List UInt64},l.length=m.length→(all2 (fun (p q:UInt64)=>beq (n64 p) (n64 q)) l m=true↔l=m)
 | [],[],_=>by simp [all2]
 | a :: l,b :: m,h=>by
  have ih:=qHn (l:=l) (m:=m) (by simpa using h)
  unfold all2 at ih ⊢
  rw [List.zip_cons_cons,List.all_cons,Bool.and_eq_true,ih]
  unfold beq
  rw [beq_iff_eq,qJZ,List.cons.injEq]
 | [],_ :: _,h=>by simp at h
 | _ :: _,[],h=>by simp at h
def qKE (e:En'):Prop:=e.oth=0∧e.seq=0∧e.win=noW∧e.ring=noR
theorem qqQ (e:En') (hw:e.win.2.1.length=16):qh4 (e.t,())=some (D (qKE e),()):=by
 unfold qh4 qKE
 dsimp only [En'.t]
 rw [qfM]
 refine (qG rfl).trans ?_
 have hwin:band (beq e.win.1 0) (band (all2 (fun (p q:UInt64)=>beq (n64 p) (n64 q)) e.win.2.1 [u64 0,u64 0,u64 0,u64 0,u64 0,u64 0,u64 0,u64 0,u64 0,u64 0,u64 0,u64 0,u64 0,u64 0,u64 0,u64 0]) true)=D (e.win=noW):=by
  refine qi4 ?_
  generalize e.win=w at hw ⊢
  obtain ⟨t,b,⟨⟩⟩:=w
  unfold noW
  dsimp only at hw ⊢
  unfold band
  rw [Bool.and_true,Bool.and_eq_true,qHn (by rw [hw];rfl)]
  unfold beq
  rw [beq_iff_eq]
  simp only [Prod.mk.injEq,and_true]
 dsimp only
 rw [hwin]
 simp only [go_sem,Int.reduceToNat]
 refine zH ?_
 simp only [and_assoc]
def qIB (p:Int):Int:=nth [0,1,0,0,101,201,2,0,0] p.toNat 0
def qJ5 (e:En'):Prop:=(e.ask.1=qIB e.ph∨e.ph=3∧e.ask.1=301)∧(jN e.ph∧0 < e.own∧0 < e.oth∧0 < e.ring.1.1∧(¬ e.ph=4∨0 < e.ring.2.2.1.1)∨¬ jN e.ph∧qKE e∧(0 < e.own↔e.ph=1))
theorem qm5 (e:En') (hw:e.win.2.1.length=16) (hp:0≤e.ph∧e.ph≤8):qbL (e.t,())=some (D (qJ5 e),()):=by
 unfold qbL qJ5 qm6
 rw [show (e.t,()).1.2.2.1=e.ph from rfl]
 dsimp only
 rw [qH (show inB e.ph (len [0,1,0,0,101,201,2,0,0])=true by simp only [go_sem,Int.reduceToNat];simp;omega)]
 refine (qG rfl).trans ?_
 rw [show nth [0,1,0,0,101,201,2,0,0] (nat e.ph) 0=qIB e.ph from rfl,show e.t.2.2.2.2.2.2.2.2.2.2.2.1.1=e.ask.1 from rfl,show e.t.2.2.2.2.2.1=e.own from rfl,show e.t.2.2.2.2.2.2.1=e.oth from rfl,show e.t.2.2.2.2.2.2.2.2.2.2.1=e.ring from rfl]
 by_cases h1:e.ask.1=qIB e.ph∨e.ph=3∧e.ask.1=301
 ·refine (qG (a:=(false,())) ?_).trans ((qB rfl).trans ?_)
  ·rcases h1 with h1 | ⟨h1,h2⟩
   ·exact qB (bq_f h1)
   ·by_cases h3:e.ask.1=qIB e.ph
    ·exact qB (bq_f h3)
    ·refine (qE (bq_t h3)).trans ((qB (bq_f h1)).trans ?_)
     rw [bq_f h2]
  rw [qqQ e hw]
  refine (qG rfl).trans ?_
  rw [yG]
  refine (qG rfl).trans ?_
  by_cases hl:jN e.ph
  ·rw [D_t hl]
   refine (qE rfl).trans ?_
   simp only [go_sem,Int.reduceToNat]
   refine zH ?_
   simp only [h1,hl,true_and,not_true_eq_false,false_and,or_false,and_assoc]
  ·rw [D_f hl]
   refine (qB rfl).trans ?_
   simp only [go_sem,Int.reduceToNat]
   refine zH ?_
   simp only [h1,hl,true_and,not_false_eq_true,false_and,false_or]
 ·rw [D_f (fun h=>h1 h.1)]
  simp only [not_or,not_and] at h1
  refine (qG (a:=(true,())) ((qE (bq_t h1.1)).trans ?_)).trans rfl
  by_cases h3:e.ph=3
  ·refine (qB (bq_f h3)).trans ?_
   rw [bq_t (h1.2 h3)]
  ·exact qE (bq_t h3)
structure qIT (e:En'):Prop where
 id:0≤e.id∧e.id≤1
 key:e.key.length=32
 ph:0≤e.ph∧e.ph≤8
 stan:0≤e.stan∧e.stan≤999999
 day:0≤e.day∧e.day≤999999
 own:z1 e.own
 oth:z1 e.oth
 seen:z1 e.seen
 seq:z1 e.seq
 store:qDk e.store
 win:qFx e.win
 ring:qn4 e.ring
 ask:qFE e.ask
 hub:qFB e.hub
 queue:qFz e
 link:qJ5 e
theorem qMm (a b c d f g h i j k l:Prop):(sel (D a) (sel (D b) (sel (D c) (sel (D d) (sel (D f) (sel (D g) (sel (D h) (sel (D i) (sel (D j) (sel (D k) (some (D l,())) (some (false,()))) (some (false,()))) (some (false,()))) (some (false,()))) (some (false,()))) (some (false,()))) (some (false,()))) (some (false,()))) (some (false,()))) (some (false,())):Option (Bool×Unit)) =
  some (D (a∧b∧c∧d∧f∧g∧h∧i∧j∧k∧l),()):=by
 simp only [go_sem,Int.reduceToNat]
 try (refine zH ?_;simp only [and_assoc])
theorem qo4 (e:En') (hw:e.win.2.1.length=16):qaL (e.t,())=some (D (qIT e),()):=by
 unfold qaL
 dsimp only
 rw [show e.t.1=e.id from rfl,show e.t.2.1=e.key from rfl,show e.t.2.2.1=e.ph from rfl,show e.t.2.2.2.2.2.2.2.2.2.2.2.2.1=e.stan from rfl,show e.t.2.2.2.2.2.2.2.2.2.2.2.2.2.1=e.day from rfl,show e.t.2.2.2.2.2.1=e.own from rfl,show e.t.2.2.2.2.2.2.1=e.oth from rfl,show e.t.2.2.2.2.2.2.2.1=e.seen from rfl,
  show e.t.2.2.2.2.2.2.2.2.1=e.seq from rfl,show e.t.2.2.2.1=e.store from rfl,show e.t.2.2.2.2.2.2.2.2.2.1=e.win from rfl,show e.t.2.2.2.2.2.2.2.2.2.2.1=e.ring from rfl,show e.t.2.2.2.2.2.2.2.2.2.2.2.1=e.ask from rfl,show e.t.2.2.2.2.2.2.2.2.2.2.2.2.2.2.2.1=e.hub from rfl]
 by_cases h:(0≤e.id∧e.id≤1)∧e.key.length=32∧(0≤e.ph∧e.ph≤8)∧(0≤e.stan∧e.stan≤999999)∧(0≤e.day∧e.day≤999999)
 ·obtain ⟨a1,a2,a3,a4,a5⟩:=h
  refine (qG (a:=(false,())) (by simp only [go_sem,Int.reduceToNat];try exact qb4 (by omega))).trans ((qB rfl).trans ?_)
  rw [jJ]
  refine (qG rfl).trans ?_
  rw [jJ]
  refine (qG rfl).trans ?_
  rw [jJ]
  refine (qG rfl).trans ?_
  rw [jJ]
  refine (qG rfl).trans ?_
  rw [qo7]
  refine (qG rfl).trans ?_
  rw [qpC _ hw]
  refine (qG rfl).trans ?_
  rw [qpA]
  refine (qG rfl).trans ?_
  rw [qo5]
  refine (qG rfl).trans ?_
  rw [qpD]
  refine (qG rfl).trans ?_
  rw [qo3]
  refine (qG rfl).trans ?_
  dsimp only
  rw [qm5 e hw a3]
  refine (zV (qMm _ _ _ _ _ _ _ _ _ _ _)).trans ?_
  refine (qG rfl).trans ?_
  refine zH ?_
  constructor
  ·rintro ⟨b1,b2,b3,b4,b5,b6,b7,b8,b9,b10,b11⟩
   exact ⟨a1,a2,a3,a4,a5,b1,b2,b3,b4,b5,b6,b7,b8,b9,b10,b11⟩
  ·rintro ⟨_,_,_,_,_,b1,b2,b3,b4,b5,b6,b7,b8,b9,b10,b11⟩
   exact ⟨b1,b2,b3,b4,b5,b6,b7,b8,b9,b10,b11⟩
 ·rw [D_f (fun r=>h ⟨r.id,r.key,r.ph,r.stan,r.day⟩)]
  refine (qG (a:=(true,())) (by simp only [go_sem,Int.reduceToNat];try exact qfH (by omega))).trans ?_
  rfl
def qEu (acc:Int):List BB→Int
 | []=>acc
 | x :: r=>if 9000 - acc < (x.length:Int) then 9001 else qEu (acc+x.length) r
def qGr (q:List BB):Int:=if 9000 < (q.length:Int) then 9001 else qEu q.length q
theorem qq6 (q:List BB):qiK (q,9000,())=some (qGr q,()):=by
 unfold qiK qGr
 dsimp only
 by_cases h0:9000 < (q.length:Int)
 ·rw [if_pos h0]
  exact (qE (lt_t h0)).trans rfl
 ·rw [if_neg h0]
  refine (qB (lt_f h0)).trans ?_
  generalize hf:(fun (x_1:Int×Int×Int×Unit)=>(_:Option (LS (Int×Int×Int×Unit) (Int×Unit))))=f
  have hl9:q.length≤9000:=by omega
  have key:∀ (n i:Nat) (acc:Int),q.length - i=n→i≤q.length→0≤acc→acc≤9000→(loop f (0,acc,(i:Int),())=some (.rt (9001,()))∧qEu acc (q.drop i)=9001)∨(loop f (0,acc,(i:Int),())=some (.ex 0 (0,qEu acc (q.drop i),(q.length:Int),()))):=by
   intro n
   induction n with
   | zero =>
    intro i acc hn hi ha hb
    have:i=q.length:=by omega
    subst this
    rw [List.drop_length]
    refine .inr (qT ?_)
    subst hf
    exact qB (by simp only [go_sem,Int.reduceToNat];omega)
   | succ n ih =>
    intro i acc hn hi ha hb
    have hil:i < q.length:=by omega
    have hi':i64 (iadd (i:Int) 1)=((i+1:Nat):Int):=i64n (by show (i:Int)+1=_;omega) (by omega)
    rw [List.drop_eq_getElem_cons hil]
    have e1:i64 (isub 9000 acc)=9000 - acc:=jA (by show -9223372036854775808≤9000 - acc;omega) (by show 9000 - acc≤9223372036854775807;omega)
    by_cases hx:9000 - acc < (q[i].length:Int)
    ·refine .inl ⟨qeS ?_,by rw [qEu,if_pos hx]⟩
     subst hf
     refine (qE (by simp only [go_sem,Int.reduceToNat];omega)).trans ((qH (by simp only [go_sem,Int.reduceToNat];omega)).trans ?_)
     dsimp only
     rw [e1,qU,qL hil]
     exact (qE (lt_t hx)).trans rfl
    ·have e2:i64 (iadd acc (len q[i]))=acc+(q[i].length:Int):=jA (by show -9223372036854775808≤acc+(q[i].length:Int);omega) (by show acc+(q[i].length:Int)≤9223372036854775807;omega)
     have hst:f (0,acc,(i:Int),())=some (.nx (0,acc+(q[i].length:Int),((i+1:Nat):Int),())):=by
      subst hf
      refine (qE (by simp only [go_sem,Int.reduceToNat];omega)).trans ((qH (by simp only [go_sem,Int.reduceToNat];omega)).trans ?_)
      dsimp only
      rw [e1,qU,qL hil,e2,hi']
      refine (qB (lt_f hx)).trans ?_
      exact qH (by simp only [go_sem,Int.reduceToNat];omega)
     rw [vV hst,qEu,if_neg hx]
     exact ih (i+1) _ (by omega) (by omega) (by omega) (by omega)
  rcases key q.length 0 q.length (by omega) (Nat.zero_le _) (by omega) (by omega) with ⟨h1,h2⟩ | h1
  ·rw [List.drop_zero] at h2
   rw [h2]
   exact (qY (show loop f (0,len q,0,())=_ from h1)).trans rfl
  ·rw [List.drop_zero] at h1
   refine (qY (show loop f (0,len q,0,())=_ from h1)).trans ?_
   exact qH g62
structure fewE (e:En'):Prop where
 store:e.store.1.length≤100∧e.store.2.1.length≤100
 ring:fewR e.ring
 hub:fewH e.hub
 key:e.key.length≤100
 ask:e.ask.2.2.2.2.1.length≤1000
 queue:qGr e.queue≤9000
 out:e.out.length≤20
 got:e.got.length≤40
 outs:∀ x∈e.out,x.2.1.length≤1100
 gots:∀ x∈e.got,x.2.2.2.1.length≤1000
theorem qs8 (e:En'):qgF (e.t,())=some (D (fewE e),()):=by
 unfold qgF
 dsimp only
 rw [show e.t.2.2.2.1=e.store from rfl,show e.t.2.2.2.2.2.2.2.2.2.2.1=e.ring from rfl,show e.t.2.2.2.2.2.2.2.2.2.2.2.2.2.2.2.1=e.hub from rfl,show e.t.2.1=e.key from rfl,show e.t.2.2.2.2.2.2.2.2.2.2.2.1=e.ask from rfl,show e.t.2.2.2.2.2.2.2.2.2.2.2.2.2.2.1=e.queue from rfl,show e.t.2.2.2.2.2.2.2.2.2.2.2.2.2.2.2.2.1=e.out from rfl,show e.t.2.2.2.2.2.2.2.2.2.2.2.2.2.2.2.2.2.1=e.got from rfl]
 rw [qtB]
 refine (qG rfl).trans ?_
 rw [qtD]
 refine (qG rfl).trans ?_
 rw [qtE]
 refine (qG rfl).trans ?_
 dsimp only
 rw [qq6]
 by_cases h:(e.store.1.length≤100∧e.store.2.1.length≤100)∧fewR e.ring∧fewH e.hub∧e.key.length≤100∧e.ask.2.2.2.2.1.length≤1000∧qGr e.queue≤9000∧e.out.length≤20∧e.got.length≤40
 ·obtain ⟨a1,a2,a3,a4,a5,a6,a7,a8⟩:=h
  rw [D_t a1,D_t a2,D_t a3]
  refine (qG (a:=(false,())) (by simp only [go_sem,Int.reduceToNat];try exact qb4 (by omega))).trans ((qB rfl).trans ?_)
  generalize hf:(fun (x_1:Bool×Int×Unit)=>sel (lt x_1.2.1 (len e.out)) _ _)=f
  generalize hg:(fun (x_1:Bool×Int×Unit)=>(_:Option (LS (Bool×Int×Unit) (Bool×Unit))))=g
  have k1:=qbS (f:=f) e.out (fun i=>(false,(i:Int),())) 0 ((false,()):Bool×Unit) (fun x=>x.2.1.length≤1100) (fun i hi hp => ?_) (fun i hi hp => ?_) ?_
  ·have k2:=qbS (f:=g) e.got (fun i=>(false,(i:Int),())) 2 ((false,()):Bool×Unit) (fun x=>x.2.2.2.1.length≤1000) (fun i hi hp => ?_) (fun i hi hp => ?_) ?_
   ·rcases k1 with ⟨h1,hl1⟩ | ⟨h1,hl1⟩
    ·refine (qY (show loop f (false,0,())=_ from hl1)).trans ((qH g62).trans ?_)
     rcases k2 with ⟨h2,hl2⟩ | ⟨h2,hl2⟩
     ·refine (qY (show loop g (false,0,())=_ from hl2)).trans ((qH g62).trans ?_)
      rw [D_t ⟨a1,a2,a3,a4,a5,a6,a7,a8,h1,h2⟩]
     ·refine (qY (show loop g (false,0,())=_ from hl2)).trans ?_
      rw [D_f (fun r=>h2 r.gots)];rfl
    ·refine (qY (show loop f (false,0,())=_ from hl1)).trans ?_
     rw [D_f (fun r=>h1 r.outs)];rfl
   ·subst hg
    have hi':i64 (iadd (i:Int) 1)=((i+1:Nat):Int):=i64n (by show (i:Int)+1=_;omega) (by omega)
    refine (qE (by simp only [go_sem,Int.reduceToNat];omega)).trans ((qH (by simp only [go_sem,Int.reduceToNat];omega)).trans ?_)
    dsimp only
    rw [qU,qL hi,hi']
    exact qB (by simp only [go_sem,Int.reduceToNat];omega)
   ·subst hg
    refine (qE (by simp only [go_sem,Int.reduceToNat];omega)).trans ((qH (by simp only [go_sem,Int.reduceToNat];omega)).trans ?_)
    dsimp only
    rw [qU,qL hi]
    exact qE (by simp only [go_sem,Int.reduceToNat];omega)
   ·subst hg;exact qB (by simp only [go_sem,Int.reduceToNat];omega)
  ·subst hf
   have hi':i64 (iadd (i:Int) 1)=((i+1:Nat):Int):=i64n (by show (i:Int)+1=_;omega) (by omega)
   refine (qE (by simp only [go_sem,Int.reduceToNat];omega)).trans ((qH (by simp only [go_sem,Int.reduceToNat];omega)).trans ?_)
   dsimp only
   rw [qU,qL hi,hi']
   exact qB (by simp only [go_sem,Int.reduceToNat];omega)
  ·subst hf
   refine (qE (by simp only [go_sem,Int.reduceToNat];omega)).trans ((qH (by simp only [go_sem,Int.reduceToNat];omega)).trans ?_)
   dsimp only
   rw [qU,qL hi]
   exact qE (by simp only [go_sem,Int.reduceToNat];omega)
  ·subst hf;exact qB (by simp only [go_sem,Int.reduceToNat];omega)
 ·rw [D_f (p:=fewE e) (fun r=>h ⟨r.store,r.ring,r.hub,r.key,r.ask,r.queue,r.out,r.got⟩)]
  refine (qG (a:=(true,())) ?_).trans rfl
  by_cases c1:e.store.1.length≤100∧e.store.2.1.length≤100
  ·rw [D_t c1]
   by_cases c2:fewR e.ring
   ·rw [D_t c2]
    by_cases c3:fewH e.hub
    ·rw [D_t c3]
     have c4:¬ (e.key.length≤100∧e.ask.2.2.2.2.1.length≤1000∧qGr e.queue≤9000∧e.out.length≤20∧e.got.length≤40):=fun c4=>h ⟨c1,c2,c3,c4⟩
     simp only [go_sem,Int.reduceToNat]
     try exact qfH (by omega)
    ·rw [D_f c3];rfl
   ·rw [D_f c2];rfl
  ·rw [D_f c1];rfl
structure mayS (s:Si):Prop where
 few:fewE s.e
 prov:fewP s.p 40
 right:qIT s.e
structure qDf (e:En'):Prop where
 win:e.win.2.1.length=16
 up:e.hub.1.length=4
 feed:e.hub.2.1.length=4
 life:e.hub.2.2.1.length=4
 cnt:e.cnt.length=4
theorem qs6 (s:Si) (hw:qDf s.e):qk3 (s.t,())=some (D (mayS s),()):=by
 unfold qk3
 dsimp only
 rw [show qgF (s.t.1,())=_ from qs8 s.e]
 refine (qG rfl).trans ?_
 rw [show qgK (s.t.2.1,40,())=_ from qtI s.p 40 (by decide)]
 refine (qG rfl).trans ?_
 rw [show qaL (s.t.1,())=_ from qo4 s.e hw.win]
 simp only [go_sem,Int.reduceToNat]
 exact zH ⟨fun h=>⟨h.1,h.2.1,h.2.2⟩,fun h=>⟨h.few,h.prov,h.right⟩⟩
theorem qJQ {s:Si} (hw:qDf s.e) (h:mayS s):okS 50 s:=by
 have hr:=h.right
 have hf:=h.few
 refine ⟨⟨by have:=hr.id;omega,by have:=hr.key;omega,hr.ph,hr.store,hr.own,hr.oth,hr.seq,hr.ring,hw.up,⟨hr.hub.2.1,hr.hub.2.2⟩,by have:=hf.out;omega,by have:=hf.got;omega,hw.cnt,hw.win,hw.feed,hw.life,by have:=hr.queue.1;omega⟩, ?_⟩
 have:=h.prov.1
 omega
theorem vL (a:Int):beq a a=true:=qnT rfl
theorem qkQ (a:BB):seq a a=true:=qJt rfl
theorem qFu (q:List BB) (hq:q.length≤1000000):qiJ (q,q,())=some (true,()):=by
 unfold qiJ
 dsimp only
 rw [vL]
 refine (qB rfl).trans ?_
 generalize hf:(fun (x_1:Bool×Int×Unit)=>(_:Option (LS (Bool×Int×Unit) (Bool×Unit))))=f
 have step:∀ i:Nat,i < q.length→f (false,(i:Int),())=some (.nx (false,((i+1:Nat):Int),())):=by
  intro i hi
  subst hf
  have hi':i64 (iadd (i:Int) 1)=((i+1:Nat):Int):=i64n (by show (i:Int)+1=_;omega) (by omega)
  refine (qE (by simp only [go_sem,Int.reduceToNat];omega)).trans ((qH (by simp only [go_sem,Int.reduceToNat];omega)).trans ((qH (by simp only [go_sem,Int.reduceToNat];omega)).trans ?_))
  dsimp only
  rw [hi',qkQ];rfl
 have hend:f (false,(q.length:Int),())=some (.ex 0 (false,(q.length:Int),())):=by subst hf;exact qB (by simp only [go_sem,Int.reduceToNat];omega)
 have hloop:=(qM (f:=f) (fun i=>(false,(i:Int),())) q.length step 0 (Nat.zero_le _)).trans (qT hend)
 exact (qY (show loop f (false,0,())=_ from hloop)).trans (qH g62)
theorem qFo (q:List qKI) (hq:q.length≤1000000):qh2 (q,q,())=some (true,()):=by
 unfold qh2
 dsimp only
 rw [vL]
 refine (qB rfl).trans ?_
 generalize hf:(fun (x_1:Bool×Int×Unit)=>(_:Option (LS (Bool×Int×Unit) (Bool×Unit))))=f
 have step:∀ i:Nat,i < q.length→f (false,(i:Int),())=some (.nx (false,((i+1:Nat):Int),())):=by
  intro i hi
  subst hf
  have hi':i64 (iadd (i:Int) 1)=((i+1:Nat):Int):=i64n (by show (i:Int)+1=_;omega) (by omega)
  have hc:inB (i:Int) (len q)=true:=by simp only [go_sem,Int.reduceToNat];omega
  refine (qE (by simp only [go_sem,Int.reduceToNat];omega)).trans ((qH hc).trans ((qH hc).trans ?_))
  dsimp only
  rw [hi',vL,hc]
  refine (qG (a:=(false,())) ((qB rfl).trans ((qH rfl).trans ((qH rfl).trans ?_)))).trans rfl
  rw [zC,qkQ];rfl
 have hend:f (false,(q.length:Int),())=some (.ex 0 (false,(q.length:Int),())):=by subst hf;exact qB (by simp only [go_sem,Int.reduceToNat];omega)
 have hloop:=(qM (f:=f) (fun i=>(false,(i:Int),())) q.length step 0 (Nat.zero_le _)).trans (qT hend)
 exact (qY (show loop f (false,0,())=_ from hloop)).trans (qH g62)
theorem qB3 (q:List EvT) (hq:q.length≤1000000):qbM (q,q,())=some (true,()):=by
 unfold qbM
 dsimp only
 rw [vL]
 refine (qB rfl).trans ?_
 generalize hf:(fun (x_1:Bool×Int×Unit)=>(_:Option (LS (Bool×Int×Unit) (Bool×Unit))))=f
 have step:∀ i:Nat,i < q.length→f (false,(i:Int),())=some (.nx (false,((i+1:Nat):Int),())):=by
  intro i hi
  subst hf
  have hi':i64 (iadd (i:Int) 1)=((i+1:Nat):Int):=i64n (by show (i:Int)+1=_;omega) (by omega)
  have hc:inB (i:Int) (len q)=true:=by simp only [go_sem,Int.reduceToNat];omega
  refine (qE (by simp only [go_sem,Int.reduceToNat];omega)).trans ((qH hc).trans ((qH hc).trans ?_))
  dsimp only
  rw [hi',hc]
  generalize nth q (nat (i:Int)) (0,[0,0],0,none' UInt8,())=e
  rw [vL,vL,vL,vL,zC,qkQ]
  rfl
 have hend:f (false,(q.length:Int),())=some (.ex 0 (false,(q.length:Int),())):=by subst hf;exact qB (by simp only [go_sem,Int.reduceToNat];omega)
 have hloop:=(qM (f:=f) (fun i=>(false,(i:Int),())) q.length step 0 (Nat.zero_le _)).trans (qT hend)
 exact (qY (show loop f (false,0,())=_ from hloop)).trans (qH g62)
theorem qBh:∀ l:List UInt64,all2 (fun (p q:UInt64)=>beq (n64 p) (n64 q)) l l=true
 | []=>rfl
 | a :: l=>by
  have ih:=qBh l
  unfold all2 at ih ⊢
  rw [List.zip_cons_cons,List.all_cons,ih,Bool.and_true]
  exact vL _
theorem qvO:∀ l:List Int,all2 (fun (p q:Int)=>beq p q) l l=true
 | []=>rfl
 | a :: l=>by
  have ih:=qvO l
  unfold all2 at ih ⊢
  rw [List.zip_cons_cons,List.all_cons,ih,Bool.and_true]
  exact vL _
theorem qFq {n:Nat} {e:En'} (h:okE n e) (hn:n≤1000000):qc0 (e.t,e.t,())=some (true,()):=by
 unfold qc0
 dsimp only
 rw [qqV]
 refine (qG rfl).trans ?_
 rw [qqW]
 refine (qG rfl).trans ?_
 rw [qqT]
 refine (qG rfl).trans ?_
 have hq:=h.queue
 have ho:=h.out
 have hg:=h.got
 rw [show e.t.2.2.2.2.2.2.2.2.2.2.2.2.2.2.1=e.queue from rfl,qFu e.queue (by omega)]
 refine (qG rfl).trans ?_
 rw [show e.t.2.2.2.2.2.2.2.2.2.2.2.2.2.2.2.1=e.hub from rfl,qwQ e.hub h.up h.feed h.life]
 refine (qG rfl).trans ?_
 rw [show e.t.2.2.2.2.2.2.2.2.2.2.2.2.2.2.2.2.1=e.out from rfl,qFo e.out (by omega)]
 refine (qG rfl).trans ?_
 rw [show e.t.2.2.2.2.2.2.2.2.2.2.2.2.2.2.2.2.2.1=e.got from rfl,qB3 e.got (by omega)]
 refine (qG rfl).trans ?_
 dsimp only
 rw [zC,qkQ,qBh,qvO]
 simp only [vL]
 rfl
theorem qkK {n:Nat} {s:Si} (h:okS n s) (hn:n≤1000000):jF (s.t,s.t,())=some (true,()):=by
 unfold jF
 dsimp only
 rw [show qc0 (s.t.1,s.t.1,())=_ from qFq h.e hn]
 refine (qG rfl).trans ?_
 have hp:=h.p
 rw [show qc5 (s.t.2.1,s.t.2.1,())=_ from qq3 s.p (by omega)]
 rfl
instance (v:TEnv):Decidable (qdD v):=by unfold qdD;infer_instance
instance (v:TEnv):Decidable (qn3 v):=by unfold qn3;infer_instance
theorem qHB {s:Si} {b:BB} (hb:qe7 b) (hl:jN s.e.ph) (hq:s.e.seq≤900000) (hh:(wD s.e.hub).2.2.1=0):qaH s b =
  (⟨{ s.e with hub:=(wD s.e.hub).1,out:=s.e.out++[((wD s.e.hub).2.1,qnA (j7 (qjU s.e b)++qcX s.e.ring.1.2.1 (j7 (qjU s.e b))),())],seq:=s.e.seq+1 },ptag s.p s.e.ring.1.2.1 (j7 (qjU s.e b))⟩,0):=by
 unfold qaH qhC
 rw [if_neg (not_not_intro hb),if_neg (not_not_intro hl),if_neg (by omega),if_pos hh]
 rfl
def twK (fill:UInt8):BB:=upd (rep 32 (u8 0)) 0 fill
def twN (g:Nat):BB:=if g=1 then [] else [u8 (g:Int)]
def twG (fill:UInt8) (g:Nat):BB:=keyD (twK fill) [3,4] (g:Int) (twN g)
def twR (fill:UInt8):Nat→qdX
 | 0=>noR
 | 1=>((1,twG fill 1,()),noG,noG,0,1,())
 | g+2=>(((g+2:Nat),twG fill (g+2),()),((g+1:Nat),twG fill (g+1),()),noG,16,(g+2:Nat),())
def hub1:THub:=([true,false,false,false],[noF,noF,noF,noF],[1,0,0,0],0,())
def twE (i:Int) (fill:UInt8) (g:Nat):En':=⟨i,twK fill,3,newS, -1,3+i,4 - i,4,0,noW,twR fill g,noA,0,0,[],hub1,[],[],[0,0,0,0]⟩
def tw (i:Int) (fill:UInt8) (g:Nat):Si:=⟨twE i fill g,(true,[],false,())⟩
theorem quJ (fill:UInt8):(twK fill).length=32:=by unfold twK upd;rw [List.length_set];rfl
theorem qhV (fill:UInt8) {g:Nat} (hg:g≤2147483647):(twG fill g).length=32:=qBS ⟨by decide,by decide,by omega,by omega⟩
theorem qEj {a b:Int} {x y:BB} (h1:1≤b) (h2:b < a) (h3:a≤2147483647) (hx:x.length=32) (hy:y.length=32):qn4 ((a,x,()),(b,y,()),noG,16,a,()):=by
 have hb:¬ (b,y,())=noG:=fun h=>by
  have:b=0:=congrArg Prod.fst h
  omega
 refine .inr ⟨⟨by dsimp only;omega,h3,hx⟩,h3,Int.le_refl _, ?_, .inr ⟨hb,⟨h1,by dsimp only;omega,hy⟩,h2, ?_, ?_⟩, .inl rfl⟩
 ·show (0:Int)≤a;omega
 ·show (1:Int)≤16;omega
 ·show (16:Int)≤16;omega
theorem qEk {x:BB} (hx:x.length=32):qn4 ((1,x,()),noG,noG,0,1,()):=by
 refine .inr ⟨⟨?_, ?_,hx⟩, ?_, ?_, ?_, .inl ⟨rfl,rfl⟩, .inl rfl⟩
 ·show (1:Int)≤1;omega
 ·show (1:Int)≤2147483647;omega
 ·show (1:Int)≤2147483647;omega
 ·show (1:Int)≤1;omega
 ·show (0:Int)≤1;omega
theorem qFy (fill:UInt8) {g:Nat} (hg:1≤g) (hg2:g≤100):qn4 (twR fill g):=by
 match g,hg with
 | 1,_=>exact qEk (qhV fill (by omega))
 | g+2,_=>exact qEj (b:=((g+1:Nat):Int)) (by omega) (by omega) (by omega) (qhV fill (by omega)) (qhV fill (by omega))
theorem qLo (i:Int) (hi:i=0∨i=1) (fill:UInt8) {g:Nat} (hg:1≤g) (hg2:g≤100):okS 0 (tw i fill g) where
 e:={
  id:=hi
  key:=by show (twK fill).length≤1000;rw [quJ];omega
  ph:=⟨by show (0:Int)≤3;omega,by show (3:Int)≤8;omega⟩
  store:=⟨qBG 1,List.length_replicate ..⟩
  own:=by show z1 (3+i);rcases hi with rfl | rfl <;> decide
  oth:=by show z1 (4 - i);rcases hi with rfl | rfl <;> decide
  seq:=by show z1 0;decide
  ring:=qFy fill hg hg2
  up:=rfl
  next:=by show (0:Int)≤0∧(0:Int) < 4;omega
  out:=Nat.le_refl _
  got:=Nat.le_refl _
  cnt:=rfl
  win:=rfl
  feed:=rfl
  life:=rfl
  queue:=by show ([]:List BB).length≤1000;simp }
 p:=Nat.le_refl _
theorem qLc:qjX (([false,false,false,false],[(none' UInt8,0,0,()),(none' UInt8,0,0,()),(none' UInt8,0,0,()),(none' UInt8,0,0,())],[0,0,0,0],0,()),0,())=some (hub1,0,()):=by kernel_rfl
def upH (h:THub):Prop:=h.1=[true,false,false,false]∧0≤h.2.2.2.1∧h.2.2.2.1 < 4
theorem qKU:upH hub1:=⟨rfl,by show (0:Int)≤0;omega,by show (0:Int) < 4;omega⟩
theorem qJG {h:THub} (hu:upH h):(wD h).2.2.1=0∧upH (wD h).1:=by
 refine ⟨?_,(qDt h).trans hu.1,quS hu.2⟩
 obtain ⟨u,f,l,n,⟨⟩⟩:=h
 obtain ⟨h1,h2,h3⟩:=hu
 dsimp only at h1 h2 h3
 subst h1
 have hc:qLf [true,false,false,false] n.toNat=some 0:=by
  have:n=0∨n=1∨n=2∨n=3:=by omega
  rcases this with rfl | rfl | rfl | rfl <;> decide
 unfold wD
 dsimp only
 rw [hc]
def qHz (s:Si) (b:BB):Si:=⟨{ s.e with hub:=(wD s.e.hub).1,out:=s.e.out++[((wD s.e.hub).2.1,qnA (j7 (qjU s.e b)++qcX s.e.ring.1.2.1 (j7 (qjU s.e b))),())],seq:=s.e.seq+1 },ptag s.p s.e.ring.1.2.1 (j7 (qjU s.e b))⟩
theorem qy2 {s:Si} {b:BB} (hb:qe7 b) (hl:jN s.e.ph) (hq:s.e.seq≤900000) (hu:upH s.e.hub):qaH s b=(qHz s b,0):=qHB hb hl hq (qJG hu).1
def qpN (n:yW):BB:=wrM (msgN n)
theorem qmI {n:yW} (h:x6 n):qe7 (qpN n):=⟨by
 unfold qpN wrM
 rw [List.length_append,List.length_append,x4]
 split <;> omega,qJh h⟩
theorem qHh {n:yW} (h:x6 n):rdN (qpN n)=(n,0,()):=qLa h
theorem qyU (n:Int):1≤wN n∧wN n≤999999:=by unfold wN;split <;> omega
def stN (s:Si) (q:yW):yW:=(q.1,q.2.1,wN s.e.stan,q.2.2.2)
theorem qD5 {s:Si} {q:yW} (hr:x6 (stN s q)):qsX q.2.1 (wN s.e.stan) (qpN (stN s q))=((q.2.1,wN s.e.stan,8,3,qpN (stN s q),()),0,()):=by
 unfold qsX
 rw [if_pos]
 have h:=qyU s.e.stan
 exact ⟨hr.1,h.1,h.2,(qmI hr).1,(qmI hr).2⟩
def askS (s:Si) (q:yW):Si:=⟨{ s.e with stan:=wN s.e.stan,ask:=(q.2.1,wN s.e.stan,8,3,qpN (stN s q),()) },s.p⟩
theorem qHk {s:Si} {q:yW} (hr:x6 (stN s q)):qvM s q=askS s q:=by
 unfold qvM askS
 have e:wrN (q.1,q.2.1,wN s.e.stan,q.2.2.2)=(qpN (stN s q),0,()):=qKN hr
 rw [e,qD5 hr]
theorem qFP {s:Si} {q:yW} (hr:x6 (stN s q)) (h1:¬ q.2.1=1) (hl:jN s.e.ph) (hq:s.e.seq≤900000) (hu:upH s.e.hub):qq8 s q=qHz (askS s q) (qpN (stN s q)):=by
 have e:wrN (q.1,q.2.1,wN s.e.stan,q.2.2.2)=(qpN (stN s q),0,()):=qKN hr
 unfold qq8
 rw [e,qHk hr,qD5 hr,if_pos ⟨rfl,rfl⟩,if_neg h1]
 exact congrArg Prod.fst (qy2 (s:=askS s q) (qmI hr) hl hq hu)
end Yp
namespace Yp
open Go
set_option maxRecDepth 100000
set_option maxHeartbeats 2000000
section
variable (i : Int) (fill : UInt8) (g : Nat) (nonce : BB)
end
end Yp
namespace Yp
open Go
set_option maxRecDepth 100000
set_option maxHeartbeats 2000000
set_option linter.unusedSectionVars false
section
variable {i : Int} (hi : i = 0 ∨ i = 1) (fill : UInt8) {g : Nat} (hg : 1 ≤ g) (hg2 : g ≤ 50) {nonce : BB} (h8 : nonce.length = 8) (bs bs' : List UInt64)
include hi hg hg2 h8
end
end Yp
namespace Yp
open Go
set_option maxRecDepth 100000
abbrev tyS:Ty := .pair (.pair (.int .i64) (.pair (.sl (.int .u8)) (.pair (.int .i64) (.pair (.pair (.sl (.int .u8)) (.pair (.sl (.int .u8)) (.unit))) (.pair (.int .i64) (.pair (.int .i64) (.pair (.int .i64) (.pair (.int .i64) (.pair (.int .i64) (.pair (.pair (.int .i64) (.pair (.ar 16 (.int .u64)) (.unit))) (.pair (.pair (.pair (.int .i64) (.pair (.sl (.int .u8)) (.unit))) (.pair (.pair (.int .i64) (.pair (.sl (.int .u8)) (.unit))) (.pair (.pair (.int .i64) (.pair (.sl (.int .u8)) (.unit))) (.pair (.int .i64) (.pair (.int .i64) (.unit)))))) (.pair (.pair (.int .i64) (.pair (.int .i64) (.pair (.int .i64) (.pair (.int .i64) (.pair (.sl (.int .u8)) (.unit)))))) (.pair (.int .i64) (.pair (.int .i64) (.pair (.sl (.sl (.int .u8))) (.pair (.pair (.ar 4 (.bool)) (.pair (.ar 4 (.pair (.sl (.int .u8)) (.pair (.int .i64) (.pair (.int .i64) (.unit))))) (.pair (.ar 4 (.int .i64)) (.pair (.int .i64) (.unit))))) (.pair (.sl (.pair (.int .i64) (.pair (.sl (.int .u8)) (.unit)))) (.pair (.sl (.pair (.int .i64) (.pair (.ar 2 (.int .i64)) (.pair (.int .i64) (.pair (.sl (.int .u8)) (.unit)))))) (.pair (.ar 4 (.int .i64)) (.unit)))))))))))))))))))) (.pair (.pair (.bool) (.pair (.sl (.pair (.sl (.int .u8)) (.pair (.sl (.int .u8)) (.unit)))) (.pair (.bool) (.unit)))) (.unit))
theorem qHx {x:yC} (h:okd tyS x):∃ s:Si,x=s.t∧qDf s.e:=by
 obtain ⟨s,rfl⟩:=qK5 x
 have e:=h.1
 exact ⟨s,rfl,e.2.2.2.2.2.2.2.2.2.1.2.1.1,e.2.2.2.2.2.2.2.2.2.2.2.2.2.2.2.1.1.1,e.2.2.2.2.2.2.2.2.2.2.2.2.2.2.2.1.2.1.1,e.2.2.2.2.2.2.2.2.2.2.2.2.2.2.2.1.2.2.1.1,e.2.2.2.2.2.2.2.2.2.2.2.2.2.2.2.2.2.2.1.1⟩
set_option maxHeartbeats 2000000
theorem qEl {l:List V}:∀ {last:Int},last≤128→zR last l=true→(l.length:Int)≤128 - last:=by
 induction l with
 | nil=>intro last h _;simp;omega
 | cons v l ih =>
  intro last h hr
  have h1:=xF hr v (List.mem_cons_self ..)
  have h2:=qwY h1.2
  have h3:zR v.1 l=true:=by
   unfold zR at hr
   rw [Bool.and_eq_true,Bool.and_eq_true] at hr
   exact hr.2.2
  have:=ih h2.2.1 h3
  simp only [List.length_cons]
  omega
theorem qaJ {m:M} (h:xO m=true):m.2.1.length≤128∧fewM m:=by
 have hr:=(xY.1 h).1
 have hl:=qEl (by omega) hr
 exact ⟨by omega,by omega,fun v hv=>by have:=qDR (xF hr v hv).2;omega⟩
def clsD (m:Int):Int:=if z7 m then m / 100 else 0
def qp9 (m:Int):Prop:=clsD m=1∨clsD m=2∨clsD m=4
instance (m:Int):Decidable (qp9 m):=by unfold qp9;infer_instance
theorem qdN (m:M):y8 (m,())=some (D (qp9 m.1),()):=by
 unfold y8 qp9
 dsimp only
 rw [show qg3 (m.1,())=some (clsD m.1,()) from qtU m.1]
 refine (qG rfl).trans ?_
 dsimp only
 generalize clsD m.1=c
 by_cases h1:c=1
 ·subst h1;rw [D_t (.inl rfl)];rfl
 by_cases h2:c=2
 ·subst h2;rw [D_t (.inr (.inl rfl))];rfl
 by_cases h4:c=4
 ·subst h4;rw [D_t (.inr (.inr rfl))];rfl
 rw [D_f (by omega),qbH h1,qbH h2,qbH h4];rfl
theorem qv1 (m:M):qpQ (m,())=some (D (qp9 m.1),()):=by
 unfold qpQ qp9
 dsimp only
 rw [show qaU (m.1,())=some (clsD m.1,()) from qpF m.1]
 refine (qG rfl).trans ?_
 dsimp only
 generalize clsD m.1=c
 by_cases h1:c=1
 ·subst h1;rw [D_t (.inl rfl)];rfl
 by_cases h2:c=2
 ·subst h2;rw [D_t (.inr (.inl rfl))];rfl
 by_cases h4:c=4
 ·subst h4;rw [D_t (.inr (.inr rfl))];rfl
 rw [D_f (by omega),qbH h1,qbH h2,qbH h4];rfl
def qs3 (m:M):Prop:=(getR 39 m.2.1).2.1=true∧(getR 39 m.2.1).1=[57,49]
instance (m:M):Decidable (qs3 m):=by unfold qs3;infer_instance
theorem qy5 (g:BB×Bool×Unit):(ob (sel g.2.1 (some (seq g.1 [57,49],())) (some (false,()))) fun (a:Bool×Unit)=>(some (a.1,()):Option (Bool×Unit)))=some (D (g.2.1=true∧g.1=[57,49]),()):=by
 obtain ⟨b,e,⟨⟩⟩:=g
 cases e
 ·rw [D_f (fun h=>Bool.false_ne_true h.1)];rfl
 ·refine (qG rfl).trans ?_
  by_cases h:b=[57,49]
  ·rw [D_t ⟨rfl,h⟩,qJt h]
  ·rw [D_f (fun x=>h x.2),qK7 h]
theorem qtV {m:M} (hr:zR 0 m.2.1=true) (hl:m.2.1.length≤1000000):qdO (m,())=some (D (qs3 m),()):=by
 unfold qdO qs3
 dsimp only
 rw [qoE _ _ hl,qAj hr]
 exact (qG rfl).trans (qy5 _)
theorem qqO {m:M} (hl:m.2.1.length≤1000000):qh1 (m,())=some (D (qs3 m),()):=by
 unfold qh1 qs3
 dsimp only
 rw [qjA _ _ hl]
 exact (qG rfl).trans (qy5 _)
def stM (m:M) (day:Int):M:=(m.1,setR m.2.1 (15,dg day 6,()),())
def badS (b:BB) (day:Int):Prop:=day < 0∨999999 < day∨¬ (rdM b).2.1=0∨¬ qp9 (rdM b).1.1∨qs3 (rdM b).1
instance (b:BB) (day:Int):Decidable (badS b day):=by unfold badS;infer_instance
def wL (b:BB) (day:Int):BB×Int :=
 if badS b day then ([],1) else if 900 < (wrM (stM (rdM b).1 day)).length then ([],4) else (wrM (stM (rdM b).1 day),0)
theorem qGY (day:Int):j9 15 (dg day 6)=true:=qbA (no:=15) (w:=6) fo15 (by omega)
theorem qqC {m:M} (h:xO m=true) (day:Int):xO (stM m day)=true:=by
 have h1:=xY.1 h
 exact xY.2 ⟨qEh (x:=(15,dg day 6,())) (qGY day) (by show (0:Int) < 15;omega) h1.1,h1.2⟩
theorem qzH {b:BB} (h:(rdM b).2.1=0):xO (rdM b).1=true∧wrM (rdM b).1=b:=by
 exact qBI (b:=b) (Prod.ext rfl (Prod.ext h rfl))
theorem quO {day:Int} (h0:0≤day) (h1:day≤999999):x3 (day,6,())=some (dg day 6,0,())∧j0 (day,6,())=some (dg day 6,0,()):=by
 rw [kV _ _ (by omega),yK _ _ (by omega),if_pos ⟨by omega,by omega,h0,by show day < 10 ^ 6;omega⟩]
 exact ⟨rfl,rfl⟩
theorem quL {m:M} (hm:xO m=true) (day:Int) {e:Int}:(sel (lt 900 (len (wrM (stM m day)))) (some (none' UInt8,4,())) (some (wrM (stM m day),0,())):Option (BB×Int×Unit))=some ((if 900 < (wrM (stM m day)).length then (([]:BB),(4:Int)) else (wrM (stM m day),0)).1,(if 900 < (wrM (stM m day)).length then (([]:BB),(4:Int)) else (wrM (stM m day),0)).2,()):=by
 by_cases h:900 < (wrM (stM m day)).length
 ·rw [if_pos h];exact qE (by simp only [go_sem,Int.reduceToNat];omega)
 ·rw [if_neg h];exact qB (by simp only [go_sem,Int.reduceToNat];omega)
theorem qa9 (b:BB) (day:Int) (hb:b.length≤1000000):qaC (b,day,())=some ((wL b day).1,(wL b day).2,()):=by
 unfold qaC wL
 rw [qlS _ hb]
 refine (qG rfl).trans ?_
 dsimp only
 by_cases h1:day < 0
 ·rw [if_pos (show badS b day from .inl h1)]
  exact (qG (qE (by simp only [go_sem,Int.reduceToNat];omega))).trans rfl
 by_cases h2:999999 < day
 ·rw [if_pos (show badS b day from .inr (.inl h2))]
  exact (qG ((qB (by simp only [go_sem,Int.reduceToNat];omega)).trans (qE (by simp only [go_sem,Int.reduceToNat];omega)))).trans rfl
 by_cases h3:(rdM b).2.1=0
 ·obtain ⟨hr,hw⟩:=qzH h3
  obtain ⟨hl,hf⟩:=qaJ hr
  have hr0:=(xY.1 hr).1
  rw [qdN,qtV hr0 (by omega)]
  by_cases h4:qp9 (rdM b).1.1
  ·by_cases h5:qs3 (rdM b).1
   ·rw [if_pos (show badS b day from .inr (.inr (.inr (.inr h5)))),D_t h4,D_t h5]
    exact (qG ((qB (by simp only [go_sem,Int.reduceToNat];omega)).trans ((qB (by simp only [go_sem,Int.reduceToNat];omega)).trans ((qB (bq_f h3)).trans rfl)))).trans rfl
   ·rw [if_neg (show ¬ badS b day by rintro (h | h | h | h | h) <;> first | exact h1 h | exact h2 h | exact h h3 | exact h h4 | exact h5 h),D_t h4,D_f h5]
    refine (qG (a:=(false,())) ((qB (by simp only [go_sem,Int.reduceToNat];omega)).trans ((qB (by simp only [go_sem,Int.reduceToNat];omega)).trans ((qB (bq_f h3)).trans rfl)))).trans ((qB rfl).trans ?_)
    rw [(quO (by omega) (by omega)).1]
    refine (qG rfl).trans ((qH (by simp only [go_sem,Int.reduceToNat,z2];omega)).trans ?_)
    rw [show jO ((rdM b).1,15,(dg day 6,(0:Int),()).1,())=some (stM (rdM b).1 day,0,()) by
     rw [qoD _ _ _ (by omega) (by rw [z2];omega)]
     unfold qHy
     rw [if_neg (by rw [fo15];simp),if_pos (qGY day),qEc hr0];rfl]
    refine (qG rfl).trans ?_
    have hs:=qqC hr day
    rw [qjF _ (qaJ hs).2,if_pos hs]
    exact (qG rfl).trans (quL hr day (e:=0))
  ·rw [if_pos (show badS b day from .inr (.inr (.inr (.inl h4)))),D_f h4]
   exact (qG ((qB (by simp only [go_sem,Int.reduceToNat];omega)).trans ((qB (by simp only [go_sem,Int.reduceToNat];omega)).trans ((qB (bq_f h3)).trans rfl)))).trans rfl
 ·rw [if_pos (show badS b day from .inr (.inr (.inl h3)))]
  exact (qG ((qB (by simp only [go_sem,Int.reduceToNat];omega)).trans ((qB (by simp only [go_sem,Int.reduceToNat];omega)).trans (qE (bq_t h3))))).trans rfl
theorem qfJ (b:BB) (day:Int) (hb:b.length≤1000000):qaK (b,day,())=some ((wL b day).1,(wL b day).2,()):=by
 unfold qaK wL
 rw [qgI _ hb]
 refine (qG rfl).trans ?_
 dsimp only
 have hl0:(rdM b).1.2.1.length≤1000000:=by have:=qFM (b:=b);omega
 rw [qv1,qqO hl0]
 refine (qG rfl).trans ((qG rfl).trans ?_)
 dsimp only
 by_cases hbad:badS b day
 ·rw [if_pos hbad]
  refine (qG (a:=(true,())) ?_).trans rfl
  unfold badS at hbad
  simp only [go_sem,Int.reduceToNat]
  refine qfH ?_
  rcases hbad with h | h | h | h | h <;> simp [h]
 ·rw [if_neg hbad]
  unfold badS at hbad
  simp only [not_or,Classical.not_not] at hbad
  obtain ⟨h1,h2,h3,h4,h5⟩:=hbad
  obtain ⟨hr,hw⟩:=qzH h3
  obtain ⟨hl,hf⟩:=qaJ hr
  rw [D_t h4,D_f h5]
  refine (qG (a:=(false,())) ((qB (by simp only [go_sem,Int.reduceToNat];omega)).trans ((qB (by simp only [go_sem,Int.reduceToNat];omega)).trans ((qB (bq_f h3)).trans rfl)))).trans ((qB rfl).trans ?_)
  rw [(quO (by omega) (by omega)).2]
  refine (qG rfl).trans ((qH (by simp only [go_sem,Int.reduceToNat,z2];omega)).trans ?_)
  rw [show qgH ((rdM b).1,15,(dg day 6,(0:Int),()).1,())=some (stM (rdM b).1 day,0,()) by
   rw [qtF _ _ _ (by omega) (by rw [z2];omega)]
   unfold qJr
   rw [if_neg (by rw [fo15];simp),if_pos (qGY day)];rfl]
  refine (qG rfl).trans ?_
  have hs:=qqC hr day
  rw [qfO _ (qaJ hs).2,if_pos hs]
  exact (qG rfl).trans (quL hr day (e:=0))
instance (n:yW):Decidable (fewN n):=by unfold fewN;infer_instance
end Yp
namespace Yp
open Go
set_option maxRecDepth 100000
set_option maxHeartbeats 2000000
set_option linter.unusedSectionVars false
section
variable {i : Int} (hi : i = 0 ∨ i = 1) (fill : UInt8) {g : Nat} (hg : 1 ≤ g) (hg2 : g ≤ 50) {nonce : BB} (h8 : nonce.length = 8) (bs bs' : List UInt64)
include hi hg hg2 h8
end
end Yp
namespace Yp
open Go
set_option maxRecDepth 100000
set_option maxHeartbeats 2000000
set_option linter.unusedSectionVars false
section
variable (fill : UInt8) {g : Nat} (hg : 1 ≤ g) (hg2 : g ≤ 50) {nonce : BB} (h8 : nonce.length = 8)
include hg hg2 h8
end
end Yp
namespace Yp
open Go
set_option maxRecDepth 100000
set_option maxHeartbeats 2000000
def qu1 (s:Si) (p:Int):Si:=⟨qH7 s.e p,s.p⟩
theorem qH6 (e:En') (p:Int):(qH7 e p).got.length≤e.got.length+1:=by
 show (if jN e.ph then e.got++[(5,qlG e,0,[],())] else e.got).length≤_
 split
 ·rw [List.length_append];exact Nat.le_refl _
 ·omega
theorem qGa {n:Nat} {s:Si} (h:okS n s) {p:Int} (h0:0≤p) (h8:p≤8):okS (n+1) (qu1 s p):=by
 refine ⟨{ qwE h.e (Nat.le_succ n) with ph:=⟨h0,h8⟩,own:=by show z1 0;decide,oth:=by show z1 0;decide,seq:=by show z1 0;decide,ring := .inl rfl,got := ?_,win:=rfl,queue:=by show ([]:List BB).length≤1000;simp },Nat.le_succ_of_le h.p⟩
 have h1:=qH6 s.e p
 have h2:=h.e.got
 exact Nat.le_trans h1 (by omega)
def phS (s:Si) (p:Int):Si:=⟨{ s.e with ph:=p },s.p⟩
theorem qIW {n:Nat} {s:Si} (h:okS n s) {p:Int} (h0:0≤p) (h8:p≤8):okS n (phS s p):=⟨{ h.e with ph:=⟨h0,h8⟩ },h.p⟩
def evS (s:Si) (k n:Int) (b:BB):Si:=⟨{ s.e with got:=s.e.got++[(k,qlG s.e,n,b,())] },s.p⟩
theorem qGb {n:Nat} {s:Si} (h:okS n s) (k q:Int) (b:BB):okS (n+1) (evS s k q b):=by
 refine ⟨{ qwE h.e (Nat.le_succ n) with got := ?_ },Nat.le_succ_of_le h.p⟩
 have:=h.e.got
 show (s.e.got++[(k,qlG s.e,q,b,())]).length≤n+1
 rw [List.length_append,List.length_singleton];omega
theorem qg8 {s:Si} {n:Nat} (hs:okS n s) (hn:n≤900000) (k q:Int) (b:BB):qdQ (s.t,k,q,b,())=some ((evS s k q b).t,()):=by
 have hg:=hs.e.got
 unfold qdQ
 dsimp only
 rw [show s.t.1.2.2.2.2.2.2.2.2.2.2.2.2.2.2.2.2.2.1=s.e.got from rfl,qEF]
 refine (qG rfl).trans ?_
 rw [show kP (s.t.1,())=_ from qcF s.e]
 refine (qG rfl).trans ?_
 refine (qH (by simp only [go_sem,Int.reduceToNat];simp;omega)).trans ?_
 rfl
def popS (s:Si) (q:List BB):Si:=⟨{ s.e with queue:=q },s.p⟩
theorem qrF {n:Nat} {s:Si} (h:okS n s) {q:List BB} (hq:q.length≤1000):okS n (popS s q):=⟨{ h.e with queue:=hq },h.p⟩
def qzJ:Nat→Si→Si
 | 0,s=>s
 | n+1,s=>match s.e.queue with
  | []=>s
  | b :: q=>if (qaH s b).2=0 then qzJ n (popS (qaH s b).1 q) else s
def qFS (s:Si):Si:=qzJ s.e.queue.length s
theorem qzI {f:yC×Unit→Option (LS (yC×Unit) (yC×Unit))}
  (h0:∀ s n,okS n s→n≤900000→s.e.queue=[]→f (s.t,())=some (.ex 0 (s.t,())))
  (h1:∀ s n b q,okS n s→n≤900000→s.e.queue=b :: q→(qaH s b).2=0→f (s.t,())=some (.nx ((popS (qaH s b).1 q).t,())))
  (h2:∀ s n b q,okS n s→n≤900000→s.e.queue=b :: q→¬ (qaH s b).2=0→f (s.t,())=some (.ex 0 (s.t,()))∨f (s.t,())=some (.rt (s.t,()))) :
  ∀ k (s:Si) n,okS n s→n+k≤900000→s.e.queue.length=k →
   lc (loop f (s.t,())) (fun (_:yC×Unit)=>none) (fun (i:Nat) (a:yC×Unit)=>ck (neb i 0) (some (a.1,()))) (fun (r:yC×Unit)=>some r)=some ((qzJ k s).t,()):=by
 intro k
 induction k with
 | zero =>
  intro s n hs hn hk
  exact (qY (qT (h0 s n hs (by omega) (List.length_eq_zero_iff.1 hk)))).trans rfl
 | succ k ih =>
  intro s n hs hn hk
  obtain ⟨b,q,hq⟩:∃ b q,s.e.queue=b :: q:=by
   cases h:s.e.queue with
   | nil=>rw [h] at hk;cases hk
   | cons b q=>exact ⟨b,q,rfl⟩
  have hl:q.length=k:=by rw [hq,List.length_cons] at hk;omega
  have hq1:=hs.e.queue
  rw [hq,List.length_cons] at hq1
  unfold qzJ
  rw [hq]
  dsimp only
  by_cases h:(qaH s b).2=0
  ·rw [if_pos h]
   exact (qY (vV (h1 s n b q hs (by omega) hq h))).trans (ih _ (n+1) (qrF (qwD hs b) (by omega)) (by omega) hl)
  ·rw [if_neg h]
   rcases h2 s n b q hs (by omega) hq h with h' | h'
   ·exact (qY (qT h')).trans rfl
   ·exact (qY (qeS h')).trans rfl
theorem take_nil {q:List BB} (h:q=[]):qc9 (q,())=some ([],[],false,()):=by subst h;rfl
theorem qyS {q r:List BB} {b:BB} (h:q=b :: r) (hl:q.length≤1000000):qc9 (q,())=some (b,r,true,()):=by
 subst h
 have hl':r.length+1≤1000000:=hl
 unfold qc9
 dsimp only
 refine (qB (by simp only [go_sem,Int.reduceToNat];simp only [List.length_cons];omega)).trans ((qH (by simp only [go_sem,Int.reduceToNat];simp only [List.length_cons];omega)).trans ((qH (by simp only [go_sem,Int.reduceToNat];simp only [List.length_cons];omega)).trans ?_))
 unfold kC
 dsimp only
 rw [show sub (b :: r) 1 (len (b :: r))=r by simp [sub,len]]
 refine (qG (qH (by simp only [go_sem,Int.reduceToNat];omega))).trans rfl
theorem qcI {s:Si} {n:Nat} (hs:okS n s) (hn:n≤800000):qdR (s.t,())=some ((qFS s).t,()):=by
 unfold qdR
 have hq:=hs.e.queue
 refine qzI ?_ ?_ ?_ s.e.queue.length s n hs (by omega) rfl
 ·intro s n hs hn h
  exact (zV (take_nil h)).trans rfl
 ·intro s n b q hs hn h hz
  have hq:=hs.e.queue
  refine (zV (qyS h (by omega))).trans ((qG rfl).trans ((qB rfl).trans ?_))
  refine (zV (y0 hs hn b)).trans ((qG rfl).trans ((qB (bq_f hz)).trans ?_))
  rfl
 ·intro s n b q hs hn h hz
  have hq:=hs.e.queue
  refine .inl ((zV (qyS h (by omega))).trans ((qG rfl).trans ((qB rfl).trans ?_)))
  exact (zV (y0 hs hn b)).trans ((qG rfl).trans (qE (bq_t hz)))
theorem qgB {s:Si} {n:Nat} (hs:okS n s) (hn:n≤800000):qcZ (s.t,())=some ((qFS s).t,()):=by
 unfold qcZ
 have hq:=hs.e.queue
 have pos:∀ {s:Si} {b:BB} {q:List BB},s.e.queue=b :: q→s.e.queue.length≤1000→lt 0 (len s.e.queue)=true∧inB 0 (len s.e.queue)=true∧inC 1 (len s.e.queue) (len s.e.queue)=true∧rm 32 (nadd (ln (none' BB)) (ln (sub s.e.queue 1 (len s.e.queue))))=true∧nth s.e.queue (nat 0) (none' UInt8)=b∧app (none' BB) (sub s.e.queue 1 (len s.e.queue))=q:=by
  intro s b q h hl
  rw [h] at hl ⊢
  have hl':q.length+1≤1000:=hl
  rw [show sub (b :: q) 1 (len (b :: q))=q by simp [sub,len]]
  exact ⟨by simp only [go_sem,Int.reduceToNat];simp only [List.length_cons];omega,by simp only [go_sem,Int.reduceToNat];simp only [List.length_cons];omega,by simp only [go_sem,Int.reduceToNat];simp only [List.length_cons];omega,by simp only [go_sem,Int.reduceToNat];omega,rfl,rfl⟩
 refine qzI ?_ ?_ ?_ s.e.queue.length s n hs (by omega) rfl
 ·intro s n hs hn h
  exact qB (by show lt 0 (len s.e.queue)=false;rw [h];rfl)
 ·intro s n b q hs hn h hz
  obtain ⟨p1,p2,p3,p4,p5,p6⟩:=pos h hs.e.queue
  refine (qE p1).trans ((qH p2).trans ?_)
  refine (zV ((congrArg (fun b=>wX (s.t,b,())) p5).trans (qgC hs hn b))).trans ((qG rfl).trans ((qB (bq_f hz)).trans ((qH p3).trans ((qH p4).trans ?_))))
  exact congrArg (fun q=>some (LS.nx ((popS (qaH s b).1 q).t,()))) p6
 ·intro s n b q hs hn h hz
  obtain ⟨p1,p2,p3,p4,p5,p6⟩:=pos h hs.e.queue
  refine .inr ((qE p1).trans ((qH p2).trans ?_))
  exact (zV ((congrArg (fun b=>wX (s.t,b,())) p5).trans (qgC hs hn b))).trans ((qG rfl).trans (qE (bq_t hz)))
theorem qzR:∀ (k:Nat) {n:Nat} {s:Si},okS n s→okS (n+k) (qzJ k s)
 | 0,n,s,h=>h
 | k+1,n,s,h=>by
  unfold qzJ
  split
  ·exact xC h (by omega)
  ·rename_i b q hq
   split
   ·have hq1:=h.e.queue
    rw [hq,List.length_cons] at hq1
    have:=qzR k (qrF (qwD h b) (q:=q) (by omega))
    rwa [show n+1+k=n+(k+1) by omega] at this
   ·exact xC h (by omega)
theorem qDz {n:Nat} {s:Si} (h:okS n s):okS (n+1000) (qFS s):=xC (qzR _ h) (by have:=h.e.queue;omega)
def putQ (q:List BB) (b:BB):List BB×Int:=if 8≤q.length then (q,8) else (q++[b],0)
theorem qtN (q:List BB) (b:BB):qlE (q,b,8,())=some ((putQ q b).1,(putQ q b).2,()):=by
 unfold qlE putQ qdA
 dsimp only
 rw [if_neg (by omega)]
 by_cases h:8 < (q.length:Int)
 ·rw [if_pos h,if_pos (by omega)];rfl
 ·rw [if_neg h]
  refine (qG rfl).trans ?_
  dsimp only
  rw [show (8:Int).toNat=8 from rfl,List.length_singleton]
  by_cases h8:q.length=8
  ·rw [if_pos (by omega),h8];rfl
  ·rw [if_neg (by omega),show min (8 - q.length) 1=1 by omega,List.take_of_length_le (by rw [List.length_singleton];omega)];rfl
theorem qs9 (q:List BB) (b:BB) (hl:q.length≤1000000):qk4 (q,b,8,())=some ((putQ q b).1,(putQ q b).2,()):=by
 unfold qk4 putQ
 dsimp only
 refine (qG (a:=(false,())) rfl).trans ((qB rfl).trans ?_)
 by_cases h:8≤q.length
 ·rw [if_pos h]
  exact qE (by simp only [go_sem,Int.reduceToNat];omega)
 ·rw [if_neg h]
  refine (qB (by simp only [go_sem,Int.reduceToNat];omega)).trans ((qH (by simp only [go_sem,Int.reduceToNat];omega)).trans ((qH (by simp only [go_sem,Int.reduceToNat];simp;omega)).trans rfl))
def subS (s:Si) (b:BB):Si×Int :=
 if ¬ (wL b s.e.day).2=0 then (s,(wL b s.e.day).2) else if ¬ qe6 s.e.ph then (s,7)
 else if ¬ (putQ s.e.queue (wL b s.e.day).1).2=0 then (s,(putQ s.e.queue (wL b s.e.day).1).2)
 else (qFS (evS (popS s (putQ s.e.queue (wL b s.e.day).1).1) 1 0 (wL b s.e.day).1),0)
theorem qv4 {q:List BB} {b:BB} (h:q.length≤1000):(putQ q b).1.length≤1000:=by
 unfold putQ
 split
 ·exact h
 ·rw [List.length_append,List.length_singleton];omega
theorem qJO {n:Nat} {s:Si} (h:okS n s) (b:BB):okS (n+1001) (subS s b).1:=by
 unfold subS
 split
 ·exact xC h (by omega)
 split
 ·exact xC h (by omega)
 split
 ·exact xC h (by omega)
 ·exact xC (qDz (qGb (qrF h (qv4 h.e.queue)) _ _ _)) (by omega)
theorem wF {s:Si} {n:Nat} (hs:okS n s) (hn:n≤700000) (b:BB) (hb:b.length≤1000000):yP (s.t,b,())=some ((subS s b).1.t,(subS s b).2,()):=by
 unfold yP subS
 refine (zV (qa9 b s.e.day hb)).trans ((qG rfl).trans ?_)
 generalize wL b s.e.day=r
 obtain ⟨o,e⟩:=r
 dsimp only
 by_cases h0:e=0
 ·subst h0
  rw [if_neg (by simp)]
  refine (qB rfl).trans ((zV (qaZ s.e.ph)).trans ((qG rfl).trans ?_))
  by_cases hg:qe6 s.e.ph
  ·rw [if_neg (not_not_intro hg)]
   refine (qB (by rw [D_t hg];rfl)).trans ((zV (qtN s.e.queue o)).trans ((qG rfl).trans ?_))
   have hl:=qv4 (b:=o) hs.e.queue
   generalize putQ s.e.queue o=p at hl ⊢
   obtain ⟨q,c⟩:=p
   dsimp only at hl ⊢
   by_cases hc:c=0
   ·subst hc
    rw [if_neg (by simp)]
    have h1:=qrF hs hl
    refine (qB rfl).trans ((zV (qg8 h1 (by omega) 1 0 o)).trans ((qG rfl).trans ?_))
    exact (zV (qcI (qGb h1 1 0 o) (by omega))).trans rfl
   ·rw [if_pos hc]
    exact qE (bq_t hc)
  ·rw [if_pos hg]
   exact qE (by rw [D_f hg];rfl)
 ·rw [if_pos h0]
  exact qE (bq_t h0)
theorem qm4 {s:Si} {n:Nat} (hs:okS n s) (hn:n≤700000) (b:BB) (hb:b.length≤1000000):qbK (s.t,b,())=some ((subS s b).1.t,(subS s b).2,()):=by
 unfold qbK subS
 refine (zV (qfJ b s.e.day hb)).trans ((qG rfl).trans ?_)
 generalize wL b s.e.day=r
 obtain ⟨o,e⟩:=r
 dsimp only
 by_cases h0:e=0
 ·subst h0
  rw [if_neg (by simp)]
  refine (qB rfl).trans ((zV (qaN s.e.ph)).trans ((qG rfl).trans ?_))
  by_cases hg:qe6 s.e.ph
  ·rw [if_neg (not_not_intro hg)]
   have hq:=hs.e.queue
   refine (qB (by rw [D_t hg];rfl)).trans ((zV (qs9 s.e.queue o (by omega))).trans ((qG rfl).trans ?_))
   have hl:=qv4 (b:=o) hs.e.queue
   generalize putQ s.e.queue o=p at hl ⊢
   obtain ⟨q,c⟩:=p
   dsimp only at hl ⊢
   by_cases hc:c=0
   ·subst hc
    rw [if_neg (by simp)]
    have h1:=qrF hs hl
    have hg1:=h1.e.got
    refine (qB rfl).trans ((zV (qaM (popS s q).e)).trans ((qG rfl).trans ?_))
    refine (zV (qi9 (popS s q).e 1 (qlG (popS s q).e) 0 o (by omega))).trans ((qG rfl).trans ?_)
    exact (zV (qgB (qGb h1 1 0 o) (by omega))).trans rfl
   ·rw [if_pos hc]
    exact qE (bq_t hc)
  ·rw [if_pos hg]
   exact qE (by rw [D_f hg];rfl)
 ·rw [if_pos h0]
  exact qE (bq_t h0)
def dayQ (day:Int):yW:=(true,201,0,0,0,[],[],day,())
def qCa (s:Si) (day:Int):Si×Int :=
 if day≤s.e.day∨999999 < day then (s,1) else if ¬ qe6 s.e.ph then (s,7) else if ¬ s.e.ph=3∨¬ s.e.ask.1=0 then (s,9)
 else (qq8 (phS s 5) (dayQ day),0)
theorem qHZ {n:Nat} {s:Si} (h:okS n s) (day:Int):okS (n+1) (qCa s day).1:=by
 unfold qCa
 split
 ·exact xC h (by omega)
 split
 ·exact xC h (by omega)
 split
 ·exact xC h (by omega)
 ·exact qF9 (qIW h (by omega) (by omega)) _
theorem qFZ:qdC (3,7,())=some (5,true,()):=rfl
theorem qFY:qdC (5,8,())=some (3,true,()):=rfl
theorem qtW {s:Si} {n:Nat} (hs:okS n s) (hn:n≤900000) (day:Int):qlW (s.t,day,())=some ((qCa s day).1.t,(qCa s day).2,()):=by
 unfold qlW qCa
 dsimp only
 rw [show s.t.1.2.2.2.2.2.2.2.2.2.2.2.2.2.1=s.e.day from rfl,show s.t.1.2.2.1=s.e.ph from rfl,show s.t.1.2.2.2.2.2.2.2.2.2.2.2.1.1=s.e.ask.1 from rfl]
 by_cases h1:day≤s.e.day∨999999 < day
 ·rw [if_pos h1]
  refine (qG (a:=(true,())) ?_).trans rfl
  simp only [go_sem,Int.reduceToNat]
  exact qfH h1
 ·rw [if_neg h1]
  refine (qG (a:=(false,())) (by simp only [go_sem,Int.reduceToNat];exact qb4 (by omega))).trans ((qB rfl).trans ?_)
  rw [qaZ]
  refine (qG rfl).trans ?_
  by_cases h2:qe6 s.e.ph
  ·rw [if_neg (not_not_intro h2),D_t h2]
   refine (qB rfl).trans ?_
   by_cases h3:¬ s.e.ph=3∨¬ s.e.ask.1=0
   ·rw [if_pos h3]
    refine (qG (a:=(true,())) (by simp only [go_sem,Int.reduceToNat];exact qfH h3)).trans rfl
   ·rw [if_neg h3]
    refine (qG (a:=(false,())) (by simp (disch:=omega) only [go_sem,Int.reduceToNat];exact qb4 (fun h=>h3 (.inr h)))).trans ((qB rfl).trans ?_)
    simp only [not_or,Classical.not_not] at h3
    rw [h3.1,qFZ]
    refine (qG rfl).trans ?_
    exact (zV (qkL (qIW hs (p:=5) (by omega) (by omega)) hn (dayQ day))).trans rfl
  ·rw [if_pos h2,D_f h2];rfl
def givG (s:Si):Si:=if s.e.ph=5 then ⟨qF7 s.e,s.p⟩ else s
theorem qcH {s:Si} (h:s.e.ph=5):qdP (s.t,())=some ((⟨qF7 s.e,s.p⟩:Si).t,()):=by
 unfold qdP
 rw [show (s.t,()).1.1.2.2.1=5 from h,qFY];rfl
theorem qrT (s:Si):qiR (s.t,())=some ((givG s).t,()):=by
 unfold qiR givG
 by_cases h:s.e.ph=5
 ·rw [if_pos h]
  refine (qB (bq_f h)).trans ?_
  exact (zV (qcH h)).trans rfl
 ·rw [if_neg h]
  exact qE (bq_t h)
def qGw (s:Si) (day:Int):Si:=⟨{ s.e with day:=maxI s.e.day day },s.p⟩
theorem qHY {n:Nat} {s:Si} (h:okS n s) (day:Int):okS n (qGw s day):=⟨{ h.e with },h.p⟩
def qMg (s:Si) (n:yW):Si:=(qaH (qGw s n.2.2.2.2.2.2.2.1) (qFI n 0)).1
theorem qrU {s:Si} {m:Nat} (hs:okS m s) (hm:m≤900000) (n:yW):qiS (s.t,n,())=some ((qMg s n).t,()):=by
 unfold qiS
 exact qID (qHY hs n.2.2.2.2.2.2.2.1) hm n 0
noncomputable def agrS (s:Si) (n:yW):Si :=
 if ¬ s.e.ph=5∨¬ quZ s.e.ask n.2.1 n.2.2.1 then qG4 s 3
 else if n.2.2.2.1=0 then qGw ⟨qF7 s.e,s.p⟩ (rdN s.e.ask.2.2.2.2.1).1.2.2.2.2.2.2.2.1 else ⟨qF7 s.e,s.p⟩
theorem qpL {s:Si} (n:yW) (hb:s.e.ask.2.2.2.2.1.length≤1000000):qe5 (s.t,n,())=some ((agrS s n).t,()):=by
 unfold qe5 agrS
 dsimp only
 rw [show s.t.1.2.2.1=s.e.ph from rfl,show s.t.1.2.2.2.2.2.2.2.2.2.2.2.1=s.e.ask from rfl,quE]
 by_cases h5:s.e.ph=5
 ·by_cases hm:quZ s.e.ask n.2.1 n.2.2.1
  ·rw [if_neg (fun h=>h.elim (fun h=>h h5) (fun h=>h hm)),D_t hm]
   refine (qG (a:=(false,())) ((qB (bq_f h5)).trans rfl)).trans ((qB rfl).trans ?_)
   rw [qtO _ hb]
   refine (qG rfl).trans ?_
   by_cases hr:n.2.2.2.1=0
   ·rw [if_pos hr]
    refine (qE (qnT hr)).trans ?_
    exact (zV (qcH (s:=qGw s (rdN s.e.ask.2.2.2.2.1).1.2.2.2.2.2.2.2.1) h5)).trans rfl
   ·rw [if_neg hr]
    refine (qB (qbH hr)).trans ?_
    exact (zV (qcH h5)).trans rfl
  ·rw [if_pos (.inr hm),D_f hm]
   exact (qG (a:=(true,())) ((qB (bq_f h5)).trans rfl)).trans ((qE rfl).trans (qvG s))
 ·rw [if_pos (.inl h5)]
  exact (qG (a:=(true,())) (qE (bq_t h5))).trans ((qE rfl).trans (qvG s))
def oqS (h:THub):Si:=⟨{ twE 0 (u8 0) 1 with hub:=h },(true,[],false,())⟩
theorem qJN:qiN (true,())=some ((oqS hub1).t,()):=by
 unfold qiN
 refine (qH rfl).trans ?_
 rw [show rep (nat 32) (u8 0)=twK (u8 0) from rfl,show qgD (twK (u8 0),[3,4],1,none' UInt8,())=_ from qs7 (twK (u8 0)) [3,4] 1 [] (by rw [quJ];omega) (by simp)]
 refine (qG rfl).trans ?_
 dsimp only
 rw [show keyD (twK (u8 0)) [3,4] 1 []=twG (u8 0) 1 from rfl,qtC,show newR (twG (u8 0) 1)=(twR (u8 0) 1,0,()) by unfold newR;rw [if_pos (qhV (u8 0) (by omega))];rfl]
 refine (qG rfl).trans ((qE rfl).trans ?_)
 dsimp only
 rw [qLc]
 refine (qG rfl).trans ?_
 rw [qtA]
 refine (qG rfl).trans ?_
 exact (qG (o:=qlB _) rfl).trans rfl
theorem qLp {h:THub} (h1:h.1.length=4) (h2:0≤h.2.2.2.1∧h.2.2.2.1 < 4) (h3:h.2.1.length=4) (h4:h.2.2.1.length=4):okS 0 (oqS h):=by
 have:=qLo 0 (.inl rfl) (u8 0) (g:=1) (by omega) (by omega)
 exact ⟨{ this.e with up:=h1,next:=h2,feed:=h3,life:=h4 },this.p⟩
theorem qJP:okS 0 (oqS hub1):=qLp rfl ⟨by show (0:Int)≤0;omega,by show (0:Int) < 4;omega⟩ rfl rfl
def payM (mti:Int):M:=(mti,[(11,[48,48,48,48,48,55],())],())
def payB (mti:Int):BB:=wrM (payM mti)
theorem qiL {mti:Int} (h:mti=200∨mti=400):xO (payM mti)=true:=by rcases h with rfl | rfl <;> decide
theorem qpT {mti:Int} (h:mti=200∨mti=400):qa6 (mti,())=some (payB mti,()):=by
 unfold qa6
 have hr:=qiL h
 rw [show vT ((mti,[(11,[u8 48,u8 48,u8 48,u8 48,u8 48,u8 55],())],()),())=vT (payM mti,()) from rfl,qfO _ (qaJ hr).2,if_pos hr];rfl
def payD (day:Int):M:=(200,[(11,[48,48,48,48,48,55],()),(15,dg day 6,())],())
theorem qFg (day:Int):stM (payM 200) day=payD day:=rfl
theorem quT (day:Int):xO (payD day)=true:=qqC (qiL (.inl rfl)) day
theorem qlF (day:Int):qe7 (wrM (payD day)):=by
 refine ⟨?_, ?_⟩
 ·unfold wrM
  rw [List.length_append,List.length_append,x4]
  split <;> omega
 ·have:=qE4 (quT day)
  have h:((payD day).2.1.map (fun v=>v.2.1.length+2)).sum=16:=by
   show 6+2+((dg day 6).length+2+0)=16
   rw [z2]
  omega
theorem qqB {day:Int} (h0:0≤day) (h1:day≤999999):wL (payB 200) day=(wrM (payD day),0):=by
 have hr:rdM (payB 200)=(payM 200,0,()):=qv3 (qiL (.inl rfl))
 unfold wL
 rw [if_neg,hr]
 ·rw [if_neg,qFg]
  have:=(qlF day).2
  show ¬ 900 < (wrM (stM (payM 200) day)).length
  rw [qFg];omega
 ·unfold badS
  rw [hr]
  rintro (h | h | h | h | h)
  ·omega
  ·omega
  ·exact h rfl
  ·exact h (by show qp9 200;decide)
  ·exact absurd h (by show ¬ qs3 (payM 200);decide)
theorem qHA (s:Si) (b:BB):(qaH s b).1.e.day=s.e.day:=by
 unfold qaH
 split
 ·rfl
 split
 ·rfl
 split
 ·rfl
 have h:(qhC s (qjU s.e b) s.e.ring.1.2.1).1.e.day=s.e.day:=by unfold qhC;split <;> rfl
 dsimp only
 split <;> exact h
def zO (day:Int):BB:=wrM (payD day)
def zX:Si:=popS (qHz (evS (popS (oqS hub1) [zO 0]) 1 0 (zO 0)) (zO 0)) []
theorem qL0:subS (oqS hub1) (payB 200)=(zX,0):=by
 unfold subS
 rw [show (oqS hub1).e.day=0 from rfl,qqB (by omega) (by omega),if_neg (not_not_intro rfl),if_neg (not_not_intro (show qe6 (oqS hub1).e.ph from .inl rfl)),show putQ (oqS hub1).e.queue (wrM (payD 0),(0:Int)).1=([zO 0],0) from rfl,if_neg (not_not_intro rfl)]
 refine Prod.ext ?_ rfl
 show qzJ 1 (evS (popS (oqS hub1) [zO 0]) 1 0 (zO 0))=zX
 unfold qzJ
 rw [show (evS (popS (oqS hub1) [zO 0]) 1 0 (zO 0)).e.queue=[zO 0] from rfl]
 dsimp only
 rw [qy2 (s:=evS (popS (oqS hub1) [zO 0]) 1 0 (zO 0)) (b:=zO 0) (qlF 0) (by show jN 3;unfold jN;omega) (by show (0:Int)≤900000;omega) qKU,if_pos rfl]
 rfl
theorem qnL {s:Si} {day:Int} (h0:0≤day) (h9:day≤999999):x6 (stN s (dayQ day)):=by
 have h:=qyU s.e.stan
 refine ⟨.inr (.inr (.inr (.inl rfl))),h.1,h.2,by show (0:Int)≤0;omega,by show (0:Int)≤99;omega,fun _=>rfl, ?_⟩
 unfold qz6
 rw [if_neg (fun q=>absurd q.2 (by show ¬ (201:Int)=101;omega))]
 refine ⟨rfl,rfl,rfl, ?_⟩
 rw [if_pos ⟨rfl,rfl⟩]
 exact ⟨h0,h9⟩
def datS (s:Si) (day:Int):Si:=qHz (askS (phS s 5) (dayQ day)) (qpN (stN (phS s 5) (dayQ day)))
theorem qKp {s:Si} {day:Int} (h0:0≤s.e.day) (hd:s.e.day < day) (h9:day≤999999) (hp:s.e.ph=3) (ha:s.e.ask.1=0) (hq:s.e.seq≤900000) (hu:upH s.e.hub):qCa s day=(datS s day,0):=by
 unfold qCa
 rw [if_neg (by omega),if_neg (not_not_intro (show qe6 s.e.ph by rw [hp];exact .inl rfl)),if_neg (by omega)]
 refine Prod.ext ?_ rfl
 exact qFP (s:=phS s 5) (qnL (by omega) h9) (by show ¬ (201:Int)=1;omega) (by show jN 5;unfold jN;omega) hq hu
theorem qIG {s:Si} {day:Int} (h0:0≤s.e.day) (hd:s.e.day < day) (h9:day≤999999) {n:yW} (hn:n.2.1=201) (hs:n.2.2.1=(datS s day).e.ask.2.1) (hr:n.2.2.2.1=0) (bs:WT) (p:qcP):agrS ⟨{ (datS s day).e with win:=bs },p⟩ n=qGw ⟨qF7 { (datS s day).e with win:=bs },p⟩ day:=by
 unfold agrS
 rw [if_neg,if_pos hr]
 ·rw [show (⟨{ (datS s day).e with win:=bs },p⟩:Si).e.ask.2.2.2.2.1=qpN (stN (phS s 5) (dayQ day)) from rfl,qHh (qnL (by omega) h9)]
  rfl
 ·rintro (h | h)
  ·exact h rfl
  ·refine h ⟨?_,hn.symm,hs.symm⟩
   intro h
   have:(201:Int)=0:=congrArg Prod.fst h
   omega
theorem qJq:qeV ()=some (true,()):=by
 have ok0:=qJP
 unfold qeV
 refine (zV qJN).trans ((qG rfl).trans ((zV (qpT (.inl rfl))).trans ((qG rfl).trans ?_)))
 have hb:(payB 200).length≤1000000:=by
  have:=(qlF 0).2
  have:=qE4 (qiL (mti:=200) (.inl rfl))
  have h:((payM 200).2.1.map (fun v=>v.2.1.length+2)).sum=8:=rfl
  unfold payB;omega
 have hx:=wF ok0 (by omega) (payB 200) hb
 rw [qL0] at hx
 refine (zV hx).trans ((qG rfl).trans ((zV (qpT (.inl rfl))).trans ((qG rfl).trans ?_)))
 have hst:=qa9 (payB 200) 5 hb
 rw [qqB (by omega) (by omega)] at hst
 refine (zV hst).trans ((qG rfl).trans ?_)
 have hrd:w8 (wrM (payD 5),())=some (payD 5,0,()):=by
  rw [qgI _ (by have:=(qlF 5).2;omega),qv3 (quT 5)]
 refine (zV hrd).trans ((qG rfl).trans ?_)
 have hgt:qc3 (payD 5,15,())=some (dg 5 6,true,()):=(qjA (payD 5) 15 (by show (2:Nat)≤1000000;omega)).trans rfl
 refine (zV hgt).trans ((qG rfl).trans ?_)
 refine (zV (qqR (oqS hub1).e 0 (by show (0:Nat)≤1000000;omega))).trans ((qG rfl).trans ((zV (qpT (.inl rfl))).trans ((qG rfl).trans ?_)))
 have okl:okS 1 (qu1 (oqS hub1) 0):=qGa ok0 (by omega) (by omega)
 have hl:=wF okl (by omega) (payB 200) hb
 have hl7:subS (qu1 (oqS hub1) 0) (payB 200)=(qu1 (oqS hub1) 0,7):=by
  unfold subS
  rw [show (qu1 (oqS hub1) 0).e.day=0 from rfl,qqB (by omega) (by omega),if_neg (not_not_intro rfl),if_pos (show ¬ qe6 (qu1 (oqS hub1) 0).e.ph from show ¬ qe6 (0:Int) by decide)]
 rw [hl7] at hl
 refine (zV hl).trans ((qG rfl).trans ?_)
 have hd:=qtW ok0 (by omega) 9
 have okd:=qHZ ok0 9
 rw [qKp (s:=oqS hub1) (day:=9) (by show (0:Int)≤0;omega) (by show (0:Int) < 9;omega) (by omega) rfl rfl (by show (0:Int)≤900000;omega) qKU] at hd okd
 refine (zV hd).trans ((qG rfl).trans ((zV (qpT (.inr rfl))).trans ((qG rfl).trans ?_)))
 have ht:qbU ((oqS hub1).t,(2,0,[0,0],0,4,payB 400,none' UInt8,()),payD 5,())=some ((evS (oqS hub1) 2 4 (payB 400)).t,()):=by
  unfold qbU
  refine (zV (qdN (payD 5))).trans ((qG rfl).trans ((qB (by rw [D_t (show qp9 (payD 5).1 from show qp9 200 by decide)];rfl)).trans ?_))
  refine (zV (qaZ 3)).trans ((qG rfl).trans ((qE (D_t (.inl rfl))).trans ?_))
  refine (qG (o:=qe4 _) rfl).trans ((qG (o:=qe3 _) rfl).trans ?_)
  exact (zV (qg8 ok0 (by omega) 2 4 (payB 400))).trans rfl
 refine (zV ht).trans ((qG rfl).trans ?_)
 have hw:=qrU ok0 (by omega) (true,201,1,0,0,[],[],8,())
 refine (zV hw).trans ((qG rfl).trans ?_)
 refine (qG (a:=(false,())) rfl).trans ((qB rfl).trans ?_)
 have ha:=qpL (s:=datS (oqS hub1) 9) (false,201,(datS (oqS hub1) 9).e.ask.2.1,0,0,[],[],0,()) (by have:=(qmI (qnL (s:=phS (oqS hub1) 5) (day:=9) (by omega) (by omega))).2;show (qpN (stN (phS (oqS hub1) 5) (dayQ 9))).length≤1000000;omega)
 have ha2:=qIG (s:=oqS hub1) (day:=9) (by show (0:Int)≤0;omega) (by show (0:Int) < 9;omega) (by omega) (n:=(false,201,(datS (oqS hub1) 9).e.ask.2.1,0,0,[],[],0,())) rfl rfl rfl (datS (oqS hub1) 9).e.win (datS (oqS hub1) 9).p
 rw [show agrS (datS (oqS hub1) 9) _=_ from ha2] at ha
 refine (zV ha).trans ((qG rfl).trans ?_)
 refine (qG (a:=(true,())) ?_).trans rfl
 refine (qE rfl).trans ((qE rfl).trans ((qH rfl).trans ((qE rfl).trans ((qE rfl).trans ((qE rfl).trans ((qE rfl).trans ?_))))))
 refine (qE (qJt (by decide))).trans ((qE rfl).trans ?_)
 refine (zV (qkK okl (by omega))).trans ((qG rfl).trans ((qE rfl).trans ?_))
 refine (qE rfl).trans ((qE rfl).trans ((qH rfl).trans ((qE rfl).trans ((qH rfl).trans ((qE rfl).trans ?_)))))
 refine (qE (qnT ((qHA _ _).trans rfl))).trans ((qE rfl).trans ((qE rfl).trans ?_))
 refine (zV (qrT (datS (oqS hub1) 9))).trans ((qG rfl).trans ((qE rfl).trans ?_))
 refine (zV (qcI ok0 (by omega))).trans ((qG rfl).trans ?_)
 exact (zV (show jF ((qFS (oqS hub1)).t,(oqS hub1).t,())=some (true,()) from qkK ok0 (by omega))).trans rfl
theorem qpK (s:Si) (hw:qDf s.e) (b:BB) (day:Int):kN (s.t,b,day,())=some (true,()):=by
 unfold kN
 rw [qJq]
 refine (qG rfl).trans ?_
 dsimp only
 rw [qs6 s hw]
 refine (qG rfl).trans ?_
 by_cases hm:mayS s
 ·by_cases hl:b.length≤1500
  ·have ok:=qJQ hw hm
   refine (qG (a:=(false,())) ((qB (by rw [D_t hm];rfl)).trans (by rw [lt_f (show ¬ (1500:Int) < len b by simp only [go_sem,Int.reduceToNat];omega)]))).trans ((qB rfl).trans ?_)
   refine (zV (qa9 b day (by omega))).trans ((qG rfl).trans ((zV (qfJ b day (by omega))).trans ((qG rfl).trans ?_)))
   refine (zV (wF ok (by omega) b (by omega))).trans ((qG rfl).trans ((zV (qm4 ok (by omega) b (by omega))).trans ((qG rfl).trans ?_)))
   refine (qG (a:=(true,())) ((qE rfl).trans ?_)).trans rfl
   refine (qG (zC _ _)).trans ((qE (qkQ _)).trans ((qE (vL _)).trans ?_))
   refine (zV (qkK (qJO ok b) (by omega))).trans ((qG rfl).trans ((qE rfl).trans ((qE (vL _)).trans ?_)))
   refine (zV (qcI ok (by omega))).trans ((qG rfl).trans ((zV (qgB ok (by omega))).trans ((qG rfl).trans ?_)))
   exact (zV (qkK (qDz ok) (by omega))).trans rfl
  ·exact (qG (a:=(true,())) ((qB (by rw [D_t hm];rfl)).trans (by rw [lt_t (show (1500:Int) < len b by simp only [go_sem,Int.reduceToNat];omega)]))).trans rfl
 ·exact (qG (a:=(true,())) (qE (by rw [D_f hm];rfl))).trans rfl
end Yp
namespace Yp
open Go
set_option maxRecDepth 100000
set_option maxHeartbeats 2000000
set_option linter.unusedSectionVars false
section
variable (fill : UInt8) {g : Nat} (hg : 1 ≤ g) (hg2 : g ≤ 50) {na nb : BB} (ha : na.length = 8) (hb : nb.length = 8) (bs bt bu : List UInt64)
include hg hg2 ha
include hb
end
end Yp
namespace Yp
open Go
set_option maxRecDepth 100000
set_option maxHeartbeats 2000000
def fig1 (t:Int):Int:=t / 10 % 10
def qLN (m:M):Prop:=(fig1 m.1=1∨fig1 m.1=3)∧qs3 m
instance (m:M):Decidable (qLN m):=by unfold qLN;infer_instance
theorem qyJ (x:denL [tyS, .sl (.int .u8), .int .i64]) (h:okL [tyS, .sl (.int .u8), .int .i64] x):kN x=some (true,()):=by
 obtain ⟨s,hs,hw⟩:=qHx h.1
 have:=qpK s hw x.2.1 x.2.2.1
 rw [← hs] at this
 exact this
end Yp