/- A part of the proof of the statements of this seat: plain functions, and laws on them. No condition of its own. -/
import Derived.Test.YtbpaehkcjccplaaGreatDoorQ1
import Derived.Test.YtbpaehkcjccplaaGreatDoorProg
import Derived.KernelRfl
set_option linter.unusedVariables false
set_option linter.unusedSimpArgs false
namespace Yp
open Go Go.Conc Go.RowKit Go.Proofs
set_option maxRecDepth 100000 in
theorem qFr {w:World} {qa la:Option Addr} {qn qc ln lc R:Nat} (h1:1≤R) (h64:R≤64) {qpt lpt:Nat→Addr} {qv lv:Nat→Value} (hq:Src1 w qa qn qc qpt qv) (hl:Src1 w la ln lc lpt lv) :
  Calls Tryz.prog 286 #[.slice qa qn qc, .slice la ln lc, .int .i64 R] w fun e w'=>(R < qn∧e = .returned (.tuple #[.slice qa qn qc, .int .i64 0, .int .i64 0])∨qn≤R∧∃ sv,e = .returned (.tuple #[sv, .int .i64 (min ln (R - qn):Nat), .int .i64 0])∧qxB w' w.heap.size (w.heap.size+1) ((List.range qn).map qv++(List.range (min ln (R - qn))).map lv).toArray (qn+min ln (R - qn)) sv)∧qxE w w' w.heap.size (w.heap.size+1):=by
 have hr1:¬ (R:Int) < 1:=by omega
 have hr2:¬ (64:Int) < (R:Int):=by omega
 refine calls_of_loneTo fun cs => ?_
 have e:Frame.enter Tryz.prog 286 #[.slice qa qn qc, .slice la ln lc, .int .i64 R] .normal=(base 286).at ⟨#[.slice qa qn qc, .slice la ln lc, .int .i64 R,undef,undef,undef,undef,undef,undef,undef,undef,undef,undef,undef,undef,undef,undef,undef,undef,undef,undef,undef,undef,undef,undef,undef,undef,undef,undef,undef,undef,undef,undef],[]⟩ [.code (Tryz.f286.body.getD .skip)]:=by
  simp [Frame.enter,Frame.at,Tryz.func286,base,Tryz.f286]
 rw [e]
 refine LoneTo.goes (n:=30) ?_
 simp only [Tryz.f286,Option.getD_some]
 s_c stepG_seq
 s_reg
 s_op
 s_op
 s_op
 s_c stepG_region_end
 s_c stepG_seq
 s_c stepG_seq
 s_reg
 s_op
 s_op
 s_op
 s_op
 s_op
 s_op
 s_c stepG_region_end
 s_cond false
 s_c stepG_skip
 s_c stepG_seq
 s_reg
 s_op
 s_in
 refine goes_call rfl rfl (by decide) rfl Tryz.func354 (by kernel_rfl) rfl ⟨trivial, ?_⟩
 walk_nrmf Tryz.f354
 s_stop
 have he1:Frame.enter Tryz.prog 354 #[.int .i64 R] .normal=(base 354).at ⟨#[.int .i64 R,undef,undef,undef,undef,undef],[]⟩ [.code (Tryz.f354.body.getD .skip)]:=by
  simp [Frame.enter,Frame.at,Tryz.func354,base,Tryz.f354]
 simp only [Tryz.f354,Option.getD_some] at he1
 rw [← he1]
 refine qaB (qEs h64) (fun e w' h=>⟨_,h.1⟩) (fun v w1 h => ?_)
 obtain ⟨hv,b1,b2,b3,b4,b5,b6⟩:=h
 cases hv
 rw [Frame.finish_at]
 walk_nrm
 refine LoneTo.goes (n:=30) ?_
 s_op
 s_op
 s_c stepG_region_end
 s_c stepG_seq
 s_c stepG_seq
 s_reg
 s_op
 s_op
 s_stop
 have hbox:(w1.alloc (.cells #[.chan (some (w.heap.size+1))] 378)).heap[w.heap.size+2]? = some (.cells #[.chan (some (w.heap.size+1))] 378):=by
  have:=heap_alloc_new w1 (.cells #[.chan (some (w.heap.size+1))] 378)
  rw [b4] at this
  exact this
 have hch:∃ s r,(w1.alloc (.cells #[.chan (some (w.heap.size+1))] 378)).heap[w.heap.size+1]? = some (.chan R #[] false s r false):=⟨0,0,by rw [heap_alloc_old _ _ (by omega)];exact b6⟩
 have hk2:qxE w (w1.alloc (.cells #[.chan (some (w.heap.size+1))] 378)) w.heap.size (w.heap.size+1):=⟨b1,b2,b3,by rw [qP];omega,fun b hb _=>by rw [heap_alloc_old _ _ (by omega)];exact b5 b hb⟩
 have hs2:(w1.alloc (.cells #[.chan (some (w.heap.size+1))] 378)).heap.size=w.heap.size+3:=by rw [qP];omega
 generalize w1.alloc (.cells #[.chan (some (w.heap.size+1))] 378)=w2 at hbox hch hk2 hs2
 have srcOf:∀ {a:Option Addr} {n cp:Nat} {pt:Nat→Addr} {val:Nat→Value} (wx:World),Src1 w a n cp pt val→qxE w wx w.heap.size (w.heap.size+1)→(∀ i,i < n→wx.cell? (pt i)=some (val i))∧∀ i,i < n→(pt i).block < wx.heap.size∧(pt i).block≠w.heap.size+1:=by
  intro a n cp pt val wx hs hk
  refine ⟨fun i hi => ?_,fun i hi=>⟨Nat.lt_of_lt_of_le (hs.low i hi) hk.size,by have:=hs.low i hi;omega⟩⟩
  rw [← hs.cell i hi]
  exact quG (hk.other _ (hs.low i hi) (by have:=hs.low i hi;omega))
 refine LoneTo.goes (n:=3) ?_
 s_in
 refine goes_call rfl rfl (by decide) rfl Tryz.func355 (by kernel_rfl) rfl ⟨trivial, ?_⟩
 walk_nrmf Tryz.f355
 s_stop
 have he2:Frame.enter Tryz.prog 355 #[.agg #[.chan (some (w.heap.size+1))], .slice qa qn qc] .normal=(base 355).at ⟨#[.agg #[.chan (some (w.heap.size+1))], .slice qa qn qc,undef,undef,undef,undef,undef,undef,undef,undef,undef,undef,undef,undef,undef,undef,undef,undef,undef,undef,undef,undef],[]⟩ [.code (Tryz.f355.body.getD .skip)]:=by
  simp [Frame.enter,Frame.at,Tryz.func355,base,Tryz.f355]
 simp only [Tryz.f355,Option.getD_some] at he2
 rw [← he2]
 have hq2:=srcOf w2 hq hk2
 refine qaB (qzJ hch hq.le (Nat.zero_le _) hq.ix hq2.1 hq2.2) (fun e w' h=>⟨_,h.1⟩) (fun v w3 h => ?_)
 obtain ⟨hv,hw3⟩:=h
 cases hv
 have hk3:qxE w w3 w.heap.size (w.heap.size+1):=⟨hw3.os.trans hk2.os,hw3.tape.trans hk2.tape,hw3.output.trans hk2.output,Nat.le_trans hk2.size hw3.size,fun b hb hne=>(hw3.other b (by omega) hne).trans (hk2.other b hb hne)⟩
 have hbox3:w3.heap[w.heap.size+2]? = some (.cells #[.chan (some (w.heap.size+1))] 378):=(hw3.other _ (by omega) (by omega)).trans hbox
 have hs3:w.heap.size+3≤w3.heap.size:=by have:=hw3.size;omega
 have hbc:w3.cell? ⟨w.heap.size+2,0,none⟩=some (.chan (some (w.heap.size+1))):=by simp [World.cell?,hbox3]
 by_cases hfull:R < qn
 ·have hm:min qn (R - (#[]:Array Value).size)=R:=by simp;omega
  rw [hm,Frame.finish_at]
  walk_nrm
  refine LoneTo.goes (n:=30) ?_
  s_op
  s_op
  s_op
  s_c stepG_region_end
  s_cond true
  s_c stepG_seq
  s_reg
  s_op
  s_op
  s_op
  s_op
  s_c stepG_region_end
  s_c stepG_ret'
  s_stop
  exact LoneTo.done ⟨.returned (.tuple #[.slice qa qn qc, .int .i64 0, .int .i64 0]),_,rfl,⟨.inl ⟨hfull,rfl⟩,hk3⟩,rfl,rfl,rfl,rfl,_,Tryz.func286,by simp [results,Tryz.f286,Frame.at]⟩
 ·have hm:min qn (R - (#[]:Array Value).size)=qn:=by simp;omega
  rw [hm] at hw3 ⊢
  rw [Frame.finish_at]
  walk_nrm
  have hbf : #[]++((List.range qn).map qv).toArray=((List.range qn).map qv).toArray:=by simp
  rw [hbf] at hw3
  have hbsz:((List.range qn).map qv).toArray.size=qn:=by simp
  refine LoneTo.goes (n:=30) ?_
  s_op
  s_op
  s_op
  s_c stepG_region_end
  s_cond false
  s_c stepG_skip
  s_c stepG_seq
  s_reg
  s_op
  s_op
  s_stop
  refine LoneTo.goes (n:=3) ?_
  s_in
  refine goes_call rfl rfl (by decide) rfl Tryz.func355 (by kernel_rfl) rfl ⟨trivial, ?_⟩
  walk_nrmf Tryz.f355
  s_stop
  have he3:Frame.enter Tryz.prog 355 #[.agg #[.chan (some (w.heap.size+1))], .slice la ln lc] .normal=(base 355).at ⟨#[.agg #[.chan (some (w.heap.size+1))], .slice la ln lc,undef,undef,undef,undef,undef,undef,undef,undef,undef,undef,undef,undef,undef,undef,undef,undef,undef,undef,undef,undef],[]⟩ [.code (Tryz.f355.body.getD .skip)]:=by
   simp [Frame.enter,Frame.at,Tryz.func355,base,Tryz.f355]
  simp only [Tryz.f355,Option.getD_some] at he3
  rw [← he3]
  have hl3:=srcOf w3 hl hk3
  refine qaB (qzJ hw3.ch hl.le (by omega) hl.ix hl3.1 hl3.2) (fun e w' h=>⟨_,h.1⟩) (fun v w4 h => ?_)
  obtain ⟨hv,hw4⟩:=h
  cases hv
  rw [hbsz] at hw4 ⊢
  have hk4:qxE w w4 w.heap.size (w.heap.size+1):=⟨hw4.os.trans hk3.os,hw4.tape.trans hk3.tape,hw4.output.trans hk3.output,Nat.le_trans hk3.size hw4.size,fun b hb hne=>(hw4.other b (by omega) hne).trans (hk3.other b hb hne)⟩
  have hbox4:w4.heap[w.heap.size+2]? = some (.cells #[.chan (some (w.heap.size+1))] 378):=(hw4.other _ (by omega) (by omega)).trans hbox3
  have hs4:w.heap.size+3≤w4.heap.size:=by have:=hw4.size;omega
  have hbc4:w4.cell? ⟨w.heap.size+2,0,none⟩=some (.chan (some (w.heap.size+1))):=by simp [World.cell?,hbox4]
  have hall:((List.range qn).map qv).toArray++((List.range (min ln (R - qn))).map lv).toArray=((List.range qn).map qv++(List.range (min ln (R - qn))).map lv).toArray:=by simp
  rw [hall] at hw4
  have hasz:((List.range qn).map qv++(List.range (min ln (R - qn))).map lv).toArray.size=qn+min ln (R - qn):=by simp
  rw [Frame.finish_at]
  walk_nrm
  refine LoneTo.goes (n:=30) ?_
  s_op
  s_c stepG_region_end
  s_c stepG_seq
  s_reg
  s_op
  s_in
  refine goes_call rfl rfl (by decide) rfl Tryz.func356 (by kernel_rfl) rfl ⟨trivial, ?_⟩
  walk_nrmf Tryz.f356
  s_stop
  have he4:Frame.enter Tryz.prog 356 #[.agg #[.chan (some (w.heap.size+1))]] .normal=(base 356).at ⟨#[.agg #[.chan (some (w.heap.size+1))],undef,undef,undef,undef,undef,undef,undef,undef,undef,undef,undef,undef,undef,undef,undef,undef,undef],[]⟩ [.code (Tryz.f356.body.getD .skip)]:=by
   simp [Frame.enter,Frame.at,Tryz.func356,base,Tryz.f356]
  simp only [Tryz.f356,Option.getD_some] at he4
  rw [← he4]
  refine qaB (qH9 hw4.ch (by rw [hasz];omega) ?_) (fun e w' h=>h.elim fun sv h=>⟨sv,h.1⟩) (fun v w5 h => ?_)
  ·intro v hv
   simp only [List.mem_toArray,List.mem_append,List.mem_map,List.mem_range] at hv
   rcases hv with ⟨i,hi,rfl⟩ | ⟨i,hi,rfl⟩
   ·exact hq.sl i hi
   ·exact hl.sl i (by omega)
  obtain ⟨sv,hv,hR5,hk5⟩:=h
  cases hv
  rw [hasz] at hR5
  rw [Frame.finish_at]
  walk_nrm
  refine LoneTo.goes (n:=30) ?_
  s_op
  s_op
  s_op
  s_op
  s_c stepG_region_end
  s_c stepG_ret'
  s_stop
  refine LoneTo.done ⟨.returned (.tuple #[v, .int .i64 (min ln (R - qn):Nat), .int .i64 0]),_,rfl,⟨.inr ⟨by omega,v,rfl, ?_⟩, ?_⟩,rfl,rfl,rfl,rfl,_,Tryz.func286,by simp [results,Tryz.f286,Frame.at]⟩
  ·obtain ⟨b,cp,arr,r1,r2,r3,r4,r5,r6,r7,r8⟩:=hR5
   exact ⟨b,cp,arr,r1,r2,r3,r4,r5,r6,by omega,r8⟩
  ·exact ⟨hk5.os.trans hk4.os,hk5.tape.trans hk4.tape,hk5.output.trans hk4.output,Nat.le_trans hk4.size hk5.size,fun b hb hne=>(hk5.other b (by omega) hne).trans (hk4.other b hb hne)⟩
end Yp
namespace Yp
open Go Go.RowKit Go.Proofs
abbrev qm4:Ty := .sl (.sl (.int .u8))
theorem qIg {w:World} {X:Nat→Prop} {l:List BB} {a:Option Addr} {cap:Nat} (h1:l.length≤cap) (h2:cap≤maxLen)
  (h:l=[]∨∃ b o c el fz,a=some ⟨b,o,none⟩∧view w X b=some (.cells c el fz)∧o+l.length*(Ty.sl (.int .u8)).size≤c.size∧∀ (i:Nat) (x:BB),lget l i=some x→RepC (view w X) (.sl (.int .u8)) x (seg c (o+i*(Ty.sl (.int .u8)).size) (Ty.sl (.int .u8)).size)) :
  ∃ pt val,Src1 w a l.length cap pt val∧∀ i (hi:i < l.length),RepC (view w X) (.sl (.int .u8)) (l[i]:BB) [val i]:=by
 have hle:l.length≤9223372036854775807:=by unfold maxLen at h2;omega
 rcases h with rfl | ⟨b,o,c,el,fz,rfl,hb,hsz,hrow⟩
 ·exact ⟨fun _=>⟨0,0,none⟩,fun _=>undef,⟨fun i hi=>absurd hi (Nat.not_lt_zero i),fun i hi=>absurd hi (Nat.not_lt_zero i),fun i hi=>absurd hi (Nat.not_lt_zero i),fun i hi=>absurd hi (Nat.not_lt_zero i),hle⟩,fun i hi=>absurd hi (Nat.not_lt_zero i)⟩
 ·have hsz:o+l.length≤c.size:=by
   have:(Ty.sl (.int .u8)).size=1:=rfl
   rw [this] at hsz;omega
  have hh:=(zA.1 hb).2
  have hget:∀ i,i < l.length→c[o+i]? = some (c[o+i]?.getD undef):=by
   intro i hi
   rw [Array.getElem?_eq_getElem (by omega)];rfl
  have hr:∀ i (hi:i < l.length),RepC (view w X) (.sl (.int .u8)) (l[i]:BB) [c[o+i]?.getD undef]:=by
   intro i hi
   have:=hrow i l[i] (List.getElem?_eq_getElem hi)
   have hs:seg c (o+i*(Ty.sl (.int .u8)).size) (Ty.sl (.int .u8)).size=[c[o+i]?.getD undef]:=by
    have e1:(Ty.sl (.int .u8)).size=1:=rfl
    rw [e1,Nat.mul_one]
    refine List.ext_getElem? fun j => ?_
    by_cases hj:j < 1
    ·obtain rfl:j=0:=by omega
     rw [qdM hj,Nat.add_zero,hget i hi];rfl
    ·rw [List.getElem?_eq_none (by rw [z6 (by omega)];omega),List.getElem?_eq_none (by simp;omega)]
   rwa [hs] at this
  refine ⟨fun i=>⟨b,o+i,none⟩,fun i=>c[o+i]?.getD undef,⟨fun i hi w1 => ?_,fun i hi => ?_,fun i _=>(Array.getElem?_eq_some_iff.1 hh).1,fun i hi => ?_,hle⟩,hr⟩
  ·have:=yZ (P:=Tryz.prog) (e := .sl (.int .u8)) (tid:=35) (hTT 35 _ (by kernel_rfl)) (k := .i64) (i:=(i:Int)) (n:=l.length) (cap:=cap) (by omega) (by omega) b o w1
   rw [this]
   have e1:(Ty.sl (.int .u8)).size=1:=rfl
   rw [e1,Nat.mul_one,Int.toNat_natCast]
  ·show w.cell? ⟨b,o+i,none⟩=_
   simp only [World.cell?,hh]
   rw [hget i hi];rfl
  ·obtain ⟨a',cp',hv,_⟩:=RepC.jQ.1 (hr i hi)
   exact ⟨_,_,_,List.cons.inj hv |>.1⟩
noncomputable abbrev qnA:wM:=⟨[.sl (.sl (.int .u8)), .sl (.sl (.int .u8)), .int .i64],[.im (.sl (.sl (.int .u8))), .im (.int .i64), .im (.int .i64)],qcR⟩
theorem ret3 {w w':World} {X:Nat→Prop} (hX:∀ b,X b→b < w.heap.size) (hos:w'.os=w.os) (htape:w'.tape=w.tape) (hout:w'.output=w.output) (hsz:w.heap.size≤w'.heap.size) (hold:∀ b,b < w.heap.size→w'.heap[b]? = w.heap[b]?) {q:List BB} {n m:Int} {v:Value} (hv:RepC (view w' X) qm4 q [v]) :
  ∃ vr,Ending.returned (.tuple #[v, .int .i64 n, .int .i64 m]) = .returned vr∧qcB w X w' [.im qm4, .im (.int .i64), .im (.int .i64)] (q,n,m,()) vr:=by
 refine ⟨_,rfl,X,hos,htape,hout,hsz,hold,fun _ _=>Iff.rfl,fun b h=>Nat.lt_of_lt_of_le (hX b h) hsz,[v, .int .i64 n, .int .i64 m], ?_,rfl⟩
 exact ⟨[v],_,rfl,hv,[.int .i64 n],_,rfl,RepC.zR.2 rfl,[.int .i64 m],[],rfl,RepC.zR.2 rfl,rfl⟩
theorem qG4 {w w':World} {X:Nat→Prop} (hX:∀ b,X b→b < w.heap.size) (hold:∀ b,b < w.heap.size→w'.heap[b]? = w.heap[b]?) {q:List BB} {c:Nat} {vals:Array Value} {sv:Value} (hR:qxB w' w.heap.size c vals q.length sv)
  (hq:∀ i (hi:i < q.length),∃ v,vals[i]? = some v∧RepC (view w X) (.sl (.int .u8)) (q[i]:BB) [v]):RepC (view w' X) qm4 q [sv]:=by
 obtain ⟨b,cp,arr,rfl,hb,hmc,hcm,hasz,hvals,hlb,hbc⟩:=hR
 have hle:(view w X).Le (view w' X):=qfD fun b' o hM ho=>⟨hM,(hold b' (Array.getElem?_eq_some_iff.1 ho).1).trans ho⟩
 have e1:(Ty.sl (.int .u8)).size=1:=rfl
 refine RepC.jQ.2 ⟨some ⟨b,0,none⟩,cp,rfl,hmc,hcm, .inr ⟨b,0,arr,22,(0,0),rfl,zA.2 ⟨fun h=>absurd (hX b h) (by omega),hb⟩, ?_,fun i x hx => ?_⟩⟩
 ·show 0+q.length*1≤arr.size
  omega
 ·obtain ⟨hi,rfl⟩:=List.getElem?_eq_some_iff.1 hx
  have hi:i < q.length:=hi
  obtain ⟨v,hv,hr⟩:=hq i hi
  have hs:seg arr (0+i*(Ty.sl (.int .u8)).size) (Ty.sl (.int .u8)).size=[v]:=by
   rw [e1,Nat.mul_one,Nat.zero_add]
   refine List.ext_getElem? fun j => ?_
   by_cases hj:j < 1
   ·obtain rfl:j=0:=by omega
    rw [qdM hj,Nat.add_zero,hvals i hi,hv];rfl
   ·rw [List.getElem?_eq_none (by rw [z6 (by omega)];omega),List.getElem?_eq_none (by simp;omega)]
  rw [hs]
  exact hr.mono hle
theorem qHj {w:World} {X:Nat→Prop} (hX:∀ b,X b→b < w.heap.size) (q l:List BB) (room:Int) {r:List BB×Int×Int×Unit} {cs1 cs2:List Value} (hq:RepC (view w X) qm4 q cs1) (hl:RepC (view w X) qm4 l cs2) (hr:qcR (q,l,room,())=some r) :
  Calls Tryz.prog 286 #[mkV qm4 cs1,mkV qm4 cs2, .int .i64 room] w fun e w'=>∃ vr,e = .returned vr∧qcB w X w' [.im qm4, .im (.int .i64), .im (.int .i64)] r vr:=by
 have hq0:=hq
 obtain ⟨qa,qc,rfl,q1,q2,q3⟩:=RepC.jQ.1 hq
 obtain ⟨la,lc,rfl,l1,l2,l3⟩:=RepC.jQ.1 hl
 obtain ⟨qpt,qv,sq,rq⟩:=qIg (l:=q) q1 q2 q3
 obtain ⟨lpt,lv,sl,rl⟩:=qIg (l:=l) l1 l2 l3
 unfold qcR at hr
 dsimp only at hr
 show Calls Tryz.prog 286 #[.slice qa q.length qc, .slice la l.length lc, .int .i64 room] w _
 by_cases h1:room < 1
 ·rw [if_pos (.inl h1)] at hr
  obtain rfl:=Option.some.inj hr
  refine (qHk h1).mono fun e w' h => ?_
  obtain ⟨rfl,rfl⟩:=h
  exact ret3 hX rfl rfl rfl (Nat.le_refl _) (fun _ _=>rfl) hq0
 by_cases h2:64 < room
 ·rw [if_pos (.inr h2)] at hr
  obtain rfl:=Option.some.inj hr
  refine (qFs h1 h2).mono fun e w' h => ?_
  obtain ⟨rfl,rfl⟩:=h
  exact ret3 hX rfl rfl rfl (Nat.le_refl _) (fun _ _=>rfl) hq0
 rw [if_neg (by omega)] at hr
 obtain ⟨R,rfl⟩:∃ R:Nat,room=R:=⟨room.toNat,by omega⟩
 refine (qFr (by omega) (by omega) sq sl).mono fun e w' h => ?_
 obtain ⟨h,hk⟩:=h
 have hold:∀ b,b < w.heap.size→w'.heap[b]? = w.heap[b]? := fun b hb=>hk.other b hb (by omega)
 have hle:(view w X).Le (view w' X):=qfD fun b' o hM ho=>⟨hM,(hold b' (Array.getElem?_eq_some_iff.1 ho).1).trans ho⟩
 rcases h with ⟨hlt,rfl⟩ | ⟨hge,sv,rfl,hR⟩
 ·rw [if_pos (by omega)] at hr
  obtain rfl:=Option.some.inj hr
  exact ret3 hX hk.os hk.tape hk.output hk.size hold (hq0.mono hle)
 ·rw [if_neg (by omega),Int.toNat_natCast] at hr
  obtain rfl:=Option.some.inj hr
  rw [Nat.min_comm (R - q.length) l.length]
  have hlen:(q++l.take (R - q.length):List BB).length=q.length+min l.length (R - q.length):=by
   rw [List.length_append,List.length_take,Nat.min_comm]
  refine ret3 hX hk.os hk.tape hk.output hk.size hold (qG4 hX hold (c:=w.heap.size+1) (vals:=((List.range q.length).map qv++(List.range (min l.length (R - q.length))).map lv).toArray) (by rw [hlen];exact hR) fun i hi => ?_)
  by_cases hiq:i < q.length
  ·refine ⟨qv i, ?_, ?_⟩
   ·rw [List.getElem?_toArray,List.getElem?_append_left (by simpa using hiq)]
    simp [hiq]
   ·rw [List.getElem_append_left hiq]
    exact rq i hiq
  ·have hj:i - q.length < min l.length (R - q.length):=by omega
   refine ⟨lv (i - q.length), ?_, ?_⟩
   ·rw [List.getElem?_toArray,List.getElem?_append_right (by simp;omega)]
    simp [hj]
   ·rw [List.getElem_append_right (by omega),List.getElem_take]
    exact rl _ (by omega)
theorem qzC:FOK Tryz.prog 286 qnA:=by
 refine ⟨⟨Tryz.f286,Tryz.func286,by kernel_rfl,by kernel_rfl⟩, ?_⟩
 intro w X x vs r hX hkeys ha hr
 obtain ⟨q,l,room,⟨⟩⟩:=x
 obtain ⟨cs1,vs1,rfl,hq,cs2,vs2,rfl,hl,cs3,vs3,rfl,hro,rfl⟩:=ha
 obtain rfl:=RepC.zR.1 hro
 exact qHj hX q l room hq hl hr
end Yp
namespace Yp
open Go Go.Proofs Tryz
abbrev yT19:Ty := .int .u32
abbrev yT13:Ty := .bool
abbrev yT12:Ty := .int .u8
abbrev yT3:Ty := .sl yT12
abbrev yT22:Ty := .sl yT3
abbrev yT16:Ty := .pair yT3 (.pair yT3 (.unit))
abbrev yT9:Ty := .pair yT13 (.pair (.sl yT16) (.pair yT13 (.unit)))
abbrev yT2:Ty := .int .i64
abbrev yT15:Ty := .pair yT2 (.pair (.ar 16 (.int .u64)) (.unit))
abbrev yT14:Ty := .pair yT2 (.pair yT2 (.unit))
abbrev yT20:Ty := .pair yT3 yT14
abbrev yT7:Ty := .pair yT2 (.pair yT2 (.pair (.ar 2 yT2) (.pair yT2 (.pair yT2 yT16))))
abbrev yT6:Ty := .pair (.ar 4 yT13) (.pair (.ar 4 yT20) (.pair (.ar 4 yT2) (.pair yT2 (.unit))))
abbrev yT5:Ty := .pair yT13 (.pair yT2 (.pair yT2 (.pair yT2 (.pair yT2 (.pair yT3 (.pair yT3 (.pair yT2 (.unit))))))))
abbrev yT4:Ty := .pair yT2 (.pair yT3 (.unit))
abbrev yT21:Ty := .pair (.sl yT4) (.pair (.fn [350]) (.unit))
abbrev yT18:Ty := .pair yT2 (.pair (.ar 2 yT2) yT4)
abbrev yT17:Ty := .pair (.ar 8 yT19) yT4
abbrev yT11:Ty := .pair yT2 (.pair yT2 (.pair yT2 yT4))
abbrev yT10:Ty := .pair yT4 (.pair yT4 (.pair yT4 yT14))
abbrev yT8:Ty := .pair yT2 (.pair (.sl yT4) (.unit))
abbrev yT0:Ty := .pair yT2 (.pair yT3 (.pair yT2 (.pair yT16 (.pair yT2 (.pair yT2 (.pair yT2 (.pair yT2 (.pair yT2 (.pair yT15 (.pair yT10 (.pair yT11 (.pair yT2 (.pair yT2 (.pair yT22 (.pair yT6 (.pair (.sl yT4) (.pair (.sl yT18) (.pair (.ar 4 yT2) (.unit)))))))))))))))))))
abbrev yT1:Ty := .pair yT0 (.pair yT9 (.unit))
theorem qwH:FK 65 ⟨[yT16],[.im yT13],qdR⟩:=mkC qD qC func65 3
theorem qiW:FK 133 ⟨[yT2],[.im yT13],jY⟩:=mkC qD qC func133 3
theorem qwJ:FK 305 ⟨[yT2],[.im (.int .u64)],qdT⟩:=mkC qD qC func305 5
theorem qBO:FK 240 ⟨[yT15,yT2],[.im yT13],qcK⟩:=mkC (qA qD qwJ) qC func240 5
theorem qwK:FK 134 ⟨[yT15],[.im yT13],qdU⟩:=mkC (qA qD qBO) qC func134 5
theorem qnR:FK 173 ⟨[yT4],[.im yT13],vZ⟩:=mkC qD qC func173 3
theorem qlN:FK 67 ⟨[yT10],[.im yT13],qaK⟩:=mkC (qA qD qnR) qC func67 6
theorem qz7:FK 241 ⟨[yT4],[.im yT13],w8⟩:=mkC qD qC func241 3
theorem qwI:FK 135 ⟨[yT10],[.im yT13],qdS⟩:=mkC (qA (qA (qA qD qz7) qnR) qlN) qC func135 9
theorem qlM:FK 120 ⟨[yT2],[.im yT13],qaH⟩:=mkC qD qC func120 3
theorem qz2:FK 208 ⟨[yT2,yT2,yT3],[.im yT13],qhH⟩:=mkC (qA qD qlM) qC func208 8
theorem qz4:FK 239 ⟨[yT11],[.im yT13],qhJ⟩:=mkC qD qC func239 3
theorem qwG:FK 136 ⟨[yT11],[.im yT13],qdQ⟩:=mkC (qA (qA qD qz4) qz2) qC func136 5
theorem qwN:FK 242 ⟨[yT20],[.im yT13],qdW⟩:=mkC qD qC func242 4
theorem xQ:FK 39 ⟨[yT3,yT3],[.im yT13],jV⟩:=mkC qD qC func39 5
theorem qnS:FK 243 ⟨[yT20,yT20],[.im yT13],yK⟩:=mkC (qA qD xQ) qC func243 5
theorem qwL:FK 137 ⟨[yT6],[.im yT13],qdV⟩:=mkC (qA (qA qD qnS) qwN) qC func137 6
theorem qz5:FK 112 ⟨[yT2],[.im yT13],qhK⟩:=mkC qD qC func112 3
theorem qwE:FK 138 ⟨[yT0],[.im yT13],qdO⟩:=mkC (qA qD qz5) qC func138 4
theorem qb8:FK 28 ⟨[yT2],[.im yT13],vY⟩:=mkC qD qC func28 3
theorem qzY:FK 244 ⟨[yT2],[.im yT2],qmI⟩:=mkC qD qC func244 4
theorem qzX:FK 245 ⟨[yT0],[.im yT13],qhE⟩:=mkC (qA qD qlN) qC func245 4
theorem qsZ:FK 139 ⟨[yT0],[.im yT13],qbB⟩:=mkC (qA (qA (qA qD qzX) qzY) qb8) qC func139 5
theorem qlL:FK 35 ⟨[yT0],[.im yT13],vC⟩:=mkC (qA (qA (qA (qA (qA (qA (qA (qA qD qsZ) qwE) qwL) qwG) qwI) qwK) qiW) qwH) qC func35 13
theorem qBL:FK 221 ⟨[yT16],[.im yT13],qkL⟩:=mkC qD qC func221 3
theorem qBN:FK 222 ⟨[yT10],[.im yT13],qkN⟩:=mkC qD qC func222 3
theorem qBP:FK 223 ⟨[yT6],[.im yT13],qkO⟩:=mkC qD qC func223 3
theorem qAj:FK 224 ⟨[yT22,yT2],[.im yT2],qhV⟩:=mkC qD qC func224 7
theorem qBI:FK 103 ⟨[yT0],[.im yT13],qfP⟩:=mkC (qA (qA (qA (qA qD qAj) qBP) qBN) qBL) qC func103 8
theorem qBT:FK 104 ⟨[yT9,yT2],[.im yT13],qfU⟩:=mkC qD qC func104 6
theorem qBF:FK 22 ⟨[yT1],[.im yT13],qkJ⟩:=mkC (qA (qA (qA qD qBT) qBI) qlL) qC func22 5
theorem qrD:FK 144 ⟨[yT4,yT4],[.im yT13],kI⟩:=mkC (qA qD xQ) qC func144 5
theorem qz8:FK 40 ⟨[yT10,yT10],[.im yT13],qhM⟩:=mkC (qA qD qrD) qC func40 8
theorem qAi:FK 86 ⟨[yT22,yT22],[.im yT13],qhU⟩:=mkC qD qC func86 6
theorem qz6:FK 145 ⟨[yT16,yT16],[.im yT13],qhL⟩:=mkC (qA qD xQ) qC func145 5
theorem qz3:FK 146 ⟨[yT11,yT11],[.im yT13],qhI⟩:=mkC (qA qD xQ) qC func146 5
theorem qz9:FK 147 ⟨[yT6,yT6],[.im yT13],qhN⟩:=mkC (qA qD qnS) qC func147 7
theorem qzW:FK 148 ⟨[(.sl yT4),(.sl yT4)],[.im yT13],qhD⟩:=mkC (qA qD xQ) qC func148 6
theorem qs0:FK 149 ⟨[(.sl yT18),(.sl yT18)],[.im yT13],qbC⟩:=mkC (qA qD xQ) qC func149 6
theorem qzZ:FK 42 ⟨[yT0,yT0],[.im yT13],qcJ⟩:=mkC (qA (qA (qA (qA (qA (qA (qA (qA qD qs0) qzW) qz9) qz3) qz6) qAi) qz8) xQ) qC func42 12
theorem qAf:FK 115 ⟨[yT9,yT9],[.im yT13],qcN⟩:=mkC (qA qD xQ) qC func115 6
theorem qe7:FK 25 ⟨[yT1,yT1],[.im yT13],zL⟩:=mkC (qA (qA qD qAf) qzZ) qC func25 7
theorem qAv:FK 318 ⟨[yT3],[.im (.str)],qq0⟩:=mkC qD qC func318 6
theorem qg2:FK 343 ⟨[(.int .i32)],[.im yT2, .im yT13],xI⟩:=mkC qD qC func343 4
theorem qlV:FK 269 ⟨[yT3,yT2,yT2],[.im (.str), .im yT2, .im yT2],vG⟩:=mkC (qA (qA qD qg2) qAv) qC func269 15
noncomputable abbrev qpK:wM:=⟨[.str],[.im yT2, .im yT2],vF⟩
theorem qjQ:FK 270 qpK:=mkC (qA qD qg2) qC func270 9
theorem qgZ:FK 344 ⟨[yT2,yT2],[.im yT2],v6⟩:=mkC qD qC func344 5
theorem qiB:FK 271 ⟨[yT2],[.im yT13],qeD⟩:=mkC (qA qD qgZ) qC func271 4
theorem qwY:FK 272 wS:=qvW qi0
theorem qrP:FK 382 ⟨[yT2],[.im yT2],kU⟩:=mkC qD qC func382 3
noncomputable def qcC:Inl:=inlF (eN [] []) f383 3
theorem qb2:IK 383 qcC:=mkI qD qC func383 3
theorem qAs:FK 346 ⟨[yT2,yT2],[.im yT2],yT⟩:=mkC (qA qD qrP) (jH qC qb2) func346 5
theorem qdC:FK 273 ⟨[yT2],[.im yT14, .im yT13],wZ⟩:=mkC (qA qD qAs) qC func273 6
theorem qg1:FK 347 ⟨[yT2],[.im yT2],qR⟩:=mkC qD qC func347 3
noncomputable def ql5:Inl:=inlF (eN [] [(383,qcC)]) f384 7
theorem qlB:IK 384 ql5:=mkI qD (jH qC qb2) func384 7
noncomputable def qCk:Inl:=inlF (eN [] [(383,qcC),(384,ql5)]) f349 3
theorem qBo:IK 349 qCk:=mkI qD (jH (jH qC qlB) qb2) func349 3
theorem xJ:FK 363 ⟨[yT5],[.im yT13],qaT⟩:=mkC qD qC func363 3
theorem jW:FK 365 ⟨[yT5],[.im yT13],y2⟩:=mkC qD qC func365 3
theorem xK:FK 364 ⟨[yT5],[.im yT13],qaU⟩:=mkC (qA qD jW) qC func364 4
theorem yB:FK 366 ⟨[yT5],[.im yT13],qjF⟩:=mkC qD qC func366 3
theorem qbM:FK 277 ⟨[yT2,yT3],[.im yT13],vL⟩:=mkC (qA (qA (qA (qA (qA (qA qD yB) jW) xK) xJ) qg1) qdC) (jH (jH qC qBo) qlB) func277 8
theorem qAt:FK 274 ⟨[yT2,yT3,yT2],[.ow yT12, .im yT2, .im yT2],qh5⟩:=mkC (qA (qA (qA (qA (qA (qA (qA (qA (qA qD yB) jW) xK) xJ) qg1) qbM) qdC) qjQ) qlV) qC func274 20
theorem quH:FK 177 ⟨[yT3],[.im yT8, .im yT2],qk9⟩:=mkC (qA (qA (qA (qA (qA (qA qD qAt) qdC) qwY) qiB) qjQ) qlV) qC func177 20
theorem qB7:FK 275 ⟨[yT2],[.im yT2],qgB⟩:=mkC (qA (qA qD qgZ) qiB) qC func275 3
theorem qiZ:FK 178 ⟨[yT8],[.im yT13],wC⟩:=mkC (qA qD qB7) qC func178 3
noncomputable abbrev qiJ:wM:=⟨[yT4],[.im yT2],wB⟩
theorem jE:FK 350 qiJ:=mkC qD qC func350 3
theorem qnZ:FK 278 ⟨[yT8],[.im yT21],qc1⟩:=mkC (qA qD jE) qC func278 3
theorem yC:FK 348 ⟨[yT21,yT2],[.im yT2, .im yT13],z4⟩:=mkC (qA qD jE) qC func348 9
noncomputable abbrev qx4:wM:=⟨[yT8,yT2],[.im yT3, .im yT13],yR⟩
theorem qlS:FK 276 qx4:=mkC (qA (qA (qA qD jE) yC) qnZ) qC func276 8
theorem qrJ:FK 179 ⟨[yT8],[.im yT13],qc4⟩:=mkC (qA qD qlS) qC func179 5
theorem qbN:FK 180 ⟨[yT2,yT2],[.im (.str), .im yT2],x4⟩:=mkC qD qC func180 8
noncomputable def wL:Inl:=inlF (eN [] []) f385 5
theorem wI:IK 385 wL:=mkI qD qC func385 5
theorem qlW:FK 333 ⟨[yT3,yT3],[.im yT13],qa6⟩:=mkC qD qC func333 5
theorem qg0:FK 359 ⟨[yT4,yT4],[.im yT13],qh1⟩:=mkC (qA qD qlW) qC func359 5
theorem yW:FK 351 ⟨[(.sl (.sl yT4))],[.ow yT4],zB⟩:=mkC (qA qD qg0) (jH qC wI) func351 9
theorem qeV:FK 279 ⟨[yT21,yT4],[.ow yT4],j5⟩:=mkC (qA (qA (qA qD jE) yW) yC) qC func279 8
noncomputable abbrev qx3:wM:=⟨[yT8,yT2,yT3],[.im yT8, .im yT2],jL⟩
theorem qrI:FK 181 qx3:=mkC (qA (qA (qA (qA (qA qD jE) qeV) qnZ) qbM) qdC) qC func181 10
theorem qB5:FK 280 ⟨[yT8],[.im yT13],qk7⟩:=mkC (qA (qA qD qbM) qiB) qC func280 6
theorem qAw:FK 281 ⟨[.str],[.ow yT12, .im yT2],qb6⟩:=mkC (qA qD qg2) qC func281 10
theorem qs9:FK 352 ⟨[(.sl yT2)],[.im yT13],qbP⟩:=mkC qD qC func352 6
theorem qs8:FK 282 ⟨[(.sl yT2)],[.ow yT12, .im yT2],qbO⟩:=mkC (qA (qA qD qi0) qs9) qC func282 9
theorem qwW:FK 283 ⟨[yT2,yT3],[.ow yT12, .im yT2],qa3⟩:=mkC (qA (qA (qA (qA (qA (qA (qA (qA (qA qD yB) jW) xK) xJ) qg1) qAw) qbM) qdC) qbN) qC func283 14
theorem qjP:FK 182 ⟨[yT8],[.ow yT12, .im yT2],qaZ⟩:=mkC (qA (qA (qA (qA (qA qD qwW) qs8) qAw) qB5) qbN) qC func182 17
theorem qn1:FK 71 ⟨[yT3,yT2],[.ow yT12, .im yT2],qc7⟩:=mkC (qA (qA (qA (qA (qA (qA qD qjP) qrI) qbN) qrJ) qiZ) quH) qC func71 12
theorem qlR:FK 263 ⟨[yT2,(.sl yT2)],[.im yT13],qaY⟩:=mkC qD qC func263 7
theorem qjO:FK 228 ⟨[yT0],[.im (.ar 2 yT2)],kP⟩:=mkC (qA qD qlR) qC func228 4
theorem qrG:FK 234 ⟨[yT3],[.im yT13],qf7⟩:=mkC qD qC func234 3
theorem qgW:FK 225 ⟨[yT2],[.im yT2],yO⟩:=mkC qD qC func225 3
theorem qs4:FK 235 ⟨[yT2],[.im yT13],qbG⟩:=mkC (qA qD qgW) qC func235 3
theorem qEl:FK 319 ⟨[yT6],[.im yT6, .im yT2, .im yT2],qo1⟩:=mkC qD qC func319 7
theorem qAu:FK 389 ⟨[yT2,yT2],[.im yT13],qaC⟩:=mkC qD qC func389 5
theorem qrQ:FK 367 ⟨[yT7],[.im yT13],qgN⟩:=mkC (qA qD qAu) qC func367 5
noncomputable abbrev qx5:wM:=⟨[yT2,yT2],[.ow yT12, .im yT2],qeQ⟩
theorem qGI:FK 308 qx5:=mkC qD qC func308 8
noncomputable def qxG:Inl:=inlF (eN [(308,qx5)] []) f368 8
theorem qvQ:IK 368 qxG:=mkI (qA qD qGI) qC func368 8
theorem qrR:FK 320 ⟨[yT7],[.ow yT12, .im yT2],qgO⟩:=mkC (qA qD qrQ) (jH qC qvQ) func320 6
theorem qEi:FK 369 qtL:=qD7 qEj
theorem yA:FK 370 ⟨[(.sl yT16)],[.cl yT16],zJ⟩:=mkC qD qC func370 3
theorem qwX:FK 371 qj6:=qvV
theorem kB:FK 388 ⟨[yT19,yT2],[.im yT19],qI⟩:=mkC qD qC func388 6
theorem qzT:FK 387 ⟨[yT3],[.im (.ar 64 yT19)],qg8⟩:=mkC (qA qD kB) qC func387 9
theorem qrC:FK 362 ⟨[(.ar 8 yT19),yT3],[.im (.ar 8 yT19), .im yT2],qfH⟩:=mkC (qA (qA qD kB) qzT) qC func362 16
noncomputable abbrev qx1:wM:=⟨[yT17,yT3],[.im yT17],qdL⟩
theorem qrB:FK 312 qx1:=mkC (qA qD qrC) qC func312 6
noncomputable abbrev qx2:wM:=⟨[],[.im yT17],qpJ⟩
theorem qzV:FK 313 qx2:=mkC qD qC func313 1
theorem qzU:FK 314 ⟨[yT17],[.ow yT12],qi7⟩:=mkC (qA qD qrC) qC func314 9
theorem qH1:FK 361 ⟨[yT3],[.ow yT12],qCE⟩:=mkC (qA (qA (qA (qA qD jE) qzU) qzV) qrB) qC func361 3
theorem qB2:FK 310 ⟨[yT3],[.ow yT12],qk4⟩:=mkC (qA qD qH1) qC func310 4
noncomputable def qCj:Inl:=inlF (eN [(312,qx1),(313,qx2),(350,qiJ)] []) f311 6
theorem qBn:IK 311 qCj:=mkI (qA (qA (qA qD jE) qzV) qrB) qC func311 6
theorem qAn:FK 231 ⟨[yT3,yT3],[.ow yT12],qqG⟩:=mkC (qA (qA (qA (qA qD jE) qzU) qrB) qB2) (jH qC qBn) func231 7
theorem qAm:FK 372 ⟨[yT3,yT3],[.ow yT12],qcS⟩:=mkC (qA qD qAn) qC func372 5
theorem qEh:FK 321 ⟨[yT9,yT3,yT3],[.im yT9, .ow yT12],qoU⟩:=mkC (qA (qA (qA (qA qD qAm) qwX) yA) qEi) qC func321 8
theorem qB9:FK 373 ⟨[yT7],[.im yT13],qlK⟩:=mkC (qA qD qrQ) qC func373 3
theorem qB8:FK 322 ⟨[yT7],[.ow yT12, .im yT2],qlJ⟩:=mkC (qA (qA qD qB9) qrR) qC func322 6
theorem qAr:FK 323 ⟨[yT3],[.ow yT12, .im yT2],qh3⟩:=mkC qD qC func323 4
theorem yX:FK 324 ⟨[(.sl yT4)],[.cl yT4],zM⟩:=mkC qD qC func324 3
theorem qrH:FK 236 ⟨[yT1,yT7,yT3],[.im yT1, .im yT2],qf8⟩:=mkC (qA (qA (qA (qA (qA (qA qD yX) qAr) qB8) qEh) qrR) qEl) qC func236 17
theorem qeU:FK 124 ⟨[yT1,yT3],[.im yT1, .im yT2],kO⟩:=mkC (qA (qA (qA (qA qD qrH) qs4) qrG) qjO) qC func124 9
theorem qiE:FK 287 wP:=qiD
theorem qAk:FK 190 ⟨[yT22],[.im yT3, .im yT22, .im yT13],qcQ⟩:=mkC (qA qD qiE) qC func190 5
theorem qrN:FK 75 ⟨[yT1],[.im yT1],qgI⟩:=mkC (qA (qA qD qAk) qeU) qC func75 8
theorem qgX:FK 105 ⟨[yT2],[.im yT13],w9⟩:=mkC (qA qD qgW) qC func105 3
theorem qAl:FK 286 qnA:=qzC
theorem qBZ:FK 186 ⟨[yT22,yT3,yT2],[.im yT22, .im yT2],qkT⟩:=mkC (qA qD qAl) qC func186 11
theorem kZ:FK 253 ⟨[(.sl yT18)],[.cl yT18],zI⟩:=mkC qD qC func253 3
theorem qn0:FK 187 ⟨[yT1,yT2,yT2,yT3],[.im yT1],qc6⟩:=mkC (qA (qA qD kZ) qjO) qC func187 9
theorem qlT:FK 73 ⟨[yT1,yT3],[.im yT1, .im yT2],yS⟩:=mkC (qA (qA (qA (qA (qA qD qn0) qBZ) qgX) qrN) qn1) qC func73 9
theorem qB0:FK 315 ⟨[yT5],[.im (.fn [363,364,365,366])],qqE⟩:=mkC (qA (qA (qA (qA qD yB) jW) xK) xJ) qC func315 3
theorem qnY:FK 232 ⟨[yT5],[.im yT13],qcX⟩:=mkC (qA (qA (qA (qA (qA qD yB) jW) xK) xJ) qB0) qC func232 3
noncomputable def qfB:Inl:=inlF (eN [(181,qx3)] []) f316 4
theorem qe4:IK 316 qfB:=mkI (qA qD qrI) qC func316 4
theorem qs5:FK 317 ⟨[yT2,yT2],[.ow yT12],zU⟩:=mkC (qA qD qbN) qC func317 7
theorem qiY:FK 233 ⟨[yT5],[.im yT8],v4⟩:=mkC (qA (qA qD qAv) qs5) (jH qC qe4) func233 5
theorem qnX:FK 123 ⟨[yT5],[.ow yT12, .im yT2],qaA⟩:=mkC (qA (qA (qA qD qiY) qnY) qjP) qC func123 4
theorem qEp:FK 167 ⟨[yT2],[.im yT2],qo5⟩:=mkC qD qC func167 3
theorem qCc:FK 338 ⟨[yT2],[.im yT13],ql1⟩:=mkC qD qC func338 3
theorem qEo:FK 262 ⟨[yT2,yT2,yT3],[.im yT13],qo4⟩:=mkC (qA qD qCc) qC func262 7
theorem qCd:FK 168 ⟨[yT2,yT2,yT3],[.im yT11, .im yT2],ql2⟩:=mkC (qA qD qEo) qC func168 8
theorem qAo:FK 309 ⟨[yT3, .str,yT22],[.ow yT12, .im yT2],qhY⟩:=mkC (qA qD qAn) qC func309 11
theorem qB4:FK 264 ⟨[yT3],[.ow yT12],qf9⟩:=mkC (qA qD qAo) qC func264 5
theorem qAq:FK 169 ⟨[yT1,yT2,yT3],[.im yT1, .im yT2],qh0⟩:=mkC (qA (qA (qA (qA (qA qD qB4) qlR) qrH) qrG) qjO) qC func169 9
theorem qrA:FK 63 ⟨[yT1,yT5],[.im yT1],wQ⟩:=mkC (qA (qA (qA (qA (qA qD qAq) qCd) qEp) qeU) qnX) qC func63 9
noncomputable def qAG:Inl:=inlF (eN [] []) f230 3
theorem qy8:IK 230 qAG:=mkI qD qC func230 3
theorem qnW:FK 110 ⟨[yT2,yT2],[.im yT2, .im yT13],qcT⟩:=mkC (qA qD qgW) (jH qC qy8) func110 9
theorem qrO:FK 77 ⟨[yT1,yT2],[.im yT1, .im yT2],qgL⟩:=mkC (qA (qA (qA qD qnW) qgX) qrA) qC func77 6
theorem qrL:FK 191 ⟨[yT1],[.im yT1],qc5⟩:=mkC (qA qD qnW) qC func191 3
theorem qn2:FK 79 ⟨[yT1],[.im yT1],qc8⟩:=mkC (qA qD qrL) qC func79 3
theorem qwU:FK 122 ⟨[yT5,yT2],[.im yT5, .im yT2],qaW⟩:=mkC qD qC func122 6
theorem qn3:FK 81 ⟨[yT1,yT5],[.im yT1],qc9⟩:=mkC (qA (qA (qA qD qeU) qnX) qwU) qC func81 9
theorem qgY:FK 125 ⟨[yT1,yT2],[.im yT1],v5⟩:=mkC qD qC func125 7
theorem qEq:FK 325 ⟨[yT11,yT11],[.im yT13],qw8⟩:=mkC (qA qD qlW) qC func325 5
theorem qEn:FK 237 ⟨[yT11],[.im yT13],qo3⟩:=mkC (qA qD qEq) qC func237 3
theorem qCb:FK 129 ⟨[yT11,yT2,yT2],[.im yT13],ql0⟩:=mkC (qA qD qEn) qC func129 7
noncomputable def qxF:Inl:=inlF (eN [(270,qpK),(276,qx4)] [(316,qfB)]) f288 7
theorem qvP:IK 288 qxF:=mkI (qA (qA qD qlS) qjQ) (jH qC qe4) func288 7
theorem qEm:FK 357 ⟨[yT12],[.im yT12, .im yT13],qo2⟩:=mkC qD qC func357 4
theorem qCa:FK 289 ⟨[.str],[.ow yT12, .im yT2],qgQ⟩:=mkC (qA qD qEm) qC func289 10
theorem jP:FK 358 ⟨[(.sl yT4),(.sl yT4),(.fn [359])],[.im yT13],qQ⟩:=mkC (qA qD qg0) qC func358 10
theorem qEk:FK 290 ⟨[yT8,yT8],[.im yT13],qk6⟩:=mkC (qA (qA qD qg0) jP) qC func290 5
theorem qB1:FK 193 ⟨[yT3],[.im yT5, .im yT2],qkY⟩:=mkC (qA (qA (qA (qA (qA (qA qD qEk) qCa) qlS) qiY) qnY) quH) (jH qC qvP) func193 10
theorem qlU:FK 83 ⟨[yT1,yT5],[.im yT1],qa0⟩:=mkC (qA (qA (qA (qA qD qB1) qrL) qCb) qgY) qC func83 7
theorem qwM:FK 87 ⟨[yT6,yT2],[.im yT6, .im yT2],qjB⟩:=mkC qD qC func87 6
theorem qBM:FK 140 ⟨[yT3],[.im yT10, .im yT2],qkM⟩:=mkC qD qC func140 4
theorem qeT:FK 202 ⟨[yT2,yT2],[.im yT2],xR⟩:=mkC qD qC func202 7
theorem qrE:FK 246 ⟨[yT2,yT2],[.ow yT12, .im yT2],y9⟩:=mkC (qA qD qeT) qC func246 8
theorem qBX:FK 374 ⟨[yT2],[.ow yT12],qkS⟩:=mkC qD qC func374 6
theorem qnV:FK 375 ⟨[],[.ow yT19],qhT⟩:=mkC qD qC func375 1
theorem qAh:FK 392 ⟨[yT19,yT19],[.im yT19],jU⟩:=mkC qD qC func392 5
theorem qnU:FK 376 ⟨[(.ar 8 yT19),yT3,yT2,(.sl yT19)],[.im (.ar 8 yT19)],qcO⟩:=mkC (qA qD qAh) qC func376 30
theorem qBV:FK 327 ⟨[yT17],[.ow yT12],qfW⟩:=mkC (qA (qA (qA qD qnU) qnV) qBX) qC func327 9
theorem qBW:FK 328 ⟨[yT17,yT3],[.im yT17],qfX⟩:=mkC (qA (qA qD qnU) qnV) qC func328 8
theorem qBY:FK 329 ⟨[],[.im yT17],qp4⟩:=mkC qD qC func329 1
theorem qm1:FK 250 ⟨[yT3],[.ow yT12],qd2⟩:=mkC (qA (qA (qA qD qBY) qBW) qBV) qC func250 3
theorem qwT:FK 249 ⟨[yT3],[.ow yT12],qd1⟩:=mkC (qA qD qm1) qC func249 4
theorem qBU:FK 150 ⟨[yT3,yT3],[.ow yT12],qkR⟩:=mkC (qA (qA qD qm1) qwT) qC func150 9
theorem qAg:FK 326 ⟨[.str,yT22],[.ow yT12],qhS⟩:=mkC qD qC func326 7
theorem qs2:FK 247 ⟨[yT3, .str,yT22],[.ow yT12, .im yT2],qbE⟩:=mkC (qA (qA qD qAg) qBU) qC func247 9
theorem qBG:FK 141 ⟨[yT3,(.ar 2 yT2),yT2,yT3],[.ow yT12],qfO⟩:=mkC (qA (qA (qA qD qs2) qrE) qiW) qC func141 19
theorem qs1:FK 248 ⟨[yT2],[.ow yT12, .im yT2],qbD⟩:=mkC (qA (qA qD qm1) qrE) qC func248 7
theorem qBK:FK 142 ⟨[],[.im yT16],qfS⟩:=mkC (qA qD qs1) qC func142 3
theorem qBS:FK 143 ⟨[.bool],[.im yT9],qkQ⟩:=mkC qD qC func143 3
theorem qAp:FK 85 ⟨[.bool],[.im yT1],qhZ⟩:=mkC (qA (qA (qA (qA (qA qD qBS) qBK) qBG) qBM) qwM) qC func85 7
theorem qgV:FK 201 ⟨[.str],[.im yT13],kK⟩:=mkC qD qC func201 4
theorem qlQ:FK 92 ⟨[.str],[.im yT2, .im yT2],qaO⟩:=mkC (qA (qA qD qeT) qgV) qC func92 6
theorem qnT:FK 95 ⟨[yT2],[.im yT13],qcL⟩:=mkC qD qC func95 3
theorem qgU:FK 197 ⟨[yT3,yT2,yT2],[.im (.str), .im yT2, .im yT2],j0⟩:=mkC qD qC func197 13
theorem qlO:FK 298 ⟨[yT2],[.im yT2, .im yT12],vU⟩:=mkC qD qC func298 6
theorem qBR:FK 293 ⟨[yT3,yT2],[.im yT13],kJ⟩:=mkC (qA qD qlO) qC func293 7
theorem qAc:FK 198 ⟨[yT3,yT2],[.ow yT2, .im yT2, .im yT2],qhP⟩:=mkC (qA qD qBR) qC func198 12
theorem qEg:FK 294 ⟨[(.sl yT2),yT2],[.im yT13],qkP⟩:=mkC qD qC func294 6
theorem qiA:FK 199 ⟨[yT2],[.im yT14, .im yT13],qd0⟩:=mkC (qA qD qEg) qC func199 7
theorem qlP:FK 295 ⟨[yT2],[.im yT2],yM⟩:=mkC qD qC func295 3
theorem qgT:FK 296 ⟨[yT14,yT3],[.im yT13],xE⟩:=mkC qD qC func296 6
theorem qAd:FK 200 ⟨[yT2,yT3,yT2],[.ow yT12, .im yT2, .im yT2],qhQ⟩:=mkC (qA (qA (qA (qA (qA qD qgT) qlP) qiA) qgU) qlQ) qC func200 23
theorem qAb:FK 90 ⟨[yT3],[.im yT8, .im yT2],qcM⟩:=mkC (qA (qA (qA (qA (qA (qA qD qAd) qiA) qAc) qgU) qnT) qlQ) qC func90 20
theorem qBQ:FK 91 ⟨[yT8,yT2],[.im yT3, .im yT13],qfT⟩:=mkC qD qC func91 7
theorem qrK:FK 209 ⟨[.bool,yT2,yT2],[.im yT2],qeK⟩:=mkC qD qC func209 7
theorem qrM:FK 210 ⟨[yT8],[.im yT13],qeL⟩:=mkC (qA qD qrJ) qC func210 4
theorem qB6:FK 299 ⟨[yT2],[.im yT2, .im yT13],qy4⟩:=mkC (qA (qA qD qgZ) qiB) qC func299 5
theorem qs6:FK 211 ⟨[yT1,yT8],[.im yT1],qnL⟩:=mkC (qA (qA (qA (qA (qA (qA qD qB6) qlS) qjP) qrI) qgY) qeU) qC func211 13
theorem qs7:FK 99 ⟨[yT1,yT7,yT8],[.im yT1],qbI⟩:=mkC (qA (qA (qA (qA (qA (qA (qA qD qs6) qrM) qrK) qn0) qiZ) qgY) qgX) qC func99 7
theorem qz0:FK 36 ⟨[yT0],[.im (.ar 2 yT2)],qhF⟩:=mkC qD qC func36 3
theorem qBH:FK 189 ⟨[yT0,yT2,(.ar 2 yT2),yT2,yT3],[.im yT0],qkK⟩:=mkC qD qC func189 11
theorem qz1:FK 158 ⟨[yT0,yT2],[.im yT0],qhG⟩:=mkC (qA (qA (qA qD qBH) qz0) qb8) qC func158 6
theorem qAe:FK 285 ⟨[yT2,yT3],[.im yT13],qhR⟩:=mkC (qA (qA qD qgT) qiA) qC func285 8
theorem qwP:FK 203 ⟨[yT8],[.im yT13],qdX⟩:=mkC (qA (qA qD qAe) qnT) qC func203 5
theorem qiX:FK 96 ⟨[yT2,yT2],[.im (.str), .im yT2],xP⟩:=mkC (qA qD qeT) qC func96 8
theorem qrF:FK 206 ⟨[.str],[.ow yT12, .im yT2],vO⟩:=mkC (qA qD qgV) qC func206 6
theorem qwS:FK 204 ⟨[yT2,yT3],[.ow yT12, .im yT2],qaN⟩:=mkC (qA (qA (qA (qA (qA qD qgT) qlP) qrF) qiA) qiX) qC func204 16
theorem qwR:FK 297 ⟨[(.sl yT2)],[.im yT13],qdZ⟩:=mkC qD qC func297 4
theorem qwQ:FK 205 ⟨[(.sl yT2)],[.ow yT12, .im yT2],qdY⟩:=mkC (qA (qA qD qlO) qwR) qC func205 11
theorem qAa:FK 207 ⟨[yT2],[.im (.str)],qhO⟩:=mkC (qA qD qiX) qC func207 5
theorem qwO:FK 97 ⟨[yT8],[.ow yT12, .im yT2],yL⟩:=mkC (qA (qA (qA (qA (qA qD qAa) qrF) qwQ) qwS) qwP) qC func97 14
theorem qB3:FK 176 ⟨[yT2],[.ow yT12],qaX⟩:=mkC (qA qD qwO) qC func176 5
theorem qwV:FK 70 ⟨[],[.im yT13],qeC⟩:=mkC (qA (qA (qA (qA (qA (qA (qA (qA (qA (qA (qA (qA (qA (qA qD qB3) qz1) qs7) qBQ) qAb) qAp) qlU) qn3) qn2) qrO) qrN) qlT) qn1) qe7) qC func70 18
theorem qBJ:FK 29 ⟨[yT5],[.im yT13],qfQ⟩:=mkC qD qC func29 3
theorem qwF:FK 30 ⟨[yT5],[.im yT13],qdP⟩:=mkC (qA qD qlM) qC func30 4
theorem qoP:FK 17 ⟨[(.pair yT1 (.pair yT2 (.pair yT5 (.pair yT3 (.unit)))))],[.im yT13],y3⟩:=mkC (qA (qA (qA (qA (qA (qA (qA (qA (qA (qA (qA (qA qD qlU) qn3) qn2) qrO) qlT) qwV) qlL) qwF) qBJ) qb8) qe7) qBF) qC func17 14
end Yp
namespace Yp
open Go
set_option maxRecDepth 100000
set_option maxHeartbeats 2000000
def tn (x n:UInt32):UInt32:=u32 (orI .u32 (n32 (u32 (shrI .u32 (n32 x) (n32 n)))) (n32 (u32 (shlI .u32 (n32 x) (n32 (u32 (isub (n32 (u32 32)) (n32 n))))))))
theorem qbR (x n:UInt32):jU (x,n,())=some (tn x n,()):=rfl
theorem qFC (a b:UInt32):u32 (orI .u32 (n32 a) (n32 b))=u32 (orI .u32 (n32 b) (n32 a)):=by rw [or32,or32,UInt32.or_comm]
theorem qiK {x:UInt32} {k:Int} {n:UInt32} (h1:n64 (u64 (andI .u64 (n64 (u64 k)) (n64 (u64 31))))=n32 (u32 (isub (n32 (u32 32)) (n32 n)))) (h2:n64 (u64 (isub (n64 (u64 32)) (n64 (u64 (andI .u64 (n64 (u64 k)) (n64 (u64 31)))))))=n32 n) :
  qI (x,k,())=some (tn x n,()):=by
 unfold qI tn
 dsimp only
 rw [qFC,h2,h1]
theorem r2 (x:UInt32):qI (x, -2,())=some (tn x (u32 2),()):=qiK (by decide +kernel) (by decide +kernel)
theorem r3 (x:UInt32):qI (x, -13,())=some (tn x (u32 13),()):=qiK (by decide +kernel) (by decide +kernel)
theorem r4 (x:UInt32):qI (x, -22,())=some (tn x (u32 22),()):=qiK (by decide +kernel) (by decide +kernel)
theorem r6 (x:UInt32):qI (x, -6,())=some (tn x (u32 6),()):=qiK (by decide +kernel) (by decide +kernel)
theorem r11 (x:UInt32):qI (x, -11,())=some (tn x (u32 11),()):=qiK (by decide +kernel) (by decide +kernel)
theorem r25 (x:UInt32):qI (x, -25,())=some (tn x (u32 25),()):=qiK (by decide +kernel) (by decide +kernel)
theorem r7 (x:UInt32):qI (x, -7,())=some (tn x (u32 7),()):=qiK (by decide +kernel) (by decide +kernel)
theorem r18 (x:UInt32):qI (x, -18,())=some (tn x (u32 18),()):=qiK (by decide +kernel) (by decide +kernel)
theorem r17 (x:UInt32):qI (x, -17,())=some (tn x (u32 17),()):=qiK (by decide +kernel) (by decide +kernel)
theorem r19 (x:UInt32):qI (x, -19,())=some (tn x (u32 19),()):=qiK (by decide +kernel) (by decide +kernel)
def qIP (a b c d:UInt8):UInt32 :=
 u32 (iadd (n32 (u32 (iadd (n32 (u32 (iadd (n32 (u32 (imul (n32 (u32 (n8 a))) (n32 (u32 16777216))))) (n32 (u32 (imul (n32 (u32 (n8 b))) (n32 (u32 65536)))))))) (n32 (u32 (imul (n32 (u32 (n8 c))) (n32 (u32 256)))))))) (n32 (u32 (n8 d))))
def qKt (a b c d:UInt8):UInt32 :=
 u32 (orI .u32 (n32 (u32 (orI .u32 (n32 (u32 (orI .u32 (n32 (u32 (shlI .u32 (n32 (u32 (n8 a))) (n64 (u64 24))))) (n32 (u32 (shlI .u32 (n32 (u32 (n8 b))) (n64 (u64 16)))))))) (n32 (u32 (shlI .u32 (n32 (u32 (n8 c))) (n64 (u64 8)))))))) (n32 (u32 (n8 d))))
theorem kM {a:Int} (h:0≤a∧a < 4294967296):n32 (u32 a)=a:=by
 show (((BitVec.ofNat 32 ((a % 2 ^ 32).toNat)).toNat:Nat):Int)=a
 rw [BitVec.toNat_ofNat];omega
theorem qfE {a:Nat} (h:a < 4294967296):(u32 (a:Int)).toNat=a:=by
 have:=kM (a:=(a:Int)) (by omega)
 unfold n32 at this;omega
theorem qIO (a b c d:UInt8):qKt a b c d=qIP a b c d:=by
 have ha:=a.toNat_lt;have hb:=b.toNat_lt;have hc:=c.toNat_lt;have hd:=d.toNat_lt
 unfold qKt qIP
 have e1:∀ x:UInt8,n32 (u32 (n8 x))=(x.toNat:Int):=fun x=>by
  have:=x.toNat_lt
  exact kM (a:=(x.toNat:Int)) (by omega)
 have s1:∀ (x:UInt8),shlI .u32 (n32 (u32 (n8 x))) (n64 (u64 24))=((x.toNat*16777216:Nat):Int):=fun x=>by rw [e1];show (x.toNat:Int)*2 ^ 24=_;omega
 have s2:∀ (x:UInt8),shlI .u32 (n32 (u32 (n8 x))) (n64 (u64 16))=((x.toNat*65536:Nat):Int):=fun x=>by rw [e1];show (x.toNat:Int)*2 ^ 16=_;omega
 have s3:∀ (x:UInt8),shlI .u32 (n32 (u32 (n8 x))) (n64 (u64 8))=((x.toNat*256:Nat):Int):=fun x=>by rw [e1];show (x.toNat:Int)*2 ^ 8=_;omega
 have m1:∀ (x:UInt8),imul (n32 (u32 (n8 x))) (n32 (u32 16777216))=((x.toNat*16777216:Nat):Int):=fun x=>by rw [e1,kM (by decide)];show (x.toNat:Int)*16777216=_;omega
 have m2:∀ (x:UInt8),imul (n32 (u32 (n8 x))) (n32 (u32 65536))=((x.toNat*65536:Nat):Int):=fun x=>by rw [e1,kM (by decide)];show (x.toNat:Int)*65536=_;omega
 have m3:∀ (x:UInt8),imul (n32 (u32 (n8 x))) (n32 (u32 256))=((x.toNat*256:Nat):Int):=fun x=>by rw [e1,kM (by decide)];show (x.toNat:Int)*256=_;omega
 rw [s1,s2,s3,m1,m2,m3,or32,or32,or32]
 have d1:(u32 (n8 d)).toNat=d.toNat:=qfE (by omega)
 apply UInt32.toNat_inj.1
 rw [UInt32.toNat_or,UInt32.toNat_or,UInt32.toNat_or,qfE (by omega),qfE (by omega),qfE (by omega),d1]
 have o3:(c.toNat*256) ||| d.toNat=c.toNat*256+d.toNat:=by
  have:=Nat.two_pow_add_eq_or_of_lt (i:=8) (b:=d.toNat) (by omega) c.toNat
  rw [Nat.mul_comm];exact this.symm
 have o2:(b.toNat*65536) ||| (c.toNat*256+d.toNat)=b.toNat*65536+(c.toNat*256+d.toNat):=by
  have:=Nat.two_pow_add_eq_or_of_lt (i:=16) (b:=c.toNat*256+d.toNat) (by omega) b.toNat
  rw [Nat.mul_comm b.toNat];exact this.symm
 have o1:(a.toNat*16777216) ||| (b.toNat*65536+(c.toNat*256+d.toNat))=a.toNat*16777216+(b.toNat*65536+(c.toNat*256+d.toNat)):=by
  have:=Nat.two_pow_add_eq_or_of_lt (i:=24) (b:=b.toNat*65536+(c.toNat*256+d.toNat)) (by omega) a.toNat
  rw [Nat.mul_comm a.toNat];exact this.symm
 rw [Nat.or_assoc,Nat.or_assoc,o3,o2,o1]
 have q1:iadd (n32 (u32 ((a.toNat*16777216:Nat):Int))) (n32 (u32 ((b.toNat*65536:Nat):Int)))=((a.toNat*16777216+b.toNat*65536:Nat):Int):=by
  rw [kM (by omega),kM (by omega)];show (_:Int)+_=_;omega
 rw [q1]
 have q2:iadd (n32 (u32 ((a.toNat*16777216+b.toNat*65536:Nat):Int))) (n32 (u32 ((c.toNat*256:Nat):Int)))=((a.toNat*16777216+b.toNat*65536+c.toNat*256:Nat):Int):=by
  rw [kM (by omega),kM (by omega)];show (_:Int)+_=_;omega
 rw [q2]
 have q3:iadd (n32 (u32 ((a.toNat*16777216+b.toNat*65536+c.toNat*256:Nat):Int))) (n32 (u32 (n8 d)))=((a.toNat*16777216+b.toNat*65536+c.toNat*256+d.toNat:Nat):Int):=by
  rw [kM (by omega),e1];show (_:Int)+_=_;omega
 rw [q3,qfE (by omega)];omega
def mixW (m2 m7 m15 m16:UInt32):UInt32 :=
 u32 (iadd (n32 (u32 (iadd (n32 (u32 (iadd (n32 (u32 (xorI .u32 (n32 (u32 (xorI .u32 (n32 (tn m2 (u32 17))) (n32 (tn m2 (u32 19)))))) (n32 (u32 (shrI .u32 (n32 m2) (n64 (u64 10)))))))) (n32 m7)))) (n32 (u32 (xorI .u32 (n32 (u32 (xorI .u32 (n32 (tn m15 (u32 7))) (n32 (tn m15 (u32 18)))))) (n32 (u32 (shrI .u32 (n32 m15) (n64 (u64 3))))))))))) (n32 m16))
def q8 (b:BB) (i:Nat):UInt8:=b.getD i 0
def q32 (m:List UInt32) (i:Nat):UInt32:=m.getD i 0
def sch (b:BB) (at':Nat):Nat→List UInt32
 | 0=>List.replicate 64 0
 | t+1=>(sch b at' t).set t (if t < 16 then qIP (q8 b (at'+4*t)) (q8 b (at'+4*t+1)) (q8 b (at'+4*t+2)) (q8 b (at'+4*t+3))
   else mixW (q32 (sch b at' t) (t - 2)) (q32 (sch b at' t) (t - 7)) (q32 (sch b at' t) (t - 15)) (q32 (sch b at' t) (t - 16)))
theorem qcG (b:BB) (at':Nat):∀ t,(sch b at' t).length=64
 | 0=>by simp [sch]
 | t+1=>by rw [sch,List.length_set];exact qcG b at' t
theorem qxZ {b c:BB} {x y:Nat} (h:∀ i,i < 64→q8 b (x+i)=q8 c (y+i)):∀ t,sch b x t=sch c y t
 | 0=>rfl
 | t+1=>by
  rw [sch,sch,qxZ h t]
  by_cases ht:t < 16
  ·rw [if_pos ht,if_pos ht,h (4*t) (by omega),Nat.add_assoc x,Nat.add_assoc x,Nat.add_assoc x,h (4*t+1) (by omega),h (4*t+2) (by omega),h (4*t+3) (by omega)];rfl
  ·rw [if_neg ht,if_neg ht]
theorem i64n {n:Nat} {a:Int} (h:a=(n:Int)) (hn:n≤9223372036854775807):i64 a=(n:Int):=by rw [h];exact z8 (by omega) (by omega)
theorem qpI (b:BB) (hb:b.length=64):qg8 (b,())=some (sch b 0 64,()):=by
 unfold qg8
 generalize hf:(fun (x_1:Int×List UInt32×Unit)=>_)=f
 have step:∀ t:Nat,t < 64→f ((t:Int),sch b 0 t,())=some (.nx (((t+1:Nat):Int),sch b 0 (t+1),())):=by
  intro t ht
  subst hf
  have hi:i64 (iadd (t:Int) 1)=((t+1:Nat):Int):=i64n (by show (t:Int)+1=_;omega) (by omega)
  refine (qE (by simp only [go_sem,Int.reduceToNat];omega)).trans ?_
  by_cases h16:t < 16
  ·have e0:i64 (imul 4 (t:Int))=((4*t:Nat):Int):=i64n (by show 4*(t:Int)=_;omega) (by omega)
   have e1:i64 (iadd (i64 (imul 4 (t:Int))) 1)=((4*t+1:Nat):Int):=by rw [e0];exact i64n (by show ((4*t:Nat):Int)+1=_;omega) (by omega)
   have e2:i64 (iadd (i64 (imul 4 (t:Int))) 2)=((4*t+2:Nat):Int):=by rw [e0];exact i64n (by show ((4*t:Nat):Int)+2=_;omega) (by omega)
   have e3:i64 (iadd (i64 (imul 4 (t:Int))) 3)=((4*t+3:Nat):Int):=by rw [e0];exact i64n (by show ((4*t:Nat):Int)+3=_;omega) (by omega)
   refine (qE (by simp only [go_sem,Int.reduceToNat];omega)).trans ?_
   dsimp only
   rw [e1,e2,e3,e0,hi]
   refine (qH (by simp only [go_sem,Int.reduceToNat];omega)).trans ((qH (by simp only [go_sem,Int.reduceToNat];omega)).trans ((qH (by simp only [go_sem,Int.reduceToNat];omega)).trans ((qH (by simp only [go_sem,Int.reduceToNat];omega)).trans ((qH (by simp only [go_sem,Int.reduceToNat];omega)).trans ?_))))
   have hw:=qIO (q8 b (4*t)) (q8 b (4*t+1)) (q8 b (4*t+2)) (q8 b (4*t+3))
   rw [sch,if_pos h16,Nat.zero_add,← hw]
   rfl
  ·have e15:i64 (isub (t:Int) 15)=((t - 15:Nat):Int):=i64n (by show (t:Int) - 15=_;omega) (by omega)
   have e2:i64 (isub (t:Int) 2)=((t - 2:Nat):Int):=i64n (by show (t:Int) - 2=_;omega) (by omega)
   have e7:i64 (isub (t:Int) 7)=((t - 7:Nat):Int):=i64n (by show (t:Int) - 7=_;omega) (by omega)
   have e16:i64 (isub (t:Int) 16)=((t - 16:Nat):Int):=i64n (by show (t:Int) - 16=_;omega) (by omega)
   refine (qB (by simp only [go_sem,Int.reduceToNat];omega)).trans ?_
   dsimp only
   rw [e15,e2,e7,e16,hi]
   refine (qH (by simp only [go_sem,Int.reduceToNat];omega)).trans ?_
   refine (qH (by simp only [go_sem,Int.reduceToNat];omega)).trans ?_
   rw [r7]
   refine (qG rfl).trans ?_
   rw [r18]
   refine (qG rfl).trans ?_
   rw [r17]
   refine (qG rfl).trans ?_
   rw [r19]
   refine (qG rfl).trans ?_
   refine (qH (by simp only [go_sem,Int.reduceToNat];omega)).trans ?_
   refine (qH (by simp only [go_sem,Int.reduceToNat];omega)).trans ?_
   refine (qH (by simp only [go_sem,Int.reduceToNat];omega)).trans ?_
   rw [sch,if_neg h16]
   rfl
 have hend:∀ m,f (((64:Nat):Int),m,())=some (.ex 0 (((64:Nat):Int),m,())):=by subst hf;intro m;exact qB rfl
 have hloop:loop f (((0:Nat):Int),sch b 0 0,())=some (.ex 0 (((64:Nat):Int),sch b 0 64,())) :=
  (qM (f:=f) (fun t=>((t:Int),sch b 0 t,())) 64 step 0 (Nat.zero_le _)).trans (qT (hend _))
 generalize hs:sch b 0 64=m at hloop
 refine (qY (show loop f _=_ from hloop)).trans ?_
 rfl
abbrev R8:=UInt32×UInt32×UInt32×UInt32×UInt32×UInt32×UInt32×UInt32
def t1D (k m h g f e:UInt32):UInt32 :=
 u32 (iadd (n32 (u32 (iadd (n32 (u32 (iadd (n32 (u32 (iadd (n32 h) (n32 (u32 (xorI .u32 (n32 (u32 (xorI .u32 (n32 (tn e (u32 6))) (n32 (tn e (u32 11)))))) (n32 (tn e (u32 25))))))))) (n32 (u32 (xorI .u32 (n32 (u32 (andI .u32 (n32 e) (n32 f)))) (n32 (u32 (andI .u32 (n32 (u32 (xorI .u32 4294967295 (n32 e)))) (n32 g)))))))))) (n32 k)))) (n32 m))
def t2D (c b a:UInt32):UInt32 :=
 u32 (iadd (n32 (u32 (xorI .u32 (n32 (u32 (xorI .u32 (n32 (tn a (u32 2))) (n32 (tn a (u32 13)))))) (n32 (tn a (u32 22)))))) (n32 (u32 (xorI .u32 (n32 (u32 (xorI .u32 (n32 (u32 (andI .u32 (n32 a) (n32 b)))) (n32 (u32 (andI .u32 (n32 a) (n32 c))))))) (n32 (u32 (andI .u32 (n32 b) (n32 c))))))))
def nxt (k m:UInt32) (s:R8):R8 :=
 (s.2.1,s.2.2.1,s.2.2.2.1,u32 (iadd (n32 s.2.2.2.2.1) (n32 (t1D k m s.1 s.2.1 s.2.2.1 s.2.2.2.1))),s.2.2.2.2.2.1,s.2.2.2.2.2.2.1,s.2.2.2.2.2.2.2,
  u32 (iadd (n32 (t1D k m s.1 s.2.1 s.2.2.1 s.2.2.2.1)) (n32 (t2D s.2.2.2.2.2.1 s.2.2.2.2.2.2.1 s.2.2.2.2.2.2.2))))
def rounds (ms:List UInt32) (s:R8):Nat→R8
 | 0=>s
 | t+1=>nxt (q32 qfC t) (q32 ms t) (rounds ms s t)
def r8L (s:R8):List UInt32:=[s.2.2.2.2.2.2.2,s.2.2.2.2.2.2.1,s.2.2.2.2.2.1,s.2.2.2.2.1,s.2.2.2.1,s.2.2.1,s.2.1,s.1]
def addL (w:List UInt32) (s:R8):List UInt32 :=
  [u32 (iadd (n32 (q32 w 0)) (n32 s.2.2.2.2.2.2.2)),u32 (iadd (n32 (q32 w 1)) (n32 s.2.2.2.2.2.2.1)),u32 (iadd (n32 (q32 w 2)) (n32 s.2.2.2.2.2.1)),u32 (iadd (n32 (q32 w 3)) (n32 s.2.2.2.2.1)),
   u32 (iadd (n32 (q32 w 4)) (n32 s.2.2.2.1)),u32 (iadd (n32 (q32 w 5)) (n32 s.2.2.1)),u32 (iadd (n32 (q32 w 6)) (n32 s.2.1)),u32 (iadd (n32 (q32 w 7)) (n32 s.1))]
def ofL (w:List UInt32):R8:=(q32 w 7,q32 w 6,q32 w 5,q32 w 4,q32 w 3,q32 w 2,q32 w 1,q32 w 0)
def qr0 (w:List UInt32) (b:BB) (at':Nat):List UInt32:=addL w (rounds (sch b at' 64) (ofL w) 64)
theorem eight {α:Type} {w:List α} (h:w.length=8):∃ a b c d e f g i,w=[a,b,c,d,e,f,g,i]:=by
 match w,h with
 | [a,b,c,d,e,f,g,i],_=>exact ⟨a,b,c,d,e,f,g,i,rfl⟩
theorem qi5 {b c:BB} {x y:Nat} (h:∀ i,i < 64→q8 b (x+i)=q8 c (y+i)) (w:List UInt32):qr0 w b x=qr0 w c y:=by unfold qr0;rw [qxZ h]
theorem qiH (w:List UInt32) (hw:w.length=8) (b:BB) (hb:b.length=64):qfH (w,b,())=some (qr0 w b 0,0,()):=by
 unfold qfH
 refine (qB (by simp only [go_sem,Int.reduceToNat];omega)).trans ?_
 dsimp only
 rw [qpI b hb]
 have hm:=qcG b 0 64
 unfold qr0
 generalize sch b 0 64=m at hm
 refine (qG rfl).trans ?_
 obtain ⟨w0,w1,w2,w3,w4,w5,w6,w7,rfl⟩:=eight hw
 generalize hf:(fun (x:Int×List UInt32×Unit)=>(_:Option (LS (Int×List UInt32×Unit) (List UInt32×Int×Unit))))=f
 obtain ⟨s,hs⟩:∃ s,s=ofL [w0,w1,w2,w3,w4,w5,w6,w7]:=⟨_,rfl⟩
 have step:∀ t:Nat,t < 64→f ((t:Int),r8L (rounds m s t),())=some (.nx (((t+1:Nat):Int),r8L (rounds m s (t+1)),())):=by
  intro t ht
  subst hf
  have hi:i64 (iadd (t:Int) 1)=((t+1:Nat):Int):=i64n (by show (t:Int)+1=_;omega) (by omega)
  rw [show rounds m s (t+1)=nxt (q32 qfC t) (q32 m t) (rounds m s t) from rfl]
  generalize rounds m s t=r
  obtain ⟨h,g,f,e,d,c,b,a⟩:=r
  refine (qE (by simp only [go_sem,Int.reduceToNat];omega)).trans ?_
  dsimp only [r8L]
  rw [hi]
  refine (qH (by simp only [go_sem,Int.reduceToNat];omega)).trans ?_
  refine (qH rfl).trans ?_
  refine (qH rfl).trans ?_
  rw [show nth [a,b,c,d,e,f,g,h] (nat 4) (u32 0)=e from rfl,r6]
  refine (qG rfl).trans ?_
  rw [r11]
  refine (qG rfl).trans ?_
  rw [r25]
  refine (qG rfl).trans ?_
  rw [show nth [a,b,c,d,e,f,g,h] (nat 0) (u32 0)=a from rfl,r2]
  refine (qG rfl).trans ?_
  rw [r3]
  refine (qG rfl).trans ?_
  rw [r4]
  refine (qG rfl).trans ?_
  refine (qH rfl).trans ?_
  refine (qH rfl).trans ?_
  refine (qH rfl).trans ?_
  refine (qH (by simp only [go_sem,Int.reduceToNat];omega)).trans ?_
  refine (qH rfl).trans ?_
  refine (qH rfl).trans ?_
  refine (qH rfl).trans ?_
  refine (qH rfl).trans ?_
  refine (qH rfl).trans ?_
  refine (qH rfl).trans ?_
  refine (qH rfl).trans ?_
  refine (qH rfl).trans ?_
  refine (qH rfl).trans ?_
  rfl
 have hend:∀ v,f (((64:Nat):Int),v,())=some (.ex 0 (((64:Nat):Int),v,())):=by subst hf;intro v;exact qB rfl
 have hloop:loop f (((0:Nat):Int),r8L (rounds m s 0),())=some (.ex 0 (((64:Nat):Int),r8L (rounds m s 64),())) :=
  (qM (f:=f) (fun t=>((t:Int),r8L (rounds m s t),())) 64 step 0 (Nat.zero_le _)).trans (qT (hend _))
 have h0:r8L (rounds m s 0)=[w0,w1,w2,w3,w4,w5,w6,w7]:=by rw [hs];rfl
 rw [h0] at hloop
 rw [← hs]
 generalize rounds m s 64=r at hloop
 obtain ⟨h,g,f',e,d,c,b',a⟩:=r
 refine (qY (show loop f (0,[w0,w1,w2,w3,w4,w5,w6,w7],())=_ from hloop)).trans ?_
 refine (qH g62).trans ?_
 refine (qY (qjH (r := .ex 2 (((8:Nat):Int),addL [w0,w1,w2,w3,w4,w5,w6,w7] (h,g,f',e,d,c,b',a),())) 9 rfl)).trans ?_
 rfl
theorem qfV (w:List UInt32) (hw:w.length=8) (b:BB) (n:Nat) (hb:n+64≤b.length) (hl:b.length≤4611686018427387904):qcO (w,b,(n:Int),qfC,())=some (qr0 w b n,()):=by
 unfold qcO
 refine (qH (by decide)).trans ?_
 generalize hf:(fun (x_1:Int×List UInt32×Unit)=>(_:Option (LS (Int×List UInt32×Unit) (List UInt32×Unit))))=f
 have step:∀ t:Nat,t < 16→f ((t:Int),sch b n t,())=some (.nx (((t+1:Nat):Int),sch b n (t+1),())):=by
  intro t ht
  subst hf
  have hi:i64 (iadd (t:Int) 1)=((t+1:Nat):Int):=i64n (by show (t:Int)+1=_;omega) (by omega)
  have hm:=qcG b n t
  have e4:i64 (imul 4 (t:Int))=((4*t:Nat):Int):=i64n (by show 4*(t:Int)=_;omega) (by omega)
  have e0:i64 (iadd (n:Int) (i64 (imul 4 (t:Int))))=((n+4*t:Nat):Int):=by rw [e4];exact i64n (by show (n:Int)+((4*t:Nat):Int)=_;omega) (by omega)
  have e1:i64 (iadd (i64 (iadd (n:Int) (i64 (imul 4 (t:Int))))) 1)=((n+4*t+1:Nat):Int):=by rw [e0];exact i64n (by show ((n+4*t:Nat):Int)+1=_;omega) (by omega)
  have e2:i64 (iadd (i64 (iadd (n:Int) (i64 (imul 4 (t:Int))))) 2)=((n+4*t+2:Nat):Int):=by rw [e0];exact i64n (by show ((n+4*t:Nat):Int)+2=_;omega) (by omega)
  have e3:i64 (iadd (i64 (iadd (n:Int) (i64 (imul 4 (t:Int))))) 3)=((n+4*t+3:Nat):Int):=by rw [e0];exact i64n (by show ((n+4*t:Nat):Int)+3=_;omega) (by omega)
  refine (qE (by simp only [go_sem,Int.reduceToNat];omega)).trans ?_
  dsimp only
  rw [e1,e2,e3,e0,hi]
  refine (qH (by simp only [go_sem,Int.reduceToNat];omega)).trans ?_
  refine (qH (by simp only [go_sem,Int.reduceToNat];omega)).trans ?_
  refine (qH (by simp only [go_sem,Int.reduceToNat];omega)).trans ?_
  refine (qH (by simp only [go_sem,Int.reduceToNat];omega)).trans ?_
  refine (qH (by simp only [go_sem,Int.reduceToNat];omega)).trans ?_
  rw [sch,if_pos ht]
  rfl
 have hend:∀ v,f (((16:Nat):Int),v,())=some (.ex 0 (((16:Nat):Int),v,())):=by subst hf;intro v;exact qB rfl
 have hloop:loop f (((0:Nat):Int),sch b n 0,())=some (.ex 0 (((16:Nat):Int),sch b n 16,())) :=
  (qM (f:=f) (fun t=>((t:Int),sch b n t,())) 16 step 0 (Nat.zero_le _)).trans (qT (hend _))
 refine (qY (show loop f (0,rep (nat 64) (u32 0),())=_ from hloop)).trans ?_
 clear hloop hend step
 refine (qH g62).trans ?_
 dsimp only
 clear hf f
 generalize hf:(fun (x:Int×List UInt32×Unit)=>(_:Option (LS (Int×List UInt32×Unit) (List UInt32×Unit))))=f
 have step:∀ t:Nat,16≤t→t < 64→f ((t:Int),sch b n t,())=some (.nx (((t+1:Nat):Int),sch b n (t+1),())):=by
  intro t h16 ht
  subst hf
  have hi:i64 (iadd (t:Int) 1)=((t+1:Nat):Int):=i64n (by show (t:Int)+1=_;omega) (by omega)
  have hm:=qcG b n t
  have e15:i64 (isub (t:Int) 15)=((t - 15:Nat):Int):=i64n (by show (t:Int) - 15=_;omega) (by omega)
  have e2:i64 (isub (t:Int) 2)=((t - 2:Nat):Int):=i64n (by show (t:Int) - 2=_;omega) (by omega)
  have e7:i64 (isub (t:Int) 7)=((t - 7:Nat):Int):=i64n (by show (t:Int) - 7=_;omega) (by omega)
  have e16:i64 (isub (t:Int) 16)=((t - 16:Nat):Int):=i64n (by show (t:Int) - 16=_;omega) (by omega)
  refine (qE (by simp only [go_sem,Int.reduceToNat];omega)).trans ?_
  dsimp only
  rw [e15,e2,e7,e16,hi]
  refine (qH (by simp only [go_sem,Int.reduceToNat];omega)).trans ?_
  refine (qH (by simp only [go_sem,Int.reduceToNat];omega)).trans ?_
  rw [qbR]
  refine (qG rfl).trans ?_
  rw [qbR]
  refine (qG rfl).trans ?_
  rw [qbR]
  refine (qG rfl).trans ?_
  rw [qbR]
  refine (qG rfl).trans ?_
  refine (qH (by simp only [go_sem,Int.reduceToNat];omega)).trans ?_
  refine (qH (by simp only [go_sem,Int.reduceToNat];omega)).trans ?_
  refine (qH (by simp only [go_sem,Int.reduceToNat];omega)).trans ?_
  rw [sch,if_neg (by omega)]
  rfl
 have hend:∀ v,f (((64:Nat):Int),v,())=some (.ex 2 (((64:Nat):Int),v,())):=by subst hf;intro v;exact qB rfl
 have hloop:loop f (((16:Nat):Int),sch b n 16,())=some (.ex 2 (((64:Nat):Int),sch b n 64,())) :=
  (qM (f:=f) (fun t=>(((16+t:Nat):Int),sch b n (16+t),())) 48 (fun t ht=>step (16+t) (by omega) (by omega)) 0 (Nat.zero_le _)).trans (qT (hend _))
 refine (qY (show loop f (16,sch b n 16,())=_ from hloop)).trans ?_
 clear hloop hend step hf f
 refine (qH g62).trans ?_
 have hm:=qcG b n 64
 unfold qr0
 generalize sch b n 64=m at hm
 obtain ⟨w0,w1,w2,w3,w4,w5,w6,w7,rfl⟩:=eight hw
 refine (qH rfl).trans ((qH rfl).trans ((qH rfl).trans ((qH rfl).trans ((qH rfl).trans ((qH rfl).trans ((qH rfl).trans ((qH rfl).trans ?_)))))))
 dsimp only
 generalize hf:(fun (x_1:UInt32×UInt32×UInt32×UInt32×UInt32×UInt32×UInt32×UInt32×Int×Unit)=>(_:Option (LS (UInt32×UInt32×UInt32×UInt32×UInt32×UInt32×UInt32×UInt32×Int×Unit) (List UInt32×Unit))))=f
 obtain ⟨s,hs⟩:∃ s,s=ofL [w0,w1,w2,w3,w4,w5,w6,w7]:=⟨_,rfl⟩
 let st:R8→Nat→UInt32×UInt32×UInt32×UInt32×UInt32×UInt32×UInt32×UInt32×Int×Unit:=fun r t=>(r.1,r.2.1,r.2.2.1,r.2.2.2.1,r.2.2.2.2.1,r.2.2.2.2.2.1,r.2.2.2.2.2.2.1,r.2.2.2.2.2.2.2,(t:Int),())
 have step:∀ t:Nat,t < 64→f (st (rounds m s t) t)=some (.nx (st (rounds m s (t+1)) (t+1))):=by
  intro t ht
  subst hf
  have hi:i64 (iadd (t:Int) 1)=((t+1:Nat):Int):=i64n (by show (t:Int)+1=_;omega) (by omega)
  have hk:(qfC:List UInt32).length=64:=rfl
  rw [show rounds m s (t+1)=nxt (q32 qfC t) (q32 m t) (rounds m s t) from rfl]
  generalize rounds m s t=r
  obtain ⟨h,g,f,e,d,c,b,a⟩:=r
  dsimp only [st]
  refine (qE (by simp only [go_sem,Int.reduceToNat];omega)).trans ?_
  rw [hi,qbR]
  refine (qG rfl).trans ?_
  rw [qbR]
  refine (qG rfl).trans ?_
  rw [qbR]
  refine (qG rfl).trans ?_
  refine (qH (by simp only [go_sem,Int.reduceToNat];omega)).trans ?_
  refine (qH (by simp only [go_sem,Int.reduceToNat];omega)).trans ?_
  rw [qbR]
  refine (qG rfl).trans ?_
  rw [qbR]
  refine (qG rfl).trans ?_
  rw [qbR]
  refine (qG rfl).trans ?_
  rfl
 have hend:∀ r,f (st r 64)=some (.ex 4 (st r 64)):=by subst hf;intro v;exact qB rfl
 have hloop:loop f (st (rounds m s 0) 0)=some (.ex 4 (st (rounds m s 64) 64)) :=
  (qM (f:=f) (fun t=>st (rounds m s t) t) 64 step 0 (Nat.zero_le _)).trans (qT (hend _))
 rw [show rounds m s 0=s from rfl] at hloop
 rw [← hs]
 generalize rounds m s 64=r at hloop
 obtain ⟨h,g,f',e,d,c,b',a⟩:=r
 rw [hs] at hloop
 refine (qY (show loop f (w7,w6,w5,w4,w3,w2,w1,w0,0,())=_ from hloop)).trans ?_
 refine (qH g62).trans ?_
 refine (qH rfl).trans ((qH rfl).trans ((qH rfl).trans ((qH rfl).trans ((qH rfl).trans ((qH rfl).trans ((qH rfl).trans ((qH rfl).trans ?_)))))))
 rfl
def eat (w:List UInt32) (l:BB):Nat→List UInt32
 | 0=>w
 | i+1=>qr0 (eat w l i) l (64*i)
theorem yU {w:List UInt32} (hw:w.length=8) (l:BB):∀ i,(eat w l i).length=8
 | 0=>hw
 | _+1=>rfl
theorem qFm (l:BB) (k i:Nat):q8 (l.drop k) i=q8 l (k+i):=by
 unfold q8;rw [List.getD_eq_getElem?_getD,List.getElem?_drop,← List.getD_eq_getElem?_getD]
theorem qJa (l:BB) {k i:Nat} (h:i < k):q8 (l.take k) i=q8 l i:=by
 unfold q8;rw [List.getD_eq_getElem?_getD,List.getElem?_take_of_lt h,← List.getD_eq_getElem?_getD]
theorem qxP (w:List UInt32) (l:BB) (k:Nat):qr0 w ((l.drop k).take 64) 0=qr0 w l k :=
 qi5 (fun i hi=>by rw [Nat.zero_add,qJa _ hi,qFm]) w
theorem qzO {l m:BB} (w:List UInt32):∀ {i},(∀ j,j < 64*i→q8 l j=q8 m j)→eat w l i=eat w m i
 | 0,_=>rfl
 | i+1,h=>by
  rw [eat,eat,qzO w fun j hj=>h j (by omega)]
  exact qi5 (fun j hj=>h _ (by omega)) _
theorem qGv (w:List UInt32) (l:BB) (i:Nat):∀ j,eat w l (i+j)=eat (eat w l i) (l.drop (64*i)) j
 | 0=>rfl
 | j+1=>by
  rw [← Nat.add_assoc,eat,eat,qGv w l i j]
  exact qi5 (fun k _=>by rw [qFm];congr 1;omega) _
abbrev HT:=List UInt32×Int×BB×Unit
def putD (h:HT) (b:BB):HT :=
 (eat h.1 (h.2.2.1++b) ((h.2.2.1++b).length / 64),h.2.1+(b.length:Int),(h.2.2.1++b).drop (64*((h.2.2.1++b).length / 64)),())
theorem cpy2 (r b:BB):cpy (cpy (rep (r.length+b.length) (u8 0)) 0 (ln (rep (r.length+b.length) (u8 0))) r) r.length (r.length+b.length - r.length) b=r++b:=by
 unfold cpy rep ln
 rw [List.length_replicate,List.take_zero,List.nil_append,List.take_of_length_le (show r.length≤r.length+b.length by omega),Nat.zero_add,Nat.min_eq_right (show r.length≤r.length+b.length by omega),List.drop_replicate,
  List.take_left,Nat.add_sub_cancel_left,List.take_of_length_le (Nat.le_refl _),Nat.min_self,List.drop_of_length_le (by simp),List.append_nil]
theorem qF1:qhT ()=some (qfC,()):=rfl
theorem qxV (H:List UInt32) (hH:H.length=8) (N:Int) (r b:BB) (hN:0≤N) (hb:N+(b.length:Int)≤1125899906842624) (hr:r.length≤64) (hm:b.length≤1000000000):qdL ((H,N,r,()),b,())=some (putD (H,N,r,()) b,()):=by
 unfold qdL
 have e0:i64 (isub 1125899906842624 N)=1125899906842624 - N:=z8 (by show -9223372036854775808≤(1125899906842624:Int) - N;omega) (by show (1125899906842624:Int) - N≤9223372036854775807;omega)
 dsimp only
 rw [e0]
 refine (qB (by simp only [go_sem,Int.reduceToNat];omega)).trans ?_
 have e1:i64 (iadd (len r) (len b))=((r.length+b.length:Nat):Int):=i64n (by show (r.length:Int)+(b.length:Int)=_;omega) (by omega)
 have e2:i64 (iadd N (len b))=N+(b.length:Int):=z8 (by show -9223372036854775808≤N+(b.length:Int);omega) (by show N+(b.length:Int)≤9223372036854775807;omega)
 rw [e1,e2]
 refine (qH (by simp only [go_sem,Int.reduceToNat];omega)).trans ?_
 have hlen:len (cpy (rep (nat ((r.length+b.length:Nat):Int)) (u8 0)) 0 (ln (rep (nat ((r.length+b.length:Nat):Int)) (u8 0))) r)=((r.length+b.length:Nat):Int):=by
  unfold len cpy rep ln nat
  simp only [Int.toNat_natCast,List.length_replicate,List.take_zero,List.nil_append,List.length_append,List.length_take,List.length_drop]
  omega
 rw [hlen]
 refine (qH (by simp only [go_sem,Int.reduceToNat];omega)).trans ?_
 rw [show nat (len r)=r.length from qV,show nat ((r.length+b.length:Nat):Int)=r.length+b.length from qV,show nsub (r.length+b.length) r.length=r.length+b.length - r.length from rfl,cpy2]
 generalize hf:(fun (x:BB×(List UInt32×Int×BB×Unit)×Unit)=>(_:Option (LS (BB×(List UInt32×Int×BB×Unit)×Unit) ((List UInt32×Int×BB×Unit)×Unit))))=f
 generalize hl:r++b=l
 have hll:l.length=r.length+b.length:=by rw [← hl,List.length_append]
 have step:∀ i,i < l.length / 64→f (l.drop (64*i),(eat H l i,N+(b.length:Int),r,()),())=some (.nx (l.drop (64*(i+1)),(eat H l (i+1),N+(b.length:Int),r,()),())):=by
  intro i hi
  subst hf
  have hd:(l.drop (64*i)).length=l.length - 64*i:=List.length_drop
  have hlen:len (l.drop (64*i))=((l.length - 64*i:Nat):Int):=by unfold len;rw [hd]
  dsimp only
  rw [hlen]
  refine (qE (by simp only [go_sem,Int.reduceToNat];omega)).trans ?_
  refine (qH (by simp only [go_sem,Int.reduceToNat];omega)).trans ?_
  rw [show cut (l.drop (64*i)) (nat 0) (nsub (nat 64) (nat 0))=(l.drop (64*i)).take 64 from rfl,qiH _ (yU hH l i) _ (by rw [List.length_take,hd];omega)]
  refine (qG rfl).trans ?_
  refine (qH (by simp only [go_sem,Int.reduceToNat];omega)).trans ?_
  rw [qxP]
  have hc:cut (l.drop (64*i)) (nat 64) (nsub (nat ((l.length - 64*i:Nat):Int)) (nat 64))=l.drop (64*(i+1)):=by
   unfold cut
   rw [show nat 64=64 from rfl,qV,List.drop_drop,List.take_of_length_le (by rw [List.length_drop];show _≤l.length - 64*i - 64;omega)]
   congr 1
  rw [hc];rfl
 have hend:f (l.drop (64*(l.length / 64)),(eat H l (l.length / 64),N+(b.length:Int),r,()),())=some (.ex 0 (l.drop (64*(l.length / 64)),(eat H l (l.length / 64),N+(b.length:Int),r,()),())):=by
  subst hf
  have hlen:len (l.drop (64*(l.length / 64)))=((l.length - 64*(l.length / 64):Nat):Int):=by unfold len;rw [List.length_drop]
  dsimp only
  rw [hlen]
  exact qB (by simp only [go_sem,Int.reduceToNat];omega)
 have hloop:=(qM (f:=f) (fun i=>(l.drop (64*i),(eat H l i,N+(b.length:Int),r,()),())) (l.length / 64) step 0 (Nat.zero_le _)).trans (qT hend)
 refine (qY (show loop f (l,(H,N+(b.length:Int),r,()),())=_ from hloop)).trans ?_
 refine (qH g62).trans ?_
 subst hl;rfl
theorem qsI (H:List UInt32) (hH:H.length=8) (N:Int) (r b:BB) (hN:0≤N) (hb:N+(b.length:Int)≤1125899906842624) (hr:r.length≤64) (hm:b.length≤1000000000):qfX ((H,N,r,()),b,())=some (putD (H,N,r,()) b,()):=by
 unfold qfX
 have e0:i64 (isub 1125899906842624 N)=1125899906842624 - N:=z8 (by show -9223372036854775808≤(1125899906842624:Int) - N;omega) (by show (1125899906842624:Int) - N≤9223372036854775807;omega)
 dsimp only
 rw [e0]
 refine (qB (by simp only [go_sem,Int.reduceToNat];omega)).trans ?_
 refine (qH (by simp only [go_sem,Int.reduceToNat];omega)).trans ?_
 rw [show app (none' UInt8) r=r from rfl]
 refine (qH (by simp only [go_sem,Int.reduceToNat];omega)).trans ?_
 rw [qF1]
 refine (qG rfl).trans ?_
 generalize hf:(fun (x_1:Int×(List UInt32×Int×BB×Unit)×Unit)=>(_:Option (LS (Int×(List UInt32×Int×BB×Unit)×Unit) ((List UInt32×Int×BB×Unit)×Unit))))=f
 rw [show app r b=r++b from rfl] at hf ⊢
 generalize hl:r++b=l at hf ⊢
 have hll:l.length=r.length+b.length:=by rw [← hl,List.length_append]
 have step:∀ i:Nat,i < l.length / 64→f (((64*i:Nat):Int),(eat H l i,N,r,()),())=some (.nx (((64*(i+1):Nat):Int),(eat H l (i+1),N,r,()),())):=by
  intro i hi
  subst hf
  have e:i64 (isub (len l) ((64*i:Nat):Int))=((l.length - 64*i:Nat):Int):=i64n (by show (l.length:Int) - _=_;omega) (by omega)
  have e':i64 (iadd ((64*i:Nat):Int) 64)=((64*(i+1):Nat):Int):=i64n (by show ((64*i:Nat):Int)+64=_;omega) (by omega)
  dsimp only
  rw [e,e']
  refine (qE (by simp only [go_sem,Int.reduceToNat];omega)).trans ?_
  rw [qfV _ (yU hH l i) l (64*i) (by omega) (by omega)]
  rfl
 have hend:f (((64*(l.length / 64):Nat):Int),(eat H l (l.length / 64),N,r,()),())=some (.ex 0 (((64*(l.length / 64):Nat):Int),(eat H l (l.length / 64),N,r,()),())):=by
  subst hf
  have e:i64 (isub (len l) ((64*(l.length / 64):Nat):Int))=((l.length - 64*(l.length / 64):Nat):Int):=i64n (by show (l.length:Int) - _=_;omega) (by omega)
  dsimp only
  rw [e]
  exact qB (by simp only [go_sem,Int.reduceToNat];omega)
 have hloop:=(qM (f:=f) (fun i=>(((64*i:Nat):Int),(eat H l i,N,r,()),())) (l.length / 64) step 0 (Nat.zero_le _)).trans (qT hend)
 refine (qY (show loop f (0,(H,N,r,()),())=_ from hloop)).trans ?_
 refine (qH g62).trans ?_
 refine (qH (by simp only [go_sem,Int.reduceToNat];omega)).trans ?_
 have e2:i64 (iadd N (len b))=N+(b.length:Int):=z8 (by show -9223372036854775808≤N+(b.length:Int);omega) (by show N+(b.length:Int)≤9223372036854775807;omega)
 have hc:cut l (nat ((64*(l.length / 64):Nat):Int)) (nsub (nat (len l)) (nat ((64*(l.length / 64):Nat):Int)))=l.drop (64*(l.length / 64)):=by
  unfold cut
  rw [qV,show nat (len l)=l.length from qV,List.take_of_length_le (by rw [List.length_drop];exact Nat.le_refl _)]
 dsimp only
 rw [e2,hc]
 subst hl;rfl
def zs (r:Nat):Nat:=(119 - r) % 64
def lenB (n:Int) (i:Nat):BB:=(List.range i).map fun j=>u8 (shrI .i64 (i64 (imul 8 n)) ((56 - 8*j:Nat):Int))
def padD (n:Int):BB:=[u8 128]++List.replicate (zs (n.toNat % 64)) (u8 0)++lenB n 8
def wb (x:UInt32):BB:=[u8 (n32 (u32 (shrI .u32 (n32 x) (n64 (u64 24))))),u8 (n32 (u32 (shrI .u32 (n32 x) (n64 (u64 16))))),u8 (n32 (u32 (shrI .u32 (n32 x) (n64 (u64 8))))),u8 (n32 x)]
theorem qCs {a b:Int} (h:a % 256=b % 256):u8 a=u8 b:=by
 show UInt8.ofNat (a % 2 ^ 8).toNat=UInt8.ofNat (b % 2 ^ 8).toNat
 rw [show a % 2 ^ 8=b % 2 ^ 8 from h]
theorem qKu (x:UInt32):wb x=[u8 (n32 (u32 (idiv (n32 x) (n32 (u32 16777216))))),u8 (n32 (u32 (imod (n32 (u32 (idiv (n32 x) (n32 (u32 65536))))) (n32 (u32 256))))),u8 (n32 (u32 (imod (n32 (u32 (idiv (n32 x) (n32 (u32 256))))) (n32 (u32 256))))),u8 (n32 (u32 (imod (n32 x) (n32 (u32 256)))))]:=by
 have hx:=x.toNat_lt
 obtain ⟨v,hv⟩:∃ v,v=x.toNat:=⟨_,rfl⟩
 rw [← hv] at hx
 have e:n32 x=(v:Int):=by rw [hv];rfl
 have k1:n32 (u32 16777216)=16777216:=kM (by decide)
 have k2:n32 (u32 65536)=65536:=kM (by decide)
 have k3:n32 (u32 256)=256:=kM (by decide)
 have a1:shrI .u32 (v:Int) (n64 (u64 24))=((v / 16777216:Nat):Int):=by show Int.fdiv (v:Int) (2 ^ 24)=_;rw [Int.fdiv_eq_ediv_of_nonneg _ (by decide)];omega
 have a2:shrI .u32 (v:Int) (n64 (u64 16))=((v / 65536:Nat):Int):=by show Int.fdiv (v:Int) (2 ^ 16)=_;rw [Int.fdiv_eq_ediv_of_nonneg _ (by decide)];omega
 have a3:shrI .u32 (v:Int) (n64 (u64 8))=((v / 256:Nat):Int):=by show Int.fdiv (v:Int) (2 ^ 8)=_;rw [Int.fdiv_eq_ediv_of_nonneg _ (by decide)];omega
 have b1:idiv (v:Int) 16777216=((v / 16777216:Nat):Int):=by rw [g31 (by omega)];omega
 have b2:idiv (v:Int) 65536=((v / 65536:Nat):Int):=by rw [g31 (by omega)];omega
 have b3:idiv (v:Int) 256=((v / 256:Nat):Int):=by rw [g31 (by omega)];omega
 have c:∀ m:Nat,m < 4294967296→n32 (u32 (m:Int))=(m:Int):=fun m hm=>kM (by omega)
 have d:∀ m:Nat,imod (m:Int) 256=((m % 256:Nat):Int):=fun m=>by rw [g32 (by omega)];omega
 unfold wb
 rw [e,k1,k2,k3,a1,a2,a3,b1,b2,b3,c _ (by omega),c _ (by omega),c _ (by omega),d,d,d,c _ (by omega),c _ (by omega),c _ (by omega)]
 congr 1
 congr 1
 ·exact qCs (by omega)
 ·congr 1
  ·exact qCs (by omega)
  ·congr 1
   exact qCs (by omega)
def outW (w:List UInt32) (i:Nat):BB:=(List.range i).flatMap fun j=>wb (q32 w j)
theorem qd3 (w:List UInt32):∀ i,(outW w i).length=4*i
 | 0=>rfl
 | i+1=>by unfold outW;rw [List.range_succ,List.flatMap_append,List.length_append];have:=qd3 w i;unfold outW at this;rw [this];simp [wb];omega
theorem qyL (w:List UInt32) (i:Nat):outW w (i+1)=outW w i++wb (q32 w i):=by unfold outW;rw [List.range_succ,List.flatMap_append];simp
theorem qy0 (n:Int) (i:Nat):lenB n (i+1)=lenB n i++[u8 (shrI .i64 (i64 (imul 8 n)) ((56 - 8*i:Nat):Int))]:=by unfold lenB;rw [List.range_succ,List.map_append];rfl
theorem yQ (n:Int) (i:Nat):(lenB n i).length=i:=by simp [lenB]
def sumD (h:HT):BB:=outW (eat h.1 (h.2.2.1++padD h.2.1) ((h.2.2.1++padD h.2.1).length / 64)) 8
theorem qu1 (l:BB) (k:Nat):l++List.replicate k (u8 0)++[u8 0]=l++List.replicate (k+1) (u8 0):=by rw [List.append_assoc,← List.replicate_succ']
theorem qxU (H:List UInt32) (hH:H.length=8) (N:Int) (r:BB) (hN:0≤N) (hN2:N≤1125899906842624) (hr:r.length=N.toNat % 64):qi7 ((H,N,r,()),())=some (sumD (H,N,r,()),()):=by
 unfold qi7
 dsimp only
 have hz:rep (nat 0) (u8 0)=[]:=rfl
 rw [hz,show app ([]:BB) r=r from rfl,show app r [u8 128]=r++[u8 128] from rfl]
 refine (qH (by decide)).trans ?_
 refine (qH (by simp only [go_sem,Int.reduceToNat];omega)).trans ?_
 refine (qH (by simp only [go_sem,Int.reduceToNat];simp;omega)).trans ?_
 generalize hf:(fun (x:BB×Unit)=>(_:Option (LS (BB×Unit) (BB×Unit))))=f
 have hr64:r.length < 64:=by omega
 have hzs:zs (N.toNat % 64) < 64:=by unfold zs;omega
 have step:∀ i:Nat,i < zs (N.toNat % 64)→f (r++[u8 128]++List.replicate i (u8 0),())=some (.nx (r++[u8 128]++List.replicate (i+1) (u8 0),())):=by
  intro i hi
  subst hf
  have hl:(r++[u8 128]++List.replicate i (u8 0)).length=r.length+1+i:=by simp;omega
  have hne:¬ (((r++[u8 128]++List.replicate i (u8 0)).length:Int) % 64=56):=by rw [hl];unfold zs at hi;omega
  refine (qE (by simp (disch:=omega) only [go_sem,Int.reduceToNat];omega)).trans ?_
  refine (qH (by simp only [go_sem,Int.reduceToNat];simp;omega)).trans ?_
  show some (LS.nx (r++[u8 128]++List.replicate i (u8 0)++[u8 0],()))=_
  rw [qu1]
 have hend:f (r++[u8 128]++List.replicate (zs (N.toNat % 64)) (u8 0),())=some (.ex 0 (r++[u8 128]++List.replicate (zs (N.toNat % 64)) (u8 0),())):=by
  subst hf
  have hl:(r++[u8 128]++List.replicate (zs (N.toNat % 64)) (u8 0)).length=r.length+1+zs (N.toNat % 64):=by simp;omega
  have he:(((r++[u8 128]++List.replicate (zs (N.toNat % 64)) (u8 0)).length:Int) % 64=56):=by rw [hl];unfold zs;omega
  exact qB (by simp (disch:=omega) only [go_sem,Int.reduceToNat];omega)
 have hloop:=(qM (f:=f) (fun i=>(r++[u8 128]++List.replicate i (u8 0),())) (zs (N.toNat % 64)) step 0 (Nat.zero_le _)).trans (qT hend)
 rw [List.replicate_zero,List.append_nil] at hloop
 refine (qY hloop).trans ?_
 clear hloop hend step
 refine (qH g62).trans ?_
 clear hf f
 dsimp only
 generalize hL:r++[u8 128]++List.replicate (zs (N.toNat % 64)) (u8 0)=L
 have hLl:L.length=r.length+1+zs (N.toNat % 64):=by rw [← hL];simp;omega
 generalize hf:(fun (x_1:BB×Int×Unit)=>(_:Option (LS (BB×Int×Unit) (BB×Unit))))=f
 have step:∀ i:Nat,i < 8→f (L++lenB N i,56 - 8*(i:Int),())=some (.nx (L++lenB N (i+1),56 - 8*((i+1:Nat):Int),())):=by
  intro i hi
  subst hf
  have hl:(L++lenB N i).length=L.length+i:=by rw [List.length_append,yQ]
  refine (qE (by simp only [go_sem,Int.reduceToNat];omega)).trans ?_
  refine (qH (by simp only [go_sem,Int.reduceToNat];omega)).trans ?_
  refine (qH (by simp only [go_sem,Int.reduceToNat];simp [yQ];omega)).trans ?_
  dsimp only
  rw [show app (L++lenB N i) [u8 (shrI .i64 (i64 (imul 8 N)) (56 - 8*(i:Int)))]=L++lenB N (i+1) by rw [qy0,show ((56 - 8*i:Nat):Int)=56 - 8*(i:Int) by omega];exact List.append_assoc _ _ _,
   show i64 (isub (56 - 8*(i:Int)) 8)=56 - 8*((i+1:Nat):Int) by rw [z8 (by show -9223372036854775808≤56 - 8*(i:Int) - 8;omega) (by show 56 - 8*(i:Int) - 8≤9223372036854775807;omega)];show 56 - 8*(i:Int) - 8=_;omega]
 have hend:f (L++lenB N 8,56 - 8*((8:Nat):Int),())=some (.ex 2 (L++lenB N 8,56 - 8*((8:Nat):Int),())):=by subst hf;exact qB (show le 0 (56 - 8*((8:Nat):Int))=false from rfl)
 have hloop:=(qM (f:=f) (fun i=>(L++lenB N i,56 - 8*(i:Int),())) 8 step 0 (Nat.zero_le _)).trans (qT hend)
 have h0:(L++lenB N 0,56 - 8*((0:Nat):Int),())=(L,56,()):=by simp [lenB]
 rw [h0] at hloop
 refine (qY hloop).trans ?_
 clear hloop hend step
 refine (qH g62).trans ?_
 clear hf f
 dsimp only
 have hT:L++lenB N 8=r++padD N:=by rw [← hL];unfold padD;simp
 rw [hT]
 have hTl:(r++padD N).length=r.length+1+zs (N.toNat % 64)+8:=by rw [← hT,List.length_append,yQ,hLl]
 have hT64:(r++padD N).length % 64=0:=by rw [hTl];unfold zs;omega
 generalize hTT:r++padD N=T at hTl hT64
 generalize hf:(fun (x:BB×List UInt32×Unit)=>(_:Option (LS (BB×List UInt32×Unit) (BB×Unit))))=f
 have step:∀ i,i < T.length / 64→f (T.drop (64*i),eat H T i,())=some (.nx (T.drop (64*(i+1)),eat H T (i+1),())):=by
  intro i hi
  subst hf
  have hd:(T.drop (64*i)).length=T.length - 64*i:=List.length_drop
  have hlen:len (T.drop (64*i))=((T.length - 64*i:Nat):Int):=by unfold len;rw [hd]
  dsimp only
  rw [hlen]
  refine (qE (by simp only [go_sem,Int.reduceToNat];omega)).trans ?_
  refine (qH (by simp only [go_sem,Int.reduceToNat];omega)).trans ?_
  rw [show cut (T.drop (64*i)) (nat 0) (nsub (nat 64) (nat 0))=(T.drop (64*i)).take 64 from rfl,qiH _ (yU hH T i) _ (by rw [List.length_take,hd];omega)]
  refine (qG rfl).trans ?_
  refine (qH (by simp only [go_sem,Int.reduceToNat];omega)).trans ?_
  rw [qxP]
  have hc:cut (T.drop (64*i)) (nat 64) (nsub (nat ((T.length - 64*i:Nat):Int)) (nat 64))=T.drop (64*(i+1)):=by
   unfold cut
   rw [show nat 64=64 from rfl,qV,List.drop_drop,List.take_of_length_le (by rw [List.length_drop];show _≤T.length - 64*i - 64;omega)]
   congr 1
  rw [hc];rfl
 have hend:f (T.drop (64*(T.length / 64)),eat H T (T.length / 64),())=some (.ex 4 (T.drop (64*(T.length / 64)),eat H T (T.length / 64),())):=by
  subst hf
  have hlen:len (T.drop (64*(T.length / 64)))=((T.length - 64*(T.length / 64):Nat):Int):=by unfold len;rw [List.length_drop]
  dsimp only
  rw [hlen]
  exact qB (by simp only [go_sem,Int.reduceToNat];omega)
 have hloop:=(qM (f:=f) (fun i=>(T.drop (64*i),eat H T i,())) (T.length / 64) step 0 (Nat.zero_le _)).trans (qT hend)
 refine (qY (show loop f (T,H,())=_ from hloop)).trans ?_
 clear hloop hend step
 refine (qH g62).trans ?_
 clear hf f
 refine (qH (by decide)).trans ?_
 dsimp only
 unfold sumD
 dsimp only
 rw [hTT]
 have hw:=yU hH T (T.length / 64)
 generalize eat H T (T.length / 64)=w at hw
 generalize hf:(fun (x:BB×Int×Unit)=>(_:Option (LS (BB×Int×Unit) (BB×Unit))))=f
 have step:∀ i:Nat,i < 8→f (outW w i,(i:Int),())=some (.nx (outW w (i+1),((i+1:Nat):Int),())):=by
  intro i hi
  subst hf
  have hl:=qd3 w i
  have hi':i64 (iadd (i:Int) 1)=((i+1:Nat):Int):=i64n (by show (i:Int)+1=_;omega) (by omega)
  refine (qE (by simp only [go_sem,Int.reduceToNat];omega)).trans ?_
  refine (qH (by simp only [go_sem,Int.reduceToNat];omega)).trans ?_
  refine (qH (by simp only [go_sem,Int.reduceToNat];simp;omega)).trans ?_
  dsimp only
  rw [hi',qyL];rfl
 have hend:∀ v,f (v,((8:Nat):Int),())=some (.ex 6 (v,((8:Nat):Int),())):=by subst hf;intro v;exact qB rfl
 have hloop:=(qM (f:=f) (fun i=>(outW w i,(i:Int),())) 8 step 0 (Nat.zero_le _)).trans (qT (hend _))
 refine (qY (show loop f ([],0,())=_ from hloop)).trans ?_
 exact qH g62
theorem qf2 {a:Int} (h:0≤a∧a < 18446744073709551616):n64 (u64 a)=a:=by
 show (((BitVec.ofNat 64 ((a % 2 ^ 64).toNat)).toNat:Nat):Int)=a
 rw [BitVec.toNat_ofNat];omega
theorem qsJ (N:Int) (hN:0≤N) (hN2:N≤1125899906842624):qkS (N,())=some (padD N,()):=by
 unfold qkS
 dsimp only
 have hzs:zs (N.toNat % 64) < 64:=by unfold zs;omega
 generalize hf:(fun (x_1:BB×Unit)=>(_:Option (LS (BB×Unit) (BB×Unit))))=f
 have step:∀ i:Nat,i < zs (N.toNat % 64)→f ([u8 128]++List.replicate i (u8 0),())=some (.nx ([u8 128]++List.replicate (i+1) (u8 0),())):=by
  intro i hi
  subst hf
  have hl:([u8 128]++List.replicate i (u8 0)).length=1+i:=by simp;omega
  have e:i64 (iadd (i64 (iadd N (len ([u8 128]++List.replicate i (u8 0))))) 8)=N+((1+i:Nat):Int)+8:=by
   have e1:i64 (iadd N (len ([u8 128]++List.replicate i (u8 0))))=N+((1+i:Nat):Int):=by
    show i64 (N+(([u8 128]++List.replicate i (u8 0)).length:Int))=_
    rw [hl];exact z8 (by omega) (by omega)
   rw [e1];exact z8 (by show -9223372036854775808≤N+((1+i:Nat):Int)+8;omega) (by show N+((1+i:Nat):Int)+8≤9223372036854775807;omega)
  dsimp only
  rw [e]
  have hne:¬ ((N+((1+i:Nat):Int)+8) % 64=0):=by unfold zs at hi;omega
  refine (qE (by simp (disch:=omega) only [go_sem,Int.reduceToNat];omega)).trans ?_
  refine (qH (by simp only [go_sem,Int.reduceToNat];simp;omega)).trans ?_
  show some (LS.nx ([u8 128]++List.replicate i (u8 0)++[u8 0],()))=_
  rw [qu1]
 have hend:f ([u8 128]++List.replicate (zs (N.toNat % 64)) (u8 0),())=some (.ex 0 ([u8 128]++List.replicate (zs (N.toNat % 64)) (u8 0),())):=by
  subst hf
  obtain ⟨i,hi⟩:∃ i,i=zs (N.toNat % 64):=⟨_,rfl⟩
  rw [← hi]
  have hl:([u8 128]++List.replicate i (u8 0)).length=1+i:=by simp;omega
  have e:i64 (iadd (i64 (iadd N (len ([u8 128]++List.replicate i (u8 0))))) 8)=N+((1+i:Nat):Int)+8:=by
   have e1:i64 (iadd N (len ([u8 128]++List.replicate i (u8 0))))=N+((1+i:Nat):Int):=by
    show i64 (N+(([u8 128]++List.replicate i (u8 0)).length:Int))=_
    rw [hl];exact z8 (by omega) (by omega)
   rw [e1];exact z8 (by show -9223372036854775808≤N+((1+i:Nat):Int)+8;omega) (by show N+((1+i:Nat):Int)+8≤9223372036854775807;omega)
  dsimp only
  rw [e]
  have hne:((N+((1+i:Nat):Int)+8) % 64=0):=by unfold zs at hi;omega
  exact qB (by simp (disch:=omega) only [go_sem,Int.reduceToNat];omega)
 have hloop:=(qM (f:=f) (fun i=>([u8 128]++List.replicate i (u8 0),())) (zs (N.toNat % 64)) step 0 (Nat.zero_le _)).trans (qT hend)
 rw [List.replicate_zero,List.append_nil] at hloop
 refine (qY hloop).trans ?_
 clear hloop hend step
 refine (qH g62).trans ?_
 clear hf f
 dsimp only
 generalize hL:[u8 128]++List.replicate (zs (N.toNat % 64)) (u8 0)=L
 have hLl:L.length=1+zs (N.toNat % 64):=by rw [← hL];simp;omega
 generalize hf:(fun (x_1:BB×Int×Unit)=>(_:Option (LS (BB×Int×Unit) (BB×Unit))))=f
 have step:∀ i:Nat,i < 8→f (L++lenB N i,56 - 8*(i:Int),())=some (.nx (L++lenB N (i+1),56 - 8*((i+1:Nat):Int),())):=by
  intro i hi
  subst hf
  have hl:(L++lenB N i).length=L.length+i:=by rw [List.length_append,yQ]
  refine (qE (by simp only [go_sem,Int.reduceToNat];omega)).trans ?_
  refine (qH (by simp only [go_sem,Int.reduceToNat];simp [yQ];omega)).trans ?_
  dsimp only
  rw [qf2 (a:=56 - 8*(i:Int)) (by omega),show app (L++lenB N i) [u8 (shrI .i64 (i64 (imul 8 N)) (56 - 8*(i:Int)))]=L++lenB N (i+1) by rw [qy0,show ((56 - 8*i:Nat):Int)=56 - 8*(i:Int) by omega];exact List.append_assoc _ _ _,
   show i64 (isub (56 - 8*(i:Int)) 8)=56 - 8*((i+1:Nat):Int) by rw [z8 (by show -9223372036854775808≤56 - 8*(i:Int) - 8;omega) (by show 56 - 8*(i:Int) - 8≤9223372036854775807;omega)];show 56 - 8*(i:Int) - 8=_;omega]
 have hend:f (L++lenB N 8,56 - 8*((8:Nat):Int),())=some (.ex 2 (L++lenB N 8,56 - 8*((8:Nat):Int),())):=by subst hf;exact qB (show le 0 (56 - 8*((8:Nat):Int))=false from rfl)
 have hloop:=(qM (f:=f) (fun i=>(L++lenB N i,56 - 8*(i:Int),())) 8 step 0 (Nat.zero_le _)).trans (qT hend)
 have h0:(L++lenB N 0,56 - 8*((0:Nat):Int),())=(L,56,()):=by simp [lenB]
 rw [h0] at hloop
 refine (qY hloop).trans ?_
 refine (qH g62).trans ?_
 dsimp only
 rw [← hL];rfl
theorem qBb (N:Int):(padD N).length=9+zs (N.toNat % 64):=by unfold padD;simp [yQ];omega
theorem qsH (H:List UInt32) (hH:H.length=8) (N:Int) (r:BB) (hN:0≤N) (hN2:N≤1125899906842624) (hr:r.length=N.toNat % 64):qfW ((H,N,r,()),())=some (sumD (H,N,r,()),()):=by
 unfold qfW
 dsimp only
 rw [show app (none' UInt8) r=r from rfl]
 refine (qH (by simp only [go_sem,Int.reduceToNat];omega)).trans ?_
 rw [qsJ N hN hN2]
 refine (qG rfl).trans ?_
 have hp:=qBb N
 have hzs:zs (N.toNat % 64) < 64:=by unfold zs;omega
 refine (qH (by simp only [go_sem,Int.reduceToNat];omega)).trans ?_
 rw [qF1]
 refine (qG rfl).trans ?_
 dsimp only
 unfold sumD
 dsimp only
 rw [show app r (padD N)=r++padD N from rfl]
 have hTl:(r++padD N).length=r.length+1+zs (N.toNat % 64)+8:=by rw [List.length_append,hp];omega
 have hT64:(r++padD N).length % 64=0:=by rw [hTl];unfold zs;omega
 generalize hTT:r++padD N=T at hTl hT64
 generalize hf:(fun (x_1:Int×List UInt32×Unit)=>(_:Option (LS (Int×List UInt32×Unit) (BB×Unit))))=f
 have step:∀ i:Nat,i < T.length / 64→f (((64*i:Nat):Int),eat H T i,())=some (.nx (((64*(i+1):Nat):Int),eat H T (i+1),())):=by
  intro i hi
  subst hf
  have e':i64 (iadd ((64*i:Nat):Int) 64)=((64*(i+1):Nat):Int):=i64n (by show ((64*i:Nat):Int)+64=_;omega) (by omega)
  dsimp only
  rw [e']
  refine (qE (by simp only [go_sem,Int.reduceToNat];omega)).trans ?_
  rw [qfV _ (yU hH T i) T (64*i) (by omega) (by omega)]
  rfl
 have hend:f (((64*(T.length / 64):Nat):Int),eat H T (T.length / 64),())=some (.ex 0 (((64*(T.length / 64):Nat):Int),eat H T (T.length / 64),())):=by
  subst hf
  exact qB (by simp only [go_sem,Int.reduceToNat];omega)
 have hloop:=(qM (f:=f) (fun i=>(((64*i:Nat):Int),eat H T i,())) (T.length / 64) step 0 (Nat.zero_le _)).trans (qT hend)
 refine (qY (show loop f (0,H,())=_ from hloop)).trans ?_
 clear hloop hend step
 refine (qH g62).trans ?_
 clear hf f
 dsimp only
 have hw:=yU hH T (T.length / 64)
 generalize eat H T (T.length / 64)=w at hw
 generalize hf:(fun (x:BB×Int×Unit)=>(_:Option (LS (BB×Int×Unit) (BB×Unit))))=f
 have step:∀ i:Nat,i < 8→f (outW w i,(i:Int),())=some (.nx (outW w (i+1),((i+1:Nat):Int),())):=by
  intro i hi
  subst hf
  have hl:=qd3 w i
  have hi':i64 (iadd (i:Int) 1)=((i+1:Nat):Int):=i64n (by show (i:Int)+1=_;omega) (by omega)
  refine (qE (by simp only [go_sem,Int.reduceToNat];omega)).trans ?_
  refine (qH (by simp only [go_sem,Int.reduceToNat];omega)).trans ?_
  refine (qH (by simp only [go_sem,Int.reduceToNat];omega)).trans ?_
  refine (qH (by simp only [go_sem,Int.reduceToNat];omega)).trans ?_
  refine (qH (by simp only [go_sem,Int.reduceToNat];omega)).trans ?_
  refine (qH (by simp only [go_sem,Int.reduceToNat];simp;omega)).trans ?_
  dsimp only
  rw [hi',qyL,qKu];rfl
 have hend:∀ v,f (v,((8:Nat):Int),())=some (.ex 2 (v,((8:Nat):Int),())):=by subst hf;intro v;exact qB rfl
 have hloop:=(qM (f:=f) (fun i=>(outW w i,(i:Int),())) 8 step 0 (Nat.zero_le _)).trans (qT (hend _))
 refine (qY (show loop f (none' UInt8,0,())=_ from hloop)).trans ?_
 exact qH g62
def okH (h:HT):Prop:=h.1.length=8∧0≤h.2.1∧h.2.2.1.length=h.2.1.toNat % 64
theorem qfY {h:HT} (hh:okH h) (b:BB):okH (putD h b):=by
 obtain ⟨h1,h2,h3⟩:=hh
 refine ⟨yU h1 _ _, ?_, ?_⟩
 ·show 0≤h.2.1+(b.length:Int);omega
 ·show ((h.2.2.1++b).drop (64*((h.2.2.1++b).length / 64))).length=(h.2.1+(b.length:Int)).toNat % 64
  rw [List.length_drop,List.length_append,h3];omega
theorem qJb (h:HT) (x y:BB):putD (putD h x) y=putD h (x++y):=by
 obtain ⟨H,N,r,⟨⟩⟩:=h
 unfold putD
 dsimp only
 generalize hL:r++x=L
 have hM:r++(x++y)=L++y:=by rw [← List.append_assoc,hL]
 rw [hM]
 have hq:64*(L.length / 64)≤L.length:=by omega
 have hd:(L++y).drop (64*(L.length / 64))=L.drop (64*(L.length / 64))++y:=List.drop_append_of_le_length hq
 have hlen:(L.drop (64*(L.length / 64))++y).length=L.length - 64*(L.length / 64)+y.length:=by rw [List.length_append,List.length_drop]
 have hn:(L++y).length / 64=L.length / 64+(L.drop (64*(L.length / 64))++y).length / 64:=by rw [hlen,List.length_append];omega
 have he:eat H (L++y) (L.length / 64)=eat H L (L.length / 64):=by
  refine qzO H fun j hj => ?_
  unfold q8
  rw [List.getD_eq_getElem?_getD,List.getElem?_append_left (by omega),← List.getD_eq_getElem?_getD]
 refine Prod.ext ?_ (Prod.ext ?_ (Prod.ext ?_ rfl))
 ·dsimp only;rw [hn,qGv,hd,he]
 ·dsimp only;rw [List.length_append];omega
 ·dsimp only;rw [hn,← hd,List.drop_drop];congr 1;omega
theorem qAN (h:HT):(sumD h).length=32:=by unfold sumD;rw [qd3]
def iv:HT:=([u32 1779033703,u32 3144134277,u32 1013904242,u32 2773480762,u32 1359893119,u32 2600822924,u32 528734635,u32 1541459225],0,[],())
theorem qsR:okH iv:=⟨rfl,Int.le_refl _,rfl⟩
theorem qcF {h:HT} (hh:okH h) (b:BB) (hN:h.2.1≤1000000000) (hb:b.length≤1000000000):qdL (h,b,())=some (putD h b,()):=by
 obtain ⟨H,N,r,⟨⟩⟩:=h
 obtain ⟨h1,h2,h3⟩:=hh
 have h2':0≤N:=h2
 have h3':r.length=N.toNat % 64:=h3
 have hN':N≤1000000000:=hN
 exact qxV H h1 N r b h2 (by omega) (by omega) hb
theorem qyE {h:HT} (hh:okH h) (b:BB) (hN:h.2.1≤1000000000) (hb:b.length≤1000000000):qfX (h,b,())=some (putD h b,()):=by
 obtain ⟨H,N,r,⟨⟩⟩:=h
 obtain ⟨h1,h2,h3⟩:=hh
 have h2':0≤N:=h2
 have h3':r.length=N.toNat % 64:=h3
 have hN':N≤1000000000:=hN
 exact qsI H h1 N r b h2 (by omega) (by omega) hb
theorem qmE {h:HT} (hh:okH h) (hN:h.2.1≤1000000000000):qi7 (h,())=some (sumD h,()):=by
 obtain ⟨H,N,r,⟨⟩⟩:=h
 obtain ⟨h1,h2,h3⟩:=hh
 have hN':N≤1000000000000:=hN
 exact qxU H h1 N r h2 (by omega) h3
theorem qyD {h:HT} (hh:okH h) (hN:h.2.1≤1000000000000):qfW (h,())=some (sumD h,()):=by
 obtain ⟨H,N,r,⟨⟩⟩:=h
 obtain ⟨h1,h2,h3⟩:=hh
 have hN':N≤1000000000000:=hN
 exact qsH H h1 N r h2 (by omega) h3
theorem qm8:qpJ ()=some (iv,()):=rfl
theorem qsK:qp4 ()=some (iv,()):=rfl
def qn7 (b:BB):BB:=sumD (putD iv b)
theorem xN (b:BB):(qn7 b).length=32:=qAN _
theorem qAS (b:BB) (hb:b.length≤1000000000):qCE (b,())=some (qn7 b,()):=by
 unfold qCE
 rw [qm8]
 refine (qG rfl).trans ?_
 dsimp only
 rw [qcF qsR b (by decide) hb]
 refine (qG rfl).trans ?_
 dsimp only
 have hn:(putD iv b).2.1=0+(b.length:Int):=rfl
 rw [qmE (qfY qsR b) (by omega)];rfl
theorem wV (b:BB) (hb:b.length≤1000000000):qd2 (b,())=some (qn7 b,()):=by
 unfold qd2
 rw [qsK]
 refine (qG rfl).trans ?_
 dsimp only
 rw [qyE qsR b (by decide) hb]
 refine (qG rfl).trans ?_
 dsimp only
 have hn:(putD iv b).2.1=0+(b.length:Int):=rfl
 rw [qyD (qfY qsR b) (by omega)];rfl
theorem qd9 {α σ ρ:Type} {f:σ→Option (LS σ ρ)} (l:List α) (mk:Nat→σ) (e:Nat) (r:ρ) (p:α→Prop)
  (hs:∀ i (h:i < l.length),p l[i]→f (mk i)=some (.nx (mk (i+1)))) (hb:∀ i (h:i < l.length),¬ p l[i]→f (mk i)=some (.rt r)) (he:f (mk l.length)=some (.ex e (mk l.length))) :
  ((∀ x∈l,p x)∧loop f (mk 0)=some (.ex e (mk l.length)))∨((¬ ∀ x∈l,p x)∧loop f (mk 0)=some (.rt r)):=by
 by_cases h:∀ x∈l,p x
 ·exact .inl ⟨h,(qM mk l.length (fun i hi=>hs i hi (h _ (List.getElem_mem hi))) 0 (Nat.zero_le _)).trans (qT he)⟩
 ·refine .inr ⟨h, ?_⟩
  have key:∀ (n i:Nat),l.length - i=n→i≤l.length→(∃ j,∃ (hj:j < l.length),i≤j∧¬ p l[j])→loop f (mk i)=some (.rt r):=by
   intro n
   induction n with
   | zero=>rintro i hn hi ⟨j,hj,h1,_⟩;omega
   | succ n ih =>
    rintro i hn hi ⟨j,hj,h1,h2⟩
    have hil:i < l.length:=by omega
    by_cases hp:p l[i]
    ·rw [jK (hs i hil hp)]
     refine ih (i+1) (by omega) (by omega) ⟨j,hj, ?_,h2⟩
     rcases Nat.lt_or_eq_of_le h1 with h | rfl
     ·exact h
     ·exact absurd hp h2
    ·exact qd8 (hb i hil hp)
  refine key _ 0 rfl (Nat.zero_le _) ?_
  refine Classical.byContradiction fun hn=>h fun x hx=>Classical.byContradiction fun hpx => ?_
  obtain ⟨j,hj,rfl⟩:=List.getElem_of_mem hx
  exact hn ⟨j,hj,Nat.zero_le _,hpx⟩
def vM (key:BB):BB:=let k:=if 64 < key.length then qn7 key else key;k++List.replicate (64 - k.length) (u8 0)
theorem qlX (key:BB):(vM key).length=64:=by
 unfold vM
 by_cases h:64 < key.length
 ·simp only [if_pos h,List.length_append,List.length_replicate,xN]
 ·simp only [if_neg h,List.length_append,List.length_replicate];omega
theorem qGx (k:BB) (h:k.length≤64):cpy (rep (nat 64) (u8 0)) 0 (ln (rep (nat 64) (u8 0))) k=k++List.replicate (64 - k.length) (u8 0):=by
 unfold cpy rep ln
 rw [List.length_replicate,show nat 64=64 from rfl,List.take_zero,List.nil_append,List.take_of_length_le h,Nat.zero_add,Nat.min_eq_right h,List.drop_replicate]
theorem qsO (key:BB) (h:key.length≤1000000000):qk4 (key,())=some (vM key,()):=by
 unfold qk4
 refine (qH (by decide)).trans ?_
 by_cases hk:64 < key.length
 ·refine (qE (by simp only [go_sem,Int.reduceToNat];omega)).trans ?_
  dsimp only
  rw [qAS _ h]
  refine (qG rfl).trans ?_
  dsimp only
  rw [qGx _ (by rw [xN];omega)]
  unfold vM;simp only [if_pos hk]
 ·refine (qB (by simp only [go_sem,Int.reduceToNat];omega)).trans ?_
  dsimp only
  rw [qGx _ (by omega)]
  unfold vM;simp only [if_neg hk]
theorem qKW {f:BB×Unit→Option (LS (BB×Unit) (BB×Unit))} (hf:f=fun (x:BB×Unit)=>sel (lt (len x.1) 64) (ck (rm 1 (nadd (ln x.1) (ln [u8 0]))) (some (LS.nx (app x.1 [u8 0],())))) (some (LS.ex 0 (x.1,())))) (k:BB) (h:k.length≤64) :
  loop f (k,())=some (.ex 0 (k++List.replicate (64 - k.length) (u8 0),())):=by
 have step:∀ i:Nat,i < 64 - k.length→f (k++List.replicate i (u8 0),())=some (.nx (k++List.replicate (i+1) (u8 0),())):=by
  intro i hi
  subst hf
  have hl:(k++List.replicate i (u8 0)).length=k.length+i:=by simp
  refine (qE (by simp only [go_sem,Int.reduceToNat];omega)).trans ?_
  refine (qH (by simp only [go_sem,Int.reduceToNat];simp;omega)).trans ?_
  show some (LS.nx (k++List.replicate i (u8 0)++[u8 0],()))=_
  rw [qu1]
 have hend:f (k++List.replicate (64 - k.length) (u8 0),())=some (.ex 0 (k++List.replicate (64 - k.length) (u8 0),())):=by
  subst hf
  have hl:(k++List.replicate (64 - k.length) (u8 0)).length=64:=by simp;omega
  exact qB (by simp only [go_sem,Int.reduceToNat];omega)
 have:=(qM (f:=f) (fun i=>(k++List.replicate i (u8 0),())) (64 - k.length) step 0 (Nat.zero_le _)).trans (qT hend)
 rwa [List.replicate_zero,List.append_nil] at this
theorem qoL (key:BB) (h:key.length≤1000000000):qd1 (key,())=some (vM key,()):=by
 unfold qd1
 refine (qH (by simp only [go_sem,Int.reduceToNat];omega)).trans ?_
 by_cases hk:64 < key.length
 ·refine (qE (by simp only [go_sem,Int.reduceToNat];omega)).trans ?_
  dsimp only
  rw [wV _ h]
  refine (qG rfl).trans ?_
  dsimp only
  rw [qKW rfl _ (by rw [xN];omega)]
  refine (qH g62).trans ?_
  unfold vM;simp only [if_pos hk]
 ·refine (qB (by simp only [go_sem,Int.reduceToNat];omega)).trans ?_
  dsimp only
  rw [show app (none' UInt8) key=key from rfl,qKW rfl _ (by omega)]
  refine (qH g62).trans ?_
  unfold vM;simp only [if_neg hk]
def xr (c:UInt8) (l:BB):BB:=l.map fun x=>u8 (xorI .u8 (n8 x) (n8 c))
theorem qcD (c:UInt8) (l:BB):(xr c l).length=l.length:=by simp [xr]
theorem qHR {α:Type} {L:List α} {n:Nat} {z:α} (hL:L.length=n) {i:Nat} (hi:i < n):(L.take i++List.replicate (n - i) z).set i (L[i]'(by omega))=L.take (i+1)++List.replicate (n - (i+1)) z:=by
 have h1:(L.take i).length=i:=by rw [List.length_take];omega
 rw [List.set_append_right _ _ (by omega),h1,Nat.sub_self,show n - i=(n - (i+1))+1 by omega,List.replicate_succ,List.set_cons_zero,List.take_succ_eq_append_getElem (by omega),List.append_assoc]
 rfl
theorem qCm {f:Int×BB×Unit→Option (LS (Int×BB×Unit) Unit)} (c:UInt8) (k:BB) (hk:k.length=64)
  (hf:f=fun (x:Int×BB×Unit)=>sel (lt x.1 (len k)) (ck (inB x.1 (len k)) (ck (inB x.1 (len x.2.1)) (some (LS.nx (i64 (iadd x.1 1),upd x.2.1 (nat x.1) (u8 (xorI .u8 (n8 (nth k (nat x.1) (u8 0))) (n8 c))),()))))) (some (LS.ex 0 (x.1,x.2.1,())))) :
  loop f (0,rep (nat 64) (u8 0),())=some (.ex 0 (64,xr c k,())):=by
 have hx:(xr c k).length=64:=by rw [qcD,hk]
 have step:∀ i:Nat,i < 64→f ((i:Int),(xr c k).take i++List.replicate (64 - i) (u8 0),())=some (.nx (((i+1:Nat):Int),(xr c k).take (i+1)++List.replicate (64 - (i+1)) (u8 0),())):=by
  intro i hi
  subst hf
  have hl:((xr c k).take i++List.replicate (64 - i) (u8 0)).length=64:=by rw [List.length_append,List.length_take,List.length_replicate];omega
  have hi':i64 (iadd (i:Int) 1)=((i+1:Nat):Int):=i64n (by show (i:Int)+1=_;omega) (by omega)
  refine (qE (by simp only [go_sem,Int.reduceToNat];omega)).trans ?_
  refine (qH (by simp only [go_sem,Int.reduceToNat];omega)).trans ?_
  refine (qH (by simp only [go_sem,Int.reduceToNat];omega)).trans ?_
  dsimp only
  rw [hi',show upd ((xr c k).take i++List.replicate (64 - i) (u8 0)) (nat (i:Int)) (u8 (xorI .u8 (n8 (nth k (nat (i:Int)) (u8 0))) (n8 c)))=(xr c k).take (i+1)++List.replicate (64 - (i+1)) (u8 0) from ?_]
  rw [← qHR hx hi,qV,qL (by omega:i < k.length)]
  unfold upd
  congr 1
  simp [xr]
 have hend:f (((64:Nat):Int),(xr c k).take 64++List.replicate (64 - 64) (u8 0),())=some (.ex 0 (((64:Nat):Int),(xr c k).take 64++List.replicate (64 - 64) (u8 0),())):=by
  subst hf
  exact qB (by simp only [go_sem,Int.reduceToNat];omega)
 have:=(qM (f:=f) (fun i=>((i:Int),(xr c k).take i++List.replicate (64 - i) (u8 0),())) 64 step 0 (Nat.zero_le _)).trans (qT hend)
 rw [List.take_of_length_le (show (xr c k).length≤64 by omega),Nat.sub_self,List.replicate_zero,List.append_nil] at this
 exact this
def tagD (key b:BB):BB:=qn7 (xr (u8 92) (vM key)++qn7 (xr (u8 54) (vM key)++b))
theorem qi4 (key b:BB):(tagD key b).length=32:=xN _
theorem qCS (x y:BB):sumD (putD (putD iv x) y)=qn7 (x++y):=by rw [qJb];rfl
theorem qnH (key b:BB) (h:key.length≤1000000) (hb:b.length≤1000000):qqG (key,b,())=some (tagD key b,()):=by
 unfold qqG
 dsimp only
 rw [qsO _ (by omega)]
 refine (qG rfl).trans ?_
 refine (qH (by decide)).trans ?_
 dsimp only
 have hk:=qlX key
 rw [qCm (u8 92) _ hk rfl]
 refine (qH g62).trans ?_
 dsimp only
 rw [qm8]
 refine (qG rfl).trans ?_
 dsimp only
 have l1:=(qcD (u8 92) (vM key)).trans hk
 have l2:=(qcD (u8 54) (vM key)).trans hk
 rw [qcF qsR _ (by decide) (by omega)]
 refine (qG rfl).trans ?_
 refine (qH (by decide)).trans ?_
 dsimp only
 rw [qCm (u8 54) _ hk rfl]
 refine (qH g62).trans ?_
 refine (qG rfl).trans ?_
 dsimp only
 rw [qcF qsR _ (by decide) (by omega)]
 refine (qG rfl).trans ?_
 dsimp only
 have n1:(putD iv (xr (u8 54) (vM key))).2.1=0+((xr (u8 54) (vM key)).length:Int):=rfl
 have n2:(putD (putD iv (xr (u8 54) (vM key))) b).2.1=0+((xr (u8 54) (vM key)).length:Int)+(b.length:Int):=rfl
 have n3:(putD iv (xr (u8 92) (vM key))).2.1=0+((xr (u8 92) (vM key)).length:Int):=rfl
 rw [qcF (qfY qsR _) b (by omega) (by omega)]
 refine (qG rfl).trans ?_
 dsimp only
 rw [qmE (qfY (qfY qsR _) _) (by omega),qCS]
 refine (qG rfl).trans ?_
 dsimp only
 have l4:=xN (xr (u8 54) (vM key)++b)
 rw [qcF (qfY qsR _) _ (by omega) (by omega)]
 refine (qG rfl).trans ?_
 dsimp only
 have n4:∀ y,(putD (putD iv (xr (u8 92) (vM key))) y).2.1=0+((xr (u8 92) (vM key)).length:Int)+(y.length:Int):=fun _=>rfl
 rw [qmE (qfY (qfY qsR _) _) (by rw [n4];omega),qCS]
 rfl
theorem qsG (key b:BB) (h:key.length≤1000000) (hb:b.length≤1000000):qkR (key,b,())=some (tagD key b,()):=by
 unfold qkR
 dsimp only
 rw [qoL _ (by omega)]
 refine (qG rfl).trans ?_
 dsimp only
 have hk:=qlX key
 unfold tagD
 generalize vM key=k at hk
 generalize hf:(fun (x:BB×BB×Int×Unit)=>(_:Option (LS (BB×BB×Int×Unit) (BB×Unit))))=f
 have x1:(xr (u8 54) k).length=64:=by rw [qcD,hk]
 have x2:(xr (u8 92) k).length=64:=by rw [qcD,hk]
 have tk:∀ (c:UInt8) (i:Nat) (hi:i < 64),app ((xr c k).take i) [u8 (xorI .u8 (n8 (nth k (nat (i:Int)) (u8 0))) (n8 c))]=(xr c k).take (i+1):=by
  intro c i hi
  have hx:(xr c k).length=64:=by rw [qcD,hk]
  rw [qV,qL (by omega:i < k.length),List.take_succ_eq_append_getElem (by omega)]
  unfold app
  congr 2
  simp [xr]
 have step:∀ i:Nat,i < 64→f ((xr (u8 54) k).take i,(xr (u8 92) k).take i,(i:Int),())=some (.nx ((xr (u8 54) k).take (i+1),(xr (u8 92) k).take (i+1),((i+1:Nat):Int),())):=by
  intro i hi
  subst hf
  have hi':i64 (iadd (i:Int) 1)=((i+1:Nat):Int):=i64n (by show (i:Int)+1=_;omega) (by omega)
  have h1:((xr (u8 54) k).take i).length=i:=by rw [List.length_take];omega
  have h2:((xr (u8 92) k).take i).length=i:=by rw [List.length_take];omega
  refine (qE (by simp only [go_sem,Int.reduceToNat];omega)).trans ?_
  refine (qH (by simp only [go_sem,Int.reduceToNat];omega)).trans ?_
  refine (qH (by simp only [go_sem,Int.reduceToNat];simp;omega)).trans ?_
  refine (qH (by simp only [go_sem,Int.reduceToNat];omega)).trans ?_
  refine (qH (by simp only [go_sem,Int.reduceToNat];simp;omega)).trans ?_
  dsimp only
  rw [hi',tk _ i hi,tk _ i hi]
 have hend:∀ u v,f (u,v,((64:Nat):Int),())=some (.ex 0 (u,v,((64:Nat):Int),())):=by subst hf;intro u v;exact qB rfl
 have hloop:=(qM (f:=f) (fun i=>((xr (u8 54) k).take i,(xr (u8 92) k).take i,(i:Int),())) 64 step 0 (Nat.zero_le _)).trans (qT (hend _ _))
 rw [List.take_of_length_le (show (xr (u8 54) k).length≤64 by omega),List.take_of_length_le (show (xr (u8 92) k).length≤64 by omega)] at hloop
 refine (qY (show loop f (none' UInt8,none' UInt8,0,())=_ from hloop)).trans ?_
 refine (qH g62).trans ?_
 dsimp only
 refine (qH (by simp only [go_sem,Int.reduceToNat];omega)).trans ?_
 rw [show app (xr (u8 54) k) b=xr (u8 54) k++b from rfl,wV _ (by rw [List.length_append];omega)]
 refine (qG rfl).trans ?_
 dsimp only
 have l4:=xN (xr (u8 54) k++b)
 refine (qH (by simp only [go_sem,Int.reduceToNat];omega)).trans ?_
 rw [show app (xr (u8 92) k) (qn7 (xr (u8 54) k++b))=xr (u8 92) k++qn7 (xr (u8 54) k++b) from rfl,wV _ (by rw [List.length_append];omega)]
 rfl
def qoM (p:BB):BB:=[u8 (shrI .i64 (len p) (n64 (u64 8))),u8 (len p)]++p
def tlD (l:List BB):BB:=l.flatMap qoM
def qa8 (label:BB) (l:List BB):BB:=[u8 (len label)]++label++tlD l
theorem qyH (p:BB):(qoM p).length=p.length+2:=by simp [qoM]
theorem qDI {l:List BB} (h:∀ p∈l,p.length≤1000):(tlD l).length≤1002*l.length:=by
 induction l with
 | nil=>simp [tlD]
 | cons p r ih =>
  have h1:=h p (by simp)
  have h2:=ih fun q hq=>h q (by simp [hq])
  unfold tlD at h2 ⊢
  rw [List.flatMap_cons,List.length_append,qyH,List.length_cons];omega
theorem qCt {l:List BB} {i:Nat} (hi:i < l.length):tlD (l.take (i+1))=tlD (l.take i)++qoM l[i]:=by
 unfold tlD
 rw [List.take_succ_eq_append_getElem hi,List.flatMap_append,List.flatMap_cons,List.flatMap_nil,List.append_nil]
theorem qbA {label:BB} {l:List BB} (h1:label.length≤255) (h2:l.length≤16) (h:∀ p∈l,p.length≤1000):(qa8 label l).length≤20000:=by
 have:=qDI h
 unfold qa8
 simp only [List.length_append,List.length_cons,List.length_nil];omega
def qq1 (key label:BB) (l:List BB):BB:=tagD key (qa8 label l)
theorem qiV (key label:BB) (l:List BB):(qq1 key label l).length=32:=qi4 _ _
theorem qqH (key label:BB) (l:List BB) (hk:key.length≤1000000) (h1:label.length≤255) (h2:l.length≤16) (h:∀ p∈l,p.length≤1000):qhY (key,label,l,())=some (qq1 key label l,0,()):=by
 unfold qhY
 dsimp only
 refine (qG (a:=(false,())) ((qB (by simp only [go_sem,Int.reduceToNat];omega)).trans (by rw [show lt 16 (len l)=false from lt_f (by simp only [go_sem,Int.reduceToNat];omega)]))).trans ?_
 refine (qB rfl).trans ?_
 refine (qH (by simp only [go_sem,Int.reduceToNat];simp;omega)).trans ?_
 generalize hf:(fun (x_1:Int×BB×Int×Unit)=>(_:Option (LS (Int×BB×Int×Unit) (BB×Int×Unit))))=f
 have hT:∀ i,(qa8 label (l.take i)).length≤20000:=fun i=>qbA h1 (by rw [List.length_take];omega) (fun p hp=>h p (List.mem_of_mem_take hp))
 have step:∀ i:Nat,i < l.length→f (0,qa8 label (l.take i),(i:Int),())=some (.nx (0,qa8 label (l.take (i+1)),((i+1:Nat):Int),())):=by
  intro i hi
  subst hf
  have hi':i64 (iadd (i:Int) 1)=((i+1:Nat):Int):=i64n (by show (i:Int)+1=_;omega) (by omega)
  have hp:=h l[i] (List.getElem_mem hi)
  have ht:=hT i
  have hn:nth l (nat (i:Int)) (none' UInt8)=l[i]:=by rw [qV,qL hi]
  refine (qE (by simp only [go_sem,Int.reduceToNat];omega)).trans ?_
  refine (qH (by simp only [go_sem,Int.reduceToNat];omega)).trans ?_
  dsimp only
  rw [hn]
  refine (qB (by simp only [go_sem,Int.reduceToNat];omega)).trans ?_
  refine (qH (by simp only [go_sem,Int.reduceToNat];simp;omega)).trans ?_
  refine (qH (by simp only [go_sem,Int.reduceToNat];simp;omega)).trans ?_
  rw [hi',show qa8 label (l.take (i+1))=qa8 label (l.take i)++qoM l[i] by unfold qa8;rw [qCt hi,List.append_assoc,List.append_assoc,List.append_assoc]]
  unfold qoM app
  rw [List.append_assoc]
 have hend:∀ u,f (0,u,(l.length:Int),())=some (.ex 0 (0,u,(l.length:Int),())):=by subst hf;intro u;exact qB (by simp only [go_sem,Int.reduceToNat];omega)
 have hloop:=(qM (f:=f) (fun i=>(0,qa8 label (l.take i),(i:Int),())) l.length step 0 (Nat.zero_le _)).trans (qT (hend _))
 rw [List.take_of_length_le (Nat.le_refl _)] at hloop
 have h0:qa8 label (l.take 0)=app [u8 (len label)] label:=by unfold qa8;rw [List.take_zero];exact List.append_nil _
 rw [h0] at hloop
 refine (qY (show loop f (0,app [u8 (len label)] label,0,())=_ from hloop)).trans ?_
 refine (qH g62).trans ?_
 dsimp only
 have:=qbA h1 h2 h
 rw [qnH _ _ hk (by omega)];rfl
theorem qp3 (label:BB) (l:List BB) (h1:label.length≤255) (h2:l.length≤16) (h:∀ p∈l,p.length≤1000):qhS (label,l,())=some (qa8 label l,()):=by
 unfold qhS
 dsimp only
 refine (qH (by simp only [go_sem,Int.reduceToNat];omega)).trans ?_
 refine (qH (by simp only [go_sem,Int.reduceToNat];simp;omega)).trans ?_
 generalize hf:(fun (x_1:BB×Int×Unit)=>(_:Option (LS (BB×Int×Unit) (BB×Unit))))=f
 have hT:∀ i,(qa8 label (l.take i)).length≤20000:=fun i=>qbA h1 (by rw [List.length_take];omega) (fun p hp=>h p (List.mem_of_mem_take hp))
 have step:∀ i:Nat,i < l.length→f (qa8 label (l.take i),(i:Int),())=some (.nx (qa8 label (l.take (i+1)),((i+1:Nat):Int),())):=by
  intro i hi
  subst hf
  have hi':i64 (iadd (i:Int) 1)=((i+1:Nat):Int):=i64n (by show (i:Int)+1=_;omega) (by omega)
  have hp:=h l[i] (List.getElem_mem hi)
  have ht:=hT i
  have hn:nth l (nat (i:Int)) (none' UInt8)=l[i]:=by rw [qV,qL hi]
  have q1:u8 (i64 (idiv (len l[i]) 256))=u8 (shrI .i64 (len l[i]) (n64 (u64 8))):=by
   have a1:idiv (len l[i]) 256=((l[i].length / 256:Nat):Int):=by rw [g31 (by simp only [go_sem,Int.reduceToNat];omega)];simp only [go_sem,Int.reduceToNat];omega
   have a2:shrI .i64 (len l[i]) (n64 (u64 8))=((l[i].length / 256:Nat):Int):=by show Int.fdiv (l[i].length:Int) (2 ^ 8)=_;rw [Int.fdiv_eq_ediv_of_nonneg _ (by decide)];omega
   rw [a1,a2,i64n rfl (by omega)]
  have q2:u8 (imod (len l[i]) 256)=u8 (len l[i]):=by
   rw [g32 (by simp only [go_sem,Int.reduceToNat];omega)];exact qCs (by simp only [go_sem,Int.reduceToNat];omega)
  refine (qE (by simp only [go_sem,Int.reduceToNat];omega)).trans ?_
  dsimp only
  rw [hn]
  refine (qH (by simp only [go_sem,Int.reduceToNat];omega)).trans ?_
  refine (qH (by simp only [go_sem,Int.reduceToNat];omega)).trans ?_
  refine (qH (by simp only [go_sem,Int.reduceToNat];simp;omega)).trans ?_
  refine (qH (by simp only [go_sem,Int.reduceToNat];omega)).trans ?_
  refine (qH (by simp only [go_sem,Int.reduceToNat];simp;omega)).trans ?_
  rw [hi',q1,q2,show qa8 label (l.take (i+1))=qa8 label (l.take i)++qoM l[i] by unfold qa8;rw [qCt hi,List.append_assoc,List.append_assoc,List.append_assoc]]
  unfold qoM app
  rw [List.append_assoc]
 have hend:∀ u,f (u,(l.length:Int),())=some (.ex 0 (u,(l.length:Int),())):=by subst hf;intro u;exact qB (by simp only [go_sem,Int.reduceToNat];omega)
 have hloop:=(qM (f:=f) (fun i=>(qa8 label (l.take i),(i:Int),())) l.length step 0 (Nat.zero_le _)).trans (qT (hend _))
 rw [List.take_of_length_le (Nat.le_refl _)] at hloop
 have h0:qa8 label (l.take 0)=app [u8 (len label)] label:=by unfold qa8;rw [List.take_zero];exact List.append_nil _
 rw [h0] at hloop
 refine (qY (show loop f (app [u8 (len label)] label,0,())=_ from hloop)).trans ?_
 exact qH g62
theorem qmK (key label:BB) (l:List BB) (hk:key.length≤1000000) (h1:label.length≤255) (h2:l.length≤16) (h:∀ p∈l,p.length≤1000):qbE (key,label,l,())=some (qq1 key label l,0,()):=by
 unfold qbE
 dsimp only
 refine (qG (a:=(false,())) ((qB (by simp only [go_sem,Int.reduceToNat];omega)).trans (by rw [show lt 16 (len l)=false from lt_f (by simp only [go_sem,Int.reduceToNat];omega)]))).trans ?_
 refine (qB rfl).trans ?_
 generalize hf:(fun (x_1:Int×Int×Unit)=>(_:Option (LS (Int×Int×Unit) (BB×Int×Unit))))=f
 have step:∀ i:Nat,i < l.length→f (0,(i:Int),())=some (.nx (0,((i+1:Nat):Int),())):=by
  intro i hi
  subst hf
  have hi':i64 (iadd (i:Int) 1)=((i+1:Nat):Int):=i64n (by show (i:Int)+1=_;omega) (by omega)
  have hp:=h l[i] (List.getElem_mem hi)
  have hn:nth l (nat (i:Int)) (none' UInt8)=l[i]:=by rw [qV,qL hi]
  refine (qE (by simp only [go_sem,Int.reduceToNat];omega)).trans ?_
  dsimp only
  rw [hn,hi']
  refine (qH (by simp only [go_sem,Int.reduceToNat];omega)).trans ?_
  exact qB (by simp only [go_sem,Int.reduceToNat];omega)
 have hend:f (0,(l.length:Int),())=some (.ex 0 (0,(l.length:Int),())):=by subst hf;exact qB (by simp only [go_sem,Int.reduceToNat];omega)
 have hloop:=(qM (f:=f) (fun i=>(0,(i:Int),())) l.length step 0 (Nat.zero_le _)).trans (qT hend)
 refine (qY (show loop f (0,0,())=_ from hloop)).trans ?_
 refine (qH g62).trans ?_
 rw [qp3 _ _ h1 h2 h]
 refine (qG rfl).trans ?_
 dsimp only
 have:=qbA h1 h2 h
 rw [qsG _ _ hk (by omega)];rfl
def qkE (k b:BB):BB:=(tagD k b).take 16
theorem quZ (k b:BB):(qkE k b).length=16:=by unfold qkE;rw [List.length_take,qi4];rfl
theorem qfZ (k b:BB) (hk:k.length≤1000000) (hb:b.length≤1000000):qcS (k,b,())=some (qkE k b,()):=by
 unfold qcS
 dsimp only
 rw [qnH _ _ hk hb]
 refine (qG rfl).trans ?_
 dsimp only
 have:=qi4 k b
 refine (qH (by simp only [go_sem,Int.reduceToNat];omega)).trans ?_
 rfl
abbrev ET:=BB×BB×Unit
theorem qu5 (p:qcA) (k b:BB):qoV (p,k,b,())=some (D ((k,b,())∈p.2.1),()):=by
 unfold qoV
 congr 2
 refine qg5 ?_
 rw [List.any_eq_true]
 constructor
 ·rintro ⟨⟨e1,e2,⟨⟩⟩,he,h⟩
  simp only [band,seq,Bool.and_eq_true,beq_iff_eq] at h
  rw [h.1,h.2];exact he
 ·intro h
  exact ⟨_,h,by simp [band,seq]⟩
def ptag (p:qcA) (k b:BB):qcA:=if (k,b,())∈p.2.1 then p else (p.1,p.2.1++[(k,b,())],p.2.2)
theorem qAO {α:Type} (l:List α):sub l 0 (len l)=l:=by
 unfold sub
 rw [show (0:Int).toNat=0 from rfl,List.drop_zero,show (len l).toNat=l.length from qV,List.take_of_length_le (by omega)]
theorem qBD {α:Type} (l:List α):band (inC 0 (len l) (len l)) (beq (len l) (len l))=true:=by
 rw [qjU rfl,g37];simp only [go_sem,Int.reduceToNat];omega
theorem qEe (l:List ET):zJ (l,())=some (l,()):=by
 unfold zJ
 dsimp only
 rw [qAO]
 exact qH (qBD l)
theorem qe9 (l:BB) (h:l.length≤1000000):qa7 (l,())=some (l,()):=by
 unfold qa7
 exact qH (by simp only [go_sem,Int.reduceToNat];omega)
theorem qu4 (p:qcA) (k b:BB) (hl:p.2.1.length≤1000000) (hk:k.length≤1000000) (hb:b.length≤1000000):qoU (p,k,b,())=some (ptag p k b,qkE k b,()):=by
 unfold qoU
 dsimp only
 rw [qu5]
 refine (qG rfl).trans ?_
 unfold ptag
 by_cases h:(k,b,())∈p.2.1
 ·rw [D_t h,if_pos h]
  refine (qB rfl).trans ?_
  rw [qfZ _ _ hk hb];rfl
 ·rw [D_f h,if_neg h]
  refine (qE rfl).trans ?_
  rw [qEe]
  refine (qG rfl).trans ?_
  rw [qe9 _ hk]
  refine (qG rfl).trans ?_
  rw [qe9 _ hb]
  refine (qG rfl).trans ?_
  refine (qH (by simp only [go_sem,Int.reduceToNat];simp;omega)).trans ?_
  rw [qfZ _ _ hk hb];rfl
theorem qKS (p:qcA) (k b:BB):(ptag p k b).2.1.length≤p.2.1.length+1:=by
 unfold ptag
 split
 ·omega
 ·simp
theorem qp2 (p:qcA) (hl:p.2.1.length≤1000000):qcN (p,p,())=some (true,()):=by
 unfold qcN
 dsimp only
 have e1:∀ b:Bool,beb b b=true:=fun b=>by cases b <;> rfl
 rw [e1,e1,qjU rfl]
 refine (qG (a:=(false,())) rfl).trans ?_
 refine (qB rfl).trans ?_
 generalize p.2.1=l at hl
 generalize hf:(fun (x_1:Bool×Int×Unit)=>(_:Option (LS (Bool×Int×Unit) (Bool×Unit))))=f
 have step:∀ i:Nat,i < l.length→f (false,(i:Int),())=some (.nx (false,((i+1:Nat):Int),())):=by
  intro i hi
  subst hf
  have hi':i64 (iadd (i:Int) 1)=((i+1:Nat):Int):=i64n (by show (i:Int)+1=_;omega) (by omega)
  refine (qE (by simp (disch:=omega) only [go_sem,Int.reduceToNat];omega)).trans ?_
  dsimp only
  rw [hi']
  simp (disch:=omega) only [go_sem,Int.reduceToNat,z3]
 have hend:f (false,(l.length:Int),())=some (.ex 0 (false,(l.length:Int),())):=by subst hf;exact qB (by simp (disch:=omega) only [go_sem,Int.reduceToNat];omega)
 have hloop:=(qM (f:=f) (fun i=>(false,(i:Int),())) l.length step 0 (Nat.zero_le _)).trans (qT hend)
 refine (qY (show loop f (false,0,())=_ from hloop)).trans ?_
 exact qH g62
def fewP (p:qcA) (most:Int):Prop:=(p.2.1.length:Int)≤most∧∀ e∈p.2.1,e.1.length≤100∧e.2.1.length≤2000
theorem qsF (p:qcA) (most:Int) (hm:most≤1000000):qfU (p,most,())=some (D (fewP p most),()):=by
 unfold qfU fewP
 dsimp only
 generalize p.2.1=l
 by_cases h0:(l.length:Int)≤most
 ·refine (qB (by simp (disch:=first | assumption | omega | (dsimp only;omega) | decide) only [go_sem,Int.reduceToNat];omega)).trans ?_
  generalize hf:(fun (x_1:Bool×Int×Unit)=>(_:Option (LS (Bool×Int×Unit) (Bool×Unit))))=f
  have hsame:∀ (i:Nat) (h:i < l.length),nth l (nat (i:Int)) (none' UInt8,none' UInt8,())=l[i]:=fun i h=>by rw [qV,qL h]
  have key:=qd9 (f:=f) l (fun i=>(false,(i:Int),())) 0 ((false,()):Bool×Unit) (fun e=>e.1.length≤100∧e.2.1.length≤2000) (fun i h hp => ?_) (fun i h hp => ?_) ?_
  ·rcases key with ⟨h,hl⟩ | ⟨h,hl⟩
   ·refine (qY (show loop f (false,0,())=_ from hl)).trans ?_
    refine (qH g62).trans ?_
    rw [D_t ⟨h0,h⟩]
   ·refine (qY (show loop f (false,0,())=_ from hl)).trans ?_
    rw [D_f (fun hm=>h hm.2)];rfl
  ·subst hf
   have hi':i64 (iadd (i:Int) 1)=((i+1:Nat):Int):=i64n (by show (i:Int)+1=_;omega) (by omega)
   refine (qE (by simp (disch:=omega) only [go_sem,Int.reduceToNat];omega)).trans ?_
   dsimp only
   rw [hsame i h,hi']
   obtain ⟨p1,p2⟩:=hp
   simp (disch:=omega) only [go_sem,Int.reduceToNat]
  ·subst hf
   refine (qE (by simp (disch:=omega) only [go_sem,Int.reduceToNat];omega)).trans ?_
   dsimp only
   rw [hsame i h]
   by_cases h1:l[i].1.length≤100
   ·have h2:¬ l[i].2.1.length≤2000:=fun h2=>hp ⟨h1,h2⟩
    simp (disch:=omega) only [go_sem,Int.reduceToNat]
   ·simp (disch:=omega) only [go_sem,Int.reduceToNat]
  ·subst hf
   exact qB (by simp (disch:=omega) only [go_sem,Int.reduceToNat];omega)
 ·refine (qE (by simp (disch:=omega) only [go_sem,Int.reduceToNat];omega)).trans ?_
  rw [D_f (fun h=>h0 h.1)]
def big8 (n:Int):BB:=ps 256 byt n.toNat 8
theorem qrV (n:Int):(big8 n).length=8:=zF _ _ _ _
def recD (n:Int):BB:=big8 n++(qn7 ([u8 121,u8 101,u8 116,u8 116]++big8 n)).take 8
theorem qA7 (n:Int):(recD n).length=16:=by unfold recD;rw [List.length_append,qrV,List.length_take,xN];rfl
def qJY (n:Int):Prop:=1≤n∧n≤4611686018427387904
theorem qLX {n:Int} (h:qJY n):((1:Int)≤8∧(8:Int)≤8∧0≤n∧n < 256 ^ (8:Int).toNat):=by
 obtain ⟨h1,h2⟩:=h
 refine ⟨by omega,by omega,by omega, ?_⟩
 show n < 256 ^ 8
 omega
theorem qmJ (n:Int) (hn:n≤9223372036854775807):qbD (n,())=some (if 1≤n∧n≤4611686018427387904 then (recD n,0,()) else ([],1,())):=by
 unfold qbD
 dsimp only
 by_cases h:1≤n∧n≤4611686018427387904
 ·rw [if_pos h]
  refine (qG (a:=(false,())) ((qB (by simp only [go_sem,Int.reduceToNat];omega)).trans (by rw [show lt 4611686018427387904 n=false from lt_f (by omega)]))).trans ?_
  refine (qB rfl).trans ?_
  rw [qiL _ _ hn,if_pos (qLX h)]
  refine (qG rfl).trans ?_
  dsimp only
  rw [show ps 256 byt n.toNat (8:Int).toNat=big8 n from rfl]
  have:=qrV n
  refine (qH (by simp only [go_sem,Int.reduceToNat];simp;omega)).trans ?_
  rw [show app [u8 121,u8 101,u8 116,u8 116] (big8 n)=[u8 121,u8 101,u8 116,u8 116]++big8 n from rfl,wV _ (by simp;omega)]
  refine (qG rfl).trans ?_
  dsimp only
  have h2:=xN ([u8 121,u8 101,u8 116,u8 116]++big8 n)
  refine (qH (by simp only [go_sem,Int.reduceToNat];omega)).trans ?_
  refine (qH (by simp only [go_sem,Int.reduceToNat];omega)).trans ?_
  rw [show cut (qn7 ([u8 121,u8 101,u8 116,u8 116]++big8 n)) (nat 0) (nsub (nat 8) (nat 0))=(qn7 ([u8 121,u8 101,u8 116,u8 116]++big8 n)).take 8 from rfl,show app (none' UInt8) (big8 n)=big8 n from rfl]
  refine (qH (by simp only [go_sem,Int.reduceToNat];simp;omega)).trans ?_
  rfl
 ·rw [if_neg h]
  by_cases h1:n < 1
  ·refine (qG (a:=(true,())) (qE (by simp only [go_sem,Int.reduceToNat];omega))).trans ?_
   rfl
  ·refine (qG (a:=(true,())) ((qB (by simp only [go_sem,Int.reduceToNat];omega)).trans (by rw [show lt 4611686018427387904 n=true from lt_t (by omega)]))).trans ?_
   rfl
abbrev ST:=BB×BB×Unit
def qCJ (s:ST):Prop:=s.1.length=16∧s.2.1.length=16
def newS:ST:=(recD 1,List.replicate 16 (u8 0),())
theorem qr9:qfS ()=some (newS,()):=by
 unfold qfS
 rw [qmJ _ (by decide),if_pos (by decide)]
 rfl
theorem qoC (s:ST):qdR (s,())=some (D (qCJ s),()):=by
 unfold qdR qCJ
 by_cases h:s.1.length=16
 ·simp only [go_sem,Int.reduceToNat,h];exact zW (by omega)
 ·rw [D_f (fun h'=>h h'.1)];simp (disch:=omega) only [go_sem,Int.reduceToNat];try omega
theorem qpV (s:ST):qhL (s,s,())=some (true,()):=by
 unfold qhL
 simp only [go_sem,Int.reduceToNat,z3]
theorem qsA (s:ST):qkL (s,())=some (D (s.1.length≤100∧s.2.1.length≤100),()):=by
 unfold qkL
 by_cases h:s.1.length≤100
 ·simp only [go_sem,Int.reduceToNat];exact zW (by omega)
 ·rw [D_f (fun h'=>h h'.1)];simp (disch:=omega) only [go_sem,Int.reduceToNat];try omega
def zH (p:Int):Prop:=2≤p∧p≤6
def qeM (p:Int):Prop:=p=3∨p=4∨p=5
instance (p:Int):Decidable (zH p):=by unfold zH;infer_instance
instance (p:Int):Decidable (qeM p):=by unfold qeM;infer_instance
def qBi (p:Int):Int:=if p=0 then 0 else if p=1 then 1 else if p=2 then 2 else if p=3 then 3 else if p=4 then 4 else if p=5 then 4 else if p=6 then 5 else -1
theorem qaP (p:Int):yO (p,())=some (qBi p,()):=by
 unfold yO qBi
 by_cases h0:p=0
 ·subst h0;rfl
 by_cases h1:p=1
 ·subst h1;rfl
 by_cases h2:p=2
 ·subst h2;rfl
 by_cases h3:p=3
 ·subst h3;rfl
 by_cases h4:p=4
 ·subst h4;rfl
 by_cases h5:p=5
 ·subst h5;rfl
 by_cases h6:p=6
 ·subst h6;rfl
 rw [if_neg h0,if_neg h1,if_neg h2,if_neg h3,if_neg h4,if_neg h5,if_neg h6]
 simp (disch:=omega) only [go_sem,Int.reduceToNat]
theorem qJI (p:Int):2≤qBi p↔zH p:=by
 unfold qBi zH
 repeat' split
 all_goals omega
theorem qHC (p:Int):qBi p=3∨qBi p=4↔qeM p:=by
 unfold qBi qeM
 repeat' split
 all_goals omega
theorem qmM (p:Int):qbG (p,())=some (D (zH p),()):=by
 unfold qbG
 rw [qaP]
 simp only [go_sem,Int.reduceToNat,qJI]
theorem qaQ (p:Int):w9 (p,())=some (D (qeM p),()):=by
 unfold w9
 rw [qaP]
 simp only [go_sem,Int.reduceToNat,qaP,qHC]
theorem yJ (p:Int):vY (p,())=some (D (zH p),()):=by
 unfold vY zH
 simp only [go_sem,Int.reduceToNat]
theorem qfR (p:Int):qhK (p,())=some (D (qeM p),()):=by
 unfold qhK qeM
 simp only [go_sem,Int.reduceToNat]
 exact zW or_assoc
def qv1 (c s:Int) (b:BB):Prop:=kQ c∧1≤s∧s≤999999∧1≤b.length∧b.length≤900
instance (c s:Int) (b:BB):Decidable (qv1 c s b):=by unfold qv1;infer_instance
theorem qtB (c:Int):ql1 (c,())=some (D (kQ c),()):=by
 unfold ql1 kQ
 by_cases h1:c=1
 ·subst h1;simp only [go_sem,Int.reduceToNat]
 by_cases h2:c=2
 ·subst h2;simp (disch:=omega) only [go_sem,Int.reduceToNat]
 by_cases h3:c=101
 ·subst h3;simp (disch:=omega) only [go_sem,Int.reduceToNat]
 by_cases h4:c=201
 ·subst h4;simp (disch:=omega) only [go_sem,Int.reduceToNat]
 simp only [go_sem,Int.reduceToNat,h1,h2,h3,h4]
theorem qw6 (c s:Int) (b:BB):qo4 (c,s,b,())=some (D (qv1 c s b),()):=by
 unfold qo4 qv1
 rw [qtB]
 by_cases hk:kQ c
 ·simp only [go_sem,Int.reduceToNat,hk];exact zW (by omega)
 ·rw [D_f (p:=_∧_) (fun h=>hk h.1)];simp only [go_sem,Int.reduceToNat,hk]
theorem qpS (c s:Int) (b:BB):qhH (c,s,b,())=some (D (qv1 c s b),()):=by
 unfold qhH qv1
 rw [qeZ]
 by_cases hk:kQ c
 ·simp only [go_sem,Int.reduceToNat,hk];exact zW (by omega)
 ·rw [D_f (p:=_∧_) (fun h=>hk h.1)];simp only [go_sem,Int.reduceToNat,hk]
def noA:TAsk:=(0,0,0,0,[],())
def qrW (c s:Int) (b:BB):TAsk×Int×Unit:=if qv1 c s b then ((c,s,8,3,b,()),0,()) else (noA,1,())
theorem qtC (c s:Int) (b:BB):ql2 (c,s,b,())=some (qrW c s b):=by
 unfold ql2 qrW
 rw [qw6]
 by_cases h:qv1 c s b
 ·rw [D_t h,if_pos h];rfl
 ·rw [D_f h,if_neg h];rfl
theorem qpU (a:TAsk):qhJ (a,())=some (D (a=noA),()):=by
 obtain ⟨c,s,d,l,b,⟨⟩⟩:=a
 unfold qhJ noA
 simp only [go_sem,Int.reduceToNat]
 refine zW ?_
 simp only [Prod.mk.injEq,and_true]
 have hb:(b.length:Int)=0↔b=[]:=by rw [← List.length_eq_zero_iff];omega
 rw [hb]
 constructor
 ·rintro ⟨⟨⟨⟨h1,h2⟩,h3⟩,h4⟩,h5⟩;exact ⟨h1,h2,h3,h4,h5⟩
 ·rintro ⟨h1,h2,h3,h4,h5⟩;exact ⟨⟨⟨⟨h1,h2⟩,h3⟩,h4⟩,h5⟩
theorem qw5 (a:TAsk):qo3 (a,())=some (D (a=noA),()):=by
 obtain ⟨c,s,d,l,b,⟨⟩⟩:=a
 unfold qo3 qw8 noA
 simp only [go_sem,Int.reduceToNat,qe8]
 refine zW ?_
 simp only [Prod.mk.injEq,and_true]
 constructor
 ·rintro ⟨⟨⟨⟨h1,h2⟩,h3⟩,h4⟩,h5⟩;exact ⟨h1,h2,h3,h4,h5⟩
 ·rintro ⟨h1,h2,h3,h4,h5⟩;exact ⟨⟨⟨⟨h1,h2⟩,h3⟩,h4⟩,h5⟩
def qtW (a:TAsk) (c s:Int):Prop:=¬ a=noA∧a.1=c∧a.2.1=s
theorem qtA (a:TAsk) (c s:Int):ql0 (a,c,s,())=some (D (qtW a c s),()):=by
 unfold ql0 qtW
 rw [qw5]
 simp only [go_sem,Int.reduceToNat]
def qCK (a:TAsk):Prop:=a=noA∨qv1 a.1 a.2.1 a.2.2.2.2.1∧1≤a.2.2.1∧a.2.2.1≤8∧0≤a.2.2.2.1∧a.2.2.2.1≤3
theorem qoB (a:TAsk):qdQ (a,())=some (D (qCK a),()):=by
 unfold qdQ qCK
 rw [qpU]
 simp only [go_sem,Int.reduceToNat,qpS]
 refine zW ?_
 simp only [and_assoc]
theorem qpT (a:TAsk):qhI (a,a,())=some (true,()):=by
 unfold qhI
 simp only [go_sem,Int.reduceToNat,z3]
def yF (n:Int):Int:=if n < 0∨999999≤n then 1 else n+1
theorem qw7 (n:Int):qo5 (n,())=some (yF n,()):=by
 unfold qo5 yF
 by_cases h:n < 0∨999999≤n
 ·rw [if_pos h];simp (disch:=omega) only [go_sem,Int.reduceToNat]
 ·rw [if_neg h];simp (disch:=omega) only [go_sem,Int.reduceToNat]
def qKT (u:List Bool) (n:Nat):Option Nat:=((List.range 4).map fun i=>(n+i) % 4).find? fun c=>u.getD c false
def wW (h:THub):THub×Int×Int×Unit:=match qKT h.1 h.2.2.2.1.toNat with | none=>(h,0,11,()) | some c=>((h.1,h.2.1,h.2.2.1,(((c+1) % 4:Nat):Int),()),(c:Int),0,())
theorem four {α:Type} {w:List α} (h:w.length=4):∃ a b c d,w=[a,b,c,d]:=by
 match w,h with
 | [a,b,c,d],_=>exact ⟨a,b,c,d,rfl⟩
theorem qvT (h:THub) (hu:h.1.length=4) (hn:0≤h.2.2.2.1∧h.2.2.2.1 < 4):qo1 (h,())=some (wW h):=by
 obtain ⟨u,f,l,n,⟨⟩⟩:=h
 dsimp only at hu hn
 obtain ⟨a,b,c,d,rfl⟩:=four hu
 have:n=0∨n=1∨n=2∨n=3:=by omega
 unfold qo1
 rcases this with rfl | rfl | rfl | rfl <;> cases a <;> cases b <;> cases c <;> cases d <;> (refine (qY (qjH 5 rfl)).trans ?_;kernel_rfl)
theorem qqS (b:BB) (h:1≤b.length∧b.length≤1024):qh3 (b,())=some (qoM b,0,()):=by
 unfold qh3
 refine (qG (a:=(false,())) ((qB (by simp only [go_sem,Int.reduceToNat];omega)).trans (by rw [show lt 1024 (len b)=false from lt_f (by simp only [go_sem,Int.reduceToNat];omega)]))).trans ?_
 refine (qB rfl).trans ?_
 refine (qH (by simp only [go_sem,Int.reduceToNat];simp;omega)).trans ?_
 rfl
abbrev GT:=Int×BB×Unit
def noG:GT:=(0,[],())
def noR:qa9:=(noG,noG,noG,0,0,())
theorem qLQ (g:GT):(g.1=0∧(g.2.1.length:Int)=0)↔g=noG:=by
 obtain ⟨n,k,⟨⟩⟩:=g
 unfold noG
 have hb:(k.length:Int)=0↔k=[]:=by rw [← List.length_eq_zero_iff];omega
 simp only [Prod.mk.injEq,and_true,hb]
theorem qaJ (g:GT):vZ (g,())=some (D (g=noG),()):=by
 unfold vZ
 simp only [go_sem,Int.reduceToNat]
 exact zW (qLQ g)
def qcP (g:GT):Prop:=1≤g.1∧g.1≤2147483647∧g.2.1.length=32
instance (g:GT):Decidable (qcP g):=by unfold qcP;infer_instance
theorem qaI (g:GT):w8 (g,())=some (D (qcP g),()):=by
 unfold w8 qcP
 simp only [go_sem,Int.reduceToNat]
 exact zW (by omega)
theorem qLP (r:qa9):(r.1=noG∧r.2.1=noG∧r.2.2.1=noG∧r.2.2.2.1=0∧r.2.2.2.2.1=0)↔r=noR:=by
 obtain ⟨a,b,c,l,t,⟨⟩⟩:=r
 unfold noR
 simp only [Prod.mk.injEq,and_true]
theorem qe0 (r:qa9):qaK (r,())=some (D (r=noR),()):=by
 unfold qaK
 simp only [go_sem,Int.reduceToNat,qaJ]
 refine zW (Iff.trans ?_ (qLP r))
 simp only [and_assoc]
def newR (k:BB):qa9×Int×Unit:=if k.length=32 then (((1,k,()),noG,noG,0,1,()),0,()) else (noR,1,())
theorem qsB (k:BB):qkM (k,())=some (newR k):=by
 unfold qkM newR
 by_cases h:k.length=32
 ·rw [if_pos h];simp (disch:=omega) only [go_sem,Int.reduceToNat];rfl
 ·rw [if_neg h];simp (disch:=omega) only [go_sem,Int.reduceToNat];rfl
def qkF (r:qa9):Prop:=r=noR∨(qcP r.1∧r.2.2.2.2.1≤2147483647∧r.1.1≤r.2.2.2.2.1∧r.2.2.1.1≤r.2.2.2.2.1 ∧
 (r.2.1=noG∧r.2.2.2.1=0∨¬ r.2.1=noG∧qcP r.2.1∧r.2.1.1 < r.1.1∧1≤r.2.2.2.1∧r.2.2.2.1≤16)∧(r.2.2.1=noG∨qcP r.2.2.1∧r.1.1 < r.2.2.1.1))
theorem qoD (r:qa9):qdS (r,())=some (D (qkF r),()):=by
 unfold qdS qkF
 dsimp only
 rw [qe0]
 refine (qG rfl).trans ?_
 by_cases h0:r=noR
 ·rw [D_t h0,D_t (.inl h0)];rfl
 ·rw [D_f h0]
  refine (qB rfl).trans ?_
  rw [qaI]
  refine (qG rfl).trans ?_
  by_cases h1:qcP r.1∧r.2.2.2.2.1≤2147483647∧r.1.1≤r.2.2.2.2.1∧r.2.2.1.1≤r.2.2.2.2.1
  ·obtain ⟨a1,a2,a3,a4⟩:=h1
   refine (qG (a:=(false,())) (by simp (disch:=first | assumption | omega | (dsimp only;omega) | decide) only [go_sem,Int.reduceToNat,a1];try exact qdK (by omega))).trans ?_
   refine (qB rfl).trans ?_
   rw [qaJ,qaI,qaJ,qaI]
   refine (qG rfl).trans ?_
   refine (qG rfl).trans ?_
   refine (qG rfl).trans ?_
   refine (qG rfl).trans ?_
   dsimp only
   by_cases h2:r.2.1=noG
   ·by_cases h3:r.2.2.2.1=0
    ·simp (disch:=first | assumption | omega | (dsimp only;omega) | decide) only [go_sem,Int.reduceToNat,h2,h3,a1,a2,a3,a4,h0]
    ·have:¬ (r=noR∨(qcP r.1∧r.2.2.2.2.1≤2147483647∧r.1.1≤r.2.2.2.2.1∧r.2.2.1.1≤r.2.2.2.2.1∧(r.2.1=noG∧r.2.2.2.1=0∨¬ r.2.1=noG∧qcP r.2.1∧r.2.1.1 < r.1.1∧1≤r.2.2.2.1∧r.2.2.2.1≤16)∧(r.2.2.1=noG∨qcP r.2.2.1∧r.1.1 < r.2.2.1.1))):=by
      rintro (h | ⟨_,_,_,_,h | h,_⟩)
      ·exact h0 h
      ·exact h3 h.2
      ·exact h.1 h2
     rw [D_f this]
     simp (disch:=first | assumption | omega | (dsimp only;omega) | decide) only [go_sem,Int.reduceToNat,h2,h3]
   ·by_cases h3:qcP r.2.1∧r.2.1.1 < r.1.1∧1≤r.2.2.2.1∧r.2.2.2.1≤16
    ·obtain ⟨b1,b2,b3,b4⟩:=h3
     simp (disch:=omega) only [go_sem,Int.reduceToNat,h2,b1,b2,b3,b4,a1,a2,a3,a4,h0]
    ·have:¬ (r=noR∨(qcP r.1∧r.2.2.2.2.1≤2147483647∧r.1.1≤r.2.2.2.2.1∧r.2.2.1.1≤r.2.2.2.2.1∧(r.2.1=noG∧r.2.2.2.1=0∨¬ r.2.1=noG∧qcP r.2.1∧r.2.1.1 < r.1.1∧1≤r.2.2.2.1∧r.2.2.2.1≤16)∧(r.2.2.1=noG∨qcP r.2.2.1∧r.1.1 < r.2.2.1.1))):=by
      rintro (h | ⟨_,_,_,_,h | h,_⟩)
      ·exact h0 h
      ·exact h2 h.1
      ·exact h3 h.2
     rw [D_f this]
     by_cases c1:qcP r.2.1
     ·have c2:¬ (r.2.1.1 < r.1.1∧1≤r.2.2.2.1∧r.2.2.2.1≤16):=fun h=>h3 ⟨c1,h⟩
      refine (qG (a:=(true,())) (by simp (disch:=omega) only [go_sem,Int.reduceToNat,h2,c1];try exact qiG (by omega))).trans ?_
      rfl
     ·simp (disch:=omega) only [go_sem,Int.reduceToNat,h2,c1]
  ·have:¬ (r=noR∨(qcP r.1∧r.2.2.2.2.1≤2147483647∧r.1.1≤r.2.2.2.2.1∧r.2.2.1.1≤r.2.2.2.2.1∧(r.2.1=noG∧r.2.2.2.1=0∨¬ r.2.1=noG∧qcP r.2.1∧r.2.1.1 < r.1.1∧1≤r.2.2.2.1∧r.2.2.2.1≤16)∧(r.2.2.1=noG∨qcP r.2.2.1∧r.1.1 < r.2.2.1.1))):=by
    rintro (h | ⟨b1,b2,b3,b4,_⟩)
    ·exact h0 h
    ·exact h1 ⟨b1,b2,b3,b4⟩
   rw [D_f this]
   by_cases c1:qcP r.1
   ·have c2:¬ (r.2.2.2.2.1≤2147483647∧r.1.1≤r.2.2.2.2.1∧r.2.2.1.1≤r.2.2.2.2.1):=fun h=>h1 ⟨c1,h⟩
    refine (qG (a:=(true,())) (by simp (disch:=omega) only [go_sem,Int.reduceToNat,c1];try exact qiG (by omega))).trans ?_
    rfl
   ·simp (disch:=omega) only [go_sem,Int.reduceToNat,c1]
theorem qpW (r:qa9):qhM (r,r,())=some (true,()):=by
 unfold qhM kI
 simp only [go_sem,Int.reduceToNat,z3]
def fewR (r:qa9):Prop:=r.1.2.1.length≤100∧r.2.1.2.1.length≤100∧r.2.2.1.2.1.length≤100
theorem qsC (r:qa9):qkN (r,())=some (D (fewR r),()):=by
 unfold qkN fewR
 simp only [go_sem,Int.reduceToNat]
 exact zW (by omega)
def jO (n:Int):Prop:=0≤n∧n≤4611686018427387904
instance (n:Int):Decidable (jO n):=by unfold jO;infer_instance
def e0 (v:TEnv):Int:=nth v.2.2.1 0 0
def e1 (v:TEnv):Int:=nth v.2.2.1 1 0
def qkW (v:TEnv):Prop:=(v.1=1∨v.1=2)∧jO (e0 v)∧jO (e1 v)∧jO v.2.2.2.2.1∧(v.2.1=0∨v.2.1=1)∧(0≤v.2.2.2.1∧v.2.2.2.1≤2147483647)∧1≤v.2.2.2.2.2.1.length∧v.2.2.2.2.2.1.length≤900
theorem qa4 (n hi:Int):qaC (n,hi,())=some (D (0≤n∧n≤hi),()):=by
 unfold qaC
 simp only [go_sem,Int.reduceToNat]
theorem qiS (v:TEnv):qgN (v,())=some (D (qkW v),()):=by
 obtain ⟨k,d,e,g,s,b,t,⟨⟩⟩:=v
 unfold qgN qkW e0 e1
 dsimp only
 by_cases hk:k=1∨k=2
 ·refine (qG (a:=(false,())) (by rcases hk with rfl | rfl <;> rfl)).trans ?_
  refine (qB rfl).trans ((qH rfl).trans ((qH rfl).trans ?_))
  rw [show nat 0=0 from rfl,show nat 1=1 from rfl]
  generalize nth e 0 0=x
  generalize nth e 1 0=y
  generalize hf:(fun (x_1:Bool×Int×Unit)=>(_:Option (LS (Bool×Int×Unit) (Bool×Unit))))=f
  have key:=qd9 (f:=f) [x,y,s] (fun i=>(false,(i:Int),())) 0 ((false,()):Bool×Unit) jO (fun i h hp => ?_) (fun i h hp => ?_) ?_
  ·rcases key with ⟨h,hl⟩ | ⟨h,hl⟩
   ·refine (qY (show loop f (false,0,())=_ from hl)).trans ?_
    refine (qH g62).trans ?_
    have h1:=h x (by simp)
    have h2:=h y (by simp)
    have h3:=h s (by simp)
    simp only [go_sem,Int.reduceToNat,qa4]
    refine zW ?_
    simp only [hk,h1,h2,h3,true_and]
    omega
   ·refine (qY (show loop f (false,0,())=_ from hl)).trans ?_
    rw [D_f (fun hc=>h fun z hz => ?_)]
    ·rfl
    ·simp only [List.mem_cons,List.not_mem_nil,or_false] at hz
     rcases hz with rfl | rfl | rfl
     ·exact hc.2.1
     ·exact hc.2.2.1
     ·exact hc.2.2.2.1
  ·subst hf
   have h3:i < 3:=h
   have hi':i64 (iadd (i:Int) 1)=((i+1:Nat):Int):=i64n (by show (i:Int)+1=_;omega) (by omega)
   refine (qE (by simp only [go_sem,Int.reduceToNat];omega)).trans ?_
   refine (qH (by simp only [go_sem,Int.reduceToNat];omega)).trans ?_
   dsimp only
   rw [hi',qV,qL h,qa4,D_t (show 0≤[x,y,s][i]∧[x,y,s][i]≤4611686018427387904 from hp)];rfl
  ·subst hf
   have h3:i < 3:=h
   refine (qE (by simp only [go_sem,Int.reduceToNat];omega)).trans ?_
   refine (qH (by simp only [go_sem,Int.reduceToNat];omega)).trans ?_
   dsimp only
   rw [qV,qL h,qa4,D_f (show ¬ (0≤[x,y,s][i]∧[x,y,s][i]≤4611686018427387904) from hp)];rfl
  ·subst hf
   exact qB rfl
 ·rw [D_f (fun h=>hk h.1)]
  simp only [not_or] at hk
  obtain ⟨h1,h2⟩:=hk
  refine (qG (a:=(true,())) (by simp only [go_sem,Int.reduceToNat,h1,h2])).trans ?_
  rfl
def bigN (w:Nat) (n:Int):BB:=ps 256 byt n.toNat w
theorem jN (w:Nat) (n:Int):(bigN w n).length=w:=zF _ _ _ _
def vP (v:TEnv):BB:=bigN 1 v.1++bigN 1 v.2.1++bigN 8 (e0 v)++bigN 8 (e1 v)++bigN 4 v.2.2.2.1++bigN 8 v.2.2.2.2.1++v.2.2.2.2.2.1
theorem qlA (v:TEnv):(vP v).length=30+v.2.2.2.2.2.1.length:=by unfold vP;simp only [List.length_append,jN]
theorem qH3 {n:Int} {w:Nat} (h1:1≤w) (h8:w≤8) (h0:0≤n) (h:n < 256 ^ w) (hn:n≤9223372036854775807):qeQ (n,(w:Int),())=some (bigN w n,0,()):=by
 rw [qzP _ _ hn,if_pos ⟨by omega,by omega,h0,by rw [Int.toNat_natCast];exact h⟩,Int.toNat_natCast];rfl
theorem qoZ {f:Int×BB×Unit→Option (LS (Int×BB×Unit) Unit)} (w:Nat) (l:List Int) (acc:BB) (h1:1≤w) (h8:w≤8) (hl:l.length≤10) (ha:acc.length≤1000) (h:∀ n∈l,0≤n∧n < 256 ^ w∧n≤9223372036854775807)
  (hf:f=fun (x_1:Int×BB×Unit)=>sel (lt x_1.1 (len l)) (ck (inB x_1.1 (len l)) (ob (qeQ (nth l (nat x_1.1) 0,(w:Int),())) fun (a:BB×Int×Unit)=>ck (rm 1 (nadd (ln x_1.2.1) (ln a.1))) (some (LS.nx (i64 (iadd x_1.1 1),app x_1.2.1 a.1,()))))) (some (LS.ex 0 (x_1.1,x_1.2.1,())))) :
  loop f (0,acc,())=some (.ex 0 ((l.length:Int),acc++l.flatMap (bigN w),())):=by
 have hL:∀ i,((l.take i).flatMap (bigN w)).length≤8*i:=by
  intro i
  rw [List.length_flatMap]
  have:((l.take i).map fun a=>(bigN w a).length)=(l.take i).map fun _=>w:=List.map_congr_left fun a _=>jN w a
  rw [this,List.map_const',List.sum_replicate_nat,List.length_take]
  have:min i l.length*w≤i*8:=Nat.mul_le_mul (Nat.min_le_left _ _) h8
  omega
 have step:∀ i:Nat,i < l.length→f ((i:Int),acc++(l.take i).flatMap (bigN w),())=some (.nx (((i+1:Nat):Int),acc++(l.take (i+1)).flatMap (bigN w),())):=by
  intro i hi
  subst hf
  have hi':i64 (iadd (i:Int) 1)=((i+1:Nat):Int):=i64n (by show (i:Int)+1=_;omega) (by omega)
  obtain ⟨q1,q2,q3⟩:=h l[i] (List.getElem_mem hi)
  have hLi:=hL i
  refine (qE (by simp only [go_sem,Int.reduceToNat];omega)).trans ?_
  refine (qH (by simp only [go_sem,Int.reduceToNat];omega)).trans ?_
  dsimp only
  rw [hi',qV,qL hi,qH3 h1 h8 q1 q2 q3]
  refine (qG rfl).trans ?_
  have hb:=jN w l[i]
  refine (qH (by simp only [go_sem,Int.reduceToNat];simp only [List.length_append,jN];omega)).trans ?_
  rw [List.take_succ_eq_append_getElem hi,List.flatMap_append,List.flatMap_cons,List.flatMap_nil,List.append_nil]
  unfold app
  rw [List.append_assoc]
 have hend:∀ u,f ((l.length:Int),u,())=some (.ex 0 ((l.length:Int),u,())):=by subst hf;intro u;exact qB (by simp only [go_sem,Int.reduceToNat];omega)
 have:=(qM (f:=f) (fun i=>((i:Int),acc++(l.take i).flatMap (bigN w),())) l.length step 0 (Nat.zero_le _)).trans (qT (hend _))
 rw [List.take_of_length_le (Nat.le_refl _),List.take_zero,List.flatMap_nil,List.append_nil] at this
 exact this
theorem qiT (v:TEnv) (hv:qkW v):qgO (v,())=some (vP v,0,()):=by
 unfold qgO
 dsimp only
 rw [qiS,D_t hv]
 refine (qG rfl).trans ?_
 refine (qB rfl).trans ?_
 obtain ⟨k,d,e,g,s,b,t,⟨⟩⟩:=v
 unfold vP
 obtain ⟨h1,h2,h3,h4,h5,h6,h7,h8⟩:=hv
 unfold e0 jO at h2
 unfold e1 jO at h3
 unfold jO at h4
 unfold e0 e1
 dsimp only at *
 rw [show nat 0=0 from rfl,show nat 1=1 from rfl]
 generalize nth e 0 0=x at h2
 generalize nth e 1 0=y at h3
 refine (qY (qoZ 1 [k,d] [] (by omega) (by omega) (by simp) (by simp) (fun n hn => ?_) rfl)).trans ?_
 ·simp only [List.mem_cons,List.not_mem_nil,or_false] at hn
  rcases hn with rfl | rfl <;> omega
 refine (qH g62).trans ((qH rfl).trans ((qH rfl).trans ?_))
 refine (qY (qoZ 8 [x,y] _ (by omega) (by omega) (by simp) (by simp [jN]) (fun n hn => ?_) rfl)).trans ?_
 ·simp only [List.mem_cons,List.not_mem_nil,or_false] at hn
  rcases hn with rfl | rfl <;> omega
 refine (qH g62).trans ?_
 refine (qY (qoZ 4 [g] _ (by omega) (by omega) (by simp) (by simp [jN]) (fun n hn => ?_) rfl)).trans ?_
 ·simp only [List.mem_cons,List.not_mem_nil,or_false] at hn
  subst hn;omega
 refine (qH g62).trans ?_
 refine (qY (qoZ 8 [s] _ (by omega) (by omega) (by simp) (by simp [jN]) (fun n hn => ?_) rfl)).trans ?_
 ·simp only [List.mem_cons,List.not_mem_nil,or_false] at hn
  subst hn;omega
 refine (qH g62).trans ?_
 dsimp only
 refine (qH (by simp only [go_sem,Int.reduceToNat];simp [jN];omega)).trans ?_
 unfold app
 simp only [List.flatMap_cons,List.flatMap_nil,List.append_nil,List.nil_append,List.append_assoc]
def qx9 (v:TEnv):Prop:=qkW v∧v.2.2.2.2.2.2.1.length=16
theorem qsW (v:TEnv):qlK (v,())=some (D (qx9 v),()):=by
 unfold qlK qx9
 rw [qiS]
 simp only [go_sem,Int.reduceToNat]
 exact zW (and_congr_right fun _=>by omega)
theorem qsV (v:TEnv) (hv:qx9 v):qlJ (v,())=some (vP v++v.2.2.2.2.2.2.1,0,()):=by
 unfold qlJ
 dsimp only
 rw [qsW,D_t hv]
 refine (qG rfl).trans ?_
 refine (qB rfl).trans ?_
 rw [qiT _ hv.1]
 refine (qG rfl).trans ?_
 have h1:=qlA v
 have h2:=hv.2
 have h3:=hv.1.2.2.2.2.2.2.2
 refine (qH (by simp only [go_sem,Int.reduceToNat];omega)).trans ?_
 rfl
abbrev WT:=Int×List UInt64×Unit
abbrev qKm:=Int×BB×Unit
abbrev EvT:=Int×List Int×Int×BB×Unit
structure En' where
 id:Int
 key:BB
 ph:Int
 store:ST
 power:Int
 own:Int
 oth:Int
 seen:Int
 seq:Int
 win:WT
 ring:qa9
 ask:TAsk
 stan:Int
 day:Int
 queue:List BB
 hub:THub
 out:List qKm
 got:List EvT
 cnt:List Int
def En'.t (e:En'):TEnd:=(e.id,e.key,e.ph,e.store,e.power,e.own,e.oth,e.seen,e.seq,e.win,e.ring,e.ask,e.stan,e.day,e.queue,e.hub,e.out,e.got,e.cnt,())
structure Si where
 e:En'
 p:qcA
def Si.t (s:Si):yG:=(s.e.t,s.p,())
def toEn (x:TEnd):En':=⟨x.1,x.2.1,x.2.2.1,x.2.2.2.1,x.2.2.2.2.1,x.2.2.2.2.2.1,x.2.2.2.2.2.2.1,x.2.2.2.2.2.2.2.1,x.2.2.2.2.2.2.2.2.1,x.2.2.2.2.2.2.2.2.2.1,x.2.2.2.2.2.2.2.2.2.2.1,x.2.2.2.2.2.2.2.2.2.2.2.1,x.2.2.2.2.2.2.2.2.2.2.2.2.1,
 x.2.2.2.2.2.2.2.2.2.2.2.2.2.1,x.2.2.2.2.2.2.2.2.2.2.2.2.2.2.1,x.2.2.2.2.2.2.2.2.2.2.2.2.2.2.2.1,x.2.2.2.2.2.2.2.2.2.2.2.2.2.2.2.2.1,x.2.2.2.2.2.2.2.2.2.2.2.2.2.2.2.2.2.1,x.2.2.2.2.2.2.2.2.2.2.2.2.2.2.2.2.2.2.1⟩
theorem qKJ (x:yG):∃ s:Si,x=s.t:=⟨⟨toEn x.1,x.2.1⟩,rfl⟩
def noW:WT:=(0,[u64 0,u64 0,u64 0,u64 0,u64 0,u64 0,u64 0,u64 0,u64 0,u64 0,u64 0,u64 0,u64 0,u64 0,u64 0,u64 0],())
structure okE (n:Nat) (e:En'):Prop where
 id:e.id=0∨e.id=1
 key:e.key.length≤1000
 ph:0≤e.ph∧e.ph≤8
 store:qCJ e.store
 own:jO e.own
 oth:jO e.oth
 seq:jO e.seq
 ring:qkF e.ring
 up:e.hub.1.length=4
 next:0≤e.hub.2.2.2.1∧e.hub.2.2.2.1 < 4
 out:e.out.length≤n
 got:e.got.length≤n
 cnt:e.cnt.length=4
 win:e.win.2.1.length=16
 feed:e.hub.2.1.length=4
 life:e.hub.2.2.1.length=4
 queue:e.queue.length≤1000
structure okS (n:Nat) (s:Si):Prop where
 e:okE n s.e
 p:s.p.2.1.length≤n
def qjD (e:En'):List Int:=if e.id=0 then [e.own,e.oth] else if e.id=1 then [e.oth,e.own] else [0,0]
theorem qc0 (hi n:Int):qaY (hi,[n],())=some (D (0≤n∧n≤hi),()):=by
 unfold qaY
 dsimp only
 by_cases h:0≤n∧n≤hi
 ·rw [D_t h]
  refine (qY (jK (y:=(false,1,())) ?_)).trans ((qY (qT (y:=(false,1,())) (k:=0) rfl)).trans rfl)
  refine (qE rfl).trans ((qH rfl).trans ?_)
  dsimp only
  rw [show nth [n] (nat 0) 0=n from rfl]
  simp (disch:=omega) only [go_sem,Int.reduceToNat]
  rfl
 ·rw [D_f h]
  refine (qY (qd8 (r:=(false,())) ?_)).trans rfl
  refine (qE rfl).trans ((qH rfl).trans ?_)
  dsimp only
  rw [show nth [n] (nat 0) 0=n from rfl]
  refine (qG (a:=(true,())) (by simp only [go_sem,Int.reduceToNat];try exact qiG (by omega))).trans ?_
  rfl
theorem qb1 (e:En'):kP (e.t,())=some (qjD e,()):=by
 unfold kP qjD
 dsimp only [En'.t]
 rw [qc0]
 by_cases h0:e.id=0
 ·rw [h0,D_t (by omega),if_pos rfl];rfl
 ·rw [if_neg h0]
  by_cases h1:e.id=1
  ·rw [h1,D_t (by omega),if_pos rfl];rfl
  ·rw [if_neg h1,D_f (by omega)];rfl
theorem qpQ (e:En'):qhF (e.t,())=some (qjD e,()):=by
 unfold qhF qjD
 dsimp only [En'.t]
 by_cases h0:e.id=0
 ·rw [h0,if_pos rfl];rfl
 ·rw [if_neg h0]
  by_cases h1:e.id=1
  ·rw [h1,if_pos rfl];rfl
  ·rw [if_neg h1];simp (disch:=omega) only [go_sem,Int.reduceToNat]
def qH4 (key:BB):BB:=qq1 key [98,97,115,101] []
theorem qAA (key:BB):(qH4 key).length=32:=qiV _ _ _
theorem qsP (key:BB) (h:key.length≤1000000):qf9 (key,())=some (qH4 key,()):=by
 unfold qf9
 dsimp only
 rw [qqH _ _ _ h (by decide) (by decide) (by simp [none'])];rfl
def keyD (key:BB) (p:List Int) (gen:Int) (nonce:BB):BB :=
 if jO (nth p 0 0)∧jO (nth p 1 0)∧0≤gen∧gen≤2147483647 then qq1 key [108,105,110,107] [bigN 8 (nth p 0 0),bigN 8 (nth p 1 0),bigN 4 gen,nonce] else []
theorem jG (n:Int):jY (n,())=some (D (jO n),()):=by
 unfold jY jO
 simp only [go_sem,Int.reduceToNat]
theorem qI9 {n:Int} {w:Int} (hw:w=8∨w=4) (h:0≤n∧n < 256 ^ w.toNat) (hn:n≤9223372036854775807):y9 (n,w,())=some (bigN w.toNat n,0,()):=by
 rw [qiL _ _ hn,if_pos ⟨by omega,by omega,h.1,h.2⟩];rfl
theorem qF2 {a b:BB} {c nonce:BB} (ha:a.length=8) (hb:b.length=8) (hc:c.length=4) (hn:nonce.length≤1000):∀ p∈[a,b,c,nonce],p.length≤1000:=by
 intro p hp
 simp only [List.mem_cons,List.not_mem_nil,or_false] at hp
 rcases hp with rfl | rfl | rfl | rfl <;> omega
theorem p8 {n:Int} (h:jO n):0≤n∧n < 256 ^ (8:Int).toNat:=⟨h.1,by have:=h.2;show n < 256 ^ 8;omega⟩
theorem qr5 (key:BB) (p:List Int) (gen:Int) (nonce:BB) (hk:key.length≤1000000) (hn:nonce.length≤1000):qfO (key,p,gen,nonce,())=some (keyD key p gen nonce,()):=by
 unfold qfO keyD
 refine (qH rfl).trans ?_
 dsimp only
 rw [show nat 0=0 from rfl,show nat 1=1 from rfl]
 generalize nth p 0 0=x
 generalize nth p 1 0=y
 rw [jG]
 refine (qG rfl).trans ((qH rfl).trans ?_)
 rw [jG]
 refine (qG rfl).trans ?_
 by_cases h:jO x∧jO y∧0≤gen∧gen≤2147483647
 ·obtain ⟨h1,h2,h3,h4⟩:=h
  rw [if_pos ⟨h1,h2,h3,h4⟩]
  refine (qG (a:=(false,())) (by rw [D_t h1,D_t h2];simp only [go_sem,Int.reduceToNat];try exact qdK (by omega))).trans ?_
  refine (qB rfl).trans ((qH rfl).trans ?_)
  rw [qI9 (.inl rfl) (p8 h1) (by have:=h1.2;omega)]
  refine (qG rfl).trans ((qH rfl).trans ?_)
  rw [qI9 (.inl rfl) (p8 h2) (by have:=h2.2;omega)]
  refine (qG rfl).trans ?_
  rw [qI9 (.inr rfl) ⟨h3,by show gen < 256 ^ 4;omega⟩ (by omega)]
  refine (qG rfl).trans ?_
  dsimp only
  rw [show (8:Int).toNat=8 from rfl,show (4:Int).toNat=4 from rfl,qmK key [108,105,110,107] _ hk (by simp) (by simp) (qF2 (jN _ _) (jN _ _) (jN _ _) hn)];rfl
 ·rw [if_neg h]
  refine (qG (a:=(true,())) ?_).trans rfl
  by_cases h1:jO x
  ·by_cases h2:jO y
   ·rw [D_t h1,D_t h2]
    have h3:¬ (0≤gen∧gen≤2147483647):=fun h3=>h ⟨h1,h2,h3⟩
    simp only [go_sem,Int.reduceToNat];try exact qiG (by omega)
   ·rw [D_t h1,D_f h2];rfl
  ·rw [D_f h1];rfl
theorem qBj {key:BB} {p:List Int} {gen:Int} {nonce:BB} (h:jO (nth p 0 0)∧jO (nth p 1 0)∧0≤gen∧gen≤2147483647):(keyD key p gen nonce).length=32:=by
 unfold keyD;rw [if_pos h,qiV]
def qHz (e:En') (p:Int):En':={ e with ph:=p,own:=0,oth:=0,seq:=0,win:=noW,ring:=noR,ask:=noA,queue:=[],got:=if zH e.ph then e.got++[(5,qjD e,0,[],())] else e.got }
theorem qEc (l:List EvT):zI (l,())=some (l,()):=by
 unfold zI
 dsimp only
 rw [qAO]
 exact qH (qBD l)
theorem qEd (l:List qKm):zM (l,())=some (l,()):=by
 unfold zM
 dsimp only
 rw [qAO]
 exact qH (qBD l)
theorem qr6 (e:En') (k:Int) (p:List Int) (s:Int) (b:BB) (hg:e.got.length≤1000000):qkK (e.t,k,p,s,b,())=some (({ e with got:=e.got++[(k,p,s,b,())] }:En').t,()):=by
 unfold qkK
 dsimp only [En'.t]
 refine (qH (by simp only [go_sem,Int.reduceToNat];omega)).trans ?_
 refine (qH (by simp only [go_sem,Int.reduceToNat];simp;omega)).trans ?_
 rfl
theorem qpR (e:En') (p:Int) (hg:e.got.length≤1000000):qhG (e.t,p,())=some ((qHz e p).t,()):=by
 unfold qhG qHz
 rw [show (e.t,p,()).1.2.2.1=e.ph from rfl,yJ]
 refine (qG rfl).trans ?_
 by_cases h:zH e.ph
 ·rw [D_t h,if_pos h]
  refine (qE rfl).trans ?_
  dsimp only
  rw [qpQ]
  refine (qG rfl).trans ?_
  dsimp only
  rw [show (none' UInt8:BB)=[] from rfl,qr6 _ _ _ _ _ hg]
  rfl
 ·rw [D_f h,if_neg h];rfl
theorem bq_f {a b:Int} (h:a=b):bnot (beq a b)=false:=by rw [qjU h];rfl
theorem bq_t {a b:Int} (h:¬ a=b):bnot (beq a b)=true:=by rw [qb9 h];rfl
theorem qtM {r:qa9} (h:qkF r):0≤r.1.1∧r.1.1≤2147483647∧r.1.2.1.length≤32:=by
 rcases h with rfl | ⟨⟨h1,h2,h3⟩,_⟩
 ·exact ⟨by decide,by decide,by decide⟩
 ·omega
def qgP (s:Si) (v:TEnv) (key:BB):Si×Int :=
 if (wW s.e.hub).2.2.1=0 then
  (⟨{ s.e with hub:=(wW s.e.hub).1,out:=s.e.out++[((wW s.e.hub).2.1,qoM (vP v++qkE key (vP v)),())] },ptag s.p key (vP v)⟩,0)
 else (s,(wW s.e.hub).2.2.1)
theorem qiO {s:Si} {n:Nat} (hs:okS n s) (hn:n≤900000) (v:TEnv) (hv:qkW v) (key:BB) (hk:key.length≤1000000):qf8 (s.t,v,key,())=some ((qgP s v key).1.t,(qgP s v key).2,()):=by
 unfold qf8 qgP
 dsimp only [Si.t,En'.t]
 have hp:=hs.p
 have ho:=hs.e.out
 rw [qvT _ hs.e.up hs.e.next]
 refine (qG rfl).trans ?_
 by_cases hh:(wW s.e.hub).2.2.1=0
 ·rw [if_pos hh]
  refine (qB (by simp only [go_sem,Int.reduceToNat];exact not_not_intro hh)).trans ?_
  rw [qiT _ hv]
  refine (qG rfl).trans ?_
  have hb:=hv.2.2.2.2.2.2
  have hl:=qlA v
  dsimp only
  rw [qu4 _ _ _ (by omega) hk (by omega)]
  refine (qG rfl).trans ?_
  dsimp only
  have ht:=quZ key (vP v)
  rw [qsV (v.1,v.2.1,v.2.2.1,v.2.2.2.1,v.2.2.2.2.1,v.2.2.2.2.2.1,qkE key (vP v),v.2.2.2.2.2.2.2) ⟨hv,ht⟩]
  refine (qG rfl).trans ?_
  dsimp only
  rw [show vP (v.1,v.2.1,v.2.2.1,v.2.2.2.1,v.2.2.2.2.1,v.2.2.2.2.2.1,qkE key (vP v),v.2.2.2.2.2.2.2)=vP v from rfl,qqS _ (by rw [List.length_append];omega)]
  refine (qG rfl).trans ?_
  rw [qEd]
  refine (qG rfl).trans ?_
  refine (qH (by simp only [go_sem,Int.reduceToNat];simp;omega)).trans ?_
  rfl
 ·rw [if_neg hh]
  refine (qE (by simp only [go_sem,Int.reduceToNat];exact hh)).trans ?_
  rfl
def qiC (e:En') (body:BB):TEnv:=(2,e.id,qjD e,e.ring.1.1,e.seq,body,[],())
def setV (e:En') (other:Int) (body:BB):TEnv:=(1,e.id,qjD { e with oth:=other },0,0,body,[],())
def qeN (b:BB):Prop:=1≤b.length∧b.length≤900
instance (b:BB):Decidable (qeN b):=by unfold qeN;infer_instance
theorem qu8 {e:En'} (h1:jO e.own) (h2:jO e.oth):jO (nth (qjD e) 0 0)∧jO (nth (qjD e) 1 0):=by
 unfold qjD
 split
 ·exact ⟨h1,h2⟩
 split
 ·exact ⟨h2,h1⟩
 ·exact ⟨by decide,by decide⟩
theorem qAX {n:Nat} {e:En'} (h:okE n e) {body:BB} (hb:qeN body):qkW (qiC e body):=by
 have hr:=qtM h.ring
 exact ⟨.inr rfl,(qu8 h.own h.oth).1,(qu8 h.own h.oth).2,h.seq,h.id,⟨hr.1,hr.2.1⟩,hb.1,hb.2⟩
theorem qDM {n:Nat} {e:En'} (h:okE n e) {o:Int} (ho:jO o) {body:BB} (hb:qeN body):qkW (setV e o body):=by
 have:=qu8 (e:={ e with oth:=o }) h.own ho
 exact ⟨.inl rfl,this.1,this.2,by show jO 0;decide,h.id,⟨by show (0:Int)≤0;decide,by show (0:Int)≤2147483647;decide⟩,hb.1,hb.2⟩
def wE (s:Si) (body:BB):Si×Int :=
 if ¬ qeN body then (s,1) else if ¬ zH s.e.ph then (s,7) else if s.e.seq=4611686018427387904 then (s,10)
 else let r:=qgP s (qiC s.e body) s.e.ring.1.2.1;if r.2=0 then (⟨{ r.1.e with seq:=r.1.e.seq+1 },r.1.p⟩,0) else r
theorem qqY (s:Si) (v:TEnv) (key:BB):(qgP s v key).1.e.seq=s.e.seq:=by unfold qgP;split <;> rfl
theorem qb0 (b:BB):qf7 (b,())=some (D (qeN b),()):=by
 unfold qf7 qeN
 simp only [go_sem,Int.reduceToNat]
 exact zW (by omega)
theorem qEV {s:Si} {r:Si×Int} (hseq:jO r.1.e.seq) (h10:¬ r.1.e.seq=4611686018427387904) :
    (ob (some (r.1.t,r.2,())) fun (a:yG×Int×Unit) =>
   sel (beq a.2.1 0) (some (((a.1.1.1,a.1.1.2.1,a.1.1.2.2.1,a.1.1.2.2.2.1,a.1.1.2.2.2.2.1,a.1.1.2.2.2.2.2.1,a.1.1.2.2.2.2.2.2.1,a.1.1.2.2.2.2.2.2.2.1,i64 (iadd a.1.1.2.2.2.2.2.2.2.2.1 1),a.1.1.2.2.2.2.2.2.2.2.2),a.1.2),a.2.1,())) (some (a.1,a.2.1,()))) =
      some ((if r.2=0 then (⟨{ r.1.e with seq:=r.1.e.seq+1 },r.1.p⟩,0) else r:Si×Int).1.t,(if r.2=0 then (⟨{ r.1.e with seq:=r.1.e.seq+1 },r.1.p⟩,0) else r:Si×Int).2,()):=by
  obtain ⟨⟨e,p⟩,c⟩:=r
  refine (qG rfl).trans ?_
  by_cases h:c=0
  · subst h
    rw [if_pos rfl]
    refine (qE rfl).trans ?_
    dsimp only [Si.t,En'.t] at hseq ⊢
    obtain ⟨q1,q2⟩:=hseq
    rw [show i64 (iadd e.seq 1)=e.seq+1 from z8 (by show -9223372036854775808≤e.seq+1;omega) (by show e.seq+1≤9223372036854775807;omega)]
  · rw [if_neg h]
    refine (qB (by simp only [go_sem,Int.reduceToNat];exact h)).trans ?_
    rfl
theorem y4 {s:Si} {n:Nat} (hs:okS n s) (hn:n≤900000) (b:BB):kO (s.t,b,())=some ((wE s b).1.t,(wE s b).2,()):=by
 unfold kO wE
 dsimp only
 rw [qb0]
 refine (qG rfl).trans ?_
 by_cases hb:qeN b
 ·rw [D_t hb,if_neg (not_not_intro hb)]
  refine (qB rfl).trans ?_
  rw [show s.t.1.2.2.1=s.e.ph from rfl,qmM]
  refine (qG rfl).trans ?_
  by_cases hl:zH s.e.ph
  ·rw [D_t hl,if_neg (not_not_intro hl)]
   refine (qB rfl).trans ?_
   by_cases hq:s.e.seq=4611686018427387904
   ·rw [if_pos hq]
    exact qE (by simp only [go_sem,Int.reduceToNat];exact hq)
   ·rw [if_neg hq]
    refine (qB (by simp only [go_sem,Int.reduceToNat];exact hq)).trans ?_
    rw [show kP (s.t.1,())=_ from qb1 s.e]
    refine (qG rfl).trans ?_
    have hv:=qAX hs.e hb
    have hk:=(qtM hs.e.ring).2.2
    have hem:=qiO hs hn _ hv s.e.ring.1.2.1 (by omega)
    have h1:=qqY s (qiC s.e b) s.e.ring.1.2.1
    exact Eq.trans (z5 hem) (qEV (s:=s) (r:=qgP s (qiC s.e b) s.e.ring.1.2.1) (by rw [h1];exact hs.e.seq) (by rw [h1];exact hq))
  ·rw [D_f hl,if_pos hl];rfl
 ·rw [D_f hb,if_pos hb];rfl
def qtK (s:Si) (other:Int) (body:BB):Si×Int:=if jO other∧qeN body then qgP s (setV s.e other body) (qH4 s.e.key) else (s,1)
theorem qqL {s:Si} {n:Nat} (hs:okS n s) (hn:n≤900000) (o:Int) (b:BB):qh0 (s.t,o,b,())=some ((qtK s o b).1.t,(qtK s o b).2,()):=by
 unfold qh0 qtK
 dsimp only
 rw [qc0]
 refine (qG rfl).trans ?_
 by_cases hb:jO o∧qeN b
 ·rw [if_pos hb,D_t (show 0≤o∧o≤4611686018427387904 from hb.1)]
  refine (qG (a:=(false,())) ((qB rfl).trans (by rw [qb0,D_t hb.2];rfl))).trans ?_
  refine (qB rfl).trans ?_
  have hp:=qb1 { s.e with oth:=o }
  refine (z5 (show kP ((s.t.1.1,s.t.1.2.1,s.t.1.2.2.1,s.t.1.2.2.2.1,s.t.1.2.2.2.2.1,s.t.1.2.2.2.2.2.1,o,s.t.1.2.2.2.2.2.2.2),())=_ from hp)).trans ?_
  refine (qG rfl).trans ?_
  have hk:=hs.e.key
  rw [show qf9 (s.t.1.2.1,())=_ from qsP s.e.key (by omega)]
  refine (qG rfl).trans ?_
  have hem:=qiO hs hn _ (qDM hs.e hb.1 hb.2) (qH4 s.e.key) (by rw [qAA];omega)
  exact (z5 hem).trans rfl
 ·rw [if_neg hb]
  refine (qG (a:=(true,())) ?_).trans rfl
  by_cases h1:jO o
  ·rw [D_t (show 0≤o∧o≤4611686018427387904 from h1)]
   refine (qB rfl).trans ?_
   rw [qb0,D_f (fun h=>hb ⟨h1,h⟩)];rfl
  ·rw [D_f (show ¬ (0≤o∧o≤4611686018427387904) from h1)];rfl
def qJ6 (c:List Int) (i:Nat):List Int:=upd c i (i64 (iadd (nth c i 0) 1))
def qDr (s:Si) (i:Nat):Si:=⟨{ s.e with cnt:=qJ6 s.e.cnt i },s.p⟩
theorem qy1 (s:Si):v5 (s.t,13,())=some ((qDr s 3).t,()):=by
 unfold v5
 exact (qY (qjH 5 rfl)).trans rfl
theorem qvF {n m:Nat} {e:En'} (h:okE n e) (hm:n≤m):okE m e:={ h with out:=Nat.le_trans h.out hm,got:=Nat.le_trans h.got hm }
theorem xA {n m:Nat} {s:Si} (h:okS n s) (hm:n≤m):okS m s:=⟨qvF h.e hm,Nat.le_trans h.p hm⟩
theorem qu7 (h:THub):(wW h).1.1=h.1:=by unfold wW;split <;> rfl
theorem qtP (h:THub):(wW h).1.2.1=h.2.1:=by unfold wW;split <;> rfl
theorem qDV (h:THub):(wW h).1.2.2.1=h.2.2.1:=by unfold wW;split <;> rfl
theorem qmL {h:THub} (hn:0≤h.2.2.2.1∧h.2.2.2.1 < 4):0≤(wW h).1.2.2.2.1∧(wW h).1.2.2.2.1 < 4:=by
 unfold wW
 split
 ·exact hn
 ·rename_i c _
  show (0:Int)≤((c+1) % 4:Nat)∧(((c+1) % 4:Nat):Int) < 4
  omega
theorem qC1 {n:Nat} {s:Si} (h:okS n s) (v:TEnv) (key:BB):okS (n+1) (qgP s v key).1:=by
 unfold qgP
 split
 ·refine ⟨{ h.e with up:=(by rw [← h.e.up];exact congrArg List.length (qu7 s.e.hub)),next:=qmL h.e.next,feed:=(by rw [← h.e.feed];exact congrArg List.length (qtP s.e.hub)),life:=(by rw [← h.e.life];exact congrArg List.length (qDV s.e.hub)),out := ?_,got:=Nat.le_succ_of_le h.e.got }, ?_⟩
  ·have:=h.e.out
   simp only [List.length_append,List.length_cons,List.length_nil];omega
  ·have:=qKS s.p key (vP v)
   have:=h.p
   show (ptag s.p key (vP v)).2.1.length≤n+1
   omega
 ·exact xA h (by omega)
theorem qoX {n:Nat} {s:Si} (h:okS n s) (b:BB):okS (n+1) (wE s b).1:=by
 unfold wE
 split
 ·exact xA h (by omega)
 split
 ·exact xA h (by omega)
 split
 ·exact xA h (by omega)
 ·rename_i h1 h2 h3
  have h4:=qC1 h (qiC s.e b) s.e.ring.1.2.1
  have h5:=qqY s (qiC s.e b) s.e.ring.1.2.1
  dsimp only
  split
  ·refine ⟨{ h4.e with seq := ?_ },h4.p⟩
   have:=h.e.seq
   show jO (_+1)
   rw [h5]
   unfold jO at *
   omega
  ·exact h4
theorem qFD {n:Nat} {s:Si} (h:okS n s) (o:Int) (b:BB):okS (n+1) (qtK s o b).1:=by
 unfold qtK
 split
 ·exact qC1 h _ _
 ·exact xA h (by omega)
theorem qFG {n:Nat} {s:Si} (h:okS n s) (i:Nat):okS n (qDr s i):=⟨{ h.e with cnt:=by show (qJ6 s.e.cnt i).length=4;unfold qJ6 upd;rw [List.length_set];exact h.e.cnt },h.p⟩
def quK (s:Si) (q:vA):Si:=⟨{ s.e with stan:=yF s.e.stan,ask:=(qrW q.2.1 (yF s.e.stan) (wrN (q.1,q.2.1,yF s.e.stan,q.2.2.2)).1).1 },s.p⟩
def qkU (s:Si) (q:vA):Si :=
 if (wrN (q.1,q.2.1,yF s.e.stan,q.2.2.2)).2.1=0∧(qrW q.2.1 (yF s.e.stan) (wrN (q.1,q.2.1,yF s.e.stan,q.2.2.2)).1).2.1=0 then
  (if q.2.1=1 then (qtK (quK s q) 0 (wrN (q.1,q.2.1,yF s.e.stan,q.2.2.2)).1).1 else (wE (quK s q) (wrN (q.1,q.2.1,yF s.e.stan,q.2.2.2)).1).1)
 else s
theorem qmO {n:Nat} {s:Si} (h:okS n s) (q:vA):okS n (quK s q):=⟨{ h.e with },h.p⟩
theorem qFE {n:Nat} {s:Si} (h:okS n s) (q:vA):okS (n+1) (qkU s q):=by
 unfold qkU
 split
 ·split
  ·exact qFD (qmO h q) _ _
  ·exact qoX (qmO h q) _
 ·exact xA h (by omega)
theorem qj1 {s:Si} {n:Nat} (hs:okS n s) (hn:n≤900000) (q:vA):wQ (s.t,q,())=some ((qkU s q).t,()):=by
 unfold wQ qkU
 dsimp only
 rw [show s.t.1.2.2.2.2.2.2.2.2.2.2.2.2.1=s.e.stan from rfl,qw7]
 refine (qG rfl).trans ?_
 dsimp only
 rw [qf1]
 have hok:=qmO hs q
 have hset:=qqL hok hn 0 (wrN (q.1,q.2.1,yF s.e.stan,q.2.2.2)).1
 have hsend:=y4 hok hn (wrN (q.1,q.2.1,yF s.e.stan,q.2.2.2)).1
 unfold quK at hset hsend ⊢
 generalize wrN (q.1,q.2.1,yF s.e.stan,q.2.2.2)=w at hset hsend ⊢
 obtain ⟨b,we,⟨⟩⟩:=w
 refine (qG rfl).trans ?_
 dsimp only at hset hsend ⊢
 rw [qtC]
 generalize qrW q.2.1 (yF s.e.stan) b=a at hset hsend ⊢
 obtain ⟨a,ae,⟨⟩⟩:=a
 refine (qG rfl).trans ?_
 dsimp only at hset hsend ⊢
 by_cases h:we=0∧ae=0
 ·obtain ⟨rfl,rfl⟩:=h
  rw [if_pos ⟨rfl,rfl⟩]
  refine (qG (a:=(false,())) rfl).trans ((qB rfl).trans ?_)
  by_cases hc:q.2.1=1
  ·rw [if_pos hc]
   refine (qE (by simp only [go_sem,Int.reduceToNat];exact hc)).trans ?_
   exact (z5 hset).trans rfl
  ·rw [if_neg hc]
   refine (qB (by simp only [go_sem,Int.reduceToNat];exact hc)).trans ?_
   exact (z5 hsend).trans rfl
 ·rw [if_neg h]
  refine (qG (a:=(true,())) ?_).trans rfl
  by_cases h1:we=0
  ·have h2:¬ ae=0:=fun h2=>h ⟨h1,h2⟩
   exact (qB (by rw [h1];rfl)).trans (by rw [show beq ae 0=false from qb9 h2];rfl)
  ·exact qE (by rw [show beq we 0=false from qb9 h1];rfl)
def qyM (e:En'):En':={ e with ph:=3,ask:=noA }
def qFd (n:vA) (res:Int):BB:=(wrN (ansN n res).1).1
theorem qH7 {s:Si} {m:Nat} (hs:okS m s) (hm:m≤900000) (n:vA) (res:Int) :
  (ob (qaW (n,res,())) fun (a:vA×Int×Unit)=>ob (qaA (a.1,())) fun (b:BB×Int×Unit)=>ob (kO (s.t,b.1,())) fun (c:yG×Int×Unit)=>(some (c.1,()):Option (yG×Unit)))=some ((wE s (qFd n res)).1.t,()):=by
 rw [qoN]
 refine (qG rfl).trans ?_
 rw [qf1]
 refine (qG rfl).trans ?_
 exact (z5 (y4 hs hm (qFd n res))).trans rfl
def qLF (e:En') (r:qa9):En':={ e with ph:=3,ask:=noA,ring:=r }
theorem quE (s:Si):(ob (v5 (s.t,13,())) fun (a:yG×Unit)=>(some (a.1,()):Option (yG×Unit)))=some ((qDr s 3).t,()):=(z5 (qy1 s)).trans rfl
instance (a:TAsk) (c s:Int):Decidable (qtW a c s):=by unfold qtW;infer_instance
theorem qyT (x:UInt64):n64 x=(x.toNat:Int):=rfl
theorem qCU {k:Nat} (h:k≤63):2 ^ k≤9223372036854775808:=by
 have:=Nat.pow_le_pow_right (show 0 < 2 by omega) h
 have e:2 ^ 63=9223372036854775808:=by decide
 omega
theorem qoE (k:Nat) (hk:k≤63):qdT ((k:Int),())=some (u64 ((2 ^ k:Nat):Int),()):=by
 unfold qdT
 dsimp only
 generalize hf:(fun (x_1:UInt64×Int×Unit)=>(_:Option (LS (UInt64×Int×Unit) (UInt64×Unit))))=f
 have step:∀ i:Nat,i < k→f (u64 ((2 ^ i:Nat):Int),(i:Int),())=some (.nx (u64 ((2 ^ (i+1):Nat):Int),((i+1:Nat):Int),())):=by
  intro i hi
  subst hf
  have hi':i64 (iadd (i:Int) 1)=((i+1:Nat):Int):=i64n (by show (i:Int)+1=_;omega) (by omega)
  have hp:=qCU (k:=i) (by omega)
  have e:imul (n64 (u64 2)) (n64 (u64 ((2 ^ i:Nat):Int)))=((2 ^ (i+1):Nat):Int):=by
   rw [Nat.pow_succ]
   generalize 2 ^ i=m at hp
   rw [qf2 (by decide),qf2 (by omega)]
   show (2:Int)*(m:Int)=_
   omega
  refine (qE (by simp only [go_sem,Int.reduceToNat];omega)).trans ?_
  dsimp only
  rw [hi',e]
 have hend:∀ u,f (u,(k:Int),())=some (.ex 0 (u,(k:Int),())):=by subst hf;intro u;exact qB (by simp only [go_sem,Int.reduceToNat];omega)
 have hloop:=(qM (f:=f) (fun i=>(u64 ((2 ^ i:Nat):Int),(i:Int),())) k step 0 (Nat.zero_le _)).trans (qT (hend _))
 refine (qY (show loop f (u64 1,0,())=_ from hloop)).trans ?_
 exact qH g62
def bitW (w:WT) (p:Nat):Bool:=(nth w.2.1 (p / 64) (u64 0)).toNat / 2 ^ (p % 64) % 2 == 1
theorem qbW (w:WT) (hw:w.2.1.length=16) (p:Nat) (hp:p < 1024):qcK (w,(p:Int),())=some (bitW w p,()):=by
 unfold qcK bitW
 dsimp only
 have e1:i64 (idiv (p:Int) 64)=((p / 64:Nat):Int):=by rw [g31 (by omega)];exact i64n (by omega) (by omega)
 have e2:imod (p:Int) 64=((p % 64:Nat):Int):=by rw [g32 (by omega)];omega
 rw [e1,e2]
 refine (qH (by simp only [go_sem,Int.reduceToNat];omega)).trans ?_
 rw [qoE _ (by omega)]
 refine (qG rfl).trans ?_
 have hq:=qCU (k:=p % 64) (by omega)
 have hq0:0 < 2 ^ (p % 64):=Nat.pow_pos (by omega)
 generalize 2 ^ (p % 64)=m at hq hq0 ⊢
 have e3:n64 (u64 (m:Int))=(m:Int):=qf2 (by omega)
 dsimp only
 rw [e3]
 refine (qH (by simp only [go_sem,Int.reduceToNat];omega)).trans ?_
 rw [qV]
 generalize nth w.2.1 (p / 64) (u64 0)=x
 have hx:=x.toNat_lt
 have e4:idiv (n64 x) (m:Int)=((x.toNat / m:Nat):Int):=by
  rw [g31 (by rw [qyT];omega),qyT,Int.natCast_ediv]
 have hle:x.toNat / m≤x.toNat:=Nat.div_le_self _ _
 rw [e4]
 generalize x.toNat / m=q at hle ⊢
 rw [show n64 (u64 (q:Int))=(q:Int) from qf2 (by omega),show n64 (u64 2)=2 from qf2 (by decide),show imod (q:Int) 2=((q % 2:Nat):Int) by rw [g32 (by omega)];omega,
  show n64 (u64 ((q % 2:Nat):Int))=((q % 2:Nat):Int) from qf2 (by omega),show n64 (u64 1)=1 from qf2 (by decide)]
 congr 2
 unfold beq
 rw [Bool.eq_iff_iff,beq_iff_eq,beq_iff_eq]
 omega
def qE5 (w:WT):Prop:=(0≤w.1∧w.1≤4611686018427387905)∧(∀ p∈(List.range 1024).drop w.1.toNat,bitW w p=false)∧(w.1=0∨bitW w ((w.1 - 1) % 1024).toNat=true)
theorem qoF (w:WT) (hw:w.2.1.length=16):qdU (w,())=some (D (qE5 w),()):=by
 unfold qdU qE5
 dsimp only
 by_cases h0:0≤w.1∧w.1≤4611686018427387905
 ·refine (qG (a:=(false,())) (by simp only [go_sem,Int.reduceToNat];try exact qdK (by omega))).trans ((qB rfl).trans ?_)
  generalize hf:(fun (x_1:Bool×Int×Unit)=>(_:Option (LS (Bool×Int×Unit) (Bool×Unit))))=f
  have hlen:((List.range 1024).drop w.1.toNat).length=1024 - w.1.toNat:=by rw [List.length_drop,List.length_range]
  have hT:w.1=(w.1.toNat:Int):=by omega
  generalize w.1.toNat=T at hT hlen
  have hget:∀ i (h:i < ((List.range 1024).drop T).length),((List.range 1024).drop T)[i]=T+i:=fun i h=>by rw [List.getElem_drop,List.getElem_range]
  have fin:(ck (neb 0 0) (ob (sel (beq w.1 0) (some (true,())) (ob (qcK (w,imod (i64 (isub w.1 1)) 1024,())) fun (a:Bool×Unit)=>some (a.1,()))) fun (a:Bool×Unit)=>some (a.1,())):Option (Bool×Unit))=some (D (w.1=0∨bitW w ((w.1 - 1) % 1024).toNat=true),()):=by
   refine (qH g62).trans ?_
   by_cases hz:w.1=0
   ·rw [D_t (.inl hz),hz];rfl
   ·have e:imod (i64 (isub w.1 1)) 1024=((((w.1 - 1) % 1024).toNat:Nat):Int):=by
     rw [show i64 (isub w.1 1)=w.1 - 1 from z8 (by show -9223372036854775808≤w.1 - 1;omega) (by show w.1 - 1≤9223372036854775807;omega),g32 (by omega)];omega
    refine (z5 ((qB (qb9 hz)).trans (by rw [e,qbW w hw _ (by omega)]))).trans ?_
    refine (qG rfl).trans ?_
    cases hb:bitW w ((w.1 - 1) % 1024).toNat
    ·rw [D_f (fun h=>h.elim hz (by simp))]
    ·rw [D_t (.inr rfl)]
  have key:=qd9 (f:=f) ((List.range 1024).drop T) (fun i=>(false,((T+i:Nat):Int),())) 0 ((false,()):Bool×Unit) (fun p=>bitW w p=false) (fun i h hp => ?_) (fun i h hp => ?_) ?_
  ·rcases key with ⟨h,hl⟩ | ⟨h,hl⟩
   ·rw [Nat.add_zero,← hT] at hl
    refine (qY hl).trans ?_
    refine fin.trans (zW ?_)
    exact ⟨fun h'=>⟨h0,h,h'⟩,fun h'=>h'.2.2⟩
   ·rw [Nat.add_zero,← hT] at hl
    refine (qY hl).trans ?_
    rw [D_f (fun h'=>h h'.2.1)];rfl
  ·subst hf
   have hi':i64 (iadd ((T+i:Nat):Int) 1)=((T+(i+1):Nat):Int):=i64n (by show ((T+i:Nat):Int)+1=_;omega) (by omega)
   rw [hget i h] at hp
   refine (qE (by simp only [go_sem,Int.reduceToNat];omega)).trans ?_
   dsimp only
   rw [qbW w hw _ (by omega),hp,hi'];rfl
  ·subst hf
   rw [hget i h,Bool.not_eq_false] at hp
   refine (qE (by simp only [go_sem,Int.reduceToNat];omega)).trans ?_
   dsimp only
   rw [qbW w hw _ (by omega),hp];rfl
  ·subst hf
   refine qB ?_
   show lt ((T+((List.range 1024).drop T).length:Nat):Int) 1024=false
   rw [List.length_drop,List.length_range]
   exact lt_f (by omega)
 ·rw [D_f (fun h=>h0 h.1)]
  refine (qG (a:=(true,())) (by simp only [go_sem,Int.reduceToNat];try exact qiG (by omega))).trans ?_
  rfl
abbrev FT:=BB×Int×Int×Unit
def noF:FT:=([],0,0,())
def qHU (f:FT):Int:=256*n8 (nth f.1 0 (u8 0))+n8 (nth f.1 1 (u8 0))
def qpN (f:FT):Prop:=¬ (f.2.1 < 0∨65535 < f.2.1∨0 < f.2.1∧0 < f.1.length)∧(f.1.length < 2∨1≤qHU f∧qHU f≤1024∧(f.1.length:Int) < qHU f+2)
theorem qIt (c:UInt8):0≤n8 c∧n8 c < 256:=by have:=c.toNat_lt;unfold n8;omega
theorem qe1 (f:FT):qdW (f,())=some (D (qpN f),()):=by
 unfold qdW qpN qHU
 dsimp only
 by_cases h1:f.2.1 < 0∨65535 < f.2.1∨0 < f.2.1∧0 < f.1.length
 ·rw [D_f (fun h=>h.1 h1)]
  refine (qG (a:=(true,())) (by simp only [go_sem,Int.reduceToNat];try exact qiG (by omega))).trans ?_
  rfl
 ·refine (qG (a:=(false,())) (by simp only [go_sem,Int.reduceToNat];try exact qdK (by omega))).trans ((qB rfl).trans ?_)
  by_cases h2:f.1.length < 2
  ·rw [D_t ⟨h1, .inl h2⟩]
   exact qE (by simp only [go_sem,Int.reduceToNat];omega)
  ·refine (qB (by simp only [go_sem,Int.reduceToNat];omega)).trans ?_
   refine (qH (by simp only [go_sem,Int.reduceToNat];omega)).trans ?_
   refine (qH (by simp only [go_sem,Int.reduceToNat];omega)).trans ?_
   rw [show nat 0=0 from rfl,show nat 1=1 from rfl]
   have hx:=qIt (nth f.1 0 (u8 0))
   have hy:=qIt (nth f.1 1 (u8 0))
   generalize n8 (nth f.1 0 (u8 0))=x at hx
   generalize n8 (nth f.1 1 (u8 0))=y at hy
   have e:i64 (iadd (i64 (imul 256 (i64 x))) (i64 y))=256*x+y:=by
    rw [show i64 x=x from z8 (by omega) (by omega),show i64 y=y from z8 (by omega) (by omega),show i64 (imul 256 x)=256*x from z8 (by show -9223372036854775808≤256*x;omega) (by show 256*x≤9223372036854775807;omega)]
    exact z8 (by show -9223372036854775808≤256*x+y;omega) (by show 256*x+y≤9223372036854775807;omega)
   rw [e,show i64 (iadd (256*x+y) 2)=256*x+y+2 from z8 (by show -9223372036854775808≤256*x+y+2;omega) (by show 256*x+y+2≤9223372036854775807;omega)]
   simp only [go_sem,Int.reduceToNat]
   refine zW ⟨fun h=>⟨h1, .inr (by omega)⟩,fun h=>by have:=h.2;omega⟩
theorem qaL (a b:FT):yK (a,b,())=some (D (a=b),()):=by
 obtain ⟨x,y,z,⟨⟩⟩:=a
 obtain ⟨x',y',z',⟨⟩⟩:=b
 unfold yK
 simp only [go_sem,Int.reduceToNat,z3]
 refine zW ?_
 simp only [Prod.mk.injEq,and_true,and_assoc]
def qyB (h:THub):Prop:=(∀ c∈List.range 4,qpN (nth h.2.1 c noF)∧(nth h.1 c false=true∨nth h.2.1 c noF=noF))∧0≤h.2.2.2.1∧h.2.2.2.1 < 4
theorem qoG (h:THub):qdV (h,())=some (D (qyB h),()):=by
 unfold qdV qyB
 dsimp only
 generalize hf:(fun (x_1:Bool×Int×Unit)=>(_:Option (LS (Bool×Int×Unit) (Bool×Unit))))=f
 have hget:∀ i (hi:i < (List.range 4).length),(List.range 4)[i]=i:=fun i hi=>List.getElem_range _
 have key:=qd9 (f:=f) (List.range 4) (fun i=>(false,(i:Int),())) 0 ((false,()):Bool×Unit) (fun c=>qpN (nth h.2.1 c noF)∧(nth h.1 c false=true∨nth h.2.1 c noF=noF)) (fun i hi hp => ?_) (fun i hi hp => ?_) ?_
 ·rcases key with ⟨hk,hl⟩ | ⟨hk,hl⟩
  ·refine (qY (show loop f (false,0,())=_ from hl)).trans ?_
   refine (qH g62).trans ?_
   simp only [go_sem,Int.reduceToNat]
   exact zW ⟨fun h'=>⟨hk,h'⟩,fun h'=>h'.2⟩
  ·refine (qY (show loop f (false,0,())=_ from hl)).trans ?_
   rw [D_f (fun h'=>hk h'.1)];rfl
 ·subst hf
  rw [hget i hi] at hp
  have hi4:i < 4:=by simpa using hi
  have hi':i64 (iadd (i:Int) 1)=((i+1:Nat):Int):=i64n (by show (i:Int)+1=_;omega) (by omega)
  refine (qE (by simp only [go_sem,Int.reduceToNat];omega)).trans ?_
  dsimp only
  rw [hi',qV]
  refine (qH (by simp only [go_sem,Int.reduceToNat];omega)).trans ?_
  rw [show nth h.2.1 i (none' UInt8,0,0,())=nth h.2.1 i noF from rfl,qe1,D_t hp.1]
  refine (qG rfl).trans ?_
  refine (qH (by simp only [go_sem,Int.reduceToNat];omega)).trans ?_
  rw [show yK (nth h.2.1 i noF,(none' UInt8,0,0,()),())=_ from qaL _ noF]
  refine (qG rfl).trans ?_
  refine (qG (a:=(false,())) ((qB rfl).trans ((qH (by simp only [go_sem,Int.reduceToNat];omega)).trans ?_))).trans rfl
  rcases hp.2 with h1 | h1
  ·rw [h1];rfl
  ·rw [D_t h1];cases nth h.1 i false <;> rfl
 ·subst hf
  rw [hget i hi] at hp
  have hi4:i < 4:=by simpa using hi
  refine (qE (by simp only [go_sem,Int.reduceToNat];omega)).trans ?_
  dsimp only
  rw [qV]
  refine (qH (by simp only [go_sem,Int.reduceToNat];omega)).trans ?_
  rw [show nth h.2.1 i (none' UInt8,0,0,())=nth h.2.1 i noF from rfl,qe1]
  refine (qG rfl).trans ?_
  refine (qH (by simp only [go_sem,Int.reduceToNat];omega)).trans ?_
  rw [show yK (nth h.2.1 i noF,(none' UInt8,0,0,()),())=_ from qaL _ noF]
  refine (qG rfl).trans ?_
  by_cases h1:qpN (nth h.2.1 i noF)
  ·rw [D_t h1]
   refine (qG (a:=(true,())) ((qB rfl).trans ((qH (by simp only [go_sem,Int.reduceToNat];omega)).trans ?_))).trans rfl
   have h2:¬ (nth h.1 i false=true∨nth h.2.1 i noF=noF):=fun h2=>hp ⟨h1,h2⟩
   simp only [not_or,Bool.not_eq_true] at h2
   rw [h2.1,D_f h2.2];rfl
  ·rw [D_f h1];rfl
 ·subst hf;exact qB rfl
def fewH (h:THub):Prop:=(nth h.2.1 0 noF).1.length≤1200∧(nth h.2.1 1 noF).1.length≤1200∧(nth h.2.1 2 noF).1.length≤1200∧(nth h.2.1 3 noF).1.length≤1200
theorem qsD (h:THub):qkO (h,())=some (D (fewH h),()):=by
 unfold qkO fewH
 rw [show (none' UInt8,0,0,())=noF from rfl]
 refine (qH rfl).trans ?_
 dsimp only
 rw [show nat 0=0 from rfl,show nat 1=1 from rfl,show nat 2=2 from rfl,show nat 3=3 from rfl]
 rw [qH (show inB 1 (ofn 4)=true from rfl),qH (show inB 2 (ofn 4)=true from rfl),qH (show inB 3 (ofn 4)=true from rfl)]
 simp only [go_sem,Int.reduceToNat]
 exact zW (by omega)
theorem qvS (h:THub) (h1:h.1.length=4) (h2:h.2.1.length=4) (h3:h.2.2.1.length=4):qhN (h,h,())=some (true,()):=by
 unfold qhN
 dsimp only
 generalize hf:(fun (x_1:Bool×Int×Unit)=>(_:Option (LS (Bool×Int×Unit) (Bool×Unit))))=f
 have step:∀ i:Nat,i < 4→f (false,(i:Int),())=some (.nx (false,((i+1:Nat):Int),())):=by
  intro i hi
  subst hf
  have hi':i64 (iadd (i:Int) 1)=((i+1:Nat):Int):=i64n (by show (i:Int)+1=_;omega) (by omega)
  refine (qE (by simp (disch:=omega) only [go_sem,Int.reduceToNat];omega)).trans ?_
  dsimp only
  rw [hi']
  simp (disch:=omega) only [go_sem,Int.reduceToNat,qaL]
 have hend:f (false,((4:Nat):Int),())=some (.ex 0 (false,((4:Nat):Int),())):=by subst hf;exact qB rfl
 have hloop:=(qM (f:=f) (fun i=>(false,(i:Int),())) 4 step 0 (Nat.zero_le _)).trans (qT hend)
 refine (qY (show loop f (false,0,())=_ from hloop)).trans ?_
 refine (qH g62).trans ?_
 simp (disch:=omega) only [go_sem,Int.reduceToNat]
def qyA (e:En'):Prop:=e.queue.length≤8∧(e.queue=[]∨qeM e.ph)∧∀ b∈e.queue,qeN b
theorem qn9 (e:En'):qdO (e.t,())=some (D (qyA e),()):=by
 unfold qdO qyA
 dsimp only [En'.t]
 have hq0:(e.queue=[])↔e.queue.length=0:=List.length_eq_zero_iff.symm
 by_cases h1:e.queue.length≤8∧(e.queue=[]∨qeM e.ph)
 ·refine (qG (a:=(false,())) ?_).trans ((qB rfl).trans ?_)
  ·refine (qB (by simp (disch:=first | assumption | omega | (dsimp only;omega) | decide) only [go_sem,Int.reduceToNat];omega)).trans ?_
   by_cases h2:e.queue.length=0
   ·exact qB (by simp (disch:=first | assumption | omega | (dsimp only;omega) | decide) only [go_sem,Int.reduceToNat];omega)
   ·refine (qE (by simp (disch:=first | assumption | omega | (dsimp only;omega) | decide) only [go_sem,Int.reduceToNat];omega)).trans ?_
    rw [qfR,D_t (h1.2.resolve_left (fun h=>h2 (hq0.1 h)))];rfl
  generalize hf:(fun (x_1:Bool×Int×Unit)=>(_:Option (LS (Bool×Int×Unit) (Bool×Unit))))=f
  have key:=qd9 (f:=f) e.queue (fun i=>(false,(i:Int),())) 0 ((false,()):Bool×Unit) qeN (fun i hi hp => ?_) (fun i hi hp => ?_) ?_
  ·rcases key with ⟨hk,hl⟩ | ⟨hk,hl⟩
   ·refine (qY (show loop f (false,0,())=_ from hl)).trans ?_
    refine (qH g62).trans ?_
    rw [D_t ⟨h1.1,h1.2,hk⟩]
   ·refine (qY (show loop f (false,0,())=_ from hl)).trans ?_
    rw [D_f (fun h'=>hk h'.2.2)];rfl
  ·subst hf
   have hi':i64 (iadd (i:Int) 1)=((i+1:Nat):Int):=i64n (by show (i:Int)+1=_;omega) (by omega)
   refine (qE (by simp (disch:=omega) only [go_sem,Int.reduceToNat];omega)).trans ?_
   refine (qH (by simp (disch:=omega) only [go_sem,Int.reduceToNat];omega)).trans ?_
   dsimp only
   rw [hi',qV,qL hi]
   have q1:=hp.1
   have q2:=hp.2
   simp (disch:=omega) only [go_sem,Int.reduceToNat]
  ·subst hf
   refine (qE (by simp (disch:=omega) only [go_sem,Int.reduceToNat];omega)).trans ?_
   refine (qH (by simp (disch:=omega) only [go_sem,Int.reduceToNat];omega)).trans ?_
   dsimp only
   rw [qV,qL hi]
   unfold qeN at hp
   by_cases q1:e.queue[i].length < 1
   ·simp (disch:=omega) only [go_sem,Int.reduceToNat]
   ·simp (disch:=omega) only [go_sem,Int.reduceToNat]
  ·subst hf
   exact qB (by simp (disch:=omega) only [go_sem,Int.reduceToNat];omega)
 ·rw [D_f (fun h=>h1 ⟨h.1,h.2.1⟩)]
  refine (qG (a:=(true,())) ?_).trans rfl
  by_cases h2:e.queue.length≤8
  ·have h3:¬ (e.queue=[]∨qeM e.ph):=fun h3=>h1 ⟨h2,h3⟩
   simp only [not_or] at h3
   have h4:¬ e.queue.length=0:=fun h=>h3.1 (hq0.2 h)
   refine (qB (by simp (disch:=omega) only [go_sem,Int.reduceToNat];omega)).trans ((qE (by simp (disch:=omega) only [go_sem,Int.reduceToNat];omega)).trans ?_)
   rw [qfR,D_f h3.2];rfl
  ·exact qE (by simp (disch:=omega) only [go_sem,Int.reduceToNat];omega)
theorem qJy {a b:UInt64}:n64 a=n64 b↔a=b:=by
 constructor
 ·intro h
  unfold n64 at h
  exact UInt64.toNat_inj.1 (by omega)
 ·rintro rfl;rfl
theorem qGP:∀ {l m:List UInt64},l.length=m.length→(all2 (fun (p q:UInt64)=>beq (n64 p) (n64 q)) l m=true↔l=m)
 | [],[],_=>by simp [all2]
 | a :: l,b :: m,h=>by
  have ih:=qGP (l:=l) (m:=m) (by simpa using h)
  unfold all2 at ih ⊢
  rw [List.zip_cons_cons,List.all_cons,Bool.and_eq_true,ih]
  unfold beq
  rw [beq_iff_eq,qJy,List.cons.injEq]
 | [],_ :: _,h=>by simp at h
 | _ :: _,[],h=>by simp at h
def qKg (e:En'):Prop:=e.oth=0∧e.seq=0∧e.win=noW∧e.ring=noR
theorem qpP (e:En') (hw:e.win.2.1.length=16):qhE (e.t,())=some (D (qKg e),()):=by
 unfold qhE qKg
 dsimp only [En'.t]
 rw [qe0]
 refine (qG rfl).trans ?_
 have hwin:band (beq e.win.1 0) (band (all2 (fun (p q:UInt64)=>beq (n64 p) (n64 q)) e.win.2.1 [u64 0,u64 0,u64 0,u64 0,u64 0,u64 0,u64 0,u64 0,u64 0,u64 0,u64 0,u64 0,u64 0,u64 0,u64 0,u64 0]) true)=D (e.win=noW):=by
  refine qg5 ?_
  generalize e.win=w at hw ⊢
  obtain ⟨t,b,⟨⟩⟩:=w
  unfold noW
  dsimp only at hw ⊢
  unfold band
  rw [Bool.and_true,Bool.and_eq_true,qGP (by rw [hw];rfl)]
  unfold beq
  rw [beq_iff_eq]
  simp only [Prod.mk.injEq,and_true]
 dsimp only
 rw [hwin]
 simp only [go_sem,Int.reduceToNat]
 refine zW ?_
 simp only [and_assoc]
def qH5 (p:Int):Int:=nth [0,1,0,0,101,201,2,0,0] p.toNat 0
def qJE (e:En'):Prop:=(e.ask.1=qH5 e.ph∨e.ph=3∧e.ask.1=301)∧(zH e.ph∧0 < e.own∧0 < e.oth∧0 < e.ring.1.1∧(¬ e.ph=4∨0 < e.ring.2.2.1.1)∨¬ zH e.ph∧qKg e∧(0 < e.own↔e.ph=1))
theorem qmH (e:En') (hw:e.win.2.1.length=16) (hp:0≤e.ph∧e.ph≤8):qbB (e.t,())=some (D (qJE e),()):=by
 unfold qbB qJE qmI
 rw [show (e.t,()).1.2.2.1=e.ph from rfl]
 dsimp only
 rw [qH (show inB e.ph (len [0,1,0,0,101,201,2,0,0])=true by simp only [go_sem,Int.reduceToNat];simp;omega)]
 refine (qG rfl).trans ?_
 rw [show nth [0,1,0,0,101,201,2,0,0] (nat e.ph) 0=qH5 e.ph from rfl,show e.t.2.2.2.2.2.2.2.2.2.2.2.1.1=e.ask.1 from rfl,show e.t.2.2.2.2.2.1=e.own from rfl,show e.t.2.2.2.2.2.2.1=e.oth from rfl,show e.t.2.2.2.2.2.2.2.2.2.2.1=e.ring from rfl]
 by_cases h1:e.ask.1=qH5 e.ph∨e.ph=3∧e.ask.1=301
 ·refine (qG (a:=(false,())) ?_).trans ((qB rfl).trans ?_)
  ·rcases h1 with h1 | ⟨h1,h2⟩
   ·exact qB (bq_f h1)
   ·by_cases h3:e.ask.1=qH5 e.ph
    ·exact qB (bq_f h3)
    ·refine (qE (bq_t h3)).trans ((qB (bq_f h1)).trans ?_)
     rw [bq_f h2]
  rw [qpP e hw]
  refine (qG rfl).trans ?_
  rw [yJ]
  refine (qG rfl).trans ?_
  by_cases hl:zH e.ph
  ·rw [D_t hl]
   refine (qE rfl).trans ?_
   simp only [go_sem,Int.reduceToNat]
   refine zW ?_
   simp only [h1,hl,true_and,not_true_eq_false,false_and,or_false,and_assoc]
  ·rw [D_f hl]
   refine (qB rfl).trans ?_
   simp only [go_sem,Int.reduceToNat]
   refine zW ?_
   simp only [h1,hl,true_and,not_false_eq_true,false_and,false_or]
 ·rw [D_f (fun h=>h1 h.1)]
  simp only [not_or,not_and] at h1
  refine (qG (a:=(true,())) ((qE (bq_t h1.1)).trans ?_)).trans rfl
  by_cases h3:e.ph=3
  ·refine (qB (bq_f h3)).trans ?_
   rw [bq_t (h1.2 h3)]
  ·exact qE (bq_t h3)
structure x6 (e:En'):Prop where
 id:0≤e.id∧e.id≤1
 key:e.key.length=32
 ph:0≤e.ph∧e.ph≤8
 stan:0≤e.stan∧e.stan≤999999
 day:0≤e.day∧e.day≤999999
 own:jO e.own
 oth:jO e.oth
 seen:jO e.seen
 seq:jO e.seq
 store:qCJ e.store
 win:qE5 e.win
 ring:qkF e.ring
 ask:qCK e.ask
 hub:qyB e.hub
 queue:qyA e
 link:qJE e
theorem qLZ (a b c d f g h i j k l:Prop):(sel (D a) (sel (D b) (sel (D c) (sel (D d) (sel (D f) (sel (D g) (sel (D h) (sel (D i) (sel (D j) (sel (D k) (some (D l,())) (some (false,()))) (some (false,()))) (some (false,()))) (some (false,()))) (some (false,()))) (some (false,()))) (some (false,()))) (some (false,()))) (some (false,()))) (some (false,())):Option (Bool×Unit)) =
  some (D (a∧b∧c∧d∧f∧g∧h∧i∧j∧k∧l),()):=by
 simp only [go_sem,Int.reduceToNat]
 try (refine zW ?_;simp only [and_assoc])
theorem qeY (e:En') (hw:e.win.2.1.length=16):vC (e.t,())=some (D (x6 e),()):=by
 unfold vC
 dsimp only
 rw [show e.t.1=e.id from rfl,show e.t.2.1=e.key from rfl,show e.t.2.2.1=e.ph from rfl,show e.t.2.2.2.2.2.2.2.2.2.2.2.2.1=e.stan from rfl,show e.t.2.2.2.2.2.2.2.2.2.2.2.2.2.1=e.day from rfl,show e.t.2.2.2.2.2.1=e.own from rfl,show e.t.2.2.2.2.2.2.1=e.oth from rfl,show e.t.2.2.2.2.2.2.2.1=e.seen from rfl,
  show e.t.2.2.2.2.2.2.2.2.1=e.seq from rfl,show e.t.2.2.2.1=e.store from rfl,show e.t.2.2.2.2.2.2.2.2.2.1=e.win from rfl,show e.t.2.2.2.2.2.2.2.2.2.2.1=e.ring from rfl,show e.t.2.2.2.2.2.2.2.2.2.2.2.1=e.ask from rfl,show e.t.2.2.2.2.2.2.2.2.2.2.2.2.2.2.2.1=e.hub from rfl]
 by_cases h:(0≤e.id∧e.id≤1)∧e.key.length=32∧(0≤e.ph∧e.ph≤8)∧(0≤e.stan∧e.stan≤999999)∧(0≤e.day∧e.day≤999999)
 ·obtain ⟨a1,a2,a3,a4,a5⟩:=h
  refine (qG (a:=(false,())) (by simp only [go_sem,Int.reduceToNat];try exact qdK (by omega))).trans ((qB rfl).trans ?_)
  rw [jG]
  refine (qG rfl).trans ?_
  rw [jG]
  refine (qG rfl).trans ?_
  rw [jG]
  refine (qG rfl).trans ?_
  rw [jG]
  refine (qG rfl).trans ?_
  rw [qoC]
  refine (qG rfl).trans ?_
  rw [qoF _ hw]
  refine (qG rfl).trans ?_
  rw [qoD]
  refine (qG rfl).trans ?_
  rw [qoB]
  refine (qG rfl).trans ?_
  rw [qoG]
  refine (qG rfl).trans ?_
  rw [qn9]
  refine (qG rfl).trans ?_
  dsimp only
  rw [qmH e hw a3]
  refine (z5 (qLZ _ _ _ _ _ _ _ _ _ _ _)).trans ?_
  refine (qG rfl).trans ?_
  refine zW ?_
  constructor
  ·rintro ⟨b1,b2,b3,b4,b5,b6,b7,b8,b9,b10,b11⟩
   exact ⟨a1,a2,a3,a4,a5,b1,b2,b3,b4,b5,b6,b7,b8,b9,b10,b11⟩
  ·rintro ⟨_,_,_,_,_,b1,b2,b3,b4,b5,b6,b7,b8,b9,b10,b11⟩
   exact ⟨b1,b2,b3,b4,b5,b6,b7,b8,b9,b10,b11⟩
 ·rw [D_f (fun r=>h ⟨r.id,r.key,r.ph,r.stan,r.day⟩)]
  refine (qG (a:=(true,())) (by simp only [go_sem,Int.reduceToNat];try exact qiG (by omega))).trans ?_
  rfl
def qD1 (acc:Int):List BB→Int
 | []=>acc
 | x :: r=>if 9000 - acc < (x.length:Int) then 9001 else qD1 (acc+x.length) r
def qFW (q:List BB):Int:=if 9000 < (q.length:Int) then 9001 else qD1 q.length q
theorem qp5 (q:List BB):qhV (q,9000,())=some (qFW q,()):=by
 unfold qhV qFW
 dsimp only
 by_cases h0:9000 < (q.length:Int)
 ·rw [if_pos h0]
  exact (qE (lt_t h0)).trans rfl
 ·rw [if_neg h0]
  refine (qB (lt_f h0)).trans ?_
  generalize hf:(fun (x_1:Int×Int×Int×Unit)=>(_:Option (LS (Int×Int×Int×Unit) (Int×Unit))))=f
  have hl9:q.length≤9000:=by omega
  have key:∀ (n i:Nat) (acc:Int),q.length - i=n→i≤q.length→0≤acc→acc≤9000→(loop f (0,acc,(i:Int),())=some (.rt (9001,()))∧qD1 acc (q.drop i)=9001)∨(loop f (0,acc,(i:Int),())=some (.ex 0 (0,qD1 acc (q.drop i),(q.length:Int),()))):=by
   intro n
   induction n with
   | zero =>
    intro i acc hn hi ha hb
    have:i=q.length:=by omega
    subst this
    rw [List.drop_length]
    refine .inr (qT ?_)
    subst hf
    exact qB (by simp only [go_sem,Int.reduceToNat];omega)
   | succ n ih =>
    intro i acc hn hi ha hb
    have hil:i < q.length:=by omega
    have hi':i64 (iadd (i:Int) 1)=((i+1:Nat):Int):=i64n (by show (i:Int)+1=_;omega) (by omega)
    rw [List.drop_eq_getElem_cons hil]
    have e1:i64 (isub 9000 acc)=9000 - acc:=z8 (by show -9223372036854775808≤9000 - acc;omega) (by show 9000 - acc≤9223372036854775807;omega)
    by_cases hx:9000 - acc < (q[i].length:Int)
    ·refine .inl ⟨qd8 ?_,by rw [qD1,if_pos hx]⟩
     subst hf
     refine (qE (by simp only [go_sem,Int.reduceToNat];omega)).trans ((qH (by simp only [go_sem,Int.reduceToNat];omega)).trans ?_)
     dsimp only
     rw [e1,qV,qL hil]
     exact (qE (lt_t hx)).trans rfl
    ·have e2:i64 (iadd acc (len q[i]))=acc+(q[i].length:Int):=z8 (by show -9223372036854775808≤acc+(q[i].length:Int);omega) (by show acc+(q[i].length:Int)≤9223372036854775807;omega)
     have hst:f (0,acc,(i:Int),())=some (.nx (0,acc+(q[i].length:Int),((i+1:Nat):Int),())):=by
      subst hf
      refine (qE (by simp only [go_sem,Int.reduceToNat];omega)).trans ((qH (by simp only [go_sem,Int.reduceToNat];omega)).trans ?_)
      dsimp only
      rw [e1,qV,qL hil,e2,hi']
      refine (qB (lt_f hx)).trans ?_
      exact qH (by simp only [go_sem,Int.reduceToNat];omega)
     rw [jK hst,qD1,if_neg hx]
     exact ih (i+1) _ (by omega) (by omega) (by omega) (by omega)
  rcases key q.length 0 q.length (by omega) (Nat.zero_le _) (by omega) (by omega) with ⟨h1,h2⟩ | h1
  ·rw [List.drop_zero] at h2
   rw [h2]
   exact (qY (show loop f (0,len q,0,())=_ from h1)).trans rfl
  ·rw [List.drop_zero] at h1
   refine (qY (show loop f (0,len q,0,())=_ from h1)).trans ?_
   exact qH g62
structure fewE (e:En'):Prop where
 store:e.store.1.length≤100∧e.store.2.1.length≤100
 ring:fewR e.ring
 hub:fewH e.hub
 key:e.key.length≤100
 ask:e.ask.2.2.2.2.1.length≤1000
 queue:qFW e.queue≤9000
 out:e.out.length≤20
 got:e.got.length≤40
 outs:∀ x∈e.out,x.2.1.length≤1100
 gots:∀ x∈e.got,x.2.2.2.1.length≤1000
theorem qr7 (e:En'):qfP (e.t,())=some (D (fewE e),()):=by
 unfold qfP
 dsimp only
 rw [show e.t.2.2.2.1=e.store from rfl,show e.t.2.2.2.2.2.2.2.2.2.2.1=e.ring from rfl,show e.t.2.2.2.2.2.2.2.2.2.2.2.2.2.2.2.1=e.hub from rfl,show e.t.2.1=e.key from rfl,show e.t.2.2.2.2.2.2.2.2.2.2.2.1=e.ask from rfl,show e.t.2.2.2.2.2.2.2.2.2.2.2.2.2.2.1=e.queue from rfl,show e.t.2.2.2.2.2.2.2.2.2.2.2.2.2.2.2.2.1=e.out from rfl,show e.t.2.2.2.2.2.2.2.2.2.2.2.2.2.2.2.2.2.1=e.got from rfl]
 rw [qsA]
 refine (qG rfl).trans ?_
 rw [qsC]
 refine (qG rfl).trans ?_
 rw [qsD]
 refine (qG rfl).trans ?_
 dsimp only
 rw [qp5]
 by_cases h:(e.store.1.length≤100∧e.store.2.1.length≤100)∧fewR e.ring∧fewH e.hub∧e.key.length≤100∧e.ask.2.2.2.2.1.length≤1000∧qFW e.queue≤9000∧e.out.length≤20∧e.got.length≤40
 ·obtain ⟨a1,a2,a3,a4,a5,a6,a7,a8⟩:=h
  rw [D_t a1,D_t a2,D_t a3]
  refine (qG (a:=(false,())) (by simp only [go_sem,Int.reduceToNat];try exact qdK (by omega))).trans ((qB rfl).trans ?_)
  generalize hf:(fun (x_1:Bool×Int×Unit)=>sel (lt x_1.2.1 (len e.out)) _ _)=f
  generalize hg:(fun (x_1:Bool×Int×Unit)=>(_:Option (LS (Bool×Int×Unit) (Bool×Unit))))=g
  have k1:=qd9 (f:=f) e.out (fun i=>(false,(i:Int),())) 0 ((false,()):Bool×Unit) (fun x=>x.2.1.length≤1100) (fun i hi hp => ?_) (fun i hi hp => ?_) ?_
  ·have k2:=qd9 (f:=g) e.got (fun i=>(false,(i:Int),())) 2 ((false,()):Bool×Unit) (fun x=>x.2.2.2.1.length≤1000) (fun i hi hp => ?_) (fun i hi hp => ?_) ?_
   ·rcases k1 with ⟨h1,hl1⟩ | ⟨h1,hl1⟩
    ·refine (qY (show loop f (false,0,())=_ from hl1)).trans ((qH g62).trans ?_)
     rcases k2 with ⟨h2,hl2⟩ | ⟨h2,hl2⟩
     ·refine (qY (show loop g (false,0,())=_ from hl2)).trans ((qH g62).trans ?_)
      rw [D_t ⟨a1,a2,a3,a4,a5,a6,a7,a8,h1,h2⟩]
     ·refine (qY (show loop g (false,0,())=_ from hl2)).trans ?_
      rw [D_f (fun r=>h2 r.gots)];rfl
    ·refine (qY (show loop f (false,0,())=_ from hl1)).trans ?_
     rw [D_f (fun r=>h1 r.outs)];rfl
   ·subst hg
    have hi':i64 (iadd (i:Int) 1)=((i+1:Nat):Int):=i64n (by show (i:Int)+1=_;omega) (by omega)
    refine (qE (by simp only [go_sem,Int.reduceToNat];omega)).trans ((qH (by simp only [go_sem,Int.reduceToNat];omega)).trans ?_)
    dsimp only
    rw [qV,qL hi,hi']
    exact qB (by simp only [go_sem,Int.reduceToNat];omega)
   ·subst hg
    refine (qE (by simp only [go_sem,Int.reduceToNat];omega)).trans ((qH (by simp only [go_sem,Int.reduceToNat];omega)).trans ?_)
    dsimp only
    rw [qV,qL hi]
    exact qE (by simp only [go_sem,Int.reduceToNat];omega)
   ·subst hg;exact qB (by simp only [go_sem,Int.reduceToNat];omega)
  ·subst hf
   have hi':i64 (iadd (i:Int) 1)=((i+1:Nat):Int):=i64n (by show (i:Int)+1=_;omega) (by omega)
   refine (qE (by simp only [go_sem,Int.reduceToNat];omega)).trans ((qH (by simp only [go_sem,Int.reduceToNat];omega)).trans ?_)
   dsimp only
   rw [qV,qL hi,hi']
   exact qB (by simp only [go_sem,Int.reduceToNat];omega)
  ·subst hf
   refine (qE (by simp only [go_sem,Int.reduceToNat];omega)).trans ((qH (by simp only [go_sem,Int.reduceToNat];omega)).trans ?_)
   dsimp only
   rw [qV,qL hi]
   exact qE (by simp only [go_sem,Int.reduceToNat];omega)
  ·subst hf;exact qB (by simp only [go_sem,Int.reduceToNat];omega)
 ·rw [D_f (p:=fewE e) (fun r=>h ⟨r.store,r.ring,r.hub,r.key,r.ask,r.queue,r.out,r.got⟩)]
  refine (qG (a:=(true,())) ?_).trans rfl
  by_cases c1:e.store.1.length≤100∧e.store.2.1.length≤100
  ·rw [D_t c1]
   by_cases c2:fewR e.ring
   ·rw [D_t c2]
    by_cases c3:fewH e.hub
    ·rw [D_t c3]
     have c4:¬ (e.key.length≤100∧e.ask.2.2.2.2.1.length≤1000∧qFW e.queue≤9000∧e.out.length≤20∧e.got.length≤40):=fun c4=>h ⟨c1,c2,c3,c4⟩
     simp only [go_sem,Int.reduceToNat]
     try exact qiG (by omega)
    ·rw [D_f c3];rfl
   ·rw [D_f c2];rfl
  ·rw [D_f c1];rfl
structure mayS (s:Si):Prop where
 few:fewE s.e
 prov:fewP s.p 40
 right:x6 s.e
structure qCD (e:En'):Prop where
 win:e.win.2.1.length=16
 up:e.hub.1.length=4
 feed:e.hub.2.1.length=4
 life:e.hub.2.2.1.length=4
 cnt:e.cnt.length=4
theorem qr4 (s:Si) (hw:qCD s.e):qkJ (s.t,())=some (D (mayS s),()):=by
 unfold qkJ
 dsimp only
 rw [show qfP (s.t.1,())=_ from qr7 s.e]
 refine (qG rfl).trans ?_
 rw [show qfU (s.t.2.1,40,())=_ from qsF s.p 40 (by decide)]
 refine (qG rfl).trans ?_
 rw [show vC (s.t.1,())=_ from qeY s.e hw.win]
 simp only [go_sem,Int.reduceToNat]
 exact zW ⟨fun h=>⟨h.1,h.2.1,h.2.2⟩,fun h=>⟨h.few,h.prov,h.right⟩⟩
theorem qJn {s:Si} (hw:qCD s.e) (h:mayS s):okS 50 s:=by
 have hr:=h.right
 have hf:=h.few
 refine ⟨⟨by have:=hr.id;omega,by have:=hr.key;omega,hr.ph,hr.store,hr.own,hr.oth,hr.seq,hr.ring,hw.up,⟨hr.hub.2.1,hr.hub.2.2⟩,by have:=hf.out;omega,by have:=hf.got;omega,hw.cnt,hw.win,hw.feed,hw.life,by have:=hr.queue.1;omega⟩, ?_⟩
 have:=h.prov.1
 omega
theorem yD (a:Int):beq a a=true:=qjU rfl
theorem qoS (a:BB):seq a a=true:=qIY rfl
theorem qE2 (q:List BB) (hq:q.length≤1000000):qhU (q,q,())=some (true,()):=by
 unfold qhU
 dsimp only
 rw [yD]
 refine (qB rfl).trans ?_
 generalize hf:(fun (x_1:Bool×Int×Unit)=>(_:Option (LS (Bool×Int×Unit) (Bool×Unit))))=f
 have step:∀ i:Nat,i < q.length→f (false,(i:Int),())=some (.nx (false,((i+1:Nat):Int),())):=by
  intro i hi
  subst hf
  have hi':i64 (iadd (i:Int) 1)=((i+1:Nat):Int):=i64n (by show (i:Int)+1=_;omega) (by omega)
  refine (qE (by simp only [go_sem,Int.reduceToNat];omega)).trans ((qH (by simp only [go_sem,Int.reduceToNat];omega)).trans ((qH (by simp only [go_sem,Int.reduceToNat];omega)).trans ?_))
  dsimp only
  rw [hi',qoS];rfl
 have hend:f (false,(q.length:Int),())=some (.ex 0 (false,(q.length:Int),())):=by subst hf;exact qB (by simp only [go_sem,Int.reduceToNat];omega)
 have hloop:=(qM (f:=f) (fun i=>(false,(i:Int),())) q.length step 0 (Nat.zero_le _)).trans (qT hend)
 exact (qY (show loop f (false,0,())=_ from hloop)).trans (qH g62)
theorem qEU (q:List qKm) (hq:q.length≤1000000):qhD (q,q,())=some (true,()):=by
 unfold qhD
 dsimp only
 rw [yD]
 refine (qB rfl).trans ?_
 generalize hf:(fun (x_1:Bool×Int×Unit)=>(_:Option (LS (Bool×Int×Unit) (Bool×Unit))))=f
 have step:∀ i:Nat,i < q.length→f (false,(i:Int),())=some (.nx (false,((i+1:Nat):Int),())):=by
  intro i hi
  subst hf
  have hi':i64 (iadd (i:Int) 1)=((i+1:Nat):Int):=i64n (by show (i:Int)+1=_;omega) (by omega)
  have hc:inB (i:Int) (len q)=true:=by simp only [go_sem,Int.reduceToNat];omega
  refine (qE (by simp only [go_sem,Int.reduceToNat];omega)).trans ((qH hc).trans ((qH hc).trans ?_))
  dsimp only
  rw [hi',yD,hc]
  refine (qG (a:=(false,())) ((qB rfl).trans ((qH rfl).trans ((qH rfl).trans ?_)))).trans rfl
  rw [z3,qoS];rfl
 have hend:f (false,(q.length:Int),())=some (.ex 0 (false,(q.length:Int),())):=by subst hf;exact qB (by simp only [go_sem,Int.reduceToNat];omega)
 have hloop:=(qM (f:=f) (fun i=>(false,(i:Int),())) q.length step 0 (Nat.zero_le _)).trans (qT hend)
 exact (qY (show loop f (false,0,())=_ from hloop)).trans (qH g62)
theorem qBu (q:List EvT) (hq:q.length≤1000000):qbC (q,q,())=some (true,()):=by
 unfold qbC
 dsimp only
 rw [yD]
 refine (qB rfl).trans ?_
 generalize hf:(fun (x_1:Bool×Int×Unit)=>(_:Option (LS (Bool×Int×Unit) (Bool×Unit))))=f
 have step:∀ i:Nat,i < q.length→f (false,(i:Int),())=some (.nx (false,((i+1:Nat):Int),())):=by
  intro i hi
  subst hf
  have hi':i64 (iadd (i:Int) 1)=((i+1:Nat):Int):=i64n (by show (i:Int)+1=_;omega) (by omega)
  have hc:inB (i:Int) (len q)=true:=by simp only [go_sem,Int.reduceToNat];omega
  refine (qE (by simp only [go_sem,Int.reduceToNat];omega)).trans ((qH hc).trans ((qH hc).trans ?_))
  dsimp only
  rw [hi',hc]
  generalize nth q (nat (i:Int)) (0,[0,0],0,none' UInt8,())=e
  rw [yD,yD,yD,yD,z3,qoS]
  rfl
 have hend:f (false,(q.length:Int),())=some (.ex 0 (false,(q.length:Int),())):=by subst hf;exact qB (by simp only [go_sem,Int.reduceToNat];omega)
 have hloop:=(qM (f:=f) (fun i=>(false,(i:Int),())) q.length step 0 (Nat.zero_le _)).trans (qT hend)
 exact (qY (show loop f (false,0,())=_ from hloop)).trans (qH g62)
theorem qAC:∀ l:List UInt64,all2 (fun (p q:UInt64)=>beq (n64 p) (n64 q)) l l=true
 | []=>rfl
 | a :: l=>by
  have ih:=qAC l
  unfold all2 at ih ⊢
  rw [List.zip_cons_cons,List.all_cons,ih,Bool.and_true]
  exact yD _
theorem quM:∀ l:List Int,all2 (fun (p q:Int)=>beq p q) l l=true
 | []=>rfl
 | a :: l=>by
  have ih:=quM l
  unfold all2 at ih ⊢
  rw [List.zip_cons_cons,List.all_cons,ih,Bool.and_true]
  exact yD _
theorem qEY {n:Nat} {e:En'} (h:okE n e) (hn:n≤1000000):qcJ (e.t,e.t,())=some (true,()):=by
 unfold qcJ
 dsimp only
 rw [qpV]
 refine (qG rfl).trans ?_
 rw [qpW]
 refine (qG rfl).trans ?_
 rw [qpT]
 refine (qG rfl).trans ?_
 have hq:=h.queue
 have ho:=h.out
 have hg:=h.got
 rw [show e.t.2.2.2.2.2.2.2.2.2.2.2.2.2.2.1=e.queue from rfl,qE2 e.queue (by omega)]
 refine (qG rfl).trans ?_
 rw [show e.t.2.2.2.2.2.2.2.2.2.2.2.2.2.2.2.1=e.hub from rfl,qvS e.hub h.up h.feed h.life]
 refine (qG rfl).trans ?_
 rw [show e.t.2.2.2.2.2.2.2.2.2.2.2.2.2.2.2.2.1=e.out from rfl,qEU e.out (by omega)]
 refine (qG rfl).trans ?_
 rw [show e.t.2.2.2.2.2.2.2.2.2.2.2.2.2.2.2.2.2.1=e.got from rfl,qBu e.got (by omega)]
 refine (qG rfl).trans ?_
 dsimp only
 rw [z3,qoS,qAC,quM]
 simp only [yD]
 rfl
theorem qpH {n:Nat} {s:Si} (h:okS n s) (hn:n≤1000000):zL (s.t,s.t,())=some (true,()):=by
 unfold zL
 dsimp only
 rw [show qcJ (s.t.1,s.t.1,())=_ from qEY h.e hn]
 refine (qG rfl).trans ?_
 have hp:=h.p
 rw [show qcN (s.t.2.1,s.t.2.1,())=_ from qp2 s.p (by omega)]
 rfl
instance (v:TEnv):Decidable (qkW v):=by unfold qkW;infer_instance
instance (v:TEnv):Decidable (qx9 v):=by unfold qx9;infer_instance
theorem qG2 {s:Si} {b:BB} (hb:qeN b) (hl:zH s.e.ph) (hq:s.e.seq≤900000) (hh:(wW s.e.hub).2.2.1=0):wE s b =
  (⟨{ s.e with hub:=(wW s.e.hub).1,out:=s.e.out++[((wW s.e.hub).2.1,qoM (vP (qiC s.e b)++qkE s.e.ring.1.2.1 (vP (qiC s.e b))),())],seq:=s.e.seq+1 },ptag s.p s.e.ring.1.2.1 (vP (qiC s.e b))⟩,0):=by
 unfold wE qgP
 rw [if_neg (not_not_intro hb),if_neg (not_not_intro hl),if_neg (by omega),if_pos hh]
 rfl
def twK (fill:UInt8):BB:=upd (rep 32 (u8 0)) 0 fill
def twN (g:Nat):BB:=if g=1 then [] else [u8 (g:Int)]
def twG (fill:UInt8) (g:Nat):BB:=keyD (twK fill) [3,4] (g:Int) (twN g)
def twR (fill:UInt8):Nat→qa9
 | 0=>noR
 | 1=>((1,twG fill 1,()),noG,noG,0,1,())
 | g+2=>(((g+2:Nat),twG fill (g+2),()),((g+1:Nat),twG fill (g+1),()),noG,16,(g+2:Nat),())
def hub1:THub:=([true,false,false,false],[noF,noF,noF,noF],[1,0,0,0],0,())
def twE (i:Int) (fill:UInt8) (g:Nat):En':=⟨i,twK fill,3,newS, -1,3+i,4 - i,4,0,noW,twR fill g,noA,0,0,[],hub1,[],[],[0,0,0,0]⟩
def tw (i:Int) (fill:UInt8) (g:Nat):Si:=⟨twE i fill g,(true,[],false,())⟩
theorem qtF (fill:UInt8):(twK fill).length=32:=by unfold twK upd;rw [List.length_set];rfl
theorem qg7 (fill:UInt8) {g:Nat} (hg:g≤2147483647):(twG fill g).length=32:=qBj ⟨by decide,by decide,by omega,by omega⟩
theorem qDP {a b:Int} {x y:BB} (h1:1≤b) (h2:b < a) (h3:a≤2147483647) (hx:x.length=32) (hy:y.length=32):qkF ((a,x,()),(b,y,()),noG,16,a,()):=by
 have hb:¬ (b,y,())=noG:=fun h=>by
  have:b=0:=congrArg Prod.fst h
  omega
 refine .inr ⟨⟨by dsimp only;omega,h3,hx⟩,h3,Int.le_refl _, ?_, .inr ⟨hb,⟨h1,by dsimp only;omega,hy⟩,h2, ?_, ?_⟩, .inl rfl⟩
 ·show (0:Int)≤a;omega
 ·show (1:Int)≤16;omega
 ·show (16:Int)≤16;omega
theorem qDQ {x:BB} (hx:x.length=32):qkF ((1,x,()),noG,noG,0,1,()):=by
 refine .inr ⟨⟨?_, ?_,hx⟩, ?_, ?_, ?_, .inl ⟨rfl,rfl⟩, .inl rfl⟩
 ·show (1:Int)≤1;omega
 ·show (1:Int)≤2147483647;omega
 ·show (1:Int)≤2147483647;omega
 ·show (1:Int)≤1;omega
 ·show (0:Int)≤1;omega
theorem qE6 (fill:UInt8) {g:Nat} (hg:1≤g) (hg2:g≤100):qkF (twR fill g):=by
 match g,hg with
 | 1,_=>exact qDQ (qg7 fill (by omega))
 | g+2,_=>exact qDP (b:=((g+1:Nat):Int)) (by omega) (by omega) (by omega) (qg7 fill (by omega)) (qg7 fill (by omega))
theorem qK2 (i:Int) (hi:i=0∨i=1) (fill:UInt8) {g:Nat} (hg:1≤g) (hg2:g≤100):okS 0 (tw i fill g) where
 e:={
  id:=hi
  key:=by show (twK fill).length≤1000;rw [qtF];omega
  ph:=⟨by show (0:Int)≤3;omega,by show (3:Int)≤8;omega⟩
  store:=⟨qA7 1,List.length_replicate ..⟩
  own:=by show jO (3+i);rcases hi with rfl | rfl <;> decide
  oth:=by show jO (4 - i);rcases hi with rfl | rfl <;> decide
  seq:=by show jO 0;decide
  ring:=qE6 fill hg hg2
  up:=rfl
  next:=by show (0:Int)≤0∧(0:Int) < 4;omega
  out:=Nat.le_refl _
  got:=Nat.le_refl _
  cnt:=rfl
  win:=rfl
  feed:=rfl
  life:=rfl
  queue:=by show ([]:List BB).length≤1000;simp }
 p:=Nat.le_refl _
theorem qKQ:qjB (([false,false,false,false],[(none' UInt8,0,0,()),(none' UInt8,0,0,()),(none' UInt8,0,0,()),(none' UInt8,0,0,())],[0,0,0,0],0,()),0,())=some (hub1,0,()):=by kernel_rfl
def upH (h:THub):Prop:=h.1=[true,false,false,false]∧0≤h.2.2.2.1∧h.2.2.2.1 < 4
theorem qKy:upH hub1:=⟨rfl,by show (0:Int)≤0;omega,by show (0:Int) < 4;omega⟩
theorem qJd {h:THub} (hu:upH h):(wW h).2.2.1=0∧upH (wW h).1:=by
 refine ⟨?_,(qu7 h).trans hu.1,qmL hu.2⟩
 obtain ⟨u,f,l,n,⟨⟩⟩:=h
 obtain ⟨h1,h2,h3⟩:=hu
 dsimp only at h1 h2 h3
 subst h1
 have hc:qKT [true,false,false,false] n.toNat=some 0:=by
  have:n=0∨n=1∨n=2∨n=3:=by omega
  rcases this with rfl | rfl | rfl | rfl <;> decide
 unfold wW
 dsimp only
 rw [hc]
def qG1 (s:Si) (b:BB):Si:=⟨{ s.e with hub:=(wW s.e.hub).1,out:=s.e.out++[((wW s.e.hub).2.1,qoM (vP (qiC s.e b)++qkE s.e.ring.1.2.1 (vP (qiC s.e b))),())],seq:=s.e.seq+1 },ptag s.p s.e.ring.1.2.1 (vP (qiC s.e b))⟩
theorem qxX {s:Si} {b:BB} (hb:qeN b) (hl:zH s.e.ph) (hq:s.e.seq≤900000) (hu:upH s.e.hub):wE s b=(qG1 s b,0):=qG2 hb hl hq (qJd hu).1
def qjT (n:vA):BB:=wrM (msgN n)
theorem qdD {n:vA} (h:z2 n):qeN (qjT n):=⟨by
 unfold qjT wrM
 rw [List.length_append,List.length_append,xL]
 split <;> omega,qIM h⟩
theorem qGK {n:vA} (h:z2 n):rdN (qjT n)=(n,0,()):=qKO h
theorem qjZ (n:Int):1≤yF n∧yF n≤999999:=by unfold yF;split <;> omega
def stN (s:Si) (q:vA):vA:=(q.1,q.2.1,yF s.e.stan,q.2.2.2)
theorem qw4 {s:Si} {q:vA} (hr:z2 (stN s q)):qrW q.2.1 (yF s.e.stan) (qjT (stN s q))=((q.2.1,yF s.e.stan,8,3,qjT (stN s q),()),0,()):=by
 unfold qrW
 rw [if_pos]
 have h:=qjZ s.e.stan
 exact ⟨hr.1,h.1,h.2,(qdD hr).1,(qdD hr).2⟩
def askS (s:Si) (q:vA):Si:=⟨{ s.e with stan:=yF s.e.stan,ask:=(q.2.1,yF s.e.stan,8,3,qjT (stN s q),()) },s.p⟩
theorem qAB {s:Si} {q:vA} (hr:z2 (stN s q)):quK s q=askS s q:=by
 unfold quK askS
 have e:wrN (q.1,q.2.1,yF s.e.stan,q.2.2.2)=(qjT (stN s q),0,()):=qIL hr
 rw [e,qw4 hr]
theorem qFl {s:Si} {q:vA} (hr:z2 (stN s q)) (h1:¬ q.2.1=1) (hl:zH s.e.ph) (hq:s.e.seq≤900000) (hu:upH s.e.hub):qkU s q=qG1 (askS s q) (qjT (stN s q)):=by
 have e:wrN (q.1,q.2.1,yF s.e.stan,q.2.2.2)=(qjT (stN s q),0,()):=qIL hr
 unfold qkU
 rw [e,qAB hr,qw4 hr,if_pos ⟨rfl,rfl⟩,if_neg h1]
 exact congrArg Prod.fst (qxX (s:=askS s q) (qdD hr) hl hq hu)
end Yp
namespace Yp
open Go
set_option maxRecDepth 100000
set_option maxHeartbeats 2000000
section
variable (i : Int) (fill : UInt8) (g : Nat) (nonce : BB)
end
end Yp
namespace Yp
open Go
set_option maxRecDepth 100000
set_option maxHeartbeats 2000000
set_option linter.unusedSectionVars false
section
variable {i : Int} (hi : i = 0 ∨ i = 1) (fill : UInt8) {g : Nat} (hg : 1 ≤ g) (hg2 : g ≤ 50) {nonce : BB} (h8 : nonce.length = 8) (bs bs' : List UInt64)
include hi hg hg2 h8
end
end Yp
namespace Yp
open Go
set_option maxRecDepth 100000
abbrev tyS:Ty := .pair (.pair (.int .i64) (.pair (.sl (.int .u8)) (.pair (.int .i64) (.pair (.pair (.sl (.int .u8)) (.pair (.sl (.int .u8)) (.unit))) (.pair (.int .i64) (.pair (.int .i64) (.pair (.int .i64) (.pair (.int .i64) (.pair (.int .i64) (.pair (.pair (.int .i64) (.pair (.ar 16 (.int .u64)) (.unit))) (.pair (.pair (.pair (.int .i64) (.pair (.sl (.int .u8)) (.unit))) (.pair (.pair (.int .i64) (.pair (.sl (.int .u8)) (.unit))) (.pair (.pair (.int .i64) (.pair (.sl (.int .u8)) (.unit))) (.pair (.int .i64) (.pair (.int .i64) (.unit)))))) (.pair (.pair (.int .i64) (.pair (.int .i64) (.pair (.int .i64) (.pair (.int .i64) (.pair (.sl (.int .u8)) (.unit)))))) (.pair (.int .i64) (.pair (.int .i64) (.pair (.sl (.sl (.int .u8))) (.pair (.pair (.ar 4 (.bool)) (.pair (.ar 4 (.pair (.sl (.int .u8)) (.pair (.int .i64) (.pair (.int .i64) (.unit))))) (.pair (.ar 4 (.int .i64)) (.pair (.int .i64) (.unit))))) (.pair (.sl (.pair (.int .i64) (.pair (.sl (.int .u8)) (.unit)))) (.pair (.sl (.pair (.int .i64) (.pair (.ar 2 (.int .i64)) (.pair (.int .i64) (.pair (.sl (.int .u8)) (.unit)))))) (.pair (.ar 4 (.int .i64)) (.unit)))))))))))))))))))) (.pair (.pair (.bool) (.pair (.sl (.pair (.sl (.int .u8)) (.pair (.sl (.int .u8)) (.unit)))) (.pair (.bool) (.unit)))) (.unit))
abbrev tyN:Ty := .pair (.bool) (.pair (.int .i64) (.pair (.int .i64) (.pair (.int .i64) (.pair (.int .i64) (.pair (.sl (.int .u8)) (.pair (.sl (.int .u8)) (.pair (.int .i64) (.unit))))))))
theorem qGZ {x:yG} (h:okd tyS x):∃ s:Si,x=s.t∧qCD s.e:=by
 obtain ⟨s,rfl⟩:=qKJ x
 have e:=h.1
 exact ⟨s,rfl,e.2.2.2.2.2.2.2.2.2.1.2.1.1,e.2.2.2.2.2.2.2.2.2.2.2.2.2.2.2.1.1.1,e.2.2.2.2.2.2.2.2.2.2.2.2.2.2.2.1.2.1.1,e.2.2.2.2.2.2.2.2.2.2.2.2.2.2.2.1.2.2.1.1,e.2.2.2.2.2.2.2.2.2.2.2.2.2.2.2.2.2.2.1.1⟩
set_option maxHeartbeats 2000000
theorem qDR {l:List V}:∀ {last:Int},last≤128→zQ last l=true→(l.length:Int)≤128 - last:=by
 induction l with
 | nil=>intro last h _;simp;omega
 | cons v l ih =>
  intro last h hr
  have h1:=xD hr v (List.mem_cons_self ..)
  have h2:=qv0 h1.2
  have h3:zQ v.1 l=true:=by
   unfold zQ at hr
   rw [Bool.and_eq_true,Bool.and_eq_true] at hr
   exact hr.2.2
  have:=ih h2.2.1 h3
  simp only [List.length_cons]
  omega
theorem qjA {m:M} (h:xO m=true):m.2.1.length≤128∧fewM m:=by
 have hr:=(xZ.1 h).1
 have hl:=qDR (by omega) hr
 exact ⟨by omega,by omega,fun v hv=>by have:=qDk (xD hr v hv).2;omega⟩
def clsD (m:Int):Int:=if jI m then m / 100 else 0
def quQ (m:Int):Prop:=clsD m=1∨clsD m=2∨clsD m=4
instance (m:Int):Decidable (quQ m):=by unfold quQ;infer_instance
theorem qc3 (m:M):wC (m,())=some (D (quQ m.1),()):=by
 unfold wC quQ
 dsimp only
 rw [show qgB (m.1,())=some (clsD m.1,()) from qsT m.1]
 refine (qG rfl).trans ?_
 dsimp only
 generalize clsD m.1=c
 by_cases h1:c=1
 ·subst h1;rw [D_t (.inl rfl)];rfl
 by_cases h2:c=2
 ·subst h2;rw [D_t (.inr (.inl rfl))];rfl
 by_cases h4:c=4
 ·subst h4;rw [D_t (.inr (.inr rfl))];rfl
 rw [D_f (by omega),qb9 h1,qb9 h2,qb9 h4];rfl
def qx0 (m:M):Prop:=(getR 39 m.2.1).2.1=true∧(getR 39 m.2.1).1=[57,49]
instance (m:M):Decidable (qx0 m):=by unfold qx0;infer_instance
theorem qEX (g:BB×Bool×Unit):(ob (sel g.2.1 (some (seq g.1 [57,49],())) (some (false,()))) fun (a:Bool×Unit)=>(some (a.1,()):Option (Bool×Unit)))=some (D (g.2.1=true∧g.1=[57,49]),()):=by
 obtain ⟨b,e,⟨⟩⟩:=g
 cases e
 ·rw [D_f (fun h=>Bool.false_ne_true h.1)];rfl
 ·refine (qG rfl).trans ?_
  by_cases h:b=[57,49]
  ·rw [D_t ⟨rfl,h⟩,qIY h]
  ·rw [D_f (fun x=>h x.2),qKL h]
theorem qsU {m:M} (hr:zQ 0 m.2.1=true) (hl:m.2.1.length≤1000000):qc4 (m,())=some (D (qx0 m),()):=by
 unfold qc4 qx0
 dsimp only
 rw [qnK _ _ hl,qzE hr]
 exact (qG rfl).trans (qEX _)
def stM (m:M) (day:Int):M:=(m.1,setR m.2.1 (15,dg day 6,()),())
def badS (b:BB) (day:Int):Prop:=day < 0∨999999 < day∨¬ (rdM b).2.1=0∨¬ quQ (rdM b).1.1∨qx0 (rdM b).1
instance (b:BB) (day:Int):Decidable (badS b day):=by unfold badS;infer_instance
def vV (b:BB) (day:Int):BB×Int :=
 if badS b day then ([],1) else if 900 < (wrM (stM (rdM b).1 day)).length then ([],4) else (wrM (stM (rdM b).1 day),0)
theorem qID (day:Int):j8 15 (dg day 6)=true:=qa1 (no:=15) (w:=6) fo15 (by omega)
theorem qxQ {m:M} (h:xO m=true) (day:Int):xO (stM m day)=true:=by
 have h1:=xZ.1 h
 exact xZ.2 ⟨qDN (x:=(15,dg day 6,())) (qID day) (by show (0:Int) < 15;omega) h1.1,h1.2⟩
theorem qFi {b:BB} (h:(rdM b).2.1=0):xO (rdM b).1=true∧wrM (rdM b).1=b:=by
 exact qu3 (b:=b) (Prod.ext rfl (Prod.ext h rfl))
theorem qDL {day:Int} (h0:0≤day) (h1:day≤999999):x4 (day,6,())=some (dg day 6,0,())∧xP (day,6,())=some (dg day 6,0,()):=by
 rw [kX _ _ (by omega),yN _ _ (by omega),if_pos ⟨by omega,by omega,h0,by show day < 10 ^ 6;omega⟩]
 exact ⟨rfl,rfl⟩
theorem qDJ {m:M} (hm:xO m=true) (day:Int) {e:Int}:(sel (lt 900 (len (wrM (stM m day)))) (some (none' UInt8,4,())) (some (wrM (stM m day),0,())):Option (BB×Int×Unit))=some ((if 900 < (wrM (stM m day)).length then (([]:BB),(4:Int)) else (wrM (stM m day),0)).1,(if 900 < (wrM (stM m day)).length then (([]:BB),(4:Int)) else (wrM (stM m day),0)).2,()):=by
 by_cases h:900 < (wrM (stM m day)).length
 ·rw [if_pos h];exact qE (by simp only [go_sem,Int.reduceToNat];omega)
 ·rw [if_neg h];exact qB (by simp only [go_sem,Int.reduceToNat];omega)
theorem qgH (b:BB) (day:Int) (hb:b.length≤1000000):qc7 (b,day,())=some ((vV b day).1,(vV b day).2,()):=by
 unfold qc7 vV
 rw [qk8 _ hb]
 refine (qG rfl).trans ?_
 dsimp only
 by_cases h1:day < 0
 ·rw [if_pos (show badS b day from .inl h1)]
  exact (qG (qE (by simp only [go_sem,Int.reduceToNat];omega))).trans rfl
 by_cases h2:999999 < day
 ·rw [if_pos (show badS b day from .inr (.inl h2))]
  exact (qG ((qB (by simp only [go_sem,Int.reduceToNat];omega)).trans (qE (by simp only [go_sem,Int.reduceToNat];omega)))).trans rfl
 by_cases h3:(rdM b).2.1=0
 ·obtain ⟨hr,hw⟩:=qFi h3
  obtain ⟨hl,hf⟩:=qjA hr
  have hr0:=(xZ.1 hr).1
  rw [qc3,qsU hr0 (by omega)]
  by_cases h4:quQ (rdM b).1.1
  ·by_cases h5:qx0 (rdM b).1
   ·rw [if_pos (show badS b day from .inr (.inr (.inr (.inr h5)))),D_t h4,D_t h5]
    exact (qG ((qB (by simp only [go_sem,Int.reduceToNat];omega)).trans ((qB (by simp only [go_sem,Int.reduceToNat];omega)).trans ((qB (bq_f h3)).trans rfl)))).trans rfl
   ·rw [if_neg (show ¬ badS b day by rintro (h | h | h | h | h) <;> first | exact h1 h | exact h2 h | exact h h3 | exact h h4 | exact h5 h),D_t h4,D_f h5]
    refine (qG (a:=(false,())) ((qB (by simp only [go_sem,Int.reduceToNat];omega)).trans ((qB (by simp only [go_sem,Int.reduceToNat];omega)).trans ((qB (bq_f h3)).trans rfl)))).trans ((qB rfl).trans ?_)
    rw [(qDL (by omega) (by omega)).1]
    refine (qG rfl).trans ((qH (by simp only [go_sem,Int.reduceToNat,z9];omega)).trans ?_)
    rw [show jL ((rdM b).1,15,(dg day 6,(0:Int),()).1,())=some (stM (rdM b).1 day,0,()) by
     rw [qnJ _ _ _ (by omega) (by rw [z9];omega)]
     unfold qG0
     rw [if_neg (by rw [fo15];simp),if_pos (qID day),qDF hr0];rfl]
    refine (qG rfl).trans ?_
    have hs:=qxQ hr day
    rw [qiP _ (qjA hs).2,if_pos hs]
    exact (qG rfl).trans (qDJ hr day (e:=0))
  ·rw [if_pos (show badS b day from .inr (.inr (.inr (.inl h4)))),D_f h4]
   exact (qG ((qB (by simp only [go_sem,Int.reduceToNat];omega)).trans ((qB (by simp only [go_sem,Int.reduceToNat];omega)).trans ((qB (bq_f h3)).trans rfl)))).trans rfl
 ·rw [if_pos (show badS b day from .inr (.inr (.inl h3)))]
  exact (qG ((qB (by simp only [go_sem,Int.reduceToNat];omega)).trans ((qB (by simp only [go_sem,Int.reduceToNat];omega)).trans (qE (bq_t h3))))).trans rfl
theorem qDK {b:BB} {day:Int} (h:(vV b day).2=0):qeN (vV b day).1:=by
 unfold vV at h ⊢
 split at h
 ·exact absurd h (by show ¬ (1:Int)=0;omega)
 split at h
 ·exact absurd h (by show ¬ (4:Int)=0;omega)
 ·rename_i h1 h2
  rw [if_neg h1,if_neg h2]
  refine ⟨?_,by show (wrM (stM (rdM b).1 day)).length≤900;omega⟩
  show 1≤(wrM (stM (rdM b).1 day)).length
  unfold wrM
  rw [List.length_append,List.length_append,xL]
  split <;> omega
instance (n:vA):Decidable (fewN n):=by unfold fewN;infer_instance
end Yp
namespace Yp
open Go
set_option maxRecDepth 100000
set_option maxHeartbeats 2000000
set_option linter.unusedSectionVars false
section
variable {i : Int} (hi : i = 0 ∨ i = 1) (fill : UInt8) {g : Nat} (hg : 1 ≤ g) (hg2 : g ≤ 50) {nonce : BB} (h8 : nonce.length = 8) (bs bs' : List UInt64)
include hi hg hg2 h8
end
end Yp
namespace Yp
open Go
set_option maxRecDepth 100000
set_option maxHeartbeats 2000000
set_option linter.unusedSectionVars false
section
variable (fill : UInt8) {g : Nat} (hg : 1 ≤ g) (hg2 : g ≤ 50) {nonce : BB} (h8 : nonce.length = 8)
include hg hg2 h8
end
end Yp
namespace Yp
open Go
set_option maxRecDepth 100000
set_option maxHeartbeats 2000000
def qtY (s:Si) (p:Int):Si:=⟨qHz s.e p,s.p⟩
theorem qHy (e:En') (p:Int):(qHz e p).got.length≤e.got.length+1:=by
 show (if zH e.ph then e.got++[(5,qjD e,0,[],())] else e.got).length≤_
 split
 ·rw [List.length_append];exact Nat.le_refl _
 ·omega
theorem qFF {n:Nat} {s:Si} (h:okS n s) {p:Int} (h0:0≤p) (h8:p≤8):okS (n+1) (qtY s p):=by
 refine ⟨{ qvF h.e (Nat.le_succ n) with ph:=⟨h0,h8⟩,own:=by show jO 0;decide,oth:=by show jO 0;decide,seq:=by show jO 0;decide,ring := .inl rfl,got := ?_,win:=rfl,queue:=by show ([]:List BB).length≤1000;simp },Nat.le_succ_of_le h.p⟩
 have h1:=qHy s.e p
 have h2:=h.e.got
 exact Nat.le_trans h1 (by omega)
def phS (s:Si) (p:Int):Si:=⟨{ s.e with ph:=p },s.p⟩
theorem qIo {n:Nat} {s:Si} (h:okS n s) {p:Int} (h0:0≤p) (h8:p≤8):okS n (phS s p):=⟨{ h.e with ph:=⟨h0,h8⟩ },h.p⟩
def evS (s:Si) (k n:Int) (b:BB):Si:=⟨{ s.e with got:=s.e.got++[(k,qjD s.e,n,b,())] },s.p⟩
theorem qIp {n:Nat} {s:Si} (h:okS n s) (k q:Int) (b:BB):okS (n+1) (evS s k q b):=by
 refine ⟨{ qvF h.e (Nat.le_succ n) with got := ?_ },Nat.le_succ_of_le h.p⟩
 have:=h.e.got
 show (s.e.got++[(k,qjD s.e,q,b,())]).length≤n+1
 rw [List.length_append,List.length_singleton];omega
theorem qgG {s:Si} {n:Nat} (hs:okS n s) (hn:n≤900000) (k q:Int) (b:BB):qc6 (s.t,k,q,b,())=some ((evS s k q b).t,()):=by
 have hg:=hs.e.got
 unfold qc6
 dsimp only
 rw [show s.t.1.2.2.2.2.2.2.2.2.2.2.2.2.2.2.2.2.2.1=s.e.got from rfl,qEc]
 refine (qG rfl).trans ?_
 rw [show kP (s.t.1,())=_ from qb1 s.e]
 refine (qG rfl).trans ?_
 refine (qH (by simp only [go_sem,Int.reduceToNat];simp;omega)).trans ?_
 rfl
def popS (s:Si) (q:List BB):Si:=⟨{ s.e with queue:=q },s.p⟩
theorem qvD {n:Nat} {s:Si} (h:okS n s) {q:List BB} (hq:q.length≤1000):okS n (popS s q):=⟨{ h.e with queue:=hq },h.p⟩
def qsM:Nat→Si→Si
 | 0,s=>s
 | n+1,s=>match s.e.queue with
  | []=>s
  | b :: q=>if (wE s b).2=0 then qsM n (popS (wE s b).1 q) else s
def qHg (s:Si):Si:=qsM s.e.queue.length s
theorem qFo {f:yG×Unit→Option (LS (yG×Unit) (yG×Unit))}
  (h0:∀ s n,okS n s→n≤900000→s.e.queue=[]→f (s.t,())=some (.ex 0 (s.t,())))
  (h1:∀ s n b q,okS n s→n≤900000→s.e.queue=b :: q→(wE s b).2=0→f (s.t,())=some (.nx ((popS (wE s b).1 q).t,())))
  (h2:∀ s n b q,okS n s→n≤900000→s.e.queue=b :: q→¬ (wE s b).2=0→f (s.t,())=some (.ex 0 (s.t,()))∨f (s.t,())=some (.rt (s.t,()))) :
  ∀ k (s:Si) n,okS n s→n+k≤900000→s.e.queue.length=k →
   lc (loop f (s.t,())) (fun (_:yG×Unit)=>none) (fun (i:Nat) (a:yG×Unit)=>ck (neb i 0) (some (a.1,()))) (fun (r:yG×Unit)=>some r)=some ((qsM k s).t,()):=by
 intro k
 induction k with
 | zero =>
  intro s n hs hn hk
  exact (qY (qT (h0 s n hs (by omega) (List.length_eq_zero_iff.1 hk)))).trans rfl
 | succ k ih =>
  intro s n hs hn hk
  obtain ⟨b,q,hq⟩:∃ b q,s.e.queue=b :: q:=by
   cases h:s.e.queue with
   | nil=>rw [h] at hk;cases hk
   | cons b q=>exact ⟨b,q,rfl⟩
  have hl:q.length=k:=by rw [hq,List.length_cons] at hk;omega
  have hq1:=hs.e.queue
  rw [hq,List.length_cons] at hq1
  unfold qsM
  rw [hq]
  dsimp only
  by_cases h:(wE s b).2=0
  ·rw [if_pos h]
   exact (qY (jK (h1 s n b q hs (by omega) hq h))).trans (ih _ (n+1) (qvD (qoX hs b) (by omega)) (by omega) hl)
  ·rw [if_neg h]
   rcases h2 s n b q hs (by omega) hq h with h' | h'
   ·exact (qY (qT h')).trans rfl
   ·exact (qY (qd8 h')).trans rfl
theorem take_nil {q:List BB} (h:q=[]):qcQ (q,())=some ([],[],false,()):=by subst h;rfl
theorem qxO {q r:List BB} {b:BB} (h:q=b :: r) (hl:q.length≤1000000):qcQ (q,())=some (b,r,true,()):=by
 subst h
 have hl':r.length+1≤1000000:=hl
 unfold qcQ
 dsimp only
 refine (qB (by simp only [go_sem,Int.reduceToNat];simp only [List.length_cons];omega)).trans ((qH (by simp only [go_sem,Int.reduceToNat];simp only [List.length_cons];omega)).trans ((qH (by simp only [go_sem,Int.reduceToNat];simp only [List.length_cons];omega)).trans ?_))
 unfold kE
 dsimp only
 rw [show sub (b :: r) 1 (len (b :: r))=r by simp [sub,len]]
 refine (qG (qH (by simp only [go_sem,Int.reduceToNat];omega))).trans rfl
theorem qiQ {s:Si} {n:Nat} (hs:okS n s) (hn:n≤800000):qgI (s.t,())=some ((qHg s).t,()):=by
 unfold qgI
 have hq:=hs.e.queue
 refine qFo ?_ ?_ ?_ s.e.queue.length s n hs (by omega) rfl
 ·intro s n hs hn h
  exact (z5 (take_nil h)).trans rfl
 ·intro s n b q hs hn h hz
  have hq:=hs.e.queue
  refine (z5 (qxO h (by omega))).trans ((qG rfl).trans ((qB rfl).trans ?_))
  refine (z5 (y4 hs hn b)).trans ((qG rfl).trans ((qB (bq_f hz)).trans ?_))
  rfl
 ·intro s n b q hs hn h hz
  have hq:=hs.e.queue
  refine .inl ((z5 (qxO h (by omega))).trans ((qG rfl).trans ((qB rfl).trans ?_)))
  exact (z5 (y4 hs hn b)).trans ((qG rfl).trans (qE (bq_t hz)))
theorem qyO:∀ (k:Nat) {n:Nat} {s:Si},okS n s→okS (n+k) (qsM k s)
 | 0,n,s,h=>h
 | k+1,n,s,h=>by
  unfold qsM
  split
  ·exact xA h (by omega)
  ·rename_i b q hq
   split
   ·have hq1:=h.e.queue
    rw [hq,List.length_cons] at hq1
    have:=qyO k (qvD (qoX h b) (q:=q) (by omega))
    rwa [show n+1+k=n+(k+1) by omega] at this
   ·exact xA h (by omega)
theorem qHq {n:Nat} {s:Si} (h:okS n s):okS (n+1000) (qHg s):=xA (qyO _ h) (by have:=h.e.queue;omega)
def putQ (q:List BB) (b:BB):List BB×Int:=if 8≤q.length then (q,8) else (q++[b],0)
theorem qsL (q:List BB) (b:BB):qkT (q,b,8,())=some ((putQ q b).1,(putQ q b).2,()):=by
 unfold qkT putQ qcR
 dsimp only
 rw [if_neg (by omega)]
 by_cases h:8 < (q.length:Int)
 ·rw [if_pos h,if_pos (by omega)];rfl
 ·rw [if_neg h]
  refine (qG rfl).trans ?_
  dsimp only
  rw [show (8:Int).toNat=8 from rfl,List.length_singleton]
  by_cases h8:q.length=8
  ·rw [if_pos (by omega),h8];rfl
  ·rw [if_neg (by omega),show min (8 - q.length) 1=1 by omega,List.take_of_length_le (by rw [List.length_singleton];omega)];rfl
def subS (s:Si) (b:BB):Si×Int :=
 if ¬ (vV b s.e.day).2=0 then (s,(vV b s.e.day).2) else if ¬ qeM s.e.ph then (s,7)
 else if ¬ (putQ s.e.queue (vV b s.e.day).1).2=0 then (s,(putQ s.e.queue (vV b s.e.day).1).2)
 else (qHg (evS (popS s (putQ s.e.queue (vV b s.e.day).1).1) 1 0 (vV b s.e.day).1),0)
theorem qCR {q:List BB} {b:BB} (h:q.length≤1000):(putQ q b).1.length≤1000:=by
 unfold putQ
 split
 ·exact h
 ·rw [List.length_append,List.length_singleton];omega
theorem qJl {n:Nat} {s:Si} (h:okS n s) (b:BB):okS (n+1001) (subS s b).1:=by
 unfold subS
 split
 ·exact xA h (by omega)
 split
 ·exact xA h (by omega)
 split
 ·exact xA h (by omega)
 ·exact xA (qHq (qIp (qvD h (qCR h.e.queue)) _ _ _)) (by omega)
theorem wJ {s:Si} {n:Nat} (hs:okS n s) (hn:n≤700000) (b:BB) (hb:b.length≤1000000):yS (s.t,b,())=some ((subS s b).1.t,(subS s b).2,()):=by
 unfold yS subS
 refine (z5 (qgH b s.e.day hb)).trans ((qG rfl).trans ?_)
 generalize vV b s.e.day=r
 obtain ⟨o,e⟩:=r
 dsimp only
 by_cases h0:e=0
 ·subst h0
  rw [if_neg (by simp)]
  refine (qB rfl).trans ((z5 (qaQ s.e.ph)).trans ((qG rfl).trans ?_))
  by_cases hg:qeM s.e.ph
  ·rw [if_neg (not_not_intro hg)]
   refine (qB (by rw [D_t hg];rfl)).trans ((z5 (qsL s.e.queue o)).trans ((qG rfl).trans ?_))
   have hl:=qCR (b:=o) hs.e.queue
   generalize putQ s.e.queue o=p at hl ⊢
   obtain ⟨q,c⟩:=p
   dsimp only at hl ⊢
   by_cases hc:c=0
   ·subst hc
    rw [if_neg (by simp)]
    have h1:=qvD hs hl
    refine (qB rfl).trans ((z5 (qgG h1 (by omega) 1 0 o)).trans ((qG rfl).trans ?_))
    exact (z5 (qiQ (qIp h1 1 0 o) (by omega))).trans rfl
   ·rw [if_pos hc]
    exact qE (bq_t hc)
  ·rw [if_pos hg]
   exact qE (by rw [D_f hg];rfl)
 ·rw [if_pos h0]
  exact qE (bq_t h0)
def dayQ (day:Int):vA:=(true,201,0,0,0,[],[],day,())
def qjN (s:Si) (day:Int):Si×Int :=
 if day≤s.e.day∨999999 < day then (s,1) else if ¬ qeM s.e.ph then (s,7) else if ¬ s.e.ph=3∨¬ s.e.ask.1=0 then (s,9)
 else (qkU (phS s 5) (dayQ day),0)
theorem qC2 {n:Nat} {s:Si} (h:okS n s) (day:Int):okS (n+1) (qjN s day).1:=by
 unfold qjN
 split
 ·exact xA h (by omega)
 split
 ·exact xA h (by omega)
 split
 ·exact xA h (by omega)
 ·exact qFE (qIo h (by omega) (by omega)) _
theorem qFv:qcT (3,7,())=some (5,true,()):=rfl
theorem qFu:qcT (5,8,())=some (3,true,()):=rfl
theorem qiR {s:Si} {n:Nat} (hs:okS n s) (hn:n≤900000) (day:Int):qgL (s.t,day,())=some ((qjN s day).1.t,(qjN s day).2,()):=by
 unfold qgL qjN
 dsimp only
 rw [show s.t.1.2.2.2.2.2.2.2.2.2.2.2.2.2.1=s.e.day from rfl,show s.t.1.2.2.1=s.e.ph from rfl,show s.t.1.2.2.2.2.2.2.2.2.2.2.2.1.1=s.e.ask.1 from rfl]
 by_cases h1:day≤s.e.day∨999999 < day
 ·rw [if_pos h1]
  refine (qG (a:=(true,())) ?_).trans rfl
  simp only [go_sem,Int.reduceToNat]
  exact qiG h1
 ·rw [if_neg h1]
  refine (qG (a:=(false,())) (by simp only [go_sem,Int.reduceToNat];exact qdK (by omega))).trans ((qB rfl).trans ?_)
  rw [qaQ]
  refine (qG rfl).trans ?_
  by_cases h2:qeM s.e.ph
  ·rw [if_neg (not_not_intro h2),D_t h2]
   refine (qB rfl).trans ?_
   by_cases h3:¬ s.e.ph=3∨¬ s.e.ask.1=0
   ·rw [if_pos h3]
    refine (qG (a:=(true,())) (by simp only [go_sem,Int.reduceToNat];exact qiG h3)).trans rfl
   ·rw [if_neg h3]
    refine (qG (a:=(false,())) (by simp (disch:=omega) only [go_sem,Int.reduceToNat];exact qdK (fun h=>h3 (.inr h)))).trans ((qB rfl).trans ?_)
    simp only [not_or,Classical.not_not] at h3
    rw [h3.1,qFv]
    refine (qG rfl).trans ?_
    exact (z5 (qj1 (qIo hs (p:=5) (by omega) (by omega)) hn (dayQ day))).trans rfl
  ·rw [if_pos h2,D_f h2];rfl
def givG (s:Si):Si:=if s.e.ph=5 then ⟨qyM s.e,s.p⟩ else s
theorem qb3 {s:Si} (h:s.e.ph=5):qc5 (s.t,())=some ((⟨qyM s.e,s.p⟩:Si).t,()):=by
 unfold qc5
 rw [show (s.t,()).1.1.2.2.1=5 from h,qFu];rfl
theorem qgJ (s:Si):qc8 (s.t,())=some ((givG s).t,()):=by
 unfold qc8 givG
 by_cases h:s.e.ph=5
 ·rw [if_pos h]
  refine (qB (bq_f h)).trans ?_
  exact (z5 (qb3 h)).trans rfl
 ·rw [if_neg h]
  exact qE (bq_t h)
def qD2 (s:Si) (day:Int):Si:=⟨{ s.e with day:=maxI s.e.day day },s.p⟩
theorem qvE {n:Nat} {s:Si} (h:okS n s) (day:Int):okS n (qD2 s day):=⟨{ h.e with },h.p⟩
def qHZ (s:Si) (n:vA):Si:=(wE (qD2 s n.2.2.2.2.2.2.2.1) (qFd n 0)).1
theorem qHr {m:Nat} {s:Si} (h:okS m s) (n:vA):okS (m+1) (qHZ s n):=qoX (qvE h _) _
theorem qgK {s:Si} {m:Nat} (hs:okS m s) (hm:m≤900000) (n:vA):qc9 (s.t,n,())=some ((qHZ s n).t,()):=by
 unfold qc9
 exact qH7 (qvE hs n.2.2.2.2.2.2.2.1) hm n 0
noncomputable def agrS (s:Si) (n:vA):Si :=
 if ¬ s.e.ph=5∨¬ qtW s.e.ask n.2.1 n.2.2.1 then qDr s 3
 else if n.2.2.2.1=0 then qD2 ⟨qyM s.e,s.p⟩ (rdN s.e.ask.2.2.2.2.1).1.2.2.2.2.2.2.2.1 else ⟨qyM s.e,s.p⟩
theorem qe5 {s:Si} (n:vA) (hb:s.e.ask.2.2.2.2.1.length≤1000000):qa0 (s.t,n,())=some ((agrS s n).t,()):=by
 unfold qa0 agrS
 dsimp only
 rw [show s.t.1.2.2.1=s.e.ph from rfl,show s.t.1.2.2.2.2.2.2.2.2.2.2.2.1=s.e.ask from rfl,qtA]
 by_cases h5:s.e.ph=5
 ·by_cases hm:qtW s.e.ask n.2.1 n.2.2.1
  ·rw [if_neg (fun h=>h.elim (fun h=>h h5) (fun h=>h hm)),D_t hm]
   refine (qG (a:=(false,())) ((qB (bq_f h5)).trans rfl)).trans ((qB rfl).trans ?_)
   rw [qsN _ hb]
   refine (qG rfl).trans ?_
   by_cases hr:n.2.2.2.1=0
   ·rw [if_pos hr]
    refine (qE (qjU hr)).trans ?_
    exact (z5 (qb3 (s:=qD2 s (rdN s.e.ask.2.2.2.2.1).1.2.2.2.2.2.2.2.1) h5)).trans rfl
   ·rw [if_neg hr]
    refine (qB (qb9 hr)).trans ?_
    exact (z5 (qb3 h5)).trans rfl
  ·rw [if_pos (.inr hm),D_f hm]
   exact (qG (a:=(true,())) ((qB (bq_f h5)).trans rfl)).trans ((qE rfl).trans (quE s))
 ·rw [if_pos (.inl h5)]
  exact (qG (a:=(true,())) (qE (bq_t h5))).trans ((qE rfl).trans (quE s))
theorem qJp {m:Nat} {s:Si} (h:okS m s) (n:vA):okS m (agrS s n):=by
 have ho:okS m ⟨qyM s.e,s.p⟩:=⟨{ h.e with ph:=⟨by show (0:Int)≤3;omega,by show (3:Int)≤8;omega⟩ },h.p⟩
 unfold agrS
 split
 ·exact qFG h 3
 split
 ·exact qvE ho _
 ·exact ho
def oqS (h:THub):Si:=⟨{ twE 0 (u8 0) 1 with hub:=h },(true,[],false,())⟩
theorem qJk:qhZ (true,())=some ((oqS hub1).t,()):=by
 unfold qhZ
 refine (qH rfl).trans ?_
 rw [show rep (nat 32) (u8 0)=twK (u8 0) from rfl,show qfO (twK (u8 0),[3,4],1,none' UInt8,())=_ from qr5 (twK (u8 0)) [3,4] 1 [] (by rw [qtF];omega) (by simp)]
 refine (qG rfl).trans ?_
 dsimp only
 rw [show keyD (twK (u8 0)) [3,4] 1 []=twG (u8 0) 1 from rfl,qsB,show newR (twG (u8 0) 1)=(twR (u8 0) 1,0,()) by unfold newR;rw [if_pos (qg7 (u8 0) (by omega))];rfl]
 refine (qG rfl).trans ((qE rfl).trans ?_)
 dsimp only
 rw [qKQ]
 refine (qG rfl).trans ?_
 rw [qr9]
 refine (qG rfl).trans ?_
 exact (qG (o:=qkQ _) rfl).trans rfl
theorem qK3 {h:THub} (h1:h.1.length=4) (h2:0≤h.2.2.2.1∧h.2.2.2.1 < 4) (h3:h.2.1.length=4) (h4:h.2.2.1.length=4):okS 0 (oqS h):=by
 have:=qK2 0 (.inl rfl) (u8 0) (g:=1) (by omega) (by omega)
 exact ⟨{ this.e with up:=h1,next:=h2,feed:=h3,life:=h4 },this.p⟩
theorem qJm:okS 0 (oqS hub1):=qK3 rfl ⟨by show (0:Int)≤0;omega,by show (0:Int) < 4;omega⟩ rfl rfl
def payM (mti:Int):M:=(mti,[(11,[48,48,48,48,48,55],())],())
def payB (mti:Int):BB:=wrM (payM mti)
theorem qhW {mti:Int} (h:mti=200∨mti=400):xO (payM mti)=true:=by rcases h with rfl | rfl <;> decide
theorem qoW {mti:Int} (h:mti=200∨mti=400):qaX (mti,())=some (payB mti,()):=by
 unfold qaX
 have hr:=qhW h
 rw [show yL ((mti,[(11,[u8 48,u8 48,u8 48,u8 48,u8 48,u8 55],())],()),())=yL (payM mti,()) from rfl,qoH _ (qjA hr).2,if_pos hr];rfl
def payD (day:Int):M:=(200,[(11,[48,48,48,48,48,55],()),(15,dg day 6,())],())
theorem qEM (day:Int):stM (payM 200) day=payD day:=rfl
theorem qtQ (day:Int):xO (payD day)=true:=qxQ (qhW (.inl rfl)) day
theorem qkV (day:Int):qeN (wrM (payD day)):=by
 refine ⟨?_, ?_⟩
 ·unfold wrM
  rw [List.length_append,List.length_append,xL]
  split <;> omega
 ·have:=qEA (qtQ day)
  have h:((payD day).2.1.map (fun v=>v.2.1.length+2)).sum=16:=by
   show 6+2+((dg day 6).length+2+0)=16
   rw [z9]
  omega
theorem qpE {day:Int} (h0:0≤day) (h1:day≤999999):vV (payB 200) day=(wrM (payD day),0):=by
 have hr:rdM (payB 200)=(payM 200,0,()):=qoT (qhW (.inl rfl))
 unfold vV
 rw [if_neg,hr]
 ·rw [if_neg,qEM]
  have:=(qkV day).2
  show ¬ 900 < (wrM (stM (payM 200) day)).length
  rw [qEM];omega
 ·unfold badS
  rw [hr]
  rintro (h | h | h | h | h)
  ·omega
  ·omega
  ·exact h rfl
  ·exact h (by show quQ 200;decide)
  ·exact absurd h (by show ¬ qx0 (payM 200);decide)
theorem qCF (s:Si) (b:BB):(wE s b).1.e.day=s.e.day:=by
 unfold wE
 split
 ·rfl
 split
 ·rfl
 split
 ·rfl
 have h:(qgP s (qiC s.e b) s.e.ring.1.2.1).1.e.day=s.e.day:=by unfold qgP;split <;> rfl
 dsimp only
 split <;> exact h
def zO (day:Int):BB:=wrM (payD day)
def zX:Si:=popS (qG1 (evS (popS (oqS hub1) [zO 0]) 1 0 (zO 0)) (zO 0)) []
theorem qLG:subS (oqS hub1) (payB 200)=(zX,0):=by
 unfold subS
 rw [show (oqS hub1).e.day=0 from rfl,qpE (by omega) (by omega),if_neg (not_not_intro rfl),if_neg (not_not_intro (show qeM (oqS hub1).e.ph from .inl rfl)),show putQ (oqS hub1).e.queue (wrM (payD 0),(0:Int)).1=([zO 0],0) from rfl,if_neg (not_not_intro rfl)]
 refine Prod.ext ?_ rfl
 show qsM 1 (evS (popS (oqS hub1) [zO 0]) 1 0 (zO 0))=zX
 unfold qsM
 rw [show (evS (popS (oqS hub1) [zO 0]) 1 0 (zO 0)).e.queue=[zO 0] from rfl]
 dsimp only
 rw [qxX (s:=evS (popS (oqS hub1) [zO 0]) 1 0 (zO 0)) (b:=zO 0) (qkV 0) (by show zH 3;unfold zH;omega) (by show (0:Int)≤900000;omega) qKy,if_pos rfl]
 rfl
theorem qh7 {s:Si} {day:Int} (h0:0≤day) (h9:day≤999999):z2 (stN s (dayQ day)):=by
 have h:=qjZ s.e.stan
 refine ⟨.inr (.inr (.inr (.inl rfl))),h.1,h.2,by show (0:Int)≤0;omega,by show (0:Int)≤99;omega,fun _=>rfl, ?_⟩
 unfold qtZ
 rw [if_neg (fun q=>absurd q.2 (by show ¬ (201:Int)=101;omega))]
 refine ⟨rfl,rfl,rfl, ?_⟩
 rw [if_pos ⟨rfl,rfl⟩]
 exact ⟨h0,h9⟩
def datS (s:Si) (day:Int):Si:=qG1 (askS (phS s 5) (dayQ day)) (qjT (stN (phS s 5) (dayQ day)))
theorem qJ0 {s:Si} {day:Int} (h0:0≤s.e.day) (hd:s.e.day < day) (h9:day≤999999) (hp:s.e.ph=3) (ha:s.e.ask.1=0) (hq:s.e.seq≤900000) (hu:upH s.e.hub):qjN s day=(datS s day,0):=by
 unfold qjN
 rw [if_neg (by omega),if_neg (not_not_intro (show qeM s.e.ph by rw [hp];exact .inl rfl)),if_neg (by omega)]
 refine Prod.ext ?_ rfl
 exact qFl (s:=phS s 5) (qh7 (by omega) h9) (by show ¬ (201:Int)=1;omega) (by show zH 5;unfold zH;omega) hq hu
theorem qIa {s:Si} {day:Int} (h0:0≤s.e.day) (hd:s.e.day < day) (h9:day≤999999) {n:vA} (hn:n.2.1=201) (hs:n.2.2.1=(datS s day).e.ask.2.1) (hr:n.2.2.2.1=0) (bs:WT) (p:qcA):agrS ⟨{ (datS s day).e with win:=bs },p⟩ n=qD2 ⟨qyM { (datS s day).e with win:=bs },p⟩ day:=by
 unfold agrS
 rw [if_neg,if_pos hr]
 ·rw [show (⟨{ (datS s day).e with win:=bs },p⟩:Si).e.ask.2.2.2.2.1=qjT (stN (phS s 5) (dayQ day)) from rfl,qGK (qh7 (by omega) h9)]
  rfl
 ·rintro (h | h)
  ·exact h rfl
  ·refine h ⟨?_,hn.symm,hs.symm⟩
   intro h
   have:(201:Int)=0:=congrArg Prod.fst h
   omega
theorem qIW:qeC ()=some (true,()):=by
 have ok0:=qJm
 unfold qeC
 refine (z5 qJk).trans ((qG rfl).trans ((z5 (qoW (.inl rfl))).trans ((qG rfl).trans ?_)))
 have hb:(payB 200).length≤1000000:=by
  have:=(qkV 0).2
  have:=qEA (qhW (mti:=200) (.inl rfl))
  have h:((payM 200).2.1.map (fun v=>v.2.1.length+2)).sum=8:=rfl
  unfold payB;omega
 have hx:=wJ ok0 (by omega) (payB 200) hb
 rw [qLG] at hx
 refine (z5 hx).trans ((qG rfl).trans ((z5 (qoW (.inl rfl))).trans ((qG rfl).trans ?_)))
 have hst:=qgH (payB 200) 5 hb
 rw [qpE (by omega) (by omega)] at hst
 refine (z5 hst).trans ((qG rfl).trans ?_)
 have hrd:qcM (wrM (payD 5),())=some (payD 5,0,()):=by
  rw [qpY _ (by have:=(qkV 5).2;omega),qoT (qtQ 5)]
 refine (z5 hrd).trans ((qG rfl).trans ?_)
 have hgt:qfT (payD 5,15,())=some (dg 5 6,true,()):=(qsE (payD 5) 15 (by show (2:Nat)≤1000000;omega)).trans rfl
 refine (z5 hgt).trans ((qG rfl).trans ?_)
 refine (z5 (qpR (oqS hub1).e 0 (by show (0:Nat)≤1000000;omega))).trans ((qG rfl).trans ((z5 (qoW (.inl rfl))).trans ((qG rfl).trans ?_)))
 have okl:okS 1 (qtY (oqS hub1) 0):=qFF ok0 (by omega) (by omega)
 have hl:=wJ okl (by omega) (payB 200) hb
 have hl7:subS (qtY (oqS hub1) 0) (payB 200)=(qtY (oqS hub1) 0,7):=by
  unfold subS
  rw [show (qtY (oqS hub1) 0).e.day=0 from rfl,qpE (by omega) (by omega),if_neg (not_not_intro rfl),if_pos (show ¬ qeM (qtY (oqS hub1) 0).e.ph from show ¬ qeM (0:Int) by decide)]
 rw [hl7] at hl
 refine (z5 hl).trans ((qG rfl).trans ?_)
 have hd:=qiR ok0 (by omega) 9
 have okd:=qC2 ok0 9
 rw [qJ0 (s:=oqS hub1) (day:=9) (by show (0:Int)≤0;omega) (by show (0:Int) < 9;omega) (by omega) rfl rfl (by show (0:Int)≤900000;omega) qKy] at hd okd
 refine (z5 hd).trans ((qG rfl).trans ((z5 (qoW (.inr rfl))).trans ((qG rfl).trans ?_)))
 have ht:qbI ((oqS hub1).t,(2,0,[0,0],0,4,payB 400,none' UInt8,()),payD 5,())=some ((evS (oqS hub1) 2 4 (payB 400)).t,()):=by
  unfold qbI
  refine (z5 (qc3 (payD 5))).trans ((qG rfl).trans ((qB (by rw [D_t (show quQ (payD 5).1 from show quQ 200 by decide)];rfl)).trans ?_))
  refine (z5 (qaQ 3)).trans ((qG rfl).trans ((qE (D_t (.inl rfl))).trans ?_))
  refine (qG (o:=qeL _) rfl).trans ((qG (o:=qeK _) rfl).trans ?_)
  exact (z5 (qgG ok0 (by omega) 2 4 (payB 400))).trans rfl
 refine (z5 ht).trans ((qG rfl).trans ?_)
 have hw:=qgK ok0 (by omega) (true,201,1,0,0,[],[],8,())
 refine (z5 hw).trans ((qG rfl).trans ?_)
 refine (qG (a:=(false,())) rfl).trans ((qB rfl).trans ?_)
 have ha:=qe5 (s:=datS (oqS hub1) 9) (false,201,(datS (oqS hub1) 9).e.ask.2.1,0,0,[],[],0,()) (by have:=(qdD (qh7 (s:=phS (oqS hub1) 5) (day:=9) (by omega) (by omega))).2;show (qjT (stN (phS (oqS hub1) 5) (dayQ 9))).length≤1000000;omega)
 have ha2:=qIa (s:=oqS hub1) (day:=9) (by show (0:Int)≤0;omega) (by show (0:Int) < 9;omega) (by omega) (n:=(false,201,(datS (oqS hub1) 9).e.ask.2.1,0,0,[],[],0,())) rfl rfl rfl (datS (oqS hub1) 9).e.win (datS (oqS hub1) 9).p
 rw [show agrS (datS (oqS hub1) 9) _=_ from ha2] at ha
 refine (z5 ha).trans ((qG rfl).trans ?_)
 refine (qG (a:=(true,())) ?_).trans rfl
 refine (qE rfl).trans ((qE rfl).trans ((qH rfl).trans ((qE rfl).trans ((qE rfl).trans ((qE rfl).trans ((qE rfl).trans ?_))))))
 refine (qE (qIY (by decide))).trans ((qE rfl).trans ?_)
 refine (z5 (qpH okl (by omega))).trans ((qG rfl).trans ((qE rfl).trans ?_))
 refine (qE rfl).trans ((qE rfl).trans ((qH rfl).trans ((qE rfl).trans ((qH rfl).trans ((qE rfl).trans ?_)))))
 refine (qE (qjU ((qCF _ _).trans rfl))).trans ((qE rfl).trans ((qE rfl).trans ?_))
 refine (z5 (qgJ (datS (oqS hub1) 9))).trans ((qG rfl).trans ((qE rfl).trans ?_))
 refine (z5 (qiQ ok0 (by omega))).trans ((qG rfl).trans ?_)
 exact (z5 (show zL ((qHg (oqS hub1)).t,(oqS hub1).t,())=some (true,()) from qpH ok0 (by omega))).trans rfl
theorem qKh {s:Si} (h:mayS s):s.e.ask.2.2.2.2.1.length≤1000000:=by have:=h.few.ask;omega
theorem qJo {n:Nat} {s:Si} (h:okS n s):okS n (givG s):=by
 unfold givG
 split
 ·exact ⟨{ h.e with ph:=⟨by show (0:Int)≤3;omega,by show (3:Int)≤8;omega⟩ },h.p⟩
 ·exact h
end Yp
namespace Yp
open Go
set_option maxRecDepth 100000
set_option maxHeartbeats 2000000
set_option linter.unusedSectionVars false
section
variable (fill : UInt8) {g : Nat} (hg : 1 ≤ g) (hg2 : g ≤ 50) {na nb : BB} (ha : na.length = 8) (hb : nb.length = 8) (bs bt bu : List UInt64)
include hg hg2 ha
include hb
end
end Yp
namespace Yp
open Go
set_option maxRecDepth 100000
set_option maxHeartbeats 2000000
theorem qA2 {h:THub} (hr:qyB h):qyB (wW h).1:=by
 refine ⟨?_,qmL hr.2⟩
 rw [qtP,qu7];exact hr.1
theorem qA5 {s:Si} (h:x6 s.e) (v:TEnv) (key:BB):x6 (qgP s v key).1.e:=by
 unfold qgP
 split
 ·exact { h with hub:=qA2 h.hub }
 ·exact h
theorem qDS        {e : En'} (h : x6     e) (hl : zH      e.ph) (hs : ¬ e.seq = 4611686018427387904) : x6     { e with seq := e.seq + 1 } := { h with
  seq := by
    have h1 := h.seq
    unfold jO    at h1
    show 0 ≤ e.seq + 1 ∧ e.seq + 1 ≤ 4611686018427387904
    omega
  link := ⟨h.link.1, .inl (h.link.2.resolve_right (fun q => q.1 hl))⟩ }
def qLs (a b:En'):Prop:=a.ph=b.ph∧a.ring=b.ring∧qjD a=qjD b
theorem qq5 (s:Si) (v:TEnv) (key:BB):qLs (qgP s v key).1.e s.e:=by unfold qgP;split <;> exact ⟨rfl,rfl,rfl⟩
theorem qzR (s:Si) (b:BB):qLs (wE s b).1.e s.e:=by
 unfold wE
 split
 ·exact ⟨rfl,rfl,rfl⟩
 split
 ·exact ⟨rfl,rfl,rfl⟩
 split
 ·exact ⟨rfl,rfl,rfl⟩
 ·dsimp only
  split
  ·exact qq5 s _ _
  ·exact qq5 s _ _
theorem qA4 {s:Si} (h:x6 s.e) (b:BB):x6 (wE s b).1.e:=by
 unfold wE
 split
 ·exact h
 split
 ·exact h
 split
 ·exact h
 ·rename_i h1 h2 h3
  have he:=qA5 h (qiC s.e b) s.e.ring.1.2.1
  have hc:=qq5 s (qiC s.e b) s.e.ring.1.2.1
  have hq:=qqY s (qiC s.e b) s.e.ring.1.2.1
  dsimp only
  split
  ·exact qDS he (by rw [hc.1];exact Classical.not_not.1 h2) (by rw [hq];exact h3)
  ·exact he
theorem qA9 {s:Si} {q:vA} (hr:z2 (stN s q)) (h1:¬ q.2.1=1):qkU s q=(wE (askS s q) (qjT (stN s q))).1:=by
 have e:wrN (q.1,q.2.1,yF s.e.stan,q.2.2.2)=(qjT (stN s q),0,()):=qIL hr
 unfold qkU
 rw [e,qAB hr,qw4 hr,if_pos ⟨rfl,rfl⟩,if_neg h1]
theorem qDT {s:Si} {q:vA} (hr:z2 (stN s q)):qCK (q.2.1,yF s.e.stan,8,3,qjT (stN s q),()):=by
 have h:=qjZ s.e.stan
 exact .inr ⟨⟨hr.1,h.1,h.2,(qdD hr).1,(qdD hr).2⟩,by show (1:Int)≤8;omega,by show (8:Int)≤8;omega,by show (0:Int)≤3;omega,by show (3:Int)≤3;omega⟩
theorem qvJ {e:En'} (h:x6 e) (hl:zH e.ph):0 < e.own∧0 < e.oth∧0 < e.ring.1.1∧(¬ e.ph=4∨0 < e.ring.2.2.1.1):=(h.link.2.resolve_right (fun q=>q.1 hl)).2
theorem qu0           {e : En'} (h : x6     e) (hl : zH      e.ph) {r : qa9  } (hr : qkF    r) (h0 : 0 < r.1.1) : x6     (qLF   e r) := { h with
  ph := ⟨by show (0 : Int) ≤ 3; omega, by show (3 : Int) ≤ 8; omega⟩
  ring := hr
  ask := .inl rfl
  queue := ⟨h.queue.1, .inr (.inl rfl), h.queue.2.2⟩
  link := ⟨.inl rfl, .inl ⟨by show zH      3; unfold zH     ; omega, (qvJ     h hl).1, (qvJ     h hl).2.1, h0, .inl (by show ¬ (3 : Int) = 4; omega)⟩⟩ }
structure dayE (d:Int) (x:En'):Prop where
 right:x6 x
 day:x.day=d
theorem qq2 {d:Int} {s:Si} (h:dayE d s.e) (b:BB):dayE d (wE s b).1.e:=⟨qA4 h.right b,(qCF s b).trans h.day⟩
theorem qHX      {s : Si} (h : x6     s.e) (day : Int) : dayE s.e.day (qjN   s day).1.e ∧ ((qjN   s day).2 = 0 ∧ s.e.day < day ∧ (qjN   s day).1.e.ph = 5 ∨ ¬ (qjN   s day).2 = 0 ∧ (qjN   s day).1 = s) := by
  unfold qjN  
  split
  · exact ⟨⟨h, rfl⟩, .inr ⟨by show ¬ (1 : Int) = 0; omega, rfl⟩⟩
  split
  · exact ⟨⟨h, rfl⟩, .inr ⟨by show ¬ (7 : Int) = 0; omega, rfl⟩⟩
  split
  · exact ⟨⟨h, rfl⟩, .inr ⟨by show ¬ (9 : Int) = 0; omega, rfl⟩⟩
  · rename_i h1 h2 h3
    simp only [not_or, Classical.not_not] at h3
    have hd := h.day
    have hq : z2     (stN (phS s 5) (dayQ day)) := qh7        (by omega) (by omega)
    have hl : zH      s.e.ph := by rw [h3.1]; unfold zH     ; omega
    have hk := qvJ     h hl
    have hs := qjZ       s.e.stan
    dsimp only
    rw [qA9         hq (by show ¬ (201 : Int) = 1; omega)]
    have base : dayE s.e.day (askS (phS s 5) (dayQ day)).e := ⟨{ h with
      ph := ⟨by show (0 : Int) ≤ 5; omega, by show (5 : Int) ≤ 8; omega⟩
      stan := ⟨by show 0 ≤ yF    s.e.stan; omega, by show yF    s.e.stan ≤ 999999; omega⟩
      ask := qDT        hq
      queue := ⟨h.queue.1, .inr (.inr (.inr rfl)), h.queue.2.2⟩
      link := ⟨.inl rfl, .inl ⟨by show zH      5; unfold zH     ; omega, hk.1, hk.2.1, hk.2.2.1, .inl (by show ¬ (5 : Int) = 4; omega)⟩⟩ }, rfl⟩
    exact ⟨qq2       base _, .inl ⟨rfl, by omega, (qzR       _ _).1⟩⟩
theorem qC0 {s:En'} (h:x6 s) (hl:zH s.ph):dayE s.day (qyM s):=⟨qu0 h hl (r:=s.ring) h.ring (qvJ h hl).2.2.1,rfl⟩
theorem qJQ {s:Si} (h:x6 s.e) (hl:zH s.e.ph):dayE s.e.day (givG s).e:=by
 unfold givG
 split
 ·exact qC0 h hl
 ·exact ⟨h,rfl⟩
theorem qyF {s:Si} (h:x6 s.e) {q:List BB} (h1:q.length≤8) (h2:q=[]∨qeM s.e.ph) (h3:∀ b∈q,qeN b):x6 (popS s q).e:={ h with queue:=⟨h1,h2,h3⟩ }
theorem qCT:∀ (k:Nat) {d:Int} {s:Si},dayE d s.e→dayE d (qsM k s).e
 | 0,d,s,h=>h
 | k+1,d,s,h=>by
  unfold qsM
  split
  ·exact h
  ·rename_i b q hq
   split
   ·have hr:=h.right.queue
    unfold qyA at hr
    rw [hq] at hr
    obtain ⟨q1,q2,q3⟩:=hr
    rw [List.length_cons] at q1
    have hs:=qq2 h b
    refine qCT k ⟨qyF hs.right (by omega) (.inr ?_) (fun x hx=>q3 x (List.mem_cons_of_mem _ hx)),hs.day⟩
    rw [(qzR s b).1]
    exact q2.resolve_left (by simp)
   ·exact h
theorem qIS {s:Si} (h:x6 s.e) (b:BB):dayE s.e.day (subS s b).1.e:=by
 unfold subS
 split
 ·exact ⟨h,rfl⟩
 split
 ·exact ⟨h,rfl⟩
 split
 ·exact ⟨h,rfl⟩
 ·rename_i h1 h2 h3
  simp only [Classical.not_not] at h1 h2
  have hf:=qDK h1
  have hq:=h.queue
  unfold qyA at hq
  have hp:(putQ s.e.queue (vV b s.e.day).1).1=s.e.queue++[(vV b s.e.day).1]∧s.e.queue.length < 8:=by
   unfold putQ at h3 ⊢
   split at h3
   ·exact absurd (show ¬ (8:Int)=0 by omega) h3
   ·rename_i h8
    rw [if_neg h8]
    exact ⟨rfl,by omega⟩
  refine qCT _ (s:=evS (popS s (putQ s.e.queue (vV b s.e.day).1).1) 1 0 (vV b s.e.day).1) ⟨?_,rfl⟩
  have:x6 (popS s (putQ s.e.queue (vV b s.e.day).1).1).e:=by
   rw [hp.1]
   refine qyF h (by rw [List.length_append,List.length_singleton];omega) (.inr h2) ?_
   intro x hx
   rcases List.mem_append.1 hx with hx | hx
   ·exact hq.2.2 x hx
   ·rw [List.mem_singleton.1 hx];exact hf
  exact { this with }
theorem qDb {s:Si} (h:x6 s.e) {d:Int} (h9:d≤999999):dayE (maxI s.e.day d) (qD2 s d).e:=by
 have:=h.day
 have hm:0≤maxI s.e.day d∧maxI s.e.day d≤999999:=by unfold maxI;split <;> omega
 exact ⟨{ h with day:=hm },rfl⟩
theorem qtN {n:vA} (h:z2 n):0≤n.2.2.2.2.2.2.2.1∧n.2.2.2.2.2.2.2.1≤999999:=by
 have hk:=h.2.2.2.2.2.2
 unfold qtZ at hk
 split at hk
 ·have:=hk.2.2.2.2
  omega
 ·have hk:=hk.2.2.2
  split at hk
  ·exact hk
  ·omega
theorem qI1 (b:BB):(rdN b).1.2.2.2.2.2.2.2.1≤999999:=by
 rcases qFh b with ⟨n,h1,h2,_⟩ | ⟨e,_,h⟩
 ·rw [h1];exact (qtN h2).2
 ·rw [h];show (0:Int)≤999999;omega
theorem qHY {s:Si} (h:x6 s.e) {n:vA} (hn:z2 n):dayE (maxI s.e.day n.2.2.2.2.2.2.2.1) (qHZ s n).e:=qq2 (qDb h (qtN hn).2) _
theorem qKj {s:Si} (h:x6 s.e) (hl:zH s.e.ph) (n:vA):x6 (agrS s n).e∧s.e.day≤(agrS s n).e.day:=by
 have ho:=qC0 h hl
 unfold agrS
 split
 ·exact ⟨{ h with },Int.le_refl _⟩
 split
 ·have:=qDb (s:=⟨qyM s.e,s.p⟩) ho.right (qI1 s.e.ask.2.2.2.2.1)
  refine ⟨this.right, ?_⟩
  rw [this.day]
  show s.e.day≤maxI s.e.day _
  unfold maxI;split <;> omega
 ·exact ⟨ho.right,Int.le_refl _⟩
theorem v9 {X S:Si} {i:Int} {c1 c2:Bool} (h1:c1=true) (h2:c2=true) (hw:X.e.win.2.1.length=16) (hr:x6 X.e) (hd:S.e.day≤X.e.day) (hi:i < 3→X.e.day=S.e.day) :
  (ob (sel (lt X.e.day S.e.day) (some (true,())) (ck c1 (ob (vC (X.t.1,())) fun (a:Bool×Unit)=>sel (bnot a.1) (some (true,())) (sel (lt i 3) (ck c2 (some (bnot (beq X.e.day S.e.day),()))) (some (false,())))))) fun (a:Bool×Unit) =>
   sel a.1 (some (LS.rt (false,()))) (some (LS.nx (false,i64 (iadd i 1),()))):Option (LS (Bool×Int×Unit) (Bool×Unit)))=some (.nx (false,i64 (iadd i 1),())):=by
 subst h1 h2
 refine (qG (a:=(false,())) ?_).trans (qB rfl)
 refine (qB (lt_f (by omega))).trans ((qH rfl).trans ((z5 (qeY X.e hw)).trans ((qG rfl).trans ((qB (by rw [D_t hr];rfl)).trans ?_))))
 by_cases h:i < 3
 ·refine (qE (lt_t h)).trans ((qH rfl).trans ?_)
  rw [bq_f (hi h)]
 ·exact qB (lt_f h)
theorem qzQ {A S:Si} {e day:Int} {n:Nat} (hs:okS n S) (hn:n≤900000) (h:e=0∧S.e.day < day∧A.e.ph=5∨¬ e=0∧A=S) :
  (sel (beq e 0) (sel (bnot (beq e 0)) (some (true,())) (sel (lt S.e.day day) (some (beq A.e.ph 5,())) (some (false,())))) (ob (zL (A.t,S.t,())) fun (a:Bool×Unit)=>sel a.1 (sel (bnot (beq e 0)) (some (true,())) (sel (lt S.e.day day) (some (beq A.e.ph 5,())) (some (false,())))) (some (false,()))):Option (Bool×Unit))=some (true,()):=by
 rcases h with ⟨rfl,h2,h3⟩ | ⟨h1,rfl⟩
 ·refine (qE rfl).trans ((qB rfl).trans ((qE (lt_t h2)).trans ?_))
  rw [qjU h3]
 ·refine (qB (qb9 h1)).trans ((z5 (qpH hs (by omega))).trans ((qG rfl).trans ((qE rfl).trans ?_)))
  exact qE (bq_t h1)
theorem qqK (s:Si) (hw:qCD s.e) (day:Int) (n:vA) (b:BB):y3 ((s.t,day,n,b,()),())=some (true,()):=by
 unfold y3
 rw [qIW]
 refine (qG rfl).trans ?_
 dsimp only
 rw [qr4 s hw]
 refine (qG rfl).trans ?_
 rw [show s.t.1.2.2.1=s.e.ph from rfl,yJ,qGu,qoA]
 by_cases h1:mayS s
 ·by_cases h2:zH s.e.ph
  ·by_cases h3:fewN n
   ·by_cases h4:z2 n
    ·by_cases h5:n.2.1=201
     ·by_cases h6:b.length≤1500
      ·have ok:=qJn hw h1
       have hr:=h1.right
       refine (qG (a:=(false,())) ?_).trans ((qB rfl).trans ?_)
       ·rw [D_t h1,D_t h2,D_t h3,D_t h4,bq_f h5,lt_f (show ¬ (1500:Int) < len b by simp only [go_sem,Int.reduceToNat];omega)];rfl
       ·have kD:=qHX hr day
        have kS:=qIS hr b
        have kG:=qJQ hr h2
        have oD:=qC2 ok day
        have oS:=qJl ok b
        have oG:=qJo ok
        refine (z5 (qiR ok (by omega) day)).trans ((qG rfl).trans ((z5 (wJ ok (by omega) b (by omega))).trans ((qG rfl).trans ((z5 (qgJ s)).trans ((qG rfl).trans ?_)))))
        cases hrq:n.1
        ·refine (qB rfl).trans ((z5 (qe5 n (qKh h1))).trans ((qG rfl).trans ((qH rfl).trans ?_)))
         have kA:=qKj hr h2 n
         have oA:=qJp ok n
         dsimp only
         generalize hf:(fun (x_1:Bool×Int×Unit)=>(_:Option (LS (Bool×Int×Unit) (Bool×Unit))))=f
         have f0:f (false,0,())=some (.nx (false,1,())):=by
          subst hf
          refine (qE rfl).trans ((qH rfl).trans ?_)
          exact v9 (X:=(qjN s day).1) (S:=s) (i:=0) (c1:=inB 0 4) (c2:=inB 0 4) rfl rfl oD.e.win kD.1.right (Int.le_of_eq kD.1.day.symm) (fun _=>kD.1.day)
         have f1:f (false,1,())=some (.nx (false,2,())):=by
          subst hf
          refine (qE rfl).trans ((qH rfl).trans ?_)
          exact v9 (X:=givG s) (S:=s) (i:=1) (c1:=inB 1 4) (c2:=inB 1 4) rfl rfl oG.e.win kG.right (Int.le_of_eq kG.day.symm) (fun _=>kG.day)
         have f2:f (false,2,())=some (.nx (false,3,())):=by
          subst hf
          refine (qE rfl).trans ((qH rfl).trans ?_)
          exact v9 (X:=(subS s b).1) (S:=s) (i:=2) (c1:=inB 2 4) (c2:=inB 2 4) rfl rfl oS.e.win kS.right (Int.le_of_eq kS.day.symm) (fun _=>kS.day)
         have f3:f (false,3,())=some (.nx (false,4,())):=by
          subst hf
          refine (qE rfl).trans ((qH rfl).trans ?_)
          exact v9 (X:=agrS s n) (S:=s) (i:=3) (c1:=inB 3 4) (c2:=inB 3 4) rfl rfl oA.e.win kA.1 kA.2 (fun h=>absurd h (by omega))
         have f4:f (false,4,())=some (.ex 0 (false,4,())):=by subst hf;exact qB rfl
         refine (qY (show loop f (false,0,())=some (.ex 0 (false,4,())) from (jK f0).trans ((jK f1).trans ((jK f2).trans ((jK f3).trans (qT f4)))))).trans ((qH g62).trans ?_)
         exact (qG (a:=(true,())) ((qE rfl).trans ((qE rfl).trans (qzQ ok (by omega) kD.2)))).trans rfl
        ·refine (qE rfl).trans ((z5 (qgK ok (by omega) n)).trans ((qG rfl).trans ((qH rfl).trans ?_)))
         have kA:=qHY hr h4
         have oA:=qHr ok n
         dsimp only
         generalize hf:(fun (x_1:Bool×Int×Unit)=>(_:Option (LS (Bool×Int×Unit) (Bool×Unit))))=f
         have f0:f (false,0,())=some (.nx (false,1,())):=by
          subst hf
          refine (qE rfl).trans ((qH rfl).trans ?_)
          exact v9 (X:=(qjN s day).1) (S:=s) (i:=0) (c1:=inB 0 4) (c2:=inB 0 4) rfl rfl oD.e.win kD.1.right (Int.le_of_eq kD.1.day.symm) (fun _=>kD.1.day)
         have f1:f (false,1,())=some (.nx (false,2,())):=by
          subst hf
          refine (qE rfl).trans ((qH rfl).trans ?_)
          exact v9 (X:=givG s) (S:=s) (i:=1) (c1:=inB 1 4) (c2:=inB 1 4) rfl rfl oG.e.win kG.right (Int.le_of_eq kG.day.symm) (fun _=>kG.day)
         have f2:f (false,2,())=some (.nx (false,3,())):=by
          subst hf
          refine (qE rfl).trans ((qH rfl).trans ?_)
          exact v9 (X:=(subS s b).1) (S:=s) (i:=2) (c1:=inB 2 4) (c2:=inB 2 4) rfl rfl oS.e.win kS.right (Int.le_of_eq kS.day.symm) (fun _=>kS.day)
         have f3:f (false,3,())=some (.nx (false,4,())):=by
          subst hf
          refine (qE rfl).trans ((qH rfl).trans ?_)
          exact v9 (X:=qHZ s n) (S:=s) (i:=3) (c1:=inB 3 4) (c2:=inB 3 4) rfl rfl oA.e.win kA.right (by rw [kA.day];unfold maxI;split <;> omega) (fun h=>absurd h (by omega))
         have f4:f (false,4,())=some (.ex 0 (false,4,())):=by subst hf;exact qB rfl
         refine (qY (show loop f (false,0,())=some (.ex 0 (false,4,())) from (jK f0).trans ((jK f1).trans ((jK f2).trans ((jK f3).trans (qT f4)))))).trans ((qH g62).trans ?_)
         exact (qG (a:=(true,())) ((qE rfl).trans ((qB rfl).trans ((qH rfl).trans ((qE (qjU kA.day)).trans (qzQ ok (by omega) kD.2)))))).trans rfl
      ·refine (qG (a:=(true,())) ?_).trans rfl
       rw [D_t h1,D_t h2,D_t h3,D_t h4,bq_f h5,lt_t (show (1500:Int) < len b by simp only [go_sem,Int.reduceToNat];omega)];rfl
     ·refine (qG (a:=(true,())) ?_).trans rfl
      rw [D_t h1,D_t h2,D_t h3,D_t h4,bq_t h5];rfl
    ·refine (qG (a:=(true,())) ?_).trans rfl
     rw [D_t h1,D_t h2,D_t h3,D_f h4];rfl
   ·refine (qG (a:=(true,())) ?_).trans rfl
    rw [D_t h1,D_t h2,D_f h3];rfl
  ·refine (qG (a:=(true,())) ?_).trans rfl
   rw [D_t h1,D_f h2];rfl
 ·refine (qG (a:=(true,())) ?_).trans rfl
  rw [D_f h1];rfl
def fig1 (t:Int):Int:=t / 10 % 10
def qLr (m:M):Prop:=(fig1 m.1=1∨fig1 m.1=3)∧qx0 m
instance (m:M):Decidable (qLr m):=by unfold qLr;infer_instance
theorem qAH (x:denL [.pair tyS (.pair (.int .i64) (.pair tyN (.pair (.sl (.int .u8)) .unit)))]) (h:okL [.pair tyS (.pair (.int .i64) (.pair tyN (.pair (.sl (.int .u8)) .unit)))] x):y3 x=some (true,()):=by
 obtain ⟨s,hs,hw⟩:=qGZ h.1.1
 have:=qqK s hw x.1.2.1 x.1.2.2.1 x.1.2.2.2.1
 rw [← hs] at this
 exact this
end Yp