/- A part of the proof of the statements of this seat: plain functions, and laws on them. No condition of its own. -/
import Derived.Test.YtbpaehkcjccplaaGreatDoorQ1
import Derived.Conc.Own5
import Derived.Test.YtbpaehkcjccplaaGreatDoorProg
import Derived.KernelRfl
set_option linter.unusedVariables false
set_option linter.unusedSimpArgs false
namespace Yp
open Go Go.Conc Go.RowKit Go.Proofs
structure Src1 (w:World) (a:Option Addr) (n cp:Nat) (pt:Nat→Addr) (val:Nat→Value):Prop where
 ix:∀ i,i < n→∀ w1:World,(Instr.indexAt 35 (.slice a n cp) (.int .i64 i)).run Tryz.prog w1 = .ok (.pointer (some (pt i))) w1
 cell:∀ i,i < n→w.cell? (pt i)=some (val i)
 low:∀ i,i < n→(pt i).block < w.heap.size
 sl:∀ i,i < n→∃ a n cp,val i = .slice a n cp
 le:n≤9223372036854775807
set_option maxRecDepth 100000 in
theorem qHc {w:World} {q l:Value} {room:Int} (hr:room < 1) :
  Calls Tryz.prog 286 #[q,l, .int .i64 room] w fun e w'=>e = .returned (.tuple #[q, .int .i64 0, .int .i64 1])∧w'=w:=by
 refine calls_of_loneTo fun cs => ?_
 have e:Frame.enter Tryz.prog 286 #[q,l, .int .i64 room] .normal=(base 286).at ⟨#[q,l, .int .i64 room,undef,undef,undef,undef,undef,undef,undef,undef,undef,undef,undef,undef,undef,undef,undef,undef,undef,undef,undef,undef,undef,undef,undef,undef,undef,undef,undef,undef,undef,undef],[]⟩ [.code (Tryz.f286.body.getD .skip)]:=by
  simp [Frame.enter,Frame.at,Tryz.func286,base,Tryz.f286]
 rw [e]
 refine LoneTo.goes (n:=30) ?_
 simp only [Tryz.f286,Option.getD_some]
 s_c stepG_seq
 s_reg
 s_op
 s_op
 s_op
 s_c stepG_region_end
 s_c stepG_seq
 s_c stepG_seq
 s_reg
 s_op
 s_op
 s_op
 s_in
 rw [stepG_unwanted rfl rfl]
 simp only [goes_go]
 refine ⟨trivial, ?_⟩
 walk_nrm
 s_in
 rw [stepG_unwanted rfl rfl]
 simp only [goes_go]
 refine ⟨trivial, ?_⟩
 walk_nrm
 s_op
 s_c stepG_region_end
 s_cond true
 s_c stepG_seq
 s_reg
 s_op
 s_op
 s_op
 s_op
 s_c stepG_region_end
 s_c stepG_ret'
 s_stop
 exact LoneTo.done ⟨.returned (.tuple #[q, .int .i64 0, .int .i64 1]),_,rfl,⟨rfl,rfl⟩,rfl,rfl,rfl,rfl,_,Tryz.func286,by simp [results,Tryz.f286,Frame.at]⟩
set_option maxRecDepth 100000 in
theorem qFd {w:World} {q l:Value} {room:Int} (h0:¬ room < 1) (hr:64 < room) :
  Calls Tryz.prog 286 #[q,l, .int .i64 room] w fun e w'=>e = .returned (.tuple #[q, .int .i64 0, .int .i64 1])∧w'=w:=by
 refine calls_of_loneTo fun cs => ?_
 have e:Frame.enter Tryz.prog 286 #[q,l, .int .i64 room] .normal=(base 286).at ⟨#[q,l, .int .i64 room,undef,undef,undef,undef,undef,undef,undef,undef,undef,undef,undef,undef,undef,undef,undef,undef,undef,undef,undef,undef,undef,undef,undef,undef,undef,undef,undef,undef,undef,undef],[]⟩ [.code (Tryz.f286.body.getD .skip)]:=by
  simp [Frame.enter,Frame.at,Tryz.func286,base,Tryz.f286]
 rw [e]
 refine LoneTo.goes (n:=30) ?_
 simp only [Tryz.f286,Option.getD_some]
 s_c stepG_seq
 s_reg
 s_op
 s_op
 s_op
 s_c stepG_region_end
 s_c stepG_seq
 s_c stepG_seq
 s_reg
 s_op
 s_op
 s_op
 s_op
 s_op
 s_op
 s_c stepG_region_end
 s_cond true
 s_c stepG_seq
 s_reg
 s_op
 s_op
 s_op
 s_op
 s_c stepG_region_end
 s_c stepG_ret'
 s_stop
 exact LoneTo.done ⟨.returned (.tuple #[q, .int .i64 0, .int .i64 1]),_,rfl,⟨rfl,rfl⟩,rfl,rfl,rfl,rfl,_,Tryz.func286,by simp [results,Tryz.f286,Frame.at]⟩
set_option maxRecDepth 100000 in
theorem qFc {w:World} {qa la:Option Addr} {qn qc ln lc R:Nat} (h1:1≤R) (h64:R≤64) {qpt lpt:Nat→Addr} {qv lv:Nat→Value} (hq:Src1 w qa qn qc qpt qv) (hl:Src1 w la ln lc lpt lv) :
  Calls Tryz.prog 286 #[.slice qa qn qc, .slice la ln lc, .int .i64 R] w fun e w'=>(R < qn∧e = .returned (.tuple #[.slice qa qn qc, .int .i64 0, .int .i64 0])∨qn≤R∧∃ sv,e = .returned (.tuple #[sv, .int .i64 (min ln (R - qn):Nat), .int .i64 0])∧qw9 w' w.heap.size (w.heap.size+1) ((List.range qn).map qv++(List.range (min ln (R - qn))).map lv).toArray (qn+min ln (R - qn)) sv)∧qxC w w' w.heap.size (w.heap.size+1):=by
 have hr1:¬ (R:Int) < 1:=by omega
 have hr2:¬ (64:Int) < (R:Int):=by omega
 refine calls_of_loneTo fun cs => ?_
 have e:Frame.enter Tryz.prog 286 #[.slice qa qn qc, .slice la ln lc, .int .i64 R] .normal=(base 286).at ⟨#[.slice qa qn qc, .slice la ln lc, .int .i64 R,undef,undef,undef,undef,undef,undef,undef,undef,undef,undef,undef,undef,undef,undef,undef,undef,undef,undef,undef,undef,undef,undef,undef,undef,undef,undef,undef,undef,undef,undef],[]⟩ [.code (Tryz.f286.body.getD .skip)]:=by
  simp [Frame.enter,Frame.at,Tryz.func286,base,Tryz.f286]
 rw [e]
 refine LoneTo.goes (n:=30) ?_
 simp only [Tryz.f286,Option.getD_some]
 s_c stepG_seq
 s_reg
 s_op
 s_op
 s_op
 s_c stepG_region_end
 s_c stepG_seq
 s_c stepG_seq
 s_reg
 s_op
 s_op
 s_op
 s_op
 s_op
 s_op
 s_c stepG_region_end
 s_cond false
 s_c stepG_skip
 s_c stepG_seq
 s_reg
 s_op
 s_in
 refine goes_call rfl rfl (by decide) rfl Tryz.func354 (by kernel_rfl) rfl ⟨trivial, ?_⟩
 walk_nrmf Tryz.f354
 s_stop
 have he1:Frame.enter Tryz.prog 354 #[.int .i64 R] .normal=(base 354).at ⟨#[.int .i64 R,undef,undef,undef,undef,undef],[]⟩ [.code (Tryz.f354.body.getD .skip)]:=by
  simp [Frame.enter,Frame.at,Tryz.func354,base,Tryz.f354]
 simp only [Tryz.f354,Option.getD_some] at he1
 rw [← he1]
 refine qa2 (qEg h64) (fun e w' h=>⟨_,h.1⟩) (fun v w1 h => ?_)
 obtain ⟨hv,b1,b2,b3,b4,b5,b6⟩:=h
 cases hv
 rw [Frame.finish_at]
 walk_nrm
 refine LoneTo.goes (n:=30) ?_
 s_op
 s_op
 s_c stepG_region_end
 s_c stepG_seq
 s_c stepG_seq
 s_reg
 s_op
 s_op
 s_stop
 have hbox:(w1.alloc (.cells #[.chan (some (w.heap.size+1))] 378)).heap[w.heap.size+2]? = some (.cells #[.chan (some (w.heap.size+1))] 378):=by
  have:=heap_alloc_new w1 (.cells #[.chan (some (w.heap.size+1))] 378)
  rw [b4] at this
  exact this
 have hch:∃ s r,(w1.alloc (.cells #[.chan (some (w.heap.size+1))] 378)).heap[w.heap.size+1]? = some (.chan R #[] false s r false):=⟨0,0,by rw [heap_alloc_old _ _ (by omega)];exact b6⟩
 have hk2:qxC w (w1.alloc (.cells #[.chan (some (w.heap.size+1))] 378)) w.heap.size (w.heap.size+1):=⟨b1,b2,b3,by rw [qP];omega,fun b hb _=>by rw [heap_alloc_old _ _ (by omega)];exact b5 b hb⟩
 have hs2:(w1.alloc (.cells #[.chan (some (w.heap.size+1))] 378)).heap.size=w.heap.size+3:=by rw [qP];omega
 generalize w1.alloc (.cells #[.chan (some (w.heap.size+1))] 378)=w2 at hbox hch hk2 hs2
 have srcOf:∀ {a:Option Addr} {n cp:Nat} {pt:Nat→Addr} {val:Nat→Value} (wx:World),Src1 w a n cp pt val→qxC w wx w.heap.size (w.heap.size+1)→(∀ i,i < n→wx.cell? (pt i)=some (val i))∧∀ i,i < n→(pt i).block < wx.heap.size∧(pt i).block≠w.heap.size+1:=by
  intro a n cp pt val wx hs hk
  refine ⟨fun i hi => ?_,fun i hi=>⟨Nat.lt_of_lt_of_le (hs.low i hi) hk.size,by have:=hs.low i hi;omega⟩⟩
  rw [← hs.cell i hi]
  exact quM (hk.other _ (hs.low i hi) (by have:=hs.low i hi;omega))
 refine LoneTo.goes (n:=3) ?_
 s_in
 refine goes_call rfl rfl (by decide) rfl Tryz.func355 (by kernel_rfl) rfl ⟨trivial, ?_⟩
 walk_nrmf Tryz.f355
 s_stop
 have he2:Frame.enter Tryz.prog 355 #[.agg #[.chan (some (w.heap.size+1))], .slice qa qn qc] .normal=(base 355).at ⟨#[.agg #[.chan (some (w.heap.size+1))], .slice qa qn qc,undef,undef,undef,undef,undef,undef,undef,undef,undef,undef,undef,undef,undef,undef,undef,undef,undef,undef,undef,undef],[]⟩ [.code (Tryz.f355.body.getD .skip)]:=by
  simp [Frame.enter,Frame.at,Tryz.func355,base,Tryz.f355]
 simp only [Tryz.f355,Option.getD_some] at he2
 rw [← he2]
 have hq2:=srcOf w2 hq hk2
 refine qa2 (qzG hch hq.le (Nat.zero_le _) hq.ix hq2.1 hq2.2) (fun e w' h=>⟨_,h.1⟩) (fun v w3 h => ?_)
 obtain ⟨hv,hw3⟩:=h
 cases hv
 have hk3:qxC w w3 w.heap.size (w.heap.size+1):=⟨hw3.os.trans hk2.os,hw3.tape.trans hk2.tape,hw3.output.trans hk2.output,Nat.le_trans hk2.size hw3.size,fun b hb hne=>(hw3.other b (by omega) hne).trans (hk2.other b hb hne)⟩
 have hbox3:w3.heap[w.heap.size+2]? = some (.cells #[.chan (some (w.heap.size+1))] 378):=(hw3.other _ (by omega) (by omega)).trans hbox
 have hs3:w.heap.size+3≤w3.heap.size:=by have:=hw3.size;omega
 have hbc:w3.cell? ⟨w.heap.size+2,0,none⟩=some (.chan (some (w.heap.size+1))):=by simp [World.cell?,hbox3]
 by_cases hfull:R < qn
 ·have hm:min qn (R - (#[]:Array Value).size)=R:=by simp;omega
  rw [hm,Frame.finish_at]
  walk_nrm
  refine LoneTo.goes (n:=30) ?_
  s_op
  s_op
  s_op
  s_c stepG_region_end
  s_cond true
  s_c stepG_seq
  s_reg
  s_op
  s_op
  s_op
  s_op
  s_c stepG_region_end
  s_c stepG_ret'
  s_stop
  exact LoneTo.done ⟨.returned (.tuple #[.slice qa qn qc, .int .i64 0, .int .i64 0]),_,rfl,⟨.inl ⟨hfull,rfl⟩,hk3⟩,rfl,rfl,rfl,rfl,_,Tryz.func286,by simp [results,Tryz.f286,Frame.at]⟩
 ·have hm:min qn (R - (#[]:Array Value).size)=qn:=by simp;omega
  rw [hm] at hw3 ⊢
  rw [Frame.finish_at]
  walk_nrm
  have hbf : #[]++((List.range qn).map qv).toArray=((List.range qn).map qv).toArray:=by simp
  rw [hbf] at hw3
  have hbsz:((List.range qn).map qv).toArray.size=qn:=by simp
  refine LoneTo.goes (n:=30) ?_
  s_op
  s_op
  s_op
  s_c stepG_region_end
  s_cond false
  s_c stepG_skip
  s_c stepG_seq
  s_reg
  s_op
  s_op
  s_stop
  refine LoneTo.goes (n:=3) ?_
  s_in
  refine goes_call rfl rfl (by decide) rfl Tryz.func355 (by kernel_rfl) rfl ⟨trivial, ?_⟩
  walk_nrmf Tryz.f355
  s_stop
  have he3:Frame.enter Tryz.prog 355 #[.agg #[.chan (some (w.heap.size+1))], .slice la ln lc] .normal=(base 355).at ⟨#[.agg #[.chan (some (w.heap.size+1))], .slice la ln lc,undef,undef,undef,undef,undef,undef,undef,undef,undef,undef,undef,undef,undef,undef,undef,undef,undef,undef,undef,undef],[]⟩ [.code (Tryz.f355.body.getD .skip)]:=by
   simp [Frame.enter,Frame.at,Tryz.func355,base,Tryz.f355]
  simp only [Tryz.f355,Option.getD_some] at he3
  rw [← he3]
  have hl3:=srcOf w3 hl hk3
  refine qa2 (qzG hw3.ch hl.le (by omega) hl.ix hl3.1 hl3.2) (fun e w' h=>⟨_,h.1⟩) (fun v w4 h => ?_)
  obtain ⟨hv,hw4⟩:=h
  cases hv
  rw [hbsz] at hw4 ⊢
  have hk4:qxC w w4 w.heap.size (w.heap.size+1):=⟨hw4.os.trans hk3.os,hw4.tape.trans hk3.tape,hw4.output.trans hk3.output,Nat.le_trans hk3.size hw4.size,fun b hb hne=>(hw4.other b (by omega) hne).trans (hk3.other b hb hne)⟩
  have hbox4:w4.heap[w.heap.size+2]? = some (.cells #[.chan (some (w.heap.size+1))] 378):=(hw4.other _ (by omega) (by omega)).trans hbox3
  have hs4:w.heap.size+3≤w4.heap.size:=by have:=hw4.size;omega
  have hbc4:w4.cell? ⟨w.heap.size+2,0,none⟩=some (.chan (some (w.heap.size+1))):=by simp [World.cell?,hbox4]
  have hall:((List.range qn).map qv).toArray++((List.range (min ln (R - qn))).map lv).toArray=((List.range qn).map qv++(List.range (min ln (R - qn))).map lv).toArray:=by simp
  rw [hall] at hw4
  have hasz:((List.range qn).map qv++(List.range (min ln (R - qn))).map lv).toArray.size=qn+min ln (R - qn):=by simp
  rw [Frame.finish_at]
  walk_nrm
  refine LoneTo.goes (n:=30) ?_
  s_op
  s_c stepG_region_end
  s_c stepG_seq
  s_reg
  s_op
  s_in
  refine goes_call rfl rfl (by decide) rfl Tryz.func356 (by kernel_rfl) rfl ⟨trivial, ?_⟩
  walk_nrmf Tryz.f356
  s_stop
  have he4:Frame.enter Tryz.prog 356 #[.agg #[.chan (some (w.heap.size+1))]] .normal=(base 356).at ⟨#[.agg #[.chan (some (w.heap.size+1))],undef,undef,undef,undef,undef,undef,undef,undef,undef,undef,undef,undef,undef,undef,undef,undef,undef],[]⟩ [.code (Tryz.f356.body.getD .skip)]:=by
   simp [Frame.enter,Frame.at,Tryz.func356,base,Tryz.f356]
  simp only [Tryz.f356,Option.getD_some] at he4
  rw [← he4]
  refine qa2 (qHZ hw4.ch (by rw [hasz];omega) ?_) (fun e w' h=>h.elim fun sv h=>⟨sv,h.1⟩) (fun v w5 h => ?_)
  ·intro v hv
   simp only [List.mem_toArray,List.mem_append,List.mem_map,List.mem_range] at hv
   rcases hv with ⟨i,hi,rfl⟩ | ⟨i,hi,rfl⟩
   ·exact hq.sl i hi
   ·exact hl.sl i (by omega)
  obtain ⟨sv,hv,hR5,hk5⟩:=h
  cases hv
  rw [hasz] at hR5
  rw [Frame.finish_at]
  walk_nrm
  refine LoneTo.goes (n:=30) ?_
  s_op
  s_op
  s_op
  s_op
  s_c stepG_region_end
  s_c stepG_ret'
  s_stop
  refine LoneTo.done ⟨.returned (.tuple #[v, .int .i64 (min ln (R - qn):Nat), .int .i64 0]),_,rfl,⟨.inr ⟨by omega,v,rfl, ?_⟩, ?_⟩,rfl,rfl,rfl,rfl,_,Tryz.func286,by simp [results,Tryz.f286,Frame.at]⟩
  ·obtain ⟨b,cp,arr,r1,r2,r3,r4,r5,r6,r7,r8⟩:=hR5
   exact ⟨b,cp,arr,r1,r2,r3,r4,r5,r6,by omega,r8⟩
  ·exact ⟨hk5.os.trans hk4.os,hk5.tape.trans hk4.tape,hk5.output.trans hk4.output,Nat.le_trans hk4.size hk5.size,fun b hb hne=>(hk5.other b (by omega) hne).trans (hk4.other b hb hne)⟩
end Yp
namespace Yp
open Go Go.RowKit Go.Proofs
abbrev qnH:Ty := .sl (.sl (.int .u8))
theorem qH9 {w:World} {X:Nat→Prop} {l:List BB} {a:Option Addr} {cap:Nat} (h1:l.length≤cap) (h2:cap≤maxLen)
  (h:l=[]∨∃ b o c el fz,a=some ⟨b,o,none⟩∧view w X b=some (.cells c el fz)∧o+l.length*(Ty.sl (.int .u8)).size≤c.size∧∀ (i:Nat) (x:BB),lget l i=some x→RepC (view w X) (.sl (.int .u8)) x (seg c (o+i*(Ty.sl (.int .u8)).size) (Ty.sl (.int .u8)).size)) :
  ∃ pt val,Src1 w a l.length cap pt val∧∀ i (hi:i < l.length),RepC (view w X) (.sl (.int .u8)) (l[i]:BB) [val i]:=by
 have hle:l.length≤9223372036854775807:=by unfold maxLen at h2;omega
 rcases h with rfl | ⟨b,o,c,el,fz,rfl,hb,hsz,hrow⟩
 ·exact ⟨fun _=>⟨0,0,none⟩,fun _=>undef,⟨fun i hi=>absurd hi (Nat.not_lt_zero i),fun i hi=>absurd hi (Nat.not_lt_zero i),fun i hi=>absurd hi (Nat.not_lt_zero i),fun i hi=>absurd hi (Nat.not_lt_zero i),hle⟩,fun i hi=>absurd hi (Nat.not_lt_zero i)⟩
 ·have hsz:o+l.length≤c.size:=by
   have:(Ty.sl (.int .u8)).size=1:=rfl
   rw [this] at hsz;omega
  have hh:=(zG.1 hb).2
  have hget:∀ i,i < l.length→c[o+i]? = some (c[o+i]?.getD undef):=by
   intro i hi
   rw [Array.getElem?_eq_getElem (by omega)];rfl
  have hr:∀ i (hi:i < l.length),RepC (view w X) (.sl (.int .u8)) (l[i]:BB) [c[o+i]?.getD undef]:=by
   intro i hi
   have:=hrow i l[i] (List.getElem?_eq_getElem hi)
   have hs:seg c (o+i*(Ty.sl (.int .u8)).size) (Ty.sl (.int .u8)).size=[c[o+i]?.getD undef]:=by
    have e1:(Ty.sl (.int .u8)).size=1:=rfl
    rw [e1,Nat.mul_one]
    refine List.ext_getElem? fun j => ?_
    by_cases hj:j < 1
    ·obtain rfl:j=0:=by omega
     rw [qeG hj,Nat.add_zero,hget i hi];rfl
    ·rw [List.getElem?_eq_none (by rw [jE (by omega)];omega),List.getElem?_eq_none (by simp;omega)]
   rwa [hs] at this
  refine ⟨fun i=>⟨b,o+i,none⟩,fun i=>c[o+i]?.getD undef,⟨fun i hi w1 => ?_,fun i hi => ?_,fun i _=>(Array.getElem?_eq_some_iff.1 hh).1,fun i hi => ?_,hle⟩,hr⟩
  ·have:=wQ (P:=Tryz.prog) (e := .sl (.int .u8)) (tid:=35) (hTT 35 _ (by kernel_rfl)) (k := .i64) (i:=(i:Int)) (n:=l.length) (cap:=cap) (by omega) (by omega) b o w1
   rw [this]
   have e1:(Ty.sl (.int .u8)).size=1:=rfl
   rw [e1,Nat.mul_one,Int.toNat_natCast]
  ·show w.cell? ⟨b,o+i,none⟩=_
   simp only [World.cell?,hh]
   rw [hget i hi];rfl
  ·obtain ⟨a',cp',hv,_⟩:=RepC.jY.1 (hr i hi)
   exact ⟨_,_,_,List.cons.inj hv |>.1⟩
noncomputable abbrev qnO:qaJ:=⟨[.sl (.sl (.int .u8)), .sl (.sl (.int .u8)), .int .i64],[.im (.sl (.sl (.int .u8))), .im (.int .i64), .im (.int .i64)],qdL⟩
theorem ret3 {w w':World} {X:Nat→Prop} (hX:∀ b,X b→b < w.heap.size) (hos:w'.os=w.os) (htape:w'.tape=w.tape) (hout:w'.output=w.output) (hsz:w.heap.size≤w'.heap.size) (hold:∀ b,b < w.heap.size→w'.heap[b]? = w.heap[b]?) {q:List BB} {n m:Int} {v:Value} (hv:RepC (view w' X) qnH q [v]) :
  ∃ vr,Ending.returned (.tuple #[v, .int .i64 n, .int .i64 m]) = .returned vr∧qc1 w X w' [.im qnH, .im (.int .i64), .im (.int .i64)] (q,n,m,()) vr:=by
 refine ⟨_,rfl,X,hos,htape,hout,hsz,hold,fun _ _=>Iff.rfl,fun b h=>Nat.lt_of_lt_of_le (hX b h) hsz,[v, .int .i64 n, .int .i64 m], ?_,rfl⟩
 exact ⟨[v],_,rfl,hv,[.int .i64 n],_,rfl,RepC.zZ.2 rfl,[.int .i64 m],[],rfl,RepC.zZ.2 rfl,rfl⟩
theorem qGW {w w':World} {X:Nat→Prop} (hX:∀ b,X b→b < w.heap.size) (hold:∀ b,b < w.heap.size→w'.heap[b]? = w.heap[b]?) {q:List BB} {c:Nat} {vals:Array Value} {sv:Value} (hR:qw9 w' w.heap.size c vals q.length sv)
  (hq:∀ i (hi:i < q.length),∃ v,vals[i]? = some v∧RepC (view w X) (.sl (.int .u8)) (q[i]:BB) [v]):RepC (view w' X) qnH q [sv]:=by
 obtain ⟨b,cp,arr,rfl,hb,hmc,hcm,hasz,hvals,hlb,hbc⟩:=hR
 have hle:(view w X).Le (view w' X):=qfU fun b' o hM ho=>⟨hM,(hold b' (Array.getElem?_eq_some_iff.1 ho).1).trans ho⟩
 have e1:(Ty.sl (.int .u8)).size=1:=rfl
 refine RepC.jY.2 ⟨some ⟨b,0,none⟩,cp,rfl,hmc,hcm, .inr ⟨b,0,arr,22,(0,0),rfl,zG.2 ⟨fun h=>absurd (hX b h) (by omega),hb⟩, ?_,fun i x hx => ?_⟩⟩
 ·show 0+q.length*1≤arr.size
  omega
 ·obtain ⟨hi,rfl⟩:=List.getElem?_eq_some_iff.1 hx
  have hi:i < q.length:=hi
  obtain ⟨v,hv,hr⟩:=hq i hi
  have hs:seg arr (0+i*(Ty.sl (.int .u8)).size) (Ty.sl (.int .u8)).size=[v]:=by
   rw [e1,Nat.mul_one,Nat.zero_add]
   refine List.ext_getElem? fun j => ?_
   by_cases hj:j < 1
   ·obtain rfl:j=0:=by omega
    rw [qeG hj,Nat.add_zero,hvals i hi,hv];rfl
   ·rw [List.getElem?_eq_none (by rw [jE (by omega)];omega),List.getElem?_eq_none (by simp;omega)]
  rw [hs]
  exact hr.mono hle
theorem qHb {w:World} {X:Nat→Prop} (hX:∀ b,X b→b < w.heap.size) (q l:List BB) (room:Int) {r:List BB×Int×Int×Unit} {cs1 cs2:List Value} (hq:RepC (view w X) qnH q cs1) (hl:RepC (view w X) qnH l cs2) (hr:qdL (q,l,room,())=some r) :
  Calls Tryz.prog 286 #[mkV qnH cs1,mkV qnH cs2, .int .i64 room] w fun e w'=>∃ vr,e = .returned vr∧qc1 w X w' [.im qnH, .im (.int .i64), .im (.int .i64)] r vr:=by
 have hq0:=hq
 obtain ⟨qa,qc,rfl,q1,q2,q3⟩:=RepC.jY.1 hq
 obtain ⟨la,lc,rfl,l1,l2,l3⟩:=RepC.jY.1 hl
 obtain ⟨qpt,qv,sq,rq⟩:=qH9 (l:=q) q1 q2 q3
 obtain ⟨lpt,lv,sl,rl⟩:=qH9 (l:=l) l1 l2 l3
 unfold qdL at hr
 dsimp only at hr
 show Calls Tryz.prog 286 #[.slice qa q.length qc, .slice la l.length lc, .int .i64 room] w _
 by_cases h1:room < 1
 ·rw [if_pos (.inl h1)] at hr
  obtain rfl:=Option.some.inj hr
  refine (qHc h1).mono fun e w' h => ?_
  obtain ⟨rfl,rfl⟩:=h
  exact ret3 hX rfl rfl rfl (Nat.le_refl _) (fun _ _=>rfl) hq0
 by_cases h2:64 < room
 ·rw [if_pos (.inr h2)] at hr
  obtain rfl:=Option.some.inj hr
  refine (qFd h1 h2).mono fun e w' h => ?_
  obtain ⟨rfl,rfl⟩:=h
  exact ret3 hX rfl rfl rfl (Nat.le_refl _) (fun _ _=>rfl) hq0
 rw [if_neg (by omega)] at hr
 obtain ⟨R,rfl⟩:∃ R:Nat,room=R:=⟨room.toNat,by omega⟩
 refine (qFc (by omega) (by omega) sq sl).mono fun e w' h => ?_
 obtain ⟨h,hk⟩:=h
 have hold:∀ b,b < w.heap.size→w'.heap[b]? = w.heap[b]? := fun b hb=>hk.other b hb (by omega)
 have hle:(view w X).Le (view w' X):=qfU fun b' o hM ho=>⟨hM,(hold b' (Array.getElem?_eq_some_iff.1 ho).1).trans ho⟩
 rcases h with ⟨hlt,rfl⟩ | ⟨hge,sv,rfl,hR⟩
 ·rw [if_pos (by omega)] at hr
  obtain rfl:=Option.some.inj hr
  exact ret3 hX hk.os hk.tape hk.output hk.size hold (hq0.mono hle)
 ·rw [if_neg (by omega),Int.toNat_natCast] at hr
  obtain rfl:=Option.some.inj hr
  rw [Nat.min_comm (R - q.length) l.length]
  have hlen:(q++l.take (R - q.length):List BB).length=q.length+min l.length (R - q.length):=by
   rw [List.length_append,List.length_take,Nat.min_comm]
  refine ret3 hX hk.os hk.tape hk.output hk.size hold (qGW hX hold (c:=w.heap.size+1) (vals:=((List.range q.length).map qv++(List.range (min l.length (R - q.length))).map lv).toArray) (by rw [hlen];exact hR) fun i hi => ?_)
  by_cases hiq:i < q.length
  ·refine ⟨qv i, ?_, ?_⟩
   ·rw [List.getElem?_toArray,List.getElem?_append_left (by simpa using hiq)]
    simp [hiq]
   ·rw [List.getElem_append_left hiq]
    exact rq i hiq
  ·have hj:i - q.length < min l.length (R - q.length):=by omega
   refine ⟨lv (i - q.length), ?_, ?_⟩
   ·rw [List.getElem?_toArray,List.getElem?_append_right (by simp;omega)]
    simp [hj]
   ·rw [List.getElem_append_right (by omega),List.getElem_take]
    exact rl _ (by omega)
theorem qy9:FOK Tryz.prog 286 qnO:=by
 refine ⟨⟨Tryz.f286,Tryz.func286,by kernel_rfl,by kernel_rfl⟩, ?_⟩
 intro w X x vs r hX hkeys ha hr
 obtain ⟨q,l,room,⟨⟩⟩:=x
 obtain ⟨cs1,vs1,rfl,hq,cs2,vs2,rfl,hl,cs3,vs3,rfl,hro,rfl⟩:=ha
 obtain rfl:=RepC.zZ.1 hro
 exact qHb hX q l room hq hl hr
end Yp
namespace Yp
open Go Go.Proofs Tryz
abbrev yT19:Ty := .int .u32
abbrev yT13:Ty := .bool
abbrev yT12:Ty := .int .u8
abbrev yT3:Ty := .sl yT12
abbrev yT22:Ty := .sl yT3
abbrev yT16:Ty := .pair yT3 (.pair yT3 (.unit))
abbrev yT9:Ty := .pair yT13 (.pair (.sl yT16) (.pair yT13 (.unit)))
abbrev yT2:Ty := .int .i64
abbrev yT15:Ty := .pair yT2 (.pair (.ar 16 (.int .u64)) (.unit))
abbrev yT14:Ty := .pair yT2 (.pair yT2 (.unit))
abbrev yT20:Ty := .pair yT3 yT14
abbrev yT7:Ty := .pair yT2 (.pair yT2 (.pair (.ar 2 yT2) (.pair yT2 (.pair yT2 yT16))))
abbrev yT6:Ty := .pair (.ar 4 yT13) (.pair (.ar 4 yT20) (.pair (.ar 4 yT2) (.pair yT2 (.unit))))
abbrev yT5:Ty := .pair yT13 (.pair yT2 (.pair yT2 (.pair yT2 (.pair yT2 (.pair yT3 (.pair yT3 (.pair yT2 (.unit))))))))
abbrev yT4:Ty := .pair yT2 (.pair yT3 (.unit))
abbrev yT21:Ty := .pair (.sl yT4) (.pair (.fn [350]) (.unit))
abbrev yT18:Ty := .pair yT2 (.pair (.ar 2 yT2) yT4)
abbrev yT17:Ty := .pair (.ar 8 yT19) yT4
abbrev yT11:Ty := .pair yT2 (.pair yT2 (.pair yT2 yT4))
abbrev yT10:Ty := .pair yT4 (.pair yT4 (.pair yT4 yT14))
abbrev yT8:Ty := .pair yT2 (.pair (.sl yT4) (.unit))
abbrev yT0:Ty := .pair yT2 (.pair yT3 (.pair yT2 (.pair yT16 (.pair yT2 (.pair yT2 (.pair yT2 (.pair yT2 (.pair yT2 (.pair yT15 (.pair yT10 (.pair yT11 (.pair yT2 (.pair yT2 (.pair yT22 (.pair yT6 (.pair (.sl yT4) (.pair (.sl yT18) (.pair (.ar 4 yT2) (.unit)))))))))))))))))))
abbrev yT1:Ty := .pair yT0 (.pair yT9 (.unit))
theorem qs5:FK 133 ⟨[yT2],[.im yT13],wX⟩:=mkC qE qD func133 3
theorem qwK:FK 120 ⟨[yT2],[.im yT13],qeI⟩:=mkC qE qD func120 3
theorem qzX:FK 208 ⟨[yT2,yT2,yT3],[.im yT13],qhR⟩:=mkC (qA qE qwK) qD func208 8
theorem jD:FK 39 ⟨[yT3,yT3],[.im yT13],z6⟩:=mkC qE qD func39 5
theorem qz3:FK 243 ⟨[yT20,yT20],[.im yT13],qhW⟩:=mkC (qA qE jD) qD func243 5
theorem qs7:FK 28 ⟨[yT2],[.im yT13],qbY⟩:=mkC qE qD func28 3
theorem qrS:FK 144 ⟨[yT4,yT4],[.im yT13],yE⟩:=mkC (qA qE jD) qD func144 5
theorem qz1:FK 40 ⟨[yT10,yT10],[.im yT13],qhU⟩:=mkC (qA qE qrS) qD func40 8
theorem qoA:FK 86 ⟨[yT22,yT22],[.im yT13],wA⟩:=mkC qE qD func86 6
theorem qzZ:FK 145 ⟨[yT16,yT16],[.im yT13],qhT⟩:=mkC (qA qE jD) qD func145 5
theorem qzY:FK 146 ⟨[yT11,yT11],[.im yT13],qhS⟩:=mkC (qA qE jD) qD func146 5
theorem qz2:FK 147 ⟨[yT6,yT6],[.im yT13],qhV⟩:=mkC (qA qE qz3) qD func147 7
theorem qzT:FK 148 ⟨[(.sl yT4),(.sl yT4)],[.im yT13],qhO⟩:=mkC (qA qE jD) qD func148 6
theorem qs6:FK 149 ⟨[(.sl yT18),(.sl yT18)],[.im yT13],qbX⟩:=mkC (qA qE jD) qD func149 6
theorem qzU:FK 42 ⟨[yT0,yT0],[.im yT13],qdD⟩:=mkC (qA (qA (qA (qA (qA (qA (qA (qA qE qs6) qzT) qz2) qzY) qzZ) qoA) qz1) jD) qD func42 12
theorem qAa:FK 115 ⟨[yT9,yT9],[.im yT13],qdI⟩:=mkC (qA qE jD) qD func115 6
theorem qo1:FK 25 ⟨[yT1,yT1],[.im yT13],vB⟩:=mkC (qA (qA qE qAa) qzU) qD func25 7
theorem qAp:FK 318 ⟨[yT3],[.im (.str)],qrG⟩:=mkC qE qD func318 6
theorem qhG:FK 343 ⟨[(.int .i32)],[.im yT2, .im yT13],xP⟩:=mkC qE qD func343 4
theorem qlX:FK 269 ⟨[yT3,yT2,yT2],[.im (.str), .im yT2, .im yT2],vU⟩:=mkC (qA (qA qE qhG) qAp) qD func269 15
noncomputable abbrev qp0:qaJ:=⟨[.str],[.im yT2, .im yT2],vT⟩
theorem qjX:FK 270 qp0:=mkC (qA qE qhG) qD func270 9
theorem qhC:FK 344 ⟨[yT2,yT2],[.im yT2],vE⟩:=mkC qE qD func344 5
theorem qiI:FK 271 ⟨[yT2],[.im yT13],qeY⟩:=mkC (qA qE qhC) qD func271 4
theorem qwY:FK 272 qaS:=qvY qi5
theorem qr3:FK 382 ⟨[yT2],[.im yT2],yR⟩:=mkC qE qD func382 3
noncomputable def qc2:Inl:=inlF (eN [] []) f383 3
theorem qcS:IK 383 qc2:=mkI qE qD func383 3
theorem qAm:FK 346 ⟨[yT2,yT2],[.im yT2],wI⟩:=mkC (qA qE qr3) (jR qD qcS) func346 5
theorem qd7:FK 273 ⟨[yT2],[.im yT14, .im yT13],qaZ⟩:=mkC (qA qE qAm) qD func273 6
theorem qhF:FK 347 ⟨[yT2],[.im yT2],qR⟩:=mkC qE qD func347 3
noncomputable def qmA:Inl:=inlF (eN [] [(383,qc2)]) f384 7
theorem qlC:IK 384 qmA:=mkI qE (jR qD qcS) func384 7
noncomputable def qB6:Inl:=inlF (eN [] [(383,qc2),(384,qmA)]) f349 3
theorem qBg:IK 349 qB6:=mkI qE (jR (jR qD qlC) qcS) func349 3
theorem xQ:FK 363 ⟨[yT5],[.im yT13],qbG⟩:=mkC qE qD func363 3
theorem j7:FK 365 ⟨[yT5],[.im yT13],wS⟩:=mkC qE qD func365 3
theorem xR:FK 364 ⟨[yT5],[.im yT13],qbH⟩:=mkC (qA qE j7) qD func364 4
theorem yY:FK 366 ⟨[yT5],[.im yT13],qjL⟩:=mkC qE qD func366 3
theorem qcB:FK 277 ⟨[yT2,yT3],[.im yT13],v4⟩:=mkC (qA (qA (qA (qA (qA (qA qE yY) j7) xR) xQ) qhF) qd7) (jR (jR qD qBg) qlC) func277 8
theorem qAn:FK 274 ⟨[yT2,yT3,yT2],[.ow yT12, .im yT2, .im yT2],qiD⟩:=mkC (qA (qA (qA (qA (qA (qA (qA (qA (qA qE yY) j7) xR) xQ) qhF) qcB) qd7) qjX) qlX) qD func274 20
theorem quN:FK 177 ⟨[yT3],[.im yT8, .im yT2],qlB⟩:=mkC (qA (qA (qA (qA (qA (qA qE qAn) qd7) qwY) qiI) qjX) qlX) qD func177 20
theorem qBS:FK 275 ⟨[yT2],[.im yT2],qgU⟩:=mkC (qA (qA qE qhC) qiI) qD func275 3
theorem qi3:FK 178 ⟨[yT8],[.im yT13],qaA⟩:=mkC (qA qE qBS) qD func178 3
noncomputable abbrev qiO:qaJ:=⟨[yT4],[.im yT2],w9⟩
theorem jP:FK 350 qiO:=mkC qE qD func350 3
theorem qoE:FK 278 ⟨[yT8],[.im yT21],qdV⟩:=mkC (qA qE jP) qD func278 3
theorem yZ:FK 348 ⟨[yT21,yT2],[.im yT2, .im yT13],jC⟩:=mkC (qA qE jP) qD func348 9
noncomputable abbrev qx5:qaJ:=⟨[yT8,yT2],[.im yT3, .im yT13],wF⟩
theorem qlV:FK 276 qx5:=mkC (qA (qA (qA qE jP) yZ) qoE) qD func276 8
theorem qrZ:FK 179 ⟨[yT8],[.im yT13],qdX⟩:=mkC (qA qE qlV) qD func179 5
theorem qcC:FK 180 ⟨[yT2,yT2],[.im (.str), .im yT2],vF⟩:=mkC qE qD func180 8
noncomputable def qaI:Inl:=inlF (eN [] []) f385 5
theorem qaE:IK 385 qaI:=mkI qE qD func385 5
theorem qlY:FK 333 ⟨[yT3,yT3],[.im yT13],qbS⟩:=mkC qE qD func333 5
theorem qhD:FK 359 ⟨[yT4,yT4],[.im yT13],qh6⟩:=mkC (qA qE qlY) qD func359 5
theorem wL:FK 351 ⟨[(.sl (.sl yT4))],[.ow yT4],zH⟩:=mkC (qA qE qhD) (jR qD qaE) func351 9
theorem qfG:FK 279 ⟨[yT21,yT4],[.ow yT4],xC⟩:=mkC (qA (qA (qA qE jP) wL) yZ) qD func279 8
noncomputable abbrev qx4:qaJ:=⟨[yT8,yT2,yT3],[.im yT8, .im yT2],jG⟩
theorem qrY:FK 181 qx4:=mkC (qA (qA (qA (qA (qA qE jP) qfG) qoE) qcB) qd7) qD func181 10
theorem qBQ:FK 280 ⟨[yT8],[.im yT13],qk8⟩:=mkC (qA (qA qE qcB) qiI) qD func280 6
theorem qAq:FK 281 ⟨[.str],[.ow yT12, .im yT2],qcY⟩:=mkC (qA qE qhG) qD func281 10
theorem qtG:FK 352 ⟨[(.sl yT2)],[.im yT13],qcE⟩:=mkC qE qD func352 6
theorem qtF:FK 282 ⟨[(.sl yT2)],[.ow yT12, .im yT2],qcD⟩:=mkC (qA (qA qE qi5) qtG) qD func282 9
theorem qwW:FK 283 ⟨[yT2,yT3],[.ow yT12, .im yT2],qbP⟩:=mkC (qA (qA (qA (qA (qA (qA (qA (qA (qA qE yY) j7) xR) xQ) qhF) qAq) qcB) qd7) qcC) qD func283 14
theorem qjV:FK 182 ⟨[yT8],[.ow yT12, .im yT2],qbM⟩:=mkC (qA (qA (qA (qA (qA qE qwW) qtF) qAq) qBQ) qcC) qD func182 17
theorem qhE:FK 71 ⟨[yT3,yT2],[.ow yT12, .im yT2],kW⟩:=mkC (qA (qA (qA (qA (qA (qA qE qjV) qrY) qcC) qrZ) qi3) quN) qD func71 12
theorem qlU:FK 263 ⟨[yT2,(.sl yT2)],[.im yT13],qbL⟩:=mkC qE qD func263 7
theorem qjU:FK 228 ⟨[yT0],[.im (.ar 2 yT2)],yN⟩:=mkC (qA qE qlU) qD func228 4
theorem qrW:FK 234 ⟨[yT3],[.im yT13],qgO⟩:=mkC qE qD func234 3
theorem qg8:FK 225 ⟨[yT2],[.im yT2],wC⟩:=mkC qE qD func225 3
theorem qtC:FK 235 ⟨[yT2],[.im yT13],qb3⟩:=mkC (qA qE qg8) qD func235 3
theorem qD9:FK 319 ⟨[yT6],[.im yT6, .im yT2, .im yT2],qpE⟩:=mkC qE qD func319 7
theorem qAo:FK 389 ⟨[yT2,yT2],[.im yT13],qa3⟩:=mkC qE qD func389 5
theorem qr4:FK 367 ⟨[yT7],[.im yT13],qg0⟩:=mkC (qA qE qAo) qD func367 5
noncomputable abbrev qx6:qaJ:=⟨[yT2,yT2],[.ow yT12, .im yT2],qe7⟩
theorem qGy:FK 308 qx6:=mkC qE qD func308 8
noncomputable def qxE:Inl:=inlF (eN [(308,qx6)] []) f368 8
theorem qvT:IK 368 qxE:=mkI (qA qE qGy) qD func368 8
theorem qr5:FK 320 ⟨[yT7],[.ow yT12, .im yT2],qg1⟩:=mkC (qA qE qr4) (jR qD qvT) func320 6
theorem qD6:FK 369 qtW:=qDS qD7
theorem yX:FK 370 ⟨[(.sl yT16)],[.cl yT16],zR⟩:=mkC qE qD func370 3
theorem qwX:FK 371 qkD:=qvX
theorem kY:FK 388 ⟨[yT19,yT2],[.im yT19],qI⟩:=mkC qE qD func388 6
theorem qzQ:FK 387 ⟨[yT3],[.im (.ar 64 yT19)],qhJ⟩:=mkC (qA qE kY) qD func387 9
theorem qrR:FK 362 ⟨[(.ar 8 yT19),yT3],[.im (.ar 8 yT19), .im yT2],qfY⟩:=mkC (qA (qA qE kY) qzQ) qD func362 16
noncomputable abbrev qx2:qaJ:=⟨[yT17,yT3],[.im yT17],qeE⟩
theorem qrQ:FK 312 qx2:=mkC (qA qE qrR) qD func312 6
noncomputable abbrev qx3:qaJ:=⟨[],[.im yT17],qpX⟩
theorem qzS:FK 313 qx3:=mkC qE qD func313 1
theorem qzR:FK 314 ⟨[yT17],[.ow yT12],qjE⟩:=mkC (qA qE qrR) qD func314 9
theorem qHS:FK 361 ⟨[yT3],[.ow yT12],qCr⟩:=mkC (qA (qA (qA (qA qE jP) qzR) qzS) qrQ) qD func361 3
theorem qBN:FK 310 ⟨[yT3],[.ow yT12],qk5⟩:=mkC (qA qE qHS) qD func310 4
noncomputable def qB5:Inl:=inlF (eN [(312,qx2),(313,qx3),(350,qiO)] []) f311 6
theorem qBf:IK 311 qB5:=mkI (qA (qA (qA qE jP) qzS) qrQ) qD func311 6
theorem qAg:FK 231 ⟨[yT3,yT3],[.ow yT12],qqT⟩:=mkC (qA (qA (qA (qA qE jP) qzR) qrQ) qBN) (jR qD qBf) func231 7
theorem qAf:FK 372 ⟨[yT3,yT3],[.ow yT12],qdM⟩:=mkC (qA qE qAg) qD func372 5
theorem qD5:FK 321 ⟨[yT9,yT3,yT3],[.im yT9, .ow yT12],qo7⟩:=mkC (qA (qA (qA (qA qE qAf) qwX) yX) qD6) qD func321 8
theorem qBV:FK 373 ⟨[yT7],[.im yT13],qlN⟩:=mkC (qA qE qr4) qD func373 3
theorem qBU:FK 322 ⟨[yT7],[.ow yT12, .im yT2],qlM⟩:=mkC (qA (qA qE qBV) qr5) qD func322 6
theorem qAl:FK 323 ⟨[yT3],[.ow yT12, .im yT2],qiA⟩:=mkC qE qD func323 4
theorem wM:FK 324 ⟨[(.sl yT4)],[.cl yT4],zU⟩:=mkC qE qD func324 3
theorem qrX:FK 236 ⟨[yT1,yT7,yT3],[.im yT1, .im yT2],qgP⟩:=mkC (qA (qA (qA (qA (qA (qA qE wM) qAl) qBU) qD5) qr5) qD9) qD func236 17
theorem qfF:FK 124 ⟨[yT1,yT3],[.im yT1, .im yT2],yM⟩:=mkC (qA (qA (qA (qA qE qrX) qtC) qrW) qjU) qD func124 9
theorem qiK:FK 287 qaM:=qiJ
theorem qAd:FK 190 ⟨[yT22],[.im yT3, .im yT22, .im yT13],qdK⟩:=mkC (qA qE qiK) qD func190 5
theorem qjW:FK 75 ⟨[yT1],[.im yT1],qd1⟩:=mkC (qA (qA qE qAd) qfF) qD func75 8
theorem qg9:FK 105 ⟨[yT2],[.im yT13],qa0⟩:=mkC (qA qE qg8) qD func105 3
theorem qAe:FK 286 qnO:=qy9
theorem qBK:FK 186 ⟨[yT22,yT3,yT2],[.im yT22, .im yT2],qkW⟩:=mkC (qA qE qAe) qD func186 11
theorem yW:FK 253 ⟨[(.sl yT18)],[.cl yT18],zQ⟩:=mkC qE qD func253 3
theorem qoF:FK 187 ⟨[yT1,yT2,yT2,yT3],[.im yT1],qdZ⟩:=mkC (qA (qA qE yW) qjU) qD func187 9
theorem qlW:FK 73 ⟨[yT1,yT3],[.im yT1, .im yT2],wH⟩:=mkC (qA (qA (qA (qA (qA qE qoF) qBK) qg9) qjW) qhE) qD func73 9
theorem qBL:FK 315 ⟨[yT5],[.im (.fn [363,364,365,366])],qqR⟩:=mkC (qA (qA (qA (qA qE yY) j7) xR) xQ) qD func315 3
theorem qoD:FK 232 ⟨[yT5],[.im yT13],qdR⟩:=mkC (qA (qA (qA (qA (qA qE yY) j7) xR) xQ) qBL) qD func232 3
noncomputable def qfR:Inl:=inlF (eN [(181,qx4)] []) f316 4
theorem qfM:IK 316 qfR:=mkI (qA qE qrY) qD func316 4
theorem qtD:FK 317 ⟨[yT2,yT2],[.ow yT12],z1⟩:=mkC (qA qE qcC) qD func317 7
theorem qi2:FK 233 ⟨[yT5],[.im yT8],kS⟩:=mkC (qA (qA qE qAp) qtD) (jR qD qfM) func233 5
theorem qoC:FK 123 ⟨[yT5],[.ow yT12, .im yT2],qa1⟩:=mkC (qA (qA (qA qE qi2) qoD) qjV) qD func123 4
theorem qEd:FK 167 ⟨[yT2],[.im yT2],qpI⟩:=mkC qE qD func167 3
theorem qBY:FK 338 ⟨[yT2],[.im yT13],ql6⟩:=mkC qE qD func338 3
theorem qEc:FK 262 ⟨[yT2,yT2,yT3],[.im yT13],qpH⟩:=mkC (qA qE qBY) qD func262 7
theorem qBZ:FK 168 ⟨[yT2,yT2,yT3],[.im yT11, .im yT2],ql7⟩:=mkC (qA qE qEc) qD func168 8
theorem qAh:FK 309 ⟨[yT3, .str,yT22],[.ow yT12, .im yT2],qh4⟩:=mkC (qA qE qAg) qD func309 11
theorem qBP:FK 264 ⟨[yT3],[.ow yT12],qgQ⟩:=mkC (qA qE qAh) qD func264 5
theorem qAi:FK 169 ⟨[yT1,yT2,yT3],[.im yT1, .im yT2],qh5⟩:=mkC (qA (qA (qA (qA (qA qE qBP) qlU) qrX) qrW) qjU) qD func169 9
theorem qrP:FK 63 ⟨[yT1,yT5],[.im yT1],qaP⟩:=mkC (qA (qA (qA (qA (qA qE qAi) qBZ) qEd) qfF) qoC) qD func63 9
noncomputable def qAz:Inl:=inlF (eN [] []) f230 3
theorem qy4:IK 230 qAz:=mkI qE qD func230 3
theorem qoB:FK 110 ⟨[yT2,yT2],[.im yT2, .im yT13],qdN⟩:=mkC (qA qE qg8) (jR qD qy4) func110 9
theorem qBT:FK 77 ⟨[yT1,yT2],[.im yT1, .im yT2],qlF⟩:=mkC (qA (qA (qA qE qoB) qg9) qrP) qD func77 6
theorem qr1:FK 191 ⟨[yT1],[.im yT1],qdY⟩:=mkC (qA qE qoB) qD func191 3
theorem qAj:FK 79 ⟨[yT1],[.im yT1],qh8⟩:=mkC (qA qE qr1) qD func79 3
theorem qwU:FK 122 ⟨[yT5,yT2],[.im yT5, .im yT2],qbJ⟩:=mkC qE qD func122 6
theorem qAk:FK 81 ⟨[yT1,yT5],[.im yT1],qh9⟩:=mkC (qA (qA (qA qE qfF) qoC) qwU) qD func81 9
theorem qhB:FK 125 ⟨[yT1,yT2],[.im yT1],kT⟩:=mkC qE qD func125 7
theorem qEe:FK 325 ⟨[yT11,yT11],[.im yT13],qw6⟩:=mkC (qA qE qlY) qD func325 5
theorem qEb:FK 237 ⟨[yT11],[.im yT13],qpG⟩:=mkC (qA qE qEe) qD func237 3
theorem qBX:FK 129 ⟨[yT11,yT2,yT2],[.im yT13],ql5⟩:=mkC (qA qE qEb) qD func129 7
noncomputable def qxD:Inl:=inlF (eN [(270,qp0),(276,qx5)] [(316,qfR)]) f288 7
theorem qvS:IK 288 qxD:=mkI (qA (qA qE qlV) qjX) (jR qD qfM) func288 7
theorem qEa:FK 357 ⟨[yT12],[.im yT12, .im yT13],qpF⟩:=mkC qE qD func357 4
theorem qBW:FK 289 ⟨[.str],[.ow yT12, .im yT2],qg2⟩:=mkC (qA qE qEa) qD func289 10
theorem jX:FK 358 ⟨[(.sl yT4),(.sl yT4),(.fn [359])],[.im yT13],qQ⟩:=mkC (qA qE qhD) qD func358 10
theorem qD8:FK 290 ⟨[yT8,yT8],[.im yT13],qk7⟩:=mkC (qA (qA qE qhD) jX) qD func290 5
theorem qBM:FK 193 ⟨[yT3],[.im yT5, .im yT2],qkZ⟩:=mkC (qA (qA (qA (qA (qA (qA qE qD8) qBW) qlV) qi2) qoD) quN) (jR qD qvS) func193 10
theorem qwV:FK 83 ⟨[yT1,yT5],[.im yT1],qe4⟩:=mkC (qA (qA (qA (qA qE qBM) qr1) qBX) qhB) qD func83 7
theorem qlP:FK 87 ⟨[yT6,yT2],[.im yT6, .im yT2],qbA⟩:=mkC qE qD func87 6
theorem qBA:FK 140 ⟨[yT3],[.im yT10, .im yT2],qkQ⟩:=mkC qE qD func140 4
theorem qfC:FK 202 ⟨[yT2,yT2],[.im yT2],xX⟩:=mkC qE qD func202 7
theorem qrU:FK 246 ⟨[yT2,yT2],[.ow yT12, .im yT2],wY⟩:=mkC (qA qE qfC) qD func246 8
theorem qBI:FK 374 ⟨[yT2],[.ow yT12],qkT⟩:=mkC qE qD func374 6
theorem qn9:FK 375 ⟨[],[.ow yT19],qh2⟩:=mkC qE qD func375 1
theorem qAc:FK 392 ⟨[yT19,yT19],[.im yT19],j6⟩:=mkC qE qD func392 5
theorem qn8:FK 376 ⟨[(.ar 8 yT19),yT3,yT2,(.sl yT19)],[.im (.ar 8 yT19)],qdJ⟩:=mkC (qA qE qAc) qD func376 30
theorem qBG:FK 327 ⟨[yT17],[.ow yT12],qgD⟩:=mkC (qA (qA (qA qE qn8) qn9) qBI) qD func327 9
theorem qBH:FK 328 ⟨[yT17,yT3],[.im yT17],qgE⟩:=mkC (qA (qA qE qn8) qn9) qD func328 8
theorem qBJ:FK 329 ⟨[],[.im yT17],qqH⟩:=mkC qE qD func329 1
theorem qnD:FK 250 ⟨[yT3],[.ow yT12],qeO⟩:=mkC (qA (qA (qA qE qBJ) qBH) qBG) qD func250 3
theorem qwT:FK 249 ⟨[yT3],[.ow yT12],qeN⟩:=mkC (qA qE qnD) qD func249 4
theorem qBF:FK 150 ⟨[yT3,yT3],[.ow yT12],qkS⟩:=mkC (qA (qA qE qnD) qwT) qD func150 9
theorem qAb:FK 326 ⟨[.str,yT22],[.ow yT12],qh1⟩:=mkC qE qD func326 7
theorem qtA:FK 247 ⟨[yT3, .str,yT22],[.ow yT12, .im yT2],qb1⟩:=mkC (qA (qA qE qAb) qBF) qD func247 9
theorem qBx:FK 141 ⟨[yT3,(.ar 2 yT2),yT2,yT3],[.ow yT12],qdE⟩:=mkC (qA (qA (qA qE qtA) qrU) qs5) qD func141 19
theorem qs8:FK 248 ⟨[yT2],[.ow yT12, .im yT2],qbZ⟩:=mkC (qA (qA qE qnD) qrU) qD func248 7
theorem qBz:FK 142 ⟨[],[.im yT16],qf6⟩:=mkC (qA qE qs8) qD func142 3
theorem qBE:FK 143 ⟨[.bool],[.im yT9],qgB⟩:=mkC qE qD func143 3
theorem qhA:FK 85 ⟨[.bool],[.im yT1],vZ⟩:=mkC (qA (qA (qA (qA (qA qE qBE) qBz) qBx) qBA) qlP) qD func85 7
theorem qg7:FK 201 ⟨[.str],[.im yT13],yH⟩:=mkC qE qD func201 4
theorem qfD:FK 92 ⟨[.str],[.im yT2, .im yT2],y9⟩:=mkC (qA (qA qE qfC) qg7) qD func92 6
theorem qb9:FK 95 ⟨[yT2],[.im yT13],y7⟩:=mkC qE qD func95 3
theorem qg6:FK 197 ⟨[yT3,yT2,yT2],[.im (.str), .im yT2, .im yT2],xB⟩:=mkC qE qD func197 13
theorem qlQ:FK 298 ⟨[yT2],[.im yT2, .im yT12],kK⟩:=mkC qE qD func298 6
theorem qBD:FK 293 ⟨[yT3,yT2],[.im yT13],yF⟩:=mkC (qA qE qlQ) qD func293 7
theorem qz8:FK 198 ⟨[yT3,yT2],[.ow yT2, .im yT2, .im yT2],qhZ⟩:=mkC (qA qE qBD) qD func198 12
theorem qD4:FK 294 ⟨[(.sl yT2),yT2],[.im yT13],qkR⟩:=mkC qE qD func294 6
theorem qd6:FK 199 ⟨[yT2],[.im yT14, .im yT13],qb0⟩:=mkC (qA qE qD4) qD func199 7
theorem qlR:FK 295 ⟨[yT2],[.im yT2],y8⟩:=mkC qE qD func295 3
theorem qg5:FK 296 ⟨[yT14,yT3],[.im yT13],xM⟩:=mkC qE qD func296 6
theorem qz9:FK 200 ⟨[yT2,yT3,yT2],[.ow yT12, .im yT2, .im yT2],qh0⟩:=mkC (qA (qA (qA (qA (qA qE qg5) qlR) qd6) qg6) qfD) qD func200 23
theorem qcA:FK 90 ⟨[yT3],[.im yT8, .im yT2],j5⟩:=mkC (qA (qA (qA (qA (qA (qA qE qz9) qd6) qz8) qg6) qb9) qfD) qD func90 20
theorem qfB:FK 91 ⟨[yT8,yT2],[.im yT3, .im yT13],xL⟩:=mkC qE qD func91 7
theorem qr0:FK 209 ⟨[.bool,yT2,yT2],[.im yT2],yO⟩:=mkC qE qD func209 7
theorem qr2:FK 210 ⟨[yT8],[.im yT13],yP⟩:=mkC (qA qE qrZ) qD func210 4
theorem qBR:FK 299 ⟨[yT2],[.im yT2, .im yT13],qk9⟩:=mkC (qA (qA qE qhC) qiI) qD func299 5
theorem qtE:FK 211 ⟨[yT1,yT8],[.im yT1],qb5⟩:=mkC (qA (qA (qA (qA (qA (qA qE qBR) qlV) qjV) qrY) qhB) qfF) qD func211 13
theorem qi4:FK 99 ⟨[yT1,yT7,yT8],[.im yT1],xV⟩:=mkC (qA (qA (qA (qA (qA (qA (qA qE qtE) qr2) qr0) qoF) qi3) qhB) qg9) qD func99 7
theorem qzV:FK 36 ⟨[yT0],[.im (.ar 2 yT2)],qhP⟩:=mkC qE qD func36 3
theorem qBy:FK 189 ⟨[yT0,yT2,(.ar 2 yT2),yT2,yT3],[.im yT0],qkP⟩:=mkC qE qD func189 11
theorem qzW:FK 158 ⟨[yT0,yT2],[.im yT0],qhQ⟩:=mkC (qA (qA (qA qE qBy) qzV) qs7) qD func158 6
theorem qn7:FK 285 ⟨[yT2,yT3],[.im yT13],qdH⟩:=mkC (qA (qA qE qg5) qd6) qD func285 8
theorem qwO:FK 203 ⟨[yT8],[.im yT13],qeK⟩:=mkC (qA (qA qE qn7) qb9) qD func203 5
theorem wT:FK 96 ⟨[yT2,yT2],[.im (.str), .im yT2],jO⟩:=mkC (qA qE qfC) qD func96 8
theorem qrV:FK 206 ⟨[.str],[.ow yT12, .im yT2],v9⟩:=mkC (qA qE qg7) qD func206 6
theorem qwS:FK 204 ⟨[yT2,yT3],[.ow yT12, .im yT2],qbC⟩:=mkC (qA (qA (qA (qA (qA qE qg5) qlR) qrV) qd6) wT) qD func204 16
theorem qwR:FK 297 ⟨[(.sl yT2)],[.im yT13],qeM⟩:=mkC qE qD func297 4
theorem qwQ:FK 205 ⟨[(.sl yT2)],[.ow yT12, .im yT2],qeL⟩:=mkC (qA (qA qE qlQ) qwR) qD func205 11
theorem qz5:FK 207 ⟨[yT2],[.im (.str)],qhX⟩:=mkC (qA qE wT) qD func207 5
theorem qfA:FK 97 ⟨[yT8],[.ow yT12, .im yT2],xW⟩:=mkC (qA (qA (qA (qA (qA qE qz5) qrV) qwQ) qwS) qwO) qD func97 14
theorem qBO:FK 176 ⟨[yT2],[.ow yT12],qbK⟩:=mkC (qA qE qfA) qD func176 5
theorem qfE:FK 70 ⟨[],[.im yT13],wE⟩:=mkC (qA (qA (qA (qA (qA (qA (qA (qA (qA (qA (qA (qA (qA (qA qE qBO) qzW) qi4) qfB) qcA) qhA) qwV) qAk) qAj) qBT) qjW) qlW) qhE) qo1) qD func70 18
theorem qwP:FK 284 ⟨[yT2],[.im yT2],qbB⟩:=mkC (qA qE qb9) qD func284 4
theorem qD3:FK 183 ⟨[yT8],[.im yT13],qo6⟩:=mkC (qA qE qwP) qD func183 4
theorem qn4:FK 184 ⟨[yT8],[.im yT13],qdB⟩:=mkC (qA qE qfB) qD func184 5
theorem qBC:FK 185 ⟨[yT8,yT2,yT3],[.im yT8, .im yT2],qf8⟩:=mkC (qA (qA qE qn7) qd6) qD func185 14
theorem qwJ:FK 72 ⟨[yT3,yT2],[.ow yT12, .im yT2],qeH⟩:=mkC (qA (qA (qA (qA (qA (qA qE qBC) qn4) qD3) qfA) wT) qcA) qD func72 16
theorem qs9:FK 360 ⟨[yT2],[.im yT13],kP⟩:=mkC qE qD func360 3
theorem qwM:FK 291 ⟨[yT7],[.im yT13],qeJ⟩:=mkC (qA qE qs9) qD func291 6
theorem qwN:FK 195 ⟨[yT7],[.im yT13],qa9⟩:=mkC (qA qE qwM) qD func195 4
theorem qwL:FK 98 ⟨[yT2,yT2,yT3],[.im yT11, .im yT2],y5⟩:=mkC (qA qE qzX) qD func98 9
theorem qrT:FK 266 ⟨[yT3,yT2,yT2],[.im yT2, .im yT2, .im yT2],qaW⟩:=mkC qE qD func266 11
theorem qz0:FK 194 ⟨[yT3,yT2,yT2],[.im yT2],vY⟩:=mkC (qA qE qrT) qD func194 10
theorem qn6:FK 88 ⟨[yT3],[.im yT7, .im yT2],kQ⟩:=mkC (qA (qA qE qwN) qz0) qD func88 7
theorem qBB:FK 292 ⟨[yT20,yT12],[.im yT20, .ow yT12],qdF⟩:=mkC qE qD func292 7
theorem qz4:FK 196 ⟨[yT20,yT3],[.im yT20, .ow yT3],qmQ⟩:=mkC (qA qE qBB) qD func196 10
theorem qn5:FK 89 ⟨[yT3],[.im yT3],kO⟩:=mkC (qA qE qz4) qD func89 5
theorem qnE:FK 16 ⟨[yT22,(.int .u16)],[.im yT13],yL⟩:=mkC (qA (qA (qA (qA (qA (qA (qA (qA (qA (qA qE qn5) qn6) qlP) qoA) qhA) qjW) qlW) qwJ) qfE) jD) qD func16 17
theorem qz6:FK 93 ⟨[yT8,yT8],[.im yT13],qhY⟩:=mkC (qA qE jD) qD func93 6
theorem qz7:FK 94 ⟨[yT8,yT2],[.im yT8],qdG⟩:=mkC qE qD func94 7
theorem qlS:FK 18 ⟨[yT3,(.int .u16),(.int .u16)],[.im yT13],kF⟩:=mkC (qA (qA (qA (qA (qA (qA (qA (qA qE qz7) qz6) qfD) qfB) qcA) qhE) qfE) jD) qD func18 26
theorem qo0:FK 100 ⟨[yT8],[.im yT13],jB⟩:=mkC (qA qE qn4) qD func100 5
theorem qlT:FK 19 ⟨[(.int .u16),yT19, .bool],[.im yT13],kG⟩:=mkC (qA (qA (qA (qA (qA (qA (qA (qA (qA (qA (qA (qA qE qo0) qi4) qwL) qfA) wT) qb9) qfB) qcA) qn5) qn6) qhA) qfE) qD func19 26
end Yp
namespace Yp
open Go
set_option maxRecDepth 100000
set_option maxHeartbeats 2000000
def tn (x n:UInt32):UInt32:=u32 (orI .u32 (n32 (u32 (shrI .u32 (n32 x) (n32 n)))) (n32 (u32 (shlI .u32 (n32 x) (n32 (u32 (isub (n32 (u32 32)) (n32 n))))))))
theorem qcG (x n:UInt32):j6 (x,n,())=some (tn x n,()):=rfl
theorem qFn (a b:UInt32):u32 (orI .u32 (n32 a) (n32 b))=u32 (orI .u32 (n32 b) (n32 a)):=by rw [or32,or32,UInt32.or_comm]
theorem qiP {x:UInt32} {k:Int} {n:UInt32} (h1:n64 (u64 (andI .u64 (n64 (u64 k)) (n64 (u64 31))))=n32 (u32 (isub (n32 (u32 32)) (n32 n)))) (h2:n64 (u64 (isub (n64 (u64 32)) (n64 (u64 (andI .u64 (n64 (u64 k)) (n64 (u64 31)))))))=n32 n) :
  qI (x,k,())=some (tn x n,()):=by
 unfold qI tn
 dsimp only
 rw [qFn,h2,h1]
theorem r2 (x:UInt32):qI (x, -2,())=some (tn x (u32 2),()):=qiP (by decide +kernel) (by decide +kernel)
theorem r3 (x:UInt32):qI (x, -13,())=some (tn x (u32 13),()):=qiP (by decide +kernel) (by decide +kernel)
theorem r4 (x:UInt32):qI (x, -22,())=some (tn x (u32 22),()):=qiP (by decide +kernel) (by decide +kernel)
theorem r6 (x:UInt32):qI (x, -6,())=some (tn x (u32 6),()):=qiP (by decide +kernel) (by decide +kernel)
theorem r11 (x:UInt32):qI (x, -11,())=some (tn x (u32 11),()):=qiP (by decide +kernel) (by decide +kernel)
theorem r25 (x:UInt32):qI (x, -25,())=some (tn x (u32 25),()):=qiP (by decide +kernel) (by decide +kernel)
theorem r7 (x:UInt32):qI (x, -7,())=some (tn x (u32 7),()):=qiP (by decide +kernel) (by decide +kernel)
theorem r18 (x:UInt32):qI (x, -18,())=some (tn x (u32 18),()):=qiP (by decide +kernel) (by decide +kernel)
theorem r17 (x:UInt32):qI (x, -17,())=some (tn x (u32 17),()):=qiP (by decide +kernel) (by decide +kernel)
theorem r19 (x:UInt32):qI (x, -19,())=some (tn x (u32 19),()):=qiP (by decide +kernel) (by decide +kernel)
def qIL (a b c d:UInt8):UInt32 :=
 u32 (iadd (n32 (u32 (iadd (n32 (u32 (iadd (n32 (u32 (imul (n32 (u32 (n8 a))) (n32 (u32 16777216))))) (n32 (u32 (imul (n32 (u32 (n8 b))) (n32 (u32 65536)))))))) (n32 (u32 (imul (n32 (u32 (n8 c))) (n32 (u32 256)))))))) (n32 (u32 (n8 d))))
def qKh (a b c d:UInt8):UInt32 :=
 u32 (orI .u32 (n32 (u32 (orI .u32 (n32 (u32 (orI .u32 (n32 (u32 (shlI .u32 (n32 (u32 (n8 a))) (n64 (u64 24))))) (n32 (u32 (shlI .u32 (n32 (u32 (n8 b))) (n64 (u64 16)))))))) (n32 (u32 (shlI .u32 (n32 (u32 (n8 c))) (n64 (u64 8)))))))) (n32 (u32 (n8 d))))
theorem v7 {a:Int} (h:0≤a∧a < 4294967296):n32 (u32 a)=a:=by
 show (((BitVec.ofNat 32 ((a % 2 ^ 32).toNat)).toNat:Nat):Int)=a
 rw [BitVec.toNat_ofNat];omega
theorem qfV {a:Nat} (h:a < 4294967296):(u32 (a:Int)).toNat=a:=by
 have:=v7 (a:=(a:Int)) (by omega)
 unfold n32 at this;omega
theorem qIK (a b c d:UInt8):qKh a b c d=qIL a b c d:=by
 have ha:=a.toNat_lt;have hb:=b.toNat_lt;have hc:=c.toNat_lt;have hd:=d.toNat_lt
 unfold qKh qIL
 have e1:∀ x:UInt8,n32 (u32 (n8 x))=(x.toNat:Int):=fun x=>by
  have:=x.toNat_lt
  exact v7 (a:=(x.toNat:Int)) (by omega)
 have s1:∀ (x:UInt8),shlI .u32 (n32 (u32 (n8 x))) (n64 (u64 24))=((x.toNat*16777216:Nat):Int):=fun x=>by rw [e1];show (x.toNat:Int)*2 ^ 24=_;omega
 have s2:∀ (x:UInt8),shlI .u32 (n32 (u32 (n8 x))) (n64 (u64 16))=((x.toNat*65536:Nat):Int):=fun x=>by rw [e1];show (x.toNat:Int)*2 ^ 16=_;omega
 have s3:∀ (x:UInt8),shlI .u32 (n32 (u32 (n8 x))) (n64 (u64 8))=((x.toNat*256:Nat):Int):=fun x=>by rw [e1];show (x.toNat:Int)*2 ^ 8=_;omega
 have m1:∀ (x:UInt8),imul (n32 (u32 (n8 x))) (n32 (u32 16777216))=((x.toNat*16777216:Nat):Int):=fun x=>by rw [e1,v7 (by decide)];show (x.toNat:Int)*16777216=_;omega
 have m2:∀ (x:UInt8),imul (n32 (u32 (n8 x))) (n32 (u32 65536))=((x.toNat*65536:Nat):Int):=fun x=>by rw [e1,v7 (by decide)];show (x.toNat:Int)*65536=_;omega
 have m3:∀ (x:UInt8),imul (n32 (u32 (n8 x))) (n32 (u32 256))=((x.toNat*256:Nat):Int):=fun x=>by rw [e1,v7 (by decide)];show (x.toNat:Int)*256=_;omega
 rw [s1,s2,s3,m1,m2,m3,or32,or32,or32]
 have d1:(u32 (n8 d)).toNat=d.toNat:=qfV (by omega)
 apply UInt32.toNat_inj.1
 rw [UInt32.toNat_or,UInt32.toNat_or,UInt32.toNat_or,qfV (by omega),qfV (by omega),qfV (by omega),d1]
 have o3:(c.toNat*256) ||| d.toNat=c.toNat*256+d.toNat:=by
  have:=Nat.two_pow_add_eq_or_of_lt (i:=8) (b:=d.toNat) (by omega) c.toNat
  rw [Nat.mul_comm];exact this.symm
 have o2:(b.toNat*65536) ||| (c.toNat*256+d.toNat)=b.toNat*65536+(c.toNat*256+d.toNat):=by
  have:=Nat.two_pow_add_eq_or_of_lt (i:=16) (b:=c.toNat*256+d.toNat) (by omega) b.toNat
  rw [Nat.mul_comm b.toNat];exact this.symm
 have o1:(a.toNat*16777216) ||| (b.toNat*65536+(c.toNat*256+d.toNat))=a.toNat*16777216+(b.toNat*65536+(c.toNat*256+d.toNat)):=by
  have:=Nat.two_pow_add_eq_or_of_lt (i:=24) (b:=b.toNat*65536+(c.toNat*256+d.toNat)) (by omega) a.toNat
  rw [Nat.mul_comm a.toNat];exact this.symm
 rw [Nat.or_assoc,Nat.or_assoc,o3,o2,o1]
 have q1:iadd (n32 (u32 ((a.toNat*16777216:Nat):Int))) (n32 (u32 ((b.toNat*65536:Nat):Int)))=((a.toNat*16777216+b.toNat*65536:Nat):Int):=by
  rw [v7 (by omega),v7 (by omega)];show (_:Int)+_=_;omega
 rw [q1]
 have q2:iadd (n32 (u32 ((a.toNat*16777216+b.toNat*65536:Nat):Int))) (n32 (u32 ((c.toNat*256:Nat):Int)))=((a.toNat*16777216+b.toNat*65536+c.toNat*256:Nat):Int):=by
  rw [v7 (by omega),v7 (by omega)];show (_:Int)+_=_;omega
 rw [q2]
 have q3:iadd (n32 (u32 ((a.toNat*16777216+b.toNat*65536+c.toNat*256:Nat):Int))) (n32 (u32 (n8 d)))=((a.toNat*16777216+b.toNat*65536+c.toNat*256+d.toNat:Nat):Int):=by
  rw [v7 (by omega),e1];show (_:Int)+_=_;omega
 rw [q3,qfV (by omega)];omega
def mixW (m2 m7 m15 m16:UInt32):UInt32 :=
 u32 (iadd (n32 (u32 (iadd (n32 (u32 (iadd (n32 (u32 (xorI .u32 (n32 (u32 (xorI .u32 (n32 (tn m2 (u32 17))) (n32 (tn m2 (u32 19)))))) (n32 (u32 (shrI .u32 (n32 m2) (n64 (u64 10)))))))) (n32 m7)))) (n32 (u32 (xorI .u32 (n32 (u32 (xorI .u32 (n32 (tn m15 (u32 7))) (n32 (tn m15 (u32 18)))))) (n32 (u32 (shrI .u32 (n32 m15) (n64 (u64 3))))))))))) (n32 m16))
def q8 (b:BB) (i:Nat):UInt8:=b.getD i 0
def q32 (m:List UInt32) (i:Nat):UInt32:=m.getD i 0
def sch (b:BB) (at':Nat):Nat→List UInt32
 | 0=>List.replicate 64 0
 | t+1=>(sch b at' t).set t (if t < 16 then qIL (q8 b (at'+4*t)) (q8 b (at'+4*t+1)) (q8 b (at'+4*t+2)) (q8 b (at'+4*t+3))
   else mixW (q32 (sch b at' t) (t - 2)) (q32 (sch b at' t) (t - 7)) (q32 (sch b at' t) (t - 15)) (q32 (sch b at' t) (t - 16)))
theorem qc7 (b:BB) (at':Nat):∀ t,(sch b at' t).length=64
 | 0=>by simp [sch]
 | t+1=>by rw [sch,List.length_set];exact qc7 b at' t
theorem qx0 {b c:BB} {x y:Nat} (h:∀ i,i < 64→q8 b (x+i)=q8 c (y+i)):∀ t,sch b x t=sch c y t
 | 0=>rfl
 | t+1=>by
  rw [sch,sch,qx0 h t]
  by_cases ht:t < 16
  ·rw [if_pos ht,if_pos ht,h (4*t) (by omega),Nat.add_assoc x,Nat.add_assoc x,Nat.add_assoc x,h (4*t+1) (by omega),h (4*t+2) (by omega),h (4*t+3) (by omega)];rfl
  ·rw [if_neg ht,if_neg ht]
theorem i64n {n:Nat} {a:Int} (h:a=(n:Int)) (hn:n≤9223372036854775807):i64 a=(n:Int):=by rw [h];exact z8 (by omega) (by omega)
theorem qpW (b:BB) (hb:b.length=64):qhJ (b,())=some (sch b 0 64,()):=by
 unfold qhJ
 generalize hf:(fun (x_1:Int×List UInt32×Unit)=>_)=f
 have step:∀ t:Nat,t < 64→f ((t:Int),sch b 0 t,())=some (.nx (((t+1:Nat):Int),sch b 0 (t+1),())):=by
  intro t ht
  subst hf
  have hi:i64 (iadd (t:Int) 1)=((t+1:Nat):Int):=i64n (by show (t:Int)+1=_;omega) (by omega)
  refine (qC (by simp only [go_sem,Int.reduceToNat];omega)).trans ?_
  by_cases h16:t < 16
  ·have e0:i64 (imul 4 (t:Int))=((4*t:Nat):Int):=i64n (by show 4*(t:Int)=_;omega) (by omega)
   have e1:i64 (iadd (i64 (imul 4 (t:Int))) 1)=((4*t+1:Nat):Int):=by rw [e0];exact i64n (by show ((4*t:Nat):Int)+1=_;omega) (by omega)
   have e2:i64 (iadd (i64 (imul 4 (t:Int))) 2)=((4*t+2:Nat):Int):=by rw [e0];exact i64n (by show ((4*t:Nat):Int)+2=_;omega) (by omega)
   have e3:i64 (iadd (i64 (imul 4 (t:Int))) 3)=((4*t+3:Nat):Int):=by rw [e0];exact i64n (by show ((4*t:Nat):Int)+3=_;omega) (by omega)
   refine (qC (by simp only [go_sem,Int.reduceToNat];omega)).trans ?_
   dsimp only
   rw [e1,e2,e3,e0,hi]
   refine (qH (by simp only [go_sem,Int.reduceToNat];omega)).trans ((qH (by simp only [go_sem,Int.reduceToNat];omega)).trans ((qH (by simp only [go_sem,Int.reduceToNat];omega)).trans ((qH (by simp only [go_sem,Int.reduceToNat];omega)).trans ((qH (by simp only [go_sem,Int.reduceToNat];omega)).trans ?_))))
   have hw:=qIK (q8 b (4*t)) (q8 b (4*t+1)) (q8 b (4*t+2)) (q8 b (4*t+3))
   rw [sch,if_pos h16,Nat.zero_add,← hw]
   rfl
  ·have e15:i64 (isub (t:Int) 15)=((t - 15:Nat):Int):=i64n (by show (t:Int) - 15=_;omega) (by omega)
   have e2:i64 (isub (t:Int) 2)=((t - 2:Nat):Int):=i64n (by show (t:Int) - 2=_;omega) (by omega)
   have e7:i64 (isub (t:Int) 7)=((t - 7:Nat):Int):=i64n (by show (t:Int) - 7=_;omega) (by omega)
   have e16:i64 (isub (t:Int) 16)=((t - 16:Nat):Int):=i64n (by show (t:Int) - 16=_;omega) (by omega)
   refine (qB (by simp only [go_sem,Int.reduceToNat];omega)).trans ?_
   dsimp only
   rw [e15,e2,e7,e16,hi]
   refine (qH (by simp only [go_sem,Int.reduceToNat];omega)).trans ?_
   refine (qH (by simp only [go_sem,Int.reduceToNat];omega)).trans ?_
   rw [r7]
   refine (qF rfl).trans ?_
   rw [r18]
   refine (qF rfl).trans ?_
   rw [r17]
   refine (qF rfl).trans ?_
   rw [r19]
   refine (qF rfl).trans ?_
   refine (qH (by simp only [go_sem,Int.reduceToNat];omega)).trans ?_
   refine (qH (by simp only [go_sem,Int.reduceToNat];omega)).trans ?_
   refine (qH (by simp only [go_sem,Int.reduceToNat];omega)).trans ?_
   rw [sch,if_neg h16]
   rfl
 have hend:∀ m,f (((64:Nat):Int),m,())=some (.ex 0 (((64:Nat):Int),m,())):=by subst hf;intro m;exact qB rfl
 have hloop:loop f (((0:Nat):Int),sch b 0 0,())=some (.ex 0 (((64:Nat):Int),sch b 0 64,())) :=
  (qL (f:=f) (fun t=>((t:Int),sch b 0 t,())) 64 step 0 (Nat.zero_le _)).trans (qT (hend _))
 generalize hs:sch b 0 64=m at hloop
 refine (zC (show loop f _=_ from hloop)).trans ?_
 rfl
abbrev R8:=UInt32×UInt32×UInt32×UInt32×UInt32×UInt32×UInt32×UInt32
def t1D (k m h g f e:UInt32):UInt32 :=
 u32 (iadd (n32 (u32 (iadd (n32 (u32 (iadd (n32 (u32 (iadd (n32 h) (n32 (u32 (xorI .u32 (n32 (u32 (xorI .u32 (n32 (tn e (u32 6))) (n32 (tn e (u32 11)))))) (n32 (tn e (u32 25))))))))) (n32 (u32 (xorI .u32 (n32 (u32 (andI .u32 (n32 e) (n32 f)))) (n32 (u32 (andI .u32 (n32 (u32 (xorI .u32 4294967295 (n32 e)))) (n32 g)))))))))) (n32 k)))) (n32 m))
def t2D (c b a:UInt32):UInt32 :=
 u32 (iadd (n32 (u32 (xorI .u32 (n32 (u32 (xorI .u32 (n32 (tn a (u32 2))) (n32 (tn a (u32 13)))))) (n32 (tn a (u32 22)))))) (n32 (u32 (xorI .u32 (n32 (u32 (xorI .u32 (n32 (u32 (andI .u32 (n32 a) (n32 b)))) (n32 (u32 (andI .u32 (n32 a) (n32 c))))))) (n32 (u32 (andI .u32 (n32 b) (n32 c))))))))
def nxt (k m:UInt32) (s:R8):R8 :=
 (s.2.1,s.2.2.1,s.2.2.2.1,u32 (iadd (n32 s.2.2.2.2.1) (n32 (t1D k m s.1 s.2.1 s.2.2.1 s.2.2.2.1))),s.2.2.2.2.2.1,s.2.2.2.2.2.2.1,s.2.2.2.2.2.2.2,
  u32 (iadd (n32 (t1D k m s.1 s.2.1 s.2.2.1 s.2.2.2.1)) (n32 (t2D s.2.2.2.2.2.1 s.2.2.2.2.2.2.1 s.2.2.2.2.2.2.2))))
def rounds (ms:List UInt32) (s:R8):Nat→R8
 | 0=>s
 | t+1=>nxt (q32 qfS t) (q32 ms t) (rounds ms s t)
def r8L (s:R8):List UInt32:=[s.2.2.2.2.2.2.2,s.2.2.2.2.2.2.1,s.2.2.2.2.2.1,s.2.2.2.2.1,s.2.2.2.1,s.2.2.1,s.2.1,s.1]
def addL (w:List UInt32) (s:R8):List UInt32 :=
  [u32 (iadd (n32 (q32 w 0)) (n32 s.2.2.2.2.2.2.2)),u32 (iadd (n32 (q32 w 1)) (n32 s.2.2.2.2.2.2.1)),u32 (iadd (n32 (q32 w 2)) (n32 s.2.2.2.2.2.1)),u32 (iadd (n32 (q32 w 3)) (n32 s.2.2.2.2.1)),
   u32 (iadd (n32 (q32 w 4)) (n32 s.2.2.2.1)),u32 (iadd (n32 (q32 w 5)) (n32 s.2.2.1)),u32 (iadd (n32 (q32 w 6)) (n32 s.2.1)),u32 (iadd (n32 (q32 w 7)) (n32 s.1))]
def ofL (w:List UInt32):R8:=(q32 w 7,q32 w 6,q32 w 5,q32 w 4,q32 w 3,q32 w 2,q32 w 1,q32 w 0)
def qsD (w:List UInt32) (b:BB) (at':Nat):List UInt32:=addL w (rounds (sch b at' 64) (ofL w) 64)
theorem eight {α:Type} {w:List α} (h:w.length=8):∃ a b c d e f g i,w=[a,b,c,d,e,f,g,i]:=by
 match w,h with
 | [a,b,c,d,e,f,g,i],_=>exact ⟨a,b,c,d,e,f,g,i,rfl⟩
theorem qjC {b c:BB} {x y:Nat} (h:∀ i,i < 64→q8 b (x+i)=q8 c (y+i)) (w:List UInt32):qsD w b x=qsD w c y:=by unfold qsD;rw [qx0 h]
theorem qiM (w:List UInt32) (hw:w.length=8) (b:BB) (hb:b.length=64):qfY (w,b,())=some (qsD w b 0,0,()):=by
 unfold qfY
 refine (qB (by simp only [go_sem,Int.reduceToNat];omega)).trans ?_
 dsimp only
 rw [qpW b hb]
 have hm:=qc7 b 0 64
 unfold qsD
 generalize sch b 0 64=m at hm
 refine (qF rfl).trans ?_
 obtain ⟨w0,w1,w2,w3,w4,w5,w6,w7,rfl⟩:=eight hw
 generalize hf:(fun (x:Int×List UInt32×Unit)=>(_:Option (LS (Int×List UInt32×Unit) (List UInt32×Int×Unit))))=f
 obtain ⟨s,hs⟩:∃ s,s=ofL [w0,w1,w2,w3,w4,w5,w6,w7]:=⟨_,rfl⟩
 have step:∀ t:Nat,t < 64→f ((t:Int),r8L (rounds m s t),())=some (.nx (((t+1:Nat):Int),r8L (rounds m s (t+1)),())):=by
  intro t ht
  subst hf
  have hi:i64 (iadd (t:Int) 1)=((t+1:Nat):Int):=i64n (by show (t:Int)+1=_;omega) (by omega)
  rw [show rounds m s (t+1)=nxt (q32 qfS t) (q32 m t) (rounds m s t) from rfl]
  generalize rounds m s t=r
  obtain ⟨h,g,f,e,d,c,b,a⟩:=r
  refine (qC (by simp only [go_sem,Int.reduceToNat];omega)).trans ?_
  dsimp only [r8L]
  rw [hi]
  refine (qH (by simp only [go_sem,Int.reduceToNat];omega)).trans ?_
  refine (qH rfl).trans ?_
  refine (qH rfl).trans ?_
  rw [show nth [a,b,c,d,e,f,g,h] (nat 4) (u32 0)=e from rfl,r6]
  refine (qF rfl).trans ?_
  rw [r11]
  refine (qF rfl).trans ?_
  rw [r25]
  refine (qF rfl).trans ?_
  rw [show nth [a,b,c,d,e,f,g,h] (nat 0) (u32 0)=a from rfl,r2]
  refine (qF rfl).trans ?_
  rw [r3]
  refine (qF rfl).trans ?_
  rw [r4]
  refine (qF rfl).trans ?_
  refine (qH rfl).trans ?_
  refine (qH rfl).trans ?_
  refine (qH rfl).trans ?_
  refine (qH (by simp only [go_sem,Int.reduceToNat];omega)).trans ?_
  refine (qH rfl).trans ?_
  refine (qH rfl).trans ?_
  refine (qH rfl).trans ?_
  refine (qH rfl).trans ?_
  refine (qH rfl).trans ?_
  refine (qH rfl).trans ?_
  refine (qH rfl).trans ?_
  refine (qH rfl).trans ?_
  refine (qH rfl).trans ?_
  rfl
 have hend:∀ v,f (((64:Nat):Int),v,())=some (.ex 0 (((64:Nat):Int),v,())):=by subst hf;intro v;exact qB rfl
 have hloop:loop f (((0:Nat):Int),r8L (rounds m s 0),())=some (.ex 0 (((64:Nat):Int),r8L (rounds m s 64),())) :=
  (qL (f:=f) (fun t=>((t:Int),r8L (rounds m s t),())) 64 step 0 (Nat.zero_le _)).trans (qT (hend _))
 have h0:r8L (rounds m s 0)=[w0,w1,w2,w3,w4,w5,w6,w7]:=by rw [hs];rfl
 rw [h0] at hloop
 rw [← hs]
 generalize rounds m s 64=r at hloop
 obtain ⟨h,g,f',e,d,c,b',a⟩:=r
 refine (zC (show loop f (0,[w0,w1,w2,w3,w4,w5,w6,w7],())=_ from hloop)).trans ?_
 refine (qH g62).trans ?_
 refine (zC (qjN (r := .ex 2 (((8:Nat):Int),addL [w0,w1,w2,w3,w4,w5,w6,w7] (h,g,f',e,d,c,b',a),())) 9 rfl)).trans ?_
 rfl
theorem qgC (w:List UInt32) (hw:w.length=8) (b:BB) (n:Nat) (hb:n+64≤b.length) (hl:b.length≤4611686018427387904):qdJ (w,b,(n:Int),qfS,())=some (qsD w b n,()):=by
 unfold qdJ
 refine (qH (by decide)).trans ?_
 generalize hf:(fun (x_1:Int×List UInt32×Unit)=>(_:Option (LS (Int×List UInt32×Unit) (List UInt32×Unit))))=f
 have step:∀ t:Nat,t < 16→f ((t:Int),sch b n t,())=some (.nx (((t+1:Nat):Int),sch b n (t+1),())):=by
  intro t ht
  subst hf
  have hi:i64 (iadd (t:Int) 1)=((t+1:Nat):Int):=i64n (by show (t:Int)+1=_;omega) (by omega)
  have hm:=qc7 b n t
  have e4:i64 (imul 4 (t:Int))=((4*t:Nat):Int):=i64n (by show 4*(t:Int)=_;omega) (by omega)
  have e0:i64 (iadd (n:Int) (i64 (imul 4 (t:Int))))=((n+4*t:Nat):Int):=by rw [e4];exact i64n (by show (n:Int)+((4*t:Nat):Int)=_;omega) (by omega)
  have e1:i64 (iadd (i64 (iadd (n:Int) (i64 (imul 4 (t:Int))))) 1)=((n+4*t+1:Nat):Int):=by rw [e0];exact i64n (by show ((n+4*t:Nat):Int)+1=_;omega) (by omega)
  have e2:i64 (iadd (i64 (iadd (n:Int) (i64 (imul 4 (t:Int))))) 2)=((n+4*t+2:Nat):Int):=by rw [e0];exact i64n (by show ((n+4*t:Nat):Int)+2=_;omega) (by omega)
  have e3:i64 (iadd (i64 (iadd (n:Int) (i64 (imul 4 (t:Int))))) 3)=((n+4*t+3:Nat):Int):=by rw [e0];exact i64n (by show ((n+4*t:Nat):Int)+3=_;omega) (by omega)
  refine (qC (by simp only [go_sem,Int.reduceToNat];omega)).trans ?_
  dsimp only
  rw [e1,e2,e3,e0,hi]
  refine (qH (by simp only [go_sem,Int.reduceToNat];omega)).trans ?_
  refine (qH (by simp only [go_sem,Int.reduceToNat];omega)).trans ?_
  refine (qH (by simp only [go_sem,Int.reduceToNat];omega)).trans ?_
  refine (qH (by simp only [go_sem,Int.reduceToNat];omega)).trans ?_
  refine (qH (by simp only [go_sem,Int.reduceToNat];omega)).trans ?_
  rw [sch,if_pos ht]
  rfl
 have hend:∀ v,f (((16:Nat):Int),v,())=some (.ex 0 (((16:Nat):Int),v,())):=by subst hf;intro v;exact qB rfl
 have hloop:loop f (((0:Nat):Int),sch b n 0,())=some (.ex 0 (((16:Nat):Int),sch b n 16,())) :=
  (qL (f:=f) (fun t=>((t:Int),sch b n t,())) 16 step 0 (Nat.zero_le _)).trans (qT (hend _))
 refine (zC (show loop f (0,rep (nat 64) (u32 0),())=_ from hloop)).trans ?_
 clear hloop hend step
 refine (qH g62).trans ?_
 dsimp only
 clear hf f
 generalize hf:(fun (x:Int×List UInt32×Unit)=>(_:Option (LS (Int×List UInt32×Unit) (List UInt32×Unit))))=f
 have step:∀ t:Nat,16≤t→t < 64→f ((t:Int),sch b n t,())=some (.nx (((t+1:Nat):Int),sch b n (t+1),())):=by
  intro t h16 ht
  subst hf
  have hi:i64 (iadd (t:Int) 1)=((t+1:Nat):Int):=i64n (by show (t:Int)+1=_;omega) (by omega)
  have hm:=qc7 b n t
  have e15:i64 (isub (t:Int) 15)=((t - 15:Nat):Int):=i64n (by show (t:Int) - 15=_;omega) (by omega)
  have e2:i64 (isub (t:Int) 2)=((t - 2:Nat):Int):=i64n (by show (t:Int) - 2=_;omega) (by omega)
  have e7:i64 (isub (t:Int) 7)=((t - 7:Nat):Int):=i64n (by show (t:Int) - 7=_;omega) (by omega)
  have e16:i64 (isub (t:Int) 16)=((t - 16:Nat):Int):=i64n (by show (t:Int) - 16=_;omega) (by omega)
  refine (qC (by simp only [go_sem,Int.reduceToNat];omega)).trans ?_
  dsimp only
  rw [e15,e2,e7,e16,hi]
  refine (qH (by simp only [go_sem,Int.reduceToNat];omega)).trans ?_
  refine (qH (by simp only [go_sem,Int.reduceToNat];omega)).trans ?_
  rw [qcG]
  refine (qF rfl).trans ?_
  rw [qcG]
  refine (qF rfl).trans ?_
  rw [qcG]
  refine (qF rfl).trans ?_
  rw [qcG]
  refine (qF rfl).trans ?_
  refine (qH (by simp only [go_sem,Int.reduceToNat];omega)).trans ?_
  refine (qH (by simp only [go_sem,Int.reduceToNat];omega)).trans ?_
  refine (qH (by simp only [go_sem,Int.reduceToNat];omega)).trans ?_
  rw [sch,if_neg (by omega)]
  rfl
 have hend:∀ v,f (((64:Nat):Int),v,())=some (.ex 2 (((64:Nat):Int),v,())):=by subst hf;intro v;exact qB rfl
 have hloop:loop f (((16:Nat):Int),sch b n 16,())=some (.ex 2 (((64:Nat):Int),sch b n 64,())) :=
  (qL (f:=f) (fun t=>(((16+t:Nat):Int),sch b n (16+t),())) 48 (fun t ht=>step (16+t) (by omega) (by omega)) 0 (Nat.zero_le _)).trans (qT (hend _))
 refine (zC (show loop f (16,sch b n 16,())=_ from hloop)).trans ?_
 clear hloop hend step hf f
 refine (qH g62).trans ?_
 have hm:=qc7 b n 64
 unfold qsD
 generalize sch b n 64=m at hm
 obtain ⟨w0,w1,w2,w3,w4,w5,w6,w7,rfl⟩:=eight hw
 refine (qH rfl).trans ((qH rfl).trans ((qH rfl).trans ((qH rfl).trans ((qH rfl).trans ((qH rfl).trans ((qH rfl).trans ((qH rfl).trans ?_)))))))
 dsimp only
 generalize hf:(fun (x_1:UInt32×UInt32×UInt32×UInt32×UInt32×UInt32×UInt32×UInt32×Int×Unit)=>(_:Option (LS (UInt32×UInt32×UInt32×UInt32×UInt32×UInt32×UInt32×UInt32×Int×Unit) (List UInt32×Unit))))=f
 obtain ⟨s,hs⟩:∃ s,s=ofL [w0,w1,w2,w3,w4,w5,w6,w7]:=⟨_,rfl⟩
 let st:R8→Nat→UInt32×UInt32×UInt32×UInt32×UInt32×UInt32×UInt32×UInt32×Int×Unit:=fun r t=>(r.1,r.2.1,r.2.2.1,r.2.2.2.1,r.2.2.2.2.1,r.2.2.2.2.2.1,r.2.2.2.2.2.2.1,r.2.2.2.2.2.2.2,(t:Int),())
 have step:∀ t:Nat,t < 64→f (st (rounds m s t) t)=some (.nx (st (rounds m s (t+1)) (t+1))):=by
  intro t ht
  subst hf
  have hi:i64 (iadd (t:Int) 1)=((t+1:Nat):Int):=i64n (by show (t:Int)+1=_;omega) (by omega)
  have hk:(qfS:List UInt32).length=64:=rfl
  rw [show rounds m s (t+1)=nxt (q32 qfS t) (q32 m t) (rounds m s t) from rfl]
  generalize rounds m s t=r
  obtain ⟨h,g,f,e,d,c,b,a⟩:=r
  dsimp only [st]
  refine (qC (by simp only [go_sem,Int.reduceToNat];omega)).trans ?_
  rw [hi,qcG]
  refine (qF rfl).trans ?_
  rw [qcG]
  refine (qF rfl).trans ?_
  rw [qcG]
  refine (qF rfl).trans ?_
  refine (qH (by simp only [go_sem,Int.reduceToNat];omega)).trans ?_
  refine (qH (by simp only [go_sem,Int.reduceToNat];omega)).trans ?_
  rw [qcG]
  refine (qF rfl).trans ?_
  rw [qcG]
  refine (qF rfl).trans ?_
  rw [qcG]
  refine (qF rfl).trans ?_
  rfl
 have hend:∀ r,f (st r 64)=some (.ex 4 (st r 64)):=by subst hf;intro v;exact qB rfl
 have hloop:loop f (st (rounds m s 0) 0)=some (.ex 4 (st (rounds m s 64) 64)) :=
  (qL (f:=f) (fun t=>st (rounds m s t) t) 64 step 0 (Nat.zero_le _)).trans (qT (hend _))
 rw [show rounds m s 0=s from rfl] at hloop
 rw [← hs]
 generalize rounds m s 64=r at hloop
 obtain ⟨h,g,f',e,d,c,b',a⟩:=r
 rw [hs] at hloop
 refine (zC (show loop f (w7,w6,w5,w4,w3,w2,w1,w0,0,())=_ from hloop)).trans ?_
 refine (qH g62).trans ?_
 refine (qH rfl).trans ((qH rfl).trans ((qH rfl).trans ((qH rfl).trans ((qH rfl).trans ((qH rfl).trans ((qH rfl).trans ((qH rfl).trans ?_)))))))
 rfl
def eat (w:List UInt32) (l:BB):Nat→List UInt32
 | 0=>w
 | i+1=>qsD (eat w l i) l (64*i)
theorem wJ {w:List UInt32} (hw:w.length=8) (l:BB):∀ i,(eat w l i).length=8
 | 0=>hw
 | _+1=>rfl
theorem qE7 (l:BB) (k i:Nat):q8 (l.drop k) i=q8 l (k+i):=by
 unfold q8;rw [List.getD_eq_getElem?_getD,List.getElem?_drop,← List.getD_eq_getElem?_getD]
theorem qI7 (l:BB) {k i:Nat} (h:i < k):q8 (l.take k) i=q8 l i:=by
 unfold q8;rw [List.getD_eq_getElem?_getD,List.getElem?_take_of_lt h,← List.getD_eq_getElem?_getD]
theorem qxP (w:List UInt32) (l:BB) (k:Nat):qsD w ((l.drop k).take 64) 0=qsD w l k :=
 qjC (fun i hi=>by rw [Nat.zero_add,qI7 _ hi,qE7]) w
theorem qzM {l m:BB} (w:List UInt32):∀ {i},(∀ j,j < 64*i→q8 l j=q8 m j)→eat w l i=eat w m i
 | 0,_=>rfl
 | i+1,h=>by
  rw [eat,eat,qzM w fun j hj=>h j (by omega)]
  exact qjC (fun j hj=>h _ (by omega)) _
theorem qGk (w:List UInt32) (l:BB) (i:Nat):∀ j,eat w l (i+j)=eat (eat w l i) (l.drop (64*i)) j
 | 0=>rfl
 | j+1=>by
  rw [← Nat.add_assoc,eat,eat,qGk w l i j]
  exact qjC (fun k _=>by rw [qE7];congr 1;omega) _
abbrev HT:=List UInt32×Int×BB×Unit
def putD (h:HT) (b:BB):HT :=
 (eat h.1 (h.2.2.1++b) ((h.2.2.1++b).length / 64),h.2.1+(b.length:Int),(h.2.2.1++b).drop (64*((h.2.2.1++b).length / 64)),())
theorem cpy2 (r b:BB):cpy (cpy (rep (r.length+b.length) (u8 0)) 0 (ln (rep (r.length+b.length) (u8 0))) r) r.length (r.length+b.length - r.length) b=r++b:=by
 unfold cpy rep ln
 rw [List.length_replicate,List.take_zero,List.nil_append,List.take_of_length_le (show r.length≤r.length+b.length by omega),Nat.zero_add,Nat.min_eq_right (show r.length≤r.length+b.length by omega),List.drop_replicate,
  List.take_left,Nat.add_sub_cancel_left,List.take_of_length_le (Nat.le_refl _),Nat.min_self,List.drop_of_length_le (by simp),List.append_nil]
theorem qFR:qh2 ()=some (qfS,()):=rfl
theorem qxW (H:List UInt32) (hH:H.length=8) (N:Int) (r b:BB) (hN:0≤N) (hb:N+(b.length:Int)≤1125899906842624) (hr:r.length≤64) (hm:b.length≤1000000000):qeE ((H,N,r,()),b,())=some (putD (H,N,r,()) b,()):=by
 unfold qeE
 have e0:i64 (isub 1125899906842624 N)=1125899906842624 - N:=z8 (by show -9223372036854775808≤(1125899906842624:Int) - N;omega) (by show (1125899906842624:Int) - N≤9223372036854775807;omega)
 dsimp only
 rw [e0]
 refine (qB (by simp only [go_sem,Int.reduceToNat];omega)).trans ?_
 have e1:i64 (iadd (len r) (len b))=((r.length+b.length:Nat):Int):=i64n (by show (r.length:Int)+(b.length:Int)=_;omega) (by omega)
 have e2:i64 (iadd N (len b))=N+(b.length:Int):=z8 (by show -9223372036854775808≤N+(b.length:Int);omega) (by show N+(b.length:Int)≤9223372036854775807;omega)
 rw [e1,e2]
 refine (qH (by simp only [go_sem,Int.reduceToNat];omega)).trans ?_
 have hlen:len (cpy (rep (nat ((r.length+b.length:Nat):Int)) (u8 0)) 0 (ln (rep (nat ((r.length+b.length:Nat):Int)) (u8 0))) r)=((r.length+b.length:Nat):Int):=by
  unfold len cpy rep ln nat
  simp only [Int.toNat_natCast,List.length_replicate,List.take_zero,List.nil_append,List.length_append,List.length_take,List.length_drop]
  omega
 rw [hlen]
 refine (qH (by simp only [go_sem,Int.reduceToNat];omega)).trans ?_
 rw [show nat (len r)=r.length from zB,show nat ((r.length+b.length:Nat):Int)=r.length+b.length from zB,show nsub (r.length+b.length) r.length=r.length+b.length - r.length from rfl,cpy2]
 generalize hf:(fun (x:BB×(List UInt32×Int×BB×Unit)×Unit)=>(_:Option (LS (BB×(List UInt32×Int×BB×Unit)×Unit) ((List UInt32×Int×BB×Unit)×Unit))))=f
 generalize hl:r++b=l
 have hll:l.length=r.length+b.length:=by rw [← hl,List.length_append]
 have step:∀ i,i < l.length / 64→f (l.drop (64*i),(eat H l i,N+(b.length:Int),r,()),())=some (.nx (l.drop (64*(i+1)),(eat H l (i+1),N+(b.length:Int),r,()),())):=by
  intro i hi
  subst hf
  have hd:(l.drop (64*i)).length=l.length - 64*i:=List.length_drop
  have hlen:len (l.drop (64*i))=((l.length - 64*i:Nat):Int):=by unfold len;rw [hd]
  dsimp only
  rw [hlen]
  refine (qC (by simp only [go_sem,Int.reduceToNat];omega)).trans ?_
  refine (qH (by simp only [go_sem,Int.reduceToNat];omega)).trans ?_
  rw [show cut (l.drop (64*i)) (nat 0) (nsub (nat 64) (nat 0))=(l.drop (64*i)).take 64 from rfl,qiM _ (wJ hH l i) _ (by rw [List.length_take,hd];omega)]
  refine (qF rfl).trans ?_
  refine (qH (by simp only [go_sem,Int.reduceToNat];omega)).trans ?_
  rw [qxP]
  have hc:cut (l.drop (64*i)) (nat 64) (nsub (nat ((l.length - 64*i:Nat):Int)) (nat 64))=l.drop (64*(i+1)):=by
   unfold cut
   rw [show nat 64=64 from rfl,zB,List.drop_drop,List.take_of_length_le (by rw [List.length_drop];show _≤l.length - 64*i - 64;omega)]
   congr 1
  rw [hc];rfl
 have hend:f (l.drop (64*(l.length / 64)),(eat H l (l.length / 64),N+(b.length:Int),r,()),())=some (.ex 0 (l.drop (64*(l.length / 64)),(eat H l (l.length / 64),N+(b.length:Int),r,()),())):=by
  subst hf
  have hlen:len (l.drop (64*(l.length / 64)))=((l.length - 64*(l.length / 64):Nat):Int):=by unfold len;rw [List.length_drop]
  dsimp only
  rw [hlen]
  exact qB (by simp only [go_sem,Int.reduceToNat];omega)
 have hloop:=(qL (f:=f) (fun i=>(l.drop (64*i),(eat H l i,N+(b.length:Int),r,()),())) (l.length / 64) step 0 (Nat.zero_le _)).trans (qT hend)
 refine (zC (show loop f (l,(H,N+(b.length:Int),r,()),())=_ from hloop)).trans ?_
 refine (qH g62).trans ?_
 subst hl;rfl
theorem qsL (H:List UInt32) (hH:H.length=8) (N:Int) (r b:BB) (hN:0≤N) (hb:N+(b.length:Int)≤1125899906842624) (hr:r.length≤64) (hm:b.length≤1000000000):qgE ((H,N,r,()),b,())=some (putD (H,N,r,()) b,()):=by
 unfold qgE
 have e0:i64 (isub 1125899906842624 N)=1125899906842624 - N:=z8 (by show -9223372036854775808≤(1125899906842624:Int) - N;omega) (by show (1125899906842624:Int) - N≤9223372036854775807;omega)
 dsimp only
 rw [e0]
 refine (qB (by simp only [go_sem,Int.reduceToNat];omega)).trans ?_
 refine (qH (by simp only [go_sem,Int.reduceToNat];omega)).trans ?_
 rw [show app (none' UInt8) r=r from rfl]
 refine (qH (by simp only [go_sem,Int.reduceToNat];omega)).trans ?_
 rw [qFR]
 refine (qF rfl).trans ?_
 generalize hf:(fun (x_1:Int×(List UInt32×Int×BB×Unit)×Unit)=>(_:Option (LS (Int×(List UInt32×Int×BB×Unit)×Unit) ((List UInt32×Int×BB×Unit)×Unit))))=f
 rw [show app r b=r++b from rfl] at hf ⊢
 generalize hl:r++b=l at hf ⊢
 have hll:l.length=r.length+b.length:=by rw [← hl,List.length_append]
 have step:∀ i:Nat,i < l.length / 64→f (((64*i:Nat):Int),(eat H l i,N,r,()),())=some (.nx (((64*(i+1):Nat):Int),(eat H l (i+1),N,r,()),())):=by
  intro i hi
  subst hf
  have e:i64 (isub (len l) ((64*i:Nat):Int))=((l.length - 64*i:Nat):Int):=i64n (by show (l.length:Int) - _=_;omega) (by omega)
  have e':i64 (iadd ((64*i:Nat):Int) 64)=((64*(i+1):Nat):Int):=i64n (by show ((64*i:Nat):Int)+64=_;omega) (by omega)
  dsimp only
  rw [e,e']
  refine (qC (by simp only [go_sem,Int.reduceToNat];omega)).trans ?_
  rw [qgC _ (wJ hH l i) l (64*i) (by omega) (by omega)]
  rfl
 have hend:f (((64*(l.length / 64):Nat):Int),(eat H l (l.length / 64),N,r,()),())=some (.ex 0 (((64*(l.length / 64):Nat):Int),(eat H l (l.length / 64),N,r,()),())):=by
  subst hf
  have e:i64 (isub (len l) ((64*(l.length / 64):Nat):Int))=((l.length - 64*(l.length / 64):Nat):Int):=i64n (by show (l.length:Int) - _=_;omega) (by omega)
  dsimp only
  rw [e]
  exact qB (by simp only [go_sem,Int.reduceToNat];omega)
 have hloop:=(qL (f:=f) (fun i=>(((64*i:Nat):Int),(eat H l i,N,r,()),())) (l.length / 64) step 0 (Nat.zero_le _)).trans (qT hend)
 refine (zC (show loop f (0,(H,N,r,()),())=_ from hloop)).trans ?_
 refine (qH g62).trans ?_
 refine (qH (by simp only [go_sem,Int.reduceToNat];omega)).trans ?_
 have e2:i64 (iadd N (len b))=N+(b.length:Int):=z8 (by show -9223372036854775808≤N+(b.length:Int);omega) (by show N+(b.length:Int)≤9223372036854775807;omega)
 have hc:cut l (nat ((64*(l.length / 64):Nat):Int)) (nsub (nat (len l)) (nat ((64*(l.length / 64):Nat):Int)))=l.drop (64*(l.length / 64)):=by
  unfold cut
  rw [zB,show nat (len l)=l.length from zB,List.take_of_length_le (by rw [List.length_drop];exact Nat.le_refl _)]
 dsimp only
 rw [e2,hc]
 subst hl;rfl
def zs (r:Nat):Nat:=(119 - r) % 64
def lenB (n:Int) (i:Nat):BB:=(List.range i).map fun j=>u8 (shrI .i64 (i64 (imul 8 n)) ((56 - 8*j:Nat):Int))
def padD (n:Int):BB:=[u8 128]++List.replicate (zs (n.toNat % 64)) (u8 0)++lenB n 8
def wb (x:UInt32):BB:=[u8 (n32 (u32 (shrI .u32 (n32 x) (n64 (u64 24))))),u8 (n32 (u32 (shrI .u32 (n32 x) (n64 (u64 16))))),u8 (n32 (u32 (shrI .u32 (n32 x) (n64 (u64 8))))),u8 (n32 x)]
theorem qCf {a b:Int} (h:a % 256=b % 256):u8 a=u8 b:=by
 show UInt8.ofNat (a % 2 ^ 8).toNat=UInt8.ofNat (b % 2 ^ 8).toNat
 rw [show a % 2 ^ 8=b % 2 ^ 8 from h]
theorem qKi (x:UInt32):wb x=[u8 (n32 (u32 (idiv (n32 x) (n32 (u32 16777216))))),u8 (n32 (u32 (imod (n32 (u32 (idiv (n32 x) (n32 (u32 65536))))) (n32 (u32 256))))),u8 (n32 (u32 (imod (n32 (u32 (idiv (n32 x) (n32 (u32 256))))) (n32 (u32 256))))),u8 (n32 (u32 (imod (n32 x) (n32 (u32 256)))))]:=by
 have hx:=x.toNat_lt
 obtain ⟨v,hv⟩:∃ v,v=x.toNat:=⟨_,rfl⟩
 rw [← hv] at hx
 have e:n32 x=(v:Int):=by rw [hv];rfl
 have k1:n32 (u32 16777216)=16777216:=v7 (by decide)
 have k2:n32 (u32 65536)=65536:=v7 (by decide)
 have k3:n32 (u32 256)=256:=v7 (by decide)
 have a1:shrI .u32 (v:Int) (n64 (u64 24))=((v / 16777216:Nat):Int):=by show Int.fdiv (v:Int) (2 ^ 24)=_;rw [Int.fdiv_eq_ediv_of_nonneg _ (by decide)];omega
 have a2:shrI .u32 (v:Int) (n64 (u64 16))=((v / 65536:Nat):Int):=by show Int.fdiv (v:Int) (2 ^ 16)=_;rw [Int.fdiv_eq_ediv_of_nonneg _ (by decide)];omega
 have a3:shrI .u32 (v:Int) (n64 (u64 8))=((v / 256:Nat):Int):=by show Int.fdiv (v:Int) (2 ^ 8)=_;rw [Int.fdiv_eq_ediv_of_nonneg _ (by decide)];omega
 have b1:idiv (v:Int) 16777216=((v / 16777216:Nat):Int):=by rw [g31 (by omega)];omega
 have b2:idiv (v:Int) 65536=((v / 65536:Nat):Int):=by rw [g31 (by omega)];omega
 have b3:idiv (v:Int) 256=((v / 256:Nat):Int):=by rw [g31 (by omega)];omega
 have c:∀ m:Nat,m < 4294967296→n32 (u32 (m:Int))=(m:Int):=fun m hm=>v7 (by omega)
 have d:∀ m:Nat,imod (m:Int) 256=((m % 256:Nat):Int):=fun m=>by rw [g32 (by omega)];omega
 unfold wb
 rw [e,k1,k2,k3,a1,a2,a3,b1,b2,b3,c _ (by omega),c _ (by omega),c _ (by omega),d,d,d,c _ (by omega),c _ (by omega),c _ (by omega)]
 congr 1
 congr 1
 ·exact qCf (by omega)
 ·congr 1
  ·exact qCf (by omega)
  ·congr 1
   exact qCf (by omega)
def outW (w:List UInt32) (i:Nat):BB:=(List.range i).flatMap fun j=>wb (q32 w j)
theorem qeQ (w:List UInt32):∀ i,(outW w i).length=4*i
 | 0=>rfl
 | i+1=>by unfold outW;rw [List.range_succ,List.flatMap_append,List.length_append];have:=qeQ w i;unfold outW at this;rw [this];simp [wb];omega
theorem qyL (w:List UInt32) (i:Nat):outW w (i+1)=outW w i++wb (q32 w i):=by unfold outW;rw [List.range_succ,List.flatMap_append];simp
theorem qyX (n:Int) (i:Nat):lenB n (i+1)=lenB n i++[u8 (shrI .i64 (i64 (imul 8 n)) ((56 - 8*i:Nat):Int))]:=by unfold lenB;rw [List.range_succ,List.map_append];rfl
theorem wD (n:Int) (i:Nat):(lenB n i).length=i:=by simp [lenB]
def sumD (h:HT):BB:=outW (eat h.1 (h.2.2.1++padD h.2.1) ((h.2.2.1++padD h.2.1).length / 64)) 8
theorem qu5 (l:BB) (k:Nat):l++List.replicate k (u8 0)++[u8 0]=l++List.replicate (k+1) (u8 0):=by rw [List.append_assoc,← List.replicate_succ']
theorem qxV (H:List UInt32) (hH:H.length=8) (N:Int) (r:BB) (hN:0≤N) (hN2:N≤1125899906842624) (hr:r.length=N.toNat % 64):qjE ((H,N,r,()),())=some (sumD (H,N,r,()),()):=by
 unfold qjE
 dsimp only
 have hz:rep (nat 0) (u8 0)=[]:=rfl
 rw [hz,show app ([]:BB) r=r from rfl,show app r [u8 128]=r++[u8 128] from rfl]
 refine (qH (by decide)).trans ?_
 refine (qH (by simp only [go_sem,Int.reduceToNat];omega)).trans ?_
 refine (qH (by simp only [go_sem,Int.reduceToNat];simp;omega)).trans ?_
 generalize hf:(fun (x:BB×Unit)=>(_:Option (LS (BB×Unit) (BB×Unit))))=f
 have hr64:r.length < 64:=by omega
 have hzs:zs (N.toNat % 64) < 64:=by unfold zs;omega
 have step:∀ i:Nat,i < zs (N.toNat % 64)→f (r++[u8 128]++List.replicate i (u8 0),())=some (.nx (r++[u8 128]++List.replicate (i+1) (u8 0),())):=by
  intro i hi
  subst hf
  have hl:(r++[u8 128]++List.replicate i (u8 0)).length=r.length+1+i:=by simp;omega
  have hne:¬ (((r++[u8 128]++List.replicate i (u8 0)).length:Int) % 64=56):=by rw [hl];unfold zs at hi;omega
  refine (qC (by simp (disch:=omega) only [go_sem,Int.reduceToNat];omega)).trans ?_
  refine (qH (by simp only [go_sem,Int.reduceToNat];simp;omega)).trans ?_
  show some (LS.nx (r++[u8 128]++List.replicate i (u8 0)++[u8 0],()))=_
  rw [qu5]
 have hend:f (r++[u8 128]++List.replicate (zs (N.toNat % 64)) (u8 0),())=some (.ex 0 (r++[u8 128]++List.replicate (zs (N.toNat % 64)) (u8 0),())):=by
  subst hf
  have hl:(r++[u8 128]++List.replicate (zs (N.toNat % 64)) (u8 0)).length=r.length+1+zs (N.toNat % 64):=by simp;omega
  have he:(((r++[u8 128]++List.replicate (zs (N.toNat % 64)) (u8 0)).length:Int) % 64=56):=by rw [hl];unfold zs;omega
  exact qB (by simp (disch:=omega) only [go_sem,Int.reduceToNat];omega)
 have hloop:=(qL (f:=f) (fun i=>(r++[u8 128]++List.replicate i (u8 0),())) (zs (N.toNat % 64)) step 0 (Nat.zero_le _)).trans (qT hend)
 rw [List.replicate_zero,List.append_nil] at hloop
 refine (zC hloop).trans ?_
 clear hloop hend step
 refine (qH g62).trans ?_
 clear hf f
 dsimp only
 generalize hL:r++[u8 128]++List.replicate (zs (N.toNat % 64)) (u8 0)=L
 have hLl:L.length=r.length+1+zs (N.toNat % 64):=by rw [← hL];simp;omega
 generalize hf:(fun (x_1:BB×Int×Unit)=>(_:Option (LS (BB×Int×Unit) (BB×Unit))))=f
 have step:∀ i:Nat,i < 8→f (L++lenB N i,56 - 8*(i:Int),())=some (.nx (L++lenB N (i+1),56 - 8*((i+1:Nat):Int),())):=by
  intro i hi
  subst hf
  have hl:(L++lenB N i).length=L.length+i:=by rw [List.length_append,wD]
  refine (qC (by simp only [go_sem,Int.reduceToNat];omega)).trans ?_
  refine (qH (by simp only [go_sem,Int.reduceToNat];omega)).trans ?_
  refine (qH (by simp only [go_sem,Int.reduceToNat];simp [wD];omega)).trans ?_
  dsimp only
  rw [show app (L++lenB N i) [u8 (shrI .i64 (i64 (imul 8 N)) (56 - 8*(i:Int)))]=L++lenB N (i+1) by rw [qyX,show ((56 - 8*i:Nat):Int)=56 - 8*(i:Int) by omega];exact List.append_assoc _ _ _,
   show i64 (isub (56 - 8*(i:Int)) 8)=56 - 8*((i+1:Nat):Int) by rw [z8 (by show -9223372036854775808≤56 - 8*(i:Int) - 8;omega) (by show 56 - 8*(i:Int) - 8≤9223372036854775807;omega)];show 56 - 8*(i:Int) - 8=_;omega]
 have hend:f (L++lenB N 8,56 - 8*((8:Nat):Int),())=some (.ex 2 (L++lenB N 8,56 - 8*((8:Nat):Int),())):=by subst hf;exact qB (show le 0 (56 - 8*((8:Nat):Int))=false from rfl)
 have hloop:=(qL (f:=f) (fun i=>(L++lenB N i,56 - 8*(i:Int),())) 8 step 0 (Nat.zero_le _)).trans (qT hend)
 have h0:(L++lenB N 0,56 - 8*((0:Nat):Int),())=(L,56,()):=by simp [lenB]
 rw [h0] at hloop
 refine (zC hloop).trans ?_
 clear hloop hend step
 refine (qH g62).trans ?_
 clear hf f
 dsimp only
 have hT:L++lenB N 8=r++padD N:=by rw [← hL];unfold padD;simp
 rw [hT]
 have hTl:(r++padD N).length=r.length+1+zs (N.toNat % 64)+8:=by rw [← hT,List.length_append,wD,hLl]
 have hT64:(r++padD N).length % 64=0:=by rw [hTl];unfold zs;omega
 generalize hTT:r++padD N=T at hTl hT64
 generalize hf:(fun (x:BB×List UInt32×Unit)=>(_:Option (LS (BB×List UInt32×Unit) (BB×Unit))))=f
 have step:∀ i,i < T.length / 64→f (T.drop (64*i),eat H T i,())=some (.nx (T.drop (64*(i+1)),eat H T (i+1),())):=by
  intro i hi
  subst hf
  have hd:(T.drop (64*i)).length=T.length - 64*i:=List.length_drop
  have hlen:len (T.drop (64*i))=((T.length - 64*i:Nat):Int):=by unfold len;rw [hd]
  dsimp only
  rw [hlen]
  refine (qC (by simp only [go_sem,Int.reduceToNat];omega)).trans ?_
  refine (qH (by simp only [go_sem,Int.reduceToNat];omega)).trans ?_
  rw [show cut (T.drop (64*i)) (nat 0) (nsub (nat 64) (nat 0))=(T.drop (64*i)).take 64 from rfl,qiM _ (wJ hH T i) _ (by rw [List.length_take,hd];omega)]
  refine (qF rfl).trans ?_
  refine (qH (by simp only [go_sem,Int.reduceToNat];omega)).trans ?_
  rw [qxP]
  have hc:cut (T.drop (64*i)) (nat 64) (nsub (nat ((T.length - 64*i:Nat):Int)) (nat 64))=T.drop (64*(i+1)):=by
   unfold cut
   rw [show nat 64=64 from rfl,zB,List.drop_drop,List.take_of_length_le (by rw [List.length_drop];show _≤T.length - 64*i - 64;omega)]
   congr 1
  rw [hc];rfl
 have hend:f (T.drop (64*(T.length / 64)),eat H T (T.length / 64),())=some (.ex 4 (T.drop (64*(T.length / 64)),eat H T (T.length / 64),())):=by
  subst hf
  have hlen:len (T.drop (64*(T.length / 64)))=((T.length - 64*(T.length / 64):Nat):Int):=by unfold len;rw [List.length_drop]
  dsimp only
  rw [hlen]
  exact qB (by simp only [go_sem,Int.reduceToNat];omega)
 have hloop:=(qL (f:=f) (fun i=>(T.drop (64*i),eat H T i,())) (T.length / 64) step 0 (Nat.zero_le _)).trans (qT hend)
 refine (zC (show loop f (T,H,())=_ from hloop)).trans ?_
 clear hloop hend step
 refine (qH g62).trans ?_
 clear hf f
 refine (qH (by decide)).trans ?_
 dsimp only
 unfold sumD
 dsimp only
 rw [hTT]
 have hw:=wJ hH T (T.length / 64)
 generalize eat H T (T.length / 64)=w at hw
 generalize hf:(fun (x:BB×Int×Unit)=>(_:Option (LS (BB×Int×Unit) (BB×Unit))))=f
 have step:∀ i:Nat,i < 8→f (outW w i,(i:Int),())=some (.nx (outW w (i+1),((i+1:Nat):Int),())):=by
  intro i hi
  subst hf
  have hl:=qeQ w i
  have hi':i64 (iadd (i:Int) 1)=((i+1:Nat):Int):=i64n (by show (i:Int)+1=_;omega) (by omega)
  refine (qC (by simp only [go_sem,Int.reduceToNat];omega)).trans ?_
  refine (qH (by simp only [go_sem,Int.reduceToNat];omega)).trans ?_
  refine (qH (by simp only [go_sem,Int.reduceToNat];simp;omega)).trans ?_
  dsimp only
  rw [hi',qyL];rfl
 have hend:∀ v,f (v,((8:Nat):Int),())=some (.ex 6 (v,((8:Nat):Int),())):=by subst hf;intro v;exact qB rfl
 have hloop:=(qL (f:=f) (fun i=>(outW w i,(i:Int),())) 8 step 0 (Nat.zero_le _)).trans (qT (hend _))
 refine (zC (show loop f ([],0,())=_ from hloop)).trans ?_
 exact qH g62
theorem qJs {a:Int} (h:0≤a∧a < 18446744073709551616):n64 (u64 a)=a:=by
 show (((BitVec.ofNat 64 ((a % 2 ^ 64).toNat)).toNat:Nat):Int)=a
 rw [BitVec.toNat_ofNat];omega
theorem qsM (N:Int) (hN:0≤N) (hN2:N≤1125899906842624):qkT (N,())=some (padD N,()):=by
 unfold qkT
 dsimp only
 have hzs:zs (N.toNat % 64) < 64:=by unfold zs;omega
 generalize hf:(fun (x_1:BB×Unit)=>(_:Option (LS (BB×Unit) (BB×Unit))))=f
 have step:∀ i:Nat,i < zs (N.toNat % 64)→f ([u8 128]++List.replicate i (u8 0),())=some (.nx ([u8 128]++List.replicate (i+1) (u8 0),())):=by
  intro i hi
  subst hf
  have hl:([u8 128]++List.replicate i (u8 0)).length=1+i:=by simp;omega
  have e:i64 (iadd (i64 (iadd N (len ([u8 128]++List.replicate i (u8 0))))) 8)=N+((1+i:Nat):Int)+8:=by
   have e1:i64 (iadd N (len ([u8 128]++List.replicate i (u8 0))))=N+((1+i:Nat):Int):=by
    show i64 (N+(([u8 128]++List.replicate i (u8 0)).length:Int))=_
    rw [hl];exact z8 (by omega) (by omega)
   rw [e1];exact z8 (by show -9223372036854775808≤N+((1+i:Nat):Int)+8;omega) (by show N+((1+i:Nat):Int)+8≤9223372036854775807;omega)
  dsimp only
  rw [e]
  have hne:¬ ((N+((1+i:Nat):Int)+8) % 64=0):=by unfold zs at hi;omega
  refine (qC (by simp (disch:=omega) only [go_sem,Int.reduceToNat];omega)).trans ?_
  refine (qH (by simp only [go_sem,Int.reduceToNat];simp;omega)).trans ?_
  show some (LS.nx ([u8 128]++List.replicate i (u8 0)++[u8 0],()))=_
  rw [qu5]
 have hend:f ([u8 128]++List.replicate (zs (N.toNat % 64)) (u8 0),())=some (.ex 0 ([u8 128]++List.replicate (zs (N.toNat % 64)) (u8 0),())):=by
  subst hf
  obtain ⟨i,hi⟩:∃ i,i=zs (N.toNat % 64):=⟨_,rfl⟩
  rw [← hi]
  have hl:([u8 128]++List.replicate i (u8 0)).length=1+i:=by simp;omega
  have e:i64 (iadd (i64 (iadd N (len ([u8 128]++List.replicate i (u8 0))))) 8)=N+((1+i:Nat):Int)+8:=by
   have e1:i64 (iadd N (len ([u8 128]++List.replicate i (u8 0))))=N+((1+i:Nat):Int):=by
    show i64 (N+(([u8 128]++List.replicate i (u8 0)).length:Int))=_
    rw [hl];exact z8 (by omega) (by omega)
   rw [e1];exact z8 (by show -9223372036854775808≤N+((1+i:Nat):Int)+8;omega) (by show N+((1+i:Nat):Int)+8≤9223372036854775807;omega)
  dsimp only
  rw [e]
  have hne:((N+((1+i:Nat):Int)+8) % 64=0):=by unfold zs at hi;omega
  exact qB (by simp (disch:=omega) only [go_sem,Int.reduceToNat];omega)
 have hloop:=(qL (f:=f) (fun i=>([u8 128]++List.replicate i (u8 0),())) (zs (N.toNat % 64)) step 0 (Nat.zero_le _)).trans (qT hend)
 rw [List.replicate_zero,List.append_nil] at hloop
 refine (zC hloop).trans ?_
 clear hloop hend step
 refine (qH g62).trans ?_
 clear hf f
 dsimp only
 generalize hL:[u8 128]++List.replicate (zs (N.toNat % 64)) (u8 0)=L
 have hLl:L.length=1+zs (N.toNat % 64):=by rw [← hL];simp;omega
 generalize hf:(fun (x_1:BB×Int×Unit)=>(_:Option (LS (BB×Int×Unit) (BB×Unit))))=f
 have step:∀ i:Nat,i < 8→f (L++lenB N i,56 - 8*(i:Int),())=some (.nx (L++lenB N (i+1),56 - 8*((i+1:Nat):Int),())):=by
  intro i hi
  subst hf
  have hl:(L++lenB N i).length=L.length+i:=by rw [List.length_append,wD]
  refine (qC (by simp only [go_sem,Int.reduceToNat];omega)).trans ?_
  refine (qH (by simp only [go_sem,Int.reduceToNat];simp [wD];omega)).trans ?_
  dsimp only
  rw [qJs (a:=56 - 8*(i:Int)) (by omega),show app (L++lenB N i) [u8 (shrI .i64 (i64 (imul 8 N)) (56 - 8*(i:Int)))]=L++lenB N (i+1) by rw [qyX,show ((56 - 8*i:Nat):Int)=56 - 8*(i:Int) by omega];exact List.append_assoc _ _ _,
   show i64 (isub (56 - 8*(i:Int)) 8)=56 - 8*((i+1:Nat):Int) by rw [z8 (by show -9223372036854775808≤56 - 8*(i:Int) - 8;omega) (by show 56 - 8*(i:Int) - 8≤9223372036854775807;omega)];show 56 - 8*(i:Int) - 8=_;omega]
 have hend:f (L++lenB N 8,56 - 8*((8:Nat):Int),())=some (.ex 2 (L++lenB N 8,56 - 8*((8:Nat):Int),())):=by subst hf;exact qB (show le 0 (56 - 8*((8:Nat):Int))=false from rfl)
 have hloop:=(qL (f:=f) (fun i=>(L++lenB N i,56 - 8*(i:Int),())) 8 step 0 (Nat.zero_le _)).trans (qT hend)
 have h0:(L++lenB N 0,56 - 8*((0:Nat):Int),())=(L,56,()):=by simp [lenB]
 rw [h0] at hloop
 refine (zC hloop).trans ?_
 refine (qH g62).trans ?_
 dsimp only
 rw [← hL];rfl
theorem qA0 (N:Int):(padD N).length=9+zs (N.toNat % 64):=by unfold padD;simp [wD];omega
theorem qsK (H:List UInt32) (hH:H.length=8) (N:Int) (r:BB) (hN:0≤N) (hN2:N≤1125899906842624) (hr:r.length=N.toNat % 64):qgD ((H,N,r,()),())=some (sumD (H,N,r,()),()):=by
 unfold qgD
 dsimp only
 rw [show app (none' UInt8) r=r from rfl]
 refine (qH (by simp only [go_sem,Int.reduceToNat];omega)).trans ?_
 rw [qsM N hN hN2]
 refine (qF rfl).trans ?_
 have hp:=qA0 N
 have hzs:zs (N.toNat % 64) < 64:=by unfold zs;omega
 refine (qH (by simp only [go_sem,Int.reduceToNat];omega)).trans ?_
 rw [qFR]
 refine (qF rfl).trans ?_
 dsimp only
 unfold sumD
 dsimp only
 rw [show app r (padD N)=r++padD N from rfl]
 have hTl:(r++padD N).length=r.length+1+zs (N.toNat % 64)+8:=by rw [List.length_append,hp];omega
 have hT64:(r++padD N).length % 64=0:=by rw [hTl];unfold zs;omega
 generalize hTT:r++padD N=T at hTl hT64
 generalize hf:(fun (x_1:Int×List UInt32×Unit)=>(_:Option (LS (Int×List UInt32×Unit) (BB×Unit))))=f
 have step:∀ i:Nat,i < T.length / 64→f (((64*i:Nat):Int),eat H T i,())=some (.nx (((64*(i+1):Nat):Int),eat H T (i+1),())):=by
  intro i hi
  subst hf
  have e':i64 (iadd ((64*i:Nat):Int) 64)=((64*(i+1):Nat):Int):=i64n (by show ((64*i:Nat):Int)+64=_;omega) (by omega)
  dsimp only
  rw [e']
  refine (qC (by simp only [go_sem,Int.reduceToNat];omega)).trans ?_
  rw [qgC _ (wJ hH T i) T (64*i) (by omega) (by omega)]
  rfl
 have hend:f (((64*(T.length / 64):Nat):Int),eat H T (T.length / 64),())=some (.ex 0 (((64*(T.length / 64):Nat):Int),eat H T (T.length / 64),())):=by
  subst hf
  exact qB (by simp only [go_sem,Int.reduceToNat];omega)
 have hloop:=(qL (f:=f) (fun i=>(((64*i:Nat):Int),eat H T i,())) (T.length / 64) step 0 (Nat.zero_le _)).trans (qT hend)
 refine (zC (show loop f (0,H,())=_ from hloop)).trans ?_
 clear hloop hend step
 refine (qH g62).trans ?_
 clear hf f
 dsimp only
 have hw:=wJ hH T (T.length / 64)
 generalize eat H T (T.length / 64)=w at hw
 generalize hf:(fun (x:BB×Int×Unit)=>(_:Option (LS (BB×Int×Unit) (BB×Unit))))=f
 have step:∀ i:Nat,i < 8→f (outW w i,(i:Int),())=some (.nx (outW w (i+1),((i+1:Nat):Int),())):=by
  intro i hi
  subst hf
  have hl:=qeQ w i
  have hi':i64 (iadd (i:Int) 1)=((i+1:Nat):Int):=i64n (by show (i:Int)+1=_;omega) (by omega)
  refine (qC (by simp only [go_sem,Int.reduceToNat];omega)).trans ?_
  refine (qH (by simp only [go_sem,Int.reduceToNat];omega)).trans ?_
  refine (qH (by simp only [go_sem,Int.reduceToNat];omega)).trans ?_
  refine (qH (by simp only [go_sem,Int.reduceToNat];omega)).trans ?_
  refine (qH (by simp only [go_sem,Int.reduceToNat];omega)).trans ?_
  refine (qH (by simp only [go_sem,Int.reduceToNat];simp;omega)).trans ?_
  dsimp only
  rw [hi',qyL,qKi];rfl
 have hend:∀ v,f (v,((8:Nat):Int),())=some (.ex 2 (v,((8:Nat):Int),())):=by subst hf;intro v;exact qB rfl
 have hloop:=(qL (f:=f) (fun i=>(outW w i,(i:Int),())) 8 step 0 (Nat.zero_le _)).trans (qT (hend _))
 refine (zC (show loop f (none' UInt8,0,())=_ from hloop)).trans ?_
 exact qH g62
def okH (h:HT):Prop:=h.1.length=8∧0≤h.2.1∧h.2.2.1.length=h.2.1.toNat % 64
theorem qgF {h:HT} (hh:okH h) (b:BB):okH (putD h b):=by
 obtain ⟨h1,h2,h3⟩:=hh
 refine ⟨wJ h1 _ _, ?_, ?_⟩
 ·show 0≤h.2.1+(b.length:Int);omega
 ·show ((h.2.2.1++b).drop (64*((h.2.2.1++b).length / 64))).length=(h.2.1+(b.length:Int)).toNat % 64
  rw [List.length_drop,List.length_append,h3];omega
theorem qI8 (h:HT) (x y:BB):putD (putD h x) y=putD h (x++y):=by
 obtain ⟨H,N,r,⟨⟩⟩:=h
 unfold putD
 dsimp only
 generalize hL:r++x=L
 have hM:r++(x++y)=L++y:=by rw [← List.append_assoc,hL]
 rw [hM]
 have hq:64*(L.length / 64)≤L.length:=by omega
 have hd:(L++y).drop (64*(L.length / 64))=L.drop (64*(L.length / 64))++y:=List.drop_append_of_le_length hq
 have hlen:(L.drop (64*(L.length / 64))++y).length=L.length - 64*(L.length / 64)+y.length:=by rw [List.length_append,List.length_drop]
 have hn:(L++y).length / 64=L.length / 64+(L.drop (64*(L.length / 64))++y).length / 64:=by rw [hlen,List.length_append];omega
 have he:eat H (L++y) (L.length / 64)=eat H L (L.length / 64):=by
  refine qzM H fun j hj => ?_
  unfold q8
  rw [List.getD_eq_getElem?_getD,List.getElem?_append_left (by omega),← List.getD_eq_getElem?_getD]
 refine Prod.ext ?_ (Prod.ext ?_ (Prod.ext ?_ rfl))
 ·dsimp only;rw [hn,qGk,hd,he]
 ·dsimp only;rw [List.length_append];omega
 ·dsimp only;rw [hn,← hd,List.drop_drop];congr 1;omega
theorem qAF (h:HT):(sumD h).length=32:=by unfold sumD;rw [qeQ]
def iv:HT:=([u32 1779033703,u32 3144134277,u32 1013904242,u32 2773480762,u32 1359893119,u32 2600822924,u32 528734635,u32 1541459225],0,[],())
theorem qsU:okH iv:=⟨rfl,Int.le_refl _,rfl⟩
theorem qc6 {h:HT} (hh:okH h) (b:BB) (hN:h.2.1≤1000000000) (hb:b.length≤1000000000):qeE (h,b,())=some (putD h b,()):=by
 obtain ⟨H,N,r,⟨⟩⟩:=h
 obtain ⟨h1,h2,h3⟩:=hh
 have h2':0≤N:=h2
 have h3':r.length=N.toNat % 64:=h3
 have hN':N≤1000000000:=hN
 exact qxW H h1 N r b h2 (by omega) (by omega) hb
theorem qyE {h:HT} (hh:okH h) (b:BB) (hN:h.2.1≤1000000000) (hb:b.length≤1000000000):qgE (h,b,())=some (putD h b,()):=by
 obtain ⟨H,N,r,⟨⟩⟩:=h
 obtain ⟨h1,h2,h3⟩:=hh
 have h2':0≤N:=h2
 have h3':r.length=N.toNat % 64:=h3
 have hN':N≤1000000000:=hN
 exact qsL H h1 N r b h2 (by omega) (by omega) hb
theorem qmL {h:HT} (hh:okH h) (hN:h.2.1≤1000000000000):qjE (h,())=some (sumD h,()):=by
 obtain ⟨H,N,r,⟨⟩⟩:=h
 obtain ⟨h1,h2,h3⟩:=hh
 have hN':N≤1000000000000:=hN
 exact qxV H h1 N r h2 (by omega) h3
theorem qyD {h:HT} (hh:okH h) (hN:h.2.1≤1000000000000):qgD (h,())=some (sumD h,()):=by
 obtain ⟨H,N,r,⟨⟩⟩:=h
 obtain ⟨h1,h2,h3⟩:=hh
 have hN':N≤1000000000000:=hN
 exact qsK H h1 N r h2 (by omega) h3
theorem qnM:qpX ()=some (iv,()):=rfl
theorem qsN:qqH ()=some (iv,()):=rfl
def qoJ (b:BB):BB:=sumD (putD iv b)
theorem xU (b:BB):(qoJ b).length=32:=qAF _
theorem qAL (b:BB) (hb:b.length≤1000000000):qCr (b,())=some (qoJ b,()):=by
 unfold qCr
 rw [qnM]
 refine (qF rfl).trans ?_
 dsimp only
 rw [qc6 qsU b (by decide) hb]
 refine (qF rfl).trans ?_
 dsimp only
 have hn:(putD iv b).2.1=0+(b.length:Int):=rfl
 rw [qmL (qgF qsU b) (by omega)];rfl
theorem qaV (b:BB) (hb:b.length≤1000000000):qeO (b,())=some (qoJ b,()):=by
 unfold qeO
 rw [qsN]
 refine (qF rfl).trans ?_
 dsimp only
 rw [qyE qsU b (by decide) hb]
 refine (qF rfl).trans ?_
 dsimp only
 have hn:(putD iv b).2.1=0+(b.length:Int):=rfl
 rw [qyD (qgF qsU b) (by omega)];rfl
theorem qHs {α σ ρ:Type} {f:σ→Option (LS σ ρ)} (l:List α) (mk:Nat→σ) (e:Nat) (r:ρ) (p:α→Prop)
  (hs:∀ i (h:i < l.length),p l[i]→f (mk i)=some (.nx (mk (i+1)))) (hb:∀ i (h:i < l.length),¬ p l[i]→f (mk i)=some (.rt r)) (he:f (mk l.length)=some (.ex e (mk l.length))) :
  ((∀ x∈l,p x)∧loop f (mk 0)=some (.ex e (mk l.length)))∨((¬ ∀ x∈l,p x)∧loop f (mk 0)=some (.rt r)):=by
 by_cases h:∀ x∈l,p x
 ·exact .inl ⟨h,(qL mk l.length (fun i hi=>hs i hi (h _ (List.getElem_mem hi))) 0 (Nat.zero_le _)).trans (qT he)⟩
 ·refine .inr ⟨h, ?_⟩
  have key:∀ (n i:Nat),l.length - i=n→i≤l.length→(∃ j,∃ (hj:j < l.length),i≤j∧¬ p l[j])→loop f (mk i)=some (.rt r):=by
   intro n
   induction n with
   | zero=>rintro i hn hi ⟨j,hj,h1,_⟩;omega
   | succ n ih =>
    rintro i hn hi ⟨j,hj,h1,h2⟩
    have hil:i < l.length:=by omega
    by_cases hp:p l[i]
    ·rw [vP (hs i hil hp)]
     refine ih (i+1) (by omega) (by omega) ⟨j,hj, ?_,h2⟩
     rcases Nat.lt_or_eq_of_le h1 with h | rfl
     ·exact h
     ·exact absurd hp h2
    ·exact qeV (hb i hil hp)
  refine key _ 0 rfl (Nat.zero_le _) ?_
  refine Classical.byContradiction fun hn=>h fun x hx=>Classical.byContradiction fun hpx => ?_
  obtain ⟨j,hj,rfl⟩:=List.getElem_of_mem hx
  exact hn ⟨j,hj,Nat.zero_le _,hpx⟩
def v6 (key:BB):BB:=let k:=if 64 < key.length then qoJ key else key;k++List.replicate (64 - k.length) (u8 0)
theorem ql1 (key:BB):(v6 key).length=64:=by
 unfold v6
 by_cases h:64 < key.length
 ·simp only [if_pos h,List.length_append,List.length_replicate,xU]
 ·simp only [if_neg h,List.length_append,List.length_replicate];omega
theorem qGn (k:BB) (h:k.length≤64):cpy (rep (nat 64) (u8 0)) 0 (ln (rep (nat 64) (u8 0))) k=k++List.replicate (64 - k.length) (u8 0):=by
 unfold cpy rep ln
 rw [List.length_replicate,show nat 64=64 from rfl,List.take_zero,List.nil_append,List.take_of_length_le h,Nat.zero_add,Nat.min_eq_right h,List.drop_replicate]
theorem qsR (key:BB) (h:key.length≤1000000000):qk5 (key,())=some (v6 key,()):=by
 unfold qk5
 refine (qH (by decide)).trans ?_
 by_cases hk:64 < key.length
 ·refine (qC (by simp only [go_sem,Int.reduceToNat];omega)).trans ?_
  dsimp only
  rw [qAL _ h]
  refine (qF rfl).trans ?_
  dsimp only
  rw [qGn _ (by rw [xU];omega)]
  unfold v6;simp only [if_pos hk]
 ·refine (qB (by simp only [go_sem,Int.reduceToNat];omega)).trans ?_
  dsimp only
  rw [qGn _ (by omega)]
  unfold v6;simp only [if_neg hk]
theorem qKI {f:BB×Unit→Option (LS (BB×Unit) (BB×Unit))} (hf:f=fun (x:BB×Unit)=>sel (lt (len x.1) 64) (ck (rm 1 (nadd (ln x.1) (ln [u8 0]))) (some (LS.nx (app x.1 [u8 0],())))) (some (LS.ex 0 (x.1,())))) (k:BB) (h:k.length≤64) :
  loop f (k,())=some (.ex 0 (k++List.replicate (64 - k.length) (u8 0),())):=by
 have step:∀ i:Nat,i < 64 - k.length→f (k++List.replicate i (u8 0),())=some (.nx (k++List.replicate (i+1) (u8 0),())):=by
  intro i hi
  subst hf
  have hl:(k++List.replicate i (u8 0)).length=k.length+i:=by simp
  refine (qC (by simp only [go_sem,Int.reduceToNat];omega)).trans ?_
  refine (qH (by simp only [go_sem,Int.reduceToNat];simp;omega)).trans ?_
  show some (LS.nx (k++List.replicate i (u8 0)++[u8 0],()))=_
  rw [qu5]
 have hend:f (k++List.replicate (64 - k.length) (u8 0),())=some (.ex 0 (k++List.replicate (64 - k.length) (u8 0),())):=by
  subst hf
  have hl:(k++List.replicate (64 - k.length) (u8 0)).length=64:=by simp;omega
  exact qB (by simp only [go_sem,Int.reduceToNat];omega)
 have:=(qL (f:=f) (fun i=>(k++List.replicate i (u8 0),())) (64 - k.length) step 0 (Nat.zero_le _)).trans (qT hend)
 rwa [List.replicate_zero,List.append_nil] at this
theorem qoU (key:BB) (h:key.length≤1000000000):qeN (key,())=some (v6 key,()):=by
 unfold qeN
 refine (qH (by simp only [go_sem,Int.reduceToNat];omega)).trans ?_
 by_cases hk:64 < key.length
 ·refine (qC (by simp only [go_sem,Int.reduceToNat];omega)).trans ?_
  dsimp only
  rw [qaV _ h]
  refine (qF rfl).trans ?_
  dsimp only
  rw [qKI rfl _ (by rw [xU];omega)]
  refine (qH g62).trans ?_
  unfold v6;simp only [if_pos hk]
 ·refine (qB (by simp only [go_sem,Int.reduceToNat];omega)).trans ?_
  dsimp only
  rw [show app (none' UInt8) key=key from rfl,qKI rfl _ (by omega)]
  refine (qH g62).trans ?_
  unfold v6;simp only [if_neg hk]
def xr (c:UInt8) (l:BB):BB:=l.map fun x=>u8 (xorI .u8 (n8 x) (n8 c))
theorem qc3 (c:UInt8) (l:BB):(xr c l).length=l.length:=by simp [xr]
theorem qHM {α:Type} {L:List α} {n:Nat} {z:α} (hL:L.length=n) {i:Nat} (hi:i < n):(L.take i++List.replicate (n - i) z).set i (L[i]'(by omega))=L.take (i+1)++List.replicate (n - (i+1)) z:=by
 have h1:(L.take i).length=i:=by rw [List.length_take];omega
 rw [List.set_append_right _ _ (by omega),h1,Nat.sub_self,show n - i=(n - (i+1))+1 by omega,List.replicate_succ,List.set_cons_zero,List.take_succ_eq_append_getElem (by omega),List.append_assoc]
 rfl
theorem qB8 {f:Int×BB×Unit→Option (LS (Int×BB×Unit) Unit)} (c:UInt8) (k:BB) (hk:k.length=64)
  (hf:f=fun (x:Int×BB×Unit)=>sel (lt x.1 (len k)) (ck (inB x.1 (len k)) (ck (inB x.1 (len x.2.1)) (some (LS.nx (i64 (iadd x.1 1),upd x.2.1 (nat x.1) (u8 (xorI .u8 (n8 (nth k (nat x.1) (u8 0))) (n8 c))),()))))) (some (LS.ex 0 (x.1,x.2.1,())))) :
  loop f (0,rep (nat 64) (u8 0),())=some (.ex 0 (64,xr c k,())):=by
 have hx:(xr c k).length=64:=by rw [qc3,hk]
 have step:∀ i:Nat,i < 64→f ((i:Int),(xr c k).take i++List.replicate (64 - i) (u8 0),())=some (.nx (((i+1:Nat):Int),(xr c k).take (i+1)++List.replicate (64 - (i+1)) (u8 0),())):=by
  intro i hi
  subst hf
  have hl:((xr c k).take i++List.replicate (64 - i) (u8 0)).length=64:=by rw [List.length_append,List.length_take,List.length_replicate];omega
  have hi':i64 (iadd (i:Int) 1)=((i+1:Nat):Int):=i64n (by show (i:Int)+1=_;omega) (by omega)
  refine (qC (by simp only [go_sem,Int.reduceToNat];omega)).trans ?_
  refine (qH (by simp only [go_sem,Int.reduceToNat];omega)).trans ?_
  refine (qH (by simp only [go_sem,Int.reduceToNat];omega)).trans ?_
  dsimp only
  rw [hi',show upd ((xr c k).take i++List.replicate (64 - i) (u8 0)) (nat (i:Int)) (u8 (xorI .u8 (n8 (nth k (nat (i:Int)) (u8 0))) (n8 c)))=(xr c k).take (i+1)++List.replicate (64 - (i+1)) (u8 0) from ?_]
  rw [← qHM hx hi,zB,qM (by omega:i < k.length)]
  unfold upd
  congr 1
  simp [xr]
 have hend:f (((64:Nat):Int),(xr c k).take 64++List.replicate (64 - 64) (u8 0),())=some (.ex 0 (((64:Nat):Int),(xr c k).take 64++List.replicate (64 - 64) (u8 0),())):=by
  subst hf
  exact qB (by simp only [go_sem,Int.reduceToNat];omega)
 have:=(qL (f:=f) (fun i=>((i:Int),(xr c k).take i++List.replicate (64 - i) (u8 0),())) 64 step 0 (Nat.zero_le _)).trans (qT hend)
 rw [List.take_of_length_le (show (xr c k).length≤64 by omega),Nat.sub_self,List.replicate_zero,List.append_nil] at this
 exact this
def tagD (key b:BB):BB:=qoJ (xr (u8 92) (v6 key)++qoJ (xr (u8 54) (v6 key)++b))
theorem qjB (key b:BB):(tagD key b).length=32:=xU _
theorem qCD (x y:BB):sumD (putD (putD iv x) y)=qoJ (x++y):=by rw [qI8];rfl
theorem qnW (key b:BB) (h:key.length≤1000000) (hb:b.length≤1000000):qqT (key,b,())=some (tagD key b,()):=by
 unfold qqT
 dsimp only
 rw [qsR _ (by omega)]
 refine (qF rfl).trans ?_
 refine (qH (by decide)).trans ?_
 dsimp only
 have hk:=ql1 key
 rw [qB8 (u8 92) _ hk rfl]
 refine (qH g62).trans ?_
 dsimp only
 rw [qnM]
 refine (qF rfl).trans ?_
 dsimp only
 have l1:=(qc3 (u8 92) (v6 key)).trans hk
 have l2:=(qc3 (u8 54) (v6 key)).trans hk
 rw [qc6 qsU _ (by decide) (by omega)]
 refine (qF rfl).trans ?_
 refine (qH (by decide)).trans ?_
 dsimp only
 rw [qB8 (u8 54) _ hk rfl]
 refine (qH g62).trans ?_
 refine (qF rfl).trans ?_
 dsimp only
 rw [qc6 qsU _ (by decide) (by omega)]
 refine (qF rfl).trans ?_
 dsimp only
 have n1:(putD iv (xr (u8 54) (v6 key))).2.1=0+((xr (u8 54) (v6 key)).length:Int):=rfl
 have n2:(putD (putD iv (xr (u8 54) (v6 key))) b).2.1=0+((xr (u8 54) (v6 key)).length:Int)+(b.length:Int):=rfl
 have n3:(putD iv (xr (u8 92) (v6 key))).2.1=0+((xr (u8 92) (v6 key)).length:Int):=rfl
 rw [qc6 (qgF qsU _) b (by omega) (by omega)]
 refine (qF rfl).trans ?_
 dsimp only
 rw [qmL (qgF (qgF qsU _) _) (by omega),qCD]
 refine (qF rfl).trans ?_
 dsimp only
 have l4:=xU (xr (u8 54) (v6 key)++b)
 rw [qc6 (qgF qsU _) _ (by omega) (by omega)]
 refine (qF rfl).trans ?_
 dsimp only
 have n4:∀ y,(putD (putD iv (xr (u8 92) (v6 key))) y).2.1=0+((xr (u8 92) (v6 key)).length:Int)+(y.length:Int):=fun _=>rfl
 rw [qmL (qgF (qgF qsU _) _) (by rw [n4];omega),qCD]
 rfl
theorem qsJ (key b:BB) (h:key.length≤1000000) (hb:b.length≤1000000):qkS (key,b,())=some (tagD key b,()):=by
 unfold qkS
 dsimp only
 rw [qoU _ (by omega)]
 refine (qF rfl).trans ?_
 dsimp only
 have hk:=ql1 key
 unfold tagD
 generalize v6 key=k at hk
 generalize hf:(fun (x:BB×BB×Int×Unit)=>(_:Option (LS (BB×BB×Int×Unit) (BB×Unit))))=f
 have x1:(xr (u8 54) k).length=64:=by rw [qc3,hk]
 have x2:(xr (u8 92) k).length=64:=by rw [qc3,hk]
 have tk:∀ (c:UInt8) (i:Nat) (hi:i < 64),app ((xr c k).take i) [u8 (xorI .u8 (n8 (nth k (nat (i:Int)) (u8 0))) (n8 c))]=(xr c k).take (i+1):=by
  intro c i hi
  have hx:(xr c k).length=64:=by rw [qc3,hk]
  rw [zB,qM (by omega:i < k.length),List.take_succ_eq_append_getElem (by omega)]
  unfold app
  congr 2
  simp [xr]
 have step:∀ i:Nat,i < 64→f ((xr (u8 54) k).take i,(xr (u8 92) k).take i,(i:Int),())=some (.nx ((xr (u8 54) k).take (i+1),(xr (u8 92) k).take (i+1),((i+1:Nat):Int),())):=by
  intro i hi
  subst hf
  have hi':i64 (iadd (i:Int) 1)=((i+1:Nat):Int):=i64n (by show (i:Int)+1=_;omega) (by omega)
  have h1:((xr (u8 54) k).take i).length=i:=by rw [List.length_take];omega
  have h2:((xr (u8 92) k).take i).length=i:=by rw [List.length_take];omega
  refine (qC (by simp only [go_sem,Int.reduceToNat];omega)).trans ?_
  refine (qH (by simp only [go_sem,Int.reduceToNat];omega)).trans ?_
  refine (qH (by simp only [go_sem,Int.reduceToNat];simp;omega)).trans ?_
  refine (qH (by simp only [go_sem,Int.reduceToNat];omega)).trans ?_
  refine (qH (by simp only [go_sem,Int.reduceToNat];simp;omega)).trans ?_
  dsimp only
  rw [hi',tk _ i hi,tk _ i hi]
 have hend:∀ u v,f (u,v,((64:Nat):Int),())=some (.ex 0 (u,v,((64:Nat):Int),())):=by subst hf;intro u v;exact qB rfl
 have hloop:=(qL (f:=f) (fun i=>((xr (u8 54) k).take i,(xr (u8 92) k).take i,(i:Int),())) 64 step 0 (Nat.zero_le _)).trans (qT (hend _ _))
 rw [List.take_of_length_le (show (xr (u8 54) k).length≤64 by omega),List.take_of_length_le (show (xr (u8 92) k).length≤64 by omega)] at hloop
 refine (zC (show loop f (none' UInt8,none' UInt8,0,())=_ from hloop)).trans ?_
 refine (qH g62).trans ?_
 dsimp only
 refine (qH (by simp only [go_sem,Int.reduceToNat];omega)).trans ?_
 rw [show app (xr (u8 54) k) b=xr (u8 54) k++b from rfl,qaV _ (by rw [List.length_append];omega)]
 refine (qF rfl).trans ?_
 dsimp only
 have l4:=xU (xr (u8 54) k++b)
 refine (qH (by simp only [go_sem,Int.reduceToNat];omega)).trans ?_
 rw [show app (xr (u8 92) k) (qoJ (xr (u8 54) k++b))=xr (u8 92) k++qoJ (xr (u8 54) k++b) from rfl,qaV _ (by rw [List.length_append];omega)]
 rfl
def vG (p:BB):BB:=[u8 (shrI .i64 (len p) (n64 (u64 8))),u8 (len p)]++p
def tlD (l:List BB):BB:=l.flatMap vG
def qbU (label:BB) (l:List BB):BB:=[u8 (len label)]++label++tlD l
theorem qnR (p:BB):(vG p).length=p.length+2:=by simp [vG]
theorem qDw {l:List BB} (h:∀ p∈l,p.length≤1000):(tlD l).length≤1002*l.length:=by
 induction l with
 | nil=>simp [tlD]
 | cons p r ih =>
  have h1:=h p (by simp)
  have h2:=ih fun q hq=>h q (by simp [hq])
  unfold tlD at h2 ⊢
  rw [List.flatMap_cons,List.length_append,qnR,List.length_cons];omega
theorem qCg {l:List BB} {i:Nat} (hi:i < l.length):tlD (l.take (i+1))=tlD (l.take i)++vG l[i]:=by
 unfold tlD
 rw [List.take_succ_eq_append_getElem hi,List.flatMap_append,List.flatMap_cons,List.flatMap_nil,List.append_nil]
theorem qbW {label:BB} {l:List BB} (h1:label.length≤255) (h2:l.length≤16) (h:∀ p∈l,p.length≤1000):(qbU label l).length≤20000:=by
 have:=qDw h
 unfold qbU
 simp only [List.length_append,List.length_cons,List.length_nil];omega
def qrH (key label:BB) (l:List BB):BB:=tagD key (qbU label l)
theorem qi1 (key label:BB) (l:List BB):(qrH key label l).length=32:=qjB _ _
theorem qqU (key label:BB) (l:List BB) (hk:key.length≤1000000) (h1:label.length≤255) (h2:l.length≤16) (h:∀ p∈l,p.length≤1000):qh4 (key,label,l,())=some (qrH key label l,0,()):=by
 unfold qh4
 dsimp only
 refine (qF (a:=(false,())) ((qB (by simp only [go_sem,Int.reduceToNat];omega)).trans (by rw [show lt 16 (len l)=false from lt_f (by simp only [go_sem,Int.reduceToNat];omega)]))).trans ?_
 refine (qB rfl).trans ?_
 refine (qH (by simp only [go_sem,Int.reduceToNat];simp;omega)).trans ?_
 generalize hf:(fun (x_1:Int×BB×Int×Unit)=>(_:Option (LS (Int×BB×Int×Unit) (BB×Int×Unit))))=f
 have hT:∀ i,(qbU label (l.take i)).length≤20000:=fun i=>qbW h1 (by rw [List.length_take];omega) (fun p hp=>h p (List.mem_of_mem_take hp))
 have step:∀ i:Nat,i < l.length→f (0,qbU label (l.take i),(i:Int),())=some (.nx (0,qbU label (l.take (i+1)),((i+1:Nat):Int),())):=by
  intro i hi
  subst hf
  have hi':i64 (iadd (i:Int) 1)=((i+1:Nat):Int):=i64n (by show (i:Int)+1=_;omega) (by omega)
  have hp:=h l[i] (List.getElem_mem hi)
  have ht:=hT i
  have hn:nth l (nat (i:Int)) (none' UInt8)=l[i]:=by rw [zB,qM hi]
  refine (qC (by simp only [go_sem,Int.reduceToNat];omega)).trans ?_
  refine (qH (by simp only [go_sem,Int.reduceToNat];omega)).trans ?_
  dsimp only
  rw [hn]
  refine (qB (by simp only [go_sem,Int.reduceToNat];omega)).trans ?_
  refine (qH (by simp only [go_sem,Int.reduceToNat];simp;omega)).trans ?_
  refine (qH (by simp only [go_sem,Int.reduceToNat];simp;omega)).trans ?_
  rw [hi',show qbU label (l.take (i+1))=qbU label (l.take i)++vG l[i] by unfold qbU;rw [qCg hi,List.append_assoc,List.append_assoc,List.append_assoc]]
  unfold vG app
  rw [List.append_assoc]
 have hend:∀ u,f (0,u,(l.length:Int),())=some (.ex 0 (0,u,(l.length:Int),())):=by subst hf;intro u;exact qB (by simp only [go_sem,Int.reduceToNat];omega)
 have hloop:=(qL (f:=f) (fun i=>(0,qbU label (l.take i),(i:Int),())) l.length step 0 (Nat.zero_le _)).trans (qT (hend _))
 rw [List.take_of_length_le (Nat.le_refl _)] at hloop
 have h0:qbU label (l.take 0)=app [u8 (len label)] label:=by unfold qbU;rw [List.take_zero];exact List.append_nil _
 rw [h0] at hloop
 refine (zC (show loop f (0,app [u8 (len label)] label,0,())=_ from hloop)).trans ?_
 refine (qH g62).trans ?_
 dsimp only
 have:=qbW h1 h2 h
 rw [qnW _ _ hk (by omega)];rfl
theorem qqG (label:BB) (l:List BB) (h1:label.length≤255) (h2:l.length≤16) (h:∀ p∈l,p.length≤1000):qh1 (label,l,())=some (qbU label l,()):=by
 unfold qh1
 dsimp only
 refine (qH (by simp only [go_sem,Int.reduceToNat];omega)).trans ?_
 refine (qH (by simp only [go_sem,Int.reduceToNat];simp;omega)).trans ?_
 generalize hf:(fun (x_1:BB×Int×Unit)=>(_:Option (LS (BB×Int×Unit) (BB×Unit))))=f
 have hT:∀ i,(qbU label (l.take i)).length≤20000:=fun i=>qbW h1 (by rw [List.length_take];omega) (fun p hp=>h p (List.mem_of_mem_take hp))
 have step:∀ i:Nat,i < l.length→f (qbU label (l.take i),(i:Int),())=some (.nx (qbU label (l.take (i+1)),((i+1:Nat):Int),())):=by
  intro i hi
  subst hf
  have hi':i64 (iadd (i:Int) 1)=((i+1:Nat):Int):=i64n (by show (i:Int)+1=_;omega) (by omega)
  have hp:=h l[i] (List.getElem_mem hi)
  have ht:=hT i
  have hn:nth l (nat (i:Int)) (none' UInt8)=l[i]:=by rw [zB,qM hi]
  have q1:u8 (i64 (idiv (len l[i]) 256))=u8 (shrI .i64 (len l[i]) (n64 (u64 8))):=by
   have a1:idiv (len l[i]) 256=((l[i].length / 256:Nat):Int):=by rw [g31 (by simp only [go_sem,Int.reduceToNat];omega)];simp only [go_sem,Int.reduceToNat];omega
   have a2:shrI .i64 (len l[i]) (n64 (u64 8))=((l[i].length / 256:Nat):Int):=by show Int.fdiv (l[i].length:Int) (2 ^ 8)=_;rw [Int.fdiv_eq_ediv_of_nonneg _ (by decide)];omega
   rw [a1,a2,i64n rfl (by omega)]
  have q2:u8 (imod (len l[i]) 256)=u8 (len l[i]):=by
   rw [g32 (by simp only [go_sem,Int.reduceToNat];omega)];exact qCf (by simp only [go_sem,Int.reduceToNat];omega)
  refine (qC (by simp only [go_sem,Int.reduceToNat];omega)).trans ?_
  dsimp only
  rw [hn]
  refine (qH (by simp only [go_sem,Int.reduceToNat];omega)).trans ?_
  refine (qH (by simp only [go_sem,Int.reduceToNat];omega)).trans ?_
  refine (qH (by simp only [go_sem,Int.reduceToNat];simp;omega)).trans ?_
  refine (qH (by simp only [go_sem,Int.reduceToNat];omega)).trans ?_
  refine (qH (by simp only [go_sem,Int.reduceToNat];simp;omega)).trans ?_
  rw [hi',q1,q2,show qbU label (l.take (i+1))=qbU label (l.take i)++vG l[i] by unfold qbU;rw [qCg hi,List.append_assoc,List.append_assoc,List.append_assoc]]
  unfold vG app
  rw [List.append_assoc]
 have hend:∀ u,f (u,(l.length:Int),())=some (.ex 0 (u,(l.length:Int),())):=by subst hf;intro u;exact qB (by simp only [go_sem,Int.reduceToNat];omega)
 have hloop:=(qL (f:=f) (fun i=>(qbU label (l.take i),(i:Int),())) l.length step 0 (Nat.zero_le _)).trans (qT (hend _))
 rw [List.take_of_length_le (Nat.le_refl _)] at hloop
 have h0:qbU label (l.take 0)=app [u8 (len label)] label:=by unfold qbU;rw [List.take_zero];exact List.append_nil _
 rw [h0] at hloop
 refine (zC (show loop f (app [u8 (len label)] label,0,())=_ from hloop)).trans ?_
 exact qH g62
theorem qmR (key label:BB) (l:List BB) (hk:key.length≤1000000) (h1:label.length≤255) (h2:l.length≤16) (h:∀ p∈l,p.length≤1000):qb1 (key,label,l,())=some (qrH key label l,0,()):=by
 unfold qb1
 dsimp only
 refine (qF (a:=(false,())) ((qB (by simp only [go_sem,Int.reduceToNat];omega)).trans (by rw [show lt 16 (len l)=false from lt_f (by simp only [go_sem,Int.reduceToNat];omega)]))).trans ?_
 refine (qB rfl).trans ?_
 generalize hf:(fun (x_1:Int×Int×Unit)=>(_:Option (LS (Int×Int×Unit) (BB×Int×Unit))))=f
 have step:∀ i:Nat,i < l.length→f (0,(i:Int),())=some (.nx (0,((i+1:Nat):Int),())):=by
  intro i hi
  subst hf
  have hi':i64 (iadd (i:Int) 1)=((i+1:Nat):Int):=i64n (by show (i:Int)+1=_;omega) (by omega)
  have hp:=h l[i] (List.getElem_mem hi)
  have hn:nth l (nat (i:Int)) (none' UInt8)=l[i]:=by rw [zB,qM hi]
  refine (qC (by simp only [go_sem,Int.reduceToNat];omega)).trans ?_
  dsimp only
  rw [hn,hi']
  refine (qH (by simp only [go_sem,Int.reduceToNat];omega)).trans ?_
  exact qB (by simp only [go_sem,Int.reduceToNat];omega)
 have hend:f (0,(l.length:Int),())=some (.ex 0 (0,(l.length:Int),())):=by subst hf;exact qB (by simp only [go_sem,Int.reduceToNat];omega)
 have hloop:=(qL (f:=f) (fun i=>(0,(i:Int),())) l.length step 0 (Nat.zero_le _)).trans (qT hend)
 refine (zC (show loop f (0,0,())=_ from hloop)).trans ?_
 refine (qH g62).trans ?_
 rw [qqG _ _ h1 h2 h]
 refine (qF rfl).trans ?_
 dsimp only
 have:=qbW h1 h2 h
 rw [qsJ _ _ hk (by omega)];rfl
def qc9 (k b:BB):BB:=(tagD k b).take 16
theorem qaU (k b:BB):(qc9 k b).length=16:=by unfold qc9;rw [List.length_take,qjB];rfl
theorem qgG (k b:BB) (hk:k.length≤1000000) (hb:b.length≤1000000):qdM (k,b,())=some (qc9 k b,()):=by
 unfold qdM
 dsimp only
 rw [qnW _ _ hk hb]
 refine (qF rfl).trans ?_
 dsimp only
 have:=qjB k b
 refine (qH (by simp only [go_sem,Int.reduceToNat];omega)).trans ?_
 rfl
abbrev ET:=BB×BB×Unit
theorem qu9 (p:qfT) (k b:BB):qo8 (p,k,b,())=some (D ((k,b,())∈p.2.1),()):=by
 unfold qo8
 congr 2
 refine qj1 ?_
 rw [List.any_eq_true]
 constructor
 ·rintro ⟨⟨e1,e2,⟨⟩⟩,he,h⟩
  simp only [band,seq,Bool.and_eq_true,beq_iff_eq] at h
  rw [h.1,h.2];exact he
 ·intro h
  exact ⟨_,h,by simp [band,seq]⟩
def ptag (p:qfT) (k b:BB):qfT:=if (k,b,())∈p.2.1 then p else (p.1,p.2.1++[(k,b,())],p.2.2)
theorem qAG {α:Type} (l:List α):sub l 0 (len l)=l:=by
 unfold sub
 rw [show (0:Int).toNat=0 from rfl,List.drop_zero,show (len l).toNat=l.length from zB,List.take_of_length_le (by omega)]
theorem qBv {α:Type} (l:List α):band (inC 0 (len l) (len l)) (beq (len l) (len l))=true:=by
 rw [qc0 rfl,g37];simp only [go_sem,Int.reduceToNat];omega
theorem qD1 (l:List ET):zR (l,())=some (l,()):=by
 unfold zR
 dsimp only
 rw [qAG]
 exact qH (qBv l)
theorem qfP (l:BB) (h:l.length≤1000000):qbT (l,())=some (l,()):=by
 unfold qbT
 exact qH (by simp only [go_sem,Int.reduceToNat];omega)
theorem qu8 (p:qfT) (k b:BB) (hl:p.2.1.length≤1000000) (hk:k.length≤1000000) (hb:b.length≤1000000):qo7 (p,k,b,())=some (ptag p k b,qc9 k b,()):=by
 unfold qo7
 dsimp only
 rw [qu9]
 refine (qF rfl).trans ?_
 unfold ptag
 by_cases h:(k,b,())∈p.2.1
 ·rw [D_t h,if_pos h]
  refine (qB rfl).trans ?_
  rw [qgG _ _ hk hb];rfl
 ·rw [D_f h,if_neg h]
  refine (qC rfl).trans ?_
  rw [qD1]
  refine (qF rfl).trans ?_
  rw [qfP _ hk]
  refine (qF rfl).trans ?_
  rw [qfP _ hb]
  refine (qF rfl).trans ?_
  refine (qH (by simp only [go_sem,Int.reduceToNat];simp;omega)).trans ?_
  rw [qgG _ _ hk hb];rfl
theorem qKF (p:qfT) (k b:BB):(ptag p k b).2.1.length≤p.2.1.length+1:=by
 unfold ptag
 split
 ·omega
 ·simp
theorem qqF (p:qfT) (hl:p.2.1.length≤1000000):qdI (p,p,())=some (true,()):=by
 unfold qdI
 dsimp only
 have e1:∀ b:Bool,beb b b=true:=fun b=>by cases b <;> rfl
 rw [e1,e1,qc0 rfl]
 refine (qF (a:=(false,())) rfl).trans ?_
 refine (qB rfl).trans ?_
 generalize p.2.1=l at hl
 generalize hf:(fun (x_1:Bool×Int×Unit)=>(_:Option (LS (Bool×Int×Unit) (Bool×Unit))))=f
 have step:∀ i:Nat,i < l.length→f (false,(i:Int),())=some (.nx (false,((i+1:Nat):Int),())):=by
  intro i hi
  subst hf
  have hi':i64 (iadd (i:Int) 1)=((i+1:Nat):Int):=i64n (by show (i:Int)+1=_;omega) (by omega)
  refine (qC (by simp (disch:=omega) only [go_sem,Int.reduceToNat];omega)).trans ?_
  dsimp only
  rw [hi']
  simp (disch:=omega) only [go_sem,Int.reduceToNat,qY]
 have hend:f (false,(l.length:Int),())=some (.ex 0 (false,(l.length:Int),())):=by subst hf;exact qB (by simp (disch:=omega) only [go_sem,Int.reduceToNat];omega)
 have hloop:=(qL (f:=f) (fun i=>(false,(i:Int),())) l.length step 0 (Nat.zero_le _)).trans (qT hend)
 refine (zC (show loop f (false,0,())=_ from hloop)).trans ?_
 exact qH g62
def big8 (n:Int):BB:=ps 256 byt n.toNat 8
theorem qr9 (n:Int):(big8 n).length=8:=zL _ _ _ _
def recD (n:Int):BB:=big8 n++(qoJ ([u8 121,u8 101,u8 116,u8 116]++big8 n)).take 8
theorem qAW (n:Int):(recD n).length=16:=by unfold recD;rw [List.length_append,qr9,List.length_take,xU];rfl
def qJR (n:Int):Prop:=1≤n∧n≤4611686018427387904
theorem qLJ {n:Int} (h:qJR n):((1:Int)≤8∧(8:Int)≤8∧0≤n∧n < 256 ^ (8:Int).toNat):=by
 obtain ⟨h1,h2⟩:=h
 refine ⟨by omega,by omega,by omega, ?_⟩
 show n < 256 ^ 8
 omega
theorem qmP (n:Int) (hn:n≤9223372036854775807):qbZ (n,())=some (if 1≤n∧n≤4611686018427387904 then (recD n,0,()) else ([],1,())):=by
 unfold qbZ
 dsimp only
 by_cases h:1≤n∧n≤4611686018427387904
 ·rw [if_pos h]
  refine (qF (a:=(false,())) ((qB (by simp only [go_sem,Int.reduceToNat];omega)).trans (by rw [show lt 4611686018427387904 n=false from lt_f (by omega)]))).trans ?_
  refine (qB rfl).trans ?_
  rw [qiT _ _ hn,if_pos (qLJ h)]
  refine (qF rfl).trans ?_
  dsimp only
  rw [show ps 256 byt n.toNat (8:Int).toNat=big8 n from rfl]
  have:=qr9 n
  refine (qH (by simp only [go_sem,Int.reduceToNat];simp;omega)).trans ?_
  rw [show app [u8 121,u8 101,u8 116,u8 116] (big8 n)=[u8 121,u8 101,u8 116,u8 116]++big8 n from rfl,qaV _ (by simp;omega)]
  refine (qF rfl).trans ?_
  dsimp only
  have h2:=xU ([u8 121,u8 101,u8 116,u8 116]++big8 n)
  refine (qH (by simp only [go_sem,Int.reduceToNat];omega)).trans ?_
  refine (qH (by simp only [go_sem,Int.reduceToNat];omega)).trans ?_
  rw [show cut (qoJ ([u8 121,u8 101,u8 116,u8 116]++big8 n)) (nat 0) (nsub (nat 8) (nat 0))=(qoJ ([u8 121,u8 101,u8 116,u8 116]++big8 n)).take 8 from rfl,show app (none' UInt8) (big8 n)=big8 n from rfl]
  refine (qH (by simp only [go_sem,Int.reduceToNat];simp;omega)).trans ?_
  rfl
 ·rw [if_neg h]
  by_cases h1:n < 1
  ·refine (qF (a:=(true,())) (qC (by simp only [go_sem,Int.reduceToNat];omega))).trans ?_
   rfl
  ·refine (qF (a:=(true,())) ((qB (by simp only [go_sem,Int.reduceToNat];omega)).trans (by rw [show lt 4611686018427387904 n=true from lt_t (by omega)]))).trans ?_
   rfl
abbrev ST:=BB×BB×Unit
def qKz (s:ST):Prop:=s.1.length=16∧s.2.1.length=16
def newS:ST:=(recD 1,List.replicate 16 (u8 0),())
theorem qiR:qf6 ()=some (newS,()):=by
 unfold qf6
 rw [qmP _ (by decide),if_pos (by decide)]
 rfl
theorem qp8 (s:ST):qhT (s,s,())=some (true,()):=by
 unfold qhT
 simp only [go_sem,Int.reduceToNat,qY]
def jN (p:Int):Prop:=2≤p∧p≤6
def qd2 (p:Int):Prop:=p=3∨p=4∨p=5
instance (p:Int):Decidable (jN p):=by unfold jN;infer_instance
instance (p:Int):Decidable (qd2 p):=by unfold qd2;infer_instance
def qBa (p:Int):Int:=if p=0 then 0 else if p=1 then 1 else if p=2 then 2 else if p=3 then 3 else if p=4 then 4 else if p=5 then 4 else if p=6 then 5 else -1
theorem qbD (p:Int):wC (p,())=some (qBa p,()):=by
 unfold wC qBa
 by_cases h0:p=0
 ·subst h0;rfl
 by_cases h1:p=1
 ·subst h1;rfl
 by_cases h2:p=2
 ·subst h2;rfl
 by_cases h3:p=3
 ·subst h3;rfl
 by_cases h4:p=4
 ·subst h4;rfl
 by_cases h5:p=5
 ·subst h5;rfl
 by_cases h6:p=6
 ·subst h6;rfl
 rw [if_neg h0,if_neg h1,if_neg h2,if_neg h3,if_neg h4,if_neg h5,if_neg h6]
 simp (disch:=omega) only [go_sem,Int.reduceToNat]
theorem qJB (p:Int):2≤qBa p↔jN p:=by
 unfold qBa jN
 repeat' split
 all_goals omega
theorem qHw (p:Int):qBa p=3∨qBa p=4↔qd2 p:=by
 unfold qBa qd2
 repeat' split
 all_goals omega
theorem qmT (p:Int):qb3 (p,())=some (D (jN p),()):=by
 unfold qb3
 rw [qbD]
 simp only [go_sem,Int.reduceToNat,qJB]
theorem yI (p:Int):qa0 (p,())=some (D (qd2 p),()):=by
 unfold qa0
 rw [qbD]
 simp only [go_sem,Int.reduceToNat,qbD,qHw]
theorem qmO (p:Int):qbY (p,())=some (D (jN p),()):=by
 unfold qbY jN
 simp only [go_sem,Int.reduceToNat]
def qv4 (c s:Int) (b:BB):Prop:=w8 c∧1≤s∧s≤999999∧1≤b.length∧b.length≤900
instance (c s:Int) (b:BB):Decidable (qv4 c s b):=by unfold qv4;infer_instance
theorem qtI (c:Int):ql6 (c,())=some (D (w8 c),()):=by
 unfold ql6 w8
 by_cases h1:c=1
 ·subst h1;simp only [go_sem,Int.reduceToNat]
 by_cases h2:c=2
 ·subst h2;simp (disch:=omega) only [go_sem,Int.reduceToNat]
 by_cases h3:c=101
 ·subst h3;simp (disch:=omega) only [go_sem,Int.reduceToNat]
 by_cases h4:c=201
 ·subst h4;simp (disch:=omega) only [go_sem,Int.reduceToNat]
 simp only [go_sem,Int.reduceToNat,h1,h2,h3,h4]
theorem qw4 (c s:Int) (b:BB):qpH (c,s,b,())=some (D (qv4 c s b),()):=by
 unfold qpH qv4
 rw [qtI]
 by_cases hk:w8 c
 ·simp only [go_sem,Int.reduceToNat,hk];exact jI (by omega)
 ·rw [D_f (p:=_∧_) (fun h=>hk h.1)];simp only [go_sem,Int.reduceToNat,hk]
theorem qp6 (c s:Int) (b:BB):qhR (c,s,b,())=some (D (qv4 c s b),()):=by
 unfold qhR qv4
 rw [qoM]
 by_cases hk:w8 c
 ·simp only [go_sem,Int.reduceToNat,hk];exact jI (by omega)
 ·rw [D_f (p:=_∧_) (fun h=>hk h.1)];simp only [go_sem,Int.reduceToNat,hk]
def noA:TAsk:=(0,0,0,0,[],())
def qi7 (c s:Int) (b:BB):TAsk×Int×Unit:=if qv4 c s b then ((c,s,8,3,b,()),0,()) else (noA,1,())
theorem qtJ (c s:Int) (b:BB):ql7 (c,s,b,())=some (qi7 c s b):=by
 unfold ql7 qi7
 rw [qw4]
 by_cases h:qv4 c s b
 ·rw [D_t h,if_pos h];rfl
 ·rw [D_f h,if_neg h];rfl
theorem qoN (c s:Int) (b:BB):y5 (c,s,b,())=some (qi7 c s b):=by
 unfold y5 qi7
 rw [qp6]
 by_cases h:qv4 c s b
 ·rw [D_t h,if_pos h];rfl
 ·rw [D_f h,if_neg h];rfl
theorem qw3 (a:TAsk):qpG (a,())=some (D (a=noA),()):=by
 obtain ⟨c,s,d,l,b,⟨⟩⟩:=a
 unfold qpG qw6 noA
 simp only [go_sem,Int.reduceToNat,qfO]
 refine jI ?_
 simp only [Prod.mk.injEq,and_true]
 constructor
 ·rintro ⟨⟨⟨⟨h1,h2⟩,h3⟩,h4⟩,h5⟩;exact ⟨h1,h2,h3,h4,h5⟩
 ·rintro ⟨h1,h2,h3,h4,h5⟩;exact ⟨⟨⟨⟨h1,h2⟩,h3⟩,h4⟩,h5⟩
def qt5 (a:TAsk) (c s:Int):Prop:=¬ a=noA∧a.1=c∧a.2.1=s
theorem qtH (a:TAsk) (c s:Int):ql5 (a,c,s,())=some (D (qt5 a c s),()):=by
 unfold ql5 qt5
 rw [qw3]
 simp only [go_sem,Int.reduceToNat]
theorem qp7 (a:TAsk):qhS (a,a,())=some (true,()):=by
 unfold qhS
 simp only [go_sem,Int.reduceToNat,qY]
def qaO (n:Int):Int:=if n < 0∨999999≤n then 1 else n+1
theorem qw5 (n:Int):qpI (n,())=some (qaO n,()):=by
 unfold qpI qaO
 by_cases h:n < 0∨999999≤n
 ·rw [if_pos h];simp (disch:=omega) only [go_sem,Int.reduceToNat]
 ·rw [if_neg h];simp (disch:=omega) only [go_sem,Int.reduceToNat]
def qJc (u:List Bool) (n:Nat):Option Nat:=((List.range 4).map fun i=>(n+i) % 4).find? fun c=>u.getD c false
def kL (h:THub):THub×Int×Int×Unit:=match qJc h.1 h.2.2.2.1.toNat with | none=>(h,0,11,()) | some c=>((h.1,h.2.1,h.2.2.1,(((c+1) % 4:Nat):Int),()),(c:Int),0,())
theorem four {α:Type} {w:List α} (h:w.length=4):∃ a b c d,w=[a,b,c,d]:=by
 match w,h with
 | [a,b,c,d],_=>exact ⟨a,b,c,d,rfl⟩
theorem qvV (h:THub) (hu:h.1.length=4) (hn:0≤h.2.2.2.1∧h.2.2.2.1 < 4):qpE (h,())=some (kL h):=by
 obtain ⟨u,f,l,n,⟨⟩⟩:=h
 dsimp only at hu hn
 obtain ⟨a,b,c,d,rfl⟩:=four hu
 have:n=0∨n=1∨n=2∨n=3:=by omega
 unfold qpE
 rcases this with rfl | rfl | rfl | rfl <;> cases a <;> cases b <;> cases c <;> cases d <;> (refine (zC (qjN 5 rfl)).trans ?_;kernel_rfl)
theorem qq9 (b:BB) (h:1≤b.length∧b.length≤1024):qiA (b,())=some (vG b,0,()):=by
 unfold qiA
 refine (qF (a:=(false,())) ((qB (by simp only [go_sem,Int.reduceToNat];omega)).trans (by rw [show lt 1024 (len b)=false from lt_f (by simp only [go_sem,Int.reduceToNat];omega)]))).trans ?_
 refine (qB rfl).trans ?_
 refine (qH (by simp only [go_sem,Int.reduceToNat];simp;omega)).trans ?_
 rfl
abbrev GT:=Int×BB×Unit
def noG:GT:=(0,[],())
def noR:qo3:=(noG,noG,noG,0,0,())
def qE1 (g:GT):Prop:=1≤g.1∧g.1≤2147483647∧g.2.1.length=32
instance (g:GT):Decidable (qE1 g):=by unfold qE1;infer_instance
def newR (k:BB):qo3×Int×Unit:=if k.length=32 then (((1,k,()),noG,noG,0,1,()),0,()) else (noR,1,())
theorem qiS (k:BB):qkQ (k,())=some (newR k):=by
 unfold qkQ newR
 by_cases h:k.length=32
 ·rw [if_pos h];simp (disch:=omega) only [go_sem,Int.reduceToNat];rfl
 ·rw [if_neg h];simp (disch:=omega) only [go_sem,Int.reduceToNat];rfl
def qyB (r:qo3):Prop:=r=noR∨(qE1 r.1∧r.2.2.2.2.1≤2147483647∧r.1.1≤r.2.2.2.2.1∧r.2.2.1.1≤r.2.2.2.2.1 ∧
 (r.2.1=noG∧r.2.2.2.1=0∨¬ r.2.1=noG∧qE1 r.2.1∧r.2.1.1 < r.1.1∧1≤r.2.2.2.1∧r.2.2.2.1≤16)∧(r.2.2.1=noG∨qE1 r.2.2.1∧r.1.1 < r.2.2.1.1))
theorem qp9 (r:qo3):qhU (r,r,())=some (true,()):=by
 unfold qhU yE
 simp only [go_sem,Int.reduceToNat,qY]
def jM (n:Int):Prop:=0≤n∧n≤4611686018427387904
instance (n:Int):Decidable (jM n):=by unfold jM;infer_instance
def e0 (v:TEnv):Int:=nth v.2.2.1 0 0
def e1 (v:TEnv):Int:=nth v.2.2.1 1 0
def qfK (v:TEnv):Prop:=(v.1=1∨v.1=2)∧jM (e0 v)∧jM (e1 v)∧jM v.2.2.2.2.1∧(v.2.1=0∨v.2.1=1)∧(0≤v.2.2.2.1∧v.2.2.2.1≤2147483647)∧1≤v.2.2.2.2.2.1.length∧v.2.2.2.2.2.1.length≤900
theorem qbQ (n hi:Int):qa3 (n,hi,())=some (D (0≤n∧n≤hi),()):=by
 unfold qa3
 simp only [go_sem,Int.reduceToNat]
theorem y6 (n:Int):kP (n,())=some (D (jM n),()):=by
 unfold kP jM
 simp only [go_sem,Int.reduceToNat]
theorem qiY (v:TEnv):qg0 (v,())=some (D (qfK v),()):=by
 obtain ⟨k,d,e,g,s,b,t,⟨⟩⟩:=v
 unfold qg0 qfK e0 e1
 dsimp only
 by_cases hk:k=1∨k=2
 ·refine (qF (a:=(false,())) (by rcases hk with rfl | rfl <;> rfl)).trans ?_
  refine (qB rfl).trans ((qH rfl).trans ((qH rfl).trans ?_))
  rw [show nat 0=0 from rfl,show nat 1=1 from rfl]
  generalize nth e 0 0=x
  generalize nth e 1 0=y
  generalize hf:(fun (x_1:Bool×Int×Unit)=>(_:Option (LS (Bool×Int×Unit) (Bool×Unit))))=f
  have key:=qHs (f:=f) [x,y,s] (fun i=>(false,(i:Int),())) 0 ((false,()):Bool×Unit) jM (fun i h hp => ?_) (fun i h hp => ?_) ?_
  ·rcases key with ⟨h,hl⟩ | ⟨h,hl⟩
   ·refine (zC (show loop f (false,0,())=_ from hl)).trans ?_
    refine (qH g62).trans ?_
    have h1:=h x (by simp)
    have h2:=h y (by simp)
    have h3:=h s (by simp)
    simp only [go_sem,Int.reduceToNat,qbQ]
    refine jI ?_
    simp only [hk,h1,h2,h3,true_and]
    omega
   ·refine (zC (show loop f (false,0,())=_ from hl)).trans ?_
    rw [D_f (fun hc=>h fun z hz => ?_)]
    ·rfl
    ·simp only [List.mem_cons,List.not_mem_nil,or_false] at hz
     rcases hz with rfl | rfl | rfl
     ·exact hc.2.1
     ·exact hc.2.2.1
     ·exact hc.2.2.2.1
  ·subst hf
   have h3:i < 3:=h
   have hi':i64 (iadd (i:Int) 1)=((i+1:Nat):Int):=i64n (by show (i:Int)+1=_;omega) (by omega)
   refine (qC (by simp only [go_sem,Int.reduceToNat];omega)).trans ?_
   refine (qH (by simp only [go_sem,Int.reduceToNat];omega)).trans ?_
   dsimp only
   rw [hi',zB,qM h,qbQ,D_t (show 0≤[x,y,s][i]∧[x,y,s][i]≤4611686018427387904 from hp)];rfl
  ·subst hf
   have h3:i < 3:=h
   refine (qC (by simp only [go_sem,Int.reduceToNat];omega)).trans ?_
   refine (qH (by simp only [go_sem,Int.reduceToNat];omega)).trans ?_
   dsimp only
   rw [zB,qM h,qbQ,D_f (show ¬ (0≤[x,y,s][i]∧[x,y,s][i]≤4611686018427387904) from hp)];rfl
  ·subst hf
   exact qB rfl
 ·rw [D_f (fun h=>hk h.1)]
  simp only [not_or] at hk
  obtain ⟨h1,h2⟩:=hk
  refine (qF (a:=(true,())) (by simp only [go_sem,Int.reduceToNat,h1,h2])).trans ?_
  rfl
theorem qoO (v:TEnv):qeJ (v,())=some (D (qfK v),()):=by
 obtain ⟨k,d,e,g,s,b,t,⟨⟩⟩:=v
 unfold qeJ qfK e0 e1
 dsimp only
 refine (qH rfl).trans ?_
 rw [y6]
 refine (qF rfl).trans ?_
 refine (qH rfl).trans ?_
 rw [y6]
 refine (qF rfl).trans ?_
 rw [y6]
 refine (qF rfl).trans ?_
 dsimp only
 rw [show nat 0=0 from rfl,show nat 1=1 from rfl]
 by_cases h1:jM (nth e 0 0)∧jM (nth e 1 0)∧jM s
 ·obtain ⟨a1,a2,a3⟩:=h1
  rw [D_t a1,D_t a2,D_t a3]
  by_cases hk:k=1
  ·subst hk
   by_cases hd:d=0
   ·subst hd
    simp only [go_sem,Int.reduceToNat];refine jI ?_;simp only [a1,a2,a3,true_and];omega
   ·by_cases hd':d=1
    ·subst hd'
     simp only [go_sem,Int.reduceToNat];refine jI ?_;simp only [a1,a2,a3,true_and];omega
    ·rw [D_f (p:=_∧_) (fun h=>by have:=h.2.2.2.2.1;omega)];simp (disch:=omega) only [go_sem,Int.reduceToNat]
  ·by_cases hk':k=2
   ·subst hk'
    by_cases hd:d=0
    ·subst hd
     simp only [go_sem,Int.reduceToNat];refine jI ?_;simp only [a1,a2,a3,true_and];omega
    ·by_cases hd':d=1
     ·subst hd'
      simp only [go_sem,Int.reduceToNat];refine jI ?_;simp only [a1,a2,a3,true_and];omega
     ·rw [D_f (p:=_∧_) (fun h=>by have:=h.2.2.2.2.1;omega)];simp (disch:=omega) only [go_sem,Int.reduceToNat]
   ·rw [D_f (p:=_∧_) (fun h=>by have:=h.1;omega)];simp (disch:=omega) only [go_sem,Int.reduceToNat]
 ·rw [D_f (p:=(k=1∨k=2)∧_) (fun h=>h1 ⟨h.2.1,h.2.2.1,h.2.2.2.1⟩)]
  by_cases c1:jM (nth e 0 0)
  ·by_cases c2:jM (nth e 1 0)
   ·have c3:¬ jM s:=fun h=>h1 ⟨c1,c2,h⟩
    rw [D_t c1,D_t c2,D_f c3];rfl
   ·rw [D_t c1,D_f c2];rfl
  ·rw [D_f c1];rfl
def bigN (w:Nat) (n:Int):BB:=ps 256 byt n.toNat w
theorem zJ (w:Nat) (n:Int):(bigN w n).length=w:=zL _ _ _ _
def zF (v:TEnv):BB:=bigN 1 v.1++bigN 1 v.2.1++bigN 8 (e0 v)++bigN 8 (e1 v)++bigN 4 v.2.2.2.1++bigN 8 v.2.2.2.2.1++v.2.2.2.2.2.1
theorem x3 (v:TEnv):(zF v).length=30+v.2.2.2.2.2.1.length:=by unfold zF;simp only [List.length_append,zJ]
theorem qHU {n:Int} {w:Nat} (h1:1≤w) (h8:w≤8) (h0:0≤n) (h:n < 256 ^ w) (hn:n≤9223372036854775807):qe7 (n,(w:Int),())=some (bigN w n,0,()):=by
 rw [qzN _ _ hn,if_pos ⟨by omega,by omega,h0,by rw [Int.toNat_natCast];exact h⟩,Int.toNat_natCast];rfl
theorem qpC {f:Int×BB×Unit→Option (LS (Int×BB×Unit) Unit)} (w:Nat) (l:List Int) (acc:BB) (h1:1≤w) (h8:w≤8) (hl:l.length≤10) (ha:acc.length≤1000) (h:∀ n∈l,0≤n∧n < 256 ^ w∧n≤9223372036854775807)
  (hf:f=fun (x_1:Int×BB×Unit)=>sel (lt x_1.1 (len l)) (ck (inB x_1.1 (len l)) (ob (qe7 (nth l (nat x_1.1) 0,(w:Int),())) fun (a:BB×Int×Unit)=>ck (rm 1 (nadd (ln x_1.2.1) (ln a.1))) (some (LS.nx (i64 (iadd x_1.1 1),app x_1.2.1 a.1,()))))) (some (LS.ex 0 (x_1.1,x_1.2.1,())))) :
  loop f (0,acc,())=some (.ex 0 ((l.length:Int),acc++l.flatMap (bigN w),())):=by
 have hL:∀ i,((l.take i).flatMap (bigN w)).length≤8*i:=by
  intro i
  rw [List.length_flatMap]
  have:((l.take i).map fun a=>(bigN w a).length)=(l.take i).map fun _=>w:=List.map_congr_left fun a _=>zJ w a
  rw [this,List.map_const',List.sum_replicate_nat,List.length_take]
  have:min i l.length*w≤i*8:=Nat.mul_le_mul (Nat.min_le_left _ _) h8
  omega
 have step:∀ i:Nat,i < l.length→f ((i:Int),acc++(l.take i).flatMap (bigN w),())=some (.nx (((i+1:Nat):Int),acc++(l.take (i+1)).flatMap (bigN w),())):=by
  intro i hi
  subst hf
  have hi':i64 (iadd (i:Int) 1)=((i+1:Nat):Int):=i64n (by show (i:Int)+1=_;omega) (by omega)
  obtain ⟨q1,q2,q3⟩:=h l[i] (List.getElem_mem hi)
  have hLi:=hL i
  refine (qC (by simp only [go_sem,Int.reduceToNat];omega)).trans ?_
  refine (qH (by simp only [go_sem,Int.reduceToNat];omega)).trans ?_
  dsimp only
  rw [hi',zB,qM hi,qHU h1 h8 q1 q2 q3]
  refine (qF rfl).trans ?_
  have hb:=zJ w l[i]
  refine (qH (by simp only [go_sem,Int.reduceToNat];simp only [List.length_append,zJ];omega)).trans ?_
  rw [List.take_succ_eq_append_getElem hi,List.flatMap_append,List.flatMap_cons,List.flatMap_nil,List.append_nil]
  unfold app
  rw [List.append_assoc]
 have hend:∀ u,f ((l.length:Int),u,())=some (.ex 0 ((l.length:Int),u,())):=by subst hf;intro u;exact qB (by simp only [go_sem,Int.reduceToNat];omega)
 have:=(qL (f:=f) (fun i=>((i:Int),acc++(l.take i).flatMap (bigN w),())) l.length step 0 (Nat.zero_le _)).trans (qT (hend _))
 rw [List.take_of_length_le (Nat.le_refl _),List.take_zero,List.flatMap_nil,List.append_nil] at this
 exact this
theorem qiZ (v:TEnv) (hv:qfK v):qg1 (v,())=some (zF v,0,()):=by
 unfold qg1
 dsimp only
 rw [qiY,D_t hv]
 refine (qF rfl).trans ?_
 refine (qB rfl).trans ?_
 obtain ⟨k,d,e,g,s,b,t,⟨⟩⟩:=v
 unfold zF
 obtain ⟨h1,h2,h3,h4,h5,h6,h7,h8⟩:=hv
 unfold e0 jM at h2
 unfold e1 jM at h3
 unfold jM at h4
 unfold e0 e1
 dsimp only at *
 rw [show nat 0=0 from rfl,show nat 1=1 from rfl]
 generalize nth e 0 0=x at h2
 generalize nth e 1 0=y at h3
 refine (zC (qpC 1 [k,d] [] (by omega) (by omega) (by simp) (by simp) (fun n hn => ?_) rfl)).trans ?_
 ·simp only [List.mem_cons,List.not_mem_nil,or_false] at hn
  rcases hn with rfl | rfl <;> omega
 refine (qH g62).trans ((qH rfl).trans ((qH rfl).trans ?_))
 refine (zC (qpC 8 [x,y] _ (by omega) (by omega) (by simp) (by simp [zJ]) (fun n hn => ?_) rfl)).trans ?_
 ·simp only [List.mem_cons,List.not_mem_nil,or_false] at hn
  rcases hn with rfl | rfl <;> omega
 refine (qH g62).trans ?_
 refine (zC (qpC 4 [g] _ (by omega) (by omega) (by simp) (by simp [zJ]) (fun n hn => ?_) rfl)).trans ?_
 ·simp only [List.mem_cons,List.not_mem_nil,or_false] at hn
  subst hn;omega
 refine (qH g62).trans ?_
 refine (zC (qpC 8 [s] _ (by omega) (by omega) (by simp) (by simp [zJ]) (fun n hn => ?_) rfl)).trans ?_
 ·simp only [List.mem_cons,List.not_mem_nil,or_false] at hn
  subst hn;omega
 refine (qH g62).trans ?_
 dsimp only
 refine (qH (by simp only [go_sem,Int.reduceToNat];simp [zJ];omega)).trans ?_
 unfold app
 simp only [List.flatMap_cons,List.flatMap_nil,List.append_nil,List.nil_append,List.append_assoc]
def qkL (v:TEnv):Prop:=qfK v∧v.2.2.2.2.2.2.1.length=16
def qpN (v:TEnv) (t:BB):TEnv:=(v.1,v.2.1,v.2.2.1,v.2.2.2.1,v.2.2.2.2.1,v.2.2.2.2.2.1,t,())
theorem qs0 (v:TEnv):qlN (v,())=some (D (qkL v),()):=by
 unfold qlN qkL
 rw [qiY]
 simp only [go_sem,Int.reduceToNat]
 exact jI (and_congr_right fun _=>by omega)
theorem qoP (v:TEnv):qa9 (v,())=some (D (qkL v),()):=by
 unfold qa9 qkL
 rw [qoO]
 simp only [go_sem,Int.reduceToNat]
 exact jI (and_congr_right fun _=>by omega)
theorem qsZ (v:TEnv) (hv:qkL v):qlM (v,())=some (zF v++v.2.2.2.2.2.2.1,0,()):=by
 unfold qlM
 dsimp only
 rw [qs0,D_t hv]
 refine (qF rfl).trans ?_
 refine (qB rfl).trans ?_
 rw [qiZ _ hv.1]
 refine (qF rfl).trans ?_
 have h1:=x3 v
 have h2:=hv.2
 have h3:=hv.1.2.2.2.2.2.2.2
 refine (qH (by simp only [go_sem,Int.reduceToNat];omega)).trans ?_
 rfl
abbrev WT:=Int×List UInt64×Unit
abbrev qH1:=Int×BB×Unit
abbrev EvT:=Int×List Int×Int×BB×Unit
structure En' where
 id:Int
 key:BB
 ph:Int
 store:ST
 power:Int
 own:Int
 oth:Int
 seen:Int
 seq:Int
 win:WT
 ring:qo3
 ask:TAsk
 stan:Int
 day:Int
 queue:List BB
 hub:THub
 out:List qH1
 got:List EvT
 cnt:List Int
def En'.t (e:En'):TEnd:=(e.id,e.key,e.ph,e.store,e.power,e.own,e.oth,e.seen,e.seq,e.win,e.ring,e.ask,e.stan,e.day,e.queue,e.hub,e.out,e.got,e.cnt,())
structure Si where
 e:En'
 p:qfT
def Si.t (s:Si):y2:=(s.e.t,s.p,())
def noW:WT:=(0,[u64 0,u64 0,u64 0,u64 0,u64 0,u64 0,u64 0,u64 0,u64 0,u64 0,u64 0,u64 0,u64 0,u64 0,u64 0,u64 0],())
structure okE (n:Nat) (e:En'):Prop where
 id:e.id=0∨e.id=1
 key:e.key.length≤1000
 ph:0≤e.ph∧e.ph≤8
 store:qKz e.store
 own:jM e.own
 oth:jM e.oth
 seq:jM e.seq
 ring:qyB e.ring
 up:e.hub.1.length=4
 next:0≤e.hub.2.2.2.1∧e.hub.2.2.2.1 < 4
 out:e.out.length≤n
 got:e.got.length≤n
 cnt:e.cnt.length=4
 win:e.win.2.1.length=16
 feed:e.hub.2.1.length=4
 life:e.hub.2.2.1.length=4
 queue:e.queue.length≤1000
structure okS (n:Nat) (s:Si):Prop where
 e:okE n s.e
 p:s.p.2.1.length≤n
def qgI (e:En'):List Int:=if e.id=0 then [e.own,e.oth] else if e.id=1 then [e.oth,e.own] else [0,0]
theorem qdU (hi n:Int):qbL (hi,[n],())=some (D (0≤n∧n≤hi),()):=by
 unfold qbL
 dsimp only
 by_cases h:0≤n∧n≤hi
 ·rw [D_t h]
  refine (zC (vP (y:=(false,1,())) ?_)).trans ((zC (qT (y:=(false,1,())) (k:=0) rfl)).trans rfl)
  refine (qC rfl).trans ((qH rfl).trans ?_)
  dsimp only
  rw [show nth [n] (nat 0) 0=n from rfl]
  simp (disch:=omega) only [go_sem,Int.reduceToNat]
  rfl
 ·rw [D_f h]
  refine (zC (qeV (r:=(false,())) ?_)).trans rfl
  refine (qC rfl).trans ((qH rfl).trans ?_)
  dsimp only
  rw [show nth [n] (nat 0) 0=n from rfl]
  refine (qF (a:=(true,())) (by simp only [go_sem,Int.reduceToNat];try exact qnJ (by omega))).trans ?_
  rfl
theorem qcQ (e:En'):yN (e.t,())=some (qgI e,()):=by
 unfold yN qgI
 dsimp only [En'.t]
 rw [qdU]
 by_cases h0:e.id=0
 ·rw [h0,D_t (by omega),if_pos rfl];rfl
 ·rw [if_neg h0]
  by_cases h1:e.id=1
  ·rw [h1,D_t (by omega),if_pos rfl];rfl
  ·rw [if_neg h1,D_f (by omega)];rfl
theorem qp4 (e:En'):qhP (e.t,())=some (qgI e,()):=by
 unfold qhP qgI
 dsimp only [En'.t]
 by_cases h0:e.id=0
 ·rw [h0,if_pos rfl];rfl
 ·rw [if_neg h0]
  by_cases h1:e.id=1
  ·rw [h1,if_pos rfl];rfl
  ·rw [if_neg h1];simp (disch:=omega) only [go_sem,Int.reduceToNat]
def qHV (key:BB):BB:=qrH key [98,97,115,101] []
theorem qAu (key:BB):(qHV key).length=32:=qi1 _ _ _
theorem qsS (key:BB) (h:key.length≤1000000):qgQ (key,())=some (qHV key,()):=by
 unfold qgQ
 dsimp only
 rw [qqU _ _ _ h (by decide) (by decide) (by simp [none'])];rfl
def keyD (key:BB) (p:List Int) (gen:Int) (nonce:BB):BB :=
 if jM (nth p 0 0)∧jM (nth p 1 0)∧0≤gen∧gen≤2147483647 then qrH key [108,105,110,107] [bigN 8 (nth p 0 0),bigN 8 (nth p 1 0),bigN 4 gen,nonce] else []
theorem qdC (n:Int):wX (n,())=some (D (jM n),()):=by
 unfold wX jM
 simp only [go_sem,Int.reduceToNat]
theorem qI6 {n:Int} {w:Int} (hw:w=8∨w=4) (h:0≤n∧n < 256 ^ w.toNat) (hn:n≤9223372036854775807):wY (n,w,())=some (bigN w.toNat n,0,()):=by
 rw [qiT _ _ hn,if_pos ⟨by omega,by omega,h.1,h.2⟩];rfl
theorem qFS {a b:BB} {c nonce:BB} (ha:a.length=8) (hb:b.length=8) (hc:c.length=4) (hn:nonce.length≤1000):∀ p∈[a,b,c,nonce],p.length≤1000:=by
 intro p hp
 simp only [List.mem_cons,List.not_mem_nil,or_false] at hp
 rcases hp with rfl | rfl | rfl | rfl <;> omega
theorem p8 {n:Int} (h:jM n):0≤n∧n < 256 ^ (8:Int).toNat:=⟨h.1,by have:=h.2;show n < 256 ^ 8;omega⟩
theorem qiQ (key:BB) (p:List Int) (gen:Int) (nonce:BB) (hk:key.length≤1000000) (hn:nonce.length≤1000):qdE (key,p,gen,nonce,())=some (keyD key p gen nonce,()):=by
 unfold qdE keyD
 refine (qH rfl).trans ?_
 dsimp only
 rw [show nat 0=0 from rfl,show nat 1=1 from rfl]
 generalize nth p 0 0=x
 generalize nth p 1 0=y
 rw [qdC]
 refine (qF rfl).trans ((qH rfl).trans ?_)
 rw [qdC]
 refine (qF rfl).trans ?_
 by_cases h:jM x∧jM y∧0≤gen∧gen≤2147483647
 ·obtain ⟨h1,h2,h3,h4⟩:=h
  rw [if_pos ⟨h1,h2,h3,h4⟩]
  refine (qF (a:=(false,())) (by rw [D_t h1,D_t h2];simp only [go_sem,Int.reduceToNat];try exact quY (by omega))).trans ?_
  refine (qB rfl).trans ((qH rfl).trans ?_)
  rw [qI6 (.inl rfl) (p8 h1) (by have:=h1.2;omega)]
  refine (qF rfl).trans ((qH rfl).trans ?_)
  rw [qI6 (.inl rfl) (p8 h2) (by have:=h2.2;omega)]
  refine (qF rfl).trans ?_
  rw [qI6 (.inr rfl) ⟨h3,by show gen < 256 ^ 4;omega⟩ (by omega)]
  refine (qF rfl).trans ?_
  dsimp only
  rw [show (8:Int).toNat=8 from rfl,show (4:Int).toNat=4 from rfl,qmR key [108,105,110,107] _ hk (by simp) (by simp) (qFS (zJ _ _) (zJ _ _) (zJ _ _) hn)];rfl
 ·rw [if_neg h]
  refine (qF (a:=(true,())) ?_).trans rfl
  by_cases h1:jM x
  ·by_cases h2:jM y
   ·rw [D_t h1,D_t h2]
    have h3:¬ (0≤gen∧gen≤2147483647):=fun h3=>h ⟨h1,h2,h3⟩
    simp only [go_sem,Int.reduceToNat];try exact qnJ (by omega)
   ·rw [D_t h1,D_f h2];rfl
  ·rw [D_f h1];rfl
theorem qBb {key:BB} {p:List Int} {gen:Int} {nonce:BB} (h:jM (nth p 0 0)∧jM (nth p 1 0)∧0≤gen∧gen≤2147483647):(keyD key p gen nonce).length=32:=by
 unfold keyD;rw [if_pos h,qi1]
def qHu (e:En') (p:Int):En':={ e with ph:=p,own:=0,oth:=0,seq:=0,win:=noW,ring:=noR,ask:=noA,queue:=[],got:=if jN e.ph then e.got++[(5,qgI e,0,[],())] else e.got }
theorem qDZ (l:List EvT):zQ (l,())=some (l,()):=by
 unfold zQ
 dsimp only
 rw [qAG]
 exact qH (qBv l)
theorem qD0 (l:List qH1):zU (l,())=some (l,()):=by
 unfold zU
 dsimp only
 rw [qAG]
 exact qH (qBv l)
theorem qsH (e:En') (k:Int) (p:List Int) (s:Int) (b:BB) (hg:e.got.length≤1000000):qkP (e.t,k,p,s,b,())=some (({ e with got:=e.got++[(k,p,s,b,())] }:En').t,()):=by
 unfold qkP
 dsimp only [En'.t]
 refine (qH (by simp only [go_sem,Int.reduceToNat];omega)).trans ?_
 refine (qH (by simp only [go_sem,Int.reduceToNat];simp;omega)).trans ?_
 rfl
theorem qp5 (e:En') (p:Int) (hg:e.got.length≤1000000):qhQ (e.t,p,())=some ((qHu e p).t,()):=by
 unfold qhQ qHu
 rw [show (e.t,p,()).1.2.2.1=e.ph from rfl,qmO]
 refine (qF rfl).trans ?_
 by_cases h:jN e.ph
 ·rw [D_t h,if_pos h]
  refine (qC rfl).trans ?_
  dsimp only
  rw [qp4]
  refine (qF rfl).trans ?_
  dsimp only
  rw [show (none' UInt8:BB)=[] from rfl,qsH _ _ _ _ _ hg]
  rfl
 ·rw [D_f h,if_neg h];rfl
theorem bq_f {a b:Int} (h:a=b):bnot (beq a b)=false:=by rw [qc0 h];rfl
theorem bq_t {a b:Int} (h:¬ a=b):bnot (beq a b)=true:=by rw [v5 h];rfl
theorem qtX {r:qo3} (h:qyB r):0≤r.1.1∧r.1.1≤2147483647∧r.1.2.1.length≤32:=by
 rcases h with rfl | ⟨⟨h1,h2,h3⟩,_⟩
 ·exact ⟨by decide,by decide,by decide⟩
 ·omega
def qjT (s:Si) (v:TEnv) (key:BB):Si×Int :=
 if (kL s.e.hub).2.2.1=0 then
  (⟨{ s.e with hub:=(kL s.e.hub).1,out:=s.e.out++[((kL s.e.hub).2.1,vG (zF v++qc9 key (zF v)),())] },ptag s.p key (zF v)⟩,0)
 else (s,(kL s.e.hub).2.2.1)
theorem qiW {s:Si} {n:Nat} (hs:okS n s) (hn:n≤900000) (v:TEnv) (hv:qfK v) (key:BB) (hk:key.length≤1000000):qgP (s.t,v,key,())=some ((qjT s v key).1.t,(qjT s v key).2,()):=by
 unfold qgP qjT
 dsimp only [Si.t,En'.t]
 have hp:=hs.p
 have ho:=hs.e.out
 rw [qvV _ hs.e.up hs.e.next]
 refine (qF rfl).trans ?_
 by_cases hh:(kL s.e.hub).2.2.1=0
 ·rw [if_pos hh]
  refine (qB (by simp only [go_sem,Int.reduceToNat];exact not_not_intro hh)).trans ?_
  rw [qiZ _ hv]
  refine (qF rfl).trans ?_
  have hb:=hv.2.2.2.2.2.2
  have hl:=x3 v
  dsimp only
  rw [qu8 _ _ _ (by omega) hk (by omega)]
  refine (qF rfl).trans ?_
  dsimp only
  have ht:=qaU key (zF v)
  rw [qsZ (v.1,v.2.1,v.2.2.1,v.2.2.2.1,v.2.2.2.2.1,v.2.2.2.2.2.1,qc9 key (zF v),v.2.2.2.2.2.2.2) ⟨hv,ht⟩]
  refine (qF rfl).trans ?_
  dsimp only
  rw [show zF (v.1,v.2.1,v.2.2.1,v.2.2.2.1,v.2.2.2.2.1,v.2.2.2.2.2.1,qc9 key (zF v),v.2.2.2.2.2.2.2)=zF v from rfl,qq9 _ (by rw [List.length_append];omega)]
  refine (qF rfl).trans ?_
  rw [qD0]
  refine (qF rfl).trans ?_
  refine (qH (by simp only [go_sem,Int.reduceToNat];simp;omega)).trans ?_
  rfl
 ·rw [if_neg hh]
  refine (qC (by simp only [go_sem,Int.reduceToNat];exact hh)).trans ?_
  rfl
def kJ (e:En') (body:BB):TEnv:=(2,e.id,qgI e,e.ring.1.1,e.seq,body,[],())
def setV (e:En') (other:Int) (body:BB):TEnv:=(1,e.id,qgI { e with oth:=other },0,0,body,[],())
def qbV (b:BB):Prop:=1≤b.length∧b.length≤900
instance (b:BB):Decidable (qbV b):=by unfold qbV;infer_instance
theorem qvC {e:En'} (h1:jM e.own) (h2:jM e.oth):jM (nth (qgI e) 0 0)∧jM (nth (qgI e) 1 0):=by
 unfold qgI
 split
 ·exact ⟨h1,h2⟩
 split
 ·exact ⟨h2,h1⟩
 ·exact ⟨by decide,by decide⟩
theorem qjF {n:Nat} {e:En'} (h:okE n e) {body:BB} (hb:qbV body):qfK (kJ e body):=by
 have hr:=qtX h.ring
 exact ⟨.inr rfl,(qvC h.own h.oth).1,(qvC h.own h.oth).2,h.seq,h.id,⟨hr.1,hr.2.1⟩,hb.1,hb.2⟩
theorem qDz {n:Nat} {e:En'} (h:okE n e) {o:Int} (ho:jM o) {body:BB} (hb:qbV body):qfK (setV e o body):=by
 have:=qvC (e:={ e with oth:=o }) h.own ho
 exact ⟨.inl rfl,this.1,this.2,by show jM 0;decide,h.id,⟨by show (0:Int)≤0;decide,by show (0:Int)≤2147483647;decide⟩,hb.1,hb.2⟩
def qaR (s:Si) (body:BB):Si×Int :=
 if ¬ qbV body then (s,1) else if ¬ jN s.e.ph then (s,7) else if s.e.seq=4611686018427387904 then (s,10)
 else let r:=qjT s (kJ s.e body) s.e.ring.1.2.1;if r.2=0 then (⟨{ r.1.e with seq:=r.1.e.seq+1 },r.1.p⟩,0) else r
theorem qzL (s:Si) (v:TEnv) (key:BB):(qjT s v key).1.e.seq=s.e.seq:=by unfold qjT;split <;> rfl
theorem qcP (b:BB):qgO (b,())=some (D (qbV b),()):=by
 unfold qgO qbV
 simp only [go_sem,Int.reduceToNat]
 exact jI (by omega)
theorem qEI {s:Si} {r:Si×Int} (hseq:jM r.1.e.seq) (h10:¬ r.1.e.seq=4611686018427387904) :
    (ob (some (r.1.t,r.2,())) fun (a:y2×Int×Unit) =>
   sel (beq a.2.1 0) (some (((a.1.1.1,a.1.1.2.1,a.1.1.2.2.1,a.1.1.2.2.2.1,a.1.1.2.2.2.2.1,a.1.1.2.2.2.2.2.1,a.1.1.2.2.2.2.2.2.1,a.1.1.2.2.2.2.2.2.2.1,i64 (iadd a.1.1.2.2.2.2.2.2.2.2.1 1),a.1.1.2.2.2.2.2.2.2.2.2),a.1.2),a.2.1,())) (some (a.1,a.2.1,()))) =
      some ((if r.2=0 then (⟨{ r.1.e with seq:=r.1.e.seq+1 },r.1.p⟩,0) else r:Si×Int).1.t,(if r.2=0 then (⟨{ r.1.e with seq:=r.1.e.seq+1 },r.1.p⟩,0) else r:Si×Int).2,()):=by
  obtain ⟨⟨e,p⟩,c⟩:=r
  refine (qF rfl).trans ?_
  by_cases h:c=0
  · subst h
    rw [if_pos rfl]
    refine (qC rfl).trans ?_
    dsimp only [Si.t,En'.t] at hseq ⊢
    obtain ⟨q1,q2⟩:=hseq
    rw [show i64 (iadd e.seq 1)=e.seq+1 from z8 (by show -9223372036854775808≤e.seq+1;omega) (by show e.seq+1≤9223372036854775807;omega)]
  · rw [if_neg h]
    refine (qB (by simp only [go_sem,Int.reduceToNat];exact h)).trans ?_
    rfl
theorem vD {s:Si} {n:Nat} (hs:okS n s) (hn:n≤900000) (b:BB):yM (s.t,b,())=some ((qaR s b).1.t,(qaR s b).2,()):=by
 unfold yM qaR
 dsimp only
 rw [qcP]
 refine (qF rfl).trans ?_
 by_cases hb:qbV b
 ·rw [D_t hb,if_neg (not_not_intro hb)]
  refine (qB rfl).trans ?_
  rw [show s.t.1.2.2.1=s.e.ph from rfl,qmT]
  refine (qF rfl).trans ?_
  by_cases hl:jN s.e.ph
  ·rw [D_t hl,if_neg (not_not_intro hl)]
   refine (qB rfl).trans ?_
   by_cases hq:s.e.seq=4611686018427387904
   ·rw [if_pos hq]
    exact qC (by simp only [go_sem,Int.reduceToNat];exact hq)
   ·rw [if_neg hq]
    refine (qB (by simp only [go_sem,Int.reduceToNat];exact hq)).trans ?_
    rw [show yN (s.t.1,())=_ from qcQ s.e]
    refine (qF rfl).trans ?_
    have hv:=qjF hs.e hb
    have hk:=(qtX hs.e.ring).2.2
    have hem:=qiW hs hn _ hv s.e.ring.1.2.1 (by omega)
    have h1:=qzL s (kJ s.e b) s.e.ring.1.2.1
    exact Eq.trans (qX hem) (qEI (s:=s) (r:=qjT s (kJ s.e b) s.e.ring.1.2.1) (by rw [h1];exact hs.e.seq) (by rw [h1];exact hq))
  ·rw [D_f hl,if_pos hl];rfl
 ·rw [D_f hb,if_pos hb];rfl
def qtV (s:Si) (other:Int) (body:BB):Si×Int:=if jM other∧qbV body then qjT s (setV s.e other body) (qHV s.e.key) else (s,1)
theorem qqW {s:Si} {n:Nat} (hs:okS n s) (hn:n≤900000) (o:Int) (b:BB):qh5 (s.t,o,b,())=some ((qtV s o b).1.t,(qtV s o b).2,()):=by
 unfold qh5 qtV
 dsimp only
 rw [qdU]
 refine (qF rfl).trans ?_
 by_cases hb:jM o∧qbV b
 ·rw [if_pos hb,D_t (show 0≤o∧o≤4611686018427387904 from hb.1)]
  refine (qF (a:=(false,())) ((qB rfl).trans (by rw [qcP,D_t hb.2];rfl))).trans ?_
  refine (qB rfl).trans ?_
  have hp:=qcQ { s.e with oth:=o }
  refine (qX (show yN ((s.t.1.1,s.t.1.2.1,s.t.1.2.2.1,s.t.1.2.2.2.1,s.t.1.2.2.2.2.1,s.t.1.2.2.2.2.2.1,o,s.t.1.2.2.2.2.2.2.2),())=_ from hp)).trans ?_
  refine (qF rfl).trans ?_
  have hk:=hs.e.key
  rw [show qgQ (s.t.1.2.1,())=_ from qsS s.e.key (by omega)]
  refine (qF rfl).trans ?_
  have hem:=qiW hs hn _ (qDz hs.e hb.1 hb.2) (qHV s.e.key) (by rw [qAu];omega)
  exact (qX hem).trans rfl
 ·rw [if_neg hb]
  refine (qF (a:=(true,())) ?_).trans rfl
  by_cases h1:jM o
  ·rw [D_t (show 0≤o∧o≤4611686018427387904 from h1)]
   refine (qB rfl).trans ?_
   rw [qcP,D_f (fun h=>hb ⟨h1,h⟩)];rfl
  ·rw [D_f (show ¬ (0≤o∧o≤4611686018427387904) from h1)];rfl
def qLI (c:List Int) (i:Nat):List Int:=upd c i (i64 (iadd (nth c i 0) 1))
def qrK (s:Si) (i:Nat):Si:=⟨{ s.e with cnt:=qLI s.e.cnt i },s.p⟩
theorem qyY (s:Si):kT (s.t,13,())=some ((qrK s 3).t,()):=by
 unfold kT
 exact (zC (qjN 5 rfl)).trans rfl
theorem qpA {n m:Nat} {e:En'} (h:okE n e) (hm:n≤m):okE m e:={ h with out:=Nat.le_trans h.out hm,got:=Nat.le_trans h.got hm }
theorem qaX {n m:Nat} {s:Si} (h:okS n s) (hm:n≤m):okS m s:=⟨qpA h.e hm,Nat.le_trans h.p hm⟩
theorem qvB (h:THub):(kL h).1.1=h.1:=by unfold kL;split <;> rfl
theorem qDI (h:THub):(kL h).1.2.1=h.2.1:=by unfold kL;split <;> rfl
theorem qDH (h:THub):(kL h).1.2.2.1=h.2.2.1:=by unfold kL;split <;> rfl
theorem qmS {h:THub} (hn:0≤h.2.2.2.1∧h.2.2.2.1 < 4):0≤(kL h).1.2.2.2.1∧(kL h).1.2.2.2.1 < 4:=by
 unfold kL
 split
 ·exact hn
 ·rename_i c _
  show (0:Int)≤((c+1) % 4:Nat)∧(((c+1) % 4:Nat):Int) < 4
  omega
theorem qCO {n:Nat} {s:Si} (h:okS n s) (v:TEnv) (key:BB):okS (n+1) (qjT s v key).1:=by
 unfold qjT
 split
 ·refine ⟨{ h.e with up:=(by rw [← h.e.up];exact congrArg List.length (qvB s.e.hub)),next:=qmS h.e.next,feed:=(by rw [← h.e.feed];exact congrArg List.length (qDI s.e.hub)),life:=(by rw [← h.e.life];exact congrArg List.length (qDH s.e.hub)),out := ?_,got:=Nat.le_succ_of_le h.e.got }, ?_⟩
  ·have:=h.e.out
   simp only [List.length_append,List.length_cons,List.length_nil];omega
  ·have:=qKF s.p key (zF v)
   have:=h.p
   show (ptag s.p key (zF v)).2.1.length≤n+1
   omega
 ·exact qaX h (by omega)
theorem qCN {n:Nat} {s:Si} (h:okS n s) (b:BB):okS (n+1) (qaR s b).1:=by
 unfold qaR
 split
 ·exact qaX h (by omega)
 split
 ·exact qaX h (by omega)
 split
 ·exact qaX h (by omega)
 ·rename_i h1 h2 h3
  have h4:=qCO h (kJ s.e b) s.e.ring.1.2.1
  have h5:=qzL s (kJ s.e b) s.e.ring.1.2.1
  dsimp only
  split
  ·refine ⟨{ h4.e with seq := ?_ },h4.p⟩
   have:=h.e.seq
   show jM (_+1)
   rw [h5]
   unfold jM at *
   omega
  ·exact h4
theorem qFq {n:Nat} {s:Si} (h:okS n s) (o:Int) (b:BB):okS (n+1) (qtV s o b).1:=by
 unfold qtV
 split
 ·exact qCO h _ _
 ·exact qaX h (by omega)
def quQ (s:Si) (q:wO):Si:=⟨{ s.e with stan:=qaO s.e.stan,ask:=(qi7 q.2.1 (qaO s.e.stan) (wrN (q.1,q.2.1,qaO s.e.stan,q.2.2.2)).1).1 },s.p⟩
def qqJ (s:Si) (q:wO):Si :=
 if (wrN (q.1,q.2.1,qaO s.e.stan,q.2.2.2)).2.1=0∧(qi7 q.2.1 (qaO s.e.stan) (wrN (q.1,q.2.1,qaO s.e.stan,q.2.2.2)).1).2.1=0 then
  (if q.2.1=1 then (qtV (quQ s q) 0 (wrN (q.1,q.2.1,qaO s.e.stan,q.2.2.2)).1).1 else (qaR (quQ s q) (wrN (q.1,q.2.1,qaO s.e.stan,q.2.2.2)).1).1)
 else s
theorem qmV {n:Nat} {s:Si} (h:okS n s) (q:wO):okS n (quQ s q):=⟨{ h.e with },h.p⟩
theorem qFr {n:Nat} {s:Si} (h:okS n s) (q:wO):okS (n+1) (qqJ s q):=by
 unfold qqJ
 split
 ·split
  ·exact qFq (qmV h q) _ _
  ·exact qCN (qmV h q) _
 ·exact qaX h (by omega)
theorem qj8 {s:Si} {n:Nat} (hs:okS n s) (hn:n≤900000) (q:wO):qaP (s.t,q,())=some ((qqJ s q).t,()):=by
 unfold qaP qqJ
 dsimp only
 rw [show s.t.1.2.2.2.2.2.2.2.2.2.2.2.2.1=s.e.stan from rfl,qw5]
 refine (qF rfl).trans ?_
 dsimp only
 rw [qgJ]
 have hok:=qmV hs q
 have hset:=qqW hok hn 0 (wrN (q.1,q.2.1,qaO s.e.stan,q.2.2.2)).1
 have hsend:=vD hok hn (wrN (q.1,q.2.1,qaO s.e.stan,q.2.2.2)).1
 unfold quQ at hset hsend ⊢
 generalize wrN (q.1,q.2.1,qaO s.e.stan,q.2.2.2)=w at hset hsend ⊢
 obtain ⟨b,we,⟨⟩⟩:=w
 refine (qF rfl).trans ?_
 dsimp only at hset hsend ⊢
 rw [qtJ]
 generalize qi7 q.2.1 (qaO s.e.stan) b=a at hset hsend ⊢
 obtain ⟨a,ae,⟨⟩⟩:=a
 refine (qF rfl).trans ?_
 dsimp only at hset hsend ⊢
 by_cases h:we=0∧ae=0
 ·obtain ⟨rfl,rfl⟩:=h
  rw [if_pos ⟨rfl,rfl⟩]
  refine (qF (a:=(false,())) rfl).trans ((qB rfl).trans ?_)
  by_cases hc:q.2.1=1
  ·rw [if_pos hc]
   refine (qC (by simp only [go_sem,Int.reduceToNat];exact hc)).trans ?_
   exact (qX hset).trans rfl
  ·rw [if_neg hc]
   refine (qB (by simp only [go_sem,Int.reduceToNat];exact hc)).trans ?_
   exact (qX hsend).trans rfl
 ·rw [if_neg h]
  refine (qF (a:=(true,())) ?_).trans rfl
  by_cases h1:we=0
  ·have h2:¬ ae=0:=fun h2=>h ⟨h1,h2⟩
   exact (qB (by rw [h1];rfl)).trans (by rw [show beq ae 0=false from v5 h2];rfl)
  ·exact qC (by rw [show beq we 0=false from v5 h1];rfl)
def qFp (e:En'):En':={ e with ph:=3,ask:=noA }
def qEY (n:wO) (res:Int):BB:=(wrN (ansN n res).1).1
theorem qHX {s:Si} {m:Nat} (hs:okS m s) (hm:m≤900000) (n:wO) (res:Int) :
  (ob (qbJ (n,res,())) fun (a:wO×Int×Unit)=>ob (qa1 (a.1,())) fun (b:BB×Int×Unit)=>ob (yM (s.t,b.1,())) fun (c:y2×Int×Unit)=>(some (c.1,()):Option (y2×Unit)))=some ((qaR s (qEY n res)).1.t,()):=by
 rw [qoW]
 refine (qF rfl).trans ?_
 rw [qgJ]
 refine (qF rfl).trans ?_
 exact (qX (vD hs hm (qEY n res))).trans rfl
theorem qd5 (s:Si):(ob (kT (s.t,13,())) fun (a:y2×Unit)=>(some (a.1,()):Option (y2×Unit)))=some ((qrK s 3).t,()):=(qX (qyY s)).trans rfl
instance (a:TAsk) (c s:Int):Decidable (qt5 a c s):=by unfold qt5;infer_instance
abbrev FT:=BB×Int×Int×Unit
def noF:FT:=([],0,0,())
theorem qCR (c:UInt8):0≤n8 c∧n8 c < 256:=by have:=c.toNat_lt;unfold n8;omega
theorem qqA (a b:FT):qhW (a,b,())=some (D (a=b),()):=by
 obtain ⟨x,y,z,⟨⟩⟩:=a
 obtain ⟨x',y',z',⟨⟩⟩:=b
 unfold qhW
 simp only [go_sem,Int.reduceToNat,qY]
 refine jI ?_
 simp only [Prod.mk.injEq,and_true,and_assoc]
theorem qvU (h:THub) (h1:h.1.length=4) (h2:h.2.1.length=4) (h3:h.2.2.1.length=4):qhV (h,h,())=some (true,()):=by
 unfold qhV
 dsimp only
 generalize hf:(fun (x_1:Bool×Int×Unit)=>(_:Option (LS (Bool×Int×Unit) (Bool×Unit))))=f
 have step:∀ i:Nat,i < 4→f (false,(i:Int),())=some (.nx (false,((i+1:Nat):Int),())):=by
  intro i hi
  subst hf
  have hi':i64 (iadd (i:Int) 1)=((i+1:Nat):Int):=i64n (by show (i:Int)+1=_;omega) (by omega)
  refine (qC (by simp (disch:=omega) only [go_sem,Int.reduceToNat];omega)).trans ?_
  dsimp only
  rw [hi']
  simp (disch:=omega) only [go_sem,Int.reduceToNat,qqA]
 have hend:f (false,((4:Nat):Int),())=some (.ex 0 (false,((4:Nat):Int),())):=by subst hf;exact qB rfl
 have hloop:=(qL (f:=f) (fun i=>(false,(i:Int),())) 4 step 0 (Nat.zero_le _)).trans (qT hend)
 refine (zC (show loop f (false,0,())=_ from hloop)).trans ?_
 refine (qH g62).trans ?_
 simp (disch:=omega) only [go_sem,Int.reduceToNat]
theorem kH (a:Int):beq a a=true:=qc0 rfl
theorem qeF (a:BB):seq a a=true:=qAQ rfl
theorem qyA (q:List BB) (hq:q.length≤1000000):wA (q,q,())=some (true,()):=by
 unfold wA
 dsimp only
 rw [kH]
 refine (qB rfl).trans ?_
 generalize hf:(fun (x_1:Bool×Int×Unit)=>(_:Option (LS (Bool×Int×Unit) (Bool×Unit))))=f
 have step:∀ i:Nat,i < q.length→f (false,(i:Int),())=some (.nx (false,((i+1:Nat):Int),())):=by
  intro i hi
  subst hf
  have hi':i64 (iadd (i:Int) 1)=((i+1:Nat):Int):=i64n (by show (i:Int)+1=_;omega) (by omega)
  refine (qC (by simp only [go_sem,Int.reduceToNat];omega)).trans ((qH (by simp only [go_sem,Int.reduceToNat];omega)).trans ((qH (by simp only [go_sem,Int.reduceToNat];omega)).trans ?_))
  dsimp only
  rw [hi',qeF];rfl
 have hend:f (false,(q.length:Int),())=some (.ex 0 (false,(q.length:Int),())):=by subst hf;exact qB (by simp only [go_sem,Int.reduceToNat];omega)
 have hloop:=(qL (f:=f) (fun i=>(false,(i:Int),())) q.length step 0 (Nat.zero_le _)).trans (qT hend)
 exact (zC (show loop f (false,0,())=_ from hloop)).trans (qH g62)
theorem qEH (q:List qH1) (hq:q.length≤1000000):qhO (q,q,())=some (true,()):=by
 unfold qhO
 dsimp only
 rw [kH]
 refine (qB rfl).trans ?_
 generalize hf:(fun (x_1:Bool×Int×Unit)=>(_:Option (LS (Bool×Int×Unit) (Bool×Unit))))=f
 have step:∀ i:Nat,i < q.length→f (false,(i:Int),())=some (.nx (false,((i+1:Nat):Int),())):=by
  intro i hi
  subst hf
  have hi':i64 (iadd (i:Int) 1)=((i+1:Nat):Int):=i64n (by show (i:Int)+1=_;omega) (by omega)
  have hc:inB (i:Int) (len q)=true:=by simp only [go_sem,Int.reduceToNat];omega
  refine (qC (by simp only [go_sem,Int.reduceToNat];omega)).trans ((qH hc).trans ((qH hc).trans ?_))
  dsimp only
  rw [hi',kH,hc]
  refine (qF (a:=(false,())) ((qB rfl).trans ((qH rfl).trans ((qH rfl).trans ?_)))).trans rfl
  rw [qY,qeF];rfl
 have hend:f (false,(q.length:Int),())=some (.ex 0 (false,(q.length:Int),())):=by subst hf;exact qB (by simp only [go_sem,Int.reduceToNat];omega)
 have hloop:=(qL (f:=f) (fun i=>(false,(i:Int),())) q.length step 0 (Nat.zero_le _)).trans (qT hend)
 exact (zC (show loop f (false,0,())=_ from hloop)).trans (qH g62)
theorem qBm (q:List EvT) (hq:q.length≤1000000):qbX (q,q,())=some (true,()):=by
 unfold qbX
 dsimp only
 rw [kH]
 refine (qB rfl).trans ?_
 generalize hf:(fun (x_1:Bool×Int×Unit)=>(_:Option (LS (Bool×Int×Unit) (Bool×Unit))))=f
 have step:∀ i:Nat,i < q.length→f (false,(i:Int),())=some (.nx (false,((i+1:Nat):Int),())):=by
  intro i hi
  subst hf
  have hi':i64 (iadd (i:Int) 1)=((i+1:Nat):Int):=i64n (by show (i:Int)+1=_;omega) (by omega)
  have hc:inB (i:Int) (len q)=true:=by simp only [go_sem,Int.reduceToNat];omega
  refine (qC (by simp only [go_sem,Int.reduceToNat];omega)).trans ((qH hc).trans ((qH hc).trans ?_))
  dsimp only
  rw [hi',hc]
  generalize nth q (nat (i:Int)) (0,[0,0],0,none' UInt8,())=e
  rw [kH,kH,kH,kH,qY,qeF]
  rfl
 have hend:f (false,(q.length:Int),())=some (.ex 0 (false,(q.length:Int),())):=by subst hf;exact qB (by simp only [go_sem,Int.reduceToNat];omega)
 have hloop:=(qL (f:=f) (fun i=>(false,(i:Int),())) q.length step 0 (Nat.zero_le _)).trans (qT hend)
 exact (zC (show loop f (false,0,())=_ from hloop)).trans (qH g62)
theorem qAv:∀ l:List UInt64,all2 (fun (p q:UInt64)=>beq (n64 p) (n64 q)) l l=true
 | []=>rfl
 | a :: l=>by
  have ih:=qAv l
  unfold all2 at ih ⊢
  rw [List.zip_cons_cons,List.all_cons,ih,Bool.and_true]
  exact kH _
theorem quS:∀ l:List Int,all2 (fun (p q:Int)=>beq p q) l l=true
 | []=>rfl
 | a :: l=>by
  have ih:=quS l
  unfold all2 at ih ⊢
  rw [List.zip_cons_cons,List.all_cons,ih,Bool.and_true]
  exact kH _
theorem qEL {n:Nat} {e:En'} (h:okE n e) (hn:n≤1000000):qdD (e.t,e.t,())=some (true,()):=by
 unfold qdD
 dsimp only
 rw [qp8]
 refine (qF rfl).trans ?_
 rw [qp9]
 refine (qF rfl).trans ?_
 rw [qp7]
 refine (qF rfl).trans ?_
 have hq:=h.queue
 have ho:=h.out
 have hg:=h.got
 rw [show e.t.2.2.2.2.2.2.2.2.2.2.2.2.2.2.1=e.queue from rfl,qyA e.queue (by omega)]
 refine (qF rfl).trans ?_
 rw [show e.t.2.2.2.2.2.2.2.2.2.2.2.2.2.2.2.1=e.hub from rfl,qvU e.hub h.up h.feed h.life]
 refine (qF rfl).trans ?_
 rw [show e.t.2.2.2.2.2.2.2.2.2.2.2.2.2.2.2.2.1=e.out from rfl,qEH e.out (by omega)]
 refine (qF rfl).trans ?_
 rw [show e.t.2.2.2.2.2.2.2.2.2.2.2.2.2.2.2.2.2.1=e.got from rfl,qBm e.got (by omega)]
 refine (qF rfl).trans ?_
 dsimp only
 rw [qY,qeF,qAv,quS]
 simp only [kH]
 rfl
theorem qxU {n:Nat} {s:Si} (h:okS n s) (hn:n≤1000000):vB (s.t,s.t,())=some (true,()):=by
 unfold vB
 dsimp only
 rw [show qdD (s.t.1,s.t.1,())=_ from qEL h.e hn]
 refine (qF rfl).trans ?_
 have hp:=h.p
 rw [show qdI (s.t.2.1,s.t.2.1,())=_ from qqF s.p (by omega)]
 rfl
theorem qtQ {A B C:BB} {a w:Nat} (hA:A.length=a) (hB:B.length=w):tk (A++(B++C)) a w=B:=by
 unfold tk
 rw [← hA,List.drop_left,← hB,List.take_left]
theorem qDx {b:BB} {A W:Nat} {n:Int} (hW1:1≤W) (hW:W≤8) (hl:A+W≤b.length) (h0:0≤n) (hn:n < 256 ^ W) (hL:n≤4611686018427387904) (ht:tk b A W=bigN W n):qi9 b (A:Int) (W:Int)=(n,((A+W:Nat):Int),0,()):=by
 have hv:bev (tk b A W)=n.toNat:=by
  rw [ht];unfold bigN
  rw [qLl,Nat.mod_eq_of_lt]
  have:((n.toNat:Nat):Int) < ((256 ^ W:Nat):Int):=by rw [Int.toNat_of_nonneg h0];push_cast;exact hn
  exact Int.ofNat_lt.1 this
 unfold qi9
 rw [if_neg (by omega),if_neg (by omega),if_neg]
 ·rw [Int.toNat_natCast,Int.toNat_natCast,hv]
  refine Prod.ext (by dsimp only;omega) (Prod.ext (by dsimp only;omega) rfl)
 ·rintro ⟨h8,h127⟩
  have hW8:W=8:=by omega
  subst hW8
  rw [Int.toNat_natCast] at h127
  have hg:nth b A (u8 0)=(bigN 8 n)[0]'(by rw [zJ];omega):=by
   have h1:0 < (tk b A 8).length:=by rw [vM hl];omega
   have h2:(tk b A 8)[0]=b[A]:=qCh h1 (by omega)
   rw [qM (by omega:A < b.length)]
   rw [← h2];simp only [ht]
  rw [hg] at h127
  unfold bigN at h127
  rw [qCF] at h127
  unfold byt at h127
  have hq:n.toNat / 256 ^ 7 % 256≤127:=by
   have:n.toNat≤4611686018427387904:=by omega
   have e:256 ^ 7=72057594037927936:=by decide
   rw [e];omega
  rw [show 8 - 1 - 0=7 from rfl,UInt8.toNat_ofNat_of_lt' (by show _ < 256;omega)] at h127
  omega
def tkI (b:BB) (a w:Int):Int:=if (qi9 b a w).2.2.1=0 then (qi9 b a w).1 else -1
theorem xI (b:BB) (a w:Int) (hb:b.length≤1000000):vY (b,a,w,())=some (tkI b a w,()):=by
 unfold vY tkI
 dsimp only
 rw [qkU _ _ _ hb]
 refine (qF rfl).trans ?_
 by_cases h:(qi9 b a w).2.2.1=0
 ·rw [if_pos h];exact qB (bq_f h)
 ·rw [if_neg h];exact qC (bq_t h)
def noV:TEnv:=(0,0,[0,0],0,0,[],[],())
def rdV0 (b:BB):TEnv:=(tkI b 0 1,tkI b 1 1,[tkI b 2 8,tkI b 10 8],tkI b 18 4,tkI b 22 8,(b.drop 30).take (b.length - 46),b.drop (b.length - 16),())
instance (v:TEnv):Decidable (qfK v):=by unfold qfK;infer_instance
instance (v:TEnv):Decidable (qkL v):=by unfold qkL;infer_instance
def rdV (b:BB):TEnv×Int×Unit:=if b.length < 47 then (noV,3,()) else if 946 < b.length then (noV,4,()) else if qkL (rdV0 b) then (rdV0 b,0,()) else (noV,2,())
theorem qf7 (b:BB) (hb:b.length≤1000000):kQ (b,())=some (rdV b):=by
 unfold kQ rdV
 dsimp only
 by_cases h1:b.length < 47
 ·rw [if_pos h1];exact qC (by simp only [go_sem,Int.reduceToNat];omega)
 ·rw [if_neg h1]
  refine (qB (by simp only [go_sem,Int.reduceToNat];omega)).trans ?_
  by_cases h2:946 < b.length
  ·rw [if_pos h2];exact qC (by simp only [go_sem,Int.reduceToNat];omega)
  ·rw [if_neg h2]
   refine (qB (by simp only [go_sem,Int.reduceToNat];omega)).trans ?_
   rw [xI _ _ _ hb]
   refine (qF rfl).trans ?_
   rw [xI _ _ _ hb]
   refine (qF rfl).trans ?_
   rw [xI _ _ _ hb]
   refine (qF rfl).trans ?_
   rw [xI _ _ _ hb]
   refine (qF rfl).trans ?_
   rw [xI _ _ _ hb]
   refine (qF rfl).trans ?_
   rw [xI _ _ _ hb]
   refine (qF rfl).trans ?_
   have e:i64 (isub (len b) 16)=((b.length - 16:Nat):Int):=i64n (by show (b.length:Int) - 16=_;omega) (by omega)
   rw [e]
   refine (qH (by simp only [go_sem,Int.reduceToNat];omega)).trans ((qH (by simp only [go_sem,Int.reduceToNat];omega)).trans ?_)
   dsimp only
   have s1:sub b 30 ((b.length - 16:Nat):Int)=(b.drop 30).take (b.length - 46):=by
    unfold sub
    rw [show (30:Int).toNat=30 from rfl,Int.toNat_natCast];congr 1
   have s2:sub b ((b.length - 16:Nat):Int) (len b)=b.drop (b.length - 16):=by
    unfold sub
    rw [Int.toNat_natCast,List.take_of_length_le]
    rw [List.length_drop];show _≤(b.length:Int).toNat - _;omega
   rw [s1,s2,show qa9 ((tkI b 0 1,tkI b 1 1,[tkI b 2 8,tkI b 10 8],tkI b 18 4,tkI b 22 8,(b.drop 30).take (b.length - 46),b.drop (b.length - 16),()),())=_ from qoP (rdV0 b)]
   refine (qF rfl).trans ?_
   by_cases h:qkL (rdV0 b)
   ·rw [D_t h,if_pos h];rfl
   ·rw [D_f h,if_neg h];rfl
theorem qtR {b:BB} {A W:Nat} {n:Int} (hW1:1≤W) (hW:W≤8) (hl:A+W≤b.length) (h0:0≤n) (hn:n < 256 ^ W) (hL:n≤4611686018427387904) (ht:tk b A W=bigN W n):tkI b (A:Int) (W:Int)=n:=by
 unfold tkI
 rw [qDx hW1 hW hl h0 hn hL ht,if_pos rfl]
theorem qyF {v:TEnv} {t:BB} (hv:qfK v) (he:v.2.2.1=[e0 v,e1 v]) (ht:t.length=16):rdV (zF v++t)=(qpN v t,0,()):=by
 have hlen:(zF v++t).length=46+v.2.2.2.2.2.1.length:=by rw [List.length_append,x3,ht];omega
 have hbody:=hv.2.2.2.2.2.2
 obtain ⟨h1,h2,h3,h4,h5,h6,h7,h8⟩:=hv
 have l1:=zJ 1 v.1
 have l2:=zJ 1 v.2.1
 have l3:=zJ 8 (e0 v)
 have l4:=zJ 8 (e1 v)
 have l5:=zJ 4 v.2.2.2.1
 have l6:=zJ 8 v.2.2.2.2.1
 have n2:=h2.2
 have n3:=h3.2
 have n4:=h4.2
 obtain ⟨rest,hrest⟩:∃ rest,rest=v.2.2.2.2.2.1++t:=⟨_,rfl⟩
 have hE:zF v++t=bigN 1 v.1++(bigN 1 v.2.1++(bigN 8 (e0 v)++(bigN 8 (e1 v)++(bigN 4 v.2.2.2.1++(bigN 8 v.2.2.2.2.1++rest))))):=by unfold zF;rw [hrest];simp only [List.append_assoc]
 have t1:tk (zF v++t) 0 1=bigN 1 v.1:=by rw [hE];exact qtQ (A:=[]) rfl l1
 have t2:tk (zF v++t) 1 1=bigN 1 v.2.1:=by rw [hE];exact qtQ l1 l2
 have t3:tk (zF v++t) 2 8=bigN 8 (e0 v):=by rw [hE,← List.append_assoc];exact qtQ (by rw [List.length_append,l1,l2]) l3
 have t4:tk (zF v++t) 10 8=bigN 8 (e1 v):=by rw [hE,← List.append_assoc,← List.append_assoc];exact qtQ (by simp only [List.length_append,l1,l2,l3]) l4
 have t5:tk (zF v++t) 18 4=bigN 4 v.2.2.2.1:=by rw [hE,← List.append_assoc,← List.append_assoc,← List.append_assoc];exact qtQ (by simp only [List.length_append,l1,l2,l3,l4]) l5
 have t6:tk (zF v++t) 22 8=bigN 8 v.2.2.2.2.1:=by rw [hE,← List.append_assoc,← List.append_assoc,← List.append_assoc,← List.append_assoc];exact qtQ (by simp only [List.length_append,l1,l2,l3,l4,l5]) l6
 have hz:rdV0 (zF v++t)=qpN v t:=by
  unfold rdV0 qpN
  have q1:tkI (zF v++t) 0 1=v.1:=qtR (A:=0) (W:=1) (by omega) (by omega) (by omega) (by omega) (by omega) (by omega) t1
  have q2:tkI (zF v++t) 1 1=v.2.1:=qtR (A:=1) (W:=1) (by omega) (by omega) (by omega) (by omega) (by omega) (by omega) t2
  have q3:tkI (zF v++t) 2 8=e0 v:=qtR (A:=2) (W:=8) (by omega) (by omega) (by omega) h2.1 (by omega) n2 t3
  have q4:tkI (zF v++t) 10 8=e1 v:=qtR (A:=10) (W:=8) (by omega) (by omega) (by omega) h3.1 (by omega) n3 t4
  have q5:tkI (zF v++t) 18 4=v.2.2.2.1:=qtR (A:=18) (W:=4) (by omega) (by omega) (by omega) h6.1 (by omega) (by omega) t5
  have q6:tkI (zF v++t) 22 8=v.2.2.2.2.1:=qtR (A:=22) (W:=8) (by omega) (by omega) (by omega) h4.1 (by omega) n4 t6
  have hpre:(bigN 1 v.1++bigN 1 v.2.1++bigN 8 (e0 v)++bigN 8 (e1 v)++bigN 4 v.2.2.2.1++bigN 8 v.2.2.2.2.1).length=30:=by simp only [List.length_append,l1,l2,l3,l4,l5,l6]
  have q7:((zF v++t).drop 30).take ((zF v++t).length - 46)=v.2.2.2.2.2.1:=by
   rw [hlen]
   unfold zF
   rw [List.append_assoc,← hpre,List.drop_left,Nat.add_sub_cancel_left,List.take_left]
  have q8:(zF v++t).drop ((zF v++t).length - 16)=t:=by
   rw [hlen,show 46+v.2.2.2.2.2.1.length - 16=(zF v).length by rw [x3];omega,List.drop_left]
  rw [q1,q2,q3,q4,q5,q6,q7,q8,← he]
 unfold rdV
 rw [if_neg (by omega),if_neg (by omega),hz,if_pos]
 exact ⟨⟨h1,h2,h3,h4,h5,h6,h7,h8⟩,ht⟩
theorem qIo {a:Int} (h:0≤a):n8 (u8 a)=a % 256:=by
 show (((BitVec.ofNat 8 ((a % 2 ^ 8).toNat)).toNat:Nat):Int)=a % 256
 rw [BitVec.toNat_ofNat];omega
theorem qJG (x:BB) (hx:x.length≤1024):256*n8 (u8 (shrI .i64 (len x) (n64 (u64 8))))+n8 (u8 (len x))=(x.length:Int):=by
 have a2:shrI .i64 (len x) (n64 (u64 8))=((x.length / 256:Nat):Int):=by show Int.fdiv (x.length:Int) (2 ^ 8)=_;rw [Int.fdiv_eq_ediv_of_nonneg _ (by decide)];omega
 rw [a2,qIo (by omega),qIo (by show (0:Int)≤(x.length:Int);omega)]
 show 256*(((x.length / 256:Nat):Int) % 256)+(x.length:Int) % 256=_
 omega
theorem qJi {b:BB} {n:Nat} {c:UInt8} (hb1:b.length≤2000) (hn:1≤n∧n≤1024) (hl:b.length+1 < n+2) (hnum:2≤b.length+1→256*n8 (nth (b++[c]) 0 (u8 0))+n8 (nth (b++[c]) 1 (u8 0))=(n:Int)):qdF ((b,0,0,()),c,())=some ((b++[c],0,0,()),[],()):=by
 unfold qdF
 refine (qB rfl).trans ?_
 dsimp only
 rw [show app (app (none' UInt8) b) [c]=b++[c] from rfl,show app (none' UInt8) b=b from rfl]
 refine (qH (by simp only [go_sem,Int.reduceToNat];omega)).trans ((qH (by simp only [go_sem,Int.reduceToNat];simp;omega)).trans ?_)
 have hlen:(b++[c]).length=b.length+1:=by simp
 by_cases h2:b.length+1 < 2
 ·exact qC (by simp only [go_sem,Int.reduceToNat];omega)
 ·refine (qB (by simp only [go_sem,Int.reduceToNat];omega)).trans ?_
  refine (qH (by simp only [go_sem,Int.reduceToNat];omega)).trans ((qH (by simp only [go_sem,Int.reduceToNat];omega)).trans ?_)
  have hnum:=hnum (by omega)
  rw [show nat 0=0 from rfl,show nat 1=1 from rfl]
  have hx:=qCR (nth (b++[c]) 0 (u8 0))
  have hy:=qCR (nth (b++[c]) 1 (u8 0))
  generalize n8 (nth (b++[c]) 0 (u8 0))=x at hx hnum
  generalize n8 (nth (b++[c]) 1 (u8 0))=y at hy hnum
  have e:i64 (iadd (i64 (imul 256 (i64 x))) (i64 y))=(n:Int):=by
   rw [show i64 x=x from z8 (by omega) (by omega),show i64 y=y from z8 (by omega) (by omega),show i64 (imul 256 x)=256*x from z8 (by show -9223372036854775808≤256*x;omega) (by show 256*x≤9223372036854775807;omega)]
   rw [← hnum]
   exact z8 (by show -9223372036854775808≤256*x+y;omega) (by show 256*x+y≤9223372036854775807;omega)
  rw [e,show i64 (iadd (n:Int) 2)=((n+2:Nat):Int) from i64n (by show (n:Int)+2=_;omega) (by omega)]
  refine (qF (a:=(false,())) ((qB (v5 (by omega))).trans (by rw [lt_f (by omega)]))).trans ((qB rfl).trans ?_)
  exact qC (by simp only [go_sem,Int.reduceToNat];omega)
theorem qJj {b:BB} {n:Nat} {c:UInt8} (hn:1≤n∧n≤1024) (hl:b.length+1=n+2) (hnum:256*n8 (nth (b++[c]) 0 (u8 0))+n8 (nth (b++[c]) 1 (u8 0))=(n:Int)):qdF ((b,0,0,()),c,())=some (noF,(b++[c]).drop 2,()):=by
 unfold qdF
 refine (qB rfl).trans ?_
 dsimp only
 rw [show app (app (none' UInt8) b) [c]=b++[c] from rfl,show app (none' UInt8) b=b from rfl]
 refine (qH (by simp only [go_sem,Int.reduceToNat];omega)).trans ((qH (by simp only [go_sem,Int.reduceToNat];simp;omega)).trans ?_)
 have hlen:(b++[c]).length=b.length+1:=by simp
 refine (qB (by simp only [go_sem,Int.reduceToNat];omega)).trans ?_
 refine (qH (by simp only [go_sem,Int.reduceToNat];omega)).trans ((qH (by simp only [go_sem,Int.reduceToNat];omega)).trans ?_)
 rw [show nat 0=0 from rfl,show nat 1=1 from rfl]
 have hx:=qCR (nth (b++[c]) 0 (u8 0))
 have hy:=qCR (nth (b++[c]) 1 (u8 0))
 generalize n8 (nth (b++[c]) 0 (u8 0))=x at hx hnum
 generalize n8 (nth (b++[c]) 1 (u8 0))=y at hy hnum
 have e:i64 (iadd (i64 (imul 256 (i64 x))) (i64 y))=(n:Int):=by
  rw [show i64 x=x from z8 (by omega) (by omega),show i64 y=y from z8 (by omega) (by omega),show i64 (imul 256 x)=256*x from z8 (by show -9223372036854775808≤256*x;omega) (by show 256*x≤9223372036854775807;omega)]
  rw [← hnum]
  exact z8 (by show -9223372036854775808≤256*x+y;omega) (by show 256*x+y≤9223372036854775807;omega)
 rw [e,show i64 (iadd (n:Int) 2)=((n+2:Nat):Int) from i64n (by show (n:Int)+2=_;omega) (by omega)]
 refine (qF (a:=(false,())) ((qB (v5 (by omega))).trans (by rw [lt_f (by omega)]))).trans ((qB rfl).trans ?_)
 refine (qB (by simp only [go_sem,Int.reduceToNat];omega)).trans ?_
 refine (qH (by simp only [go_sem,Int.reduceToNat];omega)).trans ?_
 have hc:cut (b++[c]) (nat 2) (nsub (nat (len (b++[c]))) (nat 2))=(b++[c]).drop 2:=by
  unfold cut
  rw [show nat 2=2 from rfl,List.take_of_length_le (by rw [List.length_drop];show _≤((b++[c]).length:Int).toNat - 2;omega)]
 rw [hc];rfl
theorem qy6 (x:BB) (hx:1≤x.length∧x.length≤1024):kO (vG x,())=some (x,()):=by
 unfold kO qmQ
 dsimp only
 generalize hf:(fun (x_1:List BB×Int×FT×Unit)=>(_:Option (LS (List BB×Int×FT×Unit) (FT×List BB×Unit))))=f
 have hl:(vG x).length=x.length+2:=qnR x
 have hnum:∀ i,2≤i→256*n8 (nth ((vG x).take i) 0 (u8 0))+n8 (nth ((vG x).take i) 1 (u8 0))=(x.length:Int):=by
  intro i hi
  obtain ⟨j,rfl⟩:∃ j,i=j+2:=⟨i - 2,by omega⟩
  rw [← qJG x hx.2];rfl
 have tk1:∀ i (h:i < (vG x).length),(vG x).take i++[nth (vG x) (nat (i:Int)) (u8 0)]=(vG x).take (i+1):=fun i h=>by rw [zB,qM h,List.take_succ_eq_append_getElem h]
 have step:∀ i:Nat,i < x.length+1→f ([],(i:Int),((vG x).take i,0,0,()),())=some (.nx ([],((i+1:Nat):Int),((vG x).take (i+1),0,0,()),())):=by
  intro i hi
  subst hf
  have hi':i64 (iadd (i:Int) 1)=((i+1:Nat):Int):=i64n (by show (i:Int)+1=_;omega) (by omega)
  have htl:((vG x).take i).length=i:=by rw [List.length_take];omega
  refine (qC (by simp only [go_sem,Int.reduceToNat];omega)).trans ((qH (by simp only [go_sem,Int.reduceToNat];omega)).trans ?_)
  dsimp only
  rw [qJi (n:=x.length) (by omega) hx (by omega) (fun h=>by rw [tk1 i (by omega)];exact hnum _ (by omega)),tk1 i (by omega),hi']
  rfl
 have hlast:f ([],((x.length+1:Nat):Int),((vG x).take (x.length+1),0,0,()),())=some (.nx ([x],((x.length+2:Nat):Int),noF,())):=by
  subst hf
  have hi':i64 (iadd ((x.length+1:Nat):Int) 1)=((x.length+2:Nat):Int):=i64n (by show ((x.length+1:Nat):Int)+1=_;omega) (by omega)
  have htl:((vG x).take (x.length+1)).length=x.length+1:=by rw [List.length_take];omega
  refine (qC (by simp only [go_sem,Int.reduceToNat];omega)).trans ((qH (by simp only [go_sem,Int.reduceToNat];omega)).trans ?_)
  dsimp only
  rw [qJj (n:=x.length) hx (by omega) (by rw [tk1 _ (by omega)];exact hnum _ (by omega)),tk1 _ (by omega),hi',List.take_of_length_le (by omega)]
  rw [show (vG x).drop 2=x from rfl]
  refine (qF rfl).trans ((qC (by simp only [go_sem,Int.reduceToNat];omega)).trans ((qH (by simp only [go_sem,Int.reduceToNat];simp)).trans ?_))
  rfl
 have hend:f ([x],((x.length+2:Nat):Int),noF,())=some (.ex 0 ([x],((x.length+2:Nat):Int),noF,())):=by subst hf;exact qB (by simp only [go_sem,Int.reduceToNat];omega)
 have hloop:=(qL (f:=f) (fun i=>([],(i:Int),((vG x).take i,0,0,()),())) (x.length+1) step 0 (Nat.zero_le _)).trans ((vP hlast).trans (qT hend))
 refine (qX (zC (show loop f (none' BB,0,(none' UInt8,0,0,()),())=_ from hloop))).trans ?_
 rfl
theorem qCI (e:En'):qgI e=[nth (qgI e) 0 0,nth (qgI e) 1 0]:=by
 unfold qgI
 split
 ·rfl
 ·split <;> rfl
theorem qCs {s:Si} {b:BB} (hb:qbV b) (hl:jN s.e.ph) (hq:s.e.seq≤900000) (hh:(kL s.e.hub).2.2.1=0):qaR s b =
  (⟨{ s.e with hub:=(kL s.e.hub).1,out:=s.e.out++[((kL s.e.hub).2.1,vG (zF (kJ s.e b)++qc9 s.e.ring.1.2.1 (zF (kJ s.e b))),())],seq:=s.e.seq+1 },ptag s.p s.e.ring.1.2.1 (zF (kJ s.e b))⟩,0):=by
 unfold qaR qjT
 rw [if_neg (not_not_intro hb),if_neg (not_not_intro hl),if_neg (by omega),if_pos hh]
 rfl
def twK (fill:UInt8):BB:=upd (rep 32 (u8 0)) 0 fill
def twN (g:Nat):BB:=if g=1 then [] else [u8 (g:Int)]
def twG (fill:UInt8) (g:Nat):BB:=keyD (twK fill) [3,4] (g:Int) (twN g)
def twR (fill:UInt8):Nat→qo3
 | 0=>noR
 | 1=>((1,twG fill 1,()),noG,noG,0,1,())
 | g+2=>(((g+2:Nat),twG fill (g+2),()),((g+1:Nat),twG fill (g+1),()),noG,16,(g+2:Nat),())
def hub1:THub:=([true,false,false,false],[noF,noF,noF,noF],[1,0,0,0],0,())
def twE (i:Int) (fill:UInt8) (g:Nat):En':=⟨i,twK fill,3,newS, -1,3+i,4 - i,4,0,noW,twR fill g,noA,0,0,[],hub1,[],[],[0,0,0,0]⟩
def tw (i:Int) (fill:UInt8) (g:Nat):Si:=⟨twE i fill g,(true,[],false,())⟩
theorem qmG (fill:UInt8):(twK fill).length=32:=by unfold twK upd;rw [List.length_set];rfl
theorem qc5 (fill:UInt8) {g:Nat} (hg:g≤2147483647):(twG fill g).length=32:=qBb ⟨by decide,by decide,by omega,by omega⟩
theorem qDD {a b:Int} {x y:BB} (h1:1≤b) (h2:b < a) (h3:a≤2147483647) (hx:x.length=32) (hy:y.length=32):qyB ((a,x,()),(b,y,()),noG,16,a,()):=by
 have hb:¬ (b,y,())=noG:=fun h=>by
  have:b=0:=congrArg Prod.fst h
  omega
 refine .inr ⟨⟨by dsimp only;omega,h3,hx⟩,h3,Int.le_refl _, ?_, .inr ⟨hb,⟨h1,by dsimp only;omega,hy⟩,h2, ?_, ?_⟩, .inl rfl⟩
 ·show (0:Int)≤a;omega
 ·show (1:Int)≤16;omega
 ·show (16:Int)≤16;omega
theorem qDE {x:BB} (hx:x.length=32):qyB ((1,x,()),noG,noG,0,1,()):=by
 refine .inr ⟨⟨?_, ?_,hx⟩, ?_, ?_, ?_, .inl ⟨rfl,rfl⟩, .inl rfl⟩
 ·show (1:Int)≤1;omega
 ·show (1:Int)≤2147483647;omega
 ·show (1:Int)≤2147483647;omega
 ·show (1:Int)≤1;omega
 ·show (0:Int)≤1;omega
theorem qER (fill:UInt8) {g:Nat} (hg:1≤g) (hg2:g≤100):qyB (twR fill g):=by
 match g,hg with
 | 1,_=>exact qDE (qc5 fill (by omega))
 | g+2,_=>exact qDD (b:=((g+1:Nat):Int)) (by omega) (by omega) (by omega) (qc5 fill (by omega)) (qc5 fill (by omega))
theorem qKO (i:Int) (hi:i=0∨i=1) (fill:UInt8) {g:Nat} (hg:1≤g) (hg2:g≤100):okS 0 (tw i fill g) where
 e:={
  id:=hi
  key:=by show (twK fill).length≤1000;rw [qmG];omega
  ph:=⟨by show (0:Int)≤3;omega,by show (3:Int)≤8;omega⟩
  store:=⟨qAW 1,List.length_replicate ..⟩
  own:=by show jM (3+i);rcases hi with rfl | rfl <;> decide
  oth:=by show jM (4 - i);rcases hi with rfl | rfl <;> decide
  seq:=by show jM 0;decide
  ring:=qER fill hg hg2
  up:=rfl
  next:=by show (0:Int)≤0∧(0:Int) < 4;omega
  out:=Nat.le_refl _
  got:=Nat.le_refl _
  cnt:=rfl
  win:=rfl
  feed:=rfl
  life:=rfl
  queue:=by show ([]:List BB).length≤1000;simp }
 p:=Nat.le_refl _
theorem qKD:qbA (([false,false,false,false],[(none' UInt8,0,0,()),(none' UInt8,0,0,()),(none' UInt8,0,0,()),(none' UInt8,0,0,())],[0,0,0,0],0,()),0,())=some (hub1,0,()):=by kernel_rfl
def upH (h:THub):Prop:=h.1=[true,false,false,false]∧0≤h.2.2.2.1∧h.2.2.2.1 < 4
theorem qIN:upH hub1:=⟨rfl,by show (0:Int)≤0;omega,by show (0:Int) < 4;omega⟩
theorem qJa {h:THub} (hu:upH h):(kL h).2.2.1=0∧upH (kL h).1:=by
 refine ⟨?_,(qvB h).trans hu.1,qmS hu.2⟩
 obtain ⟨u,f,l,n,⟨⟩⟩:=h
 obtain ⟨h1,h2,h3⟩:=hu
 dsimp only at h1 h2 h3
 subst h1
 have hc:qJc [true,false,false,false] n.toNat=some 0:=by
  have:n=0∨n=1∨n=2∨n=3:=by omega
  rcases this with rfl | rfl | rfl | rfl <;> decide
 unfold kL
 dsimp only
 rw [hc]
def qxY (s:Si) (b:BB):Si:=⟨{ s.e with hub:=(kL s.e.hub).1,out:=s.e.out++[((kL s.e.hub).2.1,vG (zF (kJ s.e b)++qc9 s.e.ring.1.2.1 (zF (kJ s.e b))),())],seq:=s.e.seq+1 },ptag s.p s.e.ring.1.2.1 (zF (kJ s.e b))⟩
theorem qpZ {s:Si} {b:BB} (hb:qbV b) (hl:jN s.e.ph) (hq:s.e.seq≤900000) (hu:upH s.e.hub):qaR s b=(qxY s b,0):=qCs hb hl hq (qJa hu).1
def qo2 (n:wO):BB:=wrM (msgN n)
theorem qlZ {n:wO} (h:vI n):qbV (qo2 n):=⟨by
 unfold qo2 wrM
 rw [List.length_append,List.length_append,j8]
 split <;> omega,qII h⟩
theorem qGA {n:wO} (h:vI n):rdN (qo2 n)=(n,0,()):=qKA h
theorem qxQ (n:Int):1≤qaO n∧qaO n≤999999:=by unfold qaO;split <;> omega
def stN (s:Si) (q:wO):wO:=(q.1,q.2.1,qaO s.e.stan,q.2.2.2)
theorem qDl {s:Si} {q:wO} (hr:vI (stN s q)):qi7 q.2.1 (qaO s.e.stan) (qo2 (stN s q))=((q.2.1,qaO s.e.stan,8,3,qo2 (stN s q),()),0,()):=by
 unfold qi7
 rw [if_pos]
 have h:=qxQ s.e.stan
 exact ⟨hr.1,h.1,h.2,(qlZ hr).1,(qlZ hr).2⟩
def askS (s:Si) (q:wO):Si:=⟨{ s.e with stan:=qaO s.e.stan,ask:=(q.2.1,qaO s.e.stan,8,3,qo2 (stN s q),()) },s.p⟩
theorem qGF {s:Si} {q:wO} (hr:vI (stN s q)):quQ s q=askS s q:=by
 unfold quQ askS
 have e:wrN (q.1,q.2.1,qaO s.e.stan,q.2.2.2)=(qo2 (stN s q),0,()):=qKf hr
 rw [e,qDl hr]
theorem qE6 {s:Si} {q:wO} (hr:vI (stN s q)) (h1:¬ q.2.1=1) (hl:jN s.e.ph) (hq:s.e.seq≤900000) (hu:upH s.e.hub):qqJ s q=qxY (askS s q) (qo2 (stN s q)):=by
 have e:wrN (q.1,q.2.1,qaO s.e.stan,q.2.2.2)=(qo2 (stN s q),0,()):=qKf hr
 unfold qqJ
 rw [e,qGF hr,qDl hr,if_pos ⟨rfl,rfl⟩,if_neg h1]
 exact congrArg Prod.fst (qpZ (s:=askS s q) (qlZ hr) hl hq hu)
end Yp
namespace Yp
open Go
set_option maxRecDepth 100000
set_option maxHeartbeats 2000000
section
variable (i : Int) (fill : UInt8) (g : Nat) (nonce : BB)
end
end Yp
namespace Yp
open Go
set_option maxRecDepth 100000
set_option maxHeartbeats 2000000
set_option linter.unusedSectionVars false
section
variable {i : Int} (hi : i = 0 ∨ i = 1) (fill : UInt8) {g : Nat} (hg : 1 ≤ g) (hg2 : g ≤ 50) {nonce : BB} (h8 : nonce.length = 8) (bs bs' : List UInt64)
include hi hg hg2 h8
end
end Yp
namespace Yp
open Go
set_option maxRecDepth 100000
set_option maxHeartbeats 2000000
theorem qDF {l:List V}:∀ {last:Int},last≤128→zE last l=true→(l.length:Int)≤128 - last:=by
 induction l with
 | nil=>intro last h _;simp;omega
 | cons v l ih =>
  intro last h hr
  have h1:=j3 hr v (List.mem_cons_self ..)
  have h2:=qv3 h1.2
  have h3:zE v.1 l=true:=by
   unfold zE at hr
   rw [Bool.and_eq_true,Bool.and_eq_true] at hr
   exact hr.2.2
  have:=ih h2.2.1 h3
  simp only [List.length_cons]
  omega
theorem zY {m:M} (h:z3 m=true):m.2.1.length≤128∧fewM m:=by
 have hr:=(qZ.1 h).1
 have hl:=qDF (by omega) hr
 exact ⟨by omega,by omega,fun v hv=>by have:=qv2 (j3 hr v hv).2;omega⟩
def clsD (m:Int):Int:=if zT m then m / 100 else 0
def qcH (m:Int):Prop:=clsD m=1∨clsD m=2∨clsD m=4
instance (m:Int):Decidable (qcH m):=by unfold qcH;infer_instance
theorem wG (m:M):qaA (m,())=some (D (qcH m.1),()):=by
 unfold qaA qcH
 dsimp only
 rw [show qgU (m.1,())=some (clsD m.1,()) from qsX m.1]
 refine (qF rfl).trans ?_
 dsimp only
 generalize clsD m.1=c
 by_cases h1:c=1
 ·subst h1;rw [D_t (.inl rfl)];rfl
 by_cases h2:c=2
 ·subst h2;rw [D_t (.inr (.inl rfl))];rfl
 by_cases h4:c=4
 ·subst h4;rw [D_t (.inr (.inr rfl))];rfl
 rw [D_f (by omega),v5 h1,v5 h2,v5 h4];rfl
theorem qu6 (m:M):qo6 (m,())=some (D (qcH m.1),()):=by
 unfold qo6 qcH
 dsimp only
 rw [show qbB (m.1,())=some (clsD m.1,()) from qoR m.1]
 refine (qF rfl).trans ?_
 dsimp only
 generalize clsD m.1=c
 by_cases h1:c=1
 ·subst h1;rw [D_t (.inl rfl)];rfl
 by_cases h2:c=2
 ·subst h2;rw [D_t (.inr (.inl rfl))];rfl
 by_cases h4:c=4
 ·subst h4;rw [D_t (.inr (.inr rfl))];rfl
 rw [D_f (by omega),v5 h1,v5 h2,v5 h4];rfl
def wW (m:M):Prop:=(getR 39 m.2.1).2.1=true∧(getR 39 m.2.1).1=[57,49]
instance (m:M):Decidable (wW m):=by unfold wW;infer_instance
theorem qx1 (g:BB×Bool×Unit):(ob (sel g.2.1 (some (seq g.1 [57,49],())) (some (false,()))) fun (a:Bool×Unit)=>(some (a.1,()):Option (Bool×Unit)))=some (D (g.2.1=true∧g.1=[57,49]),()):=by
 obtain ⟨b,e,⟨⟩⟩:=g
 cases e
 ·rw [D_f (fun h=>Bool.false_ne_true h.1)];rfl
 ·refine (qF rfl).trans ?_
  by_cases h:b=[57,49]
  ·rw [D_t ⟨rfl,h⟩,qAQ h]
  ·rw [D_f (fun x=>h x.2),qIV h]
theorem qiX {m:M} (hr:zE 0 m.2.1=true) (hl:m.2.1.length≤1000000):qdX (m,())=some (D (wW m),()):=by
 unfold qdX wW
 dsimp only
 rw [qgT _ _ hl,qq6 hr]
 exact (qF rfl).trans (qx1 _)
theorem qf5 {m:M} (hl:m.2.1.length≤1000000):qdB (m,())=some (D (wW m),()):=by
 unfold qdB wW
 dsimp only
 rw [vC _ _ hl]
 exact (qF rfl).trans (qx1 _)
def stM (m:M) (day:Int):M:=(m.1,setR m.2.1 (15,dg day 6,()),())
def badS (b:BB) (day:Int):Prop:=day < 0∨999999 < day∨¬ (rdM b).2.1=0∨¬ qcH (rdM b).1.1∨wW (rdM b).1
instance (b:BB) (day:Int):Decidable (badS b day):=by unfold badS;infer_instance
def z5 (b:BB) (day:Int):BB×Int :=
 if badS b day then ([],1) else if 900 < (wrM (stM (rdM b).1 day)).length then ([],4) else (wrM (stM (rdM b).1 day),0)
theorem qC9 (day:Int):jS 15 (dg day 6)=true:=qaG (no:=15) (w:=6) fo15 (by omega)
theorem qj6 {m:M} (h:z3 m=true) (day:Int):z3 (stM m day)=true:=by
 have h1:=qZ.1 h
 exact qZ.2 ⟨qDA (x:=(15,dg day 6,())) (qC9 day) (by show (0:Int) < 15;omega) h1.1,h1.2⟩
theorem qkV {b:BB} (h:(rdM b).2.1=0):z3 (rdM b).1=true∧wrM (rdM b).1=b:=by
 exact qAY (b:=b) (Prod.ext rfl (Prod.ext h rfl))
theorem qmK {day:Int} (h0:0≤day) (h1:day≤999999):vF (day,6,())=some (dg day 6,0,())∧jO (day,6,())=some (dg day 6,0,()):=by
 rw [yU _ _ (by omega),wB _ _ (by omega),if_pos ⟨by omega,by omega,h0,by show day < 10 ^ 6;omega⟩]
 exact ⟨rfl,rfl⟩
theorem qtS {m:M} (hm:z3 m=true) (day:Int) {e:Int}:(sel (lt 900 (len (wrM (stM m day)))) (some (none' UInt8,4,())) (some (wrM (stM m day),0,())):Option (BB×Int×Unit))=some ((if 900 < (wrM (stM m day)).length then (([]:BB),(4:Int)) else (wrM (stM m day),0)).1,(if 900 < (wrM (stM m day)).length then (([]:BB),(4:Int)) else (wrM (stM m day),0)).2,()):=by
 by_cases h:900 < (wrM (stM m day)).length
 ·rw [if_pos h];exact qC (by simp only [go_sem,Int.reduceToNat];omega)
 ·rw [if_neg h];exact qB (by simp only [go_sem,Int.reduceToNat];omega)
theorem vS (b:BB) (day:Int) (hb:b.length≤1000000):kW (b,day,())=some ((z5 b day).1,(z5 b day).2,()):=by
 unfold kW z5
 rw [qlA _ hb]
 refine (qF rfl).trans ?_
 dsimp only
 by_cases h1:day < 0
 ·rw [if_pos (show badS b day from .inl h1)]
  exact (qF (qC (by simp only [go_sem,Int.reduceToNat];omega))).trans rfl
 by_cases h2:999999 < day
 ·rw [if_pos (show badS b day from .inr (.inl h2))]
  exact (qF ((qB (by simp only [go_sem,Int.reduceToNat];omega)).trans (qC (by simp only [go_sem,Int.reduceToNat];omega)))).trans rfl
 by_cases h3:(rdM b).2.1=0
 ·obtain ⟨hr,hw⟩:=qkV h3
  obtain ⟨hl,hf⟩:=zY hr
  have hr0:=(qZ.1 hr).1
  rw [wG,qiX hr0 (by omega)]
  by_cases h4:qcH (rdM b).1.1
  ·by_cases h5:wW (rdM b).1
   ·rw [if_pos (show badS b day from .inr (.inr (.inr (.inr h5)))),D_t h4,D_t h5]
    exact (qF ((qB (by simp only [go_sem,Int.reduceToNat];omega)).trans ((qB (by simp only [go_sem,Int.reduceToNat];omega)).trans ((qB (bq_f h3)).trans rfl)))).trans rfl
   ·rw [if_neg (show ¬ badS b day by rintro (h | h | h | h | h) <;> first | exact h1 h | exact h2 h | exact h h3 | exact h h4 | exact h5 h),D_t h4,D_f h5]
    refine (qF (a:=(false,())) ((qB (by simp only [go_sem,Int.reduceToNat];omega)).trans ((qB (by simp only [go_sem,Int.reduceToNat];omega)).trans ((qB (bq_f h3)).trans rfl)))).trans ((qB rfl).trans ?_)
    rw [(qmK (by omega) (by omega)).1]
    refine (qF rfl).trans ((qH (by simp only [go_sem,Int.reduceToNat,zP];omega)).trans ?_)
    rw [show jG ((rdM b).1,15,(dg day 6,(0:Int),()).1,())=some (stM (rdM b).1 day,0,()) by
     rw [qb4 _ _ _ (by omega) (by rw [zP];omega)]
     unfold qDB
     rw [if_neg (by rw [fo15];simp),if_pos (qC9 day),qDt hr0];rfl]
    refine (qF rfl).trans ?_
    have hs:=qj6 hr day
    rw [qcR _ (zY hs).2,if_pos hs]
    exact (qF rfl).trans (qtS hr day (e:=0))
  ·rw [if_pos (show badS b day from .inr (.inr (.inr (.inl h4)))),D_f h4]
   exact (qF ((qB (by simp only [go_sem,Int.reduceToNat];omega)).trans ((qB (by simp only [go_sem,Int.reduceToNat];omega)).trans ((qB (bq_f h3)).trans rfl)))).trans rfl
 ·rw [if_pos (show badS b day from .inr (.inr (.inl h3)))]
  exact (qF ((qB (by simp only [go_sem,Int.reduceToNat];omega)).trans ((qB (by simp only [go_sem,Int.reduceToNat];omega)).trans (qC (bq_t h3))))).trans rfl
theorem qoL (b:BB) (day:Int) (hb:b.length≤1000000):qeH (b,day,())=some ((z5 b day).1,(z5 b day).2,()):=by
 unfold qeH z5
 rw [xK _ hb]
 refine (qF rfl).trans ?_
 dsimp only
 have hl0:(rdM b).1.2.1.length≤1000000:=by have:=qE3 (b:=b);omega
 rw [qu6,qf5 hl0]
 refine (qF rfl).trans ((qF rfl).trans ?_)
 dsimp only
 by_cases hbad:badS b day
 ·rw [if_pos hbad]
  refine (qF (a:=(true,())) ?_).trans rfl
  unfold badS at hbad
  simp only [go_sem,Int.reduceToNat]
  refine qnJ ?_
  rcases hbad with h | h | h | h | h <;> simp [h]
 ·rw [if_neg hbad]
  unfold badS at hbad
  simp only [not_or,Classical.not_not] at hbad
  obtain ⟨h1,h2,h3,h4,h5⟩:=hbad
  obtain ⟨hr,hw⟩:=qkV h3
  obtain ⟨hl,hf⟩:=zY hr
  rw [D_t h4,D_f h5]
  refine (qF (a:=(false,())) ((qB (by simp only [go_sem,Int.reduceToNat];omega)).trans ((qB (by simp only [go_sem,Int.reduceToNat];omega)).trans ((qB (bq_f h3)).trans rfl)))).trans ((qB rfl).trans ?_)
  rw [(qmK (by omega) (by omega)).2]
  refine (qF rfl).trans ((qH (by simp only [go_sem,Int.reduceToNat,zP];omega)).trans ?_)
  rw [show qf8 ((rdM b).1,15,(dg day 6,(0:Int),()).1,())=some (stM (rdM b).1 day,0,()) by
   rw [qsI _ _ _ (by omega) (by rw [zP];omega)]
   unfold qIT
   rw [if_neg (by rw [fo15];simp),if_pos (qC9 day)];rfl]
  refine (qF rfl).trans ?_
  have hs:=qj6 hr day
  rw [kB _ (zY hs).2,if_pos hs]
  exact (qF rfl).trans (qtS hr day (e:=0))
theorem qDy {b:BB} {day:Int} (h:(z5 b day).2=0):qbV (z5 b day).1:=by
 unfold z5 at h ⊢
 split at h
 ·exact absurd h (by show ¬ (1:Int)=0;omega)
 split at h
 ·exact absurd h (by show ¬ (4:Int)=0;omega)
 ·rename_i h1 h2
  rw [if_neg h1,if_neg h2]
  refine ⟨?_,by show (wrM (stM (rdM b).1 day)).length≤900;omega⟩
  show 1≤(wrM (stM (rdM b).1 day)).length
  unfold wrM
  rw [List.length_append,List.length_append,j8]
  split <;> omega
instance (n:wO):Decidable (fewN n):=by unfold fewN;infer_instance
end Yp
namespace Yp
open Go
set_option maxRecDepth 100000
set_option maxHeartbeats 2000000
set_option linter.unusedSectionVars false
section
variable {i : Int} (hi : i = 0 ∨ i = 1) (fill : UInt8) {g : Nat} (hg : 1 ≤ g) (hg2 : g ≤ 50) {nonce : BB} (h8 : nonce.length = 8) (bs bs' : List UInt64)
include hi hg hg2 h8
end
end Yp
namespace Yp
open Go
set_option maxRecDepth 100000
set_option maxHeartbeats 2000000
set_option linter.unusedSectionVars false
section
variable (fill : UInt8) {g : Nat} (hg : 1 ≤ g) (hg2 : g ≤ 50) {nonce : BB} (h8 : nonce.length = 8)
include hg hg2 h8
end
end Yp
namespace Yp
open Go
set_option maxRecDepth 100000
set_option maxHeartbeats 2000000
def qt7 (s:Si) (p:Int):Si:=⟨qHu s.e p,s.p⟩
theorem qHt (e:En') (p:Int):(qHu e p).got.length≤e.got.length+1:=by
 show (if jN e.ph then e.got++[(5,qgI e,0,[],())] else e.got).length≤_
 split
 ·rw [List.length_append];exact Nat.le_refl _
 ·omega
theorem qFu {n:Nat} {s:Si} (h:okS n s) {p:Int} (h0:0≤p) (h8:p≤8):okS (n+1) (qt7 s p):=by
 refine ⟨{ qpA h.e (Nat.le_succ n) with ph:=⟨h0,h8⟩,own:=by show jM 0;decide,oth:=by show jM 0;decide,seq:=by show jM 0;decide,ring := .inl rfl,got := ?_,win:=rfl,queue:=by show ([]:List BB).length≤1000;simp },Nat.le_succ_of_le h.p⟩
 have h1:=qHt s.e p
 have h2:=h.e.got
 exact Nat.le_trans h1 (by omega)
def hub0:THub:=([false,false,false,false],[noF,noF,noF,noF],[0,0,0,0],0,())
def phS (s:Si) (p:Int):Si:=⟨{ s.e with ph:=p },s.p⟩
theorem qIi {n:Nat} {s:Si} (h:okS n s) {p:Int} (h0:0≤p) (h8:p≤8):okS n (phS s p):=⟨{ h.e with ph:=⟨h0,h8⟩ },h.p⟩
def evS (s:Si) (k n:Int) (b:BB):Si:=⟨{ s.e with got:=s.e.got++[(k,qgI s.e,n,b,())] },s.p⟩
theorem qKP {n:Nat} {s:Si} (h:okS n s) (k q:Int) (b:BB):okS (n+1) (evS s k q b):=by
 refine ⟨{ qpA h.e (Nat.le_succ n) with got := ?_ },Nat.le_succ_of_le h.p⟩
 have:=h.e.got
 show (s.e.got++[(k,qgI s.e,q,b,())]).length≤n+1
 rw [List.length_append,List.length_singleton];omega
theorem qbN {s:Si} {n:Nat} (hs:okS n s) (hn:n≤900000) (k q:Int) (b:BB):qdZ (s.t,k,q,b,())=some ((evS s k q b).t,()):=by
 have hg:=hs.e.got
 unfold qdZ
 dsimp only
 rw [show s.t.1.2.2.2.2.2.2.2.2.2.2.2.2.2.2.2.2.2.1=s.e.got from rfl,qDZ]
 refine (qF rfl).trans ?_
 rw [show yN (s.t.1,())=_ from qcQ s.e]
 refine (qF rfl).trans ?_
 refine (qH (by simp only [go_sem,Int.reduceToNat];simp;omega)).trans ?_
 rfl
def popS (s:Si) (q:List BB):Si:=⟨{ s.e with queue:=q },s.p⟩
theorem qFs {n:Nat} {s:Si} (h:okS n s) {q:List BB} (hq:q.length≤1000):okS n (popS s q):=⟨{ h.e with queue:=hq },h.p⟩
def qjJ:Nat→Si→Si
 | 0,s=>s
 | n+1,s=>match s.e.queue with
  | []=>s
  | b :: q=>if (qaR s b).2=0 then qjJ n (popS (qaR s b).1 q) else s
def qsP (s:Si):Si:=qjJ s.e.queue.length s
theorem qE9 {f:y2×Unit→Option (LS (y2×Unit) (y2×Unit))}
  (h0:∀ s n,okS n s→n≤900000→s.e.queue=[]→f (s.t,())=some (.ex 0 (s.t,())))
  (h1:∀ s n b q,okS n s→n≤900000→s.e.queue=b :: q→(qaR s b).2=0→f (s.t,())=some (.nx ((popS (qaR s b).1 q).t,())))
  (h2:∀ s n b q,okS n s→n≤900000→s.e.queue=b :: q→¬ (qaR s b).2=0→f (s.t,())=some (.ex 0 (s.t,()))∨f (s.t,())=some (.rt (s.t,()))) :
  ∀ k (s:Si) n,okS n s→n+k≤900000→s.e.queue.length=k →
   lc (loop f (s.t,())) (fun (_:y2×Unit)=>none) (fun (i:Nat) (a:y2×Unit)=>ck (neb i 0) (some (a.1,()))) (fun (r:y2×Unit)=>some r)=some ((qjJ k s).t,()):=by
 intro k
 induction k with
 | zero =>
  intro s n hs hn hk
  exact (zC (qT (h0 s n hs (by omega) (List.length_eq_zero_iff.1 hk)))).trans rfl
 | succ k ih =>
  intro s n hs hn hk
  obtain ⟨b,q,hq⟩:∃ b q,s.e.queue=b :: q:=by
   cases h:s.e.queue with
   | nil=>rw [h] at hk;cases hk
   | cons b q=>exact ⟨b,q,rfl⟩
  have hl:q.length=k:=by rw [hq,List.length_cons] at hk;omega
  have hq1:=hs.e.queue
  rw [hq,List.length_cons] at hq1
  unfold qjJ
  rw [hq]
  dsimp only
  by_cases h:(qaR s b).2=0
  ·rw [if_pos h]
   exact (zC (vP (h1 s n b q hs (by omega) hq h))).trans (ih _ (n+1) (qFs (qCN hs b) (by omega)) (by omega) hl)
  ·rw [if_neg h]
   rcases h2 s n b q hs (by omega) hq h with h' | h'
   ·exact (zC (qT h')).trans rfl
   ·exact (zC (qeV h')).trans rfl
theorem take_nil {q:List BB} (h:q=[]):qdK (q,())=some ([],[],false,()):=by subst h;rfl
theorem qxO {q r:List BB} {b:BB} (h:q=b :: r) (hl:q.length≤1000000):qdK (q,())=some (b,r,true,()):=by
 subst h
 have hl':r.length+1≤1000000:=hl
 unfold qdK
 dsimp only
 refine (qB (by simp only [go_sem,Int.reduceToNat];simp only [List.length_cons];omega)).trans ((qH (by simp only [go_sem,Int.reduceToNat];simp only [List.length_cons];omega)).trans ((qH (by simp only [go_sem,Int.reduceToNat];simp only [List.length_cons];omega)).trans ?_))
 unfold yB
 dsimp only
 rw [show sub (b :: r) 1 (len (b :: r))=r by simp [sub,len]]
 refine (qF (qH (by simp only [go_sem,Int.reduceToNat];omega))).trans rfl
theorem qcV {s:Si} {n:Nat} (hs:okS n s) (hn:n≤800000):qd1 (s.t,())=some ((qsP s).t,()):=by
 unfold qd1
 have hq:=hs.e.queue
 refine qE9 ?_ ?_ ?_ s.e.queue.length s n hs (by omega) rfl
 ·intro s n hs hn h
  exact (qX (take_nil h)).trans rfl
 ·intro s n b q hs hn h hz
  have hq:=hs.e.queue
  refine (qX (qxO h (by omega))).trans ((qF rfl).trans ((qB rfl).trans ?_))
  refine (qX (vD hs hn b)).trans ((qF rfl).trans ((qB (bq_f hz)).trans ?_))
  rfl
 ·intro s n b q hs hn h hz
  have hq:=hs.e.queue
  refine .inl ((qX (qxO h (by omega))).trans ((qF rfl).trans ((qB rfl).trans ?_)))
  exact (qX (vD hs hn b)).trans ((qF rfl).trans (qC (bq_t hz)))
def putQ (q:List BB) (b:BB):List BB×Int:=if 8≤q.length then (q,8) else (q++[b],0)
theorem qsO (q:List BB) (b:BB):qkW (q,b,8,())=some ((putQ q b).1,(putQ q b).2,()):=by
 unfold qkW putQ qdL
 dsimp only
 rw [if_neg (by omega)]
 by_cases h:8 < (q.length:Int)
 ·rw [if_pos h,if_pos (by omega)];rfl
 ·rw [if_neg h]
  refine (qF rfl).trans ?_
  dsimp only
  rw [show (8:Int).toNat=8 from rfl,List.length_singleton]
  by_cases h8:q.length=8
  ·rw [if_pos (by omega),h8];rfl
  ·rw [if_neg (by omega),show min (8 - q.length) 1=1 by omega,List.take_of_length_le (by rw [List.length_singleton];omega)];rfl
def subS (s:Si) (b:BB):Si×Int :=
 if ¬ (z5 b s.e.day).2=0 then (s,(z5 b s.e.day).2) else if ¬ qd2 s.e.ph then (s,7)
 else if ¬ (putQ s.e.queue (z5 b s.e.day).1).2=0 then (s,(putQ s.e.queue (z5 b s.e.day).1).2)
 else (qsP (evS (popS s (putQ s.e.queue (z5 b s.e.day).1).1) 1 0 (z5 b s.e.day).1),0)
theorem qG8 {q:List BB} {b:BB} (h:q.length≤1000):(putQ q b).1.length≤1000:=by
 unfold putQ
 split
 ·exact h
 ·rw [List.length_append,List.length_singleton];omega
theorem qaF {s:Si} {n:Nat} (hs:okS n s) (hn:n≤700000) (b:BB) (hb:b.length≤1000000):wH (s.t,b,())=some ((subS s b).1.t,(subS s b).2,()):=by
 unfold wH subS
 refine (qX (vS b s.e.day hb)).trans ((qF rfl).trans ?_)
 generalize z5 b s.e.day=r
 obtain ⟨o,e⟩:=r
 dsimp only
 by_cases h0:e=0
 ·subst h0
  rw [if_neg (by simp)]
  refine (qB rfl).trans ((qX (yI s.e.ph)).trans ((qF rfl).trans ?_))
  by_cases hg:qd2 s.e.ph
  ·rw [if_neg (not_not_intro hg)]
   refine (qB (by rw [D_t hg];rfl)).trans ((qX (qsO s.e.queue o)).trans ((qF rfl).trans ?_))
   have hl:=qG8 (b:=o) hs.e.queue
   generalize putQ s.e.queue o=p at hl ⊢
   obtain ⟨q,c⟩:=p
   dsimp only at hl ⊢
   by_cases hc:c=0
   ·subst hc
    rw [if_neg (by simp)]
    have h1:=qFs hs hl
    refine (qB rfl).trans ((qX (qbN h1 (by omega) 1 0 o)).trans ((qF rfl).trans ?_))
    exact (qX (qcV (qKP h1 1 0 o) (by omega))).trans rfl
   ·rw [if_pos hc]
    exact qC (bq_t hc)
  ·rw [if_pos hg]
   exact qC (by rw [D_f hg];rfl)
 ·rw [if_pos h0]
  exact qC (bq_t h0)
def dayQ (day:Int):wO:=(true,201,0,0,0,[],[],day,())
def qBs (s:Si) (day:Int):Si×Int :=
 if day≤s.e.day∨999999 < day then (s,1) else if ¬ qd2 s.e.ph then (s,7) else if ¬ s.e.ph=3∨¬ s.e.ask.1=0 then (s,9)
 else (qqJ (phS s 5) (dayQ day),0)
theorem qHk {n:Nat} {s:Si} (h:okS n s) (day:Int):okS (n+1) (qBs s day).1:=by
 unfold qBs
 split
 ·exact qaX h (by omega)
 split
 ·exact qaX h (by omega)
 split
 ·exact qaX h (by omega)
 ·exact qFr (qIi h (by omega) (by omega)) _
theorem qFg:qdN (3,7,())=some (5,true,()):=rfl
theorem qFf:qdN (5,8,())=some (3,true,()):=rfl
theorem qsY {s:Si} {n:Nat} (hs:okS n s) (hn:n≤900000) (day:Int):qlF (s.t,day,())=some ((qBs s day).1.t,(qBs s day).2,()):=by
 unfold qlF qBs
 dsimp only
 rw [show s.t.1.2.2.2.2.2.2.2.2.2.2.2.2.2.1=s.e.day from rfl,show s.t.1.2.2.1=s.e.ph from rfl,show s.t.1.2.2.2.2.2.2.2.2.2.2.2.1.1=s.e.ask.1 from rfl]
 by_cases h1:day≤s.e.day∨999999 < day
 ·rw [if_pos h1]
  refine (qF (a:=(true,())) ?_).trans rfl
  simp only [go_sem,Int.reduceToNat]
  exact qnJ h1
 ·rw [if_neg h1]
  refine (qF (a:=(false,())) (by simp only [go_sem,Int.reduceToNat];exact quY (by omega))).trans ((qB rfl).trans ?_)
  rw [yI]
  refine (qF rfl).trans ?_
  by_cases h2:qd2 s.e.ph
  ·rw [if_neg (not_not_intro h2),D_t h2]
   refine (qB rfl).trans ?_
   by_cases h3:¬ s.e.ph=3∨¬ s.e.ask.1=0
   ·rw [if_pos h3]
    refine (qF (a:=(true,())) (by simp only [go_sem,Int.reduceToNat];exact qnJ h3)).trans rfl
   ·rw [if_neg h3]
    refine (qF (a:=(false,())) (by simp (disch:=omega) only [go_sem,Int.reduceToNat];exact quY (fun h=>h3 (.inr h)))).trans ((qB rfl).trans ?_)
    simp only [not_or,Classical.not_not] at h3
    rw [h3.1,qFg]
    refine (qF rfl).trans ?_
    exact (qX (qj8 (qIi hs (p:=5) (by omega) (by omega)) hn (dayQ day))).trans rfl
  ·rw [if_pos h2,D_f h2];rfl
def givG (s:Si):Si:=if s.e.ph=5 then ⟨qFp s.e,s.p⟩ else s
theorem qcU {s:Si} (h:s.e.ph=5):qdY (s.t,())=some ((⟨qFp s.e,s.p⟩:Si).t,()):=by
 unfold qdY
 rw [show (s.t,()).1.1.2.2.1=5 from h,qFf];rfl
theorem qq7 (s:Si):qh8 (s.t,())=some ((givG s).t,()):=by
 unfold qh8 givG
 by_cases h:s.e.ph=5
 ·rw [if_pos h]
  refine (qB (bq_f h)).trans ?_
  exact (qX (qcU h)).trans rfl
 ·rw [if_neg h]
  exact qC (bq_t h)
def qFQ (s:Si) (day:Int):Si:=⟨{ s.e with day:=maxI s.e.day day },s.p⟩
theorem qHj {n:Nat} {s:Si} (h:okS n s) (day:Int):okS n (qFQ s day):=⟨{ h.e with },h.p⟩
def qLF (s:Si) (n:wO):Si:=(qaR (qFQ s n.2.2.2.2.2.2.2.1) (qEY n 0)).1
theorem qq8 {s:Si} {m:Nat} (hs:okS m s) (hm:m≤900000) (n:wO):qh9 (s.t,n,())=some ((qLF s n).t,()):=by
 unfold qh9
 exact qHX (qHj hs n.2.2.2.2.2.2.2.1) hm n 0
noncomputable def agrS (s:Si) (n:wO):Si :=
 if ¬ s.e.ph=5∨¬ qt5 s.e.ask n.2.1 n.2.2.1 then qrK s 3
 else if n.2.2.2.1=0 then qFQ ⟨qFp s.e,s.p⟩ (rdN s.e.ask.2.2.2.2.1).1.2.2.2.2.2.2.2.1 else ⟨qFp s.e,s.p⟩
theorem qoY {s:Si} (n:wO) (hb:s.e.ask.2.2.2.2.1.length≤1000000):qe4 (s.t,n,())=some ((agrS s n).t,()):=by
 unfold qe4 agrS
 dsimp only
 rw [show s.t.1.2.2.1=s.e.ph from rfl,show s.t.1.2.2.2.2.2.2.2.2.2.2.2.1=s.e.ask from rfl,qtH]
 by_cases h5:s.e.ph=5
 ·by_cases hm:qt5 s.e.ask n.2.1 n.2.2.1
  ·rw [if_neg (fun h=>h.elim (fun h=>h h5) (fun h=>h hm)),D_t hm]
   refine (qF (a:=(false,())) ((qB (bq_f h5)).trans rfl)).trans ((qB rfl).trans ?_)
   rw [qsQ _ hb]
   refine (qF rfl).trans ?_
   by_cases hr:n.2.2.2.1=0
   ·rw [if_pos hr]
    refine (qC (qc0 hr)).trans ?_
    exact (qX (qcU (s:=qFQ s (rdN s.e.ask.2.2.2.2.1).1.2.2.2.2.2.2.2.1) h5)).trans rfl
   ·rw [if_neg hr]
    refine (qB (v5 hr)).trans ?_
    exact (qX (qcU h5)).trans rfl
  ·rw [if_pos (.inr hm),D_f hm]
   exact (qF (a:=(true,())) ((qB (bq_f h5)).trans rfl)).trans ((qC rfl).trans (qd5 s))
 ·rw [if_pos (.inl h5)]
  exact (qF (a:=(true,())) (qC (bq_t h5))).trans ((qC rfl).trans (qd5 s))
def oqS (h:THub):Si:=⟨{ twE 0 (u8 0) 1 with hub:=h },(true,[],false,())⟩
theorem qA3:vZ (true,())=some ((oqS hub1).t,()):=by
 unfold vZ
 refine (qH rfl).trans ?_
 rw [show rep (nat 32) (u8 0)=twK (u8 0) from rfl,show qdE (twK (u8 0),[3,4],1,none' UInt8,())=_ from qiQ (twK (u8 0)) [3,4] 1 [] (by rw [qmG];omega) (by simp)]
 refine (qF rfl).trans ?_
 dsimp only
 rw [show keyD (twK (u8 0)) [3,4] 1 []=twG (u8 0) 1 from rfl,qiS,show newR (twG (u8 0) 1)=(twR (u8 0) 1,0,()) by unfold newR;rw [if_pos (qc5 (u8 0) (by omega))];rfl]
 refine (qF rfl).trans ((qC rfl).trans ?_)
 dsimp only
 rw [qKD]
 refine (qF rfl).trans ?_
 rw [qiR]
 refine (qF rfl).trans ?_
 exact (qF (o:=qgB _) rfl).trans rfl
theorem qFo:vZ (false,())=some ((oqS hub0).t,()):=by
 unfold vZ
 refine (qH rfl).trans ?_
 rw [show rep (nat 32) (u8 0)=twK (u8 0) from rfl,show qdE (twK (u8 0),[3,4],1,none' UInt8,())=_ from qiQ (twK (u8 0)) [3,4] 1 [] (by rw [qmG];omega) (by simp)]
 refine (qF rfl).trans ?_
 dsimp only
 rw [show keyD (twK (u8 0)) [3,4] 1 []=twG (u8 0) 1 from rfl,qiS,show newR (twG (u8 0) 1)=(twR (u8 0) 1,0,()) by unfold newR;rw [if_pos (qc5 (u8 0) (by omega))];rfl]
 refine (qF rfl).trans ((qB rfl).trans ?_)
 dsimp only
 rw [qiR]
 refine (qF rfl).trans ?_
 exact (qF (o:=qgB _) rfl).trans rfl
theorem qIk {h:THub} (h1:h.1.length=4) (h2:0≤h.2.2.2.1∧h.2.2.2.1 < 4) (h3:h.2.1.length=4) (h4:h.2.2.1.length=4):okS 0 (oqS h):=by
 have:=qKO 0 (.inl rfl) (u8 0) (g:=1) (by omega) (by omega)
 exact ⟨{ this.e with up:=h1,next:=h2,feed:=h3,life:=h4 },this.p⟩
theorem qA4:okS 0 (oqS hub1):=qIk rfl ⟨by show (0:Int)≤0;omega,by show (0:Int) < 4;omega⟩ rfl rfl
theorem qFt:okS 0 (oqS hub0):=qIk rfl ⟨by show (0:Int)≤0;omega,by show (0:Int) < 4;omega⟩ rfl rfl
def payM (mti:Int):M:=(mti,[(11,[48,48,48,48,48,55],())],())
def payB (mti:Int):BB:=wrM (payM mti)
theorem qh3 {mti:Int} (h:mti=200∨mti=400):z3 (payM mti)=true:=by rcases h with rfl | rfl <;> decide
theorem qo9 {mti:Int} (h:mti=200∨mti=400):qbK (mti,())=some (payB mti,()):=by
 unfold qbK
 have hr:=qh3 h
 rw [show xW ((mti,[(11,[u8 48,u8 48,u8 48,u8 48,u8 48,u8 55],())],()),())=xW (payM mti,()) from rfl,kB _ (zY hr).2,if_pos hr];rfl
def payD (day:Int):M:=(200,[(11,[48,48,48,48,48,55],()),(15,dg day 6,())],())
theorem qEA (day:Int):stM (payM 200) day=payD day:=rfl
theorem qtZ (day:Int):z3 (payD day)=true:=qj6 (qh3 (.inl rfl)) day
theorem qkX (day:Int):qbV (wrM (payD day)):=by
 refine ⟨?_, ?_⟩
 ·unfold wrM
  rw [List.length_append,List.length_append,j8]
  split <;> omega
 ·have:=qCa (qtZ day)
  have h:((payD day).2.1.map (fun v=>v.2.1.length+2)).sum=16:=by
   show 6+2+((dg day 6).length+2+0)=16
   rw [zP]
  omega
theorem qpS {day:Int} (h0:0≤day) (h1:day≤999999):z5 (payB 200) day=(wrM (payD day),0):=by
 have hr:rdM (payB 200)=(payM 200,0,()):=qeP (qh3 (.inl rfl))
 unfold z5
 rw [if_neg,hr]
 ·rw [if_neg,qEA]
  have:=(qkX day).2
  show ¬ 900 < (wrM (stM (payM 200) day)).length
  rw [qEA];omega
 ·unfold badS
  rw [hr]
  rintro (h | h | h | h | h)
  ·omega
  ·omega
  ·exact h rfl
  ·exact h (by show qcH 200;decide)
  ·exact absurd h (by show ¬ wW (payM 200);decide)
theorem qGU (s:Si) (b:BB):(qaR s b).1.e.day=s.e.day:=by
 unfold qaR
 split
 ·rfl
 split
 ·rfl
 split
 ·rfl
 have h:(qjT s (kJ s.e b) s.e.ring.1.2.1).1.e.day=s.e.day:=by unfold qjT;split <;> rfl
 dsimp only
 split <;> exact h
def zO (day:Int):BB:=wrM (payD day)
def zX:Si:=popS (qxY (evS (popS (oqS hub1) [zO 0]) 1 0 (zO 0)) (zO 0)) []
theorem qLr:subS (oqS hub1) (payB 200)=(zX,0):=by
 unfold subS
 rw [show (oqS hub1).e.day=0 from rfl,qpS (by omega) (by omega),if_neg (not_not_intro rfl),if_neg (not_not_intro (show qd2 (oqS hub1).e.ph from .inl rfl)),show putQ (oqS hub1).e.queue (wrM (payD 0),(0:Int)).1=([zO 0],0) from rfl,if_neg (not_not_intro rfl)]
 refine Prod.ext ?_ rfl
 show qjJ 1 (evS (popS (oqS hub1) [zO 0]) 1 0 (zO 0))=zX
 unfold qjJ
 rw [show (evS (popS (oqS hub1) [zO 0]) 1 0 (zO 0)).e.queue=[zO 0] from rfl]
 dsimp only
 rw [qpZ (s:=evS (popS (oqS hub1) [zO 0]) 1 0 (zO 0)) (b:=zO 0) (qkX 0) (by show jN 3;unfold jN;omega) (by show (0:Int)≤900000;omega) qIN,if_pos rfl]
 rfl
theorem qm8 {s:Si} {day:Int} (h0:0≤day) (h9:day≤999999):vI (stN s (dayQ day)):=by
 have h:=qxQ s.e.stan
 refine ⟨.inr (.inr (.inr (.inl rfl))),h.1,h.2,by show (0:Int)≤0;omega,by show (0:Int)≤99;omega,fun _=>rfl, ?_⟩
 unfold qy0
 rw [if_neg (fun q=>absurd q.2 (by show ¬ (201:Int)=101;omega))]
 refine ⟨rfl,rfl,rfl, ?_⟩
 rw [if_pos ⟨rfl,rfl⟩]
 exact ⟨h0,h9⟩
def datS (s:Si) (day:Int):Si:=qxY (askS (phS s 5) (dayQ day)) (qo2 (stN (phS s 5) (dayQ day)))
theorem qJT {s:Si} {day:Int} (h0:0≤s.e.day) (hd:s.e.day < day) (h9:day≤999999) (hp:s.e.ph=3) (ha:s.e.ask.1=0) (hq:s.e.seq≤900000) (hu:upH s.e.hub):qBs s day=(datS s day,0):=by
 unfold qBs
 rw [if_neg (by omega),if_neg (not_not_intro (show qd2 s.e.ph by rw [hp];exact .inl rfl)),if_neg (by omega)]
 refine Prod.ext ?_ rfl
 exact qE6 (s:=phS s 5) (qm8 (by omega) h9) (by show ¬ (201:Int)=1;omega) (by show jN 5;unfold jN;omega) hq hu
theorem qH0 {s:Si} {day:Int} (h0:0≤s.e.day) (hd:s.e.day < day) (h9:day≤999999) {n:wO} (hn:n.2.1=201) (hs:n.2.2.1=(datS s day).e.ask.2.1) (hr:n.2.2.2.1=0) (bs:WT) (p:qfT):agrS ⟨{ (datS s day).e with win:=bs },p⟩ n=qFQ ⟨qFp { (datS s day).e with win:=bs },p⟩ day:=by
 unfold agrS
 rw [if_neg,if_pos hr]
 ·rw [show (⟨{ (datS s day).e with win:=bs },p⟩:Si).e.ask.2.2.2.2.1=qo2 (stN (phS s 5) (dayQ day)) from rfl,qGA (qm8 (by omega) h9)]
  rfl
 ·rintro (h | h)
  ·exact h rfl
  ·refine h ⟨?_,hn.symm,hs.symm⟩
   intro h
   have:(201:Int)=0:=congrArg Prod.fst h
   omega
theorem qAK:wE ()=some (true,()):=by
 have ok0:=qA4
 unfold wE
 refine (qX qA3).trans ((qF rfl).trans ((qX (qo9 (.inl rfl))).trans ((qF rfl).trans ?_)))
 have hb:(payB 200).length≤1000000:=by
  have:=(qkX 0).2
  have:=qCa (qh3 (mti:=200) (.inl rfl))
  have h:((payM 200).2.1.map (fun v=>v.2.1.length+2)).sum=8:=rfl
  unfold payB;omega
 have hx:=qaF ok0 (by omega) (payB 200) hb
 rw [qLr] at hx
 refine (qX hx).trans ((qF rfl).trans ((qX (qo9 (.inl rfl))).trans ((qF rfl).trans ?_)))
 have hst:=vS (payB 200) 5 hb
 rw [qpS (by omega) (by omega)] at hst
 refine (qX hst).trans ((qF rfl).trans ?_)
 have hrd:j5 (wrM (payD 5),())=some (payD 5,0,()):=by
  rw [xK _ (by have:=(qkX 5).2;omega),qeP (qtZ 5)]
 refine (qX hrd).trans ((qF rfl).trans ?_)
 have hgt:xL (payD 5,15,())=some (dg 5 6,true,()):=(vC (payD 5) 15 (by show (2:Nat)≤1000000;omega)).trans rfl
 refine (qX hgt).trans ((qF rfl).trans ?_)
 refine (qX (qp5 (oqS hub1).e 0 (by show (0:Nat)≤1000000;omega))).trans ((qF rfl).trans ((qX (qo9 (.inl rfl))).trans ((qF rfl).trans ?_)))
 have okl:okS 1 (qt7 (oqS hub1) 0):=qFu ok0 (by omega) (by omega)
 have hl:=qaF okl (by omega) (payB 200) hb
 have hl7:subS (qt7 (oqS hub1) 0) (payB 200)=(qt7 (oqS hub1) 0,7):=by
  unfold subS
  rw [show (qt7 (oqS hub1) 0).e.day=0 from rfl,qpS (by omega) (by omega),if_neg (not_not_intro rfl),if_pos (show ¬ qd2 (qt7 (oqS hub1) 0).e.ph from show ¬ qd2 (0:Int) by decide)]
 rw [hl7] at hl
 refine (qX hl).trans ((qF rfl).trans ?_)
 have hd:=qsY ok0 (by omega) 9
 have okd:=qHk ok0 9
 rw [qJT (s:=oqS hub1) (day:=9) (by show (0:Int)≤0;omega) (by show (0:Int) < 9;omega) (by omega) rfl rfl (by show (0:Int)≤900000;omega) qIN] at hd okd
 refine (qX hd).trans ((qF rfl).trans ((qX (qo9 (.inr rfl))).trans ((qF rfl).trans ?_)))
 have ht:xV ((oqS hub1).t,(2,0,[0,0],0,4,payB 400,none' UInt8,()),payD 5,())=some ((evS (oqS hub1) 2 4 (payB 400)).t,()):=by
  unfold xV
  refine (qX (wG (payD 5))).trans ((qF rfl).trans ((qB (by rw [D_t (show qcH (payD 5).1 from show qcH 200 by decide)];rfl)).trans ?_))
  refine (qX (yI 3)).trans ((qF rfl).trans ((qC (D_t (.inl rfl))).trans ?_))
  refine (qF (o:=yP _) rfl).trans ((qF (o:=yO _) rfl).trans ?_)
  exact (qX (qbN ok0 (by omega) 2 4 (payB 400))).trans rfl
 refine (qX ht).trans ((qF rfl).trans ?_)
 have hw:=qq8 ok0 (by omega) (true,201,1,0,0,[],[],8,())
 refine (qX hw).trans ((qF rfl).trans ?_)
 refine (qF (a:=(false,())) rfl).trans ((qB rfl).trans ?_)
 have ha:=qoY (s:=datS (oqS hub1) 9) (false,201,(datS (oqS hub1) 9).e.ask.2.1,0,0,[],[],0,()) (by have:=(qlZ (qm8 (s:=phS (oqS hub1) 5) (day:=9) (by omega) (by omega))).2;show (qo2 (stN (phS (oqS hub1) 5) (dayQ 9))).length≤1000000;omega)
 have ha2:=qH0 (s:=oqS hub1) (day:=9) (by show (0:Int)≤0;omega) (by show (0:Int) < 9;omega) (by omega) (n:=(false,201,(datS (oqS hub1) 9).e.ask.2.1,0,0,[],[],0,())) rfl rfl rfl (datS (oqS hub1) 9).e.win (datS (oqS hub1) 9).p
 rw [show agrS (datS (oqS hub1) 9) _=_ from ha2] at ha
 refine (qX ha).trans ((qF rfl).trans ?_)
 refine (qF (a:=(true,())) ?_).trans rfl
 refine (qC rfl).trans ((qC rfl).trans ((qH rfl).trans ((qC rfl).trans ((qC rfl).trans ((qC rfl).trans ((qC rfl).trans ?_))))))
 refine (qC (qAQ (by decide))).trans ((qC rfl).trans ?_)
 refine (qX (qxU okl (by omega))).trans ((qF rfl).trans ((qC rfl).trans ?_))
 refine (qC rfl).trans ((qC rfl).trans ((qH rfl).trans ((qC rfl).trans ((qH rfl).trans ((qC rfl).trans ?_)))))
 refine (qC (qc0 ((qGU _ _).trans rfl))).trans ((qC rfl).trans ((qC rfl).trans ?_))
 refine (qX (qq7 (datS (oqS hub1) 9))).trans ((qF rfl).trans ((qC rfl).trans ?_))
 refine (qX (qcV ok0 (by omega))).trans ((qF rfl).trans ?_)
 exact (qX (show vB ((qsP (oqS hub1)).t,(oqS hub1).t,())=some (true,()) from qxU ok0 (by omega))).trans rfl
end Yp
namespace Yp
open Go
set_option maxRecDepth 100000
set_option maxHeartbeats 2000000
set_option linter.unusedSectionVars false
section
variable (fill : UInt8) {g : Nat} (hg : 1 ≤ g) (hg2 : g ≤ 50) {na nb : BB} (ha : na.length = 8) (hb : nb.length = 8) (bs bt bu : List UInt64)
include hg hg2 ha
include hb
end
end Yp
namespace Yp
open Go
set_option maxRecDepth 100000
set_option maxHeartbeats 2000000
theorem qEz {b:BB} {day:Int} (h:badS b day):z5 b day=([],1):=if_pos h
theorem qEy {m:M} (hr:z3 m=true) {day:Int} (h0:0≤day) (h1:day≤999999) (ht:qcH m.1) (hs:¬ wW m) (hl:(wrM (stM m day)).length≤900):z5 (wrM m) day=(wrM (stM m day),0):=by
 have e:rdM (wrM m)=(m,0,()):=qeP hr
 unfold z5
 rw [if_neg,e,if_neg (show ¬ 900 < (wrM (stM m day)).length by omega)]
 unfold badS
 rw [e]
 rintro (h | h | h | h | h)
 ·omega
 ·omega
 ·exact h rfl
 ·exact h ht
 ·exact hs h
theorem qDW (k:Int) (l:List V):((l.filter fun v=>decide (v.1 < k)).flatMap wrV).length+((l.filter fun v=>decide (k < v.1)).flatMap wrV).length≤(l.flatMap wrV).length:=by
 induction l with
 | nil=>simp
 | cons v l ih =>
  simp only [List.filter_cons,List.flatMap_cons,List.length_append]
  by_cases h1:v.1 < k
  ·rw [if_pos (decide_eq_true h1),if_neg (by rw [decide_eq_true_eq];omega),List.flatMap_cons,List.length_append];omega
  ·rw [if_neg (by rw [decide_eq_true_eq];exact h1)]
   by_cases h2:k < v.1
   ·rw [if_pos (decide_eq_true h2),List.flatMap_cons,List.length_append];omega
   ·rw [if_neg (by rw [decide_eq_true_eq];exact h2)];omega
theorem qH5 (m:M) (day:Int):(wrM (stM m day)).length≤(wrM m).length+16:=by
 have h1:=qDW 15 m.2.1
 have h2:(wrV (15,dg day 6,())).length≤8:=by
  have:=qH3 (v:=(15,dg day 6,())) (qC9 day)
  rw [show ((15,dg day 6,()):V).2.1=dg day 6 from rfl,zP] at this
  exact this
 have h5:((setR m.2.1 (15,dg day 6,())).flatMap wrV).length≤(m.2.1.flatMap wrV).length+8:=by
  unfold setR
  rw [List.flatMap_append,List.flatMap_cons,List.length_append,List.length_append]
  dsimp only
  omega
 unfold wrM stM
 dsimp only
 generalize setR m.2.1 (15,dg day 6,())=l at h5
 have h3:=(ql0 (nosF m.2.1)).1
 have h4:=(ql0 (nosF l)).2
 rw [List.length_append,List.length_append,List.length_append,List.length_append]
 omega
theorem qIW {m:M} (hr:z3 m=true) (day:Int):wW (stM m day)↔wW m:=by
 unfold wW stM
 dsimp only
 rw [qC2 (x:=(15,dg day 6,())) (qZ.1 hr).1,if_neg (by show ¬ (15:Int)=39;omega)]
theorem qKv {m:M} (hr:z3 m=true) (a b:Int):stM (stM m a) b=stM m b:=by
 unfold stM
 dsimp only
 rw [qGT (x:=(15,dg a 6,())) (y:=(15,dg b 6,())) rfl (qZ.1 hr).1]
theorem qLd {m:Int} (h:zT m):i64 (idiv m 100)=clsD m:=by
 unfold clsD
 rw [if_pos h]
 have h1:=h.1
 have h2:=h.2.1
 simp (disch:=omega) only [go_sem,Int.reduceToNat]
theorem qHr      (m : M) {c : Int} (hc : c = clsD m.1) : (sel (beq c 1) (sel (getR 39 m.2.1).2.1 (some (bnot (seq (getR 39 m.2.1).1 [57, 49]), ())) (some (true, ())))
         (sel (beq c 2) (sel (getR 39 m.2.1).2.1 (some (bnot (seq (getR 39 m.2.1).1 [57, 49]), ())) (some (true, ())))
          (sel (beq c 4) (sel (getR 39 m.2.1).2.1 (some (bnot (seq (getR 39 m.2.1).1 [57, 49]), ())) (some (true, ()))) (some (false, ())))) : Option (Bool × Unit)) = some (D (qcH   m.1 ∧ ¬ wW    m), ()) := by
  have hT : (sel (getR 39 m.2.1).2.1 (some (bnot (seq (getR 39 m.2.1).1 [57, 49]), ())) (some (true, ())) : Option (Bool × Unit)) = some (D (¬ wW    m), ()) := by
    unfold wW   
    cases h : (getR 39 m.2.1).2.1
    · rw [D_t (fun h => Bool.false_ne_true h.1)]; rfl
    · by_cases h2 : (getR 39 m.2.1).1 = [57, 49]
      · rw [D_f (fun q => q ⟨rfl, h2⟩), qAQ   h2]; rfl
      · rw [D_t (fun q => h2 q.2), qIV   h2]; rfl
  rw [hT]
  unfold qcH  
  rw [← hc]
  by_cases h1 : c = 1
  · subst h1
    exact (qC       rfl).trans (jI      ⟨fun h => ⟨.inl rfl, h⟩, fun h => h.2⟩)
  refine (qB       (v5    h1)).trans ?_
  by_cases h2 : c = 2
  · subst h2
    exact (qC       rfl).trans (jI      ⟨fun h => ⟨.inr (.inl rfl), h⟩, fun h => h.2⟩)
  refine (qB       (v5    h2)).trans ?_
  by_cases h4 : c = 4
  · subst h4
    exact (qC       rfl).trans (jI      ⟨fun h => ⟨.inr (.inr rfl), h⟩, fun h => h.2⟩)
  refine (qB       (v5    h4)).trans ?_
  rw [D_f (fun h => by have := h.1; omega)]
theorem qA5 (d:UInt16):∃ day:Int,i64 (n16 d)=day∧0≤day∧day≤65535:=by
 have:=d.toNat_lt
 exact ⟨(d.toNat:Int),by rw [g60];simp (disch:=omega) only [go_sem,Int.reduceToNat],by omega,by omega⟩
theorem qmZ (b:BB) (d o:UInt16):kF (b,d,o,())=some (true,()):=by
 unfold kF
 rw [qAK]
 refine (qF rfl).trans ?_
 dsimp only
 obtain ⟨day,hday,d0,d1⟩:=qA5 d
 obtain ⟨oth,hoth,o0,o1⟩:=qA5 o
 rw [hday,hoth]
 by_cases hl:b.length≤800
 ·refine (qB (lt_f (show ¬ (800:Int) < len b by simp only [go_sem,Int.reduceToNat];omega))).trans ?_
  refine (qX (xK b (by omega))).trans ((qF rfl).trans ((qX (vS b day (by omega))).trans ((qF rfl).trans ?_)))
  by_cases h0:(rdM b).2.1=0
  ·obtain ⟨hr,hw⟩:=qkV h0
   obtain ⟨hn,hf⟩:=zY hr
   refine (qB (bq_f h0)).trans ((qX (vC _ _ (by omega))).trans ((qF rfl).trans ?_))
   refine (qX (qHr (rdM b).1 (qLd (qZ.1 hr).2))).trans ((qF rfl).trans ?_)
   by_cases hm:qcH (rdM b).1.1∧¬ wW (rdM b).1
   ·have hlen:∀ x,(wrM (stM (rdM b).1 x)).length≤900:=fun x=>by
     have:=qH5 (rdM b).1 x
     rw [hw] at this;omega
    have e1:∀ x,0≤x→x≤65535→z5 b x=(wrM (stM (rdM b).1 x),0):=fun x h0 h1=>by
     have:=qEy hr h0 (by omega:x≤999999) hm.1 hm.2 (hlen x)
     rwa [hw] at this
    have hs:=qj6 hr day
    have e2:z5 (wrM (stM (rdM b).1 day)) oth=(wrM (stM (rdM b).1 oth),0):=by
     have:=qEy hs o0 (by omega:oth≤999999) hm.1 (fun h=>hm.2 ((qIW hr day).1 h)) (by rw [qKv hr];exact hlen oth)
     rwa [qKv hr] at this
    rw [e1 day d0 d1,D_t hm]
    refine (qF (a:=(false,())) rfl).trans ((qB rfl).trans ((qB rfl).trans ?_))
    have hld:=hlen day
    dsimp only
    rw [xK _ (by omega),qeP hs]
    refine (qF rfl).trans ?_
    rw [vS _ oth (by omega),vS b oth (by omega),e2,e1 oth o0 o1]
    refine (qF rfl).trans ((qF rfl).trans ?_)
    dsimp only
    have hsn:=zY hs
    have hg:xL (stM (rdM b).1 day,15,())=some (dg day 6,true,()):=by
     rw [vC _ _ (by omega)]
     show some (getR 15 (setR (rdM b).1.2.1 (15,dg day 6,())))=_
     rw [qC2 (x:=(15,dg day 6,())) (qZ.1 hr).1,if_pos rfl]
    rw [hg]
    refine (qF rfl).trans ?_
    dsimp only
    rw [kD _ (by rw [zP];omega),if_pos ⟨by rw [zP];omega,by rw [zP];omega,qwA⟩,qIz d0 (by show day < 10 ^ 6;omega)]
    refine (qF rfl).trans ?_
    dsimp only
    refine (qF (a:=(true,())) ?_).trans rfl
    refine (qC rfl).trans ((qC rfl).trans ((qC rfl).trans ((qC rfl).trans ?_)))
    refine (qF (qY _ _)).trans ((qC (qeF _)).trans ((qC rfl).trans ((qC (kH _)).trans ?_)))
    rw [qf9 _ _ (by omega),qf9 _ _ (by omega)]
    refine (qF rfl).trans ((qF rfl).trans ?_)
    dsimp only
    have hdr:qs1 (stM (rdM b).1 day).2.1 15=qs1 (rdM b).1.2.1 15:=qGl (x:=(15,dg day 6,())) (qZ.1 hr).1
    rw [hdr,qqC _ _ (by
     show (qs1 (rdM b).1.2.1 15).length≤1000000
     have:(qs1 (rdM b).1.2.1 15).length≤(rdM b).1.2.1.length:=List.length_filter_le _ _
     omega)]
    refine (qF rfl).trans ?_
    exact qnJ rfl
   ·have hb:badS b day:=by
     by_cases ht:qcH (rdM b).1.1
     ·exact .inr (.inr (.inr (.inr (Classical.not_not.1 fun h=>hm ⟨ht,h⟩))))
     ·exact .inr (.inr (.inr (.inl ht)))
    rw [qEz hb,D_f hm]
    exact (qF (a:=(false,())) rfl).trans rfl
  ·rw [qEz (show badS b day from .inr (.inr (.inl h0)))]
   exact (qC (bq_t h0)).trans rfl
 ·exact qC (lt_t (show (800:Int) < len b by simp only [go_sem,Int.reduceToNat];omega))
def fig1 (t:Int):Int:=t / 10 % 10
def qs4 (m:M):Prop:=(fig1 m.1=1∨fig1 m.1=3)∧wW m
instance (m:M):Decidable (qs4 m):=by unfold qs4;infer_instance
def qzO:V:=(39,[57,49],())
def decM (m:M):M:=(m.1+10,(if (getR 11 m.2.1).2.1=true then [(11,(getR 11 m.2.1).1,()),qzO] else [qzO]),())
def trfS (s:Si) (q:Int) (b:BB) (m:M):Si :=
 if ¬ qcH m.1 then qrK s 3 else if qd2 s.e.ph then evS s (if qs4 m then 3 else 2) q b
 else if ¬ s.e.ph=6∨¬ (qaN m.1).2.1=true then qrK s 3 else (qaR s (wrM (decM m))).1
theorem qIx:jS 39 [57,49]=true:=by decide
theorem qzB {no:Int}:∀ {l:List V},(getR no l).2.1=true→∃ v∈l,v.1=no∧(getR no l).1=v.2.1
 | [],h=>by cases h
 | v :: l,h=>by
  unfold getR at h ⊢
  split at h
  ·rename_i e
   rw [if_pos e]
   exact ⟨v,List.mem_cons_self ..,e,rfl⟩
  ·rename_i e
   rw [if_neg e]
   obtain ⟨u,hu,h1,h2⟩:=qzB h
   exact ⟨u,List.mem_cons_of_mem _ hu,h1,h2⟩
theorem qtO {m:M} (hr:z3 m=true) (h:(getR 11 m.2.1).2.1=true):jS 11 (getR 11 m.2.1).1=true:=by
 obtain ⟨v,hv,h1,h2⟩:=qzB h
 have:=(j3 (qZ.1 hr).1 v hv).2
 rw [h1] at this
 rw [h2];exact this
theorem qiF {m:M} (hr:z3 m=true) (hp:(qaN m.1).2.1=true):z3 (decM m)=true:=by
 have ht:=(qZ.1 hr).2
 refine qZ.2 ⟨?_, ?_⟩
 ·unfold decM
  dsimp only
  split
  ·rename_i h
   unfold zE zE zE qzO
   rw [Bool.and_eq_true,Bool.and_eq_true,Bool.and_eq_true,Bool.and_eq_true]
   exact ⟨decide_eq_true (show (0:Int) < 11 by omega),qtO hr h,decide_eq_true (show (11:Int) < 39 by omega),qIx,rfl⟩
  ·decide
 ·unfold qaN at hp
  split at hp
  ·rename_i h
   obtain ⟨⟨t1,t2,t3,t4⟩,h2⟩:=h
   show zT (m.1+10)
   unfold zT
   omega
  ·cases hp
theorem qJQ {t:Int} (h:zT t):imod (i64 (idiv t 10)) 10=fig1 t:=by
 have h1:=h.1
 have h2:=h.2.1
 unfold fig1
 simp (disch:=omega) only [go_sem,Int.reduceToNat]
theorem qlE {m:M} (hr:z3 m=true):yP (m,())=some (D (qs4 m),()):=by
 have hf:=qZ.1 hr
 have hl:=(zY hr).1
 unfold yP qs4
 dsimp only
 rw [qiX hf.1 (by omega),qJQ hf.2]
 by_cases h1:fig1 m.1=1
 ·rw [qc0 h1]
  refine (qF (a:=(D (wW m),())) rfl).trans (jI ⟨fun h=>⟨.inl h1,h⟩,fun h=>h.2⟩)
 rw [v5 h1]
 by_cases h3:fig1 m.1=3
 ·rw [qc0 h3]
  refine (qF (a:=(D (wW m),())) rfl).trans (jI ⟨fun h=>⟨.inr h3,h⟩,fun h=>h.2⟩)
 rw [v5 h3,show D ((fig1 m.1=1∨fig1 m.1=3)∧wW m)=false from D_f (fun h=>Or.elim h.1 h1 h3)];rfl
theorem qm3 {s:Si} {n:Nat} (hs:okS n s) (hn:n≤900000) {m:M} (hr:z3 m=true):qb5 (s.t,m,())=some ((if ¬ (qaN m.1).2.1=true then qrK s 3 else (qaR s (wrM (decM m))).1).t,()):=by
 have hf:=qZ.1 hr
 have hl:=(zY hr).1
 unfold qb5
 dsimp only
 rw [qsW]
 refine (qF rfl).trans ?_
 by_cases hp:(qaN m.1).2.1=true
 ·rw [if_neg (not_not_intro hp)]
  refine (qB (by rw [hp];rfl)).trans ?_
  have ht:(qaN m.1).1=m.1+10:=by
   unfold qaN at hp ⊢
   split at hp
   ·rename_i h;rw [if_pos h]
   ·cases hp
  have hd:=qiF hr hp
  have hdf:=(zY hd).2
  have hw:=qcR _ hdf
  rw [if_pos hd] at hw
  rw [ht,show jG ((m.1+10,none' (Int×BB×Unit),()),39,[u8 57,u8 49],())=some ((m.1+10,[qzO],()),0,()) by
   rw [qb4 _ _ _ (by show (0:Nat)≤100000;omega) (by show (2:Nat)≤1000000;omega)]
   unfold qDB
   rw [if_neg (by rw [fo39];simp),if_pos (show jS 39 [u8 57,u8 49]=true from qIx)];rfl]
  refine (qF rfl).trans ?_
  rw [qgT _ _ (by omega),qq6 hf.1]
  refine (qF rfl).trans ?_
  dsimp only
  cases hh:(getR 11 m.2.1).2.1
  ·refine (qB rfl).trans ?_
   have e:decM m=(m.1+10,[qzO],()):=by unfold decM;rw [hh];rfl
   rw [e] at hw ⊢
   refine (qX hw).trans ((qF rfl).trans ?_)
   exact (qX (vD hs hn _)).trans rfl
  ·refine (qC rfl).trans ?_
   have e:decM m=(m.1+10,[(11,(getR 11 m.2.1).1,()),qzO],()):=by unfold decM;rw [hh];rfl
   rw [e] at hw ⊢
   have h11:=qtO hr hh
   have h4:=qv2 h11
   rw [show jG ((m.1+10,[qzO],()),11,(getR 11 m.2.1).1,())=some ((m.1+10,[(11,(getR 11 m.2.1).1,()),qzO],()),0,()) by
    rw [qb4 _ _ _ (by show (1:Nat)≤100000;omega) (by omega)]
    unfold qDB
    rw [if_neg (by rw [fo11];simp),if_pos h11];rfl]
   refine (qF rfl).trans ((qX hw).trans ((qF rfl).trans ?_))
   exact (qX (vD hs hn _)).trans rfl
 ·rw [if_pos hp]
  refine (qC (by rw [Bool.eq_false_iff.2 hp];rfl)).trans (qd5 s)
theorem qd0 {s:Si} {n:Nat} (hs:okS n s) (hn:n≤900000) {m:M} (hr:z3 m=true) (v:TEnv):xV (s.t,v,m,())=some ((trfS s v.2.2.2.2.1 v.2.2.2.2.2.1 m).t,()):=by
 unfold xV trfS
 dsimp only
 rw [wG]
 refine (qF rfl).trans ?_
 by_cases ht:qcH m.1
 ·rw [if_neg (not_not_intro ht)]
  refine (qB (by rw [D_t ht];rfl)).trans ?_
  refine (qX (yI s.e.ph)).trans ((qF rfl).trans ?_)
  by_cases hg:qd2 s.e.ph
  ·rw [if_pos hg]
   refine (qC (D_t hg)).trans ((qX (qlE hr)).trans ((qF rfl).trans ?_))
   have hpk:yO ((D (qs4 m),()).1,3,2,())=some ((if qs4 m then 3 else 2),()):=by
    unfold yO
    by_cases hd:qs4 m
    ·rw [D_t hd,if_pos hd];rfl
    ·rw [D_f hd,if_neg hd];rfl
   refine (qX hpk).trans ((qF rfl).trans ?_)
   exact (qX (qbN hs hn _ _ _)).trans rfl
  ·rw [if_neg hg]
   refine (qB (D_f hg)).trans ?_
   by_cases h6:s.e.ph=6
   ·refine (qC (qc0 h6)).trans ((qX (qm3 hs hn hr)).trans ?_)
    by_cases hp:(qaN m.1).2.1=true
    ·rw [if_neg (not_not_intro hp),if_neg (fun h=>h.elim (fun h=>h h6) (fun h=>h hp))];rfl
    ·rw [if_pos hp,if_pos (.inr hp)];rfl
   ·rw [if_pos (.inl h6)]
    exact (qB (v5 h6)).trans (qd5 s)
 ·rw [if_pos ht]
  exact (qC (by rw [D_f ht];rfl)).trans (qd5 s)
def outX (s:Si) (b:BB):BB:=zF (kJ s.e b)++qc9 s.e.ring.1.2.1 (zF (kJ s.e b))
theorem qyK {s:Si} {b:BB} (hb:qbV b):kO (vG (outX s b),())=some (outX s b,()):=by
 have hl:(outX s b).length=46+b.length:=by unfold outX;rw [List.length_append,qaU,x3,show (kJ s.e b).2.2.2.2.2.1=b from rfl];omega
 have h1:=hb.1
 have h2:=hb.2
 exact qy6 _ (by omega)
theorem qa8 {m:M} (hr:z3 m=true):jB (m,())=some (D (qs4 m),()):=by
 have hf:=qZ.1 hr
 have hl:=(zY hr).1
 unfold jB qs4
 dsimp only
 rw [qf5 (by omega),qJQ hf.2]
 refine (qF rfl).trans ?_
 by_cases hs:wW m
 ·rw [D_t hs]
  by_cases h1:fig1 m.1=1
  ·rw [qc0 h1,show D ((fig1 m.1=1∨fig1 m.1=3)∧wW m)=true from D_t ⟨.inl h1,hs⟩];rfl
  by_cases h3:fig1 m.1=3
  ·rw [v5 h1,qc0 h3,show D ((fig1 m.1=1∨fig1 m.1=3)∧wW m)=true from D_t ⟨.inr h3,hs⟩];rfl
  ·rw [v5 h1,v5 h3,show D ((fig1 m.1=1∨fig1 m.1=3)∧wW m)=false from D_f (fun h=>Or.elim h.1 h1 h3)];rfl
 ·rw [D_f hs,show D ((fig1 m.1=1∨fig1 m.1=3)∧wW m)=false from D_f (fun h=>hs h.2)];rfl
def clS:Si:=⟨{ (oqS hub1).e with ph:=6,ask:=(2,1,8,3,[u8 1],()) },(oqS hub1).p⟩
theorem qFv:okS 0 clS:=⟨{ qA4.e with ph:=⟨by show (0:Int)≤6;omega,by show (6:Int)≤8;omega⟩ },qA4.p⟩
def ansP (t:Int):Prop:=qcH t∧(fig1 t=0∨fig1 t=2)
theorem qlO {t:Int} (ht:zT t):(sel (bnot (beq (i64 (idiv t 100)) 1))
    (sel (bnot (beq (i64 (idiv t 100)) 2))
     (sel (bnot (beq (i64 (idiv t 100)) 4)) (some (true,()))
      (sel (bnot (beq (imod (i64 (idiv t 10)) 10) 0)) (some (bnot (beq (imod (i64 (idiv t 10)) 10) 2),())) (some (false,()))))
     (sel (bnot (beq (imod (i64 (idiv t 10)) 10) 0)) (some (bnot (beq (imod (i64 (idiv t 10)) 10) 2),())) (some (false,()))))
    (sel (bnot (beq (imod (i64 (idiv t 10)) 10) 0)) (some (bnot (beq (imod (i64 (idiv t 10)) 10) 2),())) (some (false,()))):Option (Bool×Unit))=some (D (¬ ansP t),()):=by
  rw [show i64 (idiv t 100)=clsD t by
    unfold clsD
    rw [if_pos ht]
    have h1:=ht.1
    have h2:=ht.2.1
    simp (disch:=omega) only [go_sem,Int.reduceToNat],qJQ ht]
  have hT:(sel (bnot (beq (fig1 t) 0)) (some (bnot (beq (fig1 t) 2),())) (some (false,())):Option (Bool×Unit))=some (D (¬ (fig1 t=0∨fig1 t=2)),()):=by
    by_cases h0:fig1 t=0
    · rw [bq_f h0,D_f (not_not_intro (.inl h0))];rfl
    by_cases h2:fig1 t=2
    · rw [bq_t h0,bq_f h2,D_f (not_not_intro (.inr h2))];rfl
    · rw [bq_t h0,bq_t h2,D_t (fun h=>Or.elim h h0 h2)];rfl
  rw [hT]
  unfold ansP qcH
  generalize clsD t=c
  by_cases h1:c=1
  · exact (qB (bq_f h1)).trans (jI ⟨fun h q=>h q.2,fun h q=>h ⟨.inl h1,q⟩⟩)
  refine (qC (bq_t h1)).trans ?_
  by_cases h2:c=2
  · exact (qB (bq_f h2)).trans (jI ⟨fun h q=>h q.2,fun h q=>h ⟨.inr (.inl h2),q⟩⟩)
  refine (qC (bq_t h2)).trans ?_
  by_cases h4:c=4
  · exact (qB (bq_f h4)).trans (jI ⟨fun h q=>h q.2,fun h q=>h ⟨.inr (.inr h4),q⟩⟩)
  refine (qC (bq_t h4)).trans ?_
  rw [D_t (fun q=>by have:=q.1;omega)]
theorem qLe {m:M} (ht:zT m.1) (h:¬ ansP m.1) (q:Int) (b:BB):trfS clS q b m=qrK clS 3:=by
 unfold trfS
 by_cases h1:qcH m.1
 ·rw [if_neg (not_not_intro h1),if_neg (show ¬ qd2 clS.e.ph from show ¬ qd2 6 by decide),if_pos]
  refine .inr fun hp=>h ⟨h1, ?_⟩
  unfold qaN at hp
  split at hp
  ·rename_i h2;exact h2.2
  ·cases hp
 ·rw [if_pos h1]
theorem qwB {m:M} (hr:z3 m=true) (hp:(qaN m.1).2.1=true) (h6:(getR 11 m.2.1).1.length≤6):qbV (wrM (decM m)):=by
 refine ⟨?_, ?_⟩
 ·unfold wrM
  rw [List.length_append,List.length_append,j8]
  split <;> omega
 ·have:=qCa (qiF hr hp)
  have h:((decM m).2.1.map (fun v=>v.2.1.length+2)).sum≤12:=by
   unfold decM
   dsimp only
   split
   ·show (getR 11 m.2.1).1.length+2+(2+2+0)≤12;omega
   ·show 2+2+0≤12;omega
  omega
theorem qIC {m:M} (hr:z3 m=true) (h:ansP m.1) (h6:(getR 11 m.2.1).1.length≤6) (q:Int) (b:BB):(qaN m.1).2.1=true∧trfS clS q b m=qxY clS (wrM (decM m)):=by
 have hp:(qaN m.1).2.1=true:=by
  unfold qaN
  rw [if_pos ⟨(qZ.1 hr).2,h.2⟩]
 refine ⟨hp, ?_⟩
 unfold trfS
 rw [if_neg (not_not_intro h.1),if_neg (show ¬ qd2 clS.e.ph from show ¬ qd2 6 by decide),if_neg (fun q=>q.elim (fun q=>q rfl) (fun q=>q hp))]
 exact congrArg Prod.fst (qpZ (s:=clS) (qwB hr hp h6) (by show jN 6;unfold jN;omega) (by show (0:Int)≤900000;omega) qIN)
theorem qCx {b:BB} (hb:qbV b):kQ (outX clS b,())=some (qpN (kJ clS.e b) (qc9 clS.e.ring.1.2.1 (zF (kJ clS.e b))),0,()):=by
 have hv:=qjF qFv.e hb
 have ht:=qaU clS.e.ring.1.2.1 (zF (kJ clS.e b))
 have hl:=x3 (kJ clS.e b)
 have hbl:(kJ clS.e b).2.2.2.2.2.1=b:=rfl
 have hb2:=hb.2
 unfold outX
 rw [qf7 _ (by rw [List.length_append,ht,hl,hbl];omega),qyF hv (show (kJ clS.e b).2.2.1=_ from qCI clS.e) ht]
theorem qDm:y5 (2,1,[u8 1],())=some ((2,1,8,3,[u8 1],()),0,()):=by
 rw [qoN]
 unfold qi7
 rw [if_pos ⟨.inr (.inl rfl),by omega,by omega,by simp,by simp⟩]
theorem qm0 (mti:UInt16) (st:UInt32) (has:Bool):kG (mti,st,has,())=some (true,()):=by
 unfold kG
 rw [qAK]
 refine (qF rfl).trans ?_
 dsimp only
 generalize i64 (iadd 100 (imod (i64 (n16 mti)) 800))=t
 obtain ⟨k,hk,k0,k9⟩:∃ k:Int,i64 (n32 (u32 (imod (n32 st) (n32 (u32 1000000)))))=k∧0≤k∧k≤999999:=by
  have e:imod (n32 st) (n32 (u32 1000000))=(st.toNat:Int) % 1000000:=by
   rw [v7 (by omega)]
   show Int.tmod (st.toNat:Int) 1000000=_
   exact Int.tmod_eq_emod_of_nonneg (by omega)
  have h2:0≤(st.toNat:Int) % 1000000∧(st.toNat:Int) % 1000000 < 1000000:=by omega
  rw [e,v7 (by omega),z8 (by omega) (by omega)]
  exact ⟨_,rfl,by omega,by omega⟩
 rw [hk,xJ,(qmK k0 k9).2]
 refine (qF rfl).trans ?_
 by_cases ht:zT t
 ·refine (qB (by rw [D_t ht];rfl)).trans ((qF rfl).trans ?_)
  have h6:(dg k 6).length=6:=zP
  have h11:jS 11 (dg k 6)=true:=qaG (no:=11) (w:=6) fo11 (by omega)
  dsimp only
  generalize dg k 6=tr at h6 h11
  cases has
  ·refine (qB rfl).trans ?_
   have hr:z3 ((t,[],()):M)=true:=qZ.2 ⟨rfl,ht⟩
   have hw:=kB _ (zY hr).2
   rw [if_pos hr] at hw
   refine (qX hw).trans ((qF rfl).trans ((qX qA3).trans ((qF rfl).trans ((qX qDm).trans ((qF rfl).trans ?_)))))
   refine (qX (qd0 qFv (by omega) hr (2,0,[0,0],0,1,wrM (t,[],()),none' UInt8,()))).trans ((qF rfl).trans ?_)
   by_cases ha:ansP t
   ·obtain ⟨hp,he⟩:=qIC hr ha (by show (0:Nat)≤6;omega) 1 (wrM (t,[],()))
    have hd:=qiF hr hp
    have hfb:=qwB hr hp (by show (0:Nat)≤6;omega)
    rw [show trfS clS (2,0,[0,0],0,1,wrM (t,[],()),none' UInt8,()).2.2.2.2.1 (2,0,[0,0],0,1,wrM (t,[],()),none' UInt8,()).2.2.2.2.2.1 (t,[],())=_ from he]
    refine (qF (a:=(false,())) rfl).trans ((qB rfl).trans ((qX (qlO ht)).trans ((qF rfl).trans ?_)))
    refine (qB (D_f (not_not_intro ha))).trans ((qB rfl).trans ((qH rfl).trans ?_))
    refine (qX (qyK (s:=clS) hfb)).trans ((qF rfl).trans ((qX (qCx hfb)).trans ((qF rfl).trans ?_)))
    refine (qX (show j5 (wrM (decM (t,[],())),())=some (decM (t,[],()),0,()) by rw [xK _ (by have:=hfb.2;omega),qeP hd])).trans ((qF rfl).trans ?_)
    have hg:=fun no=>vC (decM (t,[],())) no (by have:=(zY hd).1;omega)
    refine (qX (hg 39)).trans ((qF rfl).trans ((qX (hg 11)).trans ((qF rfl).trans ?_)))
    refine (qF (a:=(true,())) ?_).trans rfl
    have hdec:jB (decM (t,[],()),())=some (true,()):=by
     rw [qa8 hd]
     refine qnJ ⟨?_,rfl,rfl⟩
     have:=ha.2
     show fig1 (t+10)=1∨fig1 (t+10)=3
     unfold fig1 at this ⊢
     omega
    have hte:i64 (iadd t 10)=t+10:=z8 (by have:=ht.1;show _≤t+10;omega) (by have:=ht.2.1;show t+10≤_;omega)
    refine (qC rfl).trans ((qC rfl).trans ((qC rfl).trans ((qC (qc0 hte.symm)).trans ((qC (qAQ rfl)).trans ((qC rfl).trans ((qC rfl).trans ?_))))))
    exact (qH rfl).trans ((qC rfl).trans ((qX hdec).trans rfl))
   ·rw [show trfS clS (2,0,[0,0],0,1,wrM (t,[],()),none' UInt8,()).2.2.2.2.1 (2,0,[0,0],0,1,wrM (t,[],()),none' UInt8,()).2.2.2.2.2.1 (t,[],())=_ from qLe ht ha 1 (wrM (t,[],()))]
    refine (qF (a:=(false,())) rfl).trans ((qB rfl).trans ((qX (qlO ht)).trans ((qF rfl).trans ?_)))
    exact (qC (D_t ha)).trans rfl
  ·refine (qC rfl).trans ((qH (by simp only [go_sem,Int.reduceToNat,h6];omega)).trans ?_)
   have hr:z3 ((t,[(11,tr,())],()):M)=true:=qZ.2 ⟨by unfold zE zE;rw [Bool.and_eq_true,Bool.and_eq_true];exact ⟨decide_eq_true (show (0:Int) < 11 by omega),h11,rfl⟩,ht⟩
   have hw:=kB _ (zY hr).2
   rw [if_pos hr] at hw
   refine (qX hw).trans ((qF rfl).trans ((qX qA3).trans ((qF rfl).trans ((qX qDm).trans ((qF rfl).trans ?_)))))
   refine (qX (qd0 qFv (by omega) hr (2,0,[0,0],0,1,wrM (t,[(11,tr,())],()),none' UInt8,()))).trans ((qF rfl).trans ?_)
   by_cases ha:ansP t
   ·obtain ⟨hp,he⟩:=qIC hr ha (by show tr.length≤6;omega) 1 (wrM (t,[(11,tr,())],()))
    have hd:=qiF hr hp
    have hfb:=qwB hr hp (by show tr.length≤6;omega)
    rw [show trfS clS (2,0,[0,0],0,1,wrM (t,[(11,tr,())],()),none' UInt8,()).2.2.2.2.1 (2,0,[0,0],0,1,wrM (t,[(11,tr,())],()),none' UInt8,()).2.2.2.2.2.1 (t,[(11,tr,())],())=_ from he]
    refine (qF (a:=(false,())) rfl).trans ((qB rfl).trans ((qX (qlO ht)).trans ((qF rfl).trans ?_)))
    refine (qB (D_f (not_not_intro ha))).trans ((qB rfl).trans ((qH rfl).trans ?_))
    refine (qX (qyK (s:=clS) hfb)).trans ((qF rfl).trans ((qX (qCx hfb)).trans ((qF rfl).trans ?_)))
    refine (qX (show j5 (wrM (decM (t,[(11,tr,())],())),())=some (decM (t,[(11,tr,())],()),0,()) by rw [xK _ (by have:=hfb.2;omega),qeP hd])).trans ((qF rfl).trans ?_)
    have hg:=fun no=>vC (decM (t,[(11,tr,())],())) no (by have:=(zY hd).1;omega)
    refine (qX (hg 39)).trans ((qF rfl).trans ((qX (hg 11)).trans ((qF rfl).trans ?_)))
    refine (qF (a:=(true,())) ?_).trans rfl
    have hdec:jB (decM (t,[(11,tr,())],()),())=some (true,()):=by
     rw [qa8 hd]
     refine qnJ ⟨?_,rfl,rfl⟩
     have:=ha.2
     show fig1 (t+10)=1∨fig1 (t+10)=3
     unfold fig1 at this ⊢
     omega
    have hte:i64 (iadd t 10)=t+10:=z8 (by have:=ht.1;show _≤t+10;omega) (by have:=ht.2.1;show t+10≤_;omega)
    refine (qC rfl).trans ((qC rfl).trans ((qC rfl).trans ((qC (qc0 hte.symm)).trans ((qC (qAQ rfl)).trans ((qC rfl).trans ((qB rfl).trans ((qC (qAQ rfl)).trans ?_)))))))
    exact (qH rfl).trans ((qC rfl).trans ((qX hdec).trans rfl))
   ·rw [show trfS clS (2,0,[0,0],0,1,wrM (t,[(11,tr,())],()),none' UInt8,()).2.2.2.2.1 (2,0,[0,0],0,1,wrM (t,[(11,tr,())],()),none' UInt8,()).2.2.2.2.2.1 (t,[(11,tr,())],())=_ from qLe ht ha 1 (wrM (t,[(11,tr,())],()))]
    refine (qF (a:=(false,())) rfl).trans ((qB rfl).trans ((qX (qlO ht)).trans ((qF rfl).trans ?_)))
    exact (qC (D_t ha)).trans rfl
 ·exact qC (by rw [D_f ht];rfl)
def orS (day:Int) (w:List BB):Si:=⟨{ (oqS hub0).e with day:=day,queue:=w,got:=w.map fun b=>(1,[3,4],0,b,()) },(oqS hub0).p⟩
theorem qIj (day:Int) {w:List BB} (h:w.length≤8):okS 8 (orS day w):=⟨{ qpA qFt.e (Nat.zero_le 8) with queue:=by show w.length≤1000;omega,got:=by show (w.map _).length≤8;rw [List.length_map];exact h },by show (0:Nat)≤8;omega⟩
def qDL (day:Int) (w:List BB) (b:BB):List BB:=if (z5 b day).2=0∧w.length < 8 then w++[(z5 b day).1] else w
def qJX (day:Int) (w:List BB) (b:BB):Int:=if ¬ (z5 b day).2=0 then (z5 b day).2 else if 8≤w.length then 8 else 0
theorem qEJ {s:Si} (h:¬ (kL s.e.hub).2.2.1=0) (b:BB):¬ (qaR s b).2=0:=by
 unfold qaR
 split
 ·show ¬ (1:Int)=0;omega
 split
 ·show ¬ (7:Int)=0;omega
 split
 ·show ¬ (10:Int)=0;omega
 ·have e:(qjT s (kJ s.e b) s.e.ring.1.2.1).2=(kL s.e.hub).2.2.1:=by
   unfold qjT;rw [if_neg h]
  dsimp only
  rw [e,if_neg h,e];exact h
theorem qFa {s:Si} (h:¬ (kL s.e.hub).2.2.1=0):qsP s=s:=by
 unfold qsP
 generalize s.e.queue.length=k
 cases k with
 | zero=>rfl
 | succ k =>
  unfold qjJ
  split
  ·rfl
  ·rw [if_neg (qEJ h _)]
theorem qKt (day:Int) (w:List BB) (b:BB):subS (orS day w) b=(orS day (qDL day w b),qJX day w b):=by
 unfold subS qDL qJX
 rw [show (orS day w).e.day=day from rfl,show (orS day w).e.queue=w from rfl]
 by_cases h0:(z5 b day).2=0
 ·rw [if_neg (not_not_intro h0),if_neg (not_not_intro h0),if_neg (not_not_intro (show qd2 (orS day w).e.ph from .inl rfl))]
  by_cases h8:8≤w.length
  ·have e:putQ w (z5 b day).1=(w,8):=if_pos h8
   rw [e,if_pos (show ¬ (8:Int)=0 by omega),if_neg (fun h=>by have:=h.2;omega),if_pos h8]
  ·have e:putQ w (z5 b day).1=(w++[(z5 b day).1],0):=if_neg h8
   rw [e,if_neg (not_not_intro rfl),if_pos ⟨h0,by omega⟩,if_neg h8]
   refine Prod.ext ?_ rfl
   refine (qFa (show ¬ (kL hub0).2.2.1=0 by decide)).trans ?_
   unfold orS
   rw [List.map_append];rfl
 ·rw [if_pos h0,if_neg (fun h=>h0 h.1),if_pos h0]
theorem qGS {b:BB} (hb:b.length≤300) (day:Int):(z5 b day).2=0∨(z5 b day).2=1:=by
 unfold z5
 by_cases h:badS b day
 ·rw [if_pos h];exact .inr rfl
 ·rw [if_neg h]
  have h3:(rdM b).2.1=0:=Classical.not_not.1 fun q=>h (.inr (.inr (.inl q)))
  have:=qH5 (rdM b).1 day
  rw [(qkV h3).2] at this
  rw [if_neg (by omega)];exact .inl rfl
structure okW (w:List BB):Prop where
 len:w.length≤8
 fit:∀ b∈w,qbV b
theorem qHi {day:Int} {w:List BB} (h:okW w) (b:BB):okW (qDL day w b):=by
 unfold qDL
 split
 ·rename_i h0
  refine ⟨by rw [List.length_append,List.length_singleton];omega, ?_⟩
  intro x hx
  rcases List.mem_append.1 hx with hx | hx
  ·exact h.fit x hx
  ·rw [List.mem_singleton.1 hx];exact qDy h0.1
 ·exact h
def up2 (h:THub):Prop:=h.1=[false,false,true,false]∧0≤h.2.2.2.1∧h.2.2.2.1 < 4
theorem qCG {h:THub} (hu:up2 h):(kL h).2.2.1=0∧up2 (kL h).1:=by
 refine ⟨?_,(qvB h).trans hu.1,qmS hu.2⟩
 obtain ⟨u,f,l,n,⟨⟩⟩:=h
 obtain ⟨h1,h2,h3⟩:=hu
 dsimp only at h1 h2 h3
 subst h1
 have hc:qJc [false,false,true,false] n.toNat=some 2:=by
  have:n=0∨n=1∨n=2∨n=3:=by omega
  rcases this with rfl | rfl | rfl | rfl <;> decide
 unfold kL
 dsimp only
 rw [hc]
def qoV (e:En') (k:Int) (b:BB):BB:=zF (kJ { e with seq:=k } b)++qc9 e.ring.1.2.1 (zF (kJ { e with seq:=k } b))
theorem qCE:∀ (q:List BB) (s:Si),s.e.queue=q→(∀ b∈q,qbV b)→jN s.e.ph→0≤s.e.seq→s.e.seq+q.length≤900000→up2 s.e.hub →
  (qjJ q.length s).e.queue=[]∧(qjJ q.length s).e.got=s.e.got∧(qjJ q.length s).e.seq=s.e.seq+q.length ∧
   ∃ os:List qH1,(qjJ q.length s).e.out=s.e.out++os∧os.length=q.length∧∀ i,i < q.length→(nth os i (0,none' UInt8,())).2.1=vG (qoV s.e (s.e.seq+i) (nth q i []))
 | [],s,hq,_,_,_,_,_=>⟨hq,rfl,by show s.e.seq=s.e.seq+((0:Nat):Int);omega,[],(List.append_nil _).symm,rfl,fun i h=>absurd h (Nat.not_lt_zero i)⟩
 | b :: q,s,hq,hf,hl,h0,hs,hu=>by
  have hb:=hf b (List.mem_cons_self ..)
  have hlen:(((b :: q).length:Nat):Int)=(q.length:Int)+1:=by rw [List.length_cons];omega
  have hsend:qaR s b=(qxY s b,0):=qCs hb hl (by omega) (qCG hu).1
  have e:qjJ (b :: q).length s=qjJ q.length (popS (qxY s b) q):=by
   show qjJ (q.length+1) s=_
   rw [qjJ]
   rw [hq]
   dsimp only
   rw [hsend,if_pos rfl]
  rw [e]
  obtain ⟨r1,r2,r3,os,r4,r5,r6⟩:=qCE q (popS (qxY s b) q) rfl (fun x hx=>hf x (List.mem_cons_of_mem _ hx)) hl (by show 0≤s.e.seq+1;omega) (by show s.e.seq+1+q.length≤900000;omega) (qCG hu).2
  refine ⟨r1,r2, ?_,((kL s.e.hub).2.1,vG (outX s b),()) :: os, ?_,by rw [List.length_cons,List.length_cons,r5], ?_⟩
  ·rw [r3]
   show s.e.seq+1+q.length=_
   omega
  ·rw [r4]
   show (s.e.out++[_])++os=_
   rw [List.append_assoc];rfl
  ·intro i hi
   cases i with
   | zero =>
    show vG (outX s b)=vG (qoV s.e (s.e.seq+((0:Nat):Int)) b)
    rw [show s.e.seq+((0:Nat):Int)=s.e.seq by omega];rfl
   | succ i =>
    have:=r6 i (by rw [List.length_cons] at hi;omega)
    show (nth os i (0,none' UInt8,())).2.1=vG (qoV s.e (s.e.seq+((i+1:Nat):Int)) (nth q i []))
    rw [this]
    show vG (qoV s.e (s.e.seq+1+i) (nth q i []))=_
    rw [show s.e.seq+1+(i:Int)=s.e.seq+((i+1:Nat):Int) by omega]
def hub2:THub:=([false,false,true,false],[noF,noF,noF,noF],[0,0,1,0],0,())
theorem qKC:qbA (hub0,2,())=some (hub2,0,()):=by kernel_rfl
theorem qIZ {k:Int} (hk:0≤k∧k≤1000) {b:BB} (hb:qbV b):kO (vG (qoV (oqS hub0).e k b),())=some (qoV (oqS hub0).e k b,())∧kQ (qoV (oqS hub0).e k b,())=some (qpN (kJ { (oqS hub0).e with seq:=k } b) (qc9 (oqS hub0).e.ring.1.2.1 (zF (kJ { (oqS hub0).e with seq:=k } b))),0,()):=by
 have ok:okE 0 { (oqS hub0).e with seq:=k }:={ qFt.e with seq:=⟨hk.1,by show k≤4611686018427387904;omega⟩ }
 have hv:=qjF ok hb
 have ht:=qaU (oqS hub0).e.ring.1.2.1 (zF (kJ { (oqS hub0).e with seq:=k } b))
 have hl:=x3 (kJ { (oqS hub0).e with seq:=k } b)
 have hbl:(kJ { (oqS hub0).e with seq:=k } b).2.2.2.2.2.1=b:=rfl
 have hb1:=hb.1
 have hb2:=hb.2
 have hx:(qoV (oqS hub0).e k b).length=46+b.length:=by unfold qoV;rw [List.length_append,ht,hl,hbl];omega
 refine ⟨qy6 _ (by omega), ?_⟩
 rw [qf7 _ (by omega)]
 unfold qoV
 rw [qyF hv (show (kJ { (oqS hub0).e with seq:=k } b).2.2.1=_ from qCI { (oqS hub0).e with seq:=k }) ht]
theorem qoX (l:List BB) (d:UInt16):yL (l,d,())=some (true,()):=by
 unfold yL
 rw [qAK]
 refine (qF rfl).trans ?_
 dsimp only
 obtain ⟨day,hday,d0,d1⟩:=qA5 d
 rw [hday]
 by_cases hl:¬ l.length≤12
 ·exact qC (lt_t (show (12:Int) < len l by simp only [go_sem,Int.reduceToNat];omega))
 replace hl:=Classical.not_not.1 hl
 refine (qB (lt_f (show ¬ (12:Int) < len l by simp only [go_sem,Int.reduceToNat];omega))).trans ((qX qFo).trans ((qF rfl).trans ?_))
 generalize hf:(fun (x_1:List BB×Bool×Int×y2×Unit)=>(_:Option (LS (List BB×Bool×Int×y2×Unit) (Bool×Unit))))=f
 have step:∀ (i:Nat) (w:List BB),i < l.length→okW w→f (w,false,(i:Int),(orS day w).t,())=some (.rt (true,()))∨∃ w',okW w'∧f (w,false,(i:Int),(orS day w).t,())=some (.nx (w',false,((i+1:Nat):Int),(orS day w').t,())):=by
  intro i w hi hw
  subst hf
  have hi':i64 (iadd (i:Int) 1)=((i+1:Nat):Int):=i64n (by show ((i:Nat):Int)+1=_;omega) (by omega)
  have hin:inB (i:Int) (len l)=true:=by simp only [go_sem,Int.reduceToNat];omega
  obtain ⟨b,hb⟩:∃ b,nth l (nat (i:Int)) (none' UInt8)=b:=⟨_,rfl⟩
  by_cases hlong:b.length≤300
  ·refine .inr ⟨qDL day w b,qHi hw b, ?_⟩
   refine (qC (lt_t (show (i:Int) < len l by simp only [go_sem,Int.reduceToNat];omega))).trans ((qH hin).trans ?_)
   dsimp only
   rw [hb,hi']
   refine (qB (lt_f (show ¬ (300:Int) < len b by simp only [go_sem,Int.reduceToNat];omega))).trans ((qH hin).trans ?_)
   have hsub:=qaF (qIj day hw.len) (by omega) b (by omega)
   rw [qKt] at hsub
   refine (qX hsub).trans ((qF rfl).trans ((qH hin).trans ((qX (qoL b day (by omega))).trans ((qF rfl).trans ?_))))
   have hlw:=hw.len
   have hr:∀ w':List BB,w'.length≤8→wA ((orS day w').e.queue,w',())=some (true,()):=fun w' h=>qyA w' (by omega)
   have h01:=qGS hlong day
   have hcode:qJX day w b=if ¬ (z5 b day).2=0 then (z5 b day).2 else if 8≤w.length then 8 else 0:=rfl
   have hnext:qDL day w b=if (z5 b day).2=0∧w.length < 8 then w++[(z5 b day).1] else w:=rfl
   generalize z5 b day=r at h01 hcode hnext ⊢
   obtain ⟨o,e⟩:=r
   dsimp only at h01 hcode hnext ⊢
   rcases h01 with rfl | rfl
   ·rw [if_neg (not_not_intro rfl)] at hcode
    by_cases h8:8≤w.length
    ·rw [if_pos h8] at hcode
     rw [if_neg (fun h=>by have:=h.2;omega)] at hnext
     rw [hcode,hnext]
     refine (qF (a:=(false,())) ?_).trans ((qB rfl).trans ((qB rfl).trans ?_))
     ·refine (qC rfl).trans ?_
      rw [lt_f (show ¬ len w < 8 by simp only [go_sem,Int.reduceToNat];omega)];rfl
     ·refine (qF (a:=(false,())) ((qB rfl).trans ((qX (hr w hw.len)).trans rfl))).trans (qB rfl)
    ·rw [if_neg h8] at hcode
     rw [if_pos ⟨rfl,by omega⟩] at hnext
     rw [hcode,hnext]
     refine (qF (a:=(false,())) ?_).trans ((qB rfl).trans ((qC rfl).trans ?_))
     ·refine (qC rfl).trans ?_
      rw [lt_t (show len w < 8 by simp only [go_sem,Int.reduceToNat];omega)];rfl
     ·refine (qH (by simp only [go_sem,Int.reduceToNat];simp;omega)).trans ?_
      refine (qF (a:=(false,())) ((qB rfl).trans ((qX (hr (w++[o]) (by rw [List.length_append,List.length_singleton];omega))).trans rfl))).trans (qB rfl)
   ·rw [if_pos (show ¬ (1:Int)=0 by omega)] at hcode
    rw [if_neg (fun h=>absurd h.1 (by omega))] at hnext
    rw [hcode,hnext]
    refine (qF (a:=(false,())) rfl).trans ((qB rfl).trans ((qB rfl).trans ?_))
    refine (qF (a:=(false,())) ((qB rfl).trans ((qX (hr w hw.len)).trans rfl))).trans (qB rfl)
  ·refine .inl ?_
   refine (qC (lt_t (show (i:Int) < len l by simp only [go_sem,Int.reduceToNat];omega))).trans ((qH hin).trans ?_)
   dsimp only
   rw [hb]
   exact qC (lt_t (show (300:Int) < len b by simp only [go_sem,Int.reduceToNat];omega))
 have hend:∀ w,f (w,false,((l.length:Nat):Int),(orS day w).t,())=some (.ex 0 (w,false,((l.length:Nat):Int),(orS day w).t,())):=fun w=>by subst hf;exact qB (lt_f (show ¬ (l.length:Int) < len l by simp only [go_sem,Int.reduceToNat];omega))
 have run:∀ (k i:Nat) (w:List BB),i+k=l.length→okW w→loop f (w,false,(i:Int),(orS day w).t,())=some (.rt (true,()))∨∃ w',okW w'∧loop f (w,false,(i:Int),(orS day w).t,())=some (.ex 0 (w',false,((l.length:Nat):Int),(orS day w').t,())):=by
  intro k
  induction k with
  | zero =>
   intro i w hi hw
   obtain rfl:i=l.length:=by omega
   exact .inr ⟨w,hw,qT (hend w)⟩
  | succ k ih =>
   intro i w hi hw
   rcases step i w (by omega) hw with h | ⟨w',hw',h⟩
   ·exact .inl (qeV h)
   ·rw [vP h]
    exact ih (i+1) w' (by omega) hw'
 rcases run l.length 0 [] (by omega) ⟨by show (0:Nat)≤8;omega,fun b h=>by cases h⟩ with h | ⟨w,hw,h⟩
 ·exact (zC (show loop f (none' BB,false,0,_,())=_ from h)).trans rfl
 ·refine (zC (show loop f (none' BB,false,0,_,())=_ from h)).trans ((qH g62).trans ?_)
  clear h run hend step hf f
  dsimp only
  have hlw:=hw.len
  refine (qX qKC).trans ((qF rfl).trans ?_)
  have okw:=qIj day hw.len
  have ok2:okS 8 (⟨{ (orS day w).e with hub:=hub2 },(orS day w).p⟩:Si):=⟨{ okw.e with up:=rfl,next:=by show (0:Int)≤0∧(0:Int) < 4;omega,feed:=rfl,life:=rfl },okw.p⟩
  refine (qX (qcV ok2 (by omega))).trans ((qF rfl).trans ?_)
  obtain ⟨r1,r2,r3,os,r4,r5,r6⟩:=qCE w (⟨{ (orS day w).e with hub:=hub2 },(orS day w).p⟩:Si) rfl hw.fit (by show jN 3;unfold jN;omega) (by show (0:Int)≤0;omega) (by show (0:Int)+w.length≤900000;omega) ⟨rfl,by show (0:Int)≤0;omega,by show (0:Int) < 4;omega⟩
  replace r4:(qsP (⟨{ (orS day w).e with hub:=hub2 },(orS day w).p⟩:Si)).e.out=os:=r4
  replace r3:(qsP (⟨{ (orS day w).e with hub:=hub2 },(orS day w).p⟩:Si)).e.seq=(w.length:Int):=r3.trans (by show (0:Int)+w.length=w.length;omega)
  replace r1:(qsP (⟨{ (orS day w).e with hub:=hub2 },(orS day w).p⟩:Si)).e.queue=[]:=r1
  replace r2:(qsP (⟨{ (orS day w).e with hub:=hub2 },(orS day w).p⟩:Si)).e.got=w.map (fun b=>(1,[3,4],0,b,())):=r2
  generalize qsP (⟨{ (orS day w).e with hub:=hub2 },(orS day w).p⟩:Si)=y at r1 r2 r3 r4
  dsimp only
  rw [show y.t.1.2.2.2.2.2.2.2.2.2.2.2.2.2.2.1=y.e.queue from rfl,show y.t.1.2.2.2.2.2.2.2.2.2.2.2.2.2.2.2.2.1=y.e.out from rfl,show y.t.1.2.2.2.2.2.2.2.2.2.2.2.2.2.2.2.2.2.1=y.e.got from rfl,show y.t.1.2.2.2.2.2.2.2.2.1=y.e.seq from rfl,r1,r2,r3,r4]
  have ho:len os=len w:=by simp only [go_sem,Int.reduceToNat];omega
  have hg:len (w.map fun b=>((1,[3,4],0,b,()):EvT))=len w:=by simp only [go_sem,Int.reduceToNat];rw [List.length_map]
  refine (qF (a:=(false,())) ?_).trans ((qB rfl).trans ?_)
  ·refine (qB rfl).trans ((qB (bq_f ho)).trans ((qB (bq_f hg)).trans ?_))
   rw [bq_f (show (w.length:Int)=len w from rfl)]
  ·generalize hf:(fun (x:Bool×Int×Unit)=>(_:Option (LS (Bool×Int×Unit) (Bool×Unit))))=f
   have step:∀ j:Nat,j < w.length→f (false,(j:Int),())=some (.nx (false,((j+1:Nat):Int),())):=by
    intro j hj
    subst hf
    have hi':i64 (iadd (j:Int) 1)=((j+1:Nat):Int):=i64n (by show ((j:Nat):Int)+1=_;omega) (by omega)
    have hin:inB (j:Int) (len w)=true:=by simp only [go_sem,Int.reduceToNat];omega
    have hr6:=r6 j hj
    replace hr6:(nth os j (0,none' UInt8,())).2.1=vG (qoV (oqS hub0).e (j:Int) (nth w j [])):=hr6.trans (by
     show vG (qoV (oqS hub0).e (0+(j:Int)) (nth w j []))=_
     rw [Int.zero_add])
    have hbf:qbV (nth w j []):=hw.fit _ (by rw [qvI hj];exact List.getElem_mem hj)
    obtain ⟨q1,q2⟩:=qIZ (k:=(j:Int)) (by omega) hbf
    have hgj:nth (w.map fun b=>((1,[3,4],0,b,()):EvT)) (nat (j:Int)) (0,[0,0],0,none' UInt8,())=(1,[3,4],0,nth w j [],()):=by
     rw [zB,qvI (by rw [List.length_map];exact hj),qvI hj,List.getElem_map]
    refine (qC (lt_t (show (j:Int) < len w by simp only [go_sem,Int.reduceToNat];omega))).trans ((qH (by rw [ho];exact hin)).trans ?_)
    dsimp only
    rw [hgj,hg,hi',zB,hr6,q1]
    refine (qF rfl).trans ((qX q2).trans ((qF rfl).trans ?_))
    refine (qF (a:=(false,())) ?_).trans (qB rfl)
    refine (qB rfl).trans ((qB (bq_f rfl)).trans ((qH hin).trans ?_))
    refine (qF (qY _ _)).trans ((qB (congrArg bnot (qeF (nth w j [])))).trans ((qH hin).trans ((qH hin).trans ?_)))
    refine (qF (qY _ _)).trans ((qB (congrArg bnot (qeF (nth w j [])))).trans ((qH hin).trans ?_))
    rfl
   have hend:f (false,((w.length:Nat):Int),())=some (.ex 2 (false,((w.length:Nat):Int),())):=by subst hf;exact qB (lt_f (show ¬ (w.length:Int) < len w by simp only [go_sem,Int.reduceToNat];omega))
   have hloop:=qL (f:=f) (fun j=>(false,((j:Nat):Int),())) w.length step 0 (Nat.zero_le _)
   rw [qT hend] at hloop
   exact (zC (show loop f (false,0,())=_ from hloop)).trans ((qH g62).trans rfl)
theorem qxF (x:denL [.sl (.sl (.int .u8)), .int .u16]) (_:okL [.sl (.sl (.int .u8)), .int .u16] x):yL x=some (true,()):=qoX x.1 x.2.1
theorem qtL (x:denL [.sl (.int .u8), .int .u16, .int .u16]) (_:okL [.sl (.int .u8), .int .u16, .int .u16] x):kF x=some (true,()):=qmZ x.1 x.2.1 x.2.2.1
theorem qtM (x:denL [.int .u16, .int .u32, .bool]) (_:okL [.int .u16, .int .u32, .bool] x):kG x=some (true,()):=qm0 x.1 x.2.1 x.2.2.1
end Yp