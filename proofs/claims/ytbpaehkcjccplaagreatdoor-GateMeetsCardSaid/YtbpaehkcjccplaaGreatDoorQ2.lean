/- A part of the proof of the statements of this seat: plain functions, and laws on them. No condition of its own. -/
import Derived.Test.YtbpaehkcjccplaaGreatDoorQ1
import Derived.Conc.LoneSelectN
import Derived.Conc.Own5
import Derived.Test.YtbpaehkcjccplaaGreatDoorProg
import Derived.KernelRfl
set_option linter.unusedVariables false
set_option linter.unusedSimpArgs false
namespace Yp
open Go Go.Conc Go.RowKit Go.Proofs
structure qxN (w w':World) (lo c:Nat):Prop where
 os:w'.os=w.os
 tape:w'.tape=w.tape
 output:w'.output=w.output
 size:w.heap.size≤w'.heap.size
 other:∀ b,b < lo→b≠c→w'.heap[b]? = w.heap[b]?
theorem qG3 {o:Oper} {a:Act} {K:Act→World→Prop} {r:Result Go.Next} {v:Value} {w':World} (h:r = .ok (.value v) w') (h2:K (a.put o.dst v) w'):uponK o a K r:=by rw [h];exact h2
set_option maxRecDepth 100000 in
theorem qIe {w:World} {c cap:Nat} {buf:Array Value} (hc:∃ s r,w.heap[c]? = some (.chan cap buf false s r false)) (h64:buf.size≤64) (hone:∀ v∈buf,∃ a n cp,v = .slice a n cp) :
  Calls Tryz.prog 356 #[.agg #[.chan (some c)]] w fun e w'=>∃ sv,e = .returned sv∧qxK w' (w.heap.size+1) c buf buf.size sv∧qxN w w' w.heap.size c:=by
 obtain ⟨s0,r0,hc⟩:=hc
 have hclt:c < w.heap.size:=(Array.getElem?_eq_some_iff.1 hc).1
 have hc2:((w.alloc (.cells #[.chan (some c)] 378)).alloc (.cells #[] 22)).heap[c]? = some (.chan cap buf false s0 r0 false):=by rw [heap_alloc_old _ _ (by rw [qP];omega),heap_alloc_old _ _ hclt];exact hc
 have hl2:=run_len_chan (P:=Tryz.prog) 376 3 Tryz.underlying376 hc2
 refine calls_of_loneTo fun cs => ?_
 have e:Frame.enter Tryz.prog 356 #[.agg #[.chan (some c)]] .normal=(base 356).at ⟨#[.agg #[.chan (some c)],undef,undef,undef,undef,undef,undef,undef,undef,undef,undef,undef,undef,undef,undef,undef,undef,undef],[]⟩ [.code (Tryz.f356.body.getD .skip)]:=by
  simp [Frame.enter,Frame.at,Tryz.func356,base,Tryz.f356]
 rw [e]
 refine LoneTo.goes (n:=22) ?_
 simp only [Tryz.f356,Option.getD_some]
 s_c stepG_seq
 s_reg
 s_op
 s_op
 s_c stepG_region_end
 s_c stepG_seq
 s_reg
 s_op
 s_op
 s_c stepG_region_end
 s_c stepG_seq
 s_c stepG_seq
 s_reg
 s_op
 s_op
 s_op
 s_op
 s_c stepG_region_end
 s_c stepG_block
 s_c stepG_loop
 s_stop
 have hkb:qxN w ((w.alloc (.cells #[.chan (some c)] 378)).alloc (.cells #[] 22)) w.heap.size c:=⟨rfl,rfl,rfl,by rw [qP,qP];omega,fun b hb _=>by rw [heap_alloc_old _ _ (by rw [qP];omega),heap_alloc_old _ _ hb]⟩
 have hbox:((w.alloc (.cells #[.chan (some c)] 378)).alloc (.cells #[] 22)).heap[w.heap.size]? = some (.cells #[.chan (some c)] 378):=by rw [heap_alloc_old _ _ (by rw [qP];omega)];exact heap_alloc_new _ _
 have hrow:qxK ((w.alloc (.cells #[.chan (some c)] 378)).alloc (.cells #[] 22)) (w.heap.size+1) c buf 0 (.slice (some ⟨w.heap.size+1,0,none⟩) 0 0):=by
  refine ⟨w.heap.size+1,0, #[],rfl, ?_,Nat.le_refl _,Nat.zero_le _,rfl,fun j hj=>absurd hj (Nat.not_lt_zero j),Nat.le_refl _,by omega⟩
  have:=heap_alloc_new (w.alloc (.cells #[.chan (some c)] 378)) (.cells #[] 22)
  rw [qP] at this
  exact this
 have hsz:((w.alloc (.cells #[.chan (some c)] 378)).alloc (.cells #[] 22)).heap.size=w.heap.size+2:=by rw [qP,qP]
 generalize (w.alloc (.cells #[.chan (some c)] 378)).alloc (.cells #[] 22)=wb at hc2 hkb hbox hrow hsz hl2
 refine qzO (Q':=fun J=>LoneTo _ _ (G ((base 356).at _ J) _) _) ?_
 intro J hJ
 have key:∀ (k i:Nat) (w1:World) (sv u9 u0 u1 u2 u3 u4 u5 u6 u7:Value),i+k=buf.size→qxK w1 (w.heap.size+1) c buf i sv→qxN w w1 w.heap.size c→w.heap.size+2≤w1.heap.size→w1.heap[w.heap.size]? = some (.cells #[.chan (some c)] 378)→(∃ s r bi,w1.heap[c]? = some (.chan cap bi false s r false)∧bi.toList=buf.toList.drop i) →
   LoneTo Tryz.prog (fun g' w'=>∃ e fr,g'=G fr cs∧(∃ sv,e = .returned sv∧qxK w' (w.heap.size+1) c buf buf.size sv∧qxN w w' w.heap.size c)∧fr.fn=356∧fr.leaving Tryz.prog w' e) (G ((base 356).at ⟨#[.agg #[.chan (some c)], .pointer (some ⟨w.heap.size,0,none⟩), .slice none 0 0,sv, .slice (some ⟨w.heap.size+1,0,none⟩) 0 0, .pointer (some ⟨w.heap.size,0,none⟩), .chan (some c), .int .i64 buf.size, .int .i64 i,u9,u0,u1,u2,u3,u4,u5,u6,u7],[]⟩ J) cs) w1:=by
  intro k
  induction k with
  | zero =>
   intro i w1 sv u9 u0 u1 u2 u3 u4 u5 u6 u7 hk hR hK hS hB hC
   obtain rfl:i=buf.size:=by omega
   rw [hJ]
   refine LoneTo.goes (n:=14) ?_
   s_c stepG_seq
   s_reg
   s_op
   s_c stepG_region_end
   s_c stepG_seq
   s_cond false
   s_exit
   s_c stepG_seq
   s_reg
   s_op
   s_op
   s_c stepG_region_end
   s_c stepG_ret'
   s_stop
   exact LoneTo.done ⟨.returned sv,_,rfl,⟨sv,rfl,hR,hK⟩,rfl,rfl,rfl,rfl,_,Tryz.func356,by simp [results,Tryz.f356,Frame.at]⟩
  | succ k ih =>
   intro i w1 sv u9 u0 u1 u2 u3 u4 u5 u6 u7 hk hR hK hS hB hC
   have hlt:i < buf.size:=by omega
   obtain ⟨va,vn,vc,hvs⟩:=hone _ (Array.getElem_mem hlt)
   have hbc:w1.cell? ⟨w.heap.size,0,none⟩=some (.chan (some c)):=by simp [World.cell?,hB]
   obtain ⟨s,r,bi,hch,hbi⟩:=hC
   have hbs:0 < bi.size:=by
    have:=congrArg List.length hbi
    simp at this
    omega
   have hv0:bi.getD 0 undef=buf[i]:=by
    have h0:bi[0]? = some buf[i]:=by
     rw [← Array.getElem?_toList,hbi]
     simp [hlt]
    simp [Array.getD_eq_getD_getElem?,h0]
   have hext:(bi.extract 1 bi.size).toList=buf.toList.drop (i+1):=by
    have h1:(bi.extract 1 bi.size).toList=bi.toList.drop 1:=by
     rw [Array.toList_extract,List.extract_eq_take_drop]
     exact List.take_of_length_le (by simp)
    rw [h1,hbi,List.drop_drop]
   rw [hJ]
   refine LoneTo.goes (n:=12) ?_
   s_c stepG_seq
   s_reg
   s_op
   s_c stepG_region_end
   s_c stepG_seq
   s_cond true
   s_c stepG_skip
   s_c stepG_seq
   s_c stepG_block
   s_reg
   s_op
   s_op
   s_stop
   refine LoneTo.goes (n:=1) ?_
   s_op
   s_stop
   refine LoneTo.step (step_lone_recv_buf false (c:=c) (z := .slice none 0 0) (cap:=cap) (buf:=bi) (closed:=false) (s:=s) (r:=r) (tm:=false) (stepG_comm (cases := #[rcase c (.slice none 0 0)]) (blocking:=true) (shape := .recv false) (w':=w1) rfl rfl (by decide) (by simp [go_sem,execOp,rcase,Act.eval])) hch hbs) ?_
   rw [Frame.finish_at,hv0,hvs]
   simp only [got]
   walk_nrm
   have hs2:(w1.setChan c cap (bi.extract 1 bi.size) false s (r+1) false).heap.size=w1.heap.size:=size_setChan ..
   have hx2:qd1 w1 (w1.setChan c cap (bi.extract 1 bi.size) false s (r+1) false) c cap (bi.extract 1 bi.size):=quS hch
   generalize w1.setChan c cap (bi.extract 1 bi.size) false s (r+1) false=w2 at hs2 hx2
   obtain ⟨b,cp,arr,rfl,hb,hmc,hcm,hasz,hvals,hlb,hbne⟩:=hR
   have hblt:b < w1.heap.size:=(Array.getElem?_eq_some_iff.1 hb).1
   have hR3:qxK (w2.alloc (.cells #[.slice va vn vc] 22)) (w.heap.size+1) c buf i (.slice (some ⟨b,0,none⟩) i cp):=⟨b,cp,arr,rfl,by rw [heap_alloc_old _ _ (by omega),hx2.other b hblt hbne];exact hb,hmc,hcm,hasz,hvals,hlb,hbne⟩
   obtain ⟨sv',w4,happ,hR4,hK4⟩:=app1 hR3 (heap_alloc_new w2 (.cells #[.slice va vn vc] 22)) (v := .slice va vn vc) (by rw [← hvs];simp [hlt]) (by omega) rfl (by rw [qP];omega) (by rw [qP];omega)
   rw [hs2] at happ
   refine LoneTo.goes (n:=12) ?_
   s_op
   s_in;refine goes_oper_k rfl rfl (by decide) (fun K hK => ?_)
   refine qG3 (v:=sv') (w':=w4) ?_ ?_
   ·simp only [List.getElem_toArray,List.getElem_cons_succ,List.getElem_cons_zero,execOp,resolve,invoke,Go.builtin]
    walk_nrm
    simp only [Sem.run_bind,Sem.run_pure,Result.andThen]
    rw [happ]
   refine hK _ _ ⟨trivial, ?_⟩
   clear hK K
   walk_nrm
   s_op
   s_c stepG_region_end
   s_c stepG_inBlock
   s_reg
   s_op
   s_op
   s_c stepG_region_end
   s_c stepG_inLoop
   s_stop
   rw [qEB (by omega) (by omega)]
   have hold:∀ b',b' < w.heap.size+1→b'≠c→w4.heap[b']? = w1.heap[b']? := by
    intro b' hb' hne
    rw [hK4.other b' (by rw [qP];omega) (.inl hb'),heap_alloc_old _ _ (by omega),hx2.other b' (by omega) hne]
   have hsz4:=hK4.size
   rw [qP] at hsz4
   obtain ⟨s3,r3,hch3⟩:=hx2.ch
   have:=ih (i+1) w4 sv' (.bool true) (.slice (some ⟨b,0,none⟩) i cp) (.pointer (some ⟨w.heap.size,0,none⟩)) (.chan (some c)) (.slice va vn vc) (.slice (some ⟨w1.heap.size,0,none⟩) 1 1) sv' (.int .i64 ((i+1:Nat):Int)) u7 (by omega) hR4
    ⟨hK4.os.trans (hx2.os.trans hK.os),hK4.tape.trans (hx2.tape.trans hK.tape),hK4.output.trans (hx2.output.trans hK.output),by have:=hK.size;omega,fun b' hb' hne=>(hold b' (by omega) hne).trans (hK.other b' hb' hne)⟩ (by omega) ((hold _ (by omega) (by omega)).trans hB)
    ⟨s3,r3,bi.extract 1 bi.size,by rw [hK4.other c (by rw [qP];omega) (.inr rfl),heap_alloc_old _ _ (by omega)];exact hch3,hext⟩
   rw [hJ] at this
   exact this
 exact key buf.size 0 wb _ undef undef undef undef undef undef undef undef undef (by omega) hrow hkb (by omega) hbox ⟨s0,r0,buf,hc2,by simp⟩
structure Src1 (w:World) (a:Option Addr) (n cp:Nat) (pt:Nat→Addr) (val:Nat→Value):Prop where
 ix:∀ i,i < n→∀ w1:World,(Instr.indexAt 35 (.slice a n cp) (.int .i64 i)).run Tryz.prog w1 = .ok (.pointer (some (pt i))) w1
 cell:∀ i,i < n→w.cell? (pt i)=some (val i)
 low:∀ i,i < n→(pt i).block < w.heap.size
 sl:∀ i,i < n→∃ a n cp,val i = .slice a n cp
 le:n≤9223372036854775807
set_option maxRecDepth 100000 in
theorem qHw {w:World} {q l:Value} {room:Int} (hr:room < 1) :
  Calls Tryz.prog 286 #[q,l, .int .i64 room] w fun e w'=>e = .returned (.tuple #[q, .int .i64 0, .int .i64 1])∧w'=w:=by
 refine calls_of_loneTo fun cs => ?_
 have e:Frame.enter Tryz.prog 286 #[q,l, .int .i64 room] .normal=(base 286).at ⟨#[q,l, .int .i64 room,undef,undef,undef,undef,undef,undef,undef,undef,undef,undef,undef,undef,undef,undef,undef,undef,undef,undef,undef,undef,undef,undef,undef,undef,undef,undef,undef,undef,undef,undef],[]⟩ [.code (Tryz.f286.body.getD .skip)]:=by
  simp [Frame.enter,Frame.at,Tryz.func286,base,Tryz.f286]
 rw [e]
 refine LoneTo.goes (n:=30) ?_
 simp only [Tryz.f286,Option.getD_some]
 s_c stepG_seq
 s_reg
 s_op
 s_op
 s_op
 s_c stepG_region_end
 s_c stepG_seq
 s_c stepG_seq
 s_reg
 s_op
 s_op
 s_op
 s_in
 rw [stepG_unwanted rfl rfl]
 simp only [goes_go]
 refine ⟨trivial, ?_⟩
 walk_nrm
 s_in
 rw [stepG_unwanted rfl rfl]
 simp only [goes_go]
 refine ⟨trivial, ?_⟩
 walk_nrm
 s_op
 s_c stepG_region_end
 s_cond true
 s_c stepG_seq
 s_reg
 s_op
 s_op
 s_op
 s_op
 s_c stepG_region_end
 s_c stepG_ret'
 s_stop
 exact LoneTo.done ⟨.returned (.tuple #[q, .int .i64 0, .int .i64 1]),_,rfl,⟨rfl,rfl⟩,rfl,rfl,rfl,rfl,_,Tryz.func286,by simp [results,Tryz.f286,Frame.at]⟩
set_option maxRecDepth 100000 in
theorem qFv {w:World} {q l:Value} {room:Int} (h0:¬ room < 1) (hr:64 < room) :
  Calls Tryz.prog 286 #[q,l, .int .i64 room] w fun e w'=>e = .returned (.tuple #[q, .int .i64 0, .int .i64 1])∧w'=w:=by
 refine calls_of_loneTo fun cs => ?_
 have e:Frame.enter Tryz.prog 286 #[q,l, .int .i64 room] .normal=(base 286).at ⟨#[q,l, .int .i64 room,undef,undef,undef,undef,undef,undef,undef,undef,undef,undef,undef,undef,undef,undef,undef,undef,undef,undef,undef,undef,undef,undef,undef,undef,undef,undef,undef,undef,undef,undef],[]⟩ [.code (Tryz.f286.body.getD .skip)]:=by
  simp [Frame.enter,Frame.at,Tryz.func286,base,Tryz.f286]
 rw [e]
 refine LoneTo.goes (n:=30) ?_
 simp only [Tryz.f286,Option.getD_some]
 s_c stepG_seq
 s_reg
 s_op
 s_op
 s_op
 s_c stepG_region_end
 s_c stepG_seq
 s_c stepG_seq
 s_reg
 s_op
 s_op
 s_op
 s_op
 s_op
 s_op
 s_c stepG_region_end
 s_cond true
 s_c stepG_seq
 s_reg
 s_op
 s_op
 s_op
 s_op
 s_c stepG_region_end
 s_c stepG_ret'
 s_stop
 exact LoneTo.done ⟨.returned (.tuple #[q, .int .i64 0, .int .i64 1]),_,rfl,⟨rfl,rfl⟩,rfl,rfl,rfl,rfl,_,Tryz.func286,by simp [results,Tryz.f286,Frame.at]⟩
set_option maxRecDepth 100000 in
theorem qFu {w:World} {qa la:Option Addr} {qn qc ln lc R:Nat} (h1:1≤R) (h64:R≤64) {qpt lpt:Nat→Addr} {qv lv:Nat→Value} (hq:Src1 w qa qn qc qpt qv) (hl:Src1 w la ln lc lpt lv) :
  Calls Tryz.prog 286 #[.slice qa qn qc, .slice la ln lc, .int .i64 R] w fun e w'=>(R < qn∧e = .returned (.tuple #[.slice qa qn qc, .int .i64 0, .int .i64 0])∨qn≤R∧∃ sv,e = .returned (.tuple #[sv, .int .i64 (min ln (R - qn):Nat), .int .i64 0])∧qxK w' w.heap.size (w.heap.size+1) ((List.range qn).map qv++(List.range (min ln (R - qn))).map lv).toArray (qn+min ln (R - qn)) sv)∧qxN w w' w.heap.size (w.heap.size+1):=by
 have hr1:¬ (R:Int) < 1:=by omega
 have hr2:¬ (64:Int) < (R:Int):=by omega
 refine calls_of_loneTo fun cs => ?_
 have e:Frame.enter Tryz.prog 286 #[.slice qa qn qc, .slice la ln lc, .int .i64 R] .normal=(base 286).at ⟨#[.slice qa qn qc, .slice la ln lc, .int .i64 R,undef,undef,undef,undef,undef,undef,undef,undef,undef,undef,undef,undef,undef,undef,undef,undef,undef,undef,undef,undef,undef,undef,undef,undef,undef,undef,undef,undef,undef,undef],[]⟩ [.code (Tryz.f286.body.getD .skip)]:=by
  simp [Frame.enter,Frame.at,Tryz.func286,base,Tryz.f286]
 rw [e]
 refine LoneTo.goes (n:=30) ?_
 simp only [Tryz.f286,Option.getD_some]
 s_c stepG_seq
 s_reg
 s_op
 s_op
 s_op
 s_c stepG_region_end
 s_c stepG_seq
 s_c stepG_seq
 s_reg
 s_op
 s_op
 s_op
 s_op
 s_op
 s_op
 s_c stepG_region_end
 s_cond false
 s_c stepG_skip
 s_c stepG_seq
 s_reg
 s_op
 s_in
 refine goes_call rfl rfl (by decide) rfl Tryz.func354 (by kernel_rfl) rfl ⟨trivial, ?_⟩
 walk_nrmf Tryz.f354
 s_stop
 have he1:Frame.enter Tryz.prog 354 #[.int .i64 R] .normal=(base 354).at ⟨#[.int .i64 R,undef,undef,undef,undef,undef],[]⟩ [.code (Tryz.f354.body.getD .skip)]:=by
  simp [Frame.enter,Frame.at,Tryz.func354,base,Tryz.f354]
 simp only [Tryz.f354,Option.getD_some] at he1
 rw [← he1]
 refine qaL (qEu h64) (fun e w' h=>⟨_,h.1⟩) (fun v w1 h => ?_)
 obtain ⟨hv,b1,b2,b3,b4,b5,b6⟩:=h
 cases hv
 rw [Frame.finish_at]
 walk_nrm
 refine LoneTo.goes (n:=30) ?_
 s_op
 s_op
 s_c stepG_region_end
 s_c stepG_seq
 s_c stepG_seq
 s_reg
 s_op
 s_op
 s_stop
 have hbox:(w1.alloc (.cells #[.chan (some (w.heap.size+1))] 378)).heap[w.heap.size+2]? = some (.cells #[.chan (some (w.heap.size+1))] 378):=by
  have:=heap_alloc_new w1 (.cells #[.chan (some (w.heap.size+1))] 378)
  rw [b4] at this
  exact this
 have hch:∃ s r,(w1.alloc (.cells #[.chan (some (w.heap.size+1))] 378)).heap[w.heap.size+1]? = some (.chan R #[] false s r false):=⟨0,0,by rw [heap_alloc_old _ _ (by omega)];exact b6⟩
 have hk2:qxN w (w1.alloc (.cells #[.chan (some (w.heap.size+1))] 378)) w.heap.size (w.heap.size+1):=⟨b1,b2,b3,by rw [qP];omega,fun b hb _=>by rw [heap_alloc_old _ _ (by omega)];exact b5 b hb⟩
 have hs2:(w1.alloc (.cells #[.chan (some (w.heap.size+1))] 378)).heap.size=w.heap.size+3:=by rw [qP];omega
 generalize w1.alloc (.cells #[.chan (some (w.heap.size+1))] 378)=w2 at hbox hch hk2 hs2
 have srcOf:∀ {a:Option Addr} {n cp:Nat} {pt:Nat→Addr} {val:Nat→Value} (wx:World),Src1 w a n cp pt val→qxN w wx w.heap.size (w.heap.size+1)→(∀ i,i < n→wx.cell? (pt i)=some (val i))∧∀ i,i < n→(pt i).block < wx.heap.size∧(pt i).block≠w.heap.size+1:=by
  intro a n cp pt val wx hs hk
  refine ⟨fun i hi => ?_,fun i hi=>⟨Nat.lt_of_lt_of_le (hs.low i hi) hk.size,by have:=hs.low i hi;omega⟩⟩
  rw [← hs.cell i hi]
  exact quT (hk.other _ (hs.low i hi) (by have:=hs.low i hi;omega))
 refine LoneTo.goes (n:=3) ?_
 s_in
 refine goes_call rfl rfl (by decide) rfl Tryz.func355 (by kernel_rfl) rfl ⟨trivial, ?_⟩
 walk_nrmf Tryz.f355
 s_stop
 have he2:Frame.enter Tryz.prog 355 #[.agg #[.chan (some (w.heap.size+1))], .slice qa qn qc] .normal=(base 355).at ⟨#[.agg #[.chan (some (w.heap.size+1))], .slice qa qn qc,undef,undef,undef,undef,undef,undef,undef,undef,undef,undef,undef,undef,undef,undef,undef,undef,undef,undef,undef,undef],[]⟩ [.code (Tryz.f355.body.getD .skip)]:=by
  simp [Frame.enter,Frame.at,Tryz.func355,base,Tryz.f355]
 simp only [Tryz.f355,Option.getD_some] at he2
 rw [← he2]
 have hq2:=srcOf w2 hq hk2
 refine qaL (qzT hch hq.le (Nat.zero_le _) hq.ix hq2.1 hq2.2) (fun e w' h=>⟨_,h.1⟩) (fun v w3 h => ?_)
 obtain ⟨hv,hw3⟩:=h
 cases hv
 have hk3:qxN w w3 w.heap.size (w.heap.size+1):=⟨hw3.os.trans hk2.os,hw3.tape.trans hk2.tape,hw3.output.trans hk2.output,Nat.le_trans hk2.size hw3.size,fun b hb hne=>(hw3.other b (by omega) hne).trans (hk2.other b hb hne)⟩
 have hbox3:w3.heap[w.heap.size+2]? = some (.cells #[.chan (some (w.heap.size+1))] 378):=(hw3.other _ (by omega) (by omega)).trans hbox
 have hs3:w.heap.size+3≤w3.heap.size:=by have:=hw3.size;omega
 have hbc:w3.cell? ⟨w.heap.size+2,0,none⟩=some (.chan (some (w.heap.size+1))):=by simp [World.cell?,hbox3]
 by_cases hfull:R < qn
 ·have hm:min qn (R - (#[]:Array Value).size)=R:=by simp;omega
  rw [hm,Frame.finish_at]
  walk_nrm
  refine LoneTo.goes (n:=30) ?_
  s_op
  s_op
  s_op
  s_c stepG_region_end
  s_cond true
  s_c stepG_seq
  s_reg
  s_op
  s_op
  s_op
  s_op
  s_c stepG_region_end
  s_c stepG_ret'
  s_stop
  exact LoneTo.done ⟨.returned (.tuple #[.slice qa qn qc, .int .i64 0, .int .i64 0]),_,rfl,⟨.inl ⟨hfull,rfl⟩,hk3⟩,rfl,rfl,rfl,rfl,_,Tryz.func286,by simp [results,Tryz.f286,Frame.at]⟩
 ·have hm:min qn (R - (#[]:Array Value).size)=qn:=by simp;omega
  rw [hm] at hw3 ⊢
  rw [Frame.finish_at]
  walk_nrm
  have hbf : #[]++((List.range qn).map qv).toArray=((List.range qn).map qv).toArray:=by simp
  rw [hbf] at hw3
  have hbsz:((List.range qn).map qv).toArray.size=qn:=by simp
  refine LoneTo.goes (n:=30) ?_
  s_op
  s_op
  s_op
  s_c stepG_region_end
  s_cond false
  s_c stepG_skip
  s_c stepG_seq
  s_reg
  s_op
  s_op
  s_stop
  refine LoneTo.goes (n:=3) ?_
  s_in
  refine goes_call rfl rfl (by decide) rfl Tryz.func355 (by kernel_rfl) rfl ⟨trivial, ?_⟩
  walk_nrmf Tryz.f355
  s_stop
  have he3:Frame.enter Tryz.prog 355 #[.agg #[.chan (some (w.heap.size+1))], .slice la ln lc] .normal=(base 355).at ⟨#[.agg #[.chan (some (w.heap.size+1))], .slice la ln lc,undef,undef,undef,undef,undef,undef,undef,undef,undef,undef,undef,undef,undef,undef,undef,undef,undef,undef,undef,undef],[]⟩ [.code (Tryz.f355.body.getD .skip)]:=by
   simp [Frame.enter,Frame.at,Tryz.func355,base,Tryz.f355]
  simp only [Tryz.f355,Option.getD_some] at he3
  rw [← he3]
  have hl3:=srcOf w3 hl hk3
  refine qaL (qzT hw3.ch hl.le (by omega) hl.ix hl3.1 hl3.2) (fun e w' h=>⟨_,h.1⟩) (fun v w4 h => ?_)
  obtain ⟨hv,hw4⟩:=h
  cases hv
  rw [hbsz] at hw4 ⊢
  have hk4:qxN w w4 w.heap.size (w.heap.size+1):=⟨hw4.os.trans hk3.os,hw4.tape.trans hk3.tape,hw4.output.trans hk3.output,Nat.le_trans hk3.size hw4.size,fun b hb hne=>(hw4.other b (by omega) hne).trans (hk3.other b hb hne)⟩
  have hbox4:w4.heap[w.heap.size+2]? = some (.cells #[.chan (some (w.heap.size+1))] 378):=(hw4.other _ (by omega) (by omega)).trans hbox3
  have hs4:w.heap.size+3≤w4.heap.size:=by have:=hw4.size;omega
  have hbc4:w4.cell? ⟨w.heap.size+2,0,none⟩=some (.chan (some (w.heap.size+1))):=by simp [World.cell?,hbox4]
  have hall:((List.range qn).map qv).toArray++((List.range (min ln (R - qn))).map lv).toArray=((List.range qn).map qv++(List.range (min ln (R - qn))).map lv).toArray:=by simp
  rw [hall] at hw4
  have hasz:((List.range qn).map qv++(List.range (min ln (R - qn))).map lv).toArray.size=qn+min ln (R - qn):=by simp
  rw [Frame.finish_at]
  walk_nrm
  refine LoneTo.goes (n:=30) ?_
  s_op
  s_c stepG_region_end
  s_c stepG_seq
  s_reg
  s_op
  s_in
  refine goes_call rfl rfl (by decide) rfl Tryz.func356 (by kernel_rfl) rfl ⟨trivial, ?_⟩
  walk_nrmf Tryz.f356
  s_stop
  have he4:Frame.enter Tryz.prog 356 #[.agg #[.chan (some (w.heap.size+1))]] .normal=(base 356).at ⟨#[.agg #[.chan (some (w.heap.size+1))],undef,undef,undef,undef,undef,undef,undef,undef,undef,undef,undef,undef,undef,undef,undef,undef,undef],[]⟩ [.code (Tryz.f356.body.getD .skip)]:=by
   simp [Frame.enter,Frame.at,Tryz.func356,base,Tryz.f356]
  simp only [Tryz.f356,Option.getD_some] at he4
  rw [← he4]
  refine qaL (qIe hw4.ch (by rw [hasz];omega) ?_) (fun e w' h=>h.elim fun sv h=>⟨sv,h.1⟩) (fun v w5 h => ?_)
  ·intro v hv
   simp only [List.mem_toArray,List.mem_append,List.mem_map,List.mem_range] at hv
   rcases hv with ⟨i,hi,rfl⟩ | ⟨i,hi,rfl⟩
   ·exact hq.sl i hi
   ·exact hl.sl i (by omega)
  obtain ⟨sv,hv,hR5,hk5⟩:=h
  cases hv
  rw [hasz] at hR5
  rw [Frame.finish_at]
  walk_nrm
  refine LoneTo.goes (n:=30) ?_
  s_op
  s_op
  s_op
  s_op
  s_c stepG_region_end
  s_c stepG_ret'
  s_stop
  refine LoneTo.done ⟨.returned (.tuple #[v, .int .i64 (min ln (R - qn):Nat), .int .i64 0]),_,rfl,⟨.inr ⟨by omega,v,rfl, ?_⟩, ?_⟩,rfl,rfl,rfl,rfl,_,Tryz.func286,by simp [results,Tryz.f286,Frame.at]⟩
  ·obtain ⟨b,cp,arr,r1,r2,r3,r4,r5,r6,r7,r8⟩:=hR5
   exact ⟨b,cp,arr,r1,r2,r3,r4,r5,r6,by omega,r8⟩
  ·exact ⟨hk5.os.trans hk4.os,hk5.tape.trans hk4.tape,hk5.output.trans hk4.output,Nat.le_trans hk4.size hk5.size,fun b hb hne=>(hk5.other b (by omega) hne).trans (hk4.other b hb hne)⟩
end Yp
namespace Yp
open Go Go.RowKit Go.Proofs
abbrev qnG:Ty := .sl (.sl (.int .u8))
theorem qIl {w:World} {X:Nat→Prop} {l:List BB} {a:Option Addr} {cap:Nat} (h1:l.length≤cap) (h2:cap≤maxLen)
  (h:l=[]∨∃ b o c el fz,a=some ⟨b,o,none⟩∧view w X b=some (.cells c el fz)∧o+l.length*(Ty.sl (.int .u8)).size≤c.size∧∀ (i:Nat) (x:BB),lget l i=some x→RepC (view w X) (.sl (.int .u8)) x (seg c (o+i*(Ty.sl (.int .u8)).size) (Ty.sl (.int .u8)).size)) :
  ∃ pt val,Src1 w a l.length cap pt val∧∀ i (hi:i < l.length),RepC (view w X) (.sl (.int .u8)) (l[i]:BB) [val i]:=by
 have hle:l.length≤9223372036854775807:=by unfold maxLen at h2;omega
 rcases h with rfl | ⟨b,o,c,el,fz,rfl,hb,hsz,hrow⟩
 ·exact ⟨fun _=>⟨0,0,none⟩,fun _=>undef,⟨fun i hi=>absurd hi (Nat.not_lt_zero i),fun i hi=>absurd hi (Nat.not_lt_zero i),fun i hi=>absurd hi (Nat.not_lt_zero i),fun i hi=>absurd hi (Nat.not_lt_zero i),hle⟩,fun i hi=>absurd hi (Nat.not_lt_zero i)⟩
 ·have hsz:o+l.length≤c.size:=by
   have:(Ty.sl (.int .u8)).size=1:=rfl
   rw [this] at hsz;omega
  have hh:=(zF.1 hb).2
  have hget:∀ i,i < l.length→c[o+i]? = some (c[o+i]?.getD undef):=by
   intro i hi
   rw [Array.getElem?_eq_getElem (by omega)];rfl
  have hr:∀ i (hi:i < l.length),RepC (view w X) (.sl (.int .u8)) (l[i]:BB) [c[o+i]?.getD undef]:=by
   intro i hi
   have:=hrow i l[i] (List.getElem?_eq_getElem hi)
   have hs:seg c (o+i*(Ty.sl (.int .u8)).size) (Ty.sl (.int .u8)).size=[c[o+i]?.getD undef]:=by
    have e1:(Ty.sl (.int .u8)).size=1:=rfl
    rw [e1,Nat.mul_one]
    refine List.ext_getElem? fun j => ?_
    by_cases hj:j < 1
    ·obtain rfl:j=0:=by omega
     rw [qd8 hj,Nat.add_zero,hget i hi];rfl
    ·rw [List.getElem?_eq_none (by rw [jD (by omega)];omega),List.getElem?_eq_none (by simp;omega)]
   rwa [hs] at this
  refine ⟨fun i=>⟨b,o+i,none⟩,fun i=>c[o+i]?.getD undef,⟨fun i hi w1 => ?_,fun i hi => ?_,fun i _=>(Array.getElem?_eq_some_iff.1 hh).1,fun i hi => ?_,hle⟩,hr⟩
  ·have:=y6 (P:=Tryz.prog) (e := .sl (.int .u8)) (tid:=35) (hTT 35 _ (by kernel_rfl)) (k := .i64) (i:=(i:Int)) (n:=l.length) (cap:=cap) (by omega) (by omega) b o w1
   rw [this]
   have e1:(Ty.sl (.int .u8)).size=1:=rfl
   rw [e1,Nat.mul_one,Int.toNat_natCast]
  ·show w.cell? ⟨b,o+i,none⟩=_
   simp only [World.cell?,hh]
   rw [hget i hi];rfl
  ·obtain ⟨a',cp',hv,_⟩:=RepC.jT.1 (hr i hi)
   exact ⟨_,_,_,List.cons.inj hv |>.1⟩
noncomputable abbrev qnM:wQ:=⟨[.sl (.sl (.int .u8)), .sl (.sl (.int .u8)), .int .i64],[.im (.sl (.sl (.int .u8))), .im (.int .i64), .im (.int .i64)],qc8⟩
theorem ret3 {w w':World} {X:Nat→Prop} (hX:∀ b,X b→b < w.heap.size) (hos:w'.os=w.os) (htape:w'.tape=w.tape) (hout:w'.output=w.output) (hsz:w.heap.size≤w'.heap.size) (hold:∀ b,b < w.heap.size→w'.heap[b]? = w.heap[b]?) {q:List BB} {n m:Int} {v:Value} (hv:RepC (view w' X) qnG q [v]) :
  ∃ vr,Ending.returned (.tuple #[v, .int .i64 n, .int .i64 m]) = .returned vr∧qcL w X w' [.im qnG, .im (.int .i64), .im (.int .i64)] (q,n,m,()) vr:=by
 refine ⟨_,rfl,X,hos,htape,hout,hsz,hold,fun _ _=>Iff.rfl,fun b h=>Nat.lt_of_lt_of_le (hX b h) hsz,[v, .int .i64 n, .int .i64 m], ?_,rfl⟩
 exact ⟨[v],_,rfl,hv,[.int .i64 n],_,rfl,RepC.zV.2 rfl,[.int .i64 m],[],rfl,RepC.zV.2 rfl,rfl⟩
theorem qHg {w w':World} {X:Nat→Prop} (hX:∀ b,X b→b < w.heap.size) (hold:∀ b,b < w.heap.size→w'.heap[b]? = w.heap[b]?) {q:List BB} {c:Nat} {vals:Array Value} {sv:Value} (hR:qxK w' w.heap.size c vals q.length sv)
  (hq:∀ i (hi:i < q.length),∃ v,vals[i]? = some v∧RepC (view w X) (.sl (.int .u8)) (q[i]:BB) [v]):RepC (view w' X) qnG q [sv]:=by
 obtain ⟨b,cp,arr,rfl,hb,hmc,hcm,hasz,hvals,hlb,hbc⟩:=hR
 have hle:(view w X).Le (view w' X):=qfW fun b' o hM ho=>⟨hM,(hold b' (Array.getElem?_eq_some_iff.1 ho).1).trans ho⟩
 have e1:(Ty.sl (.int .u8)).size=1:=rfl
 refine RepC.jT.2 ⟨some ⟨b,0,none⟩,cp,rfl,hmc,hcm, .inr ⟨b,0,arr,22,(0,0),rfl,zF.2 ⟨fun h=>absurd (hX b h) (by omega),hb⟩, ?_,fun i x hx => ?_⟩⟩
 ·show 0+q.length*1≤arr.size
  omega
 ·obtain ⟨hi,rfl⟩:=List.getElem?_eq_some_iff.1 hx
  have hi:i < q.length:=hi
  obtain ⟨v,hv,hr⟩:=hq i hi
  have hs:seg arr (0+i*(Ty.sl (.int .u8)).size) (Ty.sl (.int .u8)).size=[v]:=by
   rw [e1,Nat.mul_one,Nat.zero_add]
   refine List.ext_getElem? fun j => ?_
   by_cases hj:j < 1
   ·obtain rfl:j=0:=by omega
    rw [qd8 hj,Nat.add_zero,hvals i hi,hv];rfl
   ·rw [List.getElem?_eq_none (by rw [jD (by omega)];omega),List.getElem?_eq_none (by simp;omega)]
  rw [hs]
  exact hr.mono hle
theorem qHv {w:World} {X:Nat→Prop} (hX:∀ b,X b→b < w.heap.size) (q l:List BB) (room:Int) {r:List BB×Int×Int×Unit} {cs1 cs2:List Value} (hq:RepC (view w X) qnG q cs1) (hl:RepC (view w X) qnG l cs2) (hr:qc8 (q,l,room,())=some r) :
  Calls Tryz.prog 286 #[mkV qnG cs1,mkV qnG cs2, .int .i64 room] w fun e w'=>∃ vr,e = .returned vr∧qcL w X w' [.im qnG, .im (.int .i64), .im (.int .i64)] r vr:=by
 have hq0:=hq
 obtain ⟨qa,qc,rfl,q1,q2,q3⟩:=RepC.jT.1 hq
 obtain ⟨la,lc,rfl,l1,l2,l3⟩:=RepC.jT.1 hl
 obtain ⟨qpt,qv,sq,rq⟩:=qIl (l:=q) q1 q2 q3
 obtain ⟨lpt,lv,sl,rl⟩:=qIl (l:=l) l1 l2 l3
 unfold qc8 at hr
 dsimp only at hr
 show Calls Tryz.prog 286 #[.slice qa q.length qc, .slice la l.length lc, .int .i64 room] w _
 by_cases h1:room < 1
 ·rw [if_pos (.inl h1)] at hr
  obtain rfl:=Option.some.inj hr
  refine (qHw h1).mono fun e w' h => ?_
  obtain ⟨rfl,rfl⟩:=h
  exact ret3 hX rfl rfl rfl (Nat.le_refl _) (fun _ _=>rfl) hq0
 by_cases h2:64 < room
 ·rw [if_pos (.inr h2)] at hr
  obtain rfl:=Option.some.inj hr
  refine (qFv h1 h2).mono fun e w' h => ?_
  obtain ⟨rfl,rfl⟩:=h
  exact ret3 hX rfl rfl rfl (Nat.le_refl _) (fun _ _=>rfl) hq0
 rw [if_neg (by omega)] at hr
 obtain ⟨R,rfl⟩:∃ R:Nat,room=R:=⟨room.toNat,by omega⟩
 refine (qFu (by omega) (by omega) sq sl).mono fun e w' h => ?_
 obtain ⟨h,hk⟩:=h
 have hold:∀ b,b < w.heap.size→w'.heap[b]? = w.heap[b]? := fun b hb=>hk.other b hb (by omega)
 have hle:(view w X).Le (view w' X):=qfW fun b' o hM ho=>⟨hM,(hold b' (Array.getElem?_eq_some_iff.1 ho).1).trans ho⟩
 rcases h with ⟨hlt,rfl⟩ | ⟨hge,sv,rfl,hR⟩
 ·rw [if_pos (by omega)] at hr
  obtain rfl:=Option.some.inj hr
  exact ret3 hX hk.os hk.tape hk.output hk.size hold (hq0.mono hle)
 ·rw [if_neg (by omega),Int.toNat_natCast] at hr
  obtain rfl:=Option.some.inj hr
  rw [Nat.min_comm (R - q.length) l.length]
  have hlen:(q++l.take (R - q.length):List BB).length=q.length+min l.length (R - q.length):=by
   rw [List.length_append,List.length_take,Nat.min_comm]
  refine ret3 hX hk.os hk.tape hk.output hk.size hold (qHg hX hold (c:=w.heap.size+1) (vals:=((List.range q.length).map qv++(List.range (min l.length (R - q.length))).map lv).toArray) (by rw [hlen];exact hR) fun i hi => ?_)
  by_cases hiq:i < q.length
  ·refine ⟨qv i, ?_, ?_⟩
   ·rw [List.getElem?_toArray,List.getElem?_append_left (by simpa using hiq)]
    simp [hiq]
   ·rw [List.getElem_append_left hiq]
    exact rq i hiq
  ·have hj:i - q.length < min l.length (R - q.length):=by omega
   refine ⟨lv (i - q.length), ?_, ?_⟩
   ·rw [List.getElem?_toArray,List.getElem?_append_right (by simp;omega)]
    simp [hj]
   ·rw [List.getElem_append_right (by omega),List.getElem_take]
    exact rl _ (by omega)
theorem qzL:FOK Tryz.prog 286 qnM:=by
 refine ⟨⟨Tryz.f286,Tryz.func286,by kernel_rfl,by kernel_rfl⟩, ?_⟩
 intro w X x vs r hX hkeys ha hr
 obtain ⟨q,l,room,⟨⟩⟩:=x
 obtain ⟨cs1,vs1,rfl,hq,cs2,vs2,rfl,hl,cs3,vs3,rfl,hro,rfl⟩:=ha
 obtain rfl:=RepC.zV.1 hro
 exact qHv hX q l room hq hl hr
end Yp
namespace Yp
open Go Go.Proofs Tryz
abbrev yT19:Ty := .int .u32
abbrev yT13:Ty := .bool
abbrev yT12:Ty := .int .u8
abbrev yT3:Ty := .sl yT12
abbrev yT22:Ty := .sl yT3
abbrev yT16:Ty := .pair yT3 (.pair yT3 (.unit))
abbrev yT9:Ty := .pair yT13 (.pair (.sl yT16) (.pair yT13 (.unit)))
abbrev yT2:Ty := .int .i64
abbrev yT15:Ty := .pair yT2 (.pair (.ar 16 (.int .u64)) (.unit))
abbrev yT14:Ty := .pair yT2 (.pair yT2 (.unit))
abbrev yT20:Ty := .pair yT3 yT14
abbrev yT7:Ty := .pair yT2 (.pair yT2 (.pair (.ar 2 yT2) (.pair yT2 (.pair yT2 yT16))))
abbrev yT6:Ty := .pair (.ar 4 yT13) (.pair (.ar 4 yT20) (.pair (.ar 4 yT2) (.pair yT2 (.unit))))
abbrev yT5:Ty := .pair yT13 (.pair yT2 (.pair yT2 (.pair yT2 (.pair yT2 (.pair yT3 (.pair yT3 (.pair yT2 (.unit))))))))
abbrev yT4:Ty := .pair yT2 (.pair yT3 (.unit))
abbrev yT21:Ty := .pair (.sl yT4) (.pair (.fn [350]) (.unit))
abbrev yT18:Ty := .pair yT2 (.pair (.ar 2 yT2) yT4)
abbrev yT17:Ty := .pair (.ar 8 yT19) yT4
abbrev yT11:Ty := .pair yT2 (.pair yT2 (.pair yT2 yT4))
abbrev yT10:Ty := .pair yT4 (.pair yT4 (.pair yT4 yT14))
abbrev yT8:Ty := .pair yT2 (.pair (.sl yT4) (.unit))
abbrev yT0:Ty := .pair yT2 (.pair yT3 (.pair yT2 (.pair yT16 (.pair yT2 (.pair yT2 (.pair yT2 (.pair yT2 (.pair yT2 (.pair yT15 (.pair yT10 (.pair yT11 (.pair yT2 (.pair yT2 (.pair yT22 (.pair yT6 (.pair (.sl yT4) (.pair (.sl yT18) (.pair (.ar 4 yT2) (.unit)))))))))))))))))))
abbrev yT1:Ty := .pair yT0 (.pair yT9 (.unit))
theorem qtA:FK 133 ⟨[yT2],[.im yT13],wC⟩:=mkC qD qC func133 3
theorem qlV:FK 305 ⟨[yT2],[.im (.int .u64)],yS⟩:=mkC qD qC func305 5
theorem qrT:FK 240 ⟨[yT15,yT2],[.im yT13],qgC⟩:=mkC (qA qD qlV) qC func240 5
theorem qwO:FK 120 ⟨[yT2],[.im yT13],qeE⟩:=mkC qD qC func120 3
theorem jA:FK 39 ⟨[yT3,yT3],[.im yT13],z1⟩:=mkC qD qC func39 5
theorem qAk:FK 243 ⟨[yT20,yT20],[.im yT13],qh6⟩:=mkC (qA qD jA) qC func243 5
theorem qjC:FK 28 ⟨[yT2],[.im yT13],wD⟩:=mkC qD qC func28 3
theorem qrS:FK 144 ⟨[yT4,yT4],[.im yT13],kO⟩:=mkC (qA qD jA) qC func144 5
theorem qAh:FK 40 ⟨[yT10,yT10],[.im yT13],qh4⟩:=mkC (qA qD qrS) qC func40 8
theorem qAu:FK 86 ⟨[yT22,yT22],[.im yT13],qiD⟩:=mkC qD qC func86 6
theorem qAd:FK 145 ⟨[yT16,yT16],[.im yT13],qh2⟩:=mkC (qA qD jA) qC func145 5
theorem qAc:FK 146 ⟨[yT11,yT11],[.im yT13],qh1⟩:=mkC (qA qD jA) qC func146 5
theorem qAj:FK 147 ⟨[yT6,yT6],[.im yT13],qh5⟩:=mkC (qA qD qAk) qC func147 7
theorem qz6:FK 148 ⟨[(.sl yT4),(.sl yT4)],[.im yT13],qhY⟩:=mkC (qA qD jA) qC func148 6
theorem qtB:FK 149 ⟨[(.sl yT18),(.sl yT18)],[.im yT13],qbM⟩:=mkC (qA qD jA) qC func149 6
theorem qz8:FK 42 ⟨[yT0,yT0],[.im yT13],qcU⟩:=mkC (qA (qA (qA (qA (qA (qA (qA (qA qD qtB) qz6) qAj) qAc) qAd) qAu) qAh) jA) qC func42 12
theorem qAq:FK 115 ⟨[yT9,yT9],[.im yT13],qc2⟩:=mkC (qA qD jA) qC func115 6
theorem qo1:FK 25 ⟨[yT1,yT1],[.im yT13],x5⟩:=mkC (qA (qA qD qAq) qz8) qC func25 7
theorem qAG:FK 318 ⟨[yT3],[.im (.str)],qrF⟩:=mkC qD qC func318 6
theorem qhO:FK 343 ⟨[(.int .i32)],[.im yT2, .im yT13],xL⟩:=mkC qD qC func343 4
theorem ql2:FK 269 ⟨[yT3,yT2,yT2],[.im (.str), .im yT2, .im yT2],vH⟩:=mkC (qA (qA qD qhO) qAG) qC func269 15
noncomputable abbrev qpY:wQ:=⟨[.str],[.im yT2, .im yT2],vG⟩
theorem qj7:FK 270 qpY:=mkC (qA qD qhO) qC func270 9
theorem qhL:FK 344 ⟨[yT2,yT2],[.im yT2],kF⟩:=mkC qD qC func344 5
theorem qiS:FK 271 ⟨[yT2],[.im yT13],qeX⟩:=mkC (qA qD qhL) qC func271 4
theorem qw8:FK 272 wX:=qv2 qjG
theorem qr6:FK 382 ⟨[yT2],[.im yT2],yC⟩:=mkC qD qC func382 3
noncomputable def qcM:Inl:=inlF (eN [] []) f383 3
theorem qcD:IK 383 qcM:=mkI qD qC func383 3
theorem qAD:FK 346 ⟨[yT2,yT2],[.im yT2],yY⟩:=mkC (qA qD qr6) (jN qC qcD) func346 5
theorem qdW:FK 273 ⟨[yT2],[.im yT14, .im yT13],qaE⟩:=mkC (qA qD qAD) qC func273 6
theorem qhN:FK 347 ⟨[yT2],[.im yT2],qR⟩:=mkC qD qC func347 3
noncomputable def qmD:Inl:=inlF (eN [] [(383,qcM)]) f384 7
theorem qlK:IK 384 qmD:=mkI qD (jN qC qcD) func384 7
noncomputable def qCl:Inl:=inlF (eN [] [(383,qcM),(384,qmD)]) f349 3
theorem qBv:IK 349 qCl:=mkI qD (jN (jN qC qlK) qcD) func349 3
theorem xM:FK 363 ⟨[yT5],[.im yT13],qa4⟩:=mkC qD qC func363 3
theorem jX:FK 365 ⟨[yT5],[.im yT13],y8⟩:=mkC qD qC func365 3
theorem xN:FK 364 ⟨[yT5],[.im yT13],qa5⟩:=mkC (qA qD jX) qC func364 4
theorem yJ:FK 366 ⟨[yT5],[.im yT13],qjU⟩:=mkC qD qC func366 3
theorem qbW:FK 277 ⟨[yT2,yT3],[.im yT13],vP⟩:=mkC (qA (qA (qA (qA (qA (qA qD yJ) jX) xN) xM) qhN) qdW) (jN (jN qC qBv) qlK) func277 8
theorem qAE:FK 274 ⟨[yT2,yT3,yT2],[.ow yT12, .im yT2, .im yT2],qiM⟩:=mkC (qA (qA (qA (qA (qA (qA (qA (qA (qA qD yJ) jX) xN) xM) qhN) qbW) qdW) qj7) ql2) qC func274 20
theorem quU:FK 177 ⟨[yT3],[.im yT8, .im yT2],qlJ⟩:=mkC (qA (qA (qA (qA (qA (qA qD qAE) qdW) qw8) qiS) qj7) ql2) qC func177 20
theorem qB8:FK 275 ⟨[yT2],[.im yT2],qgY⟩:=mkC (qA (qA qD qhL) qiS) qC func275 3
theorem qjF:FK 178 ⟨[yT8],[.im yT13],wH⟩:=mkC (qA qD qB8) qC func178 3
noncomputable abbrev qiZ:wQ:=⟨[yT4],[.im yT2],wG⟩
theorem jK:FK 350 qiZ:=mkC qD qC func350 3
theorem qoE:FK 278 ⟨[yT8],[.im yT21],qdM⟩:=mkC (qA qD jK) qC func278 3
theorem yK:FK 348 ⟨[yT21,yT2],[.im yT2, .im yT13],z8⟩:=mkC (qA qD jK) qC func348 9
noncomputable abbrev qyG:wQ:=⟨[yT8,yT2],[.im yT3, .im yT13],yX⟩
theorem ql0:FK 276 qyG:=mkC (qA (qA (qA qD jK) yK) qoE) qC func276 8
theorem qr0:FK 179 ⟨[yT8],[.im yT13],qdP⟩:=mkC (qA qD ql0) qC func179 5
theorem qbX:FK 180 ⟨[yT2,yT2],[.im (.str), .im yT2],x6⟩:=mkC qD qC func180 8
noncomputable def wP:Inl:=inlF (eN [] []) f385 5
theorem wM:IK 385 wP:=mkI qD qC func385 5
theorem ql3:FK 333 ⟨[yT3,yT3],[.im yT13],qbI⟩:=mkC qD qC func333 5
theorem qhM:FK 359 ⟨[yT4,yT4],[.im yT13],qiH⟩:=mkC (qA qD ql3) qC func359 5
theorem y2:FK 351 ⟨[(.sl (.sl yT4))],[.ow yT4],zG⟩:=mkC (qA qD qhM) (jN qC wM) func351 9
theorem qfC:FK 279 ⟨[yT21,yT4],[.ow yT4],j6⟩:=mkC (qA (qA (qA qD jK) y2) yK) qC func279 8
noncomputable abbrev qyF:wQ:=⟨[yT8,yT2,yT3],[.im yT8, .im yT2],jR⟩
theorem qrZ:FK 181 qyF:=mkC (qA (qA (qA (qA (qA qD jK) qfC) qoE) qbW) qdW) qC func181 10
theorem qB6:FK 280 ⟨[yT8],[.im yT13],qlH⟩:=mkC (qA (qA qD qbW) qiS) qC func280 6
theorem qAH:FK 281 ⟨[.str],[.ow yT12, .im yT2],qcI⟩:=mkC (qA qD qhO) qC func281 10
theorem qtL:FK 352 ⟨[(.sl yT2)],[.im yT13],qbZ⟩:=mkC qD qC func352 6
theorem qtK:FK 282 ⟨[(.sl yT2)],[.ow yT12, .im yT2],qbY⟩:=mkC (qA (qA qD qjG) qtL) qC func282 9
theorem qw6:FK 283 ⟨[yT2,yT3],[.ow yT12, .im yT2],qbF⟩:=mkC (qA (qA (qA (qA (qA (qA (qA (qA (qA qD yJ) jX) xN) xM) qhN) qAH) qbW) qdW) qbX) qC func283 14
theorem qj6:FK 182 ⟨[yT8],[.ow yT12, .im yT2],qbA⟩:=mkC (qA (qA (qA (qA (qA qD qw6) qtK) qAH) qB6) qbX) qC func182 17
theorem qoG:FK 71 ⟨[yT3,yT2],[.ow yT12, .im yT2],qdS⟩:=mkC (qA (qA (qA (qA (qA (qA qD qj6) qrZ) qbX) qr0) qjF) quU) qC func71 12
theorem qlZ:FK 263 ⟨[yT2,(.sl yT2)],[.im yT13],qa9⟩:=mkC qD qC func263 7
theorem qj5:FK 228 ⟨[yT0],[.im (.ar 2 yT2)],kY⟩:=mkC (qA qD qlZ) qC func228 4
theorem qrX:FK 234 ⟨[yT3],[.im yT13],qgU⟩:=mkC qD qC func234 3
theorem qhI:FK 225 ⟨[yT2],[.im yT2],yU⟩:=mkC qD qC func225 3
theorem qtG:FK 235 ⟨[yT2],[.im yT13],qbP⟩:=mkC (qA qD qhI) qC func235 3
theorem qEn:FK 319 ⟨[yT6],[.im yT6, .im yT2, .im yT2],qpD⟩:=mkC qD qC func319 7
theorem qAF:FK 389 ⟨[yT2,yT2],[.im yT13],qaM⟩:=mkC qD qC func389 5
theorem qr7:FK 367 ⟨[yT7],[.im yT13],qhA⟩:=mkC (qA qD qAF) qC func367 5
noncomputable abbrev qyH:wQ:=⟨[yT2,yT2],[.ow yT12, .im yT2],qe6⟩
theorem qGQ:FK 308 qyH:=mkC qD qC func308 8
noncomputable def qxP:Inl:=inlF (eN [(308,qyH)] []) f368 8
theorem qvX:IK 368 qxP:=mkI (qA qD qGQ) qC func368 8
theorem qr8:FK 320 ⟨[yT7],[.ow yT12, .im yT2],qhB⟩:=mkC (qA qD qr7) (jN qC qvX) func320 6
theorem qEk:FK 369 qtZ:=qD8 qEl
theorem yI:FK 370 ⟨[(.sl yT16)],[.cl yT16],zP⟩:=mkC qD qC func370 3
theorem qw7:FK 371 qkL:=qv1
theorem kI:FK 388 ⟨[yT19,yT2],[.im yT19],qI⟩:=mkC qD qC func388 6
theorem qz2:FK 387 ⟨[yT3],[.im (.ar 64 yT19)],qhT⟩:=mkC (qA qD kI) qC func387 9
theorem qrP:FK 362 ⟨[(.ar 8 yT19),yT3],[.im (.ar 8 yT19), .im yT2],qf0⟩:=mkC (qA (qA qD kI) qz2) qC func362 16
noncomputable abbrev qyD:wQ:=⟨[yT17,yT3],[.im yT17],qd6⟩
theorem qrO:FK 312 qyD:=mkC (qA qD qrP) qC func312 6
noncomputable abbrev qyE:wQ:=⟨[],[.im yT17],qpV⟩
theorem qz4:FK 313 qyE:=mkC qD qC func313 1
theorem qz3:FK 314 ⟨[yT17],[.ow yT12],qjN⟩:=mkC (qA qD qrP) qC func314 9
theorem qH8:FK 361 ⟨[yT3],[.ow yT12],qCG⟩:=mkC (qA (qA (qA (qA qD jK) qz3) qz4) qrO) qC func361 3
theorem qB3:FK 310 ⟨[yT3],[.ow yT12],qlE⟩:=mkC (qA qD qH8) qC func310 4
noncomputable def qCk:Inl:=inlF (eN [(312,qyD),(313,qyE),(350,qiZ)] []) f311 6
theorem qBu:IK 311 qCk:=mkI (qA (qA (qA qD jK) qz4) qrO) qC func311 6
theorem qAy:FK 231 ⟨[yT3,yT3],[.ow yT12],qqT⟩:=mkC (qA (qA (qA (qA qD jK) qz3) qrO) qB3) (jN qC qBu) func231 7
theorem qAx:FK 372 ⟨[yT3,yT3],[.ow yT12],qc9⟩:=mkC (qA qD qAy) qC func372 5
theorem qEj:FK 321 ⟨[yT9,yT3,yT3],[.im yT9, .ow yT12],qo6⟩:=mkC (qA (qA (qA (qA qD qAx) qw7) yI) qEk) qC func321 8
theorem qCa:FK 373 ⟨[yT7],[.im yT13],qlT⟩:=mkC (qA qD qr7) qC func373 3
theorem qB9:FK 322 ⟨[yT7],[.ow yT12, .im yT2],qlS⟩:=mkC (qA (qA qD qCa) qr8) qC func322 6
theorem qAC:FK 323 ⟨[yT3],[.ow yT12, .im yT2],qiK⟩:=mkC qD qC func323 4
theorem y3:FK 324 ⟨[(.sl yT4)],[.cl yT4],zR⟩:=mkC qD qC func324 3
theorem qrY:FK 236 ⟨[yT1,yT7,yT3],[.im yT1, .im yT2],qgV⟩:=mkC (qA (qA (qA (qA (qA (qA qD y3) qAC) qB9) qEj) qr8) qEn) qC func236 17
theorem qfB:FK 124 ⟨[yT1,yT3],[.im yT1, .im yT2],kX⟩:=mkC (qA (qA (qA (qA qD qrY) qtG) qrX) qj5) qC func124 9
theorem qiU:FK 287 wT:=qiT
theorem qAv:FK 190 ⟨[yT22],[.im yT3, .im yT22, .im yT13],qc7⟩:=mkC (qA qD qiU) qC func190 5
theorem qr4:FK 75 ⟨[yT1],[.im yT1],qg5⟩:=mkC (qA (qA qD qAv) qfB) qC func75 8
theorem qhJ:FK 105 ⟨[yT2],[.im yT13],qaJ⟩:=mkC (qA qD qhI) qC func105 3
theorem qAw:FK 286 qnM:=qzL
theorem qB0:FK 186 ⟨[yT22,yT3,yT2],[.im yT22, .im yT2],qk5⟩:=mkC (qA qD qAw) qC func186 11
theorem yH:FK 253 ⟨[(.sl yT18)],[.cl yT18],zN⟩:=mkC qD qC func253 3
theorem qoF:FK 187 ⟨[yT1,yT2,yT2,yT3],[.im yT1],qdR⟩:=mkC (qA (qA qD yH) qj5) qC func187 9
theorem qw5:FK 73 ⟨[yT1,yT3],[.im yT1, .im yT2],qbB⟩:=mkC (qA (qA (qA (qA (qA qD qoF) qB0) qhJ) qr4) qoG) qC func73 9
theorem qB1:FK 315 ⟨[yT5],[.im (.fn [363,364,365,366])],qqR⟩:=mkC (qA (qA (qA (qA qD yJ) jX) xN) xM) qC func315 3
theorem qoC:FK 232 ⟨[yT5],[.im yT13],qdG⟩:=mkC (qA (qA (qA (qA (qA qD yJ) jX) xN) xM) qB1) qC func232 3
noncomputable def qfU:Inl:=inlF (eN [(181,qyF)] []) f316 4
theorem qfN:IK 316 qfU:=mkI (qA qD qrZ) qC func316 4
theorem qtH:FK 317 ⟨[yT2,yT2],[.ow yT12],zY⟩:=mkC (qA qD qbX) qC func317 7
theorem qjE:FK 233 ⟨[yT5],[.im yT8],kD⟩:=mkC (qA (qA qD qAG) qtH) (jN qC qfN) func233 5
theorem qoB:FK 123 ⟨[yT5],[.ow yT12, .im yT2],qaK⟩:=mkC (qA (qA (qA qD qjE) qoC) qj6) qC func123 4
theorem qEr:FK 167 ⟨[yT2],[.im yT2],qpH⟩:=mkC qD qC func167 3
theorem qCd:FK 338 ⟨[yT2],[.im yT13],ql9⟩:=mkC qD qC func338 3
theorem qEq:FK 262 ⟨[yT2,yT2,yT3],[.im yT13],qpG⟩:=mkC (qA qD qCd) qC func262 7
theorem qCe:FK 168 ⟨[yT2,yT2,yT3],[.im yT11, .im yT2],qmA⟩:=mkC (qA qD qEq) qC func168 8
theorem qAz:FK 309 ⟨[yT3, .str,yT22],[.ow yT12, .im yT2],qiF⟩:=mkC (qA qD qAy) qC func309 11
theorem qB5:FK 264 ⟨[yT3],[.ow yT12],qgW⟩:=mkC (qA qD qAz) qC func264 5
theorem qAA:FK 169 ⟨[yT1,yT2,yT3],[.im yT1, .im yT2],qiG⟩:=mkC (qA (qA (qA (qA (qA qD qB5) qlZ) qrY) qrX) qj5) qC func169 9
theorem qrN:FK 63 ⟨[yT1,yT5],[.im yT1],wV⟩:=mkC (qA (qA (qA (qA (qA qD qAA) qCe) qEr) qfB) qoB) qC func63 9
noncomputable def qAQ:Inl:=inlF (eN [] []) f230 3
theorem qzG:IK 230 qAQ:=mkI qD qC func230 3
theorem qoA:FK 110 ⟨[yT2,yT2],[.im yT2, .im yT13],qdA⟩:=mkC (qA qD qhI) (jN qC qzG) func110 9
theorem qr5:FK 77 ⟨[yT1,yT2],[.im yT1, .im yT2],qg7⟩:=mkC (qA (qA (qA qD qoA) qhJ) qrN) qC func77 6
theorem qr2:FK 191 ⟨[yT1],[.im yT1],qdQ⟩:=mkC (qA qD qoA) qC func191 3
theorem qAB:FK 79 ⟨[yT1],[.im yT1],qiJ⟩:=mkC (qA qD qr2) qC func79 3
theorem qw3:FK 122 ⟨[yT5,yT2],[.im yT5, .im yT2],qa7⟩:=mkC qD qC func122 6
theorem qoH:FK 81 ⟨[yT1,yT5],[.im yT1],qdT⟩:=mkC (qA (qA (qA qD qfB) qoB) qw3) qC func81 9
theorem qhK:FK 125 ⟨[yT1,yT2],[.im yT1],kE⟩:=mkC qD qC func125 7
theorem qEs:FK 325 ⟨[yT11,yT11],[.im yT13],qxH⟩:=mkC (qA qD ql3) qC func325 5
theorem qEp:FK 237 ⟨[yT11],[.im yT13],qpF⟩:=mkC (qA qD qEs) qC func237 3
theorem qCc:FK 129 ⟨[yT11,yT2,yT2],[.im yT13],ql8⟩:=mkC (qA qD qEp) qC func129 7
noncomputable def qxO:Inl:=inlF (eN [(270,qpY),(276,qyG)] [(316,qfU)]) f288 7
theorem qvW:IK 288 qxO:=mkI (qA (qA qD ql0) qj7) (jN qC qfN) func288 7
theorem qEo:FK 357 ⟨[yT12],[.im yT12, .im yT13],qpE⟩:=mkC qD qC func357 4
theorem qCb:FK 289 ⟨[.str],[.ow yT12, .im yT2],qhC⟩:=mkC (qA qD qEo) qC func289 10
theorem jS:FK 358 ⟨[(.sl yT4),(.sl yT4),(.fn [359])],[.im yT13],qQ⟩:=mkC (qA qD qhM) qC func358 10
theorem qEm:FK 290 ⟨[yT8,yT8],[.im yT13],qlG⟩:=mkC (qA (qA qD qhM) jS) qC func290 5
theorem qB2:FK 193 ⟨[yT3],[.im yT5, .im yT2],qk8⟩:=mkC (qA (qA (qA (qA (qA (qA qD qEm) qCb) ql0) qjE) qoC) quU) (jN qC qvW) func193 10
theorem ql1:FK 83 ⟨[yT1,yT5],[.im yT1],qbC⟩:=mkC (qA (qA (qA (qA qD qB2) qr2) qCc) qhK) qC func83 7
theorem qwT:FK 87 ⟨[yT6,yT2],[.im yT6, .im yT2],qjR⟩:=mkC qD qC func87 6
theorem qBQ:FK 140 ⟨[yT3],[.im yT10, .im yT2],qkZ⟩:=mkC qD qC func140 4
theorem qe9:FK 202 ⟨[yT2,yT2],[.im yT2],xS⟩:=mkC qD qC func202 7
theorem qj4:FK 246 ⟨[yT2,yT2],[.ow yT12, .im yT2],kS⟩:=mkC (qA qD qe9) qC func246 8
theorem qBX:FK 374 ⟨[yT2],[.ow yT12],qk3⟩:=mkC qD qC func374 6
theorem qn9:FK 375 ⟨[],[.ow yT19],qiC⟩:=mkC qD qC func375 1
theorem qAs:FK 392 ⟨[yT19,yT19],[.im yT19],jW⟩:=mkC qD qC func392 5
theorem qn8:FK 376 ⟨[(.ar 8 yT19),yT3,yT2,(.sl yT19)],[.im (.ar 8 yT19)],qc4⟩:=mkC (qA qD qAs) qC func376 30
theorem qBV:FK 327 ⟨[yT17],[.ow yT12],qgG⟩:=mkC (qA (qA (qA qD qn8) qn9) qBX) qC func327 9
theorem qBW:FK 328 ⟨[yT17,yT3],[.im yT17],qgH⟩:=mkC (qA (qA qD qn8) qn9) qC func328 8
theorem qBY:FK 329 ⟨[],[.im yT17],qqG⟩:=mkC qD qC func329 1
theorem qnC:FK 250 ⟨[yT3],[.ow yT12],qeN⟩:=mkC (qA (qA (qA qD qBY) qBW) qBV) qC func250 3
theorem qw0:FK 249 ⟨[yT3],[.ow yT12],qeM⟩:=mkC (qA qD qnC) qC func249 4
theorem qrU:FK 150 ⟨[yT3,yT3],[.ow yT12],qgE⟩:=mkC (qA (qA qD qnC) qw0) qC func150 9
theorem qAr:FK 326 ⟨[.str,yT22],[.ow yT12],qiB⟩:=mkC qD qC func326 7
theorem qjD:FK 247 ⟨[yT3, .str,yT22],[.ow yT12, .im yT2],wE⟩:=mkC (qA (qA qD qAr) qrU) qC func247 9
theorem qBM:FK 141 ⟨[yT3,(.ar 2 yT2),yT2,yT3],[.ow yT12],qf8⟩:=mkC (qA (qA (qA qD qjD) qj4) qtA) qC func141 19
theorem qtD:FK 248 ⟨[yT2],[.ow yT12, .im yT2],qbN⟩:=mkC (qA (qA qD qnC) qj4) qC func248 7
theorem qBO:FK 142 ⟨[],[.im yT16],qgA⟩:=mkC (qA qD qtD) qC func142 3
theorem qBT:FK 143 ⟨[.bool],[.im yT9],qk1⟩:=mkC qD qC func143 3
theorem qoD:FK 85 ⟨[.bool],[.im yT1],qdK⟩:=mkC (qA (qA (qA (qA (qA qD qBT) qBO) qBM) qBQ) qwT) qC func85 7
theorem qhH:FK 201 ⟨[.str],[.im yT13],kR⟩:=mkC qD qC func201 4
theorem qfA:FK 92 ⟨[.str],[.im yT2, .im yT2],v7⟩:=mkC (qA (qA qD qe9) qhH) qC func92 6
theorem qn6:FK 95 ⟨[yT2],[.im yT13],qc1⟩:=mkC qD qC func95 3
theorem qhG:FK 197 ⟨[yT3,yT2,yT2],[.im (.str), .im yT2, .im yT2],j3⟩:=mkC qD qC func197 13
theorem qlX:FK 298 ⟨[yT2],[.im yT2, .im yT12],v6⟩:=mkC qD qC func298 6
theorem qBS:FK 293 ⟨[yT3,yT2],[.im yT13],kQ⟩:=mkC (qA qD qlX) qC func293 7
theorem qAn:FK 198 ⟨[yT3,yT2],[.ow yT2, .im yT2, .im yT2],qh8⟩:=mkC (qA qD qBS) qC func198 12
theorem qEi:FK 294 ⟨[(.sl yT2),yT2],[.im yT13],qk0⟩:=mkC qD qC func294 6
theorem qiR:FK 199 ⟨[yT2],[.im yT14, .im yT13],qeK⟩:=mkC (qA qD qEi) qC func199 7
theorem qlY:FK 295 ⟨[yT2],[.im yT2],yT⟩:=mkC qD qC func295 3
theorem qhF:FK 296 ⟨[yT14,yT3],[.im yT13],xH⟩:=mkC qD qC func296 6
theorem qAo:FK 200 ⟨[yT2,yT3,yT2],[.ow yT12, .im yT2, .im yT2],qh9⟩:=mkC (qA (qA (qA (qA (qA qD qhF) qlY) qiR) qhG) qfA) qC func200 23
theorem qn7:FK 90 ⟨[yT3],[.im yT8, .im yT2],qaI⟩:=mkC (qA (qA (qA (qA (qA (qA qD qAo) qiR) qAn) qhG) qn6) qfA) qC func90 20
theorem qj3:FK 91 ⟨[yT8,yT2],[.im yT3, .im yT13],kP⟩:=mkC qD qC func91 7
theorem qr1:FK 209 ⟨[.bool,yT2,yT2],[.im yT2],qe2⟩:=mkC qD qC func209 7
theorem qr3:FK 210 ⟨[yT8],[.im yT13],qe3⟩:=mkC (qA qD qr0) qC func210 4
theorem qB7:FK 299 ⟨[yT2],[.im yT2, .im yT13],qzC⟩:=mkC (qA (qA qD qhL) qiS) qC func299 5
theorem qtI:FK 211 ⟨[yT1,yT8],[.im yT1],qnY⟩:=mkC (qA (qA (qA (qA (qA (qA qD qB7) ql0) qj6) qrZ) qhK) qfB) qC func211 13
theorem qtJ:FK 99 ⟨[yT1,yT7,yT8],[.im yT1],qbS⟩:=mkC (qA (qA (qA (qA (qA (qA (qA qD qtI) qr3) qr1) qoF) qjF) qhK) qhJ) qC func99 7
theorem qn4:FK 36 ⟨[yT0],[.im (.ar 2 yT2)],qcV⟩:=mkC qD qC func36 3
theorem qBN:FK 189 ⟨[yT0,yT2,(.ar 2 yT2),yT2,yT3],[.im yT0],qkX⟩:=mkC qD qC func189 11
theorem qz9:FK 158 ⟨[yT0,yT2],[.im yT0],qhZ⟩:=mkC (qA (qA (qA qD qBN) qn4) qjC) qC func158 6
theorem qAp:FK 285 ⟨[yT2,yT3],[.im yT13],qiA⟩:=mkC (qA (qA qD qhF) qiR) qC func285 8
theorem qwU:FK 203 ⟨[yT8],[.im yT13],qeH⟩:=mkC (qA (qA qD qAp) qn6) qC func203 5
theorem qcK:FK 96 ⟨[yT2,yT2],[.im (.str), .im yT2],j5⟩:=mkC (qA qD qe9) qC func96 8
theorem qrW:FK 206 ⟨[.str],[.ow yT12, .im yT2],vT⟩:=mkC (qA qD qhH) qC func206 6
theorem qwX:FK 204 ⟨[yT2,yT3],[.ow yT12, .im yT2],qaW⟩:=mkC (qA (qA (qA (qA (qA qD qhF) qlY) qrW) qiR) qcK) qC func204 16
theorem qwW:FK 297 ⟨[(.sl yT2)],[.im yT13],qeJ⟩:=mkC qD qC func297 4
theorem qwV:FK 205 ⟨[(.sl yT2)],[.ow yT12, .im yT2],qeI⟩:=mkC (qA (qA qD qlX) qwW) qC func205 11
theorem qAm:FK 207 ⟨[yT2],[.im (.str)],qh7⟩:=mkC (qA qD qcK) qC func207 5
theorem qlW:FK 97 ⟨[yT8],[.ow yT12, .im yT2],v5⟩:=mkC (qA (qA (qA (qA (qA qD qAm) qrW) qwV) qwX) qwU) qC func97 14
theorem qB4:FK 176 ⟨[yT2],[.ow yT12],qa8⟩:=mkC (qA qD qlW) qC func176 5
theorem qw4:FK 70 ⟨[],[.im yT13],qeW⟩:=mkC (qA (qA (qA (qA (qA (qA (qA (qA (qA (qA (qA (qA (qA (qA qD qB4) qz9) qtJ) qj3) qn7) qoD) ql1) qoH) qAB) qr5) qr4) qw5) qoG) qo1) qC func70 18
theorem qtE:FK 360 ⟨[yT2],[.im yT13],kB⟩:=mkC qD qC func360 3
theorem qlU:FK 291 ⟨[yT7],[.im yT13],qaS⟩:=mkC (qA qD qtE) qC func291 6
theorem qBP:FK 300 ⟨[yT2,yT2],[.ow yT12],jP⟩:=mkC (qA qD qj4) qC func300 7
theorem qwQ:FK 216 ⟨[yT7],[.ow yT12, .im yT2],qaU⟩:=mkC (qA (qA qD qBP) qlU) qC func216 6
theorem qwY:FK 301 ⟨[yT3,yT3],[.ow yT12],qeL⟩:=mkC (qA qD qrU) qC func301 5
theorem qBU:FK 302 ⟨[yT9,yT3,yT3],[.im yT13],qk2⟩:=mkC (qA qD jA) qC func302 8
theorem qwP:FK 195 ⟨[yT7],[.im yT13],qaT⟩:=mkC (qA qD qlU) qC func195 4
theorem qwN:FK 30 ⟨[yT5],[.im yT13],qeD⟩:=mkC (qA qD qwO) qC func30 4
theorem qrQ:FK 339 ⟨[yT2,yT2],[.ow yT12],qW⟩:=mkC (qA qD qcK) qC func339 7
theorem qAt:FK 379 ⟨[yT12],[.im yT12],qc5⟩:=mkC qD qC func379 3
theorem qBZ:FK 340 ⟨[yT3],[.im (.str)],qgJ⟩:=mkC (qA qD qAt) qC func340 5
theorem qrR:FK 265 ⟨[yT5],[.im yT8],wZ⟩:=mkC (qA (qA qD qBZ) qrQ) qC func265 4
theorem qwM:FK 171 ⟨[yT5],[.ow yT12, .im yT2],qeC⟩:=mkC (qA (qA (qA qD qrR) qlW) qwN) qC func171 7
theorem qAa:FK 214 ⟨[yT3],[.ow yT12],qh0⟩:=mkC (qA qD qjD) qC func214 5
theorem qw1:FK 306 ⟨[yT12],[.im yT2],qeO⟩:=mkC qD qC func306 3
theorem qw2:FK 219 ⟨[.str],[.ow yT12, .im yT2],qaY⟩:=mkC (qA qD qw1) qC func219 8
theorem qtC:FK 220 ⟨[yT8,yT2],[.im yT2],xR⟩:=mkC (qA (qA qD qfA) qj3) qC func220 9
theorem qAb:FK 102 ⟨[yT3],[.im yT5, .im yT2],yQ⟩:=mkC (qA (qA (qA (qA (qA (qA qD qtC) qw2) qwM) qj3) qn7) jA) qC func102 15
theorem qwL:FK 212 ⟨[yT1,yT2],[.im yT1],v4⟩:=mkC qD qC func212 7
theorem qrV:FK 266 ⟨[yT3,yT2,yT2],[.im yT2, .im yT2, .im yT2],qaA⟩:=mkC qD qC func266 11
theorem qAe:FK 194 ⟨[yT3,yT2,yT2],[.im yT2],vL⟩:=mkC (qA qD qrV) qC func194 10
theorem qAf:FK 88 ⟨[yT3],[.im yT7, .im yT2],qh3⟩:=mkC (qA (qA qD qwP) qAe) qC func88 7
theorem qBR:FK 292 ⟨[yT20,yT12],[.im yT20, .ow yT12],qc0⟩:=mkC qD qC func292 7
theorem qAl:FK 196 ⟨[yT20,yT3],[.im yT20, .ow yT3],qmT⟩:=mkC (qA qD qBR) qC func196 10
theorem qz5:FK 89 ⟨[yT3],[.im yT3],qaG⟩:=mkC (qA qD qAl) qC func89 5
theorem qAg:FK 132 ⟨[yT10],[.im yT10, .im yT2],qcX⟩:=mkC qD qC func132 4
theorem qn5:FK 215 ⟨[yT10,yT2],[.im yT3, .im yT13],qcY⟩:=mkC qD qC func215 6
theorem qwK:FK 213 ⟨[yT0,yT7],[.im yT13],qeB⟩:=mkC (qA (qA (qA qD qn5) qn4) qjC) qC func213 9
theorem qwZ:FK 217 ⟨[yT9,yT3,yT3,yT3],[.im yT9, .im yT13],qaX⟩:=mkC (qA (qA (qA qD qBU) qwY) jA) qC func217 11
theorem qwS:FK 303 ⟨[yT15,yT2],[.im yT13],qeG⟩:=mkC (qA qD qrT) qC func303 5
theorem qwR:FK 304 ⟨[yT15],[.ow yT2],qeF⟩:=mkC (qA qD qrT) qC func304 6
theorem qAi:FK 218 ⟨[yT15,yT2],[.im yT15, .im yT2],qcZ⟩:=mkC (qA (qA (qA qD qlV) qwR) qwS) qC func218 12
theorem qz7:FK 101 ⟨[yT1,yT3],[.im yT1, .im yT7, .im yT2],qaH⟩:=mkC (qA (qA (qA (qA (qA (qA (qA (qA (qA qD qAi) qwZ) qwQ) qn5) qAa) qwK) qwL) qAg) qAf) qC func101 21
theorem qnD:FK 20 ⟨[(.int .u16),(.int .u16),(.int .u16)],[.im yT13],kW⟩:=mkC (qA (qA (qA (qA (qA (qA (qA (qA qD qAb) qz7) qz5) qoD) ql1) qoH) qr5) qw4) qC func20 21
end Yp
namespace Yp
open Go
set_option maxRecDepth 100000
set_option maxHeartbeats 2000000
def tn (x n:UInt32):UInt32:=u32 (orI .u32 (n32 (u32 (shrI .u32 (n32 x) (n32 n)))) (n32 (u32 (shlI .u32 (n32 x) (n32 (u32 (isub (n32 (u32 32)) (n32 n))))))))
theorem qb1 (x n:UInt32):jW (x,n,())=some (tn x n,()):=rfl
theorem qFF (a b:UInt32):u32 (orI .u32 (n32 a) (n32 b))=u32 (orI .u32 (n32 b) (n32 a)):=by rw [or32,or32,UInt32.or_comm]
theorem qi0 {x:UInt32} {k:Int} {n:UInt32} (h1:n64 (u64 (andI .u64 (n64 (u64 k)) (n64 (u64 31))))=n32 (u32 (isub (n32 (u32 32)) (n32 n)))) (h2:n64 (u64 (isub (n64 (u64 32)) (n64 (u64 (andI .u64 (n64 (u64 k)) (n64 (u64 31)))))))=n32 n) :
  qI (x,k,())=some (tn x n,()):=by
 unfold qI tn
 dsimp only
 rw [qFF,h2,h1]
theorem r2 (x:UInt32):qI (x, -2,())=some (tn x (u32 2),()):=qi0 (by decide +kernel) (by decide +kernel)
theorem r3 (x:UInt32):qI (x, -13,())=some (tn x (u32 13),()):=qi0 (by decide +kernel) (by decide +kernel)
theorem r4 (x:UInt32):qI (x, -22,())=some (tn x (u32 22),()):=qi0 (by decide +kernel) (by decide +kernel)
theorem r6 (x:UInt32):qI (x, -6,())=some (tn x (u32 6),()):=qi0 (by decide +kernel) (by decide +kernel)
theorem r11 (x:UInt32):qI (x, -11,())=some (tn x (u32 11),()):=qi0 (by decide +kernel) (by decide +kernel)
theorem r25 (x:UInt32):qI (x, -25,())=some (tn x (u32 25),()):=qi0 (by decide +kernel) (by decide +kernel)
theorem r7 (x:UInt32):qI (x, -7,())=some (tn x (u32 7),()):=qi0 (by decide +kernel) (by decide +kernel)
theorem r18 (x:UInt32):qI (x, -18,())=some (tn x (u32 18),()):=qi0 (by decide +kernel) (by decide +kernel)
theorem r17 (x:UInt32):qI (x, -17,())=some (tn x (u32 17),()):=qi0 (by decide +kernel) (by decide +kernel)
theorem r19 (x:UInt32):qI (x, -19,())=some (tn x (u32 19),()):=qi0 (by decide +kernel) (by decide +kernel)
def qIT (a b c d:UInt8):UInt32 :=
 u32 (iadd (n32 (u32 (iadd (n32 (u32 (iadd (n32 (u32 (imul (n32 (u32 (n8 a))) (n32 (u32 16777216))))) (n32 (u32 (imul (n32 (u32 (n8 b))) (n32 (u32 65536)))))))) (n32 (u32 (imul (n32 (u32 (n8 c))) (n32 (u32 256)))))))) (n32 (u32 (n8 d))))
def qKo (a b c d:UInt8):UInt32 :=
 u32 (orI .u32 (n32 (u32 (orI .u32 (n32 (u32 (orI .u32 (n32 (u32 (shlI .u32 (n32 (u32 (n8 a))) (n64 (u64 24))))) (n32 (u32 (shlI .u32 (n32 (u32 (n8 b))) (n64 (u64 16)))))))) (n32 (u32 (shlI .u32 (n32 (u32 (n8 c))) (n64 (u64 8)))))))) (n32 (u32 (n8 d))))
theorem kU {a:Int} (h:0≤a∧a < 4294967296):n32 (u32 a)=a:=by
 show (((BitVec.ofNat 32 ((a % 2 ^ 32).toNat)).toNat:Nat):Int)=a
 rw [BitVec.toNat_ofNat];omega
theorem qfX {a:Nat} (h:a < 4294967296):(u32 (a:Int)).toNat=a:=by
 have:=kU (a:=(a:Int)) (by omega)
 unfold n32 at this;omega
theorem qIS (a b c d:UInt8):qKo a b c d=qIT a b c d:=by
 have ha:=a.toNat_lt;have hb:=b.toNat_lt;have hc:=c.toNat_lt;have hd:=d.toNat_lt
 unfold qKo qIT
 have e1:∀ x:UInt8,n32 (u32 (n8 x))=(x.toNat:Int):=fun x=>by
  have:=x.toNat_lt
  exact kU (a:=(x.toNat:Int)) (by omega)
 have s1:∀ (x:UInt8),shlI .u32 (n32 (u32 (n8 x))) (n64 (u64 24))=((x.toNat*16777216:Nat):Int):=fun x=>by rw [e1];show (x.toNat:Int)*2 ^ 24=_;omega
 have s2:∀ (x:UInt8),shlI .u32 (n32 (u32 (n8 x))) (n64 (u64 16))=((x.toNat*65536:Nat):Int):=fun x=>by rw [e1];show (x.toNat:Int)*2 ^ 16=_;omega
 have s3:∀ (x:UInt8),shlI .u32 (n32 (u32 (n8 x))) (n64 (u64 8))=((x.toNat*256:Nat):Int):=fun x=>by rw [e1];show (x.toNat:Int)*2 ^ 8=_;omega
 have m1:∀ (x:UInt8),imul (n32 (u32 (n8 x))) (n32 (u32 16777216))=((x.toNat*16777216:Nat):Int):=fun x=>by rw [e1,kU (by decide)];show (x.toNat:Int)*16777216=_;omega
 have m2:∀ (x:UInt8),imul (n32 (u32 (n8 x))) (n32 (u32 65536))=((x.toNat*65536:Nat):Int):=fun x=>by rw [e1,kU (by decide)];show (x.toNat:Int)*65536=_;omega
 have m3:∀ (x:UInt8),imul (n32 (u32 (n8 x))) (n32 (u32 256))=((x.toNat*256:Nat):Int):=fun x=>by rw [e1,kU (by decide)];show (x.toNat:Int)*256=_;omega
 rw [s1,s2,s3,m1,m2,m3,or32,or32,or32]
 have d1:(u32 (n8 d)).toNat=d.toNat:=qfX (by omega)
 apply UInt32.toNat_inj.1
 rw [UInt32.toNat_or,UInt32.toNat_or,UInt32.toNat_or,qfX (by omega),qfX (by omega),qfX (by omega),d1]
 have o3:(c.toNat*256) ||| d.toNat=c.toNat*256+d.toNat:=by
  have:=Nat.two_pow_add_eq_or_of_lt (i:=8) (b:=d.toNat) (by omega) c.toNat
  rw [Nat.mul_comm];exact this.symm
 have o2:(b.toNat*65536) ||| (c.toNat*256+d.toNat)=b.toNat*65536+(c.toNat*256+d.toNat):=by
  have:=Nat.two_pow_add_eq_or_of_lt (i:=16) (b:=c.toNat*256+d.toNat) (by omega) b.toNat
  rw [Nat.mul_comm b.toNat];exact this.symm
 have o1:(a.toNat*16777216) ||| (b.toNat*65536+(c.toNat*256+d.toNat))=a.toNat*16777216+(b.toNat*65536+(c.toNat*256+d.toNat)):=by
  have:=Nat.two_pow_add_eq_or_of_lt (i:=24) (b:=b.toNat*65536+(c.toNat*256+d.toNat)) (by omega) a.toNat
  rw [Nat.mul_comm a.toNat];exact this.symm
 rw [Nat.or_assoc,Nat.or_assoc,o3,o2,o1]
 have q1:iadd (n32 (u32 ((a.toNat*16777216:Nat):Int))) (n32 (u32 ((b.toNat*65536:Nat):Int)))=((a.toNat*16777216+b.toNat*65536:Nat):Int):=by
  rw [kU (by omega),kU (by omega)];show (_:Int)+_=_;omega
 rw [q1]
 have q2:iadd (n32 (u32 ((a.toNat*16777216+b.toNat*65536:Nat):Int))) (n32 (u32 ((c.toNat*256:Nat):Int)))=((a.toNat*16777216+b.toNat*65536+c.toNat*256:Nat):Int):=by
  rw [kU (by omega),kU (by omega)];show (_:Int)+_=_;omega
 rw [q2]
 have q3:iadd (n32 (u32 ((a.toNat*16777216+b.toNat*65536+c.toNat*256:Nat):Int))) (n32 (u32 (n8 d)))=((a.toNat*16777216+b.toNat*65536+c.toNat*256+d.toNat:Nat):Int):=by
  rw [kU (by omega),e1];show (_:Int)+_=_;omega
 rw [q3,qfX (by omega)];omega
def mixW (m2 m7 m15 m16:UInt32):UInt32 :=
 u32 (iadd (n32 (u32 (iadd (n32 (u32 (iadd (n32 (u32 (xorI .u32 (n32 (u32 (xorI .u32 (n32 (tn m2 (u32 17))) (n32 (tn m2 (u32 19)))))) (n32 (u32 (shrI .u32 (n32 m2) (n64 (u64 10)))))))) (n32 m7)))) (n32 (u32 (xorI .u32 (n32 (u32 (xorI .u32 (n32 (tn m15 (u32 7))) (n32 (tn m15 (u32 18)))))) (n32 (u32 (shrI .u32 (n32 m15) (n64 (u64 3))))))))))) (n32 m16))
def q8 (b:BB) (i:Nat):UInt8:=b.getD i 0
def q32 (m:List UInt32) (i:Nat):UInt32:=m.getD i 0
def sch (b:BB) (at':Nat):Nat→List UInt32
 | 0=>List.replicate 64 0
 | t+1=>(sch b at' t).set t (if t < 16 then qIT (q8 b (at'+4*t)) (q8 b (at'+4*t+1)) (q8 b (at'+4*t+2)) (q8 b (at'+4*t+3))
   else mixW (q32 (sch b at' t) (t - 2)) (q32 (sch b at' t) (t - 7)) (q32 (sch b at' t) (t - 15)) (q32 (sch b at' t) (t - 16)))
theorem qcQ (b:BB) (at':Nat):∀ t,(sch b at' t).length=64
 | 0=>by simp [sch]
 | t+1=>by rw [sch,List.length_set];exact qcQ b at' t
theorem qyB {b c:BB} {x y:Nat} (h:∀ i,i < 64→q8 b (x+i)=q8 c (y+i)):∀ t,sch b x t=sch c y t
 | 0=>rfl
 | t+1=>by
  rw [sch,sch,qyB h t]
  by_cases ht:t < 16
  ·rw [if_pos ht,if_pos ht,h (4*t) (by omega),Nat.add_assoc x,Nat.add_assoc x,Nat.add_assoc x,h (4*t+1) (by omega),h (4*t+2) (by omega),h (4*t+3) (by omega)];rfl
  ·rw [if_neg ht,if_neg ht]
theorem i64n {n:Nat} {a:Int} (h:a=(n:Int)) (hn:n≤9223372036854775807):i64 a=(n:Int):=by rw [h];exact z0 (by omega) (by omega)
theorem qpU (b:BB) (hb:b.length=64):qhT (b,())=some (sch b 0 64,()):=by
 unfold qhT
 generalize hf:(fun (x_1:Int×List UInt32×Unit)=>_)=f
 have step:∀ t:Nat,t < 64→f ((t:Int),sch b 0 t,())=some (.nx (((t+1:Nat):Int),sch b 0 (t+1),())):=by
  intro t ht
  subst hf
  have hi:i64 (iadd (t:Int) 1)=((t+1:Nat):Int):=i64n (by show (t:Int)+1=_;omega) (by omega)
  refine (qE (by simp only [go_sem,Int.reduceToNat];omega)).trans ?_
  by_cases h16:t < 16
  ·have e0:i64 (imul 4 (t:Int))=((4*t:Nat):Int):=i64n (by show 4*(t:Int)=_;omega) (by omega)
   have e1:i64 (iadd (i64 (imul 4 (t:Int))) 1)=((4*t+1:Nat):Int):=by rw [e0];exact i64n (by show ((4*t:Nat):Int)+1=_;omega) (by omega)
   have e2:i64 (iadd (i64 (imul 4 (t:Int))) 2)=((4*t+2:Nat):Int):=by rw [e0];exact i64n (by show ((4*t:Nat):Int)+2=_;omega) (by omega)
   have e3:i64 (iadd (i64 (imul 4 (t:Int))) 3)=((4*t+3:Nat):Int):=by rw [e0];exact i64n (by show ((4*t:Nat):Int)+3=_;omega) (by omega)
   refine (qE (by simp only [go_sem,Int.reduceToNat];omega)).trans ?_
   dsimp only
   rw [e1,e2,e3,e0,hi]
   refine (qH (by simp only [go_sem,Int.reduceToNat];omega)).trans ((qH (by simp only [go_sem,Int.reduceToNat];omega)).trans ((qH (by simp only [go_sem,Int.reduceToNat];omega)).trans ((qH (by simp only [go_sem,Int.reduceToNat];omega)).trans ((qH (by simp only [go_sem,Int.reduceToNat];omega)).trans ?_))))
   have hw:=qIS (q8 b (4*t)) (q8 b (4*t+1)) (q8 b (4*t+2)) (q8 b (4*t+3))
   rw [sch,if_pos h16,Nat.zero_add,← hw]
   rfl
  ·have e15:i64 (isub (t:Int) 15)=((t - 15:Nat):Int):=i64n (by show (t:Int) - 15=_;omega) (by omega)
   have e2:i64 (isub (t:Int) 2)=((t - 2:Nat):Int):=i64n (by show (t:Int) - 2=_;omega) (by omega)
   have e7:i64 (isub (t:Int) 7)=((t - 7:Nat):Int):=i64n (by show (t:Int) - 7=_;omega) (by omega)
   have e16:i64 (isub (t:Int) 16)=((t - 16:Nat):Int):=i64n (by show (t:Int) - 16=_;omega) (by omega)
   refine (qB (by simp only [go_sem,Int.reduceToNat];omega)).trans ?_
   dsimp only
   rw [e15,e2,e7,e16,hi]
   refine (qH (by simp only [go_sem,Int.reduceToNat];omega)).trans ?_
   refine (qH (by simp only [go_sem,Int.reduceToNat];omega)).trans ?_
   rw [r7]
   refine (qG rfl).trans ?_
   rw [r18]
   refine (qG rfl).trans ?_
   rw [r17]
   refine (qG rfl).trans ?_
   rw [r19]
   refine (qG rfl).trans ?_
   refine (qH (by simp only [go_sem,Int.reduceToNat];omega)).trans ?_
   refine (qH (by simp only [go_sem,Int.reduceToNat];omega)).trans ?_
   refine (qH (by simp only [go_sem,Int.reduceToNat];omega)).trans ?_
   rw [sch,if_neg h16]
   rfl
 have hend:∀ m,f (((64:Nat):Int),m,())=some (.ex 0 (((64:Nat):Int),m,())):=by subst hf;intro m;exact qB rfl
 have hloop:loop f (((0:Nat):Int),sch b 0 0,())=some (.ex 0 (((64:Nat):Int),sch b 0 64,())) :=
  (qM (f:=f) (fun t=>((t:Int),sch b 0 t,())) 64 step 0 (Nat.zero_le _)).trans (qT (hend _))
 generalize hs:sch b 0 64=m at hloop
 refine (zH (show loop f _=_ from hloop)).trans ?_
 rfl
abbrev R8:=UInt32×UInt32×UInt32×UInt32×UInt32×UInt32×UInt32×UInt32
def t1D (k m h g f e:UInt32):UInt32 :=
 u32 (iadd (n32 (u32 (iadd (n32 (u32 (iadd (n32 (u32 (iadd (n32 h) (n32 (u32 (xorI .u32 (n32 (u32 (xorI .u32 (n32 (tn e (u32 6))) (n32 (tn e (u32 11)))))) (n32 (tn e (u32 25))))))))) (n32 (u32 (xorI .u32 (n32 (u32 (andI .u32 (n32 e) (n32 f)))) (n32 (u32 (andI .u32 (n32 (u32 (xorI .u32 4294967295 (n32 e)))) (n32 g)))))))))) (n32 k)))) (n32 m))
def t2D (c b a:UInt32):UInt32 :=
 u32 (iadd (n32 (u32 (xorI .u32 (n32 (u32 (xorI .u32 (n32 (tn a (u32 2))) (n32 (tn a (u32 13)))))) (n32 (tn a (u32 22)))))) (n32 (u32 (xorI .u32 (n32 (u32 (xorI .u32 (n32 (u32 (andI .u32 (n32 a) (n32 b)))) (n32 (u32 (andI .u32 (n32 a) (n32 c))))))) (n32 (u32 (andI .u32 (n32 b) (n32 c))))))))
def nxt (k m:UInt32) (s:R8):R8 :=
 (s.2.1,s.2.2.1,s.2.2.2.1,u32 (iadd (n32 s.2.2.2.2.1) (n32 (t1D k m s.1 s.2.1 s.2.2.1 s.2.2.2.1))),s.2.2.2.2.2.1,s.2.2.2.2.2.2.1,s.2.2.2.2.2.2.2,
  u32 (iadd (n32 (t1D k m s.1 s.2.1 s.2.2.1 s.2.2.2.1)) (n32 (t2D s.2.2.2.2.2.1 s.2.2.2.2.2.2.1 s.2.2.2.2.2.2.2))))
def rounds (ms:List UInt32) (s:R8):Nat→R8
 | 0=>s
 | t+1=>nxt (q32 qfV t) (q32 ms t) (rounds ms s t)
def r8L (s:R8):List UInt32:=[s.2.2.2.2.2.2.2,s.2.2.2.2.2.2.1,s.2.2.2.2.2.1,s.2.2.2.2.1,s.2.2.2.1,s.2.2.1,s.2.1,s.1]
def addL (w:List UInt32) (s:R8):List UInt32 :=
  [u32 (iadd (n32 (q32 w 0)) (n32 s.2.2.2.2.2.2.2)),u32 (iadd (n32 (q32 w 1)) (n32 s.2.2.2.2.2.2.1)),u32 (iadd (n32 (q32 w 2)) (n32 s.2.2.2.2.2.1)),u32 (iadd (n32 (q32 w 3)) (n32 s.2.2.2.2.1)),
   u32 (iadd (n32 (q32 w 4)) (n32 s.2.2.2.1)),u32 (iadd (n32 (q32 w 5)) (n32 s.2.2.1)),u32 (iadd (n32 (q32 w 6)) (n32 s.2.1)),u32 (iadd (n32 (q32 w 7)) (n32 s.1))]
def ofL (w:List UInt32):R8:=(q32 w 7,q32 w 6,q32 w 5,q32 w 4,q32 w 3,q32 w 2,q32 w 1,q32 w 0)
def qsI (w:List UInt32) (b:BB) (at':Nat):List UInt32:=addL w (rounds (sch b at' 64) (ofL w) 64)
theorem eight {α:Type} {w:List α} (h:w.length=8):∃ a b c d e f g i,w=[a,b,c,d,e,f,g,i]:=by
 match w,h with
 | [a,b,c,d,e,f,g,i],_=>exact ⟨a,b,c,d,e,f,g,i,rfl⟩
theorem qjL {b c:BB} {x y:Nat} (h:∀ i,i < 64→q8 b (x+i)=q8 c (y+i)) (w:List UInt32):qsI w b x=qsI w c y:=by unfold qsI;rw [qyB h]
theorem qiX (w:List UInt32) (hw:w.length=8) (b:BB) (hb:b.length=64):qf0 (w,b,())=some (qsI w b 0,0,()):=by
 unfold qf0
 refine (qB (by simp only [go_sem,Int.reduceToNat];omega)).trans ?_
 dsimp only
 rw [qpU b hb]
 have hm:=qcQ b 0 64
 unfold qsI
 generalize sch b 0 64=m at hm
 refine (qG rfl).trans ?_
 obtain ⟨w0,w1,w2,w3,w4,w5,w6,w7,rfl⟩:=eight hw
 generalize hf:(fun (x:Int×List UInt32×Unit)=>(_:Option (LS (Int×List UInt32×Unit) (List UInt32×Int×Unit))))=f
 obtain ⟨s,hs⟩:∃ s,s=ofL [w0,w1,w2,w3,w4,w5,w6,w7]:=⟨_,rfl⟩
 have step:∀ t:Nat,t < 64→f ((t:Int),r8L (rounds m s t),())=some (.nx (((t+1:Nat):Int),r8L (rounds m s (t+1)),())):=by
  intro t ht
  subst hf
  have hi:i64 (iadd (t:Int) 1)=((t+1:Nat):Int):=i64n (by show (t:Int)+1=_;omega) (by omega)
  rw [show rounds m s (t+1)=nxt (q32 qfV t) (q32 m t) (rounds m s t) from rfl]
  generalize rounds m s t=r
  obtain ⟨h,g,f,e,d,c,b,a⟩:=r
  refine (qE (by simp only [go_sem,Int.reduceToNat];omega)).trans ?_
  dsimp only [r8L]
  rw [hi]
  refine (qH (by simp only [go_sem,Int.reduceToNat];omega)).trans ?_
  refine (qH rfl).trans ?_
  refine (qH rfl).trans ?_
  rw [show nth [a,b,c,d,e,f,g,h] (nat 4) (u32 0)=e from rfl,r6]
  refine (qG rfl).trans ?_
  rw [r11]
  refine (qG rfl).trans ?_
  rw [r25]
  refine (qG rfl).trans ?_
  rw [show nth [a,b,c,d,e,f,g,h] (nat 0) (u32 0)=a from rfl,r2]
  refine (qG rfl).trans ?_
  rw [r3]
  refine (qG rfl).trans ?_
  rw [r4]
  refine (qG rfl).trans ?_
  refine (qH rfl).trans ?_
  refine (qH rfl).trans ?_
  refine (qH rfl).trans ?_
  refine (qH (by simp only [go_sem,Int.reduceToNat];omega)).trans ?_
  refine (qH rfl).trans ?_
  refine (qH rfl).trans ?_
  refine (qH rfl).trans ?_
  refine (qH rfl).trans ?_
  refine (qH rfl).trans ?_
  refine (qH rfl).trans ?_
  refine (qH rfl).trans ?_
  refine (qH rfl).trans ?_
  refine (qH rfl).trans ?_
  rfl
 have hend:∀ v,f (((64:Nat):Int),v,())=some (.ex 0 (((64:Nat):Int),v,())):=by subst hf;intro v;exact qB rfl
 have hloop:loop f (((0:Nat):Int),r8L (rounds m s 0),())=some (.ex 0 (((64:Nat):Int),r8L (rounds m s 64),())) :=
  (qM (f:=f) (fun t=>((t:Int),r8L (rounds m s t),())) 64 step 0 (Nat.zero_le _)).trans (qT (hend _))
 have h0:r8L (rounds m s 0)=[w0,w1,w2,w3,w4,w5,w6,w7]:=by rw [hs];rfl
 rw [h0] at hloop
 rw [← hs]
 generalize rounds m s 64=r at hloop
 obtain ⟨h,g,f',e,d,c,b',a⟩:=r
 refine (zH (show loop f (0,[w0,w1,w2,w3,w4,w5,w6,w7],())=_ from hloop)).trans ?_
 refine (qH g62).trans ?_
 refine (zH (qjW (r := .ex 2 (((8:Nat):Int),addL [w0,w1,w2,w3,w4,w5,w6,w7] (h,g,f',e,d,c,b',a),())) 9 rfl)).trans ?_
 rfl
theorem qgF (w:List UInt32) (hw:w.length=8) (b:BB) (n:Nat) (hb:n+64≤b.length) (hl:b.length≤4611686018427387904):qc4 (w,b,(n:Int),qfV,())=some (qsI w b n,()):=by
 unfold qc4
 refine (qH (by decide)).trans ?_
 generalize hf:(fun (x_1:Int×List UInt32×Unit)=>(_:Option (LS (Int×List UInt32×Unit) (List UInt32×Unit))))=f
 have step:∀ t:Nat,t < 16→f ((t:Int),sch b n t,())=some (.nx (((t+1:Nat):Int),sch b n (t+1),())):=by
  intro t ht
  subst hf
  have hi:i64 (iadd (t:Int) 1)=((t+1:Nat):Int):=i64n (by show (t:Int)+1=_;omega) (by omega)
  have hm:=qcQ b n t
  have e4:i64 (imul 4 (t:Int))=((4*t:Nat):Int):=i64n (by show 4*(t:Int)=_;omega) (by omega)
  have e0:i64 (iadd (n:Int) (i64 (imul 4 (t:Int))))=((n+4*t:Nat):Int):=by rw [e4];exact i64n (by show (n:Int)+((4*t:Nat):Int)=_;omega) (by omega)
  have e1:i64 (iadd (i64 (iadd (n:Int) (i64 (imul 4 (t:Int))))) 1)=((n+4*t+1:Nat):Int):=by rw [e0];exact i64n (by show ((n+4*t:Nat):Int)+1=_;omega) (by omega)
  have e2:i64 (iadd (i64 (iadd (n:Int) (i64 (imul 4 (t:Int))))) 2)=((n+4*t+2:Nat):Int):=by rw [e0];exact i64n (by show ((n+4*t:Nat):Int)+2=_;omega) (by omega)
  have e3:i64 (iadd (i64 (iadd (n:Int) (i64 (imul 4 (t:Int))))) 3)=((n+4*t+3:Nat):Int):=by rw [e0];exact i64n (by show ((n+4*t:Nat):Int)+3=_;omega) (by omega)
  refine (qE (by simp only [go_sem,Int.reduceToNat];omega)).trans ?_
  dsimp only
  rw [e1,e2,e3,e0,hi]
  refine (qH (by simp only [go_sem,Int.reduceToNat];omega)).trans ?_
  refine (qH (by simp only [go_sem,Int.reduceToNat];omega)).trans ?_
  refine (qH (by simp only [go_sem,Int.reduceToNat];omega)).trans ?_
  refine (qH (by simp only [go_sem,Int.reduceToNat];omega)).trans ?_
  refine (qH (by simp only [go_sem,Int.reduceToNat];omega)).trans ?_
  rw [sch,if_pos ht]
  rfl
 have hend:∀ v,f (((16:Nat):Int),v,())=some (.ex 0 (((16:Nat):Int),v,())):=by subst hf;intro v;exact qB rfl
 have hloop:loop f (((0:Nat):Int),sch b n 0,())=some (.ex 0 (((16:Nat):Int),sch b n 16,())) :=
  (qM (f:=f) (fun t=>((t:Int),sch b n t,())) 16 step 0 (Nat.zero_le _)).trans (qT (hend _))
 refine (zH (show loop f (0,rep (nat 64) (u32 0),())=_ from hloop)).trans ?_
 clear hloop hend step
 refine (qH g62).trans ?_
 dsimp only
 clear hf f
 generalize hf:(fun (x:Int×List UInt32×Unit)=>(_:Option (LS (Int×List UInt32×Unit) (List UInt32×Unit))))=f
 have step:∀ t:Nat,16≤t→t < 64→f ((t:Int),sch b n t,())=some (.nx (((t+1:Nat):Int),sch b n (t+1),())):=by
  intro t h16 ht
  subst hf
  have hi:i64 (iadd (t:Int) 1)=((t+1:Nat):Int):=i64n (by show (t:Int)+1=_;omega) (by omega)
  have hm:=qcQ b n t
  have e15:i64 (isub (t:Int) 15)=((t - 15:Nat):Int):=i64n (by show (t:Int) - 15=_;omega) (by omega)
  have e2:i64 (isub (t:Int) 2)=((t - 2:Nat):Int):=i64n (by show (t:Int) - 2=_;omega) (by omega)
  have e7:i64 (isub (t:Int) 7)=((t - 7:Nat):Int):=i64n (by show (t:Int) - 7=_;omega) (by omega)
  have e16:i64 (isub (t:Int) 16)=((t - 16:Nat):Int):=i64n (by show (t:Int) - 16=_;omega) (by omega)
  refine (qE (by simp only [go_sem,Int.reduceToNat];omega)).trans ?_
  dsimp only
  rw [e15,e2,e7,e16,hi]
  refine (qH (by simp only [go_sem,Int.reduceToNat];omega)).trans ?_
  refine (qH (by simp only [go_sem,Int.reduceToNat];omega)).trans ?_
  rw [qb1]
  refine (qG rfl).trans ?_
  rw [qb1]
  refine (qG rfl).trans ?_
  rw [qb1]
  refine (qG rfl).trans ?_
  rw [qb1]
  refine (qG rfl).trans ?_
  refine (qH (by simp only [go_sem,Int.reduceToNat];omega)).trans ?_
  refine (qH (by simp only [go_sem,Int.reduceToNat];omega)).trans ?_
  refine (qH (by simp only [go_sem,Int.reduceToNat];omega)).trans ?_
  rw [sch,if_neg (by omega)]
  rfl
 have hend:∀ v,f (((64:Nat):Int),v,())=some (.ex 2 (((64:Nat):Int),v,())):=by subst hf;intro v;exact qB rfl
 have hloop:loop f (((16:Nat):Int),sch b n 16,())=some (.ex 2 (((64:Nat):Int),sch b n 64,())) :=
  (qM (f:=f) (fun t=>(((16+t:Nat):Int),sch b n (16+t),())) 48 (fun t ht=>step (16+t) (by omega) (by omega)) 0 (Nat.zero_le _)).trans (qT (hend _))
 refine (zH (show loop f (16,sch b n 16,())=_ from hloop)).trans ?_
 clear hloop hend step hf f
 refine (qH g62).trans ?_
 have hm:=qcQ b n 64
 unfold qsI
 generalize sch b n 64=m at hm
 obtain ⟨w0,w1,w2,w3,w4,w5,w6,w7,rfl⟩:=eight hw
 refine (qH rfl).trans ((qH rfl).trans ((qH rfl).trans ((qH rfl).trans ((qH rfl).trans ((qH rfl).trans ((qH rfl).trans ((qH rfl).trans ?_)))))))
 dsimp only
 generalize hf:(fun (x_1:UInt32×UInt32×UInt32×UInt32×UInt32×UInt32×UInt32×UInt32×Int×Unit)=>(_:Option (LS (UInt32×UInt32×UInt32×UInt32×UInt32×UInt32×UInt32×UInt32×Int×Unit) (List UInt32×Unit))))=f
 obtain ⟨s,hs⟩:∃ s,s=ofL [w0,w1,w2,w3,w4,w5,w6,w7]:=⟨_,rfl⟩
 let st:R8→Nat→UInt32×UInt32×UInt32×UInt32×UInt32×UInt32×UInt32×UInt32×Int×Unit:=fun r t=>(r.1,r.2.1,r.2.2.1,r.2.2.2.1,r.2.2.2.2.1,r.2.2.2.2.2.1,r.2.2.2.2.2.2.1,r.2.2.2.2.2.2.2,(t:Int),())
 have step:∀ t:Nat,t < 64→f (st (rounds m s t) t)=some (.nx (st (rounds m s (t+1)) (t+1))):=by
  intro t ht
  subst hf
  have hi:i64 (iadd (t:Int) 1)=((t+1:Nat):Int):=i64n (by show (t:Int)+1=_;omega) (by omega)
  have hk:(qfV:List UInt32).length=64:=rfl
  rw [show rounds m s (t+1)=nxt (q32 qfV t) (q32 m t) (rounds m s t) from rfl]
  generalize rounds m s t=r
  obtain ⟨h,g,f,e,d,c,b,a⟩:=r
  dsimp only [st]
  refine (qE (by simp only [go_sem,Int.reduceToNat];omega)).trans ?_
  rw [hi,qb1]
  refine (qG rfl).trans ?_
  rw [qb1]
  refine (qG rfl).trans ?_
  rw [qb1]
  refine (qG rfl).trans ?_
  refine (qH (by simp only [go_sem,Int.reduceToNat];omega)).trans ?_
  refine (qH (by simp only [go_sem,Int.reduceToNat];omega)).trans ?_
  rw [qb1]
  refine (qG rfl).trans ?_
  rw [qb1]
  refine (qG rfl).trans ?_
  rw [qb1]
  refine (qG rfl).trans ?_
  rfl
 have hend:∀ r,f (st r 64)=some (.ex 4 (st r 64)):=by subst hf;intro v;exact qB rfl
 have hloop:loop f (st (rounds m s 0) 0)=some (.ex 4 (st (rounds m s 64) 64)) :=
  (qM (f:=f) (fun t=>st (rounds m s t) t) 64 step 0 (Nat.zero_le _)).trans (qT (hend _))
 rw [show rounds m s 0=s from rfl] at hloop
 rw [← hs]
 generalize rounds m s 64=r at hloop
 obtain ⟨h,g,f',e,d,c,b',a⟩:=r
 rw [hs] at hloop
 refine (zH (show loop f (w7,w6,w5,w4,w3,w2,w1,w0,0,())=_ from hloop)).trans ?_
 refine (qH g62).trans ?_
 refine (qH rfl).trans ((qH rfl).trans ((qH rfl).trans ((qH rfl).trans ((qH rfl).trans ((qH rfl).trans ((qH rfl).trans ((qH rfl).trans ?_)))))))
 rfl
def eat (w:List UInt32) (l:BB):Nat→List UInt32
 | 0=>w
 | i+1=>qsI (eat w l i) l (64*i)
theorem yZ {w:List UInt32} (hw:w.length=8) (l:BB):∀ i,(eat w l i).length=8
 | 0=>hw
 | _+1=>rfl
theorem qFq (l:BB) (k i:Nat):q8 (l.drop k) i=q8 l (k+i):=by
 unfold q8;rw [List.getD_eq_getElem?_getD,List.getElem?_drop,← List.getD_eq_getElem?_getD]
theorem qJd (l:BB) {k i:Nat} (h:i < k):q8 (l.take k) i=q8 l i:=by
 unfold q8;rw [List.getD_eq_getElem?_getD,List.getElem?_take_of_lt h,← List.getD_eq_getElem?_getD]
theorem qx0 (w:List UInt32) (l:BB) (k:Nat):qsI w ((l.drop k).take 64) 0=qsI w l k :=
 qjL (fun i hi=>by rw [Nat.zero_add,qJd _ hi,qFq]) w
theorem qzZ {l m:BB} (w:List UInt32):∀ {i},(∀ j,j < 64*i→q8 l j=q8 m j)→eat w l i=eat w m i
 | 0,_=>rfl
 | i+1,h=>by
  rw [eat,eat,qzZ w fun j hj=>h j (by omega)]
  exact qjL (fun j hj=>h _ (by omega)) _
theorem qGB (w:List UInt32) (l:BB) (i:Nat):∀ j,eat w l (i+j)=eat (eat w l i) (l.drop (64*i)) j
 | 0=>rfl
 | j+1=>by
  rw [← Nat.add_assoc,eat,eat,qGB w l i j]
  exact qjL (fun k _=>by rw [qFq];congr 1;omega) _
abbrev HT:=List UInt32×Int×BB×Unit
def putD (h:HT) (b:BB):HT :=
 (eat h.1 (h.2.2.1++b) ((h.2.2.1++b).length / 64),h.2.1+(b.length:Int),(h.2.2.1++b).drop (64*((h.2.2.1++b).length / 64)),())
theorem cpy2 (r b:BB):cpy (cpy (rep (r.length+b.length) (u8 0)) 0 (ln (rep (r.length+b.length) (u8 0))) r) r.length (r.length+b.length - r.length) b=r++b:=by
 unfold cpy rep ln
 rw [List.length_replicate,List.take_zero,List.nil_append,List.take_of_length_le (show r.length≤r.length+b.length by omega),Nat.zero_add,Nat.min_eq_right (show r.length≤r.length+b.length by omega),List.drop_replicate,
  List.take_left,Nat.add_sub_cancel_left,List.take_of_length_le (Nat.le_refl _),Nat.min_self,List.drop_of_length_le (by simp),List.append_nil]
theorem qF7:qiC ()=some (qfV,()):=rfl
theorem qx8 (H:List UInt32) (hH:H.length=8) (N:Int) (r b:BB) (hN:0≤N) (hb:N+(b.length:Int)≤1125899906842624) (hr:r.length≤64) (hm:b.length≤1000000000):qd6 ((H,N,r,()),b,())=some (putD (H,N,r,()) b,()):=by
 unfold qd6
 have e0:i64 (isub 1125899906842624 N)=1125899906842624 - N:=z0 (by show -9223372036854775808≤(1125899906842624:Int) - N;omega) (by show (1125899906842624:Int) - N≤9223372036854775807;omega)
 dsimp only
 rw [e0]
 refine (qB (by simp only [go_sem,Int.reduceToNat];omega)).trans ?_
 have e1:i64 (iadd (len r) (len b))=((r.length+b.length:Nat):Int):=i64n (by show (r.length:Int)+(b.length:Int)=_;omega) (by omega)
 have e2:i64 (iadd N (len b))=N+(b.length:Int):=z0 (by show -9223372036854775808≤N+(b.length:Int);omega) (by show N+(b.length:Int)≤9223372036854775807;omega)
 rw [e1,e2]
 refine (qH (by simp only [go_sem,Int.reduceToNat];omega)).trans ?_
 have hlen:len (cpy (rep (nat ((r.length+b.length:Nat):Int)) (u8 0)) 0 (ln (rep (nat ((r.length+b.length:Nat):Int)) (u8 0))) r)=((r.length+b.length:Nat):Int):=by
  unfold len cpy rep ln nat
  simp only [Int.toNat_natCast,List.length_replicate,List.take_zero,List.nil_append,List.length_append,List.length_take,List.length_drop]
  omega
 rw [hlen]
 refine (qH (by simp only [go_sem,Int.reduceToNat];omega)).trans ?_
 rw [show nat (len r)=r.length from qZ,show nat ((r.length+b.length:Nat):Int)=r.length+b.length from qZ,show nsub (r.length+b.length) r.length=r.length+b.length - r.length from rfl,cpy2]
 generalize hf:(fun (x:BB×(List UInt32×Int×BB×Unit)×Unit)=>(_:Option (LS (BB×(List UInt32×Int×BB×Unit)×Unit) ((List UInt32×Int×BB×Unit)×Unit))))=f
 generalize hl:r++b=l
 have hll:l.length=r.length+b.length:=by rw [← hl,List.length_append]
 have step:∀ i,i < l.length / 64→f (l.drop (64*i),(eat H l i,N+(b.length:Int),r,()),())=some (.nx (l.drop (64*(i+1)),(eat H l (i+1),N+(b.length:Int),r,()),())):=by
  intro i hi
  subst hf
  have hd:(l.drop (64*i)).length=l.length - 64*i:=List.length_drop
  have hlen:len (l.drop (64*i))=((l.length - 64*i:Nat):Int):=by unfold len;rw [hd]
  dsimp only
  rw [hlen]
  refine (qE (by simp only [go_sem,Int.reduceToNat];omega)).trans ?_
  refine (qH (by simp only [go_sem,Int.reduceToNat];omega)).trans ?_
  rw [show cut (l.drop (64*i)) (nat 0) (nsub (nat 64) (nat 0))=(l.drop (64*i)).take 64 from rfl,qiX _ (yZ hH l i) _ (by rw [List.length_take,hd];omega)]
  refine (qG rfl).trans ?_
  refine (qH (by simp only [go_sem,Int.reduceToNat];omega)).trans ?_
  rw [qx0]
  have hc:cut (l.drop (64*i)) (nat 64) (nsub (nat ((l.length - 64*i:Nat):Int)) (nat 64))=l.drop (64*(i+1)):=by
   unfold cut
   rw [show nat 64=64 from rfl,qZ,List.drop_drop,List.take_of_length_le (by rw [List.length_drop];show _≤l.length - 64*i - 64;omega)]
   congr 1
  rw [hc];rfl
 have hend:f (l.drop (64*(l.length / 64)),(eat H l (l.length / 64),N+(b.length:Int),r,()),())=some (.ex 0 (l.drop (64*(l.length / 64)),(eat H l (l.length / 64),N+(b.length:Int),r,()),())):=by
  subst hf
  have hlen:len (l.drop (64*(l.length / 64)))=((l.length - 64*(l.length / 64):Nat):Int):=by unfold len;rw [List.length_drop]
  dsimp only
  rw [hlen]
  exact qB (by simp only [go_sem,Int.reduceToNat];omega)
 have hloop:=(qM (f:=f) (fun i=>(l.drop (64*i),(eat H l i,N+(b.length:Int),r,()),())) (l.length / 64) step 0 (Nat.zero_le _)).trans (qT hend)
 refine (zH (show loop f (l,(H,N+(b.length:Int),r,()),())=_ from hloop)).trans ?_
 refine (qH g62).trans ?_
 subst hl;rfl
theorem qsT (H:List UInt32) (hH:H.length=8) (N:Int) (r b:BB) (hN:0≤N) (hb:N+(b.length:Int)≤1125899906842624) (hr:r.length≤64) (hm:b.length≤1000000000):qgH ((H,N,r,()),b,())=some (putD (H,N,r,()) b,()):=by
 unfold qgH
 have e0:i64 (isub 1125899906842624 N)=1125899906842624 - N:=z0 (by show -9223372036854775808≤(1125899906842624:Int) - N;omega) (by show (1125899906842624:Int) - N≤9223372036854775807;omega)
 dsimp only
 rw [e0]
 refine (qB (by simp only [go_sem,Int.reduceToNat];omega)).trans ?_
 refine (qH (by simp only [go_sem,Int.reduceToNat];omega)).trans ?_
 rw [show app (none' UInt8) r=r from rfl]
 refine (qH (by simp only [go_sem,Int.reduceToNat];omega)).trans ?_
 rw [qF7]
 refine (qG rfl).trans ?_
 generalize hf:(fun (x_1:Int×(List UInt32×Int×BB×Unit)×Unit)=>(_:Option (LS (Int×(List UInt32×Int×BB×Unit)×Unit) ((List UInt32×Int×BB×Unit)×Unit))))=f
 rw [show app r b=r++b from rfl] at hf ⊢
 generalize hl:r++b=l at hf ⊢
 have hll:l.length=r.length+b.length:=by rw [← hl,List.length_append]
 have step:∀ i:Nat,i < l.length / 64→f (((64*i:Nat):Int),(eat H l i,N,r,()),())=some (.nx (((64*(i+1):Nat):Int),(eat H l (i+1),N,r,()),())):=by
  intro i hi
  subst hf
  have e:i64 (isub (len l) ((64*i:Nat):Int))=((l.length - 64*i:Nat):Int):=i64n (by show (l.length:Int) - _=_;omega) (by omega)
  have e':i64 (iadd ((64*i:Nat):Int) 64)=((64*(i+1):Nat):Int):=i64n (by show ((64*i:Nat):Int)+64=_;omega) (by omega)
  dsimp only
  rw [e,e']
  refine (qE (by simp only [go_sem,Int.reduceToNat];omega)).trans ?_
  rw [qgF _ (yZ hH l i) l (64*i) (by omega) (by omega)]
  rfl
 have hend:f (((64*(l.length / 64):Nat):Int),(eat H l (l.length / 64),N,r,()),())=some (.ex 0 (((64*(l.length / 64):Nat):Int),(eat H l (l.length / 64),N,r,()),())):=by
  subst hf
  have e:i64 (isub (len l) ((64*(l.length / 64):Nat):Int))=((l.length - 64*(l.length / 64):Nat):Int):=i64n (by show (l.length:Int) - _=_;omega) (by omega)
  dsimp only
  rw [e]
  exact qB (by simp only [go_sem,Int.reduceToNat];omega)
 have hloop:=(qM (f:=f) (fun i=>(((64*i:Nat):Int),(eat H l i,N,r,()),())) (l.length / 64) step 0 (Nat.zero_le _)).trans (qT hend)
 refine (zH (show loop f (0,(H,N,r,()),())=_ from hloop)).trans ?_
 refine (qH g62).trans ?_
 refine (qH (by simp only [go_sem,Int.reduceToNat];omega)).trans ?_
 have e2:i64 (iadd N (len b))=N+(b.length:Int):=z0 (by show -9223372036854775808≤N+(b.length:Int);omega) (by show N+(b.length:Int)≤9223372036854775807;omega)
 have hc:cut l (nat ((64*(l.length / 64):Nat):Int)) (nsub (nat (len l)) (nat ((64*(l.length / 64):Nat):Int)))=l.drop (64*(l.length / 64)):=by
  unfold cut
  rw [qZ,show nat (len l)=l.length from qZ,List.take_of_length_le (by rw [List.length_drop];exact Nat.le_refl _)]
 dsimp only
 rw [e2,hc]
 subst hl;rfl
def zs (r:Nat):Nat:=(119 - r) % 64
def lenB (n:Int) (i:Nat):BB:=(List.range i).map fun j=>u8 (shrI .i64 (i64 (imul 8 n)) ((56 - 8*j:Nat):Int))
def padD (n:Int):BB:=[u8 128]++List.replicate (zs (n.toNat % 64)) (u8 0)++lenB n 8
def wb (x:UInt32):BB:=[u8 (n32 (u32 (shrI .u32 (n32 x) (n64 (u64 24))))),u8 (n32 (u32 (shrI .u32 (n32 x) (n64 (u64 16))))),u8 (n32 (u32 (shrI .u32 (n32 x) (n64 (u64 8))))),u8 (n32 x)]
theorem qCt {a b:Int} (h:a % 256=b % 256):u8 a=u8 b:=by
 show UInt8.ofNat (a % 2 ^ 8).toNat=UInt8.ofNat (b % 2 ^ 8).toNat
 rw [show a % 2 ^ 8=b % 2 ^ 8 from h]
theorem qKp (x:UInt32):wb x=[u8 (n32 (u32 (idiv (n32 x) (n32 (u32 16777216))))),u8 (n32 (u32 (imod (n32 (u32 (idiv (n32 x) (n32 (u32 65536))))) (n32 (u32 256))))),u8 (n32 (u32 (imod (n32 (u32 (idiv (n32 x) (n32 (u32 256))))) (n32 (u32 256))))),u8 (n32 (u32 (imod (n32 x) (n32 (u32 256)))))]:=by
 have hx:=x.toNat_lt
 obtain ⟨v,hv⟩:∃ v,v=x.toNat:=⟨_,rfl⟩
 rw [← hv] at hx
 have e:n32 x=(v:Int):=by rw [hv];rfl
 have k1:n32 (u32 16777216)=16777216:=kU (by decide)
 have k2:n32 (u32 65536)=65536:=kU (by decide)
 have k3:n32 (u32 256)=256:=kU (by decide)
 have a1:shrI .u32 (v:Int) (n64 (u64 24))=((v / 16777216:Nat):Int):=by show Int.fdiv (v:Int) (2 ^ 24)=_;rw [Int.fdiv_eq_ediv_of_nonneg _ (by decide)];omega
 have a2:shrI .u32 (v:Int) (n64 (u64 16))=((v / 65536:Nat):Int):=by show Int.fdiv (v:Int) (2 ^ 16)=_;rw [Int.fdiv_eq_ediv_of_nonneg _ (by decide)];omega
 have a3:shrI .u32 (v:Int) (n64 (u64 8))=((v / 256:Nat):Int):=by show Int.fdiv (v:Int) (2 ^ 8)=_;rw [Int.fdiv_eq_ediv_of_nonneg _ (by decide)];omega
 have b1:idiv (v:Int) 16777216=((v / 16777216:Nat):Int):=by rw [g31 (by omega)];omega
 have b2:idiv (v:Int) 65536=((v / 65536:Nat):Int):=by rw [g31 (by omega)];omega
 have b3:idiv (v:Int) 256=((v / 256:Nat):Int):=by rw [g31 (by omega)];omega
 have c:∀ m:Nat,m < 4294967296→n32 (u32 (m:Int))=(m:Int):=fun m hm=>kU (by omega)
 have d:∀ m:Nat,imod (m:Int) 256=((m % 256:Nat):Int):=fun m=>by rw [g32 (by omega)];omega
 unfold wb
 rw [e,k1,k2,k3,a1,a2,a3,b1,b2,b3,c _ (by omega),c _ (by omega),c _ (by omega),d,d,d,c _ (by omega),c _ (by omega),c _ (by omega)]
 congr 1
 congr 1
 ·exact qCt (by omega)
 ·congr 1
  ·exact qCt (by omega)
  ·congr 1
   exact qCt (by omega)
def outW (w:List UInt32) (i:Nat):BB:=(List.range i).flatMap fun j=>wb (q32 w j)
theorem qeP (w:List UInt32):∀ i,(outW w i).length=4*i
 | 0=>rfl
 | i+1=>by unfold outW;rw [List.range_succ,List.flatMap_append,List.length_append];have:=qeP w i;unfold outW at this;rw [this];simp [wb];omega
theorem qyU (w:List UInt32) (i:Nat):outW w (i+1)=outW w i++wb (q32 w i):=by unfold outW;rw [List.range_succ,List.flatMap_append];simp
theorem qy8 (n:Int) (i:Nat):lenB n (i+1)=lenB n i++[u8 (shrI .i64 (i64 (imul 8 n)) ((56 - 8*i:Nat):Int))]:=by unfold lenB;rw [List.range_succ,List.map_append];rfl
theorem yW (n:Int) (i:Nat):(lenB n i).length=i:=by simp [lenB]
def sumD (h:HT):BB:=outW (eat h.1 (h.2.2.1++padD h.2.1) ((h.2.2.1++padD h.2.1).length / 64)) 8
theorem qvC (l:BB) (k:Nat):l++List.replicate k (u8 0)++[u8 0]=l++List.replicate (k+1) (u8 0):=by rw [List.append_assoc,← List.replicate_succ']
theorem qx7 (H:List UInt32) (hH:H.length=8) (N:Int) (r:BB) (hN:0≤N) (hN2:N≤1125899906842624) (hr:r.length=N.toNat % 64):qjN ((H,N,r,()),())=some (sumD (H,N,r,()),()):=by
 unfold qjN
 dsimp only
 have hz:rep (nat 0) (u8 0)=[]:=rfl
 rw [hz,show app ([]:BB) r=r from rfl,show app r [u8 128]=r++[u8 128] from rfl]
 refine (qH (by decide)).trans ?_
 refine (qH (by simp only [go_sem,Int.reduceToNat];omega)).trans ?_
 refine (qH (by simp only [go_sem,Int.reduceToNat];simp;omega)).trans ?_
 generalize hf:(fun (x:BB×Unit)=>(_:Option (LS (BB×Unit) (BB×Unit))))=f
 have hr64:r.length < 64:=by omega
 have hzs:zs (N.toNat % 64) < 64:=by unfold zs;omega
 have step:∀ i:Nat,i < zs (N.toNat % 64)→f (r++[u8 128]++List.replicate i (u8 0),())=some (.nx (r++[u8 128]++List.replicate (i+1) (u8 0),())):=by
  intro i hi
  subst hf
  have hl:(r++[u8 128]++List.replicate i (u8 0)).length=r.length+1+i:=by simp;omega
  have hne:¬ (((r++[u8 128]++List.replicate i (u8 0)).length:Int) % 64=56):=by rw [hl];unfold zs at hi;omega
  refine (qE (by simp (disch:=omega) only [go_sem,Int.reduceToNat];omega)).trans ?_
  refine (qH (by simp only [go_sem,Int.reduceToNat];simp;omega)).trans ?_
  show some (LS.nx (r++[u8 128]++List.replicate i (u8 0)++[u8 0],()))=_
  rw [qvC]
 have hend:f (r++[u8 128]++List.replicate (zs (N.toNat % 64)) (u8 0),())=some (.ex 0 (r++[u8 128]++List.replicate (zs (N.toNat % 64)) (u8 0),())):=by
  subst hf
  have hl:(r++[u8 128]++List.replicate (zs (N.toNat % 64)) (u8 0)).length=r.length+1+zs (N.toNat % 64):=by simp;omega
  have he:(((r++[u8 128]++List.replicate (zs (N.toNat % 64)) (u8 0)).length:Int) % 64=56):=by rw [hl];unfold zs;omega
  exact qB (by simp (disch:=omega) only [go_sem,Int.reduceToNat];omega)
 have hloop:=(qM (f:=f) (fun i=>(r++[u8 128]++List.replicate i (u8 0),())) (zs (N.toNat % 64)) step 0 (Nat.zero_le _)).trans (qT hend)
 rw [List.replicate_zero,List.append_nil] at hloop
 refine (zH hloop).trans ?_
 clear hloop hend step
 refine (qH g62).trans ?_
 clear hf f
 dsimp only
 generalize hL:r++[u8 128]++List.replicate (zs (N.toNat % 64)) (u8 0)=L
 have hLl:L.length=r.length+1+zs (N.toNat % 64):=by rw [← hL];simp;omega
 generalize hf:(fun (x_1:BB×Int×Unit)=>(_:Option (LS (BB×Int×Unit) (BB×Unit))))=f
 have step:∀ i:Nat,i < 8→f (L++lenB N i,56 - 8*(i:Int),())=some (.nx (L++lenB N (i+1),56 - 8*((i+1:Nat):Int),())):=by
  intro i hi
  subst hf
  have hl:(L++lenB N i).length=L.length+i:=by rw [List.length_append,yW]
  refine (qE (by simp only [go_sem,Int.reduceToNat];omega)).trans ?_
  refine (qH (by simp only [go_sem,Int.reduceToNat];omega)).trans ?_
  refine (qH (by simp only [go_sem,Int.reduceToNat];simp [yW];omega)).trans ?_
  dsimp only
  rw [show app (L++lenB N i) [u8 (shrI .i64 (i64 (imul 8 N)) (56 - 8*(i:Int)))]=L++lenB N (i+1) by rw [qy8,show ((56 - 8*i:Nat):Int)=56 - 8*(i:Int) by omega];exact List.append_assoc _ _ _,
   show i64 (isub (56 - 8*(i:Int)) 8)=56 - 8*((i+1:Nat):Int) by rw [z0 (by show -9223372036854775808≤56 - 8*(i:Int) - 8;omega) (by show 56 - 8*(i:Int) - 8≤9223372036854775807;omega)];show 56 - 8*(i:Int) - 8=_;omega]
 have hend:f (L++lenB N 8,56 - 8*((8:Nat):Int),())=some (.ex 2 (L++lenB N 8,56 - 8*((8:Nat):Int),())):=by subst hf;exact qB (show le 0 (56 - 8*((8:Nat):Int))=false from rfl)
 have hloop:=(qM (f:=f) (fun i=>(L++lenB N i,56 - 8*(i:Int),())) 8 step 0 (Nat.zero_le _)).trans (qT hend)
 have h0:(L++lenB N 0,56 - 8*((0:Nat):Int),())=(L,56,()):=by simp [lenB]
 rw [h0] at hloop
 refine (zH hloop).trans ?_
 clear hloop hend step
 refine (qH g62).trans ?_
 clear hf f
 dsimp only
 have hT:L++lenB N 8=r++padD N:=by rw [← hL];unfold padD;simp
 rw [hT]
 have hTl:(r++padD N).length=r.length+1+zs (N.toNat % 64)+8:=by rw [← hT,List.length_append,yW,hLl]
 have hT64:(r++padD N).length % 64=0:=by rw [hTl];unfold zs;omega
 generalize hTT:r++padD N=T at hTl hT64
 generalize hf:(fun (x:BB×List UInt32×Unit)=>(_:Option (LS (BB×List UInt32×Unit) (BB×Unit))))=f
 have step:∀ i,i < T.length / 64→f (T.drop (64*i),eat H T i,())=some (.nx (T.drop (64*(i+1)),eat H T (i+1),())):=by
  intro i hi
  subst hf
  have hd:(T.drop (64*i)).length=T.length - 64*i:=List.length_drop
  have hlen:len (T.drop (64*i))=((T.length - 64*i:Nat):Int):=by unfold len;rw [hd]
  dsimp only
  rw [hlen]
  refine (qE (by simp only [go_sem,Int.reduceToNat];omega)).trans ?_
  refine (qH (by simp only [go_sem,Int.reduceToNat];omega)).trans ?_
  rw [show cut (T.drop (64*i)) (nat 0) (nsub (nat 64) (nat 0))=(T.drop (64*i)).take 64 from rfl,qiX _ (yZ hH T i) _ (by rw [List.length_take,hd];omega)]
  refine (qG rfl).trans ?_
  refine (qH (by simp only [go_sem,Int.reduceToNat];omega)).trans ?_
  rw [qx0]
  have hc:cut (T.drop (64*i)) (nat 64) (nsub (nat ((T.length - 64*i:Nat):Int)) (nat 64))=T.drop (64*(i+1)):=by
   unfold cut
   rw [show nat 64=64 from rfl,qZ,List.drop_drop,List.take_of_length_le (by rw [List.length_drop];show _≤T.length - 64*i - 64;omega)]
   congr 1
  rw [hc];rfl
 have hend:f (T.drop (64*(T.length / 64)),eat H T (T.length / 64),())=some (.ex 4 (T.drop (64*(T.length / 64)),eat H T (T.length / 64),())):=by
  subst hf
  have hlen:len (T.drop (64*(T.length / 64)))=((T.length - 64*(T.length / 64):Nat):Int):=by unfold len;rw [List.length_drop]
  dsimp only
  rw [hlen]
  exact qB (by simp only [go_sem,Int.reduceToNat];omega)
 have hloop:=(qM (f:=f) (fun i=>(T.drop (64*i),eat H T i,())) (T.length / 64) step 0 (Nat.zero_le _)).trans (qT hend)
 refine (zH (show loop f (T,H,())=_ from hloop)).trans ?_
 clear hloop hend step
 refine (qH g62).trans ?_
 clear hf f
 refine (qH (by decide)).trans ?_
 dsimp only
 unfold sumD
 dsimp only
 rw [hTT]
 have hw:=yZ hH T (T.length / 64)
 generalize eat H T (T.length / 64)=w at hw
 generalize hf:(fun (x:BB×Int×Unit)=>(_:Option (LS (BB×Int×Unit) (BB×Unit))))=f
 have step:∀ i:Nat,i < 8→f (outW w i,(i:Int),())=some (.nx (outW w (i+1),((i+1:Nat):Int),())):=by
  intro i hi
  subst hf
  have hl:=qeP w i
  have hi':i64 (iadd (i:Int) 1)=((i+1:Nat):Int):=i64n (by show (i:Int)+1=_;omega) (by omega)
  refine (qE (by simp only [go_sem,Int.reduceToNat];omega)).trans ?_
  refine (qH (by simp only [go_sem,Int.reduceToNat];omega)).trans ?_
  refine (qH (by simp only [go_sem,Int.reduceToNat];simp;omega)).trans ?_
  dsimp only
  rw [hi',qyU];rfl
 have hend:∀ v,f (v,((8:Nat):Int),())=some (.ex 6 (v,((8:Nat):Int),())):=by subst hf;intro v;exact qB rfl
 have hloop:=(qM (f:=f) (fun i=>(outW w i,(i:Int),())) 8 step 0 (Nat.zero_le _)).trans (qT (hend _))
 refine (zH (show loop f ([],0,())=_ from hloop)).trans ?_
 exact qH g62
theorem qgO {a:Int} (h:0≤a∧a < 18446744073709551616):n64 (u64 a)=a:=by
 show (((BitVec.ofNat 64 ((a % 2 ^ 64).toNat)).toNat:Nat):Int)=a
 rw [BitVec.toNat_ofNat];omega
theorem qsU (N:Int) (hN:0≤N) (hN2:N≤1125899906842624):qk3 (N,())=some (padD N,()):=by
 unfold qk3
 dsimp only
 have hzs:zs (N.toNat % 64) < 64:=by unfold zs;omega
 generalize hf:(fun (x_1:BB×Unit)=>(_:Option (LS (BB×Unit) (BB×Unit))))=f
 have step:∀ i:Nat,i < zs (N.toNat % 64)→f ([u8 128]++List.replicate i (u8 0),())=some (.nx ([u8 128]++List.replicate (i+1) (u8 0),())):=by
  intro i hi
  subst hf
  have hl:([u8 128]++List.replicate i (u8 0)).length=1+i:=by simp;omega
  have e:i64 (iadd (i64 (iadd N (len ([u8 128]++List.replicate i (u8 0))))) 8)=N+((1+i:Nat):Int)+8:=by
   have e1:i64 (iadd N (len ([u8 128]++List.replicate i (u8 0))))=N+((1+i:Nat):Int):=by
    show i64 (N+(([u8 128]++List.replicate i (u8 0)).length:Int))=_
    rw [hl];exact z0 (by omega) (by omega)
   rw [e1];exact z0 (by show -9223372036854775808≤N+((1+i:Nat):Int)+8;omega) (by show N+((1+i:Nat):Int)+8≤9223372036854775807;omega)
  dsimp only
  rw [e]
  have hne:¬ ((N+((1+i:Nat):Int)+8) % 64=0):=by unfold zs at hi;omega
  refine (qE (by simp (disch:=omega) only [go_sem,Int.reduceToNat];omega)).trans ?_
  refine (qH (by simp only [go_sem,Int.reduceToNat];simp;omega)).trans ?_
  show some (LS.nx ([u8 128]++List.replicate i (u8 0)++[u8 0],()))=_
  rw [qvC]
 have hend:f ([u8 128]++List.replicate (zs (N.toNat % 64)) (u8 0),())=some (.ex 0 ([u8 128]++List.replicate (zs (N.toNat % 64)) (u8 0),())):=by
  subst hf
  obtain ⟨i,hi⟩:∃ i,i=zs (N.toNat % 64):=⟨_,rfl⟩
  rw [← hi]
  have hl:([u8 128]++List.replicate i (u8 0)).length=1+i:=by simp;omega
  have e:i64 (iadd (i64 (iadd N (len ([u8 128]++List.replicate i (u8 0))))) 8)=N+((1+i:Nat):Int)+8:=by
   have e1:i64 (iadd N (len ([u8 128]++List.replicate i (u8 0))))=N+((1+i:Nat):Int):=by
    show i64 (N+(([u8 128]++List.replicate i (u8 0)).length:Int))=_
    rw [hl];exact z0 (by omega) (by omega)
   rw [e1];exact z0 (by show -9223372036854775808≤N+((1+i:Nat):Int)+8;omega) (by show N+((1+i:Nat):Int)+8≤9223372036854775807;omega)
  dsimp only
  rw [e]
  have hne:((N+((1+i:Nat):Int)+8) % 64=0):=by unfold zs at hi;omega
  exact qB (by simp (disch:=omega) only [go_sem,Int.reduceToNat];omega)
 have hloop:=(qM (f:=f) (fun i=>([u8 128]++List.replicate i (u8 0),())) (zs (N.toNat % 64)) step 0 (Nat.zero_le _)).trans (qT hend)
 rw [List.replicate_zero,List.append_nil] at hloop
 refine (zH hloop).trans ?_
 clear hloop hend step
 refine (qH g62).trans ?_
 clear hf f
 dsimp only
 generalize hL:[u8 128]++List.replicate (zs (N.toNat % 64)) (u8 0)=L
 have hLl:L.length=1+zs (N.toNat % 64):=by rw [← hL];simp;omega
 generalize hf:(fun (x_1:BB×Int×Unit)=>(_:Option (LS (BB×Int×Unit) (BB×Unit))))=f
 have step:∀ i:Nat,i < 8→f (L++lenB N i,56 - 8*(i:Int),())=some (.nx (L++lenB N (i+1),56 - 8*((i+1:Nat):Int),())):=by
  intro i hi
  subst hf
  have hl:(L++lenB N i).length=L.length+i:=by rw [List.length_append,yW]
  refine (qE (by simp only [go_sem,Int.reduceToNat];omega)).trans ?_
  refine (qH (by simp only [go_sem,Int.reduceToNat];simp [yW];omega)).trans ?_
  dsimp only
  rw [qgO (a:=56 - 8*(i:Int)) (by omega),show app (L++lenB N i) [u8 (shrI .i64 (i64 (imul 8 N)) (56 - 8*(i:Int)))]=L++lenB N (i+1) by rw [qy8,show ((56 - 8*i:Nat):Int)=56 - 8*(i:Int) by omega];exact List.append_assoc _ _ _,
   show i64 (isub (56 - 8*(i:Int)) 8)=56 - 8*((i+1:Nat):Int) by rw [z0 (by show -9223372036854775808≤56 - 8*(i:Int) - 8;omega) (by show 56 - 8*(i:Int) - 8≤9223372036854775807;omega)];show 56 - 8*(i:Int) - 8=_;omega]
 have hend:f (L++lenB N 8,56 - 8*((8:Nat):Int),())=some (.ex 2 (L++lenB N 8,56 - 8*((8:Nat):Int),())):=by subst hf;exact qB (show le 0 (56 - 8*((8:Nat):Int))=false from rfl)
 have hloop:=(qM (f:=f) (fun i=>(L++lenB N i,56 - 8*(i:Int),())) 8 step 0 (Nat.zero_le _)).trans (qT hend)
 have h0:(L++lenB N 0,56 - 8*((0:Nat):Int),())=(L,56,()):=by simp [lenB]
 rw [h0] at hloop
 refine (zH hloop).trans ?_
 refine (qH g62).trans ?_
 dsimp only
 rw [← hL];rfl
theorem qBi (N:Int):(padD N).length=9+zs (N.toNat % 64):=by unfold padD;simp [yW];omega
theorem qsS (H:List UInt32) (hH:H.length=8) (N:Int) (r:BB) (hN:0≤N) (hN2:N≤1125899906842624) (hr:r.length=N.toNat % 64):qgG ((H,N,r,()),())=some (sumD (H,N,r,()),()):=by
 unfold qgG
 dsimp only
 rw [show app (none' UInt8) r=r from rfl]
 refine (qH (by simp only [go_sem,Int.reduceToNat];omega)).trans ?_
 rw [qsU N hN hN2]
 refine (qG rfl).trans ?_
 have hp:=qBi N
 have hzs:zs (N.toNat % 64) < 64:=by unfold zs;omega
 refine (qH (by simp only [go_sem,Int.reduceToNat];omega)).trans ?_
 rw [qF7]
 refine (qG rfl).trans ?_
 dsimp only
 unfold sumD
 dsimp only
 rw [show app r (padD N)=r++padD N from rfl]
 have hTl:(r++padD N).length=r.length+1+zs (N.toNat % 64)+8:=by rw [List.length_append,hp];omega
 have hT64:(r++padD N).length % 64=0:=by rw [hTl];unfold zs;omega
 generalize hTT:r++padD N=T at hTl hT64
 generalize hf:(fun (x_1:Int×List UInt32×Unit)=>(_:Option (LS (Int×List UInt32×Unit) (BB×Unit))))=f
 have step:∀ i:Nat,i < T.length / 64→f (((64*i:Nat):Int),eat H T i,())=some (.nx (((64*(i+1):Nat):Int),eat H T (i+1),())):=by
  intro i hi
  subst hf
  have e':i64 (iadd ((64*i:Nat):Int) 64)=((64*(i+1):Nat):Int):=i64n (by show ((64*i:Nat):Int)+64=_;omega) (by omega)
  dsimp only
  rw [e']
  refine (qE (by simp only [go_sem,Int.reduceToNat];omega)).trans ?_
  rw [qgF _ (yZ hH T i) T (64*i) (by omega) (by omega)]
  rfl
 have hend:f (((64*(T.length / 64):Nat):Int),eat H T (T.length / 64),())=some (.ex 0 (((64*(T.length / 64):Nat):Int),eat H T (T.length / 64),())):=by
  subst hf
  exact qB (by simp only [go_sem,Int.reduceToNat];omega)
 have hloop:=(qM (f:=f) (fun i=>(((64*i:Nat):Int),eat H T i,())) (T.length / 64) step 0 (Nat.zero_le _)).trans (qT hend)
 refine (zH (show loop f (0,H,())=_ from hloop)).trans ?_
 clear hloop hend step
 refine (qH g62).trans ?_
 clear hf f
 dsimp only
 have hw:=yZ hH T (T.length / 64)
 generalize eat H T (T.length / 64)=w at hw
 generalize hf:(fun (x:BB×Int×Unit)=>(_:Option (LS (BB×Int×Unit) (BB×Unit))))=f
 have step:∀ i:Nat,i < 8→f (outW w i,(i:Int),())=some (.nx (outW w (i+1),((i+1:Nat):Int),())):=by
  intro i hi
  subst hf
  have hl:=qeP w i
  have hi':i64 (iadd (i:Int) 1)=((i+1:Nat):Int):=i64n (by show (i:Int)+1=_;omega) (by omega)
  refine (qE (by simp only [go_sem,Int.reduceToNat];omega)).trans ?_
  refine (qH (by simp only [go_sem,Int.reduceToNat];omega)).trans ?_
  refine (qH (by simp only [go_sem,Int.reduceToNat];omega)).trans ?_
  refine (qH (by simp only [go_sem,Int.reduceToNat];omega)).trans ?_
  refine (qH (by simp only [go_sem,Int.reduceToNat];omega)).trans ?_
  refine (qH (by simp only [go_sem,Int.reduceToNat];simp;omega)).trans ?_
  dsimp only
  rw [hi',qyU,qKp];rfl
 have hend:∀ v,f (v,((8:Nat):Int),())=some (.ex 2 (v,((8:Nat):Int),())):=by subst hf;intro v;exact qB rfl
 have hloop:=(qM (f:=f) (fun i=>(outW w i,(i:Int),())) 8 step 0 (Nat.zero_le _)).trans (qT (hend _))
 refine (zH (show loop f (none' UInt8,0,())=_ from hloop)).trans ?_
 exact qH g62
def okH (h:HT):Prop:=h.1.length=8∧0≤h.2.1∧h.2.2.1.length=h.2.1.toNat % 64
theorem qgK {h:HT} (hh:okH h) (b:BB):okH (putD h b):=by
 obtain ⟨h1,h2,h3⟩:=hh
 refine ⟨yZ h1 _ _, ?_, ?_⟩
 ·show 0≤h.2.1+(b.length:Int);omega
 ·show ((h.2.2.1++b).drop (64*((h.2.2.1++b).length / 64))).length=(h.2.1+(b.length:Int)).toNat % 64
  rw [List.length_drop,List.length_append,h3];omega
theorem qJe (h:HT) (x y:BB):putD (putD h x) y=putD h (x++y):=by
 obtain ⟨H,N,r,⟨⟩⟩:=h
 unfold putD
 dsimp only
 generalize hL:r++x=L
 have hM:r++(x++y)=L++y:=by rw [← List.append_assoc,hL]
 rw [hM]
 have hq:64*(L.length / 64)≤L.length:=by omega
 have hd:(L++y).drop (64*(L.length / 64))=L.drop (64*(L.length / 64))++y:=List.drop_append_of_le_length hq
 have hlen:(L.drop (64*(L.length / 64))++y).length=L.length - 64*(L.length / 64)+y.length:=by rw [List.length_append,List.length_drop]
 have hn:(L++y).length / 64=L.length / 64+(L.drop (64*(L.length / 64))++y).length / 64:=by rw [hlen,List.length_append];omega
 have he:eat H (L++y) (L.length / 64)=eat H L (L.length / 64):=by
  refine qzZ H fun j hj => ?_
  unfold q8
  rw [List.getD_eq_getElem?_getD,List.getElem?_append_left (by omega),← List.getD_eq_getElem?_getD]
 refine Prod.ext ?_ (Prod.ext ?_ (Prod.ext ?_ rfl))
 ·dsimp only;rw [hn,qGB,hd,he]
 ·dsimp only;rw [List.length_append];omega
 ·dsimp only;rw [hn,← hd,List.drop_drop];congr 1;omega
theorem qAW (h:HT):(sumD h).length=32:=by unfold sumD;rw [qeP]
def iv:HT:=([u32 1779033703,u32 3144134277,u32 1013904242,u32 2773480762,u32 1359893119,u32 2600822924,u32 528734635,u32 1541459225],0,[],())
theorem qs2:okH iv:=⟨rfl,Int.le_refl _,rfl⟩
theorem qcP {h:HT} (hh:okH h) (b:BB) (hN:h.2.1≤1000000000) (hb:b.length≤1000000000):qd6 (h,b,())=some (putD h b,()):=by
 obtain ⟨H,N,r,⟨⟩⟩:=h
 obtain ⟨h1,h2,h3⟩:=hh
 have h2':0≤N:=h2
 have h3':r.length=N.toNat % 64:=h3
 have hN':N≤1000000000:=hN
 exact qx8 H h1 N r b h2 (by omega) (by omega) hb
theorem qyO {h:HT} (hh:okH h) (b:BB) (hN:h.2.1≤1000000000) (hb:b.length≤1000000000):qgH (h,b,())=some (putD h b,()):=by
 obtain ⟨H,N,r,⟨⟩⟩:=h
 obtain ⟨h1,h2,h3⟩:=hh
 have h2':0≤N:=h2
 have h3':r.length=N.toNat % 64:=h3
 have hN':N≤1000000000:=hN
 exact qsT H h1 N r b h2 (by omega) (by omega) hb
theorem qmN {h:HT} (hh:okH h) (hN:h.2.1≤1000000000000):qjN (h,())=some (sumD h,()):=by
 obtain ⟨H,N,r,⟨⟩⟩:=h
 obtain ⟨h1,h2,h3⟩:=hh
 have hN':N≤1000000000000:=hN
 exact qx7 H h1 N r h2 (by omega) h3
theorem qyN {h:HT} (hh:okH h) (hN:h.2.1≤1000000000000):qgG (h,())=some (sumD h,()):=by
 obtain ⟨H,N,r,⟨⟩⟩:=h
 obtain ⟨h1,h2,h3⟩:=hh
 have hN':N≤1000000000000:=hN
 exact qsS H h1 N r h2 (by omega) h3
theorem qnK:qpV ()=some (iv,()):=rfl
theorem qsV:qqG ()=some (iv,()):=rfl
def qoL (b:BB):BB:=sumD (putD iv b)
theorem xQ (b:BB):(qoL b).length=32:=qAW _
theorem qA1 (b:BB) (hb:b.length≤1000000000):qCG (b,())=some (qoL b,()):=by
 unfold qCG
 rw [qnK]
 refine (qG rfl).trans ?_
 dsimp only
 rw [qcP qs2 b (by decide) hb]
 refine (qG rfl).trans ?_
 dsimp only
 have hn:(putD iv b).2.1=0+(b.length:Int):=rfl
 rw [qmN (qgK qs2 b) (by omega)];rfl
theorem w9 (b:BB) (hb:b.length≤1000000000):qeN (b,())=some (qoL b,()):=by
 unfold qeN
 rw [qsV]
 refine (qG rfl).trans ?_
 dsimp only
 rw [qyO qs2 b (by decide) hb]
 refine (qG rfl).trans ?_
 dsimp only
 have hn:(putD iv b).2.1=0+(b.length:Int):=rfl
 rw [qyN (qgK qs2 b) (by omega)];rfl
theorem qC6 {α σ ρ:Type} {f:σ→Option (LS σ ρ)} (l:List α) (mk:Nat→σ) (e:Nat) (r:ρ) (p:α→Prop)
  (hs:∀ i (h:i < l.length),p l[i]→f (mk i)=some (.nx (mk (i+1)))) (hb:∀ i (h:i < l.length),¬ p l[i]→f (mk i)=some (.rt r)) (he:f (mk l.length)=some (.ex e (mk l.length))) :
  ((∀ x∈l,p x)∧loop f (mk 0)=some (.ex e (mk l.length)))∨((¬ ∀ x∈l,p x)∧loop f (mk 0)=some (.rt r)):=by
 by_cases h:∀ x∈l,p x
 ·exact .inl ⟨h,(qM mk l.length (fun i hi=>hs i hi (h _ (List.getElem_mem hi))) 0 (Nat.zero_le _)).trans (qT he)⟩
 ·refine .inr ⟨h, ?_⟩
  have key:∀ (n i:Nat),l.length - i=n→i≤l.length→(∃ j,∃ (hj:j < l.length),i≤j∧¬ p l[j])→loop f (mk i)=some (.rt r):=by
   intro n
   induction n with
   | zero=>rintro i hn hi ⟨j,hj,h1,_⟩;omega
   | succ n ih =>
    rintro i hn hi ⟨j,hj,h1,h2⟩
    have hil:i < l.length:=by omega
    by_cases hp:p l[i]
    ·rw [vR (hs i hil hp)]
     refine ih (i+1) (by omega) (by omega) ⟨j,hj, ?_,h2⟩
     rcases Nat.lt_or_eq_of_le h1 with h | rfl
     ·exact h
     ·exact absurd hp h2
    ·exact qgR (hb i hil hp)
  refine key _ 0 rfl (Nat.zero_le _) ?_
  refine Classical.byContradiction fun hn=>h fun x hx=>Classical.byContradiction fun hpx => ?_
  obtain ⟨j,hj,rfl⟩:=List.getElem_of_mem hx
  exact hn ⟨j,hj,Nat.zero_le _,hpx⟩
def vQ (key:BB):BB:=let k:=if 64 < key.length then qoL key else key;k++List.replicate (64 - k.length) (u8 0)
theorem ql4 (key:BB):(vQ key).length=64:=by
 unfold vQ
 by_cases h:64 < key.length
 ·simp only [if_pos h,List.length_append,List.length_replicate,xQ]
 ·simp only [if_neg h,List.length_append,List.length_replicate];omega
theorem qGE (k:BB) (h:k.length≤64):cpy (rep (nat 64) (u8 0)) 0 (ln (rep (nat 64) (u8 0))) k=k++List.replicate (64 - k.length) (u8 0):=by
 unfold cpy rep ln
 rw [List.length_replicate,show nat 64=64 from rfl,List.take_zero,List.nil_append,List.take_of_length_le h,Nat.zero_add,Nat.min_eq_right h,List.drop_replicate]
theorem qsZ (key:BB) (h:key.length≤1000000000):qlE (key,())=some (vQ key,()):=by
 unfold qlE
 refine (qH (by decide)).trans ?_
 by_cases hk:64 < key.length
 ·refine (qE (by simp only [go_sem,Int.reduceToNat];omega)).trans ?_
  dsimp only
  rw [qA1 _ h]
  refine (qG rfl).trans ?_
  dsimp only
  rw [qGE _ (by rw [xQ];omega)]
  unfold vQ;simp only [if_pos hk]
 ·refine (qB (by simp only [go_sem,Int.reduceToNat];omega)).trans ?_
  dsimp only
  rw [qGE _ (by omega)]
  unfold vQ;simp only [if_neg hk]
theorem qKP {f:BB×Unit→Option (LS (BB×Unit) (BB×Unit))} (hf:f=fun (x:BB×Unit)=>sel (lt (len x.1) 64) (ck (rm 1 (nadd (ln x.1) (ln [u8 0]))) (some (LS.nx (app x.1 [u8 0],())))) (some (LS.ex 0 (x.1,())))) (k:BB) (h:k.length≤64) :
  loop f (k,())=some (.ex 0 (k++List.replicate (64 - k.length) (u8 0),())):=by
 have step:∀ i:Nat,i < 64 - k.length→f (k++List.replicate i (u8 0),())=some (.nx (k++List.replicate (i+1) (u8 0),())):=by
  intro i hi
  subst hf
  have hl:(k++List.replicate i (u8 0)).length=k.length+i:=by simp
  refine (qE (by simp only [go_sem,Int.reduceToNat];omega)).trans ?_
  refine (qH (by simp only [go_sem,Int.reduceToNat];simp;omega)).trans ?_
  show some (LS.nx (k++List.replicate i (u8 0)++[u8 0],()))=_
  rw [qvC]
 have hend:f (k++List.replicate (64 - k.length) (u8 0),())=some (.ex 0 (k++List.replicate (64 - k.length) (u8 0),())):=by
  subst hf
  have hl:(k++List.replicate (64 - k.length) (u8 0)).length=64:=by simp;omega
  exact qB (by simp only [go_sem,Int.reduceToNat];omega)
 have:=(qM (f:=f) (fun i=>(k++List.replicate i (u8 0),())) (64 - k.length) step 0 (Nat.zero_le _)).trans (qT hend)
 rwa [List.replicate_zero,List.append_nil] at this
theorem qoW (key:BB) (h:key.length≤1000000000):qeM (key,())=some (vQ key,()):=by
 unfold qeM
 refine (qH (by simp only [go_sem,Int.reduceToNat];omega)).trans ?_
 by_cases hk:64 < key.length
 ·refine (qE (by simp only [go_sem,Int.reduceToNat];omega)).trans ?_
  dsimp only
  rw [w9 _ h]
  refine (qG rfl).trans ?_
  dsimp only
  rw [qKP rfl _ (by rw [xQ];omega)]
  refine (qH g62).trans ?_
  unfold vQ;simp only [if_pos hk]
 ·refine (qB (by simp only [go_sem,Int.reduceToNat];omega)).trans ?_
  dsimp only
  rw [show app (none' UInt8) key=key from rfl,qKP rfl _ (by omega)]
  refine (qH g62).trans ?_
  unfold vQ;simp only [if_neg hk]
def xr (c:UInt8) (l:BB):BB:=l.map fun x=>u8 (xorI .u8 (n8 x) (n8 c))
theorem qcN (c:UInt8) (l:BB):(xr c l).length=l.length:=by simp [xr]
theorem qH2 {α:Type} {L:List α} {n:Nat} {z:α} (hL:L.length=n) {i:Nat} (hi:i < n):(L.take i++List.replicate (n - i) z).set i (L[i]'(by omega))=L.take (i+1)++List.replicate (n - (i+1)) z:=by
 have h1:(L.take i).length=i:=by rw [List.length_take];omega
 rw [List.set_append_right _ _ (by omega),h1,Nat.sub_self,show n - i=(n - (i+1))+1 by omega,List.replicate_succ,List.set_cons_zero,List.take_succ_eq_append_getElem (by omega),List.append_assoc]
 rfl
theorem qCn {f:Int×BB×Unit→Option (LS (Int×BB×Unit) Unit)} (c:UInt8) (k:BB) (hk:k.length=64)
  (hf:f=fun (x:Int×BB×Unit)=>sel (lt x.1 (len k)) (ck (inB x.1 (len k)) (ck (inB x.1 (len x.2.1)) (some (LS.nx (i64 (iadd x.1 1),upd x.2.1 (nat x.1) (u8 (xorI .u8 (n8 (nth k (nat x.1) (u8 0))) (n8 c))),()))))) (some (LS.ex 0 (x.1,x.2.1,())))) :
  loop f (0,rep (nat 64) (u8 0),())=some (.ex 0 (64,xr c k,())):=by
 have hx:(xr c k).length=64:=by rw [qcN,hk]
 have step:∀ i:Nat,i < 64→f ((i:Int),(xr c k).take i++List.replicate (64 - i) (u8 0),())=some (.nx (((i+1:Nat):Int),(xr c k).take (i+1)++List.replicate (64 - (i+1)) (u8 0),())):=by
  intro i hi
  subst hf
  have hl:((xr c k).take i++List.replicate (64 - i) (u8 0)).length=64:=by rw [List.length_append,List.length_take,List.length_replicate];omega
  have hi':i64 (iadd (i:Int) 1)=((i+1:Nat):Int):=i64n (by show (i:Int)+1=_;omega) (by omega)
  refine (qE (by simp only [go_sem,Int.reduceToNat];omega)).trans ?_
  refine (qH (by simp only [go_sem,Int.reduceToNat];omega)).trans ?_
  refine (qH (by simp only [go_sem,Int.reduceToNat];omega)).trans ?_
  dsimp only
  rw [hi',show upd ((xr c k).take i++List.replicate (64 - i) (u8 0)) (nat (i:Int)) (u8 (xorI .u8 (n8 (nth k (nat (i:Int)) (u8 0))) (n8 c)))=(xr c k).take (i+1)++List.replicate (64 - (i+1)) (u8 0) from ?_]
  rw [← qH2 hx hi,qZ,qL (by omega:i < k.length)]
  unfold upd
  congr 1
  simp [xr]
 have hend:f (((64:Nat):Int),(xr c k).take 64++List.replicate (64 - 64) (u8 0),())=some (.ex 0 (((64:Nat):Int),(xr c k).take 64++List.replicate (64 - 64) (u8 0),())):=by
  subst hf
  exact qB (by simp only [go_sem,Int.reduceToNat];omega)
 have:=(qM (f:=f) (fun i=>((i:Int),(xr c k).take i++List.replicate (64 - i) (u8 0),())) 64 step 0 (Nat.zero_le _)).trans (qT hend)
 rw [List.take_of_length_le (show (xr c k).length≤64 by omega),Nat.sub_self,List.replicate_zero,List.append_nil] at this
 exact this
def tagD (key b:BB):BB:=qoL (xr (u8 92) (vQ key)++qoL (xr (u8 54) (vQ key)++b))
theorem qd5 (key b:BB):(tagD key b).length=32:=xQ _
theorem qCQ (x y:BB):sumD (putD (putD iv x) y)=qoL (x++y):=by rw [qJe];rfl
theorem qnU (key b:BB) (h:key.length≤1000000) (hb:b.length≤1000000):qqT (key,b,())=some (tagD key b,()):=by
 unfold qqT
 dsimp only
 rw [qsZ _ (by omega)]
 refine (qG rfl).trans ?_
 refine (qH (by decide)).trans ?_
 dsimp only
 have hk:=ql4 key
 rw [qCn (u8 92) _ hk rfl]
 refine (qH g62).trans ?_
 dsimp only
 rw [qnK]
 refine (qG rfl).trans ?_
 dsimp only
 have l1:=(qcN (u8 92) (vQ key)).trans hk
 have l2:=(qcN (u8 54) (vQ key)).trans hk
 rw [qcP qs2 _ (by decide) (by omega)]
 refine (qG rfl).trans ?_
 refine (qH (by decide)).trans ?_
 dsimp only
 rw [qCn (u8 54) _ hk rfl]
 refine (qH g62).trans ?_
 refine (qG rfl).trans ?_
 dsimp only
 rw [qcP qs2 _ (by decide) (by omega)]
 refine (qG rfl).trans ?_
 dsimp only
 have n1:(putD iv (xr (u8 54) (vQ key))).2.1=0+((xr (u8 54) (vQ key)).length:Int):=rfl
 have n2:(putD (putD iv (xr (u8 54) (vQ key))) b).2.1=0+((xr (u8 54) (vQ key)).length:Int)+(b.length:Int):=rfl
 have n3:(putD iv (xr (u8 92) (vQ key))).2.1=0+((xr (u8 92) (vQ key)).length:Int):=rfl
 rw [qcP (qgK qs2 _) b (by omega) (by omega)]
 refine (qG rfl).trans ?_
 dsimp only
 rw [qmN (qgK (qgK qs2 _) _) (by omega),qCQ]
 refine (qG rfl).trans ?_
 dsimp only
 have l4:=xQ (xr (u8 54) (vQ key)++b)
 rw [qcP (qgK qs2 _) _ (by omega) (by omega)]
 refine (qG rfl).trans ?_
 dsimp only
 have n4:∀ y,(putD (putD iv (xr (u8 92) (vQ key))) y).2.1=0+((xr (u8 92) (vQ key)).length:Int)+(y.length:Int):=fun _=>rfl
 rw [qmN (qgK (qgK qs2 _) _) (by rw [n4];omega),qCQ]
 rfl
theorem qi1 (key b:BB) (h:key.length≤1000000) (hb:b.length≤1000000):qgE (key,b,())=some (tagD key b,()):=by
 unfold qgE
 dsimp only
 rw [qoW _ (by omega)]
 refine (qG rfl).trans ?_
 dsimp only
 have hk:=ql4 key
 unfold tagD
 generalize vQ key=k at hk
 generalize hf:(fun (x:BB×BB×Int×Unit)=>(_:Option (LS (BB×BB×Int×Unit) (BB×Unit))))=f
 have x1:(xr (u8 54) k).length=64:=by rw [qcN,hk]
 have x2:(xr (u8 92) k).length=64:=by rw [qcN,hk]
 have tk:∀ (c:UInt8) (i:Nat) (hi:i < 64),app ((xr c k).take i) [u8 (xorI .u8 (n8 (nth k (nat (i:Int)) (u8 0))) (n8 c))]=(xr c k).take (i+1):=by
  intro c i hi
  have hx:(xr c k).length=64:=by rw [qcN,hk]
  rw [qZ,qL (by omega:i < k.length),List.take_succ_eq_append_getElem (by omega)]
  unfold app
  congr 2
  simp [xr]
 have step:∀ i:Nat,i < 64→f ((xr (u8 54) k).take i,(xr (u8 92) k).take i,(i:Int),())=some (.nx ((xr (u8 54) k).take (i+1),(xr (u8 92) k).take (i+1),((i+1:Nat):Int),())):=by
  intro i hi
  subst hf
  have hi':i64 (iadd (i:Int) 1)=((i+1:Nat):Int):=i64n (by show (i:Int)+1=_;omega) (by omega)
  have h1:((xr (u8 54) k).take i).length=i:=by rw [List.length_take];omega
  have h2:((xr (u8 92) k).take i).length=i:=by rw [List.length_take];omega
  refine (qE (by simp only [go_sem,Int.reduceToNat];omega)).trans ?_
  refine (qH (by simp only [go_sem,Int.reduceToNat];omega)).trans ?_
  refine (qH (by simp only [go_sem,Int.reduceToNat];simp;omega)).trans ?_
  refine (qH (by simp only [go_sem,Int.reduceToNat];omega)).trans ?_
  refine (qH (by simp only [go_sem,Int.reduceToNat];simp;omega)).trans ?_
  dsimp only
  rw [hi',tk _ i hi,tk _ i hi]
 have hend:∀ u v,f (u,v,((64:Nat):Int),())=some (.ex 0 (u,v,((64:Nat):Int),())):=by subst hf;intro u v;exact qB rfl
 have hloop:=(qM (f:=f) (fun i=>((xr (u8 54) k).take i,(xr (u8 92) k).take i,(i:Int),())) 64 step 0 (Nat.zero_le _)).trans (qT (hend _ _))
 rw [List.take_of_length_le (show (xr (u8 54) k).length≤64 by omega),List.take_of_length_le (show (xr (u8 92) k).length≤64 by omega)] at hloop
 refine (zH (show loop f (none' UInt8,none' UInt8,0,())=_ from hloop)).trans ?_
 refine (qH g62).trans ?_
 dsimp only
 refine (qH (by simp only [go_sem,Int.reduceToNat];omega)).trans ?_
 rw [show app (xr (u8 54) k) b=xr (u8 54) k++b from rfl,w9 _ (by rw [List.length_append];omega)]
 refine (qG rfl).trans ?_
 dsimp only
 have l4:=xQ (xr (u8 54) k++b)
 refine (qH (by simp only [go_sem,Int.reduceToNat];omega)).trans ?_
 rw [show app (xr (u8 92) k) (qoL (xr (u8 54) k++b))=xr (u8 92) k++qoL (xr (u8 54) k++b) from rfl,w9 _ (by rw [List.length_append];omega)]
 rfl
def yN (p:BB):BB:=[u8 (shrI .i64 (len p) (n64 (u64 8))),u8 (len p)]++p
def tlD (l:List BB):BB:=l.flatMap yN
def qbK (label:BB) (l:List BB):BB:=[u8 (len label)]++label++tlD l
theorem qnP (p:BB):(yN p).length=p.length+2:=by simp [yN]
theorem qDK {l:List BB} (h:∀ p∈l,p.length≤1000):(tlD l).length≤1002*l.length:=by
 induction l with
 | nil=>simp [tlD]
 | cons p r ih =>
  have h1:=h p (by simp)
  have h2:=ih fun q hq=>h q (by simp [hq])
  unfold tlD at h2 ⊢
  rw [List.flatMap_cons,List.length_append,qnP,List.length_cons];omega
theorem qCu {l:List BB} {i:Nat} (hi:i < l.length):tlD (l.take (i+1))=tlD (l.take i)++yN l[i]:=by
 unfold tlD
 rw [List.take_succ_eq_append_getElem hi,List.flatMap_append,List.flatMap_cons,List.flatMap_nil,List.append_nil]
theorem qbL {label:BB} {l:List BB} (h1:label.length≤255) (h2:l.length≤16) (h:∀ p∈l,p.length≤1000):(qbK label l).length≤20000:=by
 have:=qDK h
 unfold qbK
 simp only [List.length_append,List.length_cons,List.length_nil];omega
def qrG (key label:BB) (l:List BB):BB:=tagD key (qbK label l)
theorem qjB (key label:BB) (l:List BB):(qrG key label l).length=32:=qd5 _ _
theorem qqU (key label:BB) (l:List BB) (hk:key.length≤1000000) (h1:label.length≤255) (h2:l.length≤16) (h:∀ p∈l,p.length≤1000):qiF (key,label,l,())=some (qrG key label l,0,()):=by
 unfold qiF
 dsimp only
 refine (qG (a:=(false,())) ((qB (by simp only [go_sem,Int.reduceToNat];omega)).trans (by rw [show lt 16 (len l)=false from lt_f (by simp only [go_sem,Int.reduceToNat];omega)]))).trans ?_
 refine (qB rfl).trans ?_
 refine (qH (by simp only [go_sem,Int.reduceToNat];simp;omega)).trans ?_
 generalize hf:(fun (x_1:Int×BB×Int×Unit)=>(_:Option (LS (Int×BB×Int×Unit) (BB×Int×Unit))))=f
 have hT:∀ i,(qbK label (l.take i)).length≤20000:=fun i=>qbL h1 (by rw [List.length_take];omega) (fun p hp=>h p (List.mem_of_mem_take hp))
 have step:∀ i:Nat,i < l.length→f (0,qbK label (l.take i),(i:Int),())=some (.nx (0,qbK label (l.take (i+1)),((i+1:Nat):Int),())):=by
  intro i hi
  subst hf
  have hi':i64 (iadd (i:Int) 1)=((i+1:Nat):Int):=i64n (by show (i:Int)+1=_;omega) (by omega)
  have hp:=h l[i] (List.getElem_mem hi)
  have ht:=hT i
  have hn:nth l (nat (i:Int)) (none' UInt8)=l[i]:=by rw [qZ,qL hi]
  refine (qE (by simp only [go_sem,Int.reduceToNat];omega)).trans ?_
  refine (qH (by simp only [go_sem,Int.reduceToNat];omega)).trans ?_
  dsimp only
  rw [hn]
  refine (qB (by simp only [go_sem,Int.reduceToNat];omega)).trans ?_
  refine (qH (by simp only [go_sem,Int.reduceToNat];simp;omega)).trans ?_
  refine (qH (by simp only [go_sem,Int.reduceToNat];simp;omega)).trans ?_
  rw [hi',show qbK label (l.take (i+1))=qbK label (l.take i)++yN l[i] by unfold qbK;rw [qCu hi,List.append_assoc,List.append_assoc,List.append_assoc]]
  unfold yN app
  rw [List.append_assoc]
 have hend:∀ u,f (0,u,(l.length:Int),())=some (.ex 0 (0,u,(l.length:Int),())):=by subst hf;intro u;exact qB (by simp only [go_sem,Int.reduceToNat];omega)
 have hloop:=(qM (f:=f) (fun i=>(0,qbK label (l.take i),(i:Int),())) l.length step 0 (Nat.zero_le _)).trans (qT (hend _))
 rw [List.take_of_length_le (Nat.le_refl _)] at hloop
 have h0:qbK label (l.take 0)=app [u8 (len label)] label:=by unfold qbK;rw [List.take_zero];exact List.append_nil _
 rw [h0] at hloop
 refine (zH (show loop f (0,app [u8 (len label)] label,0,())=_ from hloop)).trans ?_
 refine (qH g62).trans ?_
 dsimp only
 have:=qbL h1 h2 h
 rw [qnU _ _ hk (by omega)];rfl
theorem qqF (label:BB) (l:List BB) (h1:label.length≤255) (h2:l.length≤16) (h:∀ p∈l,p.length≤1000):qiB (label,l,())=some (qbK label l,()):=by
 unfold qiB
 dsimp only
 refine (qH (by simp only [go_sem,Int.reduceToNat];omega)).trans ?_
 refine (qH (by simp only [go_sem,Int.reduceToNat];simp;omega)).trans ?_
 generalize hf:(fun (x_1:BB×Int×Unit)=>(_:Option (LS (BB×Int×Unit) (BB×Unit))))=f
 have hT:∀ i,(qbK label (l.take i)).length≤20000:=fun i=>qbL h1 (by rw [List.length_take];omega) (fun p hp=>h p (List.mem_of_mem_take hp))
 have step:∀ i:Nat,i < l.length→f (qbK label (l.take i),(i:Int),())=some (.nx (qbK label (l.take (i+1)),((i+1:Nat):Int),())):=by
  intro i hi
  subst hf
  have hi':i64 (iadd (i:Int) 1)=((i+1:Nat):Int):=i64n (by show (i:Int)+1=_;omega) (by omega)
  have hp:=h l[i] (List.getElem_mem hi)
  have ht:=hT i
  have hn:nth l (nat (i:Int)) (none' UInt8)=l[i]:=by rw [qZ,qL hi]
  have q1:u8 (i64 (idiv (len l[i]) 256))=u8 (shrI .i64 (len l[i]) (n64 (u64 8))):=by
   have a1:idiv (len l[i]) 256=((l[i].length / 256:Nat):Int):=by rw [g31 (by simp only [go_sem,Int.reduceToNat];omega)];simp only [go_sem,Int.reduceToNat];omega
   have a2:shrI .i64 (len l[i]) (n64 (u64 8))=((l[i].length / 256:Nat):Int):=by show Int.fdiv (l[i].length:Int) (2 ^ 8)=_;rw [Int.fdiv_eq_ediv_of_nonneg _ (by decide)];omega
   rw [a1,a2,i64n rfl (by omega)]
  have q2:u8 (imod (len l[i]) 256)=u8 (len l[i]):=by
   rw [g32 (by simp only [go_sem,Int.reduceToNat];omega)];exact qCt (by simp only [go_sem,Int.reduceToNat];omega)
  refine (qE (by simp only [go_sem,Int.reduceToNat];omega)).trans ?_
  dsimp only
  rw [hn]
  refine (qH (by simp only [go_sem,Int.reduceToNat];omega)).trans ?_
  refine (qH (by simp only [go_sem,Int.reduceToNat];omega)).trans ?_
  refine (qH (by simp only [go_sem,Int.reduceToNat];simp;omega)).trans ?_
  refine (qH (by simp only [go_sem,Int.reduceToNat];omega)).trans ?_
  refine (qH (by simp only [go_sem,Int.reduceToNat];simp;omega)).trans ?_
  rw [hi',q1,q2,show qbK label (l.take (i+1))=qbK label (l.take i)++yN l[i] by unfold qbK;rw [qCu hi,List.append_assoc,List.append_assoc,List.append_assoc]]
  unfold yN app
  rw [List.append_assoc]
 have hend:∀ u,f (u,(l.length:Int),())=some (.ex 0 (u,(l.length:Int),())):=by subst hf;intro u;exact qB (by simp only [go_sem,Int.reduceToNat];omega)
 have hloop:=(qM (f:=f) (fun i=>(qbK label (l.take i),(i:Int),())) l.length step 0 (Nat.zero_le _)).trans (qT (hend _))
 rw [List.take_of_length_le (Nat.le_refl _)] at hloop
 have h0:qbK label (l.take 0)=app [u8 (len label)] label:=by unfold qbK;rw [List.take_zero];exact List.append_nil _
 rw [h0] at hloop
 refine (zH (show loop f (app [u8 (len label)] label,0,())=_ from hloop)).trans ?_
 exact qH g62
theorem qc3 (key label:BB) (l:List BB) (hk:key.length≤1000000) (h1:label.length≤255) (h2:l.length≤16) (h:∀ p∈l,p.length≤1000):wE (key,label,l,())=some (qrG key label l,0,()):=by
 unfold wE
 dsimp only
 refine (qG (a:=(false,())) ((qB (by simp only [go_sem,Int.reduceToNat];omega)).trans (by rw [show lt 16 (len l)=false from lt_f (by simp only [go_sem,Int.reduceToNat];omega)]))).trans ?_
 refine (qB rfl).trans ?_
 generalize hf:(fun (x_1:Int×Int×Unit)=>(_:Option (LS (Int×Int×Unit) (BB×Int×Unit))))=f
 have step:∀ i:Nat,i < l.length→f (0,(i:Int),())=some (.nx (0,((i+1:Nat):Int),())):=by
  intro i hi
  subst hf
  have hi':i64 (iadd (i:Int) 1)=((i+1:Nat):Int):=i64n (by show (i:Int)+1=_;omega) (by omega)
  have hp:=h l[i] (List.getElem_mem hi)
  have hn:nth l (nat (i:Int)) (none' UInt8)=l[i]:=by rw [qZ,qL hi]
  refine (qE (by simp only [go_sem,Int.reduceToNat];omega)).trans ?_
  dsimp only
  rw [hn,hi']
  refine (qH (by simp only [go_sem,Int.reduceToNat];omega)).trans ?_
  exact qB (by simp only [go_sem,Int.reduceToNat];omega)
 have hend:f (0,(l.length:Int),())=some (.ex 0 (0,(l.length:Int),())):=by subst hf;exact qB (by simp only [go_sem,Int.reduceToNat];omega)
 have hloop:=(qM (f:=f) (fun i=>(0,(i:Int),())) l.length step 0 (Nat.zero_le _)).trans (qT hend)
 refine (zH (show loop f (0,0,())=_ from hloop)).trans ?_
 refine (qH g62).trans ?_
 rw [qqF _ _ h1 h2 h]
 refine (qG rfl).trans ?_
 dsimp only
 have:=qbL h1 h2 h
 rw [qi1 _ _ hk (by omega)];rfl
def kN (k b:BB):BB:=(tagD k b).take 16
theorem qeA (k b:BB):(kN k b).length=16:=by unfold kN;rw [List.length_take,qd5];rfl
theorem qgL (k b:BB) (hk:k.length≤1000000) (hb:b.length≤1000000):qc9 (k,b,())=some (kN k b,()):=by
 unfold qc9
 dsimp only
 rw [qnU _ _ hk hb]
 refine (qG rfl).trans ?_
 dsimp only
 have:=qd5 k b
 refine (qH (by simp only [go_sem,Int.reduceToNat];omega)).trans ?_
 rfl
theorem qoU (k b:BB) (hk:k.length≤1000000) (hb:b.length≤1000000):qeL (k,b,())=some (kN k b,()):=by
 unfold qeL
 dsimp only
 rw [qi1 _ _ hk hb]
 refine (qG rfl).trans ?_
 dsimp only
 have:=qd5 k b
 refine (qH (by simp only [go_sem,Int.reduceToNat];omega)).trans ?_
 rfl
abbrev ET:=BB×BB×Unit
theorem qvF (p:wO) (k b:BB):qo7 (p,k,b,())=some (D ((k,b,())∈p.2.1),()):=by
 unfold qo7
 congr 2
 refine qiW ?_
 rw [List.any_eq_true]
 constructor
 ·rintro ⟨⟨e1,e2,⟨⟩⟩,he,h⟩
  simp only [band,seq,Bool.and_eq_true,beq_iff_eq] at h
  rw [h.1,h.2];exact he
 ·intro h
  exact ⟨_,h,by simp [band,seq]⟩
theorem qsR (p:wO) (k b:BB) (hl:p.2.1.length≤1000000):qk2 (p,k,b,())=some (D ((k,b,())∈p.2.1),()):=by
 unfold qk2
 dsimp only
 generalize p.2.1=l at hl
 generalize hf:(fun (x_1:Bool×Int×Unit)=>(_:Option (LS (Bool×Int×Unit) (Bool×Unit))))=f
 have hsame:∀ (i:Nat) (h:i < l.length),nth l (nat (i:Int)) (none' UInt8,none' UInt8,())=l[i]:=fun i h=>by rw [qZ,qL h]
 have key:=qC6 (f:=f) l (fun i=>(false,(i:Int),())) 0 ((true,()):Bool×Unit) (fun e=>¬ e=(k,b,())) (fun i h hp => ?_) (fun i h hp => ?_) ?_
 ·rcases key with ⟨h,hl⟩ | ⟨h,hl⟩
  ·refine (zH (show loop f (false,0,())=_ from hl)).trans ?_
   refine (qH g62).trans ?_
   rw [D_f (fun hm=>h _ hm rfl)]
  ·refine (zH (show loop f (false,0,())=_ from hl)).trans ?_
   rw [D_t (Classical.byContradiction fun hm=>h fun x hx e=>hm (e ▸ hx))];rfl
 ·subst hf
  have hi':i64 (iadd (i:Int) 1)=((i+1:Nat):Int):=i64n (by show (i:Int)+1=_;omega) (by omega)
  refine (qE (by simp (disch:=first | assumption | omega | (dsimp only;omega) | decide) only [go_sem,Int.reduceToNat];omega)).trans ?_
  refine (qH (by simp (disch:=first | assumption | omega | (dsimp only;omega) | decide) only [go_sem,Int.reduceToNat];omega)).trans ?_
  dsimp only
  rw [hsame i h,hi']
  generalize l[i]=e at hp
  obtain ⟨e1,e2,⟨⟩⟩:=e
  by_cases h1:e1=k
  ·have h2:¬ e2=b:=fun h2=>hp (by rw [h1,h2])
   simp (disch:=omega) only [go_sem,Int.reduceToNat,zC,h1,h2]
  ·simp (disch:=omega) only [go_sem,Int.reduceToNat,zC,h1]
 ·subst hf
  have hp':l[i]=(k,b,()):=Classical.byContradiction hp
  refine (qE (by simp (disch:=omega) only [go_sem,Int.reduceToNat];omega)).trans ?_
  refine (qH (by simp (disch:=omega) only [go_sem,Int.reduceToNat];omega)).trans ?_
  dsimp only
  rw [hsame i h,hp']
  simp (disch:=omega) only [go_sem,Int.reduceToNat,zC]
 ·subst hf
  exact qB (by simp (disch:=omega) only [go_sem,Int.reduceToNat];omega)
def ptag (p:wO) (k b:BB):wO:=if (k,b,())∈p.2.1 then p else (p.1,p.2.1++[(k,b,())],p.2.2)
theorem qAX {α:Type} (l:List α):sub l 0 (len l)=l:=by
 unfold sub
 rw [show (0:Int).toNat=0 from rfl,List.drop_zero,show (len l).toNat=l.length from qZ,List.take_of_length_le (by omega)]
theorem qBK {α:Type} (l:List α):band (inC 0 (len l) (len l)) (beq (len l) (len l))=true:=by
 rw [qfD rfl,g37];simp only [go_sem,Int.reduceToNat];omega
theorem qEg (l:List ET):zP (l,())=some (l,()):=by
 unfold zP
 dsimp only
 rw [qAX]
 exact qH (qBK l)
theorem qfS (l:BB) (h:l.length≤1000000):qbJ (l,())=some (l,()):=by
 unfold qbJ
 exact qH (by simp only [go_sem,Int.reduceToNat];omega)
theorem qvE (p:wO) (k b:BB) (hl:p.2.1.length≤1000000) (hk:k.length≤1000000) (hb:b.length≤1000000):qo6 (p,k,b,())=some (ptag p k b,kN k b,()):=by
 unfold qo6
 dsimp only
 rw [qvF]
 refine (qG rfl).trans ?_
 unfold ptag
 by_cases h:(k,b,())∈p.2.1
 ·rw [D_t h,if_pos h]
  refine (qB rfl).trans ?_
  rw [qgL _ _ hk hb];rfl
 ·rw [D_f h,if_neg h]
  refine (qE rfl).trans ?_
  rw [qEg]
  refine (qG rfl).trans ?_
  rw [qfS _ hk]
  refine (qG rfl).trans ?_
  rw [qfS _ hb]
  refine (qG rfl).trans ?_
  refine (qH (by simp only [go_sem,Int.reduceToNat];simp;omega)).trans ?_
  rw [qgL _ _ hk hb];rfl
theorem qKL (p:wO) (k b:BB):(ptag p k b).2.1.length≤p.2.1.length+1:=by
 unfold ptag
 split
 ·omega
 ·simp
def pchk (p:wO) (k b t:BB):wO×Bool×Unit :=
 if kN k b=t then (if (k,b,())∈p.2.1 then (p,true,()) else ((p.1,p.2.1,true,()), !p.1,())) else (p,false,())
theorem qoV (p:wO) (k b t:BB) (hl:p.2.1.length≤1000000) (hk:k.length≤1000000) (hb:b.length≤1000000):qaX (p,k,b,t,())=some (pchk p k b t):=by
 unfold qaX
 dsimp only
 rw [qoU _ _ hk hb]
 refine (qG rfl).trans ?_
 dsimp only
 rw [zC]
 refine (qG rfl).trans ?_
 unfold pchk
 by_cases ht:kN k b=t
 ·rw [if_pos ht,qHc ht]
  refine (qB rfl).trans ?_
  rw [qsR _ _ _ hl]
  refine (qG rfl).trans ?_
  by_cases h:(k,b,())∈p.2.1
  ·rw [D_t h,if_pos h];rfl
  ·rw [D_f h,if_neg h];rfl
 ·rw [if_neg ht,qI3 ht];rfl
theorem qqE (p:wO) (hl:p.2.1.length≤1000000):qc2 (p,p,())=some (true,()):=by
 unfold qc2
 dsimp only
 have e1:∀ b:Bool,beb b b=true:=fun b=>by cases b <;> rfl
 rw [e1,e1,qfD rfl]
 refine (qG (a:=(false,())) rfl).trans ?_
 refine (qB rfl).trans ?_
 generalize p.2.1=l at hl
 generalize hf:(fun (x_1:Bool×Int×Unit)=>(_:Option (LS (Bool×Int×Unit) (Bool×Unit))))=f
 have step:∀ i:Nat,i < l.length→f (false,(i:Int),())=some (.nx (false,((i+1:Nat):Int),())):=by
  intro i hi
  subst hf
  have hi':i64 (iadd (i:Int) 1)=((i+1:Nat):Int):=i64n (by show (i:Int)+1=_;omega) (by omega)
  refine (qE (by simp (disch:=omega) only [go_sem,Int.reduceToNat];omega)).trans ?_
  dsimp only
  rw [hi']
  simp (disch:=omega) only [go_sem,Int.reduceToNat,zC]
 have hend:f (false,(l.length:Int),())=some (.ex 0 (false,(l.length:Int),())):=by subst hf;exact qB (by simp (disch:=omega) only [go_sem,Int.reduceToNat];omega)
 have hloop:=(qM (f:=f) (fun i=>(false,(i:Int),())) l.length step 0 (Nat.zero_le _)).trans (qT hend)
 refine (zH (show loop f (false,0,())=_ from hloop)).trans ?_
 exact qH g62
def big8 (n:Int):BB:=ps 256 byt n.toNat 8
theorem qsD (n:Int):(big8 n).length=8:=zK _ _ _ _
def recD (n:Int):BB:=big8 n++(qoL ([u8 121,u8 101,u8 116,u8 116]++big8 n)).take 8
theorem qBf (n:Int):(recD n).length=16:=by unfold recD;rw [List.length_append,qsD,List.length_take,xQ];rfl
def qJY (n:Int):Prop:=1≤n∧n≤4611686018427387904
theorem qLQ {n:Int} (h:qJY n):((1:Int)≤8∧(8:Int)≤8∧0≤n∧n < 256 ^ (8:Int).toNat):=by
 obtain ⟨h1,h2⟩:=h
 refine ⟨by omega,by omega,by omega, ?_⟩
 show n < 256 ^ 8
 omega
theorem qmS (n:Int) (hn:n≤9223372036854775807):qbN (n,())=some (if 1≤n∧n≤4611686018427387904 then (recD n,0,()) else ([],1,())):=by
 unfold qbN
 dsimp only
 by_cases h:1≤n∧n≤4611686018427387904
 ·rw [if_pos h]
  refine (qG (a:=(false,())) ((qB (by simp only [go_sem,Int.reduceToNat];omega)).trans (by rw [show lt 4611686018427387904 n=false from lt_f (by omega)]))).trans ?_
  refine (qB rfl).trans ?_
  rw [qb8 _ _ hn,if_pos (qLQ h)]
  refine (qG rfl).trans ?_
  dsimp only
  rw [show ps 256 byt n.toNat (8:Int).toNat=big8 n from rfl]
  have:=qsD n
  refine (qH (by simp only [go_sem,Int.reduceToNat];simp;omega)).trans ?_
  rw [show app [u8 121,u8 101,u8 116,u8 116] (big8 n)=[u8 121,u8 101,u8 116,u8 116]++big8 n from rfl,w9 _ (by simp;omega)]
  refine (qG rfl).trans ?_
  dsimp only
  have h2:=xQ ([u8 121,u8 101,u8 116,u8 116]++big8 n)
  refine (qH (by simp only [go_sem,Int.reduceToNat];omega)).trans ?_
  refine (qH (by simp only [go_sem,Int.reduceToNat];omega)).trans ?_
  rw [show cut (qoL ([u8 121,u8 101,u8 116,u8 116]++big8 n)) (nat 0) (nsub (nat 8) (nat 0))=(qoL ([u8 121,u8 101,u8 116,u8 116]++big8 n)).take 8 from rfl,show app (none' UInt8) (big8 n)=big8 n from rfl]
  refine (qH (by simp only [go_sem,Int.reduceToNat];simp;omega)).trans ?_
  rfl
 ·rw [if_neg h]
  by_cases h1:n < 1
  ·refine (qG (a:=(true,())) (qE (by simp only [go_sem,Int.reduceToNat];omega))).trans ?_
   rfl
  ·refine (qG (a:=(true,())) ((qB (by simp only [go_sem,Int.reduceToNat];omega)).trans (by rw [show lt 4611686018427387904 n=true from lt_t (by omega)]))).trans ?_
   rfl
abbrev ST:=BB×BB×Unit
def qKG (s:ST):Prop:=s.1.length=16∧s.2.1.length=16
def newS:ST:=(recD 1,List.replicate 16 (u8 0),())
theorem qsO:qgA ()=some (newS,()):=by
 unfold qgA
 rw [qmS _ (by decide),if_pos (by decide)]
 rfl
theorem qp5 (s:ST):qh2 (s,s,())=some (true,()):=by
 unfold qh2
 simp only [go_sem,Int.reduceToNat,zC]
def z4 (p:Int):Prop:=2≤p∧p≤6
def qm2 (p:Int):Prop:=p=3∨p=4∨p=5
instance (p:Int):Decidable (z4 p):=by unfold z4;infer_instance
instance (p:Int):Decidable (qm2 p):=by unfold qm2;infer_instance
def qBp (p:Int):Int:=if p=0 then 0 else if p=1 then 1 else if p=2 then 2 else if p=3 then 3 else if p=4 then 4 else if p=5 then 4 else if p=6 then 5 else -1
theorem qa0 (p:Int):yU (p,())=some (qBp p,()):=by
 unfold yU qBp
 by_cases h0:p=0
 ·subst h0;rfl
 by_cases h1:p=1
 ·subst h1;rfl
 by_cases h2:p=2
 ·subst h2;rfl
 by_cases h3:p=3
 ·subst h3;rfl
 by_cases h4:p=4
 ·subst h4;rfl
 by_cases h5:p=5
 ·subst h5;rfl
 by_cases h6:p=6
 ·subst h6;rfl
 rw [if_neg h0,if_neg h1,if_neg h2,if_neg h3,if_neg h4,if_neg h5,if_neg h6]
 simp (disch:=omega) only [go_sem,Int.reduceToNat]
theorem qJI (p:Int):2≤qBp p↔z4 p:=by
 unfold qBp z4
 repeat' split
 all_goals omega
theorem qHO (p:Int):qBp p=3∨qBp p=4↔qm2 p:=by
 unfold qBp qm2
 repeat' split
 all_goals omega
theorem qmU (p:Int):qbP (p,())=some (D (z4 p),()):=by
 unfold qbP
 rw [qa0]
 simp only [go_sem,Int.reduceToNat,qJI]
theorem qa1 (p:Int):qaJ (p,())=some (D (qm2 p),()):=by
 unfold qaJ
 rw [qa0]
 simp only [go_sem,Int.reduceToNat,qa0,qHO]
theorem qcW (p:Int):wD (p,())=some (D (z4 p),()):=by
 unfold wD z4
 simp only [go_sem,Int.reduceToNat]
def qEb (c s:Int) (b:BB):Prop:=kZ c∧1≤s∧s≤999999∧1≤b.length∧b.length≤900
instance (c s:Int) (b:BB):Decidable (qEb c s b):=by unfold qEb;infer_instance
theorem qtN (c:Int):ql9 (c,())=some (D (kZ c),()):=by
 unfold ql9 kZ
 by_cases h1:c=1
 ·subst h1;simp only [go_sem,Int.reduceToNat]
 by_cases h2:c=2
 ·subst h2;simp (disch:=omega) only [go_sem,Int.reduceToNat]
 by_cases h3:c=101
 ·subst h3;simp (disch:=omega) only [go_sem,Int.reduceToNat]
 by_cases h4:c=201
 ·subst h4;simp (disch:=omega) only [go_sem,Int.reduceToNat]
 simp only [go_sem,Int.reduceToNat,h1,h2,h3,h4]
theorem qxF (c s:Int) (b:BB):qpG (c,s,b,())=some (D (qEb c s b),()):=by
 unfold qpG qEb
 rw [qtN]
 by_cases hk:kZ c
 ·simp only [go_sem,Int.reduceToNat,hk];exact vZ (by omega)
 ·rw [D_f (p:=_∧_) (fun h=>hk h.1)];simp only [go_sem,Int.reduceToNat,hk]
def noA:TAsk:=(0,0,0,0,[],())
def qsE (c s:Int) (b:BB):TAsk×Int×Unit:=if qEb c s b then ((c,s,8,3,b,()),0,()) else (noA,1,())
theorem qtO (c s:Int) (b:BB):qmA (c,s,b,())=some (qsE c s b):=by
 unfold qmA qsE
 rw [qxF]
 by_cases h:qEb c s b
 ·rw [D_t h,if_pos h];rfl
 ·rw [D_f h,if_neg h];rfl
theorem qxE (a:TAsk):qpF (a,())=some (D (a=noA),()):=by
 obtain ⟨c,s,d,l,b,⟨⟩⟩:=a
 unfold qpF qxH noA
 simp only [go_sem,Int.reduceToNat,qfR]
 refine vZ ?_
 simp only [Prod.mk.injEq,and_true]
 constructor
 ·rintro ⟨⟨⟨⟨h1,h2⟩,h3⟩,h4⟩,h5⟩;exact ⟨h1,h2,h3,h4,h5⟩
 ·rintro ⟨h1,h2,h3,h4,h5⟩;exact ⟨⟨⟨⟨h1,h2⟩,h3⟩,h4⟩,h5⟩
def qt9 (a:TAsk) (c s:Int):Prop:=¬ a=noA∧a.1=c∧a.2.1=s
theorem qtM (a:TAsk) (c s:Int):ql8 (a,c,s,())=some (D (qt9 a c s),()):=by
 unfold ql8 qt9
 rw [qxE]
 simp only [go_sem,Int.reduceToNat]
theorem qp4 (a:TAsk):qh1 (a,a,())=some (true,()):=by
 unfold qh1
 simp only [go_sem,Int.reduceToNat,zC]
def wU (n:Int):Int:=if n < 0∨999999≤n then 1 else n+1
theorem qxG (n:Int):qpH (n,())=some (wU n,()):=by
 unfold qpH wU
 by_cases h:n < 0∨999999≤n
 ·rw [if_pos h];simp (disch:=omega) only [go_sem,Int.reduceToNat]
 ·rw [if_neg h];simp (disch:=omega) only [go_sem,Int.reduceToNat]
def qKM (u:List Bool) (n:Nat):Option Nat:=((List.range 4).map fun i=>(n+i) % 4).find? fun c=>u.getD c false
def qaZ (h:THub):THub×Int×Int×Unit:=match qKM h.1 h.2.2.2.1.toNat with | none=>(h,0,11,()) | some c=>((h.1,h.2.1,h.2.2.1,(((c+1) % 4:Nat):Int),()),(c:Int),0,())
theorem four {α:Type} {w:List α} (h:w.length=4):∃ a b c d,w=[a,b,c,d]:=by
 match w,h with
 | [a,b,c,d],_=>exact ⟨a,b,c,d,rfl⟩
theorem qvZ (h:THub) (hu:h.1.length=4) (hn:0≤h.2.2.2.1∧h.2.2.2.1 < 4):qpD (h,())=some (qaZ h):=by
 obtain ⟨u,f,l,n,⟨⟩⟩:=h
 dsimp only at hu hn
 obtain ⟨a,b,c,d,rfl⟩:=four hu
 have:n=0∨n=1∨n=2∨n=3:=by omega
 unfold qpD
 rcases this with rfl | rfl | rfl | rfl <;> cases a <;> cases b <;> cases c <;> cases d <;> (refine (zH (qjW 5 rfl)).trans ?_;kernel_rfl)
theorem qq8 (b:BB) (h:1≤b.length∧b.length≤1024):qiK (b,())=some (yN b,0,()):=by
 unfold qiK
 refine (qG (a:=(false,())) ((qB (by simp only [go_sem,Int.reduceToNat];omega)).trans (by rw [show lt 1024 (len b)=false from lt_f (by simp only [go_sem,Int.reduceToNat];omega)]))).trans ?_
 refine (qB rfl).trans ?_
 refine (qH (by simp only [go_sem,Int.reduceToNat];simp;omega)).trans ?_
 rfl
abbrev GT:=Int×BB×Unit
def noG:GT:=(0,[],())
def noR:qdZ:=(noG,noG,noG,0,0,())
def qFi (g:GT):Prop:=1≤g.1∧g.1≤2147483647∧g.2.1.length=32
instance (g:GT):Decidable (qFi g):=by unfold qFi;infer_instance
def qIV (r:qdZ):qdZ×Int×Unit:=if r.2.2.1=noG then (r,9,()) else ((r.2.2.1,r.1,noG,16,r.2.2.2.2),0,())
theorem qp7 (r:qdZ) (hr:r.2.2.1=noG∨¬ r.2.2.1.1=0):qcX (r,())=some (qIV r):=by
 unfold qcX qIV
 by_cases h:r.2.2.1=noG
 ·rw [if_pos h]
  have:r.2.2.1.1=0:=by rw [h];rfl
  simp (disch:=omega) only [go_sem,Int.reduceToNat]
 ·rw [if_neg h]
  have:¬ r.2.2.1.1=0:=hr.resolve_left h
  simp (disch:=omega) only [go_sem,Int.reduceToNat]
  rfl
def newR (k:BB):qdZ×Int×Unit:=if k.length=32 then (((1,k,()),noG,noG,0,1,()),0,()) else (noR,1,())
theorem qsP (k:BB):qkZ (k,())=some (newR k):=by
 unfold qkZ newR
 by_cases h:k.length=32
 ·rw [if_pos h];simp (disch:=omega) only [go_sem,Int.reduceToNat];rfl
 ·rw [if_neg h];simp (disch:=omega) only [go_sem,Int.reduceToNat];rfl
def qt0 (r:qdZ):Prop:=r=noR∨(qFi r.1∧r.2.2.2.2.1≤2147483647∧r.1.1≤r.2.2.2.2.1∧r.2.2.1.1≤r.2.2.2.2.1 ∧
 (r.2.1=noG∧r.2.2.2.1=0∨¬ r.2.1=noG∧qFi r.2.1∧r.2.1.1 < r.1.1∧1≤r.2.2.2.1∧r.2.2.2.1≤16)∧(r.2.2.1=noG∨qFi r.2.2.1∧r.1.1 < r.2.2.1.1))
theorem qp8 (r:qdZ):qh4 (r,r,())=some (true,()):=by
 unfold qh4 kO
 simp only [go_sem,Int.reduceToNat,zC]
def qGz (r:qdZ) (no:Int):BB×Bool×Unit :=
 if no < 1 then ([],false,()) else if r.1.1=no then (r.1.2.1,true,()) else if r.2.1.1=no then (r.2.1.2.1,true,()) else if r.2.2.1.1=no then (r.2.2.1.2.1,true,()) else ([],false,())
theorem qgB (r:qdZ) (no:Int):qcY (r,no,())=some (qGz r no):=by
 unfold qcY qGz
 by_cases h0:no < 1
 ·rw [if_pos h0];simp (disch:=omega) only [go_sem,Int.reduceToNat]
 rw [if_neg h0]
 by_cases h1:r.1.1=no
 ·rw [if_pos h1];simp (disch:=omega) only [go_sem,Int.reduceToNat]
 rw [if_neg h1]
 by_cases h2:r.2.1.1=no
 ·rw [if_pos h2];simp (disch:=omega) only [go_sem,Int.reduceToNat]
 rw [if_neg h2]
 by_cases h3:r.2.2.1.1=no
 ·rw [if_pos h3];simp (disch:=omega) only [go_sem,Int.reduceToNat]
 rw [if_neg h3];simp (disch:=omega) only [go_sem,Int.reduceToNat]
def jB (n:Int):Prop:=0≤n∧n≤4611686018427387904
instance (n:Int):Decidable (jB n):=by unfold jB;infer_instance
def e0 (v:TEnv):Int:=nth v.2.2.1 0 0
def e1 (v:TEnv):Int:=nth v.2.2.1 1 0
def qdB (v:TEnv):Prop:=(v.1=1∨v.1=2)∧jB (e0 v)∧jB (e1 v)∧jB v.2.2.2.2.1∧(v.2.1=0∨v.2.1=1)∧(0≤v.2.2.2.1∧v.2.2.2.1≤2147483647)∧1≤v.2.2.2.2.2.1.length∧v.2.2.2.2.2.1.length≤900
theorem qbG (n hi:Int):qaM (n,hi,())=some (D (0≤n∧n≤hi),()):=by
 unfold qaM
 simp only [go_sem,Int.reduceToNat]
theorem yR (n:Int):kB (n,())=some (D (jB n),()):=by
 unfold kB jB
 simp only [go_sem,Int.reduceToNat]
theorem qi8 (v:TEnv):qhA (v,())=some (D (qdB v),()):=by
 obtain ⟨k,d,e,g,s,b,t,⟨⟩⟩:=v
 unfold qhA qdB e0 e1
 dsimp only
 by_cases hk:k=1∨k=2
 ·refine (qG (a:=(false,())) (by rcases hk with rfl | rfl <;> rfl)).trans ?_
  refine (qB rfl).trans ((qH rfl).trans ((qH rfl).trans ?_))
  rw [show nat 0=0 from rfl,show nat 1=1 from rfl]
  generalize nth e 0 0=x
  generalize nth e 1 0=y
  generalize hf:(fun (x_1:Bool×Int×Unit)=>(_:Option (LS (Bool×Int×Unit) (Bool×Unit))))=f
  have key:=qC6 (f:=f) [x,y,s] (fun i=>(false,(i:Int),())) 0 ((false,()):Bool×Unit) jB (fun i h hp => ?_) (fun i h hp => ?_) ?_
  ·rcases key with ⟨h,hl⟩ | ⟨h,hl⟩
   ·refine (zH (show loop f (false,0,())=_ from hl)).trans ?_
    refine (qH g62).trans ?_
    have h1:=h x (by simp)
    have h2:=h y (by simp)
    have h3:=h s (by simp)
    simp only [go_sem,Int.reduceToNat,qbG]
    refine vZ ?_
    simp only [hk,h1,h2,h3,true_and]
    omega
   ·refine (zH (show loop f (false,0,())=_ from hl)).trans ?_
    rw [D_f (fun hc=>h fun z hz => ?_)]
    ·rfl
    ·simp only [List.mem_cons,List.not_mem_nil,or_false] at hz
     rcases hz with rfl | rfl | rfl
     ·exact hc.2.1
     ·exact hc.2.2.1
     ·exact hc.2.2.2.1
  ·subst hf
   have h3:i < 3:=h
   have hi':i64 (iadd (i:Int) 1)=((i+1:Nat):Int):=i64n (by show (i:Int)+1=_;omega) (by omega)
   refine (qE (by simp only [go_sem,Int.reduceToNat];omega)).trans ?_
   refine (qH (by simp only [go_sem,Int.reduceToNat];omega)).trans ?_
   dsimp only
   rw [hi',qZ,qL h,qbG,D_t (show 0≤[x,y,s][i]∧[x,y,s][i]≤4611686018427387904 from hp)];rfl
  ·subst hf
   have h3:i < 3:=h
   refine (qE (by simp only [go_sem,Int.reduceToNat];omega)).trans ?_
   refine (qH (by simp only [go_sem,Int.reduceToNat];omega)).trans ?_
   dsimp only
   rw [qZ,qL h,qbG,D_f (show ¬ (0≤[x,y,s][i]∧[x,y,s][i]≤4611686018427387904) from hp)];rfl
  ·subst hf
   exact qB rfl
 ·rw [D_f (fun h=>hk h.1)]
  simp only [not_or] at hk
  obtain ⟨h1,h2⟩:=hk
  refine (qG (a:=(true,())) (by simp only [go_sem,Int.reduceToNat,h1,h2])).trans ?_
  rfl
theorem qfI (v:TEnv):qaS (v,())=some (D (qdB v),()):=by
 obtain ⟨k,d,e,g,s,b,t,⟨⟩⟩:=v
 unfold qaS qdB e0 e1
 dsimp only
 refine (qH rfl).trans ?_
 rw [yR]
 refine (qG rfl).trans ?_
 refine (qH rfl).trans ?_
 rw [yR]
 refine (qG rfl).trans ?_
 rw [yR]
 refine (qG rfl).trans ?_
 dsimp only
 rw [show nat 0=0 from rfl,show nat 1=1 from rfl]
 by_cases h1:jB (nth e 0 0)∧jB (nth e 1 0)∧jB s
 ·obtain ⟨a1,a2,a3⟩:=h1
  rw [D_t a1,D_t a2,D_t a3]
  by_cases hk:k=1
  ·subst hk
   by_cases hd:d=0
   ·subst hd
    simp only [go_sem,Int.reduceToNat];refine vZ ?_;simp only [a1,a2,a3,true_and];omega
   ·by_cases hd':d=1
    ·subst hd'
     simp only [go_sem,Int.reduceToNat];refine vZ ?_;simp only [a1,a2,a3,true_and];omega
    ·rw [D_f (p:=_∧_) (fun h=>by have:=h.2.2.2.2.1;omega)];simp (disch:=omega) only [go_sem,Int.reduceToNat]
  ·by_cases hk':k=2
   ·subst hk'
    by_cases hd:d=0
    ·subst hd
     simp only [go_sem,Int.reduceToNat];refine vZ ?_;simp only [a1,a2,a3,true_and];omega
    ·by_cases hd':d=1
     ·subst hd'
      simp only [go_sem,Int.reduceToNat];refine vZ ?_;simp only [a1,a2,a3,true_and];omega
     ·rw [D_f (p:=_∧_) (fun h=>by have:=h.2.2.2.2.1;omega)];simp (disch:=omega) only [go_sem,Int.reduceToNat]
   ·rw [D_f (p:=_∧_) (fun h=>by have:=h.1;omega)];simp (disch:=omega) only [go_sem,Int.reduceToNat]
 ·rw [D_f (p:=(k=1∨k=2)∧_) (fun h=>h1 ⟨h.2.1,h.2.2.1,h.2.2.2.1⟩)]
  by_cases c1:jB (nth e 0 0)
  ·by_cases c2:jB (nth e 1 0)
   ·have c3:¬ jB s:=fun h=>h1 ⟨c1,c2,h⟩
    rw [D_t c1,D_t c2,D_f c3];rfl
   ·rw [D_t c1,D_f c2];rfl
  ·rw [D_f c1];rfl
def bigN (w:Nat) (n:Int):BB:=ps 256 byt n.toNat w
theorem qU (w:Nat) (n:Int):(bigN w n).length=w:=zK _ _ _ _
def zA (v:TEnv):BB:=bigN 1 v.1++bigN 1 v.2.1++bigN 8 (e0 v)++bigN 8 (e1 v)++bigN 4 v.2.2.2.1++bigN 8 v.2.2.2.2.1++v.2.2.2.2.2.1
theorem vN (v:TEnv):(zA v).length=30+v.2.2.2.2.2.1.length:=by unfold zA;simp only [List.length_append,qU]
theorem qIa {n:Int} {w:Nat} (h1:1≤w) (h8:w≤8) (h0:0≤n) (h:n < 256 ^ w) (hn:n≤9223372036854775807):qe6 (n,(w:Int),())=some (bigN w n,0,()):=by
 rw [qz0 _ _ hn,if_pos ⟨by omega,by omega,h0,by rw [Int.toNat_natCast];exact h⟩,Int.toNat_natCast];rfl
theorem qc6 {n:Int} {w:Nat} (h1:1≤w) (h8:w≤8) (h0:0≤n) (h:n < 256 ^ w) (hn:n≤9223372036854775807):jP (n,(w:Int),())=some (bigN w n,()):=by
 unfold jP
 dsimp only
 rw [qb8 _ _ hn,if_pos ⟨by omega,by omega,h0,by rw [Int.toNat_natCast];exact h⟩,Int.toNat_natCast];rfl
theorem qpB {f:Int×BB×Unit→Option (LS (Int×BB×Unit) Unit)} (w:Nat) (l:List Int) (acc:BB) (h1:1≤w) (h8:w≤8) (hl:l.length≤10) (ha:acc.length≤1000) (h:∀ n∈l,0≤n∧n < 256 ^ w∧n≤9223372036854775807)
  (hf:f=fun (x_1:Int×BB×Unit)=>sel (lt x_1.1 (len l)) (ck (inB x_1.1 (len l)) (ob (qe6 (nth l (nat x_1.1) 0,(w:Int),())) fun (a:BB×Int×Unit)=>ck (rm 1 (nadd (ln x_1.2.1) (ln a.1))) (some (LS.nx (i64 (iadd x_1.1 1),app x_1.2.1 a.1,()))))) (some (LS.ex 0 (x_1.1,x_1.2.1,())))) :
  loop f (0,acc,())=some (.ex 0 ((l.length:Int),acc++l.flatMap (bigN w),())):=by
 have hL:∀ i,((l.take i).flatMap (bigN w)).length≤8*i:=by
  intro i
  rw [List.length_flatMap]
  have:((l.take i).map fun a=>(bigN w a).length)=(l.take i).map fun _=>w:=List.map_congr_left fun a _=>qU w a
  rw [this,List.map_const',List.sum_replicate_nat,List.length_take]
  have:min i l.length*w≤i*8:=Nat.mul_le_mul (Nat.min_le_left _ _) h8
  omega
 have step:∀ i:Nat,i < l.length→f ((i:Int),acc++(l.take i).flatMap (bigN w),())=some (.nx (((i+1:Nat):Int),acc++(l.take (i+1)).flatMap (bigN w),())):=by
  intro i hi
  subst hf
  have hi':i64 (iadd (i:Int) 1)=((i+1:Nat):Int):=i64n (by show (i:Int)+1=_;omega) (by omega)
  obtain ⟨q1,q2,q3⟩:=h l[i] (List.getElem_mem hi)
  have hLi:=hL i
  refine (qE (by simp only [go_sem,Int.reduceToNat];omega)).trans ?_
  refine (qH (by simp only [go_sem,Int.reduceToNat];omega)).trans ?_
  dsimp only
  rw [hi',qZ,qL hi,qIa h1 h8 q1 q2 q3]
  refine (qG rfl).trans ?_
  have hb:=qU w l[i]
  refine (qH (by simp only [go_sem,Int.reduceToNat];simp only [List.length_append,qU];omega)).trans ?_
  rw [List.take_succ_eq_append_getElem hi,List.flatMap_append,List.flatMap_cons,List.flatMap_nil,List.append_nil]
  unfold app
  rw [List.append_assoc]
 have hend:∀ u,f ((l.length:Int),u,())=some (.ex 0 ((l.length:Int),u,())):=by subst hf;intro u;exact qB (by simp only [go_sem,Int.reduceToNat];omega)
 have:=(qM (f:=f) (fun i=>((i:Int),acc++(l.take i).flatMap (bigN w),())) l.length step 0 (Nat.zero_le _)).trans (qT (hend _))
 rw [List.take_of_length_le (Nat.le_refl _),List.take_zero,List.flatMap_nil,List.append_nil] at this
 exact this
theorem qi9 (v:TEnv) (hv:qdB v):qhB (v,())=some (zA v,0,()):=by
 unfold qhB
 dsimp only
 rw [qi8,D_t hv]
 refine (qG rfl).trans ?_
 refine (qB rfl).trans ?_
 obtain ⟨k,d,e,g,s,b,t,⟨⟩⟩:=v
 unfold zA
 obtain ⟨h1,h2,h3,h4,h5,h6,h7,h8⟩:=hv
 unfold e0 jB at h2
 unfold e1 jB at h3
 unfold jB at h4
 unfold e0 e1
 dsimp only at *
 rw [show nat 0=0 from rfl,show nat 1=1 from rfl]
 generalize nth e 0 0=x at h2
 generalize nth e 1 0=y at h3
 refine (zH (qpB 1 [k,d] [] (by omega) (by omega) (by simp) (by simp) (fun n hn => ?_) rfl)).trans ?_
 ·simp only [List.mem_cons,List.not_mem_nil,or_false] at hn
  rcases hn with rfl | rfl <;> omega
 refine (qH g62).trans ((qH rfl).trans ((qH rfl).trans ?_))
 refine (zH (qpB 8 [x,y] _ (by omega) (by omega) (by simp) (by simp [qU]) (fun n hn => ?_) rfl)).trans ?_
 ·simp only [List.mem_cons,List.not_mem_nil,or_false] at hn
  rcases hn with rfl | rfl <;> omega
 refine (qH g62).trans ?_
 refine (zH (qpB 4 [g] _ (by omega) (by omega) (by simp) (by simp [qU]) (fun n hn => ?_) rfl)).trans ?_
 ·simp only [List.mem_cons,List.not_mem_nil,or_false] at hn
  subst hn;omega
 refine (qH g62).trans ?_
 refine (zH (qpB 8 [s] _ (by omega) (by omega) (by simp) (by simp [qU]) (fun n hn => ?_) rfl)).trans ?_
 ·simp only [List.mem_cons,List.not_mem_nil,or_false] at hn
  subst hn;omega
 refine (qH g62).trans ?_
 dsimp only
 refine (qH (by simp only [go_sem,Int.reduceToNat];simp [qU];omega)).trans ?_
 unfold app
 simp only [List.flatMap_cons,List.flatMap_nil,List.append_nil,List.nil_append,List.append_assoc]
theorem qoQ (v:TEnv) (hv:qdB v):qaU (v,())=some (zA v,0,()):=by
 unfold qaU
 dsimp only
 rw [qfI,D_t hv]
 refine (qG rfl).trans ?_
 refine (qB rfl).trans ?_
 obtain ⟨k,d,e,g,s,b,t,⟨⟩⟩:=v
 unfold zA
 obtain ⟨h1,h2,h3,h4,h5,h6,h7,h8⟩:=hv
 unfold e0 jB at h2
 unfold e1 jB at h3
 unfold jB at h4
 unfold e0 e1
 dsimp only at *
 rw [show nat 0=0 from rfl,show nat 1=1 from rfl]
 generalize nth e 0 0=x at h2
 generalize nth e 1 0=y at h3
 rw [show jP (k,1,())=_ from qc6 (w:=1) (by omega) (by omega) (by omega) (by omega) (by omega)]
 refine (qG rfl).trans ?_
 rw [show jP (d,1,())=_ from qc6 (w:=1) (by omega) (by omega) (by omega) (by omega) (by omega)]
 refine (qG rfl).trans ?_
 have l1:=qU 1 k
 have l2:=qU 1 d
 refine (qH (by simp only [go_sem,Int.reduceToNat];omega)).trans ?_
 refine (qH rfl).trans ?_
 rw [show jP (x,8,())=_ from qc6 (w:=8) (by omega) (by omega) (by omega) (by omega) (by omega)]
 refine (qG rfl).trans ?_
 refine (qH (by simp only [go_sem,Int.reduceToNat];simp [qU])).trans ?_
 refine (qH rfl).trans ?_
 rw [show jP (y,8,())=_ from qc6 (w:=8) (by omega) (by omega) (by omega) (by omega) (by omega)]
 refine (qG rfl).trans ?_
 refine (qH (by simp only [go_sem,Int.reduceToNat];simp [qU])).trans ?_
 rw [show jP (g,4,())=_ from qc6 (w:=4) (by omega) (by omega) (by omega) (by omega) (by omega)]
 refine (qG rfl).trans ?_
 refine (qH (by simp only [go_sem,Int.reduceToNat];simp [qU])).trans ?_
 rw [show jP (s,8,())=_ from qc6 (w:=8) (by omega) (by omega) (by omega) (by omega) (by omega)]
 refine (qG rfl).trans ?_
 refine (qH (by simp only [go_sem,Int.reduceToNat];simp [qU])).trans ?_
 refine (qH (by simp only [go_sem,Int.reduceToNat];simp [qU];omega)).trans ?_
 rfl
def qkT (v:TEnv):Prop:=qdB v∧v.2.2.2.2.2.2.1.length=16
def vY (v:TEnv) (t:BB):TEnv:=(v.1,v.2.1,v.2.2.1,v.2.2.2.1,v.2.2.2.2.1,v.2.2.2.2.2.1,t,())
theorem qs7 (v:TEnv):qlT (v,())=some (D (qkT v),()):=by
 unfold qlT qkT
 rw [qi8]
 simp only [go_sem,Int.reduceToNat]
 exact vZ (and_congr_right fun _=>by omega)
theorem qoP (v:TEnv):qaT (v,())=some (D (qkT v),()):=by
 unfold qaT qkT
 rw [qfI]
 simp only [go_sem,Int.reduceToNat]
 exact vZ (and_congr_right fun _=>by omega)
theorem qs6 (v:TEnv) (hv:qkT v):qlS (v,())=some (zA v++v.2.2.2.2.2.2.1,0,()):=by
 unfold qlS
 dsimp only
 rw [qs7,D_t hv]
 refine (qG rfl).trans ?_
 refine (qB rfl).trans ?_
 rw [qi9 _ hv.1]
 refine (qG rfl).trans ?_
 have h1:=vN v
 have h2:=hv.2
 have h3:=hv.1.2.2.2.2.2.2.2
 refine (qH (by simp only [go_sem,Int.reduceToNat];omega)).trans ?_
 rfl
abbrev WT:=Int×List UInt64×Unit
abbrev qKi:=Int×BB×Unit
abbrev EvT:=Int×List Int×Int×BB×Unit
structure En' where
 id:Int
 key:BB
 ph:Int
 store:ST
 power:Int
 own:Int
 oth:Int
 seen:Int
 seq:Int
 win:WT
 ring:qdZ
 ask:TAsk
 stan:Int
 day:Int
 queue:List BB
 hub:THub
 out:List qKi
 got:List EvT
 cnt:List Int
def En'.t (e:En'):TEnd:=(e.id,e.key,e.ph,e.store,e.power,e.own,e.oth,e.seen,e.seq,e.win,e.ring,e.ask,e.stan,e.day,e.queue,e.hub,e.out,e.got,e.cnt,())
structure Si where
 e:En'
 p:wO
def Si.t (s:Si):y5:=(s.e.t,s.p,())
def noW:WT:=(0,[u64 0,u64 0,u64 0,u64 0,u64 0,u64 0,u64 0,u64 0,u64 0,u64 0,u64 0,u64 0,u64 0,u64 0,u64 0,u64 0],())
structure okE (n:Nat) (e:En'):Prop where
 id:e.id=0∨e.id=1
 key:e.key.length≤1000
 ph:0≤e.ph∧e.ph≤8
 store:qKG e.store
 own:jB e.own
 oth:jB e.oth
 seq:jB e.seq
 ring:qt0 e.ring
 up:e.hub.1.length=4
 next:0≤e.hub.2.2.2.1∧e.hub.2.2.2.1 < 4
 out:e.out.length≤n
 got:e.got.length≤n
 cnt:e.cnt.length=4
 win:e.win.2.1.length=16
 feed:e.hub.2.1.length=4
 life:e.hub.2.2.1.length=4
 queue:e.queue.length≤1000
structure okS (n:Nat) (s:Si):Prop where
 e:okE n s.e
 p:s.p.2.1.length≤n
def qdC (e:En'):List Int:=if e.id=0 then [e.own,e.oth] else if e.id=1 then [e.oth,e.own] else [0,0]
theorem qdL (hi n:Int):qa9 (hi,[n],())=some (D (0≤n∧n≤hi),()):=by
 unfold qa9
 dsimp only
 by_cases h:0≤n∧n≤hi
 ·rw [D_t h]
  refine (zH (vR (y:=(false,1,())) ?_)).trans ((zH (qT (y:=(false,1,())) (k:=0) rfl)).trans rfl)
  refine (qE rfl).trans ((qH rfl).trans ?_)
  dsimp only
  rw [show nth [n] (nat 0) 0=n from rfl]
  simp (disch:=omega) only [go_sem,Int.reduceToNat]
  rfl
 ·rw [D_f h]
  refine (zH (qgR (r:=(false,())) ?_)).trans rfl
  refine (qE rfl).trans ((qH rfl).trans ?_)
  dsimp only
  rw [show nth [n] (nat 0) 0=n from rfl]
  refine (qG (a:=(true,())) (by simp only [go_sem,Int.reduceToNat];try exact qCB (by omega))).trans ?_
  rfl
theorem qcC (e:En'):kY (e.t,())=some (qdC e,()):=by
 unfold kY qdC
 dsimp only [En'.t]
 rw [qdL]
 by_cases h0:e.id=0
 ·rw [h0,D_t (by omega),if_pos rfl];rfl
 ·rw [if_neg h0]
  by_cases h1:e.id=1
  ·rw [h1,D_t (by omega),if_pos rfl];rfl
  ·rw [if_neg h1,D_f (by omega)];rfl
theorem qf7 (e:En'):qcV (e.t,())=some (qdC e,()):=by
 unfold qcV qdC
 dsimp only [En'.t]
 by_cases h0:e.id=0
 ·rw [h0,if_pos rfl];rfl
 ·rw [if_neg h0]
  by_cases h1:e.id=1
  ·rw [h1,if_pos rfl];rfl
  ·rw [if_neg h1];simp (disch:=omega) only [go_sem,Int.reduceToNat]
def qGV (key:BB):BB:=qrG key [98,97,115,101] []
theorem qAL (key:BB):(qGV key).length=32:=qjB _ _ _
theorem qs0 (key:BB) (h:key.length≤1000000):qgW (key,())=some (qGV key,()):=by
 unfold qgW
 dsimp only
 rw [qqU _ _ _ h (by decide) (by decide) (by simp [none'])];rfl
theorem qp3 (key:BB) (h:key.length≤1000000):qh0 (key,())=some (qGV key,()):=by
 unfold qh0
 dsimp only
 rw [qc3 _ _ _ h (by decide) (by decide) (by simp [none'])];rfl
def keyD (key:BB) (p:List Int) (gen:Int) (nonce:BB):BB :=
 if jB (nth p 0 0)∧jB (nth p 1 0)∧0≤gen∧gen≤2147483647 then qrG key [108,105,110,107] [bigN 8 (nth p 0 0),bigN 8 (nth p 1 0),bigN 4 gen,nonce] else []
theorem qcT (n:Int):wC (n,())=some (D (jB n),()):=by
 unfold wC jB
 simp only [go_sem,Int.reduceToNat]
theorem qJc {n:Int} {w:Int} (hw:w=8∨w=4) (h:0≤n∧n < 256 ^ w.toNat) (hn:n≤9223372036854775807):kS (n,w,())=some (bigN w.toNat n,0,()):=by
 rw [qb8 _ _ hn,if_pos ⟨by omega,by omega,h.1,h.2⟩];rfl
theorem qF8 {a b:BB} {c nonce:BB} (ha:a.length=8) (hb:b.length=8) (hc:c.length=4) (hn:nonce.length≤1000):∀ p∈[a,b,c,nonce],p.length≤1000:=by
 intro p hp
 simp only [List.mem_cons,List.not_mem_nil,or_false] at hp
 rcases hp with rfl | rfl | rfl | rfl <;> omega
theorem p8 {n:Int} (h:jB n):0≤n∧n < 256 ^ (8:Int).toNat:=⟨h.1,by have:=h.2;show n < 256 ^ 8;omega⟩
theorem qsM (key:BB) (p:List Int) (gen:Int) (nonce:BB) (hk:key.length≤1000000) (hn:nonce.length≤1000):qf8 (key,p,gen,nonce,())=some (keyD key p gen nonce,()):=by
 unfold qf8 keyD
 refine (qH rfl).trans ?_
 dsimp only
 rw [show nat 0=0 from rfl,show nat 1=1 from rfl]
 generalize nth p 0 0=x
 generalize nth p 1 0=y
 rw [qcT]
 refine (qG rfl).trans ((qH rfl).trans ?_)
 rw [qcT]
 refine (qG rfl).trans ?_
 by_cases h:jB x∧jB y∧0≤gen∧gen≤2147483647
 ·obtain ⟨h1,h2,h3,h4⟩:=h
  rw [if_pos ⟨h1,h2,h3,h4⟩]
  refine (qG (a:=(false,())) (by rw [D_t h1,D_t h2];simp only [go_sem,Int.reduceToNat];try exact qmL (by omega))).trans ?_
  refine (qB rfl).trans ((qH rfl).trans ?_)
  rw [qJc (.inl rfl) (p8 h1) (by have:=h1.2;omega)]
  refine (qG rfl).trans ((qH rfl).trans ?_)
  rw [qJc (.inl rfl) (p8 h2) (by have:=h2.2;omega)]
  refine (qG rfl).trans ?_
  rw [qJc (.inr rfl) ⟨h3,by show gen < 256 ^ 4;omega⟩ (by omega)]
  refine (qG rfl).trans ?_
  dsimp only
  rw [show (8:Int).toNat=8 from rfl,show (4:Int).toNat=4 from rfl,qc3 key [108,105,110,107] _ hk (by simp) (by simp) (qF8 (qU _ _) (qU _ _) (qU _ _) hn)];rfl
 ·rw [if_neg h]
  refine (qG (a:=(true,())) ?_).trans rfl
  by_cases h1:jB x
  ·by_cases h2:jB y
   ·rw [D_t h1,D_t h2]
    have h3:¬ (0≤gen∧gen≤2147483647):=fun h3=>h ⟨h1,h2,h3⟩
    simp only [go_sem,Int.reduceToNat];try exact qCB (by omega)
   ·rw [D_t h1,D_f h2];rfl
  ·rw [D_f h1];rfl
theorem qBq {key:BB} {p:List Int} {gen:Int} {nonce:BB} (h:jB (nth p 0 0)∧jB (nth p 1 0)∧0≤gen∧gen≤2147483647):(keyD key p gen nonce).length=32:=by
 unfold keyD;rw [if_pos h,qjB]
def qHL (e:En') (p:Int):En':={ e with ph:=p,own:=0,oth:=0,seq:=0,win:=noW,ring:=noR,ask:=noA,queue:=[],got:=if z4 e.ph then e.got++[(5,qdC e,0,[],())] else e.got }
theorem qEe (l:List EvT):zN (l,())=some (l,()):=by
 unfold zN
 dsimp only
 rw [qAX]
 exact qH (qBK l)
theorem qEf (l:List qKi):zR (l,())=some (l,()):=by
 unfold zR
 dsimp only
 rw [qAX]
 exact qH (qBK l)
theorem qsN (e:En') (k:Int) (p:List Int) (s:Int) (b:BB) (hg:e.got.length≤1000000):qkX (e.t,k,p,s,b,())=some (({ e with got:=e.got++[(k,p,s,b,())] }:En').t,()):=by
 unfold qkX
 dsimp only [En'.t]
 refine (qH (by simp only [go_sem,Int.reduceToNat];omega)).trans ?_
 refine (qH (by simp only [go_sem,Int.reduceToNat];simp;omega)).trans ?_
 rfl
theorem qp2 (e:En') (p:Int) (hg:e.got.length≤1000000):qhZ (e.t,p,())=some ((qHL e p).t,()):=by
 unfold qhZ qHL
 rw [show (e.t,p,()).1.2.2.1=e.ph from rfl,qcW]
 refine (qG rfl).trans ?_
 by_cases h:z4 e.ph
 ·rw [D_t h,if_pos h]
  refine (qE rfl).trans ?_
  dsimp only
  rw [qf7]
  refine (qG rfl).trans ?_
  dsimp only
  rw [show (none' UInt8:BB)=[] from rfl,qsN _ _ _ _ _ hg]
  rfl
 ·rw [D_f h,if_neg h];rfl
theorem bq_f {a b:Int} (h:a=b):bnot (beq a b)=false:=by rw [qfD h];rfl
theorem bq_t {a b:Int} (h:¬ a=b):bnot (beq a b)=true:=by rw [wJ h];rfl
theorem qmQ {r:qdZ} (h:qt0 r):0≤r.1.1∧r.1.1≤2147483647∧r.1.2.1.length≤32:=by
 rcases h with rfl | ⟨⟨h1,h2,h3⟩,_⟩
 ·exact ⟨by decide,by decide,by decide⟩
 ·omega
def qm7 (s:Si) (v:TEnv) (key:BB):Si×Int :=
 if (qaZ s.e.hub).2.2.1=0 then
  (⟨{ s.e with hub:=(qaZ s.e.hub).1,out:=s.e.out++[((qaZ s.e.hub).2.1,yN (zA v++kN key (zA v)),())] },ptag s.p key (zA v)⟩,0)
 else (s,(qaZ s.e.hub).2.2.1)
theorem qi4 {s:Si} {n:Nat} (hs:okS n s) (hn:n≤900000) (v:TEnv) (hv:qdB v) (key:BB) (hk:key.length≤1000000):qgV (s.t,v,key,())=some ((qm7 s v key).1.t,(qm7 s v key).2,()):=by
 unfold qgV qm7
 dsimp only [Si.t,En'.t]
 have hp:=hs.p
 have ho:=hs.e.out
 rw [qvZ _ hs.e.up hs.e.next]
 refine (qG rfl).trans ?_
 by_cases hh:(qaZ s.e.hub).2.2.1=0
 ·rw [if_pos hh]
  refine (qB (by simp only [go_sem,Int.reduceToNat];exact not_not_intro hh)).trans ?_
  rw [qi9 _ hv]
  refine (qG rfl).trans ?_
  have hb:=hv.2.2.2.2.2.2
  have hl:=vN v
  dsimp only
  rw [qvE _ _ _ (by omega) hk (by omega)]
  refine (qG rfl).trans ?_
  dsimp only
  have ht:=qeA key (zA v)
  rw [qs6 (v.1,v.2.1,v.2.2.1,v.2.2.2.1,v.2.2.2.2.1,v.2.2.2.2.2.1,kN key (zA v),v.2.2.2.2.2.2.2) ⟨hv,ht⟩]
  refine (qG rfl).trans ?_
  dsimp only
  rw [show zA (v.1,v.2.1,v.2.2.1,v.2.2.2.1,v.2.2.2.2.1,v.2.2.2.2.2.1,kN key (zA v),v.2.2.2.2.2.2.2)=zA v from rfl,qq8 _ (by rw [List.length_append];omega)]
  refine (qG rfl).trans ?_
  rw [qEf]
  refine (qG rfl).trans ?_
  refine (qH (by simp only [go_sem,Int.reduceToNat];simp;omega)).trans ?_
  rfl
 ·rw [if_neg hh]
  refine (qE (by simp only [go_sem,Int.reduceToNat];exact hh)).trans ?_
  rfl
def j9 (e:En') (body:BB):TEnv:=(2,e.id,qdC e,e.ring.1.1,e.seq,body,[],())
def setV (e:En') (other:Int) (body:BB):TEnv:=(1,e.id,qdC { e with oth:=other },0,0,body,[],())
def qg8 (b:BB):Prop:=1≤b.length∧b.length≤900
instance (b:BB):Decidable (qg8 b):=by unfold qg8;infer_instance
theorem qvH {e:En'} (h1:jB e.own) (h2:jB e.oth):jB (nth (qdC e) 0 0)∧jB (nth (qdC e) 1 0):=by
 unfold qdC
 split
 ·exact ⟨h1,h2⟩
 split
 ·exact ⟨h2,h1⟩
 ·exact ⟨by decide,by decide⟩
theorem qpW {n:Nat} {e:En'} (h:okE n e) {body:BB} (hb:qg8 body):qdB (j9 e body):=by
 have hr:=qmQ h.ring
 exact ⟨.inr rfl,(qvH h.own h.oth).1,(qvH h.own h.oth).2,h.seq,h.id,⟨hr.1,hr.2.1⟩,hb.1,hb.2⟩
theorem qDP {n:Nat} {e:En'} (h:okE n e) {o:Int} (ho:jB o) {body:BB} (hb:qg8 body):qdB (setV e o body):=by
 have:=qvH (e:={ e with oth:=o }) h.own ho
 exact ⟨.inl rfl,this.1,this.2,by show jB 0;decide,h.id,⟨by show (0:Int)≤0;decide,by show (0:Int)≤2147483647;decide⟩,hb.1,hb.2⟩
def qd7 (s:Si) (body:BB):Si×Int :=
 if ¬ qg8 body then (s,1) else if ¬ z4 s.e.ph then (s,7) else if s.e.seq=4611686018427387904 then (s,10)
 else let r:=qm7 s (j9 s.e body) s.e.ring.1.2.1;if r.2=0 then (⟨{ r.1.e with seq:=r.1.e.seq+1 },r.1.p⟩,0) else r
theorem qzY (s:Si) (v:TEnv) (key:BB):(qm7 s v key).1.e.seq=s.e.seq:=by unfold qm7;split <;> rfl
theorem qcB (b:BB):qgU (b,())=some (D (qg8 b),()):=by
 unfold qgU qg8
 simp only [go_sem,Int.reduceToNat]
 exact vZ (by omega)
theorem qEY {s:Si} {r:Si×Int} (hseq:jB r.1.e.seq) (h10:¬ r.1.e.seq=4611686018427387904) :
    (ob (some (r.1.t,r.2,())) fun (a:y5×Int×Unit) =>
   sel (beq a.2.1 0) (some (((a.1.1.1,a.1.1.2.1,a.1.1.2.2.1,a.1.1.2.2.2.1,a.1.1.2.2.2.2.1,a.1.1.2.2.2.2.2.1,a.1.1.2.2.2.2.2.2.1,a.1.1.2.2.2.2.2.2.2.1,i64 (iadd a.1.1.2.2.2.2.2.2.2.2.1 1),a.1.1.2.2.2.2.2.2.2.2.2),a.1.2),a.2.1,())) (some (a.1,a.2.1,()))) =
      some ((if r.2=0 then (⟨{ r.1.e with seq:=r.1.e.seq+1 },r.1.p⟩,0) else r:Si×Int).1.t,(if r.2=0 then (⟨{ r.1.e with seq:=r.1.e.seq+1 },r.1.p⟩,0) else r:Si×Int).2,()):=by
  obtain ⟨⟨e,p⟩,c⟩:=r
  refine (qG rfl).trans ?_
  by_cases h:c=0
  · subst h
    rw [if_pos rfl]
    refine (qE rfl).trans ?_
    dsimp only [Si.t,En'.t] at hseq ⊢
    obtain ⟨q1,q2⟩:=hseq
    rw [show i64 (iadd e.seq 1)=e.seq+1 from z0 (by show -9223372036854775808≤e.seq+1;omega) (by show e.seq+1≤9223372036854775807;omega)]
  · rw [if_neg h]
    refine (qB (by simp only [go_sem,Int.reduceToNat];exact h)).trans ?_
    rfl
theorem y9 {s:Si} {n:Nat} (hs:okS n s) (hn:n≤900000) (b:BB):kX (s.t,b,())=some ((qd7 s b).1.t,(qd7 s b).2,()):=by
 unfold kX qd7
 dsimp only
 rw [qcB]
 refine (qG rfl).trans ?_
 by_cases hb:qg8 b
 ·rw [D_t hb,if_neg (not_not_intro hb)]
  refine (qB rfl).trans ?_
  rw [show s.t.1.2.2.1=s.e.ph from rfl,qmU]
  refine (qG rfl).trans ?_
  by_cases hl:z4 s.e.ph
  ·rw [D_t hl,if_neg (not_not_intro hl)]
   refine (qB rfl).trans ?_
   by_cases hq:s.e.seq=4611686018427387904
   ·rw [if_pos hq]
    exact qE (by simp only [go_sem,Int.reduceToNat];exact hq)
   ·rw [if_neg hq]
    refine (qB (by simp only [go_sem,Int.reduceToNat];exact hq)).trans ?_
    rw [show kY (s.t.1,())=_ from qcC s.e]
    refine (qG rfl).trans ?_
    have hv:=qpW hs.e hb
    have hk:=(qmQ hs.e.ring).2.2
    have hem:=qi4 hs hn _ hv s.e.ring.1.2.1 (by omega)
    have h1:=qzY s (j9 s.e b) s.e.ring.1.2.1
    exact Eq.trans (z6 hem) (qEY (s:=s) (r:=qm7 s (j9 s.e b) s.e.ring.1.2.1) (by rw [h1];exact hs.e.seq) (by rw [h1];exact hq))
  ·rw [D_f hl,if_pos hl];rfl
 ·rw [D_f hb,if_pos hb];rfl
def qtY (s:Si) (other:Int) (body:BB):Si×Int:=if jB other∧qg8 body then qm7 s (setV s.e other body) (qGV s.e.key) else (s,1)
theorem qqZ {s:Si} {n:Nat} (hs:okS n s) (hn:n≤900000) (o:Int) (b:BB):qiG (s.t,o,b,())=some ((qtY s o b).1.t,(qtY s o b).2,()):=by
 unfold qiG qtY
 dsimp only
 rw [qdL]
 refine (qG rfl).trans ?_
 by_cases hb:jB o∧qg8 b
 ·rw [if_pos hb,D_t (show 0≤o∧o≤4611686018427387904 from hb.1)]
  refine (qG (a:=(false,())) ((qB rfl).trans (by rw [qcB,D_t hb.2];rfl))).trans ?_
  refine (qB rfl).trans ?_
  have hp:=qcC { s.e with oth:=o }
  refine (z6 (show kY ((s.t.1.1,s.t.1.2.1,s.t.1.2.2.1,s.t.1.2.2.2.1,s.t.1.2.2.2.2.1,s.t.1.2.2.2.2.2.1,o,s.t.1.2.2.2.2.2.2.2),())=_ from hp)).trans ?_
  refine (qG rfl).trans ?_
  have hk:=hs.e.key
  rw [show qgW (s.t.1.2.1,())=_ from qs0 s.e.key (by omega)]
  refine (qG rfl).trans ?_
  have hem:=qi4 hs hn _ (qDP hs.e hb.1 hb.2) (qGV s.e.key) (by rw [qAL];omega)
  exact (z6 hem).trans rfl
 ·rw [if_neg hb]
  refine (qG (a:=(true,())) ?_).trans rfl
  by_cases h1:jB o
  ·rw [D_t (show 0≤o∧o≤4611686018427387904 from h1)]
   refine (qB rfl).trans ?_
   rw [qcB,D_f (fun h=>hb ⟨h1,h⟩)];rfl
  ·rw [D_f (show ¬ (0≤o∧o≤4611686018427387904) from h1)];rfl
def qLP (c:List Int) (i:Nat):List Int:=upd c i (i64 (iadd (nth c i 0) 1))
def qGF (s:Si) (i:Nat):Si:=⟨{ s.e with cnt:=qLP s.e.cnt i },s.p⟩
theorem qy9 (s:Si):kE (s.t,13,())=some ((qGF s 3).t,()):=by
 unfold kE
 exact (zH (qjW 5 rfl)).trans rfl
theorem qo9 {n m:Nat} {e:En'} (h:okE n e) (hm:n≤m):okE m e:={ h with out:=Nat.le_trans h.out hm,got:=Nat.le_trans h.got hm }
theorem qaB {n m:Nat} {s:Si} (h:okS n s) (hm:n≤m):okS m s:=⟨qo9 h.e hm,Nat.le_trans h.p hm⟩
theorem qCT (h:THub):(qaZ h).1.1=h.1:=by unfold qaZ;split <;> rfl
theorem qDY (h:THub):(qaZ h).1.2.1=h.2.1:=by unfold qaZ;split <;> rfl
theorem qDX (h:THub):(qaZ h).1.2.2.1=h.2.2.1:=by unfold qaZ;split <;> rfl
theorem qt2 {h:THub} (hn:0≤h.2.2.2.1∧h.2.2.2.1 < 4):0≤(qaZ h).1.2.2.2.1∧(qaZ h).1.2.2.2.1 < 4:=by
 unfold qaZ
 split
 ·exact hn
 ·rename_i c _
  show (0:Int)≤((c+1) % 4:Nat)∧(((c+1) % 4:Nat):Int) < 4
  omega
theorem qC1 {n:Nat} {s:Si} (h:okS n s) (v:TEnv) (key:BB):okS (n+1) (qm7 s v key).1:=by
 unfold qm7
 split
 ·refine ⟨{ h.e with up:=(by rw [← h.e.up];exact congrArg List.length (qCT s.e.hub)),next:=qt2 h.e.next,feed:=(by rw [← h.e.feed];exact congrArg List.length (qDY s.e.hub)),life:=(by rw [← h.e.life];exact congrArg List.length (qDX s.e.hub)),out := ?_,got:=Nat.le_succ_of_le h.e.got }, ?_⟩
  ·have:=h.e.out
   simp only [List.length_append,List.length_cons,List.length_nil];omega
  ·have:=qKL s.p key (zA v)
   have:=h.p
   show (ptag s.p key (zA v)).2.1.length≤n+1
   omega
 ·exact qaB h (by omega)
theorem qCZ {n:Nat} {s:Si} (h:okS n s) (b:BB):okS (n+1) (qd7 s b).1:=by
 unfold qd7
 split
 ·exact qaB h (by omega)
 split
 ·exact qaB h (by omega)
 split
 ·exact qaB h (by omega)
 ·rename_i h1 h2 h3
  have h4:=qC1 h (j9 s.e b) s.e.ring.1.2.1
  have h5:=qzY s (j9 s.e b) s.e.ring.1.2.1
  dsimp only
  split
  ·refine ⟨{ h4.e with seq := ?_ },h4.p⟩
   have:=h.e.seq
   show jB (_+1)
   rw [h5]
   unfold jB at *
   omega
  ·exact h4
theorem qFI {n:Nat} {s:Si} (h:okS n s) (o:Int) (b:BB):okS (n+1) (qtY s o b).1:=by
 unfold qtY
 split
 ·exact qC1 h _ _
 ·exact qaB h (by omega)
def quX (s:Si) (q:v8):Si:=⟨{ s.e with stan:=wU s.e.stan,ask:=(qsE q.2.1 (wU s.e.stan) (wrN (q.1,q.2.1,wU s.e.stan,q.2.2.2)).1).1 },s.p⟩
def qqJ (s:Si) (q:v8):Si :=
 if (wrN (q.1,q.2.1,wU s.e.stan,q.2.2.2)).2.1=0∧(qsE q.2.1 (wU s.e.stan) (wrN (q.1,q.2.1,wU s.e.stan,q.2.2.2)).1).2.1=0 then
  (if q.2.1=1 then (qtY (quX s q) 0 (wrN (q.1,q.2.1,wU s.e.stan,q.2.2.2)).1).1 else (qd7 (quX s q) (wrN (q.1,q.2.1,wU s.e.stan,q.2.2.2)).1).1)
 else s
theorem qmW {n:Nat} {s:Si} (h:okS n s) (q:v8):okS n (quX s q):=⟨{ h.e with },h.p⟩
theorem qFJ {n:Nat} {s:Si} (h:okS n s) (q:v8):okS (n+1) (qqJ s q):=by
 unfold qqJ
 split
 ·split
  ·exact qFI (qmW h q) _ _
  ·exact qCZ (qmW h q) _
 ·exact qaB h (by omega)
theorem qkF {s:Si} {n:Nat} (hs:okS n s) (hn:n≤900000) (q:v8):wV (s.t,q,())=some ((qqJ s q).t,()):=by
 unfold wV qqJ
 dsimp only
 rw [show s.t.1.2.2.2.2.2.2.2.2.2.2.2.2.1=s.e.stan from rfl,qxG]
 refine (qG rfl).trans ?_
 dsimp only
 rw [qgN]
 have hok:=qmW hs q
 have hset:=qqZ hok hn 0 (wrN (q.1,q.2.1,wU s.e.stan,q.2.2.2)).1
 have hsend:=y9 hok hn (wrN (q.1,q.2.1,wU s.e.stan,q.2.2.2)).1
 unfold quX at hset hsend ⊢
 generalize wrN (q.1,q.2.1,wU s.e.stan,q.2.2.2)=w at hset hsend ⊢
 obtain ⟨b,we,⟨⟩⟩:=w
 refine (qG rfl).trans ?_
 dsimp only at hset hsend ⊢
 rw [qtO]
 generalize qsE q.2.1 (wU s.e.stan) b=a at hset hsend ⊢
 obtain ⟨a,ae,⟨⟩⟩:=a
 refine (qG rfl).trans ?_
 dsimp only at hset hsend ⊢
 by_cases h:we=0∧ae=0
 ·obtain ⟨rfl,rfl⟩:=h
  rw [if_pos ⟨rfl,rfl⟩]
  refine (qG (a:=(false,())) rfl).trans ((qB rfl).trans ?_)
  by_cases hc:q.2.1=1
  ·rw [if_pos hc]
   refine (qE (by simp only [go_sem,Int.reduceToNat];exact hc)).trans ?_
   exact (z6 hset).trans rfl
  ·rw [if_neg hc]
   refine (qB (by simp only [go_sem,Int.reduceToNat];exact hc)).trans ?_
   exact (z6 hsend).trans rfl
 ·rw [if_neg h]
  refine (qG (a:=(true,())) ?_).trans rfl
  by_cases h1:we=0
  ·have h2:¬ ae=0:=fun h2=>h ⟨h1,h2⟩
   exact (qB (by rw [h1];rfl)).trans (by rw [show beq ae 0=false from wJ h2];rfl)
  ·exact qE (by rw [show beq we 0=false from wJ h1];rfl)
theorem qBb {r:qdZ} (h:qt0 r):r.2.2.1=noG∨¬ r.2.2.1.1=0:=by
 rcases h with rfl | ⟨h1,h2,h3,h4,h5,h6⟩
 ·exact .inl rfl
 ·rcases h6 with h6 | h6
  ·exact .inl h6
  ·exact .inr (by have:=h6.1.1;omega)
def qFH (e:En'):En':={ e with ph:=3,ask:=noA }
def qyL (n:v8) (res:Int):BB:=(wrN (ansN n res).1).1
theorem qIc {s:Si} {m:Nat} (hs:okS m s) (hm:m≤900000) (n:v8) (res:Int) :
  (ob (qa7 (n,res,())) fun (a:v8×Int×Unit)=>ob (qaK (a.1,())) fun (b:BB×Int×Unit)=>ob (kX (s.t,b.1,())) fun (c:y5×Int×Unit)=>(some (c.1,()):Option (y5×Unit)))=some ((qd7 s (qyL n res)).1.t,()):=by
 rw [qoY]
 refine (qG rfl).trans ?_
 rw [qgN]
 refine (qG rfl).trans ?_
 exact (z6 (y9 hs hm (qyL n res))).trans rfl
theorem quR (s:Si):(ob (kE (s.t,13,())) fun (a:y5×Unit)=>(some (a.1,()):Option (y5×Unit)))=some ((qGF s 3).t,()):=(z6 (qy9 s)).trans rfl
instance (a:TAsk) (c s:Int):Decidable (qt9 a c s):=by unfold qt9;infer_instance
theorem qy1 (x:UInt64):n64 x=(x.toNat:Int):=rfl
theorem qCS {k:Nat} (h:k≤63):2 ^ k≤9223372036854775808:=by
 have:=Nat.pow_le_pow_right (show 0 < 2 by omega) h
 have e:2 ^ 63=9223372036854775808:=by decide
 omega
theorem qfJ (k:Nat) (hk:k≤63):yS ((k:Int),())=some (u64 ((2 ^ k:Nat):Int),()):=by
 unfold yS
 dsimp only
 generalize hf:(fun (x_1:UInt64×Int×Unit)=>(_:Option (LS (UInt64×Int×Unit) (UInt64×Unit))))=f
 have step:∀ i:Nat,i < k→f (u64 ((2 ^ i:Nat):Int),(i:Int),())=some (.nx (u64 ((2 ^ (i+1):Nat):Int),((i+1:Nat):Int),())):=by
  intro i hi
  subst hf
  have hi':i64 (iadd (i:Int) 1)=((i+1:Nat):Int):=i64n (by show (i:Int)+1=_;omega) (by omega)
  have hp:=qCS (k:=i) (by omega)
  have e:imul (n64 (u64 2)) (n64 (u64 ((2 ^ i:Nat):Int)))=((2 ^ (i+1):Nat):Int):=by
   rw [Nat.pow_succ]
   generalize 2 ^ i=m at hp
   rw [qgO (by decide),qgO (by omega)]
   show (2:Int)*(m:Int)=_
   omega
  refine (qE (by simp only [go_sem,Int.reduceToNat];omega)).trans ?_
  dsimp only
  rw [hi',e]
 have hend:∀ u,f (u,(k:Int),())=some (.ex 0 (u,(k:Int),())):=by subst hf;intro u;exact qB (by simp only [go_sem,Int.reduceToNat];omega)
 have hloop:=(qM (f:=f) (fun i=>(u64 ((2 ^ i:Nat):Int),(i:Int),())) k step 0 (Nat.zero_le _)).trans (qT (hend _))
 refine (zH (show loop f (u64 1,0,())=_ from hloop)).trans ?_
 exact qH g62
def bitW (w:WT) (p:Nat):Bool:=(nth w.2.1 (p / 64) (u64 0)).toNat / 2 ^ (p % 64) % 2 == 1
theorem qsQ (w:WT) (hw:w.2.1.length=16) (p:Nat) (hp:p < 1024):qgC (w,(p:Int),())=some (bitW w p,()):=by
 unfold qgC bitW
 dsimp only
 have e1:i64 (idiv (p:Int) 64)=((p / 64:Nat):Int):=by rw [g31 (by omega)];exact i64n (by omega) (by omega)
 have e2:imod (p:Int) 64=((p % 64:Nat):Int):=by rw [g32 (by omega)];omega
 rw [e1,e2]
 refine (qH (by simp only [go_sem,Int.reduceToNat];omega)).trans ?_
 rw [qfJ _ (by omega)]
 refine (qG rfl).trans ?_
 have hq:=qCS (k:=p % 64) (by omega)
 have hq0:0 < 2 ^ (p % 64):=Nat.pow_pos (by omega)
 generalize 2 ^ (p % 64)=m at hq hq0 ⊢
 have e3:n64 (u64 (m:Int))=(m:Int):=qgO (by omega)
 dsimp only
 rw [e3]
 refine (qH (by simp only [go_sem,Int.reduceToNat];omega)).trans ?_
 rw [qZ]
 generalize nth w.2.1 (p / 64) (u64 0)=x
 have hx:=x.toNat_lt
 have e4:idiv (n64 x) (m:Int)=((x.toNat / m:Nat):Int):=by
  rw [g31 (by rw [qy1];omega),qy1,Int.natCast_ediv]
 have hle:x.toNat / m≤x.toNat:=Nat.div_le_self _ _
 rw [e4]
 generalize x.toNat / m=q at hle ⊢
 rw [show n64 (u64 (q:Int))=(q:Int) from qgO (by omega),show n64 (u64 2)=2 from qgO (by decide),show imod (q:Int) 2=((q % 2:Nat):Int) by rw [g32 (by omega)];omega,
  show n64 (u64 ((q % 2:Nat):Int))=((q % 2:Nat):Int) from qgO (by omega),show n64 (u64 1)=1 from qgO (by decide)]
 congr 2
 unfold beq
 rw [Bool.eq_iff_iff,beq_iff_eq,beq_iff_eq]
 omega
abbrev FT:=BB×Int×Int×Unit
def noF:FT:=([],0,0,())
theorem qC5 (c:UInt8):0≤n8 c∧n8 c < 256:=by have:=c.toNat_lt;unfold n8;omega
theorem qp9 (a b:FT):qh6 (a,b,())=some (D (a=b),()):=by
 obtain ⟨x,y,z,⟨⟩⟩:=a
 obtain ⟨x',y',z',⟨⟩⟩:=b
 unfold qh6
 simp only [go_sem,Int.reduceToNat,zC]
 refine vZ ?_
 simp only [Prod.mk.injEq,and_true,and_assoc]
theorem qvY (h:THub) (h1:h.1.length=4) (h2:h.2.1.length=4) (h3:h.2.2.1.length=4):qh5 (h,h,())=some (true,()):=by
 unfold qh5
 dsimp only
 generalize hf:(fun (x_1:Bool×Int×Unit)=>(_:Option (LS (Bool×Int×Unit) (Bool×Unit))))=f
 have step:∀ i:Nat,i < 4→f (false,(i:Int),())=some (.nx (false,((i+1:Nat):Int),())):=by
  intro i hi
  subst hf
  have hi':i64 (iadd (i:Int) 1)=((i+1:Nat):Int):=i64n (by show (i:Int)+1=_;omega) (by omega)
  refine (qE (by simp (disch:=omega) only [go_sem,Int.reduceToNat];omega)).trans ?_
  dsimp only
  rw [hi']
  simp (disch:=omega) only [go_sem,Int.reduceToNat,qp9]
 have hend:f (false,((4:Nat):Int),())=some (.ex 0 (false,((4:Nat):Int),())):=by subst hf;exact qB rfl
 have hloop:=(qM (f:=f) (fun i=>(false,(i:Int),())) 4 step 0 (Nat.zero_le _)).trans (qT hend)
 refine (zH (show loop f (false,0,())=_ from hloop)).trans ?_
 refine (qH g62).trans ?_
 simp (disch:=omega) only [go_sem,Int.reduceToNat]
theorem yL (a:Int):beq a a=true:=qfD rfl
theorem qo4 (a:BB):seq a a=true:=qHc rfl
theorem qE5 (q:List BB) (hq:q.length≤1000000):qiD (q,q,())=some (true,()):=by
 unfold qiD
 dsimp only
 rw [yL]
 refine (qB rfl).trans ?_
 generalize hf:(fun (x_1:Bool×Int×Unit)=>(_:Option (LS (Bool×Int×Unit) (Bool×Unit))))=f
 have step:∀ i:Nat,i < q.length→f (false,(i:Int),())=some (.nx (false,((i+1:Nat):Int),())):=by
  intro i hi
  subst hf
  have hi':i64 (iadd (i:Int) 1)=((i+1:Nat):Int):=i64n (by show (i:Int)+1=_;omega) (by omega)
  refine (qE (by simp only [go_sem,Int.reduceToNat];omega)).trans ((qH (by simp only [go_sem,Int.reduceToNat];omega)).trans ((qH (by simp only [go_sem,Int.reduceToNat];omega)).trans ?_))
  dsimp only
  rw [hi',qo4];rfl
 have hend:f (false,(q.length:Int),())=some (.ex 0 (false,(q.length:Int),())):=by subst hf;exact qB (by simp only [go_sem,Int.reduceToNat];omega)
 have hloop:=(qM (f:=f) (fun i=>(false,(i:Int),())) q.length step 0 (Nat.zero_le _)).trans (qT hend)
 exact (zH (show loop f (false,0,())=_ from hloop)).trans (qH g62)
theorem qEX (q:List qKi) (hq:q.length≤1000000):qhY (q,q,())=some (true,()):=by
 unfold qhY
 dsimp only
 rw [yL]
 refine (qB rfl).trans ?_
 generalize hf:(fun (x_1:Bool×Int×Unit)=>(_:Option (LS (Bool×Int×Unit) (Bool×Unit))))=f
 have step:∀ i:Nat,i < q.length→f (false,(i:Int),())=some (.nx (false,((i+1:Nat):Int),())):=by
  intro i hi
  subst hf
  have hi':i64 (iadd (i:Int) 1)=((i+1:Nat):Int):=i64n (by show (i:Int)+1=_;omega) (by omega)
  have hc:inB (i:Int) (len q)=true:=by simp only [go_sem,Int.reduceToNat];omega
  refine (qE (by simp only [go_sem,Int.reduceToNat];omega)).trans ((qH hc).trans ((qH hc).trans ?_))
  dsimp only
  rw [hi',yL,hc]
  refine (qG (a:=(false,())) ((qB rfl).trans ((qH rfl).trans ((qH rfl).trans ?_)))).trans rfl
  rw [zC,qo4];rfl
 have hend:f (false,(q.length:Int),())=some (.ex 0 (false,(q.length:Int),())):=by subst hf;exact qB (by simp only [go_sem,Int.reduceToNat];omega)
 have hloop:=(qM (f:=f) (fun i=>(false,(i:Int),())) q.length step 0 (Nat.zero_le _)).trans (qT hend)
 exact (zH (show loop f (false,0,())=_ from hloop)).trans (qH g62)
theorem qBA (q:List EvT) (hq:q.length≤1000000):qbM (q,q,())=some (true,()):=by
 unfold qbM
 dsimp only
 rw [yL]
 refine (qB rfl).trans ?_
 generalize hf:(fun (x_1:Bool×Int×Unit)=>(_:Option (LS (Bool×Int×Unit) (Bool×Unit))))=f
 have step:∀ i:Nat,i < q.length→f (false,(i:Int),())=some (.nx (false,((i+1:Nat):Int),())):=by
  intro i hi
  subst hf
  have hi':i64 (iadd (i:Int) 1)=((i+1:Nat):Int):=i64n (by show (i:Int)+1=_;omega) (by omega)
  have hc:inB (i:Int) (len q)=true:=by simp only [go_sem,Int.reduceToNat];omega
  refine (qE (by simp only [go_sem,Int.reduceToNat];omega)).trans ((qH hc).trans ((qH hc).trans ?_))
  dsimp only
  rw [hi',hc]
  generalize nth q (nat (i:Int)) (0,[0,0],0,none' UInt8,())=e
  rw [yL,yL,yL,yL,zC,qo4]
  rfl
 have hend:f (false,(q.length:Int),())=some (.ex 0 (false,(q.length:Int),())):=by subst hf;exact qB (by simp only [go_sem,Int.reduceToNat];omega)
 have hloop:=(qM (f:=f) (fun i=>(false,(i:Int),())) q.length step 0 (Nat.zero_le _)).trans (qT hend)
 exact (zH (show loop f (false,0,())=_ from hloop)).trans (qH g62)
theorem qAM:∀ l:List UInt64,all2 (fun (p q:UInt64)=>beq (n64 p) (n64 q)) l l=true
 | []=>rfl
 | a :: l=>by
  have ih:=qAM l
  unfold all2 at ih ⊢
  rw [List.zip_cons_cons,List.all_cons,ih,Bool.and_true]
  exact yL _
theorem quZ:∀ l:List Int,all2 (fun (p q:Int)=>beq p q) l l=true
 | []=>rfl
 | a :: l=>by
  have ih:=quZ l
  unfold all2 at ih ⊢
  rw [List.zip_cons_cons,List.all_cons,ih,Bool.and_true]
  exact yL _
theorem qE1 {n:Nat} {e:En'} (h:okE n e) (hn:n≤1000000):qcU (e.t,e.t,())=some (true,()):=by
 unfold qcU
 dsimp only
 rw [qp5]
 refine (qG rfl).trans ?_
 rw [qp8]
 refine (qG rfl).trans ?_
 rw [qp4]
 refine (qG rfl).trans ?_
 have hq:=h.queue
 have ho:=h.out
 have hg:=h.got
 rw [show e.t.2.2.2.2.2.2.2.2.2.2.2.2.2.2.1=e.queue from rfl,qE5 e.queue (by omega)]
 refine (qG rfl).trans ?_
 rw [show e.t.2.2.2.2.2.2.2.2.2.2.2.2.2.2.2.1=e.hub from rfl,qvY e.hub h.up h.feed h.life]
 refine (qG rfl).trans ?_
 rw [show e.t.2.2.2.2.2.2.2.2.2.2.2.2.2.2.2.2.1=e.out from rfl,qEX e.out (by omega)]
 refine (qG rfl).trans ?_
 rw [show e.t.2.2.2.2.2.2.2.2.2.2.2.2.2.2.2.2.2.1=e.got from rfl,qBA e.got (by omega)]
 refine (qG rfl).trans ?_
 dsimp only
 rw [zC,qo4,qAM,quZ]
 simp only [yL]
 rfl
theorem qx6 {n:Nat} {s:Si} (h:okS n s) (hn:n≤1000000):x5 (s.t,s.t,())=some (true,()):=by
 unfold x5
 dsimp only
 rw [show qcU (s.t.1,s.t.1,())=_ from qE1 h.e hn]
 refine (qG rfl).trans ?_
 have hp:=h.p
 rw [show qc2 (s.t.2.1,s.t.2.1,())=_ from qqE s.p (by omega)]
 rfl
theorem qtT {A B C:BB} {a w:Nat} (hA:A.length=a) (hB:B.length=w):tk (A++(B++C)) a w=B:=by
 unfold tk
 rw [← hA,List.drop_left,← hB,List.take_left]
theorem qDM {b:BB} {A W:Nat} {n:Int} (hW1:1≤W) (hW:W≤8) (hl:A+W≤b.length) (h0:0≤n) (hn:n < 256 ^ W) (hL:n≤4611686018427387904) (ht:tk b A W=bigN W n):qjJ b (A:Int) (W:Int)=(n,((A+W:Nat):Int),0,()):=by
 have hv:bev (tk b A W)=n.toNat:=by
  rw [ht];unfold bigN
  rw [qLs,Nat.mod_eq_of_lt]
  have:((n.toNat:Nat):Int) < ((256 ^ W:Nat):Int):=by rw [Int.toNat_of_nonneg h0];push_cast;exact hn
  exact Int.ofNat_lt.1 this
 unfold qjJ
 rw [if_neg (by omega),if_neg (by omega),if_neg]
 ·rw [Int.toNat_natCast,Int.toNat_natCast,hv]
  refine Prod.ext (by dsimp only;omega) (Prod.ext (by dsimp only;omega) rfl)
 ·rintro ⟨h8,h127⟩
  have hW8:W=8:=by omega
  subst hW8
  rw [Int.toNat_natCast] at h127
  have hg:nth b A (u8 0)=(bigN 8 n)[0]'(by rw [qU];omega):=by
   have h1:0 < (tk b A 8).length:=by rw [vC hl];omega
   have h2:(tk b A 8)[0]=b[A]:=qCv h1 (by omega)
   rw [qL (by omega:A < b.length)]
   rw [← h2];simp only [ht]
  rw [hg] at h127
  unfold bigN at h127
  rw [qCR] at h127
  unfold byt at h127
  have hq:n.toNat / 256 ^ 7 % 256≤127:=by
   have:n.toNat≤4611686018427387904:=by omega
   have e:256 ^ 7=72057594037927936:=by decide
   rw [e];omega
  rw [show 8 - 1 - 0=7 from rfl,UInt8.toNat_ofNat_of_lt' (by show _ < 256;omega)] at h127
  omega
def tkI (b:BB) (a w:Int):Int:=if (qjJ b a w).2.2.1=0 then (qjJ b a w).1 else -1
theorem xG (b:BB) (a w:Int) (hb:b.length≤1000000):vL (b,a,w,())=some (tkI b a w,()):=by
 unfold vL tkI
 dsimp only
 rw [qk4 _ _ _ hb]
 refine (qG rfl).trans ?_
 by_cases h:(qjJ b a w).2.2.1=0
 ·rw [if_pos h];exact qB (bq_f h)
 ·rw [if_neg h];exact qE (bq_t h)
def noV:TEnv:=(0,0,[0,0],0,0,[],[],())
def rdV0 (b:BB):TEnv:=(tkI b 0 1,tkI b 1 1,[tkI b 2 8,tkI b 10 8],tkI b 18 4,tkI b 22 8,(b.drop 30).take (b.length - 46),b.drop (b.length - 16),())
instance (v:TEnv):Decidable (qdB v):=by unfold qdB;infer_instance
instance (v:TEnv):Decidable (qkT v):=by unfold qkT;infer_instance
def rdV (b:BB):TEnv×Int×Unit:=if b.length < 47 then (noV,3,()) else if 946 < b.length then (noV,4,()) else if qkT (rdV0 b) then (rdV0 b,0,()) else (noV,2,())
theorem qp6 (b:BB) (hb:b.length≤1000000):qh3 (b,())=some (rdV b):=by
 unfold qh3 rdV
 dsimp only
 by_cases h1:b.length < 47
 ·rw [if_pos h1];exact qE (by simp only [go_sem,Int.reduceToNat];omega)
 ·rw [if_neg h1]
  refine (qB (by simp only [go_sem,Int.reduceToNat];omega)).trans ?_
  by_cases h2:946 < b.length
  ·rw [if_pos h2];exact qE (by simp only [go_sem,Int.reduceToNat];omega)
  ·rw [if_neg h2]
   refine (qB (by simp only [go_sem,Int.reduceToNat];omega)).trans ?_
   rw [xG _ _ _ hb]
   refine (qG rfl).trans ?_
   rw [xG _ _ _ hb]
   refine (qG rfl).trans ?_
   rw [xG _ _ _ hb]
   refine (qG rfl).trans ?_
   rw [xG _ _ _ hb]
   refine (qG rfl).trans ?_
   rw [xG _ _ _ hb]
   refine (qG rfl).trans ?_
   rw [xG _ _ _ hb]
   refine (qG rfl).trans ?_
   have e:i64 (isub (len b) 16)=((b.length - 16:Nat):Int):=i64n (by show (b.length:Int) - 16=_;omega) (by omega)
   rw [e]
   refine (qH (by simp only [go_sem,Int.reduceToNat];omega)).trans ((qH (by simp only [go_sem,Int.reduceToNat];omega)).trans ?_)
   dsimp only
   have s1:sub b 30 ((b.length - 16:Nat):Int)=(b.drop 30).take (b.length - 46):=by
    unfold sub
    rw [show (30:Int).toNat=30 from rfl,Int.toNat_natCast];congr 1
   have s2:sub b ((b.length - 16:Nat):Int) (len b)=b.drop (b.length - 16):=by
    unfold sub
    rw [Int.toNat_natCast,List.take_of_length_le]
    rw [List.length_drop];show _≤(b.length:Int).toNat - _;omega
   rw [s1,s2,show qaT ((tkI b 0 1,tkI b 1 1,[tkI b 2 8,tkI b 10 8],tkI b 18 4,tkI b 22 8,(b.drop 30).take (b.length - 46),b.drop (b.length - 16),()),())=_ from qoP (rdV0 b)]
   refine (qG rfl).trans ?_
   by_cases h:qkT (rdV0 b)
   ·rw [D_t h,if_pos h];rfl
   ·rw [D_f h,if_neg h];rfl
theorem qtU {b:BB} {A W:Nat} {n:Int} (hW1:1≤W) (hW:W≤8) (hl:A+W≤b.length) (h0:0≤n) (hn:n < 256 ^ W) (hL:n≤4611686018427387904) (ht:tk b A W=bigN W n):tkI b (A:Int) (W:Int)=n:=by
 unfold tkI
 rw [qDM hW1 hW hl h0 hn hL ht,if_pos rfl]
theorem qFk {v:TEnv} {t:BB} (hv:qdB v) (he:v.2.2.1=[e0 v,e1 v]) (ht:t.length=16):rdV (zA v++t)=(vY v t,0,()):=by
 have hlen:(zA v++t).length=46+v.2.2.2.2.2.1.length:=by rw [List.length_append,vN,ht];omega
 have hbody:=hv.2.2.2.2.2.2
 obtain ⟨h1,h2,h3,h4,h5,h6,h7,h8⟩:=hv
 have l1:=qU 1 v.1
 have l2:=qU 1 v.2.1
 have l3:=qU 8 (e0 v)
 have l4:=qU 8 (e1 v)
 have l5:=qU 4 v.2.2.2.1
 have l6:=qU 8 v.2.2.2.2.1
 have n2:=h2.2
 have n3:=h3.2
 have n4:=h4.2
 obtain ⟨rest,hrest⟩:∃ rest,rest=v.2.2.2.2.2.1++t:=⟨_,rfl⟩
 have hE:zA v++t=bigN 1 v.1++(bigN 1 v.2.1++(bigN 8 (e0 v)++(bigN 8 (e1 v)++(bigN 4 v.2.2.2.1++(bigN 8 v.2.2.2.2.1++rest))))):=by unfold zA;rw [hrest];simp only [List.append_assoc]
 have t1:tk (zA v++t) 0 1=bigN 1 v.1:=by rw [hE];exact qtT (A:=[]) rfl l1
 have t2:tk (zA v++t) 1 1=bigN 1 v.2.1:=by rw [hE];exact qtT l1 l2
 have t3:tk (zA v++t) 2 8=bigN 8 (e0 v):=by rw [hE,← List.append_assoc];exact qtT (by rw [List.length_append,l1,l2]) l3
 have t4:tk (zA v++t) 10 8=bigN 8 (e1 v):=by rw [hE,← List.append_assoc,← List.append_assoc];exact qtT (by simp only [List.length_append,l1,l2,l3]) l4
 have t5:tk (zA v++t) 18 4=bigN 4 v.2.2.2.1:=by rw [hE,← List.append_assoc,← List.append_assoc,← List.append_assoc];exact qtT (by simp only [List.length_append,l1,l2,l3,l4]) l5
 have t6:tk (zA v++t) 22 8=bigN 8 v.2.2.2.2.1:=by rw [hE,← List.append_assoc,← List.append_assoc,← List.append_assoc,← List.append_assoc];exact qtT (by simp only [List.length_append,l1,l2,l3,l4,l5]) l6
 have hz:rdV0 (zA v++t)=vY v t:=by
  unfold rdV0 vY
  have q1:tkI (zA v++t) 0 1=v.1:=qtU (A:=0) (W:=1) (by omega) (by omega) (by omega) (by omega) (by omega) (by omega) t1
  have q2:tkI (zA v++t) 1 1=v.2.1:=qtU (A:=1) (W:=1) (by omega) (by omega) (by omega) (by omega) (by omega) (by omega) t2
  have q3:tkI (zA v++t) 2 8=e0 v:=qtU (A:=2) (W:=8) (by omega) (by omega) (by omega) h2.1 (by omega) n2 t3
  have q4:tkI (zA v++t) 10 8=e1 v:=qtU (A:=10) (W:=8) (by omega) (by omega) (by omega) h3.1 (by omega) n3 t4
  have q5:tkI (zA v++t) 18 4=v.2.2.2.1:=qtU (A:=18) (W:=4) (by omega) (by omega) (by omega) h6.1 (by omega) (by omega) t5
  have q6:tkI (zA v++t) 22 8=v.2.2.2.2.1:=qtU (A:=22) (W:=8) (by omega) (by omega) (by omega) h4.1 (by omega) n4 t6
  have hpre:(bigN 1 v.1++bigN 1 v.2.1++bigN 8 (e0 v)++bigN 8 (e1 v)++bigN 4 v.2.2.2.1++bigN 8 v.2.2.2.2.1).length=30:=by simp only [List.length_append,l1,l2,l3,l4,l5,l6]
  have q7:((zA v++t).drop 30).take ((zA v++t).length - 46)=v.2.2.2.2.2.1:=by
   rw [hlen]
   unfold zA
   rw [List.append_assoc,← hpre,List.drop_left,Nat.add_sub_cancel_left,List.take_left]
  have q8:(zA v++t).drop ((zA v++t).length - 16)=t:=by
   rw [hlen,show 46+v.2.2.2.2.2.1.length - 16=(zA v).length by rw [vN];omega,List.drop_left]
  rw [q1,q2,q3,q4,q5,q6,q7,q8,← he]
 unfold rdV
 rw [if_neg (by omega),if_neg (by omega),hz,if_pos]
 exact ⟨⟨h1,h2,h3,h4,h5,h6,h7,h8⟩,ht⟩
theorem qIx {a:Int} (h:0≤a):n8 (u8 a)=a % 256:=by
 show (((BitVec.ofNat 8 ((a % 2 ^ 8).toNat)).toNat:Nat):Int)=a % 256
 rw [BitVec.toNat_ofNat];omega
theorem qJN (x:BB) (hx:x.length≤1024):256*n8 (u8 (shrI .i64 (len x) (n64 (u64 8))))+n8 (u8 (len x))=(x.length:Int):=by
 have a2:shrI .i64 (len x) (n64 (u64 8))=((x.length / 256:Nat):Int):=by show Int.fdiv (x.length:Int) (2 ^ 8)=_;rw [Int.fdiv_eq_ediv_of_nonneg _ (by decide)];omega
 rw [a2,qIx (by omega),qIx (by show (0:Int)≤(x.length:Int);omega)]
 show 256*(((x.length / 256:Nat):Int) % 256)+(x.length:Int) % 256=_
 omega
theorem qJo {b:BB} {n:Nat} {c:UInt8} (hb1:b.length≤2000) (hn:1≤n∧n≤1024) (hl:b.length+1 < n+2) (hnum:2≤b.length+1→256*n8 (nth (b++[c]) 0 (u8 0))+n8 (nth (b++[c]) 1 (u8 0))=(n:Int)):qc0 ((b,0,0,()),c,())=some ((b++[c],0,0,()),[],()):=by
 unfold qc0
 refine (qB rfl).trans ?_
 dsimp only
 rw [show app (app (none' UInt8) b) [c]=b++[c] from rfl,show app (none' UInt8) b=b from rfl]
 refine (qH (by simp only [go_sem,Int.reduceToNat];omega)).trans ((qH (by simp only [go_sem,Int.reduceToNat];simp;omega)).trans ?_)
 have hlen:(b++[c]).length=b.length+1:=by simp
 by_cases h2:b.length+1 < 2
 ·exact qE (by simp only [go_sem,Int.reduceToNat];omega)
 ·refine (qB (by simp only [go_sem,Int.reduceToNat];omega)).trans ?_
  refine (qH (by simp only [go_sem,Int.reduceToNat];omega)).trans ((qH (by simp only [go_sem,Int.reduceToNat];omega)).trans ?_)
  have hnum:=hnum (by omega)
  rw [show nat 0=0 from rfl,show nat 1=1 from rfl]
  have hx:=qC5 (nth (b++[c]) 0 (u8 0))
  have hy:=qC5 (nth (b++[c]) 1 (u8 0))
  generalize n8 (nth (b++[c]) 0 (u8 0))=x at hx hnum
  generalize n8 (nth (b++[c]) 1 (u8 0))=y at hy hnum
  have e:i64 (iadd (i64 (imul 256 (i64 x))) (i64 y))=(n:Int):=by
   rw [show i64 x=x from z0 (by omega) (by omega),show i64 y=y from z0 (by omega) (by omega),show i64 (imul 256 x)=256*x from z0 (by show -9223372036854775808≤256*x;omega) (by show 256*x≤9223372036854775807;omega)]
   rw [← hnum]
   exact z0 (by show -9223372036854775808≤256*x+y;omega) (by show 256*x+y≤9223372036854775807;omega)
  rw [e,show i64 (iadd (n:Int) 2)=((n+2:Nat):Int) from i64n (by show (n:Int)+2=_;omega) (by omega)]
  refine (qG (a:=(false,())) ((qB (wJ (by omega))).trans (by rw [lt_f (by omega)]))).trans ((qB rfl).trans ?_)
  exact qE (by simp only [go_sem,Int.reduceToNat];omega)
theorem qJp {b:BB} {n:Nat} {c:UInt8} (hn:1≤n∧n≤1024) (hl:b.length+1=n+2) (hnum:256*n8 (nth (b++[c]) 0 (u8 0))+n8 (nth (b++[c]) 1 (u8 0))=(n:Int)):qc0 ((b,0,0,()),c,())=some (noF,(b++[c]).drop 2,()):=by
 unfold qc0
 refine (qB rfl).trans ?_
 dsimp only
 rw [show app (app (none' UInt8) b) [c]=b++[c] from rfl,show app (none' UInt8) b=b from rfl]
 refine (qH (by simp only [go_sem,Int.reduceToNat];omega)).trans ((qH (by simp only [go_sem,Int.reduceToNat];simp;omega)).trans ?_)
 have hlen:(b++[c]).length=b.length+1:=by simp
 refine (qB (by simp only [go_sem,Int.reduceToNat];omega)).trans ?_
 refine (qH (by simp only [go_sem,Int.reduceToNat];omega)).trans ((qH (by simp only [go_sem,Int.reduceToNat];omega)).trans ?_)
 rw [show nat 0=0 from rfl,show nat 1=1 from rfl]
 have hx:=qC5 (nth (b++[c]) 0 (u8 0))
 have hy:=qC5 (nth (b++[c]) 1 (u8 0))
 generalize n8 (nth (b++[c]) 0 (u8 0))=x at hx hnum
 generalize n8 (nth (b++[c]) 1 (u8 0))=y at hy hnum
 have e:i64 (iadd (i64 (imul 256 (i64 x))) (i64 y))=(n:Int):=by
  rw [show i64 x=x from z0 (by omega) (by omega),show i64 y=y from z0 (by omega) (by omega),show i64 (imul 256 x)=256*x from z0 (by show -9223372036854775808≤256*x;omega) (by show 256*x≤9223372036854775807;omega)]
  rw [← hnum]
  exact z0 (by show -9223372036854775808≤256*x+y;omega) (by show 256*x+y≤9223372036854775807;omega)
 rw [e,show i64 (iadd (n:Int) 2)=((n+2:Nat):Int) from i64n (by show (n:Int)+2=_;omega) (by omega)]
 refine (qG (a:=(false,())) ((qB (wJ (by omega))).trans (by rw [lt_f (by omega)]))).trans ((qB rfl).trans ?_)
 refine (qB (by simp only [go_sem,Int.reduceToNat];omega)).trans ?_
 refine (qH (by simp only [go_sem,Int.reduceToNat];omega)).trans ?_
 have hc:cut (b++[c]) (nat 2) (nsub (nat (len (b++[c]))) (nat 2))=(b++[c]).drop 2:=by
  unfold cut
  rw [show nat 2=2 from rfl,List.take_of_length_le (by rw [List.length_drop];show _≤((b++[c]).length:Int).toNat - 2;omega)]
 rw [hc];rfl
theorem qGl (x:BB) (hx:1≤x.length∧x.length≤1024):qaG (yN x,())=some (x,()):=by
 unfold qaG qmT
 dsimp only
 generalize hf:(fun (x_1:List BB×Int×FT×Unit)=>(_:Option (LS (List BB×Int×FT×Unit) (FT×List BB×Unit))))=f
 have hl:(yN x).length=x.length+2:=qnP x
 have hnum:∀ i,2≤i→256*n8 (nth ((yN x).take i) 0 (u8 0))+n8 (nth ((yN x).take i) 1 (u8 0))=(x.length:Int):=by
  intro i hi
  obtain ⟨j,rfl⟩:∃ j,i=j+2:=⟨i - 2,by omega⟩
  rw [← qJN x hx.2];rfl
 have tk1:∀ i (h:i < (yN x).length),(yN x).take i++[nth (yN x) (nat (i:Int)) (u8 0)]=(yN x).take (i+1):=fun i h=>by rw [qZ,qL h,List.take_succ_eq_append_getElem h]
 have step:∀ i:Nat,i < x.length+1→f ([],(i:Int),((yN x).take i,0,0,()),())=some (.nx ([],((i+1:Nat):Int),((yN x).take (i+1),0,0,()),())):=by
  intro i hi
  subst hf
  have hi':i64 (iadd (i:Int) 1)=((i+1:Nat):Int):=i64n (by show (i:Int)+1=_;omega) (by omega)
  have htl:((yN x).take i).length=i:=by rw [List.length_take];omega
  refine (qE (by simp only [go_sem,Int.reduceToNat];omega)).trans ((qH (by simp only [go_sem,Int.reduceToNat];omega)).trans ?_)
  dsimp only
  rw [qJo (n:=x.length) (by omega) hx (by omega) (fun h=>by rw [tk1 i (by omega)];exact hnum _ (by omega)),tk1 i (by omega),hi']
  rfl
 have hlast:f ([],((x.length+1:Nat):Int),((yN x).take (x.length+1),0,0,()),())=some (.nx ([x],((x.length+2:Nat):Int),noF,())):=by
  subst hf
  have hi':i64 (iadd ((x.length+1:Nat):Int) 1)=((x.length+2:Nat):Int):=i64n (by show ((x.length+1:Nat):Int)+1=_;omega) (by omega)
  have htl:((yN x).take (x.length+1)).length=x.length+1:=by rw [List.length_take];omega
  refine (qE (by simp only [go_sem,Int.reduceToNat];omega)).trans ((qH (by simp only [go_sem,Int.reduceToNat];omega)).trans ?_)
  dsimp only
  rw [qJp (n:=x.length) hx (by omega) (by rw [tk1 _ (by omega)];exact hnum _ (by omega)),tk1 _ (by omega),hi',List.take_of_length_le (by omega)]
  rw [show (yN x).drop 2=x from rfl]
  refine (qG rfl).trans ((qE (by simp only [go_sem,Int.reduceToNat];omega)).trans ((qH (by simp only [go_sem,Int.reduceToNat];simp)).trans ?_))
  rfl
 have hend:f ([x],((x.length+2:Nat):Int),noF,())=some (.ex 0 ([x],((x.length+2:Nat):Int),noF,())):=by subst hf;exact qB (by simp only [go_sem,Int.reduceToNat];omega)
 have hloop:=(qM (f:=f) (fun i=>([],(i:Int),((yN x).take i,0,0,()),())) (x.length+1) step 0 (Nat.zero_le _)).trans ((vR hlast).trans (qT hend))
 refine (z6 (zH (show loop f (none' BB,0,(none' UInt8,0,0,()),())=_ from hloop))).trans ?_
 rfl
theorem qqW {σ ρ:Type} {f:σ→Option (LS σ ρ)} (P:Nat→σ→Prop) (Q:σ→Prop) (n e:Nat) (hs:∀ i,i < n→∀ x,P i x→∃ y,f x=some (.nx y)∧P (i+1) y) (he:∀ x,P n x→∃ y,f x=some (.ex e y)∧Q y) {x:σ} (h0:P 0 x):∃ y,loop f x=some (.ex e y)∧Q y:=by
 have key:∀ k i x,i+k=n→P i x→∃ y,loop f x=some (.ex e y)∧Q y:=by
  intro k
  induction k with
  | zero =>
   intro i x hi hp
   have:i=n:=by omega
   subst this
   obtain ⟨y,h1,h2⟩:=he x hp
   exact ⟨y,qT h1,h2⟩
  | succ k ih =>
   intro i x hi hp
   obtain ⟨y,h1,h2⟩:=hs i (by omega) x hp
   rw [vR h1]
   exact ih (i+1) y (by omega) h2
 exact key n 0 x (by omega) h0
theorem qDL (w:WT) (hw:w.2.1.length=16) (h0:0≤w.1) (hT:w.1≤1000000):∃ l:List Int,qeF (w,())=some (l,())∧(∀ m∈l,0≤m∧m < w.1)∧l.length≤1000000:=by
 unfold qeF
 dsimp only
 obtain ⟨T,hT'⟩:∃ T:Nat,w.1=(T:Int):=⟨w.1.toNat,by omega⟩
 obtain ⟨a,ha⟩:∃ a:Nat,maxI 0 (i64 (isub w.1 1024))=(a:Int)∧a≤T:=by
  rw [show i64 (isub w.1 1024)=w.1 - 1024 from z0 (by show -9223372036854775808≤w.1 - 1024;omega) (by show w.1 - 1024≤9223372036854775807;omega),g58]
  exact ⟨(max 0 (w.1 - 1024)).toNat,by omega,by omega⟩
 rw [ha.1]
 generalize hf:(fun (x_1:List Int×Int×Unit)=>(_:Option (LS (List Int×Int×Unit) (List Int×Unit))))=f
 have key:=qqW (f:=f) (fun i x=>x.2.1=((a+i:Nat):Int)∧(∀ m∈x.1,0≤m∧m < w.1)∧x.1.length≤i) (fun x=>(∀ m∈x.1,0≤m∧m < w.1)∧x.1.length≤1000000) (T - a) 0 (fun i hi x hp => ?_) (fun x hp => ?_) (x:=(none' Int,(a:Int),())) ⟨rfl,fun m hm=>(List.not_mem_nil hm).elim,Nat.le_refl _⟩
 ·obtain ⟨⟨l,j,⟨⟩⟩,h1,h2,h3⟩:=key
  exact ⟨l,(zH h1).trans (qH g62),h2,h3⟩
 ·subst hf
  obtain ⟨l,j,⟨⟩⟩:=x
  obtain ⟨p1,p2,p3⟩:=hp
  dsimp only at p1 p2 p3
  subst p1
  have hi':i64 (iadd ((a+i:Nat):Int) 1)=((a+(i+1):Nat):Int):=i64n (by show ((a+i:Nat):Int)+1=_;omega) (by omega)
  have hm:imod ((a+i:Nat):Int) 1024=(((a+i) % 1024:Nat):Int):=by rw [g32 (by omega)];omega
  have e1:∀ (A B:Option (LS (List Int×Int×Unit) (List Int×Unit))),sel (lt ((a+i:Nat):Int) w.1) A B=A:=fun A B=>qE (lt_t (by omega))
  dsimp only
  rw [e1,hm,qsQ w hw _ (by omega),hi']
  cases hb:bitW w ((a+i) % 1024)
  ·exact ⟨(l,((a+(i+1):Nat):Int),()),rfl,rfl,p2,by dsimp only;omega⟩
  ·refine ⟨(l++[((a+i:Nat):Int)],((a+(i+1):Nat):Int),()),(qG rfl).trans ((qE rfl).trans (qH (by simp only [go_sem,Int.reduceToNat];simp;omega))),rfl,fun m hm => ?_,by simp;omega⟩
   rcases List.mem_append.1 hm with h | h
   ·exact p2 m h
   ·rw [List.mem_singleton] at h;omega
 ·subst hf
  obtain ⟨l,j,⟨⟩⟩:=x
  obtain ⟨p1,p2,p3⟩:=hp
  dsimp only at p1 p2 p3
  refine ⟨(l,j,()),qB (lt_f (by dsimp only;omega)),p2,by dsimp only;omega⟩
theorem qD1 (w:WT) (hw:w.2.1.length=16) (h0:0≤w.1) (n:Int) (hn:w.1≤n) (hn2:n≤900000):∃ bs:List UInt64,qcZ (w,n,())=some ((n+1,bs,()),0,())∧bs.length=16:=by
  unfold qcZ
  dsimp only
  obtain ⟨l,hl,hm,hll⟩:=qDL w hw h0 (by omega)
  have e0:i64 (isub w.1 1024)=w.1 - 1024:=z0 (by show -9223372036854775808≤w.1 - 1024;omega) (by show w.1 - 1024≤9223372036854775807;omega)
  have hfresh:qeG (w,n,())=some (true,()):=by
    unfold qeG
    dsimp only
    rw [e0]
    refine (qG (a:=(false,())) (by simp only [go_sem,Int.reduceToNat];try exact qmL (by omega))).trans ((qB rfl).trans ?_)
    refine (qG (a:=(true,())) (qE (le_t hn))).trans rfl
  have e1:i64 (iadd n 1)=n+1:=z0 (by show -9223372036854775808≤n+1;omega) (by show n+1≤9223372036854775807;omega)
  have e2:i64 (isub (n+1) 1024)=n+1 - 1024:=z0 (by show -9223372036854775808≤n+1 - 1024;omega) (by show n+1 - 1024≤9223372036854775807;omega)
  generalize hf:(fun (x_1:List Int×Int×Unit)=>(1:Nat))=dummy
  have main:∃ bs:List UInt64,(lc (loop (fun (x_1:Int×(Int×List UInt64×Unit)×Unit) =>
    sel (lt x_1.1 (len (app l [n])))
    (ck (inB x_1.1 (len (app l [n])))
    (ck (inB x_1.1 (len (app l [n])))
    (sel (le (n+1 - 1024) (nth (app l [n]) (nat x_1.1) 0))
    (ck (inB (i64 (idiv (imod (nth (app l [n]) (nat x_1.1) 0) 1024) 64)) (ofn 16))
    (ob (yS (imod (imod (nth (app l [n]) (nat x_1.1) 0) 1024) 64,()))
    fun (a:UInt64×Unit) =>
    ck (inB (i64 (idiv (imod (nth (app l [n]) (nat x_1.1) 0) 1024) 64)) (ofn 16))
    (some (LS.nx (i64 (iadd x_1.1 1),(x_1.2.1.1,upd x_1.2.1.2.1 (nat (i64 (idiv (imod (nth (app l [n]) (nat x_1.1) 0) 1024) 64)))
    (u64 (iadd (n64 (nth x_1.2.1.2.1 (nat (i64 (idiv (imod (nth (app l [n]) (nat x_1.1) 0) 1024) 64))) (u64 0))) (n64 a.1))),x_1.2.1.2.2),())))))
    (some (LS.nx (i64 (iadd x_1.1 1),x_1.2.1,()))))))
    (some (LS.ex 0 (x_1.1,x_1.2.1,()))))
   (0,(n+1,noW.2.1,()),()))
   (fun (a:Int×(Int×List UInt64×Unit)×Unit)=>none)
   (fun (i:Nat) (a:Int×(Int×List UInt64×Unit)×Unit)=>ck (neb i 0) (some (a.2.1,0,())))
   (fun (r:(Int×List UInt64×Unit)×Int×Unit)=>some r))=some ((n+1,bs,()),0,())∧bs.length=16:=by
    rw [show app l [n]=l++[n] from rfl]
    have hall:∀ m∈l++[n],0≤m:=by
      intro m h
      rcases List.mem_append.1 h with h | h
      · exact (hm m h).1
      · rw [List.mem_singleton] at h;omega
    have hlen:(l++[n]).length=l.length+1:=by simp
    generalize l++[n]=q at hall hlen
    generalize hg:(fun (x_1:Int×(Int×List UInt64×Unit)×Unit)=>(_:Option (LS (Int×(Int×List UInt64×Unit)×Unit) ((Int×List UInt64×Unit)×Int×Unit))))=g
    have key:=qqW (f:=g) (fun i x=>x.1=(i:Int)∧x.2.1.1=n+1∧x.2.1.2.1.length=16) (fun x=>x.2.1.1=n+1∧x.2.1.2.1.length=16) q.length 0 (fun i hi x hp => ?_) (fun x hp => ?_) (x:=(0,(n+1,noW.2.1,()),())) ⟨rfl,rfl,rfl⟩
    · obtain ⟨⟨j,⟨t,bs,⟨⟩⟩,⟨⟩⟩,h1,h2,h3⟩:=key
      dsimp only at h2 h3
      subst h2
      exact ⟨bs,(zH h1).trans (qH g62),h3⟩
    · subst hg
      obtain ⟨j,⟨t,bs,⟨⟩⟩,⟨⟩⟩:=x
      obtain ⟨p1,p2,p3⟩:=hp
      dsimp only at p1 p2 p3
      subst p1
      have hi':i64 (iadd (i:Int) 1)=((i+1:Nat):Int):=i64n (by show (i:Int)+1=_;omega) (by omega)
      have hq:=hall q[i] (List.getElem_mem hi)
      dsimp only
      have e3:nth q (nat (i:Int)) 0=q[i]:=by rw [qZ,qL hi]
      rw [hi',e3]
      generalize q[i]=m at hq
      have e4:imod m 1024=((m.toNat % 1024:Nat):Int):=by rw [g32 hq];omega
      have e5:i64 (idiv (((m.toNat % 1024:Nat):Int)) 64)=((m.toNat % 1024 / 64:Nat):Int):=by rw [g31 (by omega)];exact i64n (by omega) (by omega)
      have e6:imod (((m.toNat % 1024:Nat):Int)) 64=((m.toNat % 1024 % 64:Nat):Int):=by rw [g32 (by omega)];omega
      rw [e4,e5,e6,qfJ _ (by omega)]
      by_cases hc:n+1 - 1024≤m
      · exact ⟨_,(qE (by simp only [go_sem,Int.reduceToNat];omega)).trans ((qH (by simp only [go_sem,Int.reduceToNat];omega)).trans ((qH (by simp only [go_sem,Int.reduceToNat];omega)).trans ((qE (le_t hc)).trans ((qH (by simp only [go_sem,Int.reduceToNat];omega)).trans ((qG rfl).trans (qH (by simp only [go_sem,Int.reduceToNat];omega))))))),rfl,p2,by show (upd bs _ _).length=16;unfold upd;rw [List.length_set];exact p3⟩
      · exact ⟨_,(qE (by simp only [go_sem,Int.reduceToNat];omega)).trans ((qH (by simp only [go_sem,Int.reduceToNat];omega)).trans ((qH (by simp only [go_sem,Int.reduceToNat];omega)).trans (qB (le_f hc)))),rfl,p2,p3⟩
    · subst hg
      obtain ⟨j,⟨t,bs,⟨⟩⟩,⟨⟩⟩:=x
      obtain ⟨p1,p2,p3⟩:=hp
      dsimp only at p1 p2 p3
      exact ⟨_,qB (lt_f (by dsimp only;rw [p1];show ¬ (q.length:Int) < (q.length:Int);omega)),p2,p3⟩
  obtain ⟨bs,hmain,hbs⟩:=main
  refine ⟨bs, ?_,hbs⟩
  refine (qG (a:=(false,())) (by simp only [go_sem,Int.reduceToNat];try exact qmL (by omega))).trans ((qB rfl).trans ?_)
  rw [hfresh]
  refine (qG rfl).trans ((qB rfl).trans ?_)
  refine (qG (a:=(n+1,())) ((qE (le_t hn)).trans (by rw [e1]))).trans ?_
  rw [hl]
  refine (qG rfl).trans ((qH (by simp only [go_sem,Int.reduceToNat];simp;omega)).trans ?_)
  dsimp only
  rw [e2]
  exact hmain
structure hears (a:En') (r:En'):Prop where
 id:r.id=1 - a.id
 pair:qdC r=qdC a
 ph:z4 r.ph
 gen:1≤a.ring.1.1
 find:qGz r.ring a.ring.1.1=(a.ring.1.2.1,true,())
 win:r.win.1≤a.seq∧0≤r.win.1
 seq:a.seq≤900000
theorem qHA (e:En'):qdC e=[nth (qdC e) 0 0,nth (qdC e) 1 0]:=by
 unfold qdC
 split
 ·rfl
 ·split <;> rfl
theorem qLI {i:Int} (h:i=0∨i=1):i64 (isub 1 i)=1 - i:=z0 (by show -9223372036854775808≤1 - i;omega) (by show 1 - i≤9223372036854775807;omega)
theorem qG9 {n m:Nat} {a r:En'} (ha:okE n a) (hr:okE m r) (h:hears a r) (b t:BB):qeB (r.t,vY (j9 a b) t,())=some (false,()):=by
 unfold qeB
 dsimp only
 rw [show r.t.1=r.id from rfl,show r.t.2.2.1=r.ph from rfl,show (vY (j9 a b) t).2.1=a.id from rfl,show (vY (j9 a b) t).1=2 from rfl,show (vY (j9 a b) t).2.2.1=qdC a from rfl,show (vY (j9 a b) t).2.2.2.1=a.ring.1.1 from rfl,show r.t.2.2.2.2.2.2.2.2.2.2.1=r.ring from rfl,qLI hr.id]
 have h7:=h.ph
 have hid:=h.id
 have hrid:=hr.id
 unfold z4 at h7
 refine (qG (a:=(false,())) ((qB (bq_f (by omega))).trans ((qB (wJ (by omega))).trans (by rw [wJ (by omega)])))).trans ((qB rfl).trans ((qB rfl).trans ?_))
 rw [qf7,h.pair]
 refine (qG rfl).trans ?_
 rw [qcW,D_t h.ph]
 refine (qG rfl).trans ?_
 rw [qgB,h.find]
 refine (qG rfl).trans ?_
 dsimp only
 refine (qG (a:=(false,())) ?_).trans rfl
 refine (qB rfl).trans ((qB rfl).trans ((qH rfl).trans ((qH rfl).trans ((qB (bq_f rfl)).trans ((qH rfl).trans ((qH rfl).trans ?_))))))
 rw [bq_f rfl]
def qDd (r:En') (g:Int):qdZ:=if r.ring.2.2.1.1=g∧¬ r.ph=4 then (qIV r.ring).1 else r.ring
theorem qHz (p:wO) (k b:BB):pchk (ptag p k b) k b (kN k b)=(ptag p k b,true,()):=by
 unfold pchk
 rw [if_pos rfl,if_pos]
 unfold ptag
 split
 ·assumption
 ·simp
theorem qEL {n m:Nat} {a r:En'} {p:wO} (ha:okE n a) (hr:okE m r) (hp:p.2.1.length≤900000) (h:hears a r) {b:BB} (hb:qg8 b):∃ bs:List UInt64,bs.length=16 ∧
  qaH ((r.t,ptag p a.ring.1.2.1 (zA (j9 a b)),()),zA (j9 a b)++kN a.ring.1.2.1 (zA (j9 a b)),()) =
   some (({ r with win:=(a.seq+1,bs,()),ring:=qDd r a.ring.1.1 }.t,ptag p a.ring.1.2.1 (zA (j9 a b)),()),vY (j9 a b) (kN a.ring.1.2.1 (zA (j9 a b))),0,()):=by
 have hv:=qpW ha hb
 have ht:=qeA a.ring.1.2.1 (zA (j9 a b))
 have hl:=vN (j9 a b)
 have hbl:(j9 a b).2.2.2.2.2.1=b:=rfl
 have hb2:=hb.2
 have hkey:=hr.key
 have hrk:=qmQ ha.ring
 obtain ⟨bs,hm,hbs⟩:=qD1 r.win hr.win h.win.2 a.seq h.win.1 h.seq
 refine ⟨bs,hbs, ?_⟩
 unfold qaH
 dsimp only
 rw [qp6 _ (by rw [List.length_append,ht,hl,hbl];omega),qFk hv (show (j9 a b).2.2.1=_ from qHA a) ht]
 refine (qG rfl).trans ((qB rfl).trans ?_)
 dsimp only
 generalize htg:kN a.ring.1.2.1 (zA (j9 a b))=t at ht
 rw [qG9 ha hr h b t]
 refine (qG rfl).trans ((qB rfl).trans ?_)
 rw [show r.t.2.1=r.key from rfl,qp3 _ (by omega)]
 refine (qG rfl).trans ((qE rfl).trans ?_)
 rw [show r.t.2.2.2.2.2.2.2.2.2.2.1=r.ring from rfl,show (vY (j9 a b) t).2.2.2.1=a.ring.1.1 from rfl,qgB,h.find]
 refine (qG rfl).trans ?_
 rw [qoQ (vY (j9 a b) t) hv,show zA (vY (j9 a b) t)=zA (j9 a b) from rfl]
 refine (qG rfl).trans ?_
 dsimp only
 have hpl:(ptag p a.ring.1.2.1 (zA (j9 a b))).2.1.length≤900001:=by
  unfold ptag;split
  ·omega
  ·dsimp only;rw [List.length_append,List.length_singleton];omega
 rw [qoV _ _ _ _ (by omega) (by omega) (by rw [hl,hbl];omega),show (vY (j9 a b) t).2.2.2.2.2.2.1=t from rfl,← htg,qHz]
 refine (qG rfl).trans ((qB rfl).trans ((qB rfl).trans ?_))
 rw [show r.t.2.2.2.2.2.2.2.2.2.1=r.win from rfl,show (vY (j9 a b) (kN a.ring.1.2.1 (zA (j9 a b)))).2.2.2.2.1=a.seq from rfl,hm]
 refine (qG rfl).trans ((qB rfl).trans ?_)
 rw [show r.t.2.2.1=r.ph from rfl]
 unfold qDd
 by_cases h1:r.ring.2.2.1.1=a.ring.1.1
 ·by_cases h2:r.ph=4
  ·rw [if_neg (fun q=>q.2 h2)]
   refine (qG (a:=(false,())) ((qE (qfD h1)).trans (by rw [bq_f h2]))).trans ((qB rfl).trans rfl)
  ·rw [if_pos ⟨h1,h2⟩]
   refine (qG (a:=(true,())) ((qE (qfD h1)).trans (by rw [bq_t h2]))).trans ((qE rfl).trans ?_)
   rw [qp7 _ (qBb hr.ring)]
   rfl
 ·rw [if_neg (fun q=>h1 q.1)]
  refine (qG (a:=(false,())) (qB (wJ h1))).trans ((qB rfl).trans rfl)
theorem qHe {s:Si} {b:BB} (hb:qg8 b) (hl:z4 s.e.ph) (hq:s.e.seq≤900000) (hh:(qaZ s.e.hub).2.2.1=0):qd7 s b =
  (⟨{ s.e with hub:=(qaZ s.e.hub).1,out:=s.e.out++[((qaZ s.e.hub).2.1,yN (zA (j9 s.e b)++kN s.e.ring.1.2.1 (zA (j9 s.e b))),())],seq:=s.e.seq+1 },ptag s.p s.e.ring.1.2.1 (zA (j9 s.e b))⟩,0):=by
 unfold qd7 qm7
 rw [if_neg (not_not_intro hb),if_neg (not_not_intro hl),if_neg (by omega),if_pos hh]
 rfl
def twK (fill:UInt8):BB:=upd (rep 32 (u8 0)) 0 fill
def twN (g:Nat):BB:=if g=1 then [] else [u8 (g:Int)]
def twG (fill:UInt8) (g:Nat):BB:=keyD (twK fill) [3,4] (g:Int) (twN g)
def twR (fill:UInt8):Nat→qdZ
 | 0=>noR
 | 1=>((1,twG fill 1,()),noG,noG,0,1,())
 | g+2=>(((g+2:Nat),twG fill (g+2),()),((g+1:Nat),twG fill (g+1),()),noG,16,(g+2:Nat),())
def hub1:THub:=([true,false,false,false],[noF,noF,noF,noF],[1,0,0,0],0,())
def twE (i:Int) (fill:UInt8) (g:Nat):En':=⟨i,twK fill,3,newS, -1,3+i,4 - i,4,0,noW,twR fill g,noA,0,0,[],hub1,[],[],[0,0,0,0]⟩
def tw (i:Int) (fill:UInt8) (g:Nat):Si:=⟨twE i fill g,(true,[],false,())⟩
theorem qtR (fill:UInt8):(twK fill).length=32:=by unfold twK upd;rw [List.length_set];rfl
theorem qhS (fill:UInt8) {g:Nat} (hg:g≤2147483647):(twG fill g).length=32:=qBq ⟨by decide,by decide,by omega,by omega⟩
theorem qDS {a b:Int} {x y:BB} (h1:1≤b) (h2:b < a) (h3:a≤2147483647) (hx:x.length=32) (hy:y.length=32):qt0 ((a,x,()),(b,y,()),noG,16,a,()):=by
 have hb:¬ (b,y,())=noG:=fun h=>by
  have:b=0:=congrArg Prod.fst h
  omega
 refine .inr ⟨⟨by dsimp only;omega,h3,hx⟩,h3,Int.le_refl _, ?_, .inr ⟨hb,⟨h1,by dsimp only;omega,hy⟩,h2, ?_, ?_⟩, .inl rfl⟩
 ·show (0:Int)≤a;omega
 ·show (1:Int)≤16;omega
 ·show (16:Int)≤16;omega
theorem qDT {x:BB} (hx:x.length=32):qt0 ((1,x,()),noG,noG,0,1,()):=by
 refine .inr ⟨⟨?_, ?_,hx⟩, ?_, ?_, ?_, .inl ⟨rfl,rfl⟩, .inl rfl⟩
 ·show (1:Int)≤1;omega
 ·show (1:Int)≤2147483647;omega
 ·show (1:Int)≤2147483647;omega
 ·show (1:Int)≤1;omega
 ·show (0:Int)≤1;omega
theorem qE8 (fill:UInt8) {g:Nat} (hg:1≤g) (hg2:g≤100):qt0 (twR fill g):=by
 match g,hg with
 | 1,_=>exact qDT (qhS fill (by omega))
 | g+2,_=>exact qDS (b:=((g+1:Nat):Int)) (by omega) (by omega) (by omega) (qhS fill (by omega)) (qhS fill (by omega))
theorem qIt (i:Int) (hi:i=0∨i=1) (fill:UInt8) {g:Nat} (hg:1≤g) (hg2:g≤100):okS 0 (tw i fill g) where
 e:={
  id:=hi
  key:=by show (twK fill).length≤1000;rw [qtR];omega
  ph:=⟨by show (0:Int)≤3;omega,by show (3:Int)≤8;omega⟩
  store:=⟨qBf 1,List.length_replicate ..⟩
  own:=by show jB (3+i);rcases hi with rfl | rfl <;> decide
  oth:=by show jB (4 - i);rcases hi with rfl | rfl <;> decide
  seq:=by show jB 0;decide
  ring:=qE8 fill hg hg2
  up:=rfl
  next:=by show (0:Int)≤0∧(0:Int) < 4;omega
  out:=Nat.le_refl _
  got:=Nat.le_refl _
  cnt:=rfl
  win:=rfl
  feed:=rfl
  life:=rfl
  queue:=by show ([]:List BB).length≤1000;simp }
 p:=Nat.le_refl _
theorem qKJ:qjR (([false,false,false,false],[(none' UInt8,0,0,()),(none' UInt8,0,0,()),(none' UInt8,0,0,()),(none' UInt8,0,0,())],[0,0,0,0],0,()),0,())=some (hub1,0,()):=by kernel_rfl
def upH (h:THub):Prop:=h.1=[true,false,false,false]∧0≤h.2.2.2.1∧h.2.2.2.1 < 4
theorem qG4:upH hub1:=⟨rfl,by show (0:Int)≤0;omega,by show (0:Int) < 4;omega⟩
theorem qJh {h:THub} (hu:upH h):(qaZ h).2.2.1=0∧upH (qaZ h).1:=by
 refine ⟨?_,(qCT h).trans hu.1,qt2 hu.2⟩
 obtain ⟨u,f,l,n,⟨⟩⟩:=h
 obtain ⟨h1,h2,h3⟩:=hu
 dsimp only at h1 h2 h3
 subst h1
 have hc:qKM [true,false,false,false] n.toNat=some 0:=by
  have:n=0∨n=1∨n=2∨n=3:=by omega
  rcases this with rfl | rfl | rfl | rfl <;> decide
 unfold qaZ
 dsimp only
 rw [hc]
def qkK (s:Si) (b:BB):Si:=⟨{ s.e with hub:=(qaZ s.e.hub).1,out:=s.e.out++[((qaZ s.e.hub).2.1,yN (zA (j9 s.e b)++kN s.e.ring.1.2.1 (zA (j9 s.e b))),())],seq:=s.e.seq+1 },ptag s.p s.e.ring.1.2.1 (zA (j9 s.e b))⟩
theorem qpX {s:Si} {b:BB} (hb:qg8 b) (hl:z4 s.e.ph) (hq:s.e.seq≤900000) (hu:upH s.e.hub):qd7 s b=(qkK s b,0):=qHe hb hl hq (qJh hu).1
def qaF (n:v8):BB:=wrM (msgN n)
theorem qdX {n:v8} (h:jF n):qg8 (qaF n):=⟨by
 unfold qaF wrM
 rw [List.length_append,List.length_append,x7]
 split <;> omega,qIQ h⟩
theorem qsB {n:v8} (h:jF n):rdN (qaF n)=(n,0,()):=qKH h
theorem qx1 (n:Int):1≤wU n∧wU n≤999999:=by unfold wU;split <;> omega
def stN (s:Si) (q:v8):v8:=(q.1,q.2.1,wU s.e.stan,q.2.2.2)
theorem qDz {s:Si} {q:v8} (hr:jF (stN s q)):qsE q.2.1 (wU s.e.stan) (qaF (stN s q))=((q.2.1,wU s.e.stan,8,3,qaF (stN s q),()),0,()):=by
 unfold qsE
 rw [if_pos]
 have h:=qx1 s.e.stan
 exact ⟨hr.1,h.1,h.2,(qdX hr).1,(qdX hr).2⟩
def askS (s:Si) (q:v8):Si:=⟨{ s.e with stan:=wU s.e.stan,ask:=(q.2.1,wU s.e.stan,8,3,qaF (stN s q),()) },s.p⟩
theorem qGX {s:Si} {q:v8} (hr:jF (stN s q)):quX s q=askS s q:=by
 unfold quX askS
 have e:wrN (q.1,q.2.1,wU s.e.stan,q.2.2.2)=(qaF (stN s q),0,()):=qIP hr
 rw [e,qDz hr]
theorem qFp {s:Si} {q:v8} (hr:jF (stN s q)) (h1:¬ q.2.1=1) (hl:z4 s.e.ph) (hq:s.e.seq≤900000) (hu:upH s.e.hub):qqJ s q=qkK (askS s q) (qaF (stN s q)):=by
 have e:wrN (q.1,q.2.1,wU s.e.stan,q.2.2.2)=(qaF (stN s q),0,()):=qIP hr
 unfold qqJ
 rw [e,qGX hr,qDz hr,if_pos ⟨rfl,rfl⟩,if_neg h1]
 exact congrArg Prod.fst (qpX (s:=askS s q) (qdX hr) hl hq hu)
def ackN (n:v8) (res:Int):v8:=(false,n.2.1,n.2.2.1,res,0,[],[],0,())
theorem qu0 {n:v8} (h:jF n) {res:Int} (h0:0≤res) (h9:res≤99):jF (ackN n res):=by
 refine ⟨h.1,h.2.1,h.2.2.1,h0,h9,(fun h=>by cases h), ?_⟩
 unfold quC
 rw [if_neg (fun q=>by cases q.1)]
 refine ⟨rfl,rfl,rfl, ?_⟩
 rw [if_neg (fun q=>by cases q.1)];rfl
theorem qFf {n:v8} (h:jF n) (hq:n.1=true) {res:Int} (h0:0≤res) (h9:res≤99):qyL n res=qaF (ackN n res):=by
 unfold qyL ansN
 rw [if_neg (by rw [hq];intro h;cases h),if_neg (by omega)]
 exact congrArg Prod.fst (qIP (qu0 h h0 h9))
end Yp
namespace Yp
open Go
set_option maxRecDepth 100000
set_option maxHeartbeats 2000000
theorem qJr {n:Nat} {s:Si} (h:okS n s) (q:v8):okS n (askS s q):=⟨{ h.e with },h.p⟩
theorem qGm {r:En'} {g:Int} (h:¬ r.ring.2.2.1.1=g):qDd r g=r.ring:=by unfold qDd;rw [if_neg (fun q=>h q.1)]
theorem qzS {r:qdZ} (h:1≤r.1.1):qGz r r.1.1=(r.1.2.1,true,()):=by unfold qGz;rw [if_neg (by omega),if_pos rfl]
section
variable (i : Int) (fill : UInt8) (g : Nat) (nonce : BB)
end
end Yp
namespace Yp
open Go
set_option maxRecDepth 100000
set_option maxHeartbeats 2000000
set_option linter.unusedSectionVars false
section
variable {i : Int} (hi : i = 0 ∨ i = 1) (fill : UInt8) {g : Nat} (hg : 1 ≤ g) (hg2 : g ≤ 50) {nonce : BB} (h8 : nonce.length = 8) (bs bs' : List UInt64)
include hi hg hg2 h8
end
end Yp
namespace Yp
open Go
set_option maxRecDepth 100000
set_option maxHeartbeats 2000000
theorem qDU {l:List V}:∀ {last:Int},last≤128→zU last l=true→(l.length:Int)≤128 - last:=by
 induction l with
 | nil=>intro last h _;simp;omega
 | cons v l ih =>
  intro last h hr
  have h1:=xF hr v (List.mem_cons_self ..)
  have h2:=qv7 h1.2
  have h3:zU v.1 l=true:=by
   unfold zU at hr
   rw [Bool.and_eq_true,Bool.and_eq_true] at hr
   exact hr.2.2
  have:=ih h2.2.1 h3
  simp only [List.length_cons]
  omega
theorem qjQ {m:M} (h:xE m=true):m.2.1.length≤128∧fewM m:=by
 have hr:=(x3.1 h).1
 have hl:=qDU (by omega) hr
 exact ⟨by omega,by omega,fun v hv=>by have:=qDl (xF hr v hv).2;omega⟩
def clsD (m:Int):Int:=if jO m then m / 100 else 0
def qu3 (m:Int):Prop:=clsD m=1∨clsD m=2∨clsD m=4
instance (m:Int):Decidable (qu3 m):=by unfold qu3;infer_instance
theorem qdO (m:M):wH (m,())=some (D (qu3 m.1),()):=by
 unfold wH qu3
 dsimp only
 rw [show qgY (m.1,())=some (clsD m.1,()) from qs4 m.1]
 refine (qG rfl).trans ?_
 dsimp only
 generalize clsD m.1=c
 by_cases h1:c=1
 ·subst h1;rw [D_t (.inl rfl)];rfl
 by_cases h2:c=2
 ·subst h2;rw [D_t (.inr (.inl rfl))];rfl
 by_cases h4:c=4
 ·subst h4;rw [D_t (.inr (.inr rfl))];rfl
 rw [D_f (by omega),wJ h1,wJ h2,wJ h4];rfl
def qyC (m:M):Prop:=(getR 39 m.2.1).2.1=true∧(getR 39 m.2.1).1=[57,49]
instance (m:M):Decidable (qyC m):=by unfold qyC;infer_instance
theorem qE0 (g:BB×Bool×Unit):(ob (sel g.2.1 (some (seq g.1 [57,49],())) (some (false,()))) fun (a:Bool×Unit)=>(some (a.1,()):Option (Bool×Unit)))=some (D (g.2.1=true∧g.1=[57,49]),()):=by
 obtain ⟨b,e,⟨⟩⟩:=g
 cases e
 ·rw [D_f (fun h=>Bool.false_ne_true h.1)];rfl
 ·refine (qG rfl).trans ?_
  by_cases h:b=[57,49]
  ·rw [D_t ⟨rfl,h⟩,qHc h]
  ·rw [D_f (fun x=>h x.2),qI3 h]
theorem qs5 {m:M} (hr:zU 0 m.2.1=true) (hl:m.2.1.length≤1000000):qdP (m,())=some (D (qyC m),()):=by
 unfold qdP qyC
 dsimp only
 rw [qnX _ _ hl,qzN hr]
 exact (qG rfl).trans (qE0 _)
def stM (m:M) (day:Int):M:=(m.1,setR m.2.1 (15,dg day 6,()),())
def badS (b:BB) (day:Int):Prop:=day < 0∨999999 < day∨¬ (rdM b).2.1=0∨¬ qu3 (rdM b).1.1∨qyC (rdM b).1
instance (b:BB) (day:Int):Decidable (badS b day):=by unfold badS;infer_instance
def qfF (b:BB) (day:Int):BB×Int :=
 if badS b day then ([],1) else if 900 < (wrM (stM (rdM b).1 day)).length then ([],4) else (wrM (stM (rdM b).1 day),0)
theorem qIG (day:Int):xA 15 (dg day 6)=true:=qbD (no:=15) (w:=6) fo15 (by omega)
theorem qx2 {m:M} (h:xE m=true) (day:Int):xE (stM m day)=true:=by
 have h1:=x3.1 h
 exact x3.2 ⟨qDQ (x:=(15,dg day 6,())) (qIG day) (by show (0:Int) < 15;omega) h1.1,h1.2⟩
theorem qFl {b:BB} (h:(rdM b).2.1=0):xE (rdM b).1=true∧wrM (rdM b).1=b:=by
 exact qqI (b:=b) (Prod.ext rfl (Prod.ext h rfl))
theorem qDO {day:Int} (h0:0≤day) (h1:day≤999999):x6 (day,6,())=some (dg day 6,0,())∧j5 (day,6,())=some (dg day 6,0,()):=by
 rw [yF _ _ (by omega),vM _ _ (by omega),if_pos ⟨by omega,by omega,h0,by show day < 10 ^ 6;omega⟩]
 exact ⟨rfl,rfl⟩
theorem qDN {m:M} (hm:xE m=true) (day:Int) {e:Int}:(sel (lt 900 (len (wrM (stM m day)))) (some (none' UInt8,4,())) (some (wrM (stM m day),0,())):Option (BB×Int×Unit))=some ((if 900 < (wrM (stM m day)).length then (([]:BB),(4:Int)) else (wrM (stM m day),0)).1,(if 900 < (wrM (stM m day)).length then (([]:BB),(4:Int)) else (wrM (stM m day),0)).2,()):=by
 by_cases h:900 < (wrM (stM m day)).length
 ·rw [if_pos h];exact qE (by simp only [go_sem,Int.reduceToNat];omega)
 ·rw [if_neg h];exact qB (by simp only [go_sem,Int.reduceToNat];omega)
theorem qg4 (b:BB) (day:Int) (hb:b.length≤1000000):qdS (b,day,())=some ((qfF b day).1,(qfF b day).2,()):=by
 unfold qdS qfF
 rw [qlI _ hb]
 refine (qG rfl).trans ?_
 dsimp only
 by_cases h1:day < 0
 ·rw [if_pos (show badS b day from .inl h1)]
  exact (qG (qE (by simp only [go_sem,Int.reduceToNat];omega))).trans rfl
 by_cases h2:999999 < day
 ·rw [if_pos (show badS b day from .inr (.inl h2))]
  exact (qG ((qB (by simp only [go_sem,Int.reduceToNat];omega)).trans (qE (by simp only [go_sem,Int.reduceToNat];omega)))).trans rfl
 by_cases h3:(rdM b).2.1=0
 ·obtain ⟨hr,hw⟩:=qFl h3
  obtain ⟨hl,hf⟩:=qjQ hr
  have hr0:=(x3.1 hr).1
  rw [qdO,qs5 hr0 (by omega)]
  by_cases h4:qu3 (rdM b).1.1
  ·by_cases h5:qyC (rdM b).1
   ·rw [if_pos (show badS b day from .inr (.inr (.inr (.inr h5)))),D_t h4,D_t h5]
    exact (qG ((qB (by simp only [go_sem,Int.reduceToNat];omega)).trans ((qB (by simp only [go_sem,Int.reduceToNat];omega)).trans ((qB (bq_f h3)).trans rfl)))).trans rfl
   ·rw [if_neg (show ¬ badS b day by rintro (h | h | h | h | h) <;> first | exact h1 h | exact h2 h | exact h h3 | exact h h4 | exact h5 h),D_t h4,D_f h5]
    refine (qG (a:=(false,())) ((qB (by simp only [go_sem,Int.reduceToNat];omega)).trans ((qB (by simp only [go_sem,Int.reduceToNat];omega)).trans ((qB (bq_f h3)).trans rfl)))).trans ((qB rfl).trans ?_)
    rw [(qDO (by omega) (by omega)).1]
    refine (qG rfl).trans ((qH (by simp only [go_sem,Int.reduceToNat,z9];omega)).trans ?_)
    rw [show jR ((rdM b).1,15,(dg day 6,(0:Int),()).1,())=some (stM (rdM b).1 day,0,()) by
     rw [qnW _ _ _ (by omega) (by rw [z9];omega)]
     unfold qHb
     rw [if_neg (by rw [fo15];simp),if_pos (qIG day),qDH hr0];rfl]
    refine (qG rfl).trans ?_
    have hs:=qx2 hr day
    rw [qi5 _ (qjQ hs).2,if_pos hs]
    exact (qG rfl).trans (qDN hr day (e:=0))
  ·rw [if_pos (show badS b day from .inr (.inr (.inr (.inl h4)))),D_f h4]
   exact (qG ((qB (by simp only [go_sem,Int.reduceToNat];omega)).trans ((qB (by simp only [go_sem,Int.reduceToNat];omega)).trans ((qB (bq_f h3)).trans rfl)))).trans rfl
 ·rw [if_pos (show badS b day from .inr (.inr (.inl h3)))]
  exact (qG ((qB (by simp only [go_sem,Int.reduceToNat];omega)).trans ((qB (by simp only [go_sem,Int.reduceToNat];omega)).trans (qE (bq_t h3))))).trans rfl
instance (n:v8):Decidable (fewN n):=by unfold fewN;infer_instance
end Yp
namespace Yp
open Go
set_option maxRecDepth 100000
set_option maxHeartbeats 2000000
set_option linter.unusedSectionVars false
section
variable {i : Int} (hi : i = 0 ∨ i = 1) (fill : UInt8) {g : Nat} (hg : 1 ≤ g) (hg2 : g ≤ 50) {nonce : BB} (h8 : nonce.length = 8) (bs bs' : List UInt64)
include hi hg hg2 h8
end
end Yp
namespace Yp
open Go
set_option maxRecDepth 100000
set_option maxHeartbeats 2000000
set_option linter.unusedSectionVars false
section
variable (fill : UInt8) {g : Nat} (hg : 1 ≤ g) (hg2 : g ≤ 50) {nonce : BB} (h8 : nonce.length = 8)
include hg hg2 h8
end
end Yp
namespace Yp
open Go
set_option maxRecDepth 100000
set_option maxHeartbeats 2000000
def quB (s:Si) (p:Int):Si:=⟨qHL s.e p,s.p⟩
theorem qHK (e:En') (p:Int):(qHL e p).got.length≤e.got.length+1:=by
 show (if z4 e.ph then e.got++[(5,qdC e,0,[],())] else e.got).length≤_
 split
 ·rw [List.length_append];exact Nat.le_refl _
 ·omega
theorem qFM {n:Nat} {s:Si} (h:okS n s) {p:Int} (h0:0≤p) (h8:p≤8):okS (n+1) (quB s p):=by
 refine ⟨{ qo9 h.e (Nat.le_succ n) with ph:=⟨h0,h8⟩,own:=by show jB 0;decide,oth:=by show jB 0;decide,seq:=by show jB 0;decide,ring := .inl rfl,got := ?_,win:=rfl,queue:=by show ([]:List BB).length≤1000;simp },Nat.le_succ_of_le h.p⟩
 have h1:=qHK s.e p
 have h2:=h.e.got
 exact Nat.le_trans h1 (by omega)
def phS (s:Si) (p:Int):Si:=⟨{ s.e with ph:=p },s.p⟩
theorem qFL {n:Nat} {s:Si} (h:okS n s) {p:Int} (h0:0≤p) (h8:p≤8):okS n (phS s p):=⟨{ h.e with ph:=⟨h0,h8⟩ },h.p⟩
def evS (s:Si) (k n:Int) (b:BB):Si:=⟨{ s.e with got:=s.e.got++[(k,qdC s.e,n,b,())] },s.p⟩
theorem qKW {n:Nat} {s:Si} (h:okS n s) (k q:Int) (b:BB):okS (n+1) (evS s k q b):=by
 refine ⟨{ qo9 h.e (Nat.le_succ n) with got := ?_ },Nat.le_succ_of_le h.p⟩
 have:=h.e.got
 show (s.e.got++[(k,qdC s.e,q,b,())]).length≤n+1
 rw [List.length_append,List.length_singleton];omega
theorem qg3 {s:Si} {n:Nat} (hs:okS n s) (hn:n≤900000) (k q:Int) (b:BB):qdR (s.t,k,q,b,())=some ((evS s k q b).t,()):=by
 have hg:=hs.e.got
 unfold qdR
 dsimp only
 rw [show s.t.1.2.2.2.2.2.2.2.2.2.2.2.2.2.2.2.2.2.1=s.e.got from rfl,qEe]
 refine (qG rfl).trans ?_
 rw [show kY (s.t.1,())=_ from qcC s.e]
 refine (qG rfl).trans ?_
 refine (qH (by simp only [go_sem,Int.reduceToNat];simp;omega)).trans ?_
 rfl
def popS (s:Si) (q:List BB):Si:=⟨{ s.e with queue:=q },s.p⟩
theorem qFK {n:Nat} {s:Si} (h:okS n s) {q:List BB} (hq:q.length≤1000):okS n (popS s q):=⟨{ h.e with queue:=hq },h.p⟩
def qDV:Nat→Si→Si
 | 0,s=>s
 | n+1,s=>match s.e.queue with
  | []=>s
  | b :: q=>if (qd7 s b).2=0 then qDV n (popS (qd7 s b).1 q) else s
def qJg (s:Si):Si:=qDV s.e.queue.length s
theorem qFs {f:y5×Unit→Option (LS (y5×Unit) (y5×Unit))}
  (h0:∀ s n,okS n s→n≤900000→s.e.queue=[]→f (s.t,())=some (.ex 0 (s.t,())))
  (h1:∀ s n b q,okS n s→n≤900000→s.e.queue=b :: q→(qd7 s b).2=0→f (s.t,())=some (.nx ((popS (qd7 s b).1 q).t,())))
  (h2:∀ s n b q,okS n s→n≤900000→s.e.queue=b :: q→¬ (qd7 s b).2=0→f (s.t,())=some (.ex 0 (s.t,()))∨f (s.t,())=some (.rt (s.t,()))) :
  ∀ k (s:Si) n,okS n s→n+k≤900000→s.e.queue.length=k →
   lc (loop f (s.t,())) (fun (_:y5×Unit)=>none) (fun (i:Nat) (a:y5×Unit)=>ck (neb i 0) (some (a.1,()))) (fun (r:y5×Unit)=>some r)=some ((qDV k s).t,()):=by
 intro k
 induction k with
 | zero =>
  intro s n hs hn hk
  exact (zH (qT (h0 s n hs (by omega) (List.length_eq_zero_iff.1 hk)))).trans rfl
 | succ k ih =>
  intro s n hs hn hk
  obtain ⟨b,q,hq⟩:∃ b q,s.e.queue=b :: q:=by
   cases h:s.e.queue with
   | nil=>rw [h] at hk;cases hk
   | cons b q=>exact ⟨b,q,rfl⟩
  have hl:q.length=k:=by rw [hq,List.length_cons] at hk;omega
  have hq1:=hs.e.queue
  rw [hq,List.length_cons] at hq1
  unfold qDV
  rw [hq]
  dsimp only
  by_cases h:(qd7 s b).2=0
  ·rw [if_pos h]
   exact (zH (vR (h1 s n b q hs (by omega) hq h))).trans (ih _ (n+1) (qFK (qCZ hs b) (by omega)) (by omega) hl)
  ·rw [if_neg h]
   rcases h2 s n b q hs (by omega) hq h with h' | h'
   ·exact (zH (qT h')).trans rfl
   ·exact (zH (qgR h')).trans rfl
theorem take_nil {q:List BB} (h:q=[]):qc7 (q,())=some ([],[],false,()):=by subst h;rfl
theorem qxZ {q r:List BB} {b:BB} (h:q=b :: r) (hl:q.length≤1000000):qc7 (q,())=some (b,r,true,()):=by
 subst h
 have hl':r.length+1≤1000000:=hl
 unfold qc7
 dsimp only
 refine (qB (by simp only [go_sem,Int.reduceToNat];simp only [List.length_cons];omega)).trans ((qH (by simp only [go_sem,Int.reduceToNat];simp only [List.length_cons];omega)).trans ((qH (by simp only [go_sem,Int.reduceToNat];simp only [List.length_cons];omega)).trans ?_))
 unfold kK
 dsimp only
 rw [show sub (b :: r) 1 (len (b :: r))=r by simp [sub,len]]
 refine (qG (qH (by simp only [go_sem,Int.reduceToNat];omega))).trans rfl
theorem qi6 {s:Si} {n:Nat} (hs:okS n s) (hn:n≤800000):qg5 (s.t,())=some ((qJg s).t,()):=by
 unfold qg5
 have hq:=hs.e.queue
 refine qFs ?_ ?_ ?_ s.e.queue.length s n hs (by omega) rfl
 ·intro s n hs hn h
  exact (z6 (take_nil h)).trans rfl
 ·intro s n b q hs hn h hz
  have hq:=hs.e.queue
  refine (z6 (qxZ h (by omega))).trans ((qG rfl).trans ((qB rfl).trans ?_))
  refine (z6 (y9 hs hn b)).trans ((qG rfl).trans ((qB (bq_f hz)).trans ?_))
  rfl
 ·intro s n b q hs hn h hz
  have hq:=hs.e.queue
  refine .inl ((z6 (qxZ h (by omega))).trans ((qG rfl).trans ((qB rfl).trans ?_)))
  exact (z6 (y9 hs hn b)).trans ((qG rfl).trans (qE (bq_t hz)))
def putQ (q:List BB) (b:BB):List BB×Int:=if 8≤q.length then (q,8) else (q++[b],0)
theorem qsX (q:List BB) (b:BB):qk5 (q,b,8,())=some ((putQ q b).1,(putQ q b).2,()):=by
 unfold qk5 putQ qc8
 dsimp only
 rw [if_neg (by omega)]
 by_cases h:8 < (q.length:Int)
 ·rw [if_pos h,if_pos (by omega)];rfl
 ·rw [if_neg h]
  refine (qG rfl).trans ?_
  dsimp only
  rw [show (8:Int).toNat=8 from rfl,List.length_singleton]
  by_cases h8:q.length=8
  ·rw [if_pos (by omega),h8];rfl
  ·rw [if_neg (by omega),show min (8 - q.length) 1=1 by omega,List.take_of_length_le (by rw [List.length_singleton];omega)];rfl
def subS (s:Si) (b:BB):Si×Int :=
 if ¬ (qfF b s.e.day).2=0 then (s,(qfF b s.e.day).2) else if ¬ qm2 s.e.ph then (s,7)
 else if ¬ (putQ s.e.queue (qfF b s.e.day).1).2=0 then (s,(putQ s.e.queue (qfF b s.e.day).1).2)
 else (qJg (evS (popS s (putQ s.e.queue (qfF b s.e.day).1).1) 1 0 (qfF b s.e.day).1),0)
theorem qHs {q:List BB} {b:BB} (h:q.length≤1000):(putQ q b).1.length≤1000:=by
 unfold putQ
 split
 ·exact h
 ·rw [List.length_append,List.length_singleton];omega
theorem qfO {s:Si} {n:Nat} (hs:okS n s) (hn:n≤700000) (b:BB) (hb:b.length≤1000000):qbB (s.t,b,())=some ((subS s b).1.t,(subS s b).2,()):=by
 unfold qbB subS
 refine (z6 (qg4 b s.e.day hb)).trans ((qG rfl).trans ?_)
 generalize qfF b s.e.day=r
 obtain ⟨o,e⟩:=r
 dsimp only
 by_cases h0:e=0
 ·subst h0
  rw [if_neg (by simp)]
  refine (qB rfl).trans ((z6 (qa1 s.e.ph)).trans ((qG rfl).trans ?_))
  by_cases hg:qm2 s.e.ph
  ·rw [if_neg (not_not_intro hg)]
   refine (qB (by rw [D_t hg];rfl)).trans ((z6 (qsX s.e.queue o)).trans ((qG rfl).trans ?_))
   have hl:=qHs (b:=o) hs.e.queue
   generalize putQ s.e.queue o=p at hl ⊢
   obtain ⟨q,c⟩:=p
   dsimp only at hl ⊢
   by_cases hc:c=0
   ·subst hc
    rw [if_neg (by simp)]
    have h1:=qFK hs hl
    refine (qB rfl).trans ((z6 (qg3 h1 (by omega) 1 0 o)).trans ((qG rfl).trans ?_))
    exact (z6 (qi6 (qKW h1 1 0 o) (by omega))).trans rfl
   ·rw [if_pos hc]
    exact qE (bq_t hc)
  ·rw [if_pos hg]
   exact qE (by rw [D_f hg];rfl)
 ·rw [if_pos h0]
  exact qE (bq_t h0)
def dayQ (day:Int):v8:=(true,201,0,0,0,[],[],day,())
def qBH (s:Si) (day:Int):Si×Int :=
 if day≤s.e.day∨999999 < day then (s,1) else if ¬ qm2 s.e.ph then (s,7) else if ¬ s.e.ph=3∨¬ s.e.ask.1=0 then (s,9)
 else (qqJ (phS s 5) (dayQ day),0)
theorem qC2 {n:Nat} {s:Si} (h:okS n s) (day:Int):okS (n+1) (qBH s day).1:=by
 unfold qBH
 split
 ·exact qaB h (by omega)
 split
 ·exact qaB h (by omega)
 split
 ·exact qaB h (by omega)
 ·exact qFJ (qFL h (by omega) (by omega)) _
theorem qFy:qdA (3,7,())=some (5,true,()):=rfl
theorem qFx:qdA (5,8,())=some (3,true,()):=rfl
theorem qi7 {s:Si} {n:Nat} (hs:okS n s) (hn:n≤900000) (day:Int):qg7 (s.t,day,())=some ((qBH s day).1.t,(qBH s day).2,()):=by
 unfold qg7 qBH
 dsimp only
 rw [show s.t.1.2.2.2.2.2.2.2.2.2.2.2.2.2.1=s.e.day from rfl,show s.t.1.2.2.1=s.e.ph from rfl,show s.t.1.2.2.2.2.2.2.2.2.2.2.2.1.1=s.e.ask.1 from rfl]
 by_cases h1:day≤s.e.day∨999999 < day
 ·rw [if_pos h1]
  refine (qG (a:=(true,())) ?_).trans rfl
  simp only [go_sem,Int.reduceToNat]
  exact qCB h1
 ·rw [if_neg h1]
  refine (qG (a:=(false,())) (by simp only [go_sem,Int.reduceToNat];exact qmL (by omega))).trans ((qB rfl).trans ?_)
  rw [qa1]
  refine (qG rfl).trans ?_
  by_cases h2:qm2 s.e.ph
  ·rw [if_neg (not_not_intro h2),D_t h2]
   refine (qB rfl).trans ?_
   by_cases h3:¬ s.e.ph=3∨¬ s.e.ask.1=0
   ·rw [if_pos h3]
    refine (qG (a:=(true,())) (by simp only [go_sem,Int.reduceToNat];exact qCB h3)).trans rfl
   ·rw [if_neg h3]
    refine (qG (a:=(false,())) (by simp (disch:=omega) only [go_sem,Int.reduceToNat];exact qmL (fun h=>h3 (.inr h)))).trans ((qB rfl).trans ?_)
    simp only [not_or,Classical.not_not] at h3
    rw [h3.1,qFy]
    refine (qG rfl).trans ?_
    exact (z6 (qkF (qFL hs (p:=5) (by omega) (by omega)) hn (dayQ day))).trans rfl
  ·rw [if_pos h2,D_f h2];rfl
def givG (s:Si):Si:=if s.e.ph=5 then ⟨qFH s.e,s.p⟩ else s
theorem qcF {s:Si} (h:s.e.ph=5):qdQ (s.t,())=some ((⟨qFH s.e,s.p⟩:Si).t,()):=by
 unfold qdQ
 rw [show (s.t,()).1.1.2.2.1=5 from h,qFx];rfl
theorem qq7 (s:Si):qiJ (s.t,())=some ((givG s).t,()):=by
 unfold qiJ givG
 by_cases h:s.e.ph=5
 ·rw [if_pos h]
  refine (qB (bq_f h)).trans ?_
  exact (z6 (qcF h)).trans rfl
 ·rw [if_neg h]
  exact qE (bq_t h)
def qqY (s:Si) (day:Int):Si:=⟨{ s.e with day:=maxI s.e.day day },s.p⟩
theorem qC0 {n:Nat} {s:Si} (h:okS n s) (day:Int):okS n (qqY s day):=⟨{ h.e with },h.p⟩
def qJ0 (s:Si) (n:v8):Si:=(qd7 (qqY s n.2.2.2.2.2.2.2.1) (qyL n 0)).1
theorem qg6 {s:Si} {m:Nat} (hs:okS m s) (hm:m≤900000) (n:v8):qdT (s.t,n,())=some ((qJ0 s n).t,()):=by
 unfold qdT
 exact qIc (qC0 hs n.2.2.2.2.2.2.2.1) hm n 0
noncomputable def agrS (s:Si) (n:v8):Si :=
 if ¬ s.e.ph=5∨¬ qt9 s.e.ask n.2.1 n.2.2.1 then qGF s 3
 else if n.2.2.2.1=0 then qqY ⟨qFH s.e,s.p⟩ (rdN s.e.ask.2.2.2.2.1).1.2.2.2.2.2.2.2.1 else ⟨qFH s.e,s.p⟩
theorem qfP {s:Si} (n:v8) (hb:s.e.ask.2.2.2.2.1.length≤1000000):qbC (s.t,n,())=some ((agrS s n).t,()):=by
 unfold qbC agrS
 dsimp only
 rw [show s.t.1.2.2.1=s.e.ph from rfl,show s.t.1.2.2.2.2.2.2.2.2.2.2.2.1=s.e.ask from rfl,qtM]
 by_cases h5:s.e.ph=5
 ·by_cases hm:qt9 s.e.ask n.2.1 n.2.2.1
  ·rw [if_neg (fun h=>h.elim (fun h=>h h5) (fun h=>h hm)),D_t hm]
   refine (qG (a:=(false,())) ((qB (bq_f h5)).trans rfl)).trans ((qB rfl).trans ?_)
   rw [qsY _ hb]
   refine (qG rfl).trans ?_
   by_cases hr:n.2.2.2.1=0
   ·rw [if_pos hr]
    refine (qE (qfD hr)).trans ?_
    exact (z6 (qcF (s:=qqY s (rdN s.e.ask.2.2.2.2.1).1.2.2.2.2.2.2.2.1) h5)).trans rfl
   ·rw [if_neg hr]
    refine (qB (wJ hr)).trans ?_
    exact (z6 (qcF h5)).trans rfl
  ·rw [if_pos (.inr hm),D_f hm]
   exact (qG (a:=(true,())) ((qB (bq_f h5)).trans rfl)).trans ((qE rfl).trans (quR s))
 ·rw [if_pos (.inl h5)]
  exact (qG (a:=(true,())) (qE (bq_t h5))).trans ((qE rfl).trans (quR s))
def oqS (h:THub):Si:=⟨{ twE 0 (u8 0) 1 with hub:=h },(true,[],false,())⟩
theorem qFG:qdK (true,())=some ((oqS hub1).t,()):=by
 unfold qdK
 refine (qH rfl).trans ?_
 rw [show rep (nat 32) (u8 0)=twK (u8 0) from rfl,show qf8 (twK (u8 0),[3,4],1,none' UInt8,())=_ from qsM (twK (u8 0)) [3,4] 1 [] (by rw [qtR];omega) (by simp)]
 refine (qG rfl).trans ?_
 dsimp only
 rw [show keyD (twK (u8 0)) [3,4] 1 []=twG (u8 0) 1 from rfl,qsP,show newR (twG (u8 0) 1)=(twR (u8 0) 1,0,()) by unfold newR;rw [if_pos (qhS (u8 0) (by omega))];rfl]
 refine (qG rfl).trans ((qE rfl).trans ?_)
 dsimp only
 rw [qKJ]
 refine (qG rfl).trans ?_
 rw [qsO]
 refine (qG rfl).trans ?_
 exact (qG (o:=qk1 _) rfl).trans rfl
theorem qKV {h:THub} (h1:h.1.length=4) (h2:0≤h.2.2.2.1∧h.2.2.2.1 < 4) (h3:h.2.1.length=4) (h4:h.2.2.1.length=4):okS 0 (oqS h):=by
 have:=qIt 0 (.inl rfl) (u8 0) (g:=1) (by omega) (by omega)
 exact ⟨{ this.e with up:=h1,next:=h2,feed:=h3,life:=h4 },this.p⟩
theorem qJq:okS 0 (oqS hub1):=qKV rfl ⟨by show (0:Int)≤0;omega,by show (0:Int) < 4;omega⟩ rfl rfl
def payM (mti:Int):M:=(mti,[(11,[48,48,48,48,48,55],())],())
def payB (mti:Int):BB:=wrM (payM mti)
theorem qiE {mti:Int} (h:mti=200∨mti=400):xE (payM mti)=true:=by rcases h with rfl | rfl <;> decide
theorem qo8 {mti:Int} (h:mti=200∨mti=400):qa8 (mti,())=some (payB mti,()):=by
 unfold qa8
 have hr:=qiE h
 rw [show v5 ((mti,[(11,[u8 48,u8 48,u8 48,u8 48,u8 48,u8 55],())],()),())=v5 (payM mti,()) from rfl,qfK _ (qjQ hr).2,if_pos hr];rfl
def payD (day:Int):M:=(200,[(11,[48,48,48,48,48,55],()),(15,dg day 6,())],())
theorem qEP (day:Int):stM (payM 200) day=payD day:=rfl
theorem qt3 (day:Int):xE (payD day)=true:=qx2 (qiE (.inl rfl)) day
theorem qk6 (day:Int):qg8 (wrM (payD day)):=by
 refine ⟨?_, ?_⟩
 ·unfold wrM
  rw [List.length_append,List.length_append,x7]
  split <;> omega
 ·have:=qEC (qt3 day)
  have h:((payD day).2.1.map (fun v=>v.2.1.length+2)).sum=16:=by
   show 6+2+((dg day 6).length+2+0)=16
   rw [z9]
  omega
theorem qpR {day:Int} (h0:0≤day) (h1:day≤999999):qfF (payB 200) day=(wrM (payD day),0):=by
 have hr:rdM (payB 200)=(payM 200,0,()):=qo5 (qiE (.inl rfl))
 unfold qfF
 rw [if_neg,hr]
 ·rw [if_neg,qEP]
  have:=(qk6 day).2
  show ¬ 900 < (wrM (stM (payM 200) day)).length
  rw [qEP];omega
 ·unfold badS
  rw [hr]
  rintro (h | h | h | h | h)
  ·omega
  ·omega
  ·exact h rfl
  ·exact h (by show qu3 200;decide)
  ·exact absurd h (by show ¬ qyC (payM 200);decide)
theorem qHd (s:Si) (b:BB):(qd7 s b).1.e.day=s.e.day:=by
 unfold qd7
 split
 ·rfl
 split
 ·rfl
 split
 ·rfl
 have h:(qm7 s (j9 s.e b) s.e.ring.1.2.1).1.e.day=s.e.day:=by unfold qm7;split <;> rfl
 dsimp only
 split <;> exact h
def zO (day:Int):BB:=wrM (payD day)
def zX:Si:=popS (qkK (evS (popS (oqS hub1) [zO 0]) 1 0 (zO 0)) (zO 0)) []
theorem qLz:subS (oqS hub1) (payB 200)=(zX,0):=by
 unfold subS
 rw [show (oqS hub1).e.day=0 from rfl,qpR (by omega) (by omega),if_neg (not_not_intro rfl),if_neg (not_not_intro (show qm2 (oqS hub1).e.ph from .inl rfl)),show putQ (oqS hub1).e.queue (wrM (payD 0),(0:Int)).1=([zO 0],0) from rfl,if_neg (not_not_intro rfl)]
 refine Prod.ext ?_ rfl
 show qDV 1 (evS (popS (oqS hub1) [zO 0]) 1 0 (zO 0))=zX
 unfold qDV
 rw [show (evS (popS (oqS hub1) [zO 0]) 1 0 (zO 0)).e.queue=[zO 0] from rfl]
 dsimp only
 rw [qpX (s:=evS (popS (oqS hub1) [zO 0]) 1 0 (zO 0)) (b:=zO 0) (qk6 0) (by show z4 3;unfold z4;omega) (by show (0:Int)≤900000;omega) qG4,if_pos rfl]
 rfl
theorem qiO {s:Si} {day:Int} (h0:0≤day) (h9:day≤999999):jF (stN s (dayQ day)):=by
 have h:=qx1 s.e.stan
 refine ⟨.inr (.inr (.inr (.inl rfl))),h.1,h.2,by show (0:Int)≤0;omega,by show (0:Int)≤99;omega,fun _=>rfl, ?_⟩
 unfold quC
 rw [if_neg (fun q=>absurd q.2 (by show ¬ (201:Int)=101;omega))]
 refine ⟨rfl,rfl,rfl, ?_⟩
 rw [if_pos ⟨rfl,rfl⟩]
 exact ⟨h0,h9⟩
def datS (s:Si) (day:Int):Si:=qkK (askS (phS s 5) (dayQ day)) (qaF (stN (phS s 5) (dayQ day)))
theorem qGC {s:Si} {day:Int} (h0:0≤s.e.day) (hd:s.e.day < day) (h9:day≤999999) (hp:s.e.ph=3) (ha:s.e.ask.1=0) (hq:s.e.seq≤900000) (hu:upH s.e.hub):qBH s day=(datS s day,0):=by
 unfold qBH
 rw [if_neg (by omega),if_neg (not_not_intro (show qm2 s.e.ph by rw [hp];exact .inl rfl)),if_neg (by omega)]
 refine Prod.ext ?_ rfl
 exact qFp (s:=phS s 5) (qiO (by omega) h9) (by show ¬ (201:Int)=1;omega) (by show z4 5;unfold z4;omega) hq hu
theorem qDC {s:Si} {day:Int} (h0:0≤s.e.day) (hd:s.e.day < day) (h9:day≤999999) {n:v8} (hn:n.2.1=201) (hs:n.2.2.1=(datS s day).e.ask.2.1) (hr:n.2.2.2.1=0) (bs:WT) (p:wO):agrS ⟨{ (datS s day).e with win:=bs },p⟩ n=qqY ⟨qFH { (datS s day).e with win:=bs },p⟩ day:=by
 unfold agrS
 rw [if_neg,if_pos hr]
 ·rw [show (⟨{ (datS s day).e with win:=bs },p⟩:Si).e.ask.2.2.2.2.1=qaF (stN (phS s 5) (dayQ day)) from rfl,qsB (qiO (by omega) h9)]
  rfl
 ·rintro (h | h)
  ·exact h rfl
  ·refine h ⟨?_,hn.symm,hs.symm⟩
   intro h
   have:(201:Int)=0:=congrArg Prod.fst h
   omega
theorem qI1:qeW ()=some (true,()):=by
 have ok0:=qJq
 unfold qeW
 refine (z6 qFG).trans ((qG rfl).trans ((z6 (qo8 (.inl rfl))).trans ((qG rfl).trans ?_)))
 have hb:(payB 200).length≤1000000:=by
  have:=(qk6 0).2
  have:=qEC (qiE (mti:=200) (.inl rfl))
  have h:((payM 200).2.1.map (fun v=>v.2.1.length+2)).sum=8:=rfl
  unfold payB;omega
 have hx:=qfO ok0 (by omega) (payB 200) hb
 rw [qLz] at hx
 refine (z6 hx).trans ((qG rfl).trans ((z6 (qo8 (.inl rfl))).trans ((qG rfl).trans ?_)))
 have hst:=qg4 (payB 200) 5 hb
 rw [qpR (by omega) (by omega)] at hst
 refine (z6 hst).trans ((qG rfl).trans ?_)
 have hrd:qaI (wrM (payD 5),())=some (payD 5,0,()):=by
  rw [qgD _ (by have:=(qk6 5).2;omega),qo5 (qt3 5)]
 refine (z6 hrd).trans ((qG rfl).trans ?_)
 have hgt:kP (payD 5,15,())=some (dg 5 6,true,()):=(qb6 (payD 5) 15 (by show (2:Nat)≤1000000;omega)).trans rfl
 refine (z6 hgt).trans ((qG rfl).trans ?_)
 refine (z6 (qp2 (oqS hub1).e 0 (by show (0:Nat)≤1000000;omega))).trans ((qG rfl).trans ((z6 (qo8 (.inl rfl))).trans ((qG rfl).trans ?_)))
 have okl:okS 1 (quB (oqS hub1) 0):=qFM ok0 (by omega) (by omega)
 have hl:=qfO okl (by omega) (payB 200) hb
 have hl7:subS (quB (oqS hub1) 0) (payB 200)=(quB (oqS hub1) 0,7):=by
  unfold subS
  rw [show (quB (oqS hub1) 0).e.day=0 from rfl,qpR (by omega) (by omega),if_neg (not_not_intro rfl),if_pos (show ¬ qm2 (quB (oqS hub1) 0).e.ph from show ¬ qm2 (0:Int) by decide)]
 rw [hl7] at hl
 refine (z6 hl).trans ((qG rfl).trans ?_)
 have hd:=qi7 ok0 (by omega) 9
 have okd:=qC2 ok0 9
 rw [qGC (s:=oqS hub1) (day:=9) (by show (0:Int)≤0;omega) (by show (0:Int) < 9;omega) (by omega) rfl rfl (by show (0:Int)≤900000;omega) qG4] at hd okd
 refine (z6 hd).trans ((qG rfl).trans ((z6 (qo8 (.inr rfl))).trans ((qG rfl).trans ?_)))
 have ht:qbS ((oqS hub1).t,(2,0,[0,0],0,4,payB 400,none' UInt8,()),payD 5,())=some ((evS (oqS hub1) 2 4 (payB 400)).t,()):=by
  unfold qbS
  refine (z6 (qdO (payD 5))).trans ((qG rfl).trans ((qB (by rw [D_t (show qu3 (payD 5).1 from show qu3 200 by decide)];rfl)).trans ?_))
  refine (z6 (qa1 3)).trans ((qG rfl).trans ((qE (D_t (.inl rfl))).trans ?_))
  refine (qG (o:=qe3 _) rfl).trans ((qG (o:=qe2 _) rfl).trans ?_)
  exact (z6 (qg3 ok0 (by omega) 2 4 (payB 400))).trans rfl
 refine (z6 ht).trans ((qG rfl).trans ?_)
 have hw:=qg6 ok0 (by omega) (true,201,1,0,0,[],[],8,())
 refine (z6 hw).trans ((qG rfl).trans ?_)
 refine (qG (a:=(false,())) rfl).trans ((qB rfl).trans ?_)
 have ha:=qfP (s:=datS (oqS hub1) 9) (false,201,(datS (oqS hub1) 9).e.ask.2.1,0,0,[],[],0,()) (by have:=(qdX (qiO (s:=phS (oqS hub1) 5) (day:=9) (by omega) (by omega))).2;show (qaF (stN (phS (oqS hub1) 5) (dayQ 9))).length≤1000000;omega)
 have ha2:=qDC (s:=oqS hub1) (day:=9) (by show (0:Int)≤0;omega) (by show (0:Int) < 9;omega) (by omega) (n:=(false,201,(datS (oqS hub1) 9).e.ask.2.1,0,0,[],[],0,())) rfl rfl rfl (datS (oqS hub1) 9).e.win (datS (oqS hub1) 9).p
 rw [show agrS (datS (oqS hub1) 9) _=_ from ha2] at ha
 refine (z6 ha).trans ((qG rfl).trans ?_)
 refine (qG (a:=(true,())) ?_).trans rfl
 refine (qE rfl).trans ((qE rfl).trans ((qH rfl).trans ((qE rfl).trans ((qE rfl).trans ((qE rfl).trans ((qE rfl).trans ?_))))))
 refine (qE (qHc (by decide))).trans ((qE rfl).trans ?_)
 refine (z6 (qx6 okl (by omega))).trans ((qG rfl).trans ((qE rfl).trans ?_))
 refine (qE rfl).trans ((qE rfl).trans ((qH rfl).trans ((qE rfl).trans ((qH rfl).trans ((qE rfl).trans ?_)))))
 refine (qE (qfD ((qHd _ _).trans rfl))).trans ((qE rfl).trans ((qE rfl).trans ?_))
 refine (z6 (qq7 (datS (oqS hub1) 9))).trans ((qG rfl).trans ((qE rfl).trans ?_))
 refine (z6 (qi6 ok0 (by omega))).trans ((qG rfl).trans ?_)
 exact (z6 (show x5 ((qJg (oqS hub1)).t,(oqS hub1).t,())=some (true,()) from qx6 ok0 (by omega))).trans rfl
end Yp
namespace Yp
open Go
set_option maxRecDepth 100000
set_option maxHeartbeats 2000000
set_option linter.unusedSectionVars false
section
variable (fill : UInt8) {g : Nat} (hg : 1 ≤ g) (hg2 : g ≤ 50) {na nb : BB} (ha : na.length = 8) (hb : nb.length = 8) (bs bt bu : List UInt64)
include hg hg2 ha
include hb
end
end Yp
namespace Yp
open Go
set_option maxRecDepth 100000
set_option maxHeartbeats 2000000
def fig1 (t:Int):Int:=t / 10 % 10
def qLk (m:M):Prop:=(fig1 m.1=1∨fig1 m.1=3)∧qyC m
instance (m:M):Decidable (qLk m):=by unfold qLk;infer_instance
def outX (s:Si) (b:BB):BB:=zA (j9 s.e b)++kN s.e.ring.1.2.1 (zA (j9 s.e b))
theorem qyT {s:Si} {b:BB} (hb:qg8 b):qaG (yN (outX s b),())=some (outX s b,()):=by
 have hl:(outX s b).length=46+b.length:=by unfold outX;rw [List.length_append,qeA,vN,show (j9 s.e b).2.2.2.2.2.1=b from rfl];omega
 have h1:=hb.1
 have h2:=hb.2
 exact qGl _ (by omega)
theorem qxY {n m:Nat} {s r:Si} (hs:okS n s) (hr:okS m r) (hn:n≤900000) (h:hears s.e r.e) (hno:¬ r.e.ring.2.2.1.1=s.e.ring.1.1) {b:BB} (hb:qg8 b):∃ bs:List UInt64,bs.length=16 ∧
  qaH ((r.e.t,(qkK s b).p,()),outX s b,())=some ((⟨{ r.e with win:=(s.e.seq+1,bs,()) },(qkK s b).p⟩:Si).t,vY (j9 s.e b) (kN s.e.ring.1.2.1 (zA (j9 s.e b))),0,()):=by
 have hp:=hs.p
 obtain ⟨bs,hbs,ht⟩:=qEL (p:=s.p) hs.e hr.e (by omega) h hb
 rw [qGm hno] at ht
 exact ⟨bs,hbs,ht⟩
def xO (i:Int) (d:Int):Si:=⟨{ twE i (u8 0) 1 with day:=d },(true,[],false,())⟩
theorem qyW {i:Int} (hi:i=0∨i=1) (d:Int):okS 0 (xO i d):=by
 have:=qIt i hi (u8 0) (g:=1) (by omega) (by omega)
 exact ⟨{ this.e with },this.p⟩
theorem qoZ (o t g:UInt16):kW (o,t,g,())=some (true,()):=by
 unfold kW
 rw [qI1]
 refine (qG rfl).trans ?_
 dsimp only
 have r16:∀ d:UInt16,∃ day:Int,i64 (n16 d)=day∧0≤day∧day≤65535:=fun d=>by
  have:=d.toNat_lt
  exact ⟨(d.toNat:Int),by rw [g60];simp (disch:=first | assumption | omega | (dsimp only;omega) | decide) only [go_sem,Int.reduceToNat],by omega,by omega⟩
 obtain ⟨one,h1,a0,a1⟩:=r16 o
 obtain ⟨two,h2,b0,b1⟩:=r16 t
 obtain ⟨by',h3,c0,c1⟩:=r16 g
 rw [h1,h2,h3]
 obtain ⟨day,hday,d1,d9⟩:∃ day:Int,i64 (iadd (i64 (iadd one 1)) by')=day∧one < day∧day≤999999:=by
  refine ⟨one+1+by', ?_,by omega,by omega⟩
  simp (disch:=omega) only [go_sem,Int.reduceToNat]
 rw [hday]
 refine (z6 qFG).trans ((qG rfl).trans ?_)
 have ok0:=qyW (i:=0) (.inl rfl) one
 have okb:=qyW (i:=1) (.inr rfl) two
 have hd:=qi7 ok0 (by omega) day
 have okd:=qC2 ok0 day
 have ein:=qGC (s:=xO 0 one) (day:=day) a0 d1 d9 rfl rfl (by show (0:Int)≤900000;omega) qG4
 rw [ein] at hd okd
 refine (z6 hd).trans ((qG rfl).trans ?_)
 refine (qG (a:=(false,())) rfl).trans ((qB rfl).trans ((qH rfl).trans ?_))
 have hq:=qiO (s:=phS (xO 0 one) 5) (day:=day) (by omega) d9
 have hb:=qdX hq
 refine (z6 (qyT (s:=askS (phS (xO 0 one) 5) (dayQ day)) hb)).trans ((qG rfl).trans ?_)
 have okq:okS 0 (askS (phS (xO 0 one) 5) (dayQ day)):=qJr (qFL ok0 (by omega) (by omega)) _
 have hr1:(twR (u8 0) 1).1.1=1:=rfl
 have hh:hears (askS (phS (xO 0 one) 5) (dayQ day)).e (xO 1 two).e:={
  id:=rfl
  pair:=rfl
  ph:=by show z4 3;unfold z4;omega
  gen:=by show (1:Int)≤1;omega
  find:=qzS (r:=twR (u8 0) 1) (by rw [hr1];omega)
  win:=⟨by show (0:Int)≤0;omega,by show (0:Int)≤0;omega⟩
  seq:=by show (0:Int)≤900000;omega }
 obtain ⟨bs,hbs,ht⟩:=qxY okq okb (by omega) hh (by show ¬ (0:Int)=1;omega) hb
 refine (z6 ht).trans ((qG rfl).trans ?_)
 refine (z6 (show yQ (qaF (stN (phS (xO 0 one) 5) (dayQ day)),())=some (stN (phS (xO 0 one) 5) (dayQ day),0,()) by rw [qf9 _ (by have:=hb.2;omega),qsB hq])).trans ((qG rfl).trans ?_)
 refine (qG (a:=(false,())) ((qB rfl).trans ((qB rfl).trans ((qB rfl).trans ((qB rfl).trans ?_))))).trans ((qB rfl).trans ?_)
 ·exact congrArg (fun c=>(some (c,()):Option (Bool×Unit))) (bq_f (a:=day) (b:=day) rfl)
 have okB:okS 1 (⟨{ (xO 1 two).e with win:=(0+1,bs,()) },(qkK (askS (phS (xO 0 one) 5) (dayQ day)) (qaF (stN (phS (xO 0 one) 5) (dayQ day)))).p⟩:Si):=⟨{ qo9 okb.e (by omega) with win:=hbs },okd.p⟩
 refine (z6 (qg6 okB (by omega) (stN (phS (xO 0 one) 5) (dayQ day)))).trans ((qG rfl).trans ?_)
 have hk:=qu0 hq (res:=0) (by omega) (by omega)
 have hkb:=qdX hk
 have eD:qJ0 (⟨{ (xO 1 two).e with win:=(0+1,bs,()) },(qkK (askS (phS (xO 0 one) 5) (dayQ day)) (qaF (stN (phS (xO 0 one) 5) (dayQ day)))).p⟩:Si) (stN (phS (xO 0 one) 5) (dayQ day))=qkK (qqY (⟨{ (xO 1 two).e with win:=(0+1,bs,()) },(qkK (askS (phS (xO 0 one) 5) (dayQ day)) (qaF (stN (phS (xO 0 one) 5) (dayQ day)))).p⟩:Si) day) (qaF (ackN (stN (phS (xO 0 one) 5) (dayQ day)) 0)):=by
  unfold qJ0
  rw [qFf hq rfl (by omega) (by omega)]
  exact congrArg Prod.fst (qpX (s:=qqY (⟨{ (xO 1 two).e with win:=(0+1,bs,()) },(qkK (askS (phS (xO 0 one) 5) (dayQ day)) (qaF (stN (phS (xO 0 one) 5) (dayQ day)))).p⟩:Si) day) hkb (by show z4 3;unfold z4;omega) (by show (0:Int)≤900000;omega) qG4)
 rw [eD]
 have okL:=qC0 okB day
 generalize hP:(qkK (askS (phS (xO 0 one) 5) (dayQ day)) (qaF (stN (phS (xO 0 one) 5) (dayQ day)))).p=P at okL ⊢
 refine (qB rfl).trans ((qH rfl).trans ?_)
 refine (z6 (qyT (s:=qqY (⟨{ (xO 1 two).e with win:=(0+1,bs,()) },P⟩:Si) day) hkb)).trans ((qG rfl).trans ?_)
 have hh2:hears (qqY (⟨{ (xO 1 two).e with win:=(0+1,bs,()) },P⟩:Si) day).e (datS (xO 0 one) day).e:={
  id:=rfl
  pair:=rfl
  ph:=by show z4 5;unfold z4;omega
  gen:=by show (1:Int)≤1;omega
  find:=qzS (r:=twR (u8 0) 1) (by rw [hr1];omega)
  win:=⟨by show (0:Int)≤0;omega,by show (0:Int)≤0;omega⟩
  seq:=by show (0:Int)≤900000;omega }
 obtain ⟨bs',hbs',ht'⟩:=qxY okL okd (by omega) hh2 (by show ¬ (0:Int)=1;omega) hkb
 refine (z6 ht').trans ((qG rfl).trans ?_)
 refine (z6 (show yQ (qaF (ackN (stN (phS (xO 0 one) 5) (dayQ day)) 0),())=some (ackN (stN (phS (xO 0 one) 5) (dayQ day)) 0,0,()) by rw [qf9 _ (by have:=hkb.2;omega),qsB hk])).trans ((qG rfl).trans ?_)
 have eA:=qDC (s:=xO 0 one) (day:=day) a0 d1 d9 (n:=ackN (stN (phS (xO 0 one) 5) (dayQ day)) 0) rfl rfl rfl (0+1,bs',()) (qkK (qqY (⟨{ (xO 1 two).e with win:=(0+1,bs,()) },P⟩:Si) day) (qaF (ackN (stN (phS (xO 0 one) 5) (dayQ day)) 0))).p
 have hA:=qfP (s:=(⟨{ (datS (xO 0 one) day).e with win:=(0+1,bs',()) },(qkK (qqY (⟨{ (xO 1 two).e with win:=(0+1,bs,()) },P⟩:Si) day) (qaF (ackN (stN (phS (xO 0 one) 5) (dayQ day)) 0))).p⟩:Si)) (ackN (stN (phS (xO 0 one) 5) (dayQ day)) 0) (by have:=hb.2;show (qaF (stN (phS (xO 0 one) 5) (dayQ day))).length≤1000000;omega)
 rw [eA] at hA
 refine (z6 hA).trans ((qG rfl).trans ?_)
 refine (qG (a:=(true,())) ?_).trans rfl
 have m1:maxI one day=day:=by unfold maxI;split <;> omega
 have m2:maxI two day=maxI day two:=by unfold maxI;split <;> split <;> omega
 refine (qE rfl).trans ((qE rfl).trans ((qE rfl).trans ((qE rfl).trans ((qE rfl).trans ((qE (qfD (show maxI one day=day from m1))).trans ?_)))))
 exact congrArg (fun c=>(some (c,()):Option (Bool×Unit))) (qfD (show maxI two day=maxI day two from m2))
theorem qxQ (x:denL [.int .u16, .int .u16, .int .u16]) (_:okL [.int .u16, .int .u16, .int .u16] x):kW x=some (true,()):=qoZ x.1 x.2.1 x.2.2.1
end Yp