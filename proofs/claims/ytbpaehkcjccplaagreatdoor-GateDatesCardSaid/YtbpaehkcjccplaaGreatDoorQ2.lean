/- A part of the proof of the statements of this seat: plain functions, and laws on them. No condition of its own. -/
import Derived.Test.YtbpaehkcjccplaaGreatDoorQ1
import Derived.Conc.LoneSelectN
import Derived.Conc.Own5
import Derived.Test.YtbpaehkcjccplaaGreatDoorProg
import Derived.KernelRfl
set_option linter.unusedVariables false
set_option linter.unusedSimpArgs false
namespace Yp
open Go Go.Conc Go.RowKit Go.Proofs
structure qz6 (w w':World) (lo c:Nat):Prop where
 os:w'.os=w.os
 tape:w'.tape=w.tape
 output:w'.output=w.output
 size:w.heap.size≤w'.heap.size
 other:∀ b,b < lo→b≠c→w'.heap[b]? = w.heap[b]?
theorem qIn {o:Oper} {a:Act} {K:Act→World→Prop} {r:Result Go.Next} {v:Value} {w':World} (h:r = .ok (.value v) w') (h2:K (a.put o.dst v) w'):uponK o a K r:=by rw [h];exact h2
set_option maxRecDepth 100000 in
theorem qJy {w:World} {c cap:Nat} {buf:Array Value} (hc:∃ s r,w.heap[c]? = some (.chan cap buf false s r false)) (h64:buf.size≤64) (hone:∀ v∈buf,∃ a n cp,v = .slice a n cp) :
  Calls Tryz.prog 356 #[.agg #[.chan (some c)]] w fun e w'=>∃ sv,e = .returned sv∧qz3 w' (w.heap.size+1) c buf buf.size sv∧qz6 w w' w.heap.size c:=by
 obtain ⟨s0,r0,hc⟩:=hc
 have hclt:c < w.heap.size:=(Array.getElem?_eq_some_iff.1 hc).1
 have hc2:((w.alloc (.cells #[.chan (some c)] 378)).alloc (.cells #[] 22)).heap[c]? = some (.chan cap buf false s0 r0 false):=by rw [heap_alloc_old _ _ (by rw [qP];omega),heap_alloc_old _ _ hclt];exact hc
 have hl2:=run_len_chan (P:=Tryz.prog) 376 3 Tryz.underlying376 hc2
 refine calls_of_loneTo fun cs => ?_
 have e:Frame.enter Tryz.prog 356 #[.agg #[.chan (some c)]] .normal=(base 356).at ⟨#[.agg #[.chan (some c)],undef,undef,undef,undef,undef,undef,undef,undef,undef,undef,undef,undef,undef,undef,undef,undef,undef],[]⟩ [.code (Tryz.f356.body.getD .skip)]:=by
  simp [Frame.enter,Frame.at,Tryz.func356,base,Tryz.f356]
 rw [e]
 refine LoneTo.goes (n:=22) ?_
 simp only [Tryz.f356,Option.getD_some]
 s_c stepG_seq
 s_reg
 s_op
 s_op
 s_c stepG_region_end
 s_c stepG_seq
 s_reg
 s_op
 s_op
 s_c stepG_region_end
 s_c stepG_seq
 s_c stepG_seq
 s_reg
 s_op
 s_op
 s_op
 s_op
 s_c stepG_region_end
 s_c stepG_block
 s_c stepG_loop
 s_stop
 have hkb:qz6 w ((w.alloc (.cells #[.chan (some c)] 378)).alloc (.cells #[] 22)) w.heap.size c:=⟨rfl,rfl,rfl,by rw [qP,qP];omega,fun b hb _=>by rw [heap_alloc_old _ _ (by rw [qP];omega),heap_alloc_old _ _ hb]⟩
 have hbox:((w.alloc (.cells #[.chan (some c)] 378)).alloc (.cells #[] 22)).heap[w.heap.size]? = some (.cells #[.chan (some c)] 378):=by rw [heap_alloc_old _ _ (by rw [qP];omega)];exact heap_alloc_new _ _
 have hrow:qz3 ((w.alloc (.cells #[.chan (some c)] 378)).alloc (.cells #[] 22)) (w.heap.size+1) c buf 0 (.slice (some ⟨w.heap.size+1,0,none⟩) 0 0):=by
  refine ⟨w.heap.size+1,0, #[],rfl, ?_,Nat.le_refl _,Nat.zero_le _,rfl,fun j hj=>absurd hj (Nat.not_lt_zero j),Nat.le_refl _,by omega⟩
  have:=heap_alloc_new (w.alloc (.cells #[.chan (some c)] 378)) (.cells #[] 22)
  rw [qP] at this
  exact this
 have hsz:((w.alloc (.cells #[.chan (some c)] 378)).alloc (.cells #[] 22)).heap.size=w.heap.size+2:=by rw [qP,qP]
 generalize (w.alloc (.cells #[.chan (some c)] 378)).alloc (.cells #[] 22)=wb at hc2 hkb hbox hrow hsz hl2
 refine qBj (Q':=fun J=>LoneTo _ _ (G ((base 356).at _ J) _) _) ?_
 intro J hJ
 have key:∀ (k i:Nat) (w1:World) (sv u9 u0 u1 u2 u3 u4 u5 u6 u7:Value),i+k=buf.size→qz3 w1 (w.heap.size+1) c buf i sv→qz6 w w1 w.heap.size c→w.heap.size+2≤w1.heap.size→w1.heap[w.heap.size]? = some (.cells #[.chan (some c)] 378)→(∃ s r bi,w1.heap[c]? = some (.chan cap bi false s r false)∧bi.toList=buf.toList.drop i) →
   LoneTo Tryz.prog (fun g' w'=>∃ e fr,g'=G fr cs∧(∃ sv,e = .returned sv∧qz3 w' (w.heap.size+1) c buf buf.size sv∧qz6 w w' w.heap.size c)∧fr.fn=356∧fr.leaving Tryz.prog w' e) (G ((base 356).at ⟨#[.agg #[.chan (some c)], .pointer (some ⟨w.heap.size,0,none⟩), .slice none 0 0,sv, .slice (some ⟨w.heap.size+1,0,none⟩) 0 0, .pointer (some ⟨w.heap.size,0,none⟩), .chan (some c), .int .i64 buf.size, .int .i64 i,u9,u0,u1,u2,u3,u4,u5,u6,u7],[]⟩ J) cs) w1:=by
  intro k
  induction k with
  | zero =>
   intro i w1 sv u9 u0 u1 u2 u3 u4 u5 u6 u7 hk hR hK hS hB hC
   obtain rfl:i=buf.size:=by omega
   rw [hJ]
   refine LoneTo.goes (n:=14) ?_
   s_c stepG_seq
   s_reg
   s_op
   s_c stepG_region_end
   s_c stepG_seq
   s_cond false
   s_exit
   s_c stepG_seq
   s_reg
   s_op
   s_op
   s_c stepG_region_end
   s_c stepG_ret'
   s_stop
   exact LoneTo.done ⟨.returned sv,_,rfl,⟨sv,rfl,hR,hK⟩,rfl,rfl,rfl,rfl,_,Tryz.func356,by simp [results,Tryz.f356,Frame.at]⟩
  | succ k ih =>
   intro i w1 sv u9 u0 u1 u2 u3 u4 u5 u6 u7 hk hR hK hS hB hC
   have hlt:i < buf.size:=by omega
   obtain ⟨va,vn,vc,hvs⟩:=hone _ (Array.getElem_mem hlt)
   have hbc:w1.cell? ⟨w.heap.size,0,none⟩=some (.chan (some c)):=by simp [World.cell?,hB]
   obtain ⟨s,r,bi,hch,hbi⟩:=hC
   have hbs:0 < bi.size:=by
    have:=congrArg List.length hbi
    simp at this
    omega
   have hv0:bi.getD 0 undef=buf[i]:=by
    have h0:bi[0]? = some buf[i]:=by
     rw [← Array.getElem?_toList,hbi]
     simp [hlt]
    simp [Array.getD_eq_getD_getElem?,h0]
   have hext:(bi.extract 1 bi.size).toList=buf.toList.drop (i+1):=by
    have h1:(bi.extract 1 bi.size).toList=bi.toList.drop 1:=by
     rw [Array.toList_extract,List.extract_eq_take_drop]
     exact List.take_of_length_le (by simp)
    rw [h1,hbi,List.drop_drop]
   rw [hJ]
   refine LoneTo.goes (n:=12) ?_
   s_c stepG_seq
   s_reg
   s_op
   s_c stepG_region_end
   s_c stepG_seq
   s_cond true
   s_c stepG_skip
   s_c stepG_seq
   s_c stepG_block
   s_reg
   s_op
   s_op
   s_stop
   refine LoneTo.goes (n:=1) ?_
   s_op
   s_stop
   refine LoneTo.step (step_lone_recv_buf false (c:=c) (z := .slice none 0 0) (cap:=cap) (buf:=bi) (closed:=false) (s:=s) (r:=r) (tm:=false) (stepG_comm (cases := #[rcase c (.slice none 0 0)]) (blocking:=true) (shape := .recv false) (w':=w1) rfl rfl (by decide) (by simp [go_sem,execOp,rcase,Act.eval])) hch hbs) ?_
   rw [Frame.finish_at,hv0,hvs]
   simp only [got]
   walk_nrm
   have hs2:(w1.setChan c cap (bi.extract 1 bi.size) false s (r+1) false).heap.size=w1.heap.size:=size_setChan ..
   have hx2:qeH w1 (w1.setChan c cap (bi.extract 1 bi.size) false s (r+1) false) c cap (bi.extract 1 bi.size):=qw3 hch
   generalize w1.setChan c cap (bi.extract 1 bi.size) false s (r+1) false=w2 at hs2 hx2
   obtain ⟨b,cp,arr,rfl,hb,hmc,hcm,hasz,hvals,hlb,hbne⟩:=hR
   have hblt:b < w1.heap.size:=(Array.getElem?_eq_some_iff.1 hb).1
   have hR3:qz3 (w2.alloc (.cells #[.slice va vn vc] 22)) (w.heap.size+1) c buf i (.slice (some ⟨b,0,none⟩) i cp):=⟨b,cp,arr,rfl,by rw [heap_alloc_old _ _ (by omega),hx2.other b hblt hbne];exact hb,hmc,hcm,hasz,hvals,hlb,hbne⟩
   obtain ⟨sv',w4,happ,hR4,hK4⟩:=app1 hR3 (heap_alloc_new w2 (.cells #[.slice va vn vc] 22)) (v := .slice va vn vc) (by rw [← hvs];simp [hlt]) (by omega) rfl (by rw [qP];omega) (by rw [qP];omega)
   rw [hs2] at happ
   refine LoneTo.goes (n:=12) ?_
   s_op
   s_in;refine goes_oper_k rfl rfl (by decide) (fun K hK => ?_)
   refine qIn (v:=sv') (w':=w4) ?_ ?_
   ·simp only [List.getElem_toArray,List.getElem_cons_succ,List.getElem_cons_zero,execOp,resolve,invoke,Go.builtin]
    walk_nrm
    simp only [Sem.run_bind,Sem.run_pure,Result.andThen]
    rw [happ]
   refine hK _ _ ⟨trivial, ?_⟩
   clear hK K
   walk_nrm
   s_op
   s_c stepG_region_end
   s_c stepG_inBlock
   s_reg
   s_op
   s_op
   s_c stepG_region_end
   s_c stepG_inLoop
   s_stop
   rw [qF0 (by omega) (by omega)]
   have hold:∀ b',b' < w.heap.size+1→b'≠c→w4.heap[b']? = w1.heap[b']? := by
    intro b' hb' hne
    rw [hK4.other b' (by rw [qP];omega) (.inl hb'),heap_alloc_old _ _ (by omega),hx2.other b' (by omega) hne]
   have hsz4:=hK4.size
   rw [qP] at hsz4
   obtain ⟨s3,r3,hch3⟩:=hx2.ch
   have:=ih (i+1) w4 sv' (.bool true) (.slice (some ⟨b,0,none⟩) i cp) (.pointer (some ⟨w.heap.size,0,none⟩)) (.chan (some c)) (.slice va vn vc) (.slice (some ⟨w1.heap.size,0,none⟩) 1 1) sv' (.int .i64 ((i+1:Nat):Int)) u7 (by omega) hR4
    ⟨hK4.os.trans (hx2.os.trans hK.os),hK4.tape.trans (hx2.tape.trans hK.tape),hK4.output.trans (hx2.output.trans hK.output),by have:=hK.size;omega,fun b' hb' hne=>(hold b' (by omega) hne).trans (hK.other b' hb' hne)⟩ (by omega) ((hold _ (by omega) (by omega)).trans hB)
    ⟨s3,r3,bi.extract 1 bi.size,by rw [hK4.other c (by rw [qP];omega) (.inr rfl),heap_alloc_old _ _ (by omega)];exact hch3,hext⟩
   rw [hJ] at this
   exact this
 exact key buf.size 0 wb _ undef undef undef undef undef undef undef undef undef (by omega) hrow hkb (by omega) hbox ⟨s0,r0,buf,hc2,by simp⟩
structure Src1 (w:World) (a:Option Addr) (n cp:Nat) (pt:Nat→Addr) (val:Nat→Value):Prop where
 ix:∀ i,i < n→∀ w1:World,(Instr.indexAt 35 (.slice a n cp) (.int .i64 i)).run Tryz.prog w1 = .ok (.pointer (some (pt i))) w1
 cell:∀ i,i < n→w.cell? (pt i)=some (val i)
 low:∀ i,i < n→(pt i).block < w.heap.size
 sl:∀ i,i < n→∃ a n cp,val i = .slice a n cp
 le:n≤9223372036854775807
set_option maxRecDepth 100000 in
theorem qIP {w:World} {q l:Value} {room:Int} (hr:room < 1) :
  Calls Tryz.prog 286 #[q,l, .int .i64 room] w fun e w'=>e = .returned (.tuple #[q, .int .i64 0, .int .i64 1])∧w'=w:=by
 refine calls_of_loneTo fun cs => ?_
 have e:Frame.enter Tryz.prog 286 #[q,l, .int .i64 room] .normal=(base 286).at ⟨#[q,l, .int .i64 room,undef,undef,undef,undef,undef,undef,undef,undef,undef,undef,undef,undef,undef,undef,undef,undef,undef,undef,undef,undef,undef,undef,undef,undef,undef,undef,undef,undef,undef,undef],[]⟩ [.code (Tryz.f286.body.getD .skip)]:=by
  simp [Frame.enter,Frame.at,Tryz.func286,base,Tryz.f286]
 rw [e]
 refine LoneTo.goes (n:=30) ?_
 simp only [Tryz.f286,Option.getD_some]
 s_c stepG_seq
 s_reg
 s_op
 s_op
 s_op
 s_c stepG_region_end
 s_c stepG_seq
 s_c stepG_seq
 s_reg
 s_op
 s_op
 s_op
 s_in
 rw [stepG_unwanted rfl rfl]
 simp only [goes_go]
 refine ⟨trivial, ?_⟩
 walk_nrm
 s_in
 rw [stepG_unwanted rfl rfl]
 simp only [goes_go]
 refine ⟨trivial, ?_⟩
 walk_nrm
 s_op
 s_c stepG_region_end
 s_cond true
 s_c stepG_seq
 s_reg
 s_op
 s_op
 s_op
 s_op
 s_c stepG_region_end
 s_c stepG_ret'
 s_stop
 exact LoneTo.done ⟨.returned (.tuple #[q, .int .i64 0, .int .i64 1]),_,rfl,⟨rfl,rfl⟩,rfl,rfl,rfl,rfl,_,Tryz.func286,by simp [results,Tryz.f286,Frame.at]⟩
set_option maxRecDepth 100000 in
theorem qGU {w:World} {q l:Value} {room:Int} (h0:¬ room < 1) (hr:64 < room) :
  Calls Tryz.prog 286 #[q,l, .int .i64 room] w fun e w'=>e = .returned (.tuple #[q, .int .i64 0, .int .i64 1])∧w'=w:=by
 refine calls_of_loneTo fun cs => ?_
 have e:Frame.enter Tryz.prog 286 #[q,l, .int .i64 room] .normal=(base 286).at ⟨#[q,l, .int .i64 room,undef,undef,undef,undef,undef,undef,undef,undef,undef,undef,undef,undef,undef,undef,undef,undef,undef,undef,undef,undef,undef,undef,undef,undef,undef,undef,undef,undef,undef,undef],[]⟩ [.code (Tryz.f286.body.getD .skip)]:=by
  simp [Frame.enter,Frame.at,Tryz.func286,base,Tryz.f286]
 rw [e]
 refine LoneTo.goes (n:=30) ?_
 simp only [Tryz.f286,Option.getD_some]
 s_c stepG_seq
 s_reg
 s_op
 s_op
 s_op
 s_c stepG_region_end
 s_c stepG_seq
 s_c stepG_seq
 s_reg
 s_op
 s_op
 s_op
 s_op
 s_op
 s_op
 s_c stepG_region_end
 s_cond true
 s_c stepG_seq
 s_reg
 s_op
 s_op
 s_op
 s_op
 s_c stepG_region_end
 s_c stepG_ret'
 s_stop
 exact LoneTo.done ⟨.returned (.tuple #[q, .int .i64 0, .int .i64 1]),_,rfl,⟨rfl,rfl⟩,rfl,rfl,rfl,rfl,_,Tryz.func286,by simp [results,Tryz.f286,Frame.at]⟩
set_option maxRecDepth 100000 in
theorem qGT {w:World} {qa la:Option Addr} {qn qc ln lc R:Nat} (h1:1≤R) (h64:R≤64) {qpt lpt:Nat→Addr} {qv lv:Nat→Value} (hq:Src1 w qa qn qc qpt qv) (hl:Src1 w la ln lc lpt lv) :
  Calls Tryz.prog 286 #[.slice qa qn qc, .slice la ln lc, .int .i64 R] w fun e w'=>(R < qn∧e = .returned (.tuple #[.slice qa qn qc, .int .i64 0, .int .i64 0])∨qn≤R∧∃ sv,e = .returned (.tuple #[sv, .int .i64 (min ln (R - qn):Nat), .int .i64 0])∧qz3 w' w.heap.size (w.heap.size+1) ((List.range qn).map qv++(List.range (min ln (R - qn))).map lv).toArray (qn+min ln (R - qn)) sv)∧qz6 w w' w.heap.size (w.heap.size+1):=by
 have hr1:¬ (R:Int) < 1:=by omega
 have hr2:¬ (64:Int) < (R:Int):=by omega
 refine calls_of_loneTo fun cs => ?_
 have e:Frame.enter Tryz.prog 286 #[.slice qa qn qc, .slice la ln lc, .int .i64 R] .normal=(base 286).at ⟨#[.slice qa qn qc, .slice la ln lc, .int .i64 R,undef,undef,undef,undef,undef,undef,undef,undef,undef,undef,undef,undef,undef,undef,undef,undef,undef,undef,undef,undef,undef,undef,undef,undef,undef,undef,undef,undef,undef,undef],[]⟩ [.code (Tryz.f286.body.getD .skip)]:=by
  simp [Frame.enter,Frame.at,Tryz.func286,base,Tryz.f286]
 rw [e]
 refine LoneTo.goes (n:=30) ?_
 simp only [Tryz.f286,Option.getD_some]
 s_c stepG_seq
 s_reg
 s_op
 s_op
 s_op
 s_c stepG_region_end
 s_c stepG_seq
 s_c stepG_seq
 s_reg
 s_op
 s_op
 s_op
 s_op
 s_op
 s_op
 s_c stepG_region_end
 s_cond false
 s_c stepG_skip
 s_c stepG_seq
 s_reg
 s_op
 s_in
 refine goes_call rfl rfl (by decide) rfl Tryz.func354 (by kernel_rfl) rfl ⟨trivial, ?_⟩
 walk_nrmf Tryz.f354
 s_stop
 have he1:Frame.enter Tryz.prog 354 #[.int .i64 R] .normal=(base 354).at ⟨#[.int .i64 R,undef,undef,undef,undef,undef],[]⟩ [.code (Tryz.f354.body.getD .skip)]:=by
  simp [Frame.enter,Frame.at,Tryz.func354,base,Tryz.f354]
 simp only [Tryz.f354,Option.getD_some] at he1
 rw [← he1]
 refine qaL (qFS h64) (fun e w' h=>⟨_,h.1⟩) (fun v w1 h => ?_)
 obtain ⟨hv,b1,b2,b3,b4,b5,b6⟩:=h
 cases hv
 rw [Frame.finish_at]
 walk_nrm
 refine LoneTo.goes (n:=30) ?_
 s_op
 s_op
 s_c stepG_region_end
 s_c stepG_seq
 s_c stepG_seq
 s_reg
 s_op
 s_op
 s_stop
 have hbox:(w1.alloc (.cells #[.chan (some (w.heap.size+1))] 378)).heap[w.heap.size+2]? = some (.cells #[.chan (some (w.heap.size+1))] 378):=by
  have:=heap_alloc_new w1 (.cells #[.chan (some (w.heap.size+1))] 378)
  rw [b4] at this
  exact this
 have hch:∃ s r,(w1.alloc (.cells #[.chan (some (w.heap.size+1))] 378)).heap[w.heap.size+1]? = some (.chan R #[] false s r false):=⟨0,0,by rw [heap_alloc_old _ _ (by omega)];exact b6⟩
 have hk2:qz6 w (w1.alloc (.cells #[.chan (some (w.heap.size+1))] 378)) w.heap.size (w.heap.size+1):=⟨b1,b2,b3,by rw [qP];omega,fun b hb _=>by rw [heap_alloc_old _ _ (by omega)];exact b5 b hb⟩
 have hs2:(w1.alloc (.cells #[.chan (some (w.heap.size+1))] 378)).heap.size=w.heap.size+3:=by rw [qP];omega
 generalize w1.alloc (.cells #[.chan (some (w.heap.size+1))] 378)=w2 at hbox hch hk2 hs2
 have srcOf:∀ {a:Option Addr} {n cp:Nat} {pt:Nat→Addr} {val:Nat→Value} (wx:World),Src1 w a n cp pt val→qz6 w wx w.heap.size (w.heap.size+1)→(∀ i,i < n→wx.cell? (pt i)=some (val i))∧∀ i,i < n→(pt i).block < wx.heap.size∧(pt i).block≠w.heap.size+1:=by
  intro a n cp pt val wx hs hk
  refine ⟨fun i hi => ?_,fun i hi=>⟨Nat.lt_of_lt_of_le (hs.low i hi) hk.size,by have:=hs.low i hi;omega⟩⟩
  rw [← hs.cell i hi]
  exact qw4 (hk.other _ (hs.low i hi) (by have:=hs.low i hi;omega))
 refine LoneTo.goes (n:=3) ?_
 s_in
 refine goes_call rfl rfl (by decide) rfl Tryz.func355 (by kernel_rfl) rfl ⟨trivial, ?_⟩
 walk_nrmf Tryz.f355
 s_stop
 have he2:Frame.enter Tryz.prog 355 #[.agg #[.chan (some (w.heap.size+1))], .slice qa qn qc] .normal=(base 355).at ⟨#[.agg #[.chan (some (w.heap.size+1))], .slice qa qn qc,undef,undef,undef,undef,undef,undef,undef,undef,undef,undef,undef,undef,undef,undef,undef,undef,undef,undef,undef,undef],[]⟩ [.code (Tryz.f355.body.getD .skip)]:=by
  simp [Frame.enter,Frame.at,Tryz.func355,base,Tryz.f355]
 simp only [Tryz.f355,Option.getD_some] at he2
 rw [← he2]
 have hq2:=srcOf w2 hq hk2
 refine qaL (qBn hch hq.le (Nat.zero_le _) hq.ix hq2.1 hq2.2) (fun e w' h=>⟨_,h.1⟩) (fun v w3 h => ?_)
 obtain ⟨hv,hw3⟩:=h
 cases hv
 have hk3:qz6 w w3 w.heap.size (w.heap.size+1):=⟨hw3.os.trans hk2.os,hw3.tape.trans hk2.tape,hw3.output.trans hk2.output,Nat.le_trans hk2.size hw3.size,fun b hb hne=>(hw3.other b (by omega) hne).trans (hk2.other b hb hne)⟩
 have hbox3:w3.heap[w.heap.size+2]? = some (.cells #[.chan (some (w.heap.size+1))] 378):=(hw3.other _ (by omega) (by omega)).trans hbox
 have hs3:w.heap.size+3≤w3.heap.size:=by have:=hw3.size;omega
 have hbc:w3.cell? ⟨w.heap.size+2,0,none⟩=some (.chan (some (w.heap.size+1))):=by simp [World.cell?,hbox3]
 by_cases hfull:R < qn
 ·have hm:min qn (R - (#[]:Array Value).size)=R:=by simp;omega
  rw [hm,Frame.finish_at]
  walk_nrm
  refine LoneTo.goes (n:=30) ?_
  s_op
  s_op
  s_op
  s_c stepG_region_end
  s_cond true
  s_c stepG_seq
  s_reg
  s_op
  s_op
  s_op
  s_op
  s_c stepG_region_end
  s_c stepG_ret'
  s_stop
  exact LoneTo.done ⟨.returned (.tuple #[.slice qa qn qc, .int .i64 0, .int .i64 0]),_,rfl,⟨.inl ⟨hfull,rfl⟩,hk3⟩,rfl,rfl,rfl,rfl,_,Tryz.func286,by simp [results,Tryz.f286,Frame.at]⟩
 ·have hm:min qn (R - (#[]:Array Value).size)=qn:=by simp;omega
  rw [hm] at hw3 ⊢
  rw [Frame.finish_at]
  walk_nrm
  have hbf : #[]++((List.range qn).map qv).toArray=((List.range qn).map qv).toArray:=by simp
  rw [hbf] at hw3
  have hbsz:((List.range qn).map qv).toArray.size=qn:=by simp
  refine LoneTo.goes (n:=30) ?_
  s_op
  s_op
  s_op
  s_c stepG_region_end
  s_cond false
  s_c stepG_skip
  s_c stepG_seq
  s_reg
  s_op
  s_op
  s_stop
  refine LoneTo.goes (n:=3) ?_
  s_in
  refine goes_call rfl rfl (by decide) rfl Tryz.func355 (by kernel_rfl) rfl ⟨trivial, ?_⟩
  walk_nrmf Tryz.f355
  s_stop
  have he3:Frame.enter Tryz.prog 355 #[.agg #[.chan (some (w.heap.size+1))], .slice la ln lc] .normal=(base 355).at ⟨#[.agg #[.chan (some (w.heap.size+1))], .slice la ln lc,undef,undef,undef,undef,undef,undef,undef,undef,undef,undef,undef,undef,undef,undef,undef,undef,undef,undef,undef,undef],[]⟩ [.code (Tryz.f355.body.getD .skip)]:=by
   simp [Frame.enter,Frame.at,Tryz.func355,base,Tryz.f355]
  simp only [Tryz.f355,Option.getD_some] at he3
  rw [← he3]
  have hl3:=srcOf w3 hl hk3
  refine qaL (qBn hw3.ch hl.le (by omega) hl.ix hl3.1 hl3.2) (fun e w' h=>⟨_,h.1⟩) (fun v w4 h => ?_)
  obtain ⟨hv,hw4⟩:=h
  cases hv
  rw [hbsz] at hw4 ⊢
  have hk4:qz6 w w4 w.heap.size (w.heap.size+1):=⟨hw4.os.trans hk3.os,hw4.tape.trans hk3.tape,hw4.output.trans hk3.output,Nat.le_trans hk3.size hw4.size,fun b hb hne=>(hw4.other b (by omega) hne).trans (hk3.other b hb hne)⟩
  have hbox4:w4.heap[w.heap.size+2]? = some (.cells #[.chan (some (w.heap.size+1))] 378):=(hw4.other _ (by omega) (by omega)).trans hbox3
  have hs4:w.heap.size+3≤w4.heap.size:=by have:=hw4.size;omega
  have hbc4:w4.cell? ⟨w.heap.size+2,0,none⟩=some (.chan (some (w.heap.size+1))):=by simp [World.cell?,hbox4]
  have hall:((List.range qn).map qv).toArray++((List.range (min ln (R - qn))).map lv).toArray=((List.range qn).map qv++(List.range (min ln (R - qn))).map lv).toArray:=by simp
  rw [hall] at hw4
  have hasz:((List.range qn).map qv++(List.range (min ln (R - qn))).map lv).toArray.size=qn+min ln (R - qn):=by simp
  rw [Frame.finish_at]
  walk_nrm
  refine LoneTo.goes (n:=30) ?_
  s_op
  s_c stepG_region_end
  s_c stepG_seq
  s_reg
  s_op
  s_in
  refine goes_call rfl rfl (by decide) rfl Tryz.func356 (by kernel_rfl) rfl ⟨trivial, ?_⟩
  walk_nrmf Tryz.f356
  s_stop
  have he4:Frame.enter Tryz.prog 356 #[.agg #[.chan (some (w.heap.size+1))]] .normal=(base 356).at ⟨#[.agg #[.chan (some (w.heap.size+1))],undef,undef,undef,undef,undef,undef,undef,undef,undef,undef,undef,undef,undef,undef,undef,undef,undef],[]⟩ [.code (Tryz.f356.body.getD .skip)]:=by
   simp [Frame.enter,Frame.at,Tryz.func356,base,Tryz.f356]
  simp only [Tryz.f356,Option.getD_some] at he4
  rw [← he4]
  refine qaL (qJy hw4.ch (by rw [hasz];omega) ?_) (fun e w' h=>h.elim fun sv h=>⟨sv,h.1⟩) (fun v w5 h => ?_)
  ·intro v hv
   simp only [List.mem_toArray,List.mem_append,List.mem_map,List.mem_range] at hv
   rcases hv with ⟨i,hi,rfl⟩ | ⟨i,hi,rfl⟩
   ·exact hq.sl i hi
   ·exact hl.sl i (by omega)
  obtain ⟨sv,hv,hR5,hk5⟩:=h
  cases hv
  rw [hasz] at hR5
  rw [Frame.finish_at]
  walk_nrm
  refine LoneTo.goes (n:=30) ?_
  s_op
  s_op
  s_op
  s_op
  s_c stepG_region_end
  s_c stepG_ret'
  s_stop
  refine LoneTo.done ⟨.returned (.tuple #[v, .int .i64 (min ln (R - qn):Nat), .int .i64 0]),_,rfl,⟨.inr ⟨by omega,v,rfl, ?_⟩, ?_⟩,rfl,rfl,rfl,rfl,_,Tryz.func286,by simp [results,Tryz.f286,Frame.at]⟩
  ·obtain ⟨b,cp,arr,r1,r2,r3,r4,r5,r6,r7,r8⟩:=hR5
   exact ⟨b,cp,arr,r1,r2,r3,r4,r5,r6,by omega,r8⟩
  ·exact ⟨hk5.os.trans hk4.os,hk5.tape.trans hk4.tape,hk5.output.trans hk4.output,Nat.le_trans hk4.size hk5.size,fun b hb hne=>(hk5.other b (by omega) hne).trans (hk4.other b hb hne)⟩
end Yp
namespace Yp
open Go Go.RowKit Go.Proofs
abbrev qo1:Ty := .sl (.sl (.int .u8))
theorem qJG {w:World} {X:Nat→Prop} {l:List BB} {a:Option Addr} {cap:Nat} (h1:l.length≤cap) (h2:cap≤maxLen)
  (h:l=[]∨∃ b o c el fz,a=some ⟨b,o,none⟩∧view w X b=some (.cells c el fz)∧o+l.length*(Ty.sl (.int .u8)).size≤c.size∧∀ (i:Nat) (x:BB),lget l i=some x→RepC (view w X) (.sl (.int .u8)) x (seg c (o+i*(Ty.sl (.int .u8)).size) (Ty.sl (.int .u8)).size)) :
  ∃ pt val,Src1 w a l.length cap pt val∧∀ i (hi:i < l.length),RepC (view w X) (.sl (.int .u8)) (l[i]:BB) [val i]:=by
 have hle:l.length≤9223372036854775807:=by unfold maxLen at h2;omega
 rcases h with rfl | ⟨b,o,c,el,fz,rfl,hb,hsz,hrow⟩
 ·exact ⟨fun _=>⟨0,0,none⟩,fun _=>undef,⟨fun i hi=>absurd hi (Nat.not_lt_zero i),fun i hi=>absurd hi (Nat.not_lt_zero i),fun i hi=>absurd hi (Nat.not_lt_zero i),fun i hi=>absurd hi (Nat.not_lt_zero i),hle⟩,fun i hi=>absurd hi (Nat.not_lt_zero i)⟩
 ·have hsz:o+l.length≤c.size:=by
   have:(Ty.sl (.int .u8)).size=1:=rfl
   rw [this] at hsz;omega
  have hh:=(zC.1 hb).2
  have hget:∀ i,i < l.length→c[o+i]? = some (c[o+i]?.getD undef):=by
   intro i hi
   rw [Array.getElem?_eq_getElem (by omega)];rfl
  have hr:∀ i (hi:i < l.length),RepC (view w X) (.sl (.int .u8)) (l[i]:BB) [c[o+i]?.getD undef]:=by
   intro i hi
   have:=hrow i l[i] (List.getElem?_eq_getElem hi)
   have hs:seg c (o+i*(Ty.sl (.int .u8)).size) (Ty.sl (.int .u8)).size=[c[o+i]?.getD undef]:=by
    have e1:(Ty.sl (.int .u8)).size=1:=rfl
    rw [e1,Nat.mul_one]
    refine List.ext_getElem? fun j => ?_
    by_cases hj:j < 1
    ·obtain rfl:j=0:=by omega
     rw [qeN hj,Nat.add_zero,hget i hi];rfl
    ·rw [List.getElem?_eq_none (by rw [jB (by omega)];omega),List.getElem?_eq_none (by simp;omega)]
   rwa [hs] at this
  refine ⟨fun i=>⟨b,o+i,none⟩,fun i=>c[o+i]?.getD undef,⟨fun i hi w1 => ?_,fun i hi => ?_,fun i _=>(Array.getElem?_eq_some_iff.1 hh).1,fun i hi => ?_,hle⟩,hr⟩
  ·have:=y4 (P:=Tryz.prog) (e := .sl (.int .u8)) (tid:=35) (hTT 35 _ (by kernel_rfl)) (k := .i64) (i:=(i:Int)) (n:=l.length) (cap:=cap) (by omega) (by omega) b o w1
   rw [this]
   have e1:(Ty.sl (.int .u8)).size=1:=rfl
   rw [e1,Nat.mul_one,Int.toNat_natCast]
  ·show w.cell? ⟨b,o+i,none⟩=_
   simp only [World.cell?,hh]
   rw [hget i hi];rfl
  ·obtain ⟨a',cp',hv,_⟩:=RepC.jW.1 (hr i hi)
   exact ⟨_,_,_,List.cons.inj hv |>.1⟩
noncomputable abbrev qo7:wR:=⟨[.sl (.sl (.int .u8)), .sl (.sl (.int .u8)), .int .i64],[.im (.sl (.sl (.int .u8))), .im (.int .i64), .im (.int .i64)],qdP⟩
theorem ret3 {w w':World} {X:Nat→Prop} (hX:∀ b,X b→b < w.heap.size) (hos:w'.os=w.os) (htape:w'.tape=w.tape) (hout:w'.output=w.output) (hsz:w.heap.size≤w'.heap.size) (hold:∀ b,b < w.heap.size→w'.heap[b]? = w.heap[b]?) {q:List BB} {n m:Int} {v:Value} (hv:RepC (view w' X) qo1 q [v]) :
  ∃ vr,Ending.returned (.tuple #[v, .int .i64 n, .int .i64 m]) = .returned vr∧qc1 w X w' [.im qo1, .im (.int .i64), .im (.int .i64)] (q,n,m,()) vr:=by
 refine ⟨_,rfl,X,hos,htape,hout,hsz,hold,fun _ _=>Iff.rfl,fun b h=>Nat.lt_of_lt_of_le (hX b h) hsz,[v, .int .i64 n, .int .i64 m], ?_,rfl⟩
 exact ⟨[v],_,rfl,hv,[.int .i64 n],_,rfl,RepC.zV.2 rfl,[.int .i64 m],[],rfl,RepC.zV.2 rfl,rfl⟩
theorem qIz {w w':World} {X:Nat→Prop} (hX:∀ b,X b→b < w.heap.size) (hold:∀ b,b < w.heap.size→w'.heap[b]? = w.heap[b]?) {q:List BB} {c:Nat} {vals:Array Value} {sv:Value} (hR:qz3 w' w.heap.size c vals q.length sv)
  (hq:∀ i (hi:i < q.length),∃ v,vals[i]? = some v∧RepC (view w X) (.sl (.int .u8)) (q[i]:BB) [v]):RepC (view w' X) qo1 q [sv]:=by
 obtain ⟨b,cp,arr,rfl,hb,hmc,hcm,hasz,hvals,hlb,hbc⟩:=hR
 have hle:(view w X).Le (view w' X):=qgU fun b' o hM ho=>⟨hM,(hold b' (Array.getElem?_eq_some_iff.1 ho).1).trans ho⟩
 have e1:(Ty.sl (.int .u8)).size=1:=rfl
 refine RepC.jW.2 ⟨some ⟨b,0,none⟩,cp,rfl,hmc,hcm, .inr ⟨b,0,arr,22,(0,0),rfl,zC.2 ⟨fun h=>absurd (hX b h) (by omega),hb⟩, ?_,fun i x hx => ?_⟩⟩
 ·show 0+q.length*1≤arr.size
  omega
 ·obtain ⟨hi,rfl⟩:=List.getElem?_eq_some_iff.1 hx
  have hi:i < q.length:=hi
  obtain ⟨v,hv,hr⟩:=hq i hi
  have hs:seg arr (0+i*(Ty.sl (.int .u8)).size) (Ty.sl (.int .u8)).size=[v]:=by
   rw [e1,Nat.mul_one,Nat.zero_add]
   refine List.ext_getElem? fun j => ?_
   by_cases hj:j < 1
   ·obtain rfl:j=0:=by omega
    rw [qeN hj,Nat.add_zero,hvals i hi,hv];rfl
   ·rw [List.getElem?_eq_none (by rw [jB (by omega)];omega),List.getElem?_eq_none (by simp;omega)]
  rw [hs]
  exact hr.mono hle
theorem qIO {w:World} {X:Nat→Prop} (hX:∀ b,X b→b < w.heap.size) (q l:List BB) (room:Int) {r:List BB×Int×Int×Unit} {cs1 cs2:List Value} (hq:RepC (view w X) qo1 q cs1) (hl:RepC (view w X) qo1 l cs2) (hr:qdP (q,l,room,())=some r) :
  Calls Tryz.prog 286 #[mkV qo1 cs1,mkV qo1 cs2, .int .i64 room] w fun e w'=>∃ vr,e = .returned vr∧qc1 w X w' [.im qo1, .im (.int .i64), .im (.int .i64)] r vr:=by
 have hq0:=hq
 obtain ⟨qa,qc,rfl,q1,q2,q3⟩:=RepC.jW.1 hq
 obtain ⟨la,lc,rfl,l1,l2,l3⟩:=RepC.jW.1 hl
 obtain ⟨qpt,qv,sq,rq⟩:=qJG (l:=q) q1 q2 q3
 obtain ⟨lpt,lv,sl,rl⟩:=qJG (l:=l) l1 l2 l3
 unfold qdP at hr
 dsimp only at hr
 show Calls Tryz.prog 286 #[.slice qa q.length qc, .slice la l.length lc, .int .i64 room] w _
 by_cases h1:room < 1
 ·rw [if_pos (.inl h1)] at hr
  obtain rfl:=Option.some.inj hr
  refine (qIP h1).mono fun e w' h => ?_
  obtain ⟨rfl,rfl⟩:=h
  exact ret3 hX rfl rfl rfl (Nat.le_refl _) (fun _ _=>rfl) hq0
 by_cases h2:64 < room
 ·rw [if_pos (.inr h2)] at hr
  obtain rfl:=Option.some.inj hr
  refine (qGU h1 h2).mono fun e w' h => ?_
  obtain ⟨rfl,rfl⟩:=h
  exact ret3 hX rfl rfl rfl (Nat.le_refl _) (fun _ _=>rfl) hq0
 rw [if_neg (by omega)] at hr
 obtain ⟨R,rfl⟩:∃ R:Nat,room=R:=⟨room.toNat,by omega⟩
 refine (qGT (by omega) (by omega) sq sl).mono fun e w' h => ?_
 obtain ⟨h,hk⟩:=h
 have hold:∀ b,b < w.heap.size→w'.heap[b]? = w.heap[b]? := fun b hb=>hk.other b hb (by omega)
 have hle:(view w X).Le (view w' X):=qgU fun b' o hM ho=>⟨hM,(hold b' (Array.getElem?_eq_some_iff.1 ho).1).trans ho⟩
 rcases h with ⟨hlt,rfl⟩ | ⟨hge,sv,rfl,hR⟩
 ·rw [if_pos (by omega)] at hr
  obtain rfl:=Option.some.inj hr
  exact ret3 hX hk.os hk.tape hk.output hk.size hold (hq0.mono hle)
 ·rw [if_neg (by omega),Int.toNat_natCast] at hr
  obtain rfl:=Option.some.inj hr
  rw [Nat.min_comm (R - q.length) l.length]
  have hlen:(q++l.take (R - q.length):List BB).length=q.length+min l.length (R - q.length):=by
   rw [List.length_append,List.length_take,Nat.min_comm]
  refine ret3 hX hk.os hk.tape hk.output hk.size hold (qIz hX hold (c:=w.heap.size+1) (vals:=((List.range q.length).map qv++(List.range (min l.length (R - q.length))).map lv).toArray) (by rw [hlen];exact hR) fun i hi => ?_)
  by_cases hiq:i < q.length
  ·refine ⟨qv i, ?_, ?_⟩
   ·rw [List.getElem?_toArray,List.getElem?_append_left (by simpa using hiq)]
    simp [hiq]
   ·rw [List.getElem_append_left hiq]
    exact rq i hiq
  ·have hj:i - q.length < min l.length (R - q.length):=by omega
   refine ⟨lv (i - q.length), ?_, ?_⟩
   ·rw [List.getElem?_toArray,List.getElem?_append_right (by simp;omega)]
    simp [hj]
   ·rw [List.getElem_append_right (by omega),List.getElem_take]
    exact rl _ (by omega)
theorem qBg:FOK Tryz.prog 286 qo7:=by
 refine ⟨⟨Tryz.f286,Tryz.func286,by kernel_rfl,by kernel_rfl⟩, ?_⟩
 intro w X x vs r hX hkeys ha hr
 obtain ⟨q,l,room,⟨⟩⟩:=x
 obtain ⟨cs1,vs1,rfl,hq,cs2,vs2,rfl,hl,cs3,vs3,rfl,hro,rfl⟩:=ha
 obtain rfl:=RepC.zV.1 hro
 exact qIO hX q l room hq hl hr
end Yp
namespace Yp
open Go Go.Proofs Tryz
abbrev yT19:Ty := .int .u32
abbrev yT13:Ty := .bool
abbrev yT12:Ty := .int .u8
abbrev yT3:Ty := .sl yT12
abbrev yT22:Ty := .sl yT3
abbrev yT16:Ty := .pair yT3 (.pair yT3 (.unit))
abbrev yT9:Ty := .pair yT13 (.pair (.sl yT16) (.pair yT13 (.unit)))
abbrev yT2:Ty := .int .i64
abbrev yT15:Ty := .pair yT2 (.pair (.ar 16 (.int .u64)) (.unit))
abbrev yT14:Ty := .pair yT2 (.pair yT2 (.unit))
abbrev yT20:Ty := .pair yT3 yT14
abbrev yT7:Ty := .pair yT2 (.pair yT2 (.pair (.ar 2 yT2) (.pair yT2 (.pair yT2 yT16))))
abbrev yT6:Ty := .pair (.ar 4 yT13) (.pair (.ar 4 yT20) (.pair (.ar 4 yT2) (.pair yT2 (.unit))))
abbrev yT5:Ty := .pair yT13 (.pair yT2 (.pair yT2 (.pair yT2 (.pair yT2 (.pair yT3 (.pair yT3 (.pair yT2 (.unit))))))))
abbrev yT4:Ty := .pair yT2 (.pair yT3 (.unit))
abbrev yT21:Ty := .pair (.sl yT4) (.pair (.fn [350]) (.unit))
abbrev yT18:Ty := .pair yT2 (.pair (.ar 2 yT2) yT4)
abbrev yT17:Ty := .pair (.ar 8 yT19) yT4
abbrev yT11:Ty := .pair yT2 (.pair yT2 (.pair yT2 yT4))
abbrev yT10:Ty := .pair yT4 (.pair yT4 (.pair yT4 yT14))
abbrev yT8:Ty := .pair yT2 (.pair (.sl yT4) (.unit))
abbrev yT0:Ty := .pair yT2 (.pair yT3 (.pair yT2 (.pair yT16 (.pair yT2 (.pair yT2 (.pair yT2 (.pair yT2 (.pair yT2 (.pair yT15 (.pair yT10 (.pair yT11 (.pair yT2 (.pair yT2 (.pair yT22 (.pair yT6 (.pair (.sl yT4) (.pair (.sl yT18) (.pair (.ar 4 yT2) (.unit)))))))))))))))))))
abbrev yT1:Ty := .pair yT0 (.pair yT9 (.unit))
theorem qy5:FK 65 ⟨[yT16],[.im yT13],qeX⟩:=mkC qD qC func65 3
theorem qcX:FK 133 ⟨[yT2],[.im yT13],jK⟩:=mkC qD qC func133 3
theorem qy9:FK 305 ⟨[yT2],[.im (.int .u64)],qe1⟩:=mkC qD qC func305 5
theorem qDm:FK 240 ⟨[yT15,yT2],[.im yT13],qdG⟩:=mkC (qA qD qy9) qC func240 5
theorem qzA:FK 134 ⟨[yT15],[.im yT13],qe2⟩:=mkC (qA qD qDm) qC func134 5
theorem qpW:FK 173 ⟨[yT4],[.im yT13],v9⟩:=mkC qD qC func173 3
theorem qnF:FK 67 ⟨[yT10],[.im yT13],qa2⟩:=mkC (qA qD qpW) qC func67 6
theorem qBJ:FK 241 ⟨[yT4],[.im yT13],qaH⟩:=mkC qD qC func241 3
theorem qy8:FK 135 ⟨[yT10],[.im yT13],qe0⟩:=mkC (qA (qA (qA qD qBJ) qpW) qnF) qC func135 9
theorem qnC:FK 120 ⟨[yT2],[.im yT13],qaW⟩:=mkC qD qC func120 3
theorem qpT:FK 208 ⟨[yT2,yT2,yT3],[.im yT13],qdD⟩:=mkC (qA qD qnC) qC func208 8
theorem qpU:FK 239 ⟨[yT11],[.im yT13],qdE⟩:=mkC qD qC func239 3
theorem qy2:FK 136 ⟨[yT11],[.im yT13],qeU⟩:=mkC (qA (qA qD qpU) qpT) qC func136 5
theorem qzD:FK 242 ⟨[yT20],[.im yT13],qe4⟩:=mkC qD qC func242 4
theorem jL:FK 39 ⟨[yT3,yT3],[.im yT13],z5⟩:=mkC qD qC func39 5
theorem qpX:FK 243 ⟨[yT20,yT20],[.im yT13],yR⟩:=mkC (qA qD jL) qC func243 5
theorem qzB:FK 137 ⟨[yT6],[.im yT13],qe3⟩:=mkC (qA (qA qD qpX) qzD) qC func137 6
theorem qpV:FK 112 ⟨[yT2],[.im yT13],qdF⟩:=mkC qD qC func112 3
theorem qyY:FK 138 ⟨[yT0],[.im yT13],qeR⟩:=mkC (qA qD qpV) qC func138 4
theorem y9:FK 28 ⟨[yT2],[.im yT13],vD⟩:=mkC qD qC func28 3
theorem qBB:FK 244 ⟨[yT2],[.im yT2],qoD⟩:=mkC qD qC func244 4
theorem qBA:FK 245 ⟨[yT0],[.im yT13],qi5⟩:=mkC (qA qD qnF) qC func245 4
theorem qvO:FK 139 ⟨[yT0],[.im yT13],qbX⟩:=mkC (qA (qA (qA qD qBA) qBB) y9) qC func139 5
theorem qy0:FK 35 ⟨[yT0],[.im yT13],qaU⟩:=mkC (qA (qA (qA (qA (qA (qA (qA (qA qD qvO) qyY) qzB) qy2) qy8) qzA) qcX) qy5) qC func35 13
theorem qDi:FK 221 ⟨[yT16],[.im yT13],ql9⟩:=mkC qD qC func221 3
theorem qDl:FK 222 ⟨[yT10],[.im yT13],qmB⟩:=mkC qD qC func222 3
theorem qDn:FK 223 ⟨[yT6],[.im yT13],qmC⟩:=mkC qD qC func223 3
theorem qBX:FK 224 ⟨[yT22,yT2],[.im yT2],qjM⟩:=mkC qD qC func224 7
theorem qDf:FK 103 ⟨[yT0],[.im yT13],qg9⟩:=mkC (qA (qA (qA (qA qD qBX) qDn) qDl) qDi) qC func103 8
theorem qDt:FK 104 ⟨[yT9,yT2],[.im yT13],qhH⟩:=mkC qD qC func104 6
theorem qDc:FK 22 ⟨[yT1],[.im yT13],ql6⟩:=mkC (qA (qA (qA qD qDt) qDf) qy0) qC func22 5
theorem qtY:FK 144 ⟨[yT4,yT4],[.im yT13],kN⟩:=mkC (qA qD jL) qC func144 5
theorem qBK:FK 40 ⟨[yT10,yT10],[.im yT13],qjB⟩:=mkC (qA qD qtY) qC func40 8
theorem qBW:FK 86 ⟨[yT22,yT22],[.im yT13],qjL⟩:=mkC qD qC func86 6
theorem qBI:FK 145 ⟨[yT16,yT16],[.im yT13],qjA⟩:=mkC (qA qD jL) qC func145 5
theorem qBH:FK 146 ⟨[yT11,yT11],[.im yT13],qi9⟩:=mkC (qA qD jL) qC func146 5
theorem qBL:FK 147 ⟨[yT6,yT6],[.im yT13],qjC⟩:=mkC (qA qD qpX) qC func147 7
theorem qBz:FK 148 ⟨[(.sl yT4),(.sl yT4)],[.im yT13],qi4⟩:=mkC (qA qD jL) qC func148 6
theorem qvP:FK 149 ⟨[(.sl yT18),(.sl yT18)],[.im yT13],qbY⟩:=mkC (qA qD jL) qC func149 6
theorem qBC:FK 42 ⟨[yT0,yT0],[.im yT13],qdC⟩:=mkC (qA (qA (qA (qA (qA (qA (qA (qA qD qvP) qBz) qBL) qBH) qBI) qBW) qBK) jL) qC func42 12
theorem qBS:FK 115 ⟨[yT9,yT9],[.im yT13],qdI⟩:=mkC (qA qD jL) qC func115 6
theorem qgO:FK 25 ⟨[yT1,yT1],[.im yT13],zZ⟩:=mkC (qA (qA qD qBS) qBC) qC func25 7
theorem qB9:FK 318 ⟨[yT3],[.im (.str)],qtK⟩:=mkC qD qC func318 6
theorem qiS:FK 343 ⟨[(.int .i32)],[.im yT2, .im yT13],xN⟩:=mkC qD qC func343 4
theorem qnM:FK 269 ⟨[yT3,yT2,yT2],[.im (.str), .im yT2, .im yT2],vH⟩:=mkC (qA (qA qD qiS) qB9) qC func269 15
noncomputable abbrev qr0:wR:=⟨[.str],[.im yT2, .im yT2],vG⟩
theorem qlG:FK 270 qr0:=mkC (qA qD qiS) qC func270 9
theorem qiP:FK 344 ⟨[yT2,yT2],[.im yT2],kE⟩:=mkC qD qC func344 5
theorem qj1:FK 271 ⟨[yT2],[.im yT13],qfM⟩:=mkC (qA qD qiP) qC func271 4
theorem qzR:FK 272 wX:=qyD qkN
theorem quA:FK 382 ⟨[yT2],[.im yT2],yA⟩:=mkC qD qC func382 3
noncomputable def qc2:Inl:=inlF (eN [] []) f383 3
theorem qcR:IK 383 qc2:=mkI qD qC func383 3
theorem qB6:FK 346 ⟨[yT2,yT2],[.im yT2],yX⟩:=mkC (qA qD quA) (jP qC qcR) func346 5
theorem qeD:FK 273 ⟨[yT2],[.im yT14, .im yT13],qaE⟩:=mkC (qA qD qB6) qC func273 6
theorem qiR:FK 347 ⟨[yT2],[.im yT2],qR⟩:=mkC qD qC func347 3
noncomputable def qnY:Inl:=inlF (eN [] [(383,qc2)]) f384 7
theorem qmZ:IK 384 qnY:=mkI qD (jP qC qcR) func384 7
noncomputable def qDU:Inl:=inlF (eN [] [(383,qc2),(384,qnY)]) f349 3
theorem qCW:IK 349 qDU:=mkI qD (jP (jP qC qmZ) qcR) func349 3
theorem xO:FK 363 ⟨[yT5],[.im yT13],qbC⟩:=mkC qD qC func363 3
theorem j0:FK 365 ⟨[yT5],[.im yT13],y7⟩:=mkC qD qC func365 3
theorem xP:FK 364 ⟨[yT5],[.im yT13],qbD⟩:=mkC (qA qD j0) qC func364 4
theorem yH:FK 366 ⟨[yT5],[.im yT13],qk4⟩:=mkC qD qC func366 3
theorem qb9:FK 277 ⟨[yT2,yT3],[.im yT13],vO⟩:=mkC (qA (qA (qA (qA (qA (qA qD yH) j0) xP) xO) qiR) qeD) (jP (jP qC qCW) qmZ) func277 8
theorem qB7:FK 274 ⟨[yT2,yT3,yT2],[.ow yT12, .im yT2, .im yT2],qjW⟩:=mkC (qA (qA (qA (qA (qA (qA (qA (qA (qA qD yH) j0) xP) xO) qiR) qb9) qeD) qlG) qnM) qC func274 20
theorem qw5:FK 177 ⟨[yT3],[.im yT8, .im yT2],qmY⟩:=mkC (qA (qA (qA (qA (qA (qA qD qB7) qeD) qzR) qj1) qlG) qnM) qC func177 20
theorem qDH:FK 275 ⟨[yT2],[.im yT2],qh1⟩:=mkC (qA (qA qD qiP) qj1) qC func275 3
theorem qkM:FK 178 ⟨[yT8],[.im yT13],wH⟩:=mkC (qA qD qDH) qC func178 3
noncomputable abbrev qj7:wR:=⟨[yT4],[.im yT2],wG⟩
theorem jM:FK 350 qj7:=mkC qD qC func350 3
theorem qp5:FK 278 ⟨[yT8],[.im yT21],qd1⟩:=mkC (qA qD jM) qC func278 3
theorem yI:FK 348 ⟨[yT21,yT2],[.im yT2, .im yT13],z8⟩:=mkC (qA qD jM) qC func348 9
noncomputable abbrev qAA:wR:=⟨[yT8,yT2],[.im yT3, .im yT13],yW⟩
theorem qnK:FK 276 qAA:=mkC (qA (qA (qA qD jM) yI) qp5) qC func276 8
theorem qt4:FK 179 ⟨[yT8],[.im yT13],qd4⟩:=mkC (qA qD qnK) qC func179 5
theorem qcA:FK 180 ⟨[yT2,yT2],[.im (.str), .im yT2],x6⟩:=mkC qD qC func180 8
noncomputable def wQ:Inl:=inlF (eN [] []) f385 5
theorem wO:IK 385 wQ:=mkI qD qC func385 5
theorem qnN:FK 333 ⟨[yT3,yT3],[.im yT13],qbQ⟩:=mkC qD qC func333 5
theorem qiQ:FK 359 ⟨[yT4,yT4],[.im yT13],qjS⟩:=mkC (qA qD qnN) qC func359 5
theorem y0:FK 351 ⟨[(.sl (.sl yT4))],[.ow yT4],zD⟩:=mkC (qA qD qiQ) (jP qC wO) func351 9
theorem qf4:FK 279 ⟨[yT21,yT4],[.ow yT4],j9⟩:=mkC (qA (qA (qA qD jM) y0) yI) qC func279 8
noncomputable abbrev qAz:wR:=⟨[yT8,yT2,yT3],[.im yT8, .im yT2],jU⟩
theorem qt3:FK 181 qAz:=mkC (qA (qA (qA (qA (qA qD jM) qf4) qp5) qb9) qeD) qC func181 10
theorem qDF:FK 280 ⟨[yT8],[.im yT13],qmW⟩:=mkC (qA (qA qD qb9) qj1) qC func280 6
theorem qCa:FK 281 ⟨[.str],[.ow yT12, .im yT2],qcV⟩:=mkC (qA qD qiS) qC func281 10
theorem qv0:FK 352 ⟨[(.sl yT2)],[.im yT13],qcC⟩:=mkC qD qC func352 6
theorem qvZ:FK 282 ⟨[(.sl yT2)],[.ow yT12, .im yT2],qcB⟩:=mkC (qA (qA qD qkN) qv0) qC func282 9
theorem qzP:FK 283 ⟨[yT2,yT3],[.ow yT12, .im yT2],qbN⟩:=mkC (qA (qA (qA (qA (qA (qA (qA (qA (qA qD yH) j0) xP) xO) qiR) qCa) qb9) qeD) qcA) qC func283 14
theorem qlF:FK 182 ⟨[yT8],[.ow yT12, .im yT2],qbI⟩:=mkC (qA (qA (qA (qA (qA qD qzP) qvZ) qCa) qDF) qcA) qC func182 17
theorem qp7:FK 71 ⟨[yT3,yT2],[.ow yT12, .im yT2],qd7⟩:=mkC (qA (qA (qA (qA (qA (qA qD qlF) qt3) qcA) qt4) qkM) qw5) qC func71 12
theorem qnJ:FK 263 ⟨[yT2,(.sl yT2)],[.im yT13],qbH⟩:=mkC qD qC func263 7
theorem qlE:FK 228 ⟨[yT0],[.im (.ar 2 yT2)],kX⟩:=mkC (qA qD qnJ) qC func228 4
theorem qt1:FK 234 ⟨[yT3],[.im yT13],qhX⟩:=mkC qD qC func234 3
theorem qiM:FK 225 ⟨[yT2],[.im yT2],yT⟩:=mkC qD qC func225 3
theorem qvV:FK 235 ⟨[yT2],[.im yT13],qb1⟩:=mkC (qA qD qiM) qC func235 3
theorem qFL:FK 319 ⟨[yT6],[.im yT6, .im yT2, .im yT2],qrG⟩:=mkC qD qC func319 7
theorem qB8:FK 389 ⟨[yT2,yT2],[.im yT13],qaM⟩:=mkC qD qC func389 5
theorem quB:FK 367 ⟨[yT7],[.im yT13],qiD⟩:=mkC (qA qD qB8) qC func367 5
noncomputable abbrev qAB:wR:=⟨[yT2,yT2],[.ow yT12, .im yT2],qfX⟩
theorem qIa:FK 308 qAB:=mkC qD qC func308 8
noncomputable def qz8:Inl:=inlF (eN [(308,qAB)] []) f368 8
theorem qx8:IK 368 qz8:=mkI (qA qD qIa) qC func368 8
theorem quC:FK 320 ⟨[yT7],[.ow yT12, .im yT2],qiE⟩:=mkC (qA qD quB) (jP qC qx8) func320 6
theorem qFI:FK 369 qwD:=qFx qFJ
theorem yG:FK 370 ⟨[(.sl yT16)],[.cl yT16],zP⟩:=mkC qD qC func370 3
theorem qzQ:FK 371 qlU:=qyC
theorem kH:FK 388 ⟨[yT19,yT2],[.im yT19],qI⟩:=mkC qD qC func388 6
theorem qBv:FK 387 ⟨[yT3],[.im (.ar 64 yT19)],qiY⟩:=mkC (qA qD kH) qC func387 9
theorem qtV:FK 362 ⟨[(.ar 8 yT19),yT3],[.im (.ar 8 yT19), .im yT2],qgY⟩:=mkC (qA (qA qD kH) qBv) qC func362 16
noncomputable abbrev qAx:wR:=⟨[yT17,yT3],[.im yT17],qeM⟩
theorem qtU:FK 312 qAx:=mkC (qA qD qtV) qC func312 6
noncomputable abbrev qAy:wR:=⟨[],[.im yT17],qrY⟩
theorem qBx:FK 313 qAy:=mkC qD qC func313 1
theorem qBw:FK 314 ⟨[yT17],[.ow yT12],qkU⟩:=mkC (qA qD qtV) qC func314 9
theorem qJr:FK 361 ⟨[yT3],[.ow yT12],qEd⟩:=mkC (qA (qA (qA (qA qD jM) qBw) qBx) qtU) qC func361 3
theorem qDC:FK 310 ⟨[yT3],[.ow yT12],qmT⟩:=mkC (qA qD qJr) qC func310 4
noncomputable def qDT:Inl:=inlF (eN [(312,qAx),(313,qAy),(350,qj7)] []) f311 6
theorem qCV:IK 311 qDT:=mkI (qA (qA (qA qD jM) qBx) qtU) qC func311 6
theorem qB1:FK 231 ⟨[yT3,yT3],[.ow yT12],qsZ⟩:=mkC (qA (qA (qA (qA qD jM) qBw) qtU) qDC) (jP qC qCV) func231 7
theorem qB0:FK 372 ⟨[yT3,yT3],[.ow yT12],qdQ⟩:=mkC (qA qD qB1) qC func372 5
theorem qFH:FK 321 ⟨[yT9,yT3,yT3],[.im yT9, .ow yT12],qq9⟩:=mkC (qA (qA (qA (qA qD qB0) qzQ) yG) qFI) qC func321 8
theorem qDJ:FK 373 ⟨[yT7],[.im yT13],qm8⟩:=mkC (qA qD quB) qC func373 3
theorem qDI:FK 322 ⟨[yT7],[.ow yT12, .im yT2],qm7⟩:=mkC (qA (qA qD qDJ) quC) qC func322 6
theorem qB5:FK 323 ⟨[yT3],[.ow yT12, .im yT2],qjU⟩:=mkC qD qC func323 4
theorem y2:FK 324 ⟨[(.sl yT4)],[.cl yT4],zR⟩:=mkC qD qC func324 3
theorem qt2:FK 236 ⟨[yT1,yT7,yT3],[.im yT1, .im yT2],qhY⟩:=mkC (qA (qA (qA (qA (qA (qA qD y2) qB5) qDI) qFH) quC) qFL) qC func236 17
theorem qf3:FK 124 ⟨[yT1,yT3],[.im yT1, .im yT2],kW⟩:=mkC (qA (qA (qA (qA qD qt2) qvV) qt1) qlE) qC func124 9
theorem qj3:FK 287 wU:=qj2
theorem qBY:FK 190 ⟨[yT22],[.im yT3, .im yT22, .im yT13],qdO⟩:=mkC (qA qD qj3) qC func190 5
theorem qt8:FK 75 ⟨[yT1],[.im yT1],qh8⟩:=mkC (qA (qA qD qBY) qf3) qC func75 8
theorem qiN:FK 105 ⟨[yT2],[.im yT13],qaJ⟩:=mkC (qA qD qiM) qC func105 3
theorem qBZ:FK 286 qo7:=qBg
theorem qDz:FK 186 ⟨[yT22,yT3,yT2],[.im yT22, .im yT2],qmI⟩:=mkC (qA qD qBZ) qC func186 11
theorem yF:FK 253 ⟨[(.sl yT18)],[.cl yT18],zN⟩:=mkC qD qC func253 3
theorem qp6:FK 187 ⟨[yT1,yT2,yT2,yT3],[.im yT1],qd6⟩:=mkC (qA (qA qD yF) qlE) qC func187 9
theorem qzO:FK 73 ⟨[yT1,yT3],[.im yT1, .im yT2],qbJ⟩:=mkC (qA (qA (qA (qA (qA qD qp6) qDz) qiN) qt8) qp7) qC func73 9
theorem qDA:FK 315 ⟨[yT5],[.im (.fn [363,364,365,366])],qsX⟩:=mkC (qA (qA (qA (qA qD yH) j0) xP) xO) qC func315 3
theorem qp4:FK 232 ⟨[yT5],[.im yT13],qdW⟩:=mkC (qA (qA (qA (qA (qA qD yH) j0) xP) xO) qDA) qC func232 3
noncomputable def qgS:Inl:=inlF (eN [(181,qAz)] []) f316 4
theorem qgK:IK 316 qgS:=mkI (qA qD qt3) qC func316 4
theorem qvW:FK 317 ⟨[yT2,yT2],[.ow yT12],zY⟩:=mkC (qA qD qcA) qC func317 7
theorem qkL:FK 233 ⟨[yT5],[.im yT8],kB⟩:=mkC (qA (qA qD qB9) qvW) (jP qC qgK) func233 5
theorem qp3:FK 123 ⟨[yT5],[.ow yT12, .im yT2],qaK⟩:=mkC (qA (qA (qA qD qkL) qp4) qlF) qC func123 4
theorem qFP:FK 167 ⟨[yT2],[.im yT2],qrK⟩:=mkC qD qC func167 3
theorem qDM:FK 338 ⟨[yT2],[.im yT13],qnU⟩:=mkC qD qC func338 3
theorem qFO:FK 262 ⟨[yT2,yT2,yT3],[.im yT13],qrJ⟩:=mkC (qA qD qDM) qC func262 7
theorem qDN:FK 168 ⟨[yT2,yT2,yT3],[.im yT11, .im yT2],qnV⟩:=mkC (qA qD qFO) qC func168 8
theorem qB2:FK 309 ⟨[yT3, .str,yT22],[.ow yT12, .im yT2],qjP⟩:=mkC (qA qD qB1) qC func309 11
theorem qDE:FK 264 ⟨[yT3],[.ow yT12],qhZ⟩:=mkC (qA qD qB2) qC func264 5
theorem qB4:FK 169 ⟨[yT1,yT2,yT3],[.im yT1, .im yT2],qjR⟩:=mkC (qA (qA (qA (qA (qA qD qDE) qnJ) qt2) qt1) qlE) qC func169 9
theorem qtT:FK 63 ⟨[yT1,yT5],[.im yT1],wV⟩:=mkC (qA (qA (qA (qA (qA qD qB4) qDN) qFP) qf3) qp3) qC func63 9
noncomputable def qCi:Inl:=inlF (eN [] []) f230 3
theorem qBb:IK 230 qCi:=mkI qD qC func230 3
theorem qp2:FK 110 ⟨[yT2,yT2],[.im yT2, .im yT13],qdR⟩:=mkC (qA qD qiM) (jP qC qBb) func110 9
theorem qt9:FK 77 ⟨[yT1,yT2],[.im yT1, .im yT2],qiB⟩:=mkC (qA (qA (qA qD qp2) qiN) qtT) qC func77 6
theorem qt6:FK 191 ⟨[yT1],[.im yT1],qd5⟩:=mkC (qA qD qp2) qC func191 3
theorem qp8:FK 79 ⟨[yT1],[.im yT1],qd8⟩:=mkC (qA qD qt6) qC func79 3
theorem qzM:FK 122 ⟨[yT5,yT2],[.im yT5, .im yT2],qbF⟩:=mkC qD qC func122 6
theorem qp9:FK 81 ⟨[yT1,yT5],[.im yT1],qd9⟩:=mkC (qA (qA (qA qD qf3) qp3) qzM) qC func81 9
theorem qiO:FK 125 ⟨[yT1,yT2],[.im yT1],kC⟩:=mkC qD qC func125 7
theorem qFQ:FK 325 ⟨[yT11,yT11],[.im yT13],qz0⟩:=mkC (qA qD qnN) qC func325 5
theorem qFN:FK 237 ⟨[yT11],[.im yT13],qrI⟩:=mkC (qA qD qFQ) qC func237 3
theorem qDL:FK 129 ⟨[yT11,yT2,yT2],[.im yT13],qnT⟩:=mkC (qA qD qFN) qC func129 7
noncomputable def qz7:Inl:=inlF (eN [(270,qr0),(276,qAA)] [(316,qgS)]) f288 7
theorem qx7:IK 288 qz7:=mkI (qA (qA qD qnK) qlG) (jP qC qgK) func288 7
theorem qFM:FK 357 ⟨[yT12],[.im yT12, .im yT13],qrH⟩:=mkC qD qC func357 4
theorem qDK:FK 289 ⟨[.str],[.ow yT12, .im yT2],qiG⟩:=mkC (qA qD qFM) qC func289 10
theorem jV:FK 358 ⟨[(.sl yT4),(.sl yT4),(.fn [359])],[.im yT13],qQ⟩:=mkC (qA qD qiQ) qC func358 10
theorem qFK:FK 290 ⟨[yT8,yT8],[.im yT13],qmV⟩:=mkC (qA (qA qD qiQ) jV) qC func290 5
theorem qDB:FK 193 ⟨[yT3],[.im yT5, .im yT2],qmM⟩:=mkC (qA (qA (qA (qA (qA (qA qD qFK) qDK) qnK) qkL) qp4) qw5) (jP qC qx7) func193 10
theorem qnL:FK 83 ⟨[yT1,yT5],[.im yT1],qbK⟩:=mkC (qA (qA (qA (qA qD qDB) qt6) qDL) qiO) qC func83 7
theorem qzC:FK 87 ⟨[yT6,yT2],[.im yT6, .im yT2],qk0⟩:=mkC qD qC func87 6
theorem qDk:FK 140 ⟨[yT3],[.im yT10, .im yT2],qmA⟩:=mkC qD qC func140 4
theorem qf1:FK 202 ⟨[yT2,yT2],[.im yT2],xU⟩:=mkC qD qC func202 7
theorem qlD:FK 246 ⟨[yT2,yT2],[.ow yT12, .im yT2],kR⟩:=mkC (qA qD qf1) qC func246 8
theorem qDw:FK 374 ⟨[yT2],[.ow yT12],qmH⟩:=mkC qD qC func374 6
theorem qp1:FK 375 ⟨[],[.ow yT19],qjK⟩:=mkC qD qC func375 1
theorem qBU:FK 392 ⟨[yT19,yT19],[.im yT19],jZ⟩:=mkC qD qC func392 5
theorem qp0:FK 376 ⟨[(.ar 8 yT19),yT3,yT2,(.sl yT19)],[.im (.ar 8 yT19)],qdK⟩:=mkC (qA qD qBU) qC func376 30
theorem qDu:FK 327 ⟨[yT17],[.ow yT12],qhK⟩:=mkC (qA (qA (qA qD qp0) qp1) qDw) qC func327 9
theorem qDv:FK 328 ⟨[yT17,yT3],[.im yT17],qhL⟩:=mkC (qA (qA qD qp0) qp1) qC func328 8
theorem qDx:FK 329 ⟨[],[.im yT17],qsM⟩:=mkC qD qC func329 1
theorem qoX:FK 250 ⟨[yT3],[.ow yT12],qfA⟩:=mkC (qA (qA (qA qD qDx) qDv) qDu) qC func250 3
theorem qzJ:FK 249 ⟨[yT3],[.ow yT12],qe9⟩:=mkC (qA qD qoX) qC func249 4
theorem qtZ:FK 150 ⟨[yT3,yT3],[.ow yT12],qhI⟩:=mkC (qA (qA qD qoX) qzJ) qC func150 9
theorem qBT:FK 326 ⟨[.str,yT22],[.ow yT12],qjJ⟩:=mkC qD qC func326 7
theorem qkK:FK 247 ⟨[yT3, .str,yT22],[.ow yT12, .im yT2],wE⟩:=mkC (qA (qA qD qBT) qtZ) qC func247 9
theorem qDd:FK 141 ⟨[yT3,(.ar 2 yT2),yT2,yT3],[.ow yT12],qg8⟩:=mkC (qA (qA (qA qD qkK) qlD) qcX) qC func141 19
theorem qvS:FK 248 ⟨[yT2],[.ow yT12, .im yT2],qbZ⟩:=mkC (qA (qA qD qoX) qlD) qC func248 7
theorem qDh:FK 142 ⟨[],[.im yT16],qhF⟩:=mkC (qA qD qvS) qC func142 3
theorem qDr:FK 143 ⟨[.bool],[.im yT9],qmF⟩:=mkC qD qC func143 3
theorem qB3:FK 85 ⟨[.bool],[.im yT1],qjQ⟩:=mkC (qA (qA (qA (qA (qA qD qDr) qDh) qDd) qDk) qzC) qC func85 7
theorem qiL:FK 201 ⟨[.str],[.im yT13],kQ⟩:=mkC qD qC func201 4
theorem qf2:FK 92 ⟨[.str],[.im yT2, .im yT2],v4⟩:=mkC (qA (qA qD qf1) qiL) qC func92 6
theorem qpY:FK 95 ⟨[yT2],[.im yT13],qdH⟩:=mkC qD qC func95 3
theorem qiK:FK 197 ⟨[yT3,yT2,yT2],[.im (.str), .im yT2, .im yT2],j7⟩:=mkC qD qC func197 13
theorem qnH:FK 298 ⟨[yT2],[.im yT2, .im yT12],v3⟩:=mkC qD qC func298 6
theorem qDp:FK 293 ⟨[yT3,yT2],[.im yT13],kP⟩:=mkC (qA qD qnH) qC func293 7
theorem qBP:FK 198 ⟨[yT3,yT2],[.ow yT2, .im yT2, .im yT2],qjG⟩:=mkC (qA qD qDp) qC func198 12
theorem qFG:FK 294 ⟨[(.sl yT2),yT2],[.im yT13],qmD⟩:=mkC qD qC func294 6
theorem qj0:FK 199 ⟨[yT2],[.im yT14, .im yT13],qe8⟩:=mkC (qA qD qFG) qC func199 7
theorem qnI:FK 295 ⟨[yT2],[.im yT2],yS⟩:=mkC qD qC func295 3
theorem qiJ:FK 296 ⟨[yT14,yT3],[.im yT13],xJ⟩:=mkC qD qC func296 6
theorem qBQ:FK 200 ⟨[yT2,yT3,yT2],[.ow yT12, .im yT2, .im yT2],qjH⟩:=mkC (qA (qA (qA (qA (qA qD qiJ) qnI) qj0) qiK) qf2) qC func200 23
theorem qpZ:FK 90 ⟨[yT3],[.im yT8, .im yT2],qaI⟩:=mkC (qA (qA (qA (qA (qA (qA qD qBQ) qj0) qBP) qiK) qpY) qf2) qC func90 20
theorem qlC:FK 91 ⟨[yT8,yT2],[.im yT3, .im yT13],kO⟩:=mkC qD qC func91 7
theorem qt5:FK 209 ⟨[.bool,yT2,yT2],[.im yT2],qfS⟩:=mkC qD qC func209 7
theorem qt7:FK 210 ⟨[yT8],[.im yT13],qfT⟩:=mkC (qA qD qt4) qC func210 4
theorem qDG:FK 299 ⟨[yT2],[.im yT2, .im yT13],qA7⟩:=mkC (qA (qA qD qiP) qj1) qC func299 5
theorem qvX:FK 211 ⟨[yT1,yT8],[.im yT1],qpK⟩:=mkC (qA (qA (qA (qA (qA (qA qD qDG) qnK) qlF) qt3) qiO) qf3) qC func211 13
theorem qvY:FK 99 ⟨[yT1,yT7,yT8],[.im yT1],qb5⟩:=mkC (qA (qA (qA (qA (qA (qA (qA qD qvX) qt7) qt5) qp6) qkM) qiO) qiN) qC func99 7
theorem qpS:FK 36 ⟨[yT0],[.im (.ar 2 yT2)],qaG⟩:=mkC qD qC func36 3
theorem qDe:FK 189 ⟨[yT0,yT2,(.ar 2 yT2),yT2,yT3],[.im yT0],ql7⟩:=mkC qD qC func189 11
theorem qBD:FK 158 ⟨[yT0,yT2],[.im yT0],qi6⟩:=mkC (qA (qA (qA qD qDe) qpS) y9) qC func158 6
theorem qBR:FK 285 ⟨[yT2,yT3],[.im yT13],qjI⟩:=mkC (qA (qA qD qiJ) qj0) qC func285 8
theorem qzE:FK 203 ⟨[yT8],[.im yT13],qe5⟩:=mkC (qA (qA qD qBR) qpY) qC func203 5
theorem qcY:FK 96 ⟨[yT2,yT2],[.im (.str), .im yT2],j8⟩:=mkC (qA qD qf1) qC func96 8
theorem qt0:FK 206 ⟨[.str],[.ow yT12, .im yT2],vT⟩:=mkC (qA qD qiL) qC func206 6
theorem qzH:FK 204 ⟨[yT2,yT3],[.ow yT12, .im yT2],qa5⟩:=mkC (qA (qA (qA (qA (qA qD qiJ) qnI) qt0) qj0) qcY) qC func204 16
theorem qzG:FK 297 ⟨[(.sl yT2)],[.im yT13],qe7⟩:=mkC qD qC func297 4
theorem qzF:FK 205 ⟨[(.sl yT2)],[.ow yT12, .im yT2],qe6⟩:=mkC (qA (qA qD qnH) qzG) qC func205 11
theorem qBO:FK 207 ⟨[yT2],[.im (.str)],qjF⟩:=mkC (qA qD qcY) qC func207 5
theorem qnG:FK 97 ⟨[yT8],[.ow yT12, .im yT2],vZ⟩:=mkC (qA (qA (qA (qA (qA qD qBO) qt0) qzF) qzH) qzE) qC func97 14
theorem qDD:FK 176 ⟨[yT2],[.ow yT12],qbG⟩:=mkC (qA qD qnG) qC func176 5
theorem qzN:FK 70 ⟨[],[.im yT13],qfL⟩:=mkC (qA (qA (qA (qA (qA (qA (qA (qA (qA (qA (qA (qA (qA (qA qD qDD) qBD) qvY) qlC) qpZ) qB3) qnL) qp9) qp8) qt9) qt8) qzO) qp7) qgO) qC func70 18
theorem qvT:FK 360 ⟨[yT2],[.im yT13],v8⟩:=mkC qD qC func360 3
theorem qnD:FK 291 ⟨[yT7],[.im yT13],qaY⟩:=mkC (qA qD qvT) qC func291 6
theorem qDj:FK 300 ⟨[yT2,yT2],[.ow yT12],jS⟩:=mkC (qA qD qlD) qC func300 7
theorem qnE:FK 216 ⟨[yT7],[.ow yT12, .im yT2],qaZ⟩:=mkC (qA (qA qD qDj) qnD) qC func216 6
theorem qDo:FK 378 ⟨[yT6],[.im yT13],qsE⟩:=mkC qD qC func378 3
theorem qBM:FK 334 ⟨[yT6],[.im yT6, .im yT2, .im yT2],qjD⟩:=mkC (qA qD qDo) qC func334 7
theorem qzI:FK 301 ⟨[yT3,yT3],[.ow yT12],qa6⟩:=mkC (qA qD qtZ) qC func301 5
theorem qDs:FK 302 ⟨[yT9,yT3,yT3],[.im yT13],qmG⟩:=mkC (qA qD jL) qC func302 8
theorem qDq:FK 335 ⟨[yT9,yT3,yT3],[.im yT9, .ow yT12],qmE⟩:=mkC (qA (qA qD qDs) qzI) qC func335 9
theorem qy7:FK 195 ⟨[yT7],[.im yT13],qeZ⟩:=mkC (qA qD qnD) qC func195 4
theorem qy6:FK 336 ⟨[yT7],[.ow yT12, .im yT2],qeY⟩:=mkC (qA (qA qD qnE) qy7) qC func336 7
theorem qBN:FK 337 ⟨[yT3],[.ow yT12, .im yT2],qjE⟩:=mkC qD qC func337 4
theorem qpQ:FK 260 ⟨[yT1,yT7,yT3],[.im yT1, .im yT2],qaF⟩:=mkC (qA (qA (qA (qA (qA qD qBN) qy6) qDq) qBM) qnE) qC func260 19
theorem qpR:FK 165 ⟨[yT1,yT3],[.im yT1, .im yT2],qdB⟩:=mkC (qA (qA (qA qD qpQ) qpS) y9) qC func165 9
theorem qDg:FK 29 ⟨[yT5],[.im yT13],qhB⟩:=mkC qD qC func29 3
theorem qnB:FK 30 ⟨[yT5],[.im yT13],qaV⟩:=mkC (qA qD qnC) qC func30 4
theorem qy4:FK 98 ⟨[yT2,yT2,yT3],[.im yT11, .im yT2],qeW⟩:=mkC (qA qD qpT) qC func98 9
theorem qBG:FK 170 ⟨[yT2],[.im yT2],qi8⟩:=mkC qD qC func170 3
theorem qtW:FK 339 ⟨[yT2,yT2],[.ow yT12],qW⟩:=mkC (qA qD qcY) qC func339 7
theorem qBV:FK 379 ⟨[yT12],[.im yT12],qdL⟩:=mkC qD qC func379 3
theorem qDy:FK 340 ⟨[yT3],[.im (.str)],qhN⟩:=mkC (qA qD qBV) qC func340 5
theorem qtX:FK 265 ⟨[yT5],[.im yT8],wZ⟩:=mkC (qA (qA qD qDy) qtW) qC func265 4
theorem qf0:FK 171 ⟨[yT5],[.ow yT12, .im yT2],yP⟩:=mkC (qA (qA (qA qD qtX) qnG) qnB) qC func171 7
theorem qBE:FK 214 ⟨[yT3],[.ow yT12],yO⟩:=mkC (qA qD qkK) qC func214 5
theorem qyZ:FK 172 ⟨[yT1,yT2,yT3],[.im yT1, .im yT2],qeS⟩:=mkC (qA (qA (qA qD qpQ) qBE) qcX) qC func172 10
theorem qq3:FK 64 ⟨[yT1,yT5],[.im yT1],y5⟩:=mkC (qA (qA (qA (qA (qA qD qyZ) qf0) qBG) qpR) qy4) qC func64 13
theorem qBy:FK 78 ⟨[yT1,yT2],[.im yT1, .im yT2],qi3⟩:=mkC (qA (qA qD qpV) qq3) qC func78 7
theorem qnA:FK 80 ⟨[yT1],[.im yT1],qaS⟩:=mkC qD qC func80 3
theorem qvR:FK 261 ⟨[yT5,yT2],[.im yT5, .im yT2],qhC⟩:=mkC qD qC func261 6
theorem qyX:FK 166 ⟨[yT5,yT2],[.ow yT12],qeQ⟩:=mkC (qA (qA qD qvR) qf0) qC func166 9
theorem qm9:FK 192 ⟨[yT1,yT2],[.im yT1],qaR⟩:=mkC qD qC func192 5
theorem qyV:FK 82 ⟨[yT1,yT5],[.im yT1],qeP⟩:=mkC (qA (qA (qA qD qm9) qyX) qpR) qC func82 7
theorem qzK:FK 306 ⟨[yT12],[.im yT2],qfB⟩:=mkC qD qC func306 3
theorem qzL:FK 219 ⟨[.str],[.ow yT12, .im yT2],qa7⟩:=mkC (qA qD qzK) qC func219 8
theorem qvQ:FK 220 ⟨[yT8,yT2],[.im yT2],xS⟩:=mkC (qA (qA qD qf2) qlC) qC func220 9
theorem qBF:FK 102 ⟨[yT3],[.im yT5, .im yT2],qi7⟩:=mkC (qA (qA (qA (qA (qA (qA qD qvQ) qzL) qf0) qlC) qpZ) jL) qC func102 15
theorem qy1:FK 212 ⟨[yT1,yT2],[.im yT1],qeT⟩:=mkC qD qC func212 7
theorem qyW:FK 127 ⟨[yT1],[.im yT1],qaT⟩:=mkC (qA qD qy1) qC func127 3
theorem qy3:FK 131 ⟨[yT11,yT2,yT2],[.im yT13],qeV⟩:=mkC (qA qD qpU) qC func131 8
theorem qvN:FK 84 ⟨[yT1,yT5],[.im yT1],qbW⟩:=mkC (qA (qA (qA (qA (qA qD qm9) qy3) qyW) qBF) qnA) qC func84 8
theorem qoY:FK 15 ⟨[yT1,yT2,yT5],[.im yT13],kV⟩:=mkC (qA (qA (qA (qA (qA (qA (qA (qA (qA (qA (qA (qA (qA (qA qD qvN) qnL) qyV) qp9) qnA) qp8) qBy) qt9) qzN) qnB) qDg) y9) qgO) qDc) qC func15 12
end Yp
namespace Yp
open Go
set_option maxRecDepth 100000
set_option maxHeartbeats 2000000
def tn (x n:UInt32):UInt32:=u32 (orI .u32 (n32 (u32 (shrI .u32 (n32 x) (n32 n)))) (n32 (u32 (shlI .u32 (n32 x) (n32 (u32 (isub (n32 (u32 32)) (n32 n))))))))
theorem qcE (x n:UInt32):jZ (x,n,())=some (tn x n,()):=rfl
theorem qG4 (a b:UInt32):u32 (orI .u32 (n32 a) (n32 b))=u32 (orI .u32 (n32 b) (n32 a)):=by rw [or32,or32,UInt32.or_comm]
theorem qj8 {x:UInt32} {k:Int} {n:UInt32} (h1:n64 (u64 (andI .u64 (n64 (u64 k)) (n64 (u64 31))))=n32 (u32 (isub (n32 (u32 32)) (n32 n)))) (h2:n64 (u64 (isub (n64 (u64 32)) (n64 (u64 (andI .u64 (n64 (u64 k)) (n64 (u64 31)))))))=n32 n) :
  qI (x,k,())=some (tn x n,()):=by
 unfold qI tn
 dsimp only
 rw [qG4,h2,h1]
theorem r2 (x:UInt32):qI (x, -2,())=some (tn x (u32 2),()):=qj8 (by decide +kernel) (by decide +kernel)
theorem r3 (x:UInt32):qI (x, -13,())=some (tn x (u32 13),()):=qj8 (by decide +kernel) (by decide +kernel)
theorem r4 (x:UInt32):qI (x, -22,())=some (tn x (u32 22),()):=qj8 (by decide +kernel) (by decide +kernel)
theorem r6 (x:UInt32):qI (x, -6,())=some (tn x (u32 6),()):=qj8 (by decide +kernel) (by decide +kernel)
theorem r11 (x:UInt32):qI (x, -11,())=some (tn x (u32 11),()):=qj8 (by decide +kernel) (by decide +kernel)
theorem r25 (x:UInt32):qI (x, -25,())=some (tn x (u32 25),()):=qj8 (by decide +kernel) (by decide +kernel)
theorem r7 (x:UInt32):qI (x, -7,())=some (tn x (u32 7),()):=qj8 (by decide +kernel) (by decide +kernel)
theorem r18 (x:UInt32):qI (x, -18,())=some (tn x (u32 18),()):=qj8 (by decide +kernel) (by decide +kernel)
theorem r17 (x:UInt32):qI (x, -17,())=some (tn x (u32 17),()):=qj8 (by decide +kernel) (by decide +kernel)
theorem r19 (x:UInt32):qI (x, -19,())=some (tn x (u32 19),()):=qj8 (by decide +kernel) (by decide +kernel)
def qKd (a b c d:UInt8):UInt32 :=
 u32 (iadd (n32 (u32 (iadd (n32 (u32 (iadd (n32 (u32 (imul (n32 (u32 (n8 a))) (n32 (u32 16777216))))) (n32 (u32 (imul (n32 (u32 (n8 b))) (n32 (u32 65536)))))))) (n32 (u32 (imul (n32 (u32 (n8 c))) (n32 (u32 256)))))))) (n32 (u32 (n8 d))))
def qLM (a b c d:UInt8):UInt32 :=
 u32 (orI .u32 (n32 (u32 (orI .u32 (n32 (u32 (orI .u32 (n32 (u32 (shlI .u32 (n32 (u32 (n8 a))) (n64 (u64 24))))) (n32 (u32 (shlI .u32 (n32 (u32 (n8 b))) (n64 (u64 16)))))))) (n32 (u32 (shlI .u32 (n32 (u32 (n8 c))) (n64 (u64 8)))))))) (n32 (u32 (n8 d))))
theorem kT {a:Int} (h:0≤a∧a < 4294967296):n32 (u32 a)=a:=by
 show (((BitVec.ofNat 32 ((a % 2 ^ 32).toNat)).toNat:Nat):Int)=a
 rw [BitVec.toNat_ofNat];omega
theorem qgV {a:Nat} (h:a < 4294967296):(u32 (a:Int)).toNat=a:=by
 have:=kT (a:=(a:Int)) (by omega)
 unfold n32 at this;omega
theorem qKc (a b c d:UInt8):qLM a b c d=qKd a b c d:=by
 have ha:=a.toNat_lt;have hb:=b.toNat_lt;have hc:=c.toNat_lt;have hd:=d.toNat_lt
 unfold qLM qKd
 have e1:∀ x:UInt8,n32 (u32 (n8 x))=(x.toNat:Int):=fun x=>by
  have:=x.toNat_lt
  exact kT (a:=(x.toNat:Int)) (by omega)
 have s1:∀ (x:UInt8),shlI .u32 (n32 (u32 (n8 x))) (n64 (u64 24))=((x.toNat*16777216:Nat):Int):=fun x=>by rw [e1];show (x.toNat:Int)*2 ^ 24=_;omega
 have s2:∀ (x:UInt8),shlI .u32 (n32 (u32 (n8 x))) (n64 (u64 16))=((x.toNat*65536:Nat):Int):=fun x=>by rw [e1];show (x.toNat:Int)*2 ^ 16=_;omega
 have s3:∀ (x:UInt8),shlI .u32 (n32 (u32 (n8 x))) (n64 (u64 8))=((x.toNat*256:Nat):Int):=fun x=>by rw [e1];show (x.toNat:Int)*2 ^ 8=_;omega
 have m1:∀ (x:UInt8),imul (n32 (u32 (n8 x))) (n32 (u32 16777216))=((x.toNat*16777216:Nat):Int):=fun x=>by rw [e1,kT (by decide)];show (x.toNat:Int)*16777216=_;omega
 have m2:∀ (x:UInt8),imul (n32 (u32 (n8 x))) (n32 (u32 65536))=((x.toNat*65536:Nat):Int):=fun x=>by rw [e1,kT (by decide)];show (x.toNat:Int)*65536=_;omega
 have m3:∀ (x:UInt8),imul (n32 (u32 (n8 x))) (n32 (u32 256))=((x.toNat*256:Nat):Int):=fun x=>by rw [e1,kT (by decide)];show (x.toNat:Int)*256=_;omega
 rw [s1,s2,s3,m1,m2,m3,or32,or32,or32]
 have d1:(u32 (n8 d)).toNat=d.toNat:=qgV (by omega)
 apply UInt32.toNat_inj.1
 rw [UInt32.toNat_or,UInt32.toNat_or,UInt32.toNat_or,qgV (by omega),qgV (by omega),qgV (by omega),d1]
 have o3:(c.toNat*256) ||| d.toNat=c.toNat*256+d.toNat:=by
  have:=Nat.two_pow_add_eq_or_of_lt (i:=8) (b:=d.toNat) (by omega) c.toNat
  rw [Nat.mul_comm];exact this.symm
 have o2:(b.toNat*65536) ||| (c.toNat*256+d.toNat)=b.toNat*65536+(c.toNat*256+d.toNat):=by
  have:=Nat.two_pow_add_eq_or_of_lt (i:=16) (b:=c.toNat*256+d.toNat) (by omega) b.toNat
  rw [Nat.mul_comm b.toNat];exact this.symm
 have o1:(a.toNat*16777216) ||| (b.toNat*65536+(c.toNat*256+d.toNat))=a.toNat*16777216+(b.toNat*65536+(c.toNat*256+d.toNat)):=by
  have:=Nat.two_pow_add_eq_or_of_lt (i:=24) (b:=b.toNat*65536+(c.toNat*256+d.toNat)) (by omega) a.toNat
  rw [Nat.mul_comm a.toNat];exact this.symm
 rw [Nat.or_assoc,Nat.or_assoc,o3,o2,o1]
 have q1:iadd (n32 (u32 ((a.toNat*16777216:Nat):Int))) (n32 (u32 ((b.toNat*65536:Nat):Int)))=((a.toNat*16777216+b.toNat*65536:Nat):Int):=by
  rw [kT (by omega),kT (by omega)];show (_:Int)+_=_;omega
 rw [q1]
 have q2:iadd (n32 (u32 ((a.toNat*16777216+b.toNat*65536:Nat):Int))) (n32 (u32 ((c.toNat*256:Nat):Int)))=((a.toNat*16777216+b.toNat*65536+c.toNat*256:Nat):Int):=by
  rw [kT (by omega),kT (by omega)];show (_:Int)+_=_;omega
 rw [q2]
 have q3:iadd (n32 (u32 ((a.toNat*16777216+b.toNat*65536+c.toNat*256:Nat):Int))) (n32 (u32 (n8 d)))=((a.toNat*16777216+b.toNat*65536+c.toNat*256+d.toNat:Nat):Int):=by
  rw [kT (by omega),e1];show (_:Int)+_=_;omega
 rw [q3,qgV (by omega)];omega
def mixW (m2 m7 m15 m16:UInt32):UInt32 :=
 u32 (iadd (n32 (u32 (iadd (n32 (u32 (iadd (n32 (u32 (xorI .u32 (n32 (u32 (xorI .u32 (n32 (tn m2 (u32 17))) (n32 (tn m2 (u32 19)))))) (n32 (u32 (shrI .u32 (n32 m2) (n64 (u64 10)))))))) (n32 m7)))) (n32 (u32 (xorI .u32 (n32 (u32 (xorI .u32 (n32 (tn m15 (u32 7))) (n32 (tn m15 (u32 18)))))) (n32 (u32 (shrI .u32 (n32 m15) (n64 (u64 3))))))))))) (n32 m16))
def q8 (b:BB) (i:Nat):UInt8:=b.getD i 0
def q32 (m:List UInt32) (i:Nat):UInt32:=m.getD i 0
def sch (b:BB) (at':Nat):Nat→List UInt32
 | 0=>List.replicate 64 0
 | t+1=>(sch b at' t).set t (if t < 16 then qKd (q8 b (at'+4*t)) (q8 b (at'+4*t+1)) (q8 b (at'+4*t+2)) (q8 b (at'+4*t+3))
   else mixW (q32 (sch b at' t) (t - 2)) (q32 (sch b at' t) (t - 7)) (q32 (sch b at' t) (t - 15)) (q32 (sch b at' t) (t - 16)))
theorem qc7 (b:BB) (at':Nat):∀ t,(sch b at' t).length=64
 | 0=>by simp [sch]
 | t+1=>by rw [sch,List.length_set];exact qc7 b at' t
theorem qAv {b c:BB} {x y:Nat} (h:∀ i,i < 64→q8 b (x+i)=q8 c (y+i)):∀ t,sch b x t=sch c y t
 | 0=>rfl
 | t+1=>by
  rw [sch,sch,qAv h t]
  by_cases ht:t < 16
  ·rw [if_pos ht,if_pos ht,h (4*t) (by omega),Nat.add_assoc x,Nat.add_assoc x,Nat.add_assoc x,h (4*t+1) (by omega),h (4*t+2) (by omega),h (4*t+3) (by omega)];rfl
  ·rw [if_neg ht,if_neg ht]
theorem i64n {n:Nat} {a:Int} (h:a=(n:Int)) (hn:n≤9223372036854775807):i64 a=(n:Int):=by rw [h];exact jE (by omega) (by omega)
theorem qrX (b:BB) (hb:b.length=64):qiY (b,())=some (sch b 0 64,()):=by
 unfold qiY
 generalize hf:(fun (x_1:Int×List UInt32×Unit)=>_)=f
 have step:∀ t:Nat,t < 64→f ((t:Int),sch b 0 t,())=some (.nx (((t+1:Nat):Int),sch b 0 (t+1),())):=by
  intro t ht
  subst hf
  have hi:i64 (iadd (t:Int) 1)=((t+1:Nat):Int):=i64n (by show (t:Int)+1=_;omega) (by omega)
  refine (qE (by simp only [go_sem,Int.reduceToNat];omega)).trans ?_
  by_cases h16:t < 16
  ·have e0:i64 (imul 4 (t:Int))=((4*t:Nat):Int):=i64n (by show 4*(t:Int)=_;omega) (by omega)
   have e1:i64 (iadd (i64 (imul 4 (t:Int))) 1)=((4*t+1:Nat):Int):=by rw [e0];exact i64n (by show ((4*t:Nat):Int)+1=_;omega) (by omega)
   have e2:i64 (iadd (i64 (imul 4 (t:Int))) 2)=((4*t+2:Nat):Int):=by rw [e0];exact i64n (by show ((4*t:Nat):Int)+2=_;omega) (by omega)
   have e3:i64 (iadd (i64 (imul 4 (t:Int))) 3)=((4*t+3:Nat):Int):=by rw [e0];exact i64n (by show ((4*t:Nat):Int)+3=_;omega) (by omega)
   refine (qE (by simp only [go_sem,Int.reduceToNat];omega)).trans ?_
   dsimp only
   rw [e1,e2,e3,e0,hi]
   refine (qH (by simp only [go_sem,Int.reduceToNat];omega)).trans ((qH (by simp only [go_sem,Int.reduceToNat];omega)).trans ((qH (by simp only [go_sem,Int.reduceToNat];omega)).trans ((qH (by simp only [go_sem,Int.reduceToNat];omega)).trans ((qH (by simp only [go_sem,Int.reduceToNat];omega)).trans ?_))))
   have hw:=qKc (q8 b (4*t)) (q8 b (4*t+1)) (q8 b (4*t+2)) (q8 b (4*t+3))
   rw [sch,if_pos h16,Nat.zero_add,← hw]
   rfl
  ·have e15:i64 (isub (t:Int) 15)=((t - 15:Nat):Int):=i64n (by show (t:Int) - 15=_;omega) (by omega)
   have e2:i64 (isub (t:Int) 2)=((t - 2:Nat):Int):=i64n (by show (t:Int) - 2=_;omega) (by omega)
   have e7:i64 (isub (t:Int) 7)=((t - 7:Nat):Int):=i64n (by show (t:Int) - 7=_;omega) (by omega)
   have e16:i64 (isub (t:Int) 16)=((t - 16:Nat):Int):=i64n (by show (t:Int) - 16=_;omega) (by omega)
   refine (qB (by simp only [go_sem,Int.reduceToNat];omega)).trans ?_
   dsimp only
   rw [e15,e2,e7,e16,hi]
   refine (qH (by simp only [go_sem,Int.reduceToNat];omega)).trans ?_
   refine (qH (by simp only [go_sem,Int.reduceToNat];omega)).trans ?_
   rw [r7]
   refine (qF rfl).trans ?_
   rw [r18]
   refine (qF rfl).trans ?_
   rw [r17]
   refine (qF rfl).trans ?_
   rw [r19]
   refine (qF rfl).trans ?_
   refine (qH (by simp only [go_sem,Int.reduceToNat];omega)).trans ?_
   refine (qH (by simp only [go_sem,Int.reduceToNat];omega)).trans ?_
   refine (qH (by simp only [go_sem,Int.reduceToNat];omega)).trans ?_
   rw [sch,if_neg h16]
   rfl
 have hend:∀ m,f (((64:Nat):Int),m,())=some (.ex 0 (((64:Nat):Int),m,())):=by subst hf;intro m;exact qB rfl
 have hloop:loop f (((0:Nat):Int),sch b 0 0,())=some (.ex 0 (((64:Nat):Int),sch b 0 64,())) :=
  (qM (f:=f) (fun t=>((t:Int),sch b 0 t,())) 64 step 0 (Nat.zero_le _)).trans (qU (hend _))
 generalize hs:sch b 0 64=m at hloop
 refine (qZ (show loop f _=_ from hloop)).trans ?_
 rfl
abbrev R8:=UInt32×UInt32×UInt32×UInt32×UInt32×UInt32×UInt32×UInt32
def t1D (k m h g f e:UInt32):UInt32 :=
 u32 (iadd (n32 (u32 (iadd (n32 (u32 (iadd (n32 (u32 (iadd (n32 h) (n32 (u32 (xorI .u32 (n32 (u32 (xorI .u32 (n32 (tn e (u32 6))) (n32 (tn e (u32 11)))))) (n32 (tn e (u32 25))))))))) (n32 (u32 (xorI .u32 (n32 (u32 (andI .u32 (n32 e) (n32 f)))) (n32 (u32 (andI .u32 (n32 (u32 (xorI .u32 4294967295 (n32 e)))) (n32 g)))))))))) (n32 k)))) (n32 m))
def t2D (c b a:UInt32):UInt32 :=
 u32 (iadd (n32 (u32 (xorI .u32 (n32 (u32 (xorI .u32 (n32 (tn a (u32 2))) (n32 (tn a (u32 13)))))) (n32 (tn a (u32 22)))))) (n32 (u32 (xorI .u32 (n32 (u32 (xorI .u32 (n32 (u32 (andI .u32 (n32 a) (n32 b)))) (n32 (u32 (andI .u32 (n32 a) (n32 c))))))) (n32 (u32 (andI .u32 (n32 b) (n32 c))))))))
def nxt (k m:UInt32) (s:R8):R8 :=
 (s.2.1,s.2.2.1,s.2.2.2.1,u32 (iadd (n32 s.2.2.2.2.1) (n32 (t1D k m s.1 s.2.1 s.2.2.1 s.2.2.2.1))),s.2.2.2.2.2.1,s.2.2.2.2.2.2.1,s.2.2.2.2.2.2.2,
  u32 (iadd (n32 (t1D k m s.1 s.2.1 s.2.2.1 s.2.2.2.1)) (n32 (t2D s.2.2.2.2.2.1 s.2.2.2.2.2.2.1 s.2.2.2.2.2.2.2))))
def rounds (ms:List UInt32) (s:R8):Nat→R8
 | 0=>s
 | t+1=>nxt (q32 qgT t) (q32 ms t) (rounds ms s t)
def r8L (s:R8):List UInt32:=[s.2.2.2.2.2.2.2,s.2.2.2.2.2.2.1,s.2.2.2.2.2.1,s.2.2.2.2.1,s.2.2.2.1,s.2.2.1,s.2.1,s.1]
def addL (w:List UInt32) (s:R8):List UInt32 :=
  [u32 (iadd (n32 (q32 w 0)) (n32 s.2.2.2.2.2.2.2)),u32 (iadd (n32 (q32 w 1)) (n32 s.2.2.2.2.2.2.1)),u32 (iadd (n32 (q32 w 2)) (n32 s.2.2.2.2.2.1)),u32 (iadd (n32 (q32 w 3)) (n32 s.2.2.2.2.1)),
   u32 (iadd (n32 (q32 w 4)) (n32 s.2.2.2.1)),u32 (iadd (n32 (q32 w 5)) (n32 s.2.2.1)),u32 (iadd (n32 (q32 w 6)) (n32 s.2.1)),u32 (iadd (n32 (q32 w 7)) (n32 s.1))]
def ofL (w:List UInt32):R8:=(q32 w 7,q32 w 6,q32 w 5,q32 w 4,q32 w 3,q32 w 2,q32 w 1,q32 w 0)
def quL (w:List UInt32) (b:BB) (at':Nat):List UInt32:=addL w (rounds (sch b at' 64) (ofL w) 64)
theorem eight {α:Type} {w:List α} (h:w.length=8):∃ a b c d e f g i,w=[a,b,c,d,e,f,g,i]:=by
 match w,h with
 | [a,b,c,d,e,f,g,i],_=>exact ⟨a,b,c,d,e,f,g,i,rfl⟩
theorem qkS {b c:BB} {x y:Nat} (h:∀ i,i < 64→q8 b (x+i)=q8 c (y+i)) (w:List UInt32):quL w b x=quL w c y:=by unfold quL;rw [qAv h]
theorem qj5 (w:List UInt32) (hw:w.length=8) (b:BB) (hb:b.length=64):qgY (w,b,())=some (quL w b 0,0,()):=by
 unfold qgY
 refine (qB (by simp only [go_sem,Int.reduceToNat];omega)).trans ?_
 dsimp only
 rw [qrX b hb]
 have hm:=qc7 b 0 64
 unfold quL
 generalize sch b 0 64=m at hm
 refine (qF rfl).trans ?_
 obtain ⟨w0,w1,w2,w3,w4,w5,w6,w7,rfl⟩:=eight hw
 generalize hf:(fun (x:Int×List UInt32×Unit)=>(_:Option (LS (Int×List UInt32×Unit) (List UInt32×Int×Unit))))=f
 obtain ⟨s,hs⟩:∃ s,s=ofL [w0,w1,w2,w3,w4,w5,w6,w7]:=⟨_,rfl⟩
 have step:∀ t:Nat,t < 64→f ((t:Int),r8L (rounds m s t),())=some (.nx (((t+1:Nat):Int),r8L (rounds m s (t+1)),())):=by
  intro t ht
  subst hf
  have hi:i64 (iadd (t:Int) 1)=((t+1:Nat):Int):=i64n (by show (t:Int)+1=_;omega) (by omega)
  rw [show rounds m s (t+1)=nxt (q32 qgT t) (q32 m t) (rounds m s t) from rfl]
  generalize rounds m s t=r
  obtain ⟨h,g,f,e,d,c,b,a⟩:=r
  refine (qE (by simp only [go_sem,Int.reduceToNat];omega)).trans ?_
  dsimp only [r8L]
  rw [hi]
  refine (qH (by simp only [go_sem,Int.reduceToNat];omega)).trans ?_
  refine (qH rfl).trans ?_
  refine (qH rfl).trans ?_
  rw [show nth [a,b,c,d,e,f,g,h] (nat 4) (u32 0)=e from rfl,r6]
  refine (qF rfl).trans ?_
  rw [r11]
  refine (qF rfl).trans ?_
  rw [r25]
  refine (qF rfl).trans ?_
  rw [show nth [a,b,c,d,e,f,g,h] (nat 0) (u32 0)=a from rfl,r2]
  refine (qF rfl).trans ?_
  rw [r3]
  refine (qF rfl).trans ?_
  rw [r4]
  refine (qF rfl).trans ?_
  refine (qH rfl).trans ?_
  refine (qH rfl).trans ?_
  refine (qH rfl).trans ?_
  refine (qH (by simp only [go_sem,Int.reduceToNat];omega)).trans ?_
  refine (qH rfl).trans ?_
  refine (qH rfl).trans ?_
  refine (qH rfl).trans ?_
  refine (qH rfl).trans ?_
  refine (qH rfl).trans ?_
  refine (qH rfl).trans ?_
  refine (qH rfl).trans ?_
  refine (qH rfl).trans ?_
  refine (qH rfl).trans ?_
  rfl
 have hend:∀ v,f (((64:Nat):Int),v,())=some (.ex 0 (((64:Nat):Int),v,())):=by subst hf;intro v;exact qB rfl
 have hloop:loop f (((0:Nat):Int),r8L (rounds m s 0),())=some (.ex 0 (((64:Nat):Int),r8L (rounds m s 64),())) :=
  (qM (f:=f) (fun t=>((t:Int),r8L (rounds m s t),())) 64 step 0 (Nat.zero_le _)).trans (qU (hend _))
 have h0:r8L (rounds m s 0)=[w0,w1,w2,w3,w4,w5,w6,w7]:=by rw [hs];rfl
 rw [h0] at hloop
 rw [← hs]
 generalize rounds m s 64=r at hloop
 obtain ⟨h,g,f',e,d,c,b',a⟩:=r
 refine (qZ (show loop f (0,[w0,w1,w2,w3,w4,w5,w6,w7],())=_ from hloop)).trans ?_
 refine (qH g62).trans ?_
 refine (qZ (qfI (r := .ex 2 (((8:Nat):Int),addL [w0,w1,w2,w3,w4,w5,w6,w7] (h,g,f',e,d,c,b',a),())) 9 rfl)).trans ?_
 rfl
theorem qhJ (w:List UInt32) (hw:w.length=8) (b:BB) (n:Nat) (hb:n+64≤b.length) (hl:b.length≤4611686018427387904):qdK (w,b,(n:Int),qgT,())=some (quL w b n,()):=by
 unfold qdK
 refine (qH (by decide)).trans ?_
 generalize hf:(fun (x_1:Int×List UInt32×Unit)=>(_:Option (LS (Int×List UInt32×Unit) (List UInt32×Unit))))=f
 have step:∀ t:Nat,t < 16→f ((t:Int),sch b n t,())=some (.nx (((t+1:Nat):Int),sch b n (t+1),())):=by
  intro t ht
  subst hf
  have hi:i64 (iadd (t:Int) 1)=((t+1:Nat):Int):=i64n (by show (t:Int)+1=_;omega) (by omega)
  have hm:=qc7 b n t
  have e4:i64 (imul 4 (t:Int))=((4*t:Nat):Int):=i64n (by show 4*(t:Int)=_;omega) (by omega)
  have e0:i64 (iadd (n:Int) (i64 (imul 4 (t:Int))))=((n+4*t:Nat):Int):=by rw [e4];exact i64n (by show (n:Int)+((4*t:Nat):Int)=_;omega) (by omega)
  have e1:i64 (iadd (i64 (iadd (n:Int) (i64 (imul 4 (t:Int))))) 1)=((n+4*t+1:Nat):Int):=by rw [e0];exact i64n (by show ((n+4*t:Nat):Int)+1=_;omega) (by omega)
  have e2:i64 (iadd (i64 (iadd (n:Int) (i64 (imul 4 (t:Int))))) 2)=((n+4*t+2:Nat):Int):=by rw [e0];exact i64n (by show ((n+4*t:Nat):Int)+2=_;omega) (by omega)
  have e3:i64 (iadd (i64 (iadd (n:Int) (i64 (imul 4 (t:Int))))) 3)=((n+4*t+3:Nat):Int):=by rw [e0];exact i64n (by show ((n+4*t:Nat):Int)+3=_;omega) (by omega)
  refine (qE (by simp only [go_sem,Int.reduceToNat];omega)).trans ?_
  dsimp only
  rw [e1,e2,e3,e0,hi]
  refine (qH (by simp only [go_sem,Int.reduceToNat];omega)).trans ?_
  refine (qH (by simp only [go_sem,Int.reduceToNat];omega)).trans ?_
  refine (qH (by simp only [go_sem,Int.reduceToNat];omega)).trans ?_
  refine (qH (by simp only [go_sem,Int.reduceToNat];omega)).trans ?_
  refine (qH (by simp only [go_sem,Int.reduceToNat];omega)).trans ?_
  rw [sch,if_pos ht]
  rfl
 have hend:∀ v,f (((16:Nat):Int),v,())=some (.ex 0 (((16:Nat):Int),v,())):=by subst hf;intro v;exact qB rfl
 have hloop:loop f (((0:Nat):Int),sch b n 0,())=some (.ex 0 (((16:Nat):Int),sch b n 16,())) :=
  (qM (f:=f) (fun t=>((t:Int),sch b n t,())) 16 step 0 (Nat.zero_le _)).trans (qU (hend _))
 refine (qZ (show loop f (0,rep (nat 64) (u32 0),())=_ from hloop)).trans ?_
 clear hloop hend step
 refine (qH g62).trans ?_
 dsimp only
 clear hf f
 generalize hf:(fun (x:Int×List UInt32×Unit)=>(_:Option (LS (Int×List UInt32×Unit) (List UInt32×Unit))))=f
 have step:∀ t:Nat,16≤t→t < 64→f ((t:Int),sch b n t,())=some (.nx (((t+1:Nat):Int),sch b n (t+1),())):=by
  intro t h16 ht
  subst hf
  have hi:i64 (iadd (t:Int) 1)=((t+1:Nat):Int):=i64n (by show (t:Int)+1=_;omega) (by omega)
  have hm:=qc7 b n t
  have e15:i64 (isub (t:Int) 15)=((t - 15:Nat):Int):=i64n (by show (t:Int) - 15=_;omega) (by omega)
  have e2:i64 (isub (t:Int) 2)=((t - 2:Nat):Int):=i64n (by show (t:Int) - 2=_;omega) (by omega)
  have e7:i64 (isub (t:Int) 7)=((t - 7:Nat):Int):=i64n (by show (t:Int) - 7=_;omega) (by omega)
  have e16:i64 (isub (t:Int) 16)=((t - 16:Nat):Int):=i64n (by show (t:Int) - 16=_;omega) (by omega)
  refine (qE (by simp only [go_sem,Int.reduceToNat];omega)).trans ?_
  dsimp only
  rw [e15,e2,e7,e16,hi]
  refine (qH (by simp only [go_sem,Int.reduceToNat];omega)).trans ?_
  refine (qH (by simp only [go_sem,Int.reduceToNat];omega)).trans ?_
  rw [qcE]
  refine (qF rfl).trans ?_
  rw [qcE]
  refine (qF rfl).trans ?_
  rw [qcE]
  refine (qF rfl).trans ?_
  rw [qcE]
  refine (qF rfl).trans ?_
  refine (qH (by simp only [go_sem,Int.reduceToNat];omega)).trans ?_
  refine (qH (by simp only [go_sem,Int.reduceToNat];omega)).trans ?_
  refine (qH (by simp only [go_sem,Int.reduceToNat];omega)).trans ?_
  rw [sch,if_neg (by omega)]
  rfl
 have hend:∀ v,f (((64:Nat):Int),v,())=some (.ex 2 (((64:Nat):Int),v,())):=by subst hf;intro v;exact qB rfl
 have hloop:loop f (((16:Nat):Int),sch b n 16,())=some (.ex 2 (((64:Nat):Int),sch b n 64,())) :=
  (qM (f:=f) (fun t=>(((16+t:Nat):Int),sch b n (16+t),())) 48 (fun t ht=>step (16+t) (by omega) (by omega)) 0 (Nat.zero_le _)).trans (qU (hend _))
 refine (qZ (show loop f (16,sch b n 16,())=_ from hloop)).trans ?_
 clear hloop hend step hf f
 refine (qH g62).trans ?_
 have hm:=qc7 b n 64
 unfold quL
 generalize sch b n 64=m at hm
 obtain ⟨w0,w1,w2,w3,w4,w5,w6,w7,rfl⟩:=eight hw
 refine (qH rfl).trans ((qH rfl).trans ((qH rfl).trans ((qH rfl).trans ((qH rfl).trans ((qH rfl).trans ((qH rfl).trans ((qH rfl).trans ?_)))))))
 dsimp only
 generalize hf:(fun (x_1:UInt32×UInt32×UInt32×UInt32×UInt32×UInt32×UInt32×UInt32×Int×Unit)=>(_:Option (LS (UInt32×UInt32×UInt32×UInt32×UInt32×UInt32×UInt32×UInt32×Int×Unit) (List UInt32×Unit))))=f
 obtain ⟨s,hs⟩:∃ s,s=ofL [w0,w1,w2,w3,w4,w5,w6,w7]:=⟨_,rfl⟩
 let st:R8→Nat→UInt32×UInt32×UInt32×UInt32×UInt32×UInt32×UInt32×UInt32×Int×Unit:=fun r t=>(r.1,r.2.1,r.2.2.1,r.2.2.2.1,r.2.2.2.2.1,r.2.2.2.2.2.1,r.2.2.2.2.2.2.1,r.2.2.2.2.2.2.2,(t:Int),())
 have step:∀ t:Nat,t < 64→f (st (rounds m s t) t)=some (.nx (st (rounds m s (t+1)) (t+1))):=by
  intro t ht
  subst hf
  have hi:i64 (iadd (t:Int) 1)=((t+1:Nat):Int):=i64n (by show (t:Int)+1=_;omega) (by omega)
  have hk:(qgT:List UInt32).length=64:=rfl
  rw [show rounds m s (t+1)=nxt (q32 qgT t) (q32 m t) (rounds m s t) from rfl]
  generalize rounds m s t=r
  obtain ⟨h,g,f,e,d,c,b,a⟩:=r
  dsimp only [st]
  refine (qE (by simp only [go_sem,Int.reduceToNat];omega)).trans ?_
  rw [hi,qcE]
  refine (qF rfl).trans ?_
  rw [qcE]
  refine (qF rfl).trans ?_
  rw [qcE]
  refine (qF rfl).trans ?_
  refine (qH (by simp only [go_sem,Int.reduceToNat];omega)).trans ?_
  refine (qH (by simp only [go_sem,Int.reduceToNat];omega)).trans ?_
  rw [qcE]
  refine (qF rfl).trans ?_
  rw [qcE]
  refine (qF rfl).trans ?_
  rw [qcE]
  refine (qF rfl).trans ?_
  rfl
 have hend:∀ r,f (st r 64)=some (.ex 4 (st r 64)):=by subst hf;intro v;exact qB rfl
 have hloop:loop f (st (rounds m s 0) 0)=some (.ex 4 (st (rounds m s 64) 64)) :=
  (qM (f:=f) (fun t=>st (rounds m s t) t) 64 step 0 (Nat.zero_le _)).trans (qU (hend _))
 rw [show rounds m s 0=s from rfl] at hloop
 rw [← hs]
 generalize rounds m s 64=r at hloop
 obtain ⟨h,g,f',e,d,c,b',a⟩:=r
 rw [hs] at hloop
 refine (qZ (show loop f (w7,w6,w5,w4,w3,w2,w1,w0,0,())=_ from hloop)).trans ?_
 refine (qH g62).trans ?_
 refine (qH rfl).trans ((qH rfl).trans ((qH rfl).trans ((qH rfl).trans ((qH rfl).trans ((qH rfl).trans ((qH rfl).trans ((qH rfl).trans ?_)))))))
 rfl
def eat (w:List UInt32) (l:BB):Nat→List UInt32
 | 0=>w
 | i+1=>quL (eat w l i) l (64*i)
theorem yY {w:List UInt32} (hw:w.length=8) (l:BB):∀ i,(eat w l i).length=8
 | 0=>hw
 | _+1=>rfl
theorem qGO (l:BB) (k i:Nat):q8 (l.drop k) i=q8 l (k+i):=by
 unfold q8;rw [List.getD_eq_getElem?_getD,List.getElem?_drop,← List.getD_eq_getElem?_getD]
theorem qKv (l:BB) {k i:Nat} (h:i < k):q8 (l.take k) i=q8 l i:=by
 unfold q8;rw [List.getD_eq_getElem?_getD,List.getElem?_take_of_lt h,← List.getD_eq_getElem?_getD]
theorem qAj (w:List UInt32) (l:BB) (k:Nat):quL w ((l.drop k).take 64) 0=quL w l k :=
 qkS (fun i hi=>by rw [Nat.zero_add,qKv _ hi,qGO]) w
theorem qBs {l m:BB} (w:List UInt32):∀ {i},(∀ j,j < 64*i→q8 l j=q8 m j)→eat w l i=eat w m i
 | 0,_=>rfl
 | i+1,h=>by
  rw [eat,eat,qBs w fun j hj=>h j (by omega)]
  exact qkS (fun j hj=>h _ (by omega)) _
theorem qHX (w:List UInt32) (l:BB) (i:Nat):∀ j,eat w l (i+j)=eat (eat w l i) (l.drop (64*i)) j
 | 0=>rfl
 | j+1=>by
  rw [← Nat.add_assoc,eat,eat,qHX w l i j]
  exact qkS (fun k _=>by rw [qGO];congr 1;omega) _
abbrev HT:=List UInt32×Int×BB×Unit
def putD (h:HT) (b:BB):HT :=
 (eat h.1 (h.2.2.1++b) ((h.2.2.1++b).length / 64),h.2.1+(b.length:Int),(h.2.2.1++b).drop (64*((h.2.2.1++b).length / 64)),())
theorem cpy2 (r b:BB):cpy (cpy (rep (r.length+b.length) (u8 0)) 0 (ln (rep (r.length+b.length) (u8 0))) r) r.length (r.length+b.length - r.length) b=r++b:=by
 unfold cpy rep ln
 rw [List.length_replicate,List.take_zero,List.nil_append,List.take_of_length_le (show r.length≤r.length+b.length by omega),Nat.zero_add,Nat.min_eq_right (show r.length≤r.length+b.length by omega),List.drop_replicate,
  List.take_left,Nat.add_sub_cancel_left,List.take_of_length_le (Nat.le_refl _),Nat.min_self,List.drop_of_length_le (by simp),List.append_nil]
theorem qHv:qjK ()=some (qgT,()):=rfl
theorem qAq (H:List UInt32) (hH:H.length=8) (N:Int) (r b:BB) (hN:0≤N) (hb:N+(b.length:Int)≤1125899906842624) (hr:r.length≤64) (hm:b.length≤1000000000):qeM ((H,N,r,()),b,())=some (putD (H,N,r,()) b,()):=by
 unfold qeM
 have e0:i64 (isub 1125899906842624 N)=1125899906842624 - N:=jE (by show -9223372036854775808≤(1125899906842624:Int) - N;omega) (by show (1125899906842624:Int) - N≤9223372036854775807;omega)
 dsimp only
 rw [e0]
 refine (qB (by simp only [go_sem,Int.reduceToNat];omega)).trans ?_
 have e1:i64 (iadd (len r) (len b))=((r.length+b.length:Nat):Int):=i64n (by show (r.length:Int)+(b.length:Int)=_;omega) (by omega)
 have e2:i64 (iadd N (len b))=N+(b.length:Int):=jE (by show -9223372036854775808≤N+(b.length:Int);omega) (by show N+(b.length:Int)≤9223372036854775807;omega)
 rw [e1,e2]
 refine (qH (by simp only [go_sem,Int.reduceToNat];omega)).trans ?_
 have hlen:len (cpy (rep (nat ((r.length+b.length:Nat):Int)) (u8 0)) 0 (ln (rep (nat ((r.length+b.length:Nat):Int)) (u8 0))) r)=((r.length+b.length:Nat):Int):=by
  unfold len cpy rep ln nat
  simp only [Int.toNat_natCast,List.length_replicate,List.take_zero,List.nil_append,List.length_append,List.length_take,List.length_drop]
  omega
 rw [hlen]
 refine (qH (by simp only [go_sem,Int.reduceToNat];omega)).trans ?_
 rw [show nat (len r)=r.length from qT,show nat ((r.length+b.length:Nat):Int)=r.length+b.length from qT,show nsub (r.length+b.length) r.length=r.length+b.length - r.length from rfl,cpy2]
 generalize hf:(fun (x:BB×(List UInt32×Int×BB×Unit)×Unit)=>(_:Option (LS (BB×(List UInt32×Int×BB×Unit)×Unit) ((List UInt32×Int×BB×Unit)×Unit))))=f
 generalize hl:r++b=l
 have hll:l.length=r.length+b.length:=by rw [← hl,List.length_append]
 have step:∀ i,i < l.length / 64→f (l.drop (64*i),(eat H l i,N+(b.length:Int),r,()),())=some (.nx (l.drop (64*(i+1)),(eat H l (i+1),N+(b.length:Int),r,()),())):=by
  intro i hi
  subst hf
  have hd:(l.drop (64*i)).length=l.length - 64*i:=List.length_drop
  have hlen:len (l.drop (64*i))=((l.length - 64*i:Nat):Int):=by unfold len;rw [hd]
  dsimp only
  rw [hlen]
  refine (qE (by simp only [go_sem,Int.reduceToNat];omega)).trans ?_
  refine (qH (by simp only [go_sem,Int.reduceToNat];omega)).trans ?_
  rw [show cut (l.drop (64*i)) (nat 0) (nsub (nat 64) (nat 0))=(l.drop (64*i)).take 64 from rfl,qj5 _ (yY hH l i) _ (by rw [List.length_take,hd];omega)]
  refine (qF rfl).trans ?_
  refine (qH (by simp only [go_sem,Int.reduceToNat];omega)).trans ?_
  rw [qAj]
  have hc:cut (l.drop (64*i)) (nat 64) (nsub (nat ((l.length - 64*i:Nat):Int)) (nat 64))=l.drop (64*(i+1)):=by
   unfold cut
   rw [show nat 64=64 from rfl,qT,List.drop_drop,List.take_of_length_le (by rw [List.length_drop];show _≤l.length - 64*i - 64;omega)]
   congr 1
  rw [hc];rfl
 have hend:f (l.drop (64*(l.length / 64)),(eat H l (l.length / 64),N+(b.length:Int),r,()),())=some (.ex 0 (l.drop (64*(l.length / 64)),(eat H l (l.length / 64),N+(b.length:Int),r,()),())):=by
  subst hf
  have hlen:len (l.drop (64*(l.length / 64)))=((l.length - 64*(l.length / 64):Nat):Int):=by unfold len;rw [List.length_drop]
  dsimp only
  rw [hlen]
  exact qB (by simp only [go_sem,Int.reduceToNat];omega)
 have hloop:=(qM (f:=f) (fun i=>(l.drop (64*i),(eat H l i,N+(b.length:Int),r,()),())) (l.length / 64) step 0 (Nat.zero_le _)).trans (qU hend)
 refine (qZ (show loop f (l,(H,N+(b.length:Int),r,()),())=_ from hloop)).trans ?_
 refine (qH g62).trans ?_
 subst hl;rfl
theorem qu3 (H:List UInt32) (hH:H.length=8) (N:Int) (r b:BB) (hN:0≤N) (hb:N+(b.length:Int)≤1125899906842624) (hr:r.length≤64) (hm:b.length≤1000000000):qhL ((H,N,r,()),b,())=some (putD (H,N,r,()) b,()):=by
 unfold qhL
 have e0:i64 (isub 1125899906842624 N)=1125899906842624 - N:=jE (by show -9223372036854775808≤(1125899906842624:Int) - N;omega) (by show (1125899906842624:Int) - N≤9223372036854775807;omega)
 dsimp only
 rw [e0]
 refine (qB (by simp only [go_sem,Int.reduceToNat];omega)).trans ?_
 refine (qH (by simp only [go_sem,Int.reduceToNat];omega)).trans ?_
 rw [show app (none' UInt8) r=r from rfl]
 refine (qH (by simp only [go_sem,Int.reduceToNat];omega)).trans ?_
 rw [qHv]
 refine (qF rfl).trans ?_
 generalize hf:(fun (x_1:Int×(List UInt32×Int×BB×Unit)×Unit)=>(_:Option (LS (Int×(List UInt32×Int×BB×Unit)×Unit) ((List UInt32×Int×BB×Unit)×Unit))))=f
 rw [show app r b=r++b from rfl] at hf ⊢
 generalize hl:r++b=l at hf ⊢
 have hll:l.length=r.length+b.length:=by rw [← hl,List.length_append]
 have step:∀ i:Nat,i < l.length / 64→f (((64*i:Nat):Int),(eat H l i,N,r,()),())=some (.nx (((64*(i+1):Nat):Int),(eat H l (i+1),N,r,()),())):=by
  intro i hi
  subst hf
  have e:i64 (isub (len l) ((64*i:Nat):Int))=((l.length - 64*i:Nat):Int):=i64n (by show (l.length:Int) - _=_;omega) (by omega)
  have e':i64 (iadd ((64*i:Nat):Int) 64)=((64*(i+1):Nat):Int):=i64n (by show ((64*i:Nat):Int)+64=_;omega) (by omega)
  dsimp only
  rw [e,e']
  refine (qE (by simp only [go_sem,Int.reduceToNat];omega)).trans ?_
  rw [qhJ _ (yY hH l i) l (64*i) (by omega) (by omega)]
  rfl
 have hend:f (((64*(l.length / 64):Nat):Int),(eat H l (l.length / 64),N,r,()),())=some (.ex 0 (((64*(l.length / 64):Nat):Int),(eat H l (l.length / 64),N,r,()),())):=by
  subst hf
  have e:i64 (isub (len l) ((64*(l.length / 64):Nat):Int))=((l.length - 64*(l.length / 64):Nat):Int):=i64n (by show (l.length:Int) - _=_;omega) (by omega)
  dsimp only
  rw [e]
  exact qB (by simp only [go_sem,Int.reduceToNat];omega)
 have hloop:=(qM (f:=f) (fun i=>(((64*i:Nat):Int),(eat H l i,N,r,()),())) (l.length / 64) step 0 (Nat.zero_le _)).trans (qU hend)
 refine (qZ (show loop f (0,(H,N,r,()),())=_ from hloop)).trans ?_
 refine (qH g62).trans ?_
 refine (qH (by simp only [go_sem,Int.reduceToNat];omega)).trans ?_
 have e2:i64 (iadd N (len b))=N+(b.length:Int):=jE (by show -9223372036854775808≤N+(b.length:Int);omega) (by show N+(b.length:Int)≤9223372036854775807;omega)
 have hc:cut l (nat ((64*(l.length / 64):Nat):Int)) (nsub (nat (len l)) (nat ((64*(l.length / 64):Nat):Int)))=l.drop (64*(l.length / 64)):=by
  unfold cut
  rw [qT,show nat (len l)=l.length from qT,List.take_of_length_le (by rw [List.length_drop];exact Nat.le_refl _)]
 dsimp only
 rw [e2,hc]
 subst hl;rfl
def zs (r:Nat):Nat:=(119 - r) % 64
def lenB (n:Int) (i:Nat):BB:=(List.range i).map fun j=>u8 (shrI .i64 (i64 (imul 8 n)) ((56 - 8*j:Nat):Int))
def padD (n:Int):BB:=[u8 128]++List.replicate (zs (n.toNat % 64)) (u8 0)++lenB n 8
def wb (x:UInt32):BB:=[u8 (n32 (u32 (shrI .u32 (n32 x) (n64 (u64 24))))),u8 (n32 (u32 (shrI .u32 (n32 x) (n64 (u64 16))))),u8 (n32 (u32 (shrI .u32 (n32 x) (n64 (u64 8))))),u8 (n32 x)]
theorem qAe {a b:Int} (h:a % 256=b % 256):u8 a=u8 b:=by
 show UInt8.ofNat (a % 2 ^ 8).toNat=UInt8.ofNat (b % 2 ^ 8).toNat
 rw [show a % 2 ^ 8=b % 2 ^ 8 from h]
theorem qLN (x:UInt32):wb x=[u8 (n32 (u32 (idiv (n32 x) (n32 (u32 16777216))))),u8 (n32 (u32 (imod (n32 (u32 (idiv (n32 x) (n32 (u32 65536))))) (n32 (u32 256))))),u8 (n32 (u32 (imod (n32 (u32 (idiv (n32 x) (n32 (u32 256))))) (n32 (u32 256))))),u8 (n32 (u32 (imod (n32 x) (n32 (u32 256)))))]:=by
 have hx:=x.toNat_lt
 obtain ⟨v,hv⟩:∃ v,v=x.toNat:=⟨_,rfl⟩
 rw [← hv] at hx
 have e:n32 x=(v:Int):=by rw [hv];rfl
 have k1:n32 (u32 16777216)=16777216:=kT (by decide)
 have k2:n32 (u32 65536)=65536:=kT (by decide)
 have k3:n32 (u32 256)=256:=kT (by decide)
 have a1:shrI .u32 (v:Int) (n64 (u64 24))=((v / 16777216:Nat):Int):=by show Int.fdiv (v:Int) (2 ^ 24)=_;rw [Int.fdiv_eq_ediv_of_nonneg _ (by decide)];omega
 have a2:shrI .u32 (v:Int) (n64 (u64 16))=((v / 65536:Nat):Int):=by show Int.fdiv (v:Int) (2 ^ 16)=_;rw [Int.fdiv_eq_ediv_of_nonneg _ (by decide)];omega
 have a3:shrI .u32 (v:Int) (n64 (u64 8))=((v / 256:Nat):Int):=by show Int.fdiv (v:Int) (2 ^ 8)=_;rw [Int.fdiv_eq_ediv_of_nonneg _ (by decide)];omega
 have b1:idiv (v:Int) 16777216=((v / 16777216:Nat):Int):=by rw [g31 (by omega)];omega
 have b2:idiv (v:Int) 65536=((v / 65536:Nat):Int):=by rw [g31 (by omega)];omega
 have b3:idiv (v:Int) 256=((v / 256:Nat):Int):=by rw [g31 (by omega)];omega
 have c:∀ m:Nat,m < 4294967296→n32 (u32 (m:Int))=(m:Int):=fun m hm=>kT (by omega)
 have d:∀ m:Nat,imod (m:Int) 256=((m % 256:Nat):Int):=fun m=>by rw [g32 (by omega)];omega
 unfold wb
 rw [e,k1,k2,k3,a1,a2,a3,b1,b2,b3,c _ (by omega),c _ (by omega),c _ (by omega),d,d,d,c _ (by omega),c _ (by omega),c _ (by omega)]
 congr 1
 congr 1
 ·exact qAe (by omega)
 ·congr 1
  ·exact qAe (by omega)
  ·congr 1
   exact qAe (by omega)
def outW (w:List UInt32) (i:Nat):BB:=(List.range i).flatMap fun j=>wb (q32 w j)
theorem qfC (w:List UInt32):∀ i,(outW w i).length=4*i
 | 0=>rfl
 | i+1=>by unfold outW;rw [List.range_succ,List.flatMap_append,List.length_append];have:=qfC w i;unfold outW at this;rw [this];simp [wb];omega
theorem qAO (w:List UInt32) (i:Nat):outW w (i+1)=outW w i++wb (q32 w i):=by unfold outW;rw [List.range_succ,List.flatMap_append];simp
theorem qA2 (n:Int) (i:Nat):lenB n (i+1)=lenB n i++[u8 (shrI .i64 (i64 (imul 8 n)) ((56 - 8*i:Nat):Int))]:=by unfold lenB;rw [List.range_succ,List.map_append];rfl
theorem yV (n:Int) (i:Nat):(lenB n i).length=i:=by simp [lenB]
def sumD (h:HT):BB:=outW (eat h.1 (h.2.2.1++padD h.2.1) ((h.2.2.1++padD h.2.1).length / 64)) 8
theorem qxL (l:BB) (k:Nat):l++List.replicate k (u8 0)++[u8 0]=l++List.replicate (k+1) (u8 0):=by rw [List.append_assoc,← List.replicate_succ']
theorem qAp (H:List UInt32) (hH:H.length=8) (N:Int) (r:BB) (hN:0≤N) (hN2:N≤1125899906842624) (hr:r.length=N.toNat % 64):qkU ((H,N,r,()),())=some (sumD (H,N,r,()),()):=by
 unfold qkU
 dsimp only
 have hz:rep (nat 0) (u8 0)=[]:=rfl
 rw [hz,show app ([]:BB) r=r from rfl,show app r [u8 128]=r++[u8 128] from rfl]
 refine (qH (by decide)).trans ?_
 refine (qH (by simp only [go_sem,Int.reduceToNat];omega)).trans ?_
 refine (qH (by simp only [go_sem,Int.reduceToNat];simp;omega)).trans ?_
 generalize hf:(fun (x:BB×Unit)=>(_:Option (LS (BB×Unit) (BB×Unit))))=f
 have hr64:r.length < 64:=by omega
 have hzs:zs (N.toNat % 64) < 64:=by unfold zs;omega
 have step:∀ i:Nat,i < zs (N.toNat % 64)→f (r++[u8 128]++List.replicate i (u8 0),())=some (.nx (r++[u8 128]++List.replicate (i+1) (u8 0),())):=by
  intro i hi
  subst hf
  have hl:(r++[u8 128]++List.replicate i (u8 0)).length=r.length+1+i:=by simp;omega
  have hne:¬ (((r++[u8 128]++List.replicate i (u8 0)).length:Int) % 64=56):=by rw [hl];unfold zs at hi;omega
  refine (qE (by simp (disch:=omega) only [go_sem,Int.reduceToNat];omega)).trans ?_
  refine (qH (by simp only [go_sem,Int.reduceToNat];simp;omega)).trans ?_
  show some (LS.nx (r++[u8 128]++List.replicate i (u8 0)++[u8 0],()))=_
  rw [qxL]
 have hend:f (r++[u8 128]++List.replicate (zs (N.toNat % 64)) (u8 0),())=some (.ex 0 (r++[u8 128]++List.replicate (zs (N.toNat % 64)) (u8 0),())):=by
  subst hf
  have hl:(r++[u8 128]++List.replicate (zs (N.toNat % 64)) (u8 0)).length=r.length+1+zs (N.toNat % 64):=by simp;omega
  have he:(((r++[u8 128]++List.replicate (zs (N.toNat % 64)) (u8 0)).length:Int) % 64=56):=by rw [hl];unfold zs;omega
  exact qB (by simp (disch:=omega) only [go_sem,Int.reduceToNat];omega)
 have hloop:=(qM (f:=f) (fun i=>(r++[u8 128]++List.replicate i (u8 0),())) (zs (N.toNat % 64)) step 0 (Nat.zero_le _)).trans (qU hend)
 rw [List.replicate_zero,List.append_nil] at hloop
 refine (qZ hloop).trans ?_
 clear hloop hend step
 refine (qH g62).trans ?_
 clear hf f
 dsimp only
 generalize hL:r++[u8 128]++List.replicate (zs (N.toNat % 64)) (u8 0)=L
 have hLl:L.length=r.length+1+zs (N.toNat % 64):=by rw [← hL];simp;omega
 generalize hf:(fun (x_1:BB×Int×Unit)=>(_:Option (LS (BB×Int×Unit) (BB×Unit))))=f
 have step:∀ i:Nat,i < 8→f (L++lenB N i,56 - 8*(i:Int),())=some (.nx (L++lenB N (i+1),56 - 8*((i+1:Nat):Int),())):=by
  intro i hi
  subst hf
  have hl:(L++lenB N i).length=L.length+i:=by rw [List.length_append,yV]
  refine (qE (by simp only [go_sem,Int.reduceToNat];omega)).trans ?_
  refine (qH (by simp only [go_sem,Int.reduceToNat];omega)).trans ?_
  refine (qH (by simp only [go_sem,Int.reduceToNat];simp [yV];omega)).trans ?_
  dsimp only
  rw [show app (L++lenB N i) [u8 (shrI .i64 (i64 (imul 8 N)) (56 - 8*(i:Int)))]=L++lenB N (i+1) by rw [qA2,show ((56 - 8*i:Nat):Int)=56 - 8*(i:Int) by omega];exact List.append_assoc _ _ _,
   show i64 (isub (56 - 8*(i:Int)) 8)=56 - 8*((i+1:Nat):Int) by rw [jE (by show -9223372036854775808≤56 - 8*(i:Int) - 8;omega) (by show 56 - 8*(i:Int) - 8≤9223372036854775807;omega)];show 56 - 8*(i:Int) - 8=_;omega]
 have hend:f (L++lenB N 8,56 - 8*((8:Nat):Int),())=some (.ex 2 (L++lenB N 8,56 - 8*((8:Nat):Int),())):=by subst hf;exact qB (show le 0 (56 - 8*((8:Nat):Int))=false from rfl)
 have hloop:=(qM (f:=f) (fun i=>(L++lenB N i,56 - 8*(i:Int),())) 8 step 0 (Nat.zero_le _)).trans (qU hend)
 have h0:(L++lenB N 0,56 - 8*((0:Nat):Int),())=(L,56,()):=by simp [lenB]
 rw [h0] at hloop
 refine (qZ hloop).trans ?_
 clear hloop hend step
 refine (qH g62).trans ?_
 clear hf f
 dsimp only
 have hT:L++lenB N 8=r++padD N:=by rw [← hL];unfold padD;simp
 rw [hT]
 have hTl:(r++padD N).length=r.length+1+zs (N.toNat % 64)+8:=by rw [← hT,List.length_append,yV,hLl]
 have hT64:(r++padD N).length % 64=0:=by rw [hTl];unfold zs;omega
 generalize hTT:r++padD N=T at hTl hT64
 generalize hf:(fun (x:BB×List UInt32×Unit)=>(_:Option (LS (BB×List UInt32×Unit) (BB×Unit))))=f
 have step:∀ i,i < T.length / 64→f (T.drop (64*i),eat H T i,())=some (.nx (T.drop (64*(i+1)),eat H T (i+1),())):=by
  intro i hi
  subst hf
  have hd:(T.drop (64*i)).length=T.length - 64*i:=List.length_drop
  have hlen:len (T.drop (64*i))=((T.length - 64*i:Nat):Int):=by unfold len;rw [hd]
  dsimp only
  rw [hlen]
  refine (qE (by simp only [go_sem,Int.reduceToNat];omega)).trans ?_
  refine (qH (by simp only [go_sem,Int.reduceToNat];omega)).trans ?_
  rw [show cut (T.drop (64*i)) (nat 0) (nsub (nat 64) (nat 0))=(T.drop (64*i)).take 64 from rfl,qj5 _ (yY hH T i) _ (by rw [List.length_take,hd];omega)]
  refine (qF rfl).trans ?_
  refine (qH (by simp only [go_sem,Int.reduceToNat];omega)).trans ?_
  rw [qAj]
  have hc:cut (T.drop (64*i)) (nat 64) (nsub (nat ((T.length - 64*i:Nat):Int)) (nat 64))=T.drop (64*(i+1)):=by
   unfold cut
   rw [show nat 64=64 from rfl,qT,List.drop_drop,List.take_of_length_le (by rw [List.length_drop];show _≤T.length - 64*i - 64;omega)]
   congr 1
  rw [hc];rfl
 have hend:f (T.drop (64*(T.length / 64)),eat H T (T.length / 64),())=some (.ex 4 (T.drop (64*(T.length / 64)),eat H T (T.length / 64),())):=by
  subst hf
  have hlen:len (T.drop (64*(T.length / 64)))=((T.length - 64*(T.length / 64):Nat):Int):=by unfold len;rw [List.length_drop]
  dsimp only
  rw [hlen]
  exact qB (by simp only [go_sem,Int.reduceToNat];omega)
 have hloop:=(qM (f:=f) (fun i=>(T.drop (64*i),eat H T i,())) (T.length / 64) step 0 (Nat.zero_le _)).trans (qU hend)
 refine (qZ (show loop f (T,H,())=_ from hloop)).trans ?_
 clear hloop hend step
 refine (qH g62).trans ?_
 clear hf f
 refine (qH (by decide)).trans ?_
 dsimp only
 unfold sumD
 dsimp only
 rw [hTT]
 have hw:=yY hH T (T.length / 64)
 generalize eat H T (T.length / 64)=w at hw
 generalize hf:(fun (x:BB×Int×Unit)=>(_:Option (LS (BB×Int×Unit) (BB×Unit))))=f
 have step:∀ i:Nat,i < 8→f (outW w i,(i:Int),())=some (.nx (outW w (i+1),((i+1:Nat):Int),())):=by
  intro i hi
  subst hf
  have hl:=qfC w i
  have hi':i64 (iadd (i:Int) 1)=((i+1:Nat):Int):=i64n (by show (i:Int)+1=_;omega) (by omega)
  refine (qE (by simp only [go_sem,Int.reduceToNat];omega)).trans ?_
  refine (qH (by simp only [go_sem,Int.reduceToNat];omega)).trans ?_
  refine (qH (by simp only [go_sem,Int.reduceToNat];simp;omega)).trans ?_
  dsimp only
  rw [hi',qAO];rfl
 have hend:∀ v,f (v,((8:Nat):Int),())=some (.ex 6 (v,((8:Nat):Int),())):=by subst hf;intro v;exact qB rfl
 have hloop:=(qM (f:=f) (fun i=>(outW w i,(i:Int),())) 8 step 0 (Nat.zero_le _)).trans (qU (hend _))
 refine (qZ (show loop f ([],0,())=_ from hloop)).trans ?_
 exact qH g62
theorem qhS {a:Int} (h:0≤a∧a < 18446744073709551616):n64 (u64 a)=a:=by
 show (((BitVec.ofNat 64 ((a % 2 ^ 64).toNat)).toNat:Nat):Int)=a
 rw [BitVec.toNat_ofNat];omega
theorem qu4 (N:Int) (hN:0≤N) (hN2:N≤1125899906842624):qmH (N,())=some (padD N,()):=by
 unfold qmH
 dsimp only
 have hzs:zs (N.toNat % 64) < 64:=by unfold zs;omega
 generalize hf:(fun (x_1:BB×Unit)=>(_:Option (LS (BB×Unit) (BB×Unit))))=f
 have step:∀ i:Nat,i < zs (N.toNat % 64)→f ([u8 128]++List.replicate i (u8 0),())=some (.nx ([u8 128]++List.replicate (i+1) (u8 0),())):=by
  intro i hi
  subst hf
  have hl:([u8 128]++List.replicate i (u8 0)).length=1+i:=by simp;omega
  have e:i64 (iadd (i64 (iadd N (len ([u8 128]++List.replicate i (u8 0))))) 8)=N+((1+i:Nat):Int)+8:=by
   have e1:i64 (iadd N (len ([u8 128]++List.replicate i (u8 0))))=N+((1+i:Nat):Int):=by
    show i64 (N+(([u8 128]++List.replicate i (u8 0)).length:Int))=_
    rw [hl];exact jE (by omega) (by omega)
   rw [e1];exact jE (by show -9223372036854775808≤N+((1+i:Nat):Int)+8;omega) (by show N+((1+i:Nat):Int)+8≤9223372036854775807;omega)
  dsimp only
  rw [e]
  have hne:¬ ((N+((1+i:Nat):Int)+8) % 64=0):=by unfold zs at hi;omega
  refine (qE (by simp (disch:=omega) only [go_sem,Int.reduceToNat];omega)).trans ?_
  refine (qH (by simp only [go_sem,Int.reduceToNat];simp;omega)).trans ?_
  show some (LS.nx ([u8 128]++List.replicate i (u8 0)++[u8 0],()))=_
  rw [qxL]
 have hend:f ([u8 128]++List.replicate (zs (N.toNat % 64)) (u8 0),())=some (.ex 0 ([u8 128]++List.replicate (zs (N.toNat % 64)) (u8 0),())):=by
  subst hf
  obtain ⟨i,hi⟩:∃ i,i=zs (N.toNat % 64):=⟨_,rfl⟩
  rw [← hi]
  have hl:([u8 128]++List.replicate i (u8 0)).length=1+i:=by simp;omega
  have e:i64 (iadd (i64 (iadd N (len ([u8 128]++List.replicate i (u8 0))))) 8)=N+((1+i:Nat):Int)+8:=by
   have e1:i64 (iadd N (len ([u8 128]++List.replicate i (u8 0))))=N+((1+i:Nat):Int):=by
    show i64 (N+(([u8 128]++List.replicate i (u8 0)).length:Int))=_
    rw [hl];exact jE (by omega) (by omega)
   rw [e1];exact jE (by show -9223372036854775808≤N+((1+i:Nat):Int)+8;omega) (by show N+((1+i:Nat):Int)+8≤9223372036854775807;omega)
  dsimp only
  rw [e]
  have hne:((N+((1+i:Nat):Int)+8) % 64=0):=by unfold zs at hi;omega
  exact qB (by simp (disch:=omega) only [go_sem,Int.reduceToNat];omega)
 have hloop:=(qM (f:=f) (fun i=>([u8 128]++List.replicate i (u8 0),())) (zs (N.toNat % 64)) step 0 (Nat.zero_le _)).trans (qU hend)
 rw [List.replicate_zero,List.append_nil] at hloop
 refine (qZ hloop).trans ?_
 clear hloop hend step
 refine (qH g62).trans ?_
 clear hf f
 dsimp only
 generalize hL:[u8 128]++List.replicate (zs (N.toNat % 64)) (u8 0)=L
 have hLl:L.length=1+zs (N.toNat % 64):=by rw [← hL];simp;omega
 generalize hf:(fun (x_1:BB×Int×Unit)=>(_:Option (LS (BB×Int×Unit) (BB×Unit))))=f
 have step:∀ i:Nat,i < 8→f (L++lenB N i,56 - 8*(i:Int),())=some (.nx (L++lenB N (i+1),56 - 8*((i+1:Nat):Int),())):=by
  intro i hi
  subst hf
  have hl:(L++lenB N i).length=L.length+i:=by rw [List.length_append,yV]
  refine (qE (by simp only [go_sem,Int.reduceToNat];omega)).trans ?_
  refine (qH (by simp only [go_sem,Int.reduceToNat];simp [yV];omega)).trans ?_
  dsimp only
  rw [qhS (a:=56 - 8*(i:Int)) (by omega),show app (L++lenB N i) [u8 (shrI .i64 (i64 (imul 8 N)) (56 - 8*(i:Int)))]=L++lenB N (i+1) by rw [qA2,show ((56 - 8*i:Nat):Int)=56 - 8*(i:Int) by omega];exact List.append_assoc _ _ _,
   show i64 (isub (56 - 8*(i:Int)) 8)=56 - 8*((i+1:Nat):Int) by rw [jE (by show -9223372036854775808≤56 - 8*(i:Int) - 8;omega) (by show 56 - 8*(i:Int) - 8≤9223372036854775807;omega)];show 56 - 8*(i:Int) - 8=_;omega]
 have hend:f (L++lenB N 8,56 - 8*((8:Nat):Int),())=some (.ex 2 (L++lenB N 8,56 - 8*((8:Nat):Int),())):=by subst hf;exact qB (show le 0 (56 - 8*((8:Nat):Int))=false from rfl)
 have hloop:=(qM (f:=f) (fun i=>(L++lenB N i,56 - 8*(i:Int),())) 8 step 0 (Nat.zero_le _)).trans (qU hend)
 have h0:(L++lenB N 0,56 - 8*((0:Nat):Int),())=(L,56,()):=by simp [lenB]
 rw [h0] at hloop
 refine (qZ hloop).trans ?_
 refine (qH g62).trans ?_
 dsimp only
 rw [← hL];rfl
theorem qCJ (N:Int):(padD N).length=9+zs (N.toNat % 64):=by unfold padD;simp [yV];omega
theorem qu2 (H:List UInt32) (hH:H.length=8) (N:Int) (r:BB) (hN:0≤N) (hN2:N≤1125899906842624) (hr:r.length=N.toNat % 64):qhK ((H,N,r,()),())=some (sumD (H,N,r,()),()):=by
 unfold qhK
 dsimp only
 rw [show app (none' UInt8) r=r from rfl]
 refine (qH (by simp only [go_sem,Int.reduceToNat];omega)).trans ?_
 rw [qu4 N hN hN2]
 refine (qF rfl).trans ?_
 have hp:=qCJ N
 have hzs:zs (N.toNat % 64) < 64:=by unfold zs;omega
 refine (qH (by simp only [go_sem,Int.reduceToNat];omega)).trans ?_
 rw [qHv]
 refine (qF rfl).trans ?_
 dsimp only
 unfold sumD
 dsimp only
 rw [show app r (padD N)=r++padD N from rfl]
 have hTl:(r++padD N).length=r.length+1+zs (N.toNat % 64)+8:=by rw [List.length_append,hp];omega
 have hT64:(r++padD N).length % 64=0:=by rw [hTl];unfold zs;omega
 generalize hTT:r++padD N=T at hTl hT64
 generalize hf:(fun (x_1:Int×List UInt32×Unit)=>(_:Option (LS (Int×List UInt32×Unit) (BB×Unit))))=f
 have step:∀ i:Nat,i < T.length / 64→f (((64*i:Nat):Int),eat H T i,())=some (.nx (((64*(i+1):Nat):Int),eat H T (i+1),())):=by
  intro i hi
  subst hf
  have e':i64 (iadd ((64*i:Nat):Int) 64)=((64*(i+1):Nat):Int):=i64n (by show ((64*i:Nat):Int)+64=_;omega) (by omega)
  dsimp only
  rw [e']
  refine (qE (by simp only [go_sem,Int.reduceToNat];omega)).trans ?_
  rw [qhJ _ (yY hH T i) T (64*i) (by omega) (by omega)]
  rfl
 have hend:f (((64*(T.length / 64):Nat):Int),eat H T (T.length / 64),())=some (.ex 0 (((64*(T.length / 64):Nat):Int),eat H T (T.length / 64),())):=by
  subst hf
  exact qB (by simp only [go_sem,Int.reduceToNat];omega)
 have hloop:=(qM (f:=f) (fun i=>(((64*i:Nat):Int),eat H T i,())) (T.length / 64) step 0 (Nat.zero_le _)).trans (qU hend)
 refine (qZ (show loop f (0,H,())=_ from hloop)).trans ?_
 clear hloop hend step
 refine (qH g62).trans ?_
 clear hf f
 dsimp only
 have hw:=yY hH T (T.length / 64)
 generalize eat H T (T.length / 64)=w at hw
 generalize hf:(fun (x:BB×Int×Unit)=>(_:Option (LS (BB×Int×Unit) (BB×Unit))))=f
 have step:∀ i:Nat,i < 8→f (outW w i,(i:Int),())=some (.nx (outW w (i+1),((i+1:Nat):Int),())):=by
  intro i hi
  subst hf
  have hl:=qfC w i
  have hi':i64 (iadd (i:Int) 1)=((i+1:Nat):Int):=i64n (by show (i:Int)+1=_;omega) (by omega)
  refine (qE (by simp only [go_sem,Int.reduceToNat];omega)).trans ?_
  refine (qH (by simp only [go_sem,Int.reduceToNat];omega)).trans ?_
  refine (qH (by simp only [go_sem,Int.reduceToNat];omega)).trans ?_
  refine (qH (by simp only [go_sem,Int.reduceToNat];omega)).trans ?_
  refine (qH (by simp only [go_sem,Int.reduceToNat];omega)).trans ?_
  refine (qH (by simp only [go_sem,Int.reduceToNat];simp;omega)).trans ?_
  dsimp only
  rw [hi',qAO,qLN];rfl
 have hend:∀ v,f (v,((8:Nat):Int),())=some (.ex 2 (v,((8:Nat):Int),())):=by subst hf;intro v;exact qB rfl
 have hloop:=(qM (f:=f) (fun i=>(outW w i,(i:Int),())) 8 step 0 (Nat.zero_le _)).trans (qU (hend _))
 refine (qZ (show loop f (none' UInt8,0,())=_ from hloop)).trans ?_
 exact qH g62
def okH (h:HT):Prop:=h.1.length=8∧0≤h.2.1∧h.2.2.1.length=h.2.1.toNat % 64
theorem qhO {h:HT} (hh:okH h) (b:BB):okH (putD h b):=by
 obtain ⟨h1,h2,h3⟩:=hh
 refine ⟨yY h1 _ _, ?_, ?_⟩
 ·show 0≤h.2.1+(b.length:Int);omega
 ·show ((h.2.2.1++b).drop (64*((h.2.2.1++b).length / 64))).length=(h.2.1+(b.length:Int)).toNat % 64
  rw [List.length_drop,List.length_append,h3];omega
theorem qKw (h:HT) (x y:BB):putD (putD h x) y=putD h (x++y):=by
 obtain ⟨H,N,r,⟨⟩⟩:=h
 unfold putD
 dsimp only
 generalize hL:r++x=L
 have hM:r++(x++y)=L++y:=by rw [← List.append_assoc,hL]
 rw [hM]
 have hq:64*(L.length / 64)≤L.length:=by omega
 have hd:(L++y).drop (64*(L.length / 64))=L.drop (64*(L.length / 64))++y:=List.drop_append_of_le_length hq
 have hlen:(L.drop (64*(L.length / 64))++y).length=L.length - 64*(L.length / 64)+y.length:=by rw [List.length_append,List.length_drop]
 have hn:(L++y).length / 64=L.length / 64+(L.drop (64*(L.length / 64))++y).length / 64:=by rw [hlen,List.length_append];omega
 have he:eat H (L++y) (L.length / 64)=eat H L (L.length / 64):=by
  refine qBs H fun j hj => ?_
  unfold q8
  rw [List.getD_eq_getElem?_getD,List.getElem?_append_left (by omega),← List.getD_eq_getElem?_getD]
 refine Prod.ext ?_ (Prod.ext ?_ (Prod.ext ?_ rfl))
 ·dsimp only;rw [hn,qHX,hd,he]
 ·dsimp only;rw [List.length_append];omega
 ·dsimp only;rw [hn,← hd,List.drop_drop];congr 1;omega
theorem qCo (h:HT):(sumD h).length=32:=by unfold sumD;rw [qfC]
def iv:HT:=([u32 1779033703,u32 3144134277,u32 1013904242,u32 2773480762,u32 1359893119,u32 2600822924,u32 528734635,u32 1541459225],0,[],())
theorem qvD:okH iv:=⟨rfl,Int.le_refl _,rfl⟩
theorem qc6 {h:HT} (hh:okH h) (b:BB) (hN:h.2.1≤1000000000) (hb:b.length≤1000000000):qeM (h,b,())=some (putD h b,()):=by
 obtain ⟨H,N,r,⟨⟩⟩:=h
 obtain ⟨h1,h2,h3⟩:=hh
 have h2':0≤N:=h2
 have h3':r.length=N.toNat % 64:=h3
 have hN':N≤1000000000:=hN
 exact qAq H h1 N r b h2 (by omega) (by omega) hb
theorem qAI {h:HT} (hh:okH h) (b:BB) (hN:h.2.1≤1000000000) (hb:b.length≤1000000000):qhL (h,b,())=some (putD h b,()):=by
 obtain ⟨H,N,r,⟨⟩⟩:=h
 obtain ⟨h1,h2,h3⟩:=hh
 have h2':0≤N:=h2
 have h3':r.length=N.toNat % 64:=h3
 have hN':N≤1000000000:=hN
 exact qu3 H h1 N r b h2 (by omega) (by omega) hb
theorem qn7 {h:HT} (hh:okH h) (hN:h.2.1≤1000000000000):qkU (h,())=some (sumD h,()):=by
 obtain ⟨H,N,r,⟨⟩⟩:=h
 obtain ⟨h1,h2,h3⟩:=hh
 have hN':N≤1000000000000:=hN
 exact qAp H h1 N r h2 (by omega) h3
theorem qAH {h:HT} (hh:okH h) (hN:h.2.1≤1000000000000):qhK (h,())=some (sumD h,()):=by
 obtain ⟨H,N,r,⟨⟩⟩:=h
 obtain ⟨h1,h2,h3⟩:=hh
 have hN':N≤1000000000000:=hN
 exact qu2 H h1 N r h2 (by omega) h3
theorem qo5:qrY ()=some (iv,()):=rfl
theorem qu5:qsM ()=some (iv,()):=rfl
def qqE (b:BB):BB:=sumD (putD iv b)
theorem xR (b:BB):(qqE b).length=32:=qCo _
theorem qCt (b:BB) (hb:b.length≤1000000000):qEd (b,())=some (qqE b,()):=by
 unfold qEd
 rw [qo5]
 refine (qF rfl).trans ?_
 dsimp only
 rw [qc6 qvD b (by decide) hb]
 refine (qF rfl).trans ?_
 dsimp only
 have hn:(putD iv b).2.1=0+(b.length:Int):=rfl
 rw [qn7 (qhO qvD b) (by omega)];rfl
theorem w9 (b:BB) (hb:b.length≤1000000000):qfA (b,())=some (qqE b,()):=by
 unfold qfA
 rw [qu5]
 refine (qF rfl).trans ?_
 dsimp only
 rw [qAI qvD b (by decide) hb]
 refine (qF rfl).trans ?_
 dsimp only
 have hn:(putD iv b).2.1=0+(b.length:Int):=rfl
 rw [qAH (qhO qvD b) (by omega)];rfl
theorem qb2 {α σ ρ:Type} {f:σ→Option (LS σ ρ)} (l:List α) (mk:Nat→σ) (e:Nat) (r:ρ) (p:α→Prop)
  (hs:∀ i (h:i < l.length),p l[i]→f (mk i)=some (.nx (mk (i+1)))) (hb:∀ i (h:i < l.length),¬ p l[i]→f (mk i)=some (.rt r)) (he:f (mk l.length)=some (.ex e (mk l.length))) :
  ((∀ x∈l,p x)∧loop f (mk 0)=some (.ex e (mk l.length)))∨((¬ ∀ x∈l,p x)∧loop f (mk 0)=some (.rt r)):=by
 by_cases h:∀ x∈l,p x
 ·exact .inl ⟨h,(qM mk l.length (fun i hi=>hs i hi (h _ (List.getElem_mem hi))) 0 (Nat.zero_le _)).trans (qU he)⟩
 ·refine .inr ⟨h, ?_⟩
  have key:∀ (n i:Nat),l.length - i=n→i≤l.length→(∃ j,∃ (hj:j < l.length),i≤j∧¬ p l[j])→loop f (mk i)=some (.rt r):=by
   intro n
   induction n with
   | zero=>rintro i hn hi ⟨j,hj,h1,_⟩;omega
   | succ n ih =>
    rintro i hn hi ⟨j,hj,h1,h2⟩
    have hil:i < l.length:=by omega
    by_cases hp:p l[i]
    ·rw [v5 (hs i hil hp)]
     refine ih (i+1) (by omega) (by omega) ⟨j,hj, ?_,h2⟩
     rcases Nat.lt_or_eq_of_le h1 with h | rfl
     ·exact h
     ·exact absurd hp h2
    ·exact qfH (hb i hil hp)
  refine key _ 0 rfl (Nat.zero_le _) ?_
  refine Classical.byContradiction fun hn=>h fun x hx=>Classical.byContradiction fun hpx => ?_
  obtain ⟨j,hj,rfl⟩:=List.getElem_of_mem hx
  exact hn ⟨j,hj,Nat.zero_le _,hpx⟩
def vQ (key:BB):BB:=let k:=if 64 < key.length then qqE key else key;k++List.replicate (64 - k.length) (u8 0)
theorem qnP (key:BB):(vQ key).length=64:=by
 unfold vQ
 by_cases h:64 < key.length
 ·simp only [if_pos h,List.length_append,List.length_replicate,xR]
 ·simp only [if_neg h,List.length_append,List.length_replicate];omega
theorem qHZ (k:BB) (h:k.length≤64):cpy (rep (nat 64) (u8 0)) 0 (ln (rep (nat 64) (u8 0))) k=k++List.replicate (64 - k.length) (u8 0):=by
 unfold cpy rep ln
 rw [List.length_replicate,show nat 64=64 from rfl,List.take_zero,List.nil_append,List.take_of_length_le h,Nat.zero_add,Nat.min_eq_right h,List.drop_replicate]
theorem qu9 (key:BB) (h:key.length≤1000000000):qmT (key,())=some (vQ key,()):=by
 unfold qmT
 refine (qH (by decide)).trans ?_
 by_cases hk:64 < key.length
 ·refine (qE (by simp only [go_sem,Int.reduceToNat];omega)).trans ?_
  dsimp only
  rw [qCt _ h]
  refine (qF rfl).trans ?_
  dsimp only
  rw [qHZ _ (by rw [xR];omega)]
  unfold vQ;simp only [if_pos hk]
 ·refine (qB (by simp only [go_sem,Int.reduceToNat];omega)).trans ?_
  dsimp only
  rw [qHZ _ (by omega)]
  unfold vQ;simp only [if_neg hk]
theorem qMh {f:BB×Unit→Option (LS (BB×Unit) (BB×Unit))} (hf:f=fun (x:BB×Unit)=>sel (lt (len x.1) 64) (ck (rm 1 (nadd (ln x.1) (ln [u8 0]))) (some (LS.nx (app x.1 [u8 0],())))) (some (LS.ex 0 (x.1,())))) (k:BB) (h:k.length≤64) :
  loop f (k,())=some (.ex 0 (k++List.replicate (64 - k.length) (u8 0),())):=by
 have step:∀ i:Nat,i < 64 - k.length→f (k++List.replicate i (u8 0),())=some (.nx (k++List.replicate (i+1) (u8 0),())):=by
  intro i hi
  subst hf
  have hl:(k++List.replicate i (u8 0)).length=k.length+i:=by simp
  refine (qE (by simp only [go_sem,Int.reduceToNat];omega)).trans ?_
  refine (qH (by simp only [go_sem,Int.reduceToNat];simp;omega)).trans ?_
  show some (LS.nx (k++List.replicate i (u8 0)++[u8 0],()))=_
  rw [qxL]
 have hend:f (k++List.replicate (64 - k.length) (u8 0),())=some (.ex 0 (k++List.replicate (64 - k.length) (u8 0),())):=by
  subst hf
  have hl:(k++List.replicate (64 - k.length) (u8 0)).length=64:=by simp;omega
  exact qB (by simp only [go_sem,Int.reduceToNat];omega)
 have:=(qM (f:=f) (fun i=>(k++List.replicate i (u8 0),())) (64 - k.length) step 0 (Nat.zero_le _)).trans (qU hend)
 rwa [List.replicate_zero,List.append_nil] at this
theorem qqZ (key:BB) (h:key.length≤1000000000):qe9 (key,())=some (vQ key,()):=by
 unfold qe9
 refine (qH (by simp only [go_sem,Int.reduceToNat];omega)).trans ?_
 by_cases hk:64 < key.length
 ·refine (qE (by simp only [go_sem,Int.reduceToNat];omega)).trans ?_
  dsimp only
  rw [w9 _ h]
  refine (qF rfl).trans ?_
  dsimp only
  rw [qMh rfl _ (by rw [xR];omega)]
  refine (qH g62).trans ?_
  unfold vQ;simp only [if_pos hk]
 ·refine (qB (by simp only [go_sem,Int.reduceToNat];omega)).trans ?_
  dsimp only
  rw [show app (none' UInt8) key=key from rfl,qMh rfl _ (by omega)]
  refine (qH g62).trans ?_
  unfold vQ;simp only [if_neg hk]
def xr (c:UInt8) (l:BB):BB:=l.map fun x=>u8 (xorI .u8 (n8 x) (n8 c))
theorem qc3 (c:UInt8) (l:BB):(xr c l).length=l.length:=by simp [xr]
theorem qJk {α:Type} {L:List α} {n:Nat} {z:α} (hL:L.length=n) {i:Nat} (hi:i < n):(L.take i++List.replicate (n - i) z).set i (L[i]'(by omega))=L.take (i+1)++List.replicate (n - (i+1)) z:=by
 have h1:(L.take i).length=i:=by rw [List.length_take];omega
 rw [List.set_append_right _ _ (by omega),h1,Nat.sub_self,show n - i=(n - (i+1))+1 by omega,List.replicate_succ,List.set_cons_zero,List.take_succ_eq_append_getElem (by omega),List.append_assoc]
 rfl
theorem qDW {f:Int×BB×Unit→Option (LS (Int×BB×Unit) Unit)} (c:UInt8) (k:BB) (hk:k.length=64)
  (hf:f=fun (x:Int×BB×Unit)=>sel (lt x.1 (len k)) (ck (inB x.1 (len k)) (ck (inB x.1 (len x.2.1)) (some (LS.nx (i64 (iadd x.1 1),upd x.2.1 (nat x.1) (u8 (xorI .u8 (n8 (nth k (nat x.1) (u8 0))) (n8 c))),()))))) (some (LS.ex 0 (x.1,x.2.1,())))) :
  loop f (0,rep (nat 64) (u8 0),())=some (.ex 0 (64,xr c k,())):=by
 have hx:(xr c k).length=64:=by rw [qc3,hk]
 have step:∀ i:Nat,i < 64→f ((i:Int),(xr c k).take i++List.replicate (64 - i) (u8 0),())=some (.nx (((i+1:Nat):Int),(xr c k).take (i+1)++List.replicate (64 - (i+1)) (u8 0),())):=by
  intro i hi
  subst hf
  have hl:((xr c k).take i++List.replicate (64 - i) (u8 0)).length=64:=by rw [List.length_append,List.length_take,List.length_replicate];omega
  have hi':i64 (iadd (i:Int) 1)=((i+1:Nat):Int):=i64n (by show (i:Int)+1=_;omega) (by omega)
  refine (qE (by simp only [go_sem,Int.reduceToNat];omega)).trans ?_
  refine (qH (by simp only [go_sem,Int.reduceToNat];omega)).trans ?_
  refine (qH (by simp only [go_sem,Int.reduceToNat];omega)).trans ?_
  dsimp only
  rw [hi',show upd ((xr c k).take i++List.replicate (64 - i) (u8 0)) (nat (i:Int)) (u8 (xorI .u8 (n8 (nth k (nat (i:Int)) (u8 0))) (n8 c)))=(xr c k).take (i+1)++List.replicate (64 - (i+1)) (u8 0) from ?_]
  rw [← qJk hx hi,qT,qL (by omega:i < k.length)]
  unfold upd
  congr 1
  simp [xr]
 have hend:f (((64:Nat):Int),(xr c k).take 64++List.replicate (64 - 64) (u8 0),())=some (.ex 0 (((64:Nat):Int),(xr c k).take 64++List.replicate (64 - 64) (u8 0),())):=by
  subst hf
  exact qB (by simp only [go_sem,Int.reduceToNat];omega)
 have:=(qM (f:=f) (fun i=>((i:Int),(xr c k).take i++List.replicate (64 - i) (u8 0),())) 64 step 0 (Nat.zero_le _)).trans (qU hend)
 rw [List.take_of_length_le (show (xr c k).length≤64 by omega),Nat.sub_self,List.replicate_zero,List.append_nil] at this
 exact this
def tagD (key b:BB):BB:=qqE (xr (u8 92) (vQ key)++qqE (xr (u8 54) (vQ key)++b))
theorem qeL (key b:BB):(tagD key b).length=32:=xR _
theorem qEo (x y:BB):sumD (putD (putD iv x) y)=qqE (x++y):=by rw [qKw];rfl
theorem qpG (key b:BB) (h:key.length≤1000000) (hb:b.length≤1000000):qsZ (key,b,())=some (tagD key b,()):=by
 unfold qsZ
 dsimp only
 rw [qu9 _ (by omega)]
 refine (qF rfl).trans ?_
 refine (qH (by decide)).trans ?_
 dsimp only
 have hk:=qnP key
 rw [qDW (u8 92) _ hk rfl]
 refine (qH g62).trans ?_
 dsimp only
 rw [qo5]
 refine (qF rfl).trans ?_
 dsimp only
 have l1:=(qc3 (u8 92) (vQ key)).trans hk
 have l2:=(qc3 (u8 54) (vQ key)).trans hk
 rw [qc6 qvD _ (by decide) (by omega)]
 refine (qF rfl).trans ?_
 refine (qH (by decide)).trans ?_
 dsimp only
 rw [qDW (u8 54) _ hk rfl]
 refine (qH g62).trans ?_
 refine (qF rfl).trans ?_
 dsimp only
 rw [qc6 qvD _ (by decide) (by omega)]
 refine (qF rfl).trans ?_
 dsimp only
 have n1:(putD iv (xr (u8 54) (vQ key))).2.1=0+((xr (u8 54) (vQ key)).length:Int):=rfl
 have n2:(putD (putD iv (xr (u8 54) (vQ key))) b).2.1=0+((xr (u8 54) (vQ key)).length:Int)+(b.length:Int):=rfl
 have n3:(putD iv (xr (u8 92) (vQ key))).2.1=0+((xr (u8 92) (vQ key)).length:Int):=rfl
 rw [qc6 (qhO qvD _) b (by omega) (by omega)]
 refine (qF rfl).trans ?_
 dsimp only
 rw [qn7 (qhO (qhO qvD _) _) (by omega),qEo]
 refine (qF rfl).trans ?_
 dsimp only
 have l4:=xR (xr (u8 54) (vQ key)++b)
 rw [qc6 (qhO qvD _) _ (by omega) (by omega)]
 refine (qF rfl).trans ?_
 dsimp only
 have n4:∀ y,(putD (putD iv (xr (u8 92) (vQ key))) y).2.1=0+((xr (u8 92) (vQ key)).length:Int)+(y.length:Int):=fun _=>rfl
 rw [qn7 (qhO (qhO qvD _) _) (by rw [n4];omega),qEo]
 rfl
theorem qj9 (key b:BB) (h:key.length≤1000000) (hb:b.length≤1000000):qhI (key,b,())=some (tagD key b,()):=by
 unfold qhI
 dsimp only
 rw [qqZ _ (by omega)]
 refine (qF rfl).trans ?_
 dsimp only
 have hk:=qnP key
 unfold tagD
 generalize vQ key=k at hk
 generalize hf:(fun (x:BB×BB×Int×Unit)=>(_:Option (LS (BB×BB×Int×Unit) (BB×Unit))))=f
 have x1:(xr (u8 54) k).length=64:=by rw [qc3,hk]
 have x2:(xr (u8 92) k).length=64:=by rw [qc3,hk]
 have tk:∀ (c:UInt8) (i:Nat) (hi:i < 64),app ((xr c k).take i) [u8 (xorI .u8 (n8 (nth k (nat (i:Int)) (u8 0))) (n8 c))]=(xr c k).take (i+1):=by
  intro c i hi
  have hx:(xr c k).length=64:=by rw [qc3,hk]
  rw [qT,qL (by omega:i < k.length),List.take_succ_eq_append_getElem (by omega)]
  unfold app
  congr 2
  simp [xr]
 have step:∀ i:Nat,i < 64→f ((xr (u8 54) k).take i,(xr (u8 92) k).take i,(i:Int),())=some (.nx ((xr (u8 54) k).take (i+1),(xr (u8 92) k).take (i+1),((i+1:Nat):Int),())):=by
  intro i hi
  subst hf
  have hi':i64 (iadd (i:Int) 1)=((i+1:Nat):Int):=i64n (by show (i:Int)+1=_;omega) (by omega)
  have h1:((xr (u8 54) k).take i).length=i:=by rw [List.length_take];omega
  have h2:((xr (u8 92) k).take i).length=i:=by rw [List.length_take];omega
  refine (qE (by simp only [go_sem,Int.reduceToNat];omega)).trans ?_
  refine (qH (by simp only [go_sem,Int.reduceToNat];omega)).trans ?_
  refine (qH (by simp only [go_sem,Int.reduceToNat];simp;omega)).trans ?_
  refine (qH (by simp only [go_sem,Int.reduceToNat];omega)).trans ?_
  refine (qH (by simp only [go_sem,Int.reduceToNat];simp;omega)).trans ?_
  dsimp only
  rw [hi',tk _ i hi,tk _ i hi]
 have hend:∀ u v,f (u,v,((64:Nat):Int),())=some (.ex 0 (u,v,((64:Nat):Int),())):=by subst hf;intro u v;exact qB rfl
 have hloop:=(qM (f:=f) (fun i=>((xr (u8 54) k).take i,(xr (u8 92) k).take i,(i:Int),())) 64 step 0 (Nat.zero_le _)).trans (qU (hend _ _))
 rw [List.take_of_length_le (show (xr (u8 54) k).length≤64 by omega),List.take_of_length_le (show (xr (u8 92) k).length≤64 by omega)] at hloop
 refine (qZ (show loop f (none' UInt8,none' UInt8,0,())=_ from hloop)).trans ?_
 refine (qH g62).trans ?_
 dsimp only
 refine (qH (by simp only [go_sem,Int.reduceToNat];omega)).trans ?_
 rw [show app (xr (u8 54) k) b=xr (u8 54) k++b from rfl,w9 _ (by rw [List.length_append];omega)]
 refine (qF rfl).trans ?_
 dsimp only
 have l4:=xR (xr (u8 54) k++b)
 refine (qH (by simp only [go_sem,Int.reduceToNat];omega)).trans ?_
 rw [show app (xr (u8 92) k) (qqE (xr (u8 54) k++b))=xr (u8 92) k++qqE (xr (u8 54) k++b) from rfl,w9 _ (by rw [List.length_append];omega)]
 rfl
def qoI (p:BB):BB:=[u8 (shrI .i64 (len p) (n64 (u64 8))),u8 (len p)]++p
def tlD (l:List BB):BB:=l.flatMap qoI
def qbS (label:BB) (l:List BB):BB:=[u8 (len label)]++label++tlD l
theorem qAK (p:BB):(qoI p).length=p.length+2:=by simp [qoI]
theorem qFb {l:List BB} (h:∀ p∈l,p.length≤1000):(tlD l).length≤1002*l.length:=by
 induction l with
 | nil=>simp [tlD]
 | cons p r ih =>
  have h1:=h p (by simp)
  have h2:=ih fun q hq=>h q (by simp [hq])
  unfold tlD at h2 ⊢
  rw [List.flatMap_cons,List.length_append,qAK,List.length_cons];omega
theorem qD2 {l:List BB} {i:Nat} (hi:i < l.length):tlD (l.take (i+1))=tlD (l.take i)++qoI l[i]:=by
 unfold tlD
 rw [List.take_succ_eq_append_getElem hi,List.flatMap_append,List.flatMap_cons,List.flatMap_nil,List.append_nil]
theorem qbU {label:BB} {l:List BB} (h1:label.length≤255) (h2:l.length≤16) (h:∀ p∈l,p.length≤1000):(qbS label l).length≤20000:=by
 have:=qFb h
 unfold qbS
 simp only [List.length_append,List.length_cons,List.length_nil];omega
def qtL (key label:BB) (l:List BB):BB:=tagD key (qbS label l)
theorem qkJ (key label:BB) (l:List BB):(qtL key label l).length=32:=qeL _ _
theorem qs0 (key label:BB) (l:List BB) (hk:key.length≤1000000) (h1:label.length≤255) (h2:l.length≤16) (h:∀ p∈l,p.length≤1000):qjP (key,label,l,())=some (qtL key label l,0,()):=by
 unfold qjP
 dsimp only
 refine (qF (a:=(false,())) ((qB (by simp only [go_sem,Int.reduceToNat];omega)).trans (by rw [show lt 16 (len l)=false from lt_f (by simp only [go_sem,Int.reduceToNat];omega)]))).trans ?_
 refine (qB rfl).trans ?_
 refine (qH (by simp only [go_sem,Int.reduceToNat];simp;omega)).trans ?_
 generalize hf:(fun (x_1:Int×BB×Int×Unit)=>(_:Option (LS (Int×BB×Int×Unit) (BB×Int×Unit))))=f
 have hT:∀ i,(qbS label (l.take i)).length≤20000:=fun i=>qbU h1 (by rw [List.length_take];omega) (fun p hp=>h p (List.mem_of_mem_take hp))
 have step:∀ i:Nat,i < l.length→f (0,qbS label (l.take i),(i:Int),())=some (.nx (0,qbS label (l.take (i+1)),((i+1:Nat):Int),())):=by
  intro i hi
  subst hf
  have hi':i64 (iadd (i:Int) 1)=((i+1:Nat):Int):=i64n (by show (i:Int)+1=_;omega) (by omega)
  have hp:=h l[i] (List.getElem_mem hi)
  have ht:=hT i
  have hn:nth l (nat (i:Int)) (none' UInt8)=l[i]:=by rw [qT,qL hi]
  refine (qE (by simp only [go_sem,Int.reduceToNat];omega)).trans ?_
  refine (qH (by simp only [go_sem,Int.reduceToNat];omega)).trans ?_
  dsimp only
  rw [hn]
  refine (qB (by simp only [go_sem,Int.reduceToNat];omega)).trans ?_
  refine (qH (by simp only [go_sem,Int.reduceToNat];simp;omega)).trans ?_
  refine (qH (by simp only [go_sem,Int.reduceToNat];simp;omega)).trans ?_
  rw [hi',show qbS label (l.take (i+1))=qbS label (l.take i)++qoI l[i] by unfold qbS;rw [qD2 hi,List.append_assoc,List.append_assoc,List.append_assoc]]
  unfold qoI app
  rw [List.append_assoc]
 have hend:∀ u,f (0,u,(l.length:Int),())=some (.ex 0 (0,u,(l.length:Int),())):=by subst hf;intro u;exact qB (by simp only [go_sem,Int.reduceToNat];omega)
 have hloop:=(qM (f:=f) (fun i=>(0,qbS label (l.take i),(i:Int),())) l.length step 0 (Nat.zero_le _)).trans (qU (hend _))
 rw [List.take_of_length_le (Nat.le_refl _)] at hloop
 have h0:qbS label (l.take 0)=app [u8 (len label)] label:=by unfold qbS;rw [List.take_zero];exact List.append_nil _
 rw [h0] at hloop
 refine (qZ (show loop f (0,app [u8 (len label)] label,0,())=_ from hloop)).trans ?_
 refine (qH g62).trans ?_
 dsimp only
 have:=qbU h1 h2 h
 rw [qpG _ _ hk (by omega)];rfl
theorem qsL (label:BB) (l:List BB) (h1:label.length≤255) (h2:l.length≤16) (h:∀ p∈l,p.length≤1000):qjJ (label,l,())=some (qbS label l,()):=by
 unfold qjJ
 dsimp only
 refine (qH (by simp only [go_sem,Int.reduceToNat];omega)).trans ?_
 refine (qH (by simp only [go_sem,Int.reduceToNat];simp;omega)).trans ?_
 generalize hf:(fun (x_1:BB×Int×Unit)=>(_:Option (LS (BB×Int×Unit) (BB×Unit))))=f
 have hT:∀ i,(qbS label (l.take i)).length≤20000:=fun i=>qbU h1 (by rw [List.length_take];omega) (fun p hp=>h p (List.mem_of_mem_take hp))
 have step:∀ i:Nat,i < l.length→f (qbS label (l.take i),(i:Int),())=some (.nx (qbS label (l.take (i+1)),((i+1:Nat):Int),())):=by
  intro i hi
  subst hf
  have hi':i64 (iadd (i:Int) 1)=((i+1:Nat):Int):=i64n (by show (i:Int)+1=_;omega) (by omega)
  have hp:=h l[i] (List.getElem_mem hi)
  have ht:=hT i
  have hn:nth l (nat (i:Int)) (none' UInt8)=l[i]:=by rw [qT,qL hi]
  have q1:u8 (i64 (idiv (len l[i]) 256))=u8 (shrI .i64 (len l[i]) (n64 (u64 8))):=by
   have a1:idiv (len l[i]) 256=((l[i].length / 256:Nat):Int):=by rw [g31 (by simp only [go_sem,Int.reduceToNat];omega)];simp only [go_sem,Int.reduceToNat];omega
   have a2:shrI .i64 (len l[i]) (n64 (u64 8))=((l[i].length / 256:Nat):Int):=by show Int.fdiv (l[i].length:Int) (2 ^ 8)=_;rw [Int.fdiv_eq_ediv_of_nonneg _ (by decide)];omega
   rw [a1,a2,i64n rfl (by omega)]
  have q2:u8 (imod (len l[i]) 256)=u8 (len l[i]):=by
   rw [g32 (by simp only [go_sem,Int.reduceToNat];omega)];exact qAe (by simp only [go_sem,Int.reduceToNat];omega)
  refine (qE (by simp only [go_sem,Int.reduceToNat];omega)).trans ?_
  dsimp only
  rw [hn]
  refine (qH (by simp only [go_sem,Int.reduceToNat];omega)).trans ?_
  refine (qH (by simp only [go_sem,Int.reduceToNat];omega)).trans ?_
  refine (qH (by simp only [go_sem,Int.reduceToNat];simp;omega)).trans ?_
  refine (qH (by simp only [go_sem,Int.reduceToNat];omega)).trans ?_
  refine (qH (by simp only [go_sem,Int.reduceToNat];simp;omega)).trans ?_
  rw [hi',q1,q2,show qbS label (l.take (i+1))=qbS label (l.take i)++qoI l[i] by unfold qbS;rw [qD2 hi,List.append_assoc,List.append_assoc,List.append_assoc]]
  unfold qoI app
  rw [List.append_assoc]
 have hend:∀ u,f (u,(l.length:Int),())=some (.ex 0 (u,(l.length:Int),())):=by subst hf;intro u;exact qB (by simp only [go_sem,Int.reduceToNat];omega)
 have hloop:=(qM (f:=f) (fun i=>(qbS label (l.take i),(i:Int),())) l.length step 0 (Nat.zero_le _)).trans (qU (hend _))
 rw [List.take_of_length_le (Nat.le_refl _)] at hloop
 have h0:qbS label (l.take 0)=app [u8 (len label)] label:=by unfold qbS;rw [List.take_zero];exact List.append_nil _
 rw [h0] at hloop
 refine (qZ (show loop f (app [u8 (len label)] label,0,())=_ from hloop)).trans ?_
 exact qH g62
theorem qdJ (key label:BB) (l:List BB) (hk:key.length≤1000000) (h1:label.length≤255) (h2:l.length≤16) (h:∀ p∈l,p.length≤1000):wE (key,label,l,())=some (qtL key label l,0,()):=by
 unfold wE
 dsimp only
 refine (qF (a:=(false,())) ((qB (by simp only [go_sem,Int.reduceToNat];omega)).trans (by rw [show lt 16 (len l)=false from lt_f (by simp only [go_sem,Int.reduceToNat];omega)]))).trans ?_
 refine (qB rfl).trans ?_
 generalize hf:(fun (x_1:Int×Int×Unit)=>(_:Option (LS (Int×Int×Unit) (BB×Int×Unit))))=f
 have step:∀ i:Nat,i < l.length→f (0,(i:Int),())=some (.nx (0,((i+1:Nat):Int),())):=by
  intro i hi
  subst hf
  have hi':i64 (iadd (i:Int) 1)=((i+1:Nat):Int):=i64n (by show (i:Int)+1=_;omega) (by omega)
  have hp:=h l[i] (List.getElem_mem hi)
  have hn:nth l (nat (i:Int)) (none' UInt8)=l[i]:=by rw [qT,qL hi]
  refine (qE (by simp only [go_sem,Int.reduceToNat];omega)).trans ?_
  dsimp only
  rw [hn,hi']
  refine (qH (by simp only [go_sem,Int.reduceToNat];omega)).trans ?_
  exact qB (by simp only [go_sem,Int.reduceToNat];omega)
 have hend:f (0,(l.length:Int),())=some (.ex 0 (0,(l.length:Int),())):=by subst hf;exact qB (by simp only [go_sem,Int.reduceToNat];omega)
 have hloop:=(qM (f:=f) (fun i=>(0,(i:Int),())) l.length step 0 (Nat.zero_le _)).trans (qU hend)
 refine (qZ (show loop f (0,0,())=_ from hloop)).trans ?_
 refine (qH g62).trans ?_
 rw [qsL _ _ h1 h2 h]
 refine (qF rfl).trans ?_
 dsimp only
 have:=qbU h1 h2 h
 rw [qj9 _ _ hk (by omega)];rfl
def qc9 (k b:BB):BB:=(tagD k b).take 16
theorem ql2 (k b:BB):(qc9 k b).length=16:=by unfold qc9;rw [List.length_take,qeL];rfl
theorem qhP (k b:BB) (hk:k.length≤1000000) (hb:b.length≤1000000):qdQ (k,b,())=some (qc9 k b,()):=by
 unfold qdQ
 dsimp only
 rw [qpG _ _ hk hb]
 refine (qF rfl).trans ?_
 dsimp only
 have:=qeL k b
 refine (qH (by simp only [go_sem,Int.reduceToNat];omega)).trans ?_
 rfl
theorem qgH (k b:BB) (hk:k.length≤1000000) (hb:b.length≤1000000):qa6 (k,b,())=some (qc9 k b,()):=by
 unfold qa6
 dsimp only
 rw [qj9 _ _ hk hb]
 refine (qF rfl).trans ?_
 dsimp only
 have:=qeL k b
 refine (qH (by simp only [go_sem,Int.reduceToNat];omega)).trans ?_
 rfl
abbrev ET:=BB×BB×Unit
theorem qxP (p:qc0) (k b:BB):qrA (p,k,b,())=some (D ((k,b,())∈p.2.1),()):=by
 unfold qrA
 congr 2
 refine qiV ?_
 rw [List.any_eq_true]
 constructor
 ·rintro ⟨⟨e1,e2,⟨⟩⟩,he,h⟩
  simp only [band,seq,Bool.and_eq_true,beq_iff_eq] at h
  rw [h.1,h.2];exact he
 ·intro h
  exact ⟨_,h,by simp [band,seq]⟩
theorem qu0 (p:qc0) (k b:BB) (hl:p.2.1.length≤1000000):qmG (p,k,b,())=some (D ((k,b,())∈p.2.1),()):=by
 unfold qmG
 dsimp only
 generalize p.2.1=l at hl
 generalize hf:(fun (x_1:Bool×Int×Unit)=>(_:Option (LS (Bool×Int×Unit) (Bool×Unit))))=f
 have hsame:∀ (i:Nat) (h:i < l.length),nth l (nat (i:Int)) (none' UInt8,none' UInt8,())=l[i]:=fun i h=>by rw [qT,qL h]
 have key:=qb2 (f:=f) l (fun i=>(false,(i:Int),())) 0 ((true,()):Bool×Unit) (fun e=>¬ e=(k,b,())) (fun i h hp => ?_) (fun i h hp => ?_) ?_
 ·rcases key with ⟨h,hl⟩ | ⟨h,hl⟩
  ·refine (qZ (show loop f (false,0,())=_ from hl)).trans ?_
   refine (qH g62).trans ?_
   rw [D_f (fun hm=>h _ hm rfl)]
  ·refine (qZ (show loop f (false,0,())=_ from hl)).trans ?_
   rw [D_t (Classical.byContradiction fun hm=>h fun x hx e=>hm (e ▸ hx))];rfl
 ·subst hf
  have hi':i64 (iadd (i:Int) 1)=((i+1:Nat):Int):=i64n (by show (i:Int)+1=_;omega) (by omega)
  refine (qE (by simp (disch:=first | assumption | omega | (dsimp only;omega) | decide) only [go_sem,Int.reduceToNat];omega)).trans ?_
  refine (qH (by simp (disch:=first | assumption | omega | (dsimp only;omega) | decide) only [go_sem,Int.reduceToNat];omega)).trans ?_
  dsimp only
  rw [hsame i h,hi']
  generalize l[i]=e at hp
  obtain ⟨e1,e2,⟨⟩⟩:=e
  by_cases h1:e1=k
  ·have h2:¬ e2=b:=fun h2=>hp (by rw [h1,h2])
   simp (disch:=omega) only [go_sem,Int.reduceToNat,zE,h1,h2]
  ·simp (disch:=omega) only [go_sem,Int.reduceToNat,zE,h1]
 ·subst hf
  have hp':l[i]=(k,b,()):=Classical.byContradiction hp
  refine (qE (by simp (disch:=omega) only [go_sem,Int.reduceToNat];omega)).trans ?_
  refine (qH (by simp (disch:=omega) only [go_sem,Int.reduceToNat];omega)).trans ?_
  dsimp only
  rw [hsame i h,hp']
  simp (disch:=omega) only [go_sem,Int.reduceToNat,zE]
 ·subst hf
  exact qB (by simp (disch:=omega) only [go_sem,Int.reduceToNat];omega)
def ptag (p:qc0) (k b:BB):qc0:=if (k,b,())∈p.2.1 then p else (p.1,p.2.1++[(k,b,())],p.2.2)
theorem qCp {α:Type} (l:List α):sub l 0 (len l)=l:=by
 unfold sub
 rw [show (0:Int).toNat=0 from rfl,List.drop_zero,show (len l).toNat=l.length from qT,List.take_of_length_le (by omega)]
theorem qDa {α:Type} (l:List α):band (inC 0 (len l) (len l)) (beq (len l) (len l))=true:=by
 rw [qnQ rfl,g37];simp only [go_sem,Int.reduceToNat];omega
theorem qFE (l:List ET):zP (l,())=some (l,()):=by
 unfold zP
 dsimp only
 rw [qCp]
 exact qH (qDa l)
theorem qgQ (l:BB) (h:l.length≤1000000):qbR (l,())=some (l,()):=by
 unfold qbR
 exact qH (by simp only [go_sem,Int.reduceToNat];omega)
theorem qxO (p:qc0) (k b:BB) (hl:p.2.1.length≤1000000) (hk:k.length≤1000000) (hb:b.length≤1000000):qq9 (p,k,b,())=some (ptag p k b,qc9 k b,()):=by
 unfold qq9
 dsimp only
 rw [qxP]
 refine (qF rfl).trans ?_
 unfold ptag
 by_cases h:(k,b,())∈p.2.1
 ·rw [D_t h,if_pos h]
  refine (qB rfl).trans ?_
  rw [qhP _ _ hk hb];rfl
 ·rw [D_f h,if_neg h]
  refine (qE rfl).trans ?_
  rw [qFE]
  refine (qF rfl).trans ?_
  rw [qgQ _ hk]
  refine (qF rfl).trans ?_
  rw [qgQ _ hb]
  refine (qF rfl).trans ?_
  refine (qH (by simp only [go_sem,Int.reduceToNat];simp;omega)).trans ?_
  rw [qhP _ _ hk hb];rfl
theorem quZ (p:qc0) (k b:BB) (hl:p.2.1.length≤1000000) (hk:k.length≤1000000) (hb:b.length≤1000000):qmE (p,k,b,())=some (ptag p k b,qc9 k b,()):=by
 unfold qmE
 dsimp only
 rw [qu0 _ _ _ hl]
 refine (qF rfl).trans ?_
 unfold ptag
 by_cases h:(k,b,())∈p.2.1
 ·rw [D_t h,if_pos h]
  refine (qB rfl).trans ?_
  rw [qgH _ _ hk hb];rfl
 ·rw [D_f h,if_neg h]
  refine (qE rfl).trans ?_
  refine (qH (by simp only [go_sem,Int.reduceToNat];omega)).trans ?_
  refine (qH (by simp only [go_sem,Int.reduceToNat];simp;omega)).trans ?_
  rw [qgH _ _ hk hb];rfl
theorem qMd (p:qc0) (k b:BB):(ptag p k b).2.1.length≤p.2.1.length+1:=by
 unfold ptag
 split
 ·omega
 ·simp
theorem qsK (p:qc0) (hl:p.2.1.length≤1000000):qdI (p,p,())=some (true,()):=by
 unfold qdI
 dsimp only
 have e1:∀ b:Bool,beb b b=true:=fun b=>by cases b <;> rfl
 rw [e1,e1,qnQ rfl]
 refine (qF (a:=(false,())) rfl).trans ?_
 refine (qB rfl).trans ?_
 generalize p.2.1=l at hl
 generalize hf:(fun (x_1:Bool×Int×Unit)=>(_:Option (LS (Bool×Int×Unit) (Bool×Unit))))=f
 have step:∀ i:Nat,i < l.length→f (false,(i:Int),())=some (.nx (false,((i+1:Nat):Int),())):=by
  intro i hi
  subst hf
  have hi':i64 (iadd (i:Int) 1)=((i+1:Nat):Int):=i64n (by show (i:Int)+1=_;omega) (by omega)
  refine (qE (by simp (disch:=omega) only [go_sem,Int.reduceToNat];omega)).trans ?_
  dsimp only
  rw [hi']
  simp (disch:=omega) only [go_sem,Int.reduceToNat,zE]
 have hend:f (false,(l.length:Int),())=some (.ex 0 (false,(l.length:Int),())):=by subst hf;exact qB (by simp (disch:=omega) only [go_sem,Int.reduceToNat];omega)
 have hloop:=(qM (f:=f) (fun i=>(false,(i:Int),())) l.length step 0 (Nat.zero_le _)).trans (qU hend)
 refine (qZ (show loop f (false,0,())=_ from hloop)).trans ?_
 exact qH g62
def fewP (p:qc0) (most:Int):Prop:=(p.2.1.length:Int)≤most∧∀ e∈p.2.1,e.1.length≤100∧e.2.1.length≤2000
theorem qu1 (p:qc0) (most:Int) (hm:most≤1000000):qhH (p,most,())=some (D (fewP p most),()):=by
 unfold qhH fewP
 dsimp only
 generalize p.2.1=l
 by_cases h0:(l.length:Int)≤most
 ·refine (qB (by simp (disch:=first | assumption | omega | (dsimp only;omega) | decide) only [go_sem,Int.reduceToNat];omega)).trans ?_
  generalize hf:(fun (x_1:Bool×Int×Unit)=>(_:Option (LS (Bool×Int×Unit) (Bool×Unit))))=f
  have hsame:∀ (i:Nat) (h:i < l.length),nth l (nat (i:Int)) (none' UInt8,none' UInt8,())=l[i]:=fun i h=>by rw [qT,qL h]
  have key:=qb2 (f:=f) l (fun i=>(false,(i:Int),())) 0 ((false,()):Bool×Unit) (fun e=>e.1.length≤100∧e.2.1.length≤2000) (fun i h hp => ?_) (fun i h hp => ?_) ?_
  ·rcases key with ⟨h,hl⟩ | ⟨h,hl⟩
   ·refine (qZ (show loop f (false,0,())=_ from hl)).trans ?_
    refine (qH g62).trans ?_
    rw [D_t ⟨h0,h⟩]
   ·refine (qZ (show loop f (false,0,())=_ from hl)).trans ?_
    rw [D_f (fun hm=>h hm.2)];rfl
  ·subst hf
   have hi':i64 (iadd (i:Int) 1)=((i+1:Nat):Int):=i64n (by show (i:Int)+1=_;omega) (by omega)
   refine (qE (by simp (disch:=omega) only [go_sem,Int.reduceToNat];omega)).trans ?_
   dsimp only
   rw [hsame i h,hi']
   obtain ⟨p1,p2⟩:=hp
   simp (disch:=omega) only [go_sem,Int.reduceToNat]
  ·subst hf
   refine (qE (by simp (disch:=omega) only [go_sem,Int.reduceToNat];omega)).trans ?_
   dsimp only
   rw [hsame i h]
   by_cases h1:l[i].1.length≤100
   ·have h2:¬ l[i].2.1.length≤2000:=fun h2=>hp ⟨h1,h2⟩
    simp (disch:=omega) only [go_sem,Int.reduceToNat]
   ·simp (disch:=omega) only [go_sem,Int.reduceToNat]
  ·subst hf
   exact qB (by simp (disch:=omega) only [go_sem,Int.reduceToNat];omega)
 ·refine (qE (by simp (disch:=omega) only [go_sem,Int.reduceToNat];omega)).trans ?_
  rw [D_f (fun h=>h0 h.1)]
def big8 (n:Int):BB:=ps 256 byt n.toNat 8
theorem quG (n:Int):(big8 n).length=8:=zK _ _ _ _
def recD (n:Int):BB:=big8 n++(qqE ([u8 121,u8 101,u8 116,u8 116]++big8 n)).take 8
theorem qCG (n:Int):(recD n).length=16:=by unfold recD;rw [List.length_append,quG,List.length_take,xR];rfl
def qLi (n:Int):Prop:=1≤n∧n≤4611686018427387904
theorem qNh {n:Int} (h:qLi n):((1:Int)≤8∧(8:Int)≤8∧0≤n∧n < 256 ^ (8:Int).toNat):=by
 obtain ⟨h1,h2⟩:=h
 refine ⟨by omega,by omega,by omega, ?_⟩
 show n < 256 ^ 8
 omega
theorem qoG (n:Int) (hn:n≤9223372036854775807):qbZ (n,())=some (if 1≤n∧n≤4611686018427387904 then (recD n,0,()) else ([],1,())):=by
 unfold qbZ
 dsimp only
 by_cases h:1≤n∧n≤4611686018427387904
 ·rw [if_pos h]
  refine (qF (a:=(false,())) ((qB (by simp only [go_sem,Int.reduceToNat];omega)).trans (by rw [show lt 4611686018427387904 n=false from lt_f (by omega)]))).trans ?_
  refine (qB rfl).trans ?_
  rw [qcM _ _ hn,if_pos (qNh h)]
  refine (qF rfl).trans ?_
  dsimp only
  rw [show ps 256 byt n.toNat (8:Int).toNat=big8 n from rfl]
  have:=quG n
  refine (qH (by simp only [go_sem,Int.reduceToNat];simp;omega)).trans ?_
  rw [show app [u8 121,u8 101,u8 116,u8 116] (big8 n)=[u8 121,u8 101,u8 116,u8 116]++big8 n from rfl,w9 _ (by simp;omega)]
  refine (qF rfl).trans ?_
  dsimp only
  have h2:=xR ([u8 121,u8 101,u8 116,u8 116]++big8 n)
  refine (qH (by simp only [go_sem,Int.reduceToNat];omega)).trans ?_
  refine (qH (by simp only [go_sem,Int.reduceToNat];omega)).trans ?_
  rw [show cut (qqE ([u8 121,u8 101,u8 116,u8 116]++big8 n)) (nat 0) (nsub (nat 8) (nat 0))=(qqE ([u8 121,u8 101,u8 116,u8 116]++big8 n)).take 8 from rfl,show app (none' UInt8) (big8 n)=big8 n from rfl]
  refine (qH (by simp only [go_sem,Int.reduceToNat];simp;omega)).trans ?_
  rfl
 ·rw [if_neg h]
  by_cases h1:n < 1
  ·refine (qF (a:=(true,())) (qE (by simp only [go_sem,Int.reduceToNat];omega))).trans ?_
   rfl
  ·refine (qF (a:=(true,())) ((qB (by simp only [go_sem,Int.reduceToNat];omega)).trans (by rw [show lt 4611686018427387904 n=true from lt_t (by omega)]))).trans ?_
   rfl
abbrev ST:=BB×BB×Unit
def qEh (s:ST):Prop:=s.1.length=16∧s.2.1.length=16
def newS:ST:=(recD 1,List.replicate 16 (u8 0),())
theorem quU:qhF ()=some (newS,()):=by
 unfold qhF
 rw [qoG _ (by decide),if_pos (by decide)]
 rfl
theorem qqP (s:ST):qeX (s,())=some (D (qEh s),()):=by
 unfold qeX qEh
 by_cases h:s.1.length=16
 ·simp only [go_sem,Int.reduceToNat,h];exact zJ (by omega)
 ·rw [D_f (fun h'=>h h'.1)];simp (disch:=omega) only [go_sem,Int.reduceToNat];try omega
theorem qsB (s:ST):qjA (s,s,())=some (true,()):=by
 unfold qjA
 simp only [go_sem,Int.reduceToNat,zE]
theorem quV (s:ST):ql9 (s,())=some (D (s.1.length≤100∧s.2.1.length≤100),()):=by
 unfold ql9
 by_cases h:s.1.length≤100
 ·simp only [go_sem,Int.reduceToNat];exact zJ (by omega)
 ·rw [D_f (fun h'=>h h'.1)];simp (disch:=omega) only [go_sem,Int.reduceToNat];try omega
def jJ (p:Int):Prop:=2≤p∧p≤6
def qfU (p:Int):Prop:=p=3∨p=4∨p=5
instance (p:Int):Decidable (jJ p):=by unfold jJ;infer_instance
instance (p:Int):Decidable (qfU p):=by unfold qfU;infer_instance
def qCQ (p:Int):Int:=if p=0 then 0 else if p=1 then 1 else if p=2 then 2 else if p=3 then 3 else if p=4 then 4 else if p=5 then 4 else if p=6 then 5 else -1
theorem qa8 (p:Int):yT (p,())=some (qCQ p,()):=by
 unfold yT qCQ
 by_cases h0:p=0
 ·subst h0;rfl
 by_cases h1:p=1
 ·subst h1;rfl
 by_cases h2:p=2
 ·subst h2;rfl
 by_cases h3:p=3
 ·subst h3;rfl
 by_cases h4:p=4
 ·subst h4;rfl
 by_cases h5:p=5
 ·subst h5;rfl
 by_cases h6:p=6
 ·subst h6;rfl
 rw [if_neg h0,if_neg h1,if_neg h2,if_neg h3,if_neg h4,if_neg h5,if_neg h6]
 simp (disch:=omega) only [go_sem,Int.reduceToNat]
theorem qK3 (p:Int):2≤qCQ p↔jJ p:=by
 unfold qCQ jJ
 repeat' split
 all_goals omega
theorem qI6 (p:Int):qCQ p=3∨qCQ p=4↔qfU p:=by
 unfold qCQ qfU
 repeat' split
 all_goals omega
theorem qoH (p:Int):qb1 (p,())=some (D (jJ p),()):=by
 unfold qb1
 rw [qa8]
 simp only [go_sem,Int.reduceToNat,qK3]
theorem qa9 (p:Int):qaJ (p,())=some (D (qfU p),()):=by
 unfold qaJ
 rw [qa8]
 simp only [go_sem,Int.reduceToNat,qa8,qI6]
theorem vL (p:Int):vD (p,())=some (D (jJ p),()):=by
 unfold vD jJ
 simp only [go_sem,Int.reduceToNat]
theorem qaX (p:Int):qdF (p,())=some (D (qfU p),()):=by
 unfold qdF qfU
 simp only [go_sem,Int.reduceToNat]
 exact zJ or_assoc
def qvH (c s:Int) (b:BB):Prop:=kD c∧1≤s∧s≤999999∧1≤b.length∧b.length≤900
instance (c s:Int) (b:BB):Decidable (qvH c s b):=by unfold qvH;infer_instance
theorem qv2 (c:Int):qnU (c,())=some (D (kD c),()):=by
 unfold qnU kD
 by_cases h1:c=1
 ·subst h1;simp only [go_sem,Int.reduceToNat]
 by_cases h2:c=2
 ·subst h2;simp (disch:=omega) only [go_sem,Int.reduceToNat]
 by_cases h3:c=101
 ·subst h3;simp (disch:=omega) only [go_sem,Int.reduceToNat]
 by_cases h4:c=201
 ·subst h4;simp (disch:=omega) only [go_sem,Int.reduceToNat]
 simp only [go_sem,Int.reduceToNat,h1,h2,h3,h4]
theorem qzY (c s:Int) (b:BB):qrJ (c,s,b,())=some (D (qvH c s b),()):=by
 unfold qrJ qvH
 rw [qv2]
 by_cases hk:kD c
 ·simp only [go_sem,Int.reduceToNat,hk];exact zJ (by omega)
 ·rw [D_f (p:=_∧_) (fun h=>hk h.1)];simp only [go_sem,Int.reduceToNat,hk]
theorem qhD (c s:Int) (b:BB):qdD (c,s,b,())=some (D (qvH c s b),()):=by
 unfold qdD qvH
 rw [qgA]
 by_cases hk:kD c
 ·simp only [go_sem,Int.reduceToNat,hk];exact zJ (by omega)
 ·rw [D_f (p:=_∧_) (fun h=>hk h.1)];simp only [go_sem,Int.reduceToNat,hk]
def noA:TAsk:=(0,0,0,0,[],())
def qkP (c s:Int) (b:BB):TAsk×Int×Unit:=if qvH c s b then ((c,s,8,3,b,()),0,()) else (noA,1,())
theorem qv3 (c s:Int) (b:BB):qnV (c,s,b,())=some (qkP c s b):=by
 unfold qnV qkP
 rw [qzY]
 by_cases h:qvH c s b
 ·rw [D_t h,if_pos h];rfl
 ·rw [D_f h,if_neg h];rfl
theorem qqO (c s:Int) (b:BB):qeW (c,s,b,())=some (qkP c s b):=by
 unfold qeW qkP
 rw [qhD]
 by_cases h:qvH c s b
 ·rw [D_t h,if_pos h];rfl
 ·rw [D_f h,if_neg h];rfl
theorem qhE (a:TAsk):qdE (a,())=some (D (a=noA),()):=by
 obtain ⟨c,s,d,l,b,⟨⟩⟩:=a
 unfold qdE noA
 simp only [go_sem,Int.reduceToNat]
 refine zJ ?_
 simp only [Prod.mk.injEq,and_true]
 have hb:(b.length:Int)=0↔b=[]:=by rw [← List.length_eq_zero_iff];omega
 rw [hb]
 constructor
 ·rintro ⟨⟨⟨⟨h1,h2⟩,h3⟩,h4⟩,h5⟩;exact ⟨h1,h2,h3,h4,h5⟩
 ·rintro ⟨h1,h2,h3,h4,h5⟩;exact ⟨⟨⟨⟨h1,h2⟩,h3⟩,h4⟩,h5⟩
theorem qzX (a:TAsk):qrI (a,())=some (D (a=noA),()):=by
 obtain ⟨c,s,d,l,b,⟨⟩⟩:=a
 unfold qrI qz0 noA
 simp only [go_sem,Int.reduceToNat,qgP]
 refine zJ ?_
 simp only [Prod.mk.injEq,and_true]
 constructor
 ·rintro ⟨⟨⟨⟨h1,h2⟩,h3⟩,h4⟩,h5⟩;exact ⟨h1,h2,h3,h4,h5⟩
 ·rintro ⟨h1,h2,h3,h4,h5⟩;exact ⟨⟨⟨⟨h1,h2⟩,h3⟩,h4⟩,h5⟩
def qmR (a:TAsk) (c s:Int):Prop:=¬ a=noA∧a.1=c∧a.2.1=s
theorem qv1 (a:TAsk) (c s:Int):qnT (a,c,s,())=some (D (qmR a c s),()):=by
 unfold qnT qmR
 rw [qzX]
 simp only [go_sem,Int.reduceToNat]
theorem qqN (a:TAsk) (c s:Int):qeV (a,c,s,())=some (D (qmR a c s),()):=by
 unfold qeV qmR
 rw [qhE]
 simp only [go_sem,Int.reduceToNat]
def qGC (a:TAsk):Prop:=a=noA∨qvH a.1 a.2.1 a.2.2.2.2.1∧1≤a.2.2.1∧a.2.2.1≤8∧0≤a.2.2.2.1∧a.2.2.2.1≤3
theorem qqM (a:TAsk):qeU (a,())=some (D (qGC a),()):=by
 unfold qeU qGC
 rw [qhE]
 simp only [go_sem,Int.reduceToNat,qhD]
 refine zJ ?_
 simp only [and_assoc]
theorem qsA (a:TAsk):qi9 (a,a,())=some (true,()):=by
 unfold qi9
 simp only [go_sem,Int.reduceToNat,zE]
def kI (n:Int):Int:=if n < 0∨999999≤n then 1 else n+1
theorem qzZ (n:Int):qrK (n,())=some (kI n,()):=by
 unfold qrK kI
 by_cases h:n < 0∨999999≤n
 ·rw [if_pos h];simp (disch:=omega) only [go_sem,Int.reduceToNat]
 ·rw [if_neg h];simp (disch:=omega) only [go_sem,Int.reduceToNat]
theorem qr9 (n:Int):qi8 (n,())=some (kI n,()):=by
 unfold qi8 kI
 by_cases h:n < 0∨999999≤n
 ·rw [if_pos h];simp (disch:=omega) only [go_sem,Int.reduceToNat]
 ·rw [if_neg h];simp (disch:=omega) only [go_sem,Int.reduceToNat]
def qMe (u:List Bool) (n:Nat):Option Nat:=((List.range 4).map fun i=>(n+i) % 4).find? fun c=>u.getD c false
def wN (h:THub):THub×Int×Int×Unit:=match qMe h.1 h.2.2.2.1.toNat with | none=>(h,0,11,()) | some c=>((h.1,h.2.1,h.2.2.1,(((c+1) % 4:Nat):Int),()),(c:Int),0,())
theorem four {α:Type} {w:List α} (h:w.length=4):∃ a b c d,w=[a,b,c,d]:=by
 match w,h with
 | [a,b,c,d],_=>exact ⟨a,b,c,d,rfl⟩
theorem qyA (h:THub) (hu:h.1.length=4) (hn:0≤h.2.2.2.1∧h.2.2.2.1 < 4):qrG (h,())=some (wN h):=by
 obtain ⟨u,f,l,n,⟨⟩⟩:=h
 dsimp only at hu hn
 obtain ⟨a,b,c,d,rfl⟩:=four hu
 have:n=0∨n=1∨n=2∨n=3:=by omega
 unfold qrG
 rcases this with rfl | rfl | rfl | rfl <;> cases a <;> cases b <;> cases c <;> cases d <;> (refine (qZ (qfI 5 rfl)).trans ?_;kernel_rfl)
theorem qsD (h:THub) (hu:h.1.length=4) (hn:0≤h.2.2.2.1∧h.2.2.2.1 < 4):qjD (h,())=some (wN h):=by
 obtain ⟨u,f,l,n,⟨⟩⟩:=h
 dsimp only at hu hn
 obtain ⟨a,b,c,d,rfl⟩:=four hu
 have:n=0∨n=1∨n=2∨n=3:=by omega
 unfold qjD qsE
 rcases this with rfl | rfl | rfl | rfl <;> cases a <;> cases b <;> cases c <;> cases d <;> first | (refine (qF (a:=(false,())) rfl).trans ?_;refine (qE rfl).trans ?_;kernel_rfl) | (refine (qF (a:=(true,())) rfl).trans ?_;refine (qB rfl).trans ?_;refine (qZ (qfI 5 rfl)).trans ?_;kernel_rfl)
theorem qtC (b:BB) (h:1≤b.length∧b.length≤1024):qjU (b,())=some (qoI b,0,()):=by
 unfold qjU
 refine (qF (a:=(false,())) ((qB (by simp only [go_sem,Int.reduceToNat];omega)).trans (by rw [show lt 1024 (len b)=false from lt_f (by simp only [go_sem,Int.reduceToNat];omega)]))).trans ?_
 refine (qB rfl).trans ?_
 refine (qH (by simp only [go_sem,Int.reduceToNat];simp;omega)).trans ?_
 rfl
theorem qsF (b:BB) (h:1≤b.length∧b.length≤1024):qjE (b,())=some (qoI b,0,()):=by
 unfold qjE
 refine (qF (a:=(false,())) ((qB (by simp only [go_sem,Int.reduceToNat];omega)).trans (by rw [show lt 1024 (len b)=false from lt_f (by simp only [go_sem,Int.reduceToNat];omega)]))).trans ?_
 refine (qB rfl).trans ?_
 refine (qH (by simp only [go_sem,Int.reduceToNat];simp;omega)).trans ?_
 have q1:u8 (i64 (idiv (len b) 256))=u8 (shrI .i64 (len b) (n64 (u64 8))):=by
  have a1:idiv (len b) 256=((b.length / 256:Nat):Int):=by rw [g31 (by simp only [go_sem,Int.reduceToNat];omega)];simp only [go_sem,Int.reduceToNat];omega
  have a2:shrI .i64 (len b) (n64 (u64 8))=((b.length / 256:Nat):Int):=by show Int.fdiv (b.length:Int) (2 ^ 8)=_;rw [Int.fdiv_eq_ediv_of_nonneg _ (by decide)];omega
  rw [a1,a2,i64n rfl (by omega)]
 have q2:u8 (imod (len b) 256)=u8 (len b):=by
  rw [g32 (by simp only [go_sem,Int.reduceToNat];omega)];exact qAe (by simp only [go_sem,Int.reduceToNat];omega)
 dsimp only
 rw [q1,q2];rfl
abbrev GT:=Int×BB×Unit
def noG:GT:=(0,[],())
def noR:qeF:=(noG,noG,noG,0,0,())
theorem qNa (g:GT):(g.1=0∧(g.2.1.length:Int)=0)↔g=noG:=by
 obtain ⟨n,k,⟨⟩⟩:=g
 unfold noG
 have hb:(k.length:Int)=0↔k=[]:=by rw [← List.length_eq_zero_iff];omega
 simp only [Prod.mk.injEq,and_true,hb]
theorem qa1 (g:GT):v9 (g,())=some (D (g=noG),()):=by
 unfold v9
 simp only [go_sem,Int.reduceToNat]
 exact zJ (qNa g)
def qdM (g:GT):Prop:=1≤g.1∧g.1≤2147483647∧g.2.1.length=32
instance (g:GT):Decidable (qdM g):=by unfold qdM;infer_instance
theorem qa0 (g:GT):qaH (g,())=some (D (qdM g),()):=by
 unfold qaH qdM
 simp only [go_sem,Int.reduceToNat]
 exact zJ (by omega)
theorem qM9 (r:qeF):(r.1=noG∧r.2.1=noG∧r.2.2.1=noG∧r.2.2.2.1=0∧r.2.2.2.2.1=0)↔r=noR:=by
 obtain ⟨a,b,c,l,t,⟨⟩⟩:=r
 unfold noR
 simp only [Prod.mk.injEq,and_true]
theorem qgD (r:qeF):qa2 (r,())=some (D (r=noR),()):=by
 unfold qa2
 simp only [go_sem,Int.reduceToNat,qa1]
 refine zJ (Iff.trans ?_ (qM9 r))
 simp only [and_assoc]
def newR (k:BB):qeF×Int×Unit:=if k.length=32 then (((1,k,()),noG,noG,0,1,()),0,()) else (noR,1,())
theorem quW (k:BB):qmA (k,())=some (newR k):=by
 unfold qmA newR
 by_cases h:k.length=32
 ·rw [if_pos h];simp (disch:=omega) only [go_sem,Int.reduceToNat];rfl
 ·rw [if_neg h];simp (disch:=omega) only [go_sem,Int.reduceToNat];rfl
def qpA (r:qeF):Prop:=r=noR∨(qdM r.1∧r.2.2.2.2.1≤2147483647∧r.1.1≤r.2.2.2.2.1∧r.2.2.1.1≤r.2.2.2.2.1 ∧
 (r.2.1=noG∧r.2.2.2.1=0∨¬ r.2.1=noG∧qdM r.2.1∧r.2.1.1 < r.1.1∧1≤r.2.2.2.1∧r.2.2.2.1≤16)∧(r.2.2.1=noG∨qdM r.2.2.1∧r.1.1 < r.2.2.1.1))
theorem qqS (r:qeF):qe0 (r,())=some (D (qpA r),()):=by
 unfold qe0 qpA
 dsimp only
 rw [qgD]
 refine (qF rfl).trans ?_
 by_cases h0:r=noR
 ·rw [D_t h0,D_t (.inl h0)];rfl
 ·rw [D_f h0]
  refine (qB rfl).trans ?_
  rw [qa0]
  refine (qF rfl).trans ?_
  by_cases h1:qdM r.1∧r.2.2.2.2.1≤2147483647∧r.1.1≤r.2.2.2.2.1∧r.2.2.1.1≤r.2.2.2.2.1
  ·obtain ⟨a1,a2,a3,a4⟩:=h1
   refine (qF (a:=(false,())) (by simp (disch:=first | assumption | omega | (dsimp only;omega) | decide) only [go_sem,Int.reduceToNat,a1];try exact yN (by omega))).trans ?_
   refine (qB rfl).trans ?_
   rw [qa1,qa0,qa1,qa0]
   refine (qF rfl).trans ?_
   refine (qF rfl).trans ?_
   refine (qF rfl).trans ?_
   refine (qF rfl).trans ?_
   dsimp only
   by_cases h2:r.2.1=noG
   ·by_cases h3:r.2.2.2.1=0
    ·simp (disch:=first | assumption | omega | (dsimp only;omega) | decide) only [go_sem,Int.reduceToNat,h2,h3,a1,a2,a3,a4,h0]
    ·have:¬ (r=noR∨(qdM r.1∧r.2.2.2.2.1≤2147483647∧r.1.1≤r.2.2.2.2.1∧r.2.2.1.1≤r.2.2.2.2.1∧(r.2.1=noG∧r.2.2.2.1=0∨¬ r.2.1=noG∧qdM r.2.1∧r.2.1.1 < r.1.1∧1≤r.2.2.2.1∧r.2.2.2.1≤16)∧(r.2.2.1=noG∨qdM r.2.2.1∧r.1.1 < r.2.2.1.1))):=by
      rintro (h | ⟨_,_,_,_,h | h,_⟩)
      ·exact h0 h
      ·exact h3 h.2
      ·exact h.1 h2
     rw [D_f this]
     simp (disch:=first | assumption | omega | (dsimp only;omega) | decide) only [go_sem,Int.reduceToNat,h2,h3]
   ·by_cases h3:qdM r.2.1∧r.2.1.1 < r.1.1∧1≤r.2.2.2.1∧r.2.2.2.1≤16
    ·obtain ⟨b1,b2,b3,b4⟩:=h3
     simp (disch:=omega) only [go_sem,Int.reduceToNat,h2,b1,b2,b3,b4,a1,a2,a3,a4,h0]
    ·have:¬ (r=noR∨(qdM r.1∧r.2.2.2.2.1≤2147483647∧r.1.1≤r.2.2.2.2.1∧r.2.2.1.1≤r.2.2.2.2.1∧(r.2.1=noG∧r.2.2.2.1=0∨¬ r.2.1=noG∧qdM r.2.1∧r.2.1.1 < r.1.1∧1≤r.2.2.2.1∧r.2.2.2.1≤16)∧(r.2.2.1=noG∨qdM r.2.2.1∧r.1.1 < r.2.2.1.1))):=by
      rintro (h | ⟨_,_,_,_,h | h,_⟩)
      ·exact h0 h
      ·exact h2 h.1
      ·exact h3 h.2
     rw [D_f this]
     by_cases c1:qdM r.2.1
     ·have c2:¬ (r.2.1.1 < r.1.1∧1≤r.2.2.2.1∧r.2.2.2.1≤16):=fun h=>h3 ⟨c1,h⟩
      refine (qF (a:=(true,())) (by simp (disch:=omega) only [go_sem,Int.reduceToNat,h2,c1];try exact qbV (by omega))).trans ?_
      rfl
     ·simp (disch:=omega) only [go_sem,Int.reduceToNat,h2,c1]
  ·have:¬ (r=noR∨(qdM r.1∧r.2.2.2.2.1≤2147483647∧r.1.1≤r.2.2.2.2.1∧r.2.2.1.1≤r.2.2.2.2.1∧(r.2.1=noG∧r.2.2.2.1=0∨¬ r.2.1=noG∧qdM r.2.1∧r.2.1.1 < r.1.1∧1≤r.2.2.2.1∧r.2.2.2.1≤16)∧(r.2.2.1=noG∨qdM r.2.2.1∧r.1.1 < r.2.2.1.1))):=by
    rintro (h | ⟨b1,b2,b3,b4,_⟩)
    ·exact h0 h
    ·exact h1 ⟨b1,b2,b3,b4⟩
   rw [D_f this]
   by_cases c1:qdM r.1
   ·have c2:¬ (r.2.2.2.2.1≤2147483647∧r.1.1≤r.2.2.2.2.1∧r.2.2.1.1≤r.2.2.2.2.1):=fun h=>h1 ⟨c1,h⟩
    refine (qF (a:=(true,())) (by simp (disch:=omega) only [go_sem,Int.reduceToNat,c1];try exact qbV (by omega))).trans ?_
    rfl
   ·simp (disch:=omega) only [go_sem,Int.reduceToNat,c1]
theorem qsC (r:qeF):qjB (r,r,())=some (true,()):=by
 unfold qjB kN
 simp only [go_sem,Int.reduceToNat,zE]
def fewR (r:qeF):Prop:=r.1.2.1.length≤100∧r.2.1.2.1.length≤100∧r.2.2.1.2.1.length≤100
theorem quX (r:qeF):qmB (r,())=some (D (fewR r),()):=by
 unfold qmB fewR
 simp only [go_sem,Int.reduceToNat]
 exact zJ (by omega)
def z2 (n:Int):Prop:=0≤n∧n≤4611686018427387904
instance (n:Int):Decidable (z2 n):=by unfold z2;infer_instance
def e0 (v:TEnv):Int:=nth v.2.2.1 0 0
def e1 (v:TEnv):Int:=nth v.2.2.1 1 0
def qdS (v:TEnv):Prop:=(v.1=1∨v.1=2)∧z2 (e0 v)∧z2 (e1 v)∧z2 v.2.2.2.2.1∧(v.2.1=0∨v.2.1=1)∧(0≤v.2.2.2.1∧v.2.2.2.1≤2147483647)∧1≤v.2.2.2.2.2.1.length∧v.2.2.2.2.2.1.length≤900
theorem qbO (n hi:Int):qaM (n,hi,())=some (D (0≤n∧n≤hi),()):=by
 unfold qaM
 simp only [go_sem,Int.reduceToNat]
theorem yQ (n:Int):v8 (n,())=some (D (z2 n),()):=by
 unfold v8 z2
 simp only [go_sem,Int.reduceToNat]
theorem qkG (v:TEnv):qiD (v,())=some (D (qdS v),()):=by
 obtain ⟨k,d,e,g,s,b,t,⟨⟩⟩:=v
 unfold qiD qdS e0 e1
 dsimp only
 by_cases hk:k=1∨k=2
 ·refine (qF (a:=(false,())) (by rcases hk with rfl | rfl <;> rfl)).trans ?_
  refine (qB rfl).trans ((qH rfl).trans ((qH rfl).trans ?_))
  rw [show nat 0=0 from rfl,show nat 1=1 from rfl]
  generalize nth e 0 0=x
  generalize nth e 1 0=y
  generalize hf:(fun (x_1:Bool×Int×Unit)=>(_:Option (LS (Bool×Int×Unit) (Bool×Unit))))=f
  have key:=qb2 (f:=f) [x,y,s] (fun i=>(false,(i:Int),())) 0 ((false,()):Bool×Unit) z2 (fun i h hp => ?_) (fun i h hp => ?_) ?_
  ·rcases key with ⟨h,hl⟩ | ⟨h,hl⟩
   ·refine (qZ (show loop f (false,0,())=_ from hl)).trans ?_
    refine (qH g62).trans ?_
    have h1:=h x (by simp)
    have h2:=h y (by simp)
    have h3:=h s (by simp)
    simp only [go_sem,Int.reduceToNat,qbO]
    refine zJ ?_
    simp only [hk,h1,h2,h3,true_and]
    omega
   ·refine (qZ (show loop f (false,0,())=_ from hl)).trans ?_
    rw [D_f (fun hc=>h fun z hz => ?_)]
    ·rfl
    ·simp only [List.mem_cons,List.not_mem_nil,or_false] at hz
     rcases hz with rfl | rfl | rfl
     ·exact hc.2.1
     ·exact hc.2.2.1
     ·exact hc.2.2.2.1
  ·subst hf
   have h3:i < 3:=h
   have hi':i64 (iadd (i:Int) 1)=((i+1:Nat):Int):=i64n (by show (i:Int)+1=_;omega) (by omega)
   refine (qE (by simp only [go_sem,Int.reduceToNat];omega)).trans ?_
   refine (qH (by simp only [go_sem,Int.reduceToNat];omega)).trans ?_
   dsimp only
   rw [hi',qT,qL h,qbO,D_t (show 0≤[x,y,s][i]∧[x,y,s][i]≤4611686018427387904 from hp)];rfl
  ·subst hf
   have h3:i < 3:=h
   refine (qE (by simp only [go_sem,Int.reduceToNat];omega)).trans ?_
   refine (qH (by simp only [go_sem,Int.reduceToNat];omega)).trans ?_
   dsimp only
   rw [qT,qL h,qbO,D_f (show ¬ (0≤[x,y,s][i]∧[x,y,s][i]≤4611686018427387904) from hp)];rfl
  ·subst hf
   exact qB rfl
 ·rw [D_f (fun h=>hk h.1)]
  simp only [not_or] at hk
  obtain ⟨h1,h2⟩:=hk
  refine (qF (a:=(true,())) (by simp only [go_sem,Int.reduceToNat,h1,h2])).trans ?_
  rfl
theorem qgB (v:TEnv):qaY (v,())=some (D (qdS v),()):=by
 obtain ⟨k,d,e,g,s,b,t,⟨⟩⟩:=v
 unfold qaY qdS e0 e1
 dsimp only
 refine (qH rfl).trans ?_
 rw [yQ]
 refine (qF rfl).trans ?_
 refine (qH rfl).trans ?_
 rw [yQ]
 refine (qF rfl).trans ?_
 rw [yQ]
 refine (qF rfl).trans ?_
 dsimp only
 rw [show nat 0=0 from rfl,show nat 1=1 from rfl]
 by_cases h1:z2 (nth e 0 0)∧z2 (nth e 1 0)∧z2 s
 ·obtain ⟨a1,a2,a3⟩:=h1
  rw [D_t a1,D_t a2,D_t a3]
  by_cases hk:k=1
  ·subst hk
   by_cases hd:d=0
   ·subst hd
    simp only [go_sem,Int.reduceToNat];refine zJ ?_;simp only [a1,a2,a3,true_and];omega
   ·by_cases hd':d=1
    ·subst hd'
     simp only [go_sem,Int.reduceToNat];refine zJ ?_;simp only [a1,a2,a3,true_and];omega
    ·rw [D_f (p:=_∧_) (fun h=>by have:=h.2.2.2.2.1;omega)];simp (disch:=omega) only [go_sem,Int.reduceToNat]
  ·by_cases hk':k=2
   ·subst hk'
    by_cases hd:d=0
    ·subst hd
     simp only [go_sem,Int.reduceToNat];refine zJ ?_;simp only [a1,a2,a3,true_and];omega
    ·by_cases hd':d=1
     ·subst hd'
      simp only [go_sem,Int.reduceToNat];refine zJ ?_;simp only [a1,a2,a3,true_and];omega
     ·rw [D_f (p:=_∧_) (fun h=>by have:=h.2.2.2.2.1;omega)];simp (disch:=omega) only [go_sem,Int.reduceToNat]
   ·rw [D_f (p:=_∧_) (fun h=>by have:=h.1;omega)];simp (disch:=omega) only [go_sem,Int.reduceToNat]
 ·rw [D_f (p:=(k=1∨k=2)∧_) (fun h=>h1 ⟨h.2.1,h.2.2.1,h.2.2.2.1⟩)]
  by_cases c1:z2 (nth e 0 0)
  ·by_cases c2:z2 (nth e 1 0)
   ·have c3:¬ z2 s:=fun h=>h1 ⟨c1,c2,h⟩
    rw [D_t c1,D_t c2,D_f c3];rfl
   ·rw [D_t c1,D_f c2];rfl
  ·rw [D_f c1];rfl
def bigN (w:Nat) (n:Int):BB:=ps 256 byt n.toNat w
theorem zG (w:Nat) (n:Int):(bigN w n).length=w:=zK _ _ _ _
def xA (v:TEnv):BB:=bigN 1 v.1++bigN 1 v.2.1++bigN 8 (e0 v)++bigN 8 (e1 v)++bigN 4 v.2.2.2.1++bigN 8 v.2.2.2.2.1++v.2.2.2.2.2.1
theorem qaC (v:TEnv):(xA v).length=30+v.2.2.2.2.2.1.length:=by unfold xA;simp only [List.length_append,zG]
theorem qJt {n:Int} {w:Nat} (h1:1≤w) (h8:w≤8) (h0:0≤n) (h:n < 256 ^ w) (hn:n≤9223372036854775807):qfX (n,(w:Int),())=some (bigN w n,0,()):=by
 rw [qBt _ _ hn,if_pos ⟨by omega,by omega,h0,by rw [Int.toNat_natCast];exact h⟩,Int.toNat_natCast];rfl
theorem qdN {n:Int} {w:Nat} (h1:1≤w) (h8:w≤8) (h0:0≤n) (h:n < 256 ^ w) (hn:n≤9223372036854775807):jS (n,(w:Int),())=some (bigN w n,()):=by
 unfold jS
 dsimp only
 rw [qcM _ _ hn,if_pos ⟨by omega,by omega,h0,by rw [Int.toNat_natCast];exact h⟩,Int.toNat_natCast];rfl
theorem qrE {f:Int×BB×Unit→Option (LS (Int×BB×Unit) Unit)} (w:Nat) (l:List Int) (acc:BB) (h1:1≤w) (h8:w≤8) (hl:l.length≤10) (ha:acc.length≤1000) (h:∀ n∈l,0≤n∧n < 256 ^ w∧n≤9223372036854775807)
  (hf:f=fun (x_1:Int×BB×Unit)=>sel (lt x_1.1 (len l)) (ck (inB x_1.1 (len l)) (ob (qfX (nth l (nat x_1.1) 0,(w:Int),())) fun (a:BB×Int×Unit)=>ck (rm 1 (nadd (ln x_1.2.1) (ln a.1))) (some (LS.nx (i64 (iadd x_1.1 1),app x_1.2.1 a.1,()))))) (some (LS.ex 0 (x_1.1,x_1.2.1,())))) :
  loop f (0,acc,())=some (.ex 0 ((l.length:Int),acc++l.flatMap (bigN w),())):=by
 have hL:∀ i,((l.take i).flatMap (bigN w)).length≤8*i:=by
  intro i
  rw [List.length_flatMap]
  have:((l.take i).map fun a=>(bigN w a).length)=(l.take i).map fun _=>w:=List.map_congr_left fun a _=>zG w a
  rw [this,List.map_const',List.sum_replicate_nat,List.length_take]
  have:min i l.length*w≤i*8:=Nat.mul_le_mul (Nat.min_le_left _ _) h8
  omega
 have step:∀ i:Nat,i < l.length→f ((i:Int),acc++(l.take i).flatMap (bigN w),())=some (.nx (((i+1:Nat):Int),acc++(l.take (i+1)).flatMap (bigN w),())):=by
  intro i hi
  subst hf
  have hi':i64 (iadd (i:Int) 1)=((i+1:Nat):Int):=i64n (by show (i:Int)+1=_;omega) (by omega)
  obtain ⟨q1,q2,q3⟩:=h l[i] (List.getElem_mem hi)
  have hLi:=hL i
  refine (qE (by simp only [go_sem,Int.reduceToNat];omega)).trans ?_
  refine (qH (by simp only [go_sem,Int.reduceToNat];omega)).trans ?_
  dsimp only
  rw [hi',qT,qL hi,qJt h1 h8 q1 q2 q3]
  refine (qF rfl).trans ?_
  have hb:=zG w l[i]
  refine (qH (by simp only [go_sem,Int.reduceToNat];simp only [List.length_append,zG];omega)).trans ?_
  rw [List.take_succ_eq_append_getElem hi,List.flatMap_append,List.flatMap_cons,List.flatMap_nil,List.append_nil]
  unfold app
  rw [List.append_assoc]
 have hend:∀ u,f ((l.length:Int),u,())=some (.ex 0 ((l.length:Int),u,())):=by subst hf;intro u;exact qB (by simp only [go_sem,Int.reduceToNat];omega)
 have:=(qM (f:=f) (fun i=>((i:Int),acc++(l.take i).flatMap (bigN w),())) l.length step 0 (Nat.zero_le _)).trans (qU (hend _))
 rw [List.take_of_length_le (Nat.le_refl _),List.take_zero,List.flatMap_nil,List.append_nil] at this
 exact this
theorem qkH (v:TEnv) (hv:qdS v):qiE (v,())=some (xA v,0,()):=by
 unfold qiE
 dsimp only
 rw [qkG,D_t hv]
 refine (qF rfl).trans ?_
 refine (qB rfl).trans ?_
 obtain ⟨k,d,e,g,s,b,t,⟨⟩⟩:=v
 unfold xA
 obtain ⟨h1,h2,h3,h4,h5,h6,h7,h8⟩:=hv
 unfold e0 z2 at h2
 unfold e1 z2 at h3
 unfold z2 at h4
 unfold e0 e1
 dsimp only at *
 rw [show nat 0=0 from rfl,show nat 1=1 from rfl]
 generalize nth e 0 0=x at h2
 generalize nth e 1 0=y at h3
 refine (qZ (qrE 1 [k,d] [] (by omega) (by omega) (by simp) (by simp) (fun n hn => ?_) rfl)).trans ?_
 ·simp only [List.mem_cons,List.not_mem_nil,or_false] at hn
  rcases hn with rfl | rfl <;> omega
 refine (qH g62).trans ((qH rfl).trans ((qH rfl).trans ?_))
 refine (qZ (qrE 8 [x,y] _ (by omega) (by omega) (by simp) (by simp [zG]) (fun n hn => ?_) rfl)).trans ?_
 ·simp only [List.mem_cons,List.not_mem_nil,or_false] at hn
  rcases hn with rfl | rfl <;> omega
 refine (qH g62).trans ?_
 refine (qZ (qrE 4 [g] _ (by omega) (by omega) (by simp) (by simp [zG]) (fun n hn => ?_) rfl)).trans ?_
 ·simp only [List.mem_cons,List.not_mem_nil,or_false] at hn
  subst hn;omega
 refine (qH g62).trans ?_
 refine (qZ (qrE 8 [s] _ (by omega) (by omega) (by simp) (by simp [zG]) (fun n hn => ?_) rfl)).trans ?_
 ·simp only [List.mem_cons,List.not_mem_nil,or_false] at hn
  subst hn;omega
 refine (qH g62).trans ?_
 dsimp only
 refine (qH (by simp only [go_sem,Int.reduceToNat];simp [zG];omega)).trans ?_
 unfold app
 simp only [List.flatMap_cons,List.flatMap_nil,List.append_nil,List.nil_append,List.append_assoc]
theorem qgC (v:TEnv) (hv:qdS v):qaZ (v,())=some (xA v,0,()):=by
 unfold qaZ
 dsimp only
 rw [qgB,D_t hv]
 refine (qF rfl).trans ?_
 refine (qB rfl).trans ?_
 obtain ⟨k,d,e,g,s,b,t,⟨⟩⟩:=v
 unfold xA
 obtain ⟨h1,h2,h3,h4,h5,h6,h7,h8⟩:=hv
 unfold e0 z2 at h2
 unfold e1 z2 at h3
 unfold z2 at h4
 unfold e0 e1
 dsimp only at *
 rw [show nat 0=0 from rfl,show nat 1=1 from rfl]
 generalize nth e 0 0=x at h2
 generalize nth e 1 0=y at h3
 rw [show jS (k,1,())=_ from qdN (w:=1) (by omega) (by omega) (by omega) (by omega) (by omega)]
 refine (qF rfl).trans ?_
 rw [show jS (d,1,())=_ from qdN (w:=1) (by omega) (by omega) (by omega) (by omega) (by omega)]
 refine (qF rfl).trans ?_
 have l1:=zG 1 k
 have l2:=zG 1 d
 refine (qH (by simp only [go_sem,Int.reduceToNat];omega)).trans ?_
 refine (qH rfl).trans ?_
 rw [show jS (x,8,())=_ from qdN (w:=8) (by omega) (by omega) (by omega) (by omega) (by omega)]
 refine (qF rfl).trans ?_
 refine (qH (by simp only [go_sem,Int.reduceToNat];simp [zG])).trans ?_
 refine (qH rfl).trans ?_
 rw [show jS (y,8,())=_ from qdN (w:=8) (by omega) (by omega) (by omega) (by omega) (by omega)]
 refine (qF rfl).trans ?_
 refine (qH (by simp only [go_sem,Int.reduceToNat];simp [zG])).trans ?_
 rw [show jS (g,4,())=_ from qdN (w:=4) (by omega) (by omega) (by omega) (by omega) (by omega)]
 refine (qF rfl).trans ?_
 refine (qH (by simp only [go_sem,Int.reduceToNat];simp [zG])).trans ?_
 rw [show jS (s,8,())=_ from qdN (w:=8) (by omega) (by omega) (by omega) (by omega) (by omega)]
 refine (qF rfl).trans ?_
 refine (qH (by simp only [go_sem,Int.reduceToNat];simp [zG])).trans ?_
 refine (qH (by simp only [go_sem,Int.reduceToNat];simp [zG];omega)).trans ?_
 rfl
def qo9 (v:TEnv):Prop:=qdS v∧v.2.2.2.2.2.2.1.length=16
theorem qvJ (v:TEnv):qm8 (v,())=some (D (qo9 v),()):=by
 unfold qm8 qo9
 rw [qkG]
 simp only [go_sem,Int.reduceToNat]
 exact zJ (and_congr_right fun _=>by omega)
theorem qqR (v:TEnv):qeZ (v,())=some (D (qo9 v),()):=by
 unfold qeZ qo9
 rw [qgB]
 simp only [go_sem,Int.reduceToNat]
 exact zJ (and_congr_right fun _=>by omega)
theorem qvI (v:TEnv) (hv:qo9 v):qm7 (v,())=some (xA v++v.2.2.2.2.2.2.1,0,()):=by
 unfold qm7
 dsimp only
 rw [qvJ,D_t hv]
 refine (qF rfl).trans ?_
 refine (qB rfl).trans ?_
 rw [qkH _ hv.1]
 refine (qF rfl).trans ?_
 have h1:=qaC v
 have h2:=hv.2
 have h3:=hv.1.2.2.2.2.2.2.2
 refine (qH (by simp only [go_sem,Int.reduceToNat];omega)).trans ?_
 rfl
theorem qqQ (v:TEnv) (hv:qo9 v):qeY (v,())=some (xA v++v.2.2.2.2.2.2.1,0,()):=by
 unfold qeY
 dsimp only
 rw [qqR,D_t hv]
 refine (qF rfl).trans ?_
 refine (qB rfl).trans ?_
 rw [qgC _ hv.1]
 refine (qF rfl).trans ?_
 have h1:=qaC v
 have h2:=hv.2
 have h3:=hv.1.2.2.2.2.2.2.2
 refine (qH (by simp only [go_sem,Int.reduceToNat];omega)).trans ?_
 rfl
abbrev WT:=Int×List UInt64×Unit
abbrev qLF:=Int×BB×Unit
abbrev EvT:=Int×List Int×Int×BB×Unit
structure En' where
 id:Int
 key:BB
 ph:Int
 store:ST
 power:Int
 own:Int
 oth:Int
 seen:Int
 seq:Int
 win:WT
 ring:qeF
 ask:TAsk
 stan:Int
 day:Int
 queue:List BB
 hub:THub
 out:List qLF
 got:List EvT
 cnt:List Int
def En'.t (e:En'):TEnd:=(e.id,e.key,e.ph,e.store,e.power,e.own,e.oth,e.seen,e.seq,e.win,e.ring,e.ask,e.stan,e.day,e.queue,e.hub,e.out,e.got,e.cnt,())
structure Si where
 e:En'
 p:qc0
def Si.t (s:Si):vR:=(s.e.t,s.p,())
def toEn (x:TEnd):En':=⟨x.1,x.2.1,x.2.2.1,x.2.2.2.1,x.2.2.2.2.1,x.2.2.2.2.2.1,x.2.2.2.2.2.2.1,x.2.2.2.2.2.2.2.1,x.2.2.2.2.2.2.2.2.1,x.2.2.2.2.2.2.2.2.2.1,x.2.2.2.2.2.2.2.2.2.2.1,x.2.2.2.2.2.2.2.2.2.2.2.1,x.2.2.2.2.2.2.2.2.2.2.2.2.1,
 x.2.2.2.2.2.2.2.2.2.2.2.2.2.1,x.2.2.2.2.2.2.2.2.2.2.2.2.2.2.1,x.2.2.2.2.2.2.2.2.2.2.2.2.2.2.2.1,x.2.2.2.2.2.2.2.2.2.2.2.2.2.2.2.2.1,x.2.2.2.2.2.2.2.2.2.2.2.2.2.2.2.2.2.1,x.2.2.2.2.2.2.2.2.2.2.2.2.2.2.2.2.2.2.1⟩
theorem qL2 (x:vR):∃ s:Si,x=s.t:=⟨⟨toEn x.1,x.2.1⟩,rfl⟩
def noW:WT:=(0,[u64 0,u64 0,u64 0,u64 0,u64 0,u64 0,u64 0,u64 0,u64 0,u64 0,u64 0,u64 0,u64 0,u64 0,u64 0,u64 0],())
structure okE (n:Nat) (e:En'):Prop where
 id:e.id=0∨e.id=1
 key:e.key.length≤1000
 ph:0≤e.ph∧e.ph≤8
 store:qEh e.store
 own:z2 e.own
 oth:z2 e.oth
 seq:z2 e.seq
 ring:qpA e.ring
 up:e.hub.1.length=4
 next:0≤e.hub.2.2.2.1∧e.hub.2.2.2.1 < 4
 out:e.out.length≤n
 got:e.got.length≤n
 cnt:e.cnt.length=4
 win:e.win.2.1.length=16
 feed:e.hub.2.1.length=4
 life:e.hub.2.2.1.length=4
 queue:e.queue.length≤1000
structure okS (n:Nat) (s:Si):Prop where
 e:okE n s.e
 p:s.p.2.1.length≤n
def qk2 (e:En'):List Int:=if e.id=0 then [e.own,e.oth] else if e.id=1 then [e.oth,e.own] else [0,0]
theorem qd0 (hi n:Int):qbH (hi,[n],())=some (D (0≤n∧n≤hi),()):=by
 unfold qbH
 dsimp only
 by_cases h:0≤n∧n≤hi
 ·rw [D_t h]
  refine (qZ (v5 (y:=(false,1,())) ?_)).trans ((qZ (qU (y:=(false,1,())) (k:=0) rfl)).trans rfl)
  refine (qE rfl).trans ((qH rfl).trans ?_)
  dsimp only
  rw [show nth [n] (nat 0) 0=n from rfl]
  simp (disch:=omega) only [go_sem,Int.reduceToNat]
  rfl
 ·rw [D_f h]
  refine (qZ (qfH (r:=(false,())) ?_)).trans rfl
  refine (qE rfl).trans ((qH rfl).trans ?_)
  dsimp only
  rw [show nth [n] (nat 0) 0=n from rfl]
  refine (qF (a:=(true,())) (by simp only [go_sem,Int.reduceToNat];try exact qbV (by omega))).trans ?_
  rfl
theorem qcQ (e:En'):kX (e.t,())=some (qk2 e,()):=by
 unfold kX qk2
 dsimp only [En'.t]
 rw [qd0]
 by_cases h0:e.id=0
 ·rw [h0,D_t (by omega),if_pos rfl];rfl
 ·rw [if_neg h0]
  by_cases h1:e.id=1
  ·rw [h1,D_t (by omega),if_pos rfl];rfl
  ·rw [if_neg h1,D_f (by omega)];rfl
theorem qg7 (e:En'):qaG (e.t,())=some (qk2 e,()):=by
 unfold qaG qk2
 dsimp only [En'.t]
 by_cases h0:e.id=0
 ·rw [h0,if_pos rfl];rfl
 ·rw [if_neg h0]
  by_cases h1:e.id=1
  ·rw [h1,if_pos rfl];rfl
  ·rw [if_neg h1];simp (disch:=omega) only [go_sem,Int.reduceToNat]
def qFV (key:BB):BB:=qtL key [98,97,115,101] []
theorem qqA (key:BB):(qFV key).length=32:=qkJ _ _ _
theorem qvB (key:BB) (h:key.length≤1000000):qhZ (key,())=some (qFV key,()):=by
 unfold qhZ
 dsimp only
 rw [qs0 _ _ _ h (by decide) (by decide) (by simp [none'])];rfl
theorem qhA (key:BB) (h:key.length≤1000000):yO (key,())=some (qFV key,()):=by
 unfold yO
 dsimp only
 rw [qdJ _ _ _ h (by decide) (by decide) (by simp [none'])];rfl
def keyD (key:BB) (p:List Int) (gen:Int) (nonce:BB):BB :=
 if z2 (nth p 0 0)∧z2 (nth p 1 0)∧0≤gen∧gen≤2147483647 then qtL key [108,105,110,107] [bigN 8 (nth p 0 0),bigN 8 (nth p 1 0),bigN 4 gen,nonce] else []
theorem z4 (n:Int):jK (n,())=some (D (z2 n),()):=by
 unfold jK z2
 simp only [go_sem,Int.reduceToNat]
theorem qKu {n:Int} {w:Int} (hw:w=8∨w=4) (h:0≤n∧n < 256 ^ w.toNat) (hn:n≤9223372036854775807):kR (n,w,())=some (bigN w.toNat n,0,()):=by
 rw [qcM _ _ hn,if_pos ⟨by omega,by omega,h.1,h.2⟩];rfl
theorem qHw {a b:BB} {c nonce:BB} (ha:a.length=8) (hb:b.length=8) (hc:c.length=4) (hn:nonce.length≤1000):∀ p∈[a,b,c,nonce],p.length≤1000:=by
 intro p hp
 simp only [List.mem_cons,List.not_mem_nil,or_false] at hp
 rcases hp with rfl | rfl | rfl | rfl <;> omega
theorem p8 {n:Int} (h:z2 n):0≤n∧n < 256 ^ (8:Int).toNat:=⟨h.1,by have:=h.2;show n < 256 ^ 8;omega⟩
theorem quQ (key:BB) (p:List Int) (gen:Int) (nonce:BB) (hk:key.length≤1000000) (hn:nonce.length≤1000):qg8 (key,p,gen,nonce,())=some (keyD key p gen nonce,()):=by
 unfold qg8 keyD
 refine (qH rfl).trans ?_
 dsimp only
 rw [show nat 0=0 from rfl,show nat 1=1 from rfl]
 generalize nth p 0 0=x
 generalize nth p 1 0=y
 rw [z4]
 refine (qF rfl).trans ((qH rfl).trans ?_)
 rw [z4]
 refine (qF rfl).trans ?_
 by_cases h:z2 x∧z2 y∧0≤gen∧gen≤2147483647
 ·obtain ⟨h1,h2,h3,h4⟩:=h
  rw [if_pos ⟨h1,h2,h3,h4⟩]
  refine (qF (a:=(false,())) (by rw [D_t h1,D_t h2];simp only [go_sem,Int.reduceToNat];try exact yN (by omega))).trans ?_
  refine (qB rfl).trans ((qH rfl).trans ?_)
  rw [qKu (.inl rfl) (p8 h1) (by have:=h1.2;omega)]
  refine (qF rfl).trans ((qH rfl).trans ?_)
  rw [qKu (.inl rfl) (p8 h2) (by have:=h2.2;omega)]
  refine (qF rfl).trans ?_
  rw [qKu (.inr rfl) ⟨h3,by show gen < 256 ^ 4;omega⟩ (by omega)]
  refine (qF rfl).trans ?_
  dsimp only
  rw [show (8:Int).toNat=8 from rfl,show (4:Int).toNat=4 from rfl,qdJ key [108,105,110,107] _ hk (by simp) (by simp) (qHw (zG _ _) (zG _ _) (zG _ _) hn)];rfl
 ·rw [if_neg h]
  refine (qF (a:=(true,())) ?_).trans rfl
  by_cases h1:z2 x
  ·by_cases h2:z2 y
   ·rw [D_t h1,D_t h2]
    have h3:¬ (0≤gen∧gen≤2147483647):=fun h3=>h ⟨h1,h2,h3⟩
    simp only [go_sem,Int.reduceToNat];try exact qbV (by omega)
   ·rw [D_t h1,D_f h2];rfl
  ·rw [D_f h1];rfl
theorem qCR {key:BB} {p:List Int} {gen:Int} {nonce:BB} (h:z2 (nth p 0 0)∧z2 (nth p 1 0)∧0≤gen∧gen≤2147483647):(keyD key p gen nonce).length=32:=by
 unfold keyD;rw [if_pos h,qkJ]
def qI3 (e:En') (p:Int):En':={ e with ph:=p,own:=0,oth:=0,seq:=0,win:=noW,ring:=noR,ask:=noA,queue:=[],got:=if jJ e.ph then e.got++[(5,qk2 e,0,[],())] else e.got }
theorem qFC (l:List EvT):zN (l,())=some (l,()):=by
 unfold zN
 dsimp only
 rw [qCp]
 exact qH (qDa l)
theorem qFD (l:List qLF):zR (l,())=some (l,()):=by
 unfold zR
 dsimp only
 rw [qCp]
 exact qH (qDa l)
theorem quR (e:En') (k:Int) (p:List Int) (s:Int) (b:BB) (hg:e.got.length≤1000000):ql7 (e.t,k,p,s,b,())=some (({ e with got:=e.got++[(k,p,s,b,())] }:En').t,()):=by
 unfold ql7
 dsimp only [En'.t]
 refine (qH (by simp only [go_sem,Int.reduceToNat];omega)).trans ?_
 refine (qH (by simp only [go_sem,Int.reduceToNat];simp;omega)).trans ?_
 rfl
theorem qr7 (e:En') (p:Int) (hg:e.got.length≤1000000):qi6 (e.t,p,())=some ((qI3 e p).t,()):=by
 unfold qi6 qI3
 rw [show (e.t,p,()).1.2.2.1=e.ph from rfl,vL]
 refine (qF rfl).trans ?_
 by_cases h:jJ e.ph
 ·rw [D_t h,if_pos h]
  refine (qE rfl).trans ?_
  dsimp only
  rw [qg7]
  refine (qF rfl).trans ?_
  dsimp only
  rw [show (none' UInt8:BB)=[] from rfl,quR _ _ _ _ _ hg]
  rfl
 ·rw [D_f h,if_neg h];rfl
theorem bq_f {a b:Int} (h:a=b):bnot (beq a b)=false:=by rw [qnQ h];rfl
theorem bq_t {a b:Int} (h:¬ a=b):bnot (beq a b)=true:=by rw [qcZ h];rfl
theorem qoA {r:qeF} (h:qpA r):0≤r.1.1∧r.1.1≤2147483647∧r.1.2.1.length≤32:=by
 rcases h with rfl | ⟨⟨h1,h2,h3⟩,_⟩
 ·exact ⟨by decide,by decide,by decide⟩
 ·omega
def qiF (s:Si) (v:TEnv) (key:BB):Si×Int :=
 if (wN s.e.hub).2.2.1=0 then
  (⟨{ s.e with hub:=(wN s.e.hub).1,out:=s.e.out++[((wN s.e.hub).2.1,qoI (xA v++qc9 key (xA v)),())] },ptag s.p key (xA v)⟩,0)
 else (s,(wN s.e.hub).2.2.1)
theorem qkC {s:Si} {n:Nat} (hs:okS n s) (hn:n≤900000) (v:TEnv) (hv:qdS v) (key:BB) (hk:key.length≤1000000):qhY (s.t,v,key,())=some ((qiF s v key).1.t,(qiF s v key).2,()):=by
 unfold qhY qiF
 dsimp only [Si.t,En'.t]
 have hp:=hs.p
 have ho:=hs.e.out
 rw [qyA _ hs.e.up hs.e.next]
 refine (qF rfl).trans ?_
 by_cases hh:(wN s.e.hub).2.2.1=0
 ·rw [if_pos hh]
  refine (qB (by simp only [go_sem,Int.reduceToNat];exact not_not_intro hh)).trans ?_
  rw [qkH _ hv]
  refine (qF rfl).trans ?_
  have hb:=hv.2.2.2.2.2.2
  have hl:=qaC v
  dsimp only
  rw [qxO _ _ _ (by omega) hk (by omega)]
  refine (qF rfl).trans ?_
  dsimp only
  have ht:=ql2 key (xA v)
  rw [qvI (v.1,v.2.1,v.2.2.1,v.2.2.2.1,v.2.2.2.2.1,v.2.2.2.2.2.1,qc9 key (xA v),v.2.2.2.2.2.2.2) ⟨hv,ht⟩]
  refine (qF rfl).trans ?_
  dsimp only
  rw [show xA (v.1,v.2.1,v.2.2.1,v.2.2.2.1,v.2.2.2.2.1,v.2.2.2.2.2.1,qc9 key (xA v),v.2.2.2.2.2.2.2)=xA v from rfl,qtC _ (by rw [List.length_append];omega)]
  refine (qF rfl).trans ?_
  rw [qFD]
  refine (qF rfl).trans ?_
  refine (qH (by simp only [go_sem,Int.reduceToNat];simp;omega)).trans ?_
  rfl
 ·rw [if_neg hh]
  refine (qE (by simp only [go_sem,Int.reduceToNat];exact hh)).trans ?_
  rfl
theorem qg5 {s:Si} {n:Nat} (hs:okS n s) (hn:n≤900000) (v:TEnv) (hv:qdS v) (key:BB) (hk:key.length≤1000000):qaF (s.t,v,key,())=some ((qiF s v key).1.t,(qiF s v key).2,()):=by
 unfold qaF qiF
 dsimp only [Si.t,En'.t]
 have hp:=hs.p
 have ho:=hs.e.out
 rw [qsD _ hs.e.up hs.e.next]
 refine (qF rfl).trans ?_
 by_cases hh:(wN s.e.hub).2.2.1=0
 ·rw [if_pos hh]
  refine (qB (by simp only [go_sem,Int.reduceToNat];exact not_not_intro hh)).trans ?_
  rw [qgC _ hv]
  refine (qF rfl).trans ?_
  have hb:=hv.2.2.2.2.2.2
  have hl:=qaC v
  dsimp only
  rw [quZ _ _ _ (by omega) hk (by omega)]
  refine (qF rfl).trans ?_
  dsimp only
  have ht:=ql2 key (xA v)
  rw [qqQ (v.1,v.2.1,v.2.2.1,v.2.2.2.1,v.2.2.2.2.1,v.2.2.2.2.2.1,qc9 key (xA v),v.2.2.2.2.2.2.2) ⟨hv,ht⟩]
  refine (qF rfl).trans ?_
  dsimp only
  rw [show xA (v.1,v.2.1,v.2.2.1,v.2.2.2.1,v.2.2.2.2.1,v.2.2.2.2.2.1,qc9 key (xA v),v.2.2.2.2.2.2.2)=xA v from rfl,qsF _ (by rw [List.length_append];omega)]
  refine (qF rfl).trans ?_
  refine (qH (by simp only [go_sem,Int.reduceToNat];omega)).trans ?_
  refine (qH (by simp only [go_sem,Int.reduceToNat];simp;omega)).trans ?_
  rfl
 ·rw [if_neg hh]
  refine (qE (by simp only [go_sem,Int.reduceToNat];exact hh)).trans ?_
  rfl
def qkV (e:En') (body:BB):TEnv:=(2,e.id,qk2 e,e.ring.1.1,e.seq,body,[],())
def setV (e:En') (other:Int) (body:BB):TEnv:=(1,e.id,qk2 { e with oth:=other },0,0,body,[],())
def qeA (b:BB):Prop:=1≤b.length∧b.length≤900
instance (b:BB):Decidable (qeA b):=by unfold qeA;infer_instance
theorem qxR {e:En'} (h1:z2 e.own) (h2:z2 e.oth):z2 (nth (qk2 e) 0 0)∧z2 (nth (qk2 e) 1 0):=by
 unfold qk2
 split
 ·exact ⟨h1,h2⟩
 split
 ·exact ⟨h2,h1⟩
 ·exact ⟨by decide,by decide⟩
theorem qrZ {n:Nat} {e:En'} (h:okE n e) {body:BB} (hb:qeA body):qdS (qkV e body):=by
 have hr:=qoA h.ring
 exact ⟨.inr rfl,(qxR h.own h.oth).1,(qxR h.own h.oth).2,h.seq,h.id,⟨hr.1,hr.2.1⟩,hb.1,hb.2⟩
theorem qwC {n:Nat} {e:En'} (h:okE n e) {o:Int} (ho:z2 o) {body:BB} (hb:qeA body):qdS (setV e o body):=by
 have:=qxR (e:={ e with oth:=o }) h.own ho
 exact ⟨.inl rfl,this.1,this.2,by show z2 0;decide,h.id,⟨by show (0:Int)≤0;decide,by show (0:Int)≤2147483647;decide⟩,hb.1,hb.2⟩
def qbT (s:Si) (body:BB):Si×Int :=
 if ¬ qeA body then (s,1) else if ¬ jJ s.e.ph then (s,7) else if s.e.seq=4611686018427387904 then (s,10)
 else let r:=qiF s (qkV s.e body) s.e.ring.1.2.1;if r.2=0 then (⟨{ r.1.e with seq:=r.1.e.seq+1 },r.1.p⟩,0) else r
theorem qtI (s:Si) (v:TEnv) (key:BB):(qiF s v key).1.e.seq=s.e.seq:=by unfold qiF;split <;> rfl
theorem qcP (b:BB):qhX (b,())=some (D (qeA b),()):=by
 unfold qhX qeA
 simp only [go_sem,Int.reduceToNat]
 exact zJ (by omega)
theorem qAs {s:Si} {r:Si×Int} (hseq:z2 r.1.e.seq) (h10:¬ r.1.e.seq=4611686018427387904) :
    (ob (some (r.1.t,r.2,())) fun (a:vR×Int×Unit) =>
   sel (beq a.2.1 0) (some (((a.1.1.1,a.1.1.2.1,a.1.1.2.2.1,a.1.1.2.2.2.1,a.1.1.2.2.2.2.1,a.1.1.2.2.2.2.2.1,a.1.1.2.2.2.2.2.2.1,a.1.1.2.2.2.2.2.2.2.1,i64 (iadd a.1.1.2.2.2.2.2.2.2.2.1 1),a.1.1.2.2.2.2.2.2.2.2.2),a.1.2),a.2.1,())) (some (a.1,a.2.1,()))) =
      some ((if r.2=0 then (⟨{ r.1.e with seq:=r.1.e.seq+1 },r.1.p⟩,0) else r:Si×Int).1.t,(if r.2=0 then (⟨{ r.1.e with seq:=r.1.e.seq+1 },r.1.p⟩,0) else r:Si×Int).2,()):=by
  obtain ⟨⟨e,p⟩,c⟩:=r
  refine (qF rfl).trans ?_
  by_cases h:c=0
  · subst h
    rw [if_pos rfl]
    refine (qE rfl).trans ?_
    dsimp only [Si.t,En'.t] at hseq ⊢
    obtain ⟨q1,q2⟩:=hseq
    rw [show i64 (iadd e.seq 1)=e.seq+1 from jE (by show -9223372036854775808≤e.seq+1;omega) (by show e.seq+1≤9223372036854775807;omega)]
  · rw [if_neg h]
    refine (qB (by simp only [go_sem,Int.reduceToNat];exact h)).trans ?_
    rfl
theorem y8 {s:Si} {n:Nat} (hs:okS n s) (hn:n≤900000) (b:BB):kW (s.t,b,())=some ((qbT s b).1.t,(qbT s b).2,()):=by
 unfold kW qbT
 dsimp only
 rw [qcP]
 refine (qF rfl).trans ?_
 by_cases hb:qeA b
 ·rw [D_t hb,if_neg (not_not_intro hb)]
  refine (qB rfl).trans ?_
  rw [show s.t.1.2.2.1=s.e.ph from rfl,qoH]
  refine (qF rfl).trans ?_
  by_cases hl:jJ s.e.ph
  ·rw [D_t hl,if_neg (not_not_intro hl)]
   refine (qB rfl).trans ?_
   by_cases hq:s.e.seq=4611686018427387904
   ·rw [if_pos hq]
    exact qE (by simp only [go_sem,Int.reduceToNat];exact hq)
   ·rw [if_neg hq]
    refine (qB (by simp only [go_sem,Int.reduceToNat];exact hq)).trans ?_
    rw [show kX (s.t.1,())=_ from qcQ s.e]
    refine (qF rfl).trans ?_
    have hv:=qrZ hs.e hb
    have hk:=(qoA hs.e.ring).2.2
    have hem:=qkC hs hn _ hv s.e.ring.1.2.1 (by omega)
    have h1:=qtI s (qkV s.e b) s.e.ring.1.2.1
    exact Eq.trans (z1 hem) (qAs (s:=s) (r:=qiF s (qkV s.e b) s.e.ring.1.2.1) (by rw [h1];exact hs.e.seq) (by rw [h1];exact hq))
  ·rw [D_f hl,if_pos hl];rfl
 ·rw [D_f hb,if_pos hb];rfl
theorem qg6 {s:Si} {n:Nat} (hs:okS n s) (hn:n≤900000) (b:BB):qdB (s.t,b,())=some ((qbT s b).1.t,(qbT s b).2,()):=by
 unfold qdB qbT
 dsimp only
 by_cases hb:qeA b
 ·rw [if_neg (not_not_intro hb)]
  have hb1:=hb.1
  have hb2:=hb.2
  refine (qF (a:=(false,())) (by simp only [go_sem,Int.reduceToNat];try exact yN (by omega))).trans ?_
  refine (qB rfl).trans ?_
  rw [show s.t.1.2.2.1=s.e.ph from rfl,vL]
  refine (qF rfl).trans ?_
  by_cases hl:jJ s.e.ph
  ·rw [D_t hl,if_neg (not_not_intro hl)]
   refine (qB rfl).trans ?_
   by_cases hq:s.e.seq=4611686018427387904
   ·rw [if_pos hq]
    exact qE (by simp only [go_sem,Int.reduceToNat];exact hq)
   ·rw [if_neg hq]
    refine (qB (by simp only [go_sem,Int.reduceToNat];exact hq)).trans ?_
    rw [show qaG (s.t.1,())=_ from qg7 s.e]
    refine (qF rfl).trans ?_
    have hv:=qrZ hs.e hb
    have hk:=(qoA hs.e.ring).2.2
    have hem:=qg5 hs hn _ hv s.e.ring.1.2.1 (by omega)
    have h1:=qtI s (qkV s.e b) s.e.ring.1.2.1
    exact Eq.trans (z1 hem) (qAs (s:=s) (r:=qiF s (qkV s.e b) s.e.ring.1.2.1) (by rw [h1];exact hs.e.seq) (by rw [h1];exact hq))
  ·rw [D_f hl,if_pos hl];rfl
 ·rw [if_pos hb]
  unfold qeA at hb
  refine (qF (a:=(true,())) (by simp only [go_sem,Int.reduceToNat];try exact qbV (by omega))).trans ?_
  rfl
def qlP (s:Si) (other:Int) (body:BB):Si×Int:=if z2 other∧qeA body then qiF s (setV s.e other body) (qFV s.e.key) else (s,1)
theorem qs3 {s:Si} {n:Nat} (hs:okS n s) (hn:n≤900000) (o:Int) (b:BB):qjR (s.t,o,b,())=some ((qlP s o b).1.t,(qlP s o b).2,()):=by
 unfold qjR qlP
 dsimp only
 rw [qd0]
 refine (qF rfl).trans ?_
 by_cases hb:z2 o∧qeA b
 ·rw [if_pos hb,D_t (show 0≤o∧o≤4611686018427387904 from hb.1)]
  refine (qF (a:=(false,())) ((qB rfl).trans (by rw [qcP,D_t hb.2];rfl))).trans ?_
  refine (qB rfl).trans ?_
  have hp:=qcQ { s.e with oth:=o }
  refine (z1 (show kX ((s.t.1.1,s.t.1.2.1,s.t.1.2.2.1,s.t.1.2.2.2.1,s.t.1.2.2.2.2.1,s.t.1.2.2.2.2.2.1,o,s.t.1.2.2.2.2.2.2.2),())=_ from hp)).trans ?_
  refine (qF rfl).trans ?_
  have hk:=hs.e.key
  rw [show qhZ (s.t.1.2.1,())=_ from qvB s.e.key (by omega)]
  refine (qF rfl).trans ?_
  have hem:=qkC hs hn _ (qwC hs.e hb.1 hb.2) (qFV s.e.key) (by rw [qqA];omega)
  exact (z1 hem).trans rfl
 ·rw [if_neg hb]
  refine (qF (a:=(true,())) ?_).trans rfl
  by_cases h1:z2 o
  ·rw [D_t (show 0≤o∧o≤4611686018427387904 from h1)]
   refine (qB rfl).trans ?_
   rw [qcP,D_f (fun h=>hb ⟨h1,h⟩)];rfl
  ·rw [D_f (show ¬ (0≤o∧o≤4611686018427387904) from h1)];rfl
theorem qqK {s:Si} {n:Nat} (hs:okS n s) (hn:n≤900000) (o:Int) (b:BB):qeS (s.t,o,b,())=some ((qlP s o b).1.t,(qlP s o b).2,()):=by
 unfold qeS qlP
 dsimp only
 rw [z4]
 refine (qF rfl).trans ?_
 have hk:=hs.e.key
 by_cases hb:z2 o∧qeA b
 ·rw [if_pos hb,D_t hb.1]
  have hb1:=hb.2.1
  have hb2:=hb.2.2
  refine (qF (a:=(false,())) (by simp only [go_sem,Int.reduceToNat];try exact yN (by omega))).trans ?_
  refine (qB rfl).trans ?_
  have hem:=qg5 hs hn _ (qwC hs.e hb.1 hb.2) (qFV s.e.key) (by rw [qqA];omega)
  rcases hs.e.id with hi | hi
  ·refine (qB (by show beq s.e.id 1=false;rw [hi];rfl)).trans ?_
   rw [show yO (s.t.1.2.1,())=_ from qhA s.e.key (by omega)]
   refine (qF rfl).trans ?_
   have e:setV s.e o b=(1,s.e.id,[s.e.own,o],0,0,b,[],()):=by unfold setV qk2;dsimp only;rw [if_pos hi]
   rw [e] at hem ⊢
   exact (z1 hem).trans rfl
  ·refine (qE (by show beq s.e.id 1=true;rw [hi];rfl)).trans ?_
   rw [show yO (s.t.1.2.1,())=_ from qhA s.e.key (by omega)]
   refine (qF rfl).trans ?_
   have e:setV s.e o b=(1,s.e.id,[o,s.e.own],0,0,b,[],()):=by unfold setV qk2;dsimp only;rw [if_neg (by omega),if_pos hi]
   rw [e] at hem ⊢
   exact (z1 hem).trans rfl
 ·rw [if_neg hb]
  refine (qF (a:=(true,())) ?_).trans rfl
  by_cases h1:z2 o
  ·rw [D_t h1]
   have h2:¬ (1≤b.length∧b.length≤900):=fun h=>hb ⟨h1,h⟩
   simp only [go_sem,Int.reduceToNat];try exact qbV (by omega)
  ·rw [D_f h1];rfl
def qLr (c:List Int) (i:Nat):List Int:=upd c i (i64 (iadd (nth c i 0) 1))
def qtO (s:Si) (i:Nat):Si:=⟨{ s.e with cnt:=qLr s.e.cnt i },s.p⟩
theorem qA3 (s:Si):kC (s.t,13,())=some ((qtO s 3).t,()):=by
 unfold kC
 exact (qZ (qfI 5 rfl)).trans rfl
theorem qxM (s:Si):qeT (s.t,13,())=some ((qtO s 3).t,()):=by
 unfold qeT
 exact (qZ (qfI 5 rfl)).trans rfl
theorem qxX {n m:Nat} {e:En'} (h:okE n e) (hm:n≤m):okE m e:={ h with out:=Nat.le_trans h.out hm,got:=Nat.le_trans h.got hm }
theorem qaA {n m:Nat} {s:Si} (h:okS n s) (hm:n≤m):okS m s:=⟨qxX h.e hm,Nat.le_trans h.p hm⟩
theorem qEq (h:THub):(wN h).1.1=h.1:=by unfold wN;split <;> rfl
theorem qFm (h:THub):(wN h).1.2.1=h.2.1:=by unfold wN;split <;> rfl
theorem qFl (h:THub):(wN h).1.2.2.1=h.2.2.1:=by unfold wN;split <;> rfl
theorem qwF {h:THub} (hn:0≤h.2.2.2.1∧h.2.2.2.1 < 4):0≤(wN h).1.2.2.2.1∧(wN h).1.2.2.2.1 < 4:=by
 unfold wN
 split
 ·exact hn
 ·rename_i c _
  show (0:Int)≤((c+1) % 4:Nat)∧(((c+1) % 4:Nat):Int) < 4
  omega
theorem qEw {n:Nat} {s:Si} (h:okS n s) (v:TEnv) (key:BB):okS (n+1) (qiF s v key).1:=by
 unfold qiF
 split
 ·refine ⟨{ h.e with up:=(by rw [← h.e.up];exact congrArg List.length (qEq s.e.hub)),next:=qwF h.e.next,feed:=(by rw [← h.e.feed];exact congrArg List.length (qFm s.e.hub)),life:=(by rw [← h.e.life];exact congrArg List.length (qFl s.e.hub)),out := ?_,got:=Nat.le_succ_of_le h.e.got }, ?_⟩
  ·have:=h.e.out
   simp only [List.length_append,List.length_cons,List.length_nil];omega
  ·have:=qMd s.p key (xA v)
   have:=h.p
   show (ptag s.p key (xA v)).2.1.length≤n+1
   omega
 ·exact qaA h (by omega)
theorem qxW {n:Nat} {s:Si} (h:okS n s) (b:BB):okS (n+1) (qbT s b).1:=by
 unfold qbT
 split
 ·exact qaA h (by omega)
 split
 ·exact qaA h (by omega)
 split
 ·exact qaA h (by omega)
 ·rename_i h1 h2 h3
  have h4:=qEw h (qkV s.e b) s.e.ring.1.2.1
  have h5:=qtI s (qkV s.e b) s.e.ring.1.2.1
  dsimp only
  split
  ·refine ⟨{ h4.e with seq := ?_ },h4.p⟩
   have:=h.e.seq
   show z2 (_+1)
   rw [h5]
   unfold z2 at *
   omega
  ·exact h4
theorem qG5 {n:Nat} {s:Si} (h:okS n s) (o:Int) (b:BB):okS (n+1) (qlP s o b).1:=by
 unfold qlP
 split
 ·exact qEw h _ _
 ·exact qaA h (by omega)
theorem qHa {n:Nat} {s:Si} (h:okS n s) (i:Nat):okS n (qtO s i):=⟨{ h.e with cnt:=by show (qLr s.e.cnt i).length=4;unfold qLr upd;rw [List.length_set];exact h.e.cnt },h.p⟩
def quJ (s:Si) (q:vP):Si:=⟨{ s.e with stan:=kI s.e.stan,ask:=(qkP q.2.1 (kI s.e.stan) (wrN (q.1,q.2.1,kI s.e.stan,q.2.2.2)).1).1 },s.p⟩
def qmJ (s:Si) (q:vP):Si :=
 if (wrN (q.1,q.2.1,kI s.e.stan,q.2.2.2)).2.1=0∧(qkP q.2.1 (kI s.e.stan) (wrN (q.1,q.2.1,kI s.e.stan,q.2.2.2)).1).2.1=0 then
  (if q.2.1=1 then (qlP (quJ s q) 0 (wrN (q.1,q.2.1,kI s.e.stan,q.2.2.2)).1).1 else (qbT (quJ s q) (wrN (q.1,q.2.1,kI s.e.stan,q.2.2.2)).1).1)
 else s
theorem qjO {n:Nat} {s:Si} (h:okS n s) (q:vP):okS n (quJ s q):=⟨{ h.e with },h.p⟩
theorem qG6 {n:Nat} {s:Si} (h:okS n s) (q:vP):okS (n+1) (qmJ s q):=by
 unfold qmJ
 split
 ·split
  ·exact qG5 (qjO h q) _ _
  ·exact qxW (qjO h q) _
 ·exact qaA h (by omega)
theorem qlO {s:Si} {n:Nat} (hs:okS n s) (hn:n≤900000) (q:vP):wV (s.t,q,())=some ((qmJ s q).t,()):=by
 unfold wV qmJ
 dsimp only
 rw [show s.t.1.2.2.2.2.2.2.2.2.2.2.2.2.1=s.e.stan from rfl,qzZ]
 refine (qF rfl).trans ?_
 dsimp only
 rw [qhR]
 have hok:=qjO hs q
 have hset:=qs3 hok hn 0 (wrN (q.1,q.2.1,kI s.e.stan,q.2.2.2)).1
 have hsend:=y8 hok hn (wrN (q.1,q.2.1,kI s.e.stan,q.2.2.2)).1
 unfold quJ at hset hsend ⊢
 generalize wrN (q.1,q.2.1,kI s.e.stan,q.2.2.2)=w at hset hsend ⊢
 obtain ⟨b,we,⟨⟩⟩:=w
 refine (qF rfl).trans ?_
 dsimp only at hset hsend ⊢
 rw [qv3]
 generalize qkP q.2.1 (kI s.e.stan) b=a at hset hsend ⊢
 obtain ⟨a,ae,⟨⟩⟩:=a
 refine (qF rfl).trans ?_
 dsimp only at hset hsend ⊢
 by_cases h:we=0∧ae=0
 ·obtain ⟨rfl,rfl⟩:=h
  rw [if_pos ⟨rfl,rfl⟩]
  refine (qF (a:=(false,())) rfl).trans ((qB rfl).trans ?_)
  by_cases hc:q.2.1=1
  ·rw [if_pos hc]
   refine (qE (by simp only [go_sem,Int.reduceToNat];exact hc)).trans ?_
   exact (z1 hset).trans rfl
  ·rw [if_neg hc]
   refine (qB (by simp only [go_sem,Int.reduceToNat];exact hc)).trans ?_
   exact (z1 hsend).trans rfl
 ·rw [if_neg h]
  refine (qF (a:=(true,())) ?_).trans rfl
  by_cases h1:we=0
  ·have h2:¬ ae=0:=fun h2=>h ⟨h1,h2⟩
   exact (qB (by rw [h1];rfl)).trans (by rw [show beq ae 0=false from qcZ h2];rfl)
  ·exact qE (by rw [show beq we 0=false from qcZ h1];rfl)
theorem qkZ {s:Si} {n:Nat} (hs:okS n s) (hn:n≤900000) (q:vP):y5 (s.t,q,())=some ((qmJ s q).t,()):=by
 unfold y5 qmJ
 dsimp only
 rw [show s.t.1.2.2.2.2.2.2.2.2.2.2.2.2.1=s.e.stan from rfl,qr9]
 refine (qF rfl).trans ?_
 dsimp only
 rw [wJ]
 have hok:=qjO hs q
 have hset:=qqK hok hn 0 (wrN (q.1,q.2.1,kI s.e.stan,q.2.2.2)).1
 have hsend:=qg6 hok hn (wrN (q.1,q.2.1,kI s.e.stan,q.2.2.2)).1
 unfold quJ at hset hsend ⊢
 generalize wrN (q.1,q.2.1,kI s.e.stan,q.2.2.2)=w at hset hsend ⊢
 obtain ⟨b,we,⟨⟩⟩:=w
 refine (qF rfl).trans ?_
 dsimp only at hset hsend ⊢
 by_cases h1:we=0
 ·refine (qB (bq_f h1)).trans ?_
  rw [qqO]
  generalize qkP q.2.1 (kI s.e.stan) b=a at hset hsend ⊢
  obtain ⟨a,ae,⟨⟩⟩:=a
  refine (qF rfl).trans ?_
  dsimp only at hset hsend ⊢
  by_cases h2:ae=0
  ·rw [if_pos ⟨h1,h2⟩]
   refine (qB (bq_f h2)).trans ?_
   by_cases hc:q.2.1=1
   ·rw [if_pos hc]
    refine (qE (by simp only [go_sem,Int.reduceToNat];exact hc)).trans ?_
    exact (z1 hset).trans rfl
   ·rw [if_neg hc]
    refine (qB (by simp only [go_sem,Int.reduceToNat];exact hc)).trans ?_
    exact (z1 hsend).trans rfl
  ·rw [if_neg (fun h=>h2 h.2)]
   exact qE (bq_t h2)
 ·rw [if_neg (fun h=>h1 h.1)]
  exact qE (bq_t h1)
def qAP (e:En'):En':={ e with ph:=3,ask:=noA }
def qAF (n:vP) (res:Int):BB:=(wrN (ansN n res).1).1
theorem qqI (n:vP) (res:Int):qeQ (n,res,())=some (qAF n res,()):=by
 unfold qeQ
 dsimp only
 rw [qoF]
 refine (qF rfl).trans ?_
 rw [wJ];rfl
theorem qqH (s:Si):qaT (s.t,())=some ((qtO s 3).t,()):=by
 unfold qaT
 exact (z1 (qxM s)).trans rfl
theorem qJw {s:Si} {m:Nat} (hs:okS m s) (hm:m≤900000) (n:vP) (res:Int) :
  (ob (qbF (n,res,())) fun (a:vP×Int×Unit)=>ob (qaK (a.1,())) fun (b:BB×Int×Unit)=>ob (kW (s.t,b.1,())) fun (c:vR×Int×Unit)=>(some (c.1,()):Option (vR×Unit)))=some ((qbT s (qAF n res)).1.t,()):=by
 rw [qgI]
 refine (qF rfl).trans ?_
 rw [qhR]
 refine (qF rfl).trans ?_
 exact (z1 (y8 hs hm (qAF n res))).trans rfl
theorem qw2 (s:Si):(ob (kC (s.t,13,())) fun (a:vR×Unit)=>(some (a.1,()):Option (vR×Unit)))=some ((qtO s 3).t,()):=(z1 (qA3 s)).trans rfl
theorem qv8 (s:Si):(ob (qaT (s.t,())) fun (a:vR×Unit)=>(some (a.1,()):Option (vR×Unit)))=some ((qtO s 3).t,()):=(z1 (qqH s)).trans rfl
instance (a:TAsk) (c s:Int):Decidable (qmR a c s):=by unfold qmR;infer_instance
theorem qAV (x:UInt64):n64 x=(x.toNat:Int):=rfl
theorem qEp {k:Nat} (h:k≤63):2 ^ k≤9223372036854775808:=by
 have:=Nat.pow_le_pow_right (show 0 < 2 by omega) h
 have e:2 ^ 63=9223372036854775808:=by decide
 omega
theorem qqT (k:Nat) (hk:k≤63):qe1 ((k:Int),())=some (u64 ((2 ^ k:Nat):Int),()):=by
 unfold qe1
 dsimp only
 generalize hf:(fun (x_1:UInt64×Int×Unit)=>(_:Option (LS (UInt64×Int×Unit) (UInt64×Unit))))=f
 have step:∀ i:Nat,i < k→f (u64 ((2 ^ i:Nat):Int),(i:Int),())=some (.nx (u64 ((2 ^ (i+1):Nat):Int),((i+1:Nat):Int),())):=by
  intro i hi
  subst hf
  have hi':i64 (iadd (i:Int) 1)=((i+1:Nat):Int):=i64n (by show (i:Int)+1=_;omega) (by omega)
  have hp:=qEp (k:=i) (by omega)
  have e:imul (n64 (u64 2)) (n64 (u64 ((2 ^ i:Nat):Int)))=((2 ^ (i+1):Nat):Int):=by
   rw [Nat.pow_succ]
   generalize 2 ^ i=m at hp
   rw [qhS (by decide),qhS (by omega)]
   show (2:Int)*(m:Int)=_
   omega
  refine (qE (by simp only [go_sem,Int.reduceToNat];omega)).trans ?_
  dsimp only
  rw [hi',e]
 have hend:∀ u,f (u,(k:Int),())=some (.ex 0 (u,(k:Int),())):=by subst hf;intro u;exact qB (by simp only [go_sem,Int.reduceToNat];omega)
 have hloop:=(qM (f:=f) (fun i=>(u64 ((2 ^ i:Nat):Int),(i:Int),())) k step 0 (Nat.zero_le _)).trans (qU (hend _))
 refine (qZ (show loop f (u64 1,0,())=_ from hloop)).trans ?_
 exact qH g62
def bitW (w:WT) (p:Nat):Bool:=(nth w.2.1 (p / 64) (u64 0)).toNat / 2 ^ (p % 64) % 2 == 1
theorem qcJ (w:WT) (hw:w.2.1.length=16) (p:Nat) (hp:p < 1024):qdG (w,(p:Int),())=some (bitW w p,()):=by
 unfold qdG bitW
 dsimp only
 have e1:i64 (idiv (p:Int) 64)=((p / 64:Nat):Int):=by rw [g31 (by omega)];exact i64n (by omega) (by omega)
 have e2:imod (p:Int) 64=((p % 64:Nat):Int):=by rw [g32 (by omega)];omega
 rw [e1,e2]
 refine (qH (by simp only [go_sem,Int.reduceToNat];omega)).trans ?_
 rw [qqT _ (by omega)]
 refine (qF rfl).trans ?_
 have hq:=qEp (k:=p % 64) (by omega)
 have hq0:0 < 2 ^ (p % 64):=Nat.pow_pos (by omega)
 generalize 2 ^ (p % 64)=m at hq hq0 ⊢
 have e3:n64 (u64 (m:Int))=(m:Int):=qhS (by omega)
 dsimp only
 rw [e3]
 refine (qH (by simp only [go_sem,Int.reduceToNat];omega)).trans ?_
 rw [qT]
 generalize nth w.2.1 (p / 64) (u64 0)=x
 have hx:=x.toNat_lt
 have e4:idiv (n64 x) (m:Int)=((x.toNat / m:Nat):Int):=by
  rw [g31 (by rw [qAV];omega),qAV,Int.natCast_ediv]
 have hle:x.toNat / m≤x.toNat:=Nat.div_le_self _ _
 rw [e4]
 generalize x.toNat / m=q at hle ⊢
 rw [show n64 (u64 (q:Int))=(q:Int) from qhS (by omega),show n64 (u64 2)=2 from qhS (by decide),show imod (q:Int) 2=((q % 2:Nat):Int) by rw [g32 (by omega)];omega,
  show n64 (u64 ((q % 2:Nat):Int))=((q % 2:Nat):Int) from qhS (by omega),show n64 (u64 1)=1 from qhS (by decide)]
 congr 2
 unfold beq
 rw [Bool.eq_iff_iff,beq_iff_eq,beq_iff_eq]
 omega
def qGv (w:WT):Prop:=(0≤w.1∧w.1≤4611686018427387905)∧(∀ p∈(List.range 1024).drop w.1.toNat,bitW w p=false)∧(w.1=0∨bitW w ((w.1 - 1) % 1024).toNat=true)
theorem qqU (w:WT) (hw:w.2.1.length=16):qe2 (w,())=some (D (qGv w),()):=by
 unfold qe2 qGv
 dsimp only
 by_cases h0:0≤w.1∧w.1≤4611686018427387905
 ·refine (qF (a:=(false,())) (by simp only [go_sem,Int.reduceToNat];try exact yN (by omega))).trans ((qB rfl).trans ?_)
  generalize hf:(fun (x_1:Bool×Int×Unit)=>(_:Option (LS (Bool×Int×Unit) (Bool×Unit))))=f
  have hlen:((List.range 1024).drop w.1.toNat).length=1024 - w.1.toNat:=by rw [List.length_drop,List.length_range]
  have hT:w.1=(w.1.toNat:Int):=by omega
  generalize w.1.toNat=T at hT hlen
  have hget:∀ i (h:i < ((List.range 1024).drop T).length),((List.range 1024).drop T)[i]=T+i:=fun i h=>by rw [List.getElem_drop,List.getElem_range]
  have fin:(ck (neb 0 0) (ob (sel (beq w.1 0) (some (true,())) (ob (qdG (w,imod (i64 (isub w.1 1)) 1024,())) fun (a:Bool×Unit)=>some (a.1,()))) fun (a:Bool×Unit)=>some (a.1,())):Option (Bool×Unit))=some (D (w.1=0∨bitW w ((w.1 - 1) % 1024).toNat=true),()):=by
   refine (qH g62).trans ?_
   by_cases hz:w.1=0
   ·rw [D_t (.inl hz),hz];rfl
   ·have e:imod (i64 (isub w.1 1)) 1024=((((w.1 - 1) % 1024).toNat:Nat):Int):=by
     rw [show i64 (isub w.1 1)=w.1 - 1 from jE (by show -9223372036854775808≤w.1 - 1;omega) (by show w.1 - 1≤9223372036854775807;omega),g32 (by omega)];omega
    refine (z1 ((qB (qcZ hz)).trans (by rw [e,qcJ w hw _ (by omega)]))).trans ?_
    refine (qF rfl).trans ?_
    cases hb:bitW w ((w.1 - 1) % 1024).toNat
    ·rw [D_f (fun h=>h.elim hz (by simp))]
    ·rw [D_t (.inr rfl)]
  have key:=qb2 (f:=f) ((List.range 1024).drop T) (fun i=>(false,((T+i:Nat):Int),())) 0 ((false,()):Bool×Unit) (fun p=>bitW w p=false) (fun i h hp => ?_) (fun i h hp => ?_) ?_
  ·rcases key with ⟨h,hl⟩ | ⟨h,hl⟩
   ·rw [Nat.add_zero,← hT] at hl
    refine (qZ hl).trans ?_
    refine fin.trans (zJ ?_)
    exact ⟨fun h'=>⟨h0,h,h'⟩,fun h'=>h'.2.2⟩
   ·rw [Nat.add_zero,← hT] at hl
    refine (qZ hl).trans ?_
    rw [D_f (fun h'=>h h'.2.1)];rfl
  ·subst hf
   have hi':i64 (iadd ((T+i:Nat):Int) 1)=((T+(i+1):Nat):Int):=i64n (by show ((T+i:Nat):Int)+1=_;omega) (by omega)
   rw [hget i h] at hp
   refine (qE (by simp only [go_sem,Int.reduceToNat];omega)).trans ?_
   dsimp only
   rw [qcJ w hw _ (by omega),hp,hi'];rfl
  ·subst hf
   rw [hget i h,Bool.not_eq_false] at hp
   refine (qE (by simp only [go_sem,Int.reduceToNat];omega)).trans ?_
   dsimp only
   rw [qcJ w hw _ (by omega),hp];rfl
  ·subst hf
   refine qB ?_
   show lt ((T+((List.range 1024).drop T).length:Nat):Int) 1024=false
   rw [List.length_drop,List.length_range]
   exact lt_f (by omega)
 ·rw [D_f (fun h=>h0 h.1)]
  refine (qF (a:=(true,())) (by simp only [go_sem,Int.reduceToNat];try exact qbV (by omega))).trans ?_
  rfl
abbrev FT:=BB×Int×Int×Unit
def noF:FT:=([],0,0,())
def qJn (f:FT):Int:=256*n8 (nth f.1 0 (u8 0))+n8 (nth f.1 1 (u8 0))
def qr3 (f:FT):Prop:=¬ (f.2.1 < 0∨65535 < f.2.1∨0 < f.2.1∧0 < f.1.length)∧(f.1.length < 2∨1≤qJn f∧qJn f≤1024∧(f.1.length:Int) < qJn f+2)
theorem qJS (c:UInt8):0≤n8 c∧n8 c < 256:=by have:=c.toNat_lt;unfold n8;omega
theorem qgE (f:FT):qe4 (f,())=some (D (qr3 f),()):=by
 unfold qe4 qr3 qJn
 dsimp only
 by_cases h1:f.2.1 < 0∨65535 < f.2.1∨0 < f.2.1∧0 < f.1.length
 ·rw [D_f (fun h=>h.1 h1)]
  refine (qF (a:=(true,())) (by simp only [go_sem,Int.reduceToNat];try exact qbV (by omega))).trans ?_
  rfl
 ·refine (qF (a:=(false,())) (by simp only [go_sem,Int.reduceToNat];try exact yN (by omega))).trans ((qB rfl).trans ?_)
  by_cases h2:f.1.length < 2
  ·rw [D_t ⟨h1, .inl h2⟩]
   exact qE (by simp only [go_sem,Int.reduceToNat];omega)
  ·refine (qB (by simp only [go_sem,Int.reduceToNat];omega)).trans ?_
   refine (qH (by simp only [go_sem,Int.reduceToNat];omega)).trans ?_
   refine (qH (by simp only [go_sem,Int.reduceToNat];omega)).trans ?_
   rw [show nat 0=0 from rfl,show nat 1=1 from rfl]
   have hx:=qJS (nth f.1 0 (u8 0))
   have hy:=qJS (nth f.1 1 (u8 0))
   generalize n8 (nth f.1 0 (u8 0))=x at hx
   generalize n8 (nth f.1 1 (u8 0))=y at hy
   have e:i64 (iadd (i64 (imul 256 (i64 x))) (i64 y))=256*x+y:=by
    rw [show i64 x=x from jE (by omega) (by omega),show i64 y=y from jE (by omega) (by omega),show i64 (imul 256 x)=256*x from jE (by show -9223372036854775808≤256*x;omega) (by show 256*x≤9223372036854775807;omega)]
    exact jE (by show -9223372036854775808≤256*x+y;omega) (by show 256*x+y≤9223372036854775807;omega)
   rw [e,show i64 (iadd (256*x+y) 2)=256*x+y+2 from jE (by show -9223372036854775808≤256*x+y+2;omega) (by show 256*x+y+2≤9223372036854775807;omega)]
   simp only [go_sem,Int.reduceToNat]
   refine zJ ⟨fun h=>⟨h1, .inr (by omega)⟩,fun h=>by have:=h.2;omega⟩
theorem qa3 (a b:FT):yR (a,b,())=some (D (a=b),()):=by
 obtain ⟨x,y,z,⟨⟩⟩:=a
 obtain ⟨x',y',z',⟨⟩⟩:=b
 unfold yR
 simp only [go_sem,Int.reduceToNat,zE]
 refine zJ ?_
 simp only [Prod.mk.injEq,and_true,and_assoc]
def qGz (h:THub):Prop:=(∀ c∈List.range 4,qr3 (nth h.2.1 c noF)∧(nth h.1 c false=true∨nth h.2.1 c noF=noF))∧0≤h.2.2.2.1∧h.2.2.2.1 < 4
theorem qqV (h:THub):qe3 (h,())=some (D (qGz h),()):=by
 unfold qe3 qGz
 dsimp only
 generalize hf:(fun (x_1:Bool×Int×Unit)=>(_:Option (LS (Bool×Int×Unit) (Bool×Unit))))=f
 have hget:∀ i (hi:i < (List.range 4).length),(List.range 4)[i]=i:=fun i hi=>List.getElem_range _
 have key:=qb2 (f:=f) (List.range 4) (fun i=>(false,(i:Int),())) 0 ((false,()):Bool×Unit) (fun c=>qr3 (nth h.2.1 c noF)∧(nth h.1 c false=true∨nth h.2.1 c noF=noF)) (fun i hi hp => ?_) (fun i hi hp => ?_) ?_
 ·rcases key with ⟨hk,hl⟩ | ⟨hk,hl⟩
  ·refine (qZ (show loop f (false,0,())=_ from hl)).trans ?_
   refine (qH g62).trans ?_
   simp only [go_sem,Int.reduceToNat]
   exact zJ ⟨fun h'=>⟨hk,h'⟩,fun h'=>h'.2⟩
  ·refine (qZ (show loop f (false,0,())=_ from hl)).trans ?_
   rw [D_f (fun h'=>hk h'.1)];rfl
 ·subst hf
  rw [hget i hi] at hp
  have hi4:i < 4:=by simpa using hi
  have hi':i64 (iadd (i:Int) 1)=((i+1:Nat):Int):=i64n (by show (i:Int)+1=_;omega) (by omega)
  refine (qE (by simp only [go_sem,Int.reduceToNat];omega)).trans ?_
  dsimp only
  rw [hi',qT]
  refine (qH (by simp only [go_sem,Int.reduceToNat];omega)).trans ?_
  rw [show nth h.2.1 i (none' UInt8,0,0,())=nth h.2.1 i noF from rfl,qgE,D_t hp.1]
  refine (qF rfl).trans ?_
  refine (qH (by simp only [go_sem,Int.reduceToNat];omega)).trans ?_
  rw [show yR (nth h.2.1 i noF,(none' UInt8,0,0,()),())=_ from qa3 _ noF]
  refine (qF rfl).trans ?_
  refine (qF (a:=(false,())) ((qB rfl).trans ((qH (by simp only [go_sem,Int.reduceToNat];omega)).trans ?_))).trans rfl
  rcases hp.2 with h1 | h1
  ·rw [h1];rfl
  ·rw [D_t h1];cases nth h.1 i false <;> rfl
 ·subst hf
  rw [hget i hi] at hp
  have hi4:i < 4:=by simpa using hi
  refine (qE (by simp only [go_sem,Int.reduceToNat];omega)).trans ?_
  dsimp only
  rw [qT]
  refine (qH (by simp only [go_sem,Int.reduceToNat];omega)).trans ?_
  rw [show nth h.2.1 i (none' UInt8,0,0,())=nth h.2.1 i noF from rfl,qgE]
  refine (qF rfl).trans ?_
  refine (qH (by simp only [go_sem,Int.reduceToNat];omega)).trans ?_
  rw [show yR (nth h.2.1 i noF,(none' UInt8,0,0,()),())=_ from qa3 _ noF]
  refine (qF rfl).trans ?_
  by_cases h1:qr3 (nth h.2.1 i noF)
  ·rw [D_t h1]
   refine (qF (a:=(true,())) ((qB rfl).trans ((qH (by simp only [go_sem,Int.reduceToNat];omega)).trans ?_))).trans rfl
   have h2:¬ (nth h.1 i false=true∨nth h.2.1 i noF=noF):=fun h2=>hp ⟨h1,h2⟩
   simp only [not_or,Bool.not_eq_true] at h2
   rw [h2.1,D_f h2.2];rfl
  ·rw [D_f h1];rfl
 ·subst hf;exact qB rfl
def fewH (h:THub):Prop:=(nth h.2.1 0 noF).1.length≤1200∧(nth h.2.1 1 noF).1.length≤1200∧(nth h.2.1 2 noF).1.length≤1200∧(nth h.2.1 3 noF).1.length≤1200
theorem quY (h:THub):qmC (h,())=some (D (fewH h),()):=by
 unfold qmC fewH
 rw [show (none' UInt8,0,0,())=noF from rfl]
 refine (qH rfl).trans ?_
 dsimp only
 rw [show nat 0=0 from rfl,show nat 1=1 from rfl,show nat 2=2 from rfl,show nat 3=3 from rfl]
 rw [qH (show inB 1 (ofn 4)=true from rfl),qH (show inB 2 (ofn 4)=true from rfl),qH (show inB 3 (ofn 4)=true from rfl)]
 simp only [go_sem,Int.reduceToNat]
 exact zJ (by omega)
theorem qx9 (h:THub) (h1:h.1.length=4) (h2:h.2.1.length=4) (h3:h.2.2.1.length=4):qjC (h,h,())=some (true,()):=by
 unfold qjC
 dsimp only
 generalize hf:(fun (x_1:Bool×Int×Unit)=>(_:Option (LS (Bool×Int×Unit) (Bool×Unit))))=f
 have step:∀ i:Nat,i < 4→f (false,(i:Int),())=some (.nx (false,((i+1:Nat):Int),())):=by
  intro i hi
  subst hf
  have hi':i64 (iadd (i:Int) 1)=((i+1:Nat):Int):=i64n (by show (i:Int)+1=_;omega) (by omega)
  refine (qE (by simp (disch:=omega) only [go_sem,Int.reduceToNat];omega)).trans ?_
  dsimp only
  rw [hi']
  simp (disch:=omega) only [go_sem,Int.reduceToNat,qa3]
 have hend:f (false,((4:Nat):Int),())=some (.ex 0 (false,((4:Nat):Int),())):=by subst hf;exact qB rfl
 have hloop:=(qM (f:=f) (fun i=>(false,(i:Int),())) 4 step 0 (Nat.zero_le _)).trans (qU hend)
 refine (qZ (show loop f (false,0,())=_ from hloop)).trans ?_
 refine (qH g62).trans ?_
 simp (disch:=omega) only [go_sem,Int.reduceToNat]
def qGx (e:En'):Prop:=e.queue.length≤8∧(e.queue=[]∨qfU e.ph)∧∀ b∈e.queue,qeA b
theorem qqJ (e:En'):qeR (e.t,())=some (D (qGx e),()):=by
 unfold qeR qGx
 dsimp only [En'.t]
 have hq0:(e.queue=[])↔e.queue.length=0:=List.length_eq_zero_iff.symm
 by_cases h1:e.queue.length≤8∧(e.queue=[]∨qfU e.ph)
 ·refine (qF (a:=(false,())) ?_).trans ((qB rfl).trans ?_)
  ·refine (qB (by simp (disch:=first | assumption | omega | (dsimp only;omega) | decide) only [go_sem,Int.reduceToNat];omega)).trans ?_
   by_cases h2:e.queue.length=0
   ·exact qB (by simp (disch:=first | assumption | omega | (dsimp only;omega) | decide) only [go_sem,Int.reduceToNat];omega)
   ·refine (qE (by simp (disch:=first | assumption | omega | (dsimp only;omega) | decide) only [go_sem,Int.reduceToNat];omega)).trans ?_
    rw [qaX,D_t (h1.2.resolve_left (fun h=>h2 (hq0.1 h)))];rfl
  generalize hf:(fun (x_1:Bool×Int×Unit)=>(_:Option (LS (Bool×Int×Unit) (Bool×Unit))))=f
  have key:=qb2 (f:=f) e.queue (fun i=>(false,(i:Int),())) 0 ((false,()):Bool×Unit) qeA (fun i hi hp => ?_) (fun i hi hp => ?_) ?_
  ·rcases key with ⟨hk,hl⟩ | ⟨hk,hl⟩
   ·refine (qZ (show loop f (false,0,())=_ from hl)).trans ?_
    refine (qH g62).trans ?_
    rw [D_t ⟨h1.1,h1.2,hk⟩]
   ·refine (qZ (show loop f (false,0,())=_ from hl)).trans ?_
    rw [D_f (fun h'=>hk h'.2.2)];rfl
  ·subst hf
   have hi':i64 (iadd (i:Int) 1)=((i+1:Nat):Int):=i64n (by show (i:Int)+1=_;omega) (by omega)
   refine (qE (by simp (disch:=omega) only [go_sem,Int.reduceToNat];omega)).trans ?_
   refine (qH (by simp (disch:=omega) only [go_sem,Int.reduceToNat];omega)).trans ?_
   dsimp only
   rw [hi',qT,qL hi]
   have q1:=hp.1
   have q2:=hp.2
   simp (disch:=omega) only [go_sem,Int.reduceToNat]
  ·subst hf
   refine (qE (by simp (disch:=omega) only [go_sem,Int.reduceToNat];omega)).trans ?_
   refine (qH (by simp (disch:=omega) only [go_sem,Int.reduceToNat];omega)).trans ?_
   dsimp only
   rw [qT,qL hi]
   unfold qeA at hp
   by_cases q1:e.queue[i].length < 1
   ·simp (disch:=omega) only [go_sem,Int.reduceToNat]
   ·simp (disch:=omega) only [go_sem,Int.reduceToNat]
  ·subst hf
   exact qB (by simp (disch:=omega) only [go_sem,Int.reduceToNat];omega)
 ·rw [D_f (fun h=>h1 ⟨h.1,h.2.1⟩)]
  refine (qF (a:=(true,())) ?_).trans rfl
  by_cases h2:e.queue.length≤8
  ·have h3:¬ (e.queue=[]∨qfU e.ph):=fun h3=>h1 ⟨h2,h3⟩
   simp only [not_or] at h3
   have h4:¬ e.queue.length=0:=fun h=>h3.1 (hq0.2 h)
   refine (qB (by simp (disch:=omega) only [go_sem,Int.reduceToNat];omega)).trans ((qE (by simp (disch:=omega) only [go_sem,Int.reduceToNat];omega)).trans ?_)
   rw [qaX,D_f h3.2];rfl
  ·exact qE (by simp (disch:=omega) only [go_sem,Int.reduceToNat];omega)
theorem qKT {a b:UInt64}:n64 a=n64 b↔a=b:=by
 constructor
 ·intro h
  unfold n64 at h
  exact UInt64.toNat_inj.1 (by omega)
 ·rintro rfl;rfl
theorem qIj:∀ {l m:List UInt64},l.length=m.length→(all2 (fun (p q:UInt64)=>beq (n64 p) (n64 q)) l m=true↔l=m)
 | [],[],_=>by simp [all2]
 | a :: l,b :: m,h=>by
  have ih:=qIj (l:=l) (m:=m) (by simpa using h)
  unfold all2 at ih ⊢
  rw [List.zip_cons_cons,List.all_cons,Bool.and_eq_true,ih]
  unfold beq
  rw [beq_iff_eq,qKT,List.cons.injEq]
 | [],_ :: _,h=>by simp at h
 | _ :: _,[],h=>by simp at h
def qLB (e:En'):Prop:=e.oth=0∧e.seq=0∧e.win=noW∧e.ring=noR
theorem qr6 (e:En') (hw:e.win.2.1.length=16):qi5 (e.t,())=some (D (qLB e),()):=by
 unfold qi5 qLB
 dsimp only [En'.t]
 rw [qgD]
 refine (qF rfl).trans ?_
 have hwin:band (beq e.win.1 0) (band (all2 (fun (p q:UInt64)=>beq (n64 p) (n64 q)) e.win.2.1 [u64 0,u64 0,u64 0,u64 0,u64 0,u64 0,u64 0,u64 0,u64 0,u64 0,u64 0,u64 0,u64 0,u64 0,u64 0,u64 0]) true)=D (e.win=noW):=by
  refine qiV ?_
  generalize e.win=w at hw ⊢
  obtain ⟨t,b,⟨⟩⟩:=w
  unfold noW
  dsimp only at hw ⊢
  unfold band
  rw [Bool.and_true,Bool.and_eq_true,qIj (by rw [hw];rfl)]
  unfold beq
  rw [beq_iff_eq]
  simp only [Prod.mk.injEq,and_true]
 dsimp only
 rw [hwin]
 simp only [go_sem,Int.reduceToNat]
 refine zJ ?_
 simp only [and_assoc]
def qJu (p:Int):Int:=nth [0,1,0,0,101,201,2,0,0] p.toNat 0
def qKZ (e:En'):Prop:=(e.ask.1=qJu e.ph∨e.ph=3∧e.ask.1=301)∧(jJ e.ph∧0 < e.own∧0 < e.oth∧0 < e.ring.1.1∧(¬ e.ph=4∨0 < e.ring.2.2.1.1)∨¬ jJ e.ph∧qLB e∧(0 < e.own↔e.ph=1))
theorem qoC (e:En') (hw:e.win.2.1.length=16) (hp:0≤e.ph∧e.ph≤8):qbX (e.t,())=some (D (qKZ e),()):=by
 unfold qbX qKZ qoD
 rw [show (e.t,()).1.2.2.1=e.ph from rfl]
 dsimp only
 rw [qH (show inB e.ph (len [0,1,0,0,101,201,2,0,0])=true by simp only [go_sem,Int.reduceToNat];simp;omega)]
 refine (qF rfl).trans ?_
 rw [show nth [0,1,0,0,101,201,2,0,0] (nat e.ph) 0=qJu e.ph from rfl,show e.t.2.2.2.2.2.2.2.2.2.2.2.1.1=e.ask.1 from rfl,show e.t.2.2.2.2.2.1=e.own from rfl,show e.t.2.2.2.2.2.2.1=e.oth from rfl,show e.t.2.2.2.2.2.2.2.2.2.2.1=e.ring from rfl]
 by_cases h1:e.ask.1=qJu e.ph∨e.ph=3∧e.ask.1=301
 ·refine (qF (a:=(false,())) ?_).trans ((qB rfl).trans ?_)
  ·rcases h1 with h1 | ⟨h1,h2⟩
   ·exact qB (bq_f h1)
   ·by_cases h3:e.ask.1=qJu e.ph
    ·exact qB (bq_f h3)
    ·refine (qE (bq_t h3)).trans ((qB (bq_f h1)).trans ?_)
     rw [bq_f h2]
  rw [qr6 e hw]
  refine (qF rfl).trans ?_
  rw [vL]
  refine (qF rfl).trans ?_
  by_cases hl:jJ e.ph
  ·rw [D_t hl]
   refine (qE rfl).trans ?_
   simp only [go_sem,Int.reduceToNat]
   refine zJ ?_
   simp only [h1,hl,true_and,not_true_eq_false,false_and,or_false,and_assoc]
  ·rw [D_f hl]
   refine (qB rfl).trans ?_
   simp only [go_sem,Int.reduceToNat]
   refine zJ ?_
   simp only [h1,hl,true_and,not_false_eq_true,false_and,false_or]
 ·rw [D_f (fun h=>h1 h.1)]
  simp only [not_or,not_and] at h1
  refine (qF (a:=(true,())) ((qE (bq_t h1.1)).trans ?_)).trans rfl
  by_cases h3:e.ph=3
  ·refine (qB (bq_f h3)).trans ?_
   rw [bq_t (h1.2 h3)]
  ·exact qE (bq_t h3)
structure qJM (e:En'):Prop where
 id:0≤e.id∧e.id≤1
 key:e.key.length=32
 ph:0≤e.ph∧e.ph≤8
 stan:0≤e.stan∧e.stan≤999999
 day:0≤e.day∧e.day≤999999
 own:z2 e.own
 oth:z2 e.oth
 seen:z2 e.seen
 seq:z2 e.seq
 store:qEh e.store
 win:qGv e.win
 ring:qpA e.ring
 ask:qGC e.ask
 hub:qGz e.hub
 queue:qGx e
 link:qKZ e
theorem qNj (a b c d f g h i j k l:Prop):(sel (D a) (sel (D b) (sel (D c) (sel (D d) (sel (D f) (sel (D g) (sel (D h) (sel (D i) (sel (D j) (sel (D k) (some (D l,())) (some (false,()))) (some (false,()))) (some (false,()))) (some (false,()))) (some (false,()))) (some (false,()))) (some (false,()))) (some (false,()))) (some (false,()))) (some (false,())):Option (Bool×Unit)) =
  some (D (a∧b∧c∧d∧f∧g∧h∧i∧j∧k∧l),()):=by
 simp only [go_sem,Int.reduceToNat]
 try (refine zJ ?_;simp only [and_assoc])
theorem qqL (e:En') (hw:e.win.2.1.length=16):qaU (e.t,())=some (D (qJM e),()):=by
 unfold qaU
 dsimp only
 rw [show e.t.1=e.id from rfl,show e.t.2.1=e.key from rfl,show e.t.2.2.1=e.ph from rfl,show e.t.2.2.2.2.2.2.2.2.2.2.2.2.1=e.stan from rfl,show e.t.2.2.2.2.2.2.2.2.2.2.2.2.2.1=e.day from rfl,show e.t.2.2.2.2.2.1=e.own from rfl,show e.t.2.2.2.2.2.2.1=e.oth from rfl,show e.t.2.2.2.2.2.2.2.1=e.seen from rfl,
  show e.t.2.2.2.2.2.2.2.2.1=e.seq from rfl,show e.t.2.2.2.1=e.store from rfl,show e.t.2.2.2.2.2.2.2.2.2.1=e.win from rfl,show e.t.2.2.2.2.2.2.2.2.2.2.1=e.ring from rfl,show e.t.2.2.2.2.2.2.2.2.2.2.2.1=e.ask from rfl,show e.t.2.2.2.2.2.2.2.2.2.2.2.2.2.2.2.1=e.hub from rfl]
 by_cases h:(0≤e.id∧e.id≤1)∧e.key.length=32∧(0≤e.ph∧e.ph≤8)∧(0≤e.stan∧e.stan≤999999)∧(0≤e.day∧e.day≤999999)
 ·obtain ⟨a1,a2,a3,a4,a5⟩:=h
  refine (qF (a:=(false,())) (by simp only [go_sem,Int.reduceToNat];try exact yN (by omega))).trans ((qB rfl).trans ?_)
  rw [z4]
  refine (qF rfl).trans ?_
  rw [z4]
  refine (qF rfl).trans ?_
  rw [z4]
  refine (qF rfl).trans ?_
  rw [z4]
  refine (qF rfl).trans ?_
  rw [qqP]
  refine (qF rfl).trans ?_
  rw [qqU _ hw]
  refine (qF rfl).trans ?_
  rw [qqS]
  refine (qF rfl).trans ?_
  rw [qqM]
  refine (qF rfl).trans ?_
  rw [qqV]
  refine (qF rfl).trans ?_
  rw [qqJ]
  refine (qF rfl).trans ?_
  dsimp only
  rw [qoC e hw a3]
  refine (z1 (qNj _ _ _ _ _ _ _ _ _ _ _)).trans ?_
  refine (qF rfl).trans ?_
  refine zJ ?_
  constructor
  ·rintro ⟨b1,b2,b3,b4,b5,b6,b7,b8,b9,b10,b11⟩
   exact ⟨a1,a2,a3,a4,a5,b1,b2,b3,b4,b5,b6,b7,b8,b9,b10,b11⟩
  ·rintro ⟨_,_,_,_,_,b1,b2,b3,b4,b5,b6,b7,b8,b9,b10,b11⟩
   exact ⟨b1,b2,b3,b4,b5,b6,b7,b8,b9,b10,b11⟩
 ·rw [D_f (fun r=>h ⟨r.id,r.key,r.ph,r.stan,r.day⟩)]
  refine (qF (a:=(true,())) (by simp only [go_sem,Int.reduceToNat];try exact qbV (by omega))).trans ?_
  rfl
def qFs (acc:Int):List BB→Int
 | []=>acc
 | x :: r=>if 9000 - acc < (x.length:Int) then 9001 else qFs (acc+x.length) r
def qHq (q:List BB):Int:=if 9000 < (q.length:Int) then 9001 else qFs q.length q
theorem qsN (q:List BB):qjM (q,9000,())=some (qHq q,()):=by
 unfold qjM qHq
 dsimp only
 by_cases h0:9000 < (q.length:Int)
 ·rw [if_pos h0]
  exact (qE (lt_t h0)).trans rfl
 ·rw [if_neg h0]
  refine (qB (lt_f h0)).trans ?_
  generalize hf:(fun (x_1:Int×Int×Int×Unit)=>(_:Option (LS (Int×Int×Int×Unit) (Int×Unit))))=f
  have hl9:q.length≤9000:=by omega
  have key:∀ (n i:Nat) (acc:Int),q.length - i=n→i≤q.length→0≤acc→acc≤9000→(loop f (0,acc,(i:Int),())=some (.rt (9001,()))∧qFs acc (q.drop i)=9001)∨(loop f (0,acc,(i:Int),())=some (.ex 0 (0,qFs acc (q.drop i),(q.length:Int),()))):=by
   intro n
   induction n with
   | zero =>
    intro i acc hn hi ha hb
    have:i=q.length:=by omega
    subst this
    rw [List.drop_length]
    refine .inr (qU ?_)
    subst hf
    exact qB (by simp only [go_sem,Int.reduceToNat];omega)
   | succ n ih =>
    intro i acc hn hi ha hb
    have hil:i < q.length:=by omega
    have hi':i64 (iadd (i:Int) 1)=((i+1:Nat):Int):=i64n (by show (i:Int)+1=_;omega) (by omega)
    rw [List.drop_eq_getElem_cons hil]
    have e1:i64 (isub 9000 acc)=9000 - acc:=jE (by show -9223372036854775808≤9000 - acc;omega) (by show 9000 - acc≤9223372036854775807;omega)
    by_cases hx:9000 - acc < (q[i].length:Int)
    ·refine .inl ⟨qfH ?_,by rw [qFs,if_pos hx]⟩
     subst hf
     refine (qE (by simp only [go_sem,Int.reduceToNat];omega)).trans ((qH (by simp only [go_sem,Int.reduceToNat];omega)).trans ?_)
     dsimp only
     rw [e1,qT,qL hil]
     exact (qE (lt_t hx)).trans rfl
    ·have e2:i64 (iadd acc (len q[i]))=acc+(q[i].length:Int):=jE (by show -9223372036854775808≤acc+(q[i].length:Int);omega) (by show acc+(q[i].length:Int)≤9223372036854775807;omega)
     have hst:f (0,acc,(i:Int),())=some (.nx (0,acc+(q[i].length:Int),((i+1:Nat):Int),())):=by
      subst hf
      refine (qE (by simp only [go_sem,Int.reduceToNat];omega)).trans ((qH (by simp only [go_sem,Int.reduceToNat];omega)).trans ?_)
      dsimp only
      rw [e1,qT,qL hil,e2,hi']
      refine (qB (lt_f hx)).trans ?_
      exact qH (by simp only [go_sem,Int.reduceToNat];omega)
     rw [v5 hst,qFs,if_neg hx]
     exact ih (i+1) _ (by omega) (by omega) (by omega) (by omega)
  rcases key q.length 0 q.length (by omega) (Nat.zero_le _) (by omega) (by omega) with ⟨h1,h2⟩ | h1
  ·rw [List.drop_zero] at h2
   rw [h2]
   exact (qZ (show loop f (0,len q,0,())=_ from h1)).trans rfl
  ·rw [List.drop_zero] at h1
   refine (qZ (show loop f (0,len q,0,())=_ from h1)).trans ?_
   exact qH g62
structure fewE (e:En'):Prop where
 store:e.store.1.length≤100∧e.store.2.1.length≤100
 ring:fewR e.ring
 hub:fewH e.hub
 key:e.key.length≤100
 ask:e.ask.2.2.2.2.1.length≤1000
 queue:qHq e.queue≤9000
 out:e.out.length≤20
 got:e.got.length≤40
 outs:∀ x∈e.out,x.2.1.length≤1100
 gots:∀ x∈e.got,x.2.2.2.1.length≤1000
theorem quS (e:En'):qg9 (e.t,())=some (D (fewE e),()):=by
 unfold qg9
 dsimp only
 rw [show e.t.2.2.2.1=e.store from rfl,show e.t.2.2.2.2.2.2.2.2.2.2.1=e.ring from rfl,show e.t.2.2.2.2.2.2.2.2.2.2.2.2.2.2.2.1=e.hub from rfl,show e.t.2.1=e.key from rfl,show e.t.2.2.2.2.2.2.2.2.2.2.2.1=e.ask from rfl,show e.t.2.2.2.2.2.2.2.2.2.2.2.2.2.2.1=e.queue from rfl,show e.t.2.2.2.2.2.2.2.2.2.2.2.2.2.2.2.2.1=e.out from rfl,show e.t.2.2.2.2.2.2.2.2.2.2.2.2.2.2.2.2.2.1=e.got from rfl]
 rw [quV]
 refine (qF rfl).trans ?_
 rw [quX]
 refine (qF rfl).trans ?_
 rw [quY]
 refine (qF rfl).trans ?_
 dsimp only
 rw [qsN]
 by_cases h:(e.store.1.length≤100∧e.store.2.1.length≤100)∧fewR e.ring∧fewH e.hub∧e.key.length≤100∧e.ask.2.2.2.2.1.length≤1000∧qHq e.queue≤9000∧e.out.length≤20∧e.got.length≤40
 ·obtain ⟨a1,a2,a3,a4,a5,a6,a7,a8⟩:=h
  rw [D_t a1,D_t a2,D_t a3]
  refine (qF (a:=(false,())) (by simp only [go_sem,Int.reduceToNat];try exact yN (by omega))).trans ((qB rfl).trans ?_)
  generalize hf:(fun (x_1:Bool×Int×Unit)=>sel (lt x_1.2.1 (len e.out)) _ _)=f
  generalize hg:(fun (x_1:Bool×Int×Unit)=>(_:Option (LS (Bool×Int×Unit) (Bool×Unit))))=g
  have k1:=qb2 (f:=f) e.out (fun i=>(false,(i:Int),())) 0 ((false,()):Bool×Unit) (fun x=>x.2.1.length≤1100) (fun i hi hp => ?_) (fun i hi hp => ?_) ?_
  ·have k2:=qb2 (f:=g) e.got (fun i=>(false,(i:Int),())) 2 ((false,()):Bool×Unit) (fun x=>x.2.2.2.1.length≤1000) (fun i hi hp => ?_) (fun i hi hp => ?_) ?_
   ·rcases k1 with ⟨h1,hl1⟩ | ⟨h1,hl1⟩
    ·refine (qZ (show loop f (false,0,())=_ from hl1)).trans ((qH g62).trans ?_)
     rcases k2 with ⟨h2,hl2⟩ | ⟨h2,hl2⟩
     ·refine (qZ (show loop g (false,0,())=_ from hl2)).trans ((qH g62).trans ?_)
      rw [D_t ⟨a1,a2,a3,a4,a5,a6,a7,a8,h1,h2⟩]
     ·refine (qZ (show loop g (false,0,())=_ from hl2)).trans ?_
      rw [D_f (fun r=>h2 r.gots)];rfl
    ·refine (qZ (show loop f (false,0,())=_ from hl1)).trans ?_
     rw [D_f (fun r=>h1 r.outs)];rfl
   ·subst hg
    have hi':i64 (iadd (i:Int) 1)=((i+1:Nat):Int):=i64n (by show (i:Int)+1=_;omega) (by omega)
    refine (qE (by simp only [go_sem,Int.reduceToNat];omega)).trans ((qH (by simp only [go_sem,Int.reduceToNat];omega)).trans ?_)
    dsimp only
    rw [qT,qL hi,hi']
    exact qB (by simp only [go_sem,Int.reduceToNat];omega)
   ·subst hg
    refine (qE (by simp only [go_sem,Int.reduceToNat];omega)).trans ((qH (by simp only [go_sem,Int.reduceToNat];omega)).trans ?_)
    dsimp only
    rw [qT,qL hi]
    exact qE (by simp only [go_sem,Int.reduceToNat];omega)
   ·subst hg;exact qB (by simp only [go_sem,Int.reduceToNat];omega)
  ·subst hf
   have hi':i64 (iadd (i:Int) 1)=((i+1:Nat):Int):=i64n (by show (i:Int)+1=_;omega) (by omega)
   refine (qE (by simp only [go_sem,Int.reduceToNat];omega)).trans ((qH (by simp only [go_sem,Int.reduceToNat];omega)).trans ?_)
   dsimp only
   rw [qT,qL hi,hi']
   exact qB (by simp only [go_sem,Int.reduceToNat];omega)
  ·subst hf
   refine (qE (by simp only [go_sem,Int.reduceToNat];omega)).trans ((qH (by simp only [go_sem,Int.reduceToNat];omega)).trans ?_)
   dsimp only
   rw [qT,qL hi]
   exact qE (by simp only [go_sem,Int.reduceToNat];omega)
  ·subst hf;exact qB (by simp only [go_sem,Int.reduceToNat];omega)
 ·rw [D_f (p:=fewE e) (fun r=>h ⟨r.store,r.ring,r.hub,r.key,r.ask,r.queue,r.out,r.got⟩)]
  refine (qF (a:=(true,())) ?_).trans rfl
  by_cases c1:e.store.1.length≤100∧e.store.2.1.length≤100
  ·rw [D_t c1]
   by_cases c2:fewR e.ring
   ·rw [D_t c2]
    by_cases c3:fewH e.hub
    ·rw [D_t c3]
     have c4:¬ (e.key.length≤100∧e.ask.2.2.2.2.1.length≤1000∧qHq e.queue≤9000∧e.out.length≤20∧e.got.length≤40):=fun c4=>h ⟨c1,c2,c3,c4⟩
     simp only [go_sem,Int.reduceToNat]
     try exact qbV (by omega)
    ·rw [D_f c3];rfl
   ·rw [D_f c2];rfl
  ·rw [D_f c1];rfl
structure mayS (s:Si):Prop where
 few:fewE s.e
 prov:fewP s.p 40
 right:qJM s.e
structure qEc (e:En'):Prop where
 win:e.win.2.1.length=16
 up:e.hub.1.length=4
 feed:e.hub.2.1.length=4
 life:e.hub.2.2.1.length=4
 cnt:e.cnt.length=4
theorem quP (s:Si) (hw:qEc s.e):ql6 (s.t,())=some (D (mayS s),()):=by
 unfold ql6
 dsimp only
 rw [show qg9 (s.t.1,())=_ from quS s.e]
 refine (qF rfl).trans ?_
 rw [show qhH (s.t.2.1,40,())=_ from qu1 s.p 40 (by decide)]
 refine (qF rfl).trans ?_
 rw [show qaU (s.t.1,())=_ from qqL s.e hw.win]
 simp only [go_sem,Int.reduceToNat]
 exact zJ ⟨fun h=>⟨h.1,h.2.1,h.2.2⟩,fun h=>⟨h.few,h.prov,h.right⟩⟩
theorem qKI {s:Si} (hw:qEc s.e) (h:mayS s):okS 50 s:=by
 have hr:=h.right
 have hf:=h.few
 refine ⟨⟨by have:=hr.id;omega,by have:=hr.key;omega,hr.ph,hr.store,hr.own,hr.oth,hr.seq,hr.ring,hw.up,⟨hr.hub.2.1,hr.hub.2.2⟩,by have:=hf.out;omega,by have:=hf.got;omega,hw.cnt,hw.win,hw.feed,hw.life,by have:=hr.queue.1;omega⟩, ?_⟩
 have:=h.prov.1
 omega
theorem yJ (a:Int):beq a a=true:=qnQ rfl
theorem qq7 (a:BB):seq a a=true:=qKl rfl
theorem qGs (q:List BB) (hq:q.length≤1000000):qjL (q,q,())=some (true,()):=by
 unfold qjL
 dsimp only
 rw [yJ]
 refine (qB rfl).trans ?_
 generalize hf:(fun (x_1:Bool×Int×Unit)=>(_:Option (LS (Bool×Int×Unit) (Bool×Unit))))=f
 have step:∀ i:Nat,i < q.length→f (false,(i:Int),())=some (.nx (false,((i+1:Nat):Int),())):=by
  intro i hi
  subst hf
  have hi':i64 (iadd (i:Int) 1)=((i+1:Nat):Int):=i64n (by show (i:Int)+1=_;omega) (by omega)
  refine (qE (by simp only [go_sem,Int.reduceToNat];omega)).trans ((qH (by simp only [go_sem,Int.reduceToNat];omega)).trans ((qH (by simp only [go_sem,Int.reduceToNat];omega)).trans ?_))
  dsimp only
  rw [hi',qq7];rfl
 have hend:f (false,(q.length:Int),())=some (.ex 0 (false,(q.length:Int),())):=by subst hf;exact qB (by simp only [go_sem,Int.reduceToNat];omega)
 have hloop:=(qM (f:=f) (fun i=>(false,(i:Int),())) q.length step 0 (Nat.zero_le _)).trans (qU hend)
 exact (qZ (show loop f (false,0,())=_ from hloop)).trans (qH g62)
theorem qGl (q:List qLF) (hq:q.length≤1000000):qi4 (q,q,())=some (true,()):=by
 unfold qi4
 dsimp only
 rw [yJ]
 refine (qB rfl).trans ?_
 generalize hf:(fun (x_1:Bool×Int×Unit)=>(_:Option (LS (Bool×Int×Unit) (Bool×Unit))))=f
 have step:∀ i:Nat,i < q.length→f (false,(i:Int),())=some (.nx (false,((i+1:Nat):Int),())):=by
  intro i hi
  subst hf
  have hi':i64 (iadd (i:Int) 1)=((i+1:Nat):Int):=i64n (by show (i:Int)+1=_;omega) (by omega)
  have hc:inB (i:Int) (len q)=true:=by simp only [go_sem,Int.reduceToNat];omega
  refine (qE (by simp only [go_sem,Int.reduceToNat];omega)).trans ((qH hc).trans ((qH hc).trans ?_))
  dsimp only
  rw [hi',yJ,hc]
  refine (qF (a:=(false,())) ((qB rfl).trans ((qH rfl).trans ((qH rfl).trans ?_)))).trans rfl
  rw [zE,qq7];rfl
 have hend:f (false,(q.length:Int),())=some (.ex 0 (false,(q.length:Int),())):=by subst hf;exact qB (by simp only [go_sem,Int.reduceToNat];omega)
 have hloop:=(qM (f:=f) (fun i=>(false,(i:Int),())) q.length step 0 (Nat.zero_le _)).trans (qU hend)
 exact (qZ (show loop f (false,0,())=_ from hloop)).trans (qH g62)
theorem qC1 (q:List EvT) (hq:q.length≤1000000):qbY (q,q,())=some (true,()):=by
 unfold qbY
 dsimp only
 rw [yJ]
 refine (qB rfl).trans ?_
 generalize hf:(fun (x_1:Bool×Int×Unit)=>(_:Option (LS (Bool×Int×Unit) (Bool×Unit))))=f
 have step:∀ i:Nat,i < q.length→f (false,(i:Int),())=some (.nx (false,((i+1:Nat):Int),())):=by
  intro i hi
  subst hf
  have hi':i64 (iadd (i:Int) 1)=((i+1:Nat):Int):=i64n (by show (i:Int)+1=_;omega) (by omega)
  have hc:inB (i:Int) (len q)=true:=by simp only [go_sem,Int.reduceToNat];omega
  refine (qE (by simp only [go_sem,Int.reduceToNat];omega)).trans ((qH hc).trans ((qH hc).trans ?_))
  dsimp only
  rw [hi',hc]
  generalize nth q (nat (i:Int)) (0,[0,0],0,none' UInt8,())=e
  rw [yJ,yJ,yJ,yJ,zE,qq7]
  rfl
 have hend:f (false,(q.length:Int),())=some (.ex 0 (false,(q.length:Int),())):=by subst hf;exact qB (by simp only [go_sem,Int.reduceToNat];omega)
 have hloop:=(qM (f:=f) (fun i=>(false,(i:Int),())) q.length step 0 (Nat.zero_le _)).trans (qU hend)
 exact (qZ (show loop f (false,0,())=_ from hloop)).trans (qH g62)
theorem qCe:∀ l:List UInt64,all2 (fun (p q:UInt64)=>beq (n64 p) (n64 q)) l l=true
 | []=>rfl
 | a :: l=>by
  have ih:=qCe l
  unfold all2 at ih ⊢
  rw [List.zip_cons_cons,List.all_cons,ih,Bool.and_true]
  exact yJ _
theorem qw9:∀ l:List Int,all2 (fun (p q:Int)=>beq p q) l l=true
 | []=>rfl
 | a :: l=>by
  have ih:=qw9 l
  unfold all2 at ih ⊢
  rw [List.zip_cons_cons,List.all_cons,ih,Bool.and_true]
  exact yJ _
theorem qGo {n:Nat} {e:En'} (h:okE n e) (hn:n≤1000000):qdC (e.t,e.t,())=some (true,()):=by
 unfold qdC
 dsimp only
 rw [qsB]
 refine (qF rfl).trans ?_
 rw [qsC]
 refine (qF rfl).trans ?_
 rw [qsA]
 refine (qF rfl).trans ?_
 have hq:=h.queue
 have ho:=h.out
 have hg:=h.got
 rw [show e.t.2.2.2.2.2.2.2.2.2.2.2.2.2.2.1=e.queue from rfl,qGs e.queue (by omega)]
 refine (qF rfl).trans ?_
 rw [show e.t.2.2.2.2.2.2.2.2.2.2.2.2.2.2.2.1=e.hub from rfl,qx9 e.hub h.up h.feed h.life]
 refine (qF rfl).trans ?_
 rw [show e.t.2.2.2.2.2.2.2.2.2.2.2.2.2.2.2.2.1=e.out from rfl,qGl e.out (by omega)]
 refine (qF rfl).trans ?_
 rw [show e.t.2.2.2.2.2.2.2.2.2.2.2.2.2.2.2.2.2.1=e.got from rfl,qC1 e.got (by omega)]
 refine (qF rfl).trans ?_
 dsimp only
 rw [zE,qq7,qCe,qw9]
 simp only [yJ]
 rfl
theorem qc5 {n:Nat} {s:Si} (h:okS n s) (hn:n≤1000000):zZ (s.t,s.t,())=some (true,()):=by
 unfold zZ
 dsimp only
 rw [show qdC (s.t.1,s.t.1,())=_ from qGo h.e hn]
 refine (qF rfl).trans ?_
 have hp:=h.p
 rw [show qdI (s.t.2.1,s.t.2.1,())=_ from qsK s.p (by omega)]
 rfl
instance (v:TEnv):Decidable (qdS v):=by unfold qdS;infer_instance
instance (v:TEnv):Decidable (qo9 v):=by unfold qo9;infer_instance
theorem qIx {s:Si} {b:BB} (hb:qeA b) (hl:jJ s.e.ph) (hq:s.e.seq≤900000) (hh:(wN s.e.hub).2.2.1=0):qbT s b =
  (⟨{ s.e with hub:=(wN s.e.hub).1,out:=s.e.out++[((wN s.e.hub).2.1,qoI (xA (qkV s.e b)++qc9 s.e.ring.1.2.1 (xA (qkV s.e b))),())],seq:=s.e.seq+1 },ptag s.p s.e.ring.1.2.1 (xA (qkV s.e b))⟩,0):=by
 unfold qbT qiF
 rw [if_neg (not_not_intro hb),if_neg (not_not_intro hl),if_neg (by omega),if_pos hh]
 rfl
def twK (fill:UInt8):BB:=upd (rep 32 (u8 0)) 0 fill
def twN (g:Nat):BB:=if g=1 then [] else [u8 (g:Int)]
def twG (fill:UInt8) (g:Nat):BB:=keyD (twK fill) [3,4] (g:Int) (twN g)
def twR (fill:UInt8):Nat→qeF
 | 0=>noR
 | 1=>((1,twG fill 1,()),noG,noG,0,1,())
 | g+2=>(((g+2:Nat),twG fill (g+2),()),((g+1:Nat),twG fill (g+1),()),noG,16,(g+2:Nat),())
def hub1:THub:=([true,false,false,false],[noF,noF,noF,noF],[1,0,0,0],0,())
def twE (i:Int) (fill:UInt8) (g:Nat):En':=⟨i,twK fill,3,newS, -1,3+i,4 - i,4,0,noW,twR fill g,noA,0,0,[],hub1,[],[],[0,0,0,0]⟩
def tw (i:Int) (fill:UInt8) (g:Nat):Si:=⟨twE i fill g,(true,[],false,())⟩
theorem qv6 (fill:UInt8):(twK fill).length=32:=by unfold twK upd;rw [List.length_set];rfl
theorem qiX (fill:UInt8) {g:Nat} (hg:g≤2147483647):(twG fill g).length=32:=qCR ⟨by decide,by decide,by omega,by omega⟩
theorem qFg {a b:Int} {x y:BB} (h1:1≤b) (h2:b < a) (h3:a≤2147483647) (hx:x.length=32) (hy:y.length=32):qpA ((a,x,()),(b,y,()),noG,16,a,()):=by
 have hb:¬ (b,y,())=noG:=fun h=>by
  have:b=0:=congrArg Prod.fst h
  omega
 refine .inr ⟨⟨by dsimp only;omega,h3,hx⟩,h3,Int.le_refl _, ?_, .inr ⟨hb,⟨h1,by dsimp only;omega,hy⟩,h2, ?_, ?_⟩, .inl rfl⟩
 ·show (0:Int)≤a;omega
 ·show (1:Int)≤16;omega
 ·show (16:Int)≤16;omega
theorem qFh {x:BB} (hx:x.length=32):qpA ((1,x,()),noG,noG,0,1,()):=by
 refine .inr ⟨⟨?_, ?_,hx⟩, ?_, ?_, ?_, .inl ⟨rfl,rfl⟩, .inl rfl⟩
 ·show (1:Int)≤1;omega
 ·show (1:Int)≤2147483647;omega
 ·show (1:Int)≤2147483647;omega
 ·show (1:Int)≤1;omega
 ·show (0:Int)≤1;omega
theorem qGw (fill:UInt8) {g:Nat} (hg:1≤g) (hg2:g≤100):qpA (twR fill g):=by
 match g,hg with
 | 1,_=>exact qFh (qiX fill (by omega))
 | g+2,_=>exact qFg (b:=((g+1:Nat):Int)) (by omega) (by omega) (by omega) (qiX fill (by omega)) (qiX fill (by omega))
theorem qMn (i:Int) (hi:i=0∨i=1) (fill:UInt8) {g:Nat} (hg:1≤g) (hg2:g≤100):okS 0 (tw i fill g) where
 e:={
  id:=hi
  key:=by show (twK fill).length≤1000;rw [qv6];omega
  ph:=⟨by show (0:Int)≤3;omega,by show (3:Int)≤8;omega⟩
  store:=⟨qCG 1,List.length_replicate ..⟩
  own:=by show z2 (3+i);rcases hi with rfl | rfl <;> decide
  oth:=by show z2 (4 - i);rcases hi with rfl | rfl <;> decide
  seq:=by show z2 0;decide
  ring:=qGw fill hg hg2
  up:=rfl
  next:=by show (0:Int)≤0∧(0:Int) < 4;omega
  out:=Nat.le_refl _
  got:=Nat.le_refl _
  cnt:=rfl
  win:=rfl
  feed:=rfl
  life:=rfl
  queue:=by show ([]:List BB).length≤1000;simp }
 p:=Nat.le_refl _
theorem qMb:qk0 (([false,false,false,false],[(none' UInt8,0,0,()),(none' UInt8,0,0,()),(none' UInt8,0,0,()),(none' UInt8,0,0,())],[0,0,0,0],0,()),0,())=some (hub1,0,()):=by kernel_rfl
def upH (h:THub):Prop:=h.1=[true,false,false,false]∧0≤h.2.2.2.1∧h.2.2.2.1 < 4
theorem qLR:upH hub1:=⟨rfl,by show (0:Int)≤0;omega,by show (0:Int) < 4;omega⟩
theorem qKz {h:THub} (hu:upH h):(wN h).2.2.1=0∧upH (wN h).1:=by
 refine ⟨?_,(qEq h).trans hu.1,qwF hu.2⟩
 obtain ⟨u,f,l,n,⟨⟩⟩:=h
 obtain ⟨h1,h2,h3⟩:=hu
 dsimp only at h1 h2 h3
 subst h1
 have hc:qMe [true,false,false,false] n.toNat=some 0:=by
  have:n=0∨n=1∨n=2∨n=3:=by omega
  rcases this with rfl | rfl | rfl | rfl <;> decide
 unfold wN
 dsimp only
 rw [hc]
def qIv (s:Si) (b:BB):Si:=⟨{ s.e with hub:=(wN s.e.hub).1,out:=s.e.out++[((wN s.e.hub).2.1,qoI (xA (qkV s.e b)++qc9 s.e.ring.1.2.1 (xA (qkV s.e b))),())],seq:=s.e.seq+1 },ptag s.p s.e.ring.1.2.1 (xA (qkV s.e b))⟩
theorem qAt {s:Si} {b:BB} (hb:qeA b) (hl:jJ s.e.ph) (hq:s.e.seq≤900000) (hu:upH s.e.hub):qbT s b=(qIv s b,0):=qIx hb hl hq (qKz hu).1
def qq4 (n:vP):BB:=wrM (msgN n)
theorem qnO {n:vP} (h:jR n):qeA (qq4 n):=⟨by
 unfold qq4 wrM
 rw [List.length_append,List.length_append,x7]
 split <;> omega,qKa h⟩
theorem qIc {n:vP} (h:jR n):rdN (qq4 n)=(n,0,()):=qL9 h
theorem qAk (n:Int):1≤kI n∧kI n≤999999:=by unfold kI;split <;> omega
def stN (s:Si) (q:vP):vP:=(q.1,q.2.1,kI s.e.stan,q.2.2.2)
theorem qE1 {s:Si} {q:vP} (hr:jR (stN s q)):qkP q.2.1 (kI s.e.stan) (qq4 (stN s q))=((q.2.1,kI s.e.stan,8,3,qq4 (stN s q),()),0,()):=by
 unfold qkP
 rw [if_pos]
 have h:=qAk s.e.stan
 exact ⟨hr.1,h.1,h.2,(qnO hr).1,(qnO hr).2⟩
def askS (s:Si) (q:vP):Si:=⟨{ s.e with stan:=kI s.e.stan,ask:=(q.2.1,kI s.e.stan,8,3,qq4 (stN s q),()) },s.p⟩
theorem qIf {s:Si} {q:vP} (hr:jR (stN s q)):quJ s q=askS s q:=by
 unfold quJ askS
 have e:wrN (q.1,q.2.1,kI s.e.stan,q.2.2.2)=(qq4 (stN s q),0,()):=qLK hr
 rw [e,qE1 hr]
theorem qGN {s:Si} {q:vP} (hr:jR (stN s q)) (h1:¬ q.2.1=1) (hl:jJ s.e.ph) (hq:s.e.seq≤900000) (hu:upH s.e.hub):qmJ s q=qIv (askS s q) (qq4 (stN s q)):=by
 have e:wrN (q.1,q.2.1,kI s.e.stan,q.2.2.2)=(qq4 (stN s q),0,()):=qLK hr
 unfold qmJ
 rw [e,qIf hr,qE1 hr,if_pos ⟨rfl,rfl⟩,if_neg h1]
 exact congrArg Prod.fst (qAt (s:=askS s q) (qnO hr) hl hq hu)
end Yp
namespace Yp
open Go
set_option maxRecDepth 100000
set_option maxHeartbeats 2000000
section
variable (i : Int) (fill : UInt8) (g : Nat) (nonce : BB)
end
end Yp
namespace Yp
open Go
set_option maxRecDepth 100000
set_option maxHeartbeats 2000000
set_option linter.unusedSectionVars false
section
variable {i : Int} (hi : i = 0 ∨ i = 1) (fill : UInt8) {g : Nat} (hg : 1 ≤ g) (hg2 : g ≤ 50) {nonce : BB} (h8 : nonce.length = 8) (bs bs' : List UInt64)
include hi hg hg2 h8
end
end Yp
namespace Yp
open Go
set_option maxRecDepth 100000
abbrev tyS:Ty := .pair (.pair (.int .i64) (.pair (.sl (.int .u8)) (.pair (.int .i64) (.pair (.pair (.sl (.int .u8)) (.pair (.sl (.int .u8)) (.unit))) (.pair (.int .i64) (.pair (.int .i64) (.pair (.int .i64) (.pair (.int .i64) (.pair (.int .i64) (.pair (.pair (.int .i64) (.pair (.ar 16 (.int .u64)) (.unit))) (.pair (.pair (.pair (.int .i64) (.pair (.sl (.int .u8)) (.unit))) (.pair (.pair (.int .i64) (.pair (.sl (.int .u8)) (.unit))) (.pair (.pair (.int .i64) (.pair (.sl (.int .u8)) (.unit))) (.pair (.int .i64) (.pair (.int .i64) (.unit)))))) (.pair (.pair (.int .i64) (.pair (.int .i64) (.pair (.int .i64) (.pair (.int .i64) (.pair (.sl (.int .u8)) (.unit)))))) (.pair (.int .i64) (.pair (.int .i64) (.pair (.sl (.sl (.int .u8))) (.pair (.pair (.ar 4 (.bool)) (.pair (.ar 4 (.pair (.sl (.int .u8)) (.pair (.int .i64) (.pair (.int .i64) (.unit))))) (.pair (.ar 4 (.int .i64)) (.pair (.int .i64) (.unit))))) (.pair (.sl (.pair (.int .i64) (.pair (.sl (.int .u8)) (.unit)))) (.pair (.sl (.pair (.int .i64) (.pair (.ar 2 (.int .i64)) (.pair (.int .i64) (.pair (.sl (.int .u8)) (.unit)))))) (.pair (.ar 4 (.int .i64)) (.unit)))))))))))))))))))) (.pair (.pair (.bool) (.pair (.sl (.pair (.sl (.int .u8)) (.pair (.sl (.int .u8)) (.unit)))) (.pair (.bool) (.unit)))) (.unit))
abbrev tyN:Ty := .pair (.bool) (.pair (.int .i64) (.pair (.int .i64) (.pair (.int .i64) (.pair (.int .i64) (.pair (.sl (.int .u8)) (.pair (.sl (.int .u8)) (.pair (.int .i64) (.unit))))))))
theorem qIt {x:vR} (h:okd tyS x):∃ s:Si,x=s.t∧qEc s.e:=by
 obtain ⟨s,rfl⟩:=qL2 x
 have e:=h.1
 exact ⟨s,rfl,e.2.2.2.2.2.2.2.2.2.1.2.1.1,e.2.2.2.2.2.2.2.2.2.2.2.2.2.2.2.1.1.1,e.2.2.2.2.2.2.2.2.2.2.2.2.2.2.2.1.2.1.1,e.2.2.2.2.2.2.2.2.2.2.2.2.2.2.2.1.2.2.1.1,e.2.2.2.2.2.2.2.2.2.2.2.2.2.2.2.2.2.2.1.1⟩
set_option maxHeartbeats 2000000
theorem qFi {l:List V}:∀ {last:Int},last≤128→zU last l=true→(l.length:Int)≤128 - last:=by
 induction l with
 | nil=>intro last h _;simp;omega
 | cons v l ih =>
  intro last h hr
  have h1:=xI hr v (List.mem_cons_self ..)
  have h2:=qyI h1.2
  have h3:zU v.1 l=true:=by
   unfold zU at hr
   rw [Bool.and_eq_true,Bool.and_eq_true] at hr
   exact hr.2.2
  have:=ih h2.2.1 h3
  simp only [List.length_cons]
  omega
theorem qkY {m:M} (h:xH m=true):m.2.1.length≤128∧fewM m:=by
 have hr:=(x4.1 h).1
 have hl:=qFi (by omega) hr
 exact ⟨by omega,by omega,fun v hv=>by have:=qEN (xI hr v hv).2;omega⟩
def clsD (m:Int):Int:=if jQ m then m / 100 else 0
def qxC (m:Int):Prop:=clsD m=1∨clsD m=2∨clsD m=4
instance (m:Int):Decidable (qxC m):=by unfold qxC;infer_instance
theorem qd3 (m:M):wH (m,())=some (D (qxC m.1),()):=by
 unfold wH qxC
 dsimp only
 rw [show qh1 (m.1,())=some (clsD m.1,()) from qvF m.1]
 refine (qF rfl).trans ?_
 dsimp only
 generalize clsD m.1=c
 by_cases h1:c=1
 ·subst h1;rw [D_t (.inl rfl)];rfl
 by_cases h2:c=2
 ·subst h2;rw [D_t (.inr (.inl rfl))];rfl
 by_cases h4:c=4
 ·subst h4;rw [D_t (.inr (.inr rfl))];rfl
 rw [D_f (by omega),qcZ h1,qcZ h2,qcZ h4];rfl
def qAw (m:M):Prop:=(getR 39 m.2.1).2.1=true∧(getR 39 m.2.1).1=[57,49]
instance (m:M):Decidable (qAw m):=by unfold qAw;infer_instance
theorem qGn (g:BB×Bool×Unit):(ob (sel g.2.1 (some (seq g.1 [57,49],())) (some (false,()))) fun (a:Bool×Unit)=>(some (a.1,()):Option (Bool×Unit)))=some (D (g.2.1=true∧g.1=[57,49]),()):=by
 obtain ⟨b,e,⟨⟩⟩:=g
 cases e
 ·rw [D_f (fun h=>Bool.false_ne_true h.1)];rfl
 ·refine (qF rfl).trans ?_
  by_cases h:b=[57,49]
  ·rw [D_t ⟨rfl,h⟩,qKl h]
  ·rw [D_f (fun x=>h x.2),qL4 h]
theorem qvG {m:M} (hr:zU 0 m.2.1=true) (hl:m.2.1.length≤1000000):qd4 (m,())=some (D (qAw m),()):=by
 unfold qd4 qAw
 dsimp only
 rw [qpJ _ _ hl,qBi hr]
 exact (qF rfl).trans (qGn _)
def stM (m:M) (day:Int):M:=(m.1,setR m.2.1 (15,dg day 6,()),())
def badS (b:BB) (day:Int):Prop:=day < 0∨999999 < day∨¬ (rdM b).2.1=0∨¬ qxC (rdM b).1.1∨qAw (rdM b).1
instance (b:BB) (day:Int):Decidable (badS b day):=by unfold badS;infer_instance
def qf6 (b:BB) (day:Int):BB×Int :=
 if badS b day then ([],1) else if 900 < (wrM (stM (rdM b).1 day)).length then ([],4) else (wrM (stM (rdM b).1 day),0)
theorem qJ2 (day:Int):xD 15 (dg day 6)=true:=qbL (no:=15) (w:=6) fo15 (by omega)
theorem qAl {m:M} (h:xH m=true) (day:Int):xH (stM m day)=true:=by
 have h1:=x4.1 h
 exact x4.2 ⟨qFe (x:=(15,dg day 6,())) (qJ2 day) (by show (0:Int) < 15;omega) h1.1,h1.2⟩
theorem qGJ {b:BB} (h:(rdM b).2.1=0):xH (rdM b).1=true∧wrM (rdM b).1=b:=by
 exact qsP (b:=b) (Prod.ext rfl (Prod.ext h rfl))
theorem qFd {day:Int} (h0:0≤day) (h1:day≤999999):x6 (day,6,())=some (dg day 6,0,())∧j8 (day,6,())=some (dg day 6,0,()):=by
 rw [yD _ _ (by omega),vM _ _ (by omega),if_pos ⟨by omega,by omega,h0,by show day < 10 ^ 6;omega⟩]
 exact ⟨rfl,rfl⟩
theorem qFc {m:M} (hm:xH m=true) (day:Int) {e:Int}:(sel (lt 900 (len (wrM (stM m day)))) (some (none' UInt8,4,())) (some (wrM (stM m day),0,())):Option (BB×Int×Unit))=some ((if 900 < (wrM (stM m day)).length then (([]:BB),(4:Int)) else (wrM (stM m day),0)).1,(if 900 < (wrM (stM m day)).length then (([]:BB),(4:Int)) else (wrM (stM m day),0)).2,()):=by
 by_cases h:900 < (wrM (stM m day)).length
 ·rw [if_pos h];exact qE (by simp only [go_sem,Int.reduceToNat];omega)
 ·rw [if_neg h];exact qB (by simp only [go_sem,Int.reduceToNat];omega)
theorem qh7 (b:BB) (day:Int) (hb:b.length≤1000000):qd7 (b,day,())=some ((qf6 b day).1,(qf6 b day).2,()):=by
 unfold qd7 qf6
 rw [qmX _ hb]
 refine (qF rfl).trans ?_
 dsimp only
 by_cases h1:day < 0
 ·rw [if_pos (show badS b day from .inl h1)]
  exact (qF (qE (by simp only [go_sem,Int.reduceToNat];omega))).trans rfl
 by_cases h2:999999 < day
 ·rw [if_pos (show badS b day from .inr (.inl h2))]
  exact (qF ((qB (by simp only [go_sem,Int.reduceToNat];omega)).trans (qE (by simp only [go_sem,Int.reduceToNat];omega)))).trans rfl
 by_cases h3:(rdM b).2.1=0
 ·obtain ⟨hr,hw⟩:=qGJ h3
  obtain ⟨hl,hf⟩:=qkY hr
  have hr0:=(x4.1 hr).1
  rw [qd3,qvG hr0 (by omega)]
  by_cases h4:qxC (rdM b).1.1
  ·by_cases h5:qAw (rdM b).1
   ·rw [if_pos (show badS b day from .inr (.inr (.inr (.inr h5)))),D_t h4,D_t h5]
    exact (qF ((qB (by simp only [go_sem,Int.reduceToNat];omega)).trans ((qB (by simp only [go_sem,Int.reduceToNat];omega)).trans ((qB (bq_f h3)).trans rfl)))).trans rfl
   ·rw [if_neg (show ¬ badS b day by rintro (h | h | h | h | h) <;> first | exact h1 h | exact h2 h | exact h h3 | exact h h4 | exact h5 h),D_t h4,D_f h5]
    refine (qF (a:=(false,())) ((qB (by simp only [go_sem,Int.reduceToNat];omega)).trans ((qB (by simp only [go_sem,Int.reduceToNat];omega)).trans ((qB (bq_f h3)).trans rfl)))).trans ((qB rfl).trans ?_)
    rw [(qFd (by omega) (by omega)).1]
    refine (qF rfl).trans ((qH (by simp only [go_sem,Int.reduceToNat,z9];omega)).trans ?_)
    rw [show jU ((rdM b).1,15,(dg day 6,(0:Int),()).1,())=some (stM (rdM b).1 day,0,()) by
     rw [qpI _ _ _ (by omega) (by rw [z9];omega)]
     unfold qIu
     rw [if_neg (by rw [fo15];simp),if_pos (qJ2 day),qE8 hr0];rfl]
    refine (qF rfl).trans ?_
    have hs:=qAl hr day
    rw [qkD _ (qkY hs).2,if_pos hs]
    exact (qF rfl).trans (qFc hr day (e:=0))
  ·rw [if_pos (show badS b day from .inr (.inr (.inr (.inl h4)))),D_f h4]
   exact (qF ((qB (by simp only [go_sem,Int.reduceToNat];omega)).trans ((qB (by simp only [go_sem,Int.reduceToNat];omega)).trans ((qB (bq_f h3)).trans rfl)))).trans rfl
 ·rw [if_pos (show badS b day from .inr (.inr (.inl h3)))]
  exact (qF ((qB (by simp only [go_sem,Int.reduceToNat];omega)).trans ((qB (by simp only [go_sem,Int.reduceToNat];omega)).trans (qE (bq_t h3))))).trans rfl
instance (n:vP):Decidable (fewN n):=by unfold fewN;infer_instance
end Yp
namespace Yp
open Go
set_option maxRecDepth 100000
set_option maxHeartbeats 2000000
set_option linter.unusedSectionVars false
section
variable {i : Int} (hi : i = 0 ∨ i = 1) (fill : UInt8) {g : Nat} (hg : 1 ≤ g) (hg2 : g ≤ 50) {nonce : BB} (h8 : nonce.length = 8) (bs bs' : List UInt64)
include hi hg hg2 h8
end
end Yp
namespace Yp
open Go
set_option maxRecDepth 100000
set_option maxHeartbeats 2000000
set_option linter.unusedSectionVars false
section
variable (fill : UInt8) {g : Nat} (hg : 1 ≤ g) (hg2 : g ≤ 50) {nonce : BB} (h8 : nonce.length = 8)
include hg hg2 h8
end
end Yp
namespace Yp
open Go
set_option maxRecDepth 100000
set_option maxHeartbeats 2000000
def qwN (s:Si) (p:Int):Si:=⟨qI3 s.e p,s.p⟩
theorem qI2 (e:En') (p:Int):(qI3 e p).got.length≤e.got.length+1:=by
 show (if jJ e.ph then e.got++[(5,qk2 e,0,[],())] else e.got).length≤_
 split
 ·rw [List.length_append];exact Nat.le_refl _
 ·omega
theorem qG9 {n:Nat} {s:Si} (h:okS n s) {p:Int} (h0:0≤p) (h8:p≤8):okS (n+1) (qwN s p):=by
 refine ⟨{ qxX h.e (Nat.le_succ n) with ph:=⟨h0,h8⟩,own:=by show z2 0;decide,oth:=by show z2 0;decide,seq:=by show z2 0;decide,ring := .inl rfl,got := ?_,win:=rfl,queue:=by show ([]:List BB).length≤1000;simp },Nat.le_succ_of_le h.p⟩
 have h1:=qI2 s.e p
 have h2:=h.e.got
 exact Nat.le_trans h1 (by omega)
def phS (s:Si) (p:Int):Si:=⟨{ s.e with ph:=p },s.p⟩
theorem qG8 {n:Nat} {s:Si} (h:okS n s) {p:Int} (h0:0≤p) (h8:p≤8):okS n (phS s p):=⟨{ h.e with ph:=⟨h0,h8⟩ },h.p⟩
def evS (s:Si) (k n:Int) (b:BB):Si:=⟨{ s.e with got:=s.e.got++[(k,qk2 s.e,n,b,())] },s.p⟩
theorem qMp {n:Nat} {s:Si} (h:okS n s) (k q:Int) (b:BB):okS (n+1) (evS s k q b):=by
 refine ⟨{ qxX h.e (Nat.le_succ n) with got := ?_ },Nat.le_succ_of_le h.p⟩
 have:=h.e.got
 show (s.e.got++[(k,qk2 s.e,q,b,())]).length≤n+1
 rw [List.length_append,List.length_singleton];omega
theorem qh6 {s:Si} {n:Nat} (hs:okS n s) (hn:n≤900000) (k q:Int) (b:BB):qd6 (s.t,k,q,b,())=some ((evS s k q b).t,()):=by
 have hg:=hs.e.got
 unfold qd6
 dsimp only
 rw [show s.t.1.2.2.2.2.2.2.2.2.2.2.2.2.2.2.2.2.2.1=s.e.got from rfl,qFC]
 refine (qF rfl).trans ?_
 rw [show kX (s.t.1,())=_ from qcQ s.e]
 refine (qF rfl).trans ?_
 refine (qH (by simp only [go_sem,Int.reduceToNat];simp;omega)).trans ?_
 rfl
def popS (s:Si) (q:List BB):Si:=⟨{ s.e with queue:=q },s.p⟩
theorem qG7 {n:Nat} {s:Si} (h:okS n s) {q:List BB} (hq:q.length≤1000):okS n (popS s q):=⟨{ h.e with queue:=hq },h.p⟩
def qFj:Nat→Si→Si
 | 0,s=>s
 | n+1,s=>match s.e.queue with
  | []=>s
  | b :: q=>if (qbT s b).2=0 then qFj n (popS (qbT s b).1 q) else s
def qKy (s:Si):Si:=qFj s.e.queue.length s
theorem qGQ {f:vR×Unit→Option (LS (vR×Unit) (vR×Unit))}
  (h0:∀ s n,okS n s→n≤900000→s.e.queue=[]→f (s.t,())=some (.ex 0 (s.t,())))
  (h1:∀ s n b q,okS n s→n≤900000→s.e.queue=b :: q→(qbT s b).2=0→f (s.t,())=some (.nx ((popS (qbT s b).1 q).t,())))
  (h2:∀ s n b q,okS n s→n≤900000→s.e.queue=b :: q→¬ (qbT s b).2=0→f (s.t,())=some (.ex 0 (s.t,()))∨f (s.t,())=some (.rt (s.t,()))) :
  ∀ k (s:Si) n,okS n s→n+k≤900000→s.e.queue.length=k →
   lc (loop f (s.t,())) (fun (_:vR×Unit)=>none) (fun (i:Nat) (a:vR×Unit)=>ck (neb i 0) (some (a.1,()))) (fun (r:vR×Unit)=>some r)=some ((qFj k s).t,()):=by
 intro k
 induction k with
 | zero =>
  intro s n hs hn hk
  exact (qZ (qU (h0 s n hs (by omega) (List.length_eq_zero_iff.1 hk)))).trans rfl
 | succ k ih =>
  intro s n hs hn hk
  obtain ⟨b,q,hq⟩:∃ b q,s.e.queue=b :: q:=by
   cases h:s.e.queue with
   | nil=>rw [h] at hk;cases hk
   | cons b q=>exact ⟨b,q,rfl⟩
  have hl:q.length=k:=by rw [hq,List.length_cons] at hk;omega
  have hq1:=hs.e.queue
  rw [hq,List.length_cons] at hq1
  unfold qFj
  rw [hq]
  dsimp only
  by_cases h:(qbT s b).2=0
  ·rw [if_pos h]
   exact (qZ (v5 (h1 s n b q hs (by omega) hq h))).trans (ih _ (n+1) (qG7 (qxW hs b) (by omega)) (by omega) hl)
  ·rw [if_neg h]
   rcases h2 s n b q hs (by omega) hq h with h' | h'
   ·exact (qZ (qU h')).trans rfl
   ·exact (qZ (qfH h')).trans rfl
theorem take_nil {q:List BB} (h:q=[]):qdO (q,())=some ([],[],false,()):=by subst h;rfl
theorem qAi {q r:List BB} {b:BB} (h:q=b :: r) (hl:q.length≤1000000):qdO (q,())=some (b,r,true,()):=by
 subst h
 have hl':r.length+1≤1000000:=hl
 unfold qdO
 dsimp only
 refine (qB (by simp only [go_sem,Int.reduceToNat];simp only [List.length_cons];omega)).trans ((qH (by simp only [go_sem,Int.reduceToNat];simp only [List.length_cons];omega)).trans ((qH (by simp only [go_sem,Int.reduceToNat];simp only [List.length_cons];omega)).trans ?_))
 unfold kK
 dsimp only
 rw [show sub (b :: r) 1 (len (b :: r))=r by simp [sub,len]]
 refine (qF (qH (by simp only [go_sem,Int.reduceToNat];omega))).trans rfl
theorem qkE {s:Si} {n:Nat} (hs:okS n s) (hn:n≤800000):qh8 (s.t,())=some ((qKy s).t,()):=by
 unfold qh8
 have hq:=hs.e.queue
 refine qGQ ?_ ?_ ?_ s.e.queue.length s n hs (by omega) rfl
 ·intro s n hs hn h
  exact (z1 (take_nil h)).trans rfl
 ·intro s n b q hs hn h hz
  have hq:=hs.e.queue
  refine (z1 (qAi h (by omega))).trans ((qF rfl).trans ((qB rfl).trans ?_))
  refine (z1 (y8 hs hn b)).trans ((qF rfl).trans ((qB (bq_f hz)).trans ?_))
  rfl
 ·intro s n b q hs hn h hz
  have hq:=hs.e.queue
  refine .inl ((z1 (qAi h (by omega))).trans ((qF rfl).trans ((qB rfl).trans ?_)))
  exact (z1 (y8 hs hn b)).trans ((qF rfl).trans (qE (bq_t hz)))
def putQ (q:List BB) (b:BB):List BB×Int:=if 8≤q.length then (q,8) else (q++[b],0)
theorem qu7 (q:List BB) (b:BB):qmI (q,b,8,())=some ((putQ q b).1,(putQ q b).2,()):=by
 unfold qmI putQ qdP
 dsimp only
 rw [if_neg (by omega)]
 by_cases h:8 < (q.length:Int)
 ·rw [if_pos h,if_pos (by omega)];rfl
 ·rw [if_neg h]
  refine (qF rfl).trans ?_
  dsimp only
  rw [show (8:Int).toNat=8 from rfl,List.length_singleton]
  by_cases h8:q.length=8
  ·rw [if_pos (by omega),h8];rfl
  ·rw [if_neg (by omega),show min (8 - q.length) 1=1 by omega,List.take_of_length_le (by rw [List.length_singleton];omega)];rfl
def subS (s:Si) (b:BB):Si×Int :=
 if ¬ (qf6 b s.e.day).2=0 then (s,(qf6 b s.e.day).2) else if ¬ qfU s.e.ph then (s,7)
 else if ¬ (putQ s.e.queue (qf6 b s.e.day).1).2=0 then (s,(putQ s.e.queue (qf6 b s.e.day).1).2)
 else (qKy (evS (popS s (putQ s.e.queue (qf6 b s.e.day).1).1) 1 0 (qf6 b s.e.day).1),0)
theorem qIL {q:List BB} {b:BB} (h:q.length≤1000):(putQ q b).1.length≤1000:=by
 unfold putQ
 split
 ·exact h
 ·rw [List.length_append,List.length_singleton];omega
theorem qgL {s:Si} {n:Nat} (hs:okS n s) (hn:n≤700000) (b:BB) (hb:b.length≤1000000):qbJ (s.t,b,())=some ((subS s b).1.t,(subS s b).2,()):=by
 unfold qbJ subS
 refine (z1 (qh7 b s.e.day hb)).trans ((qF rfl).trans ?_)
 generalize qf6 b s.e.day=r
 obtain ⟨o,e⟩:=r
 dsimp only
 by_cases h0:e=0
 ·subst h0
  rw [if_neg (by simp)]
  refine (qB rfl).trans ((z1 (qa9 s.e.ph)).trans ((qF rfl).trans ?_))
  by_cases hg:qfU s.e.ph
  ·rw [if_neg (not_not_intro hg)]
   refine (qB (by rw [D_t hg];rfl)).trans ((z1 (qu7 s.e.queue o)).trans ((qF rfl).trans ?_))
   have hl:=qIL (b:=o) hs.e.queue
   generalize putQ s.e.queue o=p at hl ⊢
   obtain ⟨q,c⟩:=p
   dsimp only at hl ⊢
   by_cases hc:c=0
   ·subst hc
    rw [if_neg (by simp)]
    have h1:=qG7 hs hl
    refine (qB rfl).trans ((z1 (qh6 h1 (by omega) 1 0 o)).trans ((qF rfl).trans ?_))
    exact (z1 (qkE (qMp h1 1 0 o) (by omega))).trans rfl
   ·rw [if_pos hc]
    exact qE (bq_t hc)
  ·rw [if_pos hg]
   exact qE (by rw [D_f hg];rfl)
 ·rw [if_pos h0]
  exact qE (bq_t h0)
def dayQ (day:Int):vP:=(true,201,0,0,0,[],[],day,())
def qvM (s:Si) (day:Int):Si×Int :=
 if day≤s.e.day∨999999 < day then (s,1) else if ¬ qfU s.e.ph then (s,7) else if ¬ s.e.ph=3∨¬ s.e.ask.1=0 then (s,9)
 else (qmJ (phS s 5) (dayQ day),0)
theorem qEx {n:Nat} {s:Si} (h:okS n s) (day:Int):okS (n+1) (qvM s day).1:=by
 unfold qvM
 split
 ·exact qaA h (by omega)
 split
 ·exact qaA h (by omega)
 split
 ·exact qaA h (by omega)
 ·exact qG6 (qG8 h (by omega) (by omega)) _
theorem qGX:qdR (3,7,())=some (5,true,()):=rfl
theorem qGW:qdR (5,8,())=some (3,true,()):=rfl
theorem qkF {s:Si} {n:Nat} (hs:okS n s) (hn:n≤900000) (day:Int):qiB (s.t,day,())=some ((qvM s day).1.t,(qvM s day).2,()):=by
 unfold qiB qvM
 dsimp only
 rw [show s.t.1.2.2.2.2.2.2.2.2.2.2.2.2.2.1=s.e.day from rfl,show s.t.1.2.2.1=s.e.ph from rfl,show s.t.1.2.2.2.2.2.2.2.2.2.2.2.1.1=s.e.ask.1 from rfl]
 by_cases h1:day≤s.e.day∨999999 < day
 ·rw [if_pos h1]
  refine (qF (a:=(true,())) ?_).trans rfl
  simp only [go_sem,Int.reduceToNat]
  exact qbV h1
 ·rw [if_neg h1]
  refine (qF (a:=(false,())) (by simp only [go_sem,Int.reduceToNat];exact yN (by omega))).trans ((qB rfl).trans ?_)
  rw [qa9]
  refine (qF rfl).trans ?_
  by_cases h2:qfU s.e.ph
  ·rw [if_neg (not_not_intro h2),D_t h2]
   refine (qB rfl).trans ?_
   by_cases h3:¬ s.e.ph=3∨¬ s.e.ask.1=0
   ·rw [if_pos h3]
    refine (qF (a:=(true,())) (by simp only [go_sem,Int.reduceToNat];exact qbV h3)).trans rfl
   ·rw [if_neg h3]
    refine (qF (a:=(false,())) (by simp (disch:=omega) only [go_sem,Int.reduceToNat];exact yN (fun h=>h3 (.inr h)))).trans ((qB rfl).trans ?_)
    simp only [not_or,Classical.not_not] at h3
    rw [h3.1,qGX]
    refine (qF rfl).trans ?_
    exact (z1 (qlO (qG8 hs (p:=5) (by omega) (by omega)) hn (dayQ day))).trans rfl
  ·rw [if_pos h2,D_f h2];rfl
theorem qr5 {s:Si} {n:Nat} (hs:okS n s) (hn:n≤900000) (day:Int):qi3 (s.t,day,())=some ((qvM s day).1.t,(qvM s day).2,()):=by
 unfold qi3 qvM
 dsimp only
 rw [show s.t.1.2.2.2.2.2.2.2.2.2.2.2.2.2.1=s.e.day from rfl,show s.t.1.2.2.1=s.e.ph from rfl,show s.t.1.2.2.2.2.2.2.2.2.2.2.2.1.1=s.e.ask.1 from rfl]
 by_cases h1:day≤s.e.day∨999999 < day
 ·rw [if_pos h1]
  refine (qF (a:=(true,())) ?_).trans rfl
  simp only [go_sem,Int.reduceToNat]
  exact qbV h1
 ·rw [if_neg h1]
  refine (qF (a:=(false,())) (by simp only [go_sem,Int.reduceToNat];exact yN (by omega))).trans ((qB rfl).trans ?_)
  rw [qaX]
  refine (qF rfl).trans ?_
  by_cases h2:qfU s.e.ph
  ·rw [if_neg (not_not_intro h2),D_t h2]
   refine (qB rfl).trans ?_
   by_cases h3:¬ s.e.ph=3∨¬ s.e.ask.1=0
   ·rw [if_pos h3]
    refine (qF (a:=(true,())) (by simp only [go_sem,Int.reduceToNat];exact qbV h3)).trans rfl
   ·rw [if_neg h3]
    refine (qF (a:=(false,())) (by simp (disch:=omega) only [go_sem,Int.reduceToNat];exact yN (fun h=>h3 (.inr h)))).trans ((qB rfl).trans ?_)
    exact (z1 (qkZ (qG8 hs (p:=5) (by omega) (by omega)) hn (dayQ day))).trans rfl
  ·rw [if_pos h2,D_f h2];rfl
def givG (s:Si):Si:=if s.e.ph=5 then ⟨qAP s.e,s.p⟩ else s
theorem qcS {s:Si} (h:s.e.ph=5):qd5 (s.t,())=some ((⟨qAP s.e,s.p⟩:Si).t,()):=by
 unfold qd5
 rw [show (s.t,()).1.1.2.2.1=5 from h,qGW];rfl
theorem qh9 (s:Si):qd8 (s.t,())=some ((givG s).t,()):=by
 unfold qd8 givG
 by_cases h:s.e.ph=5
 ·rw [if_pos h]
  refine (qB (bq_f h)).trans ?_
  exact (z1 (qcS h)).trans rfl
 ·rw [if_neg h]
  exact qE (bq_t h)
theorem qf9 (s:Si):qaS (s.t,())=some ((givG s).t,()):=by
 unfold qaS givG
 by_cases h:s.e.ph=5
 ·rw [if_pos h]
  exact (qB (bq_f h)).trans rfl
 ·rw [if_neg h]
  exact qE (bq_t h)
def qvA (s:Si) (day:Int):Si:=⟨{ s.e with day:=maxI s.e.day day },s.p⟩
theorem qrC {n:Nat} {s:Si} (h:okS n s) (day:Int):okS n (qvA s day):=⟨{ h.e with },h.p⟩
theorem qf8 (s:Si) (day:Int):qaR (s.t,day,())=some ((qvA s day).t,()):=by
 unfold qaR
 dsimp only
 rw [show s.t.1.2.2.2.2.2.2.2.2.2.2.2.2.2.1=s.e.day from rfl]
 by_cases h:s.e.day < day
 ·refine (qE (by simp only [go_sem,Int.reduceToNat];omega)).trans ?_
  have e:maxI s.e.day day=day:=by unfold maxI;split <;> omega
  have:qvA s day=⟨{ s.e with day:=day },s.p⟩:=by unfold qvA;rw [e]
  rw [this];rfl
 ·refine (qB (by simp only [go_sem,Int.reduceToNat];omega)).trans ?_
  have e:maxI s.e.day day=s.e.day:=by unfold maxI;split <;> omega
  have:qvA s day=s:=by unfold qvA;rw [e]
  rw [this]
def qLl (s:Si) (n:vP):Si:=(qbT (qvA s n.2.2.2.2.2.2.2.1) (qAF n 0)).1
theorem qIV {m:Nat} {s:Si} (h:okS m s) (n:vP):okS (m+1) (qLl s n):=qxW (qrC h _) _
theorem qiA {s:Si} {m:Nat} (hs:okS m s) (hm:m≤900000) (n:vP):qd9 (s.t,n,())=some ((qLl s n).t,()):=by
 unfold qd9
 exact qJw (qrC hs n.2.2.2.2.2.2.2.1) hm n 0
theorem qqG {s:Si} {m:Nat} (hs:okS m s) (hm:m≤900000) (n:vP):qeP (s.t,n,())=some ((qLl s n).t,()):=by
 unfold qeP
 dsimp only
 rw [qf8]
 refine (qF rfl).trans ?_
 rw [qqI]
 refine (qF rfl).trans ?_
 exact (z1 (qg6 (qrC hs n.2.2.2.2.2.2.2.1) hm (qAF n 0))).trans rfl
noncomputable def agrS (s:Si) (n:vP):Si :=
 if ¬ s.e.ph=5∨¬ qmR s.e.ask n.2.1 n.2.2.1 then qtO s 3
 else if n.2.2.2.1=0 then qvA ⟨qAP s.e,s.p⟩ (rdN s.e.ask.2.2.2.2.1).1.2.2.2.2.2.2.2.1 else ⟨qAP s.e,s.p⟩
theorem qgM {s:Si} (n:vP) (hb:s.e.ask.2.2.2.2.1.length≤1000000):qbK (s.t,n,())=some ((agrS s n).t,()):=by
 unfold qbK agrS
 dsimp only
 rw [show s.t.1.2.2.1=s.e.ph from rfl,show s.t.1.2.2.2.2.2.2.2.2.2.2.2.1=s.e.ask from rfl,qv1]
 by_cases h5:s.e.ph=5
 ·by_cases hm:qmR s.e.ask n.2.1 n.2.2.1
  ·rw [if_neg (fun h=>h.elim (fun h=>h h5) (fun h=>h hm)),D_t hm]
   refine (qF (a:=(false,())) ((qB (bq_f h5)).trans rfl)).trans ((qB rfl).trans ?_)
   rw [qu8 _ hb]
   refine (qF rfl).trans ?_
   by_cases hr:n.2.2.2.1=0
   ·rw [if_pos hr]
    refine (qE (qnQ hr)).trans ?_
    exact (z1 (qcS (s:=qvA s (rdN s.e.ask.2.2.2.2.1).1.2.2.2.2.2.2.2.1) h5)).trans rfl
   ·rw [if_neg hr]
    refine (qB (qcZ hr)).trans ?_
    exact (z1 (qcS h5)).trans rfl
  ·rw [if_pos (.inr hm),D_f hm]
   exact (qF (a:=(true,())) ((qB (bq_f h5)).trans rfl)).trans ((qE rfl).trans (qw2 s))
 ·rw [if_pos (.inl h5)]
  exact (qF (a:=(true,())) (qE (bq_t h5))).trans ((qE rfl).trans (qw2 s))
theorem qoB {s:Si} (n:vP) (hb:s.e.ask.2.2.2.2.1.length≤1000000):qbW (s.t,n,())=some ((agrS s n).t,()):=by
 unfold qbW agrS
 dsimp only
 rw [show s.t.1.2.2.1=s.e.ph from rfl,show s.t.1.2.2.2.2.2.2.2.2.2.2.2.1=s.e.ask from rfl,qqN]
 refine (qF rfl).trans ?_
 dsimp only
 by_cases h5:s.e.ph=5
 ·by_cases hm:qmR s.e.ask n.2.1 n.2.2.1
  ·rw [if_neg (fun h=>h.elim (fun h=>h h5) (fun h=>h hm)),D_t hm]
   refine (qF (a:=(false,())) ((qB (bq_f h5)).trans rfl)).trans ((qB rfl).trans ?_)
   rw [qr8 _ hb]
   refine (qF rfl).trans ?_
   rw [qf9,show givG s=⟨qAP s.e,s.p⟩ by unfold givG;rw [if_pos h5]]
   refine (qF rfl).trans ?_
   by_cases hr:n.2.2.2.1=0
   ·rw [if_pos hr]
    refine (qB (bq_f hr)).trans ?_
    exact (z1 (qf8 ⟨qAP s.e,s.p⟩ (rdN s.e.ask.2.2.2.2.1).1.2.2.2.2.2.2.2.1)).trans rfl
   ·rw [if_neg hr]
    exact qE (bq_t hr)
  ·rw [if_pos (.inr hm),D_f hm]
   exact (qF (a:=(true,())) ((qB (bq_f h5)).trans rfl)).trans ((qE rfl).trans (qv8 s))
 ·rw [if_pos (.inl h5)]
  exact (qF (a:=(true,())) (qE (bq_t h5))).trans ((qE rfl).trans (qv8 s))
theorem qKK {m:Nat} {s:Si} (h:okS m s) (n:vP):okS m (agrS s n):=by
 have ho:okS m ⟨qAP s.e,s.p⟩:=⟨{ h.e with ph:=⟨by show (0:Int)≤3;omega,by show (3:Int)≤8;omega⟩ },h.p⟩
 unfold agrS
 split
 ·exact qHa h 3
 split
 ·exact qrC ho _
 ·exact ho
def oqS (h:THub):Si:=⟨{ twE 0 (u8 0) 1 with hub:=h },(true,[],false,())⟩
theorem qKG:qjQ (true,())=some ((oqS hub1).t,()):=by
 unfold qjQ
 refine (qH rfl).trans ?_
 rw [show rep (nat 32) (u8 0)=twK (u8 0) from rfl,show qg8 (twK (u8 0),[3,4],1,none' UInt8,())=_ from quQ (twK (u8 0)) [3,4] 1 [] (by rw [qv6];omega) (by simp)]
 refine (qF rfl).trans ?_
 dsimp only
 rw [show keyD (twK (u8 0)) [3,4] 1 []=twG (u8 0) 1 from rfl,quW,show newR (twG (u8 0) 1)=(twR (u8 0) 1,0,()) by unfold newR;rw [if_pos (qiX (u8 0) (by omega))];rfl]
 refine (qF rfl).trans ((qE rfl).trans ?_)
 dsimp only
 rw [qMb]
 refine (qF rfl).trans ?_
 rw [quU]
 refine (qF rfl).trans ?_
 exact (qF (o:=qmF _) rfl).trans rfl
theorem qMo {h:THub} (h1:h.1.length=4) (h2:0≤h.2.2.2.1∧h.2.2.2.1 < 4) (h3:h.2.1.length=4) (h4:h.2.2.1.length=4):okS 0 (oqS h):=by
 have:=qMn 0 (.inl rfl) (u8 0) (g:=1) (by omega) (by omega)
 exact ⟨{ this.e with up:=h1,next:=h2,feed:=h3,life:=h4 },this.p⟩
theorem qKH:okS 0 (oqS hub1):=qMo rfl ⟨by show (0:Int)≤0;omega,by show (0:Int) < 4;omega⟩ rfl rfl
def payM (mti:Int):M:=(mti,[(11,[48,48,48,48,48,55],())],())
def payB (mti:Int):BB:=wrM (payM mti)
theorem qjN {mti:Int} (h:mti=200∨mti=400):xH (payM mti)=true:=by rcases h with rfl | rfl <;> decide
theorem qrB {mti:Int} (h:mti=200∨mti=400):qbG (mti,())=some (payB mti,()):=by
 unfold qbG
 have hr:=qjN h
 rw [show vZ ((mti,[(11,[u8 48,u8 48,u8 48,u8 48,u8 48,u8 55],())],()),())=vZ (payM mti,()) from rfl,qgF _ (qkY hr).2,if_pos hr];rfl
def payD (day:Int):M:=(200,[(11,[48,48,48,48,48,55],()),(15,dg day 6,())],())
theorem qGd (day:Int):stM (payM 200) day=payD day:=rfl
theorem qwG (day:Int):xH (payD day)=true:=qAl (qjN (.inl rfl)) day
theorem qmK (day:Int):qeA (wrM (payD day)):=by
 refine ⟨?_, ?_⟩
 ·unfold wrM
  rw [List.length_append,List.length_append,x7]
  split <;> omega
 ·have:=qF1 (qwG day)
  have h:((payD day).2.1.map (fun v=>v.2.1.length+2)).sum=16:=by
   show 6+2+((dg day 6).length+2+0)=16
   rw [z9]
  omega
theorem qrU {day:Int} (h0:0≤day) (h1:day≤999999):qf6 (payB 200) day=(wrM (payD day),0):=by
 have hr:rdM (payB 200)=(payM 200,0,()):=qq8 (qjN (.inl rfl))
 unfold qf6
 rw [if_neg,hr]
 ·rw [if_neg,qGd]
  have:=(qmK day).2
  show ¬ 900 < (wrM (stM (payM 200) day)).length
  rw [qGd];omega
 ·unfold badS
  rw [hr]
  rintro (h | h | h | h | h)
  ·omega
  ·omega
  ·exact h rfl
  ·exact h (by show qxC 200;decide)
  ·exact absurd h (by show ¬ qAw (payM 200);decide)
theorem qIw (s:Si) (b:BB):(qbT s b).1.e.day=s.e.day:=by
 unfold qbT
 split
 ·rfl
 split
 ·rfl
 split
 ·rfl
 have h:(qiF s (qkV s.e b) s.e.ring.1.2.1).1.e.day=s.e.day:=by unfold qiF;split <;> rfl
 dsimp only
 split <;> exact h
def zO (day:Int):BB:=wrM (payD day)
def zX:Si:=popS (qIv (evS (popS (oqS hub1) [zO 0]) 1 0 (zO 0)) (zO 0)) []
theorem qM0:subS (oqS hub1) (payB 200)=(zX,0):=by
 unfold subS
 rw [show (oqS hub1).e.day=0 from rfl,qrU (by omega) (by omega),if_neg (not_not_intro rfl),if_neg (not_not_intro (show qfU (oqS hub1).e.ph from .inl rfl)),show putQ (oqS hub1).e.queue (wrM (payD 0),(0:Int)).1=([zO 0],0) from rfl,if_neg (not_not_intro rfl)]
 refine Prod.ext ?_ rfl
 show qFj 1 (evS (popS (oqS hub1) [zO 0]) 1 0 (zO 0))=zX
 unfold qFj
 rw [show (evS (popS (oqS hub1) [zO 0]) 1 0 (zO 0)).e.queue=[zO 0] from rfl]
 dsimp only
 rw [qAt (s:=evS (popS (oqS hub1) [zO 0]) 1 0 (zO 0)) (b:=zO 0) (qmK 0) (by show jJ 3;unfold jJ;omega) (by show (0:Int)≤900000;omega) qLR,if_pos rfl]
 rfl
theorem qoS {s:Si} {day:Int} (h0:0≤day) (h9:day≤999999):jR (stN s (dayQ day)):=by
 have h:=qAk s.e.stan
 refine ⟨.inr (.inr (.inr (.inl rfl))),h.1,h.2,by show (0:Int)≤0;omega,by show (0:Int)≤99;omega,fun _=>rfl, ?_⟩
 unfold qA5
 rw [if_neg (fun q=>absurd q.2 (by show ¬ (201:Int)=101;omega))]
 refine ⟨rfl,rfl,rfl, ?_⟩
 rw [if_pos ⟨rfl,rfl⟩]
 exact ⟨h0,h9⟩
def datS (s:Si) (day:Int):Si:=qIv (askS (phS s 5) (dayQ day)) (qq4 (stN (phS s 5) (dayQ day)))
theorem qLk {s:Si} {day:Int} (h0:0≤s.e.day) (hd:s.e.day < day) (h9:day≤999999) (hp:s.e.ph=3) (ha:s.e.ask.1=0) (hq:s.e.seq≤900000) (hu:upH s.e.hub):qvM s day=(datS s day,0):=by
 unfold qvM
 rw [if_neg (by omega),if_neg (not_not_intro (show qfU s.e.ph by rw [hp];exact .inl rfl)),if_neg (by omega)]
 refine Prod.ext ?_ rfl
 exact qGN (s:=phS s 5) (qoS (by omega) h9) (by show ¬ (201:Int)=1;omega) (by show jJ 5;unfold jJ;omega) hq hu
theorem qJz {s:Si} {day:Int} (h0:0≤s.e.day) (hd:s.e.day < day) (h9:day≤999999) {n:vP} (hn:n.2.1=201) (hs:n.2.2.1=(datS s day).e.ask.2.1) (hr:n.2.2.2.1=0) (bs:WT) (p:qc0):agrS ⟨{ (datS s day).e with win:=bs },p⟩ n=qvA ⟨qAP { (datS s day).e with win:=bs },p⟩ day:=by
 unfold agrS
 rw [if_neg,if_pos hr]
 ·rw [show (⟨{ (datS s day).e with win:=bs },p⟩:Si).e.ask.2.2.2.2.1=qq4 (stN (phS s 5) (dayQ day)) from rfl,qIc (qoS (by omega) h9)]
  rfl
 ·rintro (h | h)
  ·exact h rfl
  ·refine h ⟨?_,hn.symm,hs.symm⟩
   intro h
   have:(201:Int)=0:=congrArg Prod.fst h
   omega
theorem qKj:qfL ()=some (true,()):=by
 have ok0:=qKH
 unfold qfL
 refine (z1 qKG).trans ((qF rfl).trans ((z1 (qrB (.inl rfl))).trans ((qF rfl).trans ?_)))
 have hb:(payB 200).length≤1000000:=by
  have:=(qmK 0).2
  have:=qF1 (qjN (mti:=200) (.inl rfl))
  have h:((payM 200).2.1.map (fun v=>v.2.1.length+2)).sum=8:=rfl
  unfold payB;omega
 have hx:=qgL ok0 (by omega) (payB 200) hb
 rw [qM0] at hx
 refine (z1 hx).trans ((qF rfl).trans ((z1 (qrB (.inl rfl))).trans ((qF rfl).trans ?_)))
 have hst:=qh7 (payB 200) 5 hb
 rw [qrU (by omega) (by omega)] at hst
 refine (z1 hst).trans ((qF rfl).trans ?_)
 have hrd:qaI (wrM (payD 5),())=some (payD 5,0,()):=by
  rw [qhG _ (by have:=(qmK 5).2;omega),qq8 (qwG 5)]
 refine (z1 hrd).trans ((qF rfl).trans ?_)
 have hgt:kO (payD 5,15,())=some (dg 5 6,true,()):=(qcK (payD 5) 15 (by show (2:Nat)≤1000000;omega)).trans rfl
 refine (z1 hgt).trans ((qF rfl).trans ?_)
 refine (z1 (qr7 (oqS hub1).e 0 (by show (0:Nat)≤1000000;omega))).trans ((qF rfl).trans ((z1 (qrB (.inl rfl))).trans ((qF rfl).trans ?_)))
 have okl:okS 1 (qwN (oqS hub1) 0):=qG9 ok0 (by omega) (by omega)
 have hl:=qgL okl (by omega) (payB 200) hb
 have hl7:subS (qwN (oqS hub1) 0) (payB 200)=(qwN (oqS hub1) 0,7):=by
  unfold subS
  rw [show (qwN (oqS hub1) 0).e.day=0 from rfl,qrU (by omega) (by omega),if_neg (not_not_intro rfl),if_pos (show ¬ qfU (qwN (oqS hub1) 0).e.ph from show ¬ qfU (0:Int) by decide)]
 rw [hl7] at hl
 refine (z1 hl).trans ((qF rfl).trans ?_)
 have hd:=qkF ok0 (by omega) 9
 have okd:=qEx ok0 9
 rw [qLk (s:=oqS hub1) (day:=9) (by show (0:Int)≤0;omega) (by show (0:Int) < 9;omega) (by omega) rfl rfl (by show (0:Int)≤900000;omega) qLR] at hd okd
 refine (z1 hd).trans ((qF rfl).trans ((z1 (qrB (.inr rfl))).trans ((qF rfl).trans ?_)))
 have ht:qb5 ((oqS hub1).t,(2,0,[0,0],0,4,payB 400,none' UInt8,()),payD 5,())=some ((evS (oqS hub1) 2 4 (payB 400)).t,()):=by
  unfold qb5
  refine (z1 (qd3 (payD 5))).trans ((qF rfl).trans ((qB (by rw [D_t (show qxC (payD 5).1 from show qxC 200 by decide)];rfl)).trans ?_))
  refine (z1 (qa9 3)).trans ((qF rfl).trans ((qE (D_t (.inl rfl))).trans ?_))
  refine (qF (o:=qfT _) rfl).trans ((qF (o:=qfS _) rfl).trans ?_)
  exact (z1 (qh6 ok0 (by omega) 2 4 (payB 400))).trans rfl
 refine (z1 ht).trans ((qF rfl).trans ?_)
 have hw:=qiA ok0 (by omega) (true,201,1,0,0,[],[],8,())
 refine (z1 hw).trans ((qF rfl).trans ?_)
 refine (qF (a:=(false,())) rfl).trans ((qB rfl).trans ?_)
 have ha:=qgM (s:=datS (oqS hub1) 9) (false,201,(datS (oqS hub1) 9).e.ask.2.1,0,0,[],[],0,()) (by have:=(qnO (qoS (s:=phS (oqS hub1) 5) (day:=9) (by omega) (by omega))).2;show (qq4 (stN (phS (oqS hub1) 5) (dayQ 9))).length≤1000000;omega)
 have ha2:=qJz (s:=oqS hub1) (day:=9) (by show (0:Int)≤0;omega) (by show (0:Int) < 9;omega) (by omega) (n:=(false,201,(datS (oqS hub1) 9).e.ask.2.1,0,0,[],[],0,())) rfl rfl rfl (datS (oqS hub1) 9).e.win (datS (oqS hub1) 9).p
 rw [show agrS (datS (oqS hub1) 9) _=_ from ha2] at ha
 refine (z1 ha).trans ((qF rfl).trans ?_)
 refine (qF (a:=(true,())) ?_).trans rfl
 refine (qE rfl).trans ((qE rfl).trans ((qH rfl).trans ((qE rfl).trans ((qE rfl).trans ((qE rfl).trans ((qE rfl).trans ?_))))))
 refine (qE (qKl (by decide))).trans ((qE rfl).trans ?_)
 refine (z1 (qc5 okl (by omega))).trans ((qF rfl).trans ((qE rfl).trans ?_))
 refine (qE rfl).trans ((qE rfl).trans ((qH rfl).trans ((qE rfl).trans ((qH rfl).trans ((qE rfl).trans ?_)))))
 refine (qE (qnQ ((qIw _ _).trans rfl))).trans ((qE rfl).trans ((qE rfl).trans ?_))
 refine (z1 (qh9 (datS (oqS hub1) 9))).trans ((qF rfl).trans ((qE rfl).trans ?_))
 refine (z1 (qkE ok0 (by omega))).trans ((qF rfl).trans ?_)
 exact (z1 (show zZ ((qKy (oqS hub1)).t,(oqS hub1).t,())=some (true,()) from qc5 ok0 (by omega))).trans rfl
theorem qIg {s:Si} (h:mayS s):s.e.ask.2.2.2.2.1.length≤1000000:=by have:=h.few.ask;omega
theorem qKJ {n:Nat} {s:Si} (h:okS n s):okS n (givG s):=by
 unfold givG
 split
 ·exact ⟨{ h.e with ph:=⟨by show (0:Int)≤3;omega,by show (3:Int)≤8;omega⟩ },h.p⟩
 ·exact h
theorem qq1 (s:Si) (hw:qEc s.e) (day:Int) (n:vP):kV (s.t,day,n,())=some (true,()):=by
 unfold kV
 rw [qKj]
 refine (qF rfl).trans ?_
 dsimp only
 rw [quP s hw]
 refine (qF rfl).trans ?_
 rw [qHW,wK]
 by_cases h1:mayS s
 ·by_cases h2:fewN n
  ·by_cases h3:jR n
   ·by_cases h4:n.2.1=201
    ·have ok:=qKI hw h1
     refine (qF (a:=(false,())) (by rw [D_t h1,D_t h2,D_t h3,bq_f h4];rfl)).trans ((qB rfl).trans ?_)
     refine (z1 (qkF ok (by omega) day)).trans ((qF rfl).trans ((z1 (qr5 ok (by omega) day)).trans ((qF rfl).trans ?_)))
     refine (z1 (qc5 (qEx ok day) (by omega))).trans ((qF rfl).trans ?_)
     refine (qF (a:=(false,())) ((qB rfl).trans ((qB (bq_f rfl)).trans ?_))).trans ((qB rfl).trans ?_)
     ·rw [qh9,qf9]
      refine (qF rfl).trans ((qF rfl).trans ?_)
      dsimp only
      rw [qc5 (qKJ ok) (by omega)];rfl
     ·refine (z1 (vL s.e.ph)).trans ((qF rfl).trans ?_)
      by_cases hl:jJ s.e.ph
      ·refine (qB (by rw [D_t hl];rfl)).trans ?_
       cases hq:n.1
       ·refine (qB rfl).trans ((qF (a:=(true,())) ((qE rfl).trans ?_)).trans rfl)
        rw [qgM n (qIg h1),qoB n (qIg h1)]
        refine (qF rfl).trans ((qF rfl).trans ?_)
        dsimp only
        rw [qc5 (qKK ok n) (by omega)];rfl
       ·refine (qE rfl).trans ((qF (a:=(true,())) ((qE rfl).trans ?_)).trans rfl)
        rw [qiA ok (by omega) n,qqG ok (by omega) n]
        refine (qF rfl).trans ((qF rfl).trans ?_)
        dsimp only
        rw [qc5 (qIV ok n) (by omega)];rfl
      ·exact qE (by rw [D_f hl];rfl)
    ·exact (qF (a:=(true,())) (by rw [D_t h1,D_t h2,D_t h3,bq_t h4];rfl)).trans rfl
   ·exact (qF (a:=(true,())) (by rw [D_t h1,D_t h2,D_f h3];rfl)).trans rfl
  ·exact (qF (a:=(true,())) (by rw [D_t h1,D_f h2];rfl)).trans rfl
 ·exact (qF (a:=(true,())) (by rw [D_f h1];rfl)).trans rfl
end Yp
namespace Yp
open Go
set_option maxRecDepth 100000
set_option maxHeartbeats 2000000
set_option linter.unusedSectionVars false
section
variable (fill : UInt8) {g : Nat} (hg : 1 ≤ g) (hg2 : g ≤ 50) {na nb : BB} (ha : na.length = 8) (hb : nb.length = 8) (bs bt bu : List UInt64)
include hg hg2 ha
include hb
end
end Yp
namespace Yp
open Go
set_option maxRecDepth 100000
set_option maxHeartbeats 2000000
def fig1 (t:Int):Int:=t / 10 % 10
def qMN (m:M):Prop:=(fig1 m.1=1∨fig1 m.1=3)∧qAw m
instance (m:M):Decidable (qMN m):=by unfold qMN;infer_instance
theorem qz9 (x:denL [tyS, .int .i64,tyN]) (h:okL [tyS, .int .i64,tyN] x):kV x=some (true,()):=by
 obtain ⟨s,hs,hw⟩:=qIt h.1
 have:=qq1 s hw x.2.1 x.2.2.1
 rw [← hs] at this
 exact this
end Yp