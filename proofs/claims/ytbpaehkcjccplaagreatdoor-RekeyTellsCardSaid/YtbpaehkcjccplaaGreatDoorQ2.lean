/- A part of the proof of the statements of this seat: plain functions, and laws on them. No condition of its own. -/
import Derived.Test.YtbpaehkcjccplaaGreatDoorQ1
import Derived.KernelRfl
set_option linter.unusedVariables false
set_option linter.unusedSimpArgs false
namespace Yp
open Go
set_option maxRecDepth 100000
set_option maxHeartbeats 2000000
theorem qhE {a:Int} (h:0≤a∧a < 18446744073709551616):n64 (u64 a)=a:=by
 show (((BitVec.ofNat 64 ((a % 2 ^ 64).toNat)).toNat:Nat):Int)=a
 rw [BitVec.toNat_ofNat];omega
theorem qvK (N:Int) (hN:0≤N) (hN2:N≤1125899906842624):qlZ (N,())=some (padD N,()):=by
 unfold qlZ
 dsimp only
 have hzs:zs (N.toNat % 64) < 64:=by unfold zs;omega
 generalize hf:(fun (x_1:BB×Unit)=>(_:Option (LS (BB×Unit) (BB×Unit))))=f
 have step:∀ i:Nat,i < zs (N.toNat % 64)→f ([u8 128]++List.replicate i (u8 0),())=some (.nx ([u8 128]++List.replicate (i+1) (u8 0),())):=by
  intro i hi
  subst hf
  have hl:([u8 128]++List.replicate i (u8 0)).length=1+i:=by simp;omega
  have e:i64 (iadd (i64 (iadd N (len ([u8 128]++List.replicate i (u8 0))))) 8)=N+((1+i:Nat):Int)+8:=by
   have e1:i64 (iadd N (len ([u8 128]++List.replicate i (u8 0))))=N+((1+i:Nat):Int):=by
    show i64 (N+(([u8 128]++List.replicate i (u8 0)).length:Int))=_
    rw [hl];exact zO (by omega) (by omega)
   rw [e1];exact zO (by show -9223372036854775808≤N+((1+i:Nat):Int)+8;omega) (by show N+((1+i:Nat):Int)+8≤9223372036854775807;omega)
  dsimp only
  rw [e]
  have hne:¬ ((N+((1+i:Nat):Int)+8) % 64=0):=by unfold zs at hi;omega
  refine (qE (by simp (disch:=first | assumption | omega | (dsimp only;omega) | decide) only [go_sem,Int.reduceToNat];omega)).trans ?_
  refine (qH (by simp (disch:=first | assumption | omega | (dsimp only;omega) | decide) only [go_sem,Int.reduceToNat];simp;omega)).trans ?_
  show some (LS.nx ([u8 128]++List.replicate i (u8 0)++[u8 0],()))=_
  rw [qy4]
 have hend:f ([u8 128]++List.replicate (zs (N.toNat % 64)) (u8 0),())=some (.ex 0 ([u8 128]++List.replicate (zs (N.toNat % 64)) (u8 0),())):=by
  subst hf
  obtain ⟨i,hi⟩:∃ i,i=zs (N.toNat % 64):=⟨_,rfl⟩
  rw [← hi]
  have hl:([u8 128]++List.replicate i (u8 0)).length=1+i:=by simp;omega
  have e:i64 (iadd (i64 (iadd N (len ([u8 128]++List.replicate i (u8 0))))) 8)=N+((1+i:Nat):Int)+8:=by
   have e1:i64 (iadd N (len ([u8 128]++List.replicate i (u8 0))))=N+((1+i:Nat):Int):=by
    show i64 (N+(([u8 128]++List.replicate i (u8 0)).length:Int))=_
    rw [hl];exact zO (by omega) (by omega)
   rw [e1];exact zO (by show -9223372036854775808≤N+((1+i:Nat):Int)+8;omega) (by show N+((1+i:Nat):Int)+8≤9223372036854775807;omega)
  dsimp only
  rw [e]
  have hne:((N+((1+i:Nat):Int)+8) % 64=0):=by unfold zs at hi;omega
  exact qB (by simp (disch:=first | assumption | omega | (dsimp only;omega) | decide) only [go_sem,Int.reduceToNat];omega)
 have hloop:=(qN (f:=f) (fun i=>([u8 128]++List.replicate i (u8 0),())) (zs (N.toNat % 64)) step 0 (Nat.zero_le _)).trans (qT hend)
 rw [List.replicate_zero,List.append_nil] at hloop
 refine (qZ hloop).trans ?_
 clear hloop hend step
 refine (qH g62).trans ?_
 clear hf f
 dsimp only
 generalize hL:[u8 128]++List.replicate (zs (N.toNat % 64)) (u8 0)=L
 have hLl:L.length=1+zs (N.toNat % 64):=by rw [← hL];simp;omega
 generalize hf:(fun (x_1:BB×Int×Unit)=>(_:Option (LS (BB×Int×Unit) (BB×Unit))))=f
 have step:∀ i:Nat,i < 8→f (L++lenB N i,56 - 8*(i:Int),())=some (.nx (L++lenB N (i+1),56 - 8*((i+1:Nat):Int),())):=by
  intro i hi
  subst hf
  have hl:(L++lenB N i).length=L.length+i:=by rw [List.length_append,y2]
  refine (qE (by simp (disch:=first | assumption | omega | (dsimp only;omega) | decide) only [go_sem,Int.reduceToNat];omega)).trans ?_
  refine (qH (by simp (disch:=first | assumption | omega | (dsimp only;omega) | decide) only [go_sem,Int.reduceToNat];simp [y2];omega)).trans ?_
  dsimp only
  rw [qhE (a:=56 - 8*(i:Int)) (by omega),show app (L++lenB N i) [u8 (shrI .i64 (i64 (imul 8 N)) (56 - 8*(i:Int)))]=L++lenB N (i+1) by rw [qCN,show ((56 - 8*i:Nat):Int)=56 - 8*(i:Int) by omega];exact List.append_assoc _ _ _,
   show i64 (isub (56 - 8*(i:Int)) 8)=56 - 8*((i+1:Nat):Int) by rw [zO (by show -9223372036854775808≤56 - 8*(i:Int) - 8;omega) (by show 56 - 8*(i:Int) - 8≤9223372036854775807;omega)];show 56 - 8*(i:Int) - 8=_;omega]
 have hend:f (L++lenB N 8,56 - 8*((8:Nat):Int),())=some (.ex 2 (L++lenB N 8,56 - 8*((8:Nat):Int),())):=by subst hf;exact qB (show le 0 (56 - 8*((8:Nat):Int))=false from rfl)
 have hloop:=(qN (f:=f) (fun i=>(L++lenB N i,56 - 8*(i:Int),())) 8 step 0 (Nat.zero_le _)).trans (qT hend)
 have h0:(L++lenB N 0,56 - 8*((0:Nat):Int),())=(L,56,()):=by simp [lenB]
 rw [h0] at hloop
 refine (qZ hloop).trans ?_
 refine (qH g62).trans ?_
 dsimp only
 rw [← hL];rfl
theorem qFs (N:Int):(padD N).length=9+zs (N.toNat % 64):=by unfold padD;simp [y2];omega
theorem qvI (H:List UInt32) (hH:H.length=8) (N:Int) (r:BB) (hN:0≤N) (hN2:N≤1125899906842624) (hr:r.length=N.toNat % 64):qg3 ((H,N,r,()),())=some (sumD (H,N,r,()),()):=by
 unfold qg3
 dsimp only
 rw [show app (none' UInt8) r=r from rfl]
 refine (qH (by simp (disch:=first | assumption | omega | (dsimp only;omega) | decide) only [go_sem,Int.reduceToNat];omega)).trans ?_
 rw [qvK N hN hN2]
 refine (qF rfl).trans ?_
 have hp:=qFs N
 have hzs:zs (N.toNat % 64) < 64:=by unfold zs;omega
 refine (qH (by simp (disch:=first | assumption | omega | (dsimp only;omega) | decide) only [go_sem,Int.reduceToNat];omega)).trans ?_
 rw [qKd]
 refine (qF rfl).trans ?_
 dsimp only
 unfold sumD
 dsimp only
 rw [show app r (padD N)=r++padD N from rfl]
 have hTl:(r++padD N).length=r.length+1+zs (N.toNat % 64)+8:=by rw [List.length_append,hp];omega
 have hT64:(r++padD N).length % 64=0:=by rw [hTl];unfold zs;omega
 generalize hTT:r++padD N=T at hTl hT64
 generalize hf:(fun (x_1:Int×List UInt32×Unit)=>(_:Option (LS (Int×List UInt32×Unit) (BB×Unit))))=f
 have step:∀ i:Nat,i < T.length / 64→f (((64*i:Nat):Int),eat H T i,())=some (.nx (((64*(i+1):Nat):Int),eat H T (i+1),())):=by
  intro i hi
  subst hf
  have e':i64 (iadd ((64*i:Nat):Int) 64)=((64*(i+1):Nat):Int):=i64n (by show ((64*i:Nat):Int)+64=_;omega) (by omega)
  dsimp only
  rw [e']
  refine (qE (by simp (disch:=first | assumption | omega | (dsimp only;omega) | decide) only [go_sem,Int.reduceToNat];omega)).trans ?_
  rw [qg2 _ (y5 hH T i) T (64*i) (by omega) (by omega)]
  rfl
 have hend:f (((64*(T.length / 64):Nat):Int),eat H T (T.length / 64),())=some (.ex 0 (((64*(T.length / 64):Nat):Int),eat H T (T.length / 64),())):=by
  subst hf
  exact qB (by simp (disch:=first | assumption | omega | (dsimp only;omega) | decide) only [go_sem,Int.reduceToNat];omega)
 have hloop:=(qN (f:=f) (fun i=>(((64*i:Nat):Int),eat H T i,())) (T.length / 64) step 0 (Nat.zero_le _)).trans (qT hend)
 refine (qZ (show loop f (0,H,())=_ from hloop)).trans ?_
 clear hloop hend step
 refine (qH g62).trans ?_
 clear hf f
 dsimp only
 have hw:=y5 hH T (T.length / 64)
 generalize eat H T (T.length / 64)=w at hw
 generalize hf:(fun (x:BB×Int×Unit)=>(_:Option (LS (BB×Int×Unit) (BB×Unit))))=f
 have step:∀ i:Nat,i < 8→f (outW w i,(i:Int),())=some (.nx (outW w (i+1),((i+1:Nat):Int),())):=by
  intro i hi
  subst hf
  have hl:=qfE w i
  have hi':i64 (iadd (i:Int) 1)=((i+1:Nat):Int):=i64n (by show (i:Int)+1=_;omega) (by omega)
  refine (qE (by simp (disch:=first | assumption | omega | (dsimp only;omega) | decide) only [go_sem,Int.reduceToNat];omega)).trans ?_
  refine (qH (by simp (disch:=first | assumption | omega | (dsimp only;omega) | decide) only [go_sem,Int.reduceToNat];omega)).trans ?_
  refine (qH (by simp (disch:=first | assumption | omega | (dsimp only;omega) | decide) only [go_sem,Int.reduceToNat];omega)).trans ?_
  refine (qH (by simp (disch:=first | assumption | omega | (dsimp only;omega) | decide) only [go_sem,Int.reduceToNat];omega)).trans ?_
  refine (qH (by simp (disch:=first | assumption | omega | (dsimp only;omega) | decide) only [go_sem,Int.reduceToNat];omega)).trans ?_
  refine (qH (by simp (disch:=first | assumption | omega | (dsimp only;omega) | decide) only [go_sem,Int.reduceToNat];simp;omega)).trans ?_
  dsimp only
  rw [hi',qCw,qOp];rfl
 have hend:∀ v,f (v,((8:Nat):Int),())=some (.ex 2 (v,((8:Nat):Int),())):=by subst hf;intro v;exact qB rfl
 have hloop:=(qN (f:=f) (fun i=>(outW w i,(i:Int),())) 8 step 0 (Nat.zero_le _)).trans (qT (hend _))
 refine (qZ (show loop f (none' UInt8,0,())=_ from hloop)).trans ?_
 exact qH g62
def okH (h:HT):Prop:=h.1.length=8∧0≤h.2.1∧h.2.2.1.length=h.2.1.toNat % 64
theorem qg7 {h:HT} (hh:okH h) (b:BB):okH (putD h b):=by
 obtain ⟨h1,h2,h3⟩:=hh
 refine ⟨y5 h1 _ _, ?_, ?_⟩
 ·show 0≤h.2.1+(b.length:Int);omega
 ·show ((h.2.2.1++b).drop (64*((h.2.2.1++b).length / 64))).length=(h.2.1+(b.length:Int)).toNat % 64
  rw [List.length_drop,List.length_append,h3];omega
theorem qM7 (h:HT) (x y:BB):putD (putD h x) y=putD h (x++y):=by
 obtain ⟨H,N,r,⟨⟩⟩:=h
 unfold putD
 dsimp only
 generalize hL:r++x=L
 have hM:r++(x++y)=L++y:=by rw [← List.append_assoc,hL]
 rw [hM]
 have hq:64*(L.length / 64)≤L.length:=by omega
 have hd:(L++y).drop (64*(L.length / 64))=L.drop (64*(L.length / 64))++y:=List.drop_append_of_le_length hq
 have hlen:(L.drop (64*(L.length / 64))++y).length=L.length - 64*(L.length / 64)+y.length:=by rw [List.length_append,List.length_drop]
 have hn:(L++y).length / 64=L.length / 64+(L.drop (64*(L.length / 64))++y).length / 64:=by rw [hlen,List.length_append];omega
 have he:eat H (L++y) (L.length / 64)=eat H L (L.length / 64):=by
  refine qDc H fun j hj => ?_
  unfold q8
  rw [List.getD_eq_getElem?_getD,List.getElem?_append_left (by omega),← List.getD_eq_getElem?_getD]
 refine Prod.ext ?_ (Prod.ext ?_ (Prod.ext ?_ rfl))
 ·dsimp only;rw [hn,qKF,hd,he]
 ·dsimp only;rw [List.length_append];omega
 ·dsimp only;rw [hn,← hd,List.drop_drop];congr 1;omega
theorem qEg (h:HT):(sumD h).length=32:=by unfold sumD;rw [qfE]
def iv:HT:=([u32 1779033703,u32 3144134277,u32 1013904242,u32 2773480762,u32 1359893119,u32 2600822924,u32 528734635,u32 1541459225],0,[],())
theorem qvQ:okH iv:=⟨rfl,Int.le_refl _,rfl⟩
theorem qdJ {h:HT} (hh:okH h) (b:BB) (hN:h.2.1≤1000000000) (hb:b.length≤1000000000):qeM (h,b,())=some (putD h b,()):=by
 obtain ⟨H,N,r,⟨⟩⟩:=h
 obtain ⟨h1,h2,h3⟩:=hh
 have h2':0≤N:=h2
 have h3':r.length=N.toNat % 64:=h3
 have hN':N≤1000000000:=hN
 exact qA6 H h1 N r b h2 (by omega) (by omega) hb
theorem qCq {h:HT} (hh:okH h) (b:BB) (hN:h.2.1≤1000000000) (hb:b.length≤1000000000):qg4 (h,b,())=some (putD h b,()):=by
 obtain ⟨H,N,r,⟨⟩⟩:=h
 obtain ⟨h1,h2,h3⟩:=hh
 have h2':0≤N:=h2
 have h3':r.length=N.toNat % 64:=h3
 have hN':N≤1000000000:=hN
 exact qvJ H h1 N r b h2 (by omega) (by omega) hb
theorem qnH {h:HT} (hh:okH h) (hN:h.2.1≤1000000000000):qj8 (h,())=some (sumD h,()):=by
 obtain ⟨H,N,r,⟨⟩⟩:=h
 obtain ⟨h1,h2,h3⟩:=hh
 have hN':N≤1000000000000:=hN
 exact qA5 H h1 N r h2 (by omega) h3
theorem qCp {h:HT} (hh:okH h) (hN:h.2.1≤1000000000000):qg3 (h,())=some (sumD h,()):=by
 obtain ⟨H,N,r,⟨⟩⟩:=h
 obtain ⟨h1,h2,h3⟩:=hh
 have hN':N≤1000000000000:=hN
 exact qvI H h1 N r h2 (by omega) h3
theorem qoN:qrD ()=some (iv,()):=rfl
theorem qvL:qsI ()=some (iv,()):=rfl
def qpM (b:BB):BB:=sumD (putD iv b)
theorem xD (b:BB):(qpM b).length=32:=qEg _
theorem qEk (b:BB) (hb:b.length≤1000000000):qGS (b,())=some (qpM b,()):=by
 unfold qGS
 rw [qoN]
 refine (qF rfl).trans ?_
 dsimp only
 rw [qdJ qvQ b (by decide) hb]
 refine (qF rfl).trans ?_
 dsimp only
 have hn:(putD iv b).2.1=0+(b.length:Int):=rfl
 rw [qnH (qg7 qvQ b) (by omega)];rfl
theorem qaO (b:BB) (hb:b.length≤1000000000):qfC (b,())=some (qpM b,()):=by
 unfold qfC
 rw [qvL]
 refine (qF rfl).trans ?_
 dsimp only
 rw [qCq qvQ b (by decide) hb]
 refine (qF rfl).trans ?_
 dsimp only
 have hn:(putD iv b).2.1=0+(b.length:Int):=rfl
 rw [qCp (qg7 qvQ b) (by omega)];rfl
end Yp
namespace Yp
open Go
set_option maxRecDepth 100000
set_option maxHeartbeats 2000000
theorem qaR {α σ ρ:Type} {f:σ→Option (LS σ ρ)} (l:List α) (mk:Nat→σ) (e:Nat) (r:ρ) (p:α→Prop)
  (hs:∀ i (h:i < l.length),p l[i]→f (mk i)=some (.nx (mk (i+1)))) (hb:∀ i (h:i < l.length),¬ p l[i]→f (mk i)=some (.rt r)) (he:f (mk l.length)=some (.ex e (mk l.length))) :
  ((∀ x∈l,p x)∧loop f (mk 0)=some (.ex e (mk l.length)))∨((¬ ∀ x∈l,p x)∧loop f (mk 0)=some (.rt r)):=by
 by_cases h:∀ x∈l,p x
 ·exact .inl ⟨h,(qN mk l.length (fun i hi=>hs i hi (h _ (List.getElem_mem hi))) 0 (Nat.zero_le _)).trans (qT he)⟩
 ·refine .inr ⟨h, ?_⟩
  have key:∀ (n i:Nat),l.length - i=n→i≤l.length→(∃ j,∃ (hj:j < l.length),i≤j∧¬ p l[j])→loop f (mk i)=some (.rt r):=by
   intro n
   induction n with
   | zero=>rintro i hn hi ⟨j,hj,h1,_⟩;omega
   | succ n ih =>
    rintro i hn hi ⟨j,hj,h1,h2⟩
    have hil:i < l.length:=by omega
    by_cases hp:p l[i]
    ·rw [x3 (hs i hil hp)]
     refine ih (i+1) (by omega) (by omega) ⟨j,hj, ?_,h2⟩
     rcases Nat.lt_or_eq_of_le h1 with h | rfl
     ·exact h
     ·exact absurd hp h2
    ·exact qc2 (hb i hil hp)
  refine key _ 0 rfl (Nat.zero_le _) ?_
  refine Classical.byContradiction fun hn=>h fun x hx=>Classical.byContradiction fun hpx => ?_
  obtain ⟨j,hj,rfl⟩:=List.getElem_of_mem hx
  exact hn ⟨j,hj,Nat.zero_le _,hpx⟩
def vI (key:BB):BB:=let k:=if 64 < key.length then qpM key else key;k++List.replicate (64 - k.length) (u8 0)
theorem qmY (key:BB):(vI key).length=64:=by
 unfold vI
 by_cases h:64 < key.length
 ·simp only [if_pos h,List.length_append,List.length_replicate,xD]
 ·simp only [if_neg h,List.length_append,List.length_replicate];omega
theorem qKH (k:BB) (h:k.length≤64):cpy (rep (nat 64) (u8 0)) 0 (ln (rep (nat 64) (u8 0))) k=k++List.replicate (64 - k.length) (u8 0):=by
 unfold cpy rep ln
 rw [List.length_replicate,show nat 64=64 from rfl,List.take_zero,List.nil_append,List.take_of_length_le h,Nat.zero_add,Nat.min_eq_right h,List.drop_replicate]
theorem qvN (key:BB) (h:key.length≤1000000000):ql7 (key,())=some (vI key,()):=by
 unfold ql7
 refine (qH (by decide)).trans ?_
 by_cases hk:64 < key.length
 ·refine (qE (by simp (disch:=first | assumption | omega | (dsimp only;omega) | decide) only [go_sem,Int.reduceToNat];omega)).trans ?_
  dsimp only
  rw [qEk _ h]
  refine (qF rfl).trans ?_
  dsimp only
  rw [qKH _ (by rw [xD];omega)]
  unfold vI;simp only [if_pos hk]
 ·refine (qB (by simp (disch:=first | assumption | omega | (dsimp only;omega) | decide) only [go_sem,Int.reduceToNat];omega)).trans ?_
  dsimp only
  rw [qKH _ (by omega)]
  unfold vI;simp only [if_neg hk]
theorem qOT {f:BB×Unit→Option (LS (BB×Unit) (BB×Unit))} (hf:f=fun (x:BB×Unit)=>sel (lt (len x.1) 64) (ck (rm 1 (nadd (ln x.1) (ln [u8 0]))) (some (LS.nx (app x.1 [u8 0],())))) (some (LS.ex 0 (x.1,())))) (k:BB) (h:k.length≤64) :
  loop f (k,())=some (.ex 0 (k++List.replicate (64 - k.length) (u8 0),())):=by
 have step:∀ i:Nat,i < 64 - k.length→f (k++List.replicate i (u8 0),())=some (.nx (k++List.replicate (i+1) (u8 0),())):=by
  intro i hi
  subst hf
  have hl:(k++List.replicate i (u8 0)).length=k.length+i:=by simp
  refine (qE (by simp (disch:=first | assumption | omega | (dsimp only;omega) | decide) only [go_sem,Int.reduceToNat];omega)).trans ?_
  refine (qH (by simp (disch:=first | assumption | omega | (dsimp only;omega) | decide) only [go_sem,Int.reduceToNat];simp;omega)).trans ?_
  show some (LS.nx (k++List.replicate i (u8 0)++[u8 0],()))=_
  rw [qy4]
 have hend:f (k++List.replicate (64 - k.length) (u8 0),())=some (.ex 0 (k++List.replicate (64 - k.length) (u8 0),())):=by
  subst hf
  have hl:(k++List.replicate (64 - k.length) (u8 0)).length=64:=by simp;omega
  exact qB (by simp (disch:=first | assumption | omega | (dsimp only;omega) | decide) only [go_sem,Int.reduceToNat];omega)
 have:=(qN (f:=f) (fun i=>(k++List.replicate i (u8 0),())) (64 - k.length) step 0 (Nat.zero_le _)).trans (qT hend)
 rwa [List.replicate_zero,List.append_nil] at this
theorem qqA (key:BB) (h:key.length≤1000000000):qfB (key,())=some (vI key,()):=by
 unfold qfB
 refine (qH (by simp (disch:=first | assumption | omega | (dsimp only;omega) | decide) only [go_sem,Int.reduceToNat];omega)).trans ?_
 by_cases hk:64 < key.length
 ·refine (qE (by simp (disch:=first | assumption | omega | (dsimp only;omega) | decide) only [go_sem,Int.reduceToNat];omega)).trans ?_
  dsimp only
  rw [qaO _ h]
  refine (qF rfl).trans ?_
  dsimp only
  rw [qOT rfl _ (by rw [xD];omega)]
  refine (qH g62).trans ?_
  unfold vI;simp only [if_pos hk]
 ·refine (qB (by simp (disch:=first | assumption | omega | (dsimp only;omega) | decide) only [go_sem,Int.reduceToNat];omega)).trans ?_
  dsimp only
  rw [show app (none' UInt8) key=key from rfl,qOT rfl _ (by omega)]
  refine (qH g62).trans ?_
  unfold vI;simp only [if_neg hk]
def xr (c:UInt8) (l:BB):BB:=l.map fun x=>u8 (xorI .u8 (n8 x) (n8 c))
theorem qdH (c:UInt8) (l:BB):(xr c l).length=l.length:=by simp [xr]
theorem qLT {α:Type} {L:List α} {n:Nat} {z:α} (hL:L.length=n) {i:Nat} (hi:i < n):(L.take i++List.replicate (n - i) z).set i (L[i]'(by omega))=L.take (i+1)++List.replicate (n - (i+1)) z:=by
 have h1:(L.take i).length=i:=by rw [List.length_take];omega
 rw [List.set_append_right _ _ (by omega),h1,Nat.sub_self,show n - i=(n - (i+1))+1 by omega,List.replicate_succ,List.set_cons_zero,List.take_succ_eq_append_getElem (by omega),List.append_assoc]
 rfl
theorem qGE {f:Int×BB×Unit→Option (LS (Int×BB×Unit) Unit)} (c:UInt8) (k:BB) (hk:k.length=64)
  (hf:f=fun (x:Int×BB×Unit)=>sel (lt x.1 (len k)) (ck (inB x.1 (len k)) (ck (inB x.1 (len x.2.1)) (some (LS.nx (i64 (iadd x.1 1),upd x.2.1 (nat x.1) (u8 (xorI .u8 (n8 (nth k (nat x.1) (u8 0))) (n8 c))),()))))) (some (LS.ex 0 (x.1,x.2.1,())))) :
  loop f (0,rep (nat 64) (u8 0),())=some (.ex 0 (64,xr c k,())):=by
 have hx:(xr c k).length=64:=by rw [qdH,hk]
 have step:∀ i:Nat,i < 64→f ((i:Int),(xr c k).take i++List.replicate (64 - i) (u8 0),())=some (.nx (((i+1:Nat):Int),(xr c k).take (i+1)++List.replicate (64 - (i+1)) (u8 0),())):=by
  intro i hi
  subst hf
  have hl:((xr c k).take i++List.replicate (64 - i) (u8 0)).length=64:=by rw [List.length_append,List.length_take,List.length_replicate];omega
  have hi':i64 (iadd (i:Int) 1)=((i+1:Nat):Int):=i64n (by show (i:Int)+1=_;omega) (by omega)
  refine (qE (by simp (disch:=first | assumption | omega | (dsimp only;omega) | decide) only [go_sem,Int.reduceToNat];omega)).trans ?_
  refine (qH (by simp (disch:=first | assumption | omega | (dsimp only;omega) | decide) only [go_sem,Int.reduceToNat];omega)).trans ?_
  refine (qH (by simp (disch:=first | assumption | omega | (dsimp only;omega) | decide) only [go_sem,Int.reduceToNat];omega)).trans ?_
  dsimp only
  rw [hi',show upd ((xr c k).take i++List.replicate (64 - i) (u8 0)) (nat (i:Int)) (u8 (xorI .u8 (n8 (nth k (nat (i:Int)) (u8 0))) (n8 c)))=(xr c k).take (i+1)++List.replicate (64 - (i+1)) (u8 0) from ?_]
  rw [← qLT hx hi,qR,qL (by omega:i < k.length)]
  unfold upd
  congr 1
  simp [xr]
 have hend:f (((64:Nat):Int),(xr c k).take 64++List.replicate (64 - 64) (u8 0),())=some (.ex 0 (((64:Nat):Int),(xr c k).take 64++List.replicate (64 - 64) (u8 0),())):=by
  subst hf
  exact qB (by simp (disch:=first | assumption | omega | (dsimp only;omega) | decide) only [go_sem,Int.reduceToNat];omega)
 have:=(qN (f:=f) (fun i=>((i:Int),(xr c k).take i++List.replicate (64 - i) (u8 0),())) 64 step 0 (Nat.zero_le _)).trans (qT hend)
 rw [List.take_of_length_le (show (xr c k).length≤64 by omega),Nat.sub_self,List.replicate_zero,List.append_nil] at this
 exact this
def tagD (key b:BB):BB:=qpM (xr (u8 92) (vI key)++qpM (xr (u8 54) (vI key)++b))
theorem vZ (key b:BB):(tagD key b).length=32:=xD _
theorem qG4 (x y:BB):sumD (putD (putD iv x) y)=qpM (x++y):=by rw [qM7];rfl
theorem qhH (key b:BB) (h:key.length≤1000000) (hb:b.length≤1000000):qnW (key,b,())=some (tagD key b,()):=by
 unfold qnW
 dsimp only
 rw [qvN _ (by omega)]
 refine (qF rfl).trans ?_
 refine (qH (by decide)).trans ?_
 dsimp only
 have hk:=qmY key
 rw [qGE (u8 92) _ hk rfl]
 refine (qH g62).trans ?_
 dsimp only
 rw [qoN]
 refine (qF rfl).trans ?_
 dsimp only
 have l1:=(qdH (u8 92) (vI key)).trans hk
 have l2:=(qdH (u8 54) (vI key)).trans hk
 rw [qdJ qvQ _ (by decide) (by omega)]
 refine (qF rfl).trans ?_
 refine (qH (by decide)).trans ?_
 dsimp only
 rw [qGE (u8 54) _ hk rfl]
 refine (qH g62).trans ?_
 refine (qF rfl).trans ?_
 dsimp only
 rw [qdJ qvQ _ (by decide) (by omega)]
 refine (qF rfl).trans ?_
 dsimp only
 have n1:(putD iv (xr (u8 54) (vI key))).2.1=0+((xr (u8 54) (vI key)).length:Int):=rfl
 have n2:(putD (putD iv (xr (u8 54) (vI key))) b).2.1=0+((xr (u8 54) (vI key)).length:Int)+(b.length:Int):=rfl
 have n3:(putD iv (xr (u8 92) (vI key))).2.1=0+((xr (u8 92) (vI key)).length:Int):=rfl
 rw [qdJ (qg7 qvQ _) b (by omega) (by omega)]
 refine (qF rfl).trans ?_
 dsimp only
 rw [qnH (qg7 (qg7 qvQ _) _) (by omega),qG4]
 refine (qF rfl).trans ?_
 dsimp only
 have l4:=xD (xr (u8 54) (vI key)++b)
 rw [qdJ (qg7 qvQ _) _ (by omega) (by omega)]
 refine (qF rfl).trans ?_
 dsimp only
 have n4:∀ y,(putD (putD iv (xr (u8 92) (vI key))) y).2.1=0+((xr (u8 92) (vI key)).length:Int)+(y.length:Int):=fun _=>rfl
 rw [qnH (qg7 (qg7 qvQ _) _) (by rw [n4];omega),qG4]
 rfl
theorem qcX (key b:BB) (h:key.length≤1000000) (hb:b.length≤1000000):qdZ (key,b,())=some (tagD key b,()):=by
 unfold qdZ
 dsimp only
 rw [qqA _ (by omega)]
 refine (qF rfl).trans ?_
 dsimp only
 have hk:=qmY key
 unfold tagD
 generalize vI key=k at hk
 generalize hf:(fun (x:BB×BB×Int×Unit)=>(_:Option (LS (BB×BB×Int×Unit) (BB×Unit))))=f
 have x1:(xr (u8 54) k).length=64:=by rw [qdH,hk]
 have x2:(xr (u8 92) k).length=64:=by rw [qdH,hk]
 have tk:∀ (c:UInt8) (i:Nat) (hi:i < 64),app ((xr c k).take i) [u8 (xorI .u8 (n8 (nth k (nat (i:Int)) (u8 0))) (n8 c))]=(xr c k).take (i+1):=by
  intro c i hi
  have hx:(xr c k).length=64:=by rw [qdH,hk]
  rw [qR,qL (by omega:i < k.length),List.take_succ_eq_append_getElem (by omega)]
  unfold app
  congr 2
  simp [xr]
 have step:∀ i:Nat,i < 64→f ((xr (u8 54) k).take i,(xr (u8 92) k).take i,(i:Int),())=some (.nx ((xr (u8 54) k).take (i+1),(xr (u8 92) k).take (i+1),((i+1:Nat):Int),())):=by
  intro i hi
  subst hf
  have hi':i64 (iadd (i:Int) 1)=((i+1:Nat):Int):=i64n (by show (i:Int)+1=_;omega) (by omega)
  have h1:((xr (u8 54) k).take i).length=i:=by rw [List.length_take];omega
  have h2:((xr (u8 92) k).take i).length=i:=by rw [List.length_take];omega
  refine (qE (by simp (disch:=first | assumption | omega | (dsimp only;omega) | decide) only [go_sem,Int.reduceToNat];omega)).trans ?_
  refine (qH (by simp (disch:=first | assumption | omega | (dsimp only;omega) | decide) only [go_sem,Int.reduceToNat];omega)).trans ?_
  refine (qH (by simp (disch:=first | assumption | omega | (dsimp only;omega) | decide) only [go_sem,Int.reduceToNat];simp;omega)).trans ?_
  refine (qH (by simp (disch:=first | assumption | omega | (dsimp only;omega) | decide) only [go_sem,Int.reduceToNat];omega)).trans ?_
  refine (qH (by simp (disch:=first | assumption | omega | (dsimp only;omega) | decide) only [go_sem,Int.reduceToNat];simp;omega)).trans ?_
  dsimp only
  rw [hi',tk _ i hi,tk _ i hi]
 have hend:∀ u v,f (u,v,((64:Nat):Int),())=some (.ex 0 (u,v,((64:Nat):Int),())):=by subst hf;intro u v;exact qB rfl
 have hloop:=(qN (f:=f) (fun i=>((xr (u8 54) k).take i,(xr (u8 92) k).take i,(i:Int),())) 64 step 0 (Nat.zero_le _)).trans (qT (hend _ _))
 rw [List.take_of_length_le (show (xr (u8 54) k).length≤64 by omega),List.take_of_length_le (show (xr (u8 92) k).length≤64 by omega)] at hloop
 refine (qZ (show loop f (none' UInt8,none' UInt8,0,())=_ from hloop)).trans ?_
 refine (qH g62).trans ?_
 dsimp only
 refine (qH (by simp (disch:=first | assumption | omega | (dsimp only;omega) | decide) only [go_sem,Int.reduceToNat];omega)).trans ?_
 rw [show app (xr (u8 54) k) b=xr (u8 54) k++b from rfl,qaO _ (by rw [List.length_append];omega)]
 refine (qF rfl).trans ?_
 dsimp only
 have l4:=xD (xr (u8 54) k++b)
 refine (qH (by simp (disch:=first | assumption | omega | (dsimp only;omega) | decide) only [go_sem,Int.reduceToNat];omega)).trans ?_
 rw [show app (xr (u8 92) k) (qpM (xr (u8 54) k++b))=xr (u8 92) k++qpM (xr (u8 54) k++b) from rfl,qaO _ (by rw [List.length_append];omega)]
 rfl
end Yp
namespace Yp
open Go
set_option maxRecDepth 100000
set_option maxHeartbeats 2000000
def vK (p:BB):BB:=[u8 (shrI .i64 (len p) (n64 (u64 8))),u8 (len p)]++p
def tlD (l:List BB):BB:=l.flatMap vK
def qb7 (label:BB) (l:List BB):BB:=[u8 (len label)]++label++tlD l
theorem qoT (p:BB):(vK p).length=p.length+2:=by simp [vK]
theorem qHR {l:List BB} (h:∀ p∈l,p.length≤1000):(tlD l).length≤1002*l.length:=by
 induction l with
 | nil=>simp [tlD]
 | cons p r ih =>
  have h1:=h p (by simp)
  have h2:=ih fun q hq=>h q (by simp [hq])
  unfold tlD at h2 ⊢
  rw [List.flatMap_cons,List.length_append,qoT,List.length_cons];omega
theorem qGI {l:List BB} {i:Nat} (hi:i < l.length):tlD (l.take (i+1))=tlD (l.take i)++vK l[i]:=by
 unfold tlD
 rw [List.take_succ_eq_append_getElem hi,List.flatMap_append,List.flatMap_cons,List.flatMap_nil,List.append_nil]
theorem qb8 {label:BB} {l:List BB} (h1:label.length≤255) (h2:l.length≤16) (h:∀ p∈l,p.length≤1000):(qb7 label l).length≤20000:=by
 have:=qHR h
 unfold qb7
 simp only [List.length_append,List.length_cons,List.length_nil];omega
def qtL (key label:BB) (l:List BB):BB:=tagD key (qb7 label l)
theorem qdB (key label:BB) (l:List BB):(qtL key label l).length=32:=vZ _ _
theorem qhI (key label:BB) (l:List BB) (hk:key.length≤1000000) (h1:label.length≤255) (h2:l.length≤16) (h:∀ p∈l,p.length≤1000):qeB (key,label,l,())=some (qtL key label l,0,()):=by
 unfold qeB
 dsimp only
 refine (qF (a:=(false,())) ((qB (by simp (disch:=first | assumption | omega | (dsimp only;omega) | decide) only [go_sem,Int.reduceToNat];omega)).trans (by rw [show lt 16 (len l)=false from lt_f (by simp (disch:=first | assumption | omega | (dsimp only;omega) | decide) only [go_sem,Int.reduceToNat];omega)]))).trans ?_
 refine (qB rfl).trans ?_
 refine (qH (by simp (disch:=first | assumption | omega | (dsimp only;omega) | decide) only [go_sem,Int.reduceToNat];simp;omega)).trans ?_
 generalize hf:(fun (x_1:Int×BB×Int×Unit)=>(_:Option (LS (Int×BB×Int×Unit) (BB×Int×Unit))))=f
 have hT:∀ i,(qb7 label (l.take i)).length≤20000:=fun i=>qb8 h1 (by rw [List.length_take];omega) (fun p hp=>h p (List.mem_of_mem_take hp))
 have step:∀ i:Nat,i < l.length→f (0,qb7 label (l.take i),(i:Int),())=some (.nx (0,qb7 label (l.take (i+1)),((i+1:Nat):Int),())):=by
  intro i hi
  subst hf
  have hi':i64 (iadd (i:Int) 1)=((i+1:Nat):Int):=i64n (by show (i:Int)+1=_;omega) (by omega)
  have hp:=h l[i] (List.getElem_mem hi)
  have ht:=hT i
  have hn:nth l (nat (i:Int)) (none' UInt8)=l[i]:=by rw [qR,qL hi]
  refine (qE (by simp (disch:=first | assumption | omega | (dsimp only;omega) | decide) only [go_sem,Int.reduceToNat];omega)).trans ?_
  refine (qH (by simp (disch:=first | assumption | omega | (dsimp only;omega) | decide) only [go_sem,Int.reduceToNat];omega)).trans ?_
  dsimp only
  rw [hn]
  refine (qB (by simp (disch:=first | assumption | omega | (dsimp only;omega) | decide) only [go_sem,Int.reduceToNat];omega)).trans ?_
  refine (qH (by simp (disch:=first | assumption | omega | (dsimp only;omega) | decide) only [go_sem,Int.reduceToNat];simp;omega)).trans ?_
  refine (qH (by simp (disch:=first | assumption | omega | (dsimp only;omega) | decide) only [go_sem,Int.reduceToNat];simp;omega)).trans ?_
  rw [hi',show qb7 label (l.take (i+1))=qb7 label (l.take i)++vK l[i] by unfold qb7;rw [qGI hi,List.append_assoc,List.append_assoc,List.append_assoc]]
  unfold vK app
  rw [List.append_assoc]
 have hend:∀ u,f (0,u,(l.length:Int),())=some (.ex 0 (0,u,(l.length:Int),())):=by subst hf;intro u;exact qB (by simp (disch:=first | assumption | omega | (dsimp only;omega) | decide) only [go_sem,Int.reduceToNat];omega)
 have hloop:=(qN (f:=f) (fun i=>(0,qb7 label (l.take i),(i:Int),())) l.length step 0 (Nat.zero_le _)).trans (qT (hend _))
 rw [List.take_of_length_le (Nat.le_refl _)] at hloop
 have h0:qb7 label (l.take 0)=app [u8 (len label)] label:=by unfold qb7;rw [List.take_zero];exact List.append_nil _
 rw [h0] at hloop
 refine (qZ (show loop f (0,app [u8 (len label)] label,0,())=_ from hloop)).trans ?_
 refine (qH g62).trans ?_
 dsimp only
 have:=qb8 h1 h2 h
 rw [qhH _ _ hk (by omega)];rfl
theorem qsH (label:BB) (l:List BB) (h1:label.length≤255) (h2:l.length≤16) (h:∀ p∈l,p.length≤1000):qi3 (label,l,())=some (qb7 label l,()):=by
 unfold qi3
 dsimp only
 refine (qH (by simp (disch:=first | assumption | omega | (dsimp only;omega) | decide) only [go_sem,Int.reduceToNat];omega)).trans ?_
 refine (qH (by simp (disch:=first | assumption | omega | (dsimp only;omega) | decide) only [go_sem,Int.reduceToNat];simp;omega)).trans ?_
 generalize hf:(fun (x_1:BB×Int×Unit)=>(_:Option (LS (BB×Int×Unit) (BB×Unit))))=f
 have hT:∀ i,(qb7 label (l.take i)).length≤20000:=fun i=>qb8 h1 (by rw [List.length_take];omega) (fun p hp=>h p (List.mem_of_mem_take hp))
 have step:∀ i:Nat,i < l.length→f (qb7 label (l.take i),(i:Int),())=some (.nx (qb7 label (l.take (i+1)),((i+1:Nat):Int),())):=by
  intro i hi
  subst hf
  have hi':i64 (iadd (i:Int) 1)=((i+1:Nat):Int):=i64n (by show (i:Int)+1=_;omega) (by omega)
  have hp:=h l[i] (List.getElem_mem hi)
  have ht:=hT i
  have hn:nth l (nat (i:Int)) (none' UInt8)=l[i]:=by rw [qR,qL hi]
  have q1:u8 (i64 (idiv (len l[i]) 256))=u8 (shrI .i64 (len l[i]) (n64 (u64 8))):=by
   have a1:idiv (len l[i]) 256=((l[i].length / 256:Nat):Int):=by rw [g31 (by simp (disch:=first | assumption | omega | (dsimp only;omega) | decide) only [go_sem,Int.reduceToNat];omega)];simp (disch:=first | assumption | omega | (dsimp only;omega) | decide) only [go_sem,Int.reduceToNat];omega
   have a2:shrI .i64 (len l[i]) (n64 (u64 8))=((l[i].length / 256:Nat):Int):=by show Int.fdiv (l[i].length:Int) (2 ^ 8)=_;rw [Int.fdiv_eq_ediv_of_nonneg _ (by decide)];omega
   rw [a1,a2,i64n rfl (by omega)]
  have q2:u8 (imod (len l[i]) 256)=u8 (len l[i]):=by
   rw [g32 (by simp (disch:=first | assumption | omega | (dsimp only;omega) | decide) only [go_sem,Int.reduceToNat];omega)];exact qAV (by simp (disch:=first | assumption | omega | (dsimp only;omega) | decide) only [go_sem,Int.reduceToNat];omega)
  refine (qE (by simp (disch:=first | assumption | omega | (dsimp only;omega) | decide) only [go_sem,Int.reduceToNat];omega)).trans ?_
  dsimp only
  rw [hn]
  refine (qH (by simp (disch:=first | assumption | omega | (dsimp only;omega) | decide) only [go_sem,Int.reduceToNat];omega)).trans ?_
  refine (qH (by simp (disch:=first | assumption | omega | (dsimp only;omega) | decide) only [go_sem,Int.reduceToNat];omega)).trans ?_
  refine (qH (by simp (disch:=first | assumption | omega | (dsimp only;omega) | decide) only [go_sem,Int.reduceToNat];simp;omega)).trans ?_
  refine (qH (by simp (disch:=first | assumption | omega | (dsimp only;omega) | decide) only [go_sem,Int.reduceToNat];omega)).trans ?_
  refine (qH (by simp (disch:=first | assumption | omega | (dsimp only;omega) | decide) only [go_sem,Int.reduceToNat];simp;omega)).trans ?_
  rw [hi',q1,q2,show qb7 label (l.take (i+1))=qb7 label (l.take i)++vK l[i] by unfold qb7;rw [qGI hi,List.append_assoc,List.append_assoc,List.append_assoc]]
  unfold vK app
  rw [List.append_assoc]
 have hend:∀ u,f (u,(l.length:Int),())=some (.ex 0 (u,(l.length:Int),())):=by subst hf;intro u;exact qB (by simp (disch:=first | assumption | omega | (dsimp only;omega) | decide) only [go_sem,Int.reduceToNat];omega)
 have hloop:=(qN (f:=f) (fun i=>(qb7 label (l.take i),(i:Int),())) l.length step 0 (Nat.zero_le _)).trans (qT (hend _))
 rw [List.take_of_length_le (Nat.le_refl _)] at hloop
 have h0:qb7 label (l.take 0)=app [u8 (len label)] label:=by unfold qb7;rw [List.take_zero];exact List.append_nil _
 rw [h0] at hloop
 refine (qZ (show loop f (app [u8 (len label)] label,0,())=_ from hloop)).trans ?_
 exact qH g62
theorem qd0 (key label:BB) (l:List BB) (hk:key.length≤1000000) (h1:label.length≤255) (h2:l.length≤16) (h:∀ p∈l,p.length≤1000):wP (key,label,l,())=some (qtL key label l,0,()):=by
 unfold wP
 dsimp only
 refine (qF (a:=(false,())) ((qB (by simp (disch:=first | assumption | omega | (dsimp only;omega) | decide) only [go_sem,Int.reduceToNat];omega)).trans (by rw [show lt 16 (len l)=false from lt_f (by simp (disch:=first | assumption | omega | (dsimp only;omega) | decide) only [go_sem,Int.reduceToNat];omega)]))).trans ?_
 refine (qB rfl).trans ?_
 generalize hf:(fun (x_1:Int×Int×Unit)=>(_:Option (LS (Int×Int×Unit) (BB×Int×Unit))))=f
 have step:∀ i:Nat,i < l.length→f (0,(i:Int),())=some (.nx (0,((i+1:Nat):Int),())):=by
  intro i hi
  subst hf
  have hi':i64 (iadd (i:Int) 1)=((i+1:Nat):Int):=i64n (by show (i:Int)+1=_;omega) (by omega)
  have hp:=h l[i] (List.getElem_mem hi)
  have hn:nth l (nat (i:Int)) (none' UInt8)=l[i]:=by rw [qR,qL hi]
  refine (qE (by simp (disch:=first | assumption | omega | (dsimp only;omega) | decide) only [go_sem,Int.reduceToNat];omega)).trans ?_
  dsimp only
  rw [hn,hi']
  refine (qH (by simp (disch:=first | assumption | omega | (dsimp only;omega) | decide) only [go_sem,Int.reduceToNat];omega)).trans ?_
  exact qB (by simp (disch:=first | assumption | omega | (dsimp only;omega) | decide) only [go_sem,Int.reduceToNat];omega)
 have hend:f (0,(l.length:Int),())=some (.ex 0 (0,(l.length:Int),())):=by subst hf;exact qB (by simp (disch:=first | assumption | omega | (dsimp only;omega) | decide) only [go_sem,Int.reduceToNat];omega)
 have hloop:=(qN (f:=f) (fun i=>(0,(i:Int),())) l.length step 0 (Nat.zero_le _)).trans (qT hend)
 refine (qZ (show loop f (0,0,())=_ from hloop)).trans ?_
 refine (qH g62).trans ?_
 rw [qsH _ _ h1 h2 h]
 refine (qF rfl).trans ?_
 dsimp only
 have:=qb8 h1 h2 h
 rw [qcX _ _ hk (by omega)];rfl
def kcvD (key:BB):BB:=(tagD key (List.replicate 8 (u8 0))).take 3
theorem qs5 (key:BB):(kcvD key).length=3:=by unfold kcvD;rw [List.length_take,vZ];rfl
theorem qoY (key:BB) (hk:key.length≤1000000):qsX (key,())=some (kcvD key,()):=by
 unfold qsX
 refine (qH (by decide)).trans ?_
 dsimp only
 rw [show rep (nat 8) (u8 0)=List.replicate 8 (u8 0) from rfl,qhH _ _ hk (by simp)]
 refine (qF rfl).trans ?_
 dsimp only
 have:=vZ key (List.replicate 8 (u8 0))
 refine (qH (by simp (disch:=first | assumption | omega | (dsimp only;omega) | decide) only [go_sem,Int.reduceToNat];omega)).trans ?_
 rfl
theorem qvH (key:BB) (hk:key.length≤1000000):qlY (key,())=some (kcvD key,()):=by
 unfold qlY
 refine (qH (by decide)).trans ?_
 dsimp only
 rw [show rep (nat 8) (u8 0)=List.replicate 8 (u8 0) from rfl,qcX _ _ hk (by simp)]
 refine (qF rfl).trans ?_
 dsimp only
 have:=vZ key (List.replicate 8 (u8 0))
 refine (qH (by simp (disch:=first | assumption | omega | (dsimp only;omega) | decide) only [go_sem,Int.reduceToNat];omega)).trans ?_
 rfl
def vG (k b:BB):BB:=(tagD k b).take 16
theorem qaK (k b:BB):(vG k b).length=16:=by unfold vG;rw [List.length_take,vZ];rfl
theorem qg8 (k b:BB) (hk:k.length≤1000000) (hb:b.length≤1000000):qd4 (k,b,())=some (vG k b,()):=by
 unfold qd4
 dsimp only
 rw [qhH _ _ hk hb]
 refine (qF rfl).trans ?_
 dsimp only
 have:=vZ k b
 refine (qH (by simp (disch:=first | assumption | omega | (dsimp only;omega) | decide) only [go_sem,Int.reduceToNat];omega)).trans ?_
 rfl
theorem w8 (k b:BB) (hk:k.length≤1000000) (hb:b.length≤1000000):yY (k,b,())=some (vG k b,()):=by
 unfold yY
 dsimp only
 rw [qcX _ _ hk hb]
 refine (qF rfl).trans ?_
 dsimp only
 have:=vZ k b
 refine (qH (by simp (disch:=first | assumption | omega | (dsimp only;omega) | decide) only [go_sem,Int.reduceToNat];omega)).trans ?_
 rfl
abbrev ET:=BB×BB×Unit
theorem qy7 (p:wW) (k b:BB):qqO (p,k,b,())=some (D ((k,b,())∈p.2.1),()):=by
 unfold qqO
 congr 2
 refine qiB ?_
 rw [List.any_eq_true]
 constructor
 ·rintro ⟨⟨e1,e2,⟨⟩⟩,he,h⟩
  simp only [band,seq,Bool.and_eq_true,beq_iff_eq] at h
  rw [h.1,h.2];exact he
 ·intro h
  exact ⟨_,h,by simp [band,seq]⟩
theorem qjS (p:wW) (k b:BB) (hl:p.2.1.length≤1000000):qg0 (p,k,b,())=some (D ((k,b,())∈p.2.1),()):=by
 unfold qg0
 dsimp only
 generalize p.2.1=l at hl
 generalize hf:(fun (x_1:Bool×Int×Unit)=>(_:Option (LS (Bool×Int×Unit) (Bool×Unit))))=f
 have hsame:∀ (i:Nat) (h:i < l.length),nth l (nat (i:Int)) (none' UInt8,none' UInt8,())=l[i]:=fun i h=>by rw [qR,qL h]
 have key:=qaR (f:=f) l (fun i=>(false,(i:Int),())) 0 ((true,()):Bool×Unit) (fun e=>¬ e=(k,b,())) (fun i h hp => ?_) (fun i h hp => ?_) ?_
 ·rcases key with ⟨h,hl⟩ | ⟨h,hl⟩
  ·refine (qZ (show loop f (false,0,())=_ from hl)).trans ?_
   refine (qH g62).trans ?_
   rw [D_f (fun hm=>h _ hm rfl)]
  ·refine (qZ (show loop f (false,0,())=_ from hl)).trans ?_
   rw [D_t (Classical.byContradiction fun hm=>h fun x hx e=>hm (e ▸ hx))];rfl
 ·subst hf
  have hi':i64 (iadd (i:Int) 1)=((i+1:Nat):Int):=i64n (by show (i:Int)+1=_;omega) (by omega)
  refine (qE (by simp (disch:=first | assumption | omega | (dsimp only;omega) | decide) only [go_sem,Int.reduceToNat];omega)).trans ?_
  refine (qH (by simp (disch:=first | assumption | omega | (dsimp only;omega) | decide) only [go_sem,Int.reduceToNat];omega)).trans ?_
  dsimp only
  rw [hsame i h,hi']
  generalize l[i]=e at hp
  obtain ⟨e1,e2,⟨⟩⟩:=e
  by_cases h1:e1=k
  ·have h2:¬ e2=b:=fun h2=>hp (by rw [h1,h2])
   simp (disch:=first | assumption | omega | (dsimp only;omega) | decide) only [go_sem,Int.reduceToNat,zA,h1,h2]
  ·simp (disch:=first | assumption | omega | (dsimp only;omega) | decide) only [go_sem,Int.reduceToNat,zA,h1]
 ·subst hf
  have hp':l[i]=(k,b,()):=Classical.byContradiction hp
  refine (qE (by simp (disch:=first | assumption | omega | (dsimp only;omega) | decide) only [go_sem,Int.reduceToNat];omega)).trans ?_
  refine (qH (by simp (disch:=first | assumption | omega | (dsimp only;omega) | decide) only [go_sem,Int.reduceToNat];omega)).trans ?_
  dsimp only
  rw [hsame i h,hp']
  simp (disch:=first | assumption | omega | (dsimp only;omega) | decide) only [go_sem,Int.reduceToNat,zA]
 ·subst hf
  exact qB (by simp (disch:=first | assumption | omega | (dsimp only;omega) | decide) only [go_sem,Int.reduceToNat];omega)
def ptag (p:wW) (k b:BB):wW:=if (k,b,())∈p.2.1 then p else (p.1,p.2.1++[(k,b,())],p.2.2)
theorem qI2 {α:Type} (l:List α):sub l 0 (len l)=l:=by
 unfold sub
 rw [show (0:Int).toNat=0 from rfl,List.drop_zero,show (len l).toNat=l.length from qR,List.take_of_length_le (by omega)]
theorem qKL {α:Type} (l:List α):band (inC 0 (len l) (len l)) (beq (len l) (len l))=true:=by
 rw [qaD rfl,g37];simp (disch:=first | assumption | omega | (dsimp only;omega) | decide) only [go_sem,Int.reduceToNat];omega
theorem qIr (l:List ET):zK (l,())=some (l,()):=by
 unfold zK
 dsimp only
 rw [qI2]
 exact qH (qKL l)
theorem qgH (l:BB) (h:l.length≤1000000):qb5 (l,())=some (l,()):=by
 unfold qb5
 exact qH (by simp (disch:=first | assumption | omega | (dsimp only;omega) | decide) only [go_sem,Int.reduceToNat];omega)
theorem qy6 (p:wW) (k b:BB) (hl:p.2.1.length≤1000000) (hk:k.length≤1000000) (hb:b.length≤1000000):qqN (p,k,b,())=some (ptag p k b,vG k b,()):=by
 unfold qqN
 dsimp only
 rw [qy7]
 refine (qF rfl).trans ?_
 unfold ptag
 by_cases h:(k,b,())∈p.2.1
 ·rw [D_t h,if_pos h]
  refine (qB rfl).trans ?_
  rw [qg8 _ _ hk hb];rfl
 ·rw [D_f h,if_neg h]
  refine (qE rfl).trans ?_
  rw [qIr]
  refine (qF rfl).trans ?_
  rw [qgH _ hk]
  refine (qF rfl).trans ?_
  rw [qgH _ hb]
  refine (qF rfl).trans ?_
  refine (qH (by simp (disch:=first | assumption | omega | (dsimp only;omega) | decide) only [go_sem,Int.reduceToNat];simp;omega)).trans ?_
  rw [qg8 _ _ hk hb];rfl
theorem qvF (p:wW) (k b:BB) (hl:p.2.1.length≤1000000) (hk:k.length≤1000000) (hb:b.length≤1000000):qlX (p,k,b,())=some (ptag p k b,vG k b,()):=by
 unfold qlX
 dsimp only
 rw [qjS _ _ _ hl]
 refine (qF rfl).trans ?_
 unfold ptag
 by_cases h:(k,b,())∈p.2.1
 ·rw [D_t h,if_pos h]
  refine (qB rfl).trans ?_
  rw [w8 _ _ hk hb];rfl
 ·rw [D_f h,if_neg h]
  refine (qE rfl).trans ?_
  refine (qH (by simp (disch:=first | assumption | omega | (dsimp only;omega) | decide) only [go_sem,Int.reduceToNat];omega)).trans ?_
  refine (qH (by simp (disch:=first | assumption | omega | (dsimp only;omega) | decide) only [go_sem,Int.reduceToNat];simp;omega)).trans ?_
  rw [w8 _ _ hk hb];rfl
theorem qOP (p:wW) (k b:BB):(ptag p k b).2.1.length≤p.2.1.length+1:=by
 unfold ptag
 split
 ·omega
 ·simp
def pchk (p:wW) (k b t:BB):wW×Bool×Unit :=
 if vG k b=t then (if (k,b,())∈p.2.1 then (p,true,()) else ((p.1,p.2.1,true,()), !p.1,())) else (p,false,())
theorem qp9 (p:wW) (k b t:BB) (hl:p.2.1.length≤1000000) (hk:k.length≤1000000) (hb:b.length≤1000000):qbP (p,k,b,t,())=some (pchk p k b t):=by
 unfold qbP
 dsimp only
 rw [w8 _ _ hk hb]
 refine (qF rfl).trans ?_
 dsimp only
 rw [zA]
 refine (qF rfl).trans ?_
 unfold pchk
 by_cases ht:vG k b=t
 ·rw [if_pos ht,qMS ht]
  refine (qB rfl).trans ?_
  rw [qjS _ _ _ hl]
  refine (qF rfl).trans ?_
  by_cases h:(k,b,())∈p.2.1
  ·rw [D_t h,if_pos h];rfl
  ·rw [D_f h,if_neg h];rfl
 ·rw [if_neg ht,qMT ht];rfl
theorem qsG (p:wW) (hl:p.2.1.length≤1000000):qdY (p,p,())=some (true,()):=by
 unfold qdY
 dsimp only
 have e1:∀ b:Bool,beb b b=true:=fun b=>by cases b <;> rfl
 rw [e1,e1,qaD rfl]
 refine (qF (a:=(false,())) rfl).trans ?_
 refine (qB rfl).trans ?_
 generalize p.2.1=l at hl
 generalize hf:(fun (x_1:Bool×Int×Unit)=>(_:Option (LS (Bool×Int×Unit) (Bool×Unit))))=f
 have step:∀ i:Nat,i < l.length→f (false,(i:Int),())=some (.nx (false,((i+1:Nat):Int),())):=by
  intro i hi
  subst hf
  have hi':i64 (iadd (i:Int) 1)=((i+1:Nat):Int):=i64n (by show (i:Int)+1=_;omega) (by omega)
  refine (qE (by simp (disch:=first | assumption | omega | (dsimp only;omega) | decide) only [go_sem,Int.reduceToNat];omega)).trans ?_
  dsimp only
  rw [hi']
  simp (disch:=first | assumption | omega | (dsimp only;omega) | decide) only [go_sem,Int.reduceToNat,zA]
 have hend:f (false,(l.length:Int),())=some (.ex 0 (false,(l.length:Int),())):=by subst hf;exact qB (by simp (disch:=first | assumption | omega | (dsimp only;omega) | decide) only [go_sem,Int.reduceToNat];omega)
 have hloop:=(qN (f:=f) (fun i=>(false,(i:Int),())) l.length step 0 (Nat.zero_le _)).trans (qT hend)
 refine (qZ (show loop f (false,0,())=_ from hloop)).trans ?_
 exact qH g62
def fewP (p:wW) (most:Int):Prop:=(p.2.1.length:Int)≤most∧∀ e∈p.2.1,e.1.length≤100∧e.2.1.length≤2000
theorem qvG (p:wW) (most:Int) (hm:most≤1000000):qg1 (p,most,())=some (D (fewP p most),()):=by
 unfold qg1 fewP
 dsimp only
 generalize p.2.1=l
 by_cases h0:(l.length:Int)≤most
 ·refine (qB (by simp (disch:=first | assumption | omega | (dsimp only;omega) | decide) only [go_sem,Int.reduceToNat];omega)).trans ?_
  generalize hf:(fun (x_1:Bool×Int×Unit)=>(_:Option (LS (Bool×Int×Unit) (Bool×Unit))))=f
  have hsame:∀ (i:Nat) (h:i < l.length),nth l (nat (i:Int)) (none' UInt8,none' UInt8,())=l[i]:=fun i h=>by rw [qR,qL h]
  have key:=qaR (f:=f) l (fun i=>(false,(i:Int),())) 0 ((false,()):Bool×Unit) (fun e=>e.1.length≤100∧e.2.1.length≤2000) (fun i h hp => ?_) (fun i h hp => ?_) ?_
  ·rcases key with ⟨h,hl⟩ | ⟨h,hl⟩
   ·refine (qZ (show loop f (false,0,())=_ from hl)).trans ?_
    refine (qH g62).trans ?_
    rw [D_t ⟨h0,h⟩]
   ·refine (qZ (show loop f (false,0,())=_ from hl)).trans ?_
    rw [D_f (fun hm=>h hm.2)];rfl
  ·subst hf
   have hi':i64 (iadd (i:Int) 1)=((i+1:Nat):Int):=i64n (by show (i:Int)+1=_;omega) (by omega)
   refine (qE (by simp (disch:=first | assumption | omega | (dsimp only;omega) | decide) only [go_sem,Int.reduceToNat];omega)).trans ?_
   dsimp only
   rw [hsame i h,hi']
   obtain ⟨p1,p2⟩:=hp
   simp (disch:=first | assumption | omega | (dsimp only;omega) | decide) only [go_sem,Int.reduceToNat]
  ·subst hf
   refine (qE (by simp (disch:=first | assumption | omega | (dsimp only;omega) | decide) only [go_sem,Int.reduceToNat];omega)).trans ?_
   dsimp only
   rw [hsame i h]
   by_cases h1:l[i].1.length≤100
   ·have h2:¬ l[i].2.1.length≤2000:=fun h2=>hp ⟨h1,h2⟩
    simp (disch:=first | assumption | omega | (dsimp only;omega) | decide) only [go_sem,Int.reduceToNat]
   ·simp (disch:=first | assumption | omega | (dsimp only;omega) | decide) only [go_sem,Int.reduceToNat]
  ·subst hf
   exact qB (by simp (disch:=first | assumption | omega | (dsimp only;omega) | decide) only [go_sem,Int.reduceToNat];omega)
 ·refine (qE (by simp (disch:=first | assumption | omega | (dsimp only;omega) | decide) only [go_sem,Int.reduceToNat];omega)).trans ?_
  rw [D_f (fun h=>h0 h.1)]
end Yp
namespace Yp
open Go
set_option maxRecDepth 100000
set_option maxHeartbeats 2000000
def big8 (n:Int):BB:=ps 256 byt n.toNat 8
theorem quG (n:Int):(big8 n).length=8:=zI _ _ _ _
def recD (n:Int):BB:=big8 n++(qpM ([u8 121,u8 101,u8 116,u8 116]++big8 n)).take 8
theorem qFn (n:Int):(recD n).length=16:=by unfold recD;rw [List.length_append,quG,List.length_take,xD];rfl
def qNU (n:Int):Prop:=1≤n∧n≤4611686018427387904
theorem qPV {n:Int} (h:qNU n):((1:Int)≤8∧(8:Int)≤8∧0≤n∧n < 256 ^ (8:Int).toNat):=by
 obtain ⟨h1,h2⟩:=h
 refine ⟨by omega,by omega,by omega, ?_⟩
 show n < 256 ^ 8
 omega
theorem qnR (n:Int) (hn:n≤9223372036854775807):qcD (n,())=some (if 1≤n∧n≤4611686018427387904 then (recD n,0,()) else ([],1,())):=by
 unfold qcD
 dsimp only
 by_cases h:1≤n∧n≤4611686018427387904
 ·rw [if_pos h]
  refine (qF (a:=(false,())) ((qB (by simp (disch:=first | assumption | omega | (dsimp only;omega) | decide) only [go_sem,Int.reduceToNat];omega)).trans (by rw [show lt 4611686018427387904 n=false from lt_f (by omega)]))).trans ?_
  refine (qB rfl).trans ?_
  rw [qcY _ _ hn,if_pos (qPV h)]
  refine (qF rfl).trans ?_
  dsimp only
  rw [show ps 256 byt n.toNat (8:Int).toNat=big8 n from rfl]
  have:=quG n
  refine (qH (by simp (disch:=first | assumption | omega | (dsimp only;omega) | decide) only [go_sem,Int.reduceToNat];simp;omega)).trans ?_
  rw [show app [u8 121,u8 101,u8 116,u8 116] (big8 n)=[u8 121,u8 101,u8 116,u8 116]++big8 n from rfl,qaO _ (by simp;omega)]
  refine (qF rfl).trans ?_
  dsimp only
  have h2:=xD ([u8 121,u8 101,u8 116,u8 116]++big8 n)
  refine (qH (by simp (disch:=first | assumption | omega | (dsimp only;omega) | decide) only [go_sem,Int.reduceToNat];omega)).trans ?_
  refine (qH (by simp (disch:=first | assumption | omega | (dsimp only;omega) | decide) only [go_sem,Int.reduceToNat];omega)).trans ?_
  rw [show cut (qpM ([u8 121,u8 101,u8 116,u8 116]++big8 n)) (nat 0) (nsub (nat 8) (nat 0))=(qpM ([u8 121,u8 101,u8 116,u8 116]++big8 n)).take 8 from rfl,show app (none' UInt8) (big8 n)=big8 n from rfl]
  refine (qH (by simp (disch:=first | assumption | omega | (dsimp only;omega) | decide) only [go_sem,Int.reduceToNat];simp;omega)).trans ?_
  rfl
 ·rw [if_neg h]
  by_cases h1:n < 1
  ·refine (qF (a:=(true,())) (qE (by simp (disch:=first | assumption | omega | (dsimp only;omega) | decide) only [go_sem,Int.reduceToNat];omega))).trans ?_
   rfl
  ·refine (qF (a:=(true,())) ((qB (by simp (disch:=first | assumption | omega | (dsimp only;omega) | decide) only [go_sem,Int.reduceToNat];omega)).trans (by rw [show lt 4611686018427387904 n=true from lt_t (by omega)]))).trans ?_
   rfl
abbrev ST:=BB×BB×Unit
end Yp
namespace Yp
open Go
set_option maxRecDepth 100000
set_option maxHeartbeats 2000000
def qGX (s:ST):Prop:=s.1.length=16∧s.2.1.length=16
def newS:ST:=(recD 1,List.replicate 16 (u8 0),())
theorem qvA:qlR ()=some (newS,()):=by
 unfold qlR
 rw [qnR _ (by decide),if_pos (by decide)]
 rfl
theorem qp0 (s:ST):qeY (s,())=some (D (qGX s),()):=by
 unfold qeY qGX
 by_cases h:s.1.length=16
 ·simp (disch:=first | assumption | omega | (dsimp only;omega) | decide) only [go_sem,Int.reduceToNat,h];exact zH (by omega)
 ·rw [D_f (fun h'=>h h'.1)];simp (disch:=first | assumption | omega | (dsimp only;omega) | decide) only [go_sem,Int.reduceToNat];try omega
theorem qr4 (s:ST):qiR (s,s,())=some (true,()):=by
 unfold qiR
 simp (disch:=first | assumption | omega | (dsimp only;omega) | decide) only [go_sem,Int.reduceToNat,zA]
theorem qvB (s:ST):qlS (s,())=some (D (s.1.length≤100∧s.2.1.length≤100),()):=by
 unfold qlS
 by_cases h:s.1.length≤100
 ·simp (disch:=first | assumption | omega | (dsimp only;omega) | decide) only [go_sem,Int.reduceToNat];exact zH (by omega)
 ·rw [D_f (fun h'=>h h'.1)];simp (disch:=first | assumption | omega | (dsimp only;omega) | decide) only [go_sem,Int.reduceToNat];try omega
end Yp
namespace Yp
open Go
set_option maxRecDepth 100000
set_option maxHeartbeats 2000000
def zL (p:Int):Prop:=2≤p∧p≤6
def qn5 (p:Int):Prop:=p=3∨p=4∨p=5
instance (p:Int):Decidable (zL p):=by unfold zL;infer_instance
instance (p:Int):Decidable (qn5 p):=by unfold qn5;infer_instance
def qFz (p:Int):Int:=if p=0 then 0 else if p=1 then 1 else if p=2 then 2 else if p=3 then 3 else if p=4 then 4 else if p=5 then 4 else if p=6 then 5 else -1
theorem qbR (p:Int):y0 (p,())=some (qFz p,()):=by
 unfold y0 qFz
 by_cases h0:p=0
 ·subst h0;rfl
 by_cases h1:p=1
 ·subst h1;rfl
 by_cases h2:p=2
 ·subst h2;rfl
 by_cases h3:p=3
 ·subst h3;rfl
 by_cases h4:p=4
 ·subst h4;rfl
 by_cases h5:p=5
 ·subst h5;rfl
 by_cases h6:p=6
 ·subst h6;rfl
 rw [if_neg h0,if_neg h1,if_neg h2,if_neg h3,if_neg h4,if_neg h5,if_neg h6]
 simp (disch:=first | assumption | omega | (dsimp only;omega) | decide) only [go_sem,Int.reduceToNat]
theorem qNF (p:Int):2≤qFz p↔zL p:=by
 unfold qFz zL
 repeat' split
 all_goals omega
theorem qLE (p:Int):qFz p=3∨qFz p=4↔qn5 p:=by
 unfold qFz qn5
 repeat' split
 all_goals omega
theorem qnT (p:Int):qcF (p,())=some (D (zL p),()):=by
 unfold qcF
 rw [qbR]
 simp (disch:=first | assumption | omega | (dsimp only;omega) | decide) only [go_sem,Int.reduceToNat,qNF]
theorem qsL (p:Int):qi7 (p,())=some (D (qn5 p),()):=by
 unfold qi7
 rw [qbR]
 simp (disch:=first | assumption | omega | (dsimp only;omega) | decide) only [go_sem,Int.reduceToNat,qbR,qLE]
theorem yS (p:Int):kG (p,())=some (D (zL p),()):=by
 unfold kG zL
 simp (disch:=first | assumption | omega | (dsimp only;omega) | decide) only [go_sem,Int.reduceToNat]
theorem qbG (p:Int):qdT (p,())=some (D (qn5 p),()):=by
 unfold qdT qn5
 simp (disch:=first | assumption | omega | (dsimp only;omega) | decide) only [go_sem,Int.reduceToNat]
 exact zH or_assoc
def qvT (c s:Int) (b:BB):Prop:=kL c∧1≤s∧s≤999999∧1≤b.length∧b.length≤900
instance (c s:Int) (b:BB):Decidable (qvT c s b):=by unfold qvT;infer_instance
theorem qwA (c:Int):qm2 (c,())=some (D (kL c),()):=by
 unfold qm2 kL
 by_cases h1:c=1
 ·subst h1;simp (disch:=first | assumption | omega | (dsimp only;omega) | decide) only [go_sem,Int.reduceToNat]
 by_cases h2:c=2
 ·subst h2;simp (disch:=first | assumption | omega | (dsimp only;omega) | decide) only [go_sem,Int.reduceToNat]
 by_cases h3:c=101
 ·subst h3;simp (disch:=first | assumption | omega | (dsimp only;omega) | decide) only [go_sem,Int.reduceToNat]
 by_cases h4:c=201
 ·subst h4;simp (disch:=first | assumption | omega | (dsimp only;omega) | decide) only [go_sem,Int.reduceToNat]
 simp (disch:=first | assumption | omega | (dsimp only;omega) | decide) only [go_sem,Int.reduceToNat,h1,h2,h3,h4]
theorem qAK (c s:Int) (b:BB):qqX (c,s,b,())=some (D (qvT c s b),()):=by
 unfold qqX qvT
 rw [qwA]
 by_cases hk:kL c
 ·simp (disch:=first | assumption | omega | (dsimp only;omega) | decide) only [go_sem,Int.reduceToNat,hk];exact zH (by omega)
 ·rw [D_f (p:=_∧_) (fun h=>hk h.1)];simp (disch:=first | assumption | omega | (dsimp only;omega) | decide) only [go_sem,Int.reduceToNat,hk]
theorem qgX (c s:Int) (b:BB):qdS (c,s,b,())=some (D (qvT c s b),()):=by
 unfold qdS qvT
 rw [qf7]
 by_cases hk:kL c
 ·simp (disch:=first | assumption | omega | (dsimp only;omega) | decide) only [go_sem,Int.reduceToNat,hk];exact zH (by omega)
 ·rw [D_f (p:=_∧_) (fun h=>hk h.1)];simp (disch:=first | assumption | omega | (dsimp only;omega) | decide) only [go_sem,Int.reduceToNat,hk]
def noA:TAsk:=(0,0,0,0,[],())
def qj2 (c s:Int) (b:BB):TAsk×Int×Unit:=if qvT c s b then ((c,s,8,3,b,()),0,()) else (noA,1,())
theorem qwB (c s:Int) (b:BB):qm3 (c,s,b,())=some (qj2 c s b):=by
 unfold qm3 qj2
 rw [qAK]
 by_cases h:qvT c s b
 ·rw [D_t h,if_pos h];rfl
 ·rw [D_f h,if_neg h];rfl
theorem qpZ (c s:Int) (b:BB):qeX (c,s,b,())=some (qj2 c s b):=by
 unfold qeX qj2
 rw [qgX]
 by_cases h:qvT c s b
 ·rw [D_t h,if_pos h];rfl
 ·rw [D_f h,if_neg h];rfl
theorem qr3 (a:TAsk):qiQ (a,())=some (D (a=noA),()):=by
 obtain ⟨c,s,d,l,b,⟨⟩⟩:=a
 unfold qiQ noA
 simp (disch:=first | assumption | omega | (dsimp only;omega) | decide) only [go_sem,Int.reduceToNat]
 refine zH ?_
 simp only [Prod.mk.injEq,and_true]
 have hb:(b.length:Int)=0↔b=[]:=by rw [← List.length_eq_zero_iff];omega
 rw [hb]
 constructor
 ·rintro ⟨⟨⟨⟨h1,h2⟩,h3⟩,h4⟩,h5⟩;exact ⟨h1,h2,h3,h4,h5⟩
 ·rintro ⟨h1,h2,h3,h4,h5⟩;exact ⟨⟨⟨⟨h1,h2⟩,h3⟩,h4⟩,h5⟩
theorem qAJ (a:TAsk):qqW (a,())=some (D (a=noA),()):=by
 obtain ⟨c,s,d,l,b,⟨⟩⟩:=a
 unfold qqW qAM noA
 simp (disch:=first | assumption | omega | (dsimp only;omega) | decide) only [go_sem,Int.reduceToNat,qqJ]
 refine zH ?_
 simp only [Prod.mk.injEq,and_true]
 constructor
 ·rintro ⟨⟨⟨⟨h1,h2⟩,h3⟩,h4⟩,h5⟩;exact ⟨h1,h2,h3,h4,h5⟩
 ·rintro ⟨h1,h2,h3,h4,h5⟩;exact ⟨⟨⟨⟨h1,h2⟩,h3⟩,h4⟩,h5⟩
def qsW (a:TAsk) (c s:Int):Prop:=¬ a=noA∧a.1=c∧a.2.1=s
theorem qv9 (a:TAsk) (c s:Int):qm1 (a,c,s,())=some (D (qsW a c s),()):=by
 unfold qm1 qsW
 rw [qAJ]
 simp (disch:=first | assumption | omega | (dsimp only;omega) | decide) only [go_sem,Int.reduceToNat]
def qJt (a:TAsk):Prop:=a=noA∨qvT a.1 a.2.1 a.2.2.2.2.1∧1≤a.2.2.1∧a.2.2.1≤8∧0≤a.2.2.2.1∧a.2.2.2.1≤3
theorem qpY (a:TAsk):qeW (a,())=some (D (qJt a),()):=by
 unfold qeW qJt
 rw [qr3]
 simp (disch:=first | assumption | omega | (dsimp only;omega) | decide) only [go_sem,Int.reduceToNat,qgX]
 refine zH ?_
 simp only [and_assoc]
theorem qr2 (a:TAsk):qiP (a,a,())=some (true,()):=by
 unfold qiP
 simp (disch:=first | assumption | omega | (dsimp only;omega) | decide) only [go_sem,Int.reduceToNat,zA]
def kQ (n:Int):Int:=if n < 0∨999999≤n then 1 else n+1
theorem qAL (n:Int):qqY (n,())=some (kQ n,()):=by
 unfold qqY kQ
 by_cases h:n < 0∨999999≤n
 ·rw [if_pos h];simp (disch:=first | assumption | omega | (dsimp only;omega) | decide) only [go_sem,Int.reduceToNat]
 ·rw [if_neg h];simp (disch:=first | assumption | omega | (dsimp only;omega) | decide) only [go_sem,Int.reduceToNat]
theorem qr1 (n:Int):qiO (n,())=some (kQ n,()):=by
 unfold qiO kQ
 by_cases h:n < 0∨999999≤n
 ·rw [if_pos h];simp (disch:=first | assumption | omega | (dsimp only;omega) | decide) only [go_sem,Int.reduceToNat]
 ·rw [if_neg h];simp (disch:=first | assumption | omega | (dsimp only;omega) | decide) only [go_sem,Int.reduceToNat]
def qOQ (u:List Bool) (n:Nat):Option Nat:=((List.range 4).map fun i=>(n+i) % 4).find? fun c=>u.getD c false
def vJ (h:THub):THub×Int×Int×Unit:=match qOQ h.1 h.2.2.2.1.toNat with | none=>(h,0,11,()) | some c=>((h.1,h.2.1,h.2.2.1,(((c+1) % 4:Nat):Int),()),(c:Int),0,())
theorem four {α:Type} {w:List α} (h:w.length=4):∃ a b c d,w=[a,b,c,d]:=by
 match w,h with
 | [a,b,c,d],_=>exact ⟨a,b,c,d,rfl⟩
theorem qzS (h:THub) (hu:h.1.length=4) (hn:0≤h.2.2.2.1∧h.2.2.2.1 < 4):qqU (h,())=some (vJ h):=by
 obtain ⟨u,f,l,n,⟨⟩⟩:=h
 dsimp only at hu hn
 obtain ⟨a,b,c,d,rfl⟩:=four hu
 have:n=0∨n=1∨n=2∨n=3:=by omega
 unfold qqU
 rcases this with rfl | rfl | rfl | rfl <;> cases a <;> cases b <;> cases c <;> cases d <;> (refine (qZ (qhJ 5 rfl)).trans ?_;kernel_rfl)
theorem qr8 (h:THub) (hu:h.1.length=4) (hn:0≤h.2.2.2.1∧h.2.2.2.1 < 4):qiW (h,())=some (vJ h):=by
 obtain ⟨u,f,l,n,⟨⟩⟩:=h
 dsimp only at hu hn
 obtain ⟨a,b,c,d,rfl⟩:=four hu
 have:n=0∨n=1∨n=2∨n=3:=by omega
 unfold qiW qr9
 rcases this with rfl | rfl | rfl | rfl <;> cases a <;> cases b <;> cases c <;> cases d <;> first | (refine (qF (a:=(false,())) rfl).trans ?_;refine (qE rfl).trans ?_;kernel_rfl) | (refine (qF (a:=(true,())) rfl).trans ?_;refine (qB rfl).trans ?_;refine (qZ (qhJ 5 rfl)).trans ?_;kernel_rfl)
theorem qtD (b:BB) (h:1≤b.length∧b.length≤1024):qjD (b,())=some (vK b,0,()):=by
 unfold qjD
 refine (qF (a:=(false,())) ((qB (by simp (disch:=first | assumption | omega | (dsimp only;omega) | decide) only [go_sem,Int.reduceToNat];omega)).trans (by rw [show lt 1024 (len b)=false from lt_f (by simp (disch:=first | assumption | omega | (dsimp only;omega) | decide) only [go_sem,Int.reduceToNat];omega)]))).trans ?_
 refine (qB rfl).trans ?_
 refine (qH (by simp (disch:=first | assumption | omega | (dsimp only;omega) | decide) only [go_sem,Int.reduceToNat];simp;omega)).trans ?_
 rfl
theorem qsA (b:BB) (h:1≤b.length∧b.length≤1024):qiX (b,())=some (vK b,0,()):=by
 unfold qiX
 refine (qF (a:=(false,())) ((qB (by simp (disch:=first | assumption | omega | (dsimp only;omega) | decide) only [go_sem,Int.reduceToNat];omega)).trans (by rw [show lt 1024 (len b)=false from lt_f (by simp (disch:=first | assumption | omega | (dsimp only;omega) | decide) only [go_sem,Int.reduceToNat];omega)]))).trans ?_
 refine (qB rfl).trans ?_
 refine (qH (by simp (disch:=first | assumption | omega | (dsimp only;omega) | decide) only [go_sem,Int.reduceToNat];simp;omega)).trans ?_
 have q1:u8 (i64 (idiv (len b) 256))=u8 (shrI .i64 (len b) (n64 (u64 8))):=by
  have a1:idiv (len b) 256=((b.length / 256:Nat):Int):=by rw [g31 (by simp (disch:=first | assumption | omega | (dsimp only;omega) | decide) only [go_sem,Int.reduceToNat];omega)];simp (disch:=first | assumption | omega | (dsimp only;omega) | decide) only [go_sem,Int.reduceToNat];omega
  have a2:shrI .i64 (len b) (n64 (u64 8))=((b.length / 256:Nat):Int):=by show Int.fdiv (b.length:Int) (2 ^ 8)=_;rw [Int.fdiv_eq_ediv_of_nonneg _ (by decide)];omega
  rw [a1,a2,i64n rfl (by omega)]
 have q2:u8 (imod (len b) 256)=u8 (len b):=by
  rw [g32 (by simp (disch:=first | assumption | omega | (dsimp only;omega) | decide) only [go_sem,Int.reduceToNat];omega)];exact qAV (by simp (disch:=first | assumption | omega | (dsimp only;omega) | decide) only [go_sem,Int.reduceToNat];omega)
 dsimp only
 rw [q1,q2];rfl
end Yp
namespace Yp
open Go
set_option maxRecDepth 100000
set_option maxHeartbeats 2000000
abbrev GT:=Int×BB×Unit
def noG:GT:=(0,[],())
def noR:z4:=(noG,noG,noG,0,0,())
theorem qPe (g:GT):(g.1=0∧(g.2.1.length:Int)=0)↔g=noG:=by
 obtain ⟨n,k,⟨⟩⟩:=g
 unfold noG
 have hb:(k.length:Int)=0↔k=[]:=by rw [← List.length_eq_zero_iff];omega
 simp only [Prod.mk.injEq,and_true,hb]
theorem qcT (g:GT):qgQ (g,())=some (D (g=noG),()):=by
 unfold qgQ
 simp (disch:=first | assumption | omega | (dsimp only;omega) | decide) only [go_sem,Int.reduceToNat]
 exact zH (qPe g)
theorem qbJ (g:GT):kI (g,())=some (D (g=noG),()):=by
 unfold kI
 simp (disch:=first | assumption | omega | (dsimp only;omega) | decide) only [go_sem,Int.reduceToNat]
 exact zH (qPe g)
def yI (g:GT):Prop:=1≤g.1∧g.1≤2147483647∧g.2.1.length=32
instance (g:GT):Decidable (yI g):=by unfold yI;infer_instance
theorem qu4 (g:GT):qlH (g,())=some (D (yI g),()):=by
 unfold qlH yI
 simp (disch:=first | assumption | omega | (dsimp only;omega) | decide) only [go_sem,Int.reduceToNat]
 exact zH (by omega)
theorem qbI (g:GT):qaY (g,())=some (D (yI g),()):=by
 unfold qaY yI
 simp (disch:=first | assumption | omega | (dsimp only;omega) | decide) only [go_sem,Int.reduceToNat]
 exact zH (by omega)
theorem qPd (r:z4):(r.1=noG∧r.2.1=noG∧r.2.2.1=noG∧r.2.2.2.1=0∧r.2.2.2.2.1=0)↔r=noR:=by
 obtain ⟨a,b,c,l,t,⟨⟩⟩:=r
 unfold noR
 simp only [Prod.mk.injEq,and_true]
theorem qgR (r:z4):x6 ((r,()),())=some (D (r=noR),()):=by
 unfold x6 qeQ
 refine (qF rfl).trans ?_
 dsimp only
 generalize hf:(fun (x:Bool×Int×Unit)=>(_:Option (LS (Bool×Int×Unit) (Bool×Unit))))=f
 have key:=qaR (f:=f) [r.1,r.2.1,r.2.2.1] (fun i=>(false,(i:Int),())) 0 ((false,()):Bool×Unit) (fun g=>g=noG) (fun i h hp => ?_) (fun i h hp => ?_) ?_
 ·rcases key with ⟨h,hl⟩ | ⟨h,hl⟩
  ·refine (qZ (show loop f (false,0,())=_ from hl)).trans ?_
   refine (qH g62).trans ?_
   have h1:=h r.1 (by simp)
   have h2:=h r.2.1 (by simp)
   have h3:=h r.2.2.1 (by simp)
   simp (disch:=first | assumption | omega | (dsimp only;omega) | decide) only [go_sem,Int.reduceToNat]
   exact zH (Iff.trans ⟨fun h=>⟨h1,h2,h3,h.1,h.2⟩,fun h=>⟨h.2.2.2.1,h.2.2.2.2⟩⟩ (qPd r))
  ·refine (qZ (show loop f (false,0,())=_ from hl)).trans ?_
   rw [D_f (fun e=>h (by rw [e];intro x hx;simp [noR] at hx;exact hx))];rfl
 ·subst hf
  have h3:i < 3:=h
  have hi':i64 (iadd (i:Int) 1)=((i+1:Nat):Int):=i64n (by show (i:Int)+1=_;omega) (by omega)
  refine (qE (by simp (disch:=first | assumption | omega | (dsimp only;omega) | decide) only [go_sem,Int.reduceToNat];omega)).trans ?_
  refine (qH (by simp (disch:=first | assumption | omega | (dsimp only;omega) | decide) only [go_sem,Int.reduceToNat];omega)).trans ?_
  dsimp only
  rw [hi',qR,qL h,qcT,D_t hp];rfl
 ·subst hf
  have h3:i < 3:=h
  refine (qE (by simp (disch:=first | assumption | omega | (dsimp only;omega) | decide) only [go_sem,Int.reduceToNat];omega)).trans ?_
  refine (qH (by simp (disch:=first | assumption | omega | (dsimp only;omega) | decide) only [go_sem,Int.reduceToNat];omega)).trans ?_
  dsimp only
  rw [qR,qL h,qcT,D_f hp];rfl
 ·subst hf
  exact qB rfl
theorem vT (r:z4):v7 (r,())=some (D (r=noR),()):=by
 unfold v7
 simp (disch:=first | assumption | omega | (dsimp only;omega) | decide) only [go_sem,Int.reduceToNat,qbJ]
 refine zH (Iff.trans ?_ (qPd r))
 simp only [and_assoc]
def qhD (r:z4):Int×Int×Unit:=if r=noR then (0,9,()) else if 2147483647≤r.2.2.2.2.1 then (0,10,()) else (r.2.2.2.2.1+1,0,())
theorem qu6 (r:z4) (h:r.2.2.2.2.1≤2147483647) (h0:0≤r.2.2.2.2.1):qlJ (r,())=some (qhD r):=by
 unfold qlJ qhD
 rw [qgR]
 by_cases hr:r=noR
 ·rw [D_t hr,if_pos hr];rfl
 ·rw [D_f hr,if_neg hr]
  by_cases ht:2147483647≤r.2.2.2.2.1
  ·rw [if_pos ht];simp (disch:=first | assumption | omega | (dsimp only;omega) | decide) only [go_sem,Int.reduceToNat]
  ·rw [if_neg ht];simp (disch:=first | assumption | omega | (dsimp only;omega) | decide) only [go_sem,Int.reduceToNat]
theorem qr7 (r:z4) (h0:0≤r.2.2.2.2.1):qiU (r,())=some (qhD r):=by
 unfold qiU qhD
 rw [vT]
 by_cases hr:r=noR
 ·rw [D_t hr,if_pos hr];rfl
 ·rw [D_f hr,if_neg hr]
  by_cases ht:2147483647≤r.2.2.2.2.1
  ·rw [if_pos ht];simp (disch:=first | assumption | omega | (dsimp only;omega) | decide) only [go_sem,Int.reduceToNat]
  ·rw [if_neg ht];simp (disch:=first | assumption | omega | (dsimp only;omega) | decide) only [go_sem,Int.reduceToNat]
def zN (r:z4) (no:Int) (key:BB):z4×Int×Unit :=
 if ¬ yI (no,key,()) then (r,1,()) else if r=noR∨no≤r.1.1∨no < r.2.2.1.1 then (r,9,()) else ((r.1,r.2.1,(no,key,()),r.2.2.2.1,max r.2.2.2.2.1 no,()),0,())
theorem qa9 (r:z4) (no:Int) (key:BB):qaW (r,no,key,())=some (zN r no key):=by
 unfold qaW zN
 dsimp only
 rw [qu4]
 refine (qF rfl).trans ?_
 by_cases hg:yI (no,key,())
 ·rw [if_neg (not_not_intro hg),D_t hg]
  refine (qB rfl).trans ?_
  rw [qgR]
  refine (qF rfl).trans ?_
  by_cases hc:r=noR∨no≤r.1.1∨no < r.2.2.1.1
  ·rw [if_pos hc]
   refine (qF (a:=(true,())) ?_).trans rfl
   simp (disch:=first | assumption | omega | (dsimp only;omega) | decide) only [go_sem,Int.reduceToNat]
   try exact wM (by rcases hc with h | h | h <;> simp [h])
  ·rw [if_neg hc]
   simp only [not_or] at hc
   obtain ⟨c1,c2,c3⟩:=hc
   simp (disch:=first | assumption | omega | (dsimp only;omega) | decide) only [go_sem,Int.reduceToNat,c1]
   try rfl
 ·rw [if_pos hg,D_f hg];rfl
theorem qgA (r:z4) (no:Int) (key:BB):qbK (r,no,key,())=some (zN r no key):=by
 unfold qbK zN
 dsimp only
 by_cases hg:yI (no,key,())
 ·rw [if_neg (not_not_intro hg)]
  obtain ⟨h1,h2,h3⟩:=hg
  dsimp only at h1 h2 h3
  refine (qF (a:=(false,())) (by simp (disch:=first | assumption | omega | (dsimp only;omega) | decide) only [go_sem,Int.reduceToNat];try exact v3 (by omega))).trans ?_
  refine (qB rfl).trans ?_
  rw [vT]
  refine (qF rfl).trans ?_
  by_cases hc:r=noR∨no≤r.1.1∨no < r.2.2.1.1
  ·rw [if_pos hc]
   refine (qF (a:=(true,())) ?_).trans rfl
   simp (disch:=first | assumption | omega | (dsimp only;omega) | decide) only [go_sem,Int.reduceToNat]
   try exact wM (by rcases hc with h | h | h <;> simp [h])
  ·rw [if_neg hc]
   simp only [not_or] at hc
   obtain ⟨c1,c2,c3⟩:=hc
   refine (qF (a:=(false,())) (by simp (disch:=first | assumption | omega | (dsimp only;omega) | decide) only [go_sem,Int.reduceToNat,c1];try exact v3 (by omega))).trans ?_
   refine (qB rfl).trans ?_
   by_cases ht:r.2.2.2.2.1 < no
   ·rw [Int.max_eq_right (by omega)];simp (disch:=first | assumption | omega | (dsimp only;omega) | decide) only [go_sem,Int.reduceToNat]
   ·rw [Int.max_eq_left (by omega)];simp (disch:=first | assumption | omega | (dsimp only;omega) | decide) only [go_sem,Int.reduceToNat]
 ·rw [if_pos hg]
  unfold yI at hg
  dsimp only at hg
  refine (qF (a:=(true,())) (by simp (disch:=first | assumption | omega | (dsimp only;omega) | decide) only [go_sem,Int.reduceToNat];try exact wM (by omega))).trans ?_
  rfl
def qHN (r:z4):z4:=(r.1,r.2.1,noG,r.2.2.2)
theorem qlI (r:z4):qaJ (r,())=some (qHN r,()):=rfl
def qnD (r:z4):z4×Int×Unit:=if r.2.2.1=noG then (r,9,()) else ((r.2.2.1,r.1,noG,16,r.2.2.2.2),0,())
theorem qu5 (r:z4):qgS (r,())=some (qnD r):=by
 unfold qgS qnD
 rw [qcT]
 by_cases h:r.2.2.1=noG
 ·rw [if_pos h,D_t h];rfl
 ·rw [if_neg h,D_f h];rfl
theorem qgY (r:z4) (hr:r.2.2.1=noG∨¬ r.2.2.1.1=0):qaZ (r,())=some (qnD r):=by
 unfold qaZ qnD
 by_cases h:r.2.2.1=noG
 ·rw [if_pos h]
  have:r.2.2.1.1=0:=by rw [h];rfl
  simp (disch:=first | assumption | omega | (dsimp only;omega) | decide) only [go_sem,Int.reduceToNat]
 ·rw [if_neg h]
  have:¬ r.2.2.1.1=0:=hr.resolve_left h
  simp (disch:=first | assumption | omega | (dsimp only;omega) | decide) only [go_sem,Int.reduceToNat]
  rfl
def newR (k:BB):z4×Int×Unit:=if k.length=32 then (((1,k,()),noG,noG,0,1,()),0,()) else (noR,1,())
theorem qvC (k:BB):qlT (k,())=some (newR k):=by
 unfold qlT newR
 by_cases h:k.length=32
 ·rw [if_pos h];simp (disch:=first | assumption | omega | (dsimp only;omega) | decide) only [go_sem,Int.reduceToNat];rfl
 ·rw [if_neg h];simp (disch:=first | assumption | omega | (dsimp only;omega) | decide) only [go_sem,Int.reduceToNat];rfl
def yK (r:z4):Prop:=r=noR∨(yI r.1∧r.2.2.2.2.1≤2147483647∧r.1.1≤r.2.2.2.2.1∧r.2.2.1.1≤r.2.2.2.2.1 ∧
 (r.2.1=noG∧r.2.2.2.1=0∨¬ r.2.1=noG∧yI r.2.1∧r.2.1.1 < r.1.1∧1≤r.2.2.2.1∧r.2.2.2.1≤16)∧(r.2.2.1=noG∨yI r.2.2.1∧r.1.1 < r.2.2.1.1))
theorem qp2 (r:z4):qe0 (r,())=some (D (yK r),()):=by
 unfold qe0 yK
 dsimp only
 rw [vT]
 refine (qF rfl).trans ?_
 by_cases h0:r=noR
 ·rw [D_t h0,D_t (.inl h0)];rfl
 ·rw [D_f h0]
  refine (qB rfl).trans ?_
  rw [qbI]
  refine (qF rfl).trans ?_
  by_cases h1:yI r.1∧r.2.2.2.2.1≤2147483647∧r.1.1≤r.2.2.2.2.1∧r.2.2.1.1≤r.2.2.2.2.1
  ·obtain ⟨a1,a2,a3,a4⟩:=h1
   refine (qF (a:=(false,())) (by simp (disch:=first | assumption | omega | (dsimp only;omega) | decide) only [go_sem,Int.reduceToNat,a1];try exact v3 (by omega))).trans ?_
   refine (qB rfl).trans ?_
   rw [qbJ,qbI,qbJ,qbI]
   refine (qF rfl).trans ?_
   refine (qF rfl).trans ?_
   refine (qF rfl).trans ?_
   refine (qF rfl).trans ?_
   dsimp only
   by_cases h2:r.2.1=noG
   ·by_cases h3:r.2.2.2.1=0
    ·simp (disch:=first | assumption | omega | (dsimp only;omega) | decide) only [go_sem,Int.reduceToNat,h2,h3,a1,a2,a3,a4,h0]
    ·have:¬ (r=noR∨(yI r.1∧r.2.2.2.2.1≤2147483647∧r.1.1≤r.2.2.2.2.1∧r.2.2.1.1≤r.2.2.2.2.1∧(r.2.1=noG∧r.2.2.2.1=0∨¬ r.2.1=noG∧yI r.2.1∧r.2.1.1 < r.1.1∧1≤r.2.2.2.1∧r.2.2.2.1≤16)∧(r.2.2.1=noG∨yI r.2.2.1∧r.1.1 < r.2.2.1.1))):=by
      rintro (h | ⟨_,_,_,_,h | h,_⟩)
      ·exact h0 h
      ·exact h3 h.2
      ·exact h.1 h2
     rw [D_f this]
     simp (disch:=first | assumption | omega | (dsimp only;omega) | decide) only [go_sem,Int.reduceToNat,h2,h3]
   ·by_cases h3:yI r.2.1∧r.2.1.1 < r.1.1∧1≤r.2.2.2.1∧r.2.2.2.1≤16
    ·obtain ⟨b1,b2,b3,b4⟩:=h3
     simp (disch:=first | assumption | omega | (dsimp only;omega) | decide) only [go_sem,Int.reduceToNat,h2,b1,b2,b3,b4,a1,a2,a3,a4,h0]
    ·have:¬ (r=noR∨(yI r.1∧r.2.2.2.2.1≤2147483647∧r.1.1≤r.2.2.2.2.1∧r.2.2.1.1≤r.2.2.2.2.1∧(r.2.1=noG∧r.2.2.2.1=0∨¬ r.2.1=noG∧yI r.2.1∧r.2.1.1 < r.1.1∧1≤r.2.2.2.1∧r.2.2.2.1≤16)∧(r.2.2.1=noG∨yI r.2.2.1∧r.1.1 < r.2.2.1.1))):=by
      rintro (h | ⟨_,_,_,_,h | h,_⟩)
      ·exact h0 h
      ·exact h2 h.1
      ·exact h3 h.2
     rw [D_f this]
     by_cases c1:yI r.2.1
     ·have c2:¬ (r.2.1.1 < r.1.1∧1≤r.2.2.2.1∧r.2.2.2.1≤16):=fun h=>h3 ⟨c1,h⟩
      refine (qF (a:=(true,())) (by simp (disch:=first | assumption | omega | (dsimp only;omega) | decide) only [go_sem,Int.reduceToNat,h2,c1];try exact wM (by omega))).trans ?_
      rfl
     ·simp (disch:=first | assumption | omega | (dsimp only;omega) | decide) only [go_sem,Int.reduceToNat,h2,c1]
  ·have:¬ (r=noR∨(yI r.1∧r.2.2.2.2.1≤2147483647∧r.1.1≤r.2.2.2.2.1∧r.2.2.1.1≤r.2.2.2.2.1∧(r.2.1=noG∧r.2.2.2.1=0∨¬ r.2.1=noG∧yI r.2.1∧r.2.1.1 < r.1.1∧1≤r.2.2.2.1∧r.2.2.2.1≤16)∧(r.2.2.1=noG∨yI r.2.2.1∧r.1.1 < r.2.2.1.1))):=by
    rintro (h | ⟨b1,b2,b3,b4,_⟩)
    ·exact h0 h
    ·exact h1 ⟨b1,b2,b3,b4⟩
   rw [D_f this]
   by_cases c1:yI r.1
   ·have c2:¬ (r.2.2.2.2.1≤2147483647∧r.1.1≤r.2.2.2.2.1∧r.2.2.1.1≤r.2.2.2.2.1):=fun h=>h1 ⟨c1,h⟩
    refine (qF (a:=(true,())) (by simp (disch:=first | assumption | omega | (dsimp only;omega) | decide) only [go_sem,Int.reduceToNat,c1];try exact wM (by omega))).trans ?_
    rfl
   ·simp (disch:=first | assumption | omega | (dsimp only;omega) | decide) only [go_sem,Int.reduceToNat,c1]
theorem qr6 (r:z4):qiT (r,r,())=some (true,()):=by
 unfold qiT kX
 simp (disch:=first | assumption | omega | (dsimp only;omega) | decide) only [go_sem,Int.reduceToNat,zA]
def fewR (r:z4):Prop:=r.1.2.1.length≤100∧r.2.1.2.1.length≤100∧r.2.2.1.2.1.length≤100
theorem qvD (r:z4):qlU (r,())=some (D (fewR r),()):=by
 unfold qlU fewR
 simp (disch:=first | assumption | omega | (dsimp only;omega) | decide) only [go_sem,Int.reduceToNat]
 exact zH (by omega)
def qFK (r:z4) (no:Int):BB×Bool×Unit :=
 if no < 1 then ([],false,()) else if r.1.1=no then (r.1.2.1,true,()) else if r.2.1.1=no then (r.2.1.2.1,true,()) else if r.2.2.1.1=no then (r.2.2.1.2.1,true,()) else ([],false,())
theorem qgZ (r:z4) (no:Int):qdU (r,no,())=some (qFK r no):=by
 unfold qdU qFK
 by_cases h0:no < 1
 ·rw [if_pos h0];simp (disch:=first | assumption | omega | (dsimp only;omega) | decide) only [go_sem,Int.reduceToNat]
 rw [if_neg h0]
 by_cases h1:r.1.1=no
 ·rw [if_pos h1];simp (disch:=first | assumption | omega | (dsimp only;omega) | decide) only [go_sem,Int.reduceToNat]
 rw [if_neg h1]
 by_cases h2:r.2.1.1=no
 ·rw [if_pos h2];simp (disch:=first | assumption | omega | (dsimp only;omega) | decide) only [go_sem,Int.reduceToNat]
 rw [if_neg h2]
 by_cases h3:r.2.2.1.1=no
 ·rw [if_pos h3];simp (disch:=first | assumption | omega | (dsimp only;omega) | decide) only [go_sem,Int.reduceToNat]
 rw [if_neg h3];simp (disch:=first | assumption | omega | (dsimp only;omega) | decide) only [go_sem,Int.reduceToNat]
end Yp
namespace Yp
open Go
set_option maxRecDepth 100000
set_option maxHeartbeats 2000000
def z1 (n:Int):Prop:=0≤n∧n≤4611686018427387904
instance (n:Int):Decidable (z1 n):=by unfold z1;infer_instance
def e0 (v:TEnv):Int:=nth v.2.2.1 0 0
def e1 (v:TEnv):Int:=nth v.2.2.1 1 0
def qcG (v:TEnv):Prop:=(v.1=1∨v.1=2)∧z1 (e0 v)∧z1 (e1 v)∧z1 v.2.2.2.2.1∧(v.2.1=0∨v.2.1=1)∧(0≤v.2.2.2.1∧v.2.2.2.1≤2147483647)∧1≤v.2.2.2.2.2.1.length∧v.2.2.2.2.2.1.length≤900
theorem qb1 (n hi:Int):qa2 (n,hi,())=some (D (0≤n∧n≤hi),()):=by
 unfold qa2
 simp (disch:=first | assumption | omega | (dsimp only;omega) | decide) only [go_sem,Int.reduceToNat]
theorem yT (n:Int):kH (n,())=some (D (z1 n),()):=by
 unfold kH z1
 simp (disch:=first | assumption | omega | (dsimp only;omega) | decide) only [go_sem,Int.reduceToNat]
theorem qjY (v:TEnv):qhW (v,())=some (D (qcG v),()):=by
 obtain ⟨k,d,e,g,s,b,t,⟨⟩⟩:=v
 unfold qhW qcG e0 e1
 dsimp only
 by_cases hk:k=1∨k=2
 ·refine (qF (a:=(false,())) (by rcases hk with rfl | rfl <;> rfl)).trans ?_
  refine (qB rfl).trans ((qH rfl).trans ((qH rfl).trans ?_))
  rw [show nat 0=0 from rfl,show nat 1=1 from rfl]
  generalize nth e 0 0=x
  generalize nth e 1 0=y
  generalize hf:(fun (x_1:Bool×Int×Unit)=>(_:Option (LS (Bool×Int×Unit) (Bool×Unit))))=f
  have key:=qaR (f:=f) [x,y,s] (fun i=>(false,(i:Int),())) 0 ((false,()):Bool×Unit) z1 (fun i h hp => ?_) (fun i h hp => ?_) ?_
  ·rcases key with ⟨h,hl⟩ | ⟨h,hl⟩
   ·refine (qZ (show loop f (false,0,())=_ from hl)).trans ?_
    refine (qH g62).trans ?_
    have h1:=h x (by simp)
    have h2:=h y (by simp)
    have h3:=h s (by simp)
    simp (disch:=first | assumption | omega | (dsimp only;omega) | decide) only [go_sem,Int.reduceToNat,qb1]
    refine zH ?_
    simp only [hk,h1,h2,h3,true_and]
    omega
   ·refine (qZ (show loop f (false,0,())=_ from hl)).trans ?_
    rw [D_f (fun hc=>h fun z hz => ?_)]
    ·rfl
    ·simp only [List.mem_cons,List.not_mem_nil,or_false] at hz
     rcases hz with rfl | rfl | rfl
     ·exact hc.2.1
     ·exact hc.2.2.1
     ·exact hc.2.2.2.1
  ·subst hf
   have h3:i < 3:=h
   have hi':i64 (iadd (i:Int) 1)=((i+1:Nat):Int):=i64n (by show (i:Int)+1=_;omega) (by omega)
   refine (qE (by simp (disch:=first | assumption | omega | (dsimp only;omega) | decide) only [go_sem,Int.reduceToNat];omega)).trans ?_
   refine (qH (by simp (disch:=first | assumption | omega | (dsimp only;omega) | decide) only [go_sem,Int.reduceToNat];omega)).trans ?_
   dsimp only
   rw [hi',qR,qL h,qb1,D_t (show 0≤[x,y,s][i]∧[x,y,s][i]≤4611686018427387904 from hp)];rfl
  ·subst hf
   have h3:i < 3:=h
   refine (qE (by simp (disch:=first | assumption | omega | (dsimp only;omega) | decide) only [go_sem,Int.reduceToNat];omega)).trans ?_
   refine (qH (by simp (disch:=first | assumption | omega | (dsimp only;omega) | decide) only [go_sem,Int.reduceToNat];omega)).trans ?_
   dsimp only
   rw [qR,qL h,qb1,D_f (show ¬ (0≤[x,y,s][i]∧[x,y,s][i]≤4611686018427387904) from hp)];rfl
  ·subst hf
   exact qB rfl
 ·rw [D_f (fun h=>hk h.1)]
  simp only [not_or] at hk
  obtain ⟨h1,h2⟩:=hk
  refine (qF (a:=(true,())) (by simp (disch:=first | assumption | omega | (dsimp only;omega) | decide) only [go_sem,Int.reduceToNat,h1,h2])).trans ?_
  rfl
theorem qf8 (v:TEnv):qbH (v,())=some (D (qcG v),()):=by
 obtain ⟨k,d,e,g,s,b,t,⟨⟩⟩:=v
 unfold qbH qcG e0 e1
 dsimp only
 refine (qH rfl).trans ?_
 rw [yT]
 refine (qF rfl).trans ?_
 refine (qH rfl).trans ?_
 rw [yT]
 refine (qF rfl).trans ?_
 rw [yT]
 refine (qF rfl).trans ?_
 dsimp only
 rw [show nat 0=0 from rfl,show nat 1=1 from rfl]
 by_cases h1:z1 (nth e 0 0)∧z1 (nth e 1 0)∧z1 s
 ·obtain ⟨a1,a2,a3⟩:=h1
  rw [D_t a1,D_t a2,D_t a3]
  by_cases hk:k=1
  ·subst hk
   by_cases hd:d=0
   ·subst hd
    simp (disch:=first | assumption | omega | (dsimp only;omega) | decide) only [go_sem,Int.reduceToNat];refine zH ?_;simp only [a1,a2,a3,true_and];omega
   ·by_cases hd':d=1
    ·subst hd'
     simp (disch:=first | assumption | omega | (dsimp only;omega) | decide) only [go_sem,Int.reduceToNat];refine zH ?_;simp only [a1,a2,a3,true_and];omega
    ·rw [D_f (p:=_∧_) (fun h=>by have:=h.2.2.2.2.1;omega)];simp (disch:=first | assumption | omega | (dsimp only;omega) | decide) only [go_sem,Int.reduceToNat]
  ·by_cases hk':k=2
   ·subst hk'
    by_cases hd:d=0
    ·subst hd
     simp (disch:=first | assumption | omega | (dsimp only;omega) | decide) only [go_sem,Int.reduceToNat];refine zH ?_;simp only [a1,a2,a3,true_and];omega
    ·by_cases hd':d=1
     ·subst hd'
      simp (disch:=first | assumption | omega | (dsimp only;omega) | decide) only [go_sem,Int.reduceToNat];refine zH ?_;simp only [a1,a2,a3,true_and];omega
     ·rw [D_f (p:=_∧_) (fun h=>by have:=h.2.2.2.2.1;omega)];simp (disch:=first | assumption | omega | (dsimp only;omega) | decide) only [go_sem,Int.reduceToNat]
   ·rw [D_f (p:=_∧_) (fun h=>by have:=h.1;omega)];simp (disch:=first | assumption | omega | (dsimp only;omega) | decide) only [go_sem,Int.reduceToNat]
 ·rw [D_f (p:=(k=1∨k=2)∧_) (fun h=>h1 ⟨h.2.1,h.2.2.1,h.2.2.2.1⟩)]
  by_cases c1:z1 (nth e 0 0)
  ·by_cases c2:z1 (nth e 1 0)
   ·have c3:¬ z1 s:=fun h=>h1 ⟨c1,c2,h⟩
    rw [D_t c1,D_t c2,D_f c3];rfl
   ·rw [D_t c1,D_f c2];rfl
  ·rw [D_f c1];rfl
def bigN (w:Nat) (n:Int):BB:=ps 256 byt n.toNat w
theorem qP (w:Nat) (n:Int):(bigN w n).length=w:=zI _ _ _ _
def qV (v:TEnv):BB:=bigN 1 v.1++bigN 1 v.2.1++bigN 8 (e0 v)++bigN 8 (e1 v)++bigN 4 v.2.2.2.1++bigN 8 v.2.2.2.2.1++v.2.2.2.2.2.1
theorem jR (v:TEnv):(qV v).length=30+v.2.2.2.2.2.1.length:=by unfold qV;simp only [List.length_append,qP]
theorem qL2 {n:Int} {w:Nat} (h1:1≤w) (h8:w≤8) (h0:0≤n) (h:n < 256 ^ w) (hn:n≤9223372036854775807):y7 (n,(w:Int),())=some (bigN w n,0,()):=by
 rw [qo1 _ _ hn,if_pos ⟨by omega,by omega,h0,by rw [Int.toNat_natCast];exact h⟩,Int.toNat_natCast];rfl
theorem qd3 {n:Int} {w:Nat} (h1:1≤w) (h8:w≤8) (h0:0≤n) (h:n < 256 ^ w) (hn:n≤9223372036854775807):jF (n,(w:Int),())=some (bigN w n,()):=by
 unfold jF
 dsimp only
 rw [qcY _ _ hn,if_pos ⟨by omega,by omega,h0,by rw [Int.toNat_natCast];exact h⟩,Int.toNat_natCast];rfl
theorem qqR {f:Int×BB×Unit→Option (LS (Int×BB×Unit) Unit)} (w:Nat) (l:List Int) (acc:BB) (h1:1≤w) (h8:w≤8) (hl:l.length≤10) (ha:acc.length≤1000) (h:∀ n∈l,0≤n∧n < 256 ^ w∧n≤9223372036854775807)
  (hf:f=fun (x_1:Int×BB×Unit)=>sel (lt x_1.1 (len l)) (ck (inB x_1.1 (len l)) (ob (y7 (nth l (nat x_1.1) 0,(w:Int),())) fun (a:BB×Int×Unit)=>ck (rm 1 (nadd (ln x_1.2.1) (ln a.1))) (some (LS.nx (i64 (iadd x_1.1 1),app x_1.2.1 a.1,()))))) (some (LS.ex 0 (x_1.1,x_1.2.1,())))) :
  loop f (0,acc,())=some (.ex 0 ((l.length:Int),acc++l.flatMap (bigN w),())):=by
 have hL:∀ i,((l.take i).flatMap (bigN w)).length≤8*i:=by
  intro i
  rw [List.length_flatMap]
  have:((l.take i).map fun a=>(bigN w a).length)=(l.take i).map fun _=>w:=List.map_congr_left fun a _=>qP w a
  rw [this,List.map_const',List.sum_replicate_nat,List.length_take]
  have:min i l.length*w≤i*8:=Nat.mul_le_mul (Nat.min_le_left _ _) h8
  omega
 have step:∀ i:Nat,i < l.length→f ((i:Int),acc++(l.take i).flatMap (bigN w),())=some (.nx (((i+1:Nat):Int),acc++(l.take (i+1)).flatMap (bigN w),())):=by
  intro i hi
  subst hf
  have hi':i64 (iadd (i:Int) 1)=((i+1:Nat):Int):=i64n (by show (i:Int)+1=_;omega) (by omega)
  obtain ⟨q1,q2,q3⟩:=h l[i] (List.getElem_mem hi)
  have hLi:=hL i
  refine (qE (by simp (disch:=first | assumption | omega | (dsimp only;omega) | decide) only [go_sem,Int.reduceToNat];omega)).trans ?_
  refine (qH (by simp (disch:=first | assumption | omega | (dsimp only;omega) | decide) only [go_sem,Int.reduceToNat];omega)).trans ?_
  dsimp only
  rw [hi',qR,qL hi,qL2 h1 h8 q1 q2 q3]
  refine (qF rfl).trans ?_
  have hb:=qP w l[i]
  refine (qH (by simp (disch:=first | assumption | omega | (dsimp only;omega) | decide) only [go_sem,Int.reduceToNat];simp only [List.length_append,qP];omega)).trans ?_
  rw [List.take_succ_eq_append_getElem hi,List.flatMap_append,List.flatMap_cons,List.flatMap_nil,List.append_nil]
  unfold app
  rw [List.append_assoc]
 have hend:∀ u,f ((l.length:Int),u,())=some (.ex 0 ((l.length:Int),u,())):=by subst hf;intro u;exact qB (by simp (disch:=first | assumption | omega | (dsimp only;omega) | decide) only [go_sem,Int.reduceToNat];omega)
 have:=(qN (f:=f) (fun i=>((i:Int),acc++(l.take i).flatMap (bigN w),())) l.length step 0 (Nat.zero_le _)).trans (qT (hend _))
 rw [List.take_of_length_le (Nat.le_refl _),List.take_zero,List.flatMap_nil,List.append_nil] at this
 exact this
theorem qjZ (v:TEnv) (hv:qcG v):qhX (v,())=some (qV v,0,()):=by
 unfold qhX
 dsimp only
 rw [qjY,D_t hv]
 refine (qF rfl).trans ?_
 refine (qB rfl).trans ?_
 obtain ⟨k,d,e,g,s,b,t,⟨⟩⟩:=v
 unfold qV
 obtain ⟨h1,h2,h3,h4,h5,h6,h7,h8⟩:=hv
 unfold e0 z1 at h2
 unfold e1 z1 at h3
 unfold z1 at h4
 unfold e0 e1
 dsimp only at *
 rw [show nat 0=0 from rfl,show nat 1=1 from rfl]
 generalize nth e 0 0=x at h2
 generalize nth e 1 0=y at h3
 refine (qZ (qqR 1 [k,d] [] (by omega) (by omega) (by simp) (by simp) (fun n hn => ?_) rfl)).trans ?_
 ·simp only [List.mem_cons,List.not_mem_nil,or_false] at hn
  rcases hn with rfl | rfl <;> omega
 refine (qH g62).trans ((qH rfl).trans ((qH rfl).trans ?_))
 refine (qZ (qqR 8 [x,y] _ (by omega) (by omega) (by simp) (by simp [qP]) (fun n hn => ?_) rfl)).trans ?_
 ·simp only [List.mem_cons,List.not_mem_nil,or_false] at hn
  rcases hn with rfl | rfl <;> omega
 refine (qH g62).trans ?_
 refine (qZ (qqR 4 [g] _ (by omega) (by omega) (by simp) (by simp [qP]) (fun n hn => ?_) rfl)).trans ?_
 ·simp only [List.mem_cons,List.not_mem_nil,or_false] at hn
  subst hn;omega
 refine (qH g62).trans ?_
 refine (qZ (qqR 8 [s] _ (by omega) (by omega) (by simp) (by simp [qP]) (fun n hn => ?_) rfl)).trans ?_
 ·simp only [List.mem_cons,List.not_mem_nil,or_false] at hn
  subst hn;omega
 refine (qH g62).trans ?_
 dsimp only
 refine (qH (by simp (disch:=first | assumption | omega | (dsimp only;omega) | decide) only [go_sem,Int.reduceToNat];simp [qP];omega)).trans ?_
 unfold app
 simp only [List.flatMap_cons,List.flatMap_nil,List.append_nil,List.nil_append,List.append_assoc]
theorem wY (v:TEnv) (hv:qcG v):v6 (v,())=some (qV v,0,()):=by
 unfold v6
 dsimp only
 rw [qf8,D_t hv]
 refine (qF rfl).trans ?_
 refine (qB rfl).trans ?_
 obtain ⟨k,d,e,g,s,b,t,⟨⟩⟩:=v
 unfold qV
 obtain ⟨h1,h2,h3,h4,h5,h6,h7,h8⟩:=hv
 unfold e0 z1 at h2
 unfold e1 z1 at h3
 unfold z1 at h4
 unfold e0 e1
 dsimp only at *
 rw [show nat 0=0 from rfl,show nat 1=1 from rfl]
 generalize nth e 0 0=x at h2
 generalize nth e 1 0=y at h3
 rw [show jF (k,1,())=_ from qd3 (w:=1) (by omega) (by omega) (by omega) (by omega) (by omega)]
 refine (qF rfl).trans ?_
 rw [show jF (d,1,())=_ from qd3 (w:=1) (by omega) (by omega) (by omega) (by omega) (by omega)]
 refine (qF rfl).trans ?_
 have l1:=qP 1 k
 have l2:=qP 1 d
 refine (qH (by simp (disch:=first | assumption | omega | (dsimp only;omega) | decide) only [go_sem,Int.reduceToNat];omega)).trans ?_
 refine (qH rfl).trans ?_
 rw [show jF (x,8,())=_ from qd3 (w:=8) (by omega) (by omega) (by omega) (by omega) (by omega)]
 refine (qF rfl).trans ?_
 refine (qH (by simp (disch:=first | assumption | omega | (dsimp only;omega) | decide) only [go_sem,Int.reduceToNat];simp [qP])).trans ?_
 refine (qH rfl).trans ?_
 rw [show jF (y,8,())=_ from qd3 (w:=8) (by omega) (by omega) (by omega) (by omega) (by omega)]
 refine (qF rfl).trans ?_
 refine (qH (by simp (disch:=first | assumption | omega | (dsimp only;omega) | decide) only [go_sem,Int.reduceToNat];simp [qP])).trans ?_
 rw [show jF (g,4,())=_ from qd3 (w:=4) (by omega) (by omega) (by omega) (by omega) (by omega)]
 refine (qF rfl).trans ?_
 refine (qH (by simp (disch:=first | assumption | omega | (dsimp only;omega) | decide) only [go_sem,Int.reduceToNat];simp [qP])).trans ?_
 rw [show jF (s,8,())=_ from qd3 (w:=8) (by omega) (by omega) (by omega) (by omega) (by omega)]
 refine (qF rfl).trans ?_
 refine (qH (by simp (disch:=first | assumption | omega | (dsimp only;omega) | decide) only [go_sem,Int.reduceToNat];simp [qP])).trans ?_
 refine (qH (by simp (disch:=first | assumption | omega | (dsimp only;omega) | decide) only [go_sem,Int.reduceToNat];simp [qP];omega)).trans ?_
 rfl
def qjP (v:TEnv):Prop:=qcG v∧v.2.2.2.2.2.2.1.length=16
def vY (v:TEnv) (t:BB):TEnv:=(v.1,v.2.1,v.2.2.1,v.2.2.2.1,v.2.2.2.2.1,v.2.2.2.2.2.1,t,())
theorem qvV (v:TEnv):qmL (v,())=some (D (qjP v),()):=by
 unfold qmL qjP
 rw [qjY]
 simp (disch:=first | assumption | omega | (dsimp only;omega) | decide) only [go_sem,Int.reduceToNat]
 exact zH (and_congr_right fun _=>by omega)
theorem qf9 (v:TEnv):yU (v,())=some (D (qjP v),()):=by
 unfold yU qjP
 rw [qf8]
 simp (disch:=first | assumption | omega | (dsimp only;omega) | decide) only [go_sem,Int.reduceToNat]
 exact zH (and_congr_right fun _=>by omega)
theorem qvU (v:TEnv) (hv:qjP v):qmK (v,())=some (qV v++v.2.2.2.2.2.2.1,0,()):=by
 unfold qmK
 dsimp only
 rw [qvV,D_t hv]
 refine (qF rfl).trans ?_
 refine (qB rfl).trans ?_
 rw [qjZ _ hv.1]
 refine (qF rfl).trans ?_
 have h1:=jR v
 have h2:=hv.2
 have h3:=hv.1.2.2.2.2.2.2.2
 refine (qH (by simp (disch:=first | assumption | omega | (dsimp only;omega) | decide) only [go_sem,Int.reduceToNat];omega)).trans ?_
 rfl
theorem qp1 (v:TEnv) (hv:qjP v):qeZ (v,())=some (qV v++v.2.2.2.2.2.2.1,0,()):=by
 unfold qeZ
 dsimp only
 rw [qf9,D_t hv]
 refine (qF rfl).trans ?_
 refine (qB rfl).trans ?_
 rw [wY _ hv.1]
 refine (qF rfl).trans ?_
 have h1:=jR v
 have h2:=hv.2
 have h3:=hv.1.2.2.2.2.2.2.2
 refine (qH (by simp (disch:=first | assumption | omega | (dsimp only;omega) | decide) only [go_sem,Int.reduceToNat];omega)).trans ?_
 rfl
end Yp
namespace Yp
open Go
set_option maxRecDepth 100000
set_option maxHeartbeats 2000000
abbrev WT:=Int×List UInt64×Unit
abbrev qOg:=Int×BB×Unit
abbrev EvT:=Int×List Int×Int×BB×Unit
structure En' where
 id:Int
 key:BB
 ph:Int
 store:ST
 power:Int
 own:Int
 oth:Int
 seen:Int
 seq:Int
 win:WT
 ring:z4
 ask:TAsk
 stan:Int
 day:Int
 queue:List BB
 hub:THub
 out:List qOg
 got:List EvT
 cnt:List Int
def En'.t (e:En'):TEnd:=(e.id,e.key,e.ph,e.store,e.power,e.own,e.oth,e.seen,e.seq,e.win,e.ring,e.ask,e.stan,e.day,e.queue,e.hub,e.out,e.got,e.cnt,())
structure Si where
 e:En'
 p:wW
def Si.t (s:Si):qaE:=(s.e.t,s.p,())
def toEn (x:TEnd):En':=⟨x.1,x.2.1,x.2.2.1,x.2.2.2.1,x.2.2.2.2.1,x.2.2.2.2.2.1,x.2.2.2.2.2.2.1,x.2.2.2.2.2.2.2.1,x.2.2.2.2.2.2.2.2.1,x.2.2.2.2.2.2.2.2.2.1,x.2.2.2.2.2.2.2.2.2.2.1,x.2.2.2.2.2.2.2.2.2.2.2.1,x.2.2.2.2.2.2.2.2.2.2.2.2.1,
 x.2.2.2.2.2.2.2.2.2.2.2.2.2.1,x.2.2.2.2.2.2.2.2.2.2.2.2.2.2.1,x.2.2.2.2.2.2.2.2.2.2.2.2.2.2.2.1,x.2.2.2.2.2.2.2.2.2.2.2.2.2.2.2.2.1,x.2.2.2.2.2.2.2.2.2.2.2.2.2.2.2.2.2.1,x.2.2.2.2.2.2.2.2.2.2.2.2.2.2.2.2.2.2.1⟩
theorem qOF (x:qaE):∃ s:Si,x=s.t:=⟨⟨toEn x.1,x.2.1⟩,rfl⟩
def noW:WT:=(0,[u64 0,u64 0,u64 0,u64 0,u64 0,u64 0,u64 0,u64 0,u64 0,u64 0,u64 0,u64 0,u64 0,u64 0,u64 0,u64 0],())
structure okE (n:Nat) (e:En'):Prop where
 id:e.id=0∨e.id=1
 key:e.key.length≤1000
 ph:0≤e.ph∧e.ph≤8
 store:qGX e.store
 own:z1 e.own
 oth:z1 e.oth
 seq:z1 e.seq
 ring:yK e.ring
 up:e.hub.1.length=4
 next:0≤e.hub.2.2.2.1∧e.hub.2.2.2.1 < 4
 out:e.out.length≤n
 got:e.got.length≤n
 cnt:e.cnt.length=4
 win:e.win.2.1.length=16
 feed:e.hub.2.1.length=4
 life:e.hub.2.2.1.length=4
 queue:e.queue.length≤1000
structure okS (n:Nat) (s:Si):Prop where
 e:okE n s.e
 p:s.p.2.1.length≤n
def qaQ (e:En'):List Int:=if e.id=0 then [e.own,e.oth] else if e.id=1 then [e.oth,e.own] else [0,0]
theorem y3 (hi n:Int):xK (hi,[n],())=some (D (0≤n∧n≤hi),()):=by
 unfold xK
 dsimp only
 by_cases h:0≤n∧n≤hi
 ·rw [D_t h]
  refine (qZ (x3 (y:=(false,1,())) ?_)).trans ((qZ (qT (y:=(false,1,())) (k:=0) rfl)).trans rfl)
  refine (qE rfl).trans ((qH rfl).trans ?_)
  dsimp only
  rw [show nth [n] (nat 0) 0=n from rfl]
  simp (disch:=first | assumption | omega | (dsimp only;omega) | decide) only [go_sem,Int.reduceToNat]
  rfl
 ·rw [D_f h]
  refine (qZ (qc2 (r:=(false,())) ?_)).trans rfl
  refine (qE rfl).trans ((qH rfl).trans ?_)
  dsimp only
  rw [show nth [n] (nat 0) 0=n from rfl]
  refine (qF (a:=(true,())) (by simp (disch:=first | assumption | omega | (dsimp only;omega) | decide) only [go_sem,Int.reduceToNat];try exact wM (by omega))).trans ?_
  rfl
theorem qn0 (hi n m:Int):xK (hi,[n,m],())=some (D ((0≤n∧n≤hi)∧(0≤m∧m≤hi)),()):=by
 unfold xK
 dsimp only
 by_cases h:0≤n∧n≤hi
 ·refine (qZ (x3 (y:=(false,1,())) ?_)).trans ?_
  ·refine (qE rfl).trans ((qH rfl).trans ?_)
   dsimp only
   rw [show nth [n,m] (nat 0) 0=n from rfl]
   simp (disch:=first | assumption | omega | (dsimp only;omega) | decide) only [go_sem,Int.reduceToNat]
   rfl
  ·by_cases h':0≤m∧m≤hi
   ·rw [D_t ⟨h,h'⟩]
    refine (qZ (x3 (y:=(false,2,())) ?_)).trans ((qZ (qT (y:=(false,2,())) (k:=0) rfl)).trans rfl)
    refine (qE rfl).trans ((qH rfl).trans ?_)
    dsimp only
    rw [show nth [n,m] (nat 1) 0=m from rfl]
    simp (disch:=first | assumption | omega | (dsimp only;omega) | decide) only [go_sem,Int.reduceToNat]
    rfl
   ·rw [D_f (fun x=>h' x.2)]
    refine (qZ (qc2 (r:=(false,())) ?_)).trans rfl
    refine (qE rfl).trans ((qH rfl).trans ?_)
    dsimp only
    rw [show nth [n,m] (nat 1) 0=m from rfl]
    refine (qF (a:=(true,())) (by simp (disch:=first | assumption | omega | (dsimp only;omega) | decide) only [go_sem,Int.reduceToNat];try exact wM (by omega))).trans ?_
    rfl
 ·rw [D_f (fun x=>h x.1)]
  refine (qZ (qc2 (r:=(false,())) ?_)).trans rfl
  refine (qE rfl).trans ((qH rfl).trans ?_)
  dsimp only
  rw [show nth [n,m] (nat 0) 0=n from rfl]
  refine (qF (a:=(true,())) (by simp (disch:=first | assumption | omega | (dsimp only;omega) | decide) only [go_sem,Int.reduceToNat];try exact wM (by omega))).trans ?_
  rfl
theorem qc4 (e:En'):wR (e.t,())=some (qaQ e,()):=by
 unfold wR qaQ
 dsimp only [En'.t]
 rw [y3]
 by_cases h0:e.id=0
 ·rw [h0,D_t (by omega),if_pos rfl];rfl
 ·rw [if_neg h0]
  by_cases h1:e.id=1
  ·rw [h1,D_t (by omega),if_pos rfl];rfl
  ·rw [if_neg h1,D_f (by omega)];rfl
theorem qbC (e:En'):yR (e.t,())=some (qaQ e,()):=by
 unfold yR qaQ
 dsimp only [En'.t]
 by_cases h0:e.id=0
 ·rw [h0,if_pos rfl];rfl
 ·rw [if_neg h0]
  by_cases h1:e.id=1
  ·rw [h1,if_pos rfl];rfl
  ·rw [if_neg h1];simp (disch:=first | assumption | omega | (dsimp only;omega) | decide) only [go_sem,Int.reduceToNat]
def qII (key:BB):BB:=qtL key [98,97,115,101] []
theorem qpK (key:BB):(qII key).length=32:=qdB _ _ _
theorem qvO (key:BB) (h:key.length≤1000000):qhP (key,())=some (qII key,()):=by
 unfold qhP
 dsimp only
 rw [qhI _ _ _ h (by decide) (by decide) (by simp [none'])];rfl
theorem qbD (key:BB) (h:key.length≤1000000):kF (key,())=some (qII key,()):=by
 unfold kF
 dsimp only
 rw [qd0 _ _ _ h (by decide) (by decide) (by simp [none'])];rfl
def keyD (key:BB) (p:List Int) (gen:Int) (nonce:BB):BB :=
 if z1 (nth p 0 0)∧z1 (nth p 1 0)∧0≤gen∧gen≤2147483647 then qtL key [108,105,110,107] [bigN 8 (nth p 0 0),bigN 8 (nth p 1 0),bigN 4 gen,nonce] else []
theorem z3 (n:Int):jD (n,())=some (D (z1 n),()):=by
 unfold jD z1
 simp (disch:=first | assumption | omega | (dsimp only;omega) | decide) only [go_sem,Int.reduceToNat]
theorem bigI {n:Int} {w:Int} (hw:w=8∨w=4) (h:0≤n∧n < 256 ^ w.toNat) (hn:n≤9223372036854775807):y7 (n,w,())=some (bigN w.toNat n,0,()):=by
 rw [qo1 _ _ hn,if_pos ⟨by omega,by omega,h.1,h.2⟩];rfl
theorem qM5 {n:Int} {w:Int} (hw:w=8∨w=4) (h:0≤n∧n < 256 ^ w.toNat) (hn:n≤9223372036854775807):yA (n,w,())=some (bigN w.toNat n,0,()):=by
 rw [qcY _ _ hn,if_pos ⟨by omega,by omega,h.1,h.2⟩];rfl
theorem qCR {a b:BB} {c nonce:BB} (ha:a.length=8) (hb:b.length=8) (hc:c.length=4) (hn:nonce.length≤1000):∀ p∈[a,b,c,nonce],p.length≤1000:=by
 intro p hp
 simp only [List.mem_cons,List.not_mem_nil,or_false] at hp
 rcases hp with rfl | rfl | rfl | rfl <;> omega
theorem p8 {n:Int} (h:z1 n):0≤n∧n < 256 ^ (8:Int).toNat:=⟨h.1,by have:=h.2;show n < 256 ^ 8;omega⟩
theorem qzJ (key:BB) (p:List Int) (gen:Int) (nonce:BB) (hk:key.length≤1000000) (hn:nonce.length≤1000):ql9 (key,p,gen,nonce,())=some (keyD key p gen nonce,()):=by
 unfold ql9 keyD
 refine (qH rfl).trans ((qH rfl).trans ?_)
 dsimp only
 rw [show nat 0=0 from rfl,show nat 1=1 from rfl]
 generalize nth p 0 0=x
 generalize nth p 1 0=y
 rw [qn0]
 by_cases h:z1 x∧z1 y
 ·rw [D_t (show (0≤x∧x≤4611686018427387904)∧(0≤y∧y≤4611686018427387904) from h)]
  refine (qF rfl).trans ((qB rfl).trans ?_)
  rw [y3]
  by_cases hg:0≤gen∧gen≤2147483647
  ·rw [D_t hg,if_pos ⟨h.1,h.2,hg⟩]
   refine (qF rfl).trans ((qB rfl).trans ((qH rfl).trans ?_))
   rw [bigI (.inl rfl) (p8 h.1) (by have:=h.1.2;omega)]
   refine (qF rfl).trans ((qH rfl).trans ?_)
   rw [bigI (.inl rfl) (p8 h.2) (by have:=h.2.2;omega)]
   refine (qF rfl).trans ?_
   rw [bigI (.inr rfl) ⟨hg.1,by show gen < 256 ^ 4;omega⟩ (by omega)]
   refine (qF rfl).trans ?_
   dsimp only
   rw [show (8:Int).toNat=8 from rfl,show (4:Int).toNat=4 from rfl,qhI key [108,105,110,107] _ hk (by simp) (by simp) (qCR (qP _ _) (qP _ _) (qP _ _) hn)];rfl
  ·rw [D_f hg,if_neg (fun h=>hg h.2.2)];rfl
 ·rw [D_f (show ¬ ((0≤x∧x≤4611686018427387904)∧(0≤y∧y≤4611686018427387904)) from h),if_neg (fun h'=>h ⟨h'.1,h'.2.1⟩)];rfl
theorem qcV (key:BB) (p:List Int) (gen:Int) (nonce:BB) (hk:key.length≤1000000) (hn:nonce.length≤1000):wN (key,p,gen,nonce,())=some (keyD key p gen nonce,()):=by
 unfold wN keyD
 refine (qH rfl).trans ?_
 dsimp only
 rw [show nat 0=0 from rfl,show nat 1=1 from rfl]
 generalize nth p 0 0=x
 generalize nth p 1 0=y
 rw [z3]
 refine (qF rfl).trans ((qH rfl).trans ?_)
 rw [z3]
 refine (qF rfl).trans ?_
 by_cases h:z1 x∧z1 y∧0≤gen∧gen≤2147483647
 ·obtain ⟨h1,h2,h3,h4⟩:=h
  rw [if_pos ⟨h1,h2,h3,h4⟩]
  refine (qF (a:=(false,())) (by rw [D_t h1,D_t h2];simp (disch:=first | assumption | omega | (dsimp only;omega) | decide) only [go_sem,Int.reduceToNat];try exact v3 (by omega))).trans ?_
  refine (qB rfl).trans ((qH rfl).trans ?_)
  rw [qM5 (.inl rfl) (p8 h1) (by have:=h1.2;omega)]
  refine (qF rfl).trans ((qH rfl).trans ?_)
  rw [qM5 (.inl rfl) (p8 h2) (by have:=h2.2;omega)]
  refine (qF rfl).trans ?_
  rw [qM5 (.inr rfl) ⟨h3,by show gen < 256 ^ 4;omega⟩ (by omega)]
  refine (qF rfl).trans ?_
  dsimp only
  rw [show (8:Int).toNat=8 from rfl,show (4:Int).toNat=4 from rfl,qd0 key [108,105,110,107] _ hk (by simp) (by simp) (qCR (qP _ _) (qP _ _) (qP _ _) hn)];rfl
 ·rw [if_neg h]
  refine (qF (a:=(true,())) ?_).trans rfl
  by_cases h1:z1 x
  ·by_cases h2:z1 y
   ·rw [D_t h1,D_t h2]
    have h3:¬ (0≤gen∧gen≤2147483647):=fun h3=>h ⟨h1,h2,h3⟩
    simp (disch:=first | assumption | omega | (dsimp only;omega) | decide) only [go_sem,Int.reduceToNat];try exact wM (by omega)
   ·rw [D_t h1,D_f h2];rfl
  ·rw [D_f h1];rfl
theorem qs4 {key:BB} {p:List Int} {gen:Int} {nonce:BB} (h:z1 (nth p 0 0)∧z1 (nth p 1 0)∧0≤gen∧gen≤2147483647):(keyD key p gen nonce).length=32:=by
 unfold keyD;rw [if_pos h,qdB]
theorem qIq (l:List qOg):zR (l,())=some (l,()):=by
 unfold zR
 dsimp only
 rw [qI2]
 exact qH (qKL l)
end Yp
namespace Yp
open Go
set_option maxRecDepth 100000
set_option maxHeartbeats 2000000
theorem bq_f {a b:Int} (h:a=b):bnot (beq a b)=false:=by rw [qaD h];rfl
theorem bq_t {a b:Int} (h:¬ a=b):bnot (beq a b)=true:=by rw [wD h];rfl
theorem qiI {r:z4} (h:yK r):0≤r.1.1∧r.1.1≤2147483647∧r.1.2.1.length≤32:=by
 rcases h with rfl | ⟨⟨h1,h2,h3⟩,_⟩
 ·exact ⟨by decide,by decide,by decide⟩
 ·omega
def qkQ (s:Si) (v:TEnv) (key:BB):Si×Int :=
 if (vJ s.e.hub).2.2.1=0 then
  (⟨{ s.e with hub:=(vJ s.e.hub).1,out:=s.e.out++[((vJ s.e.hub).2.1,vK (qV v++vG key (qV v)),())] },ptag s.p key (qV v)⟩,0)
 else (s,(vJ s.e.hub).2.2.1)
theorem qjW {s:Si} {n:Nat} (hs:okS n s) (hn:n≤900000) (v:TEnv) (hv:qcG v) (key:BB) (hk:key.length≤1000000):qhO (s.t,v,key,())=some ((qkQ s v key).1.t,(qkQ s v key).2,()):=by
 unfold qhO qkQ
 dsimp only [Si.t,En'.t]
 have hp:=hs.p
 have ho:=hs.e.out
 rw [qzS _ hs.e.up hs.e.next]
 refine (qF rfl).trans ?_
 by_cases hh:(vJ s.e.hub).2.2.1=0
 ·rw [if_pos hh]
  refine (qB (by simp (disch:=first | assumption | omega | (dsimp only;omega) | decide) only [go_sem,Int.reduceToNat];exact not_not_intro hh)).trans ?_
  rw [qjZ _ hv]
  refine (qF rfl).trans ?_
  have hb:=hv.2.2.2.2.2.2
  have hl:=jR v
  dsimp only
  rw [qy6 _ _ _ (by omega) hk (by omega)]
  refine (qF rfl).trans ?_
  dsimp only
  have ht:=qaK key (qV v)
  rw [qvU (v.1,v.2.1,v.2.2.1,v.2.2.2.1,v.2.2.2.2.1,v.2.2.2.2.2.1,vG key (qV v),v.2.2.2.2.2.2.2) ⟨hv,ht⟩]
  refine (qF rfl).trans ?_
  dsimp only
  rw [show qV (v.1,v.2.1,v.2.2.1,v.2.2.2.1,v.2.2.2.2.1,v.2.2.2.2.2.1,vG key (qV v),v.2.2.2.2.2.2.2)=qV v from rfl,qtD _ (by rw [List.length_append];omega)]
  refine (qF rfl).trans ?_
  rw [qIq]
  refine (qF rfl).trans ?_
  refine (qH (by simp (disch:=first | assumption | omega | (dsimp only;omega) | decide) only [go_sem,Int.reduceToNat];simp;omega)).trans ?_
  rfl
 ·rw [if_neg hh]
  refine (qE (by simp (disch:=first | assumption | omega | (dsimp only;omega) | decide) only [go_sem,Int.reduceToNat];exact hh)).trans ?_
  rfl
theorem qgV {s:Si} {n:Nat} (hs:okS n s) (hn:n≤900000) (v:TEnv) (hv:qcG v) (key:BB) (hk:key.length≤1000000):qaX (s.t,v,key,())=some ((qkQ s v key).1.t,(qkQ s v key).2,()):=by
 unfold qaX qkQ
 dsimp only [Si.t,En'.t]
 have hp:=hs.p
 have ho:=hs.e.out
 rw [qr8 _ hs.e.up hs.e.next]
 refine (qF rfl).trans ?_
 by_cases hh:(vJ s.e.hub).2.2.1=0
 ·rw [if_pos hh]
  refine (qB (by simp (disch:=first | assumption | omega | (dsimp only;omega) | decide) only [go_sem,Int.reduceToNat];exact not_not_intro hh)).trans ?_
  rw [wY _ hv]
  refine (qF rfl).trans ?_
  have hb:=hv.2.2.2.2.2.2
  have hl:=jR v
  dsimp only
  rw [qvF _ _ _ (by omega) hk (by omega)]
  refine (qF rfl).trans ?_
  dsimp only
  have ht:=qaK key (qV v)
  rw [qp1 (v.1,v.2.1,v.2.2.1,v.2.2.2.1,v.2.2.2.2.1,v.2.2.2.2.2.1,vG key (qV v),v.2.2.2.2.2.2.2) ⟨hv,ht⟩]
  refine (qF rfl).trans ?_
  dsimp only
  rw [show qV (v.1,v.2.1,v.2.2.1,v.2.2.2.1,v.2.2.2.2.1,v.2.2.2.2.2.1,vG key (qV v),v.2.2.2.2.2.2.2)=qV v from rfl,qsA _ (by rw [List.length_append];omega)]
  refine (qF rfl).trans ?_
  refine (qH (by simp (disch:=first | assumption | omega | (dsimp only;omega) | decide) only [go_sem,Int.reduceToNat];omega)).trans ?_
  refine (qH (by simp (disch:=first | assumption | omega | (dsimp only;omega) | decide) only [go_sem,Int.reduceToNat];simp;omega)).trans ?_
  rfl
 ·rw [if_neg hh]
  refine (qE (by simp (disch:=first | assumption | omega | (dsimp only;omega) | decide) only [go_sem,Int.reduceToNat];exact hh)).trans ?_
  rfl
def jH (e:En') (body:BB):TEnv:=(2,e.id,qaQ e,e.ring.1.1,e.seq,body,[],())
def setV (e:En') (other:Int) (body:BB):TEnv:=(1,e.id,qaQ { e with oth:=other },0,0,body,[],())
def qc8 (b:BB):Prop:=1≤b.length∧b.length≤900
instance (b:BB):Decidable (qc8 b):=by unfold qc8;infer_instance
theorem qy9 {e:En'} (h1:z1 e.own) (h2:z1 e.oth):z1 (nth (qaQ e) 0 0)∧z1 (nth (qaQ e) 1 0):=by
 unfold qaQ
 split
 ·exact ⟨h1,h2⟩
 split
 ·exact ⟨h2,h1⟩
 ·exact ⟨by decide,by decide⟩
theorem qj9 {n:Nat} {e:En'} (h:okE n e) {body:BB} (hb:qc8 body):qcG (jH e body):=by
 have hr:=qiI h.ring
 exact ⟨.inr rfl,(qy9 h.own h.oth).1,(qy9 h.own h.oth).2,h.seq,h.id,⟨hr.1,hr.2.1⟩,hb.1,hb.2⟩
theorem qwK {n:Nat} {e:En'} (h:okE n e) {o:Int} (ho:z1 o) {body:BB} (hb:qc8 body):qcG (setV e o body):=by
 have:=qy9 (e:={ e with oth:=o }) h.own ho
 exact ⟨.inl rfl,this.1,this.2,by show z1 0;decide,h.id,⟨by show (0:Int)≤0;decide,by show (0:Int)≤2147483647;decide⟩,hb.1,hb.2⟩
def qeN (s:Si) (body:BB):Si×Int :=
 if ¬ qc8 body then (s,1) else if ¬ zL s.e.ph then (s,7) else if s.e.seq=4611686018427387904 then (s,10)
 else let r:=qkQ s (jH s.e body) s.e.ring.1.2.1;if r.2=0 then (⟨{ r.1.e with seq:=r.1.e.seq+1 },r.1.p⟩,0) else r
theorem qtJ (s:Si) (v:TEnv) (key:BB):(qkQ s v key).1.e.seq=s.e.seq:=by unfold qkQ;split <;> rfl
theorem qc3 (b:BB):qhN (b,())=some (D (qc8 b),()):=by
 unfold qhN qc8
 simp (disch:=first | assumption | omega | (dsimp only;omega) | decide) only [go_sem,Int.reduceToNat]
 exact zH (by omega)
theorem qA8 {s:Si} {r:Si×Int} (hseq:z1 r.1.e.seq) (h10:¬ r.1.e.seq=4611686018427387904) :
    (ob (some (r.1.t,r.2,())) fun (a:qaE×Int×Unit) =>
   sel (beq a.2.1 0) (some (((a.1.1.1,a.1.1.2.1,a.1.1.2.2.1,a.1.1.2.2.2.1,a.1.1.2.2.2.2.1,a.1.1.2.2.2.2.2.1,a.1.1.2.2.2.2.2.2.1,a.1.1.2.2.2.2.2.2.2.1,i64 (iadd a.1.1.2.2.2.2.2.2.2.2.1 1),a.1.1.2.2.2.2.2.2.2.2.2),a.1.2),a.2.1,())) (some (a.1,a.2.1,()))) =
      some ((if r.2=0 then (⟨{ r.1.e with seq:=r.1.e.seq+1 },r.1.p⟩,0) else r:Si×Int).1.t,(if r.2=0 then (⟨{ r.1.e with seq:=r.1.e.seq+1 },r.1.p⟩,0) else r:Si×Int).2,()):=by
  obtain ⟨⟨e,p⟩,c⟩:=r
  refine (qF rfl).trans ?_
  by_cases h:c=0
  · subst h
    rw [if_pos rfl]
    refine (qE rfl).trans ?_
    dsimp only [Si.t,En'.t] at hseq ⊢
    obtain ⟨q1,q2⟩:=hseq
    rw [show i64 (iadd e.seq 1)=e.seq+1 from zO (by show -9223372036854775808≤e.seq+1;omega) (by show e.seq+1≤9223372036854775807;omega)]
  · rw [if_neg h]
    refine (qB (by simp (disch:=first | assumption | omega | (dsimp only;omega) | decide) only [go_sem,Int.reduceToNat];exact h)).trans ?_
    rfl
theorem qjX {s:Si} {n:Nat} (hs:okS n s) (hn:n≤900000) (b:BB):x8 (s.t,b,())=some ((qeN s b).1.t,(qeN s b).2,()):=by
 unfold x8 qeN
 dsimp only
 rw [qc3]
 refine (qF rfl).trans ?_
 by_cases hb:qc8 b
 ·rw [D_t hb,if_neg (not_not_intro hb)]
  refine (qB rfl).trans ?_
  rw [show s.t.1.2.2.1=s.e.ph from rfl,qnT]
  refine (qF rfl).trans ?_
  by_cases hl:zL s.e.ph
  ·rw [D_t hl,if_neg (not_not_intro hl)]
   refine (qB rfl).trans ?_
   by_cases hq:s.e.seq=4611686018427387904
   ·rw [if_pos hq]
    exact qE (by simp (disch:=first | assumption | omega | (dsimp only;omega) | decide) only [go_sem,Int.reduceToNat];exact hq)
   ·rw [if_neg hq]
    refine (qB (by simp (disch:=first | assumption | omega | (dsimp only;omega) | decide) only [go_sem,Int.reduceToNat];exact hq)).trans ?_
    rw [show wR (s.t.1,())=_ from qc4 s.e]
    refine (qF rfl).trans ?_
    have hv:=qj9 hs.e hb
    have hk:=(qiI hs.e.ring).2.2
    have hem:=qjW hs hn _ hv s.e.ring.1.2.1 (by omega)
    have h1:=qtJ s (jH s.e b) s.e.ring.1.2.1
    exact Eq.trans (qfH hem) (qA8 (s:=s) (r:=qkQ s (jH s.e b) s.e.ring.1.2.1) (by rw [h1];exact hs.e.seq) (by rw [h1];exact hq))
  ·rw [D_f hl,if_pos hl];rfl
 ·rw [D_f hb,if_pos hb];rfl
theorem qrZ {s:Si} {n:Nat} (hs:okS n s) (hn:n≤900000) (b:BB):qiM (s.t,b,())=some ((qeN s b).1.t,(qeN s b).2,()):=by
 unfold qiM qeN
 dsimp only
 by_cases hb:qc8 b
 ·rw [if_neg (not_not_intro hb)]
  have hb1:=hb.1
  have hb2:=hb.2
  refine (qF (a:=(false,())) (by simp (disch:=first | assumption | omega | (dsimp only;omega) | decide) only [go_sem,Int.reduceToNat];try exact v3 (by omega))).trans ?_
  refine (qB rfl).trans ?_
  rw [show s.t.1.2.2.1=s.e.ph from rfl,yS]
  refine (qF rfl).trans ?_
  by_cases hl:zL s.e.ph
  ·rw [D_t hl,if_neg (not_not_intro hl)]
   refine (qB rfl).trans ?_
   by_cases hq:s.e.seq=4611686018427387904
   ·rw [if_pos hq]
    exact qE (by simp (disch:=first | assumption | omega | (dsimp only;omega) | decide) only [go_sem,Int.reduceToNat];exact hq)
   ·rw [if_neg hq]
    refine (qB (by simp (disch:=first | assumption | omega | (dsimp only;omega) | decide) only [go_sem,Int.reduceToNat];exact hq)).trans ?_
    rw [show yR (s.t.1,())=_ from qbC s.e]
    refine (qF rfl).trans ?_
    have hv:=qj9 hs.e hb
    have hk:=(qiI hs.e.ring).2.2
    have hem:=qgV hs hn _ hv s.e.ring.1.2.1 (by omega)
    have h1:=qtJ s (jH s.e b) s.e.ring.1.2.1
    exact Eq.trans (qfH hem) (qA8 (s:=s) (r:=qkQ s (jH s.e b) s.e.ring.1.2.1) (by rw [h1];exact hs.e.seq) (by rw [h1];exact hq))
  ·rw [D_f hl,if_pos hl];rfl
 ·rw [if_pos hb]
  unfold qc8 at hb
  refine (qF (a:=(true,())) (by simp (disch:=first | assumption | omega | (dsimp only;omega) | decide) only [go_sem,Int.reduceToNat];try exact wM (by omega))).trans ?_
  rfl
def qk2 (s:Si) (other:Int) (body:BB):Si×Int:=if z1 other∧qc8 body then qkQ s (setV s.e other body) (qII s.e.key) else (s,1)
theorem qs1 {s:Si} {n:Nat} (hs:okS n s) (hn:n≤900000) (o:Int) (b:BB):qjA (s.t,o,b,())=some ((qk2 s o b).1.t,(qk2 s o b).2,()):=by
 unfold qjA qk2
 dsimp only
 rw [y3]
 refine (qF rfl).trans ?_
 by_cases hb:z1 o∧qc8 b
 ·rw [if_pos hb,D_t (show 0≤o∧o≤4611686018427387904 from hb.1)]
  refine (qF (a:=(false,())) ((qB rfl).trans (by rw [qc3,D_t hb.2];rfl))).trans ?_
  refine (qB rfl).trans ?_
  have hp:=qc4 { s.e with oth:=o }
  refine (qfH (show wR ((s.t.1.1,s.t.1.2.1,s.t.1.2.2.1,s.t.1.2.2.2.1,s.t.1.2.2.2.2.1,s.t.1.2.2.2.2.2.1,o,s.t.1.2.2.2.2.2.2.2),())=_ from hp)).trans ?_
  refine (qF rfl).trans ?_
  have hk:=hs.e.key
  rw [show qhP (s.t.1.2.1,())=_ from qvO s.e.key (by omega)]
  refine (qF rfl).trans ?_
  have hem:=qjW hs hn _ (qwK hs.e hb.1 hb.2) (qII s.e.key) (by rw [qpK];omega)
  exact (qfH hem).trans rfl
 ·rw [if_neg hb]
  refine (qF (a:=(true,())) ?_).trans rfl
  by_cases h1:z1 o
  ·rw [D_t (show 0≤o∧o≤4611686018427387904 from h1)]
   refine (qB rfl).trans ?_
   rw [qc3,D_f (fun h=>hb ⟨h1,h⟩)];rfl
  ·rw [D_f (show ¬ (0≤o∧o≤4611686018427387904) from h1)];rfl
theorem qpW {s:Si} {n:Nat} (hs:okS n s) (hn:n≤900000) (o:Int) (b:BB):qeU (s.t,o,b,())=some ((qk2 s o b).1.t,(qk2 s o b).2,()):=by
 unfold qeU qk2
 dsimp only
 rw [z3]
 refine (qF rfl).trans ?_
 have hk:=hs.e.key
 by_cases hb:z1 o∧qc8 b
 ·rw [if_pos hb,D_t hb.1]
  have hb1:=hb.2.1
  have hb2:=hb.2.2
  refine (qF (a:=(false,())) (by simp (disch:=first | assumption | omega | (dsimp only;omega) | decide) only [go_sem,Int.reduceToNat];try exact v3 (by omega))).trans ?_
  refine (qB rfl).trans ?_
  have hem:=qgV hs hn _ (qwK hs.e hb.1 hb.2) (qII s.e.key) (by rw [qpK];omega)
  rcases hs.e.id with hi | hi
  ·refine (qB (by show beq s.e.id 1=false;rw [hi];rfl)).trans ?_
   rw [show kF (s.t.1.2.1,())=_ from qbD s.e.key (by omega)]
   refine (qF rfl).trans ?_
   have e:setV s.e o b=(1,s.e.id,[s.e.own,o],0,0,b,[],()):=by unfold setV qaQ;dsimp only;rw [if_pos hi]
   rw [e] at hem ⊢
   exact (qfH hem).trans rfl
  ·refine (qE (by show beq s.e.id 1=true;rw [hi];rfl)).trans ?_
   rw [show kF (s.t.1.2.1,())=_ from qbD s.e.key (by omega)]
   refine (qF rfl).trans ?_
   have e:setV s.e o b=(1,s.e.id,[o,s.e.own],0,0,b,[],()):=by unfold setV qaQ;dsimp only;rw [if_neg (by omega),if_pos hi]
   rw [e] at hem ⊢
   exact (qfH hem).trans rfl
 ·rw [if_neg hb]
  refine (qF (a:=(true,())) ?_).trans rfl
  by_cases h1:z1 o
  ·rw [D_t h1]
   have h2:¬ (1≤b.length∧b.length≤900):=fun h=>hb ⟨h1,h⟩
   simp (disch:=first | assumption | omega | (dsimp only;omega) | decide) only [go_sem,Int.reduceToNat];try exact wM (by omega)
  ·rw [D_f h1];rfl
def qN0 (c:List Int) (i:Nat):List Int:=upd c i (i64 (iadd (nth c i 0) 1))
def qtO (s:Si) (i:Nat):Si:=⟨{ s.e with cnt:=qN0 s.e.cnt i },s.p⟩
theorem qCO (s:Si):kK (s.t,13,())=some ((qtO s 3).t,()):=by
 unfold kK
 exact (qZ (qhJ 5 rfl)).trans rfl
end Yp
namespace Yp
open Go
set_option maxRecDepth 100000
set_option maxHeartbeats 2000000
theorem qzD {n m:Nat} {e:En'} (h:okE n e) (hm:n≤m):okE m e:={ h with out:=Nat.le_trans h.out hm,got:=Nat.le_trans h.got hm }
theorem wH {n m:Nat} {s:Si} (h:okS n s) (hm:n≤m):okS m s:=⟨qzD h.e hm,Nat.le_trans h.p hm⟩
theorem qG7 (h:THub):(vJ h).1.1=h.1:=by unfold vJ;split <;> rfl
theorem qIb (h:THub):(vJ h).1.2.1=h.2.1:=by unfold vJ;split <;> rfl
theorem qIa (h:THub):(vJ h).1.2.2.1=h.2.2.1:=by unfold vJ;split <;> rfl
theorem qwN {h:THub} (hn:0≤h.2.2.2.1∧h.2.2.2.1 < 4):0≤(vJ h).1.2.2.2.1∧(vJ h).1.2.2.2.1 < 4:=by
 unfold vJ
 split
 ·exact hn
 ·rename_i c _
  show (0:Int)≤((c+1) % 4:Nat)∧(((c+1) % 4:Nat):Int) < 4
  omega
theorem qHd {n:Nat} {s:Si} (h:okS n s) (v:TEnv) (key:BB):okS (n+1) (qkQ s v key).1:=by
 unfold qkQ
 split
 ·refine ⟨{ h.e with up:=(by rw [← h.e.up];exact congrArg List.length (qG7 s.e.hub)),next:=qwN h.e.next,feed:=(by rw [← h.e.feed];exact congrArg List.length (qIb s.e.hub)),life:=(by rw [← h.e.life];exact congrArg List.length (qIa s.e.hub)),out := ?_,got:=Nat.le_succ_of_le h.e.got }, ?_⟩
  ·have:=h.e.out
   simp only [List.length_append,List.length_cons,List.length_nil];omega
  ·have:=qOP s.p key (qV v)
   have:=h.p
   show (ptag s.p key (qV v)).2.1.length≤n+1
   omega
 ·exact wH h (by omega)
theorem qqP {n:Nat} {s:Si} (h:okS n s) (b:BB):okS (n+1) (qeN s b).1:=by
 unfold qeN
 split
 ·exact wH h (by omega)
 split
 ·exact wH h (by omega)
 split
 ·exact wH h (by omega)
 ·rename_i h1 h2 h3
  have h4:=qHd h (jH s.e b) s.e.ring.1.2.1
  have h5:=qtJ s (jH s.e b) s.e.ring.1.2.1
  dsimp only
  split
  ·refine ⟨{ h4.e with seq := ?_ },h4.p⟩
   have:=h.e.seq
   show z1 (_+1)
   rw [h5]
   unfold z1 at *
   omega
  ·exact h4
theorem qJP {n:Nat} {s:Si} (h:okS n s) (o:Int) (b:BB):okS (n+1) (qk2 s o b).1:=by
 unfold qk2
 split
 ·exact qHd h _ _
 ·exact wH h (by omega)
theorem qCA {n:Nat} {s:Si} (h:okS n s) (i:Nat):okS n (qtO s i):=⟨{ h.e with cnt:=by show (qN0 s.e.cnt i).length=4;unfold qN0 upd;rw [List.length_set];exact h.e.cnt },h.p⟩
def quJ (s:Si) (q:xA):Si:=⟨{ s.e with stan:=kQ s.e.stan,ask:=(qj2 q.2.1 (kQ s.e.stan) (wrN (q.1,q.2.1,kQ s.e.stan,q.2.2.2)).1).1 },s.p⟩
def qjT (s:Si) (q:xA):Si :=
 if (wrN (q.1,q.2.1,kQ s.e.stan,q.2.2.2)).2.1=0∧(qj2 q.2.1 (kQ s.e.stan) (wrN (q.1,q.2.1,kQ s.e.stan,q.2.2.2)).1).2.1=0 then
  (if q.2.1=1 then (qk2 (quJ s q) 0 (wrN (q.1,q.2.1,kQ s.e.stan,q.2.2.2)).1).1 else (qeN (quJ s q) (wrN (q.1,q.2.1,kQ s.e.stan,q.2.2.2)).1).1)
 else s
theorem qi8 {n:Nat} {s:Si} (h:okS n s) (q:xA):okS n (quJ s q):=⟨{ h.e with },h.p⟩
theorem qCz {n:Nat} {s:Si} (h:okS n s) (q:xA):okS (n+1) (qjT s q):=by
 unfold qjT
 split
 ·split
  ·exact qJP (qi8 h q) _ _
  ·exact qqP (qi8 h q) _
 ·exact wH h (by omega)
theorem qb9 {s:Si} {n:Nat} (hs:okS n s) (hn:n≤900000) (q:xA):kT (s.t,q,())=some ((qjT s q).t,()):=by
 unfold kT qjT
 dsimp only
 rw [show s.t.1.2.2.2.2.2.2.2.2.2.2.2.2.1=s.e.stan from rfl,qAL]
 refine (qF rfl).trans ?_
 dsimp only
 rw [qhB]
 have hok:=qi8 hs q
 have hset:=qs1 hok hn 0 (wrN (q.1,q.2.1,kQ s.e.stan,q.2.2.2)).1
 have hsend:=qjX hok hn (wrN (q.1,q.2.1,kQ s.e.stan,q.2.2.2)).1
 unfold quJ at hset hsend ⊢
 generalize wrN (q.1,q.2.1,kQ s.e.stan,q.2.2.2)=w at hset hsend ⊢
 obtain ⟨b,we,⟨⟩⟩:=w
 refine (qF rfl).trans ?_
 dsimp only at hset hsend ⊢
 rw [qwB]
 generalize qj2 q.2.1 (kQ s.e.stan) b=a at hset hsend ⊢
 obtain ⟨a,ae,⟨⟩⟩:=a
 refine (qF rfl).trans ?_
 dsimp only at hset hsend ⊢
 by_cases h:we=0∧ae=0
 ·obtain ⟨rfl,rfl⟩:=h
  rw [if_pos ⟨rfl,rfl⟩]
  refine (qF (a:=(false,())) rfl).trans ((qB rfl).trans ?_)
  by_cases hc:q.2.1=1
  ·rw [if_pos hc]
   refine (qE (by simp (disch:=first | assumption | omega | (dsimp only;omega) | decide) only [go_sem,Int.reduceToNat];exact hc)).trans ?_
   exact (qfH hset).trans rfl
  ·rw [if_neg hc]
   refine (qB (by simp (disch:=first | assumption | omega | (dsimp only;omega) | decide) only [go_sem,Int.reduceToNat];exact hc)).trans ?_
   exact (qfH hsend).trans rfl
 ·rw [if_neg h]
  refine (qF (a:=(true,())) ?_).trans rfl
  by_cases h1:we=0
  ·have h2:¬ ae=0:=fun h2=>h ⟨h1,h2⟩
   exact (qB (by rw [h1];rfl)).trans (by rw [show beq ae 0=false from wD h2];rfl)
  ·exact qE (by rw [show beq we 0=false from wD h1];rfl)
theorem qkE {s:Si} {n:Nat} (hs:okS n s) (hn:n≤900000) (q:xA):wF (s.t,q,())=some ((qjT s q).t,()):=by
 unfold wF qjT
 dsimp only
 rw [show s.t.1.2.2.2.2.2.2.2.2.2.2.2.2.1=s.e.stan from rfl,qr1]
 refine (qF rfl).trans ?_
 dsimp only
 rw [qf5]
 have hok:=qi8 hs q
 have hset:=qpW hok hn 0 (wrN (q.1,q.2.1,kQ s.e.stan,q.2.2.2)).1
 have hsend:=qrZ hok hn (wrN (q.1,q.2.1,kQ s.e.stan,q.2.2.2)).1
 unfold quJ at hset hsend ⊢
 generalize wrN (q.1,q.2.1,kQ s.e.stan,q.2.2.2)=w at hset hsend ⊢
 obtain ⟨b,we,⟨⟩⟩:=w
 refine (qF rfl).trans ?_
 dsimp only at hset hsend ⊢
 by_cases h1:we=0
 ·refine (qB (bq_f h1)).trans ?_
  rw [qpZ]
  generalize qj2 q.2.1 (kQ s.e.stan) b=a at hset hsend ⊢
  obtain ⟨a,ae,⟨⟩⟩:=a
  refine (qF rfl).trans ?_
  dsimp only at hset hsend ⊢
  by_cases h2:ae=0
  ·rw [if_pos ⟨h1,h2⟩]
   refine (qB (bq_f h2)).trans ?_
   by_cases hc:q.2.1=1
   ·rw [if_pos hc]
    refine (qE (by simp (disch:=first | assumption | omega | (dsimp only;omega) | decide) only [go_sem,Int.reduceToNat];exact hc)).trans ?_
    exact (qfH hset).trans rfl
   ·rw [if_neg hc]
    refine (qB (by simp (disch:=first | assumption | omega | (dsimp only;omega) | decide) only [go_sem,Int.reduceToNat];exact hc)).trans ?_
    exact (qfH hsend).trans rfl
  ·rw [if_neg (fun h=>h2 h.2)]
   exact qE (bq_t h2)
 ·rw [if_neg (fun h=>h1 h.1)]
  exact qE (bq_t h1)
def qK0 (c:Int):xA:=(true,c,0,0,0,[],[],0,())
def derD (e:En') (gen:Int) (nonce:BB):BB:=keyD e.key (qaQ e) gen nonce
theorem qmM (e:En') (gen:Int) (nonce:BB) (hk:e.key.length≤1000000) (hn:nonce.length≤1000):jV ((e.t,()),gen,nonce,())=some (derD e gen nonce,()):=by
 unfold jV
 dsimp only
 rw [qc4]
 refine (qF rfl).trans ?_
 rw [show ql9 (e.t.2.1,(qaQ e,()).1,gen,nonce,())=_ from qzJ e.key (qaQ e) gen nonce hk hn];rfl
theorem qlO (e:En') (gen:Int) (nonce:BB) (hk:e.key.length≤1000000) (hn:nonce.length≤1000):kW (e.t,gen,nonce,())=some (derD e gen nonce,()):=by
 unfold kW
 dsimp only
 rw [qbC]
 refine (qF rfl).trans ?_
 rw [show wN (e.t.2.1,(qaQ e,()).1,gen,nonce,())=_ from qcV e.key (qaQ e) gen nonce hk hn];rfl
theorem qkC {r:z4} (h:yK r):yK (qHN r):=by
 rcases h with rfl | ⟨h1,h2,h3,h4,h5,h6⟩
 ·exact .inl rfl
 ·refine .inr ⟨h1,h2,h3, ?_,h5, .inl rfl⟩
  have:=h1.1
  show (0:Int)≤r.2.2.2.2.1
  omega
theorem qJS {r:z4} {no:Int} {key:BB} (h:(zN r no key).2.1=0):yI (no,key,())∧¬ r=noR∧r.1.1 < no∧r.2.2.1.1≤no∧(zN r no key).1=(r.1,r.2.1,(no,key,()),r.2.2.2.1,max r.2.2.2.2.1 no,()):=by
 unfold zN at h ⊢
 by_cases h1:yI (no,key,())
 ·rw [if_neg (not_not_intro h1)] at h ⊢
  by_cases h2:r=noR∨no≤r.1.1∨no < r.2.2.1.1
  ·rw [if_pos h2] at h;cases h
  ·rw [if_neg h2]
   simp only [not_or] at h2
   exact ⟨h1,h2.1,by omega,by omega,rfl⟩
 ·rw [if_pos h1] at h;cases h
theorem qId {r:z4} {no:Int} {key:BB} (h:¬ (zN r no key).2.1=0):(zN r no key).1=r:=by
 unfold zN at h ⊢
 split
 ·rfl
 split
 ·rfl
 ·rename_i h1 h2
  rw [if_neg h1,if_neg h2] at h;exact absurd rfl h
theorem kC {r:z4} (h:yK r) (no:Int) (key:BB):yK (zN r no key).1:=by
 by_cases h0:(zN r no key).2.1=0
 ·obtain ⟨g,hn,hc,hp,e⟩:=qJS h0
  rw [e]
  rcases h with h | ⟨h1,h2,h3,h4,h5,h6⟩
  ·exact absurd h hn
  ·refine .inr ⟨h1, ?_, ?_, ?_,h5, .inr ⟨g,hc⟩⟩
   ·have:=g.2.1
    show max r.2.2.2.2.1 no≤2147483647
    dsimp only at this
    omega
   ·show r.1.1≤max r.2.2.2.2.1 no
    omega
   ·show no≤max r.2.2.2.2.1 no
    omega
 ·rw [qId h0];exact h
theorem qrV {r:z4} (h:yK r):yK (qnD r).1:=by
 unfold qnD
 by_cases hp:r.2.2.1=noG
 ·rw [if_pos hp];exact h
 ·rw [if_neg hp]
  rcases h with rfl | ⟨h1,h2,h3,h4,h5,h6⟩
  ·exact absurd rfl hp
  ·have h7:=h6.resolve_left hp
   refine .inr ⟨h7.1,h2,h4, ?_, .inr ⟨?_,h1,h7.2,by show (1:Int)≤16;decide,by show (16:Int)≤16;decide⟩, .inl rfl⟩
   ·have:=h1.1
    show (0:Int)≤r.2.2.2.2.1
    omega
   ·intro e
    have:=h1.1
    have e:r.1=noG:=e
    rw [e] at this
    exact absurd this (by decide)
theorem qFj {r:z4} (h:yK r):r.2.2.1=noG∨¬ r.2.2.1.1=0:=by
 rcases h with rfl | ⟨h1,h2,h3,h4,h5,h6⟩
 ·exact .inl rfl
 ·rcases h6 with h6 | h6
  ·exact .inl h6
  ·exact .inr (by have:=h6.1.1;omega)
theorem qwM {r:z4} (h:yK r):0≤r.2.2.2.2.1∧r.2.2.2.2.1≤2147483647:=by
 rcases h with rfl | ⟨h1,h2,h3,h4,h5,h6⟩
 ·exact ⟨by decide,by decide⟩
 ·have:=h1.1;omega
def keyQ (gen:Int) (nonce k:BB):xA:=(true,101,0,0,gen,nonce,kcvD k,0,())
def newK (s:Si) (nonce:BB):Si×Int :=
 if ¬ nonce.length=8 then (s,1) else if ¬ qn5 s.e.ph then (s,7) else if ¬ s.e.ph=3∨¬ s.e.ask.1=0∨0 < s.e.ring.2.2.1.1 then (s,9)
 else if ¬ (qhD s.e.ring).2.1=0 then (s,(qhD s.e.ring).2.1)
 else (qjT ⟨{ s.e with ph:=4,ring:=(zN s.e.ring (qhD s.e.ring).1 (derD s.e (qhD s.e.ring).1 nonce)).1 },s.p⟩ (keyQ (qhD s.e.ring).1 nonce (derD s.e (qhD s.e.ring).1 nonce)),0)
theorem ql1 {n:Nat} {s:Si} (h:okS n s) (g:Int) (k:BB):okS n ⟨{ s.e with ph:=4,ring:=(zN s.e.ring g k).1 },s.p⟩:=⟨{ h.e with ph:=⟨by show (0:Int)≤4;decide,by show (4:Int)≤8;decide⟩,ring:=kC h.e.ring g k },h.p⟩
theorem qJH:qd5 (3,6,())=some (4,true,()):=rfl
theorem qFS (e:En') (g:Int) (nonce:BB):(derD e g nonce).length≤32:=by
 unfold derD keyD;split
 ·rw [qdB];omega
 ·simp
theorem qcU {s:Si} {n:Nat} (hs:okS n s) (hn:n≤900000) (nonce:BB):qdP (s.t,nonce,())=some ((newK s nonce).1.t,(newK s nonce).2,()):=by
 unfold qdP newK
 dsimp only
 by_cases h1:nonce.length=8
 ·rw [if_neg (not_not_intro h1)]
  refine (qB (by simp (disch:=first | assumption | omega | (dsimp only;omega) | decide) only [go_sem,Int.reduceToNat];omega)).trans ?_
  rw [show s.t.1.2.2.1=s.e.ph from rfl,qsL]
  refine (qF rfl).trans ?_
  by_cases h2:qn5 s.e.ph
  ·rw [D_t h2,if_neg (not_not_intro h2)]
   refine (qB rfl).trans ?_
   rw [show s.t.1.2.2.2.2.2.2.2.2.2.2.2.1.1=s.e.ask.1 from rfl,show s.t.1.2.2.2.2.2.2.2.2.2.2.1=s.e.ring from rfl]
   by_cases h3:¬ s.e.ph=3∨¬ s.e.ask.1=0∨0 < s.e.ring.2.2.1.1
   ·rw [if_pos h3]
    refine (qF (a:=(true,())) ?_).trans rfl
    simp (disch:=first | assumption | omega | (dsimp only;omega) | decide) only [go_sem,Int.reduceToNat]
    exact wM (or_assoc.2 h3)
   ·rw [if_neg h3]
    simp only [not_or,Classical.not_not] at h3
    obtain ⟨a1,a2,a3⟩:=h3
    refine (qF (a:=(false,())) (by simp (disch:=first | assumption | omega | (dsimp only;omega) | decide) only [go_sem,Int.reduceToNat,a1,a2];exact v3 a3)).trans ((qB rfl).trans ?_)
    have ht:=qwM hs.e.ring
    rw [qu6 _ ht.2 ht.1]
    refine (qF rfl).trans ?_
    by_cases h4:(qhD s.e.ring).2.1=0
    ·rw [if_neg (not_not_intro h4)]
     refine (qB (by simp (disch:=first | assumption | omega | (dsimp only;omega) | decide) only [go_sem,Int.reduceToNat];exact not_not_intro h4)).trans ?_
     generalize (qhD s.e.ring).1=g
     refine (qF (o:=xH _) rfl).trans ?_
     dsimp only
     have hk:=hs.e.key
     rw [show jV ((s.t.1,()),g,nonce,())=_ from qmM s.e g nonce (by omega) (by omega)]
     refine (qF rfl).trans ?_
     dsimp only
     rw [qa9]
     refine (qF rfl).trans ?_
     rw [a1,qJH]
     refine (qF rfl).trans ?_
     rw [qoY _ (by have:=qFS s.e g nonce;omega)]
     refine (qF rfl).trans ?_
     exact (qfH (qb9 (ql1 hs g (derD s.e g nonce)) hn (keyQ g nonce (derD s.e g nonce)))).trans rfl
    ·rw [if_pos h4]
     exact qE (by simp (disch:=first | assumption | omega | (dsimp only;omega) | decide) only [go_sem,Int.reduceToNat];exact h4)
  ·rw [D_f h2,if_pos h2];rfl
 ·rw [if_pos h1]
  exact qE (by simp (disch:=first | assumption | omega | (dsimp only;omega) | decide) only [go_sem,Int.reduceToNat];omega)
theorem qu7 {s:Si} {n:Nat} (hs:okS n s) (hn:n≤900000) (nonce:BB):qlN (s.t,nonce,())=some ((newK s nonce).1.t,(newK s nonce).2,()):=by
 unfold qlN newK
 dsimp only
 by_cases h1:nonce.length=8
 ·rw [if_neg (not_not_intro h1)]
  refine (qB (by simp (disch:=first | assumption | omega | (dsimp only;omega) | decide) only [go_sem,Int.reduceToNat];omega)).trans ?_
  rw [show s.t.1.2.2.1=s.e.ph from rfl,qbG]
  refine (qF rfl).trans ?_
  by_cases h2:qn5 s.e.ph
  ·rw [D_t h2,if_neg (not_not_intro h2)]
   refine (qB rfl).trans ?_
   rw [show s.t.1.2.2.2.2.2.2.2.2.2.2.2.1.1=s.e.ask.1 from rfl,show s.t.1.2.2.2.2.2.2.2.2.2.2.1=s.e.ring from rfl]
   by_cases h3:¬ s.e.ph=3∨¬ s.e.ask.1=0∨0 < s.e.ring.2.2.1.1
   ·rw [if_pos h3]
    refine (qF (a:=(true,())) ?_).trans rfl
    simp (disch:=first | assumption | omega | (dsimp only;omega) | decide) only [go_sem,Int.reduceToNat]
    exact wM (or_assoc.2 h3)
   ·rw [if_neg h3]
    simp only [not_or,Classical.not_not] at h3
    obtain ⟨a1,a2,a3⟩:=h3
    refine (qF (a:=(false,())) (by simp (disch:=first | assumption | omega | (dsimp only;omega) | decide) only [go_sem,Int.reduceToNat,a1,a2];exact v3 a3)).trans ((qB rfl).trans ?_)
    have ht:=qwM hs.e.ring
    rw [qr7 _ ht.1]
    refine (qF rfl).trans ?_
    by_cases h4:(qhD s.e.ring).2.1=0
    ·rw [if_neg (not_not_intro h4)]
     refine (qB (by simp (disch:=first | assumption | omega | (dsimp only;omega) | decide) only [go_sem,Int.reduceToNat];exact not_not_intro h4)).trans ?_
     generalize (qhD s.e.ring).1=g
     have hk:=hs.e.key
     rw [show kW (s.t.1,g,nonce,())=_ from qlO s.e g nonce (by omega) (by omega)]
     refine (qF rfl).trans ?_
     dsimp only
     rw [qgA]
     refine (qF rfl).trans ?_
     rw [qvH _ (by have:=qFS s.e g nonce;omega)]
     refine (qF rfl).trans ?_
     exact (qfH (qkE (ql1 hs g (derD s.e g nonce)) hn (keyQ g nonce (derD s.e g nonce)))).trans rfl
    ·rw [if_pos h4]
     exact qE (by simp (disch:=first | assumption | omega | (dsimp only;omega) | decide) only [go_sem,Int.reduceToNat];exact h4)
  ·rw [D_f h2,if_pos h2];rfl
 ·rw [if_pos h1]
  exact qE (by simp (disch:=first | assumption | omega | (dsimp only;omega) | decide) only [go_sem,Int.reduceToNat];omega)
def qOX (e:En'):En':={ e with ph:=3,ask:=noA }
theorem qJG:qd5 (4,8,())=some (3,true,()):=rfl
def qtC (s:Si):Si:=if s.e.ph=4 then ⟨{ s.e with ph:=3,ask:=noA,ring:=qHN s.e.ring },s.p⟩ else s
theorem qbA {s:Si} (h:s.e.ph=4):yP (s.t,())=some ((⟨qOX s.e,s.p⟩:Si).t,()):=by
 unfold yP
 rw [show (s.t,()).1.1.2.2.1=4 from h,qJG];rfl
theorem wX (s:Si):yQ (s.t,())=some ((qtC s).t,()):=by
 unfold yQ qtC
 refine (qF (o:=xH _) rfl).trans ((qF (o:=zC _) rfl).trans ?_)
 by_cases h:s.e.ph=4
 ·rw [if_pos h]
  refine (qB (by show bnot (beq s.e.ph 4)=false;rw [h];rfl)).trans ?_
  rw [qbA h];rfl
 ·rw [if_neg h]
  exact qE (by show bnot (beq s.e.ph 4)=true;simp (disch:=first | assumption | omega | (dsimp only;omega) | decide) only [go_sem,Int.reduceToNat];exact h)
theorem qpU (s:Si):qeR (s.t,())=some ((qtC s).t,()):=by
 unfold qeR qtC
 by_cases h:s.e.ph=4
 ·rw [if_pos h]
  refine (qB (by show bnot (beq s.e.ph 4)=false;rw [h];rfl)).trans ?_
  rfl
 ·rw [if_neg h]
  exact qE (by show bnot (beq s.e.ph 4)=true;simp (disch:=first | assumption | omega | (dsimp only;omega) | decide) only [go_sem,Int.reduceToNat];exact h)
end Yp
namespace Yp
open Go
set_option maxRecDepth 100000
set_option maxHeartbeats 2000000
def qoR (n:xA) (res:Int):BB:=(wrN (ansN n res).1).1
theorem qq0 {s:Si} {m:Nat} (hs:okS m s) (hm:m≤900000) (n:xA) (res:Int) :
  (ob (jW (n,res,())) fun (a:xA×Int×Unit)=>ob (j7 (a.1,())) fun (b:BB×Int×Unit)=>ob (x8 (s.t,b.1,())) fun (c:qaE×Int×Unit)=>(some (c.1,()):Option (qaE×Unit)))=some ((qeN s (qoR n res)).1.t,()):=by
 rw [qqC]
 refine (qF rfl).trans ?_
 rw [qhB]
 refine (qF rfl).trans ?_
 exact (qfH (qjX hs hm (qoR n res))).trans rfl
def qHQ (e:En') (r:z4):En':={ e with ring:=r }
def qIV (e:En') (r:z4):En':={ e with ph:=3,ask:=noA,ring:=r }
def offK (s:Si) (n:xA):Si :=
 if s.e.ph=4∧s.e.id=0 then qtO s 3
 else if ¬ kcvD (derD s.e n.2.2.2.2.1 n.2.2.2.2.2.1)=n.2.2.2.2.2.2.1 then (qeN s (qoR n 63)).1
 else if n.2.2.2.2.1=s.e.ring.1.1 then (qeN s (qoR n 0)).1
 else if s.e.ph=4 then
  (if (zN (qHN s.e.ring) n.2.2.2.2.1 (derD s.e n.2.2.2.2.1 n.2.2.2.2.2.1)).2.1=0 then (qeN ⟨qIV s.e (zN (qHN s.e.ring) n.2.2.2.2.1 (derD s.e n.2.2.2.2.1 n.2.2.2.2.2.1)).1,s.p⟩ (qoR n 0)).1 else qtO s 3)
 else (if (zN s.e.ring n.2.2.2.2.1 (derD s.e n.2.2.2.2.1 n.2.2.2.2.2.1)).2.1=0 then (qeN ⟨qHQ s.e (zN s.e.ring n.2.2.2.2.1 (derD s.e n.2.2.2.2.1 n.2.2.2.2.2.1)).1,s.p⟩ (qoR n 0)).1 else qtO s 3)
theorem qsS {m:Nat} {s:Si} (h:okS m s) {r:z4} (hr:yK r):okS m ⟨qHQ s.e r,s.p⟩:=⟨{ h.e with ring:=hr },h.p⟩
theorem qhA {m:Nat} {s:Si} (h:okS m s) {r:z4} (hr:yK r):okS m ⟨qIV s.e r,s.p⟩:=⟨{ h.e with ring:=hr,ph:=⟨by show (0:Int)≤3;decide,by show (3:Int)≤8;decide⟩ },h.p⟩
theorem qeG (s:Si):(ob (kK (s.t,13,())) fun (a:qaE×Unit)=>(some (a.1,()):Option (qaE×Unit)))=some ((qtO s 3).t,()):=(qfH (qCO s)).trans rfl
theorem qlM {s:Si} {m:Nat} (hs:okS m s) (hm:m≤900000) (n:xA) (hn:n.2.2.2.2.2.1.length≤1000):qaL (s.t,n,())=some ((offK s n).t,()):=by
 unfold qaL offK
 refine (qF (o:=xH _) rfl).trans ?_
 dsimp only
 have hk:=hs.e.key
 rw [show jV ((s.t.1,()),n.2.2.2.2.1,n.2.2.2.2.2.1,())=_ from qmM s.e _ _ (by omega) hn]
 refine (qF rfl).trans ?_
 have hl:=qFS s.e n.2.2.2.2.1 n.2.2.2.2.2.1
 generalize derD s.e n.2.2.2.2.1 n.2.2.2.2.2.1=k at hl
 refine (qF (o:=zC _) rfl).trans ?_
 dsimp only
 rw [show s.t.1.2.2.1=s.e.ph from rfl,show s.t.1.1=s.e.id from rfl]
 by_cases h1:s.e.ph=4∧s.e.id=0
 ·rw [if_pos h1,h1.1,h1.2]
  refine (qF (a:=(true,())) rfl).trans ((qE rfl).trans ?_)
  exact qeG s
 ·rw [if_neg h1]
  refine (qF (a:=(false,())) ?_).trans ((qB rfl).trans ?_)
  ·by_cases h4:s.e.ph=4
   ·have h0:¬ s.e.id=0:=fun h0=>h1 ⟨h4,h0⟩
    rw [qaD h4,wD h0];rfl
   ·rw [wD h4];rfl
  rw [qoY _ (by omega)]
  refine (qF rfl).trans ?_
  dsimp only
  rw [qfJ _ _ (by rw [qs5];omega)]
  refine (qF rfl).trans ?_
  dsimp only
  by_cases h2:kcvD k=n.2.2.2.2.2.2.1
  ·rw [if_neg (not_not_intro h2),qMS h2]
   refine (qB rfl).trans ?_
   rw [show s.t.1.2.2.2.2.2.2.2.2.2.2.1=s.e.ring from rfl]
   by_cases h3:n.2.2.2.2.1=s.e.ring.1.1
   ·rw [if_pos h3]
    refine (qE (qaD h3)).trans ?_
    exact qq0 hs hm n 0
   ·rw [if_neg h3]
    refine (qB (wD h3)).trans ?_
    refine (qF (o:=zC _) rfl).trans ?_
    dsimp only
    rw [show s.t.1.2.2.1=s.e.ph from rfl]
    by_cases h4:s.e.ph=4
    ·rw [if_pos h4]
     refine (qE (qaD h4)).trans ?_
     rw [qlI]
     refine (qF rfl).trans ?_
     dsimp only
     rw [qa9]
     refine (qF rfl).trans ?_
     by_cases h5:(zN (qHN s.e.ring) n.2.2.2.2.1 k).2.1=0
     ·rw [if_pos h5]
      refine (qB (bq_f h5)).trans ?_
      refine (qF (o:=zC _) rfl).trans ?_
      dsimp only
      rw [show s.t.1.2.2.1=s.e.ph from rfl]
      refine (qE (qaD h4)).trans ?_
      rw [qbA h4]
      refine (qF rfl).trans ?_
      exact qq0 (qhA hs (kC (qkC hs.e.ring) n.2.2.2.2.1 k)) hm n 0
     ·rw [if_neg h5]
      refine (qE (bq_t h5)).trans ?_
      exact qeG s
    ·rw [if_neg h4]
     refine (qB (wD h4)).trans ?_
     rw [qa9]
     refine (qF rfl).trans ?_
     by_cases h5:(zN s.e.ring n.2.2.2.2.1 k).2.1=0
     ·rw [if_pos h5]
      refine (qB (bq_f h5)).trans ?_
      refine (qF (o:=zC _) rfl).trans ?_
      dsimp only
      rw [show s.t.1.2.2.1=s.e.ph from rfl]
      refine (qB (wD h4)).trans ?_
      exact qq0 (qsS hs (kC hs.e.ring n.2.2.2.2.1 k)) hm n 0
     ·rw [if_neg h5]
      refine (qE (bq_t h5)).trans ?_
      exact qeG s
  ·rw [if_pos h2,qMT h2]
   refine (qE rfl).trans ?_
   exact qq0 hs hm n 63
instance (a:TAsk) (c s:Int):Decidable (qsW a c s):=by unfold qsW;infer_instance
def ansK (s:Si) (n:xA):Si :=
 if ¬ s.e.ph=4∨¬ qsW s.e.ask n.2.1 n.2.2.1 then qtO s 3
 else if ¬ n.2.2.2.1=0 then qtC s
 else qjT ⟨qIV s.e (qnD s.e.ring).1,s.p⟩ (qK0 301)
theorem qkD {s:Si} {m:Nat} (hs:okS m s) (hm:m≤900000) (n:xA):wE (s.t,n,())=some ((ansK s n).t,()):=by
 unfold wE ansK
 refine (qF (o:=xH _) rfl).trans ?_
 refine (qF (o:=zC _) rfl).trans ?_
 dsimp only
 rw [show s.t.1.2.2.1=s.e.ph from rfl,show s.t.1.2.2.2.2.2.2.2.2.2.2.2.1=s.e.ask from rfl,qv9]
 by_cases h4:s.e.ph=4
 ·by_cases h5:qsW s.e.ask n.2.1 n.2.2.1
  ·rw [if_neg (fun h=>h.elim (fun h=>h h4) (fun h=>h h5)),D_t h5,qaD h4]
   refine (qF (a:=(false,())) rfl).trans ((qB rfl).trans ?_)
   by_cases h6:n.2.2.2.1=0
   ·rw [if_neg (not_not_intro h6)]
    refine (qB (bq_f h6)).trans ?_
    rw [qbA h4]
    refine (qF rfl).trans ?_
    rw [show (qgS ((({ e:=qOX s.e,p:=s.p }:Si).t,()).1.1.2.2.2.2.2.2.2.2.2.2.1,()):Option (z4×Int×Unit))=_ from qu5 s.e.ring]
    refine (qF rfl).trans ?_
    exact (qfH (qb9 (qhA hs (qrV hs.e.ring)) hm (qK0 301))).trans rfl
   ·rw [if_pos h6]
    refine (qE (bq_t h6)).trans ?_
    exact (qfH (wX s)).trans rfl
  ·rw [if_pos (.inr h5),D_f h5,qaD h4]
   refine (qF (a:=(true,())) rfl).trans ((qE rfl).trans ?_)
   exact qeG s
 ·rw [if_pos (.inl h4),wD h4]
  refine (qF (a:=(true,())) rfl).trans ((qE rfl).trans ?_)
  exact qeG s
end Yp
namespace Yp
open Go
set_option maxRecDepth 100000
set_option maxHeartbeats 2000000
theorem qCG (x:UInt64):n64 x=(x.toNat:Int):=rfl
theorem qG6 {k:Nat} (h:k≤63):2 ^ k≤9223372036854775808:=by
 have:=Nat.pow_le_pow_right (show 0 < 2 by omega) h
 have e:2 ^ 63=9223372036854775808:=by decide
 omega
theorem qgB (k:Nat) (hk:k≤63):yV ((k:Int),())=some (u64 ((2 ^ k:Nat):Int),()):=by
 unfold yV
 dsimp only
 generalize hf:(fun (x_1:UInt64×Int×Unit)=>(_:Option (LS (UInt64×Int×Unit) (UInt64×Unit))))=f
 have step:∀ i:Nat,i < k→f (u64 ((2 ^ i:Nat):Int),(i:Int),())=some (.nx (u64 ((2 ^ (i+1):Nat):Int),((i+1:Nat):Int),())):=by
  intro i hi
  subst hf
  have hi':i64 (iadd (i:Int) 1)=((i+1:Nat):Int):=i64n (by show (i:Int)+1=_;omega) (by omega)
  have hp:=qG6 (k:=i) (by omega)
  have e:imul (n64 (u64 2)) (n64 (u64 ((2 ^ i:Nat):Int)))=((2 ^ (i+1):Nat):Int):=by
   rw [Nat.pow_succ]
   generalize 2 ^ i=m at hp
   rw [qhE (by decide),qhE (by omega)]
   show (2:Int)*(m:Int)=_
   omega
  refine (qE (by simp (disch:=first | assumption | omega | (dsimp only;omega) | decide) only [go_sem,Int.reduceToNat];omega)).trans ?_
  dsimp only
  rw [hi',e]
 have hend:∀ u,f (u,(k:Int),())=some (.ex 0 (u,(k:Int),())):=by subst hf;intro u;exact qB (by simp (disch:=first | assumption | omega | (dsimp only;omega) | decide) only [go_sem,Int.reduceToNat];omega)
 have hloop:=(qN (f:=f) (fun i=>(u64 ((2 ^ i:Nat):Int),(i:Int),())) k step 0 (Nat.zero_le _)).trans (qT (hend _))
 refine (qZ (show loop f (u64 1,0,())=_ from hloop)).trans ?_
 exact qH g62
def bitW (w:WT) (p:Nat):Bool:=(nth w.2.1 (p / 64) (u64 0)).toNat / 2 ^ (p % 64) % 2 == 1
theorem wG (w:WT) (hw:w.2.1.length=16) (p:Nat) (hp:p < 1024):wO (w,(p:Int),())=some (bitW w p,()):=by
 unfold wO bitW
 dsimp only
 have e1:i64 (idiv (p:Int) 64)=((p / 64:Nat):Int):=by rw [g31 (by omega)];exact i64n (by omega) (by omega)
 have e2:imod (p:Int) 64=((p % 64:Nat):Int):=by rw [g32 (by omega)];omega
 rw [e1,e2]
 refine (qH (by simp (disch:=first | assumption | omega | (dsimp only;omega) | decide) only [go_sem,Int.reduceToNat];omega)).trans ?_
 rw [qgB _ (by omega)]
 refine (qF rfl).trans ?_
 have hq:=qG6 (k:=p % 64) (by omega)
 have hq0:0 < 2 ^ (p % 64):=Nat.pow_pos (by omega)
 generalize 2 ^ (p % 64)=m at hq hq0 ⊢
 have e3:n64 (u64 (m:Int))=(m:Int):=qhE (by omega)
 dsimp only
 rw [e3]
 refine (qH (by simp (disch:=first | assumption | omega | (dsimp only;omega) | decide) only [go_sem,Int.reduceToNat];omega)).trans ?_
 rw [qR]
 generalize nth w.2.1 (p / 64) (u64 0)=x
 have hx:=x.toNat_lt
 have e4:idiv (n64 x) (m:Int)=((x.toNat / m:Nat):Int):=by
  rw [g31 (by rw [qCG];omega),qCG,Int.natCast_ediv]
 have hle:x.toNat / m≤x.toNat:=Nat.div_le_self _ _
 rw [e4]
 generalize x.toNat / m=q at hle ⊢
 rw [show n64 (u64 (q:Int))=(q:Int) from qhE (by omega),show n64 (u64 2)=2 from qhE (by decide),show imod (q:Int) 2=((q % 2:Nat):Int) by rw [g32 (by omega)];omega,
  show n64 (u64 ((q % 2:Nat):Int))=((q % 2:Nat):Int) from qhE (by omega),show n64 (u64 1)=1 from qhE (by decide)]
 congr 2
 unfold beq
 rw [Bool.eq_iff_iff,beq_iff_eq,beq_iff_eq]
 omega
def qJn (w:WT):Prop:=(0≤w.1∧w.1≤4611686018427387905)∧(∀ p∈(List.range 1024).drop w.1.toNat,bitW w p=false)∧(w.1=0∨bitW w ((w.1 - 1) % 1024).toNat=true)
theorem qp3 (w:WT) (hw:w.2.1.length=16):qe2 (w,())=some (D (qJn w),()):=by
 unfold qe2 qJn
 dsimp only
 by_cases h0:0≤w.1∧w.1≤4611686018427387905
 ·refine (qF (a:=(false,())) (by simp (disch:=first | assumption | omega | (dsimp only;omega) | decide) only [go_sem,Int.reduceToNat];try exact v3 (by omega))).trans ((qB rfl).trans ?_)
  generalize hf:(fun (x_1:Bool×Int×Unit)=>(_:Option (LS (Bool×Int×Unit) (Bool×Unit))))=f
  have hlen:((List.range 1024).drop w.1.toNat).length=1024 - w.1.toNat:=by rw [List.length_drop,List.length_range]
  have hT:w.1=(w.1.toNat:Int):=by omega
  generalize w.1.toNat=T at hT hlen
  have hget:∀ i (h:i < ((List.range 1024).drop T).length),((List.range 1024).drop T)[i]=T+i:=fun i h=>by rw [List.getElem_drop,List.getElem_range]
  have fin:(ck (neb 0 0) (ob (sel (beq w.1 0) (some (true,())) (ob (wO (w,imod (i64 (isub w.1 1)) 1024,())) fun (a:Bool×Unit)=>some (a.1,()))) fun (a:Bool×Unit)=>some (a.1,())):Option (Bool×Unit))=some (D (w.1=0∨bitW w ((w.1 - 1) % 1024).toNat=true),()):=by
   refine (qH g62).trans ?_
   by_cases hz:w.1=0
   ·rw [D_t (.inl hz),hz];rfl
   ·have e:imod (i64 (isub w.1 1)) 1024=((((w.1 - 1) % 1024).toNat:Nat):Int):=by
     rw [show i64 (isub w.1 1)=w.1 - 1 from zO (by show -9223372036854775808≤w.1 - 1;omega) (by show w.1 - 1≤9223372036854775807;omega),g32 (by omega)];omega
    refine (qfH ((qB (wD hz)).trans (by rw [e,wG w hw _ (by omega)]))).trans ?_
    refine (qF rfl).trans ?_
    cases hb:bitW w ((w.1 - 1) % 1024).toNat
    ·rw [D_f (fun h=>h.elim hz (by simp))]
    ·rw [D_t (.inr rfl)]
  have key:=qaR (f:=f) ((List.range 1024).drop T) (fun i=>(false,((T+i:Nat):Int),())) 0 ((false,()):Bool×Unit) (fun p=>bitW w p=false) (fun i h hp => ?_) (fun i h hp => ?_) ?_
  ·rcases key with ⟨h,hl⟩ | ⟨h,hl⟩
   ·rw [Nat.add_zero,← hT] at hl
    refine (qZ hl).trans ?_
    refine fin.trans (zH ?_)
    exact ⟨fun h'=>⟨h0,h,h'⟩,fun h'=>h'.2.2⟩
   ·rw [Nat.add_zero,← hT] at hl
    refine (qZ hl).trans ?_
    rw [D_f (fun h'=>h h'.2.1)];rfl
  ·subst hf
   have hi':i64 (iadd ((T+i:Nat):Int) 1)=((T+(i+1):Nat):Int):=i64n (by show ((T+i:Nat):Int)+1=_;omega) (by omega)
   rw [hget i h] at hp
   refine (qE (by simp (disch:=first | assumption | omega | (dsimp only;omega) | decide) only [go_sem,Int.reduceToNat];omega)).trans ?_
   dsimp only
   rw [wG w hw _ (by omega),hp,hi'];rfl
  ·subst hf
   rw [hget i h,Bool.not_eq_false] at hp
   refine (qE (by simp (disch:=first | assumption | omega | (dsimp only;omega) | decide) only [go_sem,Int.reduceToNat];omega)).trans ?_
   dsimp only
   rw [wG w hw _ (by omega),hp];rfl
  ·subst hf
   refine qB ?_
   show lt ((T+((List.range 1024).drop T).length:Nat):Int) 1024=false
   rw [List.length_drop,List.length_range]
   exact lt_f (by omega)
 ·rw [D_f (fun h=>h0 h.1)]
  refine (qF (a:=(true,())) (by simp (disch:=first | assumption | omega | (dsimp only;omega) | decide) only [go_sem,Int.reduceToNat];try exact wM (by omega))).trans ?_
  rfl
end Yp
namespace Yp
open Go
set_option maxRecDepth 100000
set_option maxHeartbeats 2000000
abbrev FT:=BB×Int×Int×Unit
def noF:FT:=([],0,0,())
def qLX (f:FT):Int:=256*n8 (nth f.1 0 (u8 0))+n8 (nth f.1 1 (u8 0))
def qrW (f:FT):Prop:=¬ (f.2.1 < 0∨65535 < f.2.1∨0 < f.2.1∧0 < f.1.length)∧(f.1.length < 2∨1≤qLX f∧qLX f≤1024∧(f.1.length:Int) < qLX f+2)
theorem qwT (c:UInt8):0≤n8 c∧n8 c < 256:=by have:=c.toNat_lt;unfold n8;omega
theorem qgC (f:FT):qe5 (f,())=some (D (qrW f),()):=by
 unfold qe5 qrW qLX
 dsimp only
 by_cases h1:f.2.1 < 0∨65535 < f.2.1∨0 < f.2.1∧0 < f.1.length
 ·rw [D_f (fun h=>h.1 h1)]
  refine (qF (a:=(true,())) (by simp (disch:=first | assumption | omega | (dsimp only;omega) | decide) only [go_sem,Int.reduceToNat];try exact wM (by omega))).trans ?_
  rfl
 ·refine (qF (a:=(false,())) (by simp (disch:=first | assumption | omega | (dsimp only;omega) | decide) only [go_sem,Int.reduceToNat];try exact v3 (by omega))).trans ((qB rfl).trans ?_)
  by_cases h2:f.1.length < 2
  ·rw [D_t ⟨h1, .inl h2⟩]
   exact qE (by simp (disch:=first | assumption | omega | (dsimp only;omega) | decide) only [go_sem,Int.reduceToNat];omega)
  ·refine (qB (by simp (disch:=first | assumption | omega | (dsimp only;omega) | decide) only [go_sem,Int.reduceToNat];omega)).trans ?_
   refine (qH (by simp (disch:=first | assumption | omega | (dsimp only;omega) | decide) only [go_sem,Int.reduceToNat];omega)).trans ?_
   refine (qH (by simp (disch:=first | assumption | omega | (dsimp only;omega) | decide) only [go_sem,Int.reduceToNat];omega)).trans ?_
   rw [show nat 0=0 from rfl,show nat 1=1 from rfl]
   have hx:=qwT (nth f.1 0 (u8 0))
   have hy:=qwT (nth f.1 1 (u8 0))
   generalize n8 (nth f.1 0 (u8 0))=x at hx
   generalize n8 (nth f.1 1 (u8 0))=y at hy
   have e:i64 (iadd (i64 (imul 256 (i64 x))) (i64 y))=256*x+y:=by
    rw [show i64 x=x from zO (by omega) (by omega),show i64 y=y from zO (by omega) (by omega),show i64 (imul 256 x)=256*x from zO (by show -9223372036854775808≤256*x;omega) (by show 256*x≤9223372036854775807;omega)]
    exact zO (by show -9223372036854775808≤256*x+y;omega) (by show 256*x+y≤9223372036854775807;omega)
   rw [e,show i64 (iadd (256*x+y) 2)=256*x+y+2 from zO (by show -9223372036854775808≤256*x+y+2;omega) (by show 256*x+y+2≤9223372036854775807;omega)]
   simp (disch:=first | assumption | omega | (dsimp only;omega) | decide) only [go_sem,Int.reduceToNat]
   refine zH ⟨fun h=>⟨h1, .inr (by omega)⟩,fun h=>by have:=h.2;omega⟩
theorem qbL (a b:FT):yW (a,b,())=some (D (a=b),()):=by
 obtain ⟨x,y,z,⟨⟩⟩:=a
 obtain ⟨x',y',z',⟨⟩⟩:=b
 unfold yW
 simp (disch:=first | assumption | omega | (dsimp only;omega) | decide) only [go_sem,Int.reduceToNat,zA]
 refine zH ?_
 simp only [Prod.mk.injEq,and_true,and_assoc]
def qJr (h:THub):Prop:=(∀ c∈List.range 4,qrW (nth h.2.1 c noF)∧(nth h.1 c false=true∨nth h.2.1 c noF=noF))∧0≤h.2.2.2.1∧h.2.2.2.1 < 4
theorem qp4 (h:THub):qe4 (h,())=some (D (qJr h),()):=by
 unfold qe4 qJr
 dsimp only
 generalize hf:(fun (x_1:Bool×Int×Unit)=>(_:Option (LS (Bool×Int×Unit) (Bool×Unit))))=f
 have hget:∀ i (hi:i < (List.range 4).length),(List.range 4)[i]=i:=fun i hi=>List.getElem_range _
 have key:=qaR (f:=f) (List.range 4) (fun i=>(false,(i:Int),())) 0 ((false,()):Bool×Unit) (fun c=>qrW (nth h.2.1 c noF)∧(nth h.1 c false=true∨nth h.2.1 c noF=noF)) (fun i hi hp => ?_) (fun i hi hp => ?_) ?_
 ·rcases key with ⟨hk,hl⟩ | ⟨hk,hl⟩
  ·refine (qZ (show loop f (false,0,())=_ from hl)).trans ?_
   refine (qH g62).trans ?_
   simp (disch:=first | assumption | omega | (dsimp only;omega) | decide) only [go_sem,Int.reduceToNat]
   exact zH ⟨fun h'=>⟨hk,h'⟩,fun h'=>h'.2⟩
  ·refine (qZ (show loop f (false,0,())=_ from hl)).trans ?_
   rw [D_f (fun h'=>hk h'.1)];rfl
 ·subst hf
  rw [hget i hi] at hp
  have hi4:i < 4:=by simpa using hi
  have hi':i64 (iadd (i:Int) 1)=((i+1:Nat):Int):=i64n (by show (i:Int)+1=_;omega) (by omega)
  refine (qE (by simp (disch:=first | assumption | omega | (dsimp only;omega) | decide) only [go_sem,Int.reduceToNat];omega)).trans ?_
  dsimp only
  rw [hi',qR]
  refine (qH (by simp (disch:=first | assumption | omega | (dsimp only;omega) | decide) only [go_sem,Int.reduceToNat];omega)).trans ?_
  rw [show nth h.2.1 i (none' UInt8,0,0,())=nth h.2.1 i noF from rfl,qgC,D_t hp.1]
  refine (qF rfl).trans ?_
  refine (qH (by simp (disch:=first | assumption | omega | (dsimp only;omega) | decide) only [go_sem,Int.reduceToNat];omega)).trans ?_
  rw [show yW (nth h.2.1 i noF,(none' UInt8,0,0,()),())=_ from qbL _ noF]
  refine (qF rfl).trans ?_
  refine (qF (a:=(false,())) ((qB rfl).trans ((qH (by simp (disch:=first | assumption | omega | (dsimp only;omega) | decide) only [go_sem,Int.reduceToNat];omega)).trans ?_))).trans rfl
  rcases hp.2 with h1 | h1
  ·rw [h1];rfl
  ·rw [D_t h1];cases nth h.1 i false <;> rfl
 ·subst hf
  rw [hget i hi] at hp
  have hi4:i < 4:=by simpa using hi
  refine (qE (by simp (disch:=first | assumption | omega | (dsimp only;omega) | decide) only [go_sem,Int.reduceToNat];omega)).trans ?_
  dsimp only
  rw [qR]
  refine (qH (by simp (disch:=first | assumption | omega | (dsimp only;omega) | decide) only [go_sem,Int.reduceToNat];omega)).trans ?_
  rw [show nth h.2.1 i (none' UInt8,0,0,())=nth h.2.1 i noF from rfl,qgC]
  refine (qF rfl).trans ?_
  refine (qH (by simp (disch:=first | assumption | omega | (dsimp only;omega) | decide) only [go_sem,Int.reduceToNat];omega)).trans ?_
  rw [show yW (nth h.2.1 i noF,(none' UInt8,0,0,()),())=_ from qbL _ noF]
  refine (qF rfl).trans ?_
  by_cases h1:qrW (nth h.2.1 i noF)
  ·rw [D_t h1]
   refine (qF (a:=(true,())) ((qB rfl).trans ((qH (by simp (disch:=first | assumption | omega | (dsimp only;omega) | decide) only [go_sem,Int.reduceToNat];omega)).trans ?_))).trans rfl
   have h2:¬ (nth h.1 i false=true∨nth h.2.1 i noF=noF):=fun h2=>hp ⟨h1,h2⟩
   simp only [not_or,Bool.not_eq_true] at h2
   rw [h2.1,D_f h2.2];rfl
  ·rw [D_f h1];rfl
 ·subst hf;exact qB rfl
def fewH (h:THub):Prop:=(nth h.2.1 0 noF).1.length≤1200∧(nth h.2.1 1 noF).1.length≤1200∧(nth h.2.1 2 noF).1.length≤1200∧(nth h.2.1 3 noF).1.length≤1200
theorem qvE (h:THub):qlV (h,())=some (D (fewH h),()):=by
 unfold qlV fewH
 rw [show (none' UInt8,0,0,())=noF from rfl]
 refine (qH rfl).trans ?_
 dsimp only
 rw [show nat 0=0 from rfl,show nat 1=1 from rfl,show nat 2=2 from rfl,show nat 3=3 from rfl]
 rw [qH (show inB 1 (ofn 4)=true from rfl),qH (show inB 2 (ofn 4)=true from rfl),qH (show inB 3 (ofn 4)=true from rfl)]
 simp (disch:=first | assumption | omega | (dsimp only;omega) | decide) only [go_sem,Int.reduceToNat]
 exact zH (by omega)
theorem qzR (h:THub) (h1:h.1.length=4) (h2:h.2.1.length=4) (h3:h.2.2.1.length=4):qiV (h,h,())=some (true,()):=by
 unfold qiV
 dsimp only
 generalize hf:(fun (x_1:Bool×Int×Unit)=>(_:Option (LS (Bool×Int×Unit) (Bool×Unit))))=f
 have step:∀ i:Nat,i < 4→f (false,(i:Int),())=some (.nx (false,((i+1:Nat):Int),())):=by
  intro i hi
  subst hf
  have hi':i64 (iadd (i:Int) 1)=((i+1:Nat):Int):=i64n (by show (i:Int)+1=_;omega) (by omega)
  refine (qE (by simp (disch:=first | assumption | omega | (dsimp only;omega) | decide) only [go_sem,Int.reduceToNat];omega)).trans ?_
  dsimp only
  rw [hi']
  simp (disch:=first | assumption | omega | (dsimp only;omega) | decide) only [go_sem,Int.reduceToNat,qbL]
 have hend:f (false,((4:Nat):Int),())=some (.ex 0 (false,((4:Nat):Int),())):=by subst hf;exact qB rfl
 have hloop:=(qN (f:=f) (fun i=>(false,(i:Int),())) 4 step 0 (Nat.zero_le _)).trans (qT hend)
 refine (qZ (show loop f (false,0,())=_ from hloop)).trans ?_
 refine (qH g62).trans ?_
 simp (disch:=first | assumption | omega | (dsimp only;omega) | decide) only [go_sem,Int.reduceToNat]
def qJp (e:En'):Prop:=e.queue.length≤8∧(e.queue=[]∨qn5 e.ph)∧∀ b∈e.queue,qc8 b
theorem qpV (e:En'):qeT (e.t,())=some (D (qJp e),()):=by
 unfold qeT qJp
 dsimp only [En'.t]
 have hq0:(e.queue=[])↔e.queue.length=0:=List.length_eq_zero_iff.symm
 by_cases h1:e.queue.length≤8∧(e.queue=[]∨qn5 e.ph)
 ·refine (qF (a:=(false,())) ?_).trans ((qB rfl).trans ?_)
  ·refine (qB (by simp (disch:=first | assumption | omega | (dsimp only;omega) | decide) only [go_sem,Int.reduceToNat];omega)).trans ?_
   by_cases h2:e.queue.length=0
   ·exact qB (by simp (disch:=first | assumption | omega | (dsimp only;omega) | decide) only [go_sem,Int.reduceToNat];omega)
   ·refine (qE (by simp (disch:=first | assumption | omega | (dsimp only;omega) | decide) only [go_sem,Int.reduceToNat];omega)).trans ?_
    rw [qbG,D_t (h1.2.resolve_left (fun h=>h2 (hq0.1 h)))];rfl
  generalize hf:(fun (x_1:Bool×Int×Unit)=>(_:Option (LS (Bool×Int×Unit) (Bool×Unit))))=f
  have key:=qaR (f:=f) e.queue (fun i=>(false,(i:Int),())) 0 ((false,()):Bool×Unit) qc8 (fun i hi hp => ?_) (fun i hi hp => ?_) ?_
  ·rcases key with ⟨hk,hl⟩ | ⟨hk,hl⟩
   ·refine (qZ (show loop f (false,0,())=_ from hl)).trans ?_
    refine (qH g62).trans ?_
    rw [D_t ⟨h1.1,h1.2,hk⟩]
   ·refine (qZ (show loop f (false,0,())=_ from hl)).trans ?_
    rw [D_f (fun h'=>hk h'.2.2)];rfl
  ·subst hf
   have hi':i64 (iadd (i:Int) 1)=((i+1:Nat):Int):=i64n (by show (i:Int)+1=_;omega) (by omega)
   refine (qE (by simp (disch:=first | assumption | omega | (dsimp only;omega) | decide) only [go_sem,Int.reduceToNat];omega)).trans ?_
   refine (qH (by simp (disch:=first | assumption | omega | (dsimp only;omega) | decide) only [go_sem,Int.reduceToNat];omega)).trans ?_
   dsimp only
   rw [hi',qR,qL hi]
   have q1:=hp.1
   have q2:=hp.2
   simp (disch:=first | assumption | omega | (dsimp only;omega) | decide) only [go_sem,Int.reduceToNat]
  ·subst hf
   refine (qE (by simp (disch:=first | assumption | omega | (dsimp only;omega) | decide) only [go_sem,Int.reduceToNat];omega)).trans ?_
   refine (qH (by simp (disch:=first | assumption | omega | (dsimp only;omega) | decide) only [go_sem,Int.reduceToNat];omega)).trans ?_
   dsimp only
   rw [qR,qL hi]
   unfold qc8 at hp
   by_cases q1:e.queue[i].length < 1
   ·simp (disch:=first | assumption | omega | (dsimp only;omega) | decide) only [go_sem,Int.reduceToNat]
   ·simp (disch:=first | assumption | omega | (dsimp only;omega) | decide) only [go_sem,Int.reduceToNat]
  ·subst hf
   exact qB (by simp (disch:=first | assumption | omega | (dsimp only;omega) | decide) only [go_sem,Int.reduceToNat];omega)
 ·rw [D_f (fun h=>h1 ⟨h.1,h.2.1⟩)]
  refine (qF (a:=(true,())) ?_).trans rfl
  by_cases h2:e.queue.length≤8
  ·have h3:¬ (e.queue=[]∨qn5 e.ph):=fun h3=>h1 ⟨h2,h3⟩
   simp only [not_or] at h3
   have h4:¬ e.queue.length=0:=fun h=>h3.1 (hq0.2 h)
   refine (qB (by simp (disch:=first | assumption | omega | (dsimp only;omega) | decide) only [go_sem,Int.reduceToNat];omega)).trans ((qE (by simp (disch:=first | assumption | omega | (dsimp only;omega) | decide) only [go_sem,Int.reduceToNat];omega)).trans ?_)
   rw [qbG,D_f h3.2];rfl
  ·exact qE (by simp (disch:=first | assumption | omega | (dsimp only;omega) | decide) only [go_sem,Int.reduceToNat];omega)
end Yp
namespace Yp
open Go
set_option maxRecDepth 100000
set_option maxHeartbeats 2000000
theorem qNt {a b:UInt64}:n64 a=n64 b↔a=b:=by
 constructor
 ·intro h
  unfold n64 at h
  exact UInt64.toNat_inj.1 (by omega)
 ·rintro rfl;rfl
theorem qK5:∀ {l m:List UInt64},l.length=m.length→(all2 (fun (p q:UInt64)=>beq (n64 p) (n64 q)) l m=true↔l=m)
 | [],[],_=>by simp [all2]
 | a :: l,b :: m,h=>by
  have ih:=qK5 (l:=l) (m:=m) (by simpa using h)
  unfold all2 at ih ⊢
  rw [List.zip_cons_cons,List.all_cons,Bool.and_eq_true,ih]
  unfold beq
  rw [beq_iff_eq,qNt,List.cons.injEq]
 | [],_ :: _,h=>by simp at h
 | _ :: _,[],h=>by simp at h
def qOa (e:En'):Prop:=e.oth=0∧e.seq=0∧e.win=noW∧e.ring=noR
theorem qrY (e:En') (hw:e.win.2.1.length=16):qiL (e.t,())=some (D (qOa e),()):=by
 unfold qiL qOa
 dsimp only [En'.t]
 rw [vT]
 refine (qF rfl).trans ?_
 have hwin:band (beq e.win.1 0) (band (all2 (fun (p q:UInt64)=>beq (n64 p) (n64 q)) e.win.2.1 [u64 0,u64 0,u64 0,u64 0,u64 0,u64 0,u64 0,u64 0,u64 0,u64 0,u64 0,u64 0,u64 0,u64 0,u64 0,u64 0]) true)=D (e.win=noW):=by
  refine qiB ?_
  generalize e.win=w at hw ⊢
  obtain ⟨t,b,⟨⟩⟩:=w
  unfold noW
  dsimp only at hw ⊢
  unfold band
  rw [Bool.and_true,Bool.and_eq_true,qK5 (by rw [hw];rfl)]
  unfold beq
  rw [beq_iff_eq]
  simp only [Prod.mk.injEq,and_true]
 dsimp only
 rw [hwin]
 simp (disch:=first | assumption | omega | (dsimp only;omega) | decide) only [go_sem,Int.reduceToNat]
 refine zH ?_
 simp only [and_assoc]
def qL3 (p:Int):Int:=nth [0,1,0,0,101,201,2,0,0] p.toNat 0
def qNA (e:En'):Prop:=(e.ask.1=qL3 e.ph∨e.ph=3∧e.ask.1=301)∧(zL e.ph∧0 < e.own∧0 < e.oth∧0 < e.ring.1.1∧(¬ e.ph=4∨0 < e.ring.2.2.1.1)∨¬ zL e.ph∧qOa e∧(0 < e.own↔e.ph=1))
theorem qnO (e:En') (hw:e.win.2.1.length=16) (hp:0≤e.ph∧e.ph≤8):qcB (e.t,())=some (D (qNA e),()):=by
 unfold qcB qNA qnP
 rw [show (e.t,()).1.2.2.1=e.ph from rfl]
 dsimp only
 rw [qH (show inB e.ph (len [0,1,0,0,101,201,2,0,0])=true by simp (disch:=first | assumption | omega | (dsimp only;omega) | decide) only [go_sem,Int.reduceToNat];simp;omega)]
 refine (qF rfl).trans ?_
 rw [show nth [0,1,0,0,101,201,2,0,0] (nat e.ph) 0=qL3 e.ph from rfl,show e.t.2.2.2.2.2.2.2.2.2.2.2.1.1=e.ask.1 from rfl,show e.t.2.2.2.2.2.1=e.own from rfl,show e.t.2.2.2.2.2.2.1=e.oth from rfl,show e.t.2.2.2.2.2.2.2.2.2.2.1=e.ring from rfl]
 by_cases h1:e.ask.1=qL3 e.ph∨e.ph=3∧e.ask.1=301
 ·refine (qF (a:=(false,())) ?_).trans ((qB rfl).trans ?_)
  ·rcases h1 with h1 | ⟨h1,h2⟩
   ·exact qB (bq_f h1)
   ·by_cases h3:e.ask.1=qL3 e.ph
    ·exact qB (bq_f h3)
    ·refine (qE (bq_t h3)).trans ((qB (bq_f h1)).trans ?_)
     rw [bq_f h2]
  rw [qrY e hw]
  refine (qF rfl).trans ?_
  rw [yS]
  refine (qF rfl).trans ?_
  by_cases hl:zL e.ph
  ·rw [D_t hl]
   refine (qE rfl).trans ?_
   simp (disch:=first | assumption | omega | (dsimp only;omega) | decide) only [go_sem,Int.reduceToNat]
   refine zH ?_
   simp only [h1,hl,true_and,not_true_eq_false,false_and,or_false,and_assoc]
  ·rw [D_f hl]
   refine (qB rfl).trans ?_
   simp (disch:=first | assumption | omega | (dsimp only;omega) | decide) only [go_sem,Int.reduceToNat]
   refine zH ?_
   simp only [h1,hl,true_and,not_false_eq_true,false_and,false_or]
 ·rw [D_f (fun h=>h1 h.1)]
  simp only [not_or,not_and] at h1
  refine (qF (a:=(true,())) ((qE (bq_t h1.1)).trans ?_)).trans rfl
  by_cases h3:e.ph=3
  ·refine (qB (bq_f h3)).trans ?_
   rw [bq_t (h1.2 h3)]
  ·exact qE (bq_t h3)
structure qMi (e:En'):Prop where
 id:0≤e.id∧e.id≤1
 key:e.key.length=32
 ph:0≤e.ph∧e.ph≤8
 stan:0≤e.stan∧e.stan≤999999
 day:0≤e.day∧e.day≤999999
 own:z1 e.own
 oth:z1 e.oth
 seen:z1 e.seen
 seq:z1 e.seq
 store:qGX e.store
 win:qJn e.win
 ring:yK e.ring
 ask:qJt e.ask
 hub:qJr e.hub
 queue:qJp e
 link:qNA e
theorem qPX (a b c d f g h i j k l:Prop):(sel (D a) (sel (D b) (sel (D c) (sel (D d) (sel (D f) (sel (D g) (sel (D h) (sel (D i) (sel (D j) (sel (D k) (some (D l,())) (some (false,()))) (some (false,()))) (some (false,()))) (some (false,()))) (some (false,()))) (some (false,()))) (some (false,()))) (some (false,()))) (some (false,()))) (some (false,())):Option (Bool×Unit)) =
  some (D (a∧b∧c∧d∧f∧g∧h∧i∧j∧k∧l),()):=by
 simp (disch:=first | assumption | omega | (dsimp only;omega) | decide) only [go_sem,Int.reduceToNat]
 try (refine zH ?_;simp only [and_assoc])
theorem qpX (e:En') (hw:e.win.2.1.length=16):qbB (e.t,())=some (D (qMi e),()):=by
 unfold qbB
 dsimp only
 rw [show e.t.1=e.id from rfl,show e.t.2.1=e.key from rfl,show e.t.2.2.1=e.ph from rfl,show e.t.2.2.2.2.2.2.2.2.2.2.2.2.1=e.stan from rfl,show e.t.2.2.2.2.2.2.2.2.2.2.2.2.2.1=e.day from rfl,show e.t.2.2.2.2.2.1=e.own from rfl,show e.t.2.2.2.2.2.2.1=e.oth from rfl,show e.t.2.2.2.2.2.2.2.1=e.seen from rfl,
  show e.t.2.2.2.2.2.2.2.2.1=e.seq from rfl,show e.t.2.2.2.1=e.store from rfl,show e.t.2.2.2.2.2.2.2.2.2.1=e.win from rfl,show e.t.2.2.2.2.2.2.2.2.2.2.1=e.ring from rfl,show e.t.2.2.2.2.2.2.2.2.2.2.2.1=e.ask from rfl,show e.t.2.2.2.2.2.2.2.2.2.2.2.2.2.2.2.1=e.hub from rfl]
 by_cases h:(0≤e.id∧e.id≤1)∧e.key.length=32∧(0≤e.ph∧e.ph≤8)∧(0≤e.stan∧e.stan≤999999)∧(0≤e.day∧e.day≤999999)
 ·obtain ⟨a1,a2,a3,a4,a5⟩:=h
  refine (qF (a:=(false,())) (by simp (disch:=first | assumption | omega | (dsimp only;omega) | decide) only [go_sem,Int.reduceToNat];try exact v3 (by omega))).trans ((qB rfl).trans ?_)
  rw [z3]
  refine (qF rfl).trans ?_
  rw [z3]
  refine (qF rfl).trans ?_
  rw [z3]
  refine (qF rfl).trans ?_
  rw [z3]
  refine (qF rfl).trans ?_
  rw [qp0]
  refine (qF rfl).trans ?_
  rw [qp3 _ hw]
  refine (qF rfl).trans ?_
  rw [qp2]
  refine (qF rfl).trans ?_
  rw [qpY]
  refine (qF rfl).trans ?_
  rw [qp4]
  refine (qF rfl).trans ?_
  rw [qpV]
  refine (qF rfl).trans ?_
  dsimp only
  rw [qnO e hw a3]
  refine (qfH (qPX _ _ _ _ _ _ _ _ _ _ _)).trans ?_
  refine (qF rfl).trans ?_
  refine zH ?_
  constructor
  ·rintro ⟨b1,b2,b3,b4,b5,b6,b7,b8,b9,b10,b11⟩
   exact ⟨a1,a2,a3,a4,a5,b1,b2,b3,b4,b5,b6,b7,b8,b9,b10,b11⟩
  ·rintro ⟨_,_,_,_,_,b1,b2,b3,b4,b5,b6,b7,b8,b9,b10,b11⟩
   exact ⟨b1,b2,b3,b4,b5,b6,b7,b8,b9,b10,b11⟩
 ·rw [D_f (fun r=>h ⟨r.id,r.key,r.ph,r.stan,r.day⟩)]
  refine (qF (a:=(true,())) (by simp (disch:=first | assumption | omega | (dsimp only;omega) | decide) only [go_sem,Int.reduceToNat];try exact wM (by omega))).trans ?_
  rfl
end Yp
namespace Yp
open Go
set_option maxRecDepth 100000
set_option maxHeartbeats 2000000
def qIh (acc:Int):List BB→Int
 | []=>acc
 | x :: r=>if 9000 - acc < (x.length:Int) then 9001 else qIh (acc+x.length) r
def qJ8 (q:List BB):Int:=if 9000 < (q.length:Int) then 9001 else qIh q.length q
theorem qsJ (q:List BB):qi6 (q,9000,())=some (qJ8 q,()):=by
 unfold qi6 qJ8
 dsimp only
 by_cases h0:9000 < (q.length:Int)
 ·rw [if_pos h0]
  exact (qE (lt_t h0)).trans rfl
 ·rw [if_neg h0]
  refine (qB (lt_f h0)).trans ?_
  generalize hf:(fun (x_1:Int×Int×Int×Unit)=>(_:Option (LS (Int×Int×Int×Unit) (Int×Unit))))=f
  have hl9:q.length≤9000:=by omega
  have key:∀ (n i:Nat) (acc:Int),q.length - i=n→i≤q.length→0≤acc→acc≤9000→(loop f (0,acc,(i:Int),())=some (.rt (9001,()))∧qIh acc (q.drop i)=9001)∨(loop f (0,acc,(i:Int),())=some (.ex 0 (0,qIh acc (q.drop i),(q.length:Int),()))):=by
   intro n
   induction n with
   | zero =>
    intro i acc hn hi ha hb
    have:i=q.length:=by omega
    subst this
    rw [List.drop_length]
    refine .inr (qT ?_)
    subst hf
    exact qB (by simp (disch:=first | assumption | omega | (dsimp only;omega) | decide) only [go_sem,Int.reduceToNat];omega)
   | succ n ih =>
    intro i acc hn hi ha hb
    have hil:i < q.length:=by omega
    have hi':i64 (iadd (i:Int) 1)=((i+1:Nat):Int):=i64n (by show (i:Int)+1=_;omega) (by omega)
    rw [List.drop_eq_getElem_cons hil]
    have e1:i64 (isub 9000 acc)=9000 - acc:=zO (by show -9223372036854775808≤9000 - acc;omega) (by show 9000 - acc≤9223372036854775807;omega)
    by_cases hx:9000 - acc < (q[i].length:Int)
    ·refine .inl ⟨qc2 ?_,by rw [qIh,if_pos hx]⟩
     subst hf
     refine (qE (by simp (disch:=first | assumption | omega | (dsimp only;omega) | decide) only [go_sem,Int.reduceToNat];omega)).trans ((qH (by simp (disch:=first | assumption | omega | (dsimp only;omega) | decide) only [go_sem,Int.reduceToNat];omega)).trans ?_)
     dsimp only
     rw [e1,qR,qL hil]
     exact (qE (lt_t hx)).trans rfl
    ·have e2:i64 (iadd acc (len q[i]))=acc+(q[i].length:Int):=zO (by show -9223372036854775808≤acc+(q[i].length:Int);omega) (by show acc+(q[i].length:Int)≤9223372036854775807;omega)
     have hst:f (0,acc,(i:Int),())=some (.nx (0,acc+(q[i].length:Int),((i+1:Nat):Int),())):=by
      subst hf
      refine (qE (by simp (disch:=first | assumption | omega | (dsimp only;omega) | decide) only [go_sem,Int.reduceToNat];omega)).trans ((qH (by simp (disch:=first | assumption | omega | (dsimp only;omega) | decide) only [go_sem,Int.reduceToNat];omega)).trans ?_)
      dsimp only
      rw [e1,qR,qL hil,e2,hi']
      refine (qB (lt_f hx)).trans ?_
      exact qH (by simp (disch:=first | assumption | omega | (dsimp only;omega) | decide) only [go_sem,Int.reduceToNat];omega)
     rw [x3 hst,qIh,if_neg hx]
     exact ih (i+1) _ (by omega) (by omega) (by omega) (by omega)
  rcases key q.length 0 q.length (by omega) (Nat.zero_le _) (by omega) (by omega) with ⟨h1,h2⟩ | h1
  ·rw [List.drop_zero] at h2
   rw [h2]
   exact (qZ (show loop f (0,len q,0,())=_ from h1)).trans rfl
  ·rw [List.drop_zero] at h1
   refine (qZ (show loop f (0,len q,0,())=_ from h1)).trans ?_
   exact qH g62
structure fewE (e:En'):Prop where
 store:e.store.1.length≤100∧e.store.2.1.length≤100
 ring:fewR e.ring
 hub:fewH e.hub
 key:e.key.length≤100
 ask:e.ask.2.2.2.2.1.length≤1000
 queue:qJ8 e.queue≤9000
 out:e.out.length≤20
 got:e.got.length≤40
 outs:∀ x∈e.out,x.2.1.length≤1100
 gots:∀ x∈e.got,x.2.2.2.1.length≤1000
theorem qu9 (e:En'):qgW (e.t,())=some (D (fewE e),()):=by
 unfold qgW
 dsimp only
 rw [show e.t.2.2.2.1=e.store from rfl,show e.t.2.2.2.2.2.2.2.2.2.2.1=e.ring from rfl,show e.t.2.2.2.2.2.2.2.2.2.2.2.2.2.2.2.1=e.hub from rfl,show e.t.2.1=e.key from rfl,show e.t.2.2.2.2.2.2.2.2.2.2.2.1=e.ask from rfl,show e.t.2.2.2.2.2.2.2.2.2.2.2.2.2.2.1=e.queue from rfl,show e.t.2.2.2.2.2.2.2.2.2.2.2.2.2.2.2.2.1=e.out from rfl,show e.t.2.2.2.2.2.2.2.2.2.2.2.2.2.2.2.2.2.1=e.got from rfl]
 rw [qvB]
 refine (qF rfl).trans ?_
 rw [qvD]
 refine (qF rfl).trans ?_
 rw [qvE]
 refine (qF rfl).trans ?_
 dsimp only
 rw [qsJ]
 by_cases h:(e.store.1.length≤100∧e.store.2.1.length≤100)∧fewR e.ring∧fewH e.hub∧e.key.length≤100∧e.ask.2.2.2.2.1.length≤1000∧qJ8 e.queue≤9000∧e.out.length≤20∧e.got.length≤40
 ·obtain ⟨a1,a2,a3,a4,a5,a6,a7,a8⟩:=h
  rw [D_t a1,D_t a2,D_t a3]
  refine (qF (a:=(false,())) (by simp (disch:=first | assumption | omega | (dsimp only;omega) | decide) only [go_sem,Int.reduceToNat];try exact v3 (by omega))).trans ((qB rfl).trans ?_)
  generalize hf:(fun (x_1:Bool×Int×Unit)=>sel (lt x_1.2.1 (len e.out)) _ _)=f
  generalize hg:(fun (x_1:Bool×Int×Unit)=>(_:Option (LS (Bool×Int×Unit) (Bool×Unit))))=g
  have k1:=qaR (f:=f) e.out (fun i=>(false,(i:Int),())) 0 ((false,()):Bool×Unit) (fun x=>x.2.1.length≤1100) (fun i hi hp => ?_) (fun i hi hp => ?_) ?_
  ·have k2:=qaR (f:=g) e.got (fun i=>(false,(i:Int),())) 2 ((false,()):Bool×Unit) (fun x=>x.2.2.2.1.length≤1000) (fun i hi hp => ?_) (fun i hi hp => ?_) ?_
   ·rcases k1 with ⟨h1,hl1⟩ | ⟨h1,hl1⟩
    ·refine (qZ (show loop f (false,0,())=_ from hl1)).trans ((qH g62).trans ?_)
     rcases k2 with ⟨h2,hl2⟩ | ⟨h2,hl2⟩
     ·refine (qZ (show loop g (false,0,())=_ from hl2)).trans ((qH g62).trans ?_)
      rw [D_t ⟨a1,a2,a3,a4,a5,a6,a7,a8,h1,h2⟩]
     ·refine (qZ (show loop g (false,0,())=_ from hl2)).trans ?_
      rw [D_f (fun r=>h2 r.gots)];rfl
    ·refine (qZ (show loop f (false,0,())=_ from hl1)).trans ?_
     rw [D_f (fun r=>h1 r.outs)];rfl
   ·subst hg
    have hi':i64 (iadd (i:Int) 1)=((i+1:Nat):Int):=i64n (by show (i:Int)+1=_;omega) (by omega)
    refine (qE (by simp (disch:=first | assumption | omega | (dsimp only;omega) | decide) only [go_sem,Int.reduceToNat];omega)).trans ((qH (by simp (disch:=first | assumption | omega | (dsimp only;omega) | decide) only [go_sem,Int.reduceToNat];omega)).trans ?_)
    dsimp only
    rw [qR,qL hi,hi']
    exact qB (by simp (disch:=first | assumption | omega | (dsimp only;omega) | decide) only [go_sem,Int.reduceToNat];omega)
   ·subst hg
    refine (qE (by simp (disch:=first | assumption | omega | (dsimp only;omega) | decide) only [go_sem,Int.reduceToNat];omega)).trans ((qH (by simp (disch:=first | assumption | omega | (dsimp only;omega) | decide) only [go_sem,Int.reduceToNat];omega)).trans ?_)
    dsimp only
    rw [qR,qL hi]
    exact qE (by simp (disch:=first | assumption | omega | (dsimp only;omega) | decide) only [go_sem,Int.reduceToNat];omega)
   ·subst hg;exact qB (by simp (disch:=first | assumption | omega | (dsimp only;omega) | decide) only [go_sem,Int.reduceToNat];omega)
  ·subst hf
   have hi':i64 (iadd (i:Int) 1)=((i+1:Nat):Int):=i64n (by show (i:Int)+1=_;omega) (by omega)
   refine (qE (by simp (disch:=first | assumption | omega | (dsimp only;omega) | decide) only [go_sem,Int.reduceToNat];omega)).trans ((qH (by simp (disch:=first | assumption | omega | (dsimp only;omega) | decide) only [go_sem,Int.reduceToNat];omega)).trans ?_)
   dsimp only
   rw [qR,qL hi,hi']
   exact qB (by simp (disch:=first | assumption | omega | (dsimp only;omega) | decide) only [go_sem,Int.reduceToNat];omega)
  ·subst hf
   refine (qE (by simp (disch:=first | assumption | omega | (dsimp only;omega) | decide) only [go_sem,Int.reduceToNat];omega)).trans ((qH (by simp (disch:=first | assumption | omega | (dsimp only;omega) | decide) only [go_sem,Int.reduceToNat];omega)).trans ?_)
   dsimp only
   rw [qR,qL hi]
   exact qE (by simp (disch:=first | assumption | omega | (dsimp only;omega) | decide) only [go_sem,Int.reduceToNat];omega)
  ·subst hf;exact qB (by simp (disch:=first | assumption | omega | (dsimp only;omega) | decide) only [go_sem,Int.reduceToNat];omega)
 ·rw [D_f (p:=fewE e) (fun r=>h ⟨r.store,r.ring,r.hub,r.key,r.ask,r.queue,r.out,r.got⟩)]
  refine (qF (a:=(true,())) ?_).trans rfl
  by_cases c1:e.store.1.length≤100∧e.store.2.1.length≤100
  ·rw [D_t c1]
   by_cases c2:fewR e.ring
   ·rw [D_t c2]
    by_cases c3:fewH e.hub
    ·rw [D_t c3]
     have c4:¬ (e.key.length≤100∧e.ask.2.2.2.2.1.length≤1000∧qJ8 e.queue≤9000∧e.out.length≤20∧e.got.length≤40):=fun c4=>h ⟨c1,c2,c3,c4⟩
     simp (disch:=first | assumption | omega | (dsimp only;omega) | decide) only [go_sem,Int.reduceToNat]
     try exact wM (by omega)
    ·rw [D_f c3];rfl
   ·rw [D_f c2];rfl
  ·rw [D_f c1];rfl
structure mayS (s:Si):Prop where
 few:fewE s.e
 prov:fewP s.p 40
 right:qMi s.e
structure qA4 (e:En'):Prop where
 win:e.win.2.1.length=16
 up:e.hub.1.length=4
 feed:e.hub.2.1.length=4
 life:e.hub.2.2.1.length=4
 cnt:e.cnt.length=4
theorem qu8 (s:Si) (hw:qA4 s.e):qlP (s.t,())=some (D (mayS s),()):=by
 unfold qlP
 dsimp only
 rw [show qgW (s.t.1,())=_ from qu9 s.e]
 refine (qF rfl).trans ?_
 rw [show qg1 (s.t.2.1,40,())=_ from qvG s.p 40 (by decide)]
 refine (qF rfl).trans ?_
 rw [show qbB (s.t.1,())=_ from qpX s.e hw.win]
 simp (disch:=first | assumption | omega | (dsimp only;omega) | decide) only [go_sem,Int.reduceToNat]
 exact zH ⟨fun h=>⟨h.1,h.2.1,h.2.2⟩,fun h=>⟨h.few,h.prov,h.right⟩⟩
theorem qNg {s:Si} (hw:qA4 s.e) (h:mayS s):okS 50 s:=by
 have hr:=h.right
 have hf:=h.few
 refine ⟨⟨by have:=hr.id;omega,by have:=hr.key;omega,hr.ph,hr.store,hr.own,hr.oth,hr.seq,hr.ring,hw.up,⟨hr.hub.2.1,hr.hub.2.2⟩,by have:=hf.out;omega,by have:=hf.got;omega,hw.cnt,hw.win,hw.feed,hw.life,by have:=hr.queue.1;omega⟩, ?_⟩
 have:=h.prov.1
 omega
end Yp
namespace Yp
open Go
set_option maxRecDepth 100000
set_option maxHeartbeats 2000000
theorem vX (a:Int):beq a a=true:=qaD rfl
theorem qk7 (a:BB):seq a a=true:=qMS rfl
theorem qJj (q:List BB) (hq:q.length≤1000000):qi5 (q,q,())=some (true,()):=by
 unfold qi5
 dsimp only
 rw [vX]
 refine (qB rfl).trans ?_
 generalize hf:(fun (x_1:Bool×Int×Unit)=>(_:Option (LS (Bool×Int×Unit) (Bool×Unit))))=f
 have step:∀ i:Nat,i < q.length→f (false,(i:Int),())=some (.nx (false,((i+1:Nat):Int),())):=by
  intro i hi
  subst hf
  have hi':i64 (iadd (i:Int) 1)=((i+1:Nat):Int):=i64n (by show (i:Int)+1=_;omega) (by omega)
  refine (qE (by simp (disch:=first | assumption | omega | (dsimp only;omega) | decide) only [go_sem,Int.reduceToNat];omega)).trans ((qH (by simp (disch:=first | assumption | omega | (dsimp only;omega) | decide) only [go_sem,Int.reduceToNat];omega)).trans ((qH (by simp (disch:=first | assumption | omega | (dsimp only;omega) | decide) only [go_sem,Int.reduceToNat];omega)).trans ?_))
  dsimp only
  rw [hi',qk7];rfl
 have hend:f (false,(q.length:Int),())=some (.ex 0 (false,(q.length:Int),())):=by subst hf;exact qB (by simp (disch:=first | assumption | omega | (dsimp only;omega) | decide) only [go_sem,Int.reduceToNat];omega)
 have hloop:=(qN (f:=f) (fun i=>(false,(i:Int),())) q.length step 0 (Nat.zero_le _)).trans (qT hend)
 exact (qZ (show loop f (false,0,())=_ from hloop)).trans (qH g62)
theorem qI8 (q:List qOg) (hq:q.length≤1000000):qiK (q,q,())=some (true,()):=by
 unfold qiK
 dsimp only
 rw [vX]
 refine (qB rfl).trans ?_
 generalize hf:(fun (x_1:Bool×Int×Unit)=>(_:Option (LS (Bool×Int×Unit) (Bool×Unit))))=f
 have step:∀ i:Nat,i < q.length→f (false,(i:Int),())=some (.nx (false,((i+1:Nat):Int),())):=by
  intro i hi
  subst hf
  have hi':i64 (iadd (i:Int) 1)=((i+1:Nat):Int):=i64n (by show (i:Int)+1=_;omega) (by omega)
  have hc:inB (i:Int) (len q)=true:=by simp (disch:=first | assumption | omega | (dsimp only;omega) | decide) only [go_sem,Int.reduceToNat];omega
  refine (qE (by simp (disch:=first | assumption | omega | (dsimp only;omega) | decide) only [go_sem,Int.reduceToNat];omega)).trans ((qH hc).trans ((qH hc).trans ?_))
  dsimp only
  rw [hi',vX,hc]
  refine (qF (a:=(false,())) ((qB rfl).trans ((qH rfl).trans ((qH rfl).trans ?_)))).trans rfl
  rw [zA,qk7];rfl
 have hend:f (false,(q.length:Int),())=some (.ex 0 (false,(q.length:Int),())):=by subst hf;exact qB (by simp (disch:=first | assumption | omega | (dsimp only;omega) | decide) only [go_sem,Int.reduceToNat];omega)
 have hloop:=(qN (f:=f) (fun i=>(false,(i:Int),())) q.length step 0 (Nat.zero_le _)).trans (qT hend)
 exact (qZ (show loop f (false,0,())=_ from hloop)).trans (qH g62)
theorem qFM (q:List EvT) (hq:q.length≤1000000):qcC (q,q,())=some (true,()):=by
 unfold qcC
 dsimp only
 rw [vX]
 refine (qB rfl).trans ?_
 generalize hf:(fun (x_1:Bool×Int×Unit)=>(_:Option (LS (Bool×Int×Unit) (Bool×Unit))))=f
 have step:∀ i:Nat,i < q.length→f (false,(i:Int),())=some (.nx (false,((i+1:Nat):Int),())):=by
  intro i hi
  subst hf
  have hi':i64 (iadd (i:Int) 1)=((i+1:Nat):Int):=i64n (by show (i:Int)+1=_;omega) (by omega)
  have hc:inB (i:Int) (len q)=true:=by simp (disch:=first | assumption | omega | (dsimp only;omega) | decide) only [go_sem,Int.reduceToNat];omega
  refine (qE (by simp (disch:=first | assumption | omega | (dsimp only;omega) | decide) only [go_sem,Int.reduceToNat];omega)).trans ((qH hc).trans ((qH hc).trans ?_))
  dsimp only
  rw [hi',hc]
  generalize nth q (nat (i:Int)) (0,[0,0],0,none' UInt8,())=e
  rw [vX,vX,vX,vX,zA,qk7]
  rfl
 have hend:f (false,(q.length:Int),())=some (.ex 0 (false,(q.length:Int),())):=by subst hf;exact qB (by simp (disch:=first | assumption | omega | (dsimp only;omega) | decide) only [go_sem,Int.reduceToNat];omega)
 have hloop:=(qN (f:=f) (fun i=>(false,(i:Int),())) q.length step 0 (Nat.zero_le _)).trans (qT hend)
 exact (qZ (show loop f (false,0,())=_ from hloop)).trans (qH g62)
theorem qD6:∀ l:List UInt64,all2 (fun (p q:UInt64)=>beq (n64 p) (n64 q)) l l=true
 | []=>rfl
 | a :: l=>by
  have ih:=qD6 l
  unfold all2 at ih ⊢
  rw [List.zip_cons_cons,List.all_cons,ih,Bool.and_true]
  exact vX _
theorem qxD:∀ l:List Int,all2 (fun (p q:Int)=>beq p q) l l=true
 | []=>rfl
 | a :: l=>by
  have ih:=qxD l
  unfold all2 at ih ⊢
  rw [List.zip_cons_cons,List.all_cons,ih,Bool.and_true]
  exact vX _
theorem qJa {n:Nat} {e:En'} (h:okE n e) (hn:n≤1000000):qdR (e.t,e.t,())=some (true,()):=by
 unfold qdR
 dsimp only
 rw [qr4]
 refine (qF rfl).trans ?_
 rw [qr6]
 refine (qF rfl).trans ?_
 rw [qr2]
 refine (qF rfl).trans ?_
 have hq:=h.queue
 have ho:=h.out
 have hg:=h.got
 rw [show e.t.2.2.2.2.2.2.2.2.2.2.2.2.2.2.1=e.queue from rfl,qJj e.queue (by omega)]
 refine (qF rfl).trans ?_
 rw [show e.t.2.2.2.2.2.2.2.2.2.2.2.2.2.2.2.1=e.hub from rfl,qzR e.hub h.up h.feed h.life]
 refine (qF rfl).trans ?_
 rw [show e.t.2.2.2.2.2.2.2.2.2.2.2.2.2.2.2.2.1=e.out from rfl,qI8 e.out (by omega)]
 refine (qF rfl).trans ?_
 rw [show e.t.2.2.2.2.2.2.2.2.2.2.2.2.2.2.2.2.2.1=e.got from rfl,qFM e.got (by omega)]
 refine (qF rfl).trans ?_
 dsimp only
 rw [zA,qk7,qD6,qxD]
 simp only [vX]
 rfl
theorem qA3 {n:Nat} {s:Si} (h:okS n s) (hn:n≤1000000):vN (s.t,s.t,())=some (true,()):=by
 unfold vN
 dsimp only
 rw [show qdR (s.t.1,s.t.1,())=_ from qJa h.e hn]
 refine (qF rfl).trans ?_
 have hp:=h.p
 rw [show qdY (s.t.2.1,s.t.2.1,())=_ from qsG s.p (by omega)]
 rfl
theorem qC2 {n:Nat} {s:Si} (h:okS n s):okS n (qtC s):=by
 unfold qtC
 split
 ·exact qhA h (qkC h.e.ring)
 ·exact h
theorem qJZ {n:Nat} {s:Si} (h:okS n s) (nonce:BB):okS (n+1) (newK s nonce).1:=by
 unfold newK
 repeat' split
 all_goals first | exact wH h (by omega) | exact qCz (ql1 h _ _) _
theorem qNi {n:Nat} {s:Si} (h:okS n s) (q:xA):okS (n+1) (offK s q):=by
 unfold offK
 repeat' split
 all_goals first | exact wH (qCA h 3) (by omega) | exact qqP h _ | exact qqP (qhA h (kC (qkC h.e.ring) _ _)) _ | exact qqP (qsS h (kC h.e.ring _ _)) _
theorem qOb {n:Nat} {s:Si} (h:okS n s) (q:xA):okS (n+1) (ansK s q):=by
 unfold ansK
 repeat' split
 all_goals first | exact wH (qCA h 3) (by omega) | exact wH (qC2 h) (by omega) | exact qCz (qhA h (qrV h.e.ring)) _
theorem qnZ (hsh:qbX ()=some (true,())) (s:Si) (hw:qA4 s.e) (nonce:BB):xQ (s.t,nonce,())=some (true,()):=by
 unfold xQ
 rw [hsh]
 refine (qF rfl).trans ?_
 dsimp only
 rw [qu8 s hw]
 refine (qF rfl).trans ?_
 by_cases hm:mayS s∧nonce.length≤20
 ·rw [D_t hm.1]
  refine (qF (a:=(false,())) ((qB rfl).trans (by rw [lt_f (show ¬ (20:Int) < len nonce by have:=hm.2;simp (disch:=first | assumption | omega | (dsimp only;omega) | decide) only [go_sem,Int.reduceToNat];omega)]))).trans ((qB rfl).trans ?_)
  have hok:=qNg hw hm.1
  rw [qcU hok (by omega),qu7 hok (by omega)]
  refine (qF rfl).trans ((qF rfl).trans ?_)
  dsimp only
  rw [qA3 (qJZ hok nonce) (by omega),vX,wX,qpU]
  refine (qF (a:=(true,())) ((qE rfl).trans ((qF rfl).trans ((qE rfl).trans ((qE rfl).trans ((qF rfl).trans ((qF rfl).trans ?_))))))).trans rfl
  dsimp only
  rw [qA3 (qC2 hok) (by omega)];rfl
 ·refine (qF (a:=(true,())) ?_).trans rfl
  by_cases h1:mayS s
  ·rw [D_t h1]
   have h2:¬ nonce.length≤20:=fun h2=>hm ⟨h1,h2⟩
   exact (qB rfl).trans (by rw [lt_t (show (20:Int) < len nonce by simp (disch:=first | assumption | omega | (dsimp only;omega) | decide) only [go_sem,Int.reduceToNat];omega)])
  ·rw [D_f h1];rfl
end Yp
namespace Yp
open Go
set_option maxRecDepth 100000
set_option maxHeartbeats 2000000
theorem qwF {A B C:BB} {a w:Nat} (hA:A.length=a) (hB:B.length=w):tk (A++(B++C)) a w=B:=by
 unfold tk
 rw [← hA,List.drop_left,← hB,List.take_left]
theorem qHT {b:BB} {A W:Nat} {n:Int} (hW1:1≤W) (hW:W≤8) (hl:A+W≤b.length) (h0:0≤n) (hn:n < 256 ^ W) (hL:n≤4611686018427387904) (ht:tk b A W=bigN W n):qj4 b (A:Int) (W:Int)=(n,((A+W:Nat):Int),0,()):=by
 have hv:bev (tk b A W)=n.toNat:=by
  rw [ht];unfold bigN
  rw [qPx,Nat.mod_eq_of_lt]
  have:((n.toNat:Nat):Int) < ((256 ^ W:Nat):Int):=by rw [Int.toNat_of_nonneg h0];push_cast;exact hn
  exact Int.ofNat_lt.1 this
 unfold qj4
 rw [if_neg (by omega),if_neg (by omega),if_neg]
 ·rw [Int.toNat_natCast,Int.toNat_natCast,hv]
  refine Prod.ext (by dsimp only;omega) (Prod.ext (by dsimp only;omega) rfl)
 ·rintro ⟨h8,h127⟩
  have hW8:W=8:=by omega
  subst hW8
  rw [Int.toNat_natCast] at h127
  have hg:nth b A (u8 0)=(bigN 8 n)[0]'(by rw [qP];omega):=by
   have h1:0 < (tk b A 8).length:=by rw [kR hl];omega
   have h2:(tk b A 8)[0]=b[A]:=qGJ h1 (by omega)
   rw [qL (by omega:A < b.length)]
   rw [← h2];simp only [ht]
  rw [hg] at h127
  unfold bigN at h127
  rw [qG5] at h127
  unfold byt at h127
  have hq:n.toNat / 256 ^ 7 % 256≤127:=by
   have:n.toNat≤4611686018427387904:=by omega
   have e:256 ^ 7=72057594037927936:=by decide
   rw [e];omega
  rw [show 8 - 1 - 0=7 from rfl,UInt8.toNat_ofNat_of_lt' (by show _ < 256;omega)] at h127
  omega
def tkI (b:BB) (a w:Int):Int:=if (qj4 b a w).2.2.1=0 then (qj4 b a w).1 else -1
theorem j3 (b:BB) (a w:Int) (hb:b.length≤1000000):vB (b,a,w,())=some (tkI b a w,()):=by
 unfold vB tkI
 dsimp only
 rw [ql0 _ _ _ hb]
 refine (qF rfl).trans ?_
 by_cases h:(qj4 b a w).2.2.1=0
 ·rw [if_pos h];exact qB (bq_f h)
 ·rw [if_neg h];exact qE (bq_t h)
def noV:TEnv:=(0,0,[0,0],0,0,[],[],())
def rdV0 (b:BB):TEnv:=(tkI b 0 1,tkI b 1 1,[tkI b 2 8,tkI b 10 8],tkI b 18 4,tkI b 22 8,(b.drop 30).take (b.length - 46),b.drop (b.length - 16),())
instance (v:TEnv):Decidable (qcG v):=by unfold qcG;infer_instance
instance (v:TEnv):Decidable (qjP v):=by unfold qjP;infer_instance
def rdV (b:BB):TEnv×Int×Unit:=if b.length < 47 then (noV,3,()) else if 946 < b.length then (noV,4,()) else if qjP (rdV0 b) then (rdV0 b,0,()) else (noV,2,())
theorem qr5 (b:BB) (hb:b.length≤1000000):qiS (b,())=some (rdV b):=by
 unfold qiS rdV
 dsimp only
 by_cases h1:b.length < 47
 ·rw [if_pos h1];exact qE (by simp (disch:=first | assumption | omega | (dsimp only;omega) | decide) only [go_sem,Int.reduceToNat];omega)
 ·rw [if_neg h1]
  refine (qB (by simp (disch:=first | assumption | omega | (dsimp only;omega) | decide) only [go_sem,Int.reduceToNat];omega)).trans ?_
  by_cases h2:946 < b.length
  ·rw [if_pos h2];exact qE (by simp (disch:=first | assumption | omega | (dsimp only;omega) | decide) only [go_sem,Int.reduceToNat];omega)
  ·rw [if_neg h2]
   refine (qB (by simp (disch:=first | assumption | omega | (dsimp only;omega) | decide) only [go_sem,Int.reduceToNat];omega)).trans ?_
   rw [j3 _ _ _ hb]
   refine (qF rfl).trans ?_
   rw [j3 _ _ _ hb]
   refine (qF rfl).trans ?_
   rw [j3 _ _ _ hb]
   refine (qF rfl).trans ?_
   rw [j3 _ _ _ hb]
   refine (qF rfl).trans ?_
   rw [j3 _ _ _ hb]
   refine (qF rfl).trans ?_
   rw [j3 _ _ _ hb]
   refine (qF rfl).trans ?_
   have e:i64 (isub (len b) 16)=((b.length - 16:Nat):Int):=i64n (by show (b.length:Int) - 16=_;omega) (by omega)
   rw [e]
   refine (qH (by simp (disch:=first | assumption | omega | (dsimp only;omega) | decide) only [go_sem,Int.reduceToNat];omega)).trans ((qH (by simp (disch:=first | assumption | omega | (dsimp only;omega) | decide) only [go_sem,Int.reduceToNat];omega)).trans ?_)
   dsimp only
   have s1:sub b 30 ((b.length - 16:Nat):Int)=(b.drop 30).take (b.length - 46):=by
    unfold sub
    rw [show (30:Int).toNat=30 from rfl,Int.toNat_natCast];congr 1
   have s2:sub b ((b.length - 16:Nat):Int) (len b)=b.drop (b.length - 16):=by
    unfold sub
    rw [Int.toNat_natCast,List.take_of_length_le]
    rw [List.length_drop];show _≤(b.length:Int).toNat - _;omega
   rw [s1,s2,show yU ((tkI b 0 1,tkI b 1 1,[tkI b 2 8,tkI b 10 8],tkI b 18 4,tkI b 22 8,(b.drop 30).take (b.length - 46),b.drop (b.length - 16),()),())=_ from qf9 (rdV0 b)]
   refine (qF rfl).trans ?_
   by_cases h:qjP (rdV0 b)
   ·rw [D_t h,if_pos h];rfl
   ·rw [D_f h,if_neg h];rfl
theorem qwG {b:BB} {A W:Nat} {n:Int} (hW1:1≤W) (hW:W≤8) (hl:A+W≤b.length) (h0:0≤n) (hn:n < 256 ^ W) (hL:n≤4611686018427387904) (ht:tk b A W=bigN W n):tkI b (A:Int) (W:Int)=n:=by
 unfold tkI
 rw [qHT hW1 hW hl h0 hn hL ht,if_pos rfl]
theorem qJz {v:TEnv} {t:BB} (hv:qcG v) (he:v.2.2.1=[e0 v,e1 v]) (ht:t.length=16):rdV (qV v++t)=(vY v t,0,()):=by
 have hlen:(qV v++t).length=46+v.2.2.2.2.2.1.length:=by rw [List.length_append,jR,ht];omega
 have hbody:=hv.2.2.2.2.2.2
 obtain ⟨h1,h2,h3,h4,h5,h6,h7,h8⟩:=hv
 have l1:=qP 1 v.1
 have l2:=qP 1 v.2.1
 have l3:=qP 8 (e0 v)
 have l4:=qP 8 (e1 v)
 have l5:=qP 4 v.2.2.2.1
 have l6:=qP 8 v.2.2.2.2.1
 have n2:=h2.2
 have n3:=h3.2
 have n4:=h4.2
 obtain ⟨rest,hrest⟩:∃ rest,rest=v.2.2.2.2.2.1++t:=⟨_,rfl⟩
 have hE:qV v++t=bigN 1 v.1++(bigN 1 v.2.1++(bigN 8 (e0 v)++(bigN 8 (e1 v)++(bigN 4 v.2.2.2.1++(bigN 8 v.2.2.2.2.1++rest))))):=by unfold qV;rw [hrest];simp only [List.append_assoc]
 have t1:tk (qV v++t) 0 1=bigN 1 v.1:=by rw [hE];exact qwF (A:=[]) rfl l1
 have t2:tk (qV v++t) 1 1=bigN 1 v.2.1:=by rw [hE];exact qwF l1 l2
 have t3:tk (qV v++t) 2 8=bigN 8 (e0 v):=by rw [hE,← List.append_assoc];exact qwF (by rw [List.length_append,l1,l2]) l3
 have t4:tk (qV v++t) 10 8=bigN 8 (e1 v):=by rw [hE,← List.append_assoc,← List.append_assoc];exact qwF (by simp only [List.length_append,l1,l2,l3]) l4
 have t5:tk (qV v++t) 18 4=bigN 4 v.2.2.2.1:=by rw [hE,← List.append_assoc,← List.append_assoc,← List.append_assoc];exact qwF (by simp only [List.length_append,l1,l2,l3,l4]) l5
 have t6:tk (qV v++t) 22 8=bigN 8 v.2.2.2.2.1:=by rw [hE,← List.append_assoc,← List.append_assoc,← List.append_assoc,← List.append_assoc];exact qwF (by simp only [List.length_append,l1,l2,l3,l4,l5]) l6
 have hz:rdV0 (qV v++t)=vY v t:=by
  unfold rdV0 vY
  have q1:tkI (qV v++t) 0 1=v.1:=qwG (A:=0) (W:=1) (by omega) (by omega) (by omega) (by omega) (by omega) (by omega) t1
  have q2:tkI (qV v++t) 1 1=v.2.1:=qwG (A:=1) (W:=1) (by omega) (by omega) (by omega) (by omega) (by omega) (by omega) t2
  have q3:tkI (qV v++t) 2 8=e0 v:=qwG (A:=2) (W:=8) (by omega) (by omega) (by omega) h2.1 (by omega) n2 t3
  have q4:tkI (qV v++t) 10 8=e1 v:=qwG (A:=10) (W:=8) (by omega) (by omega) (by omega) h3.1 (by omega) n3 t4
  have q5:tkI (qV v++t) 18 4=v.2.2.2.1:=qwG (A:=18) (W:=4) (by omega) (by omega) (by omega) h6.1 (by omega) (by omega) t5
  have q6:tkI (qV v++t) 22 8=v.2.2.2.2.1:=qwG (A:=22) (W:=8) (by omega) (by omega) (by omega) h4.1 (by omega) n4 t6
  have hpre:(bigN 1 v.1++bigN 1 v.2.1++bigN 8 (e0 v)++bigN 8 (e1 v)++bigN 4 v.2.2.2.1++bigN 8 v.2.2.2.2.1).length=30:=by simp only [List.length_append,l1,l2,l3,l4,l5,l6]
  have q7:((qV v++t).drop 30).take ((qV v++t).length - 46)=v.2.2.2.2.2.1:=by
   rw [hlen]
   unfold qV
   rw [List.append_assoc,← hpre,List.drop_left,Nat.add_sub_cancel_left,List.take_left]
  have q8:(qV v++t).drop ((qV v++t).length - 16)=t:=by
   rw [hlen,show 46+v.2.2.2.2.2.1.length - 16=(qV v).length by rw [jR];omega,List.drop_left]
  rw [q1,q2,q3,q4,q5,q6,q7,q8,← he]
 unfold rdV
 rw [if_neg (by omega),if_neg (by omega),hz,if_pos]
 exact ⟨⟨h1,h2,h3,h4,h5,h6,h7,h8⟩,ht⟩
end Yp
namespace Yp
open Go
set_option maxRecDepth 100000
set_option maxHeartbeats 2000000
theorem qMn {a:Int} (h:0≤a):n8 (u8 a)=a % 256:=by
 show (((BitVec.ofNat 8 ((a % 2 ^ 8).toNat)).toNat:Nat):Int)=a % 256
 rw [BitVec.toNat_ofNat];omega
theorem qNJ (x:BB) (hx:x.length≤1024):256*n8 (u8 (shrI .i64 (len x) (n64 (u64 8))))+n8 (u8 (len x))=(x.length:Int):=by
 have a2:shrI .i64 (len x) (n64 (u64 8))=((x.length / 256:Nat):Int):=by show Int.fdiv (x.length:Int) (2 ^ 8)=_;rw [Int.fdiv_eq_ediv_of_nonneg _ (by decide)];omega
 rw [a2,qMn (by omega),qMn (by show (0:Int)≤(x.length:Int);omega)]
 show 256*(((x.length / 256:Nat):Int) % 256)+(x.length:Int) % 256=_
 omega
theorem qNe {b:BB} {n:Nat} {c:UInt8} (hb1:b.length≤2000) (hn:1≤n∧n≤1024) (hl:b.length+1 < n+2) (hnum:2≤b.length+1→256*n8 (nth (b++[c]) 0 (u8 0))+n8 (nth (b++[c]) 1 (u8 0))=(n:Int)):qdW ((b,0,0,()),c,())=some ((b++[c],0,0,()),[],()):=by
 unfold qdW
 refine (qB rfl).trans ?_
 dsimp only
 rw [show app (app (none' UInt8) b) [c]=b++[c] from rfl,show app (none' UInt8) b=b from rfl]
 refine (qH (by simp (disch:=first | assumption | omega | (dsimp only;omega) | decide) only [go_sem,Int.reduceToNat];omega)).trans ((qH (by simp (disch:=first | assumption | omega | (dsimp only;omega) | decide) only [go_sem,Int.reduceToNat];simp;omega)).trans ?_)
 have hlen:(b++[c]).length=b.length+1:=by simp
 by_cases h2:b.length+1 < 2
 ·exact qE (by simp (disch:=first | assumption | omega | (dsimp only;omega) | decide) only [go_sem,Int.reduceToNat];omega)
 ·refine (qB (by simp (disch:=first | assumption | omega | (dsimp only;omega) | decide) only [go_sem,Int.reduceToNat];omega)).trans ?_
  refine (qH (by simp (disch:=first | assumption | omega | (dsimp only;omega) | decide) only [go_sem,Int.reduceToNat];omega)).trans ((qH (by simp (disch:=first | assumption | omega | (dsimp only;omega) | decide) only [go_sem,Int.reduceToNat];omega)).trans ?_)
  have hnum:=hnum (by omega)
  rw [show nat 0=0 from rfl,show nat 1=1 from rfl]
  have hx:=qwT (nth (b++[c]) 0 (u8 0))
  have hy:=qwT (nth (b++[c]) 1 (u8 0))
  generalize n8 (nth (b++[c]) 0 (u8 0))=x at hx hnum
  generalize n8 (nth (b++[c]) 1 (u8 0))=y at hy hnum
  have e:i64 (iadd (i64 (imul 256 (i64 x))) (i64 y))=(n:Int):=by
   rw [show i64 x=x from zO (by omega) (by omega),show i64 y=y from zO (by omega) (by omega),show i64 (imul 256 x)=256*x from zO (by show -9223372036854775808≤256*x;omega) (by show 256*x≤9223372036854775807;omega)]
   rw [← hnum]
   exact zO (by show -9223372036854775808≤256*x+y;omega) (by show 256*x+y≤9223372036854775807;omega)
  rw [e,show i64 (iadd (n:Int) 2)=((n+2:Nat):Int) from i64n (by show (n:Int)+2=_;omega) (by omega)]
  refine (qF (a:=(false,())) ((qB (wD (by omega))).trans (by rw [lt_f (by omega)]))).trans ((qB rfl).trans ?_)
  exact qE (by simp (disch:=first | assumption | omega | (dsimp only;omega) | decide) only [go_sem,Int.reduceToNat];omega)
theorem qNf {b:BB} {n:Nat} {c:UInt8} (hn:1≤n∧n≤1024) (hl:b.length+1=n+2) (hnum:256*n8 (nth (b++[c]) 0 (u8 0))+n8 (nth (b++[c]) 1 (u8 0))=(n:Int)):qdW ((b,0,0,()),c,())=some (noF,(b++[c]).drop 2,()):=by
 unfold qdW
 refine (qB rfl).trans ?_
 dsimp only
 rw [show app (app (none' UInt8) b) [c]=b++[c] from rfl,show app (none' UInt8) b=b from rfl]
 refine (qH (by simp (disch:=first | assumption | omega | (dsimp only;omega) | decide) only [go_sem,Int.reduceToNat];omega)).trans ((qH (by simp (disch:=first | assumption | omega | (dsimp only;omega) | decide) only [go_sem,Int.reduceToNat];simp;omega)).trans ?_)
 have hlen:(b++[c]).length=b.length+1:=by simp
 refine (qB (by simp (disch:=first | assumption | omega | (dsimp only;omega) | decide) only [go_sem,Int.reduceToNat];omega)).trans ?_
 refine (qH (by simp (disch:=first | assumption | omega | (dsimp only;omega) | decide) only [go_sem,Int.reduceToNat];omega)).trans ((qH (by simp (disch:=first | assumption | omega | (dsimp only;omega) | decide) only [go_sem,Int.reduceToNat];omega)).trans ?_)
 rw [show nat 0=0 from rfl,show nat 1=1 from rfl]
 have hx:=qwT (nth (b++[c]) 0 (u8 0))
 have hy:=qwT (nth (b++[c]) 1 (u8 0))
 generalize n8 (nth (b++[c]) 0 (u8 0))=x at hx hnum
 generalize n8 (nth (b++[c]) 1 (u8 0))=y at hy hnum
 have e:i64 (iadd (i64 (imul 256 (i64 x))) (i64 y))=(n:Int):=by
  rw [show i64 x=x from zO (by omega) (by omega),show i64 y=y from zO (by omega) (by omega),show i64 (imul 256 x)=256*x from zO (by show -9223372036854775808≤256*x;omega) (by show 256*x≤9223372036854775807;omega)]
  rw [← hnum]
  exact zO (by show -9223372036854775808≤256*x+y;omega) (by show 256*x+y≤9223372036854775807;omega)
 rw [e,show i64 (iadd (n:Int) 2)=((n+2:Nat):Int) from i64n (by show (n:Int)+2=_;omega) (by omega)]
 refine (qF (a:=(false,())) ((qB (wD (by omega))).trans (by rw [lt_f (by omega)]))).trans ((qB rfl).trans ?_)
 refine (qB (by simp (disch:=first | assumption | omega | (dsimp only;omega) | decide) only [go_sem,Int.reduceToNat];omega)).trans ?_
 refine (qH (by simp (disch:=first | assumption | omega | (dsimp only;omega) | decide) only [go_sem,Int.reduceToNat];omega)).trans ?_
 have hc:cut (b++[c]) (nat 2) (nsub (nat (len (b++[c]))) (nat 2))=(b++[c]).drop 2:=by
  unfold cut
  rw [show nat 2=2 from rfl,List.take_of_length_le (by rw [List.length_drop];show _≤((b++[c]).length:Int).toNat - 2;omega)]
 rw [hc];rfl
theorem qKq (x:BB) (hx:1≤x.length∧x.length≤1024):qiJ (vK x,())=some (x,()):=by
 unfold qiJ qnS
 dsimp only
 generalize hf:(fun (x_1:List BB×Int×FT×Unit)=>(_:Option (LS (List BB×Int×FT×Unit) (FT×List BB×Unit))))=f
 have hl:(vK x).length=x.length+2:=qoT x
 have hnum:∀ i,2≤i→256*n8 (nth ((vK x).take i) 0 (u8 0))+n8 (nth ((vK x).take i) 1 (u8 0))=(x.length:Int):=by
  intro i hi
  obtain ⟨j,rfl⟩:∃ j,i=j+2:=⟨i - 2,by omega⟩
  rw [← qNJ x hx.2];rfl
 have tk1:∀ i (h:i < (vK x).length),(vK x).take i++[nth (vK x) (nat (i:Int)) (u8 0)]=(vK x).take (i+1):=fun i h=>by rw [qR,qL h,List.take_succ_eq_append_getElem h]
 have step:∀ i:Nat,i < x.length+1→f ([],(i:Int),((vK x).take i,0,0,()),())=some (.nx ([],((i+1:Nat):Int),((vK x).take (i+1),0,0,()),())):=by
  intro i hi
  subst hf
  have hi':i64 (iadd (i:Int) 1)=((i+1:Nat):Int):=i64n (by show (i:Int)+1=_;omega) (by omega)
  have htl:((vK x).take i).length=i:=by rw [List.length_take];omega
  refine (qE (by simp (disch:=first | assumption | omega | (dsimp only;omega) | decide) only [go_sem,Int.reduceToNat];omega)).trans ((qH (by simp (disch:=first | assumption | omega | (dsimp only;omega) | decide) only [go_sem,Int.reduceToNat];omega)).trans ?_)
  dsimp only
  rw [qNe (n:=x.length) (by omega) hx (by omega) (fun h=>by rw [tk1 i (by omega)];exact hnum _ (by omega)),tk1 i (by omega),hi']
  rfl
 have hlast:f ([],((x.length+1:Nat):Int),((vK x).take (x.length+1),0,0,()),())=some (.nx ([x],((x.length+2:Nat):Int),noF,())):=by
  subst hf
  have hi':i64 (iadd ((x.length+1:Nat):Int) 1)=((x.length+2:Nat):Int):=i64n (by show ((x.length+1:Nat):Int)+1=_;omega) (by omega)
  have htl:((vK x).take (x.length+1)).length=x.length+1:=by rw [List.length_take];omega
  refine (qE (by simp (disch:=first | assumption | omega | (dsimp only;omega) | decide) only [go_sem,Int.reduceToNat];omega)).trans ((qH (by simp (disch:=first | assumption | omega | (dsimp only;omega) | decide) only [go_sem,Int.reduceToNat];omega)).trans ?_)
  dsimp only
  rw [qNf (n:=x.length) hx (by omega) (by rw [tk1 _ (by omega)];exact hnum _ (by omega)),tk1 _ (by omega),hi',List.take_of_length_le (by omega)]
  rw [show (vK x).drop 2=x from rfl]
  refine (qF rfl).trans ((qE (by simp (disch:=first | assumption | omega | (dsimp only;omega) | decide) only [go_sem,Int.reduceToNat];omega)).trans ((qH (by simp (disch:=first | assumption | omega | (dsimp only;omega) | decide) only [go_sem,Int.reduceToNat];simp)).trans ?_))
  rfl
 have hend:f ([x],((x.length+2:Nat):Int),noF,())=some (.ex 0 ([x],((x.length+2:Nat):Int),noF,())):=by subst hf;exact qB (by simp (disch:=first | assumption | omega | (dsimp only;omega) | decide) only [go_sem,Int.reduceToNat];omega)
 have hloop:=(qN (f:=f) (fun i=>([],(i:Int),((vK x).take i,0,0,()),())) (x.length+1) step 0 (Nat.zero_le _)).trans ((x3 hlast).trans (qT hend))
 refine (qfH (qZ (show loop f (none' BB,0,(none' UInt8,0,0,()),())=_ from hloop))).trans ?_
 rfl
theorem qs0 {σ ρ:Type} {f:σ→Option (LS σ ρ)} (P:Nat→σ→Prop) (Q:σ→Prop) (n e:Nat) (hs:∀ i,i < n→∀ x,P i x→∃ y,f x=some (.nx y)∧P (i+1) y) (he:∀ x,P n x→∃ y,f x=some (.ex e y)∧Q y) {x:σ} (h0:P 0 x):∃ y,loop f x=some (.ex e y)∧Q y:=by
 have key:∀ k i x,i+k=n→P i x→∃ y,loop f x=some (.ex e y)∧Q y:=by
  intro k
  induction k with
  | zero =>
   intro i x hi hp
   have:i=n:=by omega
   subst this
   obtain ⟨y,h1,h2⟩:=he x hp
   exact ⟨y,qT h1,h2⟩
  | succ k ih =>
   intro i x hi hp
   obtain ⟨y,h1,h2⟩:=hs i (by omega) x hp
   rw [x3 h1]
   exact ih (i+1) y (by omega) h2
 exact key n 0 x (by omega) h0
theorem qHS (w:WT) (hw:w.2.1.length=16) (h0:0≤w.1) (hT:w.1≤1000000):∃ l:List Int,qe1 (w,())=some (l,())∧(∀ m∈l,0≤m∧m < w.1)∧l.length≤1000000:=by
 unfold qe1
 dsimp only
 obtain ⟨T,hT'⟩:∃ T:Nat,w.1=(T:Int):=⟨w.1.toNat,by omega⟩
 obtain ⟨a,ha⟩:∃ a:Nat,maxI 0 (i64 (isub w.1 1024))=(a:Int)∧a≤T:=by
  rw [show i64 (isub w.1 1024)=w.1 - 1024 from zO (by show -9223372036854775808≤w.1 - 1024;omega) (by show w.1 - 1024≤9223372036854775807;omega),g58]
  exact ⟨(max 0 (w.1 - 1024)).toNat,by omega,by omega⟩
 rw [ha.1]
 generalize hf:(fun (x_1:List Int×Int×Unit)=>(_:Option (LS (List Int×Int×Unit) (List Int×Unit))))=f
 have key:=qs0 (f:=f) (fun i x=>x.2.1=((a+i:Nat):Int)∧(∀ m∈x.1,0≤m∧m < w.1)∧x.1.length≤i) (fun x=>(∀ m∈x.1,0≤m∧m < w.1)∧x.1.length≤1000000) (T - a) 0 (fun i hi x hp => ?_) (fun x hp => ?_) (x:=(none' Int,(a:Int),())) ⟨rfl,fun m hm=>(List.not_mem_nil hm).elim,Nat.le_refl _⟩
 ·obtain ⟨⟨l,j,⟨⟩⟩,h1,h2,h3⟩:=key
  exact ⟨l,(qZ h1).trans (qH g62),h2,h3⟩
 ·subst hf
  obtain ⟨l,j,⟨⟩⟩:=x
  obtain ⟨p1,p2,p3⟩:=hp
  dsimp only at p1 p2 p3
  subst p1
  have hi':i64 (iadd ((a+i:Nat):Int) 1)=((a+(i+1):Nat):Int):=i64n (by show ((a+i:Nat):Int)+1=_;omega) (by omega)
  have hm:imod ((a+i:Nat):Int) 1024=(((a+i) % 1024:Nat):Int):=by rw [g32 (by omega)];omega
  have e1:∀ (A B:Option (LS (List Int×Int×Unit) (List Int×Unit))),sel (lt ((a+i:Nat):Int) w.1) A B=A:=fun A B=>qE (lt_t (by omega))
  dsimp only
  rw [e1,hm,wG w hw _ (by omega),hi']
  cases hb:bitW w ((a+i) % 1024)
  ·exact ⟨(l,((a+(i+1):Nat):Int),()),rfl,rfl,p2,by dsimp only;omega⟩
  ·refine ⟨(l++[((a+i:Nat):Int)],((a+(i+1):Nat):Int),()),(qF rfl).trans ((qE rfl).trans (qH (by simp (disch:=first | assumption | omega | (dsimp only;omega) | decide) only [go_sem,Int.reduceToNat];simp;omega))),rfl,fun m hm => ?_,by simp;omega⟩
   rcases List.mem_append.1 hm with h | h
   ·exact p2 m h
   ·rw [List.mem_singleton] at h;omega
 ·subst hf
  obtain ⟨l,j,⟨⟩⟩:=x
  obtain ⟨p1,p2,p3⟩:=hp
  dsimp only at p1 p2 p3
  refine ⟨(l,j,()),qB (lt_f (by dsimp only;omega)),p2,by dsimp only;omega⟩
theorem qIe (w:WT) (hw:w.2.1.length=16) (h0:0≤w.1) (n:Int) (hn:w.1≤n) (hn2:n≤900000):∃ bs:List UInt64,qdV (w,n,())=some ((n+1,bs,()),0,())∧bs.length=16:=by
  unfold qdV
  dsimp only
  obtain ⟨l,hl,hm,hll⟩:=qHS w hw h0 (by omega)
  have e0:i64 (isub w.1 1024)=w.1 - 1024:=zO (by show -9223372036854775808≤w.1 - 1024;omega) (by show w.1 - 1024≤9223372036854775807;omega)
  have hfresh:qe3 (w,n,())=some (true,()):=by
    unfold qe3
    dsimp only
    rw [e0]
    refine (qF (a:=(false,())) (by simp (disch:=first | assumption | omega | (dsimp only;omega) | decide) only [go_sem,Int.reduceToNat];try exact v3 (by omega))).trans ((qB rfl).trans ?_)
    refine (qF (a:=(true,())) (qE (le_t hn))).trans rfl
  have e1:i64 (iadd n 1)=n+1:=zO (by show -9223372036854775808≤n+1;omega) (by show n+1≤9223372036854775807;omega)
  have e2:i64 (isub (n+1) 1024)=n+1 - 1024:=zO (by show -9223372036854775808≤n+1 - 1024;omega) (by show n+1 - 1024≤9223372036854775807;omega)
  generalize hf:(fun (x_1:List Int×Int×Unit)=>(1:Nat))=dummy
  have main:∃ bs:List UInt64,(lc (loop (fun (x_1:Int×(Int×List UInt64×Unit)×Unit) =>
    sel (lt x_1.1 (len (app l [n])))
    (ck (inB x_1.1 (len (app l [n])))
    (ck (inB x_1.1 (len (app l [n])))
    (sel (le (n+1 - 1024) (nth (app l [n]) (nat x_1.1) 0))
    (ck (inB (i64 (idiv (imod (nth (app l [n]) (nat x_1.1) 0) 1024) 64)) (ofn 16))
    (ob (yV (imod (imod (nth (app l [n]) (nat x_1.1) 0) 1024) 64,()))
    fun (a:UInt64×Unit) =>
    ck (inB (i64 (idiv (imod (nth (app l [n]) (nat x_1.1) 0) 1024) 64)) (ofn 16))
    (some (LS.nx (i64 (iadd x_1.1 1),(x_1.2.1.1,upd x_1.2.1.2.1 (nat (i64 (idiv (imod (nth (app l [n]) (nat x_1.1) 0) 1024) 64)))
    (u64 (iadd (n64 (nth x_1.2.1.2.1 (nat (i64 (idiv (imod (nth (app l [n]) (nat x_1.1) 0) 1024) 64))) (u64 0))) (n64 a.1))),x_1.2.1.2.2),())))))
    (some (LS.nx (i64 (iadd x_1.1 1),x_1.2.1,()))))))
    (some (LS.ex 0 (x_1.1,x_1.2.1,()))))
   (0,(n+1,noW.2.1,()),()))
   (fun (a:Int×(Int×List UInt64×Unit)×Unit)=>none)
   (fun (i:Nat) (a:Int×(Int×List UInt64×Unit)×Unit)=>ck (neb i 0) (some (a.2.1,0,())))
   (fun (r:(Int×List UInt64×Unit)×Int×Unit)=>some r))=some ((n+1,bs,()),0,())∧bs.length=16:=by
    rw [show app l [n]=l++[n] from rfl]
    have hall:∀ m∈l++[n],0≤m:=by
      intro m h
      rcases List.mem_append.1 h with h | h
      · exact (hm m h).1
      · rw [List.mem_singleton] at h;omega
    have hlen:(l++[n]).length=l.length+1:=by simp
    generalize l++[n]=q at hall hlen
    generalize hg:(fun (x_1:Int×(Int×List UInt64×Unit)×Unit)=>(_:Option (LS (Int×(Int×List UInt64×Unit)×Unit) ((Int×List UInt64×Unit)×Int×Unit))))=g
    have key:=qs0 (f:=g) (fun i x=>x.1=(i:Int)∧x.2.1.1=n+1∧x.2.1.2.1.length=16) (fun x=>x.2.1.1=n+1∧x.2.1.2.1.length=16) q.length 0 (fun i hi x hp => ?_) (fun x hp => ?_) (x:=(0,(n+1,noW.2.1,()),())) ⟨rfl,rfl,rfl⟩
    · obtain ⟨⟨j,⟨t,bs,⟨⟩⟩,⟨⟩⟩,h1,h2,h3⟩:=key
      dsimp only at h2 h3
      subst h2
      exact ⟨bs,(qZ h1).trans (qH g62),h3⟩
    · subst hg
      obtain ⟨j,⟨t,bs,⟨⟩⟩,⟨⟩⟩:=x
      obtain ⟨p1,p2,p3⟩:=hp
      dsimp only at p1 p2 p3
      subst p1
      have hi':i64 (iadd (i:Int) 1)=((i+1:Nat):Int):=i64n (by show (i:Int)+1=_;omega) (by omega)
      have hq:=hall q[i] (List.getElem_mem hi)
      dsimp only
      have e3:nth q (nat (i:Int)) 0=q[i]:=by rw [qR,qL hi]
      rw [hi',e3]
      generalize q[i]=m at hq
      have e4:imod m 1024=((m.toNat % 1024:Nat):Int):=by rw [g32 hq];omega
      have e5:i64 (idiv (((m.toNat % 1024:Nat):Int)) 64)=((m.toNat % 1024 / 64:Nat):Int):=by rw [g31 (by omega)];exact i64n (by omega) (by omega)
      have e6:imod (((m.toNat % 1024:Nat):Int)) 64=((m.toNat % 1024 % 64:Nat):Int):=by rw [g32 (by omega)];omega
      rw [e4,e5,e6,qgB _ (by omega)]
      by_cases hc:n+1 - 1024≤m
      · exact ⟨_,(qE (by simp (disch:=first | assumption | omega | (dsimp only;omega) | decide) only [go_sem,Int.reduceToNat];omega)).trans ((qH (by simp (disch:=first | assumption | omega | (dsimp only;omega) | decide) only [go_sem,Int.reduceToNat];omega)).trans ((qH (by simp (disch:=first | assumption | omega | (dsimp only;omega) | decide) only [go_sem,Int.reduceToNat];omega)).trans ((qE (le_t hc)).trans ((qH (by simp (disch:=first | assumption | omega | (dsimp only;omega) | decide) only [go_sem,Int.reduceToNat];omega)).trans ((qF rfl).trans (qH (by simp (disch:=first | assumption | omega | (dsimp only;omega) | decide) only [go_sem,Int.reduceToNat];omega))))))),rfl,p2,by show (upd bs _ _).length=16;unfold upd;rw [List.length_set];exact p3⟩
      · exact ⟨_,(qE (by simp (disch:=first | assumption | omega | (dsimp only;omega) | decide) only [go_sem,Int.reduceToNat];omega)).trans ((qH (by simp (disch:=first | assumption | omega | (dsimp only;omega) | decide) only [go_sem,Int.reduceToNat];omega)).trans ((qH (by simp (disch:=first | assumption | omega | (dsimp only;omega) | decide) only [go_sem,Int.reduceToNat];omega)).trans (qB (le_f hc)))),rfl,p2,p3⟩
    · subst hg
      obtain ⟨j,⟨t,bs,⟨⟩⟩,⟨⟩⟩:=x
      obtain ⟨p1,p2,p3⟩:=hp
      dsimp only at p1 p2 p3
      exact ⟨_,qB (lt_f (by dsimp only;rw [p1];show ¬ (q.length:Int) < (q.length:Int);omega)),p2,p3⟩
  obtain ⟨bs,hmain,hbs⟩:=main
  refine ⟨bs, ?_,hbs⟩
  refine (qF (a:=(false,())) (by simp (disch:=first | assumption | omega | (dsimp only;omega) | decide) only [go_sem,Int.reduceToNat];try exact v3 (by omega))).trans ((qB rfl).trans ?_)
  rw [hfresh]
  refine (qF rfl).trans ((qB rfl).trans ?_)
  refine (qF (a:=(n+1,())) ((qE (le_t hn)).trans (by rw [e1]))).trans ?_
  rw [hl]
  refine (qF rfl).trans ((qH (by simp (disch:=first | assumption | omega | (dsimp only;omega) | decide) only [go_sem,Int.reduceToNat];simp;omega)).trans ?_)
  dsimp only
  rw [e2]
  exact hmain
end Yp
namespace Yp
open Go
set_option maxRecDepth 100000
set_option maxHeartbeats 2000000
structure hears (a:En') (r:En'):Prop where
 id:r.id=1 - a.id
 pair:qaQ r=qaQ a
 ph:zL r.ph
 gen:1≤a.ring.1.1
 find:qFK r.ring a.ring.1.1=(a.ring.1.2.1,true,())
 win:r.win.1≤a.seq∧0≤r.win.1
 seq:a.seq≤900000
theorem qLt (e:En'):qaQ e=[nth (qaQ e) 0 0,nth (qaQ e) 1 0]:=by
 unfold qaQ
 split
 ·rfl
 ·split <;> rfl
theorem qPN {i:Int} (h:i=0∨i=1):i64 (isub 1 i)=1 - i:=zO (by show -9223372036854775808≤1 - i;omega) (by show 1 - i≤9223372036854775807;omega)
theorem qLd {n m:Nat} {a r:En'} (ha:okE n a) (hr:okE m r) (h:hears a r) (b t:BB):qeS (r.t,vY (jH a b) t,())=some (false,()):=by
 unfold qeS
 dsimp only
 rw [show r.t.1=r.id from rfl,show r.t.2.2.1=r.ph from rfl,show (vY (jH a b) t).2.1=a.id from rfl,show (vY (jH a b) t).1=2 from rfl,show (vY (jH a b) t).2.2.1=qaQ a from rfl,show (vY (jH a b) t).2.2.2.1=a.ring.1.1 from rfl,show r.t.2.2.2.2.2.2.2.2.2.2.1=r.ring from rfl,qPN hr.id]
 have h7:=h.ph
 have hid:=h.id
 have hrid:=hr.id
 unfold zL at h7
 refine (qF (a:=(false,())) ((qB (bq_f (by omega))).trans ((qB (wD (by omega))).trans (by rw [wD (by omega)])))).trans ((qB rfl).trans ((qB rfl).trans ?_))
 rw [qbC,h.pair]
 refine (qF rfl).trans ?_
 rw [yS,D_t h.ph]
 refine (qF rfl).trans ?_
 rw [qgZ,h.find]
 refine (qF rfl).trans ?_
 dsimp only
 refine (qF (a:=(false,())) ?_).trans rfl
 refine (qB rfl).trans ((qB rfl).trans ((qH rfl).trans ((qH rfl).trans ((qB (bq_f rfl)).trans ((qH rfl).trans ((qH rfl).trans ?_))))))
 rw [bq_f rfl]
def qs9 (r:En') (g:Int):z4:=if r.ring.2.2.1.1=g∧¬ r.ph=4 then (qnD r.ring).1 else r.ring
theorem qLs (p:wW) (k b:BB):pchk (ptag p k b) k b (vG k b)=(ptag p k b,true,()):=by
 unfold pchk
 rw [if_pos rfl,if_pos]
 unfold ptag
 split
 ·assumption
 ·simp
theorem qIY {n m:Nat} {a r:En'} {p:wW} (ha:okE n a) (hr:okE m r) (hp:p.2.1.length≤900000) (h:hears a r) {b:BB} (hb:qc8 b):∃ bs:List UInt64,bs.length=16 ∧
  qdQ ((r.t,ptag p a.ring.1.2.1 (qV (jH a b)),()),qV (jH a b)++vG a.ring.1.2.1 (qV (jH a b)),()) =
   some (({ r with win:=(a.seq+1,bs,()),ring:=qs9 r a.ring.1.1 }.t,ptag p a.ring.1.2.1 (qV (jH a b)),()),vY (jH a b) (vG a.ring.1.2.1 (qV (jH a b))),0,()):=by
 have hv:=qj9 ha hb
 have ht:=qaK a.ring.1.2.1 (qV (jH a b))
 have hl:=jR (jH a b)
 have hbl:(jH a b).2.2.2.2.2.1=b:=rfl
 have hb2:=hb.2
 have hkey:=hr.key
 have hrk:=qiI ha.ring
 obtain ⟨bs,hm,hbs⟩:=qIe r.win hr.win h.win.2 a.seq h.win.1 h.seq
 refine ⟨bs,hbs, ?_⟩
 unfold qdQ
 dsimp only
 rw [qr5 _ (by rw [List.length_append,ht,hl,hbl];omega),qJz hv (show (jH a b).2.2.1=_ from qLt a) ht]
 refine (qF rfl).trans ((qB rfl).trans ?_)
 dsimp only
 generalize htg:vG a.ring.1.2.1 (qV (jH a b))=t at ht
 rw [qLd ha hr h b t]
 refine (qF rfl).trans ((qB rfl).trans ?_)
 rw [show r.t.2.1=r.key from rfl,qbD _ (by omega)]
 refine (qF rfl).trans ((qE rfl).trans ?_)
 rw [show r.t.2.2.2.2.2.2.2.2.2.2.1=r.ring from rfl,show (vY (jH a b) t).2.2.2.1=a.ring.1.1 from rfl,qgZ,h.find]
 refine (qF rfl).trans ?_
 rw [wY (vY (jH a b) t) hv,show qV (vY (jH a b) t)=qV (jH a b) from rfl]
 refine (qF rfl).trans ?_
 dsimp only
 have hpl:(ptag p a.ring.1.2.1 (qV (jH a b))).2.1.length≤900001:=by
  unfold ptag;split
  ·omega
  ·dsimp only;rw [List.length_append,List.length_singleton];omega
 rw [qp9 _ _ _ _ (by omega) (by omega) (by rw [hl,hbl];omega),show (vY (jH a b) t).2.2.2.2.2.2.1=t from rfl,← htg,qLs]
 refine (qF rfl).trans ((qB rfl).trans ((qB rfl).trans ?_))
 rw [show r.t.2.2.2.2.2.2.2.2.2.1=r.win from rfl,show (vY (jH a b) (vG a.ring.1.2.1 (qV (jH a b)))).2.2.2.2.1=a.seq from rfl,hm]
 refine (qF rfl).trans ((qB rfl).trans ?_)
 rw [show r.t.2.2.1=r.ph from rfl]
 unfold qs9
 by_cases h1:r.ring.2.2.1.1=a.ring.1.1
 ·by_cases h2:r.ph=4
  ·rw [if_neg (fun q=>q.2 h2)]
   refine (qF (a:=(false,())) ((qE (qaD h1)).trans (by rw [bq_f h2]))).trans ((qB rfl).trans rfl)
  ·rw [if_pos ⟨h1,h2⟩]
   refine (qF (a:=(true,())) ((qE (qaD h1)).trans (by rw [bq_t h2]))).trans ((qE rfl).trans ?_)
   rw [qgY _ (qFj hr.ring)]
   rfl
 ·rw [if_neg (fun q=>h1 q.1)]
  refine (qF (a:=(false,())) (qB (wD h1))).trans ((qB rfl).trans rfl)
theorem qGT {s:Si} {b:BB} (hb:qc8 b) (hl:zL s.e.ph) (hq:s.e.seq≤900000) (hh:(vJ s.e.hub).2.2.1=0):qeN s b =
  (⟨{ s.e with hub:=(vJ s.e.hub).1,out:=s.e.out++[((vJ s.e.hub).2.1,vK (qV (jH s.e b)++vG s.e.ring.1.2.1 (qV (jH s.e b))),())],seq:=s.e.seq+1 },ptag s.p s.e.ring.1.2.1 (qV (jH s.e b))⟩,0):=by
 unfold qeN qkQ
 rw [if_neg (not_not_intro hb),if_neg (not_not_intro hl),if_neg (by omega),if_pos hh]
 rfl
theorem qIE {n m:Nat} {s r:Si} (hs:okS n s) (hr:okS m r) (hn:n≤900000) (h:hears s.e r.e) {b:BB} (hb:qc8 b) (hl:zL s.e.ph) (hh:(vJ s.e.hub).2.2.1=0) {k:xA} (hk:rdN b=(k,0,())):∃ bs:List UInt64,bs.length=16 ∧
  xJ ((qeN s b).1.t,r.t,())=some ((⟨{ r.e with win:=(s.e.seq+1,bs,()),ring:=qs9 r.e s.e.ring.1.1 },(qeN s b).1.p⟩:Si).t,k,true,()):=by
 have hp:=hs.p
 obtain ⟨bs,hbs,ht⟩:=qIY (p:=s.p) hs.e hr.e (by omega) h hb
 refine ⟨bs,hbs, ?_⟩
 rw [qGT hb hl h.seq hh]
 have ho:=hs.e.out
 generalize hx:qV (jH s.e b)++vG s.e.ring.1.2.1 (qV (jH s.e b))=x at ht
 have hxl:x.length=46+b.length:=by rw [← hx,List.length_append,qaK,jR,show (jH s.e b).2.2.2.2.2.1=b from rfl];omega
 have hb1:=hb.1
 have hb2:=hb.2
 unfold xJ
 dsimp only
 rw [show (⟨{ s.e with hub:=(vJ s.e.hub).1,out:=s.e.out++[((vJ s.e.hub).2.1,vK x,())],seq:=s.e.seq+1 },ptag s.p s.e.ring.1.2.1 (qV (jH s.e b))⟩:Si).t.1.2.2.2.2.2.2.2.2.2.2.2.2.2.2.2.2.1=s.e.out++[((vJ s.e.hub).2.1,vK x,())] from rfl]
 have e1:i64 (isub (len (s.e.out++[((vJ s.e.hub).2.1,vK x,())])) 1)=(s.e.out.length:Int):=i64n (by show (((s.e.out++[_]).length:Nat):Int) - 1=_;rw [List.length_append,List.length_singleton];omega) (by omega)
 rw [e1]
 refine (qB (wD (by show ¬ (((s.e.out++[_]).length:Nat):Int)=0;rw [List.length_append,List.length_singleton];omega))).trans ((qH (by simp (disch:=first | assumption | omega | (dsimp only;omega) | decide) only [go_sem,Int.reduceToNat];simp;omega)).trans ?_)
 rw [show nth (s.e.out++[((vJ s.e.hub).2.1,vK x,())]) (nat (s.e.out.length:Int)) (0,none' UInt8,())=((vJ s.e.hub).2.1,vK x,()) by rw [qR,qL (by simp)];simp]
 dsimp only
 rw [qKq x (by omega)]
 refine (qF rfl).trans ?_
 dsimp only
 refine (qF (show qdQ ((r.e.t,ptag s.p s.e.ring.1.2.1 (qV (jH s.e b)),()),x,())=_ from ht)).trans ?_
 dsimp only
 rw [show (vY (jH s.e b) (vG s.e.ring.1.2.1 (qV (jH s.e b)))).2.2.2.2.2.1=b from rfl,qr0 _ (by omega),hk]
 rfl
end Yp
namespace Yp
open Go
set_option maxRecDepth 100000
set_option maxHeartbeats 2000000
def twK (fill:UInt8):BB:=upd (rep 32 (u8 0)) 0 fill
def twN (g:Nat):BB:=if g=1 then [] else [u8 (g:Int)]
def twG (fill:UInt8) (g:Nat):BB:=keyD (twK fill) [3,4] (g:Int) (twN g)
def twR (fill:UInt8):Nat→z4
 | 0=>noR
 | 1=>((1,twG fill 1,()),noG,noG,0,1,())
 | g+2=>(((g+2:Nat),twG fill (g+2),()),((g+1:Nat),twG fill (g+1),()),noG,16,(g+2:Nat),())
def hub1:THub:=([true,false,false,false],[noF,noF,noF,noF],[1,0,0,0],0,())
def twE (i:Int) (fill:UInt8) (g:Nat):En':=⟨i,twK fill,3,newS, -1,3+i,4 - i,4,0,noW,twR fill g,noA,0,0,[],hub1,[],[],[0,0,0,0]⟩
def tw (i:Int) (fill:UInt8) (g:Nat):Si:=⟨twE i fill g,(true,[],false,())⟩
theorem qnC (fill:UInt8):(twK fill).length=32:=by unfold twK upd;rw [List.length_set];rfl
theorem qdI (fill:UInt8) {g:Nat} (hg:g≤2147483647):(twG fill g).length=32:=qs4 ⟨by decide,by decide,by omega,by omega⟩
theorem qa4 (fill:UInt8) {g:Nat} (hg:1≤g):(twR fill g).1=((g:Int),twG fill g,()):=by
 match g,hg with
 | 1,_=>rfl
 | g+2,_=>rfl
theorem qIT (fill:UInt8) {g:Nat} (hg:1≤g):(twR fill g).2.2.2.2.1=(g:Int):=by
 match g,hg with
 | 1,_=>rfl
 | g+2,_=>rfl
theorem qxH (fill:UInt8) {g:Nat} (hg:1≤g):(twR fill g).2.2.1=noG:=by
 match g,hg with
 | 1,_=>rfl
 | g+2,_=>rfl
theorem qL8 (fill:UInt8) {g:Nat} (hg:1≤g):¬ twR fill g=noR:=fun h=>by
 have:=qa4 fill hg
 rw [h] at this
 have:(0:Int)=(g:Int):=congrArg Prod.fst this
 omega
theorem qCB (fill:UInt8) {g:Nat} (hg:1≤g) {n:Int} (hn:(g:Int) < n) (hn2:n≤2147483647) {k:BB} (hk:k.length=32):zN (twR fill g) n k=(((twR fill g).1,(twR fill g).2.1,(n,k,()),(twR fill g).2.2.2.1,n,()),0,()):=by
 unfold zN
 rw [if_neg (not_not_intro ⟨by show 1≤n;omega,hn2,hk⟩),if_neg,qIT fill hg,show max (g:Int) n=n by omega]
 rw [qa4 fill hg,qxH fill hg]
 rintro (h | h | h)
 ·exact qL8 fill hg h
 ·dsimp only at h;omega
 ·have h:n < (0:Int):=h
  omega
theorem qH7 {a b:Int} {x y:BB} (h1:1≤b) (h2:b < a) (h3:a≤2147483647) (hx:x.length=32) (hy:y.length=32):yK ((a,x,()),(b,y,()),noG,16,a,()):=by
 have hb:¬ (b,y,())=noG:=fun h=>by
  have:b=0:=congrArg Prod.fst h
  omega
 refine .inr ⟨⟨by dsimp only;omega,h3,hx⟩,h3,Int.le_refl _, ?_, .inr ⟨hb,⟨h1,by dsimp only;omega,hy⟩,h2, ?_, ?_⟩, .inl rfl⟩
 ·show (0:Int)≤a;omega
 ·show (1:Int)≤16;omega
 ·show (16:Int)≤16;omega
theorem qH8 {x:BB} (hx:x.length=32):yK ((1,x,()),noG,noG,0,1,()):=by
 refine .inr ⟨⟨?_, ?_,hx⟩, ?_, ?_, ?_, .inl ⟨rfl,rfl⟩, .inl rfl⟩
 ·show (1:Int)≤1;omega
 ·show (1:Int)≤2147483647;omega
 ·show (1:Int)≤2147483647;omega
 ·show (1:Int)≤1;omega
 ·show (0:Int)≤1;omega
theorem qJo (fill:UInt8) {g:Nat} (hg:1≤g) (hg2:g≤100):yK (twR fill g):=by
 match g,hg with
 | 1,_=>exact qH8 (qdI fill (by omega))
 | g+2,_=>exact qH7 (b:=((g+1:Nat):Int)) (by omega) (by omega) (by omega) (qdI fill (by omega)) (qdI fill (by omega))
theorem qCy (i:Int) (hi:i=0∨i=1) (fill:UInt8) {g:Nat} (hg:1≤g) (hg2:g≤100):okS 0 (tw i fill g) where
 e:={
  id:=hi
  key:=by show (twK fill).length≤1000;rw [qnC];omega
  ph:=⟨by show (0:Int)≤3;omega,by show (3:Int)≤8;omega⟩
  store:=⟨qFn 1,List.length_replicate ..⟩
  own:=by show z1 (3+i);rcases hi with rfl | rfl <;> decide
  oth:=by show z1 (4 - i);rcases hi with rfl | rfl <;> decide
  seq:=by show z1 0;decide
  ring:=qJo fill hg hg2
  up:=rfl
  next:=by show (0:Int)≤0∧(0:Int) < 4;omega
  out:=Nat.le_refl _
  got:=Nat.le_refl _
  cnt:=rfl
  win:=rfl
  feed:=rfl
  life:=rfl
  queue:=by show ([]:List BB).length≤1000;simp }
 p:=Nat.le_refl _
theorem qON:qkF (([false,false,false,false],[(none' UInt8,0,0,()),(none' UInt8,0,0,()),(none' UInt8,0,0,()),(none' UInt8,0,0,())],[0,0,0,0],0,()),0,())=some (hub1,0,()):=by kernel_rfl
theorem qHP (fill:UInt8) {g:Nat} (hg:1≤g) (hg2:g≤100):qbW (fill,(g:Int),())=some ((tw 0 fill g).t,(tw 1 fill g).t,()):=by
 unfold qbW
 refine (qH rfl).trans ((qH rfl).trans ?_)
 dsimp only
 rw [show upd (rep (nat 32) (u8 0)) (nat 0) fill=twK fill from rfl,show wN (twK fill,[3,4],1,none' UInt8,())=_ from qcV (twK fill) [3,4] 1 [] (by rw [qnC];omega) (by simp)]
 refine (qF rfl).trans ?_
 dsimp only
 rw [show keyD (twK fill) [3,4] 1 []=twG fill 1 from rfl,qvC,show newR (twG fill 1)=(twR fill 1,0,()) by unfold newR;rw [if_pos (qdI fill (by omega))];rfl]
 refine (qF rfl).trans ?_
 dsimp only
 generalize hf:(fun (x_1:Int×z4×Unit)=>(_:Option (LS (Int×z4×Unit) (qaE×qaE×Unit))))=f
 have step:∀ j:Nat,j < g - 1→f (((j+2:Nat):Int),twR fill (j+1),())=some (.nx (((j+1+2:Nat):Int),twR fill (j+1+1),())):=by
  intro j hj
  subst hf
  have hi':i64 (iadd ((j+2:Nat):Int) 1)=((j+1+2:Nat):Int):=i64n (by show ((j+2:Nat):Int)+1=_;omega) (by omega)
  refine (qE (le_t (by show ((j+2:Nat):Int)≤(g:Int);omega))).trans ?_
  dsimp only
  rw [qcV _ _ _ _ (by rw [qnC];omega) (by simp)]
  refine (qF rfl).trans ?_
  dsimp only
  rw [show keyD (twK fill) [3,4] ((j+2:Nat):Int) [u8 ((j+2:Nat):Int)]=twG fill (j+2) by unfold twG twN;rw [if_neg (by omega)],qgA,qCB fill (g:=j+1) (by omega) (by omega) (by omega) (qdI fill (by omega))]
  refine (qF rfl).trans ?_
  dsimp only
  rw [qgY _ (.inr (by show ¬ ((j+2:Nat):Int)=0;omega))]
  refine (qF rfl).trans ?_
  rw [hi']
  unfold qnD
  rw [if_neg,qa4 fill (by omega:1≤j+1)]
  ·rfl
  ·intro h
   have:((j+2:Nat):Int)=0:=congrArg Prod.fst h
   omega
 have hend:f (((g+1:Nat):Int),twR fill g,())=some (.ex 0 (((g+1:Nat):Int),twR fill g,())):=by subst hf;exact qB (le_f (by show ¬ ((g+1:Nat):Int)≤(g:Int);omega))
 have hloop:=qN (f:=f) (fun j=>(((j+2:Nat):Int),twR fill (j+1),())) (g - 1) step 0 (Nat.zero_le _)
 rw [show g - 1+2=g+1 by omega,show g - 1+1=g by omega,qT hend] at hloop
 refine (qZ (show loop f (2,twR fill 1,())=_ from hloop)).trans ((qH g62).trans ?_)
 dsimp only
 rw [qON]
 refine (qF rfl).trans ?_
 rw [qvA]
 refine (qF rfl).trans ?_
 rfl
end Yp
namespace Yp
open Go
set_option maxRecDepth 100000
set_option maxHeartbeats 2000000
def upH (h:THub):Prop:=h.1=[true,false,false,false]∧0≤h.2.2.2.1∧h.2.2.2.1 < 4
theorem qIR:upH hub1:=⟨rfl,by show (0:Int)≤0;omega,by show (0:Int) < 4;omega⟩
theorem qFr {h:THub} (hu:upH h):(vJ h).2.2.1=0∧upH (vJ h).1:=by
 refine ⟨?_,(qG7 h).trans hu.1,qwN hu.2⟩
 obtain ⟨u,f,l,n,⟨⟩⟩:=h
 obtain ⟨h1,h2,h3⟩:=hu
 dsimp only at h1 h2 h3
 subst h1
 have hc:qOQ [true,false,false,false] n.toNat=some 0:=by
  have:n=0∨n=1∨n=2∨n=3:=by omega
  rcases this with rfl | rfl | rfl | rfl <;> decide
 unfold vJ
 dsimp only
 rw [hc]
def qEp (s:Si) (b:BB):Si:=⟨{ s.e with hub:=(vJ s.e.hub).1,out:=s.e.out++[((vJ s.e.hub).2.1,vK (qV (jH s.e b)++vG s.e.ring.1.2.1 (qV (jH s.e b))),())],seq:=s.e.seq+1 },ptag s.p s.e.ring.1.2.1 (qV (jH s.e b))⟩
theorem qrE {s:Si} {b:BB} (hb:qc8 b) (hl:zL s.e.ph) (hq:s.e.seq≤900000) (hu:upH s.e.hub):qeN s b=(qEp s b,0):=qGT hb hl hq (qFr hu).1
def qkX (n:xA):BB:=wrM (msgN n)
theorem qeI {n:xA} (h:z6 n):qc8 (qkX n):=⟨by
 unfold qkX wrM
 rw [List.length_append,List.length_append,vF]
 split <;> omega,qMF h⟩
theorem qKW {n:xA} (h:z6 n):rdN (qkX n)=(n,0,()):=qOL h
theorem qq9 (n:Int):1≤kQ n∧kQ n≤999999:=by unfold kQ;split <;> omega
def stN (s:Si) (q:xA):xA:=(q.1,q.2.1,kQ s.e.stan,q.2.2.2)
theorem qHH {s:Si} {q:xA} (hr:z6 (stN s q)):qj2 q.2.1 (kQ s.e.stan) (qkX (stN s q))=((q.2.1,kQ s.e.stan,8,3,qkX (stN s q),()),0,()):=by
 unfold qj2
 rw [if_pos]
 have h:=qq9 s.e.stan
 exact ⟨hr.1,h.1,h.2,(qeI hr).1,(qeI hr).2⟩
def askS (s:Si) (q:xA):Si:=⟨{ s.e with stan:=kQ s.e.stan,ask:=(q.2.1,kQ s.e.stan,8,3,qkX (stN s q),()) },s.p⟩
theorem qK2 {s:Si} {q:xA} (hr:z6 (stN s q)):quJ s q=askS s q:=by
 unfold quJ askS
 have e:wrN (q.1,q.2.1,kQ s.e.stan,q.2.2.2)=(qkX (stN s q),0,()):=qME hr
 rw [e,qHH hr]
theorem qCr {s:Si} {q:xA} (hr:z6 (stN s q)) (h1:¬ q.2.1=1) (hl:zL s.e.ph) (hq:s.e.seq≤900000) (hu:upH s.e.hub):qjT s q=qEp (askS s q) (qkX (stN s q)):=by
 have e:wrN (q.1,q.2.1,kQ s.e.stan,q.2.2.2)=(qkX (stN s q),0,()):=qME hr
 unfold qjT
 rw [e,qK2 hr,qHH hr,if_pos ⟨rfl,rfl⟩,if_neg h1]
 exact congrArg Prod.fst (qrE (s:=askS s q) (qeI hr) hl hq hu)
theorem qwV {s:Si} {g:Int} (h1:1≤g) (h2:g≤2147483647) {nonce k:BB} (h8:nonce.length=8):z6 (stN s (keyQ g nonce k)):=by
 have h:=qq9 s.e.stan
 refine ⟨.inr (.inr (.inl rfl)),h.1,h.2,by show (0:Int)≤0;omega,by show (0:Int)≤99;omega,fun _=>rfl, ?_⟩
 unfold qs2
 rw [if_pos ⟨rfl,rfl⟩]
 exact ⟨h1,h2,h8,qs5 _,rfl⟩
theorem qFQ {s:Si}:z6 (stN s (qK0 301)):=by
 have h:=qq9 s.e.stan
 refine ⟨.inr (.inr (.inr (.inr rfl))),h.1,h.2,by show (0:Int)≤0;omega,by show (0:Int)≤99;omega,fun _=>rfl, ?_⟩
 unfold qs2
 rw [if_neg (fun q=>absurd q.2 (by show ¬ (301:Int)=101;omega))]
 refine ⟨rfl,rfl,rfl, ?_⟩
 rw [if_neg (fun q=>absurd q.2 (by show ¬ (301:Int)=201;omega))];rfl
def offN (s:Si) (g:Int) (nonce:BB):xA:=stN s (keyQ g nonce (derD s.e g nonce))
def offS (s:Si) (g:Int) (nonce:BB):Si:=qEp (askS ⟨{ s.e with ph:=4,ring:=(zN s.e.ring g (derD s.e g nonce)).1 },s.p⟩ (keyQ g nonce (derD s.e g nonce))) (qkX (offN s g nonce))
theorem qNp {s:Si} {g:Int} {nonce:BB} (h8:nonce.length=8) (hp:s.e.ph=3) (ha:s.e.ask.1=0) (hpd:s.e.ring.2.2.1.1=0) (hx:qhD s.e.ring=(g,0,())) (h1:1≤g) (h2:g≤2147483647) (hq:s.e.seq≤900000) (hu:upH s.e.hub):newK s nonce=(offS s g nonce,0):=by
 unfold newK
 rw [if_neg (not_not_intro h8),if_neg (not_not_intro (by rw [hp];exact .inl rfl)),if_neg (by omega),hx,if_neg (not_not_intro rfl)]
 refine Prod.ext ?_ rfl
 exact qCr (s:=⟨{ s.e with ph:=4,ring:=(zN s.e.ring g (derD s.e g nonce)).1 },s.p⟩) (qwV h1 h2 h8) (by show ¬ (101:Int)=1;omega) (by show zL 4;unfold zL;omega) hq hu
def ackN (n:xA) (res:Int):xA:=(false,n.2.1,n.2.2.1,res,0,[],[],0,())
theorem qoH {n:xA} (h:z6 n) {res:Int} (h0:0≤res) (h9:res≤99):z6 (ackN n res):=by
 refine ⟨h.1,h.2.1,h.2.2.1,h0,h9,(fun h=>by cases h), ?_⟩
 unfold qs2
 rw [if_neg (fun q=>by cases q.1)]
 refine ⟨rfl,rfl,rfl, ?_⟩
 rw [if_neg (fun q=>by cases q.1)];rfl
theorem qJw {n:xA} (h:z6 n) (hq:n.1=true) {res:Int} (h0:0≤res) (h9:res≤99):qoR n res=qkX (ackN n res):=by
 unfold qoR ansN
 rw [if_neg (by rw [hq];intro h;cases h),if_neg (by omega)]
 exact congrArg Prod.fst (qME (qoH h h0 h9))
def qOw (s:Si):Si:=qEp (askS ⟨qIV s.e (qnD s.e.ring).1,s.p⟩ (qK0 301)) (qkX (stN s (qK0 301)))
theorem qOc {s:Si} {n:xA} (hp:s.e.ph=4) (hm:qsW s.e.ask n.2.1 n.2.2.1) (hr:n.2.2.2.1=0) (hq:s.e.seq≤900000) (hu:upH s.e.hub):ansK s n=qOw s:=by
 unfold ansK
 rw [if_neg (by rintro (h | h);exact h hp;exact h hm),if_neg (not_not_intro hr)]
 exact qCr (s:=⟨qIV s.e (qnD s.e.ring).1,s.p⟩) qFQ (by show ¬ (301:Int)=1;omega) (by show zL 3;unfold zL;omega) hq hu
end Yp
namespace Yp
open Go
set_option maxRecDepth 100000
set_option maxHeartbeats 2000000
def qOB (r:Si) (n:xA):Si:=qEp ⟨qHQ r.e (zN r.e.ring n.2.2.2.2.1 (derD r.e n.2.2.2.2.1 n.2.2.2.2.2.1)).1,r.p⟩ (qkX (ackN n 0))
theorem qNj {r:Si} {n:xA} (hn:z6 n) (hrq:n.1=true) (hp:r.e.ph=3) (hk:kcvD (derD r.e n.2.2.2.2.1 n.2.2.2.2.2.1)=n.2.2.2.2.2.2.1) (hg:¬ n.2.2.2.2.1=r.e.ring.1.1) (ho:(zN r.e.ring n.2.2.2.2.1 (derD r.e n.2.2.2.2.1 n.2.2.2.2.2.1)).2.1=0) (hq:r.e.seq≤900000) (hu:upH r.e.hub):offK r n=qOB r n:=by
 unfold offK
 rw [if_neg (by omega),if_neg (not_not_intro hk),if_neg hg,if_neg (by omega),if_pos ho,qJw hn hrq (by omega) (by omega)]
 exact congrArg Prod.fst (qrE (s:=⟨qHQ r.e (zN r.e.ring n.2.2.2.2.1 (derD r.e n.2.2.2.2.1 n.2.2.2.2.2.1)).1,r.p⟩) (qeI (qoH hn (by omega) (by omega))) (by show zL r.e.ph;unfold zL;omega) hq hu)
theorem qNh {n:Nat} {s:Si} (h:okS n s) (q:xA):okS n (askS s q):=⟨{ h.e with },h.p⟩
theorem qxA {n m:Nat} {s r:Si} (hs:okS n s) (hr:okS m r) (hn:n≤900000) (h:hears s.e r.e) (hl:zL s.e.ph) (hu:upH s.e.hub) {k:xA} (hk:z6 k):∃ bs:List UInt64,bs.length=16 ∧
  xJ ((qEp s (qkX k)).t,r.t,())=some ((⟨{ r.e with win:=(s.e.seq+1,bs,()),ring:=qs9 r.e s.e.ring.1.1 },(qEp s (qkX k)).p⟩:Si).t,k,true,()):=by
 obtain ⟨bs,hbs,h2⟩:=qIE hs hr hn h (qeI hk) hl (qFr hu).1 (qKW hk)
 rw [qrE (qeI hk) hl h.seq hu] at h2
 exact ⟨bs,hbs,h2⟩
theorem qCZ {r:En'} {g:Int} (h:¬ r.ring.2.2.1.1=g):qs9 r g=r.ring:=by unfold qs9;rw [if_neg (fun q=>h q.1)]
theorem qC7 {r:z4} (h:1≤r.1.1):qFK r r.1.1=(r.1.2.1,true,()):=by unfold qFK;rw [if_neg (by omega),if_pos rfl]
section
variable (i : Int) (fill : UInt8) (g : Nat) (nonce : BB)
def mN:xA:=offN (tw i fill g) ((g+1:Nat):Int) nonce
def mK:BB:=derD (twE i fill g) ((g+1:Nat):Int) nonce
def mA:Si:=offS (tw i fill g) ((g+1:Nat):Int) nonce
def mB (bs:List UInt64):Si:=⟨{ twE (1 - i) fill g with win:=(1,bs,()) },(mA i fill g nonce).p⟩
def mC (bs:List UInt64):Si:=qOB (mB i fill g nonce bs) (mN i fill g nonce)
def mD (bs bs':List UInt64):Si:=⟨{ (mA i fill g nonce).e with win:=(1,bs',()) },(mC i fill g nonce bs).p⟩
def mF (bs bs':List UInt64):Si:=qOw (mD i fill g nonce bs bs')
end
theorem qNx (fill:UInt8) {g:Nat} (hg:1≤g) (hg2:g≤50) {k:BB} (hk:k.length=32):(zN (twR fill g) ((g+1:Nat):Int) k).2.1=0∧(zN (twR fill g) ((g+1:Nat):Int) k).1=((twR fill g).1,(twR fill g).2.1,(((g+1:Nat):Int),k,()),(twR fill g).2.2.2.1,((g+1:Nat):Int),()):=by
 rw [qCB fill hg (by omega) (by omega) hk];exact ⟨rfl,rfl⟩
theorem qkH (i:Int) (hi:i=0∨i=1) (fill:UInt8) (g:Nat):qaQ (twE i fill g)=[3,4]:=by
 rcases hi with rfl | rfl <;> rfl
theorem qsY (i:Int) (hi:i=0∨i=1) (fill:UInt8) {g:Nat} (hg2:g≤50) (nonce:BB):(mK i fill g nonce).length=32:=by
 unfold mK derD
 rw [qkH i hi]
 exact qs4 ⟨by decide,by decide,by omega,by omega⟩
theorem qJ4 (i:Int) (hi:i=0∨i=1) (fill:UInt8) (g:Nat) (nonce:BB):derD (twE (1 - i) fill g) ((g+1:Nat):Int) nonce=mK i fill g nonce:=by
 unfold mK derD
 rw [qkH i hi,qkH (1 - i) (by omega)];rfl
theorem qMp (i:Int) (fill:UInt8) {g:Nat} (hg:1≤g) (hg2:g≤50) {nonce:BB} (h8:nonce.length=8):newK (tw i fill g) nonce=(mA i fill g nonce,0):=by
 refine qNp h8 rfl rfl ?_ ?_ (by omega) (by omega) (by show (0:Int)≤900000;omega) qIR
 ·show (twR fill g).2.2.1.1=0
  rw [qxH fill hg];rfl
 ·show qhD (twR fill g)=_
  unfold qhD
  rw [if_neg (qL8 fill hg),qIT fill hg,if_neg (by omega)]
  rfl
theorem qzH (i:Int) (fill:UInt8) {g:Nat} (hg2:g≤50) {nonce:BB} (h8:nonce.length=8):z6 (mN i fill g nonce):=qwV (by omega) (by omega) h8
theorem qJR (i:Int) (hi:i=0∨i=1) (fill:UInt8) {g:Nat} (hg:1≤g) (hg2:g≤50) {nonce:BB} (h8:nonce.length=8):okS 1 (mA i fill g nonce):=by
 have:=qJZ (qCy i hi fill hg (by omega)) nonce
 rwa [qMp i fill hg hg2 h8] at this
theorem qPF (i:Int) (hi:i=0∨i=1) (fill:UInt8) {g:Nat} (hg:1≤g) (hg2:g≤50) {nonce:BB} (h8:nonce.length=8):∃ bs:List UInt64,bs.length=16∧xJ ((mA i fill g nonce).t,(tw (1 - i) fill g).t,())=some ((mB i fill g nonce bs).t,mN i fill g nonce,true,()):=by
 have ok0:=qCy i hi fill hg (by omega)
 have hk:=qNx fill hg hg2 (qsY i hi fill hg2 nonce)
 have hr4:(zN (twE i fill g).ring ((g+1:Nat):Int) (derD (twE i fill g) ((g+1:Nat):Int) nonce)).1=_:=hk.2
 have ok1:okS 0 (askS ⟨{ twE i fill g with ph:=4,ring:=(zN (twR fill g) ((g+1:Nat):Int) (mK i fill g nonce)).1 },(true,[],false,())⟩ (keyQ ((g+1:Nat):Int) nonce (mK i fill g nonce))):=qNh (ql1 ok0 _ _) _
 have okb:=qCy (1 - i) (by omega) fill hg (by omega)
 have hears':hears (askS ⟨{ twE i fill g with ph:=4,ring:=(zN (twR fill g) ((g+1:Nat):Int) (mK i fill g nonce)).1 },(true,[],false,())⟩ (keyQ ((g+1:Nat):Int) nonce (mK i fill g nonce))).e (twE (1 - i) fill g):={
  id:=rfl
  pair:=(qkH (1 - i) (by omega) fill g).trans (qkH i hi fill g).symm
  ph:=by show zL 3;unfold zL;omega
  gen:=by show 1≤(zN (twR fill g) ((g+1:Nat):Int) (mK i fill g nonce)).1.1.1;rw [hk.2,qa4 fill hg];show 1≤(g:Int);omega
  find:=by
   show qFK (twR fill g) (zN (twR fill g) ((g+1:Nat):Int) (mK i fill g nonce)).1.1.1=((zN (twR fill g) ((g+1:Nat):Int) (mK i fill g nonce)).1.1.2.1,true,())
   rw [hk.2]
   exact qC7 (by rw [qa4 fill hg];show 1≤(g:Int);omega)
  win:=⟨by show (0:Int)≤0;omega,by show (0:Int)≤0;omega⟩
  seq:=by show (0:Int)≤900000;omega }
 obtain ⟨bs,hbs,hb⟩:=qxA ok1 okb (by omega) hears' (by show zL 4;unfold zL;omega) qIR (k:=mN i fill g nonce) (qzH i fill hg2 h8)
 refine ⟨bs,hbs, ?_⟩
 rw [show qs9 (tw (1 - i) fill g).e (askS ⟨{ twE i fill g with ph:=4,ring:=(zN (twR fill g) ((g+1:Nat):Int) (mK i fill g nonce)).1 },(true,[],false,())⟩ (keyQ ((g+1:Nat):Int) nonce (mK i fill g nonce))).e.ring.1.1=twR fill g from qCZ (by
  show ¬ (twR fill g).2.2.1.1=(zN (twR fill g) ((g+1:Nat):Int) (mK i fill g nonce)).1.1.1
  rw [hk.2,qxH fill hg,qa4 fill hg];show ¬ (0:Int)=(g:Int);omega)] at hb
 exact hb
end Yp
namespace Yp
open Go
set_option maxRecDepth 100000
set_option maxHeartbeats 2000000
set_option linter.unusedSectionVars false
theorem qPD:upH (vJ hub1).1:=(qFr qIR).2
section
variable {i : Int} (hi : i = 0 ∨ i = 1) (fill : UInt8) {g : Nat} (hg : 1 ≤ g) (hg2 : g ≤ 50) {nonce : BB} (h8 : nonce.length = 8) (bs bs' : List UInt64)
include hi hg hg2 h8
theorem qJQ (hbs:bs.length=16):okS 1 (mB i fill g nonce bs):=⟨{ (qzD (qCy (1 - i) (by omega) fill hg (by omega)).e (Nat.zero_le 1)) with win:=hbs },(qJR i hi fill hg hg2 h8).p⟩
theorem qFi:(zN (twR fill g) ((g+1:Nat):Int) (derD (mB i fill g nonce bs).e ((g+1:Nat):Int) nonce)).2.1=0∧(zN (twR fill g) ((g+1:Nat):Int) (derD (mB i fill g nonce bs).e ((g+1:Nat):Int) nonce)).1=((twR fill g).1,(twR fill g).2.1,(((g+1:Nat):Int),mK i fill g nonce,()),(twR fill g).2.2.2.1,((g+1:Nat):Int),()):=by
 rw [show derD (mB i fill g nonce bs).e ((g+1:Nat):Int) nonce=mK i fill g nonce from qJ4 i hi fill g nonce]
 exact qNx fill hg hg2 (qsY i hi fill hg2 nonce)
theorem qOE:offK (mB i fill g nonce bs) (mN i fill g nonce)=mC i fill g nonce bs:=by
 refine qNj (qzH i fill hg2 h8) rfl rfl ?_ ?_ (qFi hi fill hg hg2 h8 bs).1 (by show (0:Int)≤900000;omega) qIR
 ·show kcvD (derD (twE (1 - i) fill g) ((g+1:Nat):Int) nonce)=kcvD (derD (twE i fill g) ((g+1:Nat):Int) nonce)
  rw [qJ4 i hi];rfl
 ·show ¬ ((g+1:Nat):Int)=(twR fill g).1.1
  rw [qa4 fill hg];show ¬ ((g+1:Nat):Int)=(g:Int);omega
theorem qMX:(mC i fill g nonce bs).e.ring=((twR fill g).1,(twR fill g).2.1,(((g+1:Nat):Int),mK i fill g nonce,()),(twR fill g).2.2.2.1,((g+1:Nat):Int),()):=(qFi hi fill hg hg2 h8 bs).2
theorem qJm:(mA i fill g nonce).e.ring=((twR fill g).1,(twR fill g).2.1,(((g+1:Nat):Int),mK i fill g nonce,()),(twR fill g).2.2.2.1,((g+1:Nat):Int),()):=(qNx fill hg hg2 (qsY i hi fill hg2 nonce)).2
theorem qO1 (hbs:bs.length=16):okS 2 (mC i fill g nonce bs):=by
 have:=qNi (qJQ hi fill hg hg2 h8 bs hbs) (mN i fill g nonce)
 rwa [qOE hi fill hg hg2 h8] at this
theorem qPE (hbs:bs.length=16):∃ bs':List UInt64,bs'.length=16∧xJ ((mC i fill g nonce bs).t,(mA i fill g nonce).t,())=some ((mD i fill g nonce bs bs').t,ackN (mN i fill g nonce) 0,true,()):=by
 have okb:=qJQ hi fill hg hg2 h8 bs hbs
 have okt:okS 1 ⟨qHQ (mB i fill g nonce bs).e (zN (mB i fill g nonce bs).e.ring ((g+1:Nat):Int) (derD (mB i fill g nonce bs).e ((g+1:Nat):Int) nonce)).1,(mB i fill g nonce bs).p⟩:=qsS okb (kC okb.e.ring _ _)
 have oka:=qJR i hi fill hg hg2 h8
 have hk:=qFi hi fill hg hg2 h8 bs
 have hkA:=qJm hi fill hg hg2 h8
 have hears':hears (qHQ (mB i fill g nonce bs).e (zN (mB i fill g nonce bs).e.ring ((g+1:Nat):Int) (derD (mB i fill g nonce bs).e ((g+1:Nat):Int) nonce)).1) (mA i fill g nonce).e:={
  id:=by show i=1 - (1 - i);omega
  pair:=(qkH i hi fill g).trans (qkH (1 - i) (by omega) fill g).symm
  ph:=by show zL 4;unfold zL;omega
  gen:=by
   show 1≤(zN (twR fill g) ((g+1:Nat):Int) (derD (mB i fill g nonce bs).e ((g+1:Nat):Int) nonce)).1.1.1
   rw [hk.2,qa4 fill hg];show 1≤(g:Int);omega
  find:=by
   show qFK (mA i fill g nonce).e.ring (zN (twR fill g) ((g+1:Nat):Int) (derD (mB i fill g nonce bs).e ((g+1:Nat):Int) nonce)).1.1.1=((zN (twR fill g) ((g+1:Nat):Int) (derD (mB i fill g nonce bs).e ((g+1:Nat):Int) nonce)).1.1.2.1,true,())
   rw [hk.2,hkA]
   exact qC7 (r:=((twR fill g).1,(twR fill g).2.1,(((g+1:Nat):Int),mK i fill g nonce,()),(twR fill g).2.2.2.1,((g+1:Nat):Int),())) (by rw [qa4 fill hg];show 1≤(g:Int);omega)
  win:=⟨by show (0:Int)≤0;omega,by show (0:Int)≤0;omega⟩
  seq:=by show (0:Int)≤900000;omega }
 obtain ⟨bs',hbs',hb⟩:=qxA okt oka (by omega) hears' (by show zL 3;unfold zL;omega) qIR (k:=ackN (mN i fill g nonce) 0) (qoH (qzH i fill hg2 h8) (by omega) (by omega))
 refine ⟨bs',hbs', ?_⟩
 rw [qCZ (r:=(mA i fill g nonce).e) (by
  rw [hkA]
  show ¬ ((g+1:Nat):Int)=(zN (twR fill g) ((g+1:Nat):Int) (derD (mB i fill g nonce bs).e ((g+1:Nat):Int) nonce)).1.1.1
  rw [hk.2,qa4 fill hg];show ¬ ((g+1:Nat):Int)=(g:Int);omega)] at hb
 exact hb
theorem qOD:ansK (mD i fill g nonce bs bs') (ackN (mN i fill g nonce) 0)=mF i fill g nonce bs bs':=by
 refine qOc rfl ⟨?_,rfl,rfl⟩ rfl (by show (0:Int)+1≤900000;omega) qPD
 intro h
 have:(101:Int)=0:=congrArg Prod.fst h
 omega
theorem qMl (hbs:bs.length=16) (hbs':bs'.length=16):okS 2 (mD i fill g nonce bs bs'):=⟨{ (qzD (qJR i hi fill hg hg2 h8).e (Nat.le_succ 1)) with win:=hbs' },(qO1 hi fill hg hg2 h8 bs hbs).p⟩
theorem qO0 (hbs:bs.length=16) (hbs':bs'.length=16):okS 3 (mF i fill g nonce bs bs'):=by
 have:=qOb (qMl hi fill hg hg2 h8 bs bs' hbs hbs') (ackN (mN i fill g nonce) 0)
 rwa [qOD hi fill hg hg2 h8] at this
theorem qMW:(mF i fill g nonce bs bs').e.ring=((((g+1:Nat):Int),mK i fill g nonce,()),((g:Int),twG fill g,()),noG,16,((g+1:Nat):Int),()):=by
 show (qnD (mA i fill g nonce).e.ring).1=_
 rw [qJm hi fill hg hg2 h8]
 unfold qnD
 rw [if_neg,qa4 fill hg]
 intro h
 have:((g+1:Nat):Int)=0:=congrArg Prod.fst h
 omega
end
end Yp
namespace Yp
open Go
set_option maxRecDepth 100000
set_option maxHeartbeats 2000000
theorem qMP:qbX ()=some (true,()):=by
 unfold qbX
 rw [show qbW (u8 1,1,())=_ from qHP (u8 1) (g:=1) (by omega) (by omega)]
 refine (qF rfl).trans ((qH rfl).trans ?_)
 dsimp only
 have h8:(rep (nat 8) (u8 0)).length=8:=rfl
 generalize rep (nat 8) (u8 0)=nonce at h8
 have i0:(0:Int)=0∨(0:Int)=1 := .inl rfl
 rw [qcU (qCy 0 i0 (u8 1) (g:=1) (by omega) (by omega)) (by omega),qMp 0 (u8 1) (by omega) (by omega) h8]
 refine (qF rfl).trans ?_
 dsimp only
 obtain ⟨bs,hbs,h1⟩:=qPF 0 i0 (u8 1) (g:=1) (by omega) (by omega) h8
 rw [show xJ ((mA 0 (u8 1) 1 nonce).t,(tw 1 (u8 1) 1).t,())=_ from h1]
 refine (qF rfl).trans ?_
 dsimp only
 refine (qF (a:=(false,())) rfl).trans ((qB rfl).trans ?_)
 rw [qlM (qJQ i0 (u8 1) (by omega) (by omega) h8 bs hbs) (by omega) _ (by show nonce.length≤1000;omega),qOE i0 (u8 1) (by omega) (by omega) h8 bs]
 refine (qF rfl).trans ?_
 dsimp only
 obtain ⟨bs',hbs',h3⟩:=qPE i0 (u8 1) (g:=1) (by omega) (by omega) h8 bs hbs
 rw [h3]
 refine (qF rfl).trans ?_
 dsimp only
 rw [qkD (qMl i0 (u8 1) (by omega) (by omega) h8 bs bs' hbs hbs') (by omega),qOD i0 (u8 1) (by omega) (by omega) h8 bs bs']
 refine (qF rfl).trans ((qH rfl).trans ?_)
 dsimp only
 rw [qcU (qO0 i0 (u8 1) (by omega) (by omega) h8 bs bs' hbs hbs') (by omega),show newK (mF 0 (u8 1) 1 nonce bs bs') (rep (nat 7) (u8 0))=(mF 0 (u8 1) 1 nonce bs bs',1) by unfold newK;rw [if_pos (by show ¬ 7=8;omega)]]
 refine (qF rfl).trans ?_
 dsimp only
 have hF:=qMW i0 (u8 1) (g:=1) (by omega) (by omega) h8 bs bs'
 have hC:=qMX i0 (u8 1) (g:=1) (by omega) (by omega) h8 bs
 rw [show (mF 0 (u8 1) 1 nonce bs bs').t.1.2.2.2.2.2.2.2.2.2.2.1=(mF 0 (u8 1) 1 nonce bs bs').e.ring from rfl,show (mC 0 (u8 1) 1 nonce bs).t.1.2.2.2.2.2.2.2.2.2.2.1=(mC 0 (u8 1) 1 nonce bs).e.ring from rfl,hF,hC]
 dsimp only
 refine (qF (a:=(true,())) ?_).trans rfl
 refine (qE rfl).trans ((qE (qaD rfl)).trans ((qE (qaD rfl)).trans ((qE (qaD rfl)).trans ((qE (qaD rfl)).trans ((qE (qaD rfl)).trans ?_)))))
 rw [zA,qk7]
 refine (qF rfl).trans ((qE rfl).trans ((qE (qaD rfl)).trans ((qE (qaD rfl)).trans ?_)))
 rw [wX]
 refine (qF rfl).trans ?_
 rfl
theorem qhM (s:Si) (hw:qA4 s.e) (nonce:BB):xQ (s.t,nonce,())=some (true,()):=qnZ qMP s hw nonce
end Yp
namespace Yp
open Go
set_option maxRecDepth 100000
abbrev tyS:Ty := .pair (.pair (.int .i64) (.pair (.sl (.int .u8)) (.pair (.int .i64) (.pair (.pair (.sl (.int .u8)) (.pair (.sl (.int .u8)) (.unit))) (.pair (.int .i64) (.pair (.int .i64) (.pair (.int .i64) (.pair (.int .i64) (.pair (.int .i64) (.pair (.pair (.int .i64) (.pair (.ar 16 (.int .u64)) (.unit))) (.pair (.pair (.pair (.int .i64) (.pair (.sl (.int .u8)) (.unit))) (.pair (.pair (.int .i64) (.pair (.sl (.int .u8)) (.unit))) (.pair (.pair (.int .i64) (.pair (.sl (.int .u8)) (.unit))) (.pair (.int .i64) (.pair (.int .i64) (.unit)))))) (.pair (.pair (.int .i64) (.pair (.int .i64) (.pair (.int .i64) (.pair (.int .i64) (.pair (.sl (.int .u8)) (.unit)))))) (.pair (.int .i64) (.pair (.int .i64) (.pair (.sl (.sl (.int .u8))) (.pair (.pair (.ar 4 (.bool)) (.pair (.ar 4 (.pair (.sl (.int .u8)) (.pair (.int .i64) (.pair (.int .i64) (.unit))))) (.pair (.ar 4 (.int .i64)) (.pair (.int .i64) (.unit))))) (.pair (.sl (.pair (.int .i64) (.pair (.sl (.int .u8)) (.unit)))) (.pair (.sl (.pair (.int .i64) (.pair (.ar 2 (.int .i64)) (.pair (.int .i64) (.pair (.sl (.int .u8)) (.unit)))))) (.pair (.ar 4 (.int .i64)) (.unit)))))))))))))))))))) (.pair (.pair (.bool) (.pair (.sl (.pair (.sl (.int .u8)) (.pair (.sl (.int .u8)) (.unit)))) (.pair (.bool) (.unit)))) (.unit))
theorem qLf {x:qaE} (h:okd tyS x):∃ s:Si,x=s.t∧qA4 s.e:=by
 obtain ⟨s,rfl⟩:=qOF x
 have e:=h.1
 exact ⟨s,rfl,e.2.2.2.2.2.2.2.2.2.1.2.1.1,e.2.2.2.2.2.2.2.2.2.2.2.2.2.2.2.1.1.1,e.2.2.2.2.2.2.2.2.2.2.2.2.2.2.2.1.2.1.1,e.2.2.2.2.2.2.2.2.2.2.2.2.2.2.2.1.2.2.1.1,e.2.2.2.2.2.2.2.2.2.2.2.2.2.2.2.2.2.2.1.1⟩
theorem qwD (x:denL [tyS, .sl (.int .u8)]) (h:okL [tyS, .sl (.int .u8)] x):xQ x=some (true,()):=by
 obtain ⟨s,hs,hw⟩:=qLf h.1
 have:=qhM s hw x.2.1
 rw [← hs] at this
 exact this
end Yp