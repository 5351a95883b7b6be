/- A part of the proof of the statements of this seat: the engine that turns code into plain functions, and its soundness. No condition of its own. -/
import Derived.Test.YtbpaehkcjccplaaGreatDoorE0
import Derived.ChangeKeysEq
set_option linter.unusedVariables false
set_option linter.unusedSimpArgs false
namespace Yp
open Go
variable {P : Program}
def Ty.dep:Ty→Nat
 | .pair a b=>max (a.dep+1) b.dep
 | .ar _ e=>e.dep+1
 | _=>1
theorem Ty.qBF:∀ t:Ty,0 < t.dep
 | .pair a b=>by have:=Ty.qBF b;simp only [Ty.dep];omega
 | .ar _ e=>by simp only [Ty.dep];omega
 | .bool=>by decide | .int _=>Nat.one_pos | .str=>by decide | .sl _=>Nat.one_pos | .unit=>by decide | .op _=>Nat.one_pos | .fn _=>Nat.one_pos
def cmpF (P:Program):Ty→(TypeId→Bool)×(List Field→Bool)
  | .bool=>(fun _=>true,fun _=>false)
  | .int _=>(fun _=>true,fun _=>false)
  | .str=>(fun _=>true,fun _=>false)
  | .unit=>(fun t => !(P.stoodInHeld t),fun l=>l.isEmpty)
  | .pair a b =>
    (fun t => !(P.stoodInHeld t) && (match P.underlying t with
        | some (.struct fs) => (match fs.toList with | f :: r => !(f.name == "_") && (cmpF P a).1 f.type && (cmpF P b).2 r | [] => false)
        | _=>false),
     fun l => match l with | f :: r => !(f.name == "_") && (cmpF P a).1 f.type && (cmpF P b).2 r | [] => false)
  | .ar _ e=>(fun t=>match P.underlying t with | some (.array _ et)=>(cmpF P e).1 et | _=>false,fun _=>false)
  | .sl _=>(fun _=>false,fun _=>false)
  | .op _=>(fun _=>false,fun _=>false)
  | .fn _=>(fun _=>false,fun _=>false)
def cmpB (P:Program) (t:Ty) (tid:TypeId):Bool:=t.isAgg && Nat.ble t.dep 100 && (cmpF P t).1 tid && !(P.eqGuardType P.depth tid)
theorem qe4 {tid:TypeId} {fs:Array Field} (h:P.underlying tid=some (.struct fs)):P.fieldsOf tid=fs:=by simp [Program.fieldsOf,h]
theorem qeS {t:Ty} (h:t.isAgg=true) (cs:List Value):mkV t cs = .agg cs.toArray:=by simp [mkV,h]
theorem qEh {t:Ty} {tid:TypeId} (h:(fit P t).1 tid):P.cellsOf tid=t.size:=by
 obtain ⟨i,h1,h2,_⟩:=xC h
 simp [Program.cellsOf,h1,h2]
section
variable {H H' : View}
theorem quO {e:Ty} {et:TypeId} (he:(fit P e).1 et) {d n:Nat} {a b:List e.den} {cs ds:Array Value} {w:World} (ha:a.length=n) (hb:b.length=n)
  (hcs:cs.size=n*e.size) (hds:ds.size=n*e.size)
  (ih:∀ j,j < n→(Op.equalIn d et (mkV e (seg cs (j*e.size) e.size)) (mkV e (seg ds (j*e.size) e.size))).run P w = .ok (e.eqd (nth a j e.zero) (nth b j e.zero)) w) :
  ∀ is:List Nat,(∀ j∈is,j < n)→(Op.eqItems d et (P.cellsOf et) cs ds is).run P w = .ok (is.all fun j=>e.eqd (nth a j e.zero) (nth b j e.zero)) w
 | [],_=>by simp [Op.eqItems]
 | j :: is,hj=>by
  have hlt:=hj j (by simp)
  have hmul:(j+1)*e.size≤n*e.size:=Nat.mul_le_mul_right _ hlt
  rw [Nat.add_mul] at hmul
  have p1:=qhV (P:=P) he (cs:=cs) (off:=j*e.size) (by omega) w
  have p2:=qhV (P:=P) he (cs:=ds) (off:=j*e.size) (by omega) w
  have ih2:=quO he ha hb hcs hds ih is (fun k hk=>hj k (by simp [hk]))
  rw [qEh he] at ih2 ⊢
  simp only [Op.eqItems,Sem.run_bind,p1,p2,Result.andThen_ok,ih j hlt]
  cases h:e.eqd (nth a j e.zero) (nth b j e.zero) with
  | false=>simp [h]
  | true=>simp [h,ih2]
theorem qEx {α:Type} (f:α→α→Bool) (z:α) {a b:List α} {n:Nat} (ha:a.length=n) (hb:b.length=n):all2 f a b=(List.range n).all fun j=>f (nth a j z) (nth b j z):=by
 rw [Bool.eq_iff_iff]
 unfold all2
 rw [List.all_eq_true,List.all_eq_true]
 constructor
 ·intro h j hj
  have hj':=List.mem_range.1 hj
  have:=h (a[j]'(by omega),b[j]'(by omega)) (by
   rw [List.mem_iff_getElem]
   exact ⟨j,by simp;omega,by simp⟩)
  simpa [nth,List.getD_eq_getElem?_getD,show j < a.length by omega,show j < b.length by omega] using this
 ·intro h p hp
  obtain ⟨j,hj,rfl⟩:=List.mem_iff_getElem.1 hp
  have hj':j < n:=by simp at hj;omega
  have:=h j (List.mem_range.2 hj')
  simpa [nth,List.getD_eq_getElem?_getD,show j < a.length by omega,show j < b.length by omega] using this
theorem qH6 (w:World):∀ (t:Ty),
  (∀ (tid:TypeId) (d:Nat) (x y:t.den) (cs ds:List Value),(cmpF P t).1 tid=true→(fit P t).1 tid→RepC H t x cs→RepC H' t y ds→t.dep≤d→(Op.equalIn d tid (mkV t cs) (mkV t ds)).run P w = .ok (t.eqd x y) w) ∧
  (∀ (l:List Field) (off d:Nat) (x y:t.den) (cs ds:Array Value),(cmpF P t).2 l=true→(fit P t).2 l off→RepC H t x (seg cs off t.size)→RepC H' t y (seg ds off t.size)→off+t.size≤cs.size→off+t.size≤ds.size→t.dep≤d+1 →
   (Op.eqFields d cs ds l).run P w = .ok (t.eqd x y) w)
 | .bool=>by
  refine ⟨fun tid d x y cs ds _ hf hx hy hd => ?_,fun l off d x y cs ds hc=>by cases hc⟩
  obtain ⟨n,rfl⟩:∃ n,d=n+1:=⟨d - 1,by simp only [Ty.dep] at hd;omega⟩
  have h1:=RepC.xD.1 hx;have h2:=RepC.xD.1 hy
  subst h1;subst h2
  exact run_equalIn_bool w n tid _ _ hf.1
 | .int k=>by
  refine ⟨fun tid d x y cs ds _ hf hx hy hd => ?_,fun l off d x y cs ds hc=>by cases hc⟩
  obtain ⟨n,rfl⟩:∃ n,d=n+1:=⟨d - 1,by simp only [Ty.dep] at hd;omega⟩
  have h1:=RepC.zV.1 hx;have h2:=RepC.zV.1 hy
  subst h1;subst h2
  exact run_equalIn_int w n tid k k _ _ hf.1
 | .str=>by
  refine ⟨fun tid d x y cs ds _ hf hx hy hd => ?_,fun l off d x y cs ds hc=>by cases hc⟩
  obtain ⟨n,rfl⟩:∃ n,d=n+1:=⟨d - 1,by simp only [Ty.dep] at hd;omega⟩
  have h1:=RepC.qaO.1 hx;have h2:=RepC.qaO.1 hy
  subst h1;subst h2
  have:=run_equalIn_string (P:=P) w n tid ⟨(x:List UInt8).toArray⟩ ⟨(y:List UInt8).toArray⟩ hf.1
  rw [ByteArray.toList_eq,ByteArray.toList_eq] at this
  exact this
 | .unit=>by
  refine ⟨fun tid d x y cs ds hc hf hx hy hd => ?_,fun l off d x y cs ds hc hf hx hy h1 h2 hd => ?_⟩
  ·obtain ⟨n,rfl⟩:∃ n,d=n+1:=⟨d - 1,by simp only [Ty.dep] at hd;omega⟩
   obtain ⟨⟨fs,hu,hfs⟩,_⟩:=hf
   simp only [cmpF,Bool.not_eq_true'] at hc
   rw [qeS rfl,qeS rfl,run_equalIn_struct w n tid _ _ (by rw [qe4 hu];exact hu) hc,qe4 hu,hfs]
   simp [Op.eqFields];rfl
  ·simp only [cmpF,List.isEmpty_iff] at hc
   subst hc
   simp [Op.eqFields];rfl
 | .pair a b=>by
  have fields:∀ (l:List Field) (off d:Nat) (x y:(Ty.pair a b).den) (cs ds:Array Value),(cmpF P (.pair a b)).2 l=true→(fit P (.pair a b)).2 l off→RepC H (.pair a b) x (seg cs off (Ty.pair a b).size)→RepC H' (.pair a b) y (seg ds off (Ty.pair a b).size) →
    off+(Ty.pair a b).size≤cs.size→off+(Ty.pair a b).size≤ds.size→(Ty.pair a b).dep≤d+1→(Op.eqFields d cs ds l).run P w = .ok ((Ty.pair a b).eqd x y) w:=by
   intro l off d x y cs ds hc hf hx hy h1 h2 hd
   obtain ⟨f,r,rfl,hoff,hfa,hfb⟩:=hf
   simp only [cmpF,Bool.and_eq_true,Bool.not_eq_true',beq_eq_false_iff_ne] at hc
   obtain ⟨⟨hn,ha⟩,hb⟩:=hc
   have hsz:(Ty.pair a b).size=a.size+b.size:=rfl
   rw [hsz] at hx hy h1 h2
   have split:∀ {K:View} {z:(Ty.pair a b).den} {es:Array Value},RepC K (.pair a b) z (seg es off (a.size+b.size))→off+(a.size+b.size)≤es.size→RepC K a z.1 (seg es off a.size)∧RepC K b z.2 (seg es (off+a.size) b.size):=by
    intro K z es hz hle
    obtain ⟨c1,c2,he,k1,k2⟩:=RepC.jI.1 hz
    rw [qu7] at he
    have hl:(seg es off a.size).length=c1.length:=by rw [jD (by omega),k1.length]
    obtain ⟨e1,e2⟩:=List.append_inj he hl
    rw [e1,e2];exact ⟨k1,k2⟩
   obtain ⟨hx1,hx2⟩:=split hx h1
   obtain ⟨hy1,hy2⟩:=split hy h2
   simp only [Ty.dep] at hd
   have p1:=qhV (P:=P) hfa (cs:=cs) (off:=off) (by omega) w
   have p2:=qhV (P:=P) hfa (cs:=ds) (off:=off) (by omega) w
   have q1:=(qH6 w a).1 f.type d x.1 y.1 _ _ ha hfa hx1 hy1 (by omega)
   have q2:=(qH6 w b).2 r (off+a.size) d x.2 y.2 cs ds hb hfb hx2 hy2 (by omega) (by omega) (by omega)
   simp only [Op.eqFields]
   rw [if_pos hn,hoff]
   simp only [Sem.run_bind,p1,p2,Result.andThen_ok,q1]
   show _=Result.ok (band (a.eqd x.1 y.1) (b.eqd x.2 y.2)) w
   cases h:a.eqd x.1 y.1 with
   | false=>simp [h,band]
   | true=>simp [h,band,q2]
  refine ⟨fun tid d x y cs ds hc hf hx hy hd => ?_,fields⟩
  obtain ⟨n,rfl⟩:∃ n,d=n+1:=⟨d - 1,by have:=Ty.qBF (.pair a b);omega⟩
  obtain ⟨⟨fs,hu,f,r,hfs,ho,hfa,hfb⟩,_⟩:=hf
  simp only [cmpF,Bool.and_eq_true,Bool.not_eq_true',hu,hfs] at hc
  rw [qeS rfl,qeS rfl,run_equalIn_struct w n tid _ _ (by rw [qe4 hu];exact hu) hc.1,qe4 hu,hfs]
  have l1:=hx.length;have l2:=hy.length
  have s1:seg cs.toArray 0 (Ty.pair a b).size=cs:=by simp [seg,← l1]
  have s2:seg ds.toArray 0 (Ty.pair a b).size=ds:=by simp [seg,← l2]
  refine fields (f :: r) 0 n x y cs.toArray ds.toArray (by simp only [cmpF,Bool.and_eq_true,Bool.not_eq_true'];exact hc.2) ⟨f,r,rfl,ho,hfa,by rw [Nat.zero_add];exact hfb⟩ (by rw [s1];exact hx) (by rw [s2];exact hy) (by simp [l1]) (by simp [l2]) hd
 | .ar n e=>by
  refine ⟨fun tid d x y cs ds hc hf hx hy hd => ?_,fun l off d x y cs ds hc=>by cases hc⟩
  obtain ⟨m,rfl⟩:∃ m,d=m+1:=⟨d - 1,by have:=Ty.qBF (.ar n e);omega⟩
  obtain ⟨⟨et,hu,he⟩,_⟩:=hf
  simp only [cmpF,hu] at hc
  obtain ⟨i,hi,_⟩:=xC he
  simp only [Ty.dep] at hd
  obtain ⟨a1,a2,a3⟩:=RepC.qfE.1 hx
  obtain ⟨b1,b2,b3⟩:=RepC.qfE.1 hy
  rw [qeS rfl,qeS rfl,run_equalIn_array w m _ _ hu hi]
  rw [quO he (a:=(x:List e.den)) (b:=(y:List e.den)) (n:=n) a1 b1 (by simp [a2]) (by simp [b2]) (fun j hj => ?_) _ (fun j hj=>List.mem_range.1 hj)]
  ·show _=Result.ok (all2 (fun p q=>e.eqd p q) (x:List e.den) (y:List e.den)) w
   rw [qEx _ e.zero a1 b1]
  ·exact (qH6 w e).1 et m _ _ _ _ hc he (a3 j _ (qeV (by omega))) (b3 j _ (qeV (by omega))) (by omega)
 | .sl _=>by refine ⟨fun tid d x y cs ds hc=>(by cases hc),fun l off d x y cs ds hc=>by cases hc⟩
 | .op _=>by refine ⟨fun tid d x y cs ds hc=>(by cases hc),fun l off d x y cs ds hc=>by cases hc⟩
 | .fn _=>by refine ⟨fun tid d x y cs ds hc=>(by cases hc),fun l off d x y cs ds hc=>by cases hc⟩
end
def qm9 (P:Program) (T:Nat→Option Ty) (C:Nat→Bool):Prop:=∀ tid t,C tid=true→T tid=some t→cmpB P t tid=true
theorem qDu (P:Program) (T:Nat→Option Ty):∀ (l:List Nat),(l.all fun i=>match T i with | some t=>cmpB P t i | none=>true)=true→qm9 P T (qF1 l)
 | [],_=>fun tid t h=>by cases h
 | i :: r,h=>fun tid t hC hT=>by
  simp only [List.all_cons,Bool.and_eq_true] at h
  simp only [qF1] at hC
  cases hb:Nat.beq i tid with
  | true=>rw [Nat.eq_of_beq_eq_true hb] at h;rw [hT] at h;exact h.1
  | false=>rw [hb] at hC;exact qDu P T r h.2 tid t hC hT
end Yp
namespace Yp
open Go
variable {P : Program}
section
variable {K : Kp} {w0 w : World} {φ : Pl} {M : Nat → Prop} {B B' : Nat → Blk} {g : Nat → PV} {H : View}
theorem qkQ {t u ty et:TypeId} {i:TypeInfo} (ht:P.underlying t=some (.slice et)) (hi:P.info? et=some i) {x:Value} {n m dl dc:Nat} {news:List Value}
  (hl:(Builtin.lenOf x).run P w = .ok n w) (hm:Nat.min n dl=m) (hf:(Builtin.firstCells i.size m x).run P w = .ok news.toArray w) :
  (Builtin.copy_ #[t,u] ty #[.slice none dl dc,x]).run P w = .ok (.int .i64 m) w:=by
 simp [Builtin.copy_,run_underlying ht,Go.sizeOf,typeInfo,hi,hl,hm,hf,goInt]
theorem qkP {t u ty et:TypeId} {i:TypeInfo} (ht:P.underlying t=some (.slice et)) (hi:P.info? et=some i) {x:Value} {n m dl dc:Nat} {news:List Value} {a:Addr} {w':World}
  (hl:(Builtin.lenOf x).run P w = .ok n w) (hm:Nat.min n dl=m) (hf:(Builtin.firstCells i.size m x).run P w = .ok news.toArray w) (hs:(storeCells a news).run P w = .ok () w') :
  (Builtin.copy_ #[t,u] ty #[.slice (some a) dl dc,x]).run P w = .ok (.int .i64 m) w':=by
 simp [Builtin.copy_,run_underlying ht,Go.sizeOf,typeInfo,hi,hl,hm,hf,hs,goInt]
theorem qsJ {c c':Array Value} {o:Nat} {vs:List Value} (hc:c'.toList=splice c.toList o vs) (hn:o+vs.length≤c.size) {a n:Nat} (h:o+vs.length≤a):seg c' a n=seg c a n:=by
 rw [vU,hc,qaP (by simpa using hn) (.inr h),← vU]
theorem qiP {α:Type} {l ys:List α} {off n:Nat} (h:off+n≤l.length):(cpy l off n ys).length=l.length:=by
 simp only [cpy,List.length_append,List.length_take,List.length_drop];omega
theorem Els.cast {e:Ty} {l m:List e.den} {cs:List Value} (h:Els H e l cs) (hl:l=m):Els H e m cs:=hl ▸ h
theorem Row.copy {e:Ty} {l ys:List e.den} {c c':Array Value} {o off n:Nat} {news:List Value} (h:Row H e l c o) (hle:off+n≤l.length) (hE:Els H e (ys.take n) news)
  (hc:c'.toList=splice c.toList (o+off*e.size) news):c'.size=c.size∧Row H e (cpy l off n ys) c' o:=by
 have hnl:news.length=min n ys.length*e.size:=by rw [hE.1,List.length_take]
 have hmn:(off+min n ys.length)*e.size≤l.length*e.size:=Nat.mul_le_mul_right _ (by omega)
 rw [Nat.add_mul] at hmn
 have h1:=h.1
 have hfit:o+off*e.size+news.length≤c.size:=by omega
 have hsz:=qCD hc hfit
 refine ⟨hsz,Els.row (by rw [qiP hle,hsz];exact h1) ?_⟩
 have e1:(cpy l off n ys).length*e.size=off*e.size+(news.length+(l.length - (off+min n ys.length))*e.size):=by
  rw [qiP hle,hnl,← Nat.add_mul,← Nat.add_mul]
  congr 1;omega
 rw [e1,qu7,qu7,qEZ hc hfit (Nat.le_refl _),qnL hc hfit,qsJ hc hfit (Nat.le_refl _)]
 have k1:=(h.cut (off:=0) (m:=off) (by omega)).els
 have k3:=(h.cut (off:=off+min n ys.length) (m:=l.length - (off+min n ys.length)) (by omega)).els
 rw [zI (by omega),Nat.zero_mul,Nat.add_zero] at k1
 rw [zI (by omega),Nat.add_mul,← Nat.add_assoc,← hnl] at k3
 have k1':Els H e (l.take off) (seg c o (off*e.size)):=k1.cast (by simp [Yp.cut])
 have k3':Els H e (l.drop (off+min n ys.length)) (seg c (o+off*e.size+news.length) ((l.length - (off+min n ys.length))*e.size)):=k3.cast (by
  unfold Yp.cut
  rw [List.take_of_length_le (by simp)])
 exact k1'.append (hE.append k3')
theorem qKF {n:Nat} {e:Ty} {l:List e.den} {c:Array Value} {o:Nat} (h:Row H e l c o) (hl:l.length=n):RepC H (.ar n e) l (seg c o (n*e.size)):=by
 have h1:=h.1
 rw [hl] at h1
 refine RepC.quY.2 ⟨hl,jD h1,fun i x hi => ?_⟩
 have hlt:=qjY hi
 rw [qmP _ _ _ _ _ (qnT (by omega))]
 exact h.2 i x hi
theorem qxT {id:Nat} {b:Blk} (h:B id=b):updB B id b=B:=by
 funext j
 by_cases hj:j=id
 ·subst hj;rw [qK,h]
 ·rw [qO _ _ hj]
theorem qDr {α:Type} (l:List α) (off:Nat) (ys:List α):cpy l off 0 ys=l:=by simp [cpy]
theorem qJA (m n:Nat):minI (m:Int) (n:Int)=((Nat.min n m:Nat):Int):=by
 unfold minI
 split
 ·rw [show Nat.min n m=n from Nat.min_eq_left (by omega)]
 ·rw [show Nat.min n m=m from Nat.min_eq_right (by omega)]
theorem qDs {e:Ty} {ys:List e.den} {ad:Option Addr} {cap:Nat} (h:ys=[]∨∃ b o c el fz,ad=some ⟨b,o,none⟩∧w.heap[b]? = some (.cells c el fz)∧Row (view w M) e ys c o) (dl:Nat) :
  ∃ news,(Builtin.firstCells e.size (Nat.min ys.length dl) (.slice ad ys.length cap)).run P w = .ok news.toArray w∧Els (view w M) e (ys.take dl) news:=by
 rcases h with rfl | ⟨b,o,c,el,fz,rfl,h2,h3⟩
 ·refine ⟨[], ?_,by simpa using Els.nil (H:=view w M) e⟩
  cases ad <;> simp [Builtin.firstCells,loadCells,loadCellsFrom]
 ·have h4:=(h3.cut (off:=0) (m:=Nat.min ys.length dl) (by simp only [Nat.zero_add];exact Nat.min_le_left _ _))
  have hc:Yp.cut ys 0 (Nat.min ys.length dl)=ys.take dl:=by
   unfold Yp.cut
   rw [List.drop_zero]
   rcases Nat.le_total ys.length dl with h | h
   ·rw [show Nat.min ys.length dl=ys.length from Nat.min_eq_left h,List.take_length,List.take_of_length_le h]
   ·rw [show Nat.min ys.length dl=dl from Nat.min_eq_right h]
  rw [hc,Nat.zero_mul,Nat.add_zero] at h4
  have hl:(ys.take dl).length=Nat.min ys.length dl:=by rw [List.length_take];exact Nat.min_comm _ _
  refine ⟨seg c o (Nat.min ys.length dl*e.size), ?_,by rw [← hl];exact h4.els⟩
  simp only [Builtin.firstCells]
  exact kA h2 (by rw [← hl];exact h4.1)
theorem qwE {e:Ty} {tid uid ty et:TypeId} (hu:P.underlying tid=some (.slice et)) {i:TypeInfo} (g1:P.info? et=some i) (g2:i.size=e.size) {ys:List e.den} {ad:Option Addr} {cap:Nat} (hm:Mem K w0 φ M B w)
  (hy:ys=[]∨∃ b o c el fz,ad=some ⟨b,o,none⟩∧w.heap[b]? = some (.cells c el fz)∧Row (view w M) e ys c o) {id off n:Nat} {l:List e.den} {bl:List e.den→Blk} {va:Value}
  (hmut:(B id).mut=true) (hle:off+n≤l.length) (hown:xX φ id e off n va)
  (hsame:n=0→Mem K w0 φ M (updB B id (bl l)) w∧Ext φ M B w φ M (updB B id (bl l)) w) (hblk:∀ l',l'.length=l.length→(B id).Le (bl l'))
  (hrow:(φ id=none∧l.length=0)∨∃ b o c el fz,φ id=some (b,o,c.size)∧w.heap[b]? = some (.cells c el fz)∧Row (view w M) e l c o∧okFz c fz∧M b)
  (hrep:∀ (l':List e.den) (c':Array Value) (b o:Nat) (el:TypeId) (fz:Nat×Nat) (w':World) (B2:Nat→Blk),l'.length=l.length→φ id=some (b,o,c'.size)→w'.heap[b]? = some (.cells c' el fz)→Row (view w' M) e l' c' o→okFz c' fz→M b→RepB φ M w' (view w' M) B2 id (bl l')) :
  ∃ v w',(Builtin.copy_ #[tid,uid] ty #[va, .slice ad ys.length cap]).run P w = .ok v w'∧After K w0 φ M B w (updB B id (bl (cpy l off n ys))) (int (minI (ofn n) (len ys))) v w':=by
 have hlen:(Builtin.lenOf (.slice ad ys.length cap)).run P w = .ok ys.length w:=rfl
 obtain ⟨news,f1,f2⟩:=qDs (P:=P) (cap:=cap) hy n
 rw [← g2] at f1
 have hv:∀ φ' H' B2,RepP φ' H' B2 (int (minI (ofn n) (len ys))) (.int .i64 ((Nat.min ys.length n:Nat):Int)):=fun φ' H' B2=>by
  rw [show minI (ofn n) (len ys)=((Nat.min ys.length n:Nat):Int) from qJA n ys.length]
  exact ⟨_,RepC.zV.2 rfl,rfl⟩
 rcases hown with ⟨rfl,a',rfl⟩ | ⟨b,o,sz,cp,k1,rfl,k3,k4,k5⟩
 ·have hn:news=[]:=by
   have:=f2.1
   simpa using this
  subst hn
  obtain ⟨m1,e1⟩:=hsame rfl
  refine ⟨_,w, ?_,φ,M,by rw [qDr];exact m1,by rw [qDr];exact e1,hv _ _ _⟩
  cases a' with
  | none=>exact qkQ hu g1 hlen rfl f1
  | some a'=>exact qkP hu g1 hlen rfl f1 (by simp [storeCells])
 ·rcases hrow with ⟨q1,_⟩ | ⟨b',o',c,el,fz,q1,q2,q3,q4,q5⟩
  ·rw [k1] at q1;cases q1
  ·rw [k1] at q1;cases q1
   have hnl:news.length=(ys.take n).length*e.size:=f2.1
   have hmn:(off+(ys.take n).length)*e.size≤l.length*e.size:=Nat.mul_le_mul_right _ (by rw [List.length_take];omega)
   rw [Nat.add_mul] at hmn
   have q31:=q3.1
   have hfit:o+off*e.size+news.length≤c.size:=by omega
   obtain ⟨w',s1,c',s2,s3⟩:=kM (P:=P) (b:=b) (el:=el) (fz:=fz) (o:=o+off*e.size) news 0 c w q2 q4 (by omega) f2.one
   simp only [Nat.add_zero] at s3
   obtain ⟨hsz,hr'⟩:=q3.copy (n:=n) hle f2 s3
   refine ⟨_,w',qkP hu g1 hlen rfl f1 s1, ?_⟩
   obtain ⟨hm',he'⟩:=hm.put (id:=id) (x:=(b,o,c.size)) (w':=w') hmut k1 q5 s2.os s2.tape s2.output s2.size s2.other (bl (cpy l off n ys)) (hblk _ (qiP hle)) fun he' =>
    hrep _ c' b o el fz w' _ (qiP hle) (by rw [k1,hsz]) s2.here (hr'.mono he'.vw) (q4.same hsz) q5
   exact ⟨φ,M,hm',he',hv _ _ _⟩
theorem qJ2 {e:Ty} {tid uid ty:TypeId} (ht:(fit P (.sl e)).1 tid) {a x r:PV} {va vx:Value} (h:(qJ3 e a x).go g B=some (r,B')) (hm:Mem K w0 φ M B w)
  (hra:RepP φ (view w M) B a va) (hrx:RepP φ (view w M) B x vx) :
  ∃ v w',(Builtin.copy_ #[tid,uid] ty #[va,vx]).run P w = .ok v w'∧After K w0 φ M B w B' r v w':=by
 unfold qJ3 at h
 replace h:=jU h;obtain ⟨hpos,h⟩:=h
 have hpos:0 < e.size:=by simpa using hpos
 obtain ⟨ys,B1,h1,h2⟩:=PM.qF h
 clear h
 obtain ⟨rfl,ad,cap,rfl,hy⟩:=qEW h1 hm hrx
 obtain ⟨⟨et,hu,he⟩,_⟩:=ht
 obtain ⟨i,g1,g2,g3,g4⟩:=xC he
 cases a <;> try (cases h2;done)
 case nil =>
  cases h2
  have hva:va = .slice none 0 0:=hra
  subst hva
  obtain ⟨news,f1,f2⟩:=qDs (P:=P) (cap:=cap) hy 0
  rw [← g2] at f1
  have hn:news=[]:=by
   have:=f2.1
   rw [show List.take (α:=e.den) 0 ys=[] from List.take_zero] at this
   exact List.length_eq_zero_iff.1 (this.trans (by simp))
  subst hn
  refine ⟨_,w,qkQ hu g1 rfl rfl f1,φ,M,hm,Ext.refl _ _ _ _, ?_⟩
  rw [show Nat.min (List.length (α:=e.den) ys) 0=0 from Nat.min_zero _]
  exact ⟨_,RepC.zV.2 rfl,rfl⟩
 case own id ne =>
  simp only [PM.go] at h2
  have hs:RepS φ (view w M) B1 (.own id ne) va:=hra
  simp only [RepS] at hs
  have hb:=hm.blks id
  generalize hB:B1 id=bl at h2 hs hb
  cases bl <;> try (cases h2;done)
  rename_i e' l
  obtain ⟨zs,B2,h3,h4⟩:=PM.qF h2
  clear h2
  obtain ⟨hz,rfl⟩:=qV h3
  obtain ⟨ee,rfl⟩:=qX hz
  subst ee
  cases h4
  refine qwE (id:=id) (off:=0) (n:=l.length) (l:=l) (bl:=fun l => .ob e l) hu g1 g2 hm hy (by rw [hB];rfl) (by omega) hs.1 (fun _=>by rw [qxT hB];exact ⟨hm,Ext.refl _ _ _ _⟩) (fun l' hl=>by rw [hB];exact ⟨rfl,hl.symm⟩) hb.2 ?_
  intro l' c' b o el fz w' B2 q0 q1 q2 q3 q4 q5
  exact ⟨hpos, .inr ⟨b,o,c',el,fz,q1,q2,q3,q4,q5⟩⟩
 case osl id off n =>
  simp only [PM.go] at h2
  have hs:RepS φ (view w M) B1 (.osl id off n) va:=hra
  simp only [RepS] at hs
  have hb:=hm.blks id
  generalize hB:B1 id=bl at h2 hs hb
  cases bl <;> try (cases h2;done)
  case ob e' l =>
   obtain ⟨zs,B2,h3,h4⟩:=PM.qF h2
   clear h2
   obtain ⟨hz,rfl⟩:=qV h3
   obtain ⟨ee,rfl⟩:=qX hz
   subst ee
   cases h4
   refine qwE (id:=id) (off:=off) (n:=n) (l:=l) (bl:=fun l => .ob e l) hu g1 g2 hm hy (by rw [hB];rfl) hs.1 hs.2 (fun _=>by rw [qxT hB];exact ⟨hm,Ext.refl _ _ _ _⟩) (fun l' hl=>by rw [hB];exact ⟨rfl,hl.symm⟩) hb.2 ?_
   intro l' c' b o el fz w' B2 q0 q1 q2 q3 q4 q5
   exact ⟨hpos, .inr ⟨b,o,c',el,fz,q1,q2,q3,q4,q5⟩⟩
  case box t v =>
   cases t <;> try (cases h2;done)
   rename_i m e'
   obtain ⟨l,B2,h3,h4⟩:=PM.qF h2
   clear h2
   obtain ⟨hl,rfl⟩:=qV h3
   obtain ⟨zs,B3,h5,h6⟩:=PM.qF h4
   clear h4
   obtain ⟨hz,rfl⟩:=qV h5
   obtain ⟨ee,rfl⟩:=qX hz
   subst ee
   cases h6
   obtain ⟨b0,o0,c0,el0,fz0,k1,k2,k3,k4,k5,k6⟩:=hb
   obtain ⟨hlen',hrow⟩:=qDB (qoI hl k4) k3
   have hbx:∀ (l':List e.den) (c':Array Value) (b o:Nat) (el:TypeId) (fz:Nat×Nat) (w':World) (B2:Nat→Blk),l'.length=List.length (α:=e.den) l→φ id=some (b,o,c'.size)→w'.heap[b]? = some (.cells c' el fz)→Row (view w' M) e l' c' o→okFz c' fz→M b→RepB φ M w' (view w' M) B2 id (.box (.ar m e) (.sc (.ar m e) l')) :=
    fun l' c' b o el fz w' B2 q0 q1 q2 q3 q4 q5=>by
     have hml:l'.length=m:=q0.trans hlen'
     have q31:=q3.1
     rw [hml] at q31
     exact ⟨b,o,c',el,fz,q1,q2,q31,⟨rfl,qKF q3 hml⟩,q4,q5⟩
   refine qwE (id:=id) (off:=off) (n:=n) (l:=l) (bl:=fun l => .box (.ar m e) (.sc (.ar m e) l)) hu g1 g2 hm hy (by rw [hB];rfl) (by rw [hlen'];exact hs.2.1) hs.2.2 (fun _ => ?_) (fun l' hl=>by rw [hB];rfl)
    (.inr ⟨b0,o0,c0,el0,fz0,k1,k2,hrow,k5,k6⟩) hbx
   exact hm.put (id:=id) (x:=(b0,o0,c0.size)) (w':=w) (by rw [hB];rfl) k1 k6 rfl rfl rfl rfl (fun _ _=>rfl) _ (by rw [hB];rfl) fun he' =>
    hbx _ c0 b0 o0 el0 fz0 w _ rfl k1 k2 hrow k5 k6
theorem qx5 {n:Nat} {xe:Ty} {tid:TypeId} (ht:(fit P (.ar n xe)).1 tid) {a r:PV} {va:Value} {lo hi:Option Int} (h:(qu6 n xe a (qJ lo 0) (qJ hi (ofn n))).go g B=some (r,B')) (hm:Mem K w0 φ M B w)
  (hra:RepP φ (view w M) B a va) (ks kh:IntKind):B'=B∧∃ v,(Instr.sliceAt tid va (lo.map fun i => .int ks i) (hi.map fun i => .int kh i) none).run P w = .ok v w∧RepP φ (view w M) B r v:=by
 have run:∀ {b o:Nat},inC (qJ lo 0) (qJ hi (ofn n)) (ofn n)=true→(Instr.sliceAt tid (.pointer (some ⟨b,o,none⟩)) (lo.map fun i => .int ks i) (hi.map fun i => .int kh i) none).run P w =
   .ok (.slice (some (if n=(qJ lo 0).toNat then ⟨b,o,none⟩ else (⟨b,o,none⟩:Addr).add ((qJ lo 0).toNat*xe.size))) ((qJ hi (ofn n)).toNat - (qJ lo 0).toNat) (n - (qJ lo 0).toNat)) w:=by
  intro b o hb
  obtain ⟨⟨et,hu,he⟩,_⟩:=ht
  have hb':=qb2 (P:=P) (isSlice:=false) (ks:=ks) (kh:=kh) (Nat.le_refl n) hb w
  have hz:=jE he w
  simp [Instr.sliceAt,Instr.sureAddr,run_underlying hu,hb',hz]
  rfl
 unfold qu6 at h
 split at h
 ·rename_i id
  simp only [PM.go] at h
  have hs:RepS φ (view w M) B (.ptr id []) va:=hra
  simp only [RepS] at hs
  have hb:=hm.blks id
  generalize hB:B id=bl at h hs hb
  cases bl <;> try (cases h;done)
  case box t v =>
   replace h:=jU h;obtain ⟨hc,h⟩:=h
   replace h:=x9 h;obtain ⟨hin,h⟩:=h
   cases h
   simp only [Bool.and_eq_true] at hc
   obtain ⟨h1,h2,h3⟩:=hc
   have:=jV h1;subst this
   have hpos:0 < xe.size:=by simpa using h2
   have hmax:n≤16777216:=by simpa using h3
   obtain ⟨b,o,m,off,t',k1,k2,rfl⟩:=hs
   simp only [Ty.z3,Option.some.injEq,Prod.mk.injEq] at k2
   obtain ⟨rfl,_⟩:=k2
   obtain ⟨b0,o0,c0,el0,fz0,q1,q2,q3,q4,q5,q6⟩:=hb
   rw [k1] at q1;cases q1
   have q3:o+n*xe.size≤c0.size:=q3
   obtain ⟨p1,p2,p3⟩:=qeY.1 hin
   have p3:qJ hi (ofn n)≤(n:Int):=p3
   refine ⟨rfl,_,run hin, ?_⟩
   show RepS φ (view w M) B (.osl id (nat (qJ lo 0)) (nsub (nat (qJ hi (ofn n))) (nat (qJ lo 0)))) _
   simp only [RepS,hB]
   refine ⟨hpos,by unfold nsub nat;omega, ?_⟩
   unfold nsub nat
   by_cases hl:n=(qJ lo 0).toNat
   ·left
    rw [if_pos hl]
    exact ⟨by omega,_,by rw [show (qJ hi (ofn n)).toNat - (qJ lo 0).toNat=0 by omega,show n - (qJ lo 0).toNat=0 by omega]⟩
   ·right
    rw [if_neg hl]
    refine ⟨b,o,c0.size,n - (qJ lo 0).toNat,k1,by simp [yM],by omega,by unfold maxLen;omega, ?_⟩
    rw [show (qJ lo 0).toNat+(n - (qJ lo 0).toNat)=n by omega]
    exact q3
  case fz e l =>
   replace h:=jU h;obtain ⟨hc,h⟩:=h
   replace h:=x9 h;obtain ⟨hin,h⟩:=h
   cases h
   simp only [Bool.and_eq_true] at hc
   obtain ⟨h1,h3⟩:=hc
   have:=jV h1;subst this
   have hmax:n≤16777216:=by simpa using h3
   simp only [band,Bool.and_eq_true] at hin
   obtain ⟨hln,hin⟩:=hin
   have hln:l.length=n:=Nat.eq_of_beq_eq_true hln
   obtain ⟨b,o,m,k1,k2⟩:=hs
   have:=k2 trivial;subst this
   rcases hb.2 with ⟨q1,_⟩ | ⟨b0,o0,c0,el0,fz0,q1,q2,q3⟩
   ·rw [k1] at q1;cases q1
   ·rw [k1] at q1;cases q1
    obtain ⟨p1,p2,p3⟩:=qeY.1 hin
    have p3:qJ hi (ofn n)≤(n:Int):=p3
    have hC:RepC (view w M) (.sl e) l [.slice (some ⟨b,o,none⟩) l.length n] :=
     RepC.jT.2 ⟨_,n,rfl,by omega,by unfold maxLen;omega, .inr ⟨b,o,c0,el0,fz0,rfl,q2,q3.1,q3.2⟩⟩
    have h5:=hC.sub (L:=(qJ lo 0).toNat) (N:=(qJ hi (ofn n)).toNat - (qJ lo 0).toNat) (cap':=n - (qJ lo 0).toNat) (by omega) (by omega) (Nat.le_refl _)
    refine ⟨rfl,_,run hin,_,h5, ?_⟩
    refine (show Value.slice _ _ _=Value.slice _ _ _ from ?_)
    congr 1
    by_cases hl:n=(qJ lo 0).toNat
    ·rw [if_pos hl,if_pos (by omega)]
    ·rw [if_neg hl,if_neg (by omega)];rfl
 ·cases h
end
end Yp
namespace Yp
open Go
variable {P : Program}
section
variable {K : Kp} {w0 w : World} {φ : Pl} {M : Nat → Prop} {B B' : Nat → Blk} {g : Nat → PV} {H : View}
theorem qJv {x r:PV} {vx:Value} (h:(qJw x).go g B=some (r,B')) (hm:Mem K w0 φ M B w) (hr:RepP φ (view w M) B x vx) (ty:TypeId) :
  ∃ v w',(Instr.next vx true ty).run P w = .ok v w'∧After K w0 φ M B w B' r v w':=by
 cases x <;> try (cases h;done)
 rename_i id
 simp only [qJw,PM.go] at h
 have hs:RepS φ (view w M) B (.itp id) vx:=hr
 have hbl:=hm.blks id
 simp only [RepS] at hs
 generalize hB:B id=bl at h hs hbl
 cases bl <;> try (cases h;done)
 rename_i s p
 obtain ⟨b,h1,rfl⟩:=hs
 obtain ⟨b',g1,g2,g3⟩:=hbl
 rw [h1] at g1;cases g1
 have hgo:∀ w':World,w'.heap[b]? = some (.stringIter ⟨s.toArray⟩ p)→(getObj b).run P w' = .ok (.stringIter ⟨s.toArray⟩ p) w':=fun w' hw=>by simp [getObj,Sem.run,hw]
 have hsz:(⟨s.toArray⟩:ByteArray).size=s.length:=rfl
 by_cases hp:p < s.length
 ·have hn:nlt p (ln s)=true:=by simpa [nlt,ln] using hp
  rw [PM.go,if_pos hn] at h
  cases h
  let w':World:={ w with heap:=w.heap.setIfInBounds b (.stringIter ⟨s.toArray⟩ (p+(decode s p).2)) }
  have hlt:b < w.heap.size:=(Array.getElem?_eq_some_iff.1 g2).1
  have hb':w'.heap[b]? = some (.stringIter ⟨s.toArray⟩ (p+(decode s p).2)):=by simp [w',hlt]
  have ho:∀ j,j≠b→w'.heap[j]? = w.heap[j]? := fun j hj=>by simp [w',Array.getElem?_setIfInBounds_ne (Ne.symm hj)]
  have hdec:Utf8.decode (⟨s.toArray⟩:ByteArray) p=decode s p:=rfl
  refine ⟨.tuple #[.bool true,goInt p, .int .i32 ((decode s p).1:Int)],w', ?_, ?_⟩
  ·simp [Instr.next,hgo w g2,hsz,hp,hdec,setObj,Sem.run,g2,w']
  ·obtain ⟨m1,e1⟩:=hm.put (id:=id) (x:=(b,0,0)) (w':=w') (by rw [hB];rfl) h1 g3 rfl rfl rfl (by simp [w']) ho (.it s (nadd p (decode s p).2)) (by rw [hB];rfl) (fun _=>⟨b,h1,hb',g3⟩)
   refine ⟨φ,M,m1,e1,[.bool true,goInt p, .int .i32 ((decode s p).1:Int)], ?_,rfl⟩
   have q1:RepQ φ (view w' M) (updB B id (.it s (nadd p (decode s p).2))) (Yp.int (ofn p)) (goInt p):=RepP.qlC (φ:=φ) (B:=updB B id (.it s (nadd p (decode s p).2))) _ p
   have q2:RepQ φ (view w' M) (updB B id (.it s (nadd p (decode s p).2))) (.sc (.int .i32) (ofn (decode s p).1)) (.int .i32 ((decode s p).1:Int)):=RepP.qgP φ _ (updB B id (.it s (nadd p (decode s p).2))) .i32 ((decode s p).1:Int)
   exact ⟨_,_,rfl,rfl,_,_,rfl,q1,_,_,rfl,q2,rfl⟩
 ·have hn:¬ (nlt p (ln s)=true):=by simpa [nlt,ln] using hp
  rw [PM.go,if_neg hn] at h
  cases h
  refine ⟨.tuple #[.bool false],w, ?_,After.same hm rfl ?_⟩
  ·simp [Instr.next,hgo w g2,hsz,hp]
  ·exact ⟨[.bool false],⟨_,_,rfl,rfl,rfl⟩,rfl⟩
theorem qGK {b c:Bool} {k:PM PV} {r:PV×(Nat→Blk)} (h:(chkU b c k).go g B=some r):(b=true∨c=true)∧k.go g B=some r:=by
 cases b with
 | true=>exact ⟨.inl rfl,h⟩
 | false=>obtain ⟨h1,h2⟩:=x9 h;exact ⟨.inr h1,h2⟩
theorem qCF {op:BinOp} (hop:op = .shl∨op = .shr) {k k':IntKind} {x:KD k} {y:KD k'} (hy:0≤KD.to k' y) (t:TypeId) (w:World) :
  ∃ v,(binOp op t (.int k (KD.to k x)) (.int k' (KD.to k' y))).run P w = .ok v w ∧
   RepP φ H B (match op with | .shl => .sc (.int k) (KD.of k (shlI k (KD.to k x) (KD.to k' y))) | _ => .sc (.int k) (KD.lit k (shrI k (KD.to k x) (KD.to k' y)))) v:=by
 have hn:¬ KD.to k' y < 0:=by omega
 rcases hop with rfl | rfl
 ·refine ⟨.int k (k.wrap (shlI k (KD.to k x) (KD.to k' y))),by simp [binOp,Op.shift,hn,shlI], ?_⟩
  have:=RepP.qgP φ H B k (KD.of k (shlI k (KD.to k x) (KD.to k' y)))
  rwa [KD.qG6] at this
 ·refine ⟨.int k (shrI k (KD.to k x) (KD.to k' y)),by simp [binOp,Op.shift,hn,shrI], ?_⟩
  have:=RepP.qgP φ H B k (KD.lit k (shrI k (KD.to k x) (KD.to k' y)))
  rw [KD.qF2] at this
  ·exact this
  ·intro hu
   have h1:=KD.qxW k x hu
   have h2:=KD.qIi k x hu
   unfold shrI
   have hp:(0:Int) < 2 ^ (Nat.min (KD.to k' y).toNat k.bits):=Int.pow_pos (by omega)
   rw [Int.fdiv_eq_ediv_of_nonneg _ (Int.le_of_lt hp)]
   exact ⟨Int.ediv_nonneg h1 (Int.le_of_lt hp),Int.le_trans (Int.ediv_le_self _ h1) h2⟩
theorem run_equalIn_bool (n:Nat) {tid:TypeId} (hu:P.underlying tid=some .bool) (p q:Bool) (w:World):(Op.equalIn (n+1) tid (.bool p) (.bool q)).run P w = .ok (p == q) w:=by
 rw [Op.equalIn]
 simp only [Sem.run_bind,run_underlying hu,Result.andThen]
 rfl
theorem qsL {tid:TypeId} (hu:P.underlying tid=some .bool) (p q:Bool) (w:World):(Op.equal tid (.bool p) (.bool q)).run P w = .ok (p == q) w :=
 run_equalIn_bool 9999 hu p q w
theorem qu8 {tid et:TypeId} (hu:P.underlying tid=some (.slice et)) (ad:Option Addr) (l c:Nat) (w:World):(Op.equal tid (.slice ad l c) (.slice none 0 0)).run P w = .ok ad.isNone w:=by
 show (Op.equalIn (9999+1) tid _ _).run P w=_
 rw [Op.equalIn]
 simp only [Sem.run_bind,run_underlying hu,Result.andThen]
 cases ad <;> rfl
theorem qKe {E:Env} (hT:qfZ P E.T) (hC:qm9 P E.T E.C) {op:BinOp} {tid:TypeId} {a b r:PV} {va vb:Value} (h:(binE E op tid a b).go g B=some (r,B')) (hra:RepP φ H B a va) (hrb:RepP φ H B b vb) (x y:Operand) (w:World) :
  B'=B∧∃ v,(do eqGuard op tid x y va vb;binOp op tid va vb:Sem Value).run P w = .ok v w∧RepP φ H B r v:=by
 unfold binE at h
 cases ht:E.T tid with
 | none=>rw [ht] at h;cases h
 | some t =>
  rw [ht] at h
  cases hi:Ty.is t .bool with
  | true =>
   have:=jV hi;subst this
   simp only [hi,cond_true] at h
   have hu:P.underlying tid=some .bool:=(hT _ _ ht).1
   cases ha:toD .bool a with
   | none=>rw [ha] at h;cases h
   | some p =>
    cases hb:toD .bool b with
    | none=>rw [ha,hb] at h;cases h
    | some q =>
     rw [ha,hb] at h
     have e1:=(qfY ha hra).bool
     have e2:=(qfY hb hrb).bool
     subst e1;subst e2
     have hg:(eqGuard op tid x y (.bool p) (.bool q)).run P w = .ok () w:=by unfold eqGuard;cases op <;> rfl
     have heq:(Op.equal tid (.bool p) (.bool q)).run P w = .ok (beb p q) w:=Yp.qsL hu p q w
     cases op <;> try (cases h;done)
     ·cases h
      exact ⟨rfl,_,by simp [hg,binOp,heq],RepP.qcA _ _ _ _⟩
     ·cases h
      exact ⟨rfl,_,by simp [hg,binOp,heq,bnot],RepP.qcA _ _ _ _⟩
  | false =>
   simp only [hi,cond_false] at h
   cases hc:E.C tid with
   | false =>
    rw [hc,cond_false] at h
    unfold qKY at h
    split at h
    ·rename_i e t' z
     obtain ⟨y1,B1,h1,h2⟩:=PM.qF h
     clear h
     obtain ⟨hz,rfl⟩:=qV h1
     obtain ⟨ee,rfl⟩:=yG hz
     subst ee
     cases h2
     simp only [RepP,RepQ,RepS] at hrb;subst hrb
     obtain ⟨cs,h3,rfl⟩:=hra
     obtain ⟨ad,cap,rfl,h4,h5,h6⟩:=RepC.qjM.1 h3
     obtain ⟨⟨et,hu,_⟩,_⟩:=hT _ _ ht
     refine ⟨rfl,_, ?_,ad.isNone,rfl,fun hn => ?_⟩
     ·have hg:∀ n,(eqGuard .eql tid x y (.slice ad n cap) (.slice none 0 0)).run P w = .ok () w:=fun _=>rfl
      have heq:=fun n=>qu8 (P:=P) hu ad n cap w
      simp [hg,binOp,mkV,Ty.isAgg,heq]
     ·rcases h6 with h6 | ⟨b,o,c,el,fz,rfl,_⟩
      ·simp [beq,len,h6]
      ·cases hn
    ·cases h
   | true =>
   rw [hc,cond_true] at h
   have hok:=hC tid t hc ht
   simp only [cmpB,Bool.and_eq_true,Bool.not_eq_true',Nat.ble_eq] at hok
   obtain ⟨⟨⟨hag,hdep⟩,hcmp⟩,hgd⟩:=hok
   cases ha:toD t a with
   | none=>rw [ha] at h;cases h
   | some p =>
    cases hb:toD t b with
    | none=>rw [ha,hb] at h;cases h
    | some q =>
     rw [ha,hb] at h
     obtain ⟨cs,c1,e1⟩:=qfY ha hra
     obtain ⟨ds,c2,e2⟩:=qfY hb hrb
     rw [qeS hag] at e1 e2
     subst e1;subst e2
     have hg:=run_eqGuard_agg (P:=P) w op tid x y cs.toArray ds.toArray hgd
     have heq:(Op.equal tid (.agg cs.toArray) (.agg ds.toArray)).run P w = .ok (t.eqd p q) w:=by
      have:=(qH6 (P:=P) (H:=H) (H':=H) w t).1 tid 10000 p q cs ds hcmp (hT _ _ ht) c1 c2 (by omega)
      rwa [qeS hag,qeS hag] at this
     cases op <;> try (cases h;done)
     ·cases h
      exact ⟨rfl,_,by simp [hg,binOp,heq],RepP.qcA _ _ _ _⟩
     ·cases h
      exact ⟨rfl,_,by simp [hg,binOp,heq,bnot],RepP.qcA _ _ _ _⟩
theorem qKc {E:Env} (hT:qfZ P E.T) (hC:qm9 P E.T E.C) {nz nn:Bool} {op:BinOp} {tid:TypeId} {a b r:PV} {va vb:Value} (h:(binP E nz nn op tid a b).go g B=some (r,B')) (hra:RepP φ H B a va) (hrb:RepP φ H B b vb)
  (hnz:nz=true→∀ k n,vb = .int k n→n≠0) (hnn:nn=true→∀ k n,vb = .int k n→0≤n) (x y:Operand) (w:World) :
  B'=B∧∃ v,(do eqGuard op tid x y va vb;binOp op tid va vb:Sem Value).run P w = .ok v w∧RepP φ H B r v:=by
 unfold binP at h
 split at h
 ·rename_i k p k' q
  have e1:=hra.int;have e2:=hrb.int
  subst e1;subst e2
  have hg:=qBC (P:=P) op tid x y k k' (KD.to k p) (KD.to k' q) w
  split at h
  ·obtain ⟨hc,h⟩:=qGK h
   cases h
   have hy:0≤KD.to k' q:=by
    rcases hc with hc | hc
    ·simp only [Bool.or_eq_true] at hc
     rcases hc with hc | hc
     ·exact hnn hc _ _ rfl
     ·exact KD.qxW _ _ hc
    ·simpa [le] using hc
   obtain ⟨v,h1,h2⟩:=qCF (P:=P) (φ:=φ) (H:=H) (B:=B) (op := .shl) (.inl rfl) (x:=p) (y:=q) hy tid w
   exact ⟨rfl,v,by simp [hg,h1],h2⟩
  ·obtain ⟨hc,h⟩:=qGK h
   cases h
   have hy:0≤KD.to k' q:=by
    rcases hc with hc | hc
    ·simp only [Bool.or_eq_true] at hc
     rcases hc with hc | hc
     ·exact hnn hc _ _ rfl
     ·exact KD.qxW _ _ hc
    ·simpa [le] using hc
   obtain ⟨v,h1,h2⟩:=qCF (P:=P) (φ:=φ) (H:=H) (B:=B) (op := .shr) (.inr rfl) (x:=p) (y:=q) hy tid w
   exact ⟨rfl,v,by simp [hg,h1],h2⟩
  ·split at h
   ·rename_i q' hq
    obtain ⟨e,rfl⟩:=yG hq
    cases e
    obtain ⟨hB,v,h1,h2⟩:=qKd (P:=P) h (fun hz=>hnz hz _ _ rfl) tid w φ H
    exact ⟨hB,v,by simp [hg,h1],h2⟩
   ·cases h
 ·rename_i p q
  have e1:=hra.str;have e2:=hrb.str
  subst e1;subst e2
  have hg:=qBB (P:=P) op tid x y ⟨p.toArray⟩ ⟨q.toArray⟩ w
  obtain ⟨hB,v,h1,h2⟩:=qKb (P:=P) h tid w φ H
  exact ⟨hB,v,by simp [hg,h1],h2⟩
 ·exact qKe hT hC h hra hrb x y w
end
end Yp
namespace Yp
open Go
variable {P : Program}
def qnF (φ:Pl) (H:View) (B:Nat→Blk):List (Nat×PV)→List (Nat×Value)→Prop
 | [],[]=>True
 | p :: ps,v :: vs=>p.1=v.1∧RepP φ H B p.2 v.2∧qnF φ H B ps vs
 | _,_=>False
section
variable {K : Kp} {w0 w : World} {φ : Pl} {M : Nat → Prop} {B B' : Nat → Blk} {g : Nat → PV} {H : View}
theorem qnF.ext {φ':Pl} {M':Nat→Prop} {w':World} (he:Ext φ M B w φ' M' B' w'):∀ {ps:List (Nat×PV)} {vs:List (Nat×Value)},qnF φ (view w M) B ps vs→qnF φ' (view w' M') B' ps vs
 | [],[],_=>trivial
 | _ :: _,_ :: _,h=>⟨h.1,he.p h.2.1,qnF.ext he h.2.2⟩
 | [],_ :: _,h=>h.elim
 | _ :: _,[],h=>h.elim
theorem qqK {a:Act} (hs:Slots φ H B g a):∀ {l:List (Nat×Operand)} {B':Nat→Blk} {ps:List (Nat×PV)},(qCU l).go g B=some (ps,B')→B'=B∧qnF φ H B ps (l.map fun p=>(p.1,a.eval p.2))
 | [],B',ps,h=>by cases h;exact ⟨rfl,trivial⟩
 | p :: l,B',ps,h=>by
  have h:(((opd p.2).bind fun v => .ret (p.1,v)).bind fun b=>(qCU l).bind fun bs => .ret (b :: bs)).go g B=some (ps,B'):=h
  obtain ⟨b,B1,h1,h2⟩:=PM.qF h
  obtain ⟨v,B2,h3,h4⟩:=PM.qF h1
  cases h4
  obtain ⟨hB2,hv⟩:=qqP h3 hs
  obtain ⟨bs,B3,h5,h6⟩:=PM.qF h2
  cases h6
  rw [hB2] at h5
  obtain ⟨hB,hp⟩:=qqK hs h5
  exact ⟨hB,rfl,hv,hp⟩
theorem qDb (off:Nat):∀ (vs:List Value) (k:Nat) (cs:Array Value),off+k+vs.length≤cs.size →
  ((vs.zipIdx k).foldl (fun cs (p:Value×Nat)=>cs.setIfInBounds (off+p.2) p.1) cs).toList=splice cs.toList (off+k) vs
 | [],k,cs,h=>by simp [splice]
 | v :: vs,k,cs,h=>by
  simp only [List.zipIdx_cons,List.foldl_cons]
  simp only [List.length_cons] at h
  have hlen:off+(k+1)+vs.length≤cs.toList.length:=by simp;omega
  have hlen2:off+k+(v :: vs).length≤cs.toList.length:=by simp;omega
  rw [qDb off vs (k+1) _ (by simp;omega)]
  apply List.ext_getElem?
  intro j
  rw [v9 (by simp;omega),v9 hlen2]
  simp only [Array.toList_setIfInBounds,List.getElem?_set,List.length_cons,Array.length_toList]
  by_cases h5:j < off+k
  ·rw [if_pos (by omega),if_pos h5,if_neg (by omega)]
  ·rw [if_neg h5]
   by_cases h6:j=off+k
   ·subst h6
    have:off+k < cs.size:=by omega
    simp [this]
   ·by_cases h7:j < off+k+(vs.length+1)
    ·rw [if_neg (by omega),if_pos (by omega),if_pos h7]
     rw [show j - (off+k)=(j - (off+(k+1)))+1 by omega,List.getElem?_cons_succ]
    ·rw [if_neg (by omega),if_neg (by omega),if_neg h7,if_neg (by omega)]
theorem qF6 (off:Nat) (vs cs:Array Value) (h:off+vs.size≤cs.size) :
  (vs.zipIdx.foldl (fun cs (p:Value×Nat)=>cs.setIfInBounds (off+p.2) p.1) cs).toList=splice cs.toList off vs.toList:=by
 have:=qDb off vs.toList 0 cs (by simpa using h)
 rw [← Array.foldl_toList]
 simpa using this
theorem qzU {place:Nat→Option (Nat×Nat)} {cs:Array Value} {i:Nat} {v:Value} {rest:List (Nat×Value)} {off size:Nat} (hp:place i=some (off,size)) (hs:v.cells.size=size) (hn:off+size≤cs.size) :
  ∃ cs':Array Value,cs'.toList=splice cs.toList off v.cells.toList∧Instr.fill place cs ((i,v) :: rest)=Instr.fill place cs' rest:=by
 refine ⟨_,qF6 off v.cells cs (by omega), ?_⟩
 have h1:¬ (v.cells.size≠size):=by omega
 have h2:¬ (off+v.cells.size > cs.size):=by omega
 simp [Instr.fill,hp,hs]
 omega
theorem qyP:∀ {t:Ty} {l:List Field} {off:Nat},(fit P t).2 l off→∃ places,l.mapM (fun f=>(P.info? f.type).map fun i=>(f.offset,i.size))=some places ∧
  ∀ i d ft,t.z3 (qY i)=some (d,ft)→places[i]? = some (off+d,ft.size)
 | .bool,_,_,h=>h.elim | .int _,_,_,h=>h.elim | .str,_,_,h=>h.elim | .sl _,_,_,h=>h.elim | .ar _ _,_,_,h=>h.elim
 | .unit,l,off,h=>by
  have h:l=[]:=h
  subst h
  exact ⟨[],rfl,fun i d ft h=>by cases i <;> cases h⟩
 | .pair a b,l,off,h=>by
  obtain ⟨f,r,rfl,h1,h2,h3⟩:=h
  obtain ⟨ps,g1,g2⟩:=qyP h3
  obtain ⟨i,k1,k2,_⟩:=xC h2
  refine ⟨(off,a.size) :: ps,by simp [List.mapM_cons,g1,k1,k2,h1],fun j d ft h => ?_⟩
  cases j with
  | zero =>
   simp only [qY,Ty.z3] at h
   have:(0,a)=(d,ft):=Option.some.inj h
   cases this
   rfl
  | succ j =>
   simp only [qY,Ty.z3,Option.map_eq_some_iff] at h
   obtain ⟨q,hq,he⟩:=h
   cases he
   have:=g2 j q.1 q.2 hq
   simp only [List.getElem?_cons_succ,this]
   congr 2;omega
theorem quV {t:Ty} {place:Nat→Option (Nat×Nat)} (hpl:∀ i d ft,t.z3 (qY i)=some (d,ft)→place i=some (d,ft.size)) :
  ∀ {ps:List (Nat×PV)} {vs:List (Nat×Value)} {v v':PV} {cs:Array Value},(qlO t ps).go g B=some ((),B')→qkH t v ps=some v'→qnF φ H B ps vs→RepT φ H B v t cs.toList →
  B'=B∧∃ cs',Instr.fill place cs vs=some cs'∧RepT φ H B v' t cs'.toList
 | [],[],v,v',cs,h1,h2,h3,h4=>by
  cases h1;cases h2
  exact ⟨rfl,cs,rfl,h4⟩
 | [],_ :: _,v,v',cs,h1,h2,h3,h4=>h3.elim
 | _ :: _,[],v,v',cs,h1,h2,h3,h4=>h3.elim
 | (i,u) :: ps,(j,x) :: vs,v,v',cs,h1,h2,h3,h4=>by
  obtain ⟨hij,hx,h3⟩:=h3
  have hij:i=j:=hij
  subst hij
  simp only [qlO] at h1
  simp only [qkH] at h2
  cases hat:t.at (qY i) with
  | none=>rw [hat] at h1;cases h1
  | some ft =>
   rw [hat] at h1
   simp only at h1
   obtain ⟨_,B1,h5,h6⟩:=PM.qF h1
   clear h1
   obtain ⟨hB1,cu,hcu,hT⟩:=qDk h5 hx
   rw [hB1] at h6
   obtain ⟨d,ho⟩:=qhP hat
   cases hs:setp v (qY i) (qkD u) with
   | none=>rw [hs] at h2;cases h2
   | some v1 =>
    rw [hs] at h2
    have hl:=hT.length
    have hle:=y7 ho
    have hsz:x.cells.size=ft.size:=by rw [← hl,← hcu];simp
    have hcs:=h4.length
    obtain ⟨cs1,e1,e2⟩:=qzU (rest:=vs) (hpl i d ft ho) hsz (cs:=cs) (by simp at hcs;omega)
    have hT1:=qES h4 ho hs hT
    rw [← hcu,← e1] at hT1
    obtain ⟨hB,cs2,e3,e4⟩:=quV hpl h6 h2 h3 hT1
    exact ⟨hB,cs2,by rw [e2];exact e3,e4⟩
theorem qr9 {t:Ty} (hst:isSt t=true) {tid:TypeId} (ht:(fit P t).1 tid) {ps:List (Nat×PV)} {parts:Array (Nat×Value)} {r:PV}
  (h:((qlO t ps).bind fun _=>(PM.opt (qkH t (wS t) ps)).bind fun v => .ret (qkA t v)).go g B=some (r,B')) (hps:qnF φ H B ps parts.toList) (w:World) :
  B'=B∧∃ v,(Instr.build tid parts).run P w = .ok v w∧RepP φ H B r v:=by
 obtain ⟨_,B1,h1,h2⟩:=PM.qF h
 obtain ⟨v,B2,h3,h4⟩:=PM.qF h2
 obtain ⟨h5,rfl⟩:=qV h3
 cases h4
 have hag:t.isAgg=true:=by cases t <;> first | rfl | cases hst
 obtain ⟨fs,hu,hf2⟩:∃ fs,P.underlying tid=some (.struct fs)∧(fit P t).2 fs.toList 0:=by
  cases t <;> try (cases hst;done)
  ·obtain ⟨⟨fs,hu,he⟩,_⟩:=ht;exact ⟨fs,hu,he⟩
  ·obtain ⟨⟨fs,hu,f,q,e1,e2,e3,e4⟩,_⟩:=ht;exact ⟨fs,hu,f,q,e1,e2,e3,by simpa using e4⟩
 obtain ⟨places,p1,p2⟩:=qyP hf2
 obtain ⟨i,k1,k2,_,k4⟩:=xC ht
 have hz':RepT φ H B (wS t) t (zcells t).toArray.toList:=qd2 t
 obtain ⟨hB,cs',e1,e2⟩:=quV (g:=g) (B':=B') (place:=(places.toArray[·]?)) (fun i d ft ho=>by have:=p2 i d ft ho;simpa using this) h1 h5 hps hz'
 refine ⟨hB, .agg cs',run_build w tid parts cs' ?_, ?_⟩
 ·have hzc:((mkV t (zcells t))).cells=(zcells t).toArray:=xZ t
  simp only [Program.built,k1,hu,k4,p1,hzc]
  exact e1
 ·have:=qpJ e2
  simp only [mkV,hag,if_true] at this
  simpa using this
theorem wW {α:Type}:∀ (xs:List (Nat×α)) (l:List α),(qiY l xs).length=l.length
 | [],l=>rfl
 | (i,x) :: xs,l=>by simp only [qiY];rw [wW xs];simp
theorem Els.set {e:Ty} {l:List e.den} {cs:List Value} (h:Els H e l cs) {i:Nat} (hi:i < l.length) {x:e.den} {cu:List Value} (hx:RepC H e x cu):Els H e (l.set i x) (splice cs (i*e.size) cu):=by
 have hl:=hx.length
 have hm:=qnT (s:=e.size) hi
 have hfit:i*e.size+cu.length≤cs.length:=by rw [h.1,hl];exact hm
 refine ⟨by rw [vK hfit,h.1,List.length_set],fun j y hj => ?_⟩
 by_cases hji:j=i
 ·subst hji
  have:=qeU (x:=x) hi
  simp only [upd] at this
  rw [this] at hj;cases hj
  have:=qkE (a:=j*e.size) (o:=0) (n:=e.size) (cs:=cs) (vs:=cu) (by simpa using hfit) (by omega)
  simp only [Nat.add_zero] at this
  rw [this,qtV]
  ·exact hx
  ·rw [List.length_take,List.length_drop];omega
 ·have:=qjX (l:=l) (x:=x) hji
  simp only [upd] at this
  rw [this] at hj
  rw [qaP hfit]
  ·exact h.2 j y hj
  ·rcases Nat.lt_or_gt_of_ne hji with h | h
   ·have:=qnT (s:=e.size) h;left;omega
   ·have:=qnT (s:=e.size) h;right;omega
def qKh (H:View) (e:Ty):List (Nat×e.den)→List (Nat×Value)→Prop
 | [],[]=>True
 | p :: ps,v :: vs=>p.1=v.1∧RepC H e p.2 v.2.cells.toList∧qKh H e ps vs
 | _,_=>False
theorem qmJ {e:Ty}:∀ {ps:List (Nat×PV)} {vs:List (Nat×Value)} {xs:List (Nat×e.den)} {M:Nat→Prop} {B B':Nat→Blk},(qmK e ps).go g B=some (xs,B')→Mem K w0 φ M B w→qnF φ (view w M) B ps vs →
  ∃ M',Mem K w0 φ M' B' w∧Ext φ M B w φ M' B' w∧qKh (view w M') e xs vs∧xs.map (·.1)=ps.map (·.1)
 | [],[],xs,M,B,B',h,hm,_=>by cases h;exact ⟨M,hm,Ext.refl _ _ _ _,trivial,rfl⟩
 | [],_ :: _,xs,M,B,B',h,hm,hp=>hp.elim
 | _ :: _,[],xs,M,B,B',h,hm,hp=>hp.elim
 | (i,u) :: ps,(j,v) :: vs,xs,M,B,B',h,hm,hp=>by
  obtain ⟨hij,hu,hp⟩:=hp
  have hij:i=j:=hij
  subst hij
  simp only [qmK] at h
  obtain ⟨x,B1,h1,h2⟩:=PM.qF h
  obtain ⟨xs',B2,h3,h4⟩:=PM.qF h2
  cases h4
  obtain ⟨cs,hv,M1,m1,e1,_,_,f1⟩:=qpQ h1 hm hu
  obtain ⟨M2,m2,e2,f2,f3⟩:=qmJ h3 m1 (hp.ext e1)
  refine ⟨M2,m2,e1.trans e2,⟨rfl, ?_,f2⟩,by simp [f3]⟩
  have hv:v=mkV e cs:=hv
  have hC:=f1 rfl
  rw [hv,qgQ hC]
  exact hC.mono e2.vw
theorem qv9 {e:Ty} {place:Nat→Option (Nat×Nat)} (hpl:∀ i,place i=some (i*e.size,e.size)) :
  ∀ {xs:List (Nat×e.den)} {vs:List (Nat×Value)} {l:List e.den} {cs:Array Value},qKh H e xs vs→(∀ p∈xs.map (·.1),p < l.length)→Els H e l cs.toList →
  ∃ cs',Instr.fill place cs vs=some cs'∧Els H e (qiY l xs) cs'.toList
 | [],[],l,cs,_,_,h=>⟨cs,rfl,h⟩
 | [],_ :: _,l,cs,hx,_,h=>hx.elim
 | _ :: _,[],l,cs,hx,_,h=>hx.elim
 | (i,x) :: xs,(j,v) :: vs,l,cs,hx,hi,h=>by
  obtain ⟨hij,hC,hx⟩:=hx
  have hij:i=j:=hij
  subst hij
  have hlt:i < l.length:=hi i (by simp)
  have hl:=hC.length
  have hm:=qnT (s:=e.size) hlt
  have hsz:v.cells.size=e.size:=by simpa using hl
  have hcs:=h.1
  obtain ⟨cs1,e1,e2⟩:=qzU (rest:=vs) (hpl i) hsz (cs:=cs) (by simp at hcs;omega)
  have h1:=h.set hlt hC
  rw [← e1] at h1
  obtain ⟨cs2,e3,e4⟩:=qv9 hpl hx (fun p hp=>by rw [List.length_set];exact hi p (by simp at hp ⊢; exact .inr hp)) h1
  exact ⟨cs2,by rw [e2];exact e3,e4⟩
theorem Els.ar {e:Ty} {l:List e.den} {cs:List Value} {n:Nat} (h:Els H e l cs) (hn:l.length=n):RepC H (.ar n e) l cs:=RepC.quY.2 ⟨hn,by rw [h.1,hn],h.2⟩
theorem qCf {n:Nat} {e:Ty} {tid:TypeId} (ht:(fit P (.ar n e)).1 tid) {ps:List (Nat×PV)} {parts:Array (Nat×Value)} {r:PV}
  (h:((PM.need (ps.all fun p=>Nat.blt p.1 n)).bind fun _=>(qmK e ps).bind fun xs => .ret (.sc (.ar n e) (qiY (List.replicate n e.zero) xs))).go g B=some (r,B')) (hm:Mem K w0 φ M B w) (hps:qnF φ (view w M) B ps parts.toList) :
  ∃ v,(Instr.build tid parts).run P w = .ok v w∧After K w0 φ M B w B' r v w:=by
 obtain ⟨_,B1,h1,h2⟩:=PM.qF h
 obtain ⟨hall,rfl⟩:=jQ h1
 obtain ⟨xs,B2,h3,h4⟩:=PM.qF h2
 cases h4
 obtain ⟨M2,m2,e2,f2,f3⟩:=qmJ h3 hm hps
 obtain ⟨i,k1,k2,_,k4⟩:=xC ht
 obtain ⟨⟨et,hu,he⟩,_⟩:=ht
 obtain ⟨ie,j1,j2,_,j4⟩:=xC he
 have hz:=RepC.quY.1 (RepC.zero (view w M2) (.ar n e))
 have hE:Els (view w M2) e (List.replicate n e.zero) (zcells (.ar n e)).toArray.toList:=⟨by simpa using hz.2.1,fun i x hi=>by simpa using hz.2.2 i x hi⟩
 have hlt:∀ p∈xs.map (·.1),p < (List.replicate n e.zero).length:=fun p hp=>by
  rw [f3,List.mem_map] at hp
  obtain ⟨q,hq,rfl⟩:=hp
  have:=List.all_eq_true.1 hall q hq
  simpa using this
 obtain ⟨cs',q1,q2⟩:=qv9 (place:=fun i=>some (i*ie.size,ie.size)) (fun i=>by rw [j2]) f2 hlt hE
 have hzc:(mkV (.ar n e) (zcells (.ar n e))).cells=(zcells (.ar n e)).toArray:=xZ _
 refine ⟨.agg cs',run_build w tid parts cs' ?_,φ,M2,m2,e2,cs'.toList,q2.ar (by rw [wW];simp),by simp [mkV,Ty.isAgg]⟩
 simp only [Program.built,k1,hu,k4,j1,hzc]
 exact q1
theorem qxA {e:Ty} {tid:TypeId} (ht:(fit P (.sl e)).1 tid) {d n:Nat} {ps:List (Nat×PV)} {parts:Array (Nat×Value)} {r:PV} (h:(qj8 d e n ps).go g B=some (r,B')) (hm:Mem K w0 φ M B w)
  (hps:qnF φ (view w M) B ps parts.toList):∃ v w',(Instr.buildSlice tid n parts).run P w = .ok v w'∧After K w0 φ M B w B' r v w':=by
 unfold qj8 at h
 obtain ⟨_,B1,h1,h2⟩:=PM.qF h
 obtain ⟨hall,rfl⟩:=jQ h1
 simp only [Bool.and_eq_true,Nat.ble_eq] at hall
 obtain ⟨xs,B2,h3,h4⟩:=PM.qF h2
 obtain ⟨hpos,hnew,rfl,rfl⟩:=kT h4
 obtain ⟨M2,m2,e2,f2,f3⟩:=qmJ h3 hm hps
 obtain ⟨⟨et,hu,he⟩,_⟩:=ht
 obtain ⟨ie,j1,j2,_,j4⟩:=xC he
 have hzr:=qmE (view w M2) hpos (n:=n) (m:=n) (Nat.le_refl _)
 have hE0:=hzr.els
 have hsegall:seg (madeCells (zcells e).toArray (n*e.size)) 0 ((rep n e.zero).length*e.size)=(madeCells (zcells e).toArray (n*e.size)).toList:=by
  refine qA8 rfl ?_
  simp [size_madeCells,rep]
 rw [hsegall] at hE0
 have hlt:∀ p∈xs.map (·.1),p < (rep n e.zero).length:=fun p hp=>by
  rw [f3,List.mem_map] at hp
  obtain ⟨q,hq,rfl⟩:=hp
  have:=List.all_eq_true.1 hall.1 q hq
  simpa [rep] using this
 obtain ⟨cs',q1,q2⟩:=qv9 (place:=fun i=>some (i*ie.size,ie.size)) (fun i=>by rw [j2]) f2 hlt hE0
 have hlen:(qiY (List.replicate n e.zero) xs).length=n:=by rw [wW];simp
 have hsz:cs'.size=n*e.size:=by have:=q2.1;rw [wW] at this;simpa [rep] using this
 have hmax:n≤maxLen:=by
  have:n*1≤n*e.size:=Nat.mul_le_mul_left _ hpos
  unfold maxLen;omega
 refine ⟨.slice (some ⟨w.heap.size,0,none⟩) n n,w.alloc (.cells cs' et), ?_, ?_⟩
 ·have hzc:=xZ e
  have hbig:¬ (n*ie.size > 2 ^ 24):=by rw [j2];omega
  have hmk:∀ z,madeCells z (n*ie.size)=(Array.range (n*ie.size)).map (z[· % z.size]!):=fun _=>rfl
  rw [← j2] at q1
  by_cases h0:n*ie.size=0
  ·have hmk0:madeCells (zcells e).toArray (n*ie.size) = #[]:=by rw [h0];simp [madeCells]
   rw [hmk0] at q1
   have hs:=jE he w
   rw [j2] at h0 q1
   have hn0:n=0:=by rcases Nat.mul_eq_zero.1 h0 with h | h <;> omega
   have hr0:Array.range (0*e.size) = #[]:=by simp
   rw [hn0]
   simp [Instr.buildSlice,run_underlying hu,hs,q1,Go.newRow,Array.range_zero']
  ·have hs:=jE he w
   have hzv:=vS he w
   rw [j2] at h0 hbig q1
   have hbig':¬ (16777216 < n*e.size):=by omega
   simp only [madeCells] at q1
   simp [Instr.buildSlice,run_underlying hu,hs,h0,hbig',hzv,hzc,Go.newRow]
   simp at q1
   rw [q1]
   simp
 ·have hrow:Row (view w M2) e (qiY (List.replicate n e.zero) xs) cs' 0:=by
   refine Els.row (by rw [hlen,hsz];omega) ?_
   rw [qA8 rfl (by rw [hlen];simpa using hsz)]
   exact q2
  have:=qhW (K:=K) (w0:=w0) (φ:=φ) (M:=M2) (B:=B2) (w:=w) m2 hnew (w':=w.alloc (.cells cs' et)) rfl rfl rfl (by rw [qP];exact Nat.lt_succ_self _) (vI w _) hpos (l:=qiY (List.replicate n e.zero) xs) (vJ w _) (qa2 _) (xW w M2) hrow (cap:=n) (by rw [hlen];exact Nat.le_refl _) hmax (by rw [hsz];exact Nat.le_refl _) (Nat.blt 0 n) (fun h=>by rw [hlen];simpa using Nat.pos_iff_ne_zero.1 (by simpa using h))
  obtain ⟨φ',M',a1,a2,a3⟩:=this
  rw [hlen] at a3
  exact ⟨φ',M',a1,e2.trans a2,a3⟩
end
end Yp
namespace Yp
open Go
variable {P : Program}
def wR (H:View):(ts:List Ty)→denL ts→List Value→Prop
 | [],_,vs=>vs=[]
 | t :: ts,x,vs=>∃ cs vs',vs=mkV t cs :: vs'∧RepC H t x.1 cs∧wR H ts x.2 vs'
def qxM (w:World) (M:Nat→Prop) (lo:Nat→Prop) (U:Nat→Prop) (e:Ty) (l:List e.den) (v:Value) (b:Nat):Prop :=
 ∃ o c el fz cap,v = .slice (some ⟨b,o,none⟩) l.length cap∧l.length≤cap∧cap≤maxLen∧o+cap*e.size≤c.size∧w.heap[b]? = some (.cells c el fz)∧Row (view w M) e l c o∧okFz c fz∧M b∧lo b∧¬ U b
def vA (w:World) (M:Nat→Prop) (lo:Nat→Prop):(rs:List RTy)→denR rs→List Value→(Nat→Prop)→Prop
 | [],_,vs,_=>vs=[]
 | .im t :: rs,x,vs,U=>∃ cs vs',vs=mkV t cs :: vs'∧RepC (view w M) t x.1 cs∧vA w M lo rs x.2 vs' U
 | .cl e :: rs,x,vs,U=>∃ a vs',vs = .slice a (x.1:List e.den).length (x.1:List e.den).length :: vs'∧RepC (view w M) (.sl e) x.1 [.slice a (x.1:List e.den).length (x.1:List e.den).length]∧vA w M lo rs x.2 vs' U
 | .ow e :: rs,x,vs,U=>∃ v vs',vs=v :: vs'∧(((x.1:List e.den)=[]∧(∃ a,v = .slice a 0 0)∧vA w M lo rs x.2 vs' U)∨∃ b,qxM w M lo U e x.1 v b∧vA w M lo rs x.2 vs' (fun j=>U j∨j=b))
def vrOf:List Value→Value
 | [v]=>v
 | vs => .tuple vs.toArray
def qcL (w:World) (X:Nat→Prop) (w':World) (rs:List RTy) (r:denR rs) (vr:Value):Prop :=
 ∃ M':Nat→Prop,w'.os=w.os∧w'.tape=w.tape∧w'.output=w.output∧w.heap.size≤w'.heap.size∧(∀ b,b < w.heap.size→w'.heap[b]? = w.heap[b]?)∧(∀ b,b < w.heap.size→(M' b↔X b))∧(∀ b,M' b→b < w'.heap.size) ∧
  ∃ vs,vA w' M' (fun b=>¬ b < w.heap.size) rs r vs (fun _=>False)∧vr=vrOf vs
def yO (P : Program) (H : View) : Prop := ∀ g, P.globalNamed "yett/sha.keys" = some g → RepC H (.sl (.ar 64 (.int .u32))) ([(qfV : List (KD .u32))] : List (Ty.ar 64 (.int .u32)).den) [.slice (some ⟨g, 0, none⟩) 1 1]
theorem yO.mono {P:Program} {H H':View} (h:yO P H) (hl:H.Le H'):yO P H':=fun g hg=>(h g hg).mono hl
structure GK (P:Program) (K:Kp) (w0:World):Prop where
 gl : ∀ g, P.globalNamed "yett/sha.keys" = some g → K.k g
 gv:yO P (view w0 K.x)
def Called (P : Program) (f : Nat) : Prop := ∃ fn, P.funcs[f]? = some fn ∧ fn.body.isSome = true ∧ (fn.name == "runtime.NumGoroutine") = false
def FOK (P:Program) (f:Nat) (s:wQ):Prop :=
 Called P f∧∀ (w:World) (X:Nat→Prop) (x:denL s.args) (vs:List Value) (r:denR s.res),(∀ b,X b→b < w.heap.size)→yO P (view w X)→wR (view w X) s.args x vs→s.fn x=some r →
  Calls P f vs.toArray w fun e w'=>∃ vr,e = .returned vr∧qcL w X w' s.res r vr
def RetB (w:World) (X:Nat→Prop) (b o n:Nat) (w':World) (t:Ty) (x:t.den) (rs:List RTy) (r:denR rs) (vr:Value):Prop :=
 ∃ M':Nat→Prop,w'.os=w.os∧w'.tape=w.tape∧w'.output=w.output∧w.heap.size≤w'.heap.size∧(∀ k,k < w.heap.size→k≠b→w'.heap[k]? = w.heap[k]?)∧(∀ k,k < w.heap.size→(M' k↔X k))∧(∀ k,M' k→k < w'.heap.size) ∧
  (∃ c el fz,w'.heap[b]? = some (.cells c el fz)∧c.size=n∧okFz c fz∧RepC (view w' M') t x (seg c o t.size)) ∧
  ∃ vs,vA w' M' (fun k=>¬ k < w.heap.size) rs r vs (fun _=>False)∧vr=vrOf vs
def BOK (P:Program) (f:Nat) (s:qIf):Prop :=
 Called P f∧∀ (w:World) (X:Nat→Prop) (b o:Nat) (c:Array Value) (el:TypeId) (fz:Nat×Nat) (x:s.ty.den) (y:denL s.args) (vs:List Value) (r:s.ty.den×denR s.res),(∀ k,X k→k < w.heap.size)→yO P (view w X)→X b →
  w.heap[b]? = some (.cells c el fz)→o+s.ty.size≤c.size→okFz c fz→RepC (view w X) s.ty x (seg c o s.ty.size)→wR (view w X) s.args y vs→s.fn (x,y)=some r →
  Calls P f (Value.pointer (some ⟨b,o,none⟩) :: vs).toArray w fun e w'=>∃ vr,e = .returned vr∧RetB w X b o c.size w' s.ty r.1 s.res r.2 vr
section
variable {K : Kp} {w0 w : World} {φ : Pl} {M : Nat → Prop} {B B' : Nat → Blk} {g : Nat → PV} {H : View}
theorem RepC.flat {H':View}:∀ {t:Ty} {x:t.den} {cs:List Value},t.flat=true→RepC H t x cs→RepC H' t x cs
 | .bool,_,_,_,h=>RepC.xD.2 (RepC.xD.1 h)
 | .int k,_,_,_,h=>RepC.zV.2 (RepC.zV.1 h)
 | .str,_,_,_,h=>RepC.qaO.2 (RepC.qaO.1 h)
 | .sl _,_,_,hf,_=>by cases hf
 | .op k,_,_,_,h=>RepC.qnQ.2 (RepC.qnQ.1 h)
 | .fn l,_,_,_,h=>RepC.qzP.2 (RepC.qzP.1 h)
 | .unit,_,_,_,h=>RepC.qd3.2 (RepC.qd3.1 h)
 | .pair a b,x,cs,hf,h=>by
  simp only [Ty.flat,Bool.and_eq_true] at hf
  obtain ⟨c1,c2,h0,h1,h2⟩:=RepC.jI.1 h
  exact RepC.jI.2 ⟨c1,c2,h0,RepC.flat hf.1 h1,RepC.flat hf.2 h2⟩
 | .ar n e,x,cs,hf,h=>by
  obtain ⟨h0,h1,h2⟩:=RepC.qfE.1 h
  exact RepC.qfE.2 ⟨h0,h1,fun i x hi=>RepC.flat hf (h2 i x hi)⟩
theorem wR.mono {H':View} (hl:H.Le H'):∀ {ts:List Ty} {x:denL ts} {vs:List Value},wR H ts x vs→wR H' ts x vs
 | [],_,_,h=>h
 | _ :: _,_,_,⟨cs,vs',h,h1,h2⟩=>⟨cs,vs',h,h1.mono hl,wR.mono hl h2⟩
def PVs (φ:Pl) (H:View) (B:Nat→Blk):List PV→List Value→Prop
 | [],[]=>True
 | p :: ps,v :: vs=>RepP φ H B p v∧PVs φ H B ps vs
 | _,_=>False
theorem PVs.ext {φ':Pl} {M':Nat→Prop} {w':World} (he:Ext φ M B w φ' M' B' w'):∀ {ps:List PV} {vs:List Value},PVs φ (view w M) B ps vs→PVs φ' (view w' M') B' ps vs
 | [],[],_=>trivial
 | _ :: _,_ :: _,h=>⟨he.p h.1,PVs.ext he h.2⟩
 | [],_ :: _,h=>h.elim
 | _ :: _,[],h=>h.elim
theorem qAT {frz:Bool}:∀ {ts:List Ty} {ps:List PV} {vs:List Value} {x:denL ts} {M:Nat→Prop} {B B':Nat→Blk},(toDL frz ts ps).go g B=some (x,B')→Mem K w0 φ M B w→PVs φ (view w M) B ps vs →
  ∃ M',Mem K w0 φ M' B' w∧Ext φ M B w φ M' B' w∧wR (full w) ts x vs∧(frz=true→wR (view w M') ts x vs)
 | [],[],[],x,M,B,B',h,hm,_=>by cases h;exact ⟨M,hm,Ext.refl _ _ _ _,rfl,fun _=>rfl⟩
 | [],[],_ :: _,x,M,B,B',h,hm,hp=>hp.elim
 | [],_ :: _,_,x,M,B,B',h,hm,hp=>by cases h
 | _ :: _,[],_,x,M,B,B',h,hm,hp=>by cases h
 | _ :: _,_ :: _,[],x,M,B,B',h,hm,hp=>hp.elim
 | t :: ts,p :: ps,v :: vs,x,M,B,B',h,hm,hp=>by
  simp only [toDL] at h
  obtain ⟨y,B1,h1,h2⟩:=PM.qF h
  obtain ⟨ys,B2,h3,h4⟩:=PM.qF h2
  cases h4
  obtain ⟨cs,hv,M1,m1,e1,_,f1,f2⟩:=qpQ h1 hm hp.1
  obtain ⟨M2,m2,e2,f3,f4⟩:=qAT h3 m1 (hp.2.ext e1)
  subst hv
  exact ⟨M2,m2,e1.trans e2,⟨cs,vs,rfl,f1,f3⟩,fun hf=>⟨cs,vs,rfl,(f2 hf).mono e2.vw,f4 hf⟩⟩
theorem qjV {a:Act} (hs:Slots φ H B g a):∀ {l:List Operand} {B':Nat→Blk} {ps:List PV},(mapP opd l).go g B=some (ps,B')→B'=B∧PVs φ H B ps (l.map a.eval)
 | [],B',ps,h=>by cases h;exact ⟨rfl,trivial⟩
 | p :: l,B',ps,h=>by
  simp only [mapP] at h
  obtain ⟨b,B1,h1,h2⟩:=PM.qF h
  obtain ⟨hB1,hv⟩:=qqP h1 hs
  obtain ⟨bs,B3,h5,h6⟩:=PM.qF h2
  cases h6
  rw [hB1] at h5
  obtain ⟨hB,hp⟩:=qjV hs h5
  exact ⟨hB,hv,hp⟩
theorem Mem.ret (hm : Mem K w0 φ M B w) {w' : World} {M' : Nat → Prop} (h1 : w'.os = w.os) (h2 : w'.tape = w.tape) (h3 : w'.output = w.output) (hs : w.heap.size ≤ w'.heap.size)
    (hb : ∀ b, b < w.heap.size → w'.heap[b]? = w.heap[b]?) (hM : ∀ b, b < w.heap.size → (M' b ↔ M b)) (hlt : ∀ b, M' b → b < w'.heap.size) :
    Mem K w0 φ M' B w' ∧ Ext φ M B w φ M' B w' := by
  have hl : ∀ b o, w.heap[b]? = some o → b < w.heap.size := fun b o ho => (Array.getElem?_eq_some_iff.1 ho).1
  have hv : (view w M).Le (view w' M') := qfW     fun b o hn ho => ⟨fun hc => hn ((hM b (hl b o ho)).1 hc), (hb b (hl b o ho)).trans ho⟩
  have he : Ext φ M B w φ M' B w' := ⟨fun _ _ => rfl, hv, fun _ => Blk.Le.refl _⟩
  have hk : ∀ b, K.k b → b < w.heap.size := fun b h => Nat.lt_of_lt_of_le (hm.klt b h) hm.size
  refine ⟨{ os := h1.trans hm.os, tape := h2.trans hm.tape, output := h3.trans hm.output, size := Nat.le_trans hm.size hs, keep := fun b h => (hb b (hk b h)).trans (hm.keep b h), klt := hm.klt,
            hid := fun b h => (hM b (hk b h)).trans (hm.hid b h), own := hm.own, mlt := hlt, blks := fun j => ?_, sep := hm.sep }, he⟩
  exact (hm.blks j).congr rfl he.pl he.vw he.bl (fun x hx hmj => hb _ ((hm.blks j).lt hmj hx)) (fun x hx hmj hMx => (hM _ ((hm.blks j).lt hmj hx)).2 hMx)
theorem RepL.cons {u r:PV} {v:Value} {vs:List Value} (h:RepP φ H B u v) (hu:∀ a,u ≠ .tup a) (k:RepL φ H B r vs):RepL φ H B (.two u r) (v :: vs):=by
 refine ⟨v,vs,rfl, ?_,k⟩
 cases u <;> first | exact h | exact absurd rfl (hu _)
theorem qFd {lo:Nat→Prop} {r:RTy} {rs:List RTy} {x:denR (r :: rs)} {vs:List Value} {U:Nat→Prop} (hr:vA w M lo (r :: rs) x vs U) {id:Nat} {v:PV} (h:(resP id r x.1).go g B=some (v,B')) (hm:Mem K w0 φ M B w)
  (hlo:∀ b,lo b→¬ K.k b) (hU:∀ j,(B j).mut=true→∀ z,φ j=some z→¬ lo z.1∨U z.1) :
  ∃ φ' U' u vs',vs=u :: vs'∧Mem K w0 φ' M B' w∧Ext φ M B w φ' M B' w∧RepP φ' (view w M) B' v u∧(∀ a,v ≠ .tup a)∧vA w M lo rs x.2 vs' U'∧(∀ j,(B' j).mut=true→∀ z,φ' j=some z→¬ lo z.1∨U' z.1):=by
 cases r with
 | im t =>
  cases h
  obtain ⟨cs,vs',rfl,h1,h2⟩:=hr
  exact ⟨φ,U,_,vs',rfl,hm,Ext.refl _ _ _ _,⟨cs,h1,rfl⟩,(fun a h=>by cases h),h2,hU⟩
 | cl e =>
  cases h
  obtain ⟨a,vs',rfl,h1,h2⟩:=hr
  exact ⟨φ,U,_,vs',rfl,hm,Ext.refl _ _ _ _,⟨a,rfl,h1⟩,(fun a h=>by cases h),h2,hU⟩
 | ow e =>
  obtain ⟨hpos,hnew,rfl,rfl⟩:=kT h
  obtain ⟨u,vs',rfl,h1⟩:=hr
  rcases h1 with ⟨h1,⟨a,rfl⟩,h2⟩ | ⟨b,⟨o,c,el,fz,cap,rfl,k1,k2,k3,k4,k5,k6,k7,k8,k9⟩,h2⟩
  ·have hlen:(x.1:List e.den).length=0:=by rw [h1];rfl
   obtain ⟨m1,e1⟩:=hm.adopt hnew (.ob e x.1) none (fun _ y hy=>by cases hy) (fun _ y hy=>by cases hy) (fun _=>⟨hpos, .inl ⟨zW _ _ _,hlen⟩⟩)
   refine ⟨_,U,_,vs',rfl,m1,e1, ?_,(fun a h=>by cases h),h2,fun j hj z hz => ?_⟩
   ·simp only [RepP,RepQ,RepS,qK]
    exact ⟨.inl ⟨hlen,a,rfl⟩,fun h=>by cases h⟩
   ·by_cases hji:j=id
    ·subst hji;rw [zW] at hz;cases hz
    ·rw [qO _ _ hji] at hj;rw [yP _ _ hji] at hz;exact hU j hj z hz
  ·obtain ⟨m1,e1⟩:=hm.adopt hnew (.ob e x.1) (some (b,o,c.size)) (fun _ y hy hk=>by cases hy;exact hlo _ k8 hk) (fun _ y hy j hj z hz=>by
     cases hy
     rcases hU j hj z hz with h | h
     ·exact fun e=>h (by have e:z.1=b:=e;rw [e];exact k8)
     ·exact fun e=>k9 (by have e:z.1=b:=e;rw [← e];exact h)) (fun he=>⟨hpos, .inr ⟨b,o,c,el,fz,zW _ _ _,k4,k5,k6,k7⟩⟩)
   refine ⟨_,fun j=>U j∨j=b,_,vs',rfl,m1,e1, ?_,(fun a h=>by cases h),h2,fun j hj z hz => ?_⟩
   ·simp only [RepP,RepQ,RepS,qK]
    exact ⟨.inr ⟨b,o,c.size,cap,zW _ _ _,by simp,k1,k2,by simpa using k3⟩,fun h=>by cases h⟩
   ·by_cases hji:j=id
    ·subst hji;rw [zW] at hz;cases hz;exact .inr (.inr rfl)
    ·rw [qO _ _ hji] at hj;rw [yP _ _ hji] at hz
     exact (hU j hj z hz).imp (fun h=>h) .inl
theorem qFe {lo:Nat→Prop} (hlo:∀ b,lo b→¬ K.k b):∀ {rs:List RTy} {x:denR rs} {vs:List Value} {U:Nat→Prop} {id:Nat} {v:PV} {φ:Pl} {B B':Nat→Blk},vA w M lo rs x vs U→(resL id rs x).go g B=some (v,B')→Mem K w0 φ M B w →
  (∀ j,(B j).mut=true→∀ z,φ j=some z→¬ lo z.1∨U z.1)→∃ φ',Mem K w0 φ' M B' w∧Ext φ M B w φ' M B' w∧RepL φ' (view w M) B' v vs
 | [],x,vs,U,id,v,φ,B,B',hr,h,hm,hU=>by cases h;exact ⟨φ,hm,Ext.refl _ _ _ _,hr⟩
 | r :: rs,x,vs,U,id,v,φ,B,B',hr,h,hm,hU=>by
  simp only [resL] at h
  obtain ⟨y,B1,h1,h2⟩:=PM.qF h
  obtain ⟨ys,B2,h3,h4⟩:=PM.qF h2
  cases h4
  obtain ⟨φ1,U1,u,vs',rfl,m1,e1,f1,f2,f3,f4⟩:=qFd hr h1 hm hlo hU
  obtain ⟨φ2,m2,e2,f5⟩:=qFe hlo f3 h3 m1 f4
  exact ⟨φ2,m2,e1.trans e2,RepL.cons (e2.p f1) f2 f5⟩
theorem vA.length {w:World} {M:Nat→Prop} {lo:Nat→Prop}:∀ {rs:List RTy} {x:denR rs} {vs:List Value} {U:Nat→Prop},vA w M lo rs x vs U→vs.length=rs.length
 | [],_,vs,_,h=>by have h:vs=[]:=h;subst h;rfl
 | .im t :: rs,x,vs,U,h=>by obtain ⟨cs,vs',h0,h1,h2⟩:=h;subst h0;simp [vA.length h2]
 | .cl t :: rs,x,vs,U,h=>by obtain ⟨cs,vs',h0,h1,h2⟩:=h;subst h0;simp [vA.length h2]
 | .ow t :: rs,x,vs,U,h=>by
  obtain ⟨v,vs',h0,h1⟩:=h
  subst h0
  rcases h1 with ⟨_,_,h2⟩ | ⟨_,_,h2⟩ <;> simp [vA.length h2]
theorem vA.flat {w:World} {M M':Nat→Prop} {lo:Nat→Prop}:∀ {rs:List RTy} {x:denR rs} {vs:List Value} {U:Nat→Prop},rs.all RTy.flat=true→vA w M lo rs x vs U→vA w M' lo rs x vs U
 | [],_,_,_,_,h=>h
 | .im t :: rs,x,vs,U,hf,h=>by
  simp only [List.all_cons,Bool.and_eq_true] at hf
  obtain ⟨cs,vs',h0,h1,h2⟩:=h
  exact ⟨cs,vs',h0,RepC.flat hf.1 h1,vA.flat hf.2 h2⟩
 | .ow e :: rs,x,vs,U,hf,h=>by simp only [List.all_cons,Bool.and_eq_true] at hf;cases hf.1
 | .cl e :: rs,x,vs,U,hf,h=>by simp only [List.all_cons,Bool.and_eq_true] at hf;cases hf.1
theorem qFc {rs:List RTy} {d:Nat} {r:denR rs} {v:PV} {vs:List Value} (hm:Mem K w0 φ M B w) {lo:Nat→Prop} (hlo:∀ b,lo b→¬ K.k b) (hU:∀ j,(B j).mut=true→∀ z,φ j=some z→¬ lo z.1)
  (hr:vA w M lo rs r vs (fun _=>False))
  (h:(qwJ d rs r).go g B=some (v,B')) :
  ∃ φ',Mem K w0 φ' M B' w∧Ext φ M B w φ' M B' w∧RepP φ' (view w M) B' v (vrOf vs):=by
 have hU':∀ j,(B j).mut=true→∀ z,φ j=some z→¬ lo z.1∨(fun _:Nat=>False) z.1:=fun j hj z hz => .inl (hU j hj z hz)
 match rs,r,hr,h with
 | [],r,hr,h =>
  cases h
  have:vs=[]:=hr
  subst this
  exact ⟨φ,hm,Ext.refl _ _ _ _,[],rfl,rfl⟩
 | [t],r,hr,h =>
  obtain ⟨φ1,U1,u,vs',rfl,m1,e1,f1,f2,f3,f4⟩:=qFd hr h hm hlo hU'
  have:vs'=[]:=f3
  subst this
  exact ⟨φ1,m1,e1,f1⟩
 | t :: t' :: ts,r,hr,h =>
  obtain ⟨y,B1,h1,h2⟩:=PM.qF h
  cases h2
  obtain ⟨φ1,m1,e1,f1⟩:=qFe hlo hr h1 hm hU'
  refine ⟨φ1,m1,e1, ?_⟩
  have hlen:=hr.length
  have hne:∀ q,vs≠[q]:=by
   intro q hq
   rw [hq] at hlen
   simp at hlen
  match vs,hne,f1 with
  | [],_,f1=>exact ⟨[],f1,rfl⟩
  | [q],hne,_=>exact absurd rfl (hne q)
  | q :: q' :: vs,_,f1=>exact ⟨_,f1,rfl⟩
theorem qLo {α β:Type} {d:β} {o:Option β} {k:β→PM α}:(PM.bo d o k).go g B=(match o with | some a=>(k a).go g B | none=>none):=by
 cases o <;> simp only [PM.go]
theorem GK.keys (h:GK P K w0) (hm:Mem K w0 φ M B w):yO P (view w M):=by
 intro g hg
 obtain ⟨a,cap,h1,h2,h3,h4⟩:=RepC.jT.1 (h.gv g hg)
 simp only [List.cons.injEq,Value.slice.injEq,and_true] at h1
 obtain ⟨rfl,_,rfl⟩:=h1
 have hk:=h.gl g hg
 refine RepC.jT.2 ⟨_,_,rfl,h2,h3, ?_⟩
 rcases h4 with h4 | ⟨b,o,c,el,fz,q1,q2,q3,q4⟩
 ·exact .inl h4
 ·cases q1
  obtain ⟨p1,p2⟩:=zF.1 q2
  exact .inr ⟨g,0,c,el,fz,rfl,zF.2 ⟨fun hc=>p1 ((hm.hid g hk).1 hc),(hm.keep g hk).trans p2⟩,q3,fun i x hi=>(q4 i x hi).flat rfl⟩
structure Fns (P:Program) (E:Env) (K:Kp) (w0:World):Prop where
 fn:∀ f s,E.G f=some s→FOK P f s
 kn : ∀ g, E.K = some g → P.globalNamed "yett/sha.keys" = some g
 gk:(∃ f s,E.G f=some s)∨(∃ f g,E.I f=some g)∨(∃ g,E.K=some g)→GK P K w0
 bx:∀ f s,E.X f=some s→BOK P f s∧GK P K w0
theorem Mem.retB (hm : Mem K w0 φ M B w) {id b o n : Nat} {t : Ty} {v : PV} (hB : B id = .box t v) (hx : φ id = some (b, o, n)) (hMb : M b) {w' : World} {M' : Nat → Prop} {x : t.den} (h1 : w'.os = w.os) (h2 : w'.tape = w.tape) (h3 : w'.output = w.output) (hs : w.heap.size ≤ w'.heap.size)
    (hb : ∀ k, k < w.heap.size → k ≠ b → w'.heap[k]? = w.heap[k]?) (hM : ∀ k, k < w.heap.size → (M' k ↔ M k)) (hlt : ∀ k, M' k → k < w'.heap.size)
    (hc : ∃ c el fz, w'.heap[b]? = some (.cells c el fz) ∧ c.size = n ∧ okFz c fz ∧ RepC (view w' M') t x (seg c o t.size)) (hn : o + t.size ≤ n) :
    Mem K w0 φ M' (updB B id (.box t (.sc t x))) w' ∧ Ext φ M B w φ M' (updB B id (.box t (.sc t x))) w' := by
  have hl : ∀ b o, w.heap[b]? = some o → b < w.heap.size := fun b o ho => (Array.getElem?_eq_some_iff.1 ho).1
  have hmut : (B id).mut = true := by rw [hB]; rfl
  have hv : (view w M).Le (view w' M') := qfW     fun k o hn ho => ⟨fun hc => hn ((hM k (hl k o ho)).1 hc), (hb k (hl k o ho) fun e => hn (e ▸ hMb)).trans ho⟩
  have he : Ext φ M B w φ M' (updB B id (.box t (.sc t x))) w' := ⟨fun _ _ => rfl, hv, fun j => by
    by_cases hj : j = id
    · subst hj; rw [qK       , hB]; exact rfl
    · rw [qO      _ _ hj]; exact Blk.Le.refl _⟩
  have hk : ∀ k, K.k k → k < w.heap.size := fun k h => Nat.lt_of_lt_of_le (hm.klt k h) hm.size
  have hkb : ∀ k, K.k k → k ≠ b := fun k h e => hm.own id hmut _ hx (e ▸ h)
  have key : ∀ j, ((updB B id (.box t (.sc t x))) j).mut = true → (B j).mut = true := fun j hj => by
    by_cases hj' : j = id
    · subst hj'; exact hmut
    · rw [qO      _ _ hj'] at hj; exact hj
  refine ⟨{ os := h1.trans hm.os, tape := h2.trans hm.tape, output := h3.trans hm.output, size := Nat.le_trans hm.size hs, keep := fun k h => (hb k (hk k h) (hkb k h)).trans (hm.keep k h), klt := hm.klt,
            hid := fun k h => (hM k (hk k h)).trans (hm.hid k h), own := fun j hj => hm.own j (key j hj), mlt := hlt, blks := fun j => ?_, sep := fun i j hij hi hj => hm.sep i j hij (key i hi) (key j hj) }, he⟩
  by_cases hj : j = id
  · subst hj
    rw [qK       ]
    obtain ⟨c, el, fz, q1, q2, q3, q4⟩ := hc
    exact ⟨b, o, c, el, fz, by rw [hx, q2], q1, by omega, ⟨rfl, q4⟩, q3, (hM b (hm.mlt b hMb)).2 hMb⟩
  · rw [qO      _ _ hj]
    exact (hm.blks j).congr rfl he.pl he.vw he.bl (fun y hy hmj => hb _ ((hm.blks j).lt hmj hy) (hm.sep j id hj hmj hmut y _ hy hx)) (fun y hy hmj hMy => (hM _ ((hm.blks j).lt hmj hy)).2 hMy)
theorem qCg {d f:Nat} {s:qIf} {ps:List PV} {vs:List Value} {v:PV} (hok:BOK P f s) (hk:GK P K w0) (h:(boxP d s ps).go g B=some (v,B')) (hm:Mem K w0 φ M B w) (hps:PVs φ (view w M) B ps vs) :
  Called P f∧Calls P f vs.toArray w fun e w'=>∃ vr,e = .returned vr∧After K w0 φ M B w B' v vr w':=by
 unfold boxP at h
 split at h
 ·rename_i id as
  simp only [PM.go] at h
  cases vs with
  | nil=>exact hps.elim
  | cons v0 vs =>
   have hp0:RepS φ (view w M) B (.ptr id []) v0:=hps.1
   have hb:=hm.blks id
   simp only [RepS] at hp0
   generalize hB:B id=bl at h hb hp0
   cases bl <;> try (cases h;done)
   rename_i t u
   dsimp only at h
   obtain ⟨b,o,n,off,t',g1,g2,rfl⟩:=hp0
   obtain ⟨b',o',c,el,fz,q1,q2,q3,q4,q5,q6⟩:=hb
   rw [g1] at q1
   cases q1
   simp only [Ty.z3,Option.some.injEq,Prod.mk.injEq] at g2
   obtain ⟨rfl,rfl⟩:=g2
   cases hti:Ty.is t s.ty with
   | false=>rw [hti] at h;cases h
   | true =>
    rw [hti] at h
    simp only [cond] at h
    have ht:=jV hti
    subst ht
    obtain ⟨x,B1,h1,h2⟩:=PM.qF h
    obtain ⟨y,B2,h3,h4⟩:=PM.qF h2
    clear h h2
    obtain ⟨M1,m1,e1,_,f1,f2⟩:=qEJ h1 hm q4
    obtain ⟨M2,m2,e2,f3,f4⟩:=qAT h3 m1 (hps.2.ext e1)
    simp only [PM.go] at h4
    have hb2:=m2.blks id
    generalize hB2:B2 id=bl2 at h4 hb2
    cases bl2 <;> try (cases h4;done)
    rename_i t2 u2
    dsimp only at h4
    cases hti2:Ty.is t2 s.ty with
    | false=>rw [hti2] at h4;cases h4
    | true =>
     rw [hti2] at h4
     simp only [cond] at h4
     have ht2:=jV hti2
     subst ht2
     obtain ⟨b2,o2,c2,el2,fz2,p1,p2,p3,p4,p5,p6⟩:=hb2
     rw [g1,Option.some.injEq,Prod.mk.injEq,Prod.mk.injEq] at p1
     obtain ⟨rfl,rfl,_⟩:=p1
     rw [q2] at p2
     cases p2
     rw [qLo] at h4
     cases hr:s.fn (x,y) with
     | none=>rw [hr] at h4;cases h4
     | some r =>
      rw [hr] at h4
      simp only [PM.go] at h4
      refine ⟨hok.1, ?_⟩
      rw [Nat.add_zero]
      refine (hok.2 w M2 b o c el fz x y vs r m2.mlt (hk.keys m2) p6 q2 q3 q5 ((f2 rfl).mono e2.vw) (f4 rfl) hr).mono ?_
      rintro e w' ⟨vr,rfl,M',k1,k2,k3,k4,k5,k6,k7,k8,us,k9,rfl⟩
      obtain ⟨m3,e3⟩:=m2.retB hB2 g1 p6 k1 k2 k3 k4 k5 k6 k7 k8 q3
      have hU:∀ j,((updB B2 id (.box s.ty (.sc s.ty r.1))) j).mut=true→∀ z,φ j=some z→¬ ¬ z.1 < w.heap.size:=fun j hj z hz hc=>by
       by_cases hji:j=id
       ·subst hji
        rw [g1] at hz;cases hz
        exact hc (m2.mlt b p6)
       ·rw [qO _ _ hji] at hj
        exact hc ((m2.blks j).lt hj hz)
      obtain ⟨φ4,m4,e4,f5⟩:=qFc (g:=g) m3 (lo:=fun k=>¬ k < w.heap.size) (fun k hk' hkk=>hk' (Nat.lt_of_lt_of_le (m2.klt k hkk) m2.size)) hU k9 h4
      exact ⟨_,rfl,φ4,M',m4,((e1.trans e2).trans e3).trans e4,f5⟩
 ·cases h
theorem qBL {E:Env} (hG:Fns P E K w0) {d f:Nat} {ps:List PV} {vs:List Value} {v:PV} (h:(qGP E d f ps).go g B=some (v,B')) (hm:Mem K w0 φ M B w) (hps:PVs φ (view w M) B ps vs) :
  Called P f∧Calls P f vs.toArray w fun e w'=>∃ vr,e = .returned vr∧After K w0 φ M B w B' v vr w':=by
 unfold qGP at h
 cases hg:E.G f with
 | none =>
  rw [hg] at h
  simp only at h
  cases hx:E.X f with
  | none=>rw [hx] at h;cases h
  | some s =>
   rw [hx] at h
   obtain ⟨h1,h2⟩:=hG.bx f s hx
   exact qCg h1 h2 h hm hps
 | some s =>
  rw [hg] at h
  simp only at h
  obtain ⟨x,B1,h1,h2⟩:=PM.qF h
  obtain ⟨M1,m1,e1,f1,f2⟩:=qAT h1 hm hps
  obtain ⟨hcd,hok⟩:=hG.fn f s hg
  replace h2:(PM.bo (qDG s.res) (s.fn x) fun r=>qwJ d s.res r).go g B1=some (v,B'):=h2
  rw [qLo] at h2
  cases hr:s.fn x with
  | none=>rw [hr] at h2;cases h2
  | some r =>
   rw [hr] at h2
   simp only at h2
   refine ⟨hcd, ?_⟩
   cases hfl:s.res.all RTy.flat with
   | false =>
    rw [hfl] at f2
    refine (hok w M1 x vs r m1.mlt ((hG.gk (.inl ⟨f,s,hg⟩)).keys m1) (f2 rfl) hr).mono ?_
    rintro e w' ⟨vr,rfl,M',k1,k2,k3,k4,k5,k6,k7,us,k8,rfl⟩
    obtain ⟨m2,e2⟩:=m1.ret k1 k2 k3 k4 k5 k6 k7
    obtain ⟨φ3,m3,e3,f3⟩:=qFc (g:=g) m2 (fun b hb hk=>hb (Nat.lt_of_lt_of_le (m1.klt b hk) m1.size)) (fun j hj z hz hc=>hc ((m1.blks j).lt hj hz)) k8 h2
    exact ⟨_,rfl,φ3,M',m3,(e1.trans e2).trans e3,f3⟩
   | true =>
    have hv:(full w).Le (view w fun _=>False):=fun b o hb=>zF.2 ⟨fun h=>h,hb⟩
    refine (hok w (fun _=>False) x vs r (fun _ h=>h.elim) (((hG.gk (.inl ⟨f,s,hg⟩)).keys m1).mono ((xW w M1).trans hv)) (f1.mono hv) hr).mono ?_
    rintro e w' ⟨vr,rfl,M',k1,k2,k3,k4,k5,k6,k7,us,k8,rfl⟩
    obtain ⟨m2,e2⟩:=m1.grow k1 k2 k3 k4 k5 (fun _=>False) (fun _ h=>h.elim)
    obtain ⟨φ3,m3,e3,f3⟩:=qFc (g:=g) m2 (fun b hb hk=>hb (Nat.lt_of_lt_of_le (m1.klt b hk) m1.size)) (fun j hj z hz hc=>hc ((m1.blks j).lt hj hz)) (k8.flat hfl) h2
    exact ⟨_,rfl,φ3,_,m3,(e1.trans e2).trans e3,f3⟩
end
end Yp
namespace Yp
open Go
variable {P : Program}
def qfM (P:Program) (M:Nat→Option (Ty×Ty)):Prop:=∀ tid p,M tid=some p→∃ kt vt,P.underlying tid=some (.map kt vt)∧(fit P p.1).1 kt∧(fit P p.2).1 vt
def qK1 (P:Program) (tid:Nat) (p:Ty×Ty):Bool:=match P.underlying tid with | some (.map kt vt)=>(fitB P p.1).1 kt && (fitB P p.2).1 vt | _=>false
theorem qy3 (P:Program):∀ l:List (Nat×Ty×Ty),(l.all fun q=>qK1 P q.1 q.2)=true→qfM P (qF0 l)
 | [],_=>fun tid p h=>by cases h
 | (i,q) :: r,h=>fun tid p hp=>by
  simp only [List.all_cons,Bool.and_eq_true] at h
  simp only [qF0] at hp
  cases hb:Nat.beq i tid with
  | true =>
   rw [hb] at hp;cases hp
   have h1:=h.1
   unfold qK1 at h1
   rw [← Nat.eq_of_beq_eq_true hb]
   split at h1
   ·rename_i kt vt hu
    simp only [Bool.and_eq_true] at h1
    exact ⟨kt,vt,hu,(qcG _).1 _ h1.1,(qcG _).1 _ h1.2⟩
   ·cases h1
  | false=>rw [hb] at hp;exact qy3 P r h.2 tid p hp
section
variable {K : Kp} {w0 w : World} {φ : Pl} {M : Nat → Prop} {B B' : Nat → Blk} {g : Nat → PV} {H : View}
theorem qD2 {t:TypeId} {id:Nat} (hid:B id = .new) (kt vt:Ty) (hm:Mem K w0 φ M B w) :
  ∃ r w',(Instr.makeMap t none).run P w = .ok r w'∧After K w0 φ M B w (updB B id (.mp kt vt [])) (.mpp id) r w':=by
 refine ⟨.map (some w.heap.size),w.alloc (.map #[] 0),by simp [Instr.makeMap], ?_⟩
 obtain ⟨φ',M',m1,e1,p1⟩:=hm.born hid (w':=w.alloc (.map #[] 0)) rfl rfl rfl (by rw [qP];omega) (vI w _) (.mp kt vt []) 0 fun φ' M' he hp hM =>
  ⟨w.heap.size, #[],0,hp,vJ w _,rfl,hM⟩
 refine ⟨φ',M',m1,e1, ?_⟩
 simp only [RepP,RepQ,RepS,qK]
 exact ⟨_,p1,rfl⟩
def kdesc:Ty→TypeDesc
 | .int k => .int k | _ => .string
theorem qvR {kt:Ty} (hk:qvT kt=true) {tid:TypeId} (hf:(fit P kt).1 tid):P.underlying tid=some (kdesc kt):=by
 cases kt <;> first | exact hf.1 | cases hk
theorem qq0 {kt:Ty} (hk:qvT kt=true) {tid:TypeId} (hf:(fit P kt).1 tid) {key:kt.den} {ck:List Value} (h:RepC H kt key ck) (b:Bool) (w:World):(Instr.checkKey b 10000 tid (mkV kt ck)).run P w = .ok () w:=by
 have hu:=qvR hk hf
 cases kt <;> try (cases hk;done)
 ·have:=RepC.zV.1 h;subst this
  show (Instr.checkKey b (9999+1) tid _).run P w=_
  rw [Instr.checkKey]
  simp only [Sem.run_bind,run_underlying hu,Result.andThen_ok,kdesc,mkV,Ty.isAgg]
  rfl
 ·have:=RepC.qaO.1 h;subst this
  show (Instr.checkKey b (9999+1) tid _).run P w=_
  rw [Instr.checkKey]
  simp only [Sem.run_bind,run_underlying hu,Result.andThen_ok,kdesc,mkV,Ty.isAgg]
  rfl
theorem qvS {kt:Ty} (hk:qvT kt=true) {k1 k2:kt.den} {c1 c2:List Value} (h1:RepC H kt k1 c1) (h2:RepC H kt k2 c2):Instr.sameNow (kdesc kt) (mkV kt c1) (mkV kt c2)=some (qs1 kt k1 k2):=by
 cases kt <;> try (cases hk;done)
 ·have e1:=RepC.zV.1 h1;have e2:=RepC.zV.1 h2;subst e1;subst e2
  simp [Instr.sameNow,kdesc,mkV,Ty.isAgg,qs1,beq]
 ·have e1:=RepC.qaO.1 h1;have e2:=RepC.qaO.1 h2;subst e1;subst e2
  simp only [mkV,Ty.isAgg,kdesc,List.headD_cons,Instr.sameNow,qs1,seq]
  simp only [Bool.false_eq_true,if_false,Instr.sameNow]
  congr 1
  exact ByteArray_beq _ _
where
 ByteArray_beq (a b:List UInt8):((⟨a.toArray⟩:ByteArray) == ⟨b.toArray⟩)=(a == b):=by
  have:=beq_toListBytes (⟨a.toArray⟩:ByteArray) ⟨b.toArray⟩
  rw [this,ByteArray.toList_eq,ByteArray.toList_eq]
theorem qLA {a b:List UInt8} (h:¬ a=b):seq a b=false:=by unfold seq;exact beq_eq_false_iff_ne.2 h
theorem qHP {kt:Ty} {k1 k2:kt.den} (h:qF9 kt k1 k2=true):qs1 kt k1 k2=false:=by
 cases kt <;> try (cases h;done)
 ·simp only [qF9,qK5,Bool.not_eq_true',decide_eq_false_iff_not] at h
  simp only [qs1,beq,beq_eq_false_iff_ne];exact h
 ·simp only [qF9,qKA,Bool.not_eq_true',decide_eq_false_iff_not] at h
  exact qLA h
theorem qzR {kt:Ty} (hk:qvT kt=true) {key:kt.den} {ck:List Value} (hc:RepC H kt key ck):∀ {l:List (kt.den×PV)} {es:List MapEntry} (i:Nat),RepM φ H B kt l es→(l.all fun p=>qF9 kt key p.1)=true →
  Instr.findNow (kdesc kt) (mkV kt ck) es i=some none
 | [],es,i,h,_=>by have h:es=[]:=h;subst h;rfl
 | (k,v) :: l,es,i,h,ha=>by
  obtain ⟨e,es',rfl,⟨ck',h1,h2⟩,h3,h4⟩:=h
  simp only [List.all_cons,Bool.and_eq_true] at ha
  simp only [Instr.findNow]
  rw [h2,qvS hk hc h1,qHP ha.1]
  exact qzR hk hc (i+1) h4 ha.2
theorem RepM.push {kt:Ty} {key:kt.den} {ck:List Value} {v:PV} {val:Value} {n:Nat} (h1:RepC H kt key ck) (h2:RepQ φ H B v val):∀ {l:List (kt.den×PV)} {es:List MapEntry},RepM φ H B kt l es→RepM φ H B kt (l++[(key,v)]) (es++[⟨mkV kt ck,val,n⟩])
 | [],es,h=>by have h:es=[]:=h;subst h;exact ⟨_,[],rfl,⟨ck,h1,rfl⟩,h2,rfl⟩
 | _ :: _,_,⟨e,es',h,h3,h4,h5⟩=>⟨e,es'++[⟨mkV kt ck,val,n⟩],by rw [h];rfl,h3,h4,RepM.push h1 h2 h5⟩
theorem toQ {v:PV} {x:Value} (h:RepP φ H B v x) (hu:∀ a,v ≠ .tup a):RepQ φ H B v x:=by
 cases v <;> first | exact h | exact absurd rfl (hu _)
theorem qyX {v:PV} (h:qlA v=true):∀ a,v ≠ .tup a:=by rintro a rfl;cases h
theorem qnN {w:World} {r:Nat} {es:Array MapEntry} {clock:Nat} (hb:w.heap[r]? = some (.map es clock)):(getObj r).run P w = .ok (.map es clock) w:=by
 simp [getObj,Sem.run,hb]
theorem qyJ {w:World} {r:Nat} {es:Array MapEntry} {clock:Nat} (o:Obj) (hb:w.heap[r]? = some (.map es clock)):(setObj r o).run P w = .ok () { w with heap:=w.heap.setIfInBounds r o }:=by
 simp [setObj,Sem.run,hb]
theorem qGf {q:Ty×Ty} {t kt' vt':TypeId} {m k v r:PV} {vm vk vv:Value} (h:(qBs q m k v).go g B=some (r,B')) (hu:P.underlying t=some (.map kt' vt'))
  (hkt:(fit P q.1).1 kt') (hm:Mem K w0 φ M B w)
  (hrm:RepP φ (view w M) B m vm) (hrk:RepP φ (view w M) B k vk) (hrv:RepP φ (view w M) B v vv) :
  r = .undef∧∃ w' M',(Instr.mapUpdate t vm vk vv).run P w = .ok () w'∧Mem K w0 φ M' B' w'∧Ext φ M B w φ M' B' w':=by
 unfold qBs at h
 cases m <;> try (cases h;done)
 rename_i id
 simp only [PM.go] at h
 have hs:RepS φ (view w M) B (.mpp id) vm:=hrm
 have hbl:=hm.blks id
 simp only [RepS] at hs
 generalize hB:B id=bl at h hs hbl
 cases bl <;> try (cases h;done)
 rename_i kt vt l
 simp only at h
 replace h:=PM.qF h;obtain ⟨key,B1,h1,h⟩:=h
 obtain ⟨hkey,rfl⟩:=qV h1
 replace h:=PM.qF h;obtain ⟨_,B2,h2,h⟩:=h
 obtain ⟨hn,rfl⟩:=jQ h2
 simp only [Bool.and_eq_true] at hn
 obtain ⟨⟨hq,hn1⟩,hn2⟩:=hn
 have hn:=And.intro hn1 hn2
 cases h
 obtain ⟨ck,hck,rfl⟩:=qfY hkey hrk
 obtain ⟨b,hb1,rfl⟩:=hs
 obtain ⟨b',es,clk,hb2,hb3,hb4,hb5⟩:=hbl
 rw [hb1] at hb2;cases hb2
 have hf:(fit P kt).1 kt':=by rw [jV hq];exact hkt
 have hkd:=qvR hn.1 hf
 have hfind:(Instr.findKey kt' (mkV kt ck) es.toList).run P w = .ok none w:=by
  simp [Instr.findKey,run_underlying hkd,qzR hn.1 hck 0 hb4 hn.2.2]
 have hchk:=qq0 hn.1 hf hck false w
 let w':World:={ w with heap:=w.heap.setIfInBounds b (.map (es.push { key:=mkV kt ck,val:=vv,born:=clk }) (clk+1)) }
 have hlt:b < w.heap.size:=(Array.getElem?_eq_some_iff.1 hb3).1
 have hrun:(Instr.mapUpdate t (.map (some b)) (mkV kt ck) vv).run P w = .ok () w':=by
  simp only [Instr.mapUpdate,Sem.run_bind,run_underlying hu,Result.andThen_ok,qnN hb3,hchk,hfind]
  simp only [qyJ _ hb3]
  rfl
 have hhere:w'.heap[b]? = some (.map (es.push { key:=mkV kt ck,val:=vv,born:=clk }) (clk+1)):=by simp [w',hlt]
 obtain ⟨m1,e1⟩:=hm.put (id:=id) (x:=(b,0,0)) (w':=w') (by rw [hB];rfl) hb1 hb5 rfl rfl rfl (by simp [w']) (fun j hj=>by simp [w',Array.getElem?_setIfInBounds_ne (Ne.symm hj)]) (.mp kt vt (l++[(key,v)])) (by rw [hB];exact ⟨rfl,rfl⟩) fun he=>by
  refine ⟨b,_,clk+1,hb1,hhere, ?_,hb5⟩
  rw [Array.toList_push]
  exact (hb4.mono he.pl he.vw he.bl).push (hck.mono he.vw) ((toQ hrv (qyX hn.2.1)).mono he.pl he.vw he.bl)
 exact ⟨rfl,w',M,hrun,m1,e1⟩
def mapV (ok:Bool) (v:Value) (b:Bool):Value:=if ok then .tuple #[v, .bool b] else v
theorem qf6 {ok:Bool} {v b:PV} {x:Value} {c:Bool} (h1:RepQ φ H B v x) (h2:RepQ φ H B b (.bool c)):RepP φ H B (resM ok v b) (mapV ok x c):=by
 cases ok with
 | false =>
  simp only [resM,mapV,cond_false,Bool.false_eq_true,if_false]
  cases v <;> first | exact h1 | exact h1.elim
 | true =>
  simp only [resM,mapV,cond_true,if_true]
  exact ⟨[x, .bool c],⟨x,[.bool c],rfl,h1, .bool c,[],rfl,h2,rfl⟩,rfl⟩
theorem RepQ.toP' {v:PV} {x:Value} (h:RepQ φ H B v x):RepP φ H B v x:=by cases v <;> first | exact h | exact h.elim
theorem qIC {kt vt:Ty} (hk:qvT kt=true) {ok:Bool} {key:kt.den} {ck:List Value} (hc:RepC H kt key ck):∀ {l:List (kt.den×PV)} {es:List MapEntry} (i:Nat) {r:PV},RepM φ H B kt l es→(getM kt vt ok key l).go g B=some (r,B') →
  B'=B∧((∃ j val,Instr.findNow (kdesc kt) (mkV kt ck) es i=some (some (j,val))∧RepP φ H B r (mapV ok val true)) ∨
   (Instr.findNow (kdesc kt) (mkV kt ck) es i=some none∧RepP φ H B r (mapV ok (mkV vt (zcells vt)) false)))
 | [],es,i,r,h,hr=>by
  have h:es=[]:=h
  subst h
  cases hr
  exact ⟨rfl, .inr ⟨rfl,qf6 (toQ (qpJ (qd2 vt)) (fun a=>by cases vt <;> simp [wS,qkA])) rfl⟩⟩
 | (k,v) :: l,es,i,r,h,hr=>by
  obtain ⟨e,es',rfl,⟨ck',h1,h2⟩,h3,h4⟩:=h
  simp only [getM,PM.go] at hr
  simp only [Instr.findNow]
  rw [h2,qvS hk hc h1]
  cases hke:qs1 kt key k with
  | true =>
   rw [hke,if_pos rfl] at hr
   cases hr
   exact ⟨rfl, .inl ⟨i,e.val,rfl,qf6 h3 rfl⟩⟩
  | false =>
   rw [hke,if_neg (by simp)] at hr
   exact qIC hk hc (i+1) h4 hr
theorem qGD {kt vt:Ty} (hk:qvT kt=true) {key:kt.den} {ck:List Value} (hc:RepC H kt key ck):∀ {l:List (kt.den×PV)} {xs:List (kt.den×vt.den)} {es:List MapEntry} (i:Nat),RepM φ H B kt l es→allD kt vt l=some xs →
  (∃ j val,Instr.findNow (kdesc kt) (mkV kt ck) es i=some (some (j,val))∧RepQ φ H B (.sc vt (selM kt vt key xs)) val∧hasM kt vt key xs=true) ∨
   (Instr.findNow (kdesc kt) (mkV kt ck) es i=some none∧RepQ φ H B (.sc vt (selM kt vt key xs)) (mkV vt (zcells vt))∧hasM kt vt key xs=false)
 | [],xs,es,i,h,hx=>by
  have h:es=[]:=h
  subst h
  cases hx
  exact .inr ⟨rfl,⟨_,RepC.zero _ _,rfl⟩,rfl⟩
 | (k,v) :: l,xs,es,i,h,hx=>by
  obtain ⟨e,es',rfl,⟨ck',h1,h2⟩,h3,h4⟩:=h
  simp only [allD] at hx
  cases hv:toD vt v with
  | none=>rw [hv] at hx;cases hx
  | some x =>
   cases hl:allD kt vt l with
   | none=>rw [hv,hl] at hx;cases hx
   | some ys =>
    rw [hv,hl] at hx
    cases hx
    simp only [Instr.findNow]
    rw [h2,qvS hk hc h1]
    have hq:RepQ φ H B (.sc vt x) e.val:=toQ (qfY hv h3.toP') (fun a h=>by cases h)
    cases hke:qs1 kt key k with
    | true=>exact .inl ⟨i,e.val,rfl,by simp only [selM,hke,sel,cond_true];exact hq,by simp [hasM,hke,sel]⟩
    | false =>
     have:=qGD (vt:=vt) hk hc (i+1) h4 hl
     simp only [selM,hasM,hke,sel,cond_false]
     exact this
theorem qFZ {E:Env} (hMp:qfM P E.M) {tid:TypeId} {ok:Bool} {x k r:PV} {vx vk:Value} (h:(qBm E tid x k ok).go g B=some (r,B')) (hm:Mem K w0 φ M B w)
  (hrx:RepP φ (view w M) B x vx) (hrk:RepP φ (view w M) B k vk):B'=B∧∃ v,(Instr.lookup tid vx vk ok).run P w = .ok v w∧RepP φ (view w M) B r v:=by
 unfold qBm at h
 replace h:=PM.qF h;obtain ⟨p,B1,h1,h⟩:=h
 obtain ⟨hp,rfl⟩:=qV h1
 obtain ⟨kt',vt',hu,hfk,hfv⟩:=hMp _ _ hp
 have hz:=vS hfv w
 cases x <;> try (cases h;done)
 case mpp id =>
  simp only [PM.go] at h
  have hs:RepS φ (view w M) B1 (.mpp id) vx:=hrx
  have hbl:=hm.blks id
  simp only [RepS] at hs
  generalize hB:B1 id=bl at h hs hbl
  cases bl <;> try (cases h;done)
  rename_i kt vt l
  simp only at h
  replace h:=PM.qF h;obtain ⟨_,B2,h2,h⟩:=h
  obtain ⟨hn,rfl⟩:=jQ h2
  simp only [Bool.and_eq_true] at hn
  have e1:=jV hn.1;subst e1
  have e2:=jV hn.2.1;subst e2
  replace h:=PM.qF h;obtain ⟨key,B3,h3,h⟩:=h
  obtain ⟨hkey,rfl⟩:=qV h3
  obtain ⟨ck,hck,rfl⟩:=qfY hkey hrk
  obtain ⟨b,hb1,rfl⟩:=hs
  obtain ⟨b',es,clk,hb2,hb3,hb4,hb5⟩:=hbl
  rw [hb1] at hb2;cases hb2
  have hkd:=qvR hn.2.2 hfk
  have hchk:=fun c=>qq0 hn.2.2 hfk hck c w
  have run:∀ o,Instr.findNow (kdesc p.1) (mkV p.1 ck) es.toList 0=some o→(Instr.lookup tid (.map (some b)) (mkV p.1 ck) ok).run P w = .ok (match o with | some (_,v)=>mapV ok v true | none=>mapV ok (mkV p.2 (zcells p.2)) false) w:=by
   intro o ho
   have hfind:(Instr.findKey kt' (mkV p.1 ck) es.toList).run P w = .ok o w:=by
    simp [Instr.findKey,run_underlying hkd,ho]
   simp only [Instr.lookup,Sem.run_bind,run_underlying hu,Result.andThen_ok,qnN hb3,Sem.run_pure,hchk,hfind]
   cases o with
   | none=>simp [hz,mapV]
   | some q=>simp [mapV]
  unfold qLe at h
  cases ha:allD p.1 p.2 l with
  | none =>
   rw [ha] at h
   obtain ⟨hB',h⟩:=qIC hn.2.2 hck 0 hb4 h
   refine ⟨hB', ?_⟩
   rcases h with ⟨j,val,q1,q2⟩ | ⟨q1,q2⟩
   ·exact ⟨_,run _ q1,q2⟩
   ·exact ⟨_,run _ q1,q2⟩
  | some xs =>
   rw [ha] at h
   cases h
   refine ⟨rfl, ?_⟩
   rcases qGD (vt:=p.2) hn.2.2 hck 0 hb4 ha with ⟨j,val,q1,q2,q3⟩ | ⟨q1,q2,q3⟩
   ·exact ⟨_,run _ q1,qf6 q2 ⟨_,RepC.xD.2 (by rw [q3]),rfl⟩⟩
   ·exact ⟨_,run _ q1,qf6 q2 ⟨_,RepC.xD.2 (by rw [q3]),rfl⟩⟩
 case sc t y =>
  cases t <;> try (cases h;done)
  rename_i kk
  have hkk:kk=2:=by
   refine Classical.byContradiction fun hc => ?_
   match kk,hc,h with
   | 0,_,h=>cases h
   | 1,_,h=>cases h
   | 2,hc,_=>exact hc rfl
   | n+3,_,h=>cases h
  subst hkk
  simp only at h
  replace h:=PM.qF h;obtain ⟨_,B2,h2,h⟩:=h
  obtain ⟨hn,rfl⟩:=jQ h2
  replace h:=PM.qF h;obtain ⟨key,B3,h3,h⟩:=h
  obtain ⟨hkey,rfl⟩:=qV h3
  cases h
  obtain ⟨ck,hck,rfl⟩:=qfY hkey hrk
  obtain ⟨cs,hcs,rfl⟩:=hrx
  have:=RepC.qnQ.1 hcs;subst this
  have hkd:=qvR hn hfk
  have hchk:=qq0 hn hfk hck true w
  refine ⟨rfl,mapV ok (mkV p.2 (zcells p.2)) false, ?_,qf6 (toQ (qpJ (qd2 _)) (fun a=>by cases p.2 <;> simp [wS,qkA])) rfl⟩
  show (Instr.lookup tid (.map none) (mkV p.1 ck) ok).run P w=_
  have hfind:(Instr.findKey kt' (mkV p.1 ck) []).run P w = .ok none w:=by simp [Instr.findKey,run_underlying hkd,Instr.findNow]
  simp only [Instr.lookup,Sem.run_bind,run_underlying hu,Result.andThen_ok,Sem.run_pure]
  simp [hchk,hfind,hz,mapV]
theorem qpO {t:Ty} {tid:TypeId} (hf:(fit P t).1 tid) (hn:Ty.is t (.op 1)=false):∃ d,P.underlying tid=some d∧∀ ms,d ≠ .interface ms:=by
 cases t with
 | bool=>exact ⟨_,hf.1,by simp⟩
 | int k=>exact ⟨_,hf.1,by simp⟩
 | str=>exact ⟨_,hf.1,by simp⟩
 | sl e=>obtain ⟨⟨et,h,_⟩,_⟩:=hf;exact ⟨_,h,by simp⟩
 | unit=>obtain ⟨⟨et,h,_⟩,_⟩:=hf;exact ⟨_,h,by simp⟩
 | pair a b=>obtain ⟨⟨et,h,_⟩,_⟩:=hf;exact ⟨_,h,by simp⟩
 | ar n e=>obtain ⟨⟨et,h,_⟩,_⟩:=hf;exact ⟨_,h,by simp⟩
 | op k =>
  have h:=hf.1
  match k,h,hn with
  | 0,⟨_,_,_,h⟩,_=>exact ⟨_,h,by simp⟩
  | 1,_,hn=>cases hn
  | 2,⟨_,_,h⟩,_=>exact ⟨_,h,by simp⟩
  | 3,⟨_,h⟩,_=>exact ⟨_,h,by simp⟩
 | fn l=>obtain ⟨⟨_,_,_,h⟩,_⟩:=hf;exact ⟨_,h,by simp⟩
theorem qy4 {t:Ty} {tid:TypeId} (hf:(fit P t).1 tid) (hn:Ty.is t (.op 1)=false) (x:Value) (w:World):(Instr.makeInterface tid x).run P w = .ok (.iface tid x) w:=by
 obtain ⟨d,hu,hd⟩:=qpO hf hn
 simp only [Instr.makeInterface,Sem.run_bind,run_underlying hu,Result.andThen_ok]
 cases d <;> first | rfl | exact absurd rfl (hd _)
theorem qGW {E:Env} (hT:qfZ P E.T) {aT xT:TypeId} {x r:PV} {ok:Bool} {vx:Value} (h:(qCh E aT x ok).go g B=some (r,B')) (hr:RepP φ H B x vx) (w:World) :
  B'=B∧∃ v,(Instr.typeAssert vx xT aT ok).run P w = .ok v w∧RepP φ H B r v:=by
 unfold qCh at h
 have zero:∀ {t:Ty},RepQ φ H B (qkA t (wS t)) (mkV t (zcells t)):=fun {t}=>toQ (qpJ (qd2 t)) (fun a=>by cases t <;> simp [wS,qkA])
 cases x <;> try (cases h;done)
 case ifc tid t y =>
  replace h:=PM.qF h;obtain ⟨t',B1,h1,h⟩:=h
  obtain ⟨ht,rfl⟩:=qV h1
  obtain ⟨cs,hcs,rfl⟩:=hr
  cases hi:Ty.is t' (.op 1) with
  | true=>rw [hi] at h;cases h
  | false =>
   rw [hi] at h
   simp only [cond_false] at h
   have hf:=hT _ _ ht
   obtain ⟨d,hu,hd⟩:=qpO hf hi
   have hz:=vS hf w
   cases hb:Nat.beq tid aT with
   | true =>
    rw [hb] at h
    cases h
    have:=Nat.eq_of_beq_eq_true hb
    subst this
    refine ⟨rfl,mapV ok (mkV t cs) true, ?_,qf6 ⟨cs,hcs,rfl⟩ rfl⟩
    simp only [Instr.typeAssert,Sem.run_bind,run_underlying hu,Result.andThen_ok]
    cases d <;> first | exact absurd rfl (hd _) | (simp [mapV])
   | false =>
    rw [hb] at h
    simp only [cond_false] at h
    cases ok with
    | false=>cases h
    | true =>
     cases h
     refine ⟨rfl,mapV true (mkV t' (zcells t')) false, ?_,qf6 zero rfl⟩
     have hne:¬ tid=aT:=fun e=>by rw [e,Nat.beq_refl] at hb;cases hb
     simp only [Instr.typeAssert,Sem.run_bind,run_underlying hu,Result.andThen_ok]
     cases d <;> first | exact absurd rfl (hd _) | (simp [mapV,hne,hz])
 case sc t y =>
  cases t <;> try (cases h;done)
  rename_i kk
  have hkk:kk=1:=by
   refine Classical.byContradiction fun hc => ?_
   match kk,hc,h with
   | 0,_,h=>cases h
   | 1,hc,_=>exact hc rfl
   | n+2,_,h=>cases h
  subst hkk
  simp only at h
  replace h:=PM.qF h;obtain ⟨t',B1,h1,h⟩:=h
  obtain ⟨ht,rfl⟩:=qV h1
  obtain ⟨cs,hcs,rfl⟩:=hr
  have:=RepC.qnQ.1 hcs;subst this
  cases hi:Ty.is t' (.op 1) with
  | true=>rw [hi] at h;cases h
  | false =>
   rw [hi] at h
   simp only [cond_false] at h
   have hf:=hT _ _ ht
   obtain ⟨d,hu,hd⟩:=qpO hf hi
   have hz:=vS hf w
   cases ok with
   | false=>cases h
   | true =>
    cases h
    refine ⟨rfl,mapV true (mkV t' (zcells t')) false, ?_,qf6 zero rfl⟩
    show (Instr.typeAssert .nilIface xT aT true).run P w=_
    simp only [Instr.typeAssert,Sem.run_bind,run_underlying hu,Result.andThen_ok]
    cases d <;> first | exact absurd rfl (hd _) | (simp [mapV,hz])
end
end Yp
namespace Yp
open Go
variable {P : Program}
section
variable {K : Kp} {w0 w : World} {φ : Pl} {M : Nat → Prop} {B B' : Nat → Blk} {g : Nat → PV} {H : View}
theorem qLt {v:PV} {n:Int} {x:Value} (h:(asI v).go g B=some (n,B')) (hr:RepP φ H B v x):B'=B∧∃ k,x = .int k n:=by
 cases v <;> try (cases h;done)
 rename_i t y
 cases t <;> try (cases h;done)
 rename_i k
 cases h
 exact ⟨rfl,k,hr.int⟩
theorem qGd {t:Ty} (h:isSl t=true):∃ e,t = .sl e:=by cases t <;> first | exact ⟨_,rfl⟩ | cases h
theorem xY.args:∀ {l:List CV} {vs:List Value},xY φ H B l vs→PVs φ H B (l.map CV.pv) vs
 | [],vs,h=>by have h:vs=[]:=h;subst h;trivial
 | c :: l,vs,h=>by
  obtain ⟨v,vs',rfl,h1,h2⟩:=h
  refine ⟨?_,h2.args⟩
  cases c <;> exact h1
theorem PVs.app:∀ {ps qs:List PV} {vs us:List Value},PVs φ H B ps vs→PVs φ H B qs us→PVs φ H B (ps++qs) (vs++us)
 | [],_,[],_,_,h=>h
 | _ :: _,_,_ :: _,_,h,k=>⟨h.1,PVs.app h.2 k⟩
 | [],_,_ :: _,_,h,_=>h.elim
 | _ :: _,_,[],_,h,_=>h.elim
theorem xY.take:∀ (n:Nat) {l:List CV} {vs:List Value},xY φ H B l vs→xY φ H B (l.take n) (vs.take n)∧xY φ H B (l.drop n) (vs.drop n)
 | 0,_,_,h=>⟨rfl,h⟩
 | n+1,[],vs,h=>by have h:vs=[]:=h;subst h;exact ⟨rfl,rfl⟩
 | n+1,c :: l,vs,h=>by
  obtain ⟨v,vs',rfl,h1,h2⟩:=h
  obtain ⟨k1,k2⟩:=xY.take n h2
  exact ⟨⟨v,_,rfl,h1,k1⟩,k2⟩
theorem qnA {nf:Nat} {env:List CV} {ps:List PV} {us vs:List Value} (he:xY φ H B env us) (hp:PVs φ H B ps vs):PVs φ H B (qe8 nf env ps) (us.take nf++(vs++us.drop nf)):=by
 obtain ⟨k1,k2⟩:=xY.take nf he
 exact PVs.app k1.args (PVs.app hp k2.args)
theorem qLN {p:PV} {c:CV} {x:Value} (h:(cvP p).go g B=some (c,B')) (hm:Mem K w0 φ M B w) (hr:RepP φ (view w M) B p x) :
  ∃ M',Mem K w0 φ M' B' w∧Ext φ M B w φ M' B' w∧qxL φ (view w M') B' c x:=by
 cases p <;> try (cases h;done)
 case ptr id p=>cases h;exact ⟨M,hm,Ext.refl _ _ _ _,hr⟩
 case sc t y=>cases h;exact ⟨M,hm,Ext.refl _ _ _ _,hr⟩
 case kb b =>
  cases h
  have hr:x = .bool b:=hr
  subst hr
  exact ⟨M,hm,Ext.refl _ _ _ _,RepP.qcA φ _ B b⟩
 case agg t u =>
  obtain ⟨y,B1,h1,h2⟩:=PM.qF h
  cases h2
  obtain ⟨cs,rfl,M',m1,e1,_,_,f2⟩:=qpQ h1 hm hr
  exact ⟨M',m1,e1,cs,f2 rfl,rfl⟩
 case clo f nf env =>
  cases env with
  | nil =>
   cases h
   obtain ⟨vs,hv,rfl⟩:=hr
   have hv:vs=[]:=hv
   subst hv
   exact ⟨M,hm,Ext.refl _ _ _ _,[_],RepC.qzP.2 rfl,by simp [mkV,Ty.isAgg,qm5]⟩
  | cons c r=>cases h
theorem qII:∀ {ps:List PV} {cs:List CV} {vs:List Value} {M:Nat→Prop} {B B':Nat→Blk},(mapP cvP ps).go g B=some (cs,B')→Mem K w0 φ M B w→PVs φ (view w M) B ps vs →
  ∃ M',Mem K w0 φ M' B' w∧Ext φ M B w φ M' B' w∧xY φ (view w M') B' cs vs
 | [],cs,[],M,B,B',h,hm,_=>by cases h;exact ⟨M,hm,Ext.refl _ _ _ _,rfl⟩
 | [],_,_ :: _,_,_,_,_,_,hp=>hp.elim
 | _ :: _,_,[],_,_,_,_,_,hp=>hp.elim
 | p :: ps,cs,v :: vs,M,B,B',h,hm,hp=>by
  simp only [mapP] at h
  replace h:=PM.qF h;obtain ⟨c,B1,h1,h⟩:=h
  replace h:=PM.qF h;obtain ⟨cs',B2,h2,h⟩:=h
  cases h
  obtain ⟨M1,m1,e1,r1⟩:=qLN h1 hm hp.1
  obtain ⟨M2,m2,e2,r2⟩:=qII h2 m1 (hp.2.ext e1)
  exact ⟨M2,m2,e1.trans e2,v,vs,rfl,r1.mono e2.pl e2.vw e2.bl,r2⟩
theorem PVs.length:∀ {ps:List PV} {vs:List Value},PVs φ H B ps vs→ps.length=vs.length
 | [],[],_=>rfl
 | _ :: _,_ :: _,h=>by simp [PVs.length h.2]
 | [],_ :: _,h=>h.elim
 | _ :: _,[],h=>h.elim
theorem qDv {E:Env} (hG:Fns P E K w0) {d:Nat}:∀ {l:List Nat} {x:Nat} {ps:List PV} {vs:List Value} {v:PV},(qH7 E d l x ps).go g B=some (v,B')→Mem K w0 φ M B w→PVs φ (view w M) B ps vs →
  ∃ f,qm5 l x = .func (.func f) #[] #[]∧Called P f∧Calls P f vs.toArray w fun e w'=>∃ vr,e = .returned vr∧After K w0 φ M B w B' v vr w'
 | [],x,ps,vs,v,h,hm,hps=>by cases h
 | [f],x,ps,vs,v,h,hm,hps=>by
  replace h:=x9 h;obtain ⟨hx,h⟩:=h
  have hx:x=1:=Nat.eq_of_beq_eq_true hx
  subst hx
  exact ⟨f,rfl,qBL hG h hm hps⟩
 | f :: f' :: r,x,ps,vs,v,h,hm,hps=>by
  simp only [qH7,PM.go] at h
  cases hx:neb x 1 with
  | true =>
   rw [hx,if_pos rfl] at h
   have hx:x=1:=Nat.eq_of_beq_eq_true hx
   subst hx
   exact ⟨f,rfl,qBL hG h hm hps⟩
  | false =>
   rw [hx,if_neg (by simp)] at h
   obtain ⟨q,h1,h2⟩:=qDv hG h hm hps
   refine ⟨q, ?_,h2⟩
   match x,hx,h1 with
   | 0,_,h1=>simp [nsub,qm5] at h1
   | 1,hx,_=>simp [neb] at hx
   | n+2,_,h1=>simpa [nsub,qm5] using h1
theorem quP {t e:Ty} (h:qJZ t=some e):t = .sl e:=by
 cases t <;> try (cases h;done)
 exact congrArg Ty.sl (Option.some.inj h)
theorem RepQ.toP {v:PV} {x:Value} (h:RepQ φ H B v x) (hu:∀ a,v ≠ .tup a):RepP φ H B v x:=by
 cases v <;> first | exact h | exact absurd rfl (hu _)
theorem zB {α:Type} {x:Operand} {f:PV→PM α} {r:α×(Nat→Blk)} (h:((opd x).bind f).go g B=some r) {a:Act} (hs:Slots φ H B g a):∃ v,RepP φ H B v (a.eval x)∧(f v).go g B=some r:=by
 obtain ⟨v,B1,h1,h2⟩:=PM.qF h
 obtain ⟨e,hv⟩:=qqP h1 hs
 rw [e] at h2
 exact ⟨v,hv,h2⟩
theorem jJ {α β:Type} {o:Option β} {f:β→PM α} {r:α×(Nat→Blk)} (h:((PM.opt o).bind f).go g B=some r):∃ v,o=some v∧(f v).go g B=some r:=by
 obtain ⟨v,B1,h1,h2⟩:=PM.qF h
 obtain ⟨hv,e⟩:=qV h1
 rw [e] at h2
 exact ⟨v,hv,h2⟩
theorem qpI {α:Type} {p:PV} {f:Int→PM α} {r:α×(Nat→Blk)} (h:((asI p).bind f).go g B=some r) {x:Value} (hr:RepP φ H B p x):∃ n k,x = .int k n∧(f n).go g B=some r:=by
 obtain ⟨v,B1,h1,h2⟩:=PM.qF h
 obtain ⟨e,k,hv⟩:=qLt h1 hr
 rw [e] at h2
 exact ⟨v,k,hv,h2⟩
theorem qqO {α:Type} {o:Option Operand} {f:Option Int→PM α} {r:α×(Nat→Blk)} (h:((optI o).bind f).go g B=some r) {a:Act} (hs:Slots φ H B g a):∃ n k,o.map a.eval=(n.map fun i => .int k i)∧(f n).go g B=some r:=by
 obtain ⟨v,B1,h1,h2⟩:=PM.qF h
 obtain ⟨e,k,hv⟩:=qJn h1 hs
 rw [e] at h2
 exact ⟨v,k,hv,h2⟩
theorem qyZ {α:Type} {b:Bool} {f:Unit→PM α} {r:α×(Nat→Blk)} (h:((PM.need b).bind f).go g B=some r):b=true∧(f ()).go g B=some r:=by
 obtain ⟨v,B1,h1,h2⟩:=PM.qF h
 obtain ⟨hv,e⟩:=jQ h1
 rw [e] at h2
 exact ⟨hv,h2⟩
theorem qEt {E:Env} (hT:qfZ P E.T) {d:Nat} {b:Builtin} {ats:Array TypeId} {ps:List PV} {vs:List Value} {v:PV} (h:(qw9 E d b ats.toList ps).go g B=some (v,B')) (hm:Mem K w0 φ M B w)
  (hps:PVs φ (view w M) B ps vs) (ty:TypeId) (cs:Array Bool):∃ r w',(Go.builtin b ats ty cs vs.toArray).run P w = .ok (.value r) w'∧After K w0 φ M B w B' v r w':=by
 unfold qw9 at h
 split at h
 ·-- len
  split at h
  ·rename_i t ts a hats
   obtain ⟨xt,B1,h1,h2⟩:=PM.qF h
   obtain ⟨ht,rfl⟩:=qV h1
   match vs,hps with
   | [va],hps =>
    have h0:ats[0]? = some t:=by rw [← Array.getElem?_toList,hats];rfl
    obtain ⟨hB,r,h3,h4⟩:=qK3 (P:=P) (hT _ _ ht) h2 hps.1 h0 ty
    exact ⟨r,w,by simp [Go.builtin,h3],After.same hm hB h4⟩
   | [],hps=>exact hps.elim
   | _ :: _ :: _,hps=>exact hps.2.elim
  ·cases h
 ·-- cap
  split at h
  ·rename_i t ts hats
   replace h:=PM.qF h;obtain ⟨xt,B1,h1,h⟩:=h
   obtain ⟨ht,rfl⟩:=qV h1
   replace h:=jU h;obtain ⟨hsl,h⟩:=h
   obtain ⟨e,rfl⟩:=qGd hsl
   cases h
   match vs,hps with
   | [va],hps =>
    have h0:ats[0]? = some t:=by rw [← Array.getElem?_toList,hats];rfl
    have hva:va = .slice none 0 0:=hps.1
    subst hva
    obtain ⟨⟨et,hu,_⟩,_⟩:=hT _ _ ht
    refine ⟨goInt 0,w,by simp [Go.builtin,Builtin.cap_,h0,run_underlying hu],After.same hm rfl (RepP.qlC _ 0)⟩
   | [],hps=>exact hps.elim
   | _ :: _ :: _,hps=>exact hps.2.elim
  ·cases h
 ·-- append
  split at h
  ·rename_i t u s x hats
   split at h
   ·rename_i e ht hu
    match vs,hps with
    | [vs,vx],hps =>
     have hats':ats = #[t,u]:=by apply Array.ext';exact hats
     subst hats'
     split at h
     ·rename_i n _
      replace h:=x9 h;obtain ⟨hc,h⟩:=h
      simp only [band,Bool.and_eq_true] at hc
      obtain ⟨hpos,hnew,rfl,rfl⟩:=kT h
      have hva:vs = .slice none 0 0:=hps.1
      have hvx:=hps.2.1.int
      subst hva;subst hvx
      obtain ⟨r,w',h3,h4⟩:=qtP (ty:=ty) hpos (hT _ _ ht) (hT _ _ hu).1 (n:=(n:Int)) (by have:=hc.1;simpa [le] using this) hc.2 hnew hm
      have h3:(Builtin.append_ #[t,u] ty #[.slice none 0 0, .int .i64 (KD.to .i64 n)]).run P w = .ok r w':=h3
      exact ⟨r,w',by simp [Go.builtin,h3],h4⟩
     ·cases h
    | [],hps=>exact hps.elim
    | [_],hps=>exact hps.2.elim
    | _ :: _ :: _ :: _,hps=>exact hps.2.2.elim
   ·rename_i e ut hu ht hut
    replace h:=jU h;obtain ⟨hq,h⟩:=h
    match vs,hps with
    | [vs,vx],hps =>
     have hats':ats = #[t,u]:=by apply Array.ext';exact hats
     subst hats'
     obtain ⟨r,w',h3,h4⟩:=qGY (ty:=ty) (hT _ _ ht) (hT _ _ hut) hq h hm hps.1 hps.2.1
     exact ⟨r,w',by simp [Go.builtin,h3],h4⟩
    | [],hps=>exact hps.elim
    | [_],hps=>exact hps.2.elim
    | _ :: _ :: _ :: _,hps=>exact hps.2.2.elim
   ·cases h
  ·cases h
 ·-- copy
  split at h
  ·rename_i t u a x hats
   split at h
   ·rename_i e e2 ht hu
    match vs,hps with
    | [va,vx],hps =>
     have hats':ats = #[t,u]:=by apply Array.ext';exact hats
     subst hats'
     obtain ⟨r,w',h3,h4⟩:=qJ2 (uid:=u) (ty:=ty) (hT _ _ ht) h hm hps.1 hps.2.1
     exact ⟨r,w',by simp [Go.builtin,h3],h4⟩
    | [],hps=>exact hps.elim
    | [_],hps=>exact hps.2.elim
    | _ :: _ :: _ :: _,hps=>exact hps.2.2.elim
   ·cases h
  ·cases h
 ·-- min
  split at h
  ·rename_i a b
   cases h
   match vs,hps with
   | [va,vb],hps =>
    obtain ⟨h1,h2,_⟩:=hps
    have e1:=h1.int;have e2:=h2.int
    subst e1;subst e2
    refine ⟨_,w,by simp [Go.builtin,Builtin.min_,Builtin.min2];rfl,After.same hm rfl ?_⟩
    exact RepP.qgP _ _ _ .i64 (minI a b)
   | [],hps=>exact hps.elim
   | [_],hps=>exact hps.2.elim
   | _ :: _ :: _ :: _,hps=>exact hps.2.2.elim
  ·cases h
 ·-- max
  split at h
  ·rename_i a b
   cases h
   match vs,hps with
   | [va,vb],hps =>
    obtain ⟨h1,h2,_⟩:=hps
    have e1:=h1.int;have e2:=h2.int
    subst e1;subst e2
    refine ⟨_,w,by simp [Go.builtin,Builtin.max_,Builtin.max2];rfl,After.same hm rfl ?_⟩
    exact RepP.qgP _ _ _ .i64 (maxI a b)
   | [],hps=>exact hps.elim
   | [_],hps=>exact hps.2.elim
   | _ :: _ :: _ :: _,hps=>exact hps.2.2.elim
  ·cases h
 ·cases h
theorem qFt {v:PV} {x:Value} (hr:RepP φ H B v x) {r:PV} (h:(qlB v).go g B=some (r,B')):B'=B∧r=v∧((∃ a,x = .pointer (some a))∨∃ f a b,x = .func (.func f) a b):=by
 cases v <;> try (cases h;done)
 case ptr id p =>
  simp only [qlB,PM.go] at h
  have hs:RepS φ H B (.ptr id p) x:=hr
  simp only [RepS] at hs
  generalize hB:B id=bl at h hs
  cases bl <;> try (cases h;done)
  cases h
  obtain ⟨b,o,n,off,t',h1,h2,rfl⟩:=hs
  exact ⟨rfl,rfl, .inl ⟨_,rfl⟩⟩
 case opt id i p =>
  simp only [qlB,PM.go] at h
  have hs:RepS φ H B (.opt id i p) x:=hr
  simp only [RepS] at hs
  generalize hB:B id=bl at h hs
  cases bl <;> try (cases h;done)
  all_goals
   cases h
   obtain ⟨hi,b,o,n,off,t',h1,h2,rfl⟩:=hs
   exact ⟨rfl,rfl, .inl ⟨_,rfl⟩⟩
 case ipt e l i p =>
  cases h
  obtain ⟨hi,b,o,cap,off,t',h1,h2,rfl⟩:=hr
  exact ⟨rfl,rfl, .inl ⟨_,rfl⟩⟩
 case clo f nf env =>
  cases h
  obtain ⟨vs,_,rfl⟩:=hr
  exact ⟨rfl,rfl, .inr ⟨_,_,_,rfl⟩⟩
theorem qHE {a:Act} {y:Operand} (h:nzO y=true):∀ k n,a.eval y = .int k n→n≠0:=by
 unfold nzO at h
 split at h
 ·intro k n hn;simp only [Act.eval,Value.int.injEq] at hn;obtain ⟨_,rfl⟩:=hn;simp;omega
 ·intro k n hn;simp only [Act.eval,Value.int.injEq] at hn;obtain ⟨_,rfl⟩:=hn;simp
 ·cases h
theorem qHG {a:Act} {y:Operand} (h:nnO y=true):∀ k n,a.eval y = .int k n→0≤n:=by
 unfold nnO at h
 split at h
 ·intro k n hn;simp only [Act.eval,Value.int.injEq] at hn;obtain ⟨_,rfl⟩:=hn;simp
 ·cases h
theorem qzX {p:PV} {i:Nat} {v:PV} (h:(qlR p i).go g B=some (v,B')) {x:Value} (hr:RepP φ H B p x):∀ a,v ≠ .tup a:=by
 rintro a rfl
 unfold qlR at h
 split at h
 ·obtain ⟨h,_⟩:=qV h
  obtain ⟨vs,hl,rfl⟩:=hr
  rename_i q
  have key:∀ (i:Nat) (q:PV) (vs:List Value),getp q (qY i)=some (.tup a)→RepL φ H B q vs→False:=by
   intro i
   induction i with
   | zero =>
    intro q vs h hl
    cases q <;> simp only [qY,getp] at h <;> try (cases h;done)
    ·rename_i t y
     cases t <;> (try simp only [getp] at h) <;> cases h
    ·obtain ⟨u,us,rfl,h1,h2⟩:=hl
     (try simp only [getp] at h);cases h
     exact h1.elim
   | succ i ih =>
    intro q vs h hl
    cases q <;> simp only [qY,getp] at h <;> try (cases h;done)
    ·rename_i t y
     cases t <;> (try simp only [getp] at h) <;> try (cases h;done)
     exact hl.elim
    ·obtain ⟨u,us,rfl,h1,h2⟩:=hl
     exact ih _ _ h h2
  exact key i _ vs h hl
 ·cases h
def Gives (P:Program) (K:Kp) (w0:World) (φ:Pl) (M:Nat→Prop) (B:Nat→Blk) (w:World) (B':Nat→Blk) (v:PV) (s:Sem Next):Prop :=
 ∃ r w',s.run P w = .ok (.value r) w'∧After K w0 φ M B w B' v r w'
theorem Gives.of {s:Sem Value} {v:PV} {r:Value} {w':World} (h:s.run P w = .ok r w') (ha:After K w0 φ M B w B' v r w'):Gives P K w0 φ M B w B' v (do pure (.value (← s))) :=
 ⟨r,w',by simp [h],ha⟩
theorem Gives.pure {v:PV} {r:Value} (ha:After K w0 φ M B w B' v r w):Gives P K w0 φ M B w B' v (pure (.value r)):=⟨r,w,rfl,ha⟩
theorem qo2 {dst:Option Nat} {f:Operand} {args:Array Operand} {ats:Array TypeId} {type:TypeId} {pos:String} {after:Array Edge} {guard:Option (Nat×Bool)} {a:Act} {fid:Nat} {first cap:Array Value}
  (hf:a.eval f = .func (.func fid) first cap) (hcd:Called P fid) {Kn:Act→World→Prop} {Q:Exit→Act→World→Prop}
  (h:Calls P fid (first++args.map a.eval++cap) w fun e w'=>∃ vr,e = .returned vr∧Kn (a.put dst vr) w'):Oper.wp P ⟨dst, .call ⟨.value f,args,ats⟩,type,pos,after,guard⟩ a w Kn Q:=by
 obtain ⟨fn,c1,c2,c3⟩:=hcd
 have hbn:¬ fn.body=none:=by intro hb;rw [hb] at c2;cases c2
 have c3' : ¬ fn.name = "runtime.NumGoroutine" := by simpa using c3
 have hrun:(execOp a.eval ⟨dst, .call ⟨.value f,args,ats⟩,type,pos,after,guard⟩).run P w = .ok (.enter fid (first++args.map a.eval++cap)) w:=by
  simp only [execOp,resolve]
  simp [hf,Deferred.ofValue,invoke,callFunc,c1,c3',hbn]
 unfold Oper.wp
 rw [hrun,Oper.upon_enter]
 refine h.mono ?_
 rintro e w' ⟨vr,rfl,hk⟩
 exact hk
theorem qGo {E:Env} (hG:Fns P E K w0) {α:Type} {x:Operand} {f:PV→PM α} {r:α×(Nat→Blk)} (h:((gopd E x).bind f).go g B=some r) (hm:Mem K w0 φ M B w) {a:Act} (hs:Slots φ (view w M) B g a) :
  ∃ v,RepP φ (view w M) B v (a.eval x)∧(f v).go g B=some r:=by
 cases x with
 | global i =>
  simp only [gopd] at h
  cases hk:E.K with
  | none=>rw [hk] at h;cases h
  | some k =>
   rw [hk] at h
   simp only at h
   cases hb:Nat.beq k i with
   | false=>rw [hb] at h;cases h
   | true =>
    rw [hb] at h
    have:=Nat.eq_of_beq_eq_true hb
    subst this
    refine ⟨_, ?_,h⟩
    have hC:=(hG.gk (.inr (.inr ⟨_,hk⟩))).keys hm k (hG.kn k hk)
    show RepS φ (view w M) B (.ipt (.ar 64 (.int .u32)) [(qfV:List (KD .u32))] 0 []) (.pointer (some ⟨k,0,none⟩))
    simp only [RepS]
    exact ⟨Nat.zero_lt_one,k,0,1,0,_,hC,rfl,by simp⟩
 | tmp t=>exact zB h hs
 | const v=>exact zB h hs
 | func f'=>exact zB h hs
theorem qKT {E:Env} (hT:qfZ P E.T) (hC:qm9 P E.T E.C) (hMp:qfM P E.M) (hG:Fns P E K w0) {o:Oper} {a:Act} {v:PV} (h:(opP E o).go g B=some (v,B')) (hm:Mem K w0 φ M B w) (hs:Slots φ (view w M) B g a)
  {Kn:Act→World→Prop} {Q:Exit→Act→World→Prop} (hk:∀ r w',After K w0 φ M B w B' v r w'→Kn (a.put o.dst r) w'):o.wp P a w Kn Q:=by
 have gives:Gives P K w0 φ M B w B' v (execOp a.eval o)→o.wp P a w Kn Q:=fun ⟨r,w',h1,h2⟩=>qG2 h1 (hk r w' h2)
 obtain ⟨dst,op,type,pos,after,guard⟩:=o
 cases op <;> try (cases h;done)
 case move x =>
  obtain ⟨hB,hv⟩:=qqP h hs
  exact gives (Gives.pure (After.same hm hB hv))
 case assign x =>
  obtain ⟨hB,hv⟩:=qqP h hs
  exact gives (Gives.pure (After.same hm hB hv))
 case pick c x y =>
  replace h:=zB h hs;obtain ⟨pc,hc,h⟩:=h
  replace h:=zB h hs;obtain ⟨px,hx,h⟩:=h
  replace h:=zB h hs;obtain ⟨py,hy,h⟩:=h
  obtain ⟨hB,v',h4,h5⟩:=qHy (P:=P) h hc hx hy w
  exact gives ⟨v',w,h4,After.same hm hB h5⟩
 case alloc t =>
  replace h:=jJ h;obtain ⟨ty,ht,h⟩:=h
  replace h:=qlM h;obtain ⟨hid,h⟩:=h
  cases h
  obtain ⟨r,w',h1,h2⟩:=qId (hT _ _ ht) hid hm
  exact gives (Gives.of h1 h2)
 case box t x =>
  replace h:=jJ h;obtain ⟨ty,ht,h⟩:=h
  replace h:=zB h hs;obtain ⟨px,hx,h⟩:=h
  obtain ⟨_,B1,h1,h2⟩:=PM.qF h
  obtain ⟨e,cu,hcu,hTT⟩:=qDk h1 hx
  rw [e] at h2
  obtain ⟨hid,h2⟩:=qlM h2
  cases h2
  obtain ⟨r,w',h1,h2⟩:=qIK (hT _ _ ht) hid hm hcu hTT
  exact gives (Gives.of h1 h2)
 case build t parts =>
  replace h:=jJ h;obtain ⟨ty,ht,h⟩:=h
  obtain ⟨ps,B1,h1,h2⟩:=PM.qF h
  obtain ⟨e,hps⟩:=qqK hs h1
  rw [e] at h2
  have hps':qnF φ (view w M) B ps (parts.map fun (i,x)=>(i,a.eval x)).toList:=by simpa using hps
  cases ty <;> try (cases h2;done)
  case ar n e =>
   obtain ⟨r,h3,h4⟩:=qCf (hT _ _ ht) h2 hm hps'
   exact gives (Gives.of h3 h4)
  case unit =>
   obtain ⟨hB,r,h3,h4⟩:=qr9 rfl (hT _ _ ht) h2 hps' w
   exact gives (Gives.of h3 (After.same hm hB h4))
  case pair x y =>
   obtain ⟨hB,r,h3,h4⟩:=qr9 rfl (hT _ _ ht) h2 hps' w
   exact gives (Gives.of h3 (After.same hm hB h4))
 case buildSlice t n parts =>
  replace h:=jJ h;obtain ⟨ty,ht,h⟩:=h
  replace h:=jJ h;obtain ⟨e,he,h⟩:=h
  have:=quP he;subst this
  obtain ⟨ps,B1,h1,h2⟩:=PM.qF h
  obtain ⟨eB,hps⟩:=qqK hs h1
  rw [eB] at h2
  have hps':qnF φ (view w M) B ps (parts.map fun (i,x)=>(i,a.eval x)).toList:=by simpa using hps
  obtain ⟨r,w',h3,h4⟩:=qxA (hT _ _ ht) h2 hm hps'
  exact gives (Gives.of h3 h4)
 case load t x =>
  replace h:=jJ h;obtain ⟨ty,ht,h⟩:=h
  replace h:=zB h hs;obtain ⟨px,hx,h⟩:=h
  obtain ⟨hB,r,h3,h4⟩:=qIz (hT _ _ ht) h hm hx
  exact gives (Gives.of h3 (After.same hm hB h4))
 case store t x y =>
  replace h:=jJ h;obtain ⟨ty,ht,h⟩:=h
  replace h:=zB h hs;obtain ⟨px,hx,h⟩:=h
  replace h:=zB h hs;obtain ⟨py,hy,h⟩:=h
  obtain ⟨rfl,w',M',h3,h4,h5⟩:=qHa (hT _ _ ht) h hm hx hy
  exact qCp (w':=w') (by simp [execOp,h3]) (hk _ _ ⟨φ,M',h4,h5,rfl⟩)
 case nilCheck x =>
  replace h:=zB h hs;obtain ⟨px,hx,h⟩:=h
  obtain ⟨hB,rfl,he⟩:=qFt hx h
  refine gives ⟨a.eval x,w, ?_,After.same hm hB hx⟩
  rcases he with ⟨ad,he⟩ | ⟨f,a1,b1,he⟩
  ·simp only [execOp,he];rfl
  ·simp only [execOp,he];rfl
 case binOp op t x y yt =>
  replace h:=zB h hs;obtain ⟨px,hx,h⟩:=h
  replace h:=zB h hs;obtain ⟨py,hy,h⟩:=h
  obtain ⟨hB,r,h3,h4⟩:=qKc hT hC h hx hy (fun hz=>qHE hz) (fun hz=>qHG hz) x y w
  exact gives (Gives.of h3 (After.same hm hB h4))
 case unOp op t x =>
  replace h:=zB h hs;obtain ⟨px,hx,h⟩:=h
  obtain ⟨hB,r,h3,h4⟩:=qKs (P:=P) h hx w
  exact gives (Gives.of h3 (After.same hm hB h4))
 case convert s t x =>
  replace h:=zB h hs;obtain ⟨px,hx,h⟩:=h
  unfold qLl at h
  replace h:=jJ h;obtain ⟨ts,hts,h⟩:=h
  replace h:=jJ h;obtain ⟨tt,htt,h⟩:=h
  have fs:=hT _ _ hts
  have ft:=hT _ _ htt
  cases tt <;> try (cases h;done)
  case int k =>
   cases px <;> try (cases h;done)
   rename_i pt pl
   cases pt <;> try (cases h;done)
   rename_i k'
   cases h
   have e:=hx.int
   obtain ⟨d,hd⟩:=qJX fs
   have hr:=qpZ (P:=P) (k:=k) (k':=k') hd ft.1 (KD.to k' pl) w
   rw [← e] at hr
   refine gives (Gives.of hr (After.same hm rfl ?_))
   have:=RepP.qgP φ (view w M) B k (KD.of k (KD.to k' pl))
   rwa [KD.qG6] at this
  case str =>
   cases ts <;> try (cases h;done)
   case str =>
    cases px <;> try (cases h;done)
    rename_i pt pl
    cases pt <;> try (cases h;done)
    cases h
    have e:=hx.str
    refine gives (Gives.of (r:=a.eval x) (w':=w) ?_ (After.same hm rfl hx))
    rw [e]
    simp [convert,run_underlying fs.1,run_underlying ft.1]
   case sl e =>
    replace h:=jU h;obtain ⟨hb,h⟩:=h
    have he:e = .int .u8:=by
     unfold qj0 at hb
     split at hb
     ·rename_i heq;exact (Ty.sl.inj heq)
     ·cases hb
    subst he
    obtain ⟨l,B1,h1,h2⟩:=PM.qF h
    cases h2
    obtain ⟨hB,hr⟩:=qwG (l:=l) fs ft.1 h1 hm hx
    exact gives (Gives.of hr (After.same hm hB (RepP.qFY _ _ _ l)))
  case sl e =>
   cases ts <;> try (cases h;done)
   case sl e' =>
    cases px <;> try (cases h;done)
    rename_i id ne
    cases ne <;> try (cases h;done)
    replace h:=jU h;obtain ⟨hb,h⟩:=h
    simp only [Bool.and_eq_true] at hb
    have he:e = .int .u8:=by
     have:=hb.1
     unfold qj0 at this
     split at this
     ·rename_i heq;exact (Ty.sl.inj heq)
     ·cases this
    subst he
    have hst:=Nat.eq_of_beq_eq_true hb.2.2
    subst hst
    simp only [PM.go] at h
    generalize hB:B id=bl at h
    cases bl <;> try (cases h;done)
    cases h
    obtain ⟨r,w',h3,h4⟩:=qrJ (P:=P) ft hB hm hx
    exact gives (Gives.of h3 h4)
   cases px <;> try (cases h;done)
   rename_i pt pl
   cases pt <;> try (cases h;done)
   ·replace h:=jU h;obtain ⟨hb,h⟩:=h
    have he:e = .int .u8:=by
     unfold qj0 at hb
     split at hb
     ·rename_i heq;exact (Ty.sl.inj heq)
     ·cases hb
    subst he
    replace h:=x9 h;obtain ⟨hroom,h⟩:=h
    obtain ⟨_,hnew,rfl,rfl⟩:=kT h
    have e:=hx.str
    have hlen:(pl:List UInt8).length*1≤140737488355328:=of_decide_eq_true hroom
    obtain ⟨r,w',h3,h4⟩:=qwF (P:=P) (l:=pl) fs.1 ft hnew (by omega) hm
    rw [← e] at h3
    exact gives (Gives.of h3 h4)
 case makeSlice t l c =>
  replace h:=jJ h;obtain ⟨ty,ht,h⟩:=h
  replace h:=jJ h;obtain ⟨e,he,h⟩:=h
  have:=quP he;subst this
  replace h:=zB h hs;obtain ⟨pl,hl,h⟩:=h
  replace h:=qpI h hl;obtain ⟨nl,kl,el,h⟩:=h
  replace h:=zB h hs;obtain ⟨pc,hc,h⟩:=h
  replace h:=qpI h hc;obtain ⟨nc,kc,ec,h⟩:=h
  obtain ⟨r,w',h3,h4⟩:=qJC (kl:=kl) (kc:=kc) (hT _ _ ht) hm h
  rw [← el,← ec] at h3
  exact gives (Gives.of h3 h4)
 case slice t x lo hi mx =>
  replace h:=jJ h;obtain ⟨ty,ht,h⟩:=h
  replace h:=zB h hs;obtain ⟨px,hx,h⟩:=h
  replace h:=qqO h hs;obtain ⟨nlo,klo,elo,h⟩:=h
  replace h:=qqO h hs;obtain ⟨nhi,khi,ehi,h⟩:=h
  replace h:=qqO h hs;obtain ⟨nmx,kmx,emx,h⟩:=h
  have key:∀ {s:Sem Value},(∃ r w',s.run P w = .ok r w'∧After K w0 φ M B w B' v r w')→s=Instr.sliceAt t (a.eval x) (nlo.map fun i => .int klo i) (nhi.map fun i => .int khi i) (nmx.map fun i => .int kmx i) →
    Oper.wp P ⟨dst, .slice t x lo hi mx,type,pos,after,guard⟩ a w Kn Q:=by
   rintro s ⟨r,w',h1,h2⟩ rfl
   refine gives ⟨r,w', ?_,h2⟩
   simp only [execOp,elo,ehi,emx]
   simp [h1]
  cases nmx with
  | some m =>
   obtain ⟨hB,r,h3,h4⟩:=qEQ (P:=P) (hT _ _ ht) h hx klo khi kmx
   exact key ⟨r,w,h3,After.same hm hB h4⟩ rfl
  | none =>
   cases ty <;> try (cases h;done)
   case str =>
    cases px <;> try (cases h;done)
    rename_i pt pl
    cases pt <;> try (cases h;done)
    have e:=hx.str
    obtain ⟨hB,r,h3,h4⟩:=qx3 (P:=P) h (hT _ _ ht).1 klo khi (φ:=φ) (H:=view w M) w
    exact key ⟨r,w,by rw [← e] at h3;exact h3,After.same hm hB h4⟩ rfl
   case sl e =>
    obtain ⟨hB,r,h3,h4⟩:=qx4 (P:=P) (hT _ _ ht) h hm hx klo khi
    exact key ⟨r,w,h3,After.same hm hB h4⟩ rfl
   case ar n e =>
    obtain ⟨hB,r,h3,h4⟩:=qx5 (P:=P) (hT _ _ ht) h hm hx klo khi
    exact key ⟨r,w,h3,After.same hm hB h4⟩ rfl
 case fieldAddr s x f =>
  replace h:=zB h hs;obtain ⟨px,hx,h⟩:=h
  obtain ⟨hB,r,h3,h4⟩:=qzV (P:=P) (fun t ht=>hT _ _ ht) h hx
  exact gives (Gives.of h3 (After.same hm hB h4))
 case field t x f =>
  replace h:=zB h hs;obtain ⟨px,hx,h⟩:=h
  obtain ⟨hB,r,h3,h4⟩:=qH4 (P:=P) hT h hx
  exact gives (Gives.of h3 (After.same hm hB h4))
 case indexAddr t x i =>
  replace h:=jJ h;obtain ⟨ty,ht,h⟩:=h
  replace h:=qGo hG h hm hs;obtain ⟨px,hx,h⟩:=h
  replace h:=zB h hs;obtain ⟨pi,hi,h⟩:=h
  replace h:=qpI h hi;obtain ⟨n,k,ei,h⟩:=h
  obtain ⟨hB,r,h3,h4⟩:=qzF (P:=P) (k:=k) (hT _ _ ht) h hx
  rw [← ei] at h3
  exact gives (Gives.of h3 (After.same hm hB h4))
 case index t x i =>
  replace h:=jJ h;obtain ⟨ty,ht,h⟩:=h
  replace h:=zB h hs;obtain ⟨px,hx,h⟩:=h
  replace h:=zB h hs;obtain ⟨pi,hi,h⟩:=h
  replace h:=qpI h hi;obtain ⟨n,k,ei,h⟩:=h
  cases ty with
  | str =>
   have hq:∃ l,px = .sc .str l:=by
    cases px <;> try (cases h;done)
    rename_i pt pl
    cases pt <;> first | exact ⟨_,rfl⟩ | cases h
   obtain ⟨l,rfl⟩:=hq
   have e:=hx.str
   obtain ⟨hB,r,h3,h4⟩:=qzD (P:=P) h (hT _ _ ht).1 k (φ:=φ) (H:=view w M) w
   rw [← ei,← e] at h3
   exact gives (Gives.of h3 (After.same hm hB h4))
  | ar m e =>
   obtain ⟨hB,r,h3,h4⟩:=qBt (P:=P) (hT _ _ ht) h hx k
   rw [← ei] at h3
   exact gives (Gives.of h3 (After.same hm hB h4))
  | _ =>
   cases px <;> try (cases h;done)
   rename_i pt pl
   cases pt <;> cases h
 case range t x =>
  replace h:=jJ h;obtain ⟨ty,ht,h⟩:=h
  replace h:=qyZ h;obtain ⟨hi,h⟩:=h
  have:=jV hi;subst this
  replace h:=zB h hs;obtain ⟨px,hx,h⟩:=h
  cases px <;> try (cases h;done)
  rename_i pt pl
  cases pt <;> try (cases h;done)
  replace h:=qlM h;obtain ⟨hid,h⟩:=h
  cases h
  have e:=hx.str
  obtain ⟨r,w',h3,h4⟩:=qHn (P:=P) (hT _ _ ht).1 hid (l:=pl) hm
  rw [← e] at h3
  exact gives (Gives.of h3 h4)
 case next x b =>
  cases b <;> try (cases h;done)
  replace h:=zB h hs;obtain ⟨px,hx,h⟩:=h
  obtain ⟨r,w',h3,h4⟩:=qJv (P:=P) h hm hx type
  exact gives (Gives.of h3 h4)
 case extract x i =>
  replace h:=zB h hs;obtain ⟨px,hx,h⟩:=h
  obtain ⟨hB,r,h3,h4⟩:=qBz (P:=P) h hx w
  refine gives (Gives.of h3 (After.same hm hB ?_))
  exact h4.toP (qzX h hx)
 case makeFunc fn first cap =>
  cases fn <;> try (cases h;done)
  rename_i f
  replace h:=PM.qF h;obtain ⟨pa,B1,h1,h⟩:=h
  obtain ⟨e1,hpa⟩:=qjV hs h1
  rw [e1] at h
  replace h:=PM.qF h;obtain ⟨pb,B2,h2,h⟩:=h
  obtain ⟨e2,hpb⟩:=qjV hs h2
  rw [e2] at h
  replace h:=PM.qF h;obtain ⟨env,B3,h3,h⟩:=h
  cases h
  obtain ⟨M',m1,x1,r1⟩:=qII h3 hm (PVs.app hpa hpb)
  refine gives ⟨.func (.func f) (first.map a.eval) (cap.map a.eval),w,by simp [execOp,Instr.makeFunc],φ,M',m1,x1,_,r1, ?_⟩
  have hlen:pa.length=(first.toList.map a.eval).length:=hpa.length
  rw [hlen,List.take_left,List.drop_left]
  congr 1 <;> (apply Array.ext';simp)
 case makeMap t r =>
  cases r <;> try (cases h;done)
  replace h:=jJ h;obtain ⟨p,hp,h⟩:=h
  replace h:=qlM h;obtain ⟨hid,h⟩:=h
  cases h
  obtain ⟨r,w',h1,h2⟩:=qD2 (P:=P) (t:=t) hid p.1 p.2 hm
  exact gives (Gives.of h1 h2)
 case insert t m k x =>
  replace h:=jJ h;obtain ⟨p,hp,h⟩:=h
  replace h:=zB h hs;obtain ⟨pm,hrm,h⟩:=h
  replace h:=zB h hs;obtain ⟨pk,hrk,h⟩:=h
  replace h:=zB h hs;obtain ⟨px,hrx,h⟩:=h
  obtain ⟨kt',vt',hu,hfk,hfv⟩:=hMp _ _ hp
  obtain ⟨rfl,w',M',h3,h4,h5⟩:=qGf (P:=P) h hu hfk hm hrm hrk hrx
  exact qCp (w':=w') (by simp [execOp,h3]) (hk _ _ ⟨φ,M',h4,h5,rfl⟩)
 case lookup t x i ok =>
  replace h:=zB h hs;obtain ⟨px,hrx,h⟩:=h
  replace h:=zB h hs;obtain ⟨pk,hrk,h⟩:=h
  obtain ⟨hB,r,h3,h4⟩:=qFZ (P:=P) hMp h hm hrx hrk
  exact gives (Gives.of h3 (After.same hm hB h4))
 case makeInterface t x =>
  replace h:=jJ h;obtain ⟨ty,ht,h⟩:=h
  replace h:=qyZ h;obtain ⟨hn,h⟩:=h
  replace h:=zB h hs;obtain ⟨px,hrx,h⟩:=h
  replace h:=PM.qF h;obtain ⟨y,B1,h1,h⟩:=h
  cases h
  obtain ⟨cs,hv,M',m1,x1,_,_,f2⟩:=qpQ h1 hm hrx
  refine gives ⟨.iface t (a.eval x),w, ?_,φ,M',m1,x1,cs,f2 rfl,by rw [hv]⟩
  have:=qy4 (P:=P) (hT _ _ ht) (by simpa using hn) (a.eval x) w
  simp only [execOp];simp [this]
 case typeAssert x xT aT ok =>
  replace h:=zB h hs;obtain ⟨px,hrx,h⟩:=h
  obtain ⟨hB,r,h3,h4⟩:=qGW (P:=P) hT (xT:=xT) h hrx w
  exact gives (Gives.of h3 (After.same hm hB h4))
 case call c =>
  obtain ⟨callee,args,ats⟩:=c
  cases callee <;> try (cases h;done)
  case builtin b =>
   obtain ⟨ps,B1,h1,h2⟩:=PM.qF h
   obtain ⟨e,hps⟩:=qjV hs h1
   rw [e] at h2
   have ha:(args.toList.map a.eval).toArray=args.map a.eval:=by apply Array.ext';simp
   have key:∀ cs,Gives P K w0 φ M B w B' v (Go.builtin b ats type cs (args.map a.eval)):=fun cs=>by
    obtain ⟨r,w',h3,h4⟩:=qEt (P:=P) hT h2 hm hps type cs
    rw [ha] at h3
    exact ⟨r,w',h3,h4⟩
   exact gives (key _)
  case value f =>
   replace h:=zB h hs;obtain ⟨pf,hf,h⟩:=h
   obtain ⟨ps,B1,h1,h2⟩:=PM.qF h
   obtain ⟨e,hps⟩:=qjV hs h1
   rw [e] at h2
   have ha:(args.toList.map a.eval).toArray=args.map a.eval:=by apply Array.ext';simp
   cases pf <;> try (cases h2;done)
   case clo fid nf env =>
    obtain ⟨us,he,hf⟩:=hf
    obtain ⟨hcd,hcall⟩:=qBL (P:=P) hG h2 hm (qnA he hps)
    refine qo2 hf hcd ?_
    have hargs:(us.take nf++(args.toList.map a.eval++us.drop nf)).toArray=(us.take nf).toArray++args.map a.eval++(us.drop nf).toArray:=by rw [← ha];simp
    rw [← hargs]
    refine hcall.mono ?_
    rintro e w' ⟨vr,rfl,ha⟩
    exact ⟨vr,rfl,hk vr w' ha⟩
   case sc t x =>
    cases t <;> try (cases h2;done)
    rename_i l
    obtain ⟨cs,hcs,hf⟩:=hf
    have:=RepC.qzP.1 hcs;subst this
    obtain ⟨fid,hfn,hcd,hcall⟩:=qDv (P:=P) hG h2 hm hps
    have hf:a.eval f = .func (.func fid) #[] #[]:=by rw [hf];simp [mkV,Ty.isAgg,hfn]
    refine qo2 hf hcd ?_
    have hargs:(args.toList.map a.eval).toArray = #[]++args.map a.eval ++ #[]:=by rw [ha];simp
    rw [← hargs]
    refine hcall.mono ?_
    rintro e w' ⟨vr,rfl,ha⟩
    exact ⟨vr,rfl,hk vr w' ha⟩
end
end Yp
namespace Yp
open Go
def updT (g:Nat→PV) (i:Nat) (v:PV):Nat→PV:=fun j=>if j=i then v else g j
theorem Tr.qzM (f i:Nat):Tr.get f .e i = .bad:=by cases f <;> rfl
theorem zQ {a b:Nat} (h:a=b):Nat.beq a b=true:=by subst h;exact Nat.beq_refl a
theorem qS {a b:Nat} (h:a≠b):Nat.beq a b=false:=by
 cases hb:Nat.beq a b with
 | false=>rfl
 | true=>exact absurd (Nat.eq_of_beq_eq_true hb) h
theorem Tr.qdN:∀ (f:Nat) (t:Tr) (i j:Nat) (v:PV),j≠i→(t.set f i v).get f j=t.get f j
 | 0,t,i,j,v,h=>rfl
 | f+1, .e,i,j,v,h=>by
  rw [Tr.qzM]
  simp only [Tr.set]
  by_cases hi:i=0
  ·rw [zQ hi]
   simp only [cond,Tr.get]
   rw [qS (by omega:j≠0)]
   simp only [cond,Tr.qzM]
   cases Nat.beq (j % 2) 1 <;> rfl
  ·rw [qS hi]
   by_cases hm:i % 2=1
   ·rw [zQ hm]
    simp only [cond,Tr.get]
    by_cases hj:j=0
    ·rw [zQ hj]
    ·rw [qS hj]
     by_cases hk:j % 2=1
     ·rw [zQ hk];simp only [Tr.qdN f .e (i / 2) (j / 2) v (by omega),Tr.qzM]
     ·rw [qS hk];simp only [Tr.qzM]
   ·rw [qS hm]
    simp only [cond,Tr.get]
    by_cases hj:j=0
    ·rw [zQ hj]
    ·rw [qS hj]
     by_cases hk:j % 2=1
     ·rw [zQ hk];simp only [Tr.qzM]
     ·rw [qS hk];simp only [Tr.qdN f .e (i / 2 - 1) (j / 2 - 1) v (by omega),Tr.qzM]
 | f+1, .n w l r,i,j,v,h=>by
  simp only [Tr.set]
  by_cases hi:i=0
  ·rw [zQ hi]
   simp only [cond,Tr.get]
   rw [qS (by omega:j≠0)]
  ·rw [qS hi]
   by_cases hm:i % 2=1
   ·rw [zQ hm]
    simp only [cond,Tr.get]
    by_cases hj:j=0
    ·rw [zQ hj]
    ·rw [qS hj]
     by_cases hk:j % 2=1
     ·rw [zQ hk];simp only [Tr.qdN f l (i / 2) (j / 2) v (by omega)]
     ·rw [qS hk]
   ·rw [qS hm]
    simp only [cond,Tr.get]
    by_cases hj:j=0
    ·rw [zQ hj]
    ·rw [qS hj]
     by_cases hk:j % 2=1
     ·rw [zQ hk]
     ·rw [qS hk];simp only [Tr.qdN f r (i / 2 - 1) (j / 2 - 1) v (by omega)]
theorem Tr.kG:∀ (f:Nat) (t:Tr) (i:Nat) (v:PV),(t.set f i v).get f i=v∨(t.set f i v).get f i = .bad∧2 ^ f≤i+1
 | 0,t,i,v => .inr ⟨rfl,by simp⟩
 | f+1, .e,i,v=>by
  simp only [Tr.set]
  by_cases hi:i=0
  ·rw [zQ hi];left;simp only [cond,Tr.get,zQ hi]
  ·rw [qS hi]
   have hp:2 ^ (f+1)=2*2 ^ f:=by rw [Nat.pow_succ];omega
   by_cases hm:i % 2=1
   ·rw [zQ hm]
    simp only [cond,Tr.get,qS hi,zQ hm]
    rcases Tr.kG f .e (i / 2) v with h | h
    ·exact .inl h
    ·exact .inr ⟨h.1,by omega⟩
   ·rw [qS hm]
    simp only [cond,Tr.get,qS hi,qS hm]
    rcases Tr.kG f .e (i / 2 - 1) v with h | h
    ·exact .inl h
    ·exact .inr ⟨h.1,by omega⟩
 | f+1, .n w l r,i,v=>by
  simp only [Tr.set]
  by_cases hi:i=0
  ·rw [zQ hi];left;simp only [cond,Tr.get,zQ hi]
  ·rw [qS hi]
   have hp:2 ^ (f+1)=2*2 ^ f:=by rw [Nat.pow_succ];omega
   by_cases hm:i % 2=1
   ·rw [zQ hm]
    simp only [cond,Tr.get,qS hi,zQ hm]
    rcases Tr.kG f l (i / 2) v with h | h
    ·exact .inl h
    ·exact .inr ⟨h.1,by omega⟩
   ·rw [qS hm]
    simp only [cond,Tr.get,qS hi,qS hm]
    rcases Tr.kG f r (i / 2 - 1) v with h | h
    ·exact .inl h
    ·exact .inr ⟨h.1,by omega⟩
theorem St.qe0 (s:St) {i j:Nat} (v:PV) (h:j≠i):(s.setT i v).getT j=s.getT j:=Tr.qdN 40 s.t i j v h
theorem St.qg2 (s:St) (i:Nat) (v:PV):(s.setT i v).getT i=v∨(s.setT i v).getT i = .bad:=(Tr.kG 40 s.t i v).imp id (·.1)
theorem St.qHX (s:St) {i:Nat} (v:PV) (hi:i < 1000000):(s.setT i v).getT=updT s.getT i v:=by
 funext j
 unfold updT
 split
 ·rename_i h;subst h
  rcases Tr.kG 40 s.t j v with h | h
  ·exact h
  ·have:(2:Nat) ^ 40=1099511627776:=by decide
   omega
 ·rename_i h;exact s.qe0 v h
theorem qC7:∀ (l:List (Nat×Blk)) (id:Nat) (b:Blk) (j:Nat),look (putB l id b) j=if j=id then b else look l j
 | [],id,b,j=>by
  simp only [putB,look]
  by_cases h:j=id
  ·rw [zQ h.symm,if_pos h];rfl
  ·rw [qS (Ne.symm h),if_neg h];rfl
 | (i,c) :: l,id,b,j=>by
  simp only [putB]
  by_cases hi:i=id
  ·rw [zQ hi]
   simp only [cond,look]
   by_cases h:j=id
   ·rw [zQ h.symm,if_pos h]
   ·rw [qS (Ne.symm h),if_neg h,qS (by rw [hi];exact Ne.symm h)]
  ·rw [qS hi]
   simp only [cond,look]
   by_cases h:i=j
   ·rw [zQ h,if_neg (by omega)]
   ·rw [qS h];exact qC7 l id b j
theorem St.qe1 (s:St) (id:Nat) (b:Blk):(s.setB id b).getB=updB s.getB id b:=by
 funext j;exact qC7 s.h id b j
theorem St.xK (s:St):∀ l:List (Nat×Blk),(s.j8 l).getB=zL s.getB l
 | []=>rfl
 | (i,b) :: l=>by rw [kC,← St.xK s l];exact St.qe1 _ i b
theorem St.v3 (s:St):∀ l:List (Nat×Blk),(s.j8 l).getT=s.getT
 | []=>rfl
 | (i,b) :: l=>St.v3 s l
theorem St.qA4 (s:St):∀ l:List (Nat×Blk),(s.j8 l).w=l.map (·.1)++s.w
 | []=>rfl
 | (i,b) :: l=>by
  show i :: (s.j8 l).w=_
  rw [St.qA4 s l];rfl
theorem R.qN {α β γ:Type} (t:R α) (f:α→R β) (k:β→R γ):(t.bind f).bind k=t.bind fun a=>(f a).bind k:=by
 induction t with
 | fail=>rfl
 | leaf a=>rfl
 | br c x y hx hy=>simp only [R.bind,hx,hy]
 | chk c x hx=>simp only [R.bind,hx]
 | bo d o g hg=>simp only [R.bind,hg]
 | cs d e o kn ke kr hn he hr=>simp only [R.bind,hn,he,hr]
def R.ofO {β:Type}:Option β→R β
 | some b => .leaf b
 | none => .fail
theorem R.qFN {β ρ:Type} {o:Option β} {k:β→R ρ} {r:ρ} (h:((R.ofO o).bind k).ev=some r):∃ b,o=some b∧(k b).ev=some r:=by
 cases o with
 | none=>cases h
 | some b=>exact ⟨b,rfl,h⟩
theorem R.qeR {α β:Type} (f:α→Option β):∀ (t:R α),(t.omap f)=t.bind fun a=>R.ofO (f a)
 | .fail=>rfl
 | .leaf a=>by cases h:f a <;> simp only [R.omap,R.bind,R.ofO,h]
 | .br c x y=>by simp only [R.omap,R.bind,R.qeR f x,R.qeR f y]
 | .chk c x=>by simp only [R.omap,R.bind,R.qeR f x]
 | .bo d o k=>by simp only [R.omap,R.bind];congr;funext a;exact R.qeR f (k a)
 | .cs d e o kn ke kr=>by
  simp only [R.omap,R.bind]
  congr
  ·funext a;exact R.qeR f (kn a)
  ·funext i a;exact R.qeR f (ke i a)
  ·funext a;exact R.qeR f (kr a)
theorem jG {α:Type}:∀ t:R α,t.bind .leaf=t
 | .fail=>rfl
 | .leaf a=>rfl
 | .br c x y=>by simp only [R.bind,jG x,jG y]
 | .chk c x=>by simp only [R.bind,jG x]
 | .bo d o k=>by simp only [R.bind];congr;funext a;exact jG (k a)
 | .cs d e o kn ke kr=>by
  simp only [R.bind]
  congr
  ·funext a;exact jG (kn a)
  ·funext i a;exact jG (ke i a)
  ·funext a;exact jG (kr a)
theorem R.qLM {α β:Type} {d:α} {o:Option α} {k:α→R β} {r:β} (h:(R.bo d o k).ev=some r):∃ a,o=some a∧(k a).ev=some r:=by
 cases o with
 | none=>cases h
 | some a=>exact ⟨a,rfl,h⟩
def Weak (s1 s2:St):Prop:=(∀ t,s2.getT t=s1.getT t∨s2.getT t = .bad∨∃ ty x,s2.getT t = .sc ty x∧toD ty (s1.getT t)=some x)∧s2.getB=s1.getB
theorem Weak.refl (s:St):Weak s s:=⟨fun _ => .inl rfl,rfl⟩
theorem Weak.trans {s1 s2 s3:St} (h:Weak s1 s2) (k:Weak s2 s3):Weak s1 s3:=by
 refine ⟨fun t => ?_,k.2.trans h.2⟩
 rcases k.1 t with k1 | k1 | ⟨ty,x,k1,k2⟩
 ·rw [k1];exact h.1 t
 ·exact .inr (.inl k1)
 ·rcases h.1 t with h1 | h1 | ⟨ty',x',h1,h2⟩
  ·rw [h1] at k2;exact .inr (.inr ⟨ty,x,k1,k2⟩)
  ·rw [h1] at k2;cases k2
  ·rw [h1] at k2
   obtain ⟨e,hx⟩:=yG k2
   subst e
   refine .inr (.inr ⟨ty',x,k1, ?_⟩)
   rw [h2];exact congrArg some hx
theorem Slots.weak {φ:Pl} {H:View} {s1 s2:St} {a:Act} (h:Slots φ H s1.getB s1.getT a) (hw:Weak s1 s2):Slots φ H s2.getB s2.getT a:=by
 intro t
 rw [hw.2]
 rcases hw.1 t with k | k | ⟨ty,x,k1,k2⟩
 ·rw [k];exact h t
 ·rw [k];trivial
 ·rw [k1];exact qfY k2 (h t)
def Fr (D:List Nat) (s s':St):Prop:=(∀ t,t ∉ D→s'.getT t=s.getT t)∧∃ nw,s'.w=nw++s.w∧∀ id,id ∉ nw→s'.getB id=s.getB id
theorem Fr.refl (D:List Nat) (s:St):Fr D s s:=⟨fun _ _=>rfl,[],rfl,fun _ _=>rfl⟩
theorem Fr.trans {D D':List Nat} {s1 s2 s3:St} (h:Fr D s1 s2) (k:Fr D' s2 s3):Fr (D++D') s1 s3:=by
 obtain ⟨h1,nw,h2,h3⟩:=h
 obtain ⟨k1,nw',k2,k3⟩:=k
 refine ⟨fun t ht => ?_,nw'++nw,by rw [k2,h2,List.append_assoc],fun id hid => ?_⟩
 ·rw [List.mem_append,not_or] at ht;rw [k1 t ht.2,h1 t ht.1]
 ·rw [List.mem_append,not_or] at hid;rw [k3 id hid.1,h3 id hid.2]
theorem Fr.mono {D D':List Nat} {s s':St} (h:Fr D s s') (hd:∀ t,t∈D→t∈D'):Fr D' s s':=⟨fun t ht=>h.1 t fun hc=>ht (hd t hc),h.2⟩
theorem Fr.sub {D D' E:List Nat} {s1 s2 s3:St} (h:Fr D s1 s2) (k:Fr D' s2 s3) (hd:∀ t,t∈D→t∈E) (hd':∀ t,t∈D'→t∈E):Fr E s1 s3 :=
 (h.trans k).mono fun t ht=>(List.mem_append.1 ht).elim (hd t) (hd' t)
theorem Fr.setT {s:St} (i:Nat) (v:PV) {D:List Nat} (h:i∈D):Fr D s (s.setT i v) :=
 ⟨fun t ht=>s.qe0 v fun e=>ht (e ▸ h),[],rfl,fun _ _=>rfl⟩
theorem Fr.j8 {s:St} (l:List (Nat×Blk)) (D:List Nat):Fr D s (s.j8 l):=by
 refine ⟨fun t _=>by rw [St.v3],l.map (·.1),St.qA4 s l,fun id hid => ?_⟩
 rw [St.xK]
 unfold zL
 have:∀ (l:List (Nat×Blk)) (d:Blk),id ∉ l.map (·.1)→qgT l id d=d:=by
  intro l d h
  induction l with
  | nil=>rfl
  | cons p l ih =>
   simp only [List.map_cons,List.mem_cons,not_or] at h
   simp only [qgT]
   rw [qS (Ne.symm h.1)]
   exact ih h.2
 exact this l _ hid
theorem qpM:∀ (l:List Nat) (s:St),∃ s':St,s'.getB=s.getB∧s'.w=s.w∧(∀ t,t ∉ l→s'.getT t=s.getT t)∧(∀ t,t∈l→s'.getT t = .bad)∧(∀ (γ:Type 1) (k:St→γ),wipe s l k=k s')
 | [],s=>⟨s,rfl,rfl,fun _ _=>rfl,fun t h=>by simp at h,fun _ _=>rfl⟩
 | i :: l,s=>by
  obtain ⟨s',h1,h2,h3,h4,h5⟩:=qpM l (s.setT i .bad)
  refine ⟨s',h1,h2,fun t ht => ?_,fun t ht => ?_,fun γ k => ?_⟩
  ·simp only [List.mem_cons,not_or] at ht
   rw [h3 t ht.2,s.qe0 _ ht.1]
  ·by_cases hl:t∈l
   ·exact h4 t hl
   ·have:t=i:=by simpa [hl] using ht
    subst this
    rw [h3 t hl]
    rcases s.qg2 t .bad with h | h <;> exact h
  ·simp only [wipe,St.qkG];exact h5 γ k
theorem qn3 (l:List St):∀ (keep:List Nat),∃ ks:List (Nat×Ty),(∀ p∈ks,p.1∈keep)∧∀ (γ:Type 1) (k:List (Nat×Ty)→γ),qe7 l keep k=k ks
 | []=>⟨[],fun p h=>by simp at h,fun _ _=>rfl⟩
 | i :: keep=>by
  obtain ⟨ks,h1,h2⟩:=qn3 l keep
  have base:∃ ks:List (Nat×Ty),(∀ p∈ks,p.1∈i :: keep)∧∀ (γ:Type 1) (k:List (Nat×Ty)→γ),qe7 l keep k=k ks:=⟨ks,fun p hp=>List.mem_cons_of_mem _ (h1 p hp),h2⟩
  cases l with
  | nil=>exact ⟨[],fun p h=>by simp at h,fun _ _=>rfl⟩
  | cons s m =>
   cases ht:tyOf (s.getT i) with
   | none=>exact ⟨ks,fun p hp=>List.mem_cons_of_mem _ (h1 p hp),fun γ k=>by simp only [qe7,ht];exact h2 γ k⟩
   | some t =>
    cases hc:m.all (qIp i t) with
    | true =>
     refine ⟨(i,t) :: ks,fun p hp => ?_,fun γ k => ?_⟩
     ·rcases List.mem_cons.1 hp with rfl | hp
      ·exact List.mem_cons_self
      ·exact List.mem_cons_of_mem _ (h1 p hp)
     ·simp only [qe7,ht]
      rw [hc]
      simp only [cond]
      rw [h2]
      exact qH5 t _
    | false =>
     refine ⟨ks,fun p hp=>List.mem_cons_of_mem _ (h1 p hp),fun γ k => ?_⟩
     simp only [qe7,ht]
     rw [hc]
     exact h2 γ k
theorem qx9:∀ (ks:List (Nat×Ty)) (p:denK ks) (s:St),∃ s':St,s'.getB=s.getB∧s'.w=s.w∧(∀ t,t ∉ ks.map (·.1)→s'.getT t=s.getT t) ∧
  (∀ s1:St,getK s1 ks=some p→∀ t,t∈ks.map (·.1)→s'.getT t = .bad∨∃ ty x,s'.getT t = .sc ty x∧toD ty (s1.getT t)=some x)∧(∀ (γ:Type 1) (k:St→γ),setK s k ks p=k s')
 | [],p,s=>⟨s,rfl,rfl,fun _ _=>rfl,fun _ _ t h=>by simp at h,fun _ _=>rfl⟩
 | (i,ty) :: ks,p,s=>by
  obtain ⟨s',h1,h2,h3,h4,h5⟩:=qx9 ks p.2 (s.setT i (.sc ty p.1))
  refine ⟨s',h1,h2,fun t ht => ?_,fun s1 hs t ht => ?_,fun γ k => ?_⟩
  ·simp only [List.map_cons,List.mem_cons,not_or] at ht
   rw [h3 t ht.2,s.qe0 _ ht.1]
  ·have hg:toD ty (s1.getT i)=some p.1∧getK s1 ks=some p.2:=by
    simp only [getK] at hs
    cases ha:toD ty (s1.getT i) with
    | none=>rw [ha] at hs;cases hs
    | some x =>
     cases hb:getK s1 ks with
     | none=>rw [ha,hb] at hs;cases hs
     | some y=>rw [ha,hb] at hs;cases hs;exact ⟨rfl,rfl⟩
   by_cases hl:t∈ks.map (·.1)
   ·exact h4 s1 hg.2 t hl
   ·have:t=i:=by simpa [hl] using ht
    subst this
    rw [h3 t hl]
    rcases s.qg2 t (.sc ty p.1) with h | h
    ·exact .inr ⟨ty,p.1,h,hg.1⟩
    ·exact .inl h
  ·simp only [setK,St.qkG];exact h5 γ k
def Fw (D:List Nat) (s s1:St):Prop :=
 (∀ t,t ∉ D→s.getT t=s1.getT t∨∃ ty x,s.getT t = .sc ty x∧toD ty (s1.getT t)=some x)∧∃ nw,s1.w=nw++s.w∧∀ id,id ∉ nw→s1.getB id=s.getB id
theorem Fr.fw {D:List Nat} {s s1:St} (h:Fr D s s1):Fw D s s1:=⟨fun t ht => .inl (h.1 t ht).symm,h.2⟩
theorem qvU {ρ:Type} {s:St} {all keep:List Nat} (hk:∀ t,t∈keep→t∈all) {t:R St} {k:St→R ρ} {r:ρ} (h:((qGa s all keep t).bind k).ev=some r) :
  (t.bind k).ev=some r ∨
  ∃ (ks:List (Nat×Ty)) (p:denK ks),(t.bind fun s1=>R.ofO (bif Nat.beq s1.w.length s.w.length then getK s1 ks else none)).ev=some p ∧
   ∀ s1,Fw all s s1→s1.w.length=s.w.length→getK s1 ks=some p→∃ s2,Weak s1 s2∧Fr all s s2∧(k s2).ev=some r:=by
 unfold qGa at h
 rw [R.quA] at h
 cases hc:t.leaves.all (fun s'=>Nat.beq s'.w.length s.w.length) with
 | false=>rw [hc] at h;exact .inl h
 | true =>
  rw [hc,cond_true] at h
  obtain ⟨ks,hks,hco⟩:=qn3 t.leaves keep
  rw [hco] at h
  cases hz:Nat.beq ks.length 0 with
  | true=>rw [hz,cond_true] at h;exact .inl h
  | false =>
   rw [hz,cond_false] at h
   simp only [R.bind] at h
   obtain ⟨p,hp,h⟩:=R.qLM h
   rw [R.qeR] at hp
   refine .inr ⟨ks,p,hp,fun s1 hf hw hg => ?_⟩
   obtain ⟨s',w1,w2,w3,w4,w5⟩:=qpM all s
   obtain ⟨s2,k1,k2,k3,k4,k5⟩:=qx9 ks p s'
   rw [w5,k5] at h
   have hB:s1.getB=s.getB:=by
    obtain ⟨_,nw,h1,h2⟩:=hf
    have:nw=[]:=by
     have:=congrArg List.length h1
     rw [List.length_append] at this
     exact List.length_eq_zero_iff.1 (by omega)
    subst this
    funext id;exact h2 id (by simp)
   have hkall:∀ t,t∈ks.map (·.1)→t∈all:=fun t ht=>by
    obtain ⟨q,hq,rfl⟩:=List.mem_map.1 ht
    exact hk _ (hks q hq)
   refine ⟨s2,⟨fun t => ?_,by rw [k1,w1,hB]⟩,⟨fun t hta => ?_,[],by rw [k2,w2];rfl,fun id _=>by rw [k1,w1]⟩,h⟩
   ·by_cases hka:t∈ks.map (·.1)
    ·rcases k4 s1 hg t hka with h | h
     ·exact .inr (.inl h)
     ·exact .inr (.inr h)
    ·rw [k3 t hka]
     by_cases hta:t∈all
     ·exact .inr (.inl (w4 t hta))
     ·rw [w3 t hta]
      rcases hf.1 t hta with h | h
      ·exact .inl h
      ·exact .inr (.inr h)
   ·rw [k3 t fun hc=>hta (hkall t hc),w3 t hta]
structure Ev where
 i:Nat
 o:Oper
 v:PV
 al:Bool
 rb:List Nat
 wr:List (Nat×Blk)
def putT (g:Nat→PV) (dst:Option Nat) (v:PV):Nat→PV:=match dst with | some d=>updT g d v | none=>g
def putS (s:St) (dst:Option Nat) (v:PV):St:=match dst with | some d=>s.setT d v | none=>s
def stT:List Ev→(Nat→Bool)→(Nat→PV)→Nat→PV
 | [],_,g=>g
 | e :: tr,L,g=>stT tr L (bif L e.i then putT g e.o.dst e.v else g)
def stB:List Ev→(Nat→Bool)→(Nat→Blk)→Nat→Blk
 | [],_,B=>B
 | e :: tr,L,B=>stB tr L (bif L e.i then zL B e.wr else B)
def Wants (ops:List Oper) (o:Oper) (g:Nat→PV):Prop:=o.guard=none∨∃ j want d,o.guard=some (j,want)∧(ops[j]?).bind (·.dst)=some d∧g d = .kb want
def Skips (ops:List Oper) (o:Oper) (g:Nat→PV):Prop:=∃ j want d,o.guard=some (j,want)∧(ops[j]?).bind (·.dst)=some d∧(g d = .kb (!want)∨g d = .undef)
def Same (v0 v:PV):Prop:=v=v0∨∃ c,v0 = .sc .bool c∧v = .kb c
def funV (g:Nat→PV):Operand→PV
 | .tmp t=>g t
 | .func f => .clo f 0 []
 | _ => .bad
def qAP (E:Env) (ops:List Oper) (o:Oper) (g:Nat→PV) (B:Nat→Blk) (v0:PV) (rb:List Nat) (wr:List (Nat×Blk)):Prop :=
 ∃ (F nf:Nat) (env:List CV) (gI:Inl) (ps:List PV) (s s2:St) (f:Operand) (args:Array Operand) (ats:Array TypeId) (bs:Nat),o.op = .call ⟨.value f,args,ats⟩∧E.I F=some gI∧qBg ops o f=true∧funV g f = .clo F nf env ∧
  (∀ g2 B2,(∀ t,Nat.testBit (jH ops o) t=true→g2 t=g t)→(mapP opd args.toList).go g2 B2=some (ps,B2))∧(∀ id,id∈qbQ s++wr.map (·.1)→s.getB id=B id)∧qrL s (qe8 nf env ps)=true∧(gI bs (qe8 nf env ps) s).ev=some (v0,s2)∧wr=wrOf s s2∧rb=qbQ s
def EvOK (E:Env) (ops:List Oper) (nt:Nat) (draw:Bool) (g:Nat→PV) (B:Nat→Blk) (e:Ev):Prop :=
  (∀ d,e.o.dst=some d→d < nt) ∧
  ((Wants ops e.o g∧∃ v0,Same v0 e.v∧(opP E e.o).go g B=some (v0,zL B e.wr) ∧
      (draw=true→∀ g2 B2,(∀ t,Nat.testBit (jH ops e.o) t=true→g2 t=g t)→(∀ id,id∈e.rb→B2 id=B id)→(opP E e.o).go g2 B2=some (v0,zL B2 e.wr))) ∨
   (Skips ops e.o g∧e.v = .undef∧e.wr=[]∧e.rb=[]) ∨
   (draw=true∧Wants ops e.o g∧∃ v0,Same v0 e.v∧qAP E ops e.o g B v0 e.rb e.wr))
def Valid (E:Env) (ops:List Oper) (nt:Nat) (draw:Bool):List Ev→(Nat→PV)→(Nat→Blk)→Prop
 | [],_,_=>True
 | e :: tr,g,B=>EvOK E ops nt draw g B e∧Valid E ops nt draw tr (putT g e.o.dst e.v) (zL B e.wr)
def feet:List Ev→List Foot
 | []=>[]
 | e :: tr=>(match e.al,e.rb,e.wr with | false,[],[]=>feet tr | _,_,_=>⟨e.i,e.al,e.rb,e.wr.map (·.1)⟩ :: feet tr)
theorem PM.qE2 {α β:Type} (s:St) (m:PM α):∀ (qt:Nat) (qb:List Nat) (wr:List (Nat×Blk)) (k:α×Eff→R β) (r:β),((m.run s qt qb wr).bind k).ev=some r →
  ∃ a e,(k (a,e)).ev=some r∧m.go s.getT (zL s.getB wr)=some (a,zL s.getB e.wr) ∧
   (∀ g2 B2,(∀ t,Nat.testBit e.rt t=true→g2 t=s.getT t)→(∀ id,id∈e.rb→B2 id=s.getB id)→m.go g2 (zL B2 wr)=some (a,zL B2 e.wr)) ∧
   (∀ t,Nat.testBit qt t=true→Nat.testBit e.rt t=true)∧(∀ id,id∈qb→id∈e.rb):=by
 induction m with
 | fail=>intro qt qb wr k r h;cases h
 | ret a=>intro qt qb wr k r h;exact ⟨a,_,h,rfl,fun _ _ _ _=>rfl,fun _ h=>h,fun _ h=>h⟩
 | chk c m ih =>
  intro qt qb wr k r h
  simp only [PM.run,R.bind,R.ev,ck,PM.go] at h ⊢
  cases c with
  | true=>simpa using ih qt qb wr k r h
  | false=>cases h
 | br c x y hx hy =>
  intro qt qb wr k r h
  simp only [PM.run,R.bind,R.ev,sel,PM.go] at h ⊢
  cases c with
  | true=>simpa using hx qt qb wr k r h
  | false=>simpa using hy qt qb wr k r h
 | bo d o m ih =>
  intro qt qb wr k r h
  cases o with
  | some a=>exact ih a qt qb wr k r h
  | none=>cases h
 | rt i m ih =>
  intro qt qb wr k r h
  obtain ⟨a,e,h1,h2,h3,h4,h5⟩:=ih (s.getT i) (qt ||| 2 ^ i) qb wr k r h
  have hi:Nat.testBit e.rt i=true:=h4 i (by simp [Nat.testBit_or])
  refine ⟨a,e,h1,h2,fun g2 B2 hg hb => ?_,fun t ht=>h4 t (by simp [Nat.testBit_or,ht]),h5⟩
  simp only [PM.go]
  rw [hg i hi]
  exact h3 g2 B2 hg hb
 | rb i m ih =>
  intro qt qb wr k r h
  obtain ⟨a,e,h1,h2,h3,h4,h5⟩:=ih (qgT wr i (s.getB i)) qt (i :: qb) wr k r h
  have hi:i∈e.rb:=h5 i (by simp)
  refine ⟨a,e,h1,h2,fun g2 B2 hg hb => ?_,h4,fun id hid=>h5 id (by simp [hid])⟩
  simp only [PM.go]
  have:zL B2 wr i=qgT wr i (s.getB i):=by unfold zL;rw [hb i hi]
  rw [this]
  exact h3 g2 B2 hg hb
 | wb i b m ih =>
  intro qt qb wr k r h
  obtain ⟨a,e,h1,h2,h3,h4,h5⟩:=ih qt qb ((i,b) :: wr) k r h
  refine ⟨a,e,h1, ?_,fun g2 B2 hg hb => ?_,h4,h5⟩
  ·simp only [PM.go];rw [← kC];exact h2
  ·simp only [PM.go];rw [← kC];exact h3 g2 B2 hg hb
theorem qmO {α β:Type} {nt:Nat} {dst:Option Nat} {s:St} {v:PV} {k0:St→R α} {k:α→R β} {r:β} (h:((setD nt dst s v k0).bind k).ev=some r) :
  (∀ d,dst=some d→d < nt)∧((k0 (putS s dst v)).bind k).ev=some r:=by
 cases dst with
 | none=>exact ⟨fun d h=>by (cases h),h⟩
 | some d =>
  simp only [setD] at h
  cases hd:Nat.blt d nt with
  | false=>rw [hd] at h;cases h
  | true =>
   rw [hd,cond_true,St.qkG] at h
   exact ⟨fun d' h'=>by cases h';simpa using hd,h⟩
theorem qnO {s:St} {dst:Option Nat} {v:PV} {nt:Nat} (hnt:nt≤1000000) (hd:∀ d,dst=some d→d < nt):(putS s dst v).getT=putT s.getT dst v:=by
 cases dst with
 | none=>rfl
 | some d=>exact s.qHX v (Nat.lt_of_lt_of_le (hd d rfl) hnt)
theorem qi2 {s:St} {dst:Option Nat} {v:PV}:(putS s dst v).getB=s.getB:=by cases dst <;> rfl
theorem qCP {s:St} {dst:Option Nat} {v:PV}:(putS s dst v).w=s.w:=by cases dst <;> rfl
theorem qjS {s:St} {dst:Option Nat} {v:PV} {D:List Nat} (h:∀ d,dst=some d→d∈D):Fr D s (putS s dst v):=by
 cases dst with
 | none=>exact Fr.refl D s
 | some d=>exact Fr.setT d v (h d rfl)
theorem qDf {ρ:Type} {ops:List Oper} {o:Oper} {s:St} {exec skip:R St} {k:St→R ρ} {r:ρ} (h:((qDg ops o s exec skip).bind k).ev=some r) :
  (Wants ops o s.getT∧(exec.bind k).ev=some r)∨(Skips ops o s.getT∧(skip.bind k).ev=some r):=by
 unfold qDg at h
 cases hg:o.guard with
 | none=>rw [hg] at h;exact .inl ⟨.inl hg,h⟩
 | some jw =>
  obtain ⟨j,want⟩:=jw
  rw [hg] at h
  simp only at h
  cases hd:(ops[j]?).bind (·.dst) with
  | none=>rw [hd] at h;cases h
  | some g =>
   rw [hd] at h
   simp only at h
   cases hv:s.getT g <;> rw [hv] at h <;> try (cases h;done)
   ·exact .inr ⟨⟨j,want,g,hg,hd, .inr hv⟩,h⟩
   ·rename_i b
    cases b <;> cases want
    ·exact .inl ⟨.inr ⟨j,_,g,hg,hd,hv⟩,h⟩
    ·exact .inr ⟨⟨j,_,g,hg,hd, .inl hv⟩,h⟩
    ·exact .inr ⟨⟨j,_,g,hg,hd, .inl hv⟩,h⟩
    ·exact .inl ⟨.inr ⟨j,_,g,hg,hd,hv⟩,h⟩
theorem qdV (o:Oper) (rest:List Oper):(∀ d,o.dst=some d→d∈dsts (o :: rest))∧∀ t,t∈dsts rest→t∈dsts (o :: rest):=by
 cases hd:o.dst with
 | none =>
  have e:dsts (o :: rest)=dsts rest:=by simp only [dsts,hd]
  exact ⟨fun d h=>by (cases h),fun t h=>by rw [e];exact h⟩
 | some d =>
  have e:dsts (o :: rest)=d :: dsts rest:=by simp only [dsts,hd]
  exact ⟨fun d' h=>by cases h;rw [e];exact List.mem_cons_self,fun t h=>by rw [e];exact List.mem_cons_of_mem _ h⟩
theorem qAI {v:PV} {c:Bool} (h:bval v=some c):v = .sc .bool c:=by
 unfold bval at h
 split at h
 ·cases h;rfl
 ·cases h
def qAO (E:Env) (ops:List Oper) (nt:Nat) (draw:Bool) (i:Nat) (l:List Oper) (s:St) (fp:List Foot) (s2:St):Prop :=
 ∃ (tr:List Ev) (s1:St),tr.map (·.i)=List.range' i l.length∧tr.map (·.o)=l∧Valid E ops nt draw tr s.getT s.getB∧s1.getT=stT tr (fun _=>true) s.getT∧s1.getB=stB tr (fun _=>true) s.getB ∧
  Weak s1 s2∧Fr (dsts l) s s2∧(draw=true→qHk ops=true∧qmV (xV ops []) (fp.reverse++feet tr)=true)
theorem qq9 {e:Ev} {tr:List Ev} {fp:List Foot} {b:List Nat} (ha:e.al=false) (h:qmV b ((qfQ true e.i e.rb e.wr fp).reverse++feet tr)=true):qmV b (fp.reverse++feet (e :: tr))=true:=by
 cases hr:e.rb <;> cases hw:e.wr <;> simp only [qfQ,ha,hr,hw,cond,feet,List.reverse_cons,List.append_assoc,List.singleton_append] at h ⊢ <;> exact h
theorem qjO {E:Env} {ops:List Oper} {nt:Nat} {draw:Bool} {i:Nat} {o:Oper} {rest:List Oper} {s sx:St} {fp fp':List Foot} {s2:St} {e:Ev} (hnt:nt≤1000000) (hi:e.i=i) (ho:e.o=o) (hev:EvOK E ops nt draw s.getT s.getB e)
  (hT:sx.getT=putT s.getT o.dst e.v) (hB:sx.getB=zL s.getB e.wr) (hF:Fr (dsts (o :: rest)) s sx)
  (hfp:draw=true→∀ (b:List Nat) (tr:List Ev),qmV b (fp'.reverse++feet tr)=true→qmV b (fp.reverse++feet (e :: tr))=true) (h:qAO E ops nt draw (i+1) rest sx fp' s2):qAO E ops nt draw i (o :: rest) s fp s2:=by
 obtain ⟨tr,s1,h1,h2,h3,h4,h5,h6,h7,h8⟩:=h
 have hd:=qdV o rest
 refine ⟨e :: tr,s1, ?_, ?_,⟨hev, ?_⟩, ?_, ?_,h6,hF.sub h7 (fun t h=>h) hd.2,fun hdr=>⟨(h8 hdr).1,hfp hdr _ tr (h8 hdr).2⟩⟩
 ·simp only [List.map_cons,hi,h1,List.length_cons,List.range'_succ]
 ·simp only [List.map_cons,ho,h2]
 ·rw [ho,← hT,← hB];exact h3
 ·simp only [stT,cond,ho,← hT];exact h4
 ·simp only [stB,cond,← hB];exact h5
theorem R.qbV {α β:Type} {k:α→R β} {r:β}:∀ (t:R α),(t.bind k).ev=some r→∃ a,t.ev=some a∧(k a).ev=some r
 | .fail,h=>by cases h
 | .leaf a,h=>⟨a,rfl,h⟩
 | .br c x y,h=>by
  cases c with
  | true=>exact R.qbV x h
  | false=>exact R.qbV y h
 | .chk c x,h=>by
  cases c with
  | true=>exact R.qbV x h
  | false=>cases h
 | .bo d o f,h=>by
  cases o with
  | none=>cases h
  | some a=>exact R.qbV (f a) h
 | .cs d e o kn ke kr,h=>by
  cases o with
  | none=>cases h
  | some l =>
   cases l with
   | nx a=>exact R.qbV (kn a) h
   | ex i a=>exact R.qbV (ke i a) h
   | rt a=>exact R.qbV (kr a) h
theorem qLd (s:St) (f:Operand):funP s f=funV s.getT f:=by cases f <;> rfl
theorem qJM {E:Env} {ops:List Oper} {o:Oper} {s:St} {t:R (PV×St)} {p:PV×St} (h:inlD E ops o s=some t) (hp:t.ev=some p):qAP E ops o s.getT s.getB p.1 (qbQ s) (wrOf s p.2):=by
 unfold inlD at h
 split at h
 ·rename_i f args ats hop
  split at h
  ·rename_i F nf env hf
   split at h
   ·rename_i gI hI
    cases h
    rw [← jG (R.bind _ _),R.qN] at hp
    obtain ⟨ps,ef,h1,h2,h3,_,_⟩:=PM.qE2 s (mapP opd args.toList) 0 [] [] _ p hp
    rw [jG] at h1
    simp only at h1
    cases hc:(Nat.beq (ef.rt ||| jH ops o) (jH ops o) && (noWr ef.wr && (noRd ef.rb && (qBg ops o f && qrL s (qe8 nf env ps))))) with
    | false=>rw [hc] at h1;cases h1
    | true =>
     rw [hc,cond_true] at h1
     simp only [Bool.and_eq_true] at hc
     obtain ⟨c1,c2,c4,c3,c5⟩:=hc
     have hrb:ef.rb=[]:=by
      cases hw:ef.rb with
      | nil=>rfl
      | cons x y=>rw [hw] at c4;cases c4
     have hwr:ef.wr=[]:=by
      cases hw:ef.wr with
      | nil=>rfl
      | cons x y=>rw [hw] at c2;cases c2
     refine ⟨F,nf,env,gI,ps,s,p.2,f,args,ats,_,hop,hI,c3,by rw [← qLd];exact hf,fun g2 B2 hg => ?_,fun _ _=>rfl,c5,h1,rfl,rfl⟩
     have hsub:∀ t,Nat.testBit ef.rt t=true→Nat.testBit (jH ops o) t=true:=fun t ht=>by
      have:=Nat.eq_of_beq_eq_true c1
      rw [← this];simp [Nat.testBit_or,ht]
     have:=h3 g2 B2 (fun t ht=>hg t (hsub t ht)) (fun id hid=>by rw [hrb] at hid;cases hid)
     rw [hwr] at this
     exact this
   ·cases h
  ·cases h
 ·cases h
theorem qE4 {E:Env} {ops:List Oper} {nv nt:Nat} {draw:Bool} (hnt:nt≤1000000):∀ (l:List Oper) (top:Bool) (i:Nat) (s:St) (fp:List Foot) {ρ:Type} (k:St→R ρ) (r:ρ),
  ((qaR E ops nv nt draw top i l s fp).bind k).ev=some r→∃ s2,qAO E ops nt draw i l s fp s2∧(k s2).ev=some r:=by
 intro l
 induction l with
 | nil =>
  intro top i s fp ρ k r h
  simp only [qaR] at h
  cases hc:(!draw || (qHk ops && qmV (xV ops []) fp.reverse)) with
  | false=>rw [hc] at h;cases h
  | true =>
   rw [hc] at h
   refine ⟨s,⟨[],s,rfl,rfl,trivial,rfl,rfl,Weak.refl s,Fr.refl _ s,fun hd => ?_⟩,h⟩
   subst hd
   simp only [Bool.not_true,Bool.false_or,Bool.and_eq_true] at hc
   exact ⟨hc.1,by simpa [feet] using hc.2⟩
 | cons o rest ih =>
  intro top i s fp ρ k r h
  have hd:=qdV o rest
  simp only [qaR] at h
  rcases qDf h with ⟨hw,h⟩ | ⟨hw,h⟩
  ·cases hin:(bif draw then inlD E ops o s else none) with
   | some t =>
    rw [hin] at h
    simp only at h
    rw [R.qN] at h
    obtain ⟨p,hp,h⟩:=R.qbV _ h
    cases hdr:draw with
    | false=>rw [hdr] at hin;cases hin
    | true =>
    rw [hdr,cond_true] at hin
    have hev:=qJM hin hp
    cases hgm:Nat.testBit (gmask ops) i with
    | true=>rw [hgm] at h;cases h
    | false =>
    rw [hgm,cond_false] at h
    simp only [St.qf1,qzW] at h
    obtain ⟨hdn,h⟩:=qmO h
    obtain ⟨s2,hr,hk⟩:=ih top (i+1) _ _ k r h
    subst hdr
    refine ⟨s2,qjO (e:=⟨i,o,p.1,false,qbQ s,wrOf s p.2⟩) hnt rfl rfl ⟨hdn, .inr (.inr ⟨rfl,hw,p.1, .inl rfl,hev⟩)⟩ ?_ ?_ ?_ ?_ hr,hk⟩
    ·rw [qnO hnt hdn,St.v3]
    ·rw [qi2,St.xK]
    ·exact (Fr.j8 _ _).sub (qjS hd.1) (fun t h=>h) (fun t h=>h)
    ·intro _ b tr h
     exact qq9 (e:=⟨i,o,p.1,false,qbQ s,wrOf s p.2⟩) rfl h
   | none =>
   rw [hin] at h
   simp only at h
   rw [R.qN] at h
   obtain ⟨v,ef,h,hgo,hloc,_,_⟩:=PM.qE2 s (opP E o) 0 [] [] _ r h
   simp only [St.qf1,qzW] at h
   have hgo:(opP E o).go s.getT s.getB=some (v,zL s.getB ef.wr):=hgo
   cases hrd:(draw && !(Nat.beq (ef.rt ||| jH ops o) (jH ops o))) with
   | true=>rw [hrd] at h;cases h
   | false =>
    rw [hrd,cond_false] at h
    have hsub:draw=true→∀ t,Nat.testBit ef.rt t=true→Nat.testBit (jH ops o) t=true:=by
     intro hdr t ht
     subst hdr
     simp only [Bool.true_and,Bool.not_eq_false'] at hrd
     have:=Nat.eq_of_beq_eq_true hrd
     rw [← this];simp [Nat.testBit_or,ht]
    have hloc':draw=true→∀ g2 B2,(∀ t,Nat.testBit (jH ops o) t=true→g2 t=s.getT t)→(∀ id,id∈ef.rb→B2 id=s.getB id)→(opP E o).go g2 B2=some (v,zL B2 ef.wr) :=
     fun hdr g2 B2 hg hb=>hloc g2 B2 (fun t ht=>hg t (hsub hdr t ht)) hb
    have evok:∀ v',Same v v'→(∀ d,o.dst=some d→d < nt)→EvOK E ops nt draw s.getT s.getB ⟨i,o,v',false,ef.rb,ef.wr⟩:=fun v' hs hdn=>⟨hdn, .inl ⟨hw,v,hs,hgo,hloc'⟩⟩
    have hsT:(s.j8 ef.wr).getT=s.getT:=St.v3 s _
    have hsB:(s.j8 ef.wr).getB=zL s.getB ef.wr:=St.xK s _
    have foot:∀ v',draw=true→∀ (b:List Nat) (tr:List Ev),qmV b ((qfQ draw i ef.rb ef.wr fp).reverse++feet tr)=true→qmV b (fp.reverse++feet (⟨i,o,v',false,ef.rb,ef.wr⟩ :: tr))=true:=by
     intro v' hdr b tr h
     subst hdr
     exact qq9 (e:=⟨i,o,v',false,ef.rb,ef.wr⟩) rfl h
    -- one way on
    have way:∀ (v':PV) (top':Bool) {ρ:Type} (k:St→R ρ) (r:ρ),Same v v'→((setD nt o.dst (s.j8 ef.wr) v' fun s=>qaR E ops nv nt draw top' (i+1) rest s (qfQ draw i ef.rb ef.wr fp)).bind k).ev=some r →
      ∃ s2,qAO E ops nt draw i (o :: rest) s fp s2∧(k s2).ev=some r∧Fr (dsts rest) (putS (s.j8 ef.wr) o.dst v') s2∧(∀ d,o.dst=some d→d < nt):=by
     intro v' top' ρ k r hs h
     obtain ⟨hdn,h⟩:=qmO h
     obtain ⟨s2,hr,hk⟩:=ih top' (i+1) _ _ k r h
     refine ⟨s2,qjO hnt rfl rfl (evok v' hs hdn) ?_ ?_ ?_ (foot v') hr,hk, ?_,hdn⟩
     ·rw [qnO hnt hdn,hsT]
     ·rw [qi2,hsB]
     ·exact (Fr.j8 ef.wr _).sub (qjS hd.1) (fun t h=>h) (fun t h=>h)
     ·obtain ⟨tr,s1,_,_,_,_,_,_,h7,_⟩:=hr;exact h7
    cases hg:(Nat.testBit (gmask ops) i && (bval v).isSome) with
    | false =>
     rw [hg,cond_false] at h
     obtain ⟨s2,h1,h2,_⟩:=way v top k r (.inl rfl) h
     exact ⟨s2,h1,h2⟩
    | true =>
     rw [hg,cond_true] at h
     cases hb:bval v with
     | none=>rw [hb] at h;cases h
     | some c =>
      rw [hb] at h
      simp only at h
      have hv:=qAI hb
      -- the two ways
      have two:∀ {ρ:Type} (k:St→R ρ) (r:ρ),((R.br c (setD nt o.dst (s.j8 ef.wr) (.kb true) fun s=>qaR E ops nv nt draw false (i+1) rest s (qfQ draw i ef.rb ef.wr fp)) (setD nt o.dst (s.j8 ef.wr) (.kb false) fun s=>qaR E ops nv nt draw false (i+1) rest s (qfQ draw i ef.rb ef.wr fp))).bind k).ev=some r →
        ∃ s2,qAO E ops nt draw i (o :: rest) s fp s2∧(k s2).ev=some r∧Fr (dsts rest) (putS (s.j8 ef.wr) o.dst (.kb c)) s2∧(∀ d,o.dst=some d→d < nt):=by
       intro ρ k r h
       simp only [R.bind,R.ev,sel] at h
       cases c with
       | true=>exact way (.kb true) false k r (.inr ⟨true,hv,rfl⟩) h
       | false=>exact way (.kb false) false k r (.inr ⟨false,hv,rfl⟩) h
      cases top with
      | false =>
       obtain ⟨s2,h1,h2,_⟩:=two k r h
       exact ⟨s2,h1,h2⟩
      | true =>
       rw [cond_true] at h
       obtain ⟨hdn,h⟩:=qmO h
       rcases qvU (fun t ht=>(List.mem_filter.1 ht).1) h with h | ⟨ks,p,hp,hrest⟩
       ·obtain ⟨s2,h1,h2,_⟩:=two k r h
        exact ⟨s2,h1,h2⟩
       ·obtain ⟨s2,⟨tr,s1,q1,q2,q3,q4,q5,q6,q7,q8⟩,h2,h3,_⟩:=two _ p hp
        obtain ⟨p',hpe,hpl⟩:∃ p',(bif Nat.beq s2.w.length (putS (s.j8 ef.wr) o.dst (.sc .bool c)).w.length then getK s2 ks else none)=some p'∧(R.leaf p').ev=some p:=by
         have h2':((R.ofO (bif Nat.beq s2.w.length (putS (s.j8 ef.wr) o.dst (.sc .bool c)).w.length then getK s2 ks else none)).bind R.leaf).ev=some p:=by rw [jG];exact h2
         exact R.qFN h2'
        cases hpl
        cases hlen:Nat.beq s2.w.length (putS (s.j8 ef.wr) o.dst (.sc .bool c)).w.length with
        | false=>rw [hlen] at hpe;cases hpe
        | true =>
         rw [hlen,cond_true] at hpe
         have hfw:Fw (dsts rest) (putS (s.j8 ef.wr) o.dst (.sc .bool c)) s2:=by
          obtain ⟨f1,nw,f2,f3⟩:=h3
          refine ⟨fun t ht => ?_,nw,by rw [f2,qCP,qCP],fun id hid=>by rw [f3 id hid,qi2,qi2]⟩
          rw [f1 t ht,qnO hnt hdn,qnO hnt hdn]
          cases hdst:o.dst with
          | none=>exact .inl rfl
          | some d =>
           by_cases htd:t=d
           ·right
            refine ⟨.bool,c,by simp [putT,updT,htd], ?_⟩
            simp only [putT,updT,htd,if_true];rfl
           ·left;simp [putT,updT,htd]
         obtain ⟨s3,w1,w2,w3⟩:=hrest s2 hfw (Nat.eq_of_beq_eq_true hlen) hpe
         refine ⟨s3,⟨tr,s1,q1,q2,q3,q4,q5,q6.trans w1, ?_,q8⟩,w3⟩
         exact ((Fr.j8 ef.wr _).sub (qjS hd.1) (fun t h=>h) (fun t h=>h)).sub w2 (fun t h=>h) hd.2
  ·obtain ⟨hdn,h⟩:=qmO h
   obtain ⟨s2,hr,hk⟩:=ih top (i+1) _ fp k r h
   refine ⟨s2,qjO (e:=⟨i,o, .undef,false,[],[]⟩) hnt rfl rfl ⟨hdn, .inr (.inl ⟨hw,rfl,rfl,rfl⟩)⟩ ?_ ?_ (qjS hd.1) (fun _ b tr h=>h) hr,hk⟩
   ·rw [qnO hnt hdn]
   ·rw [qi2];rfl
end Yp
namespace Yp
open Go
section
variable {φ φ' : Pl} {H H' : View} {B B' : Nat → Blk}
theorem xY.loc:∀ {l:List CV} {vs:List Value},(∀ id,id∈qoM l→(B id).live=true→φ' id=φ id)→H.Le H'→(∀ id,id∈qoM l→(B id).Le (B' id))→xY φ H B l vs→xY φ' H' B' l vs
  | [],_,_,_,_,h=>h
  | .dat t x :: l,vs,hφ,hH,hB,⟨v,vs',h,⟨cs,h1,h2⟩,h3⟩=>⟨v,vs',h,⟨cs,h1.mono hH,h2⟩,xY.loc (l:=l) hφ hH hB h3⟩
  | .ptr id p :: l,vs,hφ,hH,hB,⟨v,vs',h,h1,h3⟩=>by
    refine ⟨v,vs',h, ?_,xY.loc (l:=l) (fun j hj=>hφ j (by simp [qoM,hj])) hH (fun j hj=>hB j (by simp [qoM,hj])) h3⟩
    have hb:=hB id (by simp [qoM]);have hf:=hφ id (by simp [qoM])
    simp only [qxL] at h1 ⊢
    cases hb0:B id <;> cases hb1:B' id <;> simp only [hb0,hb1,Blk.Le,Blk.live] at hb hf h1 ⊢ <;> try (first | exact h1.elim | exact hb.elim | trivial)
    all_goals first
      | (subst hb;rw [hf trivial];exact h1)
      | (obtain ⟨b,o,n,g1,g2⟩:=h1;exact ⟨b,o,n,(hf trivial).trans g1,g2⟩)
      | (obtain ⟨b,o,n,off,t',g1,g2,g3⟩:=h1
         exact ⟨b,o,n,(hf trivial).trans g1,fun hp=>by subst hp;simp only [Ty.z3,Option.some.injEq,Prod.mk.injEq] at g2;rw [g3,← g2.1];rfl⟩)
theorem xY.old:∀ {l:List CV} {vs:List Value},xY φ H B l vs→∀ id,id∈qoM l→B id ≠ .new
 | [],_,_,id,hi=>by simp [qoM] at hi
 | .dat t x :: l,vs,⟨v,vs',h,_,h3⟩,id,hi=>xY.old (l:=l) h3 id hi
 | .ptr j p :: l,vs,⟨v,vs',h,h1,h3⟩,id,hi=>by
  simp only [qoM,List.mem_cons] at hi
  rcases hi with rfl | hi
  ·intro hn;simp only [qxL,hn] at h1
  ·exact xY.old (l:=l) h3 id hi
theorem RepS.loc {pv:PV} (hφ:∀ id,id∈zS pv→(B id).live=true→φ' id=φ id) (hH:H.Le H') (hB:∀ id,id∈zS pv→(B id).Le (B' id)) {v:Value} (h:RepS φ H B pv v):RepS φ' H' B' pv v:=by
 have key:∀ id0:Nat,(∀ id,id∈zS pv→id=id0)→id0∈zS pv→RepS φ' H' B' pv v:=fun id0 h1 h2=>by
  have hφ2:∀ id,(B id).live=true→(fun j=>if j=id0 then φ' j else φ j) id=φ id:=fun id hl=>by
   by_cases hi:id=id0
   ·subst hi;simp [hφ id h2 hl]
   ·simp [hi]
  have hB2:∀ id,(B id).Le ((fun j=>if j=id0 then B' j else B j) id):=fun id=>by
   by_cases hi:id=id0
   ·subst hi;simp [hB id h2]
   ·simp [hi,Blk.Le.refl]
  have:=RepS.mono (φ':=fun j=>if j=id0 then φ' j else φ j) (H':=H') (B':=fun j=>if j=id0 then B' j else B j) hφ2 hH hB2 h
  cases pv <;> simp only [zS,List.mem_singleton,forall_eq,List.not_mem_nil] at h1 h2 <;> (try exact h2.elim)
  all_goals (first | (subst h2;simpa [RepS,xX] using this) | exact this.elim | (obtain ⟨vs,g1,g2⟩:=h;exact ⟨vs,g1.loc hφ hH hB,g2⟩))
 cases pv with
 | own id ne=>exact key id (fun _ h=>by simpa [zS] using h) (by simp [zS])
 | osl id o n=>exact key id (fun _ h=>by simpa [zS] using h) (by simp [zS])
 | ptr id p=>exact key id (fun _ h=>by simpa [zS] using h) (by simp [zS])
 | opt id i p=>exact key id (fun _ h=>by simpa [zS] using h) (by simp [zS])
 | itp id=>exact key id (fun _ h=>by simpa [zS] using h) (by simp [zS])
 | mpp id=>exact key id (fun _ h=>by simpa [zS] using h) (by simp [zS])
 | clo f nf env=>obtain ⟨vs,g1,g2⟩:=h;exact ⟨vs,g1.loc hφ hH hB,g2⟩
 | ifc i t x=>obtain ⟨cs,h1,h2⟩:=h;exact ⟨cs,h1.mono hH,h2⟩
 | csl e l=>obtain ⟨a,h1,h2⟩:=h;exact ⟨a,h1,h2.mono hH⟩
 | ipt e l i p=>obtain ⟨h0,b,o,cap,off,t',h1,h2,h3⟩:=h;exact ⟨h0,b,o,cap,off,t',h1.mono hH,h2,h3⟩
 | _=>exact h
theorem RepT.loc:∀ {pv:PV} {t:Ty} {cs:List Value},(∀ id,id∈zS pv→(B id).live=true→φ' id=φ id)→H.Le H'→(∀ id,id∈zS pv→(B id).Le (B' id))→RepT φ H B pv t cs→RepT φ' H' B' pv t cs:=by
 intro pv
 induction pv with
 | two u v hu hv =>
  intro t cs hφ hH hB h
  cases t <;> simp only [RepT] at h ⊢ <;> try exact h
  obtain ⟨c1,c2,h,h1,h2⟩:=h
  exact ⟨c1,c2,h,hu (fun id hi=>hφ id (by simp [zS,hi])) hH (fun id hi=>hB id (by simp [zS,hi])) h1,hv (fun id hi=>hφ id (by simp [zS,hi])) hH (fun id hi=>hB id (by simp [zS,hi])) h2⟩
 | sc t' x=>intro t cs hφ hH hB h;obtain ⟨h0,h⟩:=h;exact ⟨h0,h.mono hH⟩
 | agg t a=>intro t cs hφ hH hB h;exact h
 | tup a=>intro t cs hφ hH hB h;exact h
 | bad=>intro t cs hφ hH hB h;exact h
 | _=>intro t cs hφ hH hB h;obtain ⟨h0,v,h1,h2,h3⟩:=h;exact ⟨h0,v,h1,h2,RepS.loc hφ hH hB h3⟩
theorem RepQ.loc {pv:PV} (hφ:∀ id,id∈zS pv→(B id).live=true→φ' id=φ id) (hH:H.Le H') (hB:∀ id,id∈zS pv→(B id).Le (B' id)) {v:Value} (h:RepQ φ H B pv v):RepQ φ' H' B' pv v:=by
 cases pv with
 | sc t x=>obtain ⟨cs,h1,h2⟩:=h;exact ⟨cs,h1.mono hH,h2⟩
 | agg t a=>obtain ⟨h0,cs,h1,h2⟩:=h;exact ⟨h0,cs,RepT.loc hφ hH hB h1,h2⟩
 | _=>simp only [RepQ] at h ⊢; exact RepS.loc hφ hH hB h
theorem RepL.loc:∀ {pv:PV} {vs:List Value},(∀ id,id∈zS pv→(B id).live=true→φ' id=φ id)→H.Le H'→(∀ id,id∈zS pv→(B id).Le (B' id))→RepL φ H B pv vs→RepL φ' H' B' pv vs:=by
 intro pv
 induction pv with
 | two u r hu hr =>
  intro vs hφ hH hB h
  obtain ⟨v,vs',h0,h1,h2⟩:=h
  exact ⟨v,vs',h0,RepQ.loc (fun id hi=>hφ id (by simp [zS,hi])) hH (fun id hi=>hB id (by simp [zS,hi])) h1,hr (fun id hi=>hφ id (by simp [zS,hi])) hH (fun id hi=>hB id (by simp [zS,hi])) h2⟩
 | sc t x=>intro vs hφ hH hB h;cases t <;> exact h
 | _=>intro vs hφ hH hB h;exact h
theorem RepP.loc {pv:PV} (hφ:∀ id,id∈zS pv→(B id).live=true→φ' id=φ id) (hH:H.Le H') (hB:∀ id,id∈zS pv→(B id).Le (B' id)) {v:Value} (h:RepP φ H B pv v):RepP φ' H' B' pv v:=by
 cases pv with
 | tup a=>obtain ⟨vs,h1,h2⟩:=h;exact ⟨vs,RepL.loc hφ hH hB h1,h2⟩
 | _=>simp only [RepP] at h ⊢; exact RepQ.loc hφ hH hB h
theorem RepS.old {pv:PV} {v:Value} (h:RepS φ H B pv v):∀ id,id∈zS pv→B id ≠ .new:=by
 intro id hi hn
 cases pv <;> simp only [zS,List.mem_singleton,List.not_mem_nil] at hi <;> (try exact hi.elim)
 all_goals (first | (subst hi;simp only [RepS,hn] at h) | exact h.elim | (obtain ⟨vs,g1,g2⟩:=h;exact g1.old id hi hn))
theorem RepT.old:∀ {pv:PV} {t:Ty} {cs:List Value},RepT φ H B pv t cs→∀ id,id∈zS pv→B id ≠ .new:=by
 intro pv
 induction pv with
 | two u v hu hv =>
  intro t cs h id hi
  cases t <;> simp only [RepT] at h
  obtain ⟨c1,c2,h,h1,h2⟩:=h
  simp only [zS,List.mem_append] at hi
  exact hi.elim (hu h1 id) (hv h2 id)
 | sc t' x=>intro t cs h id hi;simp [zS] at hi
 | agg t a=>intro t cs h;exact h.elim
 | tup a=>intro t cs h;exact h.elim
 | bad=>intro t cs h id hi;simp [zS] at hi
 | _=>intro t cs h;obtain ⟨h0,v,h1,h2,h3⟩:=h;exact h3.old
theorem RepQ.old {pv:PV} {v:Value} (h:RepQ φ H B pv v):∀ id,id∈zS pv→B id ≠ .new:=by
 cases pv with
 | sc t x=>intro id hi;simp [zS] at hi
 | agg t a=>obtain ⟨h0,cs,h1,h2⟩:=h;exact h1.old
 | _=>simp only [RepQ] at h;exact RepS.old h
theorem RepL.old:∀ {pv:PV} {vs:List Value},RepL φ H B pv vs→∀ id,id∈zS pv→B id ≠ .new:=by
 intro pv
 induction pv with
 | two u r hu hr =>
  intro vs h id hi
  obtain ⟨v,vs',h0,h1,h2⟩:=h
  simp only [zS,List.mem_append] at hi
  exact hi.elim (h1.old id) (hr h2 id)
 | sc t x=>intro vs h id hi;simp [zS] at hi
 | _=>intro vs h;exact h.elim
theorem RepP.old {pv:PV} {v:Value} (h:RepP φ H B pv v):∀ id,id∈zS pv→B id ≠ .new:=by
 cases pv with
 | tup a=>obtain ⟨vs,h1,h2⟩:=h;exact h1.old
 | _=>simp only [RepP] at h;exact RepQ.old h
end
theorem RepM.loc {φ φ':Pl} {H H':View} {B B':Nat→Blk} {kt:Ty}:∀ {l:List (kt.den×PV)} {es:List MapEntry},(∀ p∈l,∀ id∈zS p.2,(B id).live=true→φ' id=φ id)→H.Le H'→(∀ p∈l,∀ id∈zS p.2,(B id).Le (B' id))→RepM φ H B kt l es→RepM φ' H' B' kt l es
 | [],_,_,_,_,h=>h
 | (k,v) :: l,_,hφ,hH,hB,⟨e,es',h,⟨ck,h1,h2⟩,h3,h4⟩ =>
  ⟨e,es',h,⟨ck,h1.mono hH,h2⟩,h3.loc (fun id hi=>hφ (k,v) (by simp) id hi) hH (fun id hi=>hB (k,v) (by simp) id hi),RepM.loc (fun p hp=>hφ p (by simp [hp])) hH (fun p hp=>hB p (by simp [hp])) h4⟩
theorem RepM.old {φ:Pl} {H:View} {B:Nat→Blk} {kt:Ty}:∀ {l:List (kt.den×PV)} {es:List MapEntry},RepM φ H B kt l es→∀ p∈l,∀ id∈zS p.2,B id ≠ .new
 | [],_,_,p,hp=>by simp at hp
 | (k,v) :: l,_,⟨e,es',h,_,h3,h4⟩,p,hp=>by
  rcases List.mem_cons.1 hp with rfl | hp
  ·exact h3.old
  ·exact RepM.old h4 p hp
theorem RepB.loc {φ φ':Pl} {M M':Nat→Prop} {w w':World} {H H':View} {B B':Nat→Blk} {id:Nat} {b:Blk}
  (hid:φ' id=φ id) (hφ:∀ j,j∈qyM b→(B j).live=true→φ' j=φ j) (hH:H.Le H') (hB:∀ j,j∈qyM b→(B j).Le (B' j))
  (hw:∀ x,φ id=some x→b.mut=true→w'.heap[x.1]? = w.heap[x.1]?) (hM:∀ x,φ id=some x→b.mut=true→M x.1→M' x.1)
  (h:RepB φ M w H B id b):RepB φ' M' w' H' B' id b:=by
 cases b with
 | new=>trivial
 | gone=>trivial
 | box t v =>
  obtain ⟨b,o,c,el,fz,h1,h2,h3,h4,h5,h6⟩:=h
  exact ⟨b,o,c,el,fz,hid.trans h1,(hw _ h1 rfl).trans h2,h3,RepT.loc hφ hH hB h4,h5,hM _ h1 rfl h6⟩
 | ob e l =>
  refine ⟨h.1, ?_⟩
  rcases h.2 with ⟨h1,h2⟩ | ⟨b,o,c,el,fz,h1,h2,h3,h4,h5⟩
  ·exact .inl ⟨hid.trans h1,h2⟩
  ·exact .inr ⟨b,o,c,el,fz,hid.trans h1,(hw _ h1 rfl).trans h2,h3.mono hH,h4,hM _ h1 rfl h5⟩
 | fz e l =>
  refine ⟨h.1, ?_⟩
  rcases h.2 with ⟨h1,h2⟩ | ⟨b,o,c,el,fz,h1,h2,h3⟩
  ·exact .inl ⟨hid.trans h1,h2⟩
  ·exact .inr ⟨b,o,c,el,fz,hid.trans h1,hH _ _ h2,h3.mono hH⟩
 | it s p =>
  obtain ⟨b,h1,h2,h3⟩:=h
  exact ⟨b,hid.trans h1,(hw _ h1 rfl).trans h2,hM _ h1 rfl h3⟩
 | mp kt vt l =>
  obtain ⟨b,es,clk,h1,h2,h3,h4⟩:=h
  refine ⟨b,es,clk,hid.trans h1,(hw _ h1 rfl).trans h2,RepM.loc (fun p hp j hj=>hφ j (List.mem_flatMap.2 ⟨p,hp,hj⟩)) hH (fun p hp j hj=>hB j (List.mem_flatMap.2 ⟨p,hp,hj⟩)) h3,hM _ h1 rfl h4⟩
theorem RepB.old {φ:Pl} {M:Nat→Prop} {w:World} {H:View} {B:Nat→Blk} {id:Nat} {b:Blk} (h:RepB φ M w H B id b):∀ j,j∈qyM b→B j ≠ .new:=by
 cases b with
 | box t v=>obtain ⟨b,o,c,el,fz,h1,h2,h3,h4,h5,h6⟩:=h;exact h4.old
 | mp kt vt l =>
  obtain ⟨b,es,clk,h1,h2,h3,h4⟩:=h
  intro j hj
  obtain ⟨p,hp,hj⟩:=List.mem_flatMap.1 hj
  exact h3.old p hp j hj
 | _=>intro j hj;simp [qyM] at hj
end Yp
namespace Yp
open Go
variable {P : Program}
def qd0 (P:Program) (f:Nat) (g:Inl):Prop:=Called P f∧∀ (K:Kp) (w0:World),GK P K w0→∀ (bs:Nat) (ps:List PV) (s:St) (ρ:Type) (k:PV×St→R ρ) (r:ρ),((g bs ps s).bind k).ev=some r →
 ∀ (φ:Pl) (M:Nat→Prop) (w:World) (vs:List Value),Mem K w0 φ M s.getB w→PVs φ (view w M) s.getB ps vs →
  Calls P f vs.toArray w fun e w'=>∃ vr,e = .returned vr∧∃ v s2 φ' M',(k (v,s2)).ev=some r∧Mem K w0 φ' M' s2.getB w'∧Ext φ M s.getB w φ' M' s2.getB w'∧RepP φ' (view w' M') s2.getB v vr∧Fr [] s s2
def Keep (D:List Nat) (a a':Act):Prop:=a'.tmps.size=a.tmps.size∧a'.defers=a.defers∧∀ t,t ∉ D→a'.tmps.getD t undef=a.tmps.getD t undef
theorem Keep.refl (D:List Nat) (a:Act):Keep D a a:=⟨rfl,rfl,fun _ _=>rfl⟩
theorem Keep.sub {D D' E:List Nat} {a b c:Act} (h:Keep D a b) (k:Keep D' b c) (hd:∀ t,t∈D→t∈E) (hd':∀ t,t∈D'→t∈E):Keep E a c :=
 ⟨k.1.trans h.1,k.2.1.trans h.2.1,fun t ht=>(k.2.2 t fun hc=>ht (hd' t hc)).trans (h.2.2 t fun hc=>ht (hd t hc))⟩
theorem Keep.put {a:Act} {dst:Option Nat} {v:Value} {D:List Nat} (h:∀ d,dst=some d→d∈D):Keep D a (a.put dst v):=by
 cases dst with
 | none=>exact Keep.refl D a
 | some d =>
  refine ⟨by simp [Act.put],rfl,fun t ht => ?_⟩
  have:d≠t:=fun e=>ht (e ▸ h d rfl)
  simp [Act.put,Array.getElem?_setIfInBounds_ne this]
section
variable {K : Kp} {w0 w : World} {φ : Pl} {M : Nat → Prop} {B B' : Nat → Blk} {g : Nat → PV} {H : View} {E : Env} {nt : Nat}
theorem Same.rep {v0 v:PV} {x:Value} (h:Same v0 v) (hr:RepP φ H B v0 x):RepP φ H B v x:=by
 rcases h with rfl | ⟨c,rfl,rfl⟩
 ·exact hr
 ·rw [hr.bool];rfl
theorem Slots.put {a:Act} (hs:Slots φ H B g a) {dst:Option Nat} (hd:∀ d,dst=some d→d < a.tmps.size) {v:PV} {x:Value} (hr:RepP φ H B v x):Slots φ H B (putT g dst v) (a.put dst x):=by
 cases dst with
 | none=>exact hs
 | some d =>
  intro t
  simp only [putT,updT]
  by_cases h:t=d
  ·subst h
   have:=hd t rfl
   rw [if_pos rfl]
   simpa [Act.put,this] using hr
  ·rw [if_neg h]
   have:=hs t
   simpa [Act.put,Array.getElem?_setIfInBounds_ne (Ne.symm h)] using this
theorem qmF {ops:Array Oper} {a:Act} {j d:Nat} (h:(ops.toList[j]?).bind (·.dst)=some d):(∀ b,a.tmps.getD d undef = .bool b→yielded ops a.tmps j=some b)∧(a.tmps.getD d undef=undef→yielded ops a.tmps j=none):=by
 rw [Array.getElem?_toList] at h
 unfold yielded
 rw [h]
 simp only [Option.bind_some]
 refine ⟨fun b hb => ?_,fun hb => ?_⟩
 ·cases hg:a.tmps[d]? with
  | none=>rw [Array.getD_eq_getD_getElem?,hg] at hb;cases hb
  | some v=>rw [Array.getD_eq_getD_getElem?,hg] at hb;simp only [Option.getD_some] at hb;rw [hb]
 ·cases hg:a.tmps[d]? with
  | none=>rfl
  | some v=>rw [Array.getD_eq_getD_getElem?,hg] at hb;simp only [Option.getD_some] at hb;rw [hb];rfl
theorem qu1 {ops:Array Oper} {o:Oper} {a:Act} (h:Wants ops.toList o g) (hs:Slots φ H B g a):Region.wanted o (yielded ops a.tmps)=true:=by
 rcases h with h | ⟨j,want,d,h1,h2,h3⟩
 ·simp [Region.wanted,h]
 ·have hv:=hs d
  rw [h3] at hv
  have hv:a.tmps.getD d undef = .bool want:=hv
  simp [Region.wanted,h1,(qmF h2).1 _ hv]
theorem qCC {ops:Array Oper} {o:Oper} {a:Act} (h:Skips ops.toList o g) (hs:Slots φ H B g a):Region.wanted o (yielded ops a.tmps)=false:=by
 obtain ⟨j,want,d,h1,h2,h3⟩:=h
 have hv:=hs d
 rcases h3 with h3 | h3 <;> rw [h3] at hv
 ·have hv:a.tmps.getD d undef = .bool (!want):=hv
  simp [Region.wanted,h1,(qmF h2).1 _ hv]
 ·have hv:a.tmps.getD d undef=undef:=hv
  simp [Region.wanted,h1,(qmF h2).2 hv]
theorem Fr.wr {s s2:St} {D:List Nat} (h:Fr D s s2):s2.getB=zL s.getB (wrOf s s2):=by
 obtain ⟨_,nw,h2,h3⟩:=h
 have hn:newW s s2=nw:=by unfold newW;rw [h2,List.length_append,Nat.add_sub_cancel,List.take_left'];rfl
 funext id
 unfold wrOf zL
 rw [hn]
 clear h2 hn
 have key:∀ (l:List Nat) (d:Blk),qgT (l.map fun id=>(id,s2.getB id)) id d=if id∈l then s2.getB id else d:=by
  intro l d
  induction l with
  | nil=>rfl
  | cons x l ih =>
   simp only [List.map_cons,qgT]
   by_cases hx:x=id
   ·subst hx;rw [zQ rfl];simp
   ·rw [qS hx,cond_false,ih]
    simp only [List.mem_cons,Ne.symm hx,false_or]
 rw [key]
 split
 ·rfl
 ·rename_i hn;exact h3 id hn
theorem wF {id:Nat}:∀ (l:List (Nat×Blk)) (d:Blk),id ∉ l.map (·.1)→qgT l id d=d
 | [],_,_=>rfl
 | p :: l,d,h=>by
  simp only [List.map_cons,List.mem_cons,not_or] at h
  simp only [qgT]
  rw [qS (Ne.symm h.1)]
  exact wF l d h.2
theorem PVs.loc:∀ {ps:List PV} {vs:List Value} {B':Nat→Blk},(∀ p∈ps,∀ j,j∈zS p→B' j=B j)→PVs φ H B ps vs→PVs φ H B' ps vs
 | [],[],_,_,_=>trivial
 | [],_ :: _,_,_,h=>h.elim
 | _ :: _,[],_,_,h=>h.elim
 | p :: ps,v :: vs,B',hc,h=>⟨h.1.loc (fun _ _ _=>rfl) (View.Le.refl _) (fun j hj=>by rw [hc p (by simp) j hj];exact Blk.Le.refl _),PVs.loc (fun q hq=>hc q (by simp [hq])) h.2⟩
theorem qd0.frame {f:Nat} {gI:Inl} (hok:qd0 P f gI) (hgk:GK P K w0) (hm:Mem K w0 φ M B w) {s s2:St} {bs:Nat} {ps:List PV} {v0:PV} (hev:(gI bs ps s).ev=some (v0,s2)) {known:List Nat}
  (hkn:∀ id,id∈known→s.getB id=B id) (hun:∀ id,id ∉ known→s.getB id = .new) (hcl:∀ id j,j∈qyM (s.getB id)→j∈known) (hcp:∀ p∈ps,∀ j,j∈zS p→j∈known)
  (hwk:∀ id,id∈(wrOf s s2).map (·.1)→id∈known) {vs:List Value} (hp:PVs φ (view w M) B ps vs) :
  Calls P f vs.toArray w fun e w'=>∃ vr,e = .returned vr∧∃ φ' M',Mem K w0 φ' M' (zL B (wrOf s s2)) w'∧Ext φ M B w φ' M' (zL B (wrOf s s2)) w'∧RepP φ' (view w' M') (zL B (wrOf s s2)) v0 vr:=by
 let K':Kp:=⟨fun b=>K.k b∨∃ id x,id ∉ known∧(B id).mut=true∧φ id=some x∧x.1=b,M⟩
 have mutk:∀ id,(s.getB id).mut=true→id∈known∧(B id).mut=true:=fun id h=>by
  by_cases hk:id∈known
  ·rw [hkn id hk] at h;exact ⟨hk,h⟩
  ·rw [hun id hk] at h;cases h
 have hm':Mem K' w φ M s.getB w:=by
  refine ⟨rfl,rfl,rfl,Nat.le_refl _,fun _ _=>rfl,fun b hb => ?_,fun _ _=>Iff.rfl,fun id hi x hx hc => ?_,hm.mlt,fun id => ?_,fun i j hij hi hj => ?_⟩
  ·rcases hb with hb | ⟨id,x,_,h2,h3,rfl⟩
   ·exact Nat.lt_of_lt_of_le (hm.klt b hb) hm.size
   ·exact (hm.blks id).lt h2 h3
  ·obtain ⟨hk,hmu⟩:=mutk id hi
   rcases hc with hc | ⟨id',x',h1,h2,h3,h4⟩
   ·exact hm.own id hmu x hx hc
   ·exact hm.sep id' id (fun e=>h1 (e ▸ hk)) h2 hmu x' x h3 hx h4
  ·by_cases hk:id∈known
   ·have h:=hm.blks id
    rw [hkn id hk]
    refine RepB.loc rfl (fun _ _ _=>rfl) (View.Le.refl _) (fun j hj => ?_) (fun _ _ _=>rfl) (fun _ _ _ h=>h) h
    rw [hkn j (hcl id j (by rw [hkn id hk];exact hj))];exact Blk.Le.refl _
   ·rw [hun id hk];trivial
  ·exact hm.sep i j hij (mutk i hi).2 (mutk j hj).2
 have hp':PVs φ (view w M) s.getB ps vs:=hp.loc fun p hq j hj=>hkn j (hcp p hq j hj)
 refine (hok.2 K' w ⟨fun g hg => .inl (hgk.gl g hg),hgk.keys hm⟩ bs ps s (PV×St) .leaf (v0,s2) (by rw [jG];exact hev) φ M w vs hm' hp').mono ?_
 rintro e w' ⟨vr,rfl,v,s3,φ1,M1,q1,q2,q3,q4,q5⟩
 cases q1
 have hB2:=q5.wr
 have kn2:∀ id,id∈known→s2.getB id=zL B (wrOf s s2) id:=fun id hk=>by rw [hB2];unfold zL;rw [hkn id hk]
 have un2:∀ id,id ∉ known→s2.getB id = .new∧zL B (wrOf s s2) id=B id:=fun id hk=>by
  have hnw:id ∉ (wrOf s s2).map (·.1):=fun h=>hk (hwk id h)
  refine ⟨?_,wF _ _ hnw⟩
  rw [hB2];exact (wF _ _ hnw).trans (hun id hk)
 have refk:∀ j,s2.getB j ≠ .new→j∈known:=fun j h=>by
  by_cases hk:j∈known
  ·exact hk
  ·exact absurd (un2 j hk).1 h
 let φ2:Pl:=fun id=>if id∈known then φ1 id else φ id
 have f2k:∀ id,id∈known→φ2 id=φ1 id:=fun id h=>if_pos h
 have f2u:∀ id,id ∉ known→φ2 id=φ id:=fun id h=>if_neg h
 have hpl:∀ id,(B id).live=true→φ2 id=φ id:=fun id hl=>by
  by_cases hk:id∈known
  ·rw [f2k id hk];exact q3.pl id (by rw [hkn id hk];exact hl)
  ·exact f2u id hk
 have hbl:∀ id,(B id).Le (zL B (wrOf s s2) id):=fun id=>by
  by_cases hk:id∈known
  ·rw [← kn2 id hk,← hkn id hk];exact q3.bl id
  ·rw [(un2 id hk).2];exact Blk.Le.refl _
 have mut2:∀ id,id∈known→(zL B (wrOf s s2) id).mut=true→(s2.getB id).mut=true:=fun id hk h=>by rw [kn2 id hk];exact h
 have mutu:∀ id,id ∉ known→(zL B (wrOf s s2) id).mut=true→(B id).mut=true:=fun id hk h=>by rw [← (un2 id hk).2];exact h
 refine ⟨vr,rfl,φ2,M1,⟨q2.os.trans hm.os,q2.tape.trans hm.tape,q2.output.trans hm.output,Nat.le_trans hm.size q2.size,fun b hb=>(q2.keep b (.inl hb)).trans (hm.keep b hb),hm.klt,fun b hb=>(q2.hid b (.inl hb)).trans (hm.hid b hb),fun id hi x hx hc => ?_,q2.mlt,fun id => ?_,fun i j hij hi hj x y hx hy => ?_⟩,⟨hpl,q3.vw,hbl⟩, ?_⟩
 ·by_cases hk:id∈known
  ·rw [f2k id hk] at hx;exact q2.own id (mut2 id hk hi) x hx (.inl hc)
  ·rw [f2u id hk] at hx;exact hm.own id (mutu id hk hi) x hx hc
 ·by_cases hk:id∈known
  ·rw [← kn2 id hk]
   have h:=q2.blks id
   refine RepB.loc (f2k id hk) (fun j hj _=>f2k j (refk j (h.old j hj))) (View.Le.refl _) (fun j hj => ?_) (fun _ _ _=>rfl) (fun _ _ _ h=>h) h
   rw [kn2 j (refk j (h.old j hj))];exact Blk.Le.refl _
  ·rw [(un2 id hk).2]
   refine RepB.loc (f2u id hk) (fun j _ hl=>hpl j hl) q3.vw (fun j _=>hbl j) (fun x hx hmu=>q2.keep x.1 (.inr ⟨id,x,hk,hmu,hx,rfl⟩)) (fun x hx hmu hM=>(q2.hid x.1 (.inr ⟨id,x,hk,hmu,hx,rfl⟩)).2 hM) (hm.blks id)
 ·by_cases hki:i∈known <;> by_cases hkj:j∈known
  ·rw [f2k i hki] at hx;rw [f2k j hkj] at hy;exact q2.sep i j hij (mut2 i hki hi) (mut2 j hkj hj) x y hx hy
  ·rw [f2k i hki] at hx;rw [f2u j hkj] at hy
   exact fun e=>q2.own i (mut2 i hki hi) x hx (.inr ⟨j,y,hkj,mutu j hkj hj,hy,e.symm⟩)
  ·rw [f2u i hki] at hx;rw [f2k j hkj] at hy
   exact fun e=>q2.own j (mut2 j hkj hj) y hy (.inr ⟨i,x,hki,mutu i hki hi,hx,e⟩)
  ·rw [f2u i hki] at hx;rw [f2u j hkj] at hy;exact hm.sep i j hij (mutu i hki hi) (mutu j hkj hj) x y hx hy
 ·exact q4.loc (fun j hj _=>f2k j (refk j (q4.old j hj))) (View.Le.refl _) (fun j hj=>by rw [kn2 j (refk j (q4.old j hj))];exact Blk.Le.refl _)
theorem qAP.congr {E:Env} {ops:List Oper} {o:Oper} {g g2:Nat→PV} {B B2:Nat→Blk} {v0:PV} {rb:List Nat} {wr:List (Nat×Blk)} (h:qAP E ops o g B v0 rb wr) (hg:∀ t,Nat.testBit (jH ops o) t=true→g2 t=g t)
  (hB:∀ id,id∈rb∨id∈wr.map (·.1)→B2 id=B id):qAP E ops o g2 B2 v0 rb wr:=by
 obtain ⟨F,nf,env,gI,ps,s,s2,f,args,ats,bs,h1,h2,h3,h4,h5,h6,h7,h8,h9,h10⟩:=h
 refine ⟨F,nf,env,gI,ps,s,s2,f,args,ats,bs,h1,h2,h3, ?_,fun g3 B3 hg3=>h5 g3 B3 fun t ht=>(hg3 t ht).trans (hg t ht),fun id hid => ?_,h7,h8,h9,h10⟩
 ·cases f with
  | tmp t=>simp only [funV] at h4 ⊢; rw [hg t h3];exact h4
  | func f=>exact h4
  | const v=>exact h4
  | global i=>exact h4
 ·rw [hB id ((List.mem_append.1 hid).imp (fun h=>by rw [h10];exact h) (fun h=>h))];exact h6 id hid
theorem qvQ:∀ {l:List (Nat×Blk)} {id:Nat},id ∉ l.map (·.1)→look l id = .new
 | [],_,_=>rfl
 | (i,b) :: r,id,h=>by
  simp only [List.map_cons,List.mem_cons,not_or] at h
  simp only [look]
  rw [qS (Ne.symm h.1)]
  exact qvQ h.2
theorem qC8:∀ {l:List (Nat×Blk)} {id:Nat},id∈l.map (·.1)→∃ b,(id,b)∈l∧look l id=b
 | [],_,h=>by simp at h
 | (i,b) :: r,id,h=>by
  simp only [look]
  by_cases hi:i=id
  ·subst hi;rw [zQ rfl];exact ⟨b,by simp,rfl⟩
  ·rw [qS hi]
   simp only [List.map_cons,List.mem_cons] at h
   obtain ⟨c,hc,h2⟩:=qC8 (h.resolve_left (Ne.symm hi))
   exact ⟨c,by simp [hc],h2⟩
theorem qBJ {s:St} {ps:List PV} (h:qrL s ps=true):(∀ id j,j∈qyM (s.getB id)→j∈qbQ s)∧∀ p∈ps,∀ j,j∈zS p→j∈qbQ s:=by
 unfold qrL at h
 simp only [Bool.and_eq_true] at h
 have any:∀ {j:Nat},(qbQ s).any (Nat.beq j)=true→j∈qbQ s:=fun h=>by
  obtain ⟨x,hx,he⟩:=List.any_eq_true.1 h
  rw [Nat.eq_of_beq_eq_true he];exact hx
 refine ⟨fun id j hj => ?_,fun p hp j hj=>any (List.all_eq_true.1 (List.all_eq_true.1 h.2 p hp) j hj)⟩
 by_cases hk:id∈s.h.map (·.1)
 ·obtain ⟨b,hb,he⟩:=qC8 hk
  have he:s.getB id=b:=he
  rw [he] at hj
  exact any (List.all_eq_true.1 (List.all_eq_true.1 h.1 _ hb) j hj)
 ·have:s.getB id = .new:=qvQ hk
  rw [this] at hj;simp [qyM] at hj
theorem qGg (hG:Fns P E K w0) (hI:∀ f g,E.I f=some g→qd0 P f g) {ops:List Oper} {o:Oper} {a:Act} {v0:PV} {rb:List Nat} {wr:List (Nat×Blk)} (hm:Mem K w0 φ M B w) (hs:Slots φ (view w M) B g a) (h:qAP E ops o g B v0 rb wr)
  {Kn:Act→World→Prop} {Q:Exit→Act→World→Prop}
  (hk:∀ φ' M' w' x,Mem K w0 φ' M' (zL B wr) w'→Ext φ M B w φ' M' (zL B wr) w'→RepP φ' (view w' M') (zL B wr) v0 x→Kn (a.put o.dst x) w'):o.wp P a w Kn Q:=by
 obtain ⟨F,nf,env,gI,ps,s,s2,f,args,ats,bs,h1,h2,h3,h4,h5,h6,h7,h8,h9,h10⟩:=h
 obtain ⟨dst,op,type,pos,after,guard⟩:=o
 simp only at h1
 subst h1
 have hok:=hI _ _ h2
 have hrep:RepP φ (view w M) B (.clo F nf env) (a.eval f):=by
  rw [← h4]
  cases f with
  | tmp t=>exact hs t
  | func f=>exact ⟨[],rfl,rfl⟩
  | const v=>cases h3
  | global i=>cases h3
 obtain ⟨us,he,hfv⟩:=hrep
 refine qo2 hfv hok.1 ?_
 obtain ⟨_,hps⟩:=qjV hs (h5 g B fun _ _=>rfl)
 have ha:(args.toList.map a.eval).toArray=args.map a.eval:=by apply Array.ext';simp
 have hargs:(us.take nf++(args.toList.map a.eval++us.drop nf)).toArray=(us.take nf).toArray++args.map a.eval++(us.drop nf).toArray:=by rw [← ha];simp
 rw [← hargs]
 obtain ⟨k1,k2⟩:=qBJ h7
 subst h9
 refine (hok.frame (hG.gk (.inr (.inl ⟨_,_,h2⟩))) hm h8 h6 (fun id hid=>qvQ fun hc=>hid (List.mem_append_left _ hc)) (fun id j hj=>List.mem_append_left _ (k1 id j hj)) (fun p hp j hj=>List.mem_append_left _ (k2 p hp j hj)) (fun id hid=>List.mem_append_right _ hid) (qnA he hps)).mono ?_
 rintro e w' ⟨vr,rfl,φ',M',q1,q2,q3⟩
 exact ⟨vr,rfl,hk φ' M' w' vr q1 q2 q3⟩
theorem qxU {x:Value} (h:x=undef):RepP φ H B .undef x:=h
theorem qLh (hT:qfZ P E.T) (hC:qm9 P E.T E.C) (hMp:qfM P E.M) (hG:Fns P E K w0) (hI:∀ f g,E.I f=some g→qd0 P f g) {ops:Array Oper} {e:Ev} {a:Act} (hn:∀ d,e.o.dst=some d→d < nt) (hnt:nt≤a.tmps.size) (hm:Mem K w0 φ M B w) (hs:Slots φ (view w M) B g a)
  (h:(Wants ops.toList e.o g∧∃ v0,Same v0 e.v∧(opP E e.o).go g B=some (v0,zL B e.wr))∨(Skips ops.toList e.o g∧e.v = .undef∧e.wr=[])∨(Wants ops.toList e.o g∧∃ v0,Same v0 e.v∧qAP E ops.toList e.o g B v0 e.rb e.wr))
  {Kn:Act→World→Prop} {Q:Exit→Act→World→Prop}
  (hk:∀ φ' M' w' x,Mem K w0 φ' M' (zL B e.wr) w'→Ext φ M B w φ' M' (zL B e.wr) w'→Slots φ' (view w' M') (zL B e.wr) (putT g e.o.dst e.v) (a.put e.o.dst x)→Kn (a.put e.o.dst x) w') :
  if Region.wanted e.o (yielded ops a.tmps) then e.o.wp P a w Kn Q else Kn (a.put e.o.dst undef) w:=by
 have hd:∀ d,e.o.dst=some d→d < a.tmps.size:=fun d h=>Nat.lt_of_lt_of_le (hn d h) hnt
 rcases h with ⟨hw,v0,hs0,hgo⟩ | ⟨hw,hv,hwr⟩ | ⟨hw,v0,hs0,hin⟩
 ·rw [if_pos (qu1 hw hs)]
  refine qKT hT hC hMp hG hgo hm hs fun r w' ha => ?_
  obtain ⟨φ',M',m1,e1,r1⟩:=ha
  exact hk φ' M' w' r m1 e1 ((hs.ext e1).put hd (hs0.rep r1))
 ·rw [if_neg (by rw [qCC hw hs];simp)]
  have hB:zL B e.wr=B:=by rw [hwr];rfl
  have:=hk φ M w undef (by rw [hB];exact hm) (by rw [hB];exact Ext.refl _ _ _ _) (by rw [hB,hv];exact hs.put hd (qxU rfl))
  exact this
 ·rw [if_pos (qu1 hw hs)]
  exact qGg hG hI hm hs hin fun φ' M' w' r m1 e1 r1=>hk φ' M' w' r m1 e1 ((hs.ext e1).put hd (hs0.rep r1))
theorem qEI (hT:qfZ P E.T) (hC:qm9 P E.T E.C) (hMp:qfM P E.M) (hG:Fns P E K w0) (hI:∀ f g,E.I f=some g→qd0 P f g) {ops:Array Oper} {Q:Exit→Act→World→Prop}:∀ (tr:List Ev) {φ:Pl} {M:Nat→Prop} {B:Nat→Blk} {g:Nat→PV} {w:World} {a:Act},
  Valid E ops.toList nt false tr g B→Mem K w0 φ M B w→Slots φ (view w M) B g a→nt≤a.tmps.size →
  (∀ φ' M' w' a',Mem K w0 φ' M' (stB tr (fun _=>true) B) w'→Ext φ M B w φ' M' (stB tr (fun _=>true) B) w'→Slots φ' (view w' M') (stB tr (fun _=>true) B) (stT tr (fun _=>true) g) a'→Keep (dsts (tr.map (·.o))) a a'→Q .normal a' w') →
  wpList P ops Q (tr.map (·.o)) a w
 | [],φ,M,B,g,w,a,_,hm,hs,_,hq=>hq φ M w a hm (Ext.refl _ _ _ _) hs (Keep.refl _ _)
 | e :: tr,φ,M,B,g,w,a,hv,hm,hs,hnt,hq=>by
  obtain ⟨⟨hn,hev⟩,hv⟩:=hv
  have hd:=qdV e.o (tr.map (·.o))
  have:=qLh (P:=P) (Kn:=wpList P ops Q (tr.map (·.o))) (Q:=Q) hT hC hMp hG hI hn hnt hm hs (hev.imp (fun ⟨h1,v0,h2,h3,_⟩=>⟨h1,v0,h2,h3⟩) (fun h=>h.elim (fun ⟨h1,h2,h3,_⟩ => .inl ⟨h1,h2,h3⟩) (fun h=>by cases h.1))) fun φ' M' w' x m1 e1 s1=>by
   refine qEI hT hC hMp hG hI tr hv m1 s1 (by simp only [Act.put];split <;> simpa using hnt) fun φ2 M2 w2 a2 m2 e2 s2 k2 => ?_
   exact hq φ2 M2 w2 a2 m2 (e1.trans e2) s2 ((Keep.put hd.1).sub k2 (fun t h=>h) hd.2)
  simp only [List.map_cons,wpList]
  split
  ·rename_i hw;rw [if_pos hw] at this;exact .inl this
  ·rename_i hw;rw [if_neg hw] at this;exact this
theorem wA {t:Nat}:∀ (tr:List Ev) {L L':Nat→Bool} {g g':Nat→PV},g t=g' t→(∀ e∈tr,e.o.dst=some t→L e.i=L' e.i)→stT tr L g t=stT tr L' g' t
 | [],_,_,_,_,h,_=>h
 | e :: tr,L,L',g,g',h,hL=>by
  simp only [stT]
  refine wA tr ?_ fun e' he=>hL e' (List.mem_cons_of_mem _ he)
  have key:∀ (x:Nat→PV),e.o.dst≠some t→putT x e.o.dst e.v t=x t:=fun x hne=>by
   cases hd:e.o.dst with
   | none=>rfl
   | some d=>simp only [putT,updT];rw [if_neg];intro h;exact hne (by rw [hd,h])
  by_cases hd:e.o.dst=some t
  ·rw [hL e List.mem_cons_self hd]
   cases L' e.i with
   | false=>exact h
   | true=>simp only [cond,hd,putT,updT,if_true]
  ·cases L e.i <;> cases L' e.i <;> simp only [cond,key _ hd,h]
theorem qC9 {id:Nat}:∀ (l:List (Nat×Blk)) (d d':Blk),id∈l.map (·.1)→qgT l id d=qgT l id d'
 | [],_,_,h=>by simp at h
 | p :: l,d,d',h=>by
  simp only [qgT]
  by_cases hp:p.1=id
  ·rw [zQ hp];rfl
  ·rw [qS hp]
   simp only [List.map_cons,List.mem_cons] at h
   exact qC9 l d d' (h.resolve_left (Ne.symm hp))
theorem wB {id:Nat}:∀ (tr:List Ev) {L L':Nat→Bool} {B B':Nat→Blk},B id=B' id→(∀ e∈tr,id∈e.wr.map (·.1)→L e.i=L' e.i)→stB tr L B id=stB tr L' B' id
 | [],_,_,_,_,h,_=>h
 | e :: tr,L,L',B,B',h,hL=>by
  simp only [stB]
  refine wB tr ?_ fun e' he=>hL e' (List.mem_cons_of_mem _ he)
  by_cases hd:id∈e.wr.map (·.1)
  ·rw [hL e List.mem_cons_self hd]
   cases L' e.i with
   | false=>exact h
   | true=>simp only [cond,zL,h]
  ·have key:∀ (x:Nat→Blk),zL x e.wr id=x id:=fun x=>wF _ _ hd
   cases L e.i <;> cases L' e.i <;> simp only [cond,key,h]
theorem qAY (L:Nat→Bool):∀ (a b:List Ev) (g:Nat→PV),stT (a++b) L g=stT b L (stT a L g)
 | [],_,_=>rfl
 | e :: a,b,g=>qAY L a b _
theorem qAZ (L:Nat→Bool):∀ (a b:List Ev) (B:Nat→Blk),stB (a++b) L B=stB b L (stB a L B)
 | [],_,_=>rfl
 | e :: a,b,B=>qAZ L a b _
theorem Valid.at {ops:List Oper} {draw:Bool} {e:Ev}:∀ (pre:List Ev) {post:List Ev} {g:Nat→PV} {B:Nat→Blk},Valid E ops nt draw (pre++e :: post) g B→EvOK E ops nt draw (stT pre (fun _=>true) g) (stB pre (fun _=>true) B) e
 | [],_,_,_,h=>h.1
 | _ :: pre,_,_,_,h=>Valid.at pre h.2
end
def Hits (e1 e2:Ev) (id:Nat):Prop:=(id∈e1.wr.map (·.1)∧id∈e2.rb)∨(id∈e1.wr.map (·.1)∧id∈e2.wr.map (·.1))∨(id∈e1.rb∧id∈e2.wr.map (·.1))∨(e1.al=true∧id∈e2.wr.map (·.1))∨(e2.al=true∧id∈e1.wr.map (·.1))
theorem qBl {a b:List Nat} {k:Nat} (h1:k∈a) (h2:k∈b):meet a b=true:=by
 unfold meet
 exact List.any_eq_true.2 ⟨k,h1,List.any_eq_true.2 ⟨k,h2,Nat.beq_refl k⟩⟩
theorem qDp {e:Ev}:∀ {tr:List Ev},e∈tr→(e.al=true∨e.rb≠[]∨e.wr≠[])→(⟨e.i,e.al,e.rb,e.wr.map (·.1)⟩:Foot)∈feet tr
 | [],h,_=>by simp at h
 | e' :: tr,h,hne=>by
  simp only [feet]
  rcases List.mem_cons.1 h with rfl | h
  ·cases ha:e.al <;> cases hr:e.rb <;> cases hw:e.wr
   ·exact absurd hne (by simp [ha,hr,hw])
   all_goals exact List.mem_cons_self
  ·have:=qDp h hne
   cases ha:e'.al <;> cases hr:e'.rb <;> cases hw:e'.wr
   ·exact this
   all_goals exact List.mem_cons_of_mem _ this
theorem qt5 {bf:List Nat}:∀ {tr:List Ev},qmV bf (feet tr)=true→tr.Pairwise fun e1 e2=>∀ id,Hits e1 e2 id→Nat.testBit (bf.getD e2.i 0) e1.i=true
 | [],_=>List.Pairwise.nil
 | e :: tr,h=>by
  have split:qmV bf (feet tr)=true∧((e.al=true∨e.rb≠[]∨e.wr≠[])→(feet tr).all (fun g => !((⟨e.i,e.al,e.rb,e.wr.map (·.1)⟩:Foot).clash g) || Nat.testBit (bf.getD g.i 0) e.i)=true):=by
   simp only [feet] at h
   cases ha:e.al <;> cases hr:e.rb <;> cases hw:e.wr <;> rw [ha,hr,hw] at h
   ·exact ⟨h,fun hne=>by simp at hne⟩
   all_goals
    simp only [qmV,Bool.and_eq_true] at h
    exact ⟨h.2,fun _=>h.1⟩
  refine List.Pairwise.cons (fun e2 he2 id hh => ?_) (qt5 split.1)
  have hne:(e.al=true∨e.rb≠[]∨e.wr≠[])∧(e2.al=true∨e2.rb≠[]∨e2.wr≠[]):=by
   have ne:∀ {l:List Nat},id∈l→l≠[]:=fun h e=>by rw [e] at h;simp at h
   have ne':∀ {l:List (Nat×Blk)},id∈l.map (·.1)→l≠[]:=fun h e=>by rw [e] at h;simp at h
   rcases hh with ⟨h1,h2⟩ | ⟨h1,h2⟩ | ⟨h1,h2⟩ | ⟨h1,h2⟩ | ⟨h1,h2⟩
   ·exact ⟨.inr (.inr (ne' h1)), .inr (.inl (ne h2))⟩
   ·exact ⟨.inr (.inr (ne' h1)), .inr (.inr (ne' h2))⟩
   ·exact ⟨.inr (.inl (ne h1)), .inr (.inr (ne' h2))⟩
   ·exact ⟨.inl h1, .inr (.inr (ne' h2))⟩
   ·exact ⟨.inr (.inr (ne' h2)), .inl h1⟩
  have:=List.all_eq_true.1 (split.2 hne.1) _ (qDp he2 hne.2)
  have hcl:(⟨e.i,e.al,e.rb,e.wr.map (·.1)⟩:Foot).clash ⟨e2.i,e2.al,e2.rb,e2.wr.map (·.1)⟩=true:=by
   unfold Foot.clash
   have hs1:∀ {l:List Nat},id∈l→qIZ l=true:=fun h=>by
    rename_i l
    cases l with
    | nil=>cases h
    | cons x l=>rfl
   rcases hh with ⟨h1,h2⟩ | ⟨h1,h2⟩ | ⟨h1,h2⟩ | ⟨h1,h2⟩ | ⟨h1,h2⟩
   ·simp only [qBl h1 h2,Bool.true_or]
   ·simp only [qBl h1 h2,Bool.true_or,Bool.or_true]
   ·simp only [qBl h1 h2,Bool.true_or,Bool.or_true]
   ·simp only [h1,hs1 h2,Bool.true_or,Bool.or_true,Bool.and_self]
   ·simp only [h1,hs1 h2,Bool.or_true,Bool.and_self]
  simpa [hcl] using this
def qDD (bf:List Nat) (p:Nat×Nat×Nat) (i rd wr:Nat):Prop:=(Nat.land p.2.2 (rd ||| wr)=0∧Nat.land p.2.1 wr=0)∨Nat.testBit (bf.getD i 0) p.1=true
theorem qnI {ops:List Oper} {bf:List Nat}:∀ {l:List Oper} {i:Nat} {acc:List (Nat×Nat×Nat)},qpT ops bf i l acc=true →
  (∀ p∈acc,∀ k o,l[k]? = some o→qDD bf p (i+k) (jH ops o) (qhR o)) ∧
  ∀ k1 k2 o1 o2,k1 < k2→l[k1]? = some o1→l[k2]? = some o2→qDD bf (i+k1,jH ops o1,qhR o1) (i+k2) (jH ops o2) (qhR o2)
 | [],i,acc,_=>⟨fun p _ k o h=>by simp at h,fun k1 k2 o1 o2 _ h _=>by simp at h⟩
 | o :: l,i,acc,h=>by
  simp only [qpT,Bool.and_eq_true] at h
  obtain ⟨h1,h2⟩:=h
  obtain ⟨r1,r2⟩:=qnI h2
  refine ⟨fun p hp k o' hk => ?_,fun k1 k2 o1 o2 hlt hk1 hk2 => ?_⟩
  ·cases k with
   | zero =>
    simp only [List.getElem?_cons_zero,Option.some.injEq] at hk
    subst hk
    have:=List.all_eq_true.1 h1 p hp
    simp only [Bool.or_eq_true,Bool.and_eq_true] at this
    exact this.imp (fun h=>⟨Nat.eq_of_beq_eq_true h.1,Nat.eq_of_beq_eq_true h.2⟩) id
   | succ k =>
    simp only [List.getElem?_cons_succ] at hk
    have:=r1 p (List.mem_cons_of_mem _ hp) k o' hk
    rwa [show i+1+k=i+(k+1) by omega] at this
  ·cases k2 with
   | zero=>omega
   | succ k2 =>
    simp only [List.getElem?_cons_succ] at hk2
    cases k1 with
    | zero =>
     simp only [List.getElem?_cons_zero,Option.some.injEq] at hk1
     subst hk1
     have:=r1 _ List.mem_cons_self k2 o2 hk2
     rwa [show i+1+k2=i+(k2+1) by omega] at this
    | succ k1 =>
     simp only [List.getElem?_cons_succ] at hk1
     have:=r2 k1 k2 o1 o2 (by omega) hk1 hk2
     rwa [show i+1+k2=i+(k2+1) by omega,show i+1+k1=i+(k1+1) by omega] at this
theorem qzA {a b t:Nat} (h:Nat.land a b=0) (h1:Nat.testBit a t=true) (h2:Nat.testBit b t=true):False:=by
 have:Nat.testBit (Nat.land a b) t=true:=by
  have h3:Nat.testBit (a &&& b) t=(Nat.testBit a t && Nat.testBit b t):=Nat.testBit_and a b t
  exact h3.trans (by simp [h1,h2])
 rw [h] at this;simp at this
theorem qmG {o:Oper} {t:Nat} (h:o.dst=some t):Nat.testBit (qhR o) t=true:=by simp [qhR,h]
def qBD (acc:List Nat) (s:Nat) (e:Edge):Nat:=bif Region.binds .any e then s ||| 2 ^ e.on ||| acc.getD e.on 0 else s
theorem quI {acc:List Nat} {i:Nat}:∀ (l:List Edge) (s:Nat),Nat.testBit (l.foldl (qBD acc) s) i=true→Nat.testBit s i=true∨∃ e∈l,Region.binds .any e=true∧(i=e.on∨Nat.testBit (acc.getD e.on 0) i=true)
 | [],s,h => .inl h
 | e :: l,s,h=>by
  rcases quI l _ h with h | ⟨e',he,h⟩
  ·unfold qBD at h
   cases hb:Region.binds .any e with
   | false=>rw [hb] at h;exact .inl h
   | true =>
    rw [hb] at h
    simp only [cond,Nat.testBit_or,Bool.or_eq_true] at h
    rcases h with (h | h) | h
    ·exact .inl h
    ·right;refine ⟨e,List.mem_cons_self,hb, .inl ?_⟩
     rw [Nat.testBit_two_pow] at h;simpa using (of_decide_eq_true h).symm
    ·right;exact ⟨e,List.mem_cons_self,hb, .inr h⟩
  ·right;exact ⟨e',List.mem_cons_of_mem _ he,h⟩
theorem qsG:∀ (l:List Oper) (acc:List Nat),(∃ suf,xV l acc=acc++suf) ∧
  ∀ j o,l[j]? = some o→∃ pre,pre.length=acc.length+j∧(∃ suf,xV l acc=pre++suf)∧(xV l acc).getD (acc.length+j) 0=o.after.toList.foldl (qBD pre) 0
 | [],acc=>⟨⟨[],by simp [xV]⟩,fun j o h=>by simp at h⟩
 | o :: l,acc=>by
  obtain ⟨⟨suf,h1⟩,h2⟩:=qsG l (acc++[o.after.toList.foldl (qBD acc) 0])
  have hdef:xV (o :: l) acc=xV l (acc++[o.after.toList.foldl (qBD acc) 0]):=rfl
  refine ⟨⟨o.after.toList.foldl (qBD acc) 0 :: suf,by rw [hdef,h1];simp⟩,fun j o' hj => ?_⟩
  cases j with
  | zero =>
   simp only [List.getElem?_cons_zero,Option.some.injEq] at hj
   subst hj
   refine ⟨acc,rfl,⟨o.after.toList.foldl (qBD acc) 0 :: suf,by rw [hdef,h1];simp⟩, ?_⟩
   rw [hdef,h1]
   simp [List.getD_eq_getElem?_getD]
  | succ j =>
   simp only [List.getElem?_cons_succ] at hj
   obtain ⟨pre,p1,p2,p3⟩:=h2 j o' hj
   simp only [List.length_append,List.length_cons,List.length_nil] at p1 p3
   refine ⟨pre,by omega,by rw [hdef];exact p2, ?_⟩
   rw [hdef,show acc.length+(j+1)=acc.length+(0+1)+j by omega]
   exact p3
theorem qsF {ops:List Oper} {L:Nat→Bool} (hcl:∀ i o,ops[i]? = some o→L i=true→∀ e∈o.after.toList,Region.binds .any e=true→L e.on=true) :
  ∀ j o,ops[j]? = some o→(∀ e∈o.after.toList,Region.binds .any e=true→L e.on=true)→∀ i,Nat.testBit ((xV ops []).getD j 0) i=true→L i=true:=by
 intro j
 induction j using Nat.strongRecOn with
 | _ j ih =>
  intro o ho hed i hi
  obtain ⟨pre,p1,⟨suf,p2⟩,p3⟩:=(qsG ops []).2 j o ho
  simp only [List.length_nil,Nat.zero_add] at p1 p3
  rw [p3] at hi
  rcases quI _ _ hi with h | ⟨e,he,hb,h | h⟩
  ·simp at h
  ·rw [h];exact hed e he hb
  ·have hon:=hed e he hb
   have hlt:e.on < j:=by
    rcases Nat.lt_or_ge e.on j with h' | h'
    ·exact h'
    ·rw [List.getD_eq_getElem?_getD,List.getElem?_eq_none (by omega)] at h;simp at h
   have hpre:pre.getD e.on 0=(xV ops []).getD e.on 0:=by
    rw [p2,List.getD_eq_getElem?_getD,List.getD_eq_getElem?_getD,List.getElem?_append_left (by omega)]
   rw [hpre] at h
   have hlen:e.on < ops.length:=by
    have:=(List.getElem?_eq_some_iff.1 ho).1;omega
   exact ih e.on hlt _ (List.getElem?_eq_getElem hlen) (hcl _ _ (List.getElem?_eq_getElem hlen) hon) i h
theorem qn0:∀ {l:List Oper} {i:Nat},qrE i l=true→∀ k o,l[k]? = some o→∀ e∈o.after.toList,Region.binds .any e=true→e.on < i+k
 | [],_,_,k,o,h=>by simp at h
 | o :: l,i,h,k,o',hk=>by
  simp only [qrE,Bool.and_eq_true] at h
  cases k with
  | zero =>
   simp only [List.getElem?_cons_zero,Option.some.injEq] at hk
   subst hk
   intro e he hb
   have:=List.all_eq_true.1 h.1 e he
   simpa [hb] using this
  | succ k =>
   simp only [List.getElem?_cons_succ] at hk
   intro e he hb
   have:=qn0 h.2 k o' hk e he hb
   omega
end Yp
namespace Yp
open Go
variable {P : Program}
section
variable {K : Kp} {w0 : World} {E : Env} {nt : Nat} {ops : Array Oper} {tr : List Ev}
def lt' (j:Nat):Nat→Bool:=fun i=>decide (i < j)
def le' (j:Nat):Nat→Bool:=fun i=>decide (i≤j)
def Lof (listed:Array Bool):Nat→Bool:=fun i=>listed.getD i false
theorem qCj {listed:Array Bool} {j:Nat} (hj:j < listed.size) (i:Nat):Lof (listed.setIfInBounds j true) i=(decide (i=j) || Lof listed i):=by
 unfold Lof
 by_cases h:i=j
 ·subst h;simp [hj]
 ·simp [Array.getElem?_setIfInBounds_ne (Ne.symm h),h]
structure Fix (E:Env) (nt:Nat) (ops:Array Oper) (tr:List Ev) (g0:Nat→PV) (B0:Nat→Blk):Prop where
 is:tr.map (·.i)=List.range' 0 ops.size
 os:tr.map (·.o)=ops.toList
 valid:Valid E ops.toList nt true tr g0 B0
 slots:qpT ops.toList (xV ops.toList []) 0 ops.toList []=true
 edges:qrE 0 ops.toList=true
 ord:tr.Pairwise fun e1 e2=>∀ id,Hits e1 e2 id→Nat.testBit ((xV ops.toList []).getD e2.i 0) e1.i=true
variable {g0 : Nat → PV} {B0 : Nat → Blk}
theorem Fix.len (f:Fix E nt ops tr g0 B0):tr.length=ops.size:=by
 have:=congrArg List.length f.is
 simpa using this
theorem Fix.at (f:Fix E nt ops tr g0 B0) {k:Nat} {e:Ev} (h:tr[k]? = some e):e.i=k∧ops.toList[k]? = some e.o:=by
 have h1:(tr.map (·.i))[k]? = some e.i:=by rw [List.getElem?_map,h];rfl
 have h2:(tr.map (·.o))[k]? = some e.o:=by rw [List.getElem?_map,h];rfl
 rw [f.is,List.getElem?_range'] at h1
 ·rw [f.os] at h2
  refine ⟨?_,h2⟩
  simp at h1;exact h1.symm
 ·have:=(List.getElem?_eq_some_iff.1 h).1
  rw [f.len] at this;exact this
theorem Fix.mem (f:Fix E nt ops tr g0 B0) {e:Ev} (h:e∈tr):tr[e.i]? = some e:=by
 obtain ⟨k,hk,rfl⟩:=List.getElem_of_mem h
 have:=f.at (List.getElem?_eq_getElem hk)
 rw [this.1];exact List.getElem?_eq_getElem hk
theorem Fix.split (f:Fix E nt ops tr g0 B0) {e:Ev} (h:e∈tr):∃ pre post,tr=pre++e :: post∧(∀ x∈pre,x.i < e.i)∧(∀ x∈post,e.i < x.i):=by
 have hg:=f.mem h
 obtain ⟨hlt,he⟩:=List.getElem?_eq_some_iff.1 hg
 refine ⟨tr.take e.i,tr.drop (e.i+1), ?_,fun x hx => ?_,fun x hx => ?_⟩
 ·have h1:tr.drop e.i=e :: tr.drop (e.i+1):=by
   rw [List.drop_eq_getElem_cons hlt,he]
  rw [← h1,List.take_append_drop]
 ·obtain ⟨k,hk,rfl⟩:=List.getElem_of_mem hx
  rw [List.length_take] at hk
  have:tr[k]? = some (tr.take e.i)[k]:=by
   rw [List.getElem_take];exact List.getElem?_eq_getElem (by omega)
  rw [(f.at this).1];omega
 ·obtain ⟨k,hk,rfl⟩:=List.getElem_of_mem hx
  rw [List.length_drop] at hk
  have:tr[e.i+1+k]? = some (tr.drop (e.i+1))[k]:=by
   rw [List.getElem_drop];exact List.getElem?_eq_getElem (by omega)
  rw [(f.at this).1];omega
theorem Fix.hits (f:Fix E nt ops tr g0 B0) {e1 e2:Ev} (h1:e1∈tr) (h2:e2∈tr) (hlt:e1.i < e2.i) {id:Nat} (h:Hits e1 e2 id):Nat.testBit ((xV ops.toList []).getD e2.i 0) e1.i=true:=by
 obtain ⟨pre,post,hs,hpre,hpost⟩:=f.split h1
 have hp:=f.ord
 rw [hs] at hp h2
 rcases List.mem_append.1 h2 with h2 | h2
 ·have:=hpre e2 h2;omega
 ·rcases List.mem_cons.1 h2 with rfl | h2
  ·omega
  ·have:=(List.pairwise_append.1 hp).2.1
   exact (List.pairwise_cons.1 this).1 e2 h2 id h
theorem Fix.slot (f:Fix E nt ops tr g0 B0) {e1 e2:Ev} (h1:e1∈tr) (h2:e2∈tr) (hlt:e1.i < e2.i) {t:Nat}
  (h:(e1.o.dst=some t∧(Nat.testBit (jH ops.toList e2.o) t=true∨e2.o.dst=some t))∨(Nat.testBit (jH ops.toList e1.o) t=true∧e2.o.dst=some t)) :
  Nat.testBit ((xV ops.toList []).getD e2.i 0) e1.i=true:=by
 have hc:=(qnI f.slots).2 e1.i e2.i e1.o e2.o hlt (f.at (f.mem h1)).2 (f.at (f.mem h2)).2
 simp only [Nat.zero_add] at hc
 rcases hc with ⟨c1,c2⟩ | hc
 ·exfalso
  rcases h with ⟨d1,d2⟩ | ⟨d1,d2⟩
  ·refine qzA c1 (qmG d1) ?_
   rw [Nat.testBit_or]
   rcases d2 with d2 | d2
   ·simp [d2]
   ·simp [qmG d2]
  ·exact qzA c2 d1 (qmG d2)
 ·exact hc
def Closed (ops:Array Oper) (L:Nat→Bool):Prop:=∀ i o,ops.toList[i]? = some o→L i=true→∀ e∈o.after.toList,Region.binds .any e=true→L e.on=true
structure Next (ops:Array Oper) (L:Nat→Bool) (e:Ev):Prop where
 un:L e.i=false
 ed:∀ x∈e.o.after.toList,Region.binds .any x=true→L x.on=true
theorem Next.elder (f:Fix E nt ops tr g0 B0) {L:Nat→Bool} (hcl:Closed ops L) {e x:Ev} (he:e∈tr) (hn:Next ops L e) (hb:Nat.testBit ((xV ops.toList []).getD e.i 0) x.i=true):L x.i=true :=
 qsF hcl e.i e.o (f.at (f.mem he)).2 hn.ed x.i hb
theorem Next.younger (f:Fix E nt ops tr g0 B0) {L:Nat→Bool} (hcl:Closed ops L) {e x:Ev} (hx:x∈tr) (hn:Next ops L e) (hb:Nat.testBit ((xV ops.toList []).getD x.i 0) e.i=true):L x.i=false:=by
 cases hL:L x.i with
 | false=>rfl
 | true =>
  have:=qsF hcl x.i x.o (f.at (f.mem hx)).2 (hcl _ _ (f.at (f.mem hx)).2 hL) e.i hb
  rw [hn.un] at this;cases this
theorem qKz {e:Ev} {pre post:List Ev} (hpre:∀ x∈pre,x.i < e.i) (hpost:∀ x∈post,e.i < x.i) (t:Nat):stT (pre++e :: post) (lt' e.i) g0 t=stT pre (fun _=>true) g0 t:=by
 rw [qAY]
 have h1:∀ (g:Nat→PV),stT (e :: post) (lt' e.i) g t=g t:=fun g=>by
  have:stT (e :: post) (lt' e.i) g t=stT (e :: post) (fun _=>false) g t:=wA _ rfl fun x hx _=>by
   rcases List.mem_cons.1 hx with rfl | hx
   ·simp [lt']
   ·have:=hpost x hx;simp only [lt',decide_eq_false_iff_not];omega
  rw [this]
  have:∀ (l:List Ev) (g:Nat→PV),stT l (fun _=>false) g=g:=by
   intro l;induction l with
   | nil=>intro g;rfl
   | cons y l ih=>intro g;simp only [stT,cond];exact ih g
  rw [this]
 rw [h1]
 exact wA pre rfl fun x hx _=>by have:=hpre x hx;simp [lt',this]
theorem qIk {e:Ev} {pre post:List Ev} (hpre:∀ x∈pre,x.i < e.i) (hpost:∀ x∈post,e.i < x.i) (id:Nat):stB (pre++e :: post) (lt' e.i) B0 id=stB pre (fun _=>true) B0 id:=by
 rw [qAZ]
 have h1:∀ (B:Nat→Blk),stB (e :: post) (lt' e.i) B id=B id:=fun B=>by
  have:stB (e :: post) (lt' e.i) B id=stB (e :: post) (fun _=>false) B id:=wB _ rfl fun x hx _=>by
   rcases List.mem_cons.1 hx with rfl | hx
   ·simp [lt']
   ·have:=hpost x hx;simp only [lt',decide_eq_false_iff_not];omega
  rw [this]
  have:∀ (l:List Ev) (B:Nat→Blk),stB l (fun _=>false) B=B:=by
   intro l;induction l with
   | nil=>intro g;rfl
   | cons y l ih=>intro g;simp only [stB,cond];exact ih g
  rw [this]
 rw [h1]
 exact wB pre rfl fun x hx _=>by have:=hpre x hx;simp [lt',this]
theorem qKC (f:Fix E nt ops tr g0 B0) {L:Nat→Bool} (hcl:Closed ops L) {e:Ev} (he:e∈tr) (hn:Next ops L e) {t:Nat} (ht:Nat.testBit (jH ops.toList e.o) t=true):stT tr L g0 t=stT tr (lt' e.i) g0 t:=by
 refine wA tr rfl fun x hx hd => ?_
 rcases Nat.lt_trichotomy x.i e.i with h | h | h
 ·have:=hn.elder f hcl he (f.slot hx he h (.inl ⟨hd, .inl ht⟩))
  simp [lt',h,this]
 ·rw [h,hn.un];simp [lt']
 ·have:=hn.younger f hcl hx (f.slot he hx h (.inr ⟨ht,hd⟩))
  rw [this];simp only [lt'];symm;simp;omega
theorem qIo (f:Fix E nt ops tr g0 B0) {L:Nat→Bool} (hcl:Closed ops L) {e:Ev} (he:e∈tr) (hn:Next ops L e) {id:Nat} (ht:id∈e.rb∨id∈e.wr.map (·.1)):stB tr L B0 id=stB tr (lt' e.i) B0 id:=by
 refine wB tr rfl fun x hx hd => ?_
 rcases Nat.lt_trichotomy x.i e.i with h | h | h
 ·have:=hn.elder f hcl he (f.hits hx he h (id:=id) (ht.elim (fun h => .inl ⟨hd,h⟩) (fun h => .inr (.inl ⟨hd,h⟩))))
  simp [lt',h,this]
 ·rw [h,hn.un];simp [lt']
 ·have:=hn.younger f hcl hx (f.hits he hx h (id:=id) (ht.elim (fun h => .inr (.inr (.inl ⟨h,hd⟩))) (fun h => .inr (.inl ⟨h,hd⟩))))
  rw [this];simp only [lt'];symm;simp;omega
def add (L:Nat→Bool) (j:Nat):Nat→Bool:=fun i=>decide (i=j) || L i
theorem qLw (f:Fix E nt ops tr g0 B0) {L:Nat→Bool} (hcl:Closed ops L) {e:Ev} (he:e∈tr) (hn:Next ops L e):putT (stT tr L g0) e.o.dst e.v=stT tr (add L e.i) g0:=by
 funext t
 by_cases hd:e.o.dst=some t
 ·have h1:stT tr (add L e.i) g0 t=stT tr (le' e.i) g0 t:=wA tr rfl fun x hx hxd=>by
   rcases Nat.lt_trichotomy x.i e.i with h | h | h
   ·have:=hn.elder f hcl he (f.slot hx he h (.inl ⟨hxd, .inr hd⟩))
    simp [le',add,Nat.le_of_lt h,this]
   ·rw [h];simp [le',add]
   ·have:=hn.younger f hcl hx (f.slot he hx h (.inl ⟨hd, .inr hxd⟩))
    have h2:¬ x.i=e.i:=by omega
    have h3:¬ x.i≤e.i:=by omega
    simp [le',add,this,h2,h3]
  rw [h1]
  obtain ⟨pre,post,hs,hpre,hpost⟩:=f.split he
  have h2:∀ (g:Nat→PV),stT (e :: post) (le' e.i) g t=e.v:=fun g=>by
   simp only [stT]
   have:stT post (le' e.i) (bif le' e.i e.i then putT g e.o.dst e.v else g) t=stT post (fun _=>false) (bif le' e.i e.i then putT g e.o.dst e.v else g) t:=wA _ rfl fun x hx _=>by
    have:=hpost x hx;simp only [le',decide_eq_false_iff_not];omega
   rw [this]
   have:∀ (l:List Ev) (g:Nat→PV),stT l (fun _=>false) g=g:=by
    intro l;induction l with
    | nil=>intro g;rfl
    | cons y l ih=>intro g;simp only [stT,cond];exact ih g
   rw [this]
   simp [le',hd,putT,updT]
  have h3:stT tr (le' e.i) g0 t=e.v:=by rw [hs,qAY];exact h2 _
  rw [h3]
  simp [hd,putT,updT]
 ·have h1:putT (stT tr L g0) e.o.dst e.v t=stT tr L g0 t:=by
   cases hdd:e.o.dst with
   | none=>rfl
   | some d=>simp only [putT,updT];rw [if_neg];intro h;exact hd (by rw [hdd,h])
  rw [h1]
  refine wA tr rfl fun x hx hxd => ?_
  by_cases hxe:x.i=e.i
  ·have:x=e:=by
    have h1:=f.mem hx;have h2:=f.mem he
    rw [hxe,h2] at h1;exact (Option.some.inj h1).symm
   subst this
   exact absurd hxd hd
  ·simp [add,hxe]
theorem qLx (f:Fix E nt ops tr g0 B0) {L:Nat→Bool} (hcl:Closed ops L) {e:Ev} (he:e∈tr) (hn:Next ops L e):zL (stB tr L B0) e.wr=stB tr (add L e.i) B0:=by
 funext id
 by_cases hd:id∈e.wr.map (·.1)
 ·have h1:stB tr (add L e.i) B0 id=stB tr (le' e.i) B0 id:=wB tr rfl fun x hx hxd=>by
   rcases Nat.lt_trichotomy x.i e.i with h | h | h
   ·have:=hn.elder f hcl he (f.hits hx he h (id:=id) (.inr (.inl ⟨hxd,hd⟩)))
    simp [le',add,Nat.le_of_lt h,this]
   ·rw [h];simp [le',add]
   ·have:=hn.younger f hcl hx (f.hits he hx h (id:=id) (.inr (.inl ⟨hd,hxd⟩)))
    have h2:¬ x.i=e.i:=by omega
    have h3:¬ x.i≤e.i:=by omega
    simp [le',add,this,h2,h3]
  rw [h1]
  obtain ⟨pre,post,hs,hpre,hpost⟩:=f.split he
  have h2:∀ (B:Nat→Blk),stB (e :: post) (le' e.i) B id=qgT e.wr id (B id):=fun B=>by
   simp only [stB]
   have:stB post (le' e.i) (bif le' e.i e.i then zL B e.wr else B) id=stB post (fun _=>false) (bif le' e.i e.i then zL B e.wr else B) id:=wB _ rfl fun x hx _=>by
    have:=hpost x hx;simp only [le',decide_eq_false_iff_not];omega
   rw [this]
   have:∀ (l:List Ev) (g:Nat→Blk),stB l (fun _=>false) g=g:=by
    intro l;induction l with
    | nil=>intro g;rfl
    | cons y l ih=>intro g;simp only [stB,cond];exact ih g
   rw [this]
   simp [le',zL]
  have h3:stB tr (le' e.i) B0 id=qgT e.wr id (stB pre (le' e.i) B0 id):=by rw [hs,qAZ];exact h2 _
  rw [h3]
  exact qC9 _ _ _ hd
 ·have h1:zL (stB tr L B0) e.wr id=stB tr L B0 id:=wF _ _ hd
  rw [h1]
  refine wB tr rfl fun x hx hxd => ?_
  by_cases hxe:x.i=e.i
  ·have:x=e:=by
    have h1:=f.mem hx;have h2:=f.mem he
    rw [hxe,h2] at h1;exact (Option.some.inj h1).symm
   subst this
   exact absurd hxd hd
  ·simp [add,hxe]
theorem qq5 {o:Oper} {j d:Nat} {want:Bool} (h1:o.guard=some (j,want)) (h2:(ops.toList[j]?).bind (·.dst)=some d):Nat.testBit (jH ops.toList o) d=true:=by
 have hb:∀ (l:List Nat),d∈l→Nat.testBit (bits l) d=true:=by
  intro l h
  induction l with
  | nil=>simp at h
  | cons x l ih =>
   simp only [bits,Nat.testBit_or,Bool.or_eq_true]
   rcases List.mem_cons.1 h with rfl | h
   ·left;simp
   ·right;exact ih h
 refine hb _ (List.mem_append_right _ ?_)
 rw [h1]
 simp only [qLi]
 cases ho:ops.toList[j]? with
 | none=>rw [ho] at h2;cases h2
 | some o' =>
  rw [ho] at h2
  have h2:o'.dst=some d:=h2
  simp [h2]
theorem qKx (hT:qfZ P E.T) (hC:qm9 P E.T E.C) (hMp:qfM P E.M) (hG:Fns P E K w0) (hI:∀ f g,E.I f=some g→qd0 P f g) (f:Fix E nt ops tr g0 B0) {Q:Exit→Act→World→Prop} {φ0:Pl} {M0:Nat→Prop} {wb:World} {a0:Act} (hnt:nt≤a0.tmps.size)
  (hq:∀ φ' M' w' a',Mem K w0 φ' M' (stB tr (fun _=>true) B0) w'→Ext φ0 M0 B0 wb φ' M' (stB tr (fun _=>true) B0) w'→Slots φ' (view w' M') (stB tr (fun _=>true) B0) (stT tr (fun _=>true) g0) a'→Keep (dsts ops.toList) a0 a'→Q .normal a' w') :
  ∀ (fuel:Nat) (listed:Array Bool) (φ:Pl) (M:Nat→Prop) (w:World) (a:Act),listed.size=ops.size→Closed ops (Lof listed)→((List.range ops.size).filter fun i => !(Lof listed i)).length≤fuel →
   Mem K w0 φ M (stB tr (Lof listed) B0) w→Ext φ0 M0 B0 wb φ M (stB tr (Lof listed) B0) w→Slots φ (view w M) (stB tr (Lof listed) B0) (stT tr (Lof listed) g0) a→Keep (dsts ops.toList) a0 a→wpAny P .any ops Q fuel listed a w:=by
 -- all are listed where none is ready
 have all:∀ listed:Array Bool,listed.size=ops.size→Region.ready .any ops listed=[]→∀ i,i < ops.size→Lof listed i=true:=by
  intro listed hls hr i
  induction i using Nat.strongRecOn with
  | _ i ih =>
   intro hi
   cases hL:Lof listed i with
   | true=>rfl
   | false =>
    exfalso
    have hmem:i∈Region.ready .any ops listed:=by
     rw [mem_ready]
     refine ⟨?_,ops[i],Array.getElem?_eq_getElem hi,fun e he hb => ?_⟩
     ·unfold Lof at hL
      have:i < listed.size:=by omega
      simp [this] at hL ⊢; exact hL
     ·have hlt:=qn0 f.edges i ops[i] (by rw [Array.getElem?_toList];exact Array.getElem?_eq_getElem hi) e (by simpa using he) hb
      exact ih e.on (by omega) (by omega)
    rw [hr] at hmem;cases hmem
 have fin:∀ (listed:Array Bool) (φ:Pl) (M:Nat→Prop) (w:World) (a:Act),listed.size=ops.size→Region.ready .any ops listed=[]→Mem K w0 φ M (stB tr (Lof listed) B0) w→Ext φ0 M0 B0 wb φ M (stB tr (Lof listed) B0) w →
   Slots φ (view w M) (stB tr (Lof listed) B0) (stT tr (Lof listed) g0) a→Keep (dsts ops.toList) a0 a→Q .normal a w:=by
  intro listed φ M w a hls hr hm he hs hk
  have hL:=all listed hls hr
  have hin:∀ x∈tr,Lof listed x.i=true:=fun x hx=>hL _ (by
   have:=(List.getElem?_eq_some_iff.1 (f.mem hx)).1
   rw [f.len] at this;exact this)
  have eB:stB tr (Lof listed) B0=stB tr (fun _=>true) B0:=funext fun id=>wB tr rfl fun x hx _=>hin x hx
  have eT:stT tr (Lof listed) g0=stT tr (fun _=>true) g0:=funext fun t=>wA tr rfl fun x hx _=>hin x hx
  rw [eB] at hm he hs;rw [eT] at hs
  exact hq φ M w a hm he hs hk
 intro fuel
 induction fuel with
 | zero =>
  intro listed φ M w a hls hcl hcnt hm he hs hk
  have hr:Region.ready .any ops listed=[]:=by
   rw [List.eq_nil_iff_forall_not_mem]
   intro i hi
   obtain ⟨h0,o,ho,_⟩:=mem_ready.1 hi
   have hlt:i < ops.size:=(Array.getElem?_eq_some_iff.1 ho).1
   have:i∈(List.range ops.size).filter fun i => !(Lof listed i):=by
    rw [List.mem_filter]
    refine ⟨List.mem_range.2 hlt, ?_⟩
    unfold Lof
    have:i < listed.size:=by omega
    simp [this] at h0 ⊢; exact h0
   rw [List.length_eq_zero_iff.1 (Nat.le_zero.1 hcnt)] at this
   cases this
  exact ⟨hr,fin listed φ M w a hls hr hm he hs hk⟩
 | succ fuel ih =>
  intro listed φ M w a hls hcl hcnt hm he hs hk
  refine ⟨fun hr=>fin listed φ M w a hls hr hm he hs hk,fun j hj => ?_⟩
  obtain ⟨h0,o,ho,hed⟩:=mem_ready.1 hj
  have hlt:j < ops.size:=(Array.getElem?_eq_some_iff.1 ho).1
  have hjl:j < listed.size:=by omega
  have hLj:Lof listed j=false:=by unfold Lof;simp [hjl] at h0 ⊢; exact h0
  -- its event
  obtain ⟨e,he1⟩:∃ e,tr[j]? = some e:=⟨_,List.getElem?_eq_getElem (by rw [f.len];exact hlt)⟩
  have hmem:e∈tr:=List.mem_of_getElem? he1
  obtain ⟨hei,heo⟩:=f.at he1
  have hoe:e.o=o:=by rw [Array.getElem?_toList,ho] at heo;exact (Option.some.inj heo).symm
  have hn:Next ops (Lof listed) e:=⟨by rw [hei];exact hLj,fun x hx hb=>by
   rw [hoe] at hx;exact hed x (by simpa using hx) hb⟩
  obtain ⟨pre,post,hsp,hpre,hpost⟩:=f.split hmem
  have hv:=f.valid
  rw [hsp] at hv
  obtain ⟨hdn,hev⟩:=Valid.at pre hv
  have hTx:∀ t,Nat.testBit (jH ops.toList e.o) t=true→stT tr (Lof listed) g0 t=stT pre (fun _=>true) g0 t:=fun t ht=>by
   rw [qKC f hcl hmem hn ht,← qKz (g0:=g0) hpre hpost t,← hsp]
  have hBx:∀ id,id∈e.rb→stB tr (Lof listed) B0 id=stB pre (fun _=>true) B0 id:=fun id hid=>by
   rw [qIo f hcl hmem hn (.inl hid),← qIk (B0:=B0) hpre hpost id,← hsp]
  have hev':(Wants ops.toList e.o (stT tr (Lof listed) g0)∧∃ v0,Same v0 e.v∧(opP E e.o).go (stT tr (Lof listed) g0) (stB tr (Lof listed) B0)=some (v0,zL (stB tr (Lof listed) B0) e.wr)) ∨
    (Skips ops.toList e.o (stT tr (Lof listed) g0)∧e.v = .undef∧e.wr=[]) ∨
    (Wants ops.toList e.o (stT tr (Lof listed) g0)∧∃ v0,Same v0 e.v∧qAP E ops.toList e.o (stT tr (Lof listed) g0) (stB tr (Lof listed) B0) v0 e.rb e.wr):=by
   rcases hev with ⟨hw,v0,hs0,_,hloc⟩ | ⟨hw,hv1,hv2,_⟩ | ⟨_,hw,v0,hs0,hin⟩
   ·left
    refine ⟨?_,v0,hs0,hloc rfl _ _ hTx hBx⟩
    rcases hw with hw | ⟨j',want,d,g1,g2,g3⟩
    ·exact .inl hw
    ·exact .inr ⟨j',want,d,g1,g2,by rw [hTx d (qq5 g1 g2)];exact g3⟩
   ·right;left
    obtain ⟨j',want,d,g1,g2,g3⟩:=hw
    exact ⟨⟨j',want,d,g1,g2,by rw [hTx d (qq5 g1 g2)];exact g3⟩,hv1,hv2⟩
   ·right;right
    refine ⟨?_,v0,hs0,hin.congr hTx fun id hid => ?_⟩
    ·rcases hw with hw | ⟨j',want,d,g1,g2,g3⟩
     ·exact .inl hw
     ·exact .inr ⟨j',want,d,g1,g2,by rw [hTx d (qq5 g1 g2)];exact g3⟩
    ·rw [qIo f hcl hmem hn hid,← qIk (B0:=B0) hpre hpost id,← hsp]
  have hL':Lof (listed.setIfInBounds j true)=add (Lof listed) e.i:=by funext i;rw [qCj hjl,hei];rfl
  have hnt':nt≤a.tmps.size:=by rw [hk.1];exact hnt
  have hgo:=qLh (P:=P) (Kn:=wpAny P .any ops Q fuel (listed.setIfInBounds j true)) (Q:=Q) hT hC hMp hG hI hdn hnt' hm hs hev' fun φ' M' w' x m1 e1 s1=>by
   rw [qLx f hcl hmem hn,← hL'] at m1 e1 s1
   rw [qLw f hcl hmem hn,← hL'] at s1
   refine ih (listed.setIfInBounds j true) φ' M' w' _ (by simpa using hls) ?_ ?_ m1 (he.trans e1) s1 (hk.sub (Keep.put (D:=dsts ops.toList) fun d hd => ?_) (fun t h=>h) (fun t h=>h))
   ·intro i oi hoi hLi x hx hb
    rw [qCj hjl] at hLi ⊢
    simp only [Bool.or_eq_true,decide_eq_true_eq] at hLi ⊢
    right
    rcases hLi with hLi | hLi
    ·subst hLi
     have:oi=e.o:=by rw [heo] at hoi;exact (Option.some.inj hoi).symm
     subst this
     exact hn.ed x hx hb
    ·exact hcl i oi hoi hLi x hx hb
   ·have hlen:((List.range ops.size).filter fun i => !(Lof (listed.setIfInBounds j true) i)).length < ((List.range ops.size).filter fun i => !(Lof listed i)).length:=by
     have hsub:((List.range ops.size).filter fun i => !(Lof (listed.setIfInBounds j true) i))=((List.range ops.size).filter fun i => !(Lof listed i)).filter fun i => !(decide (i=j)):=by
      rw [List.filter_filter]
      congr 1
      funext i
      rw [qCj hjl,Bool.not_or]
     rw [hsub]
     have hj':j∈((List.range ops.size).filter fun i => !(Lof listed i)):=by rw [List.mem_filter];exact ⟨List.mem_range.2 hlt,by rw [hLj];rfl⟩
     exact List.length_filter_lt_length_iff_exists.2 ⟨j,hj',by simp⟩
    omega
   ·have:∀ (l:List Oper),e.o∈l→d∈dsts l:=by
     intro l hl
     induction l with
     | nil=>cases hl
     | cons y l ih =>
      rcases List.mem_cons.1 hl with h | h
      ·exact (qdV y l).1 d (by rw [← h];exact hd)
      ·exact (qdV y l).2 d (ih h)
    exact this _ (List.mem_of_getElem? heo)
  unfold wpOp
  rw [ho]
  simp only
  rw [hoe] at hgo
  split
  ·rename_i hw;rw [if_pos hw] at hgo;exact .inl hgo
  ·rename_i hw;rw [if_neg hw] at hgo;exact hgo
theorem qFh (hT:qfZ P E.T) (hC:qm9 P E.T E.C) (hMp:qfM P E.M) (hG:Fns P E K w0) (hI:∀ f g,E.I f=some g→qd0 P f g) (hmix:P.follows .mixedOrders=true) {nv:Nat} (hnt:nt≤1000000) {id:Nat} {draw:Bool} {s:St} {ρ:Type} {k:St→R ρ} {r:ρ}
  (h:((qaR E ops.toList nv nt draw true 0 ops.toList s []).bind k).ev=some r) {φ:Pl} {M:Nat→Prop} {w:World} {a:Act} (hm:Mem K w0 φ M s.getB w) (hs:Slots φ (view w M) s.getB s.getT a) (hna:nt≤a.tmps.size)
  {Q:Exit→Act→World→Prop}
  (hq:∀ s2 φ' M' w' a',(k s2).ev=some r→Fr (dsts ops.toList) s s2→Mem K w0 φ' M' s2.getB w'→Ext φ M s.getB w φ' M' s2.getB w'→Slots φ' (view w' M') s2.getB s2.getT a'→Keep (dsts ops.toList) a a'→Q .normal a' w') :
  (Code.region id ops draw).wp P Q a w:=by
 obtain ⟨s2,⟨tr,s1,h1,h2,h3,h4,h5,h6,h7,h8⟩,hk⟩:=qE4 hnt _ _ _ _ _ k r h
 have fin:∀ φ' M' w' a',Mem K w0 φ' M' (stB tr (fun _=>true) s.getB) w'→Ext φ M s.getB w φ' M' (stB tr (fun _=>true) s.getB) w'→Slots φ' (view w' M') (stB tr (fun _=>true) s.getB) (stT tr (fun _=>true) s.getT) a'→Keep (dsts ops.toList) a a'→Q .normal a' w':=by
  intro φ' M' w' a' m1 e1 s1 k1
  rw [← h5] at m1 e1 s1;rw [← h4] at s1
  exact hq s2 φ' M' w' a' hk h7 (by rw [h6.2];exact m1) (by rw [h6.2];exact e1) (s1.weak h6) k1
 cases draw with
 | false =>
  refine wp_region_list ?_
  have:=qEI (P:=P) hT hC hMp hG hI (ops:=ops) (Q:=Q) tr h3 hm hs hna (by rw [h2];exact fin)
  rw [h2] at this
  exact this
 | true =>
  obtain ⟨hr,ho⟩:=h8 rfl
  simp only [qHk,Bool.and_eq_true] at hr
  refine wp_region_any hmix ?_
  have f:Fix E nt ops tr s.getT s.getB:=⟨by simpa using h1,h2,h3,hr.2,hr.1,qt5 (by simpa using ho)⟩
  have hL0:Lof (Array.replicate ops.size false)=fun _=>false:=by
   funext i;unfold Lof
   by_cases hi:i < ops.size <;> simp [hi]
  have nB:∀ (l:List Ev) (B:Nat→Blk),stB l (fun _=>false) B=B:=by
   intro l;induction l with
   | nil=>intro g;rfl
   | cons y l ih=>intro g;simp only [stB,cond];exact ih g
  have nT:∀ (l:List Ev) (g:Nat→PV),stT l (fun _=>false) g=g:=by
   intro l;induction l with
   | nil=>intro g;rfl
   | cons y l ih=>intro g;simp only [stT,cond];exact ih g
  have hm':Mem K w0 φ M s.getB { w with drawn:=w.drawn+1 }:={ hm with keep:=hm.keep,blks:=hm.blks }
  refine qKx (P:=P) (K:=K) (w0:=w0) hT hC hMp hG hI f hna fin ops.size _ φ M { w with drawn:=w.drawn+1 } a (by simp) ?_ ?_ ?_ ?_ ?_ (Keep.refl _ _)
  ·intro i o _ h;rw [hL0] at h;cases h
  ·exact Nat.le_trans (List.length_filter_le _ _) (by simp)
  ·rw [hL0,nB];exact hm'
  ·rw [hL0,nB];exact ⟨fun _ _=>rfl,View.Le.refl _,fun _=>Blk.Le.refl _⟩
  ·rw [hL0,nB,nT];exact hs
end
end Yp
namespace Yp
open Go
variable {P : Program}
section
variable {K : Kp} {w0 w : World} {φ : Pl} {M : Nat → Prop} {B B' : Nat → Blk} {g : Nat → PV} {H : View} {E : Env}
theorem qeZ {α β:Type} {s:St} {m:PM α} {k:α×St→R β} {r:β} (h:((PM.here s m).bind k).ev=some r) :
  ∃ a wr,m.go s.getT s.getB=some (a,zL s.getB wr)∧(k (a,s.j8 wr)).ev=some r:=by
 unfold PM.here at h
 rw [R.qN] at h
 obtain ⟨a,e,h1,h2⟩:=PM.qIq s m 0 [] [] _ r h
 simp only [St.qf1,R.bind] at h2
 exact ⟨a,e.wr,h1,h2⟩
def Taken (φ:Pl) (M:Nat→Prop) (B:Nat→Blk) (U:Nat→Prop):Prop:=(∀ j,(B j).mut=true→∀ z,φ j=some z→¬ U z.1)∧∀ b,U b→M b
theorem Taken.le {B':Nat→Blk} {U:Nat→Prop} (h:Taken φ M B U) (hB:∀ j,(B' j).mut=true→(B j).mut=true):Taken φ M B' U:=⟨fun j hj=>h.1 j (hB j hj),h.2⟩
theorem Taken.thin {M':Nat→Prop} {U:Nat→Prop} (h:Taken φ M B U) (ht:Thin φ M B M' B'):Taken φ M' B' U:=by
 refine ⟨fun j hj=>h.1 j (ht.2 j hj),fun b hb=>Classical.byContradiction fun hn => ?_⟩
 obtain ⟨j,hj,z,hz,rfl⟩:=ht.1 b (h.2 b hb) hn
 exact h.1 j hj z hz hb
theorem qxM.le {lo:Nat→Prop} {U:Nat→Prop} {M':Nat→Prop} {e:Ty} {l:List e.den} {v:Value} {b:Nat} (h:qxM w M lo U e l v b) (hv:(view w M).Le (view w M')) (hM:M' b):qxM w M' lo U e l v b:=by
 obtain ⟨o,c,el,fz,cap,h1,h2,h3,h4,h5,h6,h7,h8,h9,h10⟩:=h
 exact ⟨o,c,el,fz,cap,h1,h2,h3,h4,h5,h6.mono hv,h7,hM,h9,h10⟩
theorem qu5 (hm:Mem K w0 φ M B w) {id:Nat} {e:Ty} {l:List e.den} (hB:B id = .ob e l) {off n:Nat} {v:Value} (hle:off+n≤l.length) (hr:xX φ id e off n v) {U:Nat→Prop} (hU:Taken φ M B U) :
  Mem K w0 φ M (updB B id .gone) w∧Ext φ M B w φ M (updB B id .gone) w ∧
   ((cut l off n=[]∧(∃ a,v = .slice a 0 0)∧Taken φ M (updB B id .gone) U)∨∃ b,qxM w M (fun b=>¬ K.k b) U e (cut l off n) v b∧Taken φ M (updB B id .gone) fun j=>U j∨j=b):=by
 obtain ⟨m1,e1⟩:=hm.gone id
 refine ⟨m1,e1, ?_⟩
 have hmut:∀ j,((updB B id .gone) j).mut=true→j≠id∧(B j).mut=true:=fun j hj=>by
  by_cases h:j=id
  ·subst h;rw [qK] at hj;cases hj
  ·rw [qO _ _ h] at hj;exact ⟨h,hj⟩
 have hbl:=hm.blks id
 rw [hB] at hbl
 rcases hr with ⟨h1,a,h2⟩ | ⟨b,o,m,cap,h1,h2,h3,h4,h5⟩
 ·left
  exact ⟨List.length_eq_zero_iff.1 (by rw [zI hle];exact h1),⟨a,h2⟩,hU.le fun j hj=>(hmut j hj).2⟩
 ·rcases hbl.2 with ⟨g1,_⟩ | ⟨b',o',c,el,fz,g1,g2,g3,g4,g5⟩
  ·rw [g1] at h1;cases h1
  ·rw [h1] at g1;cases g1
   right
   refine ⟨b,⟨o+off*e.size,c,el,fz,cap,by rw [zI hle];exact h2,by rw [zI hle];exact h3,h4,by rw [Nat.add_mul] at h5;omega,g2,⟨?_,fun i x hi => ?_⟩,g4,g5, ?_,hU.1 id (by rw [hB];rfl) _ h1⟩,⟨fun j hj z hz hc => ?_,fun j hj=>hj.elim (hU.2 j) (fun h=>h ▸ g5)⟩⟩
   ·rw [zI hle]
    have:=g3.1
    have h6:(off+n)*e.size≤l.length*e.size:=Nat.mul_le_mul_right _ hle
    rw [Nat.add_mul] at h6;omega
   ·have hin:=qjY hi
    rw [zI hle] at hin
    rw [qrI hin] at hi
    have:=g3.2 (off+i) x hi
    rwa [Nat.add_mul,← Nat.add_assoc] at this
   ·exact hm.own id (by rw [hB];rfl) _ h1
   ·obtain ⟨hji,hjm⟩:=hmut j hj
    rcases hc with hc | hc
    ·exact hU.1 j hjm z hz hc
    ·exact hm.sep j id hji hjm (by rw [hB];rfl) z _ hz h1 hc
theorem qKy {r:RTy} {v:PV} {x:r.den} {u:Value} (h:(toR r v).go g B=some (x,B')) (hm:Mem K w0 φ M B w) (hr:RepP φ (view w M) B v u) {U:Nat→Prop} (hU:Taken φ M B U) :
  ∃ M' U',Mem K w0 φ M' B' w∧Ext φ M B w φ M' B' w∧Taken φ M' B' U'∧(∀ b,U b→U' b) ∧
   ∀ {rs:List RTy} {y:denR rs} {vs:List Value} {M'':Nat→Prop},(view w M').Le (view w M'')→(∀ b,U' b→M'' b)→vA w M'' (fun b=>¬ K.k b) rs y vs U'→vA w M'' (fun b=>¬ K.k b) (r :: rs) (x,y) (u :: vs) U:=by
 cases r with
 | im t =>
  obtain ⟨cs,hu,M',m1,e1,t1,_,f1⟩:=qpQ h hm hr
  exact ⟨M',U,m1,e1,hU.thin t1,fun _ h=>h,fun hv _ hrest=>⟨cs,_,by rw [hu],(f1 rfl).mono hv,hrest⟩⟩
 | cl e =>
  replace h:(clP e v).go g B=some (x,B'):=h
  cases v <;> try (cases h;done)
  ·cases h
   simp only [RepP,RepQ,RepS] at hr;subst hr
   exact ⟨M,U,hm,Ext.refl _ _ _ _,hU,fun _ h=>h,fun hv _ hrest=>⟨none,_,rfl,RepC.jT.2 ⟨none,0,rfl,Nat.le_refl _,by unfold maxLen;omega, .inl rfl⟩,hrest⟩⟩
  ·obtain ⟨hc,rfl⟩:=qV h
   obtain ⟨ee,rfl⟩:=qX hc
   subst ee
   obtain ⟨a,rfl,hC⟩:=hr
   exact ⟨M,U,hm,Ext.refl _ _ _ _,hU,fun _ h=>h,fun hv _ hrest=>⟨a,_,rfl,hC.mono hv,hrest⟩⟩
 | ow e =>
  replace h:(qG8 e v).go g B=some (x,B'):=h
  have fin:∀ {id:Nat} {l:List e.den} {off n:Nat},B id = .ob e l→off+n≤l.length→xX φ id e off n u→∃ M' U',Mem K w0 φ M' (updB B id .gone) w∧Ext φ M B w φ M' (updB B id .gone) w∧Taken φ M' (updB B id .gone) U'∧(∀ b,U b→U' b) ∧
    ∀ {rs:List RTy} {y:denR rs} {vs:List Value} {M'':Nat→Prop},(view w M').Le (view w M'')→(∀ b,U' b→M'' b)→vA w M'' (fun b=>¬ K.k b) rs y vs U'→vA w M'' (fun b=>¬ K.k b) (.ow e :: rs) ((cut l off n:List e.den),y) (u :: vs) U:=by
   intro id l off n hB hle ho
   obtain ⟨m1,e1,h3⟩:=qu5 hm hB hle ho hU
   rcases h3 with ⟨h3,h4,h5⟩ | ⟨b,h3,h5⟩
   ·exact ⟨M,U,m1,e1,h5,fun _ h=>h,fun hv _ hrest=>⟨_,_,rfl, .inl ⟨h3,h4,hrest⟩⟩⟩
   ·exact ⟨M,_,m1,e1,h5,fun _ h => .inl h,fun hv hM hrest=>⟨_,_,rfl, .inr ⟨b,h3.le hv (hM b (.inr rfl)),hrest⟩⟩⟩
  cases v <;> try (cases h;done)
  case nil =>
   cases h
   simp only [RepP,RepQ,RepS] at hr;subst hr
   exact ⟨M,U,hm,Ext.refl _ _ _ _,hU,fun _ h=>h,fun hv _ hrest=>⟨_,_,rfl, .inl ⟨rfl,⟨none,rfl⟩,hrest⟩⟩⟩
  case own id ne =>
   simp only [qG8,PM.go] at h
   have hs:RepS φ (view w M) B (.own id ne) u:=hr
   simp only [RepS] at hs
   generalize hB:B id=bl at h hs
   cases bl <;> try (cases h;done)
   rename_i e' l
   obtain ⟨y,B1,h1,h2⟩:=PM.qF h
   obtain ⟨hc,hB1⟩:=qV h1
   obtain ⟨ee,rfl⟩:=qX hc
   subst ee
   cases h2
   rw [hB1]
   have:=fin hB (off:=0) (n:=l.length) (by omega) hs.1
   rw [qm8] at this
   exact this
  case osl id off n =>
   simp only [qG8,PM.go] at h
   have hs:RepS φ (view w M) B (.osl id off n) u:=hr
   simp only [RepS] at hs
   generalize hB:B id=bl at h hs
   cases bl <;> try (cases h;done)
   rename_i e' l
   obtain ⟨y,B1,h1,h2⟩:=PM.qF h
   obtain ⟨hc,hB1⟩:=qV h1
   obtain ⟨ee,rfl⟩:=qX hc
   subst ee
   cases h2
   rw [hB1]
   exact fin hB hs.1 hs.2
theorem qBe:∀ {rs:List RTy} {vs:List PV} {us:List Value} {s:St} {M:Nat→Prop} {ρ:Type} {k:denR rs→R ρ} {r:ρ} {U:Nat→Prop},((rets s rs vs).bind k).ev=some r →
  Mem K w0 φ M s.getB w→PVs φ (view w M) s.getB vs us→Taken φ M s.getB U→∃ x M' B',(k x).ev=some r∧Mem K w0 φ M' B' w∧(view w M).Le (view w M')∧(∀ b,U b→M' b)∧vA w M' (fun b=>¬ K.k b) rs x us U
 | [],[],[],s,M,ρ,k,r,U,h,hm,_,hU=>⟨(),M,_,h,hm,View.Le.refl _,hU.2,rfl⟩
 | [],[],_ :: _,s,M,ρ,k,r,U,h,hm,hp,hU=>hp.elim
 | [],_ :: _,_,s,M,ρ,k,r,U,h,hm,hp,hU=>by cases h
 | _ :: _,[],_,s,M,ρ,k,r,U,h,hm,hp,hU=>by cases h
 | _ :: _,_ :: _,[],s,M,ρ,k,r,U,h,hm,hp,hU=>hp.elim
 | t :: rs,v :: vs,u :: us,s,M,ρ,k,r,U,h,hm,hp,hU=>by
  simp only [rets] at h
  rw [R.qN] at h
  obtain ⟨x,wr,h1,h2⟩:=qeZ h
  simp only at h2
  rw [R.qN] at h2
  obtain ⟨M1,U1,m1,e1,t1,hle,hres⟩:=qKy h1 hm hp.1 hU
  rw [← St.xK] at m1 e1 t1
  obtain ⟨y,M2,B2,q1,q2,q3,q4,q5⟩:=qBe h2 m1 (hp.2.ext e1) t1
  exact ⟨(x,y),M2,B2,q1,q2,e1.vw.trans q3,fun b hb=>q4 b (hle b hb),hres q3 q4 q5⟩
def qf5 (P:Program) (tmps:Array Value) (w:World):List ResultVar→List Value→Prop
 | [],us=>us=[]
 | .tmp t :: rs,us=>∃ us',us=tmps.getD t undef :: us'∧qf5 P tmps w rs us'
 | .cell a t :: rs,us=>∃ ad u us',us=u :: us'∧tmps.getD a undef = .pointer (some ad)∧(loadVar t ad).run P w = .ok u w∧qf5 P tmps w rs us'
theorem qp1 (hT:qfZ P E.T):∀ {l:List ResultVar} {s:St} {ρ:Type} {k:List PV→R ρ} {r:ρ} {a:Act},((resV E s l).bind k).ev=some r→Mem K w0 φ M s.getB w→Slots φ (view w M) s.getB s.getT a →
  ∃ vs us,(k vs).ev=some r∧PVs φ (view w M) s.getB vs us∧qf5 P a.tmps w l us
 | [],s,ρ,k,r,a,h,hm,hs=>⟨[],[],h,trivial,rfl⟩
 | rv :: l,s,ρ,k,r,a,h,hm,hs=>by
  simp only [resV] at h
  rw [R.qN] at h
  obtain ⟨v,wr,h1,h2⟩:=qeZ h
  simp only at h2
  rw [R.qN] at h2
  have hTT:(s.j8 wr).getT=s.getT:=St.v3 s wr
  cases rv with
  | tmp t =>
   simp only [resD,PM.go,Option.some.injEq,Prod.mk.injEq] at h1
   obtain ⟨rfl,hB⟩:=h1
   obtain ⟨vs,us,h3,h4,h5⟩:=qp1 hT h2 hm hs
   exact ⟨s.getT t :: vs,a.tmps.getD t undef :: us,h3,⟨hs t,h4⟩,us,rfl,h5⟩
  | cell ad t =>
   simp only [resD] at h1
   obtain ⟨ty,ht,h1⟩:=jJ h1
   simp only [PM.go] at h1
   have hp:=hs ad
   obtain ⟨hB,u,g1,g2⟩:=qIz (hT _ _ ht) h1 hm hp
   obtain ⟨vs,us,h3,h4,h5⟩:=qp1 hT h2 hm hs
   have hptr:∃ q,a.tmps.getD ad undef = .pointer (some q):=by
    generalize s.getT ad=pv at h1 hp
    cases pv <;> try (cases h1;done)
    case ptr id p =>
     simp only [qy7,PM.go] at h1
     have hp:RepS φ (view w M) s.getB (.ptr id p) (a.tmps.getD ad undef):=hp
     simp only [RepS] at hp
     generalize s.getB id=bl at h1 hp
     cases bl <;> try (cases h1;done)
     obtain ⟨b,o,n,off,t',_,_,e⟩:=hp;exact ⟨_,e⟩
    case opt id i p =>
     simp only [qy7,PM.go] at h1
     have hp:RepS φ (view w M) s.getB (.opt id i p) (a.tmps.getD ad undef):=hp
     simp only [RepS] at hp
     generalize s.getB id=bl at h1 hp
     cases bl <;> try (cases h1;done)
     all_goals
      obtain ⟨_,b,o,n,off,t',_,_,e⟩:=hp;exact ⟨_,e⟩
    case ipt e l i p =>
     obtain ⟨_,b,o,n,off,t',_,_,e⟩:=hp;exact ⟨_,e⟩
   obtain ⟨q,hq⟩:=hptr
   rw [hq] at g1
   refine ⟨v :: vs,u :: us,h3,⟨g2,h4⟩,q,u,us,rfl,hq, ?_,h5⟩
   simpa [Instr.loadAt,Instr.sureAddr] using g1
theorem qcS {fn:Func} {tmps:Array Value} {us:List Value} (h:qf5 P tmps w fn.results.toList us):(results fn tmps).run P w = .ok (vrOf us) w:=by
 have key:∀ (f:ResultVar→Sem Value),(∀ t,f (.tmp t)=pure (tmps.getD t undef))→(∀ a t,f (.cell a t)=do loadVar t (← asAddr (tmps.getD a undef))) →
   ∀ (l:List ResultVar) (us:List Value),qf5 P tmps w l us→(l.mapM f).run P w=Result.ok us w:=by
  intro f f1 f2 l
  induction l with
  | nil=>intro us h;cases h;rfl
  | cons rv l ih =>
   intro us h
   cases rv with
   | tmp t =>
    obtain ⟨us',rfl,h⟩:=h
    simp [List.mapM_cons,ih us' h,f1]
   | cell a t =>
    obtain ⟨ad,u,us',rfl,h1,h2,h3⟩:=h
    simp only [List.mapM_cons,f2,h1,asAddr]
    simp [ih us' h3,h2]
 unfold results
 rw [Array.mapM_eq_mapM_toList]
 simp only [Sem.run_bind,Sem.run_map]
 rw [key _ (fun _=>rfl) (fun _ _=>rfl) _ _ h]
 match us with
 | []=>rfl
 | [_]=>rfl
 | _ :: _ :: _=>rfl
end
end Yp
namespace Yp
open Go
variable {P : Program}
def Stay (B B':Nat→Blk):Prop:=∀ id,((∃ t v,B id = .box t v)∨∃ s p,B id = .it s p)→B' id=B id
theorem Stay.refl (B:Nat→Blk):Stay B B:=fun _ _=>rfl
theorem Stay.trans {B B' B'':Nat→Blk} (h:Stay B B') (k:Stay B' B''):Stay B B'':=fun id hi=>by
 have h1:=h id hi
 rw [k id (by rw [h1];exact hi),h1]
theorem Stay.upd {B:Nat→Blk} {id:Nat} {e:Ty} {l:List e.den} (h:B id = .ob e l) (b:Blk):Stay B (updB B id b):=fun j hj=>by
 rw [qO]
 rintro rfl
 rw [h] at hj
 rcases hj with ⟨t,v,h⟩ | ⟨s,p,h⟩ <;> cases h
section
variable {g : Nat → PV}
theorem qHh {frz:Bool} {id:Nat} {e:Ty} {x:List e.den} {B B':Nat→Blk} (h:(rowM frz id e).go g B=some (x,B')):Stay B B':=by
 simp only [rowM,PM.go] at h
 generalize hB:B id=bl at h
 cases bl <;> try (cases h;done)
 ·obtain ⟨y,B1,h1,h2⟩:=PM.qF h
  obtain ⟨_,hB1⟩:=qV h1
  cases frz with
  | false=>cases h2;rw [hB1];exact Stay.refl _
  | true=>cases h2;rw [hB1];exact Stay.upd hB _
 ·obtain ⟨_,h1⟩:=qV h;rw [h1];exact Stay.refl _
theorem qxX {frz:Bool}:∀ {pv:PV} {t:Ty} {x:t.den} {B B':Nat→Blk},qvN pv=true→(qu4 frz pv t).go g B=some (x,B')→Stay B B':=by
 intro pv
 induction pv with
 | own id ne =>
  intro t x B B' _ h
  cases t <;> try (cases h;done)
  exact qHh h
 | osl id off n=>intro t x B B' hn;cases hn
 | two u v hu hv =>
  intro t x B B' hn h
  simp only [qvN,Bool.and_eq_true] at hn
  cases t <;> try (cases h;done)
  obtain ⟨y,B1,h1,h2⟩:=PM.qF h
  obtain ⟨z,B2,h3,h4⟩:=PM.qF h2
  cases h4
  exact (hu hn.1 h1).trans (hv hn.2 h3)
 | agg t' u hu =>
  intro t x B B' hn h
  have h':(bif Ty.is t' t then qu4 frz u t else .fail:PM t.den).go g B=some (x,B'):=h
  obtain ⟨_,h'⟩:=jU h'
  exact hu hn h'
 | sc t' y=>intro t x B B' _ h;obtain ⟨_,h1⟩:=qV h;rw [h1];exact Stay.refl _
 | kb b=>intro t x B B' _ h;obtain ⟨_,h1⟩:=qV h;rw [h1];exact Stay.refl _
 | nil=>intro t x B B' _ h;obtain ⟨_,h1⟩:=qV h;rw [h1];exact Stay.refl _
 | csl e l=>intro t x B B' _ h;obtain ⟨_,h1⟩:=qV h;rw [h1];exact Stay.refl _
 | clo f nf env=>intro t x B B' _ h;obtain ⟨_,h1⟩:=qV h;rw [h1];exact Stay.refl _
 | _=>intro t x B B' _ h;cases h
theorem qyR {e:Ty} {pv:PV} {x:List e.den} {B B':Nat→Blk} (h:(ownS e pv).go g B=some (x,B')):Stay B B':=by
 cases pv <;> try (cases h;done)
 ·obtain ⟨_,h⟩:=jU (show (bif Nat.blt 0 e.size then .ret [] else .fail:PM (List e.den)).go g B=some (x,B') from h)
  cases h;exact Stay.refl _
 ·rename_i id ne
  simp only [ownS,PM.go] at h
  generalize hB:B id=bl at h
  cases bl <;> try (cases h;done)
  obtain ⟨y,B1,h1,h2⟩:=PM.qF h
  obtain ⟨_,hB1⟩:=qV h1
  cases h2
  rw [hB1];exact Stay.upd hB _
 ·rename_i id off n
  simp only [ownS,PM.go] at h
  generalize hB:B id=bl at h
  cases bl <;> try (cases h;done)
  obtain ⟨y,B1,h1,h2⟩:=PM.qF h
  obtain ⟨_,hB1⟩:=qV h1
  cases h2
  rw [hB1];exact Stay.upd hB _
theorem qqM:∀ {sh:Sh} {pv:PV} {x:sh.den} {B B':Nat→Blk},(outS sh pv).go g B=some (x,B')→Stay B B'
 | .d t,pv,x,B,B',h=>by
  obtain ⟨hn,h⟩:=jU (show (bif qvN pv then toDM true t pv else .fail:PM t.den).go g B=some (x,B') from h)
  exact qxX (pv:=pv) hn h
 | .o _ e,pv,x,B,B',h=>qyR h
 | .p a b,pv,x,B,B',h=>by
  simp only [outS] at h
  cases hs:qCA pv with
  | none=>rw [hs] at h;cases h
  | some uw =>
   obtain ⟨u,v⟩:=uw
   rw [hs] at h
   simp only at h
   obtain ⟨y,B1,h1,h2⟩:=PM.qF h
   obtain ⟨z,B2,h3,h4⟩:=PM.qF h2
   cases h4
   exact (qqM h1).trans (qqM h3)
end
def ShF (w:World) (M:Nat→Prop) (lo:Nat→Prop):(sh:Sh)→sh.den→List Value→(Nat→Prop)→(Nat→Prop)→Prop
 | .d t,x,cs,U,U'=>RepC (view w M) t x cs∧U'=U
 | .o _ e,l,cs,U,U'=>0 < e.size∧∃ v,cs=[v]∧v.oneCell'=true∧(((l:List e.den)=[]∧(∃ a,v = .slice a 0 0)∧U'=U)∨∃ b,qxM w M lo U e l v b∧U'=fun j=>U j∨j=b)
 | .p a b,x,cs,U,U'=>∃ c1 c2 Um,cs=c1++c2∧ShF w M lo a x.1 c1 U Um∧ShF w M lo b x.2 c2 Um U'
theorem ShF.one {w:World} {M:Nat→Prop} {lo:Nat→Prop}:∀ {sh:Sh} {x:sh.den} {cs:List Value} {U U':Nat→Prop},ShF w M lo sh x cs U U'→∀ v∈cs,v.oneCell'=true
 | .d t,x,cs,U,U',h=>h.1.one
 | .o _ e,l,cs,U,U',h=>by obtain ⟨_,v,rfl,h1,_⟩:=h;intro w hw;simp at hw;rw [hw];exact h1
 | .p a b,x,cs,U,U',h=>by
  obtain ⟨c1,c2,Um,rfl,h1,h2⟩:=h
  intro v hv
  exact (List.mem_append.1 hv).elim (h1.one v) (h2.one v)
theorem ShF.sub {w:World} {M:Nat→Prop} {lo:Nat→Prop}:∀ {sh:Sh} {x:sh.den} {cs:List Value} {U U':Nat→Prop},ShF w M lo sh x cs U U'→∀ b,U b→U' b
 | .d t,x,cs,U,U',h=>by intro b hb;rw [h.2];exact hb
 | .o _ e,l,cs,U,U',h=>by
  obtain ⟨_,v,_,_,h⟩:=h
  intro b hb
  rcases h with ⟨_,_,h⟩ | ⟨_,_,h⟩ <;> rw [h]
  ·exact hb
  ·exact .inl hb
 | .p a b,x,cs,U,U',h=>by obtain ⟨c1,c2,Um,_,h1,h2⟩:=h;exact fun b hb=>h2.sub b (h1.sub b hb)
theorem ShF.le {w:World} {M M':Nat→Prop} {lo:Nat→Prop} (hv:(view w M).Le (view w M')):∀ {sh:Sh} {x:sh.den} {cs:List Value} {U U':Nat→Prop},ShF w M lo sh x cs U U'→(∀ b,U' b→M' b)→ShF w M' lo sh x cs U U'
 | .d t,x,cs,U,U',h,_=>⟨h.1.mono hv,h.2⟩
 | .o _ e,l,cs,U,U',h,hM=>by
  obtain ⟨h0,v,h1,h2,h⟩:=h
  refine ⟨h0,v,h1,h2, ?_⟩
  rcases h with h | ⟨b,h,h3⟩
  ·exact .inl h
  ·exact .inr ⟨b,h.le hv (hM b (by rw [h3];exact .inr rfl)),h3⟩
 | .p a b,x,cs,U,U',h,hM=>by
  obtain ⟨c1,c2,Um,h0,h1,h2⟩:=h
  exact ⟨c1,c2,Um,h0,h1.le hv (fun b hb=>hM b (h2.sub b hb)),h2.le hv hM⟩
section
variable {K : Kp} {w0 w : World} {φ : Pl} {M : Nat → Prop} {B B' : Nat → Blk} {g : Nat → PV}
theorem qIY {H:View} {pv u v:PV} {ta tb:Ty} {cs:List Value} (h:qCA pv=some (u,v)) (hr:RepT φ H B pv (.pair ta tb) cs):∃ c1 c2,cs=c1++c2∧RepT φ H B u ta c1∧RepT φ H B v tb c2:=by
 cases pv <;> try (cases h;done)
 ·rename_i t x
  cases t <;> try (cases h;done)
  cases h
  obtain ⟨e,hC⟩:=hr
  cases e
  obtain ⟨c1,c2,h0,h1,h2⟩:=RepC.jI.1 hC
  exact ⟨c1,c2,h0,⟨rfl,h1⟩,rfl,h2⟩
 ·cases h
  exact hr
theorem qFC {e:Ty} {pv:PV} {x:List e.den} {v:Value} (h:(ownS e pv).go g B=some (x,B')) (hm:Mem K w0 φ M B w) (hr:RepS φ (view w M) B pv v) {U:Nat→Prop} (hU:Taken φ M B U) :
  0 < e.size∧v.oneCell'=true∧∃ U',Mem K w0 φ M B' w∧Ext φ M B w φ M B' w∧Taken φ M B' U'∧((x=[]∧(∃ a,v = .slice a 0 0)∧U'=U)∨∃ b,qxM w M (fun b=>¬ K.k b) U e x v b∧U'=fun j=>U j∨j=b):=by
 cases pv <;> try (cases h;done)
 ·obtain ⟨h0,h⟩:=jU (show (bif Nat.blt 0 e.size then .ret [] else .fail:PM (List e.den)).go g B=some (x,B') from h)
  cases h
  simp only [RepS] at hr;subst hr
  exact ⟨by simpa using h0,rfl,U,hm,Ext.refl _ _ _ _,hU, .inl ⟨rfl,⟨none,rfl⟩,rfl⟩⟩
 ·rename_i id ne
  simp only [ownS,PM.go] at h
  have hbl:=hm.blks id
  simp only [RepS] at hr
  generalize hB:B id=bl at h hr hbl
  cases bl <;> try (cases h;done)
  rename_i e' l
  obtain ⟨y,B1,h1,h2⟩:=PM.qF h
  obtain ⟨hc,hB1⟩:=qV h1
  obtain ⟨ee,rfl⟩:=qX hc
  subst ee
  cases h2
  rw [hB1]
  obtain ⟨m1,e1,h3⟩:=qu5 hm hB (off:=0) (n:=l.length) (by omega) hr.1 hU
  rw [qm8] at h3
  obtain ⟨ad,c,hv⟩:=hr.1.slice
  refine ⟨hbl.1,by rw [hv];rfl, ?_⟩
  rcases h3 with ⟨h3,h4,h5⟩ | ⟨b,h3,h5⟩
  ·exact ⟨U,m1,e1,h5, .inl ⟨h3,h4,rfl⟩⟩
  ·exact ⟨_,m1,e1,h5, .inr ⟨b,h3,rfl⟩⟩
 ·rename_i id off n
  simp only [ownS,PM.go] at h
  have hbl:=hm.blks id
  simp only [RepS] at hr
  generalize hB:B id=bl at h hr hbl
  cases bl <;> try (cases h;done)
  rename_i e' l
  obtain ⟨y,B1,h1,h2⟩:=PM.qF h
  obtain ⟨hc,hB1⟩:=qV h1
  obtain ⟨ee,rfl⟩:=qX hc
  subst ee
  cases h2
  rw [hB1]
  obtain ⟨m1,e1,h3⟩:=qu5 hm hB hr.1 hr.2 hU
  obtain ⟨ad,c,hv⟩:=hr.2.slice
  refine ⟨hbl.1,by rw [hv];rfl, ?_⟩
  rcases h3 with ⟨h3,h4,h5⟩ | ⟨b,h3,h5⟩
  ·exact ⟨U,m1,e1,h5, .inl ⟨h3,h4,rfl⟩⟩
  ·exact ⟨_,m1,e1,h5, .inr ⟨b,h3,rfl⟩⟩
theorem qBj:∀ {sh:Sh} {pv:PV} {x:sh.den} {M:Nat→Prop} {B B':Nat→Blk} {cs:List Value} {U:Nat→Prop},(outS sh pv).go g B=some (x,B')→Mem K w0 φ M B w→RepT φ (view w M) B pv (shTy sh) cs→Taken φ M B U →
  ∃ M' U',Mem K w0 φ M' B' w∧Ext φ M B w φ M' B' w∧Taken φ M' B' U'∧ShF w M' (fun b=>¬ K.k b) sh x cs U U'
 | .d t,pv,x,M,B,B',cs,U,h,hm,hr,hU=>by
  obtain ⟨_,h⟩:=jU (show (bif qvN pv then toDM true t pv else .fail:PM t.den).go g B=some (x,B') from h)
  obtain ⟨M',m1,e1,t1,_,f1⟩:=qEJ (pv:=pv) h hm hr
  exact ⟨M',U,m1,e1,hU.thin t1,f1 rfl,rfl⟩
 | .o _ e,pv,x,M,B,B',cs,U,h,hm,hr,hU=>by
  have h':(ownS e pv).go g B=some (x,B'):=h
  have hS:∃ v,cs=[v]∧RepS φ (view w M) B pv v:=by
   cases pv <;> try (cases h';done)
   all_goals (obtain ⟨_,v,h1,_,h2⟩:=hr;exact ⟨v,h1,h2⟩)
  obtain ⟨v,rfl,hS⟩:=hS
  obtain ⟨h0,h1,U',m1,e1,t1,h2⟩:=qFC h' hm hS hU
  exact ⟨M,U',m1,e1,t1,h0,v,rfl,h1,h2⟩
 | .p a b,pv,x,M,B,B',cs,U,h,hm,hr,hU=>by
  simp only [outS] at h
  cases hs:qCA pv with
  | none=>rw [hs] at h;cases h
  | some uw =>
   obtain ⟨u,v⟩:=uw
   rw [hs] at h
   simp only at h
   obtain ⟨y,B1,h1,h2⟩:=PM.qF h
   obtain ⟨z,B2,h3,h4⟩:=PM.qF h2
   cases h4
   obtain ⟨c1,c2,rfl,r1,r2⟩:=qIY hs hr
   obtain ⟨M1,U1,m1,e1,t1,f1⟩:=qBj h1 hm r1 hU
   obtain ⟨M2,U2,m2,e2,t2,f2⟩:=qBj h3 m1 (e1.T r2) t1
   exact ⟨M2,U2,m2,e1.trans e2,t2,c1,c2,U1,rfl,f1.le e2.vw (fun b hb=>t2.2 b (f2.sub b hb)),f2⟩
end
def EF (φ:Pl) (w:World) (M:Nat→Prop) (B:Nat→Blk) (lo:Nat→Prop) (a:Act):(es:List En)→denE es→(Nat→Prop)→(Nat→Prop)→Prop
 | [],_,U,U'=>U'=U
 | .sl i t :: r,x,U,U'=>(∃ cs,RepC (view w M) t x.1 cs∧a.tmps.getD i undef=mkV t cs)∧EF φ w M B lo a r x.2 U U'
 | .ow i _ e :: r,x,U,U'=>0 < e.size∧∃ Um,(((x.1:List e.den)=[]∧(∃ ad,a.tmps.getD i undef = .slice ad 0 0)∧Um=U)∨∃ b,qxM w M lo U e x.1 (a.tmps.getD i undef) b∧Um=fun j=>U j∨j=b)∧EF φ w M B lo a r x.2 Um U'
 | .bk id e :: r,x,U,U'=>B id = .ob e x.1∧EF φ w M B lo a r x.2 U U'
 | .bx id t sh :: r,x,U,U'=>(∃ v,B id = .box t v)∧shTy sh=t∧∃ b o c el fz Um,φ id=some (b,o,Array.size c)∧w.heap[b]? = some (.cells c el fz)∧o+t.size≤c.size∧okFz c fz∧M b∧ShF w M lo sh x.1 (seg c o t.size) U Um∧EF φ w M B lo a r x.2 Um U'
 | .it id _ :: r,x,U,U'=>(∃ s,B id = .it s x.1)∧EF φ w M B lo a r x.2 U U'
theorem EF.sub {φ:Pl} {w:World} {M:Nat→Prop} {B:Nat→Blk} {lo:Nat→Prop} {a:Act}:∀ {es:List En} {x:denE es} {U U':Nat→Prop},EF φ w M B lo a es x U U'→∀ b,U b→U' b
 | [],_,U,U',h=>by intro b hb;have h:U'=U:=h;rw [h];exact hb
 | .sl i t :: r,x,U,U',h=>h.2.sub
 | .ow i _ e :: r,x,U,U',h=>by
  obtain ⟨_,Um,h1,h2⟩:=h
  intro b hb
  refine h2.sub b ?_
  rcases h1 with ⟨_,_,h1⟩ | ⟨_,_,h1⟩ <;> rw [h1]
  ·exact hb
  ·exact .inl hb
 | .bk id e :: r,x,U,U',h=>h.2.sub
 | .bx id t sh :: r,x,U,U',h=>by
  obtain ⟨_,_,b,o,c,el,fz,Um,_,_,_,_,_,h1,h2⟩:=h
  exact fun b hb=>h2.sub b (h1.sub b hb)
 | .it id s :: r,x,U,U',h=>h.2.sub
end Yp
namespace Yp
open Go
variable {P : Program}
section
variable {K : Kp} {w0 w : World} {φ : Pl} {M : Nat → Prop} {B B' : Nat → Blk} {g : Nat → PV} {a : Act}
theorem Stay.box {B B':Nat→Blk} (h:Stay B B') {id:Nat} {t:Ty} {v:PV} (hb:B id = .box t v):B' id = .box t v:=(h id (.inl ⟨t,v,hb⟩)).trans hb
theorem Stay.it {B B':Nat→Blk} (h:Stay B B') {id:Nat} {s:List UInt8} {p:Nat} (hb:B id = .it s p):B' id = .it s p:=(h id (.inr ⟨s,p,hb⟩)).trans hb
theorem qjT:∀ {es:List En} {s:St} {M:Nat→Prop} {U:Nat→Prop} {ρ:Type} {k:denE es×St→R ρ} {r:ρ},((outL s es).bind k).ev=some r→Mem K w0 φ M s.getB w→Slots φ (view w M) s.getB s.getT a→Taken φ M s.getB U →
  ∃ y s2 M2 U',(k (y,s2)).ev=some r∧Mem K w0 φ M2 s2.getB w∧Ext φ M s.getB w φ M2 s2.getB w∧s2.getT=s.getT∧Fr [] s s2∧Stay s.getB s2.getB∧Taken φ M2 s2.getB U'∧EF φ w M2 s2.getB (fun b=>¬ K.k b) a es y U U'
 | [],s,M,U,ρ,k,r,h,hm,hs,hU=>⟨(),s,M,U,h,hm,Ext.refl _ _ _ _,rfl,Fr.refl _ _,Stay.refl _,hU,rfl⟩
 | .bk id e :: es,s,M,U,ρ,k,r,h,hm,hs,hU=>by
  simp only [outL,isBk,cond_true] at h
  rw [R.qN] at h
  obtain ⟨y,s2,M2,U',h1,m2,e2,t2,f2,st2,tk2,ef2⟩:=qjT h hm hs hU
  rw [R.qN] at h1
  simp only [outE] at h1
  obtain ⟨x,wr,h3,h4⟩:=qeZ h1
  simp only [PM.go] at h3
  generalize hB:s2.getB id=bl at h3
  cases bl <;> try (cases h3;done)
  rename_i e' l
  obtain ⟨hc,hB2⟩:=qV h3
  obtain ⟨ee,rfl⟩:=qX hc
  subst ee
  rw [← St.xK] at hB2
  refine ⟨(l,y),s2.j8 wr,M2,U',h4,by rw [hB2];exact m2,by rw [hB2];exact e2,by rw [St.v3];exact t2,(f2.trans (Fr.j8 wr [])).mono (by simp),by rw [hB2];exact st2,by rw [hB2];exact tk2, ?_⟩
  rw [hB2]
  exact ⟨hB,ef2⟩
 | .sl i t :: es,s,M,U,ρ,k,r,h,hm,hs,hU=>by
  simp only [outL,isBk,cond_false] at h
  rw [R.qN] at h
  simp only [outE] at h
  obtain ⟨x,wr,h1,h2⟩:=qeZ h
  simp only at h2
  rw [R.qN] at h2
  simp only [PM.go] at h1
  obtain ⟨hno,h1⟩:=jU (show (bif qvN (s.getT i) then toDM true t (s.getT i) else .fail:PM t.den).go _ _=some (x,_) from h1)
  obtain ⟨cs,hv,M1,m1,e1,t1,_,f1⟩:=qpQ h1 hm (hs i)
  have hst:=qxX (pv:=s.getT i) hno h1
  rw [← St.xK] at m1 e1 t1 hst
  obtain ⟨y,s2,M2,U',h3,m2,e2,t2,f2,st2,tk2,ef2⟩:=qjT h2 m1 (by rw [St.v3];exact hs.ext e1) (hU.thin t1)
  exact ⟨(x,y),s2,M2,U',h3,m2,e1.trans e2,t2.trans (St.v3 s wr),((Fr.j8 wr []).trans f2).mono (by simp),hst.trans st2,tk2,⟨cs,(f1 rfl).mono e2.vw,hv⟩,ef2⟩
 | .ow i id e :: es,s,M,U,ρ,k,r,h,hm,hs,hU=>by
  simp only [outL,isBk,cond_false] at h
  rw [R.qN] at h
  simp only [outE] at h
  obtain ⟨x,wr,h1,h2⟩:=qeZ h
  simp only at h2
  rw [R.qN] at h2
  simp only [PM.go] at h1
  have hS:RepS φ (view w M) s.getB (s.getT i) (a.tmps.getD i undef):=by
   have hr:=hs i
   generalize s.getT i=pv at h1 hr
   cases pv <;> try (cases h1;done)
   all_goals exact hr
  obtain ⟨h0,hone,U1,m1,e1,t1,f1⟩:=qFC h1 hm hS hU
  have hst:=qyR h1
  rw [← St.xK] at m1 e1 t1 hst
  obtain ⟨y,s2,M2,U',h3,m2,e2,t2,f2,st2,tk2,ef2⟩:=qjT h2 m1 (by rw [St.v3];exact hs.ext e1) t1
  refine ⟨(x,y),s2,M2,U',h3,m2,e1.trans e2,t2.trans (St.v3 s wr),((Fr.j8 wr []).trans f2).mono (by simp),hst.trans st2,tk2,h0,U1, ?_,ef2⟩
  rcases f1 with f1 | ⟨b,f1,f3⟩
  ·exact .inl f1
  ·exact .inr ⟨b,f1.le e2.vw (tk2.2 b (ef2.sub b (by rw [f3];exact .inr rfl))),f3⟩
 | .bx id t sh :: es,s,M,U,ρ,k,r,h,hm,hs,hU=>by
  simp only [outL,isBk,cond_false] at h
  rw [R.qN] at h
  simp only [outE] at h
  obtain ⟨x,wr,h1,h2⟩:=qeZ h
  simp only at h2
  rw [R.qN] at h2
  simp only [PM.go] at h1
  have hbl:=hm.blks id
  generalize hB:s.getB id=bl at h1 hbl
  cases bl <;> try (cases h1;done)
  rename_i t' v
  obtain ⟨hc,h1⟩:=jU h1
  simp only [Bool.and_eq_true] at hc
  have e1:=jV hc.1;subst e1
  have hsh:=jV hc.2
  obtain ⟨b,o,c,el,fz,g1,g2,g3,g4,g5,g6⟩:=hbl
  obtain ⟨M1,U1,m1,e1,t1,f1⟩:=qBj h1 hm (by rw [hsh];exact g4) hU
  have hst:=qqM h1
  rw [← St.xK] at m1 e1 t1 hst
  obtain ⟨y,s2,M2,U',h3,m2,e2,t2,f2,st2,tk2,ef2⟩:=qjT h2 m1 (by rw [St.v3];exact hs.ext e1) t1
  have hB2:s2.getB id = .box t' v:=(hst.trans st2).box hB
  have hM2:M2 b:=by
   have:=m2.blks id
   rw [hB2] at this
   obtain ⟨b',o',c',el',fz',q1,_,_,_,_,q6⟩:=this
   rw [g1] at q1
   simp only [Option.some.injEq,Prod.mk.injEq] at q1
   rw [q1.1];exact q6
  exact ⟨(x,y),s2,M2,U',h3,m2,e1.trans e2,t2.trans (St.v3 s wr),((Fr.j8 wr []).trans f2).mono (by simp),hst.trans st2,tk2,⟨v,hB2⟩,hsh,b,o,c,el,fz,U1,g1,g2,g3,g5,hM2,
   f1.le e2.vw (fun b hb=>tk2.2 b (ef2.sub b hb)),ef2⟩
 | .it id str :: es,s,M,U,ρ,k,r,h,hm,hs,hU=>by
  simp only [outL,isBk,cond_false] at h
  rw [R.qN] at h
  simp only [outE] at h
  obtain ⟨x,wr,h1,h2⟩:=qeZ h
  simp only at h2
  rw [R.qN] at h2
  simp only [PM.go] at h1
  generalize hB:s.getB id=bl at h1
  rcases bl with _ | _ | _ | _ | _ | ⟨str',p⟩ | _
  ·cases h1
  ·cases h1
  ·cases h1
  ·cases h1
  ·cases h1
  ·have h1':=Option.some.inj (show some ((p:Nat),s.getB)=some ((x:Nat),zL s.getB wr) from h1)
   have hx:p=x:=congrArg Prod.fst h1'
   have hB1:s.getB=zL s.getB wr:=congrArg Prod.snd h1'
   rw [← St.xK] at hB1
   obtain ⟨y,s2,M2,U',h3,m2,e2,t2,f2,st2,tk2,ef2⟩:=qjT h2 (by rw [← hB1];exact hm) (by rw [St.v3,← hB1];exact hs) (by rw [← hB1];exact hU)
   rw [← hB1] at e2 st2
   exact ⟨(x,y),s2,M2,U',h3,m2,e2,t2.trans (St.v3 s wr),((Fr.j8 wr []).trans f2).mono (by simp),st2,tk2,⟨str',by rw [← hx];exact st2.it hB⟩,ef2⟩
  ·cases h1
theorem Blk.Le.trans {a b c:Blk} (h:a.Le b) (k:b.Le c):a.Le c:=by
 cases a <;> cases b <;> cases c <;> simp only [Blk.Le] at h k ⊢ <;> first | exact h.elim | exact k.elim | trivial | exact h.trans k | exact ⟨h.1.trans k.1,h.2.trans k.2⟩ | exact ⟨h.trans k.1,k.2⟩ | (obtain ⟨h1,h2⟩:=h;obtain ⟨rfl,h4⟩:=k;exact ⟨by rw [h1,h4],h2⟩)
def Held (φ:Pl) (B:Nat→Blk) (Uf A:Nat→Prop):Prop:=∀ j,(B j).mut=true→∀ z,φ j=some z→¬ Uf z.1∨A z.1
theorem qAN (hm:Mem K w0 φ M B w) {id:Nat} (hid:B id = .new) {e:Ty} (hpos:0 < e.size) {l:List e.den} {v:Value} {U U' Uf A:Nat→Prop}
  (h:(l=[]∧(∃ ad,v = .slice ad 0 0)∧U'=U)∨∃ b,qxM w M (fun b=>¬ K.k b) U e l v b∧U'=fun j=>U j∨j=b) (hUf:∀ b,U' b→Uf b) (hA:∀ b,A b→U' b→U b) (hH:Held φ B Uf A) :
  ∃ φ',Mem K w0 φ' M (updB B id (.ob e l)) w∧Ext φ M B w φ' M (updB B id (.ob e l)) w∧RepS φ' (view w M) (updB B id (.ob e l)) (.own id false) v∧(∀ j,j≠id→φ' j=φ j)∧Held φ' (updB B id (.ob e l)) Uf (fun b=>A b∨(U' b∧¬ U b)):=by
 rcases h with ⟨rfl,⟨ad,rfl⟩,rfl⟩ | ⟨b,⟨o,c,el,fz,cap,rfl,k1,k2,k3,k4,k5,k6,k7,k8,k9⟩,rfl⟩
 ·obtain ⟨m1,e1⟩:=hm.adopt hid (.ob e []) none (fun _ y hy=>by cases hy) (fun _ y hy=>by cases hy) (fun _=>⟨hpos, .inl ⟨zW _ _ _,rfl⟩⟩)
  refine ⟨_,m1,e1, ?_,fun j hj=>yP _ _ hj,fun j hj z hz => ?_⟩
  ·simp only [RepS,qK]
   exact ⟨.inl ⟨rfl,ad,rfl⟩,fun h=>by cases h⟩
  ·by_cases hji:j=id
   ·subst hji;rw [zW] at hz;cases hz
   ·rw [qO _ _ hji] at hj;rw [yP _ _ hji] at hz
    exact (hH j hj z hz).imp (fun h=>h) .inl
 ·obtain ⟨m1,e1⟩:=hm.adopt hid (.ob e l) (some (b,o,c.size)) (fun _ y hy hk=>by cases hy;exact k8 hk) (fun _ y hy j hj z hz hc=>by
    cases hy
    have hc:z.1=b:=hc
    rcases hH j hj z hz with h | h
    ·exact h (hUf _ (.inr hc))
    ·exact k9 (by have:=hA _ h (.inr hc);rwa [hc] at this)) (fun _=>⟨hpos, .inr ⟨b,o,c,el,fz,zW _ _ _,k4,k5,k6,k7⟩⟩)
  refine ⟨_,m1,e1, ?_,fun j hj=>yP _ _ hj,fun j hj z hz => ?_⟩
  ·simp only [RepS,qK]
   exact ⟨.inr ⟨b,o,c.size,cap,zW _ _ _,by simp,k1,k2,by simpa using k3⟩,fun h=>by cases h⟩
  ·by_cases hji:j=id
   ·subst hji;rw [zW] at hz;cases hz;exact .inr (.inr ⟨.inr rfl,k9⟩)
   ·rw [qO _ _ hji] at hj;rw [yP _ _ hji] at hz
    exact (hH j hj z hz).imp (fun h=>h) .inl
theorem qyS (B:Nat→Blk):∀ (l m:List (Nat×Blk)),zL B (l++m)=zL (zL B m) l
 | [],m=>rfl
 | (i,b) :: l,m=>by rw [List.cons_append,kC,qyS B l m,kC]
theorem qGh {Uf:Nat→Prop}:∀ {sh:Sh} {x:sh.den} {cs:List Value} {U U' A:Nat→Prop} {B:Nat→Blk} {φ:Pl},Mem K w0 φ M B w→(∀ id∈qb3 sh,B id = .new)→(qb3 sh).Nodup →
  ShF w M (fun b=>¬ K.k b) sh x cs U U'→(∀ b,U' b→Uf b)→(∀ b,A b→U' b→U b)→Held φ B Uf A →
  ∃ φ' A',Mem K w0 φ' M (zL B (inS sh x).2) w∧Ext φ M B w φ' M (zL B (inS sh x).2) w∧RepT φ' (view w M) (zL B (inS sh x).2) (inS sh x).1 (shTy sh) cs ∧
   (∀ j,j ∉ qb3 sh→φ' j=φ j)∧Held φ' (zL B (inS sh x).2) Uf A'∧(∀ b,A' b→A b∨(U' b∧¬ U b))∧(inS sh x).2.map (·.1)=qb3 sh∧∀ p∈(inS sh x).2,∃ e l,p.2 = .ob e l
 | .d t,x,cs,U,U',A,B,φ,hm,hid,hnd,h,hUf,hA,hH=>⟨φ,A,hm,Ext.refl _ _ _ _,⟨rfl,h.1⟩,fun j _=>rfl,hH,fun b hb => .inl hb,rfl,fun p hp=>by simp [inS] at hp⟩
 | .o id e,x,cs,U,U',A,B,φ,hm,hid,hnd,h,hUf,hA,hH=>by
  obtain ⟨h0,v,rfl,h1,h2⟩:=h
  obtain ⟨φ',m1,e1,r1,p1,q1⟩:=qAN hm (hid id (by simp [qb3])) h0 h2 hUf hA hH
  have hB:zL B (inS (.o id e) x).2=updB B id (.ob e x):=by
   show zL B [(id, .ob e x)]=_
   rw [kC];rfl
  rw [hB]
  refine ⟨φ',_,m1,e1,⟨rfl,v,rfl,h1,r1⟩,fun j hj => ?_,q1,fun b hb=>hb,rfl,fun p hp => ?_⟩
  ·have:j≠id:=by simpa [qb3] using hj
   exact p1 j this
  ·have:p=(id, .ob e x):=by simpa [inS] using hp
   exact ⟨e,x,by rw [this]⟩
 | .p a b,x,cs,U,U',A,B,φ,hm,hid,hnd,h,hUf,hA,hH=>by
  obtain ⟨c1,c2,Um,rfl,f1,f2⟩:=h
  simp only [qb3,List.nodup_append] at hnd
  obtain ⟨n1,n2,n3⟩:=hnd
  have hUm:∀ b,Um b→U' b:=f2.sub
  have hU:∀ b,U b→Um b:=f1.sub
  obtain ⟨φ1,A1,m1,e1,r1,p1,q1,a1,k1,o1⟩:=qGh (sh:=b) hm (fun id hi=>hid id (by simp [qb3,hi])) n2 f2 hUf (fun b hb hu=>hU b (hA b hb hu)) hH
  obtain ⟨φ2,A2,m2,e2,r2,p2,q2,a2,k2,o2⟩:=qGh (sh:=a) (B:=zL B (inS b x.2).2) m1 (fun id hi=>by
   have:zL B (inS b x.2).2 id=B id:=wF _ _ (by rw [k1];exact fun hc=>n3 id hi id hc rfl)
   rw [this];exact hid id (by simp [qb3,hi])) n1 f1 (fun b hb=>hUf b (hUm b hb)) (fun b hb hu=>by
    rcases a1 b hb with h | h
    ·exact hA b h (hUm b hu)
    ·exact absurd hu h.2) q1
  have hB:zL B (inS (.p a b) x).2=zL (zL B (inS b x.2).2) (inS a x.1).2:=qyS B _ _
  rw [hB]
  refine ⟨φ2,A2,m2,e1.trans e2,⟨c1,c2,rfl,r2,r1.mono e2.pl e2.vw e2.bl⟩,fun j hj => ?_,q2,fun b' hb => ?_,by simp only [inS,List.map_append,k1,k2,qb3],fun p hp => ?_⟩
  ·simp only [qb3,List.mem_append,not_or] at hj
   exact (p2 j hj.1).trans (p1 j hj.2)
  ·rcases a2 b' hb with h | h
   ·rcases a1 b' h with h | h
    ·exact .inl h
    ·exact .inr ⟨h.1,fun hu=>h.2 (hU _ hu)⟩
   ·exact .inr ⟨hUm _ h.1,h.2⟩
  ·simp only [inS,List.mem_append] at hp
   exact hp.elim (o2 p) (o1 p)
theorem Slots.setT {H:View} {s:St} {B:Nat→Blk} (hs:Slots φ H B s.getT a) {i:Nat} {v:PV} (h:RepP φ H B v (a.tmps.getD i undef)):Slots φ H B (s.setT i v).getT a:=by
 intro t
 by_cases ht:t=i
 ·subst ht
  rcases s.qg2 t v with h' | h' <;> rw [h']
  ·exact h
  ·trivial
 ·rw [s.qe0 v ht];exact hs t
theorem recontent (hm:Mem K w0 φ M B w) {id:Nat} {t:Ty} {u v:PV} (hB:B id = .box t u) {b o:Nat} {c:Array Value} {el:TypeId} {fz:Nat×Nat} (h1:φ id=some (b,o,c.size)) (h2:w.heap[b]? = some (.cells c el fz)) (h3:o+t.size≤c.size) (h4:okFz c fz) (h5:M b)
  (hr:RepT φ (view w M) B v t (seg c o t.size)):Mem K w0 φ M (updB B id (.box t v)) w∧Ext φ M B w φ M (updB B id (.box t v)) w :=
 hm.put (by rw [hB];rfl) h1 h5 rfl rfl rfl rfl (fun _ _=>rfl) (.box t v) (by rw [hB];rfl) fun he=>⟨b,o,c,el,fz,h1,h2,h3,he.T hr,h4,h5⟩
def Ready (φ0:Pl) (B2:Nat→Blk) (φ:Pl) (B:Nat→Blk):List En→Prop
 | []=>True
 | .bk id e :: r=>(φ id=φ0 id∧∃ l,B id = .ob e l∧B2 id = .ob e l)∧Ready φ0 B2 φ B r
 | .bx id t _ :: r=>(φ id=φ0 id∧B id = .box t .bad)∧Ready φ0 B2 φ B r
 | .it id _ :: r=>(φ id=φ0 id∧∃ s p,B id = .it s p∧B2 id = .it s p)∧Ready φ0 B2 φ B r
 | _ :: r=>Ready φ0 B2 φ B r
theorem Ready.congr {φ0:Pl} {B2:Nat→Blk} {φ φ':Pl} {B B':Nat→Blk}:∀ {es:List En},Ready φ0 B2 φ B es→(∀ id∈oids es,φ' id=φ id∧B' id=B id)→Ready φ0 B2 φ' B' es
 | [],_,_=>trivial
 | .bk id e :: r,h,hq=>by
  have:=hq id (by simp [oids])
  exact ⟨by rw [this.1,this.2];exact h.1,Ready.congr h.2 fun j hj=>hq j (by simp [oids,hj])⟩
 | .bx id t sh :: r,h,hq=>by
  have:=hq id (by simp [oids])
  exact ⟨by rw [this.1,this.2];exact h.1,Ready.congr h.2 fun j hj=>hq j (by simp [oids,hj])⟩
 | .it id s :: r,h,hq=>by
  have:=hq id (by simp [oids])
  exact ⟨by rw [this.1,this.2];exact h.1,Ready.congr h.2 fun j hj=>hq j (by simp [oids,hj])⟩
 | .sl i t :: r,h,hq=>Ready.congr (es:=r) h hq
 | .ow i id e :: r,h,hq=>Ready.congr (es:=r) h hq
def Agree (B:Nat→Blk) (s:St) (es:List En):Prop:=(∀ j,j ∉ oids es→B j=s.getB j)∧∀ j s' p,B j = .it s' p→∃ p',s.getB j = .it s' p'
theorem Agree.upd {B:Nat→Blk} {s:St} {es es':List En} (h:Agree B s es) (id:Nat) (b:Blk) (hes:∀ j,j ∉ oids es'→j≠id→j ∉ oids es):Agree (updB B id b) (s.setB id b) es':=by
 refine ⟨fun j hj => ?_,fun j s' p hj => ?_⟩
 ·rw [St.qe1]
  by_cases hji:j=id
  ·subst hji;rw [qK,qK]
  ·rw [qO _ _ hji,qO _ _ hji];exact h.1 j (hes j hj hji)
 ·rw [St.qe1]
  by_cases hji:j=id
  ·subst hji;rw [qK] at hj ⊢; exact ⟨p,hj⟩
  ·rw [qO _ _ hji] at hj ⊢; exact h.2 j s' p hj
theorem Agree.over {B:Nat→Blk} {s:St} {es:List En} (h:Agree B s es):∀ (l:List (Nat×Blk)),Agree (zL B l) (s.j8 l) es
 | []=>h
 | (i,b) :: l=>by
  rw [kC]
  exact (Agree.over h l).upd i b fun j hj _=>hj
theorem quD {φ0:Pl} {B2:Nat→Blk} {Uf:Nat→Prop}:∀ {es:List En} {x:denE es} {U U' A:Nat→Prop} {s:St} {B:Nat→Blk} {φ:Pl},Mem K w0 φ M B w→Slots φ (view w M) B s.getT a→Agree B s es→(∀ id∈nids es,B id = .new)→(nids es++oids es).Nodup →
  EF φ0 w M B2 (fun b=>¬ K.k b) a es x U U'→Ready φ0 B2 φ B es→(∀ b,U' b→Uf b)→(∀ b,A b→U' b→U b)→Held φ B Uf A →
  ∃ s2 φ',(∀ (γ:Type 1) (k:St→γ),inL s es x k=k s2)∧Mem K w0 φ' M s2.getB w∧Ext φ M B w φ' M s2.getB w∧Slots φ' (view w M) s2.getB s2.getT a ∧
   (∀ id,id ∉ nids es→φ' id=φ id)∧(∃ nw,s2.w=nw++s.w∧(∀ id∈nw,id∈nids es∨id∈oids es)∧∀ id,id ∉ nw→s2.getB id=s.getB id)∧(∀ t,t ∉ qe5 es→s2.getT t=s.getT t)
 | [],x,U,U',A,s,B,φ,hm,hs,hag,_,_,_,_,_,_,_=>by
  have hB:B=s.getB:=funext fun j=>hag.1 j (by simp [oids])
  subst hB
  exact ⟨s,φ,fun _ _=>rfl,hm,Ext.refl _ _ _ _,hs,fun _ _=>rfl,⟨[],rfl,fun id h=>by simp at h,fun _ _=>rfl⟩,fun _ _=>rfl⟩
 | .sl i t :: es,x,U,U',A,s,B,φ,hm,hs,hag,hn,hnd,hef,hrd,hUf,hA,hH=>by
  obtain ⟨⟨cs,f1,f2⟩,hef⟩:=hef
  obtain ⟨s2,φ',q1,q2,q3,q4,q5,q6,q7⟩:=quD (es:=es) (s:=s.setT i (.sc t x.1)) hm (hs.setT ⟨cs,f1,f2⟩) hag hn hnd hef hrd hUf hA hH
  refine ⟨s2,φ',fun γ k => ?_,q2,q3,q4,q5,q6,fun t' ht => ?_⟩
  ·simp only [inL,inE,St.qkG];exact q1 γ k
  ·simp only [qe5,List.mem_cons,not_or] at ht
   rw [q7 t' ht.2];exact s.qe0 _ ht.1
 | .ow i id e :: es,x,U,U',A,s,B,φ,hm,hs,hag,hn,hnd,hef,hrd,hUf,hA,hH=>by
  obtain ⟨h0,Um,f1,hef⟩:=hef
  have hnd':id ∉ nids es∧id ∉ oids es∧(nids es++oids es).Nodup:=by
   simp only [nids,oids,List.cons_append,List.nodup_cons,List.mem_append,not_or] at hnd
   exact ⟨hnd.1.1,hnd.1.2,hnd.2⟩
  have hUm:=hef.sub
  have hU:∀ b,U b→Um b:=fun b hb=>by
   rcases f1 with ⟨_,_,h⟩ | ⟨_,_,h⟩
   ·rw [h];exact hb
   ·rw [h];exact .inl hb
  obtain ⟨φ1,m1,e1,r1,p1,h1⟩:=qAN hm (hn id (by simp [nids])) h0 f1 (fun b hb=>hUf b (hUm b hb)) (fun b hb hu=>hA b hb (hUm b hu)) hH
  obtain ⟨s2,φ',q1,q2,q3,q4,q5,⟨nw,q6,q6a,q6b⟩,q7⟩:=quD (es:=es) (s:=(s.setB id (.ob e x.1)).setT i (.own id false)) m1 (Slots.setT (s:=s.setB id (.ob e x.1)) (hs.ext e1) r1)
   (Agree.upd (es':=es) hag id _ fun j hj _=>hj) (fun j hj=>by
    have hji:j≠id:=fun h=>hnd'.1 (h ▸ hj)
    rw [qO _ _ hji];exact hn j (by simp [nids,hj])) hnd'.2.2 hef (Ready.congr (es:=es) hrd fun j hj=>by
    have hji:j≠id:=fun h=>hnd'.2.1 (h ▸ hj)
    exact ⟨p1 j hji,qO _ _ hji⟩) hUf (fun b hb hu=>hb.elim (fun h=>hU b (hA b h hu)) (fun h=>h.1)) h1
  refine ⟨s2,φ',fun γ k => ?_,q2,e1.trans q3,q4,fun j hj => ?_,⟨nw++[id],by rw [q6];simp [St.setT,St.setB],fun j hj => ?_,fun j hj => ?_⟩,fun t' ht => ?_⟩
  ·simp only [inL,inE,St.qkJ,St.qkG];exact q1 γ k
  ·simp only [nids,List.mem_cons,not_or] at hj
   rw [q5 j hj.2,p1 j hj.1]
  ·simp only [List.mem_append,List.mem_singleton] at hj
   rcases hj with hj | hj
   ·rcases q6a j hj with h | h
    ·exact .inl (by simp [nids,h])
    ·exact .inr (by simpa [oids] using h)
   ·exact .inl (by simp [nids,hj])
  ·simp only [List.mem_append,List.mem_singleton,not_or] at hj
   rw [q6b j hj.1]
   show (s.setB id (.ob e x.1)).getB j=s.getB j
   rw [St.qe1,qO _ _ hj.2]
  ·simp only [qe5,List.mem_cons,not_or] at ht
   rw [q7 t' ht.2];exact St.qe0 _ _ ht.1
 | .bk id e :: es,x,U,U',A,s,B,φ,hm,hs,hag,hn,hnd,hef,hrd,hUf,hA,hH=>by
  obtain ⟨f1,hef⟩:=hef
  obtain ⟨⟨_,l,g1,g2⟩,hrd⟩:=hrd
  rw [f1] at g2
  have hBB:updB B id (.ob e x.1)=B:=by
   funext j
   by_cases hj:j=id
   ·subst hj;rw [qK,g1,g2]
   ·rw [qO _ _ hj]
  have hnd':(nids es++oids es).Nodup:=by
   simp only [nids,oids] at hnd
   exact hnd.sublist (List.Sublist.append_left (List.sublist_cons_self _ _) _)
  have hag':=Agree.upd (es':=es) hag id (.ob e x.1) fun j hj hji=>by simp [oids,hj,hji]
  rw [hBB] at hag'
  obtain ⟨s2,φ',q1,q2,q3,q4,q5,⟨nw,q6,q6a,q6b⟩,q7⟩:=quD (es:=es) (s:=s.setB id (.ob e x.1)) (φ:=φ) hm hs hag' hn hnd' hef hrd hUf hA hH
  refine ⟨s2,φ',fun γ k => ?_,q2,q3,q4,q5,⟨nw++[id],by rw [q6];simp [St.setB],fun j hj => ?_,fun j hj => ?_⟩,q7⟩
  ·simp only [inL,inE,St.qkJ];exact q1 γ k
  ·simp only [List.mem_append,List.mem_singleton] at hj
   rcases hj with hj | hj
   ·exact (q6a j hj).imp (fun h=>by simpa [nids] using h) (fun h=>by simp [oids,h])
   ·exact .inr (by simp [oids,hj])
  ·simp only [List.mem_append,List.mem_singleton,not_or] at hj
   rw [q6b j hj.1,St.qe1,qO _ _ hj.2]
 | .it id str :: es,x,U,U',A,s,B,φ,hm,hs,hag,hn,hnd,hef,hrd,hUf,hA,hH=>by
  obtain ⟨⟨s',f1⟩,hef⟩:=hef
  obtain ⟨⟨_,s0,p,g1,g2⟩,hrd⟩:=hrd
  rw [f1] at g2
  cases g2
  obtain ⟨p',hsp⟩:=hag.2 id s' x.1 g1
  have hBB:updB B id (.it s' x.1)=B:=by
   funext j
   by_cases hj:j=id
   ·subst hj;rw [qK,g1]
   ·rw [qO _ _ hj]
  have hnd':(nids es++oids es).Nodup:=by
   simp only [nids,oids] at hnd
   exact hnd.sublist (List.Sublist.append_left (List.sublist_cons_self _ _) _)
  have hag':=Agree.upd (es':=es) hag id (.it s' x.1) fun j hj hji=>by simp [oids,hj,hji]
  rw [hBB] at hag'
  obtain ⟨s2,φ',q1,q2,q3,q4,q5,⟨nw,q6,q6a,q6b⟩,q7⟩:=quD (es:=es) (s:=s.setB id (.it s' x.1)) (φ:=φ) hm hs hag' hn hnd' hef hrd hUf hA hH
  refine ⟨s2,φ',fun γ k => ?_,q2,q3,q4,q5,⟨nw++[id],by rw [q6];simp [St.setB],fun j hj => ?_,fun j hj => ?_⟩,q7⟩
  ·simp only [inL,inE,hsp,St.qkJ];exact q1 γ k
  ·simp only [List.mem_append,List.mem_singleton] at hj
   rcases hj with hj | hj
   ·exact (q6a j hj).imp (fun h=>by simpa [nids] using h) (fun h=>by simp [oids,h])
   ·exact .inr (by simp [oids,hj])
  ·simp only [List.mem_append,List.mem_singleton,not_or] at hj
   rw [q6b j hj.1,St.qe1,qO _ _ hj.2]
 | .bx id t sh :: es,x,U,U',A,s,B,φ,hm,hs,hag,hn,hnd,hef,hrd,hUf,hA,hH=>by
  obtain ⟨_,hsh,b,o,c,el,fz,Um,g1,g2,g3,g4,g5,f1,hef⟩:=hef
  obtain ⟨⟨hφ,hB⟩,hrd⟩:=hrd
  simp only [nids,oids] at hn hnd
  have hnd1:(qb3 sh).Nodup:=(List.nodup_append.1 (List.nodup_append.1 hnd).1).1
  have hnd2:(nids es++oids es).Nodup:=by
   refine hnd.sublist ?_
   exact (List.sublist_append_right _ _).append (List.sublist_cons_self _ _)
  have hdis:∀ j,j∈qb3 sh→j ∉ nids es∧j≠id∧j ∉ oids es:=fun j hj=>by
   refine ⟨fun hc=>(List.nodup_append.1 (List.nodup_append.1 hnd).1).2.2 j hj j hc rfl,fun hc => ?_,fun hc => ?_⟩
   ·exact (List.nodup_append.1 hnd).2.2 j (by simp [hj]) id (by simp) hc
   ·exact (List.nodup_append.1 hnd).2.2 j (by simp [hj]) j (by simp [hc]) rfl
  have hidn:id ∉ nids es∧id ∉ oids es:=by
   refine ⟨fun hc => ?_,fun hc => ?_⟩
   ·exact (List.nodup_append.1 hnd).2.2 id (by simp [hc]) id (by simp) rfl
   ·exact (List.nodup_cons.1 (List.nodup_append.1 hnd).2.1).1 hc
  have hUm:=hef.sub
  obtain ⟨φ1,A1,m1,e1,r1,p1,h1,a1,k1,o1⟩:=qGh hm (fun j hj=>hn j (by simp [hj])) hnd1 f1 (fun b hb=>hUf b (hUm b hb)) (fun b hb hu=>hA b hb (hUm b hu)) hH
  have off:∀ j,j ∉ qb3 sh→zL B (inS sh x.1).2 j=B j:=fun j hj=>wF _ _ (by rw [k1];exact hj)
  have hidsh:id ∉ qb3 sh:=fun hc=>(hdis id hc).2.1 rfl
  have hB1:zL B (inS sh x.1).2 id = .box t .bad:=by rw [off id hidsh,hB]
  have hφ1:φ1 id=some (b,o,c.size):=by rw [p1 id hidsh,hφ,g1]
  rw [hsh] at r1
  obtain ⟨m2,e2⟩:=recontent m1 hB1 hφ1 g2 g3 g4 g5 r1
  have hH2:Held φ1 (updB (zL B (inS sh x.1).2) id (.box t (inS sh x.1).1)) Uf A1:=by
   intro j hj z hz
   by_cases hji:j=id
   ·subst hji;exact h1 j (by rw [hB1];rfl) z hz
   ·rw [qO _ _ hji] at hj;exact h1 j hj z hz
  have hag':Agree (updB (zL B (inS sh x.1).2) id (.box t (inS sh x.1).1)) ((s.j8 (inS sh x.1).2).setB id (.box t (inS sh x.1).1)) es :=
   (Agree.over hag _).upd (es':=es) id _ fun j hj hji=>by simp [oids,hj,hji]
  have hT:((s.j8 (inS sh x.1).2).setB id (.box t (inS sh x.1).1)).getT=s.getT:=St.v3 s _
  obtain ⟨s2,φ',q1,q2,q3,q4,q5,⟨nw,q6,q6a,q6b⟩,q7⟩:=quD (es:=es) (s:=(s.j8 (inS sh x.1).2).setB id (.box t (inS sh x.1).1)) m2 (by rw [hT];exact (hs.ext e1).ext e2) hag' (fun j hj=>by
    have hji:j≠id:=fun h=>hidn.1 (h ▸ hj)
    rw [qO _ _ hji,off j fun hc=>(hdis j hc).1 hj];exact hn j (by simp [hj])) hnd2 hef (Ready.congr (es:=es) hrd fun j hj=>by
    have hji:j≠id:=fun h=>hidn.2 (h ▸ hj)
    have hjs:j ∉ qb3 sh:=fun hc=>(hdis j hc).2.2 hj
    exact ⟨p1 j hjs,by rw [qO _ _ hji,off j hjs]⟩) hUf (fun b hb hu=>by
    rcases a1 b hb with h | h
    ·exact f1.sub b (hA b h hu)
    ·exact h.1) hH2
  refine ⟨s2,φ',fun γ k => ?_,q2,(e1.trans e2).trans q3,q4,fun j hj => ?_,⟨nw++([id]++qb3 sh), ?_,fun j hj => ?_,fun j hj => ?_⟩,fun t' ht => ?_⟩
  ·simp only [inL,inE,St.qf1,St.qkJ];exact q1 γ k
  ·simp only [nids,List.mem_append,not_or] at hj
   rw [q5 j hj.2,p1 j hj.1]
  ·rw [q6]
   have:((s.j8 (inS sh x.1).2).setB id (.box t (inS sh x.1).1)).w=id :: (qb3 sh++s.w):=by
    show id :: (s.j8 (inS sh x.1).2).w=_
    rw [St.qA4,k1]
   rw [this];simp
  ·simp only [List.mem_append,List.mem_singleton] at hj
   rcases hj with hj | hj | hj
   ·rcases q6a j hj with h | h
    ·exact .inl (by simp [nids,h])
    ·exact .inr (by simp [oids,h])
   ·exact .inr (by simp [oids,hj])
   ·exact .inl (by simp [nids,hj])
  ·simp only [List.mem_append,List.mem_singleton,not_or] at hj
   rw [q6b j hj.1,St.qe1,qO _ _ hj.2.1,St.xK]
   exact wF _ _ (by rw [k1];exact hj.2.2)
  ·rw [q7 t' ht,hT]
def qiV:List En→Nat→Option Ty
 | [],_=>none
 | .bx id t _ :: r,j=>if j=id then some t else qiV r j
 | _ :: r,j=>qiV r j
theorem qsA:∀ {es:List En} {id:Nat} {t:Ty} {sh:Sh},En.bx id t sh∈es→∃ t',qiV es id=some t'
 | e :: es,id,t,sh,h=>by
  rcases List.mem_cons.1 h with rfl | h
  ·exact ⟨t,by simp [qiV]⟩
  ·obtain ⟨t',h'⟩:=qsA h
   cases e <;> simp only [qiV] <;> first | exact ⟨t',h'⟩ | (split;exact ⟨_,rfl⟩;exact ⟨t',h'⟩)
theorem EF.box {lo:Nat→Prop} {B2:Nat→Blk}:∀ {es:List En} {x:denE es} {U U':Nat→Prop} {id:Nat} {t:Ty},EF φ w M B2 lo a es x U U'→qiV es id=some t →
  (∃ v,B2 id = .box t v)∧∃ b o c el fz,φ id=some (b,o,Array.size c)∧w.heap[b]? = some (.cells c el fz)∧o+t.size≤c.size∧okFz c fz∧M b∧∀ v∈seg c o t.size,v.oneCell'=true
 | [],_,_,_,_,_,_,h=>by cases h
 | .sl i t' :: es,x,U,U',id,t,hef,h=>EF.box (es:=es) hef.2 h
 | .ow i _ e :: es,x,U,U',id,t,hef,h=>by obtain ⟨_,Um,_,hef⟩:=hef;exact EF.box (es:=es) hef h
 | .bk _ e :: es,x,U,U',id,t,hef,h=>EF.box (es:=es) hef.2 h
 | .it _ s :: es,x,U,U',id,t,hef,h=>EF.box (es:=es) hef.2 h
 | .bx id' t' sh :: es,x,U,U',id,t,hef,h=>by
  obtain ⟨hv,hsh,b,o,c,el,fz,Um,g1,g2,g3,g4,g5,f1,hef⟩:=hef
  simp only [qiV] at h
  split at h
  ·rename_i hid
   cases h
   subst hid
   exact ⟨hv,b,o,c,el,fz,g1,g2,g3,g4,g5,f1.one⟩
  ·exact EF.box (es:=es) hef h
def mid (b0 B2:Nat→Blk) (es:List En):Nat→Blk:=fun id=>if qBr (b0 id)=true then .new else match qiV es id with | some t => .box t .bad | none=>B2 id
theorem vF {b:Blk}:qBr b=true↔b = .new:=by cases b <;> simp [qBr]
theorem qdI {b0 B2:Nat→Blk} {es:List En} {lo:Nat→Prop} (hold:∀ id∈oids es,b0 id ≠ .new) {x0:denE es} {U0 U0':Nat→Prop} (h0:EF φ w M B2 lo a es x0 U0 U0'):∀ {r:List En} {x:denE r} {U U':Nat→Prop},(∀ e∈r,e∈es)→(∀ id∈oids r,id∈oids es)→EF φ w M B2 lo a r x U U'→Ready φ B2 φ (mid b0 B2 es) r
 | [],_,_,_,_,_,_=>trivial
 | .sl i t' :: r,x,U,U',hm,ho,h=>qdI hold h0 (r:=r) (fun e he=>hm e (by simp [he])) ho h.2
 | .ow i _ e :: r,x,U,U',hm,ho,h=>by obtain ⟨_,Um,_,h⟩:=h;exact qdI hold h0 (r:=r) (fun e he=>hm e (by simp [he])) ho h
 | .bk id e :: r,x,U,U',hm,ho,h=>by
  refine ⟨⟨rfl,x.1, ?_,h.1⟩,qdI hold h0 (r:=r) (fun e he=>hm e (by simp [he])) (fun j hj=>ho j (by simp [oids,hj])) h.2⟩
  unfold mid
  rw [if_neg (by rw [vF];exact hold id (ho id (by simp [oids])))]
  cases hb:qiV es id with
  | none=>exact h.1
  | some t=>obtain ⟨⟨v,hv⟩,_⟩:=h0.box hb;rw [h.1] at hv;cases hv
 | .it id s :: r,x,U,U',hm,ho,h=>by
  obtain ⟨⟨s',h1⟩,h2⟩:=h
  refine ⟨⟨rfl,s',x.1, ?_,h1⟩,qdI hold h0 (r:=r) (fun e he=>hm e (by simp [he])) (fun j hj=>ho j (by simp [oids,hj])) h2⟩
  unfold mid
  rw [if_neg (by rw [vF];exact hold id (ho id (by simp [oids])))]
  cases hb:qiV es id with
  | none=>exact h1
  | some t=>obtain ⟨⟨v,hv⟩,_⟩:=h0.box hb;rw [h1] at hv;cases hv
 | .bx id t sh :: r,x,U,U',hm,ho,h=>by
  obtain ⟨⟨v,hv⟩,hsh,b,o,c,el,fz,Um,g1,g2,g3,g4,g5,f1,h⟩:=h
  refine ⟨⟨rfl, ?_⟩,qdI hold h0 (r:=r) (fun e he=>hm e (by simp [he])) (fun j hj=>ho j (by simp [oids,hj])) h⟩
  unfold mid
  rw [if_neg (by rw [vF];exact hold id (ho id (by simp [oids])))]
  obtain ⟨t',ht⟩:=qsA (hm (.bx id t sh) (by simp))
  rw [ht]
  obtain ⟨⟨v',hv'⟩,_⟩:=h0.box ht
  rw [hv] at hv';cases hv';rfl
theorem EF.kind {lo:Nat→Prop} {B2:Nat→Blk}:∀ {es:List En} {x:denE es} {U U':Nat→Prop},EF φ w M B2 lo a es x U U'→∀ id∈oids es,∀ kt vt l,B2 id ≠ .mp kt vt l
 | [],_,_,_,_,id,hi,_,_,_=>by simp [oids] at hi
 | .sl i t' :: es,x,U,U',h,id,hi,kt,vt,l=>EF.kind (es:=es) h.2 id hi kt vt l
 | .ow i _ e :: es,x,U,U',h,id,hi,kt,vt,l=>by obtain ⟨_,Um,_,h⟩:=h;exact EF.kind (es:=es) h id hi kt vt l
 | .bk id' e :: es,x,U,U',h,id,hi,kt,vt,l=>by
  simp only [oids,List.mem_cons] at hi
  rcases hi with rfl | hi
  ·rw [h.1];intro h;cases h
  ·exact EF.kind (es:=es) h.2 id hi kt vt l
 | .it id' s :: es,x,U,U',h,id,hi,kt,vt,l=>by
  simp only [oids,List.mem_cons] at hi
  rcases hi with rfl | hi
  ·obtain ⟨⟨s',h1⟩,_⟩:=h;rw [h1];intro h;cases h
  ·exact EF.kind (es:=es) h.2 id hi kt vt l
 | .bx id' t0 sh0 :: es,x,U,U',h,id,hi,kt,vt,l=>by
  simp only [oids,List.mem_cons] at hi
  rcases hi with rfl | hi
  ·obtain ⟨⟨v,hv⟩,_⟩:=h;rw [hv];intro h;cases h
  ·obtain ⟨_,_,b,o,c,el,fz,Um,_,_,_,_,_,_,h⟩:=h
   exact EF.kind (es:=es) h id hi kt vt l
theorem qJB {b0 B2:Nat→Blk} {es:List En} {lo:Nat→Prop} (hm:Mem K w0 φ M B2 w) {x:denE es} {U U':Nat→Prop} (hef:EF φ w M B2 lo a es x U U') (hbox:∀ id t v,b0 id = .box t v→∀ j∈zS v,b0 j ≠ .new) (hmap:∀ id kt vt l,b0 id = .mp kt vt l→∀ p∈l,∀ j∈zS p.2,b0 j ≠ .new)
  (hc2:∀ id,b0 id ≠ .new→id ∉ oids es→B2 id=b0 id) (hob:∀ id∈oids es,∀ t v,B2 id = .box t v→∃ t',qiV es id=some t') :
  Mem K w0 φ M (mid b0 B2 es) w∧(∀ id,b0 id ≠ .new→(B2 id).Le (mid b0 B2 es id))∧(∀ id,(mid b0 B2 es id).mut=true→(B2 id).mut=true):=by
 have hmut:∀ id,(mid b0 B2 es id).mut=true→(B2 id).mut=true:=fun id h=>by
  unfold mid at h
  split at h
  ·cases h
  ·split at h
   ·rename_i t ht
    obtain ⟨⟨v,hv⟩,_⟩:=hef.box ht
    rw [hv];rfl
   ·exact h
 have hle:∀ id,b0 id ≠ .new→(B2 id).Le (mid b0 B2 es id):=fun id hid=>by
  unfold mid
  rw [if_neg (by rw [vF];exact hid)]
  split
  ·rename_i t ht
   obtain ⟨⟨v,hv⟩,_⟩:=hef.box ht
   rw [hv];rfl
  ·exact Blk.Le.refl _
 refine ⟨{ hm with own:=fun id h=>hm.own id (hmut id h),blks:=fun id => ?_,sep:=fun i j hij hi hj=>hm.sep i j hij (hmut i hi) (hmut j hj) },hle,hmut⟩
 have hbl:=hm.blks id
 by_cases hn:qBr (b0 id)=true
 ·unfold mid;rw [if_pos hn];trivial
 ·have hid:b0 id ≠ .new:=fun h=>hn (vF.2 h)
  cases hb:qiV es id with
  | some t =>
   have hmid:mid b0 B2 es id = .box t .bad:=by unfold mid;rw [if_neg hn,hb]
   rw [hmid]
   obtain ⟨_,b,o,c,el,fz,g1,g2,g3,g4,g5,g6⟩:=hef.box hb
   exact ⟨b,o,c,el,fz,g1,g2,g3,⟨jD g3,g6⟩,g4,g5⟩
  | none =>
   have hmid:mid b0 B2 es id=B2 id:=by unfold mid;rw [if_neg hn,hb]
   rw [hmid]
   generalize hB:B2 id=bl at hbl
   cases bl with
   | new=>trivial
   | gone=>trivial
   | ob e l=>exact hbl
   | fz e l=>exact hbl
   | it s p=>exact hbl
   | mp kt vt l =>
    have hno:id ∉ oids es:=fun hc=>hef.kind id hc kt vt l hB
    have h0:b0 id = .mp kt vt l:=by rw [← hc2 id hid hno,hB]
    obtain ⟨b,es',clk,g1,g2,g3,g4⟩:=hbl
    exact ⟨b,es',clk,g1,g2,g3.loc (fun _ _ _ _ _=>rfl) (View.Le.refl _) (fun p hp j hj=>hle j (hmap id kt vt l h0 p hp j hj)),g4⟩
   | box t v =>
    have hno:id ∉ oids es:=fun hc=>by
     obtain ⟨t',ht'⟩:=hob id hc t v hB
     rw [hb] at ht';cases ht'
    have h0:b0 id = .box t v:=by rw [← hc2 id hid hno,hB]
    obtain ⟨b,o,c,el,fz,g1,g2,g3,g4,g5,g6⟩:=hbl
    exact ⟨b,o,c,el,fz,g1,g2,g3,RepT.loc (fun _ _ _=>rfl) (View.Le.refl _) (fun j hj=>hle j (hbox id t v h0 j hj)) g4,g5,g6⟩
end
end Yp
namespace Yp
open Go
variable {P : Program}
theorem qpL {c:Code} {Q:Exit→Act→World→Prop} (I:Nat→Act→World→Prop) (hz:∀ a w,¬ I 0 a w)
  (round:∀ n a w,I (n+1) a w→c.wp P (Exit.then (fun a' w'=>I n a' w') Q) a w) {n:Nat} {a:Act} {w:World} (h:I n a w):(Code.loop c).wp P Q a w:=by
 intro b k cs
 have key:∀ n a w,I n a w→∃ e a' w',Q e a' w'∧Arrives P (lone (b.at a (.code c :: .inLoop c :: k)) cs w) b k cs e a' w':=by
  intro n
  induction n with
  | zero=>intro a w h;exact absurd h (hz a w)
  | succ n ih =>
   intro a w hI
   obtain ⟨e,a₁,w₁,hq,harr⟩:=round n a w hI b (.inLoop c :: k) cs
   cases e with
   | normal =>
    obtain ⟨e₂,a₂,w₂,hq₂,harr₂⟩:=ih a₁ w₁ hq
    exact ⟨e₂,a₂,w₂,hq₂, .of_steps (Steps.trans harr (.one step_inLoop)) harr₂⟩
   | exit id=>exact ⟨_,a₁,w₁,hq, .pass (x := .inLoop c) rfl (fun _ _ => .inl (by simp)) harr⟩
   | goto l=>exact ⟨_,a₁,w₁,hq, .pass (x := .inLoop c) rfl (fun _ _ => .inl (by simp)) harr⟩
   | ret=>exact ⟨_,a₁,w₁,hq, .pass (x := .inLoop c) rfl (fun _ _ => .inl (by simp)) harr⟩
   | panic ch=>exact ⟨_,a₁,w₁,hq, .pass (x := .inLoop c) rfl (fun _ _ => .inl (by simp)) harr⟩
   | outgrown=>exact ⟨_,a₁,w₁,hq, .pass (x := .inLoop c) rfl (fun _ _ => .inl (by simp)) harr⟩
 obtain ⟨e,a',w',hq,harr⟩:=key n a w h
 exact ⟨e,a',w',hq, .of_steps (.one step_loop) harr⟩
theorem qdJ:∀ {l:List Nat} {t:Nat},t∈dedup l↔t∈l
 | [],t=>by simp [dedup]
 | i :: l,t=>by
  simp only [dedup]
  cases hc:l.any (Nat.beq i) with
  | true =>
   simp only [cond,List.mem_cons]
   rw [qdJ]
   refine ⟨.inr,fun h=>h.elim (fun h => ?_) id⟩
   obtain ⟨j,hj,hb⟩:=List.any_eq_true.1 hc
   rw [h,Nat.eq_of_beq_eq_true hb];exact hj
  | false =>
   simp only [cond,List.mem_cons]
   rw [qdJ]
theorem qqS:∀ {l:List Nat},qC3 l=true→l.Nodup
 | [],_=>List.nodup_nil
 | i :: l,h=>by
  simp only [qC3,Bool.and_eq_true,Bool.not_eq_true'] at h
  refine List.nodup_cons.2 ⟨fun hc => ?_,qqS h.2⟩
  have:l.any (Nat.beq i)=true:=List.any_eq_true.2 ⟨i,hc,Nat.beq_refl i⟩
  rw [this] at h;cases h.1
theorem qBx {base:St} {es:List En} {asg:List Nat} (h:qDe base es asg=true) :
  (nids es++oids es).Nodup∧(∀ id∈nids es,base.getB id = .new)∧(∀ id∈oids es,base.getB id ≠ .new)∧∀ i∈qe5 es,i∈asg:=by
 simp only [qDe,Bool.and_eq_true] at h
 obtain ⟨⟨⟨h1,h2⟩,h3⟩,h4⟩:=h
 refine ⟨qqS h1,fun id hi=>vF.1 (List.all_eq_true.1 h2 id hi),fun id hi hc => ?_,fun i hi => ?_⟩
 ·have:=List.all_eq_true.1 h3 id hi
  rw [hc] at this;cases this
 ·obtain ⟨j,hj,hb⟩:=List.any_eq_true.1 (List.all_eq_true.1 h4 i hi)
  rw [Nat.eq_of_beq_eq_true hb];exact hj
theorem qEc {base:St} {es:List En} {s:St} (h:qEd base es s=true) {nw:List Nat} (hw:s.w=nw++base.w):∀ id∈nw,base.getB id = .new∨id∈oids es:=by
 intro id hi
 have ht:s.w.take (s.w.length - base.w.length)=nw:=by
  rw [hw]
  simp only [List.length_append,Nat.add_sub_cancel]
  exact List.take_left
 unfold qEd at h
 rw [ht] at h
 have:=List.all_eq_true.1 h id hi
 simp only [Bool.or_eq_true] at this
 rcases this with h | h
 ·exact .inl (vF.1 h)
 ·obtain ⟨j,hj,hb⟩:=List.any_eq_true.1 h
  right;rw [Nat.eq_of_beq_eq_true hb];exact hj
theorem qDq {ρ σ:Type} {kk:Nat} {s:St} {k:Out σ→R ρ} {r:ρ}:∀ {l:List Nat},((exits kk s l).bind k).ev=some r→(k (.ex kk s)).ev=some r
 | [],h=>by cases h
 | [i],h=>by
  simp only [exits,R.bind,R.ev,ck] at h
  cases hc:neb kk i with
  | false=>rw [hc] at h;cases h
  | true=>rw [hc] at h;have:=Nat.eq_of_beq_eq_true hc;subst this;exact h
 | i :: j :: l,h=>by
  simp only [exits,R.bind,R.ev,sel] at h
  cases hc:neb kk i with
  | false=>rw [hc] at h;exact qDq h
  | true=>rw [hc] at h;have:=Nat.eq_of_beq_eq_true hc;subst this;exact h
theorem qqV {σ ρ:Type} {f:σ→Option (LS σ ρ)} {x:σ} {o:LS σ ρ} (h:loop f x=some o):∃ n,qgS f n x=some o:=by
 unfold loop at h
 split at h
 ·exact ⟨_,h⟩
 ·cases h
theorem qaN:∀ {es:List En} {id:Nat} {t:Ty},qiV es id=some t→id∈oids es
 | [],_,_,h=>by cases h
 | .sl _ _ :: es,_,_,h=>qaN (es:=es) h
 | .ow _ _ _ :: es,_,_,h=>qaN (es:=es) h
 | .bk _ _ :: es,_,_,h=>List.mem_cons_of_mem _ (qaN (es:=es) h)
 | .it _ _ :: es,_,_,h=>List.mem_cons_of_mem _ (qaN (es:=es) h)
 | .bx id' t' sh :: es,id,t,h=>by
  simp only [qiV] at h
  split at h
  ·rename_i e;rw [e];simp [oids]
  ·exact List.mem_cons_of_mem _ (qaN h)
section
variable {K : Kp} {w0 w : World} {φ : Pl} {M : Nat → Prop} {B B' : Nat → Blk} {g : Nat → PV} {a : Act} {E : Env} {rs : List RTy} {res : List ResultVar} {nv nt : Nat} {inl : Bool}
theorem EF.oid {lo:Nat→Prop} {B2:Nat→Blk}:∀ {es:List En} {x:denE es} {U U':Nat→Prop},EF φ w M B2 lo a es x U U'→∀ id∈oids es,∀ t v,B2 id = .box t v→∃ t' sh,En.bx id t' sh∈es
 | [],_,_,_,_,id,hi,_,_,_=>by simp [oids] at hi
 | .sl i t' :: es,x,U,U',h,id,hi,t,v,hb=>by obtain ⟨t',sh,h⟩:=EF.oid (es:=es) h.2 id hi t v hb;exact ⟨t',sh,by simp [h]⟩
 | .ow i _ e :: es,x,U,U',h,id,hi,t,v,hb=>by obtain ⟨_,Um,_,h⟩:=h;obtain ⟨t',sh,h⟩:=EF.oid (es:=es) h id hi t v hb;exact ⟨t',sh,by simp [h]⟩
 | .bk id' e :: es,x,U,U',h,id,hi,t,v,hb=>by
  simp only [oids,List.mem_cons] at hi
  rcases hi with rfl | hi
  ·rw [h.1] at hb;cases hb
  ·obtain ⟨t',sh,h⟩:=EF.oid (es:=es) h.2 id hi t v hb;exact ⟨t',sh,by simp [h]⟩
 | .it id' s :: es,x,U,U',h,id,hi,t,v,hb=>by
  simp only [oids,List.mem_cons] at hi
  rcases hi with rfl | hi
  ·obtain ⟨⟨s',h1⟩,_⟩:=h;rw [h1] at hb;cases hb
  ·obtain ⟨t',sh,h⟩:=EF.oid (es:=es) h.2 id hi t v hb;exact ⟨t',sh,by simp [h]⟩
 | .bx id' t0 sh0 :: es,x,U,U',h,id,hi,t,v,hb=>by
  simp only [oids,List.mem_cons] at hi
  rcases hi with rfl | hi
  ·exact ⟨t0,sh0,by simp⟩
  ·obtain ⟨_,_,b,o,c,el,fz,Um,_,_,_,_,_,_,h⟩:=h
   obtain ⟨t',sh,h⟩:=EF.oid (es:=es) h id hi t v hb;exact ⟨t',sh,by simp [h]⟩
structure Now (K:Kp) (w0:World) (D:List Nat) (s:St) (φ:Pl) (M:Nat→Prop) (w:World) (a:Act) (s2:St) (φ':Pl) (M':Nat→Prop) (w':World) (a':Act):Prop where
 fr:Fr D s s2
 mem:Mem K w0 φ' M' s2.getB w'
 ext:Ext φ M s.getB w φ' M' s2.getB w'
 slots:Slots φ' (view w' M') s2.getB s2.getT a'
 keep:Keep D a a'
def qbU (id:Nat):Exit:=if id=RET then .ret else .exit id
def qG0 (P:Program) (K:Kp) (w0:World) (E:Env) (rs:List RTy) (res:List ResultVar) (nv nt:Nat) (inl:Bool) (c:Code):Prop :=
 ∀ (s:St) (ρ:Type) (k:Out (denR rs)→R ρ) (r:ρ),((run E rs res nv nt inl c s).bind k).ev=some r→∀ (φ:Pl) (M:Nat→Prop) (w:World) (a:Act),Mem K w0 φ M s.getB w→Slots φ (view w M) s.getB s.getT a→nt≤a.tmps.size →
  ∀ (Q:Exit→Act→World→Prop),
   (∀ s2 φ' M' w' a',(k (.nx s2)).ev=some r→Now K w0 (assigned c) s φ M w a s2 φ' M' w' a'→Q .normal a' w') →
   (∀ id s2 φ' M' w' a',(k (.ex id s2)).ev=some r→Now K w0 (assigned c) s φ M w a s2 φ' M' w' a'→Q (qbU id) a' w') →
   (∀ x w' a',(k (.rt x)).ev=some r→a'.defers=a.defers→(∃ us,qf5 P a'.tmps w' res us∧qcL w0 K.x w' rs x (vrOf us))→Q .ret a' w')→c.wp P Q a w
theorem qJE {b:Blk} (h:b.live=true):b ≠ .new:=by rintro rfl;cases h
theorem qK4 {b c:Blk} (h:b.Le c) (hc:c = .new):b = .new:=by subst hc;cases b <;> first | rfl | exact h.elim
theorem qJD {b:Code} (hU:E.U=false) (ih:qG0 P K w0 E rs res nv nt inl b):qG0 P K w0 E rs res nv nt inl (.loop b):=by
 intro s ρ k r h φ0 M0 w00 a0 hm hs hna Q _ hqe hqr
 simp only [run,hU,cond_false,R.quA,qLg] at h
 generalize hes:entries E.b s ((run E rs res nv nt inl b s).leaves) (dedup (assigned b))=es at h
 generalize hex:exOf ((run E rs res nv nt inl b s).leaves)=exs at h
 rw [R.qN] at h
 obtain ⟨x0,s1,M1,U1,h1,m1,e1,t1,f1,st1,tk1,ef1⟩:=qjT (a:=a0) h hm hs (U:=fun _=>False) ⟨fun _ _ _ _ h=>h,fun _ h=>h.elim⟩
 obtain ⟨base,bB,bw,bT,bT',bk⟩:=qpM (dedup (assigned b)) s1
 rw [bk] at h1
 cases hho:qDe base es (dedup (assigned b)) with
 | false=>rw [hho] at h1;cases h1
 | true =>
  rw [hho,cond_true] at h1
  obtain ⟨hnd,hnew,hold,hsl⟩:=qBx hho
  simp only [R.bind,R.ev] at h1
  -- static facts
  have hbox:∀ id t v,base.getB id = .box t v→∀ j∈zS v,base.getB j ≠ .new:=by
   intro id t v hb
   rw [bB] at hb ⊢
   have:=m1.blks id
   rw [hb] at this
   obtain ⟨_,_,_,_,_,_,_,_,hT,_⟩:=this
   exact hT.old
  have hmap:∀ id kt vt l,base.getB id = .mp kt vt l→∀ p∈l,∀ j∈zS p.2,base.getB j ≠ .new:=by
   intro id kt vt l hb
   rw [bB] at hb ⊢
   have:=m1.blks id
   rw [hb] at this
   obtain ⟨_,_,_,_,_,hM,_⟩:=this
   exact hM.old
  have holdT:∀ t,t ∉ dedup (assigned b)→∀ j∈zS (base.getT t),base.getB j ≠ .new:=by
   intro t ht
   rw [bB,bT t ht]
   have:=(hs.ext e1) t
   rw [← t1] at this
   exact this.old
  -- the head
  let Head:denE es→Act→World→Prop:=fun x a w=>∃ (sx:St) (φ:Pl) (M:Nat→Prop),(∀ (γ:Type 1) (k:St→γ),inL base es x k=k sx)∧Mem K w0 φ M sx.getB w∧Slots φ (view w M) sx.getB sx.getT a ∧
   Ext φ0 M0 s.getB w00 φ M sx.getB w∧Keep (assigned b) a0 a∧(∀ id,(base.getB id).Le (sx.getB id))∧(∃ nw,sx.w=nw++base.w∧∀ id,id ∉ nw→sx.getB id=base.getB id)∧(∀ t,t ∉ qe5 es→sx.getT t=base.getT t)
  have assemble:∀ (s':St) (φ':Pl) (M2:Nat→Prop) (w':World) (a':Act) (y:denE es) (s2:St) (U':Nat→Prop),Mem K w0 φ' M2 s2.getB w'→Slots φ' (view w' M2) s2.getB s2.getT a'→Ext φ0 M0 s.getB w00 φ' M2 s2.getB w'→Keep (assigned b) a0 a' →
    Taken φ' M2 s2.getB U'→EF φ' w' M2 s2.getB (fun b=>¬ K.k b) a' es y (fun _=>False) U'→(∀ t,t ∉ dedup (assigned b)→s2.getT t=base.getT t)→(∀ id,base.getB id ≠ .new→id ∉ oids es→s2.getB id=base.getB id)→(∀ id,(base.getB id).Le (s2.getB id))→Head y a' w':=by
   intro s' φ' M2 w' a' y s2 U' hm2 hs2 he2 hk2 htk hef hc1 hc2 hle
   have hob:∀ id∈oids es,∀ t v,s2.getB id = .box t v→∃ t',qiV es id=some t':=fun id hi t v hb=>by
    obtain ⟨t',sh,hmem⟩:=hef.oid id hi t v hb
    exact qsA hmem
   obtain ⟨mm,hle2,hmut⟩:=qJB hm2 hef hbox hmap hc2 hob
   have hrd:Ready φ' s2.getB φ' (mid base.getB s2.getB es) es:=qdI hold hef (fun e h=>h) (fun id h=>h) hef
   have hsl0:Slots φ' (view w' M2) (mid base.getB s2.getB es) base.getT a':=by
    intro t
    by_cases ht:t∈dedup (assigned b)
    ·rw [bT' t ht];trivial
    ·rw [← hc1 t ht]
     refine RepP.loc (fun _ _ _=>rfl) (View.Le.refl _) (fun j hj=>hle2 j ?_) (hs2 t)
     rw [hc1 t ht] at hj
     exact holdT t ht j hj
   have hag:Agree (mid base.getB s2.getB es) base es:=by
    refine ⟨fun j hj => ?_,fun j s' p hj => ?_⟩
    ·unfold mid
     split
     ·rename_i hn;exact (vF.1 hn).symm
     ·rename_i hn
      have hn':base.getB j ≠ .new:=fun h=>hn (vF.2 h)
      cases hb:qiV es j with
      | some t=>exact absurd (qaN hb) hj
      | none=>exact hc2 j hn' hj
    ·unfold mid at hj
     split at hj
     ·cases hj
     ·rename_i hn
      have hn':base.getB j ≠ .new:=fun h=>hn (vF.2 h)
      split at hj
      ·cases hj
      ·have:=hle j
       rw [hj] at this
       generalize base.getB j=q at this hn'
       cases q <;> simp only [Blk.Le] at this <;> first | exact this.elim | exact absurd rfl hn' | exact ⟨_,by rw [this]⟩
   have hnewm:∀ id∈nids es,mid base.getB s2.getB es id = .new:=fun id hi=>by unfold mid;rw [if_pos (vF.2 (hnew id hi))]
   obtain ⟨sx,φx,q1,q2,q3,q4,q5,⟨nw,q6,q6a,q6b⟩,q7⟩:=quD (Uf:=U') (A:=fun _=>False) mm hsl0 hag hnewm hnd hef hrd (fun b hb=>hb) (fun b hb=>hb.elim) (fun j hj z hz => .inl (htk.1 j (hmut j hj) z hz))
   have chain:∀ id,base.getB id ≠ .new→(s2.getB id).Le (sx.getB id):=fun id hid=>(hle2 id hid).trans (q3.bl id)
   have nonnew:∀ id,s.getB id ≠ .new→base.getB id ≠ .new:=fun id hid hc=>hid (qK4 (e1.bl id) (by rw [← bB];exact hc))
   refine ⟨sx,φx,M2,q1,q2,q4,⟨fun id hl => ?_,he2.vw.trans q3.vw,fun id => ?_⟩,hk2,fun id => ?_,⟨nw,q6,q6b⟩,q7⟩
   ·have hb:=nonnew id (qJE hl)
    rw [q5 id fun hc=>hb (hnew id hc)]
    exact he2.pl id hl
   ·by_cases hid:s.getB id = .new
    ·rw [hid];cases sx.getB id <;> trivial
    ·exact (he2.bl id).trans (chain id (nonnew id hid))
   ·by_cases hid:base.getB id = .new
    ·rw [hid];cases sx.getB id <;> trivial
    ·exact (hle id).trans (chain id hid)
  -- what the loop comes to
  cases hl:loop (fun x=>(inL base es x fun s=>R.bind (run E rs res nv nt inl b s) (qkS base es)).ev) x0 with
  | none=>rw [hl] at h1;cases h1
  | some o =>
   rw [hl] at h1
   obtain ⟨n,hn⟩:=qqV hl
   have hnx:∀ y,o ≠ .nx y:=by rintro y rfl;cases h1
   -- what becomes of its end
   have finE:∀ kk y,o = .ex kk y→∀ a' w',Head y a' w'→Q (qbU kk) a' w':=by
    rintro kk y rfl a' w' ⟨sx,φ,M,p1,p2,p3,p4,p5,p6,⟨nw,p7,p7b⟩,p8⟩
    have h1:((inL base es y fun s=>exits kk s exs).bind k).ev=some r:=h1
    rw [p1] at h1
    refine hqe kk sx φ M w' a' (qDq h1) ⟨⟨fun t ht => ?_, ?_⟩,p2,p4,p3,p5⟩
    ·have ht':t ∉ dedup (assigned b):=fun hc=>ht (qdJ.1 hc)
     rw [p8 t fun hc=>ht' (hsl t hc),bT t ht',t1]
    ·obtain ⟨_,nwo,g1,g2⟩:=f1
     refine ⟨nw++nwo,by rw [p7,bw,g1,List.append_assoc],fun id hid => ?_⟩
     rw [List.mem_append,not_or] at hid
     rw [p7b id hid.1,bB,g2 id hid.2]
   have finR:∀ x,o = .rt x→∀ a' w',a'.defers=a0.defers→(∃ us,qf5 P a'.tmps w' res us∧qcL w0 K.x w' rs x (vrOf us))→Q .ret a' w':=by
    rintro x rfl a' w' hd hu
    exact hqr x w' a' h1 hd hu
   have h0:Head x0 a0 w00:=by
    refine assemble s1 φ0 M1 w00 a0 x0 s1 U1 m1 (by rw [t1];exact hs.ext e1) e1 (Keep.refl _ _) tk1 ef1 (fun t ht=>(bT t ht).symm) (fun id _ _=>by rw [bB]) (fun id=>by rw [bB];exact Blk.Le.refl _)
   refine qpL (fun n a w=>∃ x,qgS (fun x=>(inL base es x fun s=>R.bind (run E rs res nv nt inl b s) (qkS base es)).ev) n x=some o∧Head x a w) (fun a w=>by rintro ⟨x,hx,_⟩;cases hx) ?_ (n:=n) ⟨x0,hn,h0⟩
   rintro n a w ⟨x,hx,sx,φ,M,p1,p2,p3,p4,p5,p6,⟨nw,p7,p7b⟩,p8⟩
   simp only [qgS] at hx
   rw [p1] at hx
   have hsz:nt≤a.tmps.size:=by rw [p5.1];exact hna
   -- a round's end
   have theEnd:∀ (s':St) (φ':Pl) (M':Nat→Prop) (w':World) (a':Act) {ρ':Type} (kk:denE es→R ρ') (o':ρ'),Now K w0 (assigned b) sx φ M w a s' φ' M' w' a'→((outL s' es).bind fun y=>bif qEd base es y.2 then kk y.1 else .fail).ev=some o'→∃ y,(kk y).ev=some o'∧Head y a' w':=by
    intro s' φ' M' w' a' ρ' kk o' hnow hev
    obtain ⟨y,s2,M2,U',h3,m2,e2,t2,f2,st2,tk2,ef2⟩:=qjT (a:=a') hev hnow.mem hnow.slots (U:=fun _=>False) ⟨fun _ _ _ _ h=>h,fun _ h=>h.elim⟩
    cases heo:qEd base es s2 with
    | false=>rw [heo] at h3;cases h3
    | true =>
     rw [heo,cond_true] at h3
     refine ⟨y,h3, ?_⟩
     obtain ⟨hf1,nw1,hf2,hf3⟩:=hnow.fr
     obtain ⟨_,nw2,hg2,hg3⟩:=f2
     have hw:s2.w=(nw2++(nw1++nw))++base.w:=by rw [hg2,hf2,p7];simp
     have hend:=qEc heo hw
     refine assemble s' φ' M2 w' a' y s2 U' m2 (by rw [t2];exact hnow.slots.ext e2) ((p4.trans hnow.ext).trans e2) (p5.sub hnow.keep (fun t h=>h) (fun t h=>h)) tk2 ef2 (fun t ht => ?_) (fun id hid hno => ?_) (fun id=>((p6 id).trans (hnow.ext.bl id)).trans (e2.bl id))
     ·rw [t2,hf1 t (fun hc=>ht (qdJ.2 hc)),p8 t fun hc=>ht (hsl t hc)]
     ·have hnot:id ∉ nw2++(nw1++nw):=fun hc=>(hend id hc).elim hid hno
      simp only [List.mem_append,not_or] at hnot
      rw [hg3 id hnot.1,hf3 id hnot.2.1,p7b id hnot.2.2]
   cases hf:((run E rs res nv nt inl b sx).bind (qkS base es)).ev with
   | none=>rw [hf] at hx;cases hx
   | some o' =>
    rw [hf] at hx
    refine ih sx _ (qkS base es) o' hf φ M w a p2 p3 hsz _ (fun s' φ' M' w' a' hev hnow => ?_) (fun id s' φ' M' w' a' hev hnow => ?_) (fun x' w' a' hev hd hu => ?_)
    ·obtain ⟨y,h3,hh⟩:=theEnd s' φ' M' w' a' (fun y => .leaf (LS.nx y)) o' hnow hev
     cases h3
     exact ⟨y,hx,hh⟩
    ·obtain ⟨y,h3,hh⟩:=theEnd s' φ' M' w' a' (fun y => .leaf (LS.ex id y)) o' hnow hev
     cases h3
     cases hx
     have hf:=finE id y rfl a' w' hh
     revert hf
     unfold qbU
     split <;> exact fun h=>h
    ·cases hev
     cases hx
     exact finR x' rfl a' w' (hd.trans p5.2.1) hu
end
end Yp