/- A part of the proof of the statements of this seat: plain functions, and laws on them. No condition of its own. -/
import Derived.Test.YtbpaehkcjccplaaGreatDoorQ0
import Derived.RangeFuncNested
import Derived.RangeFuncBox
import Derived.RangeFuncLeaves
import Derived.Shelf.Abstract
import Derived.WalkKit
import Derived.OwnWalkIn
import Derived.TacticsInMore
import Derived.LoopNIn
import Derived.LoopIn
import Derived.Maps.AppendAt
import Derived.Test.YtbpaehkcjccplaaGreatDoorProg
import Derived.Conc.LoneCalls
import Derived.KernelRfl
import Derived.Laws.Rows
set_option linter.unusedVariables false
set_option linter.unusedSimpArgs false
namespace Yp
open Go
theorem qmY {σ ρ β:Type} {k:Nat} {y:σ} {kn:σ→Option β} {ke:Nat→σ→Option β} {kr:ρ→Option β}:lc (some (.ex k y)) kn ke kr=ke k y:=rfl
theorem qCH {α:Type} {c:Bool} {a b:α}:sel c (some a) (some b)=some (sel c a b):=by cases c <;> rfl
theorem qHf {α:Type} {c:Bool} {a:α}:sel c a a=a:=by cases c <;> rfl
theorem qlF {σ ρ:Type} {f:σ→Option (LS σ ρ)} (st:Nat→σ) (n:Nat) (p:Nat→Prop) (r:Nat→LS σ ρ) (k:Nat) (hr:∀ i,match r i with | .nx _=>False | _=>True) (hs:∀ i,i < n→p i→f (st i)=some (.nx (st (i+1)))) (hb:∀ i,i < n→¬ p i→f (st i)=some (r i)) (he:f (st n)=some (.ex k (st n))) :
  ((∀ i,i < n→p i)∧loop f (st 0)=some (.ex k (st n)))∨∃ i,i < n∧(∀ j,j < i→p j)∧¬ p i∧loop f (st 0)=some (r i):=by
 by_cases h:∀ i,i < n→p i
 ·refine .inl ⟨h, ?_⟩
  rw [qM st n (fun i hi=>hs i hi (h i hi)) 0 (Nat.zero_le _)]
  exact qT he
 ·refine .inr ?_
  have hex:∃ i,i < n∧¬ p i:=Classical.byContradiction fun hc=>h fun i hi=>Classical.byContradiction fun hp=>hc ⟨i,hi,hp⟩
  obtain ⟨k,hk,hp⟩:=hex
  induction k using Nat.strongRecOn with
  | _ k ih =>
   by_cases hl:∃ j,j < k∧¬ p j
   ·obtain ⟨j,hj,hpj⟩:=hl
    exact ih j hj (by omega) hpj
   ·have hall:∀ i,i < k→p i:=fun i hi=>Classical.byContradiction fun hp=>hl ⟨i,hi,hp⟩
    refine ⟨k,hk,hall,hp, ?_⟩
    rw [qM st k (fun i hi=>hs i (by omega) (hall i hi)) 0 (Nat.zero_le _)]
    have:=hb k hk hp
    have hrk:=hr k
    generalize r k=x at *
    cases x with
    | nx y=>exact hrk.elim
    | ex j y=>exact qT this
    | rt y=>exact qgR this
def frows:List (List Int):=[[1,2,25],[1,3,22,49,70],[1,4,13,14,18],[1,6,3,11,12,15],[1,10,7],[1,12,4],[1,16,53],[1,42,90],[2,19,2],[2,11,32,100],[3,12,37],[3,6,38],[3,2,39],[3,8,41],[3,15,42],[3,42,95],[4,37,35],[4,28,102],[5,400,48],[5,120,54],[6,8,52,64,96,128],[7,255,55],[7,400,127]]
def frow (i:Nat):List Int:=nth frows i (none' Int)
def zD (no:Int):Option (Int×Int):=(frows.find? fun r=>(r.drop 2).contains no).map fun r=>(nth r 0 0,nth r 1 0)
def fr (o:Option (Int×Int)):(Int×Int×Unit)×Bool×Unit:=match o with | some (k,l)=>((k,l,()),true,()) | none=>((0,0,()),false,())
theorem qvD (l:List Int) (n:Int) (hl:l.length≤1000000):qk0 (l,n,())=some (l.contains n,()):=by
 unfold qk0
 generalize hf:(fun (x_1:Bool×Int×Unit)=>_)=f
 have key:=qlF (f:=f) (fun i=>(false,(i:Int),())) l.length (fun i=>¬ nth l i 0=n) (fun _ => .rt (true,())) 0 (fun _=>trivial) ?_ ?_ ?_
 ·rcases key with ⟨h,hr⟩ | ⟨i,hi,_,hp,hr⟩
  ·refine (zH hr).trans ?_
   have:l.contains n=false:=by
    rw [List.contains_eq_mem,decide_eq_false_iff_not]
    intro hm
    obtain ⟨i,hi,rfl⟩:=List.getElem_of_mem hm
    exact h i hi (qL hi)
   rw [this];rfl
  ·refine (zH hr).trans ?_
   have:l.contains n=true:=by
    rw [List.contains_eq_mem,decide_eq_true_eq,← Classical.not_not.1 hp,qL hi];exact List.getElem_mem hi
   rw [this];rfl
 ·intro i hi hp
  subst hf
  refine (qE (qnV.trans (decide_eq_true hi))).trans ?_
  refine (qH (q9 hi)).trans ?_
  refine (qB (wJ hp)).trans ?_
  have c:i64 (iadd (i:Int) 1)=((i+1:Nat):Int):=zE (b:=1) (by omega)
  simp only [c]
 ·intro i hi hp
  subst hf
  refine (qE (qnV.trans (decide_eq_true hi))).trans ?_
  refine (qH (q9 hi)).trans ?_
  exact qE (qfD (Classical.not_not.1 hp))
 ·subst hf
  exact qB (lt_f (by simp only [len];omega))
theorem quL {α:Type} {p:α→Bool}:∀ {l:List α} {i:Nat} (h:i < l.length),(∀ j (hj:j < i),p (l[j]'(by omega))=false)→p l[i]=true→l.find? p=some l[i]
 | a :: r,0,_,_,h=>by simp only [List.getElem_cons_zero] at h ⊢; exact List.find?_cons_of_pos h
 | a :: r,i+1,hi,hj,h=>by
  rw [List.find?_cons_of_neg (by have:=hj 0 (by omega);simp only [List.getElem_cons_zero] at this;rw [this];exact Bool.false_ne_true)]
  simp only [List.getElem_cons_succ] at h ⊢
  exact quL (by simpa using hi) (fun j hj'=>by have:=hj (j+1) (by omega);simpa using this) h
theorem w8 (no:Int):qeK (no,())=some (fr (zD no)):=by
 unfold qeK
 generalize hf:(fun (x_1:Bool×Int×Unit)=>_)=f
 have hlen:∀ i,i < 23→3≤(frow i).length∧(frow i).length≤10:=by decide
 have hin:∀ i,i < 23→qk0 (sub (frow i) 2 (len (frow i)),no,())=some (((frow i).drop 2).contains no,()):=by
  intro i hi
  have:=hlen i hi
  rw [qvD _ _ (by simp only [sub,List.length_take,List.length_drop];omega)]
  have:sub (frow i) 2 (len (frow i))=(frow i).drop 2:=by
   simp only [sub,len]
   rw [List.take_of_length_le (by simp)];rfl
  rw [this]
 have key:=qlF (f:=f) (fun i=>(false,(i:Int),())) 23 (fun i=>((frow i).drop 2).contains no=false) (fun i => .rt ((nth (frow i) 0 0,nth (frow i) 1 0,()),true,())) 0 (fun _=>trivial) ?_ ?_ ?_
 ·have hn:∀ i,(h:i < 23)→frows[i]'(by exact h)=frow i:=fun i h=>(qL (d:=none' Int) (by exact h)).symm
  rcases key with ⟨h,hr⟩ | ⟨i,hi,hj,hp,hr⟩
  ·refine (zH hr).trans ?_
   have:zD no=none:=by
    unfold zD
    rw [Option.map_eq_none_iff,List.find?_eq_none]
    intro r hm
    obtain ⟨i,hi,rfl⟩:=List.getElem_of_mem hm
    rw [hn i hi,h i hi];exact Bool.false_ne_true
   rw [this];rfl
  ·refine (zH hr).trans ?_
   have:zD no=some (nth (frow i) 0 0,nth (frow i) 1 0):=by
    unfold zD
    have hfi:frows.find? (fun r=>(r.drop 2).contains no)=some (frows[i]'(by exact hi)):=quL (l:=frows) (p:=fun (r:List Int)=>(r.drop 2).contains no) hi (fun j hj'=>(congrArg (fun (r:List Int)=>(r.drop 2).contains no) (hn j (by omega))).trans (hj j hj')) ((congrArg (fun (r:List Int)=>(r.drop 2).contains no) (hn i hi)).trans ((Bool.not_eq_false _).mp hp))
    rw [hfi,hn i hi];rfl
   rw [this];rfl
 ·intro i hi hp
  subst hf
  have h:=hlen i hi
  refine (qE (qnV (b:=23).trans (decide_eq_true hi))).trans ?_
  refine (qH (q9 (n:=23) hi)).trans ?_
  refine (qH (show inC 2 (len (frow i)) (len (frow i))=true from qmZ (by omega) (by simp only [len];omega) (by omega))).trans ?_
  refine (qG (hin i hi)).trans ?_
  refine (qB hp).trans ?_
  have c:i64 (iadd (i:Int) 1)=((i+1:Nat):Int):=zE (b:=1) (by omega)
  simp only [c]
 ·intro i hi hp
  subst hf
  have h:=hlen i hi
  refine (qE (qnV (b:=23).trans (decide_eq_true hi))).trans ?_
  refine (qH (q9 (n:=23) hi)).trans ?_
  refine (qH (show inC 2 (len (frow i)) (len (frow i))=true from qmZ (by omega) (by simp only [len];omega) (by omega))).trans ?_
  refine (qG (hin i hi)).trans ?_
  refine (qE ((Bool.not_eq_false _).mp hp)).trans ?_
  repeat refine (qH (q9 (n:=23) hi)).trans ?_
  repeat first
   | refine (qH (show inB 0 (len (frow i))=true from qK9 (by omega) (by simp only [len];omega))).trans ?_
   | refine (qH (show inB 1 (len (frow i))=true from qK9 (by omega) (by simp only [len];omega))).trans ?_
   | refine (qH (q9 (n:=23) hi)).trans ?_
  rfl
 ·subst hf
  exact qB (lt_f (by simp only [len];decide))
def fnums:List Int:=frows.flatMap fun r=>r.drop 2
noncomputable def lg (k no:Int):Int:=match yY (k,no,()) with | some (a,())=>a | none=>0
theorem qlQ (no:Int):∃ a,yC (no,())=some (a,()):=by
 unfold yC
 simp only [qCH]
 exact ⟨_,rfl⟩
theorem qrC (k no:Int):yY (k,no,())=some (lg k no,()):=by
 have:∃ a,yY (k,no,())=some (a,()):=by
  unfold yY
  obtain ⟨a,ha⟩:=qlQ no
  simp only [ha,ob_s,qCH]
  exact ⟨_,rfl⟩
 obtain ⟨a,ha⟩:=this
 unfold lg;rw [ha]
noncomputable def qDZ (no:Int):Option (Int×Int):=if 0 < lg 1 no then some (1,lg 1 no) else if 0 < lg 2 no then some (2,lg 2 no) else if 0 < lg 3 no then some (3,lg 3 no) else if 0 < lg 4 no then some (4,lg 4 no)
 else if 0 < lg 5 no then some (5,lg 5 no) else if 0 < lg 6 no then some (6,lg 6 no) else if 0 < lg 7 no then some (7,lg 7 no) else none
theorem qwB (no:Int):qaE (no,())=some (fr (qDZ no)):=by
 unfold qaE
 generalize hf:(fun (x_1:Bool×Int×Unit)=>_)=f
 have step:∀ k:Nat,k≤7→f (false,(k:Int),())=if 0 < lg k no then some (.rt (((k:Int),lg k no,()),true,())) else some (.nx (false,((k+1:Nat):Int),())):=by
  intro k hk
  subst hf
  refine (qE (le_t (show (k:Int)≤7 by omega))).trans ?_
  refine (qG (qrC _ _)).trans ?_
  have c:i64 (iadd (k:Int) 1)=((k+1:Nat):Int):=zE (b:=1) (by omega)
  simp only [c]
  by_cases h:0 < lg k no
  ·rw [if_pos h];exact qE (lt_t h)
  ·rw [if_neg h];exact qB (lt_f h)
 have last:f (false,((8:Nat):Int),())=some (.ex 0 (false,((8:Nat):Int),())):=by
  subst hf;exact qB (le_f (show ¬ ((8:Nat):Int)≤7 by omega))
 have key:∀ k:Nat,k≤7→lg k no≤0→loop f (false,(k:Int),())=loop f (false,((k+1:Nat):Int),()):=fun k hk h=>vR (by rw [step k hk,if_neg (by omega)])
 have hit:∀ k:Nat,k≤7→0 < lg k no→loop f (false,(k:Int),())=some (.rt (((k:Int),lg k no,()),true,())):=fun k hk h=>qgR (by rw [step k hk,if_pos h])
 have:=key 1;have:=key 2;have:=key 3;have:=key 4;have:=key 5;have:=key 6;have:=key 7
 have:=hit 1;have:=hit 2;have:=hit 3;have:=hit 4;have:=hit 5;have:=hit 6;have:=hit 7
 have h8:loop f (false,((8:Nat):Int),())=some (.ex 0 (false,((8:Nat):Int),())):=qT last
 show lc (loop f (false,((1:Nat):Int),())) _ _ _=_
 unfold qDZ
 repeat' split
 all_goals
  simp_all
  first | done | rfl
theorem qJF {no:Int} (h:∀ c∈fnums,¬ no=c):∀ k,lg k no=0:=by
 have h':∀ c∈fnums,beq no c=false:=fun c hc=>wJ (h c hc)
 have e:fnums=[25,22,49,70,13,14,18,3,11,12,15,7,4,53,90,2,32,100,37,38,39,41,42,95,35,102,48,54,52,64,96,128,55,127]:=by decide
 rw [e] at h'
 simp only [List.mem_cons,List.not_mem_nil,or_false,forall_eq_or_imp,forall_eq] at h'
 intro k
 unfold lg yY yC
 simp only [h',qyA,ob_s,qHf]
theorem qFw (no:Int):qDZ no=zD no:=by
 by_cases h:no∈fnums
 ·exact (by decide +kernel:∀ no∈fnums,qDZ no=zD no) no h
 ·have h':∀ c∈fnums,¬ no=c:=fun c hc e=>h (e ▸ hc)
  have e1:qDZ no=none:=by simp [qDZ,qJF h']
  have e2:zD no=none:=by
   unfold zD
   rw [Option.map_eq_none_iff,List.find?_eq_none]
   intro r hr hc
   rw [List.contains_eq_mem,decide_eq_true_eq] at hc
   exact h (List.mem_flatMap.2 ⟨r,hr,hc⟩)
  rw [e1,e2]
theorem yD (no:Int):qaE (no,())=some (fr (zD no)):=by rw [qwB,qFw]
def kinds (k:Int):Prop:=k=1∨k=2∨k=3∨k=4∨k=5∨k=6∨k=7
instance (k:Int):Decidable (kinds k):=by unfold kinds;infer_instance
theorem yB {no k l:Int} (h:zD no=some (k,l)):kinds k∧1≤l∧l≤400∧(k=2∨k=4→l≤99):=by
 unfold zD at h
 rw [Option.map_eq_some_iff] at h
 obtain ⟨r,hr,he⟩:=h
 have hm:=List.mem_of_find?_eq_some hr
 have:∀ r∈frows,kinds (nth r 0 0)∧1≤nth r 1 0∧nth r 1 0≤400∧(nth r 0 0=2∨nth r 0 0=4→nth r 1 0≤99):=by decide +kernel
 have:=this r hm
 cases he
 exact this
def rng (lo hi:Int) (v:BB):Prop:=∀ i (h:i < v.length),lo≤n8 v[i]∧n8 v[i]≤hi
instance (lo hi:Int) (v:BB):Decidable (rng lo hi v):=inferInstanceAs (Decidable (∀ (i:Nat) (h:i < v.length),lo≤n8 v[i]∧n8 v[i]≤hi))
theorem okl (lo hi:UInt8) (v:BB) (hl:v.length≤1000000):∃ i,loop (fun (x_1:Bool×Int×Unit) =>
  sel (lt x_1.2.1 (len v)) (ck (inB x_1.2.1 (len v)) (ob (sel (lt (n8 (nth v (nat x_1.2.1) (u8 0))) (n8 lo)) (some (true,())) (some (lt (n8 hi) (n8 (nth v (nat x_1.2.1) (u8 0))),())))
   fun (a:Bool×Unit)=>sel a.1 (some (LS.ex 999999999 (false,x_1.2.1,()))) (some (LS.nx (x_1.1,i64 (iadd x_1.2.1 1),())))))
   (some (LS.ex 0 (x_1.1,x_1.2.1,()):LS (Bool×Int×Unit) Unit))) (false,0,())=some (if rng (n8 lo) (n8 hi) v then .ex 0 (false,i,()) else .ex 999999999 (false,i,())):=by
 generalize hf:(fun (x_1:Bool×Int×Unit)=>_)=f
 have key:=qlF (f:=f) (fun i=>(false,(i:Int),())) v.length (fun i=>n8 lo≤n8 (nth v i (u8 0))∧n8 (nth v i (u8 0))≤n8 hi) (fun i => .ex 999999999 (false,(i:Int),())) 0 (fun _=>trivial) ?_ ?_ ?_
 ·rcases key with ⟨h,hr⟩ | ⟨i,hi,_,hp,hr⟩
  ·refine ⟨(v.length:Int),hr.trans ?_⟩
   rw [if_pos (show rng (n8 lo) (n8 hi) v from fun i hi=>by have:=h i hi;rwa [qL hi] at this)]
  ·refine ⟨(i:Int),hr.trans ?_⟩
   rw [if_neg (fun (hc:rng (n8 lo) (n8 _) v)=>hp (by have:=hc i hi;rwa [← qL (d:=u8 0) hi] at this))]
 ·intro i hi hp
  subst hf
  refine (qE (qnV.trans (decide_eq_true hi))).trans ?_
  refine (qH (q9 hi)).trans ?_
  have c:i64 (iadd (i:Int) 1)=((i+1:Nat):Int):=zE (b:=1) (by omega)
  simp only [qZ,c]
  refine (qG (a:=(false,())) ((qB (lt_f (by omega))).trans (congrArg (fun b=>some (b,())) (lt_f (by omega))))).trans ?_
  rfl
 ·intro i hi hp
  subst hf
  refine (qE (qnV.trans (decide_eq_true hi))).trans ?_
  refine (qH (q9 hi)).trans ?_
  simp only [qZ]
  by_cases h:n8 (nth v i (u8 0)) < n8 lo
  ·exact (qG (qE (lt_t h))).trans rfl
  ·exact (qG (a:=(true,())) ((qB (lt_f h)).trans (congrArg (fun b=>some (b,())) (lt_t (by omega))))).trans rfl
 ·subst hf
  exact qB (lt_f (by simp only [len];omega))
def fch (k:Int) (v:BB):Prop:=(k≤2→figs v)∧(k≤5→rng 32 126 v)
def fln (k l:Int) (n:Nat):Prop:=if k=1∨k=3∨k=6 then (n:Int)=l else 1≤n∧(n:Int)≤l
instance (k l:Int) (n:Nat):Decidable (fln k l n):=by unfold fln;infer_instance
def fv (k l:Int) (v:BB):Prop:=fch k v∧fln k l v.length
instance (k l:Int) (v:BB):Decidable (fv k l v):=inferInstanceAs (Decidable (((k≤2→figs v)∧(k≤5→rng 32 126 v))∧fln k l v.length))
theorem qy0 (c:UInt8):n8 c=((c.toNat:Nat):Int):=rfl
theorem qHi {v:BB}:rng 48 57 v↔figs v:=by
 unfold rng figs vB
 refine forall_congr' fun i=>forall_congr' fun h => ?_
 rw [qy0];omega
theorem qiL {v:BB} (h:figs v):rng 32 126 v:=fun i hi=>by
 have:=h i hi
 unfold vB at this
 rw [qy0];omega
def cnt (k:Int):Int:=if k=2∨k=4 then 2 else if k=5∨k=7 then 3 else 0
theorem qbE {k:Int} (hk:kinds k):qR (k,())=some (cnt k,()):=by
 rcases hk with rfl | rfl | rfl | rfl | rfl | rfl | rfl <;> rfl
theorem vV {k:Int} (hk:kinds k):yT (k,())=some (cnt k,()):=by
 rcases hk with rfl | rfl | rfl | rfl | rfl | rfl | rfl <;> rfl
theorem qm3 {o:Option (Int×Int)} {k l:Int} (h:o=some (k,l)):fr o=((k,l,()),true,()):=by rw [h];rfl
theorem qJU {o:Option (Int×Int)} (h:o=none):fr o=((0,0,()),false,()):=by rw [h];rfl
theorem x8 {a b:Bool} (h:a=b):some (a,())=some (b,()):=by rw [h]
def xA (no:Int) (v:BB):Bool:=match zD no with | some (k,l)=>decide (fv k l v) | none=>false
theorem yE (no:Int) (v:BB) (hl:v.length≤1000000):vP (no,v,())=some (xA no v,()):=by
 unfold vP xA
 refine (qG (yD no)).trans ?_
 cases ho:zD no with
 | none=>exact (qG (a:=(true,())) (qE rfl)).trans rfl
 | some p =>
  obtain ⟨k,l⟩:=p
  rw [qm3 rfl]
  obtain ⟨hk,h1,h400,h99⟩:=yB ho
  by_cases hlen:l < v.length
  ·refine (qG (a:=(true,())) ((qB rfl).trans (x8 (lt_t hlen)))).trans ?_
   refine (qE rfl).trans (x8 ?_)
   refine (decide_eq_false fun h => ?_).symm
   have:=h.2
   unfold fln at this
   split at this <;> omega
  refine (qG (a:=(false,())) ((qB rfl).trans (x8 (lt_f hlen)))).trans ?_
  obtain ⟨i,r1⟩:=okl (u8 48) (u8 57) v hl
  obtain ⟨j,r2⟩:=okl (u8 32) (u8 126) v hl
  have e1:rng (n8 (u8 48)) (n8 (u8 57)) v↔figs v:=qHi
  have e2:rng (n8 (u8 32)) (n8 (u8 126)) v↔rng 32 126 v:=Iff.rfl
  simp only [e1] at r1
  simp only [e2] at r2
  have ht:=qbE hk
  have zz:∀ {c:Bool} {p:Prop} [Decidable p],(c=true↔p)→some (c,())=some (decide p,()):=fun {c p _} h=>x8 (Bool.eq_iff_iff.2 (h.trans decide_eq_true_iff.symm))
  refine (qB rfl).trans ?_
  rcases hk with rfl | rfl | rfl | rfl | rfl | rfl | rfl
  ·refine (qE rfl).trans ?_;refine (qE rfl).trans ?_
   refine (zH r1).trans ?_
   by_cases hf:figs v
   ·rw [if_pos hf]
    refine qmY.trans ?_
    refine (qB rfl).trans ?_;refine (qH rfl).trans ?_
    refine (zH r2).trans ?_
    rw [if_pos (qiL hf)]
    refine qmY.trans ?_
    refine (qB rfl).trans ?_;refine (qH rfl).trans ?_
    refine (qG ht).trans ?_
    refine (qB rfl).trans ?_
    refine zz ?_
    simp [beq,len,fv,fln,fch,hf,qiL hf]
   ·rw [if_neg hf]
    refine qmY.trans ?_
    refine (qE rfl).trans ?_;refine (qE rfl).trans ?_
    exact x8 (decide_eq_false fun h=>hf (h.1.1 (by omega))).symm
  ·refine (qB rfl).trans ?_;refine (qE rfl).trans ?_
   refine (zH r1).trans ?_
   by_cases hf:figs v
   ·rw [if_pos hf]
    refine qmY.trans ?_
    refine (qB rfl).trans ?_;refine (qH rfl).trans ?_
    refine (zH r2).trans ?_
    rw [if_pos (qiL hf)]
    refine qmY.trans ?_
    refine (qB rfl).trans ?_;refine (qH rfl).trans ?_
    refine (qG ht).trans ?_
    refine (qE rfl).trans ?_
    refine zz ?_
    simp [lt,len,fv,fln,fch,hf,qiL hf]
    omega
   ·rw [if_neg hf]
    refine qmY.trans ?_
    refine (qE rfl).trans ?_;refine (qE rfl).trans ?_
    exact x8 (decide_eq_false fun h=>hf (h.1.1 (by omega))).symm
  ·refine (qB rfl).trans ?_;refine (qB rfl).trans ?_;refine (qE rfl).trans ?_;refine (qE rfl).trans ?_
   refine (zH r2).trans ?_
   by_cases hf:rng 32 126 v
   ·rw [if_pos hf]
    refine qmY.trans ?_
    refine (qB rfl).trans ?_;refine (qH rfl).trans ?_
    refine (qG ht).trans ?_
    refine (qB rfl).trans ?_
    refine zz ?_
    simp [beq,len,fv,fln,fch,hf]
   ·rw [if_neg hf]
    refine qmY.trans ?_
    refine (qE rfl).trans ?_;refine (qE rfl).trans ?_
    exact x8 (decide_eq_false fun h=>hf (h.1.2 (by omega))).symm
  ·refine (qB rfl).trans ?_;refine (qB rfl).trans ?_;refine (qB rfl).trans ?_;refine (qE rfl).trans ?_
   refine (zH r2).trans ?_
   by_cases hf:rng 32 126 v
   ·rw [if_pos hf]
    refine qmY.trans ?_
    refine (qB rfl).trans ?_;refine (qH rfl).trans ?_
    refine (qG ht).trans ?_
    refine (qE rfl).trans ?_
    refine zz ?_
    simp [lt,len,fv,fln,fch,hf]
    omega
   ·rw [if_neg hf]
    refine qmY.trans ?_
    refine (qE rfl).trans ?_;refine (qE rfl).trans ?_
    exact x8 (decide_eq_false fun h=>hf (h.1.2 (by omega))).symm
  ·refine (qB rfl).trans ?_;refine (qB rfl).trans ?_;refine (qB rfl).trans ?_;refine (qB rfl).trans ?_;refine (qE rfl).trans ?_
   refine (zH r2).trans ?_
   by_cases hf:rng 32 126 v
   ·rw [if_pos hf]
    refine qmY.trans ?_
    refine (qB rfl).trans ?_;refine (qH rfl).trans ?_
    refine (qG ht).trans ?_
    refine (qE rfl).trans ?_
    refine zz ?_
    simp [lt,len,fv,fln,fch,hf]
    omega
   ·rw [if_neg hf]
    refine qmY.trans ?_
    refine (qE rfl).trans ?_;refine (qE rfl).trans ?_
    exact x8 (decide_eq_false fun h=>hf (h.1.2 (by omega))).symm
  ·refine (qB rfl).trans ?_;refine (qB rfl).trans ?_;refine (qB rfl).trans ?_;refine (qB rfl).trans ?_;refine (qB rfl).trans ?_
   refine (qG ht).trans ?_
   refine (qB rfl).trans ?_
   refine zz ?_
   simp [beq,len,fv,fln,fch]
  ·refine (qB rfl).trans ?_;refine (qB rfl).trans ?_;refine (qB rfl).trans ?_;refine (qB rfl).trans ?_;refine (qB rfl).trans ?_
   refine (qG ht).trans ?_
   refine (qE rfl).trans ?_
   refine zz ?_
   simp [lt,len,fv,fln,fch]
   omega
theorem vE (k l:Int) (v:BB) (hl:v.length≤1000000):∃ b,xH ((k,l,()),v,())=some (b,())∧(1≤k→b=decide (fv k l v)):=by
 unfold xH
 generalize hf:(fun (x_1:Bool×Int×Unit)=>_)=f
 have n48:n8 (u8 48)=48:=by decide
 have n57:n8 (u8 57)=57:=by decide
 have n32:n8 (u8 32)=32:=by decide
 have n126:n8 (u8 126)=126:=by decide
 have key:=qlF (f:=f) (fun i=>(false,(i:Int),())) v.length (fun i=>(k≤2→48≤n8 (nth v i (u8 0))∧n8 (nth v i (u8 0))≤57)∧(3≤k→k≤5→32≤n8 (nth v i (u8 0))∧n8 (nth v i (u8 0))≤126)) (fun i => .rt (false,())) 0 (fun _=>trivial) ?_ ?_ ?_
 ·rcases key with ⟨h,hr⟩ | ⟨i,hi,_,hp,hr⟩
  ·refine ⟨fln k l v.length, ?_,fun hk => ?_⟩
   ·refine (zH hr).trans ?_
    refine qmY.trans ?_
    refine (qH rfl).trans ?_
    by_cases hk:k=1∨k=3∨k=6
    ·refine (qG (a:=(true,())) ?_).trans ?_
     ·rcases hk with rfl | rfl | rfl
      ·exact qE rfl
      ·exact (qB rfl).trans (qE rfl)
      ·exact (qB rfl).trans ((qB rfl).trans rfl)
     ·refine (qE rfl).trans ?_
      refine x8 ?_
      rw [Bool.eq_iff_iff]
      simp only [beq,len,fln,if_pos hk,decide_eq_true_eq,beq_iff_eq]
    ·refine (qG (a:=(false,())) ?_).trans ?_
     ·exact (qB (wJ (fun h=>hk (.inl h)))).trans ((qB (wJ (fun h=>hk (.inr (.inl h))))).trans (x8 (wJ (fun h=>hk (.inr (.inr h))))))
     ·refine (qB rfl).trans ?_
      by_cases h1:1≤v.length
      ·refine (qG (qE (le_t (by simp only [len];omega)))).trans ?_
       refine x8 ?_
       rw [Bool.eq_iff_iff]
       simp only [le,len,fln,if_neg hk,decide_eq_true_eq];exact (decide_eq_true_iff (p:=(v.length:Int)≤l)).trans ⟨fun h=>⟨h1,h⟩,fun h=>h.2⟩
      ·refine (qG (qB (le_f (by simp only [len];omega)))).trans ?_
       refine x8 ?_
       rw [Bool.eq_iff_iff]
       simp only [fln,if_neg hk,decide_eq_true_eq,Bool.false_eq_true,false_iff];omega
   ·have hc:fch k v:=by
     refine ⟨fun h2 i hi => ?_,fun h5 i hi => ?_⟩
     ·have:=(h i hi).1 h2
      rw [qL hi,qy0] at this
      unfold vB;omega
     ·by_cases h2:k≤2
      ·have:=(h i hi).1 h2
       rw [qL hi] at this;omega
      ·have:=(h i hi).2 (by omega) h5
       rw [qL hi] at this;omega
    rw [Bool.eq_iff_iff]
    simp [fv,hc]
  ·refine ⟨false,(zH hr).trans rfl,fun hk=>(decide_eq_false fun hc=>hp ⟨fun h2 => ?_,fun h3 h5 => ?_⟩).symm⟩
   ·have:=hc.1.1 h2 i hi
    unfold vB at this
    rw [qL hi,qy0];omega
   ·have:=hc.1.2 h5 i hi
    rw [qL hi];omega
 ·intro i hi hp
  subst hf
  refine (qE (qnV.trans (decide_eq_true hi))).trans ?_
  have c:i64 (iadd (i:Int) 1)=((i+1:Nat):Int):=zE (b:=1) (by omega)
  have ci:inB (i:Int) (len v)=true:=q9 hi
  simp only [qZ,c,n48,n57,n32,n126,ci]
  refine (qG (a:=(false,())) ?_).trans rfl
  by_cases h2:k≤2
  ·have:=hp.1 h2
   refine (qE (le_t h2)).trans ?_
   refine (qH rfl).trans ?_
   refine (qB (lt_f (by omega))).trans ?_
   refine (qH rfl).trans ?_
   refine (qB (lt_f (by omega))).trans ?_
   exact qB (le_f (show ¬ 3≤k by omega))
  ·refine (qB (le_f h2)).trans ?_
   refine (qE (le_t (show 3≤k by omega))).trans ?_
   by_cases h5:k≤5
   ·have:=hp.2 (by omega) h5
    refine (qE (le_t h5)).trans ?_
    refine (qH rfl).trans ?_
    refine (qB (lt_f (by omega))).trans ?_
    refine (qH rfl).trans ?_
    exact x8 (lt_f (by omega))
   ·exact qB (le_f h5)
 ·intro i hi hp
  subst hf
  refine (qE (qnV.trans (decide_eq_true hi))).trans ?_
  have ci:inB (i:Int) (len v)=true:=q9 hi
  simp only [qZ,n48,n57,n32,n126,ci]
  refine (qG (a:=(true,())) ?_).trans rfl
  by_cases h2:k≤2
  ·refine (qE (le_t h2)).trans ?_
   refine (qH rfl).trans ?_
   by_cases ha:n8 (nth v i (u8 0)) < 48
   ·exact qE (lt_t ha)
   ·refine (qB (lt_f ha)).trans ?_
    refine (qH rfl).trans ?_
    refine (qE (lt_t ?_)).trans rfl
    refine Classical.byContradiction fun hb=>hp ⟨fun _=>by omega,fun h=>by omega⟩
  ·by_cases h5:k≤5
   ·refine (qB (le_f h2)).trans ?_
    refine (qE (le_t (show 3≤k by omega))).trans ?_
    refine (qE (le_t h5)).trans ?_
    refine (qH rfl).trans ?_
    by_cases ha:n8 (nth v i (u8 0)) < 32
    ·exact qE (lt_t ha)
    ·refine (qB (lt_f ha)).trans ?_
     refine (qH rfl).trans ?_
     refine x8 (lt_t ?_)
     refine Classical.byContradiction fun hb=>hp ⟨fun _=>by omega,fun _ _=>by omega⟩
   ·exact absurd ⟨fun h=>absurd h h2,fun _ h=>absurd h h5⟩ hp
 ·subst hf
  exact qB (lt_f (by simp only [len];omega))
theorem qqD (no:Int) (v:BB) (hl:v.length≤1000000):qiA (no,v,())=some (xA no v,()):=by
 unfold qiA xA
 refine (qG (w8 no)).trans ?_
 cases ho:zD no with
 | none =>
  rw [qJU rfl]
  obtain ⟨b,hb,_⟩:=vE 0 0 v hl
  refine (qG hb).trans ?_
  exact (qG (qB rfl)).trans rfl
 | some p =>
  obtain ⟨k,l⟩:=p
  rw [qm3 rfl]
  obtain ⟨b,hb,h⟩:=vE k l v hl
  refine (qG hb).trans ?_
  refine (qG (qE rfl)).trans (x8 (h ?_))
  have:=(yB ho).1
  unfold kinds at this;omega
def hdr (k:Int) (n:Nat):BB:=if 0 < cnt k then bcd (pad (ps 10 dch n (cnt k).toNat)) else []
def body (k:Int) (v:BB):BB:=if k≤2 then bcd (pad v) else v
def wrF (k:Int) (v:BB):BB:=hdr k v.length++body k v
def wrD (no:Int) (v:BB):BB×Int×Unit:=match zD no with | none=>([],12,()) | some (k,l)=>if fv k l v then (wrF k v,0,()) else ([],1,())
theorem qEw (p:BB):(bcd p).length=p.length / 2:=by simp [bcd]
theorem zT (p:BB):(bcd (pad p)).length=(p.length+1) / 2:=by rw [qEw,qdD];omega
theorem qj9 (k:Int) (v:BB):(body k v).length=if k≤2 then (v.length+1) / 2 else v.length:=by
 unfold body;split
 ·exact zT v
 ·rfl
theorem qGJ {k l:Int} {v:BB} (hk:kinds k) (h99:k=2∨k=4→l≤99) (h400:l≤400) (hv:fv k l v) (h0:0 < cnt k):(1≤cnt k∧cnt k≤18)∧(0≤(v.length:Int)∧(v.length:Int) < 10 ^ (cnt k).toNat)∧1≤v.length∧(v.length:Int)≤l:=by
 have:=hv.2
 unfold fln at this
 rcases hk with rfl | rfl | rfl | rfl | rfl | rfl | rfl
 ·exact absurd h0 (by decide)
 ·have h2:(10:Int) ^ (cnt 2).toNat=100:=by decide
  rw [if_neg (by decide)] at this
  rw [h2];exact ⟨by decide,by omega,by omega⟩
 ·exact absurd h0 (by decide)
 ·have h2:(10:Int) ^ (cnt 4).toNat=100:=by decide
  rw [if_neg (by decide)] at this
  rw [h2];exact ⟨by decide,by omega,by omega⟩
 ·have h2:(10:Int) ^ (cnt 5).toNat=1000:=by decide
  rw [if_neg (by decide)] at this
  rw [h2];exact ⟨by decide,by omega,by omega⟩
 ·exact absurd h0 (by decide)
 ·have h2:(10:Int) ^ (cnt 7).toNat=1000:=by decide
  rw [if_neg (by decide)] at this
  rw [h2];exact ⟨by decide,by omega,by omega⟩
theorem qrK {k:Int} (hk:kinds k):cnt k=0∨cnt k=2∨cnt k=3:=by
 unfold cnt;split
 ·simp
 ·split <;> simp
theorem qFQ {k:Int} (hk:kinds k):(sel (beq k 1) (some (true,())) (some (beq k 2,())):Option (Bool×Unit))=some (decide (k≤2),()):=by
 rcases hk with rfl | rfl | rfl | rfl | rfl | rfl | rfl <;> rfl
theorem qo0 (no:Int) (v:BB) (hl:v.length≤1000000):qbF (no,v,())=some (wrD no v):=by
 unfold qbF wrD
 refine (qG (yD no)).trans ?_
 cases ho:zD no with
 | none=>rfl
 | some p =>
  obtain ⟨k,l⟩:=p
  rw [qm3 rfl]
  obtain ⟨hk,h1,h400,h99⟩:=yB ho
  refine (qB rfl).trans ?_
  refine (qG (yE no v hl)).trans ?_
  have hfd:xA no v=decide (fv k l v):=by unfold xA;rw [ho]
  rw [hfd]
  by_cases hv:fv k l v
  rotate_left
  ·rw [decide_eq_false hv]
   refine (qE rfl).trans ?_
   simp only [if_neg hv];rfl
  rw [decide_eq_true hv]
  refine (qB rfl).trans ?_
  simp only [if_pos hv]
  refine (qG (qbE hk)).trans ?_
  have hb:=qFQ hk
  have hfig:k≤2→qcI (v,())=some (body k v,0,()):=fun h=>by
   rw [qhD v hl,if_pos (hv.1.1 h)];unfold body;rw [if_pos h]
  have hvl:=qj9 k v
  by_cases h0:0 < cnt k
  ·obtain ⟨c1,c2,c3⟩:=qGJ hk h99 h400 hv h0
   refine (qE (lt_t h0)).trans ?_
   have hd:x6 (len v,cnt k,())=some (ps 10 dch v.length (cnt k).toNat,0,()):=by
    rw [yF _ _ (by simp only [len];omega),if_pos ⟨c1.1,c1.2,c2⟩];rfl
   refine (qG hd).trans ?_
   have hbc:qcI (ps 10 dch v.length (cnt k).toNat,())=some (hdr k v.length,0,()):=by
    rw [qhD _ (by rw [zK];omega),if_pos qj2];unfold hdr;rw [if_pos h0]
   refine (qG hbc).trans ?_
   refine (qG hb).trans ?_
   have hhl:(hdr k v.length).length≤10:=by
    unfold hdr;rw [if_pos h0,zT,zK];omega
   by_cases h2:k≤2
   ·refine (qE (decide_eq_true h2)).trans ?_
    refine (qG (hfig h2)).trans ?_
    rw [if_pos h2] at hvl
    exact (qH (rm_t (by simp only [nadd,ln];omega))).trans rfl
   ·refine (qB (decide_eq_false h2)).trans ?_
    refine (qH (rm_t (by simp only [nadd,ln];omega))).trans ?_
    have:body k v=v:=by unfold body;rw [if_neg h2]
    simp only [wrF,this];rfl
  ·refine (qB (lt_f h0)).trans ?_
   refine (qG hb).trans ?_
   have hh:hdr k v.length=[]:=by unfold hdr;rw [if_neg h0]
   by_cases h2:k≤2
   ·refine (qE (decide_eq_true h2)).trans ?_
    refine (qG (hfig h2)).trans ?_
    rw [if_pos h2] at hvl
    refine (qH (rm_t (by simp only [ln];omega))).trans ?_
    simp only [wrF,hh,List.nil_append]
   ·refine (qB (decide_eq_false h2)).trans ?_
    refine (qH (rm_t (by simp only [ln];omega))).trans ?_
    have:body k v=v:=by unfold body;rw [if_neg h2]
    simp only [wrF,this,hh,List.nil_append]
theorem qoT (no:Int) (v:BB) (hl:v.length≤1000000):qaW (no,v,())=some (wrD no v):=by
 unfold qaW wrD
 refine (qG (w8 no)).trans ?_
 cases ho:zD no with
 | none=>rfl
 | some p =>
  obtain ⟨k,l⟩:=p
  rw [qm3 rfl]
  obtain ⟨hk,h1,h400,h99⟩:=yB ho
  refine (qB rfl).trans ?_
  obtain ⟨b,hb,he⟩:=vE k l v hl
  refine (qG hb).trans ?_
  rw [he (by unfold kinds at hk;omega)]
  by_cases hv:fv k l v
  rotate_left
  ·rw [decide_eq_false hv]
   refine (qE rfl).trans ?_
   simp only [if_neg hv];rfl
  rw [decide_eq_true hv]
  refine (qB rfl).trans ?_
  simp only [if_pos hv]
  refine (qG (vV hk)).trans ?_
  have hfig:k≤2→vT (v,())=some (body k v,0,()):=fun h=>by
   rw [qb9 v hl,if_pos (hv.1.1 h)];unfold body;rw [if_pos h]
  have hvl:=qj9 k v
  by_cases h0:0 < cnt k
  ·obtain ⟨c1,c2,c3⟩:=qGJ hk h99 h400 hv h0
   refine (qE (lt_t h0)).trans ?_
   refine (qG (vV hk)).trans ?_
   have hd:j5 (len v,cnt k,())=some (ps 10 dch v.length (cnt k).toNat,0,()):=by
    rw [vM _ _ (by simp only [len];omega),if_pos ⟨c1.1,c1.2,c2⟩];rfl
   refine (qG hd).trans ?_
   have hbc:vT (ps 10 dch v.length (cnt k).toNat,())=some (hdr k v.length,0,()):=by
    rw [qb9 _ (by rw [zK];omega),if_pos qj2];unfold hdr;rw [if_pos h0]
   refine (qG hbc).trans ?_
   have hhl:(hdr k v.length).length≤10:=by
    unfold hdr;rw [if_pos h0,zT,zK];omega
   by_cases h2:k≤2
   ·refine (qE (decide_eq_true h2)).trans ?_
    refine (qG (hfig h2)).trans ?_
    rw [if_pos h2] at hvl
    refine (qH (rm_t (by simp only [nadd,ln,none',List.length_nil];omega))).trans ?_
    exact (qH (rm_t (by simp only [nadd,ln,none',app,List.length_append,List.length_nil];omega))).trans rfl
   ·refine (qB (decide_eq_false h2)).trans ?_
    refine (qH (rm_t (by simp only [nadd,ln,none',List.length_nil];omega))).trans ?_
    refine (qH (rm_t (by simp only [nadd,ln,none',app,List.length_append,List.length_nil];omega))).trans ?_
    have:body k v=v:=by unfold body;rw [if_neg h2]
    simp only [wrF,this];rfl
  ·refine (qB (lt_f h0)).trans ?_
   have hh:hdr k v.length=[]:=by unfold hdr;rw [if_neg h0]
   by_cases h2:k≤2
   ·refine (qE (decide_eq_true h2)).trans ?_
    refine (qG (hfig h2)).trans ?_
    rw [if_pos h2] at hvl
    refine (qH rfl).trans ?_
    refine (qH (rm_t (by simp only [nadd,ln,none',app,List.length_append,List.length_nil];omega))).trans ?_
    simp only [wrF,hh,List.nil_append];rfl
   ·refine (qB (decide_eq_false h2)).trans ?_
    refine (qH rfl).trans ?_
    refine (qH (rm_t (by simp only [nadd,ln,none',app,List.length_append,List.length_nil];omega))).trans ?_
    have:body k v=v:=by unfold body;rw [if_neg h2]
    simp only [wrF,this,hh,List.nil_append];rfl
theorem zC (a b:BB):z1 (a,b,())=some (seq a b,()):=rfl
theorem qHC {u:BB} {k N:Nat} (hl:u.length=2*k) (hN:(N+1) / 2=k) (h:N % 2=1→nth u 0 (u8 0)=48):pad (u.drop (N % 2))=u:=by
 by_cases ho:N % 2=1
 ·rw [ho]
  unfold pad
  rw [if_pos (by simp;omega)]
  cases u with
  | nil=>simp at hl;omega
  | cons x r=>have:=h ho;simp only [nth,List.getD_cons_zero] at this;rw [this];rfl
 ·have:N % 2=0:=by omega
  rw [this,List.drop_zero];exact qHB (by omega)
theorem qDo {s:BB} (h:figs s):figs (pad s):=by
 unfold pad
 split
 ·intro i hi
  cases i with
  | zero=>exact (by decide:vB 48)
  | succ i=>exact h i (by simpa using hi)
 ·exact h
theorem qvJ (s:BB):(pad s).drop (s.length % 2)=s:=by
 unfold pad
 by_cases h:s.length % 2=1
 ·rw [if_pos h,h];rfl
 ·have:s.length % 2=0:=by omega
  rw [if_neg h,this];rfl
theorem qiI {s:BB} (hf:figs s):jC (bcd (pad s))=pad s:=qGk (qDo hf) (by rw [qdD];omega)
theorem qEv {s t:BB} (hs:figs s) (ht:figs t) (hl:s.length=t.length) (h:bcd (pad s)=bcd (pad t)):s=t:=by
 have:=congrArg jC h
 rw [qiI hs,qiI ht] at this
 rw [← qvJ s,← qvJ t,this,hl]
theorem z5 {b:BB} {I N:Nat} (hI:I≤b.length) (hN:N≤999):(b.length < I+(N+1) / 2∧zJ b I N=([],0,3,())) ∨
  (I+(N+1) / 2≤b.length∧zJ b I N=([],0,2,())∧∀ s,s.length=N→figs s→tk b I ((N+1) / 2)=bcd (pad s)→False) ∨
  (∃ s,I+(N+1) / 2≤b.length∧zJ b I N=(s,((I+(N+1) / 2:Nat):Int),0,())∧figs s∧s.length=N∧tk b I ((N+1) / 2)=bcd (pad s)):=by
 unfold zJ
 simp only [Int.toNat_natCast]
 rw [if_neg (by omega)]
 by_cases h1:(b.length:Int) - I < ((N:Int)+1) / 2
 ·rw [if_pos h1];exact .inl ⟨by omega,rfl⟩
 rw [if_neg h1]
 have hle:I+(N+1) / 2≤b.length:=by omega
 have hul:=vC hle
 have hxl:(jC (tk b I ((N+1) / 2))).length=2*((N+1) / 2):=by rw [zM,hul]
 refine .inr ?_
 by_cases h2:(N:Int) % 2=1∧¬nth (jC (tk b I ((N+1) / 2))) 0 (u8 0)=48
 ·rw [if_pos h2]
  refine .inl ⟨hle,rfl,fun s hs hf h=>h2.2 ?_⟩
  rw [h,qiI hf];unfold pad;rw [if_pos (by omega)];rfl
 rw [if_neg h2]
 have hp:pad ((jC (tk b I ((N+1) / 2))).drop (N % 2))=jC (tk b I ((N+1) / 2)):=qHC hxl rfl fun ho=>Classical.byContradiction fun hc=>h2 ⟨by omega,hc⟩
 by_cases h3:figs ((jC (tk b I ((N+1) / 2))).drop (N % 2))
 ·rw [if_pos h3]
  refine .inr ⟨_,hle, ?_,h3,by rw [List.length_drop,hxl];omega, ?_⟩
  ·simp
  ·have hb:=qGU (u:=tk b I ((N+1) / 2)) (by rw [← hp];exact qDo h3)
   rw [hp,hb]
 ·rw [if_neg h3]
  refine .inl ⟨hle,rfl,fun s hs hf h=>h3 ?_⟩
  rw [h,qiI hf,← hs,qvJ];exact hf
theorem qtS {b x q:BB} {I:Nat} (h:b.drop I=x++q):tk b I x.length=x:=by
 unfold tk;rw [h,List.take_left'];rfl
theorem qiN {b x:BB} {I n:Nat} (h:tk b I n=x):b.drop I=x++b.drop (I+n):=by
 rw [← h];unfold tk
 rw [← List.drop_drop,List.take_append_drop]
theorem qwC {b x:BB} {I:Nat} (hI:I≤b.length) (h:b.drop I=x):b.length=I+x.length:=by
 have:=congrArg List.length h
 rw [List.length_drop] at this;omega
theorem qjK {b s q:BB} {I:Nat} (hI:I≤b.length) (hN:s.length≤999) (hf:figs s) (h:b.drop I=bcd (pad s)++q):zJ b I s.length=(s,((I+(s.length+1) / 2:Nat):Int),0,()):=by
 have hl:=qwC hI h
 have ht:=qtS h
 rw [List.length_append,zT] at hl
 rw [zT] at ht
 rcases z5 hI hN with ⟨h1,_⟩ | ⟨_,_,h2⟩ | ⟨t,_,h3,h4,h5,h6⟩
 ·omega
 ·exact (h2 s rfl hf ht).elim
 ·rw [h3,qEv h4 hf h5 (by rw [← h6,ht])]
def rdB (k l:Int) (b:BB) (a n:Int):BB×Int×Int×Unit :=
 if k≤2 then (if (zJ b a n).2.2.1=0 then ((zJ b a n).1,(zJ b a n).2.1,0,()) else ([],0,(zJ b a n).2.2.1,()))
 else if (b.length:Int) - a < n then ([],0,3,()) else if fv k l (tk b a.toNat n.toNat) then (tk b a.toNat n.toNat,a+n,0,()) else ([],0,2,())
def rdF (k l:Int) (b:BB) (a:Int):BB×Int×Int×Unit :=
 if a < 0∨(b.length:Int) < a then ([],0,1,()) else if 0 < cnt k then
  (if (zJ b a (cnt k)).2.2.1=0 then (if (val (zJ b a (cnt k)).1:Int) < 1∨l < val (zJ b a (cnt k)).1 then ([],0,2,()) else rdB k l b (zJ b a (cnt k)).2.1 (val (zJ b a (cnt k)).1))
  else ([],0,(zJ b a (cnt k)).2.2.1,()))
 else rdB k l b a l
def rdD (no:Int) (b:BB) (a:Int):BB×Int×Int×Unit:=match zD no with | none=>([],0,12,()) | some (k,l)=>rdF k l b a
theorem quN {no k l:Int} {b:BB} {A N:Nat} (ho:zD no=some (k,l)) (hl:b.length≤1000000) (ha:A≤b.length) (hn:1≤N∧N≤400) :
  (ob (sel (beq k 1) (some (true,())) (some (beq k 2,()))) fun (a':Bool×Unit)=>sel a'.1 (ob (vH (b,(A:Int),(N:Int),())) fun (t:BB×Int×Int×Unit)=>sel (bnot (beq t.2.2.1 0)) (some (none' UInt8,0,t.2.2.1,())) (ck (rm 1 (ln t.1)) (some (t.1,t.2.1,0,()))))
   (sel (lt (i64 (isub (len b) (A:Int))) (N:Int)) (some (none' UInt8,0,3,())) (ck (inC (A:Int) (i64 (iadd (A:Int) (N:Int))) (len b)) (ck (rm 1 (nadd (ln (none' UInt8)) (ln (sub b (A:Int) (i64 (iadd (A:Int) (N:Int)))))))
    (ob (vP (no,app (none' UInt8) (sub b (A:Int) (i64 (iadd (A:Int) (N:Int)))),())) fun (a:Bool×Unit)=>sel (bnot a.1) (some (none' UInt8,0,2,())) (some (app (none' UInt8) (sub b (A:Int) (i64 (iadd (A:Int) (N:Int)))),i64 (iadd (A:Int) (N:Int)),0,()))))))
   : Option (BB×Int×Int×Unit))=some (rdB k l b A N):=by
 obtain ⟨hk,h1,h400,h99⟩:=yB ho
 refine (qG (qFQ hk)).trans ?_
 unfold rdB
 by_cases h2:k≤2
 ·refine (qE (decide_eq_true h2)).trans ?_
  rw [if_pos h2]
  refine (qG (wN b A N hl)).trans ?_
  rcases z5 ha (show N≤999 by omega) with ⟨_,h⟩ | ⟨_,h,_⟩ | ⟨s,_,h,_,hs,_⟩
  ·rw [h];rfl
  ·rw [h];rfl
  ·rw [h]
   refine (qB rfl).trans ?_
   refine (qH (rm_t (by simp only [ln];omega))).trans ?_
   rfl
 ·refine (qB (decide_eq_false h2)).trans ?_
  rw [if_neg h2]
  have c0:i64 (isub (len b) (A:Int))=(b.length:Int) - A:=by
   simp only [isub,len];exact z0 (by omega) (by omega)
  have c3:i64 (iadd (A:Int) (N:Int))=((A+N:Nat):Int):=zE (by omega)
  simp only [c0,c3,qCx,Int.toNat_natCast]
  by_cases h3:(b.length:Int) - A < N
  ·rw [if_pos h3];exact qE (lt_t h3)
  rw [if_neg h3]
  refine (qB (lt_f h3)).trans ?_
  have hle:A+N≤b.length:=by omega
  refine (qH (qmZ (by omega) (by omega) (by simp only [len];omega))).trans ?_
  have htl:=vC hle
  refine (qH (rm_t (by simp only [nadd,ln,none',List.length_nil];omega))).trans ?_
  have ha':app (none' UInt8) (tk b A N)=tk b A N:=rfl
  simp only [ha']
  refine (qG (yE no _ (by omega))).trans ?_
  have hfd:xA no (tk b A N)=decide (fv k l (tk b A N)):=by unfold xA;rw [ho]
  rw [hfd]
  by_cases hv:fv k l (tk b A N)
  ·rw [if_pos hv,decide_eq_true hv,← Int.natCast_add];exact qB rfl
  ·rw [if_neg hv,decide_eq_false hv];exact qE rfl
theorem qFR {k l:Int} {s:BB} (h2:k≤2) (hf:figs s) (hn:fln k l s.length):fv k l s:=⟨⟨fun _=>hf,fun _=>qiL hf⟩,hn⟩
theorem qCK {no k l:Int} {b:BB} {A N:Nat} (ho:zD no=some (k,l)) (hl:b.length≤1000000) (ha:A≤b.length) (hn:1≤N∧N≤400) (hfl:fln k l N) :
  (ob (sel (le k 2) (some (i64 (idiv (i64 (iadd (N:Int) 1)) 2),())) (some ((N:Int),()))) fun (a7:Int×Unit)=>sel (lt (i64 (isub (len b) (A:Int))) a7.1) (some (none' UInt8,0,3,()))
   (ck (inC (A:Int) (i64 (iadd (A:Int) a7.1)) (len b)) (ck (rm 1 (nadd (ln (none' UInt8)) (ln (sub b (A:Int) (i64 (iadd (A:Int) a7.1))))))
    (sel (le k 2) (ob (j3 (b,(A:Int),(N:Int),())) fun (t:BB×Int×Int×Unit)=>sel (bnot (beq t.2.2.1 0)) (some (none' UInt8,0,2,())) (ck (rm 1 (ln t.1)) (ob (xH ((k,l,()),t.1,())) fun (a:Bool×Unit)=>sel (bnot a.1) (some (none' UInt8,0,2,())) (some (t.1,i64 (iadd (A:Int) a7.1),0,())))))
     (ob (xH ((k,l,()),app (none' UInt8) (sub b (A:Int) (i64 (iadd (A:Int) a7.1))),())) fun (a:Bool×Unit)=>sel (bnot a.1) (some (none' UInt8,0,2,())) (some (app (none' UInt8) (sub b (A:Int) (i64 (iadd (A:Int) a7.1))),i64 (iadd (A:Int) a7.1),0,()))))))
   : Option (BB×Int×Int×Unit))=some (rdB k l b A N):=by
 obtain ⟨hk,h1,h400,h99⟩:=yB ho
 have hk1:1≤k:=by unfold kinds at hk;omega
 unfold rdB
 have c0:i64 (isub (len b) (A:Int))=(b.length:Int) - A:=by
  simp only [isub,len];exact z0 (by omega) (by omega)
 by_cases h2:k≤2
 ·have c1:i64 (idiv (i64 (iadd (N:Int) 1)) 2)=(((N+1) / 2:Nat):Int):=by
   rw [show i64 (iadd (N:Int) 1)=((N+1:Nat):Int) from zE (b:=1) (by omega)]
   exact qg0 (b:=2) (by omega)
  refine (qG (qE (le_t h2))).trans ?_
  have c3:i64 (iadd (A:Int) (((N+1) / 2:Nat):Int))=((A+(N+1) / 2:Nat):Int):=zE (by omega)
  rw [if_pos h2]
  simp only [c0,c1,c3,qCx]
  rcases z5 ha (show N≤999 by omega) with ⟨h3,h⟩ | ⟨h3,h,_⟩ | ⟨s,h3,h,hf,hs,_⟩
  ·refine (qE (lt_t (by omega))).trans ?_
   rw [h];rfl
  ·refine (qB (lt_f (by omega))).trans ?_
   refine (qH (qmZ (by omega) (by omega) (by simp only [len];omega))).trans ?_
   have htl:=vC h3
   refine (qH (rm_t (by simp only [nadd,ln,none',List.length_nil];omega))).trans ?_
   refine (qE (le_t h2)).trans ?_
   refine (qG (j0 b A N hl)).trans ?_
   rw [h];rfl
  ·refine (qB (lt_f (by omega))).trans ?_
   refine (qH (qmZ (by omega) (by omega) (by simp only [len];omega))).trans ?_
   have htl:=vC h3
   refine (qH (rm_t (by simp only [nadd,ln,none',List.length_nil];omega))).trans ?_
   refine (qE (le_t h2)).trans ?_
   refine (qG (j0 b A N hl)).trans ?_
   rw [h]
   refine (qB rfl).trans ?_
   refine (qH (rm_t (by simp only [ln];omega))).trans ?_
   obtain ⟨t,ht,he⟩:=vE k l s (by omega)
   refine (qG ht).trans ?_
   rw [he hk1,decide_eq_true (qFR h2 hf (by rw [hs];exact hfl))]
   rfl
 ·refine (qG (qB (le_f h2))).trans ?_
  rw [if_neg h2]
  have c3:i64 (iadd (A:Int) (N:Int))=((A+N:Nat):Int):=zE (by omega)
  simp only [c0,c3,qCx,Int.toNat_natCast]
  by_cases h3:(b.length:Int) - A < N
  ·rw [if_pos h3];exact qE (lt_t h3)
  rw [if_neg h3]
  refine (qB (lt_f h3)).trans ?_
  have hle:A+N≤b.length:=by omega
  refine (qH (qmZ (by omega) (by omega) (by simp only [len];omega))).trans ?_
  have htl:=vC hle
  refine (qH (rm_t (by simp only [nadd,ln,none',List.length_nil];omega))).trans ?_
  refine (qB (le_f h2)).trans ?_
  have ha':app (none' UInt8) (tk b A N)=tk b A N:=rfl
  simp only [ha']
  obtain ⟨t,ht,he⟩:=vE k l (tk b A N) (by omega)
  refine (qG ht).trans ?_
  rw [he hk1]
  by_cases hv:fv k l (tk b A N)
  ·rw [if_pos hv,decide_eq_true hv,← Int.natCast_add];exact qB rfl
  ·rw [if_neg hv,decide_eq_false hv];exact qE rfl
theorem qxS {s:BB} (hf:figs s) (h:s.length≤3):val s < 1000:=by
 have:=qDI hf
 have h2:10 ^ s.length≤10 ^ 3:=Nat.pow_le_pow_right (by omega) h
 omega
theorem qGw {k l:Int} {n:Nat} (h0:0 < cnt k) (h1:1≤n) (h2:(n:Int)≤l):fln k l n:=by
 unfold fln
 rw [if_neg]
 ·exact ⟨h1,h2⟩
 ·rintro (rfl | rfl | rfl) <;> exact absurd h0 (by decide)
theorem qv5 {k l:Int} {n:Nat} (hk:kinds k) (h0:¬ 0 < cnt k):fln k l n↔(n:Int)=l:=by
 unfold fln
 rcases hk with rfl | rfl | rfl | rfl | rfl | rfl | rfl <;> first | exact absurd (by decide) h0 | simp
theorem qrD (no:Int) (b:BB) (a:Int) (hl:b.length≤1000000):qiM (no,b,a,())=some (rdD no b a):=by
 unfold qiM rdD
 refine (qG (yD no)).trans ?_
 cases ho:zD no with
 | none=>rfl
 | some p =>
  obtain ⟨k,l⟩:=p
  rw [qm3 rfl]
  obtain ⟨hk,h1,h400,h99⟩:=yB ho
  refine (qB rfl).trans ?_
  show _=some (rdF k l b a)
  unfold rdF
  by_cases h2:a < 0
  ·refine (qG (qE (lt_t h2))).trans ?_
   simp only [if_pos (Or.inl h2:a < 0∨(b.length:Int) < a)];rfl
  by_cases h3:(b.length:Int) < a
  ·refine (qG (a:=(true,())) ((qB (lt_f h2)).trans (x8 (lt_t h3)))).trans ?_
   simp only [if_pos (Or.inr h3:a < 0∨(b.length:Int) < a)];rfl
  refine (qG (a:=(false,())) ((qB (lt_f h2)).trans (x8 (lt_f h3)))).trans ?_
  refine (qB rfl).trans ?_
  rw [if_neg (by omega)]
  obtain ⟨A,rfl⟩:∃ n:Nat,a=n:=⟨a.toNat,by omega⟩
  refine (qG (qbE hk)).trans ?_
  by_cases h0:0 < cnt k
  ·rw [if_pos h0]
   refine (qE (lt_t h0)).trans ?_
   refine (qG (wN b A (cnt k) hl)).trans ?_
   have hcr:=qrK hk
   obtain ⟨C,hC⟩:∃ n:Nat,cnt k=n:=⟨(cnt k).toNat,by omega⟩
   rw [hC]
   rcases z5 (b:=b) (I:=A) (N:=C) (by omega) (by omega) with ⟨_,h⟩ | ⟨_,h,_⟩ | ⟨s,h4,h,hf,hs,_⟩
   ·rw [h];rfl
   ·rw [h];rfl
   ·rw [h]
    refine (qB rfl).trans ?_
    rw [if_pos rfl]
    have hvs:=qxS hf (by omega)
    refine (qG (qcH s)).trans ?_
    rw [if_pos ⟨by omega,by omega,hf⟩]
    by_cases hm1:(val s:Int) < 1
    ·refine (qG (qE (lt_t hm1))).trans ?_
     simp only [if_pos (Or.inl hm1:(val s:Int) < 1∨l < val s)];rfl
    by_cases hm2:l < (val s:Int)
    ·refine (qG (a:=(true,())) ((qB (lt_f hm1)).trans (x8 (lt_t hm2)))).trans ?_
     simp only [if_pos (Or.inr hm2:(val s:Int) < 1∨l < val s)];rfl
    refine (qG (a:=(false,())) ((qB (lt_f hm1)).trans (x8 (lt_f hm2)))).trans ?_
    refine (qB rfl).trans ?_
    rw [if_neg (show ¬((val s:Int) < 1∨l < val s) by omega)]
    exact quN ho hl h4 ⟨by omega,by omega⟩
  ·rw [if_neg h0]
   refine (qB (lt_f h0)).trans ?_
   obtain ⟨L,rfl⟩:∃ n:Nat,l=n:=⟨l.toNat,by omega⟩
   exact quN (b:=b) (A:=A) (N:=L) ho hl (by omega) ⟨by omega,by omega⟩
theorem qqC (no:Int) (b:BB) (a:Int) (hl:b.length≤1000000):qh9 (no,b,a,())=some (rdD no b a):=by
 unfold qh9 rdD
 refine (qG (w8 no)).trans ?_
 cases ho:zD no with
 | none=>rfl
 | some p =>
  obtain ⟨k,l⟩:=p
  rw [qm3 rfl]
  obtain ⟨hk,h1,h400,h99⟩:=yB ho
  refine (qB rfl).trans ?_
  show _=some (rdF k l b a)
  unfold rdF
  by_cases h2:a < 0
  ·refine (qG (qE (lt_t h2))).trans ?_
   simp only [if_pos (Or.inl h2:a < 0∨(b.length:Int) < a)];rfl
  by_cases h3:(b.length:Int) < a
  ·refine (qG (a:=(true,())) ((qB (lt_f h2)).trans (x8 (lt_t h3)))).trans ?_
   simp only [if_pos (Or.inr h3:a < 0∨(b.length:Int) < a)];rfl
  refine (qG (a:=(false,())) ((qB (lt_f h2)).trans (x8 (lt_f h3)))).trans ?_
  refine (qB rfl).trans ?_
  rw [if_neg (by omega)]
  obtain ⟨A,rfl⟩:∃ n:Nat,a=n:=⟨a.toNat,by omega⟩
  refine (qG (vV hk)).trans ?_
  by_cases h0:0 < cnt k
  ·rw [if_pos h0]
   refine (qE (lt_t h0)).trans ?_
   refine (qG (vV hk)).trans ?_
   refine (qG (j0 b A (cnt k) hl)).trans ?_
   have hcr:=qrK hk
   obtain ⟨C,hC⟩:∃ n:Nat,cnt k=n:=⟨(cnt k).toNat,by omega⟩
   rw [hC]
   rcases z5 (b:=b) (I:=A) (N:=C) (by omega) (by omega) with ⟨_,h⟩ | ⟨_,h,_⟩ | ⟨s,h4,h,hf,hs,_⟩
   ·rw [h];rfl
   ·rw [h];rfl
   ·rw [h]
    refine (qB rfl).trans ?_
    rw [if_pos rfl]
    have hvs:=qxS hf (by omega)
    refine (qG (vW s (by omega))).trans ?_
    rw [if_pos ⟨by omega,by omega,hf⟩]
    by_cases hm1:(val s:Int) < 1
    ·refine (qG (qE (lt_t hm1))).trans ?_
     simp only [if_pos (Or.inl hm1:(val s:Int) < 1∨l < val s)];rfl
    by_cases hm2:l < (val s:Int)
    ·refine (qG (a:=(true,())) ((qB (lt_f hm1)).trans (x8 (lt_t hm2)))).trans ?_
     simp only [if_pos (Or.inr hm2:(val s:Int) < 1∨l < val s)];rfl
    refine (qG (a:=(false,())) ((qB (lt_f hm1)).trans (x8 (lt_f hm2)))).trans ?_
    refine (qB rfl).trans ?_
    rw [if_neg (show ¬((val s:Int) < 1∨l < val s) by omega)]
    exact qCK ho hl h4 ⟨by omega,by omega⟩ (qGw h0 (by omega) (by omega))
  ·rw [if_neg h0]
   refine (qB (lt_f h0)).trans ?_
   obtain ⟨L,rfl⟩:∃ n:Nat,l=n:=⟨l.toNat,by omega⟩
   exact qCK (b:=b) (A:=A) (N:=L) ho hl (by omega) ⟨by omega,by omega⟩ ((qv5 hk h0).2 rfl)
end Yp
namespace Yp
open Go
noncomputable def D (p:Prop):Bool := @decide p (Classical.propDecidable p)
theorem qhQ {p:Prop}:D p=true↔p:=by unfold D;exact @decide_eq_true_iff p (Classical.propDecidable p)
theorem D_t {p:Prop} (h:p):D p=true:=qhQ.2 h
theorem D_f {p:Prop} (h:¬ p):D p=false:=by
 cases e:D p
 ·rfl
 ·exact absurd (qhQ.1 e) h
theorem qiW {b:Bool} {p:Prop} (h:b=true↔p):b=D p:=Bool.eq_iff_iff.2 (h.trans qhQ.symm)
@[congr] theorem z6 {α β:Type} {o o':Option α} {k:α→Option β} (h:o=o'):ob o k=ob o' k:=by rw [h]
@[congr] theorem qLS {α:Type} {c c':Bool} {a b:α} (h:c=c'):sel c a b=sel c' a b:=by rw [h]
@[congr] theorem qLU {α:Type} {c c':Bool} {a:Option α} (h:c=c'):ck c a=ck c' a:=by rw [h]
@[congr] theorem qLT {σ ρ β:Type} {o o':Option (LS σ ρ)} {kn:σ→Option β} {ke:Nat→σ→Option β} {kr:ρ→Option β} (h:o=o'):lc o kn ke kr=lc o' kn ke kr:=by rw [h]
theorem g01 {α β:Type} {a:α} {k:α→Option β}:ob (some a) k=k a:=rfl
theorem g02 {α:Type} {p:Prop} {a b:α} (h:p):sel (D p) a b=a:=qE (D_t h)
theorem g03 {α:Type} {p:Prop} {a b:α} (h:¬ p):sel (D p) a b=b:=qB (D_f h)
theorem g04 {α:Type} {p:Prop} {a:Option α} (h:p):ck (D p) a=a:=qH (D_t h)
theorem g05 {α:Type} {a b:α}:sel true a b=a:=rfl
theorem g06 {α:Type} {a b:α}:sel false a b=b:=rfl
theorem g07 {α:Type} {a:Option α}:ck true a=a:=rfl
theorem g08 {a b:Int}:lt a b=D (a < b):=qiW decide_eq_true_iff
theorem g09 {a b:Int}:le a b=D (a≤b):=qiW decide_eq_true_iff
theorem g10 {a b:Int}:beq a b=D (a=b):=by unfold beq;exact qiW beq_iff_eq
theorem g11 {a b:BB}:seq a b=D (a=b):=by unfold seq;exact qiW beq_iff_eq
theorem g12 {p:Prop}:bnot (D p)=D (¬ p):=by
 by_cases h:p
 ·rw [D_t h,D_f (not_not_intro h)];rfl
 ·rw [D_f h,D_t h];rfl
theorem g13 {p q:Prop}:band (D p) (D q)=D (p∧q):=qiW (by simp [band,qhQ])
theorem g14 {p q:Prop}:bor (D p) (D q)=D (p∨q):=qiW (by simp [bor,qhQ])
theorem g15 {c q:Bool}:sel c (some (true,())) (some (q,()))=some (bor c q,()):=by cases c <;> rfl
theorem g16 {c q:Bool}:sel c (some (q,())) (some (false,()))=some (band c q,()):=by cases c <;> rfl
theorem g17 {c d:Bool} {x:Option (Bool×Unit)}:sel c (sel d x (some (false,()))) (some (false,()))=sel (band c d) x (some (false,())):=by cases c <;> rfl
theorem g18 {c d:Bool} {x:Option (Bool×Unit)}:sel c (some (true,())) (sel d (some (true,())) x)=sel (bor c d) (some (true,())) x:=by cases c <;> rfl
theorem g19 {a b c:Int}:inC a b c=D (0≤a∧a≤b∧b≤c):=qiW (by simp [inC,and_assoc])
theorem g20 {a b:Int}:inB a b=D (0≤a∧a < b):=qiW (by simp [inB])
theorem g21 {c n:Nat}:rm c n=D (n*c≤140737488355328):=qiW decide_eq_true_iff
theorem g22 {α:Type} {l:List α}:len l=(l.length:Int):=rfl
theorem g23 {α:Type} {l:List α}:ln l=l.length:=rfl
theorem g24 {a b:Nat}:nadd a b=a+b:=rfl
theorem g25 {α:Type} {a b:List α}:app a b=a++b:=rfl
theorem g26 {α:Type}:none' α=[]:=rfl
theorem g27 {n:Int} (h : -9223372036854775808≤n∧n≤9223372036854775807):i64 n=n:=z0 h.1 h.2
theorem g28 {a b:Int}:iadd a b=a+b:=rfl
theorem g29 {a b:Int}:isub a b=a - b:=rfl
theorem g30 {a b:Int}:imul a b=a*b:=rfl
theorem g31 {a b:Int} (h:0≤a):idiv a b=a / b:=by simp only [idiv];exact Int.tdiv_eq_ediv_of_nonneg h
theorem g32 {a b:Int} (h:0≤a):imod a b=a % b:=by simp only [imod];exact Int.tmod_eq_emod_of_nonneg h
theorem g33 {a:Int}:nat a=a.toNat:=rfl
theorem g34 {a:Nat}:ofn a=(a:Int):=rfl
theorem g35 {a b:Nat}:nsub a b=a - b:=rfl
theorem g36 {c:Bool}:band true c=c:=rfl
theorem g37 {c:Bool}:band c true=c:=by cases c <;> rfl
theorem g38 {c:Bool}:bor false c=c:=rfl
theorem g39 {c:Bool}:bor c false=c:=by cases c <;> rfl
theorem g40 {c:Bool}:bnot (bnot c)=c:=by cases c <;> rfl
theorem g41:bnot true=false:=rfl
theorem g42:bnot false=true:=rfl
theorem g43 {a b:Bool}:beb a b=D (a=b):=qiW (by unfold beb;exact beq_iff_eq)
theorem g44 {c:Bool}:band false c=false:=rfl
theorem g45 {c:Bool}:band c false=false:=by cases c <;> rfl
theorem g46 {c:Bool}:bor true c=true:=rfl
theorem g47 {c:Bool}:bor c true=true:=by cases c <;> rfl
theorem g48 {α β:Type} {k:α→Option β}:ob none k=none:=rfl
theorem g49 {p q:Prop}:(D p=D q)=(p↔q):=by
 refine propext ⟨fun h=>qhQ.symm.trans ((Bool.eq_iff_iff.1 h).trans qhQ),fun h=>Bool.eq_iff_iff.2 (qhQ.trans (h.trans qhQ.symm))⟩
theorem g50 {α:Type} {c:Bool} {a:α}:sel c a a=a:=by cases c <;> rfl
theorem g51 {p:Prop} [Decidable p]:decide p=D p:=qiW decide_eq_true_iff
theorem g52:D True=true:=D_t trivial
theorem g53:D False=false:=D_f not_false
theorem g54 {p:Prop}:(D p=true)=p:=propext qhQ
theorem g55 {p:Prop}:(D p=false)=¬ p:=by
 refine propext ⟨fun h hp => ?_,D_f⟩
 rw [D_t hp] at h;cases h
theorem g56 {p:Prop}:(true=D p)=p:=propext ⟨fun h=>qhQ.1 h.symm,fun h=>(qhQ.2 h).symm⟩
theorem g57 {a b:Int}:minI a b=min a b:=by unfold minI;split <;> omega
theorem g58 {a b:Int}:maxI a b=max a b:=by unfold maxI;split <;> omega
theorem g60 {a:UInt16}:n16 a=(a.toNat:Int):=rfl
theorem g61 {a:Int} (h:0≤a∧a < 256):n8 (u8 a)=a:=by
 obtain ⟨n,rfl⟩:∃ n:Nat,a=n:=⟨a.toNat,by omega⟩
 exact qLH (by omega)
theorem qHM {σ ρ β:Type} {y:σ} {kn:σ→Option β} {ke:Nat→σ→Option β} {kr:ρ→Option β}:lc (some (.nx y)) kn ke kr=kn y:=rfl
theorem qCB {p:Prop} (h:p):some (D p,())=some (true,()):=by rw [D_t h]
theorem qmL {p:Prop} (h:¬ p):some (D p,())=some (false,()):=by rw [D_f h]
theorem vZ {p q:Prop} (h:p↔q):some (D p,())=some (D q,()):=by rw [show p=q from propext h]
theorem qDa {σ ρ β:Type} {r:ρ} {kn:σ→Option β} {ke:Nat→σ→Option β} {kr:ρ→Option β}:lc (some (.rt r)) kn ke kr=kr r:=rfl
theorem qqX {σ ρ β:Type} {y:σ} {k:Nat} {kn:σ→Option β} {ke:Nat→σ→Option β} {kr:ρ→Option β}:lc (some (.ex k y)) kn ke kr=ke k y:=rfl
theorem g62 {k:Nat}:neb k k=true:=by simp [neb]
theorem g63 {n:Nat}:nat (n:Int)=n:=qZ
theorem g64:((1:Nat):Int)=1:=rfl
theorem g65:((0:Nat):Int)=0:=rfl
theorem g66 {p:Prop}:(false=D p)=¬ p:=propext ⟨fun h=>g55.mp h.symm,fun h=>(D_f h).symm⟩
def yV {β σ ρ:Type} (mk:β→Nat→σ) (i:Nat):LS β ρ→LS σ ρ
 | .nx b => .nx (mk b (i+1)) | .ex k b => .ex k (mk b i) | .rt r => .rt r
def kJ {α β σ ρ:Type} (mk:β→Nat→σ) (e:Nat) (step:β→α→LS β ρ):β→Nat→List α→LS σ ρ
 | b,i,[] => .ex e (mk b i)
 | b,i,x :: r=>match step b x with
  | .nx b'=>kJ mk e step b' (i+1) r
  | .ex k b' => .ex k (mk b' i)
  | .rt q => .rt q
theorem xJ {α β σ ρ:Type} {f:σ→Option (LS σ ρ)} (l:List α) (mk:β→Nat→σ) (e:Nat) (step:β→α→LS β ρ) (I:β→Nat→Prop)
  (hs:∀ b i (h:i < l.length),I b i→f (mk b i)=some (yV mk i (step b l[i]))∧∀ b',step b l[i] = .nx b'→I b' (i+1))
  (he:∀ b,I b l.length→f (mk b l.length)=some (.ex e (mk b l.length))) (b0:β) (h0:I b0 0):loop f (mk b0 0)=some (kJ mk e step b0 0 l):=by
 have key:∀ (r:List α) (i:Nat) (b:β),l.drop i=r→i≤l.length→I b i→loop f (mk b i)=some (kJ mk e step b i r):=by
  intro r
  induction r with
  | nil =>
   intro i b hr hi hI
   have hl:=congrArg List.length hr
   rw [List.length_drop,List.length_nil] at hl
   have:i=l.length:=by omega
   subst this
   exact qT (he b hI)
  | cons x r ih =>
   intro i b hr hi hI
   have hl:=congrArg List.length hr
   rw [List.length_drop,List.length_cons] at hl
   have hlt:i < l.length:=by omega
   have hx:l[i]=x∧l.drop (i+1)=r:=by
    rw [List.drop_eq_getElem_cons hlt] at hr
    exact ⟨(List.cons.inj hr).1,(List.cons.inj hr).2⟩
   obtain ⟨h1,h2⟩:=hs b i hlt hI
   rw [hx.1] at h1 h2
   unfold kJ
   cases hst:step b x with
   | nx b'=>rw [hst] at h1;rw [vR h1];exact ih (i+1) b' hx.2 hlt (h2 b' hst)
   | ex k b'=>rw [hst] at h1;exact qT h1
   | rt q=>rw [hst] at h1;exact qgR h1
 exact key l 0 b0 rfl (Nat.zero_le _) h0
attribute [go_sem ↓] g02 g03 g04 g05 g06
attribute [go_sem] g01 g02 g03 g04 g05 g06 g07 g08 g09 g10 g11 g12 g13 g14 g15 g16 g17 g18 g19 g20 g21 g22 g23 g24 g25 g26 g27 g28 g29 g30 g31 g32 g34 g35 g36 g37 g38 g39 g40 g41 g42 g43 g44 g45 g46 g47 g48 g49 g50 g51 g52 g53 g54 g55 g56 g57 g58 g60 g61 not_true_eq_false not_false_eq_true List.nil_append List.append_nil List.length_nil and_true true_and or_true true_or or_false false_or and_false false_and if_true if_false qDa qqX qHM g62 g63 Int.toNat_natCast Int.natCast_add qL g33 g64 g65 Int.toNat_zero Bool.false_eq_true g66
end Yp
namespace Yp
open Go
theorem kH {b x q:BB} {A:Nat} (hA:A≤b.length) (h:b.drop A=x++q):A+x.length≤b.length∧b.drop (A+x.length)=q:=by
 have:=qwC hA h
 rw [List.length_append] at this
 refine ⟨by omega, ?_⟩
 rw [← List.drop_drop,h,List.drop_left]
theorem qFo {k l:Int} {b v q:BB} {A:Nat} (hA:A≤b.length) (hv:fv k l v) (h400:v.length≤400) (h:b.drop A=body k v++q):rdB k l b A v.length=(v,((A+(body k v).length:Nat):Int),0,()):=by
 have hl:=(kH hA h).1
 unfold rdB
 by_cases h2:k≤2
 ·have hb:body k v=bcd (pad v):=by unfold body;rw [if_pos h2]
  rw [hb] at h ⊢
  rw [if_pos h2,qjK hA (by omega) (hv.1.1 h2) h,zT]
  rfl
 ·have hb:body k v=v:=by unfold body;rw [if_neg h2]
  rw [hb] at h hl ⊢
  have ht:=qtS h
  simp only [Int.toNat_natCast]
  rw [if_neg h2,if_neg (by omega),ht,if_pos hv];rfl
theorem qFn {k l:Int} {b v:BB} {A N:Nat} {I:Int} (hA:A≤b.length) (hN:N≤400) (h:rdB k l b A N=(v,I,0,())) :
  v.length=N∧(k≤2→figs v)∧(¬ k≤2→fv k l v)∧I=((A+(body k v).length:Nat):Int)∧A+(body k v).length≤b.length∧tk b A (body k v).length=body k v:=by
 unfold rdB at h
 by_cases h2:k≤2
 ·rw [if_pos h2] at h
  rcases z5 hA (show N≤999 by omega) with ⟨_,e⟩ | ⟨_,e,_⟩ | ⟨s,h3,e,hf,hs,ht⟩
  ·rw [e] at h;simp at h
  ·rw [e] at h;simp at h
  ·rw [e] at h
   simp only [if_pos,Prod.mk.injEq,and_true] at h
   obtain ⟨rfl,rfl⟩:=h
   have hb:body k s=bcd (pad s):=by unfold body;rw [if_pos h2]
   have hbl:(bcd (pad s)).length=(N+1) / 2:=by rw [zT,hs]
   rw [hb,hbl]
   exact ⟨hs,fun _=>hf,fun hc=>absurd h2 hc,rfl,h3,ht⟩
 ·rw [if_neg h2] at h
  by_cases h3:(b.length:Int) - A < N
  ·rw [if_pos h3] at h;simp at h
  rw [if_neg h3] at h
  simp only [Int.toNat_natCast] at h
  by_cases h4:fv k l (tk b A N)
  ·rw [if_pos h4] at h
   simp only [Prod.mk.injEq,and_true] at h
   obtain ⟨rfl,rfl⟩:=h
   have hl:=vC (show A+N≤b.length by omega)
   have hb:body k (tk b A N)=tk b A N:=by unfold body;rw [if_neg h2]
   rw [hb,hl]
   exact ⟨rfl,fun hc=>absurd hc h2,fun _=>h4,by omega,by omega,rfl⟩
  ·rw [if_neg h4] at h;simp at h
theorem qIB {k:Int} {n:Nat} (h0:0 < cnt k):hdr k n=bcd (pad (ps 10 dch n (cnt k).toNat)):=by unfold hdr;rw [if_pos h0]
theorem qGn {k:Int} {n:Nat} (h0:¬ 0 < cnt k):hdr k n=[]:=by unfold hdr;rw [if_neg h0]
theorem qD7 {k:Int} {n:Nat}:(hdr k n).length=if 0 < cnt k then ((cnt k).toNat+1) / 2 else 0:=by
 unfold hdr;split
 ·rw [zT,zK]
 ·rfl
theorem qmH {k:Int} {v:BB} (hk:kinds k):(wrF k v).length=(if k=2∨k=4 then 1 else if k=5∨k=7 then 2 else 0)+(if k≤2 then (v.length+1) / 2 else v.length):=by
 unfold wrF
 rw [List.length_append,qj9,qD7]
 congr 1
 rcases hk with rfl | rfl | rfl | rfl | rfl | rfl | rfl <;> rfl
theorem qID {no k l:Int} {v:BB} (ho:zD no=some (k,l)) (hv:fv k l v):1≤v.length∧(v.length:Int)≤l∧v.length≤400:=by
 obtain ⟨hk,h1,h400,_⟩:=yB ho
 have:=hv.2
 unfold fln at this
 split at this <;> omega
theorem qI9 {no k l:Int} {b v q:BB} {A:Nat} (ho:zD no=some (k,l)) (hA:A≤b.length) (hv:fv k l v) (h:b.drop A=wrF k v++q):rdF k l b A=(v,((A+(wrF k v).length:Nat):Int),0,()):=by
 obtain ⟨hk,h1,h400,h99⟩:=yB ho
 obtain ⟨hv1,hv2,hv3⟩:=qID ho hv
 unfold rdF
 rw [if_neg (by omega)]
 unfold wrF at h ⊢
 by_cases h0:0 < cnt k
 ·rw [if_pos h0]
  obtain ⟨c1,c2,c3⟩:=qGJ hk h99 h400 hv h0
  rw [qIB h0] at h ⊢
  rw [List.append_assoc] at h
  have hp:=qjK (s:=ps 10 dch v.length (cnt k).toNat) hA (by rw [zK];omega) qj2 h
  rw [zK,Int.toNat_of_nonneg (by omega)] at hp
  rw [hp]
  have hval:val (ps 10 dch v.length (cnt k).toNat)=v.length:=by
   rw [qEF,Nat.mod_eq_of_lt]
   have:=c2.2
   have h10:((10:Int) ^ (cnt k).toNat)=((10 ^ (cnt k).toNat:Nat):Int):=qHt 10 _
   rw [h10] at this;omega
  simp only [if_pos]
  rw [hval,if_neg (by omega)]
  have hd:=kH hA h
  rw [zT,zK] at hd
  rw [qFo hd.1 hv hv3 hd.2,List.length_append,zT,zK]
  simp only [Nat.add_assoc]
 ·rw [if_neg h0]
  have hl:=(qv5 hk h0).1 hv.2
  rw [qGn h0,List.nil_append] at h ⊢
  have:=qFo hA hv hv3 h
  rw [hl] at this;exact this
theorem qI8 {no k l:Int} {b v:BB} {A:Nat} {I:Int} (ho:zD no=some (k,l)) (hA:A≤b.length) (h:rdF k l b A=(v,I,0,())) :
  fv k l v∧I=((A+(wrF k v).length:Nat):Int)∧A+(wrF k v).length≤b.length∧b.drop A=wrF k v++b.drop (A+(wrF k v).length):=by
 obtain ⟨hk,h1,h400,h99⟩:=yB ho
 unfold rdF at h
 rw [if_neg (by omega)] at h
 by_cases h0:0 < cnt k
 ·rw [if_pos h0] at h
  have hcr:=qrK hk
  obtain ⟨C,hC⟩:∃ n:Nat,cnt k=n:=⟨(cnt k).toNat,by omega⟩
  rw [hC] at h
  rcases z5 hA (show C≤999 by omega) with ⟨_,e⟩ | ⟨_,e,_⟩ | ⟨s,h3,e,hf,hs,ht⟩
  ·rw [e] at h;simp at h
  ·rw [e] at h;simp at h
  ·rw [e] at h
   simp only [if_pos] at h
   by_cases hm:(val s:Int) < 1∨l < val s
   ·rw [if_pos hm] at h;simp at h
   rw [if_neg hm] at h
   obtain ⟨e1,e2,e3,e4,e5,e6⟩:=qFn h3 (by omega) h
   have hfv:fv k l v:=by
    by_cases h2:k≤2
    ·exact qFR h2 (e2 h2) (qGw h0 (by omega) (by omega))
    ·exact e3 h2
   have hh:hdr k v.length=bcd (pad s):=by
    rw [qIB h0,e1,hC,Int.toNat_natCast,← hs,qIs hf]
   have hhl:(hdr k v.length).length=(C+1) / 2:=by rw [hh,zT,hs]
   refine ⟨hfv, ?_, ?_, ?_⟩
   ·rw [e4];unfold wrF;rw [List.length_append,hhl];omega
   ·unfold wrF;rw [List.length_append,hhl];omega
   ·unfold wrF
    rw [List.length_append,hhl,← Nat.add_assoc,List.append_assoc,← qiN e6,hh]
    exact qiN ht
 ·rw [if_neg h0] at h
  obtain ⟨L,hL⟩:∃ n:Nat,l=n:=⟨l.toNat,by omega⟩
  rw [hL] at h
  obtain ⟨e1,e2,e3,e4,e5,e6⟩:=qFn hA (by omega) h
  rw [← hL] at e3
  have hfv:fv k l v:=by
   by_cases h2:k≤2
   ·exact qFR h2 (e2 h2) ((qv5 hk h0).2 (by omega))
   ·exact e3 h2
  refine ⟨hfv, ?_, ?_, ?_⟩ <;> unfold wrF <;> rw [qGn h0,List.nil_append]
  ·exact e4
  ·exact e5
  ·exact qiN e6
theorem qKn {k:Int} {v:BB} (hk:kinds k) (h:v.length≤400):(wrF k v).length≤402:=by
 rw [qmH hk];repeat' split
 all_goals omega
theorem qIR {k:Int} {v:BB} (hk:kinds k) (h:1≤v.length):1≤(wrF k v).length:=by
 rw [qmH hk];repeat' split
 all_goals omega
abbrev V:=Int×BB×Unit
abbrev M:=Int×List V×Unit
def jO (m:Int):Prop:=100≤m∧m≤899∧m / 10 % 10≤4∧m % 10≤5
instance (m:Int):Decidable (jO m):=inferInstanceAs (Decidable (_∧_))
theorem yA (m:Int) (n:Nat) (hn:n≤3) (h0:0≤m) (h:m≤9223372036854775807):kF (m,(n:Int),())=some (m / 10 ^ n % 10,()):=by
 unfold kF
 generalize hf:(fun (x_1:Int×Int×Unit)=>_)=f
 have step:∀ (k:Int) (i:Nat),i < n→0≤k→k≤9223372036854775807→f (k,(i:Int),())=some (.nx (k / 10,((i+1:Nat):Int),())):=fun k i hi h0 h1=>by
  subst hf;simp (disch:=omega) only [go_sem,Int.reduceToNat]
 have last:∀ (k:Int),f (k,(n:Int),())=some (.ex 0 (k,(n:Int),())):=fun k=>by
  subst hf;simp (disch:=omega) only [go_sem,Int.reduceToNat]
 have hn:n=0∨n=1∨n=2∨n=3:=by omega
 have e:loop f (m,((0:Nat):Int),())=some (.ex 0 (m / 10 ^ n,(n:Int),())):=by
  rcases hn with rfl | rfl | rfl | rfl
  ·rw [qT (last m)];simp
  ·rw [vR (step m 0 (by omega) h0 h),qT (last _)];simp
  ·rw [vR (step m 0 (by omega) h0 h),vR (step _ 1 (by omega) (by omega) (by omega)),qT (last _)];simp;omega
  ·rw [vR (step m 0 (by omega) h0 h),vR (step _ 1 (by omega) (by omega) (by omega)),vR (step _ 2 (by omega) (by omega) (by omega)),qT (last _)];simp;omega
 refine (zH e).trans ?_
 have:0≤m / 10 ^ n:=by rcases hn with rfl | rfl | rfl | rfl <;> simp <;> omega
 simp (disch:=omega) only [go_sem,Int.reduceToNat]
theorem qaC (m:Int):qeX (m,())=some (D (jO m),()):=by
 unfold qeX
 by_cases h:m < 0∨999 < m
 ·have hn:¬ jO m:=by unfold jO;omega
  simp (disch:=omega) only [go_sem,Int.reduceToNat,hn]
 ·have h0:=yA m 0 (by omega) (by omega) (by omega)
  have h1:=yA m 1 (by omega) (by omega) (by omega)
  have h2:=yA m 2 (by omega) (by omega) (by omega)
  simp at h0 h1 h2
  simp (disch:=omega) only [go_sem,Int.reduceToNat,h0,h1,h2]
  exact vZ (by unfold jO;omega)
theorem qaV (m:Int):qc1 (m,())=some (D (jO m),()):=by
 unfold qc1
 by_cases h:100≤m∧m≤899
 ·simp (disch:=first | assumption | omega | (dsimp only;omega) | decide) only [go_sem,Int.reduceToNat]
  exact vZ (by unfold jO;omega)
 ·have hn:¬ jO m:=by unfold jO;omega
  simp (disch:=omega) only [go_sem,Int.reduceToNat,hn]
def zU:Int→List V→Bool
 | _,[]=>true
 | last,v :: r=>decide (last < v.1) && (xA v.1 v.2.1 && zU v.1 r)
def xE (m:M):Bool:=zU 0 m.2.1 && decide (jO m.1)
def fewM (m:M):Prop:=m.2.1.length≤1000∧∀ v∈m.2.1,v.2.1.length≤1000000
theorem fewM.nth {m:M} (h:fewM m) {i:Nat} (hi:i < m.2.1.length):(m.2.1[i]).2.1.length≤1000000:=h.2 _ (List.getElem_mem hi)
def jY (last:Int) (v:V):LS Int (Bool×Unit):=if last < v.1∧xA v.1 v.2.1=true then .nx v.1 else .rt (false,())
theorem qj1 {σ:Type} {mk:Int→Nat→σ} {e:Nat}:∀ (l:List V) (last:Int) (i:Nat),(zU last l=true∧∃ y,kJ mk e jY last i l = .ex e y)∨(zU last l=false∧kJ mk e jY last i l = .rt (false,()))
 | [],last,i => .inl ⟨rfl,_,rfl⟩
 | v :: r,last,i=>by
  by_cases h:last < v.1∧xA v.1 v.2.1=true
  ·have hs:jY last v = .nx v.1:=if_pos h
   have:=qj1 (mk:=mk) (e:=e) r v.1 (i+1)
   simp only [kJ,hs,zU,h.1,h.2,decide_true,Bool.true_and];exact this
  ·have hs:jY last v = .rt (false,()):=if_neg h
   refine .inr ⟨?_,by simp only [kJ,hs]⟩
   simp only [zU,Bool.and_eq_false_iff,decide_eq_false_iff_not]
   by_cases h1:last < v.1
   ·right;left;exact (Bool.not_eq_true _).mp fun hc=>h ⟨h1,hc⟩
   ·exact .inl h1
theorem qs3 (m:M) (hm:fewM m):qlH (m,())=some (xE m,()):=by
 unfold qlH
 generalize hf:(fun (x_1:Bool×Int×Int×Unit)=>_)=f
 have hl:=hm.1
 have key:=xJ (f:=f) m.2.1 (fun last i=>(false,last,(i:Int),())) 0 jY (fun _ _=>True) (fun b i h _=>⟨?_,fun _ _=>trivial⟩) (fun b _ => ?_) 0 trivial
 ·refine (zH key).trans ?_
  unfold xE
  rcases qj1 (mk:=fun last i=>((false,last,(i:Int),()):Bool×Int×Int×Unit)) (e:=0) m.2.1 0 0 with ⟨h1,y,h2⟩ | ⟨h1,h2⟩
  ·rw [h1,h2];simp (disch:=first | assumption | omega | (dsimp only;omega) | decide) only [go_sem,Int.reduceToNat,qaC,Bool.true_and]
  ·rw [h1,h2];simp (disch:=first | assumption | omega | (dsimp only;omega) | decide) only [go_sem,Int.reduceToNat,Bool.false_and]
 ·subst hf
  have:=hm.nth h
  have hfd:=yE (m.2.1[i]).1 (m.2.1[i]).2.1 this
  by_cases h1:m.2.1[i].1≤b
  ·have hs:jY b m.2.1[i] = .rt (false,()):=if_neg fun hc=>by omega
   simp (disch:=omega) only [go_sem,Int.reduceToNat,hs,yV]
  ·cases h2:xA (m.2.1[i]).1 (m.2.1[i]).2.1
   ·have hs:jY b m.2.1[i] = .rt (false,()):=if_neg fun hc=>by rw [h2] at hc;exact absurd hc.2 (by simp)
    simp (disch:=omega) only [go_sem,Int.reduceToNat,hfd,h2,hs,yV]
   ·have hs:jY b m.2.1[i] = .nx m.2.1[i].1:=if_pos ⟨by omega,h2⟩
    simp (disch:=omega) only [go_sem,Int.reduceToNat,hfd,h2,hs,yV]
 ·subst hf;simp (disch:=omega) only [go_sem,Int.reduceToNat]
theorem qD9 {no:Int} (h:no≤0):zD no=none:=by
 unfold zD
 rw [Option.map_eq_none_iff,List.find?_eq_none]
 have:∀ r∈frows,∀ c∈r.drop 2,1≤c:=by decide +kernel
 intro r hr hc
 rw [List.contains_eq_mem,decide_eq_true_eq] at hc
 have:=this r hr no hc
 omega
theorem qGx {no:Int} {v:BB} (h:xA no v=true):1≤no:=by
 refine Classical.byContradiction fun hc => ?_
 unfold xA at h
 rw [qD9 (by omega)] at h
 exact absurd h (by simp)
theorem qoR (m:M) (hm:fewM m):qeH (m,())=some (xE m,()):=by
 unfold qeH
 generalize hf:(fun (x_1:Bool×Int×Unit)=>_)=f
 have hl:=hm.1
 have key:=xJ (f:=f) m.2.1 (fun (last:Int) i=>(false,(i:Int),())) 0 jY (fun b i=>(i=0∧b=0)∨∃ h:i - 1 < m.2.1.length,0 < i∧m.2.1[i - 1].1=b) (fun b i h hI=>⟨?_,fun b' hb => ?_⟩) (fun b _ => ?_) 0 (.inl ⟨rfl,rfl⟩)
 ·refine (zH key).trans ?_
  unfold xE
  rcases qj1 (mk:=fun (last:Int) i=>((false,(i:Int),()):Bool×Int×Unit)) (e:=0) m.2.1 0 0 with ⟨h1,y,h2⟩ | ⟨h1,h2⟩
  ·rw [h1,h2];simp (disch:=first | assumption | omega | (dsimp only;omega) | decide) only [go_sem,Int.reduceToNat,qaV,Bool.true_and]
  ·rw [h1,h2];simp (disch:=first | assumption | omega | (dsimp only;omega) | decide) only [go_sem,Int.reduceToNat,Bool.false_and]
 ·subst hf
  have:=hm.nth h
  have hfd:=qqD (m.2.1[i]).1 (m.2.1[i]).2.1 this
  cases h2:xA (m.2.1[i]).1 (m.2.1[i]).2.1
  ·have hs:jY b m.2.1[i] = .rt (false,()):=if_neg fun hc=>by rw [h2] at hc;exact absurd hc.2 (by simp)
   simp (disch:=omega) only [go_sem,Int.reduceToNat,hfd,h2,hs,yV]
  ·have hp:=qGx h2
   rcases hI with ⟨rfl,rfl⟩ | ⟨h',h0,rfl⟩
   ·have hs:jY 0 m.2.1[0] = .nx m.2.1[0].1:=if_pos ⟨by omega,h2⟩
    simp (disch:=omega) only [go_sem,Int.reduceToNat,hfd,h2,hs,yV]
   ·have hq:((i:Int) - 1).toNat=i - 1:=by omega
    by_cases h1:m.2.1[i].1≤m.2.1[i - 1].1
    ·have hs:jY m.2.1[i - 1].1 m.2.1[i] = .rt (false,()):=if_neg fun hc=>by omega
     simp (disch:=omega) only [go_sem,Int.reduceToNat,hfd,h2,hs,yV,hq]
    ·have hs:jY m.2.1[i - 1].1 m.2.1[i] = .nx m.2.1[i].1:=if_pos ⟨by omega,h2⟩
     simp (disch:=omega) only [go_sem,Int.reduceToNat,hfd,h2,hs,yV,hq]
 ·right
  refine ⟨by simpa using h,by omega, ?_⟩
  simp only [Nat.add_sub_cancel]
  unfold jY at hb
  split at hb
  ·cases hb;rfl
  ·cases hb
 ·subst hf;simp (disch:=omega) only [go_sem,Int.reduceToNat]
theorem qs4 (m:Int):qgY (m,())=some (if jO m then m / 100 else 0,()):=by
 unfold qgY
 by_cases h:jO m
 ·have hb:=h
  unfold jO at hb
  have h2:=yA m 2 (by omega) (by omega) (by omega)
  simp at h2
  simp only [go_sem,Int.reduceToNat,qaC,h,h2]
  exact congrArg (fun x=>some (x,())) (show m / 100 % 10=m / 100 by omega)
 ·simp only [go_sem,Int.reduceToNat,qaC,h]
theorem qfR (a b:BB):qbI (a,b,())=some (D (a=b),()):=by unfold qbI;simp only [go_sem,Int.reduceToNat]
theorem qgX (a b:V):qiH (a,b,())=some (D (a=b),()):=by
 unfold qiH
 simp only [go_sem,Int.reduceToNat,qfR]
 refine vZ ?_
 obtain ⟨a1,a2,⟨⟩⟩:=a;obtain ⟨b1,b2,⟨⟩⟩:=b
 simp
def qd9 (b:Unit) (p:V×V):LS Unit (Bool×Unit):=if p.1=p.2 then .nx () else .rt (false,())
theorem quJ {σ:Type} {mk:Unit→Nat→σ} {e:Nat}:∀ (l:List (V×V)) (i:Nat),((∀ p∈l,p.1=p.2)∧∃ y,kJ mk e qd9 () i l = .ex e y)∨((¬ ∀ p∈l,p.1=p.2)∧kJ mk e qd9 () i l = .rt (false,()))
 | [],i => .inl ⟨by simp,_,rfl⟩
 | p :: r,i=>by
  by_cases h:p.1=p.2
  ·have hs:qd9 () p = .nx ():=if_pos h
   have:=quJ (mk:=mk) (e:=e) r (i+1)
   simp only [kJ,hs,List.mem_cons,forall_eq_or_imp,h,true_and];exact this
  ·have hs:qd9 () p = .rt (false,()):=if_neg h
   refine .inr ⟨fun hc=>h (hc p (by simp)),by simp only [kJ,hs]⟩
theorem qEy {α:Type}:∀ {a b:List α},a.length=b.length→((∀ p∈a.zip b,p.1=p.2)↔a=b)
 | [],[],_=>by simp
 | x :: a,y :: b,h=>by
  have:=qEy (a:=a) (b:=b) (by simpa using h)
  simp only [List.zip_cons_cons,List.mem_cons,forall_eq_or_imp,List.cons.injEq]
  rw [this]
 | [],_ :: _,h=>by simp at h
 | _ :: _,[],h=>by simp at h
theorem qtQ (a b:List V) (hl:a.length≤1000000):qQ (a,b,1,())=some (D (a=b),()):=by
 unfold qQ
 by_cases h:a.length=b.length
 ·generalize hf:(fun (x_1:Bool×Int×Unit)=>_)=f
  have hz:(a.zip b).length=a.length:=by simp [h]
  have key:=xJ (f:=f) (a.zip b) (fun (_:Unit) i=>(false,(i:Int),())) 0 qd9 (fun _ _=>True) (fun _ i hi _=>⟨?_,fun _ _=>trivial⟩) (fun _ _ => ?_) () trivial
  ·refine (qB ?_).trans ((zH key).trans ?_)
   ·simp (disch:=first | assumption | omega | (dsimp only;omega) | decide) only [go_sem,Int.reduceToNat,h]
   rcases quJ (mk:=fun _ i=>((false,(i:Int),()):Bool×Int×Unit)) (e:=0) (a.zip b) 0 with ⟨h1,y,h2⟩ | ⟨h1,h2⟩
   ·rw [qEy h] at h1;rw [h2];simp (disch:=first | assumption | omega | (dsimp only;omega) | decide) only [go_sem,Int.reduceToNat,h1]
   ·rw [qEy h] at h1;rw [h2];simp (disch:=first | assumption | omega | (dsimp only;omega) | decide) only [go_sem,Int.reduceToNat,h1]
  ·subst hf
   have hia:i < a.length:=by omega
   have hib:i < b.length:=by omega
   simp only [List.getElem_zip]
   by_cases hx:a[i]=b[i]
   ·have hs:qd9 () (b[i],b[i]) = .nx ():=if_pos rfl
    simp (disch:=omega) only [go_sem,Int.reduceToNat,qgX,hs,yV,hx]
   ·have hs:qd9 () (a[i],b[i]) = .rt (false,()):=if_neg hx
    simp (disch:=omega) only [go_sem,Int.reduceToNat,qgX,hs,yV,hx]
  ·subst hf;simp (disch:=omega) only [go_sem,Int.reduceToNat,hz]
 ·have hn:¬ a=b:=fun e=>h (by rw [e])
  simp (disch:=omega) only [go_sem,Int.reduceToNat,hn]
theorem M_eq {a b:M}:a=b↔a.1=b.1∧a.2.1=b.2.1:=by
 obtain ⟨a1,a2,⟨⟩⟩:=a;obtain ⟨b1,b2,⟨⟩⟩:=b;simp
theorem qvV (a b:M) (hl:a.2.1.length≤1000000):qlG (a,b,())=some (D (a=b),()):=by
 unfold qlG
 simp (disch:=omega) only [go_sem,Int.reduceToNat,qtQ]
 exact vZ M_eq.symm
abbrev N:=Bool×Int×Int×Int×Int×BB×BB×Int×Unit
def kZ (c:Int):Prop:=c=1∨c=2∨c=101∨c=201∨c=301
instance (c:Int):Decidable (kZ c):=by unfold kZ;infer_instance
def quC (n:N):Prop :=
 if n.1=true∧n.2.1=101 then 1≤n.2.2.2.2.1∧n.2.2.2.2.1≤2147483647∧n.2.2.2.2.2.1.length=8∧n.2.2.2.2.2.2.1.length=3∧n.2.2.2.2.2.2.2.1=0
 else n.2.2.2.2.1=0∧n.2.2.2.2.2.1=[]∧n.2.2.2.2.2.2.1=[]∧(if n.1=true∧n.2.1=201 then 0≤n.2.2.2.2.2.2.2.1∧n.2.2.2.2.2.2.2.1≤999999 else n.2.2.2.2.2.2.2.1=0)
instance (n:N):Decidable (quC n):=by unfold quC;infer_instance
def jF (n:N):Prop:=kZ n.2.1∧1≤n.2.2.1∧n.2.2.1≤999999∧0≤n.2.2.2.1∧n.2.2.2.1≤99∧(n.1=true→n.2.2.2.1=0)∧quC n
instance (n:N):Decidable (jF n):=by unfold jF;infer_instance
theorem qoO (c:Int):qeE (c,())=some (D (kZ c),()):=by
 unfold qeE kZ
 by_cases h1:c=1 <;> by_cases h2:c=2 <;> by_cases h3:c=101 <;> by_cases h4:c=201 <;> by_cases h5:c=301 <;> simp only [go_sem,Int.reduceToNat,h1,h2,h3,h4,h5]
theorem qaQ {p q:Prop} (h:p↔q):(some (D p,()):Option (Bool×Unit))=some (D q,()):=by rw [show p=q from propext h]
theorem qtX {q:Prop} (h:¬ q):(some (false,()):Option (Bool×Unit))=some (D q,()):=by rw [D_f h]
theorem len0 {α:Type} {l:List α}:((l.length:Int)=0)↔l=[]:=by rw [← List.length_eq_zero_iff];omega
theorem jM {rq:Bool} {c st rs g:Int} {no k:BB} {d:Int}:jF (rq,c,st,rs,g,no,k,d,())↔(kZ c∧1≤st∧st≤999999∧0≤rs∧rs≤99∧(rq=true→rs=0) ∧
  (if rq=true∧c=101 then 1≤g∧g≤2147483647∧no.length=8∧k.length=3∧d=0 else g=0∧(no.length:Int)=0∧(k.length:Int)=0∧(if rq=true∧c=201 then 0≤d∧d≤999999 else d=0))):=by
 unfold jF quC
 simp only [len0]
theorem qA7 {α:Type} {p:Prop} {x y z:α} (h1:p→x=z) (h2:¬ p→y=z):sel (D p) x y=z:=by
 by_cases h:p
 ·rw [D_t h];exact h1 h
 ·rw [D_f h];exact h2 h
theorem qfH (n:N):qeD (n,())=some (D (jF n),()):=by
 obtain ⟨rq,c,st,rs,g,no,k,d,⟨⟩⟩:=n
 unfold qeD
 simp only [go_sem,Int.reduceToNat,qoO]
 show _=some (D (jF (rq,c,st,rs,g,no,k,d,())),())
 cases rq
 ·simp only [band,bor,Bool.false_and,Bool.or_false,sel,cond_false]
  refine qA7 (fun h=>qtX fun hr => ?_) fun h=>qA7 (fun h2=>qtX fun hr => ?_) fun h2=>qaQ ?_
  all_goals simp only [jM] at *
  all_goals grind
 ·simp only [band,bor,Bool.true_and,sel]
  rw [show (D ((((¬kZ c∨st < 1)∨999999 < st)∨rs < 0)∨99 < rs) || D (¬rs=0))=D (((((¬kZ c∨st < 1)∨999999 < st)∨rs < 0)∨99 < rs)∨¬rs=0) from qiW (by rw [Bool.or_eq_true,qhQ,qhQ])]
  refine qA7 (fun h=>qtX fun hr => ?_) fun h=>qA7 (fun h2=>qaQ ?_) fun h2=>qA7 (fun h3=>qtX fun hr => ?_) fun h3=>qA7 (fun h4=>qaQ ?_) fun h4=>qaQ ?_
  all_goals simp only [jM] at *
  all_goals grind
theorem qa6 (n:N):qdG (n,())=some (D (jF n),()):=by
 obtain ⟨rq,c,st,rs,g,no,k,d,⟨⟩⟩:=n
 unfold qdG qqR qa4 qa5 y8 qjU
 simp only [go_sem,Int.reduceToNat]
 show _=some (D (jF (rq,c,st,rs,g,no,k,d,())),())
 rw [show bor (D (((st < 1∨999999 < st)∨rs < 0)∨99 < rs)) (band rq (D (0 < rs)))=D ((((st < 1∨999999 < st)∨rs < 0)∨99 < rs)∨(rq=true∧0 < rs)) from qiW (by simp [bor,band,qhQ])]
 refine qA7 (fun h=>qtX fun hr => ?_) fun h => ?_
 ·simp only [jM] at hr;grind
 rw [show band (D (c=101)) rq=D (c=101∧rq=true) from qiW (by simp [band,qhQ]),show band (D (c=201)) rq=D (c=201∧rq=true) from qiW (by simp [band,qhQ])]
 by_cases h1:c=101∧rq=true
 ·simp only [go_sem,Int.reduceToNat,h1,D_t h1]
  refine qaQ ?_
  simp only [jM,kZ];grind
 ·by_cases h2:c=201∧rq=true
  ·simp only [go_sem,Int.reduceToNat,D_f h1,D_t h2]
   refine qaQ ?_
   simp only [jM,kZ];grind
  ·by_cases h3:(((c=1∨c=2)∨c=101)∨c=201)∨c=301
   ·simp only [go_sem,Int.reduceToNat,D_f h1,D_f h2,D_t h3]
    refine qaQ ?_
    simp only [jM,kZ];grind
   ·simp only [go_sem,Int.reduceToNat,D_f h1,D_f h2,D_f h3]
    refine qtX fun hr => ?_
    simp only [jM,kZ] at hr;grind
def mkb (g:Nat→Bool):UInt8:=UInt8.ofNat ((g 0).toNat*128+(g 1).toNat*64+(g 2).toNat*32+(g 3).toNat*16+(g 4).toNat*8+(g 5).toNat*4+(g 6).toNat*2+(g 7).toNat)
theorem qLn:∀ b0 b1 b2 b3 b4 b5 b6 b7:Bool,bt (UInt8.ofNat (b0.toNat*128+b1.toNat*64+b2.toNat*32+b3.toNat*16+b4.toNat*8+b5.toNat*4+b6.toNat*2+b7.toNat)) 0=b0 ∧
  bt (UInt8.ofNat (b0.toNat*128+b1.toNat*64+b2.toNat*32+b3.toNat*16+b4.toNat*8+b5.toNat*4+b6.toNat*2+b7.toNat)) 1=b1∧bt (UInt8.ofNat (b0.toNat*128+b1.toNat*64+b2.toNat*32+b3.toNat*16+b4.toNat*8+b5.toNat*4+b6.toNat*2+b7.toNat)) 2=b2 ∧
  bt (UInt8.ofNat (b0.toNat*128+b1.toNat*64+b2.toNat*32+b3.toNat*16+b4.toNat*8+b5.toNat*4+b6.toNat*2+b7.toNat)) 3=b3∧bt (UInt8.ofNat (b0.toNat*128+b1.toNat*64+b2.toNat*32+b3.toNat*16+b4.toNat*8+b5.toNat*4+b6.toNat*2+b7.toNat)) 4=b4 ∧
  bt (UInt8.ofNat (b0.toNat*128+b1.toNat*64+b2.toNat*32+b3.toNat*16+b4.toNat*8+b5.toNat*4+b6.toNat*2+b7.toNat)) 5=b5∧bt (UInt8.ofNat (b0.toNat*128+b1.toNat*64+b2.toNat*32+b3.toNat*16+b4.toNat*8+b5.toNat*4+b6.toNat*2+b7.toNat)) 6=b6 ∧
  bt (UInt8.ofNat (b0.toNat*128+b1.toNat*64+b2.toNat*32+b3.toNat*16+b4.toNat*8+b5.toNat*4+b6.toNat*2+b7.toNat)) 7=b7:=by decide +kernel
theorem qDx {g:Nat→Bool} {t:Nat} (ht:t < 8):bt (mkb g) t=g t:=by
 obtain ⟨h0,h1,h2,h3,h4,h5,h6,h7⟩:=qLn (g 0) (g 1) (g 2) (g 3) (g 4) (g 5) (g 6) (g 7)
 have:t=0∨t=1∨t=2∨t=3∨t=4∨t=5∨t=6∨t=7:=by omega
 rcases this with rfl | rfl | rfl | rfl | rfl | rfl | rfl | rfl <;> assumption
theorem qIy:∀ c:UInt8,mkb (bt c)=c:=all8 (by decide +kernel)
theorem qDw {c d:UInt8} (h:∀ t,t < 8→bt c t=bt d t):c=d:=by
 rw [← qIy c,← qIy d]
 unfold mkb
 rw [h 0 (by omega),h 1 (by omega),h 2 (by omega),h 3 (by omega),h 4 (by omega),h 5 (by omega),h 6 (by omega),h 7 (by omega)]
theorem qFX {g h:Nat→Bool} (e:∀ t,t < 8→g t=h t):mkb g=mkb h:=qDw fun t ht=>by rw [qDx ht,qDx ht,e t ht]
def bitB (t:Nat):UInt8:=UInt8.ofNat (2 ^ (7 - t))
theorem qKa:∀ t:Nat,t < 8→u8 (shrI .u8 128 (t:Int))=bitB t:=by decide +kernel
theorem qKS:∀ c:UInt8,∀ t:Nat,t < 8→u8 (orI .u8 (n8 c) (n8 (bitB t)))=mkb fun s=>bt c s || Nat.beq s t:=all8 (by decide +kernel)
theorem qKg:∀ c:UInt8,∀ t:Nat,t < 8→bt c t=false→u8 (iadd (n8 c) (n8 (bitB t)))=mkb fun s=>bt c s || Nat.beq s t:=all8 (by decide +kernel)
theorem qKf:∀ c:UInt8,∀ t:Nat,t < 8→(bnot (beq (n8 (u8 (andI .u8 (n8 c) (n8 (bitB t))))) (n8 (u8 0))))=bt c t:=all8 (by decide +kernel)
theorem qdY {n:Nat} (h1:1≤n) (h2:n≤128):jL ((n:Int),())=some ((((n - 1) / 8:Nat):Int),bitB ((n - 1) % 8),()):=by
 unfold jL
 simp (disch:=omega) only [go_sem,Int.reduceToNat]
 have e1:((n:Int) - 1) / 8=(((n - 1) / 8:Nat):Int):=by omega
 have e2:((n:Int) - 1) % 8=(((n - 1) % 8:Nat):Int):=by omega
 rw [e1,e2,← qKa _ (by omega)]
theorem qfL {n:Nat} (h1:1≤n) (h2:n≤128):v6 ((n:Int),())=some ((((n - 1) / 8:Nat):Int),bitB ((n - 1) % 8),()):=by
 unfold v6
 generalize hf:(fun (x_1:Int×Int×Unit)=>_)=f
 have step:∀ i:Nat,i < (n - 1) % 8→f (((2 ^ (7 - i):Nat):Int),(i:Int),())=some (.nx (((2 ^ (7 - (i+1)):Nat):Int),((i+1:Nat):Int),())):=fun i hi=>by
  subst hf
  have hp:i=0∨i=1∨i=2∨i=3∨i=4∨i=5∨i=6:=by omega
  rcases hp with rfl | rfl | rfl | rfl | rfl | rfl | rfl <;> (simp (disch:=first | assumption | omega | (dsimp only;omega) | decide) only [go_sem,Int.reduceToNat];rfl)
 have last:f (((2 ^ (7 - (n - 1) % 8):Nat):Int),(((n - 1) % 8:Nat):Int),())=some (.ex 0 (((2 ^ (7 - (n - 1) % 8):Nat):Int),(((n - 1) % 8:Nat):Int),())):=by
  subst hf;simp (disch:=omega) only [go_sem,Int.reduceToNat]
 have e:=qM (f:=f) (fun i=>(((2 ^ (7 - i):Nat):Int),(i:Int),())) ((n - 1) % 8) step 0 (by omega)
 have e:loop f (128,0,())=_:=e.trans (qT last)
 simp (disch:=omega) only [go_sem,Int.reduceToNat,e]
 have e1:((n:Int) - 1) / 8=(((n - 1) / 8:Nat):Int):=by omega
 rw [e1];unfold bitB;rw [qpP]
def z2:Int→List Int→Bool
 | _,[]=>true
 | last,n :: r=>decide (last < n∧n≤128∧n≠65) && z2 n r
def qcR (last n:Int):LS Int (Bool×Unit):=if last < n∧n≤128∧n≠65 then .nx n else .rt (false,())
theorem qv4 {σ:Type} {mk:Int→Nat→σ} {e:Nat}:∀ (l:List Int) (last:Int) (i:Nat),(z2 last l=true∧∃ y,kJ mk e qcR last i l = .ex e y)∨(z2 last l=false∧kJ mk e qcR last i l = .rt (false,()))
 | [],last,i => .inl ⟨rfl,_,rfl⟩
 | n :: r,last,i=>by
  by_cases h:last < n∧n≤128∧n≠65
  ·have hs:qcR last n = .nx n:=if_pos h
   have:=qv4 (mk:=mk) (e:=e) r n (i+1)
   simp only [kJ,hs,z2,decide_eq_true h,Bool.true_and];exact this
  ·have hs:qcR last n = .rt (false,()):=if_neg h
   refine .inr ⟨?_,by simp only [kJ,hs]⟩
   simp only [z2,decide_eq_false h,Bool.false_and]
theorem y4 (l:List Int) (hl:l.length≤1000000):qbZ (l,())=some (z2 1 l,()):=by
 unfold qbZ
 generalize hf:(fun (x_1:Bool×Int×Int×Unit)=>_)=f
 have key:=xJ (f:=f) l (fun last i=>(false,last,(i:Int),())) 0 qcR (fun _ _=>True) (fun b i h _=>⟨?_,fun _ _=>trivial⟩) (fun b _ => ?_) 1 trivial
 ·refine (zH key).trans ?_
  rcases qv4 (mk:=fun last i=>((false,last,(i:Int),()):Bool×Int×Int×Unit)) (e:=0) l 1 0 with ⟨h1,y,h2⟩ | ⟨h1,h2⟩
  ·rw [h1,h2];simp (disch:=first | assumption | omega | (dsimp only;omega) | decide) only [go_sem,Int.reduceToNat]
  ·rw [h1,h2];simp (disch:=first | assumption | omega | (dsimp only;omega) | decide) only [go_sem,Int.reduceToNat]
 ·subst hf
  by_cases h1:b < l[i]∧l[i]≤128∧l[i]≠65
  ·have hs:qcR b l[i] = .nx l[i]:=if_pos h1
   simp (disch:=omega) only [go_sem,Int.reduceToNat,hs,yV]
  ·have hs:qcR b l[i] = .rt (false,()):=if_neg h1
   simp (disch:=omega) only [go_sem,Int.reduceToNat,hs,yV]
 ·subst hf;simp (disch:=omega) only [go_sem,Int.reduceToNat]
theorem wK (l:List Int) (hl:l.length≤1000000):qeJ (l,())=some (z2 1 l,()):=by
 unfold qeJ
 generalize hf:(fun (x_1:Bool×Int×Unit)=>_)=f
 have key:=xJ (f:=f) l (fun (last:Int) i=>(false,(i:Int),())) 0 qcR (fun b i=>(i=0∧b=1)∨∃ h:i - 1 < l.length,0 < i∧l[i - 1]=b∧2≤b) (fun b i h hI=>⟨?_,fun b' hb => ?_⟩) (fun b _ => ?_) 1 (.inl ⟨rfl,rfl⟩)
 ·refine (zH key).trans ?_
  rcases qv4 (mk:=fun (last:Int) i=>((false,(i:Int),()):Bool×Int×Unit)) (e:=0) l 1 0 with ⟨h1,y,h2⟩ | ⟨h1,h2⟩
  ·rw [h1,h2];simp (disch:=first | assumption | omega | (dsimp only;omega) | decide) only [go_sem,Int.reduceToNat]
  ·rw [h1,h2];simp (disch:=first | assumption | omega | (dsimp only;omega) | decide) only [go_sem,Int.reduceToNat]
 ·subst hf
  rcases hI with ⟨rfl,rfl⟩ | ⟨h',h0,hb,h2⟩
  ·by_cases h1:1 < l[0]∧l[0]≤128∧l[0]≠65
   ·have hs:qcR 1 l[0] = .nx l[0]:=if_pos h1
    simp (disch:=omega) only [go_sem,Int.reduceToNat,hs,yV]
   ·have hs:qcR 1 l[0] = .rt (false,()):=if_neg h1
    simp (disch:=omega) only [go_sem,Int.reduceToNat,hs,yV]
  ·have hq:((i:Int) - 1).toNat=i - 1:=by omega
   by_cases h1:b < l[i]∧l[i]≤128∧l[i]≠65
   ·have hs:qcR b l[i] = .nx l[i]:=if_pos h1
    simp (disch:=omega) only [go_sem,Int.reduceToNat,hs,yV,hq]
   ·have hs:qcR b l[i] = .rt (false,()):=if_neg h1
    simp (disch:=omega) only [go_sem,Int.reduceToNat,hs,yV,hq]
 ·right
  have hb1:b'=l[i]∧b < l[i]:=by
   unfold qcR at hb
   split at hb
   ·rename_i hc;cases hb;exact ⟨rfl,hc.1⟩
   ·cases hb
  refine ⟨by simpa using h,by omega, ?_, ?_⟩
  ·simp only [Nat.add_sub_cancel];exact hb1.1.symm
  ·rcases hI with ⟨_,rfl⟩ | ⟨_,_,_,h2⟩ <;> omega
 ·subst hf;simp (disch:=omega) only [go_sem,Int.reduceToNat]
def xP (size:Nat) (S:Nat→Bool):BB:=(List.range size).map fun j=>mkb fun t=>S (8*j+t+1)
theorem vD {size:Nat} {S:Nat→Bool}:(xP size S).length=size:=by simp [xP]
theorem qCI {size:Nat} {S:Nat→Bool} {j:Nat} (h:j < size):nth (xP size S) j (u8 0)=mkb fun t=>S (8*j+t+1):=by
 rw [qL (by rw [vD];exact h)];simp [xP]
theorem qg1 {size:Nat} {S:Nat→Bool} {n:Nat} (h1:1≤n) (h2:n≤8*size):hasB (xP size S) n=S n:=by
 unfold hasB
 rw [qCI (by omega),qDx (by omega)]
 congr 1;omega
theorem qE6 {a b:BB} (hl:a.length=b.length) (h:∀ n,1≤n→n≤8*a.length→hasB a n=hasB b n):a=b:=by
 refine List.ext_getElem hl fun j h1 h2=>qDw fun t ht => ?_
 have:=h (8*j+t+1) (by omega) (by omega)
 unfold hasB at this
 rw [show (8*j+t+1 - 1) / 8=j by omega,show (8*j+t+1 - 1) % 8=t by omega,qL h1,qL h2] at this
 exact this
theorem qvA {size:Nat} {S S':Nat→Bool} (h:∀ n,1≤n→n≤8*size→S n=S' n):xP size S=xP size S':=qE6 (by rw [vD,vD]) fun n h1 h2=>by
 rw [vD] at h2;rw [qg1 h1 h2,qg1 h1 h2,h n h1 h2]
theorem qFg (size:Nat):rep size (u8 0)=xP size fun _=>false:=by
 refine List.ext_getElem (by simp [rep,xP]) fun j h1 h2 => ?_
 simp only [rep,List.getElem_replicate,xP,List.getElem_map]
 decide
def setS (S:Nat→Bool) (n:Nat):Nat→Bool:=fun m=>S m || Nat.beq m n
theorem qET {size:Nat} {S:Nat→Bool} {n:Nat} (h1:1≤n) (h2:n≤8*size) {c:UInt8} (hc:c=mkb fun s=>bt (nth (xP size S) ((n - 1) / 8) (u8 0)) s || Nat.beq s ((n - 1) % 8)):upd (xP size S) ((n - 1) / 8) c=xP size (setS S n):=by
 refine List.ext_getElem (by simp [upd,xP]) fun j h3 h4 => ?_
 rw [vD] at h4
 have hg:=qCI (S:=S) (show (n - 1) / 8 < size by omega)
 simp only [upd,List.getElem_set]
 split
 ·rename_i hj
  subst hj
  rw [hc,hg]
  simp only [xP,List.getElem_map,List.getElem_range]
  refine qFX fun t ht => ?_
  rw [qDx ht];unfold setS
  congr 1
  refine Bool.eq_iff_iff.2 ?_
  simp only [Nat.beq_eq]
  omega
 ·rename_i hj
  simp only [xP,List.getElem_map,List.getElem_range]
  refine qFX fun t ht => ?_
  unfold setS
  have:Nat.beq (8*j+t+1) n=false:=by
   refine (Bool.not_eq_true _).mp fun hb=>hj ?_
   have:=Nat.eq_of_beq_eq_true hb
   omega
  rw [this,Bool.or_false]
def qb0 (l:List Int):Bool:=decide (0 < l.length) && decide (64 < nth l (l.length - 1) 0)
def memI (l:List Int) (n:Nat):Bool:=decide ((n:Int)∈l)
def bmW (l:List Int):BB:=if qb0 l=true then xP 16 (memI (1 :: l)) else xP 8 (memI l)
theorem x4 {l:List Int}:∀ {last:Int},z2 last l=true→∀ n∈l,last < n∧n≤128∧n≠65:=by
 induction l with
 | nil=>intro _ _ n hn;cases hn
 | cons x r ih =>
  intro last h n hn
  simp only [z2,Bool.and_eq_true,decide_eq_true_eq] at h
  rcases List.mem_cons.1 hn with rfl | hn
  ·exact h.1
  ·have:=ih h.2 n hn
   exact ⟨by omega,this.2⟩
theorem qBc {l:List Int}:∀ {last:Int},z2 last l=true→∀ n∈l,n≤nth l (l.length - 1) 0:=by
 induction l with
 | nil=>intro _ _ n hn;cases hn
 | cons x r ih =>
  intro last h n hn
  simp only [z2,Bool.and_eq_true,decide_eq_true_eq] at h
  cases r with
  | nil=>simp at hn;subst hn;simp [nth]
  | cons y r =>
   have hr:=ih h.2
   have hl:nth (x :: y :: r) ((x :: y :: r).length - 1) 0=nth (y :: r) ((y :: r).length - 1) 0:=by simp [nth]
   rw [hl]
   rcases List.mem_cons.1 hn with rfl | hn
   ·have h1:=(x4 h.2 y (by simp)).1
    have:=hr y (by simp)
    omega
   ·exact hr n hn
theorem qk9 {l:List Int} (h:z2 1 l=true) (hw:¬ qb0 l=true):∀ n∈l,n≤64:=fun n hn=>by
 have:=qBc h n hn
 unfold qb0 at hw
 have h0:0 < l.length:=List.length_pos_of_mem hn
 simp only [Bool.and_eq_true,decide_eq_true_eq,not_and,Int.not_lt] at hw
 have:=hw h0
 omega
theorem qlN {α β σ ρ:Type} {mk:β→Nat→σ} {e:Nat} {step:β→α→LS β ρ} {g:β→α→β} (h:∀ b x,step b x = .nx (g b x)):∀ (l:List α) (b:β) (i:Nat),kJ mk e step b i l = .ex e (mk (l.foldl g b) (i+l.length))
 | [],b,i=>rfl
 | x :: r,b,i=>by
  simp only [kJ,h,List.foldl_cons,List.length_cons]
  rw [qlN h r (g b x) (i+1)]
  congr 2;omega
theorem qAJ {f:Int×BB×Unit→Option (LS (Int×BB×Unit) (BB×Int×Unit))} {l:List Int} {size:Nat} {S0:Nat→Bool}
  (hs:∀ (S:Nat→Bool) (i:Nat) (h:i < l.length),(∀ m,S m=(S0 m || memI (l.take i) m))→f ((i:Int),xP size S,())=some (.nx (((i+1:Nat):Int),xP size (setS S (l[i]).toNat),())))
  (hr:∀ n∈l,1≤n) (he:∀ x,f ((l.length:Int),x,())=some (.ex 0 ((l.length:Int),x,()))):loop f (0,xP size S0,())=some (.ex 0 ((l.length:Int),xP size (fun m=>S0 m || memI l m),())):=by
 have key:∀ (k i:Nat),k=l.length - i→i≤l.length→loop f ((i:Int),xP size (fun m=>S0 m || memI (l.take i) m),())=some (.ex 0 ((l.length:Int),xP size (fun m=>S0 m || memI l m),())):=by
  intro k
  induction k with
  | zero =>
   intro i hk hi
   have:i=l.length:=by omega
   subst this
   rw [List.take_length]
   exact qT (he _)
  | succ k ih =>
   intro i hk hi
   have hlt:i < l.length:=by omega
   refine (vR (hs _ i hlt fun m=>rfl)).trans ?_
   have hx:=hr l[i] (List.getElem_mem hlt)
   have:(setS (fun m=>S0 m || memI (l.take i) m) (l[i]).toNat)=fun m=>S0 m || memI (l.take (i+1)) m:=by
    funext m
    unfold setS memI
    rw [Bool.or_assoc]
    congr 1
    refine Bool.eq_iff_iff.2 ?_
    rw [List.take_succ_eq_append_getElem hlt]
    simp only [Bool.or_eq_true,decide_eq_true_eq,Nat.beq_eq,List.mem_append,List.mem_singleton]
    refine or_congr Iff.rfl ?_
    omega
   rw [this]
   exact ih (i+1) (by omega) (by omega)
 have:=key l.length 0 (by omega) (by omega)
 simp only [List.take_zero,memI,List.not_mem_nil,decide_false,Bool.or_false] at this
 exact this
theorem qI4:upd (rep 16 (u8 0)) 0 (u8 128)=xP 16 (fun m=>Nat.beq m 1):=by decide +kernel
theorem qCq {l:List Int} (hl:l.length≤1000000):sel (D (0 < (l.length:Int))) (ck (D (0≤(l.length:Int) - 1∧(l.length:Int) - 1 < (l.length:Int))) (some (D (64 < nth l ((l.length:Int) - 1).toNat 0),()))) (some (false,()))=some (qb0 l,()):=by
 have hq:((l.length:Int) - 1).toNat=l.length - 1:=by omega
 by_cases h0:0 < l.length
 ·have e:qb0 l=decide (64 < nth l (l.length - 1) 0):=by unfold qb0;rw [decide_eq_true h0,Bool.true_and]
  simp (disch:=omega) only [go_sem,Int.reduceToNat,hq,e]
 ·have e:qb0 l=false:=by unfold qb0;rw [decide_eq_false h0,Bool.false_and]
  simp (disch:=omega) only [go_sem,Int.reduceToNat,e]
theorem qnE (l:List Int) (hl:l.length≤1000000):qbY (l,())=some (if z2 1 l=true then (bmW l,0,()) else ([],1,())):=by
 unfold qbY
 generalize hf:(fun (x_1:Int×BB×Unit)=>_)=f
 have hws:=qCq hl
 cases hr:z2 1 l
 ·simp (disch:=first | assumption | omega | (dsimp only;omega) | decide) only [go_sem,Int.reduceToNat,y4,hr]
 have hm:=x4 hr
 have step:∀ (size:Nat),(∀ n∈l,n≤8*(size:Int))→∀ S0:Nat→Bool,loop f (0,xP size S0,())=some (.ex 0 ((l.length:Int),xP size (fun m=>S0 m || memI l m),())):=by
  intro size hle S0
  refine qAJ (fun S i h _ => ?_) (fun n hn=>by have:=hm n hn;omega) (fun x => ?_)
  ·subst hf
   have hx:=hm l[i] (List.getElem_mem h)
   have hx2:=hle l[i] (List.getElem_mem h)
   obtain ⟨N,hN⟩:∃ N:Nat,l[i]=N:=⟨l[i].toNat,by omega⟩
   have hP:=qdY (n:=N) (by omega) (by omega)
   have hrl:(xP size S).length=size:=vD
   have hset:=qET (size:=size) (S:=S) (n:=N) (by omega) (by omega) (qKS (nth (xP size S) ((N - 1) / 8) (u8 0)) ((N - 1) % 8) (by omega))
   have hnl:((N - 1) / 8) < (xP size S).length:=by omega
   rw [qL hnl] at hset
   simp (disch:=first | assumption | omega | (dsimp only;omega) | decide) only [go_sem,Int.reduceToNat,hN,hP,hrl,hset]
  ·subst hf;simp (disch:=first | assumption | omega | (dsimp only;omega) | decide) only [go_sem,Int.reduceToNat]
 by_cases hw:qb0 l=true
 ·have:=step 16 (fun n hn=>by have:=hm n hn;omega) (fun m=>Nat.beq m 1)
  rw [← qI4] at this
  have e:xP 16 (fun m=>Nat.beq m 1 || memI l m)=bmW l:=by
   unfold bmW;rw [if_pos hw]
   refine qvA fun n _ _ => ?_
   unfold memI
   refine Bool.eq_iff_iff.2 ?_
   simp only [Bool.or_eq_true,Nat.beq_eq,decide_eq_true_eq,List.mem_cons]
   refine or_congr ?_ Iff.rfl
   omega
  rw [e] at this
  simp (disch:=first | assumption | omega | (dsimp only;omega) | decide) only [go_sem,Int.reduceToNat,y4,hr,hws,hw,this]
 ·have:=step 8 (fun n hn=>by have:=qk9 hr hw n hn;omega) (fun m=>false)
  rw [← qFg] at this
  have hw':qb0 l=false:=(Bool.not_eq_true _).mp hw
  have e:xP 8 (fun m=>false || memI l m)=bmW l:=by
   unfold bmW;rw [if_neg hw]
   exact qvA fun n _ _=>Bool.false_or _
  rw [e] at this
  simp (disch:=first | assumption | omega | (dsimp only;omega) | decide) only [go_sem,Int.reduceToNat,y4,hr,hws,hw',this]
theorem qoS              (l : List Int) (hl : l.length ≤ 1000000) : qeI         (l, ()) = some (if z2     1 l = true then (bmW l, 0, ()) else ([], 1, ())) := by
  unfold qeI        
  have hws := qCq      hl
  generalize hf : (fun (x_1 : Int × List UInt8 × Unit) => _) = f
  generalize hg : (fun (x_1 : Int × List UInt8 × Unit) => (sel (lt x_1.1 (len (app (none' Int) (l, ()).1))) _ _ : Option (LS (Int × List UInt8 × Unit) (List UInt8 × Int × Unit)))) = g
  cases hr : z2     1 l
  · simp (disch := first | assumption | omega | (dsimp only; omega) | decide) only [go_sem, Int.reduceToNat, wK              , hr]
  have hm := x4         hr
  have hnd : ∀ (last : Int) (l : List Int), z2     last l = true → ∀ i (h : i < l.length), ¬ l[i] ∈ l.take i := by
    intro last l
    induction l generalizing last with
    | nil => intro _ i h; simp at h
    | cons x r ih =>
      intro h i hi
      have hr := (by simpa only [z2    , Bool.and_eq_true, decide_eq_true_eq] using h : _)
      cases i with
      | zero => simp
      | succ i =>
        simp only [List.getElem_cons_succ, List.take_succ_cons, List.mem_cons, not_or]
        have hi' : i < r.length := by simpa using hi
        have := (x4         hr.2 r[i] (List.getElem_mem hi')).1
        exact ⟨by omega, ih x hr.2 i hi'⟩
  have step : ∀ (L : List Int) (size : Nat) (f : Int × List UInt8 × Unit → Option (LS (Int × List UInt8 × Unit) (List UInt8 × Int × Unit))), (fun (x_1 : Int × List UInt8 × Unit) =>
           sel (lt x_1.1 (len L)) (ck (inB x_1.1 (len L)) (ob (v6          (nth L (nat x_1.1) 0, ())) fun (a : Int × UInt8 × Unit) => ck (inB a.1 (len x_1.2.1)) (ck (inB a.1 (len x_1.2.1))
            (some (LS.nx (i64 (iadd x_1.1 1), upd x_1.2.1 (nat a.1) (u8 (iadd (n8 (nth x_1.2.1 (nat a.1) (u8 0))) (n8 a.2.1))), ())))))) (some (LS.ex 0 (x_1.1, x_1.2.1, ())))) = f → L.length ≤ 1000001 → (∀ n ∈ L, 1 ≤ n ∧ n ≤ 128 ∧ n ≤ 8 * (size : Int)) →
      (∀ i (h : i < L.length), ¬ L[i] ∈ L.take i) → loop f (0, rep size (u8 0), ()) = some (.ex 0 ((L.length : Int), xP    size (memI L), ())) := by
    intro L size f hf hl hle hnd
    have := qAJ       (f := f) (l := L) (size := size) (S0 := fun _ => false) (fun S i h hS => ?_) (fun n hn => (hle n hn).1) (fun x => ?_)
    · simp only [Bool.false_or] at this
      rw [← qFg    ] at this; exact this
    · subst hf
      have hx := hle L[i] (List.getElem_mem h)
      obtain ⟨N, hN⟩ : ∃ N : Nat, L[i] = N := ⟨L[i].toNat, by omega⟩
      have hP := qfL              (n := N) (by omega) (by omega)
      have hrl : (xP    size S).length = size := vD         
      have hfree : bt (nth (xP    size S) ((N - 1) / 8) (u8 0)) ((N - 1) % 8) = false := by
        have h1 : hasB (xP    size S) N = S N := qg1       (by omega) (by omega)
        unfold hasB at h1
        rw [h1, hS, Bool.false_or]
        unfold memI
        rw [← hN]; exact decide_eq_false (hnd i h)
      have hset := qET     (size := size) (S := S) (n := N) (by omega) (by omega) (qKg     (nth (xP    size S) ((N - 1) / 8) (u8 0)) ((N - 1) % 8) (by omega) hfree)
      have hnl : ((N - 1) / 8) < (xP    size S).length := by omega
      rw [qL      hnl] at hset
      simp only [iadd] at hset
      simp (disch := omega) only [go_sem, Int.reduceToNat, hN, hP, hrl, hset]
    · subst hf; simp (disch := omega) only [go_sem, Int.reduceToNat]
  by_cases hw : qb0   l = true
  · have := step (l ++ [1]) 16 _ rfl (by simp; omega) (fun n hn => by
      rcases List.mem_append.1 hn with hn | hn
      · have := hm n hn; omega
      · simp at hn; subst hn; omega) (fun i h => by
      rcases Nat.lt_or_ge i l.length with hi | hi
      · rw [List.getElem_append_left hi, List.take_append_of_le_length (by omega)]; exact hnd 1 l hr i hi
      · have : i = l.length := by simp at h; omega
        subst this
        rw [List.getElem_append_right (by omega), List.take_left]
        simp only [Nat.sub_self, List.getElem_cons_zero]
        intro hc; have := hm 1 hc; omega)
    have e : xP    16 (memI (l ++ [1])) = bmW l := by
      unfold bmW; rw [if_pos hw]
      refine qvA      fun n _ _ => ?_
      unfold memI
      exact Bool.eq_iff_iff.2 (by simp [or_comm])
    rw [e] at this
    have this : loop f (0, rep 16 (u8 0), ()) = some (.ex 0 (((l ++ [1]).length : Int), bmW l, ())) := by rw [← hf]; exact this
    simp (disch := omega) only [go_sem, Int.reduceToNat, wK              , hr, hws, hw, List.length_cons, this]
  · have := step l 8 _ rfl (by omega) (fun n hn => by have := qk9      hr hw n hn; have := hm n hn; omega) (hnd 1 l hr)
    have hw' : qb0   l = false := (Bool.not_eq_true _).mp hw
    have e : xP    8 (memI l) = bmW l := by unfold bmW; rw [if_neg hw]
    rw [e] at this
    have this : loop g (0, rep 8 (u8 0), ()) = some (.ex 0 ((l.length : Int), bmW l, ())) := by rw [← hg]; exact this
    simp (disch := omega) only [go_sem, Int.reduceToNat, wK              , hr, hws, hw', this]
theorem qb7 {c:BB} {n:Nat} (h1:1≤n) (h2:n≤128) (h3:n≤8*c.length):kQ (c,(n:Int),())=some (hasB c n,()):=by
 unfold kQ
 have hP:=qfL h1 h2
 have hlt:(n - 1) / 8 < c.length:=by omega
 refine (qG hP).trans ((qH (q9 hlt)).trans ?_)
 have:=qKf (nth c ((n - 1) / 8) (u8 0)) ((n - 1) % 8) (by omega)
 simp only [qZ,this];rfl
theorem qq4 {c:BB} {n k:Nat} (h1:1≤n) (h2:n≤8*k) (h3:k≤c.length):hasB (c.take k) n=hasB c n:=by
 unfold hasB
 have h:(n - 1) / 8 < k:=by omega
 rw [qL (by rw [List.length_take];omega),qL (by omega),List.getElem_take]
def outB (c:BB) (k:Nat):List Nat:=(List.range k).filter fun n=>Nat.ble 2 n && hasB c n
theorem qFD (c:BB) (k:Nat) (h:2≤k):outB c (k+1)=outB c k++if hasB c k=true then [k] else []:=by
 unfold outB
 rw [List.range_succ,List.filter_append]
 congr 1
 have:Nat.ble 2 k=true:=Nat.ble_eq_true_of_le h
 simp only [List.filter_cons,this,Bool.true_and,List.filter_nil]
theorem qHD (c:BB):outB c 2=[]:=by
 unfold outB;rw [List.filter_eq_nil_iff]
 intro n hn;rw [List.mem_range] at hn
 have:Nat.ble 2 n=false:=(Bool.not_eq_true _).mp fun hb=>by have:=Nat.le_of_ble_eq_true hb;omega
 rw [this];simp
theorem qqN {c:BB} {k:Nat} (h:k≤c.length):xU (c.take k)=outB c (8*k+1):=by
 unfold xU outB
 rw [List.length_take,Nat.min_eq_left h]
 refine List.filter_congr fun n hn => ?_
 rw [List.mem_range] at hn
 by_cases h2:2≤n
 ·rw [qq4 (by omega) (by omega) h]
 ·have:Nat.ble 2 n=false:=(Bool.not_eq_true _).mp fun hb=>h2 (Nat.le_of_ble_eq_true hb)
  rw [this,Bool.false_and,Bool.false_and]
theorem qBk (c:BB) (k:Nat):(outB c k).Pairwise (· < ·):=List.Pairwise.filter _ List.pairwise_lt_range
theorem qCW {c:BB} {k n:Nat}:n∈outB c k↔n < k∧2≤n∧hasB c n=true:=by
 unfold outB;rw [List.mem_filter,List.mem_range,Bool.and_eq_true,Nat.ble_eq]
theorem qA0 {l:List Nat} (h:l.Pairwise (· < ·)) {n:Nat} (hn:n∈l) (h0:l.length - 1 < l.length):n≤l[l.length - 1]:=by
 obtain ⟨i,hi,rfl⟩:=List.getElem_of_mem hn
 rcases Nat.lt_or_ge i (l.length - 1) with hlt | hge
 ·exact Nat.le_of_lt (List.pairwise_iff_getElem.1 h i (l.length - 1) hi h0 hlt)
 ·have:i=l.length - 1:=by omega
  subst this;exact Nat.le_refl _
theorem qJH {l:List Nat} (h:l.Pairwise (· < ·)):(65∈l∨l.length=0∨∃ h0:l.length - 1 < l.length,l[l.length - 1]≤65)↔(65∈l∨∀ n∈l,n < 65):=by
 constructor
 ·rintro (h1 | h1 | ⟨h0,h1⟩)
  ·exact .inl h1
  ·right;intro n hn;rw [List.length_eq_zero_iff.1 h1] at hn;cases hn
  ·by_cases h65:65∈l
   ·exact .inl h65
   ·right;intro n hn
    have:=qA0 h hn h0
    have:n≠65:=fun e=>h65 (e ▸ hn)
    omega
 ·rintro (h1 | h1)
  ·exact .inl h1
  ·by_cases h0:l.length=0
   ·exact .inr (.inl h0)
   ·right;right
    refine ⟨by omega, ?_⟩
    have:=h1 _ (List.getElem_mem (show l.length - 1 < l.length by omega))
    omega
theorem qCX (c:BB) (k:Nat):(outB c k).length≤k:=by
 unfold outB
 have:=List.length_filter_le (fun n=>Nat.ble 2 n && hasB c n) (List.range k)
 rwa [List.length_range] at this
theorem qqB             (b : List UInt8) (a : Int) (hl : b.length ≤ 1000000) : qh8        (b, a, ()) = some (bmR b a) := by
  unfold qh8       
  by_cases ha : a < 0 ∨ (b.length : Int) < a
  · unfold bmR; rw [if_pos ha]; simp (disch := first | assumption | omega | (dsimp only; omega) | decide) only [go_sem, Int.reduceToNat]
  have hb : bmR b a = bmC (b.drop a.toNat) a := by unfold bmR; rw [if_neg ha]
  rw [hb]
  have hsub : sub b a (len b) = b.drop a.toNat := by
    simp only [sub, len, Int.toNat_natCast]
    rw [List.take_of_length_le (by rw [List.length_drop]; omega)]
  have hcl : (b.drop a.toNat).length = b.length - a.toNat := List.length_drop
  simp only [hsub]
  generalize hc : b.drop a.toNat = c at *
  clear hb hsub
  by_cases h8 : c.length < 8
  · unfold bmC; rw [if_pos (Or.inl h8)]; simp (disch := first | assumption | omega | (dsimp only; omega) | decide) only [go_sem, Int.reduceToNat]
  have h1 := qb7            (c := c) (n := 1) (by omega) (by omega) (by omega)
  replace h1 : kQ        (c, 1, ()) = some (hasB c 1, ()) := h1
  -- the loop
  have lp : ∀ (size : Nat) (f : List Int × Int × Unit → Option (LS (List Int × Int × Unit) (List Int × Int × Int × Unit))), (fun (x_1 : List Int × Int × Unit) =>
           sel (le x_1.2.1 (i64 (imul 8 (size : Int)))) (ob (kQ        (c, x_1.2.1, ())) fun (a : Bool × Unit) => sel a.1 (ck (rm 32 (nadd (ln x_1.1) (ln [x_1.2.1]))) (some (LS.nx (app x_1.1 [x_1.2.1], i64 (iadd x_1.2.1 1), ()))))
            (some (LS.nx (x_1.1, i64 (iadd x_1.2.1 1), ())))) (some (LS.ex 0 (x_1.1, x_1.2.1, ())))) = f → 1 ≤ size → size ≤ 16 → size ≤ c.length →
      loop f ([], 2, ()) = some (.ex 0 ((xU    (c.take size)).map Int.ofNat, ((8 * size + 1 : Nat) : Int), ())) := by
    intro size f hf hs0 hs hsc
    have step : ∀ i, i < 8 * size - 1 → f ((outB c (i + 2)).map Int.ofNat, ((i + 2 : Nat) : Int), ()) = some (.nx ((outB c (i + 1 + 2)).map Int.ofNat, ((i + 1 + 2 : Nat) : Int), ())) := fun i hi => by
      subst hf
      have hh := qb7            (c := c) (n := i + 2) (by omega) (by omega) (by omega)
      have hol := qCX      c (i + 2)
      have hos := qFD       c (i + 2) (by omega)
      rw [show i + 1 + 2 = i + 2 + 1 by omega, hos]
      cases hhb : hasB c (i + 2)
      · rw [hhb] at hh
        simp only [Bool.false_eq_true, if_false, List.append_nil]
        generalize hN : i + 2 = N at *
        simp (disch := omega) only [go_sem, Int.reduceToNat, hh]
      · rw [hhb] at hh
        simp only [if_true, List.map_append, List.map_cons, List.map_nil]
        generalize hN : i + 2 = N at *
        simp (disch := omega) only [go_sem, Int.reduceToNat, hh, List.length_map, List.length_cons]
        rfl
    have e := qM         (f := f) (fun i => ((outB c (i + 2)).map Int.ofNat, ((i + 2 : Nat) : Int), ())) (8 * size - 1) step 0 (by omega)
    simp only [Nat.zero_add, qHD     , List.map_nil] at e
    replace e : loop f ([], 2, ()) = _ := e
    rw [e, qqN       hsc, show 8 * size - 1 + 2 = 8 * size + 1 by omega]
    refine qT      ?_
    subst hf; simp (disch := omega) only [go_sem, Int.reduceToNat]
  refine (qG    (a := (false, ())) (by simp (disch := omega) only [go_sem, Int.reduceToNat]; exact qmL     (by omega))).trans ?_
  refine (qB       rfl).trans ?_
  refine (qH    (by simp (disch := omega) only [go_sem, Int.reduceToNat]; exact ⟨by omega, by omega⟩)).trans ?_
  refine (qB       (by simp (disch := omega) only [go_sem, Int.reduceToNat]; omega)).trans ?_
  refine (qG    h1).trans ?_
  cases hw : hasB c 1
  · have e := lp 8 _ rfl (by omega) (by omega) (by omega)
    have hbm : bmC c a = ((xU    (c.take 8)).map Int.ofNat, a + 8, 0, ()) := by
      unfold bmC
      rw [if_neg (by rw [hw]; simp; omega), if_neg (by rw [hw]; simp)]
    rw [hbm]
    refine (qG    (qB       rfl)).trans ?_
    refine (qB       (by simp (disch := omega) only [go_sem, Int.reduceToNat]; omega)).trans ?_
    refine (zH    e).trans ?_
    simp (disch := omega) only [go_sem, Int.reduceToNat]
  · by_cases h16 : c.length < 16
    · unfold bmC; rw [if_pos (Or.inr ⟨hw, h16⟩)]
      simp (disch := omega) only [go_sem, Int.reduceToNat]
    · have e := lp 16 _ rfl (by omega) (by omega) (by omega)
      have h65 := qb7            (c := c) (n := 65) (by omega) (by omega) (by omega)
      replace h65 : kQ        (c, 65, ()) = some (hasB c 65, ()) := h65
      rw [qqN       (by omega)] at e
      have hol := qCX      c (8 * 16 + 1)
      have hm65 : 65 ∈ outB c (8 * 16 + 1) ↔ hasB c 65 = true := ⟨fun h => (qCW.1      h).2.2, fun h => qCW.2      ⟨by omega, by omega, h⟩⟩
      have hlast := qJH     (qBk         c (8 * 16 + 1))
      have hbm : bmC c a = if 65 ∈ outB c (8 * 16 + 1) ∨ ∀ n ∈ outB c (8 * 16 + 1), n < 65 then ([], 0, 2, ()) else ((outB c (8 * 16 + 1)).map Int.ofNat, a + 16, 0, ()) := by
        unfold bmC
        rw [if_neg (by omega), if_pos hw, qqN       (by omega)]
      rw [hbm]
      refine (qG    (qE       rfl)).trans ?_
      refine (qB       (by simp (disch := omega) only [go_sem, Int.reduceToNat]; omega)).trans ?_
      refine (zH    e).trans ?_
      generalize outB c (8 * 16 + 1) = l at *
      have hq : ((l.length : Int) - 1).toNat = l.length - 1 := by omega
      cases hb65 : hasB c 65
      · rw [hb65] at h65 hm65
        have hn65 : ¬ 65 ∈ l := fun h => by have := hm65.1 h; simp at this
        by_cases h0 : l.length = 0
        · rw [if_pos (hlast.1 (.inr (.inl h0)))]
          simp (disch := omega) only [go_sem, Int.reduceToNat, h65, List.length_map]
        · have hlt : l.length - 1 < l.length := by omega
          have hn : nth (l.map Int.ofNat) (l.length - 1) 0 = Int.ofNat l[l.length - 1] := by rw [qL      (by simpa using hlt), List.getElem_map]
          by_cases h6 : l[l.length - 1] ≤ 65
          · rw [if_pos (hlast.1 (.inr (.inr ⟨hlt, h6⟩)))]
            have h6' : Int.ofNat l[l.length - 1] ≤ 65 := by simp; omega
            simp (disch := omega) only [go_sem, Int.reduceToNat, h65, List.length_map, hq, hn]
          · rw [if_neg fun hc => by
              rcases hlast.2 hc with h | h | ⟨_, h⟩
              · exact hn65 h
              · exact h0 h
              · exact h6 h]
            have h6' : ¬ Int.ofNat l[l.length - 1] ≤ 65 := by simp; omega
            simp (disch := omega) only [go_sem, Int.reduceToNat, h65, List.length_map, hq, hn]
      · rw [if_pos (.inl (hm65.2 hb65))]
        rw [hb65] at h65
        simp (disch := omega) only [go_sem, Int.reduceToNat, h65]
theorem qGr {no k l:Int} (h:zD no=some (k,l)):2≤no∧no≤128∧no≠65:=by
 unfold zD at h
 rw [Option.map_eq_some_iff] at h
 obtain ⟨r,hr,he⟩:=h
 have hm:=List.mem_of_find?_eq_some hr
 have hp:=List.find?_some hr
 simp only [List.contains_eq_mem,decide_eq_true_eq] at hp
 have:∀ r∈frows,∀ c∈r.drop 2,2≤c∧c≤128∧c≠65:=by decide +kernel
 exact this r hm no hp
theorem wI {no:Int} {v:BB}:xA no v=true↔∃ k l,zD no=some (k,l)∧fv k l v:=by
 unfold xA
 cases ho:zD no with
 | none=>simp
 | some p =>
  obtain ⟨k,l⟩:=p
  simp only [decide_eq_true_eq,Option.some.injEq,Prod.mk.injEq]
  exact ⟨fun h=>⟨k,l,⟨rfl,rfl⟩,h⟩,fun ⟨_,_,⟨h1,h2⟩,h⟩=>by rw [h1,h2];exact h⟩
theorem qv7 {no:Int} {v:BB} (h:xA no v=true):2≤no∧no≤128∧no≠65:=by
 obtain ⟨k,l,h1,_⟩:=wI.1 h;exact qGr h1
theorem xF {l:List V}:∀ {last:Int},zU last l=true→∀ v∈l,last < v.1∧xA v.1 v.2.1=true:=by
 induction l with
 | nil=>intro _ _ v hv;cases hv
 | cons x r ih =>
  intro last h v hv
  simp only [zU,Bool.and_eq_true,decide_eq_true_eq] at h
  rcases List.mem_cons.1 hv with rfl | hv
  ·exact ⟨h.1,h.2.1⟩
  ·have:=ih h.2.2 v hv
   exact ⟨by omega,this.2⟩
def nosF (l:List V):List Int:=l.map fun v=>v.1
theorem qHj {l:List V}:∀ {last:Int},1≤last→zU last l=true→z2 last (nosF l)=true:=by
 induction l with
 | nil=>intros;rfl
 | cons x r ih =>
  intro last hl h
  simp only [zU,Bool.and_eq_true,decide_eq_true_eq] at h
  have hn:=qv7 h.2.1
  simp only [nosF,List.map_cons,z2,Bool.and_eq_true,decide_eq_true_eq]
  exact ⟨⟨h.1,hn.2⟩,ih (by omega) h.2.2⟩
theorem qkV {l:List V} (h:zU 0 l=true):z2 1 (nosF l)=true:=by
 cases l with
 | nil=>rfl
 | cons x r =>
  simp only [zU,Bool.and_eq_true,decide_eq_true_eq] at h
  have hn:=qv7 h.2.1
  simp only [nosF,List.map_cons,z2,Bool.and_eq_true,decide_eq_true_eq]
  exact ⟨⟨by omega,hn.2⟩,qHj (by omega) h.2.2⟩
def wrV (v:V):BB:=(wrD v.1 v.2.1).1
theorem qpK {no:Int} {v:BB} (h:xA no v=true):wrD no v=((wrD no v).1,0,())∧(wrD no v).1.length≤402∧1≤(wrD no v).1.length:=by
 obtain ⟨k,l,h1,h2⟩:=wI.1 h
 have e:wrD no v=(wrF k v,0,()):=by unfold wrD;rw [h1];simp only [if_pos h2]
 have hl:=qID h1 h2
 rw [e]
 exact ⟨rfl,qKn (yB h1).1 hl.2.2,qIR (yB h1).1 hl.1⟩
def typB (m:Int):BB:=bcd (pad (ps 10 dch m.toNat 4))
theorem qd4 {m:Int}:(typB m).length=2:=by unfold typB;rw [zT,zK]
def wrM (m:M):BB:=typB m.1++(bmW (nosF m.2.1)++m.2.1.flatMap wrV)
theorem x7 (l:List Int):(bmW l).length=if qb0 l=true then 16 else 8:=by unfold bmW;split <;> exact vD
theorem qGs (l:List V):∀ acc:List Int,l.foldl (fun acc v=>acc++[v.1]) acc=acc++nosF l:=by
 induction l with
 | nil=>intro acc;simp [nosF]
 | cons v r ih=>intro acc;rw [List.foldl_cons,ih];simp [nosF]
theorem qH1 (l:List V):∀ acc:BB,l.foldl (fun acc v=>acc++wrV v) acc=acc++l.flatMap wrV:=by
 induction l with
 | nil=>intro acc;simp
 | cons v r ih=>intro acc;rw [List.foldl_cons,ih];simp
theorem qmI {m:Int} (h:jO m):x6 (m,4,())=some (ps 10 dch m.toNat 4,0,())∧qcI (ps 10 dch m.toNat 4,())=some (typB m,0,())∧j5 (m,4,())=some (ps 10 dch m.toNat 4,0,())∧vT (ps 10 dch m.toNat 4,())=some (typB m,0,()):=by
 unfold jO at h
 have e:(10:Int) ^ (4:Int).toNat=10000:=by decide
 refine ⟨?_, ?_, ?_, ?_⟩
 ·rw [yF _ _ (by omega),if_pos ⟨by omega,by omega,by omega,by rw [e];omega⟩];rfl
 ·rw [qhD _ (by rw [zK];omega),if_pos qj2];rfl
 ·rw [vM _ _ (by omega),if_pos ⟨by omega,by omega,by omega,by rw [e];omega⟩];rfl
 ·rw [qb9 _ (by rw [zK];omega),if_pos qj2];rfl
theorem qi5 (m:M) (hm:fewM m):qbA (m,())=some (if xE m=true then (wrM m,0,()) else ([],1,())):=by
 unfold qbA
 generalize hf:(fun (x_1:List Int×Int×Unit)=>_)=f
 generalize hg:(fun (x_1:BB×Int×Unit)=>(_:Option (LS (BB×Int×Unit) (BB×Int×Unit))))=g
 have hR:=qs3 m hm
 have hl:=hm.1
 cases hr:xE m
 ·simp (disch:=first | assumption | omega | (dsimp only;omega) | decide) only [go_sem,Int.reduceToNat,hR,hr]
 have hr':=hr
 simp only [xE,Bool.and_eq_true,decide_eq_true_eq] at hr'
 obtain ⟨d1,d2, -, -⟩:=qmI hr'.2
 have key:=xJ (f:=f) (ρ:=BB×Int×Unit) m.2.1 (fun (acc:List Int) i=>(acc,(i:Int),())) 0 (fun acc v => .nx (acc++[v.1])) (fun acc i=>acc.length=i) (fun b i h hI=>⟨?_,fun b' hb => ?_⟩) (fun b _ => ?_) [] rfl
 ·rw [qlN (g:=fun (acc:List Int) (v:V)=>acc++[v.1]) (fun _ _=>rfl),qGs,List.nil_append] at key
  have hbm:=qnE (nosF m.2.1) (by simp [nosF];omega)
  rw [if_pos (qkV hr'.1)] at hbm
  have htl:=qd4 (m:=m.1)
  have hbl:(bmW (nosF m.2.1)).length≤16:=by rw [x7];split <;> omega
  have key2:=xJ (f:=g) (ρ:=BB×Int×Unit) m.2.1 (fun (acc:BB) i=>(acc,(i:Int),())) 2 (fun acc v => .nx (acc++wrV v)) (fun acc i=>acc.length≤100+402*i) (fun b i h hI=>⟨?_,fun b' hb => ?_⟩) (fun b _ => ?_) (typB m.1++bmW (nosF m.2.1)) (by rw [List.length_append];omega)
  ·rw [qlN (g:=fun (acc:BB) (v:V)=>acc++wrV v) (fun _ _=>rfl),qH1,List.append_assoc] at key2
   have hnl:(nosF m.2.1).length=m.2.1.length:=by simp [nosF]
   replace key:loop f ([],0,())=_:=key
   replace key2:loop g (typB m.1++bmW (nosF m.2.1),0,())=_:=key2
   simp (disch:=first | assumption | omega | (dsimp only;omega) | decide) only [go_sem,Int.reduceToNat,hR,hr,d1,d2,key,hbm,key2]
   rfl
  ·subst hg
   have hfit:=xF hr'.1 m.2.1[i] (List.getElem_mem h)
   have hw:=qpK hfit.2
   have hlv:=hm.nth h
   have hws:=qo0 m.2.1[i].1 m.2.1[i].2.1 hlv
   rw [hw.1] at hws
   have hwl:(wrV m.2.1[i]).length≤402:=hw.2.1
   change qbF _=some (wrV m.2.1[i],0,()) at hws
   simp (disch:=omega) only [go_sem,Int.reduceToNat,hws,yV]
  ·cases hb
   have hfit:=xF hr'.1 m.2.1[i] (List.getElem_mem h)
   have hwl:(wrV m.2.1[i]).length≤402:=(qpK hfit.2).2.1
   rw [List.length_append];omega
  ·subst hg;simp (disch:=omega) only [go_sem,Int.reduceToNat]
 ·subst hf;simp (disch:=omega) only [go_sem,Int.reduceToNat,List.length_cons,yV]
 ·cases hb;rw [List.length_append,hI];rfl
 ·subst hf;simp (disch:=omega) only [go_sem,Int.reduceToNat]
theorem qqA {m:Int} (h:jO m):qh7 (m,())=some (ps 10 dch m.toNat 4,()):=by
 unfold qh7
 obtain ⟨-, -,d1, -⟩:=qmI h
 simp only [go_sem,Int.reduceToNat,d1]
theorem qfK (m:M) (hm:fewM m):v5 (m,())=some (if xE m=true then (wrM m,0,()) else ([],1,())):=by
 unfold v5
 generalize hf:(fun (x_1:List Int×BB×Int×Unit)=>_)=f
 have hR:=qoR m hm
 have hl:=hm.1
 cases hr:xE m
 ·simp (disch:=first | assumption | omega | (dsimp only;omega) | decide) only [go_sem,Int.reduceToNat,hR,hr]
 have hr':=hr
 simp only [xE,Bool.and_eq_true,decide_eq_true_eq] at hr'
 obtain ⟨-, -,d1,d2⟩:=qmI hr'.2
 have key:=xJ (f:=f) (ρ:=BB×Int×Unit) m.2.1 (fun (acc:List Int×BB) i=>(acc.1,acc.2,(i:Int),())) 0 (fun acc v => .nx (acc.1++[v.1],acc.2++wrV v)) (fun acc i=>acc.1.length=i∧acc.2.length≤402*i) (fun b i h hI=>⟨?_,fun b' hb => ?_⟩) (fun b _ => ?_) ([],[]) ⟨rfl,by simp⟩
 ·rw [qlN (g:=fun (acc:List Int×BB) (v:V)=>(acc.1++[v.1],acc.2++wrV v)) (fun _ _=>rfl)] at key
  have hfold:∀ (l:List V) (a:List Int) (b:BB),l.foldl (fun (acc:List Int×BB) v=>(acc.1++[v.1],acc.2++wrV v)) (a,b)=(a++nosF l,b++l.flatMap wrV):=by
   intro l
   induction l with
   | nil=>intro a b;simp [nosF]
   | cons v r ih=>intro a b;rw [List.foldl_cons,ih];simp [nosF]
  rw [hfold,List.nil_append,List.nil_append] at key
  have hbm:=qoS (nosF m.2.1) (by simp [nosF];omega)
  rw [if_pos (qkV hr'.1)] at hbm
  have htl:=qd4 (m:=m.1)
  have hbl:(bmW (nosF m.2.1)).length≤16:=by rw [x7];split <;> omega
  have hfl:(m.2.1.flatMap wrV).length≤402*m.2.1.length:=by
   have:∀ l:List V,(∀ v∈l,xA v.1 v.2.1=true)→(l.flatMap wrV).length≤402*l.length:=by
    intro l
    induction l with
    | nil=>simp
    | cons v r ih =>
     intro h
     have h1:(wrV v).length≤402:=(qpK (h v (by simp))).2.1
     have h2:=ih fun u hu=>h u (by simp [hu])
     simp only [List.flatMap_cons,List.length_append,List.length_cons];omega
   exact this _ fun v hv=>(xF hr'.1 v hv).2
  have h4:=qqA hr'.2
  replace key:loop f ([],[],0,())=_:=key
  simp (disch:=first | assumption | omega | (dsimp only;omega) | decide) only [go_sem,Int.reduceToNat,hR,hr,h4,d2,key,hbm,List.length_append]
  rw [List.append_assoc];rfl
 ·subst hf
  have hfit:=xF hr'.1 m.2.1[i] (List.getElem_mem h)
  have hw:=qpK hfit.2
  have hlv:=hm.nth h
  have hws:=qoT m.2.1[i].1 m.2.1[i].2.1 hlv
  rw [hw.1] at hws
  have hwl:(wrV m.2.1[i]).length≤402:=hw.2.1
  change qaW _=some (wrV m.2.1[i],0,()) at hws
  simp (disch:=omega) only [go_sem,Int.reduceToNat,hws,yV,List.length_cons]
 ·cases hb
  have hfit:=xF hr'.1 m.2.1[i] (List.getElem_mem h)
  have hwl:(wrV m.2.1[i]).length≤402:=(qpK hfit.2).2.1
  refine ⟨by rw [List.length_append,hI.1];rfl, ?_⟩
  rw [List.length_append];omega
 ·subst hf;simp (disch:=omega) only [go_sem,Int.reduceToNat]
def noM:M:=(0,[],())
def rdFs (b:BB):List Int→Int→List V→Option Int×Int×List V
 | [],at',F=>(none,at',F)
 | n :: r,at',F=>if (rdD n b at').2.2.1=0 then rdFs b r (rdD n b at').2.1 (F++[(n,(rdD n b at').1,())]) else (some (rdD n b at').2.2.1,at',F)
def qqH (b:BB) (s:Int×List V) (n:Int):LS (Int×List V) (M×Int×Unit):=if (rdD n b s.1).2.2.1=0 then .nx ((rdD n b s.1).2.1,s.2++[(n,(rdD n b s.1).1,())]) else .rt (noM,(rdD n b s.1).2.2.1,())
theorem qDh {σ:Type} {mk:Int×List V→Nat→σ} {e:Nat} {b:BB}:∀ (l:List Int) (s:Int×List V) (i:Nat),kJ mk e (qqH b) s i l=match rdFs b l s.1 s.2 with | (none,a,F) => .ex e (mk (a,F) (i+l.length)) | (some q,_,_) => .rt (noM,q,())
 | [],s,i=>rfl
 | n :: r,s,i=>by
  unfold rdFs
  by_cases h:(rdD n b s.1).2.2.1=0
  ·have hs:qqH b s n = .nx ((rdD n b s.1).2.1,s.2++[(n,(rdD n b s.1).1,())]):=if_pos h
   simp only [kJ,hs,if_pos h]
   rw [qDh r _ (i+1)]
   simp only [List.length_cons,Nat.add_assoc,Nat.add_comm 1]
  ·have hs:qqH b s n = .rt (noM,(rdD n b s.1).2.2.1,()):=if_neg h
   simp only [kJ,hs,if_neg h]
def qt7 (_:Unit) (n:Int):LS Unit (M×Int×Unit):=if (zD n).isSome=true then .nx () else .rt (noM,2,())
theorem qDi {σ:Type} {mk:Unit→Nat→σ} {e:Nat}:∀ (l:List Int) (i:Nat),kJ mk e qt7 () i l=if ∀ n∈l,(zD n).isSome=true then .ex e (mk () (i+l.length)) else .rt (noM,2,())
 | [],i=>by simp [kJ]
 | n :: r,i=>by
  by_cases h:(zD n).isSome=true
  ·have hs:qt7 () n = .nx ():=if_pos h
   simp only [kJ,hs,List.mem_cons,forall_eq_or_imp,h,true_and]
   rw [qDi r (i+1)]
   simp only [List.length_cons,Nat.add_assoc,Nat.add_comm 1]
  ·have hs:qt7 () n = .rt (noM,2,()):=if_neg h
   simp only [kJ,hs]
   rw [if_neg fun hc=>h (hc n (by simp))]
def rdE (b:BB) (m:Int) (l:List Int) (at':Int):M×Int×Unit :=
 if ∀ n∈l,(zD n).isSome=true then (match rdFs b l at' [] with | (none,a,F)=>if a < (b.length:Int) then (noM,4,()) else ((m,F,()),0,()) | (some q,_,_)=>(noM,q,())) else (noM,2,())
def rdM (b:BB):M×Int×Unit :=
 if (zJ b 0 4).2.2.1≠0 then (noM,(zJ b 0 4).2.2.1,()) else if jO (val (zJ b 0 4).1:Int) then
  (if (bmR b 2).2.2.1≠0 then (noM,(bmR b 2).2.2.1,()) else rdE b (val (zJ b 0 4).1:Int) (bmR b 2).1 (bmR b 2).2.1) else (noM,2,())
theorem qnS {c:BB}:(xU c).length≤8*c.length+1:=by
 unfold xU
 have:=List.length_filter_le (fun n=>Nat.ble 2 n && hasB c n) (List.range (8*c.length+1))
 rwa [List.length_range] at this
theorem quW {b:BB} {a:Int}:(bmR b a).1.length≤129:=by
 unfold bmR
 split
 ·simp
 unfold bmC
 split
 ·simp
 split
 ·split
  ·simp
  ·have:=qnS (c:=(b.drop a.toNat).take 16)
   have h2:=List.length_take_le 16 (b.drop a.toNat)
   simp only [List.length_map];omega
 ·have:=qnS (c:=(b.drop a.toNat).take 8)
  have h2:=List.length_take_le 8 (b.drop a.toNat)
  simp only [List.length_map];omega
theorem qJV {o:Option (Int×Int)}:(fr o).2.1=o.isSome:=by cases o <;> rfl
theorem qCL {Of:Int×Unit→Option ((Int×Int×Unit)×Bool×Unit)} (hOf:∀ n,Of (n,())=some (fr (zD n))) {Rd:Int×BB×Int×Unit→Option (BB×Int×Int×Unit)} {b:BB} (hRd:∀ n a,Rd (n,b,a,())=some (rdD n b a))
  {l:List Int} (hl:l.length≤129) {at' mti:Int} {e1:Int} {f:Int×Int×Unit→Option (LS (Int×Int×Unit) (M×Int×Unit))} {g:Int×Int×Int×M×Unit→Option (LS (Int×Int×Int×M×Unit) (M×Int×Unit))}
  (hf:∀ x (i:Nat),f (x,(i:Int),())=sel (lt (i:Int) (len l)) (ck (inB (i:Int) (len l)) (ob (Of (nth l (nat (i:Int)) 0,())) fun a=>sel (bnot a.2.1) (some (.rt (noM,2,()))) (some (.nx (x,i64 (iadd (i:Int) 1),()))))) (some (.ex 0 (x,(i:Int),()))))
  (hg:∀ x a (i:Nat) (F:List V),g (x,a,(i:Int),(mti,F,()),())=sel (lt (i:Int) (len l)) (ck (inB (i:Int) (len l)) (ob (Rd (nth l (nat (i:Int)) 0,b,a,())) fun q=>sel (bnot (beq q.2.2.1 0)) (some (.rt (noM,q.2.2.1,())))
   (ck (rm 56 (nadd (ln F) 1)) (some (.nx (x,q.2.1,i64 (iadd (i:Int) 1),(mti,app F [(nth l (nat (i:Int)) 0,q.1,())],()),())))))) (some (.ex 2 (x,a,(i:Int),(mti,F,()),())))) (x0:Int) :
  lc (loop f (x0,0,())) (fun _=>none) (fun i a=>ck (neb i 0) (lc (loop g (a.1,at',0,(mti,[],()),())) (fun _=>none) (fun i a=>ck (neb i 2) (sel (lt a.2.1 (len b)) (some (noM,4,())) (some ((a.2.2.2.1.1,a.2.2.2.1.2.1,a.2.2.2.1.2.2),0,())))) fun r=>some r)) (fun r=>some r)=some (rdE b mti l at'):=by
 have key:=xJ (f:=f) l (fun (_:Unit) i=>(x0,(i:Int),())) 0 qt7 (fun _ _=>True) (fun _ i h _=>⟨?_,fun _ _=>trivial⟩) (fun _ _ => ?_) () trivial
 ·refine (zH key).trans ?_
  rw [qDi]
  unfold rdE
  by_cases ho:∀ n∈l,(zD n).isSome=true
  ·rw [if_pos ho,if_pos ho]
   refine qqX.trans ((qH g62).trans ?_)
   have key2:=xJ (f:=g) l (fun (s:Int×List V) i=>(x0,s.1,(i:Int),(mti,s.2,()),())) 2 (qqH b) (fun s i=>s.2.length≤i) (fun s i h hI=>⟨?_,fun s' hs => ?_⟩) (fun s _ => ?_) (at',[]) (Nat.le_refl _)
   ·refine (zH key2).trans ?_
    rw [qDh]
    rcases rdFs b l at' [] with ⟨_ | q,a,F⟩
    ·refine qqX.trans ((qH g62).trans ?_)
     by_cases ha:a < (b.length:Int)
     ·simp only [if_pos ha];simp (disch:=first | assumption | omega | (dsimp only;omega) | decide) only [go_sem,Int.reduceToNat]
     ·simp only [if_neg ha];simp (disch:=first | assumption | omega | (dsimp only;omega) | decide) only [go_sem,Int.reduceToNat]
    ·rfl
   ·rw [hg]
    by_cases h0:(rdD l[i] b s.1).2.2.1=0
    ·have hst:qqH b s l[i] = .nx ((rdD l[i] b s.1).2.1,s.2++[(l[i],(rdD l[i] b s.1).1,())]):=if_pos h0
     simp (disch:=omega) only [go_sem,Int.reduceToNat,hRd,h0,hst,yV]
    ·have hst:qqH b s l[i] = .rt (noM,(rdD l[i] b s.1).2.2.1,()):=if_neg h0
     simp (disch:=omega) only [go_sem,Int.reduceToNat,hRd,h0,hst,yV]
   ·unfold qqH at hs
    split at hs
    ·cases hs;rw [List.length_append];simp;omega
    ·cases hs
   ·rw [hg];simp (disch:=omega) only [go_sem,Int.reduceToNat]
  ·rw [if_neg ho,if_neg ho];rfl
 ·rw [hf]
  cases h0:(zD l[i]).isSome
  ·have hst:qt7 () l[i] = .rt (noM,2,()):=if_neg (by rw [h0];simp)
   simp (disch:=omega) only [go_sem,Int.reduceToNat,hOf,qJV,h0,hst,yV]
  ·have hst:qt7 () l[i] = .nx ():=if_pos h0
   simp (disch:=omega) only [go_sem,Int.reduceToNat,hOf,qJV,h0,hst,yV]
 ·rw [hf];simp (disch:=omega) only [go_sem,Int.reduceToNat]
theorem qlI (b:BB) (hl:b.length≤1000000):qlJ (b,())=some (rdM b):=by
 unfold qlJ
 refine (qG (wN b 0 4 hl)).trans ?_
 unfold rdM
 rcases z5 (b:=b) (I:=0) (N:=4) (Nat.zero_le _) (by omega) with ⟨_,h⟩ | ⟨_,h,_⟩ | ⟨s,h4,h,hf,hs,_⟩
 ·replace h:zJ b 0 4=([],0,3,()):=h
  rw [h];rfl
 ·replace h:zJ b 0 4=([],0,2,()):=h
  rw [h];rfl
 ·replace h:zJ b 0 4=(s,2,0,()):=h
  rw [h]
  refine (qB rfl).trans ?_
  refine (qG (qcH s)).trans ?_
  rw [if_pos ⟨by omega,by omega,hf⟩,if_neg (by simp)]
  refine (qG (qaC _)).trans ?_
  by_cases ht:jO (val s:Int)
  ·refine (qB (by rw [D_t ht];rfl)).trans ?_
   rw [if_pos ht]
   refine (qG (a:=bmR b 2) rfl).trans ?_
   by_cases h0:(bmR b 2).2.2.1=0
   ·refine (qB (by rw [qfD h0];rfl)).trans ?_
    rw [if_neg (by simp [h0])]
    exact qCL (e1:=0) yD (b:=b) (fun n a=>qrD n b a hl) quW (fun _ _=>rfl) (fun _ _ _ _=>rfl) 0
   ·refine (qE (by rw [wJ h0];rfl)).trans ?_
    rw [if_pos h0];rfl
  ·refine (qE (by rw [D_f ht];rfl)).trans ?_
   rw [if_neg ht];rfl
theorem qgD (b:BB) (hl:b.length≤1000000):qaI (b,())=some (rdM b):=by
 unfold qaI
 unfold rdM
 rcases z5 (b:=b) (I:=0) (N:=4) (Nat.zero_le _) (by omega) with ⟨h2,h⟩ | ⟨h2,h,_⟩ | ⟨s,h4,h,hf,hs,_⟩
 ·replace h:zJ b 0 4=([],0,3,()):=h
  rw [h]
  exact (qE (lt_t (by simp only [len];omega))).trans rfl
 ·replace h:zJ b 0 4=([],0,2,()):=h
  rw [h]
  refine (qB (lt_f (by simp only [len];omega))).trans ?_
  refine (qG (j0 b 0 4 hl)).trans ?_
  rw [h]
  refine (qG (vW [] (by simp))).trans ?_
  rfl
 ·replace h:zJ b 0 4=(s,2,0,()):=h
  rw [h]
  refine (qB (lt_f (by simp only [len];omega))).trans ?_
  refine (qG (j0 b 0 4 hl)).trans ?_
  rw [h]
  refine (qG (vW s (by omega))).trans ?_
  rw [if_pos ⟨by omega,by omega,hf⟩,if_neg (by simp)]
  by_cases ht:jO (val s:Int)
  ·refine (qG (a:=(false,())) ((qB rfl).trans ((qG (qaV _)).trans (by rw [D_t ht];rfl)))).trans ?_
   refine (qB rfl).trans ?_
   rw [if_pos ht]
   refine (qG (qqB b 2 hl)).trans ?_
   by_cases h0:(bmR b 2).2.2.1=0
   ·refine (qB (by rw [qfD h0];rfl)).trans ?_
    rw [if_neg (by simp [h0])]
    refine qCL (e1:=0) w8 (b:=b) (fun n a=>qqC n b a hl) quW (fun _ _=>rfl) (fun x a i F => ?_) 0
    by_cases hi:i < (bmR b 2).1.length
    ·have hin:inB (i:Int) (len (bmR b 2).1)=true:=q9 hi
     simp only [hin,ck_t];rfl
    ·refine (qB (lt_f (by simp only [len];omega))).trans (qB (lt_f (by simp only [len];omega))).symm
   ·refine (qE (by rw [wJ h0];rfl)).trans ?_
    rw [if_pos h0];rfl
  ·refine (qG (a:=(true,())) ((qB rfl).trans ((qG (qaV _)).trans (by rw [D_f ht];rfl)))).trans ?_
   rw [if_neg ht];rfl
noncomputable def qBI     {α : Type} (c : Nat) (z : α) (x : List (List α) × Unit) : Option (List α × Unit) :=
  lc (loop (fun (x_1 : Int × Int × Unit) => sel (lt x_1.2.1 (len x.1)) (ck (inB x_1.2.1 (len x.1)) (sel (lt (i64 (iadd x_1.1 (len (nth x.1 (nat x_1.2.1) (none' α))))) 0) none
        (some (LS.nx (i64 (iadd x_1.1 (len (nth x.1 (nat x_1.2.1) (none' α)))), i64 (iadd x_1.2.1 1), ()))))) (some (LS.ex 0 (x_1.1, x_1.2.1, ())))) (0, 0, ()))
  (fun (a : Int × Int × Unit) => none)
  (fun (i : Nat) (a : Int × Int × Unit) => ck (neb i 0) (sel (lt a.1 0) none (sel (lt 0 (i64 (isub a.1 (i64 (isub 0 0))))) (ck (inC 0 0 0)
       (ck (band (le 0 (i64 (isub a.1 (i64 (isub 0 0))))) (rm c (nat (i64 (isub a.1 (i64 (isub 0 0))))))) (ck (inC 0 0 (len (rep (nat (i64 (isub a.1 (i64 (isub 0 0))))) z)))
         (lc (loop (fun (x_1 : List α × Int × Unit) => sel (lt x_1.2.1 (len x.1)) (ck (inB x_1.2.1 (len x.1)) (ck (rm c (nadd (ln x_1.1) (ln (nth x.1 (nat x_1.2.1) (none' α)))))
            (some (LS.nx (app x_1.1 (nth x.1 (nat x_1.2.1) (none' α)), i64 (iadd x_1.2.1 1), ()))))) (some (LS.ex 2 (x_1.1, x_1.2.1, ())))) (cut (rep (nat (i64 (isub a.1 (i64 (isub 0 0))))) z) (nat 0) (nsub (nat 0) (nat 0)), 0, ()))
          (fun (a : List α × Int × Unit) => none) (fun (i : Nat) (a : List α × Int × Unit) => ck (neb i 2) (some (a.1, ()))) fun (r : List α × Unit) => some r))))
      (lc (loop (fun (x_1 : List α × Int × Unit) => sel (lt x_1.2.1 (len x.1)) (ck (inB x_1.2.1 (len x.1)) (ck (rm c (nadd (ln x_1.1) (ln (nth x.1 (nat x_1.2.1) (none' α)))))
            (some (LS.nx (app x_1.1 (nth x.1 (nat x_1.2.1) (none' α)), i64 (iadd x_1.2.1 1), ()))))) (some (LS.ex 2 (x_1.1, x_1.2.1, ())))) (none' α, 0, ()))
       (fun (a : List α × Int × Unit) => none) (fun (i : Nat) (a : List α × Int × Unit) => ck (neb i 2) (some (a.1, ()))) fun (r : List α × Unit) => some r))))
  fun (r : List α × Unit) => some r
theorem qm4 {α β σ ρ:Type} {mk:β→Nat→σ} {e:Nat} {step:β→α→LS β ρ} {g:β→α→β} (h:∀ b x,step b x = .nx (g b x)):∀ (l:List α) (b:β) (i:Nat),kJ mk e step b i l = .ex e (mk (l.foldl g b) (i+l.length))
 | [],b,i=>rfl
 | x :: r,b,i=>by
  simp only [kJ,h,List.foldl_cons,List.length_cons]
  rw [qm4 h r (g b x) (i+1)]
  congr 2;omega
theorem qGt {α:Type} (ls:List (List α)):∀ a:Int,ls.foldl (fun s x=>s+(x.length:Int)) a=a+(ls.flatten.length:Int):=by
 induction ls with
 | nil=>intro a;simp
 | cons x r ih=>intro a;rw [List.foldl_cons,ih];simp only [List.flatten_cons,List.length_append];omega
theorem qGu {α:Type} (ls:List (List α)):∀ a:List α,ls.foldl (fun s x=>s++x) a=a++ls.flatten:=by
 induction ls with
 | nil=>intro a;simp
 | cons x r ih=>intro a;rw [List.foldl_cons,ih];simp
theorem qz1 {α:Type} {c:Nat} {z:α} (hc:c≤100000) (ls:List (List α)) (hl:ls.length≤100) (hx:∀ x∈ls,x.length≤1000000):qBI c z (ls,())=some (ls.flatten,()):=by
 unfold qBI
 generalize hf:(fun (x_1:Int×Int×Unit)=>_)=f
 generalize hg:(fun (x_1:List α×Int×Unit)=>(_:Option (LS (List α×Int×Unit) (List α×Unit))))=g
 have hmul:∀ n:Nat,n≤100000000→n*c≤140737488355328:=fun n hn=>Nat.le_trans (Nat.mul_le_mul hn hc) (by omega)
 have hlen:ls.flatten.length≤100000000:=by
  have:∀ ls:List (List α),(∀ x∈ls,x.length≤1000000)→ls.flatten.length≤1000000*ls.length:=by
   intro ls
   induction ls with
   | nil=>simp
   | cons x r ih =>
    intro h
    have h1:=h x (by simp)
    have h2:=ih fun u hu=>h u (by simp [hu])
    simp only [List.flatten_cons,List.length_append,List.length_cons];omega
  have:=this ls hx
  omega
 have key:=xJ (f:=f) (ρ:=List α×Unit) ls (fun (s:Int) i=>(s,(i:Int),())) 0 (fun s x => .nx (s+(x.length:Int))) (fun s i=>0≤s∧s≤1000000*i) (fun s i h hI=>⟨?_,fun b' hb => ?_⟩) (fun s _ => ?_) 0 (by simp)
 ·rw [qm4 (g:=fun (s:Int) (x:List α)=>s+(x.length:Int)) (fun _ _=>rfl),qGt,Int.zero_add] at key
  replace key:loop f (0,0,())=_:=key
  have key2:=xJ (f:=g) (ρ:=List α×Unit) ls (fun (s:List α) i=>(s,(i:Int),())) 2 (fun s x => .nx (s++x)) (fun s i=>s.length≤1000000*i) (fun s i h hI=>⟨?_,fun b' hb => ?_⟩) (fun s _ => ?_) [] (by simp)
  ·rw [qm4 (g:=fun (s:List α) (x:List α)=>s++x) (fun _ _=>rfl),qGu,List.nil_append] at key2
   replace key2:loop g ([],0,())=_:=key2
   refine (zH key).trans (qqX.trans ((qH g62).trans ((qB (by simp (disch:=omega) only [go_sem,Int.reduceToNat];omega)).trans ?_)))
   by_cases h0:0 < ls.flatten.length
   ·refine (qE (by simp (disch:=first | assumption | omega | (dsimp only;omega) | decide) only [go_sem,Int.reduceToNat];omega)).trans ((qH (by simp (disch:=first | assumption | omega | (dsimp only;omega) | decide) only [go_sem,Int.reduceToNat];decide)).trans ?_)
    have hrep:∀ (n:Nat) (a:α),(rep n a).length=n:=fun n a=>by simp [rep]
    have h5:i64 (isub (ls.flatten.length:Int) (i64 (isub 0 0)))=(ls.flatten.length:Int):=by simp (disch:=first | assumption | omega | (dsimp only;omega) | decide) only [go_sem,Int.reduceToNat];omega
    simp only [h5]
    have hm:=hmul _ hlen
    refine (qH (by simp (disch:=omega) only [go_sem,Int.reduceToNat];exact ⟨by omega,hm⟩)).trans ((qH (by simp (disch:=omega) only [go_sem,Int.reduceToNat,hrep];exact ⟨by omega,by omega,by omega⟩)).trans ?_)
    have hcut:cut (rep (nat (ls.flatten.length:Int)) z) (nat 0) (nsub (nat 0) (nat 0))=[]:=by simp [cut,nat,nsub]
    rw [hcut]
    refine (zH key2).trans ?_
    simp (disch:=first | assumption | omega | (dsimp only;omega) | decide) only [go_sem,Int.reduceToNat]
   ·refine (qB (by simp (disch:=first | assumption | omega | (dsimp only;omega) | decide) only [go_sem,Int.reduceToNat];omega)).trans ((zH key2).trans ?_)
    simp (disch:=first | assumption | omega | (dsimp only;omega) | decide) only [go_sem,Int.reduceToNat]
  ·subst hg
   have h2:=hx ls[i] (List.getElem_mem h)
   have hm:=hmul (s.length+(ls[i]).length) (by omega)
   simp (disch:=omega) only [go_sem,Int.reduceToNat,yV]
  ·cases hb
   have h2:=hx ls[i] (List.getElem_mem h)
   rw [List.length_append];omega
  ·subst hg;simp (disch:=omega) only [go_sem,Int.reduceToNat]
 ·subst hf
  have h2:=hx ls[i] (List.getElem_mem h)
  simp (disch:=omega) only [go_sem,Int.reduceToNat,yV]
 ·cases hb
  have h2:=hx ls[i] (List.getElem_mem h)
  omega
 ·subst hf;simp (disch:=omega) only [go_sem,Int.reduceToNat]
theorem qCm (ls:List (List V)) (hl:ls.length≤100) (hx:∀ x∈ls,x.length≤1000000):zG (ls,())=some (ls.flatten,()) :=
 (show zG (ls,())=qBI 56 (0,none' UInt8,()) (ls,()) from rfl).trans (qz1 (by omega) ls hl hx)
def xB (no:Int):List V→Nat
 | []=>0
 | v :: r=>if no≤v.1 then 0 else xB no r+1
def hasI (no:Int):List V→Bool
 | []=>false
 | v :: r=>if no≤v.1 then decide (v.1=no) else hasI no r
theorem qv8 (no:Int):∀ l:List V,xB no l≤l.length
 | []=>Nat.le_refl _
 | v :: r=>by
  unfold xB
  split
  ·exact Nat.zero_le _
  ·have:=qv8 no r
   simp only [List.length_cons];omega
theorem qv0 {no:Int}:∀ {l:List V},hasI no l=true→∃ h:xB no l < l.length,(l[xB no l]).1=no
 | [],h=>by cases h
 | v :: r,h=>by
  unfold hasI at h
  by_cases hc:no≤v.1
  ·rw [if_pos hc] at h
   have:xB no (v :: r)=0:=by unfold xB;rw [if_pos hc]
   simp only [this]
   exact ⟨by simp,by simpa using h⟩
  ·rw [if_neg hc] at h
   obtain ⟨h1,h2⟩:=qv0 h
   have:xB no (v :: r)=xB no r+1:=by conv=>{ lhs;unfold xB }; rw [if_neg hc]
   simp only [this]
   exact ⟨by simp;omega,by simpa using h2⟩
theorem qzQ (l:List V) (no:Int) (hl:l.length≤1000000):z8 ((l,1,()),no,())=some ((xB no l:Int),hasI no l,()):=by
 unfold z8
 generalize hf:(fun (x_1:Int×Bool×Int×Unit)=>_)=f
 have key:∀ (r:List V) (i:Nat),l.drop i=r→i≤l.length→loop f (0,false,(i:Int),())=if i+xB no r < l.length then some (.rt (((i+xB no r:Nat):Int),hasI no r,())) else some (.ex 0 (0,false,(l.length:Int),())):=by
  intro r
  induction r with
  | nil =>
   intro i hr hi
   have hl':=congrArg List.length hr
   rw [List.length_drop,List.length_nil] at hl'
   have:i=l.length:=by omega
   subst this
   rw [if_neg (by simp [xB])]
   refine qT ?_
   subst hf;simp (disch:=omega) only [go_sem,Int.reduceToNat]
  | cons v r ih =>
   intro i hr hi
   have hl':=congrArg List.length hr
   rw [List.length_drop,List.length_cons] at hl'
   have hlt:i < l.length:=by omega
   rw [List.drop_eq_getElem_cons hlt] at hr
   obtain ⟨hv,hr'⟩:=List.cons.inj hr
   have hp:wG (v,())=some (v.1,()):=rfl
   by_cases hc:no≤v.1
   ·have h0:xB no (v :: r)=0:=by unfold xB;rw [if_pos hc]
    have h1:hasI no (v :: r)=D (v.1=no):=by unfold hasI;rw [if_pos hc];exact g51
    rw [h0,h1,if_pos (by omega)]
    refine qgR ?_
    subst hf;simp (disch:=omega) only [go_sem,Int.reduceToNat,hv,hp,Int.add_zero]
   ·have h0:xB no (v :: r)=xB no r+1:=by conv=>{ lhs;unfold xB }; rw [if_neg hc]
    have h1:hasI no (v :: r)=hasI no r:=by conv=>{ lhs;unfold hasI }; rw [if_neg hc]
    rw [h0,h1]
    refine (vR (y:=(0,false,((i+1:Nat):Int),())) ?_).trans ((ih (i+1) hr' hlt).trans ?_)
    ·subst hf;simp (disch:=omega) only [go_sem,Int.reduceToNat,hv,hp]
    ·rw [show i+1+xB no r=i+(xB no r+1) by omega]
 have k0:=key l 0 rfl (Nat.zero_le _)
 rw [Nat.zero_add] at k0
 refine (zH k0).trans ?_
 by_cases hlt:xB no l < l.length
 ·rw [if_pos hlt];rfl
 ·rw [if_neg hlt]
  have he:=qv8 no l
  have:xB no l=l.length:=by omega
  have hn:hasI no l=false:=(Bool.not_eq_true _).mp fun h=>hlt (qv0 h).1
  rw [this,hn];rfl
def getD (l:List V) (no:Int):BB×Bool×Unit:=if hasI no l=true then ((nth l (xB no l) (0,[],())).2.1,true,()) else ([],false,())
theorem qnX (m:M) (no:Int) (hl:m.2.1.length≤1000000):yX (m,no,())=some (getD m.2.1 no):=by
 unfold yX
 refine (qG (show qdM (m,())=some ((m.2.1,1,()),()) from rfl)).trans ?_
 refine (qG (qzQ m.2.1 no hl)).trans ?_
 unfold getD
 cases h:hasI no m.2.1
 ·rfl
 ·obtain ⟨h1,h2⟩:=qv0 h
  exact (qB rfl).trans ((qH (q9 h1)).trans rfl)
def qxR (l:List V) (x:V):List V:=l.take (xB x.1 l)++(x :: l.drop (if hasI x.1 l=true then xB x.1 l+1 else xB x.1 l))
theorem qEO {α:Type} {l:List α} {n:Nat}:sub l 0 (n:Int)=l.take n:=by simp [sub]
theorem qEN {α:Type} {l:List α} {n:Nat}:sub l (n:Int) (len l)=l.drop n:=by
 simp only [sub,len,Int.toNat_natCast];rw [List.take_of_length_le (by rw [List.length_drop];omega)]
theorem qED (l:List V) (x:V) (hl:l.length≤100000):j6 ((l,1,()),x,())=some (qxR l x,()):=by
 unfold j6
 refine (qH g62).trans ((qG (show wG (x,())=some (x.1,()) from rfl)).trans ((qG (qzQ l x.1 (by omega))).trans ?_))
 have hle:=qv8 x.1 l
 have hc:∀ n:Nat,zG ([l.take (xB x.1 l),[x],l.drop n],())=some (l.take (xB x.1 l)++(x :: l.drop n),()):=fun n=>by
  rw [qCm _ (by simp) (fun y hy=>by
   simp only [List.mem_cons,List.not_mem_nil,or_false] at hy
   rcases hy with rfl | rfl | rfl
   ·have:=List.length_take_le' (xB x.1 l) l;omega
   ·simp
   ·rw [List.length_drop];omega)]
  simp
 unfold qxR
 cases h:hasI x.1 l
 ·refine (qG (qB rfl)).trans ?_
  refine (qH (by simp only [go_sem,Int.reduceToNat];omega)).trans ((qH (by simp only [go_sem,Int.reduceToNat];omega)).trans ?_)
  simp only [qEO,qEN]
  exact (qG (hc _)).trans rfl
 ·obtain ⟨h1,h2⟩:=qv0 h
  have e:i64 (iadd (xB x.1 l:Int) 1)=((xB x.1 l+1:Nat):Int):=zE (b:=1) (by omega)
  refine (qG (qE rfl)).trans ?_
  simp only [e]
  refine (qH (by simp only [go_sem,Int.reduceToNat];omega)).trans ((qH (by simp only [go_sem,Int.reduceToNat];omega)).trans ?_)
  simp only [qEO,qEN]
  exact (qG (hc _)).trans rfl
def qHb (m:M) (no:Int) (v:BB):M×Int×Unit:=if zD no=none then (m,12,()) else if xA no v=true then ((m.1,qxR m.2.1 (no,v,()),()),0,()) else (m,1,())
theorem qnW (m:M) (no:Int) (v:BB) (hl:m.2.1.length≤100000) (hv:v.length≤1000000):jR (m,no,v,())=some (qHb m no v):=by
 unfold jR qHb
 refine (qG (yD no)).trans ?_
 rw [qJV]
 cases ho:zD no with
 | none=>rfl
 | some p =>
  rw [if_neg (by simp)]
  refine (qB rfl).trans ((qG (yE no v hv)).trans ?_)
  cases hf:xA no v
  ·rfl
  ·exact (qB rfl).trans ((qG (show qdM (m,())=some ((m.2.1,1,()),()) from rfl)).trans ((qG (qED m.2.1 (no,v,()) hl)).trans rfl))
def getR (no:Int):List V→BB×Bool×Unit
 | []=>([],false,())
 | v :: r=>if v.1=no then (v.2.1,true,()) else getR no r
def quG (no:Int) (_:Unit) (v:V):LS Unit (BB×Bool×Unit):=if v.1=no then .rt (v.2.1,true,()) else .nx ()
theorem qDj {σ:Type} {mk:Unit→Nat→σ} {e:Nat} {no:Int}:∀ (l:List V) (i:Nat),∃ j,kJ mk e (quG no) () i l=if (getR no l).2.1=true then .rt (getR no l) else .ex e (mk () j)
 | [],i=>⟨i,rfl⟩
 | v :: r,i=>by
  by_cases h:v.1=no
  ·have hs:quG no () v = .rt (v.2.1,true,()):=if_pos h
   have hg:getR no (v :: r)=(v.2.1,true,()):=by unfold getR;rw [if_pos h]
   exact ⟨0,by simp only [kJ,hs,hg,if_pos]⟩
  ·have hs:quG no () v = .nx ():=if_neg h
   have hg:getR no (v :: r)=getR no r:=by conv=>{ lhs;unfold getR }; rw [if_neg h]
   obtain ⟨j,hj⟩:=qDj (mk:=mk) (e:=e) (no:=no) r (i+1)
   exact ⟨j,by simp only [kJ,hs,hg];exact hj⟩
theorem qq6 {no:Int}:∀ {l:List V},(getR no l).2.1=false→getR no l=([],false,())
 | [],_=>rfl
 | v :: r,h=>by
  unfold getR at h ⊢
  split
  ·rename_i hc;rw [if_pos hc] at h;cases h
  ·rename_i hc;rw [if_neg hc] at h;exact qq6 h
theorem qb6 (m:M) (no:Int) (hl:m.2.1.length≤1000000):kP (m,no,())=some (getR no m.2.1):=by
 unfold kP
 generalize hf:(fun (x_1:Bool×Int×Unit)=>_)=f
 have key:=xJ (f:=f) m.2.1 (fun (_:Unit) i=>(false,(i:Int),())) 0 (quG no) (fun _ _=>True) (fun _ i h _=>⟨?_,fun _ _=>trivial⟩) (fun _ _ => ?_) () trivial
 ·refine (zH key).trans ?_
  obtain ⟨j,hj⟩:=qDj (mk:=fun _ i=>((false,(i:Int),()):Bool×Int×Unit)) (e:=0) (no:=no) m.2.1 0
  rw [hj]
  cases h:(getR no m.2.1).2.1
  ·rw [qq6 h];rfl
  ·rfl
 ·subst hf
  by_cases h1:(m.2.1[i]).1=no
  ·have hs:quG no () m.2.1[i] = .rt (m.2.1[i].2.1,true,()):=if_pos h1
   simp (disch:=omega) only [go_sem,Int.reduceToNat,hs,yV]
  ·have hs:quG no () m.2.1[i] = .nx ():=if_neg h1
   simp (disch:=omega) only [go_sem,Int.reduceToNat,hs,yV]
 ·subst hf;simp (disch:=omega) only [go_sem,Int.reduceToNat]
def setR (l:List V) (x:V):List V:=l.filter (fun v=>decide (v.1 < x.1))++(x :: l.filter (fun v=>decide (x.1 < v.1)))
def dg (n:Int) (w:Nat):BB:=ps 10 dch n.toNat w
theorem z9 {n:Int} {w:Nat}:(dg n w).length=w:=zK _ _ _ _
theorem qBE {n:Int} {w:Nat}:figs (dg n w):=qj2
theorem qLj    {n : Int} {w : Nat} (h0 : 0 ≤ n) (h : n < 10 ^ w) : (val (dg n w) : Int) = n := by
  unfold dg
  rw [qEF   , Nat.mod_eq_of_lt (by have : ((n.toNat : Nat) : Int) < ((10 ^ w : Nat) : Int) := by rw [Int.toNat_of_nonneg h0]; push_cast; exact h
                                   exact Int.ofNat_lt.1 this)]
  omega
theorem xI {n:Int} {w:Nat} (h1:1≤w) (h2:w≤18) (h0:0≤n) (h:n < 10 ^ w) (h64:n≤9223372036854775807):zY (n,(w:Int),())=some (dg n w,()):=by
 unfold zY
 rw [yF _ _ h64,if_pos ⟨show (1:Int)≤(w:Int) by omega,show (w:Int)≤18 by omega,h0,by simpa using h⟩]
 show ck (rm 1 (ln (dg n w))) _=_
 simp (disch:=omega) only [go_sem,Int.reduceToNat,z9]
 rfl
theorem jZ {n:Int} {w:Nat} (h1:1≤w) (h2:w≤18) (h0:0≤n) (h:n < 10 ^ w) (h64:n≤9223372036854775807):qW (n,(w:Int),())=some (dg n w,()):=by
 unfold qW
 rw [vM _ _ h64,if_pos ⟨show (1:Int)≤(w:Int) by omega,show (w:Int)≤18 by omega,h0,by simpa using h⟩]
 show ck (rm 1 (ln (dg n w))) _=_
 simp (disch:=omega) only [go_sem,Int.reduceToNat,z9]
 rfl
def msgN (n:N):M :=
 if n.1=false then (810,[(11,dg n.2.2.1 6,()),(39,dg n.2.2.2.1 2,()),(70,dg n.2.1 3,())],())
 else if n.2.1=101 then (800,[(11,dg n.2.2.1 6,()),(48,jC n.2.2.2.2.2.2.1,()),(53,dg n.2.2.2.2.1 16,()),(70,dg n.2.1 3,()),(96,n.2.2.2.2.2.1,())],())
 else if n.2.1=201 then (800,[(11,dg n.2.2.1 6,()),(15,dg n.2.2.2.2.2.2.2.1 6,()),(70,dg n.2.1 3,())],())
 else (800,[(11,dg n.2.2.1 6,()),(70,dg n.2.1 3,())],())
theorem qbD {no k:Int} {w:Nat} (h:zD no=some (k,(w:Int))) (hw:1≤w) {n:Int}:xA no (dg n w)=true:=by
 unfold xA
 rw [h]
 refine decide_eq_true ⟨⟨fun _=>qBE,fun _=>qiL qBE⟩, ?_⟩
 unfold fln
 rw [z9]
 split <;> omega
theorem fo11:zD 11=some (1,6):=by decide
theorem fo15:zD 15=some (1,6):=by decide
theorem fo39:zD 39=some (3,2):=by decide
theorem fo48:zD 48=some (5,400):=by decide
theorem fo53:zD 53=some (1,16):=by decide
theorem fo70:zD 70=some (1,3):=by decide
theorem fo96:zD 96=some (6,8):=by decide
theorem qIE {v:BB} (h:v.length=8):xA 96 v=true:=by
 unfold xA
 rw [fo96]
 refine decide_eq_true ⟨⟨fun h=>by omega,fun h=>by omega⟩, ?_⟩
 unfold fln
 rw [if_pos (by omega),h];rfl
theorem qJs {t:Int} {l:List V} {no:Int} {v:BB} (hl:l.length≤100) (hv:v.length≤1000) (hf:xA no v=true):jR ((t,l,()),no,v,())=some ((t,qxR l (no,v,()),()),0,()):=by
 rw [qnW (t,l,()) no v (show l.length≤100000 by omega) (by omega)]
 obtain ⟨k,m,hk,_⟩:=wI.1 hf
 unfold qHb
 rw [if_neg (by rw [hk];simp),if_pos hf]
theorem qFT:∀ k:Nat,k < 16→32≤(nib k).toNat∧(nib k).toNat≤126:=by decide
theorem qGj {b:BB} {c:UInt8} (h:c∈jC b):32≤c.toNat∧c.toNat≤126:=by
 unfold jC at h
 obtain ⟨x,_,hc⟩:=List.mem_flatMap.1 h
 have hx:=x.toNat_lt
 simp only [List.mem_cons,List.not_mem_nil,or_false] at hc
 rcases hc with rfl | rfl
 ·exact qFT _ (by omega)
 ·exact qFT _ (by omega)
theorem qGi {b:BB}:rng 32 126 (jC b):=by
 intro i h
 have:=qGj (List.getElem_mem h)
 rw [qy0];omega
theorem qIF {b:BB} (h:b.length=3):xA 48 (jC b)=true:=by
 unfold xA
 rw [fo48]
 refine decide_eq_true ⟨⟨fun h=>by omega,fun _=>qGi⟩, ?_⟩
 unfold fln
 rw [zM,h];decide
theorem setc {t:Int} {l l':List V} {no:Int} {v:BB} (hl:l.length≤100) (hv:v.length≤1000) (hf:xA no v=true) (hw:qxR l (no,v,())=l'):jR ((t,l,()),no,v,())=some ((t,l',()),0,()):=by rw [← hw];exact qJs hl hv hf
theorem qdF {n:N} (hr:jF n):kD (n,())=some (msgN n,()):=by
 obtain ⟨rq,c,st,rs,g,no,k,d,⟨⟩⟩:=n
 have hr':=jM.1 hr
 obtain ⟨hc,s1,s2,r1,r2,r3,hk⟩:=hr'
 have hc0:0≤c∧c≤301:=by unfold kZ at hc;omega
 have e11:zY (st,6,())=some (dg st 6,()):=xI (n:=st) (w:=6) (by omega) (by omega) (by omega) (by omega) (by omega)
 have e70:zY (c,3,())=some (dg c 3,()):=xI (n:=c) (w:=3) (by omega) (by omega) (by omega) (by omega) (by omega)
 have e39:zY (rs,2,())=some (dg rs 2,()):=xI (n:=rs) (w:=2) (by omega) (by omega) (by omega) (by omega) (by omega)
 have f11:=fun n=>qbD (no:=11) (w:=6) (n:=n) fo11 (by omega)
 have f15:=fun n=>qbD (no:=15) (w:=6) (n:=n) fo15 (by omega)
 have f39:=fun n=>qbD (no:=39) (w:=2) (n:=n) fo39 (by omega)
 have f53:=fun n=>qbD (no:=53) (w:=16) (n:=n) fo53 (by omega)
 have f70:=fun n=>qbD (no:=70) (w:=3) (n:=n) fo70 (by omega)
 have len:∀ {n:Int} {w:Nat},w≤20→(dg n w).length≤1000:=fun h=>by rw [z9];omega
 have t1:jR ((810,([]:List V),()),11,dg st 6,())=some ((810,[(11,dg st 6,())],()),0,()):=setc (l:=[]) (by decide) (len (by omega)) (f11 st) rfl
 have t2:jR ((810,[(11,dg st 6,())],()),70,dg c 3,())=some ((810,[(11,dg st 6,()),(70,dg c 3,())],()),0,()):=setc (by simp) (len (by omega)) (f70 c) rfl
 unfold kD
 cases rq
 ·have t3:jR ((810,[(11,dg st 6,()),(70,dg c 3,())],()),39,dg rs 2,())=some ((810,[(11,dg st 6,()),(39,dg rs 2,()),(70,dg c 3,())],()),0,()):=setc (by simp) (len (by omega)) (f39 rs) rfl
  simp only [go_sem,Int.reduceToNat,e11,e70,e39,t1,t2,t3]
  rfl
 ·by_cases h1:c=101
  ·subst h1
   rw [if_pos ⟨rfl,rfl⟩] at hk
   obtain ⟨g1,g2,hn,hkc,hd⟩:=hk
   have e53:zY (g,16,())=some (dg g 16,()):=xI (n:=g) (w:=16) (by omega) (by omega) (by omega) (by omega) (by omega)
   have ex:=qn2 k (by omega)
   have hxl:(jC k).length=6:=by rw [zM,hkc]
   have t3:jR ((800,[(11,dg st 6,()),(70,dg 101 3,())],()),48,jC k,())=some ((800,[(11,dg st 6,()),(48,jC k,()),(70,dg 101 3,())],()),0,()):=setc (by simp) (by omega) (qIF hkc) rfl
   have t4:jR ((800,[(11,dg st 6,()),(48,jC k,()),(70,dg 101 3,())],()),53,dg g 16,())=some ((800,[(11,dg st 6,()),(48,jC k,()),(53,dg g 16,()),(70,dg 101 3,())],()),0,()):=setc (by simp) (len (by omega)) (f53 g) rfl
   have t5:jR ((800,[(11,dg st 6,()),(48,jC k,()),(53,dg g 16,()),(70,dg 101 3,())],()),96,no,())=some ((800,[(11,dg st 6,()),(48,jC k,()),(53,dg g 16,()),(70,dg 101 3,()),(96,no,())],()),0,()):=setc (by simp) (by omega) (qIE hn) rfl
   simp (disch:=omega) only [go_sem,Int.reduceToNat,e11,e70,e39,e53,ex,t1,t2,t3,t4,t5,hxl]
   rfl
  ·by_cases h2:c=201
   ·subst h2
    rw [if_neg (by omega),if_pos ⟨rfl,rfl⟩] at hk
    obtain ⟨_,_,_,d1,d2⟩:=hk
    have e15:zY (d,6,())=some (dg d 6,()):=xI (n:=d) (w:=6) (by omega) (by omega) (by omega) (by omega) (by omega)
    have t3:jR ((800,[(11,dg st 6,()),(70,dg 201 3,())],()),15,dg d 6,())=some ((800,[(11,dg st 6,()),(15,dg d 6,()),(70,dg 201 3,())],()),0,()):=setc (by simp) (len (by omega)) (f15 d) rfl
    simp (disch:=omega) only [go_sem,Int.reduceToNat,e11,e70,e39,e15,t1,t2,t3]
    rfl
   ·simp only [go_sem,Int.reduceToNat,e11,e70,e39,t1,t2,h1,h2,D_f h1,D_f h2]
    show _=some (if true=false then _ else if c=101 then _ else if c=201 then _ else _,())
    rw [if_neg (by decide),if_neg h1,if_neg h2]
theorem qkY {n:N} (hr:jF n):wZ (n,())=some (msgN n,()):=by
 obtain ⟨rq,c,st,rs,g,no,k,d,⟨⟩⟩:=n
 have hr':=jM.1 hr
 obtain ⟨hc,s1,s2,r1,r2,r3,hk⟩:=hr'
 have hc0:0≤c∧c≤301:=by unfold kZ at hc;omega
 have e11:qW (st,6,())=some (dg st 6,()):=jZ (n:=st) (w:=6) (by omega) (by omega) (by omega) (by omega) (by omega)
 have e70:qW (c,3,())=some (dg c 3,()):=jZ (n:=c) (w:=3) (by omega) (by omega) (by omega) (by omega) (by omega)
 have e39:qW (rs,2,())=some (dg rs 2,()):=jZ (n:=rs) (w:=2) (by omega) (by omega) (by omega) (by omega) (by omega)
 unfold wZ
 cases rq
 ·simp (disch:=omega) only [go_sem,Int.reduceToNat,e11,e70,e39,List.length_cons,List.length_nil,List.length_append]
  rfl
 ·by_cases h1:c=101
  ·subst h1
   rw [if_pos ⟨rfl,rfl⟩] at hk
   obtain ⟨g1,g2,hn,hkc,hd⟩:=hk
   have e53:qW (g,16,())=some (dg g 16,()):=jZ (n:=g) (w:=16) (by omega) (by omega) (by omega) (by omega) (by omega)
   have ex:=qsW k (by omega)
   have hxl:(jC k).length=6:=by rw [zM,hkc]
   simp (disch:=omega) only [go_sem,Int.reduceToNat,e11,e70,e39,e53,ex,hxl,List.length_cons,List.length_nil,List.length_append]
   rfl
  ·by_cases h2:c=201
   ·subst h2
    rw [if_neg (by omega),if_pos ⟨rfl,rfl⟩] at hk
    obtain ⟨_,_,_,d1,d2⟩:=hk
    have e15:qW (d,6,())=some (dg d 6,()):=jZ (n:=d) (w:=6) (by omega) (by omega) (by omega) (by omega) (by omega)
    simp (disch:=omega) only [go_sem,Int.reduceToNat,e11,e70,e39,e15,List.length_cons,List.length_nil,List.length_append]
    rfl
   ·simp (disch:=omega) only [go_sem,Int.reduceToNat,e11,e70,e39,h1,h2,D_f h1,D_f h2,List.length_cons,List.length_nil,List.length_append]
    show _=some (if true=false then _ else if c=101 then _ else if c=201 then _ else _,())
    rw [if_neg (by decide),if_neg h1,if_neg h2]
    rfl
theorem qtW:∀ {a b:List Int},a.Pairwise (· < ·)→b.Pairwise (· < ·)→(∀ n,n∈a↔n∈b)→a=b
 | [],[],_,_,_=>rfl
 | [],y :: b,_,_,h=>by have:=(h y).2 (by simp);cases this
 | x :: a,[],_,_,h=>by have:=(h x).1 (by simp);cases this
 | x :: a,y :: b,ha,hb,h=>by
  rw [List.pairwise_cons] at ha hb
  have hxy:x=y:=by
   have h1:=(h x).1 (by simp)
   have h2:=(h y).2 (by simp)
   rcases List.mem_cons.1 h1 with h1 | h1
   ·exact h1
   ·rcases List.mem_cons.1 h2 with h2 | h2
    ·exact h2.symm
    ·have:=hb.1 x h1
     have:=ha.1 y h2
     omega
  subst hxy
  rw [qtW ha.2 hb.2 fun n => ?_]
  have:=h n
  simp only [List.mem_cons] at this
  constructor
  ·intro hn
   rcases this.1 (.inr hn) with rfl | h1
   ·have:=ha.1 n hn;omega
   ·exact h1
  ·intro hn
   rcases this.2 (.inr hn) with rfl | h1
   ·have:=hb.1 n hn;omega
   ·exact h1
theorem qkU {l:List Int}:∀ {last:Int},z2 last l=true→l.Pairwise (· < ·):=by
 induction l with
 | nil=>intros;exact List.Pairwise.nil
 | cons x r ih =>
  intro last h
  have hm:=h
  simp only [z2,Bool.and_eq_true,decide_eq_true_eq] at h
  exact List.pairwise_cons.2 ⟨fun y hy=>(x4 h.2 y hy).1,ih h.2⟩
theorem qE9 {l:List Int}:∀ {last:Int},l.Pairwise (· < ·)→(∀ n∈l,last < n∧n≤128∧n≠65)→z2 last l=true:=by
 induction l with
 | nil=>intros;rfl
 | cons x r ih =>
  intro last hp h
  rw [List.pairwise_cons] at hp
  simp only [z2,Bool.and_eq_true,decide_eq_true_eq]
  refine ⟨h x (by simp),ih hp.2 fun n hn=>⟨hp.1 n hn,(h n (by simp [hn])).2⟩⟩
theorem qnR (c:BB):((xU c).map Int.ofNat).Pairwise (· < ·):=by
 rw [List.pairwise_map]
 refine List.Pairwise.imp ?_ (show (xU c).Pairwise (· < ·) from List.Pairwise.filter _ List.pairwise_lt_range)
 intro a b h;exact Int.ofNat_lt.2 h
theorem qa3 {c:BB} {n:Nat}:n∈xU c↔n≤8*c.length∧2≤n∧hasB c n=true:=by
 unfold xU
 rw [List.mem_filter,List.mem_range,Bool.and_eq_true]
 constructor
 ·rintro ⟨h1,h2,h3⟩;exact ⟨by omega,Nat.le_of_ble_eq_true h2,h3⟩
 ·rintro ⟨h1,h2,h3⟩;exact ⟨by omega,Nat.ble_eq_true_of_le h2,h3⟩
theorem qxC {l:List Int} (h:z2 1 l=true) {n:Nat} (h1:1≤n) (h2:n≤8*(bmW l).length):hasB (bmW l) n=(decide ((n:Int)∈l) || (Nat.beq n 1 && qb0 l)):=by
 rw [x7] at h2
 unfold bmW
 cases hw:qb0 l
 ·rw [hw] at h2
  rw [if_neg (by simp)] at h2 ⊢
  rw [qg1 h1 h2,Bool.and_false,Bool.or_false];rfl
 ·rw [hw] at h2
  rw [if_pos rfl] at h2 ⊢
  rw [qg1 h1 h2,Bool.and_true]
  unfold memI
  refine Bool.eq_iff_iff.2 ?_
  simp only [Bool.or_eq_true,decide_eq_true_eq,List.mem_cons,Nat.beq_eq]
  rw [or_comm]
  refine or_congr Iff.rfl ?_
  omega
theorem qHF {l:List Int} (h:z2 1 l=true):(xU (bmW l)).map Int.ofNat=l:=by
 refine qtW (qnR _) (qkU h) fun n => ?_
 rw [List.mem_map]
 have hm:=x4 h
 constructor
 ·rintro ⟨k,hk,rfl⟩
  obtain ⟨h1,h2,h3⟩:=qa3.1 hk
  rw [qxC h (by omega) h1] at h3
  have:Nat.beq k 1=false:=(Bool.not_eq_true _).mp fun hb=>by have:=Nat.eq_of_beq_eq_true hb;omega
  rw [this,Bool.false_and,Bool.or_false,decide_eq_true_eq] at h3
  exact h3
 ·intro hn
  have hb:=hm n hn
  refine ⟨n.toNat,qa3.2 ⟨?_,by omega, ?_⟩,by simp;omega⟩
  ·rw [x7]
   split
   ·omega
   ·rename_i hw
    have:=qk9 h hw n hn
    omega
  ·rw [qxC h (by omega) (by
    rw [x7]
    split
    ·omega
    ·rename_i hw
     have:=qk9 h hw n hn
     omega)]
   rw [Int.toNat_of_nonneg (by omega),decide_eq_true hn,Bool.true_or]
theorem qxB (l:List Int):8≤(bmW l).length∧(bmW l).length≤16:=by rw [x7];split <;> omega
theorem qJ6 {l:List Int} (h:z2 1 l=true):hasB (bmW l) 1=qb0 l:=by
 rw [qxC h (by omega) (by have:=qxB l;omega)]
 have:decide (((1:Nat):Int)∈l)=false:=decide_eq_false fun hc=>by have:=(x4 h _ hc).1;omega
 rw [this];rfl
theorem qCr {l:List Int} (h:z2 1 l=true):qb0 l=true↔∃ n∈l,64 < n:=by
 constructor
 ·intro hw
  unfold qb0 at hw
  rw [Bool.and_eq_true,decide_eq_true_eq,decide_eq_true_eq] at hw
  exact ⟨_,by rw [qL (show l.length - 1 < l.length by omega)];exact List.getElem_mem _,hw.2⟩
 ·rintro ⟨n,hn,h1⟩
  refine Classical.byContradiction fun hw => ?_
  have:=qk9 h hw n hn
  omega
theorem qJ9 {l:List Int} {c q:BB} {a:Int} (h:z2 1 l=true) (hc:c=bmW l++q):bmC c a=(l,a+((bmW l).length:Int),0,()):=by
 have h8:=qxB l
 have hcl:c.length=(bmW l).length+q.length:=by rw [hc,List.length_append]
 have ht:c.take (bmW l).length=bmW l:=by rw [hc,List.take_left]
 have h1:hasB c 1=qb0 l:=by
  rw [← qJ6 h,← ht]
  exact (qq4 (by omega) (by omega) (by omega)).symm
 have hn:=qHF h
 have hbl:=x7 l
 unfold bmC
 rw [h1]
 cases hw:qb0 l
 ·rw [hw,if_neg (by simp)] at hbl
  rw [hbl] at ht hcl ⊢
  rw [if_neg (by simp;omega),if_neg (by simp),ht,hn];rfl
 ·rw [hw,if_pos rfl] at hbl
  rw [hbl] at ht hcl ⊢
  rw [if_neg (by simp;omega),if_pos rfl,ht,hn,if_neg]
  ·rfl
  ·rintro (hc65 | hall)
   ·have:((65:Nat):Int)∈l:=by rw [← hn];exact List.mem_map.2 ⟨65,hc65,rfl⟩
    have:=(x4 h _ this).2.2
    exact this rfl
   ·obtain ⟨n,hn1,hn2⟩:=(qCr h).1 hw
    have hb:=x4 h n hn1
    rw [← hn] at hn1
    obtain ⟨k,hk,rfl⟩:=List.mem_map.1 hn1
    have:=hall k hk
    simp at hn2 hb;omega
theorem qJ7 {l:List Int} {b q:BB} {A:Nat} (h:z2 1 l=true) (hA:A≤b.length) (hb:b.drop A=bmW l++q):bmR b A=(l,((A+(bmW l).length:Nat):Int),0,()):=by
 unfold bmR
 rw [if_neg (by omega),Int.toNat_natCast,qJ9 h hb,Int.natCast_add]
theorem qJ8 {c:BB} {a a':Int} {l:List Int} (h:bmC c a=(l,a',0,())):z2 1 l=true∧a'=a+((bmW l).length:Int)∧(bmW l).length≤c.length∧c=bmW l++c.drop (bmW l).length:=by
 unfold bmC at h
 by_cases h0:c.length < 8∨(hasB c 1=true∧c.length < 16)
 ·rw [if_pos h0] at h;simp at h
 rw [if_neg h0] at h
 have main:∀ size:Nat,size=8∨size=16→size≤c.length→(hasB c 1=true↔size=16)→l=(xU (c.take size)).map Int.ofNat→(size=16→¬ (65∈xU (c.take 16)∨∀ n∈xU (c.take 16),n < 65))→z2 1 l=true∧bmW l=c.take size:=by
  intro size hs hsc h1 hl h65
  have htl:(c.take size).length=size:=by rw [List.length_take];omega
  have hr:z2 1 l=true:=by
   rw [hl]
   refine qE9 (qnR _) fun n hn => ?_
   obtain ⟨k,hk,rfl⟩:=List.mem_map.1 hn
   obtain ⟨k1,k2,k3⟩:=qa3.1 hk
   rw [htl] at k1
   refine ⟨by simp;omega,by simp;omega,fun hc => ?_⟩
   have hk65:k=65:=by simp at hc;omega
   subst hk65
   have h16:size=16:=by omega
   subst h16
   exact h65 rfl (.inl hk)
  have hw:qb0 l=true↔size=16:=by
   rw [qCr hr,hl]
   constructor
   ·rintro ⟨n,hn,h1⟩
    obtain ⟨k,hk,rfl⟩:=List.mem_map.1 hn
    obtain ⟨k1,_⟩:=qa3.1 hk
    rw [htl] at k1
    simp at h1;omega
   ·intro h16
    subst h16
    refine Classical.byContradiction fun hc=>h65 rfl (.inr fun n hn=>Classical.byContradiction fun hlt=>hc ⟨(n:Int),List.mem_map.2 ⟨n,hn,rfl⟩,by omega⟩)
  refine ⟨hr, ?_⟩
  have hbl:(bmW l).length=size:=by
   rw [x7]
   split
   ·rename_i h;exact (hw.1 h).symm
   ·rename_i h;have:¬ size=16:=fun e=>h (hw.2 e);omega
  refine qE6 (by rw [hbl,htl]) fun n n1 n2 => ?_
  rw [qxC hr n1 n2]
  rw [hbl] at n2
  rw [hl]
  by_cases hn1:n=1
  ·subst hn1
   have hd:decide (((1:Nat):Int)∈(xU (c.take size)).map Int.ofNat)=false:=decide_eq_false fun hc=>by
    obtain ⟨k,hk,hk1⟩:=List.mem_map.1 hc
    have:=(qa3.1 hk).2.1
    simp at hk1;omega
   rw [hd,Bool.false_or,qq4 (by omega) (by omega) hsc,← hl]
   have hb:Nat.beq 1 1=true:=rfl
   rw [hb,Bool.true_and]
   exact Bool.eq_iff_iff.2 (hw.trans h1.symm)
  ·have hb:Nat.beq n 1=false:=(Bool.not_eq_true _).mp fun hb=>hn1 (Nat.eq_of_beq_eq_true hb)
   rw [hb,Bool.false_and,Bool.or_false]
   refine Bool.eq_iff_iff.2 ?_
   rw [decide_eq_true_eq,List.mem_map]
   constructor
   ·rintro ⟨k,hk,hk1⟩
    have:k=n:=by simp at hk1;omega
    subst this
    exact (qa3.1 hk).2.2
   ·intro hh
    exact ⟨n,qa3.2 ⟨by rw [htl];omega,by omega,hh⟩,rfl⟩
 by_cases h1:hasB c 1=true
 ·rw [if_pos h1] at h
  by_cases h65:65∈xU (c.take 16)∨∀ n∈xU (c.take 16),n < 65
  ·rw [if_pos h65] at h;simp at h
  rw [if_neg h65] at h
  simp only [Prod.mk.injEq,and_true] at h
  have h16:16≤c.length:=by
   refine Classical.byContradiction fun hc=>h0 (.inr ⟨h1,by omega⟩)
  obtain ⟨r1,r2⟩:=main 16 (.inr rfl) h16 (iff_of_true h1 rfl) h.1.symm (fun _=>h65)
  have hbl:(bmW l).length=16:=by rw [r2,List.length_take];omega
  rw [hbl]
  refine ⟨r1,h.2.symm,h16, ?_⟩
  rw [r2,List.take_append_drop]
 ·rw [if_neg h1] at h
  simp only [Prod.mk.injEq,and_true] at h
  obtain ⟨r1,r2⟩:=main 8 (.inl rfl) (by omega) (iff_of_false h1 (by omega)) h.1.symm (fun e=>absurd e (by omega))
  have hbl:(bmW l).length=8:=by rw [r2,List.length_take];omega
  rw [hbl]
  refine ⟨r1,h.2.symm,by omega, ?_⟩
  rw [r2,List.take_append_drop]
theorem qIh {v:V} {k l:Int} (ho:zD v.1=some (k,l)) (hv:fv k l v.2.1):wrV v=wrF k v.2.1:=by
 unfold wrV wrD;rw [ho];simp only [if_pos hv]
theorem qJb {v:V} {b q:BB} {A:Nat} (hf:xA v.1 v.2.1=true) (hA:A≤b.length) (h:b.drop A=wrV v++q):rdD v.1 b A=(v.2.1,((A+(wrV v).length:Nat):Int),0,()):=by
 obtain ⟨k,l,ho,hv⟩:=wI.1 hf
 rw [qIh ho hv] at h ⊢
 unfold rdD;rw [ho]
 exact qI9 ho hA hv h
theorem qJa {no:Int} {v b:BB} {A:Nat} {I:Int} (hA:A≤b.length) (h:rdD no b A=(v,I,0,())):xA no v=true∧I=((A+(wrV (no,v,())).length:Nat):Int)∧A+(wrV (no,v,())).length≤b.length∧b.drop A=wrV (no,v,())++b.drop (A+(wrV (no,v,())).length):=by
 cases ho:zD no with
 | none=>unfold rdD at h;rw [ho] at h;simp at h
 | some p =>
  obtain ⟨k,l⟩:=p
  have h':rdF k l b A=(v,I,0,()):=by unfold rdD at h;rw [ho] at h;exact h
  obtain ⟨m1,m2,m3,m4⟩:=qI8 ho hA h'
  rw [qIh (v:=(no,v,())) ho m1]
  exact ⟨wI.2 ⟨k,l,ho,m1⟩,m2,m3,m4⟩
theorem qCN {b:BB}:∀ {l:List V} {A:Nat} {F:List V} {q:BB},(∀ v∈l,xA v.1 v.2.1=true)→A≤b.length→b.drop A=l.flatMap wrV++q→rdFs b (nosF l) A F=(none,((A+(l.flatMap wrV).length:Nat):Int),F++l)
 | [],A,F,q,_,_,_=>by simp [rdFs,nosF]
 | v :: r,A,F,q,hf,hA,h=>by
  rw [List.flatMap_cons,List.append_assoc] at h
  have h1:=qJb (hf v (by simp)) hA h
  have h2:=kH hA h
  simp only [nosF,List.map_cons,rdFs]
  rw [h1,if_pos rfl]
  have:=qCN (F:=F++[(v.1,v.2.1,())]) (fun u hu=>hf u (by simp [hu])) h2.1 h2.2
  simp only
  rw [show r.map (fun v=>v.1)=nosF r from rfl,this,List.flatMap_cons,List.length_append,Nat.add_assoc]
  have hv:(v.1,v.2.1,())=v:=by obtain ⟨a,b,⟨⟩⟩:=v;rfl
  rw [hv,List.append_assoc];rfl
theorem qCM {b:BB}:∀ {ns:List Int} {A:Nat} {F F':List V} {a':Int},A≤b.length→rdFs b ns A F=(none,a',F')→∃ l:List V,F'=F++l∧nosF l=ns∧(∀ v∈l,xA v.1 v.2.1=true)∧a'=((A+(l.flatMap wrV).length:Nat):Int)∧A+(l.flatMap wrV).length≤b.length∧b.drop A=l.flatMap wrV++b.drop (A+(l.flatMap wrV).length)
 | [],A,F,F',a',hA,h=>by
  simp only [rdFs,Prod.mk.injEq,true_and] at h
  obtain ⟨rfl,rfl⟩:=h
  exact ⟨[],by simp,rfl,by simp,by simp,by simpa using hA,by simp⟩
 | n :: r,A,F,F',a',hA,h=>by
  simp only [rdFs] at h
  by_cases h0:(rdD n b A).2.2.1=0
  ·rw [if_pos h0] at h
   rcases hx:rdD n b A with ⟨v,I,e,u⟩
   rw [hx] at h0 h
   simp only at h0
   subst h0
   obtain ⟨m1,m2,m3,m4⟩:=qJa hA hx
   subst m2
   obtain ⟨l,l1,l2,l3,l4,l5,l6⟩:=qCM m3 h
   refine ⟨(n,v,()) :: l,by rw [l1];simp,by simp only [nosF,List.map_cons];rw [← l2];rfl,fun w hw => ?_, ?_, ?_, ?_⟩
   ·rcases List.mem_cons.1 hw with rfl | hw
    ·exact m1
    ·exact l3 w hw
   ·rw [l4,List.flatMap_cons,List.length_append];omega
   ·rw [List.flatMap_cons,List.length_append];omega
   ·rw [List.flatMap_cons,List.length_append,List.append_assoc,← Nat.add_assoc,← l6];exact m4
  ·rw [if_neg h0] at h;simp at h
theorem qFa {l:List V}:∀ {last:Int},z2 last (nosF l)=true→(∀ v∈l,xA v.1 v.2.1=true)→zU last l=true:=by
 induction l with
 | nil=>intros;rfl
 | cons x r ih =>
  intro last h hf
  simp only [nosF,List.map_cons,z2,Bool.and_eq_true,decide_eq_true_eq] at h
  simp only [zU,Bool.and_eq_true,decide_eq_true_eq]
  exact ⟨h.1.1,hf x (by simp),ih h.2 fun v hv=>hf v (by simp [hv])⟩
theorem qBd {l:List V} {last last':Int} (hl:last'≤last) (h:zU last l=true):zU last' l=true:=by
 cases l with
 | nil=>rfl
 | cons x r =>
  simp only [zU,Bool.and_eq_true,decide_eq_true_eq] at h ⊢
  exact ⟨by omega,h.2⟩
theorem qCO {b:BB}:∀ {ns:List Int} {A:Int} {F F':List V} {a' e:Int},rdFs b ns A F=(some e,a',F')→¬ e=0
 | [],A,F,F',a',e,h=>by simp [rdFs] at h
 | n :: r,A,F,F',a',e,h=>by
  simp only [rdFs] at h
  by_cases h0:(rdD n b A).2.2.1=0
  ·rw [if_pos h0] at h;exact qCO h
  ·rw [if_neg h0] at h
   simp only [Prod.mk.injEq,Option.some.injEq] at h
   rw [← h.1];exact h0
theorem val4 {m:Int} (h:jO m):val (ps 10 dch m.toNat 4)=m.toNat:=by
 unfold jO at h
 rw [qEF,Nat.mod_eq_of_lt (by omega)]
theorem qEM {m:Int} {b q:BB} (h:jO m) (hb:b=typB m++q):zJ b 0 4=(ps 10 dch m.toNat 4,2,0,()):=by
 have:=qjK (b:=b) (s:=ps 10 dch m.toNat 4) (q:=q) (I:=0) (Nat.zero_le _) (by rw [zK];omega) qj2 hb
 rw [zK] at this;exact this
theorem qGc {l:List V} (h:∀ v∈l,xA v.1 v.2.1=true):∀ n∈nosF l,(zD n).isSome=true:=by
 intro n hn
 obtain ⟨v,hv,rfl⟩:=List.mem_map.1 hn
 obtain ⟨k,l,ho,_⟩:=wI.1 (h v hv)
 rw [ho];rfl
theorem x3 {m:M}:xE m=true↔zU 0 m.2.1=true∧jO m.1:=by unfold xE;rw [Bool.and_eq_true,decide_eq_true_eq]
theorem qI6 {m:M} {q:BB} (h:xE m=true):rdM (wrM m++q)=if q=[] then (m,0,()) else (noM,4,()):=by
 obtain ⟨hF,ht⟩:=x3.1 h
 have hfit:=fun v hv=>(xF hF v hv).2
 have hL:=qkV hF
 have e:wrM m++q=typB m.1++(bmW (nosF m.2.1)++(m.2.1.flatMap wrV++q)):=by unfold wrM;simp
 generalize hb:wrM m++q=b at *
 have h4:=qEM ht e
 have htl:=qd4 (m:=m.1)
 have hd:=kH (b:=b) (A:=0) (Nat.zero_le _) e
 rw [Nat.zero_add,htl] at hd
 have hr:=qJ7 hL hd.1 hd.2
 have hd2:=kH hd.1 hd.2
 have hfs:=qCN (F:=[]) hfit hd2.1 hd2.2
 have hd3:=kH hd2.1 hd2.2
 have hbl:=qwC hd3.1 hd3.2
 unfold rdM
 rw [h4,if_neg (by simp)]
 simp only
 rw [val4 ht,Int.toNat_of_nonneg (by unfold jO at ht;omega),if_pos ht]
 replace hr:bmR b 2=_:=hr
 rw [hr,if_neg (by simp)]
 unfold rdE
 rw [if_pos (qGc hfit),hfs]
 simp only [List.nil_append]
 by_cases hq:q=[]
 ·subst hq
  rw [List.length_nil] at hbl
  rw [if_pos rfl,if_neg (by omega)]
 ·rw [if_neg hq,if_pos (by have:=List.length_pos_iff.2 hq;omega)]
theorem qqI {b:BB} {m:M} (h:rdM b=(m,0,())):xE m=true∧wrM m=b:=by
 unfold rdM at h
 by_cases h0:(zJ b 0 4).2.2.1≠0
 ·rw [if_pos h0] at h
  simp only [Prod.mk.injEq,and_true] at h
  exact absurd h.2 h0
 rw [if_neg h0] at h
 rcases z5 (b:=b) (I:=0) (N:=4) (Nat.zero_le _) (by omega) with ⟨_,e⟩ | ⟨_,e,_⟩ | ⟨s,h4,e,hf,hs,htk⟩
 ·exact absurd (by rw [show zJ b 0 4=_ from e];simp) h0
 ·exact absurd (by rw [show zJ b 0 4=_ from e];simp) h0
 ·replace e:zJ b 0 4=(s,2,0,()):=e
  rw [e] at h
  simp only at h
  by_cases ht:jO (val s:Int)
  ·rw [if_pos ht] at h
   have hty:typB (val s:Int)=bcd (pad s):=by unfold typB;rw [Int.toNat_natCast,← hs,qIs hf]
   have hd:b.drop 0=typB (val s:Int)++b.drop 2:=by rw [hty];exact qiN htk
   rw [List.drop_zero] at hd
   by_cases hz:(bmR b 2).2.2.1≠0
   ·rw [if_pos hz] at h
    simp only [Prod.mk.injEq,and_true] at h
    exact absurd h.2 hz
   rw [if_neg hz] at h
   rcases hx:bmR b 2 with ⟨l,a',er,u⟩
   rw [hx] at h hz
   simp only [ne_eq,Decidable.not_not] at hz h
   subst hz
   have hC:bmC (b.drop 2) 2=(l,a',0,()):=by
    unfold bmR at hx
    rw [if_neg (by omega)] at hx;exact hx
   obtain ⟨c1,c2,c3,c4⟩:=qJ8 hC
   rw [List.length_drop] at c3
   rw [List.drop_drop] at c4
   unfold rdE at h
   by_cases ho:∀ n∈l,(zD n).isSome=true
   ·rw [if_pos ho] at h
    have ha':a'=((2+(bmW l).length:Nat):Int):=by omega
    rw [ha'] at h
    rcases hfs:rdFs b l ((2+(bmW l).length:Nat):Int) [] with ⟨_ | er,a2,F⟩
    ·rw [hfs] at h
     simp only at h
     obtain ⟨L,l1,l2,l3,l4,l5,l6⟩:=qCM (by omega) hfs
     by_cases hlt:a2 < (b.length:Int)
     ·rw [if_pos hlt] at h;simp at h
     rw [if_neg hlt] at h
     simp only [Prod.mk.injEq,and_true] at h
     rw [List.nil_append] at l1
     subst l1
     have hend:b.drop (2+(bmW l).length+(F.flatMap wrV).length)=[]:=List.drop_eq_nil_of_le (by omega)
     rw [hend,List.append_nil] at l6
     rw [← h]
     refine ⟨x3.2 ⟨qBd (by omega) (qFa (last:=1) (by rw [l2];exact c1) l3),ht⟩, ?_⟩
     unfold wrM
     simp only
     rw [l2,← l6,← c4,← hd]
    ·rw [hfs] at h
     simp only [Prod.mk.injEq,and_true] at h
     exact absurd h.2 (qCO hfs)
   ·rw [if_neg ho] at h;simp at h
  ·rw [if_neg ht] at h;simp at h
theorem qI7 {b:BB}:(rdM b).2.1=0∨(rdM b).1=noM:=by
 unfold rdM
 by_cases h0:(zJ b 0 4).2.2.1≠0
 ·rw [if_pos h0];exact .inr rfl
 rw [if_neg h0]
 by_cases ht:jO (val (zJ b 0 4).1:Int)
 ·rw [if_pos ht]
  by_cases hz:(bmR b 2).2.2.1≠0
  ·rw [if_pos hz];exact .inr rfl
  rw [if_neg hz]
  unfold rdE
  split
  ·rcases rdFs b (bmR b 2).1 (bmR b 2).2.1 [] with ⟨_ | er,a2,F⟩
   ·simp only
    split
    ·exact .inr rfl
    ·exact .inl rfl
   ·exact .inr rfl
  ·exact .inr rfl
 ·rw [if_neg ht];exact .inr rfl
def few (m:M):Prop:=m.2.1.length≤40∧∀ v∈m.2.1,v.2.1.length≤450
theorem few.fewM {m:M} (h:few m):fewM m:=⟨by have:=h.1;omega,fun v hv=>by have:=h.2 v hv;omega⟩
theorem qFm {b:BB}:(rdM b).1.2.1.length≤1000:=by
 rcases qI7 (b:=b) with h | h
 ·rcases hx:rdM b with ⟨m,e,u⟩
  rw [hx] at h
  simp only at h
  subst h
  have hr:=(x3.1 (qqI hx).1).1
  have hL:=qkV hr
  have hs:=qkU hL
  have hm:=x4 hL
  have hlen:(nosF m.2.1).length≤128:=by
   have key:∀ (l:List Int) (lo:Int),l.Pairwise (· < ·)→(∀ n∈l,lo < n∧n≤128)→(l.length:Int)≤128 - lo∨l=[]:=by
    intro l
    induction l with
    | nil=>intros;exact .inr rfl
    | cons x r ih =>
     intro lo hp h
     rw [List.pairwise_cons] at hp
     have hx:=h x (by simp)
     left
     rcases ih x hp.2 (fun n hn=>⟨hp.1 n hn,(h n (by simp [hn])).2⟩) with h1 | h1
     ·simp only [List.length_cons];omega
     ·subst h1;simp;omega
   rcases key _ 1 hs (fun n hn=>⟨(hm n hn).1,(hm n hn).2.1⟩) with h1 | h1
   ·omega
   ·rw [h1];simp
  simp only [nosF,List.length_map] at hlen
  show m.2.1.length≤1000
  omega
 ·rw [h];simp [noM]
theorem qFb {l:List V} {last:Int} (h:zU last l=true):∀ v∈l,last < v.1:=fun v hv=>(xF h v hv).1
theorem qJS {l:List V} {no last:Int} (hl:no≤last) (h:zU last l=true):getR no l=([],false,()):=by
 refine qq6 ?_
 induction l generalizing last with
 | nil=>rfl
 | cons v r ih =>
  simp only [zU,Bool.and_eq_true,decide_eq_true_eq] at h
  unfold getR
  rw [if_neg (by omega)]
  exact ih (last:=v.1) (by omega) h.2.2
theorem qzN {l:List V} {no:Int}:∀ {last:Int},zU last l=true→getD l no=getR no l:=by
 induction l with
 | nil=>intros;rfl
 | cons v r ih =>
  intro last h
  simp only [zU,Bool.and_eq_true,decide_eq_true_eq] at h
  unfold getR
  by_cases hc:no≤v.1
  ·have h0:xB no (v :: r)=0:=by unfold xB;rw [if_pos hc]
   have h1:hasI no (v :: r)=decide (v.1=no):=by unfold hasI;rw [if_pos hc]
   unfold getD
   rw [h0,h1]
   by_cases he:v.1=no
   ·rw [if_pos he,decide_eq_true he,if_pos rfl];rfl
   ·rw [if_neg he,decide_eq_false he,if_neg (by simp),qJS (by omega) h.2.2]
  ·have h0:xB no (v :: r)=xB no r+1:=by conv=>{ lhs;unfold xB }; rw [if_neg hc]
   have h1:hasI no (v :: r)=hasI no r:=by conv=>{ lhs;unfold hasI }; rw [if_neg hc]
   rw [if_neg (by omega),← ih h.2.2]
   unfold getD
   rw [h0,h1];rfl
theorem qnZ {l:List V} {no last:Int} (hl:no≤last) (h:zU last l=true):l.filter (fun v=>decide (v.1 < no))=[]∧l.filter (fun v=>decide (no < v.1))=l∧l.filter (fun v => !(decide (v.1=no)))=l:=by
 have hg:=qFb h
 refine ⟨List.filter_eq_nil_iff.2 fun v hv => ?_,List.filter_eq_self.2 fun v hv => ?_,List.filter_eq_self.2 fun v hv => ?_⟩ <;> have:=hg v hv <;> simp <;> omega
theorem qDH {l:List V} {x:V}:∀ {last:Int},zU last l=true→qxR l x=setR l x:=by
 induction l with
 | nil=>intros;rfl
 | cons v r ih =>
  intro last h
  simp only [zU,Bool.and_eq_true,decide_eq_true_eq] at h
  by_cases hc:x.1≤v.1
  ·have h0:xB x.1 (v :: r)=0:=by unfold xB;rw [if_pos hc]
   have h1:hasI x.1 (v :: r)=decide (v.1=x.1):=by unfold hasI;rw [if_pos hc]
   obtain ⟨f1,f2,_⟩:=qnZ (no:=x.1) hc h.2.2
   unfold qxR setR
   rw [h0,h1]
   by_cases he:v.1=x.1
   ·rw [decide_eq_true he,if_pos rfl,List.filter_cons_of_neg (by simp;omega),List.filter_cons_of_neg (by simp;omega),f1,f2];rfl
   ·rw [decide_eq_false he,if_neg (by simp),List.filter_cons_of_neg (by simp;omega),List.filter_cons_of_pos (by simp;omega),f1,f2];rfl
  ·have h0:xB x.1 (v :: r)=xB x.1 r+1:=by conv=>{ lhs;unfold xB }; rw [if_neg hc]
   have h1:hasI x.1 (v :: r)=hasI x.1 r:=by conv=>{ lhs;unfold hasI }; rw [if_neg hc]
   have hr:=ih h.2.2
   unfold qxR setR at hr ⊢
   rw [h0,h1,List.filter_cons_of_pos (by simp;omega),List.filter_cons_of_neg (by simp;omega)]
   cases hh:hasI x.1 r
   ·rw [hh,if_neg (by simp)] at hr
    rw [if_neg (by simp)]
    simp only [List.take_succ_cons,List.drop_succ_cons,List.cons_append,hr]
   ·rw [hh,if_pos rfl] at hr
    rw [if_pos rfl]
    simp only [List.take_succ_cons,List.drop_succ_cons,List.cons_append,hr]
theorem qo5 {m:M} (hr:xE m=true):rdM (wrM m)=(m,0,()):=by
 have:=qI6 (q:=[]) hr
 rw [List.append_nil,if_pos rfl] at this;exact this
theorem qdH {n:N} (hr:jF n):xE (msgN n)=true:=by
 obtain ⟨rq,c,st,rs,g,no,k,d,⟨⟩⟩:=n
 have hr':=jM.1 hr
 obtain ⟨hc,s1,s2,r1,r2,r3,hk⟩:=hr'
 have f11:=fun n=>qbD (no:=11) (w:=6) (n:=n) fo11 (by omega)
 have f15:=fun n=>qbD (no:=15) (w:=6) (n:=n) fo15 (by omega)
 have f39:=fun n=>qbD (no:=39) (w:=2) (n:=n) fo39 (by omega)
 have f53:=fun n=>qbD (no:=53) (w:=16) (n:=n) fo53 (by omega)
 have f70:=fun n=>qbD (no:=70) (w:=3) (n:=n) fo70 (by omega)
 unfold msgN xE
 cases rq
 ·simp [zU,f11,f39,f70,jO]
 ·by_cases h1:c=101
  ·subst h1
   rw [if_pos ⟨rfl,rfl⟩] at hk
   obtain ⟨g1,g2,hn,hkc,hd⟩:=hk
   simp [zU,f11,f53,f70,qIF hkc,qIE hn,jO]
  ·by_cases h2:c=201
   ·subst h2
    simp [zU,f11,f15,f70,jO]
   ·simp [zU,f11,f70,jO,h1,h2]
theorem qvP {n:N} (hr:jF n):few (msgN n):=by
 obtain ⟨rq,c,st,rs,g,no,k,d,⟨⟩⟩:=n
 have hr':=jM.1 hr
 obtain ⟨hc,s1,s2,r1,r2,r3,hk⟩:=hr'
 unfold msgN few
 cases rq
 ·simp [z9]
 ·by_cases h1:c=101
  ·subst h1
   rw [if_pos ⟨rfl,rfl⟩] at hk
   obtain ⟨g1,g2,hn,hkc,hd⟩:=hk
   simp [z9,zM,hkc,hn]
  ·by_cases h2:c=201
   ·subst h2
    simp [z9]
   ·simp [z9,h1,h2]
def wrN (n:N):BB×Int×Unit:=if jF n then (wrM (msgN n),0,()) else ([],1,())
theorem qgN (n:N):qaK (n,())=some (wrN n):=by
 unfold qaK wrN
 by_cases h:jF n
 ·simp only [go_sem,Int.reduceToNat,qa6,D_t h,qdF h,qi5 (msgN n) (qvP h).fewM,qdH h]
  rw [if_pos h]
 ·simp only [go_sem,Int.reduceToNat,qa6,D_f h]
  rw [if_neg h]
theorem qoN (n:N):qeC (n,())=some (wrN n):=by
 unfold qeC wrN
 by_cases h:jF n
 ·simp only [go_sem,Int.reduceToNat,qfH,D_t h,qkY h,qfK (msgN n) (qvP h).fewM,qdH h]
  rw [if_pos h]
 ·simp only [go_sem,Int.reduceToNat,qfH,D_f h]
  rw [if_neg h]
def noN:N:=(false,0,0,0,0,[],[],0,())
def ansN (n:N) (r:Int):N×Int×Unit:=if n.1=false then (noN,9,()) else if r < 0∨99 < r then (noN,1,()) else ((false,n.2.1,n.2.2.1,r,0,[],[],0,()),0,())
theorem qoY (n:N) (r:Int):qa7 (n,r,())=some (ansN n r):=by
 obtain ⟨a1,a2,a3,a4,a5,a6,a7,a8,⟨⟩⟩:=n
 unfold qa7 ansN noN
 cases a1 <;> by_cases h:r < 0∨99 < r
 all_goals simp only [go_sem,Int.reduceToNat,h]
 all_goals simp [h]
def valD (v:BB):Int:=if 1≤v.length∧v.length≤18∧figs v then ((val v:Nat):Int) else 0
def unhD (s:BB):BB:=if s.length % 2=0∧hexy s then unh s else []
def gv (m:M) (no:Int):BB:=(getR no m.2.1).1
noncomputable def rdN0 (m:M):N:=(D (m.1=800),valD (gv m 70),valD (gv m 11),valD (gv m 39),valD (gv m 53),gv m 96,unhD (gv m 48),valD (gv m 15),())
noncomputable def rdN (b:BB):N×Int×Unit:=if (rdM b).2.1=0 then (if jF (rdN0 (rdM b).1)∧msgN (rdN0 (rdM b).1)=(rdM b).1 then (rdN0 (rdM b).1,0,()) else (noN,2,())) else (noN,(rdM b).2.1,())
theorem qHY {l:List V} {no:Int}:(getR no l).1=[]∨∃ v∈l,v.1=no∧(getR no l).1=v.2.1:=by
 induction l with
 | nil=>exact .inl rfl
 | cons v r ih =>
  unfold getR
  split
  ·exact .inr ⟨v,by simp,by assumption,rfl⟩
  ·exact ih.imp id fun ⟨u,h1,h2,h3⟩=>⟨u,by simp [h1],h2,h3⟩
theorem qEa {no k l:Int} (h:zD no=some (k,l)):l≤400:=by
 unfold zD at h
 rw [Option.map_eq_some_iff] at h
 obtain ⟨r,h1,h2⟩:=h
 have hm:=List.mem_of_find?_eq_some h1
 have:∀ r∈frows,nth r 1 0≤400:=by decide
 have:=this r hm
 cases h2
 exact this
theorem qDl {no:Int} {v:BB} (h:xA no v=true):v.length≤400:=by
 obtain ⟨k,l,h1,h2⟩:=wI.1 h
 have:=qEa h1
 have h3:=h2.2
 unfold fln at h3
 split at h3 <;> omega
theorem qv3 {m:M} (hr:xE m=true) (no:Int):(getR no m.2.1).1.length≤400:=by
 rcases qHY (l:=m.2.1) (no:=no) with h | ⟨v,hv,_,h⟩
 ·rw [h];simp
 ·rw [h];exact qDl (xF (x3.1 hr).1 v hv).2
theorem qcO (s:BB):∃ e,vG (s,())=some (valD s,e,()):=by
 rw [qcH]
 unfold valD
 split <;> exact ⟨_,rfl⟩
theorem qA9 (s:BB) (hl:s.length≤1000000):∃ e,v7 (s,())=some (valD s,e,()):=by
 rw [vW _ hl]
 unfold valD
 split <;> exact ⟨_,rfl⟩
theorem qDJ (s:BB) (hl:s.length≤1000000):∃ e,qhC (s,())=some (unhD s,e,()):=by
 rw [qs9 _ hl]
 unfold unhD
 split <;> exact ⟨_,rfl⟩
theorem qBa (s:BB) (hl:s.length≤1000000):∃ e,qaY (s,())=some (unhD s,e,()):=by
 rw [qoX _ hl]
 unfold unhD
 split <;> exact ⟨_,rfl⟩
theorem qsY (b:BB) (hl:b.length≤1000000):qk8 (b,())=some (rdN b):=by
 unfold qk8 rdN
 refine (qG (qlI b hl)).trans ?_
 by_cases h0:(rdM b).2.1=0
 ·obtain ⟨m,hm⟩:∃ m,rdM b=(m,0,()):=⟨(rdM b).1,by rw [← h0]⟩
  obtain ⟨hr,hw⟩:=qqI hm
  have hml:=qFm (b:=b)
  rw [hm] at hml ⊢
  have hf:=(x3.1 hr).1
  have g:∀ no,yX (m,no,())=some (getR no m.2.1):=fun no=>by rw [qnX m no (by simp only at hml;omega),qzN hf]
  have gl:=qv3 hr
  obtain ⟨e1,v70⟩:=qcO (gv m 70)
  obtain ⟨e2,v11⟩:=qcO (gv m 11)
  obtain ⟨e3,v39⟩:=qcO (gv m 39)
  obtain ⟨e4,v53⟩:=qcO (gv m 53)
  obtain ⟨e5,v15⟩:=qcO (gv m 15)
  obtain ⟨e6,u48⟩:=qDJ (gv m 48) (by have:=gl 48;unfold gv;omega)
  unfold gv at v70 v11 v39 v53 v15 u48
  simp only [go_sem,Int.reduceToNat,g,v70,v11,v39,v53,v15,u48,qa6]
  show sel (D (¬ jF (rdN0 m))) (some (noN,2,())) (ob (kD (rdN0 m,())) fun a_15=>ob (qlG (a_15.1,m,())) fun a_16=>sel (bnot a_16.1) (some (noN,2,())) (some (rdN0 m,0,())))=_
  by_cases hn:jF (rdN0 m)
  ·rw [D_f (fun h=>h hn)]
   have hs:=qvV (msgN (rdN0 m)) m (by have:=(qvP hn).1;omega)
   simp only [go_sem,Int.reduceToNat,qdF hn,hs]
   by_cases he:msgN (rdN0 m)=m
   ·rw [if_pos ⟨hn,he⟩,D_f (fun h=>h he)];rfl
   ·rw [if_neg (fun h=>he h.2),D_t he];rfl
  ·rw [if_neg (fun h=>hn h.1),D_t hn];rfl
 ·rw [if_neg h0]
  simp only [go_sem,Int.reduceToNat,h0]
  rfl
theorem qmR {m:M} (hr:xE m=true) (hl:m.2.1.length≤1000) (no:Int):xR (m,no,())=some (valD (gv m no),()):=by
 unfold xR gv
 obtain ⟨e,he⟩:=qA9 (getR no m.2.1).1 (by have:=qv3 hr no;omega)
 have hg:=qb6 m no (by omega)
 simp only [go_sem,Int.reduceToNat,hg,he]
theorem qIg {b:BB} {m:M} {n:N} (hm:rdM b=(m,0,())) (hn:jF n):wrM (msgN n)=b↔msgN n=m:=by
 obtain ⟨hr,hw⟩:=qqI hm
 constructor
 ·intro h
  have:=qo5 (qdH hn)
  rw [h,hm] at this
  exact (congrArg Prod.fst this).symm
 ·intro h;rw [h,hw]
theorem qf9 (b:BB) (hl:b.length≤1000000):yQ (b,())=some (rdN b):=by
 unfold yQ rdN
 refine (qG (qgD b hl)).trans ?_
 by_cases h0:(rdM b).2.1=0
 ·obtain ⟨m,hm⟩:∃ m,rdM b=(m,0,()):=⟨(rdM b).1,by rw [← h0]⟩
  obtain ⟨hr,hw⟩:=qqI hm
  have hml:=qFm (b:=b)
  rw [hm] at hml ⊢
  have hml:m.2.1.length≤1000:=hml
  have g:∀ no,kP (m,no,())=some (getR no m.2.1):=fun no=>qb6 m no (by omega)
  have gl:=qv3 hr
  have nu:=qmR hr hml
  obtain ⟨e6,u48⟩:=qBa (gv m 48) (by have:=gl 48;unfold gv;omega)
  unfold gv at u48 nu
  simp only [go_sem,Int.reduceToNat,g,nu,u48,qoN,zC]
  show sel (D (¬ (wrN (rdN0 m)).2.1=0∨¬ (wrN (rdN0 m)).1=b)) (some (noN,2,())) (some (rdN0 m,0,()))=_
  unfold wrN
  by_cases hn:jF (rdN0 m)
  ·rw [if_pos hn]
   by_cases he:msgN (rdN0 m)=m
   ·rw [if_pos ⟨hn,he⟩,D_f (fun h=>h.elim (fun h=>h rfl) (fun h=>h ((qIg hm hn).2 he)))];rfl
   ·rw [if_neg (fun h=>he h.2),D_t (.inr fun h=>he ((qIg hm hn).1 h))];rfl
  ·rw [if_neg hn,if_neg (fun h=>hn h.1),D_t (.inl (by decide))];rfl
 ·rw [if_neg h0]
  simp only [go_sem,Int.reduceToNat,h0]
  rfl
theorem qpN {n:Int} {w:Nat} (h1:1≤w) (h2:w≤18) (h0:0≤n) (h:n < 10 ^ w):valD (dg n w)=n:=by
 unfold valD
 rw [if_pos ⟨by rw [z9];exact h1,by rw [z9];exact h2,qBE⟩]
 exact qLj h0 h
theorem qo3:valD []=0:=by unfold valD;rw [if_neg (by simp)]
theorem qu2:unhD []=[]:=by unfold unhD;split <;> rfl
theorem qG5 {b:BB}:unhD (jC b)=b:=by
 unfold unhD
 rw [if_pos ⟨by rw [zM];omega,qD6 b⟩,qEH]
theorem qHm {n:N} (hr:jF n):rdN0 (msgN n)=n:=by
 obtain ⟨rq,c,st,rs,g,no,k,d,⟨⟩⟩:=n
 obtain ⟨hc,s1,s2,r1,r2,r3,hk⟩:=jM.1 hr
 have hc0:0≤c∧c≤301:=by unfold kZ at hc;omega
 have v11:valD (dg st 6)=st:=qpN (by omega) (by omega) (by omega) (by omega)
 have v70:valD (dg c 3)=c:=qpN (by omega) (by omega) (by omega) (by omega)
 have v39:valD (dg rs 2)=rs:=qpN (by omega) (by omega) (by omega) (by omega)
 unfold rdN0 gv msgN
 simp only [len0] at hk
 cases rq
 ·simp only [Bool.false_eq_true,false_and,if_false] at hk
  obtain ⟨h1,h2,h3,h4⟩:=hk
  subst h1 h2 h3 h4
  simp [getR,v11,v70,v39,qo3,qu2,D]
 ·have hrs:=r3 rfl
  subst hrs
  by_cases h1:c=101
  ·subst h1
   rw [if_pos ⟨rfl,rfl⟩] at hk
   obtain ⟨g1,g2,hn,hkc,hd⟩:=hk
   subst hd
   have v53:valD (dg g 16)=g:=qpN (by omega) (by omega) (by omega) (by omega)
   simp [getR,v11,v70,v53,qo3,qG5,D]
  ·rw [if_neg (by simp [h1])] at hk
   by_cases h2:c=201
   ·subst h2
    rw [if_pos ⟨rfl,rfl⟩] at hk
    obtain ⟨h3,h4,h5,d1,d2⟩:=hk
    subst h3 h4 h5
    have v15:valD (dg d 6)=d:=qpN (by omega) (by omega) (by omega) (by omega)
    simp [getR,v11,v70,v15,qo3,qu2,D]
   ·rw [if_neg (by simp [h2])] at hk
    obtain ⟨h3,h4,h5,h6⟩:=hk
    subst h3 h4 h5 h6
    simp [getR,v11,v70,qo3,qu2,D,h1,h2]
theorem qKH {n:N} (hr:jF n):rdN (wrM (msgN n))=(n,0,()):=by
 unfold rdN
 rw [qo5 (qdH hr),qHm hr,if_pos rfl,if_pos ⟨hr,rfl⟩]
theorem qEU {v x:V} {r:List V} (h:zU v.1 r=true):setR (v :: r) x=if v.1 < x.1 then v :: setR r x else if v.1=x.1 then x :: r else x :: v :: r:=by
 unfold setR
 by_cases h1:v.1 < x.1
 ·rw [if_pos h1,List.filter_cons_of_pos (by simp;omega),List.filter_cons_of_neg (by simp;omega)];rfl
 ·obtain ⟨f1,f2,_⟩:=qnZ (no:=x.1) (by omega) h
  rw [if_neg h1,List.filter_cons_of_neg (by simp;omega),f1]
  by_cases h2:v.1=x.1
  ·rw [if_pos h2,List.filter_cons_of_neg (by simp;omega),f2];rfl
  ·rw [if_neg h2,List.filter_cons_of_pos (by simp;omega),f2];rfl
theorem qDQ {l:List V} {x:V} (hx:xA x.1 x.2.1=true):∀ {last:Int},last < x.1→zU last l=true→zU last (setR l x)=true:=by
 induction l with
 | nil=>intro last h1 _;simp [setR,zU,h1,hx]
 | cons v r ih =>
  intro last h1 h
  have h':=h
  simp only [zU,Bool.and_eq_true,decide_eq_true_eq] at h'
  rw [qEU h'.2.2]
  by_cases h2:v.1 < x.1
  ·rw [if_pos h2]
   simp only [zU,Bool.and_eq_true,decide_eq_true_eq]
   exact ⟨h'.1,h'.2.1,ih h2 h'.2.2⟩
  ·rw [if_neg h2]
   by_cases h3:v.1=x.1
   ·rw [if_pos h3]
    simp only [zU,Bool.and_eq_true,decide_eq_true_eq]
    exact ⟨h1,hx,h3 ▸ h'.2.2⟩
   ·rw [if_neg h3]
    simp only [zU,Bool.and_eq_true,decide_eq_true_eq]
    exact ⟨h1,hx,by omega,h'.2.1,h'.2.2⟩
def fewN (n:N):Prop:=n.2.2.2.2.2.1.length≤50∧n.2.2.2.2.2.2.1.length≤50
theorem qIP {n:N} (h:jF n):wrN n=(wrM (msgN n),0,()):=by unfold wrN;rw [if_pos h]
theorem qKm {v:V} (h:xA v.1 v.2.1=true):(wrV v).length≤v.2.1.length+2:=by
 obtain ⟨k,l,h1,h2⟩:=wI.1 h
 unfold wrV wrD
 rw [h1]
 simp only [if_pos h2]
 rw [qmH (yB h1).1]
 repeat' split
 all_goals omega
theorem qEC {m:M} (hr:xE m=true):(wrM m).length≤18+(m.2.1.map (fun v=>v.2.1.length+2)).sum:=by
 have hF:=(x3.1 hr).1
 have h2:=qd4 (m:=m.1)
 have h8:=qxB (nosF m.2.1)
 have hfl:∀ l:List V,(∀ v∈l,xA v.1 v.2.1=true)→(l.flatMap wrV).length≤(l.map (fun v=>v.2.1.length+2)).sum:=by
  intro l
  induction l with
  | nil=>simp
  | cons v r ih =>
   intro h
   have h1:=qKm (h v (by simp))
   have h2:=ih fun u hu=>h u (by simp [hu])
   rw [List.flatMap_cons,List.length_append,List.map_cons,List.sum_cons];omega
 have:=hfl m.2.1 fun v hv=>(xF hF v hv).2
 unfold wrM
 rw [List.length_append,List.length_append];omega
theorem qIQ {n:N} (hr:jF n):(wrM (msgN n)).length≤900:=by
 have h:=qEC (qdH hr)
 obtain ⟨rq,c,st,rs,g,no,k,d,⟨⟩⟩:=n
 obtain ⟨hc,s1,s2,r1,r2,r3,hk⟩:=jM.1 hr
 refine Nat.le_trans h ?_
 unfold msgN
 cases rq
 ·simp [z9]
 ·by_cases h1:c=101
  ·subst h1
   rw [if_pos ⟨rfl,rfl⟩] at hk
   obtain ⟨g1,g2,hn,hkc,hd⟩:=hk
   simp [z9,zM];omega
  ·by_cases h2:c=201
   ·subst h2;simp [z9]
   ·simp [z9,h1,h2]
theorem bv8 (c:UInt8):BitVec.ofInt 8 (n8 c)=c.toBitVec:=by
 apply BitVec.eq_of_toNat_eq
 unfold n8
 rw [BitVec.toNat_ofInt]
 have:=c.toNat_lt
 have h:c.toBitVec.toNat=c.toNat:=rfl
 omega
theorem bv32 (c:UInt32):BitVec.ofInt 32 (n32 c)=c.toBitVec:=by
 apply BitVec.eq_of_toNat_eq
 unfold n32
 rw [BitVec.toNat_ofInt]
 have:=c.toNat_lt
 have h:c.toBitVec.toNat=c.toNat:=rfl
 omega
theorem qKu (v:BitVec 8):u8 (v.toNat:Int)=⟨v⟩:=by
 apply UInt8.toBitVec_inj.1
 show BitVec.ofNat 8 (((v.toNat:Int) % 2 ^ 8).toNat)=v
 apply BitVec.eq_of_toNat_eq
 rw [BitVec.toNat_ofNat]
 have:=v.isLt
 omega
theorem qKv (v:BitVec 32):u32 (v.toNat:Int)=⟨v⟩:=by
 apply UInt32.toBitVec_inj.1
 show BitVec.ofNat 32 (((v.toNat:Int) % 2 ^ 32).toNat)=v
 apply BitVec.eq_of_toNat_eq
 rw [BitVec.toNat_ofNat]
 have:=v.isLt
 omega
theorem or8 (a b:UInt8):u8 (orI .u8 (n8 a) (n8 b))=a ||| b:=by
 unfold orI
 show u8 (((BitVec.ofInt 8 (n8 a) ||| BitVec.ofInt 8 (n8 b)).toNat:Nat):Int)=_
 rw [bv8,bv8,qKu];rfl
theorem xor8 (a b:UInt8):u8 (xorI .u8 (n8 a) (n8 b))=a ^^^ b:=by
 unfold xorI
 show u8 (((BitVec.ofInt 8 (n8 a) ^^^ BitVec.ofInt 8 (n8 b)).toNat:Nat):Int)=_
 rw [bv8,bv8,qKu];rfl
theorem or32 (a b:UInt32):u32 (orI .u32 (n32 a) (n32 b))=a ||| b:=by
 unfold orI
 show u32 (((BitVec.ofInt 32 (n32 a) ||| BitVec.ofInt 32 (n32 b)).toNat:Nat):Int)=_
 rw [bv32,bv32,qKv];rfl
theorem qJz {c:UInt8}:n8 c=n8 (u8 0)↔c=0:=by
 constructor
 ·intro h
  have h2:(c.toNat:Int)=0:=h
  exact UInt8.toNat_inj.1 (by show c.toNat=0;omega)
 ·rintro rfl;rfl
def orx (a b:BB):Nat→UInt8
 | 0=>0
 | i+1=>orx a b i ||| (a.getD i 0 ^^^ b.getD i 0)
theorem qCY (a b:BB):∀ i,orx a b i=0↔∀ j,j < i→a.getD j 0=b.getD j 0
 | 0=>⟨fun _ j h=>absurd h (Nat.not_lt_zero j),fun _=>rfl⟩
 | i+1=>by
  have ih:=qCY a b i
  have key:(orx a b i ||| (a.getD i 0 ^^^ b.getD i 0))=0↔orx a b i=0∧a.getD i 0=b.getD i 0:=by
   rw [UInt8.or_eq_zero_iff,UInt8.xor_eq_zero_iff]
  show (orx a b i ||| (a.getD i 0 ^^^ b.getD i 0))=0↔_
  rw [key,ih]
  constructor
  ·rintro ⟨h1,h2⟩ j hj
   rcases Nat.lt_succ_iff_lt_or_eq.1 hj with h | rfl
   ·exact h1 j h
   ·exact h2
  ·intro h
   exact ⟨fun j hj=>h j (by omega),h i (by omega)⟩
theorem qlD (a b:BB) (hl:a.length≤9223372036854775807):qeT (a,b,())=some (seq a b,()):=by
 unfold qeT
 by_cases h:a.length=b.length
 ·refine (qB (by simp only [go_sem,Int.reduceToNat];omega)).trans ?_
  generalize hf:(fun (x_1:UInt8×Int×Unit)=>_)=f
  have step:∀ i,i < a.length→f (orx a b i,(i:Int),())=some (.nx (orx a b (i+1),((i+1:Nat):Int),())):=by
   intro i hi
   subst hf
   have e1:nth a (nat (i:Int)) (u8 0)=a.getD i 0:=rfl
   have e2:nth b (nat (i:Int)) (u8 0)=b.getD i 0:=rfl
   show sel (lt (i:Int) (len a)) _ _=_
   refine (qE (by simp only [go_sem,Int.reduceToNat];omega)).trans ((qH (by simp only [go_sem,Int.reduceToNat];omega)).trans ((qH (by simp only [go_sem,Int.reduceToNat];omega)).trans ?_))
   show some (LS.nx (u8 (orI .u8 (n8 (orx a b i)) (n8 (u8 (xorI .u8 (n8 (nth a (nat (i:Int)) (u8 0))) (n8 (nth b (nat (i:Int)) (u8 0))))))),i64 (iadd (i:Int) 1),()))=_
   rw [e1,e2,xor8,or8,show i64 (iadd (i:Int) 1)=((i+1:Nat):Int) by simp (disch:=omega) only [go_sem,Int.reduceToNat] <;> omega]
   rfl
  have hend:f (orx a b a.length,(a.length:Int),())=some (.ex 0 (orx a b a.length,(a.length:Int),())):=by
   subst hf
   show sel (lt (a.length:Int) (len a)) _ _=_
   exact qB (by simp only [go_sem,Int.reduceToNat];omega)
  have hloop:loop f (u8 0,0,())=some (.ex 0 (orx a b a.length,(a.length:Int),())):=by
   have:=qM (f:=f) (fun i=>(orx a b i,(i:Int),())) a.length step 0 (Nat.zero_le _)
   exact this.trans (qT hend)
  rw [hloop]
  show ck (neb 0 0) (some (beq (n8 (orx a b a.length)) (n8 (u8 0)),()))=_
  refine (qH g62).trans ?_
  congr 2
  rw [Bool.eq_iff_iff]
  unfold beq seq
  rw [beq_iff_eq,beq_iff_eq,qJz,qCY]
  constructor
  ·intro hj
   refine List.ext_getElem h fun i h1 h2 => ?_
   have:=hj i h1
   rwa [List.getD_eq_getElem?_getD,List.getD_eq_getElem?_getD,List.getElem?_eq_getElem h1,List.getElem?_eq_getElem h2] at this
  ·rintro rfl j _;rfl
 ·refine (qE (by simp only [go_sem,Int.reduceToNat];omega)).trans ?_
  rw [qI3 (fun e=>h (congrArg List.length e))]
end Yp
namespace Yp
open Go Go.Proofs Go.RowKit Go.Shelf
attribute [local go_sem] Oper.semAt_some
theorem qHU {res:Nat→Bool} {k n:Nat} (hk:k≤n) (h:hits res n=[]):hits res k=[]:=by
 unfold hits at h ⊢
 rw [List.filter_eq_nil_iff] at h ⊢
 intro a ha
 exact h a (List.mem_range.2 (Nat.lt_of_lt_of_le (List.mem_range.1 ha) hk))
set_option maxRecDepth 100000 in
set_option maxHeartbeats 4000000 in
theorem qLc (Nn off cap b:Nat) (ad:Option Addr) (idl frg:Bool) (ak:Option Addr) (nk ck:Nat) (ab:Option Addr) (nb cb:Nat) (ev:Nat→Value×Value) (res:Nat→Bool) (hev:∀ j,∃ a n c a' n' c',ev j=(.slice a n c, .slice a' n' c')) (hN:Nn≤9223372036854775807) (m:Nat) (w:World)
  (hb:0 < Nn→ad=some ⟨b,off,none⟩∧b < w.heap.size)
  (hc0:∀ j,j < Nn→w.cell? ⟨b,off+j*2,none⟩=some (ev j).1) (hc1:∀ j,j < Nn→w.cell? ⟨b,off+j*2+1,none⟩=some (ev j).2)
  (hIs:∀ j,j < Nn→∀ n w',Below w.heap.size w w'→CallsIn Fence.wide n Tryz.prog 390 #[.agg #[.slice ak nk ck, .slice ab nb cb], .agg #[(ev j).1,(ev j).2]] w' fun e w''=>e = .returned (.bool (res j))∧Below w'.heap.size w' w'') :
  CallsIn Fence.wide (m+3) Tryz.prog 369 #[.agg #[.bool idl, .slice ad Nn cap, .bool frg], .slice ak nk ck, .slice ab nb cb] w fun e w'=>e = .returned (.bool (hits res Nn != []))∧Below w.heap.size w w':=by
 have hw391:Fence.wide.fn 391:=trivial
 refine callsIn_of_wp_marks Tryz.func369 rfl trivial ?_ rfl
 simp only [Tryz.ntmps369,List.size_toArray,List.length_cons,List.length_nil,Nat.reduceAdd,Nat.reduceSub,Array.replicate_succ,Array.replicate_zero,List.push_toArray,List.append_toArray,List.nil_append,List.cons_append]
 gi_wp2_with (gi_at_call 391;refine (qH0 _ _ _ _ _ _ rfl).mono ?_;rintro e w' ⟨rfl,rfl⟩)
 have b1:=Boxed.new (w.alloc (.cells #[.bool idl, .slice ad Nn cap, .bool frg] 49)) 4 (.bool false)
 have b2:=Boxed.new ((w.alloc (.cells #[.bool idl, .slice ad Nn cap, .bool frg] 49)).alloc (.cells #[.bool false] 4)) 47 (.slice ad Nn cap)
 have b3:=Boxed.new (((w.alloc (.cells #[.bool idl, .slice ad Nn cap, .bool frg] 49)).alloc (.cells #[.bool false] 4)).alloc (.cells #[.slice ad Nn cap] 47)) 403 (.func (.func 390) #[.agg #[.slice ak nk ck, .slice ab nb cb]] #[])
 simp only [World.size_alloc] at b1 b2 b3
 obtain ⟨w4,hw4⟩:∃ w4,w4=((((w.alloc (Obj.cells #[Value.bool idl,Value.slice ad Nn cap,Value.bool frg] 49)).alloc (Obj.cells #[Value.bool false] 4)).alloc (Obj.cells #[Value.slice ad Nn cap] 47)).alloc (Obj.cells #[Value.func (Fn.func 390) #[Value.agg #[Value.slice ak nk ck,Value.slice ab nb cb]] #[]] 403)):=⟨_,rfl⟩
 have b1':Boxed w4 (w.heap.size+1) 4 (.bool false):=by rw [hw4];exact (b1.alloc _).alloc _
 have b2':Boxed w4 (w.heap.size+1+1) 47 (.slice ad Nn cap):=by rw [hw4];exact b2.alloc _
 have b3':Boxed w4 (w.heap.size+1+1+1) 403 (.func (.func 390) #[.agg #[.slice ak nk ck, .slice ab nb cb]] #[]):=by rw [hw4];exact b3
 have hB4:Below w.heap.size w w4:=by rw [hw4];exact ((((Below.refl _ w).alloc (Nat.le_refl _) _).alloc (by simp) _).alloc (by simp;omega) _).alloc (by simp;omega) _
 have hs4:w4.heap.size=w.heap.size+1+1+1+1:=by rw [hw4];simp
 rw [← hw4]
 clear b1 b2 b3
 refine wpIn_rangeFunc_ownG (w0:=w4) rfl (by omega) (gf:=393) (lb := #[.pointer (some ⟨w.heap.size+1+1,0,none⟩), .pointer (some ⟨w.heap.size+1+1+1,0,none⟩)]) rfl trivial (enters_of Tryz.func393 (by kernel_rfl) rfl)
   (encs:=fun x:Nat => #[.int .i64 (x:Int)]) (Kp:=Below w4.heap.size) (S:=fun ys=>ys=hits res Nn) (Sp:=fun pre=>∃ k,k≤Nn∧pre=hits res k) (N:=Nn)
   ?seq ?kt ?kb (Below.refl _ _) (fun _=>rfl)
   (fun pre W=>(pre=[]∧Boxed W (w.heap.size+1) 4 (.bool false))∧Below w.heap.size w W)
   (fun c pre W=>((c = .ret∧pre≠[])∧Boxed W (w.heap.size+1) 4 (.bool true))∧Below w.heap.size w W)
   (OwnFrom.and (OwnFrom.and (ownFrom_pure _ _) (Own.from (boxed_own (w.heap.size+1) 4 (fun _ => .bool false)) _)) (ownFrom_below (Nat.le_refl _) (by omega)))
   (fun c=>OwnFrom.and (OwnFrom.and (ownFrom_pure _ _) (Own.from (boxed_own (w.heap.size+1) 4 (fun _ => .bool true)) _)) (ownFrom_below (Nat.le_refl _) (by omega)))
   ?start ?a1 ?assign ?body ?done ?stop
 case assign =>
  intro l x W K hK
  gi_wp2
  exact hK
 case seq =>
  intro l J Jx W hW hJ hJx hY h0
  refine (qGq (m+1) l (w.heap.size+1+1) (w.heap.size+1+1+1) w4.heap.size b off cap Nn ad (.slice ak nk ck) (.slice ab nb cb) ev res hev hN (fun h=>⟨(hb h).1,by have:=(hb h).2;omega⟩) J Jx (fun s W1 W2 hs hb=>hJ s W1 W2 none hs ⟨hb.os,hb.tape,hb.output,hb.size,fun k hk _=>hb.block k hk⟩ (fun r e=>by cases e)) (fun pre x W1 hj _ _ hl=>hY pre x W1 hj hl) W ?_ ?_ (by omega) (by omega) hW.size (fun j hj => ?_) (fun j hj => ?_) (fun j hj w' hw' => ?_) h0).mono ?_
  ·exact (hW.cell (p:=⟨w.heap.size+1+1,0,none⟩) (by simp;omega)).trans b2'.cell
  ·exact (hW.cell (p:=⟨w.heap.size+1+1+1,0,none⟩) (by simp;omega)).trans b3'.cell
  ·have hbl:=(hb (by omega)).2
   exact (hW.cell (p:=⟨b,off+j*2,none⟩) (by simp;omega)).trans ((hB4.cell (p:=⟨b,off+j*2,none⟩) hbl).trans (hc0 j hj))
  ·have hbl:=(hb (by omega)).2
   exact (hW.cell (p:=⟨b,off+j*2+1,none⟩) (by simp;omega)).trans ((hB4.cell (p:=⟨b,off+j*2+1,none⟩) hbl).trans (hc1 j hj))
  ·exact hIs j hj _ _ (hB4.trans ((hW.trans hw').mono (by omega)))
  ·rintro e W' ⟨he,h⟩
   exact ⟨he,h.elim (fun h => .inl ⟨_,rfl,h⟩) (fun ⟨k,hk,h⟩ => .inr ⟨_,⟨k,hk,rfl⟩,h⟩)⟩
 case kt=>exact fun h k=>h.trans k
 case kb =>
  intro W l o o' hl ho h1 h2
  exact belowK_b (w:=w4) (Nat.le_refl _) W l o o' hl ho h1 h2
 case start=>exact ⟨⟨rfl,b1'⟩,hB4⟩
 case body =>
  rintro l pre x W ⟨⟨rfl,hv⟩,hB⟩ hlt
  have hc:=hv.cell
  have hf:=hv.frozen
  gi_wp2
  exact ⟨(KeepsOthers.setCell _ _ _).from _,⟨⟨rfl,by simp⟩,hv.set _⟩,hB.trans ((Below.refl _ _).setCell (p:=⟨w.heap.size+1,0,none⟩) (by simp) _)⟩
 case done =>
  rintro D ys W hD rfl ⟨⟨h0,hv⟩,hB⟩ hK
  have hc:=hv.cell
  have hf:=hv.frozen
  gi_wp2
  have hK':=(KeepsOthers.setCell W ⟨w.heap.size+1,0,none⟩ (.bool false)).same D _ hK rfl
  refine ⟨by simp, .inl ⟨_,_,rfl,run_takeDeferred hK', ?_⟩⟩
  have hz:Boxed ((W.setCell ⟨w.heap.size+1,0,none⟩ (.bool false)).putObj D (.deferred none)) (w.heap.size+1) 4 (.bool false):=(hv.set (.bool false)).kept (grownBy_putObj' _ D _) (fun e=>by cases e;omega)
  refine ⟨.bool false,by simp [results,Tryz.f369,go_sem,hz.cell],by rw [h0];rfl, ?_⟩
  exact (hB.trans ((Below.refl _ _).setCell (p:=⟨w.heap.size+1,0,none⟩) (by simp) _)).trans (belowK_b (w:=w) (Nat.le_refl _) _ D _ _ (by omega) hK' rfl rfl)
 case stop =>
  rintro D c pre W hD ⟨k,hk,rfl⟩ ⟨⟨⟨rfl,hne⟩,hv⟩,hB⟩ hK
  have hc:=hv.cell
  gi_wp2
  refine ⟨by simp, .inl ⟨_,_,rfl,run_takeDeferred hK, ?_⟩⟩
  have hz:Boxed (W.putObj D (.deferred none)) (w.heap.size+1) 4 (.bool true):=hv.kept (grownBy_putObj' _ D _) (fun e=>by cases e;omega)
  refine ⟨.bool true,by simp [results,Tryz.f369,go_sem,hz.cell], ?_, ?_⟩
  ·have:hits res Nn≠[]:=fun e=>hne (qHU hk e)
   simp [this]
  ·exact hB.trans (belowK_b (w:=w) (Nat.le_refl _) _ D _ _ (by omega) hK rfl rfl)
end Yp
namespace Yp
open Go Go.Proofs Go.RowKit Go.Shelf
abbrev qJP:=BB×BB×Unit
abbrev qvI:Ty := .pair (.sl (.int .u8)) (.pair (.sl (.int .u8)) .unit)
noncomputable def qgM (x:(BB×BB×Unit)×(BB×BB×Unit)×Unit):Option (Bool×Unit) :=
 ob (qeT (x.1.1,x.2.1.1,())) fun (a:Bool×Unit) =>
 ob (sel a.1 (ob (qeT (x.1.2.1,x.2.1.2.1,())) fun (a:Bool×Unit)=>some (a.1,())) (some (false,()))) fun (a:Bool×Unit)=>some (a.1,())
noncomputable abbrev qsK:wQ:=⟨[qvI,qvI],[.im (.bool)],qgM⟩
set_option maxRecDepth 100000 in
theorem qtF (hS:FOK Tryz.prog 126 qhU):FOK Tryz.prog 390 qsK:=mkC (qA qD hS) qC Tryz.func390 5 (by kernel_rfl) (by kernel_rfl) (fun x=>by kernel_rfl)
theorem qyQ (k b e f:BB) (hk:k.length≤9223372036854775807) (hb:b.length≤9223372036854775807):qgM ((k,b,()),(e,f,()),())=some (band (seq k e) (seq b f),()):=by
 unfold qgM
 show ob (qeT (k,e,())) _=_
 rw [qlD _ _ hk]
 show ob (sel (seq k e) (ob (qeT (b,f,())) _) _) _=_
 rw [qlD _ _ hb]
 cases seq k e <;> rfl
theorem qKq {w w':World} {X:Nat→Prop} (hb:Below w.heap.size w w'):(view w X).Le (view w' X):=by
 intro b o h
 obtain ⟨h1,h2⟩:=zF.1 h
 refine zF.2 ⟨h1, ?_⟩
 rw [hb.block b (Array.getElem?_eq_some_iff.1 h2).1];exact h2
theorem seg2 {c:Array Value} {o:Nat} (h:o+2≤c.size):seg c o 2=[c[o],c[o+1]]:=by
 unfold seg
 rw [List.drop_eq_getElem_cons (by simp;omega),List.drop_eq_getElem_cons (by simp;omega)]
 simp
theorem qxD {w w':World} {X:Nat→Prop} {rs:List RTy} {r:denR rs} {vr:Value} (h:qcL w X w' rs r vr):Below w.heap.size w w':=by
 obtain ⟨M',h1,h2,h3,h4,h5,_⟩:=h
 exact ⟨h1,h2,h3,h4,h5⟩
theorem qIb {α:Type} (l:List α) (q:α→Bool) (res:Nat→Bool) (h:∀ j x,l[j]? = some x→res j=q x):(hits res l.length != [])=l.any q:=by
 rw [Bool.eq_iff_iff]
 simp only [bne_iff_ne,ne_eq,List.any_eq_true]
 unfold hits
 rw [List.filter_eq_nil_iff]
 constructor
 ·intro hn
  by_cases hx:∃ x,x∈l∧q x=true
  ·exact hx
  ·refine absurd (fun j hj => ?_) hn
   have hj':=List.mem_range.1 hj
   rw [h j l[j] (List.getElem?_eq_getElem hj')]
   exact fun e=>hx ⟨_,List.getElem_mem hj',e⟩
 ·rintro ⟨x,hx,hq⟩ hn
  obtain ⟨j,hj,rfl⟩:=List.getElem_of_mem hx
  refine hn j (List.mem_range.2 hj) ?_
  rw [h j l[j] (List.getElem?_eq_getElem hj)];exact hq
noncomputable abbrev qtZ:wQ:=⟨[.pair (.bool) (.pair (.sl qvI) (.pair (.bool) (.unit))), .sl (.int .u8), .sl (.int .u8)],[.im (.bool)],qo7⟩
set_option maxRecDepth 100000 in
theorem qJO (hS:FOK Tryz.prog 126 qhU) (idl frg:Bool) (tbl:List qJP) (key bb:BB) {w:World} {X:Nat→Prop} (hX:∀ b,X b→b < w.heap.size) (hkeys:yO Tryz.prog (view w X)) {c3 cs2 cs3:List Value}
  (h2:RepC (view w X) (.sl qvI) tbl c3) (hk:RepC (view w X) (.sl (.int .u8)) key cs2) (hb:RepC (view w X) (.sl (.int .u8)) bb cs3) :
  Calls Tryz.prog 369 #[.agg (#[.bool idl]++c3.toArray ++ #[.bool frg]),cs2.headD undef,cs3.headD undef] w fun e w'=>∃ vr,e = .returned vr∧qcL w X w' [.im .bool] ((tbl.any fun e=>band (seq key e.1) (seq bb e.2.1),()):Bool×Unit) vr:=by
 have hk0:=hk;have hb0:=hb
 obtain ⟨ad,cap,rfl,t1,t2,t3⟩:=RepC.jT.1 h2
 obtain ⟨ak,capk,rfl,k1,k2,_⟩:=RepC.jT.1 hk
 obtain ⟨ab,capb,rfl,b1,b2,_⟩:=RepC.jT.1 hb
 have hmax:maxLen≤9223372036854775807:=by unfold maxLen;omega
 have hkl:key.length≤9223372036854775807:=Nat.le_trans k1 (Nat.le_trans k2 hmax)
 have hbl:bb.length≤9223372036854775807:=Nat.le_trans b1 (Nat.le_trans b2 hmax)
 have htl:tbl.length≤9223372036854775807:=Nat.le_trans t1 (Nat.le_trans t2 hmax)
 -- the entries' cells
 obtain ⟨b,off,ev,hloc,hev,hc0,hc1,hrep⟩:∃ (b off:Nat) (ev:Nat→Value×Value),(0 < tbl.length→ad=some ⟨b,off,none⟩∧b < w.heap.size)∧(∀ j,∃ a n c a' n' c',ev j=(.slice a n c, .slice a' n' c')) ∧
   (∀ j,j < tbl.length→w.cell? ⟨b,off+j*2,none⟩=some (ev j).1)∧(∀ j,j < tbl.length→w.cell? ⟨b,off+j*2+1,none⟩=some (ev j).2) ∧
   (∀ j (e:BB×BB×Unit),tbl[j]? = some e→RepC (view w X) qvI e [(ev j).1,(ev j).2]):=by
  rcases t3 with t3 | ⟨b,o,c,el,fz,ha,hv,hsz,hel⟩
  ·refine ⟨0,0,fun _=>(.slice none 0 0, .slice none 0 0),fun h => ?_,fun _=>⟨_,_,_,_,_,_,rfl⟩,fun j hj => ?_,fun j hj => ?_,fun j e he => ?_⟩
   ·rw [show tbl=[] from t3] at h;simp at h
   ·rw [show tbl=[] from t3] at hj;simp at hj
   ·rw [show tbl=[] from t3] at hj;simp at hj
   ·rw [show tbl=[] from t3] at he;simp at he
  ·obtain ⟨hnx,hh⟩:=zF.1 hv
   have hsz':o+tbl.length*2≤c.size:=hsz
   have hseg:∀ j e,tbl[j]? = some e→∃ (h:o+j*2+2≤c.size),RepC (view w X) qvI e [c[o+j*2],c[o+j*2+1]]:=by
    intro j e he
    have hj:j < tbl.length:=(List.getElem?_eq_some_iff.1 he).1
    have hle:o+j*2+2≤c.size:=by omega
    refine ⟨hle, ?_⟩
    have:=hel j e he
    rw [show seg c (o+j*qvI.size) qvI.size=seg c (o+j*2) 2 from rfl,seg2 hle] at this
    exact this
   have hsl:∀ (l:BB) (v:Value),RepC (view w X) (.sl (.int .u8)) l [v]→∃ a n c,v = .slice a n c:=by
    intro l v h
    obtain ⟨a,cp,he,_⟩:=RepC.jT.1 h
    cases he;exact ⟨_,_,_,rfl⟩
   have hparts:∀ (e:BB×BB×Unit) (u v:Value),RepC (view w X) qvI e [u,v]→(∃ a n c,u = .slice a n c)∧∃ a n c,v = .slice a n c:=by
    intro e u v h
    obtain ⟨d1,d2,hd,q1,q2⟩:=RepC.jI.1 h
    obtain ⟨d3,d4,hd2,q3,q4⟩:=RepC.jI.1 q2
    obtain rfl:=RepC.qd3.1 q4
    have l1:d1.length=1:=q1.length
    have l3:d3.length=1:=q3.length
    obtain ⟨y,rfl⟩:=List.length_eq_one_iff.1 l1
    obtain ⟨z,rfl⟩:=List.length_eq_one_iff.1 l3
    subst hd2
    simp only [List.singleton_append,List.append_nil,List.cons.injEq,and_true] at hd
    obtain ⟨rfl,rfl⟩:=hd
    exact ⟨hsl _ _ q1,hsl _ _ q3⟩
   refine ⟨b,o,fun j=>if h:j < tbl.length then (c[o+j*2]'(by omega),c[o+j*2+1]'(by omega)) else (.slice none 0 0, .slice none 0 0),fun _=>⟨ha,(Array.getElem?_eq_some_iff.1 hh).1⟩,fun j => ?_,fun j hj => ?_,fun j hj => ?_,fun j e he => ?_⟩
   ·by_cases hj:j < tbl.length
    ·obtain ⟨hle,hr⟩:=hseg j _ (List.getElem?_eq_getElem hj)
     obtain ⟨⟨a,n,cc,e1⟩,⟨a',n',cc',e2⟩⟩:=hparts _ _ _ hr
     exact ⟨a,n,cc,a',n',cc',by dsimp only;rw [dif_pos hj,e1,e2]⟩
    ·exact ⟨_,_,_,_,_,_,dif_neg hj⟩
   ·dsimp only;rw [dif_pos hj,World.cell?,hh];simp [show o+j*2 < c.size by omega]
   ·dsimp only;rw [dif_pos hj,World.cell?,hh];simp [show o+j*2+1 < c.size by omega]
   ·have hj:j < tbl.length:=(List.getElem?_eq_some_iff.1 he).1
    dsimp only
    rw [dif_pos hj]
    exact (hseg j e he).2
 let q:BB×BB×Unit→Bool:=fun e=>band (seq key e.1) (seq bb e.2.1)
 let res:Nat→Bool:=fun j=>match tbl[j]? with | some e=>q e | none=>false
 have main:=qLc tbl.length off cap b ad idl frg ak key.length capk ab bb.length capb ev res hev htl 0 w hloc hc0 hc1 (fun j hj n w' hw' => ?_)
 ·refine (callsIn_wide (n:=3)).1 (main.mono ?_)
  rintro e w' ⟨rfl,hbel⟩
  refine ⟨_,rfl,X,hbel.os,hbel.tape,hbel.output,hbel.size,hbel.block,fun _ _=>Iff.rfl,fun b h=>Nat.lt_of_lt_of_le (hX b h) hbel.size,[.bool (hits res tbl.length != [])], ?_,rfl⟩
  refine ⟨[.bool _],[],rfl,RepC.xD.2 ?_,rfl⟩
  rw [qIb tbl q res (fun j e he=>by show (match tbl[j]? with | some e=>q e | none=>false)=q e;rw [he])]
 ·refine callsIn_wide.2 ?_
  have he:=List.getElem?_eq_getElem hj
  have hw:=hw'
  have hle:(view w X).Le (view w' X):=qKq hw
  have:=(qtF hS).2 w' X ((key,bb,()),(tbl[j].1,tbl[j].2.1,()),()) [.agg #[.slice ak key.length capk, .slice ab bb.length capb], .agg #[(ev j).1,(ev j).2]] _ (fun b h=>Nat.lt_of_lt_of_le (hX b h) hw.size) (hkeys.mono hle)
   ⟨[.slice ak key.length capk, .slice ab bb.length capb],_,rfl,RepC.jI.2 ⟨[_],[_],rfl,hk0.mono hle,RepC.jI.2 ⟨[_],[],rfl,hb0.mono hle,RepC.qd3.2 rfl⟩⟩,[(ev j).1,(ev j).2],[],rfl,(hrep j _ he).mono hle,rfl⟩
   (qyQ _ _ _ _ hkl hbl)
  refine this.mono ?_
  rintro e w'' ⟨vr,rfl,hr⟩
  refine ⟨?_,qxD hr⟩
  obtain ⟨M',_,_,_,_,_,_,_,us,hv,rfl⟩:=hr
  obtain ⟨ds,us1,rfl,hc,rfl⟩:=hv
  obtain rfl:=RepC.xD.1 hc
  show Ending.returned (.bool _)=Ending.returned (.bool (match tbl[j]? with | some e=>q e | none=>false))
  rw [he]
set_option maxRecDepth 100000 in
theorem qD8 (hS:FOK Tryz.prog 126 qhU):FOK Tryz.prog 369 qtZ:=by
 refine ⟨⟨Tryz.f369,Tryz.func369,by kernel_rfl,by kernel_rfl⟩, ?_⟩
 intro w X x vs r hX hkeys ha hr
 obtain ⟨⟨idl,tbl,frg,⟨⟩⟩,key,bb,⟨⟩⟩:=x
 obtain rfl:=Option.some.inj hr
 obtain ⟨cs,vs1,rfl,hp,cs2,vs2,rfl,hk,cs3,vs3,rfl,hb,rfl⟩:=ha
 obtain ⟨c1,c2,rfl,h1,hp⟩:=RepC.jI.1 hp
 obtain ⟨c3,c4,rfl,h2,hp⟩:=RepC.jI.1 hp
 obtain ⟨c5,c6,rfl,h3,hp⟩:=RepC.jI.1 hp
 obtain rfl:=RepC.qd3.1 hp
 obtain rfl:=RepC.xD.1 h1
 obtain rfl:=RepC.xD.1 h3
 have:=qJO hS idl frg tbl key bb hX hkeys h2 hk hb
 refine cast ?_ this
 congr 1
 simp [mkV,Ty.isAgg]
end Yp
namespace Yp
open Go Go.Proofs Go.RowKit Go.Shelf
attribute [-go_sem] g02 g03 g04 g05 g06 g01 g07 g08 g09 g10 g11 g12 g13 g14 g15 g16 g17 g18 g19 g20 g21 g22 g23 g24 g25 g26 g27 g28 g29 g30 g31 g32 g34 g35 g36 g37 g38 g39 g40 g41 g42 g43 g44 g45 g46 g47 g48 g49 g50 g51 g52 g53 g54 g55 g56 g57 g58 g60 g61 qDa qqX qHM g62 g63 qL g33 g64 g65 g66
attribute [local go_sem] Oper.semAt_some
theorem qAK {w w':World} {X:Nat→Prop} {rs:List RTy} {r:denR rs} {vr:Value} (h:qcL w X w' rs r vr):Below w.heap.size w w':=by
 obtain ⟨M',h1,h2,h3,h4,h5,_⟩:=h
 exact ⟨h1,h2,h3,h4,h5⟩
theorem qD4 {P:Program} {w w':World} {X:Nat→Prop} (h:yO P (view w X)) (hb:Below w.heap.size w w'):yO P (view w' X) :=
 h.mono fun b o hv=>by
  obtain ⟨hx,hh⟩:=zF.1 hv
  exact zF.2 ⟨hx,(hb.block b (Array.getElem?_eq_some_iff.1 hh).1).trans hh⟩
theorem qHx {P:Program} {f:Nat} (hP:FOK P f ⟨[.int .i64],[.im (.int .i64), .im (.int .u8)],jL⟩) {n:Nat} (h1:1≤n) (h2:n≤128) (m:Nat) (w:World) {X:Nat→Prop} (hX:∀ b,X b→b < w.heap.size) (hk:yO P (view w X)) :
  CallsIn Fence.wide m P f #[.int .i64 (n:Int)] w fun e w'=>e = .returned (.tuple #[.int .i64 (((n - 1) / 8:Nat):Int), .int .u8 (n8 (bitB ((n - 1) % 8)))])∧Below w.heap.size w w':=by
 refine callsIn_wide.2 ?_
 have:=hP.2 w X ((n:Int),()) [.int .i64 (n:Int)] (_,_,()) hX hk ⟨[.int .i64 (n:Int)],[],rfl,RepC.zV.2 rfl,rfl⟩ (qdY h1 h2)
 refine this.mono ?_
 rintro e w' ⟨vr,rfl,hr⟩
 refine ⟨?_,qAK hr⟩
 obtain ⟨M',_,_,_,_,_,_,_,vs,hv,rfl⟩:=hr
 obtain ⟨cs,vs1,rfl,hc,cs2,vs2,rfl,hc2,rfl⟩:=hv
 have hc':=RepC.zV.1 hc
 have hc2':=RepC.zV.1 hc2
 subst hc' hc2'
 rfl
def yl (bs:BB) (k:Nat):List Nat:=(List.range k).filter fun n=>Nat.ble 1 n && hasB bs n
theorem qEz (bs:BB) (k:Nat):yl bs (k+1)=yl bs k++if (Nat.ble 1 k && hasB bs k)=true then [k] else []:=by
 unfold yl
 rw [List.range_succ,List.filter_append]
 simp only [List.filter_cons,List.filter_nil]
theorem qH9:∀ c:UInt8,∀ t:Nat,t < 8→(Go.bits BinOp.and IntKind.u8 (n8 c) (n8 (bitB t)) != 0)=bt c t:=all8 (by decide +kernel)
theorem qEA (bs:BB) (k:Nat) (h:1≤k):(yl bs k).length < k:=by
 obtain ⟨j,rfl⟩:∃ j,k=j+1:=⟨k - 1,by omega⟩
 have h0:yl bs (j+1)=(((List.range j).map (·+1)).filter fun n=>Nat.ble 1 n && hasB bs n):=by
  unfold yl
  rw [List.range_succ_eq_map,List.filter_cons_of_neg (by simp)]
 rw [h0]
 have:=List.length_filter_le (fun n=>Nat.ble 1 n && hasB bs n) ((List.range j).map (·+1))
 simp only [List.length_map,List.length_range] at this
 omega
def qJK (n₀ Bs:Nat) (W W':World):Prop:=Below n₀ W W'∧W'.cell? ⟨Bs,0,none⟩=W.cell? ⟨Bs,0,none⟩
set_option maxRecDepth 100000 in
set_option maxHeartbeats 2000000 in
theorem qEV (hP:FOK Tryz.prog 353 ⟨[.int .i64],[.im (.int .i64), .im (.int .u8)],jL⟩) (w0:World) (X:Nat→Prop) (hX:∀ b,X b→b < w0.heap.size) (hkey:yO Tryz.prog (view w0 X)) (n l Bs n₀ b off cap:Nat) (bs:BB) (hlen:bs.length≤16) (hb:b < n₀) (J Jx:List Nat→World→Prop)
  (hJ:∀ s W W',J s W→Below W.heap.size W W'→J s W')
  (hY:∀ (pre:List Nat) (x:Nat) W,J pre W→1≤x→x≤128→pre.length < 128→YieldAt Fence.wide n Tryz.prog l #[.int .i64 (x:Int)] W fun e W' =>
   (e = .returned (.bool true)∧J (pre++[x]) W'∧qJK n₀ Bs W W')∨(e = .returned (.bool false)∧Jx (pre++[x]) W'))
  (W:World) (h0W:Below w0.heap.size w0 W) (hn0:n₀=w0.heap.size) (hBs:W.cell? ⟨Bs,0,none⟩=some (.slice (some ⟨b,off,none⟩) bs.length cap)) (hBn:Bs < W.heap.size) (hn:n₀≤W.heap.size) (hc:∀ j,(h:j < bs.length)→W.cell? ⟨b,off+j,none⟩=some (.int .u8 (n8 bs[j]))) (h0:J [] W) :
  CallsIn Fence.wide (n+1) Tryz.prog 381 #[.func (.yield l) #[] #[], .pointer (some ⟨Bs,0,none⟩)] W fun e W'=>(∃ v,e = .returned v) ∧
   (J (yl bs (8*bs.length+1)) W'∨(∃ k,k≤8*bs.length+1∧Jx (yl bs k) W')):=by
 have hw353:Fence.wide.fn 353:=trivial
 refine callsIn_of_wp Tryz.func381 rfl trivial ?_ rfl
 simp only [Tryz.ntmps381,List.size_toArray,List.length_cons,List.length_nil,Nat.reduceAdd,Nat.reduceSub,Array.replicate_succ,Array.replicate_zero,List.push_toArray,List.append_toArray,List.nil_append,List.cons_append]
 gi_wp2
 gi_loopw [3] (fun i wr=>∃ k:Nat,1≤k∧k≤8*bs.length+1∧i = .int .i64 k∧J (yl bs k) wr∧Below n₀ W wr∧W.heap.size≤wr.heap.size∧wr.cell? ⟨Bs,0,none⟩=some (.slice (some ⟨b,off,none⟩) bs.length cap))
  (fun i _=>8*bs.length+1 - (intOf i).toNat)
 case atStart=>exact ⟨1,Nat.le_refl _,by omega,rfl,by have:yl bs 1=[]:=(by unfold yl;rfl);rw [this];exact h0,Below.refl _ _,Nat.le_refl _,hBs⟩
 case round =>
  obtain ⟨k,hk1,hk,rfl,hJs,hnx,hsz,hBs'⟩:=hrel
  by_cases hlt:k≤8*bs.length
  ·have hle:(k:Int)≤8*(bs.length:Int):=by omega
   obtain ⟨p,t,c,hpl,hplt,ht8,hcW,hbit⟩:∃ (p t:Nat) (c:UInt8),(∀ w,Below w0.heap.size w0 w→CallsIn Fence.wide n Tryz.prog 353 #[.int .i64 (k:Int)] w fun e w'=>e = .returned (.tuple #[.int .i64 (p:Int), .int .u8 (n8 (bitB t))])∧Below w.heap.size w w')∧p < bs.length∧t < 8∧W.cell? ⟨b,off+p,none⟩=some (.int .u8 (n8 c))∧bt c t=hasB bs k:=by
    have hplt:(k - 1) / 8 < bs.length:=by omega
    refine ⟨(k - 1) / 8,(k - 1) % 8,bs[(k - 1) / 8],fun w1 hw1=>qHx hP hk1 (show k≤128 by omega) n w1 (fun b h=>Nat.lt_of_lt_of_le (hX b h) hw1.size) (qD4 hkey hw1),hplt,by omega,hc _ hplt, ?_⟩
    unfold hasB;rw [qL hplt]
   have hplt':(p:Int) < (bs.length:Int):=by omega
   have hba:=qH9 c t ht8
   rw [hbit] at hba
   have hw353':(Fence.wide).depth.isSome=true→1≤n:=fun h=>by cases h
   cases hh:hasB bs k
   ·rw [hh] at hba
    have hz:Go.bits BinOp.and IntKind.u8 (n8 c) (n8 (bitB t))=0:=by simpa using hba
    have hys:yl bs (k+1)=yl bs k:=by rw [qEz,hh,Bool.and_false,if_neg (by simp),List.append_nil]
    clear hbit hba hh
    gi_wp2_with (gi_at_call 353;refine (hpl _ (h0W.trans (hn0 ▸ hnx))).mono ?_;rintro e w1 ⟨rfl,hb1⟩;have hBs1:w1.cell? ⟨Bs,0,none⟩=some (.slice (some ⟨b,off,none⟩) bs.length cap):=(hb1.cell (p:=⟨Bs,0,none⟩) (Nat.lt_of_lt_of_le hBn hsz)).trans hBs';have hcx:w1.cell? ⟨b,off+p,none⟩=some (.int .u8 (n8 c)):=(hb1.cell (p:=⟨b,off+p,none⟩) (Nat.lt_of_lt_of_le hb (Nat.le_trans hn hsz))).trans ((hnx.cell (p:=⟨b,off+p,none⟩) hb).trans hcW))
    refine ⟨fun _ _=>trivial, ?_⟩
    gi_wp2
    refine ⟨⟨k+1,by omega,by omega,by simp,by rw [hys];exact hJ _ _ _ hJs hb1,hnx.trans (hb1.mono (Nat.le_trans hn hsz)),Nat.le_trans hsz hb1.size,hBs1⟩, ?_⟩
    simp [intOf];omega
   ·rw [hh] at hba
    have hys:yl bs (k+1)=yl bs k++[k]:=by
     have:Nat.ble 1 k=true:=Nat.ble_eq_true_of_le hk1
     rw [qEz,hh,this];rfl
    have hyl:=qEA bs k hk1
    have hY':=fun w1 (hj:J (yl bs k) w1)=>hY _ k w1 hj hk1 (show k≤128 by omega) (by omega)
    clear hbit hh
    gi_wp2_with (gi_at_call 353;refine (hpl _ (h0W.trans (hn0 ▸ hnx))).mono ?_;rintro e w1 ⟨rfl,hb1⟩;have hBs1:w1.cell? ⟨Bs,0,none⟩=some (.slice (some ⟨b,off,none⟩) bs.length cap):=(hb1.cell (p:=⟨Bs,0,none⟩) (Nat.lt_of_lt_of_le hBn hsz)).trans hBs';have hcx:w1.cell? ⟨b,off+p,none⟩=some (.int .u8 (n8 c)):=(hb1.cell (p:=⟨b,off+p,none⟩) (Nat.lt_of_lt_of_le hb (Nat.le_trans hn hsz))).trans ((hnx.cell (p:=⟨b,off+p,none⟩) hb).trans hcW);obtain ⟨fn,tmps,assign,body,hy,hR⟩:=hY' w1 (hJ _ _ _ hJs hb1))
    refine hR.mono ?_
    rintro e W3 (⟨rfl,hJ3,hk3⟩ | ⟨rfl,hJx3⟩)
    ·gi_wp2
     refine ⟨⟨k+1,by omega,by omega,by simp,by rw [hys];exact hJ3,(hnx.trans (hb1.mono (Nat.le_trans hn hsz))).trans hk3.1,Nat.le_trans hsz (Nat.le_trans hb1.size hk3.1.size),hk3.2.trans hBs1⟩, ?_⟩
     simp [intOf];omega
    ·gi_wp2
     refine bodyPost_ret (results_none rfl _ _ _) rfl ?_
     exact ⟨⟨_,rfl⟩, .inr ⟨k+1,by omega,by rw [hys];exact hJx3⟩⟩
  ·have hk':k=8*bs.length+1:=by omega
   subst hk'
   have hlt':¬ ((8*bs.length+1:Nat):Int)≤8*(bs.length:Int):=by omega
   gi_wp2
   go_end0
   exact ⟨⟨_,rfl⟩, .inl hJs⟩
end Yp
namespace Yp
open Go Go.Proofs Go.RowKit Go.Shelf
attribute [-go_sem] g02 g03 g04 g05 g06 g01 g07 g08 g09 g10 g11 g12 g13 g14 g15 g16 g17 g18 g19 g20 g21 g22 g23 g24 g25 g26 g27 g28 g29 g30 g31 g32 g34 g35 g36 g37 g38 g39 g40 g41 g42 g43 g44 g45 g46 g47 g48 g49 g50 g51 g52 g53 g54 g55 g56 g57 g58 g60 g61 qDa qqX qHM g62 g63 qL g33 g64 g65 g66
attribute [local go_sem] Oper.semAt_some
abbrev RS:List RTy:=[.ow (.int .i64), .im (.int .i64), .im (.int .i64)]
theorem qf4 {w w':World} {X:Nat→Prop} (hX:∀ b,X b→b < w.heap.size) (hb:Below w.heap.size w w') (e:Int):qcL w X w' RS (([],0,e,()):List Int×Int×Int×Unit) (.tuple #[.slice none 0 0, .int .i64 0, .int .i64 e]):=by
 refine ⟨X,hb.os,hb.tape,hb.output,hb.size,hb.block,fun _ _=>Iff.rfl,fun b h=>Nat.lt_of_lt_of_le (hX b h) hb.size,[.slice none 0 0, .int .i64 0, .int .i64 e], ?_,rfl⟩
 exact ⟨_,_,rfl, .inl ⟨rfl,⟨none,rfl⟩,⟨[.int .i64 0],_,rfl,RepC.zV.2 rfl,⟨[.int .i64 e],_,rfl,RepC.zV.2 rfl,rfl⟩⟩⟩⟩
theorem qIr {w w':World} {X:Nat→Prop} (hX:∀ b,X b→b < w.heap.size) (hb:Below w.heap.size w w') {v:Value} {l:List Int} (ho:w'.ownsRow w.heap.size 3 1 v l.length (l.map (Value.int .i64))) (n:Int):qcL w X w' RS ((l,n,0,()):List Int×Int×Int×Unit) (.tuple #[v, .int .i64 n, .int .i64 0]):=by
 obtain ⟨_,⟨rfl,h0⟩ | ⟨g,cap,cur,rfl,hg,hh,hc1,hc2,hc3,hc4⟩⟩:=ho
 ·have:l=[]:=List.length_eq_zero_iff.1 h0
  subst this
  refine ⟨X,hb.os,hb.tape,hb.output,hb.size,hb.block,fun _ _=>Iff.rfl,fun b h=>Nat.lt_of_lt_of_le (hX b h) hb.size,[.slice none 0 0, .int .i64 n, .int .i64 0], ?_,rfl⟩
  exact ⟨_,_,rfl, .inl ⟨rfl,⟨none,rfl⟩,⟨[.int .i64 n],_,rfl,RepC.zV.2 rfl,⟨[.int .i64 0],_,rfl,RepC.zV.2 rfl,rfl⟩⟩⟩⟩
 ·have hgl:g < w'.heap.size:=(Array.getElem?_eq_some_iff.1 hh).1
  refine ⟨fun b=>X b∨b=g,hb.os,hb.tape,hb.output,hb.size,hb.block,fun b hbl=>⟨fun h=>h.elim id (fun e=>by omega), .inl⟩,fun b h=>h.elim (fun h=>Nat.lt_of_lt_of_le (hX b h) hb.size) (fun e=>e ▸ hgl),[.slice (some ⟨g,0,none⟩) l.length cap, .int .i64 n, .int .i64 0], ?_,rfl⟩
  refine ⟨_,_,rfl, .inr ⟨g,⟨0,cur,3,(0,0),cap,rfl,hc1,hc2, ?_,hh,⟨?_, ?_⟩, ?_, .inr rfl,fun h=>absurd (show g < w.heap.size from h) (Nat.not_lt.2 hg),fun h=>h⟩,⟨[.int .i64 n],_,rfl,RepC.zV.2 rfl,⟨[.int .i64 0],_,rfl,RepC.zV.2 rfl,rfl⟩⟩⟩⟩
  ·show 0+cap*1≤cur.size
   omega
  ·show 0+l.length*1≤cur.size
   have:l.length≤cap:=hc1
   omega
  ·intro i x hi
   have hi':l[i]? = some x:=hi
   have hlt:i < l.length:=(List.getElem?_eq_some_iff.1 hi').1
   refine RepC.zV.2 ?_
   show seg cur (0+i*1) 1=[Value.int .i64 x]
   rw [Nat.zero_add,Nat.mul_one]
   have h1:cur.toList[i]? = some (Value.int .i64 x):=by
    have h2:(List.take (l.length*1) cur.toList)[i]? = cur.toList[i]? := List.getElem?_take_of_lt (by omega)
    rw [← h2,hc4,List.getElem?_map,hi'];rfl
   obtain ⟨hlt2,hg2⟩:=List.getElem?_eq_some_iff.1 h1
   unfold seg
   rw [List.drop_eq_getElem_cons hlt2,hg2];rfl
  ·exact .inl rfl
theorem ql6 (w:World) (o1 o2 o3:Obj):Below w.heap.size w (((w.alloc o1).alloc o2).alloc o3):=(((Below.refl _ w).alloc (Nat.le_refl _) _).alloc (by simp) _).alloc (by simp;omega) _
set_option maxRecDepth 100000 in
set_option maxHeartbeats 2000000 in
theorem qLF (a:Option Addr) (n cap:Nat) (at':Int) (h:at' < 0) (m:Nat) (w:World) (X:Nat→Prop) (hX:∀ b,X b→b < w.heap.size) :
  CallsIn Fence.wide m Tryz.prog 272 #[.slice a n cap, .int .i64 at'] w fun e w'=>∃ vr,e = .returned vr∧qcL w X w' RS (([],0,1,()):List Int×Int×Int×Unit) vr:=by
 refine callsIn_of_wp Tryz.func272 rfl trivial ?_ rfl
 simp only [Tryz.ntmps272,List.size_toArray,List.length_cons,List.length_nil,Nat.reduceAdd,Nat.reduceSub,Array.replicate_succ,Array.replicate_zero,List.push_toArray,List.append_toArray,List.nil_append,List.cons_append]
 gi_wp2
 exact bodyPost_ret (v := .tuple #[.slice none 0 0, .int .i64 0, .int .i64 1]) (by simp [results,Tryz.f272,go_sem]) rfl ⟨_,rfl,qf4 hX (ql6 _ _ _ _) 1⟩
set_option maxRecDepth 100000 in
set_option maxHeartbeats 2000000 in
theorem qLE (a:Option Addr) (n cap:Nat) (at':Int) (h0:¬ at' < 0) (h:(n:Int) < at') (m:Nat) (w:World) (X:Nat→Prop) (hX:∀ b,X b→b < w.heap.size) :
  CallsIn Fence.wide m Tryz.prog 272 #[.slice a n cap, .int .i64 at'] w fun e w'=>∃ vr,e = .returned vr∧qcL w X w' RS (([],0,1,()):List Int×Int×Int×Unit) vr:=by
 refine callsIn_of_wp Tryz.func272 rfl trivial ?_ rfl
 simp only [Tryz.ntmps272,List.size_toArray,List.length_cons,List.length_nil,Nat.reduceAdd,Nat.reduceSub,Array.replicate_succ,Array.replicate_zero,List.push_toArray,List.append_toArray,List.nil_append,List.cons_append]
 gi_wp2
 exact bodyPost_ret (v := .tuple #[.slice none 0 0, .int .i64 0, .int .i64 1]) (by simp [results,Tryz.f272,go_sem]) rfl ⟨_,rfl,qf4 hX (ql6 _ _ _ _) 1⟩
set_option maxRecDepth 100000 in
set_option maxHeartbeats 2000000 in
theorem qLD (a:Option Addr) (n cap:Nat) (A:Nat) (hcap:n≤cap) (h:A=n) (m:Nat) (w:World) (X:Nat→Prop) (hX:∀ b,X b→b < w.heap.size) :
  CallsIn Fence.wide m Tryz.prog 272 #[.slice a n cap, .int .i64 (A:Int)] w fun e w'=>∃ vr,e = .returned vr∧qcL w X w' RS (([],0,3,()):List Int×Int×Int×Unit) vr:=by
 subst h
 refine callsIn_of_wp Tryz.func272 rfl trivial ?_ rfl
 simp only [Tryz.ntmps272,List.size_toArray,List.length_cons,List.length_nil,Nat.reduceAdd,Nat.reduceSub,Array.replicate_succ,Array.replicate_zero,List.push_toArray,List.append_toArray,List.nil_append,List.cons_append]
 gi_wp2
 all_goals exact bodyPost_ret (v := .tuple #[.slice none 0 0, .int .i64 0, .int .i64 3]) (by simp [results,Tryz.f272,go_sem]) rfl ⟨_,rfl,qf4 hX (ql6 _ _ _ _) 3⟩
theorem qDy:∀ c:UInt8,(Go.bits BinOp.and IntKind.u8 (n8 c) 128 != 0)=bt c 0:=all8 (by decide +kernel)
set_option maxRecDepth 100000 in
set_option maxHeartbeats 2000000 in
theorem qLC (b off n cap:Nat) (A:Nat) (hcap:n≤cap) (hA:A < n) (c0:UInt8) (m:Nat) (w:World) (hc:w.cell? ⟨b,off+A,none⟩=some (.int .u8 (n8 c0))) (hs:(bt c0 0=true∧n - A < 16)∨(bt c0 0=false∧n - A < 8)) (X:Nat→Prop) (hX:∀ b,X b→b < w.heap.size) (hb:b < w.heap.size) :
  CallsIn Fence.wide m Tryz.prog 272 #[.slice (some ⟨b,off,none⟩) n cap, .int .i64 (A:Int)] w fun e w'=>∃ vr,e = .returned vr∧qcL w X w' RS (([],0,3,()):List Int×Int×Int×Unit) vr:=by
 have hn0:¬ ((A:Int) < 0):=by omega
 have hn1:¬ ((n:Int) < (A:Int)):=by omega
 have hb128:=qDy c0
 obtain ⟨N,hN⟩:∃ N,n=A+N:=⟨n - A,by omega⟩
 subst hN
 have hc3:(((w.alloc (.cells #[.slice none 0 0] 101)).alloc (.cells #[.int .i64 0] 3)).alloc (.cells #[.int .i64 0] 54)).cell? ⟨b,off+A,none⟩=some (.int .u8 (n8 c0)):=((ql6 w _ _ _).cell (p:=⟨b,off+A,none⟩) hb).trans hc
 refine callsIn_of_wp Tryz.func272 rfl trivial ?_ rfl
 simp only [Tryz.ntmps272,List.size_toArray,List.length_cons,List.length_nil,Nat.reduceAdd,Nat.reduceSub,Array.replicate_succ,Array.replicate_zero,List.push_toArray,List.append_toArray,List.nil_append,List.cons_append]
 rcases hs with ⟨h1,h2⟩ | ⟨h1,h2⟩
 ·rw [h1] at hb128
  clear h1
  have h2':(N:Int) < 16:=by omega
  gi_wp2
  all_goals exact bodyPost_ret (v := .tuple #[.slice none 0 0, .int .i64 0, .int .i64 3]) (by simp [results,Tryz.f272,go_sem]) rfl ⟨_,rfl,qf4 hX (ql6 _ _ _ _) 3⟩
 ·rw [h1] at hb128
  have hz:Go.bits BinOp.and IntKind.u8 (n8 c0) 128=0:=by simpa using hb128
  clear h1 hb128
  have h2':(N:Int) < 8:=by omega
  gi_wp2
  all_goals exact bodyPost_ret (v := .tuple #[.slice none 0 0, .int .i64 0, .int .i64 3]) (by simp [results,Tryz.f272,go_sem]) rfl ⟨_,rfl,qf4 hX (ql6 _ _ _ _) 3⟩
set_option maxRecDepth 100000 in
set_option maxHeartbeats 2000000 in
theorem qIn (m:Nat) (sl:Value) (w:World) (hv:sl.oneCell'=true):CallsIn Fence.wide m Tryz.prog 345 #[sl] w fun e w'=>e = .returned (.func (.func 381) #[] #[.pointer (some ⟨w.heap.size,0,none⟩)])∧w'=w.alloc (.cells #[sl] 22):=by
 refine callsIn_of_wp Tryz.func345 rfl trivial ?_ rfl
 simp only [Tryz.ntmps345,List.size_toArray,List.length_cons,List.length_nil,Nat.reduceAdd,Nat.reduceSub,Array.replicate_succ,Array.replicate_zero,List.push_toArray,List.append_toArray,List.nil_append,List.cons_append]
 gi_wp2
 go_ret
 exact ⟨rfl,rfl⟩
end Yp
namespace Yp
open Go Go.Proofs Go.RowKit Go.Shelf
attribute [-go_sem] g02 g03 g04 g05 g06 g01 g07 g08 g09 g10 g11 g12 g13 g14 g15 g16 g17 g18 g19 g20 g21 g22 g23 g24 g25 g26 g27 g28 g29 g30 g31 g32 g34 g35 g36 g37 g38 g39 g40 g41 g42 g43 g44 g45 g46 g47 g48 g49 g50 g51 g52 g53 g54 g55 g56 g57 g58 g60 g61 qDa qqX qHM g62 g63 qL g33 g64 g65 g66
attribute [local go_sem] Oper.semAt_some
theorem qK7:(Tryz.prog.info? 3).map (fun i=>(i.zero,i.size,i.bytes))=some (some (.int .i64 0),1,8):=by kernel_rfl
theorem u81:Tryz.prog.underlying 101=some (.slice 3):=by kernel_rfl
def col (pre:List Nat):List Nat:=pre.filter fun n=>Nat.ble 2 n
def colV (pre:List Nat):List Value:=(col pre).map fun (n:Nat)=>Value.int .i64 (n:Int)
theorem qDt {pre:List Nat} {x:Nat} (h:¬ 1 < x):col (pre++[x])=col pre:=by
 have:Nat.ble 2 x=false:=Bool.eq_false_iff.2 fun e=>h (Nat.le_of_ble_eq_true e)
 unfold col;rw [List.filter_append,List.filter_cons_of_neg (by rw [this];exact Bool.false_ne_true)];simp
theorem qGI {pre:List Nat} {x:Nat} (h:1 < x):col (pre++[x])=col pre++[x]:=by
 have:Nat.ble 2 x=true:=Nat.ble_eq_true_of_le h
 unfold col;rw [List.filter_append,List.filter_cons_of_pos this];simp
structure ResC (s:Nat) (v:Value) (n e:Int) (sl:Value) (W:World):Prop where
 c0:Boxed W s 101 v
 c1:Boxed W (s+1) 3 (.int .i64 n)
 c2:Boxed W (s+1+1) 54 (.int .i64 e)
 c5:Boxed W (s+1+1+1+1+1) 22 sl
theorem boxed_own {B t:Nat} {v:Value} {X Y:World} {row:Option Nat} (hv:Boxed X B t v) (hg:X.grownBy Y row) (hrow:∀ r,row=some r→∃ o,X.heap[r]? = some o∧o.isCells=false):Boxed Y B t v :=
 hv.kept hg fun e'=>by
  obtain ⟨o,ho,hc⟩:=hrow B e'.symm
  rw [show X.heap[B]? = _ from hv] at ho;cases ho;cases hc
theorem qkW {β:Type} (s:Nat) (v:Value) (n e:Int) (sl:Value):Own (fun (_:β) W=>ResC s v n e sl W):=fun _ _ _ _ hs hg hr =>
 ⟨boxed_own hs.c0 hg hr,boxed_own hs.c1 hg hr,boxed_own hs.c2 hg hr,boxed_own hs.c5 hg hr⟩
theorem _root_.Go.Boxed.kL {W:World} {B C t:Nat} {v:Value} (h:Boxed W B t v) (hne:B≠C) (u:Value):Boxed (W.setCell ⟨C,0,none⟩ u) B t v:=h.kept (grownBy_setCell' W C u) (fun e=>hne (by cases e;rfl))
theorem res3 {s:Nat} {v sl:Value} {n e:Int} {W:World} (h:ResC s v n e sl W) (v':Value) (n' e':Int) :
    ResC s v' n' e' sl (((W.setCell ⟨s,0,none⟩ v').setCell ⟨s+1,0,none⟩ (.int .i64 n')).setCell ⟨s+1+1,0,none⟩ (.int .i64 e')) :=
  ⟨((h.c0.set v').kL (by omega) _).kL (by omega) _,((h.c1.kL (by omega) _).set (.int .i64 n')).kL (by omega) _,
   ((h.c2.kL (by omega) _).kL (by omega) _).set (.int .i64 e'),((h.c5.kL (by omega) _).kL (by omega) _).kL (by omega) _⟩
theorem qD5 (s:Nat) (v':Value) (n' e':Int) (W:World):Below s W (((W.setCell ⟨s,0,none⟩ v').setCell ⟨s+1,0,none⟩ (.int .i64 n')).setCell ⟨s+1+1,0,none⟩ (.int .i64 e')) :=
 (((Below.refl s W).setCell (p:=⟨s,0,none⟩) (Nat.le_refl _) v').setCell (p:=⟨s+1,0,none⟩) (by simp) _).setCell (p:=⟨s+1+1,0,none⟩) (by simp;omega) _
theorem qvK (s:Nat) (v':Value) (n' e':Int) (W:World):KeepsOthers W (((W.setCell ⟨s,0,none⟩ v').setCell ⟨s+1,0,none⟩ (.int .i64 n')).setCell ⟨s+1+1,0,none⟩ (.int .i64 e')) :=
 ((KeepsOthers.setCell _ _ _).trans (KeepsOthers.setCell _ _ _)).trans (KeepsOthers.setCell _ _ _)
theorem qt1 {s:Nat} {v sl:Value} {n e:Int} {W W':World} (h:ResC s v n e sl W) (hb:Below (s+1+1+1) W W') (h5:Boxed W' (s+1+1+1+1+1) 22 sl):ResC s v n e sl W' :=
 ⟨(hb.block _ (by omega)).trans h.c0,(hb.block _ (by omega)).trans h.c1,(hb.block _ (by omega)).trans h.c2,h5⟩
theorem ResC.put {s:Nat} {v sl:Value} {n e:Int} {W:World} (h:ResC s v n e sl W) {D:Nat} {o:Obj} (o':Obj) (hD:W.heap[D]? = some o) (ho:o.isCells=false):ResC s v n e sl (W.putObj D o') :=
 qkW (β:=Unit) s v n e sl () W _ (some D) h (grownBy_putObj' W D o') (fun r e=>by cases e;exact ⟨o,hD,ho⟩)
theorem row3 {s:Nat} {W:World} {v:Value} {L:Nat} {xs:List Value} (h:W.ownsRow (s+1+1+1) 3 1 v L xs) (v':Value) (n' e':Int) {D:Nat} {o:Obj} (o':Obj) (hD:W.heap[D]? = some o) (ho:o.isCells=false) :
  World.ownsRow ((((W.setCell ⟨s,0,none⟩ v').setCell ⟨s+1,0,none⟩ (.int .i64 n')).setCell ⟨s+1+1,0,none⟩ (.int .i64 e')).putObj D o') s 3 1 v L xs:=by
 rcases h.2 with ⟨rfl,h0⟩ | ⟨g,cap,cur,rfl,hg,hh,hk⟩
 ·exact ⟨h.1, .inl ⟨rfl,h0⟩⟩
 ·have hgD:g≠D:=by
   rintro rfl
   rw [hh] at hD;cases hD;cases ho
  have h':W.ownsRow s 3 1 (.slice (some ⟨g,0,none⟩) L cap) L xs:=⟨h.1, .inr ⟨g,cap,cur,rfl,by omega,hh,hk⟩⟩
  have ne:∀ k,g≠k→(Value.slice (some ⟨g,0,none⟩) L cap).ownBlock=none∨(Value.slice (some ⟨g,0,none⟩) L cap).ownBlock≠some k:=fun k hk => .inr fun e=>hk (by simpa [Value.ownBlock] using e)
  exact (((h'.kept (grownBy_setCell' W s v') (ne _ (by omega))).kept (grownBy_setCell' _ (s+1) _) (ne _ (by omega))).kept (grownBy_setCell' _ (s+1+1) _) (ne _ (by omega))).kept (grownBy_putObj' _ D o') (ne _ hgD)
theorem qiQ (bs:BB):col (yl bs (8*bs.length+1))=xU bs:=by
 unfold col yl xU
 rw [List.filter_filter]
 refine List.filter_congr fun n _ => ?_
 cases h:Nat.ble 2 n
 ·simp
 ·have:Nat.ble 1 n=true:=Nat.ble_eq_true_of_le (by have:=Nat.le_of_ble_eq_true h;omega)
  rw [this];simp
theorem yl65 {bs:BB} {k:Nat} (hk:k≤8*bs.length+1) (h:65∈yl bs k):65∈xU bs∧8 < bs.length:=by
 unfold yl at h
 rw [List.mem_filter,List.mem_range] at h
 unfold xU
 rw [List.mem_filter,List.mem_range]
 refine ⟨⟨by omega, ?_⟩,by omega⟩
 have h2:=h.2
 rw [Bool.and_eq_true] at h2 ⊢
 exact ⟨rfl,h2.2⟩
theorem qKX {bs:BB} (h:65∈xU bs):65∈yl bs (8*bs.length+1):=by
 unfold xU at h
 rw [List.mem_filter,List.mem_range] at h
 unfold yl
 rw [List.mem_filter,List.mem_range]
 refine ⟨h.1, ?_⟩
 have h2:=h.2
 rw [Bool.and_eq_true] at h2 ⊢
 exact ⟨rfl,h2.2⟩
theorem qFP {bs:BB} {L z:Nat} (hL:(xU bs).length=L+1) (hz:(xU bs)[L]? = some z):∀ n∈xU bs,n≤z:=by
 intro n hn
 have hp:(xU bs).Pairwise (· < ·):=List.Pairwise.filter _ List.pairwise_lt_range
 obtain ⟨i,hi,rfl⟩:=List.getElem_of_mem hn
 obtain ⟨hl,rfl⟩:=List.getElem?_eq_some_iff.1 hz
 by_cases h:i=L
 ·subst h;exact Nat.le_refl _
 ·exact Nat.le_of_lt (List.pairwise_iff_getElem.1 hp i L hi hl (by omega))
structure Wrap (p:Prop):Prop where
 out:p
set_option maxRecDepth 100000 in
set_option maxHeartbeats 4000000 in
theorem qLB   (hP : FOK Tryz.prog 353 ⟨[.int .i64], [.im (.int .i64), .im (.int .u8)], jL          ⟩) (b off n cap : Nat) (A S : Nat) (hcap : n ≤ cap) (hA : A + S ≤ n) (hn : n ≤ 9223372036854775807) (bs : List UInt8) (hS : S = 8 ∨ S = 16) (hbs : bs.length = S) (c0 : UInt8) (m : Nat) (w : World)
    (hc : ∀ j, (h : j < bs.length) → w.cell? ⟨b, off + A + j, none⟩ = some (.int .u8 (n8 bs[j]))) (hc0 : w.cell? ⟨b, off + A, none⟩ = some (.int .u8 (n8 c0))) (hw : bt c0 0 = true ↔ S = 16) (X : Nat → Prop) (hX : ∀ b, X b → b < w.heap.size) (hkey : yO     Tryz.prog (view w X)) (hb : b < w.heap.size) (R : List Int × Int × Int × Unit) (hR : Wrap (R = (if S = 16 ∧ (65 ∈ xU    bs ∨ ∀ n ∈ xU    bs, n < 65) then (([], 0, 2, ()) : List Int × Int × Int × Unit) else (((xU    bs).map Int.ofNat, (A : Int) + (S : Int), (0 : Int), ()) : List Int × Int × Int × Unit)))) :
    CallsIn Fence.wide (m + 3) Tryz.prog 272 #[.slice (some ⟨b, off, none⟩) n cap, .int .i64 (A : Int)] w fun e w' => ∃ vr, e = .returned vr ∧ qcL   w X w' RS R vr := by
  obtain ⟨i0, hi, hz0, hz1, hz2⟩ := info_parts qK7   
  have hn0 : ¬ ((A : Int) < 0) := by omega
  have hn1 : ¬ ((n : Int) < (A : Int)) := by omega
  have hb128 := qDy      c0
  obtain ⟨N, hN⟩ : ∃ N, n = A + N := ⟨n - A, by omega⟩
  subst hN
  have hc3 : (((w.alloc (.cells #[.slice none 0 0] 101)).alloc (.cells #[.int .i64 0] 3)).alloc (.cells #[.int .i64 0] 54)).cell? ⟨b, off + A, none⟩ = some (.int .u8 (n8 c0)) := ((ql6    w _ _ _).cell (p := ⟨b, off + A, none⟩) hb).trans hc0
  have hw345 : Fence.wide.fn 345 := trivial
  refine callsIn_of_wp_marks Tryz.func272 rfl trivial ?_ rfl
  simp only [Tryz.ntmps272, List.size_toArray, List.length_cons, List.length_nil, Nat.reduceAdd, Nat.reduceSub, Array.replicate_succ, Array.replicate_zero, List.push_toArray, List.append_toArray, List.nil_append, List.cons_append]
  rcases hS with rfl | rfl
  · have h1 : bt c0 0 = false := Bool.eq_false_iff.2 fun h => by have := hw.1 h; omega
    rw [h1] at hb128
    have hz : Go.bits BinOp.and IntKind.u8 (n8 c0) 128 = 0 := by simpa using hb128
    clear h1 hb128
    have h2' : ¬ (N : Int) < 8 := by omega
    have h2'' : ¬ N < 8 := by omega
    gi_wp2_with (gi_at_call 345; refine (qIn    _ _ _ rfl).mono ?_; rintro e w' ⟨rfl, rfl⟩)
    have bL := Boxed.new ((((w.alloc (.cells #[.slice none 0 0] 101)).alloc (.cells #[.int .i64 0] 3)).alloc (.cells #[.int .i64 0] 54)).alloc (.cells #[] 3)) 101 (.slice (some ⟨w.heap.size + 1 + 1 + 1, 0, none⟩) 0 0)
    have bS := Boxed.new (((((w.alloc (.cells #[.slice none 0 0] 101)).alloc (.cells #[.int .i64 0] 3)).alloc (.cells #[.int .i64 0] 54)).alloc (.cells #[] 3)).alloc (.cells #[.slice (some ⟨w.heap.size + 1 + 1 + 1, 0, none⟩) 0 0] 101)) 22 (.slice (some ⟨b, off + A, none⟩) 8 (cap - A))
    have b0 := Boxed.new w 101 (.slice none 0 0)
    have b1 := Boxed.new (w.alloc (.cells #[.slice none 0 0] 101)) 3 (.int .i64 0)
    have b2 := Boxed.new ((w.alloc (.cells #[.slice none 0 0] 101)).alloc (.cells #[.int .i64 0] 3)) 54 (.int .i64 0)
    have hrow0 := World.ownsRow_made (base := w.heap.size + 1 + 1 + 1) (e := 3) (size := 1) (((w.alloc (.cells #[.slice none 0 0] 101)).alloc (.cells #[.int .i64 0] 3)).alloc (.cells #[.int .i64 0] 54)) #[] 0 (by simp) (by unfold maxLen; omega) rfl
    simp only [World.size_alloc] at bL bS b1 b2 hrow0
    have hB6 : Below w.heap.size w ((((((w.alloc (.cells #[.slice none 0 0] 101)).alloc (.cells #[.int .i64 0] 3)).alloc (.cells #[.int .i64 0] 54)).alloc (.cells #[] 3)).alloc (.cells #[.slice (some ⟨w.heap.size + 1 + 1 + 1, 0, none⟩) 0 0] 101)).alloc (.cells #[.slice (some ⟨b, off + A, none⟩) 8 (cap - A)] 22)) :=
      (((ql6    w _ _ _).alloc (by simp; omega) _).alloc (by simp; omega) _).alloc (by simp; omega) _
    refine wpIn_rangeFunc_ownG rfl (by omega) (gf := 381) (lb := #[.pointer (some ⟨w.heap.size + 1 + 1 + 1 + 1 + 1, 0, none⟩)]) rfl trivial (enters_of Tryz.func381 (by kernel_rfl) rfl)
      (encs := fun x : Nat => #[.int .i64 (x : Int)]) (Kp := qJK   w.heap.size (w.heap.size + 1 + 1 + 1 + 1 + 1)) (S := fun ys => ys = yl bs (8 * bs.length + 1)) (Sp := fun pre => ∃ k, k ≤ 8 * bs.length + 1 ∧ pre = yl bs k) (N := 128)
      ?seq ?kt ?kb (Below.refl _ _) (fun _ => rfl)
      (fun pre W => ((∃ v, Boxed W (w.heap.size + 1 + 1 + 1 + 1) 101 v ∧ W.ownsRow (w.heap.size + 1 + 1 + 1) 3 1 v (col pre).length (colV pre) ∧ ¬ 65 ∈ pre) ∧ ResC w.heap.size (.slice none 0 0) 0 0 (.slice (some ⟨b, off + A, none⟩) 8 (cap - A)) W) ∧ Below w.heap.size w W)
      (fun c pre W => ((c = .ret ∧ 65 ∈ pre) ∧ ResC w.heap.size (.slice none 0 0) 0 2 (.slice (some ⟨b, off + A, none⟩) 8 (cap - A)) W) ∧ Below w.heap.size w W)
      (OwnFrom.and (OwnFrom.and (Own.from (holdsRow_own (w.heap.size + 1 + 1 + 1) _ 101 3 1 (fun pre => (col pre).length) colV (fun pre v => ¬ 65 ∈ pre)) _) (Own.from (qkW      w.heap.size (.slice none 0 0) 0 0 (.slice (some ⟨b, off + A, none⟩) 8 (cap - A))) _)) (ownFrom_below (Nat.le_refl _) (by simp; omega)))
      (fun c => OwnFrom.and (OwnFrom.and (ownFrom_pure _ _) (Own.from (qkW      w.heap.size (.slice none 0 0) 0 2 (.slice (some ⟨b, off + A, none⟩) 8 (cap - A))) _)) (ownFrom_below (Nat.le_refl _) (by simp; omega)))
      ?start
      (fun x => { tmps := #[Value.slice (some { block := b, off := off + A }) N (cap - A), Value.int IntKind.i64 (A : Int), undef, undef,
          Value.pointer (some { block := w.heap.size, off := 0 }),
          Value.pointer (some { block := w.heap.size + 1, off := 0 }),
          Value.pointer (some { block := w.heap.size + 1 + 1, off := 0 }), Value.int IntKind.i64 8,
          Value.pointer (some { block := w.heap.size + 1 + 1 + 1 + 1, off := 0 }), Value.int IntKind.i64 (x : Int), Value.int IntKind.i64 (A : Int),
          Value.bool false, Value.bool false, Value.int IntKind.i64 (A : Int),
          Value.slice (some { block := b, off := off }) (A + N) cap, Value.int IntKind.i64 ((A : Int) + (N : Int)),
          Value.bool (decide ((A : Int) + (N : Int) < (A : Int))), Value.bool (decide ((A : Int) + (N : Int) < (A : Int))),
          Value.slice (some { block := b, off := off }) (A + N) cap, Value.int IntKind.i64 (A : Int),
          Value.slice (some { block := b, off := off + A }) N (cap - A),
          Value.slice (some { block := b, off := off + A }) N (cap - A), Value.int IntKind.i64 (N : Int), Value.bool true,
          Value.bool true, Value.slice (some { block := b, off := off + A }) N (cap - A),
          Value.pointer (some { block := b, off := off + A }), Value.int IntKind.u8 (n8 c0),
          Value.int IntKind.u8 0, Value.bool false, Value.bool false,
          Value.slice (some { block := b, off := off + A }) N (cap - A), Value.int IntKind.i64 (N : Int),
          Value.int IntKind.i64 8, Value.bool false,
          Value.slice (some { block := w.heap.size + 1 + 1 + 1, off := 0 }) 0 0,
          Value.slice (some { block := b, off := off + A }) N (cap - A), Value.int IntKind.i64 8,
          Value.slice (some { block := b, off := off + A }) 8 (cap - A),
          Value.func (Fn.func 381) #[] #[Value.pointer (some { block := w.heap.size + 1 + 1 + 1 + 1 + 1, off := 0 })],
          Value.int IntKind.i64 (x : Int), undef, undef, undef, undef, undef, undef, undef, undef, undef, undef, undef, undef, undef, undef,
          undef, undef, undef, undef, undef, undef, undef, undef, undef, undef, undef, undef, undef, undef], defers := [] }) ?assign ?body ?done ?stop
    case seq =>
      intro l J Jx W hW hJ hJx hY h0
      have hsz : w.heap.size + 6 ≤ W.heap.size := by have := hW.size; simp at this; omega
      refine (qEV     hP w X hX hkey (m + 1) l (w.heap.size + 1 + 1 + 1 + 1 + 1) w.heap.size b (off + A) (cap - A) bs (by omega) hb J Jx (fun s W1 W2 hs hb => hJ s W1 W2 none hs ⟨hb.os, hb.tape, hb.output, hb.size, fun k hk _ => hb.block k hk⟩ (fun r e => by cases e)) (fun pre x W1 hj _ _ hl => hY pre x W1 hj hl) W (hB6.trans (hW.mono (by simp; omega))) rfl ?_ (by omega) (by omega) (fun j h => ?_) h0).mono ?_
      · rw [hbs]; exact (hW.cell (p := ⟨w.heap.size + 1 + 1 + 1 + 1 + 1, 0, none⟩) (by simp)).trans bS.cell
      · exact (hW.cell (p := ⟨b, off + A + j, none⟩) (by simp; omega)).trans ((hB6.cell (p := ⟨b, off + A + j, none⟩) hb).trans (hc j h))
      · rintro e W' ⟨he, h⟩
        exact ⟨he, h.elim (fun h => .inl ⟨_, rfl, h⟩) (fun ⟨k, hk, h⟩ => .inr ⟨_, ⟨k, hk, rfl⟩, h⟩)⟩
    case kt => exact fun h k => ⟨h.1.trans k.1, k.2.trans h.2⟩
    case kb =>
      intro W l o o' hl ho h1 h2
      simp at hl
      exact ⟨belowK_b (w := w) (Nat.le_refl _) W l o o' (by omega) ho h1 h2, World.cell?_of_block (World.putObj_heap_other (by simp; omega))⟩
    case start => exact ⟨⟨⟨_, bL.alloc _, (hrow0.alloc _).alloc _, by simp⟩, ⟨b0.alloc _ |>.alloc _ |>.alloc _ |>.alloc _ |>.alloc _, b1.alloc _ |>.alloc _ |>.alloc _ |>.alloc _, b2.alloc _ |>.alloc _ |>.alloc _, bS⟩⟩, hB6⟩
    case assign =>
      intro l x W K hK
      gi_wp2
      exact hK
    case body =>
      rintro l pre x W ⟨⟨⟨v, hv, hrow, h65⟩, hr⟩, hB⟩ hlt
      have hcL := hv.cell
      have hr1 := hr.c0.cell
      have hr2 := hr.c0.frozen
      have hr3 := hr.c1.cell
      have hr4 := hr.c1.frozen
      have hr5 := hr.c2.cell
      have hr6 := hr.c2.frozen
      have h5lt := hr.c5.lt
      have hpl : (col pre).length ≤ pre.length := List.length_filter_le _ _
      by_cases hx65 : x = 65
      · subst hx65
        gi_wp2
        exact ⟨(qvK     _ _ _ _ _).from _, ⟨⟨rfl, by simp⟩, res3 hr _ _ _⟩, hB.trans (qD5   _ _ _ _ _)⟩
      · have hx65' : ¬ (x : Int) = 65 := by omega
        by_cases hx1 : 1 < x
        · have hx1' : (1 : Int) < (x : Int) := by omega
          gi_wp2_with (gi_at_builtin; refine Wrap.out ?_)
          refine ⟨?_⟩
          refine wpListIn_append_own _ rfl _ _ 101 rfl (w.heap.size + 1 + 1 + 1) 3 i0 (.int .i64 0) 1 8 u81 hi hz0 hz1 hz2 rfl (by decide) v (col pre).length (colV pre) rfl (hrow.alloc _) ⟨W.heap.size, 0, none⟩ 1 1 [.int .i64 (x : Int)] rfl rfl ?hcell ?hone ?hb1 ?hb2 ?hb3 ?hrest
          case hcell => exact cell_one_new _ _ _
          case hone => simp [Value.oneCell']
          case hb1 => simp [maxLen]; omega
          case hb2 => omega
          case hb3 => have := hB.size; simp; omega
          case hrest =>
            intro v' w1 hown' hgrow _
            obtain ⟨g', cap', rfl⟩ := ownsRow_succ hown'
            obtain ⟨hv1, hv2, hr2', hk2, hb2⟩ := hv.appended (by decide) hrow (by omega) (by omega) hown' hgrow
            have hS1 : Boxed w1 (w.heap.size + 1 + 1 + 1 + 1 + 1) 22 _ := (hr.c5.alloc (.cells #[Value.int .i64 (x : Int)] 3)).kept hgrow (hr.c5.not_row (by decide) hrow)
            have hc1 := hv1.cell
            have hf1 := hv1.frozen
            gi_wp2
            have hS2 := hS1.kL       (C := w.heap.size + 1 + 1 + 1 + 1) (by omega) (.slice (some ⟨g', 0, none⟩) ((col pre).length + 1) cap')
            have hb2' := hb2.mono (B' := w.heap.size) (by omega)
            refine ⟨hk2.from _, ⟨hb2', hS2.cell.trans hr.c5.cell.symm⟩, ⟨⟨_, hv2, ?_, ?_⟩, qt1        hr hb2 hS2⟩, hB.trans hb2'⟩
            · rw [colV, qGI     hx1]; simpa [colV] using hr2'
            · simpa [h65] using fun e => hx65 e.symm
        · have hx1' : ¬ (1 : Int) < (x : Int) := by omega
          gi_wp2
          refine ⟨KeepsFrom.refl _ _, ⟨Below.refl _ _, rfl⟩, ⟨⟨v, hv, ?_, ?_⟩, hr⟩, hB⟩
          · rw [colV, qDt      hx1]; exact hrow
          · simpa [h65] using fun e => hx65 e.symm
    case done =>
      rintro D ys W hD rfl ⟨⟨⟨v, hv, hrow, h65⟩, hr⟩, hB⟩ hK
      have hcL := hv.cell
      have hr1 := hr.c0.cell
      have hr2 := hr.c0.frozen
      have hr3 := hr.c1.cell
      have hr4 := hr.c1.frozen
      have hr5 := hr.c2.cell
      have hr6 := hr.c2.frozen
      have hK' := fun v n e => (qvK     w.heap.size v n e W).same D _ hK rfl
      have hyl := qEA    bs (8 * bs.length + 1) (by omega)
      have hpl : (col (yl bs (8 * bs.length + 1))).length ≤ (yl bs (8 * bs.length + 1)).length := List.length_filter_le _ _
      obtain ⟨C, hC⟩ : ∃ C, Wrap (C = col (yl bs (8 * bs.length + 1))) := ⟨_, ⟨rfl⟩⟩
      unfold colV at hrow
      rw [← hC.out] at hrow hpl
      have hC128 : C.length ≤ 128 := by omega
      have hgood : Wrap (W.ownsRow (w.heap.size + 1 + 1 + 1) 3 1 v C.length (C.map fun (n : Nat) => Value.int .i64 (n : Int))) := ⟨hrow⟩
      clear hrow hpl hyl
      obtain ⟨L, hL⟩ : ∃ L, Wrap (L = C.length) := ⟨_, ⟨rfl⟩⟩
      rw [← hL.out] at hgood hC128
      obtain ⟨a, c, hve⟩ : ∃ a c, v = .slice a L c := by
        rcases hgood.out.2 with ⟨h, h'⟩ | ⟨g, cap', cur, h, _⟩
        · exact ⟨none, 0, by rw [h']; exact h⟩
        · exact ⟨_, _, h⟩
      subst hve
      gi_wp2
      case h_1.isFalse he _ => cases he
      all_goals
        refine ⟨by simp, .inl ⟨_, _, rfl, run_takeDeferred (hK' _ _ _), ?_⟩⟩
        have hz := ((res3 hr (.slice a L c) ((A : Int) + 8) 0).put (.deferred none) (hK' _ _ _) rfl)
        refine ⟨.tuple #[(.slice a L c), .int .i64 ((A : Int) + 8), .int .i64 0], by simp [results, Tryz.f272, go_sem, hz.c0.cell, hz.c1.cell, hz.c2.cell], _, rfl, ?_⟩
        rw [hR.out, if_neg (fun h => by have := h.1; first | exact this.elim | omega)]
        refine qIr    hX ((hB.trans (qD5   _ _ _ _ _)).trans (belowK_b (w := w) (Nat.le_refl _) _ D _ _ (by simp at hD; omega) (hK' _ _ _) rfl rfl)) ?_ _
        have hrw := row3 hgood.out (.slice a L c) ((A : Int) + 8) 0 (.deferred none) hK rfl
        rw [← qiQ     , ← hC.out, List.length_map, ← hL.out, List.map_map]
        exact hrw
    case stop =>
      rintro D c pre W hD ⟨k, hk, rfl⟩ ⟨⟨⟨rfl, h65⟩, hr⟩, hB⟩ hK
      have := (yl65 hk h65).2
      omega
  · have h1 : bt c0 0 = true := hw.2 rfl
    rw [h1] at hb128
    clear h1
    have h2' : ¬ (N : Int) < 16 := by omega
    have h2'' : ¬ N < 16 := by omega
    gi_wp2_with (gi_at_call 345; refine (qIn    _ _ _ rfl).mono ?_; rintro e w' ⟨rfl, rfl⟩)
    have bL := Boxed.new ((((w.alloc (.cells #[.slice none 0 0] 101)).alloc (.cells #[.int .i64 0] 3)).alloc (.cells #[.int .i64 0] 54)).alloc (.cells #[] 3)) 101 (.slice (some ⟨w.heap.size + 1 + 1 + 1, 0, none⟩) 0 0)
    have bS := Boxed.new (((((w.alloc (.cells #[.slice none 0 0] 101)).alloc (.cells #[.int .i64 0] 3)).alloc (.cells #[.int .i64 0] 54)).alloc (.cells #[] 3)).alloc (.cells #[.slice (some ⟨w.heap.size + 1 + 1 + 1, 0, none⟩) 0 0] 101)) 22 (.slice (some ⟨b, off + A, none⟩) 16 (cap - A))
    have b0 := Boxed.new w 101 (.slice none 0 0)
    have b1 := Boxed.new (w.alloc (.cells #[.slice none 0 0] 101)) 3 (.int .i64 0)
    have b2 := Boxed.new ((w.alloc (.cells #[.slice none 0 0] 101)).alloc (.cells #[.int .i64 0] 3)) 54 (.int .i64 0)
    have hrow0 := World.ownsRow_made (base := w.heap.size + 1 + 1 + 1) (e := 3) (size := 1) (((w.alloc (.cells #[.slice none 0 0] 101)).alloc (.cells #[.int .i64 0] 3)).alloc (.cells #[.int .i64 0] 54)) #[] 0 (by simp) (by unfold maxLen; omega) rfl
    simp only [World.size_alloc] at bL bS b1 b2 hrow0
    have hB6 : Below w.heap.size w ((((((w.alloc (.cells #[.slice none 0 0] 101)).alloc (.cells #[.int .i64 0] 3)).alloc (.cells #[.int .i64 0] 54)).alloc (.cells #[] 3)).alloc (.cells #[.slice (some ⟨w.heap.size + 1 + 1 + 1, 0, none⟩) 0 0] 101)).alloc (.cells #[.slice (some ⟨b, off + A, none⟩) 16 (cap - A)] 22)) :=
      (((ql6    w _ _ _).alloc (by simp; omega) _).alloc (by simp; omega) _).alloc (by simp; omega) _
    refine wpIn_rangeFunc_ownG rfl (by omega) (gf := 381) (lb := #[.pointer (some ⟨w.heap.size + 1 + 1 + 1 + 1 + 1, 0, none⟩)]) rfl trivial (enters_of Tryz.func381 (by kernel_rfl) rfl)
      (encs := fun x : Nat => #[.int .i64 (x : Int)]) (Kp := qJK   w.heap.size (w.heap.size + 1 + 1 + 1 + 1 + 1)) (S := fun ys => ys = yl bs (8 * bs.length + 1)) (Sp := fun pre => ∃ k, k ≤ 8 * bs.length + 1 ∧ pre = yl bs k) (N := 128)
      ?seq ?kt ?kb (Below.refl _ _) (fun _ => rfl)
      (fun pre W => ((∃ v, Boxed W (w.heap.size + 1 + 1 + 1 + 1) 101 v ∧ W.ownsRow (w.heap.size + 1 + 1 + 1) 3 1 v (col pre).length (colV pre) ∧ ¬ 65 ∈ pre) ∧ ResC w.heap.size (.slice none 0 0) 0 0 (.slice (some ⟨b, off + A, none⟩) 16 (cap - A)) W) ∧ Below w.heap.size w W)
      (fun c pre W => ((c = .ret ∧ 65 ∈ pre) ∧ ResC w.heap.size (.slice none 0 0) 0 2 (.slice (some ⟨b, off + A, none⟩) 16 (cap - A)) W) ∧ Below w.heap.size w W)
      (OwnFrom.and (OwnFrom.and (Own.from (holdsRow_own (w.heap.size + 1 + 1 + 1) _ 101 3 1 (fun pre => (col pre).length) colV (fun pre v => ¬ 65 ∈ pre)) _) (Own.from (qkW      w.heap.size (.slice none 0 0) 0 0 (.slice (some ⟨b, off + A, none⟩) 16 (cap - A))) _)) (ownFrom_below (Nat.le_refl _) (by simp; omega)))
      (fun c => OwnFrom.and (OwnFrom.and (ownFrom_pure _ _) (Own.from (qkW      w.heap.size (.slice none 0 0) 0 2 (.slice (some ⟨b, off + A, none⟩) 16 (cap - A))) _)) (ownFrom_below (Nat.le_refl _) (by simp; omega)))
      ?start
      (fun x => { tmps := #[Value.slice (some { block := b, off := off + A }) N (cap - A), Value.int IntKind.i64 (A : Int), undef, undef,
          Value.pointer (some { block := w.heap.size, off := 0 }),
          Value.pointer (some { block := w.heap.size + 1, off := 0 }),
          Value.pointer (some { block := w.heap.size + 1 + 1, off := 0 }), Value.int IntKind.i64 16,
          Value.pointer (some { block := w.heap.size + 1 + 1 + 1 + 1, off := 0 }), Value.int IntKind.i64 (x : Int), Value.int IntKind.i64 (A : Int),
          Value.bool false, Value.bool false, Value.int IntKind.i64 (A : Int),
          Value.slice (some { block := b, off := off }) (A + N) cap, Value.int IntKind.i64 ((A : Int) + (N : Int)),
          Value.bool (decide ((A : Int) + (N : Int) < (A : Int))), Value.bool (decide ((A : Int) + (N : Int) < (A : Int))),
          Value.slice (some { block := b, off := off }) (A + N) cap, Value.int IntKind.i64 (A : Int),
          Value.slice (some { block := b, off := off + A }) N (cap - A),
          Value.slice (some { block := b, off := off + A }) N (cap - A), Value.int IntKind.i64 (N : Int), Value.bool true,
          Value.bool true, Value.slice (some { block := b, off := off + A }) N (cap - A),
          Value.pointer (some { block := b, off := off + A }), Value.int IntKind.u8 (n8 c0),
          Value.int IntKind.u8 (Go.bits BinOp.and IntKind.u8 (n8 c0) 128), Value.bool true, Value.bool true,
          Value.slice (some { block := b, off := off + A }) N (cap - A), Value.int IntKind.i64 (N : Int),
          Value.int IntKind.i64 16, Value.bool false,
          Value.slice (some { block := w.heap.size + 1 + 1 + 1, off := 0 }) 0 0,
          Value.slice (some { block := b, off := off + A }) N (cap - A), Value.int IntKind.i64 16,
          Value.slice (some { block := b, off := off + A }) 16 (cap - A),
          Value.func (Fn.func 381) #[] #[Value.pointer (some { block := w.heap.size + 1 + 1 + 1 + 1 + 1, off := 0 })],
          Value.int IntKind.i64 (x : Int), undef, undef, undef, undef, undef, undef, undef, undef, undef, undef, undef, undef, undef, undef,
          undef, undef, undef, undef, undef, undef, undef, undef, undef, undef, undef, undef, undef, undef], defers := [] }) ?assign ?body ?done ?stop
    case seq =>
      intro l J Jx W hW hJ hJx hY h0
      have hsz : w.heap.size + 6 ≤ W.heap.size := by have := hW.size; simp at this; omega
      refine (qEV     hP w X hX hkey (m + 1) l (w.heap.size + 1 + 1 + 1 + 1 + 1) w.heap.size b (off + A) (cap - A) bs (by omega) hb J Jx (fun s W1 W2 hs hb => hJ s W1 W2 none hs ⟨hb.os, hb.tape, hb.output, hb.size, fun k hk _ => hb.block k hk⟩ (fun r e => by cases e)) (fun pre x W1 hj _ _ hl => hY pre x W1 hj hl) W (hB6.trans (hW.mono (by simp; omega))) rfl ?_ (by omega) (by omega) (fun j h => ?_) h0).mono ?_
      · rw [hbs]; exact (hW.cell (p := ⟨w.heap.size + 1 + 1 + 1 + 1 + 1, 0, none⟩) (by simp)).trans bS.cell
      · exact (hW.cell (p := ⟨b, off + A + j, none⟩) (by simp; omega)).trans ((hB6.cell (p := ⟨b, off + A + j, none⟩) hb).trans (hc j h))
      · rintro e W' ⟨he, h⟩
        exact ⟨he, h.elim (fun h => .inl ⟨_, rfl, h⟩) (fun ⟨k, hk, h⟩ => .inr ⟨_, ⟨k, hk, rfl⟩, h⟩)⟩
    case kt => exact fun h k => ⟨h.1.trans k.1, k.2.trans h.2⟩
    case kb =>
      intro W l o o' hl ho h1 h2
      simp at hl
      exact ⟨belowK_b (w := w) (Nat.le_refl _) W l o o' (by omega) ho h1 h2, World.cell?_of_block (World.putObj_heap_other (by simp; omega))⟩
    case start => exact ⟨⟨⟨_, bL.alloc _, (hrow0.alloc _).alloc _, by simp⟩, ⟨b0.alloc _ |>.alloc _ |>.alloc _ |>.alloc _ |>.alloc _, b1.alloc _ |>.alloc _ |>.alloc _ |>.alloc _, b2.alloc _ |>.alloc _ |>.alloc _, bS⟩⟩, hB6⟩
    case assign =>
      intro l x W K hK
      gi_wp2
      exact hK
    case body =>
      rintro l pre x W ⟨⟨⟨v, hv, hrow, h65⟩, hr⟩, hB⟩ hlt
      have hcL := hv.cell
      have hr1 := hr.c0.cell
      have hr2 := hr.c0.frozen
      have hr3 := hr.c1.cell
      have hr4 := hr.c1.frozen
      have hr5 := hr.c2.cell
      have hr6 := hr.c2.frozen
      have h5lt := hr.c5.lt
      have hpl : (col pre).length ≤ pre.length := List.length_filter_le _ _
      by_cases hx65 : x = 65
      · subst hx65
        gi_wp2
        exact ⟨(qvK     _ _ _ _ _).from _, ⟨⟨rfl, by simp⟩, res3 hr _ _ _⟩, hB.trans (qD5   _ _ _ _ _)⟩
      · have hx65' : ¬ (x : Int) = 65 := by omega
        by_cases hx1 : 1 < x
        · have hx1' : (1 : Int) < (x : Int) := by omega
          gi_wp2_with (gi_at_builtin; refine Wrap.out ?_)
          refine ⟨?_⟩
          refine wpListIn_append_own _ rfl _ _ 101 rfl (w.heap.size + 1 + 1 + 1) 3 i0 (.int .i64 0) 1 8 u81 hi hz0 hz1 hz2 rfl (by decide) v (col pre).length (colV pre) rfl (hrow.alloc _) ⟨W.heap.size, 0, none⟩ 1 1 [.int .i64 (x : Int)] rfl rfl ?hcell ?hone ?hb1 ?hb2 ?hb3 ?hrest
          case hcell => exact cell_one_new _ _ _
          case hone => simp [Value.oneCell']
          case hb1 => simp [maxLen]; omega
          case hb2 => omega
          case hb3 => have := hB.size; simp; omega
          case hrest =>
            intro v' w1 hown' hgrow _
            obtain ⟨g', cap', rfl⟩ := ownsRow_succ hown'
            obtain ⟨hv1, hv2, hr2', hk2, hb2⟩ := hv.appended (by decide) hrow (by omega) (by omega) hown' hgrow
            have hS1 : Boxed w1 (w.heap.size + 1 + 1 + 1 + 1 + 1) 22 _ := (hr.c5.alloc (.cells #[Value.int .i64 (x : Int)] 3)).kept hgrow (hr.c5.not_row (by decide) hrow)
            have hc1 := hv1.cell
            have hf1 := hv1.frozen
            gi_wp2
            have hS2 := hS1.kL       (C := w.heap.size + 1 + 1 + 1 + 1) (by omega) (.slice (some ⟨g', 0, none⟩) ((col pre).length + 1) cap')
            have hb2' := hb2.mono (B' := w.heap.size) (by omega)
            refine ⟨hk2.from _, ⟨hb2', hS2.cell.trans hr.c5.cell.symm⟩, ⟨⟨_, hv2, ?_, ?_⟩, qt1        hr hb2 hS2⟩, hB.trans hb2'⟩
            · rw [colV, qGI     hx1]; simpa [colV] using hr2'
            · simpa [h65] using fun e => hx65 e.symm
        · have hx1' : ¬ (1 : Int) < (x : Int) := by omega
          gi_wp2
          refine ⟨KeepsFrom.refl _ _, ⟨Below.refl _ _, rfl⟩, ⟨⟨v, hv, ?_, ?_⟩, hr⟩, hB⟩
          · rw [colV, qDt      hx1]; exact hrow
          · simpa [h65] using fun e => hx65 e.symm
    case done =>
      rintro D ys W hD rfl ⟨⟨⟨v, hv, hrow, h65⟩, hr⟩, hB⟩ hK
      have hcL := hv.cell
      have hr1 := hr.c0.cell
      have hr2 := hr.c0.frozen
      have hr3 := hr.c1.cell
      have hr4 := hr.c1.frozen
      have hr5 := hr.c2.cell
      have hr6 := hr.c2.frozen
      have hK' := fun v n e => (qvK     w.heap.size v n e W).same D _ hK rfl
      have hyl := qEA    bs (8 * bs.length + 1) (by omega)
      have hpl : (col (yl bs (8 * bs.length + 1))).length ≤ (yl bs (8 * bs.length + 1)).length := List.length_filter_le _ _
      obtain ⟨C, hC⟩ : ∃ C, Wrap (C = col (yl bs (8 * bs.length + 1))) := ⟨_, ⟨rfl⟩⟩
      unfold colV at hrow
      rw [← hC.out] at hrow hpl
      have hC128 : C.length ≤ 128 := by omega
      have hgood : Wrap (W.ownsRow (w.heap.size + 1 + 1 + 1) 3 1 v C.length (C.map fun (n : Nat) => Value.int .i64 (n : Int))) := ⟨hrow⟩
      clear hrow hpl hyl
      by_cases hC0 : C.length = 0
      · rw [hC0] at hgood
        obtain ⟨a, c, hve⟩ : ∃ a c, v = .slice a 0 c := by
          rcases hgood.out.2 with ⟨h, _⟩ | ⟨g, cap', cur, h, _⟩
          · exact ⟨_, _, h⟩
          · exact ⟨_, _, h⟩
        subst hve
        gi_wp2
        refine ⟨by simp, .inl ⟨_, _, rfl, run_takeDeferred (hK' _ _ _), ?_⟩⟩
        have hz := ((res3 hr (.slice none 0 0) (0) 2).put (.deferred none) (hK' _ _ _) rfl)
        refine ⟨.tuple #[(.slice none 0 0), .int .i64 (0), .int .i64 2], by simp [results, Tryz.f272, go_sem, hz.c0.cell, hz.c1.cell, hz.c2.cell], _, rfl, ?_⟩
        have hall : ∀ n ∈ xU    bs, n < 65 := by
          intro n hn
          rw [← qiQ     , ← hC.out, List.length_eq_zero_iff.1 hC0] at hn; cases hn
        rw [hR.out, if_pos ⟨by trivial, .inr hall⟩]
        exact qf4     hX ((hB.trans (qD5   _ _ _ _ _)).trans (belowK_b (w := w) (Nat.le_refl _) _ D _ _ (by simp at hD; omega) (hK' _ _ _) rfl rfl)) 2
      · obtain ⟨L, hL⟩ : ∃ L, C.length = L + 1 := ⟨C.length - 1, by omega⟩
        rw [hL] at hgood hC128
        obtain ⟨g, cap', z, hve, hz0, hce⟩ : ∃ g cap' z, v = .slice (some ⟨g, 0, none⟩) (L + 1) cap' ∧ Wrap (C[L]? = some z) ∧ W.cell? ⟨g, L, none⟩ = some (.int .i64 (z : Int)) := by
          rcases hgood.out.2 with ⟨h, h'⟩ | ⟨g, cap', cur, h, hg, hh, hk1, hk2, hk3, hk4⟩
          · omega
          · refine ⟨g, cap', C[L]'(by omega), h, ⟨List.getElem?_eq_getElem (by omega)⟩, ?_⟩
            rw [World.cell?, hh]
            have h1 : cur.toList[L]? = some (Value.int .i64 ((C[L]'(by omega) : Nat) : Int)) := by
              have h2 : (List.take ((L + 1) * 1) cur.toList)[L]? = cur.toList[L]? := List.getElem?_take_of_lt (by omega)
              rw [← h2, hk4, List.getElem?_map, List.getElem?_eq_getElem (show L < C.length by omega)]; rfl
            have h3 : cur[L]? = some (Value.int .i64 ((C[L]'(by omega) : Nat) : Int)) := by rw [← h1]; simp
            simpa using h3
        subst hve
        clear hC0
        have hL' : Wrap (C.length = L + 1) := ⟨hL⟩
        clear hL
        have hL0 : ¬ ((L + 1 : Nat) : Int) = 0 := by omega
        have hwr : wrap64 (((L + 1 : Nat) : Int) - 1) = (L : Int) := by rw [show ((L + 1 : Nat) : Int) - 1 = (L : Int) by omega]; unfold wrap64; omega
        have hlt' : (L : Int) < ((L + 1 : Nat) : Int) := by omega
        have hlt0 : (0 : Int) ≤ (L : Int) := by omega
        by_cases hz65 : (z : Int) < 65
        · gi_wp2
          refine ⟨by simp, .inl ⟨_, _, rfl, run_takeDeferred (hK' _ _ _), ?_⟩⟩
          have hz := ((res3 hr (.slice none 0 0) (0) 2).put (.deferred none) (hK' _ _ _) rfl)
          refine ⟨.tuple #[(.slice none 0 0), .int .i64 (0), .int .i64 2], by simp [results, Tryz.f272, go_sem, hz.c0.cell, hz.c1.cell, hz.c2.cell], _, rfl, ?_⟩
          have hall : ∀ n ∈ xU    bs, n < 65 := by
            intro n hn
            have := qFP       (by rw [← qiQ     , ← hC.out]; exact hL'.out) (by rw [← qiQ     , ← hC.out]; exact hz0.out) n hn
            omega
          rw [hR.out, if_pos ⟨by trivial, .inr hall⟩]
          exact qf4     hX ((hB.trans (qD5   _ _ _ _ _)).trans (belowK_b (w := w) (Nat.le_refl _) _ D _ _ (by simp at hD; omega) (hK' _ _ _) rfl rfl)) 2
        · gi_wp2
          refine ⟨by simp, .inl ⟨_, _, rfl, run_takeDeferred (hK' _ _ _), ?_⟩⟩
          have hz := ((res3 hr (.slice (some ⟨g, 0, none⟩) (L + 1) cap') ((A : Int) + 16) 0).put (.deferred none) (hK' _ _ _) rfl)
          refine ⟨.tuple #[(.slice (some ⟨g, 0, none⟩) (L + 1) cap'), .int .i64 ((A : Int) + 16), .int .i64 0], by simp [results, Tryz.f272, go_sem, hz.c0.cell, hz.c1.cell, hz.c2.cell], _, rfl, ?_⟩
          rw [hR.out, if_neg (fun h => h.2.elim (fun h => h65 (qKX    h)) (fun h => absurd hz65 (by have := h z (by rw [← qiQ     , ← hC.out]; exact List.mem_of_getElem? hz0.out); omega)))]
          refine qIr    hX ((hB.trans (qD5   _ _ _ _ _)).trans (belowK_b (w := w) (Nat.le_refl _) _ D _ _ (by simp at hD; omega) (hK' _ _ _) rfl rfl)) ?_ _
          have hrw := row3 hgood.out (.slice (some ⟨g, 0, none⟩) (L + 1) cap') ((A : Int) + 16) 0 (.deferred none) hK rfl
          rw [← qiQ     , ← hC.out, List.length_map, hL'.out, List.map_map]
          exact hrw
    case stop =>
      rintro D c pre W hD ⟨k, hk, rfl⟩ ⟨⟨⟨rfl, h65⟩, hr⟩, hB⟩ hK
      gi_wp2
      refine ⟨by simp, .inl ⟨_, _, rfl, run_takeDeferred hK, ?_⟩⟩
      have hz := hr.put (.deferred none) hK rfl
      refine ⟨.tuple #[.slice none 0 0, .int .i64 0, .int .i64 2], by simp [results, Tryz.f272, go_sem, hz.c0.cell, hz.c1.cell, hz.c2.cell], _, rfl, ?_⟩
      rw [hR.out, if_pos ⟨by trivial, .inl (yl65 hk h65).1⟩]
      exact qf4     hX (hB.trans (belowK_b (w := w) (Nat.le_refl _) _ D _ _ (by simp at hD; omega) hK rfl rfl)) 2
end Yp
namespace Yp
open Go Go.Proofs
noncomputable abbrev wX:wQ:=⟨[.sl (.int .u8), .int .i64],[.ow (.int .i64), .im (.int .i64), .im (.int .i64)],qsC⟩
theorem qLb {c:BB} (h:0 < c.length):hasB c 1=bt c[0] 0:=by
 unfold hasB nth
 rw [show (1 - 1) / 8=0 from rfl,List.getD_eq_getElem?_getD,List.getElem?_eq_getElem h];rfl
set_option maxRecDepth 100000 in
theorem qFj (hP:FOK Tryz.prog 353 ⟨[.int .i64],[.im (.int .i64), .im (.int .u8)],jL⟩) (l:BB) (at':Int) (a:Option Addr) (cap:Nat) (w:World) (X:Nat→Prop) (hX:∀ b,X b→b < w.heap.size) (hkey:yO Tryz.prog (view w X)) (h1:l.length≤cap) (h2':cap≤9223372036854775807)
  (h3:l=[]∨∃ b o c el fz,a=some ⟨b,o,none⟩∧view w X b=some (.cells c el fz)∧o+l.length*1≤c.size∧∀ (i:Nat) (x:UInt8),l[i]? = some x→seg c (o+i*1) 1=[Value.int .u8 (n8 x)]) :
  Calls Tryz.prog 272 #[Value.slice a l.length cap,Value.int .i64 at'] w fun e w'=>∃ vr,e = .returned vr∧qcL w X w' wX.res (bmR l at') vr:=by
 by_cases hA:at' < 0
 ·have e:bmR l at'=([],0,1,()):=if_pos (.inl hA)
  refine (callsIn_wide (n:=0)).1 (qLF a _ cap at' hA 0 w X hX |>.mono ?_)
  intro e' w' ⟨vr,h,h'⟩
  exact ⟨vr,h,by rw [e];exact h'⟩
 by_cases hB:(l.length:Int) < at'
 ·have e:bmR l at'=([],0,1,()):=if_pos (.inr hB)
  refine (callsIn_wide (n:=0)).1 (qLE a _ cap at' hA hB 0 w X hX |>.mono ?_)
  intro e' w' ⟨vr,h,h'⟩
  exact ⟨vr,h,by rw [e];exact h'⟩
 obtain ⟨A,rfl⟩:∃ A:Nat,at'=(A:Int):=⟨at'.toNat,by omega⟩
 have hAl:A≤l.length:=by omega
 have eC:bmR l (A:Int)=bmC (l.drop A) (A:Int):=by
  unfold bmR
  rw [if_neg (by omega)];rfl
 rw [eC]
 have hdl:(l.drop A).length=l.length - A:=List.length_drop
 by_cases hE:A=l.length
 ·have e:bmC (l.drop A) (A:Int)=([],0,3,()):=if_pos (.inl (by omega))
  refine (callsIn_wide (n:=0)).1 (qLD a _ cap A h1 hE 0 w X hX |>.mono ?_)
  intro e' w' ⟨vr,h,h'⟩
  exact ⟨vr,h,by rw [e];exact h'⟩
 rcases h3 with rfl | ⟨b,o,c,el,fz,rfl,hv,hsz,hel⟩
 ·simp at hE hAl;omega
 have hsz':o+l.length*1≤c.size:=hsz
 obtain ⟨hnx,hh⟩:=zF.1 hv
 have hbl:b < w.heap.size:=(Array.getElem?_eq_some_iff.1 hh).1
 have hcell:∀ i,(h:i < l.length)→w.cell? ⟨b,o+i,none⟩=some (.int .u8 (n8 l[i])):=by
  intro i h
  have h6:seg c (o+i*1) 1=[Value.int .u8 (n8 l[i])]:=hel i l[i] (List.getElem?_eq_getElem h)
  rw [Nat.mul_one] at h6
  have h7:c[o+i]? = some (Value.int .u8 (n8 l[i])):=by
   have:=qd8 (c:=c) (o:=o+i) (n:=1) (i:=0) (by omega)
   rw [h6] at this
   simpa using this.symm
  rw [World.cell?,hh]
  simpa using h7
 have hc0:=hcell A (by omega)
 have hb0:hasB (l.drop A) 1=bt (l[A]'(by omega)) 0:=by
  rw [qLb (by omega)];congr 1;simp
 by_cases hS:(l.drop A).length < 8∨(hasB (l.drop A) 1=true∧(l.drop A).length < 16)
 ·have e:bmC (l.drop A) (A:Int)=([],0,3,()):=if_pos hS
  have hs:(bt (l[A]'(by omega)) 0=true∧l.length - A < 16)∨(bt (l[A]'(by omega)) 0=false∧l.length - A < 8):=by
   rw [hb0,hdl] at hS
   cases hb:bt (l[A]'(by omega)) 0
   ·rw [hb] at hS;exact .inr ⟨rfl,by simpa using hS⟩
   ·exact .inl ⟨rfl,by omega⟩
  refine (callsIn_wide (n:=0)).1 (qLC b o _ cap A h1 (by omega) _ 0 w hc0 hs X hX hbl |>.mono ?_)
  intro e' w' ⟨vr,h,h'⟩
  exact ⟨vr,h,by rw [e];exact h'⟩
 ·have hS8:8≤l.length - A:=by omega
  have run:∀ (S:Nat),(S=8∨S=16)→A+S≤l.length→(bt (l[A]'(by omega)) 0=true↔S=16)→∀ R,R=(if S=16∧(65∈xU ((l.drop A).take S)∨∀ n∈xU ((l.drop A).take S),n < 65) then (([],0,2,()):List Int×Int×Int×Unit) else (((xU ((l.drop A).take S)).map Int.ofNat,(A:Int)+(S:Int),(0:Int),()):List Int×Int×Int×Unit))→bmC (l.drop A) (A:Int)=R →
    Calls Tryz.prog 272 #[Value.slice (some ⟨b,o,none⟩) l.length cap,Value.int .i64 (A:Int)] w fun e w'=>∃ vr,e = .returned vr∧qcL w X w' wX.res (bmC (l.drop A) (A:Int)) vr:=by
   intro S h8 hl hbit R hR he
   rw [he]
   refine (callsIn_wide (n:=3)).1 (qLB hP b o _ cap A S h1 hl (by omega) ((l.drop A).take S) h8 (by rw [List.length_take,hdl];omega) _ 0 w ?_ hc0 hbit X hX hkey hbl R ⟨hR⟩)
   intro j hj
   have hj':A+j < l.length:=by rw [List.length_take,hdl] at hj;omega
   rw [Nat.add_assoc,hcell (A+j) hj']
   simp
  cases hb:bt (l[A]'(by omega)) 0
  ·rw [hb] at hb0
   refine run 8 (.inl rfl) (by omega) (by rw [hb];simp) _ rfl ?_
   unfold bmC
   rw [if_neg hS,if_neg (by rw [hb0];simp),if_neg (by omega)];rfl
  ·rw [hb] at hb0
   have h16:16≤l.length - A:=by
    rcases Nat.lt_or_ge (l.drop A).length 16 with h | h
    ·exact absurd (.inr ⟨hb0,h⟩) hS
    ·omega
   refine run 16 (.inr rfl) (by omega) (by rw [hb];simp) _ rfl ?_
   unfold bmC
   rw [if_neg hS,if_pos hb0]
   simp only [true_and];rfl
set_option maxRecDepth 100000 in
theorem qv2 (hP:FOK Tryz.prog 353 ⟨[.int .i64],[.im (.int .i64), .im (.int .u8)],jL⟩):FOK Tryz.prog 272 wX:=by
 refine ⟨⟨Tryz.f272,Tryz.func272,by kernel_rfl,by kernel_rfl⟩, ?_⟩
 intro w X x vs r hX hk ha hr
 obtain ⟨l,at',⟨⟩⟩:=x
 obtain rfl:bmR l at'=r:=Option.some.inj hr
 obtain ⟨cs,vs',rfl,hc,cs2,vs2,rfl,hc2,rfl⟩:=ha
 obtain ⟨a,cap,rfl,h1,h2,h3⟩:=RepC.jT.1 hc
 obtain rfl:=RepC.zV.1 hc2
 refine qFj hP l at' a cap w X hX hk h1 h2 (h3.imp id ?_)
 rintro ⟨b,o,c,el,fz,rfl,hv,hsz,hel⟩
 exact ⟨b,o,c,el,fz,rfl,hv,hsz,fun i x hx=>RepC.zV.1 (hel i x hx)⟩
end Yp
namespace Yp
open Go Go.Conc Go.RowKit Go.Proofs
section
variable {P : Program} {fr : Frame} {cs : List Frame} {w w₁ : World} {es : Array Event} {c cap s r : Nat} {buf : Array Value} {z' v : Value} {tm : Bool}
theorem qoJ (h:stepG P true (G fr cs) w = .comm (G fr cs) #[scase c v z'] false .select w₁ es) (hc:w₁.heap[c]? = some (.chan cap buf false s r tm)) (hroom:buf.size < cap) :
  step P (solo (G fr cs) w) = .next (solo (G (fr.finish (.tuple #[goInt 0, .bool false])) cs) (w₁.setChan c cap (buf.push v) false (s+1) r tm)):=by
 have hp:=partners_alone (c:=c) false
 rw [step,stepT_solo rfl]
 simp [runT,solo,G,Array.swapAt!,Array.swapAt,h,GStep.es,communicate,ways,scase,hc,hp,hroom,choose,Sem.run,Question.forced,bind,Sem.bind,pure,Goroutine.finishComm,commResult,World.setChan] at h ⊢
theorem qoK (h:stepG P true (G fr cs) w = .comm (G fr cs) #[scase c v z'] false .select w₁ es) (hc:w₁.heap[c]? = some (.chan cap buf false s r tm)) (hfull:¬ buf.size < cap) :
  step P (solo (G fr cs) w) = .next (solo (G (fr.finish (.tuple #[goInt (-1), .bool false])) cs) w₁):=by
 have hp:=partners_alone (c:=c) false
 rw [step,stepT_solo rfl]
 simp [runT,solo,G,Array.swapAt!,Array.swapAt,h,GStep.es,communicate,ways,scase,hc,hp,hfull,Goroutine.finishComm,commResult] at h ⊢
end
set_option maxRecDepth 100000 in
theorem qHo {w:World} {c cap s r:Nat} {buf:Array Value} {v:Value} {tm:Bool} (hc:w.heap[c]? = some (.chan cap buf false s r tm)) (hroom:buf.size < cap) :
  Calls Tryz.prog 386 #[.agg #[.chan (some c)],v] w fun e w'=>e = .returned (.bool true)∧w'=(w.alloc (.cells #[.chan (some c)] 378)).setChan c cap (buf.push v) false (s+1) r tm:=by
 have hlt:c < w.heap.size:=(Array.getElem?_eq_some_iff.1 hc).1
 refine calls_of_loneTo fun cs => ?_
 have e:Frame.enter Tryz.prog 386 #[.agg #[.chan (some c)],v] .normal=(base 386).at ⟨#[.agg #[.chan (some c)],v,undef,undef,undef,undef,undef,undef,undef,undef,undef],[]⟩ [.code (Tryz.f386.body.getD .skip)]:=by
  simp [Frame.enter,Frame.at,Tryz.func386,base,Tryz.f386]
 rw [e]
 refine LoneTo.goes (n:=16) ?_
 simp only [Tryz.f386,Option.getD_some]
 s_c stepG_seq
 s_reg
 s_op
 s_op
 s_c stepG_region_end
 s_c stepG_seq
 s_c stepG_seq
 s_reg
 s_op
 s_op
 s_c stepG_region_end
 s_reg
 s_op
 s_c stepG_region_end
 s_c stepG_seq
 s_reg
 s_stop
 refine LoneTo.step (qoJ (c:=c) (z' := .slice none 0 0) (v:=v) (buf:=buf) (cap:=cap) (s:=s) (r:=r) (tm:=tm) (stepG_comm (cases := #[scase c v (.slice none 0 0)]) (blocking:=false) (shape := .select) (w':=w.alloc (.cells #[.chan (some c)] 378)) rfl rfl (by decide) (by simp [go_sem,execOp,scase,Act.eval])) (by rw [heap_alloc_old _ _ hlt];exact hc) hroom) ?_
 rw [Frame.finish_at]
 walk_nrm
 refine LoneTo.goes (n:=9) ?_
 s_op
 s_op
 s_c stepG_region_end
 s_c stepG_block
 s_cond true
 s_c stepG_seq
 s_reg
 s_op
 s_c stepG_region_end
 s_stop
 refine LoneTo.goes (n:=1) ?_
 s_c stepG_ret'
 s_stop
 refine LoneTo.done ⟨.returned (.bool true),_,rfl,⟨rfl,rfl⟩,rfl,rfl,rfl,rfl,_,Tryz.func386,by simp [results,Tryz.f386,Frame.at]⟩
set_option maxRecDepth 100000 in
theorem qHr {w:World} {c cap s r:Nat} {buf:Array Value} {v:Value} {tm:Bool} (hc:w.heap[c]? = some (.chan cap buf false s r tm)) (hroom:¬ buf.size < cap) :
  Calls Tryz.prog 386 #[.agg #[.chan (some c)],v] w fun e w'=>e = .returned (.bool false)∧w'=w.alloc (.cells #[.chan (some c)] 378):=by
 have hlt:c < w.heap.size:=(Array.getElem?_eq_some_iff.1 hc).1
 refine calls_of_loneTo fun cs => ?_
 have e:Frame.enter Tryz.prog 386 #[.agg #[.chan (some c)],v] .normal=(base 386).at ⟨#[.agg #[.chan (some c)],v,undef,undef,undef,undef,undef,undef,undef,undef,undef],[]⟩ [.code (Tryz.f386.body.getD .skip)]:=by
  simp [Frame.enter,Frame.at,Tryz.func386,base,Tryz.f386]
 rw [e]
 refine LoneTo.goes (n:=16) ?_
 simp only [Tryz.f386,Option.getD_some]
 s_c stepG_seq
 s_reg
 s_op
 s_op
 s_c stepG_region_end
 s_c stepG_seq
 s_c stepG_seq
 s_reg
 s_op
 s_op
 s_c stepG_region_end
 s_reg
 s_op
 s_c stepG_region_end
 s_c stepG_seq
 s_reg
 s_stop
 refine LoneTo.step (qoK (c:=c) (z' := .slice none 0 0) (v:=v) (buf:=buf) (cap:=cap) (s:=s) (r:=r) (tm:=tm) (stepG_comm (cases := #[scase c v (.slice none 0 0)]) (blocking:=false) (shape := .select) (w':=w.alloc (.cells #[.chan (some c)] 378)) rfl rfl (by decide) (by simp [go_sem,execOp,scase,Act.eval])) (by rw [heap_alloc_old _ _ hlt];exact hc) hroom) ?_
 rw [Frame.finish_at]
 walk_nrm
 refine LoneTo.goes (n:=9) ?_
 s_op
 s_op
 s_c stepG_region_end
 s_c stepG_block
 s_cond false
 s_c stepG_seq
 s_reg
 s_op
 s_c stepG_region_end
 s_stop
 refine LoneTo.goes (n:=1) ?_
 s_c stepG_ret'
 s_stop
 refine LoneTo.done ⟨.returned (.bool false),_,rfl,⟨rfl,rfl⟩,rfl,rfl,rfl,rfl,_,Tryz.func386,by simp [results,Tryz.f386,Frame.at]⟩
end Yp
namespace Yp
open Go Go.Conc Go.RowKit Go.Proofs
theorem qaL {P:Program} {Q:Goroutine→World→Prop} {f:FuncId} {args:Array Value} {w:World} {R:Ending→World→Prop} (hc:Calls P f args w R) {c:Frame} {cs:List Frame}
  (hno:∀ e w',R e w'→∃ v,e = .returned v) (h:∀ v w',R (.returned v) w'→LoneTo P Q (G (c.finish v) cs) w'):LoneTo P Q (G (Frame.enter P f args .normal) (c :: cs)) w:=by
 obtain ⟨e,w',fr,hR,hs,hf,hl⟩:=hc (c :: cs)
 obtain ⟨v,rfl⟩:=hno e w' hR
 obtain ⟨g',w'',hs2,hq⟩:=h v w' hR
 exact ⟨g',w'',Steps.trans hs (Steps.head (step_leave_returned hl) hs2),hq⟩
theorem qzO {Q':List Item→Prop} {I:List Item} (h:∀ J,J=I→Q' J):Q' I:=h I rfl
structure qd1 (w w':World) (c cap:Nat) (buf:Array Value):Prop where
 os:w'.os=w.os
 tape:w'.tape=w.tape
 output:w'.output=w.output
 size:w.heap.size≤w'.heap.size
 other:∀ b,b < w.heap.size→b≠c→w'.heap[b]? = w.heap[b]?
 ch:∃ s r,w'.heap[c]? = some (.chan cap buf false s r false)
theorem qd1.trans {w w1 w2:World} {c cap:Nat} {b1 b2:Array Value} (h:qd1 w w1 c cap b1) (h':qd1 w1 w2 c cap b2):qd1 w w2 c cap b2 :=
 ⟨h'.os.trans h.os,h'.tape.trans h.tape,h'.output.trans h.output,Nat.le_trans h.size h'.size,fun b hb hn=>(h'.other b (Nat.lt_of_lt_of_le hb h.size) hn).trans (h.other b hb hn),h'.ch⟩
theorem qhE {w:World} {o:Obj} {c cap s r:Nat} {buf:Array Value} (hc:w.heap[c]? = some (.chan cap buf false s r false)):qd1 w (w.alloc o) c cap buf:=by
 have hlt:c < w.heap.size:=(Array.getElem?_eq_some_iff.1 hc).1
 exact ⟨rfl,rfl,rfl,by rw [qP];exact Nat.le_succ _,fun b hb _=>heap_alloc_old w o hb,s,r,by rw [heap_alloc_old w o hlt];exact hc⟩
theorem quS {w:World} {c cap s r s' r':Nat} {buf buf':Array Value} (hc:w.heap[c]? = some (.chan cap buf false s r false)):qd1 w (w.setChan c cap buf' false s' r' false) c cap buf':=by
 have hlt:c < w.heap.size:=(Array.getElem?_eq_some_iff.1 hc).1
 refine ⟨rfl,rfl,rfl,by rw [size_setChan];exact Nat.le_refl _,fun b hb hn => ?_,s',r',heap_setChan w c cap buf' false s' r' false hlt⟩
 show (w.heap.setIfInBounds c _)[b]? = _
 rw [Array.getElem?_setIfInBounds_ne (fun e=>hn e.symm)]
theorem qHp {w:World} {c cap:Nat} {buf:Array Value} {v:Value} (hc:∃ s r,w.heap[c]? = some (.chan cap buf false s r false)) (hroom:buf.size < cap) :
  Calls Tryz.prog 386 #[.agg #[.chan (some c)],v] w fun e w'=>e = .returned (.bool true)∧qd1 w w' c cap (buf.push v):=by
 obtain ⟨s,r,hc⟩:=hc
 refine (qHo hc hroom).mono fun e w' h=>⟨h.1, ?_⟩
 rw [h.2]
 have h1:=qhE (o := .cells #[.chan (some c)] 378) hc
 obtain ⟨s1,r1,h2⟩:=h1.ch
 exact h1.trans (quS h2)
theorem qHq {w:World} {c cap:Nat} {buf:Array Value} {v:Value} (hc:∃ s r,w.heap[c]? = some (.chan cap buf false s r false)) (hfull:¬ buf.size < cap) :
  Calls Tryz.prog 386 #[.agg #[.chan (some c)],v] w fun e w'=>e = .returned (.bool false)∧qd1 w w' c cap buf:=by
 obtain ⟨s,r,hc⟩:=hc
 refine (qHr hc hfull).mono fun e w' h=>⟨h.1, ?_⟩
 rw [h.2]
 exact qhE hc
theorem quT {w w':World} {a:Addr} (h:w'.heap[a.block]? = w.heap[a.block]?):w'.cell? a=w.cell? a:=by unfold World.cell?; rw [h]
theorem qEB {x:Int} (h1 : -9223372036854775808≤x) (h2:x≤9223372036854775807):IntKind.i64.wrap x=x:=qCo .i64 x h1 h2
set_option maxRecDepth 100000 in
theorem qzT {w:World} {c cap n cp:Nat} {a:Option Addr} {buf:Array Value} (hc:∃ s r,w.heap[c]? = some (.chan cap buf false s r false)) (hn:n≤9223372036854775807) (hroom:buf.size≤cap) {pt:Nat→Addr} {val:Nat→Value} (hix:∀ i,i < n→∀ w1:World,(Instr.indexAt 35 (.slice a n cp) (.int .i64 i)).run Tryz.prog w1 = .ok (.pointer (some (pt i))) w1)
  (hcell:∀ i,i < n→w.cell? (pt i)=some (val i)) (hpt:∀ i,i < n→(pt i).block < w.heap.size∧(pt i).block≠c) :
  Calls Tryz.prog 355 #[.agg #[.chan (some c)], .slice a n cp] w fun e w'=>e = .returned (.int .i64 (min n (cap - buf.size):Nat))∧qd1 w w' c cap (buf++((List.range (min n (cap - buf.size))).map val).toArray):=by
 have hclt:c < w.heap.size:=by obtain ⟨s,r,hc⟩:=hc;exact (Array.getElem?_eq_some_iff.1 hc).1
 refine calls_of_loneTo fun cs => ?_
 have e:Frame.enter Tryz.prog 355 #[.agg #[.chan (some c)], .slice a n cp] .normal=(base 355).at ⟨#[.agg #[.chan (some c)], .slice a n cp,undef,undef,undef,undef,undef,undef,undef,undef,undef,undef,undef,undef,undef,undef,undef,undef,undef,undef,undef,undef],[]⟩ [.code (Tryz.f355.body.getD .skip)]:=by
  simp [Frame.enter,Frame.at,Tryz.func355,base,Tryz.f355]
 rw [e]
 refine LoneTo.goes (n:=16) ?_
 simp only [Tryz.f355,Option.getD_some]
 s_c stepG_seq
 s_reg
 s_op
 s_op
 s_c stepG_region_end
 s_c stepG_seq
 s_c stepG_seq
 s_reg
 s_op
 s_op
 s_op
 s_c stepG_region_end
 s_c stepG_block
 s_c stepG_loop
 s_stop
 have hwb:qd1 w (w.alloc (.cells #[.chan (some c)] 378)) c cap buf:=by obtain ⟨s,r,hc⟩:=hc;exact qhE hc
 have hbox:(w.alloc (.cells #[.chan (some c)] 378)).heap[w.heap.size]? = some (.cells #[.chan (some c)] 378):=heap_alloc_new _ _
 have hsz:(w.alloc (.cells #[.chan (some c)] 378)).heap.size=w.heap.size+1:=qP _ _
 generalize w.alloc (.cells #[.chan (some c)] 378)=wb at hwb hbox hsz
 refine qzO (Q':=fun J=>LoneTo _ _ (G ((base 355).at _ J) _) _) ?_
 intro J hJ
 have key:∀ (k i:Nat) (w1:World) (t5 t6 u0 u1 u2 u3 u4 u5 u6 u7 u8 u9 ua ub:Value),i+k=n→buf.size+i≤cap→qd1 wb w1 c cap (buf++((List.range i).map val).toArray)→LoneTo Tryz.prog (fun g' w'=>∃ e fr,g'=G fr cs∧(e = .returned (.int .i64 (min n (cap - buf.size):Nat))∧qd1 w w' c cap (buf++((List.range (min n (cap - buf.size))).map val).toArray))∧fr.fn=355∧fr.leaving Tryz.prog w' e) (G ((base 355).at ⟨#[.agg #[.chan (some c)], .slice a n cp, .pointer (some ⟨w.heap.size,0,none⟩),undef, .int .i64 0,t5,t6, .slice a n cp, .int .i64 n, .int .i64 i,u0,u1,u2,u3,u4,u5,u6,u7,u8,u9,ua,ub],[]⟩ J) cs) w1:=by
  intro k
  induction k with
  | zero =>
   intro i w1 t5 t6 u0 u1 u2 u3 u4 u5 u6 u7 u8 u9 ua ub hk hle hw1
   obtain rfl:i=n:=by omega
   rw [hJ]
   refine LoneTo.goes (n:=14) ?_
   s_c stepG_seq
   s_reg
   s_op
   s_c stepG_region_end
   s_c stepG_seq
   s_cond false
   s_exit
   s_c stepG_seq
   s_reg
   s_op
   s_op
   s_op
   s_c stepG_region_end
   s_c stepG_ret'
   s_stop
   have hm:min i (cap - buf.size)=i:=by omega
   rw [hm]
   exact LoneTo.done ⟨.returned (.int .i64 i),_,rfl,⟨rfl,hwb.trans hw1⟩,rfl,rfl,rfl,rfl,_,Tryz.func355,by simp [results,Tryz.f355,Frame.at]⟩
  | succ k ih =>
   intro i w1 t5 t6 u0 u1 u2 u3 u4 u5 u6 u7 u8 u9 ua ub hk hle hw1
   have hlt:i < n:=by omega
   have hi:=hix i hlt
   have hp:=hpt i hlt
   have hcl:w1.cell? (pt i)=some (val i):=by
    rw [← hcell i hlt]
    exact quT ((hw1.other _ (by omega) hp.2).trans (hwb.other _ hp.1 hp.2))
   have hbx:w1.heap[w.heap.size]? = some (.cells #[.chan (some c)] 378):=(hw1.other _ (by omega) (by omega)).trans hbox
   have hbc:w1.cell? ⟨w.heap.size,0,none⟩=some (.chan (some c)):=by simp [World.cell?,hbx]
   rw [hJ]
   refine LoneTo.goes (n:=22) ?_
   s_c stepG_seq
   s_reg
   s_op
   s_c stepG_region_end
   s_c stepG_seq
   s_cond true
   s_c stepG_skip
   s_c stepG_seq
   s_c stepG_block
   s_c stepG_seq
   s_reg
   s_op
   s_op
   s_op
   s_op
   s_op
   s_c stepG_region_end
   s_c stepG_seq
   s_reg
   s_op
   s_op
   s_in
   refine goes_call rfl rfl (by decide) rfl Tryz.func386 (by kernel_rfl) rfl ⟨trivial, ?_⟩
   walk_nrmf Tryz.f386
   s_stop
   have he:Frame.enter Tryz.prog 386 #[.agg #[.chan (some c)],val i] .normal=(base 386).at ⟨#[.agg #[.chan (some c)],val i,undef,undef,undef,undef,undef,undef,undef,undef,undef],[]⟩ [.code (Tryz.f386.body.getD .skip)]:=by
    simp [Frame.enter,Frame.at,Tryz.func386,base,Tryz.f386]
   simp only [Tryz.f386,Option.getD_some] at he
   rw [← he]
   have hbs:(buf++((List.range i).map val).toArray).size=buf.size+i:=by simp
   by_cases hroom':(buf++((List.range i).map val).toArray).size < cap
   ·refine qaL (qHp hw1.ch hroom') (fun e w' h=>⟨_,h.1⟩) (fun v w' h => ?_)
    obtain ⟨hv,hw2⟩:=h
    cases hv
    rw [Frame.finish_at]
    walk_nrm
    refine LoneTo.goes (n:=14) ?_
    s_op
    s_c stepG_region_end
    s_cond false
    s_c stepG_skip
    s_c stepG_inBlock
    s_reg
    s_op
    s_op
    s_c stepG_region_end
    s_c stepG_inLoop
    s_stop
    rw [qEB (by omega) (by omega)]
    have hpush:(buf++((List.range i).map val).toArray).push (val i)=buf++((List.range (i+1)).map val).toArray:=by
     apply Array.ext'
     simp [List.range_succ]
    rw [hpush] at hw2
    have:=ih (i+1) w' (.int .i64 i) (val i) (.bool true) (.int .i64 i) (.pointer (some (pt i))) (val i) (.agg #[.chan (some c)]) (val i) (.bool true) (.bool false) u8 (.int .i64 ((i+1:Nat):Int)) ua ub (by omega) (by omega) (hw1.trans hw2)
    rw [hJ] at this
    exact this
   ·refine qaL (qHq hw1.ch hroom') (fun e w' h=>⟨_,h.1⟩) (fun v w' h => ?_)
    obtain ⟨hv,hw2⟩:=h
    cases hv
    rw [Frame.finish_at]
    walk_nrm
    refine LoneTo.goes (n:=14) ?_
    s_op
    s_c stepG_region_end
    s_cond true
    s_c stepG_seq
    s_reg
    s_op
    s_op
    s_c stepG_region_end
    s_c stepG_ret'
    s_stop
    have hm:min n (cap - buf.size)=i:=by omega
    rw [hm]
    exact LoneTo.done ⟨.returned (.int .i64 i),_,rfl,⟨rfl,hwb.trans (hw1.trans hw2)⟩,rfl,rfl,rfl,rfl,_,Tryz.func355,by simp [results,Tryz.f355,Frame.at]⟩
 have:=key n 0 wb undef undef undef undef undef undef undef undef undef undef undef undef undef undef (by omega) (by omega) (by
  have:buf++((List.range 0).map val).toArray=buf:=by simp
  rw [this]
  obtain ⟨s,r,h⟩:=hwb.ch
  exact ⟨rfl,rfl,rfl,Nat.le_refl _,fun _ _ _=>rfl,s,r,h⟩)
 exact this
theorem qJ4:∃ i,Tryz.prog.info? 22=some i∧i.bytes=24:=by
 have h:(Tryz.prog.info? 22).map (·.bytes)=some 24:=by kernel_rfl
 obtain ⟨i,hi,hb⟩:=Option.map_eq_some_iff.1 h
 exact ⟨i,hi,hb⟩
theorem mkc (n:Nat) (hn:n≤64) (w:World):(Instr.makeChan 376 (.int .i64 n)).run Tryz.prog w = .ok (.chan (some w.heap.size)) (w.alloc (.chan n #[] false 0 0 false)):=by
 obtain ⟨i,hi,hb⟩:=qJ4
 simpa using run_makeChan (P:=Tryz.prog) (w:=w) Tryz.underlying376 hi .i64 n (by omega) (by rw [hb];omega)
set_option maxRecDepth 100000 in
theorem qEu {w:World} {n:Nat} (hn:n≤64) :
  Calls Tryz.prog 354 #[.int .i64 n] w fun e w'=>e = .returned (.agg #[.chan (some (w.heap.size+1))])∧w'.os=w.os∧w'.tape=w.tape∧w'.output=w.output∧w'.heap.size=w.heap.size+2∧(∀ b,b < w.heap.size→w'.heap[b]? = w.heap[b]?)∧w'.heap[w.heap.size+1]? = some (.chan n #[] false 0 0 false):=by
 refine calls_of_loneTo fun cs => ?_
 have e:Frame.enter Tryz.prog 354 #[.int .i64 n] .normal=(base 354).at ⟨#[.int .i64 n,undef,undef,undef,undef,undef],[]⟩ [.code (Tryz.f354.body.getD .skip)]:=by
  simp [Frame.enter,Frame.at,Tryz.func354,base,Tryz.f354]
 rw [e]
 have hmc:=mkc n hn
 refine LoneTo.goes (n:=16) ?_
 simp only [Tryz.f354,Option.getD_some]
 s_c stepG_seq
 s_reg
 s_op
 s_c stepG_region_end
 s_c stepG_seq
 s_reg
 s_op
 s_op
 s_op
 s_op
 s_c stepG_region_end
 s_c stepG_ret'
 s_stop
 have hw:((w.alloc (.cells #[.chan (some (w.heap.size+1))] 378)).alloc (.chan n #[] false 0 0 false)).heap[w.heap.size]? = some (.cells #[.chan (some (w.heap.size+1))] 378):=by
  rw [heap_alloc_old _ _ (by rw [qP];omega)];exact heap_alloc_new _ _
 have hbc:((w.alloc (.cells #[.chan (some (w.heap.size+1))] 378)).alloc (.chan n #[] false 0 0 false)).cell? ⟨w.heap.size,0,none⟩=some (.chan (some (w.heap.size+1))):=by simp [World.cell?,hw]
 refine LoneTo.done ⟨.returned (.agg #[.chan (some (w.heap.size+1))]),_,rfl,⟨rfl,rfl,rfl,rfl, ?_, ?_, ?_⟩,rfl,rfl,rfl,rfl,_,Tryz.func354, ?_⟩
 ·rw [qP,qP]
 ·intro b hb
  rw [heap_alloc_old _ _ (by rw [qP];omega),heap_alloc_old _ _ hb]
 ·have:=heap_alloc_new (w.alloc (.cells #[.chan (some (w.heap.size+1))] 378)) (.chan n #[] false 0 0 false)
  rw [qP] at this
  exact this
 ·generalize ((w.alloc (.cells #[.chan (some (w.heap.size+1))] 378)).alloc (.chan n #[] false 0 0 false))=w2 at hbc
  simp only [results,Tryz.f354,Frame.at]
  go_simp
end Yp
namespace Yp
open Go Go.Proofs
def qxK (w1:World) (lo c:Nat) (vals:Array Value) (m:Nat) (sv:Value):Prop :=
 ∃ b cp arr,sv = .slice (some ⟨b,0,none⟩) m cp∧w1.heap[b]? = some (.cells arr 22)∧m≤cp∧cp≤maxLen∧arr.size=cp∧(∀ j,j < m→arr[j]? = vals[j]?)∧lo≤b∧b≠c
theorem qK8:∃ i,Tryz.prog.info? 22=some i∧i.size=1∧i.bytes=24∧i.zero=some (.slice none 0 0):=by
 have h:(Tryz.prog.info? 22).map (fun i=>(i.size,i.bytes,i.zero))=some (1,24,some (.slice none 0 0)):=by kernel_rfl
 obtain ⟨i,hi,hb⟩:=Option.map_eq_some_iff.1 h
 simp only [Prod.mk.injEq] at hb
 exact ⟨i,hi,hb.1,hb.2.1,hb.2.2⟩
structure qLy (w w':World) (lo c:Nat):Prop where
 os:w'.os=w.os
 tape:w'.tape=w.tape
 output:w'.output=w.output
 size:w.heap.size≤w'.heap.size
 other:∀ b,b < w.heap.size→(b < lo∨b=c)→w'.heap[b]? = w.heap[b]?
theorem app1 {w1:World} {lo c m:Nat} {vals:Array Value} {sv v:Value} (h:qxK w1 lo c vals m sv) {nb:Nat} (hn:w1.heap[nb]? = some (.cells #[v] 22)) (hv:vals[m]? = some v) (hm:m+1≤64) (hone:v.oneCell'=true) (hlo:lo≤w1.heap.size) (hc:c < w1.heap.size) :
  ∃ sv' w2,(Builtin.append_ #[35,35] 35 #[sv, .slice (some ⟨nb,0,none⟩) 1 1]).run Tryz.prog w1 = .ok sv' w2∧qxK w2 lo c vals (m+1) sv'∧qLy w1 w2 lo c:=by
 obtain ⟨b,cp,arr,rfl,hb,hmc,hcm,hsz,hvals,hlb,hbc⟩:=h
 obtain ⟨i,hi,i1,i2,i3⟩:=qK8
 have ht:=Tryz.underlying35
 have hx:Sup Tryz.prog w1 i.size 1 (.slice (some ⟨nb,0,none⟩) 1 1) [v]:=by
  refine ⟨fun _=>rfl,fun w' hw => ?_⟩
  simp only [Builtin.firstCells]
  have:=kA (P:=Tryz.prog) (w:=w') (b:=nb) (o:=0) (n:=1) (by rw [hw];exact hn) (by simp)
  rw [i1]
  simpa [seg] using this
 by_cases hroom:m+1≤cp
 ·obtain ⟨w2,hr,c',hp,hl⟩:=qkR (P:=Tryz.prog) (w:=w1) (ty:=35) ht ht (.inr ⟨22,rfl⟩) hi hx (b:=b) (o:=0) (sLen:=m) (sCap:=cp) hroom hb (.inl rfl) (by rw [i1];simp;omega) (by simpa using hone)
  refine ⟨_,w2,hr,⟨b,cp,c',rfl,hp.here,hroom,hcm, ?_, ?_,hlb,hbc⟩,⟨hp.os,hp.tape,hp.output,by rw [hp.size];exact Nat.le_refl _,fun b' hb' hn'=>hp.other b' (by rintro rfl;rcases hn' with q | q <;> omega)⟩⟩
  ·have h1:=congrArg List.length hl
   rw [vK (by rw [i1];simp;omega)] at h1
   simpa [hsz] using h1
  ·intro j hj
   have h1:c'[j]? = c'.toList[j]? := by simp
   rw [h1,hl,v9 (by rw [i1];simp;omega),i1]
   by_cases q:j < m
   ·rw [if_pos (by omega)]
    have:=hvals j q
    simpa using this
   ·obtain rfl:j=m:=by omega
    rw [if_neg (by omega),if_pos (by simp),hv]
    simp
 ·have ho:Sup Tryz.prog w1 i.size m (.slice (some ⟨b,0,none⟩) m cp) (seg arr 0 m):=by
   refine ⟨fun _=>rfl,fun w' hw => ?_⟩
   simp only [Builtin.firstCells]
   rw [i1,Nat.mul_one]
   exact kA (P:=Tryz.prog) (w:=w') (b:=b) (o:=0) (n:=m) (by rw [hw];exact hb) (by omega)
  have hr:=qb5 (P:=Tryz.prog) (w:=w1) (ty:=35) ht ht (.inr ⟨22,rfl⟩) hi i3 hx (ad:=some ⟨b,0,none⟩) (sLen:=m) (sCap:=cp) ho (by omega) (by unfold maxLen;omega) (by rw [i2];omega)
  have hge:=grownCap_ge w1 (m+1) cp 22
  have hcm:=grownCap_le_maxLen w1 (m+1) cp 22 (by unfold maxLen;omega)
  refine ⟨_,_,hr,⟨w1.heap.size,_,_,rfl,vJ w1.drew _,hge,hcm, ?_, ?_,hlo,by omega⟩,⟨rfl,rfl,rfl,by rw [qP];exact Nat.le_succ _,fun b' hb' _=>vI w1.drew _ b' hb'⟩⟩
  ·rw [Array.size_append,size_zeroCells]
   simp only [Array.size_append,List.size_toArray,List.length_singleton,jD (show 0+m≤arr.size by omega)]
   simp [Value.cells]
   omega
  ·intro j hj
   have hsl:(seg arr 0 m).length=m:=jD (by omega)
   by_cases q:j < m
   ·rw [Array.getElem?_append_left (by simp [hsl];omega),Array.getElem?_append_left (by simp [hsl];omega)]
    rw [List.getElem?_toArray,qd8 q,Nat.zero_add]
    exact hvals j q
   ·obtain rfl:j=m:=by omega
    rw [Array.getElem?_append_left (by simp [hsl]),Array.getElem?_append_right (by simp [hsl]),hv]
    simp [hsl]
end Yp