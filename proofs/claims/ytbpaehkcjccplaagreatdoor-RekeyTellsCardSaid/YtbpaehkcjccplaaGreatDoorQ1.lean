/- A part of the proof of the statements of this seat: plain functions, and laws on them. No condition of its own. -/
import Derived.Test.YtbpaehkcjccplaaGreatDoorQ0
import Derived.RangeFuncNested
import Derived.Test.YtbpaehkcjccplaaGreatDoorProg
set_option linter.unusedVariables false
set_option linter.unusedSimpArgs false
namespace Yp
open Go
theorem qnY {σ ρ β:Type} {k:Nat} {y:σ} {kn:σ→Option β} {ke:Nat→σ→Option β} {kr:ρ→Option β}:lc (some (.ex k y)) kn ke kr=ke k y:=rfl
theorem qGU {α:Type} {c:Bool} {a b:α}:sel c (some a) (some b)=some (sel c a b):=by cases c <;> rfl
theorem qLg {α:Type} {c:Bool} {a:α}:sel c a a=a:=by cases c <;> rfl
theorem ql8 {σ ρ:Type} {f:σ→Option (LS σ ρ)} (st:Nat→σ) (n:Nat) (p:Nat→Prop) (r:Nat→LS σ ρ) (k:Nat) (hr:∀ i,match r i with | .nx _=>False | _=>True) (hs:∀ i,i < n→p i→f (st i)=some (.nx (st (i+1)))) (hb:∀ i,i < n→¬ p i→f (st i)=some (r i)) (he:f (st n)=some (.ex k (st n))) :
  ((∀ i,i < n→p i)∧loop f (st 0)=some (.ex k (st n)))∨∃ i,i < n∧(∀ j,j < i→p j)∧¬ p i∧loop f (st 0)=some (r i):=by
 by_cases h:∀ i,i < n→p i
 ·refine .inl ⟨h, ?_⟩
  rw [qN st n (fun i hi=>hs i hi (h i hi)) 0 (Nat.zero_le _)]
  exact qT he
 ·refine .inr ?_
  have hex:∃ i,i < n∧¬ p i:=Classical.byContradiction fun hc=>h fun i hi=>Classical.byContradiction fun hp=>hc ⟨i,hi,hp⟩
  obtain ⟨k,hk,hp⟩:=hex
  induction k using Nat.strongRecOn with
  | _ k ih =>
   by_cases hl:∃ j,j < k∧¬ p j
   ·obtain ⟨j,hj,hpj⟩:=hl
    exact ih j hj (by omega) hpj
   ·have hall:∀ i,i < k→p i:=fun i hi=>Classical.byContradiction fun hp=>hl ⟨i,hi,hp⟩
    refine ⟨k,hk,hall,hp, ?_⟩
    rw [qN st k (fun i hi=>hs i (by omega) (hall i hi)) 0 (Nat.zero_le _)]
    have:=hb k hk hp
    have hrk:=hr k
    generalize r k=x at *
    cases x with
    | nx y=>exact hrk.elim
    | ex j y=>exact qT this
    | rt y=>exact qc2 this
def frows:List (List Int):=[[1,2,25],[1,3,22,49,70],[1,4,13,14,18],[1,6,3,11,12,15],[1,10,7],[1,12,4],[1,16,53],[1,42,90],[2,19,2],[2,11,32,100],[3,12,37],[3,6,38],[3,2,39],[3,8,41],[3,15,42],[3,42,95],[4,37,35],[4,28,102],[5,400,48],[5,120,54],[6,8,52,64,96,128],[7,255,55],[7,400,127]]
def frow (i:Nat):List Int:=nth frows i (none' Int)
def zD (no:Int):Option (Int×Int):=(frows.find? fun r=>(r.drop 2).contains no).map fun r=>(nth r 0 0,nth r 1 0)
def fr (o:Option (Int×Int)):(Int×Int×Unit)×Bool×Unit:=match o with | some (k,l)=>((k,l,()),true,()) | none=>((0,0,()),false,())
theorem qy5 (l:List Int) (n:Int) (hl:l.length≤1000000):qlW (l,n,())=some (l.contains n,()):=by
 unfold qlW
 generalize hf:(fun (x_1:Bool×Int×Unit)=>_)=f
 have key:=ql8 (f:=f) (fun i=>(false,(i:Int),())) l.length (fun i=>¬ nth l i 0=n) (fun _ => .rt (true,())) 0 (fun _=>trivial) ?_ ?_ ?_
 ·rcases key with ⟨h,hr⟩ | ⟨i,hi,_,hp,hr⟩
  ·refine (qZ hr).trans ?_
   have:l.contains n=false:=by
    rw [List.contains_eq_mem,decide_eq_false_iff_not]
    intro hm
    obtain ⟨i,hi,rfl⟩:=List.getElem_of_mem hm
    exact h i hi (qL hi)
   rw [this];rfl
  ·refine (qZ hr).trans ?_
   have:l.contains n=true:=by
    rw [List.contains_eq_mem,decide_eq_true_eq,← Classical.not_not.1 hp,qL hi];exact List.getElem_mem hi
   rw [this];rfl
 ·intro i hi hp
  subst hf
  refine (qE (qoZ.trans (decide_eq_true hi))).trans ?_
  refine (qH (zE hi)).trans ?_
  refine (qB (wD hp)).trans ?_
  have c:i64 (iadd (i:Int) 1)=((i+1:Nat):Int):=zP (b:=1) (by omega)
  simp only [c]
 ·intro i hi hp
  subst hf
  refine (qE (qoZ.trans (decide_eq_true hi))).trans ?_
  refine (qH (zE hi)).trans ?_
  exact qE (qaD (Classical.not_not.1 hp))
 ·subst hf
  exact qB (lt_f (by simp only [len];omega))
theorem qw3 {α:Type} {p:α→Bool}:∀ {l:List α} {i:Nat} (h:i < l.length),(∀ j (hj:j < i),p (l[j]'(by omega))=false)→p l[i]=true→l.find? p=some l[i]
 | a :: r,0,_,_,h=>by simp only [List.getElem_cons_zero] at h ⊢; exact List.find?_cons_of_pos h
 | a :: r,i+1,hi,hj,h=>by
  rw [List.find?_cons_of_neg (by have:=hj 0 (by omega);simp only [List.getElem_cons_zero] at this;rw [this];exact Bool.false_ne_true)]
  simp only [List.getElem_cons_succ] at h ⊢
  exact qw3 (by simpa using hi) (fun j hj'=>by have:=hj (j+1) (by omega);simpa using this) h
theorem qaN (no:Int):qfA (no,())=some (fr (zD no)):=by
 unfold qfA
 generalize hf:(fun (x_1:Bool×Int×Unit)=>_)=f
 have hlen:∀ i,i < 23→3≤(frow i).length∧(frow i).length≤10:=by decide
 have hin:∀ i,i < 23→qlW (sub (frow i) 2 (len (frow i)),no,())=some (((frow i).drop 2).contains no,()):=by
  intro i hi
  have:=hlen i hi
  rw [qy5 _ _ (by simp only [sub,List.length_take,List.length_drop];omega)]
  have:sub (frow i) 2 (len (frow i))=(frow i).drop 2:=by
   simp only [sub,len]
   rw [List.take_of_length_le (by simp)];rfl
  rw [this]
 have key:=ql8 (f:=f) (fun i=>(false,(i:Int),())) 23 (fun i=>((frow i).drop 2).contains no=false) (fun i => .rt ((nth (frow i) 0 0,nth (frow i) 1 0,()),true,())) 0 (fun _=>trivial) ?_ ?_ ?_
 ·have hn:∀ i,(h:i < 23)→frows[i]'(by exact h)=frow i:=fun i h=>(qL (d:=none' Int) (by exact h)).symm
  rcases key with ⟨h,hr⟩ | ⟨i,hi,hj,hp,hr⟩
  ·refine (qZ hr).trans ?_
   have:zD no=none:=by
    unfold zD
    rw [Option.map_eq_none_iff,List.find?_eq_none]
    intro r hm
    obtain ⟨i,hi,rfl⟩:=List.getElem_of_mem hm
    rw [hn i hi,h i hi];exact Bool.false_ne_true
   rw [this];rfl
  ·refine (qZ hr).trans ?_
   have:zD no=some (nth (frow i) 0 0,nth (frow i) 1 0):=by
    unfold zD
    have hfi:frows.find? (fun r=>(r.drop 2).contains no)=some (frows[i]'(by exact hi)):=qw3 (l:=frows) (p:=fun (r:List Int)=>(r.drop 2).contains no) hi (fun j hj'=>(congrArg (fun (r:List Int)=>(r.drop 2).contains no) (hn j (by omega))).trans (hj j hj')) ((congrArg (fun (r:List Int)=>(r.drop 2).contains no) (hn i hi)).trans ((Bool.not_eq_false _).mp hp))
    rw [hfi,hn i hi];rfl
   rw [this];rfl
 ·intro i hi hp
  subst hf
  have h:=hlen i hi
  refine (qE (qoZ (b:=23).trans (decide_eq_true hi))).trans ?_
  refine (qH (zE (n:=23) hi)).trans ?_
  refine (qH (show inC 2 (len (frow i)) (len (frow i))=true from qzP (by omega) (by simp only [len];omega) (by omega))).trans ?_
  refine (qF (hin i hi)).trans ?_
  refine (qB hp).trans ?_
  have c:i64 (iadd (i:Int) 1)=((i+1:Nat):Int):=zP (b:=1) (by omega)
  simp only [c]
 ·intro i hi hp
  subst hf
  have h:=hlen i hi
  refine (qE (qoZ (b:=23).trans (decide_eq_true hi))).trans ?_
  refine (qH (zE (n:=23) hi)).trans ?_
  refine (qH (show inC 2 (len (frow i)) (len (frow i))=true from qzP (by omega) (by simp only [len];omega) (by omega))).trans ?_
  refine (qF (hin i hi)).trans ?_
  refine (qE ((Bool.not_eq_false _).mp hp)).trans ?_
  repeat refine (qH (zE (n:=23) hi)).trans ?_
  repeat first
   | refine (qH (show inB 0 (len (frow i))=true from qPh (by omega) (by simp only [len];omega))).trans ?_
   | refine (qH (show inB 1 (len (frow i))=true from qPh (by omega) (by simp only [len];omega))).trans ?_
   | refine (qH (zE (n:=23) hi)).trans ?_
  rfl
 ·subst hf
  exact qB (lt_f (by simp only [len];decide))
def fnums:List Int:=frows.flatMap fun r=>r.drop 2
noncomputable def lg (k no:Int):Int:=match y4 (k,no,()) with | some (a,())=>a | none=>0
theorem qmI (no:Int):∃ a,yE (no,())=some (a,()):=by
 unfold yE
 simp only [qGU]
 exact ⟨_,rfl⟩
theorem qtI (k no:Int):y4 (k,no,())=some (lg k no,()):=by
 have:∃ a,y4 (k,no,())=some (a,()):=by
  unfold y4
  obtain ⟨a,ha⟩:=qmI no
  simp only [ha,ob_s,qGU]
  exact ⟨_,rfl⟩
 obtain ⟨a,ha⟩:=this
 unfold lg;rw [ha]
noncomputable def qIc (no:Int):Option (Int×Int):=if 0 < lg 1 no then some (1,lg 1 no) else if 0 < lg 2 no then some (2,lg 2 no) else if 0 < lg 3 no then some (3,lg 3 no) else if 0 < lg 4 no then some (4,lg 4 no)
 else if 0 < lg 5 no then some (5,lg 5 no) else if 0 < lg 6 no then some (6,lg 6 no) else if 0 < lg 7 no then some (7,lg 7 no) else none
theorem qzZ (no:Int):qfS (no,())=some (fr (qIc no)):=by
 unfold qfS
 generalize hf:(fun (x_1:Bool×Int×Unit)=>_)=f
 have step:∀ k:Nat,k≤7→f (false,(k:Int),())=if 0 < lg k no then some (.rt (((k:Int),lg k no,()),true,())) else some (.nx (false,((k+1:Nat):Int),())):=by
  intro k hk
  subst hf
  refine (qE (le_t (show (k:Int)≤7 by omega))).trans ?_
  refine (qF (qtI _ _)).trans ?_
  have c:i64 (iadd (k:Int) 1)=((k+1:Nat):Int):=zP (b:=1) (by omega)
  simp only [c]
  by_cases h:0 < lg k no
  ·rw [if_pos h];exact qE (lt_t h)
  ·rw [if_neg h];exact qB (lt_f h)
 have last:f (false,((8:Nat):Int),())=some (.ex 0 (false,((8:Nat):Int),())):=by
  subst hf;exact qB (le_f (show ¬ ((8:Nat):Int)≤7 by omega))
 have key:∀ k:Nat,k≤7→lg k no≤0→loop f (false,(k:Int),())=loop f (false,((k+1:Nat):Int),()):=fun k hk h=>x3 (by rw [step k hk,if_neg (by omega)])
 have hit:∀ k:Nat,k≤7→0 < lg k no→loop f (false,(k:Int),())=some (.rt (((k:Int),lg k no,()),true,())):=fun k hk h=>qc2 (by rw [step k hk,if_pos h])
 have:=key 1;have:=key 2;have:=key 3;have:=key 4;have:=key 5;have:=key 6;have:=key 7
 have:=hit 1;have:=hit 2;have:=hit 3;have:=hit 4;have:=hit 5;have:=hit 6;have:=hit 7
 have h8:loop f (false,((8:Nat):Int),())=some (.ex 0 (false,((8:Nat):Int),())):=qT last
 show lc (loop f (false,((1:Nat):Int),())) _ _ _=_
 unfold qIc
 repeat' split
 all_goals
  simp_all
  first | done | rfl
theorem qNB {no:Int} (h:∀ c∈fnums,¬ no=c):∀ k,lg k no=0:=by
 have h':∀ c∈fnums,beq no c=false:=fun c hc=>wD (h c hc)
 have e:fnums=[25,22,49,70,13,14,18,3,11,12,15,7,4,53,90,2,32,100,37,38,39,41,42,95,35,102,48,54,52,64,96,128,55,127]:=by decide
 rw [e] at h'
 simp only [List.mem_cons,List.not_mem_nil,or_false,forall_eq_or_imp,forall_eq] at h'
 intro k
 unfold lg y4 yE
 simp only [h',qA9,ob_s,qLg]
theorem qJF (no:Int):qIc no=zD no:=by
 by_cases h:no∈fnums
 ·exact (by decide +kernel:∀ no∈fnums,qIc no=zD no) no h
 ·have h':∀ c∈fnums,¬ no=c:=fun c hc e=>h (e ▸ hc)
  have e1:qIc no=none:=by simp [qIc,qNB h']
  have e2:zD no=none:=by
   unfold zD
   rw [Option.map_eq_none_iff,List.find?_eq_none]
   intro r hr hc
   rw [List.contains_eq_mem,decide_eq_true_eq] at hc
   exact h (List.mem_flatMap.2 ⟨r,hr,hc⟩)
  rw [e1,e2]
theorem qfR (no:Int):qfS (no,())=some (fr (zD no)):=by rw [qzZ,qJF]
def kinds (k:Int):Prop:=k=1∨k=2∨k=3∨k=4∨k=5∨k=6∨k=7
instance (k:Int):Decidable (kinds k):=by unfold kinds;infer_instance
theorem qaC {no k l:Int} (h:zD no=some (k,l)):kinds k∧1≤l∧l≤400∧(k=2∨k=4→l≤99):=by
 unfold zD at h
 rw [Option.map_eq_some_iff] at h
 obtain ⟨r,hr,he⟩:=h
 have hm:=List.mem_of_find?_eq_some hr
 have:∀ r∈frows,kinds (nth r 0 0)∧1≤nth r 1 0∧nth r 1 0≤400∧(nth r 0 0=2∨nth r 0 0=4→nth r 1 0≤99):=by decide +kernel
 have:=this r hm
 cases he
 exact this
end Yp
namespace Yp
open Go
def rng (lo hi:Int) (v:BB):Prop:=∀ i (h:i < v.length),lo≤n8 v[i]∧n8 v[i]≤hi
instance (lo hi:Int) (v:BB):Decidable (rng lo hi v):=inferInstanceAs (Decidable (∀ (i:Nat) (h:i < v.length),lo≤n8 v[i]∧n8 v[i]≤hi))
theorem okl (lo hi:UInt8) (v:BB) (hl:v.length≤1000000):∃ i,loop (fun (x_1:Bool×Int×Unit) =>
  sel (lt x_1.2.1 (len v)) (ck (inB x_1.2.1 (len v)) (ob (sel (lt (n8 (nth v (nat x_1.2.1) (u8 0))) (n8 lo)) (some (true,())) (some (lt (n8 hi) (n8 (nth v (nat x_1.2.1) (u8 0))),())))
   fun (a:Bool×Unit)=>sel a.1 (some (LS.ex 999999999 (false,x_1.2.1,()))) (some (LS.nx (x_1.1,i64 (iadd x_1.2.1 1),())))))
   (some (LS.ex 0 (x_1.1,x_1.2.1,()):LS (Bool×Int×Unit) Unit))) (false,0,())=some (if rng (n8 lo) (n8 hi) v then .ex 0 (false,i,()) else .ex 999999999 (false,i,())):=by
 generalize hf:(fun (x_1:Bool×Int×Unit)=>_)=f
 have key:=ql8 (f:=f) (fun i=>(false,(i:Int),())) v.length (fun i=>n8 lo≤n8 (nth v i (u8 0))∧n8 (nth v i (u8 0))≤n8 hi) (fun i => .ex 999999999 (false,(i:Int),())) 0 (fun _=>trivial) ?_ ?_ ?_
 ·rcases key with ⟨h,hr⟩ | ⟨i,hi,_,hp,hr⟩
  ·refine ⟨(v.length:Int),hr.trans ?_⟩
   rw [if_pos (show rng (n8 lo) (n8 hi) v from fun i hi=>by have:=h i hi;rwa [qL hi] at this)]
  ·refine ⟨(i:Int),hr.trans ?_⟩
   rw [if_neg (fun (hc:rng (n8 lo) (n8 _) v)=>hp (by have:=hc i hi;rwa [← qL (d:=u8 0) hi] at this))]
 ·intro i hi hp
  subst hf
  refine (qE (qoZ.trans (decide_eq_true hi))).trans ?_
  refine (qH (zE hi)).trans ?_
  have c:i64 (iadd (i:Int) 1)=((i+1:Nat):Int):=zP (b:=1) (by omega)
  simp only [qR,c]
  refine (qF (a:=(false,())) ((qB (lt_f (by omega))).trans (congrArg (fun b=>some (b,())) (lt_f (by omega))))).trans ?_
  rfl
 ·intro i hi hp
  subst hf
  refine (qE (qoZ.trans (decide_eq_true hi))).trans ?_
  refine (qH (zE hi)).trans ?_
  simp only [qR]
  by_cases h:n8 (nth v i (u8 0)) < n8 lo
  ·exact (qF (qE (lt_t h))).trans rfl
  ·exact (qF (a:=(true,())) ((qB (lt_f h)).trans (congrArg (fun b=>some (b,())) (lt_t (by omega))))).trans rfl
 ·subst hf
  exact qB (lt_f (by simp only [len];omega))
def fch (k:Int) (v:BB):Prop:=(k≤2→figs v)∧(k≤5→rng 32 126 v)
def fln (k l:Int) (n:Nat):Prop:=if k=1∨k=3∨k=6 then (n:Int)=l else 1≤n∧(n:Int)≤l
instance (k l:Int) (n:Nat):Decidable (fln k l n):=by unfold fln;infer_instance
def fv (k l:Int) (v:BB):Prop:=fch k v∧fln k l v.length
instance (k l:Int) (v:BB):Decidable (fv k l v):=inferInstanceAs (Decidable (((k≤2→figs v)∧(k≤5→rng 32 126 v))∧fln k l v.length))
theorem qCF (c:UInt8):n8 c=((c.toNat:Nat):Int):=rfl
theorem qLj {v:BB}:rng 48 57 v↔figs v:=by
 unfold rng figs vP
 refine forall_congr' fun i=>forall_congr' fun h => ?_
 rw [qCF];omega
theorem qjE {v:BB} (h:figs v):rng 32 126 v:=fun i hi=>by
 have:=h i hi
 unfold vP at this
 rw [qCF];omega
def cnt (k:Int):Int:=if k=2∨k=4 then 2 else if k=5∨k=7 then 3 else 0
theorem qhU {k:Int} (hk:kinds k):qU (k,())=some (cnt k,()):=by
 rcases hk with rfl | rfl | rfl | rfl | rfl | rfl | rfl <;> rfl
theorem vU {k:Int} (hk:kinds k):yX (k,())=some (cnt k,()):=by
 rcases hk with rfl | rfl | rfl | rfl | rfl | rfl | rfl <;> rfl
theorem qtE {o:Option (Int×Int)} {k l:Int} (h:o=some (k,l)):fr o=((k,l,()),true,()):=by rw [h];rfl
theorem qNP {o:Option (Int×Int)} (h:o=none):fr o=((0,0,()),false,()):=by rw [h];rfl
theorem kB {a b:Bool} (h:a=b):some (a,())=some (b,()):=by rw [h]
def xR (no:Int) (v:BB):Bool:=match zD no with | some (k,l)=>decide (fv k l v) | none=>false
theorem qb0 (no:Int) (v:BB) (hl:v.length≤1000000):qa1 (no,v,())=some (xR no v,()):=by
 unfold qa1 xR
 refine (qF (qfR no)).trans ?_
 cases ho:zD no with
 | none=>exact (qF (a:=(true,())) (qE rfl)).trans rfl
 | some p =>
  obtain ⟨k,l⟩:=p
  rw [qtE rfl]
  obtain ⟨hk,h1,h400,h99⟩:=qaC ho
  by_cases hlen:l < v.length
  ·refine (qF (a:=(true,())) ((qB rfl).trans (kB (lt_t hlen)))).trans ?_
   refine (qE rfl).trans (kB ?_)
   refine (decide_eq_false fun h => ?_).symm
   have:=h.2
   unfold fln at this
   split at this <;> omega
  refine (qF (a:=(false,())) ((qB rfl).trans (kB (lt_f hlen)))).trans ?_
  obtain ⟨i,r1⟩:=okl (u8 48) (u8 57) v hl
  obtain ⟨j,r2⟩:=okl (u8 32) (u8 126) v hl
  have e1:rng (n8 (u8 48)) (n8 (u8 57)) v↔figs v:=qLj
  have e2:rng (n8 (u8 32)) (n8 (u8 126)) v↔rng 32 126 v:=Iff.rfl
  simp only [e1] at r1
  simp only [e2] at r2
  have ht:=qhU hk
  have zz:∀ {c:Bool} {p:Prop} [Decidable p],(c=true↔p)→some (c,())=some (decide p,()):=fun {c p _} h=>kB (Bool.eq_iff_iff.2 (h.trans decide_eq_true_iff.symm))
  refine (qB rfl).trans ?_
  rcases hk with rfl | rfl | rfl | rfl | rfl | rfl | rfl
  ·refine (qE rfl).trans ?_;refine (qE rfl).trans ?_
   refine (qZ r1).trans ?_
   by_cases hf:figs v
   ·rw [if_pos hf]
    refine qnY.trans ?_
    refine (qB rfl).trans ?_;refine (qH rfl).trans ?_
    refine (qZ r2).trans ?_
    rw [if_pos (qjE hf)]
    refine qnY.trans ?_
    refine (qB rfl).trans ?_;refine (qH rfl).trans ?_
    refine (qF ht).trans ?_
    refine (qB rfl).trans ?_
    refine zz ?_
    simp [beq,len,fv,fln,fch,hf,qjE hf]
   ·rw [if_neg hf]
    refine qnY.trans ?_
    refine (qE rfl).trans ?_;refine (qE rfl).trans ?_
    exact kB (decide_eq_false fun h=>hf (h.1.1 (by omega))).symm
  ·refine (qB rfl).trans ?_;refine (qE rfl).trans ?_
   refine (qZ r1).trans ?_
   by_cases hf:figs v
   ·rw [if_pos hf]
    refine qnY.trans ?_
    refine (qB rfl).trans ?_;refine (qH rfl).trans ?_
    refine (qZ r2).trans ?_
    rw [if_pos (qjE hf)]
    refine qnY.trans ?_
    refine (qB rfl).trans ?_;refine (qH rfl).trans ?_
    refine (qF ht).trans ?_
    refine (qE rfl).trans ?_
    refine zz ?_
    simp [lt,len,fv,fln,fch,hf,qjE hf]
    omega
   ·rw [if_neg hf]
    refine qnY.trans ?_
    refine (qE rfl).trans ?_;refine (qE rfl).trans ?_
    exact kB (decide_eq_false fun h=>hf (h.1.1 (by omega))).symm
  ·refine (qB rfl).trans ?_;refine (qB rfl).trans ?_;refine (qE rfl).trans ?_;refine (qE rfl).trans ?_
   refine (qZ r2).trans ?_
   by_cases hf:rng 32 126 v
   ·rw [if_pos hf]
    refine qnY.trans ?_
    refine (qB rfl).trans ?_;refine (qH rfl).trans ?_
    refine (qF ht).trans ?_
    refine (qB rfl).trans ?_
    refine zz ?_
    simp [beq,len,fv,fln,fch,hf]
   ·rw [if_neg hf]
    refine qnY.trans ?_
    refine (qE rfl).trans ?_;refine (qE rfl).trans ?_
    exact kB (decide_eq_false fun h=>hf (h.1.2 (by omega))).symm
  ·refine (qB rfl).trans ?_;refine (qB rfl).trans ?_;refine (qB rfl).trans ?_;refine (qE rfl).trans ?_
   refine (qZ r2).trans ?_
   by_cases hf:rng 32 126 v
   ·rw [if_pos hf]
    refine qnY.trans ?_
    refine (qB rfl).trans ?_;refine (qH rfl).trans ?_
    refine (qF ht).trans ?_
    refine (qE rfl).trans ?_
    refine zz ?_
    simp [lt,len,fv,fln,fch,hf]
    omega
   ·rw [if_neg hf]
    refine qnY.trans ?_
    refine (qE rfl).trans ?_;refine (qE rfl).trans ?_
    exact kB (decide_eq_false fun h=>hf (h.1.2 (by omega))).symm
  ·refine (qB rfl).trans ?_;refine (qB rfl).trans ?_;refine (qB rfl).trans ?_;refine (qB rfl).trans ?_;refine (qE rfl).trans ?_
   refine (qZ r2).trans ?_
   by_cases hf:rng 32 126 v
   ·rw [if_pos hf]
    refine qnY.trans ?_
    refine (qB rfl).trans ?_;refine (qH rfl).trans ?_
    refine (qF ht).trans ?_
    refine (qE rfl).trans ?_
    refine zz ?_
    simp [lt,len,fv,fln,fch,hf]
    omega
   ·rw [if_neg hf]
    refine qnY.trans ?_
    refine (qE rfl).trans ?_;refine (qE rfl).trans ?_
    exact kB (decide_eq_false fun h=>hf (h.1.2 (by omega))).symm
  ·refine (qB rfl).trans ?_;refine (qB rfl).trans ?_;refine (qB rfl).trans ?_;refine (qB rfl).trans ?_;refine (qB rfl).trans ?_
   refine (qF ht).trans ?_
   refine (qB rfl).trans ?_
   refine zz ?_
   simp [beq,len,fv,fln,fch]
  ·refine (qB rfl).trans ?_;refine (qB rfl).trans ?_;refine (qB rfl).trans ?_;refine (qB rfl).trans ?_;refine (qB rfl).trans ?_
   refine (qF ht).trans ?_
   refine (qE rfl).trans ?_
   refine zz ?_
   simp [lt,len,fv,fln,fch]
   omega
end Yp
namespace Yp
open Go
theorem x7 (k l:Int) (v:BB) (hl:v.length≤1000000):∃ b,j5 ((k,l,()),v,())=some (b,())∧(1≤k→b=decide (fv k l v)):=by
 unfold j5
 generalize hf:(fun (x_1:Bool×Int×Unit)=>_)=f
 have n48:n8 (u8 48)=48:=by decide
 have n57:n8 (u8 57)=57:=by decide
 have n32:n8 (u8 32)=32:=by decide
 have n126:n8 (u8 126)=126:=by decide
 have key:=ql8 (f:=f) (fun i=>(false,(i:Int),())) v.length (fun i=>(k≤2→48≤n8 (nth v i (u8 0))∧n8 (nth v i (u8 0))≤57)∧(3≤k→k≤5→32≤n8 (nth v i (u8 0))∧n8 (nth v i (u8 0))≤126)) (fun i => .rt (false,())) 0 (fun _=>trivial) ?_ ?_ ?_
 ·rcases key with ⟨h,hr⟩ | ⟨i,hi,_,hp,hr⟩
  ·refine ⟨fln k l v.length, ?_,fun hk => ?_⟩
   ·refine (qZ hr).trans ?_
    refine qnY.trans ?_
    refine (qH rfl).trans ?_
    by_cases hk:k=1∨k=3∨k=6
    ·refine (qF (a:=(true,())) ?_).trans ?_
     ·rcases hk with rfl | rfl | rfl
      ·exact qE rfl
      ·exact (qB rfl).trans (qE rfl)
      ·exact (qB rfl).trans ((qB rfl).trans rfl)
     ·refine (qE rfl).trans ?_
      refine kB ?_
      rw [Bool.eq_iff_iff]
      simp only [beq,len,fln,if_pos hk,decide_eq_true_eq,beq_iff_eq]
    ·refine (qF (a:=(false,())) ?_).trans ?_
     ·exact (qB (wD (fun h=>hk (.inl h)))).trans ((qB (wD (fun h=>hk (.inr (.inl h))))).trans (kB (wD (fun h=>hk (.inr (.inr h))))))
     ·refine (qB rfl).trans ?_
      by_cases h1:1≤v.length
      ·refine (qF (qE (le_t (by simp only [len];omega)))).trans ?_
       refine kB ?_
       rw [Bool.eq_iff_iff]
       simp only [le,len,fln,if_neg hk,decide_eq_true_eq];exact (decide_eq_true_iff (p:=(v.length:Int)≤l)).trans ⟨fun h=>⟨h1,h⟩,fun h=>h.2⟩
      ·refine (qF (qB (le_f (by simp only [len];omega)))).trans ?_
       refine kB ?_
       rw [Bool.eq_iff_iff]
       simp only [fln,if_neg hk,decide_eq_true_eq,Bool.false_eq_true,false_iff];omega
   ·have hc:fch k v:=by
     refine ⟨fun h2 i hi => ?_,fun h5 i hi => ?_⟩
     ·have:=(h i hi).1 h2
      rw [qL hi,qCF] at this
      unfold vP;omega
     ·by_cases h2:k≤2
      ·have:=(h i hi).1 h2
       rw [qL hi] at this;omega
      ·have:=(h i hi).2 (by omega) h5
       rw [qL hi] at this;omega
    rw [Bool.eq_iff_iff]
    simp [fv,hc]
  ·refine ⟨false,(qZ hr).trans rfl,fun hk=>(decide_eq_false fun hc=>hp ⟨fun h2 => ?_,fun h3 h5 => ?_⟩).symm⟩
   ·have:=hc.1.1 h2 i hi
    unfold vP at this
    rw [qL hi,qCF];omega
   ·have:=hc.1.2 h5 i hi
    rw [qL hi];omega
 ·intro i hi hp
  subst hf
  refine (qE (qoZ.trans (decide_eq_true hi))).trans ?_
  have c:i64 (iadd (i:Int) 1)=((i+1:Nat):Int):=zP (b:=1) (by omega)
  have ci:inB (i:Int) (len v)=true:=zE hi
  simp only [qR,c,n48,n57,n32,n126,ci]
  refine (qF (a:=(false,())) ?_).trans rfl
  by_cases h2:k≤2
  ·have:=hp.1 h2
   refine (qE (le_t h2)).trans ?_
   refine (qH rfl).trans ?_
   refine (qB (lt_f (by omega))).trans ?_
   refine (qH rfl).trans ?_
   refine (qB (lt_f (by omega))).trans ?_
   exact qB (le_f (show ¬ 3≤k by omega))
  ·refine (qB (le_f h2)).trans ?_
   refine (qE (le_t (show 3≤k by omega))).trans ?_
   by_cases h5:k≤5
   ·have:=hp.2 (by omega) h5
    refine (qE (le_t h5)).trans ?_
    refine (qH rfl).trans ?_
    refine (qB (lt_f (by omega))).trans ?_
    refine (qH rfl).trans ?_
    exact kB (lt_f (by omega))
   ·exact qB (le_f h5)
 ·intro i hi hp
  subst hf
  refine (qE (qoZ.trans (decide_eq_true hi))).trans ?_
  have ci:inB (i:Int) (len v)=true:=zE hi
  simp only [qR,n48,n57,n32,n126,ci]
  refine (qF (a:=(true,())) ?_).trans rfl
  by_cases h2:k≤2
  ·refine (qE (le_t h2)).trans ?_
   refine (qH rfl).trans ?_
   by_cases ha:n8 (nth v i (u8 0)) < 48
   ·exact qE (lt_t ha)
   ·refine (qB (lt_f ha)).trans ?_
    refine (qH rfl).trans ?_
    refine (qE (lt_t ?_)).trans rfl
    refine Classical.byContradiction fun hb=>hp ⟨fun _=>by omega,fun h=>by omega⟩
  ·by_cases h5:k≤5
   ·refine (qB (le_f h2)).trans ?_
    refine (qE (le_t (show 3≤k by omega))).trans ?_
    refine (qE (le_t h5)).trans ?_
    refine (qH rfl).trans ?_
    by_cases ha:n8 (nth v i (u8 0)) < 32
    ·exact qE (lt_t ha)
    ·refine (qB (lt_f ha)).trans ?_
     refine (qH rfl).trans ?_
     refine kB (lt_t ?_)
     refine Classical.byContradiction fun hb=>hp ⟨fun _=>by omega,fun _ _=>by omega⟩
   ·exact absurd ⟨fun h=>absurd h h2,fun _ h=>absurd h h5⟩ hp
 ·subst hf
  exact qB (lt_f (by simp only [len];omega))
theorem qsF (no:Int) (v:BB) (hl:v.length≤1000000):qi2 (no,v,())=some (xR no v,()):=by
 unfold qi2 xR
 refine (qF (qaN no)).trans ?_
 cases ho:zD no with
 | none =>
  rw [qNP rfl]
  obtain ⟨b,hb,_⟩:=x7 0 0 v hl
  refine (qF hb).trans ?_
  exact (qF (qB rfl)).trans rfl
 | some p =>
  obtain ⟨k,l⟩:=p
  rw [qtE rfl]
  obtain ⟨b,hb,h⟩:=x7 k l v hl
  refine (qF hb).trans ?_
  refine (qF (qE rfl)).trans (kB (h ?_))
  have:=(qaC ho).1
  unfold kinds at this;omega
def hdr (k:Int) (n:Nat):BB:=if 0 < cnt k then bcd (pad (ps 10 dch n (cnt k).toNat)) else []
def body (k:Int) (v:BB):BB:=if k≤2 then bcd (pad v) else v
def wrF (k:Int) (v:BB):BB:=hdr k v.length++body k v
def wrD (no:Int) (v:BB):BB×Int×Unit:=match zD no with | none=>([],12,()) | some (k,l)=>if fv k l v then (wrF k v,0,()) else ([],1,())
theorem qIH (p:BB):(bcd p).length=p.length / 2:=by simp [bcd]
theorem zT (p:BB):(bcd (pad p)).length=(p.length+1) / 2:=by rw [qIH,qd6];omega
theorem qkW (k:Int) (v:BB):(body k v).length=if k≤2 then (v.length+1) / 2 else v.length:=by
 unfold body;split
 ·exact zT v
 ·rfl
theorem qKK {k l:Int} {v:BB} (hk:kinds k) (h99:k=2∨k=4→l≤99) (h400:l≤400) (hv:fv k l v) (h0:0 < cnt k):(1≤cnt k∧cnt k≤18)∧(0≤(v.length:Int)∧(v.length:Int) < 10 ^ (cnt k).toNat)∧1≤v.length∧(v.length:Int)≤l:=by
 have:=hv.2
 unfold fln at this
 rcases hk with rfl | rfl | rfl | rfl | rfl | rfl | rfl
 ·exact absurd h0 (by decide)
 ·have h2:(10:Int) ^ (cnt 2).toNat=100:=by decide
  rw [if_neg (by decide)] at this
  rw [h2];exact ⟨by decide,by omega,by omega⟩
 ·exact absurd h0 (by decide)
 ·have h2:(10:Int) ^ (cnt 4).toNat=100:=by decide
  rw [if_neg (by decide)] at this
  rw [h2];exact ⟨by decide,by omega,by omega⟩
 ·have h2:(10:Int) ^ (cnt 5).toNat=1000:=by decide
  rw [if_neg (by decide)] at this
  rw [h2];exact ⟨by decide,by omega,by omega⟩
 ·exact absurd h0 (by decide)
 ·have h2:(10:Int) ^ (cnt 7).toNat=1000:=by decide
  rw [if_neg (by decide)] at this
  rw [h2];exact ⟨by decide,by omega,by omega⟩
theorem qDf {k:Int} (hk:kinds k):cnt k=0∨cnt k=2∨cnt k=3:=by
 unfold cnt;split
 ·simp
 ·split <;> simp
theorem qNk {k:Int} (hk:kinds k):(sel (beq k 1) (some (true,())) (some (beq k 2,())):Option (Bool×Unit))=some (decide (k≤2),()):=by
 rcases hk with rfl | rfl | rfl | rfl | rfl | rfl | rfl <;> rfl
theorem qqE (no:Int) (v:BB) (hl:v.length≤1000000):qbZ (no,v,())=some (wrD no v):=by
 unfold qbZ wrD
 refine (qF (qfR no)).trans ?_
 cases ho:zD no with
 | none=>rfl
 | some p =>
  obtain ⟨k,l⟩:=p
  rw [qtE rfl]
  obtain ⟨hk,h1,h400,h99⟩:=qaC ho
  refine (qB rfl).trans ?_
  refine (qF (qb0 no v hl)).trans ?_
  have hfd:xR no v=decide (fv k l v):=by unfold xR;rw [ho]
  rw [hfd]
  by_cases hv:fv k l v
  rotate_left
  ·rw [decide_eq_false hv]
   refine (qE rfl).trans ?_
   simp only [if_neg hv];rfl
  rw [decide_eq_true hv]
  refine (qB rfl).trans ?_
  simp only [if_pos hv]
  refine (qF (qhU hk)).trans ?_
  have hb:=qNk hk
  have hfig:k≤2→qdA (v,())=some (body k v,0,()):=fun h=>by
   rw [qhY v hl,if_pos (hv.1.1 h)];unfold body;rw [if_pos h]
  have hvl:=qkW k v
  by_cases h0:0 < cnt k
  ·obtain ⟨c1,c2,c3⟩:=qKK hk h99 h400 hv h0
   refine (qE (lt_t h0)).trans ?_
   have hd:kO (len v,cnt k,())=some (ps 10 dch v.length (cnt k).toNat,0,()):=by
    rw [qb3 _ _ (by simp only [len];omega),if_pos ⟨c1.1,c1.2,c2⟩];rfl
   refine (qF hd).trans ?_
   have hbc:qdA (ps 10 dch v.length (cnt k).toNat,())=some (hdr k v.length,0,()):=by
    rw [qhY _ (by rw [zI];omega),if_pos qkP];unfold hdr;rw [if_pos h0]
   refine (qF hbc).trans ?_
   refine (qF hb).trans ?_
   have hhl:(hdr k v.length).length≤10:=by
    unfold hdr;rw [if_pos h0,zT,zI];omega
   by_cases h2:k≤2
   ·refine (qE (decide_eq_true h2)).trans ?_
    refine (qF (hfig h2)).trans ?_
    rw [if_pos h2] at hvl
    exact (qH (rm_t (by simp only [nadd,ln];omega))).trans rfl
   ·refine (qB (decide_eq_false h2)).trans ?_
    refine (qH (rm_t (by simp only [nadd,ln];omega))).trans ?_
    have:body k v=v:=by unfold body;rw [if_neg h2]
    simp only [wrF,this];rfl
  ·refine (qB (lt_f h0)).trans ?_
   refine (qF hb).trans ?_
   have hh:hdr k v.length=[]:=by unfold hdr;rw [if_neg h0]
   by_cases h2:k≤2
   ·refine (qE (decide_eq_true h2)).trans ?_
    refine (qF (hfig h2)).trans ?_
    rw [if_pos h2] at hvl
    refine (qH (rm_t (by simp only [ln];omega))).trans ?_
    simp only [wrF,hh,List.nil_append]
   ·refine (qB (decide_eq_false h2)).trans ?_
    refine (qH (rm_t (by simp only [ln];omega))).trans ?_
    have:body k v=v:=by unfold body;rw [if_neg h2]
    simp only [wrF,this,hh,List.nil_append]
theorem qp8 (no:Int) (v:BB) (hl:v.length≤1000000):qbO (no,v,())=some (wrD no v):=by
 unfold qbO wrD
 refine (qF (qaN no)).trans ?_
 cases ho:zD no with
 | none=>rfl
 | some p =>
  obtain ⟨k,l⟩:=p
  rw [qtE rfl]
  obtain ⟨hk,h1,h400,h99⟩:=qaC ho
  refine (qB rfl).trans ?_
  obtain ⟨b,hb,he⟩:=x7 k l v hl
  refine (qF hb).trans ?_
  rw [he (by unfold kinds at hk;omega)]
  by_cases hv:fv k l v
  rotate_left
  ·rw [decide_eq_false hv]
   refine (qE rfl).trans ?_
   simp only [if_neg hv];rfl
  rw [decide_eq_true hv]
  refine (qB rfl).trans ?_
  simp only [if_pos hv]
  refine (qF (vU hk)).trans ?_
  have hfig:k≤2→vO (v,())=some (body k v,0,()):=fun h=>by
   rw [qcZ v hl,if_pos (hv.1.1 h)];unfold body;rw [if_pos h]
  have hvl:=qkW k v
  by_cases h0:0 < cnt k
  ·obtain ⟨c1,c2,c3⟩:=qKK hk h99 h400 hv h0
   refine (qE (lt_t h0)).trans ?_
   refine (qF (vU hk)).trans ?_
   have hd:xF (len v,cnt k,())=some (ps 10 dch v.length (cnt k).toNat,0,()):=by
    rw [yZ _ _ (by simp only [len];omega),if_pos ⟨c1.1,c1.2,c2⟩];rfl
   refine (qF hd).trans ?_
   have hbc:vO (ps 10 dch v.length (cnt k).toNat,())=some (hdr k v.length,0,()):=by
    rw [qcZ _ (by rw [zI];omega),if_pos qkP];unfold hdr;rw [if_pos h0]
   refine (qF hbc).trans ?_
   have hhl:(hdr k v.length).length≤10:=by
    unfold hdr;rw [if_pos h0,zT,zI];omega
   by_cases h2:k≤2
   ·refine (qE (decide_eq_true h2)).trans ?_
    refine (qF (hfig h2)).trans ?_
    rw [if_pos h2] at hvl
    refine (qH (rm_t (by simp only [nadd,ln,none',List.length_nil];omega))).trans ?_
    exact (qH (rm_t (by simp only [nadd,ln,none',app,List.length_append,List.length_nil];omega))).trans rfl
   ·refine (qB (decide_eq_false h2)).trans ?_
    refine (qH (rm_t (by simp only [nadd,ln,none',List.length_nil];omega))).trans ?_
    refine (qH (rm_t (by simp only [nadd,ln,none',app,List.length_append,List.length_nil];omega))).trans ?_
    have:body k v=v:=by unfold body;rw [if_neg h2]
    simp only [wrF,this];rfl
  ·refine (qB (lt_f h0)).trans ?_
   have hh:hdr k v.length=[]:=by unfold hdr;rw [if_neg h0]
   by_cases h2:k≤2
   ·refine (qE (decide_eq_true h2)).trans ?_
    refine (qF (hfig h2)).trans ?_
    rw [if_pos h2] at hvl
    refine (qH rfl).trans ?_
    refine (qH (rm_t (by simp only [nadd,ln,none',app,List.length_append,List.length_nil];omega))).trans ?_
    simp only [wrF,hh,List.nil_append];rfl
   ·refine (qB (decide_eq_false h2)).trans ?_
    refine (qH rfl).trans ?_
    refine (qH (rm_t (by simp only [nadd,ln,none',app,List.length_append,List.length_nil];omega))).trans ?_
    have:body k v=v:=by unfold body;rw [if_neg h2]
    simp only [wrF,this,hh,List.nil_append];rfl
theorem zA (a b:BB):zX (a,b,())=some (seq a b,()):=rfl
end Yp
namespace Yp
open Go
theorem qLv {u:BB} {k N:Nat} (hl:u.length=2*k) (hN:(N+1) / 2=k) (h:N % 2=1→nth u 0 (u8 0)=48):pad (u.drop (N % 2))=u:=by
 by_cases ho:N % 2=1
 ·rw [ho]
  unfold pad
  rw [if_pos (by simp;omega)]
  cases u with
  | nil=>simp at hl;omega
  | cons x r=>have:=h ho;simp only [nth,List.getD_cons_zero] at this;rw [this];rfl
 ·have:N % 2=0:=by omega
  rw [this,List.drop_zero];exact qLu (by omega)
theorem qHy {s:BB} (h:figs s):figs (pad s):=by
 unfold pad
 split
 ·intro i hi
  cases i with
  | zero=>exact (by decide:vP 48)
  | succ i=>exact h i (by simpa using hi)
 ·exact h
theorem qzB (s:BB):(pad s).drop (s.length % 2)=s:=by
 unfold pad
 by_cases h:s.length % 2=1
 ·rw [if_pos h,h];rfl
 ·have:s.length % 2=0:=by omega
  rw [if_neg h,this];rfl
theorem qjC {s:BB} (hf:figs s):z8 (bcd (pad s))=pad s:=qKp (qHy hf) (by rw [qd6];omega)
theorem qIG {s t:BB} (hs:figs s) (ht:figs t) (hl:s.length=t.length) (h:bcd (pad s)=bcd (pad t)):s=t:=by
 have:=congrArg z8 h
 rw [qjC hs,qjC ht] at this
 rw [← qzB s,← qzB t,this,hl]
theorem xG {b:BB} {I N:Nat} (hI:I≤b.length) (hN:N≤999):(b.length < I+(N+1) / 2∧zU b I N=([],0,3,())) ∨
  (I+(N+1) / 2≤b.length∧zU b I N=([],0,2,())∧∀ s,s.length=N→figs s→tk b I ((N+1) / 2)=bcd (pad s)→False) ∨
  (∃ s,I+(N+1) / 2≤b.length∧zU b I N=(s,((I+(N+1) / 2:Nat):Int),0,())∧figs s∧s.length=N∧tk b I ((N+1) / 2)=bcd (pad s)):=by
 unfold zU
 simp only [Int.toNat_natCast]
 rw [if_neg (by omega)]
 by_cases h1:(b.length:Int) - I < ((N:Int)+1) / 2
 ·rw [if_pos h1];exact .inl ⟨by omega,rfl⟩
 rw [if_neg h1]
 have hle:I+(N+1) / 2≤b.length:=by omega
 have hul:=kR hle
 have hxl:(z8 (tk b I ((N+1) / 2))).length=2*((N+1) / 2):=by rw [zQ,hul]
 refine .inr ?_
 by_cases h2:(N:Int) % 2=1∧¬nth (z8 (tk b I ((N+1) / 2))) 0 (u8 0)=48
 ·rw [if_pos h2]
  refine .inl ⟨hle,rfl,fun s hs hf h=>h2.2 ?_⟩
  rw [h,qjC hf];unfold pad;rw [if_pos (by omega)];rfl
 rw [if_neg h2]
 have hp:pad ((z8 (tk b I ((N+1) / 2))).drop (N % 2))=z8 (tk b I ((N+1) / 2)):=qLv hxl rfl fun ho=>Classical.byContradiction fun hc=>h2 ⟨by omega,hc⟩
 by_cases h3:figs ((z8 (tk b I ((N+1) / 2))).drop (N % 2))
 ·rw [if_pos h3]
  refine .inr ⟨_,hle, ?_,h3,by rw [List.length_drop,hxl];omega, ?_⟩
  ·simp
  ·have hb:=qKZ (u:=tk b I ((N+1) / 2)) (by rw [← hp];exact qHy h3)
   rw [hp,hb]
 ·rw [if_neg h3]
  refine .inl ⟨hle,rfl,fun s hs hf h=>h3 ?_⟩
  rw [h,qjC hf,← hs,qzB];exact hf
theorem qwE {b x q:BB} {I:Nat} (h:b.drop I=x++q):tk b I x.length=x:=by
 unfold tk;rw [h,List.take_left'];rfl
theorem qjF {b x:BB} {I n:Nat} (h:tk b I n=x):b.drop I=x++b.drop (I+n):=by
 rw [← h];unfold tk
 rw [← List.drop_drop,List.take_append_drop]
theorem qz0 {b x:BB} {I:Nat} (hI:I≤b.length) (h:b.drop I=x):b.length=I+x.length:=by
 have:=congrArg List.length h
 rw [List.length_drop] at this;omega
theorem qj5 {b s q:BB} {I:Nat} (hI:I≤b.length) (hN:s.length≤999) (hf:figs s) (h:b.drop I=bcd (pad s)++q):zU b I s.length=(s,((I+(s.length+1) / 2:Nat):Int),0,()):=by
 have hl:=qz0 hI h
 have ht:=qwE h
 rw [List.length_append,zT] at hl
 rw [zT] at ht
 rcases xG hI hN with ⟨h1,_⟩ | ⟨_,_,h2⟩ | ⟨t,_,h3,h4,h5,h6⟩
 ·omega
 ·exact (h2 s rfl hf ht).elim
 ·rw [h3,qIG h4 hf h5 (by rw [← h6,ht])]
def rdB (k l:Int) (b:BB) (a n:Int):BB×Int×Int×Unit :=
 if k≤2 then (if (zU b a n).2.2.1=0 then ((zU b a n).1,(zU b a n).2.1,0,()) else ([],0,(zU b a n).2.2.1,()))
 else if (b.length:Int) - a < n then ([],0,3,()) else if fv k l (tk b a.toNat n.toNat) then (tk b a.toNat n.toNat,a+n,0,()) else ([],0,2,())
def rdF (k l:Int) (b:BB) (a:Int):BB×Int×Int×Unit :=
 if a < 0∨(b.length:Int) < a then ([],0,1,()) else if 0 < cnt k then
  (if (zU b a (cnt k)).2.2.1=0 then (if (val (zU b a (cnt k)).1:Int) < 1∨l < val (zU b a (cnt k)).1 then ([],0,2,()) else rdB k l b (zU b a (cnt k)).2.1 (val (zU b a (cnt k)).1))
  else ([],0,(zU b a (cnt k)).2.2.1,()))
 else rdB k l b a l
def rdD (no:Int) (b:BB) (a:Int):BB×Int×Int×Unit:=match zD no with | none=>([],0,12,()) | some (k,l)=>rdF k l b a
theorem qJV {k l:Int} {s:BB} (h2:k≤2) (hf:figs s) (hn:fln k l s.length):fv k l s:=⟨⟨fun _=>hf,fun _=>qjE hf⟩,hn⟩
theorem qGY {no k l:Int} {b:BB} {A N:Nat} (ho:zD no=some (k,l)) (hl:b.length≤1000000) (ha:A≤b.length) (hn:1≤N∧N≤400) (hfl:fln k l N) :
  (ob (sel (le k 2) (some (i64 (idiv (i64 (iadd (N:Int) 1)) 2),())) (some ((N:Int),()))) fun (a7:Int×Unit)=>sel (lt (i64 (isub (len b) (A:Int))) a7.1) (some (none' UInt8,0,3,()))
   (ck (inC (A:Int) (i64 (iadd (A:Int) a7.1)) (len b)) (ck (rm 1 (nadd (ln (none' UInt8)) (ln (sub b (A:Int) (i64 (iadd (A:Int) a7.1))))))
    (sel (le k 2) (ob (jN (b,(A:Int),(N:Int),())) fun (t:BB×Int×Int×Unit)=>sel (bnot (beq t.2.2.1 0)) (some (none' UInt8,0,2,())) (ck (rm 1 (ln t.1)) (ob (j5 ((k,l,()),t.1,())) fun (a:Bool×Unit)=>sel (bnot a.1) (some (none' UInt8,0,2,())) (some (t.1,i64 (iadd (A:Int) a7.1),0,())))))
     (ob (j5 ((k,l,()),app (none' UInt8) (sub b (A:Int) (i64 (iadd (A:Int) a7.1))),())) fun (a:Bool×Unit)=>sel (bnot a.1) (some (none' UInt8,0,2,())) (some (app (none' UInt8) (sub b (A:Int) (i64 (iadd (A:Int) a7.1))),i64 (iadd (A:Int) a7.1),0,()))))))
   : Option (BB×Int×Int×Unit))=some (rdB k l b A N):=by
 obtain ⟨hk,h1,h400,h99⟩:=qaC ho
 have hk1:1≤k:=by unfold kinds at hk;omega
 unfold rdB
 have c0:i64 (isub (len b) (A:Int))=(b.length:Int) - A:=by
  simp only [isub,len];exact zO (by omega) (by omega)
 by_cases h2:k≤2
 ·have c1:i64 (idiv (i64 (iadd (N:Int) 1)) 2)=(((N+1) / 2:Nat):Int):=by
   rw [show i64 (iadd (N:Int) 1)=((N+1:Nat):Int) from zP (b:=1) (by omega)]
   exact qn4 (b:=2) (by omega)
  refine (qF (qE (le_t h2))).trans ?_
  have c3:i64 (iadd (A:Int) (((N+1) / 2:Nat):Int))=((A+(N+1) / 2:Nat):Int):=zP (by omega)
  rw [if_pos h2]
  simp only [c0,c1,c3,qMd]
  rcases xG ha (show N≤999 by omega) with ⟨h3,h⟩ | ⟨h3,h,_⟩ | ⟨s,h3,h,hf,hs,_⟩
  ·refine (qE (lt_t (by omega))).trans ?_
   rw [h];rfl
  ·refine (qB (lt_f (by omega))).trans ?_
   refine (qH (qzP (by omega) (by omega) (by simp only [len];omega))).trans ?_
   have htl:=kR h3
   refine (qH (rm_t (by simp only [nadd,ln,none',List.length_nil];omega))).trans ?_
   refine (qE (le_t h2)).trans ?_
   refine (qF (jM b A N hl)).trans ?_
   rw [h];rfl
  ·refine (qB (lt_f (by omega))).trans ?_
   refine (qH (qzP (by omega) (by omega) (by simp only [len];omega))).trans ?_
   have htl:=kR h3
   refine (qH (rm_t (by simp only [nadd,ln,none',List.length_nil];omega))).trans ?_
   refine (qE (le_t h2)).trans ?_
   refine (qF (jM b A N hl)).trans ?_
   rw [h]
   refine (qB rfl).trans ?_
   refine (qH (rm_t (by simp only [ln];omega))).trans ?_
   obtain ⟨t,ht,he⟩:=x7 k l s (by omega)
   refine (qF ht).trans ?_
   rw [he hk1,decide_eq_true (qJV h2 hf (by rw [hs];exact hfl))]
   rfl
 ·refine (qF (qB (le_f h2))).trans ?_
  rw [if_neg h2]
  have c3:i64 (iadd (A:Int) (N:Int))=((A+N:Nat):Int):=zP (by omega)
  simp only [c0,c3,qMd,Int.toNat_natCast]
  by_cases h3:(b.length:Int) - A < N
  ·rw [if_pos h3];exact qE (lt_t h3)
  rw [if_neg h3]
  refine (qB (lt_f h3)).trans ?_
  have hle:A+N≤b.length:=by omega
  refine (qH (qzP (by omega) (by omega) (by simp only [len];omega))).trans ?_
  have htl:=kR hle
  refine (qH (rm_t (by simp only [nadd,ln,none',List.length_nil];omega))).trans ?_
  refine (qB (le_f h2)).trans ?_
  have ha':app (none' UInt8) (tk b A N)=tk b A N:=rfl
  simp only [ha']
  obtain ⟨t,ht,he⟩:=x7 k l (tk b A N) (by omega)
  refine (qF ht).trans ?_
  rw [he hk1]
  by_cases hv:fv k l (tk b A N)
  ·rw [if_pos hv,decide_eq_true hv,← Int.natCast_add];exact qB rfl
  ·rw [if_neg hv,decide_eq_false hv];exact qE rfl
theorem qIO {s:BB} (hf:figs s) (h:s.length≤3):val s < 1000:=by
 have:=qHO hf
 have h2:10 ^ s.length≤10 ^ 3:=Nat.pow_le_pow_right (by omega) h
 omega
theorem qKA {k l:Int} {n:Nat} (h0:0 < cnt k) (h1:1≤n) (h2:(n:Int)≤l):fln k l n:=by
 unfold fln
 rw [if_neg]
 ·exact ⟨h1,h2⟩
 ·rintro (rfl | rfl | rfl) <;> exact absurd h0 (by decide)
theorem qzV {k l:Int} {n:Nat} (hk:kinds k) (h0:¬ 0 < cnt k):fln k l n↔(n:Int)=l:=by
 unfold fln
 rcases hk with rfl | rfl | rfl | rfl | rfl | rfl | rfl <;> first | exact absurd (by decide) h0 | simp
theorem qsE (no:Int) (b:BB) (a:Int) (hl:b.length≤1000000):qi1 (no,b,a,())=some (rdD no b a):=by
 unfold qi1 rdD
 refine (qF (qaN no)).trans ?_
 cases ho:zD no with
 | none=>rfl
 | some p =>
  obtain ⟨k,l⟩:=p
  rw [qtE rfl]
  obtain ⟨hk,h1,h400,h99⟩:=qaC ho
  refine (qB rfl).trans ?_
  show _=some (rdF k l b a)
  unfold rdF
  by_cases h2:a < 0
  ·refine (qF (qE (lt_t h2))).trans ?_
   simp only [if_pos (Or.inl h2:a < 0∨(b.length:Int) < a)];rfl
  by_cases h3:(b.length:Int) < a
  ·refine (qF (a:=(true,())) ((qB (lt_f h2)).trans (kB (lt_t h3)))).trans ?_
   simp only [if_pos (Or.inr h3:a < 0∨(b.length:Int) < a)];rfl
  refine (qF (a:=(false,())) ((qB (lt_f h2)).trans (kB (lt_f h3)))).trans ?_
  refine (qB rfl).trans ?_
  rw [if_neg (by omega)]
  obtain ⟨A,rfl⟩:∃ n:Nat,a=n:=⟨a.toNat,by omega⟩
  refine (qF (vU hk)).trans ?_
  by_cases h0:0 < cnt k
  ·rw [if_pos h0]
   refine (qE (lt_t h0)).trans ?_
   refine (qF (vU hk)).trans ?_
   refine (qF (jM b A (cnt k) hl)).trans ?_
   have hcr:=qDf hk
   obtain ⟨C,hC⟩:∃ n:Nat,cnt k=n:=⟨(cnt k).toNat,by omega⟩
   rw [hC]
   rcases xG (b:=b) (I:=A) (N:=C) (by omega) (by omega) with ⟨_,h⟩ | ⟨_,h,_⟩ | ⟨s,h4,h,hf,hs,_⟩
   ·rw [h];rfl
   ·rw [h];rfl
   ·rw [h]
    refine (qB rfl).trans ?_
    rw [if_pos rfl]
    have hvs:=qIO hf (by omega)
    refine (qF (vV s (by omega))).trans ?_
    rw [if_pos ⟨by omega,by omega,hf⟩]
    by_cases hm1:(val s:Int) < 1
    ·refine (qF (qE (lt_t hm1))).trans ?_
     simp only [if_pos (Or.inl hm1:(val s:Int) < 1∨l < val s)];rfl
    by_cases hm2:l < (val s:Int)
    ·refine (qF (a:=(true,())) ((qB (lt_f hm1)).trans (kB (lt_t hm2)))).trans ?_
     simp only [if_pos (Or.inr hm2:(val s:Int) < 1∨l < val s)];rfl
    refine (qF (a:=(false,())) ((qB (lt_f hm1)).trans (kB (lt_f hm2)))).trans ?_
    refine (qB rfl).trans ?_
    rw [if_neg (show ¬((val s:Int) < 1∨l < val s) by omega)]
    exact qGY ho hl h4 ⟨by omega,by omega⟩ (qKA h0 (by omega) (by omega))
  ·rw [if_neg h0]
   refine (qB (lt_f h0)).trans ?_
   obtain ⟨L,rfl⟩:∃ n:Nat,l=n:=⟨l.toNat,by omega⟩
   exact qGY (b:=b) (A:=A) (N:=L) ho hl (by omega) ⟨by omega,by omega⟩ ((qzV hk h0).2 rfl)
end Yp
namespace Yp
open Go
noncomputable def D (p:Prop):Bool := @decide p (Classical.propDecidable p)
theorem qiA {p:Prop}:D p=true↔p:=by unfold D;exact @decide_eq_true_iff p (Classical.propDecidable p)
theorem D_t {p:Prop} (h:p):D p=true:=qiA.2 h
theorem D_f {p:Prop} (h:¬ p):D p=false:=by
 cases e:D p
 ·rfl
 ·exact absurd (qiA.1 e) h
theorem qiB {b:Bool} {p:Prop} (h:b=true↔p):b=D p:=Bool.eq_iff_iff.2 (h.trans qiA.symm)
@[congr] theorem qfH {α β:Type} {o o':Option α} {k:α→Option β} (h:o=o'):ob o k=ob o' k:=by rw [h]
@[congr] theorem qPY {α:Type} {c c':Bool} {a b:α} (h:c=c'):sel c a b=sel c' a b:=by rw [h]
@[congr] theorem qP0 {α:Type} {c c':Bool} {a:Option α} (h:c=c'):ck c a=ck c' a:=by rw [h]
@[congr] theorem qPZ {σ ρ β:Type} {o o':Option (LS σ ρ)} {kn:σ→Option β} {ke:Nat→σ→Option β} {kr:ρ→Option β} (h:o=o'):lc o kn ke kr=lc o' kn ke kr:=by rw [h]
theorem g01 {α β:Type} {a:α} {k:α→Option β}:ob (some a) k=k a:=rfl
theorem g02 {α:Type} {p:Prop} {a b:α} (h:p):sel (D p) a b=a:=qE (D_t h)
theorem g03 {α:Type} {p:Prop} {a b:α} (h:¬ p):sel (D p) a b=b:=qB (D_f h)
theorem g04 {α:Type} {p:Prop} {a:Option α} (h:p):ck (D p) a=a:=qH (D_t h)
theorem g05 {α:Type} {a b:α}:sel true a b=a:=rfl
theorem g06 {α:Type} {a b:α}:sel false a b=b:=rfl
theorem g07 {α:Type} {a:Option α}:ck true a=a:=rfl
theorem g08 {a b:Int}:lt a b=D (a < b):=qiB decide_eq_true_iff
theorem g09 {a b:Int}:le a b=D (a≤b):=qiB decide_eq_true_iff
theorem g10 {a b:Int}:beq a b=D (a=b):=by unfold beq;exact qiB beq_iff_eq
theorem g11 {a b:BB}:seq a b=D (a=b):=by unfold seq;exact qiB beq_iff_eq
theorem g12 {p:Prop}:bnot (D p)=D (¬ p):=by
 by_cases h:p
 ·rw [D_t h,D_f (not_not_intro h)];rfl
 ·rw [D_f h,D_t h];rfl
theorem g13 {p q:Prop}:band (D p) (D q)=D (p∧q):=qiB (by simp [band,qiA])
theorem g14 {p q:Prop}:bor (D p) (D q)=D (p∨q):=qiB (by simp [bor,qiA])
theorem g15 {c q:Bool}:sel c (some (true,())) (some (q,()))=some (bor c q,()):=by cases c <;> rfl
theorem g16 {c q:Bool}:sel c (some (q,())) (some (false,()))=some (band c q,()):=by cases c <;> rfl
theorem g17 {c d:Bool} {x:Option (Bool×Unit)}:sel c (sel d x (some (false,()))) (some (false,()))=sel (band c d) x (some (false,())):=by cases c <;> rfl
theorem g18 {c d:Bool} {x:Option (Bool×Unit)}:sel c (some (true,())) (sel d (some (true,())) x)=sel (bor c d) (some (true,())) x:=by cases c <;> rfl
theorem g19 {a b c:Int}:inC a b c=D (0≤a∧a≤b∧b≤c):=qiB (by simp [inC,and_assoc])
theorem g20 {a b:Int}:inB a b=D (0≤a∧a < b):=qiB (by simp [inB])
theorem g21 {c n:Nat}:rm c n=D (n*c≤140737488355328):=qiB decide_eq_true_iff
theorem g22 {α:Type} {l:List α}:len l=(l.length:Int):=rfl
theorem g23 {α:Type} {l:List α}:ln l=l.length:=rfl
theorem g24 {a b:Nat}:nadd a b=a+b:=rfl
theorem g25 {α:Type} {a b:List α}:app a b=a++b:=rfl
theorem g26 {α:Type}:none' α=[]:=rfl
theorem g27 {n:Int} (h : -9223372036854775808≤n∧n≤9223372036854775807):i64 n=n:=zO h.1 h.2
theorem g28 {a b:Int}:iadd a b=a+b:=rfl
theorem g29 {a b:Int}:isub a b=a - b:=rfl
theorem g30 {a b:Int}:imul a b=a*b:=rfl
theorem g31 {a b:Int} (h:0≤a):idiv a b=a / b:=by simp only [idiv];exact Int.tdiv_eq_ediv_of_nonneg h
theorem g32 {a b:Int} (h:0≤a):imod a b=a % b:=by simp only [imod];exact Int.tmod_eq_emod_of_nonneg h
theorem g33 {a:Int}:nat a=a.toNat:=rfl
theorem g34 {a:Nat}:ofn a=(a:Int):=rfl
theorem g35 {a b:Nat}:nsub a b=a - b:=rfl
theorem g36 {c:Bool}:band true c=c:=rfl
theorem g37 {c:Bool}:band c true=c:=by cases c <;> rfl
theorem g38 {c:Bool}:bor false c=c:=rfl
theorem g39 {c:Bool}:bor c false=c:=by cases c <;> rfl
theorem g40 {c:Bool}:bnot (bnot c)=c:=by cases c <;> rfl
theorem g41:bnot true=false:=rfl
theorem g42:bnot false=true:=rfl
theorem g43 {a b:Bool}:beb a b=D (a=b):=qiB (by unfold beb;exact beq_iff_eq)
theorem g44 {c:Bool}:band false c=false:=rfl
theorem g45 {c:Bool}:band c false=false:=by cases c <;> rfl
theorem g46 {c:Bool}:bor true c=true:=rfl
theorem g47 {c:Bool}:bor c true=true:=by cases c <;> rfl
theorem g48 {α β:Type} {k:α→Option β}:ob none k=none:=rfl
theorem g49 {p q:Prop}:(D p=D q)=(p↔q):=by
 refine propext ⟨fun h=>qiA.symm.trans ((Bool.eq_iff_iff.1 h).trans qiA),fun h=>Bool.eq_iff_iff.2 (qiA.trans (h.trans qiA.symm))⟩
theorem g50 {α:Type} {c:Bool} {a:α}:sel c a a=a:=by cases c <;> rfl
theorem g51 {p:Prop} [Decidable p]:decide p=D p:=qiB decide_eq_true_iff
theorem g52:D True=true:=D_t trivial
theorem g53:D False=false:=D_f not_false
theorem g54 {p:Prop}:(D p=true)=p:=propext qiA
theorem g55 {p:Prop}:(D p=false)=¬ p:=by
 refine propext ⟨fun h hp => ?_,D_f⟩
 rw [D_t hp] at h;cases h
theorem g56 {p:Prop}:(true=D p)=p:=propext ⟨fun h=>qiA.1 h.symm,fun h=>(qiA.2 h).symm⟩
theorem g57 {a b:Int}:minI a b=min a b:=by unfold minI;split <;> omega
theorem g58 {a b:Int}:maxI a b=max a b:=by unfold maxI;split <;> omega
theorem g60 {a:UInt16}:n16 a=(a.toNat:Int):=rfl
theorem g61 {a:Int} (h:0≤a∧a < 256):n8 (u8 a)=a:=by
 obtain ⟨n,rfl⟩:∃ n:Nat,a=n:=⟨a.toNat,by omega⟩
 exact qPL (by omega)
theorem qPM {σ ρ β:Type} {y:σ} {kn:σ→Option β} {ke:Nat→σ→Option β} {kr:ρ→Option β}:lc (some (.nx y)) kn ke kr=kn y:=rfl
theorem wM {p:Prop} (h:p):some (D p,())=some (true,()):=by rw [D_t h]
theorem v3 {p:Prop} (h:¬ p):some (D p,())=some (false,()):=by rw [D_f h]
theorem zH {p q:Prop} (h:p↔q):some (D p,())=some (D q,()):=by rw [show p=q from propext h]
theorem qPb {σ ρ β:Type} {r:ρ} {kn:σ→Option β} {ke:Nat→σ→Option β} {kr:ρ→Option β}:lc (some (.rt r)) kn ke kr=kr r:=rfl
theorem qHk {σ ρ β:Type} {y:σ} {k:Nat} {kn:σ→Option β} {ke:Nat→σ→Option β} {kr:ρ→Option β}:lc (some (.ex k y)) kn ke kr=ke k y:=rfl
theorem g62 {k:Nat}:neb k k=true:=by simp [neb]
theorem g63 {n:Nat}:nat (n:Int)=n:=qR
theorem g64:((1:Nat):Int)=1:=rfl
theorem g65:((0:Nat):Int)=0:=rfl
theorem g66 {p:Prop}:(false=D p)=¬ p:=propext ⟨fun h=>g55.mp h.symm,fun h=>(D_f h).symm⟩
def qaA {β σ ρ:Type} (mk:β→Nat→σ) (i:Nat):LS β ρ→LS σ ρ
 | .nx b => .nx (mk b (i+1)) | .ex k b => .ex k (mk b i) | .rt r => .rt r
def wT {α β σ ρ:Type} (mk:β→Nat→σ) (e:Nat) (step:β→α→LS β ρ):β→Nat→List α→LS σ ρ
 | b,i,[] => .ex e (mk b i)
 | b,i,x :: r=>match step b x with
  | .nx b'=>wT mk e step b' (i+1) r
  | .ex k b' => .ex k (mk b' i)
  | .rt q => .rt q
theorem xP {α β σ ρ:Type} {f:σ→Option (LS σ ρ)} (l:List α) (mk:β→Nat→σ) (e:Nat) (step:β→α→LS β ρ) (I:β→Nat→Prop)
  (hs:∀ b i (h:i < l.length),I b i→f (mk b i)=some (qaA mk i (step b l[i]))∧∀ b',step b l[i] = .nx b'→I b' (i+1))
  (he:∀ b,I b l.length→f (mk b l.length)=some (.ex e (mk b l.length))) (b0:β) (h0:I b0 0):loop f (mk b0 0)=some (wT mk e step b0 0 l):=by
 have key:∀ (r:List α) (i:Nat) (b:β),l.drop i=r→i≤l.length→I b i→loop f (mk b i)=some (wT mk e step b i r):=by
  intro r
  induction r with
  | nil =>
   intro i b hr hi hI
   have hl:=congrArg List.length hr
   rw [List.length_drop,List.length_nil] at hl
   have:i=l.length:=by omega
   subst this
   exact qT (he b hI)
  | cons x r ih =>
   intro i b hr hi hI
   have hl:=congrArg List.length hr
   rw [List.length_drop,List.length_cons] at hl
   have hlt:i < l.length:=by omega
   have hx:l[i]=x∧l.drop (i+1)=r:=by
    rw [List.drop_eq_getElem_cons hlt] at hr
    exact ⟨(List.cons.inj hr).1,(List.cons.inj hr).2⟩
   obtain ⟨h1,h2⟩:=hs b i hlt hI
   rw [hx.1] at h1 h2
   unfold wT
   cases hst:step b x with
   | nx b'=>rw [hst] at h1;rw [x3 h1];exact ih (i+1) b' hx.2 hlt (h2 b' hst)
   | ex k b'=>rw [hst] at h1;exact qT h1
   | rt q=>rw [hst] at h1;exact qc2 h1
 exact key l 0 b0 rfl (Nat.zero_le _) h0
attribute [go_sem ↓] g02 g03 g04 g05 g06
attribute [go_sem] g01 g02 g03 g04 g05 g06 g07 g08 g09 g10 g11 g12 g13 g14 g15 g16 g17 g18 g19 g20 g21 g22 g23 g24 g25 g26 g27 g28 g29 g30 g31 g32 g34 g35 g36 g37 g38 g39 g40 g41 g42 g43 g44 g45 g46 g47 g48 g49 g50 g51 g52 g53 g54 g55 g56 g57 g58 g60 g61 not_true_eq_false not_false_eq_true List.nil_append List.append_nil List.length_nil and_true true_and or_true true_or or_false false_or and_false false_and if_true if_false qPb qHk qPM g62 g63 Int.toNat_natCast Int.natCast_add qL g33 g64 g65 Int.toNat_zero Bool.false_eq_true g66
end Yp
namespace Yp
open Go
theorem kN {b x q:BB} {A:Nat} (hA:A≤b.length) (h:b.drop A=x++q):A+x.length≤b.length∧b.drop (A+x.length)=q:=by
 have:=qz0 hA h
 rw [List.length_append] at this
 refine ⟨by omega, ?_⟩
 rw [← List.drop_drop,h,List.drop_left]
theorem qJB {k l:Int} {b v q:BB} {A:Nat} (hA:A≤b.length) (hv:fv k l v) (h400:v.length≤400) (h:b.drop A=body k v++q):rdB k l b A v.length=(v,((A+(body k v).length:Nat):Int),0,()):=by
 have hl:=(kN hA h).1
 unfold rdB
 by_cases h2:k≤2
 ·have hb:body k v=bcd (pad v):=by unfold body;rw [if_pos h2]
  rw [hb] at h ⊢
  rw [if_pos h2,qj5 hA (by omega) (hv.1.1 h2) h,zT]
  rfl
 ·have hb:body k v=v:=by unfold body;rw [if_neg h2]
  rw [hb] at h hl ⊢
  have ht:=qwE h
  simp only [Int.toNat_natCast]
  rw [if_neg h2,if_neg (by omega),ht,if_pos hv];rfl
theorem qJA {k l:Int} {b v:BB} {A N:Nat} {I:Int} (hA:A≤b.length) (hN:N≤400) (h:rdB k l b A N=(v,I,0,())) :
  v.length=N∧(k≤2→figs v)∧(¬ k≤2→fv k l v)∧I=((A+(body k v).length:Nat):Int)∧A+(body k v).length≤b.length∧tk b A (body k v).length=body k v:=by
 unfold rdB at h
 by_cases h2:k≤2
 ·rw [if_pos h2] at h
  rcases xG hA (show N≤999 by omega) with ⟨_,e⟩ | ⟨_,e,_⟩ | ⟨s,h3,e,hf,hs,ht⟩
  ·rw [e] at h;simp at h
  ·rw [e] at h;simp at h
  ·rw [e] at h
   simp only [if_pos,Prod.mk.injEq,and_true] at h
   obtain ⟨rfl,rfl⟩:=h
   have hb:body k s=bcd (pad s):=by unfold body;rw [if_pos h2]
   have hbl:(bcd (pad s)).length=(N+1) / 2:=by rw [zT,hs]
   rw [hb,hbl]
   exact ⟨hs,fun _=>hf,fun hc=>absurd h2 hc,rfl,h3,ht⟩
 ·rw [if_neg h2] at h
  by_cases h3:(b.length:Int) - A < N
  ·rw [if_pos h3] at h;simp at h
  rw [if_neg h3] at h
  simp only [Int.toNat_natCast] at h
  by_cases h4:fv k l (tk b A N)
  ·rw [if_pos h4] at h
   simp only [Prod.mk.injEq,and_true] at h
   obtain ⟨rfl,rfl⟩:=h
   have hl:=kR (show A+N≤b.length by omega)
   have hb:body k (tk b A N)=tk b A N:=by unfold body;rw [if_neg h2]
   rw [hb,hl]
   exact ⟨rfl,fun hc=>absurd hc h2,fun _=>h4,by omega,by omega,rfl⟩
  ·rw [if_neg h4] at h;simp at h
theorem qMr {k:Int} {n:Nat} (h0:0 < cnt k):hdr k n=bcd (pad (ps 10 dch n (cnt k).toNat)):=by unfold hdr;rw [if_pos h0]
theorem qKr {k:Int} {n:Nat} (h0:¬ 0 < cnt k):hdr k n=[]:=by unfold hdr;rw [if_neg h0]
theorem qIk {k:Int} {n:Nat}:(hdr k n).length=if 0 < cnt k then ((cnt k).toNat+1) / 2 else 0:=by
 unfold hdr;split
 ·rw [zT,zI]
 ·rfl
theorem qnA {k:Int} {v:BB} (hk:kinds k):(wrF k v).length=(if k=2∨k=4 then 1 else if k=5∨k=7 then 2 else 0)+(if k≤2 then (v.length+1) / 2 else v.length):=by
 unfold wrF
 rw [List.length_append,qkW,qIk]
 congr 1
 rcases hk with rfl | rfl | rfl | rfl | rfl | rfl | rfl <;> rfl
theorem qMt {no k l:Int} {v:BB} (ho:zD no=some (k,l)) (hv:fv k l v):1≤v.length∧(v.length:Int)≤l∧v.length≤400:=by
 obtain ⟨hk,h1,h400,_⟩:=qaC ho
 have:=hv.2
 unfold fln at this
 split at this <;> omega
theorem qM2 {no k l:Int} {b v q:BB} {A:Nat} (ho:zD no=some (k,l)) (hA:A≤b.length) (hv:fv k l v) (h:b.drop A=wrF k v++q):rdF k l b A=(v,((A+(wrF k v).length:Nat):Int),0,()):=by
 obtain ⟨hk,h1,h400,h99⟩:=qaC ho
 obtain ⟨hv1,hv2,hv3⟩:=qMt ho hv
 unfold rdF
 rw [if_neg (by omega)]
 unfold wrF at h ⊢
 by_cases h0:0 < cnt k
 ·rw [if_pos h0]
  obtain ⟨c1,c2,c3⟩:=qKK hk h99 h400 hv h0
  rw [qMr h0] at h ⊢
  rw [List.append_assoc] at h
  have hp:=qj5 (s:=ps 10 dch v.length (cnt k).toNat) hA (by rw [zI];omega) qkP h
  rw [zI,Int.toNat_of_nonneg (by omega)] at hp
  rw [hp]
  have hval:val (ps 10 dch v.length (cnt k).toNat)=v.length:=by
   rw [qIP,Nat.mod_eq_of_lt]
   have:=c2.2
   have h10:((10:Int) ^ (cnt k).toNat)=((10 ^ (cnt k).toNat:Nat):Int):=qLq 10 _
   rw [h10] at this;omega
  simp only [if_pos]
  rw [hval,if_neg (by omega)]
  have hd:=kN hA h
  rw [zT,zI] at hd
  rw [qJB hd.1 hv hv3 hd.2,List.length_append,zT,zI]
  simp only [Nat.add_assoc]
 ·rw [if_neg h0]
  have hl:=(qzV hk h0).1 hv.2
  rw [qKr h0,List.nil_append] at h ⊢
  have:=qJB hA hv hv3 h
  rw [hl] at this;exact this
theorem qM1 {no k l:Int} {b v:BB} {A:Nat} {I:Int} (ho:zD no=some (k,l)) (hA:A≤b.length) (h:rdF k l b A=(v,I,0,())) :
  fv k l v∧I=((A+(wrF k v).length:Nat):Int)∧A+(wrF k v).length≤b.length∧b.drop A=wrF k v++b.drop (A+(wrF k v).length):=by
 obtain ⟨hk,h1,h400,h99⟩:=qaC ho
 unfold rdF at h
 rw [if_neg (by omega)] at h
 by_cases h0:0 < cnt k
 ·rw [if_pos h0] at h
  have hcr:=qDf hk
  obtain ⟨C,hC⟩:∃ n:Nat,cnt k=n:=⟨(cnt k).toNat,by omega⟩
  rw [hC] at h
  rcases xG hA (show C≤999 by omega) with ⟨_,e⟩ | ⟨_,e,_⟩ | ⟨s,h3,e,hf,hs,ht⟩
  ·rw [e] at h;simp at h
  ·rw [e] at h;simp at h
  ·rw [e] at h
   simp only [if_pos] at h
   by_cases hm:(val s:Int) < 1∨l < val s
   ·rw [if_pos hm] at h;simp at h
   rw [if_neg hm] at h
   obtain ⟨e1,e2,e3,e4,e5,e6⟩:=qJA h3 (by omega) h
   have hfv:fv k l v:=by
    by_cases h2:k≤2
    ·exact qJV h2 (e2 h2) (qKA h0 (by omega) (by omega))
    ·exact e3 h2
   have hh:hdr k v.length=bcd (pad s):=by
    rw [qMr h0,e1,hC,Int.toNat_natCast,← hs,qMk hf]
   have hhl:(hdr k v.length).length=(C+1) / 2:=by rw [hh,zT,hs]
   refine ⟨hfv, ?_, ?_, ?_⟩
   ·rw [e4];unfold wrF;rw [List.length_append,hhl];omega
   ·unfold wrF;rw [List.length_append,hhl];omega
   ·unfold wrF
    rw [List.length_append,hhl,← Nat.add_assoc,List.append_assoc,← qjF e6,hh]
    exact qjF ht
 ·rw [if_neg h0] at h
  obtain ⟨L,hL⟩:∃ n:Nat,l=n:=⟨l.toNat,by omega⟩
  rw [hL] at h
  obtain ⟨e1,e2,e3,e4,e5,e6⟩:=qJA hA (by omega) h
  rw [← hL] at e3
  have hfv:fv k l v:=by
   by_cases h2:k≤2
   ·exact qJV h2 (e2 h2) ((qzV hk h0).2 (by omega))
   ·exact e3 h2
  refine ⟨hfv, ?_, ?_, ?_⟩ <;> unfold wrF <;> rw [qKr h0,List.nil_append]
  ·exact e4
  ·exact e5
  ·exact qjF e6
theorem qOn {k:Int} {v:BB} (hk:kinds k) (h:v.length≤400):(wrF k v).length≤402:=by
 rw [qnA hk];repeat' split
 all_goals omega
theorem qMG {k:Int} {v:BB} (hk:kinds k) (h:1≤v.length):1≤(wrF k v).length:=by
 rw [qnA hk];repeat' split
 all_goals omega
end Yp
namespace Yp
open Go
abbrev V:=Int×BB×Unit
abbrev M:=Int×List V×Unit
def xC (m:Int):Prop:=100≤m∧m≤899∧m / 10 % 10≤4∧m % 10≤5
instance (m:Int):Decidable (xC m):=inferInstanceAs (Decidable (_∧_))
theorem qbY (m:Int) (n:Nat) (hn:n≤3) (h0:0≤m) (h:m≤9223372036854775807):qa0 (m,(n:Int),())=some (m / 10 ^ n % 10,()):=by
 unfold qa0
 generalize hf:(fun (x_1:Int×Int×Unit)=>_)=f
 have step:∀ (k:Int) (i:Nat),i < n→0≤k→k≤9223372036854775807→f (k,(i:Int),())=some (.nx (k / 10,((i+1:Nat):Int),())):=fun k i hi h0 h1=>by
  subst hf;simp (disch:=first | assumption | omega | (dsimp only;omega) | decide) only [go_sem,Int.reduceToNat]
 have last:∀ (k:Int),f (k,(n:Int),())=some (.ex 0 (k,(n:Int),())):=fun k=>by
  subst hf;simp (disch:=first | assumption | omega | (dsimp only;omega) | decide) only [go_sem,Int.reduceToNat]
 have hn:n=0∨n=1∨n=2∨n=3:=by omega
 have e:loop f (m,((0:Nat):Int),())=some (.ex 0 (m / 10 ^ n,(n:Int),())):=by
  rcases hn with rfl | rfl | rfl | rfl
  ·rw [qT (last m)];simp
  ·rw [x3 (step m 0 (by omega) h0 h),qT (last _)];simp
  ·rw [x3 (step m 0 (by omega) h0 h),x3 (step _ 1 (by omega) (by omega) (by omega)),qT (last _)];simp;omega
  ·rw [x3 (step m 0 (by omega) h0 h),x3 (step _ 1 (by omega) (by omega) (by omega)),x3 (step _ 2 (by omega) (by omega) (by omega)),qT (last _)];simp;omega
 refine (qZ e).trans ?_
 have:0≤m / 10 ^ n:=by rcases hn with rfl | rfl | rfl | rfl <;> simp <;> omega
 simp (disch:=first | assumption | omega | (dsimp only;omega) | decide) only [go_sem,Int.reduceToNat]
theorem qzO (m:Int):qqT (m,())=some (D (xC m),()):=by
 unfold qqT
 by_cases h:m < 0∨999 < m
 ·have hn:¬ xC m:=by unfold xC;omega
  simp (disch:=first | assumption | omega | (dsimp only;omega) | decide) only [go_sem,Int.reduceToNat,hn]
 ·have h0:=qbY m 0 (by omega) (by omega) (by omega)
  have h1:=qbY m 1 (by omega) (by omega) (by omega)
  have h2:=qbY m 2 (by omega) (by omega) (by omega)
  simp at h0 h1 h2
  simp (disch:=first | assumption | omega | (dsimp only;omega) | decide) only [go_sem,Int.reduceToNat,h0,h1,h2]
  exact zH (by unfold xC;omega)
theorem qbM (m:Int):qdX (m,())=some (D (xC m),()):=by
 unfold qdX
 by_cases h:100≤m∧m≤899
 ·simp (disch:=first | assumption | omega | (dsimp only;omega) | decide) only [go_sem,Int.reduceToNat]
  exact zH (by unfold xC;omega)
 ·have hn:¬ xC m:=by unfold xC;omega
  simp (disch:=first | assumption | omega | (dsimp only;omega) | decide) only [go_sem,Int.reduceToNat,hn]
def vH:Int→List V→Bool
 | _,[]=>true
 | last,v :: r=>decide (last < v.1) && (xR v.1 v.2.1 && vH v.1 r)
def kD (m:M):Bool:=vH 0 m.2.1 && decide (xC m.1)
def fewM (m:M):Prop:=m.2.1.length≤1000∧∀ v∈m.2.1,v.2.1.length≤1000000
theorem fewM.nth {m:M} (h:fewM m) {i:Nat} (hi:i < m.2.1.length):(m.2.1[i]).2.1.length≤1000000:=h.2 _ (List.getElem_mem hi)
def jK (last:Int) (v:V):LS Int (Bool×Unit):=if last < v.1∧xR v.1 v.2.1=true then .nx v.1 else .rt (false,())
theorem qkO {σ:Type} {mk:Int→Nat→σ} {e:Nat}:∀ (l:List V) (last:Int) (i:Nat),(vH last l=true∧∃ y,wT mk e jK last i l = .ex e y)∨(vH last l=false∧wT mk e jK last i l = .rt (false,()))
 | [],last,i => .inl ⟨rfl,_,rfl⟩
 | v :: r,last,i=>by
  by_cases h:last < v.1∧xR v.1 v.2.1=true
  ·have hs:jK last v = .nx v.1:=if_pos h
   have:=qkO (mk:=mk) (e:=e) r v.1 (i+1)
   simp only [wT,hs,vH,h.1,h.2,decide_true,Bool.true_and];exact this
  ·have hs:jK last v = .rt (false,()):=if_neg h
   refine .inr ⟨?_,by simp only [wT,hs]⟩
   simp only [vH,Bool.and_eq_false_iff,decide_eq_false_iff_not]
   by_cases h1:last < v.1
   ·right;left;exact (Bool.not_eq_true _).mp fun hc=>h ⟨h1,hc⟩
   ·exact .inl h1
theorem qvS (m:M) (hm:fewM m):qmB (m,())=some (kD m,()):=by
 unfold qmB
 generalize hf:(fun (x_1:Bool×Int×Int×Unit)=>_)=f
 have hl:=hm.1
 have key:=xP (f:=f) m.2.1 (fun last i=>(false,last,(i:Int),())) 0 jK (fun _ _=>True) (fun b i h _=>⟨?_,fun _ _=>trivial⟩) (fun b _ => ?_) 0 trivial
 ·refine (qZ key).trans ?_
  unfold kD
  rcases qkO (mk:=fun last i=>((false,last,(i:Int),()):Bool×Int×Int×Unit)) (e:=0) m.2.1 0 0 with ⟨h1,y,h2⟩ | ⟨h1,h2⟩
  ·rw [h1,h2];simp (disch:=first | assumption | omega | (dsimp only;omega) | decide) only [go_sem,Int.reduceToNat,qzO,Bool.true_and]
  ·rw [h1,h2];simp (disch:=first | assumption | omega | (dsimp only;omega) | decide) only [go_sem,Int.reduceToNat,Bool.false_and]
 ·subst hf
  have:=hm.nth h
  have hfd:=qb0 (m.2.1[i]).1 (m.2.1[i]).2.1 this
  by_cases h1:m.2.1[i].1≤b
  ·have hs:jK b m.2.1[i] = .rt (false,()):=if_neg fun hc=>by omega
   simp (disch:=first | assumption | omega | (dsimp only;omega) | decide) only [go_sem,Int.reduceToNat,hs,qaA]
  ·cases h2:xR (m.2.1[i]).1 (m.2.1[i]).2.1
   ·have hs:jK b m.2.1[i] = .rt (false,()):=if_neg fun hc=>by rw [h2] at hc;exact absurd hc.2 (by simp)
    simp (disch:=first | assumption | omega | (dsimp only;omega) | decide) only [go_sem,Int.reduceToNat,hfd,h2,hs,qaA]
   ·have hs:jK b m.2.1[i] = .nx m.2.1[i].1:=if_pos ⟨by omega,h2⟩
    simp (disch:=first | assumption | omega | (dsimp only;omega) | decide) only [go_sem,Int.reduceToNat,hfd,h2,hs,qaA]
 ·subst hf;simp (disch:=first | assumption | omega | (dsimp only;omega) | decide) only [go_sem,Int.reduceToNat]
theorem qIm {no:Int} (h:no≤0):zD no=none:=by
 unfold zD
 rw [Option.map_eq_none_iff,List.find?_eq_none]
 have:∀ r∈frows,∀ c∈r.drop 2,1≤c:=by decide +kernel
 intro r hr hc
 rw [List.contains_eq_mem,decide_eq_true_eq] at hc
 have:=this r hr no hc
 omega
theorem qKB {no:Int} {v:BB} (h:xR no v=true):1≤no:=by
 refine Classical.byContradiction fun hc => ?_
 unfold xR at h
 rw [qIm (by omega)] at h
 exact absurd h (by simp)
theorem qp6 (m:M) (hm:fewM m):qe7 (m,())=some (kD m,()):=by
 unfold qe7
 generalize hf:(fun (x_1:Bool×Int×Unit)=>_)=f
 have hl:=hm.1
 have key:=xP (f:=f) m.2.1 (fun (last:Int) i=>(false,(i:Int),())) 0 jK (fun b i=>(i=0∧b=0)∨∃ h:i - 1 < m.2.1.length,0 < i∧m.2.1[i - 1].1=b) (fun b i h hI=>⟨?_,fun b' hb => ?_⟩) (fun b _ => ?_) 0 (.inl ⟨rfl,rfl⟩)
 ·refine (qZ key).trans ?_
  unfold kD
  rcases qkO (mk:=fun (last:Int) i=>((false,(i:Int),()):Bool×Int×Unit)) (e:=0) m.2.1 0 0 with ⟨h1,y,h2⟩ | ⟨h1,h2⟩
  ·rw [h1,h2];simp (disch:=first | assumption | omega | (dsimp only;omega) | decide) only [go_sem,Int.reduceToNat,qbM,Bool.true_and]
  ·rw [h1,h2];simp (disch:=first | assumption | omega | (dsimp only;omega) | decide) only [go_sem,Int.reduceToNat,Bool.false_and]
 ·subst hf
  have:=hm.nth h
  have hfd:=qsF (m.2.1[i]).1 (m.2.1[i]).2.1 this
  cases h2:xR (m.2.1[i]).1 (m.2.1[i]).2.1
  ·have hs:jK b m.2.1[i] = .rt (false,()):=if_neg fun hc=>by rw [h2] at hc;exact absurd hc.2 (by simp)
   simp (disch:=first | assumption | omega | (dsimp only;omega) | decide) only [go_sem,Int.reduceToNat,hfd,h2,hs,qaA]
  ·have hp:=qKB h2
   rcases hI with ⟨rfl,rfl⟩ | ⟨h',h0,rfl⟩
   ·have hs:jK 0 m.2.1[0] = .nx m.2.1[0].1:=if_pos ⟨by omega,h2⟩
    simp (disch:=first | assumption | omega | (dsimp only;omega) | decide) only [go_sem,Int.reduceToNat,hfd,h2,hs,qaA]
   ·have hq:((i:Int) - 1).toNat=i - 1:=by omega
    by_cases h1:m.2.1[i].1≤m.2.1[i - 1].1
    ·have hs:jK m.2.1[i - 1].1 m.2.1[i] = .rt (false,()):=if_neg fun hc=>by omega
     simp (disch:=first | assumption | omega | (dsimp only;omega) | decide) only [go_sem,Int.reduceToNat,hfd,h2,hs,qaA,hq]
    ·have hs:jK m.2.1[i - 1].1 m.2.1[i] = .nx m.2.1[i].1:=if_pos ⟨by omega,h2⟩
     simp (disch:=first | assumption | omega | (dsimp only;omega) | decide) only [go_sem,Int.reduceToNat,hfd,h2,hs,qaA,hq]
 ·right
  refine ⟨by simpa using h,by omega, ?_⟩
  simp only [Nat.add_sub_cancel]
  unfold jK at hb
  split at hb
  ·cases hb;rfl
  ·cases hb
 ·subst hf;simp (disch:=first | assumption | omega | (dsimp only;omega) | decide) only [go_sem,Int.reduceToNat]
theorem qqJ (a b:BB):qb4 (a,b,())=some (D (a=b),()):=by unfold qb4;simp (disch:=first | assumption | omega | (dsimp only;omega) | decide) only [go_sem,Int.reduceToNat]
end Yp
namespace Yp
open Go
set_option linter.unusedVariables false
set_option linter.unusedSimpArgs false
abbrev N:=Bool×Int×Int×Int×Int×BB×BB×Int×Unit
def kL (c:Int):Prop:=c=1∨c=2∨c=101∨c=201∨c=301
instance (c:Int):Decidable (kL c):=by unfold kL;infer_instance
def qs2 (n:N):Prop :=
 if n.1=true∧n.2.1=101 then 1≤n.2.2.2.2.1∧n.2.2.2.2.1≤2147483647∧n.2.2.2.2.2.1.length=8∧n.2.2.2.2.2.2.1.length=3∧n.2.2.2.2.2.2.2.1=0
 else n.2.2.2.2.1=0∧n.2.2.2.2.2.1=[]∧n.2.2.2.2.2.2.1=[]∧(if n.1=true∧n.2.1=201 then 0≤n.2.2.2.2.2.2.2.1∧n.2.2.2.2.2.2.2.1≤999999 else n.2.2.2.2.2.2.2.1=0)
instance (n:N):Decidable (qs2 n):=by unfold qs2;infer_instance
def z6 (n:N):Prop:=kL n.2.1∧1≤n.2.2.1∧n.2.2.1≤999999∧0≤n.2.2.2.1∧n.2.2.2.1≤99∧(n.1=true→n.2.2.2.1=0)∧qs2 n
instance (n:N):Decidable (z6 n):=by unfold z6;infer_instance
theorem qf7 (c:Int):qbF (c,())=some (D (kL c),()):=by
 unfold qbF kL
 by_cases h1:c=1 <;> by_cases h2:c=2 <;> by_cases h3:c=101 <;> by_cases h4:c=201 <;> by_cases h5:c=301 <;> simp (disch:=first | assumption | omega | (dsimp only;omega) | decide) only [go_sem,Int.reduceToNat,h1,h2,h3,h4,h5]
theorem qa7 {p q:Prop} (h:p↔q):(some (D p,()):Option (Bool×Unit))=some (D q,()):=by rw [show p=q from propext h]
theorem qwJ {q:Prop} (h:¬ q):(some (false,()):Option (Bool×Unit))=some (D q,()):=by rw [D_f h]
theorem len0 {α:Type} {l:List α}:((l.length:Int)=0)↔l=[]:=by rw [← List.length_eq_zero_iff];omega
theorem jE {rq:Bool} {c st rs g:Int} {no k:BB} {d:Int}:z6 (rq,c,st,rs,g,no,k,d,())↔(kL c∧1≤st∧st≤999999∧0≤rs∧rs≤99∧(rq=true→rs=0) ∧
  (if rq=true∧c=101 then 1≤g∧g≤2147483647∧no.length=8∧k.length=3∧d=0 else g=0∧(no.length:Int)=0∧(k.length:Int)=0∧(if rq=true∧c=201 then 0≤d∧d≤999999 else d=0))):=by
 unfold z6 qs2
 simp only [len0]
theorem qEr {α:Type} {p:Prop} {x y z:α} (h1:p→x=z) (h2:¬ p→y=z):sel (D p) x y=z:=by
 by_cases h:p
 ·rw [D_t h];exact h1 h
 ·rw [D_f h];exact h2 h
theorem qf6 (n:N):qeV (n,())=some (D (z6 n),()):=by
 obtain ⟨rq,c,st,rs,g,no,k,d,⟨⟩⟩:=n
 unfold qeV
 simp (disch:=first | assumption | omega | (dsimp only;omega) | decide) only [go_sem,Int.reduceToNat,qf7]
 show _=some (D (z6 (rq,c,st,rs,g,no,k,d,())),())
 cases rq
 ·simp only [band,bor,Bool.false_and,Bool.or_false,sel,cond_false]
  refine qEr (fun h=>qwJ fun hr => ?_) fun h=>qEr (fun h2=>qwJ fun hr => ?_) fun h2=>qa7 ?_
  all_goals simp only [jE] at *
  all_goals grind
 ·simp only [band,bor,Bool.true_and,sel]
  rw [show (D ((((¬kL c∨st < 1)∨999999 < st)∨rs < 0)∨99 < rs) || D (¬rs=0))=D (((((¬kL c∨st < 1)∨999999 < st)∨rs < 0)∨99 < rs)∨¬rs=0) from qiB (by rw [Bool.or_eq_true,qiA,qiA])]
  refine qEr (fun h=>qwJ fun hr => ?_) fun h=>qEr (fun h2=>qa7 ?_) fun h2=>qEr (fun h3=>qwJ fun hr => ?_) fun h3=>qEr (fun h4=>qa7 ?_) fun h4=>qa7 ?_
  all_goals simp only [jE] at *
  all_goals grind
theorem qhC (n:N):qi9 (n,())=some (D (z6 n),()):=by
 obtain ⟨rq,c,st,rs,g,no,k,d,⟨⟩⟩:=n
 unfold qi9 qsU qbU qbV wJ qkJ
 simp (disch:=first | assumption | omega | (dsimp only;omega) | decide) only [go_sem,Int.reduceToNat]
 show _=some (D (z6 (rq,c,st,rs,g,no,k,d,())),())
 rw [show bor (D (((st < 1∨999999 < st)∨rs < 0)∨99 < rs)) (band rq (D (0 < rs)))=D ((((st < 1∨999999 < st)∨rs < 0)∨99 < rs)∨(rq=true∧0 < rs)) from qiB (by simp [bor,band,qiA])]
 refine qEr (fun h=>qwJ fun hr => ?_) fun h => ?_
 ·simp only [jE] at hr;grind
 rw [show band (D (c=101)) rq=D (c=101∧rq=true) from qiB (by simp [band,qiA]),show band (D (c=201)) rq=D (c=201∧rq=true) from qiB (by simp [band,qiA])]
 by_cases h1:c=101∧rq=true
 ·simp (disch:=first | assumption | omega | (dsimp only;omega) | decide) only [go_sem,Int.reduceToNat,h1,D_t h1]
  refine qa7 ?_
  simp only [jE,kL];grind
 ·by_cases h2:c=201∧rq=true
  ·simp (disch:=first | assumption | omega | (dsimp only;omega) | decide) only [go_sem,Int.reduceToNat,D_f h1,D_t h2]
   refine qa7 ?_
   simp only [jE,kL];grind
  ·by_cases h3:(((c=1∨c=2)∨c=101)∨c=201)∨c=301
   ·simp (disch:=first | assumption | omega | (dsimp only;omega) | decide) only [go_sem,Int.reduceToNat,D_f h1,D_f h2,D_t h3]
    refine qa7 ?_
    simp only [jE,kL];grind
   ·simp (disch:=first | assumption | omega | (dsimp only;omega) | decide) only [go_sem,Int.reduceToNat,D_f h1,D_f h2,D_f h3]
    refine qwJ fun hr => ?_
    simp only [jE,kL] at hr;grind
end Yp
namespace Yp
open Go
def mkb (g:Nat→Bool):UInt8:=UInt8.ofNat ((g 0).toNat*128+(g 1).toNat*64+(g 2).toNat*32+(g 3).toNat*16+(g 4).toNat*8+(g 5).toNat*4+(g 6).toNat*2+(g 7).toNat)
theorem qPt:∀ b0 b1 b2 b3 b4 b5 b6 b7:Bool,bt (UInt8.ofNat (b0.toNat*128+b1.toNat*64+b2.toNat*32+b3.toNat*16+b4.toNat*8+b5.toNat*4+b6.toNat*2+b7.toNat)) 0=b0 ∧
  bt (UInt8.ofNat (b0.toNat*128+b1.toNat*64+b2.toNat*32+b3.toNat*16+b4.toNat*8+b5.toNat*4+b6.toNat*2+b7.toNat)) 1=b1∧bt (UInt8.ofNat (b0.toNat*128+b1.toNat*64+b2.toNat*32+b3.toNat*16+b4.toNat*8+b5.toNat*4+b6.toNat*2+b7.toNat)) 2=b2 ∧
  bt (UInt8.ofNat (b0.toNat*128+b1.toNat*64+b2.toNat*32+b3.toNat*16+b4.toNat*8+b5.toNat*4+b6.toNat*2+b7.toNat)) 3=b3∧bt (UInt8.ofNat (b0.toNat*128+b1.toNat*64+b2.toNat*32+b3.toNat*16+b4.toNat*8+b5.toNat*4+b6.toNat*2+b7.toNat)) 4=b4 ∧
  bt (UInt8.ofNat (b0.toNat*128+b1.toNat*64+b2.toNat*32+b3.toNat*16+b4.toNat*8+b5.toNat*4+b6.toNat*2+b7.toNat)) 5=b5∧bt (UInt8.ofNat (b0.toNat*128+b1.toNat*64+b2.toNat*32+b3.toNat*16+b4.toNat*8+b5.toNat*4+b6.toNat*2+b7.toNat)) 6=b6 ∧
  bt (UInt8.ofNat (b0.toNat*128+b1.toNat*64+b2.toNat*32+b3.toNat*16+b4.toNat*8+b5.toNat*4+b6.toNat*2+b7.toNat)) 7=b7:=by decide +kernel
theorem qHG {g:Nat→Bool} {t:Nat} (ht:t < 8):bt (mkb g) t=g t:=by
 obtain ⟨h0,h1,h2,h3,h4,h5,h6,h7⟩:=qPt (g 0) (g 1) (g 2) (g 3) (g 4) (g 5) (g 6) (g 7)
 have:t=0∨t=1∨t=2∨t=3∨t=4∨t=5∨t=6∨t=7:=by omega
 rcases this with rfl | rfl | rfl | rfl | rfl | rfl | rfl | rfl <;> assumption
theorem qMo:∀ c:UInt8,mkb (bt c)=c:=all8 (by decide +kernel)
theorem qHF {c d:UInt8} (h:∀ t,t < 8→bt c t=bt d t):c=d:=by
 rw [← qMo c,← qMo d]
 unfold mkb
 rw [h 0 (by omega),h 1 (by omega),h 2 (by omega),h 3 (by omega),h 4 (by omega),h 5 (by omega),h 6 (by omega),h 7 (by omega)]
theorem qJ2 {g h:Nat→Bool} (e:∀ t,t < 8→g t=h t):mkb g=mkb h:=qHF fun t ht=>by rw [qHG ht,qHG ht,e t ht]
def bitB (t:Nat):UInt8:=UInt8.ofNat (2 ^ (7 - t))
theorem qN5:∀ t:Nat,t < 8→u8 (shrI .u8 128 (t:Int))=bitB t:=by decide +kernel
theorem qOW:∀ c:UInt8,∀ t:Nat,t < 8→u8 (orI .u8 (n8 c) (n8 (bitB t)))=mkb fun s=>bt c s || Nat.beq s t:=all8 (by decide +kernel)
theorem qOe:∀ c:UInt8,∀ t:Nat,t < 8→bt c t=false→u8 (iadd (n8 c) (n8 (bitB t)))=mkb fun s=>bt c s || Nat.beq s t:=all8 (by decide +kernel)
theorem qOd:∀ c:UInt8,∀ t:Nat,t < 8→(bnot (beq (n8 (u8 (andI .u8 (n8 c) (n8 (bitB t))))) (n8 (u8 0))))=bt c t:=all8 (by decide +kernel)
theorem qoG {n:Nat} (h1:1≤n) (h2:n≤128):wV ((n:Int),())=some ((((n - 1) / 8:Nat):Int),bitB ((n - 1) % 8),()):=by
 unfold wV
 simp (disch:=first | assumption | omega | (dsimp only;omega) | decide) only [go_sem,Int.reduceToNat]
 have e1:((n:Int) - 1) / 8=(((n - 1) / 8:Nat):Int):=by omega
 have e2:((n:Int) - 1) % 8=(((n - 1) % 8:Nat):Int):=by omega
 rw [e1,e2,← qN5 _ (by omega)]
theorem qgD {n:Nat} (h1:1≤n) (h2:n≤128):v8 ((n:Int),())=some ((((n - 1) / 8:Nat):Int),bitB ((n - 1) % 8),()):=by
 unfold v8
 generalize hf:(fun (x_1:Int×Int×Unit)=>_)=f
 have step:∀ i:Nat,i < (n - 1) % 8→f (((2 ^ (7 - i):Nat):Int),(i:Int),())=some (.nx (((2 ^ (7 - (i+1)):Nat):Int),((i+1:Nat):Int),())):=fun i hi=>by
  subst hf
  have hp:i=0∨i=1∨i=2∨i=3∨i=4∨i=5∨i=6:=by omega
  rcases hp with rfl | rfl | rfl | rfl | rfl | rfl | rfl <;> (simp (disch:=first | assumption | omega | (dsimp only;omega) | decide) only [go_sem,Int.reduceToNat];rfl)
 have last:f (((2 ^ (7 - (n - 1) % 8):Nat):Int),(((n - 1) % 8:Nat):Int),())=some (.ex 0 (((2 ^ (7 - (n - 1) % 8):Nat):Int),(((n - 1) % 8:Nat):Int),())):=by
  subst hf;simp (disch:=first | assumption | omega | (dsimp only;omega) | decide) only [go_sem,Int.reduceToNat]
 have e:=qN (f:=f) (fun i=>(((2 ^ (7 - i):Nat):Int),(i:Int),())) ((n - 1) % 8) step 0 (by omega)
 have e:loop f (128,0,())=_:=e.trans (qT last)
 simp (disch:=first | assumption | omega | (dsimp only;omega) | decide) only [go_sem,Int.reduceToNat,e]
 have e1:((n:Int) - 1) / 8=(((n - 1) / 8:Nat):Int):=by omega
 rw [e1];unfold bitB;rw [qq7]
def z2:Int→List Int→Bool
 | _,[]=>true
 | last,n :: r=>decide (last < n∧n≤128∧n≠65) && z2 n r
def qdM (last n:Int):LS Int (Bool×Unit):=if last < n∧n≤128∧n≠65 then .nx n else .rt (false,())
theorem qzU {σ:Type} {mk:Int→Nat→σ} {e:Nat}:∀ (l:List Int) (last:Int) (i:Nat),(z2 last l=true∧∃ y,wT mk e qdM last i l = .ex e y)∨(z2 last l=false∧wT mk e qdM last i l = .rt (false,()))
 | [],last,i => .inl ⟨rfl,_,rfl⟩
 | n :: r,last,i=>by
  by_cases h:last < n∧n≤128∧n≠65
  ·have hs:qdM last n = .nx n:=if_pos h
   have:=qzU (mk:=mk) (e:=e) r n (i+1)
   simp only [wT,hs,z2,decide_eq_true h,Bool.true_and];exact this
  ·have hs:qdM last n = .rt (false,()):=if_neg h
   refine .inr ⟨?_,by simp only [wT,hs]⟩
   simp only [z2,decide_eq_false h,Bool.false_and]
theorem wC (l:List Int) (hl:l.length≤1000000):qcM (l,())=some (z2 1 l,()):=by
 unfold qcM
 generalize hf:(fun (x_1:Bool×Int×Int×Unit)=>_)=f
 have key:=xP (f:=f) l (fun last i=>(false,last,(i:Int),())) 0 qdM (fun _ _=>True) (fun b i h _=>⟨?_,fun _ _=>trivial⟩) (fun b _ => ?_) 1 trivial
 ·refine (qZ key).trans ?_
  rcases qzU (mk:=fun last i=>((false,last,(i:Int),()):Bool×Int×Int×Unit)) (e:=0) l 1 0 with ⟨h1,y,h2⟩ | ⟨h1,h2⟩
  ·rw [h1,h2];simp (disch:=first | assumption | omega | (dsimp only;omega) | decide) only [go_sem,Int.reduceToNat]
  ·rw [h1,h2];simp (disch:=first | assumption | omega | (dsimp only;omega) | decide) only [go_sem,Int.reduceToNat]
 ·subst hf
  by_cases h1:b < l[i]∧l[i]≤128∧l[i]≠65
  ·have hs:qdM b l[i] = .nx l[i]:=if_pos h1
   simp (disch:=first | assumption | omega | (dsimp only;omega) | decide) only [go_sem,Int.reduceToNat,hs,qaA]
  ·have hs:qdM b l[i] = .rt (false,()):=if_neg h1
   simp (disch:=first | assumption | omega | (dsimp only;omega) | decide) only [go_sem,Int.reduceToNat,hs,qaA]
 ·subst hf;simp (disch:=first | assumption | omega | (dsimp only;omega) | decide) only [go_sem,Int.reduceToNat]
theorem wZ (l:List Int) (hl:l.length≤1000000):qe9 (l,())=some (z2 1 l,()):=by
 unfold qe9
 generalize hf:(fun (x_1:Bool×Int×Unit)=>_)=f
 have key:=xP (f:=f) l (fun (last:Int) i=>(false,(i:Int),())) 0 qdM (fun b i=>(i=0∧b=1)∨∃ h:i - 1 < l.length,0 < i∧l[i - 1]=b∧2≤b) (fun b i h hI=>⟨?_,fun b' hb => ?_⟩) (fun b _ => ?_) 1 (.inl ⟨rfl,rfl⟩)
 ·refine (qZ key).trans ?_
  rcases qzU (mk:=fun (last:Int) i=>((false,(i:Int),()):Bool×Int×Unit)) (e:=0) l 1 0 with ⟨h1,y,h2⟩ | ⟨h1,h2⟩
  ·rw [h1,h2];simp (disch:=first | assumption | omega | (dsimp only;omega) | decide) only [go_sem,Int.reduceToNat]
  ·rw [h1,h2];simp (disch:=first | assumption | omega | (dsimp only;omega) | decide) only [go_sem,Int.reduceToNat]
 ·subst hf
  rcases hI with ⟨rfl,rfl⟩ | ⟨h',h0,hb,h2⟩
  ·by_cases h1:1 < l[0]∧l[0]≤128∧l[0]≠65
   ·have hs:qdM 1 l[0] = .nx l[0]:=if_pos h1
    simp (disch:=first | assumption | omega | (dsimp only;omega) | decide) only [go_sem,Int.reduceToNat,hs,qaA]
   ·have hs:qdM 1 l[0] = .rt (false,()):=if_neg h1
    simp (disch:=first | assumption | omega | (dsimp only;omega) | decide) only [go_sem,Int.reduceToNat,hs,qaA]
  ·have hq:((i:Int) - 1).toNat=i - 1:=by omega
   by_cases h1:b < l[i]∧l[i]≤128∧l[i]≠65
   ·have hs:qdM b l[i] = .nx l[i]:=if_pos h1
    simp (disch:=first | assumption | omega | (dsimp only;omega) | decide) only [go_sem,Int.reduceToNat,hs,qaA,hq]
   ·have hs:qdM b l[i] = .rt (false,()):=if_neg h1
    simp (disch:=first | assumption | omega | (dsimp only;omega) | decide) only [go_sem,Int.reduceToNat,hs,qaA,hq]
 ·right
  have hb1:b'=l[i]∧b < l[i]:=by
   unfold qdM at hb
   split at hb
   ·rename_i hc;cases hb;exact ⟨rfl,hc.1⟩
   ·cases hb
  refine ⟨by simpa using h,by omega, ?_, ?_⟩
  ·simp only [Nat.add_sub_cancel];exact hb1.1.symm
  ·rcases hI with ⟨_,rfl⟩ | ⟨_,_,_,h2⟩ <;> omega
 ·subst hf;simp (disch:=first | assumption | omega | (dsimp only;omega) | decide) only [go_sem,Int.reduceToNat]
def xB (size:Nat) (S:Nat→Bool):BB:=(List.range size).map fun j=>mkb fun t=>S (8*j+t+1)
theorem x5 {size:Nat} {S:Nat→Bool}:(xB size S).length=size:=by simp [xB]
theorem qGV {size:Nat} {S:Nat→Bool} {j:Nat} (h:j < size):nth (xB size S) j (u8 0)=mkb fun t=>S (8*j+t+1):=by
 rw [qL (by rw [x5];exact h)];simp [xB]
theorem qhS {size:Nat} {S:Nat→Bool} {n:Nat} (h1:1≤n) (h2:n≤8*size):hasB (xB size S) n=S n:=by
 unfold hasB
 rw [qGV (by omega),qHG (by omega)]
 congr 1;omega
theorem qJk {a b:BB} (hl:a.length=b.length) (h:∀ n,1≤n→n≤8*a.length→hasB a n=hasB b n):a=b:=by
 refine List.ext_getElem hl fun j h1 h2=>qHF fun t ht => ?_
 have:=h (8*j+t+1) (by omega) (by omega)
 unfold hasB at this
 rw [show (8*j+t+1 - 1) / 8=j by omega,show (8*j+t+1 - 1) % 8=t by omega,qL h1,qL h2] at this
 exact this
theorem qy2 {size:Nat} {S S':Nat→Bool} (h:∀ n,1≤n→n≤8*size→S n=S' n):xB size S=xB size S':=qJk (by rw [x5,x5]) fun n h1 h2=>by
 rw [x5] at h2;rw [qhS h1 h2,qhS h1 h2,h n h1 h2]
theorem qJx (size:Nat):rep size (u8 0)=xB size fun _=>false:=by
 refine List.ext_getElem (by simp [rep,xB]) fun j h1 h2 => ?_
 simp only [rep,List.getElem_replicate,xB,List.getElem_map]
 decide
def setS (S:Nat→Bool) (n:Nat):Nat→Bool:=fun m=>S m || Nat.beq m n
theorem qI6 {size:Nat} {S:Nat→Bool} {n:Nat} (h1:1≤n) (h2:n≤8*size) {c:UInt8} (hc:c=mkb fun s=>bt (nth (xB size S) ((n - 1) / 8) (u8 0)) s || Nat.beq s ((n - 1) % 8)):upd (xB size S) ((n - 1) / 8) c=xB size (setS S n):=by
 refine List.ext_getElem (by simp [upd,xB]) fun j h3 h4 => ?_
 rw [x5] at h4
 have hg:=qGV (S:=S) (show (n - 1) / 8 < size by omega)
 simp only [upd,List.getElem_set]
 split
 ·rename_i hj
  subst hj
  rw [hc,hg]
  simp only [xB,List.getElem_map,List.getElem_range]
  refine qJ2 fun t ht => ?_
  rw [qHG ht];unfold setS
  congr 1
  refine Bool.eq_iff_iff.2 ?_
  simp only [Nat.beq_eq]
  omega
 ·rename_i hj
  simp only [xB,List.getElem_map,List.getElem_range]
  refine qJ2 fun t ht => ?_
  unfold setS
  have:Nat.beq (8*j+t+1) n=false:=by
   refine (Bool.not_eq_true _).mp fun hb=>hj ?_
   have:=Nat.eq_of_beq_eq_true hb
   omega
  rw [this,Bool.or_false]
def qcN (l:List Int):Bool:=decide (0 < l.length) && decide (64 < nth l (l.length - 1) 0)
def memI (l:List Int) (n:Nat):Bool:=decide ((n:Int)∈l)
def bmW (l:List Int):BB:=if qcN l=true then xB 16 (memI (1 :: l)) else xB 8 (memI l)
theorem xY {l:List Int}:∀ {last:Int},z2 last l=true→∀ n∈l,last < n∧n≤128∧n≠65:=by
 induction l with
 | nil=>intro _ _ n hn;cases hn
 | cons x r ih =>
  intro last h n hn
  simp only [z2,Bool.and_eq_true,decide_eq_true_eq] at h
  rcases List.mem_cons.1 hn with rfl | hn
  ·exact h.1
  ·have:=ih h.2 n hn
   exact ⟨by omega,this.2⟩
theorem qFk {l:List Int}:∀ {last:Int},z2 last l=true→∀ n∈l,n≤nth l (l.length - 1) 0:=by
 induction l with
 | nil=>intro _ _ n hn;cases hn
 | cons x r ih =>
  intro last h n hn
  simp only [z2,Bool.and_eq_true,decide_eq_true_eq] at h
  cases r with
  | nil=>simp at hn;subst hn;simp [nth]
  | cons y r =>
   have hr:=ih h.2
   have hl:nth (x :: y :: r) ((x :: y :: r).length - 1) 0=nth (y :: r) ((y :: r).length - 1) 0:=by simp [nth]
   rw [hl]
   rcases List.mem_cons.1 hn with rfl | hn
   ·have h1:=(xY h.2 y (by simp)).1
    have:=hr y (by simp)
    omega
   ·exact hr n hn
theorem ql3 {l:List Int} (h:z2 1 l=true) (hw:¬ qcN l=true):∀ n∈l,n≤64:=fun n hn=>by
 have:=qFk h n hn
 unfold qcN at hw
 have h0:0 < l.length:=List.length_pos_of_mem hn
 simp only [Bool.and_eq_true,decide_eq_true_eq,not_and,Int.not_lt] at hw
 have:=hw h0
 omega
theorem qmF {α β σ ρ:Type} {mk:β→Nat→σ} {e:Nat} {step:β→α→LS β ρ} {g:β→α→β} (h:∀ b x,step b x = .nx (g b x)):∀ (l:List α) (b:β) (i:Nat),wT mk e step b i l = .ex e (mk (l.foldl g b) (i+l.length))
 | [],b,i=>rfl
 | x :: r,b,i=>by
  simp only [wT,h,List.foldl_cons,List.length_cons]
  rw [qmF h r (g b x) (i+1)]
  congr 2;omega
theorem qD5 {f:Int×BB×Unit→Option (LS (Int×BB×Unit) (BB×Int×Unit))} {l:List Int} {size:Nat} {S0:Nat→Bool}
  (hs:∀ (S:Nat→Bool) (i:Nat) (h:i < l.length),(∀ m,S m=(S0 m || memI (l.take i) m))→f ((i:Int),xB size S,())=some (.nx (((i+1:Nat):Int),xB size (setS S (l[i]).toNat),())))
  (hr:∀ n∈l,1≤n) (he:∀ x,f ((l.length:Int),x,())=some (.ex 0 ((l.length:Int),x,()))):loop f (0,xB size S0,())=some (.ex 0 ((l.length:Int),xB size (fun m=>S0 m || memI l m),())):=by
 have key:∀ (k i:Nat),k=l.length - i→i≤l.length→loop f ((i:Int),xB size (fun m=>S0 m || memI (l.take i) m),())=some (.ex 0 ((l.length:Int),xB size (fun m=>S0 m || memI l m),())):=by
  intro k
  induction k with
  | zero =>
   intro i hk hi
   have:i=l.length:=by omega
   subst this
   rw [List.take_length]
   exact qT (he _)
  | succ k ih =>
   intro i hk hi
   have hlt:i < l.length:=by omega
   refine (x3 (hs _ i hlt fun m=>rfl)).trans ?_
   have hx:=hr l[i] (List.getElem_mem hlt)
   have:(setS (fun m=>S0 m || memI (l.take i) m) (l[i]).toNat)=fun m=>S0 m || memI (l.take (i+1)) m:=by
    funext m
    unfold setS memI
    rw [Bool.or_assoc]
    congr 1
    refine Bool.eq_iff_iff.2 ?_
    rw [List.take_succ_eq_append_getElem hlt]
    simp only [Bool.or_eq_true,decide_eq_true_eq,Nat.beq_eq,List.mem_append,List.mem_singleton]
    refine or_congr Iff.rfl ?_
    omega
   rw [this]
   exact ih (i+1) (by omega) (by omega)
 have:=key l.length 0 (by omega) (by omega)
 simp only [List.take_zero,memI,List.not_mem_nil,decide_false,Bool.or_false] at this
 exact this
end Yp
namespace Yp
open Go
theorem qMU:upd (rep 16 (u8 0)) 0 (u8 128)=xB 16 (fun m=>Nat.beq m 1):=by decide +kernel
theorem qGG {l:List Int} (hl:l.length≤1000000):sel (D (0 < (l.length:Int))) (ck (D (0≤(l.length:Int) - 1∧(l.length:Int) - 1 < (l.length:Int))) (some (D (64 < nth l ((l.length:Int) - 1).toNat 0),()))) (some (false,()))=some (qcN l,()):=by
 have hq:((l.length:Int) - 1).toNat=l.length - 1:=by omega
 by_cases h0:0 < l.length
 ·have e:qcN l=decide (64 < nth l (l.length - 1) 0):=by unfold qcN;rw [decide_eq_true h0,Bool.true_and]
  simp (disch:=first | assumption | omega | (dsimp only;omega) | decide) only [go_sem,Int.reduceToNat,hq,e]
 ·have e:qcN l=false:=by unfold qcN;rw [decide_eq_false h0,Bool.false_and]
  simp (disch:=first | assumption | omega | (dsimp only;omega) | decide) only [go_sem,Int.reduceToNat,e]
theorem qoF (l:List Int) (hl:l.length≤1000000):qcL (l,())=some (if z2 1 l=true then (bmW l,0,()) else ([],1,())):=by
 unfold qcL
 generalize hf:(fun (x_1:Int×BB×Unit)=>_)=f
 have hws:=qGG hl
 cases hr:z2 1 l
 ·simp (disch:=first | assumption | omega | (dsimp only;omega) | decide) only [go_sem,Int.reduceToNat,wC,hr]
 have hm:=xY hr
 have step:∀ (size:Nat),(∀ n∈l,n≤8*(size:Int))→∀ S0:Nat→Bool,loop f (0,xB size S0,())=some (.ex 0 ((l.length:Int),xB size (fun m=>S0 m || memI l m),())):=by
  intro size hle S0
  refine qD5 (fun S i h _ => ?_) (fun n hn=>by have:=hm n hn;omega) (fun x => ?_)
  ·subst hf
   have hx:=hm l[i] (List.getElem_mem h)
   have hx2:=hle l[i] (List.getElem_mem h)
   obtain ⟨N,hN⟩:∃ N:Nat,l[i]=N:=⟨l[i].toNat,by omega⟩
   have hP:=qoG (n:=N) (by omega) (by omega)
   have hrl:(xB size S).length=size:=x5
   have hset:=qI6 (size:=size) (S:=S) (n:=N) (by omega) (by omega) (qOW (nth (xB size S) ((N - 1) / 8) (u8 0)) ((N - 1) % 8) (by omega))
   have hnl:((N - 1) / 8) < (xB size S).length:=by omega
   rw [qL hnl] at hset
   simp (disch:=first | assumption | omega | (dsimp only;omega) | decide) only [go_sem,Int.reduceToNat,hN,hP,hrl,hset]
  ·subst hf;simp (disch:=first | assumption | omega | (dsimp only;omega) | decide) only [go_sem,Int.reduceToNat]
 by_cases hw:qcN l=true
 ·have:=step 16 (fun n hn=>by have:=hm n hn;omega) (fun m=>Nat.beq m 1)
  rw [← qMU] at this
  have e:xB 16 (fun m=>Nat.beq m 1 || memI l m)=bmW l:=by
   unfold bmW;rw [if_pos hw]
   refine qy2 fun n _ _ => ?_
   unfold memI
   refine Bool.eq_iff_iff.2 ?_
   simp only [Bool.or_eq_true,Nat.beq_eq,decide_eq_true_eq,List.mem_cons]
   refine or_congr ?_ Iff.rfl
   omega
  rw [e] at this
  simp (disch:=first | assumption | omega | (dsimp only;omega) | decide) only [go_sem,Int.reduceToNat,wC,hr,hws,hw,this]
 ·have:=step 8 (fun n hn=>by have:=ql3 hr hw n hn;omega) (fun m=>false)
  rw [← qJx] at this
  have hw':qcN l=false:=(Bool.not_eq_true _).mp hw
  have e:xB 8 (fun m=>false || memI l m)=bmW l:=by
   unfold bmW;rw [if_neg hw]
   exact qy2 fun n _ _=>Bool.false_or _
  rw [e] at this
  simp (disch:=first | assumption | omega | (dsimp only;omega) | decide) only [go_sem,Int.reduceToNat,wC,hr,hws,hw',this]
theorem qp7              (l : List Int) (hl : l.length ≤ 1000000) : qe8         (l, ()) = some (if z2     1 l = true then (bmW l, 0, ()) else ([], 1, ())) := by
  unfold qe8        
  have hws := qGG      hl
  generalize hf : (fun (x_1 : Int × List UInt8 × Unit) => _) = f
  generalize hg : (fun (x_1 : Int × List UInt8 × Unit) => (sel (lt x_1.1 (len (app (none' Int) (l, ()).1))) _ _ : Option (LS (Int × List UInt8 × Unit) (List UInt8 × Int × Unit)))) = g
  cases hr : z2     1 l
  · simp (disch := first | assumption | omega | (dsimp only; omega) | decide) only [go_sem, Int.reduceToNat, wZ              , hr]
  have hm := xY         hr
  have hnd : ∀ (last : Int) (l : List Int), z2     last l = true → ∀ i (h : i < l.length), ¬ l[i] ∈ l.take i := by
    intro last l
    induction l generalizing last with
    | nil => intro _ i h; simp at h
    | cons x r ih =>
      intro h i hi
      have hr := (by simpa only [z2    , Bool.and_eq_true, decide_eq_true_eq] using h : _)
      cases i with
      | zero => simp
      | succ i =>
        simp only [List.getElem_cons_succ, List.take_succ_cons, List.mem_cons, not_or]
        have hi' : i < r.length := by simpa using hi
        have := (xY         hr.2 r[i] (List.getElem_mem hi')).1
        exact ⟨by omega, ih x hr.2 i hi'⟩
  have step : ∀ (L : List Int) (size : Nat) (f : Int × List UInt8 × Unit → Option (LS (Int × List UInt8 × Unit) (List UInt8 × Int × Unit))), (fun (x_1 : Int × List UInt8 × Unit) =>
           sel (lt x_1.1 (len L)) (ck (inB x_1.1 (len L)) (ob (v8          (nth L (nat x_1.1) 0, ())) fun (a : Int × UInt8 × Unit) => ck (inB a.1 (len x_1.2.1)) (ck (inB a.1 (len x_1.2.1))
            (some (LS.nx (i64 (iadd x_1.1 1), upd x_1.2.1 (nat a.1) (u8 (iadd (n8 (nth x_1.2.1 (nat a.1) (u8 0))) (n8 a.2.1))), ())))))) (some (LS.ex 0 (x_1.1, x_1.2.1, ())))) = f → L.length ≤ 1000001 → (∀ n ∈ L, 1 ≤ n ∧ n ≤ 128 ∧ n ≤ 8 * (size : Int)) →
      (∀ i (h : i < L.length), ¬ L[i] ∈ L.take i) → loop f (0, rep size (u8 0), ()) = some (.ex 0 ((L.length : Int), xB    size (memI L), ())) := by
    intro L size f hf hl hle hnd
    have := qD5       (f := f) (l := L) (size := size) (S0 := fun _ => false) (fun S i h hS => ?_) (fun n hn => (hle n hn).1) (fun x => ?_)
    · simp only [Bool.false_or] at this
      rw [← qJx    ] at this; exact this
    · subst hf
      have hx := hle L[i] (List.getElem_mem h)
      obtain ⟨N, hN⟩ : ∃ N : Nat, L[i] = N := ⟨L[i].toNat, by omega⟩
      have hP := qgD              (n := N) (by omega) (by omega)
      have hrl : (xB    size S).length = size := x5         
      have hfree : bt (nth (xB    size S) ((N - 1) / 8) (u8 0)) ((N - 1) % 8) = false := by
        have h1 : hasB (xB    size S) N = S N := qhS       (by omega) (by omega)
        unfold hasB at h1
        rw [h1, hS, Bool.false_or]
        unfold memI
        rw [← hN]; exact decide_eq_false (hnd i h)
      have hset := qI6     (size := size) (S := S) (n := N) (by omega) (by omega) (qOe     (nth (xB    size S) ((N - 1) / 8) (u8 0)) ((N - 1) % 8) (by omega) hfree)
      have hnl : ((N - 1) / 8) < (xB    size S).length := by omega
      rw [qL      hnl] at hset
      simp only [iadd] at hset
      simp (disch := first | assumption | omega | (dsimp only; omega) | decide) only [go_sem, Int.reduceToNat, hN, hP, hrl, hset]
    · subst hf; simp (disch := first | assumption | omega | (dsimp only; omega) | decide) only [go_sem, Int.reduceToNat]
  by_cases hw : qcN   l = true
  · have := step (l ++ [1]) 16 _ rfl (by simp; omega) (fun n hn => by
      rcases List.mem_append.1 hn with hn | hn
      · have := hm n hn; omega
      · simp at hn; subst hn; omega) (fun i h => by
      rcases Nat.lt_or_ge i l.length with hi | hi
      · rw [List.getElem_append_left hi, List.take_append_of_le_length (by omega)]; exact hnd 1 l hr i hi
      · have : i = l.length := by simp at h; omega
        subst this
        rw [List.getElem_append_right (by omega), List.take_left]
        simp only [Nat.sub_self, List.getElem_cons_zero]
        intro hc; have := hm 1 hc; omega)
    have e : xB    16 (memI (l ++ [1])) = bmW l := by
      unfold bmW; rw [if_pos hw]
      refine qy2      fun n _ _ => ?_
      unfold memI
      exact Bool.eq_iff_iff.2 (by simp [or_comm])
    rw [e] at this
    have this : loop f (0, rep 16 (u8 0), ()) = some (.ex 0 (((l ++ [1]).length : Int), bmW l, ())) := by rw [← hf]; exact this
    simp (disch := first | assumption | omega | (dsimp only; omega) | decide) only [go_sem, Int.reduceToNat, wZ              , hr, hws, hw, List.length_cons, this]
  · have := step l 8 _ rfl (by omega) (fun n hn => by have := ql3      hr hw n hn; have := hm n hn; omega) (hnd 1 l hr)
    have hw' : qcN   l = false := (Bool.not_eq_true _).mp hw
    have e : xB    8 (memI l) = bmW l := by unfold bmW; rw [if_neg hw]
    rw [e] at this
    have this : loop g (0, rep 8 (u8 0), ()) = some (.ex 0 ((l.length : Int), bmW l, ())) := by rw [← hg]; exact this
    simp (disch := first | assumption | omega | (dsimp only; omega) | decide) only [go_sem, Int.reduceToNat, wZ              , hr, hws, hw', this]
end Yp
namespace Yp
open Go
theorem qcW {c:BB} {n:Nat} (h1:1≤n) (h2:n≤128) (h3:n≤8*c.length):kY (c,(n:Int),())=some (hasB c n,()):=by
 unfold kY
 have hP:=qgD h1 h2
 have hlt:(n - 1) / 8 < c.length:=by omega
 refine (qF hP).trans ((qH (zE hlt)).trans ?_)
 have:=qOd (nth c ((n - 1) / 8) (u8 0)) ((n - 1) % 8) (by omega)
 simp only [qR,this];rfl
theorem qtA {c:BB} {n k:Nat} (h1:1≤n) (h2:n≤8*k) (h3:k≤c.length):hasB (c.take k) n=hasB c n:=by
 unfold hasB
 have h:(n - 1) / 8 < k:=by omega
 rw [qL (by rw [List.length_take];omega),qL (by omega),List.getElem_take]
def outB (c:BB) (k:Nat):List Nat:=(List.range k).filter fun n=>Nat.ble 2 n && hasB c n
theorem qJM (c:BB) (k:Nat) (h:2≤k):outB c (k+1)=outB c k++if hasB c k=true then [k] else []:=by
 unfold outB
 rw [List.range_succ,List.filter_append]
 congr 1
 have:Nat.ble 2 k=true:=Nat.ble_eq_true_of_le h
 simp only [List.filter_cons,this,Bool.true_and,List.filter_nil]
theorem qLw (c:BB):outB c 2=[]:=by
 unfold outB;rw [List.filter_eq_nil_iff]
 intro n hn;rw [List.mem_range] at hn
 have:Nat.ble 2 n=false:=(Bool.not_eq_true _).mp fun hb=>by have:=Nat.le_of_ble_eq_true hb;omega
 rw [this];simp
theorem qsP {c:BB} {k:Nat} (h:k≤c.length):qc0 (c.take k)=outB c (8*k+1):=by
 unfold qc0 outB
 rw [List.length_take,Nat.min_eq_left h]
 refine List.filter_congr fun n hn => ?_
 rw [List.mem_range] at hn
 by_cases h2:2≤n
 ·rw [qtA (by omega) (by omega) h]
 ·have:Nat.ble 2 n=false:=(Bool.not_eq_true _).mp fun hb=>h2 (Nat.le_of_ble_eq_true hb)
  rw [this,Bool.false_and,Bool.false_and]
theorem qFu (c:BB) (k:Nat):(outB c k).Pairwise (· < ·):=List.Pairwise.filter _ List.pairwise_lt_range
theorem qHa {c:BB} {k n:Nat}:n∈outB c k↔n < k∧2≤n∧hasB c n=true:=by
 unfold outB;rw [List.mem_filter,List.mem_range,Bool.and_eq_true,Nat.ble_eq]
theorem qEj {l:List Nat} (h:l.Pairwise (· < ·)) {n:Nat} (hn:n∈l) (h0:l.length - 1 < l.length):n≤l[l.length - 1]:=by
 obtain ⟨i,hi,rfl⟩:=List.getElem_of_mem hn
 rcases Nat.lt_or_ge i (l.length - 1) with hlt | hge
 ·exact Nat.le_of_lt (List.pairwise_iff_getElem.1 h i (l.length - 1) hi h0 hlt)
 ·have:i=l.length - 1:=by omega
  subst this;exact Nat.le_refl _
theorem qNE {l:List Nat} (h:l.Pairwise (· < ·)):(65∈l∨l.length=0∨∃ h0:l.length - 1 < l.length,l[l.length - 1]≤65)↔(65∈l∨∀ n∈l,n < 65):=by
 constructor
 ·rintro (h1 | h1 | ⟨h0,h1⟩)
  ·exact .inl h1
  ·right;intro n hn;rw [List.length_eq_zero_iff.1 h1] at hn;cases hn
  ·by_cases h65:65∈l
   ·exact .inl h65
   ·right;intro n hn
    have:=qEj h hn h0
    have:n≠65:=fun e=>h65 (e ▸ hn)
    omega
 ·rintro (h1 | h1)
  ·exact .inl h1
  ·by_cases h0:l.length=0
   ·exact .inr (.inl h0)
   ·right;right
    refine ⟨by omega, ?_⟩
    have:=h1 _ (List.getElem_mem (show l.length - 1 < l.length by omega))
    omega
theorem qHb (c:BB) (k:Nat):(outB c k).length≤k:=by
 unfold outB
 have:=List.length_filter_le (fun n=>Nat.ble 2 n && hasB c n) (List.range k)
 rwa [List.length_range] at this
theorem qsD             (b : List UInt8) (a : Int) (hl : b.length ≤ 1000000) : qi0        (b, a, ()) = some (bmR b a) := by
  unfold qi0       
  by_cases ha : a < 0 ∨ (b.length : Int) < a
  · unfold bmR; rw [if_pos ha]; simp (disch := first | assumption | omega | (dsimp only; omega) | decide) only [go_sem, Int.reduceToNat]
  have hb : bmR b a = bmC (b.drop a.toNat) a := by unfold bmR; rw [if_neg ha]
  rw [hb]
  have hsub : sub b a (len b) = b.drop a.toNat := by
    simp only [sub, len, Int.toNat_natCast]
    rw [List.take_of_length_le (by rw [List.length_drop]; omega)]
  have hcl : (b.drop a.toNat).length = b.length - a.toNat := List.length_drop
  simp only [hsub]
  generalize hc : b.drop a.toNat = c at *
  clear hb hsub
  by_cases h8 : c.length < 8
  · unfold bmC; rw [if_pos (Or.inl h8)]; simp (disch := first | assumption | omega | (dsimp only; omega) | decide) only [go_sem, Int.reduceToNat]
  have h1 := qcW            (c := c) (n := 1) (by omega) (by omega) (by omega)
  replace h1 : kY        (c, 1, ()) = some (hasB c 1, ()) := h1
  -- the loop
  have lp : ∀ (size : Nat) (f : List Int × Int × Unit → Option (LS (List Int × Int × Unit) (List Int × Int × Int × Unit))), (fun (x_1 : List Int × Int × Unit) =>
           sel (le x_1.2.1 (i64 (imul 8 (size : Int)))) (ob (kY        (c, x_1.2.1, ())) fun (a : Bool × Unit) => sel a.1 (ck (rm 32 (nadd (ln x_1.1) (ln [x_1.2.1]))) (some (LS.nx (app x_1.1 [x_1.2.1], i64 (iadd x_1.2.1 1), ()))))
            (some (LS.nx (x_1.1, i64 (iadd x_1.2.1 1), ())))) (some (LS.ex 0 (x_1.1, x_1.2.1, ())))) = f → 1 ≤ size → size ≤ 16 → size ≤ c.length →
      loop f ([], 2, ()) = some (.ex 0 ((qc0   (c.take size)).map Int.ofNat, ((8 * size + 1 : Nat) : Int), ())) := by
    intro size f hf hs0 hs hsc
    have step : ∀ i, i < 8 * size - 1 → f ((outB c (i + 2)).map Int.ofNat, ((i + 2 : Nat) : Int), ()) = some (.nx ((outB c (i + 1 + 2)).map Int.ofNat, ((i + 1 + 2 : Nat) : Int), ())) := fun i hi => by
      subst hf
      have hh := qcW            (c := c) (n := i + 2) (by omega) (by omega) (by omega)
      have hol := qHb      c (i + 2)
      have hos := qJM       c (i + 2) (by omega)
      rw [show i + 1 + 2 = i + 2 + 1 by omega, hos]
      cases hhb : hasB c (i + 2)
      · rw [hhb] at hh
        simp only [Bool.false_eq_true, if_false, List.append_nil]
        generalize hN : i + 2 = N at *
        simp (disch := first | assumption | omega | (dsimp only; omega) | decide) only [go_sem, Int.reduceToNat, hh]
      · rw [hhb] at hh
        simp only [if_true, List.map_append, List.map_cons, List.map_nil]
        generalize hN : i + 2 = N at *
        simp (disch := first | assumption | omega | (dsimp only; omega) | decide) only [go_sem, Int.reduceToNat, hh, List.length_map, List.length_cons]
        rfl
    have e := qN         (f := f) (fun i => ((outB c (i + 2)).map Int.ofNat, ((i + 2 : Nat) : Int), ())) (8 * size - 1) step 0 (by omega)
    simp only [Nat.zero_add, qLw     , List.map_nil] at e
    replace e : loop f ([], 2, ()) = _ := e
    rw [e, qsP       hsc, show 8 * size - 1 + 2 = 8 * size + 1 by omega]
    refine qT      ?_
    subst hf; simp (disch := first | assumption | omega | (dsimp only; omega) | decide) only [go_sem, Int.reduceToNat]
  refine (qF    (a := (false, ())) (by simp (disch := first | assumption | omega | (dsimp only; omega) | decide) only [go_sem, Int.reduceToNat]; exact v3      (by omega))).trans ?_
  refine (qB       rfl).trans ?_
  refine (qH    (by simp (disch := first | assumption | omega | (dsimp only; omega) | decide) only [go_sem, Int.reduceToNat]; exact ⟨by omega, by omega⟩)).trans ?_
  refine (qB       (by simp (disch := first | assumption | omega | (dsimp only; omega) | decide) only [go_sem, Int.reduceToNat]; omega)).trans ?_
  refine (qF    h1).trans ?_
  cases hw : hasB c 1
  · have e := lp 8 _ rfl (by omega) (by omega) (by omega)
    have hbm : bmC c a = ((qc0   (c.take 8)).map Int.ofNat, a + 8, 0, ()) := by
      unfold bmC
      rw [if_neg (by rw [hw]; simp; omega), if_neg (by rw [hw]; simp)]
    rw [hbm]
    refine (qF    (qB       rfl)).trans ?_
    refine (qB       (by simp (disch := first | assumption | omega | (dsimp only; omega) | decide) only [go_sem, Int.reduceToNat]; omega)).trans ?_
    refine (qZ    e).trans ?_
    simp (disch := first | assumption | omega | (dsimp only; omega) | decide) only [go_sem, Int.reduceToNat]
  · by_cases h16 : c.length < 16
    · unfold bmC; rw [if_pos (Or.inr ⟨hw, h16⟩)]
      simp (disch := first | assumption | omega | (dsimp only; omega) | decide) only [go_sem, Int.reduceToNat]
    · have e := lp 16 _ rfl (by omega) (by omega) (by omega)
      have h65 := qcW            (c := c) (n := 65) (by omega) (by omega) (by omega)
      replace h65 : kY        (c, 65, ()) = some (hasB c 65, ()) := h65
      rw [qsP       (by omega)] at e
      have hol := qHb      c (8 * 16 + 1)
      have hm65 : 65 ∈ outB c (8 * 16 + 1) ↔ hasB c 65 = true := ⟨fun h => (qHa.1      h).2.2, fun h => qHa.2      ⟨by omega, by omega, h⟩⟩
      have hlast := qNE     (qFu         c (8 * 16 + 1))
      have hbm : bmC c a = if 65 ∈ outB c (8 * 16 + 1) ∨ ∀ n ∈ outB c (8 * 16 + 1), n < 65 then ([], 0, 2, ()) else ((outB c (8 * 16 + 1)).map Int.ofNat, a + 16, 0, ()) := by
        unfold bmC
        rw [if_neg (by omega), if_pos hw, qsP       (by omega)]
      rw [hbm]
      refine (qF    (qE       rfl)).trans ?_
      refine (qB       (by simp (disch := first | assumption | omega | (dsimp only; omega) | decide) only [go_sem, Int.reduceToNat]; omega)).trans ?_
      refine (qZ    e).trans ?_
      generalize outB c (8 * 16 + 1) = l at *
      have hq : ((l.length : Int) - 1).toNat = l.length - 1 := by omega
      cases hb65 : hasB c 65
      · rw [hb65] at h65 hm65
        have hn65 : ¬ 65 ∈ l := fun h => by have := hm65.1 h; simp at this
        by_cases h0 : l.length = 0
        · rw [if_pos (hlast.1 (.inr (.inl h0)))]
          simp (disch := first | assumption | omega | (dsimp only; omega) | decide) only [go_sem, Int.reduceToNat, h65, List.length_map]
        · have hlt : l.length - 1 < l.length := by omega
          have hn : nth (l.map Int.ofNat) (l.length - 1) 0 = Int.ofNat l[l.length - 1] := by rw [qL      (by simpa using hlt), List.getElem_map]
          by_cases h6 : l[l.length - 1] ≤ 65
          · rw [if_pos (hlast.1 (.inr (.inr ⟨hlt, h6⟩)))]
            have h6' : Int.ofNat l[l.length - 1] ≤ 65 := by simp; omega
            simp (disch := first | assumption | omega | (dsimp only; omega) | decide) only [go_sem, Int.reduceToNat, h65, List.length_map, hq, hn]
          · rw [if_neg fun hc => by
              rcases hlast.2 hc with h | h | ⟨_, h⟩
              · exact hn65 h
              · exact h0 h
              · exact h6 h]
            have h6' : ¬ Int.ofNat l[l.length - 1] ≤ 65 := by simp; omega
            simp (disch := first | assumption | omega | (dsimp only; omega) | decide) only [go_sem, Int.reduceToNat, h65, List.length_map, hq, hn]
      · rw [if_pos (.inl (hm65.2 hb65))]
        rw [hb65] at h65
        simp (disch := first | assumption | omega | (dsimp only; omega) | decide) only [go_sem, Int.reduceToNat, h65]
end Yp
namespace Yp
open Go
theorem qKv {no k l:Int} (h:zD no=some (k,l)):2≤no∧no≤128∧no≠65:=by
 unfold zD at h
 rw [Option.map_eq_some_iff] at h
 obtain ⟨r,hr,he⟩:=h
 have hm:=List.mem_of_find?_eq_some hr
 have hp:=List.find?_some hr
 simp only [List.contains_eq_mem,decide_eq_true_eq] at hp
 have:∀ r∈frows,∀ c∈r.drop 2,2≤c∧c≤128∧c≠65:=by decide +kernel
 exact this r hm no hp
theorem wU {no:Int} {v:BB}:xR no v=true↔∃ k l,zD no=some (k,l)∧fv k l v:=by
 unfold xR
 cases ho:zD no with
 | none=>simp
 | some p =>
  obtain ⟨k,l⟩:=p
  simp only [decide_eq_true_eq,Option.some.injEq,Prod.mk.injEq]
  exact ⟨fun h=>⟨k,l,⟨rfl,rfl⟩,h⟩,fun ⟨_,_,⟨h1,h2⟩,h⟩=>by rw [h1,h2];exact h⟩
theorem qHx {no:Int} {v:BB} (h:xR no v=true):2≤no∧no≤128∧no≠65:=by
 obtain ⟨k,l,h1,_⟩:=wU.1 h;exact qKv h1
theorem kE {l:List V}:∀ {last:Int},vH last l=true→∀ v∈l,last < v.1∧xR v.1 v.2.1=true:=by
 induction l with
 | nil=>intro _ _ v hv;cases hv
 | cons x r ih =>
  intro last h v hv
  simp only [vH,Bool.and_eq_true,decide_eq_true_eq] at h
  rcases List.mem_cons.1 hv with rfl | hv
  ·exact ⟨h.1,h.2.1⟩
  ·have:=ih h.2.2 v hv
   exact ⟨by omega,this.2⟩
def nosF (l:List V):List Int:=l.map fun v=>v.1
theorem qLk {l:List V}:∀ {last:Int},1≤last→vH last l=true→z2 last (nosF l)=true:=by
 induction l with
 | nil=>intros;rfl
 | cons x r ih =>
  intro last hl h
  simp only [vH,Bool.and_eq_true,decide_eq_true_eq] at h
  have hn:=qHx h.2.1
  simp only [nosF,List.map_cons,z2,Bool.and_eq_true,decide_eq_true_eq]
  exact ⟨⟨h.1,hn.2⟩,ih (by omega) h.2.2⟩
theorem qlL {l:List V} (h:vH 0 l=true):z2 1 (nosF l)=true:=by
 cases l with
 | nil=>rfl
 | cons x r =>
  simp only [vH,Bool.and_eq_true,decide_eq_true_eq] at h
  have hn:=qHx h.2.1
  simp only [nosF,List.map_cons,z2,Bool.and_eq_true,decide_eq_true_eq]
  exact ⟨⟨by omega,hn.2⟩,qLk (by omega) h.2.2⟩
def wrV (v:V):BB:=(wrD v.1 v.2.1).1
theorem qq2 {no:Int} {v:BB} (h:xR no v=true):wrD no v=((wrD no v).1,0,())∧(wrD no v).1.length≤402∧1≤(wrD no v).1.length:=by
 obtain ⟨k,l,h1,h2⟩:=wU.1 h
 have e:wrD no v=(wrF k v,0,()):=by unfold wrD;rw [h1];simp only [if_pos h2]
 have hl:=qMt h1 h2
 rw [e]
 exact ⟨rfl,qOn (qaC h1).1 hl.2.2,qMG (qaC h1).1 hl.1⟩
def typB (m:Int):BB:=bcd (pad (ps 10 dch m.toNat 4))
theorem qeL {m:Int}:(typB m).length=2:=by unfold typB;rw [zT,zI]
def wrM (m:M):BB:=typB m.1++(bmW (nosF m.2.1)++m.2.1.flatMap wrV)
theorem vF (l:List Int):(bmW l).length=if qcN l=true then 16 else 8:=by unfold bmW;split <;> exact x5
theorem qKw (l:List V):∀ acc:List Int,l.foldl (fun acc v=>acc++[v.1]) acc=acc++nosF l:=by
 induction l with
 | nil=>intro acc;simp [nosF]
 | cons v r ih=>intro acc;rw [List.foldl_cons,ih];simp [nosF]
theorem qLR (l:List V):∀ acc:BB,l.foldl (fun acc v=>acc++wrV v) acc=acc++l.flatMap wrV:=by
 induction l with
 | nil=>intro acc;simp
 | cons v r ih=>intro acc;rw [List.foldl_cons,ih];simp
theorem qnB {m:Int} (h:xC m):kO (m,4,())=some (ps 10 dch m.toNat 4,0,())∧qdA (ps 10 dch m.toNat 4,())=some (typB m,0,())∧xF (m,4,())=some (ps 10 dch m.toNat 4,0,())∧vO (ps 10 dch m.toNat 4,())=some (typB m,0,()):=by
 unfold xC at h
 have e:(10:Int) ^ (4:Int).toNat=10000:=by decide
 refine ⟨?_, ?_, ?_, ?_⟩
 ·rw [qb3 _ _ (by omega),if_pos ⟨by omega,by omega,by omega,by rw [e];omega⟩];rfl
 ·rw [qhY _ (by rw [zI];omega),if_pos qkP];rfl
 ·rw [yZ _ _ (by omega),if_pos ⟨by omega,by omega,by omega,by rw [e];omega⟩];rfl
 ·rw [qcZ _ (by rw [zI];omega),if_pos qkP];rfl
theorem qvR (m:M) (hm:fewM m):qmA (m,())=some (if kD m=true then (wrM m,0,()) else ([],1,())):=by
 unfold qmA
 generalize hf:(fun (x_1:List Int×Int×Unit)=>_)=f
 generalize hg:(fun (x_1:BB×Int×Unit)=>(_:Option (LS (BB×Int×Unit) (BB×Int×Unit))))=g
 have hR:=qvS m hm
 have hl:=hm.1
 cases hr:kD m
 ·simp (disch:=first | assumption | omega | (dsimp only;omega) | decide) only [go_sem,Int.reduceToNat,hR,hr]
 have hr':=hr
 simp only [kD,Bool.and_eq_true,decide_eq_true_eq] at hr'
 obtain ⟨d1,d2, -, -⟩:=qnB hr'.2
 have key:=xP (f:=f) (ρ:=BB×Int×Unit) m.2.1 (fun (acc:List Int) i=>(acc,(i:Int),())) 0 (fun acc v => .nx (acc++[v.1])) (fun acc i=>acc.length=i) (fun b i h hI=>⟨?_,fun b' hb => ?_⟩) (fun b _ => ?_) [] rfl
 ·rw [qmF (g:=fun (acc:List Int) (v:V)=>acc++[v.1]) (fun _ _=>rfl),qKw,List.nil_append] at key
  have hbm:=qoF (nosF m.2.1) (by simp [nosF];omega)
  rw [if_pos (qlL hr'.1)] at hbm
  have htl:=qeL (m:=m.1)
  have hbl:(bmW (nosF m.2.1)).length≤16:=by rw [vF];split <;> omega
  have key2:=xP (f:=g) (ρ:=BB×Int×Unit) m.2.1 (fun (acc:BB) i=>(acc,(i:Int),())) 2 (fun acc v => .nx (acc++wrV v)) (fun acc i=>acc.length≤100+402*i) (fun b i h hI=>⟨?_,fun b' hb => ?_⟩) (fun b _ => ?_) (typB m.1++bmW (nosF m.2.1)) (by rw [List.length_append];omega)
  ·rw [qmF (g:=fun (acc:BB) (v:V)=>acc++wrV v) (fun _ _=>rfl),qLR,List.append_assoc] at key2
   have hnl:(nosF m.2.1).length=m.2.1.length:=by simp [nosF]
   replace key:loop f ([],0,())=_:=key
   replace key2:loop g (typB m.1++bmW (nosF m.2.1),0,())=_:=key2
   simp (disch:=first | assumption | omega | (dsimp only;omega) | decide) only [go_sem,Int.reduceToNat,hR,hr,d1,d2,key,hbm,key2]
   rfl
  ·subst hg
   have hfit:=kE hr'.1 m.2.1[i] (List.getElem_mem h)
   have hw:=qq2 hfit.2
   have hlv:=hm.nth h
   have hws:=qqE m.2.1[i].1 m.2.1[i].2.1 hlv
   rw [hw.1] at hws
   have hwl:(wrV m.2.1[i]).length≤402:=hw.2.1
   change qbZ _=some (wrV m.2.1[i],0,()) at hws
   simp (disch:=first | assumption | omega | (dsimp only;omega) | decide) only [go_sem,Int.reduceToNat,hws,qaA]
  ·cases hb
   have hfit:=kE hr'.1 m.2.1[i] (List.getElem_mem h)
   have hwl:(wrV m.2.1[i]).length≤402:=(qq2 hfit.2).2.1
   rw [List.length_append];omega
  ·subst hg;simp (disch:=first | assumption | omega | (dsimp only;omega) | decide) only [go_sem,Int.reduceToNat]
 ·subst hf;simp (disch:=first | assumption | omega | (dsimp only;omega) | decide) only [go_sem,Int.reduceToNat,List.length_cons,qaA]
 ·cases hb;rw [List.length_append,hI];rfl
 ·subst hf;simp (disch:=first | assumption | omega | (dsimp only;omega) | decide) only [go_sem,Int.reduceToNat]
theorem qsB {m:Int} (h:xC m):qiY (m,())=some (ps 10 dch m.toNat 4,()):=by
 unfold qiY
 obtain ⟨-, -,d1, -⟩:=qnB h
 simp (disch:=first | assumption | omega | (dsimp only;omega) | decide) only [go_sem,Int.reduceToNat,d1]
theorem qp5 (m:M) (hm:fewM m):qe6 (m,())=some (if kD m=true then (wrM m,0,()) else ([],1,())):=by
 unfold qe6
 generalize hf:(fun (x_1:List Int×BB×Int×Unit)=>_)=f
 have hR:=qp6 m hm
 have hl:=hm.1
 cases hr:kD m
 ·simp (disch:=first | assumption | omega | (dsimp only;omega) | decide) only [go_sem,Int.reduceToNat,hR,hr]
 have hr':=hr
 simp only [kD,Bool.and_eq_true,decide_eq_true_eq] at hr'
 obtain ⟨-, -,d1,d2⟩:=qnB hr'.2
 have key:=xP (f:=f) (ρ:=BB×Int×Unit) m.2.1 (fun (acc:List Int×BB) i=>(acc.1,acc.2,(i:Int),())) 0 (fun acc v => .nx (acc.1++[v.1],acc.2++wrV v)) (fun acc i=>acc.1.length=i∧acc.2.length≤402*i) (fun b i h hI=>⟨?_,fun b' hb => ?_⟩) (fun b _ => ?_) ([],[]) ⟨rfl,by simp⟩
 ·rw [qmF (g:=fun (acc:List Int×BB) (v:V)=>(acc.1++[v.1],acc.2++wrV v)) (fun _ _=>rfl)] at key
  have hfold:∀ (l:List V) (a:List Int) (b:BB),l.foldl (fun (acc:List Int×BB) v=>(acc.1++[v.1],acc.2++wrV v)) (a,b)=(a++nosF l,b++l.flatMap wrV):=by
   intro l
   induction l with
   | nil=>intro a b;simp [nosF]
   | cons v r ih=>intro a b;rw [List.foldl_cons,ih];simp [nosF]
  rw [hfold,List.nil_append,List.nil_append] at key
  have hbm:=qp7 (nosF m.2.1) (by simp [nosF];omega)
  rw [if_pos (qlL hr'.1)] at hbm
  have htl:=qeL (m:=m.1)
  have hbl:(bmW (nosF m.2.1)).length≤16:=by rw [vF];split <;> omega
  have hfl:(m.2.1.flatMap wrV).length≤402*m.2.1.length:=by
   have:∀ l:List V,(∀ v∈l,xR v.1 v.2.1=true)→(l.flatMap wrV).length≤402*l.length:=by
    intro l
    induction l with
    | nil=>simp
    | cons v r ih =>
     intro h
     have h1:(wrV v).length≤402:=(qq2 (h v (by simp))).2.1
     have h2:=ih fun u hu=>h u (by simp [hu])
     simp only [List.flatMap_cons,List.length_append,List.length_cons];omega
   exact this _ fun v hv=>(kE hr'.1 v hv).2
  have h4:=qsB hr'.2
  replace key:loop f ([],[],0,())=_:=key
  simp (disch:=first | assumption | omega | (dsimp only;omega) | decide) only [go_sem,Int.reduceToNat,hR,hr,h4,d2,key,hbm,List.length_append]
  rw [List.append_assoc];rfl
 ·subst hf
  have hfit:=kE hr'.1 m.2.1[i] (List.getElem_mem h)
  have hw:=qq2 hfit.2
  have hlv:=hm.nth h
  have hws:=qp8 m.2.1[i].1 m.2.1[i].2.1 hlv
  rw [hw.1] at hws
  have hwl:(wrV m.2.1[i]).length≤402:=hw.2.1
  change qbO _=some (wrV m.2.1[i],0,()) at hws
  simp (disch:=first | assumption | omega | (dsimp only;omega) | decide) only [go_sem,Int.reduceToNat,hws,qaA,List.length_cons]
 ·cases hb
  have hfit:=kE hr'.1 m.2.1[i] (List.getElem_mem h)
  have hwl:(wrV m.2.1[i]).length≤402:=(qq2 hfit.2).2.1
  refine ⟨by rw [List.length_append,hI.1];rfl, ?_⟩
  rw [List.length_append];omega
 ·subst hf;simp (disch:=first | assumption | omega | (dsimp only;omega) | decide) only [go_sem,Int.reduceToNat]
end Yp
namespace Yp
open Go
def noM:M:=(0,[],())
def rdFs (b:BB):List Int→Int→List V→Option Int×Int×List V
 | [],at',F=>(none,at',F)
 | n :: r,at',F=>if (rdD n b at').2.2.1=0 then rdFs b r (rdD n b at').2.1 (F++[(n,(rdD n b at').1,())]) else (some (rdD n b at').2.2.1,at',F)
def qsK (b:BB) (s:Int×List V) (n:Int):LS (Int×List V) (M×Int×Unit):=if (rdD n b s.1).2.2.1=0 then .nx ((rdD n b s.1).2.1,s.2++[(n,(rdD n b s.1).1,())]) else .rt (noM,(rdD n b s.1).2.2.1,())
theorem qHr {σ:Type} {mk:Int×List V→Nat→σ} {e:Nat} {b:BB}:∀ (l:List Int) (s:Int×List V) (i:Nat),wT mk e (qsK b) s i l=match rdFs b l s.1 s.2 with | (none,a,F) => .ex e (mk (a,F) (i+l.length)) | (some q,_,_) => .rt (noM,q,())
 | [],s,i=>rfl
 | n :: r,s,i=>by
  unfold rdFs
  by_cases h:(rdD n b s.1).2.2.1=0
  ·have hs:qsK b s n = .nx ((rdD n b s.1).2.1,s.2++[(n,(rdD n b s.1).1,())]):=if_pos h
   simp only [wT,hs,if_pos h]
   rw [qHr r _ (i+1)]
   simp only [List.length_cons,Nat.add_assoc,Nat.add_comm 1]
  ·have hs:qsK b s n = .rt (noM,(rdD n b s.1).2.2.1,()):=if_neg h
   simp only [wT,hs,if_neg h]
def qwR (_:Unit) (n:Int):LS Unit (M×Int×Unit):=if (zD n).isSome=true then .nx () else .rt (noM,2,())
theorem qHs {σ:Type} {mk:Unit→Nat→σ} {e:Nat}:∀ (l:List Int) (i:Nat),wT mk e qwR () i l=if ∀ n∈l,(zD n).isSome=true then .ex e (mk () (i+l.length)) else .rt (noM,2,())
 | [],i=>by simp [wT]
 | n :: r,i=>by
  by_cases h:(zD n).isSome=true
  ·have hs:qwR () n = .nx ():=if_pos h
   simp only [wT,hs,List.mem_cons,forall_eq_or_imp,h,true_and]
   rw [qHs r (i+1)]
   simp only [List.length_cons,Nat.add_assoc,Nat.add_comm 1]
  ·have hs:qwR () n = .rt (noM,2,()):=if_neg h
   simp only [wT,hs]
   rw [if_neg fun hc=>h (hc n (by simp))]
def rdE (b:BB) (m:Int) (l:List Int) (at':Int):M×Int×Unit :=
 if ∀ n∈l,(zD n).isSome=true then (match rdFs b l at' [] with | (none,a,F)=>if a < (b.length:Int) then (noM,4,()) else ((m,F,()),0,()) | (some q,_,_)=>(noM,q,())) else (noM,2,())
def rdM (b:BB):M×Int×Unit :=
 if (zU b 0 4).2.2.1≠0 then (noM,(zU b 0 4).2.2.1,()) else if xC (val (zU b 0 4).1:Int) then
  (if (bmR b 2).2.2.1≠0 then (noM,(bmR b 2).2.2.1,()) else rdE b (val (zU b 0 4).1:Int) (bmR b 2).1 (bmR b 2).2.1) else (noM,2,())
theorem qoW {c:BB}:(qc0 c).length≤8*c.length+1:=by
 unfold qc0
 have:=List.length_filter_le (fun n=>Nat.ble 2 n && hasB c n) (List.range (8*c.length+1))
 rwa [List.length_range] at this
theorem qIF {b:BB} {a:Int}:(bmR b a).1.length≤129:=by
 unfold bmR
 split
 ·simp
 unfold bmC
 split
 ·simp
 split
 ·split
  ·simp
  ·have:=qoW (c:=(b.drop a.toNat).take 16)
   have h2:=List.length_take_le 16 (b.drop a.toNat)
   simp only [List.length_map];omega
 ·have:=qoW (c:=(b.drop a.toNat).take 8)
  have h2:=List.length_take_le 8 (b.drop a.toNat)
  simp only [List.length_map];omega
theorem qNQ {o:Option (Int×Int)}:(fr o).2.1=o.isSome:=by cases o <;> rfl
theorem qLn {Of:Int×Unit→Option ((Int×Int×Unit)×Bool×Unit)} (hOf:∀ n,Of (n,())=some (fr (zD n))) {Rd:Int×BB×Int×Unit→Option (BB×Int×Int×Unit)} {b:BB} (hRd:∀ n a,Rd (n,b,a,())=some (rdD n b a))
  {l:List Int} (hl:l.length≤129) {at' mti:Int} {e1:Int} {f:Int×Int×Unit→Option (LS (Int×Int×Unit) (M×Int×Unit))} {g:Int×Int×Int×M×Unit→Option (LS (Int×Int×Int×M×Unit) (M×Int×Unit))}
  (hf:∀ x (i:Nat),f (x,(i:Int),())=sel (lt (i:Int) (len l)) (ck (inB (i:Int) (len l)) (ob (Of (nth l (nat (i:Int)) 0,())) fun a=>sel (bnot a.2.1) (some (.rt (noM,2,()))) (some (.nx (x,i64 (iadd (i:Int) 1),()))))) (some (.ex 0 (x,(i:Int),()))))
  (hg:∀ x a (i:Nat) (F:List V),g (x,a,(i:Int),(mti,F,()),())=sel (lt (i:Int) (len l)) (ck (inB (i:Int) (len l)) (ob (Rd (nth l (nat (i:Int)) 0,b,a,())) fun q=>sel (bnot (beq q.2.2.1 0)) (some (.rt (noM,q.2.2.1,())))
   (ck (rm 56 (nadd (ln F) 1)) (some (.nx (x,q.2.1,i64 (iadd (i:Int) 1),(mti,app F [(nth l (nat (i:Int)) 0,q.1,())],()),())))))) (some (.ex 2 (x,a,(i:Int),(mti,F,()),())))) (x0:Int) :
  lc (loop f (x0,0,())) (fun _=>none) (fun i a=>ck (neb i 0) (lc (loop g (a.1,at',0,(mti,[],()),())) (fun _=>none) (fun i a=>ck (neb i 2) (sel (lt a.2.1 (len b)) (some (noM,4,())) (some ((a.2.2.2.1.1,a.2.2.2.1.2.1,a.2.2.2.1.2.2),0,())))) fun r=>some r)) (fun r=>some r)=some (rdE b mti l at'):=by
 have key:=xP (f:=f) l (fun (_:Unit) i=>(x0,(i:Int),())) 0 qwR (fun _ _=>True) (fun _ i h _=>⟨?_,fun _ _=>trivial⟩) (fun _ _ => ?_) () trivial
 ·refine (qZ key).trans ?_
  rw [qHs]
  unfold rdE
  by_cases ho:∀ n∈l,(zD n).isSome=true
  ·rw [if_pos ho,if_pos ho]
   refine qHk.trans ((qH g62).trans ?_)
   have key2:=xP (f:=g) l (fun (s:Int×List V) i=>(x0,s.1,(i:Int),(mti,s.2,()),())) 2 (qsK b) (fun s i=>s.2.length≤i) (fun s i h hI=>⟨?_,fun s' hs => ?_⟩) (fun s _ => ?_) (at',[]) (Nat.le_refl _)
   ·refine (qZ key2).trans ?_
    rw [qHr]
    rcases rdFs b l at' [] with ⟨_ | q,a,F⟩
    ·refine qHk.trans ((qH g62).trans ?_)
     by_cases ha:a < (b.length:Int)
     ·simp only [if_pos ha];simp (disch:=first | assumption | omega | (dsimp only;omega) | decide) only [go_sem,Int.reduceToNat]
     ·simp only [if_neg ha];simp (disch:=first | assumption | omega | (dsimp only;omega) | decide) only [go_sem,Int.reduceToNat]
    ·rfl
   ·rw [hg]
    by_cases h0:(rdD l[i] b s.1).2.2.1=0
    ·have hst:qsK b s l[i] = .nx ((rdD l[i] b s.1).2.1,s.2++[(l[i],(rdD l[i] b s.1).1,())]):=if_pos h0
     simp (disch:=first | assumption | omega | (dsimp only;omega) | decide) only [go_sem,Int.reduceToNat,hRd,h0,hst,qaA]
    ·have hst:qsK b s l[i] = .rt (noM,(rdD l[i] b s.1).2.2.1,()):=if_neg h0
     simp (disch:=first | assumption | omega | (dsimp only;omega) | decide) only [go_sem,Int.reduceToNat,hRd,h0,hst,qaA]
   ·unfold qsK at hs
    split at hs
    ·cases hs;rw [List.length_append];simp;omega
    ·cases hs
   ·rw [hg];simp (disch:=first | assumption | omega | (dsimp only;omega) | decide) only [go_sem,Int.reduceToNat]
  ·rw [if_neg ho,if_neg ho];rfl
 ·rw [hf]
  cases h0:(zD l[i]).isSome
  ·have hst:qwR () l[i] = .rt (noM,2,()):=if_neg (by rw [h0];simp)
   simp (disch:=first | assumption | omega | (dsimp only;omega) | decide) only [go_sem,Int.reduceToNat,hOf,qNQ,h0,hst,qaA]
  ·have hst:qwR () l[i] = .nx ():=if_pos h0
   simp (disch:=first | assumption | omega | (dsimp only;omega) | decide) only [go_sem,Int.reduceToNat,hOf,qNQ,h0,hst,qaA]
 ·rw [hf];simp (disch:=first | assumption | omega | (dsimp only;omega) | decide) only [go_sem,Int.reduceToNat]
theorem qsC (b:BB) (hl:b.length≤1000000):qiZ (b,())=some (rdM b):=by
 unfold qiZ
 unfold rdM
 rcases xG (b:=b) (I:=0) (N:=4) (Nat.zero_le _) (by omega) with ⟨h2,h⟩ | ⟨h2,h,_⟩ | ⟨s,h4,h,hf,hs,_⟩
 ·replace h:zU b 0 4=([],0,3,()):=h
  rw [h]
  exact (qE (lt_t (by simp only [len];omega))).trans rfl
 ·replace h:zU b 0 4=([],0,2,()):=h
  rw [h]
  refine (qB (lt_f (by simp only [len];omega))).trans ?_
  refine (qF (jM b 0 4 hl)).trans ?_
  rw [h]
  refine (qF (vV [] (by simp))).trans ?_
  rfl
 ·replace h:zU b 0 4=(s,2,0,()):=h
  rw [h]
  refine (qB (lt_f (by simp only [len];omega))).trans ?_
  refine (qF (jM b 0 4 hl)).trans ?_
  rw [h]
  refine (qF (vV s (by omega))).trans ?_
  rw [if_pos ⟨by omega,by omega,hf⟩,if_neg (by simp)]
  by_cases ht:xC (val s:Int)
  ·refine (qF (a:=(false,())) ((qB rfl).trans ((qF (qbM _)).trans (by rw [D_t ht];rfl)))).trans ?_
   refine (qB rfl).trans ?_
   rw [if_pos ht]
   refine (qF (qsD b 2 hl)).trans ?_
   by_cases h0:(bmR b 2).2.2.1=0
   ·refine (qB (by rw [qaD h0];rfl)).trans ?_
    rw [if_neg (by simp [h0])]
    refine qLn (e1:=0) qaN (b:=b) (fun n a=>qsE n b a hl) qIF (fun _ _=>rfl) (fun x a i F => ?_) 0
    by_cases hi:i < (bmR b 2).1.length
    ·have hin:inB (i:Int) (len (bmR b 2).1)=true:=zE hi
     simp only [hin,ck_t];rfl
    ·refine (qB (lt_f (by simp only [len];omega))).trans (qB (lt_f (by simp only [len];omega))).symm
   ·refine (qE (by rw [wD h0];rfl)).trans ?_
    rw [if_pos h0];rfl
  ·refine (qF (a:=(true,())) ((qB rfl).trans ((qF (qbM _)).trans (by rw [D_f ht];rfl)))).trans ?_
   rw [if_neg ht];rfl
end Yp
namespace Yp
open Go
noncomputable def qFV     {α : Type} (c : Nat) (z : α) (x : List (List α) × Unit) : Option (List α × Unit) :=
  lc (loop (fun (x_1 : Int × Int × Unit) => sel (lt x_1.2.1 (len x.1)) (ck (inB x_1.2.1 (len x.1)) (sel (lt (i64 (iadd x_1.1 (len (nth x.1 (nat x_1.2.1) (none' α))))) 0) none
        (some (LS.nx (i64 (iadd x_1.1 (len (nth x.1 (nat x_1.2.1) (none' α)))), i64 (iadd x_1.2.1 1), ()))))) (some (LS.ex 0 (x_1.1, x_1.2.1, ())))) (0, 0, ()))
  (fun (a : Int × Int × Unit) => none)
  (fun (i : Nat) (a : Int × Int × Unit) => ck (neb i 0) (sel (lt a.1 0) none (sel (lt 0 (i64 (isub a.1 (i64 (isub 0 0))))) (ck (inC 0 0 0)
       (ck (band (le 0 (i64 (isub a.1 (i64 (isub 0 0))))) (rm c (nat (i64 (isub a.1 (i64 (isub 0 0))))))) (ck (inC 0 0 (len (rep (nat (i64 (isub a.1 (i64 (isub 0 0))))) z)))
         (lc (loop (fun (x_1 : List α × Int × Unit) => sel (lt x_1.2.1 (len x.1)) (ck (inB x_1.2.1 (len x.1)) (ck (rm c (nadd (ln x_1.1) (ln (nth x.1 (nat x_1.2.1) (none' α)))))
            (some (LS.nx (app x_1.1 (nth x.1 (nat x_1.2.1) (none' α)), i64 (iadd x_1.2.1 1), ()))))) (some (LS.ex 2 (x_1.1, x_1.2.1, ())))) (cut (rep (nat (i64 (isub a.1 (i64 (isub 0 0))))) z) (nat 0) (nsub (nat 0) (nat 0)), 0, ()))
          (fun (a : List α × Int × Unit) => none) (fun (i : Nat) (a : List α × Int × Unit) => ck (neb i 2) (some (a.1, ()))) fun (r : List α × Unit) => some r))))
      (lc (loop (fun (x_1 : List α × Int × Unit) => sel (lt x_1.2.1 (len x.1)) (ck (inB x_1.2.1 (len x.1)) (ck (rm c (nadd (ln x_1.1) (ln (nth x.1 (nat x_1.2.1) (none' α)))))
            (some (LS.nx (app x_1.1 (nth x.1 (nat x_1.2.1) (none' α)), i64 (iadd x_1.2.1 1), ()))))) (some (LS.ex 2 (x_1.1, x_1.2.1, ())))) (none' α, 0, ()))
       (fun (a : List α × Int × Unit) => none) (fun (i : Nat) (a : List α × Int × Unit) => ck (neb i 2) (some (a.1, ()))) fun (r : List α × Unit) => some r))))
  fun (r : List α × Unit) => some r
theorem qn6 {α β σ ρ:Type} {mk:β→Nat→σ} {e:Nat} {step:β→α→LS β ρ} {g:β→α→β} (h:∀ b x,step b x = .nx (g b x)):∀ (l:List α) (b:β) (i:Nat),wT mk e step b i l = .ex e (mk (l.foldl g b) (i+l.length))
 | [],b,i=>rfl
 | x :: r,b,i=>by
  simp only [wT,h,List.foldl_cons,List.length_cons]
  rw [qn6 h r (g b x) (i+1)]
  congr 2;omega
theorem qKx {α:Type} (ls:List (List α)):∀ a:Int,ls.foldl (fun s x=>s+(x.length:Int)) a=a+(ls.flatten.length:Int):=by
 induction ls with
 | nil=>intro a;simp
 | cons x r ih=>intro a;rw [List.foldl_cons,ih];simp only [List.flatten_cons,List.length_append];omega
theorem qKy {α:Type} (ls:List (List α)):∀ a:List α,ls.foldl (fun s x=>s++x) a=a++ls.flatten:=by
 induction ls with
 | nil=>intro a;simp
 | cons x r ih=>intro a;rw [List.foldl_cons,ih];simp
theorem qDe {α:Type} {c:Nat} {z:α} (hc:c≤100000) (ls:List (List α)) (hl:ls.length≤100) (hx:∀ x∈ls,x.length≤1000000):qFV c z (ls,())=some (ls.flatten,()):=by
 unfold qFV
 generalize hf:(fun (x_1:Int×Int×Unit)=>_)=f
 generalize hg:(fun (x_1:List α×Int×Unit)=>(_:Option (LS (List α×Int×Unit) (List α×Unit))))=g
 have hmul:∀ n:Nat,n≤100000000→n*c≤140737488355328:=fun n hn=>Nat.le_trans (Nat.mul_le_mul hn hc) (by omega)
 have hlen:ls.flatten.length≤100000000:=by
  have:∀ ls:List (List α),(∀ x∈ls,x.length≤1000000)→ls.flatten.length≤1000000*ls.length:=by
   intro ls
   induction ls with
   | nil=>simp
   | cons x r ih =>
    intro h
    have h1:=h x (by simp)
    have h2:=ih fun u hu=>h u (by simp [hu])
    simp only [List.flatten_cons,List.length_append,List.length_cons];omega
  have:=this ls hx
  omega
 have key:=xP (f:=f) (ρ:=List α×Unit) ls (fun (s:Int) i=>(s,(i:Int),())) 0 (fun s x => .nx (s+(x.length:Int))) (fun s i=>0≤s∧s≤1000000*i) (fun s i h hI=>⟨?_,fun b' hb => ?_⟩) (fun s _ => ?_) 0 (by simp)
 ·rw [qn6 (g:=fun (s:Int) (x:List α)=>s+(x.length:Int)) (fun _ _=>rfl),qKx,Int.zero_add] at key
  replace key:loop f (0,0,())=_:=key
  have key2:=xP (f:=g) (ρ:=List α×Unit) ls (fun (s:List α) i=>(s,(i:Int),())) 2 (fun s x => .nx (s++x)) (fun s i=>s.length≤1000000*i) (fun s i h hI=>⟨?_,fun b' hb => ?_⟩) (fun s _ => ?_) [] (by simp)
  ·rw [qn6 (g:=fun (s:List α) (x:List α)=>s++x) (fun _ _=>rfl),qKy,List.nil_append] at key2
   replace key2:loop g ([],0,())=_:=key2
   refine (qZ key).trans (qHk.trans ((qH g62).trans ((qB (by simp (disch:=first | assumption | omega | (dsimp only;omega) | decide) only [go_sem,Int.reduceToNat];omega)).trans ?_)))
   by_cases h0:0 < ls.flatten.length
   ·refine (qE (by simp (disch:=first | assumption | omega | (dsimp only;omega) | decide) only [go_sem,Int.reduceToNat];omega)).trans ((qH (by simp (disch:=first | assumption | omega | (dsimp only;omega) | decide) only [go_sem,Int.reduceToNat];decide)).trans ?_)
    have hrep:∀ (n:Nat) (a:α),(rep n a).length=n:=fun n a=>by simp [rep]
    have h5:i64 (isub (ls.flatten.length:Int) (i64 (isub 0 0)))=(ls.flatten.length:Int):=by simp (disch:=first | assumption | omega | (dsimp only;omega) | decide) only [go_sem,Int.reduceToNat];omega
    simp only [h5]
    have hm:=hmul _ hlen
    refine (qH (by simp (disch:=first | assumption | omega | (dsimp only;omega) | decide) only [go_sem,Int.reduceToNat];exact ⟨by omega,hm⟩)).trans ((qH (by simp (disch:=first | assumption | omega | (dsimp only;omega) | decide) only [go_sem,Int.reduceToNat,hrep];exact ⟨by omega,by omega,by omega⟩)).trans ?_)
    have hcut:cut (rep (nat (ls.flatten.length:Int)) z) (nat 0) (nsub (nat 0) (nat 0))=[]:=by simp [cut,nat,nsub]
    rw [hcut]
    refine (qZ key2).trans ?_
    simp (disch:=first | assumption | omega | (dsimp only;omega) | decide) only [go_sem,Int.reduceToNat]
   ·refine (qB (by simp (disch:=first | assumption | omega | (dsimp only;omega) | decide) only [go_sem,Int.reduceToNat];omega)).trans ((qZ key2).trans ?_)
    simp (disch:=first | assumption | omega | (dsimp only;omega) | decide) only [go_sem,Int.reduceToNat]
  ·subst hg
   have h2:=hx ls[i] (List.getElem_mem h)
   have hm:=hmul (s.length+(ls[i]).length) (by omega)
   simp (disch:=first | assumption | omega | (dsimp only;omega) | decide) only [go_sem,Int.reduceToNat,qaA]
  ·cases hb
   have h2:=hx ls[i] (List.getElem_mem h)
   rw [List.length_append];omega
  ·subst hg;simp (disch:=first | assumption | omega | (dsimp only;omega) | decide) only [go_sem,Int.reduceToNat]
 ·subst hf
  have h2:=hx ls[i] (List.getElem_mem h)
  simp (disch:=first | assumption | omega | (dsimp only;omega) | decide) only [go_sem,Int.reduceToNat,qaA]
 ·cases hb
  have h2:=hx ls[i] (List.getElem_mem h)
  omega
 ·subst hf;simp (disch:=first | assumption | omega | (dsimp only;omega) | decide) only [go_sem,Int.reduceToNat]
end Yp
namespace Yp
open Go
theorem qGD (ls:List (List V)) (hl:ls.length≤100) (hx:∀ x∈ls,x.length≤1000000):zF (ls,())=some (ls.flatten,()) :=
 (show zF (ls,())=qFV 56 (0,none' UInt8,()) (ls,()) from rfl).trans (qDe (by omega) ls hl hx)
def kA (no:Int):List V→Nat
 | []=>0
 | v :: r=>if no≤v.1 then 0 else kA no r+1
def hasI (no:Int):List V→Bool
 | []=>false
 | v :: r=>if no≤v.1 then decide (v.1=no) else hasI no r
theorem qzX (no:Int):∀ l:List V,kA no l≤l.length
 | []=>Nat.le_refl _
 | v :: r=>by
  unfold kA
  split
  ·exact Nat.zero_le _
  ·have:=qzX no r
   simp only [List.length_cons];omega
theorem qFJ {no:Int}:∀ {l:List V},hasI no l=true→∃ h:kA no l < l.length,(l[kA no l]).1=no
 | [],h=>by cases h
 | v :: r,h=>by
  unfold hasI at h
  by_cases hc:no≤v.1
  ·rw [if_pos hc] at h
   have:kA no (v :: r)=0:=by unfold kA;rw [if_pos hc]
   simp only [this]
   exact ⟨by simp,by simpa using h⟩
  ·rw [if_neg hc] at h
   obtain ⟨h1,h2⟩:=qFJ h
   have:kA no (v :: r)=kA no r+1:=by conv=>{ lhs;unfold kA }; rw [if_neg hc]
   simp only [this]
   exact ⟨by simp;omega,by simpa using h2⟩
theorem qKD (l:List V) (no:Int) (hl:l.length≤1000000):jQ ((l,1,()),no,())=some ((kA no l:Int),hasI no l,()):=by
 unfold jQ
 generalize hf:(fun (x_1:Int×Bool×Int×Unit)=>_)=f
 have key:∀ (r:List V) (i:Nat),l.drop i=r→i≤l.length→loop f (0,false,(i:Int),())=if i+kA no r < l.length then some (.rt (((i+kA no r:Nat):Int),hasI no r,())) else some (.ex 0 (0,false,(l.length:Int),())):=by
  intro r
  induction r with
  | nil =>
   intro i hr hi
   have hl':=congrArg List.length hr
   rw [List.length_drop,List.length_nil] at hl'
   have:i=l.length:=by omega
   subst this
   rw [if_neg (by simp [kA])]
   refine qT ?_
   subst hf;simp (disch:=first | assumption | omega | (dsimp only;omega) | decide) only [go_sem,Int.reduceToNat]
  | cons v r ih =>
   intro i hr hi
   have hl':=congrArg List.length hr
   rw [List.length_drop,List.length_cons] at hl'
   have hlt:i < l.length:=by omega
   rw [List.drop_eq_getElem_cons hlt] at hr
   obtain ⟨hv,hr'⟩:=List.cons.inj hr
   have hp:wS (v,())=some (v.1,()):=rfl
   by_cases hc:no≤v.1
   ·have h0:kA no (v :: r)=0:=by unfold kA;rw [if_pos hc]
    have h1:hasI no (v :: r)=D (v.1=no):=by unfold hasI;rw [if_pos hc];exact g51
    rw [h0,h1,if_pos (by omega)]
    refine qc2 ?_
    subst hf;simp (disch:=first | assumption | omega | (dsimp only;omega) | decide) only [go_sem,Int.reduceToNat,hv,hp,Int.add_zero]
   ·have h0:kA no (v :: r)=kA no r+1:=by conv=>{ lhs;unfold kA }; rw [if_neg hc]
    have h1:hasI no (v :: r)=hasI no r:=by conv=>{ lhs;unfold hasI }; rw [if_neg hc]
    rw [h0,h1]
    refine (x3 (y:=(0,false,((i+1:Nat):Int),())) ?_).trans ((ih (i+1) hr' hlt).trans ?_)
    ·subst hf;simp (disch:=first | assumption | omega | (dsimp only;omega) | decide) only [go_sem,Int.reduceToNat,hv,hp]
    ·rw [show i+1+kA no r=i+(kA no r+1) by omega]
 have k0:=key l 0 rfl (Nat.zero_le _)
 rw [Nat.zero_add] at k0
 refine (qZ k0).trans ?_
 by_cases hlt:kA no l < l.length
 ·rw [if_pos hlt];rfl
 ·rw [if_neg hlt]
  have he:=qzX no l
  have:kA no l=l.length:=by omega
  have hn:hasI no l=false:=(Bool.not_eq_true _).mp fun h=>hlt (qFJ h).1
  rw [this,hn];rfl
def qIM (l:List V) (x:V):List V:=l.take (kA x.1 l)++(x :: l.drop (if hasI x.1 l=true then kA x.1 l+1 else kA x.1 l))
theorem qI1 {α:Type} {l:List α} {n:Nat}:sub l 0 (n:Int)=l.take n:=by simp [sub]
theorem qI0 {α:Type} {l:List α} {n:Nat}:sub l (n:Int) (len l)=l.drop n:=by
 simp only [sub,len,Int.toNat_natCast];rw [List.take_of_length_le (by rw [List.length_drop];omega)]
theorem qIL (l:List V) (x:V) (hl:l.length≤100000):jP ((l,1,()),x,())=some (qIM l x,()):=by
 unfold jP
 refine (qH g62).trans ((qF (show wS (x,())=some (x.1,()) from rfl)).trans ((qF (qKD l x.1 (by omega))).trans ?_))
 have hle:=qzX x.1 l
 have hc:∀ n:Nat,zF ([l.take (kA x.1 l),[x],l.drop n],())=some (l.take (kA x.1 l)++(x :: l.drop n),()):=fun n=>by
  rw [qGD _ (by simp) (fun y hy=>by
   simp only [List.mem_cons,List.not_mem_nil,or_false] at hy
   rcases hy with rfl | rfl | rfl
   ·have:=List.length_take_le' (kA x.1 l) l;omega
   ·simp
   ·rw [List.length_drop];omega)]
  simp
 unfold qIM
 cases h:hasI x.1 l
 ·refine (qF (qB rfl)).trans ?_
  refine (qH (by simp (disch:=first | assumption | omega | (dsimp only;omega) | decide) only [go_sem,Int.reduceToNat];omega)).trans ((qH (by simp (disch:=first | assumption | omega | (dsimp only;omega) | decide) only [go_sem,Int.reduceToNat];omega)).trans ?_)
  simp only [qI1,qI0]
  exact (qF (hc _)).trans rfl
 ·obtain ⟨h1,h2⟩:=qFJ h
  have e:i64 (iadd (kA x.1 l:Int) 1)=((kA x.1 l+1:Nat):Int):=zP (b:=1) (by omega)
  refine (qF (qE rfl)).trans ?_
  simp only [e]
  refine (qH (by simp (disch:=first | assumption | omega | (dsimp only;omega) | decide) only [go_sem,Int.reduceToNat];omega)).trans ((qH (by simp (disch:=first | assumption | omega | (dsimp only;omega) | decide) only [go_sem,Int.reduceToNat];omega)).trans ?_)
  simp only [qI1,qI0]
  exact (qF (hc _)).trans rfl
def qMQ (m:M) (no:Int) (v:BB):M×Int×Unit:=if zD no=none then (m,12,()) else if xR no v=true then ((m.1,qIM m.2.1 (no,v,()),()),0,()) else (m,1,())
theorem qCS (m:M) (no:Int) (v:BB) (hl:m.2.1.length≤100000) (hv:v.length≤1000000):xL (m,no,v,())=some (qMQ m no v):=by
 unfold xL qMQ
 refine (qF (qfR no)).trans ?_
 rw [qNQ]
 cases ho:zD no with
 | none=>rfl
 | some p =>
  rw [if_neg (by simp)]
  refine (qB rfl).trans ((qF (qb0 no v hv)).trans ?_)
  cases hf:xR no v
  ·rfl
  ·exact (qB rfl).trans ((qF (show qn1 (m,())=some ((m.2.1,1,()),()) from rfl)).trans ((qF (qIL m.2.1 (no,v,()) hl)).trans rfl))
def getR (no:Int):List V→BB×Bool×Unit
 | []=>([],false,())
 | v :: r=>if v.1=no then (v.2.1,true,()) else getR no r
def qwZ (no:Int) (_:Unit) (v:V):LS Unit (BB×Bool×Unit):=if v.1=no then .rt (v.2.1,true,()) else .nx ()
theorem qHt {σ:Type} {mk:Unit→Nat→σ} {e:Nat} {no:Int}:∀ (l:List V) (i:Nat),∃ j,wT mk e (qwZ no) () i l=if (getR no l).2.1=true then .rt (getR no l) else .ex e (mk () j)
 | [],i=>⟨i,rfl⟩
 | v :: r,i=>by
  by_cases h:v.1=no
  ·have hs:qwZ no () v = .rt (v.2.1,true,()):=if_pos h
   have hg:getR no (v :: r)=(v.2.1,true,()):=by unfold getR;rw [if_pos h]
   exact ⟨0,by simp only [wT,hs,hg,if_pos]⟩
  ·have hs:qwZ no () v = .nx ():=if_neg h
   have hg:getR no (v :: r)=getR no r:=by conv=>{ lhs;unfold getR }; rw [if_neg h]
   obtain ⟨j,hj⟩:=qHt (mk:=mk) (e:=e) (no:=no) r (i+1)
   exact ⟨j,by simp only [wT,hs,hg];exact hj⟩
theorem qC4 {no:Int}:∀ {l:List V},(getR no l).2.1=false→getR no l=([],false,())
 | [],_=>rfl
 | v :: r,h=>by
  unfold getR at h ⊢
  split
  ·rename_i hc;rw [if_pos hc] at h;cases h
  ·rename_i hc;rw [if_neg hc] at h;exact qC4 h
theorem qjR (m:M) (no:Int) (hl:m.2.1.length≤1000000):qbN (m,no,())=some (getR no m.2.1):=by
 unfold qbN
 generalize hf:(fun (x_1:Bool×Int×Unit)=>_)=f
 have key:=xP (f:=f) m.2.1 (fun (_:Unit) i=>(false,(i:Int),())) 0 (qwZ no) (fun _ _=>True) (fun _ i h _=>⟨?_,fun _ _=>trivial⟩) (fun _ _ => ?_) () trivial
 ·refine (qZ key).trans ?_
  obtain ⟨j,hj⟩:=qHt (mk:=fun _ i=>((false,(i:Int),()):Bool×Int×Unit)) (e:=0) (no:=no) m.2.1 0
  rw [hj]
  cases h:(getR no m.2.1).2.1
  ·rw [qC4 h];rfl
  ·rfl
 ·subst hf
  by_cases h1:(m.2.1[i]).1=no
  ·have hs:qwZ no () m.2.1[i] = .rt (m.2.1[i].2.1,true,()):=if_pos h1
   simp (disch:=first | assumption | omega | (dsimp only;omega) | decide) only [go_sem,Int.reduceToNat,hs,qaA]
  ·have hs:qwZ no () m.2.1[i] = .nx ():=if_neg h1
   simp (disch:=first | assumption | omega | (dsimp only;omega) | decide) only [go_sem,Int.reduceToNat,hs,qaA]
 ·subst hf;simp (disch:=first | assumption | omega | (dsimp only;omega) | decide) only [go_sem,Int.reduceToNat]
end Yp
namespace Yp
open Go
set_option linter.unusedVariables false
set_option linter.unusedSimpArgs false
def dg (n:Int) (w:Nat):BB:=ps 10 dch n.toNat w
theorem jT {n:Int} {w:Nat}:(dg n w).length=w:=zI _ _ _ _
theorem qFR {n:Int} {w:Nat}:figs (dg n w):=qkP
theorem qPq    {n : Int} {w : Nat} (h0 : 0 ≤ n) (h : n < 10 ^ w) : (val (dg n w) : Int) = n := by
  unfold dg
  rw [qIP   , Nat.mod_eq_of_lt (by have : ((n.toNat : Nat) : Int) < ((10 ^ w : Nat) : Int) := by rw [Int.toNat_of_nonneg h0]; push_cast; exact h
                                   exact Int.ofNat_lt.1 this)]
  omega
theorem j6 {n:Int} {w:Nat} (h1:1≤w) (h2:w≤18) (h0:0≤n) (h:n < 10 ^ w) (h64:n≤9223372036854775807):zY (n,(w:Int),())=some (dg n w,()):=by
 unfold zY
 rw [qb3 _ _ h64,if_pos ⟨show (1:Int)≤(w:Int) by omega,show (w:Int)≤18 by omega,h0,by simpa using h⟩]
 show ck (rm 1 (ln (dg n w))) _=_
 simp (disch:=first | assumption | omega | (dsimp only;omega) | decide) only [go_sem,Int.reduceToNat,jT]
 rfl
theorem jL {n:Int} {w:Nat} (h1:1≤w) (h2:w≤18) (h0:0≤n) (h:n < 10 ^ w) (h64:n≤9223372036854775807):qX (n,(w:Int),())=some (dg n w,()):=by
 unfold qX
 rw [yZ _ _ h64,if_pos ⟨show (1:Int)≤(w:Int) by omega,show (w:Int)≤18 by omega,h0,by simpa using h⟩]
 show ck (rm 1 (ln (dg n w))) _=_
 simp (disch:=first | assumption | omega | (dsimp only;omega) | decide) only [go_sem,Int.reduceToNat,jT]
 rfl
def msgN (n:N):M :=
 if n.1=false then (810,[(11,dg n.2.2.1 6,()),(39,dg n.2.2.2.1 2,()),(70,dg n.2.1 3,())],())
 else if n.2.1=101 then (800,[(11,dg n.2.2.1 6,()),(48,z8 n.2.2.2.2.2.2.1,()),(53,dg n.2.2.2.2.1 16,()),(70,dg n.2.1 3,()),(96,n.2.2.2.2.2.1,())],())
 else if n.2.1=201 then (800,[(11,dg n.2.2.1 6,()),(15,dg n.2.2.2.2.2.2.2.1 6,()),(70,dg n.2.1 3,())],())
 else (800,[(11,dg n.2.2.1 6,()),(70,dg n.2.1 3,())],())
theorem qc7 {no k:Int} {w:Nat} (h:zD no=some (k,(w:Int))) (hw:1≤w) {n:Int}:xR no (dg n w)=true:=by
 unfold xR
 rw [h]
 refine decide_eq_true ⟨⟨fun _=>qFR,fun _=>qjE qFR⟩, ?_⟩
 unfold fln
 rw [jT]
 split <;> omega
theorem fo11:zD 11=some (1,6):=by decide
theorem fo15:zD 15=some (1,6):=by decide
theorem fo39:zD 39=some (3,2):=by decide
theorem fo48:zD 48=some (5,400):=by decide
theorem fo53:zD 53=some (1,16):=by decide
theorem fo70:zD 70=some (1,3):=by decide
theorem fo96:zD 96=some (6,8):=by decide
theorem qMu {v:BB} (h:v.length=8):xR 96 v=true:=by
 unfold xR
 rw [fo96]
 refine decide_eq_true ⟨⟨fun h=>by omega,fun h=>by omega⟩, ?_⟩
 unfold fln
 rw [if_pos (by omega),h];rfl
theorem qNl {t:Int} {l:List V} {no:Int} {v:BB} (hl:l.length≤100) (hv:v.length≤1000) (hf:xR no v=true):xL ((t,l,()),no,v,())=some ((t,qIM l (no,v,()),()),0,()):=by
 rw [qCS (t,l,()) no v (show l.length≤100000 by omega) (by omega)]
 obtain ⟨k,m,hk,_⟩:=wU.1 hf
 unfold qMQ
 rw [if_neg (by rw [hk];simp),if_pos hf]
theorem qJX:∀ k:Nat,k < 16→32≤(nib k).toNat∧(nib k).toNat≤126:=by decide
theorem qKo {b:BB} {c:UInt8} (h:c∈z8 b):32≤c.toNat∧c.toNat≤126:=by
 unfold z8 at h
 obtain ⟨x,_,hc⟩:=List.mem_flatMap.1 h
 have hx:=x.toNat_lt
 simp only [List.mem_cons,List.not_mem_nil,or_false] at hc
 rcases hc with rfl | rfl
 ·exact qJX _ (by omega)
 ·exact qJX _ (by omega)
theorem qKn {b:BB}:rng 32 126 (z8 b):=by
 intro i h
 have:=qKo (List.getElem_mem h)
 rw [qCF];omega
theorem qMv {b:BB} (h:b.length=3):xR 48 (z8 b)=true:=by
 unfold xR
 rw [fo48]
 refine decide_eq_true ⟨⟨fun h=>by omega,fun _=>qKn⟩, ?_⟩
 unfold fln
 rw [zQ,h];decide
theorem setc {t:Int} {l l':List V} {no:Int} {v:BB} (hl:l.length≤100) (hv:v.length≤1000) (hf:xR no v=true) (hw:qIM l (no,v,())=l'):xL ((t,l,()),no,v,())=some ((t,l',()),0,()):=by rw [← hw];exact qNl hl hv hf
theorem qnV {n:N} (hr:z6 n):qcH (n,())=some (msgN n,()):=by
 obtain ⟨rq,c,st,rs,g,no,k,d,⟨⟩⟩:=n
 have hr':=jE.1 hr
 obtain ⟨hc,s1,s2,r1,r2,r3,hk⟩:=hr'
 have hc0:0≤c∧c≤301:=by unfold kL at hc;omega
 have e11:zY (st,6,())=some (dg st 6,()):=j6 (n:=st) (w:=6) (by omega) (by omega) (by omega) (by omega) (by omega)
 have e70:zY (c,3,())=some (dg c 3,()):=j6 (n:=c) (w:=3) (by omega) (by omega) (by omega) (by omega) (by omega)
 have e39:zY (rs,2,())=some (dg rs 2,()):=j6 (n:=rs) (w:=2) (by omega) (by omega) (by omega) (by omega) (by omega)
 have f11:=fun n=>qc7 (no:=11) (w:=6) (n:=n) fo11 (by omega)
 have f15:=fun n=>qc7 (no:=15) (w:=6) (n:=n) fo15 (by omega)
 have f39:=fun n=>qc7 (no:=39) (w:=2) (n:=n) fo39 (by omega)
 have f53:=fun n=>qc7 (no:=53) (w:=16) (n:=n) fo53 (by omega)
 have f70:=fun n=>qc7 (no:=70) (w:=3) (n:=n) fo70 (by omega)
 have len:∀ {n:Int} {w:Nat},w≤20→(dg n w).length≤1000:=fun h=>by rw [jT];omega
 have t1:xL ((810,([]:List V),()),11,dg st 6,())=some ((810,[(11,dg st 6,())],()),0,()):=setc (l:=[]) (by decide) (len (by omega)) (f11 st) rfl
 have t2:xL ((810,[(11,dg st 6,())],()),70,dg c 3,())=some ((810,[(11,dg st 6,()),(70,dg c 3,())],()),0,()):=setc (by simp) (len (by omega)) (f70 c) rfl
 unfold qcH
 cases rq
 ·have t3:xL ((810,[(11,dg st 6,()),(70,dg c 3,())],()),39,dg rs 2,())=some ((810,[(11,dg st 6,()),(39,dg rs 2,()),(70,dg c 3,())],()),0,()):=setc (by simp) (len (by omega)) (f39 rs) rfl
  simp (disch:=first | assumption | omega | (dsimp only;omega) | decide) only [go_sem,Int.reduceToNat,e11,e70,e39,t1,t2,t3]
  rfl
 ·by_cases h1:c=101
  ·subst h1
   rw [if_pos ⟨rfl,rfl⟩] at hk
   obtain ⟨g1,g2,hn,hkc,hd⟩:=hk
   have e53:zY (g,16,())=some (dg g 16,()):=j6 (n:=g) (w:=16) (by omega) (by omega) (by omega) (by omega) (by omega)
   have ex:=qDd k (by omega)
   have hxl:(z8 k).length=6:=by rw [zQ,hkc]
   have t3:xL ((800,[(11,dg st 6,()),(70,dg 101 3,())],()),48,z8 k,())=some ((800,[(11,dg st 6,()),(48,z8 k,()),(70,dg 101 3,())],()),0,()):=setc (by simp) (by omega) (qMv hkc) rfl
   have t4:xL ((800,[(11,dg st 6,()),(48,z8 k,()),(70,dg 101 3,())],()),53,dg g 16,())=some ((800,[(11,dg st 6,()),(48,z8 k,()),(53,dg g 16,()),(70,dg 101 3,())],()),0,()):=setc (by simp) (len (by omega)) (f53 g) rfl
   have t5:xL ((800,[(11,dg st 6,()),(48,z8 k,()),(53,dg g 16,()),(70,dg 101 3,())],()),96,no,())=some ((800,[(11,dg st 6,()),(48,z8 k,()),(53,dg g 16,()),(70,dg 101 3,()),(96,no,())],()),0,()):=setc (by simp) (by omega) (qMu hn) rfl
   simp (disch:=first | assumption | omega | (dsimp only;omega) | decide) only [go_sem,Int.reduceToNat,e11,e70,e39,e53,ex,t1,t2,t3,t4,t5,hxl]
   rfl
  ·by_cases h2:c=201
   ·subst h2
    rw [if_neg (by omega),if_pos ⟨rfl,rfl⟩] at hk
    obtain ⟨_,_,_,d1,d2⟩:=hk
    have e15:zY (d,6,())=some (dg d 6,()):=j6 (n:=d) (w:=6) (by omega) (by omega) (by omega) (by omega) (by omega)
    have t3:xL ((800,[(11,dg st 6,()),(70,dg 201 3,())],()),15,dg d 6,())=some ((800,[(11,dg st 6,()),(15,dg d 6,()),(70,dg 201 3,())],()),0,()):=setc (by simp) (len (by omega)) (f15 d) rfl
    simp (disch:=first | assumption | omega | (dsimp only;omega) | decide) only [go_sem,Int.reduceToNat,e11,e70,e39,e15,t1,t2,t3]
    rfl
   ·simp (disch:=first | assumption | omega | (dsimp only;omega) | decide) only [go_sem,Int.reduceToNat,e11,e70,e39,t1,t2,h1,h2,D_f h1,D_f h2]
    show _=some (if true=false then _ else if c=101 then _ else if c=201 then _ else _,())
    rw [if_neg (by decide),if_neg h1,if_neg h2]
theorem qlQ {n:N} (hr:z6 n):qaM (n,())=some (msgN n,()):=by
 obtain ⟨rq,c,st,rs,g,no,k,d,⟨⟩⟩:=n
 have hr':=jE.1 hr
 obtain ⟨hc,s1,s2,r1,r2,r3,hk⟩:=hr'
 have hc0:0≤c∧c≤301:=by unfold kL at hc;omega
 have e11:qX (st,6,())=some (dg st 6,()):=jL (n:=st) (w:=6) (by omega) (by omega) (by omega) (by omega) (by omega)
 have e70:qX (c,3,())=some (dg c 3,()):=jL (n:=c) (w:=3) (by omega) (by omega) (by omega) (by omega) (by omega)
 have e39:qX (rs,2,())=some (dg rs 2,()):=jL (n:=rs) (w:=2) (by omega) (by omega) (by omega) (by omega) (by omega)
 unfold qaM
 cases rq
 ·simp (disch:=first | assumption | omega | (dsimp only;omega) | decide) only [go_sem,Int.reduceToNat,e11,e70,e39,List.length_cons,List.length_nil,List.length_append]
  rfl
 ·by_cases h1:c=101
  ·subst h1
   rw [if_pos ⟨rfl,rfl⟩] at hk
   obtain ⟨g1,g2,hn,hkc,hd⟩:=hk
   have e53:qX (g,16,())=some (dg g 16,()):=jL (n:=g) (w:=16) (by omega) (by omega) (by omega) (by omega) (by omega)
   have ex:=qvM k (by omega)
   have hxl:(z8 k).length=6:=by rw [zQ,hkc]
   simp (disch:=first | assumption | omega | (dsimp only;omega) | decide) only [go_sem,Int.reduceToNat,e11,e70,e39,e53,ex,hxl,List.length_cons,List.length_nil,List.length_append]
   rfl
  ·by_cases h2:c=201
   ·subst h2
    rw [if_neg (by omega),if_pos ⟨rfl,rfl⟩] at hk
    obtain ⟨_,_,_,d1,d2⟩:=hk
    have e15:qX (d,6,())=some (dg d 6,()):=jL (n:=d) (w:=6) (by omega) (by omega) (by omega) (by omega) (by omega)
    simp (disch:=first | assumption | omega | (dsimp only;omega) | decide) only [go_sem,Int.reduceToNat,e11,e70,e39,e15,List.length_cons,List.length_nil,List.length_append]
    rfl
   ·simp (disch:=first | assumption | omega | (dsimp only;omega) | decide) only [go_sem,Int.reduceToNat,e11,e70,e39,h1,h2,D_f h1,D_f h2,List.length_cons,List.length_nil,List.length_append]
    show _=some (if true=false then _ else if c=101 then _ else if c=201 then _ else _,())
    rw [if_neg (by decide),if_neg h1,if_neg h2]
    rfl
end Yp
namespace Yp
open Go
theorem qwI:∀ {a b:List Int},a.Pairwise (· < ·)→b.Pairwise (· < ·)→(∀ n,n∈a↔n∈b)→a=b
 | [],[],_,_,_=>rfl
 | [],y :: b,_,_,h=>by have:=(h y).2 (by simp);cases this
 | x :: a,[],_,_,h=>by have:=(h x).1 (by simp);cases this
 | x :: a,y :: b,ha,hb,h=>by
  rw [List.pairwise_cons] at ha hb
  have hxy:x=y:=by
   have h1:=(h x).1 (by simp)
   have h2:=(h y).2 (by simp)
   rcases List.mem_cons.1 h1 with h1 | h1
   ·exact h1
   ·rcases List.mem_cons.1 h2 with h2 | h2
    ·exact h2.symm
    ·have:=hb.1 x h1
     have:=ha.1 y h2
     omega
  subst hxy
  rw [qwI ha.2 hb.2 fun n => ?_]
  have:=h n
  simp only [List.mem_cons] at this
  constructor
  ·intro hn
   rcases this.1 (.inr hn) with rfl | h1
   ·have:=ha.1 n hn;omega
   ·exact h1
  ·intro hn
   rcases this.2 (.inr hn) with rfl | h1
   ·have:=hb.1 n hn;omega
   ·exact h1
theorem qlK {l:List Int}:∀ {last:Int},z2 last l=true→l.Pairwise (· < ·):=by
 induction l with
 | nil=>intros;exact List.Pairwise.nil
 | cons x r ih =>
  intro last h
  have hm:=h
  simp only [z2,Bool.and_eq_true,decide_eq_true_eq] at h
  exact List.pairwise_cons.2 ⟨fun y hy=>(xY h.2 y hy).1,ih h.2⟩
theorem qJq {l:List Int}:∀ {last:Int},l.Pairwise (· < ·)→(∀ n∈l,last < n∧n≤128∧n≠65)→z2 last l=true:=by
 induction l with
 | nil=>intros;rfl
 | cons x r ih =>
  intro last hp h
  rw [List.pairwise_cons] at hp
  simp only [z2,Bool.and_eq_true,decide_eq_true_eq]
  refine ⟨h x (by simp),ih hp.2 fun n hn=>⟨hp.1 n hn,(h n (by simp [hn])).2⟩⟩
theorem qoV (c:BB):((qc0 c).map Int.ofNat).Pairwise (· < ·):=by
 rw [List.pairwise_map]
 refine List.Pairwise.imp ?_ (show (qc0 c).Pairwise (· < ·) from List.Pairwise.filter _ List.pairwise_lt_range)
 intro a b h;exact Int.ofNat_lt.2 h
theorem qbT {c:BB} {n:Nat}:n∈qc0 c↔n≤8*c.length∧2≤n∧hasB c n=true:=by
 unfold qc0
 rw [List.mem_filter,List.mem_range,Bool.and_eq_true]
 constructor
 ·rintro ⟨h1,h2,h3⟩;exact ⟨by omega,Nat.le_of_ble_eq_true h2,h3⟩
 ·rintro ⟨h1,h2,h3⟩;exact ⟨by omega,Nat.ble_eq_true_of_le h2,h3⟩
theorem qAH {l:List Int} (h:z2 1 l=true) {n:Nat} (h1:1≤n) (h2:n≤8*(bmW l).length):hasB (bmW l) n=(decide ((n:Int)∈l) || (Nat.beq n 1 && qcN l)):=by
 rw [vF] at h2
 unfold bmW
 cases hw:qcN l
 ·rw [hw] at h2
  rw [if_neg (by simp)] at h2 ⊢
  rw [qhS h1 h2,Bool.and_false,Bool.or_false];rfl
 ·rw [hw] at h2
  rw [if_pos rfl] at h2 ⊢
  rw [qhS h1 h2,Bool.and_true]
  unfold memI
  refine Bool.eq_iff_iff.2 ?_
  simp only [Bool.or_eq_true,decide_eq_true_eq,List.mem_cons,Nat.beq_eq]
  rw [or_comm]
  refine or_congr Iff.rfl ?_
  omega
theorem qLy {l:List Int} (h:z2 1 l=true):(qc0 (bmW l)).map Int.ofNat=l:=by
 refine qwI (qoV _) (qlK h) fun n => ?_
 rw [List.mem_map]
 have hm:=xY h
 constructor
 ·rintro ⟨k,hk,rfl⟩
  obtain ⟨h1,h2,h3⟩:=qbT.1 hk
  rw [qAH h (by omega) h1] at h3
  have:Nat.beq k 1=false:=(Bool.not_eq_true _).mp fun hb=>by have:=Nat.eq_of_beq_eq_true hb;omega
  rw [this,Bool.false_and,Bool.or_false,decide_eq_true_eq] at h3
  exact h3
 ·intro hn
  have hb:=hm n hn
  refine ⟨n.toNat,qbT.2 ⟨?_,by omega, ?_⟩,by simp;omega⟩
  ·rw [vF]
   split
   ·omega
   ·rename_i hw
    have:=ql3 h hw n hn
    omega
  ·rw [qAH h (by omega) (by
    rw [vF]
    split
    ·omega
    ·rename_i hw
     have:=ql3 h hw n hn
     omega)]
   rw [Int.toNat_of_nonneg (by omega),decide_eq_true hn,Bool.true_or]
theorem qAG (l:List Int):8≤(bmW l).length∧(bmW l).length≤16:=by rw [vF];split <;> omega
theorem qN1 {l:List Int} (h:z2 1 l=true):hasB (bmW l) 1=qcN l:=by
 rw [qAH h (by omega) (by have:=qAG l;omega)]
 have:decide (((1:Nat):Int)∈l)=false:=decide_eq_false fun hc=>by have:=(xY h _ hc).1;omega
 rw [this];rfl
theorem qGH {l:List Int} (h:z2 1 l=true):qcN l=true↔∃ n∈l,64 < n:=by
 constructor
 ·intro hw
  unfold qcN at hw
  rw [Bool.and_eq_true,decide_eq_true_eq,decide_eq_true_eq] at hw
  exact ⟨_,by rw [qL (show l.length - 1 < l.length by omega)];exact List.getElem_mem _,hw.2⟩
 ·rintro ⟨n,hn,h1⟩
  refine Classical.byContradiction fun hw => ?_
  have:=ql3 h hw n hn
  omega
theorem qN4 {l:List Int} {c q:BB} {a:Int} (h:z2 1 l=true) (hc:c=bmW l++q):bmC c a=(l,a+((bmW l).length:Int),0,()):=by
 have h8:=qAG l
 have hcl:c.length=(bmW l).length+q.length:=by rw [hc,List.length_append]
 have ht:c.take (bmW l).length=bmW l:=by rw [hc,List.take_left]
 have h1:hasB c 1=qcN l:=by
  rw [← qN1 h,← ht]
  exact (qtA (by omega) (by omega) (by omega)).symm
 have hn:=qLy h
 have hbl:=vF l
 unfold bmC
 rw [h1]
 cases hw:qcN l
 ·rw [hw,if_neg (by simp)] at hbl
  rw [hbl] at ht hcl ⊢
  rw [if_neg (by simp;omega),if_neg (by simp),ht,hn];rfl
 ·rw [hw,if_pos rfl] at hbl
  rw [hbl] at ht hcl ⊢
  rw [if_neg (by simp;omega),if_pos rfl,ht,hn,if_neg]
  ·rfl
  ·rintro (hc65 | hall)
   ·have:((65:Nat):Int)∈l:=by rw [← hn];exact List.mem_map.2 ⟨65,hc65,rfl⟩
    have:=(xY h _ this).2.2
    exact this rfl
   ·obtain ⟨n,hn1,hn2⟩:=(qGH h).1 hw
    have hb:=xY h n hn1
    rw [← hn] at hn1
    obtain ⟨k,hk,rfl⟩:=List.mem_map.1 hn1
    have:=hall k hk
    simp at hn2 hb;omega
theorem qN2 {l:List Int} {b q:BB} {A:Nat} (h:z2 1 l=true) (hA:A≤b.length) (hb:b.drop A=bmW l++q):bmR b A=(l,((A+(bmW l).length:Nat):Int),0,()):=by
 unfold bmR
 rw [if_neg (by omega),Int.toNat_natCast,qN4 h hb,Int.natCast_add]
theorem qN3 {c:BB} {a a':Int} {l:List Int} (h:bmC c a=(l,a',0,())):z2 1 l=true∧a'=a+((bmW l).length:Int)∧(bmW l).length≤c.length∧c=bmW l++c.drop (bmW l).length:=by
 unfold bmC at h
 by_cases h0:c.length < 8∨(hasB c 1=true∧c.length < 16)
 ·rw [if_pos h0] at h;simp at h
 rw [if_neg h0] at h
 have main:∀ size:Nat,size=8∨size=16→size≤c.length→(hasB c 1=true↔size=16)→l=(qc0 (c.take size)).map Int.ofNat→(size=16→¬ (65∈qc0 (c.take 16)∨∀ n∈qc0 (c.take 16),n < 65))→z2 1 l=true∧bmW l=c.take size:=by
  intro size hs hsc h1 hl h65
  have htl:(c.take size).length=size:=by rw [List.length_take];omega
  have hr:z2 1 l=true:=by
   rw [hl]
   refine qJq (qoV _) fun n hn => ?_
   obtain ⟨k,hk,rfl⟩:=List.mem_map.1 hn
   obtain ⟨k1,k2,k3⟩:=qbT.1 hk
   rw [htl] at k1
   refine ⟨by simp;omega,by simp;omega,fun hc => ?_⟩
   have hk65:k=65:=by simp at hc;omega
   subst hk65
   have h16:size=16:=by omega
   subst h16
   exact h65 rfl (.inl hk)
  have hw:qcN l=true↔size=16:=by
   rw [qGH hr,hl]
   constructor
   ·rintro ⟨n,hn,h1⟩
    obtain ⟨k,hk,rfl⟩:=List.mem_map.1 hn
    obtain ⟨k1,_⟩:=qbT.1 hk
    rw [htl] at k1
    simp at h1;omega
   ·intro h16
    subst h16
    refine Classical.byContradiction fun hc=>h65 rfl (.inr fun n hn=>Classical.byContradiction fun hlt=>hc ⟨(n:Int),List.mem_map.2 ⟨n,hn,rfl⟩,by omega⟩)
  refine ⟨hr, ?_⟩
  have hbl:(bmW l).length=size:=by
   rw [vF]
   split
   ·rename_i h;exact (hw.1 h).symm
   ·rename_i h;have:¬ size=16:=fun e=>h (hw.2 e);omega
  refine qJk (by rw [hbl,htl]) fun n n1 n2 => ?_
  rw [qAH hr n1 n2]
  rw [hbl] at n2
  rw [hl]
  by_cases hn1:n=1
  ·subst hn1
   have hd:decide (((1:Nat):Int)∈(qc0 (c.take size)).map Int.ofNat)=false:=decide_eq_false fun hc=>by
    obtain ⟨k,hk,hk1⟩:=List.mem_map.1 hc
    have:=(qbT.1 hk).2.1
    simp at hk1;omega
   rw [hd,Bool.false_or,qtA (by omega) (by omega) hsc,← hl]
   have hb:Nat.beq 1 1=true:=rfl
   rw [hb,Bool.true_and]
   exact Bool.eq_iff_iff.2 (hw.trans h1.symm)
  ·have hb:Nat.beq n 1=false:=(Bool.not_eq_true _).mp fun hb=>hn1 (Nat.eq_of_beq_eq_true hb)
   rw [hb,Bool.false_and,Bool.or_false]
   refine Bool.eq_iff_iff.2 ?_
   rw [decide_eq_true_eq,List.mem_map]
   constructor
   ·rintro ⟨k,hk,hk1⟩
    have:k=n:=by simp at hk1;omega
    subst this
    exact (qbT.1 hk).2.2
   ·intro hh
    exact ⟨n,qbT.2 ⟨by rw [htl];omega,by omega,hh⟩,rfl⟩
 by_cases h1:hasB c 1=true
 ·rw [if_pos h1] at h
  by_cases h65:65∈qc0 (c.take 16)∨∀ n∈qc0 (c.take 16),n < 65
  ·rw [if_pos h65] at h;simp at h
  rw [if_neg h65] at h
  simp only [Prod.mk.injEq,and_true] at h
  have h16:16≤c.length:=by
   refine Classical.byContradiction fun hc=>h0 (.inr ⟨h1,by omega⟩)
  obtain ⟨r1,r2⟩:=main 16 (.inr rfl) h16 (iff_of_true h1 rfl) h.1.symm (fun _=>h65)
  have hbl:(bmW l).length=16:=by rw [r2,List.length_take];omega
  rw [hbl]
  refine ⟨r1,h.2.symm,h16, ?_⟩
  rw [r2,List.take_append_drop]
 ·rw [if_neg h1] at h
  simp only [Prod.mk.injEq,and_true] at h
  obtain ⟨r1,r2⟩:=main 8 (.inl rfl) (by omega) (iff_of_false h1 (by omega)) h.1.symm (fun e=>absurd e (by omega))
  have hbl:(bmW l).length=8:=by rw [r2,List.length_take];omega
  rw [hbl]
  refine ⟨r1,h.2.symm,by omega, ?_⟩
  rw [r2,List.take_append_drop]
theorem qL7 {v:V} {k l:Int} (ho:zD v.1=some (k,l)) (hv:fv k l v.2.1):wrV v=wrF k v.2.1:=by
 unfold wrV wrD;rw [ho];simp only [if_pos hv]
theorem qM4 {v:V} {b q:BB} {A:Nat} (hf:xR v.1 v.2.1=true) (hA:A≤b.length) (h:b.drop A=wrV v++q):rdD v.1 b A=(v.2.1,((A+(wrV v).length:Nat):Int),0,()):=by
 obtain ⟨k,l,ho,hv⟩:=wU.1 hf
 rw [qL7 ho hv] at h ⊢
 unfold rdD;rw [ho]
 exact qM2 ho hA hv h
theorem qM3 {no:Int} {v b:BB} {A:Nat} {I:Int} (hA:A≤b.length) (h:rdD no b A=(v,I,0,())):xR no v=true∧I=((A+(wrV (no,v,())).length:Nat):Int)∧A+(wrV (no,v,())).length≤b.length∧b.drop A=wrV (no,v,())++b.drop (A+(wrV (no,v,())).length):=by
 cases ho:zD no with
 | none=>unfold rdD at h;rw [ho] at h;simp at h
 | some p =>
  obtain ⟨k,l⟩:=p
  have h':rdF k l b A=(v,I,0,()):=by unfold rdD at h;rw [ho] at h;exact h
  obtain ⟨m1,m2,m3,m4⟩:=qM1 ho hA h'
  rw [qL7 (v:=(no,v,())) ho m1]
  exact ⟨wU.2 ⟨k,l,ho,m1⟩,m2,m3,m4⟩
theorem qG1 {b:BB}:∀ {l:List V} {A:Nat} {F:List V} {q:BB},(∀ v∈l,xR v.1 v.2.1=true)→A≤b.length→b.drop A=l.flatMap wrV++q→rdFs b (nosF l) A F=(none,((A+(l.flatMap wrV).length:Nat):Int),F++l)
 | [],A,F,q,_,_,_=>by simp [rdFs,nosF]
 | v :: r,A,F,q,hf,hA,h=>by
  rw [List.flatMap_cons,List.append_assoc] at h
  have h1:=qM4 (hf v (by simp)) hA h
  have h2:=kN hA h
  simp only [nosF,List.map_cons,rdFs]
  rw [h1,if_pos rfl]
  have:=qG1 (F:=F++[(v.1,v.2.1,())]) (fun u hu=>hf u (by simp [hu])) h2.1 h2.2
  simp only
  rw [show r.map (fun v=>v.1)=nosF r from rfl,this,List.flatMap_cons,List.length_append,Nat.add_assoc]
  have hv:(v.1,v.2.1,())=v:=by obtain ⟨a,b,⟨⟩⟩:=v;rfl
  rw [hv,List.append_assoc];rfl
theorem qG0 {b:BB}:∀ {ns:List Int} {A:Nat} {F F':List V} {a':Int},A≤b.length→rdFs b ns A F=(none,a',F')→∃ l:List V,F'=F++l∧nosF l=ns∧(∀ v∈l,xR v.1 v.2.1=true)∧a'=((A+(l.flatMap wrV).length:Nat):Int)∧A+(l.flatMap wrV).length≤b.length∧b.drop A=l.flatMap wrV++b.drop (A+(l.flatMap wrV).length)
 | [],A,F,F',a',hA,h=>by
  simp only [rdFs,Prod.mk.injEq,true_and] at h
  obtain ⟨rfl,rfl⟩:=h
  exact ⟨[],by simp,rfl,by simp,by simp,by simpa using hA,by simp⟩
 | n :: r,A,F,F',a',hA,h=>by
  simp only [rdFs] at h
  by_cases h0:(rdD n b A).2.2.1=0
  ·rw [if_pos h0] at h
   rcases hx:rdD n b A with ⟨v,I,e,u⟩
   rw [hx] at h0 h
   simp only at h0
   subst h0
   obtain ⟨m1,m2,m3,m4⟩:=qM3 hA hx
   subst m2
   obtain ⟨l,l1,l2,l3,l4,l5,l6⟩:=qG0 m3 h
   refine ⟨(n,v,()) :: l,by rw [l1];simp,by simp only [nosF,List.map_cons];rw [← l2];rfl,fun w hw => ?_, ?_, ?_, ?_⟩
   ·rcases List.mem_cons.1 hw with rfl | hw
    ·exact m1
    ·exact l3 w hw
   ·rw [l4,List.flatMap_cons,List.length_append];omega
   ·rw [List.flatMap_cons,List.length_append];omega
   ·rw [List.flatMap_cons,List.length_append,List.append_assoc,← Nat.add_assoc,← l6];exact m4
  ·rw [if_neg h0] at h;simp at h
theorem qJs {l:List V}:∀ {last:Int},z2 last (nosF l)=true→(∀ v∈l,xR v.1 v.2.1=true)→vH last l=true:=by
 induction l with
 | nil=>intros;rfl
 | cons x r ih =>
  intro last h hf
  simp only [nosF,List.map_cons,z2,Bool.and_eq_true,decide_eq_true_eq] at h
  simp only [vH,Bool.and_eq_true,decide_eq_true_eq]
  exact ⟨h.1.1,hf x (by simp),ih h.2 fun v hv=>hf v (by simp [hv])⟩
theorem qFl {l:List V} {last last':Int} (hl:last'≤last) (h:vH last l=true):vH last' l=true:=by
 cases l with
 | nil=>rfl
 | cons x r =>
  simp only [vH,Bool.and_eq_true,decide_eq_true_eq] at h ⊢
  exact ⟨by omega,h.2⟩
theorem qG2 {b:BB}:∀ {ns:List Int} {A:Int} {F F':List V} {a' e:Int},rdFs b ns A F=(some e,a',F')→¬ e=0
 | [],A,F,F',a',e,h=>by simp [rdFs] at h
 | n :: r,A,F,F',a',e,h=>by
  simp only [rdFs] at h
  by_cases h0:(rdD n b A).2.2.1=0
  ·rw [if_pos h0] at h;exact qG2 h
  ·rw [if_neg h0] at h
   simp only [Prod.mk.injEq,Option.some.injEq] at h
   rw [← h.1];exact h0
theorem val4 {m:Int} (h:xC m):val (ps 10 dch m.toNat 4)=m.toNat:=by
 unfold xC at h
 rw [qIP,Nat.mod_eq_of_lt (by omega)]
theorem qIZ {m:Int} {b q:BB} (h:xC m) (hb:b=typB m++q):zU b 0 4=(ps 10 dch m.toNat 4,2,0,()):=by
 have:=qj5 (b:=b) (s:=ps 10 dch m.toNat 4) (q:=q) (I:=0) (Nat.zero_le _) (by rw [zI];omega) qkP hb
 rw [zI] at this;exact this
theorem qKh {l:List V} (h:∀ v∈l,xR v.1 v.2.1=true):∀ n∈nosF l,(zD n).isSome=true:=by
 intro n hn
 obtain ⟨v,hv,rfl⟩:=List.mem_map.1 hn
 obtain ⟨k,l,ho,_⟩:=wU.1 (h v hv)
 rw [ho];rfl
theorem qdN {m:M}:kD m=true↔vH 0 m.2.1=true∧xC m.1:=by unfold kD;rw [Bool.and_eq_true,decide_eq_true_eq]
theorem qMZ {m:M} {q:BB} (h:kD m=true):rdM (wrM m++q)=if q=[] then (m,0,()) else (noM,4,()):=by
 obtain ⟨hF,ht⟩:=qdN.1 h
 have hfit:=fun v hv=>(kE hF v hv).2
 have hL:=qlL hF
 have e:wrM m++q=typB m.1++(bmW (nosF m.2.1)++(m.2.1.flatMap wrV++q)):=by unfold wrM;simp
 generalize hb:wrM m++q=b at *
 have h4:=qIZ ht e
 have htl:=qeL (m:=m.1)
 have hd:=kN (b:=b) (A:=0) (Nat.zero_le _) e
 rw [Nat.zero_add,htl] at hd
 have hr:=qN2 hL hd.1 hd.2
 have hd2:=kN hd.1 hd.2
 have hfs:=qG1 (F:=[]) hfit hd2.1 hd2.2
 have hd3:=kN hd2.1 hd2.2
 have hbl:=qz0 hd3.1 hd3.2
 unfold rdM
 rw [h4,if_neg (by simp)]
 simp only
 rw [val4 ht,Int.toNat_of_nonneg (by unfold xC at ht;omega),if_pos ht]
 replace hr:bmR b 2=_:=hr
 rw [hr,if_neg (by simp)]
 unfold rdE
 rw [if_pos (qKh hfit),hfs]
 simp only [List.nil_append]
 by_cases hq:q=[]
 ·subst hq
  rw [List.length_nil] at hbl
  rw [if_pos rfl,if_neg (by omega)]
 ·rw [if_neg hq,if_pos (by have:=List.length_pos_iff.2 hq;omega)]
theorem qFp {b:BB} {m:M} (h:rdM b=(m,0,())):kD m=true∧wrM m=b:=by
 unfold rdM at h
 by_cases h0:(zU b 0 4).2.2.1≠0
 ·rw [if_pos h0] at h
  simp only [Prod.mk.injEq,and_true] at h
  exact absurd h.2 h0
 rw [if_neg h0] at h
 rcases xG (b:=b) (I:=0) (N:=4) (Nat.zero_le _) (by omega) with ⟨_,e⟩ | ⟨_,e,_⟩ | ⟨s,h4,e,hf,hs,htk⟩
 ·exact absurd (by rw [show zU b 0 4=_ from e];simp) h0
 ·exact absurd (by rw [show zU b 0 4=_ from e];simp) h0
 ·replace e:zU b 0 4=(s,2,0,()):=e
  rw [e] at h
  simp only at h
  by_cases ht:xC (val s:Int)
  ·rw [if_pos ht] at h
   have hty:typB (val s:Int)=bcd (pad s):=by unfold typB;rw [Int.toNat_natCast,← hs,qMk hf]
   have hd:b.drop 0=typB (val s:Int)++b.drop 2:=by rw [hty];exact qjF htk
   rw [List.drop_zero] at hd
   by_cases hz:(bmR b 2).2.2.1≠0
   ·rw [if_pos hz] at h
    simp only [Prod.mk.injEq,and_true] at h
    exact absurd h.2 hz
   rw [if_neg hz] at h
   rcases hx:bmR b 2 with ⟨l,a',er,u⟩
   rw [hx] at h hz
   simp only [ne_eq,Decidable.not_not] at hz h
   subst hz
   have hC:bmC (b.drop 2) 2=(l,a',0,()):=by
    unfold bmR at hx
    rw [if_neg (by omega)] at hx;exact hx
   obtain ⟨c1,c2,c3,c4⟩:=qN3 hC
   rw [List.length_drop] at c3
   rw [List.drop_drop] at c4
   unfold rdE at h
   by_cases ho:∀ n∈l,(zD n).isSome=true
   ·rw [if_pos ho] at h
    have ha':a'=((2+(bmW l).length:Nat):Int):=by omega
    rw [ha'] at h
    rcases hfs:rdFs b l ((2+(bmW l).length:Nat):Int) [] with ⟨_ | er,a2,F⟩
    ·rw [hfs] at h
     simp only at h
     obtain ⟨L,l1,l2,l3,l4,l5,l6⟩:=qG0 (by omega) hfs
     by_cases hlt:a2 < (b.length:Int)
     ·rw [if_pos hlt] at h;simp at h
     rw [if_neg hlt] at h
     simp only [Prod.mk.injEq,and_true] at h
     rw [List.nil_append] at l1
     subst l1
     have hend:b.drop (2+(bmW l).length+(F.flatMap wrV).length)=[]:=List.drop_eq_nil_of_le (by omega)
     rw [hend,List.append_nil] at l6
     rw [← h]
     refine ⟨qdN.2 ⟨qFl (by omega) (qJs (last:=1) (by rw [l2];exact c1) l3),ht⟩, ?_⟩
     unfold wrM
     simp only
     rw [l2,← l6,← c4,← hd]
    ·rw [hfs] at h
     simp only [Prod.mk.injEq,and_true] at h
     exact absurd h.2 (qG2 hfs)
   ·rw [if_neg ho] at h;simp at h
  ·rw [if_neg ht] at h;simp at h
theorem qM0 {b:BB}:(rdM b).2.1=0∨(rdM b).1=noM:=by
 unfold rdM
 by_cases h0:(zU b 0 4).2.2.1≠0
 ·rw [if_pos h0];exact .inr rfl
 rw [if_neg h0]
 by_cases ht:xC (val (zU b 0 4).1:Int)
 ·rw [if_pos ht]
  by_cases hz:(bmR b 2).2.2.1≠0
  ·rw [if_pos hz];exact .inr rfl
  rw [if_neg hz]
  unfold rdE
  split
  ·rcases rdFs b (bmR b 2).1 (bmR b 2).2.1 [] with ⟨_ | er,a2,F⟩
   ·simp only
    split
    ·exact .inr rfl
    ·exact .inl rfl
   ·exact .inr rfl
  ·exact .inr rfl
 ·rw [if_neg ht];exact .inr rfl
end Yp
namespace Yp
open Go
def few (m:M):Prop:=m.2.1.length≤40∧∀ v∈m.2.1,v.2.1.length≤450
theorem few.fewM {m:M} (h:few m):fewM m:=⟨by have:=h.1;omega,fun v hv=>by have:=h.2 v hv;omega⟩
theorem qMY {b:BB}:(rdM b).1.2.1.length≤1000:=by
 rcases qM0 (b:=b) with h | h
 ·rcases hx:rdM b with ⟨m,e,u⟩
  rw [hx] at h
  simp only at h
  subst h
  have hr:=(qdN.1 (qFp hx).1).1
  have hL:=qlL hr
  have hs:=qlK hL
  have hm:=xY hL
  have hlen:(nosF m.2.1).length≤128:=by
   have key:∀ (l:List Int) (lo:Int),l.Pairwise (· < ·)→(∀ n∈l,lo < n∧n≤128)→(l.length:Int)≤128 - lo∨l=[]:=by
    intro l
    induction l with
    | nil=>intros;exact .inr rfl
    | cons x r ih =>
     intro lo hp h
     rw [List.pairwise_cons] at hp
     have hx:=h x (by simp)
     left
     rcases ih x hp.2 (fun n hn=>⟨hp.1 n hn,(h n (by simp [hn])).2⟩) with h1 | h1
     ·simp only [List.length_cons];omega
     ·subst h1;simp;omega
   rcases key _ 1 hs (fun n hn=>⟨(hm n hn).1,(hm n hn).2.1⟩) with h1 | h1
   ·omega
   ·rw [h1];simp
  simp only [nosF,List.length_map] at hlen
  show m.2.1.length≤1000
  omega
 ·rw [h];simp [noM]
theorem qGZ {m:M} (hr:kD m=true):rdM (wrM m)=(m,0,()):=by
 have:=qMZ (q:=[]) hr
 rw [List.append_nil,if_pos rfl] at this;exact this
end Yp
namespace Yp
open Go
set_option linter.unusedVariables false
set_option linter.unusedSimpArgs false
theorem qd8 {n:N} (hr:z6 n):kD (msgN n)=true:=by
 obtain ⟨rq,c,st,rs,g,no,k,d,⟨⟩⟩:=n
 have hr':=jE.1 hr
 obtain ⟨hc,s1,s2,r1,r2,r3,hk⟩:=hr'
 have f11:=fun n=>qc7 (no:=11) (w:=6) (n:=n) fo11 (by omega)
 have f15:=fun n=>qc7 (no:=15) (w:=6) (n:=n) fo15 (by omega)
 have f39:=fun n=>qc7 (no:=39) (w:=2) (n:=n) fo39 (by omega)
 have f53:=fun n=>qc7 (no:=53) (w:=16) (n:=n) fo53 (by omega)
 have f70:=fun n=>qc7 (no:=70) (w:=3) (n:=n) fo70 (by omega)
 unfold msgN kD
 cases rq
 ·simp [vH,f11,f39,f70,xC]
 ·by_cases h1:c=101
  ·subst h1
   rw [if_pos ⟨rfl,rfl⟩] at hk
   obtain ⟨g1,g2,hn,hkc,hd⟩:=hk
   simp [vH,f11,f53,f70,qMv hkc,qMu hn,xC]
  ·by_cases h2:c=201
   ·subst h2
    simp [vH,f11,f15,f70,xC]
   ·simp [vH,f11,f70,xC,h1,h2]
theorem qHg {n:N} (hr:z6 n):few (msgN n):=by
 obtain ⟨rq,c,st,rs,g,no,k,d,⟨⟩⟩:=n
 have hr':=jE.1 hr
 obtain ⟨hc,s1,s2,r1,r2,r3,hk⟩:=hr'
 unfold msgN few
 cases rq
 ·simp [jT]
 ·by_cases h1:c=101
  ·subst h1
   rw [if_pos ⟨rfl,rfl⟩] at hk
   obtain ⟨g1,g2,hn,hkc,hd⟩:=hk
   simp [jT,zQ,hkc,hn]
  ·by_cases h2:c=201
   ·subst h2
    simp [jT]
   ·simp [jT,h1,h2]
def wrN (n:N):BB×Int×Unit:=if z6 n then (wrM (msgN n),0,()) else ([],1,())
theorem qhB (n:N):j7 (n,())=some (wrN n):=by
 unfold j7 wrN
 by_cases h:z6 n
 ·simp (disch:=first | assumption | omega | (dsimp only;omega) | decide) only [go_sem,Int.reduceToNat,qhC,D_t h,qnV h,qvR (msgN n) (qHg h).fewM,qd8 h]
  rw [if_pos h]
 ·simp (disch:=first | assumption | omega | (dsimp only;omega) | decide) only [go_sem,Int.reduceToNat,qhC,D_f h]
  rw [if_neg h]
theorem qf5 (n:N):qbE (n,())=some (wrN n):=by
 unfold qbE wrN
 by_cases h:z6 n
 ·simp (disch:=first | assumption | omega | (dsimp only;omega) | decide) only [go_sem,Int.reduceToNat,qf6,D_t h,qlQ h,qp5 (msgN n) (qHg h).fewM,qd8 h]
  rw [if_pos h]
 ·simp (disch:=first | assumption | omega | (dsimp only;omega) | decide) only [go_sem,Int.reduceToNat,qf6,D_f h]
  rw [if_neg h]
def noN:N:=(false,0,0,0,0,[],[],0,())
def ansN (n:N) (r:Int):N×Int×Unit:=if n.1=false then (noN,9,()) else if r < 0∨99 < r then (noN,1,()) else ((false,n.2.1,n.2.2.1,r,0,[],[],0,()),0,())
theorem qqC (n:N) (r:Int):jW (n,r,())=some (ansN n r):=by
 obtain ⟨a1,a2,a3,a4,a5,a6,a7,a8,⟨⟩⟩:=n
 unfold jW ansN noN
 cases a1 <;> by_cases h:r < 0∨99 < r
 all_goals simp (disch:=first | assumption | omega | (dsimp only;omega) | decide) only [go_sem,Int.reduceToNat,h]
 all_goals simp [h]
end Yp
namespace Yp
open Go
set_option linter.unusedVariables false
set_option linter.unusedSimpArgs false
def valD (v:BB):Int:=if 1≤v.length∧v.length≤18∧figs v then ((val v:Nat):Int) else 0
def unhD (s:BB):BB:=if s.length % 2=0∧hexy s then unh s else []
def gv (m:M) (no:Int):BB:=(getR no m.2.1).1
noncomputable def rdN0 (m:M):N:=(D (m.1=800),valD (gv m 70),valD (gv m 11),valD (gv m 39),valD (gv m 53),gv m 96,unhD (gv m 48),valD (gv m 15),())
noncomputable def rdN (b:BB):N×Int×Unit:=if (rdM b).2.1=0 then (if z6 (rdN0 (rdM b).1)∧msgN (rdN0 (rdM b).1)=(rdM b).1 then (rdN0 (rdM b).1,0,()) else (noN,2,())) else (noN,(rdM b).2.1,())
theorem qLO {l:List V} {no:Int}:(getR no l).1=[]∨∃ v∈l,v.1=no∧(getR no l).1=v.2.1:=by
 induction l with
 | nil=>exact .inl rfl
 | cons v r ih =>
  unfold getR
  split
  ·exact .inr ⟨v,by simp,by assumption,rfl⟩
  ·exact ih.imp id fun ⟨u,h1,h2,h3⟩=>⟨u,by simp [h1],h2,h3⟩
theorem qIn {no k l:Int} (h:zD no=some (k,l)):l≤400:=by
 unfold zD at h
 rw [Option.map_eq_some_iff] at h
 obtain ⟨r,h1,h2⟩:=h
 have hm:=List.mem_of_find?_eq_some h1
 have:∀ r∈frows,nth r 1 0≤400:=by decide
 have:=this r hm
 cases h2
 exact this
theorem qLS {no:Int} {v:BB} (h:xR no v=true):v.length≤400:=by
 obtain ⟨k,l,h1,h2⟩:=wU.1 h
 have:=qIn h1
 have h3:=h2.2
 unfold fln at h3
 split at h3 <;> omega
theorem qHq {m:M} (hr:kD m=true) (no:Int):(getR no m.2.1).1.length≤400:=by
 rcases qLO (l:=m.2.1) (no:=no) with h | ⟨v,hv,_,h⟩
 ·rw [h];simp
 ·rw [h];exact qLS (kE (qdN.1 hr).1 v hv).2
theorem qFg (s:BB) (hl:s.length≤1000000):∃ e,v9 (s,())=some (valD s,e,()):=by
 rw [vV _ hl]
 unfold valD
 split <;> exact ⟨_,rfl⟩
theorem qFh (s:BB) (hl:s.length≤1000000):∃ e,qbQ (s,())=some (unhD s,e,()):=by
 rw [qqB _ hl]
 unfold unhD
 split <;> exact ⟨_,rfl⟩
theorem qnQ {m:M} (hr:kD m=true) (hl:m.2.1.length≤1000) (no:Int):xE (m,no,())=some (valD (gv m no),()):=by
 unfold xE gv
 obtain ⟨e,he⟩:=qFg (getR no m.2.1).1 (by have:=qHq hr no;omega)
 have hg:=qjR m no (by omega)
 simp (disch:=first | assumption | omega | (dsimp only;omega) | decide) only [go_sem,Int.reduceToNat,hg,he]
theorem qL6 {b:BB} {m:M} {n:N} (hm:rdM b=(m,0,())) (hn:z6 n):wrM (msgN n)=b↔msgN n=m:=by
 obtain ⟨hr,hw⟩:=qFp hm
 constructor
 ·intro h
  have:=qGZ (qd8 hn)
  rw [h,hm] at this
  exact (congrArg Prod.fst this).symm
 ·intro h;rw [h,hw]
theorem qr0 (b:BB) (hl:b.length≤1000000):qiN (b,())=some (rdN b):=by
 unfold qiN rdN
 refine (qF (qsC b hl)).trans ?_
 by_cases h0:(rdM b).2.1=0
 ·obtain ⟨m,hm⟩:∃ m,rdM b=(m,0,()):=⟨(rdM b).1,by rw [← h0]⟩
  obtain ⟨hr,hw⟩:=qFp hm
  have hml:=qMY (b:=b)
  rw [hm] at hml ⊢
  have hml:m.2.1.length≤1000:=hml
  have g:∀ no,qbN (m,no,())=some (getR no m.2.1):=fun no=>qjR m no (by omega)
  have gl:=qHq hr
  have nu:=qnQ hr hml
  obtain ⟨e6,u48⟩:=qFh (gv m 48) (by have:=gl 48;unfold gv;omega)
  unfold gv at u48 nu
  simp (disch:=first | assumption | omega | (dsimp only;omega) | decide) only [go_sem,Int.reduceToNat,g,nu,u48,qf5,zA]
  show sel (D (¬ (wrN (rdN0 m)).2.1=0∨¬ (wrN (rdN0 m)).1=b)) (some (noN,2,())) (some (rdN0 m,0,()))=_
  unfold wrN
  by_cases hn:z6 (rdN0 m)
  ·rw [if_pos hn]
   by_cases he:msgN (rdN0 m)=m
   ·rw [if_pos ⟨hn,he⟩,D_f (fun h=>h.elim (fun h=>h rfl) (fun h=>h ((qL6 hm hn).2 he)))];rfl
   ·rw [if_neg (fun h=>he h.2),D_t (.inr fun h=>he ((qL6 hm hn).1 h))];rfl
  ·rw [if_neg hn,if_neg (fun h=>hn h.1),D_t (.inl (by decide))];rfl
 ·rw [if_neg h0]
  simp (disch:=first | assumption | omega | (dsimp only;omega) | decide) only [go_sem,Int.reduceToNat,h0]
  rfl
theorem qq5 {n:Int} {w:Nat} (h1:1≤w) (h2:w≤18) (h0:0≤n) (h:n < 10 ^ w):valD (dg n w)=n:=by
 unfold valD
 rw [if_pos ⟨by rw [jT];exact h1,by rw [jT];exact h2,qFR⟩]
 exact qPq h0 h
theorem qqM:valD []=0:=by unfold valD;rw [if_neg (by simp)]
theorem qxG:unhD []=[]:=by unfold unhD;split <;> rfl
theorem qK9 {b:BB}:unhD (z8 b)=b:=by
 unfold unhD
 rw [if_pos ⟨by rw [zQ];omega,qIj b⟩,qIS]
theorem qLo {n:N} (hr:z6 n):rdN0 (msgN n)=n:=by
 obtain ⟨rq,c,st,rs,g,no,k,d,⟨⟩⟩:=n
 obtain ⟨hc,s1,s2,r1,r2,r3,hk⟩:=jE.1 hr
 have hc0:0≤c∧c≤301:=by unfold kL at hc;omega
 have v11:valD (dg st 6)=st:=qq5 (by omega) (by omega) (by omega) (by omega)
 have v70:valD (dg c 3)=c:=qq5 (by omega) (by omega) (by omega) (by omega)
 have v39:valD (dg rs 2)=rs:=qq5 (by omega) (by omega) (by omega) (by omega)
 unfold rdN0 gv msgN
 simp only [len0] at hk
 cases rq
 ·simp only [Bool.false_eq_true,false_and,if_false] at hk
  obtain ⟨h1,h2,h3,h4⟩:=hk
  subst h1 h2 h3 h4
  simp [getR,v11,v70,v39,qqM,qxG,D]
 ·have hrs:=r3 rfl
  subst hrs
  by_cases h1:c=101
  ·subst h1
   rw [if_pos ⟨rfl,rfl⟩] at hk
   obtain ⟨g1,g2,hn,hkc,hd⟩:=hk
   subst hd
   have v53:valD (dg g 16)=g:=qq5 (by omega) (by omega) (by omega) (by omega)
   simp [getR,v11,v70,v53,qqM,qK9,D]
  ·rw [if_neg (by simp [h1])] at hk
   by_cases h2:c=201
   ·subst h2
    rw [if_pos ⟨rfl,rfl⟩] at hk
    obtain ⟨h3,h4,h5,d1,d2⟩:=hk
    subst h3 h4 h5
    have v15:valD (dg d 6)=d:=qq5 (by omega) (by omega) (by omega) (by omega)
    simp [getR,v11,v70,v15,qqM,qxG,D]
   ·rw [if_neg (by simp [h2])] at hk
    obtain ⟨h3,h4,h5,h6⟩:=hk
    subst h3 h4 h5 h6
    simp [getR,v11,v70,qqM,qxG,D,h1,h2]
theorem qOL {n:N} (hr:z6 n):rdN (wrM (msgN n))=(n,0,()):=by
 unfold rdN
 rw [qGZ (qd8 hr),qLo hr,if_pos rfl,if_pos ⟨hr,rfl⟩]
end Yp
namespace Yp
open Go
end Yp
namespace Yp
open Go
set_option linter.unusedVariables false
set_option linter.unusedSimpArgs false
theorem qME {n:N} (h:z6 n):wrN n=(wrM (msgN n),0,()):=by unfold wrN;rw [if_pos h]
theorem qOl {v:V} (h:xR v.1 v.2.1=true):(wrV v).length≤v.2.1.length+2:=by
 obtain ⟨k,l,h1,h2⟩:=wU.1 h
 unfold wrV wrD
 rw [h1]
 simp only [if_pos h2]
 rw [qnA (qaC h1).1]
 repeat' split
 all_goals omega
theorem qOm {m:M} (hr:kD m=true):(wrM m).length≤18+(m.2.1.map (fun v=>v.2.1.length+2)).sum:=by
 have hF:=(qdN.1 hr).1
 have h2:=qeL (m:=m.1)
 have h8:=qAG (nosF m.2.1)
 have hfl:∀ l:List V,(∀ v∈l,xR v.1 v.2.1=true)→(l.flatMap wrV).length≤(l.map (fun v=>v.2.1.length+2)).sum:=by
  intro l
  induction l with
  | nil=>simp
  | cons v r ih =>
   intro h
   have h1:=qOl (h v (by simp))
   have h2:=ih fun u hu=>h u (by simp [hu])
   rw [List.flatMap_cons,List.length_append,List.map_cons,List.sum_cons];omega
 have:=hfl m.2.1 fun v hv=>(kE hF v hv).2
 unfold wrM
 rw [List.length_append,List.length_append];omega
theorem qMF {n:N} (hr:z6 n):(wrM (msgN n)).length≤900:=by
 have h:=qOm (qd8 hr)
 obtain ⟨rq,c,st,rs,g,no,k,d,⟨⟩⟩:=n
 obtain ⟨hc,s1,s2,r1,r2,r3,hk⟩:=jE.1 hr
 refine Nat.le_trans h ?_
 unfold msgN
 cases rq
 ·simp [jT]
 ·by_cases h1:c=101
  ·subst h1
   rw [if_pos ⟨rfl,rfl⟩] at hk
   obtain ⟨g1,g2,hn,hkc,hd⟩:=hk
   simp [jT,zQ];omega
  ·by_cases h2:c=201
   ·subst h2;simp [jT]
   ·simp [jT,h1,h2]
end Yp
namespace Yp
open Go
theorem bv8 (c:UInt8):BitVec.ofInt 8 (n8 c)=c.toBitVec:=by
 apply BitVec.eq_of_toNat_eq
 unfold n8
 rw [BitVec.toNat_ofInt]
 have:=c.toNat_lt
 have h:c.toBitVec.toNat=c.toNat:=rfl
 omega
theorem bv32 (c:UInt32):BitVec.ofInt 32 (n32 c)=c.toBitVec:=by
 apply BitVec.eq_of_toNat_eq
 unfold n32
 rw [BitVec.toNat_ofInt]
 have:=c.toNat_lt
 have h:c.toBitVec.toNat=c.toNat:=rfl
 omega
theorem qOu (v:BitVec 8):u8 (v.toNat:Int)=⟨v⟩:=by
 apply UInt8.toBitVec_inj.1
 show BitVec.ofNat 8 (((v.toNat:Int) % 2 ^ 8).toNat)=v
 apply BitVec.eq_of_toNat_eq
 rw [BitVec.toNat_ofNat]
 have:=v.isLt
 omega
theorem qOv (v:BitVec 32):u32 (v.toNat:Int)=⟨v⟩:=by
 apply UInt32.toBitVec_inj.1
 show BitVec.ofNat 32 (((v.toNat:Int) % 2 ^ 32).toNat)=v
 apply BitVec.eq_of_toNat_eq
 rw [BitVec.toNat_ofNat]
 have:=v.isLt
 omega
theorem or8 (a b:UInt8):u8 (orI .u8 (n8 a) (n8 b))=a ||| b:=by
 unfold orI
 show u8 (((BitVec.ofInt 8 (n8 a) ||| BitVec.ofInt 8 (n8 b)).toNat:Nat):Int)=_
 rw [bv8,bv8,qOu];rfl
theorem xor8 (a b:UInt8):u8 (xorI .u8 (n8 a) (n8 b))=a ^^^ b:=by
 unfold xorI
 show u8 (((BitVec.ofInt 8 (n8 a) ^^^ BitVec.ofInt 8 (n8 b)).toNat:Nat):Int)=_
 rw [bv8,bv8,qOu];rfl
theorem or32 (a b:UInt32):u32 (orI .u32 (n32 a) (n32 b))=a ||| b:=by
 unfold orI
 show u32 (((BitVec.ofInt 32 (n32 a) ||| BitVec.ofInt 32 (n32 b)).toNat:Nat):Int)=_
 rw [bv32,bv32,qOv];rfl
theorem qNs {c:UInt8}:n8 c=n8 (u8 0)↔c=0:=by
 constructor
 ·intro h
  have h2:(c.toNat:Int)=0:=h
  exact UInt8.toNat_inj.1 (by show c.toNat=0;omega)
 ·rintro rfl;rfl
def orx (a b:BB):Nat→UInt8
 | 0=>0
 | i+1=>orx a b i ||| (a.getD i 0 ^^^ b.getD i 0)
theorem qHc (a b:BB):∀ i,orx a b i=0↔∀ j,j < i→a.getD j 0=b.getD j 0
 | 0=>⟨fun _ j h=>absurd h (Nat.not_lt_zero j),fun _=>rfl⟩
 | i+1=>by
  have ih:=qHc a b i
  have key:(orx a b i ||| (a.getD i 0 ^^^ b.getD i 0))=0↔orx a b i=0∧a.getD i 0=b.getD i 0:=by
   rw [UInt8.or_eq_zero_iff,UInt8.xor_eq_zero_iff]
  show (orx a b i ||| (a.getD i 0 ^^^ b.getD i 0))=0↔_
  rw [key,ih]
  constructor
  ·rintro ⟨h1,h2⟩ j hj
   rcases Nat.lt_succ_iff_lt_or_eq.1 hj with h | rfl
   ·exact h1 j h
   ·exact h2
  ·intro h
   exact ⟨fun j hj=>h j (by omega),h i (by omega)⟩
theorem qfJ (a b:BB) (hl:a.length≤9223372036854775807):qcI (a,b,())=some (seq a b,()):=by
 unfold qcI
 by_cases h:a.length=b.length
 ·refine (qB (by simp (disch:=first | assumption | omega | (dsimp only;omega) | decide) only [go_sem,Int.reduceToNat];omega)).trans ?_
  generalize hf:(fun (x_1:UInt8×Int×Unit)=>_)=f
  have step:∀ i,i < a.length→f (orx a b i,(i:Int),())=some (.nx (orx a b (i+1),((i+1:Nat):Int),())):=by
   intro i hi
   subst hf
   have e1:nth a (nat (i:Int)) (u8 0)=a.getD i 0:=rfl
   have e2:nth b (nat (i:Int)) (u8 0)=b.getD i 0:=rfl
   show sel (lt (i:Int) (len a)) _ _=_
   refine (qE (by simp (disch:=first | assumption | omega | (dsimp only;omega) | decide) only [go_sem,Int.reduceToNat];omega)).trans ((qH (by simp (disch:=first | assumption | omega | (dsimp only;omega) | decide) only [go_sem,Int.reduceToNat];omega)).trans ((qH (by simp (disch:=first | assumption | omega | (dsimp only;omega) | decide) only [go_sem,Int.reduceToNat];omega)).trans ?_))
   show some (LS.nx (u8 (orI .u8 (n8 (orx a b i)) (n8 (u8 (xorI .u8 (n8 (nth a (nat (i:Int)) (u8 0))) (n8 (nth b (nat (i:Int)) (u8 0))))))),i64 (iadd (i:Int) 1),()))=_
   rw [e1,e2,xor8,or8,show i64 (iadd (i:Int) 1)=((i+1:Nat):Int) by simp (disch:=first | assumption | omega | (dsimp only;omega) | decide) only [go_sem,Int.reduceToNat] <;> omega]
   rfl
  have hend:f (orx a b a.length,(a.length:Int),())=some (.ex 0 (orx a b a.length,(a.length:Int),())):=by
   subst hf
   show sel (lt (a.length:Int) (len a)) _ _=_
   exact qB (by simp (disch:=first | assumption | omega | (dsimp only;omega) | decide) only [go_sem,Int.reduceToNat];omega)
  have hloop:loop f (u8 0,0,())=some (.ex 0 (orx a b a.length,(a.length:Int),())):=by
   have:=qN (f:=f) (fun i=>(orx a b i,(i:Int),())) a.length step 0 (Nat.zero_le _)
   exact this.trans (qT hend)
  rw [hloop]
  show ck (neb 0 0) (some (beq (n8 (orx a b a.length)) (n8 (u8 0)),()))=_
  refine (qH g62).trans ?_
  congr 2
  rw [Bool.eq_iff_iff]
  unfold beq seq
  rw [beq_iff_eq,beq_iff_eq,qNs,qHc]
  constructor
  ·intro hj
   refine List.ext_getElem h fun i h1 h2 => ?_
   have:=hj i h1
   rwa [List.getD_eq_getElem?_getD,List.getD_eq_getElem?_getD,List.getElem?_eq_getElem h1,List.getElem?_eq_getElem h2] at this
  ·rintro rfl j _;rfl
 ·refine (qE (by simp (disch:=first | assumption | omega | (dsimp only;omega) | decide) only [go_sem,Int.reduceToNat];omega)).trans ?_
  rw [qMT (fun e=>h (congrArg List.length e))]
end Yp
namespace Yp
open Go Go.Proofs Go.RowKit Go.Shelf
attribute [local go_sem] Oper.semAt_some
theorem qLK {res:Nat→Bool} {k n:Nat} (hk:k≤n) (h:hits res n=[]):hits res k=[]:=by
 unfold hits at h ⊢
 rw [List.filter_eq_nil_iff] at h ⊢
 intro a ha
 exact h a (List.mem_range.2 (Nat.lt_of_lt_of_le (List.mem_range.1 ha) hk))
set_option maxRecDepth 100000 in
set_option maxHeartbeats 4000000 in
theorem qPj (Nn off cap b:Nat) (ad:Option Addr) (idl frg:Bool) (ak:Option Addr) (nk ck:Nat) (ab:Option Addr) (nb cb:Nat) (ev:Nat→Value×Value) (res:Nat→Bool) (hev:∀ j,∃ a n c a' n' c',ev j=(.slice a n c, .slice a' n' c')) (hN:Nn≤9223372036854775807) (m:Nat) (w:World)
  (hb:0 < Nn→ad=some ⟨b,off,none⟩∧b < w.heap.size)
  (hc0:∀ j,j < Nn→w.cell? ⟨b,off+j*2,none⟩=some (ev j).1) (hc1:∀ j,j < Nn→w.cell? ⟨b,off+j*2+1,none⟩=some (ev j).2)
  (hIs:∀ j,j < Nn→∀ n w',Below w.heap.size w w'→CallsIn Fence.wide n Tryz.prog 390 #[.agg #[.slice ak nk ck, .slice ab nb cb], .agg #[(ev j).1,(ev j).2]] w' fun e w''=>e = .returned (.bool (res j))∧Below w'.heap.size w' w'') :
  CallsIn Fence.wide (m+3) Tryz.prog 369 #[.agg #[.bool idl, .slice ad Nn cap, .bool frg], .slice ak nk ck, .slice ab nb cb] w fun e w'=>e = .returned (.bool (hits res Nn != []))∧Below w.heap.size w w':=by
 have hw391:Fence.wide.fn 391:=trivial
 refine callsIn_of_wp_marks Tryz.func369 rfl trivial ?_ rfl
 simp only [Tryz.ntmps369,List.size_toArray,List.length_cons,List.length_nil,Nat.reduceAdd,Nat.reduceSub,Array.replicate_succ,Array.replicate_zero,List.push_toArray,List.append_toArray,List.nil_append,List.cons_append]
 gi_wp2_with (gi_at_call 391;refine (qLQ _ _ _ _ _ _ rfl).mono ?_;rintro e w' ⟨rfl,rfl⟩)
 have b1:=Boxed.new (w.alloc (.cells #[.bool idl, .slice ad Nn cap, .bool frg] 49)) 4 (.bool false)
 have b2:=Boxed.new ((w.alloc (.cells #[.bool idl, .slice ad Nn cap, .bool frg] 49)).alloc (.cells #[.bool false] 4)) 47 (.slice ad Nn cap)
 have b3:=Boxed.new (((w.alloc (.cells #[.bool idl, .slice ad Nn cap, .bool frg] 49)).alloc (.cells #[.bool false] 4)).alloc (.cells #[.slice ad Nn cap] 47)) 403 (.func (.func 390) #[.agg #[.slice ak nk ck, .slice ab nb cb]] #[])
 simp only [World.size_alloc] at b1 b2 b3
 obtain ⟨w4,hw4⟩:∃ w4,w4=((((w.alloc (Obj.cells #[Value.bool idl,Value.slice ad Nn cap,Value.bool frg] 49)).alloc (Obj.cells #[Value.bool false] 4)).alloc (Obj.cells #[Value.slice ad Nn cap] 47)).alloc (Obj.cells #[Value.func (Fn.func 390) #[Value.agg #[Value.slice ak nk ck,Value.slice ab nb cb]] #[]] 403)):=⟨_,rfl⟩
 have b1':Boxed w4 (w.heap.size+1) 4 (.bool false):=by rw [hw4];exact (b1.alloc _).alloc _
 have b2':Boxed w4 (w.heap.size+1+1) 47 (.slice ad Nn cap):=by rw [hw4];exact b2.alloc _
 have b3':Boxed w4 (w.heap.size+1+1+1) 403 (.func (.func 390) #[.agg #[.slice ak nk ck, .slice ab nb cb]] #[]):=by rw [hw4];exact b3
 have hB4:Below w.heap.size w w4:=by rw [hw4];exact ((((Below.refl _ w).alloc (Nat.le_refl _) _).alloc (by simp) _).alloc (by simp;omega) _).alloc (by simp;omega) _
 have hs4:w4.heap.size=w.heap.size+1+1+1+1:=by rw [hw4];simp
 rw [← hw4]
 clear b1 b2 b3
 refine wpIn_rangeFunc_ownG (w0:=w4) rfl (by omega) (gf:=393) (lb := #[.pointer (some ⟨w.heap.size+1+1,0,none⟩), .pointer (some ⟨w.heap.size+1+1+1,0,none⟩)]) rfl trivial (enters_of Tryz.func393 (by kernel_rfl) rfl)
   (encs:=fun x:Nat => #[.int .i64 (x:Int)]) (Kp:=Below w4.heap.size) (S:=fun ys=>ys=hits res Nn) (Sp:=fun pre=>∃ k,k≤Nn∧pre=hits res k) (N:=Nn)
   ?seq ?kt ?kb (Below.refl _ _) (fun _=>rfl)
   (fun pre W=>(pre=[]∧Boxed W (w.heap.size+1) 4 (.bool false))∧Below w.heap.size w W)
   (fun c pre W=>((c = .ret∧pre≠[])∧Boxed W (w.heap.size+1) 4 (.bool true))∧Below w.heap.size w W)
   (OwnFrom.and (OwnFrom.and (ownFrom_pure _ _) (Own.from (boxed_own (w.heap.size+1) 4 (fun _ => .bool false)) _)) (ownFrom_below (Nat.le_refl _) (by omega)))
   (fun c=>OwnFrom.and (OwnFrom.and (ownFrom_pure _ _) (Own.from (boxed_own (w.heap.size+1) 4 (fun _ => .bool true)) _)) (ownFrom_below (Nat.le_refl _) (by omega)))
   ?start ?a1 ?assign ?body ?done ?stop
 case assign =>
  intro l x W K hK
  gi_wp2
  exact hK
 case seq =>
  intro l J Jx W hW hJ hJx hY h0
  refine (qKu (m+1) l (w.heap.size+1+1) (w.heap.size+1+1+1) w4.heap.size b off cap Nn ad (.slice ak nk ck) (.slice ab nb cb) ev res hev hN (fun h=>⟨(hb h).1,by have:=(hb h).2;omega⟩) J Jx (fun s W1 W2 hs hb=>hJ s W1 W2 none hs ⟨hb.os,hb.tape,hb.output,hb.size,fun k hk _=>hb.block k hk⟩ (fun r e=>by cases e)) (fun pre x W1 hj _ _ hl=>hY pre x W1 hj hl) W ?_ ?_ (by omega) (by omega) hW.size (fun j hj => ?_) (fun j hj => ?_) (fun j hj w' hw' => ?_) h0).mono ?_
  ·exact (hW.cell (p:=⟨w.heap.size+1+1,0,none⟩) (by simp;omega)).trans b2'.cell
  ·exact (hW.cell (p:=⟨w.heap.size+1+1+1,0,none⟩) (by simp;omega)).trans b3'.cell
  ·have hbl:=(hb (by omega)).2
   exact (hW.cell (p:=⟨b,off+j*2,none⟩) (by simp;omega)).trans ((hB4.cell (p:=⟨b,off+j*2,none⟩) hbl).trans (hc0 j hj))
  ·have hbl:=(hb (by omega)).2
   exact (hW.cell (p:=⟨b,off+j*2+1,none⟩) (by simp;omega)).trans ((hB4.cell (p:=⟨b,off+j*2+1,none⟩) hbl).trans (hc1 j hj))
  ·exact hIs j hj _ _ (hB4.trans ((hW.trans hw').mono (by omega)))
  ·rintro e W' ⟨he,h⟩
   exact ⟨he,h.elim (fun h => .inl ⟨_,rfl,h⟩) (fun ⟨k,hk,h⟩ => .inr ⟨_,⟨k,hk,rfl⟩,h⟩)⟩
 case kt=>exact fun h k=>h.trans k
 case kb =>
  intro W l o o' hl ho h1 h2
  exact belowK_b (w:=w4) (Nat.le_refl _) W l o o' hl ho h1 h2
 case start=>exact ⟨⟨rfl,b1'⟩,hB4⟩
 case body =>
  rintro l pre x W ⟨⟨rfl,hv⟩,hB⟩ hlt
  have hc:=hv.cell
  have hf:=hv.frozen
  gi_wp2
  exact ⟨(KeepsOthers.setCell _ _ _).from _,⟨⟨rfl,by simp⟩,hv.set _⟩,hB.trans ((Below.refl _ _).setCell (p:=⟨w.heap.size+1,0,none⟩) (by simp) _)⟩
 case done =>
  rintro D ys W hD rfl ⟨⟨h0,hv⟩,hB⟩ hK
  have hc:=hv.cell
  have hf:=hv.frozen
  gi_wp2
  have hK':=(KeepsOthers.setCell W ⟨w.heap.size+1,0,none⟩ (.bool false)).same D _ hK rfl
  refine ⟨by simp, .inl ⟨_,_,rfl,run_takeDeferred hK', ?_⟩⟩
  have hz:Boxed ((W.setCell ⟨w.heap.size+1,0,none⟩ (.bool false)).putObj D (.deferred none)) (w.heap.size+1) 4 (.bool false):=(hv.set (.bool false)).kept (grownBy_putObj' _ D _) (fun e=>by cases e;omega)
  refine ⟨.bool false,by simp [results,Tryz.f369,go_sem,hz.cell],by rw [h0];rfl, ?_⟩
  exact (hB.trans ((Below.refl _ _).setCell (p:=⟨w.heap.size+1,0,none⟩) (by simp) _)).trans (belowK_b (w:=w) (Nat.le_refl _) _ D _ _ (by omega) hK' rfl rfl)
 case stop =>
  rintro D c pre W hD ⟨k,hk,rfl⟩ ⟨⟨⟨rfl,hne⟩,hv⟩,hB⟩ hK
  have hc:=hv.cell
  gi_wp2
  refine ⟨by simp, .inl ⟨_,_,rfl,run_takeDeferred hK, ?_⟩⟩
  have hz:Boxed (W.putObj D (.deferred none)) (w.heap.size+1) 4 (.bool true):=hv.kept (grownBy_putObj' _ D _) (fun e=>by cases e;omega)
  refine ⟨.bool true,by simp [results,Tryz.f369,go_sem,hz.cell], ?_, ?_⟩
  ·have:hits res Nn≠[]:=fun e=>hne (qLK hk e)
   simp [this]
  ·exact hB.trans (belowK_b (w:=w) (Nat.le_refl _) _ D _ _ (by omega) hK rfl rfl)
end Yp
namespace Yp
open Go Go.Proofs Go.RowKit Go.Shelf
abbrev qNL:=BB×BB×Unit
abbrev qzA:Ty := .pair (.sl (.int .u8)) (.pair (.sl (.int .u8)) .unit)
noncomputable def qg9 (x:(BB×BB×Unit)×(BB×BB×Unit)×Unit):Option (Bool×Unit) :=
 ob (qcI (x.1.1,x.2.1.1,())) fun (a:Bool×Unit) =>
 ob (sel a.1 (ob (qcI (x.1.2.1,x.2.1.2.1,())) fun (a:Bool×Unit)=>some (a.1,())) (some (false,()))) fun (a:Bool×Unit)=>some (a.1,())
noncomputable abbrev quW:qI:=⟨[qzA,qzA],[.im (.bool)],qg9⟩
set_option maxRecDepth 100000 in
theorem qv2 (hS:FOK Tryz.prog 126 qiE):FOK Tryz.prog 390 quW:=mkC (qA qD hS) qC Tryz.func390 5 (by kernel_rfl) (by kernel_rfl) (fun x=>by kernel_rfl)
theorem qCt (k b e f:BB) (hk:k.length≤9223372036854775807) (hb:b.length≤9223372036854775807):qg9 ((k,b,()),(e,f,()),())=some (band (seq k e) (seq b f),()):=by
 unfold qg9
 show ob (qcI (k,e,())) _=_
 rw [qfJ _ _ hk]
 show ob (sel (seq k e) (ob (qcI (b,f,())) _) _) _=_
 rw [qfJ _ _ hb]
 cases seq k e <;> rfl
theorem qOq {w w':World} {X:Nat→Prop} (hb:Below w.heap.size w w'):(view w X).Le (view w' X):=by
 intro b o h
 obtain ⟨h1,h2⟩:=zV.1 h
 refine zV.2 ⟨h1, ?_⟩
 rw [hb.block b (Array.getElem?_eq_some_iff.1 h2).1];exact h2
theorem seg2 {c:Array Value} {o:Nat} (h:o+2≤c.size):seg c o 2=[c[o],c[o+1]]:=by
 unfold seg
 rw [List.drop_eq_getElem_cons (by simp;omega),List.drop_eq_getElem_cons (by simp;omega)]
 simp
theorem qAI {w w':World} {X:Nat→Prop} {rs:List RTy} {r:denR rs} {vr:Value} (h:qAP w X w' rs r vr):Below w.heap.size w w':=by
 obtain ⟨M',h1,h2,h3,h4,h5,_⟩:=h
 exact ⟨h1,h2,h3,h4,h5⟩
theorem qL4 {α:Type} (l:List α) (q:α→Bool) (res:Nat→Bool) (h:∀ j x,l[j]? = some x→res j=q x):(hits res l.length != [])=l.any q:=by
 rw [Bool.eq_iff_iff]
 simp only [bne_iff_ne,ne_eq,List.any_eq_true]
 unfold hits
 rw [List.filter_eq_nil_iff]
 constructor
 ·intro hn
  by_cases hx:∃ x,x∈l∧q x=true
  ·exact hx
  ·refine absurd (fun j hj => ?_) hn
   have hj':=List.mem_range.1 hj
   rw [h j l[j] (List.getElem?_eq_getElem hj')]
   exact fun e=>hx ⟨_,List.getElem_mem hj',e⟩
 ·rintro ⟨x,hx,hq⟩ hn
  obtain ⟨j,hj,rfl⟩:=List.getElem_of_mem hx
  refine hn j (List.mem_range.2 hj) ?_
  rw [h j l[j] (List.getElem?_eq_getElem hj)];exact hq
noncomputable abbrev qwL:qI:=⟨[.pair (.bool) (.pair (.sl qzA) (.pair (.bool) (.unit))), .sl (.int .u8), .sl (.int .u8)],[.im (.bool)],qqO⟩
set_option maxRecDepth 100000 in
theorem qNK (hS:FOK Tryz.prog 126 qiE) (idl frg:Bool) (tbl:List qNL) (key bb:BB) {w:World} {X:Nat→Prop} (hX:∀ b,X b→b < w.heap.size) (hkeys:qhQ Tryz.prog (view w X)) {c3 cs2 cs3:List Value}
  (h2:RepC (view w X) (.sl qzA) tbl c3) (hk:RepC (view w X) (.sl (.int .u8)) key cs2) (hb:RepC (view w X) (.sl (.int .u8)) bb cs3) :
  Calls Tryz.prog 369 #[.agg (#[.bool idl]++c3.toArray ++ #[.bool frg]),cs2.headD undef,cs3.headD undef] w fun e w'=>∃ vr,e = .returned vr∧qAP w X w' [.im .bool] ((tbl.any fun e=>band (seq key e.1) (seq bb e.2.1),()):Bool×Unit) vr:=by
 have hk0:=hk;have hb0:=hb
 obtain ⟨ad,cap,rfl,t1,t2,t3⟩:=RepC.xO.1 h2
 obtain ⟨ak,capk,rfl,k1,k2,_⟩:=RepC.xO.1 hk
 obtain ⟨ab,capb,rfl,b1,b2,_⟩:=RepC.xO.1 hb
 have hmax:maxLen≤9223372036854775807:=by unfold maxLen;omega
 have hkl:key.length≤9223372036854775807:=Nat.le_trans k1 (Nat.le_trans k2 hmax)
 have hbl:bb.length≤9223372036854775807:=Nat.le_trans b1 (Nat.le_trans b2 hmax)
 have htl:tbl.length≤9223372036854775807:=Nat.le_trans t1 (Nat.le_trans t2 hmax)
 -- the entries' cells
 obtain ⟨b,off,ev,hloc,hev,hc0,hc1,hrep⟩:∃ (b off:Nat) (ev:Nat→Value×Value),(0 < tbl.length→ad=some ⟨b,off,none⟩∧b < w.heap.size)∧(∀ j,∃ a n c a' n' c',ev j=(.slice a n c, .slice a' n' c')) ∧
   (∀ j,j < tbl.length→w.cell? ⟨b,off+j*2,none⟩=some (ev j).1)∧(∀ j,j < tbl.length→w.cell? ⟨b,off+j*2+1,none⟩=some (ev j).2) ∧
   (∀ j (e:BB×BB×Unit),tbl[j]? = some e→RepC (view w X) qzA e [(ev j).1,(ev j).2]):=by
  rcases t3 with t3 | ⟨b,o,c,el,fz,ha,hv,hsz,hel⟩
  ·refine ⟨0,0,fun _=>(.slice none 0 0, .slice none 0 0),fun h => ?_,fun _=>⟨_,_,_,_,_,_,rfl⟩,fun j hj => ?_,fun j hj => ?_,fun j e he => ?_⟩
   ·rw [show tbl=[] from t3] at h;simp at h
   ·rw [show tbl=[] from t3] at hj;simp at hj
   ·rw [show tbl=[] from t3] at hj;simp at hj
   ·rw [show tbl=[] from t3] at he;simp at he
  ·obtain ⟨hnx,hh⟩:=zV.1 hv
   have hsz':o+tbl.length*2≤c.size:=hsz
   have hseg:∀ j e,tbl[j]? = some e→∃ (h:o+j*2+2≤c.size),RepC (view w X) qzA e [c[o+j*2],c[o+j*2+1]]:=by
    intro j e he
    have hj:j < tbl.length:=(List.getElem?_eq_some_iff.1 he).1
    have hle:o+j*2+2≤c.size:=by omega
    refine ⟨hle, ?_⟩
    have:=hel j e he
    rw [show seg c (o+j*qzA.size) qzA.size=seg c (o+j*2) 2 from rfl,seg2 hle] at this
    exact this
   have hsl:∀ (l:BB) (v:Value),RepC (view w X) (.sl (.int .u8)) l [v]→∃ a n c,v = .slice a n c:=by
    intro l v h
    obtain ⟨a,cp,he,_⟩:=RepC.xO.1 h
    cases he;exact ⟨_,_,_,rfl⟩
   have hparts:∀ (e:BB×BB×Unit) (u v:Value),RepC (view w X) qzA e [u,v]→(∃ a n c,u = .slice a n c)∧∃ a n c,v = .slice a n c:=by
    intro e u v h
    obtain ⟨d1,d2,hd,q1,q2⟩:=RepC.jB.1 h
    obtain ⟨d3,d4,hd2,q3,q4⟩:=RepC.jB.1 q2
    obtain rfl:=RepC.qeK.1 q4
    have l1:d1.length=1:=q1.length
    have l3:d3.length=1:=q3.length
    obtain ⟨y,rfl⟩:=List.length_eq_one_iff.1 l1
    obtain ⟨z,rfl⟩:=List.length_eq_one_iff.1 l3
    subst hd2
    simp only [List.singleton_append,List.append_nil,List.cons.injEq,and_true] at hd
    obtain ⟨rfl,rfl⟩:=hd
    exact ⟨hsl _ _ q1,hsl _ _ q3⟩
   refine ⟨b,o,fun j=>if h:j < tbl.length then (c[o+j*2]'(by omega),c[o+j*2+1]'(by omega)) else (.slice none 0 0, .slice none 0 0),fun _=>⟨ha,(Array.getElem?_eq_some_iff.1 hh).1⟩,fun j => ?_,fun j hj => ?_,fun j hj => ?_,fun j e he => ?_⟩
   ·by_cases hj:j < tbl.length
    ·obtain ⟨hle,hr⟩:=hseg j _ (List.getElem?_eq_getElem hj)
     obtain ⟨⟨a,n,cc,e1⟩,⟨a',n',cc',e2⟩⟩:=hparts _ _ _ hr
     exact ⟨a,n,cc,a',n',cc',by dsimp only;rw [dif_pos hj,e1,e2]⟩
    ·exact ⟨_,_,_,_,_,_,dif_neg hj⟩
   ·dsimp only;rw [dif_pos hj,World.cell?,hh];simp [show o+j*2 < c.size by omega]
   ·dsimp only;rw [dif_pos hj,World.cell?,hh];simp [show o+j*2+1 < c.size by omega]
   ·have hj:j < tbl.length:=(List.getElem?_eq_some_iff.1 he).1
    dsimp only
    rw [dif_pos hj]
    exact (hseg j e he).2
 let q:BB×BB×Unit→Bool:=fun e=>band (seq key e.1) (seq bb e.2.1)
 let res:Nat→Bool:=fun j=>match tbl[j]? with | some e=>q e | none=>false
 have main:=qPj tbl.length off cap b ad idl frg ak key.length capk ab bb.length capb ev res hev htl 0 w hloc hc0 hc1 (fun j hj n w' hw' => ?_)
 ·refine (callsIn_wide (n:=3)).1 (main.mono ?_)
  rintro e w' ⟨rfl,hbel⟩
  refine ⟨_,rfl,X,hbel.os,hbel.tape,hbel.output,hbel.size,hbel.block,fun _ _=>Iff.rfl,fun b h=>Nat.lt_of_lt_of_le (hX b h) hbel.size,[.bool (hits res tbl.length != [])], ?_,rfl⟩
  refine ⟨[.bool _],[],rfl,RepC.j0.2 ?_,rfl⟩
  rw [qL4 tbl q res (fun j e he=>by show (match tbl[j]? with | some e=>q e | none=>false)=q e;rw [he])]
 ·refine callsIn_wide.2 ?_
  have he:=List.getElem?_eq_getElem hj
  have hw:=hw'
  have hle:(view w X).Le (view w' X):=qOq hw
  have:=(qv2 hS).2 w' X ((key,bb,()),(tbl[j].1,tbl[j].2.1,()),()) [.agg #[.slice ak key.length capk, .slice ab bb.length capb], .agg #[(ev j).1,(ev j).2]] _ (fun b h=>Nat.lt_of_lt_of_le (hX b h) hw.size) (hkeys.mono hle)
   ⟨[.slice ak key.length capk, .slice ab bb.length capb],_,rfl,RepC.jB.2 ⟨[_],[_],rfl,hk0.mono hle,RepC.jB.2 ⟨[_],[],rfl,hb0.mono hle,RepC.qeK.2 rfl⟩⟩,[(ev j).1,(ev j).2],[],rfl,(hrep j _ he).mono hle,rfl⟩
   (qCt _ _ _ _ hkl hbl)
  refine this.mono ?_
  rintro e w'' ⟨vr,rfl,hr⟩
  refine ⟨?_,qAI hr⟩
  obtain ⟨M',_,_,_,_,_,_,_,us,hv,rfl⟩:=hr
  obtain ⟨ds,us1,rfl,hc,rfl⟩:=hv
  obtain rfl:=RepC.j0.1 hc
  show Ending.returned (.bool _)=Ending.returned (.bool (match tbl[j]? with | some e=>q e | none=>false))
  rw [he]
set_option maxRecDepth 100000 in
theorem qIl (hS:FOK Tryz.prog 126 qiE):FOK Tryz.prog 369 qwL:=by
 refine ⟨⟨Tryz.f369,Tryz.func369,by kernel_rfl,by kernel_rfl⟩, ?_⟩
 intro w X x vs r hX hkeys ha hr
 obtain ⟨⟨idl,tbl,frg,⟨⟩⟩,key,bb,⟨⟩⟩:=x
 obtain rfl:=Option.some.inj hr
 obtain ⟨cs,vs1,rfl,hp,cs2,vs2,rfl,hk,cs3,vs3,rfl,hb,rfl⟩:=ha
 obtain ⟨c1,c2,rfl,h1,hp⟩:=RepC.jB.1 hp
 obtain ⟨c3,c4,rfl,h2,hp⟩:=RepC.jB.1 hp
 obtain ⟨c5,c6,rfl,h3,hp⟩:=RepC.jB.1 hp
 obtain rfl:=RepC.qeK.1 hp
 obtain rfl:=RepC.j0.1 h1
 obtain rfl:=RepC.j0.1 h3
 have:=qNK hS idl frg tbl key bb hX hkeys h2 hk hb
 refine cast ?_ this
 congr 1
 simp [mkV,Ty.isAgg]
end Yp
namespace Yp
open Go Go.Proofs
abbrev yT22:Ty := .unit
abbrev yT19:Ty := .int .u32
abbrev yT14:Ty := .bool
abbrev yT11:Ty := .int .u8
abbrev yT5:Ty := .sl yT11
abbrev yT10:Ty := .pair yT5 (.pair yT5 yT22)
abbrev yT9:Ty := .pair yT14 (.pair (.sl yT10) (.pair yT14 yT22))
abbrev yT4:Ty := .int .i64
abbrev yT16:Ty := .pair yT4 (.pair (.ar 16 (.int .u64)) yT22)
abbrev yT15:Ty := .pair yT4 (.pair yT4 yT22)
abbrev yT20:Ty := .pair yT5 yT15
abbrev yT8:Ty := .pair yT4 (.pair yT4 (.pair (.ar 2 yT4) (.pair yT4 (.pair yT4 yT10))))
abbrev yT7:Ty := .pair (.ar 4 yT14) (.pair (.ar 4 yT20) (.pair (.ar 4 yT4) (.pair yT4 yT22)))
abbrev yT3:Ty := .pair yT14 (.pair yT4 (.pair yT4 (.pair yT4 (.pair yT4 (.pair yT5 (.pair yT5 (.pair yT4 yT22)))))))
abbrev yT2:Ty := .pair yT4 (.pair yT5 yT22)
abbrev yT21:Ty := .pair (.sl yT2) (.pair (.fn [350]) yT22)
abbrev yT18:Ty := .pair yT4 (.pair (.ar 2 yT4) yT2)
abbrev yT17:Ty := .pair (.ar 8 yT19) yT2
abbrev yT13:Ty := .pair yT4 (.pair (.sl yT2) yT22)
abbrev yT12:Ty := .pair yT4 (.pair yT4 (.pair yT4 yT2))
abbrev yT6:Ty := .pair yT2 (.pair yT2 (.pair yT2 yT15))
abbrev yT0:Ty := .pair yT4 (.pair yT5 (.pair yT4 (.pair yT10 (.pair yT4 (.pair yT4 (.pair yT4 (.pair yT4 (.pair yT4 (.pair yT16 (.pair yT6 (.pair yT12 (.pair yT4 (.pair yT4 (.pair (.sl yT5) (.pair yT7 (.pair (.sl yT2) (.pair (.sl yT18) (.pair (.ar 4 yT4) yT22))))))))))))))))))
abbrev yT1:Ty := .pair yT0 (.pair yT9 yT22)
noncomputable abbrev qCj:qI:=⟨[yT4,yT4],[.im (.str), .im yT4],kO⟩
theorem qh8:FOK Tryz.prog 180 qCj:=mkC qD qC Tryz.func180 8 (by kernel_rfl) (by kernel_rfl) (fun x=>by kernel_rfl)
noncomputable abbrev qB9:qI:=⟨[yT4,yT4],[.im yT4],qa0⟩
theorem qDV:FOK Tryz.prog 344 qB9:=mkC qD qC Tryz.func344 5 (by kernel_rfl) (by kernel_rfl) (fun x=>by kernel_rfl)
noncomputable abbrev qHZ:qI:=⟨[yT4],[.im yT14],qqT⟩
theorem qIx:FOK Tryz.prog 271 qHZ:=mkC (qA qD qDV) qC Tryz.func271 4 (by kernel_rfl) (by kernel_rfl) (fun x=>by kernel_rfl)
noncomputable abbrev qrS:qI:=⟨[yT4],[.im yT4],yE⟩
theorem quB:FOK Tryz.prog 382 qrS:=mkC qD qC Tryz.func382 3 (by kernel_rfl) (by kernel_rfl) (fun x=>by kernel_rfl)
noncomputable def qdG:Inl:=inlF (eN [] []) Tryz.f383 3
theorem qc5:yJ Tryz.prog 383 qdG:=mkI qD qC Tryz.func383 3 (by kernel_rfl) (by kernel_rfl)
noncomputable abbrev qCf:qI:=⟨[yT4,yT4],[.im yT4],y4⟩
theorem qDZ:FOK Tryz.prog 346 qCf:=mkC (qA qD quB) (jJ qC qc5) Tryz.func346 5 (by kernel_rfl) (by kernel_rfl) (fun x=>by kernel_rfl)
noncomputable abbrev qH1:qI:=⟨[yT4],[.im yT15, .im yT14],qfS⟩
theorem qoE:FOK Tryz.prog 273 qH1:=mkC (qA qD qDZ) qC Tryz.func273 6 (by kernel_rfl) (by kernel_rfl) (fun x=>by kernel_rfl)
noncomputable abbrev qCe:qI:=⟨[yT4],[.im yT4],qU⟩
theorem qpJ:FOK Tryz.prog 347 qCe:=mkC qD qC Tryz.func347 3 (by kernel_rfl) (by kernel_rfl) (fun x=>by kernel_rfl)
noncomputable def qm6:Inl:=inlF (eN [] [(383,qdG)]) Tryz.f384 7
theorem qmC:yJ Tryz.prog 384 qm6:=mkI qD (jJ qC qc5) Tryz.func384 7 (by kernel_rfl) (by kernel_rfl)
noncomputable def qGC:Inl:=inlF (eN [] [(383,qdG),(384,qm6)]) Tryz.f349 3
theorem qFE:yJ Tryz.prog 349 qGC:=mkI qD (jJ (jJ qC qmC) qc5) Tryz.func349 3 (by kernel_rfl) (by kernel_rfl)
noncomputable abbrev qnM:qI:=⟨[yT3],[.im yT14],qbU⟩
theorem vD:FOK Tryz.prog 363 qnM:=mkC qD qC Tryz.func363 3 (by kernel_rfl) (by kernel_rfl) (fun x=>by kernel_rfl)
noncomputable abbrev qpS:qI:=⟨[yT3],[.im yT14],wJ⟩
theorem xS:FOK Tryz.prog 365 qpS:=mkC qD qC Tryz.func365 3 (by kernel_rfl) (by kernel_rfl) (fun x=>by kernel_rfl)
noncomputable abbrev qnN:qI:=⟨[yT3],[.im yT14],qbV⟩
theorem vE:FOK Tryz.prog 364 qnN:=mkC (qA qD xS) qC Tryz.func364 4 (by kernel_rfl) (by kernel_rfl) (fun x=>by kernel_rfl)
noncomputable abbrev qyS:qI:=⟨[yT3],[.im yT14],qkJ⟩
theorem qaV:FOK Tryz.prog 366 qyS:=mkC qD qC Tryz.func366 3 (by kernel_rfl) (by kernel_rfl) (fun x=>by kernel_rfl)
noncomputable abbrev qCg:qI:=⟨[yT4,yT5],[.im yT14],qa1⟩
theorem qh7:FOK Tryz.prog 277 qCg:=mkC (qA (qA (qA (qA (qA (qA qD qaV) xS) vE) vD) qpJ) qoE) (jJ (jJ qC qFE) qmC) Tryz.func277 8 (by kernel_rfl) (by kernel_rfl) (fun x=>by kernel_rfl)
noncomputable abbrev qE8:qI:=⟨[yT13],[.im yT14],qmB⟩
theorem qGr:FOK Tryz.prog 280 qE8:=mkC (qA (qA qD qh7) qIx) qC Tryz.func280 6 (by kernel_rfl) (by kernel_rfl) (fun x=>by kernel_rfl)
noncomputable abbrev qCi:qI:=⟨[(.int .i32)],[.im yT4, .im yT14],y6⟩
theorem qD1:FOK Tryz.prog 343 qCi:=mkC qD qC Tryz.func343 4 (by kernel_rfl) (by kernel_rfl) (fun x=>by kernel_rfl)
noncomputable abbrev qJf:qI:=⟨[.str],[.ow yT11, .im yT4],qdA⟩
theorem qD3:FOK Tryz.prog 281 qJf:=mkC (qA qD qD1) qC Tryz.func281 10 (by kernel_rfl) (by kernel_rfl) (fun x=>by kernel_rfl)
noncomputable abbrev qu1:qI:=⟨[(.sl yT4)],[.im yT14],qcM⟩
theorem qv7:FOK Tryz.prog 352 qu1:=mkC qD qC Tryz.func352 6 (by kernel_rfl) (by kernel_rfl) (fun x=>by kernel_rfl)
noncomputable abbrev qu0:qI:=⟨[(.sl yT4)],[.ow yT11, .im yT4],qcL⟩
theorem qv6:FOK Tryz.prog 282 qu0:=mkC (qA (qA qD qv8) qv7) qC Tryz.func282 9 (by kernel_rfl) (by kernel_rfl) (fun x=>by kernel_rfl)
noncomputable abbrev qyX:qI:=⟨[yT4,yT5],[.ow yT11, .im yT4],qbZ⟩
theorem qAC:FOK Tryz.prog 283 qyX:=mkC (qA (qA (qA (qA (qA (qA (qA (qA (qA qD qaV) xS) vE) vD) qpJ) qD3) qh7) qoE) qh8) qC Tryz.func283 14 (by kernel_rfl) (by kernel_rfl) (fun x=>by kernel_rfl)
noncomputable abbrev qE7:qI:=⟨[yT13],[.ow yT11, .im yT4],qmA⟩
theorem qGq:FOK Tryz.prog 182 qE7:=mkC (qA (qA (qA (qA (qA qD qAC) qv6) qD3) qGr) qh8) qC Tryz.func182 17 (by kernel_rfl) (by kernel_rfl) (fun x=>by kernel_rfl)
noncomputable abbrev qE1:qI:=⟨[yT3],[.im (.fn [363,364,365,366])],qsU⟩
theorem qGn:FOK Tryz.prog 315 qE1:=mkC (qA (qA (qA (qA qD qaV) xS) vE) vD) qC Tryz.func315 3 (by kernel_rfl) (by kernel_rfl) (fun x=>by kernel_rfl)
noncomputable abbrev qB5:qI:=⟨[yT3],[.im yT14],qi9⟩
theorem qDS:FOK Tryz.prog 232 qB5:=mkC (qA (qA (qA (qA (qA qD qaV) xS) vE) vD) qGn) qC Tryz.func232 3 (by kernel_rfl) (by kernel_rfl) (fun x=>by kernel_rfl)
noncomputable abbrev qjL:qI:=⟨[yT2],[.im yT4],wS⟩
theorem jY:FOK Tryz.prog 350 qjL:=mkC qD qC Tryz.func350 3 (by kernel_rfl) (by kernel_rfl) (fun x=>by kernel_rfl)
noncomputable abbrev qCa:qI:=⟨[yT13],[.im yT21],qn1⟩
theorem qDW:FOK Tryz.prog 278 qCa:=mkC (qA qD jY) qC Tryz.func278 3 (by kernel_rfl) (by kernel_rfl) (fun x=>by kernel_rfl)
noncomputable abbrev qeP:qI:=⟨[yT21,yT4],[.im yT4, .im yT14],jQ⟩
theorem qf2:FOK Tryz.prog 348 qeP:=mkC (qA qD jY) qC Tryz.func348 9 (by kernel_rfl) (by kernel_rfl) (fun x=>by kernel_rfl)
noncomputable def qaF:Inl:=inlF (eN [] []) Tryz.f385 5
theorem qaB:yJ Tryz.prog 385 qaF:=mkI qD qC Tryz.func385 5 (by kernel_rfl) (by kernel_rfl)
noncomputable abbrev qyY:qI:=⟨[yT5,yT5],[.im yT14],qb4⟩
theorem qmX:FOK Tryz.prog 333 qyY:=mkC qD qC Tryz.func333 5 (by kernel_rfl) (by kernel_rfl) (fun x=>by kernel_rfl)
noncomputable abbrev qCc:qI:=⟨[yT2,yT2],[.im yT14],qIi⟩
theorem qDX:FOK Tryz.prog 359 qCc:=mkC (qA qD qmX) qC Tryz.func359 5 (by kernel_rfl) (by kernel_rfl) (fun x=>by kernel_rfl)
noncomputable abbrev yN:qI:=⟨[(.sl (.sl yT2))],[.ow yT2],zF⟩
theorem y9:FOK Tryz.prog 351 yN:=mkC (qA qD qDX) (jJ qC qaB) Tryz.func351 9 (by kernel_rfl) (by kernel_rfl) (fun x=>by kernel_rfl)
noncomputable abbrev qeO:qI:=⟨[yT21,yT2],[.ow yT2],jP⟩
theorem qf1:FOK Tryz.prog 279 qeO:=mkC (qA (qA (qA qD jY) y9) qf2) qC Tryz.func279 8 (by kernel_rfl) (by kernel_rfl) (fun x=>by kernel_rfl)
noncomputable abbrev qCb:qI:=⟨[yT13,yT4,yT5],[.im yT13, .im yT4],xL⟩
theorem qKT:FOK Tryz.prog 181 qCb:=mkC (qA (qA (qA (qA (qA qD jY) qf1) qDW) qh7) qoE) qC Tryz.func181 10 (by kernel_rfl) (by kernel_rfl) (fun x=>by kernel_rfl)
noncomputable def qqK:Inl:=inlF (eN [(181,qCb)] []) Tryz.f316 4
theorem qqD:yJ Tryz.prog 316 qqK:=mkI (qA qD qKT) qC Tryz.func316 4 (by kernel_rfl) (by kernel_rfl)
noncomputable abbrev quZ:qI:=⟨[yT4,yT4],[.ow yT11],zY⟩
theorem qv5:FOK Tryz.prog 317 quZ:=mkC (qA qD qh8) qC Tryz.func317 7 (by kernel_rfl) (by kernel_rfl) (fun x=>by kernel_rfl)
noncomputable abbrev qJe:qI:=⟨[yT5],[.im (.str)],qz1⟩
theorem qKU:FOK Tryz.prog 318 qJe:=mkC qD qC Tryz.func318 6 (by kernel_rfl) (by kernel_rfl) (fun x=>by kernel_rfl)
noncomputable abbrev quY:qI:=⟨[yT3],[.im yT13],qcH⟩
theorem qv4:FOK Tryz.prog 233 quY:=mkC (qA (qA qD qKU) qv5) (jJ qC qqD) Tryz.func233 5 (by kernel_rfl) (by kernel_rfl) (fun x=>by kernel_rfl)
noncomputable abbrev qoP:qI:=⟨[yT3],[.ow yT11, .im yT4],j7⟩
theorem qpG:FOK Tryz.prog 123 qoP:=mkC (qA (qA (qA qD qv4) qDS) qGq) qC Tryz.func123 4 (by kernel_rfl) (by kernel_rfl) (fun x=>by kernel_rfl)
noncomputable abbrev qyW:qI:=⟨[yT4,(.sl yT4)],[.im yT14],xK⟩
theorem qf0:FOK Tryz.prog 263 qyW:=mkC qD qC Tryz.func263 7 (by kernel_rfl) (by kernel_rfl) (fun x=>by kernel_rfl)
noncomputable abbrev qE5:qI:=⟨[yT0],[.im (.ar 2 yT4)],wR⟩
theorem qkU:FOK Tryz.prog 228 qE5:=mkC (qA qD qf0) qC Tryz.func228 4 (by kernel_rfl) (by kernel_rfl) (fun x=>by kernel_rfl)
noncomputable abbrev qE3:qI:=⟨[yT5],[.im yT14],qhN⟩
theorem qt8:FOK Tryz.prog 234 qE3:=mkC qD qC Tryz.func234 3 (by kernel_rfl) (by kernel_rfl) (fun x=>by kernel_rfl)
noncomputable abbrev qB2:qI:=⟨[yT4],[.im yT4],y0⟩
theorem qh6:FOK Tryz.prog 225 qB2:=mkC qD qC Tryz.func225 3 (by kernel_rfl) (by kernel_rfl) (fun x=>by kernel_rfl)
noncomputable abbrev quX:qI:=⟨[yT4],[.im yT14],qcF⟩
theorem qv3:FOK Tryz.prog 235 quX:=mkC (qA qD qh6) qC Tryz.func235 3 (by kernel_rfl) (by kernel_rfl) (fun x=>by kernel_rfl)
noncomputable abbrev qH0:qI:=⟨[yT7],[.im yT7, .im yT4, .im yT4],qqU⟩
theorem qIy:FOK Tryz.prog 319 qH0:=mkC qD qC Tryz.func319 7 (by kernel_rfl) (by kernel_rfl) (fun x=>by kernel_rfl)
noncomputable abbrev qCh:qI:=⟨[yT4,yT4],[.im yT14],qa2⟩
theorem qD0:FOK Tryz.prog 389 qCh:=mkC qD qC Tryz.func389 5 (by kernel_rfl) (by kernel_rfl) (fun x=>by kernel_rfl)
noncomputable abbrev qE9:qI:=⟨[yT8],[.im yT14],qhW⟩
theorem quC:FOK Tryz.prog 367 qE9:=mkC (qA qD qD0) qC Tryz.func367 5 (by kernel_rfl) (by kernel_rfl) (fun x=>by kernel_rfl)
noncomputable abbrev qCk:qI:=⟨[yT4,yT4],[.ow yT11, .im yT4],y7⟩
theorem qD2:FOK Tryz.prog 308 qCk:=mkC qD qC Tryz.func308 8 (by kernel_rfl) (by kernel_rfl) (fun x=>by kernel_rfl)
noncomputable def qAS:Inl:=inlF (eN [(308,qCk)] []) Tryz.f368 8
theorem qzQ:yJ Tryz.prog 368 qAS:=mkI (qA qD qD2) qC Tryz.func368 8 (by kernel_rfl) (by kernel_rfl)
noncomputable abbrev qFc:qI:=⟨[yT8],[.ow yT11, .im yT4],qhX⟩
theorem quD:FOK Tryz.prog 320 qFc:=mkC (qA qD quC) (jJ qC qzQ) Tryz.func320 6 (by kernel_rfl) (by kernel_rfl) (fun x=>by kernel_rfl)
theorem qIv:FOK Tryz.prog 369 qwL:=qIl qw8
noncomputable abbrev kU:qI:=⟨[(.sl yT10)],[.cl yT10],zK⟩
theorem yG:FOK Tryz.prog 370 kU:=mkC qD qC Tryz.func370 3 (by kernel_rfl) (by kernel_rfl) (fun x=>by kernel_rfl)
theorem qAD:FOK Tryz.prog 371 qlA:=qzT
noncomputable abbrev qdL:qI:=⟨[yT19,yT4],[.im yT19],qJ⟩
theorem kP:FOK Tryz.prog 388 qdL:=mkC qD qC Tryz.func388 6 (by kernel_rfl) (by kernel_rfl) (fun x=>by kernel_rfl)
noncomputable abbrev qBb:qI:=⟨[yT5],[.im (.ar 64 yT19)],qiD⟩
theorem qDg:FOK Tryz.prog 387 qBb:=mkC (qA qD kP) qC Tryz.func387 9 (by kernel_rfl) (by kernel_rfl) (fun x=>by kernel_rfl)
noncomputable abbrev qEt:qI:=⟨[(.ar 8 yT19),yT5],[.im (.ar 8 yT19), .im yT4],qgN⟩
theorem qtT:FOK Tryz.prog 362 qEt:=mkC (qA (qA qD kP) qDg) qC Tryz.func362 16 (by kernel_rfl) (by kernel_rfl) (fun x=>by kernel_rfl)
noncomputable abbrev qBc:qI:=⟨[yT17,yT5],[.im yT17],qeM⟩
theorem qtS:FOK Tryz.prog 312 qBc:=mkC (qA qD qtT) qC Tryz.func312 6 (by kernel_rfl) (by kernel_rfl) (fun x=>by kernel_rfl)
noncomputable abbrev qBd:qI:=⟨[],[.im yT17],qrD⟩
theorem qDi:FOK Tryz.prog 313 qBd:=mkC qD qC Tryz.func313 1 (by kernel_rfl) (by kernel_rfl) (fun x=>by kernel_rfl)
noncomputable abbrev qJb:qI:=⟨[yT17],[.ow yT11],qj8⟩
theorem qDh:FOK Tryz.prog 314 qJb:=mkC (qA qD qtT) qC Tryz.func314 9 (by kernel_rfl) (by kernel_rfl) (fun x=>by kernel_rfl)
noncomputable abbrev qLh:qI:=⟨[yT5],[.ow yT11],qGS⟩
theorem qL1:FOK Tryz.prog 361 qLh:=mkC (qA (qA (qA (qA qD jY) qDh) qDi) qtS) qC Tryz.func361 3 (by kernel_rfl) (by kernel_rfl) (fun x=>by kernel_rfl)
noncomputable abbrev qE2:qI:=⟨[yT5],[.ow yT11],ql7⟩
theorem qGo:FOK Tryz.prog 310 qE2:=mkC (qA qD qL1) qC Tryz.func310 4 (by kernel_rfl) (by kernel_rfl) (fun x=>by kernel_rfl)
noncomputable def qGB:Inl:=inlF (eN [(312,qBc),(313,qBd),(350,qjL)] []) Tryz.f311 6
theorem qFD:yJ Tryz.prog 311 qGB:=mkI (qA (qA (qA qD jY) qDi) qtS) qC Tryz.func311 6 (by kernel_rfl) (by kernel_rfl)
noncomputable abbrev qJc:qI:=⟨[yT5,yT5],[.ow yT11],qnW⟩
theorem qt7:FOK Tryz.prog 231 qJc:=mkC (qA (qA (qA (qA qD jY) qDh) qtS) qGo) (jJ qC qFD) Tryz.func231 7 (by kernel_rfl) (by kernel_rfl) (fun x=>by kernel_rfl)
noncomputable abbrev qB1:qI:=⟨[yT5,yT5],[.ow yT11],qd4⟩
theorem qDQ:FOK Tryz.prog 372 qB1:=mkC (qA qD qt7) qC Tryz.func372 5 (by kernel_rfl) (by kernel_rfl) (fun x=>by kernel_rfl)
noncomputable abbrev qHX:qI:=⟨[yT9,yT5,yT5],[.im yT9, .ow yT11],qqN⟩
theorem qIu:FOK Tryz.prog 321 qHX:=mkC (qA (qA (qA (qA qD qDQ) qAD) yG) qIv) qC Tryz.func321 8 (by kernel_rfl) (by kernel_rfl) (fun x=>by kernel_rfl)
noncomputable abbrev qFb:qI:=⟨[yT8],[.im yT14],qmL⟩
theorem qGt:FOK Tryz.prog 373 qFb:=mkC (qA qD quC) qC Tryz.func373 3 (by kernel_rfl) (by kernel_rfl) (fun x=>by kernel_rfl)
noncomputable abbrev qFa:qI:=⟨[yT8],[.ow yT11, .im yT4],qmK⟩
theorem qGs:FOK Tryz.prog 322 qFa:=mkC (qA (qA qD qGt) quD) qC Tryz.func322 6 (by kernel_rfl) (by kernel_rfl) (fun x=>by kernel_rfl)
noncomputable abbrev qCd:qI:=⟨[yT5],[.ow yT11, .im yT4],qjD⟩
theorem qDY:FOK Tryz.prog 323 qCd:=mkC qD qC Tryz.func323 4 (by kernel_rfl) (by kernel_rfl) (fun x=>by kernel_rfl)
noncomputable abbrev yO:qI:=⟨[(.sl yT2)],[.cl yT2],zR⟩
theorem wA:FOK Tryz.prog 324 yO:=mkC qD qC Tryz.func324 3 (by kernel_rfl) (by kernel_rfl) (fun x=>by kernel_rfl)
noncomputable abbrev qE4:qI:=⟨[yT1,yT8,yT5],[.im yT1, .im yT4],qhO⟩
theorem qt9:FOK Tryz.prog 236 qE4:=mkC (qA (qA (qA (qA (qA (qA qD wA) qDY) qGs) qIu) quD) qIy) qC Tryz.func236 17 (by kernel_rfl) (by kernel_rfl) (fun x=>by kernel_rfl)
noncomputable abbrev qrR:qI:=⟨[yT1,yT5],[.im yT1, .im yT4],x8⟩
theorem quA:FOK Tryz.prog 124 qrR:=mkC (qA (qA (qA (qA qD qt9) qv3) qt8) qkU) qC Tryz.func124 9 (by kernel_rfl) (by kernel_rfl) (fun x=>by kernel_rfl)
noncomputable abbrev qH4:qI:=⟨[yT4],[.im yT4],qqY⟩
theorem qIB:FOK Tryz.prog 167 qH4:=mkC qD qC Tryz.func167 3 (by kernel_rfl) (by kernel_rfl) (fun x=>by kernel_rfl)
noncomputable abbrev qFe:qI:=⟨[yT4],[.im yT14],qm2⟩
theorem qGv:FOK Tryz.prog 338 qFe:=mkC qD qC Tryz.func338 3 (by kernel_rfl) (by kernel_rfl) (fun x=>by kernel_rfl)
noncomputable abbrev qH3:qI:=⟨[yT4,yT4,yT5],[.im yT14],qqX⟩
theorem qIA:FOK Tryz.prog 262 qH3:=mkC (qA qD qGv) qC Tryz.func262 7 (by kernel_rfl) (by kernel_rfl) (fun x=>by kernel_rfl)
noncomputable abbrev qFf:qI:=⟨[yT4,yT4,yT5],[.im yT12, .im yT4],qm3⟩
theorem qGw:FOK Tryz.prog 168 qFf:=mkC (qA qD qIA) qC Tryz.func168 8 (by kernel_rfl) (by kernel_rfl) (fun x=>by kernel_rfl)
noncomputable abbrev qB6:qI:=⟨[yT5, .str,(.sl yT5)],[.ow yT11, .im yT4],qeB⟩
theorem qpH:FOK Tryz.prog 309 qB6:=mkC (qA qD qt7) qC Tryz.func309 11 (by kernel_rfl) (by kernel_rfl) (fun x=>by kernel_rfl)
noncomputable abbrev qE6:qI:=⟨[yT5],[.ow yT11],qhP⟩
theorem qGp:FOK Tryz.prog 264 qE6:=mkC (qA qD qpH) qC Tryz.func264 5 (by kernel_rfl) (by kernel_rfl) (fun x=>by kernel_rfl)
noncomputable abbrev qB7:qI:=⟨[yT1,yT4,yT5],[.im yT1, .im yT4],qjA⟩
theorem qDU:FOK Tryz.prog 169 qB7:=mkC (qA (qA (qA (qA (qA qD qGp) qf0) qt9) qt8) qkU) qC Tryz.func169 9 (by kernel_rfl) (by kernel_rfl) (fun x=>by kernel_rfl)
noncomputable abbrev qrG:qI:=⟨[yT1,yT3],[.im yT1],kT⟩
theorem qhZ:FOK Tryz.prog 63 qrG:=mkC (qA (qA (qA (qA (qA qD qDU) qGw) qIB) quA) qpG) qC Tryz.func63 9 (by kernel_rfl) (by kernel_rfl) (fun x=>by kernel_rfl)
noncomputable abbrev qB4:qI:=⟨[yT4],[.im yT14],qi7⟩
theorem qDR:FOK Tryz.prog 105 qB4:=mkC (qA qD qh6) qC Tryz.func105 3 (by kernel_rfl) (by kernel_rfl) (fun x=>by kernel_rfl)
noncomputable abbrev qEv:qI:=⟨[yT2],[.im yT14],qgQ⟩
theorem qtV:FOK Tryz.prog 238 qEv:=mkC qD qC Tryz.func238 3 (by kernel_rfl) (by kernel_rfl) (fun x=>by kernel_rfl)
noncomputable abbrev qrH:qI:=⟨[(.pair yT6 yT22)],[.im (.ar 3 yT2)],qeQ⟩
theorem qtU:FOK Tryz.prog 307 qrH:=mkC qD qC Tryz.func307 3 (by kernel_rfl) (by kernel_rfl) (fun x=>by kernel_rfl)
noncomputable abbrev qnK:qI:=⟨[(.pair yT6 yT22)],[.im yT14],x6⟩
theorem qeH:FOK Tryz.prog 226 qnK:=mkC (qA (qA qD qtU) qtV) qC Tryz.func226 5 (by kernel_rfl) (by kernel_rfl) (fun x=>by kernel_rfl)
noncomputable abbrev qEx:qI:=⟨[yT6],[.im yT4, .im yT4],qlJ⟩
theorem qF1:FOK Tryz.prog 106 qEx:=mkC (qA qD qeH) qC Tryz.func106 4 (by kernel_rfl) (by kernel_rfl) (fun x=>by kernel_rfl)
noncomputable abbrev qxM:qI:=⟨[yT1],[.im (.pair (.pair yT0 yT22) (.pair yT1 yT22))],xH⟩
theorem qaT:FOK Tryz.prog 107 qxM:=mkC qD qC Tryz.func107 3 (by kernel_rfl) (by kernel_rfl) (fun x=>by kernel_rfl)
noncomputable abbrev qHY:qI:=⟨[yT5,(.ar 2 yT4),yT4,yT5],[.ow yT11],ql9⟩
theorem qIw:FOK Tryz.prog 227 qHY:=mkC (qA (qA (qA qD qpH) qD2) qf0) qC Tryz.func227 17 (by kernel_rfl) (by kernel_rfl) (fun x=>by kernel_rfl)
noncomputable abbrev qpN:qI:=⟨[(.pair yT0 yT22),yT4,yT5],[.ow yT11],jV⟩
theorem qgG:FOK Tryz.prog 108 qpN:=mkC (qA (qA qD qkU) qIw) qC Tryz.func108 7 (by kernel_rfl) (by kernel_rfl) (fun x=>by kernel_rfl)
noncomputable abbrev qEu:qI:=⟨[yT2],[.im yT14],qlH⟩
theorem qFZ:FOK Tryz.prog 229 qEu:=mkC qD qC Tryz.func229 3 (by kernel_rfl) (by kernel_rfl) (fun x=>by kernel_rfl)
noncomputable abbrev qBe:qI:=⟨[yT6,yT4,yT5],[.im yT6, .im yT4],qaW⟩
theorem qo3:FOK Tryz.prog 109 qBe:=mkC (qA (qA qD qFZ) qeH) qC Tryz.func109 10 (by kernel_rfl) (by kernel_rfl) (fun x=>by kernel_rfl)
noncomputable def qEa:Inl:=inlF (eN [] []) Tryz.f230 3
theorem qCW:yJ Tryz.prog 230 qEa:=mkI qD qC Tryz.func230 3 (by kernel_rfl) (by kernel_rfl)
noncomputable abbrev qB3:qI:=⟨[yT4,yT4],[.im yT4, .im yT14],qd5⟩
theorem qpF:FOK Tryz.prog 110 qB3:=mkC (qA qD qh6) (jJ qC qCW) Tryz.func110 9 (by kernel_rfl) (by kernel_rfl) (fun x=>by kernel_rfl)
noncomputable abbrev qJd:qI:=⟨[yT5],[.ow yT11],qsX⟩
theorem qDT:FOK Tryz.prog 111 qJd:=mkC (qA qD qt7) qC Tryz.func111 3 (by kernel_rfl) (by kernel_rfl) (fun x=>by kernel_rfl)
noncomputable abbrev qEy:qI:=⟨[yT1,yT5],[.im yT1, .im yT4],qdP⟩
theorem qtX:FOK Tryz.prog 23 qEy:=mkC (qA (qA (qA (qA (qA (qA (qA (qA qD qDT) qpF) qo3) qgG) qaT) qF1) qDR) qhZ) qC Tryz.func23 9 (by kernel_rfl) (by kernel_rfl) (fun x=>by kernel_rfl)
noncomputable abbrev qnL:qI:=⟨[(.pair yT0 yT22)],[.im yT14],zC⟩
theorem wB:FOK Tryz.prog 116 qnL:=mkC qD qC Tryz.func116 3 (by kernel_rfl) (by kernel_rfl) (fun x=>by kernel_rfl)
noncomputable abbrev qBf:qI:=⟨[yT1],[.im yT1],yP⟩
theorem qh1:FOK Tryz.prog 117 qBf:=mkC (qA qD qpF) qC Tryz.func117 3 (by kernel_rfl) (by kernel_rfl) (fun x=>by kernel_rfl)
noncomputable abbrev qrI:qI:=⟨[yT6],[.im yT6],qaJ⟩
theorem qh0:FOK Tryz.prog 118 qrI:=mkC qD qC Tryz.func118 3 (by kernel_rfl) (by kernel_rfl) (fun x=>by kernel_rfl)
noncomputable abbrev qxN:qI:=⟨[yT1],[.im yT1],yQ⟩
theorem qfW:FOK Tryz.prog 26 qxN:=mkC (qA (qA (qA (qA qD qh0) qh1) wB) qaT) qC Tryz.func26 3 (by kernel_rfl) (by kernel_rfl) (fun x=>by kernel_rfl)
noncomputable abbrev qk8:qI:=⟨[yT3,yT4],[.im yT3, .im yT4],jW⟩
theorem qAy:FOK Tryz.prog 122 qk8:=mkC qD qC Tryz.func122 6 (by kernel_rfl) (by kernel_rfl) (fun x=>by kernel_rfl)
noncomputable def qoJ:Inl:=inlF (eN [(122,qk8),(123,qoP),(124,qrR)] []) Tryz.f121 9
theorem qn3:yJ Tryz.prog 121 qoJ:=mkI (qA (qA (qA qD quA) qpG) qAy) qC Tryz.func121 9 (by kernel_rfl) (by kernel_rfl)
noncomputable abbrev qB8:qI:=⟨[yT1,yT4],[.im yT1],kK⟩
theorem qpI:FOK Tryz.prog 125 qB8:=mkC qD qC Tryz.func125 7 (by kernel_rfl) (by kernel_rfl) (fun x=>by kernel_rfl)
noncomputable abbrev qrJ:qI:=⟨[yT1,yT3],[.im yT1],qaL⟩
theorem qtW:FOK Tryz.prog 31 qrJ:=mkC (qA (qA (qA (qA (qA (qA (qA (qA (qA qD qw8) qpI) qh0) qh1) wB) qDT) qo3) qgG) qaT) (jJ qC qn3) Tryz.func31 10 (by kernel_rfl) (by kernel_rfl) (fun x=>by kernel_rfl)
noncomputable abbrev qH5:qI:=⟨[yT12,yT12],[.im yT14],qAM⟩
theorem qIC:FOK Tryz.prog 325 qH5:=mkC (qA qD qmX) qC Tryz.func325 5 (by kernel_rfl) (by kernel_rfl) (fun x=>by kernel_rfl)
noncomputable abbrev qH2:qI:=⟨[yT12],[.im yT14],qqW⟩
theorem qIz:FOK Tryz.prog 237 qH2:=mkC (qA qD qIC) qC Tryz.func237 3 (by kernel_rfl) (by kernel_rfl) (fun x=>by kernel_rfl)
noncomputable abbrev qFd:qI:=⟨[yT12,yT4,yT4],[.im yT14],qm1⟩
theorem qGu:FOK Tryz.prog 129 qFd:=mkC (qA qD qIz) qC Tryz.func129 7 (by kernel_rfl) (by kernel_rfl) (fun x=>by kernel_rfl)
noncomputable abbrev qEw:qI:=⟨[yT6],[.im yT6, .im yT4],qgS⟩
theorem qF0:FOK Tryz.prog 130 qEw:=mkC (qA qD qtV) qC Tryz.func130 5 (by kernel_rfl) (by kernel_rfl) (fun x=>by kernel_rfl)
noncomputable abbrev qpO:qI:=⟨[yT1,yT3],[.im yT1],wE⟩
theorem qqF:FOK Tryz.prog 33 qpO:=mkC (qA (qA (qA (qA (qA (qA (qA (qA qD qF0) qGu) qpI) qh1) wB) qaT) qhZ) qfW) qC Tryz.func33 5 (by kernel_rfl) (by kernel_rfl) (fun x=>by kernel_rfl)
noncomputable abbrev qyC:qI:=⟨[yT7,yT4],[.im yT7, .im yT4],qkF⟩
theorem qAn:FOK Tryz.prog 87 qyC:=mkC qD qC Tryz.func87 6 (by kernel_rfl) (by kernel_rfl) (fun x=>by kernel_rfl)
noncomputable abbrev qBA:qI:=⟨[yT2],[.im yT14],kI⟩
theorem qo8:FOK Tryz.prog 173 qBA:=mkC qD qC Tryz.func173 3 (by kernel_rfl) (by kernel_rfl) (fun x=>by kernel_rfl)
noncomputable abbrev qx6:qI:=⟨[yT6],[.im yT14],v7⟩
theorem qaU:FOK Tryz.prog 67 qx6:=mkC (qA qD qo8) qC Tryz.func67 6 (by kernel_rfl) (by kernel_rfl) (fun x=>by kernel_rfl)
noncomputable abbrev qx5:qI:=⟨[yT6,yT4,yT5],[.im yT6, .im yT4],qbK⟩
theorem qmR:FOK Tryz.prog 114 qx5:=mkC (qA qD qaU) qC Tryz.func114 9 (by kernel_rfl) (by kernel_rfl) (fun x=>by kernel_rfl)
noncomputable abbrev qBB:qI:=⟨[yT6],[.im yT6, .im yT4],qaZ⟩
theorem qo9:FOK Tryz.prog 132 qBB:=mkC qD qC Tryz.func132 4 (by kernel_rfl) (by kernel_rfl) (fun x=>by kernel_rfl)
noncomputable abbrev qEG:qI:=⟨[yT5],[.im yT6, .im yT4],qlT⟩
theorem qF8:FOK Tryz.prog 140 qEG:=mkC qD qC Tryz.func140 4 (by kernel_rfl) (by kernel_rfl) (fun x=>by kernel_rfl)
noncomputable abbrev quN:qI:=⟨[yT4],[.im yT14],jD⟩
theorem qdD:FOK Tryz.prog 133 quN:=mkC qD qC Tryz.func133 3 (by kernel_rfl) (by kernel_rfl) (fun x=>by kernel_rfl)
noncomputable abbrev qyP:qI:=⟨[yT4,yT4],[.im yT4],xI⟩
theorem qfY:FOK Tryz.prog 202 qyP:=mkC qD qC Tryz.func202 7 (by kernel_rfl) (by kernel_rfl) (fun x=>by kernel_rfl)
noncomputable abbrev qEZ:qI:=⟨[yT4,yT4],[.ow yT11, .im yT4],yA⟩
theorem qkT:FOK Tryz.prog 246 qEZ:=mkC (qA qD qfY) qC Tryz.func246 8 (by kernel_rfl) (by kernel_rfl) (fun x=>by kernel_rfl)
noncomputable abbrev qEW:qI:=⟨[yT4],[.ow yT11],qlZ⟩
theorem qGk:FOK Tryz.prog 374 qEW:=mkC qD qC Tryz.func374 6 (by kernel_rfl) (by kernel_rfl) (fun x=>by kernel_rfl)
noncomputable abbrev qBW:qI:=⟨[],[.ow yT19],qi4⟩
theorem qpE:FOK Tryz.prog 375 qBW:=mkC qD qC Tryz.func375 1 (by kernel_rfl) (by kernel_rfl) (fun x=>by kernel_rfl)
noncomputable abbrev qBU:qI:=⟨[yT19,yT19],[.im yT19],jI⟩
theorem qDM:FOK Tryz.prog 392 qBU:=mkC qD qC Tryz.func392 5 (by kernel_rfl) (by kernel_rfl) (fun x=>by kernel_rfl)
noncomputable abbrev qBV:qI:=⟨[(.ar 8 yT19),yT5,yT4,(.sl yT19)],[.im (.ar 8 yT19)],qd1⟩
theorem qpD:FOK Tryz.prog 376 qBV:=mkC (qA qD qDM) qC Tryz.func376 30 (by kernel_rfl) (by kernel_rfl) (fun x=>by kernel_rfl)
noncomputable abbrev qEU:qI:=⟨[yT17],[.ow yT11],qg3⟩
theorem qGi:FOK Tryz.prog 327 qEU:=mkC (qA (qA (qA qD qpD) qpE) qGk) qC Tryz.func327 9 (by kernel_rfl) (by kernel_rfl) (fun x=>by kernel_rfl)
noncomputable abbrev qEV:qI:=⟨[yT17,yT5],[.im yT17],qg4⟩
theorem qGj:FOK Tryz.prog 328 qEV:=mkC (qA (qA qD qpD) qpE) qC Tryz.func328 8 (by kernel_rfl) (by kernel_rfl) (fun x=>by kernel_rfl)
noncomputable abbrev qEX:qI:=⟨[],[.im yT17],qsI⟩
theorem qGl:FOK Tryz.prog 329 qEX:=mkC qD qC Tryz.func329 1 (by kernel_rfl) (by kernel_rfl) (fun x=>by kernel_rfl)
noncomputable abbrev qHW:qI:=⟨[yT5],[.ow yT11],qfC⟩
theorem qoD:FOK Tryz.prog 250 qHW:=mkC (qA (qA (qA qD qGl) qGj) qGi) qC Tryz.func250 3 (by kernel_rfl) (by kernel_rfl) (fun x=>by kernel_rfl)
noncomputable abbrev qyN:qI:=⟨[yT5],[.ow yT11],qfB⟩
theorem qAv:FOK Tryz.prog 249 qyN:=mkC (qA qD qoD) qC Tryz.func249 4 (by kernel_rfl) (by kernel_rfl) (fun x=>by kernel_rfl)
noncomputable abbrev qES:qI:=⟨[yT5,yT5],[.ow yT11],qdZ⟩
theorem qkS:FOK Tryz.prog 150 qES:=mkC (qA (qA qD qoD) qAv) qC Tryz.func150 9 (by kernel_rfl) (by kernel_rfl) (fun x=>by kernel_rfl)
noncomputable abbrev qBT:qI:=⟨[.str,(.sl yT5)],[.ow yT11],qi3⟩
theorem qDL:FOK Tryz.prog 326 qBT:=mkC qD qC Tryz.func326 7 (by kernel_rfl) (by kernel_rfl) (fun x=>by kernel_rfl)
noncomputable abbrev quU:qI:=⟨[yT5, .str,(.sl yT5)],[.ow yT11, .im yT4],wP⟩
theorem qj1:FOK Tryz.prog 247 quU:=mkC (qA (qA qD qDL) qkS) qC Tryz.func247 9 (by kernel_rfl) (by kernel_rfl) (fun x=>by kernel_rfl)
noncomputable abbrev qEB:qI:=⟨[yT5,(.ar 2 yT4),yT4,yT5],[.ow yT11],wN⟩
theorem qtZ:FOK Tryz.prog 141 qEB:=mkC (qA (qA (qA qD qj1) qkT) qdD) qC Tryz.func141 19 (by kernel_rfl) (by kernel_rfl) (fun x=>by kernel_rfl)
noncomputable abbrev quS:qI:=⟨[yT4],[.ow yT11, .im yT4],qcD⟩
theorem qv0:FOK Tryz.prog 248 quS:=mkC (qA (qA qD qoD) qkT) qC Tryz.func248 7 (by kernel_rfl) (by kernel_rfl) (fun x=>by kernel_rfl)
noncomputable abbrev qED:qI:=⟨[],[.im yT10],qlR⟩
theorem qF5:FOK Tryz.prog 142 qED:=mkC (qA qD qv0) qC Tryz.func142 3 (by kernel_rfl) (by kernel_rfl) (fun x=>by kernel_rfl)
noncomputable abbrev qEP:qI:=⟨[.bool],[.im yT9],qCo⟩
theorem qGf:FOK Tryz.prog 143 qEP:=mkC qD qC Tryz.func143 3 (by kernel_rfl) (by kernel_rfl) (fun x=>by kernel_rfl)
noncomputable abbrev qyT:qI:=⟨[yT11,yT4],[.im yT1, .im yT1],qbW⟩
theorem qAz:FOK Tryz.prog 37 qyT:=mkC (qA (qA (qA (qA (qA (qA (qA qD qGf) qF5) qtZ) qF8) qo9) qmR) qAn) qC Tryz.func37 16 (by kernel_rfl) (by kernel_rfl) (fun x=>by kernel_rfl)
noncomputable abbrev qEL:qI:=⟨[yT20,yT11],[.im yT20, .ow yT11],qdW⟩
theorem qGc:FOK Tryz.prog 292 qEL:=mkC qD qC Tryz.func292 7 (by kernel_rfl) (by kernel_rfl) (fun x=>by kernel_rfl)
noncomputable abbrev qBJ:qI:=⟨[yT20,yT5],[.im yT20, .ow yT5],qnS⟩
theorem qDD:FOK Tryz.prog 196 qBJ:=mkC (qA qD qGc) qC Tryz.func196 10 (by kernel_rfl) (by kernel_rfl) (fun x=>by kernel_rfl)
noncomputable abbrev qBg:qI:=⟨[yT5],[.im yT5],qiJ⟩
theorem qDj:FOK Tryz.prog 89 qBg:=mkC (qA qD qDD) qC Tryz.func89 5 (by kernel_rfl) (by kernel_rfl) (fun x=>by kernel_rfl)
noncomputable abbrev qrO:qI:=⟨[yT5,yT4,yT4],[.im yT4, .im yT4, .im yT4],qaP⟩
theorem qt5:FOK Tryz.prog 266 qrO:=mkC qD qC Tryz.func266 11 (by kernel_rfl) (by kernel_rfl) (fun x=>by kernel_rfl)
noncomputable abbrev qBx:qI:=⟨[yT5,yT4,yT4],[.im yT4],vB⟩
theorem qDv:FOK Tryz.prog 194 qBx:=mkC (qA qD qt5) qC Tryz.func194 10 (by kernel_rfl) (by kernel_rfl) (fun x=>by kernel_rfl)
noncomputable abbrev quT:qI:=⟨[yT4],[.im yT14],kH⟩
theorem qv1:FOK Tryz.prog 360 quT:=mkC qD qC Tryz.func360 3 (by kernel_rfl) (by kernel_rfl) (fun x=>by kernel_rfl)
noncomputable abbrev qx0:qI:=⟨[yT8],[.im yT14],qbH⟩
theorem qmP:FOK Tryz.prog 291 qx0:=mkC (qA qD qv1) qC Tryz.func291 6 (by kernel_rfl) (by kernel_rfl) (fun x=>by kernel_rfl)
noncomputable abbrev qx2:qI:=⟨[yT8],[.im yT14],yU⟩
theorem qmQ:FOK Tryz.prog 195 qx2:=mkC (qA qD qmP) qC Tryz.func195 4 (by kernel_rfl) (by kernel_rfl) (fun x=>by kernel_rfl)
noncomputable abbrev qBy:qI:=⟨[yT5],[.im yT8, .im yT4],qiS⟩
theorem qDw:FOK Tryz.prog 88 qBy:=mkC (qA (qA qD qmQ) qDv) qC Tryz.func88 7 (by kernel_rfl) (by kernel_rfl) (fun x=>by kernel_rfl)
noncomputable abbrev qxT:qI:=⟨[yT1,yT4],[.im yT1],v5⟩
theorem qAc:FOK Tryz.prog 212 qxT:=mkC qD qC Tryz.func212 7 (by kernel_rfl) (by kernel_rfl) (fun x=>by kernel_rfl)
noncomputable abbrev quR:qI:=⟨[yT4],[.im yT14],kG⟩
theorem qdE:FOK Tryz.prog 28 quR:=mkC qD qC Tryz.func28 3 (by kernel_rfl) (by kernel_rfl) (fun x=>by kernel_rfl)
noncomputable abbrev qBo:qI:=⟨[yT0],[.im (.ar 2 yT4)],yR⟩
theorem qh2:FOK Tryz.prog 36 qBo:=mkC qD qC Tryz.func36 3 (by kernel_rfl) (by kernel_rfl) (fun x=>by kernel_rfl)
noncomputable abbrev qBE:qI:=⟨[yT6,yT4],[.im yT5, .im yT14],qdU⟩
theorem qpA:FOK Tryz.prog 215 qBE:=mkC qD qC Tryz.func215 6 (by kernel_rfl) (by kernel_rfl) (fun x=>by kernel_rfl)
noncomputable abbrev qxP:qI:=⟨[yT0,yT8],[.im yT14],qeS⟩
theorem qz8:FOK Tryz.prog 213 qxP:=mkC (qA (qA (qA qD qpA) qh2) qdE) qC Tryz.func213 9 (by kernel_rfl) (by kernel_rfl) (fun x=>by kernel_rfl)
noncomputable abbrev qBp:qI:=⟨[yT5],[.ow yT11],kF⟩
theorem qo5:FOK Tryz.prog 214 qBp:=mkC (qA qD qj1) qC Tryz.func214 5 (by kernel_rfl) (by kernel_rfl) (fun x=>by kernel_rfl)
noncomputable abbrev qEF:qI:=⟨[yT4,yT4],[.ow yT11],jF⟩
theorem qF7:FOK Tryz.prog 300 qEF:=mkC (qA qD qkT) qC Tryz.func300 7 (by kernel_rfl) (by kernel_rfl) (fun x=>by kernel_rfl)
noncomputable abbrev qx3:qI:=⟨[yT8],[.ow yT11, .im yT4],v6⟩
theorem qfX:FOK Tryz.prog 216 qx3:=mkC (qA (qA qD qF7) qmP) qC Tryz.func216 6 (by kernel_rfl) (by kernel_rfl) (fun x=>by kernel_rfl)
noncomputable abbrev qBY:qI:=⟨[yT5,yT5],[.im yT14],zX⟩
theorem z0:FOK Tryz.prog 39 qBY:=mkC qD qC Tryz.func39 5 (by kernel_rfl) (by kernel_rfl) (fun x=>by kernel_rfl)
noncomputable abbrev qyL:qI:=⟨[yT5,yT5],[.ow yT11],yY⟩
theorem qmV:FOK Tryz.prog 301 qyL:=mkC (qA qD qkS) qC Tryz.func301 5 (by kernel_rfl) (by kernel_rfl) (fun x=>by kernel_rfl)
noncomputable abbrev qEQ:qI:=⟨[yT9,yT5,yT5],[.im yT14],qg0⟩
theorem qt4:FOK Tryz.prog 302 qEQ:=mkC (qA qD z0) qC Tryz.func302 8 (by kernel_rfl) (by kernel_rfl) (fun x=>by kernel_rfl)
noncomputable abbrev qyM:qI:=⟨[yT9,yT5,yT5,yT5],[.im yT9, .im yT14],qbP⟩
theorem qAu:FOK Tryz.prog 217 qyM:=mkC (qA (qA (qA qD qt4) qmV) z0) qC Tryz.func217 11 (by kernel_rfl) (by kernel_rfl) (fun x=>by kernel_rfl)
noncomputable abbrev qx7:qI:=⟨[yT4],[.im (.int .u64)],yV⟩
theorem qmS:FOK Tryz.prog 305 qx7:=mkC qD qC Tryz.func305 5 (by kernel_rfl) (by kernel_rfl) (fun x=>by kernel_rfl)
noncomputable abbrev qEI:qI:=⟨[yT16,yT4],[.im yT14],wO⟩
theorem qkR:FOK Tryz.prog 240 qEI:=mkC (qA qD qmS) qC Tryz.func240 5 (by kernel_rfl) (by kernel_rfl) (fun x=>by kernel_rfl)
noncomputable abbrev qyA:qI:=⟨[yT16,yT4],[.im yT14],qe3⟩
theorem qAl:FOK Tryz.prog 303 qyA:=mkC (qA qD qkR) qC Tryz.func303 5 (by kernel_rfl) (by kernel_rfl) (fun x=>by kernel_rfl)
noncomputable abbrev qx8:qI:=⟨[yT16],[.ow yT4],qe1⟩
theorem qAj:FOK Tryz.prog 304 qx8:=mkC (qA qD qkR) qC Tryz.func304 6 (by kernel_rfl) (by kernel_rfl) (fun x=>by kernel_rfl)
noncomputable abbrev qBF:qI:=⟨[yT16,yT4],[.im yT16, .im yT4],qdV⟩
theorem qDA:FOK Tryz.prog 218 qBF:=mkC (qA (qA (qA qD qmS) qAj) qAl) qC Tryz.func218 12 (by kernel_rfl) (by kernel_rfl) (fun x=>by kernel_rfl)
noncomputable abbrev qBl:qI:=⟨[yT1,yT5],[.im yT1, .im yT8, .im yT4],qdQ⟩
theorem qDn:FOK Tryz.prog 101 qBl:=mkC (qA (qA (qA (qA (qA (qA (qA (qA (qA qD qDA) qAu) qfX) qpA) qo5) qz8) qAc) qo9) qDw) qC Tryz.func101 21 (by kernel_rfl) (by kernel_rfl) (fun x=>by kernel_rfl)
noncomputable abbrev qrQ:qI:=⟨[.str],[.im yT14],kZ⟩
theorem qh5:FOK Tryz.prog 201 qrQ:=mkC qD qC Tryz.func201 4 (by kernel_rfl) (by kernel_rfl) (fun x=>by kernel_rfl)
noncomputable abbrev qyQ:qI:=⟨[.str],[.im yT4, .im yT4],v9⟩
theorem qfZ:FOK Tryz.prog 92 qyQ:=mkC (qA (qA qD qfY) qh5) qC Tryz.func92 6 (by kernel_rfl) (by kernel_rfl) (fun x=>by kernel_rfl)
noncomputable abbrev qBM:qI:=⟨[yT4],[.im yT14],qdX⟩
theorem qpC:FOK Tryz.prog 95 qBM:=mkC qD qC Tryz.func95 3 (by kernel_rfl) (by kernel_rfl) (fun x=>by kernel_rfl)
noncomputable abbrev qrP:qI:=⟨[yT5,yT4,yT4],[.im (.str), .im yT4, .im yT4],jN⟩
theorem qh4:FOK Tryz.prog 197 qrP:=mkC qD qC Tryz.func197 13 (by kernel_rfl) (by kernel_rfl) (fun x=>by kernel_rfl)
noncomputable abbrev qyI:qI:=⟨[yT4],[.im yT4, .im yT11],v8⟩
theorem qmT:FOK Tryz.prog 298 qyI:=mkC qD qC Tryz.func298 6 (by kernel_rfl) (by kernel_rfl) (fun x=>by kernel_rfl)
noncomputable abbrev qEN:qI:=⟨[yT5,yT4],[.im yT14],kY⟩
theorem qGd:FOK Tryz.prog 293 qEN:=mkC (qA qD qmT) qC Tryz.func293 7 (by kernel_rfl) (by kernel_rfl) (fun x=>by kernel_rfl)
noncomputable abbrev qBO:qI:=⟨[yT5,yT4],[.ow yT4, .im yT4, .im yT4],qi0⟩
theorem qDH:FOK Tryz.prog 198 qBO:=mkC (qA qD qGd) qC Tryz.func198 12 (by kernel_rfl) (by kernel_rfl) (fun x=>by kernel_rfl)
noncomputable abbrev qHU:qI:=⟨[(.sl yT4),yT4],[.im yT14],qlW⟩
theorem qIt:FOK Tryz.prog 294 qHU:=mkC qD qC Tryz.func294 6 (by kernel_rfl) (by kernel_rfl) (fun x=>by kernel_rfl)
noncomputable abbrev qHV:qI:=⟨[yT4],[.im yT15, .im yT14],qfA⟩
theorem qjH:FOK Tryz.prog 199 qHV:=mkC (qA qD qIt) qC Tryz.func199 7 (by kernel_rfl) (by kernel_rfl) (fun x=>by kernel_rfl)
noncomputable abbrev qyJ:qI:=⟨[yT4],[.im yT4],yX⟩
theorem qmU:FOK Tryz.prog 295 qyJ:=mkC qD qC Tryz.func295 3 (by kernel_rfl) (by kernel_rfl) (fun x=>by kernel_rfl)
noncomputable abbrev qBP:qI:=⟨[yT15,yT5],[.im yT14],j5⟩
theorem qh3:FOK Tryz.prog 296 qBP:=mkC qD qC Tryz.func296 6 (by kernel_rfl) (by kernel_rfl) (fun x=>by kernel_rfl)
noncomputable abbrev qBQ:qI:=⟨[yT4,yT5,yT4],[.ow yT11, .im yT4, .im yT4],qi1⟩
theorem qDI:FOK Tryz.prog 200 qBQ:=mkC (qA (qA (qA (qA (qA qD qh3) qmU) qjH) qh4) qfZ) qC Tryz.func200 23 (by kernel_rfl) (by kernel_rfl) (fun x=>by kernel_rfl)
noncomputable abbrev qBN:qI:=⟨[yT5],[.im yT13, .im yT4],qiZ⟩
theorem qDG:FOK Tryz.prog 90 qBN:=mkC (qA (qA (qA (qA (qA (qA qD qDI) qjH) qDH) qh4) qpC) qfZ) qC Tryz.func90 20 (by kernel_rfl) (by kernel_rfl) (fun x=>by kernel_rfl)
noncomputable abbrev qEM:qI:=⟨[yT13,yT4],[.im yT5, .im yT14],qbN⟩
theorem qt3:FOK Tryz.prog 91 qEM:=mkC qD qC Tryz.func91 7 (by kernel_rfl) (by kernel_rfl) (fun x=>by kernel_rfl)
noncomputable abbrev qxX:qI:=⟨[yT4],[.im yT14],qbF⟩
theorem qmO:FOK Tryz.prog 120 qxX:=mkC qD qC Tryz.func120 3 (by kernel_rfl) (by kernel_rfl) (fun x=>by kernel_rfl)
noncomputable abbrev qxV:qI:=⟨[yT3],[.im yT14],qeV⟩
theorem qAd:FOK Tryz.prog 30 qxV:=mkC (qA qD qmO) qC Tryz.func30 4 (by kernel_rfl) (by kernel_rfl) (fun x=>by kernel_rfl)
noncomputable abbrev qBR:qI:=⟨[yT4,yT5],[.im yT14],qi2⟩
theorem qDJ:FOK Tryz.prog 285 qBR:=mkC (qA (qA qD qh3) qjH) qC Tryz.func285 8 (by kernel_rfl) (by kernel_rfl) (fun x=>by kernel_rfl)
noncomputable abbrev qyF:qI:=⟨[yT13],[.im yT14],qe7⟩
theorem qAq:FOK Tryz.prog 203 qyF:=mkC (qA (qA qD qDJ) qpC) qC Tryz.func203 5 (by kernel_rfl) (by kernel_rfl) (fun x=>by kernel_rfl)
noncomputable abbrev quV:qI:=⟨[yT4,yT4],[.im (.str), .im yT4],xF⟩
theorem qdF:FOK Tryz.prog 96 quV:=mkC (qA qD qfY) qC Tryz.func96 8 (by kernel_rfl) (by kernel_rfl) (fun x=>by kernel_rfl)
noncomputable abbrev qE0:qI:=⟨[.str],[.ow yT11, .im yT4],vO⟩
theorem qt6:FOK Tryz.prog 206 qE0:=mkC (qA qD qh5) qC Tryz.func206 6 (by kernel_rfl) (by kernel_rfl) (fun x=>by kernel_rfl)
noncomputable abbrev qyK:qI:=⟨[yT4,yT5],[.ow yT11, .im yT4],qbO⟩
theorem qAt:FOK Tryz.prog 204 qyK:=mkC (qA (qA (qA (qA (qA qD qh3) qmU) qt6) qjH) qdF) qC Tryz.func204 16 (by kernel_rfl) (by kernel_rfl) (fun x=>by kernel_rfl)
noncomputable abbrev qyH:qI:=⟨[(.sl yT4)],[.im yT14],qe9⟩
theorem qAs:FOK Tryz.prog 297 qyH:=mkC qD qC Tryz.func297 4 (by kernel_rfl) (by kernel_rfl) (fun x=>by kernel_rfl)
noncomputable abbrev qyG:qI:=⟨[(.sl yT4)],[.ow yT11, .im yT4],qe8⟩
theorem qAr:FOK Tryz.prog 205 qyG:=mkC (qA (qA qD qmT) qAs) qC Tryz.func205 11 (by kernel_rfl) (by kernel_rfl) (fun x=>by kernel_rfl)
noncomputable abbrev qBL:qI:=⟨[yT4],[.im (.str)],qiY⟩
theorem qDF:FOK Tryz.prog 207 qBL:=mkC (qA qD qdF) qC Tryz.func207 5 (by kernel_rfl) (by kernel_rfl) (fun x=>by kernel_rfl)
noncomputable abbrev qyE:qI:=⟨[yT13],[.ow yT11, .im yT4],qe6⟩
theorem qAp:FOK Tryz.prog 97 qyE:=mkC (qA (qA (qA (qA (qA qD qDF) qt6) qAr) qAt) qAq) qC Tryz.func97 14 (by kernel_rfl) (by kernel_rfl) (fun x=>by kernel_rfl)
noncomputable abbrev qrL:qI:=⟨[yT4,yT4],[.ow yT11],qX⟩
theorem qt0:FOK Tryz.prog 339 qrL:=mkC (qA qD qdF) qC Tryz.func339 7 (by kernel_rfl) (by kernel_rfl) (fun x=>by kernel_rfl)
noncomputable abbrev qBX:qI:=⟨[yT11],[.im yT11],qd2⟩
theorem qDN:FOK Tryz.prog 379 qBX:=mkC qD qC Tryz.func379 3 (by kernel_rfl) (by kernel_rfl) (fun x=>by kernel_rfl)
noncomputable abbrev qEY:qI:=⟨[yT5],[.im (.str)],qg6⟩
theorem qGm:FOK Tryz.prog 340 qEY:=mkC (qA qD qDN) qC Tryz.func340 5 (by kernel_rfl) (by kernel_rfl) (fun x=>by kernel_rfl)
noncomputable abbrev qrM:qI:=⟨[yT3],[.im yT13],qaM⟩
theorem qt1:FOK Tryz.prog 265 qrM:=mkC (qA (qA qD qGm) qt0) qC Tryz.func265 4 (by kernel_rfl) (by kernel_rfl) (fun x=>by kernel_rfl)
noncomputable abbrev qxU:qI:=⟨[yT3],[.ow yT11, .im yT4],qbE⟩
theorem qmN:FOK Tryz.prog 171 qxU:=mkC (qA (qA (qA qD qt1) qAp) qAd) qC Tryz.func171 7 (by kernel_rfl) (by kernel_rfl) (fun x=>by kernel_rfl)
noncomputable abbrev qyO:qI:=⟨[yT11],[.im yT4],qfD⟩
theorem qAw:FOK Tryz.prog 306 qyO:=mkC qD qC Tryz.func306 3 (by kernel_rfl) (by kernel_rfl) (fun x=>by kernel_rfl)
noncomputable abbrev qyR:qI:=⟨[.str],[.ow yT11, .im yT4],qbQ⟩
theorem qAx:FOK Tryz.prog 219 qyR:=mkC (qA qD qAw) qC Tryz.func219 8 (by kernel_rfl) (by kernel_rfl) (fun x=>by kernel_rfl)
noncomputable abbrev quQ:qI:=⟨[yT13,yT4],[.im yT4],xE⟩
theorem qvZ:FOK Tryz.prog 220 quQ:=mkC (qA (qA qD qfZ) qt3) qC Tryz.func220 9 (by kernel_rfl) (by kernel_rfl) (fun x=>by kernel_rfl)
noncomputable abbrev qBq:qI:=⟨[yT5],[.im yT3, .im yT4],qiN⟩
theorem qDq:FOK Tryz.prog 102 qBq:=mkC (qA (qA (qA (qA (qA (qA qD qvZ) qAx) qmN) qt3) qDG) z0) qC Tryz.func102 15 (by kernel_rfl) (by kernel_rfl) (fun x=>by kernel_rfl)
noncomputable abbrev qyV:qI:=⟨[yT1,yT1],[.im yT1, .im yT3, .im yT14],xJ⟩
theorem qAB:FOK Tryz.prog 38 qyV:=mkC (qA (qA (qA qD qDq) qDn) qDj) qC Tryz.func38 12 (by kernel_rfl) (by kernel_rfl) (fun x=>by kernel_rfl)
noncomputable abbrev qyU:qI:=⟨[],[.im yT14],qbX⟩
theorem qAA:FOK Tryz.prog 21 qyU:=mkC (qA (qA (qA (qA (qA (qA (qA qD z0) qAB) qAz) qqF) qtW) qfW) qtX) qC Tryz.func21 13 (by kernel_rfl) (by kernel_rfl) (fun x=>by kernel_rfl)
noncomputable abbrev qxZ:qI:=⟨[yT10],[.im yT14],qeY⟩
theorem qAg:FOK Tryz.prog 65 qxZ:=mkC qD qC Tryz.func65 3 (by kernel_rfl) (by kernel_rfl) (fun x=>by kernel_rfl)
noncomputable abbrev qx9:qI:=⟨[yT16],[.im yT14],qe2⟩
theorem qAk:FOK Tryz.prog 134 qx9:=mkC (qA qD qkR) qC Tryz.func134 5 (by kernel_rfl) (by kernel_rfl) (fun x=>by kernel_rfl)
noncomputable abbrev qBz:qI:=⟨[yT2],[.im yT14],qaY⟩
theorem qDx:FOK Tryz.prog 241 qBz:=mkC qD qC Tryz.func241 3 (by kernel_rfl) (by kernel_rfl) (fun x=>by kernel_rfl)
noncomputable abbrev qx4:qI:=⟨[yT6],[.im yT14],qe0⟩
theorem qAi:FOK Tryz.prog 135 qx4:=mkC (qA (qA (qA qD qDx) qo8) qaU) qC Tryz.func135 9 (by kernel_rfl) (by kernel_rfl) (fun x=>by kernel_rfl)
noncomputable abbrev qBr:qI:=⟨[yT4,yT4,yT5],[.im yT14],qdS⟩
theorem qo6:FOK Tryz.prog 208 qBr:=mkC (qA qD qmO) qC Tryz.func208 8 (by kernel_rfl) (by kernel_rfl) (fun x=>by kernel_rfl)
noncomputable abbrev qBu:qI:=⟨[yT12],[.im yT14],qiQ⟩
theorem qDt:FOK Tryz.prog 239 qBu:=mkC qD qC Tryz.func239 3 (by kernel_rfl) (by kernel_rfl) (fun x=>by kernel_rfl)
noncomputable abbrev qxW:qI:=⟨[yT12],[.im yT14],qeW⟩
theorem qAe:FOK Tryz.prog 136 qxW:=mkC (qA (qA qD qDt) qo6) qC Tryz.func136 5 (by kernel_rfl) (by kernel_rfl) (fun x=>by kernel_rfl)
noncomputable abbrev qyD:qI:=⟨[yT20],[.im yT14],qe5⟩
theorem qAo:FOK Tryz.prog 242 qyD:=mkC qD qC Tryz.func242 4 (by kernel_rfl) (by kernel_rfl) (fun x=>by kernel_rfl)
noncomputable abbrev qBI:qI:=⟨[yT20,yT20],[.im yT14],yW⟩
theorem qpB:FOK Tryz.prog 243 qBI:=mkC (qA qD z0) qC Tryz.func243 5 (by kernel_rfl) (by kernel_rfl) (fun x=>by kernel_rfl)
noncomputable abbrev qyB:qI:=⟨[yT7],[.im yT14],qe4⟩
theorem qAm:FOK Tryz.prog 137 qyB:=mkC (qA (qA qD qpB) qAo) qC Tryz.func137 6 (by kernel_rfl) (by kernel_rfl) (fun x=>by kernel_rfl)
noncomputable abbrev qBv:qI:=⟨[yT4],[.im yT14],qdT⟩
theorem qo7:FOK Tryz.prog 112 qBv:=mkC qD qC Tryz.func112 3 (by kernel_rfl) (by kernel_rfl) (fun x=>by kernel_rfl)
noncomputable abbrev qxQ:qI:=⟨[yT0],[.im yT14],qeT⟩
theorem qz9:FOK Tryz.prog 138 qxQ:=mkC (qA qD qo7) qC Tryz.func138 4 (by kernel_rfl) (by kernel_rfl) (fun x=>by kernel_rfl)
noncomputable abbrev qBk:qI:=⟨[yT4],[.im yT4],qnP⟩
theorem qDm:FOK Tryz.prog 244 qBk:=mkC qD qC Tryz.func244 4 (by kernel_rfl) (by kernel_rfl) (fun x=>by kernel_rfl)
noncomputable abbrev qBj:qI:=⟨[yT0],[.im yT14],qiL⟩
theorem qDl:FOK Tryz.prog 245 qBj:=mkC (qA qD qaU) qC Tryz.func245 4 (by kernel_rfl) (by kernel_rfl) (fun x=>by kernel_rfl)
noncomputable abbrev quO:qI:=⟨[yT0],[.im yT14],qcB⟩
theorem qvX:FOK Tryz.prog 139 quO:=mkC (qA (qA (qA qD qDl) qDm) qdE) qC Tryz.func139 5 (by kernel_rfl) (by kernel_rfl) (fun x=>by kernel_rfl)
noncomputable abbrev qxS:qI:=⟨[yT0],[.im yT14],qbB⟩
theorem qAb:FOK Tryz.prog 35 qxS:=mkC (qA (qA (qA (qA (qA (qA (qA (qA qD qvX) qz9) qAm) qAe) qAi) qAk) qdD) qAg) qC Tryz.func35 13 (by kernel_rfl) (by kernel_rfl) (fun x=>by kernel_rfl)
noncomputable abbrev qEE:qI:=⟨[yT10],[.im yT14],qlS⟩
theorem qF6:FOK Tryz.prog 221 qEE:=mkC qD qC Tryz.func221 3 (by kernel_rfl) (by kernel_rfl) (fun x=>by kernel_rfl)
noncomputable abbrev qEH:qI:=⟨[yT6],[.im yT14],qlU⟩
theorem qF9:FOK Tryz.prog 222 qEH:=mkC qD qC Tryz.func222 3 (by kernel_rfl) (by kernel_rfl) (fun x=>by kernel_rfl)
noncomputable abbrev qEJ:qI:=⟨[yT7],[.im yT14],qlV⟩
theorem qGa:FOK Tryz.prog 223 qEJ:=mkC qD qC Tryz.func223 3 (by kernel_rfl) (by kernel_rfl) (fun x=>by kernel_rfl)
noncomputable abbrev qB0:qI:=⟨[(.sl yT5),yT4],[.im yT4],qi6⟩
theorem qDP:FOK Tryz.prog 224 qB0:=mkC qD qC Tryz.func224 7 (by kernel_rfl) (by kernel_rfl) (fun x=>by kernel_rfl)
noncomputable abbrev qEC:qI:=⟨[yT0],[.im yT14],qgW⟩
theorem qF4:FOK Tryz.prog 103 qEC:=mkC (qA (qA (qA (qA qD qDP) qGa) qF9) qF6) qC Tryz.func103 8 (by kernel_rfl) (by kernel_rfl) (fun x=>by kernel_rfl)
noncomputable abbrev qER:qI:=⟨[yT9,yT4],[.im yT14],qg1⟩
theorem qGg:FOK Tryz.prog 104 qER:=mkC qD qC Tryz.func104 6 (by kernel_rfl) (by kernel_rfl) (fun x=>by kernel_rfl)
noncomputable abbrev qEA:qI:=⟨[yT1],[.im yT14],qlP⟩
theorem qF3:FOK Tryz.prog 22 qEA:=mkC (qA (qA (qA qD qGg) qF4) qAb) qC Tryz.func22 5 (by kernel_rfl) (by kernel_rfl) (fun x=>by kernel_rfl)
noncomputable abbrev qrK:qI:=⟨[yT0,yT4,yT5],[.ow yT11],kW⟩
theorem qtY:FOK Tryz.prog 41 qrK:=mkC (qA (qA qD qtZ) qh2) qC Tryz.func41 7 (by kernel_rfl) (by kernel_rfl) (fun x=>by kernel_rfl)
noncomputable abbrev qET:qI:=⟨[yT5],[.ow yT11],qlY⟩
theorem qGh:FOK Tryz.prog 44 qET:=mkC (qA qD qkS) qC Tryz.func44 3 (by kernel_rfl) (by kernel_rfl) (fun x=>by kernel_rfl)
noncomputable abbrev qxY:qI:=⟨[yT4,yT4,yT5],[.im yT12, .im yT4],qeX⟩
theorem qAf:FOK Tryz.prog 98 qxY:=mkC (qA qD qo6) qC Tryz.func98 9 (by kernel_rfl) (by kernel_rfl) (fun x=>by kernel_rfl)
noncomputable abbrev qEK:qI:=⟨[yT7],[.im yT14],qr9⟩
theorem qGb:FOK Tryz.prog 378 qEK:=mkC qD qC Tryz.func378 3 (by kernel_rfl) (by kernel_rfl) (fun x=>by kernel_rfl)
noncomputable abbrev qBH:qI:=⟨[yT7],[.im yT7, .im yT4, .im yT4],qiW⟩
theorem qDC:FOK Tryz.prog 334 qBH:=mkC (qA qD qGb) qC Tryz.func334 7 (by kernel_rfl) (by kernel_rfl) (fun x=>by kernel_rfl)
noncomputable abbrev qEO:qI:=⟨[yT9,yT5,yT5],[.im yT9, .ow yT11],qlX⟩
theorem qGe:FOK Tryz.prog 335 qEO:=mkC (qA (qA qD qt4) qmV) qC Tryz.func335 9 (by kernel_rfl) (by kernel_rfl) (fun x=>by kernel_rfl)
noncomputable abbrev qx1:qI:=⟨[yT8],[.ow yT11, .im yT4],qeZ⟩
theorem qAh:FOK Tryz.prog 336 qx1:=mkC (qA (qA qD qfX) qmQ) qC Tryz.func336 7 (by kernel_rfl) (by kernel_rfl) (fun x=>by kernel_rfl)
noncomputable abbrev qBK:qI:=⟨[yT5],[.ow yT11, .im yT4],qiX⟩
theorem qDE:FOK Tryz.prog 337 qBK:=mkC qD qC Tryz.func337 4 (by kernel_rfl) (by kernel_rfl) (fun x=>by kernel_rfl)
noncomputable abbrev qBi:qI:=⟨[yT1,yT8,yT5],[.im yT1, .im yT4],qaX⟩
theorem qo4:FOK Tryz.prog 260 qBi:=mkC (qA (qA (qA (qA (qA qD qDE) qAh) qGe) qDC) qfX) qC Tryz.func260 19 (by kernel_rfl) (by kernel_rfl) (fun x=>by kernel_rfl)
noncomputable abbrev qBm:qI:=⟨[yT1,yT5],[.im yT1, .im yT4],qiM⟩
theorem qDo:FOK Tryz.prog 165 qBm:=mkC (qA (qA (qA qD qo4) qh2) qdE) qC Tryz.func165 9 (by kernel_rfl) (by kernel_rfl) (fun x=>by kernel_rfl)
noncomputable abbrev qBs:qI:=⟨[yT4],[.im yT4],qiO⟩
theorem qDr:FOK Tryz.prog 170 qBs:=mkC qD qC Tryz.func170 3 (by kernel_rfl) (by kernel_rfl) (fun x=>by kernel_rfl)
noncomputable abbrev qxR:qI:=⟨[yT1,yT4,yT5],[.im yT1, .im yT4],qeU⟩
theorem qAa:FOK Tryz.prog 172 qxR:=mkC (qA (qA (qA qD qo4) qo5) qdD) qC Tryz.func172 10 (by kernel_rfl) (by kernel_rfl) (fun x=>by kernel_rfl)
noncomputable abbrev qpP:qI:=⟨[yT1,yT3],[.im yT1],wF⟩
theorem qqG:FOK Tryz.prog 64 qpP:=mkC (qA (qA (qA (qA (qA qD qAa) qmN) qDr) qDo) qAf) qC Tryz.func64 13 (by kernel_rfl) (by kernel_rfl) (fun x=>by kernel_rfl)
noncomputable abbrev qBD:qI:=⟨[yT6],[.im yT4, .im yT4],qiU⟩
theorem qDz:FOK Tryz.prog 113 qBD:=mkC (qA qD qaU) qC Tryz.func113 5 (by kernel_rfl) (by kernel_rfl) (fun x=>by kernel_rfl)
noncomputable abbrev qEz:qI:=⟨[yT1,yT5],[.im yT1, .im yT4],qlN⟩
theorem qF2:FOK Tryz.prog 24 qEz:=mkC (qA (qA (qA (qA (qA (qA qD qmR) qDz) qo7) qqG) qGh) qtY) qC Tryz.func24 12 (by kernel_rfl) (by kernel_rfl) (fun x=>by kernel_rfl)
noncomputable abbrev qrN:qI:=⟨[yT2,yT2],[.im yT14],kX⟩
theorem qt2:FOK Tryz.prog 144 qrN:=mkC (qA qD z0) qC Tryz.func144 5 (by kernel_rfl) (by kernel_rfl) (fun x=>by kernel_rfl)
noncomputable abbrev qBC:qI:=⟨[yT6,yT6],[.im yT14],qiT⟩
theorem qDy:FOK Tryz.prog 40 qBC:=mkC (qA qD qt2) qC Tryz.func40 8 (by kernel_rfl) (by kernel_rfl) (fun x=>by kernel_rfl)
noncomputable abbrev qBZ:qI:=⟨[(.sl yT5),(.sl yT5)],[.im yT14],qi5⟩
theorem qDO:FOK Tryz.prog 86 qBZ:=mkC qD qC Tryz.func86 6 (by kernel_rfl) (by kernel_rfl) (fun x=>by kernel_rfl)
noncomputable abbrev qBw:qI:=⟨[yT10,yT10],[.im yT14],qiR⟩
theorem qDu:FOK Tryz.prog 145 qBw:=mkC (qA qD z0) qC Tryz.func145 5 (by kernel_rfl) (by kernel_rfl) (fun x=>by kernel_rfl)
noncomputable abbrev qBt:qI:=⟨[yT12,yT12],[.im yT14],qiP⟩
theorem qDs:FOK Tryz.prog 146 qBt:=mkC (qA qD z0) qC Tryz.func146 5 (by kernel_rfl) (by kernel_rfl) (fun x=>by kernel_rfl)
noncomputable abbrev qBG:qI:=⟨[yT7,yT7],[.im yT14],qiV⟩
theorem qDB:FOK Tryz.prog 147 qBG:=mkC (qA qD qpB) qC Tryz.func147 7 (by kernel_rfl) (by kernel_rfl) (fun x=>by kernel_rfl)
noncomputable abbrev qBh:qI:=⟨[(.sl yT2),(.sl yT2)],[.im yT14],qiK⟩
theorem qDk:FOK Tryz.prog 148 qBh:=mkC (qA qD z0) qC Tryz.func148 6 (by kernel_rfl) (by kernel_rfl) (fun x=>by kernel_rfl)
noncomputable abbrev quP:qI:=⟨[(.sl yT18),(.sl yT18)],[.im yT14],qcC⟩
theorem qvY:FOK Tryz.prog 149 quP:=mkC (qA qD z0) qC Tryz.func149 6 (by kernel_rfl) (by kernel_rfl) (fun x=>by kernel_rfl)
noncomputable abbrev qBn:qI:=⟨[yT0,yT0],[.im yT14],qdR⟩
theorem qDp:FOK Tryz.prog 42 qBn:=mkC (qA (qA (qA (qA (qA (qA (qA (qA qD qvY) qDk) qDB) qDs) qDu) qDO) qDy) z0) qC Tryz.func42 12 (by kernel_rfl) (by kernel_rfl) (fun x=>by kernel_rfl)
noncomputable abbrev qBS:qI:=⟨[yT9,yT9],[.im yT14],qdY⟩
theorem qDK:FOK Tryz.prog 115 qBS:=mkC (qA qD z0) qC Tryz.func115 6 (by kernel_rfl) (by kernel_rfl) (fun x=>by kernel_rfl)
noncomputable abbrev qpQ:qI:=⟨[yT1,yT1],[.im yT14],vN⟩
theorem qqH:FOK Tryz.prog 25 qpQ:=mkC (qA (qA qD qDK) qDp) qC Tryz.func25 7 (by kernel_rfl) (by kernel_rfl) (fun x=>by kernel_rfl)
noncomputable abbrev qpR:qI:=⟨[yT6],[.im yT6],qjQ⟩
theorem qqI:FOK Tryz.prog 119 qpR:=mkC qD qC Tryz.func119 3 (by kernel_rfl) (by kernel_rfl) (fun x=>by kernel_rfl)
noncomputable abbrev qxO:qI:=⟨[yT1],[.im yT1],qeR⟩
theorem qz7:FOK Tryz.prog 27 qxO:=mkC (qA qD qqI) qC Tryz.func27 3 (by kernel_rfl) (by kernel_rfl) (fun x=>by kernel_rfl)
noncomputable abbrev qk9:qI:=⟨[yT1,yT5],[.im yT14],xQ⟩
theorem qmW:FOK Tryz.prog 3 qk9:=mkC (qA (qA (qA (qA (qA (qA (qA qD qz7) qfW) qqH) qF2) qtX) qF3) qAA) qC Tryz.func3 10 (by kernel_rfl) (by kernel_rfl) (fun x=>by kernel_rfl)
end Yp
namespace Yp
open Go
set_option maxRecDepth 100000
set_option maxHeartbeats 2000000
def tn (x n:UInt32):UInt32:=u32 (orI .u32 (n32 (u32 (shrI .u32 (n32 x) (n32 n)))) (n32 (u32 (shlI .u32 (n32 x) (n32 (u32 (isub (n32 (u32 32)) (n32 n))))))))
theorem qcO (x n:UInt32):jI (x,n,())=some (tn x n,()):=rfl
theorem qJO (a b:UInt32):u32 (orI .u32 (n32 a) (n32 b))=u32 (orI .u32 (n32 b) (n32 a)):=by rw [or32,or32,UInt32.or_comm]
theorem qjO {x:UInt32} {k:Int} {n:UInt32} (h1:n64 (u64 (andI .u64 (n64 (u64 k)) (n64 (u64 31))))=n32 (u32 (isub (n32 (u32 32)) (n32 n)))) (h2:n64 (u64 (isub (n64 (u64 32)) (n64 (u64 (andI .u64 (n64 (u64 k)) (n64 (u64 31)))))))=n32 n) :
  qJ (x,k,())=some (tn x n,()):=by
 unfold qJ tn
 dsimp only
 rw [qJO,h2,h1]
theorem r2 (x:UInt32):qJ (x, -2,())=some (tn x (u32 2),()):=qjO (by decide +kernel) (by decide +kernel)
theorem r3 (x:UInt32):qJ (x, -13,())=some (tn x (u32 13),()):=qjO (by decide +kernel) (by decide +kernel)
theorem r4 (x:UInt32):qJ (x, -22,())=some (tn x (u32 22),()):=qjO (by decide +kernel) (by decide +kernel)
theorem r6 (x:UInt32):qJ (x, -6,())=some (tn x (u32 6),()):=qjO (by decide +kernel) (by decide +kernel)
theorem r11 (x:UInt32):qJ (x, -11,())=some (tn x (u32 11),()):=qjO (by decide +kernel) (by decide +kernel)
theorem r25 (x:UInt32):qJ (x, -25,())=some (tn x (u32 25),()):=qjO (by decide +kernel) (by decide +kernel)
theorem r7 (x:UInt32):qJ (x, -7,())=some (tn x (u32 7),()):=qjO (by decide +kernel) (by decide +kernel)
theorem r18 (x:UInt32):qJ (x, -18,())=some (tn x (u32 18),()):=qjO (by decide +kernel) (by decide +kernel)
theorem r17 (x:UInt32):qJ (x, -17,())=some (tn x (u32 17),()):=qjO (by decide +kernel) (by decide +kernel)
theorem r19 (x:UInt32):qJ (x, -19,())=some (tn x (u32 19),()):=qjO (by decide +kernel) (by decide +kernel)
def qMI (a b c d:UInt8):UInt32 :=
 u32 (iadd (n32 (u32 (iadd (n32 (u32 (iadd (n32 (u32 (imul (n32 (u32 (n8 a))) (n32 (u32 16777216))))) (n32 (u32 (imul (n32 (u32 (n8 b))) (n32 (u32 65536)))))))) (n32 (u32 (imul (n32 (u32 (n8 c))) (n32 (u32 256)))))))) (n32 (u32 (n8 d))))
def qOo (a b c d:UInt8):UInt32 :=
 u32 (orI .u32 (n32 (u32 (orI .u32 (n32 (u32 (orI .u32 (n32 (u32 (shlI .u32 (n32 (u32 (n8 a))) (n64 (u64 24))))) (n32 (u32 (shlI .u32 (n32 (u32 (n8 b))) (n64 (u64 16)))))))) (n32 (u32 (shlI .u32 (n32 (u32 (n8 c))) (n64 (u64 8)))))))) (n32 (u32 (n8 d))))
theorem yC {a:Int} (h:0≤a∧a < 4294967296):n32 (u32 a)=a:=by
 show (((BitVec.ofNat 32 ((a % 2 ^ 32).toNat)).toNat:Nat):Int)=a
 rw [BitVec.toNat_ofNat];omega
theorem qgK {a:Nat} (h:a < 4294967296):(u32 (a:Int)).toNat=a:=by
 have:=yC (a:=(a:Int)) (by omega)
 unfold n32 at this;omega
theorem qMH (a b c d:UInt8):qOo a b c d=qMI a b c d:=by
 have ha:=a.toNat_lt;have hb:=b.toNat_lt;have hc:=c.toNat_lt;have hd:=d.toNat_lt
 unfold qOo qMI
 have e1:∀ x:UInt8,n32 (u32 (n8 x))=(x.toNat:Int):=fun x=>by
  have:=x.toNat_lt
  exact yC (a:=(x.toNat:Int)) (by omega)
 have s1:∀ (x:UInt8),shlI .u32 (n32 (u32 (n8 x))) (n64 (u64 24))=((x.toNat*16777216:Nat):Int):=fun x=>by rw [e1];show (x.toNat:Int)*2 ^ 24=_;omega
 have s2:∀ (x:UInt8),shlI .u32 (n32 (u32 (n8 x))) (n64 (u64 16))=((x.toNat*65536:Nat):Int):=fun x=>by rw [e1];show (x.toNat:Int)*2 ^ 16=_;omega
 have s3:∀ (x:UInt8),shlI .u32 (n32 (u32 (n8 x))) (n64 (u64 8))=((x.toNat*256:Nat):Int):=fun x=>by rw [e1];show (x.toNat:Int)*2 ^ 8=_;omega
 have m1:∀ (x:UInt8),imul (n32 (u32 (n8 x))) (n32 (u32 16777216))=((x.toNat*16777216:Nat):Int):=fun x=>by rw [e1,yC (by decide)];show (x.toNat:Int)*16777216=_;omega
 have m2:∀ (x:UInt8),imul (n32 (u32 (n8 x))) (n32 (u32 65536))=((x.toNat*65536:Nat):Int):=fun x=>by rw [e1,yC (by decide)];show (x.toNat:Int)*65536=_;omega
 have m3:∀ (x:UInt8),imul (n32 (u32 (n8 x))) (n32 (u32 256))=((x.toNat*256:Nat):Int):=fun x=>by rw [e1,yC (by decide)];show (x.toNat:Int)*256=_;omega
 rw [s1,s2,s3,m1,m2,m3,or32,or32,or32]
 have d1:(u32 (n8 d)).toNat=d.toNat:=qgK (by omega)
 apply UInt32.toNat_inj.1
 rw [UInt32.toNat_or,UInt32.toNat_or,UInt32.toNat_or,qgK (by omega),qgK (by omega),qgK (by omega),d1]
 have o3:(c.toNat*256) ||| d.toNat=c.toNat*256+d.toNat:=by
  have:=Nat.two_pow_add_eq_or_of_lt (i:=8) (b:=d.toNat) (by omega) c.toNat
  rw [Nat.mul_comm];exact this.symm
 have o2:(b.toNat*65536) ||| (c.toNat*256+d.toNat)=b.toNat*65536+(c.toNat*256+d.toNat):=by
  have:=Nat.two_pow_add_eq_or_of_lt (i:=16) (b:=c.toNat*256+d.toNat) (by omega) b.toNat
  rw [Nat.mul_comm b.toNat];exact this.symm
 have o1:(a.toNat*16777216) ||| (b.toNat*65536+(c.toNat*256+d.toNat))=a.toNat*16777216+(b.toNat*65536+(c.toNat*256+d.toNat)):=by
  have:=Nat.two_pow_add_eq_or_of_lt (i:=24) (b:=b.toNat*65536+(c.toNat*256+d.toNat)) (by omega) a.toNat
  rw [Nat.mul_comm a.toNat];exact this.symm
 rw [Nat.or_assoc,Nat.or_assoc,o3,o2,o1]
 have q1:iadd (n32 (u32 ((a.toNat*16777216:Nat):Int))) (n32 (u32 ((b.toNat*65536:Nat):Int)))=((a.toNat*16777216+b.toNat*65536:Nat):Int):=by
  rw [yC (by omega),yC (by omega)];show (_:Int)+_=_;omega
 rw [q1]
 have q2:iadd (n32 (u32 ((a.toNat*16777216+b.toNat*65536:Nat):Int))) (n32 (u32 ((c.toNat*256:Nat):Int)))=((a.toNat*16777216+b.toNat*65536+c.toNat*256:Nat):Int):=by
  rw [yC (by omega),yC (by omega)];show (_:Int)+_=_;omega
 rw [q2]
 have q3:iadd (n32 (u32 ((a.toNat*16777216+b.toNat*65536+c.toNat*256:Nat):Int))) (n32 (u32 (n8 d)))=((a.toNat*16777216+b.toNat*65536+c.toNat*256+d.toNat:Nat):Int):=by
  rw [yC (by omega),e1];show (_:Int)+_=_;omega
 rw [q3,qgK (by omega)];omega
def mixW (m2 m7 m15 m16:UInt32):UInt32 :=
 u32 (iadd (n32 (u32 (iadd (n32 (u32 (iadd (n32 (u32 (xorI .u32 (n32 (u32 (xorI .u32 (n32 (tn m2 (u32 17))) (n32 (tn m2 (u32 19)))))) (n32 (u32 (shrI .u32 (n32 m2) (n64 (u64 10)))))))) (n32 m7)))) (n32 (u32 (xorI .u32 (n32 (u32 (xorI .u32 (n32 (tn m15 (u32 7))) (n32 (tn m15 (u32 18)))))) (n32 (u32 (shrI .u32 (n32 m15) (n64 (u64 3))))))))))) (n32 m16))
def q8 (b:BB) (i:Nat):UInt8:=b.getD i 0
def q32 (m:List UInt32) (i:Nat):UInt32:=m.getD i 0
def sch (b:BB) (at':Nat):Nat→List UInt32
 | 0=>List.replicate 64 0
 | t+1=>(sch b at' t).set t (if t < 16 then qMI (q8 b (at'+4*t)) (q8 b (at'+4*t+1)) (q8 b (at'+4*t+2)) (q8 b (at'+4*t+3))
   else mixW (q32 (sch b at' t) (t - 2)) (q32 (sch b at' t) (t - 7)) (q32 (sch b at' t) (t - 15)) (q32 (sch b at' t) (t - 16)))
theorem qdK (b:BB) (at':Nat):∀ t,(sch b at' t).length=64
 | 0=>by simp [sch]
 | t+1=>by rw [sch,List.length_set];exact qdK b at' t
theorem qBa {b c:BB} {x y:Nat} (h:∀ i,i < 64→q8 b (x+i)=q8 c (y+i)):∀ t,sch b x t=sch c y t
 | 0=>rfl
 | t+1=>by
  rw [sch,sch,qBa h t]
  by_cases ht:t < 16
  ·rw [if_pos ht,if_pos ht,h (4*t) (by omega),Nat.add_assoc x,Nat.add_assoc x,Nat.add_assoc x,h (4*t+1) (by omega),h (4*t+2) (by omega),h (4*t+3) (by omega)];rfl
  ·rw [if_neg ht,if_neg ht]
theorem i64n {n:Nat} {a:Int} (h:a=(n:Int)) (hn:n≤9223372036854775807):i64 a=(n:Int):=by rw [h];exact zO (by omega) (by omega)
theorem qrC (b:BB) (hb:b.length=64):qiD (b,())=some (sch b 0 64,()):=by
 unfold qiD
 generalize hf:(fun (x_1:Int×List UInt32×Unit)=>_)=f
 have step:∀ t:Nat,t < 64→f ((t:Int),sch b 0 t,())=some (.nx (((t+1:Nat):Int),sch b 0 (t+1),())):=by
  intro t ht
  subst hf
  have hi:i64 (iadd (t:Int) 1)=((t+1:Nat):Int):=i64n (by show (t:Int)+1=_;omega) (by omega)
  refine (qE (by simp (disch:=first | assumption | omega | (dsimp only;omega) | decide) only [go_sem,Int.reduceToNat];omega)).trans ?_
  by_cases h16:t < 16
  ·have e0:i64 (imul 4 (t:Int))=((4*t:Nat):Int):=i64n (by show 4*(t:Int)=_;omega) (by omega)
   have e1:i64 (iadd (i64 (imul 4 (t:Int))) 1)=((4*t+1:Nat):Int):=by rw [e0];exact i64n (by show ((4*t:Nat):Int)+1=_;omega) (by omega)
   have e2:i64 (iadd (i64 (imul 4 (t:Int))) 2)=((4*t+2:Nat):Int):=by rw [e0];exact i64n (by show ((4*t:Nat):Int)+2=_;omega) (by omega)
   have e3:i64 (iadd (i64 (imul 4 (t:Int))) 3)=((4*t+3:Nat):Int):=by rw [e0];exact i64n (by show ((4*t:Nat):Int)+3=_;omega) (by omega)
   refine (qE (by simp (disch:=first | assumption | omega | (dsimp only;omega) | decide) only [go_sem,Int.reduceToNat];omega)).trans ?_
   dsimp only
   rw [e1,e2,e3,e0,hi]
   refine (qH (by simp (disch:=first | assumption | omega | (dsimp only;omega) | decide) only [go_sem,Int.reduceToNat];omega)).trans ((qH (by simp (disch:=first | assumption | omega | (dsimp only;omega) | decide) only [go_sem,Int.reduceToNat];omega)).trans ((qH (by simp (disch:=first | assumption | omega | (dsimp only;omega) | decide) only [go_sem,Int.reduceToNat];omega)).trans ((qH (by simp (disch:=first | assumption | omega | (dsimp only;omega) | decide) only [go_sem,Int.reduceToNat];omega)).trans ((qH (by simp (disch:=first | assumption | omega | (dsimp only;omega) | decide) only [go_sem,Int.reduceToNat];omega)).trans ?_))))
   have hw:=qMH (q8 b (4*t)) (q8 b (4*t+1)) (q8 b (4*t+2)) (q8 b (4*t+3))
   rw [sch,if_pos h16,Nat.zero_add,← hw]
   rfl
  ·have e15:i64 (isub (t:Int) 15)=((t - 15:Nat):Int):=i64n (by show (t:Int) - 15=_;omega) (by omega)
   have e2:i64 (isub (t:Int) 2)=((t - 2:Nat):Int):=i64n (by show (t:Int) - 2=_;omega) (by omega)
   have e7:i64 (isub (t:Int) 7)=((t - 7:Nat):Int):=i64n (by show (t:Int) - 7=_;omega) (by omega)
   have e16:i64 (isub (t:Int) 16)=((t - 16:Nat):Int):=i64n (by show (t:Int) - 16=_;omega) (by omega)
   refine (qB (by simp (disch:=first | assumption | omega | (dsimp only;omega) | decide) only [go_sem,Int.reduceToNat];omega)).trans ?_
   dsimp only
   rw [e15,e2,e7,e16,hi]
   refine (qH (by simp (disch:=first | assumption | omega | (dsimp only;omega) | decide) only [go_sem,Int.reduceToNat];omega)).trans ?_
   refine (qH (by simp (disch:=first | assumption | omega | (dsimp only;omega) | decide) only [go_sem,Int.reduceToNat];omega)).trans ?_
   rw [r7]
   refine (qF rfl).trans ?_
   rw [r18]
   refine (qF rfl).trans ?_
   rw [r17]
   refine (qF rfl).trans ?_
   rw [r19]
   refine (qF rfl).trans ?_
   refine (qH (by simp (disch:=first | assumption | omega | (dsimp only;omega) | decide) only [go_sem,Int.reduceToNat];omega)).trans ?_
   refine (qH (by simp (disch:=first | assumption | omega | (dsimp only;omega) | decide) only [go_sem,Int.reduceToNat];omega)).trans ?_
   refine (qH (by simp (disch:=first | assumption | omega | (dsimp only;omega) | decide) only [go_sem,Int.reduceToNat];omega)).trans ?_
   rw [sch,if_neg h16]
   rfl
 have hend:∀ m,f (((64:Nat):Int),m,())=some (.ex 0 (((64:Nat):Int),m,())):=by subst hf;intro m;exact qB rfl
 have hloop:loop f (((0:Nat):Int),sch b 0 0,())=some (.ex 0 (((64:Nat):Int),sch b 0 64,())) :=
  (qN (f:=f) (fun t=>((t:Int),sch b 0 t,())) 64 step 0 (Nat.zero_le _)).trans (qT (hend _))
 generalize hs:sch b 0 64=m at hloop
 refine (qZ (show loop f _=_ from hloop)).trans ?_
 rfl
end Yp
namespace Yp
open Go
set_option maxRecDepth 100000
set_option maxHeartbeats 2000000
abbrev R8:=UInt32×UInt32×UInt32×UInt32×UInt32×UInt32×UInt32×UInt32
def t1D (k m h g f e:UInt32):UInt32 :=
 u32 (iadd (n32 (u32 (iadd (n32 (u32 (iadd (n32 (u32 (iadd (n32 h) (n32 (u32 (xorI .u32 (n32 (u32 (xorI .u32 (n32 (tn e (u32 6))) (n32 (tn e (u32 11)))))) (n32 (tn e (u32 25))))))))) (n32 (u32 (xorI .u32 (n32 (u32 (andI .u32 (n32 e) (n32 f)))) (n32 (u32 (andI .u32 (n32 (u32 (xorI .u32 4294967295 (n32 e)))) (n32 g)))))))))) (n32 k)))) (n32 m))
def t2D (c b a:UInt32):UInt32 :=
 u32 (iadd (n32 (u32 (xorI .u32 (n32 (u32 (xorI .u32 (n32 (tn a (u32 2))) (n32 (tn a (u32 13)))))) (n32 (tn a (u32 22)))))) (n32 (u32 (xorI .u32 (n32 (u32 (xorI .u32 (n32 (u32 (andI .u32 (n32 a) (n32 b)))) (n32 (u32 (andI .u32 (n32 a) (n32 c))))))) (n32 (u32 (andI .u32 (n32 b) (n32 c))))))))
def nxt (k m:UInt32) (s:R8):R8 :=
 (s.2.1,s.2.2.1,s.2.2.2.1,u32 (iadd (n32 s.2.2.2.2.1) (n32 (t1D k m s.1 s.2.1 s.2.2.1 s.2.2.2.1))),s.2.2.2.2.2.1,s.2.2.2.2.2.2.1,s.2.2.2.2.2.2.2,
  u32 (iadd (n32 (t1D k m s.1 s.2.1 s.2.2.1 s.2.2.2.1)) (n32 (t2D s.2.2.2.2.2.1 s.2.2.2.2.2.2.1 s.2.2.2.2.2.2.2))))
def rounds (ms:List UInt32) (s:R8):Nat→R8
 | 0=>s
 | t+1=>nxt (q32 qgJ t) (q32 ms t) (rounds ms s t)
def r8L (s:R8):List UInt32:=[s.2.2.2.2.2.2.2,s.2.2.2.2.2.2.1,s.2.2.2.2.2.1,s.2.2.2.2.1,s.2.2.2.1,s.2.2.1,s.2.1,s.1]
def addL (w:List UInt32) (s:R8):List UInt32 :=
  [u32 (iadd (n32 (q32 w 0)) (n32 s.2.2.2.2.2.2.2)),u32 (iadd (n32 (q32 w 1)) (n32 s.2.2.2.2.2.2.1)),u32 (iadd (n32 (q32 w 2)) (n32 s.2.2.2.2.2.1)),u32 (iadd (n32 (q32 w 3)) (n32 s.2.2.2.2.1)),
   u32 (iadd (n32 (q32 w 4)) (n32 s.2.2.2.1)),u32 (iadd (n32 (q32 w 5)) (n32 s.2.2.1)),u32 (iadd (n32 (q32 w 6)) (n32 s.2.1)),u32 (iadd (n32 (q32 w 7)) (n32 s.1))]
def ofL (w:List UInt32):R8:=(q32 w 7,q32 w 6,q32 w 5,q32 w 4,q32 w 3,q32 w 2,q32 w 1,q32 w 0)
def quL (w:List UInt32) (b:BB) (at':Nat):List UInt32:=addL w (rounds (sch b at' 64) (ofL w) 64)
theorem eight {α:Type} {w:List α} (h:w.length=8):∃ a b c d e f g i,w=[a,b,c,d,e,f,g,i]:=by
 match w,h with
 | [a,b,c,d,e,f,g,i],_=>exact ⟨a,b,c,d,e,f,g,i,rfl⟩
theorem qj6 {b c:BB} {x y:Nat} (h:∀ i,i < 64→q8 b (x+i)=q8 c (y+i)) (w:List UInt32):quL w b x=quL w c y:=by unfold quL;rw [qBa h]
theorem qjJ (w:List UInt32) (hw:w.length=8) (b:BB) (hb:b.length=64):qgN (w,b,())=some (quL w b 0,0,()):=by
 unfold qgN
 refine (qB (by simp (disch:=first | assumption | omega | (dsimp only;omega) | decide) only [go_sem,Int.reduceToNat];omega)).trans ?_
 dsimp only
 rw [qrC b hb]
 have hm:=qdK b 0 64
 unfold quL
 generalize sch b 0 64=m at hm
 refine (qF rfl).trans ?_
 obtain ⟨w0,w1,w2,w3,w4,w5,w6,w7,rfl⟩:=eight hw
 generalize hf:(fun (x:Int×List UInt32×Unit)=>(_:Option (LS (Int×List UInt32×Unit) (List UInt32×Int×Unit))))=f
 obtain ⟨s,hs⟩:∃ s,s=ofL [w0,w1,w2,w3,w4,w5,w6,w7]:=⟨_,rfl⟩
 have step:∀ t:Nat,t < 64→f ((t:Int),r8L (rounds m s t),())=some (.nx (((t+1:Nat):Int),r8L (rounds m s (t+1)),())):=by
  intro t ht
  subst hf
  have hi:i64 (iadd (t:Int) 1)=((t+1:Nat):Int):=i64n (by show (t:Int)+1=_;omega) (by omega)
  rw [show rounds m s (t+1)=nxt (q32 qgJ t) (q32 m t) (rounds m s t) from rfl]
  generalize rounds m s t=r
  obtain ⟨h,g,f,e,d,c,b,a⟩:=r
  refine (qE (by simp (disch:=first | assumption | omega | (dsimp only;omega) | decide) only [go_sem,Int.reduceToNat];omega)).trans ?_
  dsimp only [r8L]
  rw [hi]
  refine (qH (by simp (disch:=first | assumption | omega | (dsimp only;omega) | decide) only [go_sem,Int.reduceToNat];omega)).trans ?_
  refine (qH rfl).trans ?_
  refine (qH rfl).trans ?_
  rw [show nth [a,b,c,d,e,f,g,h] (nat 4) (u32 0)=e from rfl,r6]
  refine (qF rfl).trans ?_
  rw [r11]
  refine (qF rfl).trans ?_
  rw [r25]
  refine (qF rfl).trans ?_
  rw [show nth [a,b,c,d,e,f,g,h] (nat 0) (u32 0)=a from rfl,r2]
  refine (qF rfl).trans ?_
  rw [r3]
  refine (qF rfl).trans ?_
  rw [r4]
  refine (qF rfl).trans ?_
  refine (qH rfl).trans ?_
  refine (qH rfl).trans ?_
  refine (qH rfl).trans ?_
  refine (qH (by simp (disch:=first | assumption | omega | (dsimp only;omega) | decide) only [go_sem,Int.reduceToNat];omega)).trans ?_
  refine (qH rfl).trans ?_
  refine (qH rfl).trans ?_
  refine (qH rfl).trans ?_
  refine (qH rfl).trans ?_
  refine (qH rfl).trans ?_
  refine (qH rfl).trans ?_
  refine (qH rfl).trans ?_
  refine (qH rfl).trans ?_
  refine (qH rfl).trans ?_
  rfl
 have hend:∀ v,f (((64:Nat):Int),v,())=some (.ex 0 (((64:Nat):Int),v,())):=by subst hf;intro v;exact qB rfl
 have hloop:loop f (((0:Nat):Int),r8L (rounds m s 0),())=some (.ex 0 (((64:Nat):Int),r8L (rounds m s 64),())) :=
  (qN (f:=f) (fun t=>((t:Int),r8L (rounds m s t),())) 64 step 0 (Nat.zero_le _)).trans (qT (hend _))
 have h0:r8L (rounds m s 0)=[w0,w1,w2,w3,w4,w5,w6,w7]:=by rw [hs];rfl
 rw [h0] at hloop
 rw [← hs]
 generalize rounds m s 64=r at hloop
 obtain ⟨h,g,f',e,d,c,b',a⟩:=r
 refine (qZ (show loop f (0,[w0,w1,w2,w3,w4,w5,w6,w7],())=_ from hloop)).trans ?_
 refine (qH g62).trans ?_
 refine (qZ (qhJ (r := .ex 2 (((8:Nat):Int),addL [w0,w1,w2,w3,w4,w5,w6,w7] (h,g,f',e,d,c,b',a),())) 9 rfl)).trans ?_
 rfl
theorem qg2 (w:List UInt32) (hw:w.length=8) (b:BB) (n:Nat) (hb:n+64≤b.length) (hl:b.length≤4611686018427387904):qd1 (w,b,(n:Int),qgJ,())=some (quL w b n,()):=by
 unfold qd1
 refine (qH (by decide)).trans ?_
 generalize hf:(fun (x_1:Int×List UInt32×Unit)=>(_:Option (LS (Int×List UInt32×Unit) (List UInt32×Unit))))=f
 have step:∀ t:Nat,t < 16→f ((t:Int),sch b n t,())=some (.nx (((t+1:Nat):Int),sch b n (t+1),())):=by
  intro t ht
  subst hf
  have hi:i64 (iadd (t:Int) 1)=((t+1:Nat):Int):=i64n (by show (t:Int)+1=_;omega) (by omega)
  have hm:=qdK b n t
  have e4:i64 (imul 4 (t:Int))=((4*t:Nat):Int):=i64n (by show 4*(t:Int)=_;omega) (by omega)
  have e0:i64 (iadd (n:Int) (i64 (imul 4 (t:Int))))=((n+4*t:Nat):Int):=by rw [e4];exact i64n (by show (n:Int)+((4*t:Nat):Int)=_;omega) (by omega)
  have e1:i64 (iadd (i64 (iadd (n:Int) (i64 (imul 4 (t:Int))))) 1)=((n+4*t+1:Nat):Int):=by rw [e0];exact i64n (by show ((n+4*t:Nat):Int)+1=_;omega) (by omega)
  have e2:i64 (iadd (i64 (iadd (n:Int) (i64 (imul 4 (t:Int))))) 2)=((n+4*t+2:Nat):Int):=by rw [e0];exact i64n (by show ((n+4*t:Nat):Int)+2=_;omega) (by omega)
  have e3:i64 (iadd (i64 (iadd (n:Int) (i64 (imul 4 (t:Int))))) 3)=((n+4*t+3:Nat):Int):=by rw [e0];exact i64n (by show ((n+4*t:Nat):Int)+3=_;omega) (by omega)
  refine (qE (by simp (disch:=first | assumption | omega | (dsimp only;omega) | decide) only [go_sem,Int.reduceToNat];omega)).trans ?_
  dsimp only
  rw [e1,e2,e3,e0,hi]
  refine (qH (by simp (disch:=first | assumption | omega | (dsimp only;omega) | decide) only [go_sem,Int.reduceToNat];omega)).trans ?_
  refine (qH (by simp (disch:=first | assumption | omega | (dsimp only;omega) | decide) only [go_sem,Int.reduceToNat];omega)).trans ?_
  refine (qH (by simp (disch:=first | assumption | omega | (dsimp only;omega) | decide) only [go_sem,Int.reduceToNat];omega)).trans ?_
  refine (qH (by simp (disch:=first | assumption | omega | (dsimp only;omega) | decide) only [go_sem,Int.reduceToNat];omega)).trans ?_
  refine (qH (by simp (disch:=first | assumption | omega | (dsimp only;omega) | decide) only [go_sem,Int.reduceToNat];omega)).trans ?_
  rw [sch,if_pos ht]
  rfl
 have hend:∀ v,f (((16:Nat):Int),v,())=some (.ex 0 (((16:Nat):Int),v,())):=by subst hf;intro v;exact qB rfl
 have hloop:loop f (((0:Nat):Int),sch b n 0,())=some (.ex 0 (((16:Nat):Int),sch b n 16,())) :=
  (qN (f:=f) (fun t=>((t:Int),sch b n t,())) 16 step 0 (Nat.zero_le _)).trans (qT (hend _))
 refine (qZ (show loop f (0,rep (nat 64) (u32 0),())=_ from hloop)).trans ?_
 clear hloop hend step
 refine (qH g62).trans ?_
 dsimp only
 clear hf f
 generalize hf:(fun (x:Int×List UInt32×Unit)=>(_:Option (LS (Int×List UInt32×Unit) (List UInt32×Unit))))=f
 have step:∀ t:Nat,16≤t→t < 64→f ((t:Int),sch b n t,())=some (.nx (((t+1:Nat):Int),sch b n (t+1),())):=by
  intro t h16 ht
  subst hf
  have hi:i64 (iadd (t:Int) 1)=((t+1:Nat):Int):=i64n (by show (t:Int)+1=_;omega) (by omega)
  have hm:=qdK b n t
  have e15:i64 (isub (t:Int) 15)=((t - 15:Nat):Int):=i64n (by show (t:Int) - 15=_;omega) (by omega)
  have e2:i64 (isub (t:Int) 2)=((t - 2:Nat):Int):=i64n (by show (t:Int) - 2=_;omega) (by omega)
  have e7:i64 (isub (t:Int) 7)=((t - 7:Nat):Int):=i64n (by show (t:Int) - 7=_;omega) (by omega)
  have e16:i64 (isub (t:Int) 16)=((t - 16:Nat):Int):=i64n (by show (t:Int) - 16=_;omega) (by omega)
  refine (qE (by simp (disch:=first | assumption | omega | (dsimp only;omega) | decide) only [go_sem,Int.reduceToNat];omega)).trans ?_
  dsimp only
  rw [e15,e2,e7,e16,hi]
  refine (qH (by simp (disch:=first | assumption | omega | (dsimp only;omega) | decide) only [go_sem,Int.reduceToNat];omega)).trans ?_
  refine (qH (by simp (disch:=first | assumption | omega | (dsimp only;omega) | decide) only [go_sem,Int.reduceToNat];omega)).trans ?_
  rw [qcO]
  refine (qF rfl).trans ?_
  rw [qcO]
  refine (qF rfl).trans ?_
  rw [qcO]
  refine (qF rfl).trans ?_
  rw [qcO]
  refine (qF rfl).trans ?_
  refine (qH (by simp (disch:=first | assumption | omega | (dsimp only;omega) | decide) only [go_sem,Int.reduceToNat];omega)).trans ?_
  refine (qH (by simp (disch:=first | assumption | omega | (dsimp only;omega) | decide) only [go_sem,Int.reduceToNat];omega)).trans ?_
  refine (qH (by simp (disch:=first | assumption | omega | (dsimp only;omega) | decide) only [go_sem,Int.reduceToNat];omega)).trans ?_
  rw [sch,if_neg (by omega)]
  rfl
 have hend:∀ v,f (((64:Nat):Int),v,())=some (.ex 2 (((64:Nat):Int),v,())):=by subst hf;intro v;exact qB rfl
 have hloop:loop f (((16:Nat):Int),sch b n 16,())=some (.ex 2 (((64:Nat):Int),sch b n 64,())) :=
  (qN (f:=f) (fun t=>(((16+t:Nat):Int),sch b n (16+t),())) 48 (fun t ht=>step (16+t) (by omega) (by omega)) 0 (Nat.zero_le _)).trans (qT (hend _))
 refine (qZ (show loop f (16,sch b n 16,())=_ from hloop)).trans ?_
 clear hloop hend step hf f
 refine (qH g62).trans ?_
 have hm:=qdK b n 64
 unfold quL
 generalize sch b n 64=m at hm
 obtain ⟨w0,w1,w2,w3,w4,w5,w6,w7,rfl⟩:=eight hw
 refine (qH rfl).trans ((qH rfl).trans ((qH rfl).trans ((qH rfl).trans ((qH rfl).trans ((qH rfl).trans ((qH rfl).trans ((qH rfl).trans ?_)))))))
 dsimp only
 generalize hf:(fun (x_1:UInt32×UInt32×UInt32×UInt32×UInt32×UInt32×UInt32×UInt32×Int×Unit)=>(_:Option (LS (UInt32×UInt32×UInt32×UInt32×UInt32×UInt32×UInt32×UInt32×Int×Unit) (List UInt32×Unit))))=f
 obtain ⟨s,hs⟩:∃ s,s=ofL [w0,w1,w2,w3,w4,w5,w6,w7]:=⟨_,rfl⟩
 let st:R8→Nat→UInt32×UInt32×UInt32×UInt32×UInt32×UInt32×UInt32×UInt32×Int×Unit:=fun r t=>(r.1,r.2.1,r.2.2.1,r.2.2.2.1,r.2.2.2.2.1,r.2.2.2.2.2.1,r.2.2.2.2.2.2.1,r.2.2.2.2.2.2.2,(t:Int),())
 have step:∀ t:Nat,t < 64→f (st (rounds m s t) t)=some (.nx (st (rounds m s (t+1)) (t+1))):=by
  intro t ht
  subst hf
  have hi:i64 (iadd (t:Int) 1)=((t+1:Nat):Int):=i64n (by show (t:Int)+1=_;omega) (by omega)
  have hk:(qgJ:List UInt32).length=64:=rfl
  rw [show rounds m s (t+1)=nxt (q32 qgJ t) (q32 m t) (rounds m s t) from rfl]
  generalize rounds m s t=r
  obtain ⟨h,g,f,e,d,c,b,a⟩:=r
  dsimp only [st]
  refine (qE (by simp (disch:=first | assumption | omega | (dsimp only;omega) | decide) only [go_sem,Int.reduceToNat];omega)).trans ?_
  rw [hi,qcO]
  refine (qF rfl).trans ?_
  rw [qcO]
  refine (qF rfl).trans ?_
  rw [qcO]
  refine (qF rfl).trans ?_
  refine (qH (by simp (disch:=first | assumption | omega | (dsimp only;omega) | decide) only [go_sem,Int.reduceToNat];omega)).trans ?_
  refine (qH (by simp (disch:=first | assumption | omega | (dsimp only;omega) | decide) only [go_sem,Int.reduceToNat];omega)).trans ?_
  rw [qcO]
  refine (qF rfl).trans ?_
  rw [qcO]
  refine (qF rfl).trans ?_
  rw [qcO]
  refine (qF rfl).trans ?_
  rfl
 have hend:∀ r,f (st r 64)=some (.ex 4 (st r 64)):=by subst hf;intro v;exact qB rfl
 have hloop:loop f (st (rounds m s 0) 0)=some (.ex 4 (st (rounds m s 64) 64)) :=
  (qN (f:=f) (fun t=>st (rounds m s t) t) 64 step 0 (Nat.zero_le _)).trans (qT (hend _))
 rw [show rounds m s 0=s from rfl] at hloop
 rw [← hs]
 generalize rounds m s 64=r at hloop
 obtain ⟨h,g,f',e,d,c,b',a⟩:=r
 rw [hs] at hloop
 refine (qZ (show loop f (w7,w6,w5,w4,w3,w2,w1,w0,0,())=_ from hloop)).trans ?_
 refine (qH g62).trans ?_
 refine (qH rfl).trans ((qH rfl).trans ((qH rfl).trans ((qH rfl).trans ((qH rfl).trans ((qH rfl).trans ((qH rfl).trans ((qH rfl).trans ?_)))))))
 rfl
end Yp
namespace Yp
open Go
set_option maxRecDepth 100000
set_option maxHeartbeats 2000000
def eat (w:List UInt32) (l:BB):Nat→List UInt32
 | 0=>w
 | i+1=>quL (eat w l i) l (64*i)
theorem y5 {w:List UInt32} (hw:w.length=8) (l:BB):∀ i,(eat w l i).length=8
 | 0=>hw
 | _+1=>rfl
theorem qJC (l:BB) (k i:Nat):q8 (l.drop k) i=q8 l (k+i):=by
 unfold q8;rw [List.getD_eq_getElem?_getD,List.getElem?_drop,← List.getD_eq_getElem?_getD]
theorem qM6 (l:BB) {k i:Nat} (h:i < k):q8 (l.take k) i=q8 l i:=by
 unfold q8;rw [List.getD_eq_getElem?_getD,List.getElem?_take_of_lt h,← List.getD_eq_getElem?_getD]
theorem qAZ (w:List UInt32) (l:BB) (k:Nat):quL w ((l.drop k).take 64) 0=quL w l k :=
 qj6 (fun i hi=>by rw [Nat.zero_add,qM6 _ hi,qJC]) w
theorem qDc {l m:BB} (w:List UInt32):∀ {i},(∀ j,j < 64*i→q8 l j=q8 m j)→eat w l i=eat w m i
 | 0,_=>rfl
 | i+1,h=>by
  rw [eat,eat,qDc w fun j hj=>h j (by omega)]
  exact qj6 (fun j hj=>h _ (by omega)) _
theorem qKF (w:List UInt32) (l:BB) (i:Nat):∀ j,eat w l (i+j)=eat (eat w l i) (l.drop (64*i)) j
 | 0=>rfl
 | j+1=>by
  rw [← Nat.add_assoc,eat,eat,qKF w l i j]
  exact qj6 (fun k _=>by rw [qJC];congr 1;omega) _
abbrev HT:=List UInt32×Int×BB×Unit
def putD (h:HT) (b:BB):HT :=
 (eat h.1 (h.2.2.1++b) ((h.2.2.1++b).length / 64),h.2.1+(b.length:Int),(h.2.2.1++b).drop (64*((h.2.2.1++b).length / 64)),())
theorem cpy2 (r b:BB):cpy (cpy (rep (r.length+b.length) (u8 0)) 0 (ln (rep (r.length+b.length) (u8 0))) r) r.length (r.length+b.length - r.length) b=r++b:=by
 unfold cpy rep ln
 rw [List.length_replicate,List.take_zero,List.nil_append,List.take_of_length_le (show r.length≤r.length+b.length by omega),Nat.zero_add,Nat.min_eq_right (show r.length≤r.length+b.length by omega),List.drop_replicate,
  List.take_left,Nat.add_sub_cancel_left,List.take_of_length_le (Nat.le_refl _),Nat.min_self,List.drop_of_length_le (by simp),List.append_nil]
theorem qKd:qi4 ()=some (qgJ,()):=rfl
theorem qA6 (H:List UInt32) (hH:H.length=8) (N:Int) (r b:BB) (hN:0≤N) (hb:N+(b.length:Int)≤1125899906842624) (hr:r.length≤64) (hm:b.length≤1000000000):qeM ((H,N,r,()),b,())=some (putD (H,N,r,()) b,()):=by
 unfold qeM
 have e0:i64 (isub 1125899906842624 N)=1125899906842624 - N:=zO (by show -9223372036854775808≤(1125899906842624:Int) - N;omega) (by show (1125899906842624:Int) - N≤9223372036854775807;omega)
 dsimp only
 rw [e0]
 refine (qB (by simp (disch:=first | assumption | omega | (dsimp only;omega) | decide) only [go_sem,Int.reduceToNat];omega)).trans ?_
 have e1:i64 (iadd (len r) (len b))=((r.length+b.length:Nat):Int):=i64n (by show (r.length:Int)+(b.length:Int)=_;omega) (by omega)
 have e2:i64 (iadd N (len b))=N+(b.length:Int):=zO (by show -9223372036854775808≤N+(b.length:Int);omega) (by show N+(b.length:Int)≤9223372036854775807;omega)
 rw [e1,e2]
 refine (qH (by simp (disch:=first | assumption | omega | (dsimp only;omega) | decide) only [go_sem,Int.reduceToNat];omega)).trans ?_
 have hlen:len (cpy (rep (nat ((r.length+b.length:Nat):Int)) (u8 0)) 0 (ln (rep (nat ((r.length+b.length:Nat):Int)) (u8 0))) r)=((r.length+b.length:Nat):Int):=by
  unfold len cpy rep ln nat
  simp only [Int.toNat_natCast,List.length_replicate,List.take_zero,List.nil_append,List.length_append,List.length_take,List.length_drop]
  omega
 rw [hlen]
 refine (qH (by simp (disch:=first | assumption | omega | (dsimp only;omega) | decide) only [go_sem,Int.reduceToNat];omega)).trans ?_
 rw [show nat (len r)=r.length from qR,show nat ((r.length+b.length:Nat):Int)=r.length+b.length from qR,show nsub (r.length+b.length) r.length=r.length+b.length - r.length from rfl,cpy2]
 generalize hf:(fun (x:BB×(List UInt32×Int×BB×Unit)×Unit)=>(_:Option (LS (BB×(List UInt32×Int×BB×Unit)×Unit) ((List UInt32×Int×BB×Unit)×Unit))))=f
 generalize hl:r++b=l
 have hll:l.length=r.length+b.length:=by rw [← hl,List.length_append]
 have step:∀ i,i < l.length / 64→f (l.drop (64*i),(eat H l i,N+(b.length:Int),r,()),())=some (.nx (l.drop (64*(i+1)),(eat H l (i+1),N+(b.length:Int),r,()),())):=by
  intro i hi
  subst hf
  have hd:(l.drop (64*i)).length=l.length - 64*i:=List.length_drop
  have hlen:len (l.drop (64*i))=((l.length - 64*i:Nat):Int):=by unfold len;rw [hd]
  dsimp only
  rw [hlen]
  refine (qE (by simp (disch:=first | assumption | omega | (dsimp only;omega) | decide) only [go_sem,Int.reduceToNat];omega)).trans ?_
  refine (qH (by simp (disch:=first | assumption | omega | (dsimp only;omega) | decide) only [go_sem,Int.reduceToNat];omega)).trans ?_
  rw [show cut (l.drop (64*i)) (nat 0) (nsub (nat 64) (nat 0))=(l.drop (64*i)).take 64 from rfl,qjJ _ (y5 hH l i) _ (by rw [List.length_take,hd];omega)]
  refine (qF rfl).trans ?_
  refine (qH (by simp (disch:=first | assumption | omega | (dsimp only;omega) | decide) only [go_sem,Int.reduceToNat];omega)).trans ?_
  rw [qAZ]
  have hc:cut (l.drop (64*i)) (nat 64) (nsub (nat ((l.length - 64*i:Nat):Int)) (nat 64))=l.drop (64*(i+1)):=by
   unfold cut
   rw [show nat 64=64 from rfl,qR,List.drop_drop,List.take_of_length_le (by rw [List.length_drop];show _≤l.length - 64*i - 64;omega)]
   congr 1
  rw [hc];rfl
 have hend:f (l.drop (64*(l.length / 64)),(eat H l (l.length / 64),N+(b.length:Int),r,()),())=some (.ex 0 (l.drop (64*(l.length / 64)),(eat H l (l.length / 64),N+(b.length:Int),r,()),())):=by
  subst hf
  have hlen:len (l.drop (64*(l.length / 64)))=((l.length - 64*(l.length / 64):Nat):Int):=by unfold len;rw [List.length_drop]
  dsimp only
  rw [hlen]
  exact qB (by simp (disch:=first | assumption | omega | (dsimp only;omega) | decide) only [go_sem,Int.reduceToNat];omega)
 have hloop:=(qN (f:=f) (fun i=>(l.drop (64*i),(eat H l i,N+(b.length:Int),r,()),())) (l.length / 64) step 0 (Nat.zero_le _)).trans (qT hend)
 refine (qZ (show loop f (l,(H,N+(b.length:Int),r,()),())=_ from hloop)).trans ?_
 refine (qH g62).trans ?_
 subst hl;rfl
theorem qvJ (H:List UInt32) (hH:H.length=8) (N:Int) (r b:BB) (hN:0≤N) (hb:N+(b.length:Int)≤1125899906842624) (hr:r.length≤64) (hm:b.length≤1000000000):qg4 ((H,N,r,()),b,())=some (putD (H,N,r,()) b,()):=by
 unfold qg4
 have e0:i64 (isub 1125899906842624 N)=1125899906842624 - N:=zO (by show -9223372036854775808≤(1125899906842624:Int) - N;omega) (by show (1125899906842624:Int) - N≤9223372036854775807;omega)
 dsimp only
 rw [e0]
 refine (qB (by simp (disch:=first | assumption | omega | (dsimp only;omega) | decide) only [go_sem,Int.reduceToNat];omega)).trans ?_
 refine (qH (by simp (disch:=first | assumption | omega | (dsimp only;omega) | decide) only [go_sem,Int.reduceToNat];omega)).trans ?_
 rw [show app (none' UInt8) r=r from rfl]
 refine (qH (by simp (disch:=first | assumption | omega | (dsimp only;omega) | decide) only [go_sem,Int.reduceToNat];omega)).trans ?_
 rw [qKd]
 refine (qF rfl).trans ?_
 generalize hf:(fun (x_1:Int×(List UInt32×Int×BB×Unit)×Unit)=>(_:Option (LS (Int×(List UInt32×Int×BB×Unit)×Unit) ((List UInt32×Int×BB×Unit)×Unit))))=f
 rw [show app r b=r++b from rfl] at hf ⊢
 generalize hl:r++b=l at hf ⊢
 have hll:l.length=r.length+b.length:=by rw [← hl,List.length_append]
 have step:∀ i:Nat,i < l.length / 64→f (((64*i:Nat):Int),(eat H l i,N,r,()),())=some (.nx (((64*(i+1):Nat):Int),(eat H l (i+1),N,r,()),())):=by
  intro i hi
  subst hf
  have e:i64 (isub (len l) ((64*i:Nat):Int))=((l.length - 64*i:Nat):Int):=i64n (by show (l.length:Int) - _=_;omega) (by omega)
  have e':i64 (iadd ((64*i:Nat):Int) 64)=((64*(i+1):Nat):Int):=i64n (by show ((64*i:Nat):Int)+64=_;omega) (by omega)
  dsimp only
  rw [e,e']
  refine (qE (by simp (disch:=first | assumption | omega | (dsimp only;omega) | decide) only [go_sem,Int.reduceToNat];omega)).trans ?_
  rw [qg2 _ (y5 hH l i) l (64*i) (by omega) (by omega)]
  rfl
 have hend:f (((64*(l.length / 64):Nat):Int),(eat H l (l.length / 64),N,r,()),())=some (.ex 0 (((64*(l.length / 64):Nat):Int),(eat H l (l.length / 64),N,r,()),())):=by
  subst hf
  have e:i64 (isub (len l) ((64*(l.length / 64):Nat):Int))=((l.length - 64*(l.length / 64):Nat):Int):=i64n (by show (l.length:Int) - _=_;omega) (by omega)
  dsimp only
  rw [e]
  exact qB (by simp (disch:=first | assumption | omega | (dsimp only;omega) | decide) only [go_sem,Int.reduceToNat];omega)
 have hloop:=(qN (f:=f) (fun i=>(((64*i:Nat):Int),(eat H l i,N,r,()),())) (l.length / 64) step 0 (Nat.zero_le _)).trans (qT hend)
 refine (qZ (show loop f (0,(H,N,r,()),())=_ from hloop)).trans ?_
 refine (qH g62).trans ?_
 refine (qH (by simp (disch:=first | assumption | omega | (dsimp only;omega) | decide) only [go_sem,Int.reduceToNat];omega)).trans ?_
 have e2:i64 (iadd N (len b))=N+(b.length:Int):=zO (by show -9223372036854775808≤N+(b.length:Int);omega) (by show N+(b.length:Int)≤9223372036854775807;omega)
 have hc:cut l (nat ((64*(l.length / 64):Nat):Int)) (nsub (nat (len l)) (nat ((64*(l.length / 64):Nat):Int)))=l.drop (64*(l.length / 64)):=by
  unfold cut
  rw [qR,show nat (len l)=l.length from qR,List.take_of_length_le (by rw [List.length_drop];exact Nat.le_refl _)]
 dsimp only
 rw [e2,hc]
 subst hl;rfl
end Yp
namespace Yp
open Go
set_option maxRecDepth 100000
set_option maxHeartbeats 2000000
def zs (r:Nat):Nat:=(119 - r) % 64
def lenB (n:Int) (i:Nat):BB:=(List.range i).map fun j=>u8 (shrI .i64 (i64 (imul 8 n)) ((56 - 8*j:Nat):Int))
def padD (n:Int):BB:=[u8 128]++List.replicate (zs (n.toNat % 64)) (u8 0)++lenB n 8
def wb (x:UInt32):BB:=[u8 (n32 (u32 (shrI .u32 (n32 x) (n64 (u64 24))))),u8 (n32 (u32 (shrI .u32 (n32 x) (n64 (u64 16))))),u8 (n32 (u32 (shrI .u32 (n32 x) (n64 (u64 8))))),u8 (n32 x)]
theorem qAV {a b:Int} (h:a % 256=b % 256):u8 a=u8 b:=by
 show UInt8.ofNat (a % 2 ^ 8).toNat=UInt8.ofNat (b % 2 ^ 8).toNat
 rw [show a % 2 ^ 8=b % 2 ^ 8 from h]
theorem qOp (x:UInt32):wb x=[u8 (n32 (u32 (idiv (n32 x) (n32 (u32 16777216))))),u8 (n32 (u32 (imod (n32 (u32 (idiv (n32 x) (n32 (u32 65536))))) (n32 (u32 256))))),u8 (n32 (u32 (imod (n32 (u32 (idiv (n32 x) (n32 (u32 256))))) (n32 (u32 256))))),u8 (n32 (u32 (imod (n32 x) (n32 (u32 256)))))]:=by
 have hx:=x.toNat_lt
 obtain ⟨v,hv⟩:∃ v,v=x.toNat:=⟨_,rfl⟩
 rw [← hv] at hx
 have e:n32 x=(v:Int):=by rw [hv];rfl
 have k1:n32 (u32 16777216)=16777216:=yC (by decide)
 have k2:n32 (u32 65536)=65536:=yC (by decide)
 have k3:n32 (u32 256)=256:=yC (by decide)
 have a1:shrI .u32 (v:Int) (n64 (u64 24))=((v / 16777216:Nat):Int):=by show Int.fdiv (v:Int) (2 ^ 24)=_;rw [Int.fdiv_eq_ediv_of_nonneg _ (by decide)];omega
 have a2:shrI .u32 (v:Int) (n64 (u64 16))=((v / 65536:Nat):Int):=by show Int.fdiv (v:Int) (2 ^ 16)=_;rw [Int.fdiv_eq_ediv_of_nonneg _ (by decide)];omega
 have a3:shrI .u32 (v:Int) (n64 (u64 8))=((v / 256:Nat):Int):=by show Int.fdiv (v:Int) (2 ^ 8)=_;rw [Int.fdiv_eq_ediv_of_nonneg _ (by decide)];omega
 have b1:idiv (v:Int) 16777216=((v / 16777216:Nat):Int):=by rw [g31 (by omega)];omega
 have b2:idiv (v:Int) 65536=((v / 65536:Nat):Int):=by rw [g31 (by omega)];omega
 have b3:idiv (v:Int) 256=((v / 256:Nat):Int):=by rw [g31 (by omega)];omega
 have c:∀ m:Nat,m < 4294967296→n32 (u32 (m:Int))=(m:Int):=fun m hm=>yC (by omega)
 have d:∀ m:Nat,imod (m:Int) 256=((m % 256:Nat):Int):=fun m=>by rw [g32 (by omega)];omega
 unfold wb
 rw [e,k1,k2,k3,a1,a2,a3,b1,b2,b3,c _ (by omega),c _ (by omega),c _ (by omega),d,d,d,c _ (by omega),c _ (by omega),c _ (by omega)]
 congr 1
 congr 1
 ·exact qAV (by omega)
 ·congr 1
  ·exact qAV (by omega)
  ·congr 1
   exact qAV (by omega)
def outW (w:List UInt32) (i:Nat):BB:=(List.range i).flatMap fun j=>wb (q32 w j)
theorem qfE (w:List UInt32):∀ i,(outW w i).length=4*i
 | 0=>rfl
 | i+1=>by unfold outW;rw [List.range_succ,List.flatMap_append,List.length_append];have:=qfE w i;unfold outW at this;rw [this];simp [wb];omega
theorem qCw (w:List UInt32) (i:Nat):outW w (i+1)=outW w i++wb (q32 w i):=by unfold outW;rw [List.range_succ,List.flatMap_append];simp
theorem qCN (n:Int) (i:Nat):lenB n (i+1)=lenB n i++[u8 (shrI .i64 (i64 (imul 8 n)) ((56 - 8*i:Nat):Int))]:=by unfold lenB;rw [List.range_succ,List.map_append];rfl
theorem y2 (n:Int) (i:Nat):(lenB n i).length=i:=by simp [lenB]
def sumD (h:HT):BB:=outW (eat h.1 (h.2.2.1++padD h.2.1) ((h.2.2.1++padD h.2.1).length / 64)) 8
theorem qy4 (l:BB) (k:Nat):l++List.replicate k (u8 0)++[u8 0]=l++List.replicate (k+1) (u8 0):=by rw [List.append_assoc,← List.replicate_succ']
theorem qA5 (H:List UInt32) (hH:H.length=8) (N:Int) (r:BB) (hN:0≤N) (hN2:N≤1125899906842624) (hr:r.length=N.toNat % 64):qj8 ((H,N,r,()),())=some (sumD (H,N,r,()),()):=by
 unfold qj8
 dsimp only
 have hz:rep (nat 0) (u8 0)=[]:=rfl
 rw [hz,show app ([]:BB) r=r from rfl,show app r [u8 128]=r++[u8 128] from rfl]
 refine (qH (by decide)).trans ?_
 refine (qH (by simp (disch:=first | assumption | omega | (dsimp only;omega) | decide) only [go_sem,Int.reduceToNat];omega)).trans ?_
 refine (qH (by simp (disch:=first | assumption | omega | (dsimp only;omega) | decide) only [go_sem,Int.reduceToNat];simp;omega)).trans ?_
 generalize hf:(fun (x:BB×Unit)=>(_:Option (LS (BB×Unit) (BB×Unit))))=f
 have hr64:r.length < 64:=by omega
 have hzs:zs (N.toNat % 64) < 64:=by unfold zs;omega
 have step:∀ i:Nat,i < zs (N.toNat % 64)→f (r++[u8 128]++List.replicate i (u8 0),())=some (.nx (r++[u8 128]++List.replicate (i+1) (u8 0),())):=by
  intro i hi
  subst hf
  have hl:(r++[u8 128]++List.replicate i (u8 0)).length=r.length+1+i:=by simp;omega
  have hne:¬ (((r++[u8 128]++List.replicate i (u8 0)).length:Int) % 64=56):=by rw [hl];unfold zs at hi;omega
  refine (qE (by simp (disch:=first | assumption | omega | (dsimp only;omega) | decide) only [go_sem,Int.reduceToNat];omega)).trans ?_
  refine (qH (by simp (disch:=first | assumption | omega | (dsimp only;omega) | decide) only [go_sem,Int.reduceToNat];simp;omega)).trans ?_
  show some (LS.nx (r++[u8 128]++List.replicate i (u8 0)++[u8 0],()))=_
  rw [qy4]
 have hend:f (r++[u8 128]++List.replicate (zs (N.toNat % 64)) (u8 0),())=some (.ex 0 (r++[u8 128]++List.replicate (zs (N.toNat % 64)) (u8 0),())):=by
  subst hf
  have hl:(r++[u8 128]++List.replicate (zs (N.toNat % 64)) (u8 0)).length=r.length+1+zs (N.toNat % 64):=by simp;omega
  have he:(((r++[u8 128]++List.replicate (zs (N.toNat % 64)) (u8 0)).length:Int) % 64=56):=by rw [hl];unfold zs;omega
  exact qB (by simp (disch:=first | assumption | omega | (dsimp only;omega) | decide) only [go_sem,Int.reduceToNat];omega)
 have hloop:=(qN (f:=f) (fun i=>(r++[u8 128]++List.replicate i (u8 0),())) (zs (N.toNat % 64)) step 0 (Nat.zero_le _)).trans (qT hend)
 rw [List.replicate_zero,List.append_nil] at hloop
 refine (qZ hloop).trans ?_
 clear hloop hend step
 refine (qH g62).trans ?_
 clear hf f
 dsimp only
 generalize hL:r++[u8 128]++List.replicate (zs (N.toNat % 64)) (u8 0)=L
 have hLl:L.length=r.length+1+zs (N.toNat % 64):=by rw [← hL];simp;omega
 generalize hf:(fun (x_1:BB×Int×Unit)=>(_:Option (LS (BB×Int×Unit) (BB×Unit))))=f
 have step:∀ i:Nat,i < 8→f (L++lenB N i,56 - 8*(i:Int),())=some (.nx (L++lenB N (i+1),56 - 8*((i+1:Nat):Int),())):=by
  intro i hi
  subst hf
  have hl:(L++lenB N i).length=L.length+i:=by rw [List.length_append,y2]
  refine (qE (by simp (disch:=first | assumption | omega | (dsimp only;omega) | decide) only [go_sem,Int.reduceToNat];omega)).trans ?_
  refine (qH (by simp (disch:=first | assumption | omega | (dsimp only;omega) | decide) only [go_sem,Int.reduceToNat];omega)).trans ?_
  refine (qH (by simp (disch:=first | assumption | omega | (dsimp only;omega) | decide) only [go_sem,Int.reduceToNat];simp [y2];omega)).trans ?_
  dsimp only
  rw [show app (L++lenB N i) [u8 (shrI .i64 (i64 (imul 8 N)) (56 - 8*(i:Int)))]=L++lenB N (i+1) by rw [qCN,show ((56 - 8*i:Nat):Int)=56 - 8*(i:Int) by omega];exact List.append_assoc _ _ _,
   show i64 (isub (56 - 8*(i:Int)) 8)=56 - 8*((i+1:Nat):Int) by rw [zO (by show -9223372036854775808≤56 - 8*(i:Int) - 8;omega) (by show 56 - 8*(i:Int) - 8≤9223372036854775807;omega)];show 56 - 8*(i:Int) - 8=_;omega]
 have hend:f (L++lenB N 8,56 - 8*((8:Nat):Int),())=some (.ex 2 (L++lenB N 8,56 - 8*((8:Nat):Int),())):=by subst hf;exact qB (show le 0 (56 - 8*((8:Nat):Int))=false from rfl)
 have hloop:=(qN (f:=f) (fun i=>(L++lenB N i,56 - 8*(i:Int),())) 8 step 0 (Nat.zero_le _)).trans (qT hend)
 have h0:(L++lenB N 0,56 - 8*((0:Nat):Int),())=(L,56,()):=by simp [lenB]
 rw [h0] at hloop
 refine (qZ hloop).trans ?_
 clear hloop hend step
 refine (qH g62).trans ?_
 clear hf f
 dsimp only
 have hT:L++lenB N 8=r++padD N:=by rw [← hL];unfold padD;simp
 rw [hT]
 have hTl:(r++padD N).length=r.length+1+zs (N.toNat % 64)+8:=by rw [← hT,List.length_append,y2,hLl]
 have hT64:(r++padD N).length % 64=0:=by rw [hTl];unfold zs;omega
 generalize hTT:r++padD N=T at hTl hT64
 generalize hf:(fun (x:BB×List UInt32×Unit)=>(_:Option (LS (BB×List UInt32×Unit) (BB×Unit))))=f
 have step:∀ i,i < T.length / 64→f (T.drop (64*i),eat H T i,())=some (.nx (T.drop (64*(i+1)),eat H T (i+1),())):=by
  intro i hi
  subst hf
  have hd:(T.drop (64*i)).length=T.length - 64*i:=List.length_drop
  have hlen:len (T.drop (64*i))=((T.length - 64*i:Nat):Int):=by unfold len;rw [hd]
  dsimp only
  rw [hlen]
  refine (qE (by simp (disch:=first | assumption | omega | (dsimp only;omega) | decide) only [go_sem,Int.reduceToNat];omega)).trans ?_
  refine (qH (by simp (disch:=first | assumption | omega | (dsimp only;omega) | decide) only [go_sem,Int.reduceToNat];omega)).trans ?_
  rw [show cut (T.drop (64*i)) (nat 0) (nsub (nat 64) (nat 0))=(T.drop (64*i)).take 64 from rfl,qjJ _ (y5 hH T i) _ (by rw [List.length_take,hd];omega)]
  refine (qF rfl).trans ?_
  refine (qH (by simp (disch:=first | assumption | omega | (dsimp only;omega) | decide) only [go_sem,Int.reduceToNat];omega)).trans ?_
  rw [qAZ]
  have hc:cut (T.drop (64*i)) (nat 64) (nsub (nat ((T.length - 64*i:Nat):Int)) (nat 64))=T.drop (64*(i+1)):=by
   unfold cut
   rw [show nat 64=64 from rfl,qR,List.drop_drop,List.take_of_length_le (by rw [List.length_drop];show _≤T.length - 64*i - 64;omega)]
   congr 1
  rw [hc];rfl
 have hend:f (T.drop (64*(T.length / 64)),eat H T (T.length / 64),())=some (.ex 4 (T.drop (64*(T.length / 64)),eat H T (T.length / 64),())):=by
  subst hf
  have hlen:len (T.drop (64*(T.length / 64)))=((T.length - 64*(T.length / 64):Nat):Int):=by unfold len;rw [List.length_drop]
  dsimp only
  rw [hlen]
  exact qB (by simp (disch:=first | assumption | omega | (dsimp only;omega) | decide) only [go_sem,Int.reduceToNat];omega)
 have hloop:=(qN (f:=f) (fun i=>(T.drop (64*i),eat H T i,())) (T.length / 64) step 0 (Nat.zero_le _)).trans (qT hend)
 refine (qZ (show loop f (T,H,())=_ from hloop)).trans ?_
 clear hloop hend step
 refine (qH g62).trans ?_
 clear hf f
 refine (qH (by decide)).trans ?_
 dsimp only
 unfold sumD
 dsimp only
 rw [hTT]
 have hw:=y5 hH T (T.length / 64)
 generalize eat H T (T.length / 64)=w at hw
 generalize hf:(fun (x:BB×Int×Unit)=>(_:Option (LS (BB×Int×Unit) (BB×Unit))))=f
 have step:∀ i:Nat,i < 8→f (outW w i,(i:Int),())=some (.nx (outW w (i+1),((i+1:Nat):Int),())):=by
  intro i hi
  subst hf
  have hl:=qfE w i
  have hi':i64 (iadd (i:Int) 1)=((i+1:Nat):Int):=i64n (by show (i:Int)+1=_;omega) (by omega)
  refine (qE (by simp (disch:=first | assumption | omega | (dsimp only;omega) | decide) only [go_sem,Int.reduceToNat];omega)).trans ?_
  refine (qH (by simp (disch:=first | assumption | omega | (dsimp only;omega) | decide) only [go_sem,Int.reduceToNat];omega)).trans ?_
  refine (qH (by simp (disch:=first | assumption | omega | (dsimp only;omega) | decide) only [go_sem,Int.reduceToNat];simp;omega)).trans ?_
  dsimp only
  rw [hi',qCw];rfl
 have hend:∀ v,f (v,((8:Nat):Int),())=some (.ex 6 (v,((8:Nat):Int),())):=by subst hf;intro v;exact qB rfl
 have hloop:=(qN (f:=f) (fun i=>(outW w i,(i:Int),())) 8 step 0 (Nat.zero_le _)).trans (qT (hend _))
 refine (qZ (show loop f ([],0,())=_ from hloop)).trans ?_
 exact qH g62
end Yp