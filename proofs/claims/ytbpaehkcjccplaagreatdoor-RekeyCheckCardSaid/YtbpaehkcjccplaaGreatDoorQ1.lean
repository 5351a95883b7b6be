/- A part of the proof of the statements of this seat: plain functions, and laws on them. No condition of its own. -/
import Derived.Test.YtbpaehkcjccplaaGreatDoorQ0
import Derived.RangeFuncNested
import Derived.RangeFuncBox
import Derived.RangeFuncLeaves
import Derived.Shelf.Abstract
import Derived.WalkKit
import Derived.OwnWalkIn
import Derived.TacticsInMore
import Derived.LoopNIn
import Derived.LoopIn
import Derived.Maps.AppendAt
import Derived.Test.YtbpaehkcjccplaaGreatDoorProg
import Derived.Conc.LoneCalls
import Derived.KernelRfl
import Derived.Laws.Rows
import Derived.Conc.LoneSelectN
import Derived.Conc.Own5
set_option linter.unusedVariables false
set_option linter.unusedSimpArgs false
namespace Yp
open Go
theorem qLH {u:BB} {k N:Nat} (hl:u.length=2*k) (hN:(N+1) / 2=k) (h:N % 2=1→nth u 0 (u8 0)=48):pad (u.drop (N % 2))=u:=by
 by_cases ho:N % 2=1
 ·rw [ho]
  unfold pad
  rw [if_pos (by simp;omega)]
  cases u with
  | nil=>simp at hl;omega
  | cons x r=>have:=h ho;simp only [nth,List.getD_cons_zero] at this;rw [this];rfl
 ·have:N % 2=0:=by omega
  rw [this,List.drop_zero];exact qLG (by omega)
theorem qHn {s:BB} (h:figs s):figs (pad s):=by
 unfold pad
 split
 ·intro i hi
  cases i with
  | zero=>exact (by decide:vX 48)
  | succ i=>exact h i (by simpa using hi)
 ·exact h
theorem qAS (s:BB):(pad s).drop (s.length % 2)=s:=by
 unfold pad
 by_cases h:s.length % 2=1
 ·rw [if_pos h,h];rfl
 ·have:s.length % 2=0:=by omega
  rw [if_neg h,this];rfl
theorem ql5 {s:BB} (hf:figs s):jI (bcd (pad s))=pad s:=qKr (qHn hf) (by rw [qf0];omega)
theorem qIz {s t:BB} (hs:figs s) (ht:figs t) (hl:s.length=t.length) (h:bcd (pad s)=bcd (pad t)):s=t:=by
 have:=congrArg jI h
 rw [ql5 hs,ql5 ht] at this
 rw [← qAS s,← qAS t,this,hl]
theorem jE {b:BB} {I N:Nat} (hI:I≤b.length) (hN:N≤999):(b.length < I+(N+1) / 2∧zM b I N=([],0,3,())) ∨
  (I+(N+1) / 2≤b.length∧zM b I N=([],0,2,())∧∀ s,s.length=N→figs s→tk b I ((N+1) / 2)=bcd (pad s)→False) ∨
  (∃ s,I+(N+1) / 2≤b.length∧zM b I N=(s,((I+(N+1) / 2:Nat):Int),0,())∧figs s∧s.length=N∧tk b I ((N+1) / 2)=bcd (pad s)):=by
 unfold zM
 simp only [Int.toNat_natCast]
 rw [if_neg (by omega)]
 by_cases h1:(b.length:Int) - I < ((N:Int)+1) / 2
 ·rw [if_pos h1];exact .inl ⟨by omega,rfl⟩
 rw [if_neg h1]
 have hle:I+(N+1) / 2≤b.length:=by omega
 have hul:=vZ hle
 have hxl:(jI (tk b I ((N+1) / 2))).length=2*((N+1) / 2):=by rw [zS,hul]
 refine .inr ?_
 by_cases h2:(N:Int) % 2=1∧¬nth (jI (tk b I ((N+1) / 2))) 0 (u8 0)=48
 ·rw [if_pos h2]
  refine .inl ⟨hle,rfl,fun s hs hf h=>h2.2 ?_⟩
  rw [h,ql5 hf];unfold pad;rw [if_pos (by omega)];rfl
 rw [if_neg h2]
 have hp:pad ((jI (tk b I ((N+1) / 2))).drop (N % 2))=jI (tk b I ((N+1) / 2)):=qLH hxl rfl fun ho=>Classical.byContradiction fun hc=>h2 ⟨by omega,hc⟩
 by_cases h3:figs ((jI (tk b I ((N+1) / 2))).drop (N % 2))
 ·rw [if_pos h3]
  refine .inr ⟨_,hle, ?_,h3,by rw [List.length_drop,hxl];omega, ?_⟩
  ·simp
  ·have hb:=qK0 (u:=tk b I ((N+1) / 2)) (by rw [← hp];exact qHn h3)
   rw [hp,hb]
 ·rw [if_neg h3]
  refine .inl ⟨hle,rfl,fun s hs hf h=>h3 ?_⟩
  rw [h,ql5 hf,← hs,qAS];exact hf
theorem qzP {b x q:BB} {I:Nat} (h:b.drop I=x++q):tk b I x.length=x:=by
 unfold tk;rw [h,List.take_left'];rfl
theorem qmC {b x:BB} {I n:Nat} (h:tk b I n=x):b.drop I=x++b.drop (I+n):=by
 rw [← h];unfold tk
 rw [← List.drop_drop,List.take_append_drop]
theorem qBo {b x:BB} {I:Nat} (hI:I≤b.length) (h:b.drop I=x):b.length=I+x.length:=by
 have:=congrArg List.length h
 rw [List.length_drop] at this;omega
theorem qnA {b s q:BB} {I:Nat} (hI:I≤b.length) (hN:s.length≤999) (hf:figs s) (h:b.drop I=bcd (pad s)++q):zM b I s.length=(s,((I+(s.length+1) / 2:Nat):Int),0,()):=by
 have hl:=qBo hI h
 have ht:=qzP h
 rw [List.length_append,z2] at hl
 rw [z2] at ht
 rcases jE hI hN with ⟨h1,_⟩ | ⟨_,_,h2⟩ | ⟨t,_,h3,h4,h5,h6⟩
 ·omega
 ·exact (h2 s rfl hf ht).elim
 ·rw [h3,qIz h4 hf h5 (by rw [← h6,ht])]
def rdB (k l:Int) (b:BB) (a n:Int):BB×Int×Int×Unit :=
 if k≤2 then (if (zM b a n).2.2.1=0 then ((zM b a n).1,(zM b a n).2.1,0,()) else ([],0,(zM b a n).2.2.1,()))
 else if (b.length:Int) - a < n then ([],0,3,()) else if fv k l (tk b a.toNat n.toNat) then (tk b a.toNat n.toNat,a+n,0,()) else ([],0,2,())
def rdF (k l:Int) (b:BB) (a:Int):BB×Int×Int×Unit :=
 if a < 0∨(b.length:Int) < a then ([],0,1,()) else if 0 < cnt k then
  (if (zM b a (cnt k)).2.2.1=0 then (if (val (zM b a (cnt k)).1:Int) < 1∨l < val (zM b a (cnt k)).1 then ([],0,2,()) else rdB k l b (zM b a (cnt k)).2.1 (val (zM b a (cnt k)).1))
  else ([],0,(zM b a (cnt k)).2.2.1,()))
 else rdB k l b a l
def rdD (no:Int) (b:BB) (a:Int):BB×Int×Int×Unit:=match zF no with | none=>([],0,12,()) | some (k,l)=>rdF k l b a
theorem qJW {k l:Int} {s:BB} (h2:k≤2) (hf:figs s) (hn:fln k l s.length):fv k l s:=⟨⟨fun _=>hf,fun _=>qmA hf⟩,hn⟩
theorem qGM {no k l:Int} {b:BB} {A N:Nat} (ho:zF no=some (k,l)) (hl:b.length≤1000000) (ha:A≤b.length) (hn:1≤N∧N≤400) (hfl:fln k l N) :
  (ob (sel (le k 2) (some (i64 (idiv (i64 (iadd (N:Int) 1)) 2),())) (some ((N:Int),()))) fun (a7:Int×Unit)=>sel (lt (i64 (isub (len b) (A:Int))) a7.1) (some (none' UInt8,0,3,()))
   (ck (inC (A:Int) (i64 (iadd (A:Int) a7.1)) (len b)) (ck (rm 1 (nadd (ln (none' UInt8)) (ln (sub b (A:Int) (i64 (iadd (A:Int) a7.1))))))
    (sel (le k 2) (ob (xL (b,(A:Int),(N:Int),())) fun (t:BB×Int×Int×Unit)=>sel (bnot (beq t.2.2.1 0)) (some (none' UInt8,0,2,())) (ck (rm 1 (ln t.1)) (ob (x3 ((k,l,()),t.1,())) fun (a:Bool×Unit)=>sel (bnot a.1) (some (none' UInt8,0,2,())) (some (t.1,i64 (iadd (A:Int) a7.1),0,())))))
     (ob (x3 ((k,l,()),app (none' UInt8) (sub b (A:Int) (i64 (iadd (A:Int) a7.1))),())) fun (a:Bool×Unit)=>sel (bnot a.1) (some (none' UInt8,0,2,())) (some (app (none' UInt8) (sub b (A:Int) (i64 (iadd (A:Int) a7.1))),i64 (iadd (A:Int) a7.1),0,()))))))
   : Option (BB×Int×Int×Unit))=some (rdB k l b A N):=by
 obtain ⟨hk,h1,h400,h99⟩:=wN ho
 have hk1:1≤k:=by unfold kinds at hk;omega
 unfold rdB
 have c0:i64 (isub (len b) (A:Int))=(b.length:Int) - A:=by
  simp only [isub,len];exact zR (by omega) (by omega)
 by_cases h2:k≤2
 ·have c1:i64 (idiv (i64 (iadd (N:Int) 1)) 2)=(((N+1) / 2:Nat):Int):=by
   rw [show i64 (iadd (N:Int) 1)=((N+1:Nat):Int) from zH (b:=1) (by omega)]
   exact qkE (b:=2) (by omega)
  refine (qF (qE (le_t h2))).trans ?_
  have c3:i64 (iadd (A:Int) (((N+1) / 2:Nat):Int))=((A+(N+1) / 2:Nat):Int):=zH (by omega)
  rw [if_pos h2]
  simp only [c0,c1,c3,qGx]
  rcases jE ha (show N≤999 by omega) with ⟨h3,h⟩ | ⟨h3,h,_⟩ | ⟨s,h3,h,hf,hs,_⟩
  ·refine (qE (lt_t (by omega))).trans ?_
   rw [h];rfl
  ·refine (qB (lt_f (by omega))).trans ?_
   refine (qH (qrL (by omega) (by omega) (by simp only [len];omega))).trans ?_
   have htl:=vZ h3
   refine (qH (rm_t (by simp only [nadd,ln,none',List.length_nil];omega))).trans ?_
   refine (qE (le_t h2)).trans ?_
   refine (qF (xK b A N hl)).trans ?_
   rw [h];rfl
  ·refine (qB (lt_f (by omega))).trans ?_
   refine (qH (qrL (by omega) (by omega) (by simp only [len];omega))).trans ?_
   have htl:=vZ h3
   refine (qH (rm_t (by simp only [nadd,ln,none',List.length_nil];omega))).trans ?_
   refine (qE (le_t h2)).trans ?_
   refine (qF (xK b A N hl)).trans ?_
   rw [h]
   refine (qB rfl).trans ?_
   refine (qH (rm_t (by simp only [ln];omega))).trans ?_
   obtain ⟨t,ht,he⟩:=kA k l s (by omega)
   refine (qF ht).trans ?_
   rw [he hk1,decide_eq_true (qJW h2 hf (by rw [hs];exact hfl))]
   rfl
 ·refine (qF (qB (le_f h2))).trans ?_
  rw [if_neg h2]
  have c3:i64 (iadd (A:Int) (N:Int))=((A+N:Nat):Int):=zH (by omega)
  simp only [c0,c3,qGx,Int.toNat_natCast]
  by_cases h3:(b.length:Int) - A < N
  ·rw [if_pos h3];exact qE (lt_t h3)
  rw [if_neg h3]
  refine (qB (lt_f h3)).trans ?_
  have hle:A+N≤b.length:=by omega
  refine (qH (qrL (by omega) (by omega) (by simp only [len];omega))).trans ?_
  have htl:=vZ hle
  refine (qH (rm_t (by simp only [nadd,ln,none',List.length_nil];omega))).trans ?_
  refine (qB (le_f h2)).trans ?_
  have ha':app (none' UInt8) (tk b A N)=tk b A N:=rfl
  simp only [ha']
  obtain ⟨t,ht,he⟩:=kA k l (tk b A N) (by omega)
  refine (qF ht).trans ?_
  rw [he hk1]
  by_cases hv:fv k l (tk b A N)
  ·rw [if_pos hv,decide_eq_true hv,← Int.natCast_add];exact qB rfl
  ·rw [if_neg hv,decide_eq_false hv];exact qE rfl
theorem qCl {s:BB} (hf:figs s) (h:s.length≤3):val s < 1000:=by
 have:=qHH hf
 have h2:10 ^ s.length≤10 ^ 3:=Nat.pow_le_pow_right (by omega) h
 omega
theorem qKD {k l:Int} {n:Nat} (h0:0 < cnt k) (h1:1≤n) (h2:(n:Int)≤l):fln k l n:=by
 unfold fln
 rw [if_neg]
 ·exact ⟨h1,h2⟩
 ·rintro (rfl | rfl | rfl) <;> exact absurd h0 (by decide)
theorem qBg {k l:Int} {n:Nat} (hk:kinds k) (h0:¬ 0 < cnt k):fln k l n↔(n:Int)=l:=by
 unfold fln
 rcases hk with rfl | rfl | rfl | rfl | rfl | rfl | rfl <;> first | exact absurd (by decide) h0 | simp
theorem qvM (no:Int) (b:BB) (a:Int) (hl:b.length≤1000000):qlV (no,b,a,())=some (rdD no b a):=by
 unfold qlV rdD
 refine (qF (wD no)).trans ?_
 cases ho:zF no with
 | none=>rfl
 | some p =>
  obtain ⟨k,l⟩:=p
  rw [qrP rfl]
  obtain ⟨hk,h1,h400,h99⟩:=wN ho
  refine (qB rfl).trans ?_
  show _=some (rdF k l b a)
  unfold rdF
  by_cases h2:a < 0
  ·refine (qF (qE (lt_t h2))).trans ?_
   simp only [if_pos (Or.inl h2:a < 0∨(b.length:Int) < a)];rfl
  by_cases h3:(b.length:Int) < a
  ·refine (qF (a:=(true,())) ((qB (lt_f h2)).trans (vU (lt_t h3)))).trans ?_
   simp only [if_pos (Or.inr h3:a < 0∨(b.length:Int) < a)];rfl
  refine (qF (a:=(false,())) ((qB (lt_f h2)).trans (vU (lt_f h3)))).trans ?_
  refine (qB rfl).trans ?_
  rw [if_neg (by omega)]
  obtain ⟨A,rfl⟩:∃ n:Nat,a=n:=⟨a.toNat,by omega⟩
  refine (qF (yC hk)).trans ?_
  by_cases h0:0 < cnt k
  ·rw [if_pos h0]
   refine (qE (lt_t h0)).trans ?_
   refine (qF (yC hk)).trans ?_
   refine (qF (xK b A (cnt k) hl)).trans ?_
   have hcr:=qw0 hk
   obtain ⟨C,hC⟩:∃ n:Nat,cnt k=n:=⟨(cnt k).toNat,by omega⟩
   rw [hC]
   rcases jE (b:=b) (I:=A) (N:=C) (by omega) (by omega) with ⟨_,h⟩ | ⟨_,h,_⟩ | ⟨s,h4,h,hf,hs,_⟩
   ·rw [h];rfl
   ·rw [h];rfl
   ·rw [h]
    refine (qB rfl).trans ?_
    rw [if_pos rfl]
    have hvs:=qCl hf (by omega)
    refine (qF (yD s (by omega))).trans ?_
    rw [if_pos ⟨by omega,by omega,hf⟩]
    by_cases hm1:(val s:Int) < 1
    ·refine (qF (qE (lt_t hm1))).trans ?_
     simp only [if_pos (Or.inl hm1:(val s:Int) < 1∨l < val s)];rfl
    by_cases hm2:l < (val s:Int)
    ·refine (qF (a:=(true,())) ((qB (lt_f hm1)).trans (vU (lt_t hm2)))).trans ?_
     simp only [if_pos (Or.inr hm2:(val s:Int) < 1∨l < val s)];rfl
    refine (qF (a:=(false,())) ((qB (lt_f hm1)).trans (vU (lt_f hm2)))).trans ?_
    refine (qB rfl).trans ?_
    rw [if_neg (show ¬((val s:Int) < 1∨l < val s) by omega)]
    exact qGM ho hl h4 ⟨by omega,by omega⟩ (qKD h0 (by omega) (by omega))
  ·rw [if_neg h0]
   refine (qB (lt_f h0)).trans ?_
   obtain ⟨L,rfl⟩:∃ n:Nat,l=n:=⟨l.toNat,by omega⟩
   exact qGM (b:=b) (A:=A) (N:=L) ho hl (by omega) ⟨by omega,by omega⟩ ((qBg hk h0).2 rfl)
end Yp
namespace Yp
open Go
noncomputable def D (p:Prop):Bool := @decide p (Classical.propDecidable p)
theorem qk6 {p:Prop}:D p=true↔p:=by unfold D;exact @decide_eq_true_iff p (Classical.propDecidable p)
theorem D_t {p:Prop} (h:p):D p=true:=qk6.2 h
theorem D_f {p:Prop} (h:¬ p):D p=false:=by
 cases e:D p
 ·rfl
 ·exact absurd (qk6.1 e) h
theorem qk7 {b:Bool} {p:Prop} (h:b=true↔p):b=D p:=Bool.eq_iff_iff.2 (h.trans qk6.symm)
@[congr] theorem zZ {α β:Type} {o o':Option α} {k:α→Option β} (h:o=o'):ob o k=ob o' k:=by rw [h]
@[congr] theorem qQu {α:Type} {c c':Bool} {a b:α} (h:c=c'):sel c a b=sel c' a b:=by rw [h]
@[congr] theorem qQw {α:Type} {c c':Bool} {a:Option α} (h:c=c'):ck c a=ck c' a:=by rw [h]
@[congr] theorem qQv {σ ρ β:Type} {o o':Option (LS σ ρ)} {kn:σ→Option β} {ke:Nat→σ→Option β} {kr:ρ→Option β} (h:o=o'):lc o kn ke kr=lc o' kn ke kr:=by rw [h]
theorem g01 {α β:Type} {a:α} {k:α→Option β}:ob (some a) k=k a:=rfl
theorem g02 {α:Type} {p:Prop} {a b:α} (h:p):sel (D p) a b=a:=qE (D_t h)
theorem g03 {α:Type} {p:Prop} {a b:α} (h:¬ p):sel (D p) a b=b:=qB (D_f h)
theorem g04 {α:Type} {p:Prop} {a:Option α} (h:p):ck (D p) a=a:=qH (D_t h)
theorem g05 {α:Type} {a b:α}:sel true a b=a:=rfl
theorem g06 {α:Type} {a b:α}:sel false a b=b:=rfl
theorem g07 {α:Type} {a:Option α}:ck true a=a:=rfl
theorem g08 {a b:Int}:lt a b=D (a < b):=qk7 decide_eq_true_iff
theorem g09 {a b:Int}:le a b=D (a≤b):=qk7 decide_eq_true_iff
theorem g10 {a b:Int}:beq a b=D (a=b):=by unfold beq;exact qk7 beq_iff_eq
theorem g11 {a b:BB}:seq a b=D (a=b):=by unfold seq;exact qk7 beq_iff_eq
theorem g12 {p:Prop}:bnot (D p)=D (¬ p):=by
 by_cases h:p
 ·rw [D_t h,D_f (not_not_intro h)];rfl
 ·rw [D_f h,D_t h];rfl
theorem g13 {p q:Prop}:band (D p) (D q)=D (p∧q):=qk7 (by simp [band,qk6])
theorem g14 {p q:Prop}:bor (D p) (D q)=D (p∨q):=qk7 (by simp [bor,qk6])
theorem g15 {c q:Bool}:sel c (some (true,())) (some (q,()))=some (bor c q,()):=by cases c <;> rfl
theorem g16 {c q:Bool}:sel c (some (q,())) (some (false,()))=some (band c q,()):=by cases c <;> rfl
theorem g17 {c d:Bool} {x:Option (Bool×Unit)}:sel c (sel d x (some (false,()))) (some (false,()))=sel (band c d) x (some (false,())):=by cases c <;> rfl
theorem g18 {c d:Bool} {x:Option (Bool×Unit)}:sel c (some (true,())) (sel d (some (true,())) x)=sel (bor c d) (some (true,())) x:=by cases c <;> rfl
theorem g19 {a b c:Int}:inC a b c=D (0≤a∧a≤b∧b≤c):=qk7 (by simp [inC,and_assoc])
theorem g20 {a b:Int}:inB a b=D (0≤a∧a < b):=qk7 (by simp [inB])
theorem g21 {c n:Nat}:rm c n=D (n*c≤140737488355328):=qk7 decide_eq_true_iff
theorem g22 {α:Type} {l:List α}:len l=(l.length:Int):=rfl
theorem g23 {α:Type} {l:List α}:ln l=l.length:=rfl
theorem g24 {a b:Nat}:nadd a b=a+b:=rfl
theorem g25 {α:Type} {a b:List α}:app a b=a++b:=rfl
theorem g26 {α:Type}:none' α=[]:=rfl
theorem g27 {n:Int} (h : -9223372036854775808≤n∧n≤9223372036854775807):i64 n=n:=zR h.1 h.2
theorem g28 {a b:Int}:iadd a b=a+b:=rfl
theorem g29 {a b:Int}:isub a b=a - b:=rfl
theorem g30 {a b:Int}:imul a b=a*b:=rfl
theorem g31 {a b:Int} (h:0≤a):idiv a b=a / b:=by simp only [idiv];exact Int.tdiv_eq_ediv_of_nonneg h
theorem g32 {a b:Int} (h:0≤a):imod a b=a % b:=by simp only [imod];exact Int.tmod_eq_emod_of_nonneg h
theorem g33 {a:Int}:nat a=a.toNat:=rfl
theorem g34 {a:Nat}:ofn a=(a:Int):=rfl
theorem g35 {a b:Nat}:nsub a b=a - b:=rfl
theorem g36 {c:Bool}:band true c=c:=rfl
theorem g37 {c:Bool}:band c true=c:=by cases c <;> rfl
theorem g38 {c:Bool}:bor false c=c:=rfl
theorem g39 {c:Bool}:bor c false=c:=by cases c <;> rfl
theorem g40 {c:Bool}:bnot (bnot c)=c:=by cases c <;> rfl
theorem g41:bnot true=false:=rfl
theorem g42:bnot false=true:=rfl
theorem g43 {a b:Bool}:beb a b=D (a=b):=qk7 (by unfold beb;exact beq_iff_eq)
theorem g44 {c:Bool}:band false c=false:=rfl
theorem g45 {c:Bool}:band c false=false:=by cases c <;> rfl
theorem g46 {c:Bool}:bor true c=true:=rfl
theorem g47 {c:Bool}:bor c true=true:=by cases c <;> rfl
theorem g48 {α β:Type} {k:α→Option β}:ob none k=none:=rfl
theorem g49 {p q:Prop}:(D p=D q)=(p↔q):=by
 refine propext ⟨fun h=>qk6.symm.trans ((Bool.eq_iff_iff.1 h).trans qk6),fun h=>Bool.eq_iff_iff.2 (qk6.trans (h.trans qk6.symm))⟩
theorem g50 {α:Type} {c:Bool} {a:α}:sel c a a=a:=by cases c <;> rfl
theorem g51 {p:Prop} [Decidable p]:decide p=D p:=qk7 decide_eq_true_iff
theorem g52:D True=true:=D_t trivial
theorem g53:D False=false:=D_f not_false
theorem g54 {p:Prop}:(D p=true)=p:=propext qk6
theorem g55 {p:Prop}:(D p=false)=¬ p:=by
 refine propext ⟨fun h hp => ?_,D_f⟩
 rw [D_t hp] at h;cases h
theorem g56 {p:Prop}:(true=D p)=p:=propext ⟨fun h=>qk6.1 h.symm,fun h=>(qk6.2 h).symm⟩
theorem g57 {a b:Int}:minI a b=min a b:=by unfold minI;split <;> omega
theorem g58 {a b:Int}:maxI a b=max a b:=by unfold maxI;split <;> omega
theorem g60 {a:UInt16}:n16 a=(a.toNat:Int):=rfl
theorem g61 {a:Int} (h:0≤a∧a < 256):n8 (u8 a)=a:=by
 obtain ⟨n,rfl⟩:∃ n:Nat,a=n:=⟨a.toNat,by omega⟩
 exact qQi (by omega)
theorem qLU {σ ρ β:Type} {y:σ} {kn:σ→Option β} {ke:Nat→σ→Option β} {kr:ρ→Option β}:lc (some (.nx y)) kn ke kr=kn y:=rfl
theorem w8 {p:Prop} (h:p):some (D p,())=some (true,()):=by rw [D_t h]
theorem yI {p:Prop} (h:¬ p):some (D p,())=some (false,()):=by rw [D_f h]
theorem zJ {p q:Prop} (h:p↔q):some (D p,())=some (D q,()):=by rw [show p=q from propext h]
theorem qG9 {σ ρ β:Type} {r:ρ} {kn:σ→Option β} {ke:Nat→σ→Option β} {kr:ρ→Option β}:lc (some (.rt r)) kn ke kr=kr r:=rfl
theorem qsK {σ ρ β:Type} {y:σ} {k:Nat} {kn:σ→Option β} {ke:Nat→σ→Option β} {kr:ρ→Option β}:lc (some (.ex k y)) kn ke kr=ke k y:=rfl
theorem g62 {k:Nat}:neb k k=true:=by simp [neb]
theorem g63 {n:Nat}:nat (n:Int)=n:=qP
theorem g64:((1:Nat):Int)=1:=rfl
theorem g65:((0:Nat):Int)=0:=rfl
theorem g66 {p:Prop}:(false=D p)=¬ p:=propext ⟨fun h=>g55.mp h.symm,fun h=>(D_f h).symm⟩
def qaN {β σ ρ:Type} (mk:β→Nat→σ) (i:Nat):LS β ρ→LS σ ρ
 | .nx b => .nx (mk b (i+1)) | .ex k b => .ex k (mk b i) | .rt r => .rt r
def y2 {α β σ ρ:Type} (mk:β→Nat→σ) (e:Nat) (step:β→α→LS β ρ):β→Nat→List α→LS σ ρ
 | b,i,[] => .ex e (mk b i)
 | b,i,x :: r=>match step b x with
  | .nx b'=>y2 mk e step b' (i+1) r
  | .ex k b' => .ex k (mk b' i)
  | .rt q => .rt q
theorem xM {α β σ ρ:Type} {f:σ→Option (LS σ ρ)} (l:List α) (mk:β→Nat→σ) (e:Nat) (step:β→α→LS β ρ) (I:β→Nat→Prop)
  (hs:∀ b i (h:i < l.length),I b i→f (mk b i)=some (qaN mk i (step b l[i]))∧∀ b',step b l[i] = .nx b'→I b' (i+1))
  (he:∀ b,I b l.length→f (mk b l.length)=some (.ex e (mk b l.length))) (b0:β) (h0:I b0 0):loop f (mk b0 0)=some (y2 mk e step b0 0 l):=by
 have key:∀ (r:List α) (i:Nat) (b:β),l.drop i=r→i≤l.length→I b i→loop f (mk b i)=some (y2 mk e step b i r):=by
  intro r
  induction r with
  | nil =>
   intro i b hr hi hI
   have hl:=congrArg List.length hr
   rw [List.length_drop,List.length_nil] at hl
   have:i=l.length:=by omega
   subst this
   exact qU (he b hI)
  | cons x r ih =>
   intro i b hr hi hI
   have hl:=congrArg List.length hr
   rw [List.length_drop,List.length_cons] at hl
   have hlt:i < l.length:=by omega
   have hx:l[i]=x∧l.drop (i+1)=r:=by
    rw [List.drop_eq_getElem_cons hlt] at hr
    exact ⟨(List.cons.inj hr).1,(List.cons.inj hr).2⟩
   obtain ⟨h1,h2⟩:=hs b i hlt hI
   rw [hx.1] at h1 h2
   unfold y2
   cases hst:step b x with
   | nx b'=>rw [hst] at h1;rw [vF h1];exact ih (i+1) b' hx.2 hlt (h2 b' hst)
   | ex k b'=>rw [hst] at h1;exact qU h1
   | rt q=>rw [hst] at h1;exact qdI h1
 exact key l 0 b0 rfl (Nat.zero_le _) h0
attribute [go_sem ↓] g02 g03 g04 g05 g06
attribute [go_sem] g01 g02 g03 g04 g05 g06 g07 g08 g09 g10 g11 g12 g13 g14 g15 g16 g17 g18 g19 g20 g21 g22 g23 g24 g25 g26 g27 g28 g29 g30 g31 g32 g34 g35 g36 g37 g38 g39 g40 g41 g42 g43 g44 g45 g46 g47 g48 g49 g50 g51 g52 g53 g54 g55 g56 g57 g58 g60 g61 not_true_eq_false not_false_eq_true List.nil_append List.append_nil List.length_nil and_true true_and or_true true_or or_false false_or and_false false_and if_true if_false qG9 qsK qLU g62 g63 Int.toNat_natCast Int.natCast_add qK g33 g64 g65 Int.toNat_zero Bool.false_eq_true g66
end Yp
namespace Yp
open Go
theorem yY {b x q:BB} {A:Nat} (hA:A≤b.length) (h:b.drop A=x++q):A+x.length≤b.length∧b.drop (A+x.length)=q:=by
 have:=qBo hA h
 rw [List.length_append] at this
 refine ⟨by omega, ?_⟩
 rw [← List.drop_drop,h,List.drop_left]
theorem qJt {k l:Int} {b v q:BB} {A:Nat} (hA:A≤b.length) (hv:fv k l v) (h400:v.length≤400) (h:b.drop A=body k v++q):rdB k l b A v.length=(v,((A+(body k v).length:Nat):Int),0,()):=by
 have hl:=(yY hA h).1
 unfold rdB
 by_cases h2:k≤2
 ·have hb:body k v=bcd (pad v):=by unfold body;rw [if_pos h2]
  rw [hb] at h ⊢
  rw [if_pos h2,qnA hA (by omega) (hv.1.1 h2) h,z2]
  rfl
 ·have hb:body k v=v:=by unfold body;rw [if_neg h2]
  rw [hb] at h hl ⊢
  have ht:=qzP h
  simp only [Int.toNat_natCast]
  rw [if_neg h2,if_neg (by omega),ht,if_pos hv];rfl
theorem qJs {k l:Int} {b v:BB} {A N:Nat} {I:Int} (hA:A≤b.length) (hN:N≤400) (h:rdB k l b A N=(v,I,0,())) :
  v.length=N∧(k≤2→figs v)∧(¬ k≤2→fv k l v)∧I=((A+(body k v).length:Nat):Int)∧A+(body k v).length≤b.length∧tk b A (body k v).length=body k v:=by
 unfold rdB at h
 by_cases h2:k≤2
 ·rw [if_pos h2] at h
  rcases jE hA (show N≤999 by omega) with ⟨_,e⟩ | ⟨_,e,_⟩ | ⟨s,h3,e,hf,hs,ht⟩
  ·rw [e] at h;simp at h
  ·rw [e] at h;simp at h
  ·rw [e] at h
   simp only [if_pos,Prod.mk.injEq,and_true] at h
   obtain ⟨rfl,rfl⟩:=h
   have hb:body k s=bcd (pad s):=by unfold body;rw [if_pos h2]
   have hbl:(bcd (pad s)).length=(N+1) / 2:=by rw [z2,hs]
   rw [hb,hbl]
   exact ⟨hs,fun _=>hf,fun hc=>absurd h2 hc,rfl,h3,ht⟩
 ·rw [if_neg h2] at h
  by_cases h3:(b.length:Int) - A < N
  ·rw [if_pos h3] at h;simp at h
  rw [if_neg h3] at h
  simp only [Int.toNat_natCast] at h
  by_cases h4:fv k l (tk b A N)
  ·rw [if_pos h4] at h
   simp only [Prod.mk.injEq,and_true] at h
   obtain ⟨rfl,rfl⟩:=h
   have hl:=vZ (show A+N≤b.length by omega)
   have hb:body k (tk b A N)=tk b A N:=by unfold body;rw [if_neg h2]
   rw [hb,hl]
   exact ⟨rfl,fun hc=>absurd hc h2,fun _=>h4,by omega,by omega,rfl⟩
  ·rw [if_neg h4] at h;simp at h
theorem qMQ {k:Int} {n:Nat} (h0:0 < cnt k):hdr k n=bcd (pad (ps 10 dch n (cnt k).toNat)):=by unfold hdr;rw [if_pos h0]
theorem qKs {k:Int} {n:Nat} (h0:¬ 0 < cnt k):hdr k n=[]:=by unfold hdr;rw [if_neg h0]
theorem qH9 {k:Int} {n:Nat}:(hdr k n).length=if 0 < cnt k then ((cnt k).toNat+1) / 2 else 0:=by
 unfold hdr;split
 ·rw [z2,zP]
 ·rfl
theorem qqY {k:Int} {v:BB} (hk:kinds k):(wrF k v).length=(if k=2∨k=4 then 1 else if k=5∨k=7 then 2 else 0)+(if k≤2 then (v.length+1) / 2 else v.length):=by
 unfold wrF
 rw [List.length_append,qn2,qH9]
 congr 1
 rcases hk with rfl | rfl | rfl | rfl | rfl | rfl | rfl <;> rfl
theorem qMS {no k l:Int} {v:BB} (ho:zF no=some (k,l)) (hv:fv k l v):1≤v.length∧(v.length:Int)≤l∧v.length≤400:=by
 obtain ⟨hk,h1,h400,_⟩:=wN ho
 have:=hv.2
 unfold fln at this
 split at this <;> omega
theorem qNq {no k l:Int} {b v q:BB} {A:Nat} (ho:zF no=some (k,l)) (hA:A≤b.length) (hv:fv k l v) (h:b.drop A=wrF k v++q):rdF k l b A=(v,((A+(wrF k v).length:Nat):Int),0,()):=by
 obtain ⟨hk,h1,h400,h99⟩:=wN ho
 obtain ⟨hv1,hv2,hv3⟩:=qMS ho hv
 unfold rdF
 rw [if_neg (by omega)]
 unfold wrF at h ⊢
 by_cases h0:0 < cnt k
 ·rw [if_pos h0]
  obtain ⟨c1,c2,c3⟩:=qKQ hk h99 h400 hv h0
  rw [qMQ h0] at h ⊢
  rw [List.append_assoc] at h
  have hp:=qnA (s:=ps 10 dch v.length (cnt k).toNat) hA (by rw [zP];omega) qnT h
  rw [zP,Int.toNat_of_nonneg (by omega)] at hp
  rw [hp]
  have hval:val (ps 10 dch v.length (cnt k).toNat)=v.length:=by
   rw [qIJ,Nat.mod_eq_of_lt]
   have:=c2.2
   have h10:((10:Int) ^ (cnt k).toNat)=((10 ^ (cnt k).toNat:Nat):Int):=qLz 10 _
   rw [h10] at this;omega
  simp only [if_pos]
  rw [hval,if_neg (by omega)]
  have hd:=yY hA h
  rw [z2,zP] at hd
  rw [qJt hd.1 hv hv3 hd.2,List.length_append,z2,zP]
  simp only [Nat.add_assoc]
 ·rw [if_neg h0]
  have hl:=(qBg hk h0).1 hv.2
  rw [qKs h0,List.nil_append] at h ⊢
  have:=qJt hA hv hv3 h
  rw [hl] at this;exact this
theorem qNp {no k l:Int} {b v:BB} {A:Nat} {I:Int} (ho:zF no=some (k,l)) (hA:A≤b.length) (h:rdF k l b A=(v,I,0,())) :
  fv k l v∧I=((A+(wrF k v).length:Nat):Int)∧A+(wrF k v).length≤b.length∧b.drop A=wrF k v++b.drop (A+(wrF k v).length):=by
 obtain ⟨hk,h1,h400,h99⟩:=wN ho
 unfold rdF at h
 rw [if_neg (by omega)] at h
 by_cases h0:0 < cnt k
 ·rw [if_pos h0] at h
  have hcr:=qw0 hk
  obtain ⟨C,hC⟩:∃ n:Nat,cnt k=n:=⟨(cnt k).toNat,by omega⟩
  rw [hC] at h
  rcases jE hA (show C≤999 by omega) with ⟨_,e⟩ | ⟨_,e,_⟩ | ⟨s,h3,e,hf,hs,ht⟩
  ·rw [e] at h;simp at h
  ·rw [e] at h;simp at h
  ·rw [e] at h
   simp only [if_pos] at h
   by_cases hm:(val s:Int) < 1∨l < val s
   ·rw [if_pos hm] at h;simp at h
   rw [if_neg hm] at h
   obtain ⟨e1,e2,e3,e4,e5,e6⟩:=qJs h3 (by omega) h
   have hfv:fv k l v:=by
    by_cases h2:k≤2
    ·exact qJW h2 (e2 h2) (qKD h0 (by omega) (by omega))
    ·exact e3 h2
   have hh:hdr k v.length=bcd (pad s):=by
    rw [qMQ h0,e1,hC,Int.toNat_natCast,← hs,qMF hf]
   have hhl:(hdr k v.length).length=(C+1) / 2:=by rw [hh,z2,hs]
   refine ⟨hfv, ?_, ?_, ?_⟩
   ·rw [e4];unfold wrF;rw [List.length_append,hhl];omega
   ·unfold wrF;rw [List.length_append,hhl];omega
   ·unfold wrF
    rw [List.length_append,hhl,← Nat.add_assoc,List.append_assoc,← qmC e6,hh]
    exact qmC ht
 ·rw [if_neg h0] at h
  obtain ⟨L,hL⟩:∃ n:Nat,l=n:=⟨l.toNat,by omega⟩
  rw [hL] at h
  obtain ⟨e1,e2,e3,e4,e5,e6⟩:=qJs hA (by omega) h
  rw [← hL] at e3
  have hfv:fv k l v:=by
   by_cases h2:k≤2
   ·exact qJW h2 (e2 h2) ((qBg hk h0).2 (by omega))
   ·exact e3 h2
  refine ⟨hfv, ?_, ?_, ?_⟩ <;> unfold wrF <;> rw [qKs h0,List.nil_append]
  ·exact e4
  ·exact e5
  ·exact qmC e6
theorem qOR {k:Int} {v:BB} (hk:kinds k) (h:v.length≤400):(wrF k v).length≤402:=by
 rw [qqY hk];repeat' split
 all_goals omega
theorem qM6 {k:Int} {v:BB} (hk:kinds k) (h:1≤v.length):1≤(wrF k v).length:=by
 rw [qqY hk];repeat' split
 all_goals omega
abbrev V:=Int×BB×Unit
abbrev M:=Int×List V×Unit
def jJ (m:Int):Prop:=100≤m∧m≤899∧m / 10 % 10≤4∧m % 10≤5
instance (m:Int):Decidable (jJ m):=inferInstanceAs (Decidable (_∧_))
theorem wM (m:Int) (n:Nat) (hn:n≤3) (h0:0≤m) (h:m≤9223372036854775807):yW (m,(n:Int),())=some (m / 10 ^ n % 10,()):=by
 unfold yW
 generalize hf:(fun (x_1:Int×Int×Unit)=>_)=f
 have step:∀ (k:Int) (i:Nat),i < n→0≤k→k≤9223372036854775807→f (k,(i:Int),())=some (.nx (k / 10,((i+1:Nat):Int),())):=fun k i hi h0 h1=>by
  subst hf;simp (disch:=omega) only [go_sem,Int.reduceToNat]
 have last:∀ (k:Int),f (k,(n:Int),())=some (.ex 0 (k,(n:Int),())):=fun k=>by
  subst hf;simp (disch:=omega) only [go_sem,Int.reduceToNat]
 have hn:n=0∨n=1∨n=2∨n=3:=by omega
 have e:loop f (m,((0:Nat):Int),())=some (.ex 0 (m / 10 ^ n,(n:Int),())):=by
  rcases hn with rfl | rfl | rfl | rfl
  ·rw [qU (last m)];simp
  ·rw [vF (step m 0 (by omega) h0 h),qU (last _)];simp
  ·rw [vF (step m 0 (by omega) h0 h),vF (step _ 1 (by omega) (by omega) (by omega)),qU (last _)];simp;omega
  ·rw [vF (step m 0 (by omega) h0 h),vF (step _ 1 (by omega) (by omega) (by omega)),vF (step _ 2 (by omega) (by omega) (by omega)),qU (last _)];simp;omega
 refine (qX e).trans ?_
 have:0≤m / 10 ^ n:=by rcases hn with rfl | rfl | rfl | rfl <;> simp <;> omega
 simp (disch:=omega) only [go_sem,Int.reduceToNat]
theorem qcC (m:Int):qhP (m,())=some (D (jJ m),()):=by
 unfold qhP
 by_cases h:m < 0∨999 < m
 ·have hn:¬ jJ m:=by unfold jJ;omega
  simp (disch:=omega) only [go_sem,Int.reduceToNat,hn]
 ·have h0:=wM m 0 (by omega) (by omega) (by omega)
  have h1:=wM m 1 (by omega) (by omega) (by omega)
  have h2:=wM m 2 (by omega) (by omega) (by omega)
  simp at h0 h1 h2
  simp (disch:=omega) only [go_sem,Int.reduceToNat,h0,h1,h2]
  exact zJ (by unfold jJ;omega)
theorem v9 (m:Int):qcL (m,())=some (D (jJ m),()):=by
 unfold qcL
 by_cases h:100≤m∧m≤899
 ·simp (disch:=first | assumption | omega | (dsimp only;omega) | decide) only [go_sem,Int.reduceToNat]
  exact zJ (by unfold jJ;omega)
 ·have hn:¬ jJ m:=by unfold jJ;omega
  simp (disch:=omega) only [go_sem,Int.reduceToNat,hn]
def z3:Int→List V→Bool
 | _,[]=>true
 | last,v :: r=>decide (last < v.1) && (xQ v.1 v.2.1 && z3 v.1 r)
def xX (m:M):Bool:=z3 0 m.2.1 && decide (jJ m.1)
def fewM (m:M):Prop:=m.2.1.length≤1000∧∀ v∈m.2.1,v.2.1.length≤1000000
theorem fewM.nth {m:M} (h:fewM m) {i:Nat} (hi:i < m.2.1.length):(m.2.1[i]).2.1.length≤1000000:=h.2 _ (List.getElem_mem hi)
def xG (last:Int) (v:V):LS Int (Bool×Unit):=if last < v.1∧xQ v.1 v.2.1=true then .nx v.1 else .rt (false,())
theorem qnS {σ:Type} {mk:Int→Nat→σ} {e:Nat}:∀ (l:List V) (last:Int) (i:Nat),(z3 last l=true∧∃ y,y2 mk e xG last i l = .ex e y)∨(z3 last l=false∧y2 mk e xG last i l = .rt (false,()))
 | [],last,i => .inl ⟨rfl,_,rfl⟩
 | v :: r,last,i=>by
  by_cases h:last < v.1∧xQ v.1 v.2.1=true
  ·have hs:xG last v = .nx v.1:=if_pos h
   have:=qnS (mk:=mk) (e:=e) r v.1 (i+1)
   simp only [y2,hs,z3,h.1,h.2,decide_true,Bool.true_and];exact this
  ·have hs:xG last v = .rt (false,()):=if_neg h
   refine .inr ⟨?_,by simp only [y2,hs]⟩
   simp only [z3,Bool.and_eq_false_iff,decide_eq_false_iff_not]
   by_cases h1:last < v.1
   ·right;left;exact (Bool.not_eq_true _).mp fun hc=>h ⟨h1,hc⟩
   ·exact .inl h1
theorem qyY (m:M) (hm:fewM m):qpO (m,())=some (xX m,()):=by
 unfold qpO
 generalize hf:(fun (x_1:Bool×Int×Int×Unit)=>_)=f
 have hl:=hm.1
 have key:=xM (f:=f) m.2.1 (fun last i=>(false,last,(i:Int),())) 0 xG (fun _ _=>True) (fun b i h _=>⟨?_,fun _ _=>trivial⟩) (fun b _ => ?_) 0 trivial
 ·refine (qX key).trans ?_
  unfold xX
  rcases qnS (mk:=fun last i=>((false,last,(i:Int),()):Bool×Int×Int×Unit)) (e:=0) m.2.1 0 0 with ⟨h1,y,h2⟩ | ⟨h1,h2⟩
  ·rw [h1,h2];simp (disch:=first | assumption | omega | (dsimp only;omega) | decide) only [go_sem,Int.reduceToNat,qcC,Bool.true_and]
  ·rw [h1,h2];simp (disch:=first | assumption | omega | (dsimp only;omega) | decide) only [go_sem,Int.reduceToNat,Bool.false_and]
 ·subst hf
  have:=hm.nth h
  have hfd:=wQ (m.2.1[i]).1 (m.2.1[i]).2.1 this
  by_cases h1:m.2.1[i].1≤b
  ·have hs:xG b m.2.1[i] = .rt (false,()):=if_neg fun hc=>by omega
   simp (disch:=omega) only [go_sem,Int.reduceToNat,hs,qaN]
  ·cases h2:xQ (m.2.1[i]).1 (m.2.1[i]).2.1
   ·have hs:xG b m.2.1[i] = .rt (false,()):=if_neg fun hc=>by rw [h2] at hc;exact absurd hc.2 (by simp)
    simp (disch:=omega) only [go_sem,Int.reduceToNat,hfd,h2,hs,qaN]
   ·have hs:xG b m.2.1[i] = .nx m.2.1[i].1:=if_pos ⟨by omega,h2⟩
    simp (disch:=omega) only [go_sem,Int.reduceToNat,hfd,h2,hs,qaN]
 ·subst hf;simp (disch:=omega) only [go_sem,Int.reduceToNat]
theorem qIb {no:Int} (h:no≤0):zF no=none:=by
 unfold zF
 rw [Option.map_eq_none_iff,List.find?_eq_none]
 have:∀ r∈frows,∀ c∈r.drop 2,1≤c:=by decide +kernel
 intro r hr hc
 rw [List.contains_eq_mem,decide_eq_true_eq] at hc
 have:=this r hr no hc
 omega
theorem qKE {no:Int} {v:BB} (h:xQ no v=true):1≤no:=by
 refine Classical.byContradiction fun hc => ?_
 unfold xQ at h
 rw [qIb (by omega)] at h
 exact absurd h (by simp)
theorem qtS (m:M) (hm:fewM m):qhA (m,())=some (xX m,()):=by
 unfold qhA
 generalize hf:(fun (x_1:Bool×Int×Unit)=>_)=f
 have hl:=hm.1
 have key:=xM (f:=f) m.2.1 (fun (last:Int) i=>(false,(i:Int),())) 0 xG (fun b i=>(i=0∧b=0)∨∃ h:i - 1 < m.2.1.length,0 < i∧m.2.1[i - 1].1=b) (fun b i h hI=>⟨?_,fun b' hb => ?_⟩) (fun b _ => ?_) 0 (.inl ⟨rfl,rfl⟩)
 ·refine (qX key).trans ?_
  unfold xX
  rcases qnS (mk:=fun (last:Int) i=>((false,(i:Int),()):Bool×Int×Unit)) (e:=0) m.2.1 0 0 with ⟨h1,y,h2⟩ | ⟨h1,h2⟩
  ·rw [h1,h2];simp (disch:=first | assumption | omega | (dsimp only;omega) | decide) only [go_sem,Int.reduceToNat,v9,Bool.true_and]
  ·rw [h1,h2];simp (disch:=first | assumption | omega | (dsimp only;omega) | decide) only [go_sem,Int.reduceToNat,Bool.false_and]
 ·subst hf
  have:=hm.nth h
  have hfd:=qjK (m.2.1[i]).1 (m.2.1[i]).2.1 this
  cases h2:xQ (m.2.1[i]).1 (m.2.1[i]).2.1
  ·have hs:xG b m.2.1[i] = .rt (false,()):=if_neg fun hc=>by rw [h2] at hc;exact absurd hc.2 (by simp)
   simp (disch:=omega) only [go_sem,Int.reduceToNat,hfd,h2,hs,qaN]
  ·have hp:=qKE h2
   rcases hI with ⟨rfl,rfl⟩ | ⟨h',h0,rfl⟩
   ·have hs:xG 0 m.2.1[0] = .nx m.2.1[0].1:=if_pos ⟨by omega,h2⟩
    simp (disch:=omega) only [go_sem,Int.reduceToNat,hfd,h2,hs,qaN]
   ·have hq:((i:Int) - 1).toNat=i - 1:=by omega
    by_cases h1:m.2.1[i].1≤m.2.1[i - 1].1
    ·have hs:xG m.2.1[i - 1].1 m.2.1[i] = .rt (false,()):=if_neg fun hc=>by omega
     simp (disch:=omega) only [go_sem,Int.reduceToNat,hfd,h2,hs,qaN,hq]
    ·have hs:xG m.2.1[i - 1].1 m.2.1[i] = .nx m.2.1[i].1:=if_pos ⟨by omega,h2⟩
     simp (disch:=omega) only [go_sem,Int.reduceToNat,hfd,h2,hs,qaN,hq]
 ·right
  refine ⟨by simpa using h,by omega, ?_⟩
  simp only [Nat.add_sub_cancel]
  unfold xG at hb
  split at hb
  ·cases hb;rfl
  ·cases hb
 ·subst hf;simp (disch:=omega) only [go_sem,Int.reduceToNat]
theorem qiQ (a b:BB):qdT (a,b,())=some (D (a=b),()):=by unfold qdT;simp only [go_sem,Int.reduceToNat]
abbrev N:=Bool×Int×Int×Int×Int×BB×BB×Int×Unit
def yV (c:Int):Prop:=c=1∨c=2∨c=101∨c=201∨c=301
instance (c:Int):Decidable (yV c):=by unfold yV;infer_instance
def qpM (n:N):Prop :=
 if n.1=true∧n.2.1=101 then 1≤n.2.2.2.2.1∧n.2.2.2.2.1≤2147483647∧n.2.2.2.2.2.1.length=8∧n.2.2.2.2.2.2.1.length=3∧n.2.2.2.2.2.2.2.1=0
 else n.2.2.2.2.1=0∧n.2.2.2.2.2.1=[]∧n.2.2.2.2.2.2.1=[]∧(if n.1=true∧n.2.1=201 then 0≤n.2.2.2.2.2.2.2.1∧n.2.2.2.2.2.2.2.1≤999999 else n.2.2.2.2.2.2.2.1=0)
instance (n:N):Decidable (qpM n):=by unfold qpM;infer_instance
def z7 (n:N):Prop:=yV n.2.1∧1≤n.2.2.1∧n.2.2.1≤999999∧0≤n.2.2.2.1∧n.2.2.2.1≤99∧(n.1=true→n.2.2.2.1=0)∧qpM n
instance (n:N):Decidable (z7 n):=by unfold z7;infer_instance
theorem qiF (c:Int):qc0 (c,())=some (D (yV c),()):=by
 unfold qc0 yV
 by_cases h1:c=1 <;> by_cases h2:c=2 <;> by_cases h3:c=101 <;> by_cases h4:c=201 <;> by_cases h5:c=301 <;> simp only [go_sem,Int.reduceToNat,h1,h2,h3,h4,h5]
theorem qcS {p q:Prop} (h:p↔q):(some (D p,()):Option (Bool×Unit))=some (D q,()):=by rw [show p=q from propext h]
theorem qzV {q:Prop} (h:¬ q):(some (false,()):Option (Bool×Unit))=some (D q,()):=by rw [D_f h]
theorem len0 {α:Type} {l:List α}:((l.length:Int)=0)↔l=[]:=by rw [← List.length_eq_zero_iff];omega
theorem jX {rq:Bool} {c st rs g:Int} {no k:BB} {d:Int}:z7 (rq,c,st,rs,g,no,k,d,())↔(yV c∧1≤st∧st≤999999∧0≤rs∧rs≤99∧(rq=true→rs=0) ∧
  (if rq=true∧c=101 then 1≤g∧g≤2147483647∧no.length=8∧k.length=3∧d=0 else g=0∧(no.length:Int)=0∧(k.length:Int)=0∧(if rq=true∧c=201 then 0≤d∧d≤999999 else d=0))):=by
 unfold z7 qpM
 simp only [len0]
theorem qEU {α:Type} {p:Prop} {x y z:α} (h1:p→x=z) (h2:¬ p→y=z):sel (D p) x y=z:=by
 by_cases h:p
 ·rw [D_t h];exact h1 h
 ·rw [D_f h];exact h2 h
theorem qiE (n:N):qgY (n,())=some (D (z7 n),()):=by
 obtain ⟨rq,c,st,rs,g,no,k,d,⟨⟩⟩:=n
 unfold qgY
 simp only [go_sem,Int.reduceToNat,qiF]
 show _=some (D (z7 (rq,c,st,rs,g,no,k,d,())),())
 cases rq
 ·simp only [band,bor,Bool.false_and,Bool.or_false,sel,cond_false]
  refine qEU (fun h=>qzV fun hr => ?_) fun h=>qEU (fun h2=>qzV fun hr => ?_) fun h2=>qcS ?_
  all_goals simp only [jX] at *
  all_goals grind
 ·simp only [band,bor,Bool.true_and,sel]
  rw [show (D ((((¬yV c∨st < 1)∨999999 < st)∨rs < 0)∨99 < rs) || D (¬rs=0))=D (((((¬yV c∨st < 1)∨999999 < st)∨rs < 0)∨99 < rs)∨¬rs=0) from qk7 (by rw [Bool.or_eq_true,qk6,qk6])]
  refine qEU (fun h=>qzV fun hr => ?_) fun h=>qEU (fun h2=>qcS ?_) fun h2=>qEU (fun h3=>qzV fun hr => ?_) fun h3=>qEU (fun h4=>qcS ?_) fun h4=>qcS ?_
  all_goals simp only [jX] at *
  all_goals grind
theorem qdH (n:N):qf3 (n,())=some (D (z7 n),()):=by
 obtain ⟨rq,c,st,rs,g,no,k,d,⟨⟩⟩:=n
 unfold qf3 qv6 qdF qdG qa9 qnK
 simp only [go_sem,Int.reduceToNat]
 show _=some (D (z7 (rq,c,st,rs,g,no,k,d,())),())
 rw [show bor (D (((st < 1∨999999 < st)∨rs < 0)∨99 < rs)) (band rq (D (0 < rs)))=D ((((st < 1∨999999 < st)∨rs < 0)∨99 < rs)∨(rq=true∧0 < rs)) from qk7 (by simp [bor,band,qk6])]
 refine qEU (fun h=>qzV fun hr => ?_) fun h => ?_
 ·simp only [jX] at hr;grind
 rw [show band (D (c=101)) rq=D (c=101∧rq=true) from qk7 (by simp [band,qk6]),show band (D (c=201)) rq=D (c=201∧rq=true) from qk7 (by simp [band,qk6])]
 by_cases h1:c=101∧rq=true
 ·simp only [go_sem,Int.reduceToNat,h1,D_t h1]
  refine qcS ?_
  simp only [jX,yV];grind
 ·by_cases h2:c=201∧rq=true
  ·simp only [go_sem,Int.reduceToNat,D_f h1,D_t h2]
   refine qcS ?_
   simp only [jX,yV];grind
  ·by_cases h3:(((c=1∨c=2)∨c=101)∨c=201)∨c=301
   ·simp only [go_sem,Int.reduceToNat,D_f h1,D_f h2,D_t h3]
    refine qcS ?_
    simp only [jX,yV];grind
   ·simp only [go_sem,Int.reduceToNat,D_f h1,D_f h2,D_f h3]
    refine qzV fun hr => ?_
    simp only [jX,yV] at hr;grind
def mkb (g:Nat→Bool):UInt8:=UInt8.ofNat ((g 0).toNat*128+(g 1).toNat*64+(g 2).toNat*32+(g 3).toNat*16+(g 4).toNat*8+(g 5).toNat*4+(g 6).toNat*2+(g 7).toNat)
theorem qPW:∀ b0 b1 b2 b3 b4 b5 b6 b7:Bool,bt (UInt8.ofNat (b0.toNat*128+b1.toNat*64+b2.toNat*32+b3.toNat*16+b4.toNat*8+b5.toNat*4+b6.toNat*2+b7.toNat)) 0=b0 ∧
  bt (UInt8.ofNat (b0.toNat*128+b1.toNat*64+b2.toNat*32+b3.toNat*16+b4.toNat*8+b5.toNat*4+b6.toNat*2+b7.toNat)) 1=b1∧bt (UInt8.ofNat (b0.toNat*128+b1.toNat*64+b2.toNat*32+b3.toNat*16+b4.toNat*8+b5.toNat*4+b6.toNat*2+b7.toNat)) 2=b2 ∧
  bt (UInt8.ofNat (b0.toNat*128+b1.toNat*64+b2.toNat*32+b3.toNat*16+b4.toNat*8+b5.toNat*4+b6.toNat*2+b7.toNat)) 3=b3∧bt (UInt8.ofNat (b0.toNat*128+b1.toNat*64+b2.toNat*32+b3.toNat*16+b4.toNat*8+b5.toNat*4+b6.toNat*2+b7.toNat)) 4=b4 ∧
  bt (UInt8.ofNat (b0.toNat*128+b1.toNat*64+b2.toNat*32+b3.toNat*16+b4.toNat*8+b5.toNat*4+b6.toNat*2+b7.toNat)) 5=b5∧bt (UInt8.ofNat (b0.toNat*128+b1.toNat*64+b2.toNat*32+b3.toNat*16+b4.toNat*8+b5.toNat*4+b6.toNat*2+b7.toNat)) 6=b6 ∧
  bt (UInt8.ofNat (b0.toNat*128+b1.toNat*64+b2.toNat*32+b3.toNat*16+b4.toNat*8+b5.toNat*4+b6.toNat*2+b7.toNat)) 7=b7:=by decide +kernel
theorem qHw {g:Nat→Bool} {t:Nat} (ht:t < 8):bt (mkb g) t=g t:=by
 obtain ⟨h0,h1,h2,h3,h4,h5,h6,h7⟩:=qPW (g 0) (g 1) (g 2) (g 3) (g 4) (g 5) (g 6) (g 7)
 have:t=0∨t=1∨t=2∨t=3∨t=4∨t=5∨t=6∨t=7:=by omega
 rcases this with rfl | rfl | rfl | rfl | rfl | rfl | rfl | rfl <;> assumption
theorem qMM:∀ c:UInt8,mkb (bt c)=c:=all8 (by decide +kernel)
theorem qHv {c d:UInt8} (h:∀ t,t < 8→bt c t=bt d t):c=d:=by
 rw [← qMM c,← qMM d]
 unfold mkb
 rw [h 0 (by omega),h 1 (by omega),h 2 (by omega),h 3 (by omega),h 4 (by omega),h 5 (by omega),h 6 (by omega),h 7 (by omega)]
theorem qJ2 {g h:Nat→Bool} (e:∀ t,t < 8→g t=h t):mkb g=mkb h:=qHv fun t ht=>by rw [qHw ht,qHw ht,e t ht]
def bitB (t:Nat):UInt8:=UInt8.ofNat (2 ^ (7 - t))
theorem qOB:∀ t:Nat,t < 8→u8 (shrI .u8 128 (t:Int))=bitB t:=by decide +kernel
theorem qPo:∀ c:UInt8,∀ t:Nat,t < 8→u8 (orI .u8 (n8 c) (n8 (bitB t)))=mkb fun s=>bt c s || Nat.beq s t:=all8 (by decide +kernel)
theorem qOK:∀ c:UInt8,∀ t:Nat,t < 8→bt c t=false→u8 (iadd (n8 c) (n8 (bitB t)))=mkb fun s=>bt c s || Nat.beq s t:=all8 (by decide +kernel)
theorem qOJ:∀ c:UInt8,∀ t:Nat,t < 8→(bnot (beq (n8 (u8 (andI .u8 (n8 c) (n8 (bitB t))))) (n8 (u8 0))))=bt c t:=all8 (by decide +kernel)
theorem qgK {n:Nat} (h1:1≤n) (h2:n≤128):jW ((n:Int),())=some ((((n - 1) / 8:Nat):Int),bitB ((n - 1) % 8),()):=by
 unfold jW
 simp (disch:=omega) only [go_sem,Int.reduceToNat]
 have e1:((n:Int) - 1) / 8=(((n - 1) / 8:Nat):Int):=by omega
 have e2:((n:Int) - 1) % 8=(((n - 1) % 8:Nat):Int):=by omega
 rw [e1,e2,← qOB _ (by omega)]
theorem qiK {n:Nat} (h1:1≤n) (h2:n≤128):yM ((n:Int),())=some ((((n - 1) / 8:Nat):Int),bitB ((n - 1) % 8),()):=by
 unfold yM
 generalize hf:(fun (x_1:Int×Int×Unit)=>_)=f
 have step:∀ i:Nat,i < (n - 1) % 8→f (((2 ^ (7 - i):Nat):Int),(i:Int),())=some (.nx (((2 ^ (7 - (i+1)):Nat):Int),((i+1:Nat):Int),())):=fun i hi=>by
  subst hf
  have hp:i=0∨i=1∨i=2∨i=3∨i=4∨i=5∨i=6:=by omega
  rcases hp with rfl | rfl | rfl | rfl | rfl | rfl | rfl <;> (simp (disch:=first | assumption | omega | (dsimp only;omega) | decide) only [go_sem,Int.reduceToNat];rfl)
 have last:f (((2 ^ (7 - (n - 1) % 8):Nat):Int),(((n - 1) % 8:Nat):Int),())=some (.ex 0 (((2 ^ (7 - (n - 1) % 8):Nat):Int),(((n - 1) % 8:Nat):Int),())):=by
  subst hf;simp (disch:=omega) only [go_sem,Int.reduceToNat]
 have e:=qM (f:=f) (fun i=>(((2 ^ (7 - i):Nat):Int),(i:Int),())) ((n - 1) % 8) step 0 (by omega)
 have e:loop f (128,0,())=_:=e.trans (qU last)
 simp (disch:=omega) only [go_sem,Int.reduceToNat,e]
 have e1:((n:Int) - 1) / 8=(((n - 1) / 8:Nat):Int):=by omega
 rw [e1];unfold bitB;rw [quR]
def jC:Int→List Int→Bool
 | _,[]=>true
 | last,n :: r=>decide (last < n∧n≤128∧n≠65) && jC n r
def qfD (last n:Int):LS Int (Bool×Unit):=if last < n∧n≤128∧n≠65 then .nx n else .rt (false,())
theorem qBf {σ:Type} {mk:Int→Nat→σ} {e:Nat}:∀ (l:List Int) (last:Int) (i:Nat),(jC last l=true∧∃ y,y2 mk e qfD last i l = .ex e y)∨(jC last l=false∧y2 mk e qfD last i l = .rt (false,()))
 | [],last,i => .inl ⟨rfl,_,rfl⟩
 | n :: r,last,i=>by
  by_cases h:last < n∧n≤128∧n≠65
  ·have hs:qfD last n = .nx n:=if_pos h
   have:=qBf (mk:=mk) (e:=e) r n (i+1)
   simp only [y2,hs,jC,decide_eq_true h,Bool.true_and];exact this
  ·have hs:qfD last n = .rt (false,()):=if_neg h
   refine .inr ⟨?_,by simp only [y2,hs]⟩
   simp only [jC,decide_eq_false h,Bool.false_and]
theorem qa1 (l:List Int) (hl:l.length≤1000000):qeG (l,())=some (jC 1 l,()):=by
 unfold qeG
 generalize hf:(fun (x_1:Bool×Int×Int×Unit)=>_)=f
 have key:=xM (f:=f) l (fun last i=>(false,last,(i:Int),())) 0 qfD (fun _ _=>True) (fun b i h _=>⟨?_,fun _ _=>trivial⟩) (fun b _ => ?_) 1 trivial
 ·refine (qX key).trans ?_
  rcases qBf (mk:=fun last i=>((false,last,(i:Int),()):Bool×Int×Int×Unit)) (e:=0) l 1 0 with ⟨h1,y,h2⟩ | ⟨h1,h2⟩
  ·rw [h1,h2];simp (disch:=first | assumption | omega | (dsimp only;omega) | decide) only [go_sem,Int.reduceToNat]
  ·rw [h1,h2];simp (disch:=first | assumption | omega | (dsimp only;omega) | decide) only [go_sem,Int.reduceToNat]
 ·subst hf
  by_cases h1:b < l[i]∧l[i]≤128∧l[i]≠65
  ·have hs:qfD b l[i] = .nx l[i]:=if_pos h1
   simp (disch:=omega) only [go_sem,Int.reduceToNat,hs,qaN]
  ·have hs:qfD b l[i] = .rt (false,()):=if_neg h1
   simp (disch:=omega) only [go_sem,Int.reduceToNat,hs,qaN]
 ·subst hf;simp (disch:=omega) only [go_sem,Int.reduceToNat]
theorem qbR (l:List Int) (hl:l.length≤1000000):qhC (l,())=some (jC 1 l,()):=by
 unfold qhC
 generalize hf:(fun (x_1:Bool×Int×Unit)=>_)=f
 have key:=xM (f:=f) l (fun (last:Int) i=>(false,(i:Int),())) 0 qfD (fun b i=>(i=0∧b=1)∨∃ h:i - 1 < l.length,0 < i∧l[i - 1]=b∧2≤b) (fun b i h hI=>⟨?_,fun b' hb => ?_⟩) (fun b _ => ?_) 1 (.inl ⟨rfl,rfl⟩)
 ·refine (qX key).trans ?_
  rcases qBf (mk:=fun (last:Int) i=>((false,(i:Int),()):Bool×Int×Unit)) (e:=0) l 1 0 with ⟨h1,y,h2⟩ | ⟨h1,h2⟩
  ·rw [h1,h2];simp (disch:=first | assumption | omega | (dsimp only;omega) | decide) only [go_sem,Int.reduceToNat]
  ·rw [h1,h2];simp (disch:=first | assumption | omega | (dsimp only;omega) | decide) only [go_sem,Int.reduceToNat]
 ·subst hf
  rcases hI with ⟨rfl,rfl⟩ | ⟨h',h0,hb,h2⟩
  ·by_cases h1:1 < l[0]∧l[0]≤128∧l[0]≠65
   ·have hs:qfD 1 l[0] = .nx l[0]:=if_pos h1
    simp (disch:=omega) only [go_sem,Int.reduceToNat,hs,qaN]
   ·have hs:qfD 1 l[0] = .rt (false,()):=if_neg h1
    simp (disch:=omega) only [go_sem,Int.reduceToNat,hs,qaN]
  ·have hq:((i:Int) - 1).toNat=i - 1:=by omega
   by_cases h1:b < l[i]∧l[i]≤128∧l[i]≠65
   ·have hs:qfD b l[i] = .nx l[i]:=if_pos h1
    simp (disch:=omega) only [go_sem,Int.reduceToNat,hs,qaN,hq]
   ·have hs:qfD b l[i] = .rt (false,()):=if_neg h1
    simp (disch:=omega) only [go_sem,Int.reduceToNat,hs,qaN,hq]
 ·right
  have hb1:b'=l[i]∧b < l[i]:=by
   unfold qfD at hb
   split at hb
   ·rename_i hc;cases hb;exact ⟨rfl,hc.1⟩
   ·cases hb
  refine ⟨by simpa using h,by omega, ?_, ?_⟩
  ·simp only [Nat.add_sub_cancel];exact hb1.1.symm
  ·rcases hI with ⟨_,rfl⟩ | ⟨_,_,_,h2⟩ <;> omega
 ·subst hf;simp (disch:=omega) only [go_sem,Int.reduceToNat]
def x9 (size:Nat) (S:Nat→Bool):BB:=(List.range size).map fun j=>mkb fun t=>S (8*j+t+1)
theorem v3 {size:Nat} {S:Nat→Bool}:(x9 size S).length=size:=by simp [x9]
theorem qGJ {size:Nat} {S:Nat→Bool} {j:Nat} (h:j < size):nth (x9 size S) j (u8 0)=mkb fun t=>S (8*j+t+1):=by
 rw [qK (by rw [v3];exact h)];simp [x9]
theorem qkF {size:Nat} {S:Nat→Bool} {n:Nat} (h1:1≤n) (h2:n≤8*size):hasB (x9 size S) n=S n:=by
 unfold hasB
 rw [qGJ (by omega),qHw (by omega)]
 congr 1;omega
theorem qJb {a b:BB} (hl:a.length=b.length) (h:∀ n,1≤n→n≤8*a.length→hasB a n=hasB b n):a=b:=by
 refine List.ext_getElem hl fun j h1 h2=>qHv fun t ht => ?_
 have:=h (8*j+t+1) (by omega) (by omega)
 unfold hasB at this
 rw [show (8*j+t+1 - 1) / 8=j by omega,show (8*j+t+1 - 1) % 8=t by omega,qK h1,qK h2] at this
 exact this
theorem qAH {size:Nat} {S S':Nat→Bool} (h:∀ n,1≤n→n≤8*size→S n=S' n):x9 size S=x9 size S':=qJb (by rw [v3,v3]) fun n h1 h2=>by
 rw [v3] at h2;rw [qkF h1 h2,qkF h1 h2,h n h1 h2]
theorem qJp (size:Nat):rep size (u8 0)=x9 size fun _=>false:=by
 refine List.ext_getElem (by simp [rep,x9]) fun j h1 h2 => ?_
 simp only [rep,List.getElem_replicate,x9,List.getElem_map]
 decide
def setS (S:Nat→Bool) (n:Nat):Nat→Bool:=fun m=>S m || Nat.beq m n
theorem qIZ {size:Nat} {S:Nat→Bool} {n:Nat} (h1:1≤n) (h2:n≤8*size) {c:UInt8} (hc:c=mkb fun s=>bt (nth (x9 size S) ((n - 1) / 8) (u8 0)) s || Nat.beq s ((n - 1) % 8)):upd (x9 size S) ((n - 1) / 8) c=x9 size (setS S n):=by
 refine List.ext_getElem (by simp [upd,x9]) fun j h3 h4 => ?_
 rw [v3] at h4
 have hg:=qGJ (S:=S) (show (n - 1) / 8 < size by omega)
 simp only [upd,List.getElem_set]
 split
 ·rename_i hj
  subst hj
  rw [hc,hg]
  simp only [x9,List.getElem_map,List.getElem_range]
  refine qJ2 fun t ht => ?_
  rw [qHw ht];unfold setS
  congr 1
  refine Bool.eq_iff_iff.2 ?_
  simp only [Nat.beq_eq]
  omega
 ·rename_i hj
  simp only [x9,List.getElem_map,List.getElem_range]
  refine qJ2 fun t ht => ?_
  unfold setS
  have:Nat.beq (8*j+t+1) n=false:=by
   refine (Bool.not_eq_true _).mp fun hb=>hj ?_
   have:=Nat.eq_of_beq_eq_true hb
   omega
  rw [this,Bool.or_false]
def qeH (l:List Int):Bool:=decide (0 < l.length) && decide (64 < nth l (l.length - 1) 0)
def memI (l:List Int) (n:Nat):Bool:=decide ((n:Int)∈l)
def bmW (l:List Int):BB:=if qeH l=true then x9 16 (memI (1 :: l)) else x9 8 (memI l)
theorem vQ {l:List Int}:∀ {last:Int},jC last l=true→∀ n∈l,last < n∧n≤128∧n≠65:=by
 induction l with
 | nil=>intro _ _ n hn;cases hn
 | cons x r ih =>
  intro last h n hn
  simp only [jC,Bool.and_eq_true,decide_eq_true_eq] at h
  rcases List.mem_cons.1 hn with rfl | hn
  ·exact h.1
  ·have:=ih h.2 n hn
   exact ⟨by omega,this.2⟩
theorem qE0 {l:List Int}:∀ {last:Int},jC last l=true→∀ n∈l,n≤nth l (l.length - 1) 0:=by
 induction l with
 | nil=>intro _ _ n hn;cases hn
 | cons x r ih =>
  intro last h n hn
  simp only [jC,Bool.and_eq_true,decide_eq_true_eq] at h
  cases r with
  | nil=>simp at hn;subst hn;simp [nth]
  | cons y r =>
   have hr:=ih h.2
   have hl:nth (x :: y :: r) ((x :: y :: r).length - 1) 0=nth (y :: r) ((y :: r).length - 1) 0:=by simp [nth]
   rw [hl]
   rcases List.mem_cons.1 hn with rfl | hn
   ·have h1:=(vQ h.2 y (by simp)).1
    have:=hr y (by simp)
    omega
   ·exact hr n hn
theorem qpE {l:List Int} (h:jC 1 l=true) (hw:¬ qeH l=true):∀ n∈l,n≤64:=fun n hn=>by
 have:=qE0 h n hn
 unfold qeH at hw
 have h0:0 < l.length:=List.length_pos_of_mem hn
 simp only [Bool.and_eq_true,decide_eq_true_eq,not_and,Int.not_lt] at hw
 have:=hw h0
 omega
theorem qpV {α β σ ρ:Type} {mk:β→Nat→σ} {e:Nat} {step:β→α→LS β ρ} {g:β→α→β} (h:∀ b x,step b x = .nx (g b x)):∀ (l:List α) (b:β) (i:Nat),y2 mk e step b i l = .ex e (mk (l.foldl g b) (i+l.length))
 | [],b,i=>rfl
 | x :: r,b,i=>by
  simp only [y2,h,List.foldl_cons,List.length_cons]
  rw [qpV h r (g b x) (i+1)]
  congr 2;omega
theorem qEw {f:Int×BB×Unit→Option (LS (Int×BB×Unit) (BB×Int×Unit))} {l:List Int} {size:Nat} {S0:Nat→Bool}
  (hs:∀ (S:Nat→Bool) (i:Nat) (h:i < l.length),(∀ m,S m=(S0 m || memI (l.take i) m))→f ((i:Int),x9 size S,())=some (.nx (((i+1:Nat):Int),x9 size (setS S (l[i]).toNat),())))
  (hr:∀ n∈l,1≤n) (he:∀ x,f ((l.length:Int),x,())=some (.ex 0 ((l.length:Int),x,()))):loop f (0,x9 size S0,())=some (.ex 0 ((l.length:Int),x9 size (fun m=>S0 m || memI l m),())):=by
 have key:∀ (k i:Nat),k=l.length - i→i≤l.length→loop f ((i:Int),x9 size (fun m=>S0 m || memI (l.take i) m),())=some (.ex 0 ((l.length:Int),x9 size (fun m=>S0 m || memI l m),())):=by
  intro k
  induction k with
  | zero =>
   intro i hk hi
   have:i=l.length:=by omega
   subst this
   rw [List.take_length]
   exact qU (he _)
  | succ k ih =>
   intro i hk hi
   have hlt:i < l.length:=by omega
   refine (vF (hs _ i hlt fun m=>rfl)).trans ?_
   have hx:=hr l[i] (List.getElem_mem hlt)
   have:(setS (fun m=>S0 m || memI (l.take i) m) (l[i]).toNat)=fun m=>S0 m || memI (l.take (i+1)) m:=by
    funext m
    unfold setS memI
    rw [Bool.or_assoc]
    congr 1
    refine Bool.eq_iff_iff.2 ?_
    rw [List.take_succ_eq_append_getElem hlt]
    simp only [Bool.or_eq_true,decide_eq_true_eq,Nat.beq_eq,List.mem_append,List.mem_singleton]
    refine or_congr Iff.rfl ?_
    omega
   rw [this]
   exact ih (i+1) (by omega) (by omega)
 have:=key l.length 0 (by omega) (by omega)
 simp only [List.take_zero,memI,List.not_mem_nil,decide_false,Bool.or_false] at this
 exact this
theorem qNj:upd (rep 16 (u8 0)) 0 (u8 128)=x9 16 (fun m=>Nat.beq m 1):=by decide +kernel
theorem qGr {l:List Int} (hl:l.length≤1000000):sel (D (0 < (l.length:Int))) (ck (D (0≤(l.length:Int) - 1∧(l.length:Int) - 1 < (l.length:Int))) (some (D (64 < nth l ((l.length:Int) - 1).toNat 0),()))) (some (false,()))=some (qeH l,()):=by
 have hq:((l.length:Int) - 1).toNat=l.length - 1:=by omega
 by_cases h0:0 < l.length
 ·have e:qeH l=decide (64 < nth l (l.length - 1) 0):=by unfold qeH;rw [decide_eq_true h0,Bool.true_and]
  simp (disch:=omega) only [go_sem,Int.reduceToNat,hq,e]
 ·have e:qeH l=false:=by unfold qeH;rw [decide_eq_false h0,Bool.false_and]
  simp (disch:=omega) only [go_sem,Int.reduceToNat,e]
theorem qrZ (l:List Int) (hl:l.length≤1000000):qeF (l,())=some (if jC 1 l=true then (bmW l,0,()) else ([],1,())):=by
 unfold qeF
 generalize hf:(fun (x_1:Int×BB×Unit)=>_)=f
 have hws:=qGr hl
 cases hr:jC 1 l
 ·simp (disch:=first | assumption | omega | (dsimp only;omega) | decide) only [go_sem,Int.reduceToNat,qa1,hr]
 have hm:=vQ hr
 have step:∀ (size:Nat),(∀ n∈l,n≤8*(size:Int))→∀ S0:Nat→Bool,loop f (0,x9 size S0,())=some (.ex 0 ((l.length:Int),x9 size (fun m=>S0 m || memI l m),())):=by
  intro size hle S0
  refine qEw (fun S i h _ => ?_) (fun n hn=>by have:=hm n hn;omega) (fun x => ?_)
  ·subst hf
   have hx:=hm l[i] (List.getElem_mem h)
   have hx2:=hle l[i] (List.getElem_mem h)
   obtain ⟨N,hN⟩:∃ N:Nat,l[i]=N:=⟨l[i].toNat,by omega⟩
   have hP:=qgK (n:=N) (by omega) (by omega)
   have hrl:(x9 size S).length=size:=v3
   have hset:=qIZ (size:=size) (S:=S) (n:=N) (by omega) (by omega) (qPo (nth (x9 size S) ((N - 1) / 8) (u8 0)) ((N - 1) % 8) (by omega))
   have hnl:((N - 1) / 8) < (x9 size S).length:=by omega
   rw [qK hnl] at hset
   simp (disch:=first | assumption | omega | (dsimp only;omega) | decide) only [go_sem,Int.reduceToNat,hN,hP,hrl,hset]
  ·subst hf;simp (disch:=first | assumption | omega | (dsimp only;omega) | decide) only [go_sem,Int.reduceToNat]
 by_cases hw:qeH l=true
 ·have:=step 16 (fun n hn=>by have:=hm n hn;omega) (fun m=>Nat.beq m 1)
  rw [← qNj] at this
  have e:x9 16 (fun m=>Nat.beq m 1 || memI l m)=bmW l:=by
   unfold bmW;rw [if_pos hw]
   refine qAH fun n _ _ => ?_
   unfold memI
   refine Bool.eq_iff_iff.2 ?_
   simp only [Bool.or_eq_true,Nat.beq_eq,decide_eq_true_eq,List.mem_cons]
   refine or_congr ?_ Iff.rfl
   omega
  rw [e] at this
  simp (disch:=first | assumption | omega | (dsimp only;omega) | decide) only [go_sem,Int.reduceToNat,qa1,hr,hws,hw,this]
 ·have:=step 8 (fun n hn=>by have:=qpE hr hw n hn;omega) (fun m=>false)
  rw [← qJp] at this
  have hw':qeH l=false:=(Bool.not_eq_true _).mp hw
  have e:x9 8 (fun m=>false || memI l m)=bmW l:=by
   unfold bmW;rw [if_neg hw]
   exact qAH fun n _ _=>Bool.false_or _
  rw [e] at this
  simp (disch:=first | assumption | omega | (dsimp only;omega) | decide) only [go_sem,Int.reduceToNat,qa1,hr,hws,hw',this]
theorem qtU              (l : List Int) (hl : l.length ≤ 1000000) : qhB         (l, ()) = some (if jC     1 l = true then (bmW l, 0, ()) else ([], 1, ())) := by
  unfold qhB        
  have hws := qGr      hl
  generalize hf : (fun (x_1 : Int × List UInt8 × Unit) => _) = f
  generalize hg : (fun (x_1 : Int × List UInt8 × Unit) => (sel (lt x_1.1 (len (app (none' Int) (l, ()).1))) _ _ : Option (LS (Int × List UInt8 × Unit) (List UInt8 × Int × Unit)))) = g
  cases hr : jC     1 l
  · simp (disch := first | assumption | omega | (dsimp only; omega) | decide) only [go_sem, Int.reduceToNat, qbR             , hr]
  have hm := vQ         hr
  have hnd : ∀ (last : Int) (l : List Int), jC     last l = true → ∀ i (h : i < l.length), ¬ l[i] ∈ l.take i := by
    intro last l
    induction l generalizing last with
    | nil => intro _ i h; simp at h
    | cons x r ih =>
      intro h i hi
      have hr := (by simpa only [jC    , Bool.and_eq_true, decide_eq_true_eq] using h : _)
      cases i with
      | zero => simp
      | succ i =>
        simp only [List.getElem_cons_succ, List.take_succ_cons, List.mem_cons, not_or]
        have hi' : i < r.length := by simpa using hi
        have := (vQ         hr.2 r[i] (List.getElem_mem hi')).1
        exact ⟨by omega, ih x hr.2 i hi'⟩
  have step : ∀ (L : List Int) (size : Nat) (f : Int × List UInt8 × Unit → Option (LS (Int × List UInt8 × Unit) (List UInt8 × Int × Unit))), (fun (x_1 : Int × List UInt8 × Unit) =>
           sel (lt x_1.1 (len L)) (ck (inB x_1.1 (len L)) (ob (yM          (nth L (nat x_1.1) 0, ())) fun (a : Int × UInt8 × Unit) => ck (inB a.1 (len x_1.2.1)) (ck (inB a.1 (len x_1.2.1))
            (some (LS.nx (i64 (iadd x_1.1 1), upd x_1.2.1 (nat a.1) (u8 (iadd (n8 (nth x_1.2.1 (nat a.1) (u8 0))) (n8 a.2.1))), ())))))) (some (LS.ex 0 (x_1.1, x_1.2.1, ())))) = f → L.length ≤ 1000001 → (∀ n ∈ L, 1 ≤ n ∧ n ≤ 128 ∧ n ≤ 8 * (size : Int)) →
      (∀ i (h : i < L.length), ¬ L[i] ∈ L.take i) → loop f (0, rep size (u8 0), ()) = some (.ex 0 ((L.length : Int), x9    size (memI L), ())) := by
    intro L size f hf hl hle hnd
    have := qEw       (f := f) (l := L) (size := size) (S0 := fun _ => false) (fun S i h hS => ?_) (fun n hn => (hle n hn).1) (fun x => ?_)
    · simp only [Bool.false_or] at this
      rw [← qJp    ] at this; exact this
    · subst hf
      have hx := hle L[i] (List.getElem_mem h)
      obtain ⟨N, hN⟩ : ∃ N : Nat, L[i] = N := ⟨L[i].toNat, by omega⟩
      have hP := qiK              (n := N) (by omega) (by omega)
      have hrl : (x9    size S).length = size := v3         
      have hfree : bt (nth (x9    size S) ((N - 1) / 8) (u8 0)) ((N - 1) % 8) = false := by
        have h1 : hasB (x9    size S) N = S N := qkF       (by omega) (by omega)
        unfold hasB at h1
        rw [h1, hS, Bool.false_or]
        unfold memI
        rw [← hN]; exact decide_eq_false (hnd i h)
      have hset := qIZ     (size := size) (S := S) (n := N) (by omega) (by omega) (qOK     (nth (x9    size S) ((N - 1) / 8) (u8 0)) ((N - 1) % 8) (by omega) hfree)
      have hnl : ((N - 1) / 8) < (x9    size S).length := by omega
      rw [qK      hnl] at hset
      simp only [iadd] at hset
      simp (disch := omega) only [go_sem, Int.reduceToNat, hN, hP, hrl, hset]
    · subst hf; simp (disch := omega) only [go_sem, Int.reduceToNat]
  by_cases hw : qeH   l = true
  · have := step (l ++ [1]) 16 _ rfl (by simp; omega) (fun n hn => by
      rcases List.mem_append.1 hn with hn | hn
      · have := hm n hn; omega
      · simp at hn; subst hn; omega) (fun i h => by
      rcases Nat.lt_or_ge i l.length with hi | hi
      · rw [List.getElem_append_left hi, List.take_append_of_le_length (by omega)]; exact hnd 1 l hr i hi
      · have : i = l.length := by simp at h; omega
        subst this
        rw [List.getElem_append_right (by omega), List.take_left]
        simp only [Nat.sub_self, List.getElem_cons_zero]
        intro hc; have := hm 1 hc; omega)
    have e : x9    16 (memI (l ++ [1])) = bmW l := by
      unfold bmW; rw [if_pos hw]
      refine qAH      fun n _ _ => ?_
      unfold memI
      exact Bool.eq_iff_iff.2 (by simp [or_comm])
    rw [e] at this
    have this : loop f (0, rep 16 (u8 0), ()) = some (.ex 0 (((l ++ [1]).length : Int), bmW l, ())) := by rw [← hf]; exact this
    simp (disch := omega) only [go_sem, Int.reduceToNat, qbR             , hr, hws, hw, List.length_cons, this]
  · have := step l 8 _ rfl (by omega) (fun n hn => by have := qpE      hr hw n hn; have := hm n hn; omega) (hnd 1 l hr)
    have hw' : qeH   l = false := (Bool.not_eq_true _).mp hw
    have e : x9    8 (memI l) = bmW l := by unfold bmW; rw [if_neg hw]
    rw [e] at this
    have this : loop g (0, rep 8 (u8 0), ()) = some (.ex 0 ((l.length : Int), bmW l, ())) := by rw [← hg]; exact this
    simp (disch := omega) only [go_sem, Int.reduceToNat, qbR             , hr, hws, hw', this]
theorem qeO {c:BB} {n:Nat} (h1:1≤n) (h2:n≤128) (h3:n≤8*c.length):wC (c,(n:Int),())=some (hasB c n,()):=by
 unfold wC
 have hP:=qiK h1 h2
 have hlt:(n - 1) / 8 < c.length:=by omega
 refine (qF hP).trans ((qH (zD hlt)).trans ?_)
 have:=qOJ (nth c ((n - 1) / 8) (u8 0)) ((n - 1) % 8) (by omega)
 simp only [qP,this];rfl
theorem qwI {c:BB} {n k:Nat} (h1:1≤n) (h2:n≤8*k) (h3:k≤c.length):hasB (c.take k) n=hasB c n:=by
 unfold hasB
 have h:(n - 1) / 8 < k:=by omega
 rw [qK (by rw [List.length_take];omega),qK (by omega),List.getElem_take]
def outB (c:BB) (k:Nat):List Nat:=(List.range k).filter fun n=>Nat.ble 2 n && hasB c n
theorem qJJ (c:BB) (k:Nat) (h:2≤k):outB c (k+1)=outB c k++if hasB c k=true then [k] else []:=by
 unfold outB
 rw [List.range_succ,List.filter_append]
 congr 1
 have:Nat.ble 2 k=true:=Nat.ble_eq_true_of_le h
 simp only [List.filter_cons,this,Bool.true_and,List.filter_nil]
theorem qLI (c:BB):outB c 2=[]:=by
 unfold outB;rw [List.filter_eq_nil_iff]
 intro n hn;rw [List.mem_range] at hn
 have:Nat.ble 2 n=false:=(Bool.not_eq_true _).mp fun hb=>by have:=Nat.le_of_ble_eq_true hb;omega
 rw [this];simp
theorem qvX {c:BB} {k:Nat} (h:k≤c.length):vE (c.take k)=outB c (8*k+1):=by
 unfold vE outB
 rw [List.length_take,Nat.min_eq_left h]
 refine List.filter_congr fun n hn => ?_
 rw [List.mem_range] at hn
 by_cases h2:2≤n
 ·rw [qwI (by omega) (by omega) h]
 ·have:Nat.ble 2 n=false:=(Bool.not_eq_true _).mp fun hb=>h2 (Nat.le_of_ble_eq_true hb)
  rw [this,Bool.false_and,Bool.false_and]
theorem qFa (c:BB) (k:Nat):(outB c k).Pairwise (· < ·):=List.Pairwise.filter _ List.pairwise_lt_range
theorem qGZ {c:BB} {k n:Nat}:n∈outB c k↔n < k∧2≤n∧hasB c n=true:=by
 unfold outB;rw [List.mem_filter,List.mem_range,Bool.and_eq_true,Nat.ble_eq]
theorem qEN {l:List Nat} (h:l.Pairwise (· < ·)) {n:Nat} (hn:n∈l) (h0:l.length - 1 < l.length):n≤l[l.length - 1]:=by
 obtain ⟨i,hi,rfl⟩:=List.getElem_of_mem hn
 rcases Nat.lt_or_ge i (l.length - 1) with hlt | hge
 ·exact Nat.le_of_lt (List.pairwise_iff_getElem.1 h i (l.length - 1) hi h0 hlt)
 ·have:i=l.length - 1:=by omega
  subst this;exact Nat.le_refl _
theorem qN8 {l:List Nat} (h:l.Pairwise (· < ·)):(65∈l∨l.length=0∨∃ h0:l.length - 1 < l.length,l[l.length - 1]≤65)↔(65∈l∨∀ n∈l,n < 65):=by
 constructor
 ·rintro (h1 | h1 | ⟨h0,h1⟩)
  ·exact .inl h1
  ·right;intro n hn;rw [List.length_eq_zero_iff.1 h1] at hn;cases hn
  ·by_cases h65:65∈l
   ·exact .inl h65
   ·right;intro n hn
    have:=qEN h hn h0
    have:n≠65:=fun e=>h65 (e ▸ hn)
    omega
 ·rintro (h1 | h1)
  ·exact .inl h1
  ·by_cases h0:l.length=0
   ·exact .inr (.inl h0)
   ·right;right
    refine ⟨by omega, ?_⟩
    have:=h1 _ (List.getElem_mem (show l.length - 1 < l.length by omega))
    omega
theorem qG0 (c:BB) (k:Nat):(outB c k).length≤k:=by
 unfold outB
 have:=List.length_filter_le (fun n=>Nat.ble 2 n && hasB c n) (List.range k)
 rwa [List.length_range] at this
theorem qvL             (b : List UInt8) (a : Int) (hl : b.length ≤ 1000000) : qlU        (b, a, ()) = some (bmR b a) := by
  unfold qlU       
  by_cases ha : a < 0 ∨ (b.length : Int) < a
  · unfold bmR; rw [if_pos ha]; simp (disch := first | assumption | omega | (dsimp only; omega) | decide) only [go_sem, Int.reduceToNat]
  have hb : bmR b a = bmC (b.drop a.toNat) a := by unfold bmR; rw [if_neg ha]
  rw [hb]
  have hsub : sub b a (len b) = b.drop a.toNat := by
    simp only [sub, len, Int.toNat_natCast]
    rw [List.take_of_length_le (by rw [List.length_drop]; omega)]
  have hcl : (b.drop a.toNat).length = b.length - a.toNat := List.length_drop
  simp only [hsub]
  generalize hc : b.drop a.toNat = c at *
  clear hb hsub
  by_cases h8 : c.length < 8
  · unfold bmC; rw [if_pos (Or.inl h8)]; simp (disch := first | assumption | omega | (dsimp only; omega) | decide) only [go_sem, Int.reduceToNat]
  have h1 := qeO            (c := c) (n := 1) (by omega) (by omega) (by omega)
  replace h1 : wC        (c, 1, ()) = some (hasB c 1, ()) := h1
  -- the loop
  have lp : ∀ (size : Nat) (f : List Int × Int × Unit → Option (LS (List Int × Int × Unit) (List Int × Int × Int × Unit))), (fun (x_1 : List Int × Int × Unit) =>
           sel (le x_1.2.1 (i64 (imul 8 (size : Int)))) (ob (wC        (c, x_1.2.1, ())) fun (a : Bool × Unit) => sel a.1 (ck (rm 32 (nadd (ln x_1.1) (ln [x_1.2.1]))) (some (LS.nx (app x_1.1 [x_1.2.1], i64 (iadd x_1.2.1 1), ()))))
            (some (LS.nx (x_1.1, i64 (iadd x_1.2.1 1), ())))) (some (LS.ex 0 (x_1.1, x_1.2.1, ())))) = f → 1 ≤ size → size ≤ 16 → size ≤ c.length →
      loop f ([], 2, ()) = some (.ex 0 ((vE    (c.take size)).map Int.ofNat, ((8 * size + 1 : Nat) : Int), ())) := by
    intro size f hf hs0 hs hsc
    have step : ∀ i, i < 8 * size - 1 → f ((outB c (i + 2)).map Int.ofNat, ((i + 2 : Nat) : Int), ()) = some (.nx ((outB c (i + 1 + 2)).map Int.ofNat, ((i + 1 + 2 : Nat) : Int), ())) := fun i hi => by
      subst hf
      have hh := qeO            (c := c) (n := i + 2) (by omega) (by omega) (by omega)
      have hol := qG0      c (i + 2)
      have hos := qJJ       c (i + 2) (by omega)
      rw [show i + 1 + 2 = i + 2 + 1 by omega, hos]
      cases hhb : hasB c (i + 2)
      · rw [hhb] at hh
        simp only [Bool.false_eq_true, if_false, List.append_nil]
        generalize hN : i + 2 = N at *
        simp (disch := omega) only [go_sem, Int.reduceToNat, hh]
      · rw [hhb] at hh
        simp only [if_true, List.map_append, List.map_cons, List.map_nil]
        generalize hN : i + 2 = N at *
        simp (disch := omega) only [go_sem, Int.reduceToNat, hh, List.length_map, List.length_cons]
        rfl
    have e := qM         (f := f) (fun i => ((outB c (i + 2)).map Int.ofNat, ((i + 2 : Nat) : Int), ())) (8 * size - 1) step 0 (by omega)
    simp only [Nat.zero_add, qLI     , List.map_nil] at e
    replace e : loop f ([], 2, ()) = _ := e
    rw [e, qvX       hsc, show 8 * size - 1 + 2 = 8 * size + 1 by omega]
    refine qU      ?_
    subst hf; simp (disch := omega) only [go_sem, Int.reduceToNat]
  refine (qF    (a := (false, ())) (by simp (disch := omega) only [go_sem, Int.reduceToNat]; exact yI      (by omega))).trans ?_
  refine (qB       rfl).trans ?_
  refine (qH    (by simp (disch := omega) only [go_sem, Int.reduceToNat]; exact ⟨by omega, by omega⟩)).trans ?_
  refine (qB       (by simp (disch := omega) only [go_sem, Int.reduceToNat]; omega)).trans ?_
  refine (qF    h1).trans ?_
  cases hw : hasB c 1
  · have e := lp 8 _ rfl (by omega) (by omega) (by omega)
    have hbm : bmC c a = ((vE    (c.take 8)).map Int.ofNat, a + 8, 0, ()) := by
      unfold bmC
      rw [if_neg (by rw [hw]; simp; omega), if_neg (by rw [hw]; simp)]
    rw [hbm]
    refine (qF    (qB       rfl)).trans ?_
    refine (qB       (by simp (disch := omega) only [go_sem, Int.reduceToNat]; omega)).trans ?_
    refine (qX    e).trans ?_
    simp (disch := omega) only [go_sem, Int.reduceToNat]
  · by_cases h16 : c.length < 16
    · unfold bmC; rw [if_pos (Or.inr ⟨hw, h16⟩)]
      simp (disch := omega) only [go_sem, Int.reduceToNat]
    · have e := lp 16 _ rfl (by omega) (by omega) (by omega)
      have h65 := qeO            (c := c) (n := 65) (by omega) (by omega) (by omega)
      replace h65 : wC        (c, 65, ()) = some (hasB c 65, ()) := h65
      rw [qvX       (by omega)] at e
      have hol := qG0      c (8 * 16 + 1)
      have hm65 : 65 ∈ outB c (8 * 16 + 1) ↔ hasB c 65 = true := ⟨fun h => (qGZ.1      h).2.2, fun h => qGZ.2      ⟨by omega, by omega, h⟩⟩
      have hlast := qN8     (qFa         c (8 * 16 + 1))
      have hbm : bmC c a = if 65 ∈ outB c (8 * 16 + 1) ∨ ∀ n ∈ outB c (8 * 16 + 1), n < 65 then ([], 0, 2, ()) else ((outB c (8 * 16 + 1)).map Int.ofNat, a + 16, 0, ()) := by
        unfold bmC
        rw [if_neg (by omega), if_pos hw, qvX       (by omega)]
      rw [hbm]
      refine (qF    (qE       rfl)).trans ?_
      refine (qB       (by simp (disch := omega) only [go_sem, Int.reduceToNat]; omega)).trans ?_
      refine (qX    e).trans ?_
      generalize outB c (8 * 16 + 1) = l at *
      have hq : ((l.length : Int) - 1).toNat = l.length - 1 := by omega
      cases hb65 : hasB c 65
      · rw [hb65] at h65 hm65
        have hn65 : ¬ 65 ∈ l := fun h => by have := hm65.1 h; simp at this
        by_cases h0 : l.length = 0
        · rw [if_pos (hlast.1 (.inr (.inl h0)))]
          simp (disch := omega) only [go_sem, Int.reduceToNat, h65, List.length_map]
        · have hlt : l.length - 1 < l.length := by omega
          have hn : nth (l.map Int.ofNat) (l.length - 1) 0 = Int.ofNat l[l.length - 1] := by rw [qK      (by simpa using hlt), List.getElem_map]
          by_cases h6 : l[l.length - 1] ≤ 65
          · rw [if_pos (hlast.1 (.inr (.inr ⟨hlt, h6⟩)))]
            have h6' : Int.ofNat l[l.length - 1] ≤ 65 := by simp; omega
            simp (disch := omega) only [go_sem, Int.reduceToNat, h65, List.length_map, hq, hn]
          · rw [if_neg fun hc => by
              rcases hlast.2 hc with h | h | ⟨_, h⟩
              · exact hn65 h
              · exact h0 h
              · exact h6 h]
            have h6' : ¬ Int.ofNat l[l.length - 1] ≤ 65 := by simp; omega
            simp (disch := omega) only [go_sem, Int.reduceToNat, h65, List.length_map, hq, hn]
      · rw [if_pos (.inl (hm65.2 hb65))]
        rw [hb65] at h65
        simp (disch := omega) only [go_sem, Int.reduceToNat, h65]
theorem qKy {no k l:Int} (h:zF no=some (k,l)):2≤no∧no≤128∧no≠65:=by
 unfold zF at h
 rw [Option.map_eq_some_iff] at h
 obtain ⟨r,hr,he⟩:=h
 have hm:=List.mem_of_find?_eq_some hr
 have hp:=List.find?_some hr
 simp only [List.contains_eq_mem,decide_eq_true_eq] at hp
 have:∀ r∈frows,∀ c∈r.drop 2,2≤c∧c≤128∧c≠65:=by decide +kernel
 exact this r hm no hp
theorem qbL {no:Int} {v:BB}:xQ no v=true↔∃ k l,zF no=some (k,l)∧fv k l v:=by
 unfold xQ
 cases ho:zF no with
 | none=>simp
 | some p =>
  obtain ⟨k,l⟩:=p
  simp only [decide_eq_true_eq,Option.some.injEq,Prod.mk.injEq]
  exact ⟨fun h=>⟨k,l,⟨rfl,rfl⟩,h⟩,fun ⟨_,_,⟨h1,h2⟩,h⟩=>by rw [h1,h2];exact h⟩
theorem qBi {no:Int} {v:BB} (h:xQ no v=true):2≤no∧no≤128∧no≠65:=by
 obtain ⟨k,l,h1,_⟩:=qbL.1 h;exact qKy h1
theorem xY {l:List V}:∀ {last:Int},z3 last l=true→∀ v∈l,last < v.1∧xQ v.1 v.2.1=true:=by
 induction l with
 | nil=>intro _ _ v hv;cases hv
 | cons x r ih =>
  intro last h v hv
  simp only [z3,Bool.and_eq_true,decide_eq_true_eq] at h
  rcases List.mem_cons.1 hv with rfl | hv
  ·exact ⟨h.1,h.2.1⟩
  ·have:=ih h.2.2 v hv
   exact ⟨by omega,this.2⟩
def nosF (l:List V):List Int:=l.map fun v=>v.1
theorem qLq {l:List V}:∀ {last:Int},1≤last→z3 last l=true→jC last (nosF l)=true:=by
 induction l with
 | nil=>intros;rfl
 | cons x r ih =>
  intro last hl h
  simp only [z3,Bool.and_eq_true,decide_eq_true_eq] at h
  have hn:=qBi h.2.1
  simp only [nosF,List.map_cons,jC,Bool.and_eq_true,decide_eq_true_eq]
  exact ⟨⟨h.1,hn.2⟩,ih (by omega) h.2.2⟩
theorem qoS {l:List V} (h:z3 0 l=true):jC 1 (nosF l)=true:=by
 cases l with
 | nil=>rfl
 | cons x r =>
  simp only [z3,Bool.and_eq_true,decide_eq_true_eq] at h
  have hn:=qBi h.2.1
  simp only [nosF,List.map_cons,jC,Bool.and_eq_true,decide_eq_true_eq]
  exact ⟨⟨by omega,hn.2⟩,qLq (by omega) h.2.2⟩
def wrV (v:V):BB:=(wrD v.1 v.2.1).1
theorem quM {no:Int} {v:BB} (h:xQ no v=true):wrD no v=((wrD no v).1,0,())∧(wrD no v).1.length≤402∧1≤(wrD no v).1.length:=by
 obtain ⟨k,l,h1,h2⟩:=qbL.1 h
 have e:wrD no v=(wrF k v,0,()):=by unfold wrD;rw [h1];simp only [if_pos h2]
 have hl:=qMS h1 h2
 rw [e]
 exact ⟨rfl,qOR (wN h1).1 hl.2.2,qM6 (wN h1).1 hl.1⟩
def typB (m:Int):BB:=bcd (pad (ps 10 dch m.toNat 4))
theorem qgP {m:Int}:(typB m).length=2:=by unfold typB;rw [z2,zP]
def wrM (m:M):BB:=typB m.1++(bmW (nosF m.2.1)++m.2.1.flatMap wrV)
theorem vS (l:List Int):(bmW l).length=if qeH l=true then 16 else 8:=by unfold bmW;split <;> exact v3
theorem qKz (l:List V):∀ acc:List Int,l.foldl (fun acc v=>acc++[v.1]) acc=acc++nosF l:=by
 induction l with
 | nil=>intro acc;simp [nosF]
 | cons v r ih=>intro acc;rw [List.foldl_cons,ih];simp [nosF]
theorem qL9 (l:List V):∀ acc:BB,l.foldl (fun acc v=>acc++wrV v) acc=acc++l.flatMap wrV:=by
 induction l with
 | nil=>intro acc;simp
 | cons v r ih=>intro acc;rw [List.foldl_cons,ih];simp
theorem qqZ {m:Int} (h:jJ m):vR (m,4,())=some (ps 10 dch m.toNat 4,0,())∧qe2 (ps 10 dch m.toNat 4,())=some (typB m,0,())∧jU (m,4,())=some (ps 10 dch m.toNat 4,0,())∧kY (ps 10 dch m.toNat 4,())=some (typB m,0,()):=by
 unfold jJ at h
 have e:(10:Int) ^ (4:Int).toNat=10000:=by decide
 refine ⟨?_, ?_, ?_, ?_⟩
 ·rw [wR _ _ (by omega),if_pos ⟨by omega,by omega,by omega,by rw [e];omega⟩];rfl
 ·rw [qkN _ (by rw [zP];omega),if_pos qnT];rfl
 ·rw [kM _ _ (by omega),if_pos ⟨by omega,by omega,by omega,by rw [e];omega⟩];rfl
 ·rw [qeR _ (by rw [zP];omega),if_pos qnT];rfl
theorem qmX (m:M) (hm:fewM m):qdK (m,())=some (if xX m=true then (wrM m,0,()) else ([],1,())):=by
 unfold qdK
 generalize hf:(fun (x_1:List Int×Int×Unit)=>_)=f
 generalize hg:(fun (x_1:BB×Int×Unit)=>(_:Option (LS (BB×Int×Unit) (BB×Int×Unit))))=g
 have hR:=qyY m hm
 have hl:=hm.1
 cases hr:xX m
 ·simp (disch:=first | assumption | omega | (dsimp only;omega) | decide) only [go_sem,Int.reduceToNat,hR,hr]
 have hr':=hr
 simp only [xX,Bool.and_eq_true,decide_eq_true_eq] at hr'
 obtain ⟨d1,d2, -, -⟩:=qqZ hr'.2
 have key:=xM (f:=f) (ρ:=BB×Int×Unit) m.2.1 (fun (acc:List Int) i=>(acc,(i:Int),())) 0 (fun acc v => .nx (acc++[v.1])) (fun acc i=>acc.length=i) (fun b i h hI=>⟨?_,fun b' hb => ?_⟩) (fun b _ => ?_) [] rfl
 ·rw [qpV (g:=fun (acc:List Int) (v:V)=>acc++[v.1]) (fun _ _=>rfl),qKz,List.nil_append] at key
  have hbm:=qrZ (nosF m.2.1) (by simp [nosF];omega)
  rw [if_pos (qoS hr'.1)] at hbm
  have htl:=qgP (m:=m.1)
  have hbl:(bmW (nosF m.2.1)).length≤16:=by rw [vS];split <;> omega
  have key2:=xM (f:=g) (ρ:=BB×Int×Unit) m.2.1 (fun (acc:BB) i=>(acc,(i:Int),())) 2 (fun acc v => .nx (acc++wrV v)) (fun acc i=>acc.length≤100+402*i) (fun b i h hI=>⟨?_,fun b' hb => ?_⟩) (fun b _ => ?_) (typB m.1++bmW (nosF m.2.1)) (by rw [List.length_append];omega)
  ·rw [qpV (g:=fun (acc:BB) (v:V)=>acc++wrV v) (fun _ _=>rfl),qL9,List.append_assoc] at key2
   have hnl:(nosF m.2.1).length=m.2.1.length:=by simp [nosF]
   replace key:loop f ([],0,())=_:=key
   replace key2:loop g (typB m.1++bmW (nosF m.2.1),0,())=_:=key2
   simp (disch:=first | assumption | omega | (dsimp only;omega) | decide) only [go_sem,Int.reduceToNat,hR,hr,d1,d2,key,hbm,key2]
   rfl
  ·subst hg
   have hfit:=xY hr'.1 m.2.1[i] (List.getElem_mem h)
   have hw:=quM hfit.2
   have hlv:=hm.nth h
   have hws:=qt2 m.2.1[i].1 m.2.1[i].2.1 hlv
   rw [hw.1] at hws
   have hwl:(wrV m.2.1[i]).length≤402:=hw.2.1
   change qdO _=some (wrV m.2.1[i],0,()) at hws
   simp (disch:=omega) only [go_sem,Int.reduceToNat,hws,qaN]
  ·cases hb
   have hfit:=xY hr'.1 m.2.1[i] (List.getElem_mem h)
   have hwl:(wrV m.2.1[i]).length≤402:=(quM hfit.2).2.1
   rw [List.length_append];omega
  ·subst hg;simp (disch:=omega) only [go_sem,Int.reduceToNat]
 ·subst hf;simp (disch:=omega) only [go_sem,Int.reduceToNat,List.length_cons,qaN]
 ·cases hb;rw [List.length_append,hI];rfl
 ·subst hf;simp (disch:=omega) only [go_sem,Int.reduceToNat]
theorem qvK {m:Int} (h:jJ m):qlT (m,())=some (ps 10 dch m.toNat 4,()):=by
 unfold qlT
 obtain ⟨-, -,d1, -⟩:=qqZ h
 simp only [go_sem,Int.reduceToNat,d1]
theorem qbQ (m:M) (hm:fewM m):v8 (m,())=some (if xX m=true then (wrM m,0,()) else ([],1,())):=by
 unfold v8
 generalize hf:(fun (x_1:List Int×BB×Int×Unit)=>_)=f
 have hR:=qtS m hm
 have hl:=hm.1
 cases hr:xX m
 ·simp (disch:=first | assumption | omega | (dsimp only;omega) | decide) only [go_sem,Int.reduceToNat,hR,hr]
 have hr':=hr
 simp only [xX,Bool.and_eq_true,decide_eq_true_eq] at hr'
 obtain ⟨-, -,d1,d2⟩:=qqZ hr'.2
 have key:=xM (f:=f) (ρ:=BB×Int×Unit) m.2.1 (fun (acc:List Int×BB) i=>(acc.1,acc.2,(i:Int),())) 0 (fun acc v => .nx (acc.1++[v.1],acc.2++wrV v)) (fun acc i=>acc.1.length=i∧acc.2.length≤402*i) (fun b i h hI=>⟨?_,fun b' hb => ?_⟩) (fun b _ => ?_) ([],[]) ⟨rfl,by simp⟩
 ·rw [qpV (g:=fun (acc:List Int×BB) (v:V)=>(acc.1++[v.1],acc.2++wrV v)) (fun _ _=>rfl)] at key
  have hfold:∀ (l:List V) (a:List Int) (b:BB),l.foldl (fun (acc:List Int×BB) v=>(acc.1++[v.1],acc.2++wrV v)) (a,b)=(a++nosF l,b++l.flatMap wrV):=by
   intro l
   induction l with
   | nil=>intro a b;simp [nosF]
   | cons v r ih=>intro a b;rw [List.foldl_cons,ih];simp [nosF]
  rw [hfold,List.nil_append,List.nil_append] at key
  have hbm:=qtU (nosF m.2.1) (by simp [nosF];omega)
  rw [if_pos (qoS hr'.1)] at hbm
  have htl:=qgP (m:=m.1)
  have hbl:(bmW (nosF m.2.1)).length≤16:=by rw [vS];split <;> omega
  have hfl:(m.2.1.flatMap wrV).length≤402*m.2.1.length:=by
   have:∀ l:List V,(∀ v∈l,xQ v.1 v.2.1=true)→(l.flatMap wrV).length≤402*l.length:=by
    intro l
    induction l with
    | nil=>simp
    | cons v r ih =>
     intro h
     have h1:(wrV v).length≤402:=(quM (h v (by simp))).2.1
     have h2:=ih fun u hu=>h u (by simp [hu])
     simp only [List.flatMap_cons,List.length_append,List.length_cons];omega
   exact this _ fun v hv=>(xY hr'.1 v hv).2
  have h4:=qvK hr'.2
  replace key:loop f ([],[],0,())=_:=key
  simp (disch:=first | assumption | omega | (dsimp only;omega) | decide) only [go_sem,Int.reduceToNat,hR,hr,h4,d2,key,hbm,List.length_append]
  rw [List.append_assoc];rfl
 ·subst hf
  have hfit:=xY hr'.1 m.2.1[i] (List.getElem_mem h)
  have hw:=quM hfit.2
  have hlv:=hm.nth h
  have hws:=qtV m.2.1[i].1 m.2.1[i].2.1 hlv
  rw [hw.1] at hws
  have hwl:(wrV m.2.1[i]).length≤402:=hw.2.1
  change qc9 _=some (wrV m.2.1[i],0,()) at hws
  simp (disch:=omega) only [go_sem,Int.reduceToNat,hws,qaN,List.length_cons]
 ·cases hb
  have hfit:=xY hr'.1 m.2.1[i] (List.getElem_mem h)
  have hwl:(wrV m.2.1[i]).length≤402:=(quM hfit.2).2.1
  refine ⟨by rw [List.length_append,hI.1];rfl, ?_⟩
  rw [List.length_append];omega
 ·subst hf;simp (disch:=omega) only [go_sem,Int.reduceToNat]
def noM:M:=(0,[],())
def rdFs (b:BB):List Int→Int→List V→Option Int×Int×List V
 | [],at',F=>(none,at',F)
 | n :: r,at',F=>if (rdD n b at').2.2.1=0 then rdFs b r (rdD n b at').2.1 (F++[(n,(rdD n b at').1,())]) else (some (rdD n b at').2.2.1,at',F)
def qvR (b:BB) (s:Int×List V) (n:Int):LS (Int×List V) (M×Int×Unit):=if (rdD n b s.1).2.2.1=0 then .nx ((rdD n b s.1).2.1,s.2++[(n,(rdD n b s.1).1,())]) else .rt (noM,(rdD n b s.1).2.2.1,())
theorem qHg {σ:Type} {mk:Int×List V→Nat→σ} {e:Nat} {b:BB}:∀ (l:List Int) (s:Int×List V) (i:Nat),y2 mk e (qvR b) s i l=match rdFs b l s.1 s.2 with | (none,a,F) => .ex e (mk (a,F) (i+l.length)) | (some q,_,_) => .rt (noM,q,())
 | [],s,i=>rfl
 | n :: r,s,i=>by
  unfold rdFs
  by_cases h:(rdD n b s.1).2.2.1=0
  ·have hs:qvR b s n = .nx ((rdD n b s.1).2.1,s.2++[(n,(rdD n b s.1).1,())]):=if_pos h
   simp only [y2,hs,if_pos h]
   rw [qHg r _ (i+1)]
   simp only [List.length_cons,Nat.add_assoc,Nat.add_comm 1]
  ·have hs:qvR b s n = .rt (noM,(rdD n b s.1).2.2.1,()):=if_neg h
   simp only [y2,hs,if_neg h]
def qz5 (_:Unit) (n:Int):LS Unit (M×Int×Unit):=if (zF n).isSome=true then .nx () else .rt (noM,2,())
theorem qHh {σ:Type} {mk:Unit→Nat→σ} {e:Nat}:∀ (l:List Int) (i:Nat),y2 mk e qz5 () i l=if ∀ n∈l,(zF n).isSome=true then .ex e (mk () (i+l.length)) else .rt (noM,2,())
 | [],i=>by simp [y2]
 | n :: r,i=>by
  by_cases h:(zF n).isSome=true
  ·have hs:qz5 () n = .nx ():=if_pos h
   simp only [y2,hs,List.mem_cons,forall_eq_or_imp,h,true_and]
   rw [qHh r (i+1)]
   simp only [List.length_cons,Nat.add_assoc,Nat.add_comm 1]
  ·have hs:qz5 () n = .rt (noM,2,()):=if_neg h
   simp only [y2,hs]
   rw [if_neg fun hc=>h (hc n (by simp))]
def rdE (b:BB) (m:Int) (l:List Int) (at':Int):M×Int×Unit :=
 if ∀ n∈l,(zF n).isSome=true then (match rdFs b l at' [] with | (none,a,F)=>if a < (b.length:Int) then (noM,4,()) else ((m,F,()),0,()) | (some q,_,_)=>(noM,q,())) else (noM,2,())
def rdM (b:BB):M×Int×Unit :=
 if (zM b 0 4).2.2.1≠0 then (noM,(zM b 0 4).2.2.1,()) else if jJ (val (zM b 0 4).1:Int) then
  (if (bmR b 2).2.2.1≠0 then (noM,(bmR b 2).2.2.1,()) else rdE b (val (zM b 0 4).1:Int) (bmR b 2).1 (bmR b 2).2.1) else (noM,2,())
theorem qsG {c:BB}:(vE c).length≤8*c.length+1:=by
 unfold vE
 have:=List.length_filter_le (fun n=>Nat.ble 2 n && hasB c n) (List.range (8*c.length+1))
 rwa [List.length_range] at this
theorem qAv {b:BB} {a:Int}:(bmR b a).1.length≤129:=by
 unfold bmR
 split
 ·simp
 unfold bmC
 split
 ·simp
 split
 ·split
  ·simp
  ·have:=qsG (c:=(b.drop a.toNat).take 16)
   have h2:=List.length_take_le 16 (b.drop a.toNat)
   simp only [List.length_map];omega
 ·have:=qsG (c:=(b.drop a.toNat).take 8)
  have h2:=List.length_take_le 8 (b.drop a.toNat)
  simp only [List.length_map];omega
theorem qL7 {o:Option (Int×Int)}:(fr o).2.1=o.isSome:=by cases o <;> rfl
theorem qGN {Of:Int×Unit→Option ((Int×Int×Unit)×Bool×Unit)} (hOf:∀ n,Of (n,())=some (fr (zF n))) {Rd:Int×BB×Int×Unit→Option (BB×Int×Int×Unit)} {b:BB} (hRd:∀ n a,Rd (n,b,a,())=some (rdD n b a))
  {l:List Int} (hl:l.length≤129) {at' mti:Int} {e1:Int} {f:Int×Int×Unit→Option (LS (Int×Int×Unit) (M×Int×Unit))} {g:Int×Int×Int×M×Unit→Option (LS (Int×Int×Int×M×Unit) (M×Int×Unit))}
  (hf:∀ x (i:Nat),f (x,(i:Int),())=sel (lt (i:Int) (len l)) (ck (inB (i:Int) (len l)) (ob (Of (nth l (nat (i:Int)) 0,())) fun a=>sel (bnot a.2.1) (some (.rt (noM,2,()))) (some (.nx (x,i64 (iadd (i:Int) 1),()))))) (some (.ex 0 (x,(i:Int),()))))
  (hg:∀ x a (i:Nat) (F:List V),g (x,a,(i:Int),(mti,F,()),())=sel (lt (i:Int) (len l)) (ck (inB (i:Int) (len l)) (ob (Rd (nth l (nat (i:Int)) 0,b,a,())) fun q=>sel (bnot (beq q.2.2.1 0)) (some (.rt (noM,q.2.2.1,())))
   (ck (rm 56 (nadd (ln F) 1)) (some (.nx (x,q.2.1,i64 (iadd (i:Int) 1),(mti,app F [(nth l (nat (i:Int)) 0,q.1,())],()),())))))) (some (.ex 2 (x,a,(i:Int),(mti,F,()),())))) (x0:Int) :
  lc (loop f (x0,0,())) (fun _=>none) (fun i a=>ck (neb i 0) (lc (loop g (a.1,at',0,(mti,[],()),())) (fun _=>none) (fun i a=>ck (neb i 2) (sel (lt a.2.1 (len b)) (some (noM,4,())) (some ((a.2.2.2.1.1,a.2.2.2.1.2.1,a.2.2.2.1.2.2),0,())))) fun r=>some r)) (fun r=>some r)=some (rdE b mti l at'):=by
 have key:=xM (f:=f) l (fun (_:Unit) i=>(x0,(i:Int),())) 0 qz5 (fun _ _=>True) (fun _ i h _=>⟨?_,fun _ _=>trivial⟩) (fun _ _ => ?_) () trivial
 ·refine (qX key).trans ?_
  rw [qHh]
  unfold rdE
  by_cases ho:∀ n∈l,(zF n).isSome=true
  ·rw [if_pos ho,if_pos ho]
   refine qsK.trans ((qH g62).trans ?_)
   have key2:=xM (f:=g) l (fun (s:Int×List V) i=>(x0,s.1,(i:Int),(mti,s.2,()),())) 2 (qvR b) (fun s i=>s.2.length≤i) (fun s i h hI=>⟨?_,fun s' hs => ?_⟩) (fun s _ => ?_) (at',[]) (Nat.le_refl _)
   ·refine (qX key2).trans ?_
    rw [qHg]
    rcases rdFs b l at' [] with ⟨_ | q,a,F⟩
    ·refine qsK.trans ((qH g62).trans ?_)
     by_cases ha:a < (b.length:Int)
     ·simp only [if_pos ha];simp (disch:=first | assumption | omega | (dsimp only;omega) | decide) only [go_sem,Int.reduceToNat]
     ·simp only [if_neg ha];simp (disch:=first | assumption | omega | (dsimp only;omega) | decide) only [go_sem,Int.reduceToNat]
    ·rfl
   ·rw [hg]
    by_cases h0:(rdD l[i] b s.1).2.2.1=0
    ·have hst:qvR b s l[i] = .nx ((rdD l[i] b s.1).2.1,s.2++[(l[i],(rdD l[i] b s.1).1,())]):=if_pos h0
     simp (disch:=omega) only [go_sem,Int.reduceToNat,hRd,h0,hst,qaN]
    ·have hst:qvR b s l[i] = .rt (noM,(rdD l[i] b s.1).2.2.1,()):=if_neg h0
     simp (disch:=omega) only [go_sem,Int.reduceToNat,hRd,h0,hst,qaN]
   ·unfold qvR at hs
    split at hs
    ·cases hs;rw [List.length_append];simp;omega
    ·cases hs
   ·rw [hg];simp (disch:=omega) only [go_sem,Int.reduceToNat]
  ·rw [if_neg ho,if_neg ho];rfl
 ·rw [hf]
  cases h0:(zF l[i]).isSome
  ·have hst:qz5 () l[i] = .rt (noM,2,()):=if_neg (by rw [h0];simp)
   simp (disch:=omega) only [go_sem,Int.reduceToNat,hOf,qL7,h0,hst,qaN]
  ·have hst:qz5 () l[i] = .nx ():=if_pos h0
   simp (disch:=omega) only [go_sem,Int.reduceToNat,hOf,qL7,h0,hst,qaN]
 ·rw [hf];simp (disch:=omega) only [go_sem,Int.reduceToNat]
theorem qc7 (b:BB) (hl:b.length≤1000000):qaH (b,())=some (rdM b):=by
 unfold qaH
 unfold rdM
 rcases jE (b:=b) (I:=0) (N:=4) (Nat.zero_le _) (by omega) with ⟨h2,h⟩ | ⟨h2,h,_⟩ | ⟨s,h4,h,hf,hs,_⟩
 ·replace h:zM b 0 4=([],0,3,()):=h
  rw [h]
  exact (qE (lt_t (by simp only [len];omega))).trans rfl
 ·replace h:zM b 0 4=([],0,2,()):=h
  rw [h]
  refine (qB (lt_f (by simp only [len];omega))).trans ?_
  refine (qF (xK b 0 4 hl)).trans ?_
  rw [h]
  refine (qF (yD [] (by simp))).trans ?_
  rfl
 ·replace h:zM b 0 4=(s,2,0,()):=h
  rw [h]
  refine (qB (lt_f (by simp only [len];omega))).trans ?_
  refine (qF (xK b 0 4 hl)).trans ?_
  rw [h]
  refine (qF (yD s (by omega))).trans ?_
  rw [if_pos ⟨by omega,by omega,hf⟩,if_neg (by simp)]
  by_cases ht:jJ (val s:Int)
  ·refine (qF (a:=(false,())) ((qB rfl).trans ((qF (v9 _)).trans (by rw [D_t ht];rfl)))).trans ?_
   refine (qB rfl).trans ?_
   rw [if_pos ht]
   refine (qF (qvL b 2 hl)).trans ?_
   by_cases h0:(bmR b 2).2.2.1=0
   ·refine (qB (by rw [kQ h0];rfl)).trans ?_
    rw [if_neg (by simp [h0])]
    refine qGN (e1:=0) wD (b:=b) (fun n a=>qvM n b a hl) qAv (fun _ _=>rfl) (fun x a i F => ?_) 0
    by_cases hi:i < (bmR b 2).1.length
    ·have hin:inB (i:Int) (len (bmR b 2).1)=true:=zD hi
     simp only [hin,ck_t];rfl
    ·refine (qB (lt_f (by simp only [len];omega))).trans (qB (lt_f (by simp only [len];omega))).symm
   ·refine (qE (by rw [vL h0];rfl)).trans ?_
    rw [if_pos h0];rfl
  ·refine (qF (a:=(true,())) ((qB rfl).trans ((qF (v9 _)).trans (by rw [D_f ht];rfl)))).trans ?_
   rw [if_neg ht];rfl
noncomputable def qFA     {α : Type} (c : Nat) (z : α) (x : List (List α) × Unit) : Option (List α × Unit) :=
  lc (loop (fun (x_1 : Int × Int × Unit) => sel (lt x_1.2.1 (len x.1)) (ck (inB x_1.2.1 (len x.1)) (sel (lt (i64 (iadd x_1.1 (len (nth x.1 (nat x_1.2.1) (none' α))))) 0) none
        (some (LS.nx (i64 (iadd x_1.1 (len (nth x.1 (nat x_1.2.1) (none' α)))), i64 (iadd x_1.2.1 1), ()))))) (some (LS.ex 0 (x_1.1, x_1.2.1, ())))) (0, 0, ()))
  (fun (a : Int × Int × Unit) => none)
  (fun (i : Nat) (a : Int × Int × Unit) => ck (neb i 0) (sel (lt a.1 0) none (sel (lt 0 (i64 (isub a.1 (i64 (isub 0 0))))) (ck (inC 0 0 0)
       (ck (band (le 0 (i64 (isub a.1 (i64 (isub 0 0))))) (rm c (nat (i64 (isub a.1 (i64 (isub 0 0))))))) (ck (inC 0 0 (len (rep (nat (i64 (isub a.1 (i64 (isub 0 0))))) z)))
         (lc (loop (fun (x_1 : List α × Int × Unit) => sel (lt x_1.2.1 (len x.1)) (ck (inB x_1.2.1 (len x.1)) (ck (rm c (nadd (ln x_1.1) (ln (nth x.1 (nat x_1.2.1) (none' α)))))
            (some (LS.nx (app x_1.1 (nth x.1 (nat x_1.2.1) (none' α)), i64 (iadd x_1.2.1 1), ()))))) (some (LS.ex 2 (x_1.1, x_1.2.1, ())))) (cut (rep (nat (i64 (isub a.1 (i64 (isub 0 0))))) z) (nat 0) (nsub (nat 0) (nat 0)), 0, ()))
          (fun (a : List α × Int × Unit) => none) (fun (i : Nat) (a : List α × Int × Unit) => ck (neb i 2) (some (a.1, ()))) fun (r : List α × Unit) => some r))))
      (lc (loop (fun (x_1 : List α × Int × Unit) => sel (lt x_1.2.1 (len x.1)) (ck (inB x_1.2.1 (len x.1)) (ck (rm c (nadd (ln x_1.1) (ln (nth x.1 (nat x_1.2.1) (none' α)))))
            (some (LS.nx (app x_1.1 (nth x.1 (nat x_1.2.1) (none' α)), i64 (iadd x_1.2.1 1), ()))))) (some (LS.ex 2 (x_1.1, x_1.2.1, ())))) (none' α, 0, ()))
       (fun (a : List α × Int × Unit) => none) (fun (i : Nat) (a : List α × Int × Unit) => ck (neb i 2) (some (a.1, ()))) fun (r : List α × Unit) => some r))))
  fun (r : List α × Unit) => some r
theorem ql9 {α β σ ρ:Type} {mk:β→Nat→σ} {e:Nat} {step:β→α→LS β ρ} {g:β→α→β} (h:∀ b x,step b x = .nx (g b x)):∀ (l:List α) (b:β) (i:Nat),y2 mk e step b i l = .ex e (mk (l.foldl g b) (i+l.length))
 | [],b,i=>rfl
 | x :: r,b,i=>by
  simp only [y2,h,List.foldl_cons,List.length_cons]
  rw [ql9 h r (g b x) (i+1)]
  congr 2;omega
theorem qKA {α:Type} (ls:List (List α)):∀ a:Int,ls.foldl (fun s x=>s+(x.length:Int)) a=a+(ls.flatten.length:Int):=by
 induction ls with
 | nil=>intro a;simp
 | cons x r ih=>intro a;rw [List.foldl_cons,ih];simp only [List.flatten_cons,List.length_append];omega
theorem qKB {α:Type} (ls:List (List α)):∀ a:List α,ls.foldl (fun s x=>s++x) a=a++ls.flatten:=by
 induction ls with
 | nil=>intro a;simp
 | cons x r ih=>intro a;rw [List.foldl_cons,ih];simp
theorem qDI {α:Type} {c:Nat} {z:α} (hc:c≤100000) (ls:List (List α)) (hl:ls.length≤100) (hx:∀ x∈ls,x.length≤1000000):qFA c z (ls,())=some (ls.flatten,()):=by
 unfold qFA
 generalize hf:(fun (x_1:Int×Int×Unit)=>_)=f
 generalize hg:(fun (x_1:List α×Int×Unit)=>(_:Option (LS (List α×Int×Unit) (List α×Unit))))=g
 have hmul:∀ n:Nat,n≤100000000→n*c≤140737488355328:=fun n hn=>Nat.le_trans (Nat.mul_le_mul hn hc) (by omega)
 have hlen:ls.flatten.length≤100000000:=by
  have:∀ ls:List (List α),(∀ x∈ls,x.length≤1000000)→ls.flatten.length≤1000000*ls.length:=by
   intro ls
   induction ls with
   | nil=>simp
   | cons x r ih =>
    intro h
    have h1:=h x (by simp)
    have h2:=ih fun u hu=>h u (by simp [hu])
    simp only [List.flatten_cons,List.length_append,List.length_cons];omega
  have:=this ls hx
  omega
 have key:=xM (f:=f) (ρ:=List α×Unit) ls (fun (s:Int) i=>(s,(i:Int),())) 0 (fun s x => .nx (s+(x.length:Int))) (fun s i=>0≤s∧s≤1000000*i) (fun s i h hI=>⟨?_,fun b' hb => ?_⟩) (fun s _ => ?_) 0 (by simp)
 ·rw [ql9 (g:=fun (s:Int) (x:List α)=>s+(x.length:Int)) (fun _ _=>rfl),qKA,Int.zero_add] at key
  replace key:loop f (0,0,())=_:=key
  have key2:=xM (f:=g) (ρ:=List α×Unit) ls (fun (s:List α) i=>(s,(i:Int),())) 2 (fun s x => .nx (s++x)) (fun s i=>s.length≤1000000*i) (fun s i h hI=>⟨?_,fun b' hb => ?_⟩) (fun s _ => ?_) [] (by simp)
  ·rw [ql9 (g:=fun (s:List α) (x:List α)=>s++x) (fun _ _=>rfl),qKB,List.nil_append] at key2
   replace key2:loop g ([],0,())=_:=key2
   refine (qX key).trans (qsK.trans ((qH g62).trans ((qB (by simp (disch:=omega) only [go_sem,Int.reduceToNat];omega)).trans ?_)))
   by_cases h0:0 < ls.flatten.length
   ·refine (qE (by simp (disch:=first | assumption | omega | (dsimp only;omega) | decide) only [go_sem,Int.reduceToNat];omega)).trans ((qH (by simp (disch:=first | assumption | omega | (dsimp only;omega) | decide) only [go_sem,Int.reduceToNat];decide)).trans ?_)
    have hrep:∀ (n:Nat) (a:α),(rep n a).length=n:=fun n a=>by simp [rep]
    have h5:i64 (isub (ls.flatten.length:Int) (i64 (isub 0 0)))=(ls.flatten.length:Int):=by simp (disch:=first | assumption | omega | (dsimp only;omega) | decide) only [go_sem,Int.reduceToNat];omega
    simp only [h5]
    have hm:=hmul _ hlen
    refine (qH (by simp (disch:=omega) only [go_sem,Int.reduceToNat];exact ⟨by omega,hm⟩)).trans ((qH (by simp (disch:=omega) only [go_sem,Int.reduceToNat,hrep];exact ⟨by omega,by omega,by omega⟩)).trans ?_)
    have hcut:cut (rep (nat (ls.flatten.length:Int)) z) (nat 0) (nsub (nat 0) (nat 0))=[]:=by simp [cut,nat,nsub]
    rw [hcut]
    refine (qX key2).trans ?_
    simp (disch:=first | assumption | omega | (dsimp only;omega) | decide) only [go_sem,Int.reduceToNat]
   ·refine (qB (by simp (disch:=first | assumption | omega | (dsimp only;omega) | decide) only [go_sem,Int.reduceToNat];omega)).trans ((qX key2).trans ?_)
    simp (disch:=first | assumption | omega | (dsimp only;omega) | decide) only [go_sem,Int.reduceToNat]
  ·subst hg
   have h2:=hx ls[i] (List.getElem_mem h)
   have hm:=hmul (s.length+(ls[i]).length) (by omega)
   simp (disch:=omega) only [go_sem,Int.reduceToNat,qaN]
  ·cases hb
   have h2:=hx ls[i] (List.getElem_mem h)
   rw [List.length_append];omega
  ·subst hg;simp (disch:=omega) only [go_sem,Int.reduceToNat]
 ·subst hf
  have h2:=hx ls[i] (List.getElem_mem h)
  simp (disch:=omega) only [go_sem,Int.reduceToNat,qaN]
 ·cases hb
  have h2:=hx ls[i] (List.getElem_mem h)
  omega
 ·subst hf;simp (disch:=omega) only [go_sem,Int.reduceToNat]
theorem qGn (ls:List (List V)) (hl:ls.length≤100) (hx:∀ x∈ls,x.length≤1000000):zK (ls,())=some (ls.flatten,()) :=
 (show zK (ls,())=qFA 56 (0,none' UInt8,()) (ls,()) from rfl).trans (qDI (by omega) ls hl hx)
def xU (no:Int):List V→Nat
 | []=>0
 | v :: r=>if no≤v.1 then 0 else xU no r+1
def hasI (no:Int):List V→Bool
 | []=>false
 | v :: r=>if no≤v.1 then decide (v.1=no) else hasI no r
theorem qBk (no:Int):∀ l:List V,xU no l≤l.length
 | []=>Nat.le_refl _
 | v :: r=>by
  unfold xU
  split
  ·exact Nat.zero_le _
  ·have:=qBk no r
   simp only [List.length_cons];omega
theorem qBb {no:Int}:∀ {l:List V},hasI no l=true→∃ h:xU no l < l.length,(l[xU no l]).1=no
 | [],h=>by cases h
 | v :: r,h=>by
  unfold hasI at h
  by_cases hc:no≤v.1
  ·rw [if_pos hc] at h
   have:xU no (v :: r)=0:=by unfold xU;rw [if_pos hc]
   simp only [this]
   exact ⟨by simp,by simpa using h⟩
  ·rw [if_neg hc] at h
   obtain ⟨h1,h2⟩:=qBb h
   have:xU no (v :: r)=xU no r+1:=by conv=>{ lhs;unfold xU }; rw [if_neg hc]
   simp only [this]
   exact ⟨by simp;omega,by simpa using h2⟩
theorem qDz (l:List V) (no:Int) (hl:l.length≤1000000):jH ((l,1,()),no,())=some ((xU no l:Int),hasI no l,()):=by
 unfold jH
 generalize hf:(fun (x_1:Int×Bool×Int×Unit)=>_)=f
 have key:∀ (r:List V) (i:Nat),l.drop i=r→i≤l.length→loop f (0,false,(i:Int),())=if i+xU no r < l.length then some (.rt (((i+xU no r:Nat):Int),hasI no r,())) else some (.ex 0 (0,false,(l.length:Int),())):=by
  intro r
  induction r with
  | nil =>
   intro i hr hi
   have hl':=congrArg List.length hr
   rw [List.length_drop,List.length_nil] at hl'
   have:i=l.length:=by omega
   subst this
   rw [if_neg (by simp [xU])]
   refine qU ?_
   subst hf;simp (disch:=omega) only [go_sem,Int.reduceToNat]
  | cons v r ih =>
   intro i hr hi
   have hl':=congrArg List.length hr
   rw [List.length_drop,List.length_cons] at hl'
   have hlt:i < l.length:=by omega
   rw [List.drop_eq_getElem_cons hlt] at hr
   obtain ⟨hv,hr'⟩:=List.cons.inj hr
   have hp:qbJ (v,())=some (v.1,()):=rfl
   by_cases hc:no≤v.1
   ·have h0:xU no (v :: r)=0:=by unfold xU;rw [if_pos hc]
    have h1:hasI no (v :: r)=D (v.1=no):=by unfold hasI;rw [if_pos hc];exact g51
    rw [h0,h1,if_pos (by omega)]
    refine qdI ?_
    subst hf;simp (disch:=omega) only [go_sem,Int.reduceToNat,hv,hp,Int.add_zero]
   ·have h0:xU no (v :: r)=xU no r+1:=by conv=>{ lhs;unfold xU }; rw [if_neg hc]
    have h1:hasI no (v :: r)=hasI no r:=by conv=>{ lhs;unfold hasI }; rw [if_neg hc]
    rw [h0,h1]
    refine (vF (y:=(0,false,((i+1:Nat):Int),())) ?_).trans ((ih (i+1) hr' hlt).trans ?_)
    ·subst hf;simp (disch:=omega) only [go_sem,Int.reduceToNat,hv,hp]
    ·rw [show i+1+xU no r=i+(xU no r+1) by omega]
 have k0:=key l 0 rfl (Nat.zero_le _)
 rw [Nat.zero_add] at k0
 refine (qX k0).trans ?_
 by_cases hlt:xU no l < l.length
 ·rw [if_pos hlt];rfl
 ·rw [if_neg hlt]
  have he:=qBk no l
  have:xU no l=l.length:=by omega
  have hn:hasI no l=false:=(Bool.not_eq_true _).mp fun h=>hlt (qBb h).1
  rw [this,hn];rfl
def qCk (l:List V) (x:V):List V:=l.take (xU x.1 l)++(x :: l.drop (if hasI x.1 l=true then xU x.1 l+1 else xU x.1 l))
theorem qIU {α:Type} {l:List α} {n:Nat}:sub l 0 (n:Int)=l.take n:=by simp [sub]
theorem qIT {α:Type} {l:List α} {n:Nat}:sub l (n:Int) (len l)=l.drop n:=by
 simp only [sub,len,Int.toNat_natCast];rw [List.take_of_length_le (by rw [List.length_drop];omega)]
theorem qIH (l:List V) (x:V) (hl:l.length≤100000):xO ((l,1,()),x,())=some (qCk l x,()):=by
 unfold xO
 refine (qH g62).trans ((qF (show qbJ (x,())=some (x.1,()) from rfl)).trans ((qF (qDz l x.1 (by omega))).trans ?_))
 have hle:=qBk x.1 l
 have hc:∀ n:Nat,zK ([l.take (xU x.1 l),[x],l.drop n],())=some (l.take (xU x.1 l)++(x :: l.drop n),()):=fun n=>by
  rw [qGn _ (by simp) (fun y hy=>by
   simp only [List.mem_cons,List.not_mem_nil,or_false] at hy
   rcases hy with rfl | rfl | rfl
   ·have:=List.length_take_le' (xU x.1 l) l;omega
   ·simp
   ·rw [List.length_drop];omega)]
  simp
 unfold qCk
 cases h:hasI x.1 l
 ·refine (qF (qB rfl)).trans ?_
  refine (qH (by simp only [go_sem,Int.reduceToNat];omega)).trans ((qH (by simp only [go_sem,Int.reduceToNat];omega)).trans ?_)
  simp only [qIU,qIT]
  exact (qF (hc _)).trans rfl
 ·obtain ⟨h1,h2⟩:=qBb h
  have e:i64 (iadd (xU x.1 l:Int) 1)=((xU x.1 l+1:Nat):Int):=zH (b:=1) (by omega)
  refine (qF (qE rfl)).trans ?_
  simp only [e]
  refine (qH (by simp only [go_sem,Int.reduceToNat];omega)).trans ((qH (by simp only [go_sem,Int.reduceToNat];omega)).trans ?_)
  simp only [qIU,qIT]
  exact (qF (hc _)).trans rfl
def qLk (m:M) (no:Int) (v:BB):M×Int×Unit:=if zF no=none then (m,12,()) else if xQ no v=true then ((m.1,qCk m.2.1 (no,v,()),()),0,()) else (m,1,())
theorem qsM (m:M) (no:Int) (v:BB) (hl:m.2.1.length≤100000) (hv:v.length≤1000000):j7 (m,no,v,())=some (qLk m no v):=by
 unfold j7 qLk
 refine (qF (wP no)).trans ?_
 rw [qL7]
 cases ho:zF no with
 | none=>rfl
 | some p =>
  rw [if_neg (by simp)]
  refine (qB rfl).trans ((qF (wQ no v hv)).trans ?_)
  cases hf:xQ no v
  ·rfl
  ·exact (qB rfl).trans ((qF (show qf8 (m,())=some ((m.2.1,1,()),()) from rfl)).trans ((qF (qIH m.2.1 (no,v,()) hl)).trans rfl))
def getR (no:Int):List V→BB×Bool×Unit
 | []=>([],false,())
 | v :: r=>if v.1=no then (v.2.1,true,()) else getR no r
def qAe (no:Int) (_:Unit) (v:V):LS Unit (BB×Bool×Unit):=if v.1=no then .rt (v.2.1,true,()) else .nx ()
theorem qHi {σ:Type} {mk:Unit→Nat→σ} {e:Nat} {no:Int}:∀ (l:List V) (i:Nat),∃ j,y2 mk e (qAe no) () i l=if (getR no l).2.1=true then .rt (getR no l) else .ex e (mk () j)
 | [],i=>⟨i,rfl⟩
 | v :: r,i=>by
  by_cases h:v.1=no
  ·have hs:qAe no () v = .rt (v.2.1,true,()):=if_pos h
   have hg:getR no (v :: r)=(v.2.1,true,()):=by unfold getR;rw [if_pos h]
   exact ⟨0,by simp only [y2,hs,hg,if_pos]⟩
  ·have hs:qAe no () v = .nx ():=if_neg h
   have hg:getR no (v :: r)=getR no r:=by conv=>{ lhs;unfold getR }; rw [if_neg h]
   obtain ⟨j,hj⟩:=qHi (mk:=mk) (e:=e) (no:=no) r (i+1)
   exact ⟨j,by simp only [y2,hs,hg];exact hj⟩
theorem qwK {no:Int}:∀ {l:List V},(getR no l).2.1=false→getR no l=([],false,())
 | [],_=>rfl
 | v :: r,h=>by
  unfold getR at h ⊢
  split
  ·rename_i hc;rw [if_pos hc] at h;cases h
  ·rename_i hc;rw [if_neg hc] at h;exact qwK h
theorem qa7 (m:M) (no:Int) (hl:m.2.1.length≤1000000):kX (m,no,())=some (getR no m.2.1):=by
 unfold kX
 generalize hf:(fun (x_1:Bool×Int×Unit)=>_)=f
 have key:=xM (f:=f) m.2.1 (fun (_:Unit) i=>(false,(i:Int),())) 0 (qAe no) (fun _ _=>True) (fun _ i h _=>⟨?_,fun _ _=>trivial⟩) (fun _ _ => ?_) () trivial
 ·refine (qX key).trans ?_
  obtain ⟨j,hj⟩:=qHi (mk:=fun _ i=>((false,(i:Int),()):Bool×Int×Unit)) (e:=0) (no:=no) m.2.1 0
  rw [hj]
  cases h:(getR no m.2.1).2.1
  ·rw [qwK h];rfl
  ·rfl
 ·subst hf
  by_cases h1:(m.2.1[i]).1=no
  ·have hs:qAe no () m.2.1[i] = .rt (m.2.1[i].2.1,true,()):=if_pos h1
   simp (disch:=omega) only [go_sem,Int.reduceToNat,hs,qaN]
  ·have hs:qAe no () m.2.1[i] = .nx ():=if_neg h1
   simp (disch:=omega) only [go_sem,Int.reduceToNat,hs,qaN]
 ·subst hf;simp (disch:=omega) only [go_sem,Int.reduceToNat]
def dg (n:Int) (w:Nat):BB:=ps 10 dch n.toNat w
theorem z9 {n:Int} {w:Nat}:(dg n w).length=w:=zP _ _ _ _
theorem qFw {n:Int} {w:Nat}:figs (dg n w):=qnT
theorem qPS    {n : Int} {w : Nat} (h0 : 0 ≤ n) (h : n < 10 ^ w) : (val (dg n w) : Int) = n := by
  unfold dg
  rw [qIJ   , Nat.mod_eq_of_lt (by have : ((n.toNat : Nat) : Int) < ((10 ^ w : Nat) : Int) := by rw [Int.toNat_of_nonneg h0]; push_cast; exact h
                                   exact Int.ofNat_lt.1 this)]
  omega
theorem x4 {n:Int} {w:Nat} (h1:1≤w) (h2:w≤18) (h0:0≤n) (h:n < 10 ^ w) (h64:n≤9223372036854775807):z6 (n,(w:Int),())=some (dg n w,()):=by
 unfold z6
 rw [wR _ _ h64,if_pos ⟨show (1:Int)≤(w:Int) by omega,show (w:Int)≤18 by omega,h0,by simpa using h⟩]
 show ck (rm 1 (ln (dg n w))) _=_
 simp (disch:=omega) only [go_sem,Int.reduceToNat,z9]
 rfl
theorem xJ {n:Int} {w:Nat} (h1:1≤w) (h2:w≤18) (h0:0≤n) (h:n < 10 ^ w) (h64:n≤9223372036854775807):q9 (n,(w:Int),())=some (dg n w,()):=by
 unfold q9
 rw [kM _ _ h64,if_pos ⟨show (1:Int)≤(w:Int) by omega,show (w:Int)≤18 by omega,h0,by simpa using h⟩]
 show ck (rm 1 (ln (dg n w))) _=_
 simp (disch:=omega) only [go_sem,Int.reduceToNat,z9]
 rfl
def msgN (n:N):M :=
 if n.1=false then (810,[(11,dg n.2.2.1 6,()),(39,dg n.2.2.2.1 2,()),(70,dg n.2.1 3,())],())
 else if n.2.1=101 then (800,[(11,dg n.2.2.1 6,()),(48,jI n.2.2.2.2.2.2.1,()),(53,dg n.2.2.2.2.1 16,()),(70,dg n.2.1 3,()),(96,n.2.2.2.2.2.1,())],())
 else if n.2.1=201 then (800,[(11,dg n.2.2.1 6,()),(15,dg n.2.2.2.2.2.2.2.1 6,()),(70,dg n.2.1 3,())],())
 else (800,[(11,dg n.2.2.1 6,()),(70,dg n.2.1 3,())],())
theorem qdM {no k:Int} {w:Nat} (h:zF no=some (k,(w:Int))) (hw:1≤w) {n:Int}:xQ no (dg n w)=true:=by
 unfold xQ
 rw [h]
 refine decide_eq_true ⟨⟨fun _=>qFw,fun _=>qmA qFw⟩, ?_⟩
 unfold fln
 rw [z9]
 split <;> omega
theorem fo11:zF 11=some (1,6):=by decide
theorem fo15:zF 15=some (1,6):=by decide
theorem fo39:zF 39=some (3,2):=by decide
theorem fo48:zF 48=some (5,400):=by decide
theorem fo53:zF 53=some (1,16):=by decide
theorem fo70:zF 70=some (1,3):=by decide
theorem fo96:zF 96=some (6,8):=by decide
theorem qMT {v:BB} (h:v.length=8):xQ 96 v=true:=by
 unfold xQ
 rw [fo96]
 refine decide_eq_true ⟨⟨fun h=>by omega,fun h=>by omega⟩, ?_⟩
 unfold fln
 rw [if_pos (by omega),h];rfl
theorem qNO {t:Int} {l:List V} {no:Int} {v:BB} (hl:l.length≤100) (hv:v.length≤1000) (hf:xQ no v=true):j7 ((t,l,()),no,v,())=some ((t,qCk l (no,v,()),()),0,()):=by
 rw [qsM (t,l,()) no v (show l.length≤100000 by omega) (by omega)]
 obtain ⟨k,m,hk,_⟩:=qbL.1 hf
 unfold qLk
 rw [if_neg (by rw [hk];simp),if_pos hf]
theorem qJY:∀ k:Nat,k < 16→32≤(nib k).toNat∧(nib k).toNat≤126:=by decide
theorem qKq {b:BB} {c:UInt8} (h:c∈jI b):32≤c.toNat∧c.toNat≤126:=by
 unfold jI at h
 obtain ⟨x,_,hc⟩:=List.mem_flatMap.1 h
 have hx:=x.toNat_lt
 simp only [List.mem_cons,List.not_mem_nil,or_false] at hc
 rcases hc with rfl | rfl
 ·exact qJY _ (by omega)
 ·exact qJY _ (by omega)
theorem qKp {b:BB}:rng 32 126 (jI b):=by
 intro i h
 have:=qKq (List.getElem_mem h)
 rw [qC5];omega
theorem qMU {b:BB} (h:b.length=3):xQ 48 (jI b)=true:=by
 unfold xQ
 rw [fo48]
 refine decide_eq_true ⟨⟨fun h=>by omega,fun _=>qKp⟩, ?_⟩
 unfold fln
 rw [zS,h];decide
theorem setc {t:Int} {l l':List V} {no:Int} {v:BB} (hl:l.length≤100) (hv:v.length≤1000) (hf:xQ no v=true) (hw:qCk l (no,v,())=l'):j7 ((t,l,()),no,v,())=some ((t,l',()),0,()):=by rw [← hw];exact qNO hl hv hf
theorem qf2 {n:N} (hr:z7 n):yU (n,())=some (msgN n,()):=by
 obtain ⟨rq,c,st,rs,g,no,k,d,⟨⟩⟩:=n
 have hr':=jX.1 hr
 obtain ⟨hc,s1,s2,r1,r2,r3,hk⟩:=hr'
 have hc0:0≤c∧c≤301:=by unfold yV at hc;omega
 have e11:z6 (st,6,())=some (dg st 6,()):=x4 (n:=st) (w:=6) (by omega) (by omega) (by omega) (by omega) (by omega)
 have e70:z6 (c,3,())=some (dg c 3,()):=x4 (n:=c) (w:=3) (by omega) (by omega) (by omega) (by omega) (by omega)
 have e39:z6 (rs,2,())=some (dg rs 2,()):=x4 (n:=rs) (w:=2) (by omega) (by omega) (by omega) (by omega) (by omega)
 have f11:=fun n=>qdM (no:=11) (w:=6) (n:=n) fo11 (by omega)
 have f15:=fun n=>qdM (no:=15) (w:=6) (n:=n) fo15 (by omega)
 have f39:=fun n=>qdM (no:=39) (w:=2) (n:=n) fo39 (by omega)
 have f53:=fun n=>qdM (no:=53) (w:=16) (n:=n) fo53 (by omega)
 have f70:=fun n=>qdM (no:=70) (w:=3) (n:=n) fo70 (by omega)
 have len:∀ {n:Int} {w:Nat},w≤20→(dg n w).length≤1000:=fun h=>by rw [z9];omega
 have t1:j7 ((810,([]:List V),()),11,dg st 6,())=some ((810,[(11,dg st 6,())],()),0,()):=setc (l:=[]) (by decide) (len (by omega)) (f11 st) rfl
 have t2:j7 ((810,[(11,dg st 6,())],()),70,dg c 3,())=some ((810,[(11,dg st 6,()),(70,dg c 3,())],()),0,()):=setc (by simp) (len (by omega)) (f70 c) rfl
 unfold yU
 cases rq
 ·have t3:j7 ((810,[(11,dg st 6,()),(70,dg c 3,())],()),39,dg rs 2,())=some ((810,[(11,dg st 6,()),(39,dg rs 2,()),(70,dg c 3,())],()),0,()):=setc (by simp) (len (by omega)) (f39 rs) rfl
  simp only [go_sem,Int.reduceToNat,e11,e70,e39,t1,t2,t3]
  rfl
 ·by_cases h1:c=101
  ·subst h1
   rw [if_pos ⟨rfl,rfl⟩] at hk
   obtain ⟨g1,g2,hn,hkc,hd⟩:=hk
   have e53:z6 (g,16,())=some (dg g 16,()):=x4 (n:=g) (w:=16) (by omega) (by omega) (by omega) (by omega) (by omega)
   have ex:=qsS k (by omega)
   have hxl:(jI k).length=6:=by rw [zS,hkc]
   have t3:j7 ((800,[(11,dg st 6,()),(70,dg 101 3,())],()),48,jI k,())=some ((800,[(11,dg st 6,()),(48,jI k,()),(70,dg 101 3,())],()),0,()):=setc (by simp) (by omega) (qMU hkc) rfl
   have t4:j7 ((800,[(11,dg st 6,()),(48,jI k,()),(70,dg 101 3,())],()),53,dg g 16,())=some ((800,[(11,dg st 6,()),(48,jI k,()),(53,dg g 16,()),(70,dg 101 3,())],()),0,()):=setc (by simp) (len (by omega)) (f53 g) rfl
   have t5:j7 ((800,[(11,dg st 6,()),(48,jI k,()),(53,dg g 16,()),(70,dg 101 3,())],()),96,no,())=some ((800,[(11,dg st 6,()),(48,jI k,()),(53,dg g 16,()),(70,dg 101 3,()),(96,no,())],()),0,()):=setc (by simp) (by omega) (qMT hn) rfl
   simp (disch:=omega) only [go_sem,Int.reduceToNat,e11,e70,e39,e53,ex,t1,t2,t3,t4,t5,hxl]
   rfl
  ·by_cases h2:c=201
   ·subst h2
    rw [if_neg (by omega),if_pos ⟨rfl,rfl⟩] at hk
    obtain ⟨_,_,_,d1,d2⟩:=hk
    have e15:z6 (d,6,())=some (dg d 6,()):=x4 (n:=d) (w:=6) (by omega) (by omega) (by omega) (by omega) (by omega)
    have t3:j7 ((800,[(11,dg st 6,()),(70,dg 201 3,())],()),15,dg d 6,())=some ((800,[(11,dg st 6,()),(15,dg d 6,()),(70,dg 201 3,())],()),0,()):=setc (by simp) (len (by omega)) (f15 d) rfl
    simp (disch:=omega) only [go_sem,Int.reduceToNat,e11,e70,e39,e15,t1,t2,t3]
    rfl
   ·simp only [go_sem,Int.reduceToNat,e11,e70,e39,t1,t2,h1,h2,D_f h1,D_f h2]
    show _=some (if true=false then _ else if c=101 then _ else if c=201 then _ else _,())
    rw [if_neg (by decide),if_neg h1,if_neg h2]
theorem qoY {n:N} (hr:z7 n):qb8 (n,())=some (msgN n,()):=by
 obtain ⟨rq,c,st,rs,g,no,k,d,⟨⟩⟩:=n
 have hr':=jX.1 hr
 obtain ⟨hc,s1,s2,r1,r2,r3,hk⟩:=hr'
 have hc0:0≤c∧c≤301:=by unfold yV at hc;omega
 have e11:q9 (st,6,())=some (dg st 6,()):=xJ (n:=st) (w:=6) (by omega) (by omega) (by omega) (by omega) (by omega)
 have e70:q9 (c,3,())=some (dg c 3,()):=xJ (n:=c) (w:=3) (by omega) (by omega) (by omega) (by omega) (by omega)
 have e39:q9 (rs,2,())=some (dg rs 2,()):=xJ (n:=rs) (w:=2) (by omega) (by omega) (by omega) (by omega) (by omega)
 unfold qb8
 cases rq
 ·simp (disch:=omega) only [go_sem,Int.reduceToNat,e11,e70,e39,List.length_cons,List.length_nil,List.length_append]
  rfl
 ·by_cases h1:c=101
  ·subst h1
   rw [if_pos ⟨rfl,rfl⟩] at hk
   obtain ⟨g1,g2,hn,hkc,hd⟩:=hk
   have e53:q9 (g,16,())=some (dg g 16,()):=xJ (n:=g) (w:=16) (by omega) (by omega) (by omega) (by omega) (by omega)
   have ex:=qyR k (by omega)
   have hxl:(jI k).length=6:=by rw [zS,hkc]
   simp (disch:=omega) only [go_sem,Int.reduceToNat,e11,e70,e39,e53,ex,hxl,List.length_cons,List.length_nil,List.length_append]
   rfl
  ·by_cases h2:c=201
   ·subst h2
    rw [if_neg (by omega),if_pos ⟨rfl,rfl⟩] at hk
    obtain ⟨_,_,_,d1,d2⟩:=hk
    have e15:q9 (d,6,())=some (dg d 6,()):=xJ (n:=d) (w:=6) (by omega) (by omega) (by omega) (by omega) (by omega)
    simp (disch:=omega) only [go_sem,Int.reduceToNat,e11,e70,e39,e15,List.length_cons,List.length_nil,List.length_append]
    rfl
   ·simp (disch:=omega) only [go_sem,Int.reduceToNat,e11,e70,e39,h1,h2,D_f h1,D_f h2,List.length_cons,List.length_nil,List.length_append]
    show _=some (if true=false then _ else if c=101 then _ else if c=201 then _ else _,())
    rw [if_neg (by decide),if_neg h1,if_neg h2]
    rfl
theorem qzU:∀ {a b:List Int},a.Pairwise (· < ·)→b.Pairwise (· < ·)→(∀ n,n∈a↔n∈b)→a=b
 | [],[],_,_,_=>rfl
 | [],y :: b,_,_,h=>by have:=(h y).2 (by simp);cases this
 | x :: a,[],_,_,h=>by have:=(h x).1 (by simp);cases this
 | x :: a,y :: b,ha,hb,h=>by
  rw [List.pairwise_cons] at ha hb
  have hxy:x=y:=by
   have h1:=(h x).1 (by simp)
   have h2:=(h y).2 (by simp)
   rcases List.mem_cons.1 h1 with h1 | h1
   ·exact h1
   ·rcases List.mem_cons.1 h2 with h2 | h2
    ·exact h2.symm
    ·have:=hb.1 x h1
     have:=ha.1 y h2
     omega
  subst hxy
  rw [qzU ha.2 hb.2 fun n => ?_]
  have:=h n
  simp only [List.mem_cons] at this
  constructor
  ·intro hn
   rcases this.1 (.inr hn) with rfl | h1
   ·have:=ha.1 n hn;omega
   ·exact h1
  ·intro hn
   rcases this.2 (.inr hn) with rfl | h1
   ·have:=hb.1 n hn;omega
   ·exact h1
theorem qoR {l:List Int}:∀ {last:Int},jC last l=true→l.Pairwise (· < ·):=by
 induction l with
 | nil=>intros;exact List.Pairwise.nil
 | cons x r ih =>
  intro last h
  have hm:=h
  simp only [jC,Bool.and_eq_true,decide_eq_true_eq] at h
  exact List.pairwise_cons.2 ⟨fun y hy=>(vQ h.2 y hy).1,ih h.2⟩
theorem qJh {l:List Int}:∀ {last:Int},l.Pairwise (· < ·)→(∀ n∈l,last < n∧n≤128∧n≠65)→jC last l=true:=by
 induction l with
 | nil=>intros;rfl
 | cons x r ih =>
  intro last hp h
  rw [List.pairwise_cons] at hp
  simp only [jC,Bool.and_eq_true,decide_eq_true_eq]
  refine ⟨h x (by simp),ih hp.2 fun n hn=>⟨hp.1 n hn,(h n (by simp [hn])).2⟩⟩
theorem qsF (c:BB):((vE c).map Int.ofNat).Pairwise (· < ·):=by
 rw [List.pairwise_map]
 refine List.Pairwise.imp ?_ (show (vE c).Pairwise (· < ·) from List.Pairwise.filter _ List.pairwise_lt_range)
 intro a b h;exact Int.ofNat_lt.2 h
theorem qdE {c:BB} {n:Nat}:n∈vE c↔n≤8*c.length∧2≤n∧hasB c n=true:=by
 unfold vE
 rw [List.mem_filter,List.mem_range,Bool.and_eq_true]
 constructor
 ·rintro ⟨h1,h2,h3⟩;exact ⟨by omega,Nat.le_of_ble_eq_true h2,h3⟩
 ·rintro ⟨h1,h2,h3⟩;exact ⟨by omega,Nat.ble_eq_true_of_le h2,h3⟩
theorem qB5 {l:List Int} (h:jC 1 l=true) {n:Nat} (h1:1≤n) (h2:n≤8*(bmW l).length):hasB (bmW l) n=(decide ((n:Int)∈l) || (Nat.beq n 1 && qeH l)):=by
 rw [vS] at h2
 unfold bmW
 cases hw:qeH l
 ·rw [hw] at h2
  rw [if_neg (by simp)] at h2 ⊢
  rw [qkF h1 h2,Bool.and_false,Bool.or_false];rfl
 ·rw [hw] at h2
  rw [if_pos rfl] at h2 ⊢
  rw [qkF h1 h2,Bool.and_true]
  unfold memI
  refine Bool.eq_iff_iff.2 ?_
  simp only [Bool.or_eq_true,decide_eq_true_eq,List.mem_cons,Nat.beq_eq]
  rw [or_comm]
  refine or_congr Iff.rfl ?_
  omega
theorem qLN {l:List Int} (h:jC 1 l=true):(vE (bmW l)).map Int.ofNat=l:=by
 refine qzU (qsF _) (qoR h) fun n => ?_
 rw [List.mem_map]
 have hm:=vQ h
 constructor
 ·rintro ⟨k,hk,rfl⟩
  obtain ⟨h1,h2,h3⟩:=qdE.1 hk
  rw [qB5 h (by omega) h1] at h3
  have:Nat.beq k 1=false:=(Bool.not_eq_true _).mp fun hb=>by have:=Nat.eq_of_beq_eq_true hb;omega
  rw [this,Bool.false_and,Bool.or_false,decide_eq_true_eq] at h3
  exact h3
 ·intro hn
  have hb:=hm n hn
  refine ⟨n.toNat,qdE.2 ⟨?_,by omega, ?_⟩,by simp;omega⟩
  ·rw [vS]
   split
   ·omega
   ·rename_i hw
    have:=qpE h hw n hn
    omega
  ·rw [qB5 h (by omega) (by
    rw [vS]
    split
    ·omega
    ·rename_i hw
     have:=qpE h hw n hn
     omega)]
   rw [Int.toNat_of_nonneg (by omega),decide_eq_true hn,Bool.true_or]
theorem qB4 (l:List Int):8≤(bmW l).length∧(bmW l).length≤16:=by rw [vS];split <;> omega
theorem qOx {l:List Int} (h:jC 1 l=true):hasB (bmW l) 1=qeH l:=by
 rw [qB5 h (by omega) (by have:=qB4 l;omega)]
 have:decide (((1:Nat):Int)∈l)=false:=decide_eq_false fun hc=>by have:=(vQ h _ hc).1;omega
 rw [this];rfl
theorem qGs {l:List Int} (h:jC 1 l=true):qeH l=true↔∃ n∈l,64 < n:=by
 constructor
 ·intro hw
  unfold qeH at hw
  rw [Bool.and_eq_true,decide_eq_true_eq,decide_eq_true_eq] at hw
  exact ⟨_,by rw [qK (show l.length - 1 < l.length by omega)];exact List.getElem_mem _,hw.2⟩
 ·rintro ⟨n,hn,h1⟩
  refine Classical.byContradiction fun hw => ?_
  have:=qpE h hw n hn
  omega
theorem qOA {l:List Int} {c q:BB} {a:Int} (h:jC 1 l=true) (hc:c=bmW l++q):bmC c a=(l,a+((bmW l).length:Int),0,()):=by
 have h8:=qB4 l
 have hcl:c.length=(bmW l).length+q.length:=by rw [hc,List.length_append]
 have ht:c.take (bmW l).length=bmW l:=by rw [hc,List.take_left]
 have h1:hasB c 1=qeH l:=by
  rw [← qOx h,← ht]
  exact (qwI (by omega) (by omega) (by omega)).symm
 have hn:=qLN h
 have hbl:=vS l
 unfold bmC
 rw [h1]
 cases hw:qeH l
 ·rw [hw,if_neg (by simp)] at hbl
  rw [hbl] at ht hcl ⊢
  rw [if_neg (by simp;omega),if_neg (by simp),ht,hn];rfl
 ·rw [hw,if_pos rfl] at hbl
  rw [hbl] at ht hcl ⊢
  rw [if_neg (by simp;omega),if_pos rfl,ht,hn,if_neg]
  ·rfl
  ·rintro (hc65 | hall)
   ·have:((65:Nat):Int)∈l:=by rw [← hn];exact List.mem_map.2 ⟨65,hc65,rfl⟩
    have:=(vQ h _ this).2.2
    exact this rfl
   ·obtain ⟨n,hn1,hn2⟩:=(qGs h).1 hw
    have hb:=vQ h n hn1
    rw [← hn] at hn1
    obtain ⟨k,hk,rfl⟩:=List.mem_map.1 hn1
    have:=hall k hk
    simp at hn2 hb;omega
theorem qOy {l:List Int} {b q:BB} {A:Nat} (h:jC 1 l=true) (hA:A≤b.length) (hb:b.drop A=bmW l++q):bmR b A=(l,((A+(bmW l).length:Nat):Int),0,()):=by
 unfold bmR
 rw [if_neg (by omega),Int.toNat_natCast,qOA h hb,Int.natCast_add]
theorem qOz {c:BB} {a a':Int} {l:List Int} (h:bmC c a=(l,a',0,())):jC 1 l=true∧a'=a+((bmW l).length:Int)∧(bmW l).length≤c.length∧c=bmW l++c.drop (bmW l).length:=by
 unfold bmC at h
 by_cases h0:c.length < 8∨(hasB c 1=true∧c.length < 16)
 ·rw [if_pos h0] at h;simp at h
 rw [if_neg h0] at h
 have main:∀ size:Nat,size=8∨size=16→size≤c.length→(hasB c 1=true↔size=16)→l=(vE (c.take size)).map Int.ofNat→(size=16→¬ (65∈vE (c.take 16)∨∀ n∈vE (c.take 16),n < 65))→jC 1 l=true∧bmW l=c.take size:=by
  intro size hs hsc h1 hl h65
  have htl:(c.take size).length=size:=by rw [List.length_take];omega
  have hr:jC 1 l=true:=by
   rw [hl]
   refine qJh (qsF _) fun n hn => ?_
   obtain ⟨k,hk,rfl⟩:=List.mem_map.1 hn
   obtain ⟨k1,k2,k3⟩:=qdE.1 hk
   rw [htl] at k1
   refine ⟨by simp;omega,by simp;omega,fun hc => ?_⟩
   have hk65:k=65:=by simp at hc;omega
   subst hk65
   have h16:size=16:=by omega
   subst h16
   exact h65 rfl (.inl hk)
  have hw:qeH l=true↔size=16:=by
   rw [qGs hr,hl]
   constructor
   ·rintro ⟨n,hn,h1⟩
    obtain ⟨k,hk,rfl⟩:=List.mem_map.1 hn
    obtain ⟨k1,_⟩:=qdE.1 hk
    rw [htl] at k1
    simp at h1;omega
   ·intro h16
    subst h16
    refine Classical.byContradiction fun hc=>h65 rfl (.inr fun n hn=>Classical.byContradiction fun hlt=>hc ⟨(n:Int),List.mem_map.2 ⟨n,hn,rfl⟩,by omega⟩)
  refine ⟨hr, ?_⟩
  have hbl:(bmW l).length=size:=by
   rw [vS]
   split
   ·rename_i h;exact (hw.1 h).symm
   ·rename_i h;have:¬ size=16:=fun e=>h (hw.2 e);omega
  refine qJb (by rw [hbl,htl]) fun n n1 n2 => ?_
  rw [qB5 hr n1 n2]
  rw [hbl] at n2
  rw [hl]
  by_cases hn1:n=1
  ·subst hn1
   have hd:decide (((1:Nat):Int)∈(vE (c.take size)).map Int.ofNat)=false:=decide_eq_false fun hc=>by
    obtain ⟨k,hk,hk1⟩:=List.mem_map.1 hc
    have:=(qdE.1 hk).2.1
    simp at hk1;omega
   rw [hd,Bool.false_or,qwI (by omega) (by omega) hsc,← hl]
   have hb:Nat.beq 1 1=true:=rfl
   rw [hb,Bool.true_and]
   exact Bool.eq_iff_iff.2 (hw.trans h1.symm)
  ·have hb:Nat.beq n 1=false:=(Bool.not_eq_true _).mp fun hb=>hn1 (Nat.eq_of_beq_eq_true hb)
   rw [hb,Bool.false_and,Bool.or_false]
   refine Bool.eq_iff_iff.2 ?_
   rw [decide_eq_true_eq,List.mem_map]
   constructor
   ·rintro ⟨k,hk,hk1⟩
    have:k=n:=by simp at hk1;omega
    subst this
    exact (qdE.1 hk).2.2
   ·intro hh
    exact ⟨n,qdE.2 ⟨by rw [htl];omega,by omega,hh⟩,rfl⟩
 by_cases h1:hasB c 1=true
 ·rw [if_pos h1] at h
  by_cases h65:65∈vE (c.take 16)∨∀ n∈vE (c.take 16),n < 65
  ·rw [if_pos h65] at h;simp at h
  rw [if_neg h65] at h
  simp only [Prod.mk.injEq,and_true] at h
  have h16:16≤c.length:=by
   refine Classical.byContradiction fun hc=>h0 (.inr ⟨h1,by omega⟩)
  obtain ⟨r1,r2⟩:=main 16 (.inr rfl) h16 (iff_of_true h1 rfl) h.1.symm (fun _=>h65)
  have hbl:(bmW l).length=16:=by rw [r2,List.length_take];omega
  rw [hbl]
  refine ⟨r1,h.2.symm,h16, ?_⟩
  rw [r2,List.take_append_drop]
 ·rw [if_neg h1] at h
  simp only [Prod.mk.injEq,and_true] at h
  obtain ⟨r1,r2⟩:=main 8 (.inl rfl) (by omega) (iff_of_false h1 (by omega)) h.1.symm (fun e=>absurd e (by omega))
  have hbl:(bmW l).length=8:=by rw [r2,List.length_take];omega
  rw [hbl]
  refine ⟨r1,h.2.symm,by omega, ?_⟩
  rw [r2,List.take_append_drop]
theorem qMr {v:V} {k l:Int} (ho:zF v.1=some (k,l)) (hv:fv k l v.2.1):wrV v=wrF k v.2.1:=by
 unfold wrV wrD;rw [ho];simp only [if_pos hv]
theorem qNs {v:V} {b q:BB} {A:Nat} (hf:xQ v.1 v.2.1=true) (hA:A≤b.length) (h:b.drop A=wrV v++q):rdD v.1 b A=(v.2.1,((A+(wrV v).length:Nat):Int),0,()):=by
 obtain ⟨k,l,ho,hv⟩:=qbL.1 hf
 rw [qMr ho hv] at h ⊢
 unfold rdD;rw [ho]
 exact qNq ho hA hv h
theorem qNr {no:Int} {v b:BB} {A:Nat} {I:Int} (hA:A≤b.length) (h:rdD no b A=(v,I,0,())):xQ no v=true∧I=((A+(wrV (no,v,())).length:Nat):Int)∧A+(wrV (no,v,())).length≤b.length∧b.drop A=wrV (no,v,())++b.drop (A+(wrV (no,v,())).length):=by
 cases ho:zF no with
 | none=>unfold rdD at h;rw [ho] at h;simp at h
 | some p =>
  obtain ⟨k,l⟩:=p
  have h':rdF k l b A=(v,I,0,()):=by unfold rdD at h;rw [ho] at h;exact h
  obtain ⟨m1,m2,m3,m4⟩:=qNp ho hA h'
  rw [qMr (v:=(no,v,())) ho m1]
  exact ⟨qbL.2 ⟨k,l,ho,m1⟩,m2,m3,m4⟩
theorem qGP {b:BB}:∀ {l:List V} {A:Nat} {F:List V} {q:BB},(∀ v∈l,xQ v.1 v.2.1=true)→A≤b.length→b.drop A=l.flatMap wrV++q→rdFs b (nosF l) A F=(none,((A+(l.flatMap wrV).length:Nat):Int),F++l)
 | [],A,F,q,_,_,_=>by simp [rdFs,nosF]
 | v :: r,A,F,q,hf,hA,h=>by
  rw [List.flatMap_cons,List.append_assoc] at h
  have h1:=qNs (hf v (by simp)) hA h
  have h2:=yY hA h
  simp only [nosF,List.map_cons,rdFs]
  rw [h1,if_pos rfl]
  have:=qGP (F:=F++[(v.1,v.2.1,())]) (fun u hu=>hf u (by simp [hu])) h2.1 h2.2
  simp only
  rw [show r.map (fun v=>v.1)=nosF r from rfl,this,List.flatMap_cons,List.length_append,Nat.add_assoc]
  have hv:(v.1,v.2.1,())=v:=by obtain ⟨a,b,⟨⟩⟩:=v;rfl
  rw [hv,List.append_assoc];rfl
theorem qGO {b:BB}:∀ {ns:List Int} {A:Nat} {F F':List V} {a':Int},A≤b.length→rdFs b ns A F=(none,a',F')→∃ l:List V,F'=F++l∧nosF l=ns∧(∀ v∈l,xQ v.1 v.2.1=true)∧a'=((A+(l.flatMap wrV).length:Nat):Int)∧A+(l.flatMap wrV).length≤b.length∧b.drop A=l.flatMap wrV++b.drop (A+(l.flatMap wrV).length)
 | [],A,F,F',a',hA,h=>by
  simp only [rdFs,Prod.mk.injEq,true_and] at h
  obtain ⟨rfl,rfl⟩:=h
  exact ⟨[],by simp,rfl,by simp,by simp,by simpa using hA,by simp⟩
 | n :: r,A,F,F',a',hA,h=>by
  simp only [rdFs] at h
  by_cases h0:(rdD n b A).2.2.1=0
  ·rw [if_pos h0] at h
   rcases hx:rdD n b A with ⟨v,I,e,u⟩
   rw [hx] at h0 h
   simp only at h0
   subst h0
   obtain ⟨m1,m2,m3,m4⟩:=qNr hA hx
   subst m2
   obtain ⟨l,l1,l2,l3,l4,l5,l6⟩:=qGO m3 h
   refine ⟨(n,v,()) :: l,by rw [l1];simp,by simp only [nosF,List.map_cons];rw [← l2];rfl,fun w hw => ?_, ?_, ?_, ?_⟩
   ·rcases List.mem_cons.1 hw with rfl | hw
    ·exact m1
    ·exact l3 w hw
   ·rw [l4,List.flatMap_cons,List.length_append];omega
   ·rw [List.flatMap_cons,List.length_append];omega
   ·rw [List.flatMap_cons,List.length_append,List.append_assoc,← Nat.add_assoc,← l6];exact m4
  ·rw [if_neg h0] at h;simp at h
theorem qJj {l:List V}:∀ {last:Int},jC last (nosF l)=true→(∀ v∈l,xQ v.1 v.2.1=true)→z3 last l=true:=by
 induction l with
 | nil=>intros;rfl
 | cons x r ih =>
  intro last h hf
  simp only [nosF,List.map_cons,jC,Bool.and_eq_true,decide_eq_true_eq] at h
  simp only [z3,Bool.and_eq_true,decide_eq_true_eq]
  exact ⟨h.1.1,hf x (by simp),ih h.2 fun v hv=>hf v (by simp [hv])⟩
theorem qE1 {l:List V} {last last':Int} (hl:last'≤last) (h:z3 last l=true):z3 last' l=true:=by
 cases l with
 | nil=>rfl
 | cons x r =>
  simp only [z3,Bool.and_eq_true,decide_eq_true_eq] at h ⊢
  exact ⟨by omega,h.2⟩
theorem qGQ {b:BB}:∀ {ns:List Int} {A:Int} {F F':List V} {a' e:Int},rdFs b ns A F=(some e,a',F')→¬ e=0
 | [],A,F,F',a',e,h=>by simp [rdFs] at h
 | n :: r,A,F,F',a',e,h=>by
  simp only [rdFs] at h
  by_cases h0:(rdD n b A).2.2.1=0
  ·rw [if_pos h0] at h;exact qGQ h
  ·rw [if_neg h0] at h
   simp only [Prod.mk.injEq,Option.some.injEq] at h
   rw [← h.1];exact h0
theorem val4 {m:Int} (h:jJ m):val (ps 10 dch m.toNat 4)=m.toNat:=by
 unfold jJ at h
 rw [qIJ,Nat.mod_eq_of_lt (by omega)]
theorem qIS {m:Int} {b q:BB} (h:jJ m) (hb:b=typB m++q):zM b 0 4=(ps 10 dch m.toNat 4,2,0,()):=by
 have:=qnA (b:=b) (s:=ps 10 dch m.toNat 4) (q:=q) (I:=0) (Nat.zero_le _) (by rw [zP];omega) qnT hb
 rw [zP] at this;exact this
theorem qKj {l:List V} (h:∀ v∈l,xQ v.1 v.2.1=true):∀ n∈nosF l,(zF n).isSome=true:=by
 intro n hn
 obtain ⟨v,hv,rfl⟩:=List.mem_map.1 hn
 obtain ⟨k,l,ho,_⟩:=qbL.1 (h v hv)
 rw [ho];rfl
theorem vP {m:M}:xX m=true↔z3 0 m.2.1=true∧jJ m.1:=by unfold xX;rw [Bool.and_eq_true,decide_eq_true_eq]
theorem qNn {m:M} {q:BB} (h:xX m=true):rdM (wrM m++q)=if q=[] then (m,0,()) else (noM,4,()):=by
 obtain ⟨hF,ht⟩:=vP.1 h
 have hfit:=fun v hv=>(xY hF v hv).2
 have hL:=qoS hF
 have e:wrM m++q=typB m.1++(bmW (nosF m.2.1)++(m.2.1.flatMap wrV++q)):=by unfold wrM;simp
 generalize hb:wrM m++q=b at *
 have h4:=qIS ht e
 have htl:=qgP (m:=m.1)
 have hd:=yY (b:=b) (A:=0) (Nat.zero_le _) e
 rw [Nat.zero_add,htl] at hd
 have hr:=qOy hL hd.1 hd.2
 have hd2:=yY hd.1 hd.2
 have hfs:=qGP (F:=[]) hfit hd2.1 hd2.2
 have hd3:=yY hd2.1 hd2.2
 have hbl:=qBo hd3.1 hd3.2
 unfold rdM
 rw [h4,if_neg (by simp)]
 simp only
 rw [val4 ht,Int.toNat_of_nonneg (by unfold jJ at ht;omega),if_pos ht]
 replace hr:bmR b 2=_:=hr
 rw [hr,if_neg (by simp)]
 unfold rdE
 rw [if_pos (qKj hfit),hfs]
 simp only [List.nil_append]
 by_cases hq:q=[]
 ·subst hq
  rw [List.length_nil] at hbl
  rw [if_pos rfl,if_neg (by omega)]
 ·rw [if_neg hq,if_pos (by have:=List.length_pos_iff.2 hq;omega)]
theorem qvS {b:BB} {m:M} (h:rdM b=(m,0,())):xX m=true∧wrM m=b:=by
 unfold rdM at h
 by_cases h0:(zM b 0 4).2.2.1≠0
 ·rw [if_pos h0] at h
  simp only [Prod.mk.injEq,and_true] at h
  exact absurd h.2 h0
 rw [if_neg h0] at h
 rcases jE (b:=b) (I:=0) (N:=4) (Nat.zero_le _) (by omega) with ⟨_,e⟩ | ⟨_,e,_⟩ | ⟨s,h4,e,hf,hs,htk⟩
 ·exact absurd (by rw [show zM b 0 4=_ from e];simp) h0
 ·exact absurd (by rw [show zM b 0 4=_ from e];simp) h0
 ·replace e:zM b 0 4=(s,2,0,()):=e
  rw [e] at h
  simp only at h
  by_cases ht:jJ (val s:Int)
  ·rw [if_pos ht] at h
   have hty:typB (val s:Int)=bcd (pad s):=by unfold typB;rw [Int.toNat_natCast,← hs,qMF hf]
   have hd:b.drop 0=typB (val s:Int)++b.drop 2:=by rw [hty];exact qmC htk
   rw [List.drop_zero] at hd
   by_cases hz:(bmR b 2).2.2.1≠0
   ·rw [if_pos hz] at h
    simp only [Prod.mk.injEq,and_true] at h
    exact absurd h.2 hz
   rw [if_neg hz] at h
   rcases hx:bmR b 2 with ⟨l,a',er,u⟩
   rw [hx] at h hz
   simp only [ne_eq,Decidable.not_not] at hz h
   subst hz
   have hC:bmC (b.drop 2) 2=(l,a',0,()):=by
    unfold bmR at hx
    rw [if_neg (by omega)] at hx;exact hx
   obtain ⟨c1,c2,c3,c4⟩:=qOz hC
   rw [List.length_drop] at c3
   rw [List.drop_drop] at c4
   unfold rdE at h
   by_cases ho:∀ n∈l,(zF n).isSome=true
   ·rw [if_pos ho] at h
    have ha':a'=((2+(bmW l).length:Nat):Int):=by omega
    rw [ha'] at h
    rcases hfs:rdFs b l ((2+(bmW l).length:Nat):Int) [] with ⟨_ | er,a2,F⟩
    ·rw [hfs] at h
     simp only at h
     obtain ⟨L,l1,l2,l3,l4,l5,l6⟩:=qGO (by omega) hfs
     by_cases hlt:a2 < (b.length:Int)
     ·rw [if_pos hlt] at h;simp at h
     rw [if_neg hlt] at h
     simp only [Prod.mk.injEq,and_true] at h
     rw [List.nil_append] at l1
     subst l1
     have hend:b.drop (2+(bmW l).length+(F.flatMap wrV).length)=[]:=List.drop_eq_nil_of_le (by omega)
     rw [hend,List.append_nil] at l6
     rw [← h]
     refine ⟨vP.2 ⟨qE1 (by omega) (qJj (last:=1) (by rw [l2];exact c1) l3),ht⟩, ?_⟩
     unfold wrM
     simp only
     rw [l2,← l6,← c4,← hd]
    ·rw [hfs] at h
     simp only [Prod.mk.injEq,and_true] at h
     exact absurd h.2 (qGQ hfs)
   ·rw [if_neg ho] at h;simp at h
  ·rw [if_neg ht] at h;simp at h
theorem qNo {b:BB}:(rdM b).2.1=0∨(rdM b).1=noM:=by
 unfold rdM
 by_cases h0:(zM b 0 4).2.2.1≠0
 ·rw [if_pos h0];exact .inr rfl
 rw [if_neg h0]
 by_cases ht:jJ (val (zM b 0 4).1:Int)
 ·rw [if_pos ht]
  by_cases hz:(bmR b 2).2.2.1≠0
  ·rw [if_pos hz];exact .inr rfl
  rw [if_neg hz]
  unfold rdE
  split
  ·rcases rdFs b (bmR b 2).1 (bmR b 2).2.1 [] with ⟨_ | er,a2,F⟩
   ·simp only
    split
    ·exact .inr rfl
    ·exact .inl rfl
   ·exact .inr rfl
  ·exact .inr rfl
 ·rw [if_neg ht];exact .inr rfl
def few (m:M):Prop:=m.2.1.length≤40∧∀ v∈m.2.1,v.2.1.length≤450
theorem few.fewM {m:M} (h:few m):fewM m:=⟨by have:=h.1;omega,fun v hv=>by have:=h.2 v hv;omega⟩
theorem qE5 {b:BB}:(rdM b).1.2.1.length≤1000:=by
 rcases qNo (b:=b) with h | h
 ·rcases hx:rdM b with ⟨m,e,u⟩
  rw [hx] at h
  simp only at h
  subst h
  have hr:=(vP.1 (qvS hx).1).1
  have hL:=qoS hr
  have hs:=qoR hL
  have hm:=vQ hL
  have hlen:(nosF m.2.1).length≤128:=by
   have key:∀ (l:List Int) (lo:Int),l.Pairwise (· < ·)→(∀ n∈l,lo < n∧n≤128)→(l.length:Int)≤128 - lo∨l=[]:=by
    intro l
    induction l with
    | nil=>intros;exact .inr rfl
    | cons x r ih =>
     intro lo hp h
     rw [List.pairwise_cons] at hp
     have hx:=h x (by simp)
     left
     rcases ih x hp.2 (fun n hn=>⟨hp.1 n hn,(h n (by simp [hn])).2⟩) with h1 | h1
     ·simp only [List.length_cons];omega
     ·subst h1;simp;omega
   rcases key _ 1 hs (fun n hn=>⟨(hm n hn).1,(hm n hn).2.1⟩) with h1 | h1
   ·omega
   ·rw [h1];simp
  simp only [nosF,List.length_map] at hlen
  show m.2.1.length≤1000
  omega
 ·rw [h];simp [noM]
theorem qt8 {m:M} (hr:xX m=true):rdM (wrM m)=(m,0,()):=by
 have:=qNn (q:=[]) hr
 rw [List.append_nil,if_pos rfl] at this;exact this
theorem qf4 {n:N} (hr:z7 n):xX (msgN n)=true:=by
 obtain ⟨rq,c,st,rs,g,no,k,d,⟨⟩⟩:=n
 have hr':=jX.1 hr
 obtain ⟨hc,s1,s2,r1,r2,r3,hk⟩:=hr'
 have f11:=fun n=>qdM (no:=11) (w:=6) (n:=n) fo11 (by omega)
 have f15:=fun n=>qdM (no:=15) (w:=6) (n:=n) fo15 (by omega)
 have f39:=fun n=>qdM (no:=39) (w:=2) (n:=n) fo39 (by omega)
 have f53:=fun n=>qdM (no:=53) (w:=16) (n:=n) fo53 (by omega)
 have f70:=fun n=>qdM (no:=70) (w:=3) (n:=n) fo70 (by omega)
 unfold msgN xX
 cases rq
 ·simp [z3,f11,f39,f70,jJ]
 ·by_cases h1:c=101
  ·subst h1
   rw [if_pos ⟨rfl,rfl⟩] at hk
   obtain ⟨g1,g2,hn,hkc,hd⟩:=hk
   simp [z3,f11,f53,f70,qMU hkc,qMT hn,jJ]
  ·by_cases h2:c=201
   ·subst h2
    simp [z3,f11,f15,f70,jJ]
   ·simp [z3,f11,f70,jJ,h1,h2]
theorem qAY {n:N} (hr:z7 n):few (msgN n):=by
 obtain ⟨rq,c,st,rs,g,no,k,d,⟨⟩⟩:=n
 have hr':=jX.1 hr
 obtain ⟨hc,s1,s2,r1,r2,r3,hk⟩:=hr'
 unfold msgN few
 cases rq
 ·simp [z9]
 ·by_cases h1:c=101
  ·subst h1
   rw [if_pos ⟨rfl,rfl⟩] at hk
   obtain ⟨g1,g2,hn,hkc,hd⟩:=hk
   simp [z9,zS,hkc,hn]
  ·by_cases h2:c=201
   ·subst h2
    simp [z9]
   ·simp [z9,h1,h2]
def wrN (n:N):BB×Int×Unit:=if z7 n then (wrM (msgN n),0,()) else ([],1,())
theorem qjY (n:N):xD (n,())=some (wrN n):=by
 unfold xD wrN
 by_cases h:z7 n
 ·simp only [go_sem,Int.reduceToNat,qdH,D_t h,qf2 h,qmX (msgN n) (qAY h).fewM,qf4 h]
  rw [if_pos h]
 ·simp only [go_sem,Int.reduceToNat,qdH,D_f h]
  rw [if_neg h]
theorem qtK (n:N):qgX (n,())=some (wrN n):=by
 unfold qgX wrN
 by_cases h:z7 n
 ·simp only [go_sem,Int.reduceToNat,qiE,D_t h,qoY h,qbQ (msgN n) (qAY h).fewM,qf4 h]
  rw [if_pos h]
 ·simp only [go_sem,Int.reduceToNat,qiE,D_f h]
  rw [if_neg h]
def noN:N:=(false,0,0,0,0,[],[],0,())
def ansN (n:N) (r:Int):N×Int×Unit:=if n.1=false then (noN,9,()) else if r < 0∨99 < r then (noN,1,()) else ((false,n.2.1,n.2.2.1,r,0,[],[],0,()),0,())
theorem qtZ (n:N) (r:Int):j3 (n,r,())=some (ansN n r):=by
 obtain ⟨a1,a2,a3,a4,a5,a6,a7,a8,⟨⟩⟩:=n
 unfold j3 ansN noN
 cases a1 <;> by_cases h:r < 0∨99 < r
 all_goals simp only [go_sem,Int.reduceToNat,h]
 all_goals simp [h]
def valD (v:BB):Int:=if 1≤v.length∧v.length≤18∧figs v then ((val v:Nat):Int) else 0
def unhD (s:BB):BB:=if s.length % 2=0∧hexy s then unh s else []
def gv (m:M) (no:Int):BB:=(getR no m.2.1).1
noncomputable def rdN0 (m:M):N:=(D (m.1=800),valD (gv m 70),valD (gv m 11),valD (gv m 39),valD (gv m 53),gv m 96,unhD (gv m 48),valD (gv m 15),())
noncomputable def rdN (b:BB):N×Int×Unit:=if (rdM b).2.1=0 then (if z7 (rdN0 (rdM b).1)∧msgN (rdN0 (rdM b).1)=(rdM b).1 then (rdN0 (rdM b).1,0,()) else (noN,2,())) else (noN,(rdM b).2.1,())
theorem qL5 {l:List V} {no:Int}:(getR no l).1=[]∨∃ v∈l,v.1=no∧(getR no l).1=v.2.1:=by
 induction l with
 | nil=>exact .inl rfl
 | cons v r ih =>
  unfold getR
  split
  ·exact .inr ⟨v,by simp,by assumption,rfl⟩
  ·exact ih.imp id fun ⟨u,h1,h2,h3⟩=>⟨u,by simp [h1],h2,h3⟩
theorem qIc {no k l:Int} (h:zF no=some (k,l)):l≤400:=by
 unfold zF at h
 rw [Option.map_eq_some_iff] at h
 obtain ⟨r,h1,h2⟩:=h
 have hm:=List.mem_of_find?_eq_some h1
 have:∀ r∈frows,nth r 1 0≤400:=by decide
 have:=this r hm
 cases h2
 exact this
theorem qHk {no:Int} {v:BB} (h:xQ no v=true):v.length≤400:=by
 obtain ⟨k,l,h1,h2⟩:=qbL.1 h
 have:=qIc h1
 have h3:=h2.2
 unfold fln at h3
 split at h3 <;> omega
theorem qBe {m:M} (hr:xX m=true) (no:Int):(getR no m.2.1).1.length≤400:=by
 rcases qL5 (l:=m.2.1) (no:=no) with h | ⟨v,hv,_,h⟩
 ·rw [h];simp
 ·rw [h];exact qHk (xY (vP.1 hr).1 v hv).2
theorem qEW (s:BB) (hl:s.length≤1000000):∃ e,yN (s,())=some (valD s,e,()):=by
 rw [yD _ hl]
 unfold valD
 split <;> exact ⟨_,rfl⟩
theorem qEX (s:BB) (hl:s.length≤1000000):∃ e,qdB (s,())=some (unhD s,e,()):=by
 rw [qtY _ hl]
 unfold unhD
 split <;> exact ⟨_,rfl⟩
theorem qrA {m:M} (hr:xX m=true) (hl:m.2.1.length≤1000) (no:Int):vB (m,no,())=some (valD (gv m no),()):=by
 unfold vB gv
 obtain ⟨e,he⟩:=qEW (getR no m.2.1).1 (by have:=qBe hr no;omega)
 have hg:=qa7 m no (by omega)
 simp only [go_sem,Int.reduceToNat,hg,he]
theorem qMq {b:BB} {m:M} {n:N} (hm:rdM b=(m,0,())) (hn:z7 n):wrM (msgN n)=b↔msgN n=m:=by
 obtain ⟨hr,hw⟩:=qvS hm
 constructor
 ·intro h
  have:=qt8 (qf4 hn)
  rw [h,hm] at this
  exact (congrArg Prod.fst this).symm
 ·intro h;rw [h,hw]
theorem qjE (b:BB) (hl:b.length≤1000000):qfJ (b,())=some (rdN b):=by
 unfold qfJ rdN
 refine (qF (qc7 b hl)).trans ?_
 by_cases h0:(rdM b).2.1=0
 ·obtain ⟨m,hm⟩:∃ m,rdM b=(m,0,()):=⟨(rdM b).1,by rw [← h0]⟩
  obtain ⟨hr,hw⟩:=qvS hm
  have hml:=qE5 (b:=b)
  rw [hm] at hml ⊢
  have hml:m.2.1.length≤1000:=hml
  have g:∀ no,kX (m,no,())=some (getR no m.2.1):=fun no=>qa7 m no (by omega)
  have gl:=qBe hr
  have nu:=qrA hr hml
  obtain ⟨e6,u48⟩:=qEX (gv m 48) (by have:=gl 48;unfold gv;omega)
  unfold gv at u48 nu
  simp only [go_sem,Int.reduceToNat,g,nu,u48,qtK,qY]
  show sel (D (¬ (wrN (rdN0 m)).2.1=0∨¬ (wrN (rdN0 m)).1=b)) (some (noN,2,())) (some (rdN0 m,0,()))=_
  unfold wrN
  by_cases hn:z7 (rdN0 m)
  ·rw [if_pos hn]
   by_cases he:msgN (rdN0 m)=m
   ·rw [if_pos ⟨hn,he⟩,D_f (fun h=>h.elim (fun h=>h rfl) (fun h=>h ((qMq hm hn).2 he)))];rfl
   ·rw [if_neg (fun h=>he h.2),D_t (.inr fun h=>he ((qMq hm hn).1 h))];rfl
  ·rw [if_neg hn,if_neg (fun h=>hn h.1),D_t (.inl (by decide))];rfl
 ·rw [if_neg h0]
  simp only [go_sem,Int.reduceToNat,h0]
  rfl
theorem quP {n:Int} {w:Nat} (h1:1≤w) (h2:w≤18) (h0:0≤n) (h:n < 10 ^ w):valD (dg n w)=n:=by
 unfold valD
 rw [if_pos ⟨by rw [z9];exact h1,by rw [z9];exact h2,qFw⟩]
 exact qPS h0 h
theorem qt5:valD []=0:=by unfold valD;rw [if_neg (by simp)]
theorem qAA:unhD []=[]:=by unfold unhD;split <;> rfl
theorem qLc {b:BB}:unhD (jI b)=b:=by
 unfold unhD
 rw [if_pos ⟨by rw [zS];omega,qH8 b⟩,qIL]
theorem qLt {n:N} (hr:z7 n):rdN0 (msgN n)=n:=by
 obtain ⟨rq,c,st,rs,g,no,k,d,⟨⟩⟩:=n
 obtain ⟨hc,s1,s2,r1,r2,r3,hk⟩:=jX.1 hr
 have hc0:0≤c∧c≤301:=by unfold yV at hc;omega
 have v11:valD (dg st 6)=st:=quP (by omega) (by omega) (by omega) (by omega)
 have v70:valD (dg c 3)=c:=quP (by omega) (by omega) (by omega) (by omega)
 have v39:valD (dg rs 2)=rs:=quP (by omega) (by omega) (by omega) (by omega)
 unfold rdN0 gv msgN
 simp only [len0] at hk
 cases rq
 ·simp only [Bool.false_eq_true,false_and,if_false] at hk
  obtain ⟨h1,h2,h3,h4⟩:=hk
  subst h1 h2 h3 h4
  simp [getR,v11,v70,v39,qt5,qAA,D]
 ·have hrs:=r3 rfl
  subst hrs
  by_cases h1:c=101
  ·subst h1
   rw [if_pos ⟨rfl,rfl⟩] at hk
   obtain ⟨g1,g2,hn,hkc,hd⟩:=hk
   subst hd
   have v53:valD (dg g 16)=g:=quP (by omega) (by omega) (by omega) (by omega)
   simp [getR,v11,v70,v53,qt5,qLc,D]
  ·rw [if_neg (by simp [h1])] at hk
   by_cases h2:c=201
   ·subst h2
    rw [if_pos ⟨rfl,rfl⟩] at hk
    obtain ⟨h3,h4,h5,d1,d2⟩:=hk
    subst h3 h4 h5
    have v15:valD (dg d 6)=d:=quP (by omega) (by omega) (by omega) (by omega)
    simp [getR,v11,v70,v15,qt5,qAA,D]
   ·rw [if_neg (by simp [h2])] at hk
    obtain ⟨h3,h4,h5,h6⟩:=hk
    subst h3 h4 h5 h6
    simp [getR,v11,v70,qt5,qAA,D,h1,h2]
theorem qPe {n:N} (hr:z7 n):rdN (wrM (msgN n))=(n,0,()):=by
 unfold rdN
 rw [qt8 (qf4 hr),qLt hr,if_pos rfl,if_pos ⟨hr,rfl⟩]
def fewN (n:N):Prop:=n.2.2.2.2.2.1.length≤50∧n.2.2.2.2.2.2.1.length≤50
theorem qM4 {n:N} (h:z7 n):wrN n=(wrM (msgN n),0,()):=by unfold wrN;rw [if_pos h]
theorem qOQ {v:V} (h:xQ v.1 v.2.1=true):(wrV v).length≤v.2.1.length+2:=by
 obtain ⟨k,l,h1,h2⟩:=qbL.1 h
 unfold wrV wrD
 rw [h1]
 simp only [if_pos h2]
 rw [qqY (wN h1).1]
 repeat' split
 all_goals omega
theorem qIG {m:M} (hr:xX m=true):(wrM m).length≤18+(m.2.1.map (fun v=>v.2.1.length+2)).sum:=by
 have hF:=(vP.1 hr).1
 have h2:=qgP (m:=m.1)
 have h8:=qB4 (nosF m.2.1)
 have hfl:∀ l:List V,(∀ v∈l,xQ v.1 v.2.1=true)→(l.flatMap wrV).length≤(l.map (fun v=>v.2.1.length+2)).sum:=by
  intro l
  induction l with
  | nil=>simp
  | cons v r ih =>
   intro h
   have h1:=qOQ (h v (by simp))
   have h2:=ih fun u hu=>h u (by simp [hu])
   rw [List.flatMap_cons,List.length_append,List.map_cons,List.sum_cons];omega
 have:=hfl m.2.1 fun v hv=>(xY hF v hv).2
 unfold wrM
 rw [List.length_append,List.length_append];omega
theorem qM5 {n:N} (hr:z7 n):(wrM (msgN n)).length≤900:=by
 have h:=qIG (qf4 hr)
 obtain ⟨rq,c,st,rs,g,no,k,d,⟨⟩⟩:=n
 obtain ⟨hc,s1,s2,r1,r2,r3,hk⟩:=jX.1 hr
 refine Nat.le_trans h ?_
 unfold msgN
 cases rq
 ·simp [z9]
 ·by_cases h1:c=101
  ·subst h1
   rw [if_pos ⟨rfl,rfl⟩] at hk
   obtain ⟨g1,g2,hn,hkc,hd⟩:=hk
   simp [z9,zS];omega
  ·by_cases h2:c=201
   ·subst h2;simp [z9]
   ·simp [z9,h1,h2]
theorem bv8 (c:UInt8):BitVec.ofInt 8 (n8 c)=c.toBitVec:=by
 apply BitVec.eq_of_toNat_eq
 unfold n8
 rw [BitVec.toNat_ofInt]
 have:=c.toNat_lt
 have h:c.toBitVec.toNat=c.toNat:=rfl
 omega
theorem bv32 (c:UInt32):BitVec.ofInt 32 (n32 c)=c.toBitVec:=by
 apply BitVec.eq_of_toNat_eq
 unfold n32
 rw [BitVec.toNat_ofInt]
 have:=c.toNat_lt
 have h:c.toBitVec.toNat=c.toNat:=rfl
 omega
theorem qOY (v:BitVec 8):u8 (v.toNat:Int)=⟨v⟩:=by
 apply UInt8.toBitVec_inj.1
 show BitVec.ofNat 8 (((v.toNat:Int) % 2 ^ 8).toNat)=v
 apply BitVec.eq_of_toNat_eq
 rw [BitVec.toNat_ofNat]
 have:=v.isLt
 omega
theorem qOZ (v:BitVec 32):u32 (v.toNat:Int)=⟨v⟩:=by
 apply UInt32.toBitVec_inj.1
 show BitVec.ofNat 32 (((v.toNat:Int) % 2 ^ 32).toNat)=v
 apply BitVec.eq_of_toNat_eq
 rw [BitVec.toNat_ofNat]
 have:=v.isLt
 omega
theorem or8 (a b:UInt8):u8 (orI .u8 (n8 a) (n8 b))=a ||| b:=by
 unfold orI
 show u8 (((BitVec.ofInt 8 (n8 a) ||| BitVec.ofInt 8 (n8 b)).toNat:Nat):Int)=_
 rw [bv8,bv8,qOY];rfl
theorem xor8 (a b:UInt8):u8 (xorI .u8 (n8 a) (n8 b))=a ^^^ b:=by
 unfold xorI
 show u8 (((BitVec.ofInt 8 (n8 a) ^^^ BitVec.ofInt 8 (n8 b)).toNat:Nat):Int)=_
 rw [bv8,bv8,qOY];rfl
theorem or32 (a b:UInt32):u32 (orI .u32 (n32 a) (n32 b))=a ||| b:=by
 unfold orI
 show u32 (((BitVec.ofInt 32 (n32 a) ||| BitVec.ofInt 32 (n32 b)).toNat:Nat):Int)=_
 rw [bv32,bv32,qOZ];rfl
theorem qNX {c:UInt8}:n8 c=n8 (u8 0)↔c=0:=by
 constructor
 ·intro h
  have h2:(c.toNat:Int)=0:=h
  exact UInt8.toNat_inj.1 (by show c.toNat=0;omega)
 ·rintro rfl;rfl
def orx (a b:BB):Nat→UInt8
 | 0=>0
 | i+1=>orx a b i ||| (a.getD i 0 ^^^ b.getD i 0)
theorem qG1 (a b:BB):∀ i,orx a b i=0↔∀ j,j < i→a.getD j 0=b.getD j 0
 | 0=>⟨fun _ j h=>absurd h (Nat.not_lt_zero j),fun _=>rfl⟩
 | i+1=>by
  have ih:=qG1 a b i
  have key:(orx a b i ||| (a.getD i 0 ^^^ b.getD i 0))=0↔orx a b i=0∧a.getD i 0=b.getD i 0:=by
   rw [UInt8.or_eq_zero_iff,UInt8.xor_eq_zero_iff]
  show (orx a b i ||| (a.getD i 0 ^^^ b.getD i 0))=0↔_
  rw [key,ih]
  constructor
  ·rintro ⟨h1,h2⟩ j hj
   rcases Nat.lt_succ_iff_lt_or_eq.1 hj with h | rfl
   ·exact h1 j h
   ·exact h2
  ·intro h
   exact ⟨fun j hj=>h j (by omega),h i (by omega)⟩
theorem qhK (a b:BB) (hl:a.length≤9223372036854775807):qd5 (a,b,())=some (seq a b,()):=by
 unfold qd5
 by_cases h:a.length=b.length
 ·refine (qB (by simp only [go_sem,Int.reduceToNat];omega)).trans ?_
  generalize hf:(fun (x_1:UInt8×Int×Unit)=>_)=f
  have step:∀ i,i < a.length→f (orx a b i,(i:Int),())=some (.nx (orx a b (i+1),((i+1:Nat):Int),())):=by
   intro i hi
   subst hf
   have e1:nth a (nat (i:Int)) (u8 0)=a.getD i 0:=rfl
   have e2:nth b (nat (i:Int)) (u8 0)=b.getD i 0:=rfl
   show sel (lt (i:Int) (len a)) _ _=_
   refine (qE (by simp only [go_sem,Int.reduceToNat];omega)).trans ((qH (by simp only [go_sem,Int.reduceToNat];omega)).trans ((qH (by simp only [go_sem,Int.reduceToNat];omega)).trans ?_))
   show some (LS.nx (u8 (orI .u8 (n8 (orx a b i)) (n8 (u8 (xorI .u8 (n8 (nth a (nat (i:Int)) (u8 0))) (n8 (nth b (nat (i:Int)) (u8 0))))))),i64 (iadd (i:Int) 1),()))=_
   rw [e1,e2,xor8,or8,show i64 (iadd (i:Int) 1)=((i+1:Nat):Int) by simp (disch:=omega) only [go_sem,Int.reduceToNat] <;> omega]
   rfl
  have hend:f (orx a b a.length,(a.length:Int),())=some (.ex 0 (orx a b a.length,(a.length:Int),())):=by
   subst hf
   show sel (lt (a.length:Int) (len a)) _ _=_
   exact qB (by simp only [go_sem,Int.reduceToNat];omega)
  have hloop:loop f (u8 0,0,())=some (.ex 0 (orx a b a.length,(a.length:Int),())):=by
   have:=qM (f:=f) (fun i=>(orx a b i,(i:Int),())) a.length step 0 (Nat.zero_le _)
   exact this.trans (qU hend)
  rw [hloop]
  show ck (neb 0 0) (some (beq (n8 (orx a b a.length)) (n8 (u8 0)),()))=_
  refine (qH g62).trans ?_
  congr 2
  rw [Bool.eq_iff_iff]
  unfold beq seq
  rw [beq_iff_eq,beq_iff_eq,qNX,qG1]
  constructor
  ·intro hj
   refine List.ext_getElem h fun i h1 h2 => ?_
   have:=hj i h1
   rwa [List.getD_eq_getElem?_getD,List.getD_eq_getElem?_getD,List.getElem?_eq_getElem h1,List.getElem?_eq_getElem h2] at this
  ·rintro rfl j _;rfl
 ·refine (qE (by simp only [go_sem,Int.reduceToNat];omega)).trans ?_
  rw [qI3 (fun e=>h (congrArg List.length e))]
end Yp
namespace Yp
open Go Go.Proofs Go.RowKit Go.Shelf
attribute [local go_sem] Oper.semAt_some
theorem qL1 {res:Nat→Bool} {k n:Nat} (hk:k≤n) (h:hits res n=[]):hits res k=[]:=by
 unfold hits at h ⊢
 rw [List.filter_eq_nil_iff] at h ⊢
 intro a ha
 exact h a (List.mem_range.2 (Nat.lt_of_lt_of_le (List.mem_range.1 ha) hk))
set_option maxRecDepth 100000 in
set_option maxHeartbeats 4000000 in
theorem qPL (Nn off cap b:Nat) (ad:Option Addr) (idl frg:Bool) (ak:Option Addr) (nk ck:Nat) (ab:Option Addr) (nb cb:Nat) (ev:Nat→Value×Value) (res:Nat→Bool) (hev:∀ j,∃ a n c a' n' c',ev j=(.slice a n c, .slice a' n' c')) (hN:Nn≤9223372036854775807) (m:Nat) (w:World)
  (hb:0 < Nn→ad=some ⟨b,off,none⟩∧b < w.heap.size)
  (hc0:∀ j,j < Nn→w.cell? ⟨b,off+j*2,none⟩=some (ev j).1) (hc1:∀ j,j < Nn→w.cell? ⟨b,off+j*2+1,none⟩=some (ev j).2)
  (hIs:∀ j,j < Nn→∀ n w',Below w.heap.size w w'→CallsIn Fence.wide n Tryz.prog 390 #[.agg #[.slice ak nk ck, .slice ab nb cb], .agg #[(ev j).1,(ev j).2]] w' fun e w''=>e = .returned (.bool (res j))∧Below w'.heap.size w' w'') :
  CallsIn Fence.wide (m+3) Tryz.prog 369 #[.agg #[.bool idl, .slice ad Nn cap, .bool frg], .slice ak nk ck, .slice ab nb cb] w fun e w'=>e = .returned (.bool (hits res Nn != []))∧Below w.heap.size w w':=by
 have hw391:Fence.wide.fn 391:=trivial
 refine callsIn_of_wp_marks Tryz.func369 rfl trivial ?_ rfl
 simp only [Tryz.ntmps369,List.size_toArray,List.length_cons,List.length_nil,Nat.reduceAdd,Nat.reduceSub,Array.replicate_succ,Array.replicate_zero,List.push_toArray,List.append_toArray,List.nil_append,List.cons_append]
 gi_wp2_with (gi_at_call 391;refine (qL8 _ _ _ _ _ _ rfl).mono ?_;rintro e w' ⟨rfl,rfl⟩)
 have b1:=Boxed.new (w.alloc (.cells #[.bool idl, .slice ad Nn cap, .bool frg] 49)) 4 (.bool false)
 have b2:=Boxed.new ((w.alloc (.cells #[.bool idl, .slice ad Nn cap, .bool frg] 49)).alloc (.cells #[.bool false] 4)) 47 (.slice ad Nn cap)
 have b3:=Boxed.new (((w.alloc (.cells #[.bool idl, .slice ad Nn cap, .bool frg] 49)).alloc (.cells #[.bool false] 4)).alloc (.cells #[.slice ad Nn cap] 47)) 403 (.func (.func 390) #[.agg #[.slice ak nk ck, .slice ab nb cb]] #[])
 simp only [World.size_alloc] at b1 b2 b3
 obtain ⟨w4,hw4⟩:∃ w4,w4=((((w.alloc (Obj.cells #[Value.bool idl,Value.slice ad Nn cap,Value.bool frg] 49)).alloc (Obj.cells #[Value.bool false] 4)).alloc (Obj.cells #[Value.slice ad Nn cap] 47)).alloc (Obj.cells #[Value.func (Fn.func 390) #[Value.agg #[Value.slice ak nk ck,Value.slice ab nb cb]] #[]] 403)):=⟨_,rfl⟩
 have b1':Boxed w4 (w.heap.size+1) 4 (.bool false):=by rw [hw4];exact (b1.alloc _).alloc _
 have b2':Boxed w4 (w.heap.size+1+1) 47 (.slice ad Nn cap):=by rw [hw4];exact b2.alloc _
 have b3':Boxed w4 (w.heap.size+1+1+1) 403 (.func (.func 390) #[.agg #[.slice ak nk ck, .slice ab nb cb]] #[]):=by rw [hw4];exact b3
 have hB4:Below w.heap.size w w4:=by rw [hw4];exact ((((Below.refl _ w).alloc (Nat.le_refl _) _).alloc (by simp) _).alloc (by simp;omega) _).alloc (by simp;omega) _
 have hs4:w4.heap.size=w.heap.size+1+1+1+1:=by rw [hw4];simp
 rw [← hw4]
 clear b1 b2 b3
 refine wpIn_rangeFunc_ownG (w0:=w4) rfl (by omega) (gf:=393) (lb := #[.pointer (some ⟨w.heap.size+1+1,0,none⟩), .pointer (some ⟨w.heap.size+1+1+1,0,none⟩)]) rfl trivial (enters_of Tryz.func393 (by kernel_rfl) rfl)
   (encs:=fun x:Nat => #[.int .i64 (x:Int)]) (Kp:=Below w4.heap.size) (S:=fun ys=>ys=hits res Nn) (Sp:=fun pre=>∃ k,k≤Nn∧pre=hits res k) (N:=Nn)
   ?seq ?kt ?kb (Below.refl _ _) (fun _=>rfl)
   (fun pre W=>(pre=[]∧Boxed W (w.heap.size+1) 4 (.bool false))∧Below w.heap.size w W)
   (fun c pre W=>((c = .ret∧pre≠[])∧Boxed W (w.heap.size+1) 4 (.bool true))∧Below w.heap.size w W)
   (OwnFrom.and (OwnFrom.and (ownFrom_pure _ _) (Own.from (boxed_own (w.heap.size+1) 4 (fun _ => .bool false)) _)) (ownFrom_below (Nat.le_refl _) (by omega)))
   (fun c=>OwnFrom.and (OwnFrom.and (ownFrom_pure _ _) (Own.from (boxed_own (w.heap.size+1) 4 (fun _ => .bool true)) _)) (ownFrom_below (Nat.le_refl _) (by omega)))
   ?start ?a1 ?assign ?body ?done ?stop
 case assign =>
  intro l x W K hK
  gi_wp2
  exact hK
 case seq =>
  intro l J Jx W hW hJ hJx hY h0
  refine (qKx (m+1) l (w.heap.size+1+1) (w.heap.size+1+1+1) w4.heap.size b off cap Nn ad (.slice ak nk ck) (.slice ab nb cb) ev res hev hN (fun h=>⟨(hb h).1,by have:=(hb h).2;omega⟩) J Jx (fun s W1 W2 hs hb=>hJ s W1 W2 none hs ⟨hb.os,hb.tape,hb.output,hb.size,fun k hk _=>hb.block k hk⟩ (fun r e=>by cases e)) (fun pre x W1 hj _ _ hl=>hY pre x W1 hj hl) W ?_ ?_ (by omega) (by omega) hW.size (fun j hj => ?_) (fun j hj => ?_) (fun j hj w' hw' => ?_) h0).mono ?_
  ·exact (hW.cell (p:=⟨w.heap.size+1+1,0,none⟩) (by simp;omega)).trans b2'.cell
  ·exact (hW.cell (p:=⟨w.heap.size+1+1+1,0,none⟩) (by simp;omega)).trans b3'.cell
  ·have hbl:=(hb (by omega)).2
   exact (hW.cell (p:=⟨b,off+j*2,none⟩) (by simp;omega)).trans ((hB4.cell (p:=⟨b,off+j*2,none⟩) hbl).trans (hc0 j hj))
  ·have hbl:=(hb (by omega)).2
   exact (hW.cell (p:=⟨b,off+j*2+1,none⟩) (by simp;omega)).trans ((hB4.cell (p:=⟨b,off+j*2+1,none⟩) hbl).trans (hc1 j hj))
  ·exact hIs j hj _ _ (hB4.trans ((hW.trans hw').mono (by omega)))
  ·rintro e W' ⟨he,h⟩
   exact ⟨he,h.elim (fun h => .inl ⟨_,rfl,h⟩) (fun ⟨k,hk,h⟩ => .inr ⟨_,⟨k,hk,rfl⟩,h⟩)⟩
 case kt=>exact fun h k=>h.trans k
 case kb =>
  intro W l o o' hl ho h1 h2
  exact belowK_b (w:=w4) (Nat.le_refl _) W l o o' hl ho h1 h2
 case start=>exact ⟨⟨rfl,b1'⟩,hB4⟩
 case body =>
  rintro l pre x W ⟨⟨rfl,hv⟩,hB⟩ hlt
  have hc:=hv.cell
  have hf:=hv.frozen
  gi_wp2
  exact ⟨(KeepsOthers.setCell _ _ _).from _,⟨⟨rfl,by simp⟩,hv.set _⟩,hB.trans ((Below.refl _ _).setCell (p:=⟨w.heap.size+1,0,none⟩) (by simp) _)⟩
 case done =>
  rintro D ys W hD rfl ⟨⟨h0,hv⟩,hB⟩ hK
  have hc:=hv.cell
  have hf:=hv.frozen
  gi_wp2
  have hK':=(KeepsOthers.setCell W ⟨w.heap.size+1,0,none⟩ (.bool false)).same D _ hK rfl
  refine ⟨by simp, .inl ⟨_,_,rfl,run_takeDeferred hK', ?_⟩⟩
  have hz:Boxed ((W.setCell ⟨w.heap.size+1,0,none⟩ (.bool false)).putObj D (.deferred none)) (w.heap.size+1) 4 (.bool false):=(hv.set (.bool false)).kept (grownBy_putObj' _ D _) (fun e=>by cases e;omega)
  refine ⟨.bool false,by simp [results,Tryz.f369,go_sem,hz.cell],by rw [h0];rfl, ?_⟩
  exact (hB.trans ((Below.refl _ _).setCell (p:=⟨w.heap.size+1,0,none⟩) (by simp) _)).trans (belowK_b (w:=w) (Nat.le_refl _) _ D _ _ (by omega) hK' rfl rfl)
 case stop =>
  rintro D c pre W hD ⟨k,hk,rfl⟩ ⟨⟨⟨rfl,hne⟩,hv⟩,hB⟩ hK
  have hc:=hv.cell
  gi_wp2
  refine ⟨by simp, .inl ⟨_,_,rfl,run_takeDeferred hK, ?_⟩⟩
  have hz:Boxed (W.putObj D (.deferred none)) (w.heap.size+1) 4 (.bool true):=hv.kept (grownBy_putObj' _ D _) (fun e=>by cases e;omega)
  refine ⟨.bool true,by simp [results,Tryz.f369,go_sem,hz.cell], ?_, ?_⟩
  ·have:hits res Nn≠[]:=fun e=>hne (qL1 hk e)
   simp [this]
  ·exact hB.trans (belowK_b (w:=w) (Nat.le_refl _) _ D _ _ (by omega) hK rfl rfl)
end Yp
namespace Yp
open Go Go.Proofs Go.RowKit Go.Shelf
abbrev qOg:=BB×BB×Unit
abbrev qAR:Ty := .pair (.sl (.int .u8)) (.pair (.sl (.int .u8)) .unit)
noncomputable def qjV (x:(BB×BB×Unit)×(BB×BB×Unit)×Unit):Option (Bool×Unit) :=
 ob (qd5 (x.1.1,x.2.1.1,())) fun (a:Bool×Unit) =>
 ob (sel a.1 (ob (qd5 (x.1.2.1,x.2.1.2.1,())) fun (a:Bool×Unit)=>some (a.1,())) (some (false,()))) fun (a:Bool×Unit)=>some (a.1,())
noncomputable abbrev qx8:wZ:=⟨[qAR,qAR],[.im (.bool)],qjV⟩
set_option maxRecDepth 100000 in
theorem qzC (hS:FOK Tryz.prog 126 qlB):FOK Tryz.prog 390 qx8:=mkC (qA qD hS) qC Tryz.func390 5 (by kernel_rfl) (by kernel_rfl) (fun x=>by kernel_rfl)
theorem qCU (k b e f:BB) (hk:k.length≤9223372036854775807) (hb:b.length≤9223372036854775807):qjV ((k,b,()),(e,f,()),())=some (band (seq k e) (seq b f),()):=by
 unfold qjV
 show ob (qd5 (k,e,())) _=_
 rw [qhK _ _ hk]
 show ob (sel (seq k e) (ob (qd5 (b,f,())) _) _) _=_
 rw [qhK _ _ hb]
 cases seq k e <;> rfl
theorem qOU {w w':World} {X:Nat→Prop} (hb:Below w.heap.size w w'):(view w X).Le (view w' X):=by
 intro b o h
 obtain ⟨h1,h2⟩:=zI.1 h
 refine zI.2 ⟨h1, ?_⟩
 rw [hb.block b (Array.getElem?_eq_some_iff.1 h2).1];exact h2
theorem seg2 {c:Array Value} {o:Nat} (h:o+2≤c.size):seg c o 2=[c[o],c[o+1]]:=by
 unfold seg
 rw [List.drop_eq_getElem_cons (by simp;omega),List.drop_eq_getElem_cons (by simp;omega)]
 simp
theorem qB6 {w w':World} {X:Nat→Prop} {rs:List RTy} {r:denR rs} {vr:Value} (h:qe5 w X w' rs r vr):Below w.heap.size w w':=by
 obtain ⟨M',h1,h2,h3,h4,h5,_⟩:=h
 exact ⟨h1,h2,h3,h4,h5⟩
theorem qMl {α:Type} (l:List α) (q:α→Bool) (res:Nat→Bool) (h:∀ j x,l[j]? = some x→res j=q x):(hits res l.length != [])=l.any q:=by
 rw [Bool.eq_iff_iff]
 simp only [bne_iff_ne,ne_eq,List.any_eq_true]
 unfold hits
 rw [List.filter_eq_nil_iff]
 constructor
 ·intro hn
  by_cases hx:∃ x,x∈l∧q x=true
  ·exact hx
  ·refine absurd (fun j hj => ?_) hn
   have hj':=List.mem_range.1 hj
   rw [h j l[j] (List.getElem?_eq_getElem hj')]
   exact fun e=>hx ⟨_,List.getElem_mem hj',e⟩
 ·rintro ⟨x,hx,hq⟩ hn
  obtain ⟨j,hj,rfl⟩:=List.getElem_of_mem hx
  refine hn j (List.mem_range.2 hj) ?_
  rw [h j l[j] (List.getElem?_eq_getElem hj)];exact hq
noncomputable abbrev qzY:wZ:=⟨[.pair (.bool) (.pair (.sl qAR) (.pair (.bool) (.unit))), .sl (.int .u8), .sl (.int .u8)],[.im (.bool)],quA⟩
set_option maxRecDepth 100000 in
theorem qOf (hS:FOK Tryz.prog 126 qlB) (idl frg:Bool) (tbl:List qOg) (key bb:BB) {w:World} {X:Nat→Prop} (hX:∀ b,X b→b < w.heap.size) (hkeys:wL Tryz.prog (view w X)) {c3 cs2 cs3:List Value}
  (h2:RepC (view w X) (.sl qAR) tbl c3) (hk:RepC (view w X) (.sl (.int .u8)) key cs2) (hb:RepC (view w X) (.sl (.int .u8)) bb cs3) :
  Calls Tryz.prog 369 #[.agg (#[.bool idl]++c3.toArray ++ #[.bool frg]),cs2.headD undef,cs3.headD undef] w fun e w'=>∃ vr,e = .returned vr∧qe5 w X w' [.im .bool] ((tbl.any fun e=>band (seq key e.1) (seq bb e.2.1),()):Bool×Unit) vr:=by
 have hk0:=hk;have hb0:=hb
 obtain ⟨ad,cap,rfl,t1,t2,t3⟩:=RepC.j9.1 h2
 obtain ⟨ak,capk,rfl,k1,k2,_⟩:=RepC.j9.1 hk
 obtain ⟨ab,capb,rfl,b1,b2,_⟩:=RepC.j9.1 hb
 have hmax:maxLen≤9223372036854775807:=by unfold maxLen;omega
 have hkl:key.length≤9223372036854775807:=Nat.le_trans k1 (Nat.le_trans k2 hmax)
 have hbl:bb.length≤9223372036854775807:=Nat.le_trans b1 (Nat.le_trans b2 hmax)
 have htl:tbl.length≤9223372036854775807:=Nat.le_trans t1 (Nat.le_trans t2 hmax)
 -- the entries' cells
 obtain ⟨b,off,ev,hloc,hev,hc0,hc1,hrep⟩:∃ (b off:Nat) (ev:Nat→Value×Value),(0 < tbl.length→ad=some ⟨b,off,none⟩∧b < w.heap.size)∧(∀ j,∃ a n c a' n' c',ev j=(.slice a n c, .slice a' n' c')) ∧
   (∀ j,j < tbl.length→w.cell? ⟨b,off+j*2,none⟩=some (ev j).1)∧(∀ j,j < tbl.length→w.cell? ⟨b,off+j*2+1,none⟩=some (ev j).2) ∧
   (∀ j (e:BB×BB×Unit),tbl[j]? = some e→RepC (view w X) qAR e [(ev j).1,(ev j).2]):=by
  rcases t3 with t3 | ⟨b,o,c,el,fz,ha,hv,hsz,hel⟩
  ·refine ⟨0,0,fun _=>(.slice none 0 0, .slice none 0 0),fun h => ?_,fun _=>⟨_,_,_,_,_,_,rfl⟩,fun j hj => ?_,fun j hj => ?_,fun j e he => ?_⟩
   ·rw [show tbl=[] from t3] at h;simp at h
   ·rw [show tbl=[] from t3] at hj;simp at hj
   ·rw [show tbl=[] from t3] at hj;simp at hj
   ·rw [show tbl=[] from t3] at he;simp at he
  ·obtain ⟨hnx,hh⟩:=zI.1 hv
   have hsz':o+tbl.length*2≤c.size:=hsz
   have hseg:∀ j e,tbl[j]? = some e→∃ (h:o+j*2+2≤c.size),RepC (view w X) qAR e [c[o+j*2],c[o+j*2+1]]:=by
    intro j e he
    have hj:j < tbl.length:=(List.getElem?_eq_some_iff.1 he).1
    have hle:o+j*2+2≤c.size:=by omega
    refine ⟨hle, ?_⟩
    have:=hel j e he
    rw [show seg c (o+j*qAR.size) qAR.size=seg c (o+j*2) 2 from rfl,seg2 hle] at this
    exact this
   have hsl:∀ (l:BB) (v:Value),RepC (view w X) (.sl (.int .u8)) l [v]→∃ a n c,v = .slice a n c:=by
    intro l v h
    obtain ⟨a,cp,he,_⟩:=RepC.j9.1 h
    cases he;exact ⟨_,_,_,rfl⟩
   have hparts:∀ (e:BB×BB×Unit) (u v:Value),RepC (view w X) qAR e [u,v]→(∃ a n c,u = .slice a n c)∧∃ a n c,v = .slice a n c:=by
    intro e u v h
    obtain ⟨d1,d2,hd,q1,q2⟩:=RepC.jQ.1 h
    obtain ⟨d3,d4,hd2,q3,q4⟩:=RepC.jQ.1 q2
    obtain rfl:=RepC.qgO.1 q4
    have l1:d1.length=1:=q1.length
    have l3:d3.length=1:=q3.length
    obtain ⟨y,rfl⟩:=List.length_eq_one_iff.1 l1
    obtain ⟨z,rfl⟩:=List.length_eq_one_iff.1 l3
    subst hd2
    simp only [List.singleton_append,List.append_nil,List.cons.injEq,and_true] at hd
    obtain ⟨rfl,rfl⟩:=hd
    exact ⟨hsl _ _ q1,hsl _ _ q3⟩
   refine ⟨b,o,fun j=>if h:j < tbl.length then (c[o+j*2]'(by omega),c[o+j*2+1]'(by omega)) else (.slice none 0 0, .slice none 0 0),fun _=>⟨ha,(Array.getElem?_eq_some_iff.1 hh).1⟩,fun j => ?_,fun j hj => ?_,fun j hj => ?_,fun j e he => ?_⟩
   ·by_cases hj:j < tbl.length
    ·obtain ⟨hle,hr⟩:=hseg j _ (List.getElem?_eq_getElem hj)
     obtain ⟨⟨a,n,cc,e1⟩,⟨a',n',cc',e2⟩⟩:=hparts _ _ _ hr
     exact ⟨a,n,cc,a',n',cc',by dsimp only;rw [dif_pos hj,e1,e2]⟩
    ·exact ⟨_,_,_,_,_,_,dif_neg hj⟩
   ·dsimp only;rw [dif_pos hj,World.cell?,hh];simp [show o+j*2 < c.size by omega]
   ·dsimp only;rw [dif_pos hj,World.cell?,hh];simp [show o+j*2+1 < c.size by omega]
   ·have hj:j < tbl.length:=(List.getElem?_eq_some_iff.1 he).1
    dsimp only
    rw [dif_pos hj]
    exact (hseg j e he).2
 let q:BB×BB×Unit→Bool:=fun e=>band (seq key e.1) (seq bb e.2.1)
 let res:Nat→Bool:=fun j=>match tbl[j]? with | some e=>q e | none=>false
 have main:=qPL tbl.length off cap b ad idl frg ak key.length capk ab bb.length capb ev res hev htl 0 w hloc hc0 hc1 (fun j hj n w' hw' => ?_)
 ·refine (callsIn_wide (n:=3)).1 (main.mono ?_)
  rintro e w' ⟨rfl,hbel⟩
  refine ⟨_,rfl,X,hbel.os,hbel.tape,hbel.output,hbel.size,hbel.block,fun _ _=>Iff.rfl,fun b h=>Nat.lt_of_lt_of_le (hX b h) hbel.size,[.bool (hits res tbl.length != [])], ?_,rfl⟩
  refine ⟨[.bool _],[],rfl,RepC.xW.2 ?_,rfl⟩
  rw [qMl tbl q res (fun j e he=>by show (match tbl[j]? with | some e=>q e | none=>false)=q e;rw [he])]
 ·refine callsIn_wide.2 ?_
  have he:=List.getElem?_eq_getElem hj
  have hw:=hw'
  have hle:(view w X).Le (view w' X):=qOU hw
  have:=(qzC hS).2 w' X ((key,bb,()),(tbl[j].1,tbl[j].2.1,()),()) [.agg #[.slice ak key.length capk, .slice ab bb.length capb], .agg #[(ev j).1,(ev j).2]] _ (fun b h=>Nat.lt_of_lt_of_le (hX b h) hw.size) (hkeys.mono hle)
   ⟨[.slice ak key.length capk, .slice ab bb.length capb],_,rfl,RepC.jQ.2 ⟨[_],[_],rfl,hk0.mono hle,RepC.jQ.2 ⟨[_],[],rfl,hb0.mono hle,RepC.qgO.2 rfl⟩⟩,[(ev j).1,(ev j).2],[],rfl,(hrep j _ he).mono hle,rfl⟩
   (qCU _ _ _ _ hkl hbl)
  refine this.mono ?_
  rintro e w'' ⟨vr,rfl,hr⟩
  refine ⟨?_,qB6 hr⟩
  obtain ⟨M',_,_,_,_,_,_,_,us,hv,rfl⟩:=hr
  obtain ⟨ds,us1,rfl,hc,rfl⟩:=hv
  obtain rfl:=RepC.xW.1 hc
  show Ending.returned (.bool _)=Ending.returned (.bool (match tbl[j]? with | some e=>q e | none=>false))
  rw [he]
set_option maxRecDepth 100000 in
theorem qIa (hS:FOK Tryz.prog 126 qlB):FOK Tryz.prog 369 qzY:=by
 refine ⟨⟨Tryz.f369,Tryz.func369,by kernel_rfl,by kernel_rfl⟩, ?_⟩
 intro w X x vs r hX hkeys ha hr
 obtain ⟨⟨idl,tbl,frg,⟨⟩⟩,key,bb,⟨⟩⟩:=x
 obtain rfl:=Option.some.inj hr
 obtain ⟨cs,vs1,rfl,hp,cs2,vs2,rfl,hk,cs3,vs3,rfl,hb,rfl⟩:=ha
 obtain ⟨c1,c2,rfl,h1,hp⟩:=RepC.jQ.1 hp
 obtain ⟨c3,c4,rfl,h2,hp⟩:=RepC.jQ.1 hp
 obtain ⟨c5,c6,rfl,h3,hp⟩:=RepC.jQ.1 hp
 obtain rfl:=RepC.qgO.1 hp
 obtain rfl:=RepC.xW.1 h1
 obtain rfl:=RepC.xW.1 h3
 have:=qOf hS idl frg tbl key bb hX hkeys h2 hk hb
 refine cast ?_ this
 congr 1
 simp [mkV,Ty.isAgg]
end Yp
namespace Yp
open Go Go.Proofs Go.RowKit Go.Shelf
attribute [-go_sem] g02 g03 g04 g05 g06 g01 g07 g08 g09 g10 g11 g12 g13 g14 g15 g16 g17 g18 g19 g20 g21 g22 g23 g24 g25 g26 g27 g28 g29 g30 g31 g32 g34 g35 g36 g37 g38 g39 g40 g41 g42 g43 g44 g45 g46 g47 g48 g49 g50 g51 g52 g53 g54 g55 g56 g57 g58 g60 g61 qG9 qsK qLU g62 g63 qK g33 g64 g65 g66
attribute [local go_sem] Oper.semAt_some
end Yp
namespace Yp
open Go Go.Proofs Go.RowKit Go.Shelf
attribute [-go_sem] g02 g03 g04 g05 g06 g01 g07 g08 g09 g10 g11 g12 g13 g14 g15 g16 g17 g18 g19 g20 g21 g22 g23 g24 g25 g26 g27 g28 g29 g30 g31 g32 g34 g35 g36 g37 g38 g39 g40 g41 g42 g43 g44 g45 g46 g47 g48 g49 g50 g51 g52 g53 g54 g55 g56 g57 g58 g60 g61 qG9 qsK qLU g62 g63 qK g33 g64 g65 g66
attribute [local go_sem] Oper.semAt_some
end Yp
namespace Yp
open Go Go.Proofs Go.RowKit Go.Shelf
attribute [-go_sem] g02 g03 g04 g05 g06 g01 g07 g08 g09 g10 g11 g12 g13 g14 g15 g16 g17 g18 g19 g20 g21 g22 g23 g24 g25 g26 g27 g28 g29 g30 g31 g32 g34 g35 g36 g37 g38 g39 g40 g41 g42 g43 g44 g45 g46 g47 g48 g49 g50 g51 g52 g53 g54 g55 g56 g57 g58 g60 g61 qG9 qsK qLU g62 g63 qK g33 g64 g65 g66
attribute [local go_sem] Oper.semAt_some
end Yp
namespace Yp
open Go Go.Conc Go.RowKit Go.Proofs
section
variable {P : Program} {fr : Frame} {cs : List Frame} {w w₁ : World} {es : Array Event} {c cap s r : Nat} {buf : Array Value} {z' v : Value} {tm : Bool}
end
end Yp
namespace Yp
open Go Go.Proofs Tryz
abbrev yT23:Ty := .unit
abbrev yT19:Ty := .int .u32
abbrev yT13:Ty := .bool
abbrev yT12:Ty := .int .u8
abbrev yT5:Ty := .sl yT12
abbrev yT22:Ty := .sl yT5
abbrev yT11:Ty := .pair yT5 (.pair yT5 yT23)
abbrev yT10:Ty := .pair yT13 (.pair (.sl yT11) (.pair yT13 yT23))
abbrev yT4:Ty := .int .i64
abbrev yT16:Ty := .pair yT4 (.pair (.ar 16 (.int .u64)) yT23)
abbrev yT15:Ty := .pair yT4 (.pair yT4 yT23)
abbrev yT20:Ty := .pair yT5 yT15
abbrev yT8:Ty := .pair (.ar 4 yT13) (.pair (.ar 4 yT20) (.pair (.ar 4 yT4) (.pair yT4 yT23)))
abbrev yT7:Ty := .pair yT4 (.pair yT4 (.pair (.ar 2 yT4) (.pair yT4 (.pair yT4 yT11))))
abbrev yT3:Ty := .pair yT13 (.pair yT4 (.pair yT4 (.pair yT4 (.pair yT4 (.pair yT5 (.pair yT5 (.pair yT4 yT23)))))))
abbrev yT2:Ty := .pair yT4 (.pair yT5 yT23)
abbrev yT21:Ty := .pair (.sl yT2) (.pair (.fn [350]) yT23)
abbrev yT18:Ty := .pair yT4 (.pair (.ar 2 yT4) yT2)
abbrev yT17:Ty := .pair (.ar 8 yT19) yT2
abbrev yT14:Ty := .pair yT4 (.pair yT4 (.pair yT4 yT2))
abbrev yT9:Ty := .pair yT4 (.pair (.sl yT2) yT23)
abbrev yT6:Ty := .pair yT2 (.pair yT2 (.pair yT2 yT15))
abbrev yT0:Ty := .pair yT4 (.pair yT5 (.pair yT4 (.pair yT11 (.pair yT4 (.pair yT4 (.pair yT4 (.pair yT4 (.pair yT4 (.pair yT16 (.pair yT6 (.pair yT14 (.pair yT4 (.pair yT4 (.pair yT22 (.pair yT8 (.pair (.sl yT2) (.pair (.sl yT18) (.pair (.ar 4 yT4) yT23))))))))))))))))))
abbrev yT1:Ty := .pair yT0 (.pair yT10 yT23)
theorem qeE:FK 180 ⟨[yT4,yT4],[.im (.str), .im yT4],vR⟩:=mkC qD qC func180 8
theorem qkZ:FK 344 ⟨[yT4,yT4],[.im yT4],yW⟩:=mkC qD qC func344 5
theorem qmF:FK 271 ⟨[yT4],[.im yT13],qhP⟩:=mkC (qA qD qkZ) qC func271 4
theorem qxR:FK 382 ⟨[yT4],[.im yT4],wO⟩:=mkC qD qC func382 3
noncomputable def qe6:Inl:=inlF (eN [] []) f383 3
theorem qeU:IK 383 qe6:=mkI qD qC func383 3
theorem qEp:FK 346 ⟨[yT4,yT4],[.im yT4],qaT⟩:=mkC (qA qD qxR) (jM qC qeU) func346 5
theorem qgJ:FK 273 ⟨[yT4],[.im yT15, .im yT13],qcE⟩:=mkC (qA qD qEp) qC func273 6
theorem qk2:FK 347 ⟨[yT4],[.im yT4],qV⟩:=mkC qD qC func347 3
noncomputable def qqU:Inl:=inlF (eN [] [(383,qe6)]) f384 7
theorem qpR:IK 384 qqU:=mkI qD (jM qC qeU) func384 7
noncomputable def qGm:Inl:=inlF (eN [] [(383,qe6),(384,qqU)]) f349 3
theorem qFl:IK 349 qGm:=mkI qD (jM (jM qC qpR) qeU) func349 3
theorem x7:FK 363 ⟨[yT3],[.im yT13],qdF⟩:=mkC qD qC func363 3
theorem xF:FK 365 ⟨[yT3],[.im yT13],qa9⟩:=mkC qD qC func365 3
theorem x8:FK 364 ⟨[yT3],[.im yT13],qdG⟩:=mkC (qA qD xF) qC func364 4
theorem wV:FK 366 ⟨[yT3],[.im yT13],qnK⟩:=mkC qD qC func366 3
theorem qeD:FK 277 ⟨[yT4,yT5],[.im yT13],kP⟩:=mkC (qA (qA (qA (qA (qA (qA qD wV) xF) x8) x7) qk2) qgJ) (jM (jM qC qFl) qpR) func277 8
theorem qF7:FK 280 ⟨[yT9],[.im yT13],qpO⟩:=mkC (qA (qA qD qeD) qmF) qC func280 6
theorem qk3:FK 343 ⟨[(.int .i32)],[.im yT4, .im yT13],x6⟩:=mkC qD qC func343 4
theorem qEu:FK 281 ⟨[.str],[.ow yT12, .im yT4],qe2⟩:=mkC (qA qD qk3) qC func281 10
theorem qzI:FK 352 ⟨[(.sl yT4)],[.im yT13],qeG⟩:=mkC qD qC func352 6
theorem qzH:FK 282 ⟨[(.sl yT4)],[.ow yT12, .im yT4],qeF⟩:=mkC (qA (qA qD qm5) qzI) qC func282 9
theorem qBZ:FK 283 ⟨[yT4,yT5],[.ow yT12, .im yT4],qdO⟩:=mkC (qA (qA (qA (qA (qA (qA (qA (qA (qA qD wV) xF) x8) x7) qk2) qEu) qeD) qgJ) qeE) qC func283 14
theorem qnY:FK 182 ⟨[yT9],[.ow yT12, .im yT4],qdK⟩:=mkC (qA (qA (qA (qA (qA qD qBZ) qzH) qEu) qF7) qeE) qC func182 17
theorem qF2:FK 315 ⟨[yT3],[.im (.fn [363,364,365,366])],qv6⟩:=mkC (qA (qA (qA (qA qD wV) xF) x8) x7) qC func315 3
theorem qs9:FK 232 ⟨[yT3],[.im yT13],qf3⟩:=mkC (qA (qA (qA (qA (qA qD wV) xF) x8) x7) qF2) qC func232 3
noncomputable abbrev qmM:wZ:=⟨[yT2],[.im yT4],qbJ⟩
theorem jV:FK 350 qmM:=mkC qD qC func350 3
theorem qtB:FK 278 ⟨[yT9],[.im yT21],qf8⟩:=mkC (qA qD jV) qC func278 3
theorem wW:FK 348 ⟨[yT21,yT4],[.im yT4, .im yT13],jH⟩:=mkC (qA qD jV) qC func348 9
noncomputable def qbX:Inl:=inlF (eN [] []) f385 5
theorem qbU:IK 385 qbX:=mkI qD qC func385 5
theorem qqK:FK 333 ⟨[yT5,yT5],[.im yT13],qdT⟩:=mkC qD qC func333 5
theorem qk0:FK 359 ⟨[yT2,yT2],[.im yT13],ql4⟩:=mkC (qA qD qqK) qC func359 5
theorem qaY:FK 351 ⟨[(.sl (.sl yT2))],[.ow yT2],zK⟩:=mkC (qA qD qk0) (jM qC qbU) func351 9
theorem qh9:FK 279 ⟨[yT21,yT2],[.ow yT2],xO⟩:=mkC (qA (qA (qA qD jV) qaY) wW) qC func279 8
noncomputable abbrev qCG:wZ:=⟨[yT9,yT4,yT5],[.im yT9, .im yT4],j7⟩
theorem qxM:FK 181 qCG:=mkC (qA (qA (qA (qA (qA qD jV) qh9) qtB) qeD) qgJ) qC func181 10
noncomputable def qiT:Inl:=inlF (eN [(181,qCG)] []) f316 4
theorem qiM:IK 316 qiT:=mkI (qA qD qxM) qC func316 4
theorem qzE:FK 317 ⟨[yT4,yT4],[.ow yT12],z6⟩:=mkC (qA qD qeE) qC func317 7
theorem qEs:FK 318 ⟨[yT5],[.im (.str)],qwV⟩:=mkC qD qC func318 6
theorem qm3:FK 233 ⟨[yT3],[.im yT9],yU⟩:=mkC (qA (qA qD qEs) qzE) (jM qC qiM) func233 5
noncomputable abbrev qsA:wZ:=⟨[yT3],[.ow yT12, .im yT4],xD⟩
theorem qkY:FK 123 qsA:=mkC (qA (qA (qA qD qm3) qs9) qnY) qC func123 4
theorem qh7:FK 263 ⟨[yT4,(.sl yT4)],[.im yT13],vH⟩:=mkC qD qC func263 7
theorem qh8:FK 228 ⟨[yT0],[.im (.ar 2 yT4)],kZ⟩:=mkC (qA qD qh7) qC func228 4
theorem qxK:FK 234 ⟨[yT5],[.im yT13],qj8⟩:=mkC qD qC func234 3
theorem qkX:FK 225 ⟨[yT4],[.im yT4],qaK⟩:=mkC qD qC func225 3
theorem qzD:FK 235 ⟨[yT4],[.im yT13],qd3⟩:=mkC (qA qD qkX) qC func235 3
theorem qIq:FK 319 ⟨[yT8],[.im yT8, .im yT4, .im yT4],quF⟩:=mkC qD qC func319 7
theorem qEr:FK 389 ⟨[yT4,yT4],[.im yT13],qcO⟩:=mkC qD qC func389 5
theorem qxS:FK 367 ⟨[yT7],[.im yT13],qkJ⟩:=mkC (qA qD qEr) qC func367 5
noncomputable abbrev qCI:wZ:=⟨[yT4,yT4],[.ow yT12, .im yT4],qaV⟩
theorem qEt:FK 308 qCI:=mkC qD qC func308 8
noncomputable def qCi:Inl:=inlF (eN [(308,qCI)] []) f368 8
theorem qA8:IK 368 qCi:=mkI (qA qD qEt) qC func368 8
theorem qxT:FK 320 ⟨[yT7],[.ow yT12, .im yT4],qkK⟩:=mkC (qA qD qxS) (jM qC qA8) func320 6
theorem qIn:FK 369 qzY:=qIa qAr
theorem wU:FK 370 ⟨[(.sl yT11)],[.cl yT11],zU⟩:=mkC qD qC func370 3
theorem qB0:FK 371 qoG:=qBc
theorem yZ:FK 388 ⟨[yT19,yT4],[.im yT19],qI⟩:=mkC qD qC func388 6
theorem qDJ:FK 387 ⟨[yT5],[.im (.ar 64 yT19)],qk9⟩:=mkC (qA qD yZ) qC func387 9
theorem qw4:FK 362 ⟨[(.ar 8 yT19),yT5],[.im (.ar 8 yT19), .im yT4],qiZ⟩:=mkC (qA (qA qD yZ) qDJ) qC func362 16
noncomputable abbrev qCE:wZ:=⟨[yT17,yT5],[.im yT17],qgQ⟩
theorem qw3:FK 312 qCE:=mkC (qA qD qw4) qC func312 6
noncomputable abbrev qCF:wZ:=⟨[],[.im yT17],quZ⟩
theorem qDL:FK 313 qCF:=mkC qD qC func313 1
theorem qDK:FK 314 ⟨[yT17],[.ow yT12],qnD⟩:=mkC (qA qD qw4) qC func314 9
theorem qMh:FK 361 ⟨[yT5],[.ow yT12],qGG⟩:=mkC (qA (qA (qA (qA qD jV) qDK) qDL) qw3) qC func361 3
theorem qF4:FK 310 ⟨[yT5],[.ow yT12],qpJ⟩:=mkC (qA qD qMh) qC func310 4
noncomputable def qGl:Inl:=inlF (eN [(312,qCE),(313,qCF),(350,qmM)] []) f311 6
theorem qFk:IK 311 qGl:=mkI (qA (qA (qA qD jV) qDL) qw3) qC func311 6
theorem qxI:FK 231 ⟨[yT5,yT5],[.ow yT12],qrH⟩:=mkC (qA (qA (qA (qA qD jV) qDK) qw3) qF4) (jM qC qFk) func231 7
theorem qEi:FK 372 ⟨[yT5,yT5],[.ow yT12],qfZ⟩:=mkC (qA qD qxI) qC func372 5
theorem qIm:FK 321 ⟨[yT10,yT5,yT5],[.im yT10, .ow yT12],qt9⟩:=mkC (qA (qA (qA (qA qD qEi) qB0) wU) qIn) qC func321 8
theorem qGc:FK 373 ⟨[yT7],[.im yT13],qp1⟩:=mkC (qA qD qxS) qC func373 3
theorem qGb:FK 322 ⟨[yT7],[.ow yT12, .im yT4],qp0⟩:=mkC (qA (qA qD qGc) qxT) qC func322 6
theorem qEo:FK 323 ⟨[yT5],[.ow yT12, .im yT4],ql8⟩:=mkC qD qC func323 4
theorem qaZ:FK 324 ⟨[(.sl yT2)],[.cl yT2],z0⟩:=mkC qD qC func324 3
theorem qxL:FK 236 ⟨[yT1,yT7,yT5],[.im yT1, .im yT4],qj9⟩:=mkC (qA (qA (qA (qA (qA (qA qD qaZ) qEo) qGb) qIm) qxT) qIq) qC func236 17
noncomputable abbrev qu0:wZ:=⟨[yT1,yT5],[.im yT1, .im yT4],j6⟩
theorem qdS:FK 124 qu0:=mkC (qA (qA (qA (qA qD qxL) qzD) qxK) qh8) qC func124 9
theorem qIu:FK 167 ⟨[yT4],[.im yT4],quJ⟩:=mkC qD qC func167 3
theorem qGe:FK 338 ⟨[yT4],[.im yT13],qqP⟩:=mkC qD qC func338 3
theorem qIt:FK 262 ⟨[yT4,yT4,yT5],[.im yT13],quI⟩:=mkC (qA qD qGe) qC func262 7
theorem qGf:FK 168 ⟨[yT4,yT4,yT5],[.im yT14, .im yT4],qqQ⟩:=mkC (qA qD qIt) qC func168 8
theorem qtA:FK 309 ⟨[yT5, .str,yT22],[.ow yT12, .im yT4],qf7⟩:=mkC (qA qD qxI) qC func309 11
theorem qF6:FK 264 ⟨[yT5],[.ow yT12],qkA⟩:=mkC (qA qD qtA) qC func264 5
theorem qEl:FK 169 ⟨[yT1,yT4,yT5],[.im yT1, .im yT4],ql3⟩:=mkC (qA (qA (qA (qA (qA qD qF6) qh7) qxL) qxK) qh8) qC func169 9
theorem qdR:FK 63 ⟨[yT1,yT3],[.im yT1],kI⟩:=mkC (qA (qA (qA (qA (qA qD qEl) qGf) qIu) qdS) qkY) qC func63 9
theorem qeC:FK 105 ⟨[yT4],[.im yT13],qaL⟩:=mkC (qA qD qkX) qC func105 3
theorem qw6:FK 238 ⟨[yT2],[.im yT13],qi3⟩:=mkC qD qC func238 3
theorem qw5:FK 307 ⟨[(.pair yT6 yT23)],[.im (.ar 3 yT2)],qgU⟩:=mkC qD qC func307 3
theorem qgH:FK 226 ⟨[(.pair yT6 yT23)],[.im yT13],v4⟩:=mkC (qA (qA qD qw5) qw6) qC func226 5
theorem qFG:FK 106 ⟨[yT6],[.im yT4, .im yT4],qoQ⟩:=mkC (qA qD qgH) qC func106 4
theorem qcF:FK 107 ⟨[yT1],[.im (.pair (.pair yT0 yT23) (.pair yT1 yT23))],vC⟩:=mkC qD qC func107 3
theorem qIo:FK 227 ⟨[yT5,(.ar 2 yT4),yT4,yT5],[.ow yT12],qpL⟩:=mkC (qA (qA (qA qD qtA) qEt) qh7) qC func227 17
theorem qiO:FK 108 ⟨[(.pair yT0 yT23),yT4,yT5],[.ow yT12],xS⟩:=mkC (qA (qA qD qh8) qIo) qC func108 7
theorem qFE:FK 229 ⟨[yT2],[.im yT13],qoO⟩:=mkC qD qC func229 3
theorem qsV:FK 109 ⟨[yT6,yT4,yT5],[.im yT6, .im yT4],qcH⟩:=mkC (qA (qA qD qFE) qgH) qC func109 10
noncomputable def qED:Inl:=inlF (eN [] []) f230 3
theorem qDm:IK 230 qED:=mkI qD qC func230 3
theorem qeB:FK 110 ⟨[yT4,yT4],[.im yT4, .im yT13],kN⟩:=mkC (qA qD qkX) (jM qC qDm) func110 9
theorem qEj:FK 111 ⟨[yT5],[.ow yT12],qv8⟩:=mkC (qA qD qxI) qC func111 3
theorem qFH:FK 23 ⟨[yT1,yT5],[.im yT1, .im yT4],qi9⟩:=mkC (qA (qA (qA (qA (qA (qA (qA (qA qD qEj) qeB) qsV) qiO) qcF) qFG) qeC) qdR) qC func23 9
theorem qa0:FK 116 ⟨[(.pair yT0 yT23)],[.im yT13],zG⟩:=mkC qD qC func116 3
theorem qkQ:FK 117 ⟨[yT1],[.im yT1],qaB⟩:=mkC (qA qD qeB) qC func117 3
theorem qkP:FK 118 ⟨[yT6],[.im yT6],qb7⟩:=mkC qD qC func118 3
theorem qp4:FK 26 ⟨[yT1],[.im yT1],qcX⟩:=mkC (qA (qA (qA (qA qD qkP) qkQ) qa0) qcF) qC func26 3
noncomputable abbrev qoF:wZ:=⟨[yT3,yT4],[.im yT3, .im yT4],j3⟩
theorem qqE:FK 122 qoF:=mkC qD qC func122 6
noncomputable def qr2:Inl:=inlF (eN [(122,qoF),(123,qsA),(124,qu0)] []) f121 9
theorem qrN:IK 121 qr2:=mkI (qA (qA (qA qD qdS) qkY) qqE) qC func121 9
theorem qbN:FK 125 ⟨[yT1,yT4],[.im yT1],xE⟩:=mkC qD qC func125 7
theorem qkR:FK 31 ⟨[yT1,yT3],[.im yT1],xH⟩:=mkC (qA (qA (qA (qA (qA (qA (qA (qA (qA qD qAr) qbN) qkP) qkQ) qa0) qEj) qsV) qiO) qcF) (jM qC qrN) func31 10
theorem qIv:FK 325 ⟨[yT14,yT14],[.im yT13],qCa⟩:=mkC (qA qD qqK) qC func325 5
theorem qIs:FK 237 ⟨[yT14],[.im yT13],quH⟩:=mkC (qA qD qIv) qC func237 3
theorem qxU:FK 129 ⟨[yT14,yT4,yT4],[.im yT13],qk5⟩:=mkC (qA qD qIs) qC func129 7
theorem qFF:FK 130 ⟨[yT6],[.im yT6, .im yT4],qi5⟩:=mkC (qA qD qw6) qC func130 5
theorem qt3:FK 33 ⟨[yT1,yT3],[.im yT1],qa4⟩:=mkC (qA (qA (qA (qA (qA (qA (qA (qA qD qFF) qxU) qbN) qkQ) qa0) qcF) qdR) qp4) qC func33 5
theorem qqA:FK 87 ⟨[yT8,yT4],[.im yT8, .im yT4],qg8⟩:=mkC qD qC func87 6
theorem qs1:FK 173 ⟨[yT2],[.im yT13],yR⟩:=mkC qD qC func173 3
theorem qh2:FK 67 ⟨[yT6],[.im yT13],qaE⟩:=mkC (qA qD qs1) qC func67 6
theorem qBG:FK 114 ⟨[yT6,yT4,yT5],[.im yT6, .im yT4],qg3⟩:=mkC (qA qD qh2) qC func114 9
theorem qs2:FK 132 ⟨[yT6],[.im yT6, .im yT4],qcK⟩:=mkC qD qC func132 4
theorem qxD:FK 140 ⟨[yT5],[.im yT6, .im yT4],qjH⟩:=mkC qD qC func140 4
theorem qm1:FK 133 ⟨[yT4],[.im yT13],xI⟩:=mkC qD qC func133 3
theorem qh5:FK 202 ⟨[yT4,yT4],[.im yT4],vD⟩:=mkC qD qC func202 7
theorem qnX:FK 246 ⟨[yT4,yT4],[.ow yT12, .im yT4],wF⟩:=mkC (qA qD qh5) qC func246 8
theorem qFY:FK 374 ⟨[yT4],[.ow yT12],qo5⟩:=mkC qD qC func374 6
theorem qs8:FK 375 ⟨[],[.ow yT19],qlX⟩:=mkC qD qC func375 1
theorem qEc:FK 392 ⟨[yT19,yT19],[.im yT19],xC⟩:=mkC qD qC func392 5
theorem qs7:FK 376 ⟨[(.ar 8 yT19),yT5,yT4,(.sl yT19)],[.im (.ar 8 yT19)],qfU⟩:=mkC (qA qD qEc) qC func376 30
theorem qFW:FK 327 ⟨[yT17],[.ow yT12],qjP⟩:=mkC (qA (qA (qA qD qs7) qs8) qFY) qC func327 9
theorem qFX:FK 328 ⟨[yT17,yT5],[.im yT17],qjQ⟩:=mkC (qA (qA qD qs7) qs8) qC func328 8
theorem qFZ:FK 329 ⟨[],[.im yT17],qvP⟩:=mkC qD qC func329 1
theorem qrX:FK 250 ⟨[yT5],[.ow yT12],qhE⟩:=mkC (qA (qA (qA qD qFZ) qFX) qFW) qC func250 3
theorem qBS:FK 249 ⟨[yT5],[.ow yT12],qhD⟩:=mkC (qA qD qrX) qC func249 4
theorem qnW:FK 150 ⟨[yT5,yT5],[.ow yT12],qfS⟩:=mkC (qA (qA qD qrX) qBS) qC func150 9
theorem qEb:FK 326 ⟨[.str,yT22],[.ow yT12],qlW⟩:=mkC qD qC func326 7
theorem qm2:FK 247 ⟨[yT5, .str,yT22],[.ow yT12, .im yT4],qbH⟩:=mkC (qA (qA qD qEb) qnW) qC func247 9
theorem qnU:FK 141 ⟨[yT5,(.ar 2 yT4),yT4,yT5],[.ow yT12],kW⟩:=mkC (qA (qA (qA qD qm2) qnX) qm1) qC func141 19
theorem qzA:FK 248 ⟨[yT4],[.ow yT12, .im yT4],qd0⟩:=mkC (qA (qA qD qrX) qnX) qC func248 7
theorem qxB:FK 142 ⟨[],[.im yT11],qfL⟩:=mkC (qA qD qzA) qC func142 3
theorem qxE:FK 143 ⟨[.bool],[.im yT10],qjL⟩:=mkC qD qC func143 3
theorem qqF:FK 37 ⟨[yT12,yT4],[.im yT1, .im yT1],qaP⟩:=mkC (qA (qA (qA (qA (qA (qA (qA qD qxE) qxB) qnU) qxD) qs2) qBG) qqA) qC func37 16
theorem qFQ:FK 292 ⟨[yT20,yT12],[.im yT20, .ow yT12],qfP⟩:=mkC qD qC func292 7
theorem qD5:FK 196 ⟨[yT20,yT5],[.im yT20, .ow yT5],qrC⟩:=mkC (qA qD qFQ) qC func196 10
theorem qsX:FK 89 ⟨[yT5],[.im yT5],qfG⟩:=mkC (qA qD qD5) qC func89 5
theorem qxG:FK 266 ⟨[yT5,yT4,yT4],[.im yT4, .im yT4, .im yT4],qcA⟩:=mkC qD qC func266 11
theorem qD0:FK 194 ⟨[yT5,yT4,yT4],[.im yT4],kL⟩:=mkC (qA qD qxG) qC func194 10
theorem qzB:FK 360 ⟨[yT4],[.im yT13],yQ⟩:=mkC qD qC func360 3
theorem qp7:FK 291 ⟨[yT7],[.im yT13],qc2⟩:=mkC (qA qD qzB) qC func291 6
theorem qp8:FK 195 ⟨[yT7],[.im yT13],qaD⟩:=mkC (qA qD qp7) qC func195 4
theorem qs0:FK 88 ⟨[yT5],[.im yT7, .im yT4],qfM⟩:=mkC (qA (qA qD qp8) qD0) qC func88 7
theorem qBz:FK 212 ⟨[yT1,yT4],[.im yT1],yK⟩:=mkC qD qC func212 7
theorem qbC:FK 28 ⟨[yT4],[.im yT13],v7⟩:=mkC qD qC func28 3
theorem qbM:FK 36 ⟨[yT0],[.im (.ar 2 yT4)],kJ⟩:=mkC qD qC func36 3
theorem qs4:FK 215 ⟨[yT6,yT4],[.im yT5, .im yT13],qfN⟩:=mkC qD qC func215 6
theorem qBw:FK 213 ⟨[yT0,yT7],[.im yT13],qgV⟩:=mkC (qA (qA (qA qD qs4) qbM) qbC) qC func213 9
theorem qDV:FK 214 ⟨[yT5],[.ow yT12],qlL⟩:=mkC (qA qD qm2) qC func214 5
theorem qFM:FK 300 ⟨[yT4,yT4],[.ow yT12],j0⟩:=mkC (qA qD qnX) qC func300 7
theorem qh1:FK 216 ⟨[yT7],[.ow yT12, .im yT4],yL⟩:=mkC (qA (qA qD qFM) qp7) qC func216 6
theorem zY:FK 39 ⟨[yT5,yT5],[.im yT13],zV⟩:=mkC qD qC func39 5
theorem qqD:FK 301 ⟨[yT5,yT5],[.ow yT12],qaJ⟩:=mkC (qA qD qnW) qC func301 5
theorem qxF:FK 302 ⟨[yT10,yT5,yT5],[.im yT13],qjM⟩:=mkC (qA qD zY) qC func302 8
theorem qBR:FK 217 ⟨[yT10,yT5,yT5,yT5],[.im yT10, .im yT13],qdA⟩:=mkC (qA (qA (qA qD qxF) qqD) zY) qC func217 11
theorem qp9:FK 305 ⟨[yT4],[.im (.int .u64)],qaF⟩:=mkC qD qC func305 5
theorem qnV:FK 240 ⟨[yT16,yT4],[.im yT13],qbG⟩:=mkC (qA qD qp9) qC func240 5
theorem qBJ:FK 303 ⟨[yT16,yT4],[.im yT13],qg6⟩:=mkC (qA qD qnV) qC func303 5
theorem qBH:FK 304 ⟨[yT16],[.ow yT4],qg4⟩:=mkC (qA qD qnV) qC func304 6
theorem qD2:FK 218 ⟨[yT16,yT4],[.im yT16, .im yT4],qfO⟩:=mkC (qA (qA (qA qD qp9) qBH) qBJ) qC func218 12
theorem qDR:FK 101 ⟨[yT1,yT5],[.im yT1, .im yT7, .im yT4],qfH⟩:=mkC (qA (qA (qA (qA (qA (qA (qA (qA (qA qD qD2) qBR) qh1) qs4) qDV) qBw) qBz) qs2) qs0) qC func101 21
theorem qkW:FK 201 ⟨[.str],[.im yT13],wE⟩:=mkC qD qC func201 4
theorem qh6:FK 92 ⟨[.str],[.im yT4, .im yT4],yN⟩:=mkC (qA (qA qD qh5) qkW) qC func92 6
theorem qkS:FK 95 ⟨[yT4],[.im yT13],qcL⟩:=mkC qD qC func95 3
theorem qkV:FK 197 ⟨[yT5,yT4,yT4],[.im (.str), .im yT4, .im yT4],xL⟩:=mkC qD qC func197 13
theorem qqB:FK 298 ⟨[yT4],[.im yT4, .im yT12],yM⟩:=mkC qD qC func298 6
theorem qFS:FK 293 ⟨[yT5,yT4],[.im yT13],wC⟩:=mkC (qA qD qqB) qC func293 7
theorem qD8:FK 198 ⟨[yT5,yT4],[.ow yT4, .im yT4, .im yT4],qlU⟩:=mkC (qA qD qFS) qC func198 12
theorem qIl:FK 294 ⟨[(.sl yT4),yT4],[.im yT13],qo2⟩:=mkC qD qC func294 6
theorem qgI:FK 199 ⟨[yT4],[.im yT15, .im yT13],qd1⟩:=mkC (qA qD qIl) qC func199 7
theorem qqC:FK 295 ⟨[yT4],[.im yT4],qaI⟩:=mkC qD qC func295 3
theorem qkU:FK 296 ⟨[yT15,yT5],[.im yT13],x3⟩:=mkC qD qC func296 6
theorem qD9:FK 200 ⟨[yT4,yT5,yT4],[.ow yT12, .im yT4, .im yT4],qlV⟩:=mkC (qA (qA (qA (qA (qA qD qkU) qqC) qgI) qkV) qh6) qC func200 23
theorem qkT:FK 90 ⟨[yT5],[.im yT9, .im yT4],qaH⟩:=mkC (qA (qA (qA (qA (qA (qA qD qD9) qgI) qD8) qkV) qkS) qh6) qC func90 20
theorem qh4:FK 91 ⟨[yT9,yT4],[.im yT5, .im yT13],kX⟩:=mkC qD qC func91 7
theorem qp6:FK 120 ⟨[yT4],[.im yT13],qc0⟩:=mkC qD qC func120 3
theorem qBB:FK 30 ⟨[yT3],[.im yT13],qgY⟩:=mkC (qA qD qp6) qC func30 4
theorem qs6:FK 285 ⟨[yT4,yT5],[.im yT13],qfQ⟩:=mkC (qA (qA qD qkU) qgI) qC func285 8
theorem qBM:FK 203 ⟨[yT9],[.im yT13],qhA⟩:=mkC (qA (qA qD qs6) qkS) qC func203 5
theorem qbD:FK 96 ⟨[yT4,yT4],[.im (.str), .im yT4],jU⟩:=mkC (qA qD qh5) qC func96 8
theorem qxH:FK 206 ⟨[.str],[.ow yT12, .im yT4],kY⟩:=mkC (qA qD qkW) qC func206 6
theorem qBQ:FK 204 ⟨[yT4,yT5],[.ow yT12, .im yT4],qc9⟩:=mkC (qA (qA (qA (qA (qA qD qkU) qqC) qxH) qgI) qbD) qC func204 16
theorem qBP:FK 297 ⟨[(.sl yT4)],[.im yT13],qhC⟩:=mkC qD qC func297 4
theorem qBO:FK 205 ⟨[(.sl yT4)],[.ow yT12, .im yT4],qhB⟩:=mkC (qA (qA qD qqB) qBP) qC func205 11
theorem qD7:FK 207 ⟨[yT4],[.im (.str)],qlT⟩:=mkC (qA qD qbD) qC func207 5
theorem qh3:FK 97 ⟨[yT9],[.ow yT12, .im yT4],v8⟩:=mkC (qA (qA (qA (qA (qA qD qD7) qxH) qBO) qBQ) qBM) qC func97 14
theorem qw9:FK 339 ⟨[yT4,yT4],[.ow yT12],q9⟩:=mkC (qA qD qbD) qC func339 7
theorem qEd:FK 379 ⟨[yT12],[.im yT12],qfV⟩:=mkC qD qC func379 3
theorem qF0:FK 340 ⟨[yT5],[.im (.str)],qjS⟩:=mkC (qA qD qEd) qC func340 5
theorem qxA:FK 265 ⟨[yT3],[.im yT9],qb8⟩:=mkC (qA (qA qD qF0) qw9) qC func265 4
theorem qBA:FK 171 ⟨[yT3],[.ow yT12, .im yT4],qgX⟩:=mkC (qA (qA (qA qD qxA) qh3) qBB) qC func171 7
theorem qBT:FK 306 ⟨[yT12],[.im yT4],qhF⟩:=mkC qD qC func306 3
theorem qBU:FK 219 ⟨[.str],[.ow yT12, .im yT4],qdB⟩:=mkC (qA qD qBT) qC func219 8
theorem qy9:FK 220 ⟨[yT9,yT4],[.im yT4],vB⟩:=mkC (qA (qA qD qh6) qh4) qC func220 9
theorem qsY:FK 102 ⟨[yT5],[.im yT3, .im yT4],qfJ⟩:=mkC (qA (qA (qA (qA (qA (qA qD qy9) qBU) qBA) qh4) qkT) zY) qC func102 15
theorem qBX:FK 38 ⟨[yT1,yT1],[.im yT1, .im yT3, .im yT13],vG⟩:=mkC (qA (qA (qA qD qsY) qDR) qsX) qC func38 12
theorem qBW:FK 21 ⟨[],[.im yT13],qhO⟩:=mkC (qA (qA (qA (qA (qA (qA (qA qD zY) qBX) qqF) qt3) qkR) qp4) qFH) qC func21 13
theorem qw7:FK 41 ⟨[yT0,yT4,yT5],[.ow yT12],wA⟩:=mkC (qA (qA qD qnU) qbM) qC func41 7
theorem qFV:FK 44 ⟨[yT5],[.ow yT12],qo4⟩:=mkC (qA qD qnW) qC func44 3
theorem qxC:FK 144 ⟨[yT2,yT2],[.im yT13],wB⟩:=mkC (qA qD zY) qC func144 5
theorem qs3:FK 40 ⟨[yT6,yT6],[.im yT13],yS⟩:=mkC (qA qD qxC) qC func40 8
theorem qxJ:FK 45 ⟨[yT1,yT1,yT4],[.im yT13],xN⟩:=mkC (qA (qA (qA qD qsY) qsX) qs0) qC func45 11
theorem qqG:FK 9 ⟨[(.pair yT12 (.pair yT12 (.pair yT12 (.pair (.ar 3 yT12) yT23))))],[.im yT13],yF⟩:=mkC (qA (qA (qA (qA (qA (qA (qA (qA qD qxJ) qFV) qw7) qs3) zY) qqF) qkR) qBW) qC func9 16
end Yp
namespace Yp
open Go
set_option maxRecDepth 100000
set_option maxHeartbeats 2000000
def tn (x n:UInt32):UInt32:=u32 (orI .u32 (n32 (u32 (shrI .u32 (n32 x) (n32 n)))) (n32 (u32 (shlI .u32 (n32 x) (n32 (u32 (isub (n32 (u32 32)) (n32 n))))))))
theorem qeI (x n:UInt32):xC (x,n,())=some (tn x n,()):=rfl
theorem qJL (a b:UInt32):u32 (orI .u32 (n32 a) (n32 b))=u32 (orI .u32 (n32 b) (n32 a)):=by rw [or32,or32,UInt32.or_comm]
theorem qmN {x:UInt32} {k:Int} {n:UInt32} (h1:n64 (u64 (andI .u64 (n64 (u64 k)) (n64 (u64 31))))=n32 (u32 (isub (n32 (u32 32)) (n32 n)))) (h2:n64 (u64 (isub (n64 (u64 32)) (n64 (u64 (andI .u64 (n64 (u64 k)) (n64 (u64 31)))))))=n32 n) :
  qI (x,k,())=some (tn x n,()):=by
 unfold qI tn
 dsimp only
 rw [qJL,h2,h1]
theorem r2 (x:UInt32):qI (x, -2,())=some (tn x (u32 2),()):=qmN (by decide +kernel) (by decide +kernel)
theorem r3 (x:UInt32):qI (x, -13,())=some (tn x (u32 13),()):=qmN (by decide +kernel) (by decide +kernel)
theorem r4 (x:UInt32):qI (x, -22,())=some (tn x (u32 22),()):=qmN (by decide +kernel) (by decide +kernel)
theorem r6 (x:UInt32):qI (x, -6,())=some (tn x (u32 6),()):=qmN (by decide +kernel) (by decide +kernel)
theorem r11 (x:UInt32):qI (x, -11,())=some (tn x (u32 11),()):=qmN (by decide +kernel) (by decide +kernel)
theorem r25 (x:UInt32):qI (x, -25,())=some (tn x (u32 25),()):=qmN (by decide +kernel) (by decide +kernel)
theorem r7 (x:UInt32):qI (x, -7,())=some (tn x (u32 7),()):=qmN (by decide +kernel) (by decide +kernel)
theorem r18 (x:UInt32):qI (x, -18,())=some (tn x (u32 18),()):=qmN (by decide +kernel) (by decide +kernel)
theorem r17 (x:UInt32):qI (x, -17,())=some (tn x (u32 17),()):=qmN (by decide +kernel) (by decide +kernel)
theorem r19 (x:UInt32):qI (x, -19,())=some (tn x (u32 19),()):=qmN (by decide +kernel) (by decide +kernel)
def qM8 (a b c d:UInt8):UInt32 :=
 u32 (iadd (n32 (u32 (iadd (n32 (u32 (iadd (n32 (u32 (imul (n32 (u32 (n8 a))) (n32 (u32 16777216))))) (n32 (u32 (imul (n32 (u32 (n8 b))) (n32 (u32 65536)))))))) (n32 (u32 (imul (n32 (u32 (n8 c))) (n32 (u32 256)))))))) (n32 (u32 (n8 d))))
def qOS (a b c d:UInt8):UInt32 :=
 u32 (orI .u32 (n32 (u32 (orI .u32 (n32 (u32 (orI .u32 (n32 (u32 (shlI .u32 (n32 (u32 (n8 a))) (n64 (u64 24))))) (n32 (u32 (shlI .u32 (n32 (u32 (n8 b))) (n64 (u64 16)))))))) (n32 (u32 (shlI .u32 (n32 (u32 (n8 c))) (n64 (u64 8)))))))) (n32 (u32 (n8 d))))
theorem wI {a:Int} (h:0≤a∧a < 4294967296):n32 (u32 a)=a:=by
 show (((BitVec.ofNat 32 ((a % 2 ^ 32).toNat)).toNat:Nat):Int)=a
 rw [BitVec.toNat_ofNat];omega
theorem qiW {a:Nat} (h:a < 4294967296):(u32 (a:Int)).toNat=a:=by
 have:=wI (a:=(a:Int)) (by omega)
 unfold n32 at this;omega
theorem qM7 (a b c d:UInt8):qOS a b c d=qM8 a b c d:=by
 have ha:=a.toNat_lt;have hb:=b.toNat_lt;have hc:=c.toNat_lt;have hd:=d.toNat_lt
 unfold qOS qM8
 have e1:∀ x:UInt8,n32 (u32 (n8 x))=(x.toNat:Int):=fun x=>by
  have:=x.toNat_lt
  exact wI (a:=(x.toNat:Int)) (by omega)
 have s1:∀ (x:UInt8),shlI .u32 (n32 (u32 (n8 x))) (n64 (u64 24))=((x.toNat*16777216:Nat):Int):=fun x=>by rw [e1];show (x.toNat:Int)*2 ^ 24=_;omega
 have s2:∀ (x:UInt8),shlI .u32 (n32 (u32 (n8 x))) (n64 (u64 16))=((x.toNat*65536:Nat):Int):=fun x=>by rw [e1];show (x.toNat:Int)*2 ^ 16=_;omega
 have s3:∀ (x:UInt8),shlI .u32 (n32 (u32 (n8 x))) (n64 (u64 8))=((x.toNat*256:Nat):Int):=fun x=>by rw [e1];show (x.toNat:Int)*2 ^ 8=_;omega
 have m1:∀ (x:UInt8),imul (n32 (u32 (n8 x))) (n32 (u32 16777216))=((x.toNat*16777216:Nat):Int):=fun x=>by rw [e1,wI (by decide)];show (x.toNat:Int)*16777216=_;omega
 have m2:∀ (x:UInt8),imul (n32 (u32 (n8 x))) (n32 (u32 65536))=((x.toNat*65536:Nat):Int):=fun x=>by rw [e1,wI (by decide)];show (x.toNat:Int)*65536=_;omega
 have m3:∀ (x:UInt8),imul (n32 (u32 (n8 x))) (n32 (u32 256))=((x.toNat*256:Nat):Int):=fun x=>by rw [e1,wI (by decide)];show (x.toNat:Int)*256=_;omega
 rw [s1,s2,s3,m1,m2,m3,or32,or32,or32]
 have d1:(u32 (n8 d)).toNat=d.toNat:=qiW (by omega)
 apply UInt32.toNat_inj.1
 rw [UInt32.toNat_or,UInt32.toNat_or,UInt32.toNat_or,qiW (by omega),qiW (by omega),qiW (by omega),d1]
 have o3:(c.toNat*256) ||| d.toNat=c.toNat*256+d.toNat:=by
  have:=Nat.two_pow_add_eq_or_of_lt (i:=8) (b:=d.toNat) (by omega) c.toNat
  rw [Nat.mul_comm];exact this.symm
 have o2:(b.toNat*65536) ||| (c.toNat*256+d.toNat)=b.toNat*65536+(c.toNat*256+d.toNat):=by
  have:=Nat.two_pow_add_eq_or_of_lt (i:=16) (b:=c.toNat*256+d.toNat) (by omega) b.toNat
  rw [Nat.mul_comm b.toNat];exact this.symm
 have o1:(a.toNat*16777216) ||| (b.toNat*65536+(c.toNat*256+d.toNat))=a.toNat*16777216+(b.toNat*65536+(c.toNat*256+d.toNat)):=by
  have:=Nat.two_pow_add_eq_or_of_lt (i:=24) (b:=b.toNat*65536+(c.toNat*256+d.toNat)) (by omega) a.toNat
  rw [Nat.mul_comm a.toNat];exact this.symm
 rw [Nat.or_assoc,Nat.or_assoc,o3,o2,o1]
 have q1:iadd (n32 (u32 ((a.toNat*16777216:Nat):Int))) (n32 (u32 ((b.toNat*65536:Nat):Int)))=((a.toNat*16777216+b.toNat*65536:Nat):Int):=by
  rw [wI (by omega),wI (by omega)];show (_:Int)+_=_;omega
 rw [q1]
 have q2:iadd (n32 (u32 ((a.toNat*16777216+b.toNat*65536:Nat):Int))) (n32 (u32 ((c.toNat*256:Nat):Int)))=((a.toNat*16777216+b.toNat*65536+c.toNat*256:Nat):Int):=by
  rw [wI (by omega),wI (by omega)];show (_:Int)+_=_;omega
 rw [q2]
 have q3:iadd (n32 (u32 ((a.toNat*16777216+b.toNat*65536+c.toNat*256:Nat):Int))) (n32 (u32 (n8 d)))=((a.toNat*16777216+b.toNat*65536+c.toNat*256+d.toNat:Nat):Int):=by
  rw [wI (by omega),e1];show (_:Int)+_=_;omega
 rw [q3,qiW (by omega)];omega
def mixW (m2 m7 m15 m16:UInt32):UInt32 :=
 u32 (iadd (n32 (u32 (iadd (n32 (u32 (iadd (n32 (u32 (xorI .u32 (n32 (u32 (xorI .u32 (n32 (tn m2 (u32 17))) (n32 (tn m2 (u32 19)))))) (n32 (u32 (shrI .u32 (n32 m2) (n64 (u64 10)))))))) (n32 m7)))) (n32 (u32 (xorI .u32 (n32 (u32 (xorI .u32 (n32 (tn m15 (u32 7))) (n32 (tn m15 (u32 18)))))) (n32 (u32 (shrI .u32 (n32 m15) (n64 (u64 3))))))))))) (n32 m16))
def q8 (b:BB) (i:Nat):UInt8:=b.getD i 0
def q32 (m:List UInt32) (i:Nat):UInt32:=m.getD i 0
def sch (b:BB) (at':Nat):Nat→List UInt32
 | 0=>List.replicate 64 0
 | t+1=>(sch b at' t).set t (if t < 16 then qM8 (q8 b (at'+4*t)) (q8 b (at'+4*t+1)) (q8 b (at'+4*t+2)) (q8 b (at'+4*t+3))
   else mixW (q32 (sch b at' t) (t - 2)) (q32 (sch b at' t) (t - 7)) (q32 (sch b at' t) (t - 15)) (q32 (sch b at' t) (t - 16)))
theorem qfC (b:BB) (at':Nat):∀ t,(sch b at' t).length=64
 | 0=>by simp [sch]
 | t+1=>by rw [sch,List.length_set];exact qfC b at' t
theorem qCC {b c:BB} {x y:Nat} (h:∀ i,i < 64→q8 b (x+i)=q8 c (y+i)):∀ t,sch b x t=sch c y t
 | 0=>rfl
 | t+1=>by
  rw [sch,sch,qCC h t]
  by_cases ht:t < 16
  ·rw [if_pos ht,if_pos ht,h (4*t) (by omega),Nat.add_assoc x,Nat.add_assoc x,Nat.add_assoc x,h (4*t+1) (by omega),h (4*t+2) (by omega),h (4*t+3) (by omega)];rfl
  ·rw [if_neg ht,if_neg ht]
theorem i64n {n:Nat} {a:Int} (h:a=(n:Int)) (hn:n≤9223372036854775807):i64 a=(n:Int):=by rw [h];exact zR (by omega) (by omega)
theorem quY (b:BB) (hb:b.length=64):qk9 (b,())=some (sch b 0 64,()):=by
 unfold qk9
 generalize hf:(fun (x_1:Int×List UInt32×Unit)=>_)=f
 have step:∀ t:Nat,t < 64→f ((t:Int),sch b 0 t,())=some (.nx (((t+1:Nat):Int),sch b 0 (t+1),())):=by
  intro t ht
  subst hf
  have hi:i64 (iadd (t:Int) 1)=((t+1:Nat):Int):=i64n (by show (t:Int)+1=_;omega) (by omega)
  refine (qE (by simp only [go_sem,Int.reduceToNat];omega)).trans ?_
  by_cases h16:t < 16
  ·have e0:i64 (imul 4 (t:Int))=((4*t:Nat):Int):=i64n (by show 4*(t:Int)=_;omega) (by omega)
   have e1:i64 (iadd (i64 (imul 4 (t:Int))) 1)=((4*t+1:Nat):Int):=by rw [e0];exact i64n (by show ((4*t:Nat):Int)+1=_;omega) (by omega)
   have e2:i64 (iadd (i64 (imul 4 (t:Int))) 2)=((4*t+2:Nat):Int):=by rw [e0];exact i64n (by show ((4*t:Nat):Int)+2=_;omega) (by omega)
   have e3:i64 (iadd (i64 (imul 4 (t:Int))) 3)=((4*t+3:Nat):Int):=by rw [e0];exact i64n (by show ((4*t:Nat):Int)+3=_;omega) (by omega)
   refine (qE (by simp only [go_sem,Int.reduceToNat];omega)).trans ?_
   dsimp only
   rw [e1,e2,e3,e0,hi]
   refine (qH (by simp only [go_sem,Int.reduceToNat];omega)).trans ((qH (by simp only [go_sem,Int.reduceToNat];omega)).trans ((qH (by simp only [go_sem,Int.reduceToNat];omega)).trans ((qH (by simp only [go_sem,Int.reduceToNat];omega)).trans ((qH (by simp only [go_sem,Int.reduceToNat];omega)).trans ?_))))
   have hw:=qM7 (q8 b (4*t)) (q8 b (4*t+1)) (q8 b (4*t+2)) (q8 b (4*t+3))
   rw [sch,if_pos h16,Nat.zero_add,← hw]
   rfl
  ·have e15:i64 (isub (t:Int) 15)=((t - 15:Nat):Int):=i64n (by show (t:Int) - 15=_;omega) (by omega)
   have e2:i64 (isub (t:Int) 2)=((t - 2:Nat):Int):=i64n (by show (t:Int) - 2=_;omega) (by omega)
   have e7:i64 (isub (t:Int) 7)=((t - 7:Nat):Int):=i64n (by show (t:Int) - 7=_;omega) (by omega)
   have e16:i64 (isub (t:Int) 16)=((t - 16:Nat):Int):=i64n (by show (t:Int) - 16=_;omega) (by omega)
   refine (qB (by simp only [go_sem,Int.reduceToNat];omega)).trans ?_
   dsimp only
   rw [e15,e2,e7,e16,hi]
   refine (qH (by simp only [go_sem,Int.reduceToNat];omega)).trans ?_
   refine (qH (by simp only [go_sem,Int.reduceToNat];omega)).trans ?_
   rw [r7]
   refine (qF rfl).trans ?_
   rw [r18]
   refine (qF rfl).trans ?_
   rw [r17]
   refine (qF rfl).trans ?_
   rw [r19]
   refine (qF rfl).trans ?_
   refine (qH (by simp only [go_sem,Int.reduceToNat];omega)).trans ?_
   refine (qH (by simp only [go_sem,Int.reduceToNat];omega)).trans ?_
   refine (qH (by simp only [go_sem,Int.reduceToNat];omega)).trans ?_
   rw [sch,if_neg h16]
   rfl
 have hend:∀ m,f (((64:Nat):Int),m,())=some (.ex 0 (((64:Nat):Int),m,())):=by subst hf;intro m;exact qB rfl
 have hloop:loop f (((0:Nat):Int),sch b 0 0,())=some (.ex 0 (((64:Nat):Int),sch b 0 64,())) :=
  (qM (f:=f) (fun t=>((t:Int),sch b 0 t,())) 64 step 0 (Nat.zero_le _)).trans (qU (hend _))
 generalize hs:sch b 0 64=m at hloop
 refine (qX (show loop f _=_ from hloop)).trans ?_
 rfl
abbrev R8:=UInt32×UInt32×UInt32×UInt32×UInt32×UInt32×UInt32×UInt32
def t1D (k m h g f e:UInt32):UInt32 :=
 u32 (iadd (n32 (u32 (iadd (n32 (u32 (iadd (n32 (u32 (iadd (n32 h) (n32 (u32 (xorI .u32 (n32 (u32 (xorI .u32 (n32 (tn e (u32 6))) (n32 (tn e (u32 11)))))) (n32 (tn e (u32 25))))))))) (n32 (u32 (xorI .u32 (n32 (u32 (andI .u32 (n32 e) (n32 f)))) (n32 (u32 (andI .u32 (n32 (u32 (xorI .u32 4294967295 (n32 e)))) (n32 g)))))))))) (n32 k)))) (n32 m))
def t2D (c b a:UInt32):UInt32 :=
 u32 (iadd (n32 (u32 (xorI .u32 (n32 (u32 (xorI .u32 (n32 (tn a (u32 2))) (n32 (tn a (u32 13)))))) (n32 (tn a (u32 22)))))) (n32 (u32 (xorI .u32 (n32 (u32 (xorI .u32 (n32 (u32 (andI .u32 (n32 a) (n32 b)))) (n32 (u32 (andI .u32 (n32 a) (n32 c))))))) (n32 (u32 (andI .u32 (n32 b) (n32 c))))))))
def nxt (k m:UInt32) (s:R8):R8 :=
 (s.2.1,s.2.2.1,s.2.2.2.1,u32 (iadd (n32 s.2.2.2.2.1) (n32 (t1D k m s.1 s.2.1 s.2.2.1 s.2.2.2.1))),s.2.2.2.2.2.1,s.2.2.2.2.2.2.1,s.2.2.2.2.2.2.2,
  u32 (iadd (n32 (t1D k m s.1 s.2.1 s.2.2.1 s.2.2.2.1)) (n32 (t2D s.2.2.2.2.2.1 s.2.2.2.2.2.2.1 s.2.2.2.2.2.2.2))))
def rounds (ms:List UInt32) (s:R8):Nat→R8
 | 0=>s
 | t+1=>nxt (q32 qiU t) (q32 ms t) (rounds ms s t)
def r8L (s:R8):List UInt32:=[s.2.2.2.2.2.2.2,s.2.2.2.2.2.2.1,s.2.2.2.2.2.1,s.2.2.2.2.1,s.2.2.2.1,s.2.2.1,s.2.1,s.1]
def addL (w:List UInt32) (s:R8):List UInt32 :=
  [u32 (iadd (n32 (q32 w 0)) (n32 s.2.2.2.2.2.2.2)),u32 (iadd (n32 (q32 w 1)) (n32 s.2.2.2.2.2.2.1)),u32 (iadd (n32 (q32 w 2)) (n32 s.2.2.2.2.2.1)),u32 (iadd (n32 (q32 w 3)) (n32 s.2.2.2.2.1)),
   u32 (iadd (n32 (q32 w 4)) (n32 s.2.2.2.1)),u32 (iadd (n32 (q32 w 5)) (n32 s.2.2.1)),u32 (iadd (n32 (q32 w 6)) (n32 s.2.1)),u32 (iadd (n32 (q32 w 7)) (n32 s.1))]
def ofL (w:List UInt32):R8:=(q32 w 7,q32 w 6,q32 w 5,q32 w 4,q32 w 3,q32 w 2,q32 w 1,q32 w 0)
def qx5 (w:List UInt32) (b:BB) (at':Nat):List UInt32:=addL w (rounds (sch b at' 64) (ofL w) 64)
theorem eight {α:Type} {w:List α} (h:w.length=8):∃ a b c d e f g i,w=[a,b,c,d,e,f,g,i]:=by
 match w,h with
 | [a,b,c,d,e,f,g,i],_=>exact ⟨a,b,c,d,e,f,g,i,rfl⟩
theorem qnB {b c:BB} {x y:Nat} (h:∀ i,i < 64→q8 b (x+i)=q8 c (y+i)) (w:List UInt32):qx5 w b x=qx5 w c y:=by unfold qx5;rw [qCC h]
theorem qmK (w:List UInt32) (hw:w.length=8) (b:BB) (hb:b.length=64):qiZ (w,b,())=some (qx5 w b 0,0,()):=by
 unfold qiZ
 refine (qB (by simp only [go_sem,Int.reduceToNat];omega)).trans ?_
 dsimp only
 rw [quY b hb]
 have hm:=qfC b 0 64
 unfold qx5
 generalize sch b 0 64=m at hm
 refine (qF rfl).trans ?_
 obtain ⟨w0,w1,w2,w3,w4,w5,w6,w7,rfl⟩:=eight hw
 generalize hf:(fun (x:Int×List UInt32×Unit)=>(_:Option (LS (Int×List UInt32×Unit) (List UInt32×Int×Unit))))=f
 obtain ⟨s,hs⟩:∃ s,s=ofL [w0,w1,w2,w3,w4,w5,w6,w7]:=⟨_,rfl⟩
 have step:∀ t:Nat,t < 64→f ((t:Int),r8L (rounds m s t),())=some (.nx (((t+1:Nat):Int),r8L (rounds m s (t+1)),())):=by
  intro t ht
  subst hf
  have hi:i64 (iadd (t:Int) 1)=((t+1:Nat):Int):=i64n (by show (t:Int)+1=_;omega) (by omega)
  rw [show rounds m s (t+1)=nxt (q32 qiU t) (q32 m t) (rounds m s t) from rfl]
  generalize rounds m s t=r
  obtain ⟨h,g,f,e,d,c,b,a⟩:=r
  refine (qE (by simp only [go_sem,Int.reduceToNat];omega)).trans ?_
  dsimp only [r8L]
  rw [hi]
  refine (qH (by simp only [go_sem,Int.reduceToNat];omega)).trans ?_
  refine (qH rfl).trans ?_
  refine (qH rfl).trans ?_
  rw [show nth [a,b,c,d,e,f,g,h] (nat 4) (u32 0)=e from rfl,r6]
  refine (qF rfl).trans ?_
  rw [r11]
  refine (qF rfl).trans ?_
  rw [r25]
  refine (qF rfl).trans ?_
  rw [show nth [a,b,c,d,e,f,g,h] (nat 0) (u32 0)=a from rfl,r2]
  refine (qF rfl).trans ?_
  rw [r3]
  refine (qF rfl).trans ?_
  rw [r4]
  refine (qF rfl).trans ?_
  refine (qH rfl).trans ?_
  refine (qH rfl).trans ?_
  refine (qH rfl).trans ?_
  refine (qH (by simp only [go_sem,Int.reduceToNat];omega)).trans ?_
  refine (qH rfl).trans ?_
  refine (qH rfl).trans ?_
  refine (qH rfl).trans ?_
  refine (qH rfl).trans ?_
  refine (qH rfl).trans ?_
  refine (qH rfl).trans ?_
  refine (qH rfl).trans ?_
  refine (qH rfl).trans ?_
  refine (qH rfl).trans ?_
  rfl
 have hend:∀ v,f (((64:Nat):Int),v,())=some (.ex 0 (((64:Nat):Int),v,())):=by subst hf;intro v;exact qB rfl
 have hloop:loop f (((0:Nat):Int),r8L (rounds m s 0),())=some (.ex 0 (((64:Nat):Int),r8L (rounds m s 64),())) :=
  (qM (f:=f) (fun t=>((t:Int),r8L (rounds m s t),())) 64 step 0 (Nat.zero_le _)).trans (qU (hend _))
 have h0:r8L (rounds m s 0)=[w0,w1,w2,w3,w4,w5,w6,w7]:=by rw [hs];rfl
 rw [h0] at hloop
 rw [← hs]
 generalize rounds m s 64=r at hloop
 obtain ⟨h,g,f',e,d,c,b',a⟩:=r
 refine (qX (show loop f (0,[w0,w1,w2,w3,w4,w5,w6,w7],())=_ from hloop)).trans ?_
 refine (qH g62).trans ?_
 refine (qX (qj4 (r := .ex 2 (((8:Nat):Int),addL [w0,w1,w2,w3,w4,w5,w6,w7] (h,g,f',e,d,c,b',a),())) 9 rfl)).trans ?_
 rfl
theorem qjO (w:List UInt32) (hw:w.length=8) (b:BB) (n:Nat) (hb:n+64≤b.length) (hl:b.length≤4611686018427387904):qfU (w,b,(n:Int),qiU,())=some (qx5 w b n,()):=by
 unfold qfU
 refine (qH (by decide)).trans ?_
 generalize hf:(fun (x_1:Int×List UInt32×Unit)=>(_:Option (LS (Int×List UInt32×Unit) (List UInt32×Unit))))=f
 have step:∀ t:Nat,t < 16→f ((t:Int),sch b n t,())=some (.nx (((t+1:Nat):Int),sch b n (t+1),())):=by
  intro t ht
  subst hf
  have hi:i64 (iadd (t:Int) 1)=((t+1:Nat):Int):=i64n (by show (t:Int)+1=_;omega) (by omega)
  have hm:=qfC b n t
  have e4:i64 (imul 4 (t:Int))=((4*t:Nat):Int):=i64n (by show 4*(t:Int)=_;omega) (by omega)
  have e0:i64 (iadd (n:Int) (i64 (imul 4 (t:Int))))=((n+4*t:Nat):Int):=by rw [e4];exact i64n (by show (n:Int)+((4*t:Nat):Int)=_;omega) (by omega)
  have e1:i64 (iadd (i64 (iadd (n:Int) (i64 (imul 4 (t:Int))))) 1)=((n+4*t+1:Nat):Int):=by rw [e0];exact i64n (by show ((n+4*t:Nat):Int)+1=_;omega) (by omega)
  have e2:i64 (iadd (i64 (iadd (n:Int) (i64 (imul 4 (t:Int))))) 2)=((n+4*t+2:Nat):Int):=by rw [e0];exact i64n (by show ((n+4*t:Nat):Int)+2=_;omega) (by omega)
  have e3:i64 (iadd (i64 (iadd (n:Int) (i64 (imul 4 (t:Int))))) 3)=((n+4*t+3:Nat):Int):=by rw [e0];exact i64n (by show ((n+4*t:Nat):Int)+3=_;omega) (by omega)
  refine (qE (by simp only [go_sem,Int.reduceToNat];omega)).trans ?_
  dsimp only
  rw [e1,e2,e3,e0,hi]
  refine (qH (by simp only [go_sem,Int.reduceToNat];omega)).trans ?_
  refine (qH (by simp only [go_sem,Int.reduceToNat];omega)).trans ?_
  refine (qH (by simp only [go_sem,Int.reduceToNat];omega)).trans ?_
  refine (qH (by simp only [go_sem,Int.reduceToNat];omega)).trans ?_
  refine (qH (by simp only [go_sem,Int.reduceToNat];omega)).trans ?_
  rw [sch,if_pos ht]
  rfl
 have hend:∀ v,f (((16:Nat):Int),v,())=some (.ex 0 (((16:Nat):Int),v,())):=by subst hf;intro v;exact qB rfl
 have hloop:loop f (((0:Nat):Int),sch b n 0,())=some (.ex 0 (((16:Nat):Int),sch b n 16,())) :=
  (qM (f:=f) (fun t=>((t:Int),sch b n t,())) 16 step 0 (Nat.zero_le _)).trans (qU (hend _))
 refine (qX (show loop f (0,rep (nat 64) (u32 0),())=_ from hloop)).trans ?_
 clear hloop hend step
 refine (qH g62).trans ?_
 dsimp only
 clear hf f
 generalize hf:(fun (x:Int×List UInt32×Unit)=>(_:Option (LS (Int×List UInt32×Unit) (List UInt32×Unit))))=f
 have step:∀ t:Nat,16≤t→t < 64→f ((t:Int),sch b n t,())=some (.nx (((t+1:Nat):Int),sch b n (t+1),())):=by
  intro t h16 ht
  subst hf
  have hi:i64 (iadd (t:Int) 1)=((t+1:Nat):Int):=i64n (by show (t:Int)+1=_;omega) (by omega)
  have hm:=qfC b n t
  have e15:i64 (isub (t:Int) 15)=((t - 15:Nat):Int):=i64n (by show (t:Int) - 15=_;omega) (by omega)
  have e2:i64 (isub (t:Int) 2)=((t - 2:Nat):Int):=i64n (by show (t:Int) - 2=_;omega) (by omega)
  have e7:i64 (isub (t:Int) 7)=((t - 7:Nat):Int):=i64n (by show (t:Int) - 7=_;omega) (by omega)
  have e16:i64 (isub (t:Int) 16)=((t - 16:Nat):Int):=i64n (by show (t:Int) - 16=_;omega) (by omega)
  refine (qE (by simp only [go_sem,Int.reduceToNat];omega)).trans ?_
  dsimp only
  rw [e15,e2,e7,e16,hi]
  refine (qH (by simp only [go_sem,Int.reduceToNat];omega)).trans ?_
  refine (qH (by simp only [go_sem,Int.reduceToNat];omega)).trans ?_
  rw [qeI]
  refine (qF rfl).trans ?_
  rw [qeI]
  refine (qF rfl).trans ?_
  rw [qeI]
  refine (qF rfl).trans ?_
  rw [qeI]
  refine (qF rfl).trans ?_
  refine (qH (by simp only [go_sem,Int.reduceToNat];omega)).trans ?_
  refine (qH (by simp only [go_sem,Int.reduceToNat];omega)).trans ?_
  refine (qH (by simp only [go_sem,Int.reduceToNat];omega)).trans ?_
  rw [sch,if_neg (by omega)]
  rfl
 have hend:∀ v,f (((64:Nat):Int),v,())=some (.ex 2 (((64:Nat):Int),v,())):=by subst hf;intro v;exact qB rfl
 have hloop:loop f (((16:Nat):Int),sch b n 16,())=some (.ex 2 (((64:Nat):Int),sch b n 64,())) :=
  (qM (f:=f) (fun t=>(((16+t:Nat):Int),sch b n (16+t),())) 48 (fun t ht=>step (16+t) (by omega) (by omega)) 0 (Nat.zero_le _)).trans (qU (hend _))
 refine (qX (show loop f (16,sch b n 16,())=_ from hloop)).trans ?_
 clear hloop hend step hf f
 refine (qH g62).trans ?_
 have hm:=qfC b n 64
 unfold qx5
 generalize sch b n 64=m at hm
 obtain ⟨w0,w1,w2,w3,w4,w5,w6,w7,rfl⟩:=eight hw
 refine (qH rfl).trans ((qH rfl).trans ((qH rfl).trans ((qH rfl).trans ((qH rfl).trans ((qH rfl).trans ((qH rfl).trans ((qH rfl).trans ?_)))))))
 dsimp only
 generalize hf:(fun (x_1:UInt32×UInt32×UInt32×UInt32×UInt32×UInt32×UInt32×UInt32×Int×Unit)=>(_:Option (LS (UInt32×UInt32×UInt32×UInt32×UInt32×UInt32×UInt32×UInt32×Int×Unit) (List UInt32×Unit))))=f
 obtain ⟨s,hs⟩:∃ s,s=ofL [w0,w1,w2,w3,w4,w5,w6,w7]:=⟨_,rfl⟩
 let st:R8→Nat→UInt32×UInt32×UInt32×UInt32×UInt32×UInt32×UInt32×UInt32×Int×Unit:=fun r t=>(r.1,r.2.1,r.2.2.1,r.2.2.2.1,r.2.2.2.2.1,r.2.2.2.2.2.1,r.2.2.2.2.2.2.1,r.2.2.2.2.2.2.2,(t:Int),())
 have step:∀ t:Nat,t < 64→f (st (rounds m s t) t)=some (.nx (st (rounds m s (t+1)) (t+1))):=by
  intro t ht
  subst hf
  have hi:i64 (iadd (t:Int) 1)=((t+1:Nat):Int):=i64n (by show (t:Int)+1=_;omega) (by omega)
  have hk:(qiU:List UInt32).length=64:=rfl
  rw [show rounds m s (t+1)=nxt (q32 qiU t) (q32 m t) (rounds m s t) from rfl]
  generalize rounds m s t=r
  obtain ⟨h,g,f,e,d,c,b,a⟩:=r
  dsimp only [st]
  refine (qE (by simp only [go_sem,Int.reduceToNat];omega)).trans ?_
  rw [hi,qeI]
  refine (qF rfl).trans ?_
  rw [qeI]
  refine (qF rfl).trans ?_
  rw [qeI]
  refine (qF rfl).trans ?_
  refine (qH (by simp only [go_sem,Int.reduceToNat];omega)).trans ?_
  refine (qH (by simp only [go_sem,Int.reduceToNat];omega)).trans ?_
  rw [qeI]
  refine (qF rfl).trans ?_
  rw [qeI]
  refine (qF rfl).trans ?_
  rw [qeI]
  refine (qF rfl).trans ?_
  rfl
 have hend:∀ r,f (st r 64)=some (.ex 4 (st r 64)):=by subst hf;intro v;exact qB rfl
 have hloop:loop f (st (rounds m s 0) 0)=some (.ex 4 (st (rounds m s 64) 64)) :=
  (qM (f:=f) (fun t=>st (rounds m s t) t) 64 step 0 (Nat.zero_le _)).trans (qU (hend _))
 rw [show rounds m s 0=s from rfl] at hloop
 rw [← hs]
 generalize rounds m s 64=r at hloop
 obtain ⟨h,g,f',e,d,c,b',a⟩:=r
 rw [hs] at hloop
 refine (qX (show loop f (w7,w6,w5,w4,w3,w2,w1,w0,0,())=_ from hloop)).trans ?_
 refine (qH g62).trans ?_
 refine (qH rfl).trans ((qH rfl).trans ((qH rfl).trans ((qH rfl).trans ((qH rfl).trans ((qH rfl).trans ((qH rfl).trans ((qH rfl).trans ?_)))))))
 rfl
def eat (w:List UInt32) (l:BB):Nat→List UInt32
 | 0=>w
 | i+1=>qx5 (eat w l i) l (64*i)
theorem qaU {w:List UInt32} (hw:w.length=8) (l:BB):∀ i,(eat w l i).length=8
 | 0=>hw
 | _+1=>rfl
theorem qJu (l:BB) (k i:Nat):q8 (l.drop k) i=q8 l (k+i):=by
 unfold q8;rw [List.getD_eq_getElem?_getD,List.getElem?_drop,← List.getD_eq_getElem?_getD]
theorem qNu (l:BB) {k i:Nat} (h:i < k):q8 (l.take k) i=q8 l i:=by
 unfold q8;rw [List.getD_eq_getElem?_getD,List.getElem?_take_of_lt h,← List.getD_eq_getElem?_getD]
theorem qCt (w:List UInt32) (l:BB) (k:Nat):qx5 w ((l.drop k).take 64) 0=qx5 w l k :=
 qnB (fun i hi=>by rw [Nat.zero_add,qNu _ hi,qJu]) w
theorem qDH {l m:BB} (w:List UInt32):∀ {i},(∀ j,j < 64*i→q8 l j=q8 m j)→eat w l i=eat w m i
 | 0,_=>rfl
 | i+1,h=>by
  rw [eat,eat,qDH w fun j hj=>h j (by omega)]
  exact qnB (fun j hj=>h _ (by omega)) _
theorem qKI (w:List UInt32) (l:BB) (i:Nat):∀ j,eat w l (i+j)=eat (eat w l i) (l.drop (64*i)) j
 | 0=>rfl
 | j+1=>by
  rw [← Nat.add_assoc,eat,eat,qKI w l i j]
  exact qnB (fun k _=>by rw [qJu];congr 1;omega) _
abbrev HT:=List UInt32×Int×BB×Unit
def putD (h:HT) (b:BB):HT :=
 (eat h.1 (h.2.2.1++b) ((h.2.2.1++b).length / 64),h.2.1+(b.length:Int),(h.2.2.1++b).drop (64*((h.2.2.1++b).length / 64)),())
theorem cpy2 (r b:BB):cpy (cpy (rep (r.length+b.length) (u8 0)) 0 (ln (rep (r.length+b.length) (u8 0))) r) r.length (r.length+b.length - r.length) b=r++b:=by
 unfold cpy rep ln
 rw [List.length_replicate,List.take_zero,List.nil_append,List.take_of_length_le (show r.length≤r.length+b.length by omega),Nat.zero_add,Nat.min_eq_right (show r.length≤r.length+b.length by omega),List.drop_replicate,
  List.take_left,Nat.add_sub_cancel_left,List.take_of_length_le (Nat.le_refl _),Nat.min_self,List.drop_of_length_le (by simp),List.append_nil]
theorem qKf:qlX ()=some (qiU,()):=rfl
theorem qCy (H:List UInt32) (hH:H.length=8) (N:Int) (r b:BB) (hN:0≤N) (hb:N+(b.length:Int)≤1125899906842624) (hr:r.length≤64) (hm:b.length≤1000000000):qgQ ((H,N,r,()),b,())=some (putD (H,N,r,()) b,()):=by
 unfold qgQ
 have e0:i64 (isub 1125899906842624 N)=1125899906842624 - N:=zR (by show -9223372036854775808≤(1125899906842624:Int) - N;omega) (by show (1125899906842624:Int) - N≤9223372036854775807;omega)
 dsimp only
 rw [e0]
 refine (qB (by simp only [go_sem,Int.reduceToNat];omega)).trans ?_
 have e1:i64 (iadd (len r) (len b))=((r.length+b.length:Nat):Int):=i64n (by show (r.length:Int)+(b.length:Int)=_;omega) (by omega)
 have e2:i64 (iadd N (len b))=N+(b.length:Int):=zR (by show -9223372036854775808≤N+(b.length:Int);omega) (by show N+(b.length:Int)≤9223372036854775807;omega)
 rw [e1,e2]
 refine (qH (by simp only [go_sem,Int.reduceToNat];omega)).trans ?_
 have hlen:len (cpy (rep (nat ((r.length+b.length:Nat):Int)) (u8 0)) 0 (ln (rep (nat ((r.length+b.length:Nat):Int)) (u8 0))) r)=((r.length+b.length:Nat):Int):=by
  unfold len cpy rep ln nat
  simp only [Int.toNat_natCast,List.length_replicate,List.take_zero,List.nil_append,List.length_append,List.length_take,List.length_drop]
  omega
 rw [hlen]
 refine (qH (by simp only [go_sem,Int.reduceToNat];omega)).trans ?_
 rw [show nat (len r)=r.length from qP,show nat ((r.length+b.length:Nat):Int)=r.length+b.length from qP,show nsub (r.length+b.length) r.length=r.length+b.length - r.length from rfl,cpy2]
 generalize hf:(fun (x:BB×(List UInt32×Int×BB×Unit)×Unit)=>(_:Option (LS (BB×(List UInt32×Int×BB×Unit)×Unit) ((List UInt32×Int×BB×Unit)×Unit))))=f
 generalize hl:r++b=l
 have hll:l.length=r.length+b.length:=by rw [← hl,List.length_append]
 have step:∀ i,i < l.length / 64→f (l.drop (64*i),(eat H l i,N+(b.length:Int),r,()),())=some (.nx (l.drop (64*(i+1)),(eat H l (i+1),N+(b.length:Int),r,()),())):=by
  intro i hi
  subst hf
  have hd:(l.drop (64*i)).length=l.length - 64*i:=List.length_drop
  have hlen:len (l.drop (64*i))=((l.length - 64*i:Nat):Int):=by unfold len;rw [hd]
  dsimp only
  rw [hlen]
  refine (qE (by simp only [go_sem,Int.reduceToNat];omega)).trans ?_
  refine (qH (by simp only [go_sem,Int.reduceToNat];omega)).trans ?_
  rw [show cut (l.drop (64*i)) (nat 0) (nsub (nat 64) (nat 0))=(l.drop (64*i)).take 64 from rfl,qmK _ (qaU hH l i) _ (by rw [List.length_take,hd];omega)]
  refine (qF rfl).trans ?_
  refine (qH (by simp only [go_sem,Int.reduceToNat];omega)).trans ?_
  rw [qCt]
  have hc:cut (l.drop (64*i)) (nat 64) (nsub (nat ((l.length - 64*i:Nat):Int)) (nat 64))=l.drop (64*(i+1)):=by
   unfold cut
   rw [show nat 64=64 from rfl,qP,List.drop_drop,List.take_of_length_le (by rw [List.length_drop];show _≤l.length - 64*i - 64;omega)]
   congr 1
  rw [hc];rfl
 have hend:f (l.drop (64*(l.length / 64)),(eat H l (l.length / 64),N+(b.length:Int),r,()),())=some (.ex 0 (l.drop (64*(l.length / 64)),(eat H l (l.length / 64),N+(b.length:Int),r,()),())):=by
  subst hf
  have hlen:len (l.drop (64*(l.length / 64)))=((l.length - 64*(l.length / 64):Nat):Int):=by unfold len;rw [List.length_drop]
  dsimp only
  rw [hlen]
  exact qB (by simp only [go_sem,Int.reduceToNat];omega)
 have hloop:=(qM (f:=f) (fun i=>(l.drop (64*i),(eat H l i,N+(b.length:Int),r,()),())) (l.length / 64) step 0 (Nat.zero_le _)).trans (qU hend)
 refine (qX (show loop f (l,(H,N+(b.length:Int),r,()),())=_ from hloop)).trans ?_
 refine (qH g62).trans ?_
 subst hl;rfl
theorem qyO (H:List UInt32) (hH:H.length=8) (N:Int) (r b:BB) (hN:0≤N) (hb:N+(b.length:Int)≤1125899906842624) (hr:r.length≤64) (hm:b.length≤1000000000):qjQ ((H,N,r,()),b,())=some (putD (H,N,r,()) b,()):=by
 unfold qjQ
 have e0:i64 (isub 1125899906842624 N)=1125899906842624 - N:=zR (by show -9223372036854775808≤(1125899906842624:Int) - N;omega) (by show (1125899906842624:Int) - N≤9223372036854775807;omega)
 dsimp only
 rw [e0]
 refine (qB (by simp only [go_sem,Int.reduceToNat];omega)).trans ?_
 refine (qH (by simp only [go_sem,Int.reduceToNat];omega)).trans ?_
 rw [show app (none' UInt8) r=r from rfl]
 refine (qH (by simp only [go_sem,Int.reduceToNat];omega)).trans ?_
 rw [qKf]
 refine (qF rfl).trans ?_
 generalize hf:(fun (x_1:Int×(List UInt32×Int×BB×Unit)×Unit)=>(_:Option (LS (Int×(List UInt32×Int×BB×Unit)×Unit) ((List UInt32×Int×BB×Unit)×Unit))))=f
 rw [show app r b=r++b from rfl] at hf ⊢
 generalize hl:r++b=l at hf ⊢
 have hll:l.length=r.length+b.length:=by rw [← hl,List.length_append]
 have step:∀ i:Nat,i < l.length / 64→f (((64*i:Nat):Int),(eat H l i,N,r,()),())=some (.nx (((64*(i+1):Nat):Int),(eat H l (i+1),N,r,()),())):=by
  intro i hi
  subst hf
  have e:i64 (isub (len l) ((64*i:Nat):Int))=((l.length - 64*i:Nat):Int):=i64n (by show (l.length:Int) - _=_;omega) (by omega)
  have e':i64 (iadd ((64*i:Nat):Int) 64)=((64*(i+1):Nat):Int):=i64n (by show ((64*i:Nat):Int)+64=_;omega) (by omega)
  dsimp only
  rw [e,e']
  refine (qE (by simp only [go_sem,Int.reduceToNat];omega)).trans ?_
  rw [qjO _ (qaU hH l i) l (64*i) (by omega) (by omega)]
  rfl
 have hend:f (((64*(l.length / 64):Nat):Int),(eat H l (l.length / 64),N,r,()),())=some (.ex 0 (((64*(l.length / 64):Nat):Int),(eat H l (l.length / 64),N,r,()),())):=by
  subst hf
  have e:i64 (isub (len l) ((64*(l.length / 64):Nat):Int))=((l.length - 64*(l.length / 64):Nat):Int):=i64n (by show (l.length:Int) - _=_;omega) (by omega)
  dsimp only
  rw [e]
  exact qB (by simp only [go_sem,Int.reduceToNat];omega)
 have hloop:=(qM (f:=f) (fun i=>(((64*i:Nat):Int),(eat H l i,N,r,()),())) (l.length / 64) step 0 (Nat.zero_le _)).trans (qU hend)
 refine (qX (show loop f (0,(H,N,r,()),())=_ from hloop)).trans ?_
 refine (qH g62).trans ?_
 refine (qH (by simp only [go_sem,Int.reduceToNat];omega)).trans ?_
 have e2:i64 (iadd N (len b))=N+(b.length:Int):=zR (by show -9223372036854775808≤N+(b.length:Int);omega) (by show N+(b.length:Int)≤9223372036854775807;omega)
 have hc:cut l (nat ((64*(l.length / 64):Nat):Int)) (nsub (nat (len l)) (nat ((64*(l.length / 64):Nat):Int)))=l.drop (64*(l.length / 64)):=by
  unfold cut
  rw [qP,show nat (len l)=l.length from qP,List.take_of_length_le (by rw [List.length_drop];exact Nat.le_refl _)]
 dsimp only
 rw [e2,hc]
 subst hl;rfl
def zs (r:Nat):Nat:=(119 - r) % 64
def lenB (n:Int) (i:Nat):BB:=(List.range i).map fun j=>u8 (shrI .i64 (i64 (imul 8 n)) ((56 - 8*j:Nat):Int))
def padD (n:Int):BB:=[u8 128]++List.replicate (zs (n.toNat % 64)) (u8 0)++lenB n 8
def wb (x:UInt32):BB:=[u8 (n32 (u32 (shrI .u32 (n32 x) (n64 (u64 24))))),u8 (n32 (u32 (shrI .u32 (n32 x) (n64 (u64 16))))),u8 (n32 (u32 (shrI .u32 (n32 x) (n64 (u64 8))))),u8 (n32 x)]
theorem qCo {a b:Int} (h:a % 256=b % 256):u8 a=u8 b:=by
 show UInt8.ofNat (a % 2 ^ 8).toNat=UInt8.ofNat (b % 2 ^ 8).toNat
 rw [show a % 2 ^ 8=b % 2 ^ 8 from h]
theorem qOT (x:UInt32):wb x=[u8 (n32 (u32 (idiv (n32 x) (n32 (u32 16777216))))),u8 (n32 (u32 (imod (n32 (u32 (idiv (n32 x) (n32 (u32 65536))))) (n32 (u32 256))))),u8 (n32 (u32 (imod (n32 (u32 (idiv (n32 x) (n32 (u32 256))))) (n32 (u32 256))))),u8 (n32 (u32 (imod (n32 x) (n32 (u32 256)))))]:=by
 have hx:=x.toNat_lt
 obtain ⟨v,hv⟩:∃ v,v=x.toNat:=⟨_,rfl⟩
 rw [← hv] at hx
 have e:n32 x=(v:Int):=by rw [hv];rfl
 have k1:n32 (u32 16777216)=16777216:=wI (by decide)
 have k2:n32 (u32 65536)=65536:=wI (by decide)
 have k3:n32 (u32 256)=256:=wI (by decide)
 have a1:shrI .u32 (v:Int) (n64 (u64 24))=((v / 16777216:Nat):Int):=by show Int.fdiv (v:Int) (2 ^ 24)=_;rw [Int.fdiv_eq_ediv_of_nonneg _ (by decide)];omega
 have a2:shrI .u32 (v:Int) (n64 (u64 16))=((v / 65536:Nat):Int):=by show Int.fdiv (v:Int) (2 ^ 16)=_;rw [Int.fdiv_eq_ediv_of_nonneg _ (by decide)];omega
 have a3:shrI .u32 (v:Int) (n64 (u64 8))=((v / 256:Nat):Int):=by show Int.fdiv (v:Int) (2 ^ 8)=_;rw [Int.fdiv_eq_ediv_of_nonneg _ (by decide)];omega
 have b1:idiv (v:Int) 16777216=((v / 16777216:Nat):Int):=by rw [g31 (by omega)];omega
 have b2:idiv (v:Int) 65536=((v / 65536:Nat):Int):=by rw [g31 (by omega)];omega
 have b3:idiv (v:Int) 256=((v / 256:Nat):Int):=by rw [g31 (by omega)];omega
 have c:∀ m:Nat,m < 4294967296→n32 (u32 (m:Int))=(m:Int):=fun m hm=>wI (by omega)
 have d:∀ m:Nat,imod (m:Int) 256=((m % 256:Nat):Int):=fun m=>by rw [g32 (by omega)];omega
 unfold wb
 rw [e,k1,k2,k3,a1,a2,a3,b1,b2,b3,c _ (by omega),c _ (by omega),c _ (by omega),d,d,d,c _ (by omega),c _ (by omega),c _ (by omega)]
 congr 1
 congr 1
 ·exact qCo (by omega)
 ·congr 1
  ·exact qCo (by omega)
  ·congr 1
   exact qCo (by omega)
def outW (w:List UInt32) (i:Nat):BB:=(List.range i).flatMap fun j=>wb (q32 w j)
theorem qhG (w:List UInt32):∀ i,(outW w i).length=4*i
 | 0=>rfl
 | i+1=>by unfold outW;rw [List.range_succ,List.flatMap_append,List.length_append];have:=qhG w i;unfold outW at this;rw [this];simp [wb];omega
theorem qCX (w:List UInt32) (i:Nat):outW w (i+1)=outW w i++wb (q32 w i):=by unfold outW;rw [List.range_succ,List.flatMap_append];simp
theorem qDd (n:Int) (i:Nat):lenB n (i+1)=lenB n i++[u8 (shrI .i64 (i64 (imul 8 n)) ((56 - 8*i:Nat):Int))]:=by unfold lenB;rw [List.range_succ,List.map_append];rfl
theorem qaO (n:Int) (i:Nat):(lenB n i).length=i:=by simp [lenB]
def sumD (h:HT):BB:=outW (eat h.1 (h.2.2.1++padD h.2.1) ((h.2.2.1++padD h.2.1).length / 64)) 8
theorem qAJ (l:BB) (k:Nat):l++List.replicate k (u8 0)++[u8 0]=l++List.replicate (k+1) (u8 0):=by rw [List.append_assoc,← List.replicate_succ']
theorem qCx (H:List UInt32) (hH:H.length=8) (N:Int) (r:BB) (hN:0≤N) (hN2:N≤1125899906842624) (hr:r.length=N.toNat % 64):qnD ((H,N,r,()),())=some (sumD (H,N,r,()),()):=by
 unfold qnD
 dsimp only
 have hz:rep (nat 0) (u8 0)=[]:=rfl
 rw [hz,show app ([]:BB) r=r from rfl,show app r [u8 128]=r++[u8 128] from rfl]
 refine (qH (by decide)).trans ?_
 refine (qH (by simp only [go_sem,Int.reduceToNat];omega)).trans ?_
 refine (qH (by simp only [go_sem,Int.reduceToNat];simp;omega)).trans ?_
 generalize hf:(fun (x:BB×Unit)=>(_:Option (LS (BB×Unit) (BB×Unit))))=f
 have hr64:r.length < 64:=by omega
 have hzs:zs (N.toNat % 64) < 64:=by unfold zs;omega
 have step:∀ i:Nat,i < zs (N.toNat % 64)→f (r++[u8 128]++List.replicate i (u8 0),())=some (.nx (r++[u8 128]++List.replicate (i+1) (u8 0),())):=by
  intro i hi
  subst hf
  have hl:(r++[u8 128]++List.replicate i (u8 0)).length=r.length+1+i:=by simp;omega
  have hne:¬ (((r++[u8 128]++List.replicate i (u8 0)).length:Int) % 64=56):=by rw [hl];unfold zs at hi;omega
  refine (qE (by simp (disch:=omega) only [go_sem,Int.reduceToNat];omega)).trans ?_
  refine (qH (by simp only [go_sem,Int.reduceToNat];simp;omega)).trans ?_
  show some (LS.nx (r++[u8 128]++List.replicate i (u8 0)++[u8 0],()))=_
  rw [qAJ]
 have hend:f (r++[u8 128]++List.replicate (zs (N.toNat % 64)) (u8 0),())=some (.ex 0 (r++[u8 128]++List.replicate (zs (N.toNat % 64)) (u8 0),())):=by
  subst hf
  have hl:(r++[u8 128]++List.replicate (zs (N.toNat % 64)) (u8 0)).length=r.length+1+zs (N.toNat % 64):=by simp;omega
  have he:(((r++[u8 128]++List.replicate (zs (N.toNat % 64)) (u8 0)).length:Int) % 64=56):=by rw [hl];unfold zs;omega
  exact qB (by simp (disch:=omega) only [go_sem,Int.reduceToNat];omega)
 have hloop:=(qM (f:=f) (fun i=>(r++[u8 128]++List.replicate i (u8 0),())) (zs (N.toNat % 64)) step 0 (Nat.zero_le _)).trans (qU hend)
 rw [List.replicate_zero,List.append_nil] at hloop
 refine (qX hloop).trans ?_
 clear hloop hend step
 refine (qH g62).trans ?_
 clear hf f
 dsimp only
 generalize hL:r++[u8 128]++List.replicate (zs (N.toNat % 64)) (u8 0)=L
 have hLl:L.length=r.length+1+zs (N.toNat % 64):=by rw [← hL];simp;omega
 generalize hf:(fun (x_1:BB×Int×Unit)=>(_:Option (LS (BB×Int×Unit) (BB×Unit))))=f
 have step:∀ i:Nat,i < 8→f (L++lenB N i,56 - 8*(i:Int),())=some (.nx (L++lenB N (i+1),56 - 8*((i+1:Nat):Int),())):=by
  intro i hi
  subst hf
  have hl:(L++lenB N i).length=L.length+i:=by rw [List.length_append,qaO]
  refine (qE (by simp only [go_sem,Int.reduceToNat];omega)).trans ?_
  refine (qH (by simp only [go_sem,Int.reduceToNat];omega)).trans ?_
  refine (qH (by simp only [go_sem,Int.reduceToNat];simp [qaO];omega)).trans ?_
  dsimp only
  rw [show app (L++lenB N i) [u8 (shrI .i64 (i64 (imul 8 N)) (56 - 8*(i:Int)))]=L++lenB N (i+1) by rw [qDd,show ((56 - 8*i:Nat):Int)=56 - 8*(i:Int) by omega];exact List.append_assoc _ _ _,
   show i64 (isub (56 - 8*(i:Int)) 8)=56 - 8*((i+1:Nat):Int) by rw [zR (by show -9223372036854775808≤56 - 8*(i:Int) - 8;omega) (by show 56 - 8*(i:Int) - 8≤9223372036854775807;omega)];show 56 - 8*(i:Int) - 8=_;omega]
 have hend:f (L++lenB N 8,56 - 8*((8:Nat):Int),())=some (.ex 2 (L++lenB N 8,56 - 8*((8:Nat):Int),())):=by subst hf;exact qB (show le 0 (56 - 8*((8:Nat):Int))=false from rfl)
 have hloop:=(qM (f:=f) (fun i=>(L++lenB N i,56 - 8*(i:Int),())) 8 step 0 (Nat.zero_le _)).trans (qU hend)
 have h0:(L++lenB N 0,56 - 8*((0:Nat):Int),())=(L,56,()):=by simp [lenB]
 rw [h0] at hloop
 refine (qX hloop).trans ?_
 clear hloop hend step
 refine (qH g62).trans ?_
 clear hf f
 dsimp only
 have hT:L++lenB N 8=r++padD N:=by rw [← hL];unfold padD;simp
 rw [hT]
 have hTl:(r++padD N).length=r.length+1+zs (N.toNat % 64)+8:=by rw [← hT,List.length_append,qaO,hLl]
 have hT64:(r++padD N).length % 64=0:=by rw [hTl];unfold zs;omega
 generalize hTT:r++padD N=T at hTl hT64
 generalize hf:(fun (x:BB×List UInt32×Unit)=>(_:Option (LS (BB×List UInt32×Unit) (BB×Unit))))=f
 have step:∀ i,i < T.length / 64→f (T.drop (64*i),eat H T i,())=some (.nx (T.drop (64*(i+1)),eat H T (i+1),())):=by
  intro i hi
  subst hf
  have hd:(T.drop (64*i)).length=T.length - 64*i:=List.length_drop
  have hlen:len (T.drop (64*i))=((T.length - 64*i:Nat):Int):=by unfold len;rw [hd]
  dsimp only
  rw [hlen]
  refine (qE (by simp only [go_sem,Int.reduceToNat];omega)).trans ?_
  refine (qH (by simp only [go_sem,Int.reduceToNat];omega)).trans ?_
  rw [show cut (T.drop (64*i)) (nat 0) (nsub (nat 64) (nat 0))=(T.drop (64*i)).take 64 from rfl,qmK _ (qaU hH T i) _ (by rw [List.length_take,hd];omega)]
  refine (qF rfl).trans ?_
  refine (qH (by simp only [go_sem,Int.reduceToNat];omega)).trans ?_
  rw [qCt]
  have hc:cut (T.drop (64*i)) (nat 64) (nsub (nat ((T.length - 64*i:Nat):Int)) (nat 64))=T.drop (64*(i+1)):=by
   unfold cut
   rw [show nat 64=64 from rfl,qP,List.drop_drop,List.take_of_length_le (by rw [List.length_drop];show _≤T.length - 64*i - 64;omega)]
   congr 1
  rw [hc];rfl
 have hend:f (T.drop (64*(T.length / 64)),eat H T (T.length / 64),())=some (.ex 4 (T.drop (64*(T.length / 64)),eat H T (T.length / 64),())):=by
  subst hf
  have hlen:len (T.drop (64*(T.length / 64)))=((T.length - 64*(T.length / 64):Nat):Int):=by unfold len;rw [List.length_drop]
  dsimp only
  rw [hlen]
  exact qB (by simp only [go_sem,Int.reduceToNat];omega)
 have hloop:=(qM (f:=f) (fun i=>(T.drop (64*i),eat H T i,())) (T.length / 64) step 0 (Nat.zero_le _)).trans (qU hend)
 refine (qX (show loop f (T,H,())=_ from hloop)).trans ?_
 clear hloop hend step
 refine (qH g62).trans ?_
 clear hf f
 refine (qH (by decide)).trans ?_
 dsimp only
 unfold sumD
 dsimp only
 rw [hTT]
 have hw:=qaU hH T (T.length / 64)
 generalize eat H T (T.length / 64)=w at hw
 generalize hf:(fun (x:BB×Int×Unit)=>(_:Option (LS (BB×Int×Unit) (BB×Unit))))=f
 have step:∀ i:Nat,i < 8→f (outW w i,(i:Int),())=some (.nx (outW w (i+1),((i+1:Nat):Int),())):=by
  intro i hi
  subst hf
  have hl:=qhG w i
  have hi':i64 (iadd (i:Int) 1)=((i+1:Nat):Int):=i64n (by show (i:Int)+1=_;omega) (by omega)
  refine (qE (by simp only [go_sem,Int.reduceToNat];omega)).trans ?_
  refine (qH (by simp only [go_sem,Int.reduceToNat];omega)).trans ?_
  refine (qH (by simp only [go_sem,Int.reduceToNat];simp;omega)).trans ?_
  dsimp only
  rw [hi',qCX];rfl
 have hend:∀ v,f (v,((8:Nat):Int),())=some (.ex 6 (v,((8:Nat):Int),())):=by subst hf;intro v;exact qB rfl
 have hloop:=(qM (f:=f) (fun i=>(outW w i,(i:Int),())) 8 step 0 (Nat.zero_le _)).trans (qU (hend _))
 refine (qX (show loop f ([],0,())=_ from hloop)).trans ?_
 exact qH g62
theorem qjZ {a:Int} (h:0≤a∧a < 18446744073709551616):n64 (u64 a)=a:=by
 show (((BitVec.ofNat 64 ((a % 2 ^ 64).toNat)).toNat:Nat):Int)=a
 rw [BitVec.toNat_ofNat];omega
theorem qyP (N:Int) (hN:0≤N) (hN2:N≤1125899906842624):qo5 (N,())=some (padD N,()):=by
 unfold qo5
 dsimp only
 have hzs:zs (N.toNat % 64) < 64:=by unfold zs;omega
 generalize hf:(fun (x_1:BB×Unit)=>(_:Option (LS (BB×Unit) (BB×Unit))))=f
 have step:∀ i:Nat,i < zs (N.toNat % 64)→f ([u8 128]++List.replicate i (u8 0),())=some (.nx ([u8 128]++List.replicate (i+1) (u8 0),())):=by
  intro i hi
  subst hf
  have hl:([u8 128]++List.replicate i (u8 0)).length=1+i:=by simp;omega
  have e:i64 (iadd (i64 (iadd N (len ([u8 128]++List.replicate i (u8 0))))) 8)=N+((1+i:Nat):Int)+8:=by
   have e1:i64 (iadd N (len ([u8 128]++List.replicate i (u8 0))))=N+((1+i:Nat):Int):=by
    show i64 (N+(([u8 128]++List.replicate i (u8 0)).length:Int))=_
    rw [hl];exact zR (by omega) (by omega)
   rw [e1];exact zR (by show -9223372036854775808≤N+((1+i:Nat):Int)+8;omega) (by show N+((1+i:Nat):Int)+8≤9223372036854775807;omega)
  dsimp only
  rw [e]
  have hne:¬ ((N+((1+i:Nat):Int)+8) % 64=0):=by unfold zs at hi;omega
  refine (qE (by simp (disch:=omega) only [go_sem,Int.reduceToNat];omega)).trans ?_
  refine (qH (by simp only [go_sem,Int.reduceToNat];simp;omega)).trans ?_
  show some (LS.nx ([u8 128]++List.replicate i (u8 0)++[u8 0],()))=_
  rw [qAJ]
 have hend:f ([u8 128]++List.replicate (zs (N.toNat % 64)) (u8 0),())=some (.ex 0 ([u8 128]++List.replicate (zs (N.toNat % 64)) (u8 0),())):=by
  subst hf
  obtain ⟨i,hi⟩:∃ i,i=zs (N.toNat % 64):=⟨_,rfl⟩
  rw [← hi]
  have hl:([u8 128]++List.replicate i (u8 0)).length=1+i:=by simp;omega
  have e:i64 (iadd (i64 (iadd N (len ([u8 128]++List.replicate i (u8 0))))) 8)=N+((1+i:Nat):Int)+8:=by
   have e1:i64 (iadd N (len ([u8 128]++List.replicate i (u8 0))))=N+((1+i:Nat):Int):=by
    show i64 (N+(([u8 128]++List.replicate i (u8 0)).length:Int))=_
    rw [hl];exact zR (by omega) (by omega)
   rw [e1];exact zR (by show -9223372036854775808≤N+((1+i:Nat):Int)+8;omega) (by show N+((1+i:Nat):Int)+8≤9223372036854775807;omega)
  dsimp only
  rw [e]
  have hne:((N+((1+i:Nat):Int)+8) % 64=0):=by unfold zs at hi;omega
  exact qB (by simp (disch:=omega) only [go_sem,Int.reduceToNat];omega)
 have hloop:=(qM (f:=f) (fun i=>([u8 128]++List.replicate i (u8 0),())) (zs (N.toNat % 64)) step 0 (Nat.zero_le _)).trans (qU hend)
 rw [List.replicate_zero,List.append_nil] at hloop
 refine (qX hloop).trans ?_
 clear hloop hend step
 refine (qH g62).trans ?_
 clear hf f
 dsimp only
 generalize hL:[u8 128]++List.replicate (zs (N.toNat % 64)) (u8 0)=L
 have hLl:L.length=1+zs (N.toNat % 64):=by rw [← hL];simp;omega
 generalize hf:(fun (x_1:BB×Int×Unit)=>(_:Option (LS (BB×Int×Unit) (BB×Unit))))=f
 have step:∀ i:Nat,i < 8→f (L++lenB N i,56 - 8*(i:Int),())=some (.nx (L++lenB N (i+1),56 - 8*((i+1:Nat):Int),())):=by
  intro i hi
  subst hf
  have hl:(L++lenB N i).length=L.length+i:=by rw [List.length_append,qaO]
  refine (qE (by simp only [go_sem,Int.reduceToNat];omega)).trans ?_
  refine (qH (by simp only [go_sem,Int.reduceToNat];simp [qaO];omega)).trans ?_
  dsimp only
  rw [qjZ (a:=56 - 8*(i:Int)) (by omega),show app (L++lenB N i) [u8 (shrI .i64 (i64 (imul 8 N)) (56 - 8*(i:Int)))]=L++lenB N (i+1) by rw [qDd,show ((56 - 8*i:Nat):Int)=56 - 8*(i:Int) by omega];exact List.append_assoc _ _ _,
   show i64 (isub (56 - 8*(i:Int)) 8)=56 - 8*((i+1:Nat):Int) by rw [zR (by show -9223372036854775808≤56 - 8*(i:Int) - 8;omega) (by show 56 - 8*(i:Int) - 8≤9223372036854775807;omega)];show 56 - 8*(i:Int) - 8=_;omega]
 have hend:f (L++lenB N 8,56 - 8*((8:Nat):Int),())=some (.ex 2 (L++lenB N 8,56 - 8*((8:Nat):Int),())):=by subst hf;exact qB (show le 0 (56 - 8*((8:Nat):Int))=false from rfl)
 have hloop:=(qM (f:=f) (fun i=>(L++lenB N i,56 - 8*(i:Int),())) 8 step 0 (Nat.zero_le _)).trans (qU hend)
 have h0:(L++lenB N 0,56 - 8*((0:Nat):Int),())=(L,56,()):=by simp [lenB]
 rw [h0] at hloop
 refine (qX hloop).trans ?_
 refine (qH g62).trans ?_
 dsimp only
 rw [← hL];rfl
theorem qE8 (N:Int):(padD N).length=9+zs (N.toNat % 64):=by unfold padD;simp [qaO];omega
theorem qyN (H:List UInt32) (hH:H.length=8) (N:Int) (r:BB) (hN:0≤N) (hN2:N≤1125899906842624) (hr:r.length=N.toNat % 64):qjP ((H,N,r,()),())=some (sumD (H,N,r,()),()):=by
 unfold qjP
 dsimp only
 rw [show app (none' UInt8) r=r from rfl]
 refine (qH (by simp only [go_sem,Int.reduceToNat];omega)).trans ?_
 rw [qyP N hN hN2]
 refine (qF rfl).trans ?_
 have hp:=qE8 N
 have hzs:zs (N.toNat % 64) < 64:=by unfold zs;omega
 refine (qH (by simp only [go_sem,Int.reduceToNat];omega)).trans ?_
 rw [qKf]
 refine (qF rfl).trans ?_
 dsimp only
 unfold sumD
 dsimp only
 rw [show app r (padD N)=r++padD N from rfl]
 have hTl:(r++padD N).length=r.length+1+zs (N.toNat % 64)+8:=by rw [List.length_append,hp];omega
 have hT64:(r++padD N).length % 64=0:=by rw [hTl];unfold zs;omega
 generalize hTT:r++padD N=T at hTl hT64
 generalize hf:(fun (x_1:Int×List UInt32×Unit)=>(_:Option (LS (Int×List UInt32×Unit) (BB×Unit))))=f
 have step:∀ i:Nat,i < T.length / 64→f (((64*i:Nat):Int),eat H T i,())=some (.nx (((64*(i+1):Nat):Int),eat H T (i+1),())):=by
  intro i hi
  subst hf
  have e':i64 (iadd ((64*i:Nat):Int) 64)=((64*(i+1):Nat):Int):=i64n (by show ((64*i:Nat):Int)+64=_;omega) (by omega)
  dsimp only
  rw [e']
  refine (qE (by simp only [go_sem,Int.reduceToNat];omega)).trans ?_
  rw [qjO _ (qaU hH T i) T (64*i) (by omega) (by omega)]
  rfl
 have hend:f (((64*(T.length / 64):Nat):Int),eat H T (T.length / 64),())=some (.ex 0 (((64*(T.length / 64):Nat):Int),eat H T (T.length / 64),())):=by
  subst hf
  exact qB (by simp only [go_sem,Int.reduceToNat];omega)
 have hloop:=(qM (f:=f) (fun i=>(((64*i:Nat):Int),eat H T i,())) (T.length / 64) step 0 (Nat.zero_le _)).trans (qU hend)
 refine (qX (show loop f (0,H,())=_ from hloop)).trans ?_
 clear hloop hend step
 refine (qH g62).trans ?_
 clear hf f
 dsimp only
 have hw:=qaU hH T (T.length / 64)
 generalize eat H T (T.length / 64)=w at hw
 generalize hf:(fun (x:BB×Int×Unit)=>(_:Option (LS (BB×Int×Unit) (BB×Unit))))=f
 have step:∀ i:Nat,i < 8→f (outW w i,(i:Int),())=some (.nx (outW w (i+1),((i+1:Nat):Int),())):=by
  intro i hi
  subst hf
  have hl:=qhG w i
  have hi':i64 (iadd (i:Int) 1)=((i+1:Nat):Int):=i64n (by show (i:Int)+1=_;omega) (by omega)
  refine (qE (by simp only [go_sem,Int.reduceToNat];omega)).trans ?_
  refine (qH (by simp only [go_sem,Int.reduceToNat];omega)).trans ?_
  refine (qH (by simp only [go_sem,Int.reduceToNat];omega)).trans ?_
  refine (qH (by simp only [go_sem,Int.reduceToNat];omega)).trans ?_
  refine (qH (by simp only [go_sem,Int.reduceToNat];omega)).trans ?_
  refine (qH (by simp only [go_sem,Int.reduceToNat];simp;omega)).trans ?_
  dsimp only
  rw [hi',qCX,qOT];rfl
 have hend:∀ v,f (v,((8:Nat):Int),())=some (.ex 2 (v,((8:Nat):Int),())):=by subst hf;intro v;exact qB rfl
 have hloop:=(qM (f:=f) (fun i=>(outW w i,(i:Int),())) 8 step 0 (Nat.zero_le _)).trans (qU (hend _))
 refine (qX (show loop f (none' UInt8,0,())=_ from hloop)).trans ?_
 exact qH g62
def okH (h:HT):Prop:=h.1.length=8∧0≤h.2.1∧h.2.2.1.length=h.2.1.toNat % 64
theorem qjT {h:HT} (hh:okH h) (b:BB):okH (putD h b):=by
 obtain ⟨h1,h2,h3⟩:=hh
 refine ⟨qaU h1 _ _, ?_, ?_⟩
 ·show 0≤h.2.1+(b.length:Int);omega
 ·show ((h.2.2.1++b).drop (64*((h.2.2.1++b).length / 64))).length=(h.2.1+(b.length:Int)).toNat % 64
  rw [List.length_drop,List.length_append,h3];omega
theorem qNv (h:HT) (x y:BB):putD (putD h x) y=putD h (x++y):=by
 obtain ⟨H,N,r,⟨⟩⟩:=h
 unfold putD
 dsimp only
 generalize hL:r++x=L
 have hM:r++(x++y)=L++y:=by rw [← List.append_assoc,hL]
 rw [hM]
 have hq:64*(L.length / 64)≤L.length:=by omega
 have hd:(L++y).drop (64*(L.length / 64))=L.drop (64*(L.length / 64))++y:=List.drop_append_of_le_length hq
 have hlen:(L.drop (64*(L.length / 64))++y).length=L.length - 64*(L.length / 64)+y.length:=by rw [List.length_append,List.length_drop]
 have hn:(L++y).length / 64=L.length / 64+(L.drop (64*(L.length / 64))++y).length / 64:=by rw [hlen,List.length_append];omega
 have he:eat H (L++y) (L.length / 64)=eat H L (L.length / 64):=by
  refine qDH H fun j hj => ?_
  unfold q8
  rw [List.getD_eq_getElem?_getD,List.getElem?_append_left (by omega),← List.getD_eq_getElem?_getD]
 refine Prod.ext ?_ (Prod.ext ?_ (Prod.ext ?_ rfl))
 ·dsimp only;rw [hn,qKI,hd,he]
 ·dsimp only;rw [List.length_append];omega
 ·dsimp only;rw [hn,← hd,List.drop_drop];congr 1;omega
theorem qEJ (h:HT):(sumD h).length=32:=by unfold sumD;rw [qhG]
def iv:HT:=([u32 1779033703,u32 3144134277,u32 1013904242,u32 2773480762,u32 1359893119,u32 2600822924,u32 528734635,u32 1541459225],0,[],())
theorem qyX:okH iv:=⟨rfl,Int.le_refl _,rfl⟩
theorem qfA {h:HT} (hh:okH h) (b:BB) (hN:h.2.1≤1000000000) (hb:b.length≤1000000000):qgQ (h,b,())=some (putD h b,()):=by
 obtain ⟨H,N,r,⟨⟩⟩:=h
 obtain ⟨h1,h2,h3⟩:=hh
 have h2':0≤N:=h2
 have h3':r.length=N.toNat % 64:=h3
 have hN':N≤1000000000:=hN
 exact qCy H h1 N r b h2 (by omega) (by omega) hb
theorem qCO {h:HT} (hh:okH h) (b:BB) (hN:h.2.1≤1000000000) (hb:b.length≤1000000000):qjQ (h,b,())=some (putD h b,()):=by
 obtain ⟨H,N,r,⟨⟩⟩:=h
 obtain ⟨h1,h2,h3⟩:=hh
 have h2':0≤N:=h2
 have h3':r.length=N.toNat % 64:=h3
 have hN':N≤1000000000:=hN
 exact qyO H h1 N r b h2 (by omega) (by omega) hb
theorem qq4 {h:HT} (hh:okH h) (hN:h.2.1≤1000000000000):qnD (h,())=some (sumD h,()):=by
 obtain ⟨H,N,r,⟨⟩⟩:=h
 obtain ⟨h1,h2,h3⟩:=hh
 have hN':N≤1000000000000:=hN
 exact qCx H h1 N r h2 (by omega) h3
theorem qCN {h:HT} (hh:okH h) (hN:h.2.1≤1000000000000):qjP (h,())=some (sumD h,()):=by
 obtain ⟨H,N,r,⟨⟩⟩:=h
 obtain ⟨h1,h2,h3⟩:=hh
 have hN':N≤1000000000000:=hN
 exact qyN H h1 N r h2 (by omega) h3
theorem qr7:quZ ()=some (iv,()):=rfl
theorem qyQ:qvP ()=some (iv,()):=rfl
def qtG (b:BB):BB:=sumD (putD iv b)
theorem vA (b:BB):(qtG b).length=32:=qEJ _
theorem qEO (b:BB) (hb:b.length≤1000000000):qGG (b,())=some (qtG b,()):=by
 unfold qGG
 rw [qr7]
 refine (qF rfl).trans ?_
 dsimp only
 rw [qfA qyX b (by decide) hb]
 refine (qF rfl).trans ?_
 dsimp only
 have hn:(putD iv b).2.1=0+(b.length:Int):=rfl
 rw [qq4 (qjT qyX b) (by omega)];rfl
theorem qb9 (b:BB) (hb:b.length≤1000000000):qhE (b,())=some (qtG b,()):=by
 unfold qhE
 rw [qyQ]
 refine (qF rfl).trans ?_
 dsimp only
 rw [qCO qyX b (by decide) hb]
 refine (qF rfl).trans ?_
 dsimp only
 have hn:(putD iv b).2.1=0+(b.length:Int):=rfl
 rw [qCN (qjT qyX b) (by omega)];rfl
theorem qcB {α σ ρ:Type} {f:σ→Option (LS σ ρ)} (l:List α) (mk:Nat→σ) (e:Nat) (r:ρ) (p:α→Prop)
  (hs:∀ i (h:i < l.length),p l[i]→f (mk i)=some (.nx (mk (i+1)))) (hb:∀ i (h:i < l.length),¬ p l[i]→f (mk i)=some (.rt r)) (he:f (mk l.length)=some (.ex e (mk l.length))) :
  ((∀ x∈l,p x)∧loop f (mk 0)=some (.ex e (mk l.length)))∨((¬ ∀ x∈l,p x)∧loop f (mk 0)=some (.rt r)):=by
 by_cases h:∀ x∈l,p x
 ·exact .inl ⟨h,(qM mk l.length (fun i hi=>hs i hi (h _ (List.getElem_mem hi))) 0 (Nat.zero_le _)).trans (qU he)⟩
 ·refine .inr ⟨h, ?_⟩
  have key:∀ (n i:Nat),l.length - i=n→i≤l.length→(∃ j,∃ (hj:j < l.length),i≤j∧¬ p l[j])→loop f (mk i)=some (.rt r):=by
   intro n
   induction n with
   | zero=>rintro i hn hi ⟨j,hj,h1,_⟩;omega
   | succ n ih =>
    rintro i hn hi ⟨j,hj,h1,h2⟩
    have hil:i < l.length:=by omega
    by_cases hp:p l[i]
    ·rw [vF (hs i hil hp)]
     refine ih (i+1) (by omega) (by omega) ⟨j,hj, ?_,h2⟩
     rcases Nat.lt_or_eq_of_le h1 with h | rfl
     ·exact h
     ·exact absurd hp h2
    ·exact qdI (hb i hil hp)
  refine key _ 0 rfl (Nat.zero_le _) ?_
  refine Classical.byContradiction fun hn=>h fun x hx=>Classical.byContradiction fun hpx => ?_
  obtain ⟨j,hj,rfl⟩:=List.getElem_of_mem hx
  exact hn ⟨j,hj,Nat.zero_le _,hpx⟩
def kS (key:BB):BB:=let k:=if 64 < key.length then qtG key else key;k++List.replicate (64 - k.length) (u8 0)
theorem qqL (key:BB):(kS key).length=64:=by
 unfold kS
 by_cases h:64 < key.length
 ·simp only [if_pos h,List.length_append,List.length_replicate,vA]
 ·simp only [if_neg h,List.length_append,List.length_replicate];omega
theorem qKM (k:BB) (h:k.length≤64):cpy (rep (nat 64) (u8 0)) 0 (ln (rep (nat 64) (u8 0))) k=k++List.replicate (64 - k.length) (u8 0):=by
 unfold cpy rep ln
 rw [List.length_replicate,show nat 64=64 from rfl,List.take_zero,List.nil_append,List.take_of_length_le h,Nat.zero_add,Nat.min_eq_right h,List.drop_replicate]
theorem qyU (key:BB) (h:key.length≤1000000000):qpJ (key,())=some (kS key,()):=by
 unfold qpJ
 refine (qH (by decide)).trans ?_
 by_cases hk:64 < key.length
 ·refine (qE (by simp only [go_sem,Int.reduceToNat];omega)).trans ?_
  dsimp only
  rw [qEO _ h]
  refine (qF rfl).trans ?_
  dsimp only
  rw [qKM _ (by rw [vA];omega)]
  unfold kS;simp only [if_pos hk]
 ·refine (qB (by simp only [go_sem,Int.reduceToNat];omega)).trans ?_
  dsimp only
  rw [qKM _ (by omega)]
  unfold kS;simp only [if_neg hk]
theorem qPl {f:BB×Unit→Option (LS (BB×Unit) (BB×Unit))} (hf:f=fun (x:BB×Unit)=>sel (lt (len x.1) 64) (ck (rm 1 (nadd (ln x.1) (ln [u8 0]))) (some (LS.nx (app x.1 [u8 0],())))) (some (LS.ex 0 (x.1,())))) (k:BB) (h:k.length≤64) :
  loop f (k,())=some (.ex 0 (k++List.replicate (64 - k.length) (u8 0),())):=by
 have step:∀ i:Nat,i < 64 - k.length→f (k++List.replicate i (u8 0),())=some (.nx (k++List.replicate (i+1) (u8 0),())):=by
  intro i hi
  subst hf
  have hl:(k++List.replicate i (u8 0)).length=k.length+i:=by simp
  refine (qE (by simp only [go_sem,Int.reduceToNat];omega)).trans ?_
  refine (qH (by simp only [go_sem,Int.reduceToNat];simp;omega)).trans ?_
  show some (LS.nx (k++List.replicate i (u8 0)++[u8 0],()))=_
  rw [qAJ]
 have hend:f (k++List.replicate (64 - k.length) (u8 0),())=some (.ex 0 (k++List.replicate (64 - k.length) (u8 0),())):=by
  subst hf
  have hl:(k++List.replicate (64 - k.length) (u8 0)).length=64:=by simp;omega
  exact qB (by simp only [go_sem,Int.reduceToNat];omega)
 have:=(qM (f:=f) (fun i=>(k++List.replicate i (u8 0),())) (64 - k.length) step 0 (Nat.zero_le _)).trans (qU hend)
 rwa [List.replicate_zero,List.append_nil] at this
theorem qtX (key:BB) (h:key.length≤1000000000):qhD (key,())=some (kS key,()):=by
 unfold qhD
 refine (qH (by simp only [go_sem,Int.reduceToNat];omega)).trans ?_
 by_cases hk:64 < key.length
 ·refine (qE (by simp only [go_sem,Int.reduceToNat];omega)).trans ?_
  dsimp only
  rw [qb9 _ h]
  refine (qF rfl).trans ?_
  dsimp only
  rw [qPl rfl _ (by rw [vA];omega)]
  refine (qH g62).trans ?_
  unfold kS;simp only [if_pos hk]
 ·refine (qB (by simp only [go_sem,Int.reduceToNat];omega)).trans ?_
  dsimp only
  rw [show app (none' UInt8) key=key from rfl,qPl rfl _ (by omega)]
  refine (qH g62).trans ?_
  unfold kS;simp only [if_neg hk]
def xr (c:UInt8) (l:BB):BB:=l.map fun x=>u8 (xorI .u8 (n8 x) (n8 c))
theorem qe7 (c:UInt8) (l:BB):(xr c l).length=l.length:=by simp [xr]
theorem qMa {α:Type} {L:List α} {n:Nat} {z:α} (hL:L.length=n) {i:Nat} (hi:i < n):(L.take i++List.replicate (n - i) z).set i (L[i]'(by omega))=L.take (i+1)++List.replicate (n - (i+1)) z:=by
 have h1:(L.take i).length=i:=by rw [List.length_take];omega
 rw [List.set_append_right _ _ (by omega),h1,Nat.sub_self,show n - i=(n - (i+1))+1 by omega,List.replicate_succ,List.set_cons_zero,List.take_succ_eq_append_getElem (by omega),List.append_assoc]
 rfl
theorem qGo {f:Int×BB×Unit→Option (LS (Int×BB×Unit) Unit)} (c:UInt8) (k:BB) (hk:k.length=64)
  (hf:f=fun (x:Int×BB×Unit)=>sel (lt x.1 (len k)) (ck (inB x.1 (len k)) (ck (inB x.1 (len x.2.1)) (some (LS.nx (i64 (iadd x.1 1),upd x.2.1 (nat x.1) (u8 (xorI .u8 (n8 (nth k (nat x.1) (u8 0))) (n8 c))),()))))) (some (LS.ex 0 (x.1,x.2.1,())))) :
  loop f (0,rep (nat 64) (u8 0),())=some (.ex 0 (64,xr c k,())):=by
 have hx:(xr c k).length=64:=by rw [qe7,hk]
 have step:∀ i:Nat,i < 64→f ((i:Int),(xr c k).take i++List.replicate (64 - i) (u8 0),())=some (.nx (((i+1:Nat):Int),(xr c k).take (i+1)++List.replicate (64 - (i+1)) (u8 0),())):=by
  intro i hi
  subst hf
  have hl:((xr c k).take i++List.replicate (64 - i) (u8 0)).length=64:=by rw [List.length_append,List.length_take,List.length_replicate];omega
  have hi':i64 (iadd (i:Int) 1)=((i+1:Nat):Int):=i64n (by show (i:Int)+1=_;omega) (by omega)
  refine (qE (by simp only [go_sem,Int.reduceToNat];omega)).trans ?_
  refine (qH (by simp only [go_sem,Int.reduceToNat];omega)).trans ?_
  refine (qH (by simp only [go_sem,Int.reduceToNat];omega)).trans ?_
  dsimp only
  rw [hi',show upd ((xr c k).take i++List.replicate (64 - i) (u8 0)) (nat (i:Int)) (u8 (xorI .u8 (n8 (nth k (nat (i:Int)) (u8 0))) (n8 c)))=(xr c k).take (i+1)++List.replicate (64 - (i+1)) (u8 0) from ?_]
  rw [← qMa hx hi,qP,qK (by omega:i < k.length)]
  unfold upd
  congr 1
  simp [xr]
 have hend:f (((64:Nat):Int),(xr c k).take 64++List.replicate (64 - 64) (u8 0),())=some (.ex 0 (((64:Nat):Int),(xr c k).take 64++List.replicate (64 - 64) (u8 0),())):=by
  subst hf
  exact qB (by simp only [go_sem,Int.reduceToNat];omega)
 have:=(qM (f:=f) (fun i=>((i:Int),(xr c k).take i++List.replicate (64 - i) (u8 0),())) 64 step 0 (Nat.zero_le _)).trans (qU hend)
 rw [List.take_of_length_le (show (xr c k).length≤64 by omega),Nat.sub_self,List.replicate_zero,List.append_nil] at this
 exact this
def tagD (key b:BB):BB:=qtG (xr (u8 92) (kS key)++qtG (xr (u8 54) (kS key)++b))
theorem yH (key b:BB):(tagD key b).length=32:=vA _
theorem qGS (x y:BB):sumD (putD (putD iv x) y)=qtG (x++y):=by rw [qNv];rfl
theorem qj2 (key b:BB) (h:key.length≤1000000) (hb:b.length≤1000000):qrH (key,b,())=some (tagD key b,()):=by
 unfold qrH
 dsimp only
 rw [qyU _ (by omega)]
 refine (qF rfl).trans ?_
 refine (qH (by decide)).trans ?_
 dsimp only
 have hk:=qqL key
 rw [qGo (u8 92) _ hk rfl]
 refine (qH g62).trans ?_
 dsimp only
 rw [qr7]
 refine (qF rfl).trans ?_
 dsimp only
 have l1:=(qe7 (u8 92) (kS key)).trans hk
 have l2:=(qe7 (u8 54) (kS key)).trans hk
 rw [qfA qyX _ (by decide) (by omega)]
 refine (qF rfl).trans ?_
 refine (qH (by decide)).trans ?_
 dsimp only
 rw [qGo (u8 54) _ hk rfl]
 refine (qH g62).trans ?_
 refine (qF rfl).trans ?_
 dsimp only
 rw [qfA qyX _ (by decide) (by omega)]
 refine (qF rfl).trans ?_
 dsimp only
 have n1:(putD iv (xr (u8 54) (kS key))).2.1=0+((xr (u8 54) (kS key)).length:Int):=rfl
 have n2:(putD (putD iv (xr (u8 54) (kS key))) b).2.1=0+((xr (u8 54) (kS key)).length:Int)+(b.length:Int):=rfl
 have n3:(putD iv (xr (u8 92) (kS key))).2.1=0+((xr (u8 92) (kS key)).length:Int):=rfl
 rw [qfA (qjT qyX _) b (by omega) (by omega)]
 refine (qF rfl).trans ?_
 dsimp only
 rw [qq4 (qjT (qjT qyX _) _) (by omega),qGS]
 refine (qF rfl).trans ?_
 dsimp only
 have l4:=vA (xr (u8 54) (kS key)++b)
 rw [qfA (qjT qyX _) _ (by omega) (by omega)]
 refine (qF rfl).trans ?_
 dsimp only
 have n4:∀ y,(putD (putD iv (xr (u8 92) (kS key))) y).2.1=0+((xr (u8 92) (kS key)).length:Int)+(y.length:Int):=fun _=>rfl
 rw [qq4 (qjT (qjT qyX _) _) (by rw [n4];omega),qGS]
 rfl
theorem qeP (key b:BB) (h:key.length≤1000000) (hb:b.length≤1000000):qfS (key,b,())=some (tagD key b,()):=by
 unfold qfS
 dsimp only
 rw [qtX _ (by omega)]
 refine (qF rfl).trans ?_
 dsimp only
 have hk:=qqL key
 unfold tagD
 generalize kS key=k at hk
 generalize hf:(fun (x:BB×BB×Int×Unit)=>(_:Option (LS (BB×BB×Int×Unit) (BB×Unit))))=f
 have x1:(xr (u8 54) k).length=64:=by rw [qe7,hk]
 have x2:(xr (u8 92) k).length=64:=by rw [qe7,hk]
 have tk:∀ (c:UInt8) (i:Nat) (hi:i < 64),app ((xr c k).take i) [u8 (xorI .u8 (n8 (nth k (nat (i:Int)) (u8 0))) (n8 c))]=(xr c k).take (i+1):=by
  intro c i hi
  have hx:(xr c k).length=64:=by rw [qe7,hk]
  rw [qP,qK (by omega:i < k.length),List.take_succ_eq_append_getElem (by omega)]
  unfold app
  congr 2
  simp [xr]
 have step:∀ i:Nat,i < 64→f ((xr (u8 54) k).take i,(xr (u8 92) k).take i,(i:Int),())=some (.nx ((xr (u8 54) k).take (i+1),(xr (u8 92) k).take (i+1),((i+1:Nat):Int),())):=by
  intro i hi
  subst hf
  have hi':i64 (iadd (i:Int) 1)=((i+1:Nat):Int):=i64n (by show (i:Int)+1=_;omega) (by omega)
  have h1:((xr (u8 54) k).take i).length=i:=by rw [List.length_take];omega
  have h2:((xr (u8 92) k).take i).length=i:=by rw [List.length_take];omega
  refine (qE (by simp only [go_sem,Int.reduceToNat];omega)).trans ?_
  refine (qH (by simp only [go_sem,Int.reduceToNat];omega)).trans ?_
  refine (qH (by simp only [go_sem,Int.reduceToNat];simp;omega)).trans ?_
  refine (qH (by simp only [go_sem,Int.reduceToNat];omega)).trans ?_
  refine (qH (by simp only [go_sem,Int.reduceToNat];simp;omega)).trans ?_
  dsimp only
  rw [hi',tk _ i hi,tk _ i hi]
 have hend:∀ u v,f (u,v,((64:Nat):Int),())=some (.ex 0 (u,v,((64:Nat):Int),())):=by subst hf;intro u v;exact qB rfl
 have hloop:=(qM (f:=f) (fun i=>((xr (u8 54) k).take i,(xr (u8 92) k).take i,(i:Int),())) 64 step 0 (Nat.zero_le _)).trans (qU (hend _ _))
 rw [List.take_of_length_le (show (xr (u8 54) k).length≤64 by omega),List.take_of_length_le (show (xr (u8 92) k).length≤64 by omega)] at hloop
 refine (qX (show loop f (none' UInt8,none' UInt8,0,())=_ from hloop)).trans ?_
 refine (qH g62).trans ?_
 dsimp only
 refine (qH (by simp only [go_sem,Int.reduceToNat];omega)).trans ?_
 rw [show app (xr (u8 54) k) b=xr (u8 54) k++b from rfl,qb9 _ (by rw [List.length_append];omega)]
 refine (qF rfl).trans ?_
 dsimp only
 have l4:=vA (xr (u8 54) k++b)
 refine (qH (by simp only [go_sem,Int.reduceToNat];omega)).trans ?_
 rw [show app (xr (u8 92) k) (qtG (xr (u8 54) k++b))=xr (u8 92) k++qtG (xr (u8 54) k++b) from rfl,qb9 _ (by rw [List.length_append];omega)]
 rfl
def vT (p:BB):BB:=[u8 (shrI .i64 (len p) (n64 (u64 8))),u8 (len p)]++p
def tlD (l:List BB):BB:=l.flatMap vT
def qdV (label:BB) (l:List BB):BB:=[u8 (len label)]++label++tlD l
theorem qsD (p:BB):(vT p).length=p.length+2:=by simp [vT]
theorem qHK {l:List BB} (h:∀ p∈l,p.length≤1000):(tlD l).length≤1002*l.length:=by
 induction l with
 | nil=>simp [tlD]
 | cons p r ih =>
  have h1:=h p (by simp)
  have h2:=ih fun q hq=>h q (by simp [hq])
  unfold tlD at h2 ⊢
  rw [List.flatMap_cons,List.length_append,qsD,List.length_cons];omega
theorem qGu {l:List BB} {i:Nat} (hi:i < l.length):tlD (l.take (i+1))=tlD (l.take i)++vT l[i]:=by
 unfold tlD
 rw [List.take_succ_eq_append_getElem hi,List.flatMap_append,List.flatMap_cons,List.flatMap_nil,List.append_nil]
theorem qdW {label:BB} {l:List BB} (h1:label.length≤255) (h2:l.length≤16) (h:∀ p∈l,p.length≤1000):(qdV label l).length≤20000:=by
 have:=qHK h
 unfold qdV
 simp only [List.length_append,List.length_cons,List.length_nil];omega
def qwW (key label:BB) (l:List BB):BB:=tagD key (qdV label l)
theorem qe3 (key label:BB) (l:List BB):(qwW key label l).length=32:=yH _ _
theorem qj3 (key label:BB) (l:List BB) (hk:key.length≤1000000) (h1:label.length≤255) (h2:l.length≤16) (h:∀ p∈l,p.length≤1000):qf7 (key,label,l,())=some (qwW key label l,0,()):=by
 unfold qf7
 dsimp only
 refine (qF (a:=(false,())) ((qB (by simp only [go_sem,Int.reduceToNat];omega)).trans (by rw [show lt 16 (len l)=false from lt_f (by simp only [go_sem,Int.reduceToNat];omega)]))).trans ?_
 refine (qB rfl).trans ?_
 refine (qH (by simp only [go_sem,Int.reduceToNat];simp;omega)).trans ?_
 generalize hf:(fun (x_1:Int×BB×Int×Unit)=>(_:Option (LS (Int×BB×Int×Unit) (BB×Int×Unit))))=f
 have hT:∀ i,(qdV label (l.take i)).length≤20000:=fun i=>qdW h1 (by rw [List.length_take];omega) (fun p hp=>h p (List.mem_of_mem_take hp))
 have step:∀ i:Nat,i < l.length→f (0,qdV label (l.take i),(i:Int),())=some (.nx (0,qdV label (l.take (i+1)),((i+1:Nat):Int),())):=by
  intro i hi
  subst hf
  have hi':i64 (iadd (i:Int) 1)=((i+1:Nat):Int):=i64n (by show (i:Int)+1=_;omega) (by omega)
  have hp:=h l[i] (List.getElem_mem hi)
  have ht:=hT i
  have hn:nth l (nat (i:Int)) (none' UInt8)=l[i]:=by rw [qP,qK hi]
  refine (qE (by simp only [go_sem,Int.reduceToNat];omega)).trans ?_
  refine (qH (by simp only [go_sem,Int.reduceToNat];omega)).trans ?_
  dsimp only
  rw [hn]
  refine (qB (by simp only [go_sem,Int.reduceToNat];omega)).trans ?_
  refine (qH (by simp only [go_sem,Int.reduceToNat];simp;omega)).trans ?_
  refine (qH (by simp only [go_sem,Int.reduceToNat];simp;omega)).trans ?_
  rw [hi',show qdV label (l.take (i+1))=qdV label (l.take i)++vT l[i] by unfold qdV;rw [qGu hi,List.append_assoc,List.append_assoc,List.append_assoc]]
  unfold vT app
  rw [List.append_assoc]
 have hend:∀ u,f (0,u,(l.length:Int),())=some (.ex 0 (0,u,(l.length:Int),())):=by subst hf;intro u;exact qB (by simp only [go_sem,Int.reduceToNat];omega)
 have hloop:=(qM (f:=f) (fun i=>(0,qdV label (l.take i),(i:Int),())) l.length step 0 (Nat.zero_le _)).trans (qU (hend _))
 rw [List.take_of_length_le (Nat.le_refl _)] at hloop
 have h0:qdV label (l.take 0)=app [u8 (len label)] label:=by unfold qdV;rw [List.take_zero];exact List.append_nil _
 rw [h0] at hloop
 refine (qX (show loop f (0,app [u8 (len label)] label,0,())=_ from hloop)).trans ?_
 refine (qH g62).trans ?_
 dsimp only
 have:=qdW h1 h2 h
 rw [qj2 _ _ hk (by omega)];rfl
theorem qvO (label:BB) (l:List BB) (h1:label.length≤255) (h2:l.length≤16) (h:∀ p∈l,p.length≤1000):qlW (label,l,())=some (qdV label l,()):=by
 unfold qlW
 dsimp only
 refine (qH (by simp only [go_sem,Int.reduceToNat];omega)).trans ?_
 refine (qH (by simp only [go_sem,Int.reduceToNat];simp;omega)).trans ?_
 generalize hf:(fun (x_1:BB×Int×Unit)=>(_:Option (LS (BB×Int×Unit) (BB×Unit))))=f
 have hT:∀ i,(qdV label (l.take i)).length≤20000:=fun i=>qdW h1 (by rw [List.length_take];omega) (fun p hp=>h p (List.mem_of_mem_take hp))
 have step:∀ i:Nat,i < l.length→f (qdV label (l.take i),(i:Int),())=some (.nx (qdV label (l.take (i+1)),((i+1:Nat):Int),())):=by
  intro i hi
  subst hf
  have hi':i64 (iadd (i:Int) 1)=((i+1:Nat):Int):=i64n (by show (i:Int)+1=_;omega) (by omega)
  have hp:=h l[i] (List.getElem_mem hi)
  have ht:=hT i
  have hn:nth l (nat (i:Int)) (none' UInt8)=l[i]:=by rw [qP,qK hi]
  have q1:u8 (i64 (idiv (len l[i]) 256))=u8 (shrI .i64 (len l[i]) (n64 (u64 8))):=by
   have a1:idiv (len l[i]) 256=((l[i].length / 256:Nat):Int):=by rw [g31 (by simp only [go_sem,Int.reduceToNat];omega)];simp only [go_sem,Int.reduceToNat];omega
   have a2:shrI .i64 (len l[i]) (n64 (u64 8))=((l[i].length / 256:Nat):Int):=by show Int.fdiv (l[i].length:Int) (2 ^ 8)=_;rw [Int.fdiv_eq_ediv_of_nonneg _ (by decide)];omega
   rw [a1,a2,i64n rfl (by omega)]
  have q2:u8 (imod (len l[i]) 256)=u8 (len l[i]):=by
   rw [g32 (by simp only [go_sem,Int.reduceToNat];omega)];exact qCo (by simp only [go_sem,Int.reduceToNat];omega)
  refine (qE (by simp only [go_sem,Int.reduceToNat];omega)).trans ?_
  dsimp only
  rw [hn]
  refine (qH (by simp only [go_sem,Int.reduceToNat];omega)).trans ?_
  refine (qH (by simp only [go_sem,Int.reduceToNat];omega)).trans ?_
  refine (qH (by simp only [go_sem,Int.reduceToNat];simp;omega)).trans ?_
  refine (qH (by simp only [go_sem,Int.reduceToNat];omega)).trans ?_
  refine (qH (by simp only [go_sem,Int.reduceToNat];simp;omega)).trans ?_
  rw [hi',q1,q2,show qdV label (l.take (i+1))=qdV label (l.take i)++vT l[i] by unfold qdV;rw [qGu hi,List.append_assoc,List.append_assoc,List.append_assoc]]
  unfold vT app
  rw [List.append_assoc]
 have hend:∀ u,f (u,(l.length:Int),())=some (.ex 0 (u,(l.length:Int),())):=by subst hf;intro u;exact qB (by simp only [go_sem,Int.reduceToNat];omega)
 have hloop:=(qM (f:=f) (fun i=>(qdV label (l.take i),(i:Int),())) l.length step 0 (Nat.zero_le _)).trans (qU (hend _))
 rw [List.take_of_length_le (Nat.le_refl _)] at hloop
 have h0:qdV label (l.take 0)=app [u8 (len label)] label:=by unfold qdV;rw [List.take_zero];exact List.append_nil _
 rw [h0] at hloop
 refine (qX (show loop f (app [u8 (len label)] label,0,())=_ from hloop)).trans ?_
 exact qH g62
theorem qfT (key label:BB) (l:List BB) (hk:key.length≤1000000) (h1:label.length≤255) (h2:l.length≤16) (h:∀ p∈l,p.length≤1000):qbH (key,label,l,())=some (qwW key label l,0,()):=by
 unfold qbH
 dsimp only
 refine (qF (a:=(false,())) ((qB (by simp only [go_sem,Int.reduceToNat];omega)).trans (by rw [show lt 16 (len l)=false from lt_f (by simp only [go_sem,Int.reduceToNat];omega)]))).trans ?_
 refine (qB rfl).trans ?_
 generalize hf:(fun (x_1:Int×Int×Unit)=>(_:Option (LS (Int×Int×Unit) (BB×Int×Unit))))=f
 have step:∀ i:Nat,i < l.length→f (0,(i:Int),())=some (.nx (0,((i+1:Nat):Int),())):=by
  intro i hi
  subst hf
  have hi':i64 (iadd (i:Int) 1)=((i+1:Nat):Int):=i64n (by show (i:Int)+1=_;omega) (by omega)
  have hp:=h l[i] (List.getElem_mem hi)
  have hn:nth l (nat (i:Int)) (none' UInt8)=l[i]:=by rw [qP,qK hi]
  refine (qE (by simp only [go_sem,Int.reduceToNat];omega)).trans ?_
  dsimp only
  rw [hn,hi']
  refine (qH (by simp only [go_sem,Int.reduceToNat];omega)).trans ?_
  exact qB (by simp only [go_sem,Int.reduceToNat];omega)
 have hend:f (0,(l.length:Int),())=some (.ex 0 (0,(l.length:Int),())):=by subst hf;exact qB (by simp only [go_sem,Int.reduceToNat];omega)
 have hloop:=(qM (f:=f) (fun i=>(0,(i:Int),())) l.length step 0 (Nat.zero_le _)).trans (qU hend)
 refine (qX (show loop f (0,0,())=_ from hloop)).trans ?_
 refine (qH g62).trans ?_
 rw [qvO _ _ h1 h2 h]
 refine (qF rfl).trans ?_
 dsimp only
 have:=qdW h1 h2 h
 rw [qeP _ _ hk (by omega)];rfl
def kcvD (key:BB):BB:=(tagD key (List.replicate 8 (u8 0))).take 3
theorem qnP (key:BB):(kcvD key).length=3:=by unfold kcvD;rw [List.length_take,yH];rfl
theorem qsI (key:BB) (hk:key.length≤1000000):qv8 (key,())=some (kcvD key,()):=by
 unfold qv8
 refine (qH (by decide)).trans ?_
 dsimp only
 rw [show rep (nat 8) (u8 0)=List.replicate 8 (u8 0) from rfl,qj2 _ _ hk (by simp)]
 refine (qF rfl).trans ?_
 dsimp only
 have:=yH key (List.replicate 8 (u8 0))
 refine (qH (by simp only [go_sem,Int.reduceToNat];omega)).trans ?_
 rfl
theorem qyM (key:BB) (hk:key.length≤1000000):qo4 (key,())=some (kcvD key,()):=by
 unfold qo4
 refine (qH (by decide)).trans ?_
 dsimp only
 rw [show rep (nat 8) (u8 0)=List.replicate 8 (u8 0) from rfl,qeP _ _ hk (by simp)]
 refine (qF rfl).trans ?_
 dsimp only
 have:=yH key (List.replicate 8 (u8 0))
 refine (qH (by simp only [go_sem,Int.reduceToNat];omega)).trans ?_
 rfl
def vK (k b:BB):BB:=(tagD k b).take 16
theorem y8 (k b:BB):(vK k b).length=16:=by unfold vK;rw [List.length_take,yH];rfl
theorem qjU (k b:BB) (hk:k.length≤1000000) (hb:b.length≤1000000):qfZ (k,b,())=some (vK k b,()):=by
 unfold qfZ
 dsimp only
 rw [qj2 _ _ hk hb]
 refine (qF rfl).trans ?_
 dsimp only
 have:=yH k b
 refine (qH (by simp only [go_sem,Int.reduceToNat];omega)).trans ?_
 rfl
theorem qbS (k b:BB) (hk:k.length≤1000000) (hb:b.length≤1000000):qaJ (k,b,())=some (vK k b,()):=by
 unfold qaJ
 dsimp only
 rw [qeP _ _ hk hb]
 refine (qF rfl).trans ?_
 dsimp only
 have:=yH k b
 refine (qH (by simp only [go_sem,Int.reduceToNat];omega)).trans ?_
 rfl
abbrev ET:=BB×BB×Unit
theorem qAO (p:qa2) (k b:BB):quA (p,k,b,())=some (D ((k,b,())∈p.2.1),()):=by
 unfold quA
 congr 2
 refine qk7 ?_
 rw [List.any_eq_true]
 constructor
 ·rintro ⟨⟨e1,e2,⟨⟩⟩,he,h⟩
  simp only [band,seq,Bool.and_eq_true,beq_iff_eq] at h
  rw [h.1,h.2];exact he
 ·intro h
  exact ⟨_,h,by simp [band,seq]⟩
theorem qmT (p:qa2) (k b:BB) (hl:p.2.1.length≤1000000):qjM (p,k,b,())=some (D ((k,b,())∈p.2.1),()):=by
 unfold qjM
 dsimp only
 generalize p.2.1=l at hl
 generalize hf:(fun (x_1:Bool×Int×Unit)=>(_:Option (LS (Bool×Int×Unit) (Bool×Unit))))=f
 have hsame:∀ (i:Nat) (h:i < l.length),nth l (nat (i:Int)) (none' UInt8,none' UInt8,())=l[i]:=fun i h=>by rw [qP,qK h]
 have key:=qcB (f:=f) l (fun i=>(false,(i:Int),())) 0 ((true,()):Bool×Unit) (fun e=>¬ e=(k,b,())) (fun i h hp => ?_) (fun i h hp => ?_) ?_
 ·rcases key with ⟨h,hl⟩ | ⟨h,hl⟩
  ·refine (qX (show loop f (false,0,())=_ from hl)).trans ?_
   refine (qH g62).trans ?_
   rw [D_f (fun hm=>h _ hm rfl)]
  ·refine (qX (show loop f (false,0,())=_ from hl)).trans ?_
   rw [D_t (Classical.byContradiction fun hm=>h fun x hx e=>hm (e ▸ hx))];rfl
 ·subst hf
  have hi':i64 (iadd (i:Int) 1)=((i+1:Nat):Int):=i64n (by show (i:Int)+1=_;omega) (by omega)
  refine (qE (by simp (disch:=first | assumption | omega | (dsimp only;omega) | decide) only [go_sem,Int.reduceToNat];omega)).trans ?_
  refine (qH (by simp (disch:=first | assumption | omega | (dsimp only;omega) | decide) only [go_sem,Int.reduceToNat];omega)).trans ?_
  dsimp only
  rw [hsame i h,hi']
  generalize l[i]=e at hp
  obtain ⟨e1,e2,⟨⟩⟩:=e
  by_cases h1:e1=k
  ·have h2:¬ e2=b:=fun h2=>hp (by rw [h1,h2])
   simp (disch:=omega) only [go_sem,Int.reduceToNat,qY,h1,h2]
  ·simp (disch:=omega) only [go_sem,Int.reduceToNat,qY,h1]
 ·subst hf
  have hp':l[i]=(k,b,()):=Classical.byContradiction hp
  refine (qE (by simp (disch:=omega) only [go_sem,Int.reduceToNat];omega)).trans ?_
  refine (qH (by simp (disch:=omega) only [go_sem,Int.reduceToNat];omega)).trans ?_
  dsimp only
  rw [hsame i h,hp']
  simp (disch:=omega) only [go_sem,Int.reduceToNat,qY]
 ·subst hf
  exact qB (by simp (disch:=omega) only [go_sem,Int.reduceToNat];omega)
def ptag (p:qa2) (k b:BB):qa2:=if (k,b,())∈p.2.1 then p else (p.1,p.2.1++[(k,b,())],p.2.2)
theorem qEK {α:Type} (l:List α):sub l 0 (len l)=l:=by
 unfold sub
 rw [show (0:Int).toNat=0 from rfl,List.drop_zero,show (len l).toNat=l.length from qP,List.take_of_length_le (by omega)]
theorem qFC {α:Type} (l:List α):band (inC 0 (len l) (len l)) (beq (len l) (len l))=true:=by
 rw [kQ rfl,g37];simp only [go_sem,Int.reduceToNat];omega
theorem qIi (l:List ET):zU (l,())=some (l,()):=by
 unfold zU
 dsimp only
 rw [qEK]
 exact qH (qFC l)
theorem qiR (l:BB) (h:l.length≤1000000):qdU (l,())=some (l,()):=by
 unfold qdU
 exact qH (by simp only [go_sem,Int.reduceToNat];omega)
theorem qAN (p:qa2) (k b:BB) (hl:p.2.1.length≤1000000) (hk:k.length≤1000000) (hb:b.length≤1000000):qt9 (p,k,b,())=some (ptag p k b,vK k b,()):=by
 unfold qt9
 dsimp only
 rw [qAO]
 refine (qF rfl).trans ?_
 unfold ptag
 by_cases h:(k,b,())∈p.2.1
 ·rw [D_t h,if_pos h]
  refine (qB rfl).trans ?_
  rw [qjU _ _ hk hb];rfl
 ·rw [D_f h,if_neg h]
  refine (qE rfl).trans ?_
  rw [qIi]
  refine (qF rfl).trans ?_
  rw [qiR _ hk]
  refine (qF rfl).trans ?_
  rw [qiR _ hb]
  refine (qF rfl).trans ?_
  refine (qH (by simp only [go_sem,Int.reduceToNat];simp;omega)).trans ?_
  rw [qjU _ _ hk hb];rfl
theorem qPh (p:qa2) (k b:BB):(ptag p k b).2.1.length≤p.2.1.length+1:=by
 unfold ptag
 split
 ·omega
 ·simp
def pchk (p:qa2) (k b t:BB):qa2×Bool×Unit :=
 if vK k b=t then (if (k,b,())∈p.2.1 then (p,true,()) else ((p.1,p.2.1,true,()), !p.1,())) else (p,false,())
theorem qtW (p:qa2) (k b t:BB) (hl:p.2.1.length≤1000000) (hk:k.length≤1000000) (hb:b.length≤1000000):qdA (p,k,b,t,())=some (pchk p k b t):=by
 unfold qdA
 dsimp only
 rw [qbS _ _ hk hb]
 refine (qF rfl).trans ?_
 dsimp only
 rw [qY]
 refine (qF rfl).trans ?_
 unfold pchk
 by_cases ht:vK k b=t
 ·rw [if_pos ht,qHQ ht]
  refine (qB rfl).trans ?_
  rw [qmT _ _ _ hl]
  refine (qF rfl).trans ?_
  by_cases h:(k,b,())∈p.2.1
  ·rw [D_t h,if_pos h];rfl
  ·rw [D_f h,if_neg h];rfl
 ·rw [if_neg ht,qI3 ht];rfl
def big8 (n:Int):BB:=ps 256 byt n.toNat 8
theorem qxZ (n:Int):(big8 n).length=8:=zP _ _ _ _
def recD (n:Int):BB:=big8 n++(qtG ([u8 121,u8 101,u8 116,u8 116]++big8 n)).take 8
theorem qE3 (n:Int):(recD n).length=16:=by unfold recD;rw [List.length_append,qxZ,List.length_take,vA];rfl
def qOo (n:Int):Prop:=1≤n∧n≤4611686018427387904
theorem qQr {n:Int} (h:qOo n):((1:Int)≤8∧(8:Int)≤8∧0≤n∧n < 256 ^ (8:Int).toNat):=by
 obtain ⟨h1,h2⟩:=h
 refine ⟨by omega,by omega,by omega, ?_⟩
 show n < 256 ^ 8
 omega
theorem qrB (n:Int) (hn:n≤9223372036854775807):qd0 (n,())=some (if 1≤n∧n≤4611686018427387904 then (recD n,0,()) else ([],1,())):=by
 unfold qd0
 dsimp only
 by_cases h:1≤n∧n≤4611686018427387904
 ·rw [if_pos h]
  refine (qF (a:=(false,())) ((qB (by simp only [go_sem,Int.reduceToNat];omega)).trans (by rw [show lt 4611686018427387904 n=false from lt_f (by omega)]))).trans ?_
  refine (qB rfl).trans ?_
  rw [qeQ _ _ hn,if_pos (qQr h)]
  refine (qF rfl).trans ?_
  dsimp only
  rw [show ps 256 byt n.toNat (8:Int).toNat=big8 n from rfl]
  have:=qxZ n
  refine (qH (by simp only [go_sem,Int.reduceToNat];simp;omega)).trans ?_
  rw [show app [u8 121,u8 101,u8 116,u8 116] (big8 n)=[u8 121,u8 101,u8 116,u8 116]++big8 n from rfl,qb9 _ (by simp;omega)]
  refine (qF rfl).trans ?_
  dsimp only
  have h2:=vA ([u8 121,u8 101,u8 116,u8 116]++big8 n)
  refine (qH (by simp only [go_sem,Int.reduceToNat];omega)).trans ?_
  refine (qH (by simp only [go_sem,Int.reduceToNat];omega)).trans ?_
  rw [show cut (qtG ([u8 121,u8 101,u8 116,u8 116]++big8 n)) (nat 0) (nsub (nat 8) (nat 0))=(qtG ([u8 121,u8 101,u8 116,u8 116]++big8 n)).take 8 from rfl,show app (none' UInt8) (big8 n)=big8 n from rfl]
  refine (qH (by simp only [go_sem,Int.reduceToNat];simp;omega)).trans ?_
  rfl
 ·rw [if_neg h]
  by_cases h1:n < 1
  ·refine (qF (a:=(true,())) (qE (by simp only [go_sem,Int.reduceToNat];omega))).trans ?_
   rfl
  ·refine (qF (a:=(true,())) ((qB (by simp only [go_sem,Int.reduceToNat];omega)).trans (by rw [show lt 4611686018427387904 n=true from lt_t (by omega)]))).trans ?_
   rfl
abbrev ST:=BB×BB×Unit
def qGL (s:ST):Prop:=s.1.length=16∧s.2.1.length=16
def newS:ST:=(recD 1,List.replicate 16 (u8 0),())
theorem qmR:qfL ()=some (newS,()):=by
 unfold qfL
 rw [qrB _ (by decide),if_pos (by decide)]
 rfl
def zC (p:Int):Prop:=2≤p∧p≤6
def qeY (p:Int):Prop:=p=3∨p=4∨p=5
instance (p:Int):Decidable (zC p):=by unfold zC;infer_instance
instance (p:Int):Decidable (qeY p):=by unfold qeY;infer_instance
def qFg (p:Int):Int:=if p=0 then 0 else if p=1 then 1 else if p=2 then 2 else if p=3 then 3 else if p=4 then 4 else if p=5 then 4 else if p=6 then 5 else -1
theorem qdC (p:Int):qaK (p,())=some (qFg p,()):=by
 unfold qaK qFg
 by_cases h0:p=0
 ·subst h0;rfl
 by_cases h1:p=1
 ·subst h1;rfl
 by_cases h2:p=2
 ·subst h2;rfl
 by_cases h3:p=3
 ·subst h3;rfl
 by_cases h4:p=4
 ·subst h4;rfl
 by_cases h5:p=5
 ·subst h5;rfl
 by_cases h6:p=6
 ·subst h6;rfl
 rw [if_neg h0,if_neg h1,if_neg h2,if_neg h3,if_neg h4,if_neg h5,if_neg h6]
 simp (disch:=omega) only [go_sem,Int.reduceToNat]
theorem qN9 (p:Int):2≤qFg p↔zC p:=by
 unfold qFg zC
 repeat' split
 all_goals omega
theorem qLV (p:Int):qFg p=3∨qFg p=4↔qeY p:=by
 unfold qFg qeY
 repeat' split
 all_goals omega
theorem qrD (p:Int):qd3 (p,())=some (D (zC p),()):=by
 unfold qd3
 rw [qdC]
 simp only [go_sem,Int.reduceToNat,qN9]
theorem wG (p:Int):qaL (p,())=some (D (qeY p),()):=by
 unfold qaL
 rw [qdC]
 simp only [go_sem,Int.reduceToNat,qdC,qLV]
theorem kK (p:Int):v7 (p,())=some (D (zC p),()):=by
 unfold v7 zC
 simp only [go_sem,Int.reduceToNat]
def qBj (c s:Int) (b:BB):Prop:=yV c∧1≤s∧s≤999999∧1≤b.length∧b.length≤900
instance (c s:Int) (b:BB):Decidable (qBj c s b):=by unfold qBj;infer_instance
theorem qzJ (c:Int):qqP (c,())=some (D (yV c),()):=by
 unfold qqP yV
 by_cases h1:c=1
 ·subst h1;simp only [go_sem,Int.reduceToNat]
 by_cases h2:c=2
 ·subst h2;simp (disch:=omega) only [go_sem,Int.reduceToNat]
 by_cases h3:c=101
 ·subst h3;simp (disch:=omega) only [go_sem,Int.reduceToNat]
 by_cases h4:c=201
 ·subst h4;simp (disch:=omega) only [go_sem,Int.reduceToNat]
 simp only [go_sem,Int.reduceToNat,h1,h2,h3,h4]
theorem qB8 (c s:Int) (b:BB):quI (c,s,b,())=some (D (qBj c s b),()):=by
 unfold quI qBj
 rw [qzJ]
 by_cases hk:yV c
 ·simp only [go_sem,Int.reduceToNat,hk];exact zJ (by omega)
 ·rw [D_f (p:=_∧_) (fun h=>hk h.1)];simp only [go_sem,Int.reduceToNat,hk]
def noA:TAsk:=(0,0,0,0,[],())
def qx0 (c s:Int) (b:BB):TAsk×Int×Unit:=if qBj c s b then ((c,s,8,3,b,()),0,()) else (noA,1,())
theorem qzK (c s:Int) (b:BB):qqQ (c,s,b,())=some (qx0 c s b):=by
 unfold qqQ qx0
 rw [qB8]
 by_cases h:qBj c s b
 ·rw [D_t h,if_pos h];rfl
 ·rw [D_f h,if_neg h];rfl
theorem qB7 (a:TAsk):quH (a,())=some (D (a=noA),()):=by
 obtain ⟨c,s,d,l,b,⟨⟩⟩:=a
 unfold quH qCa noA
 simp only [go_sem,Int.reduceToNat,qiQ]
 refine zJ ?_
 simp only [Prod.mk.injEq,and_true]
 constructor
 ·rintro ⟨⟨⟨⟨h1,h2⟩,h3⟩,h4⟩,h5⟩;exact ⟨h1,h2,h3,h4,h5⟩
 ·rintro ⟨h1,h2,h3,h4,h5⟩;exact ⟨⟨⟨⟨h1,h2⟩,h3⟩,h4⟩,h5⟩
def qpI (a:TAsk) (c s:Int):Prop:=¬ a=noA∧a.1=c∧a.2.1=s
theorem qm7 (a:TAsk) (c s:Int):qk5 (a,c,s,())=some (D (qpI a c s),()):=by
 unfold qk5 qpI
 rw [qB7]
 simp only [go_sem,Int.reduceToNat]
def qb3 (n:Int):Int:=if n < 0∨999999≤n then 1 else n+1
theorem qB9 (n:Int):quJ (n,())=some (qb3 n,()):=by
 unfold quJ qb3
 by_cases h:n < 0∨999999≤n
 ·rw [if_pos h];simp (disch:=omega) only [go_sem,Int.reduceToNat]
 ·rw [if_neg h];simp (disch:=omega) only [go_sem,Int.reduceToNat]
def qPi (u:List Bool) (n:Nat):Option Nat:=((List.range 4).map fun i=>(n+i) % 4).find? fun c=>u.getD c false
def kU (h:THub):THub×Int×Int×Unit:=match qPi h.1 h.2.2.2.1.toNat with | none=>(h,0,11,()) | some c=>((h.1,h.2.1,h.2.2.1,(((c+1) % 4:Nat):Int),()),(c:Int),0,())
theorem four {α:Type} {w:List α} (h:w.length=4):∃ a b c d,w=[a,b,c,d]:=by
 match w,h with
 | [a,b,c,d],_=>exact ⟨a,b,c,d,rfl⟩
theorem qBa (h:THub) (hu:h.1.length=4) (hn:0≤h.2.2.2.1∧h.2.2.2.1 < 4):quF (h,())=some (kU h):=by
 obtain ⟨u,f,l,n,⟨⟩⟩:=h
 dsimp only at hu hn
 obtain ⟨a,b,c,d,rfl⟩:=four hu
 have:n=0∨n=1∨n=2∨n=3:=by omega
 unfold quF
 rcases this with rfl | rfl | rfl | rfl <;> cases a <;> cases b <;> cases c <;> cases d <;> (refine (qX (qj4 5 rfl)).trans ?_;kernel_rfl)
theorem qwN (b:BB) (h:1≤b.length∧b.length≤1024):ql8 (b,())=some (vT b,0,()):=by
 unfold ql8
 refine (qF (a:=(false,())) ((qB (by simp only [go_sem,Int.reduceToNat];omega)).trans (by rw [show lt 1024 (len b)=false from lt_f (by simp only [go_sem,Int.reduceToNat];omega)]))).trans ?_
 refine (qB rfl).trans ?_
 refine (qH (by simp only [go_sem,Int.reduceToNat];simp;omega)).trans ?_
 rfl
abbrev GT:=Int×BB×Unit
def noG:GT:=(0,[],())
def noR:jF:=(noG,noG,noG,0,0,())
theorem qPD (g:GT):(g.1=0∧(g.2.1.length:Int)=0)↔g=noG:=by
 obtain ⟨n,k,⟨⟩⟩:=g
 unfold noG
 have hb:(k.length:Int)=0↔k=[]:=by rw [← List.length_eq_zero_iff];omega
 simp only [Prod.mk.injEq,and_true,hb]
theorem qeN (g:GT):qi3 (g,())=some (D (g=noG),()):=by
 unfold qi3
 simp only [go_sem,Int.reduceToNat]
 exact zJ (qPD g)
theorem qc4 (g:GT):yR (g,())=some (D (g=noG),()):=by
 unfold yR
 simp only [go_sem,Int.reduceToNat]
 exact zJ (qPD g)
def wY (g:GT):Prop:=1≤g.1∧g.1≤2147483647∧g.2.1.length=32
instance (g:GT):Decidable (wY g):=by unfold wY;infer_instance
theorem qyA (g:GT):qoO (g,())=some (D (wY g),()):=by
 unfold qoO wY
 simp only [go_sem,Int.reduceToNat]
 exact zJ (by omega)
theorem qPC (r:jF):(r.1=noG∧r.2.1=noG∧r.2.2.1=noG∧r.2.2.2.1=0∧r.2.2.2.2.1=0)↔r=noR:=by
 obtain ⟨a,b,c,l,t,⟨⟩⟩:=r
 unfold noR
 simp only [Prod.mk.injEq,and_true]
theorem qi4 (r:jF):v4 ((r,()),())=some (D (r=noR),()):=by
 unfold v4 qgU
 refine (qF rfl).trans ?_
 dsimp only
 generalize hf:(fun (x:Bool×Int×Unit)=>(_:Option (LS (Bool×Int×Unit) (Bool×Unit))))=f
 have key:=qcB (f:=f) [r.1,r.2.1,r.2.2.1] (fun i=>(false,(i:Int),())) 0 ((false,()):Bool×Unit) (fun g=>g=noG) (fun i h hp => ?_) (fun i h hp => ?_) ?_
 ·rcases key with ⟨h,hl⟩ | ⟨h,hl⟩
  ·refine (qX (show loop f (false,0,())=_ from hl)).trans ?_
   refine (qH g62).trans ?_
   have h1:=h r.1 (by simp)
   have h2:=h r.2.1 (by simp)
   have h3:=h r.2.2.1 (by simp)
   simp only [go_sem,Int.reduceToNat]
   exact zJ (Iff.trans ⟨fun h=>⟨h1,h2,h3,h.1,h.2⟩,fun h=>⟨h.2.2.2.1,h.2.2.2.2⟩⟩ (qPC r))
  ·refine (qX (show loop f (false,0,())=_ from hl)).trans ?_
   rw [D_f (fun e=>h (by rw [e];intro x hx;simp [noR] at hx;exact hx))];rfl
 ·subst hf
  have h3:i < 3:=h
  have hi':i64 (iadd (i:Int) 1)=((i+1:Nat):Int):=i64n (by show (i:Int)+1=_;omega) (by omega)
  refine (qE (by simp only [go_sem,Int.reduceToNat];omega)).trans ?_
  refine (qH (by simp only [go_sem,Int.reduceToNat];omega)).trans ?_
  dsimp only
  rw [hi',qP,qK h,qeN,D_t hp];rfl
 ·subst hf
  have h3:i < 3:=h
  refine (qE (by simp only [go_sem,Int.reduceToNat];omega)).trans ?_
  refine (qH (by simp only [go_sem,Int.reduceToNat];omega)).trans ?_
  dsimp only
  rw [qP,qK h,qeN,D_f hp];rfl
 ·subst hf
  exact qB rfl
theorem qbP (r:jF):qaE (r,())=some (D (r=noR),()):=by
 unfold qaE
 simp only [go_sem,Int.reduceToNat,qc4]
 refine zJ (Iff.trans ?_ (qPC r))
 simp only [and_assoc]
def qrG (r:jF):Int×Int×Unit:=if r=noR then (0,9,()) else if 2147483647≤r.2.2.2.2.1 then (0,10,()) else (r.2.2.2.2.1+1,0,())
theorem qyC (r:jF) (h:r.2.2.2.2.1≤2147483647) (h0:0≤r.2.2.2.2.1):qoQ (r,())=some (qrG r):=by
 unfold qoQ qrG
 rw [qi4]
 by_cases hr:r=noR
 ·rw [D_t hr,if_pos hr];rfl
 ·rw [D_f hr,if_neg hr]
  by_cases ht:2147483647≤r.2.2.2.2.1
  ·rw [if_pos ht];simp (disch:=omega) only [go_sem,Int.reduceToNat]
  ·rw [if_neg ht];simp (disch:=omega) only [go_sem,Int.reduceToNat]
def zN (r:jF) (no:Int) (key:BB):jF×Int×Unit :=
 if ¬ wY (no,key,()) then (r,1,()) else if r=noR∨no≤r.1.1∨no < r.2.2.1.1 then (r,9,()) else ((r.1,r.2.1,(no,key,()),r.2.2.2.1,max r.2.2.2.2.1 no,()),0,())
theorem qcU (r:jF) (no:Int) (key:BB):qcH (r,no,key,())=some (zN r no key):=by
 unfold qcH zN
 dsimp only
 rw [qyA]
 refine (qF rfl).trans ?_
 by_cases hg:wY (no,key,())
 ·rw [if_neg (not_not_intro hg),D_t hg]
  refine (qB rfl).trans ?_
  rw [qi4]
  refine (qF rfl).trans ?_
  by_cases hc:r=noR∨no≤r.1.1∨no < r.2.2.1.1
  ·rw [if_pos hc]
   refine (qF (a:=(true,())) ?_).trans rfl
   simp (disch:=first | assumption | omega | (dsimp only;omega) | decide) only [go_sem,Int.reduceToNat]
   try exact w8 (by rcases hc with h | h | h <;> simp [h])
  ·rw [if_neg hc]
   simp only [not_or] at hc
   obtain ⟨c1,c2,c3⟩:=hc
   simp (disch:=omega) only [go_sem,Int.reduceToNat,c1]
   try rfl
 ·rw [if_pos hg,D_f hg];rfl
theorem qtP (r:jF) (no:Int) (key:BB):qg3 (r,no,key,())=some (zN r no key):=by
 unfold qg3 zN
 dsimp only
 by_cases hg:wY (no,key,())
 ·rw [if_neg (not_not_intro hg)]
  obtain ⟨h1,h2,h3⟩:=hg
  dsimp only at h1 h2 h3
  refine (qF (a:=(false,())) (by simp only [go_sem,Int.reduceToNat];try exact yI (by omega))).trans ?_
  refine (qB rfl).trans ?_
  rw [qbP]
  refine (qF rfl).trans ?_
  by_cases hc:r=noR∨no≤r.1.1∨no < r.2.2.1.1
  ·rw [if_pos hc]
   refine (qF (a:=(true,())) ?_).trans rfl
   simp only [go_sem,Int.reduceToNat]
   try exact w8 (by rcases hc with h | h | h <;> simp [h])
  ·rw [if_neg hc]
   simp only [not_or] at hc
   obtain ⟨c1,c2,c3⟩:=hc
   refine (qF (a:=(false,())) (by simp only [go_sem,Int.reduceToNat,c1];try exact yI (by omega))).trans ?_
   refine (qB rfl).trans ?_
   by_cases ht:r.2.2.2.2.1 < no
   ·rw [Int.max_eq_right (by omega)];simp (disch:=omega) only [go_sem,Int.reduceToNat]
   ·rw [Int.max_eq_left (by omega)];simp (disch:=omega) only [go_sem,Int.reduceToNat]
 ·rw [if_pos hg]
  unfold wY at hg
  dsimp only at hg
  refine (qF (a:=(true,())) (by simp only [go_sem,Int.reduceToNat];try exact w8 (by omega))).trans ?_
  rfl
def qHF (r:jF):jF:=(r.1,r.2.1,noG,r.2.2.2)
theorem qoP (r:jF):qb7 (r,())=some (qHF r,()):=rfl
def qq0 (r:jF):jF×Int×Unit:=if r.2.2.1=noG then (r,9,()) else ((r.2.2.1,r.1,noG,16,r.2.2.2.2),0,())
theorem qyB (r:jF):qi5 (r,())=some (qq0 r):=by
 unfold qi5 qq0
 rw [qeN]
 by_cases h:r.2.2.1=noG
 ·rw [if_pos h,D_t h];rfl
 ·rw [if_neg h,D_f h];rfl
theorem qjG (r:jF) (hr:r.2.2.1=noG∨¬ r.2.2.1.1=0):qcK (r,())=some (qq0 r):=by
 unfold qcK qq0
 by_cases h:r.2.2.1=noG
 ·rw [if_pos h]
  have:r.2.2.1.1=0:=by rw [h];rfl
  simp (disch:=omega) only [go_sem,Int.reduceToNat]
 ·rw [if_neg h]
  have:¬ r.2.2.1.1=0:=hr.resolve_left h
  simp (disch:=omega) only [go_sem,Int.reduceToNat]
  rfl
def newR (k:BB):jF×Int×Unit:=if k.length=32 then (((1,k,()),noG,noG,0,1,()),0,()) else (noR,1,())
theorem qmS (k:BB):qjH (k,())=some (newR k):=by
 unfold qjH newR
 by_cases h:k.length=32
 ·rw [if_pos h];simp (disch:=omega) only [go_sem,Int.reduceToNat];rfl
 ·rw [if_neg h];simp (disch:=omega) only [go_sem,Int.reduceToNat];rfl
def w9 (r:jF):Prop:=r=noR∨(wY r.1∧r.2.2.2.2.1≤2147483647∧r.1.1≤r.2.2.2.2.1∧r.2.2.1.1≤r.2.2.2.2.1 ∧
 (r.2.1=noG∧r.2.2.2.1=0∨¬ r.2.1=noG∧wY r.2.1∧r.2.1.1 < r.1.1∧1≤r.2.2.2.1∧r.2.2.2.1≤16)∧(r.2.2.1=noG∨wY r.2.2.1∧r.1.1 < r.2.2.1.1))
theorem qc5 (r:jF):yS (r,r,())=some (true,()):=by
 unfold yS wB
 simp only [go_sem,Int.reduceToNat,qY]
def qFo (r:jF) (no:Int):BB×Bool×Unit :=
 if no < 1 then ([],false,()) else if r.1.1=no then (r.1.2.1,true,()) else if r.2.1.1=no then (r.2.1.2.1,true,()) else if r.2.2.1.1=no then (r.2.2.1.2.1,true,()) else ([],false,())
theorem qjI (r:jF) (no:Int):qfN (r,no,())=some (qFo r no):=by
 unfold qfN qFo
 by_cases h0:no < 1
 ·rw [if_pos h0];simp (disch:=omega) only [go_sem,Int.reduceToNat]
 rw [if_neg h0]
 by_cases h1:r.1.1=no
 ·rw [if_pos h1];simp (disch:=omega) only [go_sem,Int.reduceToNat]
 rw [if_neg h1]
 by_cases h2:r.2.1.1=no
 ·rw [if_pos h2];simp (disch:=omega) only [go_sem,Int.reduceToNat]
 rw [if_neg h2]
 by_cases h3:r.2.2.1.1=no
 ·rw [if_pos h3];simp (disch:=omega) only [go_sem,Int.reduceToNat]
 rw [if_neg h3];simp (disch:=omega) only [go_sem,Int.reduceToNat]
def jA (n:Int):Prop:=0≤n∧n≤4611686018427387904
instance (n:Int):Decidable (jA n):=by unfold jA;infer_instance
def e0 (v:TEnv):Int:=nth v.2.2.1 0 0
def e1 (v:TEnv):Int:=nth v.2.2.1 1 0
def qd4 (v:TEnv):Prop:=(v.1=1∨v.1=2)∧jA (e0 v)∧jA (e1 v)∧jA v.2.2.2.2.1∧(v.2.1=0∨v.2.1=1)∧(0≤v.2.2.2.1∧v.2.2.2.1≤2147483647)∧1≤v.2.2.2.2.2.1.length∧v.2.2.2.2.2.1.length≤900
theorem qdP (n hi:Int):qcO (n,hi,())=some (D (0≤n∧n≤hi),()):=by
 unfold qcO
 simp only [go_sem,Int.reduceToNat]
theorem qaC (n:Int):yQ (n,())=some (D (jA n),()):=by
 unfold yQ jA
 simp only [go_sem,Int.reduceToNat]
theorem qmY (v:TEnv):qkJ (v,())=some (D (qd4 v),()):=by
 obtain ⟨k,d,e,g,s,b,t,⟨⟩⟩:=v
 unfold qkJ qd4 e0 e1
 dsimp only
 by_cases hk:k=1∨k=2
 ·refine (qF (a:=(false,())) (by rcases hk with rfl | rfl <;> rfl)).trans ?_
  refine (qB rfl).trans ((qH rfl).trans ((qH rfl).trans ?_))
  rw [show nat 0=0 from rfl,show nat 1=1 from rfl]
  generalize nth e 0 0=x
  generalize nth e 1 0=y
  generalize hf:(fun (x_1:Bool×Int×Unit)=>(_:Option (LS (Bool×Int×Unit) (Bool×Unit))))=f
  have key:=qcB (f:=f) [x,y,s] (fun i=>(false,(i:Int),())) 0 ((false,()):Bool×Unit) jA (fun i h hp => ?_) (fun i h hp => ?_) ?_
  ·rcases key with ⟨h,hl⟩ | ⟨h,hl⟩
   ·refine (qX (show loop f (false,0,())=_ from hl)).trans ?_
    refine (qH g62).trans ?_
    have h1:=h x (by simp)
    have h2:=h y (by simp)
    have h3:=h s (by simp)
    simp only [go_sem,Int.reduceToNat,qdP]
    refine zJ ?_
    simp only [hk,h1,h2,h3,true_and]
    omega
   ·refine (qX (show loop f (false,0,())=_ from hl)).trans ?_
    rw [D_f (fun hc=>h fun z hz => ?_)]
    ·rfl
    ·simp only [List.mem_cons,List.not_mem_nil,or_false] at hz
     rcases hz with rfl | rfl | rfl
     ·exact hc.2.1
     ·exact hc.2.2.1
     ·exact hc.2.2.2.1
  ·subst hf
   have h3:i < 3:=h
   have hi':i64 (iadd (i:Int) 1)=((i+1:Nat):Int):=i64n (by show (i:Int)+1=_;omega) (by omega)
   refine (qE (by simp only [go_sem,Int.reduceToNat];omega)).trans ?_
   refine (qH (by simp only [go_sem,Int.reduceToNat];omega)).trans ?_
   dsimp only
   rw [hi',qP,qK h,qdP,D_t (show 0≤[x,y,s][i]∧[x,y,s][i]≤4611686018427387904 from hp)];rfl
  ·subst hf
   have h3:i < 3:=h
   refine (qE (by simp only [go_sem,Int.reduceToNat];omega)).trans ?_
   refine (qH (by simp only [go_sem,Int.reduceToNat];omega)).trans ?_
   dsimp only
   rw [qP,qK h,qdP,D_f (show ¬ (0≤[x,y,s][i]∧[x,y,s][i]≤4611686018427387904) from hp)];rfl
  ·subst hf
   exact qB rfl
 ·rw [D_f (fun h=>hk h.1)]
  simp only [not_or] at hk
  obtain ⟨h1,h2⟩:=hk
  refine (qF (a:=(true,())) (by simp only [go_sem,Int.reduceToNat,h1,h2])).trans ?_
  rfl
theorem qiG (v:TEnv):qc2 (v,())=some (D (qd4 v),()):=by
 obtain ⟨k,d,e,g,s,b,t,⟨⟩⟩:=v
 unfold qc2 qd4 e0 e1
 dsimp only
 refine (qH rfl).trans ?_
 rw [qaC]
 refine (qF rfl).trans ?_
 refine (qH rfl).trans ?_
 rw [qaC]
 refine (qF rfl).trans ?_
 rw [qaC]
 refine (qF rfl).trans ?_
 dsimp only
 rw [show nat 0=0 from rfl,show nat 1=1 from rfl]
 by_cases h1:jA (nth e 0 0)∧jA (nth e 1 0)∧jA s
 ·obtain ⟨a1,a2,a3⟩:=h1
  rw [D_t a1,D_t a2,D_t a3]
  by_cases hk:k=1
  ·subst hk
   by_cases hd:d=0
   ·subst hd
    simp only [go_sem,Int.reduceToNat];refine zJ ?_;simp only [a1,a2,a3,true_and];omega
   ·by_cases hd':d=1
    ·subst hd'
     simp only [go_sem,Int.reduceToNat];refine zJ ?_;simp only [a1,a2,a3,true_and];omega
    ·rw [D_f (p:=_∧_) (fun h=>by have:=h.2.2.2.2.1;omega)];simp (disch:=omega) only [go_sem,Int.reduceToNat]
  ·by_cases hk':k=2
   ·subst hk'
    by_cases hd:d=0
    ·subst hd
     simp only [go_sem,Int.reduceToNat];refine zJ ?_;simp only [a1,a2,a3,true_and];omega
    ·by_cases hd':d=1
     ·subst hd'
      simp only [go_sem,Int.reduceToNat];refine zJ ?_;simp only [a1,a2,a3,true_and];omega
     ·rw [D_f (p:=_∧_) (fun h=>by have:=h.2.2.2.2.1;omega)];simp (disch:=omega) only [go_sem,Int.reduceToNat]
   ·rw [D_f (p:=_∧_) (fun h=>by have:=h.1;omega)];simp (disch:=omega) only [go_sem,Int.reduceToNat]
 ·rw [D_f (p:=(k=1∨k=2)∧_) (fun h=>h1 ⟨h.2.1,h.2.2.1,h.2.2.2.1⟩)]
  by_cases c1:jA (nth e 0 0)
  ·by_cases c2:jA (nth e 1 0)
   ·have c3:¬ jA s:=fun h=>h1 ⟨c1,c2,h⟩
    rw [D_t c1,D_t c2,D_f c3];rfl
   ·rw [D_t c1,D_f c2];rfl
  ·rw [D_f c1];rfl
def bigN (w:Nat) (n:Int):BB:=ps 256 byt n.toNat w
theorem qR (w:Nat) (n:Int):(bigN w n).length=w:=zP _ _ _ _
def qT (v:TEnv):BB:=bigN 1 v.1++bigN 1 v.2.1++bigN 8 (e0 v)++bigN 8 (e1 v)++bigN 4 v.2.2.2.1++bigN 8 v.2.2.2.2.1++v.2.2.2.2.2.1
theorem jS (v:TEnv):(qT v).length=30+v.2.2.2.2.2.1.length:=by unfold qT;simp only [List.length_append,qR]
theorem qMj {n:Int} {w:Nat} (h1:1≤w) (h8:w≤8) (h0:0≤n) (h:n < 256 ^ w) (hn:n≤9223372036854775807):qaV (n,(w:Int),())=some (bigN w n,0,()):=by
 rw [qsT _ _ hn,if_pos ⟨by omega,by omega,h0,by rw [Int.toNat_natCast];exact h⟩,Int.toNat_natCast];rfl
theorem qfW {n:Int} {w:Nat} (h1:1≤w) (h8:w≤8) (h0:0≤n) (h:n < 256 ^ w) (hn:n≤9223372036854775807):j0 (n,(w:Int),())=some (bigN w n,()):=by
 unfold j0
 dsimp only
 rw [qeQ _ _ hn,if_pos ⟨by omega,by omega,h0,by rw [Int.toNat_natCast];exact h⟩,Int.toNat_natCast];rfl
theorem quD {f:Int×BB×Unit→Option (LS (Int×BB×Unit) Unit)} (w:Nat) (l:List Int) (acc:BB) (h1:1≤w) (h8:w≤8) (hl:l.length≤10) (ha:acc.length≤1000) (h:∀ n∈l,0≤n∧n < 256 ^ w∧n≤9223372036854775807)
  (hf:f=fun (x_1:Int×BB×Unit)=>sel (lt x_1.1 (len l)) (ck (inB x_1.1 (len l)) (ob (qaV (nth l (nat x_1.1) 0,(w:Int),())) fun (a:BB×Int×Unit)=>ck (rm 1 (nadd (ln x_1.2.1) (ln a.1))) (some (LS.nx (i64 (iadd x_1.1 1),app x_1.2.1 a.1,()))))) (some (LS.ex 0 (x_1.1,x_1.2.1,())))) :
  loop f (0,acc,())=some (.ex 0 ((l.length:Int),acc++l.flatMap (bigN w),())):=by
 have hL:∀ i,((l.take i).flatMap (bigN w)).length≤8*i:=by
  intro i
  rw [List.length_flatMap]
  have:((l.take i).map fun a=>(bigN w a).length)=(l.take i).map fun _=>w:=List.map_congr_left fun a _=>qR w a
  rw [this,List.map_const',List.sum_replicate_nat,List.length_take]
  have:min i l.length*w≤i*8:=Nat.mul_le_mul (Nat.min_le_left _ _) h8
  omega
 have step:∀ i:Nat,i < l.length→f ((i:Int),acc++(l.take i).flatMap (bigN w),())=some (.nx (((i+1:Nat):Int),acc++(l.take (i+1)).flatMap (bigN w),())):=by
  intro i hi
  subst hf
  have hi':i64 (iadd (i:Int) 1)=((i+1:Nat):Int):=i64n (by show (i:Int)+1=_;omega) (by omega)
  obtain ⟨q1,q2,q3⟩:=h l[i] (List.getElem_mem hi)
  have hLi:=hL i
  refine (qE (by simp only [go_sem,Int.reduceToNat];omega)).trans ?_
  refine (qH (by simp only [go_sem,Int.reduceToNat];omega)).trans ?_
  dsimp only
  rw [hi',qP,qK hi,qMj h1 h8 q1 q2 q3]
  refine (qF rfl).trans ?_
  have hb:=qR w l[i]
  refine (qH (by simp only [go_sem,Int.reduceToNat];simp only [List.length_append,qR];omega)).trans ?_
  rw [List.take_succ_eq_append_getElem hi,List.flatMap_append,List.flatMap_cons,List.flatMap_nil,List.append_nil]
  unfold app
  rw [List.append_assoc]
 have hend:∀ u,f ((l.length:Int),u,())=some (.ex 0 ((l.length:Int),u,())):=by subst hf;intro u;exact qB (by simp only [go_sem,Int.reduceToNat];omega)
 have:=(qM (f:=f) (fun i=>((i:Int),acc++(l.take i).flatMap (bigN w),())) l.length step 0 (Nat.zero_le _)).trans (qU (hend _))
 rw [List.take_of_length_le (Nat.le_refl _),List.take_zero,List.flatMap_nil,List.append_nil] at this
 exact this
theorem qmZ (v:TEnv) (hv:qd4 v):qkK (v,())=some (qT v,0,()):=by
 unfold qkK
 dsimp only
 rw [qmY,D_t hv]
 refine (qF rfl).trans ?_
 refine (qB rfl).trans ?_
 obtain ⟨k,d,e,g,s,b,t,⟨⟩⟩:=v
 unfold qT
 obtain ⟨h1,h2,h3,h4,h5,h6,h7,h8⟩:=hv
 unfold e0 jA at h2
 unfold e1 jA at h3
 unfold jA at h4
 unfold e0 e1
 dsimp only at *
 rw [show nat 0=0 from rfl,show nat 1=1 from rfl]
 generalize nth e 0 0=x at h2
 generalize nth e 1 0=y at h3
 refine (qX (quD 1 [k,d] [] (by omega) (by omega) (by simp) (by simp) (fun n hn => ?_) rfl)).trans ?_
 ·simp only [List.mem_cons,List.not_mem_nil,or_false] at hn
  rcases hn with rfl | rfl <;> omega
 refine (qH g62).trans ((qH rfl).trans ((qH rfl).trans ?_))
 refine (qX (quD 8 [x,y] _ (by omega) (by omega) (by simp) (by simp [qR]) (fun n hn => ?_) rfl)).trans ?_
 ·simp only [List.mem_cons,List.not_mem_nil,or_false] at hn
  rcases hn with rfl | rfl <;> omega
 refine (qH g62).trans ?_
 refine (qX (quD 4 [g] _ (by omega) (by omega) (by simp) (by simp [qR]) (fun n hn => ?_) rfl)).trans ?_
 ·simp only [List.mem_cons,List.not_mem_nil,or_false] at hn
  subst hn;omega
 refine (qH g62).trans ?_
 refine (qX (quD 8 [s] _ (by omega) (by omega) (by simp) (by simp [qR]) (fun n hn => ?_) rfl)).trans ?_
 ·simp only [List.mem_cons,List.not_mem_nil,or_false] at hn
  subst hn;omega
 refine (qH g62).trans ?_
 dsimp only
 refine (qH (by simp only [go_sem,Int.reduceToNat];simp [qR];omega)).trans ?_
 unfold app
 simp only [List.flatMap_cons,List.flatMap_nil,List.append_nil,List.nil_append,List.append_assoc]
theorem qbO (v:TEnv) (hv:qd4 v):yL (v,())=some (qT v,0,()):=by
 unfold yL
 dsimp only
 rw [qiG,D_t hv]
 refine (qF rfl).trans ?_
 refine (qB rfl).trans ?_
 obtain ⟨k,d,e,g,s,b,t,⟨⟩⟩:=v
 unfold qT
 obtain ⟨h1,h2,h3,h4,h5,h6,h7,h8⟩:=hv
 unfold e0 jA at h2
 unfold e1 jA at h3
 unfold jA at h4
 unfold e0 e1
 dsimp only at *
 rw [show nat 0=0 from rfl,show nat 1=1 from rfl]
 generalize nth e 0 0=x at h2
 generalize nth e 1 0=y at h3
 rw [show j0 (k,1,())=_ from qfW (w:=1) (by omega) (by omega) (by omega) (by omega) (by omega)]
 refine (qF rfl).trans ?_
 rw [show j0 (d,1,())=_ from qfW (w:=1) (by omega) (by omega) (by omega) (by omega) (by omega)]
 refine (qF rfl).trans ?_
 have l1:=qR 1 k
 have l2:=qR 1 d
 refine (qH (by simp only [go_sem,Int.reduceToNat];omega)).trans ?_
 refine (qH rfl).trans ?_
 rw [show j0 (x,8,())=_ from qfW (w:=8) (by omega) (by omega) (by omega) (by omega) (by omega)]
 refine (qF rfl).trans ?_
 refine (qH (by simp only [go_sem,Int.reduceToNat];simp [qR])).trans ?_
 refine (qH rfl).trans ?_
 rw [show j0 (y,8,())=_ from qfW (w:=8) (by omega) (by omega) (by omega) (by omega) (by omega)]
 refine (qF rfl).trans ?_
 refine (qH (by simp only [go_sem,Int.reduceToNat];simp [qR])).trans ?_
 rw [show j0 (g,4,())=_ from qfW (w:=4) (by omega) (by omega) (by omega) (by omega) (by omega)]
 refine (qF rfl).trans ?_
 refine (qH (by simp only [go_sem,Int.reduceToNat];simp [qR])).trans ?_
 rw [show j0 (s,8,())=_ from qfW (w:=8) (by omega) (by omega) (by omega) (by omega) (by omega)]
 refine (qF rfl).trans ?_
 refine (qH (by simp only [go_sem,Int.reduceToNat];simp [qR])).trans ?_
 refine (qH (by simp only [go_sem,Int.reduceToNat];simp [qR];omega)).trans ?_
 rfl
def qmO (v:TEnv):Prop:=qd4 v∧v.2.2.2.2.2.2.1.length=16
def kT (v:TEnv) (t:BB):TEnv:=(v.1,v.2.1,v.2.2.1,v.2.2.2.1,v.2.2.2.2.1,v.2.2.2.2.2.1,t,())
theorem qy3 (v:TEnv):qp1 (v,())=some (D (qmO v),()):=by
 unfold qp1 qmO
 rw [qmY]
 simp only [go_sem,Int.reduceToNat]
 exact zJ (and_congr_right fun _=>by omega)
theorem qiH (v:TEnv):qaD (v,())=some (D (qmO v),()):=by
 unfold qaD qmO
 rw [qiG]
 simp only [go_sem,Int.reduceToNat]
 exact zJ (and_congr_right fun _=>by omega)
theorem qy2 (v:TEnv) (hv:qmO v):qp0 (v,())=some (qT v++v.2.2.2.2.2.2.1,0,()):=by
 unfold qp0
 dsimp only
 rw [qy3,D_t hv]
 refine (qF rfl).trans ?_
 refine (qB rfl).trans ?_
 rw [qmZ _ hv.1]
 refine (qF rfl).trans ?_
 have h1:=jS v
 have h2:=hv.2
 have h3:=hv.1.2.2.2.2.2.2.2
 refine (qH (by simp only [go_sem,Int.reduceToNat];omega)).trans ?_
 rfl
end Yp