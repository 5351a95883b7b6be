/- A part of the proof of the statements of this seat: plain functions, and laws on them. No condition of its own. -/
import Derived.Test.YtbpaehkcjccplaaGreatDoorQ0
import Derived.RangeFuncNested
set_option linter.unusedVariables false
set_option linter.unusedSimpArgs false
namespace Yp
open Go
theorem qrB {σ ρ:Type} {f:σ→Option (LS σ ρ)}:∀ {n m:Nat} {x:σ} {r:LS σ ρ},qkB f n x=some r→n≤m→qkB f m x=some r
 | 0,_,_,_,h,_=>by simp [qkB] at h
 | n+1,0,_,_,_,h=>by omega
 | n+1,m+1,x,r,h,hm=>by
  simp only [qkB] at h ⊢
  split at h
  ·exact qrB h (by omega)
  ·exact h
theorem qhH {σ ρ:Type} {f:σ→Option (LS σ ρ)} {x:σ} {r:LS σ ρ} (n:Nat) (h:qkB f n x=some r):loop f x=some r:=by
 have hex:∃ n,(qkB f n x).isSome:=⟨n,by rw [h];rfl⟩
 unfold loop
 rw [dif_pos hex]
 have hs:=Classical.choose_spec hex
 obtain ⟨r',hr⟩:=Option.isSome_iff_exists.1 hs
 have h1:=qrB hr (Nat.le_max_left _ n)
 have h2:=qrB h (Nat.le_max_right (Classical.choose hex) n)
 rw [hr];rw [h1] at h2;exact h2
theorem vW {σ ρ:Type} {f:σ→Option (LS σ ρ)} {x y:σ} (h:f x=some (.nx y)):loop f x=loop f y:=by
 cases hy:loop f y with
 | some r =>
  obtain ⟨n,hn⟩:=qwR hy
  exact qhH (n+1) (by simp [qkB,h,hn])
 | none =>
  cases hx:loop f x with
  | none=>rfl
  | some r =>
   obtain ⟨n,hn⟩:=qwR hx
   cases n with
   | zero=>simp [qkB] at hn
   | succ n =>
    simp only [qkB,h] at hn
    rw [qhH n hn] at hy;cases hy
theorem qV {σ ρ:Type} {f:σ→Option (LS σ ρ)} {x y:σ} {k:Nat} (h:f x=some (.ex k y)):loop f x=some (.ex k y):=qhH 1 (by simp [qkB,h])
theorem qeY {σ ρ:Type} {f:σ→Option (LS σ ρ)} {x:σ} {r:ρ} (h:f x=some (.rt r)):loop f x=some (.rt r):=qhH 1 (by simp [qkB,h])
theorem qN {σ ρ:Type} {f:σ→Option (LS σ ρ)} (st:Nat→σ) (n:Nat) (h:∀ i,i < n→f (st i)=some (.nx (st (i+1)))):∀ i,i≤n→loop f (st i)=loop f (st n):=by
 intro i hi
 obtain ⟨d,rfl⟩:∃ d,n=i+d:=⟨n - i,by omega⟩
 clear hi
 induction d generalizing i with
 | zero=>rfl
 | succ d ih =>
  rw [vW (h i (by omega))]
  have:=ih (i+1) (fun j hj=>h j (by omega))
  rw [this];congr 2;omega
theorem zX {n:Int} (h1 : -9223372036854775808≤n) (h2:n≤9223372036854775807):i64 n=n:=by
 show (if (true && decide (n % 18446744073709551616 ≥ 9223372036854775808))=true then n % 18446744073709551616 - 18446744073709551616 else n % 18446744073709551616)=n
 simp only [Bool.true_and,decide_eq_true_eq]
 split <;> omega
theorem qHa {α:Type} (a b:α):sel true a b=a:=rfl
theorem qDC {α:Type} (a b:α):sel false a b=b:=rfl
theorem ck_t {α:Type} (a:Option α):ck true a=a:=rfl
theorem ob_s {α β:Type} (a:α) (k:α→Option β):ob (some a) k=k a:=rfl
end Yp
namespace Yp
open Go
theorem qF {α β:Type} {o:Option α} {a:α} {k:α→Option β} (h:o=some a):ob o k=k a:=by rw [h];rfl
theorem qC {α:Type} {c:Bool} {a b:α} (h:c=true):sel c a b=a:=by rw [h];rfl
theorem qB {α:Type} {c:Bool} {a b:α} (h:c=false):sel c a b=b:=by rw [h];rfl
theorem qH {α:Type} {c:Bool} {a:Option α} (h:c=true):ck c a=a:=by rw [h];rfl
theorem zC {σ ρ β:Type} {o o':Option (LS σ ρ)} {kn:σ→Option β} {ke:Nat→σ→Option β} {kr:ρ→Option β} (h:o=o'):lc o kn ke kr=lc o' kn ke kr:=by rw [h]
theorem jP {σ ρ:Type} {f:σ→Option (LS σ ρ)} (st:Nat→σ) (n:Nat) (p:Nat→Prop) (r:ρ) (k:Nat) (hs:∀ i,i < n→(∀ j,j≤i→p j)→f (st i)=some (.nx (st (i+1)))) (hb:∀ i,i < n→(∀ j,j < i→p j)→¬ p i→f (st i)=some (.rt r))
  (he:(∀ i,i < n→p i)→f (st n)=some (.ex k (st n))):((∀ i,i < n→p i)∧loop f (st 0)=some (.ex k (st n)))∨((∃ i,i < n∧¬ p i)∧loop f (st 0)=some (.rt r)):=by
 by_cases h:∀ i,i < n→p i
 ·refine .inl ⟨h, ?_⟩
  rw [qN st n (fun i hi=>hs i hi fun j hj=>h j (by omega)) 0 (Nat.zero_le _)]
  exact qV (he h)
 ·refine .inr ?_
  have hex:∃ i,i < n∧¬ p i:=by
   refine Classical.byContradiction fun hc=>h fun i hi=>Classical.byContradiction fun hp=>hc ⟨i,hi,hp⟩
  refine ⟨hex, ?_⟩
  obtain ⟨k,hk,hp⟩:=hex
  induction k using Nat.strongRecOn with
  | _ k ih =>
   by_cases hl:∃ j,j < k∧¬ p j
   ·obtain ⟨j,hj,hpj⟩:=hl
    exact ih j hj (by omega) hpj
   ·have hall:∀ i,i < k→p i:=fun i hi=>Classical.byContradiction fun hp=>hl ⟨i,hi,hp⟩
    rw [qN st k (fun i hi=>hs i (by omega) fun j hj=>hall j (by omega)) 0 (Nat.zero_le _)]
    exact qeY (hb k hk hall hp)
theorem qpB {a b:Nat}:lt (a:Int) (b:Int)=decide (a < b):=by unfold lt;rw [decide_eq_decide];omega
theorem qNe {a b:Nat}:le (a:Int) (b:Int)=decide (a≤b):=by unfold le;rw [decide_eq_decide];omega
theorem lt_t {a b:Int} (h:a < b):lt a b=true:=decide_eq_true h
theorem lt_f {a b:Int} (h:¬ a < b):lt a b=false:=decide_eq_false h
theorem le_t {a b:Int} (h:a≤b):le a b=true:=decide_eq_true h
theorem le_f {a b:Int} (h:¬ a≤b):le a b=false:=decide_eq_false h
theorem kM {a b:Int} (h:a=b):beq a b=true:=by unfold beq;exact beq_iff_eq.2 h
theorem vX {a b:Int} (h:¬ a=b):beq a b=false:=by unfold beq;exact beq_eq_false_iff_ne.2 h
theorem qP0 {a b:BB} (h:a=b):seq a b=true:=by unfold seq;exact beq_iff_eq.2 h
theorem qP1 {a b:BB} (h:¬ a=b):seq a b=false:=by unfold seq;exact beq_eq_false_iff_ne.2 h
theorem qRX {a b:Nat} (h:a < b):nlt a b=true:=by unfold nlt;rw [Nat.blt_eq];exact h
theorem qSK {a b:Nat} (h:¬ a < b):nlt a b=false:=by
 unfold nlt;cases hb:Nat.blt a b with
 | false=>rfl
 | true=>rw [Nat.blt_eq] at hb;exact absurd hb h
theorem zF {a n:Nat} (h:a < n):inB (a:Int) (n:Int)=true:=by
 simp only [inB,Bool.and_eq_true,decide_eq_true_eq];omega
theorem qSe {a n:Int} (h0:0≤a) (h:a < n):inB a n=true:=by
 simp only [inB,Bool.and_eq_true,decide_eq_true_eq];omega
theorem qzI {a b n:Int} (h0:0≤a) (h:a≤b) (h':b≤n):inC a b n=true:=by
 simp only [inC,Bool.and_eq_true,decide_eq_true_eq];omega
theorem rm_t {c n:Nat} (h:n*c≤140737488355328):rm c n=true:=decide_eq_true h
theorem qaV {n:Nat} (h:n≤9223372036854775807):i64 (n:Int)=(n:Int):=zX (by omega) (by omega)
theorem qQG {α:Type} (l:List α):len l=((l.length:Nat):Int):=rfl
theorem qL {α:Type} {l:List α} {i:Nat} {d:α} (h:i < l.length):nth l i d=l[i]:=by
 simp [nth,List.getD_eq_getElem?_getD,h]
theorem qzB (x:UInt8):x.toNat < 256:=x.toNat_lt
theorem quW (q:Nat):u8 (q:Int)=UInt8.ofNat q:=by
 apply UInt8.toNat_inj.1
 unfold u8
 have h1:(UInt8.ofInt (q:Int)).toNat=q % 256:=by
  simp [UInt8.ofInt,UInt8.toNat_ofNat]
  omega
 rw [h1];simp
theorem qOu (b n:Nat):((b:Int) ^ n)=((b ^ n:Nat):Int):=(Int.natCast_pow b n).symm
theorem qAB {l:BB} {i:Nat} (h:i < l.length) (hl:l[i].toNat < 128):decode l i=(l[i].toNat,1):=by
 have hb:((⟨l.toArray⟩:ByteArray).get! (i+0)).toNat=l[i].toNat:=by
  show (l.toArray[i+0]!).toNat=_
  simp [h]
 unfold decode Utf8.decode
 simp only [hb]
 rw [if_pos hl]
theorem qIK {l:BB} {i:Nat} (h:i < l.length) (hl:¬ l[i].toNat < 128):128≤(decode l i).1∧(decode l i).1≤1114111:=by
 have hb:((⟨l.toArray⟩:ByteArray).get! (i+0)).toNat=l[i].toNat:=by
  show (l.toArray[i+0]!).toNat=_
  simp [h]
 have h256:=qzB l[i]
 unfold decode Utf8.decode
 simp only [hb,if_neg hl,Utf8.runeError]
 have b:∀ k,((⟨l.toArray⟩:ByteArray).get! k).toNat < 256:=fun k=>qzB _
 generalize l[i].toNat=c at *
 repeat' split
 all_goals simp only
 all_goals (rename_i hc hd;simp only [Bool.and_eq_true,decide_eq_true_eq,beq_iff_eq,Utf8.valid,Bool.or_eq_true] at hc hd;omega)
theorem qOP {a b:Nat}:iadd (a:Int) (b:Int)=((a+b:Nat):Int):=by simp [iadd]
theorem qON {a b:Nat}:imul (a:Int) (b:Int)=((a*b:Nat):Int):=by simp [imul]
theorem qOM {a b:Nat} (h:b≤a):isub (a:Int) (b:Int)=((a - b:Nat):Int):=by simp only [isub];omega
theorem qOO {a b:Nat}:idiv (a:Int) (b:Int)=((a / b:Nat):Int):=by simp only [idiv];exact (Int.ofNat_tdiv _ _).symm
theorem qmB {a b:Nat}:imod (a:Int) (b:Int)=((a % b:Nat):Int):=by simp only [imod];exact (Int.ofNat_tmod _ _).symm
theorem zS {a b:Nat} (h:a+b≤9223372036854775807):i64 (iadd (a:Int) (b:Int))=((a+b:Nat):Int):=by rw [qOP,qaV h]
theorem qwX {a b:Nat} (h:a*b≤9223372036854775807):i64 (imul (a:Int) (b:Int))=((a*b:Nat):Int):=by rw [qON,qaV h]
theorem qIx {a b:Nat} (h:b≤a) (h':a≤9223372036854775807):i64 (isub (a:Int) (b:Int))=((a - b:Nat):Int):=by rw [qOM h,qaV (by omega)]
theorem qrG {a b:Nat} (h':a≤9223372036854775807):i64 (idiv (a:Int) (b:Int))=((a / b:Nat):Int):=by rw [qOO,qaV (Nat.le_trans (Nat.div_le_self _ _) h')]
theorem qP {a:Nat}:nat (a:Int)=a:=by simp [nat]
theorem qSL {a:Nat} (h:a < 256):n8 (u8 (a:Int))=(a:Int):=by
 rw [quW];simp only [n8,UInt8.toNat_ofNat'];omega
end Yp
namespace Yp
open Go
def ps (B:Nat) (g:Nat→UInt8) (v:Nat):Nat→BB
 | 0=>[]
 | n+1=>g (v / B ^ n % B) :: ps B g v n
theorem zP (B:Nat) (g:Nat→UInt8) (v:Nat):∀ n,(ps B g v n).length=n
 | 0=>rfl
 | n+1=>by simp [ps,zP B g v n]
def dch (d:Nat):UInt8:=UInt8.ofNat (48+d)
def byt (d:Nat):UInt8:=UInt8.ofNat d
theorem qGX {n:Nat} {d z:UInt8} {tl:BB}:upd (rep (n+1) z++tl) n d=rep n z++d :: tl:=by
 induction n with
 | zero=>simp [upd,rep]
 | succ n ih =>
  have e1:rep (n+1+1) z++tl=z :: (rep (n+1) z++tl):=by simp [rep,List.replicate_succ]
  have e2:rep (n+1) z++d :: tl=z :: (rep n z++d :: tl):=by simp [rep,List.replicate_succ]
  rw [e1,e2,← ih];rfl
def hexs:BB:=[48,49,50,51,52,53,54,55,56,57,97,98,99,100,101,102]
theorem qOS:∀ d,d < 10→nth hexs d (u8 0)=dch d:=by decide
theorem qdV (v w:Int) (hv:v≤9223372036854775807):y9 (v,w,())=some (if 1≤w∧w≤18∧0≤v∧v < 10 ^ w.toNat then (ps 10 dch v.toNat w.toNat,0,()) else ([],1,())):=by
 unfold y9
 by_cases h1:w < 1
 ·rw [if_neg (by omega)];simp [sel,ob,lt,h1,none']
 by_cases h2:18 < w
 ·rw [if_neg (by omega)];simp [sel,ob,lt,h1,h2,none']
 by_cases h3:v < 0
 ·rw [if_neg (by omega)];simp [sel,ob,lt,h1,h2,h3,none']
 obtain ⟨n,rfl⟩:∃ n:Nat,w=n:=⟨w.toNat,by omega⟩
 obtain ⟨V,rfl⟩:∃ n:Nat,v=n:=⟨v.toNat,by omega⟩
 simp only [lt,h1,h2,h3,decide_false,decide_true,qDC,qHa,ob_s,Int.toNat_natCast]
 have c0:band (inC 0 (n:Int) n) (rm 1 (nat n))=true:=by simp [band,inC,rm,nat];omega
 rw [c0,ck_t]
 have e0:i64 (isub (n:Int) 1)=(n:Int) - 1:=zX (by simp only [isub];omega) (by simp only [isub];omega)
 rw [e0]
 generalize hf:(fun (x:Int×Int×BB×Unit)=>_)=f
 have step:∀ i,i < n→f (((V / 10 ^ i:Nat):Int),(n:Int) - 1 - i,rep (n - i) (u8 0)++ps 10 dch V i,())=some (.nx (((V / 10 ^ (i+1):Nat):Int),(n:Int) - 1 - (i+1:Nat),rep (n - (i+1)) (u8 0)++ps 10 dch V (i+1),())):=by
  intro i hi
  subst hf
  have hm:imod ((V / 10 ^ i:Nat):Int) 10=((V / 10 ^ i % 10:Nat):Int):=by simp only [imod];exact (Int.ofNat_tmod _ _).symm
  have hlt:V / 10 ^ i % 10 < 10:=Nat.mod_lt _ (by omega)
  have hle:V / 10 ^ i≤V:=Nat.div_le_self _ _
  have hd:i64 (idiv ((V / 10 ^ i:Nat):Int) 10)=((V / 10 ^ (i+1):Nat):Int):=by
   have:idiv ((V / 10 ^ i:Nat):Int) 10=((V / 10 ^ i / 10:Nat):Int):=by simp only [idiv];exact (Int.ofNat_tdiv _ _).symm
   rw [this,qaV (by omega),Nat.div_div_eq_div_mul,Nat.pow_succ]
  have hi1:i64 (isub ((n:Int) - 1 - i) 1)=(n:Int) - 1 - (i+1:Nat):=by
   rw [zX (by simp only [isub];omega) (by simp only [isub];omega)];simp only [isub];omega
  have hle0:le 0 ((n:Int) - 1 - i)=true:=by simp only [le,decide_eq_true_eq];omega
  have hb1:inB ((V / 10 ^ i % 10:Nat):Int) (len [48,49,50,51,52,53,54,55,56,57,97,98,99,100,101,102])=true:=zF (n:=16) (by omega)
  have hb2:inB ((n:Int) - 1 - i) (len (rep (n - i) (u8 0)++ps 10 dch V i))=true:=by
   simp only [inB,len,List.length_append,zP,rep,List.length_replicate,Bool.and_eq_true,decide_eq_true_eq];omega
  have hn:nat ((n:Int) - 1 - i)=n - (i+1):=by simp only [nat];omega
  have hn2:nat ((V / 10 ^ i % 10:Nat):Int)=V / 10 ^ i % 10:=by simp only [nat];omega
  have hs:rep (n - i) (u8 0)=rep (n - (i+1)+1) (u8 0):=by congr 1;omega
  show sel (le 0 ((n:Int) - 1 - i)) _ _=_
  rw [hle0,qHa]
  simp only [hm]
  rw [hb1,ck_t,hb2,ck_t,hd,hi1,hn,hn2,hs,qGX]
  have:=qOS _ hlt
  simp only [hexs] at this
  rw [this];rfl
 have hrun:=qN (f:=f) (fun i=>(((V / 10 ^ i:Nat):Int),(n:Int) - 1 - i,rep (n - i) (u8 0)++ps 10 dch V i,())) n step 0 (by omega)
 have hend:f (((V / 10 ^ n:Nat):Int),(n:Int) - 1 - n,rep (n - n) (u8 0)++ps 10 dch V n,())=some (.ex 0 (((V / 10 ^ n:Nat):Int),(n:Int) - 1 - n,rep (n - n) (u8 0)++ps 10 dch V n,())):=by
  subst hf
  have hle0:le 0 ((n:Int) - 1 - n)=false:=by simp only [le,decide_eq_false_iff_not];omega
  show sel (le 0 ((n:Int) - 1 - n)) _ _=_
  rw [hle0,qDC]
 have e1:(((V / 10 ^ 0:Nat):Int),(n:Int) - 1 - (0:Nat),rep (n - 0) (u8 0)++ps 10 dch V 0,())=(((V:Nat):Int),(n:Int) - 1,rep (nat n) (u8 0),()):=by
  simp [ps,nat]
 rw [e1,qV hend] at hrun
 rw [hrun]
 have e2:rep (n - n) (u8 0)++ps 10 dch V n=ps 10 dch V n:=by simp [rep]
 simp only [lc,e2]
 show sel (decide ((0:Int) < ((V / 10 ^ n:Nat):Int))) _ _=_
 by_cases hlt:V < 10 ^ n
 ·have:V / 10 ^ n=0:=Nat.div_eq_of_lt hlt
  rw [this,if_pos ⟨by omega,by omega,by omega,by exact_mod_cast hlt⟩];rfl
 ·have:0 < V / 10 ^ n:=Nat.div_pos (by omega) (Nat.pow_pos (by omega))
  rw [if_neg (fun h=>hlt (by exact_mod_cast h.2.2.2))]
  have hp:decide ((0:Int) < ((V / 10 ^ n:Nat):Int))=true:=by simp only [decide_eq_true_eq];omega
  rw [hp];rfl
end Yp
namespace Yp
open Go
theorem qRv (q:Nat):u8 (q:Int)=byt (q % 256):=by
 unfold u8 byt
 apply UInt8.toNat_inj.1
 have h1:(UInt8.ofInt (q:Int)).toNat=q % 256:=by
  simp [UInt8.ofInt,UInt8.toNat_ofNat]
  omega
 rw [h1];simp
theorem qL2 {V k:Nat} (hk:k≤64):shrI .i64 (V:Int) (k:Int)=((V / 2 ^ k:Nat):Int):=by
 unfold shrI
 have:Nat.min (Int.toNat (k:Int)) IntKind.i64.bits=k:=by
  show Nat.min (Int.toNat (k:Int)) 64=k
  rw [Int.toNat_natCast];exact Nat.min_eq_left hk
 rw [this,Int.ofNat_fdiv];norm_cast
theorem qkR (v w:Int) (hv:v≤9223372036854775807):wV (v,w,())=some (if 1≤w∧w≤8∧0≤v∧v < 256 ^ w.toNat then (ps 256 byt v.toNat w.toNat,0,()) else ([],1,())):=by
 unfold wV
 by_cases h1:w < 1
 ·rw [if_neg (by omega)];simp [sel,ob,lt,h1,none']
 by_cases h2:8 < w
 ·rw [if_neg (by omega)];simp [sel,ob,lt,h1,h2,none']
 by_cases h3:v < 0
 ·rw [if_neg (by omega)];simp [sel,ob,lt,h1,h2,h3,none']
 obtain ⟨n,rfl⟩:∃ n:Nat,w=n:=⟨w.toNat,by omega⟩
 obtain ⟨V,rfl⟩:∃ n:Nat,v=n:=⟨v.toNat,by omega⟩
 have hpow:∀ i,(256:Nat) ^ i=2 ^ (8*i):=fun i=>by rw [Nat.pow_mul]
 have hmul:∀ i:Nat,i≤8→i64 (imul 8 (i:Int))=((8*i:Nat):Int):=fun i hi=>by
  have:imul 8 (i:Int)=((8*i:Nat):Int):=by simp [imul]
  rw [this,qaV (by omega)]
 have hcond:(sel (lt (n:Int) 8) (ck (le 0 (i64 (imul 8 (n:Int)))) (some (lt 0 (shrI IntKind.i64 (V:Int) (i64 (imul 8 (n:Int)))),()))) (some (false,())):Option (Bool×Unit))=some (decide (¬ V < 256 ^ n),()):=by
  by_cases h8:n < 8
  ·have c1:lt (n:Int) 8=true:=by simp only [lt,decide_eq_true_eq];omega
   have c2:le 0 ((8*n:Nat):Int)=true:=by simp only [le,decide_eq_true_eq];omega
   rw [c1,qHa,hmul n (by omega),c2,ck_t,qL2 (by omega)]
   have:lt 0 ((V / 2 ^ (8*n):Nat):Int)=decide (¬ V < 256 ^ n):=by
    unfold lt
    rw [decide_eq_decide,hpow]
    constructor
    ·intro h hc
     rw [Nat.div_eq_of_lt hc] at h;simp at h
    ·intro h
     have:=Nat.div_pos (Nat.le_of_not_lt h) (Nat.pow_pos (by omega))
     omega
   rw [this]
  ·have c1:lt (n:Int) 8=false:=by simp only [lt,decide_eq_false_iff_not];omega
   have:n=8:=by omega
   rw [c1,qDC,this]
   have:V < 256 ^ 8:=by
    have:(256:Nat) ^ 8=18446744073709551616:=by decide
    omega
   simp [this]
 rw [hcond]
 simp only [lt,h1,h2,h3,decide_false,decide_true,qDC,qHa,ob_s,Int.toNat_natCast]
 have hp:((256:Int) ^ n)=((256 ^ n:Nat):Int):=(Int.natCast_pow 256 n).symm
 by_cases hlt:V < 256 ^ n
 rotate_left
 ·rw [if_neg (fun h=>hlt (by have:=h.2.2.2;rw [hp] at this;exact Int.ofNat_lt.1 this))]
  have hd:decide (¬ V < 256 ^ n)=true:=decide_eq_true hlt
  rw [hd,qHa];rfl
 rw [if_pos ⟨by omega,by omega,by omega,by rw [hp];exact Int.ofNat_lt.2 hlt⟩]
 have hd:decide (¬ V < 256 ^ n)=false:=decide_eq_false (fun h=>h hlt)
 rw [hd,qDC]
 have c0:band (inC 0 (n:Int) n) (rm 1 (nat n))=true:=by simp [band,inC,rm,nat];omega
 rw [c0,ck_t]
 have e0:i64 (isub (n:Int) 1)=(n:Int) - 1:=zX (by simp only [isub];omega) (by simp only [isub];omega)
 rw [e0]
 generalize hf:(fun (x:Int×BB×Unit)=>_)=f
 have step:∀ i,i < n→f ((i:Int),rep (n - i) (u8 0)++ps 256 byt V i,())=some (.nx (((i+1:Nat):Int),rep (n - (i+1)) (u8 0)++ps 256 byt V (i+1),())):=by
  intro i hi
  subst hf
  have c1:(decide ((i:Int) < len (rep (nat (n:Int)) (u8 0))))=true:=by simp only [len,rep,nat,List.length_replicate,decide_eq_true_eq];omega
  have c2:le 0 ((8*i:Nat):Int)=true:=by simp only [le,decide_eq_true_eq];omega
  have c3:i64 (isub ((n:Int) - 1) i)=((n - (i+1):Nat):Int):=by
   have:isub ((n:Int) - 1) i=((n - (i+1):Nat):Int):=by simp only [isub];omega
   rw [this,qaV (by omega)]
  have c4:inB ((n - (i+1):Nat):Int) (len (rep (n - i) (u8 0)++ps 256 byt V i))=true:=by
   refine zF ?_
   simp only [List.length_append,zP,rep,List.length_replicate];omega
  have c5:i64 (iadd (i:Int) 1)=((i+1:Nat):Int):=by
   have:iadd (i:Int) 1=((i+1:Nat):Int):=by simp [iadd]
   rw [this,qaV (by omega)]
  have hs:rep (n - i) (u8 0)=rep (n - (i+1)+1) (u8 0):=by congr 1;omega
  show sel (decide ((i:Int) < len (rep (nat (n:Int)) (u8 0)))) _ _=_
  rw [c1,qHa]
  simp only [hmul i (by omega),c3]
  rw [c2,ck_t,c4,ck_t,c5,qL2 (by omega),qRv,hs]
  have:nat ((n - (i+1):Nat):Int)=n - (i+1):=by simp [nat]
  rw [this,qGX,← hpow];rfl
 have hrun:=qN (f:=f) (fun i=>((i:Int),rep (n - i) (u8 0)++ps 256 byt V i,())) n step 0 (by omega)
 have hend:f ((n:Int),rep (n - n) (u8 0)++ps 256 byt V n,())=some (.ex 0 ((n:Int),rep (n - n) (u8 0)++ps 256 byt V n,())):=by
  subst hf
  have c1:(decide ((n:Int) < len (rep (nat (n:Int)) (u8 0))))=false:=by simp only [len,rep,nat,List.length_replicate,decide_eq_false_iff_not];omega
  show sel (decide ((n:Int) < len (rep (nat (n:Int)) (u8 0)))) _ _=_
  rw [c1,qDC]
 have e1:(((0:Nat):Int),rep (n - 0) (u8 0)++ps 256 byt V 0,())=((0:Int),rep (nat n) (u8 0),()):=by
  simp [ps,nat]
 rw [e1,qV hend] at hrun
 rw [hrun]
 have e2:rep (n - n) (u8 0)++ps 256 byt V n=ps 256 byt V n:=by simp [rep]
 simp only [lc,e2];rfl
end Yp
namespace Yp
open Go
def yA (c:UInt8):Prop:=48≤c.toNat∧c.toNat≤57
instance (c:UInt8):Decidable (yA c):=inferInstanceAs (Decidable (_∧_))
def figs (s:BB):Prop:=∀ (i:Nat) (h:i < s.length),yA s[i]
def val (s:BB):Nat:=s.foldl (fun n c=>10*n+(c.toNat - 48)) 0
theorem qAK {s:BB} {i:Nat} (h:i < s.length):val (s.take (i+1))=10*val (s.take i)+(s[i].toNat - 48):=by
 unfold val
 rw [List.take_succ_eq_append_getElem h,List.foldl_append];rfl
theorem qLR {s:BB}:∀ i,i≤s.length→(∀ j,j < i→∀ h:j < s.length,yA s[j])→val (s.take i) < 10 ^ i
 | 0,_,_=>by simp [val]
 | i+1,h,hf=>by
  have:=qLR i (by omega) (fun j hj=>hf j (by omega))
  have hi:=hf i (by omega) (by omega)
  rw [qAK (by omega),Nat.pow_succ]
  unfold yA at hi
  omega
theorem qQe {i:Nat} (h:i≤18):10 ^ i≤1000000000000000000:=by
 have:=Nat.pow_le_pow_right (n:=10) (by omega) h
 exact this
theorem qzN {c:Nat} (h1:48≤c) (h2:c≤57):qaY (ofn c,())=some (((c - 48:Nat):Int),true,()):=by
 have:c=48∨c=49∨c=50∨c=51∨c=52∨c=53∨c=54∨c=55∨c=56∨c=57:=by omega
 rcases this with rfl | rfl | rfl | rfl | rfl | rfl | rfl | rfl | rfl | rfl <;> decide
theorem qnC {c:Nat} (h:¬ (48≤c∧c≤57)):∃ q:Int,qaY (ofn c,())=some (q,false,()):=by
 refine ⟨i64 (i32 (isub (ofn c) 48)), ?_⟩
 unfold qaY
 by_cases h1:48≤c
 ·refine (qF (qC (le_t (by simp only [ofn];omega)))).trans ?_
  show some (_,le (ofn c) 57,())=_
  rw [le_f (by simp only [ofn];omega)]
 ·refine (qF (qB (le_f (by simp only [ofn];omega)))).trans ?_
  rfl
theorem qO1 {s:BB} {i:Nat} (h:i < s.length) (hf:yA s[i]):qaY (ofn (decode s i).1,())=some (((s[i].toNat - 48:Nat):Int),true,())∧(decode s i).2=1:=by
 have hl:s[i].toNat < 128:=by unfold yA at hf;omega
 rw [qAB h hl]
 exact ⟨qzN hf.1 hf.2,rfl⟩
theorem qQX {s:BB} {i:Nat} (h:i < s.length) (hf:¬ yA s[i]):∃ q:Int,qaY (ofn (decode s i).1,())=some (q,false,()):=by
 by_cases hl:s[i].toNat < 128
 ·rw [qAB h hl];exact qnC hf
 ·have:=qIK h hl
  exact qnC (by omega)
theorem quL {s:BB}:figs s↔∀ i,i < s.length→∀ h:i < s.length,yA s[i]:=⟨fun h i hi _=>h i hi,fun h i hi=>h i hi hi⟩
instance (s:BB):Decidable (figs s):=inferInstanceAs (Decidable (∀ (i:Nat) (h:i < s.length),yA s[i]))
end Yp
namespace Yp
open Go
theorem qK5 {b w:Nat} (hb:1≤b) (h:b ^ w≤9223372036854775807):∀ i,i≤w→b ^ i≤9223372036854775807:=fun i hi=>Nat.le_trans (Nat.pow_le_pow_right hb hi) h
theorem qbV (b w:Nat) (hb:1≤b) (hw:w≤1000) (h:b ^ w≤9223372036854775807):vA ((b:Int),(w:Int),())=some (((b ^ w:Nat):Int),()):=by
 unfold vA
 generalize hf:(fun (x:Int×Int×Unit)=>_)=f
 have key:=jP (f:=f) (fun i=>(((b ^ i:Nat):Int),(i:Int),())) w (fun _=>True) (0,()) 0 ?_ ?_ ?_
 ·have e0:(((b ^ 0:Nat):Int),((0:Nat):Int),())=((1:Int),(0:Int),()):=by simp
  rw [e0] at key
  rcases key with ⟨_,hr⟩ | ⟨⟨i,hi,hn⟩,hr⟩
  ·rw [hr];rfl
  ·exact absurd trivial hn
 ·intro i hi _
  subst hf
  refine (qC (lt_t (show (i:Int) < (w:Int) by omega))).trans ?_
  have:=qK5 hb h (i+1) (by omega)
  rw [Nat.pow_succ] at this
  simp only
  rw [qwX this]
  have c:i64 (iadd (i:Int) 1)=((i+1:Nat):Int):=zS (b:=1) (by omega)
  rw [c,← Nat.pow_succ]
 ·intro i _ _ h;exact absurd trivial h
 ·intro _;subst hf;exact qB (lt_f (show ¬ (w:Int) < (w:Int) by omega))
theorem qd9 (s:BB) (hl:s.length≤1000000):wM (s,())=some (decide (figs s),()):=by
 unfold wM
 generalize hf:(fun (x:Bool×Int×Unit)=>_)=f
 have cond:∀ i (hi:i < s.length),(sel (lt (n8 (nth s (nat (i:Int)) (u8 0))) (n8 (u8 48))) (some (true,())) (ck (inB (i:Int) (len s)) (some (lt (n8 (u8 57)) (n8 (nth s (nat (i:Int)) (u8 0))),()))):Option (Bool×Unit))=some (decide (¬ yA s[i]),()):=by
  intro i hi
  have hin:inB (i:Int) (len s)=true:=zF hi
  rw [qP,qL hi,hin,ck_t]
  have e1:n8 (u8 48)=48:=by decide
  have e2:n8 (u8 57)=57:=by decide
  rw [e1,e2]
  by_cases h1:s[i].toNat < 48
  ·rw [lt_t (by simp only [n8];omega),qHa,decide_eq_true (show ¬ yA s[i] from fun h=>by unfold yA at h;omega)]
  ·rw [lt_f (by simp only [n8];omega),qDC]
   by_cases h2:57 < s[i].toNat
   ·rw [lt_t (by simp only [n8];omega),decide_eq_true (show ¬ yA s[i] from fun h=>by unfold yA at h;omega)]
   ·rw [lt_f (by simp only [n8];omega),decide_eq_false (show ¬ ¬ yA s[i] from fun h=>h (by unfold yA;omega))]
 have key:=jP (f:=f) (fun i=>(false,(i:Int),())) s.length (fun i=>∀ h:i < s.length,yA s[i]) (false,()) 0 ?_ ?_ ?_
 ·rcases key with ⟨hall,hr⟩ | ⟨⟨i,hi,hn⟩,hr⟩
  ·rw [show (false,((0:Nat):Int),())=(false,(0:Int),()) from rfl] at hr
   rw [hr,decide_eq_true (quL.2 hall)];rfl
  ·rw [show (false,((0:Nat):Int),())=(false,(0:Int),()) from rfl] at hr
   rw [hr,decide_eq_false (fun hc=>hn (quL.1 hc i hi))];rfl
 ·intro i hi hp
  subst hf
  refine (qC (lt_t (by simp only [len];omega))).trans ?_
  refine (qH (zF hi)).trans ?_
  refine (qF (cond i hi)).trans ?_
  refine (qB (decide_eq_false (fun h=>h (hp i (Nat.le_refl _) hi)))).trans ?_
  have c:i64 (iadd (i:Int) 1)=((i+1:Nat):Int):=zS (b:=1) (by omega)
  simp only [c]
 ·intro i hi _ hp
  subst hf
  refine (qC (lt_t (by simp only [len];omega))).trans ?_
  refine (qH (zF hi)).trans ?_
  refine (qF (cond i hi)).trans ?_
  exact qC (decide_eq_true (fun h=>hp fun _=>h))
 ·intro _;subst hf;exact qB (lt_f (by simp only [len];omega))
theorem yH (s:BB) (hl:s.length≤1000000):yP (s,())=some (if 1≤s.length∧s.length≤18∧figs s then ((val s:Int),0,()) else (0,2,())):=by
 unfold yP
 by_cases h1:s.length < 1
 ·refine (qF (qC (lt_t (by simp only [len];omega)))).trans ?_
  rw [if_neg (by omega)];rfl
 by_cases h2:18 < s.length
 ·refine (qF ((qB (lt_f (by simp only [len];omega))).trans (qC (lt_t (by simp only [len];omega))))).trans ?_
  rw [if_neg (by omega)];rfl
 refine (qF (a:=(bnot (decide (figs s)),())) ?_).trans ?_
 ·refine (qB (lt_f (by simp only [len];omega))).trans ?_
  refine (qB (lt_f (by simp only [len];omega))).trans ?_
  exact qF (qd9 s hl)
 by_cases h3:figs s
 rotate_left
 ·refine (qC (by simp only [decide_eq_false h3,bnot,Bool.not_false])).trans ?_
  rw [if_neg (fun h=>h3 h.2.2)]
 refine (qB (by simp only [decide_eq_true h3,bnot,Bool.not_true])).trans ?_
 rw [if_pos ⟨by omega,by omega,h3⟩]
 generalize hf:(fun (x:Int×Int×Unit)=>_)=f
 have key:=jP (f:=f) (fun i=>(((val (s.take i)*10 ^ (s.length - i):Nat):Int),(i:Int),())) s.length (fun _=>True) (0,2,()) 0 ?_ ?_ ?_
 ·have e0:(((val (s.take 0)*10 ^ (s.length - 0):Nat):Int),((0:Nat):Int),())=((0:Int),(0:Int),()):=by simp [val]
  rw [e0] at key
  rcases key with ⟨_,hr⟩ | ⟨⟨i,hi,hn⟩,hr⟩
  ·rw [hr]
   show some (((val (s.take s.length)*10 ^ (s.length - s.length):Nat):Int),(0:Int),())=_
   rw [List.take_length];simp
  ·exact absurd trivial hn
 ·intro i hi _
  subst hf
  refine (qC (lt_t (by simp only [len];omega))).trans ?_
  refine (qH (zF hi)).trans ?_
  have c1:i64 (isub (i64 (isub (len s) 1)) (i:Int))=((s.length - 1 - i:Nat):Int):=by
   have:i64 (isub (len s) 1)=((s.length - 1:Nat):Int):=qIx (b:=1) (by omega) (by omega)
   rw [this,qIx (by omega) (by omega)]
  have hb:=qQe (i:=s.length - 1 - i) (by omega)
  have c2:vA (10,((s.length - 1 - i:Nat):Int),())=some (((10 ^ (s.length - 1 - i):Nat):Int),()):=qbV 10 _ (by omega) (by omega) (by omega)
  have c3:=h3 i hi
  have c4:i64 (isub (i64 (n8 (nth s (nat (i:Int)) (u8 0)))) 48)=((s[i].toNat - 48:Nat):Int):=by
   rw [qP,qL hi]
   have h256:=qzB s[i]
   have:i64 (n8 s[i])=((s[i].toNat:Nat):Int):=qaV (by omega)
   rw [this]
   exact qIx (b:=48) c3.1 (by omega)
  simp only [c1,c2]
  refine (qF rfl).trans ?_
  have hv:=qLR (s:=s) (i+1) (by omega) (fun j hj h=>h3 j h)
  have hp:10 ^ (i+1)*10 ^ (s.length - (i+1))≤1000000000000000000:=by
   rw [← Nat.pow_add];exact qQe (by omega)
  rw [qAK hi] at hv
  have e1:s.length - i=(s.length - (i+1))+1:=by omega
  have e2:s.length - 1 - i=s.length - (i+1):=by omega
  have hm:(10*val (s.take i)+(s[i].toNat - 48))*10 ^ (s.length - (i+1))≤10 ^ (i+1)*10 ^ (s.length - (i+1)):=Nat.mul_le_mul_right _ (by omega)
  have hs:val (s.take i)*10 ^ (s.length - i)+(s[i].toNat - 48)*10 ^ (s.length - (i+1))=(10*val (s.take i)+(s[i].toNat - 48))*10 ^ (s.length - (i+1)):=by
   rw [e1,Nat.pow_succ,Nat.add_mul];congr 1
   rw [Nat.mul_comm (10 ^ _) 10,← Nat.mul_assoc,Nat.mul_comm (val _) 10]
  simp only [c4,e2]
  rw [qwX (by omega),zS (by omega),hs,qAK hi]
  have c:i64 (iadd (i:Int) 1)=((i+1:Nat):Int):=zS (b:=1) (by omega)
  rw [c]
 ·intro i _ _ h;exact absurd trivial h
 ·intro _;subst hf;exact qB (lt_f (by simp only [len];omega))
end Yp
namespace Yp
open Go
theorem qJV {B:Nat} {g:Nat→UInt8} {v:Nat}:∀ {n j:Nat} (h:j < (ps B g v n).length),(ps B g v n)[j]=g (v / B ^ (n - 1 - j) % B)
 | 0,j,h=>by simp [ps] at h
 | n+1,0,h=>by simp [ps]
 | n+1,j+1,h=>by
  simp only [ps,List.getElem_cons_succ]
  rw [qJV]
  have:n - 1 - j=n+1 - 1 - (j+1):=by omega
  rw [this]
theorem qaQ               (v w : Int) (hv : v ≤ 9223372036854775807) : x8           (v, w, ()) = some (if 1 ≤ w ∧ w ≤ 18 ∧ 0 ≤ v ∧ v < 10 ^ w.toNat then (ps 10 dch v.toNat w.toNat, 0, ()) else ([], 1, ())) := by
  unfold x8          
  by_cases h1 : w < 1
  · rw [if_neg (by omega)]; simp [sel, ob, lt, h1, none']
  by_cases h2 : 18 < w
  · rw [if_neg (by omega)]; simp [sel, ob, lt, h1, h2, none']
  by_cases h3 : v < 0
  · rw [if_neg (by omega)]; simp [sel, ob, lt, h1, h2, h3, none']
  obtain ⟨n, rfl⟩ : ∃ n : Nat, w = n := ⟨w.toNat, by omega⟩
  obtain ⟨V, rfl⟩ : ∃ n : Nat, v = n := ⟨v.toNat, by omega⟩
  have hpw : ∀ i : Nat, i ≤ 18 → vA          (10, (i : Int), ()) = some (((10 ^ i : Nat) : Int), ()) := fun i hi => by
    have := qQe   hi
    exact qbV              10 i (by omega) (by omega) (by omega)
  refine (qF    (a := (decide (10 ^ n ≤ V), ())) ?_).trans ?_
  · refine (qB       (lt_f h1)).trans ?_
    refine (qB       (lt_f h2)).trans ?_
    refine (qB       (lt_f h3)).trans ?_
    refine (qF    (hpw n (by omega))).trans ?_
    show some (le ((10 ^ n : Nat) : Int) (V : Int), ()) = _
    rw [qNe   ]
  have hp : ((10 : Int) ^ n) = ((10 ^ n : Nat) : Int) := (Int.natCast_pow 10 n).symm
  by_cases hle : 10 ^ n ≤ V
  · refine (qC       (decide_eq_true hle)).trans ?_
    rw [if_neg]; · rfl
    intro h
    have := h.2.2.2
    rw [Int.toNat_natCast, hp] at this
    omega
  refine (qB       (decide_eq_false hle)).trans ?_
  rw [if_pos ⟨by omega, by omega, by omega, by rw [Int.toNat_natCast, hp]; omega⟩]
  simp only [Int.toNat_natCast]
  have e0 : i64 (isub (n : Int) 1) = (n : Int) - 1 := zX     (by simp only [isub]; omega) (by simp only [isub]; omega)
  rw [e0]
  generalize hf : (fun (x : List UInt8 × Int × Unit) => _) = f
  have key := jP        (f := f) (fun j => ((ps 10 dch V n).take j, (n : Int) - 1 - j, ())) n (fun _ => True) ([], 0, ()) 0 ?_ ?_ ?_
  · have e0 : ((ps 10 dch V n).take 0, (n : Int) - 1 - (0 : Nat), ()) = (none' UInt8, (n : Int) - 1, ()) := by simp [none']
    rw [e0] at key
    rcases key with ⟨_, hr⟩ | ⟨⟨i, hi, hn⟩, hr⟩
    · rw [hr]
      show some ((ps 10 dch V n).take n, (0 : Int), ()) = _
      rw [List.take_of_length_le (by rw [zP       ]; omega)]
    · exact absurd trivial hn
  · intro i hi _
    subst hf
    have e1 : (n : Int) - 1 - i = ((n - 1 - i : Nat) : Int) := by omega
    refine (qC       (le_t (show (0 : Int) ≤ (n : Int) - 1 - i by omega))).trans ?_
    simp only [e1]
    refine (qF    (hpw (n - 1 - i) (by omega))).trans ?_
    have hpos : 0 < 10 ^ (n - 1 - i) := Nat.pow_pos (by omega)
    have c1 : bnot (beq ((10 ^ (n - 1 - i) : Nat) : Int) 0) = true := by rw [vX    (by omega)]; rfl
    refine (qH    c1).trans ?_
    have c2 : u8 (i64 (iadd 48 (imod (i64 (idiv (V : Int) ((10 ^ (n - 1 - i) : Nat) : Int))) 10))) = dch (V / 10 ^ (n - 1 - i) % 10) := by
      rw [qrG     (by omega), show (10 : Int) = ((10 : Nat) : Int) from rfl, qmB     ]
      have : V / 10 ^ (n - 1 - i) % 10 < 10 := Nat.mod_lt _ (by omega)
      rw [show (48 : Int) = ((48 : Nat) : Int) from rfl, zS      (by omega), quW    ]; rfl
    have hj : i < (ps 10 dch V n).length := by rw [zP       ]; exact hi
    have c3 : (ps 10 dch V n)[i] = dch (V / 10 ^ (n - 1 - i) % 10) := qJV    hj
    have c4 : i64 (isub ((n - 1 - i : Nat) : Int) 1) = (n : Int) - 1 - ((i + 1 : Nat) : Int) := by
      rw [zX     (by simp only [isub]; omega) (by simp only [isub]; omega)]; simp only [isub]; omega
    simp only [c2, c4]
    refine (qH    (rm_t ?_)).trans ?_
    · simp only [nadd, ln, List.length_take, List.length_cons, List.length_nil]; omega
    rw [List.take_succ_eq_append_getElem hj, c3]; rfl
  · intro i _ _ h; exact absurd trivial h
  · intro _; subst hf
    exact qB       (le_f (show ¬ (0 : Int) ≤ (n : Int) - 1 - n by omega))
end Yp
namespace Yp
open Go
def dv (c:UInt8):Nat:=c.toNat - 48
def pad (s:BB):BB:=if s.length % 2=1 then 48 :: s else s
def dat (p:BB) (t:Nat):Nat:=dv (nth p t (u8 0))
def qp9 (p:BB) (a j:Nat):UInt8:=if 2*j+1 < a then UInt8.ofNat (16*dat p (2*j)+dat p (2*j+1)) else if 2*j < a then UInt8.ofNat (dat p (2*j)) else u8 0
def bcd (p:BB):BB:=(List.range (p.length / 2)).map fun j=>UInt8.ofNat (16*dat p (2*j)+dat p (2*j+1))
theorem qf4 (s:BB):(pad s).length=2*((s.length+1) / 2):=by
 unfold pad
 split
 ·simp only [List.length_cons];omega
 ·omega
theorem qMF {s:BB} {i:Nat} (h:i < s.length):nth (pad s) (s.length % 2+i) (u8 0)=s[i]:=by
 unfold pad nth
 split
 ·rename_i h1;rw [h1,Nat.add_comm];simp [h]
 ·rename_i h1
  have:s.length % 2=0:=by omega
  rw [this,Nat.zero_add];simp [h]
theorem qdU {c:UInt8} (h:yA c):c=UInt8.ofNat (48+dv c)∧dv c < 10:=by
 unfold yA at h
 refine ⟨?_,by unfold dv;omega⟩
 apply UInt8.toNat_inj.1
 simp only [UInt8.toNat_ofNat',dv];omega
theorem qRE:∀ x:Nat,x < 10→∀ d:Nat,d < 10→u8 (orI .u8 (n8 (u8 (shlI .u8 (n8 (UInt8.ofNat x)) (n64 (u64 4))))) (n8 (u8 (d:Int))))=UInt8.ofNat (16*x+d):=by decide +kernel
theorem or0:∀ d:Nat,d < 10→u8 (orI .u8 (n8 (u8 (shlI .u8 (n8 (u8 0)) (n64 (u64 4))))) (n8 (u8 (d:Int))))=UInt8.ofNat d:=by decide +kernel
theorem qQg {s:BB} {a:Nat} (hf:∀ j,j < a - s.length % 2→∀ h:j < s.length,yA s[j]) (ha:a≤(pad s).length):∀ t,t < a→dat (pad s) t < 10:=by
 intro t ht
 have hl:=qf4 s
 unfold dat
 by_cases h:t < s.length % 2
 ·have h1:s.length % 2=1:=by omega
  have h0:t=0:=by omega
  subst h0
  unfold pad;rw [if_pos h1]
  show dv 48 < 10
  decide
 ·have e:t=s.length % 2+(t - s.length % 2):=by omega
  have hi:t - s.length % 2 < s.length:=by omega
  rw [e,qMF hi]
  exact (qdU (hf _ (by omega) hi)).2
theorem qkS (s:BB) (hl:s.length≤1000000):qe4 (s,())=some (if figs s then (bcd (pad s),0,()) else ([],2,())):=by
 unfold qe4
 have k1:i64 (idiv (i64 (iadd (len s) 1)) 2)=(((s.length+1) / 2:Nat):Int):=by
  rw [qQG,show i64 (iadd ((s.length:Nat):Int) 1)=((s.length+1:Nat):Int) from zS (b:=1) (by omega)]
  exact qrG (b:=2) (by omega)
 have k2:imod (len s) 2=((s.length % 2:Nat):Int):=qmB (b:=2)
 simp only [k1,k2,qP]
 generalize hk:(s.length+1) / 2=k
 have hpl:=qf4 s
 rw [hk] at hpl
 refine (qH ?_).trans ?_
 ·simp only [band,Bool.and_eq_true]
  exact ⟨qzI (by omega) (by omega) (by omega),rm_t (by omega)⟩
 generalize hf:(fun (x:Int×Int×Nat×BB×Unit)=>_)=f
 have key:=jP (f:=f) (fun i=>(0,((s.length % 2+i:Nat):Int),i,(List.range k).map (qp9 (pad s) (s.length % 2+i)),())) s.length (fun i=>∀ h:i < s.length,yA s[i]) ([],2,()) 0 ?_ ?_ ?_
 ·have e0:((0:Int),((s.length % 2+0:Nat):Int),0,(List.range k).map (qp9 (pad s) (s.length % 2+0)),())=((0:Int),((s.length % 2:Nat):Int),0,rep k (u8 0),()):=by
   have:(List.range k).map (qp9 (pad s) (s.length % 2+0))=rep k (u8 0):=by
    apply List.ext_getElem
    ·simp [rep]
    ·intro j h1 h2
     simp only [List.getElem_map,List.getElem_range,rep,List.getElem_replicate,qp9]
     rw [if_neg (by omega)]
     split
     ·rename_i h3
      have h4:s.length % 2=1:=by omega
      have h5:j=0:=by omega
      subst h5
      unfold pad;rw [if_pos h4]
      show UInt8.ofNat (dv 48)=u8 0
      decide
     ·rfl
   rw [this];rfl
  rw [e0] at key
  rcases key with ⟨hall,hr⟩ | ⟨⟨i,hi,hn⟩,hr⟩
  ·rw [hr,if_pos (quL.2 hall)]
   have:(List.range k).map (qp9 (pad s) (s.length % 2+s.length))=bcd (pad s):=by
    unfold bcd
    rw [hpl,show 2*k / 2=k by omega]
    apply List.map_congr_left
    intro j hj
    have:=List.mem_range.1 hj
    unfold qp9
    rw [if_pos (by omega)]
   rw [this];rfl
  ·rw [hr,if_neg (fun hc=>hn (quL.1 hc i hi))];rfl
 ·intro i hi hp
  subst hf
  obtain ⟨e1,e2⟩:=qO1 hi (hp i (Nat.le_refl _) hi)
  refine (qC (qRX hi)).trans ?_
  refine (qF e1).trans ?_
  refine (qB rfl).trans ?_
  have hd:=(qdU (hp i (Nat.le_refl _) hi)).2
  generalize ha:s.length % 2+i=a
  have hlt10:=qQg (s:=s) (a:=a+1) (fun j hj=>hp j (by omega)) (by omega)
  have hda:dat (pad s) a=s[i].toNat - 48:=by unfold dat;rw [← ha,qMF hi];rfl
  have c1:i64 (idiv ((a:Nat):Int) 2)=((a / 2:Nat):Int):=qrG (b:=2) (by omega)
  have c2:i64 (iadd ((a:Nat):Int) 1)=((a+1:Nat):Int):=zS (b:=1) (by omega)
  have hq:a / 2 < ((List.range k).map (qp9 (pad s) a)).length:=by simp;omega
  simp only [ha,c1,c2,e2,qP]
  refine (qH (zF hq)).trans ?_
  refine (qH (zF hq)).trans ?_
  have e3:s.length % 2+(i+1)=a+1:=by omega
  have hv:u8 (orI .u8 (n8 (u8 (shlI .u8 (n8 (nth ((List.range k).map (qp9 (pad s) a)) (a / 2) (u8 0))) (n64 (u64 4))))) (n8 (u8 ((s[i].toNat - 48:Nat):Int))))=qp9 (pad s) (a+1) (a / 2):=by
   rw [qL hq,List.getElem_map,List.getElem_range,← hda]
   unfold qp9
   rw [if_neg (by omega)]
   by_cases hpar:a % 2=0
   ·rw [if_neg (by omega),if_neg (by omega),if_pos (by omega),or0 _ (hlt10 a (by omega)),show 2*(a / 2)=a by omega]
   ·rw [if_pos (by omega),if_pos (by omega),qRE _ (hlt10 _ (by omega)) _ (hlt10 a (by omega)),show 2*(a / 2)+1=a by omega]
  simp only [hv,e3]
  have hset:upd ((List.range k).map (qp9 (pad s) a)) (a / 2) (qp9 (pad s) (a+1) (a / 2))=(List.range k).map (qp9 (pad s) (a+1)):=by
   unfold upd
   apply List.ext_getElem
   ·simp
   ·intro j h1 h2
    rw [List.getElem_set]
    simp only [List.getElem_map,List.getElem_range]
    split
    ·rename_i h3;rw [h3]
    ·unfold qp9
     by_cases h4:2*j+1 < a
     ·rw [if_pos h4,if_pos (by omega)]
     ·rw [if_neg h4]
      by_cases h5:2*j < a
      ·rw [if_pos h5,if_neg (by omega),if_pos (by omega)]
      ·rw [if_neg h5,if_neg (by omega),if_neg (by omega)]
  rw [hset];rfl
 ·intro i hi _ hp
  subst hf
  have:¬ yA s[i]:=fun h=>hp fun _=>h
  obtain ⟨q,e1⟩:=qQX hi this
  refine (qC (qRX hi)).trans ?_
  refine (qF e1).trans ?_
  rfl
 ·intro _
  subst hf
  exact qB (qSK (Nat.lt_irrefl _))
theorem qOq:∀ x,x < 10→∀ y,y < 10→u8 (isub (n8 (u8 (iadd (n8 (u8 (imul (n8 (u8 16)) (n8 (u8 (isub (n8 (UInt8.ofNat (48+x))) (n8 (u8 48)))))))) (n8 (UInt8.ofNat (48+y)))))) (n8 (u8 48)))=UInt8.ofNat (16*x+y):=by decide +kernel
theorem qeU (s:BB) (hl:s.length≤1000000):kW (s,())=some (if figs s then (bcd (pad s),0,()) else ([],2,())):=by
 unfold kW
 refine (qF (qd9 s hl)).trans ?_
 by_cases h3:figs s
 rotate_left
 ·refine (qC (by simp only [decide_eq_false h3,bnot,Bool.not_false])).trans ?_
  rw [if_neg h3];rfl
 refine (qB (by simp only [decide_eq_true h3,bnot,Bool.not_true])).trans ?_
 rw [if_pos h3]
 refine (qF (a:=(pad s,())) ?_).trans ?_
 ·have k2:imod (len s) 2=((s.length % 2:Nat):Int):=qmB (b:=2)
  simp only [k2]
  unfold pad
  by_cases h:s.length % 2=1
  ·rw [if_pos h]
   refine (qC (kM (by omega))).trans ?_
   refine (qH (le_t ?_)).trans rfl
   simp only [iadd,len,List.length_cons,List.length_nil];omega
  ·rw [if_neg h]
   refine (qB (vX (by omega)))
 have hpl:=qf4 s
 have hfig:∀ t,(ht:t < (pad s).length)→yA (pad s)[t]:=by
  intro t ht
  by_cases h:s.length % 2=1
  ·have e:pad s=48 :: s:=by unfold pad;rw [if_pos h]
   simp only [e] at ht ⊢
   cases t with
   | zero=>exact (by decide:yA 48)
   | succ t=>exact h3 t (by simpa using ht)
  ·have e:pad s=s:=by unfold pad;rw [if_neg h]
   simp only [e] at ht ⊢
   exact h3 t ht
 have hpl':(pad s).length≤1000001:=by omega
 generalize pad s=p at *
 generalize hk:(s.length+1) / 2=k at *
 generalize hf:(fun (x:BB×Int×Unit)=>_)=f
 have key:=jP (f:=f) (fun j=>((bcd p).take j,((2*j:Nat):Int),())) k (fun _=>True) ([],0,()) 0 ?_ ?_ ?_
 ·rcases key with ⟨_,hr⟩ | ⟨⟨i,hi,hn⟩,hr⟩
  ·have e0:((bcd p).take 0,((2*0:Nat):Int),())=(none' UInt8,(0:Int),()):=by simp [none']
   rw [e0] at hr
   rw [hr]
   show some ((bcd p).take k,(0:Int),())=_
   rw [List.take_of_length_le (by simp [bcd];omega)]
  ·exact absurd trivial hn
 ·intro i hi _
  subst hf
  refine (qC (lt_t (show ((2*i:Nat):Int) < len p by simp only [len];omega))).trans ?_
  have h0:2*i < p.length:=by omega
  have h1:2*i+1 < p.length:=by omega
  have c1:i64 (iadd ((2*i:Nat):Int) 1)=((2*i+1:Nat):Int):=zS (b:=1) (by omega)
  have c2:i64 (iadd ((2*i:Nat):Int) 2)=((2*(i+1):Nat):Int):=zS (b:=2) (by omega)
  simp only [c1,c2,qP]
  refine (qH (zF h0)).trans ?_
  refine (qH (zF h1)).trans ?_
  refine (qH (rm_t ?_)).trans ?_
  ·simp only [nadd,ln,List.length_take,List.length_cons,List.length_nil,bcd,List.length_map,List.length_range];omega
  have hj:i < (bcd p).length:=by simp [bcd];omega
  have hg:(bcd p)[i]=UInt8.ofNat (16*dat p (2*i)+dat p (2*i+1)):=by simp [bcd]
  rw [List.take_succ_eq_append_getElem hj,hg,qL h0,qL h1]
  obtain ⟨a1,a2⟩:=qdU (hfig _ h0)
  obtain ⟨b1,b2⟩:=qdU (hfig _ h1)
  have hv:=qOq _ a2 _ b2
  rw [← a1,← b1] at hv
  have d1:dat p (2*i)=dv p[2*i]:=by unfold dat;rw [qL h0]
  have d2:dat p (2*i+1)=dv p[2*i+1]:=by unfold dat;rw [qL h1]
  rw [hv,d1,d2];rfl
 ·intro i _ _ h;exact absurd trivial h
 ·intro _;subst hf
  exact qB (lt_f (show ¬ ((2*k:Nat):Int) < len p by simp only [len];omega))
end Yp
namespace Yp
open Go
theorem qnX {v:Nat}:∀ {n:Nat},figs (ps 10 dch v n)
 | n=>by
  intro i hi
  rw [qJV]
  have h10:v / 10 ^ (n - 1 - i) % 10 < 10:=Nat.mod_lt _ (by omega)
  generalize v / 10 ^ (n - 1 - i) % 10=d at *
  unfold yA dch
  simp only [UInt8.toNat_ofNat'];omega
theorem qOx {s:BB} (h:s.length % 2=0):pad s=s:=by unfold pad;rw [if_neg (by omega)]
end Yp
namespace Yp
open Go
theorem qm2            (v w : Int) (hv : v ≤ 9223372036854775807) : qjZ       (v, w, ()) = some (if 1 ≤ w ∧ w ≤ 8 ∧ 0 ≤ v ∧ v < 256 ^ w.toNat then (ps 256 byt v.toNat w.toNat, 0, ()) else ([], 1, ())) := by
  unfold qjZ      
  by_cases h1 : w < 1
  · rw [if_neg (by omega)]; simp [sel, ob, lt, h1, none']
  by_cases h2 : 8 < w
  · rw [if_neg (by omega)]; simp [sel, ob, lt, h1, h2, none']
  by_cases h3 : v < 0
  · rw [if_neg (by omega)]; simp [sel, ob, lt, h1, h2, h3, none']
  obtain ⟨n, rfl⟩ : ∃ n : Nat, w = n := ⟨w.toNat, by omega⟩
  obtain ⟨V, rfl⟩ : ∃ n : Nat, v = n := ⟨v.toNat, by omega⟩
  have p7 : ∀ i, i ≤ 7 → 256 ^ i ≤ 72057594037927936 := fun i hi => Nat.pow_le_pow_right (n := 256) (by omega) hi
  have p8 : 256 ^ 8 = 18446744073709551616 := by decide
  refine (qF    (a := (false, ())) ?_).trans ?_
  · refine (qB       (lt_f h1)).trans ?_
    refine (qB       (lt_f h2)).trans ?_
    exact congrArg (fun b => some (b, ())) (lt_f h3)
  refine (qB       rfl).trans ?_
  refine (qF    (a := (decide (¬ V < 256 ^ n), ())) ?_).trans ?_
  · by_cases h8 : n < 8
    · refine (qC       (lt_t (show (n : Int) < 8 by omega))).trans ?_
      have := p7 n (by omega)
      refine (qF    (qbV              256 n (by omega) (by omega) (by omega))).trans ?_
      show some (le ((256 ^ n : Nat) : Int) (V : Int), ()) = _
      rw [qNe   ]
      have : decide (256 ^ n ≤ V) = decide (¬ V < 256 ^ n) := by rw [decide_eq_decide]; omega
      rw [this]
    · refine (qB       (lt_f (show ¬ (n : Int) < 8 by omega))).trans ?_
      have h : n = 8 := by omega
      subst h
      rw [decide_eq_false (by rw [p8]; omega)]
  have hp : ((256 : Int) ^ n) = ((256 ^ n : Nat) : Int) := (Int.natCast_pow 256 n).symm
  by_cases hlt : V < 256 ^ n
  rotate_left
  · refine (qC       (decide_eq_true hlt)).trans ?_
    rw [if_neg]; · rfl
    intro h
    have := h.2.2.2
    rw [Int.toNat_natCast, hp] at this
    omega
  refine (qB       (decide_eq_false (fun h => h hlt))).trans ?_
  rw [if_pos ⟨by omega, by omega, by omega, by rw [Int.toNat_natCast, hp]; omega⟩]
  simp only [Int.toNat_natCast]
  have e0 : i64 (isub (n : Int) 1) = (n : Int) - 1 := zX     (by simp only [isub]; omega) (by simp only [isub]; omega)
  rw [e0]
  refine (qH    ?_).trans ?_
  · simp only [band, Bool.and_eq_true]
    exact ⟨qzI   (by omega) (by omega) (by omega), rm_t (by simp only [qP     ]; omega)⟩
  generalize hf : (fun (x : Int × Int × List UInt8 × Unit) => _) = f
  have key := jP        (f := f) (fun i => (((V / 256 ^ i : Nat) : Int), (n : Int) - 1 - i, rep (n - i) (u8 0) ++ ps 256 byt V i, ())) n (fun _ => True) ([], 0, ()) 0 ?_ ?_ ?_
  · have e0 : (((V / 256 ^ 0 : Nat) : Int), (n : Int) - 1 - (0 : Nat), rep (n - 0) (u8 0) ++ ps 256 byt V 0, ()) = ((V : Int), (n : Int) - 1, rep (nat (n : Int)) (u8 0), ()) := by simp [ps, nat]
    rw [e0] at key
    rcases key with ⟨_, hr⟩ | ⟨⟨i, hi, hn⟩, hr⟩
    · rw [hr]
      have : rep (n - n) (u8 0) ++ ps 256 byt V n = ps 256 byt V n := by simp [rep]
      rw [this]; rfl
    · exact absurd trivial hn
  · intro i hi _
    subst hf
    refine (qC       (le_t (show (0 : Int) ≤ (n : Int) - 1 - i by omega))).trans ?_
    have e1 : (n : Int) - 1 - i = ((n - (i + 1) : Nat) : Int) := by omega
    have hin : n - (i + 1) < (rep (n - i) (u8 0) ++ ps 256 byt V i).length := by
      simp only [List.length_append, zP       , rep, List.length_replicate]; omega
    have hle : V / 256 ^ i ≤ V := Nat.div_le_self _ _
    have c1 : i64 (idiv ((V / 256 ^ i : Nat) : Int) 256) = ((V / 256 ^ (i + 1) : Nat) : Int) := by
      refine (qrG     (b := 256) (by omega)).trans ?_
      rw [Nat.div_div_eq_div_mul, Nat.pow_succ]
    have c2 : i64 (isub ((n - (i + 1) : Nat) : Int) 1) = (n : Int) - 1 - ((i + 1 : Nat) : Int) := by
      rw [zX     (by simp only [isub]; omega) (by simp only [isub]; omega)]; simp only [isub]; omega
    have c3 : u8 (imod ((V / 256 ^ i : Nat) : Int) 256) = byt (V / 256 ^ i % 256) := by
      rw [show imod ((V / 256 ^ i : Nat) : Int) 256 = ((V / 256 ^ i % 256 : Nat) : Int) from qmB      (b := 256), quW    ]; rfl
    have hs : rep (n - i) (u8 0) = rep (n - (i + 1) + 1) (u8 0) := by congr 1; omega
    simp only [e1]
    refine (qH    (zF      hin)).trans ?_
    rw [c1, c2, c3, qP     , hs, qGX    ]; rfl
  · intro i _ _ h; exact absurd trivial h
  · intro _; subst hf
    exact qB       (le_f (show ¬ (0 : Int) ≤ (n : Int) - 1 - n by omega))
def nib (d:Nat):UInt8:=nth hexs d (u8 0)
def jH (b:BB):BB:=b.flatMap fun x=>[nib (x.toNat / 16),nib (x.toNat % 16)]
theorem zY (b:BB):(jH b).length=2*b.length:=by
 induction b with
 | nil=>rfl
 | cons x r ih =>
  have:jH (x :: r)=[nib (x.toNat / 16),nib (x.toNat % 16)]++jH r:=rfl
  rw [this,List.length_append,ih];simp;omega
theorem qFG (a b:BB):jH (a++b)=jH a++jH b:=by simp [jH]
theorem qwN (c:UInt8):UInt8.ofNat c.toNat=c:=by
 apply UInt8.toNat_inj.1;simp
theorem all8 {p:UInt8→Prop} (h:∀ n,n < 256→p (UInt8.ofNat n)) (c:UInt8):p c:=by
 have:=h c.toNat c.toNat_lt
 rwa [qwN] at this
theorem qSf:∀ c:UInt8,inB (n8 (u8 (shrI IntKind.u8 (n8 c) (n64 (u64 4))))) (len [48,49,50,51,52,53,54,55,56,57,97,98,99,100,101,102])=true ∧
  nth [48,49,50,51,52,53,54,55,56,57,97,98,99,100,101,102] (nat (n8 (u8 (shrI IntKind.u8 (n8 c) (n64 (u64 4)))))) (u8 0)=nib (c.toNat / 16):=all8 (by decide +kernel)
theorem qR7:∀ c:UInt8,inB (n8 (u8 (andI IntKind.u8 (n8 c) (n8 (u8 15))))) (len [48,49,50,51,52,53,54,55,56,57,97,98,99,100,101,102])=true ∧
  nth [48,49,50,51,52,53,54,55,56,57,97,98,99,100,101,102] (nat (n8 (u8 (andI IntKind.u8 (n8 c) (n8 (u8 15)))))) (u8 0)=nib (c.toNat % 16):=all8 (by decide +kernel)
theorem qFU (b:BB) (hl:b.length≤1000000):qCn (b,())=some (jH b,()):=by
 unfold qCn
 have k1:i64 (imul 2 (len b))=((2*b.length:Nat):Int):=qwX (a:=2) (by omega)
 simp only [k1,qP]
 refine (qH ?_).trans ?_
 ·simp only [band,Bool.and_eq_true]
  exact ⟨qzI (by omega) (by omega) (by omega),rm_t (by omega)⟩
 generalize hf:(fun (x:BB×Int×Unit)=>_)=f
 have key:=jP (f:=f) (fun i=>(jH (b.take i),(i:Int),())) b.length (fun _=>True) ([],()) 0 ?_ ?_ ?_
 ·have e0:(jH (b.take 0),((0:Nat):Int),())=(rep (nat 0) (u8 0),(0:Int),()):=by simp [jH,rep,nat]
  rw [e0] at key
  rcases key with ⟨_,hr⟩ | ⟨⟨i,hi,hn⟩,hr⟩
  ·rw [hr,List.take_length];rfl
  ·exact absurd trivial hn
 ·intro i hi _
  subst hf
  refine (qC (lt_t (show (i:Int) < len b by simp only [len];omega))).trans ?_
  refine (qH (zF hi)).trans ?_
  have c:i64 (iadd (i:Int) 1)=((i+1:Nat):Int):=zS (b:=1) (by omega)
  simp only [qP,qL hi,c]
  refine (qH (qSf _).1).trans ?_
  refine (qH (qR7 _).1).trans ?_
  simp only [(qSf _).2,(qR7 _).2]
  refine (qH (rm_t ?_)).trans ?_
  ·simp only [nadd,ln,zY,List.length_take,List.length_cons,List.length_nil];omega
  rw [List.take_succ_eq_append_getElem hi,qFG];rfl
 ·intro i _ _ h;exact absurd trivial h
 ·intro _;subst hf
  exact qB (lt_f (show ¬ ((b.length:Nat):Int) < len b by simp only [len];omega))
theorem qRH:∀ c:UInt8,qfZ (u8 (idiv (n8 c) (n8 (u8 16))),())=some (nib (c.toNat / 16),()):=all8 (by decide +kernel)
theorem qRG:∀ c:UInt8,qfZ (u8 (imod (n8 c) (n8 (u8 16))),())=some (nib (c.toNat % 16),()):=all8 (by decide +kernel)
theorem qy9 (b:BB) (hl:b.length≤1000000):qjY (b,())=some (jH b,()):=by
 unfold qjY
 generalize hf:(fun (x:BB×Int×Unit)=>_)=f
 have key:=jP (f:=f) (fun i=>(jH (b.take i),(i:Int),())) b.length (fun _=>True) ([],()) 0 ?_ ?_ ?_
 ·have e0:(jH (b.take 0),((0:Nat):Int),())=(none' UInt8,(0:Int),()):=by simp [jH,none']
  rw [e0] at key
  rcases key with ⟨_,hr⟩ | ⟨⟨i,hi,hn⟩,hr⟩
  ·rw [hr,List.take_length];rfl
  ·exact absurd trivial hn
 ·intro i hi _
  subst hf
  refine (qC (lt_t (show (i:Int) < len b by simp only [len];omega))).trans ?_
  refine (qH (zF hi)).trans ?_
  have c:i64 (iadd (i:Int) 1)=((i+1:Nat):Int):=zS (b:=1) (by omega)
  simp only [qP,qL hi,c]
  refine (qF (qRH _)).trans ?_
  refine (qH (zF hi)).trans ?_
  refine (qF (qRG _)).trans ?_
  refine (qH (rm_t ?_)).trans ?_
  ·simp only [nadd,ln,zY,List.length_take,List.length_cons,List.length_nil];omega
  rw [List.take_succ_eq_append_getElem hi,qFG];rfl
 ·intro i _ _ h;exact absurd trivial h
 ·intro _;subst hf
  exact qB (lt_f (show ¬ ((b.length:Nat):Int) < len b by simp only [len];omega))
def qwV (c:UInt8):Prop:=(48≤c.toNat∧c.toNat≤57)∨(97≤c.toNat∧c.toNat≤102)
instance (c:UInt8):Decidable (qwV c):=inferInstanceAs (Decidable (_∨_))
def hval (c:UInt8):Nat:=if c.toNat≤57 then c.toNat - 48 else c.toNat - 87
def unh (s:BB):BB:=(List.range (s.length / 2)).map fun j=>UInt8.ofNat (16*hval (nth s (2*j) (u8 0))+hval (nth s (2*j+1) (u8 0)))
def hexy (s:BB):Prop:=∀ (i:Nat) (h:i < s.length),qwV s[i]
instance (s:BB):Decidable (hexy s):=inferInstanceAs (Decidable (∀ (i:Nat) (h:i < s.length),qwV s[i]))
theorem qjX:∀ c:UInt8,qhB (c,())=some (if qwV c then ((hval c:Nat):Int) else 16,()):=all8 (by decide +kernel)
theorem qIy:∀ c:UInt8,qwV c→hval c < 16:=all8 (by decide +kernel)
theorem qIz {s:BB} {k:Nat} (h2:s.length=2*k):(∀ i,i < k→qwV (nth s (2*i) (u8 0))∧qwV (nth s (2*i+1) (u8 0)))↔hexy s:=by
 constructor
 ·intro h i hi
  have:=h (i / 2) (by omega)
  by_cases hp:i % 2=0
  ·have:=this.1
   rw [show 2*(i / 2)=i by omega,qL hi] at this;exact this
  ·have:=this.2
   rw [show 2*(i / 2)+1=i by omega,qL hi] at this;exact this
 ·intro h i hi
  rw [qL (by omega),qL (by omega)]
  exact ⟨h _ _,h _ _⟩
theorem qtX (s:BB) (hl:s.length≤1000000):qdG (s,())=some (if s.length % 2=0∧hexy s then (unh s,0,()) else ([],2,())):=by
 unfold qdG
 have k2:imod (len s) 2=((s.length % 2:Nat):Int):=qmB (b:=2)
 simp only [k2]
 by_cases h:s.length % 2=0
 rotate_left
 ·refine (qC (kM (by omega))).trans ?_
  rw [if_neg (fun hc=>h hc.1)];rfl
 refine (qB (vX (by omega))).trans ?_
 generalize hk:s.length / 2=k
 have h2:s.length=2*k:=by omega
 generalize hf:(fun (x:Int×BB×Int×Unit)=>_)=f
 have key:=jP (f:=f) (fun i=>(0,(unh s).take i,((2*i:Nat):Int),())) k (fun i=>qwV (nth s (2*i) (u8 0))∧qwV (nth s (2*i+1) (u8 0))) ([],2,()) 0 ?_ ?_ ?_
 ·have e0:((0:Int),(unh s).take 0,((2*0:Nat):Int),())=((0:Int),none' UInt8,(0:Int),()):=by simp [none']
  rw [e0] at key
  rcases key with ⟨hall,hr⟩ | ⟨⟨i,hi,hn⟩,hr⟩
  ·rw [hr,if_pos ⟨h,(qIz h2).1 hall⟩,List.take_of_length_le (by simp [unh];omega)];rfl
  ·rw [hr,if_neg (fun hc=>hn ((qIz h2).2 hc.2 i hi))];rfl
 ·intro i hi hp
  subst hf
  obtain ⟨p0,p1⟩:=hp i (Nat.le_refl _)
  have h0:2*i < s.length:=by omega
  have h1:2*i+1 < s.length:=by omega
  have c1:i64 (iadd ((2*i:Nat):Int) 1)=((2*i+1:Nat):Int):=zS (b:=1) (by omega)
  have c2:i64 (iadd ((2*i:Nat):Int) 2)=((2*(i+1):Nat):Int):=zS (b:=2) (by omega)
  have g0:=qIy _ p0
  have g1:=qIy _ p1
  refine (qC (lt_t (show ((2*i:Nat):Int) < len s by simp only [len];omega))).trans ?_
  refine (qH (zF h0)).trans ?_
  simp only [c1,c2,qP,qjX,if_pos p0,if_pos p1]
  refine (qF rfl).trans ?_
  refine (qH (zF h1)).trans ?_
  refine (qF rfl).trans ?_
  refine (qF (a:=(false,())) ?_).trans ?_
  ·refine (qB (lt_f (by omega))).trans ?_
   exact congrArg (fun b=>some (b,())) (lt_f (by omega))
  refine (qB rfl).trans ?_
  refine (qH (rm_t ?_)).trans ?_
  ·simp only [nadd,ln,List.length_take,List.length_cons,List.length_nil]
   have:(unh s).length=s.length / 2:=by simp [unh]
   omega
  have hj:i < (unh s).length:=by simp [unh];omega
  have hg:(unh s)[i]=UInt8.ofNat (16*hval (nth s (2*i) (u8 0))+hval (nth s (2*i+1) (u8 0))):=by simp [unh]
  have c3:i64 (iadd (i64 (imul 16 ((hval (nth s (2*i) (u8 0)):Nat):Int))) ((hval (nth s (2*i+1) (u8 0)):Nat):Int))=((16*hval (nth s (2*i) (u8 0))+hval (nth s (2*i+1) (u8 0)):Nat):Int):=by
   rw [show i64 (imul 16 ((hval (nth s (2*i) (u8 0)):Nat):Int))=((16*hval (nth s (2*i) (u8 0)):Nat):Int) from qwX (a:=16) (by omega)]
   exact zS (by omega)
  rw [List.take_succ_eq_append_getElem hj,hg]
  simp only [c3,quW];rfl
 ·intro i hi _ hp
  subst hf
  have h0:2*i < s.length:=by omega
  have h1:2*i+1 < s.length:=by omega
  have c1:i64 (iadd ((2*i:Nat):Int) 1)=((2*i+1:Nat):Int):=zS (b:=1) (by omega)
  refine (qC (lt_t (show ((2*i:Nat):Int) < len s by simp only [len];omega))).trans ?_
  refine (qH (zF h0)).trans ?_
  simp only [c1,qP,qjX]
  refine (qF rfl).trans ?_
  refine (qH (zF h1)).trans ?_
  refine (qF rfl).trans ?_
  refine (qF (a:=(true,())) ?_).trans ?_
  ·by_cases q0:qwV (nth s (2*i) (u8 0))
   ·rw [if_pos q0,if_neg (fun q1=>hp ⟨q0,q1⟩)]
    have:=qIy _ q0
    refine (qB (lt_f (by omega))).trans ?_
    exact congrArg (fun b=>some (b,())) (lt_t (by omega))
   ·rw [if_neg q0]
    exact qC (lt_t (by omega))
  exact qC rfl
 ·intro _;subst hf
  exact qB (lt_f (show ¬ ((2*k:Nat):Int) < len s by simp only [len];omega))
end Yp
namespace Yp
open Go
def bev (l:BB):Nat:=l.foldl (fun n c=>256*n+c.toNat) 0
theorem qh7 {s:BB} {i:Nat} (h:i < s.length):bev (s.take (i+1))=256*bev (s.take i)+s[i].toNat:=by
 unfold bev
 rw [List.take_succ_eq_append_getElem h,List.foldl_append];rfl
theorem qPI {s:BB}:∀ i,i≤s.length→bev (s.take i) < 256 ^ i
 | 0,_=>by simp [bev]
 | i+1,h=>by
  have:=qPI (s:=s) i (by omega)
  have hi:=qzB s[i]
  rw [qh7 (by omega),Nat.pow_succ]
  omega
theorem qN1 {s:BB} (h0:0 < s.length) (hs:s[0].toNat≤127):∀ i,i < s.length→bev (s.take (i+1)) < 128*256 ^ i
 | 0,_=>by rw [qh7 h0];simp [bev];omega
 | i+1,h=>by
  have:=qN1 h0 hs i (by omega)
  have hi:=qzB s[i+1]
  rw [qh7 h,Nat.pow_succ]
  omega
theorem qPX (x c:Nat) (hc:c < 256) (h:256*x+c≤9223372036854775807):i64 (orI .i64 (i64 (shlI .i64 (x:Int) (n64 (u64 8)))) (c:Int))=((256*x+c:Nat):Int):=by
 have e1:shlI .i64 (x:Int) (n64 (u64 8))=((256*x:Nat):Int):=by
  have:shlI .i64 (x:Int) (n64 (u64 8))=(x:Int)*2 ^ 8:=rfl
  rw [this]
  have:(2:Int) ^ 8=256:=by decide
  rw [this];omega
 rw [e1,qaV (by omega)]
 have e2:orI .i64 ((256*x:Nat):Int) (c:Int)=((256*x+c:Nat):Int):=by
  show (((BitVec.ofInt 64 ((256*x:Nat):Int) ||| BitVec.ofInt 64 (c:Int)).toNat:Nat):Int)=_
  rw [BitVec.ofInt_natCast,BitVec.ofInt_natCast,BitVec.toNat_or,BitVec.toNat_ofNat,BitVec.toNat_ofNat,Nat.mod_eq_of_lt (by omega),Nat.mod_eq_of_lt (by omega)]
  have:=Nat.two_pow_add_eq_or_of_lt (i:=8) hc x
  rw [show (2:Nat) ^ 8=256 by decide] at this
  rw [← this]
 rw [e2,qaV h]
def tk (b:BB) (A W:Nat):BB:=(b.drop A).take W
theorem vZ {b:BB} {A W:Nat} (h:A+W≤b.length):(tk b A W).length=W:=by simp [tk];omega
theorem qJz {b:BB} {A W i:Nat} (h:i < (tk b A W).length) (h':A+i < b.length):(tk b A W)[i]=b[A+i]:=by simp [tk]
theorem qLY {b:BB} {A W:Nat}:sub b (A:Int) ((A+W:Nat):Int)=tk b A W:=by
 unfold sub tk
 rw [Int.toNat_natCast,Int.toNat_natCast,show A+W - A=W by omega]
def xJ (b:BB) (at' w:Int):Int×Int×Int×Unit :=
 if w < 1∨8 < w∨at' < 0∨(b.length:Int) < at' then (0,0,1,()) else if (b.length:Int) - at' < w then (0,0,3,())
 else if w=8∧127 < (nth b at'.toNat (u8 0)).toNat then (0,0,2,()) else ((bev (tk b at'.toNat w.toNat):Int),at'+w,0,())
theorem qx6 {b:BB} {A W:Nat} (hA:A+W≤b.length) (hW:W≤8) (h7:¬ ((W:Int)=8∧127 < (nth b A (u8 0)).toNat)):∀ i,i < W→bev ((tk b A W).take (i+1))≤9223372036854775807:=by
 intro i hi
 have hl:=vZ hA
 by_cases hi7:i+1≤7
 ·have h1:=qPI (s:=tk b A W) (i+1) (by omega)
  have h2:256 ^ (i+1)≤256 ^ 7:=Nat.pow_le_pow_right (by omega) hi7
  have h3:256 ^ 7=72057594037927936:=by decide
  omega
 ·have h8:W=8:=by omega
  have h0:0 < (tk b A W).length:=by omega
  have hn:(tk b A W)[0]=nth b A (u8 0):=by
   rw [qJz h0 (by omega),qL (by omega)];rfl
  have hs:(tk b A W)[0].toNat≤127:=by rw [hn];exact Nat.le_of_not_lt fun h=>h7 ⟨by omega,h⟩
  have:=qN1 h0 hs i (by omega)
  have hi':i=7:=by omega
  subst hi'
  have h3:256 ^ 7=72057594037927936:=by decide
  omega
theorem qt3 (b:BB) (at' w:Int) (hl:b.length≤1000000):qhT (b,at',w,())=some (xJ b at' w):=by
 unfold qhT xJ
 by_cases h1:w < 1
 ·rw [if_pos (.inl h1)];exact (qF (qC (lt_t h1))).trans rfl
 by_cases h2:8 < w
 ·rw [if_pos (.inr (.inl h2))];exact (qF (a:=(true,())) ((qB (lt_f h1)).trans (qC (lt_t h2)))).trans rfl
 by_cases h3:at' < 0
 ·rw [if_pos (.inr (.inr (.inl h3)))];exact (qF (a:=(true,())) ((qB (lt_f h1)).trans ((qB (lt_f h2)).trans (qC (lt_t h3))))).trans rfl
 by_cases h4:(b.length:Int) < at'
 ·rw [if_pos (.inr (.inr (.inr h4)))];exact (qF (a:=(true,())) ((qB (lt_f h1)).trans ((qB (lt_f h2)).trans ((qB (lt_f h3)).trans (congrArg (fun b=>some (b,())) (lt_t h4)))))).trans rfl
 rw [if_neg (by omega)]
 refine (qF (a:=(false,())) ((qB (lt_f h1)).trans ((qB (lt_f h2)).trans ((qB (lt_f h3)).trans (congrArg (fun b=>some (b,())) (lt_f h4)))))).trans ?_
 refine (qB rfl).trans ?_
 obtain ⟨A,rfl⟩:∃ n:Nat,at'=n:=⟨at'.toNat,by omega⟩
 obtain ⟨W,rfl⟩:∃ n:Nat,w=n:=⟨w.toNat,by omega⟩
 have c0:i64 (isub (len b) (A:Int))=(b.length:Int) - A:=by
  simp only [isub,len];exact zX (by omega) (by omega)
 simp only [c0]
 by_cases h5:(b.length:Int) - A < W
 ·rw [if_pos h5];exact qC (lt_t h5)
 rw [if_neg h5]
 refine (qB (lt_f h5)).trans ?_
 have hAW:A+W≤b.length:=by omega
 have hA:A < b.length:=by omega
 have ctest:(sel (beq (W:Int) 8) (ck (inB (A:Int) (len b)) (some (lt (n8 (u8 127)) (n8 (nth b (nat (A:Int)) (u8 0))),()))) (some (false,())):Option (Bool×Unit))=some (decide ((W:Int)=8∧127 < (nth b A (u8 0)).toNat),()):=by
  by_cases h8:(W:Int)=8
  ·refine (qC (kM h8)).trans ?_
   refine (qH (zF hA)).trans ?_
   rw [qP,show n8 (u8 127)=((127:Nat):Int) by decide,show n8 (nth b A (u8 0))=(((nth b A (u8 0)).toNat:Nat):Int) from rfl,qpB]
   simp only [h8,true_and]
  ·refine (qB (vX h8)).trans ?_
   rw [decide_eq_false (fun h=>h8 h.1)]
 simp only [Int.toNat_natCast]
 refine (qF ctest).trans ?_
 by_cases h7:(W:Int)=8∧127 < (nth b A (u8 0)).toNat
 ·rw [if_pos h7];exact qC (decide_eq_true h7)
 rw [if_neg h7]
 refine (qB (decide_eq_false h7)).trans ?_
 have c1:i64 (iadd (A:Int) (W:Int))=((A+W:Nat):Int):=zS (by omega)
 simp only [c1,qLY]
 refine (qH (qzI (by omega) (by omega) (by simp only [len];omega))).trans ?_
 have hl:=vZ hAW
 have hbnd:=qx6 hAW (by omega) h7
 generalize htk:tk b A W=t at *
 generalize hf:(fun (x:Int×Int×Unit)=>_)=f
 have key:=jP (f:=f) (fun i=>((bev (t.take i):Int),(i:Int),())) W (fun _=>True) (0,0,0,()) 1 ?_ ?_ ?_
 ·have e0:((bev (t.take 0):Int),((0:Nat):Int),())=((0:Int),(0:Int),()):=by simp [bev]
  rw [e0] at key
  rcases key with ⟨_,hr⟩ | ⟨⟨i,hi,hn⟩,hr⟩
  ·rw [hr,List.take_of_length_le (by omega)]
   show some ((bev t:Int),((A+W:Nat):Int),0,())=_
   simp
  ·exact absurd trivial hn
 ·intro i hi _
  subst hf
  have hit:i < t.length:=by omega
  refine (qC (lt_t (show (i:Int) < len t by simp only [len];omega))).trans ?_
  refine (qH (zF hit)).trans ?_
  have c:i64 (iadd (i:Int) 1)=((i+1:Nat):Int):=zS (b:=1) (by omega)
  have h256:=qzB t[i]
  have hb:=hbnd i hi
  rw [qh7 hit] at hb
  have c2:i64 (n8 t[i])=((t[i].toNat:Nat):Int):=qaV (by omega)
  simp only [qP,qL hit,c,c2]
  rw [qPX _ _ h256 hb,qh7 hit]
 ·intro i _ _ h;exact absurd trivial h
 ·intro _;subst hf
  exact qB (lt_f (show ¬ (W:Int) < len t by simp only [len];omega))
theorem qd8 (b:BB) (at' w:Int) (hl:b.length≤1000000):wL (b,at',w,())=some (xJ b at' w):=by
 unfold wL xJ
 by_cases h1:w < 1
 ·rw [if_pos (.inl h1)];exact (qF (qC (lt_t h1))).trans rfl
 by_cases h2:8 < w
 ·rw [if_pos (.inr (.inl h2))];exact (qF (a:=(true,())) ((qB (lt_f h1)).trans (qC (lt_t h2)))).trans rfl
 by_cases h3:at' < 0
 ·rw [if_pos (.inr (.inr (.inl h3)))];exact (qF (a:=(true,())) ((qB (lt_f h1)).trans ((qB (lt_f h2)).trans (qC (lt_t h3))))).trans rfl
 by_cases h4:(b.length:Int) < at'
 ·rw [if_pos (.inr (.inr (.inr h4)))];exact (qF (a:=(true,())) ((qB (lt_f h1)).trans ((qB (lt_f h2)).trans ((qB (lt_f h3)).trans (congrArg (fun b=>some (b,())) (lt_t h4)))))).trans rfl
 rw [if_neg (by omega)]
 refine (qF (a:=(false,())) ((qB (lt_f h1)).trans ((qB (lt_f h2)).trans ((qB (lt_f h3)).trans (congrArg (fun b=>some (b,())) (lt_f h4)))))).trans ?_
 refine (qB rfl).trans ?_
 obtain ⟨A,rfl⟩:∃ n:Nat,at'=n:=⟨at'.toNat,by omega⟩
 obtain ⟨W,rfl⟩:∃ n:Nat,w=n:=⟨w.toNat,by omega⟩
 have c0:i64 (isub (len b) (A:Int))=(b.length:Int) - A:=by
  simp only [isub,len];exact zX (by omega) (by omega)
 simp only [c0]
 by_cases h5:(b.length:Int) - A < W
 ·rw [if_pos h5];exact qC (lt_t h5)
 rw [if_neg h5]
 refine (qB (lt_f h5)).trans ?_
 have hAW:A+W≤b.length:=by omega
 have hA:A < b.length:=by omega
 have ctest:(sel (beq (W:Int) 8) (ck (inB (A:Int) (len b)) (some (le (n8 (u8 128)) (n8 (nth b (nat (A:Int)) (u8 0))),()))) (some (false,())):Option (Bool×Unit))=some (decide ((W:Int)=8∧127 < (nth b A (u8 0)).toNat),()):=by
  by_cases h8:(W:Int)=8
  ·refine (qC (kM h8)).trans ?_
   refine (qH (zF hA)).trans ?_
   rw [qP,show n8 (u8 128)=((128:Nat):Int) by decide,show n8 (nth b A (u8 0))=(((nth b A (u8 0)).toNat:Nat):Int) from rfl,qNe]
   simp only [h8,true_and]
   rfl
  ·refine (qB (vX h8)).trans ?_
   rw [decide_eq_false (fun h=>h8 h.1)]
 simp only [Int.toNat_natCast]
 refine (qF ctest).trans ?_
 by_cases h7:(W:Int)=8∧127 < (nth b A (u8 0)).toNat
 ·rw [if_pos h7];exact qC (decide_eq_true h7)
 rw [if_neg h7]
 refine (qB (decide_eq_false h7)).trans ?_
 have c1:i64 (iadd (A:Int) (W:Int))=((A+W:Nat):Int):=zS (by omega)
 simp only [c1]
 have hlt:=vZ hAW
 have hbnd:=qx6 hAW (by omega) h7
 have hget:∀ i (h:i < (tk b A W).length),(tk b A W)[i]=nth b (A+i) (u8 0):=fun i h=>by
  rw [qJz h (by omega),qL (by omega)]
 generalize htk:tk b A W=t at *
 generalize hf:(fun (x:Int×Int×Unit)=>_)=f
 have key:=jP (f:=f) (fun i=>((bev (t.take i):Int),(i:Int),())) W (fun _=>True) (0,0,0,()) 0 ?_ ?_ ?_
 ·have e0:((bev (t.take 0):Int),((0:Nat):Int),())=((0:Int),(0:Int),()):=by simp [bev]
  rw [e0] at key
  rcases key with ⟨_,hr⟩ | ⟨⟨i,hi,hn⟩,hr⟩
  ·rw [hr,List.take_of_length_le (by omega)]
   show some ((bev t:Int),((A+W:Nat):Int),0,())=_
   simp
  ·exact absurd trivial hn
 ·intro i hi _
  subst hf
  have hit:i < t.length:=by omega
  refine (qC (lt_t (show (i:Int) < (W:Int) by omega))).trans ?_
  have c3:i64 (iadd (A:Int) (i:Int))=((A+i:Nat):Int):=zS (by omega)
  simp only [c3,qP]
  refine (qH (zF (show A+i < b.length by omega))).trans ?_
  have c:i64 (iadd (i:Int) 1)=((i+1:Nat):Int):=zS (b:=1) (by omega)
  have h256:=qzB t[i]
  have hb:=hbnd i hi
  rw [qh7 hit] at hb
  have c2:i64 (n8 t[i])=((t[i].toNat:Nat):Int):=qaV (by omega)
  rw [← hget i hit,c,c2,show i64 (imul 256 (bev (t.take i):Int))=((256*bev (t.take i):Nat):Int) from qwX (a:=256) (by omega),zS hb,qh7 hit]
 ·intro i _ _ h;exact absurd trivial h
 ·intro _;subst hf
  exact qB (lt_f (show ¬ (W:Int) < (W:Int) by omega))
end Yp
namespace Yp
open Go
def z5 (b:BB) (at' n:Int):BB×Int×Int×Unit :=
 if n < 0∨999 < n∨at' < 0∨(b.length:Int) < at' then ([],0,1,()) else if (b.length:Int) - at' < (n+1) / 2 then ([],0,3,())
 else if n % 2=1∧¬ nth (jH (tk b at'.toNat ((n.toNat+1) / 2))) 0 (u8 0)=48 then ([],0,2,())
 else if figs ((jH (tk b at'.toNat ((n.toNat+1) / 2))).drop (n.toNat % 2)) then ((jH (tk b at'.toNat ((n.toNat+1) / 2))).drop (n.toNat % 2),at'+((n.toNat+1) / 2:Nat),0,()) else ([],0,2,())
end Yp
namespace Yp
open Go
def nbs (b:BB):BB:=b.flatMap fun c=>[u8 (idiv (n8 c) (n8 (u8 16))),u8 (imod (n8 c) (n8 (u8 16)))]
theorem qQs (a b:BB):nbs (a++b)=nbs a++nbs b:=by simp [nbs]
theorem qJ7:∀ c:UInt8,([u8 (idiv (n8 c) (n8 (u8 16))),u8 (imod (n8 c) (n8 (u8 16)))].map fun x=>nib x.toNat)=[nib (c.toNat / 16),nib (c.toNat % 16)]∧(u8 (idiv (n8 c) (n8 (u8 16)))).toNat < 16∧(u8 (imod (n8 c) (n8 (u8 16)))).toNat < 16:=all8 (by decide +kernel)
theorem qM5 (b:BB):jH b=(nbs b).map fun x=>nib x.toNat:=by
 induction b with
 | nil=>rfl
 | cons c r ih =>
  have e1:jH (c :: r)=[nib (c.toNat / 16),nib (c.toNat % 16)]++jH r:=rfl
  have e2:nbs (c :: r)=[u8 (idiv (n8 c) (n8 (u8 16))),u8 (imod (n8 c) (n8 (u8 16)))]++nbs r:=rfl
  rw [e1,e2,List.map_append,(qJ7 c).1,ih]
theorem qR1 (b:BB):∀ x∈nbs b,x.toNat < 16:=by
 intro x hx
 unfold nbs at hx
 rw [List.mem_flatMap] at hx
 obtain ⟨c,_,hx⟩:=hx
 have:=qJ7 c
 simp only [List.mem_cons,List.not_mem_nil,or_false] at hx
 rcases hx with rfl | rfl
 ·exact this.2.1
 ·exact this.2.2
theorem qAl (b:BB):(nbs b).length=2*b.length:=by rw [← zY,qM5,List.length_map]
theorem qM3:∀ d:Nat,d < 16→(yA (nib d)↔d≤9):=by decide +kernel
theorem qQo:∀ d:Nat,d < 10→u8 (iadd (n8 (UInt8.ofNat d)) (n8 (u8 48)))=nib d:=by decide +kernel
theorem qOF:∀ d:Nat,d < 16→(nib d=48↔d=0):=by decide +kernel
def half' (l:BB) (o i:Nat):BB:=(List.range l.length).map fun j=>if o≤j∧j < o+i then nib (nth l j (u8 0)).toNat else nth l j (u8 0)
theorem j7 (l:BB) (o i:Nat):(half' l o i).length=l.length:=by simp [half']
theorem qAp (l:BB) (o:Nat):half' l o 0=l:=by
 apply List.ext_getElem
 ·simp [half']
 ·intro j h1 h2
  simp only [half',List.getElem_map,List.getElem_range]
  rw [if_neg (by omega),qL h2]
theorem qFI {l:BB} {o:Nat}:(half' l o (l.length - o)).drop o=(l.map fun x=>nib x.toNat).drop o:=by
 apply List.ext_getElem
 ·simp [half']
 ·intro j h1 h2
  simp only [List.length_drop,j7] at h1
  simp only [half',List.getElem_drop,List.getElem_map,List.getElem_range]
  rw [if_pos (by omega),qL (by omega)]
theorem qAq {l:BB} {o i:Nat} (h:o+i < l.length) (hd:(nth l (o+i) (u8 0)).toNat≤9) :
  upd (half' l o i) (o+i) (u8 (iadd (n8 (nth (half' l o i) (o+i) (u8 0))) (n8 (u8 48))))=half' l o (i+1)∧nth (half' l o i) (o+i) (u8 0)=nth l (o+i) (u8 0):=by
 have e:nth (half' l o i) (o+i) (u8 0)=nth l (o+i) (u8 0):=by
  rw [qL (by rw [j7];exact h)]
  simp only [half',List.getElem_map,List.getElem_range]
  rw [if_neg (by omega)]
 refine ⟨?_,e⟩
 rw [e]
 have hv:=qQo (nth l (o+i) (u8 0)).toNat (by omega)
 rw [qwN] at hv
 rw [hv]
 unfold upd
 apply List.ext_getElem
 ·simp [half']
 ·intro j h1 h2
  rw [List.getElem_set]
  simp only [half',List.getElem_map,List.getElem_range]
  split
  ·rename_i hj;subst hj;rw [if_pos (by omega)]
  ·by_cases hc:o≤j∧j < o+i
   ·rw [if_pos hc,if_pos (by omega)]
   ·rw [if_neg hc,if_neg (by omega)]
theorem qFH {l:BB} {o i:Nat} (h:o+i < l.length):nth (half' l o i) (o+i) (u8 0)=nth l (o+i) (u8 0):=by
 rw [qL (by rw [j7];exact h)]
 simp only [half',List.getElem_map,List.getElem_range]
 rw [if_neg (by omega)]
theorem qpN {l:BB} {o:Nat} (hlt:∀ x∈l,x.toNat < 16):figs ((l.map fun x=>nib x.toNat).drop o)↔∀ i,i < l.length - o→(nth l (o+i) (u8 0)).toNat≤9:=by
 unfold figs
 constructor
 ·intro h i hi
  have h1:=h i (by simp;omega)
  simp only [List.getElem_drop,List.getElem_map] at h1
  rw [qL (by omega)]
  exact (qM3 _ (hlt _ (List.getElem_mem _))).1 h1
 ·intro h i hi
  simp only [List.length_drop,List.length_map] at hi
  simp only [List.getElem_drop,List.getElem_map]
  have h1:=h i hi
  rw [qL (by omega)] at h1
  exact (qM3 _ (hlt _ (List.getElem_mem _))).2 h1
theorem jZ (b:BB) (at' n:Int) (hl:b.length≤1000000):j0 (b,at',n,())=some (z5 b at' n):=by
 unfold j0 z5
 by_cases h1:n < 0
 ·rw [if_pos (.inl h1)];exact (qF (qC (lt_t h1))).trans rfl
 by_cases h2:999 < n
 ·rw [if_pos (.inr (.inl h2))];exact (qF (a:=(true,())) ((qB (lt_f h1)).trans (qC (lt_t h2)))).trans rfl
 by_cases h3:at' < 0
 ·rw [if_pos (.inr (.inr (.inl h3)))];exact (qF (a:=(true,())) ((qB (lt_f h1)).trans ((qB (lt_f h2)).trans (qC (lt_t h3))))).trans rfl
 by_cases h4:(b.length:Int) < at'
 ·rw [if_pos (.inr (.inr (.inr h4)))];exact (qF (a:=(true,())) ((qB (lt_f h1)).trans ((qB (lt_f h2)).trans ((qB (lt_f h3)).trans (congrArg (fun b=>some (b,())) (lt_t h4)))))).trans rfl
 rw [if_neg (by omega)]
 refine (qF (a:=(false,())) ((qB (lt_f h1)).trans ((qB (lt_f h2)).trans ((qB (lt_f h3)).trans (congrArg (fun b=>some (b,())) (lt_f h4)))))).trans ?_
 refine (qB rfl).trans ?_
 obtain ⟨A,rfl⟩:∃ n:Nat,at'=n:=⟨at'.toNat,by omega⟩
 obtain ⟨N,rfl⟩:∃ k:Nat,n=k:=⟨n.toNat,by omega⟩
 have c0:i64 (isub (len b) (A:Int))=(b.length:Int) - A:=by
  simp only [isub,len];exact zX (by omega) (by omega)
 have c1:i64 (idiv (i64 (iadd (N:Int) 1)) 2)=(((N+1) / 2:Nat):Int):=by
  rw [show i64 (iadd (N:Int) 1)=((N+1:Nat):Int) from zS (b:=1) (by omega)]
  exact qrG (b:=2) (by omega)
 have c2:((N:Int)+1) / 2=(((N+1) / 2:Nat):Int):=by omega
 simp only [c0,c1,c2,Int.toNat_natCast]
 generalize hM:(N+1) / 2=M
 by_cases h5:(b.length:Int) - A < M
 ·rw [if_pos h5];exact qC (lt_t h5)
 rw [if_neg h5]
 refine (qB (lt_f h5)).trans ?_
 have hAM:A+M≤b.length:=by omega
 have c3:i64 (iadd (A:Int) (M:Int))=((A+M:Nat):Int):=zS (by omega)
 simp only [c3]
 have htl:=vZ hAM
 have hget:∀ i (h:i < (tk b A M).length),(tk b A M)[i]=nth b (A+i) (u8 0):=fun i h=>by
  rw [qJz h (by omega),qL (by omega)]
 generalize tk b A M=t at *
 -- the first loop
 have first:loop (fun (x_1:BB×Int×Unit)=>sel (lt x_1.2.1 ((A+M:Nat):Int)) (ck (inB x_1.2.1 (len b)) (ck (inB x_1.2.1 (len b)) (ck (rm 1 (nadd (ln x_1.1) (ln [u8 (idiv (n8 (nth b (nat x_1.2.1) (u8 0))) (n8 (u8 16))),u8 (imod (n8 (nth b (nat x_1.2.1) (u8 0))) (n8 (u8 16)))])))
   (some (LS.nx (app x_1.1 [u8 (idiv (n8 (nth b (nat x_1.2.1) (u8 0))) (n8 (u8 16))),u8 (imod (n8 (nth b (nat x_1.2.1) (u8 0))) (n8 (u8 16)))],i64 (iadd x_1.2.1 1),())))))) (some (LS.ex 0 (x_1.1,x_1.2.1,()))))
   (none' UInt8,(A:Int),())=some (LS.ex 0 (nbs t,((A+M:Nat):Int),()):LS (BB×Int×Unit) (BB×Int×Int×Unit)):=by
  generalize hf:(fun (x:BB×Int×Unit)=>_)=f
  have key:=jP (f:=f) (fun i=>(nbs (t.take i),((A+i:Nat):Int),())) M (fun _=>True) ([],0,0,()) 0 ?_ ?_ ?_
  ·have e0:(nbs (t.take 0),((A+0:Nat):Int),())=(none' UInt8,(A:Int),()):=by simp [nbs,none']
   rw [e0] at key
   rcases key with ⟨_,hr⟩ | ⟨⟨i,hi,hn⟩,hr⟩
   ·rw [hr,List.take_of_length_le (by omega)]
   ·exact absurd trivial hn
  ·intro i hi _
   subst hf
   have hit:i < t.length:=by omega
   have hin:A+i < b.length:=by omega
   refine (qC (lt_t (show ((A+i:Nat):Int) < ((A+M:Nat):Int) by omega))).trans ?_
   refine (qH (zF hin)).trans ?_
   refine (qH (zF hin)).trans ?_
   have c:i64 (iadd ((A+i:Nat):Int) 1)=((A+(i+1):Nat):Int):=zS (b:=1) (by omega)
   simp only [qP,c,← hget i hit]
   refine (qH (rm_t ?_)).trans ?_
   ·simp only [nadd,ln,qAl,List.length_take,List.length_cons,List.length_nil];omega
   rw [List.take_succ_eq_append_getElem hit,qQs];rfl
  ·intro i _ _ h;exact absurd trivial h
  ·intro _;subst hf
   exact qB (lt_f (show ¬ ((A+M:Nat):Int) < ((A+M:Nat):Int) by omega))
 refine (zC first).trans ?_
 have hnl:=qAl t
 rw [htl] at hnl
 have hlt:=qR1 t
 simp only [lc]
 refine (qH rfl).trans ?_
 rw [qM5]
 generalize nbs t=l at *
 have k2:imod (N:Int) 2=((N % 2:Nat):Int):=qmB (b:=2)
 simp only [k2]
 have h9:n8 (u8 9)=((9:Nat):Int):=by decide
 have n8n:∀ c:UInt8,n8 c=((c.toNat:Nat):Int):=fun _=>rfl
 by_cases hodd:N % 2=1
 ·have hm:(N:Int) % 2=1:=by omega
  refine (qC (kM (by omega))).trans ?_
  have h0:0 < l.length:=by omega
  refine (qH (zF (a:=0) h0)).trans ?_
  have e0:beq (n8 (nth l (nat 0) (u8 0))) (n8 (u8 0))=decide (nth l 0 (u8 0)=0):=by
   show ((((nth l 0 (u8 0)).toNat:Nat):Int) == ((0:Nat):Int))=_
   rw [Bool.eq_iff_iff]
   simp only [beq_iff_eq,decide_eq_true_eq]
   constructor
   ·intro hh;apply UInt8.toNat_inj.1;exact Int.ofNat.inj hh
   ·intro hh;rw [hh];rfl
  have hx16:(nth l 0 (u8 0)).toNat < 16:=by rw [qL h0];exact hlt _ (List.getElem_mem _)
  have e1:nth (l.map fun x=>nib x.toNat) 0 (u8 0)=nib (nth l 0 (u8 0)).toNat:=by
   rw [qL (by simpa using h0),qL h0];simp
  have e2:(nth (l.map fun x=>nib x.toNat) 0 (u8 0)=48)↔nth l 0 (u8 0)=0:=by
   rw [e1,qOF _ hx16]
   constructor
   ·intro hh;apply UInt8.toNat_inj.1;exact hh
   ·intro hh;rw [hh];rfl
  rw [e0]
  by_cases hz:nth l 0 (u8 0)=0
  rotate_left
  ·rw [if_pos ⟨hm,fun h=>hz (e2.1 h)⟩]
   exact qC (by rw [decide_eq_false hz];rfl)
  rw [if_neg (fun hc=>hc.2 (e2.2 hz))]
  refine (qB (by rw [decide_eq_true hz];rfl)).trans ?_
  refine (qH (qzI (by omega) (by simp only [len];omega) (by simp only [len];omega))).trans ?_
  have c4:nsub (nat (len l)) (nat 1)=l.length - 1:=by simp [nsub,nat,len]
  have c5:nat 1=1:=by decide
  simp only [c4,c5,hodd]
  generalize hf:(fun (x:BB×Int×Int×Int×BB×Unit)=>_)=f
  have key:=jP (f:=f) (fun i=>(none' UInt8,(0:Int),(0:Int),(i:Int),half' l 1 i,())) (l.length - 1) (fun i=>(nth l (1+i) (u8 0)).toNat≤9) (none' UInt8,0,2,()) 2 ?_ ?_ ?_
  ·have e0:(none' UInt8,(0:Int),(0:Int),((0:Nat):Int),half' l 1 0,())=(none' UInt8,(0:Int),(0:Int),(0:Int),l,()):=by rw [qAp];rfl
   rw [e0] at key
   rcases key with ⟨hall,hr⟩ | ⟨⟨i,hi,hn⟩,hr⟩
   ·rw [hr,if_pos ((qpN hlt).2 hall),← qFI]
    show some (cut (half' l 1 (l.length - 1)) 1 (l.length - 1),((A+M:Nat):Int),(0:Int),())=_
    have:cut (half' l 1 (l.length - 1)) 1 (l.length - 1)=(half' l 1 (l.length - 1)).drop 1:=by
     unfold cut
     rw [List.take_of_length_le (by simp [j7])]
    rw [this];simp
   ·rw [hr,if_neg (fun hc=>hn ((qpN hlt).1 hc i hi))];rfl
  ·intro i hi hp
   subst hf
   have hi1:1+i < l.length:=by omega
   have hp':=hp i (Nat.le_refl _)
   obtain ⟨s1,s2⟩:=qAq hi1 hp'
   refine (qC (lt_t (show (i:Int) < ofn (l.length - 1) by simp only [ofn];omega))).trans ?_
   have hin:inB (i:Int) (ofn (l.length - 1))=true:=zF hi
   refine (qH hin).trans ?_
   have c6:nadd 1 (nat (i:Int))=1+i:=by simp [nadd,nat]
   have c:i64 (iadd (i:Int) 1)=((i+1:Nat):Int):=zS (b:=1) (by omega)
   simp only [c6,c]
   refine (qB (by rw [h9,s2,n8n];exact lt_f (by omega))).trans ?_
   refine (qH hin).trans ?_
   refine (qH hin).trans ?_
   rw [s1]
  ·intro i hi _ hp
   subst hf
   have hi1:1+i < l.length:=by omega
   refine (qC (lt_t (show (i:Int) < ofn (l.length - 1) by simp only [ofn];omega))).trans ?_
   have hin:inB (i:Int) (ofn (l.length - 1))=true:=zF hi
   refine (qH hin).trans ?_
   have c6:nadd 1 (nat (i:Int))=1+i:=by simp [nadd,nat]
   simp only [c6]
   exact qC (by rw [h9,qFH hi1,n8n];exact lt_t (by omega))
  ·intro _;subst hf
   exact qB (lt_f (show ¬ ((l.length - 1:Nat):Int) < ofn (l.length - 1) by simp only [ofn];omega))
 ·have hev:N % 2=0:=by omega
  rw [if_neg (fun hc=>by omega)]
  refine (qB (vX (by omega))).trans ?_
  simp only [hev]
  generalize hf:(fun (x:BB×Int×Int×Int×BB×Unit)=>_)=f
  have key:=jP (f:=f) (fun i=>(none' UInt8,(0:Int),(0:Int),(i:Int),half' l 0 i,())) (l.length - 0) (fun i=>(nth l (0+i) (u8 0)).toNat≤9) (none' UInt8,0,2,()) 2 ?_ ?_ ?_
  ·have e0:(none' UInt8,(0:Int),(0:Int),((0:Nat):Int),half' l 0 0,())=(none' UInt8,(0:Int),(0:Int),(0:Int),l,()):=by rw [qAp];rfl
   rw [e0] at key
   rcases key with ⟨hall,hr⟩ | ⟨⟨i,hi,hn⟩,hr⟩
   ·rw [hr,if_pos ((qpN hlt).2 hall),← qFI]
    show some (half' l 0 (l.length - 0),((A+M:Nat):Int),(0:Int),())=_
    rw [List.drop_zero];simp
   ·rw [hr,if_neg (fun hc=>hn ((qpN hlt).1 hc i hi))];rfl
  ·intro i hi hp
   subst hf
   have hi1:0+i < l.length:=by omega
   have hp':=hp i (Nat.le_refl _)
   obtain ⟨s1,s2⟩:=qAq hi1 hp'
   rw [Nat.zero_add] at s1 s2 hp'
   have hin:inB (i:Int) (len (half' l 0 i))=true:=zF (by rw [j7];omega)
   refine (qC (lt_t (show (i:Int) < len (half' l 0 i) by simp only [len,j7];omega))).trans ?_
   refine (qH hin).trans ?_
   have c:i64 (iadd (i:Int) 1)=((i+1:Nat):Int):=zS (b:=1) (by omega)
   simp only [qP,c]
   refine (qB (by rw [h9,s2,n8n];exact lt_f (by omega))).trans ?_
   refine (qH hin).trans ?_
   refine (qH hin).trans ?_
   rw [s1]
  ·intro i hi _ hp
   subst hf
   have hi1:0+i < l.length:=by omega
   have hin:inB (i:Int) (len (half' l 0 i))=true:=zF (by rw [j7];omega)
   refine (qC (lt_t (show (i:Int) < len (half' l 0 i) by simp only [len,j7];omega))).trans ?_
   refine (qH hin).trans ?_
   simp only [qP]
   have hg:=qFH hi1
   rw [Nat.zero_add] at hg hp
   exact qC (by rw [h9,hg,n8n];exact lt_t (by omega))
  ·intro _;subst hf
   exact qB (lt_f (show ¬ ((l.length - 0:Nat):Int) < len (half' l 0 (l.length - 0)) by simp only [len,j7];omega))
end Yp
namespace Yp
open Go
def vl (B:Nat) (wt:UInt8→Nat) (l:BB):Nat:=l.foldl (fun n c=>B*n+wt c) 0
theorem qLO (B:Nat) (wt:UInt8→Nat) (l:BB) (c:UInt8):vl B wt (l++[c])=B*vl B wt l+wt c:=by
 unfold vl;rw [List.foldl_append];rfl
theorem qIc (B:Nat) (g:Nat→UInt8) (v:Nat):∀ n,ps B g v (n+1)=ps B g (v / B) n++[g (v % B)]
 | 0=>by simp [ps]
 | n+1=>by
  have e:ps B g v (n+1+1)=g (v / B ^ (n+1) % B) :: ps B g v (n+1):=rfl
  have e2:ps B g (v / B) (n+1)=g (v / B / B ^ n % B) :: ps B g (v / B) n:=rfl
  rw [e,qIc B g v n,e2,Nat.div_div_eq_div_mul,Nat.pow_succ',List.cons_append]
theorem qPQ {B:Nat} {g:Nat→UInt8} {wt:UInt8→Nat} (hB:0 < B) (h:∀ d,d < B→wt (g d)=d):∀ (n v:Nat),vl B wt (ps B g v n)=v % B ^ n
 | 0,v=>by simp [ps,vl,Nat.mod_one]
 | n+1,v=>by
  rw [qIc,qLO,qPQ hB h n,h _ (Nat.mod_lt _ hB),Nat.pow_succ',Nat.mod_mul]
  omega
theorem qRM {B:Nat} {g:Nat→UInt8} {wt:UInt8→Nat} {l:BB} (h:∀ c∈l,wt c < B∧g (wt c)=c):∀ i,i≤l.length→ps B g (vl B wt (l.take i)) i=l.take i
 | 0,_=>by simp [ps]
 | i+1,hi=>by
  have hc:=h _ (List.getElem_mem (show i < l.length by omega))
  rw [List.take_succ_eq_append_getElem (by omega),qLO,qIc]
  have e1:(B*vl B wt (l.take i)+wt l[i]) / B=vl B wt (l.take i):=by
   rw [Nat.mul_add_div (by omega),Nat.div_eq_of_lt hc.1];omega
  have e2:(B*vl B wt (l.take i)+wt l[i]) % B=wt l[i]:=by
   rw [Nat.mul_add_mod,Nat.mod_eq_of_lt hc.1]
  rw [e1,e2,qRM h i (by omega),hc.2]
theorem qSA (l:BB):bev l=vl 256 UInt8.toNat l:=rfl
theorem qRt (l:BB):val l=vl 10 dv l:=rfl
theorem qSB (v n:Nat):bev (ps 256 byt v n)=v % 256 ^ n:=by
 rw [qSA]
 refine qPQ (by omega) (fun d hd => ?_) n v
 simp only [byt,UInt8.toNat_ofNat'];omega
theorem qLQ (v n:Nat):val (ps 10 dch v n)=v % 10 ^ n:=by
 rw [qRt]
 refine qPQ (by omega) (fun d hd => ?_) n v
 simp only [dv,dch,UInt8.toNat_ofNat'];omega
theorem qPp {l:BB} (hf:figs l):ps 10 dch (val l) l.length=l:=by
 have:=qRM (B:=10) (g:=dch) (wt:=dv) (l:=l) (fun c hc=>by
  obtain ⟨i,hi,rfl⟩:=List.getElem_of_mem hc
  have:=qdU (hf i hi)
  exact ⟨this.2,this.1.symm⟩) l.length (Nat.le_refl _)
 rw [List.take_length] at this;exact this
theorem qKJ {l:BB} (hf:figs l):val l < 10 ^ l.length:=by
 have:=qLR (s:=l) l.length (Nat.le_refl _) (fun j _ h=>hf j h)
 rw [List.take_length] at this;exact this
theorem qpI {b:BB}:∀ {i:Nat} (h:i < b.length),nth (jH b) (2*i) (u8 0)=nib (b[i].toNat / 16)∧nth (jH b) (2*i+1) (u8 0)=nib (b[i].toNat % 16):=by
 induction b with
 | nil=>intro i h;simp at h
 | cons x r ih =>
  intro i h
  have e:jH (x :: r)=nib (x.toNat / 16) :: nib (x.toNat % 16) :: jH r:=rfl
  cases i with
  | zero=>rw [e];exact ⟨rfl,rfl⟩
  | succ i =>
   have:=ih (i:=i) (by simpa using h)
   rw [e]
   exact this
theorem qMD {a b:BB} {k:Nat} (ha:a.length=2*k) (hb:b.length=2*k) (h:∀ i,i < k→nth a (2*i) (u8 0)=nth b (2*i) (u8 0)∧nth a (2*i+1) (u8 0)=nth b (2*i+1) (u8 0)):a=b:=by
 apply List.ext_getElem
 ·omega
 ·intro j h1 h2
  have:=h (j / 2) (by omega)
  by_cases hp:j % 2=0
  ·have:=this.1
   rw [show 2*(j / 2)=j by omega,qL h1,qL h2] at this;exact this
  ·have:=this.2
   rw [show 2*(j / 2)+1=j by omega,qL h1,qL h2] at this;exact this
theorem qPu:∀ d:Nat,d < 16→yA (nib d)→dv (nib d)=d:=by decide +kernel
theorem qPE:∀ d:Nat,d < 10→nib d=UInt8.ofNat (48+d):=by decide +kernel
theorem quD:∀ d:Nat,d < 16→qwV (nib d)∧hval (nib d)=d:=by decide +kernel
theorem qNu {p:BB} (hf:figs p) (he:p.length % 2=0):jH (bcd p)=p:=by
 have hl:(bcd p).length=p.length / 2:=by simp [bcd]
 refine qMD (k:=p.length / 2) (by rw [zY,hl]) (by omega) fun i hi => ?_
 have hi':i < (bcd p).length:=by omega
 have h0:2*i < p.length:=by omega
 have h1:2*i+1 < p.length:=by omega
 obtain ⟨e1,e2⟩:=qpI hi'
 obtain ⟨a1,a2⟩:=qdU (hf _ h0)
 obtain ⟨b1,b2⟩:=qdU (hf _ h1)
 have hg:(bcd p)[i]=UInt8.ofNat (16*dv p[2*i]+dv p[2*i+1]):=by simp [bcd,dat,qL h0,qL h1]
 have hn:(bcd p)[i].toNat=16*dv p[2*i]+dv p[2*i+1]:=by rw [hg,UInt8.toNat_ofNat'];omega
 rw [e1,e2,hn,qL h0,qL h1]
 rw [show (16*dv p[2*i]+dv p[2*i+1]) / 16=dv p[2*i] by omega,show (16*dv p[2*i]+dv p[2*i+1]) % 16=dv p[2*i+1] by omega]
 rw [qPE _ a2,qPE _ b2]
 exact ⟨a1.symm,b1.symm⟩
theorem qN2 {u:BB} (hf:figs (jH u)):bcd (jH u)=u:=by
 have hl:=zY u
 apply List.ext_getElem
 ·simp [bcd];omega
 ·intro i h1 h2
  obtain ⟨e1,e2⟩:=qpI h2
  have f0:=hf (2*i) (by omega)
  have f1:=hf (2*i+1) (by omega)
  rw [← qL (d:=u8 0)] at f0 f1
  rw [e1] at f0;rw [e2] at f1
  have hu:=qzB u[i]
  simp only [bcd,List.getElem_map,List.getElem_range,dat,e1,e2]
  rw [qPu _ (by omega) f0,qPu _ (by omega) f1]
  apply UInt8.toNat_inj.1
  rw [UInt8.toNat_ofNat'];omega
theorem qLg (b:BB):hexy (jH b):=by
 have hl:=zY b
 refine (qIz (k:=b.length) (by omega)).1 fun i hi => ?_
 obtain ⟨e1,e2⟩:=qpI hi
 have hu:=qzB b[i]
 rw [e1,e2]
 exact ⟨(quD _ (by omega)).1,(quD _ (by omega)).1⟩
theorem qLT (b:BB):unh (jH b)=b:=by
 have hl:=zY b
 apply List.ext_getElem
 ·simp [unh];omega
 ·intro i h1 h2
  obtain ⟨e1,e2⟩:=qpI h2
  have hu:=qzB b[i]
  simp only [unh,List.getElem_map,List.getElem_range,e1,e2]
  rw [(quD _ (by omega)).2,(quD _ (by omega)).2]
  apply UInt8.toNat_inj.1
  rw [UInt8.toNat_ofNat'];omega
end Yp
namespace Yp
open Go
theorem qrC {σ ρ β:Type} {k:Nat} {y:σ} {kn:σ→Option β} {ke:Nat→σ→Option β} {kr:ρ→Option β}:lc (some (.ex k y)) kn ke kr=ke k y:=rfl
theorem qJK {α:Type} {c:Bool} {a b:α}:sel c (some a) (some b)=some (sel c a b):=by cases c <;> rfl
theorem qOj {α:Type} {c:Bool} {a:α}:sel c a a=a:=by cases c <;> rfl
theorem qpC {σ ρ:Type} {f:σ→Option (LS σ ρ)} (st:Nat→σ) (n:Nat) (p:Nat→Prop) (r:Nat→LS σ ρ) (k:Nat) (hr:∀ i,match r i with | .nx _=>False | _=>True) (hs:∀ i,i < n→p i→f (st i)=some (.nx (st (i+1)))) (hb:∀ i,i < n→¬ p i→f (st i)=some (r i)) (he:f (st n)=some (.ex k (st n))) :
  ((∀ i,i < n→p i)∧loop f (st 0)=some (.ex k (st n)))∨∃ i,i < n∧(∀ j,j < i→p j)∧¬ p i∧loop f (st 0)=some (r i):=by
 by_cases h:∀ i,i < n→p i
 ·refine .inl ⟨h, ?_⟩
  rw [qN st n (fun i hi=>hs i hi (h i hi)) 0 (Nat.zero_le _)]
  exact qV he
 ·refine .inr ?_
  have hex:∃ i,i < n∧¬ p i:=Classical.byContradiction fun hc=>h fun i hi=>Classical.byContradiction fun hp=>hc ⟨i,hi,hp⟩
  obtain ⟨k,hk,hp⟩:=hex
  induction k using Nat.strongRecOn with
  | _ k ih =>
   by_cases hl:∃ j,j < k∧¬ p j
   ·obtain ⟨j,hj,hpj⟩:=hl
    exact ih j hj (by omega) hpj
   ·have hall:∀ i,i < k→p i:=fun i hi=>Classical.byContradiction fun hp=>hl ⟨i,hi,hp⟩
    refine ⟨k,hk,hall,hp, ?_⟩
    rw [qN st k (fun i hi=>hs i (by omega) (hall i hi)) 0 (Nat.zero_le _)]
    have:=hb k hk hp
    have hrk:=hr k
    generalize r k=x at *
    cases x with
    | nx y=>exact hrk.elim
    | ex j y=>exact qV this
    | rt y=>exact qeY this
def frows:List (List Int):=[[1,2,25],[1,3,22,49,70],[1,4,13,14,18],[1,6,3,11,12,15],[1,10,7],[1,12,4],[1,16,53],[1,42,90],[2,19,2],[2,11,32,100],[3,12,37],[3,6,38],[3,2,39],[3,8,41],[3,15,42],[3,42,95],[4,37,35],[4,28,102],[5,400,48],[5,120,54],[6,8,52,64,96,128],[7,255,55],[7,400,127]]
def frow (i:Nat):List Int:=nth frows i (none' Int)
def zJ (no:Int):Option (Int×Int):=(frows.find? fun r=>(r.drop 2).contains no).map fun r=>(nth r 0 0,nth r 1 0)
def fr (o:Option (Int×Int)):(Int×Int×Unit)×Bool×Unit:=match o with | some (k,l)=>((k,l,()),true,()) | none=>((0,0,()),false,())
theorem qBV (l:List Int) (n:Int) (hl:l.length≤1000000):qoZ (l,n,())=some (l.contains n,()):=by
 unfold qoZ
 generalize hf:(fun (x_1:Bool×Int×Unit)=>_)=f
 have key:=qpC (f:=f) (fun i=>(false,(i:Int),())) l.length (fun i=>¬ nth l i 0=n) (fun _ => .rt (true,())) 0 (fun _=>trivial) ?_ ?_ ?_
 ·rcases key with ⟨h,hr⟩ | ⟨i,hi,_,hp,hr⟩
  ·refine (zC hr).trans ?_
   have:l.contains n=false:=by
    rw [List.contains_eq_mem,decide_eq_false_iff_not]
    intro hm
    obtain ⟨i,hi,rfl⟩:=List.getElem_of_mem hm
    exact h i hi (qL hi)
   rw [this];rfl
  ·refine (zC hr).trans ?_
   have:l.contains n=true:=by
    rw [List.contains_eq_mem,decide_eq_true_eq,← Classical.not_not.1 hp,qL hi];exact List.getElem_mem hi
   rw [this];rfl
 ·intro i hi hp
  subst hf
  refine (qC (qpB.trans (decide_eq_true hi))).trans ?_
  refine (qH (zF hi)).trans ?_
  refine (qB (vX hp)).trans ?_
  have c:i64 (iadd (i:Int) 1)=((i+1:Nat):Int):=zS (b:=1) (by omega)
  simp only [c]
 ·intro i hi hp
  subst hf
  refine (qC (qpB.trans (decide_eq_true hi))).trans ?_
  refine (qH (zF hi)).trans ?_
  exact qC (kM (Classical.not_not.1 hp))
 ·subst hf
  exact qB (lt_f (by simp only [len];omega))
theorem qAw {α:Type} {p:α→Bool}:∀ {l:List α} {i:Nat} (h:i < l.length),(∀ j (hj:j < i),p (l[j]'(by omega))=false)→p l[i]=true→l.find? p=some l[i]
 | a :: r,0,_,_,h=>by simp only [List.getElem_cons_zero] at h ⊢; exact List.find?_cons_of_pos h
 | a :: r,i+1,hi,hj,h=>by
  rw [List.find?_cons_of_neg (by have:=hj 0 (by omega);simp only [List.getElem_cons_zero] at this;rw [this];exact Bool.false_ne_true)]
  simp only [List.getElem_cons_succ] at h ⊢
  exact qAw (by simpa using hi) (fun j hj'=>by have:=hj (j+1) (by omega);simpa using this) h
theorem qb5 (no:Int):qg8 (no,())=some (fr (zJ no)):=by
 unfold qg8
 generalize hf:(fun (x_1:Bool×Int×Unit)=>_)=f
 have hlen:∀ i,i < 23→3≤(frow i).length∧(frow i).length≤10:=by decide
 have hin:∀ i,i < 23→qoZ (sub (frow i) 2 (len (frow i)),no,())=some (((frow i).drop 2).contains no,()):=by
  intro i hi
  have:=hlen i hi
  rw [qBV _ _ (by simp only [sub,List.length_take,List.length_drop];omega)]
  have:sub (frow i) 2 (len (frow i))=(frow i).drop 2:=by
   simp only [sub,len]
   rw [List.take_of_length_le (by simp)];rfl
  rw [this]
 have key:=qpC (f:=f) (fun i=>(false,(i:Int),())) 23 (fun i=>((frow i).drop 2).contains no=false) (fun i => .rt ((nth (frow i) 0 0,nth (frow i) 1 0,()),true,())) 0 (fun _=>trivial) ?_ ?_ ?_
 ·have hn:∀ i,(h:i < 23)→frows[i]'(by exact h)=frow i:=fun i h=>(qL (d:=none' Int) (by exact h)).symm
  rcases key with ⟨h,hr⟩ | ⟨i,hi,hj,hp,hr⟩
  ·refine (zC hr).trans ?_
   have:zJ no=none:=by
    unfold zJ
    rw [Option.map_eq_none_iff,List.find?_eq_none]
    intro r hm
    obtain ⟨i,hi,rfl⟩:=List.getElem_of_mem hm
    rw [hn i hi,h i hi];exact Bool.false_ne_true
   rw [this];rfl
  ·refine (zC hr).trans ?_
   have:zJ no=some (nth (frow i) 0 0,nth (frow i) 1 0):=by
    unfold zJ
    have hfi:frows.find? (fun r=>(r.drop 2).contains no)=some (frows[i]'(by exact hi)):=qAw (l:=frows) (p:=fun (r:List Int)=>(r.drop 2).contains no) hi (fun j hj'=>(congrArg (fun (r:List Int)=>(r.drop 2).contains no) (hn j (by omega))).trans (hj j hj')) ((congrArg (fun (r:List Int)=>(r.drop 2).contains no) (hn i hi)).trans ((Bool.not_eq_false _).mp hp))
    rw [hfi,hn i hi];rfl
   rw [this];rfl
 ·intro i hi hp
  subst hf
  have h:=hlen i hi
  refine (qC (qpB (b:=23).trans (decide_eq_true hi))).trans ?_
  refine (qH (zF (n:=23) hi)).trans ?_
  refine (qH (show inC 2 (len (frow i)) (len (frow i))=true from qzI (by omega) (by simp only [len];omega) (by omega))).trans ?_
  refine (qF (hin i hi)).trans ?_
  refine (qB hp).trans ?_
  have c:i64 (iadd (i:Int) 1)=((i+1:Nat):Int):=zS (b:=1) (by omega)
  simp only [c]
 ·intro i hi hp
  subst hf
  have h:=hlen i hi
  refine (qC (qpB (b:=23).trans (decide_eq_true hi))).trans ?_
  refine (qH (zF (n:=23) hi)).trans ?_
  refine (qH (show inC 2 (len (frow i)) (len (frow i))=true from qzI (by omega) (by simp only [len];omega) (by omega))).trans ?_
  refine (qF (hin i hi)).trans ?_
  refine (qC ((Bool.not_eq_false _).mp hp)).trans ?_
  repeat refine (qH (zF (n:=23) hi)).trans ?_
  repeat first
   | refine (qH (show inB 0 (len (frow i))=true from qSe (by omega) (by simp only [len];omega))).trans ?_
   | refine (qH (show inB 1 (len (frow i))=true from qSe (by omega) (by simp only [len];omega))).trans ?_
   | refine (qH (zF (n:=23) hi)).trans ?_
  rfl
 ·subst hf
  exact qB (lt_f (by simp only [len];decide))
def fnums:List Int:=frows.flatMap fun r=>r.drop 2
noncomputable def lg (k no:Int):Int:=match qaW (k,no,()) with | some (a,())=>a | none=>0
theorem qpO (no:Int):∃ a,wU (no,())=some (a,()):=by
 unfold wU
 simp only [qJK]
 exact ⟨_,rfl⟩
theorem qw5 (k no:Int):qaW (k,no,())=some (lg k no,()):=by
 have:∃ a,qaW (k,no,())=some (a,()):=by
  unfold qaW
  obtain ⟨a,ha⟩:=qpO no
  simp only [ha,ob_s,qJK]
  exact ⟨_,rfl⟩
 obtain ⟨a,ha⟩:=this
 unfold lg;rw [ha]
noncomputable def qK8 (no:Int):Option (Int×Int):=if 0 < lg 1 no then some (1,lg 1 no) else if 0 < lg 2 no then some (2,lg 2 no) else if 0 < lg 3 no then some (3,lg 3 no) else if 0 < lg 4 no then some (4,lg 4 no)
 else if 0 < lg 5 no then some (5,lg 5 no) else if 0 < lg 6 no then some (6,lg 6 no) else if 0 < lg 7 no then some (7,lg 7 no) else none
theorem qCl (no:Int):qhR (no,())=some (fr (qK8 no)):=by
 unfold qhR
 generalize hf:(fun (x_1:Bool×Int×Unit)=>_)=f
 have step:∀ k:Nat,k≤7→f (false,(k:Int),())=if 0 < lg k no then some (.rt (((k:Int),lg k no,()),true,())) else some (.nx (false,((k+1:Nat):Int),())):=by
  intro k hk
  subst hf
  refine (qC (le_t (show (k:Int)≤7 by omega))).trans ?_
  refine (qF (qw5 _ _)).trans ?_
  have c:i64 (iadd (k:Int) 1)=((k+1:Nat):Int):=zS (b:=1) (by omega)
  simp only [c]
  by_cases h:0 < lg k no
  ·rw [if_pos h];exact qC (lt_t h)
  ·rw [if_neg h];exact qB (lt_f h)
 have last:f (false,((8:Nat):Int),())=some (.ex 0 (false,((8:Nat):Int),())):=by
  subst hf;exact qB (le_f (show ¬ ((8:Nat):Int)≤7 by omega))
 have key:∀ k:Nat,k≤7→lg k no≤0→loop f (false,(k:Int),())=loop f (false,((k+1:Nat):Int),()):=fun k hk h=>vW (by rw [step k hk,if_neg (by omega)])
 have hit:∀ k:Nat,k≤7→0 < lg k no→loop f (false,(k:Int),())=some (.rt (((k:Int),lg k no,()),true,())):=fun k hk h=>qeY (by rw [step k hk,if_pos h])
 have:=key 1;have:=key 2;have:=key 3;have:=key 4;have:=key 5;have:=key 6;have:=key 7
 have:=hit 1;have:=hit 2;have:=hit 3;have:=hit 4;have:=hit 5;have:=hit 6;have:=hit 7
 have h8:loop f (false,((8:Nat):Int),())=some (.ex 0 (false,((8:Nat):Int),())):=qV last
 show lc (loop f (false,((1:Nat):Int),())) _ _ _=_
 unfold qK8
 repeat' split
 all_goals
  simp_all
  first | done | rfl
theorem qQE {no:Int} (h:∀ c∈fnums,¬ no=c):∀ k,lg k no=0:=by
 have h':∀ c∈fnums,beq no c=false:=fun c hc=>vX (h c hc)
 have e:fnums=[25,22,49,70,13,14,18,3,11,12,15,7,4,53,90,2,32,100,37,38,39,41,42,95,35,102,48,54,52,64,96,128,55,127]:=by decide
 rw [e] at h'
 simp only [List.mem_cons,List.not_mem_nil,or_false,forall_eq_or_imp,forall_eq] at h'
 intro k
 unfold lg qaW wU
 simp only [h',qDC,ob_s,qOj]
theorem qMC (no:Int):qK8 no=zJ no:=by
 by_cases h:no∈fnums
 ·exact (by decide +kernel:∀ no∈fnums,qK8 no=zJ no) no h
 ·have h':∀ c∈fnums,¬ no=c:=fun c hc e=>h (e ▸ hc)
  have e1:qK8 no=none:=by simp [qK8,qQE h']
  have e2:zJ no=none:=by
   unfold zJ
   rw [Option.map_eq_none_iff,List.find?_eq_none]
   intro r hr hc
   rw [List.contains_eq_mem,decide_eq_true_eq] at hc
   exact h (List.mem_flatMap.2 ⟨r,hr,hc⟩)
  rw [e1,e2]
theorem qhQ (no:Int):qhR (no,())=some (fr (zJ no)):=by rw [qCl,qMC]
def kinds (k:Int):Prop:=k=1∨k=2∨k=3∨k=4∨k=5∨k=6∨k=7
instance (k:Int):Decidable (kinds k):=by unfold kinds;infer_instance
theorem qbY {no k l:Int} (h:zJ no=some (k,l)):kinds k∧1≤l∧l≤400∧(k=2∨k=4→l≤99):=by
 unfold zJ at h
 rw [Option.map_eq_some_iff] at h
 obtain ⟨r,hr,he⟩:=h
 have hm:=List.mem_of_find?_eq_some hr
 have:∀ r∈frows,kinds (nth r 0 0)∧1≤nth r 1 0∧nth r 1 0≤400∧(nth r 0 0=2∨nth r 0 0=4→nth r 1 0≤99):=by decide +kernel
 have:=this r hm
 cases he
 exact this
end Yp
namespace Yp
open Go
def rng (lo hi:Int) (v:BB):Prop:=∀ i (h:i < v.length),lo≤n8 v[i]∧n8 v[i]≤hi
instance (lo hi:Int) (v:BB):Decidable (rng lo hi v):=inferInstanceAs (Decidable (∀ (i:Nat) (h:i < v.length),lo≤n8 v[i]∧n8 v[i]≤hi))
theorem okl (lo hi:UInt8) (v:BB) (hl:v.length≤1000000):∃ i,loop (fun (x_1:Bool×Int×Unit) =>
  sel (lt x_1.2.1 (len v)) (ck (inB x_1.2.1 (len v)) (ob (sel (lt (n8 (nth v (nat x_1.2.1) (u8 0))) (n8 lo)) (some (true,())) (some (lt (n8 hi) (n8 (nth v (nat x_1.2.1) (u8 0))),())))
   fun (a:Bool×Unit)=>sel a.1 (some (LS.ex 999999999 (false,x_1.2.1,()))) (some (LS.nx (x_1.1,i64 (iadd x_1.2.1 1),())))))
   (some (LS.ex 0 (x_1.1,x_1.2.1,()):LS (Bool×Int×Unit) Unit))) (false,0,())=some (if rng (n8 lo) (n8 hi) v then .ex 0 (false,i,()) else .ex 999999999 (false,i,())):=by
 generalize hf:(fun (x_1:Bool×Int×Unit)=>_)=f
 have key:=qpC (f:=f) (fun i=>(false,(i:Int),())) v.length (fun i=>n8 lo≤n8 (nth v i (u8 0))∧n8 (nth v i (u8 0))≤n8 hi) (fun i => .ex 999999999 (false,(i:Int),())) 0 (fun _=>trivial) ?_ ?_ ?_
 ·rcases key with ⟨h,hr⟩ | ⟨i,hi,_,hp,hr⟩
  ·refine ⟨(v.length:Int),hr.trans ?_⟩
   rw [if_pos (show rng (n8 lo) (n8 hi) v from fun i hi=>by have:=h i hi;rwa [qL hi] at this)]
  ·refine ⟨(i:Int),hr.trans ?_⟩
   rw [if_neg (fun (hc:rng (n8 lo) (n8 _) v)=>hp (by have:=hc i hi;rwa [← qL (d:=u8 0) hi] at this))]
 ·intro i hi hp
  subst hf
  refine (qC (qpB.trans (decide_eq_true hi))).trans ?_
  refine (qH (zF hi)).trans ?_
  have c:i64 (iadd (i:Int) 1)=((i+1:Nat):Int):=zS (b:=1) (by omega)
  simp only [qP,c]
  refine (qF (a:=(false,())) ((qB (lt_f (by omega))).trans (congrArg (fun b=>some (b,())) (lt_f (by omega))))).trans ?_
  rfl
 ·intro i hi hp
  subst hf
  refine (qC (qpB.trans (decide_eq_true hi))).trans ?_
  refine (qH (zF hi)).trans ?_
  simp only [qP]
  by_cases h:n8 (nth v i (u8 0)) < n8 lo
  ·exact (qF (qC (lt_t h))).trans rfl
  ·exact (qF (a:=(true,())) ((qB (lt_f h)).trans (congrArg (fun b=>some (b,())) (lt_t (by omega))))).trans rfl
 ·subst hf
  exact qB (lt_f (by simp only [len];omega))
def fch (k:Int) (v:BB):Prop:=(k≤2→figs v)∧(k≤5→rng 32 126 v)
def fln (k l:Int) (n:Nat):Prop:=if k=1∨k=3∨k=6 then (n:Int)=l else 1≤n∧(n:Int)≤l
instance (k l:Int) (n:Nat):Decidable (fln k l n):=by unfold fln;infer_instance
def fv (k l:Int) (v:BB):Prop:=fch k v∧fln k l v.length
instance (k l:Int) (v:BB):Decidable (fv k l v):=inferInstanceAs (Decidable (((k≤2→figs v)∧(k≤5→rng 32 126 v))∧fln k l v.length))
theorem qFm (c:UInt8):n8 c=((c.toNat:Nat):Int):=rfl
theorem qOm {v:BB}:rng 48 57 v↔figs v:=by
 unfold rng figs yA
 refine forall_congr' fun i=>forall_congr' fun h => ?_
 rw [qFm];omega
theorem qmE {v:BB} (h:figs v):rng 32 126 v:=fun i hi=>by
 have:=h i hi
 unfold yA at this
 rw [qFm];omega
def cnt (k:Int):Int:=if k=2∨k=4 then 2 else if k=5∨k=7 then 3 else 0
theorem qkN {k:Int} (hk:kinds k):qU (k,())=some (cnt k,()):=by
 rcases hk with rfl | rfl | rfl | rfl | rfl | rfl | rfl <;> rfl
theorem yG {k:Int} (hk:kinds k):qaO (k,())=some (cnt k,()):=by
 rcases hk with rfl | rfl | rfl | rfl | rfl | rfl | rfl <;> rfl
theorem qw1 {o:Option (Int×Int)} {k l:Int} (h:o=some (k,l)):fr o=((k,l,()),true,()):=by rw [h];rfl
theorem qQS {o:Option (Int×Int)} (h:o=none):fr o=((0,0,()),false,()):=by rw [h];rfl
theorem yS {a b:Bool} (h:a=b):some (a,())=some (b,()):=by rw [h]
def vL (no:Int) (v:BB):Bool:=match zJ no with | some (k,l)=>decide (fv k l v) | none=>false
theorem qdS (no:Int) (v:BB) (hl:v.length≤1000000):qcM (no,v,())=some (vL no v,()):=by
 unfold qcM vL
 refine (qF (qhQ no)).trans ?_
 cases ho:zJ no with
 | none=>exact (qF (a:=(true,())) (qC rfl)).trans rfl
 | some p =>
  obtain ⟨k,l⟩:=p
  rw [qw1 rfl]
  obtain ⟨hk,h1,h400,h99⟩:=qbY ho
  by_cases hlen:l < v.length
  ·refine (qF (a:=(true,())) ((qB rfl).trans (yS (lt_t hlen)))).trans ?_
   refine (qC rfl).trans (yS ?_)
   refine (decide_eq_false fun h => ?_).symm
   have:=h.2
   unfold fln at this
   split at this <;> omega
  refine (qF (a:=(false,())) ((qB rfl).trans (yS (lt_f hlen)))).trans ?_
  obtain ⟨i,r1⟩:=okl (u8 48) (u8 57) v hl
  obtain ⟨j,r2⟩:=okl (u8 32) (u8 126) v hl
  have e1:rng (n8 (u8 48)) (n8 (u8 57)) v↔figs v:=qOm
  have e2:rng (n8 (u8 32)) (n8 (u8 126)) v↔rng 32 126 v:=Iff.rfl
  simp only [e1] at r1
  simp only [e2] at r2
  have ht:=qkN hk
  have zz:∀ {c:Bool} {p:Prop} [Decidable p],(c=true↔p)→some (c,())=some (decide p,()):=fun {c p _} h=>yS (Bool.eq_iff_iff.2 (h.trans decide_eq_true_iff.symm))
  refine (qB rfl).trans ?_
  rcases hk with rfl | rfl | rfl | rfl | rfl | rfl | rfl
  ·refine (qC rfl).trans ?_;refine (qC rfl).trans ?_
   refine (zC r1).trans ?_
   by_cases hf:figs v
   ·rw [if_pos hf]
    refine qrC.trans ?_
    refine (qB rfl).trans ?_;refine (qH rfl).trans ?_
    refine (zC r2).trans ?_
    rw [if_pos (qmE hf)]
    refine qrC.trans ?_
    refine (qB rfl).trans ?_;refine (qH rfl).trans ?_
    refine (qF ht).trans ?_
    refine (qB rfl).trans ?_
    refine zz ?_
    simp [beq,len,fv,fln,fch,hf,qmE hf]
   ·rw [if_neg hf]
    refine qrC.trans ?_
    refine (qC rfl).trans ?_;refine (qC rfl).trans ?_
    exact yS (decide_eq_false fun h=>hf (h.1.1 (by omega))).symm
  ·refine (qB rfl).trans ?_;refine (qC rfl).trans ?_
   refine (zC r1).trans ?_
   by_cases hf:figs v
   ·rw [if_pos hf]
    refine qrC.trans ?_
    refine (qB rfl).trans ?_;refine (qH rfl).trans ?_
    refine (zC r2).trans ?_
    rw [if_pos (qmE hf)]
    refine qrC.trans ?_
    refine (qB rfl).trans ?_;refine (qH rfl).trans ?_
    refine (qF ht).trans ?_
    refine (qC rfl).trans ?_
    refine zz ?_
    simp [lt,len,fv,fln,fch,hf,qmE hf]
    omega
   ·rw [if_neg hf]
    refine qrC.trans ?_
    refine (qC rfl).trans ?_;refine (qC rfl).trans ?_
    exact yS (decide_eq_false fun h=>hf (h.1.1 (by omega))).symm
  ·refine (qB rfl).trans ?_;refine (qB rfl).trans ?_;refine (qC rfl).trans ?_;refine (qC rfl).trans ?_
   refine (zC r2).trans ?_
   by_cases hf:rng 32 126 v
   ·rw [if_pos hf]
    refine qrC.trans ?_
    refine (qB rfl).trans ?_;refine (qH rfl).trans ?_
    refine (qF ht).trans ?_
    refine (qB rfl).trans ?_
    refine zz ?_
    simp [beq,len,fv,fln,fch,hf]
   ·rw [if_neg hf]
    refine qrC.trans ?_
    refine (qC rfl).trans ?_;refine (qC rfl).trans ?_
    exact yS (decide_eq_false fun h=>hf (h.1.2 (by omega))).symm
  ·refine (qB rfl).trans ?_;refine (qB rfl).trans ?_;refine (qB rfl).trans ?_;refine (qC rfl).trans ?_
   refine (zC r2).trans ?_
   by_cases hf:rng 32 126 v
   ·rw [if_pos hf]
    refine qrC.trans ?_
    refine (qB rfl).trans ?_;refine (qH rfl).trans ?_
    refine (qF ht).trans ?_
    refine (qC rfl).trans ?_
    refine zz ?_
    simp [lt,len,fv,fln,fch,hf]
    omega
   ·rw [if_neg hf]
    refine qrC.trans ?_
    refine (qC rfl).trans ?_;refine (qC rfl).trans ?_
    exact yS (decide_eq_false fun h=>hf (h.1.2 (by omega))).symm
  ·refine (qB rfl).trans ?_;refine (qB rfl).trans ?_;refine (qB rfl).trans ?_;refine (qB rfl).trans ?_;refine (qC rfl).trans ?_
   refine (zC r2).trans ?_
   by_cases hf:rng 32 126 v
   ·rw [if_pos hf]
    refine qrC.trans ?_
    refine (qB rfl).trans ?_;refine (qH rfl).trans ?_
    refine (qF ht).trans ?_
    refine (qC rfl).trans ?_
    refine zz ?_
    simp [lt,len,fv,fln,fch,hf]
    omega
   ·rw [if_neg hf]
    refine qrC.trans ?_
    refine (qC rfl).trans ?_;refine (qC rfl).trans ?_
    exact yS (decide_eq_false fun h=>hf (h.1.2 (by omega))).symm
  ·refine (qB rfl).trans ?_;refine (qB rfl).trans ?_;refine (qB rfl).trans ?_;refine (qB rfl).trans ?_;refine (qB rfl).trans ?_
   refine (qF ht).trans ?_
   refine (qB rfl).trans ?_
   refine zz ?_
   simp [beq,len,fv,fln,fch]
  ·refine (qB rfl).trans ?_;refine (qB rfl).trans ?_;refine (qB rfl).trans ?_;refine (qB rfl).trans ?_;refine (qB rfl).trans ?_
   refine (qF ht).trans ?_
   refine (qC rfl).trans ?_
   refine zz ?_
   simp [lt,len,fv,fln,fch]
   omega
end Yp
namespace Yp
open Go
theorem v6 (k l:Int) (v:BB) (hl:v.length≤1000000):∃ b,xQ ((k,l,()),v,())=some (b,())∧(1≤k→b=decide (fv k l v)):=by
 unfold xQ
 generalize hf:(fun (x_1:Bool×Int×Unit)=>_)=f
 have n48:n8 (u8 48)=48:=by decide
 have n57:n8 (u8 57)=57:=by decide
 have n32:n8 (u8 32)=32:=by decide
 have n126:n8 (u8 126)=126:=by decide
 have key:=qpC (f:=f) (fun i=>(false,(i:Int),())) v.length (fun i=>(k≤2→48≤n8 (nth v i (u8 0))∧n8 (nth v i (u8 0))≤57)∧(3≤k→k≤5→32≤n8 (nth v i (u8 0))∧n8 (nth v i (u8 0))≤126)) (fun i => .rt (false,())) 0 (fun _=>trivial) ?_ ?_ ?_
 ·rcases key with ⟨h,hr⟩ | ⟨i,hi,_,hp,hr⟩
  ·refine ⟨fln k l v.length, ?_,fun hk => ?_⟩
   ·refine (zC hr).trans ?_
    refine qrC.trans ?_
    refine (qH rfl).trans ?_
    by_cases hk:k=1∨k=3∨k=6
    ·refine (qF (a:=(true,())) ?_).trans ?_
     ·rcases hk with rfl | rfl | rfl
      ·exact qC rfl
      ·exact (qB rfl).trans (qC rfl)
      ·exact (qB rfl).trans ((qB rfl).trans rfl)
     ·refine (qC rfl).trans ?_
      refine yS ?_
      rw [Bool.eq_iff_iff]
      simp only [beq,len,fln,if_pos hk,decide_eq_true_eq,beq_iff_eq]
    ·refine (qF (a:=(false,())) ?_).trans ?_
     ·exact (qB (vX (fun h=>hk (.inl h)))).trans ((qB (vX (fun h=>hk (.inr (.inl h))))).trans (yS (vX (fun h=>hk (.inr (.inr h))))))
     ·refine (qB rfl).trans ?_
      by_cases h1:1≤v.length
      ·refine (qF (qC (le_t (by simp only [len];omega)))).trans ?_
       refine yS ?_
       rw [Bool.eq_iff_iff]
       simp only [le,len,fln,if_neg hk,decide_eq_true_eq];exact (decide_eq_true_iff (p:=(v.length:Int)≤l)).trans ⟨fun h=>⟨h1,h⟩,fun h=>h.2⟩
      ·refine (qF (qB (le_f (by simp only [len];omega)))).trans ?_
       refine yS ?_
       rw [Bool.eq_iff_iff]
       simp only [fln,if_neg hk,decide_eq_true_eq,Bool.false_eq_true,false_iff];omega
   ·have hc:fch k v:=by
     refine ⟨fun h2 i hi => ?_,fun h5 i hi => ?_⟩
     ·have:=(h i hi).1 h2
      rw [qL hi,qFm] at this
      unfold yA;omega
     ·by_cases h2:k≤2
      ·have:=(h i hi).1 h2
       rw [qL hi] at this;omega
      ·have:=(h i hi).2 (by omega) h5
       rw [qL hi] at this;omega
    rw [Bool.eq_iff_iff]
    simp [fv,hc]
  ·refine ⟨false,(zC hr).trans rfl,fun hk=>(decide_eq_false fun hc=>hp ⟨fun h2 => ?_,fun h3 h5 => ?_⟩).symm⟩
   ·have:=hc.1.1 h2 i hi
    unfold yA at this
    rw [qL hi,qFm];omega
   ·have:=hc.1.2 h5 i hi
    rw [qL hi];omega
 ·intro i hi hp
  subst hf
  refine (qC (qpB.trans (decide_eq_true hi))).trans ?_
  have c:i64 (iadd (i:Int) 1)=((i+1:Nat):Int):=zS (b:=1) (by omega)
  have ci:inB (i:Int) (len v)=true:=zF hi
  simp only [qP,c,n48,n57,n32,n126,ci]
  refine (qF (a:=(false,())) ?_).trans rfl
  by_cases h2:k≤2
  ·have:=hp.1 h2
   refine (qC (le_t h2)).trans ?_
   refine (qH rfl).trans ?_
   refine (qB (lt_f (by omega))).trans ?_
   refine (qH rfl).trans ?_
   refine (qB (lt_f (by omega))).trans ?_
   exact qB (le_f (show ¬ 3≤k by omega))
  ·refine (qB (le_f h2)).trans ?_
   refine (qC (le_t (show 3≤k by omega))).trans ?_
   by_cases h5:k≤5
   ·have:=hp.2 (by omega) h5
    refine (qC (le_t h5)).trans ?_
    refine (qH rfl).trans ?_
    refine (qB (lt_f (by omega))).trans ?_
    refine (qH rfl).trans ?_
    exact yS (lt_f (by omega))
   ·exact qB (le_f h5)
 ·intro i hi hp
  subst hf
  refine (qC (qpB.trans (decide_eq_true hi))).trans ?_
  have ci:inB (i:Int) (len v)=true:=zF hi
  simp only [qP,n48,n57,n32,n126,ci]
  refine (qF (a:=(true,())) ?_).trans rfl
  by_cases h2:k≤2
  ·refine (qC (le_t h2)).trans ?_
   refine (qH rfl).trans ?_
   by_cases ha:n8 (nth v i (u8 0)) < 48
   ·exact qC (lt_t ha)
   ·refine (qB (lt_f ha)).trans ?_
    refine (qH rfl).trans ?_
    refine (qC (lt_t ?_)).trans rfl
    refine Classical.byContradiction fun hb=>hp ⟨fun _=>by omega,fun h=>by omega⟩
  ·by_cases h5:k≤5
   ·refine (qB (le_f h2)).trans ?_
    refine (qC (le_t (show 3≤k by omega))).trans ?_
    refine (qC (le_t h5)).trans ?_
    refine (qH rfl).trans ?_
    by_cases ha:n8 (nth v i (u8 0)) < 32
    ·exact qC (lt_t ha)
    ·refine (qB (lt_f ha)).trans ?_
     refine (qH rfl).trans ?_
     refine yS (lt_t ?_)
     refine Classical.byContradiction fun hb=>hp ⟨fun _=>by omega,fun _ _=>by omega⟩
   ·exact absurd ⟨fun h=>absurd h h2,fun _ h=>absurd h h5⟩ hp
 ·subst hf
  exact qB (lt_f (by simp only [len];omega))
theorem qv5 (no:Int) (v:BB) (hl:v.length≤1000000):ql2 (no,v,())=some (vL no v,()):=by
 unfold ql2 vL
 refine (qF (qb5 no)).trans ?_
 cases ho:zJ no with
 | none =>
  rw [qQS rfl]
  obtain ⟨b,hb,_⟩:=v6 0 0 v hl
  refine (qF hb).trans ?_
  exact (qF (qB rfl)).trans rfl
 | some p =>
  obtain ⟨k,l⟩:=p
  rw [qw1 rfl]
  obtain ⟨b,hb,h⟩:=v6 k l v hl
  refine (qF hb).trans ?_
  refine (qF (qC rfl)).trans (yS (h ?_))
  have:=(qbY ho).1
  unfold kinds at this;omega
def hdr (k:Int) (n:Nat):BB:=if 0 < cnt k then bcd (pad (ps 10 dch n (cnt k).toNat)) else []
def body (k:Int) (v:BB):BB:=if k≤2 then bcd (pad v) else v
def wrF (k:Int) (v:BB):BB:=hdr k v.length++body k v
def wrD (no:Int) (v:BB):BB×Int×Unit:=match zJ no with | none=>([],12,()) | some (k,l)=>if fv k l v then (wrF k v,0,()) else ([],1,())
theorem qLJ (p:BB):(bcd p).length=p.length / 2:=by simp [bcd]
theorem z4 (p:BB):(bcd (pad p)).length=(p.length+1) / 2:=by rw [qLJ,qf4];omega
theorem qn1 (k:Int) (v:BB):(body k v).length=if k≤2 then (v.length+1) / 2 else v.length:=by
 unfold body;split
 ·exact z4 v
 ·rfl
theorem qNQ {k l:Int} {v:BB} (hk:kinds k) (h99:k=2∨k=4→l≤99) (h400:l≤400) (hv:fv k l v) (h0:0 < cnt k):(1≤cnt k∧cnt k≤18)∧(0≤(v.length:Int)∧(v.length:Int) < 10 ^ (cnt k).toNat)∧1≤v.length∧(v.length:Int)≤l:=by
 have:=hv.2
 unfold fln at this
 rcases hk with rfl | rfl | rfl | rfl | rfl | rfl | rfl
 ·exact absurd h0 (by decide)
 ·have h2:(10:Int) ^ (cnt 2).toNat=100:=by decide
  rw [if_neg (by decide)] at this
  rw [h2];exact ⟨by decide,by omega,by omega⟩
 ·exact absurd h0 (by decide)
 ·have h2:(10:Int) ^ (cnt 4).toNat=100:=by decide
  rw [if_neg (by decide)] at this
  rw [h2];exact ⟨by decide,by omega,by omega⟩
 ·have h2:(10:Int) ^ (cnt 5).toNat=1000:=by decide
  rw [if_neg (by decide)] at this
  rw [h2];exact ⟨by decide,by omega,by omega⟩
 ·exact absurd h0 (by decide)
 ·have h2:(10:Int) ^ (cnt 7).toNat=1000:=by decide
  rw [if_neg (by decide)] at this
  rw [h2];exact ⟨by decide,by omega,by omega⟩
theorem qFW {k:Int} (hk:kinds k):cnt k=0∨cnt k=2∨cnt k=3:=by
 unfold cnt;split
 ·simp
 ·split <;> simp
theorem qQm {k:Int} (hk:kinds k):(sel (beq k 1) (some (true,())) (some (beq k 2,())):Option (Bool×Unit))=some (decide (k≤2),()):=by
 rcases hk with rfl | rfl | rfl | rfl | rfl | rfl | rfl <;> rfl
theorem qt2 (no:Int) (v:BB) (hl:v.length≤1000000):qdR (no,v,())=some (wrD no v):=by
 unfold qdR wrD
 refine (qF (qhQ no)).trans ?_
 cases ho:zJ no with
 | none=>rfl
 | some p =>
  obtain ⟨k,l⟩:=p
  rw [qw1 rfl]
  obtain ⟨hk,h1,h400,h99⟩:=qbY ho
  refine (qB rfl).trans ?_
  refine (qF (qdS no v hl)).trans ?_
  have hfd:vL no v=decide (fv k l v):=by unfold vL;rw [ho]
  rw [hfd]
  by_cases hv:fv k l v
  rotate_left
  ·rw [decide_eq_false hv]
   refine (qC rfl).trans ?_
   simp only [if_neg hv];rfl
  rw [decide_eq_true hv]
  refine (qB rfl).trans ?_
  simp only [if_pos hv]
  refine (qF (qkN hk)).trans ?_
  have hb:=qQm hk
  have hfig:k≤2→qe4 (v,())=some (body k v,0,()):=fun h=>by
   rw [qkS v hl,if_pos (hv.1.1 h)];unfold body;rw [if_pos h]
  have hvl:=qn1 k v
  by_cases h0:0 < cnt k
  ·obtain ⟨c1,c2,c3⟩:=qNQ hk h99 h400 hv h0
   refine (qC (lt_t h0)).trans ?_
   have hd:y9 (len v,cnt k,())=some (ps 10 dch v.length (cnt k).toNat,0,()):=by
    rw [qdV _ _ (by simp only [len];omega),if_pos ⟨c1.1,c1.2,c2⟩];rfl
   refine (qF hd).trans ?_
   have hbc:qe4 (ps 10 dch v.length (cnt k).toNat,())=some (hdr k v.length,0,()):=by
    rw [qkS _ (by rw [zP];omega),if_pos qnX];unfold hdr;rw [if_pos h0]
   refine (qF hbc).trans ?_
   refine (qF hb).trans ?_
   have hhl:(hdr k v.length).length≤10:=by
    unfold hdr;rw [if_pos h0,z4,zP];omega
   by_cases h2:k≤2
   ·refine (qC (decide_eq_true h2)).trans ?_
    refine (qF (hfig h2)).trans ?_
    rw [if_pos h2] at hvl
    exact (qH (rm_t (by simp only [nadd,ln];omega))).trans rfl
   ·refine (qB (decide_eq_false h2)).trans ?_
    refine (qH (rm_t (by simp only [nadd,ln];omega))).trans ?_
    have:body k v=v:=by unfold body;rw [if_neg h2]
    simp only [wrF,this];rfl
  ·refine (qB (lt_f h0)).trans ?_
   refine (qF hb).trans ?_
   have hh:hdr k v.length=[]:=by unfold hdr;rw [if_neg h0]
   by_cases h2:k≤2
   ·refine (qC (decide_eq_true h2)).trans ?_
    refine (qF (hfig h2)).trans ?_
    rw [if_pos h2] at hvl
    refine (qH (rm_t (by simp only [ln];omega))).trans ?_
    simp only [wrF,hh,List.nil_append]
   ·refine (qB (decide_eq_false h2)).trans ?_
    refine (qH (rm_t (by simp only [ln];omega))).trans ?_
    have:body k v=v:=by unfold body;rw [if_neg h2]
    simp only [wrF,this,hh,List.nil_append]
theorem qtU (no:Int) (v:BB) (hl:v.length≤1000000):qdE (no,v,())=some (wrD no v):=by
 unfold qdE wrD
 refine (qF (qb5 no)).trans ?_
 cases ho:zJ no with
 | none=>rfl
 | some p =>
  obtain ⟨k,l⟩:=p
  rw [qw1 rfl]
  obtain ⟨hk,h1,h400,h99⟩:=qbY ho
  refine (qB rfl).trans ?_
  obtain ⟨b,hb,he⟩:=v6 k l v hl
  refine (qF hb).trans ?_
  rw [he (by unfold kinds at hk;omega)]
  by_cases hv:fv k l v
  rotate_left
  ·rw [decide_eq_false hv]
   refine (qC rfl).trans ?_
   simp only [if_neg hv];rfl
  rw [decide_eq_true hv]
  refine (qB rfl).trans ?_
  simp only [if_pos hv]
  refine (qF (yG hk)).trans ?_
  have hfig:k≤2→kW (v,())=some (body k v,0,()):=fun h=>by
   rw [qeU v hl,if_pos (hv.1.1 h)];unfold body;rw [if_pos h]
  have hvl:=qn1 k v
  by_cases h0:0 < cnt k
  ·obtain ⟨c1,c2,c3⟩:=qNQ hk h99 h400 hv h0
   refine (qC (lt_t h0)).trans ?_
   refine (qF (yG hk)).trans ?_
   have hd:x8 (len v,cnt k,())=some (ps 10 dch v.length (cnt k).toNat,0,()):=by
    rw [qaQ _ _ (by simp only [len];omega),if_pos ⟨c1.1,c1.2,c2⟩];rfl
   refine (qF hd).trans ?_
   have hbc:kW (ps 10 dch v.length (cnt k).toNat,())=some (hdr k v.length,0,()):=by
    rw [qeU _ (by rw [zP];omega),if_pos qnX];unfold hdr;rw [if_pos h0]
   refine (qF hbc).trans ?_
   have hhl:(hdr k v.length).length≤10:=by
    unfold hdr;rw [if_pos h0,z4,zP];omega
   by_cases h2:k≤2
   ·refine (qC (decide_eq_true h2)).trans ?_
    refine (qF (hfig h2)).trans ?_
    rw [if_pos h2] at hvl
    refine (qH (rm_t (by simp only [nadd,ln,none',List.length_nil];omega))).trans ?_
    exact (qH (rm_t (by simp only [nadd,ln,none',app,List.length_append,List.length_nil];omega))).trans rfl
   ·refine (qB (decide_eq_false h2)).trans ?_
    refine (qH (rm_t (by simp only [nadd,ln,none',List.length_nil];omega))).trans ?_
    refine (qH (rm_t (by simp only [nadd,ln,none',app,List.length_append,List.length_nil];omega))).trans ?_
    have:body k v=v:=by unfold body;rw [if_neg h2]
    simp only [wrF,this];rfl
  ·refine (qB (lt_f h0)).trans ?_
   have hh:hdr k v.length=[]:=by unfold hdr;rw [if_neg h0]
   by_cases h2:k≤2
   ·refine (qC (decide_eq_true h2)).trans ?_
    refine (qF (hfig h2)).trans ?_
    rw [if_pos h2] at hvl
    refine (qH rfl).trans ?_
    refine (qH (rm_t (by simp only [nadd,ln,none',app,List.length_append,List.length_nil];omega))).trans ?_
    simp only [wrF,hh,List.nil_append];rfl
   ·refine (qB (decide_eq_false h2)).trans ?_
    refine (qH rfl).trans ?_
    refine (qH (rm_t (by simp only [nadd,ln,none',app,List.length_append,List.length_nil];omega))).trans ?_
    have:body k v=v:=by unfold body;rw [if_neg h2]
    simp only [wrF,this,hh,List.nil_append];rfl
theorem qX (a b:BB):zL (a,b,())=some (seq a b,()):=rfl
end Yp
namespace Yp
open Go
theorem qOy {u:BB} {k N:Nat} (hl:u.length=2*k) (hN:(N+1) / 2=k) (h:N % 2=1→nth u 0 (u8 0)=48):pad (u.drop (N % 2))=u:=by
 by_cases ho:N % 2=1
 ·rw [ho]
  unfold pad
  rw [if_pos (by simp;omega)]
  cases u with
  | nil=>simp at hl;omega
  | cons x r=>have:=h ho;simp only [nth,List.getD_cons_zero] at this;rw [this];rfl
 ·have:N % 2=0:=by omega
  rw [this,List.drop_zero];exact qOx (by omega)
theorem qKr {s:BB} (h:figs s):figs (pad s):=by
 unfold pad
 split
 ·intro i hi
  cases i with
  | zero=>exact (by decide:yA 48)
  | succ i=>exact h i (by simpa using hi)
 ·exact h
theorem qB1 (s:BB):(pad s).drop (s.length % 2)=s:=by
 unfold pad
 by_cases h:s.length % 2=1
 ·rw [if_pos h,h];rfl
 ·have:s.length % 2=0:=by omega
  rw [if_neg h,this];rfl
theorem qmC {s:BB} (hf:figs s):jH (bcd (pad s))=pad s:=qNu (qKr hf) (by rw [qf4];omega)
theorem qLI {s t:BB} (hs:figs s) (ht:figs t) (hl:s.length=t.length) (h:bcd (pad s)=bcd (pad t)):s=t:=by
 have:=congrArg jH h
 rw [qmC hs,qmC ht] at this
 rw [← qB1 s,← qB1 t,this,hl]
theorem x9 {b:BB} {I N:Nat} (hI:I≤b.length) (hN:N≤999):(b.length < I+(N+1) / 2∧z5 b I N=([],0,3,())) ∨
  (I+(N+1) / 2≤b.length∧z5 b I N=([],0,2,())∧∀ s,s.length=N→figs s→tk b I ((N+1) / 2)=bcd (pad s)→False) ∨
  (∃ s,I+(N+1) / 2≤b.length∧z5 b I N=(s,((I+(N+1) / 2:Nat):Int),0,())∧figs s∧s.length=N∧tk b I ((N+1) / 2)=bcd (pad s)):=by
 unfold z5
 simp only [Int.toNat_natCast]
 rw [if_neg (by omega)]
 by_cases h1:(b.length:Int) - I < ((N:Int)+1) / 2
 ·rw [if_pos h1];exact .inl ⟨by omega,rfl⟩
 rw [if_neg h1]
 have hle:I+(N+1) / 2≤b.length:=by omega
 have hul:=vZ hle
 have hxl:(jH (tk b I ((N+1) / 2))).length=2*((N+1) / 2):=by rw [zY,hul]
 refine .inr ?_
 by_cases h2:(N:Int) % 2=1∧¬nth (jH (tk b I ((N+1) / 2))) 0 (u8 0)=48
 ·rw [if_pos h2]
  refine .inl ⟨hle,rfl,fun s hs hf h=>h2.2 ?_⟩
  rw [h,qmC hf];unfold pad;rw [if_pos (by omega)];rfl
 rw [if_neg h2]
 have hp:pad ((jH (tk b I ((N+1) / 2))).drop (N % 2))=jH (tk b I ((N+1) / 2)):=qOy hxl rfl fun ho=>Classical.byContradiction fun hc=>h2 ⟨by omega,hc⟩
 by_cases h3:figs ((jH (tk b I ((N+1) / 2))).drop (N % 2))
 ·rw [if_pos h3]
  refine .inr ⟨_,hle, ?_,h3,by rw [List.length_drop,hxl];omega, ?_⟩
  ·simp
  ·have hb:=qN2 (u:=tk b I ((N+1) / 2)) (by rw [← hp];exact qKr h3)
   rw [hp,hb]
 ·rw [if_neg h3]
  refine .inl ⟨hle,rfl,fun s hs hf h=>h3 ?_⟩
  rw [h,qmC hf,← hs,qB1];exact hf
theorem qz5 {b x q:BB} {I:Nat} (h:b.drop I=x++q):tk b I x.length=x:=by
 unfold tk;rw [h,List.take_left'];rfl
theorem qmF {b x:BB} {I n:Nat} (h:tk b I n=x):b.drop I=x++b.drop (I+n):=by
 rw [← h];unfold tk
 rw [← List.drop_drop,List.take_append_drop]
theorem qCm {b x:BB} {I:Nat} (hI:I≤b.length) (h:b.drop I=x):b.length=I+x.length:=by
 have:=congrArg List.length h
 rw [List.length_drop] at this;omega
theorem qnI {b s q:BB} {I:Nat} (hI:I≤b.length) (hN:s.length≤999) (hf:figs s) (h:b.drop I=bcd (pad s)++q):z5 b I s.length=(s,((I+(s.length+1) / 2:Nat):Int),0,()):=by
 have hl:=qCm hI h
 have ht:=qz5 h
 rw [List.length_append,z4] at hl
 rw [z4] at ht
 rcases x9 hI hN with ⟨h1,_⟩ | ⟨_,_,h2⟩ | ⟨t,_,h3,h4,h5,h6⟩
 ·omega
 ·exact (h2 s rfl hf ht).elim
 ·rw [h3,qLI h4 hf h5 (by rw [← h6,ht])]
def rdB (k l:Int) (b:BB) (a n:Int):BB×Int×Int×Unit :=
 if k≤2 then (if (z5 b a n).2.2.1=0 then ((z5 b a n).1,(z5 b a n).2.1,0,()) else ([],0,(z5 b a n).2.2.1,()))
 else if (b.length:Int) - a < n then ([],0,3,()) else if fv k l (tk b a.toNat n.toNat) then (tk b a.toNat n.toNat,a+n,0,()) else ([],0,2,())
def rdF (k l:Int) (b:BB) (a:Int):BB×Int×Int×Unit :=
 if a < 0∨(b.length:Int) < a then ([],0,1,()) else if 0 < cnt k then
  (if (z5 b a (cnt k)).2.2.1=0 then (if (val (z5 b a (cnt k)).1:Int) < 1∨l < val (z5 b a (cnt k)).1 then ([],0,2,()) else rdB k l b (z5 b a (cnt k)).2.1 (val (z5 b a (cnt k)).1))
  else ([],0,(z5 b a (cnt k)).2.2.1,()))
 else rdB k l b a l
def rdD (no:Int) (b:BB) (a:Int):BB×Int×Int×Unit:=match zJ no with | none=>([],0,12,()) | some (k,l)=>rdF k l b a
theorem qM0 {k l:Int} {s:BB} (h2:k≤2) (hf:figs s) (hn:fln k l s.length):fv k l s:=⟨⟨fun _=>hf,fun _=>qmE hf⟩,hn⟩
theorem qJO {no k l:Int} {b:BB} {A N:Nat} (ho:zJ no=some (k,l)) (hl:b.length≤1000000) (ha:A≤b.length) (hn:1≤N∧N≤400) (hfl:fln k l N) :
  (ob (sel (le k 2) (some (i64 (idiv (i64 (iadd (N:Int) 1)) 2),())) (some ((N:Int),()))) fun (a7:Int×Unit)=>sel (lt (i64 (isub (len b) (A:Int))) a7.1) (some (none' UInt8,0,3,()))
   (ck (inC (A:Int) (i64 (iadd (A:Int) a7.1)) (len b)) (ck (rm 1 (nadd (ln (none' UInt8)) (ln (sub b (A:Int) (i64 (iadd (A:Int) a7.1))))))
    (sel (le k 2) (ob (j0 (b,(A:Int),(N:Int),())) fun (t:BB×Int×Int×Unit)=>sel (bnot (beq t.2.2.1 0)) (some (none' UInt8,0,2,())) (ck (rm 1 (ln t.1)) (ob (xQ ((k,l,()),t.1,())) fun (a:Bool×Unit)=>sel (bnot a.1) (some (none' UInt8,0,2,())) (some (t.1,i64 (iadd (A:Int) a7.1),0,())))))
     (ob (xQ ((k,l,()),app (none' UInt8) (sub b (A:Int) (i64 (iadd (A:Int) a7.1))),())) fun (a:Bool×Unit)=>sel (bnot a.1) (some (none' UInt8,0,2,())) (some (app (none' UInt8) (sub b (A:Int) (i64 (iadd (A:Int) a7.1))),i64 (iadd (A:Int) a7.1),0,()))))))
   : Option (BB×Int×Int×Unit))=some (rdB k l b A N):=by
 obtain ⟨hk,h1,h400,h99⟩:=qbY ho
 have hk1:1≤k:=by unfold kinds at hk;omega
 unfold rdB
 have c0:i64 (isub (len b) (A:Int))=(b.length:Int) - A:=by
  simp only [isub,len];exact zX (by omega) (by omega)
 by_cases h2:k≤2
 ·have c1:i64 (idiv (i64 (iadd (N:Int) 1)) 2)=(((N+1) / 2:Nat):Int):=by
   rw [show i64 (iadd (N:Int) 1)=((N+1:Nat):Int) from zS (b:=1) (by omega)]
   exact qrG (b:=2) (by omega)
  refine (qF (qC (le_t h2))).trans ?_
  have c3:i64 (iadd (A:Int) (((N+1) / 2:Nat):Int))=((A+(N+1) / 2:Nat):Int):=zS (by omega)
  rw [if_pos h2]
  simp only [c0,c1,c3,qLY]
  rcases x9 ha (show N≤999 by omega) with ⟨h3,h⟩ | ⟨h3,h,_⟩ | ⟨s,h3,h,hf,hs,_⟩
  ·refine (qC (lt_t (by omega))).trans ?_
   rw [h];rfl
  ·refine (qB (lt_f (by omega))).trans ?_
   refine (qH (qzI (by omega) (by omega) (by simp only [len];omega))).trans ?_
   have htl:=vZ h3
   refine (qH (rm_t (by simp only [nadd,ln,none',List.length_nil];omega))).trans ?_
   refine (qC (le_t h2)).trans ?_
   refine (qF (jZ b A N hl)).trans ?_
   rw [h];rfl
  ·refine (qB (lt_f (by omega))).trans ?_
   refine (qH (qzI (by omega) (by omega) (by simp only [len];omega))).trans ?_
   have htl:=vZ h3
   refine (qH (rm_t (by simp only [nadd,ln,none',List.length_nil];omega))).trans ?_
   refine (qC (le_t h2)).trans ?_
   refine (qF (jZ b A N hl)).trans ?_
   rw [h]
   refine (qB rfl).trans ?_
   refine (qH (rm_t (by simp only [ln];omega))).trans ?_
   obtain ⟨t,ht,he⟩:=v6 k l s (by omega)
   refine (qF ht).trans ?_
   rw [he hk1,decide_eq_true (qM0 h2 hf (by rw [hs];exact hfl))]
   rfl
 ·refine (qF (qB (le_f h2))).trans ?_
  rw [if_neg h2]
  have c3:i64 (iadd (A:Int) (N:Int))=((A+N:Nat):Int):=zS (by omega)
  simp only [c0,c3,qLY,Int.toNat_natCast]
  by_cases h3:(b.length:Int) - A < N
  ·rw [if_pos h3];exact qC (lt_t h3)
  rw [if_neg h3]
  refine (qB (lt_f h3)).trans ?_
  have hle:A+N≤b.length:=by omega
  refine (qH (qzI (by omega) (by omega) (by simp only [len];omega))).trans ?_
  have htl:=vZ hle
  refine (qH (rm_t (by simp only [nadd,ln,none',List.length_nil];omega))).trans ?_
  refine (qB (le_f h2)).trans ?_
  have ha':app (none' UInt8) (tk b A N)=tk b A N:=rfl
  simp only [ha']
  obtain ⟨t,ht,he⟩:=v6 k l (tk b A N) (by omega)
  refine (qF ht).trans ?_
  rw [he hk1]
  by_cases hv:fv k l (tk b A N)
  ·rw [if_pos hv,decide_eq_true hv,← Int.natCast_add];exact qB rfl
  ·rw [if_neg hv,decide_eq_false hv];exact qC rfl
theorem qLP {s:BB} (hf:figs s) (h:s.length≤3):val s < 1000:=by
 have:=qKJ hf
 have h2:10 ^ s.length≤10 ^ 3:=Nat.pow_le_pow_right (by omega) h
 omega
theorem qNG {k l:Int} {n:Nat} (h0:0 < cnt k) (h1:1≤n) (h2:(n:Int)≤l):fln k l n:=by
 unfold fln
 rw [if_neg]
 ·exact ⟨h1,h2⟩
 ·rintro (rfl | rfl | rfl) <;> exact absurd h0 (by decide)
theorem qCh {k l:Int} {n:Nat} (hk:kinds k) (h0:¬ 0 < cnt k):fln k l n↔(n:Int)=l:=by
 unfold fln
 rcases hk with rfl | rfl | rfl | rfl | rfl | rfl | rfl <;> first | exact absurd (by decide) h0 | simp
theorem qv4 (no:Int) (b:BB) (a:Int) (hl:b.length≤1000000):ql1 (no,b,a,())=some (rdD no b a):=by
 unfold ql1 rdD
 refine (qF (qb5 no)).trans ?_
 cases ho:zJ no with
 | none=>rfl
 | some p =>
  obtain ⟨k,l⟩:=p
  rw [qw1 rfl]
  obtain ⟨hk,h1,h400,h99⟩:=qbY ho
  refine (qB rfl).trans ?_
  show _=some (rdF k l b a)
  unfold rdF
  by_cases h2:a < 0
  ·refine (qF (qC (lt_t h2))).trans ?_
   simp only [if_pos (Or.inl h2:a < 0∨(b.length:Int) < a)];rfl
  by_cases h3:(b.length:Int) < a
  ·refine (qF (a:=(true,())) ((qB (lt_f h2)).trans (yS (lt_t h3)))).trans ?_
   simp only [if_pos (Or.inr h3:a < 0∨(b.length:Int) < a)];rfl
  refine (qF (a:=(false,())) ((qB (lt_f h2)).trans (yS (lt_f h3)))).trans ?_
  refine (qB rfl).trans ?_
  rw [if_neg (by omega)]
  obtain ⟨A,rfl⟩:∃ n:Nat,a=n:=⟨a.toNat,by omega⟩
  refine (qF (yG hk)).trans ?_
  by_cases h0:0 < cnt k
  ·rw [if_pos h0]
   refine (qC (lt_t h0)).trans ?_
   refine (qF (yG hk)).trans ?_
   refine (qF (jZ b A (cnt k) hl)).trans ?_
   have hcr:=qFW hk
   obtain ⟨C,hC⟩:∃ n:Nat,cnt k=n:=⟨(cnt k).toNat,by omega⟩
   rw [hC]
   rcases x9 (b:=b) (I:=A) (N:=C) (by omega) (by omega) with ⟨_,h⟩ | ⟨_,h,_⟩ | ⟨s,h4,h,hf,hs,_⟩
   ·rw [h];rfl
   ·rw [h];rfl
   ·rw [h]
    refine (qB rfl).trans ?_
    rw [if_pos rfl]
    have hvs:=qLP hf (by omega)
    refine (qF (yH s (by omega))).trans ?_
    rw [if_pos ⟨by omega,by omega,hf⟩]
    by_cases hm1:(val s:Int) < 1
    ·refine (qF (qC (lt_t hm1))).trans ?_
     simp only [if_pos (Or.inl hm1:(val s:Int) < 1∨l < val s)];rfl
    by_cases hm2:l < (val s:Int)
    ·refine (qF (a:=(true,())) ((qB (lt_f hm1)).trans (yS (lt_t hm2)))).trans ?_
     simp only [if_pos (Or.inr hm2:(val s:Int) < 1∨l < val s)];rfl
    refine (qF (a:=(false,())) ((qB (lt_f hm1)).trans (yS (lt_f hm2)))).trans ?_
    refine (qB rfl).trans ?_
    rw [if_neg (show ¬((val s:Int) < 1∨l < val s) by omega)]
    exact qJO ho hl h4 ⟨by omega,by omega⟩ (qNG h0 (by omega) (by omega))
  ·rw [if_neg h0]
   refine (qB (lt_f h0)).trans ?_
   obtain ⟨L,rfl⟩:∃ n:Nat,l=n:=⟨l.toNat,by omega⟩
   exact qJO (b:=b) (A:=A) (N:=L) ho hl (by omega) ⟨by omega,by omega⟩ ((qCh hk h0).2 rfl)
end Yp
namespace Yp
open Go
noncomputable def D (p:Prop):Bool := @decide p (Classical.propDecidable p)
theorem qlA {p:Prop}:D p=true↔p:=by unfold D;exact @decide_eq_true_iff p (Classical.propDecidable p)
theorem D_t {p:Prop} (h:p):D p=true:=qlA.2 h
theorem D_f {p:Prop} (h:¬ p):D p=false:=by
 cases e:D p
 ·rfl
 ·exact absurd (qlA.1 e) h
theorem qlB {b:Bool} {p:Prop} (h:b=true↔p):b=D p:=Bool.eq_iff_iff.2 (h.trans qlA.symm)
@[congr] theorem zZ {α β:Type} {o o':Option α} {k:α→Option β} (h:o=o'):ob o k=ob o' k:=by rw [h]
@[congr] theorem qSZ {α:Type} {c c':Bool} {a b:α} (h:c=c'):sel c a b=sel c' a b:=by rw [h]
@[congr] theorem qS1 {α:Type} {c c':Bool} {a:Option α} (h:c=c'):ck c a=ck c' a:=by rw [h]
@[congr] theorem qS0 {σ ρ β:Type} {o o':Option (LS σ ρ)} {kn:σ→Option β} {ke:Nat→σ→Option β} {kr:ρ→Option β} (h:o=o'):lc o kn ke kr=lc o' kn ke kr:=by rw [h]
theorem g01 {α β:Type} {a:α} {k:α→Option β}:ob (some a) k=k a:=rfl
theorem g02 {α:Type} {p:Prop} {a b:α} (h:p):sel (D p) a b=a:=qC (D_t h)
theorem g03 {α:Type} {p:Prop} {a b:α} (h:¬ p):sel (D p) a b=b:=qB (D_f h)
theorem g04 {α:Type} {p:Prop} {a:Option α} (h:p):ck (D p) a=a:=qH (D_t h)
theorem g05 {α:Type} {a b:α}:sel true a b=a:=rfl
theorem g06 {α:Type} {a b:α}:sel false a b=b:=rfl
theorem g07 {α:Type} {a:Option α}:ck true a=a:=rfl
theorem g08 {a b:Int}:lt a b=D (a < b):=qlB decide_eq_true_iff
theorem g09 {a b:Int}:le a b=D (a≤b):=qlB decide_eq_true_iff
theorem g10 {a b:Int}:beq a b=D (a=b):=by unfold beq;exact qlB beq_iff_eq
theorem g11 {a b:BB}:seq a b=D (a=b):=by unfold seq;exact qlB beq_iff_eq
theorem g12 {p:Prop}:bnot (D p)=D (¬ p):=by
 by_cases h:p
 ·rw [D_t h,D_f (not_not_intro h)];rfl
 ·rw [D_f h,D_t h];rfl
theorem g13 {p q:Prop}:band (D p) (D q)=D (p∧q):=qlB (by simp [band,qlA])
theorem g14 {p q:Prop}:bor (D p) (D q)=D (p∨q):=qlB (by simp [bor,qlA])
theorem g15 {c q:Bool}:sel c (some (true,())) (some (q,()))=some (bor c q,()):=by cases c <;> rfl
theorem g16 {c q:Bool}:sel c (some (q,())) (some (false,()))=some (band c q,()):=by cases c <;> rfl
theorem g17 {c d:Bool} {x:Option (Bool×Unit)}:sel c (sel d x (some (false,()))) (some (false,()))=sel (band c d) x (some (false,())):=by cases c <;> rfl
theorem g18 {c d:Bool} {x:Option (Bool×Unit)}:sel c (some (true,())) (sel d (some (true,())) x)=sel (bor c d) (some (true,())) x:=by cases c <;> rfl
theorem g19 {a b c:Int}:inC a b c=D (0≤a∧a≤b∧b≤c):=qlB (by simp [inC,and_assoc])
theorem g20 {a b:Int}:inB a b=D (0≤a∧a < b):=qlB (by simp [inB])
theorem g21 {c n:Nat}:rm c n=D (n*c≤140737488355328):=qlB decide_eq_true_iff
theorem g22 {α:Type} {l:List α}:len l=(l.length:Int):=rfl
theorem g23 {α:Type} {l:List α}:ln l=l.length:=rfl
theorem g24 {a b:Nat}:nadd a b=a+b:=rfl
theorem g25 {α:Type} {a b:List α}:app a b=a++b:=rfl
theorem g26 {α:Type}:none' α=[]:=rfl
theorem g27 {n:Int} (h : -9223372036854775808≤n∧n≤9223372036854775807):i64 n=n:=zX h.1 h.2
theorem g28 {a b:Int}:iadd a b=a+b:=rfl
theorem g29 {a b:Int}:isub a b=a - b:=rfl
theorem g30 {a b:Int}:imul a b=a*b:=rfl
theorem g31 {a b:Int} (h:0≤a):idiv a b=a / b:=by simp only [idiv];exact Int.tdiv_eq_ediv_of_nonneg h
theorem g32 {a b:Int} (h:0≤a):imod a b=a % b:=by simp only [imod];exact Int.tmod_eq_emod_of_nonneg h
theorem g33 {a:Int}:nat a=a.toNat:=rfl
theorem g34 {a:Nat}:ofn a=(a:Int):=rfl
theorem g35 {a b:Nat}:nsub a b=a - b:=rfl
theorem g36 {c:Bool}:band true c=c:=rfl
theorem g37 {c:Bool}:band c true=c:=by cases c <;> rfl
theorem g38 {c:Bool}:bor false c=c:=rfl
theorem g39 {c:Bool}:bor c false=c:=by cases c <;> rfl
theorem g40 {c:Bool}:bnot (bnot c)=c:=by cases c <;> rfl
theorem g41:bnot true=false:=rfl
theorem g42:bnot false=true:=rfl
theorem g43 {a b:Bool}:beb a b=D (a=b):=qlB (by unfold beb;exact beq_iff_eq)
theorem g44 {c:Bool}:band false c=false:=rfl
theorem g45 {c:Bool}:band c false=false:=by cases c <;> rfl
theorem g46 {c:Bool}:bor true c=true:=rfl
theorem g47 {c:Bool}:bor c true=true:=by cases c <;> rfl
theorem g48 {α β:Type} {k:α→Option β}:ob none k=none:=rfl
theorem g49 {p q:Prop}:(D p=D q)=(p↔q):=by
 refine propext ⟨fun h=>qlA.symm.trans ((Bool.eq_iff_iff.1 h).trans qlA),fun h=>Bool.eq_iff_iff.2 (qlA.trans (h.trans qlA.symm))⟩
theorem g50 {α:Type} {c:Bool} {a:α}:sel c a a=a:=by cases c <;> rfl
theorem g51 {p:Prop} [Decidable p]:decide p=D p:=qlB decide_eq_true_iff
theorem g52:D True=true:=D_t trivial
theorem g53:D False=false:=D_f not_false
theorem g54 {p:Prop}:(D p=true)=p:=propext qlA
theorem g55 {p:Prop}:(D p=false)=¬ p:=by
 refine propext ⟨fun h hp => ?_,D_f⟩
 rw [D_t hp] at h;cases h
theorem g56 {p:Prop}:(true=D p)=p:=propext ⟨fun h=>qlA.1 h.symm,fun h=>(qlA.2 h).symm⟩
theorem g57 {a b:Int}:minI a b=min a b:=by unfold minI;split <;> omega
theorem g58 {a b:Int}:maxI a b=max a b:=by unfold maxI;split <;> omega
theorem g60 {a:UInt16}:n16 a=(a.toNat:Int):=rfl
theorem g61 {a:Int} (h:0≤a∧a < 256):n8 (u8 a)=a:=by
 obtain ⟨n,rfl⟩:∃ n:Nat,a=n:=⟨a.toNat,by omega⟩
 exact qSL (by omega)
theorem qSM {σ ρ β:Type} {y:σ} {kn:σ→Option β} {ke:Nat→σ→Option β} {kr:ρ→Option β}:lc (some (.nx y)) kn ke kr=kn y:=rfl
theorem qi0 {p:Prop} (h:p):some (D p,())=some (true,()):=by rw [D_t h]
theorem qiZ {p:Prop} (h:¬ p):some (D p,())=some (false,()):=by rw [D_f h]
theorem zW {p q:Prop} (h:p↔q):some (D p,())=some (D q,()):=by rw [show p=q from propext h]
theorem qSa {σ ρ β:Type} {r:ρ} {kn:σ→Option β} {ke:Nat→σ→Option β} {kr:ρ→Option β}:lc (some (.rt r)) kn ke kr=kr r:=rfl
theorem qKd {σ ρ β:Type} {y:σ} {k:Nat} {kn:σ→Option β} {ke:Nat→σ→Option β} {kr:ρ→Option β}:lc (some (.ex k y)) kn ke kr=ke k y:=rfl
theorem g62 {k:Nat}:neb k k=true:=by simp [neb]
theorem g63 {n:Nat}:nat (n:Int)=n:=qP
theorem g64:((1:Nat):Int)=1:=rfl
theorem g65:((0:Nat):Int)=0:=rfl
theorem g66 {p:Prop}:(false=D p)=¬ p:=propext ⟨fun h=>g55.mp h.symm,fun h=>(D_f h).symm⟩
def qbX {β σ ρ:Type} (mk:β→Nat→σ) (i:Nat):LS β ρ→LS σ ρ
 | .nx b => .nx (mk b (i+1)) | .ex k b => .ex k (mk b i) | .rt r => .rt r
def qbK {α β σ ρ:Type} (mk:β→Nat→σ) (e:Nat) (step:β→α→LS β ρ):β→Nat→List α→LS σ ρ
 | b,i,[] => .ex e (mk b i)
 | b,i,x :: r=>match step b x with
  | .nx b'=>qbK mk e step b' (i+1) r
  | .ex k b' => .ex k (mk b' i)
  | .rt q => .rt q
theorem vI {α β σ ρ:Type} {f:σ→Option (LS σ ρ)} (l:List α) (mk:β→Nat→σ) (e:Nat) (step:β→α→LS β ρ) (I:β→Nat→Prop)
  (hs:∀ b i (h:i < l.length),I b i→f (mk b i)=some (qbX mk i (step b l[i]))∧∀ b',step b l[i] = .nx b'→I b' (i+1))
  (he:∀ b,I b l.length→f (mk b l.length)=some (.ex e (mk b l.length))) (b0:β) (h0:I b0 0):loop f (mk b0 0)=some (qbK mk e step b0 0 l):=by
 have key:∀ (r:List α) (i:Nat) (b:β),l.drop i=r→i≤l.length→I b i→loop f (mk b i)=some (qbK mk e step b i r):=by
  intro r
  induction r with
  | nil =>
   intro i b hr hi hI
   have hl:=congrArg List.length hr
   rw [List.length_drop,List.length_nil] at hl
   have:i=l.length:=by omega
   subst this
   exact qV (he b hI)
  | cons x r ih =>
   intro i b hr hi hI
   have hl:=congrArg List.length hr
   rw [List.length_drop,List.length_cons] at hl
   have hlt:i < l.length:=by omega
   have hx:l[i]=x∧l.drop (i+1)=r:=by
    rw [List.drop_eq_getElem_cons hlt] at hr
    exact ⟨(List.cons.inj hr).1,(List.cons.inj hr).2⟩
   obtain ⟨h1,h2⟩:=hs b i hlt hI
   rw [hx.1] at h1 h2
   unfold qbK
   cases hst:step b x with
   | nx b'=>rw [hst] at h1;rw [vW h1];exact ih (i+1) b' hx.2 hlt (h2 b' hst)
   | ex k b'=>rw [hst] at h1;exact qV h1
   | rt q=>rw [hst] at h1;exact qeY h1
 exact key l 0 b0 rfl (Nat.zero_le _) h0
attribute [go_sem ↓] g02 g03 g04 g05 g06
attribute [go_sem] g01 g02 g03 g04 g05 g06 g07 g08 g09 g10 g11 g12 g13 g14 g15 g16 g17 g18 g19 g20 g21 g22 g23 g24 g25 g26 g27 g28 g29 g30 g31 g32 g34 g35 g36 g37 g38 g39 g40 g41 g42 g43 g44 g45 g46 g47 g48 g49 g50 g51 g52 g53 g54 g55 g56 g57 g58 g60 g61 not_true_eq_false not_false_eq_true List.nil_append List.append_nil List.length_nil and_true true_and or_true true_or or_false false_or and_false false_and if_true if_false qSa qKd qSM g62 g63 Int.toNat_natCast Int.natCast_add qL g33 g64 g65 Int.toNat_zero Bool.false_eq_true g66
end Yp
namespace Yp
open Go
theorem y8 {b x q:BB} {A:Nat} (hA:A≤b.length) (h:b.drop A=x++q):A+x.length≤b.length∧b.drop (A+x.length)=q:=by
 have:=qCm hA h
 rw [List.length_append] at this
 refine ⟨by omega, ?_⟩
 rw [← List.drop_drop,h,List.drop_left]
theorem qMy {k l:Int} {b v q:BB} {A:Nat} (hA:A≤b.length) (hv:fv k l v) (h400:v.length≤400) (h:b.drop A=body k v++q):rdB k l b A v.length=(v,((A+(body k v).length:Nat):Int),0,()):=by
 have hl:=(y8 hA h).1
 unfold rdB
 by_cases h2:k≤2
 ·have hb:body k v=bcd (pad v):=by unfold body;rw [if_pos h2]
  rw [hb] at h ⊢
  rw [if_pos h2,qnI hA (by omega) (hv.1.1 h2) h,z4]
  rfl
 ·have hb:body k v=v:=by unfold body;rw [if_neg h2]
  rw [hb] at h hl ⊢
  have ht:=qz5 h
  simp only [Int.toNat_natCast]
  rw [if_neg h2,if_neg (by omega),ht,if_pos hv];rfl
theorem qMx {k l:Int} {b v:BB} {A N:Nat} {I:Int} (hA:A≤b.length) (hN:N≤400) (h:rdB k l b A N=(v,I,0,())) :
  v.length=N∧(k≤2→figs v)∧(¬ k≤2→fv k l v)∧I=((A+(body k v).length:Nat):Int)∧A+(body k v).length≤b.length∧tk b A (body k v).length=body k v:=by
 unfold rdB at h
 by_cases h2:k≤2
 ·rw [if_pos h2] at h
  rcases x9 hA (show N≤999 by omega) with ⟨_,e⟩ | ⟨_,e,_⟩ | ⟨s,h3,e,hf,hs,ht⟩
  ·rw [e] at h;simp at h
  ·rw [e] at h;simp at h
  ·rw [e] at h
   simp only [if_pos,Prod.mk.injEq,and_true] at h
   obtain ⟨rfl,rfl⟩:=h
   have hb:body k s=bcd (pad s):=by unfold body;rw [if_pos h2]
   have hbl:(bcd (pad s)).length=(N+1) / 2:=by rw [z4,hs]
   rw [hb,hbl]
   exact ⟨hs,fun _=>hf,fun hc=>absurd h2 hc,rfl,h3,ht⟩
 ·rw [if_neg h2] at h
  by_cases h3:(b.length:Int) - A < N
  ·rw [if_pos h3] at h;simp at h
  rw [if_neg h3] at h
  simp only [Int.toNat_natCast] at h
  by_cases h4:fv k l (tk b A N)
  ·rw [if_pos h4] at h
   simp only [Prod.mk.injEq,and_true] at h
   obtain ⟨rfl,rfl⟩:=h
   have hl:=vZ (show A+N≤b.length by omega)
   have hb:body k (tk b A N)=tk b A N:=by unfold body;rw [if_neg h2]
   rw [hb,hl]
   exact ⟨rfl,fun hc=>absurd hc h2,fun _=>h4,by omega,by omega,rfl⟩
  ·rw [if_neg h4] at h;simp at h
theorem qPz {k:Int} {n:Nat} (h0:0 < cnt k):hdr k n=bcd (pad (ps 10 dch n (cnt k).toNat)):=by unfold hdr;rw [if_pos h0]
theorem qNw {k:Int} {n:Nat} (h0:¬ 0 < cnt k):hdr k n=[]:=by unfold hdr;rw [if_neg h0]
theorem qLh {k:Int} {n:Nat}:(hdr k n).length=if 0 < cnt k then ((cnt k).toNat+1) / 2 else 0:=by
 unfold hdr;split
 ·rw [z4,zP]
 ·rfl
theorem qqJ {k:Int} {v:BB} (hk:kinds k):(wrF k v).length=(if k=2∨k=4 then 1 else if k=5∨k=7 then 2 else 0)+(if k≤2 then (v.length+1) / 2 else v.length):=by
 unfold wrF
 rw [List.length_append,qn1,qLh]
 congr 1
 rcases hk with rfl | rfl | rfl | rfl | rfl | rfl | rfl <;> rfl
theorem qPB {no k l:Int} {v:BB} (ho:zJ no=some (k,l)) (hv:fv k l v):1≤v.length∧(v.length:Int)≤l∧v.length≤400:=by
 obtain ⟨hk,h1,h400,_⟩:=qbY ho
 have:=hv.2
 unfold fln at this
 split at this <;> omega
theorem qP8 {no k l:Int} {b v q:BB} {A:Nat} (ho:zJ no=some (k,l)) (hA:A≤b.length) (hv:fv k l v) (h:b.drop A=wrF k v++q):rdF k l b A=(v,((A+(wrF k v).length:Nat):Int),0,()):=by
 obtain ⟨hk,h1,h400,h99⟩:=qbY ho
 obtain ⟨hv1,hv2,hv3⟩:=qPB ho hv
 unfold rdF
 rw [if_neg (by omega)]
 unfold wrF at h ⊢
 by_cases h0:0 < cnt k
 ·rw [if_pos h0]
  obtain ⟨c1,c2,c3⟩:=qNQ hk h99 h400 hv h0
  rw [qPz h0] at h ⊢
  rw [List.append_assoc] at h
  have hp:=qnI (s:=ps 10 dch v.length (cnt k).toNat) hA (by rw [zP];omega) qnX h
  rw [zP,Int.toNat_of_nonneg (by omega)] at hp
  rw [hp]
  have hval:val (ps 10 dch v.length (cnt k).toNat)=v.length:=by
   rw [qLQ,Nat.mod_eq_of_lt]
   have:=c2.2
   have h10:((10:Int) ^ (cnt k).toNat)=((10 ^ (cnt k).toNat:Nat):Int):=qOu 10 _
   rw [h10] at this;omega
  simp only [if_pos]
  rw [hval,if_neg (by omega)]
  have hd:=y8 hA h
  rw [z4,zP] at hd
  rw [qMy hd.1 hv hv3 hd.2,List.length_append,z4,zP]
  simp only [Nat.add_assoc]
 ·rw [if_neg h0]
  have hl:=(qCh hk h0).1 hv.2
  rw [qNw h0,List.nil_append] at h ⊢
  have:=qMy hA hv hv3 h
  rw [hl] at this;exact this
theorem qP7 {no k l:Int} {b v:BB} {A:Nat} {I:Int} (ho:zJ no=some (k,l)) (hA:A≤b.length) (h:rdF k l b A=(v,I,0,())) :
  fv k l v∧I=((A+(wrF k v).length:Nat):Int)∧A+(wrF k v).length≤b.length∧b.drop A=wrF k v++b.drop (A+(wrF k v).length):=by
 obtain ⟨hk,h1,h400,h99⟩:=qbY ho
 unfold rdF at h
 rw [if_neg (by omega)] at h
 by_cases h0:0 < cnt k
 ·rw [if_pos h0] at h
  have hcr:=qFW hk
  obtain ⟨C,hC⟩:∃ n:Nat,cnt k=n:=⟨(cnt k).toNat,by omega⟩
  rw [hC] at h
  rcases x9 hA (show C≤999 by omega) with ⟨_,e⟩ | ⟨_,e,_⟩ | ⟨s,h3,e,hf,hs,ht⟩
  ·rw [e] at h;simp at h
  ·rw [e] at h;simp at h
  ·rw [e] at h
   simp only [if_pos] at h
   by_cases hm:(val s:Int) < 1∨l < val s
   ·rw [if_pos hm] at h;simp at h
   rw [if_neg hm] at h
   obtain ⟨e1,e2,e3,e4,e5,e6⟩:=qMx h3 (by omega) h
   have hfv:fv k l v:=by
    by_cases h2:k≤2
    ·exact qM0 h2 (e2 h2) (qNG h0 (by omega) (by omega))
    ·exact e3 h2
   have hh:hdr k v.length=bcd (pad s):=by
    rw [qPz h0,e1,hC,Int.toNat_natCast,← hs,qPp hf]
   have hhl:(hdr k v.length).length=(C+1) / 2:=by rw [hh,z4,hs]
   refine ⟨hfv, ?_, ?_, ?_⟩
   ·rw [e4];unfold wrF;rw [List.length_append,hhl];omega
   ·unfold wrF;rw [List.length_append,hhl];omega
   ·unfold wrF
    rw [List.length_append,hhl,← Nat.add_assoc,List.append_assoc,← qmF e6,hh]
    exact qmF ht
 ·rw [if_neg h0] at h
  obtain ⟨L,hL⟩:∃ n:Nat,l=n:=⟨l.toNat,by omega⟩
  rw [hL] at h
  obtain ⟨e1,e2,e3,e4,e5,e6⟩:=qMx hA (by omega) h
  rw [← hL] at e3
  have hfv:fv k l v:=by
   by_cases h2:k≤2
   ·exact qM0 h2 (e2 h2) ((qCh hk h0).2 (by omega))
   ·exact e3 h2
  refine ⟨hfv, ?_, ?_, ?_⟩ <;> unfold wrF <;> rw [qNw h0,List.nil_append]
  ·exact e4
  ·exact e5
  ·exact qmF e6
theorem qRo {k:Int} {v:BB} (hk:kinds k) (h:v.length≤400):(wrF k v).length≤402:=by
 rw [qqJ hk];repeat' split
 all_goals omega
theorem qPN {k:Int} {v:BB} (hk:kinds k) (h:1≤v.length):1≤(wrF k v).length:=by
 rw [qqJ hk];repeat' split
 all_goals omega
end Yp
namespace Yp
open Go
abbrev V:=Int×BB×Unit
abbrev M:=Int×List V×Unit
def xZ (m:Int):Prop:=100≤m∧m≤899∧m / 10 % 10≤4∧m % 10≤5
instance (m:Int):Decidable (xZ m):=inferInstanceAs (Decidable (_∧_))
theorem qdP (m:Int) (n:Nat) (hn:n≤3) (h0:0≤m) (h:m≤9223372036854775807):qcL (m,(n:Int),())=some (m / 10 ^ n % 10,()):=by
 unfold qcL
 generalize hf:(fun (x_1:Int×Int×Unit)=>_)=f
 have step:∀ (k:Int) (i:Nat),i < n→0≤k→k≤9223372036854775807→f (k,(i:Int),())=some (.nx (k / 10,((i+1:Nat):Int),())):=fun k i hi h0 h1=>by
  subst hf;simp (disch:=omega) only [go_sem,Int.reduceToNat]
 have last:∀ (k:Int),f (k,(n:Int),())=some (.ex 0 (k,(n:Int),())):=fun k=>by
  subst hf;simp (disch:=omega) only [go_sem,Int.reduceToNat]
 have hn:n=0∨n=1∨n=2∨n=3:=by omega
 have e:loop f (m,((0:Nat):Int),())=some (.ex 0 (m / 10 ^ n,(n:Int),())):=by
  rcases hn with rfl | rfl | rfl | rfl
  ·rw [qV (last m)];simp
  ·rw [vW (step m 0 (by omega) h0 h),qV (last _)];simp
  ·rw [vW (step m 0 (by omega) h0 h),vW (step _ 1 (by omega) (by omega) (by omega)),qV (last _)];simp;omega
  ·rw [vW (step m 0 (by omega) h0 h),vW (step _ 1 (by omega) (by omega) (by omega)),vW (step _ 2 (by omega) (by omega) (by omega)),qV (last _)];simp;omega
 refine (zC e).trans ?_
 have:0≤m / 10 ^ n:=by rcases hn with rfl | rfl | rfl | rfl <;> simp <;> omega
 simp (disch:=omega) only [go_sem,Int.reduceToNat]
theorem qCb (m:Int):quJ (m,())=some (D (xZ m),()):=by
 unfold quJ
 by_cases h:m < 0∨999 < m
 ·have hn:¬ xZ m:=by unfold xZ;omega
  simp (disch:=omega) only [go_sem,Int.reduceToNat,hn]
 ·have h0:=qdP m 0 (by omega) (by omega) (by omega)
  have h1:=qdP m 1 (by omega) (by omega) (by omega)
  have h2:=qdP m 2 (by omega) (by omega) (by omega)
  simp at h0 h1 h2
  simp (disch:=omega) only [go_sem,Int.reduceToNat,h0,h1,h2]
  exact zW (by unfold xZ;omega)
theorem qdC (m:Int):qfW (m,())=some (D (xZ m),()):=by
 unfold qfW
 by_cases h:100≤m∧m≤899
 ·simp (disch:=first | assumption | omega | (dsimp only;omega) | decide) only [go_sem,Int.reduceToNat]
  exact zW (by unfold xZ;omega)
 ·have hn:¬ xZ m:=by unfold xZ;omega
  simp (disch:=omega) only [go_sem,Int.reduceToNat,hn]
def kO:Int→List V→Bool
 | _,[]=>true
 | last,v :: r=>decide (last < v.1) && (vL v.1 v.2.1 && kO v.1 r)
def yW (m:M):Bool:=kO 0 m.2.1 && decide (xZ m.1)
def fewM (m:M):Prop:=m.2.1.length≤1000∧∀ v∈m.2.1,v.2.1.length≤1000000
theorem fewM.nth {m:M} (h:fewM m) {i:Nat} (hi:i < m.2.1.length):(m.2.1[i]).2.1.length≤1000000:=h.2 _ (List.getElem_mem hi)
def jX (last:Int) (v:V):LS Int (Bool×Unit):=if last < v.1∧vL v.1 v.2.1=true then .nx v.1 else .rt (false,())
theorem qnW {σ:Type} {mk:Int→Nat→σ} {e:Nat}:∀ (l:List V) (last:Int) (i:Nat),(kO last l=true∧∃ y,qbK mk e jX last i l = .ex e y)∨(kO last l=false∧qbK mk e jX last i l = .rt (false,()))
 | [],last,i => .inl ⟨rfl,_,rfl⟩
 | v :: r,last,i=>by
  by_cases h:last < v.1∧vL v.1 v.2.1=true
  ·have hs:jX last v = .nx v.1:=if_pos h
   have:=qnW (mk:=mk) (e:=e) r v.1 (i+1)
   simp only [qbK,hs,kO,h.1,h.2,decide_true,Bool.true_and];exact this
  ·have hs:jX last v = .rt (false,()):=if_neg h
   refine .inr ⟨?_,by simp only [qbK,hs]⟩
   simp only [kO,Bool.and_eq_false_iff,decide_eq_false_iff_not]
   by_cases h1:last < v.1
   ·right;left;exact (Bool.not_eq_true _).mp fun hc=>h ⟨h1,hc⟩
   ·exact .inl h1
theorem qzH (m:M) (hm:fewM m):qpG (m,())=some (yW m,()):=by
 unfold qpG
 generalize hf:(fun (x_1:Bool×Int×Int×Unit)=>_)=f
 have hl:=hm.1
 have key:=vI (f:=f) m.2.1 (fun last i=>(false,last,(i:Int),())) 0 jX (fun _ _=>True) (fun b i h _=>⟨?_,fun _ _=>trivial⟩) (fun b _ => ?_) 0 trivial
 ·refine (zC key).trans ?_
  unfold yW
  rcases qnW (mk:=fun last i=>((false,last,(i:Int),()):Bool×Int×Int×Unit)) (e:=0) m.2.1 0 0 with ⟨h1,y,h2⟩ | ⟨h1,h2⟩
  ·rw [h1,h2];simp (disch:=first | assumption | omega | (dsimp only;omega) | decide) only [go_sem,Int.reduceToNat,qCb,Bool.true_and]
  ·rw [h1,h2];simp (disch:=first | assumption | omega | (dsimp only;omega) | decide) only [go_sem,Int.reduceToNat,Bool.false_and]
 ·subst hf
  have:=hm.nth h
  have hfd:=qdS (m.2.1[i]).1 (m.2.1[i]).2.1 this
  by_cases h1:m.2.1[i].1≤b
  ·have hs:jX b m.2.1[i] = .rt (false,()):=if_neg fun hc=>by omega
   simp (disch:=omega) only [go_sem,Int.reduceToNat,hs,qbX]
  ·cases h2:vL (m.2.1[i]).1 (m.2.1[i]).2.1
   ·have hs:jX b m.2.1[i] = .rt (false,()):=if_neg fun hc=>by rw [h2] at hc;exact absurd hc.2 (by simp)
    simp (disch:=omega) only [go_sem,Int.reduceToNat,hfd,h2,hs,qbX]
   ·have hs:jX b m.2.1[i] = .nx m.2.1[i].1:=if_pos ⟨by omega,h2⟩
    simp (disch:=omega) only [go_sem,Int.reduceToNat,hfd,h2,hs,qbX]
 ·subst hf;simp (disch:=omega) only [go_sem,Int.reduceToNat]
theorem qLk {no:Int} (h:no≤0):zJ no=none:=by
 unfold zJ
 rw [Option.map_eq_none_iff,List.find?_eq_none]
 have:∀ r∈frows,∀ c∈r.drop 2,1≤c:=by decide +kernel
 intro r hr hc
 rw [List.contains_eq_mem,decide_eq_true_eq] at hc
 have:=this r hr no hc
 omega
theorem qNH {no:Int} {v:BB} (h:vL no v=true):1≤no:=by
 refine Classical.byContradiction fun hc => ?_
 unfold vL at h
 rw [qLk (by omega)] at h
 exact absurd h (by simp)
theorem qtS (m:M) (hm:fewM m):qg5 (m,())=some (yW m,()):=by
 unfold qg5
 generalize hf:(fun (x_1:Bool×Int×Unit)=>_)=f
 have hl:=hm.1
 have key:=vI (f:=f) m.2.1 (fun (last:Int) i=>(false,(i:Int),())) 0 jX (fun b i=>(i=0∧b=0)∨∃ h:i - 1 < m.2.1.length,0 < i∧m.2.1[i - 1].1=b) (fun b i h hI=>⟨?_,fun b' hb => ?_⟩) (fun b _ => ?_) 0 (.inl ⟨rfl,rfl⟩)
 ·refine (zC key).trans ?_
  unfold yW
  rcases qnW (mk:=fun (last:Int) i=>((false,(i:Int),()):Bool×Int×Unit)) (e:=0) m.2.1 0 0 with ⟨h1,y,h2⟩ | ⟨h1,h2⟩
  ·rw [h1,h2];simp (disch:=first | assumption | omega | (dsimp only;omega) | decide) only [go_sem,Int.reduceToNat,qdC,Bool.true_and]
  ·rw [h1,h2];simp (disch:=first | assumption | omega | (dsimp only;omega) | decide) only [go_sem,Int.reduceToNat,Bool.false_and]
 ·subst hf
  have:=hm.nth h
  have hfd:=qv5 (m.2.1[i]).1 (m.2.1[i]).2.1 this
  cases h2:vL (m.2.1[i]).1 (m.2.1[i]).2.1
  ·have hs:jX b m.2.1[i] = .rt (false,()):=if_neg fun hc=>by rw [h2] at hc;exact absurd hc.2 (by simp)
   simp (disch:=omega) only [go_sem,Int.reduceToNat,hfd,h2,hs,qbX]
  ·have hp:=qNH h2
   rcases hI with ⟨rfl,rfl⟩ | ⟨h',h0,rfl⟩
   ·have hs:jX 0 m.2.1[0] = .nx m.2.1[0].1:=if_pos ⟨by omega,h2⟩
    simp (disch:=omega) only [go_sem,Int.reduceToNat,hfd,h2,hs,qbX]
   ·have hq:((i:Int) - 1).toNat=i - 1:=by omega
    by_cases h1:m.2.1[i].1≤m.2.1[i - 1].1
    ·have hs:jX m.2.1[i - 1].1 m.2.1[i] = .rt (false,()):=if_neg fun hc=>by omega
     simp (disch:=omega) only [go_sem,Int.reduceToNat,hfd,h2,hs,qbX,hq]
    ·have hs:jX m.2.1[i - 1].1 m.2.1[i] = .nx m.2.1[i].1:=if_pos ⟨by omega,h2⟩
     simp (disch:=omega) only [go_sem,Int.reduceToNat,hfd,h2,hs,qbX,hq]
 ·right
  refine ⟨by simpa using h,by omega, ?_⟩
  simp only [Nat.add_sub_cancel]
  unfold jX at hb
  split at hb
  ·cases hb;rfl
  ·cases hb
 ·subst hf;simp (disch:=omega) only [go_sem,Int.reduceToNat]
theorem qiP (a b:BB):qa2 (a,b,())=some (D (a=b),()):=by unfold qa2;simp only [go_sem,Int.reduceToNat]
end Yp
namespace Yp
open Go
set_option linter.unusedVariables false
set_option linter.unusedSimpArgs false
abbrev N:=Bool×Int×Int×Int×Int×BB×BB×Int×Unit
def y5 (c:Int):Prop:=c=1∨c=2∨c=101∨c=201∨c=301
instance (c:Int):Decidable (y5 c):=by unfold y5;infer_instance
def qwS (n:N):Prop :=
 if n.1=true∧n.2.1=101 then 1≤n.2.2.2.2.1∧n.2.2.2.2.1≤2147483647∧n.2.2.2.2.2.1.length=8∧n.2.2.2.2.2.2.1.length=3∧n.2.2.2.2.2.2.2.1=0
 else n.2.2.2.2.1=0∧n.2.2.2.2.2.1=[]∧n.2.2.2.2.2.2.1=[]∧(if n.1=true∧n.2.1=201 then 0≤n.2.2.2.2.2.2.2.1∧n.2.2.2.2.2.2.2.1≤999999 else n.2.2.2.2.2.2.2.1=0)
instance (n:N):Decidable (qwS n):=by unfold qwS;infer_instance
def jE (n:N):Prop:=y5 n.2.1∧1≤n.2.2.1∧n.2.2.1≤999999∧0≤n.2.2.2.1∧n.2.2.2.1≤99∧(n.1=true→n.2.2.2.1=0)∧qwS n
instance (n:N):Decidable (jE n):=by unfold jE;infer_instance
theorem qiG (c:Int):qc4 (c,())=some (D (y5 c),()):=by
 unfold qc4 y5
 by_cases h1:c=1 <;> by_cases h2:c=2 <;> by_cases h3:c=101 <;> by_cases h4:c=201 <;> by_cases h5:c=301 <;> simp only [go_sem,Int.reduceToNat,h1,h2,h3,h4,h5]
theorem qbD {p q:Prop} (h:p↔q):(some (D p,()):Option (Bool×Unit))=some (D q,()):=by rw [show p=q from propext h]
theorem qAc {q:Prop} (h:¬ q):(some (false,()):Option (Bool×Unit))=some (D q,()):=by rw [D_f h]
theorem len0 {α:Type} {l:List α}:((l.length:Int)=0)↔l=[]:=by rw [← List.length_eq_zero_iff];omega
theorem jM {rq:Bool} {c st rs g:Int} {no k:BB} {d:Int}:jE (rq,c,st,rs,g,no,k,d,())↔(y5 c∧1≤st∧st≤999999∧0≤rs∧rs≤99∧(rq=true→rs=0) ∧
  (if rq=true∧c=101 then 1≤g∧g≤2147483647∧no.length=8∧k.length=3∧d=0 else g=0∧(no.length:Int)=0∧(k.length:Int)=0∧(if rq=true∧c=201 then 0≤d∧d≤999999 else d=0))):=by
 unfold jE qwS
 simp only [len0]
theorem qHb {α:Type} {p:Prop} {x y z:α} (h1:p→x=z) (h2:¬ p→y=z):sel (D p) x y=z:=by
 by_cases h:p
 ·rw [D_t h];exact h1 h
 ·rw [D_f h];exact h2 h
theorem qbQ (n:N):qc3 (n,())=some (D (jE n),()):=by
 obtain ⟨rq,c,st,rs,g,no,k,d,⟨⟩⟩:=n
 unfold qc3
 simp only [go_sem,Int.reduceToNat,qiG]
 show _=some (D (jE (rq,c,st,rs,g,no,k,d,())),())
 cases rq
 ·simp only [band,bor,Bool.false_and,Bool.or_false,sel,cond_false]
  refine qHb (fun h=>qAc fun hr => ?_) fun h=>qHb (fun h2=>qAc fun hr => ?_) fun h2=>qbD ?_
  all_goals simp only [jM] at *
  all_goals grind
 ·simp only [band,bor,Bool.true_and,sel]
  rw [show (D ((((¬y5 c∨st < 1)∨999999 < st)∨rs < 0)∨99 < rs) || D (¬rs=0))=D (((((¬y5 c∨st < 1)∨999999 < st)∨rs < 0)∨99 < rs)∨¬rs=0) from qlB (by rw [Bool.or_eq_true,qlA,qlA])]
  refine qHb (fun h=>qAc fun hr => ?_) fun h=>qHb (fun h2=>qbD ?_) fun h2=>qHb (fun h3=>qAc fun hr => ?_) fun h3=>qHb (fun h4=>qbD ?_) fun h4=>qbD ?_
  all_goals simp only [jM] at *
  all_goals grind
theorem qj6 (n:N):ql9 (n,())=some (D (jE n),()):=by
 obtain ⟨rq,c,st,rs,g,no,k,d,⟨⟩⟩:=n
 unfold ql9 qwO qdK qdL qa8 qnR
 simp only [go_sem,Int.reduceToNat]
 show _=some (D (jE (rq,c,st,rs,g,no,k,d,())),())
 rw [show bor (D (((st < 1∨999999 < st)∨rs < 0)∨99 < rs)) (band rq (D (0 < rs)))=D ((((st < 1∨999999 < st)∨rs < 0)∨99 < rs)∨(rq=true∧0 < rs)) from qlB (by simp [bor,band,qlA])]
 refine qHb (fun h=>qAc fun hr => ?_) fun h => ?_
 ·simp only [jM] at hr;grind
 rw [show band (D (c=101)) rq=D (c=101∧rq=true) from qlB (by simp [band,qlA]),show band (D (c=201)) rq=D (c=201∧rq=true) from qlB (by simp [band,qlA])]
 by_cases h1:c=101∧rq=true
 ·simp only [go_sem,Int.reduceToNat,h1,D_t h1]
  refine qbD ?_
  simp only [jM,y5];grind
 ·by_cases h2:c=201∧rq=true
  ·simp only [go_sem,Int.reduceToNat,D_f h1,D_t h2]
   refine qbD ?_
   simp only [jM,y5];grind
  ·by_cases h3:(((c=1∨c=2)∨c=101)∨c=201)∨c=301
   ·simp only [go_sem,Int.reduceToNat,D_f h1,D_f h2,D_t h3]
    refine qbD ?_
    simp only [jM,y5];grind
   ·simp only [go_sem,Int.reduceToNat,D_f h1,D_f h2,D_f h3]
    refine qAc fun hr => ?_
    simp only [jM,y5] at hr;grind
end Yp
namespace Yp
open Go
def mkb (g:Nat→Bool):UInt8:=UInt8.ofNat ((g 0).toNat*128+(g 1).toNat*64+(g 2).toNat*32+(g 3).toNat*16+(g 4).toNat*8+(g 5).toNat*4+(g 6).toNat*2+(g 7).toNat)
theorem qSw:∀ b0 b1 b2 b3 b4 b5 b6 b7:Bool,bt (UInt8.ofNat (b0.toNat*128+b1.toNat*64+b2.toNat*32+b3.toNat*16+b4.toNat*8+b5.toNat*4+b6.toNat*2+b7.toNat)) 0=b0 ∧
  bt (UInt8.ofNat (b0.toNat*128+b1.toNat*64+b2.toNat*32+b3.toNat*16+b4.toNat*8+b5.toNat*4+b6.toNat*2+b7.toNat)) 1=b1∧bt (UInt8.ofNat (b0.toNat*128+b1.toNat*64+b2.toNat*32+b3.toNat*16+b4.toNat*8+b5.toNat*4+b6.toNat*2+b7.toNat)) 2=b2 ∧
  bt (UInt8.ofNat (b0.toNat*128+b1.toNat*64+b2.toNat*32+b3.toNat*16+b4.toNat*8+b5.toNat*4+b6.toNat*2+b7.toNat)) 3=b3∧bt (UInt8.ofNat (b0.toNat*128+b1.toNat*64+b2.toNat*32+b3.toNat*16+b4.toNat*8+b5.toNat*4+b6.toNat*2+b7.toNat)) 4=b4 ∧
  bt (UInt8.ofNat (b0.toNat*128+b1.toNat*64+b2.toNat*32+b3.toNat*16+b4.toNat*8+b5.toNat*4+b6.toNat*2+b7.toNat)) 5=b5∧bt (UInt8.ofNat (b0.toNat*128+b1.toNat*64+b2.toNat*32+b3.toNat*16+b4.toNat*8+b5.toNat*4+b6.toNat*2+b7.toNat)) 6=b6 ∧
  bt (UInt8.ofNat (b0.toNat*128+b1.toNat*64+b2.toNat*32+b3.toNat*16+b4.toNat*8+b5.toNat*4+b6.toNat*2+b7.toNat)) 7=b7:=by decide +kernel
theorem qKB {g:Nat→Bool} {t:Nat} (ht:t < 8):bt (mkb g) t=g t:=by
 obtain ⟨h0,h1,h2,h3,h4,h5,h6,h7⟩:=qSw (g 0) (g 1) (g 2) (g 3) (g 4) (g 5) (g 6) (g 7)
 have:t=0∨t=1∨t=2∨t=3∨t=4∨t=5∨t=6∨t=7:=by omega
 rcases this with rfl | rfl | rfl | rfl | rfl | rfl | rfl | rfl <;> assumption
theorem qPw:∀ c:UInt8,mkb (bt c)=c:=all8 (by decide +kernel)
theorem qKA {c d:UInt8} (h:∀ t,t < 8→bt c t=bt d t):c=d:=by
 rw [← qPw c,← qPw d]
 unfold mkb
 rw [h 0 (by omega),h 1 (by omega),h 2 (by omega),h 3 (by omega),h 4 (by omega),h 5 (by omega),h 6 (by omega),h 7 (by omega)]
theorem qM6 {g h:Nat→Bool} (e:∀ t,t < 8→g t=h t):mkb g=mkb h:=qKA fun t ht=>by rw [qKB ht,qKB ht,e t ht]
def bitB (t:Nat):UInt8:=UInt8.ofNat (2 ^ (7 - t))
theorem qQ8:∀ t:Nat,t < 8→u8 (shrI .u8 128 (t:Int))=bitB t:=by decide +kernel
theorem qRU:∀ c:UInt8,∀ t:Nat,t < 8→u8 (orI .u8 (n8 c) (n8 (bitB t)))=mkb fun s=>bt c s || Nat.beq s t:=all8 (by decide +kernel)
theorem qRg:∀ c:UInt8,∀ t:Nat,t < 8→bt c t=false→u8 (iadd (n8 c) (n8 (bitB t)))=mkb fun s=>bt c s || Nat.beq s t:=all8 (by decide +kernel)
theorem qRf:∀ c:UInt8,∀ t:Nat,t < 8→(bnot (beq (n8 (u8 (andI .u8 (n8 c) (n8 (bitB t))))) (n8 (u8 0))))=bt c t:=all8 (by decide +kernel)
theorem qrW {n:Nat} (h1:1≤n) (h2:n≤128):qbO ((n:Int),())=some ((((n - 1) / 8:Nat):Int),bitB ((n - 1) % 8),()):=by
 unfold qbO
 simp (disch:=omega) only [go_sem,Int.reduceToNat]
 have e1:((n:Int) - 1) / 8=(((n - 1) / 8:Nat):Int):=by omega
 have e2:((n:Int) - 1) % 8=(((n - 1) % 8:Nat):Int):=by omega
 rw [e1,e2,← qQ8 _ (by omega)]
theorem qiK {n:Nat} (h1:1≤n) (h2:n≤128):yO ((n:Int),())=some ((((n - 1) / 8:Nat):Int),bitB ((n - 1) % 8),()):=by
 unfold yO
 generalize hf:(fun (x_1:Int×Int×Unit)=>_)=f
 have step:∀ i:Nat,i < (n - 1) % 8→f (((2 ^ (7 - i):Nat):Int),(i:Int),())=some (.nx (((2 ^ (7 - (i+1)):Nat):Int),((i+1:Nat):Int),())):=fun i hi=>by
  subst hf
  have hp:i=0∨i=1∨i=2∨i=3∨i=4∨i=5∨i=6:=by omega
  rcases hp with rfl | rfl | rfl | rfl | rfl | rfl | rfl <;> (simp (disch:=first | assumption | omega | (dsimp only;omega) | decide) only [go_sem,Int.reduceToNat];rfl)
 have last:f (((2 ^ (7 - (n - 1) % 8):Nat):Int),(((n - 1) % 8:Nat):Int),())=some (.ex 0 (((2 ^ (7 - (n - 1) % 8):Nat):Int),(((n - 1) % 8:Nat):Int),())):=by
  subst hf;simp (disch:=omega) only [go_sem,Int.reduceToNat]
 have e:=qN (f:=f) (fun i=>(((2 ^ (7 - i):Nat):Int),(i:Int),())) ((n - 1) % 8) step 0 (by omega)
 have e:loop f (128,0,())=_:=e.trans (qV last)
 simp (disch:=omega) only [go_sem,Int.reduceToNat,e]
 have e1:((n:Int) - 1) / 8=(((n - 1) / 8:Nat):Int):=by omega
 rw [e1];unfold bitB;rw [quW]
def jD:Int→List Int→Bool
 | _,[]=>true
 | last,n :: r=>decide (last < n∧n≤128∧n≠65) && jD n r
def qfM (last n:Int):LS Int (Bool×Unit):=if last < n∧n≤128∧n≠65 then .nx n else .rt (false,())
theorem qCg {σ:Type} {mk:Int→Nat→σ} {e:Nat}:∀ (l:List Int) (last:Int) (i:Nat),(jD last l=true∧∃ y,qbK mk e qfM last i l = .ex e y)∨(jD last l=false∧qbK mk e qfM last i l = .rt (false,()))
 | [],last,i => .inl ⟨rfl,_,rfl⟩
 | n :: r,last,i=>by
  by_cases h:last < n∧n≤128∧n≠65
  ·have hs:qfM last n = .nx n:=if_pos h
   have:=qCg (mk:=mk) (e:=e) r n (i+1)
   simp only [qbK,hs,jD,decide_eq_true h,Bool.true_and];exact this
  ·have hs:qfM last n = .rt (false,()):=if_neg h
   refine .inr ⟨?_,by simp only [qbK,hs]⟩
   simp only [jD,decide_eq_false h,Bool.false_and]
theorem qa3 (l:List Int) (hl:l.length≤1000000):qeJ (l,())=some (jD 1 l,()):=by
 unfold qeJ
 generalize hf:(fun (x_1:Bool×Int×Int×Unit)=>_)=f
 have key:=vI (f:=f) l (fun last i=>(false,last,(i:Int),())) 0 qfM (fun _ _=>True) (fun b i h _=>⟨?_,fun _ _=>trivial⟩) (fun b _ => ?_) 1 trivial
 ·refine (zC key).trans ?_
  rcases qCg (mk:=fun last i=>((false,last,(i:Int),()):Bool×Int×Int×Unit)) (e:=0) l 1 0 with ⟨h1,y,h2⟩ | ⟨h1,h2⟩
  ·rw [h1,h2];simp (disch:=first | assumption | omega | (dsimp only;omega) | decide) only [go_sem,Int.reduceToNat]
  ·rw [h1,h2];simp (disch:=first | assumption | omega | (dsimp only;omega) | decide) only [go_sem,Int.reduceToNat]
 ·subst hf
  by_cases h1:b < l[i]∧l[i]≤128∧l[i]≠65
  ·have hs:qfM b l[i] = .nx l[i]:=if_pos h1
   simp (disch:=omega) only [go_sem,Int.reduceToNat,hs,qbX]
  ·have hs:qfM b l[i] = .rt (false,()):=if_neg h1
   simp (disch:=omega) only [go_sem,Int.reduceToNat,hs,qbX]
 ·subst hf;simp (disch:=omega) only [go_sem,Int.reduceToNat]
theorem qbT (l:List Int) (hl:l.length≤1000000):qg7 (l,())=some (jD 1 l,()):=by
 unfold qg7
 generalize hf:(fun (x_1:Bool×Int×Unit)=>_)=f
 have key:=vI (f:=f) l (fun (last:Int) i=>(false,(i:Int),())) 0 qfM (fun b i=>(i=0∧b=1)∨∃ h:i - 1 < l.length,0 < i∧l[i - 1]=b∧2≤b) (fun b i h hI=>⟨?_,fun b' hb => ?_⟩) (fun b _ => ?_) 1 (.inl ⟨rfl,rfl⟩)
 ·refine (zC key).trans ?_
  rcases qCg (mk:=fun (last:Int) i=>((false,(i:Int),()):Bool×Int×Unit)) (e:=0) l 1 0 with ⟨h1,y,h2⟩ | ⟨h1,h2⟩
  ·rw [h1,h2];simp (disch:=first | assumption | omega | (dsimp only;omega) | decide) only [go_sem,Int.reduceToNat]
  ·rw [h1,h2];simp (disch:=first | assumption | omega | (dsimp only;omega) | decide) only [go_sem,Int.reduceToNat]
 ·subst hf
  rcases hI with ⟨rfl,rfl⟩ | ⟨h',h0,hb,h2⟩
  ·by_cases h1:1 < l[0]∧l[0]≤128∧l[0]≠65
   ·have hs:qfM 1 l[0] = .nx l[0]:=if_pos h1
    simp (disch:=omega) only [go_sem,Int.reduceToNat,hs,qbX]
   ·have hs:qfM 1 l[0] = .rt (false,()):=if_neg h1
    simp (disch:=omega) only [go_sem,Int.reduceToNat,hs,qbX]
  ·have hq:((i:Int) - 1).toNat=i - 1:=by omega
   by_cases h1:b < l[i]∧l[i]≤128∧l[i]≠65
   ·have hs:qfM b l[i] = .nx l[i]:=if_pos h1
    simp (disch:=omega) only [go_sem,Int.reduceToNat,hs,qbX,hq]
   ·have hs:qfM b l[i] = .rt (false,()):=if_neg h1
    simp (disch:=omega) only [go_sem,Int.reduceToNat,hs,qbX,hq]
 ·right
  have hb1:b'=l[i]∧b < l[i]:=by
   unfold qfM at hb
   split at hb
   ·rename_i hc;cases hb;exact ⟨rfl,hc.1⟩
   ·cases hb
  refine ⟨by simpa using h,by omega, ?_, ?_⟩
  ·simp only [Nat.add_sub_cancel];exact hb1.1.symm
  ·rcases hI with ⟨_,rfl⟩ | ⟨_,_,_,h2⟩ <;> omega
 ·subst hf;simp (disch:=omega) only [go_sem,Int.reduceToNat]
def xY (size:Nat) (S:Nat→Bool):BB:=(List.range size).map fun j=>mkb fun t=>S (8*j+t+1)
theorem v3 {size:Nat} {S:Nat→Bool}:(xY size S).length=size:=by simp [xY]
theorem qJL {size:Nat} {S:Nat→Bool} {j:Nat} (h:j < size):nth (xY size S) j (u8 0)=mkb fun t=>S (8*j+t+1):=by
 rw [qL (by rw [v3];exact h)];simp [xY]
theorem qkJ {size:Nat} {S:Nat→Bool} {n:Nat} (h1:1≤n) (h2:n≤8*size):hasB (xY size S) n=S n:=by
 unfold hasB
 rw [qJL (by omega),qKB (by omega)]
 congr 1;omega
theorem qMj {a b:BB} (hl:a.length=b.length) (h:∀ n,1≤n→n≤8*a.length→hasB a n=hasB b n):a=b:=by
 refine List.ext_getElem hl fun j h1 h2=>qKA fun t ht => ?_
 have:=h (8*j+t+1) (by omega) (by omega)
 unfold hasB at this
 rw [show (8*j+t+1 - 1) / 8=j by omega,show (8*j+t+1 - 1) % 8=t by omega,qL h1,qL h2] at this
 exact this
theorem qBP {size:Nat} {S S':Nat→Bool} (h:∀ n,1≤n→n≤8*size→S n=S' n):xY size S=xY size S':=qMj (by rw [v3,v3]) fun n h1 h2=>by
 rw [v3] at h2;rw [qkJ h1 h2,qkJ h1 h2,h n h1 h2]
theorem qMu (size:Nat):rep size (u8 0)=xY size fun _=>false:=by
 refine List.ext_getElem (by simp [rep,xY]) fun j h1 h2 => ?_
 simp only [rep,List.getElem_replicate,xY,List.getElem_map]
 decide
def setS (S:Nat→Bool) (n:Nat):Nat→Bool:=fun m=>S m || Nat.beq m n
theorem qL4 {size:Nat} {S:Nat→Bool} {n:Nat} (h1:1≤n) (h2:n≤8*size) {c:UInt8} (hc:c=mkb fun s=>bt (nth (xY size S) ((n - 1) / 8) (u8 0)) s || Nat.beq s ((n - 1) % 8)):upd (xY size S) ((n - 1) / 8) c=xY size (setS S n):=by
 refine List.ext_getElem (by simp [upd,xY]) fun j h3 h4 => ?_
 rw [v3] at h4
 have hg:=qJL (S:=S) (show (n - 1) / 8 < size by omega)
 simp only [upd,List.getElem_set]
 split
 ·rename_i hj
  subst hj
  rw [hc,hg]
  simp only [xY,List.getElem_map,List.getElem_range]
  refine qM6 fun t ht => ?_
  rw [qKB ht];unfold setS
  congr 1
  refine Bool.eq_iff_iff.2 ?_
  simp only [Nat.beq_eq]
  omega
 ·rename_i hj
  simp only [xY,List.getElem_map,List.getElem_range]
  refine qM6 fun t ht => ?_
  unfold setS
  have:Nat.beq (8*j+t+1) n=false:=by
   refine (Bool.not_eq_true _).mp fun hb=>hj ?_
   have:=Nat.eq_of_beq_eq_true hb
   omega
  rw [this,Bool.or_false]
def qeK (l:List Int):Bool:=decide (0 < l.length) && decide (64 < nth l (l.length - 1) 0)
def memI (l:List Int) (n:Nat):Bool:=decide ((n:Int)∈l)
def bmW (l:List Int):BB:=if qeK l=true then xY 16 (memI (1 :: l)) else xY 8 (memI l)
theorem vT {l:List Int}:∀ {last:Int},jD last l=true→∀ n∈l,last < n∧n≤128∧n≠65:=by
 induction l with
 | nil=>intro _ _ n hn;cases hn
 | cons x r ih =>
  intro last h n hn
  simp only [jD,Bool.and_eq_true,decide_eq_true_eq] at h
  rcases List.mem_cons.1 hn with rfl | hn
  ·exact h.1
  ·have:=ih h.2 n hn
   exact ⟨by omega,this.2⟩
theorem qH7 {l:List Int}:∀ {last:Int},jD last l=true→∀ n∈l,n≤nth l (l.length - 1) 0:=by
 induction l with
 | nil=>intro _ _ n hn;cases hn
 | cons x r ih =>
  intro last h n hn
  simp only [jD,Bool.and_eq_true,decide_eq_true_eq] at h
  cases r with
  | nil=>simp at hn;subst hn;simp [nth]
  | cons y r =>
   have hr:=ih h.2
   have hl:nth (x :: y :: r) ((x :: y :: r).length - 1) 0=nth (y :: r) ((y :: r).length - 1) 0:=by simp [nth]
   rw [hl]
   rcases List.mem_cons.1 hn with rfl | hn
   ·have h1:=(vT h.2 y (by simp)).1
    have:=hr y (by simp)
    omega
   ·exact hr n hn
theorem qo5 {l:List Int} (h:jD 1 l=true) (hw:¬ qeK l=true):∀ n∈l,n≤64:=fun n hn=>by
 have:=qH7 h n hn
 unfold qeK at hw
 have h0:0 < l.length:=List.length_pos_of_mem hn
 simp only [Bool.and_eq_true,decide_eq_true_eq,not_and,Int.not_lt] at hw
 have:=hw h0
 omega
theorem qpL {α β σ ρ:Type} {mk:β→Nat→σ} {e:Nat} {step:β→α→LS β ρ} {g:β→α→β} (h:∀ b x,step b x = .nx (g b x)):∀ (l:List α) (b:β) (i:Nat),qbK mk e step b i l = .ex e (mk (l.foldl g b) (i+l.length))
 | [],b,i=>rfl
 | x :: r,b,i=>by
  simp only [qbK,h,List.foldl_cons,List.length_cons]
  rw [qpL h r (g b x) (i+1)]
  congr 2;omega
theorem qGO {f:Int×BB×Unit→Option (LS (Int×BB×Unit) (BB×Int×Unit))} {l:List Int} {size:Nat} {S0:Nat→Bool}
  (hs:∀ (S:Nat→Bool) (i:Nat) (h:i < l.length),(∀ m,S m=(S0 m || memI (l.take i) m))→f ((i:Int),xY size S,())=some (.nx (((i+1:Nat):Int),xY size (setS S (l[i]).toNat),())))
  (hr:∀ n∈l,1≤n) (he:∀ x,f ((l.length:Int),x,())=some (.ex 0 ((l.length:Int),x,()))):loop f (0,xY size S0,())=some (.ex 0 ((l.length:Int),xY size (fun m=>S0 m || memI l m),())):=by
 have key:∀ (k i:Nat),k=l.length - i→i≤l.length→loop f ((i:Int),xY size (fun m=>S0 m || memI (l.take i) m),())=some (.ex 0 ((l.length:Int),xY size (fun m=>S0 m || memI l m),())):=by
  intro k
  induction k with
  | zero =>
   intro i hk hi
   have:i=l.length:=by omega
   subst this
   rw [List.take_length]
   exact qV (he _)
  | succ k ih =>
   intro i hk hi
   have hlt:i < l.length:=by omega
   refine (vW (hs _ i hlt fun m=>rfl)).trans ?_
   have hx:=hr l[i] (List.getElem_mem hlt)
   have:(setS (fun m=>S0 m || memI (l.take i) m) (l[i]).toNat)=fun m=>S0 m || memI (l.take (i+1)) m:=by
    funext m
    unfold setS memI
    rw [Bool.or_assoc]
    congr 1
    refine Bool.eq_iff_iff.2 ?_
    rw [List.take_succ_eq_append_getElem hlt]
    simp only [Bool.or_eq_true,decide_eq_true_eq,Nat.beq_eq,List.mem_append,List.mem_singleton]
    refine or_congr Iff.rfl ?_
    omega
   rw [this]
   exact ih (i+1) (by omega) (by omega)
 have:=key l.length 0 (by omega) (by omega)
 simp only [List.take_zero,memI,List.not_mem_nil,decide_false,Bool.or_false] at this
 exact this
end Yp
namespace Yp
open Go
theorem qP2:upd (rep 16 (u8 0)) 0 (u8 128)=xY 16 (fun m=>Nat.beq m 1):=by decide +kernel
theorem qJw {l:List Int} (hl:l.length≤1000000):sel (D (0 < (l.length:Int))) (ck (D (0≤(l.length:Int) - 1∧(l.length:Int) - 1 < (l.length:Int))) (some (D (64 < nth l ((l.length:Int) - 1).toNat 0),()))) (some (false,()))=some (qeK l,()):=by
 have hq:((l.length:Int) - 1).toNat=l.length - 1:=by omega
 by_cases h0:0 < l.length
 ·have e:qeK l=decide (64 < nth l (l.length - 1) 0):=by unfold qeK;rw [decide_eq_true h0,Bool.true_and]
  simp (disch:=omega) only [go_sem,Int.reduceToNat,hq,e]
 ·have e:qeK l=false:=by unfold qeK;rw [decide_eq_false h0,Bool.false_and]
  simp (disch:=omega) only [go_sem,Int.reduceToNat,e]
theorem qrV (l:List Int) (hl:l.length≤1000000):qeI (l,())=some (if jD 1 l=true then (bmW l,0,()) else ([],1,())):=by
 unfold qeI
 generalize hf:(fun (x_1:Int×BB×Unit)=>_)=f
 have hws:=qJw hl
 cases hr:jD 1 l
 ·simp (disch:=first | assumption | omega | (dsimp only;omega) | decide) only [go_sem,Int.reduceToNat,qa3,hr]
 have hm:=vT hr
 have step:∀ (size:Nat),(∀ n∈l,n≤8*(size:Int))→∀ S0:Nat→Bool,loop f (0,xY size S0,())=some (.ex 0 ((l.length:Int),xY size (fun m=>S0 m || memI l m),())):=by
  intro size hle S0
  refine qGO (fun S i h _ => ?_) (fun n hn=>by have:=hm n hn;omega) (fun x => ?_)
  ·subst hf
   have hx:=hm l[i] (List.getElem_mem h)
   have hx2:=hle l[i] (List.getElem_mem h)
   obtain ⟨N,hN⟩:∃ N:Nat,l[i]=N:=⟨l[i].toNat,by omega⟩
   have hP:=qrW (n:=N) (by omega) (by omega)
   have hrl:(xY size S).length=size:=v3
   have hset:=qL4 (size:=size) (S:=S) (n:=N) (by omega) (by omega) (qRU (nth (xY size S) ((N - 1) / 8) (u8 0)) ((N - 1) % 8) (by omega))
   have hnl:((N - 1) / 8) < (xY size S).length:=by omega
   rw [qL hnl] at hset
   simp (disch:=first | assumption | omega | (dsimp only;omega) | decide) only [go_sem,Int.reduceToNat,hN,hP,hrl,hset]
  ·subst hf;simp (disch:=first | assumption | omega | (dsimp only;omega) | decide) only [go_sem,Int.reduceToNat]
 by_cases hw:qeK l=true
 ·have:=step 16 (fun n hn=>by have:=hm n hn;omega) (fun m=>Nat.beq m 1)
  rw [← qP2] at this
  have e:xY 16 (fun m=>Nat.beq m 1 || memI l m)=bmW l:=by
   unfold bmW;rw [if_pos hw]
   refine qBP fun n _ _ => ?_
   unfold memI
   refine Bool.eq_iff_iff.2 ?_
   simp only [Bool.or_eq_true,Nat.beq_eq,decide_eq_true_eq,List.mem_cons]
   refine or_congr ?_ Iff.rfl
   omega
  rw [e] at this
  simp (disch:=first | assumption | omega | (dsimp only;omega) | decide) only [go_sem,Int.reduceToNat,qa3,hr,hws,hw,this]
 ·have:=step 8 (fun n hn=>by have:=qo5 hr hw n hn;omega) (fun m=>false)
  rw [← qMu] at this
  have hw':qeK l=false:=(Bool.not_eq_true _).mp hw
  have e:xY 8 (fun m=>false || memI l m)=bmW l:=by
   unfold bmW;rw [if_neg hw]
   exact qBP fun n _ _=>Bool.false_or _
  rw [e] at this
  simp (disch:=first | assumption | omega | (dsimp only;omega) | decide) only [go_sem,Int.reduceToNat,qa3,hr,hws,hw',this]
theorem qtT              (l : List Int) (hl : l.length ≤ 1000000) : qg6         (l, ()) = some (if jD     1 l = true then (bmW l, 0, ()) else ([], 1, ())) := by
  unfold qg6        
  have hws := qJw      hl
  generalize hf : (fun (x_1 : Int × List UInt8 × Unit) => _) = f
  generalize hg : (fun (x_1 : Int × List UInt8 × Unit) => (sel (lt x_1.1 (len (app (none' Int) (l, ()).1))) _ _ : Option (LS (Int × List UInt8 × Unit) (List UInt8 × Int × Unit)))) = g
  cases hr : jD     1 l
  · simp (disch := first | assumption | omega | (dsimp only; omega) | decide) only [go_sem, Int.reduceToNat, qbT             , hr]
  have hm := vT         hr
  have hnd : ∀ (last : Int) (l : List Int), jD     last l = true → ∀ i (h : i < l.length), ¬ l[i] ∈ l.take i := by
    intro last l
    induction l generalizing last with
    | nil => intro _ i h; simp at h
    | cons x r ih =>
      intro h i hi
      have hr := (by simpa only [jD    , Bool.and_eq_true, decide_eq_true_eq] using h : _)
      cases i with
      | zero => simp
      | succ i =>
        simp only [List.getElem_cons_succ, List.take_succ_cons, List.mem_cons, not_or]
        have hi' : i < r.length := by simpa using hi
        have := (vT         hr.2 r[i] (List.getElem_mem hi')).1
        exact ⟨by omega, ih x hr.2 i hi'⟩
  have step : ∀ (L : List Int) (size : Nat) (f : Int × List UInt8 × Unit → Option (LS (Int × List UInt8 × Unit) (List UInt8 × Int × Unit))), (fun (x_1 : Int × List UInt8 × Unit) =>
           sel (lt x_1.1 (len L)) (ck (inB x_1.1 (len L)) (ob (yO          (nth L (nat x_1.1) 0, ())) fun (a : Int × UInt8 × Unit) => ck (inB a.1 (len x_1.2.1)) (ck (inB a.1 (len x_1.2.1))
            (some (LS.nx (i64 (iadd x_1.1 1), upd x_1.2.1 (nat a.1) (u8 (iadd (n8 (nth x_1.2.1 (nat a.1) (u8 0))) (n8 a.2.1))), ())))))) (some (LS.ex 0 (x_1.1, x_1.2.1, ())))) = f → L.length ≤ 1000001 → (∀ n ∈ L, 1 ≤ n ∧ n ≤ 128 ∧ n ≤ 8 * (size : Int)) →
      (∀ i (h : i < L.length), ¬ L[i] ∈ L.take i) → loop f (0, rep size (u8 0), ()) = some (.ex 0 ((L.length : Int), xY    size (memI L), ())) := by
    intro L size f hf hl hle hnd
    have := qGO       (f := f) (l := L) (size := size) (S0 := fun _ => false) (fun S i h hS => ?_) (fun n hn => (hle n hn).1) (fun x => ?_)
    · simp only [Bool.false_or] at this
      rw [← qMu    ] at this; exact this
    · subst hf
      have hx := hle L[i] (List.getElem_mem h)
      obtain ⟨N, hN⟩ : ∃ N : Nat, L[i] = N := ⟨L[i].toNat, by omega⟩
      have hP := qiK              (n := N) (by omega) (by omega)
      have hrl : (xY    size S).length = size := v3         
      have hfree : bt (nth (xY    size S) ((N - 1) / 8) (u8 0)) ((N - 1) % 8) = false := by
        have h1 : hasB (xY    size S) N = S N := qkJ       (by omega) (by omega)
        unfold hasB at h1
        rw [h1, hS, Bool.false_or]
        unfold memI
        rw [← hN]; exact decide_eq_false (hnd i h)
      have hset := qL4     (size := size) (S := S) (n := N) (by omega) (by omega) (qRg     (nth (xY    size S) ((N - 1) / 8) (u8 0)) ((N - 1) % 8) (by omega) hfree)
      have hnl : ((N - 1) / 8) < (xY    size S).length := by omega
      rw [qL      hnl] at hset
      simp only [iadd] at hset
      simp (disch := omega) only [go_sem, Int.reduceToNat, hN, hP, hrl, hset]
    · subst hf; simp (disch := omega) only [go_sem, Int.reduceToNat]
  by_cases hw : qeK   l = true
  · have := step (l ++ [1]) 16 _ rfl (by simp; omega) (fun n hn => by
      rcases List.mem_append.1 hn with hn | hn
      · have := hm n hn; omega
      · simp at hn; subst hn; omega) (fun i h => by
      rcases Nat.lt_or_ge i l.length with hi | hi
      · rw [List.getElem_append_left hi, List.take_append_of_le_length (by omega)]; exact hnd 1 l hr i hi
      · have : i = l.length := by simp at h; omega
        subst this
        rw [List.getElem_append_right (by omega), List.take_left]
        simp only [Nat.sub_self, List.getElem_cons_zero]
        intro hc; have := hm 1 hc; omega)
    have e : xY    16 (memI (l ++ [1])) = bmW l := by
      unfold bmW; rw [if_pos hw]
      refine qBP      fun n _ _ => ?_
      unfold memI
      exact Bool.eq_iff_iff.2 (by simp [or_comm])
    rw [e] at this
    have this : loop f (0, rep 16 (u8 0), ()) = some (.ex 0 (((l ++ [1]).length : Int), bmW l, ())) := by rw [← hf]; exact this
    simp (disch := omega) only [go_sem, Int.reduceToNat, qbT             , hr, hws, hw, List.length_cons, this]
  · have := step l 8 _ rfl (by omega) (fun n hn => by have := qo5      hr hw n hn; have := hm n hn; omega) (hnd 1 l hr)
    have hw' : qeK   l = false := (Bool.not_eq_true _).mp hw
    have e : xY    8 (memI l) = bmW l := by unfold bmW; rw [if_neg hw]
    rw [e] at this
    have this : loop g (0, rep 8 (u8 0), ()) = some (.ex 0 ((l.length : Int), bmW l, ())) := by rw [← hg]; exact this
    simp (disch := omega) only [go_sem, Int.reduceToNat, qbT             , hr, hws, hw', this]
end Yp
namespace Yp
open Go
theorem qeT {c:BB} {n:Nat} (h1:1≤n) (h2:n≤128) (h3:n≤8*c.length):wK (c,(n:Int),())=some (hasB c n,()):=by
 unfold wK
 have hP:=qiK h1 h2
 have hlt:(n - 1) / 8 < c.length:=by omega
 refine (qF hP).trans ((qH (zF hlt)).trans ?_)
 have:=qRf (nth c ((n - 1) / 8) (u8 0)) ((n - 1) % 8) (by omega)
 simp only [qP,this];rfl
theorem qwY {c:BB} {n k:Nat} (h1:1≤n) (h2:n≤8*k) (h3:k≤c.length):hasB (c.take k) n=hasB c n:=by
 unfold hasB
 have h:(n - 1) / 8 < k:=by omega
 rw [qL (by rw [List.length_take];omega),qL (by omega),List.getElem_take]
def outB (c:BB) (k:Nat):List Nat:=(List.range k).filter fun n=>Nat.ble 2 n && hasB c n
theorem qMI (c:BB) (k:Nat) (h:2≤k):outB c (k+1)=outB c k++if hasB c k=true then [k] else []:=by
 unfold outB
 rw [List.range_succ,List.filter_append]
 congr 1
 have:Nat.ble 2 k=true:=Nat.ble_eq_true_of_le h
 simp only [List.filter_cons,this,Bool.true_and,List.filter_nil]
theorem qOz (c:BB):outB c 2=[]:=by
 unfold outB;rw [List.filter_eq_nil_iff]
 intro n hn;rw [List.mem_range] at hn
 have:Nat.ble 2 n=false:=(Bool.not_eq_true _).mp fun hb=>by have:=Nat.le_of_ble_eq_true hb;omega
 rw [this];simp
theorem qwG {c:BB} {k:Nat} (h:k≤c.length):qeW (c.take k)=outB c (8*k+1):=by
 unfold qeW outB
 rw [List.length_take,Nat.min_eq_left h]
 refine List.filter_congr fun n hn => ?_
 rw [List.mem_range] at hn
 by_cases h2:2≤n
 ·rw [qwY (by omega) (by omega) h]
 ·have:Nat.ble 2 n=false:=(Bool.not_eq_true _).mp fun hb=>h2 (Nat.le_of_ble_eq_true hb)
  rw [this,Bool.false_and,Bool.false_and]
theorem qIg (c:BB) (k:Nat):(outB c k).Pairwise (· < ·):=List.Pairwise.filter _ List.pairwise_lt_range
theorem qJ0 {c:BB} {k n:Nat}:n∈outB c k↔n < k∧2≤n∧hasB c n=true:=by
 unfold outB;rw [List.mem_filter,List.mem_range,Bool.and_eq_true,Nat.ble_eq]
theorem qG5 {l:List Nat} (h:l.Pairwise (· < ·)) {n:Nat} (hn:n∈l) (h0:l.length - 1 < l.length):n≤l[l.length - 1]:=by
 obtain ⟨i,hi,rfl⟩:=List.getElem_of_mem hn
 rcases Nat.lt_or_ge i (l.length - 1) with hlt | hge
 ·exact Nat.le_of_lt (List.pairwise_iff_getElem.1 h i (l.length - 1) hi h0 hlt)
 ·have:i=l.length - 1:=by omega
  subst this;exact Nat.le_refl _
theorem qQH {l:List Nat} (h:l.Pairwise (· < ·)):(65∈l∨l.length=0∨∃ h0:l.length - 1 < l.length,l[l.length - 1]≤65)↔(65∈l∨∀ n∈l,n < 65):=by
 constructor
 ·rintro (h1 | h1 | ⟨h0,h1⟩)
  ·exact .inl h1
  ·right;intro n hn;rw [List.length_eq_zero_iff.1 h1] at hn;cases hn
  ·by_cases h65:65∈l
   ·exact .inl h65
   ·right;intro n hn
    have:=qG5 h hn h0
    have:n≠65:=fun e=>h65 (e ▸ hn)
    omega
 ·rintro (h1 | h1)
  ·exact .inl h1
  ·by_cases h0:l.length=0
   ·exact .inr (.inl h0)
   ·right;right
    refine ⟨by omega, ?_⟩
    have:=h1 _ (List.getElem_mem (show l.length - 1 < l.length by omega))
    omega
theorem qJ1 (c:BB) (k:Nat):(outB c k).length≤k:=by
 unfold outB
 have:=List.length_filter_le (fun n=>Nat.ble 2 n && hasB c n) (List.range k)
 rwa [List.length_range] at this
theorem qv3             (b : List UInt8) (a : Int) (hl : b.length ≤ 1000000) : ql0        (b, a, ()) = some (bmR b a) := by
  unfold ql0       
  by_cases ha : a < 0 ∨ (b.length : Int) < a
  · unfold bmR; rw [if_pos ha]; simp (disch := first | assumption | omega | (dsimp only; omega) | decide) only [go_sem, Int.reduceToNat]
  have hb : bmR b a = bmC (b.drop a.toNat) a := by unfold bmR; rw [if_neg ha]
  rw [hb]
  have hsub : sub b a (len b) = b.drop a.toNat := by
    simp only [sub, len, Int.toNat_natCast]
    rw [List.take_of_length_le (by rw [List.length_drop]; omega)]
  have hcl : (b.drop a.toNat).length = b.length - a.toNat := List.length_drop
  simp only [hsub]
  generalize hc : b.drop a.toNat = c at *
  clear hb hsub
  by_cases h8 : c.length < 8
  · unfold bmC; rw [if_pos (Or.inl h8)]; simp (disch := first | assumption | omega | (dsimp only; omega) | decide) only [go_sem, Int.reduceToNat]
  have h1 := qeT            (c := c) (n := 1) (by omega) (by omega) (by omega)
  replace h1 : wK        (c, 1, ()) = some (hasB c 1, ()) := h1
  -- the loop
  have lp : ∀ (size : Nat) (f : List Int × Int × Unit → Option (LS (List Int × Int × Unit) (List Int × Int × Int × Unit))), (fun (x_1 : List Int × Int × Unit) =>
           sel (le x_1.2.1 (i64 (imul 8 (size : Int)))) (ob (wK        (c, x_1.2.1, ())) fun (a : Bool × Unit) => sel a.1 (ck (rm 32 (nadd (ln x_1.1) (ln [x_1.2.1]))) (some (LS.nx (app x_1.1 [x_1.2.1], i64 (iadd x_1.2.1 1), ()))))
            (some (LS.nx (x_1.1, i64 (iadd x_1.2.1 1), ())))) (some (LS.ex 0 (x_1.1, x_1.2.1, ())))) = f → 1 ≤ size → size ≤ 16 → size ≤ c.length →
      loop f ([], 2, ()) = some (.ex 0 ((qeW   (c.take size)).map Int.ofNat, ((8 * size + 1 : Nat) : Int), ())) := by
    intro size f hf hs0 hs hsc
    have step : ∀ i, i < 8 * size - 1 → f ((outB c (i + 2)).map Int.ofNat, ((i + 2 : Nat) : Int), ()) = some (.nx ((outB c (i + 1 + 2)).map Int.ofNat, ((i + 1 + 2 : Nat) : Int), ())) := fun i hi => by
      subst hf
      have hh := qeT            (c := c) (n := i + 2) (by omega) (by omega) (by omega)
      have hol := qJ1      c (i + 2)
      have hos := qMI       c (i + 2) (by omega)
      rw [show i + 1 + 2 = i + 2 + 1 by omega, hos]
      cases hhb : hasB c (i + 2)
      · rw [hhb] at hh
        simp only [Bool.false_eq_true, if_false, List.append_nil]
        generalize hN : i + 2 = N at *
        simp (disch := omega) only [go_sem, Int.reduceToNat, hh]
      · rw [hhb] at hh
        simp only [if_true, List.map_append, List.map_cons, List.map_nil]
        generalize hN : i + 2 = N at *
        simp (disch := omega) only [go_sem, Int.reduceToNat, hh, List.length_map, List.length_cons]
        rfl
    have e := qN         (f := f) (fun i => ((outB c (i + 2)).map Int.ofNat, ((i + 2 : Nat) : Int), ())) (8 * size - 1) step 0 (by omega)
    simp only [Nat.zero_add, qOz     , List.map_nil] at e
    replace e : loop f ([], 2, ()) = _ := e
    rw [e, qwG       hsc, show 8 * size - 1 + 2 = 8 * size + 1 by omega]
    refine qV      ?_
    subst hf; simp (disch := omega) only [go_sem, Int.reduceToNat]
  refine (qF    (a := (false, ())) (by simp (disch := omega) only [go_sem, Int.reduceToNat]; exact qiZ     (by omega))).trans ?_
  refine (qB       rfl).trans ?_
  refine (qH    (by simp (disch := omega) only [go_sem, Int.reduceToNat]; exact ⟨by omega, by omega⟩)).trans ?_
  refine (qB       (by simp (disch := omega) only [go_sem, Int.reduceToNat]; omega)).trans ?_
  refine (qF    h1).trans ?_
  cases hw : hasB c 1
  · have e := lp 8 _ rfl (by omega) (by omega) (by omega)
    have hbm : bmC c a = ((qeW   (c.take 8)).map Int.ofNat, a + 8, 0, ()) := by
      unfold bmC
      rw [if_neg (by rw [hw]; simp; omega), if_neg (by rw [hw]; simp)]
    rw [hbm]
    refine (qF    (qB       rfl)).trans ?_
    refine (qB       (by simp (disch := omega) only [go_sem, Int.reduceToNat]; omega)).trans ?_
    refine (zC    e).trans ?_
    simp (disch := omega) only [go_sem, Int.reduceToNat]
  · by_cases h16 : c.length < 16
    · unfold bmC; rw [if_pos (Or.inr ⟨hw, h16⟩)]
      simp (disch := omega) only [go_sem, Int.reduceToNat]
    · have e := lp 16 _ rfl (by omega) (by omega) (by omega)
      have h65 := qeT            (c := c) (n := 65) (by omega) (by omega) (by omega)
      replace h65 : wK        (c, 65, ()) = some (hasB c 65, ()) := h65
      rw [qwG       (by omega)] at e
      have hol := qJ1      c (8 * 16 + 1)
      have hm65 : 65 ∈ outB c (8 * 16 + 1) ↔ hasB c 65 = true := ⟨fun h => (qJ0.1      h).2.2, fun h => qJ0.2      ⟨by omega, by omega, h⟩⟩
      have hlast := qQH     (qIg         c (8 * 16 + 1))
      have hbm : bmC c a = if 65 ∈ outB c (8 * 16 + 1) ∨ ∀ n ∈ outB c (8 * 16 + 1), n < 65 then ([], 0, 2, ()) else ((outB c (8 * 16 + 1)).map Int.ofNat, a + 16, 0, ()) := by
        unfold bmC
        rw [if_neg (by omega), if_pos hw, qwG       (by omega)]
      rw [hbm]
      refine (qF    (qC       rfl)).trans ?_
      refine (qB       (by simp (disch := omega) only [go_sem, Int.reduceToNat]; omega)).trans ?_
      refine (zC    e).trans ?_
      generalize outB c (8 * 16 + 1) = l at *
      have hq : ((l.length : Int) - 1).toNat = l.length - 1 := by omega
      cases hb65 : hasB c 65
      · rw [hb65] at h65 hm65
        have hn65 : ¬ 65 ∈ l := fun h => by have := hm65.1 h; simp at this
        by_cases h0 : l.length = 0
        · rw [if_pos (hlast.1 (.inr (.inl h0)))]
          simp (disch := omega) only [go_sem, Int.reduceToNat, h65, List.length_map]
        · have hlt : l.length - 1 < l.length := by omega
          have hn : nth (l.map Int.ofNat) (l.length - 1) 0 = Int.ofNat l[l.length - 1] := by rw [qL      (by simpa using hlt), List.getElem_map]
          by_cases h6 : l[l.length - 1] ≤ 65
          · rw [if_pos (hlast.1 (.inr (.inr ⟨hlt, h6⟩)))]
            have h6' : Int.ofNat l[l.length - 1] ≤ 65 := by simp; omega
            simp (disch := omega) only [go_sem, Int.reduceToNat, h65, List.length_map, hq, hn]
          · rw [if_neg fun hc => by
              rcases hlast.2 hc with h | h | ⟨_, h⟩
              · exact hn65 h
              · exact h0 h
              · exact h6 h]
            have h6' : ¬ Int.ofNat l[l.length - 1] ≤ 65 := by simp; omega
            simp (disch := omega) only [go_sem, Int.reduceToNat, h65, List.length_map, hq, hn]
      · rw [if_pos (.inl (hm65.2 hb65))]
        rw [hb65] at h65
        simp (disch := omega) only [go_sem, Int.reduceToNat, h65]
end Yp
namespace Yp
open Go
theorem qNB {no k l:Int} (h:zJ no=some (k,l)):2≤no∧no≤128∧no≠65:=by
 unfold zJ at h
 rw [Option.map_eq_some_iff] at h
 obtain ⟨r,hr,he⟩:=h
 have hm:=List.mem_of_find?_eq_some hr
 have hp:=List.find?_some hr
 simp only [List.contains_eq_mem,decide_eq_true_eq] at hp
 have:∀ r∈frows,∀ c∈r.drop 2,2≤c∧c≤128∧c≠65:=by decide +kernel
 exact this r hm no hp
theorem qbL {no:Int} {v:BB}:vL no v=true↔∃ k l,zJ no=some (k,l)∧fv k l v:=by
 unfold vL
 cases ho:zJ no with
 | none=>simp
 | some p =>
  obtain ⟨k,l⟩:=p
  simp only [decide_eq_true_eq,Option.some.injEq,Prod.mk.injEq]
  exact ⟨fun h=>⟨k,l,⟨rfl,rfl⟩,h⟩,fun ⟨_,_,⟨h1,h2⟩,h⟩=>by rw [h1,h2];exact h⟩
theorem qKq {no:Int} {v:BB} (h:vL no v=true):2≤no∧no≤128∧no≠65:=by
 obtain ⟨k,l,h1,_⟩:=qbL.1 h;exact qNB h1
theorem yX {l:List V}:∀ {last:Int},kO last l=true→∀ v∈l,last < v.1∧vL v.1 v.2.1=true:=by
 induction l with
 | nil=>intro _ _ v hv;cases hv
 | cons x r ih =>
  intro last h v hv
  simp only [kO,Bool.and_eq_true,decide_eq_true_eq] at h
  rcases List.mem_cons.1 hv with rfl | hv
  ·exact ⟨h.1,h.2.1⟩
  ·have:=ih h.2.2 v hv
   exact ⟨by omega,this.2⟩
def nosF (l:List V):List Int:=l.map fun v=>v.1
theorem qOo {l:List V}:∀ {last:Int},1≤last→kO last l=true→jD last (nosF l)=true:=by
 induction l with
 | nil=>intros;rfl
 | cons x r ih =>
  intro last hl h
  simp only [kO,Bool.and_eq_true,decide_eq_true_eq] at h
  have hn:=qKq h.2.1
  simp only [nosF,List.map_cons,jD,Bool.and_eq_true,decide_eq_true_eq]
  exact ⟨⟨h.1,hn.2⟩,ih (by omega) h.2.2⟩
theorem qoS {l:List V} (h:kO 0 l=true):jD 1 (nosF l)=true:=by
 cases l with
 | nil=>rfl
 | cons x r =>
  simp only [kO,Bool.and_eq_true,decide_eq_true_eq] at h
  have hn:=qKq h.2.1
  simp only [nosF,List.map_cons,jD,Bool.and_eq_true,decide_eq_true_eq]
  exact ⟨⟨by omega,hn.2⟩,qOo (by omega) h.2.2⟩
def wrV (v:V):BB:=(wrD v.1 v.2.1).1
theorem quR {no:Int} {v:BB} (h:vL no v=true):wrD no v=((wrD no v).1,0,())∧(wrD no v).1.length≤402∧1≤(wrD no v).1.length:=by
 obtain ⟨k,l,h1,h2⟩:=qbL.1 h
 have e:wrD no v=(wrF k v,0,()):=by unfold wrD;rw [h1];simp only [if_pos h2]
 have hl:=qPB h1 h2
 rw [e]
 exact ⟨rfl,qRo (qbY h1).1 hl.2.2,qPN (qbY h1).1 hl.1⟩
def typB (m:Int):BB:=bcd (pad (ps 10 dch m.toNat 4))
theorem qgI {m:Int}:(typB m).length=2:=by unfold typB;rw [z4,zP]
def wrM (m:M):BB:=typB m.1++(bmW (nosF m.2.1)++m.2.1.flatMap wrV)
theorem kL (l:List Int):(bmW l).length=if qeK l=true then 16 else 8:=by unfold bmW;split <;> exact v3
theorem qNC (l:List V):∀ acc:List Int,l.foldl (fun acc v=>acc++[v.1]) acc=acc++nosF l:=by
 induction l with
 | nil=>intro acc;simp [nosF]
 | cons v r ih=>intro acc;rw [List.foldl_cons,ih];simp [nosF]
theorem qOX (l:List V):∀ acc:BB,l.foldl (fun acc v=>acc++wrV v) acc=acc++l.flatMap wrV:=by
 induction l with
 | nil=>intro acc;simp
 | cons v r ih=>intro acc;rw [List.foldl_cons,ih];simp
theorem qqK {m:Int} (h:xZ m):y9 (m,4,())=some (ps 10 dch m.toNat 4,0,())∧qe4 (ps 10 dch m.toNat 4,())=some (typB m,0,())∧x8 (m,4,())=some (ps 10 dch m.toNat 4,0,())∧kW (ps 10 dch m.toNat 4,())=some (typB m,0,()):=by
 unfold xZ at h
 have e:(10:Int) ^ (4:Int).toNat=10000:=by decide
 refine ⟨?_, ?_, ?_, ?_⟩
 ·rw [qdV _ _ (by omega),if_pos ⟨by omega,by omega,by omega,by rw [e];omega⟩];rfl
 ·rw [qkS _ (by rw [zP];omega),if_pos qnX];rfl
 ·rw [qaQ _ _ (by omega),if_pos ⟨by omega,by omega,by omega,by rw [e];omega⟩];rfl
 ·rw [qeU _ (by rw [zP];omega),if_pos qnX];rfl
theorem qzG (m:M) (hm:fewM m):qpF (m,())=some (if yW m=true then (wrM m,0,()) else ([],1,())):=by
 unfold qpF
 generalize hf:(fun (x_1:List Int×Int×Unit)=>_)=f
 generalize hg:(fun (x_1:BB×Int×Unit)=>(_:Option (LS (BB×Int×Unit) (BB×Int×Unit))))=g
 have hR:=qzH m hm
 have hl:=hm.1
 cases hr:yW m
 ·simp (disch:=first | assumption | omega | (dsimp only;omega) | decide) only [go_sem,Int.reduceToNat,hR,hr]
 have hr':=hr
 simp only [yW,Bool.and_eq_true,decide_eq_true_eq] at hr'
 obtain ⟨d1,d2, -, -⟩:=qqK hr'.2
 have key:=vI (f:=f) (ρ:=BB×Int×Unit) m.2.1 (fun (acc:List Int) i=>(acc,(i:Int),())) 0 (fun acc v => .nx (acc++[v.1])) (fun acc i=>acc.length=i) (fun b i h hI=>⟨?_,fun b' hb => ?_⟩) (fun b _ => ?_) [] rfl
 ·rw [qpL (g:=fun (acc:List Int) (v:V)=>acc++[v.1]) (fun _ _=>rfl),qNC,List.nil_append] at key
  have hbm:=qrV (nosF m.2.1) (by simp [nosF];omega)
  rw [if_pos (qoS hr'.1)] at hbm
  have htl:=qgI (m:=m.1)
  have hbl:(bmW (nosF m.2.1)).length≤16:=by rw [kL];split <;> omega
  have key2:=vI (f:=g) (ρ:=BB×Int×Unit) m.2.1 (fun (acc:BB) i=>(acc,(i:Int),())) 2 (fun acc v => .nx (acc++wrV v)) (fun acc i=>acc.length≤100+402*i) (fun b i h hI=>⟨?_,fun b' hb => ?_⟩) (fun b _ => ?_) (typB m.1++bmW (nosF m.2.1)) (by rw [List.length_append];omega)
  ·rw [qpL (g:=fun (acc:BB) (v:V)=>acc++wrV v) (fun _ _=>rfl),qOX,List.append_assoc] at key2
   have hnl:(nosF m.2.1).length=m.2.1.length:=by simp [nosF]
   replace key:loop f ([],0,())=_:=key
   replace key2:loop g (typB m.1++bmW (nosF m.2.1),0,())=_:=key2
   simp (disch:=first | assumption | omega | (dsimp only;omega) | decide) only [go_sem,Int.reduceToNat,hR,hr,d1,d2,key,hbm,key2]
   rfl
  ·subst hg
   have hfit:=yX hr'.1 m.2.1[i] (List.getElem_mem h)
   have hw:=quR hfit.2
   have hlv:=hm.nth h
   have hws:=qt2 m.2.1[i].1 m.2.1[i].2.1 hlv
   rw [hw.1] at hws
   have hwl:(wrV m.2.1[i]).length≤402:=hw.2.1
   change qdR _=some (wrV m.2.1[i],0,()) at hws
   simp (disch:=omega) only [go_sem,Int.reduceToNat,hws,qbX]
  ·cases hb
   have hfit:=yX hr'.1 m.2.1[i] (List.getElem_mem h)
   have hwl:(wrV m.2.1[i]).length≤402:=(quR hfit.2).2.1
   rw [List.length_append];omega
  ·subst hg;simp (disch:=omega) only [go_sem,Int.reduceToNat]
 ·subst hf;simp (disch:=omega) only [go_sem,Int.reduceToNat,List.length_cons,qbX]
 ·cases hb;rw [List.length_append,hI];rfl
 ·subst hf;simp (disch:=omega) only [go_sem,Int.reduceToNat]
theorem qv1 {m:Int} (h:xZ m):qlY (m,())=some (ps 10 dch m.toNat 4,()):=by
 unfold qlY
 obtain ⟨-, -,d1, -⟩:=qqK h
 simp only [go_sem,Int.reduceToNat,d1]
theorem qtR (m:M) (hm:fewM m):qg4 (m,())=some (if yW m=true then (wrM m,0,()) else ([],1,())):=by
 unfold qg4
 generalize hf:(fun (x_1:List Int×BB×Int×Unit)=>_)=f
 have hR:=qtS m hm
 have hl:=hm.1
 cases hr:yW m
 ·simp (disch:=first | assumption | omega | (dsimp only;omega) | decide) only [go_sem,Int.reduceToNat,hR,hr]
 have hr':=hr
 simp only [yW,Bool.and_eq_true,decide_eq_true_eq] at hr'
 obtain ⟨-, -,d1,d2⟩:=qqK hr'.2
 have key:=vI (f:=f) (ρ:=BB×Int×Unit) m.2.1 (fun (acc:List Int×BB) i=>(acc.1,acc.2,(i:Int),())) 0 (fun acc v => .nx (acc.1++[v.1],acc.2++wrV v)) (fun acc i=>acc.1.length=i∧acc.2.length≤402*i) (fun b i h hI=>⟨?_,fun b' hb => ?_⟩) (fun b _ => ?_) ([],[]) ⟨rfl,by simp⟩
 ·rw [qpL (g:=fun (acc:List Int×BB) (v:V)=>(acc.1++[v.1],acc.2++wrV v)) (fun _ _=>rfl)] at key
  have hfold:∀ (l:List V) (a:List Int) (b:BB),l.foldl (fun (acc:List Int×BB) v=>(acc.1++[v.1],acc.2++wrV v)) (a,b)=(a++nosF l,b++l.flatMap wrV):=by
   intro l
   induction l with
   | nil=>intro a b;simp [nosF]
   | cons v r ih=>intro a b;rw [List.foldl_cons,ih];simp [nosF]
  rw [hfold,List.nil_append,List.nil_append] at key
  have hbm:=qtT (nosF m.2.1) (by simp [nosF];omega)
  rw [if_pos (qoS hr'.1)] at hbm
  have htl:=qgI (m:=m.1)
  have hbl:(bmW (nosF m.2.1)).length≤16:=by rw [kL];split <;> omega
  have hfl:(m.2.1.flatMap wrV).length≤402*m.2.1.length:=by
   have:∀ l:List V,(∀ v∈l,vL v.1 v.2.1=true)→(l.flatMap wrV).length≤402*l.length:=by
    intro l
    induction l with
    | nil=>simp
    | cons v r ih =>
     intro h
     have h1:(wrV v).length≤402:=(quR (h v (by simp))).2.1
     have h2:=ih fun u hu=>h u (by simp [hu])
     simp only [List.flatMap_cons,List.length_append,List.length_cons];omega
   exact this _ fun v hv=>(yX hr'.1 v hv).2
  have h4:=qv1 hr'.2
  replace key:loop f ([],[],0,())=_:=key
  simp (disch:=first | assumption | omega | (dsimp only;omega) | decide) only [go_sem,Int.reduceToNat,hR,hr,h4,d2,key,hbm,List.length_append]
  rw [List.append_assoc];rfl
 ·subst hf
  have hfit:=yX hr'.1 m.2.1[i] (List.getElem_mem h)
  have hw:=quR hfit.2
  have hlv:=hm.nth h
  have hws:=qtU m.2.1[i].1 m.2.1[i].2.1 hlv
  rw [hw.1] at hws
  have hwl:(wrV m.2.1[i]).length≤402:=hw.2.1
  change qdE _=some (wrV m.2.1[i],0,()) at hws
  simp (disch:=omega) only [go_sem,Int.reduceToNat,hws,qbX,List.length_cons]
 ·cases hb
  have hfit:=yX hr'.1 m.2.1[i] (List.getElem_mem h)
  have hwl:(wrV m.2.1[i]).length≤402:=(quR hfit.2).2.1
  refine ⟨by rw [List.length_append,hI.1];rfl, ?_⟩
  rw [List.length_append];omega
 ·subst hf;simp (disch:=omega) only [go_sem,Int.reduceToNat]
end Yp
namespace Yp
open Go
def noM:M:=(0,[],())
def rdFs (b:BB):List Int→Int→List V→Option Int×Int×List V
 | [],at',F=>(none,at',F)
 | n :: r,at',F=>if (rdD n b at').2.2.1=0 then rdFs b r (rdD n b at').2.1 (F++[(n,(rdD n b at').1,())]) else (some (rdD n b at').2.2.1,at',F)
def qwB (b:BB) (s:Int×List V) (n:Int):LS (Int×List V) (M×Int×Unit):=if (rdD n b s.1).2.2.1=0 then .nx ((rdD n b s.1).2.1,s.2++[(n,(rdD n b s.1).1,())]) else .rt (noM,(rdD n b s.1).2.2.1,())
theorem qKk {σ:Type} {mk:Int×List V→Nat→σ} {e:Nat} {b:BB}:∀ (l:List Int) (s:Int×List V) (i:Nat),qbK mk e (qwB b) s i l=match rdFs b l s.1 s.2 with | (none,a,F) => .ex e (mk (a,F) (i+l.length)) | (some q,_,_) => .rt (noM,q,())
 | [],s,i=>rfl
 | n :: r,s,i=>by
  unfold rdFs
  by_cases h:(rdD n b s.1).2.2.1=0
  ·have hs:qwB b s n = .nx ((rdD n b s.1).2.1,s.2++[(n,(rdD n b s.1).1,())]):=if_pos h
   simp only [qbK,hs,if_pos h]
   rw [qKk r _ (i+1)]
   simp only [List.length_cons,Nat.add_assoc,Nat.add_comm 1]
  ·have hs:qwB b s n = .rt (noM,(rdD n b s.1).2.2.1,()):=if_neg h
   simp only [qbK,hs,if_neg h]
def qAj (_:Unit) (n:Int):LS Unit (M×Int×Unit):=if (zJ n).isSome=true then .nx () else .rt (noM,2,())
theorem qKl {σ:Type} {mk:Unit→Nat→σ} {e:Nat}:∀ (l:List Int) (i:Nat),qbK mk e qAj () i l=if ∀ n∈l,(zJ n).isSome=true then .ex e (mk () (i+l.length)) else .rt (noM,2,())
 | [],i=>by simp [qbK]
 | n :: r,i=>by
  by_cases h:(zJ n).isSome=true
  ·have hs:qAj () n = .nx ():=if_pos h
   simp only [qbK,hs,List.mem_cons,forall_eq_or_imp,h,true_and]
   rw [qKl r (i+1)]
   simp only [List.length_cons,Nat.add_assoc,Nat.add_comm 1]
  ·have hs:qAj () n = .rt (noM,2,()):=if_neg h
   simp only [qbK,hs]
   rw [if_neg fun hc=>h (hc n (by simp))]
def rdE (b:BB) (m:Int) (l:List Int) (at':Int):M×Int×Unit :=
 if ∀ n∈l,(zJ n).isSome=true then (match rdFs b l at' [] with | (none,a,F)=>if a < (b.length:Int) then (noM,4,()) else ((m,F,()),0,()) | (some q,_,_)=>(noM,q,())) else (noM,2,())
def rdM (b:BB):M×Int×Unit :=
 if (z5 b 0 4).2.2.1≠0 then (noM,(z5 b 0 4).2.2.1,()) else if xZ (val (z5 b 0 4).1:Int) then
  (if (bmR b 2).2.2.1≠0 then (noM,(bmR b 2).2.2.1,()) else rdE b (val (z5 b 0 4).1:Int) (bmR b 2).1 (bmR b 2).2.1) else (noM,2,())
theorem qr9 {c:BB}:(qeW c).length≤8*c.length+1:=by
 unfold qeW
 have:=List.length_filter_le (fun n=>Nat.ble 2 n && hasB c n) (List.range (8*c.length+1))
 rwa [List.length_range] at this
theorem qLH {b:BB} {a:Int}:(bmR b a).1.length≤129:=by
 unfold bmR
 split
 ·simp
 unfold bmC
 split
 ·simp
 split
 ·split
  ·simp
  ·have:=qr9 (c:=(b.drop a.toNat).take 16)
   have h2:=List.length_take_le 16 (b.drop a.toNat)
   simp only [List.length_map];omega
 ·have:=qr9 (c:=(b.drop a.toNat).take 8)
  have h2:=List.length_take_le 8 (b.drop a.toNat)
  simp only [List.length_map];omega
theorem qQT {o:Option (Int×Int)}:(fr o).2.1=o.isSome:=by cases o <;> rfl
theorem qOr {Of:Int×Unit→Option ((Int×Int×Unit)×Bool×Unit)} (hOf:∀ n,Of (n,())=some (fr (zJ n))) {Rd:Int×BB×Int×Unit→Option (BB×Int×Int×Unit)} {b:BB} (hRd:∀ n a,Rd (n,b,a,())=some (rdD n b a))
  {l:List Int} (hl:l.length≤129) {at' mti:Int} {e1:Int} {f:Int×Int×Unit→Option (LS (Int×Int×Unit) (M×Int×Unit))} {g:Int×Int×Int×M×Unit→Option (LS (Int×Int×Int×M×Unit) (M×Int×Unit))}
  (hf:∀ x (i:Nat),f (x,(i:Int),())=sel (lt (i:Int) (len l)) (ck (inB (i:Int) (len l)) (ob (Of (nth l (nat (i:Int)) 0,())) fun a=>sel (bnot a.2.1) (some (.rt (noM,2,()))) (some (.nx (x,i64 (iadd (i:Int) 1),()))))) (some (.ex 0 (x,(i:Int),()))))
  (hg:∀ x a (i:Nat) (F:List V),g (x,a,(i:Int),(mti,F,()),())=sel (lt (i:Int) (len l)) (ck (inB (i:Int) (len l)) (ob (Rd (nth l (nat (i:Int)) 0,b,a,())) fun q=>sel (bnot (beq q.2.2.1 0)) (some (.rt (noM,q.2.2.1,())))
   (ck (rm 56 (nadd (ln F) 1)) (some (.nx (x,q.2.1,i64 (iadd (i:Int) 1),(mti,app F [(nth l (nat (i:Int)) 0,q.1,())],()),())))))) (some (.ex 2 (x,a,(i:Int),(mti,F,()),())))) (x0:Int) :
  lc (loop f (x0,0,())) (fun _=>none) (fun i a=>ck (neb i 0) (lc (loop g (a.1,at',0,(mti,[],()),())) (fun _=>none) (fun i a=>ck (neb i 2) (sel (lt a.2.1 (len b)) (some (noM,4,())) (some ((a.2.2.2.1.1,a.2.2.2.1.2.1,a.2.2.2.1.2.2),0,())))) fun r=>some r)) (fun r=>some r)=some (rdE b mti l at'):=by
 have key:=vI (f:=f) l (fun (_:Unit) i=>(x0,(i:Int),())) 0 qAj (fun _ _=>True) (fun _ i h _=>⟨?_,fun _ _=>trivial⟩) (fun _ _ => ?_) () trivial
 ·refine (zC key).trans ?_
  rw [qKl]
  unfold rdE
  by_cases ho:∀ n∈l,(zJ n).isSome=true
  ·rw [if_pos ho,if_pos ho]
   refine qKd.trans ((qH g62).trans ?_)
   have key2:=vI (f:=g) l (fun (s:Int×List V) i=>(x0,s.1,(i:Int),(mti,s.2,()),())) 2 (qwB b) (fun s i=>s.2.length≤i) (fun s i h hI=>⟨?_,fun s' hs => ?_⟩) (fun s _ => ?_) (at',[]) (Nat.le_refl _)
   ·refine (zC key2).trans ?_
    rw [qKk]
    rcases rdFs b l at' [] with ⟨_ | q,a,F⟩
    ·refine qKd.trans ((qH g62).trans ?_)
     by_cases ha:a < (b.length:Int)
     ·simp only [if_pos ha];simp (disch:=first | assumption | omega | (dsimp only;omega) | decide) only [go_sem,Int.reduceToNat]
     ·simp only [if_neg ha];simp (disch:=first | assumption | omega | (dsimp only;omega) | decide) only [go_sem,Int.reduceToNat]
    ·rfl
   ·rw [hg]
    by_cases h0:(rdD l[i] b s.1).2.2.1=0
    ·have hst:qwB b s l[i] = .nx ((rdD l[i] b s.1).2.1,s.2++[(l[i],(rdD l[i] b s.1).1,())]):=if_pos h0
     simp (disch:=omega) only [go_sem,Int.reduceToNat,hRd,h0,hst,qbX]
    ·have hst:qwB b s l[i] = .rt (noM,(rdD l[i] b s.1).2.2.1,()):=if_neg h0
     simp (disch:=omega) only [go_sem,Int.reduceToNat,hRd,h0,hst,qbX]
   ·unfold qwB at hs
    split at hs
    ·cases hs;rw [List.length_append];simp;omega
    ·cases hs
   ·rw [hg];simp (disch:=omega) only [go_sem,Int.reduceToNat]
  ·rw [if_neg ho,if_neg ho];rfl
 ·rw [hf]
  cases h0:(zJ l[i]).isSome
  ·have hst:qAj () l[i] = .rt (noM,2,()):=if_neg (by rw [h0];simp)
   simp (disch:=omega) only [go_sem,Int.reduceToNat,hOf,qQT,h0,hst,qbX]
  ·have hst:qAj () l[i] = .nx ():=if_pos h0
   simp (disch:=omega) only [go_sem,Int.reduceToNat,hOf,qQT,h0,hst,qbX]
 ·rw [hf];simp (disch:=omega) only [go_sem,Int.reduceToNat]
theorem qv2 (b:BB) (hl:b.length≤1000000):qlZ (b,())=some (rdM b):=by
 unfold qlZ
 unfold rdM
 rcases x9 (b:=b) (I:=0) (N:=4) (Nat.zero_le _) (by omega) with ⟨h2,h⟩ | ⟨h2,h,_⟩ | ⟨s,h4,h,hf,hs,_⟩
 ·replace h:z5 b 0 4=([],0,3,()):=h
  rw [h]
  exact (qC (lt_t (by simp only [len];omega))).trans rfl
 ·replace h:z5 b 0 4=([],0,2,()):=h
  rw [h]
  refine (qB (lt_f (by simp only [len];omega))).trans ?_
  refine (qF (jZ b 0 4 hl)).trans ?_
  rw [h]
  refine (qF (yH [] (by simp))).trans ?_
  rfl
 ·replace h:z5 b 0 4=(s,2,0,()):=h
  rw [h]
  refine (qB (lt_f (by simp only [len];omega))).trans ?_
  refine (qF (jZ b 0 4 hl)).trans ?_
  rw [h]
  refine (qF (yH s (by omega))).trans ?_
  rw [if_pos ⟨by omega,by omega,hf⟩,if_neg (by simp)]
  by_cases ht:xZ (val s:Int)
  ·refine (qF (a:=(false,())) ((qB rfl).trans ((qF (qdC _)).trans (by rw [D_t ht];rfl)))).trans ?_
   refine (qB rfl).trans ?_
   rw [if_pos ht]
   refine (qF (qv3 b 2 hl)).trans ?_
   by_cases h0:(bmR b 2).2.2.1=0
   ·refine (qB (by rw [kM h0];rfl)).trans ?_
    rw [if_neg (by simp [h0])]
    refine qOr (e1:=0) qb5 (b:=b) (fun n a=>qv4 n b a hl) qLH (fun _ _=>rfl) (fun x a i F => ?_) 0
    by_cases hi:i < (bmR b 2).1.length
    ·have hin:inB (i:Int) (len (bmR b 2).1)=true:=zF hi
     simp only [hin,ck_t];rfl
    ·refine (qB (lt_f (by simp only [len];omega))).trans (qB (lt_f (by simp only [len];omega))).symm
   ·refine (qC (by rw [vX h0];rfl)).trans ?_
    rw [if_pos h0];rfl
  ·refine (qF (a:=(true,())) ((qB rfl).trans ((qF (qdC _)).trans (by rw [D_f ht];rfl)))).trans ?_
   rw [if_neg ht];rfl
end Yp
namespace Yp
open Go
noncomputable def qIL     {α : Type} (c : Nat) (z : α) (x : List (List α) × Unit) : Option (List α × Unit) :=
  lc (loop (fun (x_1 : Int × Int × Unit) => sel (lt x_1.2.1 (len x.1)) (ck (inB x_1.2.1 (len x.1)) (sel (lt (i64 (iadd x_1.1 (len (nth x.1 (nat x_1.2.1) (none' α))))) 0) none
        (some (LS.nx (i64 (iadd x_1.1 (len (nth x.1 (nat x_1.2.1) (none' α)))), i64 (iadd x_1.2.1 1), ()))))) (some (LS.ex 0 (x_1.1, x_1.2.1, ())))) (0, 0, ()))
  (fun (a : Int × Int × Unit) => none)
  (fun (i : Nat) (a : Int × Int × Unit) => ck (neb i 0) (sel (lt a.1 0) none (sel (lt 0 (i64 (isub a.1 (i64 (isub 0 0))))) (ck (inC 0 0 0)
       (ck (band (le 0 (i64 (isub a.1 (i64 (isub 0 0))))) (rm c (nat (i64 (isub a.1 (i64 (isub 0 0))))))) (ck (inC 0 0 (len (rep (nat (i64 (isub a.1 (i64 (isub 0 0))))) z)))
         (lc (loop (fun (x_1 : List α × Int × Unit) => sel (lt x_1.2.1 (len x.1)) (ck (inB x_1.2.1 (len x.1)) (ck (rm c (nadd (ln x_1.1) (ln (nth x.1 (nat x_1.2.1) (none' α)))))
            (some (LS.nx (app x_1.1 (nth x.1 (nat x_1.2.1) (none' α)), i64 (iadd x_1.2.1 1), ()))))) (some (LS.ex 2 (x_1.1, x_1.2.1, ())))) (cut (rep (nat (i64 (isub a.1 (i64 (isub 0 0))))) z) (nat 0) (nsub (nat 0) (nat 0)), 0, ()))
          (fun (a : List α × Int × Unit) => none) (fun (i : Nat) (a : List α × Int × Unit) => ck (neb i 2) (some (a.1, ()))) fun (r : List α × Unit) => some r))))
      (lc (loop (fun (x_1 : List α × Int × Unit) => sel (lt x_1.2.1 (len x.1)) (ck (inB x_1.2.1 (len x.1)) (ck (rm c (nadd (ln x_1.1) (ln (nth x.1 (nat x_1.2.1) (none' α)))))
            (some (LS.nx (app x_1.1 (nth x.1 (nat x_1.2.1) (none' α)), i64 (iadd x_1.2.1 1), ()))))) (some (LS.ex 2 (x_1.1, x_1.2.1, ())))) (none' α, 0, ()))
       (fun (a : List α × Int × Unit) => none) (fun (i : Nat) (a : List α × Int × Unit) => ck (neb i 2) (some (a.1, ()))) fun (r : List α × Unit) => some r))))
  fun (r : List α × Unit) => some r
theorem qrH {α β σ ρ:Type} {mk:β→Nat→σ} {e:Nat} {step:β→α→LS β ρ} {g:β→α→β} (h:∀ b x,step b x = .nx (g b x)):∀ (l:List α) (b:β) (i:Nat),qbK mk e step b i l = .ex e (mk (l.foldl g b) (i+l.length))
 | [],b,i=>rfl
 | x :: r,b,i=>by
  simp only [qbK,h,List.foldl_cons,List.length_cons]
  rw [qrH h r (g b x) (i+1)]
  congr 2;omega
theorem qND {α:Type} (ls:List (List α)):∀ a:Int,ls.foldl (fun s x=>s+(x.length:Int)) a=a+(ls.flatten.length:Int):=by
 induction ls with
 | nil=>intro a;simp
 | cons x r ih=>intro a;rw [List.foldl_cons,ih];simp only [List.flatten_cons,List.length_append];omega
theorem qNE {α:Type} (ls:List (List α)):∀ a:List α,ls.foldl (fun s x=>s++x) a=a++ls.flatten:=by
 induction ls with
 | nil=>intro a;simp
 | cons x r ih=>intro a;rw [List.foldl_cons,ih];simp
theorem qsE {α:Type} {c:Nat} {z:α} (hc:c≤100000) (ls:List (List α)) (hl:ls.length≤100) (hx:∀ x∈ls,x.length≤1000000):qIL c z (ls,())=some (ls.flatten,()):=by
 unfold qIL
 generalize hf:(fun (x_1:Int×Int×Unit)=>_)=f
 generalize hg:(fun (x_1:List α×Int×Unit)=>(_:Option (LS (List α×Int×Unit) (List α×Unit))))=g
 have hmul:∀ n:Nat,n≤100000000→n*c≤140737488355328:=fun n hn=>Nat.le_trans (Nat.mul_le_mul hn hc) (by omega)
 have hlen:ls.flatten.length≤100000000:=by
  have:∀ ls:List (List α),(∀ x∈ls,x.length≤1000000)→ls.flatten.length≤1000000*ls.length:=by
   intro ls
   induction ls with
   | nil=>simp
   | cons x r ih =>
    intro h
    have h1:=h x (by simp)
    have h2:=ih fun u hu=>h u (by simp [hu])
    simp only [List.flatten_cons,List.length_append,List.length_cons];omega
  have:=this ls hx
  omega
 have key:=vI (f:=f) (ρ:=List α×Unit) ls (fun (s:Int) i=>(s,(i:Int),())) 0 (fun s x => .nx (s+(x.length:Int))) (fun s i=>0≤s∧s≤1000000*i) (fun s i h hI=>⟨?_,fun b' hb => ?_⟩) (fun s _ => ?_) 0 (by simp)
 ·rw [qrH (g:=fun (s:Int) (x:List α)=>s+(x.length:Int)) (fun _ _=>rfl),qND,Int.zero_add] at key
  replace key:loop f (0,0,())=_:=key
  have key2:=vI (f:=g) (ρ:=List α×Unit) ls (fun (s:List α) i=>(s,(i:Int),())) 2 (fun s x => .nx (s++x)) (fun s i=>s.length≤1000000*i) (fun s i h hI=>⟨?_,fun b' hb => ?_⟩) (fun s _ => ?_) [] (by simp)
  ·rw [qrH (g:=fun (s:List α) (x:List α)=>s++x) (fun _ _=>rfl),qNE,List.nil_append] at key2
   replace key2:loop g ([],0,())=_:=key2
   refine (zC key).trans (qKd.trans ((qH g62).trans ((qB (by simp (disch:=omega) only [go_sem,Int.reduceToNat];omega)).trans ?_)))
   by_cases h0:0 < ls.flatten.length
   ·refine (qC (by simp (disch:=first | assumption | omega | (dsimp only;omega) | decide) only [go_sem,Int.reduceToNat];omega)).trans ((qH (by simp (disch:=first | assumption | omega | (dsimp only;omega) | decide) only [go_sem,Int.reduceToNat];decide)).trans ?_)
    have hrep:∀ (n:Nat) (a:α),(rep n a).length=n:=fun n a=>by simp [rep]
    have h5:i64 (isub (ls.flatten.length:Int) (i64 (isub 0 0)))=(ls.flatten.length:Int):=by simp (disch:=first | assumption | omega | (dsimp only;omega) | decide) only [go_sem,Int.reduceToNat];omega
    simp only [h5]
    have hm:=hmul _ hlen
    refine (qH (by simp (disch:=omega) only [go_sem,Int.reduceToNat];exact ⟨by omega,hm⟩)).trans ((qH (by simp (disch:=omega) only [go_sem,Int.reduceToNat,hrep];exact ⟨by omega,by omega,by omega⟩)).trans ?_)
    have hcut:cut (rep (nat (ls.flatten.length:Int)) z) (nat 0) (nsub (nat 0) (nat 0))=[]:=by simp [cut,nat,nsub]
    rw [hcut]
    refine (zC key2).trans ?_
    simp (disch:=first | assumption | omega | (dsimp only;omega) | decide) only [go_sem,Int.reduceToNat]
   ·refine (qB (by simp (disch:=first | assumption | omega | (dsimp only;omega) | decide) only [go_sem,Int.reduceToNat];omega)).trans ((zC key2).trans ?_)
    simp (disch:=first | assumption | omega | (dsimp only;omega) | decide) only [go_sem,Int.reduceToNat]
  ·subst hg
   have h2:=hx ls[i] (List.getElem_mem h)
   have hm:=hmul (s.length+(ls[i]).length) (by omega)
   simp (disch:=omega) only [go_sem,Int.reduceToNat,qbX]
  ·cases hb
   have h2:=hx ls[i] (List.getElem_mem h)
   rw [List.length_append];omega
  ·subst hg;simp (disch:=omega) only [go_sem,Int.reduceToNat]
 ·subst hf
  have h2:=hx ls[i] (List.getElem_mem h)
  simp (disch:=omega) only [go_sem,Int.reduceToNat,qbX]
 ·cases hb
  have h2:=hx ls[i] (List.getElem_mem h)
  omega
 ·subst hf;simp (disch:=omega) only [go_sem,Int.reduceToNat]
end Yp
namespace Yp
open Go
theorem qJt (ls:List (List V)) (hl:ls.length≤100) (hx:∀ x∈ls,x.length≤1000000):zK (ls,())=some (ls.flatten,()) :=
 (show zK (ls,())=qIL 56 (0,none' UInt8,()) (ls,()) from rfl).trans (qsE (by omega) ls hl hx)
def yQ (no:Int):List V→Nat
 | []=>0
 | v :: r=>if no≤v.1 then 0 else yQ no r+1
def hasI (no:Int):List V→Bool
 | []=>false
 | v :: r=>if no≤v.1 then decide (v.1=no) else hasI no r
theorem qCj (no:Int):∀ l:List V,yQ no l≤l.length
 | []=>Nat.le_refl _
 | v :: r=>by
  unfold yQ
  split
  ·exact Nat.zero_le _
  ·have:=qCj no r
   simp only [List.length_cons];omega
theorem qIB {no:Int}:∀ {l:List V},hasI no l=true→∃ h:yQ no l < l.length,(l[yQ no l]).1=no
 | [],h=>by cases h
 | v :: r,h=>by
  unfold hasI at h
  by_cases hc:no≤v.1
  ·rw [if_pos hc] at h
   have:yQ no (v :: r)=0:=by unfold yQ;rw [if_pos hc]
   simp only [this]
   exact ⟨by simp,by simpa using h⟩
  ·rw [if_neg hc] at h
   obtain ⟨h1,h2⟩:=qIB h
   have:yQ no (v :: r)=yQ no r+1:=by conv=>{ lhs;unfold yQ }; rw [if_neg hc]
   simp only [this]
   exact ⟨by simp;omega,by simpa using h2⟩
theorem qNJ (l:List V) (no:Int) (hl:l.length≤1000000):j5 ((l,1,()),no,())=some ((yQ no l:Int),hasI no l,()):=by
 unfold j5
 generalize hf:(fun (x_1:Int×Bool×Int×Unit)=>_)=f
 have key:∀ (r:List V) (i:Nat),l.drop i=r→i≤l.length→loop f (0,false,(i:Int),())=if i+yQ no r < l.length then some (.rt (((i+yQ no r:Nat):Int),hasI no r,())) else some (.ex 0 (0,false,(l.length:Int),())):=by
  intro r
  induction r with
  | nil =>
   intro i hr hi
   have hl':=congrArg List.length hr
   rw [List.length_drop,List.length_nil] at hl'
   have:i=l.length:=by omega
   subst this
   rw [if_neg (by simp [yQ])]
   refine qV ?_
   subst hf;simp (disch:=omega) only [go_sem,Int.reduceToNat]
  | cons v r ih =>
   intro i hr hi
   have hl':=congrArg List.length hr
   rw [List.length_drop,List.length_cons] at hl'
   have hlt:i < l.length:=by omega
   rw [List.drop_eq_getElem_cons hlt] at hr
   obtain ⟨hv,hr'⟩:=List.cons.inj hr
   have hp:qbJ (v,())=some (v.1,()):=rfl
   by_cases hc:no≤v.1
   ·have h0:yQ no (v :: r)=0:=by unfold yQ;rw [if_pos hc]
    have h1:hasI no (v :: r)=D (v.1=no):=by unfold hasI;rw [if_pos hc];exact g51
    rw [h0,h1,if_pos (by omega)]
    refine qeY ?_
    subst hf;simp (disch:=omega) only [go_sem,Int.reduceToNat,hv,hp,Int.add_zero]
   ·have h0:yQ no (v :: r)=yQ no r+1:=by conv=>{ lhs;unfold yQ }; rw [if_neg hc]
    have h1:hasI no (v :: r)=hasI no r:=by conv=>{ lhs;unfold hasI }; rw [if_neg hc]
    rw [h0,h1]
    refine (vW (y:=(0,false,((i+1:Nat):Int),())) ?_).trans ((ih (i+1) hr' hlt).trans ?_)
    ·subst hf;simp (disch:=omega) only [go_sem,Int.reduceToNat,hv,hp]
    ·rw [show i+1+yQ no r=i+(yQ no r+1) by omega]
 have k0:=key l 0 rfl (Nat.zero_le _)
 rw [Nat.zero_add] at k0
 refine (zC k0).trans ?_
 by_cases hlt:yQ no l < l.length
 ·rw [if_pos hlt];rfl
 ·rw [if_neg hlt]
  have he:=qCj no l
  have:yQ no l=l.length:=by omega
  have hn:hasI no l=false:=(Bool.not_eq_true _).mp fun h=>hlt (qIB h).1
  rw [this,hn];rfl
def qLN (l:List V) (x:V):List V:=l.take (yQ x.1 l)++(x :: l.drop (if hasI x.1 l=true then yQ x.1 l+1 else yQ x.1 l))
theorem qL0 {α:Type} {l:List α} {n:Nat}:sub l 0 (n:Int)=l.take n:=by simp [sub]
theorem qLZ {α:Type} {l:List α} {n:Nat}:sub l (n:Int) (len l)=l.drop n:=by
 simp only [sub,len,Int.toNat_natCast];rw [List.take_of_length_le (by rw [List.length_drop];omega)]
theorem qLM (l:List V) (x:V) (hl:l.length≤100000):j3 ((l,1,()),x,())=some (qLN l x,()):=by
 unfold j3
 refine (qH g62).trans ((qF (show qbJ (x,())=some (x.1,()) from rfl)).trans ((qF (qNJ l x.1 (by omega))).trans ?_))
 have hle:=qCj x.1 l
 have hc:∀ n:Nat,zK ([l.take (yQ x.1 l),[x],l.drop n],())=some (l.take (yQ x.1 l)++(x :: l.drop n),()):=fun n=>by
  rw [qJt _ (by simp) (fun y hy=>by
   simp only [List.mem_cons,List.not_mem_nil,or_false] at hy
   rcases hy with rfl | rfl | rfl
   ·have:=List.length_take_le' (yQ x.1 l) l;omega
   ·simp
   ·rw [List.length_drop];omega)]
  simp
 unfold qLN
 cases h:hasI x.1 l
 ·refine (qF (qB rfl)).trans ?_
  refine (qH (by simp only [go_sem,Int.reduceToNat];omega)).trans ((qH (by simp only [go_sem,Int.reduceToNat];omega)).trans ?_)
  simp only [qL0,qLZ]
  exact (qF (hc _)).trans rfl
 ·obtain ⟨h1,h2⟩:=qIB h
  have e:i64 (iadd (yQ x.1 l:Int) 1)=((yQ x.1 l+1:Nat):Int):=zS (b:=1) (by omega)
  refine (qF (qC rfl)).trans ?_
  simp only [e]
  refine (qH (by simp only [go_sem,Int.reduceToNat];omega)).trans ((qH (by simp only [go_sem,Int.reduceToNat];omega)).trans ?_)
  simp only [qL0,qLZ]
  exact (qF (hc _)).trans rfl
def qPY (m:M) (no:Int) (v:BB):M×Int×Unit:=if zJ no=none then (m,12,()) else if vL no v=true then ((m.1,qLN m.2.1 (no,v,()),()),0,()) else (m,1,())
theorem qFz (m:M) (no:Int) (v:BB) (hl:m.2.1.length≤100000) (hv:v.length≤1000000):vD (m,no,v,())=some (qPY m no v):=by
 unfold vD qPY
 refine (qF (qhQ no)).trans ?_
 rw [qQT]
 cases ho:zJ no with
 | none=>rfl
 | some p =>
  rw [if_neg (by simp)]
  refine (qB rfl).trans ((qF (qdS no v hv)).trans ?_)
  cases hf:vL no v
  ·rfl
  ·exact (qB rfl).trans ((qF (show qrE (m,())=some ((m.2.1,1,()),()) from rfl)).trans ((qF (qLM m.2.1 (no,v,()) hl)).trans rfl))
def getR (no:Int):List V→BB×Bool×Unit
 | []=>([],false,())
 | v :: r=>if v.1=no then (v.2.1,true,()) else getR no r
def qAr (no:Int) (_:Unit) (v:V):LS Unit (BB×Bool×Unit):=if v.1=no then .rt (v.2.1,true,()) else .nx ()
theorem qKm {σ:Type} {mk:Unit→Nat→σ} {e:Nat} {no:Int}:∀ (l:List V) (i:Nat),∃ j,qbK mk e (qAr no) () i l=if (getR no l).2.1=true then .rt (getR no l) else .ex e (mk () j)
 | [],i=>⟨i,rfl⟩
 | v :: r,i=>by
  by_cases h:v.1=no
  ·have hs:qAr no () v = .rt (v.2.1,true,()):=if_pos h
   have hg:getR no (v :: r)=(v.2.1,true,()):=by unfold getR;rw [if_pos h]
   exact ⟨0,by simp only [qbK,hs,hg,if_pos]⟩
  ·have hs:qAr no () v = .nx ():=if_neg h
   have hg:getR no (v :: r)=getR no r:=by conv=>{ lhs;unfold getR }; rw [if_neg h]
   obtain ⟨j,hj⟩:=qKm (mk:=mk) (e:=e) (no:=no) r (i+1)
   exact ⟨j,by simp only [qbK,hs,hg];exact hj⟩
theorem qFK {no:Int}:∀ {l:List V},(getR no l).2.1=false→getR no l=([],false,())
 | [],_=>rfl
 | v :: r,h=>by
  unfold getR at h ⊢
  split
  ·rename_i hc;rw [if_pos hc] at h;cases h
  ·rename_i hc;rw [if_neg hc] at h;exact qFK h
theorem qmZ (m:M) (no:Int) (hl:m.2.1.length≤1000000):qdD (m,no,())=some (getR no m.2.1):=by
 unfold qdD
 generalize hf:(fun (x_1:Bool×Int×Unit)=>_)=f
 have key:=vI (f:=f) m.2.1 (fun (_:Unit) i=>(false,(i:Int),())) 0 (qAr no) (fun _ _=>True) (fun _ i h _=>⟨?_,fun _ _=>trivial⟩) (fun _ _ => ?_) () trivial
 ·refine (zC key).trans ?_
  obtain ⟨j,hj⟩:=qKm (mk:=fun _ i=>((false,(i:Int),()):Bool×Int×Unit)) (e:=0) (no:=no) m.2.1 0
  rw [hj]
  cases h:(getR no m.2.1).2.1
  ·rw [qFK h];rfl
  ·rfl
 ·subst hf
  by_cases h1:(m.2.1[i]).1=no
  ·have hs:qAr no () m.2.1[i] = .rt (m.2.1[i].2.1,true,()):=if_pos h1
   simp (disch:=omega) only [go_sem,Int.reduceToNat,hs,qbX]
  ·have hs:qAr no () m.2.1[i] = .nx ():=if_neg h1
   simp (disch:=omega) only [go_sem,Int.reduceToNat,hs,qbX]
 ·subst hf;simp (disch:=omega) only [go_sem,Int.reduceToNat]
end Yp
namespace Yp
open Go
set_option linter.unusedVariables false
set_option linter.unusedSimpArgs false
def dg (n:Int) (w:Nat):BB:=ps 10 dch n.toNat w
theorem j8 {n:Int} {w:Nat}:(dg n w).length=w:=zP _ _ _ _
theorem qII {n:Int} {w:Nat}:figs (dg n w):=qnX
theorem qSr    {n : Int} {w : Nat} (h0 : 0 ≤ n) (h : n < 10 ^ w) : (val (dg n w) : Int) = n := by
  unfold dg
  rw [qLQ   , Nat.mod_eq_of_lt (by have : ((n.toNat : Nat) : Int) < ((10 ^ w : Nat) : Int) := by rw [Int.toNat_of_nonneg h0]; push_cast; exact h
                                   exact Int.ofNat_lt.1 this)]
  omega
theorem xR {n:Int} {w:Nat} (h1:1≤w) (h2:w≤18) (h0:0≤n) (h:n < 10 ^ w) (h64:n≤9223372036854775807):z8 (n,(w:Int),())=some (dg n w,()):=by
 unfold z8
 rw [qdV _ _ h64,if_pos ⟨show (1:Int)≤(w:Int) by omega,show (w:Int)≤18 by omega,h0,by simpa using h⟩]
 show ck (rm 1 (ln (dg n w))) _=_
 simp (disch:=omega) only [go_sem,Int.reduceToNat,j8]
 rfl
theorem jY {n:Int} {w:Nat} (h1:1≤w) (h2:w≤18) (h0:0≤n) (h:n < 10 ^ w) (h64:n≤9223372036854775807):q9 (n,(w:Int),())=some (dg n w,()):=by
 unfold q9
 rw [qaQ _ _ h64,if_pos ⟨show (1:Int)≤(w:Int) by omega,show (w:Int)≤18 by omega,h0,by simpa using h⟩]
 show ck (rm 1 (ln (dg n w))) _=_
 simp (disch:=omega) only [go_sem,Int.reduceToNat,j8]
 rfl
def msgN (n:N):M :=
 if n.1=false then (810,[(11,dg n.2.2.1 6,()),(39,dg n.2.2.2.1 2,()),(70,dg n.2.1 3,())],())
 else if n.2.1=101 then (800,[(11,dg n.2.2.1 6,()),(48,jH n.2.2.2.2.2.2.1,()),(53,dg n.2.2.2.2.1 16,()),(70,dg n.2.1 3,()),(96,n.2.2.2.2.2.1,())],())
 else if n.2.1=201 then (800,[(11,dg n.2.2.1 6,()),(15,dg n.2.2.2.2.2.2.2.1 6,()),(70,dg n.2.1 3,())],())
 else (800,[(11,dg n.2.2.1 6,()),(70,dg n.2.1 3,())],())
theorem qe2 {no k:Int} {w:Nat} (h:zJ no=some (k,(w:Int))) (hw:1≤w) {n:Int}:vL no (dg n w)=true:=by
 unfold vL
 rw [h]
 refine decide_eq_true ⟨⟨fun _=>qII,fun _=>qmE qII⟩, ?_⟩
 unfold fln
 rw [j8]
 split <;> omega
theorem fo11:zJ 11=some (1,6):=by decide
theorem fo15:zJ 15=some (1,6):=by decide
theorem fo39:zJ 39=some (3,2):=by decide
theorem fo48:zJ 48=some (5,400):=by decide
theorem fo53:zJ 53=some (1,16):=by decide
theorem fo70:zJ 70=some (1,3):=by decide
theorem fo96:zJ 96=some (6,8):=by decide
theorem qPC {v:BB} (h:v.length=8):vL 96 v=true:=by
 unfold vL
 rw [fo96]
 refine decide_eq_true ⟨⟨fun h=>by omega,fun h=>by omega⟩, ?_⟩
 unfold fln
 rw [if_pos (by omega),h];rfl
theorem qQn {t:Int} {l:List V} {no:Int} {v:BB} (hl:l.length≤100) (hv:v.length≤1000) (hf:vL no v=true):vD ((t,l,()),no,v,())=some ((t,qLN l (no,v,()),()),0,()):=by
 rw [qFz (t,l,()) no v (show l.length≤100000 by omega) (by omega)]
 obtain ⟨k,m,hk,_⟩:=qbL.1 hf
 unfold qPY
 rw [if_neg (by rw [hk];simp),if_pos hf]
theorem qM2:∀ k:Nat,k < 16→32≤(nib k).toNat∧(nib k).toNat≤126:=by decide
theorem qNt {b:BB} {c:UInt8} (h:c∈jH b):32≤c.toNat∧c.toNat≤126:=by
 unfold jH at h
 obtain ⟨x,_,hc⟩:=List.mem_flatMap.1 h
 have hx:=x.toNat_lt
 simp only [List.mem_cons,List.not_mem_nil,or_false] at hc
 rcases hc with rfl | rfl
 ·exact qM2 _ (by omega)
 ·exact qM2 _ (by omega)
theorem qNs {b:BB}:rng 32 126 (jH b):=by
 intro i h
 have:=qNt (List.getElem_mem h)
 rw [qFm];omega
theorem qPD {b:BB} (h:b.length=3):vL 48 (jH b)=true:=by
 unfold vL
 rw [fo48]
 refine decide_eq_true ⟨⟨fun h=>by omega,fun _=>qNs⟩, ?_⟩
 unfold fln
 rw [zY,h];decide
theorem setc {t:Int} {l l':List V} {no:Int} {v:BB} (hl:l.length≤100) (hv:v.length≤1000) (hf:vL no v=true) (hw:qLN l (no,v,())=l'):vD ((t,l,()),no,v,())=some ((t,l',()),0,()):=by rw [← hw];exact qQn hl hv hf
theorem qrA {n:N} (hr:jE n):qeB (n,())=some (msgN n,()):=by
 obtain ⟨rq,c,st,rs,g,no,k,d,⟨⟩⟩:=n
 have hr':=jM.1 hr
 obtain ⟨hc,s1,s2,r1,r2,r3,hk⟩:=hr'
 have hc0:0≤c∧c≤301:=by unfold y5 at hc;omega
 have e11:z8 (st,6,())=some (dg st 6,()):=xR (n:=st) (w:=6) (by omega) (by omega) (by omega) (by omega) (by omega)
 have e70:z8 (c,3,())=some (dg c 3,()):=xR (n:=c) (w:=3) (by omega) (by omega) (by omega) (by omega) (by omega)
 have e39:z8 (rs,2,())=some (dg rs 2,()):=xR (n:=rs) (w:=2) (by omega) (by omega) (by omega) (by omega) (by omega)
 have f11:=fun n=>qe2 (no:=11) (w:=6) (n:=n) fo11 (by omega)
 have f15:=fun n=>qe2 (no:=15) (w:=6) (n:=n) fo15 (by omega)
 have f39:=fun n=>qe2 (no:=39) (w:=2) (n:=n) fo39 (by omega)
 have f53:=fun n=>qe2 (no:=53) (w:=16) (n:=n) fo53 (by omega)
 have f70:=fun n=>qe2 (no:=70) (w:=3) (n:=n) fo70 (by omega)
 have len:∀ {n:Int} {w:Nat},w≤20→(dg n w).length≤1000:=fun h=>by rw [j8];omega
 have t1:vD ((810,([]:List V),()),11,dg st 6,())=some ((810,[(11,dg st 6,())],()),0,()):=setc (l:=[]) (by decide) (len (by omega)) (f11 st) rfl
 have t2:vD ((810,[(11,dg st 6,())],()),70,dg c 3,())=some ((810,[(11,dg st 6,()),(70,dg c 3,())],()),0,()):=setc (by simp) (len (by omega)) (f70 c) rfl
 unfold qeB
 cases rq
 ·have t3:vD ((810,[(11,dg st 6,()),(70,dg c 3,())],()),39,dg rs 2,())=some ((810,[(11,dg st 6,()),(39,dg rs 2,()),(70,dg c 3,())],()),0,()):=setc (by simp) (len (by omega)) (f39 rs) rfl
  simp only [go_sem,Int.reduceToNat,e11,e70,e39,t1,t2,t3]
  rfl
 ·by_cases h1:c=101
  ·subst h1
   rw [if_pos ⟨rfl,rfl⟩] at hk
   obtain ⟨g1,g2,hn,hkc,hd⟩:=hk
   have e53:z8 (g,16,())=some (dg g 16,()):=xR (n:=g) (w:=16) (by omega) (by omega) (by omega) (by omega) (by omega)
   have ex:=qFU k (by omega)
   have hxl:(jH k).length=6:=by rw [zY,hkc]
   have t3:vD ((800,[(11,dg st 6,()),(70,dg 101 3,())],()),48,jH k,())=some ((800,[(11,dg st 6,()),(48,jH k,()),(70,dg 101 3,())],()),0,()):=setc (by simp) (by omega) (qPD hkc) rfl
   have t4:vD ((800,[(11,dg st 6,()),(48,jH k,()),(70,dg 101 3,())],()),53,dg g 16,())=some ((800,[(11,dg st 6,()),(48,jH k,()),(53,dg g 16,()),(70,dg 101 3,())],()),0,()):=setc (by simp) (len (by omega)) (f53 g) rfl
   have t5:vD ((800,[(11,dg st 6,()),(48,jH k,()),(53,dg g 16,()),(70,dg 101 3,())],()),96,no,())=some ((800,[(11,dg st 6,()),(48,jH k,()),(53,dg g 16,()),(70,dg 101 3,()),(96,no,())],()),0,()):=setc (by simp) (by omega) (qPC hn) rfl
   simp (disch:=omega) only [go_sem,Int.reduceToNat,e11,e70,e39,e53,ex,t1,t2,t3,t4,t5,hxl]
   rfl
  ·by_cases h2:c=201
   ·subst h2
    rw [if_neg (by omega),if_pos ⟨rfl,rfl⟩] at hk
    obtain ⟨_,_,_,d1,d2⟩:=hk
    have e15:z8 (d,6,())=some (dg d 6,()):=xR (n:=d) (w:=6) (by omega) (by omega) (by omega) (by omega) (by omega)
    have t3:vD ((800,[(11,dg st 6,()),(70,dg 201 3,())],()),15,dg d 6,())=some ((800,[(11,dg st 6,()),(15,dg d 6,()),(70,dg 201 3,())],()),0,()):=setc (by simp) (len (by omega)) (f15 d) rfl
    simp (disch:=omega) only [go_sem,Int.reduceToNat,e11,e70,e39,e15,t1,t2,t3]
    rfl
   ·simp only [go_sem,Int.reduceToNat,e11,e70,e39,t1,t2,h1,h2,D_f h1,D_f h2]
    show _=some (if true=false then _ else if c=101 then _ else if c=201 then _ else _,())
    rw [if_neg (by decide),if_neg h1,if_neg h2]
theorem qoU {n:N} (hr:jE n):qb4 (n,())=some (msgN n,()):=by
 obtain ⟨rq,c,st,rs,g,no,k,d,⟨⟩⟩:=n
 have hr':=jM.1 hr
 obtain ⟨hc,s1,s2,r1,r2,r3,hk⟩:=hr'
 have hc0:0≤c∧c≤301:=by unfold y5 at hc;omega
 have e11:q9 (st,6,())=some (dg st 6,()):=jY (n:=st) (w:=6) (by omega) (by omega) (by omega) (by omega) (by omega)
 have e70:q9 (c,3,())=some (dg c 3,()):=jY (n:=c) (w:=3) (by omega) (by omega) (by omega) (by omega) (by omega)
 have e39:q9 (rs,2,())=some (dg rs 2,()):=jY (n:=rs) (w:=2) (by omega) (by omega) (by omega) (by omega) (by omega)
 unfold qb4
 cases rq
 ·simp (disch:=omega) only [go_sem,Int.reduceToNat,e11,e70,e39,List.length_cons,List.length_nil,List.length_append]
  rfl
 ·by_cases h1:c=101
  ·subst h1
   rw [if_pos ⟨rfl,rfl⟩] at hk
   obtain ⟨g1,g2,hn,hkc,hd⟩:=hk
   have e53:q9 (g,16,())=some (dg g 16,()):=jY (n:=g) (w:=16) (by omega) (by omega) (by omega) (by omega) (by omega)
   have ex:=qy9 k (by omega)
   have hxl:(jH k).length=6:=by rw [zY,hkc]
   simp (disch:=omega) only [go_sem,Int.reduceToNat,e11,e70,e39,e53,ex,hxl,List.length_cons,List.length_nil,List.length_append]
   rfl
  ·by_cases h2:c=201
   ·subst h2
    rw [if_neg (by omega),if_pos ⟨rfl,rfl⟩] at hk
    obtain ⟨_,_,_,d1,d2⟩:=hk
    have e15:q9 (d,6,())=some (dg d 6,()):=jY (n:=d) (w:=6) (by omega) (by omega) (by omega) (by omega) (by omega)
    simp (disch:=omega) only [go_sem,Int.reduceToNat,e11,e70,e39,e15,List.length_cons,List.length_nil,List.length_append]
    rfl
   ·simp (disch:=omega) only [go_sem,Int.reduceToNat,e11,e70,e39,h1,h2,D_f h1,D_f h2,List.length_cons,List.length_nil,List.length_append]
    show _=some (if true=false then _ else if c=101 then _ else if c=201 then _ else _,())
    rw [if_neg (by decide),if_neg h1,if_neg h2]
    rfl
end Yp
namespace Yp
open Go
theorem qAb:∀ {a b:List Int},a.Pairwise (· < ·)→b.Pairwise (· < ·)→(∀ n,n∈a↔n∈b)→a=b
 | [],[],_,_,_=>rfl
 | [],y :: b,_,_,h=>by have:=(h y).2 (by simp);cases this
 | x :: a,[],_,_,h=>by have:=(h x).1 (by simp);cases this
 | x :: a,y :: b,ha,hb,h=>by
  rw [List.pairwise_cons] at ha hb
  have hxy:x=y:=by
   have h1:=(h x).1 (by simp)
   have h2:=(h y).2 (by simp)
   rcases List.mem_cons.1 h1 with h1 | h1
   ·exact h1
   ·rcases List.mem_cons.1 h2 with h2 | h2
    ·exact h2.symm
    ·have:=hb.1 x h1
     have:=ha.1 y h2
     omega
  subst hxy
  rw [qAb ha.2 hb.2 fun n => ?_]
  have:=h n
  simp only [List.mem_cons] at this
  constructor
  ·intro hn
   rcases this.1 (.inr hn) with rfl | h1
   ·have:=ha.1 n hn;omega
   ·exact h1
  ·intro hn
   rcases this.2 (.inr hn) with rfl | h1
   ·have:=hb.1 n hn;omega
   ·exact h1
theorem qoR {l:List Int}:∀ {last:Int},jD last l=true→l.Pairwise (· < ·):=by
 induction l with
 | nil=>intros;exact List.Pairwise.nil
 | cons x r ih =>
  intro last h
  have hm:=h
  simp only [jD,Bool.and_eq_true,decide_eq_true_eq] at h
  exact List.pairwise_cons.2 ⟨fun y hy=>(vT h.2 y hy).1,ih h.2⟩
theorem qMn {l:List Int}:∀ {last:Int},l.Pairwise (· < ·)→(∀ n∈l,last < n∧n≤128∧n≠65)→jD last l=true:=by
 induction l with
 | nil=>intros;rfl
 | cons x r ih =>
  intro last hp h
  rw [List.pairwise_cons] at hp
  simp only [jD,Bool.and_eq_true,decide_eq_true_eq]
  refine ⟨h x (by simp),ih hp.2 fun n hn=>⟨hp.1 n hn,(h n (by simp [hn])).2⟩⟩
theorem qr8 (c:BB):((qeW c).map Int.ofNat).Pairwise (· < ·):=by
 rw [List.pairwise_map]
 refine List.Pairwise.imp ?_ (show (qeW c).Pairwise (· < ·) from List.Pairwise.filter _ List.pairwise_lt_range)
 intro a b h;exact Int.ofNat_lt.2 h
theorem qdJ {c:BB} {n:Nat}:n∈qeW c↔n≤8*c.length∧2≤n∧hasB c n=true:=by
 unfold qeW
 rw [List.mem_filter,List.mem_range,Bool.and_eq_true]
 constructor
 ·rintro ⟨h1,h2,h3⟩;exact ⟨by omega,Nat.le_of_ble_eq_true h2,h3⟩
 ·rintro ⟨h1,h2,h3⟩;exact ⟨by omega,Nat.ble_eq_true_of_le h2,h3⟩
theorem qC4 {l:List Int} (h:jD 1 l=true) {n:Nat} (h1:1≤n) (h2:n≤8*(bmW l).length):hasB (bmW l) n=(decide ((n:Int)∈l) || (Nat.beq n 1 && qeK l)):=by
 rw [kL] at h2
 unfold bmW
 cases hw:qeK l
 ·rw [hw] at h2
  rw [if_neg (by simp)] at h2 ⊢
  rw [qkJ h1 h2,Bool.and_false,Bool.or_false];rfl
 ·rw [hw] at h2
  rw [if_pos rfl] at h2 ⊢
  rw [qkJ h1 h2,Bool.and_true]
  unfold memI
  refine Bool.eq_iff_iff.2 ?_
  simp only [Bool.or_eq_true,decide_eq_true_eq,List.mem_cons,Nat.beq_eq]
  rw [or_comm]
  refine or_congr Iff.rfl ?_
  omega
theorem qOD {l:List Int} (h:jD 1 l=true):(qeW (bmW l)).map Int.ofNat=l:=by
 refine qAb (qr8 _) (qoR h) fun n => ?_
 rw [List.mem_map]
 have hm:=vT h
 constructor
 ·rintro ⟨k,hk,rfl⟩
  obtain ⟨h1,h2,h3⟩:=qdJ.1 hk
  rw [qC4 h (by omega) h1] at h3
  have:Nat.beq k 1=false:=(Bool.not_eq_true _).mp fun hb=>by have:=Nat.eq_of_beq_eq_true hb;omega
  rw [this,Bool.false_and,Bool.or_false,decide_eq_true_eq] at h3
  exact h3
 ·intro hn
  have hb:=hm n hn
  refine ⟨n.toNat,qdJ.2 ⟨?_,by omega, ?_⟩,by simp;omega⟩
  ·rw [kL]
   split
   ·omega
   ·rename_i hw
    have:=qo5 h hw n hn
    omega
  ·rw [qC4 h (by omega) (by
    rw [kL]
    split
    ·omega
    ·rename_i hw
     have:=qo5 h hw n hn
     omega)]
   rw [Int.toNat_of_nonneg (by omega),decide_eq_true hn,Bool.true_or]
theorem qC3 (l:List Int):8≤(bmW l).length∧(bmW l).length≤16:=by rw [kL];split <;> omega
theorem qQ4 {l:List Int} (h:jD 1 l=true):hasB (bmW l) 1=qeK l:=by
 rw [qC4 h (by omega) (by have:=qC3 l;omega)]
 have:decide (((1:Nat):Int)∈l)=false:=decide_eq_false fun hc=>by have:=(vT h _ hc).1;omega
 rw [this];rfl
theorem qJx {l:List Int} (h:jD 1 l=true):qeK l=true↔∃ n∈l,64 < n:=by
 constructor
 ·intro hw
  unfold qeK at hw
  rw [Bool.and_eq_true,decide_eq_true_eq,decide_eq_true_eq] at hw
  exact ⟨_,by rw [qL (show l.length - 1 < l.length by omega)];exact List.getElem_mem _,hw.2⟩
 ·rintro ⟨n,hn,h1⟩
  refine Classical.byContradiction fun hw => ?_
  have:=qo5 h hw n hn
  omega
theorem qQ7 {l:List Int} {c q:BB} {a:Int} (h:jD 1 l=true) (hc:c=bmW l++q):bmC c a=(l,a+((bmW l).length:Int),0,()):=by
 have h8:=qC3 l
 have hcl:c.length=(bmW l).length+q.length:=by rw [hc,List.length_append]
 have ht:c.take (bmW l).length=bmW l:=by rw [hc,List.take_left]
 have h1:hasB c 1=qeK l:=by
  rw [← qQ4 h,← ht]
  exact (qwY (by omega) (by omega) (by omega)).symm
 have hn:=qOD h
 have hbl:=kL l
 unfold bmC
 rw [h1]
 cases hw:qeK l
 ·rw [hw,if_neg (by simp)] at hbl
  rw [hbl] at ht hcl ⊢
  rw [if_neg (by simp;omega),if_neg (by simp),ht,hn];rfl
 ·rw [hw,if_pos rfl] at hbl
  rw [hbl] at ht hcl ⊢
  rw [if_neg (by simp;omega),if_pos rfl,ht,hn,if_neg]
  ·rfl
  ·rintro (hc65 | hall)
   ·have:((65:Nat):Int)∈l:=by rw [← hn];exact List.mem_map.2 ⟨65,hc65,rfl⟩
    have:=(vT h _ this).2.2
    exact this rfl
   ·obtain ⟨n,hn1,hn2⟩:=(qJx h).1 hw
    have hb:=vT h n hn1
    rw [← hn] at hn1
    obtain ⟨k,hk,rfl⟩:=List.mem_map.1 hn1
    have:=hall k hk
    simp at hn2 hb;omega
theorem qQ5 {l:List Int} {b q:BB} {A:Nat} (h:jD 1 l=true) (hA:A≤b.length) (hb:b.drop A=bmW l++q):bmR b A=(l,((A+(bmW l).length:Nat):Int),0,()):=by
 unfold bmR
 rw [if_neg (by omega),Int.toNat_natCast,qQ7 h hb,Int.natCast_add]
theorem qQ6 {c:BB} {a a':Int} {l:List Int} (h:bmC c a=(l,a',0,())):jD 1 l=true∧a'=a+((bmW l).length:Int)∧(bmW l).length≤c.length∧c=bmW l++c.drop (bmW l).length:=by
 unfold bmC at h
 by_cases h0:c.length < 8∨(hasB c 1=true∧c.length < 16)
 ·rw [if_pos h0] at h;simp at h
 rw [if_neg h0] at h
 have main:∀ size:Nat,size=8∨size=16→size≤c.length→(hasB c 1=true↔size=16)→l=(qeW (c.take size)).map Int.ofNat→(size=16→¬ (65∈qeW (c.take 16)∨∀ n∈qeW (c.take 16),n < 65))→jD 1 l=true∧bmW l=c.take size:=by
  intro size hs hsc h1 hl h65
  have htl:(c.take size).length=size:=by rw [List.length_take];omega
  have hr:jD 1 l=true:=by
   rw [hl]
   refine qMn (qr8 _) fun n hn => ?_
   obtain ⟨k,hk,rfl⟩:=List.mem_map.1 hn
   obtain ⟨k1,k2,k3⟩:=qdJ.1 hk
   rw [htl] at k1
   refine ⟨by simp;omega,by simp;omega,fun hc => ?_⟩
   have hk65:k=65:=by simp at hc;omega
   subst hk65
   have h16:size=16:=by omega
   subst h16
   exact h65 rfl (.inl hk)
  have hw:qeK l=true↔size=16:=by
   rw [qJx hr,hl]
   constructor
   ·rintro ⟨n,hn,h1⟩
    obtain ⟨k,hk,rfl⟩:=List.mem_map.1 hn
    obtain ⟨k1,_⟩:=qdJ.1 hk
    rw [htl] at k1
    simp at h1;omega
   ·intro h16
    subst h16
    refine Classical.byContradiction fun hc=>h65 rfl (.inr fun n hn=>Classical.byContradiction fun hlt=>hc ⟨(n:Int),List.mem_map.2 ⟨n,hn,rfl⟩,by omega⟩)
  refine ⟨hr, ?_⟩
  have hbl:(bmW l).length=size:=by
   rw [kL]
   split
   ·rename_i h;exact (hw.1 h).symm
   ·rename_i h;have:¬ size=16:=fun e=>h (hw.2 e);omega
  refine qMj (by rw [hbl,htl]) fun n n1 n2 => ?_
  rw [qC4 hr n1 n2]
  rw [hbl] at n2
  rw [hl]
  by_cases hn1:n=1
  ·subst hn1
   have hd:decide (((1:Nat):Int)∈(qeW (c.take size)).map Int.ofNat)=false:=decide_eq_false fun hc=>by
    obtain ⟨k,hk,hk1⟩:=List.mem_map.1 hc
    have:=(qdJ.1 hk).2.1
    simp at hk1;omega
   rw [hd,Bool.false_or,qwY (by omega) (by omega) hsc,← hl]
   have hb:Nat.beq 1 1=true:=rfl
   rw [hb,Bool.true_and]
   exact Bool.eq_iff_iff.2 (hw.trans h1.symm)
  ·have hb:Nat.beq n 1=false:=(Bool.not_eq_true _).mp fun hb=>hn1 (Nat.eq_of_beq_eq_true hb)
   rw [hb,Bool.false_and,Bool.or_false]
   refine Bool.eq_iff_iff.2 ?_
   rw [decide_eq_true_eq,List.mem_map]
   constructor
   ·rintro ⟨k,hk,hk1⟩
    have:k=n:=by simp at hk1;omega
    subst this
    exact (qdJ.1 hk).2.2
   ·intro hh
    exact ⟨n,qdJ.2 ⟨by rw [htl];omega,by omega,hh⟩,rfl⟩
 by_cases h1:hasB c 1=true
 ·rw [if_pos h1] at h
  by_cases h65:65∈qeW (c.take 16)∨∀ n∈qeW (c.take 16),n < 65
  ·rw [if_pos h65] at h;simp at h
  rw [if_neg h65] at h
  simp only [Prod.mk.injEq,and_true] at h
  have h16:16≤c.length:=by
   refine Classical.byContradiction fun hc=>h0 (.inr ⟨h1,by omega⟩)
  obtain ⟨r1,r2⟩:=main 16 (.inr rfl) h16 (iff_of_true h1 rfl) h.1.symm (fun _=>h65)
  have hbl:(bmW l).length=16:=by rw [r2,List.length_take];omega
  rw [hbl]
  refine ⟨r1,h.2.symm,h16, ?_⟩
  rw [r2,List.take_append_drop]
 ·rw [if_neg h1] at h
  simp only [Prod.mk.injEq,and_true] at h
  obtain ⟨r1,r2⟩:=main 8 (.inl rfl) (by omega) (iff_of_false h1 (by omega)) h.1.symm (fun e=>absurd e (by omega))
  have hbl:(bmW l).length=8:=by rw [r2,List.length_take];omega
  rw [hbl]
  refine ⟨r1,h.2.symm,by omega, ?_⟩
  rw [r2,List.take_append_drop]
theorem qPe {v:V} {k l:Int} (ho:zJ v.1=some (k,l)) (hv:fv k l v.2.1):wrV v=wrF k v.2.1:=by
 unfold wrV wrD;rw [ho];simp only [if_pos hv]
theorem qQa {v:V} {b q:BB} {A:Nat} (hf:vL v.1 v.2.1=true) (hA:A≤b.length) (h:b.drop A=wrV v++q):rdD v.1 b A=(v.2.1,((A+(wrV v).length:Nat):Int),0,()):=by
 obtain ⟨k,l,ho,hv⟩:=qbL.1 hf
 rw [qPe ho hv] at h ⊢
 unfold rdD;rw [ho]
 exact qP8 ho hA hv h
theorem qP9 {no:Int} {v b:BB} {A:Nat} {I:Int} (hA:A≤b.length) (h:rdD no b A=(v,I,0,())):vL no v=true∧I=((A+(wrV (no,v,())).length:Nat):Int)∧A+(wrV (no,v,())).length≤b.length∧b.drop A=wrV (no,v,())++b.drop (A+(wrV (no,v,())).length):=by
 cases ho:zJ no with
 | none=>unfold rdD at h;rw [ho] at h;simp at h
 | some p =>
  obtain ⟨k,l⟩:=p
  have h':rdF k l b A=(v,I,0,()):=by unfold rdD at h;rw [ho] at h;exact h
  obtain ⟨m1,m2,m3,m4⟩:=qP7 ho hA h'
  rw [qPe (v:=(no,v,())) ho m1]
  exact ⟨qbL.2 ⟨k,l,ho,m1⟩,m2,m3,m4⟩
theorem qJR {b:BB}:∀ {l:List V} {A:Nat} {F:List V} {q:BB},(∀ v∈l,vL v.1 v.2.1=true)→A≤b.length→b.drop A=l.flatMap wrV++q→rdFs b (nosF l) A F=(none,((A+(l.flatMap wrV).length:Nat):Int),F++l)
 | [],A,F,q,_,_,_=>by simp [rdFs,nosF]
 | v :: r,A,F,q,hf,hA,h=>by
  rw [List.flatMap_cons,List.append_assoc] at h
  have h1:=qQa (hf v (by simp)) hA h
  have h2:=y8 hA h
  simp only [nosF,List.map_cons,rdFs]
  rw [h1,if_pos rfl]
  have:=qJR (F:=F++[(v.1,v.2.1,())]) (fun u hu=>hf u (by simp [hu])) h2.1 h2.2
  simp only
  rw [show r.map (fun v=>v.1)=nosF r from rfl,this,List.flatMap_cons,List.length_append,Nat.add_assoc]
  have hv:(v.1,v.2.1,())=v:=by obtain ⟨a,b,⟨⟩⟩:=v;rfl
  rw [hv,List.append_assoc];rfl
theorem qJQ {b:BB}:∀ {ns:List Int} {A:Nat} {F F':List V} {a':Int},A≤b.length→rdFs b ns A F=(none,a',F')→∃ l:List V,F'=F++l∧nosF l=ns∧(∀ v∈l,vL v.1 v.2.1=true)∧a'=((A+(l.flatMap wrV).length:Nat):Int)∧A+(l.flatMap wrV).length≤b.length∧b.drop A=l.flatMap wrV++b.drop (A+(l.flatMap wrV).length)
 | [],A,F,F',a',hA,h=>by
  simp only [rdFs,Prod.mk.injEq,true_and] at h
  obtain ⟨rfl,rfl⟩:=h
  exact ⟨[],by simp,rfl,by simp,by simp,by simpa using hA,by simp⟩
 | n :: r,A,F,F',a',hA,h=>by
  simp only [rdFs] at h
  by_cases h0:(rdD n b A).2.2.1=0
  ·rw [if_pos h0] at h
   rcases hx:rdD n b A with ⟨v,I,e,u⟩
   rw [hx] at h0 h
   simp only at h0
   subst h0
   obtain ⟨m1,m2,m3,m4⟩:=qP9 hA hx
   subst m2
   obtain ⟨l,l1,l2,l3,l4,l5,l6⟩:=qJQ m3 h
   refine ⟨(n,v,()) :: l,by rw [l1];simp,by simp only [nosF,List.map_cons];rw [← l2];rfl,fun w hw => ?_, ?_, ?_, ?_⟩
   ·rcases List.mem_cons.1 hw with rfl | hw
    ·exact m1
    ·exact l3 w hw
   ·rw [l4,List.flatMap_cons,List.length_append];omega
   ·rw [List.flatMap_cons,List.length_append];omega
   ·rw [List.flatMap_cons,List.length_append,List.append_assoc,← Nat.add_assoc,← l6];exact m4
  ·rw [if_neg h0] at h;simp at h
theorem qMp {l:List V}:∀ {last:Int},jD last (nosF l)=true→(∀ v∈l,vL v.1 v.2.1=true)→kO last l=true:=by
 induction l with
 | nil=>intros;rfl
 | cons x r ih =>
  intro last h hf
  simp only [nosF,List.map_cons,jD,Bool.and_eq_true,decide_eq_true_eq] at h
  simp only [kO,Bool.and_eq_true,decide_eq_true_eq]
  exact ⟨h.1.1,hf x (by simp),ih h.2 fun v hv=>hf v (by simp [hv])⟩
theorem qH8 {l:List V} {last last':Int} (hl:last'≤last) (h:kO last l=true):kO last' l=true:=by
 cases l with
 | nil=>rfl
 | cons x r =>
  simp only [kO,Bool.and_eq_true,decide_eq_true_eq] at h ⊢
  exact ⟨by omega,h.2⟩
theorem qJS {b:BB}:∀ {ns:List Int} {A:Int} {F F':List V} {a' e:Int},rdFs b ns A F=(some e,a',F')→¬ e=0
 | [],A,F,F',a',e,h=>by simp [rdFs] at h
 | n :: r,A,F,F',a',e,h=>by
  simp only [rdFs] at h
  by_cases h0:(rdD n b A).2.2.1=0
  ·rw [if_pos h0] at h;exact qJS h
  ·rw [if_neg h0] at h
   simp only [Prod.mk.injEq,Option.some.injEq] at h
   rw [← h.1];exact h0
theorem val4 {m:Int} (h:xZ m):val (ps 10 dch m.toNat 4)=m.toNat:=by
 unfold xZ at h
 rw [qLQ,Nat.mod_eq_of_lt (by omega)]
theorem qLX {m:Int} {b q:BB} (h:xZ m) (hb:b=typB m++q):z5 b 0 4=(ps 10 dch m.toNat 4,2,0,()):=by
 have:=qnI (b:=b) (s:=ps 10 dch m.toNat 4) (q:=q) (I:=0) (Nat.zero_le _) (by rw [zP];omega) qnX hb
 rw [zP] at this;exact this
theorem qNm {l:List V} (h:∀ v∈l,vL v.1 v.2.1=true):∀ n∈nosF l,(zJ n).isSome=true:=by
 intro n hn
 obtain ⟨v,hv,rfl⟩:=List.mem_map.1 hn
 obtain ⟨k,l,ho,_⟩:=qbL.1 (h v hv)
 rw [ho];rfl
theorem qfN {m:M}:yW m=true↔kO 0 m.2.1=true∧xZ m.1:=by unfold yW;rw [Bool.and_eq_true,decide_eq_true_eq]
theorem qP5 {m:M} {q:BB} (h:yW m=true):rdM (wrM m++q)=if q=[] then (m,0,()) else (noM,4,()):=by
 obtain ⟨hF,ht⟩:=qfN.1 h
 have hfit:=fun v hv=>(yX hF v hv).2
 have hL:=qoS hF
 have e:wrM m++q=typB m.1++(bmW (nosF m.2.1)++(m.2.1.flatMap wrV++q)):=by unfold wrM;simp
 generalize hb:wrM m++q=b at *
 have h4:=qLX ht e
 have htl:=qgI (m:=m.1)
 have hd:=y8 (b:=b) (A:=0) (Nat.zero_le _) e
 rw [Nat.zero_add,htl] at hd
 have hr:=qQ5 hL hd.1 hd.2
 have hd2:=y8 hd.1 hd.2
 have hfs:=qJR (F:=[]) hfit hd2.1 hd2.2
 have hd3:=y8 hd2.1 hd2.2
 have hbl:=qCm hd3.1 hd3.2
 unfold rdM
 rw [h4,if_neg (by simp)]
 simp only
 rw [val4 ht,Int.toNat_of_nonneg (by unfold xZ at ht;omega),if_pos ht]
 replace hr:bmR b 2=_:=hr
 rw [hr,if_neg (by simp)]
 unfold rdE
 rw [if_pos (qNm hfit),hfs]
 simp only [List.nil_append]
 by_cases hq:q=[]
 ·subst hq
  rw [List.length_nil] at hbl
  rw [if_pos rfl,if_neg (by omega)]
 ·rw [if_neg hq,if_pos (by have:=List.length_pos_iff.2 hq;omega)]
theorem qIb {b:BB} {m:M} (h:rdM b=(m,0,())):yW m=true∧wrM m=b:=by
 unfold rdM at h
 by_cases h0:(z5 b 0 4).2.2.1≠0
 ·rw [if_pos h0] at h
  simp only [Prod.mk.injEq,and_true] at h
  exact absurd h.2 h0
 rw [if_neg h0] at h
 rcases x9 (b:=b) (I:=0) (N:=4) (Nat.zero_le _) (by omega) with ⟨_,e⟩ | ⟨_,e,_⟩ | ⟨s,h4,e,hf,hs,htk⟩
 ·exact absurd (by rw [show z5 b 0 4=_ from e];simp) h0
 ·exact absurd (by rw [show z5 b 0 4=_ from e];simp) h0
 ·replace e:z5 b 0 4=(s,2,0,()):=e
  rw [e] at h
  simp only at h
  by_cases ht:xZ (val s:Int)
  ·rw [if_pos ht] at h
   have hty:typB (val s:Int)=bcd (pad s):=by unfold typB;rw [Int.toNat_natCast,← hs,qPp hf]
   have hd:b.drop 0=typB (val s:Int)++b.drop 2:=by rw [hty];exact qmF htk
   rw [List.drop_zero] at hd
   by_cases hz:(bmR b 2).2.2.1≠0
   ·rw [if_pos hz] at h
    simp only [Prod.mk.injEq,and_true] at h
    exact absurd h.2 hz
   rw [if_neg hz] at h
   rcases hx:bmR b 2 with ⟨l,a',er,u⟩
   rw [hx] at h hz
   simp only [ne_eq,Decidable.not_not] at hz h
   subst hz
   have hC:bmC (b.drop 2) 2=(l,a',0,()):=by
    unfold bmR at hx
    rw [if_neg (by omega)] at hx;exact hx
   obtain ⟨c1,c2,c3,c4⟩:=qQ6 hC
   rw [List.length_drop] at c3
   rw [List.drop_drop] at c4
   unfold rdE at h
   by_cases ho:∀ n∈l,(zJ n).isSome=true
   ·rw [if_pos ho] at h
    have ha':a'=((2+(bmW l).length:Nat):Int):=by omega
    rw [ha'] at h
    rcases hfs:rdFs b l ((2+(bmW l).length:Nat):Int) [] with ⟨_ | er,a2,F⟩
    ·rw [hfs] at h
     simp only at h
     obtain ⟨L,l1,l2,l3,l4,l5,l6⟩:=qJQ (by omega) hfs
     by_cases hlt:a2 < (b.length:Int)
     ·rw [if_pos hlt] at h;simp at h
     rw [if_neg hlt] at h
     simp only [Prod.mk.injEq,and_true] at h
     rw [List.nil_append] at l1
     subst l1
     have hend:b.drop (2+(bmW l).length+(F.flatMap wrV).length)=[]:=List.drop_eq_nil_of_le (by omega)
     rw [hend,List.append_nil] at l6
     rw [← h]
     refine ⟨qfN.2 ⟨qH8 (by omega) (qMp (last:=1) (by rw [l2];exact c1) l3),ht⟩, ?_⟩
     unfold wrM
     simp only
     rw [l2,← l6,← c4,← hd]
    ·rw [hfs] at h
     simp only [Prod.mk.injEq,and_true] at h
     exact absurd h.2 (qJS hfs)
   ·rw [if_neg ho] at h;simp at h
  ·rw [if_neg ht] at h;simp at h
theorem qP6 {b:BB}:(rdM b).2.1=0∨(rdM b).1=noM:=by
 unfold rdM
 by_cases h0:(z5 b 0 4).2.2.1≠0
 ·rw [if_pos h0];exact .inr rfl
 rw [if_neg h0]
 by_cases ht:xZ (val (z5 b 0 4).1:Int)
 ·rw [if_pos ht]
  by_cases hz:(bmR b 2).2.2.1≠0
  ·rw [if_pos hz];exact .inr rfl
  rw [if_neg hz]
  unfold rdE
  split
  ·rcases rdFs b (bmR b 2).1 (bmR b 2).2.1 [] with ⟨_ | er,a2,F⟩
   ·simp only
    split
    ·exact .inr rfl
    ·exact .inl rfl
   ·exact .inr rfl
  ·exact .inr rfl
 ·rw [if_neg ht];exact .inr rfl
end Yp
namespace Yp
open Go
def few (m:M):Prop:=m.2.1.length≤40∧∀ v∈m.2.1,v.2.1.length≤450
theorem few.fewM {m:M} (h:few m):fewM m:=⟨by have:=h.1;omega,fun v hv=>by have:=h.2 v hv;omega⟩
theorem qP4 {b:BB}:(rdM b).1.2.1.length≤1000:=by
 rcases qP6 (b:=b) with h | h
 ·rcases hx:rdM b with ⟨m,e,u⟩
  rw [hx] at h
  simp only at h
  subst h
  have hr:=(qfN.1 (qIb hx).1).1
  have hL:=qoS hr
  have hs:=qoR hL
  have hm:=vT hL
  have hlen:(nosF m.2.1).length≤128:=by
   have key:∀ (l:List Int) (lo:Int),l.Pairwise (· < ·)→(∀ n∈l,lo < n∧n≤128)→(l.length:Int)≤128 - lo∨l=[]:=by
    intro l
    induction l with
    | nil=>intros;exact .inr rfl
    | cons x r ih =>
     intro lo hp h
     rw [List.pairwise_cons] at hp
     have hx:=h x (by simp)
     left
     rcases ih x hp.2 (fun n hn=>⟨hp.1 n hn,(h n (by simp [hn])).2⟩) with h1 | h1
     ·simp only [List.length_cons];omega
     ·subst h1;simp;omega
   rcases key _ 1 hs (fun n hn=>⟨(hm n hn).1,(hm n hn).2.1⟩) with h1 | h1
   ·omega
   ·rw [h1];simp
  simp only [nosF,List.length_map] at hlen
  show m.2.1.length≤1000
  omega
 ·rw [h];simp [noM]
theorem qJP {m:M} (hr:yW m=true):rdM (wrM m)=(m,0,()):=by
 have:=qP5 (q:=[]) hr
 rw [List.append_nil,if_pos rfl] at this;exact this
end Yp
namespace Yp
open Go
set_option linter.unusedVariables false
set_option linter.unusedSimpArgs false
theorem qf7 {n:N} (hr:jE n):yW (msgN n)=true:=by
 obtain ⟨rq,c,st,rs,g,no,k,d,⟨⟩⟩:=n
 have hr':=jM.1 hr
 obtain ⟨hc,s1,s2,r1,r2,r3,hk⟩:=hr'
 have f11:=fun n=>qe2 (no:=11) (w:=6) (n:=n) fo11 (by omega)
 have f15:=fun n=>qe2 (no:=15) (w:=6) (n:=n) fo15 (by omega)
 have f39:=fun n=>qe2 (no:=39) (w:=2) (n:=n) fo39 (by omega)
 have f53:=fun n=>qe2 (no:=53) (w:=16) (n:=n) fo53 (by omega)
 have f70:=fun n=>qe2 (no:=70) (w:=3) (n:=n) fo70 (by omega)
 unfold msgN yW
 cases rq
 ·simp [kO,f11,f39,f70,xZ]
 ·by_cases h1:c=101
  ·subst h1
   rw [if_pos ⟨rfl,rfl⟩] at hk
   obtain ⟨g1,g2,hn,hkc,hd⟩:=hk
   simp [kO,f11,f53,f70,qPD hkc,qPC hn,xZ]
  ·by_cases h2:c=201
   ·subst h2
    simp [kO,f11,f15,f70,xZ]
   ·simp [kO,f11,f70,xZ,h1,h2]
theorem qJ8 {n:N} (hr:jE n):few (msgN n):=by
 obtain ⟨rq,c,st,rs,g,no,k,d,⟨⟩⟩:=n
 have hr':=jM.1 hr
 obtain ⟨hc,s1,s2,r1,r2,r3,hk⟩:=hr'
 unfold msgN few
 cases rq
 ·simp [j8]
 ·by_cases h1:c=101
  ·subst h1
   rw [if_pos ⟨rfl,rfl⟩] at hk
   obtain ⟨g1,g2,hn,hkc,hd⟩:=hk
   simp [j8,zY,hkc,hn]
  ·by_cases h2:c=201
   ·subst h2
    simp [j8]
   ·simp [j8,h1,h2]
def wrN (n:N):BB×Int×Unit:=if jE n then (wrM (msgN n),0,()) else ([],1,())
theorem qdM (n:N):qcJ (n,())=some (wrN n):=by
 unfold qcJ wrN
 by_cases h:jE n
 ·simp only [go_sem,Int.reduceToNat,qj6,D_t h,qrA h,qzG (msgN n) (qJ8 h).fewM,qf7 h]
  rw [if_pos h]
 ·simp only [go_sem,Int.reduceToNat,qj6,D_f h]
  rw [if_neg h]
theorem qbP (n:N):qaI (n,())=some (wrN n):=by
 unfold qaI wrN
 by_cases h:jE n
 ·simp only [go_sem,Int.reduceToNat,qbQ,D_t h,qoU h,qtR (msgN n) (qJ8 h).fewM,qf7 h]
  rw [if_pos h]
 ·simp only [go_sem,Int.reduceToNat,qbQ,D_f h]
  rw [if_neg h]
theorem qyY (n:N):qfR (n,())=some (D (n.2.2.2.2.2.1.length≤50∧n.2.2.2.2.2.2.1.length≤50),()):=by
 unfold qfR
 simp only [go_sem,Int.reduceToNat]
 exact qbD (by omega)
def noN:N:=(false,0,0,0,0,[],[],0,())
def ansN (n:N) (r:Int):N×Int×Unit:=if n.1=false then (noN,9,()) else if r < 0∨99 < r then (noN,1,()) else ((false,n.2.1,n.2.2.1,r,0,[],[],0,()),0,())
theorem qbW (n:N) (r:Int):qdN (n,r,())=some (ansN n r):=by
 obtain ⟨a1,a2,a3,a4,a5,a6,a7,a8,⟨⟩⟩:=n
 unfold qdN ansN noN
 cases a1 <;> by_cases h:r < 0∨99 < r
 all_goals simp only [go_sem,Int.reduceToNat,h]
 all_goals simp [h]
theorem qq3 (n:N) (r:Int):qjN (n,r,())=some (ansN n r):=qbW n r
end Yp
namespace Yp
open Go
set_option linter.unusedVariables false
set_option linter.unusedSimpArgs false
def valD (v:BB):Int:=if 1≤v.length∧v.length≤18∧figs v then ((val v:Nat):Int) else 0
def unhD (s:BB):BB:=if s.length % 2=0∧hexy s then unh s else []
def gv (m:M) (no:Int):BB:=(getR no m.2.1).1
noncomputable def rdN0 (m:M):N:=(D (m.1=800),valD (gv m 70),valD (gv m 11),valD (gv m 39),valD (gv m 53),gv m 96,unhD (gv m 48),valD (gv m 15),())
noncomputable def rdN (b:BB):N×Int×Unit:=if (rdM b).2.1=0 then (if jE (rdN0 (rdM b).1)∧msgN (rdN0 (rdM b).1)=(rdM b).1 then (rdN0 (rdM b).1,0,()) else (noN,2,())) else (noN,(rdM b).2.1,())
theorem qOU {l:List V} {no:Int}:(getR no l).1=[]∨∃ v∈l,v.1=no∧(getR no l).1=v.2.1:=by
 induction l with
 | nil=>exact .inl rfl
 | cons v r ih =>
  unfold getR
  split
  ·exact .inr ⟨v,by simp,by assumption,rfl⟩
  ·exact ih.imp id fun ⟨u,h1,h2,h3⟩=>⟨u,by simp [h1],h2,h3⟩
theorem qLl {no k l:Int} (h:zJ no=some (k,l)):l≤400:=by
 unfold zJ at h
 rw [Option.map_eq_some_iff] at h
 obtain ⟨r,h1,h2⟩:=h
 have hm:=List.mem_of_find?_eq_some h1
 have:∀ r∈frows,nth r 1 0≤400:=by decide
 have:=this r hm
 cases h2
 exact this
theorem qOY {no:Int} {v:BB} (h:vL no v=true):v.length≤400:=by
 obtain ⟨k,l,h1,h2⟩:=qbL.1 h
 have:=qLl h1
 have h3:=h2.2
 unfold fln at h3
 split at h3 <;> omega
theorem qKj {m:M} (hr:yW m=true) (no:Int):(getR no m.2.1).1.length≤400:=by
 rcases qOU (l:=m.2.1) (no:=no) with h | ⟨v,hv,_,h⟩
 ·rw [h];simp
 ·rw [h];exact qOY (yX (qfN.1 hr).1 v hv).2
theorem qH4 (s:BB) (hl:s.length≤1000000):∃ e,yP (s,())=some (valD s,e,()):=by
 rw [yH _ hl]
 unfold valD
 split <;> exact ⟨_,rfl⟩
theorem qH5 (s:BB) (hl:s.length≤1000000):∃ e,qdG (s,())=some (unhD s,e,()):=by
 rw [qtX _ hl]
 unfold unhD
 split <;> exact ⟨_,rfl⟩
theorem qq2 {m:M} (hr:yW m=true) (hl:m.2.1.length≤1000) (no:Int):x5 (m,no,())=some (valD (gv m no),()):=by
 unfold x5 gv
 obtain ⟨e,he⟩:=qH4 (getR no m.2.1).1 (by have:=qKj hr no;omega)
 have hg:=qmZ m no (by omega)
 simp only [go_sem,Int.reduceToNat,hg,he]
theorem qPd {b:BB} {m:M} {n:N} (hm:rdM b=(m,0,())) (hn:jE n):wrM (msgN n)=b↔msgN n=m:=by
 obtain ⟨hr,hw⟩:=qIb hm
 constructor
 ·intro h
  have:=qJP (qf7 hn)
  rw [h,hm] at this
  exact (congrArg Prod.fst this).symm
 ·intro h;rw [h,hw]
theorem qvQ (b:BB) (hl:b.length≤1000000):qlP (b,())=some (rdN b):=by
 unfold qlP rdN
 refine (qF (qv2 b hl)).trans ?_
 by_cases h0:(rdM b).2.1=0
 ·obtain ⟨m,hm⟩:∃ m,rdM b=(m,0,()):=⟨(rdM b).1,by rw [← h0]⟩
  obtain ⟨hr,hw⟩:=qIb hm
  have hml:=qP4 (b:=b)
  rw [hm] at hml ⊢
  have hml:m.2.1.length≤1000:=hml
  have g:∀ no,qdD (m,no,())=some (getR no m.2.1):=fun no=>qmZ m no (by omega)
  have gl:=qKj hr
  have nu:=qq2 hr hml
  obtain ⟨e6,u48⟩:=qH5 (gv m 48) (by have:=gl 48;unfold gv;omega)
  unfold gv at u48 nu
  simp only [go_sem,Int.reduceToNat,g,nu,u48,qbP,qX]
  show sel (D (¬ (wrN (rdN0 m)).2.1=0∨¬ (wrN (rdN0 m)).1=b)) (some (noN,2,())) (some (rdN0 m,0,()))=_
  unfold wrN
  by_cases hn:jE (rdN0 m)
  ·rw [if_pos hn]
   by_cases he:msgN (rdN0 m)=m
   ·rw [if_pos ⟨hn,he⟩,D_f (fun h=>h.elim (fun h=>h rfl) (fun h=>h ((qPd hm hn).2 he)))];rfl
   ·rw [if_neg (fun h=>he h.2),D_t (.inr fun h=>he ((qPd hm hn).1 h))];rfl
  ·rw [if_neg hn,if_neg (fun h=>hn h.1),D_t (.inl (by decide))];rfl
 ·rw [if_neg h0]
  simp only [go_sem,Int.reduceToNat,h0]
  rfl
theorem quU {n:Int} {w:Nat} (h1:1≤w) (h2:w≤18) (h0:0≤n) (h:n < 10 ^ w):valD (dg n w)=n:=by
 unfold valD
 rw [if_pos ⟨by rw [j8];exact h1,by rw [j8];exact h2,qII⟩]
 exact qSr h0 h
theorem qt7:valD []=0:=by unfold valD;rw [if_neg (by simp)]
theorem qAL:unhD []=[]:=by unfold unhD;split <;> rfl
theorem qOb {b:BB}:unhD (jH b)=b:=by
 unfold unhD
 rw [if_pos ⟨by rw [zY];omega,qLg b⟩,qLT]
theorem qOs {n:N} (hr:jE n):rdN0 (msgN n)=n:=by
 obtain ⟨rq,c,st,rs,g,no,k,d,⟨⟩⟩:=n
 obtain ⟨hc,s1,s2,r1,r2,r3,hk⟩:=jM.1 hr
 have hc0:0≤c∧c≤301:=by unfold y5 at hc;omega
 have v11:valD (dg st 6)=st:=quU (by omega) (by omega) (by omega) (by omega)
 have v70:valD (dg c 3)=c:=quU (by omega) (by omega) (by omega) (by omega)
 have v39:valD (dg rs 2)=rs:=quU (by omega) (by omega) (by omega) (by omega)
 unfold rdN0 gv msgN
 simp only [len0] at hk
 cases rq
 ·simp only [Bool.false_eq_true,false_and,if_false] at hk
  obtain ⟨h1,h2,h3,h4⟩:=hk
  subst h1 h2 h3 h4
  simp [getR,v11,v70,v39,qt7,qAL,D]
 ·have hrs:=r3 rfl
  subst hrs
  by_cases h1:c=101
  ·subst h1
   rw [if_pos ⟨rfl,rfl⟩] at hk
   obtain ⟨g1,g2,hn,hkc,hd⟩:=hk
   subst hd
   have v53:valD (dg g 16)=g:=quU (by omega) (by omega) (by omega) (by omega)
   simp [getR,v11,v70,v53,qt7,qOb,D]
  ·rw [if_neg (by simp [h1])] at hk
   by_cases h2:c=201
   ·subst h2
    rw [if_pos ⟨rfl,rfl⟩] at hk
    obtain ⟨h3,h4,h5,d1,d2⟩:=hk
    subst h3 h4 h5
    have v15:valD (dg d 6)=d:=quU (by omega) (by omega) (by omega) (by omega)
    simp [getR,v11,v70,v15,qt7,qAL,D]
   ·rw [if_neg (by simp [h2])] at hk
    obtain ⟨h3,h4,h5,h6⟩:=hk
    subst h3 h4 h5 h6
    simp [getR,v11,v70,qt7,qAL,D,h1,h2]
theorem qRJ {n:N} (hr:jE n):rdN (wrM (msgN n))=(n,0,()):=by
 unfold rdN
 rw [qJP (qf7 hr),qOs hr,if_pos rfl,if_pos ⟨hr,rfl⟩]
end Yp
namespace Yp
open Go
end Yp
namespace Yp
open Go
set_option linter.unusedVariables false
set_option linter.unusedSimpArgs false
def fewN (n:N):Prop:=n.2.2.2.2.2.1.length≤50∧n.2.2.2.2.2.2.1.length≤50
theorem qFP (n:N):qfR (n,())=some (D (fewN n),()):=qyY n
theorem qN9 {n:N} (h:jE n):wrN n=(wrM (msgN n),0,()):=by unfold wrN;rw [if_pos h]
theorem qRm {v:V} (h:vL v.1 v.2.1=true):(wrV v).length≤v.2.1.length+2:=by
 obtain ⟨k,l,h1,h2⟩:=qbL.1 h
 unfold wrV wrD
 rw [h1]
 simp only [if_pos h2]
 rw [qqJ (qbY h1).1]
 repeat' split
 all_goals omega
theorem qRn {m:M} (hr:yW m=true):(wrM m).length≤18+(m.2.1.map (fun v=>v.2.1.length+2)).sum:=by
 have hF:=(qfN.1 hr).1
 have h2:=qgI (m:=m.1)
 have h8:=qC3 (nosF m.2.1)
 have hfl:∀ l:List V,(∀ v∈l,vL v.1 v.2.1=true)→(l.flatMap wrV).length≤(l.map (fun v=>v.2.1.length+2)).sum:=by
  intro l
  induction l with
  | nil=>simp
  | cons v r ih =>
   intro h
   have h1:=qRm (h v (by simp))
   have h2:=ih fun u hu=>h u (by simp [hu])
   rw [List.flatMap_cons,List.length_append,List.map_cons,List.sum_cons];omega
 have:=hfl m.2.1 fun v hv=>(yX hF v hv).2
 unfold wrM
 rw [List.length_append,List.length_append];omega
theorem qPM {n:N} (hr:jE n):(wrM (msgN n)).length≤900:=by
 have h:=qRn (qf7 hr)
 obtain ⟨rq,c,st,rs,g,no,k,d,⟨⟩⟩:=n
 obtain ⟨hc,s1,s2,r1,r2,r3,hk⟩:=jM.1 hr
 refine Nat.le_trans h ?_
 unfold msgN
 cases rq
 ·simp [j8]
 ·by_cases h1:c=101
  ·subst h1
   rw [if_pos ⟨rfl,rfl⟩] at hk
   obtain ⟨g1,g2,hn,hkc,hd⟩:=hk
   simp [j8,zY];omega
  ·by_cases h2:c=201
   ·subst h2;simp [j8]
   ·simp [j8,h1,h2]
end Yp
namespace Yp
open Go
theorem bv8 (c:UInt8):BitVec.ofInt 8 (n8 c)=c.toBitVec:=by
 apply BitVec.eq_of_toNat_eq
 unfold n8
 rw [BitVec.toNat_ofInt]
 have:=c.toNat_lt
 have h:c.toBitVec.toNat=c.toNat:=rfl
 omega
theorem bv32 (c:UInt32):BitVec.ofInt 32 (n32 c)=c.toBitVec:=by
 apply BitVec.eq_of_toNat_eq
 unfold n32
 rw [BitVec.toNat_ofInt]
 have:=c.toNat_lt
 have h:c.toBitVec.toNat=c.toNat:=rfl
 omega
theorem qRw (v:BitVec 8):u8 (v.toNat:Int)=⟨v⟩:=by
 apply UInt8.toBitVec_inj.1
 show BitVec.ofNat 8 (((v.toNat:Int) % 2 ^ 8).toNat)=v
 apply BitVec.eq_of_toNat_eq
 rw [BitVec.toNat_ofNat]
 have:=v.isLt
 omega
theorem qRx (v:BitVec 32):u32 (v.toNat:Int)=⟨v⟩:=by
 apply UInt32.toBitVec_inj.1
 show BitVec.ofNat 32 (((v.toNat:Int) % 2 ^ 32).toNat)=v
 apply BitVec.eq_of_toNat_eq
 rw [BitVec.toNat_ofNat]
 have:=v.isLt
 omega
theorem or8 (a b:UInt8):u8 (orI .u8 (n8 a) (n8 b))=a ||| b:=by
 unfold orI
 show u8 (((BitVec.ofInt 8 (n8 a) ||| BitVec.ofInt 8 (n8 b)).toNat:Nat):Int)=_
 rw [bv8,bv8,qRw];rfl
theorem xor8 (a b:UInt8):u8 (xorI .u8 (n8 a) (n8 b))=a ^^^ b:=by
 unfold xorI
 show u8 (((BitVec.ofInt 8 (n8 a) ^^^ BitVec.ofInt 8 (n8 b)).toNat:Nat):Int)=_
 rw [bv8,bv8,qRw];rfl
theorem or32 (a b:UInt32):u32 (orI .u32 (n32 a) (n32 b))=a ||| b:=by
 unfold orI
 show u32 (((BitVec.ofInt 32 (n32 a) ||| BitVec.ofInt 32 (n32 b)).toNat:Nat):Int)=_
 rw [bv32,bv32,qRx];rfl
theorem qQt {c:UInt8}:n8 c=n8 (u8 0)↔c=0:=by
 constructor
 ·intro h
  have h2:(c.toNat:Int)=0:=h
  exact UInt8.toNat_inj.1 (by show c.toNat=0;omega)
 ·rintro rfl;rfl
def orx (a b:BB):Nat→UInt8
 | 0=>0
 | i+1=>orx a b i ||| (a.getD i 0 ^^^ b.getD i 0)
theorem qJ2 (a b:BB):∀ i,orx a b i=0↔∀ j,j < i→a.getD j 0=b.getD j 0
 | 0=>⟨fun _ j h=>absurd h (Nat.not_lt_zero j),fun _=>rfl⟩
 | i+1=>by
  have ih:=qJ2 a b i
  have key:(orx a b i ||| (a.getD i 0 ^^^ b.getD i 0))=0↔orx a b i=0∧a.getD i 0=b.getD i 0:=by
   rw [UInt8.or_eq_zero_iff,UInt8.xor_eq_zero_iff]
  show (orx a b i ||| (a.getD i 0 ^^^ b.getD i 0))=0↔_
  rw [key,ih]
  constructor
  ·rintro ⟨h1,h2⟩ j hj
   rcases Nat.lt_succ_iff_lt_or_eq.1 hj with h | rfl
   ·exact h1 j h
   ·exact h2
  ·intro h
   exact ⟨fun j hj=>h j (by omega),h i (by omega)⟩
theorem qo9 (a b:BB) (hl:a.length≤9223372036854775807):qhG (a,b,())=some (seq a b,()):=by
 unfold qhG
 by_cases h:a.length=b.length
 ·refine (qB (by simp only [go_sem,Int.reduceToNat];omega)).trans ?_
  generalize hf:(fun (x_1:UInt8×Int×Unit)=>_)=f
  have step:∀ i,i < a.length→f (orx a b i,(i:Int),())=some (.nx (orx a b (i+1),((i+1:Nat):Int),())):=by
   intro i hi
   subst hf
   have e1:nth a (nat (i:Int)) (u8 0)=a.getD i 0:=rfl
   have e2:nth b (nat (i:Int)) (u8 0)=b.getD i 0:=rfl
   show sel (lt (i:Int) (len a)) _ _=_
   refine (qC (by simp only [go_sem,Int.reduceToNat];omega)).trans ((qH (by simp only [go_sem,Int.reduceToNat];omega)).trans ((qH (by simp only [go_sem,Int.reduceToNat];omega)).trans ?_))
   show some (LS.nx (u8 (orI .u8 (n8 (orx a b i)) (n8 (u8 (xorI .u8 (n8 (nth a (nat (i:Int)) (u8 0))) (n8 (nth b (nat (i:Int)) (u8 0))))))),i64 (iadd (i:Int) 1),()))=_
   rw [e1,e2,xor8,or8,show i64 (iadd (i:Int) 1)=((i+1:Nat):Int) by simp (disch:=omega) only [go_sem,Int.reduceToNat] <;> omega]
   rfl
  have hend:f (orx a b a.length,(a.length:Int),())=some (.ex 0 (orx a b a.length,(a.length:Int),())):=by
   subst hf
   show sel (lt (a.length:Int) (len a)) _ _=_
   exact qB (by simp only [go_sem,Int.reduceToNat];omega)
  have hloop:loop f (u8 0,0,())=some (.ex 0 (orx a b a.length,(a.length:Int),())):=by
   have:=qN (f:=f) (fun i=>(orx a b i,(i:Int),())) a.length step 0 (Nat.zero_le _)
   exact this.trans (qV hend)
  rw [hloop]
  show ck (neb 0 0) (some (beq (n8 (orx a b a.length)) (n8 (u8 0)),()))=_
  refine (qH g62).trans ?_
  congr 2
  rw [Bool.eq_iff_iff]
  unfold beq seq
  rw [beq_iff_eq,beq_iff_eq,qQt,qJ2]
  constructor
  ·intro hj
   refine List.ext_getElem h fun i h1 h2 => ?_
   have:=hj i h1
   rwa [List.getD_eq_getElem?_getD,List.getD_eq_getElem?_getD,List.getElem?_eq_getElem h1,List.getElem?_eq_getElem h2] at this
  ·rintro rfl j _;rfl
 ·refine (qC (by simp only [go_sem,Int.reduceToNat];omega)).trans ?_
  rw [qP1 (fun e=>h (congrArg List.length e))]
end Yp
namespace Yp
open Go Go.Proofs Go.RowKit Go.Shelf
attribute [local go_sem] Oper.semAt_some
theorem qOQ {res:Nat→Bool} {k n:Nat} (hk:k≤n) (h:hits res n=[]):hits res k=[]:=by
 unfold hits at h ⊢
 rw [List.filter_eq_nil_iff] at h ⊢
 intro a ha
 exact h a (List.mem_range.2 (Nat.lt_of_lt_of_le (List.mem_range.1 ha) hk))
set_option maxRecDepth 100000 in
set_option maxHeartbeats 4000000 in
theorem qSk (Nn off cap b:Nat) (ad:Option Addr) (idl frg:Bool) (ak:Option Addr) (nk ck:Nat) (ab:Option Addr) (nb cb:Nat) (ev:Nat→Value×Value) (res:Nat→Bool) (hev:∀ j,∃ a n c a' n' c',ev j=(.slice a n c, .slice a' n' c')) (hN:Nn≤9223372036854775807) (m:Nat) (w:World)
  (hb:0 < Nn→ad=some ⟨b,off,none⟩∧b < w.heap.size)
  (hc0:∀ j,j < Nn→w.cell? ⟨b,off+j*2,none⟩=some (ev j).1) (hc1:∀ j,j < Nn→w.cell? ⟨b,off+j*2+1,none⟩=some (ev j).2)
  (hIs:∀ j,j < Nn→∀ n w',Below w.heap.size w w'→CallsIn Fence.wide n Tryz.prog 390 #[.agg #[.slice ak nk ck, .slice ab nb cb], .agg #[(ev j).1,(ev j).2]] w' fun e w''=>e = .returned (.bool (res j))∧Below w'.heap.size w' w'') :
  CallsIn Fence.wide (m+3) Tryz.prog 369 #[.agg #[.bool idl, .slice ad Nn cap, .bool frg], .slice ak nk ck, .slice ab nb cb] w fun e w'=>e = .returned (.bool (hits res Nn != []))∧Below w.heap.size w w':=by
 have hw391:Fence.wide.fn 391:=trivial
 refine callsIn_of_wp_marks Tryz.func369 rfl trivial ?_ rfl
 simp only [Tryz.ntmps369,List.size_toArray,List.length_cons,List.length_nil,Nat.reduceAdd,Nat.reduceSub,Array.replicate_succ,Array.replicate_zero,List.push_toArray,List.append_toArray,List.nil_append,List.cons_append]
 gi_wp2_with (gi_at_call 391;refine (qOW _ _ _ _ _ _ rfl).mono ?_;rintro e w' ⟨rfl,rfl⟩)
 have b1:=Boxed.new (w.alloc (.cells #[.bool idl, .slice ad Nn cap, .bool frg] 49)) 4 (.bool false)
 have b2:=Boxed.new ((w.alloc (.cells #[.bool idl, .slice ad Nn cap, .bool frg] 49)).alloc (.cells #[.bool false] 4)) 47 (.slice ad Nn cap)
 have b3:=Boxed.new (((w.alloc (.cells #[.bool idl, .slice ad Nn cap, .bool frg] 49)).alloc (.cells #[.bool false] 4)).alloc (.cells #[.slice ad Nn cap] 47)) 403 (.func (.func 390) #[.agg #[.slice ak nk ck, .slice ab nb cb]] #[])
 simp only [World.size_alloc] at b1 b2 b3
 obtain ⟨w4,hw4⟩:∃ w4,w4=((((w.alloc (Obj.cells #[Value.bool idl,Value.slice ad Nn cap,Value.bool frg] 49)).alloc (Obj.cells #[Value.bool false] 4)).alloc (Obj.cells #[Value.slice ad Nn cap] 47)).alloc (Obj.cells #[Value.func (Fn.func 390) #[Value.agg #[Value.slice ak nk ck,Value.slice ab nb cb]] #[]] 403)):=⟨_,rfl⟩
 have b1':Boxed w4 (w.heap.size+1) 4 (.bool false):=by rw [hw4];exact (b1.alloc _).alloc _
 have b2':Boxed w4 (w.heap.size+1+1) 47 (.slice ad Nn cap):=by rw [hw4];exact b2.alloc _
 have b3':Boxed w4 (w.heap.size+1+1+1) 403 (.func (.func 390) #[.agg #[.slice ak nk ck, .slice ab nb cb]] #[]):=by rw [hw4];exact b3
 have hB4:Below w.heap.size w w4:=by rw [hw4];exact ((((Below.refl _ w).alloc (Nat.le_refl _) _).alloc (by simp) _).alloc (by simp;omega) _).alloc (by simp;omega) _
 have hs4:w4.heap.size=w.heap.size+1+1+1+1:=by rw [hw4];simp
 rw [← hw4]
 clear b1 b2 b3
 refine wpIn_rangeFunc_ownG (w0:=w4) rfl (by omega) (gf:=393) (lb := #[.pointer (some ⟨w.heap.size+1+1,0,none⟩), .pointer (some ⟨w.heap.size+1+1+1,0,none⟩)]) rfl trivial (enters_of Tryz.func393 (by kernel_rfl) rfl)
   (encs:=fun x:Nat => #[.int .i64 (x:Int)]) (Kp:=Below w4.heap.size) (S:=fun ys=>ys=hits res Nn) (Sp:=fun pre=>∃ k,k≤Nn∧pre=hits res k) (N:=Nn)
   ?seq ?kt ?kb (Below.refl _ _) (fun _=>rfl)
   (fun pre W=>(pre=[]∧Boxed W (w.heap.size+1) 4 (.bool false))∧Below w.heap.size w W)
   (fun c pre W=>((c = .ret∧pre≠[])∧Boxed W (w.heap.size+1) 4 (.bool true))∧Below w.heap.size w W)
   (OwnFrom.and (OwnFrom.and (ownFrom_pure _ _) (Own.from (boxed_own (w.heap.size+1) 4 (fun _ => .bool false)) _)) (ownFrom_below (Nat.le_refl _) (by omega)))
   (fun c=>OwnFrom.and (OwnFrom.and (ownFrom_pure _ _) (Own.from (boxed_own (w.heap.size+1) 4 (fun _ => .bool true)) _)) (ownFrom_below (Nat.le_refl _) (by omega)))
   ?start ?a1 ?assign ?body ?done ?stop
 case assign =>
  intro l x W K hK
  gi_wp2
  exact hK
 case seq =>
  intro l J Jx W hW hJ hJx hY h0
  refine (qNA (m+1) l (w.heap.size+1+1) (w.heap.size+1+1+1) w4.heap.size b off cap Nn ad (.slice ak nk ck) (.slice ab nb cb) ev res hev hN (fun h=>⟨(hb h).1,by have:=(hb h).2;omega⟩) J Jx (fun s W1 W2 hs hb=>hJ s W1 W2 none hs ⟨hb.os,hb.tape,hb.output,hb.size,fun k hk _=>hb.block k hk⟩ (fun r e=>by cases e)) (fun pre x W1 hj _ _ hl=>hY pre x W1 hj hl) W ?_ ?_ (by omega) (by omega) hW.size (fun j hj => ?_) (fun j hj => ?_) (fun j hj w' hw' => ?_) h0).mono ?_
  ·exact (hW.cell (p:=⟨w.heap.size+1+1,0,none⟩) (by simp;omega)).trans b2'.cell
  ·exact (hW.cell (p:=⟨w.heap.size+1+1+1,0,none⟩) (by simp;omega)).trans b3'.cell
  ·have hbl:=(hb (by omega)).2
   exact (hW.cell (p:=⟨b,off+j*2,none⟩) (by simp;omega)).trans ((hB4.cell (p:=⟨b,off+j*2,none⟩) hbl).trans (hc0 j hj))
  ·have hbl:=(hb (by omega)).2
   exact (hW.cell (p:=⟨b,off+j*2+1,none⟩) (by simp;omega)).trans ((hB4.cell (p:=⟨b,off+j*2+1,none⟩) hbl).trans (hc1 j hj))
  ·exact hIs j hj _ _ (hB4.trans ((hW.trans hw').mono (by omega)))
  ·rintro e W' ⟨he,h⟩
   exact ⟨he,h.elim (fun h => .inl ⟨_,rfl,h⟩) (fun ⟨k,hk,h⟩ => .inr ⟨_,⟨k,hk,rfl⟩,h⟩)⟩
 case kt=>exact fun h k=>h.trans k
 case kb =>
  intro W l o o' hl ho h1 h2
  exact belowK_b (w:=w4) (Nat.le_refl _) W l o o' hl ho h1 h2
 case start=>exact ⟨⟨rfl,b1'⟩,hB4⟩
 case body =>
  rintro l pre x W ⟨⟨rfl,hv⟩,hB⟩ hlt
  have hc:=hv.cell
  have hf:=hv.frozen
  gi_wp2
  exact ⟨(KeepsOthers.setCell _ _ _).from _,⟨⟨rfl,by simp⟩,hv.set _⟩,hB.trans ((Below.refl _ _).setCell (p:=⟨w.heap.size+1,0,none⟩) (by simp) _)⟩
 case done =>
  rintro D ys W hD rfl ⟨⟨h0,hv⟩,hB⟩ hK
  have hc:=hv.cell
  have hf:=hv.frozen
  gi_wp2
  have hK':=(KeepsOthers.setCell W ⟨w.heap.size+1,0,none⟩ (.bool false)).same D _ hK rfl
  refine ⟨by simp, .inl ⟨_,_,rfl,run_takeDeferred hK', ?_⟩⟩
  have hz:Boxed ((W.setCell ⟨w.heap.size+1,0,none⟩ (.bool false)).putObj D (.deferred none)) (w.heap.size+1) 4 (.bool false):=(hv.set (.bool false)).kept (grownBy_putObj' _ D _) (fun e=>by cases e;omega)
  refine ⟨.bool false,by simp [results,Tryz.f369,go_sem,hz.cell],by rw [h0];rfl, ?_⟩
  exact (hB.trans ((Below.refl _ _).setCell (p:=⟨w.heap.size+1,0,none⟩) (by simp) _)).trans (belowK_b (w:=w) (Nat.le_refl _) _ D _ _ (by omega) hK' rfl rfl)
 case stop =>
  rintro D c pre W hD ⟨k,hk,rfl⟩ ⟨⟨⟨rfl,hne⟩,hv⟩,hB⟩ hK
  have hc:=hv.cell
  gi_wp2
  refine ⟨by simp, .inl ⟨_,_,rfl,run_takeDeferred hK, ?_⟩⟩
  have hz:Boxed (W.putObj D (.deferred none)) (w.heap.size+1) 4 (.bool true):=hv.kept (grownBy_putObj' _ D _) (fun e=>by cases e;omega)
  refine ⟨.bool true,by simp [results,Tryz.f369,go_sem,hz.cell], ?_, ?_⟩
  ·have:hits res Nn≠[]:=fun e=>hne (qOQ hk e)
   simp [this]
  ·exact hB.trans (belowK_b (w:=w) (Nat.le_refl _) _ D _ _ (by omega) hK rfl rfl)
end Yp
namespace Yp
open Go Go.Proofs Go.RowKit Go.Shelf
abbrev qQO:=BB×BB×Unit
abbrev qB0:Ty := .pair (.sl (.int .u8)) (.pair (.sl (.int .u8)) .unit)
noncomputable def qj2 (x:(BB×BB×Unit)×(BB×BB×Unit)×Unit):Option (Bool×Unit) :=
 ob (qhG (x.1.1,x.2.1.1,())) fun (a:Bool×Unit) =>
 ob (sel a.1 (ob (qhG (x.1.2.1,x.2.1.2.1,())) fun (a:Bool×Unit)=>some (a.1,())) (some (false,()))) fun (a:Bool×Unit)=>some (a.1,())
noncomputable abbrev qyO:qI:=⟨[qB0,qB0],[.im (.bool)],qj2⟩
set_option maxRecDepth 100000 in
theorem qzW (hS:FOK Tryz.prog 126 qlG):FOK Tryz.prog 390 qyO:=mkC (qA qE hS) qD Tryz.func390 5 (by kernel_rfl) (by kernel_rfl) (fun x=>by kernel_rfl)
theorem qFc (k b e f:BB) (hk:k.length≤9223372036854775807) (hb:b.length≤9223372036854775807):qj2 ((k,b,()),(e,f,()),())=some (band (seq k e) (seq b f),()):=by
 unfold qj2
 show ob (qhG (k,e,())) _=_
 rw [qo9 _ _ hk]
 show ob (sel (seq k e) (ob (qhG (b,f,())) _) _) _=_
 rw [qo9 _ _ hb]
 cases seq k e <;> rfl
theorem qRs {w w':World} {X:Nat→Prop} (hb:Below w.heap.size w w'):(view w X).Le (view w' X):=by
 intro b o h
 obtain ⟨h1,h2⟩:=z6.1 h
 refine z6.2 ⟨h1, ?_⟩
 rw [hb.block b (Array.getElem?_eq_some_iff.1 h2).1];exact h2
theorem seg2 {c:Array Value} {o:Nat} (h:o+2≤c.size):seg c o 2=[c[o],c[o+1]]:=by
 unfold seg
 rw [List.drop_eq_getElem_cons (by simp;omega),List.drop_eq_getElem_cons (by simp;omega)]
 simp
theorem qC5 {w w':World} {X:Nat→Prop} {rs:List RTy} {r:denR rs} {vr:Value} (h:qDh w X w' rs r vr):Below w.heap.size w w':=by
 obtain ⟨M',h1,h2,h3,h4,h5,_⟩:=h
 exact ⟨h1,h2,h3,h4,h5⟩
theorem qPa {α:Type} (l:List α) (q:α→Bool) (res:Nat→Bool) (h:∀ j x,l[j]? = some x→res j=q x):(hits res l.length != [])=l.any q:=by
 rw [Bool.eq_iff_iff]
 simp only [bne_iff_ne,ne_eq,List.any_eq_true]
 unfold hits
 rw [List.filter_eq_nil_iff]
 constructor
 ·intro hn
  by_cases hx:∃ x,x∈l∧q x=true
  ·exact hx
  ·refine absurd (fun j hj => ?_) hn
   have hj':=List.mem_range.1 hj
   rw [h j l[j] (List.getElem?_eq_getElem hj')]
   exact fun e=>hx ⟨_,List.getElem_mem hj',e⟩
 ·rintro ⟨x,hx,hq⟩ hn
  obtain ⟨j,hj,rfl⟩:=List.getElem_of_mem hx
  refine hn j (List.mem_range.2 hj) ?_
  rw [h j l[j] (List.getElem?_eq_getElem hj)];exact hq
noncomputable abbrev qAd:qI:=⟨[.pair (.bool) (.pair (.sl qB0) (.pair (.bool) (.unit))), .sl (.int .u8), .sl (.int .u8)],[.im (.bool)],quB⟩
set_option maxRecDepth 100000 in
theorem qQN (hS:FOK Tryz.prog 126 qlG) (idl frg:Bool) (tbl:List qQO) (key bb:BB) {w:World} {X:Nat→Prop} (hX:∀ b,X b→b < w.heap.size) (hkeys:qeE Tryz.prog (view w X)) {c3 cs2 cs3:List Value}
  (h2:RepC (view w X) (.sl qB0) tbl c3) (hk:RepC (view w X) (.sl (.int .u8)) key cs2) (hb:RepC (view w X) (.sl (.int .u8)) bb cs3) :
  Calls Tryz.prog 369 #[.agg (#[.bool idl]++c3.toArray ++ #[.bool frg]),cs2.headD undef,cs3.headD undef] w fun e w'=>∃ vr,e = .returned vr∧qDh w X w' [.im .bool] ((tbl.any fun e=>band (seq key e.1) (seq bb e.2.1),()):Bool×Unit) vr:=by
 have hk0:=hk;have hb0:=hb
 obtain ⟨ad,cap,rfl,t1,t2,t3⟩:=RepC.vG.1 h2
 obtain ⟨ak,capk,rfl,k1,k2,_⟩:=RepC.vG.1 hk
 obtain ⟨ab,capb,rfl,b1,b2,_⟩:=RepC.vG.1 hb
 have hmax:maxLen≤9223372036854775807:=by unfold maxLen;omega
 have hkl:key.length≤9223372036854775807:=Nat.le_trans k1 (Nat.le_trans k2 hmax)
 have hbl:bb.length≤9223372036854775807:=Nat.le_trans b1 (Nat.le_trans b2 hmax)
 have htl:tbl.length≤9223372036854775807:=Nat.le_trans t1 (Nat.le_trans t2 hmax)
 -- the entries' cells
 obtain ⟨b,off,ev,hloc,hev,hc0,hc1,hrep⟩:∃ (b off:Nat) (ev:Nat→Value×Value),(0 < tbl.length→ad=some ⟨b,off,none⟩∧b < w.heap.size)∧(∀ j,∃ a n c a' n' c',ev j=(.slice a n c, .slice a' n' c')) ∧
   (∀ j,j < tbl.length→w.cell? ⟨b,off+j*2,none⟩=some (ev j).1)∧(∀ j,j < tbl.length→w.cell? ⟨b,off+j*2+1,none⟩=some (ev j).2) ∧
   (∀ j (e:BB×BB×Unit),tbl[j]? = some e→RepC (view w X) qB0 e [(ev j).1,(ev j).2]):=by
  rcases t3 with t3 | ⟨b,o,c,el,fz,ha,hv,hsz,hel⟩
  ·refine ⟨0,0,fun _=>(.slice none 0 0, .slice none 0 0),fun h => ?_,fun _=>⟨_,_,_,_,_,_,rfl⟩,fun j hj => ?_,fun j hj => ?_,fun j e he => ?_⟩
   ·rw [show tbl=[] from t3] at h;simp at h
   ·rw [show tbl=[] from t3] at hj;simp at hj
   ·rw [show tbl=[] from t3] at hj;simp at hj
   ·rw [show tbl=[] from t3] at he;simp at he
  ·obtain ⟨hnx,hh⟩:=z6.1 hv
   have hsz':o+tbl.length*2≤c.size:=hsz
   have hseg:∀ j e,tbl[j]? = some e→∃ (h:o+j*2+2≤c.size),RepC (view w X) qB0 e [c[o+j*2],c[o+j*2+1]]:=by
    intro j e he
    have hj:j < tbl.length:=(List.getElem?_eq_some_iff.1 he).1
    have hle:o+j*2+2≤c.size:=by omega
    refine ⟨hle, ?_⟩
    have:=hel j e he
    rw [show seg c (o+j*qB0.size) qB0.size=seg c (o+j*2) 2 from rfl,seg2 hle] at this
    exact this
   have hsl:∀ (l:BB) (v:Value),RepC (view w X) (.sl (.int .u8)) l [v]→∃ a n c,v = .slice a n c:=by
    intro l v h
    obtain ⟨a,cp,he,_⟩:=RepC.vG.1 h
    cases he;exact ⟨_,_,_,rfl⟩
   have hparts:∀ (e:BB×BB×Unit) (u v:Value),RepC (view w X) qB0 e [u,v]→(∃ a n c,u = .slice a n c)∧∃ a n c,v = .slice a n c:=by
    intro e u v h
    obtain ⟨d1,d2,hd,q1,q2⟩:=RepC.jK.1 h
    obtain ⟨d3,d4,hd2,q3,q4⟩:=RepC.jK.1 q2
    obtain rfl:=RepC.qgH.1 q4
    have l1:d1.length=1:=q1.length
    have l3:d3.length=1:=q3.length
    obtain ⟨y,rfl⟩:=List.length_eq_one_iff.1 l1
    obtain ⟨z,rfl⟩:=List.length_eq_one_iff.1 l3
    subst hd2
    simp only [List.singleton_append,List.append_nil,List.cons.injEq,and_true] at hd
    obtain ⟨rfl,rfl⟩:=hd
    exact ⟨hsl _ _ q1,hsl _ _ q3⟩
   refine ⟨b,o,fun j=>if h:j < tbl.length then (c[o+j*2]'(by omega),c[o+j*2+1]'(by omega)) else (.slice none 0 0, .slice none 0 0),fun _=>⟨ha,(Array.getElem?_eq_some_iff.1 hh).1⟩,fun j => ?_,fun j hj => ?_,fun j hj => ?_,fun j e he => ?_⟩
   ·by_cases hj:j < tbl.length
    ·obtain ⟨hle,hr⟩:=hseg j _ (List.getElem?_eq_getElem hj)
     obtain ⟨⟨a,n,cc,e1⟩,⟨a',n',cc',e2⟩⟩:=hparts _ _ _ hr
     exact ⟨a,n,cc,a',n',cc',by dsimp only;rw [dif_pos hj,e1,e2]⟩
    ·exact ⟨_,_,_,_,_,_,dif_neg hj⟩
   ·dsimp only;rw [dif_pos hj,World.cell?,hh];simp [show o+j*2 < c.size by omega]
   ·dsimp only;rw [dif_pos hj,World.cell?,hh];simp [show o+j*2+1 < c.size by omega]
   ·have hj:j < tbl.length:=(List.getElem?_eq_some_iff.1 he).1
    dsimp only
    rw [dif_pos hj]
    exact (hseg j e he).2
 let q:BB×BB×Unit→Bool:=fun e=>band (seq key e.1) (seq bb e.2.1)
 let res:Nat→Bool:=fun j=>match tbl[j]? with | some e=>q e | none=>false
 have main:=qSk tbl.length off cap b ad idl frg ak key.length capk ab bb.length capb ev res hev htl 0 w hloc hc0 hc1 (fun j hj n w' hw' => ?_)
 ·refine (callsIn_wide (n:=3)).1 (main.mono ?_)
  rintro e w' ⟨rfl,hbel⟩
  refine ⟨_,rfl,X,hbel.os,hbel.tape,hbel.output,hbel.size,hbel.block,fun _ _=>Iff.rfl,fun b h=>Nat.lt_of_lt_of_le (hX b h) hbel.size,[.bool (hits res tbl.length != [])], ?_,rfl⟩
  refine ⟨[.bool _],[],rfl,RepC.xI.2 ?_,rfl⟩
  rw [qPa tbl q res (fun j e he=>by show (match tbl[j]? with | some e=>q e | none=>false)=q e;rw [he])]
 ·refine callsIn_wide.2 ?_
  have he:=List.getElem?_eq_getElem hj
  have hw:=hw'
  have hle:(view w X).Le (view w' X):=qRs hw
  have:=(qzW hS).2 w' X ((key,bb,()),(tbl[j].1,tbl[j].2.1,()),()) [.agg #[.slice ak key.length capk, .slice ab bb.length capb], .agg #[(ev j).1,(ev j).2]] _ (fun b h=>Nat.lt_of_lt_of_le (hX b h) hw.size) (hkeys.mono hle)
   ⟨[.slice ak key.length capk, .slice ab bb.length capb],_,rfl,RepC.jK.2 ⟨[_],[_],rfl,hk0.mono hle,RepC.jK.2 ⟨[_],[],rfl,hb0.mono hle,RepC.qgH.2 rfl⟩⟩,[(ev j).1,(ev j).2],[],rfl,(hrep j _ he).mono hle,rfl⟩
   (qFc _ _ _ _ hkl hbl)
  refine this.mono ?_
  rintro e w'' ⟨vr,rfl,hr⟩
  refine ⟨?_,qC5 hr⟩
  obtain ⟨M',_,_,_,_,_,_,_,us,hv,rfl⟩:=hr
  obtain ⟨ds,us1,rfl,hc,rfl⟩:=hv
  obtain rfl:=RepC.xI.1 hc
  show Ending.returned (.bool _)=Ending.returned (.bool (match tbl[j]? with | some e=>q e | none=>false))
  rw [he]
set_option maxRecDepth 100000 in
theorem qLi (hS:FOK Tryz.prog 126 qlG):FOK Tryz.prog 369 qAd:=by
 refine ⟨⟨Tryz.f369,Tryz.func369,by kernel_rfl,by kernel_rfl⟩, ?_⟩
 intro w X x vs r hX hkeys ha hr
 obtain ⟨⟨idl,tbl,frg,⟨⟩⟩,key,bb,⟨⟩⟩:=x
 obtain rfl:=Option.some.inj hr
 obtain ⟨cs,vs1,rfl,hp,cs2,vs2,rfl,hk,cs3,vs3,rfl,hb,rfl⟩:=ha
 obtain ⟨c1,c2,rfl,h1,hp⟩:=RepC.jK.1 hp
 obtain ⟨c3,c4,rfl,h2,hp⟩:=RepC.jK.1 hp
 obtain ⟨c5,c6,rfl,h3,hp⟩:=RepC.jK.1 hp
 obtain rfl:=RepC.qgH.1 hp
 obtain rfl:=RepC.xI.1 h1
 obtain rfl:=RepC.xI.1 h3
 have:=qQN hS idl frg tbl key bb hX hkeys h2 hk hb
 refine cast ?_ this
 congr 1
 simp [mkV,Ty.isAgg]
end Yp