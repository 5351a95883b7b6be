/- The engine, part B: regions, code, functions. -/
import Derived.Test.YtkmimlgogeeooaaYpA
set_option linter.unusedVariables false
set_option linter.unusedSimpArgs false
namespace Yp
open Go

/-! ### the order of a region's operations -/
/-- footprints of the operations that ran: number, blocks read and written -/
structure Foot where
  i : Nat
  rb : List Nat
  wb : List Nat
def meet (a b : List Nat) : Bool := a.any fun k => b.any (Nat.beq k)
def Foot.clash (a b : Foot) : Bool := meet a.wb b.rb || meet a.wb b.wb || meet a.rb b.wb
/-- 'before' as bits; of each pair that clashes the elder one must come before the later one -/
def ordOK (bf : List Nat) : List Foot → Bool
  | [] => true
  | f :: r => r.all (fun g => !(f.clash g) || Nat.testBit (bf.getD g.i 0) f.i) && ordOK bf r
/-- the slots that an operation names (as bits): its operands, and its guard's -/
def bits : List Nat → Nat
  | [] => 0
  | i :: r => 2 ^ i ||| bits r
def tmpsOf : List Operand → List Nat
  | [] => []
  | .tmp t :: r => t :: tmpsOf r
  | _ :: r => tmpsOf r
def dstOf (ops : List Oper) (j : Nat) : List Nat := match ops[j]? with | some o => (match o.dst with | some d => [d] | none => []) | none => []
def readsOf (ops : List Oper) (o : Oper) : Nat := bits (tmpsOf o.op.operands.toList ++ (match o.guard with | some (g, _) => dstOf ops g | none => []))
def writesOf (o : Oper) : Nat := match o.dst with | some d => 2 ^ d | none => 0
/-- of two operations that name one slot, and of which one writes it, the elder one comes before the later one; each edge leads back -/
def slotsOK (ops : List Oper) (bf : List Nat) : Nat → List Oper → List (Nat × Nat × Nat) → Bool
  | _, [], _ => true
  | i, o :: r, l =>
    let rd := readsOf ops o
    let wr := writesOf o
    l.all (fun p => (Nat.beq (Nat.land p.2.2 (rd ||| wr)) 0 && Nat.beq (Nat.land p.2.1 wr) 0) || Nat.testBit (bf.getD i 0) p.1) &&
    slotsOK ops bf (i + 1) r ((i, rd, wr) :: l)
def beforeL : List Oper → List Nat → List Nat
  | [], acc => acc
  | o :: r, acc => beforeL r (acc ++ [o.after.toList.foldl (fun s e => bif Region.binds .any e then s ||| 2 ^ e.on ||| acc.getD e.on 0 else s) 0])
/-- each edge leads back -/
def edgesOK : Nat → List Oper → Bool
  | _, [] => true
  | i, o :: r => o.after.toList.all (fun e => !(Region.binds .any e) || Nat.blt e.on i) && edgesOK (i + 1) r
/-- the operations that are others' guards (as bits) -/
def gmask : List Oper → Nat
  | [] => 0
  | o :: r => match o.guard with | some (g, _) => 2 ^ g ||| gmask r | none => gmask r
def regOK (ops : List Oper) : Bool := edgesOK 0 ops && slotsOK ops (beforeL ops []) 0 ops []
def dsts : List Oper → List Nat
  | [] => []
  | o :: r => match o.dst with | some d => d :: dsts r | none => dsts r
def Out (ρ : Type) : Type := LS St ρ

/-! ### joins: several ways that end alike -/
/-- the types of slots in a state: only plain data -/
def tyOf : PV → Option Ty
  | .sc t _ => some t | .kb _ => some .bool | _ => none
/-- of the slots in question those that hold data of one type in all states -/
def fT {β : Type 1} : Ty → (Ty → β) → β
  | .bool, k => k .bool | .str, k => k .str | .unit, k => k .unit
  | .int i, k => (match i with | .u8 => k (.int .u8) | .u16 => k (.int .u16) | .u32 => k (.int .u32) | .u64 => k (.int .u64) | .i8 => k (.int .i8) | .i16 => k (.int .i16) | .i32 => k (.int .i32) | .i64 => k (.int .i64))
  | .sl e, k => fT e fun e => k (.sl e)
  | .pair a b, k => fT a fun a => fT b fun b => k (.pair a b)
  | .ar n e, k => fT e fun e => k (.ar n e)
theorem fT_eq {β : Type 1} (t : Ty) (k : Ty → β) : fT t k = k t := by
  induction t generalizing k with
  | int i => cases i <;> rfl
  | sl e h => simp only [fT, h]
  | pair a b h g => simp only [fT, h, g]
  | ar n e h => simp only [fT, h]
  | _ => rfl
def sameTy (i : Nat) (t : Ty) (s : St) : Bool := match tyOf (s.getT i) with | some t' => Ty.is t' t | none => false
def commonF {β : Type 1} (l : List St) : List Nat → (List (Nat × Ty) → β) → β
  | [], k => k []
  | i :: r, k => match l with
    | s :: m => (match tyOf (s.getT i) with
      | some t => bif m.all (sameTy i t) then commonF l r fun ks => fT t fun t => k ((i, t) :: ks) else commonF l r k
      | none => commonF l r k)
    | [] => k []
def denK : List (Nat × Ty) → Type
  | [] => Unit | p :: r => p.2.den × denK r
def zeroK : (l : List (Nat × Ty)) → denK l
  | [] => () | p :: r => (p.2.zero, zeroK r)
def getK (s : St) : (l : List (Nat × Ty)) → Option (denK l)
  | [] => some ()
  | p :: r => match toD p.2 (s.getT p.1), getK s r with | some x, some y => some (x, y) | _, _ => none
def setK {β : Type 1} (s : St) (k : St → β) : (l : List (Nat × Ty)) → denK l → β
  | [], _ => k s
  | p :: r, x => s.setTF p.1 (.sc p.2 x.1) fun s => setK s k r x.2
def R.omap {α β : Type} (f : α → Option β) : R α → R β
  | .fail => .fail
  | .leaf a => match f a with | some b => .leaf b | none => .fail
  | .br c x y => .br c (x.omap f) (y.omap f)
  | .chk c x => .chk c (x.omap f)
  | .bo d o k => .bo d o fun a => (k a).omap f
  | .cs d e o kn ke kr => .cs d e o (fun a => (kn a).omap f) (fun k a => (ke k a).omap f) (fun a => (kr a).omap f)
def wipe {β : Type 1} (s : St) : List Nat → (St → β) → β
  | [], k => k s
  | i :: r, k => s.setTF i .bad fun s => wipe s r k
/-- the ways of 't', which began in 's' and wrote only the slots 'all' (and no block), as one: what stands in the slots 'keep' goes on -/
def joinT (s : St) (all keep : List Nat) (t : R St) : R St :=
  t.leavesF fun l =>
  bif l.all (fun s' => Nat.beq s'.w.length s.w.length) then
    commonF l keep fun ks =>
    bif Nat.beq ks.length 0 then t else
    .bo (zeroK ks) (t.omap (fun s' => bif Nat.beq s'.w.length s.w.length then getK s' ks else none)).ev fun p => wipe s all fun s => setK s .leaf ks p
  else t

/-! ### regions -/
def lastDst : List Oper → List Nat
  | [] => []
  | [o] => (match o.dst with | some d => [d] | none => [])
  | _ :: r => lastDst r
/-- a slot written -/
def setD {β : Type} (nt : Nat) (dst : Option Nat) (s : St) (v : PV) (k : St → R β) : R β :=
  match dst with | some d => bif Nat.blt d nt then s.setTF d v k else .fail | none => k s
def footOf (draw : Bool) (i : Nat) (rb : List Nat) (wr : List (Nat × Blk)) (fp : List Foot) : List Foot :=
  bif draw then (match rb, wr with | [], [] => fp | _, _ => ⟨i, rb, wr.map fun p => p.1⟩ :: fp) else fp
def bval : PV → Option Bool
  | .sc .bool c => some c
  | _ => none
def guardK (ops : List Oper) (o : Oper) (s : St) (exec skip : R St) : R St :=
  match o.guard with
  | none => exec
  | some (j, want) => (match (ops[j]?).bind (·.dst) with
    | none => .fail
    | some g => (match s.getT g with
      | .kb b => bif b == want then exec else skip
      | .undef => skip
      | _ => .fail))
def runOps (E : Env) (ops : List Oper) (nv nt : Nat) (draw : Bool) : Bool → Nat → List Oper → St → List Foot → R St
  | _, _, [], s, fp => bif !draw || (regOK ops && ordOK (beforeL ops []) fp.reverse) then .leaf s else .fail
  | top, i, o :: rest, s, fp =>
    guardK ops o s
      (((opP E o).run s 0 [] []).bind fun r => s.setBsF r.2.wr fun s1 => fP r.1 fun v =>
        bif draw && !(Nat.beq (r.2.rt ||| readsOf ops o) (readsOf ops o)) then .fail else
        bif Nat.testBit (gmask ops) i && (bval v).isSome then
          (match bval v with
          | some c =>
            bif top then setD nt o.dst s1 (.sc .bool c) fun s2 => joinT s2 (dsts rest) ((dsts rest).filter fun k => Nat.blt k nv || (lastDst rest).any (Nat.beq k))
              (.br c (setD nt o.dst s1 (.kb true) fun s => runOps E ops nv nt draw false (i + 1) rest s (footOf draw i r.2.rb r.2.wr fp)) (setD nt o.dst s1 (.kb false) fun s => runOps E ops nv nt draw false (i + 1) rest s (footOf draw i r.2.rb r.2.wr fp)))
            else .br c (setD nt o.dst s1 (.kb true) fun s => runOps E ops nv nt draw false (i + 1) rest s (footOf draw i r.2.rb r.2.wr fp)) (setD nt o.dst s1 (.kb false) fun s => runOps E ops nv nt draw false (i + 1) rest s (footOf draw i r.2.rb r.2.wr fp))
          | none => .fail)
        else setD nt o.dst s1 v fun s => runOps E ops nv nt draw top (i + 1) rest s (footOf draw i r.2.rb r.2.wr fp))
      (setD nt o.dst s .undef fun s => runOps E ops nv nt draw top (i + 1) rest s fp)

/-! ### results -/
inductive RVar where
  | tmp (t : Nat) | cell (addr : Nat) (t : Nat)
def resD (E : Env) (s : St) : ResultVar → PM PV
  | .tmp t => .rt t .ret
  | .cell a t => (PM.opt (E.T t)).bind fun t => .rt a fun v => loadP t v
def takeP (e : Ty) : PV → PM (List e.den)
  | .own id _ => .rb id fun
    | .ob e' l => (PM.opt (Ty.castL e' e l)).bind fun x => .wb id .gone (.ret x)
    | _ => .fail
  | .osl id off n => .rb id fun
    | .ob e' l => (PM.opt (Ty.castL e' e l)).bind fun x => .wb id .gone (.ret (cut x off n))
    | _ => .fail
  | .nil => .ret []
  | _ => .fail
def clP (e : Ty) : PV → PM (List e.den)
  | .csl e' l => PM.opt (Ty.castL e' e l)
  | .nil => .ret []
  | _ => .fail
/-- as a result of a kind -/
def toR : (r : RTy) → PV → PM r.den
  | .im t, v => toDM true t v
  | .ow e, v => takeP e v
  | .cl e, v => clP e v
def PM.here {α : Type} (s : St) (m : PM α) : R (α × St) := (m.run s 0 [] []).bind fun r => s.setBsF r.2.wr fun s => .leaf (r.1, s)
/-- the results' values first (their slots read), then each as its kind -/
def rets (s : St) : (rs : List RTy) → List PV → R (denR rs)
  | [], [] => .leaf ()
  | r :: rs, v :: vs => (PM.here s (toR r v)).bind fun x => (rets x.2 rs vs).bind fun y => .leaf (x.1, y)
  | _, _ => .fail
def resV (E : Env) (s : St) : List ResultVar → R (List PV)
  | [] => .leaf []
  | r :: rs => (PM.here s (resD E s r)).bind fun v => (resV E s rs).bind fun vs => .leaf (v.1 :: vs)

/-! ### what a loop's round turns: the shape of its state -/
def assigned : Code → List Nat
  | .region _ ops _ => dsts ops.toList
  | .seq a b => assigned a ++ assigned b
  | .cond _ a b => assigned a ++ assigned b
  | .block _ b => assigned b
  | .loop b => assigned b
  | .scope b => assigned b
  | .rangeFunc _ ps a b => ps.toList ++ assigned a ++ assigned b
  | _ => []
def dedup : List Nat → List Nat
  | [] => []
  | i :: r => bif r.any (Nat.beq i) then dedup r else i :: dedup r
/-- the content of a variable in memory: plain data, a slice of the call's own, or two parts -/
inductive Sh where
  | d (t : Ty) | o (id : Nat) (e : Ty) | p (a b : Sh)
  deriving Inhabited
def Sh.den : Sh → Type
  | .d t => t.den | .o _ e => List e.den | .p a b => a.den × b.den
def Sh.zero : (s : Sh) → s.den
  | .d t => t.zero | .o _ e => ([] : List e.den) | .p a b => (a.zero, b.zero)
/-- an entry: a slot with plain data; a slot with a slice of its own; a block with a slice; a variable in memory; a place in a string -/
inductive En where
  | sl (i : Nat) (t : Ty) | ow (i id : Nat) (e : Ty) | bk (id : Nat) (e : Ty) | bx (id : Nat) (t : Ty) (s : Sh) | it (id : Nat) (s : List UInt8)
  deriving Inhabited
def En.den : En → Type
  | .sl _ t => t.den | .ow _ _ e => List e.den | .bk _ e => List e.den | .bx _ _ s => s.den | .it _ _ => Nat
def En.zero : (e : En) → e.den
  | .sl _ t => t.zero | .ow _ _ e => ([] : List e.den) | .bk _ e => ([] : List e.den) | .bx _ _ s => s.zero | .it _ _ => (0 : Nat)
def denE : List En → Type
  | [] => Unit | e :: r => e.den × denE r
def zeroE : (l : List En) → denE l
  | [] => () | e :: r => (e.zero, zeroE r)
/-- the shape of what stands at the head (a), where the round's end has (b) (ids: the new block's number) -/
def shOf (h1 h2 : St) : Nat → Nat → PV → PV → Option Sh
  | 0, _, _, _ => none
  | fu + 1, n, .two a b, .two c d => match shOf h1 h2 fu (2 * n) a c, shOf h1 h2 fu (2 * n + 1) b d with
    | some (.d t), some (.d u) => some (.d (.pair t u))
    | some x, some y => some (.p x y) | _, _ => none
  | fu + 1, n, .two a b, .sc (.pair s t) x => match shOf h1 h2 fu (2 * n) a (.sc s x.1), shOf h1 h2 fu (2 * n + 1) b (.sc t x.2) with
    | some (.d t), some (.d u) => some (.d (.pair t u))
    | some x, some y => some (.p x y) | _, _ => none
  | fu + 1, n, .sc (.pair s t) x, .two c d => match shOf h1 h2 fu (2 * n) (.sc s x.1) c, shOf h1 h2 fu (2 * n + 1) (.sc t x.2) d with
    | some (.d t), some (.d u) => some (.d (.pair t u))
    | some x, some y => some (.p x y) | _, _ => none
  | _ + 1, _, .sc t _, .sc t' _ => bif Ty.is t t' then some (.d t) else none
  | _ + 1, _, .sc t _, .kb _ => bif Ty.is t .bool then some (.d .bool) else none
  | _ + 1, _, .kb _, .sc t _ => bif Ty.is t .bool then some (.d .bool) else none
  | _ + 1, _, .kb _, .kb _ => some (.d .bool)
  | _ + 1, _, .nil, .sc (.sl e) _ => some (.d (.sl e))
  | _ + 1, _, .sc (.sl e) _, .nil => some (.d (.sl e))
  | _ + 1, n, .nil, .own id _ => (match h2.getB id with | .ob e _ => some (.o n e) | .fz e _ => some (.d (.sl e)) | _ => none)
  | _ + 1, n, .own id _, .nil => (match h1.getB id with | .ob e _ => some (.o n e) | .fz e _ => some (.d (.sl e)) | _ => none)
  | _ + 1, n, .own id _, .own id' _ => (match h1.getB id, h2.getB id' with
      | .ob e _, .ob e' _ => bif Ty.is e e' then some (.o n e) else none
      | .fz e _, .ob e' _ => bif Ty.is e e' then some (.d (.sl e)) else none
      | .ob e _, .fz e' _ => bif Ty.is e e' then some (.d (.sl e)) else none
      | .fz e _, .fz e' _ => bif Ty.is e e' then some (.d (.sl e)) else none
      | _, _ => none)
  | _ + 1, _, .sc (.sl e) _, .own id _ => (match h2.getB id with | .ob e' _ => bif Ty.is e e' then some (.d (.sl e)) else none | .fz e' _ => bif Ty.is e e' then some (.d (.sl e)) else none | _ => none)
  | _ + 1, _, .own id _, .sc (.sl e) _ => (match h1.getB id with | .ob e' _ => bif Ty.is e e' then some (.d (.sl e)) else none | .fz e' _ => bif Ty.is e e' then some (.d (.sl e)) else none | _ => none)
  | _ + 1, _, .osl _ _ _, .osl _ _ _ => none
  | _ + 1, _, _, _ => none
def shTy : Sh → Ty
  | .d t => t | .o _ e => .sl e | .p a b => .pair (shTy a) (shTy b)
def shIds : Sh → List Nat
  | .d _ => [] | .o id _ => [id] | .p a b => shIds a ++ shIds b
/-- numbers of blocks that are new with a round, and of those that were there -/
def nids : List En → List Nat
  | [] => []
  | .ow _ id _ :: r => id :: nids r
  | .bx _ _ sh :: r => shIds sh ++ nids r
  | _ :: r => nids r
def oids : List En → List Nat
  | [] => []
  | .bk id _ :: r => id :: oids r
  | .bx id _ _ :: r => id :: oids r
  | .it id _ :: r => id :: oids r
  | _ :: r => oids r
def enSlots : List En → List Nat
  | [] => []
  | .sl i _ :: r => i :: enSlots r
  | .ow i _ _ :: r => i :: enSlots r
  | _ :: r => enSlots r
def isNew : Blk → Bool
  | .new => true | _ => false
def isBk : En → Bool
  | .bk _ _ => true | _ => false
def nodupB : List Nat → Bool
  | [] => true
  | i :: r => !(r.any (Nat.beq i)) && nodupB r
def headOK (base : St) (es : List En) (asg : List Nat) : Bool :=
  nodupB (nids es ++ oids es) && (nids es).all (fun id => isNew (base.getB id)) && (oids es).all (fun id => !(isNew (base.getB id))) && (enSlots es).all (fun i => asg.any (Nat.beq i))
/-- of what was there no other block was written -/
def endOK (base : St) (es : List En) (s : St) : Bool :=
  (s.w.take (s.w.length - base.w.length)).all fun id => isNew (base.getB id) || (oids es).any (Nat.beq id)
/-- take out: the content as the shape has it; what it owned is consumed -/
def ownS (e : Ty) : PV → PM (List e.den)
  | .nil => bif Nat.blt 0 e.size then .ret [] else .fail
  | .own id _ => .rb id fun | .ob e' l => (PM.opt (Ty.castL e' e l)).bind fun x => .wb id .gone (.ret x) | _ => .fail
  | _ => .fail
def splitP : PV → Option (PV × PV)
  | .two u v => some (u, v)
  | .sc (.pair t u) x => some (.sc t x.1, .sc u x.2)
  | _ => none
def outS : (sh : Sh) → PV → PM sh.den
  | .d t, v => toDM true t v
  | .o _ e, v => ownS e v
  | .p a b, v => match splitP v with
    | some (u, w) => (outS a u).bind fun x => (outS b w).bind fun y => .ret (x, y)
    | none => .fail
/-- lay back -/
def inS : (sh : Sh) → sh.den → PV × List (Nat × Blk)
  | .d t, x => (.sc t x, [])
  | .o id e, l => (.own id false, [(id, .ob e l)])
  | .p a b, x => (.two (inS a x.1).1 (inS b x.2).1, (inS a x.1).2 ++ (inS b x.2).2)
def outE (s : St) : (e : En) → R (e.den × St)
  | .sl i t => PM.here s (.rt i fun v => toDM true t v)
  | .ow i _ e => PM.here s (.rt i fun v => ownS e v)
  | .bk id e => PM.here s (.rb id fun | .ob e' l => PM.opt (Ty.castL e' e l) | _ => .fail)
  | .bx id t sh => PM.here s (.rb id fun | .box t' v => bif Ty.is t' t && Ty.is (shTy sh) t then outS sh v else .fail | _ => .fail)
  | .it id _ => PM.here s (.rb id fun | .it _ p => .ret p | _ => .fail)
def outL (s : St) : (l : List En) → R (denE l × St)
  | [] => .leaf ((), s)
  | e :: r => bif isBk e then (outL s r).bind fun y => (outE y.2 e).bind fun x => .leaf ((x.1, y.1), x.2)
    else (outE s e).bind fun x => (outL x.2 r).bind fun y => .leaf ((x.1, y.1), y.2)
/-- a number for a block that no block had -/
def newId (h : List (Nat × Blk)) : Nat → Nat → Nat
  | 0, i => i
  | n + 1, i => match look h i with | .new => i | _ => newId h n (i + 1000000)
def inE {β : Type 1} (s : St) : (e : En) → e.den → (St → β) → β
  | .sl i t, x, k => s.setTF i (.sc t x) k
  | .ow i id e, l, k => s.setBF id (.ob e l) fun s => s.setTF i (.own id false) k
  | .bk id e, l, k => s.setBF id (.ob e l) k
  | .bx id t sh, x, k => s.setBsF (inS sh x).2 fun s => s.setBF id (.box t (inS sh x).1) k
  | .it id _, p, k => (match s.getB id with | .it str _ => s.setBF id (.it str p) k | _ => k s)
def inL {β : Type 1} (s : St) : (l : List En) → denE l → (St → β) → β
  | [], _, k => k s
  | e :: r, x, k => inE s e x.1 fun s => inL s r x.2 k
/-- the entries for the slots that a round writes: by what stands there at the head (s) and at ends of rounds -/
def slotEn (s : St) (ends : List St) : List Nat → List En
  | [] => []
  | i :: r =>
    let rest := slotEn s ends r
    match ends with
    | [] => (match s.getT i with | .sc t _ => .sl i t :: rest | .kb _ => .sl i .bool :: rest | _ => rest)
    | s' :: _ => match shOf s s' 60 (newId s.h 9 (16 * i + 15)) (s.getT i) (s'.getT i) with
      | some (.d t) => .sl i t :: rest
      | some (.o id e) => .ow i id e :: rest
      | _ => rest
/-- and for blocks: those that were there at the head and were written -/
def blkEn (s : St) (ends : List St) (taken : List Nat) : List (Nat × Blk) → List En
  | [] => []
  | (id, b) :: r =>
    let rest := blkEn s ends taken r
    bif ends.any (fun s' => (s'.w.take (s'.w.length - s.w.length)).any (Nat.beq id)) && !(taken.any (Nat.beq id)) then
      match b, ends with
      | .box t v, s' :: _ => (match s'.getB id with
        | .box _ v' => (match shOf s s' 60 (newId s.h 9 (1000003 * (id + 1))) v v' with | some sh => .bx id t sh :: rest | none => rest)
        | _ => rest)
      | .box t v, [] => (match shOf s s 60 (newId s.h 9 (1000003 * (id + 1))) v v with | some sh => .bx id t sh :: rest | none => rest)
      | .ob e _, _ => .bk id e :: rest
      | .it str _, _ => .it id str :: rest
      | _, _ => rest
    else rest
def ownIds (s : St) : List En → List Nat
  | [] => []
  | .ow i _ _ :: r => (match s.getT i with | .own id _ => id :: ownIds s r | _ => ownIds s r)
  | .bx id _ _ :: r => id :: ownIds s r
  | _ :: r => ownIds s r
def fSh {β : Type 1} : Sh → (Sh → β) → β
  | .d t, k => fT t fun t => k (.d t)
  | .o i e, k => fT e fun e => k (.o i e)
  | .p a b, k => fSh a fun a => fSh b fun b => k (.p a b)
theorem fSh_eq {β : Type 1} (t : Sh) (k : Sh → β) : fSh t k = k t := by
  induction t generalizing k with
  | d t => simp only [fSh, fT_eq]
  | o i e => simp only [fSh, fT_eq]
  | p a b ha hb => simp only [fSh, ha, hb]
def fEs {β : Type 1} : List En → (List En → β) → β
  | [], k => k []
  | .sl i t :: r, k => fT t fun t => fEs r fun r => k (.sl i t :: r)
  | .ow i id e :: r, k => fT e fun e => fEs r fun r => k (.ow i id e :: r)
  | .bk i e :: r, k => fT e fun e => fEs r fun r => k (.bk i e :: r)
  | .bx i t s :: r, k => fSh s fun s => fEs r fun r => k (.bx i t s :: r)
  | .it i s :: r, k => fEs r fun r => k (.it i s :: r)
theorem fEs_eq {β : Type 1} (l : List En) (k : List En → β) : fEs l k = k l := by
  induction l generalizing k with
  | nil => rfl
  | cons e r ih => cases e <;> simp only [fEs, fT_eq, fSh_eq, ih]
def nxOf {ρ : Type} : List (Out ρ) → List St
  | [] => []
  | .nx s :: r => s :: nxOf r
  | _ :: r => nxOf r
def nxO {ρ : Type} : Out ρ → Option St
  | .nx s => some s
  | _ => none
def exOf {ρ : Type} : List (Out ρ) → List Nat
  | [] => []
  | .ex k _ :: r => bif (exOf r).any (Nat.beq k) then exOf r else k :: exOf r
  | _ :: r => exOf r
def stOf {ρ : Type} : List (Out ρ) → List St
  | [] => []
  | .nx s :: r => s :: stOf r
  | .ex _ s :: r => s :: stOf r
  | _ :: r => stOf r

/-! ### loops -/
def loopN {σ ρ : Type} (f : σ → Option (LS σ ρ)) : Nat → σ → Option (LS σ ρ)
  | 0, _ => none
  | n + 1, x => match f x with
    | some (.nx x') => loopN f n x'
    | r => r
open Classical in
/-- the round, as often as it goes on; nothing if it never ends -/
noncomputable def loop {σ ρ : Type} (f : σ → Option (LS σ ρ)) (x : σ) : Option (LS σ ρ) :=
  if h : ∃ n, (loopN f n x).isSome then loopN f (choose h) x else none
/-- the entries of a loop's head -/
def entries {ρ : Type} (s : St) (l0 : List (Out ρ)) (asg : List Nat) : List En :=
  let en := slotEn s (nxOf l0) asg
  let eb := blkEn s (stOf l0) (ownIds s en) s.h
  en ++ (eb.filter (fun e => !(isBk e)) ++ eb.filter isBk)
/-- a round's end -/
def roundEnd {ρ : Type} (base : St) (es : List En) : Out ρ → R (LS (denE es) ρ)
  | .nx s' => (outL s' es).bind fun y => bif endOK base es y.2 then .leaf (LS.nx y.1) else .fail
  | .ex k s' => (outL s' es).bind fun y => bif endOK base es y.2 then .leaf (LS.ex k y.1) else .fail
  | .rt r => .leaf (LS.rt r)
def exits {ρ : Type} (k : Nat) (s : St) : List Nat → R (Out ρ)
  | [] => .fail
  | [i] => .chk (neb k i) (.leaf (.ex i s))
  | i :: r => .br (neb k i) (.leaf (.ex i s)) (exits k s r)
section
variable (E : Env) (rs : List RTy) (res : List ResultVar) (nv nt : Nat)
noncomputable def run : Code → St → R (Out (denR rs))
  | .skip, s => .leaf (.nx s)
  | .label _, s => .leaf (.nx s)
  | .region _ ops draw, s => (runOps E ops.toList nv nt draw true 0 ops.toList s []).bind fun s => .leaf (.nx s)
  | .seq a b, s => (run a s).bind fun
    | .nx s' => run b s'
    | o => .leaf o
  | .cond c a b, s => (PM.here s (opd c)).bind fun r => match r.1 with
    | .kb v => bif v then run a s else run b s
    | .sc .bool v =>
      let x := run a s
      let y := run b s
      x.leavesF fun l => y.leavesF fun m =>
      bif Nat.blt 0 (nxOf l).length && Nat.blt 0 (nxOf m).length then
        bif Nat.beq (nxOf l).length l.length && Nat.beq (nxOf m).length m.length then
          (joinT s (dedup (assigned a ++ assigned b)) ((dedup (assigned a ++ assigned b)).filter fun k => Nat.blt k nv)
            (.br v (x.omap nxO) (y.omap nxO))).bind fun s => .leaf (.nx s)
        else .br v x y
      else .br v x y
    | _ => .fail
  | .block id b, s => (run b s).bind fun
    | .ex k s' => bif Nat.beq k id then .leaf (.nx s') else .leaf (.ex k s')
    | o => .leaf o
  | .exit id, s => .leaf (.ex id s)
  | .ret, s => (resV E s res).bind fun vs => (rets s rs vs).bind fun r => .leaf (.rt r)
  | .loop b, s =>
    (run b s).leavesF fun l0 =>
    fEs (entries s l0 (dedup (assigned b))) fun es =>
    (outL s es).bind fun x0 => wipe x0.2 (dedup (assigned b)) fun base =>
      bif headOK base es (dedup (assigned b)) then
        .cs (zeroE es) (zeroR rs) (loop (fun x => (inL base es x fun s => R.bind (run b s) (roundEnd base es)).ev) x0.1) (fun _ => .fail) (fun k x => inL base es x fun s => exits k s (exOf l0)) (fun r => .leaf (.rt r))
      else .fail
  | _, _ => .fail
end
def argsPV : (ts : List Ty) → denL ts → List PV
  | [], _ => []
  | t :: ts, x => .sc t x.1 :: argsPV ts x.2
/-- the slots at the beginning: the arguments, and nothing -/
def fillU {β : Type 1} : Nat → Nat → Tr → (Tr → β) → β
  | 0, _, t, k => k t
  | n + 1, i, t, k => setF 40 t i .undef fun t => fillU n (i + 1) t k
def fill {β : Type 1} (n : Nat) : List PV → Nat → Tr → (Tr → β) → β
  | [], i, t, k => fillU (n - i) i t k
  | v :: r, i, t, k => fP v fun v => setF 40 t i v fun t => fill n r (i + 1) t k
/-- what a function comes to -/
noncomputable def model (E : Env) (fn : Func) (nv : Nat) (ts : List Ty) (rs : List RTy) (x : denL ts) : Option (denR rs) :=
  match fn.body with
  | none => none
  | some c => bif !(Nat.ble fn.ntmps 1000000) then none else (fill fn.ntmps (argsPV ts x) 0 .e fun t => R.bind (run E rs fn.results.toList nv fn.ntmps c ⟨t, [], []⟩) fun
      | .rt r => .leaf r
      | .nx s => (resV E s fn.results.toList).bind fun vs => rets s rs vs
      | .ex _ _ => .fail).ev
end Yp
