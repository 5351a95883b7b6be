/- The engine, part A: types of plain data, values of the symbolic evaluator, its operations. -/
import Derived.WalkKit
set_option linter.unusedVariables false
set_option linter.unusedSimpArgs false
namespace Yp
open Go

/-! ### payload functions: what stays in a normal form -/
def i64 (n : Int) : Int := IntKind.i64.wrap n
def i32 (n : Int) : Int := IntKind.i32.wrap n
def i16 (n : Int) : Int := IntKind.i16.wrap n
def i8 (n : Int) : Int := IntKind.i8.wrap n
def u8 (n : Int) : UInt8 := UInt8.ofInt n
def u16 (n : Int) : UInt16 := UInt16.ofInt n
def u32 (n : Int) : UInt32 := UInt32.ofInt n
def u64 (n : Int) : UInt64 := UInt64.ofInt n
def n8 (x : UInt8) : Int := (x.toNat : Int)
def n16 (x : UInt16) : Int := (x.toNat : Int)
def n32 (x : UInt32) : Int := (x.toNat : Int)
def n64 (x : UInt64) : Int := (x.toNat : Int)

def nat (n : Int) : Nat := n.toNat
def ofn (n : Nat) : Int := (n : Int)
def iadd (a b : Int) : Int := a + b
def isub (a b : Int) : Int := a - b
def imul (a b : Int) : Int := a * b
def idiv (a b : Int) : Int := Int.tdiv a b
def imod (a b : Int) : Int := Int.tmod a b
def nadd (a b : Nat) : Nat := a + b
def nsub (a b : Nat) : Nat := a - b
def nlt (a b : Nat) : Bool := Nat.blt a b
def neb (a b : Nat) : Bool := Nat.beq a b
def bnot (a : Bool) : Bool := !a
def band (a b : Bool) : Bool := a && b
def bor (a b : Bool) : Bool := a || b
def beb (a b : Bool) : Bool := a == b
def lt (a b : Int) : Bool := decide (a < b)
def le (a b : Int) : Bool := decide (a ≤ b)
def beq (a b : Int) : Bool := a == b
def seq (a b : List UInt8) : Bool := a == b
/-- no elements -/
def none' (α : Type) : List α := []
def ln {α : Type} (l : List α) : Nat := l.length
/-- have so many elements room? ('c': an element's bytes) -/
def rm (c n : Nat) : Bool := decide (n * c ≤ 140737488355328)
def inB (i : Int) (n : Int) : Bool := decide (0 ≤ i) && decide (i < n)
/-- may it be cut from lo to hi, of n? -/
def inC (lo hi n : Int) : Bool := decide (0 ≤ lo) && decide (lo ≤ hi) && decide (hi ≤ n)
def minI (a b : Int) : Int := if b < a then b else a
def maxI (a b : Int) : Int := if b > a then b else a
def andI (k : IntKind) (x y : Int) : Int := ((BitVec.ofInt k.bits x &&& BitVec.ofInt k.bits y).toNat : Int)
def orI (k : IntKind) (x y : Int) : Int := ((BitVec.ofInt k.bits x ||| BitVec.ofInt k.bits y).toNat : Int)
def xorI (k : IntKind) (x y : Int) : Int := ((BitVec.ofInt k.bits x ^^^ BitVec.ofInt k.bits y).toNat : Int)
def notI (k : IntKind) (x y : Int) : Int := ((BitVec.ofInt k.bits x &&& ~~~(BitVec.ofInt k.bits y)).toNat : Int)
def shlI (k : IntKind) (x y : Int) : Int := x * 2 ^ (Nat.min y.toNat k.bits)
def shrI (k : IntKind) (x y : Int) : Int := Int.fdiv x (2 ^ (Nat.min y.toNat k.bits))
def decode (s : List UInt8) (i : Nat) : Nat × Nat := Utf8.decode ⟨s.toArray⟩ i
def bytesLess (a b : List UInt8) : Bool := Op.bytesLess a b
def sub {α : Type} (l : List α) (lo hi : Int) : List α := (l.drop lo.toNat).take (hi.toNat - lo.toNat)
def all2 {α : Type} (f : α → α → Bool) (a b : List α) : Bool := (a.zip b).all fun p => f p.1 p.2
def app {α : Type} (l m : List α) : List α := l ++ m
def nth {α : Type} (l : List α) (i : Nat) (d : α) : α := l.getD i d
def upd {α : Type} (l : List α) (i : Nat) (x : α) : List α := l.set i x
def rep {α : Type} (n : Nat) (x : α) : List α := List.replicate n x
def cut {α : Type} (l : List α) (off n : Nat) : List α := (l.drop off).take n
def len {α : Type} (l : List α) : Int := (l.length : Int)
/-- one of two, by a test that is not known ahead -/
def sel {α : Type} (c : Bool) (a b : α) : α := bif c then a else b
def ck {α : Type} (c : Bool) (a : Option α) : Option α := bif c then a else none
/-- a value that may lack, and what is done with it -/
def ob {α β : Type} (o : Option α) (k : α → Option β) : Option β := match o with | some a => k a | none => none

def KD : IntKind → Type
  | .u8 => UInt8 | .u16 => UInt16 | .u32 => UInt32 | .u64 => UInt64
  | .i8 => Int | .i16 => Int | .i32 => Int | .i64 => Int
/-- wraps -/
def KD.of : (k : IntKind) → Int → KD k
  | .u8, n => u8 n | .u16, n => u16 n | .u32, n => u32 n | .u64, n => u64 n
  | .i8, n => i8 n | .i16, n => i16 n | .i32, n => i32 n | .i64, n => i64 n
/-- of a number that fits -/
def KD.lit : (k : IntKind) → Int → KD k
  | .u8, n => u8 n | .u16, n => u16 n | .u32, n => u32 n | .u64, n => u64 n
  | .i8, n => n | .i16, n => n | .i32, n => n | .i64, n => n
def KD.to : (k : IntKind) → KD k → Int
  | .u8, x => n8 x | .u16, x => n16 x | .u32, x => n32 x | .u64, x => n64 x
  | .i8, x => x | .i16, x => x | .i32, x => x | .i64, x => x
def KD.zero : (k : IntKind) → KD k
  | .u8 => u8 0 | .u16 => u16 0 | .u32 => u32 0 | .u64 => u64 0
  | .i8 => (0 : Int) | .i16 => (0 : Int) | .i32 => (0 : Int) | .i64 => (0 : Int)

/-! ### types of plain data -/
inductive Ty where
  | bool | int (k : IntKind) | str | sl (e : Ty) | unit | pair (a b : Ty) | ar (n : Nat) (e : Ty)
  deriving Inhabited

def Ty.den : Ty → Type
  | .bool => Bool
  | .int k => KD k
  | .str => List UInt8
  | .sl e => List e.den
  | .unit => Unit
  | .pair a b => a.den × b.den
  | .ar _ e => List e.den
def Ty.zero : (t : Ty) → t.den
  | .bool => false
  | .int k => KD.zero k
  | .str => ([] : List UInt8)
  | .sl e => ([] : List e.den)
  | .unit => ()
  | .pair a b => (a.zero, b.zero)
  | .ar n e => List.replicate n e.zero
instance (t : Ty) : Inhabited t.den := ⟨t.zero⟩
def Ty.size : Ty → Nat
  | .bool => 1 | .int _ => 1 | .str => 1 | .sl _ => 1 | .unit => 0
  | .pair a b => a.size + b.size
  | .ar n e => n * e.size
/-- at most so many bytes -/
def Ty.bytes : Ty → Nat
  | .bool => 1 | .int .u8 => 1 | t => 24 * t.size + 8
def Ty.isAgg : Ty → Bool
  | .unit => true | .pair _ _ => true | .ar _ _ => true | _ => false
/-- no slice within -/
def Ty.flat : Ty → Bool
  | .sl _ => false | .pair a b => a.flat && b.flat | .ar _ e => e.flat | _ => true
def Ty.same : (a b : Ty) → Option (PLift (a = b))
  | .bool, .bool => some ⟨rfl⟩
  | .str, .str => some ⟨rfl⟩
  | .unit, .unit => some ⟨rfl⟩
  | .int k, .int k' => if h : k = k' then some ⟨h ▸ rfl⟩ else none
  | .sl a, .sl b => match Ty.same a b with | some ⟨h⟩ => some ⟨h ▸ rfl⟩ | none => none
  | .pair a b, .pair c d => match Ty.same a c, Ty.same b d with | some ⟨h⟩, some ⟨h'⟩ => some ⟨h ▸ h' ▸ rfl⟩ | _, _ => none
  | .ar n a, .ar m b => if h : n = m then (match Ty.same a b with | some ⟨h'⟩ => some ⟨h ▸ h' ▸ rfl⟩ | none => none) else none
  | _, _ => none
def Ty.is (a b : Ty) : Bool := (Ty.same a b).isSome
/-- a value of one type as one of another, if they are the same -/
def Ty.cast (a b : Ty) (x : a.den) : Option b.den := match Ty.same a b with | some ⟨h⟩ => some (h ▸ x) | none => none
def Ty.castL (a b : Ty) (x : List a.den) : Option (List b.den) := match Ty.same a b with | some ⟨h⟩ => some (h ▸ x) | none => none
/-- are two values the same, as Go's == has it? (no slices) -/
def Ty.eqd : (t : Ty) → t.den → t.den → Bool
  | .bool, a, b => beb a b
  | .int k, a, b => beq (KD.to k a) (KD.to k b)
  | .str, a, b => seq a b
  | .sl _, _, _ => false
  | .unit, _, _ => true
  | .pair s t, a, b => band (s.eqd a.1 b.1) (t.eqd a.2 b.2)
  | .ar _ e, a, b => all2 (fun p q => e.eqd p q) (a : List e.den) (b : List e.den)
def Ty.cmp : Ty → Bool
  | .sl _ => false | .pair a b => a.cmp && b.cmp | .ar _ e => e.cmp | _ => true

/-! ### results of functions -/
inductive RTy where
  | im (t : Ty)      -- nobody writes into it
  | ow (e : Ty)      -- a slice in memory that the call made: whoever has it may write
  | cl (e : Ty)      -- a slice as long as its capacity
  deriving Inhabited
def RTy.den : RTy → Type
  | .im t => t.den | .ow e => List e.den | .cl e => List e.den
def denL : List Ty → Type
  | [] => Unit | t :: ts => t.den × denL ts
def denR : List RTy → Type
  | [] => Unit | t :: ts => t.den × denR ts
def RTy.zero : (t : RTy) → t.den
  | .im t => t.zero | .ow e => ([] : List e.den) | .cl e => ([] : List e.den)
def zeroR : (l : List RTy) → denR l
  | [] => () | t :: ts => (t.zero, zeroR ts)
instance (l : List RTy) : Inhabited (denR l) := ⟨zeroR l⟩
def RTy.flat : RTy → Bool
  | .im t => t.flat | _ => false
structure FSpec where
  args : List Ty
  res : List RTy
  fn : denL args → Option (denR res)
structure Env where
  T : Nat → Option Ty
  G : Nat → Option FSpec

def lookT : List (Nat × Ty) → Nat → Option Ty
  | [], _ => none
  | (i, t) :: r, j => bif Nat.beq i j then some t else lookT r j
def lookG : List (Nat × FSpec) → Nat → Option FSpec
  | [], _ => none
  | (i, t) :: r, j => bif Nat.beq i j then some t else lookG r j

/-! ### the evaluator's values -/
inductive Sel where
  | fst | snd | ix (i : Nat)
inductive PV where
  | bad | undef
  | kb (b : Bool)
  | sc (t : Ty) (x : t.den)
  | nil
  | own (id : Nat) (ne : Bool)
  | osl (id off len : Nat)
  | csl (e : Ty) (l : List e.den)
  | ptr (id : Nat) (p : List Sel)
  | opt (id i : Nat) (p : List Sel)
  | ipt (e : Ty) (l : List e.den) (i : Nat) (p : List Sel)
  | itp (id : Nat)
  | two (a b : PV)
  | agg (t : Ty) (a : PV)
  | tup (a : PV)
  | clo (f : Nat)
  deriving Inhabited
inductive Blk where
  | new        -- there is none yet of that number
  | gone       -- it was, and is nobody's any more
  | box (t : Ty) (v : PV)
  | ob (e : Ty) (l : List e.den)
  | fz (e : Ty) (l : List e.den)
  | it (s : List UInt8) (pos : Nat)
  deriving Inhabited
/-- the slots, as a tree: number 0 here, odd ones left, even ones right -/
inductive Tr where
  | e
  | n (v : PV) (l r : Tr)
  deriving Inhabited
def Tr.get : Nat → Tr → Nat → PV
  | 0, _, _ => .bad
  | _ + 1, .e, _ => .bad
  | f + 1, .n v l r, i => bif Nat.beq i 0 then v else bif Nat.beq (i % 2) 1 then l.get f (i / 2) else r.get f (i / 2 - 1)
def Tr.set : Nat → Tr → Nat → PV → Tr
  | 0, t, _, _ => t
  | f + 1, .e, i, u => bif Nat.beq i 0 then .n u .e .e else bif Nat.beq (i % 2) 1 then .n .bad (Tr.set f .e (i / 2) u) .e else .n .bad .e (Tr.set f .e (i / 2 - 1) u)
  | f + 1, .n v l r, i, u => bif Nat.beq i 0 then .n u l r else bif Nat.beq (i % 2) 1 then .n v (l.set f (i / 2) u) r else .n v l (r.set f (i / 2 - 1) u)
structure St where
  t : Tr
  h : List (Nat × Blk)
  w : List Nat       -- blocks written, the latest first
  deriving Inhabited
def St.getT (s : St) (i : Nat) : PV := s.t.get 40 i
def look : List (Nat × Blk) → Nat → Blk
  | [], _ => .new
  | (i, b) :: r, j => bif Nat.beq i j then b else look r j
def St.getB (s : St) (id : Nat) : Blk := look s.h id
def St.setT (s : St) (i : Nat) (v : PV) : St := { s with t := s.t.set 40 i v }
def putB : List (Nat × Blk) → Nat → Blk → List (Nat × Blk)
  | [], j, b => [(j, b)]
  | (i, c) :: r, j, b => bif Nat.beq i j then (j, b) :: r else (i, c) :: putB r j b
def St.setB (s : St) (id : Nat) (b : Blk) : St := { s with h := putB s.h id b, w := id :: s.w }
/-- (the latest one stands first) -/
def St.setBs (s : St) : List (Nat × Blk) → St
  | [] => s
  | (i, b) :: r => (s.setBs r).setB i b

/-! the same with all that is known worked out first (for the kernel: else the same things are worked out again and again) -/
def fP {β : Type 1} : PV → (PV → β) → β
  | .bad, k => k .bad
  | .undef, k => k .undef
  | .kb true, k => k (.kb true)
  | .kb false, k => k (.kb false)
  | .sc t x, k => k (.sc t x)
  | .nil, k => k .nil
  | .own id ne, k => k (.own id ne)
  | .osl id off n, k => k (.osl id off n)
  | .csl e l, k => k (.csl e l)
  | .ptr id p, k => k (.ptr id p)
  | .opt id i p, k => k (.opt id i p)
  | .ipt e l i p, k => k (.ipt e l i p)
  | .itp id, k => k (.itp id)
  | .two a b, k => fP a fun a => fP b fun b => k (.two a b)
  | .agg t a, k => fP a fun a => k (.agg t a)
  | .tup a, k => fP a fun a => k (.tup a)
  | .clo f, k => k (.clo f)
theorem fP_eq {β : Type 1} (v : PV) (k : PV → β) : fP v k = k v := by
  induction v generalizing k with
  | kb b => cases b <;> rfl
  | two a b ha hb => simp only [fP, ha, hb]
  | agg t a ha => simp only [fP, ha]
  | tup a ha => simp only [fP, ha]
  | _ => rfl
def fB {β : Type 1} : Blk → (Blk → β) → β
  | .new, k => k .new
  | .gone, k => k .gone
  | .box t v, k => fP v fun v => k (.box t v)
  | .ob e l, k => k (.ob e l)
  | .fz e l, k => k (.fz e l)
  | .it s p, k => k (.it s p)
theorem fB_eq {β : Type 1} (v : Blk) (k : Blk → β) : fB v k = k v := by cases v <;> simp only [fB, fP_eq]
def setF {β : Type 1} : Nat → Tr → Nat → PV → (Tr → β) → β
  | 0, t, _, _, k => k t
  | f + 1, .e, i, u, k => bif Nat.beq i 0 then k (.n u .e .e) else bif Nat.beq (i % 2) 1 then setF f .e (i / 2) u fun l => k (.n .bad l .e) else setF f .e (i / 2 - 1) u fun r => k (.n .bad .e r)
  | f + 1, .n v l r, i, u, k => bif Nat.beq i 0 then k (.n u l r) else bif Nat.beq (i % 2) 1 then setF f l (i / 2) u fun l => k (.n v l r) else setF f r (i / 2 - 1) u fun r => k (.n v l r)
theorem setF_eq {β : Type 1} (f : Nat) (t : Tr) (i : Nat) (u : PV) (k : Tr → β) : setF f t i u k = k (t.set f i u) := by
  induction f generalizing t i k with
  | zero => rfl
  | succ f ih =>
    cases t with
    | e => simp only [setF, Tr.set, ih]; cases Nat.beq i 0 <;> cases Nat.beq (i % 2) 1 <;> rfl
    | n v l r => simp only [setF, Tr.set, ih]; cases Nat.beq i 0 <;> cases Nat.beq (i % 2) 1 <;> rfl
def putF {β : Type 1} : List (Nat × Blk) → Nat → Blk → (List (Nat × Blk) → β) → β
  | [], j, b, k => k [(j, b)]
  | (i, c) :: r, j, b, k => bif Nat.beq i j then k ((j, b) :: r) else putF r j b fun r => k ((i, c) :: r)
theorem putF_eq {β : Type 1} (l : List (Nat × Blk)) (i : Nat) (v : Blk) (k : List (Nat × Blk) → β) : putF l i v k = k (putB l i v) := by
  induction l generalizing k with
  | nil => rfl
  | cons x r ih => cases h : Nat.beq x.1 i <;> simp only [putF, putB, ih, h, cond]
def St.setTF {β : Type 1} (s : St) (i : Nat) (v : PV) (k : St → β) : β :=
  match s with | ⟨t, h, w⟩ => fP v fun v => setF 40 t i v fun t => k ⟨t, h, w⟩
theorem St.setTF_eq {β : Type 1} (s : St) (i : Nat) (v : PV) (k : St → β) : s.setTF i v k = k (s.setT i v) := by
  cases s; simp only [St.setTF, fP_eq, setF_eq, St.setT]
def St.setBF {β : Type 1} (s : St) (id : Nat) (b : Blk) (k : St → β) : β :=
  match s with | ⟨t, h, w⟩ => fB b fun b => putF h id b fun h => k ⟨t, h, id :: w⟩
theorem St.setBF_eq {β : Type 1} (s : St) (i : Nat) (v : Blk) (k : St → β) : s.setBF i v k = k (s.setB i v) := by
  cases s; simp only [St.setBF, fB_eq, putF_eq, St.setB]
def St.setBsF {β : Type 1} (s : St) : List (Nat × Blk) → (St → β) → β
  | [], k => k s
  | (i, b) :: r, k => s.setBsF r fun s => s.setBF i b k
theorem St.setBsF_eq {β : Type 1} (s : St) (l : List (Nat × Blk)) (k : St → β) : s.setBsF l k = k (s.setBs l) := by
  induction l generalizing k with
  | nil => rfl
  | cons x r ih => simp only [St.setBsF, St.setBF_eq, ih, St.setBs]

/-! ### trees of outcomes -/
inductive LS (σ ρ : Type) where
  | nx (x : σ) | ex (k : Nat) (x : σ) | rt (r : ρ)
  deriving Inhabited
def lc {σ ρ β : Type} (o : Option (LS σ ρ)) (kn : σ → Option β) (ke : Nat → σ → Option β) (kr : ρ → Option β) : Option β :=
  match o with
  | some (.nx a) => kn a | some (.ex i a) => ke i a | some (.rt r) => kr r | none => none
inductive R (β : Type) : Type 1 where
  | fail
  | leaf (a : β)
  | br (c : Bool) (x y : R β)
  | chk (c : Bool) (x : R β)
  | bo {α : Type} (d : α) (o : Option α) (k : α → R β)
  | cs {σ ρ : Type} (d : σ) (e : ρ) (o : Option (LS σ ρ)) (kn : σ → R β) (ke : Nat → σ → R β) (kr : ρ → R β)
def R.bind {α β : Type} : R α → (α → R β) → R β
  | .fail, _ => .fail
  | .leaf a, f => f a
  | .br c x y, f => .br c (x.bind f) (y.bind f)
  | .chk c x, f => .chk c (x.bind f)
  | .bo d o k, f => .bo d o fun a => (k a).bind f
  | .cs d e o kn ke kr, f => .cs d e o (fun a => (kn a).bind f) (fun k a => (ke k a).bind f) (fun a => (kr a).bind f)
/-- what a tree comes to -/
def R.ev {α : Type} : R α → Option α
  | .fail => none
  | .leaf a => some a
  | .br c x y => sel c x.ev y.ev
  | .chk c x => ck c x.ev
  | .bo _ o k => ob o fun a => (k a).ev
  | .cs _ _ o kn ke kr => lc o (fun a => (kn a).ev) (fun i a => (ke i a).ev) (fun r => (kr r).ev)
/-- its leaves, at the default where a value is not known -/
def R.leaves {α : Type} : R α → List α
  | .fail => []
  | .leaf a => [a]
  | .br _ x y => x.leaves ++ y.leaves
  | .chk _ x => x.leaves
  | .bo d _ k => (k d).leaves
  | .cs d e _ kn ke kr => (kn d).leaves ++ (ke 0 d).leaves ++ (kr e).leaves

def appF {α : Type} {β : Type 1} : List α → List α → (List α → β) → β
  | [], m, k => k m
  | a :: r, m, k => appF r m fun r => k (a :: r)
theorem appF_eq {α : Type} {β : Type 1} (l m : List α) (k : List α → β) : appF l m k = k (l ++ m) := by
  induction l generalizing k with
  | nil => rfl
  | cons a r ih => simp only [appF, ih, List.cons_append]
def R.leavesF {α : Type} {β : Type 1} : R α → (List α → β) → β
  | .fail, k => k []
  | .leaf a, k => k [a]
  | .br _ x y, k => x.leavesF fun l => y.leavesF fun m => appF l m k
  | .chk _ x, k => x.leavesF k
  | .bo d _ f, k => (f d).leavesF k
  | .cs d e _ kn ke kr, k => (kn d).leavesF fun l => (ke 0 d).leavesF fun m => (kr e).leavesF fun n => appF l m fun l => appF l n k
theorem R.leavesF_eq {α : Type} {β : Type 1} (t : R α) (k : List α → β) : t.leavesF k = k t.leaves := by
  induction t generalizing k with
  | fail => rfl
  | leaf a => rfl
  | br c x y hx hy => simp only [R.leavesF, hx, hy, appF_eq, R.leaves]
  | chk c x hx => simp only [R.leavesF, hx, R.leaves]
  | bo d o f hf => simp only [R.leavesF, hf, R.leaves]
  | cs d e o kn ke kr hn he hr => simp only [R.leavesF, hn, he, hr, appF_eq, R.leaves]

/-! ### one operation: it reads slots and blocks, checks, and writes blocks -/
inductive PM (α : Type) : Type 1 where
  | fail
  | ret (a : α)
  | chk (c : Bool) (k : PM α)
  | br (c : Bool) (x y : PM α)
  | bo {β : Type} (d : β) (o : Option β) (k : β → PM α)
  | rt (i : Nat) (k : PV → PM α)
  | rb (id : Nat) (k : Blk → PM α)
  | wb (id : Nat) (b : Blk) (k : PM α)
def PM.bind {α β : Type} : PM α → (α → PM β) → PM β
  | .fail, _ => .fail
  | .ret a, f => f a
  | .chk c k, f => .chk c (k.bind f)
  | .br c x y, f => .br c (x.bind f) (y.bind f)
  | .bo d o k, f => .bo d o fun a => (k a).bind f
  | .rt i k, f => .rt i fun v => (k v).bind f
  | .rb i k, f => .rb i fun v => (k v).bind f
  | .wb i b k, f => .wb i b (k.bind f)
instance : Monad PM where
  pure := .ret
  bind := .bind
/-- what an operation looked at: slots (as bits), blocks; and the blocks that it wrote -/
structure Eff where
  rt : Nat
  rb : List Nat
  wr : List (Nat × Blk)
/-- as an operation has left a block so far -/
def lookW : List (Nat × Blk) → Nat → Blk → Blk
  | [], _, d => d
  | (i, b) :: r, j, d => bif Nat.beq i j then b else lookW r j d
def PM.run {α : Type} (s : St) : PM α → Nat → List Nat → List (Nat × Blk) → R (α × Eff)
  | .fail, _, _, _ => .fail
  | .ret a, qt, qb, wr => .leaf (a, ⟨qt, qb, wr⟩)
  | .chk c k, qt, qb, wr => .chk c (k.run s qt qb wr)
  | .br c x y, qt, qb, wr => .br c (x.run s qt qb wr) (y.run s qt qb wr)
  | .bo d o k, qt, qb, wr => .bo d o fun a => (k a).run s qt qb wr
  | .rt i k, qt, qb, wr => (k (s.getT i)).run s (qt ||| 2 ^ i) qb wr
  | .rb i k, qt, qb, wr => (k (lookW wr i (s.getB i))).run s qt (i :: qb) wr
  | .wb i b k, qt, qb, wr => k.run s qt qb ((i, b) :: wr)
def PM.opt {α : Type} : Option α → PM α
  | some a => .ret a | none => .fail
def PM.need (b : Bool) : PM Unit := bif b then .ret () else .fail

/-! ### paths -/
def Ty.at : Ty → List Sel → Option Ty
  | t, [] => some t
  | .pair a _, .fst :: p => a.at p
  | .pair _ b, .snd :: p => b.at p
  | .ar _ e, .ix _ :: p => e.at p
  | _, _ => none
def getp : PV → List Sel → Option PV
  | v, [] => some v
  | .two a _, .fst :: p => getp a p
  | .two _ b, .snd :: p => getp b p
  | .sc (.pair s _) x, .fst :: p => getp (.sc s x.1) p
  | .sc (.pair _ t) x, .snd :: p => getp (.sc t x.2) p
  | .sc (.ar _ e) l, .ix i :: p => getp (.sc e (nth (l : List e.den) i e.zero)) p
  | _, _ => none
/-- a struct's field, by its number -/
def fieldSel : Nat → List Sel
  | 0 => [.fst] | n + 1 => .snd :: fieldSel n
/-- plain data of a type -/
def kbD (b : Bool) : (t : Ty) → Option t.den
  | .bool => some b
  | _ => none
def nilD : (t : Ty) → Option t.den
  | .sl e => some ([] : List e.den)
  | _ => none
def cslD (e' : Ty) (l : List e'.den) : (t : Ty) → Option t.den
  | .sl e => Ty.castL e' e l
  | _ => none
def twoO {α β : Type} : Option α → Option β → Option (α × β)
  | some x, some y => some (x, y)
  | _, _ => none
def twoD (f g : (t : Ty) → Option t.den) : (t : Ty) → Option t.den
  | .pair a b => twoO (f a) (g b)
  | _ => none
def aggD (t' : Ty) (f : (t : Ty) → Option t.den) (t : Ty) : Option t.den := bif Ty.is t' t then f t else none
def toD' : PV → (t : Ty) → Option t.den
  | .sc t' x => fun t => Ty.cast t' t x
  | .kb b => kbD b
  | .nil => nilD
  | .csl e' l => cslD e' l
  | .two u v => twoD (toD' u) (toD' v)
  | .agg t' u => aggD t' (toD' u)
  | .bad => fun _ => none
  | .undef => fun _ => none
  | .own _ _ => fun _ => none
  | .osl _ _ _ => fun _ => none
  | .ptr _ _ => fun _ => none
  | .opt _ _ _ => fun _ => none
  | .ipt _ _ _ _ => fun _ => none
  | .itp _ => fun _ => none
  | .tup _ => fun _ => none
  | .clo _ => fun _ => none
def toD (t : Ty) (v : PV) : Option t.den := toD' v t
def setp : PV → List Sel → PV → Option PV
  | _, [], u => some u
  | .two a b, .fst :: p, u => (setp a p u).map (PV.two · b)
  | .two a b, .snd :: p, u => (setp b p u).map (PV.two a ·)
  | .sc (.pair s t) x, .fst :: p, u => (setp (.sc s x.1) p u).map (PV.two · (.sc t x.2))
  | .sc (.pair s t) x, .snd :: p, u => (setp (.sc t x.2) p u).map (PV.two (.sc s x.1) ·)
  | .sc (.ar n e) l, .ix i :: p, u => match setp (.sc e (nth (l : List e.den) i e.zero)) p u with
    | some v => (toD e v).map fun y => .sc (.ar n e) (upd (l : List e.den) i y)
    | none => none
  | _, _, _ => none
def zeroPV : Ty → PV
  | .sl _ => .nil
  | .pair a b => .two (zeroPV a) (zeroPV b)
  | t => .sc t t.zero
/-- a block's elements; kept from now on if 'frz' -/
def rowM (frz : Bool) (id : Nat) (e : Ty) : PM (List e.den) := .rb id fun b => match b with
  | .ob e' l => (PM.opt (Ty.castL e' e l)).bind fun x => bif frz then .wb id (.fz e' l) (.ret x) else .ret x
  | .fz e' l => PM.opt (Ty.castL e' e l)
  | _ => .fail
def ownM (frz : Bool) (id : Nat) : (t : Ty) → PM t.den
  | .sl e => rowM frz id e
  | _ => .fail
def oslM (frz : Bool) (id off n : Nat) : (t : Ty) → PM t.den
  | .sl e => (rowM frz id e).bind fun x => .ret (cut x off n)
  | _ => .fail
def twoM (f g : (t : Ty) → PM t.den) : (t : Ty) → PM t.den
  | .pair a b => (f a).bind fun x => (g b).bind fun y => .ret (x, y)
  | _ => .fail
def aggM (t' : Ty) (f : (t : Ty) → PM t.den) (t : Ty) : PM t.den := bif Ty.is t' t then f t else .fail
def toDM' (frz : Bool) : PV → (t : Ty) → PM t.den
  | .own id _ => ownM frz id
  | .osl id off n => oslM frz id off n
  | .two u v => twoM (toDM' frz u) (toDM' frz v)
  | .agg t' u => aggM t' (toDM' frz u)
  | .sc t' x => fun t => PM.opt (Ty.cast t' t x)
  | .kb b => fun t => PM.opt (kbD b t)
  | .nil => fun t => PM.opt (nilD t)
  | .csl e l => fun t => PM.opt (cslD e l t)
  | .bad => fun _ => .fail
  | .undef => fun _ => .fail
  | .ptr _ _ => fun _ => .fail
  | .opt _ _ _ => fun _ => .fail
  | .ipt _ _ _ _ => fun _ => .fail
  | .itp _ => fun _ => .fail
  | .tup _ => fun _ => .fail
  | .clo _ => fun _ => .fail
def toDM (frz : Bool) (t : Ty) (v : PV) : PM t.den := toDM' frz v t
def wrapA (t : Ty) : PV → PV
  | .two a b => .agg t (.two a b)
  | v => v
def stripA : PV → PV
  | .agg _ a => a
  | .kb b => .sc .bool b
  | v => v
/-- may a value be stored where a type is? -/
def fitsT (t : Ty) : PV → PM Unit
  | .sc t' _ => PM.need (Ty.is t' t)
  | .kb _ => PM.need (Ty.is t .bool)
  | .agg t' _ => PM.need (Ty.is t' t)
  | .nil => match t with | .sl _ => .ret () | _ => .fail
  | .csl e _ => PM.need (Ty.is (.sl e) t)
  | .own id _ => .rb id fun | .ob e _ => PM.need (Ty.is (.sl e) t) | .fz e _ => PM.need (Ty.is (.sl e) t) | _ => .fail
  | _ => .fail
def room (e : Ty) (n : Nat) : Bool := rm e.bytes n
def int (n : Int) : PV := .sc (.int .i64) n

def litOK : IntKind → Int → Bool
  | .u8, .ofNat m => Nat.blt m 256 | .u16, .ofNat m => Nat.blt m 65536 | .u32, .ofNat m => Nat.blt m 4294967296 | .u64, .ofNat m => Nat.blt m 18446744073709551616
  | .i8, _ => true | .i16, _ => true | .i32, _ => true | .i64, _ => true
  | _, _ => false
def constP : Value → PM PV
  | .bool b => .ret (.kb b)
  | .int k n => bif litOK k n then .ret (.sc (.int k) (KD.lit k n)) else .fail
  | .string s => .ret (.sc .str s.data.toList)
  | .slice none 0 0 => .ret .nil
  | _ => .fail
def opd : Operand → PM PV
  | .tmp t => .rt t .ret
  | .const v => constP v
  | .func f => .ret (.clo f)
  | .global _ => .fail
def asI : PV → PM Int
  | .sc (.int k) x => .ret (KD.to k x)
  | _ => .fail
/-- a check that need not be made where it is known -/
def chkU (b : Bool) (c : Bool) (k : PM PV) : PM PV := bif b then k else .chk c k
/-- a number that is written out, and not 0 -/
def nzO : Operand → Bool
  | .const (.int _ (.ofNat (_ + 1))) => true
  | .const (.int _ (.negSucc _)) => true
  | _ => false
/-- a number that can't be below 0 -/
def nnO : Operand → Bool
  | .const (.int _ (.ofNat _)) => true
  | _ => false
def uns : IntKind → Bool
  | .u8 => true | .u16 => true | .u32 => true | .u64 => true | _ => false
def binI (nz : Bool) (op : BinOp) (k : IntKind) (x y : KD k) : PM PV :=
  let a := KD.to k x; let b := KD.to k y
  match op with
  | .add => .ret (.sc (.int k) (KD.of k (iadd a b)))
  | .sub => .ret (.sc (.int k) (KD.of k (isub a b)))
  | .mul => .ret (.sc (.int k) (KD.of k (imul a b)))
  | .quo => chkU nz (bnot (beq b 0)) (.ret (.sc (.int k) (KD.of k (idiv a b))))
  | .rem => chkU nz (bnot (beq b 0)) (.ret (.sc (.int k) (KD.lit k (imod a b))))
  | .and => .ret (.sc (.int k) (KD.of k (andI k a b)))
  | .or => .ret (.sc (.int k) (KD.of k (orI k a b)))
  | .xor => .ret (.sc (.int k) (KD.of k (xorI k a b)))
  | .andNot => .ret (.sc (.int k) (KD.of k (notI k a b)))
  | .eql => .ret (.sc .bool (beq a b))
  | .neq => .ret (.sc .bool (bnot (beq a b)))
  | .lss => .ret (.sc .bool (lt a b))
  | .leq => .ret (.sc .bool (le a b))
  | .gtr => .ret (.sc .bool (lt b a))
  | .geq => .ret (.sc .bool (le b a))
  | _ => .fail
def binS (op : BinOp) (a b : List UInt8) : PM PV :=
  match op with
  | .add => .chk (le (iadd (len a) (len b)) 140737488355328) (.ret (.sc .str (app a b)))
  | .eql => .ret (.sc .bool (seq a b))
  | .neq => .ret (.sc .bool (bnot (seq a b)))
  | .lss => .ret (.sc .bool (bytesLess a b))
  | .leq => .ret (.sc .bool (bor (bytesLess a b) (seq a b)))
  | .gtr => .ret (.sc .bool (bnot (bor (bytesLess a b) (seq a b))))
  | .geq => .ret (.sc .bool (bnot (bytesLess a b)))
  | _ => .fail
def binE (E : Env) (op : BinOp) (xT : Nat) (a b : PV) : PM PV :=
  match E.T xT with
  | some t => bif Ty.is t .bool then
      (match toD .bool a, toD .bool b with
        | some x, some y => (match op with
          | .eql => .ret (.sc .bool (beb x y))
          | .neq => .ret (.sc .bool (bnot (beb x y)))
          | _ => .fail)
        | _, _ => .fail) else .fail
  | none => .fail
def binP (E : Env) (nz nn : Bool) (op : BinOp) (xT : Nat) (a b : PV) : PM PV :=
  match a, b with
  | .sc (.int k) x, .sc (.int k') y =>
    (match op with
    | .shl => chkU (nn || uns k') (le 0 (KD.to k' y)) (.ret (.sc (.int k) (KD.of k (shlI k (KD.to k x) (KD.to k' y)))))
    | .shr => chkU (nn || uns k') (le 0 (KD.to k' y)) (.ret (.sc (.int k) (KD.lit k (shrI k (KD.to k x) (KD.to k' y)))))
    | op => (match Ty.cast (.int k') (.int k) y with | some y => binI nz op k x y | none => .fail))
  | .sc .str x, .sc .str y => binS op x y
  | a, b => binE E op xT a b
def unP (op : UnOp) (a : PV) : PM PV :=
  match op, a with
  | .not, .kb b => .ret (.kb (!b))
  | .not, .sc .bool b => .ret (.sc .bool (bnot b))
  | .neg, .sc (.int k) x => .ret (.sc (.int k) (KD.of k (isub 0 (KD.to k x))))
  | .xor, .sc (.int k) x => .ret (.sc (.int k) (KD.of k (xorI k (match k with | .u8 => 255 | .u16 => 65535 | .u32 => 4294967295 | .u64 => 18446744073709551615 | _ => -1) (KD.to k x))))
  | _, _ => .fail
def pickP (c a b : PV) : PM PV :=
  match c with
  | .kb c => .ret (bif c then a else b)
  | .sc .bool c => (match a, b with
    | .sc t x, b => (match toD t b with | some y => .ret (.sc t (sel c x y)) | none => .fail)
    | .kb x, b => (match toD .bool b with | some y => .ret (.sc .bool (sel (c : Bool) x y)) | none => .fail)
    | _, _ => .fail)
  | _ => .fail
def lenP (xt : Ty) (a : PV) : PM PV :=
  match xt with
  | .str => (match a with | .sc .str l => .ret (int (len (l : List UInt8))) | _ => .fail)
  | .ar n _ => .ret (int (ofn n))
  | .sl _ =>
    (match a with
    | .sc (.sl e) l => .ret (int (len (l : List e.den)))
    | .csl _ l => .ret (int (len l))
    | .nil => .ret (int 0)
    | .own id _ => .rb id fun | .ob _ l => .ret (int (len l)) | .fz _ l => .ret (int (len l)) | _ => .fail
    | .osl id _ n => .rb id fun | .ob _ _ => .ret (int (ofn n)) | .fz _ _ => .ret (int (ofn n)) | _ => .fail
    | _ => .fail)
  | _ => .fail
def fresh (id : Nat) (k : PM PV) : PM PV := .rb id fun | .new => k | _ => .fail
/-- a new block of elements -/
def newRow (id : Nat) (e : Ty) (l : List e.den) (ne : Bool) : PM PV := bif Nat.blt 0 e.size then fresh id (.wb id (.ob e l) (.ret (.own id ne))) else .fail
def isBytes : Ty → Bool
  | .sl (.int .u8) => true | _ => false
def convP (E : Env) (d : Nat) (src dst : Nat) (a : PV) : PM PV :=
  (PM.opt (E.T src)).bind fun s => (PM.opt (E.T dst)).bind fun t =>
  match t with
  | .int k => (match a with | .sc (.int k') x => .ret (.sc (.int k) (KD.of k (KD.to k' x))) | _ => .fail)
  | .str => (match s with
    | .str => (match a with | .sc .str x => .ret (.sc .str x) | _ => .fail)
    | .sl e => bif isBytes (.sl e) then (toDM false (.sl (.int .u8)) a).bind fun x => .ret (.sc .str (x : List UInt8)) else .fail
    | _ => .fail)
  | .sl e => (match s, a with
    | .str, .sc .str x => bif isBytes (.sl e) then .chk (rm 1 (ln (x : List UInt8))) (newRow (16 * d) (.int .u8) (x : List UInt8) false) else .fail
    | _, _ => .fail)
  | _ => .fail
def loadP (t : Ty) (a : PV) : PM PV :=
  match a with
  | .ptr id p => .rb id fun
    | .box rt v => (match rt.at p, getp v p with | some t', some pv => bif Ty.is t' t then .ret (wrapA t pv) else .fail | _, _ => .fail)
    | _ => .fail
  | .ipt e l i p => (match e.at p, getp (.sc e (nth l i e.zero)) p with | some t', some pv => bif Ty.is t' t then .ret pv else .fail | _, _ => .fail)
  | .opt id i p => .rb id fun
    | .ob e l => (match e.at p, getp (.sc e (nth l i e.zero)) p with | some t', some pv => bif Ty.is t' t then .ret pv else .fail | _, _ => .fail)
    | .fz e l => (match e.at p, getp (.sc e (nth l i e.zero)) p with | some t', some pv => bif Ty.is t' t then .ret pv else .fail | _, _ => .fail)
    | _ => .fail
  | _ => .fail
def storeP (t : Ty) (a v : PV) : PM PV :=
  match a with
  | .ptr id p => .rb id fun
    | .box rt c => (match rt.at p, setp c p (stripA v) with
        | some t', some c' => bif Ty.is t' t then (fitsT t v).bind fun _ => .wb id (.box rt c') (.ret .undef) else .fail
        | _, _ => .fail)
    | _ => .fail
  | .opt id i p => (toDM true t v).bind fun x => .rb id fun
    | .ob e l => (match e.at p with
      | some t' => bif Ty.is t' t then (match setp (.sc e (nth l i e.zero)) p (.sc t x) with
          | some c => (match toD e c with | some y => .wb id (.ob e (upd l i y)) (.ret .undef) | none => .fail)
          | none => .fail) else .fail
      | none => .fail)
    | _ => .fail
  | _ => .fail
/-- a struct's field that has cells -/
def fieldOK (t' st : Option Ty) (f : Nat) : Bool :=
  match t', st with
  | some t', some st => Ty.is t' st && (match st.at (fieldSel f) with | some ft => Nat.blt 0 ft.size | none => false)
  | _, _ => false
def fieldAddrP (st : Option Ty) (f : Nat) (a : PV) : PM PV :=
  match a with
  | .ptr id p => .rb id fun
    | .box t _ => bif fieldOK (t.at p) st f then .ret (.ptr id (p ++ fieldSel f)) else .fail
    | _ => .fail
  | .ipt e l i p => bif fieldOK (e.at p) st f then .ret (.ipt e l i (p ++ fieldSel f)) else .fail
  | .opt id i p => .rb id fun
    | .ob e _ => bif fieldOK (e.at p) st f then .ret (.opt id i (p ++ fieldSel f)) else .fail
    | .fz e _ => bif fieldOK (e.at p) st f then .ret (.opt id i (p ++ fieldSel f)) else .fail
    | _ => .fail
  | _ => .fail
/-- an array's element -/
def arrP (t' : Option Ty) (xt : Ty) (i : Int) (v : PV) : PM PV :=
  match t', xt with
  | some t', .ar n e => bif Ty.is t' (.ar n e) && Nat.blt 0 e.size then .chk (inB i (ofn n)) (.ret v) else .fail
  | _, _ => .fail
def indexAddrP (xt : Ty) (a : PV) (i : Int) : PM PV :=
  match a with
  | .sc t l => (match xt with
    | .sl e => (PM.opt (Ty.cast t (.sl e) l)).bind fun l => .chk (inB i (len (l : List e.den))) (.ret (.ipt e l (nat i) []))
    | _ => .fail)
  | .csl e l => bif Ty.is (.sl e) xt then .chk (inB i (len l)) (.ret (.ipt e l (nat i) [])) else .fail
  | .own id _ => .rb id fun
    | .ob e l => bif Ty.is (.sl e) xt then .chk (inB i (len l)) (.ret (.opt id (nat i) [])) else .fail
    | .fz e l => bif Ty.is (.sl e) xt then .chk (inB i (len l)) (.ret (.opt id (nat i) [])) else .fail
    | _ => .fail
  | .osl id off n => .rb id fun
    | .ob e _ => bif Ty.is (.sl e) xt then .chk (inB i (ofn n)) (.ret (.opt id (nadd off (nat i)) [])) else .fail
    | .fz e _ => bif Ty.is (.sl e) xt then .chk (inB i (ofn n)) (.ret (.opt id (nadd off (nat i)) [])) else .fail
    | _ => .fail
  | .ptr id p => .rb id fun
    | .box t _ => arrP (t.at p) xt i (.ptr id (p ++ [.ix (nat i)]))
    | _ => .fail
  | .ipt e l j p => arrP (e.at p) xt i (.ipt e l j (p ++ [.ix (nat i)]))
  | .opt id j p => .rb id fun
    | .ob e _ => arrP (e.at p) xt i (.opt id j (p ++ [.ix (nat i)]))
    | .fz e _ => arrP (e.at p) xt i (.opt id j (p ++ [.ix (nat i)]))
    | _ => .fail
  | _ => .fail
def indexP (xt : Ty) (a : PV) (i : Int) : PM PV :=
  match a with
  | .sc .str l => (match xt with
    | .str => .chk (inB i (len (l : List UInt8))) (.ret (.sc (.int .u8) (nth (l : List UInt8) (nat i) (u8 0))))
    | _ => .fail)
  | a => (match xt with
    | .ar n e => (PM.opt (toD (.ar n e) a)).bind fun l => .chk (inB i (ofn n)) (.ret (.sc e (nth (l : List e.den) (nat i) e.zero)))
    | _ => .fail)
def fieldP (E : Env) (xT : Nat) (f : Nat) (a : PV) : PM PV :=
  match E.T xT with
  | some t => (fitsT t a).bind fun _ => (match t.at (fieldSel f), getp (stripA a) (fieldSel f) with | some ft, some v => .ret (wrapA ft v) | _, _ => .fail)
  | none => .fail
def boundO (i : Option Int) (d : Int) : Int := match i with | some i => i | none => d
def sliceP (xt : Ty) (a : PV) (lo hi mx : Option Int) : PM PV :=
  match mx with
  | none =>
    (match xt with
    | .str => (match a with
      | .sc t l => (PM.opt (Ty.cast t .str l)).bind fun l => .chk (inC (boundO lo 0) (boundO hi (len (l : List UInt8))) (len (l : List UInt8))) (.ret (.sc .str (sub (l : List UInt8) (boundO lo 0) (boundO hi (len (l : List UInt8))))))
      | _ => .fail)
    | .sl xe => (match a with
      | .sc t l => (PM.opt (Ty.cast t (.sl xe) l)).bind fun l => .chk (inC (boundO lo 0) (boundO hi (len (l : List xe.den))) (len (l : List xe.den))) (.ret (.sc (.sl xe) (sub (l : List xe.den) (boundO lo 0) (boundO hi (len (l : List xe.den))))))
      | .csl e l => bif Ty.is (.sl e) (.sl xe) then .chk (inC (boundO lo 0) (boundO hi (len l)) (len l)) (.ret (.sc (.sl e) (sub l (boundO lo 0) (boundO hi (len l))))) else .fail
      | .own id _ => .rb id fun
        | .ob e l => bif Ty.is (.sl e) (.sl xe) then .chk (inC (boundO lo 0) (boundO hi (len l)) (len l)) (.ret (.osl id (nat (boundO lo 0)) (nsub (nat (boundO hi (len l))) (nat (boundO lo 0))))) else .fail
        | .fz e l => bif Ty.is (.sl e) (.sl xe) then .chk (inC (boundO lo 0) (boundO hi (len l)) (len l)) (.ret (.sc (.sl e) (sub l (boundO lo 0) (boundO hi (len l))))) else .fail
        | _ => .fail
      | .osl id off n => .rb id fun
        | .ob e _ => bif Ty.is (.sl e) (.sl xe) then .chk (inC (boundO lo 0) (boundO hi (ofn n)) (ofn n)) (.ret (.osl id (nadd off (nat (boundO lo 0))) (nsub (nat (boundO hi (ofn n))) (nat (boundO lo 0))))) else .fail
        | .fz e _ => bif Ty.is (.sl e) (.sl xe) then .chk (inC (boundO lo 0) (boundO hi (ofn n)) (ofn n)) (.ret (.osl id (nadd off (nat (boundO lo 0))) (nsub (nat (boundO hi (ofn n))) (nat (boundO lo 0))))) else .fail
        | _ => .fail
      | _ => .fail)
    | _ => .fail)
  | some m =>
    (match hi with
    | some h =>
      (match a with
      | .sc t l => (match xt with
        | .sl e => (PM.opt (Ty.cast t (.sl e) l)).bind fun l => .chk (band (inC (boundO lo 0) h (len (l : List e.den))) (beq h m)) (.ret (.csl e (sub (l : List e.den) (boundO lo 0) h)))
        | _ => .fail)
      | _ => .fail)
    | none => .fail)
def extractP (a : PV) (i : Nat) : PM PV :=
  match a with
  | .tup a => PM.opt (getp a (fieldSel i))
  | _ => .fail
def toDL (frz : Bool) : (ts : List Ty) → List PV → PM (denL ts)
  | [], [] => .ret ()
  | t :: ts, v :: vs => (toDM frz t v).bind fun x => (toDL frz ts vs).bind fun y => .ret (x, y)
  | _, _ => .fail
/-- the results of a call, as values; what is owned gets a block of its own -/
def resP (id : Nat) : (r : RTy) → r.den → PM PV
  | .im t, x => .ret (.sc t x)
  | .ow e, l => newRow id e l false
  | .cl e, l => .ret (.csl e l)
def resL (id : Nat) : (rs : List RTy) → denR rs → PM PV
  | [], _ => .ret (.sc .unit ())
  | r :: rs, x => (resP id r x.1).bind fun v => (resL (id + 1) rs x.2).bind fun w => .ret (.two v w)
def callRes (d : Nat) : (rs : List RTy) → denR rs → PM PV
  | [], _ => .ret (.tup (.sc .unit ()))
  | [t], r => resP (16 * d) t r.1
  | t :: t' :: ts, r => (resL (16 * d) (t :: t' :: ts) r).bind fun v => .ret (.tup v)
def callP (E : Env) (d : Nat) (f : Nat) (args : List PV) : PM PV :=
  match E.G f with
  | none => .fail
  | some g => (toDL (!(g.res.all RTy.flat)) g.args args).bind fun x => .bo (zeroR g.res) (g.fn x) fun r => callRes d g.res r
def appendArg (e : Ty) (x : PV) : PM (List e.den) :=
  match x with
  | .sc .str l => PM.opt (Ty.castL (.int .u8) e (l : List UInt8))
  | x => toDM false (.sl e) x
def neOwn : PV → Bool
  | .own _ true => true | _ => false
def appendP (d : Nat) (e : Ty) (s x : PV) : PM PV :=
  bif Nat.blt 0 e.size then (appendArg e x).bind fun ys =>
  match s with
  | .nil => .chk (room e (ln ys)) (newRow (16 * d) e ys false)
  | .own id _ => .rb id fun
    | .ob e' l => (PM.opt (Ty.castL e' e l)).bind fun l => .chk (room e (nadd (ln l) (ln ys))) (.wb id .gone (newRow (16 * d) e (app l ys) false))
    | _ => .fail
  | .csl e' l => (PM.opt (Ty.castL e' e l)).bind fun l => .chk (room e (nadd (ln l) (ln ys))) (bif neOwn x then newRow (16 * d) e (app l ys) false else .ret (.sc (.sl e) (app l ys)))
  | _ => .fail
  else .fail
def elemT : Ty → Option Ty
  | .sl e => some e | _ => none
def isSeq : Ty → Bool
  | .sl _ => true | .str => true | _ => false
def builtinP (E : Env) (d : Nat) (b : Builtin) (ats : List Nat) (args : List PV) : PM PV :=
  match b with
  | .len => (match ats, args with
    | t :: _, [a] => (PM.opt (E.T t)).bind fun t => lenP t a
    | _, _ => .fail)
  | .append => (match ats, args with
    | [t, u], [s, x] => (match E.T t, E.T u with | some (.sl e), some u => bif isSeq u then appendP d e s x else .fail | _, _ => .fail)
    | _, _ => .fail)
  | .min => (match args with | [.sc (.int .i64) a, .sc (.int .i64) b] => .ret (int (minI a b)) | _ => .fail)
  | .max => (match args with | [.sc (.int .i64) a, .sc (.int .i64) b] => .ret (int (maxI a b)) | _ => .fail)
  | _ => .fail
def mapP {α β : Type} (f : α → PM β) : List α → PM (List β)
  | [] => .ret []
  | a :: r => (f a).bind fun b => (mapP f r).bind fun bs => .ret (b :: bs)
def setParts (t : Ty) : PV → List (Nat × PV) → Option PV
  | v, [] => some v
  | v, (i, u) :: r => match setp v (fieldSel i) (stripA u) with | some v' => setParts t v' r | none => none
def fitParts (t : Ty) : List (Nat × PV) → PM Unit
  | [] => .ret ()
  | (i, u) :: r => match t.at (fieldSel i) with | some ft => (fitsT ft u).bind fun _ => fitParts t r | none => .fail
def toParts (e : Ty) : List (Nat × PV) → PM (List (Nat × e.den))
  | [] => .ret []
  | (i, u) :: r => (toDM true e u).bind fun x => (toParts e r).bind fun xs => .ret ((i, x) :: xs)
def setAll {α : Type} : List α → List (Nat × α) → List α
  | l, [] => l
  | l, (i, x) :: r => setAll (l.set i x) r
def isSt : Ty → Bool
  | .unit => true | .pair _ _ => true | _ => false
def buildP (t : Ty) (ps : List (Nat × PV)) : PM PV :=
  match t with
  | .ar n e => (PM.need (ps.all fun p => Nat.blt p.1 n)).bind fun _ => (toParts e ps).bind fun xs => .ret (.sc (.ar n e) (setAll (List.replicate n e.zero) xs))
  | t => bif isSt t then (fitParts t ps).bind fun _ => (PM.opt (setParts t (zeroPV t) ps)).bind fun v => .ret (wrapA t v) else .fail
def buildSliceP (d : Nat) (e : Ty) (n : Nat) (ps : List (Nat × PV)) : PM PV :=
  (PM.need (ps.all (fun p => Nat.blt p.1 n) && Nat.ble (n * e.size) 16777216)).bind fun _ => (toParts e ps).bind fun xs =>
    newRow (16 * d) e (setAll (List.replicate n e.zero) xs) (Nat.blt 0 n)
def optI : Option Operand → PM (Option Int)
  | none => .ret none
  | some o => (opd o).bind fun v => (asI v).bind fun n => .ret (some n)
def partsP (ps : List (Nat × Operand)) : PM (List (Nat × PV)) := mapP (fun p => (opd p.2).bind fun v => .ret (p.1, v)) ps
def nilCheckP (v : PV) : PM PV :=
  match v with
  | .ptr id p => .rb id fun | .box _ _ => .ret (.ptr id p) | _ => .fail
  | .ipt e l i p => .ret (.ipt e l i p)
  | .opt id i p => .rb id fun | .ob _ _ => .ret (.opt id i p) | .fz _ _ => .ret (.opt id i p) | _ => .fail
  | _ => .fail
def rangeP (id : Nat) (x : PV) : PM PV :=
  match x with
  | .sc .str l => fresh id (.wb id (.it l 0) (.ret (.itp id)))
  | _ => .fail
def nextP (x : PV) : PM PV :=
  match x with
  | .itp id => .rb id fun
    | .it s p => .br (nlt p (ln s))
        (.wb id (.it s (nadd p (decode s p).2)) (.ret (.tup (.two (.kb true) (.two (int (ofn p)) (.two (.sc (.int .i32) (ofn (decode s p).1)) (.sc .unit ())))))))
        (.ret (.tup (.two (.kb false) (.sc .unit ()))))
    | _ => .fail
  | _ => .fail
/-- what an operation does; 'd': the slot that it writes -/
def opP (E : Env) (o : Oper) : PM PV :=
  let d := o.dst.getD 0
  match o.op with
  | .move x => opd x
  | .assign x => opd x
  | .pick c a b => (opd c).bind fun c => (opd a).bind fun a => (opd b).bind fun b => pickP c a b
  | .alloc t => (PM.opt (E.T t)).bind fun t => fresh (16 * d) (.wb (16 * d) (.box t (zeroPV t)) (.ret (.ptr (16 * d) [])))
  | .box t x => (PM.opt (E.T t)).bind fun t => (opd x).bind fun v => (fitsT t v).bind fun _ => fresh (16 * d) (.wb (16 * d) (.box t (stripA v)) (.ret (.ptr (16 * d) [])))
  | .build t ps => (PM.opt (E.T t)).bind fun t => (partsP ps.toList).bind fun ps => buildP t ps
  | .buildSlice t n ps => (PM.opt (E.T t)).bind fun t => (PM.opt (elemT t)).bind fun e => (partsP ps.toList).bind fun ps => buildSliceP d e n ps
  | .load t a => (PM.opt (E.T t)).bind fun t => (opd a).bind fun a => loadP t a
  | .store t a x => (PM.opt (E.T t)).bind fun t => (opd a).bind fun a => (opd x).bind fun x => storeP t a x
  | .nilCheck x => (opd x).bind fun v => nilCheckP v
  | .binOp op t x y _ => (opd x).bind fun a => (opd y).bind fun b => binP E (nzO y) (nnO y) op t a b
  | .unOp op _ x => (opd x).bind fun x => unP op x
  | .convert s t x => (opd x).bind fun x => convP E d s t x
  | .makeSlice t l c => (PM.opt (E.T t)).bind fun t => (PM.opt (elemT t)).bind fun e => (opd l).bind fun l => (asI l).bind fun l => (opd c).bind fun c => (asI c).bind fun c =>
      .chk (band (inC 0 l c) (room e (nat c))) (newRow (16 * d) e (rep (nat l) e.zero) false)
  | .slice t x lo hi mx => (PM.opt (E.T t)).bind fun t => (opd x).bind fun x => (optI lo).bind fun lo => (optI hi).bind fun hi => (optI mx).bind fun mx => sliceP t x lo hi mx
  | .fieldAddr s x f => (opd x).bind fun x => fieldAddrP (E.T s) f x
  | .field t x f => (opd x).bind fun x => fieldP E t f x
  | .indexAddr t x i => (PM.opt (E.T t)).bind fun t => (opd x).bind fun x => (opd i).bind fun i => (asI i).bind fun i => indexAddrP t x i
  | .index t x i => (PM.opt (E.T t)).bind fun t => (opd x).bind fun x => (opd i).bind fun i => (asI i).bind fun i => indexP t x i
  | .range t x => (PM.opt (E.T t)).bind fun t => (PM.need (Ty.is t .str)).bind fun _ => (opd x).bind fun x => rangeP (16 * d) x
  | .next x true => (opd x).bind fun x => nextP x
  | .extract x i => (opd x).bind fun x => extractP x i
  | .call c => (match c.callee with
    | .builtin b => (mapP opd c.args.toList).bind fun args => builtinP E d b c.argTypes.toList args
    | .value f => (opd f).bind fun | .clo f => (mapP opd c.args.toList).bind fun args => callP E d f args | _ => .fail
    | .invoke .. => .fail)
  | _ => .fail
end Yp
