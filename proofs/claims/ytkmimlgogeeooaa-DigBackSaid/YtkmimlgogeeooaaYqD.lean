/- A part of the proof of DigBack. -/
import Derived.Test.YtkmimlgogeeooaaYpB
import Derived.Test.YtkmimlgogeeooaaProg
set_option linter.unusedVariables false
set_option linter.unusedSimpArgs false
namespace Yp
open Go Go.Proofs
def TT : List (Nat × Ty) := [(2, .int .i64), (3, .int .i64), (4, .bool), (5, .int .u8), (6, .int .u8), (7, .pair (.int .i64) (.pair (.int .i64) (.pair (.bool) (.pair (.int .u8) (.unit))))), (8, .pair (.int .i64) (.pair (.int .i64) (.pair (.bool) (.pair (.int .u8) (.unit))))), (9, .str), (10, .str), (11, .str), (12, .int .u64), (13, .pair (.str) (.pair (.int .u64) (.unit))), (14, .pair (.str) (.pair (.int .u64) (.unit))), (21, .int .i32), (23, .int .i64), (32, .sl (.int .u8)), (48, .pair (.int .i64) (.pair (.int .i64) (.pair (.sl (.int .u8)) (.pair (.str) (.unit))))), (49, .pair (.int .i64) (.pair (.int .i64) (.pair (.sl (.int .u8)) (.pair (.str) (.unit))))), (54, .pair (.int .i64) (.pair (.int .i64) (.pair (.sl (.int .u8)) (.pair (.sl (.int .u8)) (.unit))))), (55, .pair (.int .i64) (.pair (.int .i64) (.pair (.sl (.int .u8)) (.pair (.sl (.int .u8)) (.unit))))), (57, .pair (.sl (.int .u8)) (.pair (.int .u8) (.pair (.int .u8) (.pair (.str) (.unit))))), (58, .pair (.sl (.int .u8)) (.pair (.int .u8) (.pair (.int .u8) (.pair (.str) (.unit))))), (67, .int .u64), (81, .int .u8)]
/-- yett/dig.Digits -/
noncomputable def m12 (x : Int × Int × Unit) : Option (List UInt8 × Int × Unit) :=
  ob (sel (lt x.2.1 1) (some (true, ())) (sel (lt 18 x.2.1) (some (true, ())) (some (lt x.1 0, ()))))
  fun (a : Bool × Unit) =>
  sel a.1 (some (none' UInt8, 1, ()))
   (ck (band (inC 0 x.2.1 x.2.1) (rm 1 (nat x.2.1)))
    (lc
     (loop
      (fun (x : Int × Int × List UInt8 × Unit) =>
       sel (le 0 x.2.1)
        (ck (inB (imod x.1 10) (len [48, 49, 50, 51, 52, 53, 54, 55, 56, 57, 97, 98, 99, 100, 101, 102]))
         (ck (inB x.2.1 (len x.2.2.1))
          (some
           (LS.nx
            (i64 (idiv x.1 10), i64 (isub x.2.1 1),
            upd x.2.2.1 (nat x.2.1)
            (nth [48, 49, 50, 51, 52, 53, 54, 55, 56, 57, 97, 98, 99, 100, 101, 102] (nat (imod x.1 10))
            (u8 0)),
            ())))))
        (some (LS.ex 0 (x.1, x.2.1, x.2.2.1, ()))))
      (x.1, i64 (isub x.2.1 1), rep (nat x.2.1) (u8 0), ()))
     (fun (a : Int × Int × List UInt8 × Unit) => none)
     (fun (i : Nat) (a : Int × Int × List UInt8 × Unit) =>
      ck (neb i 0) (sel (lt 0 a.1) (some (none' UInt8, 1, ())) (some (a.2.2.1, 0, ()))))
     fun (r : List UInt8 × Int × Unit) => some r))
theorem m12_eq (x : denL [.int .i64, .int .i64]) : model ⟨lookT TT, lookG []⟩ Try.f12 8 [.int .i64, .int .i64] [.im (.str), .im (.int .i64)] x = m12 x := by kernel_rfl
/-- yett/dig.figure -/
noncomputable def m30 (x : Int × Unit) : Option (Int × Bool × Unit) :=
  ob
  (sel (le 48 x.1) (some (i64 (i32 (isub x.1 48)), le x.1 57, ())) (some (i64 (i32 (isub x.1 48)), false, ())))
  fun (a : Int × Bool × Unit) => some (a.1, a.2.1, ())
theorem m30_eq (x : denL [.int .i32]) : model ⟨lookT TT, lookG []⟩ Try.f30 4 [.int .i32] [.im (.int .i64), .im (.bool)] x = m30 x := by kernel_rfl
/-- yett/dig.Value -/
noncomputable def m14 (x : List UInt8 × Unit) : Option (Int × Int × Unit) :=
  ob (sel (lt (len x.1) 1) (some (true, ())) (some (lt 18 (len x.1), ()))) fun (a : Bool × Unit) =>
  sel a.1 (some (0, 2, ()))
   (lc
    (loop
     (fun (x_1 : Int × Int × Int × Nat × Unit) =>
      sel (nlt x_1.2.2.2.1 (ln x.1))
       (ob (m30 (ofn (decode x.1 x_1.2.2.2.1).1, ())) fun (a : Int × Bool × Unit) =>
        sel (bnot a.2.1) (some (LS.rt (0, 2, ())))
         (some
          (LS.nx
           (x_1.1, x_1.2.1, i64 (iadd (i64 (imul 10 x_1.2.2.1)) a.1),
            nadd x_1.2.2.2.1 (decode x.1 x_1.2.2.2.1).2, ()))))
       (some (LS.ex 0 (x_1.1, x_1.2.1, x_1.2.2.1, x_1.2.2.2.1, ()))))
     (0, 0, 0, 0, ()))
    (fun (a : Int × Int × Int × Nat × Unit) => none)
    (fun (i : Nat) (a : Int × Int × Int × Nat × Unit) => ck (neb i 0) (some (a.2.2.1, 0, ())))
    fun (r : Int × Int × Unit) => some r)
theorem m14_eq (x : denL [.str]) : model ⟨lookT TT, lookG [(30, ⟨[.int .i32], [.im (.int .i64), .im (.bool)], m30⟩)]⟩ Try.f14 9 [.str] [.im (.int .i64), .im (.int .i64)] x = m14 x := by kernel_rfl
/-- yett/dig.Bcd -/
noncomputable def m16 (x : List UInt8 × Unit) : Option (List UInt8 × Int × Unit) :=
  ck
  (band (inC 0 (i64 (idiv (i64 (iadd (len x.1) 1)) 2)) (i64 (idiv (i64 (iadd (len x.1) 1)) 2)))
   (rm 1 (nat (i64 (idiv (i64 (iadd (len x.1) 1)) 2)))))
  (lc
   (loop
    (fun (x_1 : Int × Int × Nat × List UInt8 × Unit) =>
     sel (nlt x_1.2.2.1 (ln x.1))
      (ob (m30 (ofn (decode x.1 x_1.2.2.1).1, ())) fun (a : Int × Bool × Unit) =>
       sel (bnot a.2.1) (some (LS.rt (none' UInt8, 2, ())))
        (ck (inB (i64 (idiv x_1.2.1 2)) (len x_1.2.2.2.1))
         (ck (inB (i64 (idiv x_1.2.1 2)) (len x_1.2.2.2.1))
          (some
           (LS.nx
            (x_1.1, i64 (iadd x_1.2.1 1), nadd x_1.2.2.1 (decode x.1 x_1.2.2.1).2,
            upd x_1.2.2.2.1 (nat (i64 (idiv x_1.2.1 2)))
            (u8
            (orI IntKind.u8
            (n8
            (u8
            (shlI IntKind.u8
            (n8 (nth x_1.2.2.2.1 (nat (i64 (idiv x_1.2.1 2))) (u8 0)))
            (n64 (u64 4)))))
            (n8 (u8 a.1)))),
            ()))))))
      (some (LS.ex 0 (x_1.1, x_1.2.1, x_1.2.2.1, x_1.2.2.2.1, ()))))
    (0, imod (len x.1) 2, 0, rep (nat (i64 (idiv (i64 (iadd (len x.1) 1)) 2))) (u8 0), ()))
   (fun (a : Int × Int × Nat × List UInt8 × Unit) => none)
   (fun (i : Nat) (a : Int × Int × Nat × List UInt8 × Unit) => ck (neb i 0) (some (a.2.2.2.1, 0, ())))
   fun (r : List UInt8 × Int × Unit) => some r)
theorem m16_eq (x : denL [.str]) : model ⟨lookT TT, lookG [(30, ⟨[.int .i32], [.im (.int .i64), .im (.bool)], m30⟩)]⟩ Try.f16 10 [.str] [.ow (.int .u8), .im (.int .i64)] x = m16 x := by kernel_rfl
/-- yett/yettref01.Same -/
noncomputable def m18 (x : List UInt8 × List UInt8 × Unit) : Option (Bool × Unit) :=
  some (seq x.1 x.2.1, ())
theorem m18_eq (x : denL [.sl (.int .u8), .sl (.int .u8)]) : model ⟨lookT TT, lookG []⟩ Try.f18 5 [.sl (.int .u8), .sl (.int .u8)] [.im (.bool)] x = m18 x := by kernel_rfl
/-- yett/dig.Hex -/
noncomputable def m27 (x : List UInt8 × Unit) : Option (List UInt8 × Unit) :=
  ck (band (inC 0 0 (i64 (imul 2 (len x.1)))) (rm 1 (nat (i64 (imul 2 (len x.1))))))
  (lc
   (loop
    (fun (x_1 : List UInt8 × Int × Unit) =>
     sel (lt x_1.2.1 (len x.1))
      (ck (inB x_1.2.1 (len x.1))
       (ck
        (inB (n8 (u8 (shrI IntKind.u8 (n8 (nth x.1 (nat x_1.2.1) (u8 0))) (n64 (u64 4)))))
         (len [48, 49, 50, 51, 52, 53, 54, 55, 56, 57, 97, 98, 99, 100, 101, 102]))
        (ck
         (inB (n8 (u8 (andI IntKind.u8 (n8 (nth x.1 (nat x_1.2.1) (u8 0))) (n8 (u8 15)))))
          (len [48, 49, 50, 51, 52, 53, 54, 55, 56, 57, 97, 98, 99, 100, 101, 102]))
         (ck
          (rm 1
           (nadd (ln x_1.1)
            (ln
            [nth [48, 49, 50, 51, 52, 53, 54, 55, 56, 57, 97, 98, 99, 100, 101, 102]
            (nat (n8 (u8 (shrI IntKind.u8 (n8 (nth x.1 (nat x_1.2.1) (u8 0))) (n64 (u64 4))))))
            (u8 0),
            nth [48, 49, 50, 51, 52, 53, 54, 55, 56, 57, 97, 98, 99, 100, 101, 102]
            (nat (n8 (u8 (andI IntKind.u8 (n8 (nth x.1 (nat x_1.2.1) (u8 0))) (n8 (u8 15))))))
            (u8 0)])))
          (some
           (LS.nx
            (app x_1.1
            [nth [48, 49, 50, 51, 52, 53, 54, 55, 56, 57, 97, 98, 99, 100, 101, 102]
            (nat (n8 (u8 (shrI IntKind.u8 (n8 (nth x.1 (nat x_1.2.1) (u8 0))) (n64 (u64 4))))))
            (u8 0),
            nth [48, 49, 50, 51, 52, 53, 54, 55, 56, 57, 97, 98, 99, 100, 101, 102]
            (nat (n8 (u8 (andI IntKind.u8 (n8 (nth x.1 (nat x_1.2.1) (u8 0))) (n8 (u8 15))))))
            (u8 0)],
            i64 (iadd x_1.2.1 1), ())))))))
      (some (LS.ex 0 (x_1.1, x_1.2.1, ()))))
    (rep (nat 0) (u8 0), 0, ()))
   (fun (a : List UInt8 × Int × Unit) => none)
   (fun (i : Nat) (a : List UInt8 × Int × Unit) => ck (neb i 0) (some (a.1, ()))) fun (r : List UInt8 × Unit) =>
   some r)
theorem m27_eq (x : denL [.sl (.int .u8)]) : model ⟨lookT TT, lookG []⟩ Try.f27 6 [.sl (.int .u8)] [.im (.str)] x = m27 x := by kernel_rfl
/-- yett/dig.TakeBcd -/
noncomputable def m19 (x : List UInt8 × Int × Int × Unit) : Option (List UInt8 × Int × Int × Unit) :=
  ob
  (sel (lt x.2.2.1 0) (some (true, ()))
   (sel (lt 999 x.2.2.1) (some (true, ()))
    (sel (lt x.2.1 0) (some (true, ())) (some (lt (len x.1) x.2.1, ())))))
  fun (a : Bool × Unit) =>
  sel a.1 (some (none' UInt8, 0, 1, ()))
   (sel (lt (i64 (isub (len x.1) x.2.1)) (i64 (idiv (i64 (iadd x.2.2.1 1)) 2)))
    (some (none' UInt8, 0, 3, ()))
    (ck (inC x.2.1 (i64 (iadd x.2.1 (i64 (idiv (i64 (iadd x.2.2.1 1)) 2)))) (len x.1))
     (ob (m27 (sub x.1 x.2.1 (i64 (iadd x.2.1 (i64 (idiv (i64 (iadd x.2.2.1 1)) 2)))), ()))
      fun (a : List UInt8 × Unit) =>
      sel (beq (imod x.2.2.1 2) 1)
       (ck (inB 0 (len a.1))
        (sel (bnot (beq (n8 (nth a.1 (nat 0) (u8 0))) (n8 (u8 48)))) (some (none' UInt8, 0, 2, ()))
         (ck (inC 1 (len a.1) (len a.1))
          (lc
           (loop
            (fun (x : List UInt8 × Int × Int × Nat × Unit) =>
            sel (nlt x.2.2.2.1 (ln (sub a.1 1 (len a.1))))
            (ob (m30 (ofn (decode (sub a.1 1 (len a.1)) x.2.2.2.1).1, ()))
            fun (a_1 : Int × Bool × Unit) =>
            sel (bnot a_1.2.1) (some (LS.rt (none' UInt8, 0, 2, ())))
            (some
            (LS.nx
            (x.1, x.2.1, x.2.2.1,
            nadd x.2.2.2.1 (decode (sub a.1 1 (len a.1)) x.2.2.2.1).2,
            ()))))
            (some (LS.ex 0 (x.1, x.2.1, x.2.2.1, x.2.2.2.1, ()))))
            (none' UInt8, 0, 0, 0, ()))
           (fun (a : List UInt8 × Int × Int × Nat × Unit) => none)
           (fun (i : Nat) (a_1 : List UInt8 × Int × Int × Nat × Unit) =>
            ck (neb i 0)
            (some
            (sub a.1 1 (len a.1), i64 (iadd x.2.1 (i64 (idiv (i64 (iadd x.2.2.1 1)) 2))), 0,
            ())))
           fun (r : List UInt8 × Int × Int × Unit) => some r))))
       (lc
        (loop
         (fun (x : List UInt8 × Int × Int × Nat × Unit) =>
          sel (nlt x.2.2.2.1 (ln a.1))
           (ob (m30 (ofn (decode a.1 x.2.2.2.1).1, ())) fun (a_1 : Int × Bool × Unit) =>
            sel (bnot a_1.2.1) (some (LS.rt (none' UInt8, 0, 2, ())))
            (some
            (LS.nx
            (x.1, x.2.1, x.2.2.1,
            nadd x.2.2.2.1 (decode a.1 x.2.2.2.1).2, ()))))
           (some (LS.ex 0 (x.1, x.2.1, x.2.2.1, x.2.2.2.1, ()))))
         (none' UInt8, 0, 0, 0, ()))
        (fun (a : List UInt8 × Int × Int × Nat × Unit) => none)
        (fun (i : Nat) (a_1 : List UInt8 × Int × Int × Nat × Unit) =>
         ck (neb i 0) (some (a.1, i64 (iadd x.2.1 (i64 (idiv (i64 (iadd x.2.2.1 1)) 2))), 0, ())))
        fun (r : List UInt8 × Int × Int × Unit) => some r))))
theorem m19_eq (x : denL [.sl (.int .u8), .int .i64, .int .i64]) : model ⟨lookT TT, lookG [(27, ⟨[.sl (.int .u8)], [.im (.str)], m27⟩), (30, ⟨[.int .i32], [.im (.int .i64), .im (.bool)], m30⟩)]⟩ Try.f19 15 [.sl (.int .u8), .int .i64, .int .i64] [.im (.str), .im (.int .i64), .im (.int .i64)] x = m19 x := by kernel_rfl
/-- yett/dig.TakeBig -/
noncomputable def m21 (x : List UInt8 × Int × Int × Unit) : Option (Int × Int × Int × Unit) :=
  ob
  (sel (lt x.2.2.1 1) (some (true, ()))
   (sel (lt 8 x.2.2.1) (some (true, ()))
    (sel (lt x.2.1 0) (some (true, ())) (some (lt (len x.1) x.2.1, ())))))
  fun (a : Bool × Unit) =>
  sel a.1 (some (0, 0, 1, ()))
   (sel (lt (i64 (isub (len x.1) x.2.1)) x.2.2.1) (some (0, 0, 3, ()))
    (ob
     (sel (beq x.2.2.1 8)
      (ck (inB x.2.1 (len x.1)) (some (lt (n8 (u8 127)) (n8 (nth x.1 (nat x.2.1) (u8 0))), ())))
      (some (false, ())))
     fun (a : Bool × Unit) =>
     sel a.1 (some (0, 0, 2, ()))
      (ck (inC x.2.1 (i64 (iadd x.2.1 x.2.2.1)) (len x.1))
       (lc
        (loop
         (fun (x_1 : Int × Int × Unit) =>
          sel (lt x_1.2.1 (len (sub x.1 x.2.1 (i64 (iadd x.2.1 x.2.2.1)))))
           (ck (inB x_1.2.1 (len (sub x.1 x.2.1 (i64 (iadd x.2.1 x.2.2.1)))))
            (some
            (LS.nx
            (i64
            (orI IntKind.i64 (i64 (shlI IntKind.i64 x_1.1 (n64 (u64 8))))
            (i64
            (n8
            (nth (sub x.1 x.2.1 (i64 (iadd x.2.1 x.2.2.1))) (nat x_1.2.1)
            (u8 0))))),
            i64 (iadd x_1.2.1 1), ()))))
           (some (LS.ex 1 (x_1.1, x_1.2.1, ()))))
         (0, 0, ()))
        (fun (a : Int × Int × Unit) => none)
        (fun (i : Nat) (a : Int × Int × Unit) =>
         ck (neb i 1) (some (a.1, i64 (iadd x.2.1 x.2.2.1), 0, ())))
        fun (r : Int × Int × Int × Unit) => some r))))
theorem m21_eq (x : denL [.sl (.int .u8), .int .i64, .int .i64]) : model ⟨lookT TT, lookG []⟩ Try.f21 12 [.sl (.int .u8), .int .i64, .int .i64] [.im (.int .i64), .im (.int .i64), .im (.int .i64)] x = m21 x := by kernel_rfl
/-- yett/dig.Big -/
noncomputable def m23 (x : Int × Int × Unit) : Option (List UInt8 × Int × Unit) :=
  ob
  (sel (lt x.2.1 1) (some (true, ()))
   (sel (lt 8 x.2.1) (some (true, ()))
    (sel (lt x.1 0) (some (true, ()))
     (sel (lt x.2.1 8)
      (ck (le 0 (i64 (imul 8 x.2.1))) (some (lt 0 (shrI IntKind.i64 x.1 (i64 (imul 8 x.2.1))), ())))
      (some (false, ()))))))
  fun (a : Bool × Unit) =>
  sel a.1 (some (none' UInt8, 1, ()))
   (ck (band (inC 0 x.2.1 x.2.1) (rm 1 (nat x.2.1)))
    (lc
     (loop
      (fun (x_1 : Int × List UInt8 × Unit) =>
       sel (lt x_1.1 (len (rep (nat x.2.1) (u8 0))))
        (ck (le 0 (i64 (imul 8 x_1.1)))
         (ck (inB (i64 (isub (i64 (isub x.2.1 1)) x_1.1)) (len x_1.2.1))
          (some
           (LS.nx
            (i64 (iadd x_1.1 1),
            upd x_1.2.1 (nat (i64 (isub (i64 (isub x.2.1 1)) x_1.1)))
            (u8 (shrI IntKind.i64 x.1 (i64 (imul 8 x_1.1)))),
            ())))))
        (some (LS.ex 0 (x_1.1, x_1.2.1, ()))))
      (0, rep (nat x.2.1) (u8 0), ()))
     (fun (a : Int × List UInt8 × Unit) => none)
     (fun (i : Nat) (a : Int × List UInt8 × Unit) => ck (neb i 0) (some (a.2.1, 0, ())))
     fun (r : List UInt8 × Int × Unit) => some r))
theorem m23_eq (x : denL [.int .i64, .int .i64]) : model ⟨lookT TT, lookG []⟩ Try.f23 8 [.int .i64, .int .i64] [.ow (.int .u8), .im (.int .i64)] x = m23 x := by kernel_rfl
/-- yett/dig.half -/
noncomputable def m32 (x : UInt8 × Unit) : Option (UInt8 × Bool × Unit) :=
  ob (sel (le (n8 (u8 48)) (n8 x.1)) (some (le (n8 x.1) (n8 (u8 57)), ())) (some (false, ())))
  fun (a : Bool × Unit) =>
  sel a.1 (some (u8 (isub (n8 x.1) (n8 (u8 48))), true, ()))
   (ob (sel (le (n8 (u8 97)) (n8 x.1)) (some (le (n8 x.1) (n8 (u8 102)), ())) (some (false, ())))
    fun (a : Bool × Unit) =>
    sel a.1 (some (u8 (iadd (n8 (u8 (isub (n8 x.1) (n8 (u8 97))))) (n8 (u8 10))), true, ()))
     (some (u8 0, false, ())))
theorem m32_eq (x : denL [.int .u8]) : model ⟨lookT TT, lookG []⟩ Try.f32 4 [.int .u8] [.im (.int .u8), .im (.bool)] x = m32 x := by kernel_rfl
/-- yett/dig.Unhex -/
noncomputable def m25 (x : List UInt8 × Unit) : Option (List UInt8 × Int × Unit) :=
  sel (beq (imod (len x.1) 2) 1) (some (none' UInt8, 2, ()))
  (ck (band (inC 0 0 (i64 (idiv (len x.1) 2))) (rm 1 (nat (i64 (idiv (len x.1) 2)))))
   (lc
    (loop
     (fun (x_1 : Int × List UInt8 × Int × Unit) =>
      sel (lt x_1.2.2.1 (len x.1))
       (ck (inB x_1.2.2.1 (len x.1))
        (ob (m32 (nth x.1 (nat x_1.2.2.1) (u8 0), ())) fun (a : UInt8 × Bool × Unit) =>
         ck (inB (i64 (iadd x_1.2.2.1 1)) (len x.1))
          (ob (m32 (nth x.1 (nat (i64 (iadd x_1.2.2.1 1))) (u8 0), ()))
           fun (a_1 : UInt8 × Bool × Unit) =>
           ob (sel (bnot a.2.1) (some (true, ())) (some (bnot a_1.2.1, ()))) fun (a_2 : Bool × Unit) =>
            sel a_2.1 (some (LS.rt (none' UInt8, 2, ())))
            (ck
            (rm 1
            (nadd (ln x_1.2.1)
            (ln
            [u8
            (orI IntKind.u8 (n8 (u8 (shlI IntKind.u8 (n8 a.1) (n64 (u64 4)))))
            (n8 a_1.1))])))
            (some
            (LS.nx
            (x_1.1,
            app x_1.2.1
            [u8
            (orI IntKind.u8 (n8 (u8 (shlI IntKind.u8 (n8 a.1) (n64 (u64 4)))))
            (n8 a_1.1))],
            i64 (iadd x_1.2.2.1 2), ())))))))
       (some (LS.ex 0 (x_1.1, x_1.2.1, x_1.2.2.1, ()))))
     (0, rep (nat 0) (u8 0), 0, ()))
    (fun (a : Int × List UInt8 × Int × Unit) => none)
    (fun (i : Nat) (a : Int × List UInt8 × Int × Unit) => ck (neb i 0) (some (a.2.1, 0, ())))
    fun (r : List UInt8 × Int × Unit) => some r))
theorem m25_eq (x : denL [.str]) : model ⟨lookT TT, lookG [(32, ⟨[.int .u8], [.im (.int .u8), .im (.bool)], m32⟩)]⟩ Try.f25 10 [.str] [.ow (.int .u8), .im (.int .i64)] x = m25 x := by kernel_rfl
/-- yett/yettlaw01.shown -/
noncomputable def m11 (x : Unit) : Option (Bool × Unit) :=
  ob (m12 (42, 6, ())) fun (a : List UInt8 × Int × Unit) =>
  ob (m16 ([49, 50, 51, 52, 53], ())) fun (a_1 : List UInt8 × Int × Unit) =>
   ob (m23 (258, 2, ())) fun (a_2 : List UInt8 × Int × Unit) =>
    ob (m14 ([48, 48, 48, 48, 52, 50], ())) fun (a_3 : Int × Int × Unit) =>
     ob (m19 (a_1.1, 0, 5, ())) fun (a_4 : List UInt8 × Int × Int × Unit) =>
      ob (m21 (a_2.1, 0, 2, ())) fun (a_5 : Int × Int × Int × Unit) =>
       ob (m25 ([48, 49, 50, 51, 52, 53], ())) fun (a_6 : List UInt8 × Int × Unit) =>
        ob
         (sel (beq a.2.1 0)
          (sel (seq a.1 [48, 48, 48, 48, 52, 50])
           (sel (beq a_1.2.1 0)
            (ob (m27 (a_1.1, ())) fun (a : List UInt8 × Unit) =>
            sel (seq a.1 [48, 49, 50, 51, 52, 53])
            (sel (beq a_2.2.1 0)
            (sel (beq (len a_2.1) 2)
            (ck (inB 0 (len a_2.1))
            (sel (beq (n8 (nth a_2.1 (nat 0) (u8 0))) (n8 (u8 1)))
            (ck (inB 1 (len a_2.1))
            (sel (beq (n8 (nth a_2.1 (nat 1) (u8 0))) (n8 (u8 2)))
            (sel (beq a_3.2.1 0)
            (sel (beq a_3.1 42)
            (sel (beq a_4.2.2.1 0)
            (sel (seq a_4.1 [49, 50, 51, 52, 53])
            (sel (beq a_4.2.1 3)
            (sel (beq a_5.2.2.1 0)
            (sel (beq a_5.1 258)
            (sel (beq a_5.2.1 2)
            (sel (beq a_6.2.1 0)
            (ob (m18 (a_6.1, a_1.1, ())) fun (a : Bool × Unit) =>
            some (a.1, ()))
            (some (false, ())))
            (some (false, ())))
            (some (false, ())))
            (some (false, ())))
            (some (false, ())))
            (some (false, ())))
            (some (false, ())))
            (some (false, ())))
            (some (false, ())))
            (some (false, ()))))
            (some (false, ()))))
            (some (false, ())))
            (some (false, ())))
            (some (false, ())))
            (some (false, ())))
           (some (false, ())))
          (some (false, ())))
         fun (a : Bool × Unit) => some (a.1, ())
theorem m11_eq (x : denL []) : model ⟨lookT TT, lookG [(12, ⟨[.int .i64, .int .i64], [.im (.str), .im (.int .i64)], m12⟩), (14, ⟨[.str], [.im (.int .i64), .im (.int .i64)], m14⟩), (16, ⟨[.str], [.ow (.int .u8), .im (.int .i64)], m16⟩), (18, ⟨[.sl (.int .u8), .sl (.int .u8)], [.im (.bool)], m18⟩), (19, ⟨[.sl (.int .u8), .int .i64, .int .i64], [.im (.str), .im (.int .i64), .im (.int .i64)], m19⟩), (21, ⟨[.sl (.int .u8), .int .i64, .int .i64], [.im (.int .i64), .im (.int .i64), .im (.int .i64)], m21⟩), (23, ⟨[.int .i64, .int .i64], [.ow (.int .u8), .im (.int .i64)], m23⟩), (25, ⟨[.str], [.ow (.int .u8), .im (.int .i64)], m25⟩), (27, ⟨[.sl (.int .u8)], [.im (.str)], m27⟩)]⟩ Try.f11 17 [] [.im (.bool)] x = m11 x := by kernel_rfl
/-- yett/yettref01.power -/
noncomputable def m29 (x : Int × Int × Unit) : Option (Int × Unit) :=
  lc
  (loop
   (fun (x_1 : Int × Int × Unit) =>
    sel (lt x_1.2.1 x.2.1) (some (LS.nx (i64 (imul x_1.1 x.1), i64 (iadd x_1.2.1 1), ())))
     (some (LS.ex 0 (x_1.1, x_1.2.1, ()))))
   (1, 0, ()))
  (fun (a : Int × Int × Unit) => none) (fun (i : Nat) (a : Int × Int × Unit) => ck (neb i 0) (some (a.1, ())))
  fun (r : Int × Unit) => some r
theorem m29_eq (x : denL [.int .i64, .int .i64]) : model ⟨lookT TT, lookG []⟩ Try.f29 7 [.int .i64, .int .i64] [.im (.int .i64)] x = m29 x := by kernel_rfl
/-- yett/yettref01.Digits -/
noncomputable def m13 (x : Int × Int × Unit) : Option (List UInt8 × Int × Unit) :=
  ob
  (sel (lt x.2.1 1) (some (true, ()))
   (sel (lt 18 x.2.1) (some (true, ()))
    (sel (lt x.1 0) (some (true, ()))
     (ob (m29 (10, x.2.1, ())) fun (a : Int × Unit) => some (le a.1 x.1, ())))))
  fun (a : Bool × Unit) =>
  sel a.1 (some (none' UInt8, 1, ()))
   (lc
    (loop
     (fun (x_1 : List UInt8 × Int × Unit) =>
      sel (le 0 x_1.2.1)
       (ob (m29 (10, x_1.2.1, ())) fun (a : Int × Unit) =>
        ck (bnot (beq a.1 0))
         (ck (rm 1 (nadd (ln x_1.1) (ln [u8 (i64 (iadd 48 (imod (i64 (idiv x.1 a.1)) 10)))])))
          (some
           (LS.nx
            (app x_1.1 [u8 (i64 (iadd 48 (imod (i64 (idiv x.1 a.1)) 10)))], i64 (isub x_1.2.1 1),
            ())))))
       (some (LS.ex 0 (x_1.1, x_1.2.1, ()))))
     (none' UInt8, i64 (isub x.2.1 1), ()))
    (fun (a : List UInt8 × Int × Unit) => none)
    (fun (i : Nat) (a : List UInt8 × Int × Unit) => ck (neb i 0) (some (a.1, 0, ())))
    fun (r : List UInt8 × Int × Unit) => some r)
theorem m13_eq (x : denL [.int .i64, .int .i64]) : model ⟨lookT TT, lookG [(29, ⟨[.int .i64, .int .i64], [.im (.int .i64)], m29⟩)]⟩ Try.f13 8 [.int .i64, .int .i64] [.im (.str), .im (.int .i64)] x = m13 x := by kernel_rfl
/-- yett/yettref01.Figures -/
noncomputable def m31 (x : List UInt8 × Unit) : Option (Bool × Unit) :=
  lc
  (loop
   (fun (x_1 : Bool × Int × Unit) =>
    sel (lt x_1.2.1 (len x.1))
     (ck (inB x_1.2.1 (len x.1))
      (ob
       (sel (lt (n8 (nth x.1 (nat x_1.2.1) (u8 0))) (n8 (u8 48))) (some (true, ()))
        (ck (inB x_1.2.1 (len x.1)) (some (lt (n8 (u8 57)) (n8 (nth x.1 (nat x_1.2.1) (u8 0))), ()))))
       fun (a : Bool × Unit) =>
       sel a.1 (some (LS.rt (false, ()))) (some (LS.nx (x_1.1, i64 (iadd x_1.2.1 1), ())))))
     (some (LS.ex 0 (x_1.1, x_1.2.1, ()))))
   (false, 0, ()))
  (fun (a : Bool × Int × Unit) => none) (fun (i : Nat) (a : Bool × Int × Unit) => ck (neb i 0) (some (true, ())))
  fun (r : Bool × Unit) => some r
theorem m31_eq (x : denL [.str]) : model ⟨lookT TT, lookG []⟩ Try.f31 4 [.str] [.im (.bool)] x = m31 x := by kernel_rfl
/-- yett/yettref01.Value -/
noncomputable def m15 (x : List UInt8 × Unit) : Option (Int × Int × Unit) :=
  ob
  (sel (lt (len x.1) 1) (some (true, ()))
   (sel (lt 18 (len x.1)) (some (true, ())) (ob (m31 (x.1, ())) fun (a : Bool × Unit) => some (bnot a.1, ()))))
  fun (a : Bool × Unit) =>
  sel a.1 (some (0, 2, ()))
   (lc
    (loop
     (fun (x_1 : Int × Int × Unit) =>
      sel (lt x_1.2.1 (len x.1))
       (ck (inB x_1.2.1 (len x.1))
        (ob (m29 (10, i64 (isub (i64 (isub (len x.1) 1)) x_1.2.1), ())) fun (a : Int × Unit) =>
         some
          (LS.nx
           (i64
            (iadd x_1.1
            (i64 (imul (i64 (isub (i64 (n8 (nth x.1 (nat x_1.2.1) (u8 0)))) 48)) a.1))),
            i64 (iadd x_1.2.1 1), ()))))
       (some (LS.ex 0 (x_1.1, x_1.2.1, ()))))
     (0, 0, ()))
    (fun (a : Int × Int × Unit) => none) (fun (i : Nat) (a : Int × Int × Unit) => ck (neb i 0) (some (a.1, 0, ())))
    fun (r : Int × Int × Unit) => some r)
theorem m15_eq (x : denL [.str]) : model ⟨lookT TT, lookG [(29, ⟨[.int .i64, .int .i64], [.im (.int .i64)], m29⟩), (31, ⟨[.str], [.im (.bool)], m31⟩)]⟩ Try.f15 6 [.str] [.im (.int .i64), .im (.int .i64)] x = m15 x := by kernel_rfl
/-- yett/yettref01.Bcd -/
noncomputable def m17 (x : List UInt8 × Unit) : Option (List UInt8 × Int × Unit) :=
  ob (m31 (x.1, ())) fun (a : Bool × Unit) =>
  sel (bnot a.1) (some (none' UInt8, 2, ()))
   (ob
    (sel (beq (imod (len x.1) 2) 1)
     (ck (le (iadd (len [48]) (len x.1)) 140737488355328) (some (app [48] x.1, ()))) (some (x.1, ())))
    fun (a : List UInt8 × Unit) =>
    lc
     (loop
      (fun (x : List UInt8 × Int × Unit) =>
       sel (lt x.2.1 (len a.1))
        (ck (inB x.2.1 (len a.1))
         (ck (inB (i64 (iadd x.2.1 1)) (len a.1))
          (ck
           (rm 1
            (nadd (ln x.1)
            (ln
            [u8
            (isub
            (n8
            (u8
            (iadd
            (n8
            (u8
            (imul (n8 (u8 16))
            (n8 (u8 (isub (n8 (nth a.1 (nat x.2.1) (u8 0))) (n8 (u8 48))))))))
            (n8 (nth a.1 (nat (i64 (iadd x.2.1 1))) (u8 0))))))
            (n8 (u8 48)))])))
           (some
            (LS.nx
            (app x.1
            [u8
            (isub
            (n8
            (u8
            (iadd
            (n8
            (u8
            (imul (n8 (u8 16))
            (n8 (u8 (isub (n8 (nth a.1 (nat x.2.1) (u8 0))) (n8 (u8 48))))))))
            (n8 (nth a.1 (nat (i64 (iadd x.2.1 1))) (u8 0))))))
            (n8 (u8 48)))],
            i64 (iadd x.2.1 2), ()))))))
        (some (LS.ex 0 (x.1, x.2.1, ()))))
      (none' UInt8, 0, ()))
     (fun (a : List UInt8 × Int × Unit) => none)
     (fun (i : Nat) (a : List UInt8 × Int × Unit) => ck (neb i 0) (some (a.1, 0, ())))
     fun (r : List UInt8 × Int × Unit) => some r)
theorem m17_eq (x : denL [.str]) : model ⟨lookT TT, lookG [(31, ⟨[.str], [.im (.bool)], m31⟩)]⟩ Try.f17 6 [.str] [.ow (.int .u8), .im (.int .i64)] x = m17 x := by kernel_rfl
/-- yett/yettlaw01.DigFigures -/
noncomputable def m3 (x : Int × Int × List UInt8 × Unit) : Option (Bool × Unit) :=
  ob (m11 ()) fun (a : Bool × Unit) =>
  sel (lt 100 (len x.2.2.1)) (some (a.1, ()))
   (ob (m12 (x.1, x.2.1, ())) fun (a_1 : List UInt8 × Int × Unit) =>
    ob (m13 (x.1, x.2.1, ())) fun (a_2 : List UInt8 × Int × Unit) =>
     ob (m14 (x.2.2.1, ())) fun (a_3 : Int × Int × Unit) =>
      ob (m15 (x.2.2.1, ())) fun (a_4 : Int × Int × Unit) =>
       ob (m16 (x.2.2.1, ())) fun (a_5 : List UInt8 × Int × Unit) =>
        ob (m17 (x.2.2.1, ())) fun (a_6 : List UInt8 × Int × Unit) =>
         ob
          (sel a.1
           (sel (seq a_1.1 a_2.1)
            (sel (beq a_1.2.1 a_2.2.1)
            (sel (beq a_3.1 a_4.1)
            (sel (beq a_3.2.1 a_4.2.1)
            (ob (m18 (a_5.1, a_6.1, ())) fun (a : Bool × Unit) =>
            sel a.1 (some (beq a_5.2.1 a_6.2.1, ())) (some (false, ())))
            (some (false, ())))
            (some (false, ())))
            (some (false, ())))
            (some (false, ())))
           (some (false, ())))
          fun (a : Bool × Unit) => some (a.1, ()))
theorem m3_eq (x : denL [.int .i64, .int .i64, .str]) : model ⟨lookT TT, lookG [(11, ⟨[], [.im (.bool)], m11⟩), (12, ⟨[.int .i64, .int .i64], [.im (.str), .im (.int .i64)], m12⟩), (13, ⟨[.int .i64, .int .i64], [.im (.str), .im (.int .i64)], m13⟩), (14, ⟨[.str], [.im (.int .i64), .im (.int .i64)], m14⟩), (15, ⟨[.str], [.im (.int .i64), .im (.int .i64)], m15⟩), (16, ⟨[.str], [.ow (.int .u8), .im (.int .i64)], m16⟩), (17, ⟨[.str], [.ow (.int .u8), .im (.int .i64)], m17⟩), (18, ⟨[.sl (.int .u8), .sl (.int .u8)], [.im (.bool)], m18⟩)]⟩ Try.f3 20 [.int .i64, .int .i64, .str] [.im (.bool)] x = m3 x := by kernel_rfl
/-- yett/yettref01.TakeBcd -/
noncomputable def m20 (x : List UInt8 × Int × Int × Unit) : Option (List UInt8 × Int × Int × Unit) :=
  ob
  (sel (lt x.2.2.1 0) (some (true, ()))
   (sel (lt 999 x.2.2.1) (some (true, ()))
    (sel (lt x.2.1 0) (some (true, ())) (some (lt (len x.1) x.2.1, ())))))
  fun (a : Bool × Unit) =>
  sel a.1 (some (none' UInt8, 0, 1, ()))
   (sel (lt (i64 (isub (len x.1) x.2.1)) (i64 (idiv (i64 (iadd x.2.2.1 1)) 2)))
    (some (none' UInt8, 0, 3, ()))
    (lc
     (loop
      (fun (x_1 : List UInt8 × Int × Unit) =>
       sel (lt x_1.2.1 (i64 (iadd x.2.1 (i64 (idiv (i64 (iadd x.2.2.1 1)) 2)))))
        (ck (inB x_1.2.1 (len x.1))
         (ck (inB x_1.2.1 (len x.1))
          (ck
           (rm 1
            (nadd (ln x_1.1)
            (ln
            [u8 (idiv (n8 (nth x.1 (nat x_1.2.1) (u8 0))) (n8 (u8 16))),
            u8 (imod (n8 (nth x.1 (nat x_1.2.1) (u8 0))) (n8 (u8 16)))])))
           (some
            (LS.nx
            (app x_1.1
            [u8 (idiv (n8 (nth x.1 (nat x_1.2.1) (u8 0))) (n8 (u8 16))),
            u8 (imod (n8 (nth x.1 (nat x_1.2.1) (u8 0))) (n8 (u8 16)))],
            i64 (iadd x_1.2.1 1), ()))))))
        (some (LS.ex 0 (x_1.1, x_1.2.1, ()))))
      (none' UInt8, x.2.1, ()))
     (fun (a : List UInt8 × Int × Unit) => none)
     (fun (i : Nat) (a : List UInt8 × Int × Unit) =>
      ck (neb i 0)
       (sel (beq (imod x.2.2.1 2) 1)
        (ck (inB 0 (len a.1))
         (sel (bnot (beq (n8 (nth a.1 (nat 0) (u8 0))) (n8 (u8 0)))) (some (none' UInt8, 0, 2, ()))
          (ck (inC 1 (len a.1) (len a.1))
           (lc
            (loop
            (fun (x : List UInt8 × Int × Int × Int × List UInt8 × Unit) =>
            sel (lt x.2.2.2.1 (ofn (nsub (nat (len a.1)) (nat 1))))
            (ck (inB x.2.2.2.1 (ofn (nsub (nat (len a.1)) (nat 1))))
            (sel
            (lt (n8 (u8 9))
            (n8 (nth x.2.2.2.2.1 (nadd (nat 1) (nat x.2.2.2.1)) (u8 0))))
            (some (LS.rt (none' UInt8, 0, 2, ())))
            (ck (inB x.2.2.2.1 (ofn (nsub (nat (len a.1)) (nat 1))))
            (ck (inB x.2.2.2.1 (ofn (nsub (nat (len a.1)) (nat 1))))
            (some
            (LS.nx
            (x.1, x.2.1, x.2.2.1, i64 (iadd x.2.2.2.1 1),
            upd x.2.2.2.2.1 (nadd (nat 1) (nat x.2.2.2.1))
            (u8
            (iadd
            (n8
            (nth x.2.2.2.2.1 (nadd (nat 1) (nat x.2.2.2.1))
            (u8 0)))
            (n8 (u8 48)))),
            ())))))))
            (some
            (LS.ex 2
            (x.1, x.2.1, x.2.2.1, x.2.2.2.1, x.2.2.2.2.1, ()))))
            (none' UInt8, 0, 0, 0, a.1, ()))
            (fun (a : List UInt8 × Int × Int × Int × List UInt8 × Unit) => none)
            (fun (i : Nat) (a_1 : List UInt8 × Int × Int × Int × List UInt8 × Unit) =>
            ck (neb i 2)
            (some
            (cut a_1.2.2.2.2.1 (nat 1) (nsub (nat (len a.1)) (nat 1)),
            i64 (iadd x.2.1 (i64 (idiv (i64 (iadd x.2.2.1 1)) 2))), 0, ())))
            fun (r : List UInt8 × Int × Int × Unit) => some r))))
        (lc
         (loop
          (fun (x : List UInt8 × Int × Int × Int × List UInt8 × Unit) =>
           sel (lt x.2.2.2.1 (len x.2.2.2.2.1))
            (ck (inB x.2.2.2.1 (len x.2.2.2.2.1))
            (sel (lt (n8 (u8 9)) (n8 (nth x.2.2.2.2.1 (nat x.2.2.2.1) (u8 0))))
            (some (LS.rt (none' UInt8, 0, 2, ())))
            (ck (inB x.2.2.2.1 (len x.2.2.2.2.1))
            (ck (inB x.2.2.2.1 (len x.2.2.2.2.1))
            (some
            (LS.nx
            (x.1, x.2.1, x.2.2.1, i64 (iadd x.2.2.2.1 1),
            upd x.2.2.2.2.1 (nat x.2.2.2.1)
            (u8
            (iadd (n8 (nth x.2.2.2.2.1 (nat x.2.2.2.1) (u8 0)))
            (n8 (u8 48)))),
            ())))))))
            (some (LS.ex 2 (x.1, x.2.1, x.2.2.1, x.2.2.2.1, x.2.2.2.2.1, ()))))
          (none' UInt8, 0, 0, 0, a.1, ()))
         (fun (a : List UInt8 × Int × Int × Int × List UInt8 × Unit) => none)
         (fun (i : Nat) (a : List UInt8 × Int × Int × Int × List UInt8 × Unit) =>
          ck (neb i 2)
           (some
            (a.2.2.2.2.1, i64 (iadd x.2.1 (i64 (idiv (i64 (iadd x.2.2.1 1)) 2))), 0, ())))
         fun (r : List UInt8 × Int × Int × Unit) => some r)))
     fun (r : List UInt8 × Int × Int × Unit) => some r))
theorem m20_eq (x : denL [.sl (.int .u8), .int .i64, .int .i64]) : model ⟨lookT TT, lookG []⟩ Try.f20 13 [.sl (.int .u8), .int .i64, .int .i64] [.im (.str), .im (.int .i64), .im (.int .i64)] x = m20 x := by kernel_rfl
/-- yett/yettref01.TakeBig -/
noncomputable def m22 (x : List UInt8 × Int × Int × Unit) : Option (Int × Int × Int × Unit) :=
  ob
  (sel (lt x.2.2.1 1) (some (true, ()))
   (sel (lt 8 x.2.2.1) (some (true, ()))
    (sel (lt x.2.1 0) (some (true, ())) (some (lt (len x.1) x.2.1, ())))))
  fun (a : Bool × Unit) =>
  sel a.1 (some (0, 0, 1, ()))
   (sel (lt (i64 (isub (len x.1) x.2.1)) x.2.2.1) (some (0, 0, 3, ()))
    (ob
     (sel (beq x.2.2.1 8)
      (ck (inB x.2.1 (len x.1)) (some (le (n8 (u8 128)) (n8 (nth x.1 (nat x.2.1) (u8 0))), ())))
      (some (false, ())))
     fun (a : Bool × Unit) =>
     sel a.1 (some (0, 0, 2, ()))
      (lc
       (loop
        (fun (x_1 : Int × Int × Unit) =>
         sel (lt x_1.2.1 x.2.2.1)
          (ck (inB (i64 (iadd x.2.1 x_1.2.1)) (len x.1))
           (some
            (LS.nx
            (i64
            (iadd (i64 (imul 256 x_1.1))
            (i64 (n8 (nth x.1 (nat (i64 (iadd x.2.1 x_1.2.1))) (u8 0))))),
            i64 (iadd x_1.2.1 1), ()))))
          (some (LS.ex 0 (x_1.1, x_1.2.1, ()))))
        (0, 0, ()))
       (fun (a : Int × Int × Unit) => none)
       (fun (i : Nat) (a : Int × Int × Unit) =>
        ck (neb i 0) (some (a.1, i64 (iadd x.2.1 x.2.2.1), 0, ())))
       fun (r : Int × Int × Int × Unit) => some r)))
theorem m22_eq (x : denL [.sl (.int .u8), .int .i64, .int .i64]) : model ⟨lookT TT, lookG []⟩ Try.f22 11 [.sl (.int .u8), .int .i64, .int .i64] [.im (.int .i64), .im (.int .i64), .im (.int .i64)] x = m22 x := by kernel_rfl
/-- yett/yettlaw01.DigTakes -/
noncomputable def m4 (x : List UInt8 × Int × Int × Unit) : Option (Bool × Unit) :=
  ob (m11 ()) fun (a : Bool × Unit) =>
  sel (lt 600 (len x.1)) (some (a.1, ()))
   (ob (m19 (x.1, x.2.1, x.2.2.1, ())) fun (a_1 : List UInt8 × Int × Int × Unit) =>
    ob (m20 (x.1, x.2.1, x.2.2.1, ())) fun (a_2 : List UInt8 × Int × Int × Unit) =>
     ob (m21 (x.1, x.2.1, x.2.2.1, ())) fun (a_3 : Int × Int × Int × Unit) =>
      ob (m22 (x.1, x.2.1, x.2.2.1, ())) fun (a_4 : Int × Int × Int × Unit) =>
       ob
        (sel a.1
         (sel (seq a_1.1 a_2.1)
          (sel (beq a_1.2.1 a_2.2.1)
           (sel (beq a_1.2.2.1 a_2.2.2.1)
            (sel (beq a_3.1 a_4.1)
            (sel (beq a_3.2.1 a_4.2.1) (some (beq a_3.2.2.1 a_4.2.2.1, ()))
            (some (false, ())))
            (some (false, ())))
            (some (false, ())))
           (some (false, ())))
          (some (false, ())))
         (some (false, ())))
        fun (a : Bool × Unit) => some (a.1, ()))
theorem m4_eq (x : denL [.sl (.int .u8), .int .i64, .int .i64]) : model ⟨lookT TT, lookG [(11, ⟨[], [.im (.bool)], m11⟩), (19, ⟨[.sl (.int .u8), .int .i64, .int .i64], [.im (.str), .im (.int .i64), .im (.int .i64)], m19⟩), (20, ⟨[.sl (.int .u8), .int .i64, .int .i64], [.im (.str), .im (.int .i64), .im (.int .i64)], m20⟩), (21, ⟨[.sl (.int .u8), .int .i64, .int .i64], [.im (.int .i64), .im (.int .i64), .im (.int .i64)], m21⟩), (22, ⟨[.sl (.int .u8), .int .i64, .int .i64], [.im (.int .i64), .im (.int .i64), .im (.int .i64)], m22⟩)]⟩ Try.f4 20 [.sl (.int .u8), .int .i64, .int .i64] [.im (.bool)] x = m4 x := by kernel_rfl
/-- yett/yettref01.Big -/
noncomputable def m24 (x : Int × Int × Unit) : Option (List UInt8 × Int × Unit) :=
  ob (sel (lt x.2.1 1) (some (true, ())) (sel (lt 8 x.2.1) (some (true, ())) (some (lt x.1 0, ()))))
  fun (a : Bool × Unit) =>
  sel a.1 (some (none' UInt8, 1, ()))
   (ob
    (sel (lt x.2.1 8) (ob (m29 (256, x.2.1, ())) fun (a : Int × Unit) => some (le a.1 x.1, ()))
     (some (false, ())))
    fun (a : Bool × Unit) =>
    sel a.1 (some (none' UInt8, 1, ()))
     (ck (band (inC 0 x.2.1 x.2.1) (rm 1 (nat x.2.1)))
      (lc
       (loop
        (fun (x : Int × Int × List UInt8 × Unit) =>
         sel (le 0 x.2.1)
          (ck (inB x.2.1 (len x.2.2.1))
           (some
            (LS.nx
            (i64 (idiv x.1 256), i64 (isub x.2.1 1),
            upd x.2.2.1 (nat x.2.1) (u8 (imod x.1 256)), ()))))
          (some (LS.ex 0 (x.1, x.2.1, x.2.2.1, ()))))
        (x.1, i64 (isub x.2.1 1), rep (nat x.2.1) (u8 0), ()))
       (fun (a : Int × Int × List UInt8 × Unit) => none)
       (fun (i : Nat) (a : Int × Int × List UInt8 × Unit) => ck (neb i 0) (some (a.2.2.1, 0, ())))
       fun (r : List UInt8 × Int × Unit) => some r)))
theorem m24_eq (x : denL [.int .i64, .int .i64]) : model ⟨lookT TT, lookG [(29, ⟨[.int .i64, .int .i64], [.im (.int .i64)], m29⟩)]⟩ Try.f24 8 [.int .i64, .int .i64] [.ow (.int .u8), .im (.int .i64)] x = m24 x := by kernel_rfl
/-- yett/yettref01.worth -/
noncomputable def m33 (x : UInt8 × Unit) : Option (Int × Unit) :=
  ob (sel (le (n8 (u8 48)) (n8 x.1)) (some (le (n8 x.1) (n8 (u8 57)), ())) (some (false, ())))
  fun (a : Bool × Unit) =>
  sel a.1 (some (i64 (isub (i64 (n8 x.1)) 48), ()))
   (ob (sel (le (n8 (u8 97)) (n8 x.1)) (some (le (n8 x.1) (n8 (u8 102)), ())) (some (false, ())))
    fun (a : Bool × Unit) => sel a.1 (some (i64 (isub (i64 (n8 x.1)) 87), ())) (some (16, ())))
theorem m33_eq (x : denL [.int .u8]) : model ⟨lookT TT, lookG []⟩ Try.f33 3 [.int .u8] [.im (.int .i64)] x = m33 x := by kernel_rfl
/-- yett/yettref01.Unhex -/
noncomputable def m26 (x : List UInt8 × Unit) : Option (List UInt8 × Int × Unit) :=
  sel (beq (imod (len x.1) 2) 1) (some (none' UInt8, 2, ()))
  (lc
   (loop
    (fun (x_1 : Int × List UInt8 × Int × Unit) =>
     sel (lt x_1.2.2.1 (len x.1))
      (ck (inB x_1.2.2.1 (len x.1))
       (ob (m33 (nth x.1 (nat x_1.2.2.1) (u8 0), ())) fun (a : Int × Unit) =>
        ck (inB (i64 (iadd x_1.2.2.1 1)) (len x.1))
         (ob (m33 (nth x.1 (nat (i64 (iadd x_1.2.2.1 1))) (u8 0), ())) fun (a_1 : Int × Unit) =>
          ob (sel (lt 15 a.1) (some (true, ())) (some (lt 15 a_1.1, ()))) fun (a_2 : Bool × Unit) =>
           sel a_2.1 (some (LS.rt (none' UInt8, 2, ())))
            (ck (rm 1 (nadd (ln x_1.2.1) (ln [u8 (i64 (iadd (i64 (imul 16 a.1)) a_1.1))])))
            (some
            (LS.nx
            (x_1.1, app x_1.2.1 [u8 (i64 (iadd (i64 (imul 16 a.1)) a_1.1))],
            i64 (iadd x_1.2.2.1 2), ())))))))
      (some (LS.ex 0 (x_1.1, x_1.2.1, x_1.2.2.1, ()))))
    (0, none' UInt8, 0, ()))
   (fun (a : Int × List UInt8 × Int × Unit) => none)
   (fun (i : Nat) (a : Int × List UInt8 × Int × Unit) => ck (neb i 0) (some (a.2.1, 0, ())))
   fun (r : List UInt8 × Int × Unit) => some r)
theorem m26_eq (x : denL [.str]) : model ⟨lookT TT, lookG [(33, ⟨[.int .u8], [.im (.int .i64)], m33⟩)]⟩ Try.f26 8 [.str] [.ow (.int .u8), .im (.int .i64)] x = m26 x := by kernel_rfl
/-- yett/yettref01.sign -/
noncomputable def m34 (x : UInt8 × Unit) : Option (UInt8 × Unit) :=
  sel (lt (n8 x.1) (n8 (u8 10))) (some (u8 (iadd (n8 (u8 48)) (n8 x.1)), ()))
  (some (u8 (iadd (n8 (u8 87)) (n8 x.1)), ()))
theorem m34_eq (x : denL [.int .u8]) : model ⟨lookT TT, lookG []⟩ Try.f34 3 [.int .u8] [.im (.int .u8)] x = m34 x := by kernel_rfl
/-- yett/yettref01.Hex -/
noncomputable def m28 (x : List UInt8 × Unit) : Option (List UInt8 × Unit) :=
  lc
  (loop
   (fun (x_1 : List UInt8 × Int × Unit) =>
    sel (lt x_1.2.1 (len x.1))
     (ck (inB x_1.2.1 (len x.1))
      (ob (m34 (u8 (idiv (n8 (nth x.1 (nat x_1.2.1) (u8 0))) (n8 (u8 16))), ())) fun (a : UInt8 × Unit) =>
       ck (inB x_1.2.1 (len x.1))
        (ob (m34 (u8 (imod (n8 (nth x.1 (nat x_1.2.1) (u8 0))) (n8 (u8 16))), ()))
         fun (a_1 : UInt8 × Unit) =>
         ck (rm 1 (nadd (ln x_1.1) (ln [a.1, a_1.1])))
          (some (LS.nx (app x_1.1 [a.1, a_1.1], i64 (iadd x_1.2.1 1), ()))))))
     (some (LS.ex 0 (x_1.1, x_1.2.1, ()))))
   (none' UInt8, 0, ()))
  (fun (a : List UInt8 × Int × Unit) => none)
  (fun (i : Nat) (a : List UInt8 × Int × Unit) => ck (neb i 0) (some (a.1, ()))) fun (r : List UInt8 × Unit) => some r
theorem m28_eq (x : denL [.sl (.int .u8)]) : model ⟨lookT TT, lookG [(34, ⟨[.int .u8], [.im (.int .u8)], m34⟩)]⟩ Try.f28 5 [.sl (.int .u8)] [.im (.str)] x = m28 x := by kernel_rfl
/-- yett/yettlaw01.DigBytes -/
noncomputable def m5 (x : (Int × Int × List UInt8 × List UInt8 × Unit) × Unit) : Option (Bool × Unit) :=
  ob (m11 ()) fun (a : Bool × Unit) =>
  ob (sel (lt 200 (len x.1.2.2.1)) (some (true, ())) (some (lt 200 (len x.1.2.2.2.1), ())))
   fun (a_1 : Bool × Unit) =>
   sel a_1.1 (some (a.1, ()))
    (ob (m23 (x.1.1, x.1.2.1, ())) fun (a_2 : List UInt8 × Int × Unit) =>
     ob (m24 (x.1.1, x.1.2.1, ())) fun (a_3 : List UInt8 × Int × Unit) =>
      ob (m25 (x.1.2.2.2.1, ())) fun (a_4 : List UInt8 × Int × Unit) =>
       ob (m26 (x.1.2.2.2.1, ())) fun (a_5 : List UInt8 × Int × Unit) =>
        ob
         (sel a.1
          (ob (m18 (a_2.1, a_3.1, ())) fun (a : Bool × Unit) =>
           sel a.1
            (sel (beq a_2.2.1 a_3.2.1)
            (ob (m27 (x.1.2.2.1, ())) fun (a : List UInt8 × Unit) =>
            ob (m28 (x.1.2.2.1, ())) fun (a_6 : List UInt8 × Unit) =>
            sel (seq a.1 a_6.1)
            (ob (m18 (a_4.1, a_5.1, ())) fun (a : Bool × Unit) =>
            sel a.1 (some (beq a_4.2.1 a_5.2.1, ())) (some (false, ())))
            (some (false, ())))
            (some (false, ())))
            (some (false, ())))
          (some (false, ())))
         fun (a : Bool × Unit) => some (a.1, ()))
theorem m5_eq (x : denL [.pair (.int .i64) (.pair (.int .i64) (.pair (.sl (.int .u8)) (.pair (.str) (.unit))))]) : model ⟨lookT TT, lookG [(11, ⟨[], [.im (.bool)], m11⟩), (18, ⟨[.sl (.int .u8), .sl (.int .u8)], [.im (.bool)], m18⟩), (23, ⟨[.int .i64, .int .i64], [.ow (.int .u8), .im (.int .i64)], m23⟩), (24, ⟨[.int .i64, .int .i64], [.ow (.int .u8), .im (.int .i64)], m24⟩), (25, ⟨[.str], [.ow (.int .u8), .im (.int .i64)], m25⟩), (26, ⟨[.str], [.ow (.int .u8), .im (.int .i64)], m26⟩), (27, ⟨[.sl (.int .u8)], [.im (.str)], m27⟩), (28, ⟨[.sl (.int .u8)], [.im (.str)], m28⟩)]⟩ Try.f5 16 [.pair (.int .i64) (.pair (.int .i64) (.pair (.sl (.int .u8)) (.pair (.str) (.unit))))] [.im (.bool)] x = m5 x := by kernel_rfl
/-- yett/yettlaw01.DigBack -/
noncomputable def m6 (x : (Int × Int × List UInt8 × List UInt8 × Unit) × Unit) : Option (Bool × Unit) :=
  ob (m11 ()) fun (a : Bool × Unit) =>
  ob (sel (lt 200 (len x.1.2.2.1)) (some (true, ())) (some (lt 100 (len x.1.2.2.2.1), ())))
   fun (a_1 : Bool × Unit) =>
   sel a_1.1 (some (a.1, ()))
    (ob (m12 (x.1.1, x.1.2.1, ())) fun (a_2 : List UInt8 × Int × Unit) =>
     sel (beq a_2.2.1 0)
      (ob (m14 (a_2.1, ())) fun (a_3 : Int × Int × Unit) =>
       ob (m16 (a_2.1, ())) fun (a_4 : List UInt8 × Int × Unit) =>
        ck (rm 1 (nadd (ln (none' UInt8)) (ln a_4.1)))
         (ck (rm 1 (nadd (ln (app (none' UInt8) a_4.1)) (ln x.1.2.2.2.1)))
          (ob (m19 (app (app (none' UInt8) a_4.1) x.1.2.2.2.1, 0, x.1.2.1, ()))
           fun (a_5 : List UInt8 × Int × Int × Unit) =>
           ob
            (sel (bnot (beq a_3.2.1 0)) (some (true, ()))
            (sel (bnot (beq a_3.1 x.1.1)) (some (true, ()))
            (sel (bnot (beq (len a_2.1) x.1.2.1)) (some (true, ()))
            (sel (bnot (beq a_4.2.1 0)) (some (true, ()))
            (sel (bnot (beq a_5.2.2.1 0)) (some (true, ()))
            (sel (bnot (seq a_5.1 a_2.1)) (some (true, ()))
            (sel (bnot (beq a_5.2.1 (len a_4.1))) (some (true, ()))
            (some
            (bnot (beq (len a_4.1) (i64 (idiv (i64 (iadd x.1.2.1 1)) 2))), ())))))))))
            fun (a_6 : Bool × Unit) =>
            sel a_6.1 (some (false, ()))
            (ob (m23 (x.1.1, x.1.2.1, ())) fun (a_7 : List UInt8 × Int × Unit) =>
            sel (beq a_7.2.1 0)
            (ck (rm 1 (nadd (ln (none' UInt8)) (ln a_7.1)))
            (ck (rm 1 (nadd (ln (app (none' UInt8) a_7.1)) (ln x.1.2.2.2.1)))
            (ob (m21 (app (app (none' UInt8) a_7.1) x.1.2.2.2.1, 0, x.1.2.1, ()))
            fun (a_8 : Int × Int × Int × Unit) =>
            ob
            (sel (bnot (beq a_8.2.2.1 0)) (some (true, ()))
            (sel (bnot (beq a_8.1 x.1.1)) (some (true, ()))
            (sel (bnot (beq a_8.2.1 x.1.2.1)) (some (true, ()))
            (some (bnot (beq (len a_7.1) x.1.2.1), ())))))
            fun (a_9 : Bool × Unit) =>
            sel a_9.1 (some (false, ()))
            (ob (m27 (x.1.2.2.1, ())) fun (a_10 : List UInt8 × Unit) =>
            ob (m25 (a_10.1, ())) fun (a_11 : List UInt8 × Int × Unit) =>
            ob
            (sel a.1
            (sel (beq a_11.2.1 0)
            (ob (m18 (a_11.1, x.1.2.2.1, ())) fun (a : Bool × Unit) =>
            sel a.1
            (ob (m27 (x.1.2.2.1, ())) fun (a : List UInt8 × Unit) =>
            some (beq (len a.1) (i64 (imul 2 (len x.1.2.2.1))), ()))
            (some (false, ())))
            (some (false, ())))
            (some (false, ())))
            fun (a : Bool × Unit) => some (a.1, ())))))
            (ob (m27 (x.1.2.2.1, ())) fun (a_8 : List UInt8 × Unit) =>
            ob (m25 (a_8.1, ())) fun (a_9 : List UInt8 × Int × Unit) =>
            ob
            (sel a.1
            (sel (beq a_9.2.1 0)
            (ob (m18 (a_9.1, x.1.2.2.1, ())) fun (a : Bool × Unit) =>
            sel a.1
            (ob (m27 (x.1.2.2.1, ())) fun (a : List UInt8 × Unit) =>
            some (beq (len a.1) (i64 (imul 2 (len x.1.2.2.1))), ()))
            (some (false, ())))
            (some (false, ())))
            (some (false, ())))
            fun (a : Bool × Unit) => some (a.1, ()))))))
      (ob (m23 (x.1.1, x.1.2.1, ())) fun (a_3 : List UInt8 × Int × Unit) =>
       sel (beq a_3.2.1 0)
        (ck (rm 1 (nadd (ln (none' UInt8)) (ln a_3.1)))
         (ck (rm 1 (nadd (ln (app (none' UInt8) a_3.1)) (ln x.1.2.2.2.1)))
          (ob (m21 (app (app (none' UInt8) a_3.1) x.1.2.2.2.1, 0, x.1.2.1, ()))
           fun (a_4 : Int × Int × Int × Unit) =>
           ob
            (sel (bnot (beq a_4.2.2.1 0)) (some (true, ()))
            (sel (bnot (beq a_4.1 x.1.1)) (some (true, ()))
            (sel (bnot (beq a_4.2.1 x.1.2.1)) (some (true, ()))
            (some (bnot (beq (len a_3.1) x.1.2.1), ())))))
            fun (a_5 : Bool × Unit) =>
            sel a_5.1 (some (false, ()))
            (ob (m27 (x.1.2.2.1, ())) fun (a_6 : List UInt8 × Unit) =>
            ob (m25 (a_6.1, ())) fun (a_7 : List UInt8 × Int × Unit) =>
            ob
            (sel a.1
            (sel (beq a_7.2.1 0)
            (ob (m18 (a_7.1, x.1.2.2.1, ())) fun (a : Bool × Unit) =>
            sel a.1
            (ob (m27 (x.1.2.2.1, ())) fun (a : List UInt8 × Unit) =>
            some (beq (len a.1) (i64 (imul 2 (len x.1.2.2.1))), ()))
            (some (false, ())))
            (some (false, ())))
            (some (false, ())))
            fun (a : Bool × Unit) => some (a.1, ())))))
        (ob (m27 (x.1.2.2.1, ())) fun (a_4 : List UInt8 × Unit) =>
         ob (m25 (a_4.1, ())) fun (a_5 : List UInt8 × Int × Unit) =>
          ob
           (sel a.1
            (sel (beq a_5.2.1 0)
            (ob (m18 (a_5.1, x.1.2.2.1, ())) fun (a : Bool × Unit) =>
            sel a.1
            (ob (m27 (x.1.2.2.1, ())) fun (a : List UInt8 × Unit) =>
            some (beq (len a.1) (i64 (imul 2 (len x.1.2.2.1))), ()))
            (some (false, ())))
            (some (false, ())))
            (some (false, ())))
           fun (a : Bool × Unit) => some (a.1, ()))))
theorem m6_eq (x : denL [.pair (.int .i64) (.pair (.int .i64) (.pair (.sl (.int .u8)) (.pair (.sl (.int .u8)) (.unit))))]) : model ⟨lookT TT, lookG [(11, ⟨[], [.im (.bool)], m11⟩), (12, ⟨[.int .i64, .int .i64], [.im (.str), .im (.int .i64)], m12⟩), (14, ⟨[.str], [.im (.int .i64), .im (.int .i64)], m14⟩), (16, ⟨[.str], [.ow (.int .u8), .im (.int .i64)], m16⟩), (18, ⟨[.sl (.int .u8), .sl (.int .u8)], [.im (.bool)], m18⟩), (19, ⟨[.sl (.int .u8), .int .i64, .int .i64], [.im (.str), .im (.int .i64), .im (.int .i64)], m19⟩), (21, ⟨[.sl (.int .u8), .int .i64, .int .i64], [.im (.int .i64), .im (.int .i64), .im (.int .i64)], m21⟩), (23, ⟨[.int .i64, .int .i64], [.ow (.int .u8), .im (.int .i64)], m23⟩), (25, ⟨[.str], [.ow (.int .u8), .im (.int .i64)], m25⟩), (27, ⟨[.sl (.int .u8)], [.im (.str)], m27⟩)]⟩ Try.f6 24 [.pair (.int .i64) (.pair (.int .i64) (.pair (.sl (.int .u8)) (.pair (.sl (.int .u8)) (.unit))))] [.im (.bool)] x = m6 x := by kernel_rfl
/-- yett/yettlaw01.DigReads -/
noncomputable def m7 (x : (List UInt8 × UInt8 × UInt8 × List UInt8 × Unit) × Unit) : Option (Bool × Unit) :=
  ob (m11 ()) fun (a : Bool × Unit) =>
  ob (sel (lt 200 (len x.1.1)) (some (true, ())) (some (lt 100 (len x.1.2.2.2.1), ())))
   fun (a_1 : Bool × Unit) =>
   sel a_1.1 (some (a.1, ()))
    (ck (bnot (beq (i64 (iadd (len x.1.1) 1)) 0))
     (ob
      (m19
       (x.1.1, imod (i64 (n8 x.1.2.1)) (i64 (iadd (len x.1.1) 1)), i64 (n8 x.1.2.2.1), ()))
      fun (a_2 : List UInt8 × Int × Int × Unit) =>
      sel (beq a_2.2.2.1 0)
       (ob (m16 (a_2.1, ())) fun (a_3 : List UInt8 × Int × Unit) =>
        ob
         (sel (bnot (beq a_3.2.1 0)) (some (true, ()))
          (sel (lt a_2.2.1 (imod (i64 (n8 x.1.2.1)) (i64 (iadd (len x.1.1) 1)))) (some (true, ()))
           (sel (lt (len x.1.1) a_2.2.1) (some (true, ()))
            (ck
            (inC (imod (i64 (n8 x.1.2.1)) (i64 (iadd (len x.1.1) 1))) a_2.2.1 (len x.1.1))
            (ob
            (m18
            (a_3.1,
            sub x.1.1 (imod (i64 (n8 x.1.2.1)) (i64 (iadd (len x.1.1) 1))) a_2.2.1,
            ()))
            fun (a : Bool × Unit) =>
            sel (bnot a.1) (some (true, ()))
            (some (bnot (beq (len a_2.1) (i64 (n8 x.1.2.2.1))), ())))))))
         fun (a_4 : Bool × Unit) =>
         sel a_4.1 (some (false, ()))
          (ob
           (m21
            (x.1.1, imod (i64 (n8 x.1.2.1)) (i64 (iadd (len x.1.1) 1)),
            i64 (n8 x.1.2.2.1), ()))
           fun (a_5 : Int × Int × Int × Unit) =>
           sel (beq a_5.2.2.1 0)
            (ob (m23 (a_5.1, i64 (n8 x.1.2.2.1), ())) fun (a_6 : List UInt8 × Int × Unit) =>
            ob
            (sel (bnot (beq a_6.2.1 0)) (some (true, ()))
            (sel (lt a_5.2.1 (imod (i64 (n8 x.1.2.1)) (i64 (iadd (len x.1.1) 1))))
            (some (true, ()))
            (sel (lt (len x.1.1) a_5.2.1) (some (true, ()))
            (ck
            (inC (imod (i64 (n8 x.1.2.1)) (i64 (iadd (len x.1.1) 1))) a_5.2.1
            (len x.1.1))
            (ob
            (m18
            (a_6.1,
            sub x.1.1 (imod (i64 (n8 x.1.2.1)) (i64 (iadd (len x.1.1) 1)))
            a_5.2.1,
            ()))
            fun (a : Bool × Unit) => some (bnot a.1, ()))))))
            fun (a_7 : Bool × Unit) =>
            sel a_7.1 (some (false, ()))
            (ob (m14 (x.1.2.2.2.1, ())) fun (a_8 : Int × Int × Unit) =>
            sel (beq a_8.2.1 0)
            (ob (m12 (a_8.1, len x.1.2.2.2.1, ()))
            fun (a_9 : List UInt8 × Int × Unit) =>
            ob
            (sel (bnot (beq a_9.2.1 0)) (some (true, ()))
            (some (bnot (seq a_9.1 x.1.2.2.2.1), ())))
            fun (a_10 : Bool × Unit) =>
            sel a_10.1 (some (false, ()))
            (ob (m25 (x.1.2.2.2.1, ())) fun (a_11 : List UInt8 × Int × Unit) =>
            ob
            (sel a.1
            (sel (bnot (beq a_11.2.1 0))
            (sel (beq (len a_11.1) 0) (some (true, ()))
            (sel (beq a_11.2.1 0)
            (ob (m27 (a_11.1, ())) fun (a : List UInt8 × Unit) =>
            some (seq a.1 x.1.2.2.2.1, ()))
            (some (false, ()))))
            (sel (beq a_11.2.1 0)
            (ob (m27 (a_11.1, ())) fun (a : List UInt8 × Unit) =>
            some (seq a.1 x.1.2.2.2.1, ()))
            (some (false, ()))))
            (some (false, ())))
            fun (a : Bool × Unit) => some (a.1, ())))
            (ob (m25 (x.1.2.2.2.1, ())) fun (a_9 : List UInt8 × Int × Unit) =>
            ob
            (sel a.1
            (sel (bnot (beq a_9.2.1 0))
            (sel (beq (len a_9.1) 0) (some (true, ()))
            (sel (beq a_9.2.1 0)
            (ob (m27 (a_9.1, ())) fun (a : List UInt8 × Unit) =>
            some (seq a.1 x.1.2.2.2.1, ()))
            (some (false, ()))))
            (sel (beq a_9.2.1 0)
            (ob (m27 (a_9.1, ())) fun (a : List UInt8 × Unit) =>
            some (seq a.1 x.1.2.2.2.1, ()))
            (some (false, ()))))
            (some (false, ())))
            fun (a : Bool × Unit) => some (a.1, ()))))
            (ob (m14 (x.1.2.2.2.1, ())) fun (a_6 : Int × Int × Unit) =>
            sel (beq a_6.2.1 0)
            (ob (m12 (a_6.1, len x.1.2.2.2.1, ())) fun (a_7 : List UInt8 × Int × Unit) =>
            ob
            (sel (bnot (beq a_7.2.1 0)) (some (true, ()))
            (some (bnot (seq a_7.1 x.1.2.2.2.1), ())))
            fun (a_8 : Bool × Unit) =>
            sel a_8.1 (some (false, ()))
            (ob (m25 (x.1.2.2.2.1, ())) fun (a_9 : List UInt8 × Int × Unit) =>
            ob
            (sel a.1
            (sel (bnot (beq a_9.2.1 0))
            (sel (beq (len a_9.1) 0) (some (true, ()))
            (sel (beq a_9.2.1 0)
            (ob (m27 (a_9.1, ())) fun (a : List UInt8 × Unit) =>
            some (seq a.1 x.1.2.2.2.1, ()))
            (some (false, ()))))
            (sel (beq a_9.2.1 0)
            (ob (m27 (a_9.1, ())) fun (a : List UInt8 × Unit) =>
            some (seq a.1 x.1.2.2.2.1, ()))
            (some (false, ()))))
            (some (false, ())))
            fun (a : Bool × Unit) => some (a.1, ())))
            (ob (m25 (x.1.2.2.2.1, ())) fun (a_7 : List UInt8 × Int × Unit) =>
            ob
            (sel a.1
            (sel (bnot (beq a_7.2.1 0))
            (sel (beq (len a_7.1) 0) (some (true, ()))
            (sel (beq a_7.2.1 0)
            (ob (m27 (a_7.1, ())) fun (a : List UInt8 × Unit) =>
            some (seq a.1 x.1.2.2.2.1, ()))
            (some (false, ()))))
            (sel (beq a_7.2.1 0)
            (ob (m27 (a_7.1, ())) fun (a : List UInt8 × Unit) =>
            some (seq a.1 x.1.2.2.2.1, ()))
            (some (false, ()))))
            (some (false, ())))
            fun (a : Bool × Unit) => some (a.1, ())))))
       (ob
        (m21
         (x.1.1, imod (i64 (n8 x.1.2.1)) (i64 (iadd (len x.1.1) 1)), i64 (n8 x.1.2.2.1),
          ()))
        fun (a_3 : Int × Int × Int × Unit) =>
        sel (beq a_3.2.2.1 0)
         (ob (m23 (a_3.1, i64 (n8 x.1.2.2.1), ())) fun (a_4 : List UInt8 × Int × Unit) =>
          ob
           (sel (bnot (beq a_4.2.1 0)) (some (true, ()))
            (sel (lt a_3.2.1 (imod (i64 (n8 x.1.2.1)) (i64 (iadd (len x.1.1) 1))))
            (some (true, ()))
            (sel (lt (len x.1.1) a_3.2.1) (some (true, ()))
            (ck
            (inC (imod (i64 (n8 x.1.2.1)) (i64 (iadd (len x.1.1) 1))) a_3.2.1
            (len x.1.1))
            (ob
            (m18
            (a_4.1,
            sub x.1.1 (imod (i64 (n8 x.1.2.1)) (i64 (iadd (len x.1.1) 1)))
            a_3.2.1,
            ()))
            fun (a : Bool × Unit) => some (bnot a.1, ()))))))
           fun (a_5 : Bool × Unit) =>
           sel a_5.1 (some (false, ()))
            (ob (m14 (x.1.2.2.2.1, ())) fun (a_6 : Int × Int × Unit) =>
            sel (beq a_6.2.1 0)
            (ob (m12 (a_6.1, len x.1.2.2.2.1, ())) fun (a_7 : List UInt8 × Int × Unit) =>
            ob
            (sel (bnot (beq a_7.2.1 0)) (some (true, ()))
            (some (bnot (seq a_7.1 x.1.2.2.2.1), ())))
            fun (a_8 : Bool × Unit) =>
            sel a_8.1 (some (false, ()))
            (ob (m25 (x.1.2.2.2.1, ())) fun (a_9 : List UInt8 × Int × Unit) =>
            ob
            (sel a.1
            (sel (bnot (beq a_9.2.1 0))
            (sel (beq (len a_9.1) 0) (some (true, ()))
            (sel (beq a_9.2.1 0)
            (ob (m27 (a_9.1, ())) fun (a : List UInt8 × Unit) =>
            some (seq a.1 x.1.2.2.2.1, ()))
            (some (false, ()))))
            (sel (beq a_9.2.1 0)
            (ob (m27 (a_9.1, ())) fun (a : List UInt8 × Unit) =>
            some (seq a.1 x.1.2.2.2.1, ()))
            (some (false, ()))))
            (some (false, ())))
            fun (a : Bool × Unit) => some (a.1, ())))
            (ob (m25 (x.1.2.2.2.1, ())) fun (a_7 : List UInt8 × Int × Unit) =>
            ob
            (sel a.1
            (sel (bnot (beq a_7.2.1 0))
            (sel (beq (len a_7.1) 0) (some (true, ()))
            (sel (beq a_7.2.1 0)
            (ob (m27 (a_7.1, ())) fun (a : List UInt8 × Unit) =>
            some (seq a.1 x.1.2.2.2.1, ()))
            (some (false, ()))))
            (sel (beq a_7.2.1 0)
            (ob (m27 (a_7.1, ())) fun (a : List UInt8 × Unit) =>
            some (seq a.1 x.1.2.2.2.1, ()))
            (some (false, ()))))
            (some (false, ())))
            fun (a : Bool × Unit) => some (a.1, ()))))
         (ob (m14 (x.1.2.2.2.1, ())) fun (a_4 : Int × Int × Unit) =>
          sel (beq a_4.2.1 0)
           (ob (m12 (a_4.1, len x.1.2.2.2.1, ())) fun (a_5 : List UInt8 × Int × Unit) =>
            ob
            (sel (bnot (beq a_5.2.1 0)) (some (true, ()))
            (some (bnot (seq a_5.1 x.1.2.2.2.1), ())))
            fun (a_6 : Bool × Unit) =>
            sel a_6.1 (some (false, ()))
            (ob (m25 (x.1.2.2.2.1, ())) fun (a_7 : List UInt8 × Int × Unit) =>
            ob
            (sel a.1
            (sel (bnot (beq a_7.2.1 0))
            (sel (beq (len a_7.1) 0) (some (true, ()))
            (sel (beq a_7.2.1 0)
            (ob (m27 (a_7.1, ())) fun (a : List UInt8 × Unit) =>
            some (seq a.1 x.1.2.2.2.1, ()))
            (some (false, ()))))
            (sel (beq a_7.2.1 0)
            (ob (m27 (a_7.1, ())) fun (a : List UInt8 × Unit) =>
            some (seq a.1 x.1.2.2.2.1, ()))
            (some (false, ()))))
            (some (false, ())))
            fun (a : Bool × Unit) => some (a.1, ())))
           (ob (m25 (x.1.2.2.2.1, ())) fun (a_5 : List UInt8 × Int × Unit) =>
            ob
            (sel a.1
            (sel (bnot (beq a_5.2.1 0))
            (sel (beq (len a_5.1) 0) (some (true, ()))
            (sel (beq a_5.2.1 0)
            (ob (m27 (a_5.1, ())) fun (a : List UInt8 × Unit) =>
            some (seq a.1 x.1.2.2.2.1, ()))
            (some (false, ()))))
            (sel (beq a_5.2.1 0)
            (ob (m27 (a_5.1, ())) fun (a : List UInt8 × Unit) =>
            some (seq a.1 x.1.2.2.2.1, ()))
            (some (false, ()))))
            (some (false, ())))
            fun (a : Bool × Unit) => some (a.1, ()))))))
theorem m7_eq (x : denL [.pair (.sl (.int .u8)) (.pair (.int .u8) (.pair (.int .u8) (.pair (.str) (.unit))))]) : model ⟨lookT TT, lookG [(11, ⟨[], [.im (.bool)], m11⟩), (12, ⟨[.int .i64, .int .i64], [.im (.str), .im (.int .i64)], m12⟩), (14, ⟨[.str], [.im (.int .i64), .im (.int .i64)], m14⟩), (16, ⟨[.str], [.ow (.int .u8), .im (.int .i64)], m16⟩), (18, ⟨[.sl (.int .u8), .sl (.int .u8)], [.im (.bool)], m18⟩), (19, ⟨[.sl (.int .u8), .int .i64, .int .i64], [.im (.str), .im (.int .i64), .im (.int .i64)], m19⟩), (21, ⟨[.sl (.int .u8), .int .i64, .int .i64], [.im (.int .i64), .im (.int .i64), .im (.int .i64)], m21⟩), (23, ⟨[.int .i64, .int .i64], [.ow (.int .u8), .im (.int .i64)], m23⟩), (25, ⟨[.str], [.ow (.int .u8), .im (.int .i64)], m25⟩), (27, ⟨[.sl (.int .u8)], [.im (.str)], m27⟩)]⟩ Try.f7 25 [.pair (.sl (.int .u8)) (.pair (.int .u8) (.pair (.int .u8) (.pair (.str) (.unit))))] [.im (.bool)] x = m7 x := by kernel_rfl
/-- yett/yettlaw01.DigOrder -/
noncomputable def m8 (x : Int × Int × Int × Unit) : Option (Bool × Unit) :=
  ob (m11 ()) fun (a : Bool × Unit) =>
  ob (m12 (x.1, x.2.2.1, ())) fun (a_1 : List UInt8 × Int × Unit) =>
   ob (m12 (x.2.1, x.2.2.1, ())) fun (a_2 : List UInt8 × Int × Unit) =>
    ob (m23 (x.1, x.2.2.1, ())) fun (a_3 : List UInt8 × Int × Unit) =>
     ob (m23 (x.2.1, x.2.2.1, ())) fun (a_4 : List UInt8 × Int × Unit) =>
      ob
       (sel (beq a_1.2.1 0)
        (sel (beq a_2.2.1 0)
         (sel (bnot (beb (bytesLess a_1.1 a_2.1) (lt x.1 x.2.1))) (some (true, ()))
          (some (bnot (beb (seq a_1.1 a_2.1) (beq x.1 x.2.1)), ())))
         (some (false, ())))
        (some (false, ())))
       fun (a_5 : Bool × Unit) =>
       sel a_5.1 (some (false, ()))
        (ob
         (sel a.1
          (sel (bnot (beq a_3.2.1 0)) (some (true, ()))
           (sel (bnot (beq a_4.2.1 0)) (some (true, ()))
            (sel (beb (bytesLess a_3.1 a_4.1) (lt x.1 x.2.1))
            (some (beb (seq a_3.1 a_4.1) (beq x.1 x.2.1), ())) (some (false, ())))))
          (some (false, ())))
         fun (a : Bool × Unit) => some (a.1, ()))
theorem m8_eq (x : denL [.int .i64, .int .i64, .int .i64]) : model ⟨lookT TT, lookG [(11, ⟨[], [.im (.bool)], m11⟩), (12, ⟨[.int .i64, .int .i64], [.im (.str), .im (.int .i64)], m12⟩), (23, ⟨[.int .i64, .int .i64], [.ow (.int .u8), .im (.int .i64)], m23⟩)]⟩ Try.f8 16 [.int .i64, .int .i64, .int .i64] [.im (.bool)] x = m8 x := by kernel_rfl
/-- yett/yettlaw01.DigCuts -/
noncomputable def m9 (x : List UInt8 × Int × UInt8 × Unit) : Option (Bool × Unit) :=
  ob (m11 ()) fun (a : Bool × Unit) =>
  sel (lt 200 (len x.1)) (some (a.1, ()))
   (ob (m21 (x.1, x.2.1, i64 (iadd 1 (imod (i64 (n8 x.2.2.1)) 8)), ()))
    fun (a_1 : Int × Int × Int × Unit) =>
    ob (m19 (x.1, x.2.1, i64 (iadd 1 (imod (i64 (n8 x.2.2.1)) 8)), ()))
     fun (a_2 : List UInt8 × Int × Int × Unit) =>
     ob (sel (lt x.2.1 0) (some (true, ())) (some (lt (len x.1) x.2.1, ()))) fun (a_3 : Bool × Unit) =>
      ob
       (sel (bnot (beb (beq a_1.2.2.1 1) a_3.1)) (some (true, ()))
        (some (bnot (beb (beq a_2.2.2.1 1) a_3.1), ())))
       fun (a_4 : Bool × Unit) =>
       sel a_4.1 (some (false, ()))
        (ob
         (sel a.1
          (sel a_3.1 (some (true, ()))
           (sel
            (beb (beq a_1.2.2.1 3)
            (lt (i64 (isub (len x.1) x.2.1)) (i64 (iadd 1 (imod (i64 (n8 x.2.2.1)) 8)))))
            (some
            (beb (beq a_2.2.2.1 3)
            (lt (i64 (isub (len x.1) x.2.1))
            (i64 (idiv (i64 (iadd (i64 (iadd 1 (imod (i64 (n8 x.2.2.1)) 8))) 1)) 2))),
            ()))
            (some (false, ()))))
          (some (false, ())))
         fun (a : Bool × Unit) => some (a.1, ())))
theorem m9_eq (x : denL [.sl (.int .u8), .int .i64, .int .u8]) : model ⟨lookT TT, lookG [(11, ⟨[], [.im (.bool)], m11⟩), (19, ⟨[.sl (.int .u8), .int .i64, .int .i64], [.im (.str), .im (.int .i64), .im (.int .i64)], m19⟩), (21, ⟨[.sl (.int .u8), .int .i64, .int .i64], [.im (.int .i64), .im (.int .i64), .im (.int .i64)], m21⟩)]⟩ Try.f9 16 [.sl (.int .u8), .int .i64, .int .u8] [.im (.bool)] x = m9 x := by kernel_rfl
/-- yett/yettlaw01.DigParts -/
noncomputable def m10 (x : Int × Int × UInt8 × Unit) : Option (Bool × Unit) :=
  ob (m11 ()) fun (a : Bool × Unit) =>
  ob (m12 (x.1, i64 (imul 2 (i64 (iadd 1 (imod (i64 (n8 x.2.2.1)) 8)))), ()))
   fun (a_1 : List UInt8 × Int × Unit) =>
   ob (m12 (x.2.1, i64 (imul 2 (i64 (iadd 1 (imod (i64 (n8 x.2.2.1)) 8)))), ()))
    fun (a_2 : List UInt8 × Int × Unit) =>
    ob (sel (bnot (beq a_1.2.1 0)) (some (true, ())) (some (bnot (beq a_2.2.1 0), ())))
     fun (a_3 : Bool × Unit) =>
     sel a_3.1 (some (a.1, ()))
      (ob (m16 (a_1.1, ())) fun (a_4 : List UInt8 × Int × Unit) =>
       ob (m16 (a_2.1, ())) fun (a_5 : List UInt8 × Int × Unit) =>
        ck (le (iadd (len a_1.1) (len a_2.1)) 140737488355328)
         (ob (m16 (app a_1.1 a_2.1, ())) fun (a_6 : List UInt8 × Int × Unit) =>
          ck (le (iadd (len [55]) (len a_1.1)) 140737488355328)
           (ob (m16 (app [55] a_1.1, ())) fun (a_7 : List UInt8 × Int × Unit) =>
            sel a.1
            (sel (beq a_4.2.1 0)
            (sel (beq a_5.2.1 0)
            (sel (beq a_6.2.1 0)
            (sel (beq a_7.2.1 0)
            (ck (rm 1 (nadd (ln (none' UInt8)) (ln a_4.1)))
            (ck (rm 1 (nadd (ln (app (none' UInt8) a_4.1)) (ln a_5.1)))
            (ob (m18 (a_6.1, app (app (none' UInt8) a_4.1) a_5.1, ()))
            fun (a : Bool × Unit) =>
            sel a.1
            (ck (rm 1 (nadd (ln [u8 7]) (ln a_4.1)))
            (ob (m18 (a_7.1, app [u8 7] a_4.1, ())) fun (a : Bool × Unit) =>
            some (a.1, ())))
            (some (false, ())))))
            (some (false, ())))
            (some (false, ())))
            (some (false, ())))
            (some (false, ())))
            (some (false, ())))))
theorem m10_eq (x : denL [.int .i64, .int .i64, .int .u8]) : model ⟨lookT TT, lookG [(11, ⟨[], [.im (.bool)], m11⟩), (12, ⟨[.int .i64, .int .i64], [.im (.str), .im (.int .i64)], m12⟩), (16, ⟨[.str], [.ow (.int .u8), .im (.int .i64)], m16⟩), (18, ⟨[.sl (.int .u8), .sl (.int .u8)], [.im (.bool)], m18⟩)]⟩ Try.f10 21 [.int .i64, .int .i64, .int .u8] [.im (.bool)] x = m10 x := by kernel_rfl
end Yp

