/- A part of the proof of the statements of this seat: plain functions, and laws on them. No condition of its own. -/
import Derived.Test.YtbffdlbcpdmncaaE2
set_option linter.unusedVariables false
set_option linter.unusedSimpArgs false
namespace Yp
open Go
noncomputable def dig_Digits (x : Int × Int × Unit) : Option (List UInt8 × Int × Unit) :=
  ob (sel (lt x.2.1 1) (some (true, ())) (sel (lt 18 x.2.1) (some (true, ())) (some (lt x.1 0, ()))))
  fun (a : Bool × Unit) =>
  sel a.1 (some (none' UInt8, 1, ()))
   (ck (band (inC 0 x.2.1 x.2.1) (rm 1 (nat x.2.1)))
    (lc
     (loop
      (fun (x : Int × Int × List UInt8 × Unit) =>
       sel (le 0 x.2.1)
        (ck (inB (imod x.1 10) (len [48, 49, 50, 51, 52, 53, 54, 55, 56, 57, 97, 98, 99, 100, 101, 102]))
         (ck (inB x.2.1 (len x.2.2.1))
          (some
           (LS.nx
            (i64 (idiv x.1 10), i64 (isub x.2.1 1),
            upd x.2.2.1 (nat x.2.1)
            (nth [48, 49, 50, 51, 52, 53, 54, 55, 56, 57, 97, 98, 99, 100, 101, 102] (nat (imod x.1 10))
            (u8 0)),
            ())))))
        (some (LS.ex 0 (x.1, x.2.1, x.2.2.1, ()))))
      (x.1, i64 (isub x.2.1 1), rep (nat x.2.1) (u8 0), ()))
     (fun (a : Int × Int × List UInt8 × Unit) => none)
     (fun (i : Nat) (a : Int × Int × List UInt8 × Unit) =>
      ck (neb i 0) (sel (lt 0 a.1) (some (none' UInt8, 1, ())) (some (a.2.2.1, 0, ()))))
     fun (r : List UInt8 × Int × Unit) => some r))
noncomputable def dig_figure (x : Int × Unit) : Option (Int × Bool × Unit) :=
  ob
  (sel (le 48 x.1) (some (i64 (i32 (isub x.1 48)), le x.1 57, ())) (some (i64 (i32 (isub x.1 48)), false, ())))
  fun (a : Int × Bool × Unit) => some (a.1, a.2.1, ())
noncomputable def dig_Value (x : List UInt8 × Unit) : Option (Int × Int × Unit) :=
  ob (sel (lt (len x.1) 1) (some (true, ())) (some (lt 18 (len x.1), ()))) fun (a : Bool × Unit) =>
  sel a.1 (some (0, 2, ()))
   (lc
    (loop
     (fun (x_1 : Int × Int × Int × Nat × Unit) =>
      sel (nlt x_1.2.2.2.1 (ln x.1))
       (ob (dig_figure (ofn (decode x.1 x_1.2.2.2.1).1, ())) fun (a : Int × Bool × Unit) =>
        sel (bnot a.2.1) (some (LS.rt (0, 2, ())))
         (some
          (LS.nx
           (x_1.1, x_1.2.1, i64 (iadd (i64 (imul 10 x_1.2.2.1)) a.1),
            nadd x_1.2.2.2.1 (decode x.1 x_1.2.2.2.1).2, ()))))
       (some (LS.ex 0 (x_1.1, x_1.2.1, x_1.2.2.1, x_1.2.2.2.1, ()))))
     (0, 0, 0, 0, ()))
    (fun (a : Int × Int × Int × Nat × Unit) => none)
    (fun (i : Nat) (a : Int × Int × Int × Nat × Unit) => ck (neb i 0) (some (a.2.2.1, 0, ())))
    fun (r : Int × Int × Unit) => some r)
noncomputable def dig_Bcd (x : List UInt8 × Unit) : Option (List UInt8 × Int × Unit) :=
  ck
  (band (inC 0 (i64 (idiv (i64 (iadd (len x.1) 1)) 2)) (i64 (idiv (i64 (iadd (len x.1) 1)) 2)))
   (rm 1 (nat (i64 (idiv (i64 (iadd (len x.1) 1)) 2)))))
  (lc
   (loop
    (fun (x_1 : Int × Int × Nat × List UInt8 × Unit) =>
     sel (nlt x_1.2.2.1 (ln x.1))
      (ob (dig_figure (ofn (decode x.1 x_1.2.2.1).1, ())) fun (a : Int × Bool × Unit) =>
       sel (bnot a.2.1) (some (LS.rt (none' UInt8, 2, ())))
        (ck (inB (i64 (idiv x_1.2.1 2)) (len x_1.2.2.2.1))
         (ck (inB (i64 (idiv x_1.2.1 2)) (len x_1.2.2.2.1))
          (some
           (LS.nx
            (x_1.1, i64 (iadd x_1.2.1 1), nadd x_1.2.2.1 (decode x.1 x_1.2.2.1).2,
            upd x_1.2.2.2.1 (nat (i64 (idiv x_1.2.1 2)))
            (u8
            (orI IntKind.u8
            (n8
            (u8
            (shlI IntKind.u8
            (n8 (nth x_1.2.2.2.1 (nat (i64 (idiv x_1.2.1 2))) (u8 0)))
            (n64 (u64 4)))))
            (n8 (u8 a.1)))),
            ()))))))
      (some (LS.ex 0 (x_1.1, x_1.2.1, x_1.2.2.1, x_1.2.2.2.1, ()))))
    (0, imod (len x.1) 2, 0, rep (nat (i64 (idiv (i64 (iadd (len x.1) 1)) 2))) (u8 0), ()))
   (fun (a : Int × Int × Nat × List UInt8 × Unit) => none)
   (fun (i : Nat) (a : Int × Int × Nat × List UInt8 × Unit) => ck (neb i 0) (some (a.2.2.2.1, 0, ())))
   fun (r : List UInt8 × Int × Unit) => some r)
noncomputable def ref01_Same (x : List UInt8 × List UInt8 × Unit) : Option (Bool × Unit) :=
  some (seq x.1 x.2.1, ())
noncomputable def dig_Hex (x : List UInt8 × Unit) : Option (List UInt8 × Unit) :=
  ck (band (inC 0 0 (i64 (imul 2 (len x.1)))) (rm 1 (nat (i64 (imul 2 (len x.1))))))
  (lc
   (loop
    (fun (x_1 : List UInt8 × Int × Unit) =>
     sel (lt x_1.2.1 (len x.1))
      (ck (inB x_1.2.1 (len x.1))
       (ck
        (inB (n8 (u8 (shrI IntKind.u8 (n8 (nth x.1 (nat x_1.2.1) (u8 0))) (n64 (u64 4)))))
         (len [48, 49, 50, 51, 52, 53, 54, 55, 56, 57, 97, 98, 99, 100, 101, 102]))
        (ck
         (inB (n8 (u8 (andI IntKind.u8 (n8 (nth x.1 (nat x_1.2.1) (u8 0))) (n8 (u8 15)))))
          (len [48, 49, 50, 51, 52, 53, 54, 55, 56, 57, 97, 98, 99, 100, 101, 102]))
         (ck
          (rm 1
           (nadd (ln x_1.1)
            (ln
            [nth [48, 49, 50, 51, 52, 53, 54, 55, 56, 57, 97, 98, 99, 100, 101, 102]
            (nat (n8 (u8 (shrI IntKind.u8 (n8 (nth x.1 (nat x_1.2.1) (u8 0))) (n64 (u64 4))))))
            (u8 0),
            nth [48, 49, 50, 51, 52, 53, 54, 55, 56, 57, 97, 98, 99, 100, 101, 102]
            (nat (n8 (u8 (andI IntKind.u8 (n8 (nth x.1 (nat x_1.2.1) (u8 0))) (n8 (u8 15))))))
            (u8 0)])))
          (some
           (LS.nx
            (app x_1.1
            [nth [48, 49, 50, 51, 52, 53, 54, 55, 56, 57, 97, 98, 99, 100, 101, 102]
            (nat (n8 (u8 (shrI IntKind.u8 (n8 (nth x.1 (nat x_1.2.1) (u8 0))) (n64 (u64 4))))))
            (u8 0),
            nth [48, 49, 50, 51, 52, 53, 54, 55, 56, 57, 97, 98, 99, 100, 101, 102]
            (nat (n8 (u8 (andI IntKind.u8 (n8 (nth x.1 (nat x_1.2.1) (u8 0))) (n8 (u8 15))))))
            (u8 0)],
            i64 (iadd x_1.2.1 1), ())))))))
      (some (LS.ex 0 (x_1.1, x_1.2.1, ()))))
    (rep (nat 0) (u8 0), 0, ()))
   (fun (a : List UInt8 × Int × Unit) => none)
   (fun (i : Nat) (a : List UInt8 × Int × Unit) => ck (neb i 0) (some (a.1, ()))) fun (r : List UInt8 × Unit) =>
   some r)
noncomputable def dig_TakeBcd (x : List UInt8 × Int × Int × Unit) : Option (List UInt8 × Int × Int × Unit) :=
  ob
  (sel (lt x.2.2.1 0) (some (true, ()))
   (sel (lt 999 x.2.2.1) (some (true, ()))
    (sel (lt x.2.1 0) (some (true, ())) (some (lt (len x.1) x.2.1, ())))))
  fun (a : Bool × Unit) =>
  sel a.1 (some (none' UInt8, 0, 1, ()))
   (sel (lt (i64 (isub (len x.1) x.2.1)) (i64 (idiv (i64 (iadd x.2.2.1 1)) 2)))
    (some (none' UInt8, 0, 3, ()))
    (ck (inC x.2.1 (i64 (iadd x.2.1 (i64 (idiv (i64 (iadd x.2.2.1 1)) 2)))) (len x.1))
     (ob (dig_Hex (sub x.1 x.2.1 (i64 (iadd x.2.1 (i64 (idiv (i64 (iadd x.2.2.1 1)) 2)))), ()))
      fun (a : List UInt8 × Unit) =>
      sel (beq (imod x.2.2.1 2) 1)
       (ck (inB 0 (len a.1))
        (sel (bnot (beq (n8 (nth a.1 (nat 0) (u8 0))) (n8 (u8 48)))) (some (none' UInt8, 0, 2, ()))
         (ck (inC 1 (len a.1) (len a.1))
          (lc
           (loop
            (fun (x : List UInt8 × Int × Int × Nat × Unit) =>
            sel (nlt x.2.2.2.1 (ln (sub a.1 1 (len a.1))))
            (ob (dig_figure (ofn (decode (sub a.1 1 (len a.1)) x.2.2.2.1).1, ()))
            fun (a_1 : Int × Bool × Unit) =>
            sel (bnot a_1.2.1) (some (LS.rt (none' UInt8, 0, 2, ())))
            (some
            (LS.nx
            (x.1, x.2.1, x.2.2.1,
            nadd x.2.2.2.1 (decode (sub a.1 1 (len a.1)) x.2.2.2.1).2,
            ()))))
            (some (LS.ex 0 (x.1, x.2.1, x.2.2.1, x.2.2.2.1, ()))))
            (none' UInt8, 0, 0, 0, ()))
           (fun (a : List UInt8 × Int × Int × Nat × Unit) => none)
           (fun (i : Nat) (a_1 : List UInt8 × Int × Int × Nat × Unit) =>
            ck (neb i 0)
            (some
            (sub a.1 1 (len a.1), i64 (iadd x.2.1 (i64 (idiv (i64 (iadd x.2.2.1 1)) 2))), 0,
            ())))
           fun (r : List UInt8 × Int × Int × Unit) => some r))))
       (lc
        (loop
         (fun (x : List UInt8 × Int × Int × Nat × Unit) =>
          sel (nlt x.2.2.2.1 (ln a.1))
           (ob (dig_figure (ofn (decode a.1 x.2.2.2.1).1, ())) fun (a_1 : Int × Bool × Unit) =>
            sel (bnot a_1.2.1) (some (LS.rt (none' UInt8, 0, 2, ())))
            (some
            (LS.nx
            (x.1, x.2.1, x.2.2.1,
            nadd x.2.2.2.1 (decode a.1 x.2.2.2.1).2, ()))))
           (some (LS.ex 0 (x.1, x.2.1, x.2.2.1, x.2.2.2.1, ()))))
         (none' UInt8, 0, 0, 0, ()))
        (fun (a : List UInt8 × Int × Int × Nat × Unit) => none)
        (fun (i : Nat) (a_1 : List UInt8 × Int × Int × Nat × Unit) =>
         ck (neb i 0) (some (a.1, i64 (iadd x.2.1 (i64 (idiv (i64 (iadd x.2.2.1 1)) 2))), 0, ())))
        fun (r : List UInt8 × Int × Int × Unit) => some r))))
noncomputable def dig_TakeBig (x : List UInt8 × Int × Int × Unit) : Option (Int × Int × Int × Unit) :=
  ob
  (sel (lt x.2.2.1 1) (some (true, ()))
   (sel (lt 8 x.2.2.1) (some (true, ()))
    (sel (lt x.2.1 0) (some (true, ())) (some (lt (len x.1) x.2.1, ())))))
  fun (a : Bool × Unit) =>
  sel a.1 (some (0, 0, 1, ()))
   (sel (lt (i64 (isub (len x.1) x.2.1)) x.2.2.1) (some (0, 0, 3, ()))
    (ob
     (sel (beq x.2.2.1 8)
      (ck (inB x.2.1 (len x.1)) (some (lt (n8 (u8 127)) (n8 (nth x.1 (nat x.2.1) (u8 0))), ())))
      (some (false, ())))
     fun (a : Bool × Unit) =>
     sel a.1 (some (0, 0, 2, ()))
      (ck (inC x.2.1 (i64 (iadd x.2.1 x.2.2.1)) (len x.1))
       (lc
        (loop
         (fun (x_1 : Int × Int × Unit) =>
          sel (lt x_1.2.1 (len (sub x.1 x.2.1 (i64 (iadd x.2.1 x.2.2.1)))))
           (ck (inB x_1.2.1 (len (sub x.1 x.2.1 (i64 (iadd x.2.1 x.2.2.1)))))
            (some
            (LS.nx
            (i64
            (orI IntKind.i64 (i64 (shlI IntKind.i64 x_1.1 (n64 (u64 8))))
            (i64
            (n8
            (nth (sub x.1 x.2.1 (i64 (iadd x.2.1 x.2.2.1))) (nat x_1.2.1)
            (u8 0))))),
            i64 (iadd x_1.2.1 1), ()))))
           (some (LS.ex 1 (x_1.1, x_1.2.1, ()))))
         (0, 0, ()))
        (fun (a : Int × Int × Unit) => none)
        (fun (i : Nat) (a : Int × Int × Unit) =>
         ck (neb i 1) (some (a.1, i64 (iadd x.2.1 x.2.2.1), 0, ())))
        fun (r : Int × Int × Int × Unit) => some r))))
noncomputable def dig_Big (x : Int × Int × Unit) : Option (List UInt8 × Int × Unit) :=
  ob
  (sel (lt x.2.1 1) (some (true, ()))
   (sel (lt 8 x.2.1) (some (true, ()))
    (sel (lt x.1 0) (some (true, ()))
     (sel (lt x.2.1 8)
      (ck (le 0 (i64 (imul 8 x.2.1))) (some (lt 0 (shrI IntKind.i64 x.1 (i64 (imul 8 x.2.1))), ())))
      (some (false, ()))))))
  fun (a : Bool × Unit) =>
  sel a.1 (some (none' UInt8, 1, ()))
   (ck (band (inC 0 x.2.1 x.2.1) (rm 1 (nat x.2.1)))
    (lc
     (loop
      (fun (x_1 : Int × List UInt8 × Unit) =>
       sel (lt x_1.1 (len (rep (nat x.2.1) (u8 0))))
        (ck (le 0 (i64 (imul 8 x_1.1)))
         (ck (inB (i64 (isub (i64 (isub x.2.1 1)) x_1.1)) (len x_1.2.1))
          (some
           (LS.nx
            (i64 (iadd x_1.1 1),
            upd x_1.2.1 (nat (i64 (isub (i64 (isub x.2.1 1)) x_1.1)))
            (u8 (shrI IntKind.i64 x.1 (i64 (imul 8 x_1.1)))),
            ())))))
        (some (LS.ex 0 (x_1.1, x_1.2.1, ()))))
      (0, rep (nat x.2.1) (u8 0), ()))
     (fun (a : Int × List UInt8 × Unit) => none)
     (fun (i : Nat) (a : Int × List UInt8 × Unit) => ck (neb i 0) (some (a.2.1, 0, ())))
     fun (r : List UInt8 × Int × Unit) => some r))
noncomputable def dig_half (x : UInt8 × Unit) : Option (UInt8 × Bool × Unit) :=
  ob (sel (le (n8 (u8 48)) (n8 x.1)) (some (le (n8 x.1) (n8 (u8 57)), ())) (some (false, ())))
  fun (a : Bool × Unit) =>
  sel a.1 (some (u8 (isub (n8 x.1) (n8 (u8 48))), true, ()))
   (ob (sel (le (n8 (u8 97)) (n8 x.1)) (some (le (n8 x.1) (n8 (u8 102)), ())) (some (false, ())))
    fun (a : Bool × Unit) =>
    sel a.1 (some (u8 (iadd (n8 (u8 (isub (n8 x.1) (n8 (u8 97))))) (n8 (u8 10))), true, ()))
     (some (u8 0, false, ())))
noncomputable def dig_Unhex (x : List UInt8 × Unit) : Option (List UInt8 × Int × Unit) :=
  sel (beq (imod (len x.1) 2) 1) (some (none' UInt8, 2, ()))
  (ck (band (inC 0 0 (i64 (idiv (len x.1) 2))) (rm 1 (nat (i64 (idiv (len x.1) 2)))))
   (lc
    (loop
     (fun (x_1 : Int × List UInt8 × Int × Unit) =>
      sel (lt x_1.2.2.1 (len x.1))
       (ck (inB x_1.2.2.1 (len x.1))
        (ob (dig_half (nth x.1 (nat x_1.2.2.1) (u8 0), ())) fun (a : UInt8 × Bool × Unit) =>
         ck (inB (i64 (iadd x_1.2.2.1 1)) (len x.1))
          (ob (dig_half (nth x.1 (nat (i64 (iadd x_1.2.2.1 1))) (u8 0), ()))
           fun (a_1 : UInt8 × Bool × Unit) =>
           ob (sel (bnot a.2.1) (some (true, ())) (some (bnot a_1.2.1, ()))) fun (a_2 : Bool × Unit) =>
            sel a_2.1 (some (LS.rt (none' UInt8, 2, ())))
            (ck
            (rm 1
            (nadd (ln x_1.2.1)
            (ln
            [u8
            (orI IntKind.u8 (n8 (u8 (shlI IntKind.u8 (n8 a.1) (n64 (u64 4)))))
            (n8 a_1.1))])))
            (some
            (LS.nx
            (x_1.1,
            app x_1.2.1
            [u8
            (orI IntKind.u8 (n8 (u8 (shlI IntKind.u8 (n8 a.1) (n64 (u64 4)))))
            (n8 a_1.1))],
            i64 (iadd x_1.2.2.1 2), ())))))))
       (some (LS.ex 0 (x_1.1, x_1.2.1, x_1.2.2.1, ()))))
     (0, rep (nat 0) (u8 0), 0, ()))
    (fun (a : Int × List UInt8 × Int × Unit) => none)
    (fun (i : Nat) (a : Int × List UInt8 × Int × Unit) => ck (neb i 0) (some (a.2.1, 0, ())))
    fun (r : List UInt8 × Int × Unit) => some r))
noncomputable def ref01_power (x : Int × Int × Unit) : Option (Int × Unit) :=
  lc
  (loop
   (fun (x_1 : Int × Int × Unit) =>
    sel (lt x_1.2.1 x.2.1) (some (LS.nx (i64 (imul x_1.1 x.1), i64 (iadd x_1.2.1 1), ())))
     (some (LS.ex 0 (x_1.1, x_1.2.1, ()))))
   (1, 0, ()))
  (fun (a : Int × Int × Unit) => none) (fun (i : Nat) (a : Int × Int × Unit) => ck (neb i 0) (some (a.1, ())))
  fun (r : Int × Unit) => some r
noncomputable def ref01_Digits (x : Int × Int × Unit) : Option (List UInt8 × Int × Unit) :=
  ob
  (sel (lt x.2.1 1) (some (true, ()))
   (sel (lt 18 x.2.1) (some (true, ()))
    (sel (lt x.1 0) (some (true, ()))
     (ob (ref01_power (10, x.2.1, ())) fun (a : Int × Unit) => some (le a.1 x.1, ())))))
  fun (a : Bool × Unit) =>
  sel a.1 (some (none' UInt8, 1, ()))
   (lc
    (loop
     (fun (x_1 : List UInt8 × Int × Unit) =>
      sel (le 0 x_1.2.1)
       (ob (ref01_power (10, x_1.2.1, ())) fun (a : Int × Unit) =>
        ck (bnot (beq a.1 0))
         (ck (rm 1 (nadd (ln x_1.1) (ln [u8 (i64 (iadd 48 (imod (i64 (idiv x.1 a.1)) 10)))])))
          (some
           (LS.nx
            (app x_1.1 [u8 (i64 (iadd 48 (imod (i64 (idiv x.1 a.1)) 10)))], i64 (isub x_1.2.1 1),
            ())))))
       (some (LS.ex 0 (x_1.1, x_1.2.1, ()))))
     (none' UInt8, i64 (isub x.2.1 1), ()))
    (fun (a : List UInt8 × Int × Unit) => none)
    (fun (i : Nat) (a : List UInt8 × Int × Unit) => ck (neb i 0) (some (a.1, 0, ())))
    fun (r : List UInt8 × Int × Unit) => some r)
noncomputable def ref01_Figures (x : List UInt8 × Unit) : Option (Bool × Unit) :=
  lc
  (loop
   (fun (x_1 : Bool × Int × Unit) =>
    sel (lt x_1.2.1 (len x.1))
     (ck (inB x_1.2.1 (len x.1))
      (ob
       (sel (lt (n8 (nth x.1 (nat x_1.2.1) (u8 0))) (n8 (u8 48))) (some (true, ()))
        (ck (inB x_1.2.1 (len x.1)) (some (lt (n8 (u8 57)) (n8 (nth x.1 (nat x_1.2.1) (u8 0))), ()))))
       fun (a : Bool × Unit) =>
       sel a.1 (some (LS.rt (false, ()))) (some (LS.nx (x_1.1, i64 (iadd x_1.2.1 1), ())))))
     (some (LS.ex 0 (x_1.1, x_1.2.1, ()))))
   (false, 0, ()))
  (fun (a : Bool × Int × Unit) => none) (fun (i : Nat) (a : Bool × Int × Unit) => ck (neb i 0) (some (true, ())))
  fun (r : Bool × Unit) => some r
noncomputable def ref01_Value (x : List UInt8 × Unit) : Option (Int × Int × Unit) :=
  ob
  (sel (lt (len x.1) 1) (some (true, ()))
   (sel (lt 18 (len x.1)) (some (true, ())) (ob (ref01_Figures (x.1, ())) fun (a : Bool × Unit) => some (bnot a.1, ()))))
  fun (a : Bool × Unit) =>
  sel a.1 (some (0, 2, ()))
   (lc
    (loop
     (fun (x_1 : Int × Int × Unit) =>
      sel (lt x_1.2.1 (len x.1))
       (ck (inB x_1.2.1 (len x.1))
        (ob (ref01_power (10, i64 (isub (i64 (isub (len x.1) 1)) x_1.2.1), ())) fun (a : Int × Unit) =>
         some
          (LS.nx
           (i64
            (iadd x_1.1
            (i64 (imul (i64 (isub (i64 (n8 (nth x.1 (nat x_1.2.1) (u8 0)))) 48)) a.1))),
            i64 (iadd x_1.2.1 1), ()))))
       (some (LS.ex 0 (x_1.1, x_1.2.1, ()))))
     (0, 0, ()))
    (fun (a : Int × Int × Unit) => none) (fun (i : Nat) (a : Int × Int × Unit) => ck (neb i 0) (some (a.1, 0, ())))
    fun (r : Int × Int × Unit) => some r)
noncomputable def ref01_Bcd (x : List UInt8 × Unit) : Option (List UInt8 × Int × Unit) :=
  ob (ref01_Figures (x.1, ())) fun (a : Bool × Unit) =>
  sel (bnot a.1) (some (none' UInt8, 2, ()))
   (ob
    (sel (beq (imod (len x.1) 2) 1)
     (ck (le (iadd (len [48]) (len x.1)) 140737488355328) (some (app [48] x.1, ()))) (some (x.1, ())))
    fun (a : List UInt8 × Unit) =>
    lc
     (loop
      (fun (x : List UInt8 × Int × Unit) =>
       sel (lt x.2.1 (len a.1))
        (ck (inB x.2.1 (len a.1))
         (ck (inB (i64 (iadd x.2.1 1)) (len a.1))
          (ck
           (rm 1
            (nadd (ln x.1)
            (ln
            [u8
            (isub
            (n8
            (u8
            (iadd
            (n8
            (u8
            (imul (n8 (u8 16))
            (n8 (u8 (isub (n8 (nth a.1 (nat x.2.1) (u8 0))) (n8 (u8 48))))))))
            (n8 (nth a.1 (nat (i64 (iadd x.2.1 1))) (u8 0))))))
            (n8 (u8 48)))])))
           (some
            (LS.nx
            (app x.1
            [u8
            (isub
            (n8
            (u8
            (iadd
            (n8
            (u8
            (imul (n8 (u8 16))
            (n8 (u8 (isub (n8 (nth a.1 (nat x.2.1) (u8 0))) (n8 (u8 48))))))))
            (n8 (nth a.1 (nat (i64 (iadd x.2.1 1))) (u8 0))))))
            (n8 (u8 48)))],
            i64 (iadd x.2.1 2), ()))))))
        (some (LS.ex 0 (x.1, x.2.1, ()))))
      (none' UInt8, 0, ()))
     (fun (a : List UInt8 × Int × Unit) => none)
     (fun (i : Nat) (a : List UInt8 × Int × Unit) => ck (neb i 0) (some (a.1, 0, ())))
     fun (r : List UInt8 × Int × Unit) => some r)
noncomputable def ref01_TakeBcd (x : List UInt8 × Int × Int × Unit) : Option (List UInt8 × Int × Int × Unit) :=
  ob
  (sel (lt x.2.2.1 0) (some (true, ()))
   (sel (lt 999 x.2.2.1) (some (true, ()))
    (sel (lt x.2.1 0) (some (true, ())) (some (lt (len x.1) x.2.1, ())))))
  fun (a : Bool × Unit) =>
  sel a.1 (some (none' UInt8, 0, 1, ()))
   (sel (lt (i64 (isub (len x.1) x.2.1)) (i64 (idiv (i64 (iadd x.2.2.1 1)) 2)))
    (some (none' UInt8, 0, 3, ()))
    (lc
     (loop
      (fun (x_1 : List UInt8 × Int × Unit) =>
       sel (lt x_1.2.1 (i64 (iadd x.2.1 (i64 (idiv (i64 (iadd x.2.2.1 1)) 2)))))
        (ck (inB x_1.2.1 (len x.1))
         (ck (inB x_1.2.1 (len x.1))
          (ck
           (rm 1
            (nadd (ln x_1.1)
            (ln
            [u8 (idiv (n8 (nth x.1 (nat x_1.2.1) (u8 0))) (n8 (u8 16))),
            u8 (imod (n8 (nth x.1 (nat x_1.2.1) (u8 0))) (n8 (u8 16)))])))
           (some
            (LS.nx
            (app x_1.1
            [u8 (idiv (n8 (nth x.1 (nat x_1.2.1) (u8 0))) (n8 (u8 16))),
            u8 (imod (n8 (nth x.1 (nat x_1.2.1) (u8 0))) (n8 (u8 16)))],
            i64 (iadd x_1.2.1 1), ()))))))
        (some (LS.ex 0 (x_1.1, x_1.2.1, ()))))
      (none' UInt8, x.2.1, ()))
     (fun (a : List UInt8 × Int × Unit) => none)
     (fun (i : Nat) (a : List UInt8 × Int × Unit) =>
      ck (neb i 0)
       (sel (beq (imod x.2.2.1 2) 1)
        (ck (inB 0 (len a.1))
         (sel (bnot (beq (n8 (nth a.1 (nat 0) (u8 0))) (n8 (u8 0)))) (some (none' UInt8, 0, 2, ()))
          (ck (inC 1 (len a.1) (len a.1))
           (lc
            (loop
            (fun (x : List UInt8 × Int × Int × Int × List UInt8 × Unit) =>
            sel (lt x.2.2.2.1 (ofn (nsub (nat (len a.1)) (nat 1))))
            (ck (inB x.2.2.2.1 (ofn (nsub (nat (len a.1)) (nat 1))))
            (sel
            (lt (n8 (u8 9))
            (n8 (nth x.2.2.2.2.1 (nadd (nat 1) (nat x.2.2.2.1)) (u8 0))))
            (some (LS.rt (none' UInt8, 0, 2, ())))
            (ck (inB x.2.2.2.1 (ofn (nsub (nat (len a.1)) (nat 1))))
            (ck (inB x.2.2.2.1 (ofn (nsub (nat (len a.1)) (nat 1))))
            (some
            (LS.nx
            (x.1, x.2.1, x.2.2.1, i64 (iadd x.2.2.2.1 1),
            upd x.2.2.2.2.1 (nadd (nat 1) (nat x.2.2.2.1))
            (u8
            (iadd
            (n8
            (nth x.2.2.2.2.1 (nadd (nat 1) (nat x.2.2.2.1))
            (u8 0)))
            (n8 (u8 48)))),
            ())))))))
            (some
            (LS.ex 2
            (x.1, x.2.1, x.2.2.1, x.2.2.2.1, x.2.2.2.2.1, ()))))
            (none' UInt8, 0, 0, 0, a.1, ()))
            (fun (a : List UInt8 × Int × Int × Int × List UInt8 × Unit) => none)
            (fun (i : Nat) (a_1 : List UInt8 × Int × Int × Int × List UInt8 × Unit) =>
            ck (neb i 2)
            (some
            (cut a_1.2.2.2.2.1 (nat 1) (nsub (nat (len a.1)) (nat 1)),
            i64 (iadd x.2.1 (i64 (idiv (i64 (iadd x.2.2.1 1)) 2))), 0, ())))
            fun (r : List UInt8 × Int × Int × Unit) => some r))))
        (lc
         (loop
          (fun (x : List UInt8 × Int × Int × Int × List UInt8 × Unit) =>
           sel (lt x.2.2.2.1 (len x.2.2.2.2.1))
            (ck (inB x.2.2.2.1 (len x.2.2.2.2.1))
            (sel (lt (n8 (u8 9)) (n8 (nth x.2.2.2.2.1 (nat x.2.2.2.1) (u8 0))))
            (some (LS.rt (none' UInt8, 0, 2, ())))
            (ck (inB x.2.2.2.1 (len x.2.2.2.2.1))
            (ck (inB x.2.2.2.1 (len x.2.2.2.2.1))
            (some
            (LS.nx
            (x.1, x.2.1, x.2.2.1, i64 (iadd x.2.2.2.1 1),
            upd x.2.2.2.2.1 (nat x.2.2.2.1)
            (u8
            (iadd (n8 (nth x.2.2.2.2.1 (nat x.2.2.2.1) (u8 0)))
            (n8 (u8 48)))),
            ())))))))
            (some (LS.ex 2 (x.1, x.2.1, x.2.2.1, x.2.2.2.1, x.2.2.2.2.1, ()))))
          (none' UInt8, 0, 0, 0, a.1, ()))
         (fun (a : List UInt8 × Int × Int × Int × List UInt8 × Unit) => none)
         (fun (i : Nat) (a : List UInt8 × Int × Int × Int × List UInt8 × Unit) =>
          ck (neb i 2)
           (some
            (a.2.2.2.2.1, i64 (iadd x.2.1 (i64 (idiv (i64 (iadd x.2.2.1 1)) 2))), 0, ())))
         fun (r : List UInt8 × Int × Int × Unit) => some r)))
     fun (r : List UInt8 × Int × Int × Unit) => some r))
noncomputable def ref01_TakeBig (x : List UInt8 × Int × Int × Unit) : Option (Int × Int × Int × Unit) :=
  ob
  (sel (lt x.2.2.1 1) (some (true, ()))
   (sel (lt 8 x.2.2.1) (some (true, ()))
    (sel (lt x.2.1 0) (some (true, ())) (some (lt (len x.1) x.2.1, ())))))
  fun (a : Bool × Unit) =>
  sel a.1 (some (0, 0, 1, ()))
   (sel (lt (i64 (isub (len x.1) x.2.1)) x.2.2.1) (some (0, 0, 3, ()))
    (ob
     (sel (beq x.2.2.1 8)
      (ck (inB x.2.1 (len x.1)) (some (le (n8 (u8 128)) (n8 (nth x.1 (nat x.2.1) (u8 0))), ())))
      (some (false, ())))
     fun (a : Bool × Unit) =>
     sel a.1 (some (0, 0, 2, ()))
      (lc
       (loop
        (fun (x_1 : Int × Int × Unit) =>
         sel (lt x_1.2.1 x.2.2.1)
          (ck (inB (i64 (iadd x.2.1 x_1.2.1)) (len x.1))
           (some
            (LS.nx
            (i64
            (iadd (i64 (imul 256 x_1.1))
            (i64 (n8 (nth x.1 (nat (i64 (iadd x.2.1 x_1.2.1))) (u8 0))))),
            i64 (iadd x_1.2.1 1), ()))))
          (some (LS.ex 0 (x_1.1, x_1.2.1, ()))))
        (0, 0, ()))
       (fun (a : Int × Int × Unit) => none)
       (fun (i : Nat) (a : Int × Int × Unit) =>
        ck (neb i 0) (some (a.1, i64 (iadd x.2.1 x.2.2.1), 0, ())))
       fun (r : Int × Int × Int × Unit) => some r)))
noncomputable def ref01_Big (x : Int × Int × Unit) : Option (List UInt8 × Int × Unit) :=
  ob (sel (lt x.2.1 1) (some (true, ())) (sel (lt 8 x.2.1) (some (true, ())) (some (lt x.1 0, ()))))
  fun (a : Bool × Unit) =>
  sel a.1 (some (none' UInt8, 1, ()))
   (ob
    (sel (lt x.2.1 8) (ob (ref01_power (256, x.2.1, ())) fun (a : Int × Unit) => some (le a.1 x.1, ()))
     (some (false, ())))
    fun (a : Bool × Unit) =>
    sel a.1 (some (none' UInt8, 1, ()))
     (ck (band (inC 0 x.2.1 x.2.1) (rm 1 (nat x.2.1)))
      (lc
       (loop
        (fun (x : Int × Int × List UInt8 × Unit) =>
         sel (le 0 x.2.1)
          (ck (inB x.2.1 (len x.2.2.1))
           (some
            (LS.nx
            (i64 (idiv x.1 256), i64 (isub x.2.1 1),
            upd x.2.2.1 (nat x.2.1) (u8 (imod x.1 256)), ()))))
          (some (LS.ex 0 (x.1, x.2.1, x.2.2.1, ()))))
        (x.1, i64 (isub x.2.1 1), rep (nat x.2.1) (u8 0), ()))
       (fun (a : Int × Int × List UInt8 × Unit) => none)
       (fun (i : Nat) (a : Int × Int × List UInt8 × Unit) => ck (neb i 0) (some (a.2.2.1, 0, ())))
       fun (r : List UInt8 × Int × Unit) => some r)))
noncomputable def ref01_worth (x : UInt8 × Unit) : Option (Int × Unit) :=
  ob (sel (le (n8 (u8 48)) (n8 x.1)) (some (le (n8 x.1) (n8 (u8 57)), ())) (some (false, ())))
  fun (a : Bool × Unit) =>
  sel a.1 (some (i64 (isub (i64 (n8 x.1)) 48), ()))
   (ob (sel (le (n8 (u8 97)) (n8 x.1)) (some (le (n8 x.1) (n8 (u8 102)), ())) (some (false, ())))
    fun (a : Bool × Unit) => sel a.1 (some (i64 (isub (i64 (n8 x.1)) 87), ())) (some (16, ())))
noncomputable def ref01_Unhex (x : List UInt8 × Unit) : Option (List UInt8 × Int × Unit) :=
  sel (beq (imod (len x.1) 2) 1) (some (none' UInt8, 2, ()))
  (lc
   (loop
    (fun (x_1 : Int × List UInt8 × Int × Unit) =>
     sel (lt x_1.2.2.1 (len x.1))
      (ck (inB x_1.2.2.1 (len x.1))
       (ob (ref01_worth (nth x.1 (nat x_1.2.2.1) (u8 0), ())) fun (a : Int × Unit) =>
        ck (inB (i64 (iadd x_1.2.2.1 1)) (len x.1))
         (ob (ref01_worth (nth x.1 (nat (i64 (iadd x_1.2.2.1 1))) (u8 0), ())) fun (a_1 : Int × Unit) =>
          ob (sel (lt 15 a.1) (some (true, ())) (some (lt 15 a_1.1, ()))) fun (a_2 : Bool × Unit) =>
           sel a_2.1 (some (LS.rt (none' UInt8, 2, ())))
            (ck (rm 1 (nadd (ln x_1.2.1) (ln [u8 (i64 (iadd (i64 (imul 16 a.1)) a_1.1))])))
            (some
            (LS.nx
            (x_1.1, app x_1.2.1 [u8 (i64 (iadd (i64 (imul 16 a.1)) a_1.1))],
            i64 (iadd x_1.2.2.1 2), ())))))))
      (some (LS.ex 0 (x_1.1, x_1.2.1, x_1.2.2.1, ()))))
    (0, none' UInt8, 0, ()))
   (fun (a : Int × List UInt8 × Int × Unit) => none)
   (fun (i : Nat) (a : Int × List UInt8 × Int × Unit) => ck (neb i 0) (some (a.2.1, 0, ())))
   fun (r : List UInt8 × Int × Unit) => some r)
noncomputable def ref01_sign (x : UInt8 × Unit) : Option (UInt8 × Unit) :=
  sel (lt (n8 x.1) (n8 (u8 10))) (some (u8 (iadd (n8 (u8 48)) (n8 x.1)), ()))
  (some (u8 (iadd (n8 (u8 87)) (n8 x.1)), ()))
noncomputable def ref01_Hex (x : List UInt8 × Unit) : Option (List UInt8 × Unit) :=
  lc
  (loop
   (fun (x_1 : List UInt8 × Int × Unit) =>
    sel (lt x_1.2.1 (len x.1))
     (ck (inB x_1.2.1 (len x.1))
      (ob (ref01_sign (u8 (idiv (n8 (nth x.1 (nat x_1.2.1) (u8 0))) (n8 (u8 16))), ())) fun (a : UInt8 × Unit) =>
       ck (inB x_1.2.1 (len x.1))
        (ob (ref01_sign (u8 (imod (n8 (nth x.1 (nat x_1.2.1) (u8 0))) (n8 (u8 16))), ()))
         fun (a_1 : UInt8 × Unit) =>
         ck (rm 1 (nadd (ln x_1.1) (ln [a.1, a_1.1])))
          (some (LS.nx (app x_1.1 [a.1, a_1.1], i64 (iadd x_1.2.1 1), ()))))))
     (some (LS.ex 0 (x_1.1, x_1.2.1, ()))))
   (none' UInt8, 0, ()))
  (fun (a : List UInt8 × Int × Unit) => none)
  (fun (i : Nat) (a : List UInt8 × Int × Unit) => ck (neb i 0) (some (a.1, ()))) fun (r : List UInt8 × Unit) => some r
end Yp

namespace Yp
open Go
noncomputable def field_figures (x : Int × Unit) : Option (Int × Unit) :=
  sel (beq x.1 25) (some (2, ()))
  (sel (beq x.1 22)
   (sel (beq x.1 22) (some (3, ()))
    (sel (beq x.1 13)
     (sel (beq x.1 13) (some (4, ()))
      (sel (beq x.1 3)
       (sel (beq x.1 3) (some (6, ()))
        (sel (beq x.1 7) (some (10, ()))
         (sel (beq x.1 4) (some (12, ()))
          (sel (beq x.1 53) (some (16, ())) (sel (beq x.1 90) (some (42, ())) (some (0, ())))))))
       (sel (beq x.1 11)
        (sel (beq x.1 11) (some (6, ()))
         (sel (beq x.1 7) (some (10, ()))
          (sel (beq x.1 4) (some (12, ()))
           (sel (beq x.1 53) (some (16, ())) (sel (beq x.1 90) (some (42, ())) (some (0, ())))))))
        (sel (beq x.1 12)
         (sel (beq x.1 12) (some (6, ()))
          (sel (beq x.1 7) (some (10, ()))
           (sel (beq x.1 4) (some (12, ()))
            (sel (beq x.1 53) (some (16, ())) (sel (beq x.1 90) (some (42, ())) (some (0, ())))))))
         (sel (beq x.1 15) (some (6, ()))
          (sel (beq x.1 7) (some (10, ()))
           (sel (beq x.1 4) (some (12, ()))
            (sel (beq x.1 53) (some (16, ())) (sel (beq x.1 90) (some (42, ())) (some (0, ())))))))))))
     (sel (beq x.1 14)
      (sel (beq x.1 14) (some (4, ()))
       (sel (beq x.1 3)
        (sel (beq x.1 3) (some (6, ()))
         (sel (beq x.1 7) (some (10, ()))
          (sel (beq x.1 4) (some (12, ()))
           (sel (beq x.1 53) (some (16, ())) (sel (beq x.1 90) (some (42, ())) (some (0, ())))))))
        (sel (beq x.1 11)
         (sel (beq x.1 11) (some (6, ()))
          (sel (beq x.1 7) (some (10, ()))
           (sel (beq x.1 4) (some (12, ()))
            (sel (beq x.1 53) (some (16, ())) (sel (beq x.1 90) (some (42, ())) (some (0, ())))))))
         (sel (beq x.1 12)
          (sel (beq x.1 12) (some (6, ()))
           (sel (beq x.1 7) (some (10, ()))
            (sel (beq x.1 4) (some (12, ()))
            (sel (beq x.1 53) (some (16, ())) (sel (beq x.1 90) (some (42, ())) (some (0, ())))))))
          (sel (beq x.1 15) (some (6, ()))
           (sel (beq x.1 7) (some (10, ()))
            (sel (beq x.1 4) (some (12, ()))
            (sel (beq x.1 53) (some (16, ())) (sel (beq x.1 90) (some (42, ())) (some (0, ())))))))))))
      (sel (beq x.1 18) (some (4, ()))
       (sel (beq x.1 3)
        (sel (beq x.1 3) (some (6, ()))
         (sel (beq x.1 7) (some (10, ()))
          (sel (beq x.1 4) (some (12, ()))
           (sel (beq x.1 53) (some (16, ())) (sel (beq x.1 90) (some (42, ())) (some (0, ())))))))
        (sel (beq x.1 11)
         (sel (beq x.1 11) (some (6, ()))
          (sel (beq x.1 7) (some (10, ()))
           (sel (beq x.1 4) (some (12, ()))
            (sel (beq x.1 53) (some (16, ())) (sel (beq x.1 90) (some (42, ())) (some (0, ())))))))
         (sel (beq x.1 12)
          (sel (beq x.1 12) (some (6, ()))
           (sel (beq x.1 7) (some (10, ()))
            (sel (beq x.1 4) (some (12, ()))
            (sel (beq x.1 53) (some (16, ())) (sel (beq x.1 90) (some (42, ())) (some (0, ())))))))
          (sel (beq x.1 15) (some (6, ()))
           (sel (beq x.1 7) (some (10, ()))
            (sel (beq x.1 4) (some (12, ()))
            (sel (beq x.1 53) (some (16, ()))
            (sel (beq x.1 90) (some (42, ())) (some (0, ()))))))))))))))
   (sel (beq x.1 49)
    (sel (beq x.1 49) (some (3, ()))
     (sel (beq x.1 13)
      (sel (beq x.1 13) (some (4, ()))
       (sel (beq x.1 3)
        (sel (beq x.1 3) (some (6, ()))
         (sel (beq x.1 7) (some (10, ()))
          (sel (beq x.1 4) (some (12, ()))
           (sel (beq x.1 53) (some (16, ())) (sel (beq x.1 90) (some (42, ())) (some (0, ())))))))
        (sel (beq x.1 11)
         (sel (beq x.1 11) (some (6, ()))
          (sel (beq x.1 7) (some (10, ()))
           (sel (beq x.1 4) (some (12, ()))
            (sel (beq x.1 53) (some (16, ())) (sel (beq x.1 90) (some (42, ())) (some (0, ())))))))
         (sel (beq x.1 12)
          (sel (beq x.1 12) (some (6, ()))
           (sel (beq x.1 7) (some (10, ()))
            (sel (beq x.1 4) (some (12, ()))
            (sel (beq x.1 53) (some (16, ())) (sel (beq x.1 90) (some (42, ())) (some (0, ())))))))
          (sel (beq x.1 15) (some (6, ()))
           (sel (beq x.1 7) (some (10, ()))
            (sel (beq x.1 4) (some (12, ()))
            (sel (beq x.1 53) (some (16, ())) (sel (beq x.1 90) (some (42, ())) (some (0, ())))))))))))
      (sel (beq x.1 14)
       (sel (beq x.1 14) (some (4, ()))
        (sel (beq x.1 3)
         (sel (beq x.1 3) (some (6, ()))
          (sel (beq x.1 7) (some (10, ()))
           (sel (beq x.1 4) (some (12, ()))
            (sel (beq x.1 53) (some (16, ())) (sel (beq x.1 90) (some (42, ())) (some (0, ())))))))
         (sel (beq x.1 11)
          (sel (beq x.1 11) (some (6, ()))
           (sel (beq x.1 7) (some (10, ()))
            (sel (beq x.1 4) (some (12, ()))
            (sel (beq x.1 53) (some (16, ())) (sel (beq x.1 90) (some (42, ())) (some (0, ())))))))
          (sel (beq x.1 12)
           (sel (beq x.1 12) (some (6, ()))
            (sel (beq x.1 7) (some (10, ()))
            (sel (beq x.1 4) (some (12, ()))
            (sel (beq x.1 53) (some (16, ())) (sel (beq x.1 90) (some (42, ())) (some (0, ())))))))
           (sel (beq x.1 15) (some (6, ()))
            (sel (beq x.1 7) (some (10, ()))
            (sel (beq x.1 4) (some (12, ()))
            (sel (beq x.1 53) (some (16, ()))
            (sel (beq x.1 90) (some (42, ())) (some (0, ())))))))))))
       (sel (beq x.1 18) (some (4, ()))
        (sel (beq x.1 3)
         (sel (beq x.1 3) (some (6, ()))
          (sel (beq x.1 7) (some (10, ()))
           (sel (beq x.1 4) (some (12, ()))
            (sel (beq x.1 53) (some (16, ())) (sel (beq x.1 90) (some (42, ())) (some (0, ())))))))
         (sel (beq x.1 11)
          (sel (beq x.1 11) (some (6, ()))
           (sel (beq x.1 7) (some (10, ()))
            (sel (beq x.1 4) (some (12, ()))
            (sel (beq x.1 53) (some (16, ())) (sel (beq x.1 90) (some (42, ())) (some (0, ())))))))
          (sel (beq x.1 12)
           (sel (beq x.1 12) (some (6, ()))
            (sel (beq x.1 7) (some (10, ()))
            (sel (beq x.1 4) (some (12, ()))
            (sel (beq x.1 53) (some (16, ())) (sel (beq x.1 90) (some (42, ())) (some (0, ())))))))
           (sel (beq x.1 15) (some (6, ()))
            (sel (beq x.1 7) (some (10, ()))
            (sel (beq x.1 4) (some (12, ()))
            (sel (beq x.1 53) (some (16, ()))
            (sel (beq x.1 90) (some (42, ())) (some (0, ()))))))))))))))
    (sel (beq x.1 70) (some (3, ()))
     (sel (beq x.1 13)
      (sel (beq x.1 13) (some (4, ()))
       (sel (beq x.1 3)
        (sel (beq x.1 3) (some (6, ()))
         (sel (beq x.1 7) (some (10, ()))
          (sel (beq x.1 4) (some (12, ()))
           (sel (beq x.1 53) (some (16, ())) (sel (beq x.1 90) (some (42, ())) (some (0, ())))))))
        (sel (beq x.1 11)
         (sel (beq x.1 11) (some (6, ()))
          (sel (beq x.1 7) (some (10, ()))
           (sel (beq x.1 4) (some (12, ()))
            (sel (beq x.1 53) (some (16, ())) (sel (beq x.1 90) (some (42, ())) (some (0, ())))))))
         (sel (beq x.1 12)
          (sel (beq x.1 12) (some (6, ()))
           (sel (beq x.1 7) (some (10, ()))
            (sel (beq x.1 4) (some (12, ()))
            (sel (beq x.1 53) (some (16, ())) (sel (beq x.1 90) (some (42, ())) (some (0, ())))))))
          (sel (beq x.1 15) (some (6, ()))
           (sel (beq x.1 7) (some (10, ()))
            (sel (beq x.1 4) (some (12, ()))
            (sel (beq x.1 53) (some (16, ())) (sel (beq x.1 90) (some (42, ())) (some (0, ())))))))))))
      (sel (beq x.1 14)
       (sel (beq x.1 14) (some (4, ()))
        (sel (beq x.1 3)
         (sel (beq x.1 3) (some (6, ()))
          (sel (beq x.1 7) (some (10, ()))
           (sel (beq x.1 4) (some (12, ()))
            (sel (beq x.1 53) (some (16, ())) (sel (beq x.1 90) (some (42, ())) (some (0, ())))))))
         (sel (beq x.1 11)
          (sel (beq x.1 11) (some (6, ()))
           (sel (beq x.1 7) (some (10, ()))
            (sel (beq x.1 4) (some (12, ()))
            (sel (beq x.1 53) (some (16, ())) (sel (beq x.1 90) (some (42, ())) (some (0, ())))))))
          (sel (beq x.1 12)
           (sel (beq x.1 12) (some (6, ()))
            (sel (beq x.1 7) (some (10, ()))
            (sel (beq x.1 4) (some (12, ()))
            (sel (beq x.1 53) (some (16, ())) (sel (beq x.1 90) (some (42, ())) (some (0, ())))))))
           (sel (beq x.1 15) (some (6, ()))
            (sel (beq x.1 7) (some (10, ()))
            (sel (beq x.1 4) (some (12, ()))
            (sel (beq x.1 53) (some (16, ()))
            (sel (beq x.1 90) (some (42, ())) (some (0, ())))))))))))
       (sel (beq x.1 18) (some (4, ()))
        (sel (beq x.1 3)
         (sel (beq x.1 3) (some (6, ()))
          (sel (beq x.1 7) (some (10, ()))
           (sel (beq x.1 4) (some (12, ()))
            (sel (beq x.1 53) (some (16, ())) (sel (beq x.1 90) (some (42, ())) (some (0, ())))))))
         (sel (beq x.1 11)
          (sel (beq x.1 11) (some (6, ()))
           (sel (beq x.1 7) (some (10, ()))
            (sel (beq x.1 4) (some (12, ()))
            (sel (beq x.1 53) (some (16, ())) (sel (beq x.1 90) (some (42, ())) (some (0, ())))))))
          (sel (beq x.1 12)
           (sel (beq x.1 12) (some (6, ()))
            (sel (beq x.1 7) (some (10, ()))
            (sel (beq x.1 4) (some (12, ()))
            (sel (beq x.1 53) (some (16, ())) (sel (beq x.1 90) (some (42, ())) (some (0, ())))))))
           (sel (beq x.1 15) (some (6, ()))
            (sel (beq x.1 7) (some (10, ()))
            (sel (beq x.1 4) (some (12, ()))
            (sel (beq x.1 53) (some (16, ()))
            (sel (beq x.1 90) (some (42, ())) (some (0, ()))))))))))))))))
noncomputable def field_long (x : Int × Int × Unit) : Option (Int × Unit) :=
  sel (beq x.1 1) (ob (field_figures (x.2.1, ())) fun (a : Int × Unit) => some (a.1, ()))
  (sel (beq x.1 2) (some (sel (beq x.2.1 2) 19 (sel (beq x.2.1 32) 11 (sel (beq x.2.1 100) 11 0)), ()))
   (sel (beq x.1 3)
    (some
     (sel (beq x.2.1 37) 12
       (sel (beq x.2.1 38) 6
        (sel (beq x.2.1 39) 2
         (sel (beq x.2.1 41) 8 (sel (beq x.2.1 42) 15 (sel (beq x.2.1 95) 42 0))))),
      ()))
    (sel (beq x.1 4) (some (sel (beq x.2.1 35) 37 (sel (beq x.2.1 102) 28 0), ()))
     (sel (beq x.1 5) (some (sel (beq x.2.1 48) 400 (sel (beq x.2.1 54) 120 0), ()))
      (sel (beq x.1 6)
       (some
        (sel (beq x.2.1 52) 8
          (sel (beq x.2.1 64) 8 (sel (beq x.2.1 96) 8 (sel (beq x.2.1 128) 8 0))),
         ()))
       (sel (beq x.1 7) (some (sel (beq x.2.1 55) 255 (sel (beq x.2.1 127) 400 0), ()))
        (some (0, ()))))))))
noncomputable def field_Of (x : Int × Unit) : Option ((Int × Int × Unit) × Bool × Unit) :=
  lc
  (loop
   (fun (x_1 : Bool × Int × Unit) =>
    sel (le x_1.2.1 7)
     (ob (field_long (x_1.2.1, x.1, ())) fun (a : Int × Unit) =>
      sel (lt 0 a.1) (some (LS.rt ((x_1.2.1, a.1, ()), true, ())))
       (some (LS.nx (x_1.1, i64 (iadd x_1.2.1 1), ()))))
     (some (LS.ex 0 (x_1.1, x_1.2.1, ()))))
   (false, 1, ()))
  (fun (a : Bool × Int × Unit) => none)
  (fun (i : Nat) (a : Bool × Int × Unit) => ck (neb i 0) (some ((0, 0, ()), false, ())))
  fun (r : (Int × Int × Unit) × Bool × Unit) => some r
noncomputable def field_told (x : Int × Unit) : Option (Int × Unit) :=
  sel (beq x.1 2)
  (sel (beq x.1 2) (some (2, ()))
   (sel (beq x.1 5) (sel (beq x.1 5) (some (3, ())) (some (0, ())))
    (sel (beq x.1 7) (some (3, ())) (some (0, ())))))
  (sel (beq x.1 4) (some (2, ()))
   (sel (beq x.1 5) (sel (beq x.1 5) (some (3, ())) (some (0, ())))
    (sel (beq x.1 7) (some (3, ())) (some (0, ())))))
noncomputable def field_Fits (x : Int × List UInt8 × Unit) : Option (Bool × Unit) :=
  ob (field_Of (x.1, ())) fun (a : (Int × Int × Unit) × Bool × Unit) =>
  ob (sel (bnot a.2.1) (some (true, ())) (some (lt a.1.2.1 (len x.2.1), ()))) fun (a_1 : Bool × Unit) =>
   sel a_1.1 (some (false, ()))
    (sel (beq a.1.1 1)
     (sel (beq a.1.1 1)
      (lc
       (loop
        (fun (x_1 : Bool × Int × Unit) =>
         sel (lt x_1.2.1 (len x.2.1))
          (ck (inB x_1.2.1 (len x.2.1))
           (ob
            (sel (lt (n8 (nth x.2.1 (nat x_1.2.1) (u8 0))) (n8 (u8 48))) (some (true, ()))
            (some (lt (n8 (u8 57)) (n8 (nth x.2.1 (nat x_1.2.1) (u8 0))), ())))
            fun (a : Bool × Unit) =>
            sel a.1 (some (LS.ex 999999999 (false, x_1.2.1, ())))
            (some (LS.nx (x_1.1, i64 (iadd x_1.2.1 1), ())))))
          (some (LS.ex 0 (x_1.1, x_1.2.1, ()))))
        (false, 0, ()))
       (fun (a : Bool × Int × Unit) => none)
       (fun (i : Nat) (a_2 : Bool × Int × Unit) =>
        sel (neb i 999999999)
         (sel (bnot a_2.1) (some (false, ()))
          (lc
           (loop
            (fun (x_1 : Bool × Int × Unit) =>
            sel (lt x_1.2.1 (len x.2.1))
            (ck (inB x_1.2.1 (len x.2.1))
            (ob
            (sel (lt (n8 (nth x.2.1 (nat x_1.2.1) (u8 0))) (n8 (u8 32))) (some (true, ()))
            (some (lt (n8 (u8 126)) (n8 (nth x.2.1 (nat x_1.2.1) (u8 0))), ())))
            fun (a : Bool × Unit) =>
            sel a.1 (some (LS.ex 999999999 (false, x_1.2.1, ())))
            (some (LS.nx (x_1.1, i64 (iadd x_1.2.1 1), ())))))
            (some (LS.ex 0 (x_1.1, x_1.2.1, ()))))
            (false, 0, ()))
           (fun (a : Bool × Int × Unit) => none)
           (fun (i : Nat) (a_3 : Bool × Int × Unit) =>
            sel (neb i 999999999)
            (sel (bnot a_3.1) (some (false, ()))
            (ob (field_told (a.1.1, ())) fun (a_4 : Int × Unit) =>
            sel (lt 0 a_4.1) (some (lt 0 (len x.2.1), ()))
            (some (beq (len x.2.1) a.1.2.1, ()))))
            (ck (neb i 0)
            (ob (field_told (a.1.1, ())) fun (a_4 : Int × Unit) =>
            sel (lt 0 a_4.1) (some (lt 0 (len x.2.1), ()))
            (some (beq (len x.2.1) a.1.2.1, ())))))
           fun (r : Unit) => none))
         (ck (neb i 0)
          (lc
           (loop
            (fun (x_1 : Bool × Int × Unit) =>
            sel (lt x_1.2.1 (len x.2.1))
            (ck (inB x_1.2.1 (len x.2.1))
            (ob
            (sel (lt (n8 (nth x.2.1 (nat x_1.2.1) (u8 0))) (n8 (u8 32))) (some (true, ()))
            (some (lt (n8 (u8 126)) (n8 (nth x.2.1 (nat x_1.2.1) (u8 0))), ())))
            fun (a : Bool × Unit) =>
            sel a.1 (some (LS.ex 999999999 (false, x_1.2.1, ())))
            (some (LS.nx (x_1.1, i64 (iadd x_1.2.1 1), ())))))
            (some (LS.ex 0 (x_1.1, x_1.2.1, ()))))
            (false, 0, ()))
           (fun (a : Bool × Int × Unit) => none)
           (fun (i : Nat) (a_3 : Bool × Int × Unit) =>
            sel (neb i 999999999)
            (sel (bnot a_3.1) (some (false, ()))
            (ob (field_told (a.1.1, ())) fun (a_4 : Int × Unit) =>
            sel (lt 0 a_4.1) (some (lt 0 (len x.2.1), ()))
            (some (beq (len x.2.1) a.1.2.1, ()))))
            (ck (neb i 0)
            (ob (field_told (a.1.1, ())) fun (a_4 : Int × Unit) =>
            sel (lt 0 a_4.1) (some (lt 0 (len x.2.1), ()))
            (some (beq (len x.2.1) a.1.2.1, ())))))
           fun (r : Unit) => none)))
       fun (r : Unit) => none)
      (sel (beq a.1.1 3)
       (sel (beq a.1.1 3)
        (lc
         (loop
          (fun (x_1 : Bool × Int × Unit) =>
           sel (lt x_1.2.1 (len x.2.1))
            (ck (inB x_1.2.1 (len x.2.1))
            (ob
            (sel (lt (n8 (nth x.2.1 (nat x_1.2.1) (u8 0))) (n8 (u8 32))) (some (true, ()))
            (some (lt (n8 (u8 126)) (n8 (nth x.2.1 (nat x_1.2.1) (u8 0))), ())))
            fun (a : Bool × Unit) =>
            sel a.1 (some (LS.ex 999999999 (false, x_1.2.1, ())))
            (some (LS.nx (x_1.1, i64 (iadd x_1.2.1 1), ())))))
            (some (LS.ex 0 (x_1.1, x_1.2.1, ()))))
          (false, 0, ()))
         (fun (a : Bool × Int × Unit) => none)
         (fun (i : Nat) (a_2 : Bool × Int × Unit) =>
          sel (neb i 999999999)
           (sel (bnot a_2.1) (some (false, ()))
            (ob (field_told (a.1.1, ())) fun (a_3 : Int × Unit) =>
            sel (lt 0 a_3.1) (some (lt 0 (len x.2.1), ()))
            (some (beq (len x.2.1) a.1.2.1, ()))))
           (ck (neb i 0)
            (ob (field_told (a.1.1, ())) fun (a_3 : Int × Unit) =>
            sel (lt 0 a_3.1) (some (lt 0 (len x.2.1), ()))
            (some (beq (len x.2.1) a.1.2.1, ())))))
         fun (r : Unit) => none)
        (ob (field_told (a.1.1, ())) fun (a_2 : Int × Unit) =>
         sel (lt 0 a_2.1) (some (lt 0 (len x.2.1), ())) (some (beq (len x.2.1) a.1.2.1, ()))))
       (sel (beq a.1.1 4)
        (sel (beq a.1.1 4)
         (lc
          (loop
           (fun (x_1 : Bool × Int × Unit) =>
            sel (lt x_1.2.1 (len x.2.1))
            (ck (inB x_1.2.1 (len x.2.1))
            (ob
            (sel (lt (n8 (nth x.2.1 (nat x_1.2.1) (u8 0))) (n8 (u8 32))) (some (true, ()))
            (some (lt (n8 (u8 126)) (n8 (nth x.2.1 (nat x_1.2.1) (u8 0))), ())))
            fun (a : Bool × Unit) =>
            sel a.1 (some (LS.ex 999999999 (false, x_1.2.1, ())))
            (some (LS.nx (x_1.1, i64 (iadd x_1.2.1 1), ())))))
            (some (LS.ex 0 (x_1.1, x_1.2.1, ()))))
           (false, 0, ()))
          (fun (a : Bool × Int × Unit) => none)
          (fun (i : Nat) (a_2 : Bool × Int × Unit) =>
           sel (neb i 999999999)
            (sel (bnot a_2.1) (some (false, ()))
            (ob (field_told (a.1.1, ())) fun (a_3 : Int × Unit) =>
            sel (lt 0 a_3.1) (some (lt 0 (len x.2.1), ()))
            (some (beq (len x.2.1) a.1.2.1, ()))))
            (ck (neb i 0)
            (ob (field_told (a.1.1, ())) fun (a_3 : Int × Unit) =>
            sel (lt 0 a_3.1) (some (lt 0 (len x.2.1), ()))
            (some (beq (len x.2.1) a.1.2.1, ())))))
          fun (r : Unit) => none)
         (ob (field_told (a.1.1, ())) fun (a_2 : Int × Unit) =>
          sel (lt 0 a_2.1) (some (lt 0 (len x.2.1), ())) (some (beq (len x.2.1) a.1.2.1, ()))))
        (sel (beq a.1.1 5)
         (lc
          (loop
           (fun (x_1 : Bool × Int × Unit) =>
            sel (lt x_1.2.1 (len x.2.1))
            (ck (inB x_1.2.1 (len x.2.1))
            (ob
            (sel (lt (n8 (nth x.2.1 (nat x_1.2.1) (u8 0))) (n8 (u8 32))) (some (true, ()))
            (some (lt (n8 (u8 126)) (n8 (nth x.2.1 (nat x_1.2.1) (u8 0))), ())))
            fun (a : Bool × Unit) =>
            sel a.1 (some (LS.ex 999999999 (false, x_1.2.1, ())))
            (some (LS.nx (x_1.1, i64 (iadd x_1.2.1 1), ())))))
            (some (LS.ex 0 (x_1.1, x_1.2.1, ()))))
           (false, 0, ()))
          (fun (a : Bool × Int × Unit) => none)
          (fun (i : Nat) (a_2 : Bool × Int × Unit) =>
           sel (neb i 999999999)
            (sel (bnot a_2.1) (some (false, ()))
            (ob (field_told (a.1.1, ())) fun (a_3 : Int × Unit) =>
            sel (lt 0 a_3.1) (some (lt 0 (len x.2.1), ()))
            (some (beq (len x.2.1) a.1.2.1, ()))))
            (ck (neb i 0)
            (ob (field_told (a.1.1, ())) fun (a_3 : Int × Unit) =>
            sel (lt 0 a_3.1) (some (lt 0 (len x.2.1), ()))
            (some (beq (len x.2.1) a.1.2.1, ())))))
          fun (r : Unit) => none)
         (ob (field_told (a.1.1, ())) fun (a_2 : Int × Unit) =>
          sel (lt 0 a_2.1) (some (lt 0 (len x.2.1), ()))
           (some (beq (len x.2.1) a.1.2.1, ())))))))
     (sel (beq a.1.1 2)
      (lc
       (loop
        (fun (x_1 : Bool × Int × Unit) =>
         sel (lt x_1.2.1 (len x.2.1))
          (ck (inB x_1.2.1 (len x.2.1))
           (ob
            (sel (lt (n8 (nth x.2.1 (nat x_1.2.1) (u8 0))) (n8 (u8 48))) (some (true, ()))
            (some (lt (n8 (u8 57)) (n8 (nth x.2.1 (nat x_1.2.1) (u8 0))), ())))
            fun (a : Bool × Unit) =>
            sel a.1 (some (LS.ex 999999999 (false, x_1.2.1, ())))
            (some (LS.nx (x_1.1, i64 (iadd x_1.2.1 1), ())))))
          (some (LS.ex 0 (x_1.1, x_1.2.1, ()))))
        (false, 0, ()))
       (fun (a : Bool × Int × Unit) => none)
       (fun (i : Nat) (a_2 : Bool × Int × Unit) =>
        sel (neb i 999999999)
         (sel (bnot a_2.1) (some (false, ()))
          (lc
           (loop
            (fun (x_1 : Bool × Int × Unit) =>
            sel (lt x_1.2.1 (len x.2.1))
            (ck (inB x_1.2.1 (len x.2.1))
            (ob
            (sel (lt (n8 (nth x.2.1 (nat x_1.2.1) (u8 0))) (n8 (u8 32))) (some (true, ()))
            (some (lt (n8 (u8 126)) (n8 (nth x.2.1 (nat x_1.2.1) (u8 0))), ())))
            fun (a : Bool × Unit) =>
            sel a.1 (some (LS.ex 999999999 (false, x_1.2.1, ())))
            (some (LS.nx (x_1.1, i64 (iadd x_1.2.1 1), ())))))
            (some (LS.ex 0 (x_1.1, x_1.2.1, ()))))
            (false, 0, ()))
           (fun (a : Bool × Int × Unit) => none)
           (fun (i : Nat) (a_3 : Bool × Int × Unit) =>
            sel (neb i 999999999)
            (sel (bnot a_3.1) (some (false, ()))
            (ob (field_told (a.1.1, ())) fun (a_4 : Int × Unit) =>
            sel (lt 0 a_4.1) (some (lt 0 (len x.2.1), ()))
            (some (beq (len x.2.1) a.1.2.1, ()))))
            (ck (neb i 0)
            (ob (field_told (a.1.1, ())) fun (a_4 : Int × Unit) =>
            sel (lt 0 a_4.1) (some (lt 0 (len x.2.1), ()))
            (some (beq (len x.2.1) a.1.2.1, ())))))
           fun (r : Unit) => none))
         (ck (neb i 0)
          (lc
           (loop
            (fun (x_1 : Bool × Int × Unit) =>
            sel (lt x_1.2.1 (len x.2.1))
            (ck (inB x_1.2.1 (len x.2.1))
            (ob
            (sel (lt (n8 (nth x.2.1 (nat x_1.2.1) (u8 0))) (n8 (u8 32))) (some (true, ()))
            (some (lt (n8 (u8 126)) (n8 (nth x.2.1 (nat x_1.2.1) (u8 0))), ())))
            fun (a : Bool × Unit) =>
            sel a.1 (some (LS.ex 999999999 (false, x_1.2.1, ())))
            (some (LS.nx (x_1.1, i64 (iadd x_1.2.1 1), ())))))
            (some (LS.ex 0 (x_1.1, x_1.2.1, ()))))
            (false, 0, ()))
           (fun (a : Bool × Int × Unit) => none)
           (fun (i : Nat) (a_3 : Bool × Int × Unit) =>
            sel (neb i 999999999)
            (sel (bnot a_3.1) (some (false, ()))
            (ob (field_told (a.1.1, ())) fun (a_4 : Int × Unit) =>
            sel (lt 0 a_4.1) (some (lt 0 (len x.2.1), ()))
            (some (beq (len x.2.1) a.1.2.1, ()))))
            (ck (neb i 0)
            (ob (field_told (a.1.1, ())) fun (a_4 : Int × Unit) =>
            sel (lt 0 a_4.1) (some (lt 0 (len x.2.1), ()))
            (some (beq (len x.2.1) a.1.2.1, ())))))
           fun (r : Unit) => none)))
       fun (r : Unit) => none)
      (sel (beq a.1.1 3)
       (sel (beq a.1.1 3)
        (lc
         (loop
          (fun (x_1 : Bool × Int × Unit) =>
           sel (lt x_1.2.1 (len x.2.1))
            (ck (inB x_1.2.1 (len x.2.1))
            (ob
            (sel (lt (n8 (nth x.2.1 (nat x_1.2.1) (u8 0))) (n8 (u8 32))) (some (true, ()))
            (some (lt (n8 (u8 126)) (n8 (nth x.2.1 (nat x_1.2.1) (u8 0))), ())))
            fun (a : Bool × Unit) =>
            sel a.1 (some (LS.ex 999999999 (false, x_1.2.1, ())))
            (some (LS.nx (x_1.1, i64 (iadd x_1.2.1 1), ())))))
            (some (LS.ex 0 (x_1.1, x_1.2.1, ()))))
          (false, 0, ()))
         (fun (a : Bool × Int × Unit) => none)
         (fun (i : Nat) (a_2 : Bool × Int × Unit) =>
          sel (neb i 999999999)
           (sel (bnot a_2.1) (some (false, ()))
            (ob (field_told (a.1.1, ())) fun (a_3 : Int × Unit) =>
            sel (lt 0 a_3.1) (some (lt 0 (len x.2.1), ()))
            (some (beq (len x.2.1) a.1.2.1, ()))))
           (ck (neb i 0)
            (ob (field_told (a.1.1, ())) fun (a_3 : Int × Unit) =>
            sel (lt 0 a_3.1) (some (lt 0 (len x.2.1), ()))
            (some (beq (len x.2.1) a.1.2.1, ())))))
         fun (r : Unit) => none)
        (ob (field_told (a.1.1, ())) fun (a_2 : Int × Unit) =>
         sel (lt 0 a_2.1) (some (lt 0 (len x.2.1), ())) (some (beq (len x.2.1) a.1.2.1, ()))))
       (sel (beq a.1.1 4)
        (sel (beq a.1.1 4)
         (lc
          (loop
           (fun (x_1 : Bool × Int × Unit) =>
            sel (lt x_1.2.1 (len x.2.1))
            (ck (inB x_1.2.1 (len x.2.1))
            (ob
            (sel (lt (n8 (nth x.2.1 (nat x_1.2.1) (u8 0))) (n8 (u8 32))) (some (true, ()))
            (some (lt (n8 (u8 126)) (n8 (nth x.2.1 (nat x_1.2.1) (u8 0))), ())))
            fun (a : Bool × Unit) =>
            sel a.1 (some (LS.ex 999999999 (false, x_1.2.1, ())))
            (some (LS.nx (x_1.1, i64 (iadd x_1.2.1 1), ())))))
            (some (LS.ex 0 (x_1.1, x_1.2.1, ()))))
           (false, 0, ()))
          (fun (a : Bool × Int × Unit) => none)
          (fun (i : Nat) (a_2 : Bool × Int × Unit) =>
           sel (neb i 999999999)
            (sel (bnot a_2.1) (some (false, ()))
            (ob (field_told (a.1.1, ())) fun (a_3 : Int × Unit) =>
            sel (lt 0 a_3.1) (some (lt 0 (len x.2.1), ()))
            (some (beq (len x.2.1) a.1.2.1, ()))))
            (ck (neb i 0)
            (ob (field_told (a.1.1, ())) fun (a_3 : Int × Unit) =>
            sel (lt 0 a_3.1) (some (lt 0 (len x.2.1), ()))
            (some (beq (len x.2.1) a.1.2.1, ())))))
          fun (r : Unit) => none)
         (ob (field_told (a.1.1, ())) fun (a_2 : Int × Unit) =>
          sel (lt 0 a_2.1) (some (lt 0 (len x.2.1), ())) (some (beq (len x.2.1) a.1.2.1, ()))))
        (sel (beq a.1.1 5)
         (lc
          (loop
           (fun (x_1 : Bool × Int × Unit) =>
            sel (lt x_1.2.1 (len x.2.1))
            (ck (inB x_1.2.1 (len x.2.1))
            (ob
            (sel (lt (n8 (nth x.2.1 (nat x_1.2.1) (u8 0))) (n8 (u8 32))) (some (true, ()))
            (some (lt (n8 (u8 126)) (n8 (nth x.2.1 (nat x_1.2.1) (u8 0))), ())))
            fun (a : Bool × Unit) =>
            sel a.1 (some (LS.ex 999999999 (false, x_1.2.1, ())))
            (some (LS.nx (x_1.1, i64 (iadd x_1.2.1 1), ())))))
            (some (LS.ex 0 (x_1.1, x_1.2.1, ()))))
           (false, 0, ()))
          (fun (a : Bool × Int × Unit) => none)
          (fun (i : Nat) (a_2 : Bool × Int × Unit) =>
           sel (neb i 999999999)
            (sel (bnot a_2.1) (some (false, ()))
            (ob (field_told (a.1.1, ())) fun (a_3 : Int × Unit) =>
            sel (lt 0 a_3.1) (some (lt 0 (len x.2.1), ()))
            (some (beq (len x.2.1) a.1.2.1, ()))))
            (ck (neb i 0)
            (ob (field_told (a.1.1, ())) fun (a_3 : Int × Unit) =>
            sel (lt 0 a_3.1) (some (lt 0 (len x.2.1), ()))
            (some (beq (len x.2.1) a.1.2.1, ())))))
          fun (r : Unit) => none)
         (ob (field_told (a.1.1, ())) fun (a_2 : Int × Unit) =>
          sel (lt 0 a_2.1) (some (lt 0 (len x.2.1), ()))
           (some (beq (len x.2.1) a.1.2.1, ()))))))))
noncomputable def field_Write (x : Int × List UInt8 × Unit) : Option (List UInt8 × Int × Unit) :=
  ob (field_Of (x.1, ())) fun (a : (Int × Int × Unit) × Bool × Unit) =>
  sel (bnot a.2.1) (some (none' UInt8, 12, ()))
   (ob (field_Fits (x.1, x.2.1, ())) fun (a_1 : Bool × Unit) =>
    sel (bnot a_1.1) (some (none' UInt8, 1, ()))
     (ob (field_told (a.1.1, ())) fun (a_2 : Int × Unit) =>
      sel (lt 0 a_2.1)
       (ob (dig_Digits (len x.2.1, a_2.1, ())) fun (a_3 : List UInt8 × Int × Unit) =>
        ob (dig_Bcd (a_3.1, ())) fun (a_4 : List UInt8 × Int × Unit) =>
         ob (sel (beq a.1.1 1) (some (true, ())) (some (beq a.1.1 2, ()))) fun (a : Bool × Unit) =>
          sel a.1
           (ob (dig_Bcd (x.2.1, ())) fun (a : List UInt8 × Int × Unit) =>
            ck (rm 1 (nadd (ln a_4.1) (ln a.1))) (some (app a_4.1 a.1, 0, ())))
           (ck (rm 1 (nadd (ln a_4.1) (ln x.2.1))) (some (app a_4.1 x.2.1, 0, ()))))
       (ob (sel (beq a.1.1 1) (some (true, ())) (some (beq a.1.1 2, ()))) fun (a : Bool × Unit) =>
        sel a.1
         (ob (dig_Bcd (x.2.1, ())) fun (a : List UInt8 × Int × Unit) =>
          ck (rm 1 (ln a.1)) (some (a.1, 0, ())))
         (ck (rm 1 (ln x.2.1)) (some (x.2.1, 0, ()))))))
noncomputable def field_Read (x : Int × List UInt8 × Int × Unit) : Option (List UInt8 × Int × Int × Unit) :=
  ob (field_Of (x.1, ())) fun (a : (Int × Int × Unit) × Bool × Unit) =>
  sel (bnot a.2.1) (some (none' UInt8, 0, 12, ()))
   (ob (sel (lt x.2.2.1 0) (some (true, ())) (some (lt (len x.2.1) x.2.2.1, ())))
    fun (a_1 : Bool × Unit) =>
    sel a_1.1 (some (none' UInt8, 0, 1, ()))
     (ob (field_told (a.1.1, ())) fun (a_2 : Int × Unit) =>
      sel (lt 0 a_2.1)
       (ob (dig_TakeBcd (x.2.1, x.2.2.1, a_2.1, ())) fun (a_3 : List UInt8 × Int × Int × Unit) =>
        sel (bnot (beq a_3.2.2.1 0)) (some (none' UInt8, 0, a_3.2.2.1, ()))
         (ob (dig_Value (a_3.1, ())) fun (a_4 : Int × Int × Unit) =>
          ob (sel (lt a_4.1 1) (some (true, ())) (some (lt a.1.2.1 a_4.1, ())))
           fun (a_5 : Bool × Unit) =>
           sel a_5.1 (some (none' UInt8, 0, 2, ()))
            (ob (sel (beq a.1.1 1) (some (true, ())) (some (beq a.1.1 2, ())))
            fun (a : Bool × Unit) =>
            sel a.1
            (ob (dig_TakeBcd (x.2.1, a_3.2.1, a_4.1, ()))
            fun (a : List UInt8 × Int × Int × Unit) =>
            sel (bnot (beq a.2.2.1 0)) (some (none' UInt8, 0, a.2.2.1, ()))
            (ck (rm 1 (ln a.1)) (some (a.1, a.2.1, 0, ()))))
            (sel (lt (i64 (isub (len x.2.1) a_3.2.1)) a_4.1) (some (none' UInt8, 0, 3, ()))
            (ck (inC a_3.2.1 (i64 (iadd a_3.2.1 a_4.1)) (len x.2.1))
            (ck
            (rm 1
            (nadd (ln (none' UInt8))
            (ln (sub x.2.1 a_3.2.1 (i64 (iadd a_3.2.1 a_4.1))))))
            (ob
            (field_Fits
            (x.1,
            app (none' UInt8) (sub x.2.1 a_3.2.1 (i64 (iadd a_3.2.1 a_4.1))),
            ()))
            fun (a : Bool × Unit) =>
            sel (bnot a.1) (some (none' UInt8, 0, 2, ()))
            (some
            (app (none' UInt8) (sub x.2.1 a_3.2.1 (i64 (iadd a_3.2.1 a_4.1))),
            i64 (iadd a_3.2.1 a_4.1), 0, ())))))))))
       (ob (sel (beq a.1.1 1) (some (true, ())) (some (beq a.1.1 2, ()))) fun (a_3 : Bool × Unit) =>
        sel a_3.1
         (ob (dig_TakeBcd (x.2.1, x.2.2.1, a.1.2.1, ()))
          fun (a : List UInt8 × Int × Int × Unit) =>
          sel (bnot (beq a.2.2.1 0)) (some (none' UInt8, 0, a.2.2.1, ()))
           (ck (rm 1 (ln a.1)) (some (a.1, a.2.1, 0, ()))))
         (sel (lt (i64 (isub (len x.2.1) x.2.2.1)) a.1.2.1) (some (none' UInt8, 0, 3, ()))
          (ck (inC x.2.2.1 (i64 (iadd x.2.2.1 a.1.2.1)) (len x.2.1))
           (ck
            (rm 1
            (nadd (ln (none' UInt8))
            (ln (sub x.2.1 x.2.2.1 (i64 (iadd x.2.2.1 a.1.2.1))))))
            (ob
            (field_Fits
            (x.1,
            app (none' UInt8) (sub x.2.1 x.2.2.1 (i64 (iadd x.2.2.1 a.1.2.1))),
            ()))
            fun (a_4 : Bool × Unit) =>
            sel (bnot a_4.1) (some (none' UInt8, 0, 2, ()))
            (some
            (app (none' UInt8) (sub x.2.1 x.2.2.1 (i64 (iadd x.2.2.1 a.1.2.1))),
            i64 (iadd x.2.2.1 a.1.2.1), 0, ())))))))))
noncomputable def law05_shown (x : Unit) : Option (Bool × Unit) :=
  ob (field_Write (2, [u8 52, u8 49, u8 49, u8 49], ())) fun (a : List UInt8 × Int × Unit) =>
  ob (field_Write (22, [u8 48, u8 49, u8 50], ())) fun (a_1 : List UInt8 × Int × Unit) =>
   ob (field_Write (48, [u8 97, u8 98], ())) fun (a_2 : List UInt8 × Int × Unit) =>
    ob (field_Read (2, a.1, 0, ())) fun (a_3 : List UInt8 × Int × Int × Unit) =>
     ob (field_Of (127, ())) fun (a_4 : (Int × Int × Unit) × Bool × Unit) =>
      ob (field_Of (1, ())) fun (a_5 : (Int × Int × Unit) × Bool × Unit) =>
       sel (beq a.2.1 0)
        (ob (ref01_Hex (a.1, ())) fun (a : List UInt8 × Unit) =>
         sel (seq a.1 [48, 52, 52, 49, 49, 49])
          (sel (beq a_1.2.1 0)
           (ob (ref01_Hex (a_1.1, ())) fun (a : List UInt8 × Unit) =>
            sel (seq a.1 [48, 48, 49, 50])
            (sel (beq a_2.2.1 0)
            (ob (ref01_Hex (a_2.1, ())) fun (a : List UInt8 × Unit) =>
            sel (seq a.1 [48, 48, 48, 50, 54, 49, 54, 50])
            (sel (beq a_3.2.2.1 0)
            (sel (seq a_3.1 [52, 49, 49, 49])
            (sel (beq a_3.2.1 3)
            (sel a_4.2.1
            (sel (band (beq a_4.1.1 7) (band (beq a_4.1.2.1 400) true))
            (sel (bnot a_5.2.1)
            (ob (field_Fits (39, [u8 48, u8 48], ())) fun (a : Bool × Unit) =>
            sel a.1
            (ob (field_Fits (39, [u8 48], ())) fun (a : Bool × Unit) =>
            some (bnot a.1, ()))
            (some (false, ())))
            (some (false, ())))
            (some (false, ())))
            (some (false, ())))
            (some (false, ())))
            (some (false, ())))
            (some (false, ())))
            (some (false, ())))
            (some (false, ())))
            (some (false, ())))
           (some (false, ())))
          (some (false, ())))
        (some (false, ()))
noncomputable def ref05_in (x : List Int × Int × Unit) : Option (Bool × Unit) :=
  lc
  (loop
   (fun (x_1 : Bool × Int × Unit) =>
    sel (lt x_1.2.1 (len x.1))
     (ck (inB x_1.2.1 (len x.1))
      (sel (beq (nth x.1 (nat x_1.2.1) 0) x.2.1) (some (LS.rt (true, ())))
       (some (LS.nx (x_1.1, i64 (iadd x_1.2.1 1), ())))))
     (some (LS.ex 0 (x_1.1, x_1.2.1, ()))))
   (false, 0, ()))
  (fun (a : Bool × Int × Unit) => none) (fun (i : Nat) (a : Bool × Int × Unit) => ck (neb i 0) (some (false, ())))
  fun (r : Bool × Unit) => some r
noncomputable def ref05_Of (x : Int × Unit) : Option ((Int × Int × Unit) × Bool × Unit) :=
  lc
  (loop
   (fun (x_1 : Bool × Int × Unit) =>
    sel
     (lt x_1.2.1
      (len
       [[1, 2, 25], [1, 3, 22, 49, 70], [1, 4, 13, 14, 18], [1, 6, 3, 11, 12, 15], [1, 10, 7], [1, 12, 4],
        [1, 16, 53], [1, 42, 90], [2, 19, 2], [2, 11, 32, 100], [3, 12, 37], [3, 6, 38], [3, 2, 39], [3, 8, 41],
        [3, 15, 42], [3, 42, 95], [4, 37, 35], [4, 28, 102], [5, 400, 48], [5, 120, 54], [6, 8, 52, 64, 96, 128],
        [7, 255, 55], [7, 400, 127]]))
     (ck
      (inB x_1.2.1
       (len
        [[1, 2, 25], [1, 3, 22, 49, 70], [1, 4, 13, 14, 18], [1, 6, 3, 11, 12, 15], [1, 10, 7], [1, 12, 4],
         [1, 16, 53], [1, 42, 90], [2, 19, 2], [2, 11, 32, 100], [3, 12, 37], [3, 6, 38], [3, 2, 39], [3, 8, 41],
         [3, 15, 42], [3, 42, 95], [4, 37, 35], [4, 28, 102], [5, 400, 48], [5, 120, 54],
         [6, 8, 52, 64, 96, 128], [7, 255, 55], [7, 400, 127]]))
      (ck
       (inC 2
        (len
         (nth
          [[1, 2, 25], [1, 3, 22, 49, 70], [1, 4, 13, 14, 18], [1, 6, 3, 11, 12, 15], [1, 10, 7], [1, 12, 4],
           [1, 16, 53], [1, 42, 90], [2, 19, 2], [2, 11, 32, 100], [3, 12, 37], [3, 6, 38], [3, 2, 39],
           [3, 8, 41], [3, 15, 42], [3, 42, 95], [4, 37, 35], [4, 28, 102], [5, 400, 48], [5, 120, 54],
           [6, 8, 52, 64, 96, 128], [7, 255, 55], [7, 400, 127]]
          (nat x_1.2.1) (none' Int)))
        (len
         (nth
          [[1, 2, 25], [1, 3, 22, 49, 70], [1, 4, 13, 14, 18], [1, 6, 3, 11, 12, 15], [1, 10, 7], [1, 12, 4],
           [1, 16, 53], [1, 42, 90], [2, 19, 2], [2, 11, 32, 100], [3, 12, 37], [3, 6, 38], [3, 2, 39],
           [3, 8, 41], [3, 15, 42], [3, 42, 95], [4, 37, 35], [4, 28, 102], [5, 400, 48], [5, 120, 54],
           [6, 8, 52, 64, 96, 128], [7, 255, 55], [7, 400, 127]]
          (nat x_1.2.1) (none' Int))))
       (ob
        (ref05_in
         (sub
           (nth
            [[1, 2, 25], [1, 3, 22, 49, 70], [1, 4, 13, 14, 18], [1, 6, 3, 11, 12, 15], [1, 10, 7],
            [1, 12, 4], [1, 16, 53], [1, 42, 90], [2, 19, 2], [2, 11, 32, 100], [3, 12, 37], [3, 6, 38],
            [3, 2, 39], [3, 8, 41], [3, 15, 42], [3, 42, 95], [4, 37, 35], [4, 28, 102], [5, 400, 48],
            [5, 120, 54], [6, 8, 52, 64, 96, 128], [7, 255, 55], [7, 400, 127]]
            (nat x_1.2.1) (none' Int))
           2
           (len
            (nth
            [[1, 2, 25], [1, 3, 22, 49, 70], [1, 4, 13, 14, 18], [1, 6, 3, 11, 12, 15], [1, 10, 7],
            [1, 12, 4], [1, 16, 53], [1, 42, 90], [2, 19, 2], [2, 11, 32, 100], [3, 12, 37], [3, 6, 38],
            [3, 2, 39], [3, 8, 41], [3, 15, 42], [3, 42, 95], [4, 37, 35], [4, 28, 102], [5, 400, 48],
            [5, 120, 54], [6, 8, 52, 64, 96, 128], [7, 255, 55], [7, 400, 127]]
            (nat x_1.2.1) (none' Int))),
          x.1, ()))
        fun (a : Bool × Unit) =>
        sel a.1
         (ck
          (inB x_1.2.1
           (len
            [[1, 2, 25], [1, 3, 22, 49, 70], [1, 4, 13, 14, 18], [1, 6, 3, 11, 12, 15], [1, 10, 7],
            [1, 12, 4], [1, 16, 53], [1, 42, 90], [2, 19, 2], [2, 11, 32, 100], [3, 12, 37], [3, 6, 38],
            [3, 2, 39], [3, 8, 41], [3, 15, 42], [3, 42, 95], [4, 37, 35], [4, 28, 102], [5, 400, 48],
            [5, 120, 54], [6, 8, 52, 64, 96, 128], [7, 255, 55], [7, 400, 127]]))
          (ck
           (inB 0
            (len
            (nth
            [[1, 2, 25], [1, 3, 22, 49, 70], [1, 4, 13, 14, 18], [1, 6, 3, 11, 12, 15], [1, 10, 7],
            [1, 12, 4], [1, 16, 53], [1, 42, 90], [2, 19, 2], [2, 11, 32, 100], [3, 12, 37], [3, 6, 38],
            [3, 2, 39], [3, 8, 41], [3, 15, 42], [3, 42, 95], [4, 37, 35], [4, 28, 102], [5, 400, 48],
            [5, 120, 54], [6, 8, 52, 64, 96, 128], [7, 255, 55], [7, 400, 127]]
            (nat x_1.2.1) (none' Int))))
           (ck
            (inB x_1.2.1
            (len
            [[1, 2, 25], [1, 3, 22, 49, 70], [1, 4, 13, 14, 18], [1, 6, 3, 11, 12, 15], [1, 10, 7],
            [1, 12, 4], [1, 16, 53], [1, 42, 90], [2, 19, 2], [2, 11, 32, 100], [3, 12, 37], [3, 6, 38],
            [3, 2, 39], [3, 8, 41], [3, 15, 42], [3, 42, 95], [4, 37, 35], [4, 28, 102], [5, 400, 48],
            [5, 120, 54], [6, 8, 52, 64, 96, 128], [7, 255, 55], [7, 400, 127]]))
            (ck
            (inB 1
            (len
            (nth
            [[1, 2, 25], [1, 3, 22, 49, 70], [1, 4, 13, 14, 18], [1, 6, 3, 11, 12, 15], [1, 10, 7],
            [1, 12, 4], [1, 16, 53], [1, 42, 90], [2, 19, 2], [2, 11, 32, 100], [3, 12, 37],
            [3, 6, 38], [3, 2, 39], [3, 8, 41], [3, 15, 42], [3, 42, 95], [4, 37, 35], [4, 28, 102],
            [5, 400, 48], [5, 120, 54], [6, 8, 52, 64, 96, 128], [7, 255, 55], [7, 400, 127]]
            (nat x_1.2.1) (none' Int))))
            (some
            (LS.rt
            ((nth
            (nth
            [[1, 2, 25], [1, 3, 22, 49, 70], [1, 4, 13, 14, 18], [1, 6, 3, 11, 12, 15],
            [1, 10, 7], [1, 12, 4], [1, 16, 53], [1, 42, 90], [2, 19, 2], [2, 11, 32, 100],
            [3, 12, 37], [3, 6, 38], [3, 2, 39], [3, 8, 41], [3, 15, 42], [3, 42, 95],
            [4, 37, 35], [4, 28, 102], [5, 400, 48], [5, 120, 54], [6, 8, 52, 64, 96, 128],
            [7, 255, 55], [7, 400, 127]]
            (nat x_1.2.1) (none' Int))
            (nat 0) 0,
            nth
            (nth
            [[1, 2, 25], [1, 3, 22, 49, 70], [1, 4, 13, 14, 18], [1, 6, 3, 11, 12, 15],
            [1, 10, 7], [1, 12, 4], [1, 16, 53], [1, 42, 90], [2, 19, 2], [2, 11, 32, 100],
            [3, 12, 37], [3, 6, 38], [3, 2, 39], [3, 8, 41], [3, 15, 42], [3, 42, 95],
            [4, 37, 35], [4, 28, 102], [5, 400, 48], [5, 120, 54], [6, 8, 52, 64, 96, 128],
            [7, 255, 55], [7, 400, 127]]
            (nat x_1.2.1) (none' Int))
            (nat 1) 0,
            ()),
            true, ())))))))
         (some (LS.nx (x_1.1, i64 (iadd x_1.2.1 1), ()))))))
     (some (LS.ex 0 (x_1.1, x_1.2.1, ()))))
   (false, 0, ()))
  (fun (a : Bool × Int × Unit) => none)
  (fun (i : Nat) (a : Bool × Int × Unit) => ck (neb i 0) (some ((0, 0, ()), false, ())))
  fun (r : (Int × Int × Unit) × Bool × Unit) => some r
noncomputable def ref05_fits (x : (Int × Int × Unit) × List UInt8 × Unit) : Option (Bool × Unit) :=
  lc
  (loop
   (fun (x_1 : Bool × Int × Unit) =>
    sel (lt x_1.2.1 (len x.2.1))
     (ob
      (sel (le x.1.1 2)
       (ck (inB x_1.2.1 (len x.2.1))
        (sel (lt (n8 (nth x.2.1 (nat x_1.2.1) (u8 0))) (n8 (u8 48))) (some (true, ()))
         (ck (inB x_1.2.1 (len x.2.1))
          (sel (lt (n8 (u8 57)) (n8 (nth x.2.1 (nat x_1.2.1) (u8 0)))) (some (true, ()))
           (sel (le 3 x.1.1)
            (sel (le x.1.1 5)
            (ck (inB x_1.2.1 (len x.2.1))
            (sel (lt (n8 (nth x.2.1 (nat x_1.2.1) (u8 0))) (n8 (u8 32))) (some (true, ()))
            (ck (inB x_1.2.1 (len x.2.1))
            (some (lt (n8 (u8 126)) (n8 (nth x.2.1 (nat x_1.2.1) (u8 0))), ())))))
            (some (false, ())))
            (some (false, ())))))))
       (sel (le 3 x.1.1)
        (sel (le x.1.1 5)
         (ck (inB x_1.2.1 (len x.2.1))
          (sel (lt (n8 (nth x.2.1 (nat x_1.2.1) (u8 0))) (n8 (u8 32))) (some (true, ()))
           (ck (inB x_1.2.1 (len x.2.1))
            (some (lt (n8 (u8 126)) (n8 (nth x.2.1 (nat x_1.2.1) (u8 0))), ())))))
         (some (false, ())))
        (some (false, ()))))
      fun (a : Bool × Unit) =>
      sel a.1 (some (LS.rt (false, ()))) (some (LS.nx (x_1.1, i64 (iadd x_1.2.1 1), ()))))
     (some (LS.ex 0 (x_1.1, x_1.2.1, ()))))
   (false, 0, ()))
  (fun (a : Bool × Int × Unit) => none)
  (fun (i : Nat) (a : Bool × Int × Unit) =>
   ck (neb i 0)
    (ob
     (sel (beq x.1.1 1) (some (true, ())) (sel (beq x.1.1 3) (some (true, ())) (some (beq x.1.1 6, ()))))
     fun (a : Bool × Unit) =>
     sel a.1 (some (beq (len x.2.1) x.1.2.1, ()))
      (ob (sel (le 1 (len x.2.1)) (some (le (len x.2.1) x.1.2.1, ())) (some (false, ())))
       fun (a : Bool × Unit) => some (a.1, ()))))
  fun (r : Bool × Unit) => some r
noncomputable def ref05_count (x : Int × Unit) : Option (Int × Unit) :=
  ob (sel (beq x.1 2) (some (true, ())) (some (beq x.1 4, ()))) fun (a : Bool × Unit) =>
  sel a.1 (some (2, ()))
   (ob (sel (beq x.1 5) (some (true, ())) (some (beq x.1 7, ()))) fun (a : Bool × Unit) =>
    sel a.1 (some (3, ())) (some (0, ())))
noncomputable def ref05_Write (x : Int × List UInt8 × Unit) : Option (List UInt8 × Int × Unit) :=
  ob (ref05_Of (x.1, ())) fun (a : (Int × Int × Unit) × Bool × Unit) =>
  sel (bnot a.2.1) (some (none' UInt8, 12, ()))
   (ob (ref05_fits (a.1, x.2.1, ())) fun (a_1 : Bool × Unit) =>
    sel (bnot a_1.1) (some (none' UInt8, 1, ()))
     (ob (ref05_count (a.1.1, ())) fun (a_2 : Int × Unit) =>
      sel (lt 0 a_2.1)
       (ob (ref05_count (a.1.1, ())) fun (a_3 : Int × Unit) =>
        ob (ref01_Digits (len x.2.1, a_3.1, ())) fun (a_4 : List UInt8 × Int × Unit) =>
         ob (ref01_Bcd (a_4.1, ())) fun (a_5 : List UInt8 × Int × Unit) =>
          sel (le a.1.1 2)
           (ob (ref01_Bcd (x.2.1, ())) fun (a : List UInt8 × Int × Unit) =>
            ck (rm 1 (nadd (ln (none' UInt8)) (ln a_5.1)))
            (ck (rm 1 (nadd (ln (app (none' UInt8) a_5.1)) (ln a.1)))
            (some (app (app (none' UInt8) a_5.1) a.1, 0, ()))))
           (ck (rm 1 (nadd (ln (none' UInt8)) (ln a_5.1)))
            (ck (rm 1 (nadd (ln (app (none' UInt8) a_5.1)) (ln x.2.1)))
            (some (app (app (none' UInt8) a_5.1) x.2.1, 0, ())))))
       (sel (le a.1.1 2)
        (ob (ref01_Bcd (x.2.1, ())) fun (a : List UInt8 × Int × Unit) =>
         ck (rm 1 (nadd (ln (none' UInt8)) (ln (none' UInt8))))
          (ck (rm 1 (nadd (ln (app (none' UInt8) (none' UInt8))) (ln a.1)))
           (some (app (app (none' UInt8) (none' UInt8)) a.1, 0, ()))))
        (ck (rm 1 (nadd (ln (none' UInt8)) (ln (none' UInt8))))
         (ck (rm 1 (nadd (ln (app (none' UInt8) (none' UInt8))) (ln x.2.1)))
          (some (app (app (none' UInt8) (none' UInt8)) x.2.1, 0, ())))))))
noncomputable def ref05_Fits (x : Int × List UInt8 × Unit) : Option (Bool × Unit) :=
  ob (ref05_Of (x.1, ())) fun (a : (Int × Int × Unit) × Bool × Unit) =>
  ob (ref05_fits (a.1, x.2.1, ())) fun (a_1 : Bool × Unit) =>
   ob (sel a.2.1 (some (a_1.1, ())) (some (false, ()))) fun (a : Bool × Unit) => some (a.1, ())
noncomputable def law05_FieldTells (x : Int × List UInt8 × Unit) : Option (Bool × Unit) :=
  ob (law05_shown ()) fun (a : Bool × Unit) =>
  sel (lt 500 (len x.2.1)) (some (a.1, ()))
   (ob (field_Of (x.1, ())) fun (a_1 : (Int × Int × Unit) × Bool × Unit) =>
    ob (ref05_Of (x.1, ())) fun (a_2 : (Int × Int × Unit) × Bool × Unit) =>
     ob (field_Write (x.1, x.2.1, ())) fun (a_3 : List UInt8 × Int × Unit) =>
      ob (ref05_Write (x.1, x.2.1, ())) fun (a_4 : List UInt8 × Int × Unit) =>
       ob
        (sel a.1
         (sel (band (beq a_1.1.1 a_2.1.1) (band (beq a_1.1.2.1 a_2.1.2.1) true))
          (sel (beb a_1.2.1 a_2.2.1)
           (ob (field_Fits (x.1, x.2.1, ())) fun (a : Bool × Unit) =>
            ob (ref05_Fits (x.1, x.2.1, ())) fun (a_5 : Bool × Unit) =>
            sel (beb a.1 a_5.1)
            (ob (ref01_Same (a_3.1, a_4.1, ())) fun (a : Bool × Unit) =>
            sel a.1 (some (beq a_3.2.1 a_4.2.1, ())) (some (false, ())))
            (some (false, ())))
           (some (false, ())))
          (some (false, ())))
         (some (false, ())))
        fun (a : Bool × Unit) => some (a.1, ()))
noncomputable def ref05_Read (x : Int × List UInt8 × Int × Unit) : Option (List UInt8 × Int × Int × Unit) :=
  ob (ref05_Of (x.1, ())) fun (a : (Int × Int × Unit) × Bool × Unit) =>
  sel (bnot a.2.1) (some (none' UInt8, 0, 12, ()))
   (ob (sel (lt x.2.2.1 0) (some (true, ())) (some (lt (len x.2.1) x.2.2.1, ())))
    fun (a_1 : Bool × Unit) =>
    sel a_1.1 (some (none' UInt8, 0, 1, ()))
     (ob (ref05_count (a.1.1, ())) fun (a_2 : Int × Unit) =>
      sel (lt 0 a_2.1)
       (ob (ref05_count (a.1.1, ())) fun (a_3 : Int × Unit) =>
        ob (ref01_TakeBcd (x.2.1, x.2.2.1, a_3.1, ())) fun (a_4 : List UInt8 × Int × Int × Unit) =>
         sel (bnot (beq a_4.2.2.1 0)) (some (none' UInt8, 0, a_4.2.2.1, ()))
          (ob (ref01_Value (a_4.1, ())) fun (a_5 : Int × Int × Unit) =>
           ob (sel (lt a_5.1 1) (some (true, ())) (some (lt a.1.2.1 a_5.1, ())))
            fun (a_6 : Bool × Unit) =>
            sel a_6.1 (some (none' UInt8, 0, 2, ()))
            (ob (sel (le a.1.1 2) (some (i64 (idiv (i64 (iadd a_5.1 1)) 2), ())) (some (a_5.1, ())))
            fun (a_7 : Int × Unit) =>
            sel (lt (i64 (isub (len x.2.1) a_4.2.1)) a_7.1) (some (none' UInt8, 0, 3, ()))
            (ck (inC a_4.2.1 (i64 (iadd a_4.2.1 a_7.1)) (len x.2.1))
            (ck
            (rm 1
            (nadd (ln (none' UInt8))
            (ln (sub x.2.1 a_4.2.1 (i64 (iadd a_4.2.1 a_7.1))))))
            (sel (le a.1.1 2)
            (ob (ref01_TakeBcd (x.2.1, a_4.2.1, a_5.1, ()))
            fun (a_8 : List UInt8 × Int × Int × Unit) =>
            sel (bnot (beq a_8.2.2.1 0)) (some (none' UInt8, 0, 2, ()))
            (ck (rm 1 (ln a_8.1))
            (ob (ref05_fits (a.1, a_8.1, ())) fun (a : Bool × Unit) =>
            sel (bnot a.1) (some (none' UInt8, 0, 2, ()))
            (some (a_8.1, i64 (iadd a_4.2.1 a_7.1), 0, ())))))
            (ob
            (ref05_fits
            (a.1,
            app (none' UInt8) (sub x.2.1 a_4.2.1 (i64 (iadd a_4.2.1 a_7.1))),
            ()))
            fun (a : Bool × Unit) =>
            sel (bnot a.1) (some (none' UInt8, 0, 2, ()))
            (some
            (app (none' UInt8) (sub x.2.1 a_4.2.1 (i64 (iadd a_4.2.1 a_7.1))),
            i64 (iadd a_4.2.1 a_7.1), 0, ())))))))))
       (ob (sel (le a.1.1 2) (some (i64 (idiv (i64 (iadd a.1.2.1 1)) 2), ())) (some (a.1.2.1, ())))
        fun (a_3 : Int × Unit) =>
        sel (lt (i64 (isub (len x.2.1) x.2.2.1)) a_3.1) (some (none' UInt8, 0, 3, ()))
         (ck (inC x.2.2.1 (i64 (iadd x.2.2.1 a_3.1)) (len x.2.1))
          (ck
           (rm 1
            (nadd (ln (none' UInt8)) (ln (sub x.2.1 x.2.2.1 (i64 (iadd x.2.2.1 a_3.1))))))
           (sel (le a.1.1 2)
            (ob (ref01_TakeBcd (x.2.1, x.2.2.1, a.1.2.1, ()))
            fun (a_4 : List UInt8 × Int × Int × Unit) =>
            sel (bnot (beq a_4.2.2.1 0)) (some (none' UInt8, 0, 2, ()))
            (ck (rm 1 (ln a_4.1))
            (ob (ref05_fits (a.1, a_4.1, ())) fun (a : Bool × Unit) =>
            sel (bnot a.1) (some (none' UInt8, 0, 2, ()))
            (some (a_4.1, i64 (iadd x.2.2.1 a_3.1), 0, ())))))
            (ob
            (ref05_fits
            (a.1, app (none' UInt8) (sub x.2.1 x.2.2.1 (i64 (iadd x.2.2.1 a_3.1))),
            ()))
            fun (a : Bool × Unit) =>
            sel (bnot a.1) (some (none' UInt8, 0, 2, ()))
            (some
            (app (none' UInt8) (sub x.2.1 x.2.2.1 (i64 (iadd x.2.2.1 a_3.1))),
            i64 (iadd x.2.2.1 a_3.1), 0, ())))))))))
noncomputable def law05_FieldReads (x : Int × List UInt8 × Int × Unit) : Option (Bool × Unit) :=
  ob (law05_shown ()) fun (a : Bool × Unit) =>
  sel (lt 500 (len x.2.1)) (some (a.1, ()))
   (ob (field_Read (x.1, x.2.1, x.2.2.1, ())) fun (a_1 : List UInt8 × Int × Int × Unit) =>
    ob (ref05_Read (x.1, x.2.1, x.2.2.1, ())) fun (a_2 : List UInt8 × Int × Int × Unit) =>
     ob
      (sel a.1
       (ob (ref01_Same (a_1.1, a_2.1, ())) fun (a : Bool × Unit) =>
        sel a.1
         (sel (beq a_1.2.1 a_2.2.1) (some (beq a_1.2.2.1 a_2.2.2.1, ())) (some (false, ())))
         (some (false, ())))
       (some (false, ())))
      fun (a : Bool × Unit) => some (a.1, ()))
noncomputable def law05_FieldBack (x : (Int × List UInt8 × List UInt8 × UInt8 × Unit) × Unit) : Option (Bool × Unit) :=
  ob (law05_shown ()) fun (a : Bool × Unit) =>
  ob (sel (lt 500 (len x.1.2.1)) (some (true, ())) (some (lt 500 (len x.1.2.2.1), ())))
   fun (a_1 : Bool × Unit) =>
   sel a_1.1 (some (a.1, ()))
    (ob (field_Write (x.1.1, x.1.2.1, ())) fun (a_2 : List UInt8 × Int × Unit) =>
     ob (field_Fits (x.1.1, x.1.2.1, ())) fun (a_3 : Bool × Unit) =>
      sel (bnot (beb (beq a_2.2.1 0) a_3.1)) (some (false, ()))
       (sel (beq a_2.2.1 0)
        (ck (rm 1 (nadd (ln (none' UInt8)) (ln a_2.1)))
         (ck (rm 1 (nadd (ln (app (none' UInt8) a_2.1)) (ln x.1.2.2.1)))
          (ob (field_Read (x.1.1, app (app (none' UInt8) a_2.1) x.1.2.2.1, 0, ()))
           fun (a_4 : List UInt8 × Int × Int × Unit) =>
           ob
            (sel (bnot (beq a_4.2.2.1 0)) (some (true, ()))
            (sel (bnot (beq a_4.2.1 (len a_2.1))) (some (true, ()))
            (ob (ref01_Same (a_4.1, x.1.2.1, ())) fun (a : Bool × Unit) =>
            some (bnot a.1, ()))))
            fun (a_5 : Bool × Unit) =>
            sel a_5.1 (some (false, ()))
            (ck (bnot (beq (i64 (iadd (len x.1.2.2.1) 1)) 0))
            (ob
            (field_Read
            (x.1.1, x.1.2.2.1,
            imod (i64 (n8 x.1.2.2.2.1)) (i64 (iadd (len x.1.2.2.1) 1)), ()))
            fun (a_6 : List UInt8 × Int × Int × Unit) =>
            sel (bnot (beq a_6.2.2.1 0))
            (ob
            (sel a.1 (sel (beq (len a_6.1) 0) (some (beq a_6.2.1 0, ())) (some (false, ())))
            (some (false, ())))
            fun (a : Bool × Unit) => some (a.1, ()))
            (ob (field_Write (x.1.1, a_6.1, ())) fun (a_7 : List UInt8 × Int × Unit) =>
            ob
            (sel a.1
            (sel (beq a_7.2.1 0)
            (ob (field_Fits (x.1.1, a_6.1, ())) fun (a : Bool × Unit) =>
            sel a.1
            (sel
            (le
            (imod (i64 (n8 x.1.2.2.2.1))
            (i64 (iadd (len x.1.2.2.1) 1)))
            a_6.2.1)
            (sel (le a_6.2.1 (len x.1.2.2.1))
            (ck
            (inC
            (imod (i64 (n8 x.1.2.2.2.1))
            (i64 (iadd (len x.1.2.2.1) 1)))
            a_6.2.1 (len x.1.2.2.1))
            (ob
            (ref01_Same
            (a_7.1,
            sub x.1.2.2.1
            (imod (i64 (n8 x.1.2.2.2.1))
            (i64 (iadd (len x.1.2.2.1) 1)))
            a_6.2.1,
            ()))
            fun (a : Bool × Unit) => some (a.1, ())))
            (some (false, ())))
            (some (false, ())))
            (some (false, ())))
            (some (false, ())))
            (some (false, ())))
            fun (a : Bool × Unit) => some (a.1, ())))))))
        (ck (bnot (beq (i64 (iadd (len x.1.2.2.1) 1)) 0))
         (ob
          (field_Read
           (x.1.1, x.1.2.2.1,
            imod (i64 (n8 x.1.2.2.2.1)) (i64 (iadd (len x.1.2.2.1) 1)), ()))
          fun (a_4 : List UInt8 × Int × Int × Unit) =>
          sel (bnot (beq a_4.2.2.1 0))
           (ob
            (sel a.1 (sel (beq (len a_4.1) 0) (some (beq a_4.2.1 0, ())) (some (false, ())))
            (some (false, ())))
            fun (a : Bool × Unit) => some (a.1, ()))
           (ob (field_Write (x.1.1, a_4.1, ())) fun (a_5 : List UInt8 × Int × Unit) =>
            ob
            (sel a.1
            (sel (beq a_5.2.1 0)
            (ob (field_Fits (x.1.1, a_4.1, ())) fun (a : Bool × Unit) =>
            sel a.1
            (sel
            (le (imod (i64 (n8 x.1.2.2.2.1)) (i64 (iadd (len x.1.2.2.1) 1)))
            a_4.2.1)
            (sel (le a_4.2.1 (len x.1.2.2.1))
            (ck
            (inC
            (imod (i64 (n8 x.1.2.2.2.1)) (i64 (iadd (len x.1.2.2.1) 1)))
            a_4.2.1 (len x.1.2.2.1))
            (ob
            (ref01_Same
            (a_5.1,
            sub x.1.2.2.1
            (imod (i64 (n8 x.1.2.2.2.1))
            (i64 (iadd (len x.1.2.2.1) 1)))
            a_4.2.1,
            ()))
            fun (a : Bool × Unit) => some (a.1, ())))
            (some (false, ())))
            (some (false, ())))
            (some (false, ())))
            (some (false, ())))
            (some (false, ())))
            fun (a : Bool × Unit) => some (a.1, ()))))))
noncomputable def law05_FieldApart (x : Int × List UInt8 × List UInt8 × Unit) : Option (Bool × Unit) :=
  ob (law05_shown ()) fun (a : Bool × Unit) =>
  ob (sel (lt 500 (len x.2.1)) (some (true, ())) (some (lt 500 (len x.2.2.1), ()))) fun (a_1 : Bool × Unit) =>
   sel a_1.1 (some (a.1, ()))
    (ob (field_Write (x.1, x.2.1, ())) fun (a_2 : List UInt8 × Int × Unit) =>
     ob (field_Write (x.1, x.2.2.1, ())) fun (a_3 : List UInt8 × Int × Unit) =>
      ob (sel (bnot (beq a_2.2.1 0)) (some (true, ())) (some (bnot (beq a_3.2.1 0), ())))
       fun (a_4 : Bool × Unit) =>
       sel a_4.1 (some (a.1, ()))
        (ob
         (sel a.1
          (ck (inC 0 (minI (len a_2.1) (len a_3.1)) (len a_2.1))
           (ck (inC 0 (minI (len a_2.1) (len a_3.1)) (len a_3.1))
            (ob
            (ref01_Same
            (cut a_2.1 (nat 0) (nsub (nat (minI (len a_2.1) (len a_3.1))) (nat 0)),
            cut a_3.1 (nat 0) (nsub (nat (minI (len a_2.1) (len a_3.1))) (nat 0)), ()))
            fun (a : Bool × Unit) =>
            ob (ref01_Same (x.2.1, x.2.2.1, ())) fun (a_5 : Bool × Unit) =>
            some (beb a.1 a_5.1, ()))))
          (some (false, ())))
         fun (a : Bool × Unit) => some (a.1, ())))
noncomputable def law05_FieldCuts (x : (Int × List UInt8 × UInt16 × Int × Unit) × Unit) : Option (Bool × Unit) :=
  ob (law05_shown ()) fun (a : Bool × Unit) =>
  sel (lt 500 (len x.1.2.1)) (some (a.1, ()))
   (ob (field_Write (x.1.1, x.1.2.1, ())) fun (a_1 : List UInt8 × Int × Unit) =>
    ob (field_Of (x.1.1, ())) fun (a_2 : (Int × Int × Unit) × Bool × Unit) =>
     sel (bnot (beb (beq a_1.2.1 12) (bnot a_2.2.1))) (some (false, ()))
      (ob (field_Read (x.1.1, a_1.1, x.1.2.2.2.1, ())) fun (a_3 : List UInt8 × Int × Int × Unit) =>
       sel (bnot a_2.2.1)
        (ob (sel a.1 (some (beq a_3.2.2.1 12, ())) (some (false, ()))) fun (a : Bool × Unit) =>
         some (a.1, ()))
        (ob
         (sel (lt x.1.2.2.2.1 0) (some (bnot (beb (beq a_3.2.2.1 1) true), ()))
          (some (bnot (beb (beq a_3.2.2.1 1) (lt (len a_1.1) x.1.2.2.2.1)), ())))
         fun (a_4 : Bool × Unit) =>
         sel a_4.1 (some (false, ()))
          (ob (sel (bnot (beq a_1.2.1 0)) (some (true, ())) (some (beq (len a_1.1) 0, ())))
           fun (a_5 : Bool × Unit) =>
           sel a_5.1
            (ob (sel a.1 (some (bnot (beq a_1.2.1 0), ())) (some (false, ()))) fun (a : Bool × Unit) =>
            some (a.1, ()))
            (ck (bnot (beq (len a_1.1) 0))
            (ck (inC 0 (imod (i64 (n16 x.1.2.2.1)) (len a_1.1)) (len a_1.1))
            (ob
            (field_Read
            (x.1.1, sub a_1.1 0 (imod (i64 (n16 x.1.2.2.1)) (len a_1.1)), 0, ()))
            fun (a_6 : List UInt8 × Int × Int × Unit) =>
            ob (sel a.1 (some (beq a_6.2.2.1 3, ())) (some (false, ())))
            fun (a : Bool × Unit) => some (a.1, ()))))))))
noncomputable def law05_FieldLong (x : Int × List UInt8 × Unit) : Option (Bool × Unit) :=
  ob (law05_shown ()) fun (a : Bool × Unit) =>
  sel (lt 500 (len x.2.1)) (some (a.1, ()))
   (ob (field_Of (x.1, ())) fun (a_1 : (Int × Int × Unit) × Bool × Unit) =>
    ob (field_Write (x.1, x.2.1, ())) fun (a_2 : List UInt8 × Int × Unit) =>
     sel (bnot (beq a_2.2.1 0))
      (ob (sel a.1 (some (beq (len a_2.1) 0, ())) (some (false, ()))) fun (a : Bool × Unit) => some (a.1, ()))
      (ob (sel (beq a_1.1.1 1) (some (true, ())) (some (beq a_1.1.1 2, ()))) fun (a_3 : Bool × Unit) =>
       ob (sel a_3.1 (some (i64 (idiv (i64 (iadd (len x.2.1) 1)) 2), ())) (some (len x.2.1, ())))
        fun (a_4 : Int × Unit) =>
        sel (beq a_1.1.1 2)
         (ob
          (sel (beq a_1.1.1 2) (some (i64 (iadd a_4.1 1), ()))
           (sel (beq a_1.1.1 5)
            (ob (sel (beq a_1.1.1 5) (some (i64 (iadd a_4.1 2), ())) (some (a_4.1, ())))
            fun (a : Int × Unit) => some (a.1, ()))
            (ob (sel (beq a_1.1.1 7) (some (i64 (iadd a_4.1 2), ())) (some (a_4.1, ())))
            fun (a : Int × Unit) => some (a.1, ()))))
          fun (a_5 : Int × Unit) =>
          ob
           (sel a.1
            (sel a_1.2.1
            (sel (beq (len a_2.1) a_5.1)
            (sel (le (len x.2.1) a_1.1.2.1)
            (sel (lt 0 (len x.2.1))
            (sel (le 1 a_1.1.1) (some (le a_1.1.1 7, ())) (some (false, ())))
            (some (false, ())))
            (some (false, ())))
            (some (false, ())))
            (some (false, ())))
            (some (false, ())))
           fun (a : Bool × Unit) => some (a.1, ()))
         (ob
          (sel (beq a_1.1.1 4) (some (i64 (iadd a_4.1 1), ()))
           (sel (beq a_1.1.1 5)
            (ob (sel (beq a_1.1.1 5) (some (i64 (iadd a_4.1 2), ())) (some (a_4.1, ())))
            fun (a : Int × Unit) => some (a.1, ()))
            (ob (sel (beq a_1.1.1 7) (some (i64 (iadd a_4.1 2), ())) (some (a_4.1, ())))
            fun (a : Int × Unit) => some (a.1, ()))))
          fun (a_5 : Int × Unit) =>
          ob
           (sel a.1
            (sel a_1.2.1
            (sel (beq (len a_2.1) a_5.1)
            (sel (le (len x.2.1) a_1.1.2.1)
            (sel (lt 0 (len x.2.1))
            (sel (le 1 a_1.1.1) (some (le a_1.1.1 7, ())) (some (false, ())))
            (some (false, ())))
            (some (false, ())))
            (some (false, ())))
            (some (false, ())))
            (some (false, ())))
           fun (a : Bool × Unit) => some (a.1, ()))))
noncomputable def law05_FieldSigns (x : (Int × List UInt8 × UInt16 × UInt8 × Unit) × Unit) : Option (Bool × Unit) :=
  ob (law05_shown ()) fun (a : Bool × Unit) =>
  sel (lt 500 (len x.1.2.1)) (some (a.1, ()))
   (ob (field_Of (x.1.1, ())) fun (a_1 : (Int × Int × Unit) × Bool × Unit) =>
    ob
     (sel (bnot a_1.2.1) (some (true, ()))
      (ob (field_Fits (x.1.1, x.1.2.1, ())) fun (a : Bool × Unit) =>
       sel (bnot a.1) (some (true, ())) (some (beq (len x.1.2.1) 0, ()))))
     fun (a_2 : Bool × Unit) =>
     sel a_2.1
      (ob
       (sel a.1
        (sel a_1.2.1 (some (true, ()))
         (ob (field_Fits (x.1.1, x.1.2.1, ())) fun (a : Bool × Unit) => some (bnot a.1, ())))
        (some (false, ())))
       fun (a : Bool × Unit) => some (a.1, ()))
      (ck (rm 1 (nadd (ln (none' UInt8)) (ln x.1.2.1)))
       (ck (bnot (beq (len x.1.2.1) 0))
        (ck (inB (imod (i64 (n16 x.1.2.2.1)) (len x.1.2.1)) (len (app (none' UInt8) x.1.2.1)))
         (ob
          (sel (beq a_1.1.1 6) (some (true, ()))
           (sel (beq a_1.1.1 7) (some (true, ()))
            (sel (le (n8 (u8 48)) (n8 x.1.2.2.2.1))
            (sel (le (n8 x.1.2.2.2.1) (n8 (u8 57))) (some (true, ()))
            (sel (bnot (beq a_1.1.1 1))
            (sel (bnot (beq a_1.1.1 2))
            (sel (le (n8 (u8 32)) (n8 x.1.2.2.2.1))
            (some (le (n8 x.1.2.2.2.1) (n8 (u8 126)), ())) (some (false, ())))
            (some (false, ())))
            (some (false, ()))))
            (sel (bnot (beq a_1.1.1 1))
            (sel (bnot (beq a_1.1.1 2))
            (sel (le (n8 (u8 32)) (n8 x.1.2.2.2.1))
            (some (le (n8 x.1.2.2.2.1) (n8 (u8 126)), ())) (some (false, ())))
            (some (false, ())))
            (some (false, ()))))))
          fun (a_3 : Bool × Unit) =>
          ob
           (sel a.1
            (ob
            (field_Fits
            (x.1.1,
            upd (app (none' UInt8) x.1.2.1)
            (nat (imod (i64 (n16 x.1.2.2.1)) (len x.1.2.1))) x.1.2.2.2.1,
            ()))
            fun (a : Bool × Unit) => some (beb a.1 a_3.1, ()))
            (some (false, ())))
           fun (a : Bool × Unit) => some (a.1, ()))))))
end Yp


namespace Yp
open Go
def bt (c : UInt8) (t : Nat) : Bool := c.toNat.testBit (7 - t)
def hasB (b : List UInt8) (n : Nat) : Bool := bt (nth b ((n - 1) / 8) (u8 0)) ((n - 1) % 8)
def numsB (b : List UInt8) : List Nat := (List.range (8 * b.length + 1)).filter fun n => Nat.ble 2 n && hasB b n
def bmC (c : List UInt8) (a : Int) : List Int × Int × Int × Unit :=
  if c.length < 8 ∨ (hasB c 1 = true ∧ c.length < 16) then ([], 0, 3, ())
  else if hasB c 1 = true then
    (if 65 ∈ numsB (c.take 16) ∨ ∀ n ∈ numsB (c.take 16), n < 65 then ([], 0, 2, ()) else ((numsB (c.take 16)).map Int.ofNat, a + 16, 0, ()))
  else ((numsB (c.take 8)).map Int.ofNat, a + 8, 0, ())
def bmR (b : List UInt8) (a : Int) : List Int × Int × Int × Unit := if a < 0 ∨ (b.length : Int) < a then ([], 0, 1, ()) else bmC (b.drop a.toNat) a
def bitmap_Read (x : List UInt8 × Int × Unit) : Option (List Int × Int × Int × Unit) := some (bmR x.1 x.2.1)
end Yp

namespace Yp
open Go
noncomputable def iso_figure (x : Int × Int × Unit) : Option (Int × Unit) :=
  lc
  (loop
   (fun (x_1 : Int × Int × Unit) =>
    sel (lt x_1.2.1 x.2.1) (some (LS.nx (i64 (idiv x_1.1 10), i64 (iadd x_1.2.1 1), ())))
     (some (LS.ex 0 (x_1.1, x_1.2.1, ()))))
   (x.1, 0, ()))
  (fun (a : Int × Int × Unit) => none) (fun (i : Nat) (a : Int × Int × Unit) => ck (neb i 0) (some (imod a.1 10, ())))
  fun (r : Int × Unit) => some r
noncomputable def iso_Type (x : Int × Unit) : Option (Bool × Unit) :=
  ob (sel (lt x.1 0) (some (true, ())) (some (lt 999 x.1, ()))) fun (a : Bool × Unit) =>
  sel a.1 (some (false, ()))
   (ob (iso_figure (x.1, 2, ())) fun (a : Int × Unit) =>
    ob
     (sel (le 1 a.1)
      (sel (le a.1 8)
       (ob (iso_figure (x.1, 1, ())) fun (a : Int × Unit) =>
        sel (le a.1 4) (ob (iso_figure (x.1, 0, ())) fun (a : Int × Unit) => some (le a.1 5, ()))
         (some (false, ())))
       (some (false, ())))
      (some (false, ())))
     fun (a : Bool × Unit) => some (a.1, ()))
noncomputable def iso_Right (x : (Int × List (Int × List UInt8 × Unit) × Unit) × Unit) : Option (Bool × Unit) :=
  lc
  (loop
   (fun (x_1 : Bool × Int × Int × Unit) =>
    sel (lt x_1.2.2.1 (len x.1.2.1))
     (ck (inB x_1.2.2.1 (len x.1.2.1))
      (ob
       (sel (le (nth x.1.2.1 (nat x_1.2.2.1) (0, none' UInt8, ())).1 x_1.2.1) (some (true, ()))
        (ob
         (field_Fits
          ((nth x.1.2.1 (nat x_1.2.2.1) (0, none' UInt8, ())).1,
           (nth x.1.2.1 (nat x_1.2.2.1) (0, none' UInt8, ())).2.1, ()))
         fun (a : Bool × Unit) => some (bnot a.1, ())))
       fun (a : Bool × Unit) =>
       sel a.1 (some (LS.rt (false, ())))
        (some
         (LS.nx
          (x_1.1, (nth x.1.2.1 (nat x_1.2.2.1) (0, none' UInt8, ())).1,
           i64 (iadd x_1.2.2.1 1), ())))))
     (some (LS.ex 0 (x_1.1, x_1.2.1, x_1.2.2.1, ()))))
   (false, 0, 0, ()))
  (fun (a : Bool × Int × Int × Unit) => none)
  (fun (i : Nat) (a : Bool × Int × Int × Unit) =>
   ck (neb i 0) (ob (iso_Type (x.1.1, ())) fun (a : Bool × Unit) => some (a.1, ())))
  fun (r : Bool × Unit) => some r
noncomputable def bytes_Equal (x : List UInt8 × List UInt8 × Unit) : Option (Bool × Unit) :=
  some (seq x.1 x.2.1, ())
noncomputable def iso_Same_1 (x : (Int × List UInt8 × Unit) × (Int × List UInt8 × Unit) × Unit) : Option (Bool × Unit) :=
  ob
  (sel (beq x.1.1 x.2.1.1)
   (ob (bytes_Equal (x.1.2.1, x.2.1.2.1, ())) fun (a : Bool × Unit) => some (a.1, ()))
   (some (false, ())))
  fun (a : Bool × Unit) => some (a.1, ())
noncomputable def bitmap_Right (x : List Int × Unit) : Option (Bool × Unit) :=
  lc
  (loop
   (fun (x_1 : Bool × Int × Int × Unit) =>
    sel (lt x_1.2.2.1 (len x.1))
     (ck (inB x_1.2.2.1 (len x.1))
      (ob
       (sel (le (nth x.1 (nat x_1.2.2.1) 0) x_1.2.1) (some (true, ()))
        (sel (lt 128 (nth x.1 (nat x_1.2.2.1) 0)) (some (true, ()))
         (some (beq (nth x.1 (nat x_1.2.2.1) 0) 65, ()))))
       fun (a : Bool × Unit) =>
       sel a.1 (some (LS.rt (false, ())))
        (some (LS.nx (x_1.1, nth x.1 (nat x_1.2.2.1) 0, i64 (iadd x_1.2.2.1 1), ())))))
     (some (LS.ex 0 (x_1.1, x_1.2.1, x_1.2.2.1, ()))))
   (false, 1, 0, ()))
  (fun (a : Bool × Int × Int × Unit) => none)
  (fun (i : Nat) (a : Bool × Int × Int × Unit) => ck (neb i 0) (some (true, ()))) fun (r : Bool × Unit) => some r
noncomputable def bitmap_Place (x : Int × Unit) : Option (Int × UInt8 × Unit) :=
  ob (sel (lt x.1 1) (some (true, ())) (some (lt 128 x.1, ()))) fun (a : Bool × Unit) =>
  sel a.1 (some (0, u8 0, ()))
   (ck (le 0 (imod (i64 (isub x.1 1)) 8))
    (some (i64 (idiv (i64 (isub x.1 1)) 8), u8 (shrI IntKind.u8 (n8 (u8 128)) (imod (i64 (isub x.1 1)) 8)), ())))
noncomputable def bitmap_Write (x : List Int × Unit) : Option (List UInt8 × Int × Unit) :=
  ob (bitmap_Right (x.1, ())) fun (a : Bool × Unit) =>
  sel (bnot a.1) (some (none' UInt8, 1, ()))
   (ck (band (inC 0 8 8) (rm 1 (nat 8)))
    (ob
     (sel (lt 0 (len x.1))
      (ck (inB (i64 (isub (len x.1) 1)) (len x.1))
       (some (lt 64 (nth x.1 (nat (i64 (isub (len x.1) 1))) 0), ())))
      (some (false, ())))
     fun (a : Bool × Unit) =>
     sel a.1
      (ck (band (inC 0 16 16) (rm 1 (nat 16)))
       (ck (inB 0 (len (rep (nat 16) (u8 0))))
        (lc
         (loop
          (fun (x_1 : Int × List UInt8 × Unit) =>
           sel (lt x_1.1 (len x.1))
            (ck (inB x_1.1 (len x.1))
            (ob (bitmap_Place (nth x.1 (nat x_1.1) 0, ())) fun (a : Int × UInt8 × Unit) =>
            ck (inB a.1 (len x_1.2.1))
            (ck (inB a.1 (len x_1.2.1))
            (some
            (LS.nx
            (i64 (iadd x_1.1 1),
            upd x_1.2.1 (nat a.1)
            (u8 (orI IntKind.u8 (n8 (nth x_1.2.1 (nat a.1) (u8 0))) (n8 a.2.1))),
            ()))))))
            (some (LS.ex 0 (x_1.1, x_1.2.1, ()))))
          (0, upd (rep (nat 16) (u8 0)) (nat 0) (u8 128), ()))
         (fun (a : Int × List UInt8 × Unit) => none)
         (fun (i : Nat) (a : Int × List UInt8 × Unit) => ck (neb i 0) (some (a.2.1, 0, ())))
         fun (r : List UInt8 × Int × Unit) => some r)))
      (lc
       (loop
        (fun (x_1 : Int × List UInt8 × Unit) =>
         sel (lt x_1.1 (len x.1))
          (ck (inB x_1.1 (len x.1))
           (ob (bitmap_Place (nth x.1 (nat x_1.1) 0, ())) fun (a : Int × UInt8 × Unit) =>
            ck (inB a.1 (len x_1.2.1))
            (ck (inB a.1 (len x_1.2.1))
            (some
            (LS.nx
            (i64 (iadd x_1.1 1),
            upd x_1.2.1 (nat a.1)
            (u8 (orI IntKind.u8 (n8 (nth x_1.2.1 (nat a.1) (u8 0))) (n8 a.2.1))),
            ()))))))
          (some (LS.ex 0 (x_1.1, x_1.2.1, ()))))
        (0, rep (nat 8) (u8 0), ()))
       (fun (a : Int × List UInt8 × Unit) => none)
       (fun (i : Nat) (a : Int × List UInt8 × Unit) => ck (neb i 0) (some (a.2.1, 0, ())))
       fun (r : List UInt8 × Int × Unit) => some r)))
noncomputable def iso_Write (x : (Int × List (Int × List UInt8 × Unit) × Unit) × Unit) : Option (List UInt8 × Int × Unit) :=
  ob (iso_Right (x.1, ())) fun (a : Bool × Unit) =>
  sel (bnot a.1) (some (none' UInt8, 1, ()))
   (ob (dig_Digits (x.1.1, 4, ())) fun (a : List UInt8 × Int × Unit) =>
    ob (dig_Bcd (a.1, ())) fun (a : List UInt8 × Int × Unit) =>
     lc
      (loop
       (fun (x_1 : List Int × Int × Unit) =>
        sel (lt x_1.2.1 (len x.1.2.1))
         (ck (inB x_1.2.1 (len x.1.2.1))
          (ck (rm 32 (nadd (ln x_1.1) (ln [(nth x.1.2.1 (nat x_1.2.1) (0, none' UInt8, ())).1])))
           (some
            (LS.nx
            (app x_1.1 [(nth x.1.2.1 (nat x_1.2.1) (0, none' UInt8, ())).1],
            i64 (iadd x_1.2.1 1), ())))))
         (some (LS.ex 0 (x_1.1, x_1.2.1, ()))))
       (none' Int, 0, ()))
      (fun (a : List Int × Int × Unit) => none)
      (fun (i : Nat) (a_1 : List Int × Int × Unit) =>
       ck (neb i 0)
        (ob (bitmap_Write (a_1.1, ())) fun (a_2 : List UInt8 × Int × Unit) =>
         ck (rm 1 (nadd (ln a.1) (ln a_2.1)))
          (lc
           (loop
            (fun (x_1 : List UInt8 × Int × Unit) =>
            sel (lt x_1.2.1 (len x.1.2.1))
            (ck (inB x_1.2.1 (len x.1.2.1))
            (ob
            (field_Write
            ((nth x.1.2.1 (nat x_1.2.1) (0, none' UInt8, ())).1,
            (nth x.1.2.1 (nat x_1.2.1) (0, none' UInt8, ())).2.1, ()))
            fun (a : List UInt8 × Int × Unit) =>
            ck (rm 1 (nadd (ln x_1.1) (ln a.1)))
            (some (LS.nx (app x_1.1 a.1, i64 (iadd x_1.2.1 1), ())))))
            (some (LS.ex 2 (x_1.1, x_1.2.1, ()))))
            (app a.1 a_2.1, 0, ()))
           (fun (a : List UInt8 × Int × Unit) => none)
           (fun (i : Nat) (a : List UInt8 × Int × Unit) => ck (neb i 2) (some (a.1, 0, ())))
           fun (r : List UInt8 × Int × Unit) => some r)))
      fun (r : List UInt8 × Int × Unit) => some r)
noncomputable def iso_Reply (x : Int × Unit) : Option (Int × Bool × Unit) :=
  ob (iso_figure (x.1, 1, ())) fun (a : Int × Unit) =>
  ob (iso_Type (x.1, ())) fun (a_1 : Bool × Unit) =>
   ob
    (sel (bnot a_1.1) (some (true, ()))
     (sel (bnot (beq a.1 0)) (some (bnot (beq a.1 2), ())) (some (false, ()))))
    fun (a : Bool × Unit) => sel a.1 (some (0, false, ())) (some (i64 (iadd x.1 10), true, ()))
noncomputable def slices_EqualFunc_api_Val_api_Val_api_Val_api_Val (x : List (Int × List UInt8 × Unit) ×
  List (Int × List UInt8 × Unit) × Nat × Unit) : Option (Bool × Unit) :=
  sel (bnot (beq (len x.1) (len x.2.1))) (some (false, ()))
  (lc
   (loop
    (fun (x_1 : Bool × Int × Unit) =>
     sel (lt x_1.2.1 (len x.1))
      (ck (inB x_1.2.1 (len x.1))
       (ck (inB x_1.2.1 (len x.2.1))
        (ck (neb x.2.2.1 1)
         (ob
          (iso_Same_1
           (nth x.1 (nat x_1.2.1) (0, none' UInt8, ()),
            nth x.2.1 (nat x_1.2.1) (0, none' UInt8, ()), ()))
          fun (a : Bool × Unit) =>
          sel (bnot a.1) (some (LS.rt (false, ()))) (some (LS.nx (x_1.1, i64 (iadd x_1.2.1 1), ())))))))
      (some (LS.ex 0 (x_1.1, x_1.2.1, ()))))
    (false, 0, ()))
   (fun (a : Bool × Int × Unit) => none) (fun (i : Nat) (a : Bool × Int × Unit) => ck (neb i 0) (some (true, ())))
   fun (r : Bool × Unit) => some r)
noncomputable def iso_Same (x : (Int × List (Int × List UInt8 × Unit) × Unit) ×
  (Int × List (Int × List UInt8 × Unit) × Unit) × Unit) : Option (Bool × Unit) :=
  ob
  (sel (beq x.1.1 x.2.1.1)
   (ob (slices_EqualFunc_api_Val_api_Val_api_Val_api_Val (x.1.2.1, x.2.1.2.1, 1, ()))
    fun (a : Bool × Unit) => some (a.1, ()))
   (some (false, ())))
  fun (a : Bool × Unit) => some (a.1, ())
noncomputable def iso_Class (x : Int × Unit) : Option (Int × Unit) :=
  ob (iso_Type (x.1, ())) fun (a : Bool × Unit) =>
  sel (bnot a.1) (some (0, ())) (ob (iso_figure (x.1, 2, ())) fun (a : Int × Unit) => some (a.1, ()))
noncomputable def iso_fields_1 (x : (Int × List UInt8 × Unit) × Unit) : Option (Int × Unit) :=
  some (x.1.1, ())
noncomputable def iso_Read (x : List UInt8 × Unit) : Option ((Int × List (Int × List UInt8 × Unit) × Unit) × Int × Unit) :=
  ob (dig_TakeBcd (x.1, 0, 4, ())) fun (a : List UInt8 × Int × Int × Unit) =>
  sel (bnot (beq a.2.2.1 0)) (some ((0, none' (Int × List UInt8 × Unit), ()), a.2.2.1, ()))
   (ob (dig_Value (a.1, ())) fun (a_1 : Int × Int × Unit) =>
    ob (iso_Type (a_1.1, ())) fun (a_2 : Bool × Unit) =>
     sel (bnot a_2.1) (some ((0, none' (Int × List UInt8 × Unit), ()), 2, ()))
      (ob (bitmap_Read (x.1, a.2.1, ())) fun (a : List Int × Int × Int × Unit) =>
       sel (bnot (beq a.2.2.1 0)) (some ((0, none' (Int × List UInt8 × Unit), ()), a.2.2.1, ()))
        (lc
         (loop
          (fun (x : Int × Int × Unit) =>
           sel (lt x.2.1 (len a.1))
            (ck (inB x.2.1 (len a.1))
            (ob (field_Of (nth a.1 (nat x.2.1) 0, ())) fun (a : (Int × Int × Unit) × Bool × Unit) =>
            sel (bnot a.2.1) (some (LS.rt ((0, none' (Int × List UInt8 × Unit), ()), 2, ())))
            (some (LS.nx (x.1, i64 (iadd x.2.1 1), ())))))
            (some (LS.ex 0 (x.1, x.2.1, ()))))
          (0, 0, ()))
         (fun (a : Int × Int × Unit) => none)
         (fun (i : Nat) (a_3 : Int × Int × Unit) =>
          ck (neb i 0)
           (lc
            (loop
            (fun (x_1 : Int × Int × Int × (Int × List (Int × List UInt8 × Unit) × Unit) × Unit) =>
            sel (lt x_1.2.2.1 (len a.1))
            (ck (inB x_1.2.2.1 (len a.1))
            (ob (field_Read (nth a.1 (nat x_1.2.2.1) 0, x.1, x_1.2.1, ()))
            fun (a_4 : List UInt8 × Int × Int × Unit) =>
            sel (bnot (beq a_4.2.2.1 0))
            (some (LS.rt ((0, none' (Int × List UInt8 × Unit), ()), a_4.2.2.1, ())))
            (ck
            (rm 56
            (nadd (ln x_1.2.2.2.1.2.1)
            (ln [(nth a.1 (nat x_1.2.2.1) 0, a_4.1, ())])))
            (some
            (LS.nx
            (x_1.1, a_4.2.1, i64 (iadd x_1.2.2.1 1),
            (x_1.2.2.2.1.1,
            app x_1.2.2.2.1.2.1
            [(nth a.1 (nat x_1.2.2.1) 0, a_4.1, ())],
            x_1.2.2.2.1.2.2),
            ()))))))
            (some
            (LS.ex 2
            (x_1.1, x_1.2.1, x_1.2.2.1,
            (x_1.2.2.2.1.1, x_1.2.2.2.1.2.1, x_1.2.2.2.1.2.2),
            ()))))
            (a_3.1, a.2.1, 0, (a_1.1, none' (Int × List UInt8 × Unit), ()), ()))
            (fun (a : Int × Int × Int × (Int × List (Int × List UInt8 × Unit) × Unit) × Unit) => none)
            (fun (i : Nat) (a : Int × Int × Int × (Int × List (Int × List UInt8 × Unit) × Unit) × Unit) =>
            ck (neb i 2)
            (sel (lt a.2.1 (len x.1)) (some ((0, none' (Int × List UInt8 × Unit), ()), 4, ()))
            (some
            ((a.2.2.2.1.1, a.2.2.2.1.2.1, a.2.2.2.1.2.2), 0, ()))))
            fun (r : (Int × List (Int × List UInt8 × Unit) × Unit) × Int × Unit) => some r))
         fun (r : (Int × List (Int × List UInt8 × Unit) × Unit) × Int × Unit) => some r)))
noncomputable def iso_fields (x : (Int × List (Int × List UInt8 × Unit) × Unit) ×
  Unit) : Option ((List (Int × List UInt8 × Unit) × Nat × Unit) × Unit) :=
  some ((x.1.2.1, 1, ()), ())
noncomputable def iso_rows_api_Val_find (x : (List (Int × List UInt8 × Unit) × Nat × Unit) ×
  Int × Unit) : Option (Int × Bool × Unit) :=
  lc
  (loop
   (fun (x_1 : Int × Bool × Int × Unit) =>
    sel (lt x_1.2.2.1 (len x.1.1))
     (ck (inB x_1.2.2.1 (len x.1.1))
      (ck (neb x.1.2.1 1)
       (ob (iso_fields_1 (nth x.1.1 (nat x_1.2.2.1) (0, none' UInt8, ()), ())) fun (a : Int × Unit) =>
        sel (le x.2.1 a.1) (some (LS.rt (x_1.2.2.1, beq a.1 x.2.1, ())))
         (some (LS.nx (x_1.1, x_1.2.1, i64 (iadd x_1.2.2.1 1), ()))))))
     (some (LS.ex 0 (x_1.1, x_1.2.1, x_1.2.2.1, ()))))
   (0, false, 0, ()))
  (fun (a : Int × Bool × Int × Unit) => none)
  (fun (i : Nat) (a : Int × Bool × Int × Unit) => ck (neb i 0) (some (len x.1.1, false, ())))
  fun (r : Int × Bool × Unit) => some r
noncomputable def slices_Concat_api_Val_api_Val (x : List (List (Int × List UInt8 × Unit)) ×
  Unit) : Option (List (Int × List UInt8 × Unit) × Unit) :=
  lc
  (loop
   (fun (x_1 : Int × Int × Unit) =>
    sel (lt x_1.2.1 (len x.1))
     (ck (inB x_1.2.1 (len x.1))
      (sel (lt (i64 (iadd x_1.1 (len (nth x.1 (nat x_1.2.1) (none' (Int × List UInt8 × Unit)))))) 0) none
       (some
        (LS.nx
         (i64 (iadd x_1.1 (len (nth x.1 (nat x_1.2.1) (none' (Int × List UInt8 × Unit))))),
          i64 (iadd x_1.2.1 1), ())))))
     (some (LS.ex 0 (x_1.1, x_1.2.1, ()))))
   (0, 0, ()))
  (fun (a : Int × Int × Unit) => none)
  (fun (i : Nat) (a : Int × Int × Unit) =>
   ck (neb i 0)
    (sel (lt a.1 0) none
     (sel (lt 0 (i64 (isub a.1 (i64 (isub 0 0)))))
      (ck (inC 0 0 0)
       (ck (band (le 0 (i64 (isub a.1 (i64 (isub 0 0))))) (rm 56 (nat (i64 (isub a.1 (i64 (isub 0 0)))))))
        (ck (inC 0 0 (len (rep (nat (i64 (isub a.1 (i64 (isub 0 0))))) (0, none' UInt8, ()))))
         (lc
          (loop
           (fun (x_1 : List (Int × List UInt8 × Unit) × Int × Unit) =>
            sel (lt x_1.2.1 (len x.1))
            (ck (inB x_1.2.1 (len x.1))
            (ck
            (rm 56
            (nadd (ln x_1.1) (ln (nth x.1 (nat x_1.2.1) (none' (Int × List UInt8 × Unit))))))
            (some
            (LS.nx
            (app x_1.1 (nth x.1 (nat x_1.2.1) (none' (Int × List UInt8 × Unit))),
            i64 (iadd x_1.2.1 1), ())))))
            (some (LS.ex 2 (x_1.1, x_1.2.1, ()))))
           (cut (rep (nat (i64 (isub a.1 (i64 (isub 0 0))))) (0, none' UInt8, ())) (nat 0)
            (nsub (nat 0) (nat 0)),
            0, ()))
          (fun (a : List (Int × List UInt8 × Unit) × Int × Unit) => none)
          (fun (i : Nat) (a : List (Int × List UInt8 × Unit) × Int × Unit) => ck (neb i 2) (some (a.1, ())))
          fun (r : List (Int × List UInt8 × Unit) × Unit) => some r))))
      (lc
       (loop
        (fun (x_1 : List (Int × List UInt8 × Unit) × Int × Unit) =>
         sel (lt x_1.2.1 (len x.1))
          (ck (inB x_1.2.1 (len x.1))
           (ck (rm 56 (nadd (ln x_1.1) (ln (nth x.1 (nat x_1.2.1) (none' (Int × List UInt8 × Unit))))))
            (some
            (LS.nx
            (app x_1.1 (nth x.1 (nat x_1.2.1) (none' (Int × List UInt8 × Unit))),
            i64 (iadd x_1.2.1 1), ())))))
          (some (LS.ex 2 (x_1.1, x_1.2.1, ()))))
        (none' (Int × List UInt8 × Unit), 0, ()))
       (fun (a : List (Int × List UInt8 × Unit) × Int × Unit) => none)
       (fun (i : Nat) (a : List (Int × List UInt8 × Unit) × Int × Unit) => ck (neb i 2) (some (a.1, ())))
       fun (r : List (Int × List UInt8 × Unit) × Unit) => some r))))
  fun (r : List (Int × List UInt8 × Unit) × Unit) => some r
noncomputable def iso_rows_api_Val_with (x : (List (Int × List UInt8 × Unit) × Nat × Unit) ×
  (Int × List UInt8 × Unit) × Unit) : Option (List (Int × List UInt8 × Unit) × Unit) :=
  ck (neb x.1.2.1 1)
  (ob (iso_fields_1 (x.2.1, ())) fun (a : Int × Unit) =>
   ob (iso_rows_api_Val_find (x.1, a.1, ())) fun (a : Int × Bool × Unit) =>
    ob (sel a.2.1 (some (i64 (iadd a.1 1), ())) (some (a.1, ()))) fun (a_1 : Int × Unit) =>
     ck (inC 0 a.1 (len x.1.1))
      (ck (inC a_1.1 (len x.1.1) (len x.1.1))
       (ob
        (slices_Concat_api_Val_api_Val
         ([sub x.1.1 0 a.1, [x.2.1], sub x.1.1 a_1.1 (len x.1.1)], ()))
        fun (a : List (Int × List UInt8 × Unit) × Unit) => some (a.1, ()))))
noncomputable def iso_Set (x : (Int × List (Int × List UInt8 × Unit) × Unit) ×
  Int × List UInt8 × Unit) : Option ((Int × List (Int × List UInt8 × Unit) × Unit) × Int × Unit) :=
  ob (field_Of (x.2.1, ())) fun (a : (Int × Int × Unit) × Bool × Unit) =>
  sel (bnot a.2.1) (some (x.1, 12, ()))
   (ob (field_Fits (x.2.1, x.2.2.1, ())) fun (a : Bool × Unit) =>
    sel (bnot a.1) (some (x.1, 1, ()))
     (ob (iso_fields (x.1, ())) fun (a : (List (Int × List UInt8 × Unit) × Nat × Unit) × Unit) =>
      ob (iso_rows_api_Val_with (a.1, (x.2.1, x.2.2.1, ()), ()))
       fun (a : List (Int × List UInt8 × Unit) × Unit) => some ((x.1.1, a.1, x.1.2.2), 0, ())))
noncomputable def iso_Get (x : (Int × List (Int × List UInt8 × Unit) × Unit) ×
  Int × Unit) : Option (List UInt8 × Bool × Unit) :=
  ob (iso_fields (x.1, ())) fun (a : (List (Int × List UInt8 × Unit) × Nat × Unit) × Unit) =>
  ob (iso_rows_api_Val_find (a.1, x.2.1, ())) fun (a : Int × Bool × Unit) =>
   sel (bnot a.2.1) (some (none' UInt8, false, ()))
    (ck (inB a.1 (len x.1.2.1))
     (some ((nth x.1.2.1 (nat a.1) (0, none' UInt8, ())).2.1, true, ())))
noncomputable def iso_Drop (x : (Int × List (Int × List UInt8 × Unit) × Unit) ×
  Int × Unit) : Option ((Int × List (Int × List UInt8 × Unit) × Unit) × Unit) :=
  ob (iso_fields (x.1, ())) fun (a : (List (Int × List UInt8 × Unit) × Nat × Unit) × Unit) =>
  ob (iso_rows_api_Val_find (a.1, x.2.1, ())) fun (a : Int × Bool × Unit) =>
   sel a.2.1
    (ck (inC 0 a.1 (len x.1.2.1))
     (ck (inC (i64 (iadd a.1 1)) (len x.1.2.1) (len x.1.2.1))
      (ob
       (slices_Concat_api_Val_api_Val
        ([sub x.1.2.1 0 a.1, sub x.1.2.1 (i64 (iadd a.1 1)) (len x.1.2.1)], ()))
       fun (a : List (Int × List UInt8 × Unit) × Unit) => some ((x.1.1, a.1, x.1.2.2), ()))))
    (some (x.1, ()))
noncomputable def law07_shown (x : Unit) : Option (Bool × Unit) :=
  ob (iso_Set ((800, none' (Int × List UInt8 × Unit), ()), 70, [u8 51, u8 48, u8 49], ()))
  fun (a : (Int × List (Int × List UInt8 × Unit) × Unit) × Int × Unit) =>
  ob (iso_Write (a.1, ())) fun (a_1 : List UInt8 × Int × Unit) =>
   ob (iso_Read (a_1.1, ())) fun (a_2 : (Int × List (Int × List UInt8 × Unit) × Unit) × Int × Unit) =>
    ob (iso_Get (a_2.1, 70, ())) fun (a_3 : List UInt8 × Bool × Unit) =>
     ob (iso_Reply (800, ())) fun (a_4 : Int × Bool × Unit) =>
      ob (iso_Drop (a.1, 70, ())) fun (a_5 : (Int × List (Int × List UInt8 × Unit) × Unit) × Unit) =>
       ob
        (sel (beq a.2.1 0)
         (sel (beq a_1.2.1 0)
          (ob (ref01_Hex (a_1.1, ())) fun (a_6 : List UInt8 × Unit) =>
           sel
            (seq a_6.1
            [48, 56, 48, 48, 56, 48, 48, 48, 48, 48, 48, 48, 48, 48, 48, 48, 48, 48, 48, 48, 48, 52, 48, 48,
            48, 48, 48, 48, 48, 48, 48, 48, 48, 48, 48, 48, 48, 51, 48, 49])
            (sel (beq a_2.2.1 0)
            (ob (iso_Same (a.1, a_2.1, ())) fun (a_7 : Bool × Unit) =>
            sel a_7.1
            (sel a_3.2.1
            (sel (seq a_3.1 [51, 48, 49])
            (sel a_4.2.1
            (sel (beq a_4.1 810)
            (ob (iso_Class (810, ())) fun (a_8 : Int × Unit) =>
            sel (beq a_8.1 8)
            (ob (iso_Type (800, ())) fun (a_9 : Bool × Unit) =>
            sel a_9.1
            (ob (iso_Type (950, ())) fun (a_10 : Bool × Unit) =>
            sel (bnot a_10.1)
            (ob (iso_Right (a.1, ())) fun (a_11 : Bool × Unit) =>
            sel a_11.1
            (sel (beq (len a_5.1.2.1) 0)
            (ob (iso_Same (a.1, a_5.1, ())) fun (a : Bool × Unit) =>
            some (bnot a.1, ()))
            (some (false, ())))
            (some (false, ())))
            (some (false, ())))
            (some (false, ())))
            (some (false, ())))
            (some (false, ())))
            (some (false, ())))
            (some (false, ())))
            (some (false, ())))
            (some (false, ())))
            (some (false, ())))
            (some (false, ())))
          (some (false, ())))
         (some (false, ())))
        fun (a : Bool × Unit) => some (a.1, ())
noncomputable def ref07_Few (x : (Int × List (Int × List UInt8 × Unit) × Unit) × Unit) : Option (Bool × Unit) :=
  sel (lt 40 (len x.1.2.1)) (some (false, ()))
  (lc
   (loop
    (fun (x_1 : Bool × Int × Unit) =>
     sel (lt x_1.2.1 (len x.1.2.1))
      (ck (inB x_1.2.1 (len x.1.2.1))
       (sel (lt 450 (len (nth x.1.2.1 (nat x_1.2.1) (0, none' UInt8, ())).2.1))
        (some (LS.rt (false, ()))) (some (LS.nx (x_1.1, i64 (iadd x_1.2.1 1), ())))))
      (some (LS.ex 0 (x_1.1, x_1.2.1, ()))))
    (false, 0, ()))
   (fun (a : Bool × Int × Unit) => none) (fun (i : Nat) (a : Bool × Int × Unit) => ck (neb i 0) (some (true, ())))
   fun (r : Bool × Unit) => some r)
noncomputable def ref07_Type (x : Int × Unit) : Option (Bool × Unit) :=
  ob
  (sel (le 100 x.1)
   (sel (le x.1 899)
    (sel (le (imod (i64 (idiv x.1 10)) 10) 4) (some (le (imod x.1 10) 5, ())) (some (false, ())))
    (some (false, ())))
   (some (false, ())))
  fun (a : Bool × Unit) => some (a.1, ())
noncomputable def ref07_Right (x : (Int × List (Int × List UInt8 × Unit) × Unit) × Unit) : Option (Bool × Unit) :=
  lc
  (loop
   (fun (x_1 : Bool × Int × Unit) =>
    sel (lt x_1.2.1 (len x.1.2.1))
     (ck (inB x_1.2.1 (len x.1.2.1))
      (ck (inB x_1.2.1 (len x.1.2.1))
       (ob
        (ref05_Fits
         ((nth x.1.2.1 (nat x_1.2.1) (0, none' UInt8, ())).1,
          (nth x.1.2.1 (nat x_1.2.1) (0, none' UInt8, ())).2.1, ()))
        fun (a : Bool × Unit) =>
        ob
         (sel (bnot a.1) (some (true, ()))
          (sel (lt 0 x_1.2.1)
           (ck (inB (i64 (isub x_1.2.1 1)) (len x.1.2.1))
            (ck (inB x_1.2.1 (len x.1.2.1))
            (some
            (le (nth x.1.2.1 (nat x_1.2.1) (0, none' UInt8, ())).1
            (nth x.1.2.1 (nat (i64 (isub x_1.2.1 1))) (0, none' UInt8, ())).1,
            ()))))
           (some (false, ()))))
         fun (a : Bool × Unit) =>
         sel a.1 (some (LS.rt (false, ()))) (some (LS.nx (x_1.1, i64 (iadd x_1.2.1 1), ()))))))
     (some (LS.ex 0 (x_1.1, x_1.2.1, ()))))
   (false, 0, ()))
  (fun (a : Bool × Int × Unit) => none)
  (fun (i : Nat) (a : Bool × Int × Unit) =>
   ck (neb i 0) (ob (ref07_Type (x.1.1, ())) fun (a : Bool × Unit) => some (a.1, ())))
  fun (r : Bool × Unit) => some r
noncomputable def ref06_Right (x : List Int × Unit) : Option (Bool × Unit) :=
  lc
  (loop
   (fun (x_1 : Bool × Int × Unit) =>
    sel (lt x_1.2.1 (len x.1))
     (ck (inB x_1.2.1 (len x.1))
      (ob
       (sel (lt (nth x.1 (nat x_1.2.1) 0) 2) (some (true, ()))
        (ck (inB x_1.2.1 (len x.1))
         (sel (lt 128 (nth x.1 (nat x_1.2.1) 0)) (some (true, ()))
          (ck (inB x_1.2.1 (len x.1))
           (sel (beq (nth x.1 (nat x_1.2.1) 0) 65) (some (true, ()))
            (sel (lt 0 x_1.2.1)
            (ck (inB (i64 (isub x_1.2.1 1)) (len x.1))
            (ck (inB x_1.2.1 (len x.1))
            (some
            (le (nth x.1 (nat x_1.2.1) 0) (nth x.1 (nat (i64 (isub x_1.2.1 1))) 0), ()))))
            (some (false, ()))))))))
       fun (a : Bool × Unit) =>
       sel a.1 (some (LS.rt (false, ()))) (some (LS.nx (x_1.1, i64 (iadd x_1.2.1 1), ())))))
     (some (LS.ex 0 (x_1.1, x_1.2.1, ()))))
   (false, 0, ()))
  (fun (a : Bool × Int × Unit) => none) (fun (i : Nat) (a : Bool × Int × Unit) => ck (neb i 0) (some (true, ())))
  fun (r : Bool × Unit) => some r
noncomputable def ref06_Place (x : Int × Unit) : Option (Int × UInt8 × Unit) :=
  ob (sel (lt x.1 1) (some (true, ())) (some (lt 128 x.1, ()))) fun (a : Bool × Unit) =>
  sel a.1 (some (0, u8 0, ()))
   (lc
    (loop
     (fun (x_1 : Int × Int × Unit) =>
      sel (lt x_1.2.1 (imod (i64 (isub x.1 1)) 8))
       (some (LS.nx (i64 (idiv x_1.1 2), i64 (iadd x_1.2.1 1), ())))
       (some (LS.ex 0 (x_1.1, x_1.2.1, ()))))
     (128, 0, ()))
    (fun (a : Int × Int × Unit) => none)
    (fun (i : Nat) (a : Int × Int × Unit) => ck (neb i 0) (some (i64 (idiv (i64 (isub x.1 1)) 8), u8 a.1, ())))
    fun (r : Int × UInt8 × Unit) => some r)
noncomputable def ref06_Write (x : List Int × Unit) : Option (List UInt8 × Int × Unit) :=
  ob (ref06_Right (x.1, ())) fun (a : Bool × Unit) =>
  sel (bnot a.1) (some (none' UInt8, 1, ()))
   (ck (rm 32 (nadd (ln (none' Int)) (ln x.1)))
    (ob
     (sel (lt 0 (len x.1))
      (ck (inB (i64 (isub (len x.1) 1)) (len x.1))
       (some (lt 64 (nth x.1 (nat (i64 (isub (len x.1) 1))) 0), ())))
      (some (false, ())))
     fun (a : Bool × Unit) =>
     sel a.1
      (ck (rm 32 (nadd (ln (app (none' Int) x.1)) (ln [1])))
       (ck (band (inC 0 16 16) (rm 1 (nat 16)))
        (lc
         (loop
          (fun (x_1 : Int × List UInt8 × Unit) =>
           sel (lt x_1.1 (len (app (app (none' Int) x.1) [1])))
            (ck (inB x_1.1 (len (app (app (none' Int) x.1) [1])))
            (ob (ref06_Place (nth (app (app (none' Int) x.1) [1]) (nat x_1.1) 0, ()))
            fun (a : Int × UInt8 × Unit) =>
            ck (inB a.1 (len x_1.2.1))
            (ck (inB a.1 (len x_1.2.1))
            (some
            (LS.nx
            (i64 (iadd x_1.1 1),
            upd x_1.2.1 (nat a.1)
            (u8 (iadd (n8 (nth x_1.2.1 (nat a.1) (u8 0))) (n8 a.2.1))),
            ()))))))
            (some (LS.ex 0 (x_1.1, x_1.2.1, ()))))
          (0, rep (nat 16) (u8 0), ()))
         (fun (a : Int × List UInt8 × Unit) => none)
         (fun (i : Nat) (a : Int × List UInt8 × Unit) => ck (neb i 0) (some (a.2.1, 0, ())))
         fun (r : List UInt8 × Int × Unit) => some r)))
      (ck (band (inC 0 8 8) (rm 1 (nat 8)))
       (lc
        (loop
         (fun (x_1 : Int × List UInt8 × Unit) =>
          sel (lt x_1.1 (len (app (none' Int) x.1)))
           (ck (inB x_1.1 (len (app (none' Int) x.1)))
            (ob (ref06_Place (nth (app (none' Int) x.1) (nat x_1.1) 0, ()))
            fun (a : Int × UInt8 × Unit) =>
            ck (inB a.1 (len x_1.2.1))
            (ck (inB a.1 (len x_1.2.1))
            (some
            (LS.nx
            (i64 (iadd x_1.1 1),
            upd x_1.2.1 (nat a.1)
            (u8 (iadd (n8 (nth x_1.2.1 (nat a.1) (u8 0))) (n8 a.2.1))),
            ()))))))
           (some (LS.ex 0 (x_1.1, x_1.2.1, ()))))
         (0, rep (nat 8) (u8 0), ()))
        (fun (a : Int × List UInt8 × Unit) => none)
        (fun (i : Nat) (a : Int × List UInt8 × Unit) => ck (neb i 0) (some (a.2.1, 0, ())))
        fun (r : List UInt8 × Int × Unit) => some r))))
noncomputable def ref07_four (x : Int × Unit) : Option (List UInt8 × Unit) :=
  ob (ref01_Digits (x.1, 4, ())) fun (a : List UInt8 × Int × Unit) => some (a.1, ())
noncomputable def ref07_Write (x : (Int × List (Int × List UInt8 × Unit) × Unit) × Unit) : Option (List UInt8 × Int × Unit) :=
  ob (ref07_Right (x.1, ())) fun (a : Bool × Unit) =>
  sel (bnot a.1) (some (none' UInt8, 1, ()))
   (lc
    (loop
     (fun (x_1 : List Int × List UInt8 × Int × Unit) =>
      sel (lt x_1.2.2.1 (len x.1.2.1))
       (ck (inB x_1.2.2.1 (len x.1.2.1))
        (ck (inB x_1.2.2.1 (len x.1.2.1))
         (ob
          (ref05_Write
           ((nth x.1.2.1 (nat x_1.2.2.1) (0, none' UInt8, ())).1,
            (nth x.1.2.1 (nat x_1.2.2.1) (0, none' UInt8, ())).2.1, ()))
          fun (a : List UInt8 × Int × Unit) =>
          ck (inB x_1.2.2.1 (len x.1.2.1))
           (ck
            (rm 32
            (nadd (ln x_1.1) (ln [(nth x.1.2.1 (nat x_1.2.2.1) (0, none' UInt8, ())).1])))
            (ck (rm 1 (nadd (ln x_1.2.1) (ln a.1)))
            (some
            (LS.nx
            (app x_1.1 [(nth x.1.2.1 (nat x_1.2.2.1) (0, none' UInt8, ())).1],
            app x_1.2.1 a.1, i64 (iadd x_1.2.2.1 1), ()))))))))
       (some (LS.ex 0 (x_1.1, x_1.2.1, x_1.2.2.1, ()))))
     (none' Int, none' UInt8, 0, ()))
    (fun (a : List Int × List UInt8 × Int × Unit) => none)
    (fun (i : Nat) (a : List Int × List UInt8 × Int × Unit) =>
     ck (neb i 0)
      (ob (ref06_Write (a.1, ())) fun (a_1 : List UInt8 × Int × Unit) =>
       ob (ref07_four (x.1.1, ())) fun (a_2 : List UInt8 × Unit) =>
        ob (ref01_Bcd (a_2.1, ())) fun (a_3 : List UInt8 × Int × Unit) =>
         ck (rm 1 (nadd (ln a_3.1) (ln a_1.1)))
          (ck (rm 1 (nadd (ln (app a_3.1 a_1.1)) (ln a.2.1)))
           (some (app (app a_3.1 a_1.1) a.2.1, 0, ())))))
    fun (r : List UInt8 × Int × Unit) => some r)
noncomputable def ref07_Reply (x : Int × Unit) : Option (Int × Bool × Unit) :=
  ob (ref07_Type (x.1, ())) fun (a : Bool × Unit) =>
  ob
   (sel (bnot a.1) (some (true, ()))
    (sel (bnot (beq (imod (i64 (idiv x.1 10)) 10) 0)) (some (bnot (beq (imod (i64 (idiv x.1 10)) 10) 2), ()))
     (some (false, ()))))
   fun (a : Bool × Unit) => sel a.1 (some (0, false, ())) (some (i64 (iadd x.1 10), true, ()))
noncomputable def ref07_Same (x : (Int × List (Int × List UInt8 × Unit) × Unit) ×
  (Int × List (Int × List UInt8 × Unit) × Unit) × Unit) : Option (Bool × Unit) :=
  ob
  (sel (bnot (beq x.1.1 x.2.1.1)) (some (true, ()))
   (some (bnot (beq (len x.1.2.1) (len x.2.1.2.1)), ())))
  fun (a : Bool × Unit) =>
  sel a.1 (some (false, ()))
   (lc
    (loop
     (fun (x_1 : Bool × Int × Unit) =>
      sel (lt x_1.2.1 (len x.1.2.1))
       (ck (inB x_1.2.1 (len x.1.2.1))
        (ck (inB x_1.2.1 (len x.2.1.2.1))
         (ob
          (sel
           (bnot
            (beq (nth x.1.2.1 (nat x_1.2.1) (0, none' UInt8, ())).1
            (nth x.2.1.2.1 (nat x_1.2.1) (0, none' UInt8, ())).1))
           (some (true, ()))
           (ck (inB x_1.2.1 (len x.1.2.1))
            (ck (inB x_1.2.1 (len x.2.1.2.1))
            (ob
            (ref01_Same
            ((nth x.1.2.1 (nat x_1.2.1) (0, none' UInt8, ())).2.1,
            (nth x.2.1.2.1 (nat x_1.2.1) (0, none' UInt8, ())).2.1, ()))
            fun (a : Bool × Unit) => some (bnot a.1, ())))))
          fun (a : Bool × Unit) =>
          sel a.1 (some (LS.rt (false, ()))) (some (LS.nx (x_1.1, i64 (iadd x_1.2.1 1), ()))))))
       (some (LS.ex 0 (x_1.1, x_1.2.1, ()))))
     (false, 0, ()))
    (fun (a : Bool × Int × Unit) => none) (fun (i : Nat) (a : Bool × Int × Unit) => ck (neb i 0) (some (true, ())))
    fun (r : Bool × Unit) => some r)
noncomputable def ref07_Class (x : Int × Unit) : Option (Int × Unit) :=
  ob (ref07_Type (x.1, ())) fun (a : Bool × Unit) => sel (bnot a.1) (some (0, ())) (some (i64 (idiv x.1 100), ()))
noncomputable def law07_IsoTells (x : (Int × List (Int × List UInt8 × Unit) × Unit) ×
  (Int × List (Int × List UInt8 × Unit) × Unit) × Int × Unit) : Option (Bool × Unit) :=
  ob (law07_shown ()) fun (a : Bool × Unit) =>
  ob (ref07_Few (x.1, ())) fun (a_1 : Bool × Unit) =>
   ob
    (sel (bnot a_1.1) (some (true, ()))
     (ob (ref07_Few (x.2.1, ())) fun (a : Bool × Unit) => some (bnot a.1, ())))
    fun (a_2 : Bool × Unit) =>
    sel a_2.1 (some (a.1, ()))
     (ob (iso_Write (x.1, ())) fun (a_3 : List UInt8 × Int × Unit) =>
      ob (ref07_Write (x.1, ())) fun (a_4 : List UInt8 × Int × Unit) =>
       ob (iso_Reply (x.2.2.1, ())) fun (a_5 : Int × Bool × Unit) =>
        ob (ref07_Reply (x.2.2.1, ())) fun (a_6 : Int × Bool × Unit) =>
         ob
          (sel a.1
           (ob (ref01_Same (a_3.1, a_4.1, ())) fun (a : Bool × Unit) =>
            sel a.1
            (sel (beq a_3.2.1 a_4.2.1)
            (ob (iso_Right (x.1, ())) fun (a : Bool × Unit) =>
            ob (ref07_Right (x.1, ())) fun (a_7 : Bool × Unit) =>
            sel (beb a.1 a_7.1)
            (ob (iso_Same (x.1, x.2.1, ())) fun (a : Bool × Unit) =>
            ob (ref07_Same (x.1, x.2.1, ())) fun (a_8 : Bool × Unit) =>
            sel (beb a.1 a_8.1)
            (ob (iso_Type (x.2.2.1, ())) fun (a : Bool × Unit) =>
            ob (ref07_Type (x.2.2.1, ())) fun (a_9 : Bool × Unit) =>
            sel (beb a.1 a_9.1)
            (ob (iso_Class (x.2.2.1, ())) fun (a : Int × Unit) =>
            ob (ref07_Class (x.2.2.1, ())) fun (a_10 : Int × Unit) =>
            sel (beq a.1 a_10.1)
            (sel (beq a_5.1 a_6.1) (some (beb a_5.2.1 a_6.2.1, ()))
            (some (false, ())))
            (some (false, ())))
            (some (false, ())))
            (some (false, ())))
            (some (false, ())))
            (some (false, ())))
            (some (false, ())))
           (some (false, ())))
          fun (a : Bool × Unit) => some (a.1, ()))
noncomputable def ref06_has (x : List UInt8 × Int × Unit) : Option (Bool × Unit) :=
  ob (ref06_Place (x.2.1, ())) fun (a : Int × UInt8 × Unit) =>
  ck (inB a.1 (len x.1))
   (some (bnot (beq (n8 (u8 (andI IntKind.u8 (n8 (nth x.1 (nat a.1) (u8 0))) (n8 a.2.1)))) (n8 (u8 0))), ()))
noncomputable def ref06_Read (x : List UInt8 × Int × Unit) : Option (List Int × Int × Int × Unit) :=
  ob (sel (lt x.2.1 0) (some (true, ())) (some (lt (len x.1) x.2.1, ()))) fun (a : Bool × Unit) =>
  sel a.1 (some (none' Int, 0, 1, ()))
   (ck (inC x.2.1 (len x.1) (len x.1))
    (sel (lt (len (sub x.1 x.2.1 (len x.1))) 8) (some (none' Int, 0, 3, ()))
     (ob (ref06_has (sub x.1 x.2.1 (len x.1), 1, ())) fun (a : Bool × Unit) =>
      ob (sel a.1 (some (16, ())) (some (8, ()))) fun (a_1 : Int × Unit) =>
       sel (lt (len (sub x.1 x.2.1 (len x.1))) a_1.1) (some (none' Int, 0, 3, ()))
        (lc
         (loop
          (fun (x_1 : List Int × Int × Unit) =>
           sel (le x_1.2.1 (i64 (imul 8 a_1.1)))
            (ob (ref06_has (sub x.1 x.2.1 (len x.1), x_1.2.1, ())) fun (a : Bool × Unit) =>
            sel a.1
            (ck (rm 32 (nadd (ln x_1.1) (ln [x_1.2.1])))
            (some (LS.nx (app x_1.1 [x_1.2.1], i64 (iadd x_1.2.1 1), ()))))
            (some (LS.nx (x_1.1, i64 (iadd x_1.2.1 1), ()))))
            (some (LS.ex 0 (x_1.1, x_1.2.1, ()))))
          (none' Int, 2, ()))
         (fun (a : List Int × Int × Unit) => none)
         (fun (i : Nat) (a_2 : List Int × Int × Unit) =>
          ck (neb i 0)
           (ob
            (sel a.1
            (ob (ref06_has (sub x.1 x.2.1 (len x.1), 65, ())) fun (a : Bool × Unit) =>
            sel a.1 (some (true, ()))
            (sel (beq (len a_2.1) 0) (some (true, ()))
            (ck (inB (i64 (isub (len a_2.1) 1)) (len a_2.1))
            (some (le (nth a_2.1 (nat (i64 (isub (len a_2.1) 1))) 0) 65, ())))))
            (some (false, ())))
            fun (a : Bool × Unit) =>
            sel a.1 (some (none' Int, 0, 2, ())) (some (a_2.1, i64 (iadd x.2.1 a_1.1), 0, ()))))
         fun (r : List Int × Int × Int × Unit) => some r))))
noncomputable def ref07_Read (x : List UInt8 × Unit) : Option ((Int × List (Int × List UInt8 × Unit) × Unit) × Int × Unit) :=
  sel (lt (len x.1) 2) (some ((0, none' (Int × List UInt8 × Unit), ()), 3, ()))
  (ob (ref01_TakeBcd (x.1, 0, 4, ())) fun (a : List UInt8 × Int × Int × Unit) =>
   ob (ref01_Value (a.1, ())) fun (a_1 : Int × Int × Unit) =>
    ob
     (sel (bnot (beq a.2.2.1 0)) (some (true, ()))
      (ob (ref07_Type (a_1.1, ())) fun (a : Bool × Unit) => some (bnot a.1, ())))
     fun (a : Bool × Unit) =>
     sel a.1 (some ((0, none' (Int × List UInt8 × Unit), ()), 2, ()))
      (ob (ref06_Read (x.1, 2, ())) fun (a : List Int × Int × Int × Unit) =>
       sel (bnot (beq a.2.2.1 0)) (some ((0, none' (Int × List UInt8 × Unit), ()), a.2.2.1, ()))
        (lc
         (loop
          (fun (x : Int × Int × Unit) =>
           sel (lt x.2.1 (len a.1))
            (ck (inB x.2.1 (len a.1))
            (ob (ref05_Of (nth a.1 (nat x.2.1) 0, ())) fun (a : (Int × Int × Unit) × Bool × Unit) =>
            sel (bnot a.2.1) (some (LS.rt ((0, none' (Int × List UInt8 × Unit), ()), 2, ())))
            (some (LS.nx (x.1, i64 (iadd x.2.1 1), ())))))
            (some (LS.ex 0 (x.1, x.2.1, ()))))
          (0, 0, ()))
         (fun (a : Int × Int × Unit) => none)
         (fun (i : Nat) (a_2 : Int × Int × Unit) =>
          ck (neb i 0)
           (lc
            (loop
            (fun (x_1 : Int × Int × Int × (Int × List (Int × List UInt8 × Unit) × Unit) × Unit) =>
            sel (lt x_1.2.2.1 (len a.1))
            (ck (inB x_1.2.2.1 (len a.1))
            (ob (ref05_Read (nth a.1 (nat x_1.2.2.1) 0, x.1, x_1.2.1, ()))
            fun (a_3 : List UInt8 × Int × Int × Unit) =>
            sel (bnot (beq a_3.2.2.1 0))
            (some (LS.rt ((0, none' (Int × List UInt8 × Unit), ()), a_3.2.2.1, ())))
            (ck (inB x_1.2.2.1 (len a.1))
            (ck
            (rm 56
            (nadd (ln x_1.2.2.2.1.2.1)
            (ln [(nth a.1 (nat x_1.2.2.1) 0, a_3.1, ())])))
            (some
            (LS.nx
            (x_1.1, a_3.2.1, i64 (iadd x_1.2.2.1 1),
            (x_1.2.2.2.1.1,
            app x_1.2.2.2.1.2.1
            [(nth a.1 (nat x_1.2.2.1) 0, a_3.1, ())],
            x_1.2.2.2.1.2.2),
            ())))))))
            (some
            (LS.ex 2
            (x_1.1, x_1.2.1, x_1.2.2.1,
            (x_1.2.2.2.1.1, x_1.2.2.2.1.2.1, x_1.2.2.2.1.2.2),
            ()))))
            (a_2.1, a.2.1, 0, (a_1.1, none' (Int × List UInt8 × Unit), ()), ()))
            (fun (a : Int × Int × Int × (Int × List (Int × List UInt8 × Unit) × Unit) × Unit) => none)
            (fun (i : Nat) (a : Int × Int × Int × (Int × List (Int × List UInt8 × Unit) × Unit) × Unit) =>
            ck (neb i 2)
            (sel (lt a.2.1 (len x.1)) (some ((0, none' (Int × List UInt8 × Unit), ()), 4, ()))
            (some
            ((a.2.2.2.1.1, a.2.2.2.1.2.1, a.2.2.2.1.2.2), 0, ()))))
            fun (r : (Int × List (Int × List UInt8 × Unit) × Unit) × Int × Unit) => some r))
         fun (r : (Int × List (Int × List UInt8 × Unit) × Unit) × Int × Unit) => some r)))
noncomputable def law07_IsoReads (x : List UInt8 × Unit) : Option (Bool × Unit) :=
  ob (law07_shown ()) fun (a : Bool × Unit) =>
  sel (lt 2500 (len x.1)) (some (a.1, ()))
   (ob (iso_Read (x.1, ())) fun (a_1 : (Int × List (Int × List UInt8 × Unit) × Unit) × Int × Unit) =>
    ob (ref07_Read (x.1, ())) fun (a_2 : (Int × List (Int × List UInt8 × Unit) × Unit) × Int × Unit) =>
     ob
      (sel a.1
       (ob (ref07_Same (a_1.1, a_2.1, ())) fun (a : Bool × Unit) =>
        sel a.1 (some (beq a_1.2.1 a_2.2.1, ())) (some (false, ())))
       (some (false, ())))
      fun (a : Bool × Unit) => some (a.1, ()))
noncomputable def ref07_Set (x : (Int × List (Int × List UInt8 × Unit) × Unit) ×
  Int × List UInt8 × Unit) : Option ((Int × List (Int × List UInt8 × Unit) × Unit) × Int × Unit) :=
  ob (ref05_Of (x.2.1, ())) fun (a : (Int × Int × Unit) × Bool × Unit) =>
  sel (bnot a.2.1) (some (x.1, 12, ()))
   (ob (ref05_Fits (x.2.1, x.2.2.1, ())) fun (a : Bool × Unit) =>
    sel (bnot a.1) (some (x.1, 1, ()))
     (lc
      (loop
       (fun (x_1 : List (Int × List UInt8 × Unit) × Int × Unit) =>
        sel (lt x_1.2.1 (len x.1.2.1))
         (ck (inB x_1.2.1 (len x.1.2.1))
          (sel (lt (nth x.1.2.1 (nat x_1.2.1) (0, none' UInt8, ())).1 x.2.1)
           (ck (inB x_1.2.1 (len x.1.2.1))
            (ck (rm 56 (nadd (ln x_1.1) (ln [nth x.1.2.1 (nat x_1.2.1) (0, none' UInt8, ())])))
            (some
            (LS.nx
            (app x_1.1 [nth x.1.2.1 (nat x_1.2.1) (0, none' UInt8, ())],
            i64 (iadd x_1.2.1 1), ())))))
           (some (LS.nx (x_1.1, i64 (iadd x_1.2.1 1), ())))))
         (some (LS.ex 0 (x_1.1, x_1.2.1, ()))))
       (none' (Int × List UInt8 × Unit), 0, ()))
      (fun (a : List (Int × List UInt8 × Unit) × Int × Unit) => none)
      (fun (i : Nat) (a : List (Int × List UInt8 × Unit) × Int × Unit) =>
       ck (neb i 0)
        (ck (rm 56 (nadd (ln a.1) (ln [(x.2.1, x.2.2.1, ())])))
         (lc
          (loop
           (fun (x_1 : List (Int × List UInt8 × Unit) × Int × Unit) =>
            sel (lt x_1.2.1 (len x.1.2.1))
            (ck (inB x_1.2.1 (len x.1.2.1))
            (sel (lt x.2.1 (nth x.1.2.1 (nat x_1.2.1) (0, none' UInt8, ())).1)
            (ck (inB x_1.2.1 (len x.1.2.1))
            (ck
            (rm 56
            (nadd (ln x_1.1) (ln [nth x.1.2.1 (nat x_1.2.1) (0, none' UInt8, ())])))
            (some
            (LS.nx
            (app x_1.1 [nth x.1.2.1 (nat x_1.2.1) (0, none' UInt8, ())],
            i64 (iadd x_1.2.1 1), ())))))
            (some (LS.nx (x_1.1, i64 (iadd x_1.2.1 1), ())))))
            (some (LS.ex 2 (x_1.1, x_1.2.1, ()))))
           (app a.1 [(x.2.1, x.2.2.1, ())], 0, ()))
          (fun (a : List (Int × List UInt8 × Unit) × Int × Unit) => none)
          (fun (i : Nat) (a : List (Int × List UInt8 × Unit) × Int × Unit) =>
           ck (neb i 2) (some ((x.1.1, a.1, ()), 0, ())))
          fun (r : (Int × List (Int × List UInt8 × Unit) × Unit) × Int × Unit) => some r)))
      fun (r : (Int × List (Int × List UInt8 × Unit) × Unit) × Int × Unit) => some r))
noncomputable def ref07_Get (x : (Int × List (Int × List UInt8 × Unit) × Unit) ×
  Int × Unit) : Option (List UInt8 × Bool × Unit) :=
  lc
  (loop
   (fun (x_1 : Bool × Int × Unit) =>
    sel (lt x_1.2.1 (len x.1.2.1))
     (ck (inB x_1.2.1 (len x.1.2.1))
      (sel (beq (nth x.1.2.1 (nat x_1.2.1) (0, none' UInt8, ())).1 x.2.1)
       (ck (inB x_1.2.1 (len x.1.2.1))
        (some (LS.rt ((nth x.1.2.1 (nat x_1.2.1) (0, none' UInt8, ())).2.1, true, ()))))
       (some (LS.nx (x_1.1, i64 (iadd x_1.2.1 1), ())))))
     (some (LS.ex 0 (x_1.1, x_1.2.1, ()))))
   (false, 0, ()))
  (fun (a : Bool × Int × Unit) => none)
  (fun (i : Nat) (a : Bool × Int × Unit) => ck (neb i 0) (some (none' UInt8, false, ())))
  fun (r : List UInt8 × Bool × Unit) => some r
noncomputable def ref07_Drop (x : (Int × List (Int × List UInt8 × Unit) × Unit) ×
  Int × Unit) : Option ((Int × List (Int × List UInt8 × Unit) × Unit) × Unit) :=
  lc
  (loop
   (fun (x_1 : List (Int × List UInt8 × Unit) × Int × Unit) =>
    sel (lt x_1.2.1 (len x.1.2.1))
     (ck (inB x_1.2.1 (len x.1.2.1))
      (sel (bnot (beq (nth x.1.2.1 (nat x_1.2.1) (0, none' UInt8, ())).1 x.2.1))
       (ck (inB x_1.2.1 (len x.1.2.1))
        (ck (rm 56 (nadd (ln x_1.1) (ln [nth x.1.2.1 (nat x_1.2.1) (0, none' UInt8, ())])))
         (some
          (LS.nx
           (app x_1.1 [nth x.1.2.1 (nat x_1.2.1) (0, none' UInt8, ())], i64 (iadd x_1.2.1 1),
            ())))))
       (some (LS.nx (x_1.1, i64 (iadd x_1.2.1 1), ())))))
     (some (LS.ex 0 (x_1.1, x_1.2.1, ()))))
   (none' (Int × List UInt8 × Unit), 0, ()))
  (fun (a : List (Int × List UInt8 × Unit) × Int × Unit) => none)
  (fun (i : Nat) (a : List (Int × List UInt8 × Unit) × Int × Unit) => ck (neb i 0) (some ((x.1.1, a.1, ()), ())))
  fun (r : (Int × List (Int × List UInt8 × Unit) × Unit) × Unit) => some r
noncomputable def law07_IsoSets (x : (Int × List (Int × List UInt8 × Unit) × Unit) ×
  Int × List UInt8 × Unit) : Option (Bool × Unit) :=
  ob (law07_shown ()) fun (a : Bool × Unit) =>
  ob (ref07_Few (x.1, ())) fun (a_1 : Bool × Unit) =>
   ob
    (sel (bnot a_1.1) (some (true, ()))
     (ob (ref07_Right (x.1, ())) fun (a : Bool × Unit) =>
      sel (bnot a.1) (some (true, ())) (some (lt 450 (len x.2.2.1), ()))))
    fun (a_2 : Bool × Unit) =>
    sel a_2.1 (some (a.1, ()))
     (ob (iso_Set (x.1, x.2.1, x.2.2.1, ()))
      fun (a_3 : (Int × List (Int × List UInt8 × Unit) × Unit) × Int × Unit) =>
      ob (ref07_Set (x.1, x.2.1, x.2.2.1, ()))
       fun (a_4 : (Int × List (Int × List UInt8 × Unit) × Unit) × Int × Unit) =>
       ob (iso_Get (x.1, x.2.1, ())) fun (a_5 : List UInt8 × Bool × Unit) =>
        ob (ref07_Get (x.1, x.2.1, ())) fun (a_6 : List UInt8 × Bool × Unit) =>
         ob
          (sel a.1
           (ob (ref07_Same (a_3.1, a_4.1, ())) fun (a : Bool × Unit) =>
            sel a.1
            (sel (beq a_3.2.1 a_4.2.1)
            (ob (ref01_Same (a_5.1, a_6.1, ())) fun (a : Bool × Unit) =>
            sel a.1
            (sel (beb a_5.2.1 a_6.2.1)
            (ob (iso_Drop (x.1, x.2.1, ()))
            fun (a : (Int × List (Int × List UInt8 × Unit) × Unit) × Unit) =>
            ob (ref07_Drop (x.1, x.2.1, ()))
            fun (a_7 : (Int × List (Int × List UInt8 × Unit) × Unit) × Unit) =>
            ob (ref07_Same (a.1, a_7.1, ())) fun (a : Bool × Unit) => some (a.1, ()))
            (some (false, ())))
            (some (false, ())))
            (some (false, ())))
            (some (false, ())))
           (some (false, ())))
          fun (a : Bool × Unit) => some (a.1, ()))
noncomputable def law07_IsoBack (x : (Int × List (Int × List UInt8 × Unit) × Unit) ×
  List UInt8 × Unit) : Option (Bool × Unit) :=
  ob (law07_shown ()) fun (a : Bool × Unit) =>
  ob (ref07_Few (x.1, ())) fun (a_1 : Bool × Unit) =>
   ob (sel (bnot a_1.1) (some (true, ())) (some (lt 2500 (len x.2.1), ()))) fun (a_2 : Bool × Unit) =>
    sel a_2.1 (some (a.1, ()))
     (ob (iso_Write (x.1, ())) fun (a_3 : List UInt8 × Int × Unit) =>
      ob (ref07_Right (x.1, ())) fun (a_4 : Bool × Unit) =>
       sel (bnot (beb (beq a_3.2.1 0) a_4.1)) (some (false, ()))
        (sel (beq a_3.2.1 0)
         (ob (iso_Read (a_3.1, ())) fun (a_5 : (Int × List (Int × List UInt8 × Unit) × Unit) × Int × Unit) =>
          ob
           (sel (bnot (beq a_5.2.1 0)) (some (true, ()))
            (ob (ref07_Same (x.1, a_5.1, ())) fun (a : Bool × Unit) => some (bnot a.1, ())))
           fun (a_6 : Bool × Unit) =>
           sel a_6.1 (some (false, ()))
            (ob (iso_Read (x.2.1, ()))
            fun (a_7 : (Int × List (Int × List UInt8 × Unit) × Unit) × Int × Unit) =>
            sel (bnot (beq a_7.2.1 0))
            (ob
            (sel a.1
            (sel (beq (len a_7.1.2.1) 0) (some (beq a_7.1.1 0, ())) (some (false, ())))
            (some (false, ())))
            fun (a : Bool × Unit) => some (a.1, ()))
            (ob (iso_Write (a_7.1, ())) fun (a_8 : List UInt8 × Int × Unit) =>
            ob
            (sel a.1
            (sel (beq a_8.2.1 0)
            (ob (ref07_Right (a_7.1, ())) fun (a : Bool × Unit) =>
            sel a.1
            (ob (ref01_Same (a_8.1, x.2.1, ())) fun (a : Bool × Unit) =>
            some (a.1, ()))
            (some (false, ())))
            (some (false, ())))
            (some (false, ())))
            fun (a : Bool × Unit) => some (a.1, ()))))
         (ob (iso_Read (x.2.1, ())) fun (a_5 : (Int × List (Int × List UInt8 × Unit) × Unit) × Int × Unit) =>
          sel (bnot (beq a_5.2.1 0))
           (ob
            (sel a.1 (sel (beq (len a_5.1.2.1) 0) (some (beq a_5.1.1 0, ())) (some (false, ())))
            (some (false, ())))
            fun (a : Bool × Unit) => some (a.1, ()))
           (ob (iso_Write (a_5.1, ())) fun (a_6 : List UInt8 × Int × Unit) =>
            ob
            (sel a.1
            (sel (beq a_6.2.1 0)
            (ob (ref07_Right (a_5.1, ())) fun (a : Bool × Unit) =>
            sel a.1
            (ob (ref01_Same (a_6.1, x.2.1, ())) fun (a : Bool × Unit) => some (a.1, ()))
            (some (false, ())))
            (some (false, ())))
            (some (false, ())))
            fun (a : Bool × Unit) => some (a.1, ())))))
noncomputable def law07_IsoHolds (x : ((Int × List (Int × List UInt8 × Unit) × Unit) ×
   Int × List UInt8 × List UInt8 × Int × Unit) ×
  Unit) : Option (Bool × Unit) :=
  ob (law07_shown ()) fun (a : Bool × Unit) =>
  ob (ref07_Few (x.1.1, ())) fun (a_1 : Bool × Unit) =>
   ob
    (sel (bnot a_1.1) (some (true, ()))
     (ob (ref07_Right (x.1.1, ())) fun (a : Bool × Unit) =>
      sel (bnot a.1) (some (true, ()))
       (sel (lt 450 (len x.1.2.2.1)) (some (true, ())) (some (lt 450 (len x.1.2.2.2.1), ())))))
    fun (a_2 : Bool × Unit) =>
    sel a_2.1 (some (a.1, ()))
     (ob (iso_Set (x.1.1, x.1.2.1, x.1.2.2.1, ()))
      fun (a_3 : (Int × List (Int × List UInt8 × Unit) × Unit) × Int × Unit) =>
      sel (bnot (beq a_3.2.1 0))
       (ob
        (sel a.1 (ob (ref07_Same (a_3.1, x.1.1, ())) fun (a : Bool × Unit) => some (a.1, ()))
         (some (false, ())))
        fun (a : Bool × Unit) => some (a.1, ()))
       (ob (iso_Get (a_3.1, x.1.2.1, ())) fun (a_4 : List UInt8 × Bool × Unit) =>
        ob (iso_Set (a_3.1, x.1.2.1, x.1.2.2.2.1, ()))
         fun (a_5 : (Int × List (Int × List UInt8 × Unit) × Unit) × Int × Unit) =>
         ob (iso_Set (x.1.1, x.1.2.1, x.1.2.2.2.1, ()))
          fun (a_6 : (Int × List (Int × List UInt8 × Unit) × Unit) × Int × Unit) =>
          ob (iso_Drop (a_3.1, x.1.2.1, ()))
           fun (a_7 : (Int × List (Int × List UInt8 × Unit) × Unit) × Unit) =>
           ob (iso_Get (a_7.1, x.1.2.1, ())) fun (a_8 : List UInt8 × Bool × Unit) =>
            ob (iso_Get (x.1.1, x.1.2.2.2.2.1, ())) fun (a_9 : List UInt8 × Bool × Unit) =>
            ob (iso_Get (a_3.1, x.1.2.2.2.2.1, ())) fun (a_10 : List UInt8 × Bool × Unit) =>
            ob (iso_Get (a_7.1, x.1.2.2.2.2.1, ())) fun (a_11 : List UInt8 × Bool × Unit) =>
            ob
            (sel (bnot a_4.2.1) (some (true, ()))
            (ob (ref01_Same (a_4.1, x.1.2.2.1, ())) fun (a : Bool × Unit) =>
            sel (bnot a.1) (some (true, ()))
            (ob (ref07_Right (a_3.1, ())) fun (a : Bool × Unit) =>
            sel (bnot a.1) (some (true, ()))
            (sel (bnot (beq a_5.2.1 a_6.2.1)) (some (true, ()))
            (sel a_8.2.1 (some (true, ()))
            (ob (ref07_Right (a_7.1, ())) fun (a : Bool × Unit) =>
            sel (bnot a.1) (some (true, ()))
            (ob (iso_Drop (x.1.1, x.1.2.1, ()))
            fun (a : (Int × List (Int × List UInt8 × Unit) × Unit) × Unit) =>
            ob (ref07_Same (a_7.1, a.1, ())) fun (a : Bool × Unit) =>
            some (bnot a.1, ()))))))))
            fun (a_12 : Bool × Unit) =>
            sel a_12.1 (some (false, ()))
            (ob
            (sel (beq a_5.2.1 0)
            (ob (ref07_Same (a_5.1, a_6.1, ())) fun (a : Bool × Unit) =>
            sel (bnot a.1) (some (true, ()))
            (sel (bnot (beq a_5.2.1 0))
            (ob (ref07_Same (a_5.1, a_3.1, ())) fun (a : Bool × Unit) =>
            some (bnot a.1, ()))
            (some (false, ()))))
            (sel (bnot (beq a_5.2.1 0))
            (ob (ref07_Same (a_5.1, a_3.1, ())) fun (a : Bool × Unit) =>
            some (bnot a.1, ()))
            (some (false, ()))))
            fun (a_13 : Bool × Unit) =>
            sel a_13.1 (some (false, ()))
            (ob
            (sel a.1
            (sel (beq x.1.2.2.2.2.1 x.1.2.1) (some (true, ()))
            (sel (beb a_9.2.1 a_10.2.1)
            (sel (beb a_9.2.1 a_11.2.1)
            (ob (ref01_Same (a_9.1, a_10.1, ())) fun (a : Bool × Unit) =>
            sel a.1
            (ob (ref01_Same (a_9.1, a_11.1, ())) fun (a : Bool × Unit) =>
            some (a.1, ()))
            (some (false, ())))
            (some (false, ())))
            (some (false, ()))))
            (some (false, ())))
            fun (a : Bool × Unit) => some (a.1, ())))))
noncomputable def law07_IsoCuts (x : (Int × List (Int × List UInt8 × Unit) × Unit) ×
  UInt16 × UInt8 × Unit) : Option (Bool × Unit) :=
  ob (law07_shown ()) fun (a : Bool × Unit) =>
  ob (ref07_Few (x.1, ())) fun (a_1 : Bool × Unit) =>
   ob
    (sel (bnot a_1.1) (some (true, ()))
     (ob (ref07_Right (x.1, ())) fun (a : Bool × Unit) => some (bnot a.1, ())))
    fun (a_2 : Bool × Unit) =>
    sel a_2.1 (some (a.1, ()))
     (ob (iso_Write (x.1, ())) fun (a_3 : List UInt8 × Int × Unit) =>
      ob (sel (bnot (beq a_3.2.1 0)) (some (true, ())) (some (lt (len a_3.1) 10, ())))
       fun (a_4 : Bool × Unit) =>
       sel a_4.1 (some (false, ()))
        (ck (bnot (beq (len a_3.1) 0))
         (ck (inC 0 (imod (i64 (n16 x.2.1)) (len a_3.1)) (len a_3.1))
          (ob
           (iso_Read (cut a_3.1 (nat 0) (nsub (nat (imod (i64 (n16 x.2.1)) (len a_3.1))) (nat 0)), ()))
           fun (a_5 : (Int × List (Int × List UInt8 × Unit) × Unit) × Int × Unit) =>
           ck (rm 1 (nadd (ln (none' UInt8)) (ln a_3.1)))
            (ck (rm 1 (nadd (ln (app (none' UInt8) a_3.1)) (ln [x.2.2.1])))
            (ob (iso_Read (app (app (none' UInt8) a_3.1) [x.2.2.1], ()))
            fun (a_6 : (Int × List (Int × List UInt8 × Unit) × Unit) × Int × Unit) =>
            ob
            (sel a.1
            (sel (beq a_5.2.1 3)
            (sel (beq a_6.2.1 4)
            (sel (beq (len a_5.1.2.1) 0) (some (beq (len a_6.1.2.1) 0, ()))
            (some (false, ())))
            (some (false, ())))
            (some (false, ())))
            (some (false, ())))
            fun (a : Bool × Unit) => some (a.1, ())))))))
noncomputable def law07_IsoApart (x : (Int × List (Int × List UInt8 × Unit) × Unit) ×
  (Int × List (Int × List UInt8 × Unit) × Unit) × Unit) : Option (Bool × Unit) :=
  ob (law07_shown ()) fun (a : Bool × Unit) =>
  ob (ref07_Few (x.1, ())) fun (a_1 : Bool × Unit) =>
   ob
    (sel (bnot a_1.1) (some (true, ()))
     (ob (ref07_Few (x.2.1, ())) fun (a : Bool × Unit) =>
      sel (bnot a.1) (some (true, ()))
       (ob (ref07_Right (x.1, ())) fun (a : Bool × Unit) =>
        sel (bnot a.1) (some (true, ()))
         (ob (ref07_Right (x.2.1, ())) fun (a : Bool × Unit) => some (bnot a.1, ())))))
    fun (a_2 : Bool × Unit) =>
    sel a_2.1 (some (a.1, ()))
     (ob (iso_Write (x.1, ())) fun (a_3 : List UInt8 × Int × Unit) =>
      ob (iso_Write (x.2.1, ())) fun (a_4 : List UInt8 × Int × Unit) =>
       ob
        (sel a.1
         (sel (beq a_3.2.1 0)
          (sel (beq a_4.2.1 0)
           (ck (inC 0 (minI (len a_3.1) (len a_4.1)) (len a_3.1))
            (ck (inC 0 (minI (len a_3.1) (len a_4.1)) (len a_4.1))
            (ob
            (ref01_Same
            (cut a_3.1 (nat 0) (nsub (nat (minI (len a_3.1) (len a_4.1))) (nat 0)),
            cut a_4.1 (nat 0) (nsub (nat (minI (len a_3.1) (len a_4.1))) (nat 0)), ()))
            fun (a : Bool × Unit) =>
            ob (ref07_Same (x.1, x.2.1, ())) fun (a_5 : Bool × Unit) =>
            some (beb a.1 a_5.1, ()))))
           (some (false, ())))
          (some (false, ())))
         (some (false, ())))
        fun (a : Bool × Unit) => some (a.1, ()))
noncomputable def law07_IsoTypes (x : UInt16 × Unit) : Option (Bool × Unit) :=
  ob (law07_shown ()) fun (a : Bool × Unit) =>
  ob
   (sel (lt (imod (i64 (n16 x.1)) 1100) 1000)
    (sel (le 1 (i64 (idiv (imod (i64 (n16 x.1)) 1100) 100)))
     (sel (le (i64 (idiv (imod (i64 (n16 x.1)) 1100) 100)) 8)
      (sel (le (imod (i64 (idiv (imod (i64 (n16 x.1)) 1100) 10)) 10) 4)
       (some (le (imod (imod (i64 (n16 x.1)) 1100) 10) 5, ())) (some (false, ())))
      (some (false, ())))
     (some (false, ())))
    (some (false, ())))
   fun (a_1 : Bool × Unit) =>
   ob (sel a_1.1 (some (i64 (idiv (imod (i64 (n16 x.1)) 1100) 100), ())) (some (0, ()))) fun (a_2 : Int × Unit) =>
    ob (iso_Reply (imod (i64 (n16 x.1)) 1100, ())) fun (a_3 : Int × Bool × Unit) =>
     ob (iso_Type (imod (i64 (n16 x.1)) 1100, ())) fun (a_4 : Bool × Unit) =>
      ob
       (sel (bnot (beb a_4.1 a_1.1)) (some (true, ()))
        (ob (iso_Class (imod (i64 (n16 x.1)) 1100, ())) fun (a : Int × Unit) =>
         sel (bnot (beq a.1 a_2.1)) (some (true, ()))
          (sel a_1.1
           (sel (beq (imod (i64 (idiv (imod (i64 (n16 x.1)) 1100) 10)) 2) 0)
            (some (bnot (beb a_3.2.1 (lt (imod (i64 (idiv (imod (i64 (n16 x.1)) 1100) 10)) 10) 4)), ()))
            (some (bnot (beb a_3.2.1 false), ())))
           (some (bnot (beb a_3.2.1 false), ())))))
       fun (a_5 : Bool × Unit) =>
       sel a_5.1 (some (false, ()))
        (sel (bnot a_3.2.1)
         (ob (sel a.1 (some (beq a_3.1 0, ())) (some (false, ()))) fun (a : Bool × Unit) => some (a.1, ()))
         (ob (iso_Reply (a_3.1, ())) fun (a_6 : Int × Bool × Unit) =>
          ob
           (sel a.1
            (ob (iso_Type (a_3.1, ())) fun (a : Bool × Unit) =>
            sel a.1
            (ob (iso_Class (a_3.1, ())) fun (a : Int × Unit) =>
            sel (beq a.1 a_2.1)
            (sel (beq (imod a_3.1 10) (imod (imod (i64 (n16 x.1)) 1100) 10))
            (sel (beq a_3.1 (i64 (iadd (imod (i64 (n16 x.1)) 1100) 10)))
            (some (bnot a_6.2.1, ())) (some (false, ())))
            (some (false, ())))
            (some (false, ())))
            (some (false, ())))
            (some (false, ())))
           fun (a : Bool × Unit) => some (a.1, ())))
noncomputable def note_kind_keyed (x : (Bool × Int × Int × Int × Int × List UInt8 × List UInt8 × Int × Unit) ×
  Unit) : Option (Bool × Unit) :=
  ob
  (sel (le 1 x.1.2.2.2.2.1)
   (sel (le x.1.2.2.2.2.1 2147483647)
    (sel (beq (len x.1.2.2.2.2.2.1) 8)
     (sel (beq (len x.1.2.2.2.2.2.2.1) 3) (some (beq x.1.2.2.2.2.2.2.2.1 0, ()))
      (some (false, ())))
     (some (false, ())))
    (some (false, ())))
   (some (false, ())))
  fun (a : Bool × Unit) => some (a.1, ())
noncomputable def note_kind_bare (x : (Bool × Int × Int × Int × Int × List UInt8 × List UInt8 × Int × Unit) ×
  Unit) : Option (Bool × Unit) :=
  ob
  (sel (beq x.1.2.2.2.2.1 0)
   (sel (beq (len x.1.2.2.2.2.2.1) 0)
    (sel (beq (len x.1.2.2.2.2.2.2.1) 0) (some (beq x.1.2.2.2.2.2.2.2.1 0, ()))
     (some (false, ())))
    (some (false, ())))
   (some (false, ())))
  fun (a : Bool × Unit) => some (a.1, ())
noncomputable def note_kind_dated (x : (Bool × Int × Int × Int × Int × List UInt8 × List UInt8 × Int × Unit) ×
  Unit) : Option (Bool × Unit) :=
  ob
  (sel (le 0 x.1.2.2.2.2.2.2.2.1)
   (sel (le x.1.2.2.2.2.2.2.2.1 999999)
    (ob
     (note_kind_bare
      ((x.1.1, x.1.2.1, x.1.2.2.1, x.1.2.2.2.1, x.1.2.2.2.2.1,
        x.1.2.2.2.2.2.1, x.1.2.2.2.2.2.2.1, 0,
        x.1.2.2.2.2.2.2.2.2),
       ()))
     fun (a : Bool × Unit) => some (a.1, ()))
    (some (false, ())))
   (some (false, ())))
  fun (a : Bool × Unit) => some (a.1, ())
noncomputable def note_Right (x : (Bool × Int × Int × Int × Int × List UInt8 × List UInt8 × Int × Unit) ×
  Unit) : Option (Bool × Unit) :=
  ob
  (sel (lt x.1.2.2.1 1) (some (true, ()))
   (sel (lt 999999 x.1.2.2.1) (some (true, ()))
    (sel (lt x.1.2.2.2.1 0) (some (true, ()))
     (sel (lt 99 x.1.2.2.2.1) (some (true, ()))
      (sel x.1.1 (some (lt 0 x.1.2.2.2.1, ())) (some (false, ())))))))
  fun (a : Bool × Unit) => sel a.1 (some (false, ())) none
noncomputable def note_figures (x : Int × Int × Unit) : Option (List UInt8 × Unit) :=
  ob (dig_Digits (x.1, x.2.1, ())) fun (a : List UInt8 × Int × Unit) => ck (rm 1 (ln a.1)) (some (a.1, ()))
noncomputable def note_message (x : (Bool × Int × Int × Int × Int × List UInt8 × List UInt8 × Int × Unit) ×
  Unit) : Option ((Int × List (Int × List UInt8 × Unit) × Unit) × Unit) :=
  ob (note_figures (x.1.2.2.1, 6, ())) fun (a : List UInt8 × Unit) =>
  ob (iso_Set ((810, none' (Int × List UInt8 × Unit), ()), 11, a.1, ()))
   fun (a : (Int × List (Int × List UInt8 × Unit) × Unit) × Int × Unit) =>
   ob (note_figures (x.1.2.1, 3, ())) fun (a_1 : List UInt8 × Unit) =>
    ob (iso_Set (a.1, 70, a_1.1, ())) fun (a : (Int × List (Int × List UInt8 × Unit) × Unit) × Int × Unit) =>
     sel (bnot x.1.1)
      (ob (note_figures (x.1.2.2.2.1, 2, ())) fun (a_2 : List UInt8 × Unit) =>
       ob (iso_Set (a.1, 39, a_2.1, ()))
        fun (a : (Int × List (Int × List UInt8 × Unit) × Unit) × Int × Unit) => some (a.1, ()))
      (sel (beq x.1.2.1 101)
       (ob (dig_Hex (x.1.2.2.2.2.2.2.1, ())) fun (a_2 : List UInt8 × Unit) =>
        ck (rm 1 (ln a_2.1))
         (ob (iso_Set ((800, a.1.2), 48, a_2.1, ()))
          fun (a : (Int × List (Int × List UInt8 × Unit) × Unit) × Int × Unit) =>
          ob (note_figures (x.1.2.2.2.2.1, 16, ())) fun (a_3 : List UInt8 × Unit) =>
           ob (iso_Set (a.1, 53, a_3.1, ()))
            fun (a : (Int × List (Int × List UInt8 × Unit) × Unit) × Int × Unit) =>
            ob (iso_Set (a.1, 96, x.1.2.2.2.2.2.1, ()))
            fun (a : (Int × List (Int × List UInt8 × Unit) × Unit) × Int × Unit) => some (a.1, ())))
       (sel (beq x.1.2.1 201)
        (ob (note_figures (x.1.2.2.2.2.2.2.2.1, 6, ())) fun (a_2 : List UInt8 × Unit) =>
         ob (iso_Set ((800, a.1.2), 15, a_2.1, ()))
          fun (a : (Int × List (Int × List UInt8 × Unit) × Unit) × Int × Unit) => some (a.1, ()))
        (some ((800, a.1.2), ()))))
noncomputable def note_Write (x : (Bool × Int × Int × Int × Int × List UInt8 × List UInt8 × Int × Unit) ×
  Unit) : Option (List UInt8 × Int × Unit) :=
  ob (note_Right (x.1, ())) fun (a : Bool × Unit) =>
  sel (bnot a.1) (some (none' UInt8, 1, ()))
   (ob (note_message (x.1, ())) fun (a : (Int × List (Int × List UInt8 × Unit) × Unit) × Unit) =>
    ob (iso_Write (a.1, ())) fun (a : List UInt8 × Int × Unit) => some (a.1, a.2.1, ()))
noncomputable def note_Same (x : (Bool × Int × Int × Int × Int × List UInt8 × List UInt8 × Int × Unit) ×
  (Bool × Int × Int × Int × Int × List UInt8 × List UInt8 × Int × Unit) × Unit) : Option (Bool × Unit) :=
  ob
  (sel (beb x.1.1 x.2.1.1)
   (sel (beq x.1.2.1 x.2.1.2.1)
    (sel (beq x.1.2.2.1 x.2.1.2.2.1)
     (sel (beq x.1.2.2.2.1 x.2.1.2.2.2.1)
      (sel (beq x.1.2.2.2.2.1 x.2.1.2.2.2.2.1)
       (sel (beq x.1.2.2.2.2.2.2.2.1 x.2.1.2.2.2.2.2.2.2.1)
        (ob (bytes_Equal (x.1.2.2.2.2.2.1, x.2.1.2.2.2.2.2.1, ()))
         fun (a : Bool × Unit) =>
         sel a.1
          (ob (bytes_Equal (x.1.2.2.2.2.2.2.1, x.2.1.2.2.2.2.2.2.1, ()))
           fun (a : Bool × Unit) => some (a.1, ()))
          (some (false, ())))
        (some (false, ())))
       (some (false, ())))
      (some (false, ())))
     (some (false, ())))
    (some (false, ())))
   (some (false, ())))
  fun (a : Bool × Unit) => some (a.1, ())
noncomputable def note_Answer (x : (Bool × Int × Int × Int × Int × List UInt8 × List UInt8 × Int × Unit) ×
  Int × Unit) : Option ((Bool × Int × Int × Int × Int × List UInt8 × List UInt8 × Int × Unit) × Int × Unit) :=
  sel (bnot x.1.1) (some ((false, 0, 0, 0, 0, none' UInt8, none' UInt8, 0, ()), 9, ()))
  (ob (sel (lt x.2.1 0) (some (true, ())) (some (lt 99 x.2.1, ()))) fun (a : Bool × Unit) =>
   sel a.1 (some ((false, 0, 0, 0, 0, none' UInt8, none' UInt8, 0, ()), 1, ()))
    (some ((false, x.1.2.1, x.1.2.2.1, x.2.1, 0, none' UInt8, none' UInt8, 0, ()), 0, ())))
noncomputable def note_Read (x : List UInt8 ×
  Unit) : Option ((Bool × Int × Int × Int × Int × List UInt8 × List UInt8 × Int × Unit) × Int × Unit) :=
  ob (iso_Read (x.1, ())) fun (a : (Int × List (Int × List UInt8 × Unit) × Unit) × Int × Unit) =>
  sel (bnot (beq a.2.1 0)) (some ((false, 0, 0, 0, 0, none' UInt8, none' UInt8, 0, ()), a.2.1, ())) none
noncomputable def law16_shown (x : Unit) : Option (Bool × Unit) :=
  ob (note_Write ((true, 301, 7, 0, 0, none' UInt8, none' UInt8, 0, ()), ())) fun (a : List UInt8 × Int × Unit) =>
  ob (note_Read (a.1, ()))
   fun (a_1 : (Bool × Int × Int × Int × Int × List UInt8 × List UInt8 × Int × Unit) × Int × Unit) =>
   ob (note_Answer (a_1.1, 0, ()))
    fun (a_2 : (Bool × Int × Int × Int × Int × List UInt8 × List UInt8 × Int × Unit) × Int × Unit) =>
    ob (note_Write (a_2.1, ())) fun (a_3 : List UInt8 × Int × Unit) =>
     ob
      (sel (beq a.2.1 0)
       (ob (ref01_Hex (a.1, ())) fun (a : List UInt8 × Unit) =>
        sel
         (seq a.1
          [48, 56, 48, 48, 56, 48, 50, 48, 48, 48, 48, 48, 48, 48, 48, 48, 48, 48, 48, 48, 48, 52, 48, 48, 48,
           48, 48, 48, 48, 48, 48, 48, 48, 48, 48, 48, 48, 48, 48, 48, 48, 55, 48, 51, 48, 49])
         (sel (beq a_1.2.1 0)
          (ob (note_Same (a_1.1, (true, 301, 7, 0, 0, none' UInt8, none' UInt8, 0, ()), ()))
           fun (a : Bool × Unit) =>
           sel a.1
            (sel (beq a_2.2.1 0)
            (sel (beq a_2.1.2.2.1 7)
            (sel (bnot a_2.1.1)
            (sel (beq a_3.2.1 0)
            (ck (inC 0 2 (len a_3.1))
            (ob (ref01_Hex (cut a_3.1 (nat 0) (nsub (nat 2) (nat 0)), ()))
            fun (a : List UInt8 × Unit) =>
            sel (seq a.1 [48, 56, 49, 48])
            (ob (note_Right ((true, 301, 7, 0, 0, none' UInt8, none' UInt8, 0, ()), ()))
            fun (a : Bool × Unit) =>
            sel a.1
            (ob (note_Right ((false, 0, 0, 0, 0, none' UInt8, none' UInt8, 0, ()), ()))
            fun (a : Bool × Unit) =>
            sel (bnot a.1)
            (ob
            (note_Same
            ((true, 301, 7, 0, 0, none' UInt8, none' UInt8, 0, ()), a_2.1, ()))
            fun (a : Bool × Unit) => some (bnot a.1, ()))
            (some (false, ())))
            (some (false, ())))
            (some (false, ()))))
            (some (false, ())))
            (some (false, ())))
            (some (false, ())))
            (some (false, ())))
            (some (false, ())))
          (some (false, ())))
         (some (false, ())))
       (some (false, ())))
      fun (a : Bool × Unit) => some (a.1, ())
noncomputable def ref16_Few (x : (Bool × Int × Int × Int × Int × List UInt8 × List UInt8 × Int × Unit) ×
  Unit) : Option (Bool × Unit) :=
  ob
  (sel (le (len x.1.2.2.2.2.2.1) 50) (some (le (len x.1.2.2.2.2.2.2.1) 50, ()))
   (some (false, ())))
  fun (a : Bool × Unit) => some (a.1, ())
noncomputable def ref15_Known (x : Int × Unit) : Option (Bool × Unit) :=
  ob
  (sel (beq x.1 1) (some (true, ()))
   (sel (beq x.1 2) (some (true, ()))
    (sel (beq x.1 101) (some (true, ())) (sel (beq x.1 201) (some (true, ())) (some (beq x.1 301, ()))))))
  fun (a : Bool × Unit) => some (a.1, ())
noncomputable def ref16_Right (x : (Bool × Int × Int × Int × Int × List UInt8 × List UInt8 × Int × Unit) ×
  Unit) : Option (Bool × Unit) :=
  ob (ref15_Known (x.1.2.1, ())) fun (a : Bool × Unit) =>
  ob
   (sel (bnot a.1) (some (true, ()))
    (sel (lt x.1.2.2.1 1) (some (true, ()))
     (sel (lt 999999 x.1.2.2.1) (some (true, ()))
      (sel (lt x.1.2.2.2.1 0) (some (true, ()))
       (sel (lt 99 x.1.2.2.2.1) (some (true, ()))
        (sel x.1.1 (some (bnot (beq x.1.2.2.2.1 0), ())) (some (false, ()))))))))
   fun (a : Bool × Unit) =>
   sel a.1 (some (false, ()))
    (ob (sel x.1.1 (some (beq x.1.2.1 101, ())) (some (false, ()))) fun (a : Bool × Unit) =>
     sel a.1
      (ob
       (sel (le 1 x.1.2.2.2.2.1)
        (sel (le x.1.2.2.2.2.1 2147483647)
         (sel (beq (len x.1.2.2.2.2.2.1) 8)
          (sel (beq (len x.1.2.2.2.2.2.2.1) 3)
           (some (beq x.1.2.2.2.2.2.2.2.1 0, ())) (some (false, ())))
          (some (false, ())))
         (some (false, ())))
        (some (false, ())))
       fun (a : Bool × Unit) => some (a.1, ()))
      (ob
       (sel (bnot (beq x.1.2.2.2.2.1 0)) (some (true, ()))
        (sel (bnot (beq (len x.1.2.2.2.2.2.1) 0)) (some (true, ()))
         (some (bnot (beq (len x.1.2.2.2.2.2.2.1) 0), ()))))
       fun (a : Bool × Unit) =>
       sel a.1 (some (false, ()))
        (ob (sel x.1.1 (some (beq x.1.2.1 201, ())) (some (false, ()))) fun (a : Bool × Unit) =>
         sel a.1
          (ob
           (sel (le 0 x.1.2.2.2.2.2.2.2.1)
            (some (le x.1.2.2.2.2.2.2.2.1 999999, ())) (some (false, ())))
           fun (a : Bool × Unit) => some (a.1, ()))
          (some (beq x.1.2.2.2.2.2.2.2.1 0, ())))))
noncomputable def ref16_figures (x : Int × Int × Unit) : Option (List UInt8 × Unit) :=
  ob (ref01_Digits (x.1, x.2.1, ())) fun (a : List UInt8 × Int × Unit) => ck (rm 1 (ln a.1)) (some (a.1, ()))
noncomputable def ref16_Message (x : (Bool × Int × Int × Int × Int × List UInt8 × List UInt8 × Int × Unit) ×
  Unit) : Option ((Int × List (Int × List UInt8 × Unit) × Unit) × Unit) :=
  ob (ref16_figures (x.1.2.2.1, 6, ())) fun (a : List UInt8 × Unit) =>
  sel (bnot x.1.1)
   (ob (ref16_figures (x.1.2.2.2.1, 2, ())) fun (a_1 : List UInt8 × Unit) =>
    ob (ref16_figures (x.1.2.1, 3, ())) fun (a_2 : List UInt8 × Unit) =>
     ck (rm 56 (nadd (ln [(11, a.1, ())]) (ln [(39, a_1.1, ()), (70, a_2.1, ())])))
      (some ((810, app [(11, a.1, ())] [(39, a_1.1, ()), (70, a_2.1, ())], ()), ())))
   (sel (beq x.1.2.1 201)
    (ob (ref16_figures (x.1.2.2.2.2.2.2.2.1, 6, ())) fun (a_1 : List UInt8 × Unit) =>
     ck (rm 56 (nadd (ln [(11, a.1, ())]) (ln [(15, a_1.1, ())])))
      (sel (beq x.1.2.1 101)
       (ob (ref01_Hex (x.1.2.2.2.2.2.2.1, ())) fun (a_2 : List UInt8 × Unit) =>
        ck (rm 1 (ln a_2.1))
         (ob (ref16_figures (x.1.2.2.2.2.1, 16, ())) fun (a_3 : List UInt8 × Unit) =>
          ck
           (rm 56
            (nadd (ln (app [(11, a.1, ())] [(15, a_1.1, ())]))
            (ln [(48, a_2.1, ()), (53, a_3.1, ())])))
           (ob (ref16_figures (x.1.2.1, 3, ())) fun (a_4 : List UInt8 × Unit) =>
            ck
            (rm 56
            (nadd
            (ln
            (app (app [(11, a.1, ())] [(15, a_1.1, ())]) [(48, a_2.1, ()), (53, a_3.1, ())]))
            (ln [(70, a_4.1, ())])))
            (sel (beq x.1.2.1 101)
            (ck
            (rm 56
            (nadd
            (ln
            (app
            (app (app [(11, a.1, ())] [(15, a_1.1, ())])
            [(48, a_2.1, ()), (53, a_3.1, ())])
            [(70, a_4.1, ())]))
            (ln [(96, x.1.2.2.2.2.2.1, ())])))
            (some
            ((800,
            app
            (app
            (app (app [(11, a.1, ())] [(15, a_1.1, ())])
            [(48, a_2.1, ()), (53, a_3.1, ())])
            [(70, a_4.1, ())])
            [(96, x.1.2.2.2.2.2.1, ())],
            ()),
            ())))
            (some
            ((800,
            app
            (app (app [(11, a.1, ())] [(15, a_1.1, ())])
            [(48, a_2.1, ()), (53, a_3.1, ())])
            [(70, a_4.1, ())],
            ()),
            ()))))))
       (ob (ref16_figures (x.1.2.1, 3, ())) fun (a_2 : List UInt8 × Unit) =>
        ck (rm 56 (nadd (ln (app [(11, a.1, ())] [(15, a_1.1, ())])) (ln [(70, a_2.1, ())])))
         (sel (beq x.1.2.1 101)
          (ck
           (rm 56
            (nadd (ln (app (app [(11, a.1, ())] [(15, a_1.1, ())]) [(70, a_2.1, ())]))
            (ln [(96, x.1.2.2.2.2.2.1, ())])))
           (some
            ((800,
            app (app (app [(11, a.1, ())] [(15, a_1.1, ())]) [(70, a_2.1, ())])
            [(96, x.1.2.2.2.2.2.1, ())],
            ()),
            ())))
          (some ((800, app (app [(11, a.1, ())] [(15, a_1.1, ())]) [(70, a_2.1, ())], ()), ()))))))
    (sel (beq x.1.2.1 101)
     (ob (ref01_Hex (x.1.2.2.2.2.2.2.1, ())) fun (a_1 : List UInt8 × Unit) =>
      ck (rm 1 (ln a_1.1))
       (ob (ref16_figures (x.1.2.2.2.2.1, 16, ())) fun (a_2 : List UInt8 × Unit) =>
        ck (rm 56 (nadd (ln [(11, a.1, ())]) (ln [(48, a_1.1, ()), (53, a_2.1, ())])))
         (ob (ref16_figures (x.1.2.1, 3, ())) fun (a_3 : List UInt8 × Unit) =>
          ck
           (rm 56
            (nadd (ln (app [(11, a.1, ())] [(48, a_1.1, ()), (53, a_2.1, ())]))
            (ln [(70, a_3.1, ())])))
           (sel (beq x.1.2.1 101)
            (ck
            (rm 56
            (nadd
            (ln
            (app (app [(11, a.1, ())] [(48, a_1.1, ()), (53, a_2.1, ())]) [(70, a_3.1, ())]))
            (ln [(96, x.1.2.2.2.2.2.1, ())])))
            (some
            ((800,
            app
            (app (app [(11, a.1, ())] [(48, a_1.1, ()), (53, a_2.1, ())]) [(70, a_3.1, ())])
            [(96, x.1.2.2.2.2.2.1, ())],
            ()),
            ())))
            (some
            ((800, app (app [(11, a.1, ())] [(48, a_1.1, ()), (53, a_2.1, ())]) [(70, a_3.1, ())],
            ()),
            ()))))))
     (ob (ref16_figures (x.1.2.1, 3, ())) fun (a_1 : List UInt8 × Unit) =>
      ck (rm 56 (nadd (ln [(11, a.1, ())]) (ln [(70, a_1.1, ())])))
       (sel (beq x.1.2.1 101)
        (ck
         (rm 56
          (nadd (ln (app [(11, a.1, ())] [(70, a_1.1, ())]))
           (ln [(96, x.1.2.2.2.2.2.1, ())])))
         (some
          ((800, app (app [(11, a.1, ())] [(70, a_1.1, ())]) [(96, x.1.2.2.2.2.2.1, ())], ()),
           ())))
        (some ((800, app [(11, a.1, ())] [(70, a_1.1, ())], ()), ()))))))
noncomputable def ref16_Write (x : (Bool × Int × Int × Int × Int × List UInt8 × List UInt8 × Int × Unit) ×
  Unit) : Option (List UInt8 × Int × Unit) :=
  ob (ref16_Right (x.1, ())) fun (a : Bool × Unit) =>
  sel (bnot a.1) (some (none' UInt8, 1, ()))
   (ob (ref16_Message (x.1, ())) fun (a : (Int × List (Int × List UInt8 × Unit) × Unit) × Unit) =>
    ob (ref07_Write (a.1, ())) fun (a : List UInt8 × Int × Unit) => some (a.1, 0, ()))
noncomputable def ref16_Same (x : (Bool × Int × Int × Int × Int × List UInt8 × List UInt8 × Int × Unit) ×
  (Bool × Int × Int × Int × Int × List UInt8 × List UInt8 × Int × Unit) × Unit) : Option (Bool × Unit) :=
  ob
  (sel (beb x.1.1 x.2.1.1)
   (sel (beq x.1.2.1 x.2.1.2.1)
    (sel (beq x.1.2.2.1 x.2.1.2.2.1)
     (sel (beq x.1.2.2.2.1 x.2.1.2.2.2.1)
      (sel (beq x.1.2.2.2.2.1 x.2.1.2.2.2.2.1)
       (sel (beq x.1.2.2.2.2.2.2.2.1 x.2.1.2.2.2.2.2.2.2.1)
        (ob (ref01_Same (x.1.2.2.2.2.2.1, x.2.1.2.2.2.2.2.1, ()))
         fun (a : Bool × Unit) =>
         sel a.1
          (ob (ref01_Same (x.1.2.2.2.2.2.2.1, x.2.1.2.2.2.2.2.2.1, ()))
           fun (a : Bool × Unit) => some (a.1, ()))
          (some (false, ())))
        (some (false, ())))
       (some (false, ())))
      (some (false, ())))
     (some (false, ())))
    (some (false, ())))
   (some (false, ())))
  fun (a : Bool × Unit) => some (a.1, ())
noncomputable def ref16_Answer (x : (Bool × Int × Int × Int × Int × List UInt8 × List UInt8 × Int × Unit) ×
  Int × Unit) : Option ((Bool × Int × Int × Int × Int × List UInt8 × List UInt8 × Int × Unit) × Int × Unit) :=
  sel (bnot x.1.1) (some ((false, 0, 0, 0, 0, none' UInt8, none' UInt8, 0, ()), 9, ()))
  (ob (sel (lt x.2.1 0) (some (true, ())) (some (lt 99 x.2.1, ()))) fun (a : Bool × Unit) =>
   sel a.1 (some ((false, 0, 0, 0, 0, none' UInt8, none' UInt8, 0, ()), 1, ()))
    (some ((false, x.1.2.1, x.1.2.2.1, x.2.1, 0, none' UInt8, none' UInt8, 0, ()), 0, ())))
noncomputable def law16_NoteTells (x : (Bool × Int × Int × Int × Int × List UInt8 × List UInt8 × Int × Unit) ×
  (Bool × Int × Int × Int × Int × List UInt8 × List UInt8 × Int × Unit) × Int × Unit) : Option (Bool × Unit) :=
  ob (law16_shown ()) fun (a : Bool × Unit) =>
  ob (ref16_Few (x.1, ())) fun (a_1 : Bool × Unit) =>
   ob
    (sel (bnot a_1.1) (some (true, ()))
     (ob (ref16_Few (x.2.1, ())) fun (a : Bool × Unit) => some (bnot a.1, ())))
    fun (a_2 : Bool × Unit) =>
    sel a_2.1 (some (a.1, ()))
     (ob (note_Write (x.1, ())) fun (a_3 : List UInt8 × Int × Unit) =>
      ob (ref16_Write (x.1, ())) fun (a_4 : List UInt8 × Int × Unit) =>
       ob (ref16_Right (x.1, ())) fun (a_5 : Bool × Unit) =>
        ob (ref01_Same (a_3.1, a_4.1, ())) fun (a_6 : Bool × Unit) =>
         ob
          (sel (bnot a_6.1) (some (true, ()))
           (sel (bnot (beq a_3.2.1 a_4.2.1)) (some (true, ()))
            (ob (note_Right (x.1, ())) fun (a : Bool × Unit) =>
            sel (bnot (beb a.1 a_5.1)) (some (true, ()))
            (ob (note_Same (x.1, x.2.1, ())) fun (a : Bool × Unit) =>
            ob (ref16_Same (x.1, x.2.1, ())) fun (a_7 : Bool × Unit) =>
            some (bnot (beb a.1 a_7.1), ())))))
          fun (a_7 : Bool × Unit) =>
          sel a_7.1 (some (false, ()))
           (sel (bnot a_5.1) (some (a.1, ()))
            (ob (note_Answer (x.1, x.2.2.1, ()))
            fun
            (a_8 : (Bool × Int × Int × Int × Int × List UInt8 × List UInt8 × Int × Unit) × Int × Unit) =>
            ob (ref16_Answer (x.1, x.2.2.1, ()))
            fun
            (a_9 :
            (Bool × Int × Int × Int × Int × List UInt8 × List UInt8 × Int × Unit) × Int × Unit) =>
            ob
            (sel a.1
            (ob (ref16_Same (a_8.1, a_9.1, ())) fun (a : Bool × Unit) =>
            sel a.1 (some (beq a_8.2.1 a_9.2.1, ())) (some (false, ())))
            (some (false, ())))
            fun (a : Bool × Unit) => some (a.1, ()))))
noncomputable def ref16_number (x : (Int × List (Int × List UInt8 × Unit) × Unit) × Int × Unit) : Option (Int × Unit) :=
  ob (ref07_Get (x.1, x.2.1, ())) fun (a : List UInt8 × Bool × Unit) =>
  ob (ref01_Value (a.1, ())) fun (a : Int × Int × Unit) => some (a.1, ())
noncomputable def ref16_Read (x : List UInt8 ×
  Unit) : Option ((Bool × Int × Int × Int × Int × List UInt8 × List UInt8 × Int × Unit) × Int × Unit) :=
  ob (ref07_Read (x.1, ())) fun (a : (Int × List (Int × List UInt8 × Unit) × Unit) × Int × Unit) =>
  sel (bnot (beq a.2.1 0)) (some ((false, 0, 0, 0, 0, none' UInt8, none' UInt8, 0, ()), a.2.1, ()))
   (ob (ref07_Get (a.1, 96, ())) fun (a_1 : List UInt8 × Bool × Unit) =>
    ob (ref07_Get (a.1, 48, ())) fun (a_2 : List UInt8 × Bool × Unit) =>
     ob (ref01_Unhex (a_2.1, ())) fun (a_3 : List UInt8 × Int × Unit) =>
      ob (ref16_number (a.1, 70, ())) fun (a_4 : Int × Unit) =>
       ob (ref16_number (a.1, 11, ())) fun (a_5 : Int × Unit) =>
        ob (ref16_number (a.1, 39, ())) fun (a_6 : Int × Unit) =>
         ob (ref16_number (a.1, 53, ())) fun (a_7 : Int × Unit) =>
          ob (ref16_number (a.1, 15, ())) fun (a_8 : Int × Unit) =>
           ob
            (ref16_Write
            ((beq a.1.1 800, a_4.1, a_5.1, a_6.1, a_7.1, a_1.1, a_3.1, a_8.1, ()), ()))
            fun (a_9 : List UInt8 × Int × Unit) =>
            ob
            (sel (bnot (beq a_9.2.1 0)) (some (true, ()))
            (ob (ref01_Same (a_9.1, x.1, ())) fun (a : Bool × Unit) => some (bnot a.1, ())))
            fun (a_10 : Bool × Unit) =>
            sel a_10.1 (some ((false, 0, 0, 0, 0, none' UInt8, none' UInt8, 0, ()), 2, ()))
            (some
            ((beq a.1.1 800, a_4.1, a_5.1, a_6.1, a_7.1, a_1.1, a_3.1, a_8.1, ()), 0,
            ())))
noncomputable def law16_NoteReads (x : List UInt8 × Unit) : Option (Bool × Unit) :=
  ob (law16_shown ()) fun (a : Bool × Unit) =>
  sel (lt 1200 (len x.1)) (some (a.1, ()))
   (ob (note_Read (x.1, ()))
    fun (a_1 : (Bool × Int × Int × Int × Int × List UInt8 × List UInt8 × Int × Unit) × Int × Unit) =>
    ob (ref16_Read (x.1, ()))
     fun (a_2 : (Bool × Int × Int × Int × Int × List UInt8 × List UInt8 × Int × Unit) × Int × Unit) =>
     ob
      (sel a.1
       (ob (ref16_Same (a_1.1, a_2.1, ())) fun (a : Bool × Unit) =>
        sel a.1 (some (beq a_1.2.1 a_2.2.1, ())) (some (false, ())))
       (some (false, ())))
      fun (a : Bool × Unit) => some (a.1, ()))
noncomputable def law16_NoteBack (x : (Bool × Int × Int × Int × Int × List UInt8 × List UInt8 × Int × Unit) ×
  List UInt8 × Unit) : Option (Bool × Unit) :=
  ob (law16_shown ()) fun (a : Bool × Unit) =>
  ob (ref16_Few (x.1, ())) fun (a_1 : Bool × Unit) =>
   ob (sel (bnot a_1.1) (some (true, ())) (some (lt 1200 (len x.2.1), ()))) fun (a_2 : Bool × Unit) =>
    sel a_2.1 (some (a.1, ()))
     (ob (note_Write (x.1, ())) fun (a_3 : List UInt8 × Int × Unit) =>
      ob (ref16_Right (x.1, ())) fun (a_4 : Bool × Unit) =>
       sel (bnot (beb (beq a_3.2.1 0) a_4.1)) (some (false, ()))
        (sel (beq a_3.2.1 0)
         (ob (note_Read (a_3.1, ()))
          fun (a_5 : (Bool × Int × Int × Int × Int × List UInt8 × List UInt8 × Int × Unit) × Int × Unit) =>
          ob
           (sel (bnot (beq a_5.2.1 0)) (some (true, ()))
            (ob (ref16_Same (a_5.1, x.1, ())) fun (a : Bool × Unit) =>
            sel (bnot a.1) (some (true, ())) (some (lt 900 (len a_3.1), ()))))
           fun (a_6 : Bool × Unit) =>
           sel a_6.1 (some (false, ()))
            (ob (note_Read (x.2.1, ()))
            fun
            (a_7 : (Bool × Int × Int × Int × Int × List UInt8 × List UInt8 × Int × Unit) × Int × Unit) =>
            sel (bnot (beq a_7.2.1 0))
            (ob
            (sel a.1
            (ob (ref16_Same (a_7.1, (false, 0, 0, 0, 0, none' UInt8, none' UInt8, 0, ()), ()))
            fun (a : Bool × Unit) => some (a.1, ()))
            (some (false, ())))
            fun (a : Bool × Unit) => some (a.1, ()))
            (ob (note_Write (a_7.1, ())) fun (a_8 : List UInt8 × Int × Unit) =>
            ob
            (sel a.1
            (sel (beq a_8.2.1 0)
            (ob (ref16_Right (a_7.1, ())) fun (a : Bool × Unit) =>
            sel a.1
            (ob (ref01_Same (a_8.1, x.2.1, ())) fun (a : Bool × Unit) =>
            some (a.1, ()))
            (some (false, ())))
            (some (false, ())))
            (some (false, ())))
            fun (a : Bool × Unit) => some (a.1, ()))))
         (ob (note_Read (x.2.1, ()))
          fun (a_5 : (Bool × Int × Int × Int × Int × List UInt8 × List UInt8 × Int × Unit) × Int × Unit) =>
          sel (bnot (beq a_5.2.1 0))
           (ob
            (sel a.1
            (ob (ref16_Same (a_5.1, (false, 0, 0, 0, 0, none' UInt8, none' UInt8, 0, ()), ()))
            fun (a : Bool × Unit) => some (a.1, ()))
            (some (false, ())))
            fun (a : Bool × Unit) => some (a.1, ()))
           (ob (note_Write (a_5.1, ())) fun (a_6 : List UInt8 × Int × Unit) =>
            ob
            (sel a.1
            (sel (beq a_6.2.1 0)
            (ob (ref16_Right (a_5.1, ())) fun (a : Bool × Unit) =>
            sel a.1
            (ob (ref01_Same (a_6.1, x.2.1, ())) fun (a : Bool × Unit) => some (a.1, ()))
            (some (false, ())))
            (some (false, ())))
            (some (false, ())))
            fun (a : Bool × Unit) => some (a.1, ())))))
noncomputable def law16_NoteAnswers (x : (Bool × Int × Int × Int × Int × List UInt8 × List UInt8 × Int × Unit) ×
  (Bool × Int × Int × Int × Int × List UInt8 × List UInt8 × Int × Unit) × Int × Unit) : Option (Bool × Unit) :=
  ob (law16_shown ()) fun (a : Bool × Unit) =>
  ob (ref16_Few (x.1, ())) fun (a_1 : Bool × Unit) =>
   ob
    (sel (bnot a_1.1) (some (true, ()))
     (ob (ref16_Few (x.2.1, ())) fun (a : Bool × Unit) =>
      sel (bnot a.1) (some (true, ()))
       (ob (ref16_Right (x.1, ())) fun (a : Bool × Unit) =>
        sel (bnot a.1) (some (true, ()))
         (ob (ref16_Right (x.2.1, ())) fun (a : Bool × Unit) => some (bnot a.1, ())))))
    fun (a_2 : Bool × Unit) =>
    sel a_2.1 (some (a.1, ()))
     (ob (note_Write (x.1, ())) fun (a_3 : List UInt8 × Int × Unit) =>
      ob (note_Write (x.2.1, ())) fun (a_4 : List UInt8 × Int × Unit) =>
       ob
        (sel (bnot (beq a_3.2.1 0)) (some (true, ()))
         (sel (bnot (beq a_4.2.1 0)) (some (true, ()))
          (ob (ref01_Same (a_3.1, a_4.1, ())) fun (a : Bool × Unit) =>
           ob (ref16_Same (x.1, x.2.1, ())) fun (a_5 : Bool × Unit) =>
            some (bnot (beb a.1 a_5.1), ()))))
        fun (a_5 : Bool × Unit) =>
        sel a_5.1 (some (false, ()))
         (ob (note_Answer (x.1, x.2.2.1, ()))
          fun (a_6 : (Bool × Int × Int × Int × Int × List UInt8 × List UInt8 × Int × Unit) × Int × Unit) =>
          sel (bnot (beq a_6.2.1 0))
           (ob
            (sel a.1
            (ob (ref16_Same (a_6.1, (false, 0, 0, 0, 0, none' UInt8, none' UInt8, 0, ()), ()))
            fun (a : Bool × Unit) =>
            sel a.1
            (sel (beb (beq a_6.2.1 9) (bnot x.1.1))
            (sel (bnot x.1.1) (some (true, ()))
            (sel (lt x.2.2.1 0) (some (true, ())) (some (lt 99 x.2.2.1, ()))))
            (some (false, ())))
            (some (false, ())))
            (some (false, ())))
            fun (a : Bool × Unit) => some (a.1, ()))
           (ob (note_Answer (a_6.1, 0, ()))
            fun (a_7 : (Bool × Int × Int × Int × Int × List UInt8 × List UInt8 × Int × Unit) × Int × Unit) =>
            ob
            (sel a.1
            (sel x.1.1
            (ob (ref16_Right (a_6.1, ())) fun (a : Bool × Unit) =>
            sel a.1
            (sel (bnot a_6.1.1)
            (sel (beq a_6.1.2.1 x.1.2.1)
            (sel (beq a_6.1.2.2.1 x.1.2.2.1)
            (sel (beq a_6.1.2.2.2.1 x.2.2.1) (some (beq a_7.2.1 9, ()))
            (some (false, ())))
            (some (false, ())))
            (some (false, ())))
            (some (false, ())))
            (some (false, ())))
            (some (false, ())))
            (some (false, ())))
            fun (a : Bool × Unit) => some (a.1, ()))))
noncomputable def law16_NoteFields (x : (Bool × Int × Int × Int × Int × List UInt8 × List UInt8 × Int × Unit) ×
  UInt8 × List UInt8 × Unit) : Option (Bool × Unit) :=
  ob (law16_shown ()) fun (a : Bool × Unit) =>
  ob (ref16_Few (x.1, ())) fun (a_1 : Bool × Unit) =>
   ob
    (sel (bnot a_1.1) (some (true, ()))
     (ob (ref16_Right (x.1, ())) fun (a : Bool × Unit) =>
      sel (bnot a.1) (some (true, ())) (some (lt 50 (len x.2.2.1), ()))))
    fun (a_2 : Bool × Unit) =>
    sel a_2.1 (some (a.1, ()))
     (ob (note_Write (x.1, ())) fun (a_3 : List UInt8 × Int × Unit) =>
      ob (ref07_Read (a_3.1, ())) fun (a_4 : (Int × List (Int × List UInt8 × Unit) × Unit) × Int × Unit) =>
       ob
        (sel (bnot (beq a_3.2.1 0)) (some (true, ()))
         (sel (bnot (beq a_4.2.1 0)) (some (true, ()))
          (sel (lt (len a_4.1.2.1) 2) (some (true, ()))
           (sel (bnot (beb (beq a_4.1.1 800) x.1.1)) (some (true, ()))
            (sel (bnot (beq a_4.1.1 800)) (some (bnot (beq a_4.1.1 810), ())) (some (false, ())))))))
        fun (a_5 : Bool × Unit) =>
        sel a_5.1 (some (false, ()))
         (ob (ref07_Get (a_4.1, 70, ())) fun (a_6 : List UInt8 × Bool × Unit) =>
          ob (ref07_Get (a_4.1, 11, ())) fun (a_7 : List UInt8 × Bool × Unit) =>
           ob (ref01_Value (a_6.1, ())) fun (a_8 : Int × Int × Unit) =>
            ob (ref01_Value (a_7.1, ())) fun (a_9 : Int × Int × Unit) =>
            ck (bnot (beq (len a_4.1.2.1) 0))
            (ck (inB (imod (i64 (n8 x.2.1)) (len a_4.1.2.1)) (len a_4.1.2.1))
            (ob
            (ref07_Drop
            (a_4.1,
            (nth a_4.1.2.1 (nat (imod (i64 (n8 x.2.1)) (len a_4.1.2.1)))
            (0, none' UInt8, ())).1,
            ()))
            fun (a_10 : (Int × List (Int × List UInt8 × Unit) × Unit) × Unit) =>
            ob (ref07_Write (a_10.1, ())) fun (a_11 : List UInt8 × Int × Unit) =>
            ob (note_Read (a_11.1, ()))
            fun
            (a_12 :
            (Bool × Int × Int × Int × Int × List UInt8 × List UInt8 × Int × Unit) ×
            Int × Unit) =>
            ob (ref07_Set (a_4.1, 41, x.2.2.1, ()))
            fun (a_13 : (Int × List (Int × List UInt8 × Unit) × Unit) × Int × Unit) =>
            ob (ref07_Write (a_13.1, ())) fun (a_14 : List UInt8 × Int × Unit) =>
            ob (note_Read (a_14.1, ()))
            fun
            (a_15 :
            (Bool × Int × Int × Int × Int × List UInt8 × List UInt8 × Int × Unit) ×
            Int × Unit) =>
            ob
            (sel a.1
            (sel (beq a_8.1 x.1.2.1)
            (sel (beq a_9.1 x.1.2.2.1)
            (sel (beq a_12.2.1 2)
            (sel (bnot (beq a_13.2.1 0)) (some (true, ()))
            (some (beq a_15.2.1 2, ())))
            (some (false, ())))
            (some (false, ())))
            (some (false, ())))
            (some (false, ())))
            fun (a : Bool × Unit) => some (a.1, ())))))
end Yp

