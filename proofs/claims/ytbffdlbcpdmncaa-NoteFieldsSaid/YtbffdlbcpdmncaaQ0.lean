/- A part of the proof of the statements of this seat: plain functions, and laws on them. No condition of its own. -/
import Derived.Test.YtbffdlbcpdmncaaE2
set_option linter.unusedVariables false
set_option linter.unusedSimpArgs false
namespace Yp
open Go
noncomputable def dig_Digits (x : Int × Int × Unit) : Option (List UInt8 × Int × Unit) :=
  ob (sel (lt x.2.1 1) (some (true, ())) (sel (lt 18 x.2.1) (some (true, ())) (some (lt x.1 0, ()))))
  fun (a : Bool × Unit) =>
  sel a.1 (some (none' UInt8, 1, ()))
   (ck (band (inC 0 x.2.1 x.2.1) (rm 1 (nat x.2.1)))
    (lc
     (loop
      (fun (x : Int × Int × List UInt8 × Unit) =>
       sel (le 0 x.2.1)
        (ck (inB (imod x.1 10) (len [48, 49, 50, 51, 52, 53, 54, 55, 56, 57, 97, 98, 99, 100, 101, 102]))
         (ck (inB x.2.1 (len x.2.2.1))
          (some
           (LS.nx
            (i64 (idiv x.1 10), i64 (isub x.2.1 1),
            upd x.2.2.1 (nat x.2.1)
            (nth [48, 49, 50, 51, 52, 53, 54, 55, 56, 57, 97, 98, 99, 100, 101, 102] (nat (imod x.1 10))
            (u8 0)),
            ())))))
        (some (LS.ex 0 (x.1, x.2.1, x.2.2.1, ()))))
      (x.1, i64 (isub x.2.1 1), rep (nat x.2.1) (u8 0), ()))
     (fun (a : Int × Int × List UInt8 × Unit) => none)
     (fun (i : Nat) (a : Int × Int × List UInt8 × Unit) =>
      ck (neb i 0) (sel (lt 0 a.1) (some (none' UInt8, 1, ())) (some (a.2.2.1, 0, ()))))
     fun (r : List UInt8 × Int × Unit) => some r))
noncomputable def dig_figure (x : Int × Unit) : Option (Int × Bool × Unit) :=
  ob
  (sel (le 48 x.1) (some (i64 (i32 (isub x.1 48)), le x.1 57, ())) (some (i64 (i32 (isub x.1 48)), false, ())))
  fun (a : Int × Bool × Unit) => some (a.1, a.2.1, ())
noncomputable def dig_Value (x : List UInt8 × Unit) : Option (Int × Int × Unit) :=
  ob (sel (lt (len x.1) 1) (some (true, ())) (some (lt 18 (len x.1), ()))) fun (a : Bool × Unit) =>
  sel a.1 (some (0, 2, ()))
   (lc
    (loop
     (fun (x_1 : Int × Int × Int × Nat × Unit) =>
      sel (nlt x_1.2.2.2.1 (ln x.1))
       (ob (dig_figure (ofn (decode x.1 x_1.2.2.2.1).1, ())) fun (a : Int × Bool × Unit) =>
        sel (bnot a.2.1) (some (LS.rt (0, 2, ())))
         (some
          (LS.nx
           (x_1.1, x_1.2.1, i64 (iadd (i64 (imul 10 x_1.2.2.1)) a.1),
            nadd x_1.2.2.2.1 (decode x.1 x_1.2.2.2.1).2, ()))))
       (some (LS.ex 0 (x_1.1, x_1.2.1, x_1.2.2.1, x_1.2.2.2.1, ()))))
     (0, 0, 0, 0, ()))
    (fun (a : Int × Int × Int × Nat × Unit) => none)
    (fun (i : Nat) (a : Int × Int × Int × Nat × Unit) => ck (neb i 0) (some (a.2.2.1, 0, ())))
    fun (r : Int × Int × Unit) => some r)
noncomputable def dig_Bcd (x : List UInt8 × Unit) : Option (List UInt8 × Int × Unit) :=
  ck
  (band (inC 0 (i64 (idiv (i64 (iadd (len x.1) 1)) 2)) (i64 (idiv (i64 (iadd (len x.1) 1)) 2)))
   (rm 1 (nat (i64 (idiv (i64 (iadd (len x.1) 1)) 2)))))
  (lc
   (loop
    (fun (x_1 : Int × Int × Nat × List UInt8 × Unit) =>
     sel (nlt x_1.2.2.1 (ln x.1))
      (ob (dig_figure (ofn (decode x.1 x_1.2.2.1).1, ())) fun (a : Int × Bool × Unit) =>
       sel (bnot a.2.1) (some (LS.rt (none' UInt8, 2, ())))
        (ck (inB (i64 (idiv x_1.2.1 2)) (len x_1.2.2.2.1))
         (ck (inB (i64 (idiv x_1.2.1 2)) (len x_1.2.2.2.1))
          (some
           (LS.nx
            (x_1.1, i64 (iadd x_1.2.1 1), nadd x_1.2.2.1 (decode x.1 x_1.2.2.1).2,
            upd x_1.2.2.2.1 (nat (i64 (idiv x_1.2.1 2)))
            (u8
            (orI IntKind.u8
            (n8
            (u8
            (shlI IntKind.u8
            (n8 (nth x_1.2.2.2.1 (nat (i64 (idiv x_1.2.1 2))) (u8 0)))
            (n64 (u64 4)))))
            (n8 (u8 a.1)))),
            ()))))))
      (some (LS.ex 0 (x_1.1, x_1.2.1, x_1.2.2.1, x_1.2.2.2.1, ()))))
    (0, imod (len x.1) 2, 0, rep (nat (i64 (idiv (i64 (iadd (len x.1) 1)) 2))) (u8 0), ()))
   (fun (a : Int × Int × Nat × List UInt8 × Unit) => none)
   (fun (i : Nat) (a : Int × Int × Nat × List UInt8 × Unit) => ck (neb i 0) (some (a.2.2.2.1, 0, ())))
   fun (r : List UInt8 × Int × Unit) => some r)
noncomputable def ref01_Same (x : List UInt8 × List UInt8 × Unit) : Option (Bool × Unit) :=
  some (seq x.1 x.2.1, ())
noncomputable def dig_Hex (x : List UInt8 × Unit) : Option (List UInt8 × Unit) :=
  ck (band (inC 0 0 (i64 (imul 2 (len x.1)))) (rm 1 (nat (i64 (imul 2 (len x.1))))))
  (lc
   (loop
    (fun (x_1 : List UInt8 × Int × Unit) =>
     sel (lt x_1.2.1 (len x.1))
      (ck (inB x_1.2.1 (len x.1))
       (ck
        (inB (n8 (u8 (shrI IntKind.u8 (n8 (nth x.1 (nat x_1.2.1) (u8 0))) (n64 (u64 4)))))
         (len [48, 49, 50, 51, 52, 53, 54, 55, 56, 57, 97, 98, 99, 100, 101, 102]))
        (ck
         (inB (n8 (u8 (andI IntKind.u8 (n8 (nth x.1 (nat x_1.2.1) (u8 0))) (n8 (u8 15)))))
          (len [48, 49, 50, 51, 52, 53, 54, 55, 56, 57, 97, 98, 99, 100, 101, 102]))
         (ck
          (rm 1
           (nadd (ln x_1.1)
            (ln
            [nth [48, 49, 50, 51, 52, 53, 54, 55, 56, 57, 97, 98, 99, 100, 101, 102]
            (nat (n8 (u8 (shrI IntKind.u8 (n8 (nth x.1 (nat x_1.2.1) (u8 0))) (n64 (u64 4))))))
            (u8 0),
            nth [48, 49, 50, 51, 52, 53, 54, 55, 56, 57, 97, 98, 99, 100, 101, 102]
            (nat (n8 (u8 (andI IntKind.u8 (n8 (nth x.1 (nat x_1.2.1) (u8 0))) (n8 (u8 15))))))
            (u8 0)])))
          (some
           (LS.nx
            (app x_1.1
            [nth [48, 49, 50, 51, 52, 53, 54, 55, 56, 57, 97, 98, 99, 100, 101, 102]
            (nat (n8 (u8 (shrI IntKind.u8 (n8 (nth x.1 (nat x_1.2.1) (u8 0))) (n64 (u64 4))))))
            (u8 0),
            nth [48, 49, 50, 51, 52, 53, 54, 55, 56, 57, 97, 98, 99, 100, 101, 102]
            (nat (n8 (u8 (andI IntKind.u8 (n8 (nth x.1 (nat x_1.2.1) (u8 0))) (n8 (u8 15))))))
            (u8 0)],
            i64 (iadd x_1.2.1 1), ())))))))
      (some (LS.ex 0 (x_1.1, x_1.2.1, ()))))
    (rep (nat 0) (u8 0), 0, ()))
   (fun (a : List UInt8 × Int × Unit) => none)
   (fun (i : Nat) (a : List UInt8 × Int × Unit) => ck (neb i 0) (some (a.1, ()))) fun (r : List UInt8 × Unit) =>
   some r)
noncomputable def dig_TakeBcd (x : List UInt8 × Int × Int × Unit) : Option (List UInt8 × Int × Int × Unit) :=
  ob
  (sel (lt x.2.2.1 0) (some (true, ()))
   (sel (lt 999 x.2.2.1) (some (true, ()))
    (sel (lt x.2.1 0) (some (true, ())) (some (lt (len x.1) x.2.1, ())))))
  fun (a : Bool × Unit) =>
  sel a.1 (some (none' UInt8, 0, 1, ()))
   (sel (lt (i64 (isub (len x.1) x.2.1)) (i64 (idiv (i64 (iadd x.2.2.1 1)) 2)))
    (some (none' UInt8, 0, 3, ()))
    (ck (inC x.2.1 (i64 (iadd x.2.1 (i64 (idiv (i64 (iadd x.2.2.1 1)) 2)))) (len x.1))
     (ob (dig_Hex (sub x.1 x.2.1 (i64 (iadd x.2.1 (i64 (idiv (i64 (iadd x.2.2.1 1)) 2)))), ()))
      fun (a : List UInt8 × Unit) =>
      sel (beq (imod x.2.2.1 2) 1)
       (ck (inB 0 (len a.1))
        (sel (bnot (beq (n8 (nth a.1 (nat 0) (u8 0))) (n8 (u8 48)))) (some (none' UInt8, 0, 2, ()))
         (ck (inC 1 (len a.1) (len a.1))
          (lc
           (loop
            (fun (x : List UInt8 × Int × Int × Nat × Unit) =>
            sel (nlt x.2.2.2.1 (ln (sub a.1 1 (len a.1))))
            (ob (dig_figure (ofn (decode (sub a.1 1 (len a.1)) x.2.2.2.1).1, ()))
            fun (a_1 : Int × Bool × Unit) =>
            sel (bnot a_1.2.1) (some (LS.rt (none' UInt8, 0, 2, ())))
            (some
            (LS.nx
            (x.1, x.2.1, x.2.2.1,
            nadd x.2.2.2.1 (decode (sub a.1 1 (len a.1)) x.2.2.2.1).2,
            ()))))
            (some (LS.ex 0 (x.1, x.2.1, x.2.2.1, x.2.2.2.1, ()))))
            (none' UInt8, 0, 0, 0, ()))
           (fun (a : List UInt8 × Int × Int × Nat × Unit) => none)
           (fun (i : Nat) (a_1 : List UInt8 × Int × Int × Nat × Unit) =>
            ck (neb i 0)
            (some
            (sub a.1 1 (len a.1), i64 (iadd x.2.1 (i64 (idiv (i64 (iadd x.2.2.1 1)) 2))), 0,
            ())))
           fun (r : List UInt8 × Int × Int × Unit) => some r))))
       (lc
        (loop
         (fun (x : List UInt8 × Int × Int × Nat × Unit) =>
          sel (nlt x.2.2.2.1 (ln a.1))
           (ob (dig_figure (ofn (decode a.1 x.2.2.2.1).1, ())) fun (a_1 : Int × Bool × Unit) =>
            sel (bnot a_1.2.1) (some (LS.rt (none' UInt8, 0, 2, ())))
            (some
            (LS.nx
            (x.1, x.2.1, x.2.2.1,
            nadd x.2.2.2.1 (decode a.1 x.2.2.2.1).2, ()))))
           (some (LS.ex 0 (x.1, x.2.1, x.2.2.1, x.2.2.2.1, ()))))
         (none' UInt8, 0, 0, 0, ()))
        (fun (a : List UInt8 × Int × Int × Nat × Unit) => none)
        (fun (i : Nat) (a_1 : List UInt8 × Int × Int × Nat × Unit) =>
         ck (neb i 0) (some (a.1, i64 (iadd x.2.1 (i64 (idiv (i64 (iadd x.2.2.1 1)) 2))), 0, ())))
        fun (r : List UInt8 × Int × Int × Unit) => some r))))
noncomputable def dig_half (x : UInt8 × Unit) : Option (UInt8 × Bool × Unit) :=
  ob (sel (le (n8 (u8 48)) (n8 x.1)) (some (le (n8 x.1) (n8 (u8 57)), ())) (some (false, ())))
  fun (a : Bool × Unit) =>
  sel a.1 (some (u8 (isub (n8 x.1) (n8 (u8 48))), true, ()))
   (ob (sel (le (n8 (u8 97)) (n8 x.1)) (some (le (n8 x.1) (n8 (u8 102)), ())) (some (false, ())))
    fun (a : Bool × Unit) =>
    sel a.1 (some (u8 (iadd (n8 (u8 (isub (n8 x.1) (n8 (u8 97))))) (n8 (u8 10))), true, ()))
     (some (u8 0, false, ())))
noncomputable def dig_Unhex (x : List UInt8 × Unit) : Option (List UInt8 × Int × Unit) :=
  sel (beq (imod (len x.1) 2) 1) (some (none' UInt8, 2, ()))
  (ck (band (inC 0 0 (i64 (idiv (len x.1) 2))) (rm 1 (nat (i64 (idiv (len x.1) 2)))))
   (lc
    (loop
     (fun (x_1 : Int × List UInt8 × Int × Unit) =>
      sel (lt x_1.2.2.1 (len x.1))
       (ck (inB x_1.2.2.1 (len x.1))
        (ob (dig_half (nth x.1 (nat x_1.2.2.1) (u8 0), ())) fun (a : UInt8 × Bool × Unit) =>
         ck (inB (i64 (iadd x_1.2.2.1 1)) (len x.1))
          (ob (dig_half (nth x.1 (nat (i64 (iadd x_1.2.2.1 1))) (u8 0), ()))
           fun (a_1 : UInt8 × Bool × Unit) =>
           ob (sel (bnot a.2.1) (some (true, ())) (some (bnot a_1.2.1, ()))) fun (a_2 : Bool × Unit) =>
            sel a_2.1 (some (LS.rt (none' UInt8, 2, ())))
            (ck
            (rm 1
            (nadd (ln x_1.2.1)
            (ln
            [u8
            (orI IntKind.u8 (n8 (u8 (shlI IntKind.u8 (n8 a.1) (n64 (u64 4)))))
            (n8 a_1.1))])))
            (some
            (LS.nx
            (x_1.1,
            app x_1.2.1
            [u8
            (orI IntKind.u8 (n8 (u8 (shlI IntKind.u8 (n8 a.1) (n64 (u64 4)))))
            (n8 a_1.1))],
            i64 (iadd x_1.2.2.1 2), ())))))))
       (some (LS.ex 0 (x_1.1, x_1.2.1, x_1.2.2.1, ()))))
     (0, rep (nat 0) (u8 0), 0, ()))
    (fun (a : Int × List UInt8 × Int × Unit) => none)
    (fun (i : Nat) (a : Int × List UInt8 × Int × Unit) => ck (neb i 0) (some (a.2.1, 0, ())))
    fun (r : List UInt8 × Int × Unit) => some r))
noncomputable def ref01_power (x : Int × Int × Unit) : Option (Int × Unit) :=
  lc
  (loop
   (fun (x_1 : Int × Int × Unit) =>
    sel (lt x_1.2.1 x.2.1) (some (LS.nx (i64 (imul x_1.1 x.1), i64 (iadd x_1.2.1 1), ())))
     (some (LS.ex 0 (x_1.1, x_1.2.1, ()))))
   (1, 0, ()))
  (fun (a : Int × Int × Unit) => none) (fun (i : Nat) (a : Int × Int × Unit) => ck (neb i 0) (some (a.1, ())))
  fun (r : Int × Unit) => some r
noncomputable def ref01_Digits (x : Int × Int × Unit) : Option (List UInt8 × Int × Unit) :=
  ob
  (sel (lt x.2.1 1) (some (true, ()))
   (sel (lt 18 x.2.1) (some (true, ()))
    (sel (lt x.1 0) (some (true, ()))
     (ob (ref01_power (10, x.2.1, ())) fun (a : Int × Unit) => some (le a.1 x.1, ())))))
  fun (a : Bool × Unit) =>
  sel a.1 (some (none' UInt8, 1, ()))
   (lc
    (loop
     (fun (x_1 : List UInt8 × Int × Unit) =>
      sel (le 0 x_1.2.1)
       (ob (ref01_power (10, x_1.2.1, ())) fun (a : Int × Unit) =>
        ck (bnot (beq a.1 0))
         (ck (rm 1 (nadd (ln x_1.1) (ln [u8 (i64 (iadd 48 (imod (i64 (idiv x.1 a.1)) 10)))])))
          (some
           (LS.nx
            (app x_1.1 [u8 (i64 (iadd 48 (imod (i64 (idiv x.1 a.1)) 10)))], i64 (isub x_1.2.1 1),
            ())))))
       (some (LS.ex 0 (x_1.1, x_1.2.1, ()))))
     (none' UInt8, i64 (isub x.2.1 1), ()))
    (fun (a : List UInt8 × Int × Unit) => none)
    (fun (i : Nat) (a : List UInt8 × Int × Unit) => ck (neb i 0) (some (a.1, 0, ())))
    fun (r : List UInt8 × Int × Unit) => some r)
noncomputable def ref01_Figures (x : List UInt8 × Unit) : Option (Bool × Unit) :=
  lc
  (loop
   (fun (x_1 : Bool × Int × Unit) =>
    sel (lt x_1.2.1 (len x.1))
     (ck (inB x_1.2.1 (len x.1))
      (ob
       (sel (lt (n8 (nth x.1 (nat x_1.2.1) (u8 0))) (n8 (u8 48))) (some (true, ()))
        (ck (inB x_1.2.1 (len x.1)) (some (lt (n8 (u8 57)) (n8 (nth x.1 (nat x_1.2.1) (u8 0))), ()))))
       fun (a : Bool × Unit) =>
       sel a.1 (some (LS.rt (false, ()))) (some (LS.nx (x_1.1, i64 (iadd x_1.2.1 1), ())))))
     (some (LS.ex 0 (x_1.1, x_1.2.1, ()))))
   (false, 0, ()))
  (fun (a : Bool × Int × Unit) => none) (fun (i : Nat) (a : Bool × Int × Unit) => ck (neb i 0) (some (true, ())))
  fun (r : Bool × Unit) => some r
noncomputable def ref01_Value (x : List UInt8 × Unit) : Option (Int × Int × Unit) :=
  ob
  (sel (lt (len x.1) 1) (some (true, ()))
   (sel (lt 18 (len x.1)) (some (true, ())) (ob (ref01_Figures (x.1, ())) fun (a : Bool × Unit) => some (bnot a.1, ()))))
  fun (a : Bool × Unit) =>
  sel a.1 (some (0, 2, ()))
   (lc
    (loop
     (fun (x_1 : Int × Int × Unit) =>
      sel (lt x_1.2.1 (len x.1))
       (ck (inB x_1.2.1 (len x.1))
        (ob (ref01_power (10, i64 (isub (i64 (isub (len x.1) 1)) x_1.2.1), ())) fun (a : Int × Unit) =>
         some
          (LS.nx
           (i64
            (iadd x_1.1
            (i64 (imul (i64 (isub (i64 (n8 (nth x.1 (nat x_1.2.1) (u8 0)))) 48)) a.1))),
            i64 (iadd x_1.2.1 1), ()))))
       (some (LS.ex 0 (x_1.1, x_1.2.1, ()))))
     (0, 0, ()))
    (fun (a : Int × Int × Unit) => none) (fun (i : Nat) (a : Int × Int × Unit) => ck (neb i 0) (some (a.1, 0, ())))
    fun (r : Int × Int × Unit) => some r)
noncomputable def ref01_Bcd (x : List UInt8 × Unit) : Option (List UInt8 × Int × Unit) :=
  ob (ref01_Figures (x.1, ())) fun (a : Bool × Unit) =>
  sel (bnot a.1) (some (none' UInt8, 2, ()))
   (ob
    (sel (beq (imod (len x.1) 2) 1)
     (ck (le (iadd (len [48]) (len x.1)) 140737488355328) (some (app [48] x.1, ()))) (some (x.1, ())))
    fun (a : List UInt8 × Unit) =>
    lc
     (loop
      (fun (x : List UInt8 × Int × Unit) =>
       sel (lt x.2.1 (len a.1))
        (ck (inB x.2.1 (len a.1))
         (ck (inB (i64 (iadd x.2.1 1)) (len a.1))
          (ck
           (rm 1
            (nadd (ln x.1)
            (ln
            [u8
            (isub
            (n8
            (u8
            (iadd
            (n8
            (u8
            (imul (n8 (u8 16))
            (n8 (u8 (isub (n8 (nth a.1 (nat x.2.1) (u8 0))) (n8 (u8 48))))))))
            (n8 (nth a.1 (nat (i64 (iadd x.2.1 1))) (u8 0))))))
            (n8 (u8 48)))])))
           (some
            (LS.nx
            (app x.1
            [u8
            (isub
            (n8
            (u8
            (iadd
            (n8
            (u8
            (imul (n8 (u8 16))
            (n8 (u8 (isub (n8 (nth a.1 (nat x.2.1) (u8 0))) (n8 (u8 48))))))))
            (n8 (nth a.1 (nat (i64 (iadd x.2.1 1))) (u8 0))))))
            (n8 (u8 48)))],
            i64 (iadd x.2.1 2), ()))))))
        (some (LS.ex 0 (x.1, x.2.1, ()))))
      (none' UInt8, 0, ()))
     (fun (a : List UInt8 × Int × Unit) => none)
     (fun (i : Nat) (a : List UInt8 × Int × Unit) => ck (neb i 0) (some (a.1, 0, ())))
     fun (r : List UInt8 × Int × Unit) => some r)
noncomputable def ref01_TakeBcd (x : List UInt8 × Int × Int × Unit) : Option (List UInt8 × Int × Int × Unit) :=
  ob
  (sel (lt x.2.2.1 0) (some (true, ()))
   (sel (lt 999 x.2.2.1) (some (true, ()))
    (sel (lt x.2.1 0) (some (true, ())) (some (lt (len x.1) x.2.1, ())))))
  fun (a : Bool × Unit) =>
  sel a.1 (some (none' UInt8, 0, 1, ()))
   (sel (lt (i64 (isub (len x.1) x.2.1)) (i64 (idiv (i64 (iadd x.2.2.1 1)) 2)))
    (some (none' UInt8, 0, 3, ()))
    (lc
     (loop
      (fun (x_1 : List UInt8 × Int × Unit) =>
       sel (lt x_1.2.1 (i64 (iadd x.2.1 (i64 (idiv (i64 (iadd x.2.2.1 1)) 2)))))
        (ck (inB x_1.2.1 (len x.1))
         (ck (inB x_1.2.1 (len x.1))
          (ck
           (rm 1
            (nadd (ln x_1.1)
            (ln
            [u8 (idiv (n8 (nth x.1 (nat x_1.2.1) (u8 0))) (n8 (u8 16))),
            u8 (imod (n8 (nth x.1 (nat x_1.2.1) (u8 0))) (n8 (u8 16)))])))
           (some
            (LS.nx
            (app x_1.1
            [u8 (idiv (n8 (nth x.1 (nat x_1.2.1) (u8 0))) (n8 (u8 16))),
            u8 (imod (n8 (nth x.1 (nat x_1.2.1) (u8 0))) (n8 (u8 16)))],
            i64 (iadd x_1.2.1 1), ()))))))
        (some (LS.ex 0 (x_1.1, x_1.2.1, ()))))
      (none' UInt8, x.2.1, ()))
     (fun (a : List UInt8 × Int × Unit) => none)
     (fun (i : Nat) (a : List UInt8 × Int × Unit) =>
      ck (neb i 0)
       (sel (beq (imod x.2.2.1 2) 1)
        (ck (inB 0 (len a.1))
         (sel (bnot (beq (n8 (nth a.1 (nat 0) (u8 0))) (n8 (u8 0)))) (some (none' UInt8, 0, 2, ()))
          (ck (inC 1 (len a.1) (len a.1))
           (lc
            (loop
            (fun (x : List UInt8 × Int × Int × Int × List UInt8 × Unit) =>
            sel (lt x.2.2.2.1 (ofn (nsub (nat (len a.1)) (nat 1))))
            (ck (inB x.2.2.2.1 (ofn (nsub (nat (len a.1)) (nat 1))))
            (sel
            (lt (n8 (u8 9))
            (n8 (nth x.2.2.2.2.1 (nadd (nat 1) (nat x.2.2.2.1)) (u8 0))))
            (some (LS.rt (none' UInt8, 0, 2, ())))
            (ck (inB x.2.2.2.1 (ofn (nsub (nat (len a.1)) (nat 1))))
            (ck (inB x.2.2.2.1 (ofn (nsub (nat (len a.1)) (nat 1))))
            (some
            (LS.nx
            (x.1, x.2.1, x.2.2.1, i64 (iadd x.2.2.2.1 1),
            upd x.2.2.2.2.1 (nadd (nat 1) (nat x.2.2.2.1))
            (u8
            (iadd
            (n8
            (nth x.2.2.2.2.1 (nadd (nat 1) (nat x.2.2.2.1))
            (u8 0)))
            (n8 (u8 48)))),
            ())))))))
            (some
            (LS.ex 2
            (x.1, x.2.1, x.2.2.1, x.2.2.2.1, x.2.2.2.2.1, ()))))
            (none' UInt8, 0, 0, 0, a.1, ()))
            (fun (a : List UInt8 × Int × Int × Int × List UInt8 × Unit) => none)
            (fun (i : Nat) (a_1 : List UInt8 × Int × Int × Int × List UInt8 × Unit) =>
            ck (neb i 2)
            (some
            (cut a_1.2.2.2.2.1 (nat 1) (nsub (nat (len a.1)) (nat 1)),
            i64 (iadd x.2.1 (i64 (idiv (i64 (iadd x.2.2.1 1)) 2))), 0, ())))
            fun (r : List UInt8 × Int × Int × Unit) => some r))))
        (lc
         (loop
          (fun (x : List UInt8 × Int × Int × Int × List UInt8 × Unit) =>
           sel (lt x.2.2.2.1 (len x.2.2.2.2.1))
            (ck (inB x.2.2.2.1 (len x.2.2.2.2.1))
            (sel (lt (n8 (u8 9)) (n8 (nth x.2.2.2.2.1 (nat x.2.2.2.1) (u8 0))))
            (some (LS.rt (none' UInt8, 0, 2, ())))
            (ck (inB x.2.2.2.1 (len x.2.2.2.2.1))
            (ck (inB x.2.2.2.1 (len x.2.2.2.2.1))
            (some
            (LS.nx
            (x.1, x.2.1, x.2.2.1, i64 (iadd x.2.2.2.1 1),
            upd x.2.2.2.2.1 (nat x.2.2.2.1)
            (u8
            (iadd (n8 (nth x.2.2.2.2.1 (nat x.2.2.2.1) (u8 0)))
            (n8 (u8 48)))),
            ())))))))
            (some (LS.ex 2 (x.1, x.2.1, x.2.2.1, x.2.2.2.1, x.2.2.2.2.1, ()))))
          (none' UInt8, 0, 0, 0, a.1, ()))
         (fun (a : List UInt8 × Int × Int × Int × List UInt8 × Unit) => none)
         (fun (i : Nat) (a : List UInt8 × Int × Int × Int × List UInt8 × Unit) =>
          ck (neb i 2)
           (some
            (a.2.2.2.2.1, i64 (iadd x.2.1 (i64 (idiv (i64 (iadd x.2.2.1 1)) 2))), 0, ())))
         fun (r : List UInt8 × Int × Int × Unit) => some r)))
     fun (r : List UInt8 × Int × Int × Unit) => some r))
noncomputable def ref01_worth (x : UInt8 × Unit) : Option (Int × Unit) :=
  ob (sel (le (n8 (u8 48)) (n8 x.1)) (some (le (n8 x.1) (n8 (u8 57)), ())) (some (false, ())))
  fun (a : Bool × Unit) =>
  sel a.1 (some (i64 (isub (i64 (n8 x.1)) 48), ()))
   (ob (sel (le (n8 (u8 97)) (n8 x.1)) (some (le (n8 x.1) (n8 (u8 102)), ())) (some (false, ())))
    fun (a : Bool × Unit) => sel a.1 (some (i64 (isub (i64 (n8 x.1)) 87), ())) (some (16, ())))
noncomputable def ref01_Unhex (x : List UInt8 × Unit) : Option (List UInt8 × Int × Unit) :=
  sel (beq (imod (len x.1) 2) 1) (some (none' UInt8, 2, ()))
  (lc
   (loop
    (fun (x_1 : Int × List UInt8 × Int × Unit) =>
     sel (lt x_1.2.2.1 (len x.1))
      (ck (inB x_1.2.2.1 (len x.1))
       (ob (ref01_worth (nth x.1 (nat x_1.2.2.1) (u8 0), ())) fun (a : Int × Unit) =>
        ck (inB (i64 (iadd x_1.2.2.1 1)) (len x.1))
         (ob (ref01_worth (nth x.1 (nat (i64 (iadd x_1.2.2.1 1))) (u8 0), ())) fun (a_1 : Int × Unit) =>
          ob (sel (lt 15 a.1) (some (true, ())) (some (lt 15 a_1.1, ()))) fun (a_2 : Bool × Unit) =>
           sel a_2.1 (some (LS.rt (none' UInt8, 2, ())))
            (ck (rm 1 (nadd (ln x_1.2.1) (ln [u8 (i64 (iadd (i64 (imul 16 a.1)) a_1.1))])))
            (some
            (LS.nx
            (x_1.1, app x_1.2.1 [u8 (i64 (iadd (i64 (imul 16 a.1)) a_1.1))],
            i64 (iadd x_1.2.2.1 2), ())))))))
      (some (LS.ex 0 (x_1.1, x_1.2.1, x_1.2.2.1, ()))))
    (0, none' UInt8, 0, ()))
   (fun (a : Int × List UInt8 × Int × Unit) => none)
   (fun (i : Nat) (a : Int × List UInt8 × Int × Unit) => ck (neb i 0) (some (a.2.1, 0, ())))
   fun (r : List UInt8 × Int × Unit) => some r)
noncomputable def ref01_sign (x : UInt8 × Unit) : Option (UInt8 × Unit) :=
  sel (lt (n8 x.1) (n8 (u8 10))) (some (u8 (iadd (n8 (u8 48)) (n8 x.1)), ()))
  (some (u8 (iadd (n8 (u8 87)) (n8 x.1)), ()))
noncomputable def ref01_Hex (x : List UInt8 × Unit) : Option (List UInt8 × Unit) :=
  lc
  (loop
   (fun (x_1 : List UInt8 × Int × Unit) =>
    sel (lt x_1.2.1 (len x.1))
     (ck (inB x_1.2.1 (len x.1))
      (ob (ref01_sign (u8 (idiv (n8 (nth x.1 (nat x_1.2.1) (u8 0))) (n8 (u8 16))), ())) fun (a : UInt8 × Unit) =>
       ck (inB x_1.2.1 (len x.1))
        (ob (ref01_sign (u8 (imod (n8 (nth x.1 (nat x_1.2.1) (u8 0))) (n8 (u8 16))), ()))
         fun (a_1 : UInt8 × Unit) =>
         ck (rm 1 (nadd (ln x_1.1) (ln [a.1, a_1.1])))
          (some (LS.nx (app x_1.1 [a.1, a_1.1], i64 (iadd x_1.2.1 1), ()))))))
     (some (LS.ex 0 (x_1.1, x_1.2.1, ()))))
   (none' UInt8, 0, ()))
  (fun (a : List UInt8 × Int × Unit) => none)
  (fun (i : Nat) (a : List UInt8 × Int × Unit) => ck (neb i 0) (some (a.1, ()))) fun (r : List UInt8 × Unit) => some r
end Yp
namespace Yp
open Go
noncomputable def field_figures (x : Int × Unit) : Option (Int × Unit) :=
  sel (beq x.1 25) (some (2, ()))
  (sel (beq x.1 22)
   (sel (beq x.1 22) (some (3, ()))
    (sel (beq x.1 13)
     (sel (beq x.1 13) (some (4, ()))
      (sel (beq x.1 3)
       (sel (beq x.1 3) (some (6, ()))
        (sel (beq x.1 7) (some (10, ()))
         (sel (beq x.1 4) (some (12, ()))
          (sel (beq x.1 53) (some (16, ())) (sel (beq x.1 90) (some (42, ())) (some (0, ())))))))
       (sel (beq x.1 11)
        (sel (beq x.1 11) (some (6, ()))
         (sel (beq x.1 7) (some (10, ()))
          (sel (beq x.1 4) (some (12, ()))
           (sel (beq x.1 53) (some (16, ())) (sel (beq x.1 90) (some (42, ())) (some (0, ())))))))
        (sel (beq x.1 12)
         (sel (beq x.1 12) (some (6, ()))
          (sel (beq x.1 7) (some (10, ()))
           (sel (beq x.1 4) (some (12, ()))
            (sel (beq x.1 53) (some (16, ())) (sel (beq x.1 90) (some (42, ())) (some (0, ())))))))
         (sel (beq x.1 15) (some (6, ()))
          (sel (beq x.1 7) (some (10, ()))
           (sel (beq x.1 4) (some (12, ()))
            (sel (beq x.1 53) (some (16, ())) (sel (beq x.1 90) (some (42, ())) (some (0, ())))))))))))
     (sel (beq x.1 14)
      (sel (beq x.1 14) (some (4, ()))
       (sel (beq x.1 3)
        (sel (beq x.1 3) (some (6, ()))
         (sel (beq x.1 7) (some (10, ()))
          (sel (beq x.1 4) (some (12, ()))
           (sel (beq x.1 53) (some (16, ())) (sel (beq x.1 90) (some (42, ())) (some (0, ())))))))
        (sel (beq x.1 11)
         (sel (beq x.1 11) (some (6, ()))
          (sel (beq x.1 7) (some (10, ()))
           (sel (beq x.1 4) (some (12, ()))
            (sel (beq x.1 53) (some (16, ())) (sel (beq x.1 90) (some (42, ())) (some (0, ())))))))
         (sel (beq x.1 12)
          (sel (beq x.1 12) (some (6, ()))
           (sel (beq x.1 7) (some (10, ()))
            (sel (beq x.1 4) (some (12, ()))
            (sel (beq x.1 53) (some (16, ())) (sel (beq x.1 90) (some (42, ())) (some (0, ())))))))
          (sel (beq x.1 15) (some (6, ()))
           (sel (beq x.1 7) (some (10, ()))
            (sel (beq x.1 4) (some (12, ()))
            (sel (beq x.1 53) (some (16, ())) (sel (beq x.1 90) (some (42, ())) (some (0, ())))))))))))
      (sel (beq x.1 18) (some (4, ()))
       (sel (beq x.1 3)
        (sel (beq x.1 3) (some (6, ()))
         (sel (beq x.1 7) (some (10, ()))
          (sel (beq x.1 4) (some (12, ()))
           (sel (beq x.1 53) (some (16, ())) (sel (beq x.1 90) (some (42, ())) (some (0, ())))))))
        (sel (beq x.1 11)
         (sel (beq x.1 11) (some (6, ()))
          (sel (beq x.1 7) (some (10, ()))
           (sel (beq x.1 4) (some (12, ()))
            (sel (beq x.1 53) (some (16, ())) (sel (beq x.1 90) (some (42, ())) (some (0, ())))))))
         (sel (beq x.1 12)
          (sel (beq x.1 12) (some (6, ()))
           (sel (beq x.1 7) (some (10, ()))
            (sel (beq x.1 4) (some (12, ()))
            (sel (beq x.1 53) (some (16, ())) (sel (beq x.1 90) (some (42, ())) (some (0, ())))))))
          (sel (beq x.1 15) (some (6, ()))
           (sel (beq x.1 7) (some (10, ()))
            (sel (beq x.1 4) (some (12, ()))
            (sel (beq x.1 53) (some (16, ()))
            (sel (beq x.1 90) (some (42, ())) (some (0, ()))))))))))))))
   (sel (beq x.1 49)
    (sel (beq x.1 49) (some (3, ()))
     (sel (beq x.1 13)
      (sel (beq x.1 13) (some (4, ()))
       (sel (beq x.1 3)
        (sel (beq x.1 3) (some (6, ()))
         (sel (beq x.1 7) (some (10, ()))
          (sel (beq x.1 4) (some (12, ()))
           (sel (beq x.1 53) (some (16, ())) (sel (beq x.1 90) (some (42, ())) (some (0, ())))))))
        (sel (beq x.1 11)
         (sel (beq x.1 11) (some (6, ()))
          (sel (beq x.1 7) (some (10, ()))
           (sel (beq x.1 4) (some (12, ()))
            (sel (beq x.1 53) (some (16, ())) (sel (beq x.1 90) (some (42, ())) (some (0, ())))))))
         (sel (beq x.1 12)
          (sel (beq x.1 12) (some (6, ()))
           (sel (beq x.1 7) (some (10, ()))
            (sel (beq x.1 4) (some (12, ()))
            (sel (beq x.1 53) (some (16, ())) (sel (beq x.1 90) (some (42, ())) (some (0, ())))))))
          (sel (beq x.1 15) (some (6, ()))
           (sel (beq x.1 7) (some (10, ()))
            (sel (beq x.1 4) (some (12, ()))
            (sel (beq x.1 53) (some (16, ())) (sel (beq x.1 90) (some (42, ())) (some (0, ())))))))))))
      (sel (beq x.1 14)
       (sel (beq x.1 14) (some (4, ()))
        (sel (beq x.1 3)
         (sel (beq x.1 3) (some (6, ()))
          (sel (beq x.1 7) (some (10, ()))
           (sel (beq x.1 4) (some (12, ()))
            (sel (beq x.1 53) (some (16, ())) (sel (beq x.1 90) (some (42, ())) (some (0, ())))))))
         (sel (beq x.1 11)
          (sel (beq x.1 11) (some (6, ()))
           (sel (beq x.1 7) (some (10, ()))
            (sel (beq x.1 4) (some (12, ()))
            (sel (beq x.1 53) (some (16, ())) (sel (beq x.1 90) (some (42, ())) (some (0, ())))))))
          (sel (beq x.1 12)
           (sel (beq x.1 12) (some (6, ()))
            (sel (beq x.1 7) (some (10, ()))
            (sel (beq x.1 4) (some (12, ()))
            (sel (beq x.1 53) (some (16, ())) (sel (beq x.1 90) (some (42, ())) (some (0, ())))))))
           (sel (beq x.1 15) (some (6, ()))
            (sel (beq x.1 7) (some (10, ()))
            (sel (beq x.1 4) (some (12, ()))
            (sel (beq x.1 53) (some (16, ()))
            (sel (beq x.1 90) (some (42, ())) (some (0, ())))))))))))
       (sel (beq x.1 18) (some (4, ()))
        (sel (beq x.1 3)
         (sel (beq x.1 3) (some (6, ()))
          (sel (beq x.1 7) (some (10, ()))
           (sel (beq x.1 4) (some (12, ()))
            (sel (beq x.1 53) (some (16, ())) (sel (beq x.1 90) (some (42, ())) (some (0, ())))))))
         (sel (beq x.1 11)
          (sel (beq x.1 11) (some (6, ()))
           (sel (beq x.1 7) (some (10, ()))
            (sel (beq x.1 4) (some (12, ()))
            (sel (beq x.1 53) (some (16, ())) (sel (beq x.1 90) (some (42, ())) (some (0, ())))))))
          (sel (beq x.1 12)
           (sel (beq x.1 12) (some (6, ()))
            (sel (beq x.1 7) (some (10, ()))
            (sel (beq x.1 4) (some (12, ()))
            (sel (beq x.1 53) (some (16, ())) (sel (beq x.1 90) (some (42, ())) (some (0, ())))))))
           (sel (beq x.1 15) (some (6, ()))
            (sel (beq x.1 7) (some (10, ()))
            (sel (beq x.1 4) (some (12, ()))
            (sel (beq x.1 53) (some (16, ()))
            (sel (beq x.1 90) (some (42, ())) (some (0, ()))))))))))))))
    (sel (beq x.1 70) (some (3, ()))
     (sel (beq x.1 13)
      (sel (beq x.1 13) (some (4, ()))
       (sel (beq x.1 3)
        (sel (beq x.1 3) (some (6, ()))
         (sel (beq x.1 7) (some (10, ()))
          (sel (beq x.1 4) (some (12, ()))
           (sel (beq x.1 53) (some (16, ())) (sel (beq x.1 90) (some (42, ())) (some (0, ())))))))
        (sel (beq x.1 11)
         (sel (beq x.1 11) (some (6, ()))
          (sel (beq x.1 7) (some (10, ()))
           (sel (beq x.1 4) (some (12, ()))
            (sel (beq x.1 53) (some (16, ())) (sel (beq x.1 90) (some (42, ())) (some (0, ())))))))
         (sel (beq x.1 12)
          (sel (beq x.1 12) (some (6, ()))
           (sel (beq x.1 7) (some (10, ()))
            (sel (beq x.1 4) (some (12, ()))
            (sel (beq x.1 53) (some (16, ())) (sel (beq x.1 90) (some (42, ())) (some (0, ())))))))
          (sel (beq x.1 15) (some (6, ()))
           (sel (beq x.1 7) (some (10, ()))
            (sel (beq x.1 4) (some (12, ()))
            (sel (beq x.1 53) (some (16, ())) (sel (beq x.1 90) (some (42, ())) (some (0, ())))))))))))
      (sel (beq x.1 14)
       (sel (beq x.1 14) (some (4, ()))
        (sel (beq x.1 3)
         (sel (beq x.1 3) (some (6, ()))
          (sel (beq x.1 7) (some (10, ()))
           (sel (beq x.1 4) (some (12, ()))
            (sel (beq x.1 53) (some (16, ())) (sel (beq x.1 90) (some (42, ())) (some (0, ())))))))
         (sel (beq x.1 11)
          (sel (beq x.1 11) (some (6, ()))
           (sel (beq x.1 7) (some (10, ()))
            (sel (beq x.1 4) (some (12, ()))
            (sel (beq x.1 53) (some (16, ())) (sel (beq x.1 90) (some (42, ())) (some (0, ())))))))
          (sel (beq x.1 12)
           (sel (beq x.1 12) (some (6, ()))
            (sel (beq x.1 7) (some (10, ()))
            (sel (beq x.1 4) (some (12, ()))
            (sel (beq x.1 53) (some (16, ())) (sel (beq x.1 90) (some (42, ())) (some (0, ())))))))
           (sel (beq x.1 15) (some (6, ()))
            (sel (beq x.1 7) (some (10, ()))
            (sel (beq x.1 4) (some (12, ()))
            (sel (beq x.1 53) (some (16, ()))
            (sel (beq x.1 90) (some (42, ())) (some (0, ())))))))))))
       (sel (beq x.1 18) (some (4, ()))
        (sel (beq x.1 3)
         (sel (beq x.1 3) (some (6, ()))
          (sel (beq x.1 7) (some (10, ()))
           (sel (beq x.1 4) (some (12, ()))
            (sel (beq x.1 53) (some (16, ())) (sel (beq x.1 90) (some (42, ())) (some (0, ())))))))
         (sel (beq x.1 11)
          (sel (beq x.1 11) (some (6, ()))
           (sel (beq x.1 7) (some (10, ()))
            (sel (beq x.1 4) (some (12, ()))
            (sel (beq x.1 53) (some (16, ())) (sel (beq x.1 90) (some (42, ())) (some (0, ())))))))
          (sel (beq x.1 12)
           (sel (beq x.1 12) (some (6, ()))
            (sel (beq x.1 7) (some (10, ()))
            (sel (beq x.1 4) (some (12, ()))
            (sel (beq x.1 53) (some (16, ())) (sel (beq x.1 90) (some (42, ())) (some (0, ())))))))
           (sel (beq x.1 15) (some (6, ()))
            (sel (beq x.1 7) (some (10, ()))
            (sel (beq x.1 4) (some (12, ()))
            (sel (beq x.1 53) (some (16, ()))
            (sel (beq x.1 90) (some (42, ())) (some (0, ()))))))))))))))))
noncomputable def field_long (x : Int × Int × Unit) : Option (Int × Unit) :=
  sel (beq x.1 1) (ob (field_figures (x.2.1, ())) fun (a : Int × Unit) => some (a.1, ()))
  (sel (beq x.1 2) (some (sel (beq x.2.1 2) 19 (sel (beq x.2.1 32) 11 (sel (beq x.2.1 100) 11 0)), ()))
   (sel (beq x.1 3)
    (some
     (sel (beq x.2.1 37) 12
       (sel (beq x.2.1 38) 6
        (sel (beq x.2.1 39) 2
         (sel (beq x.2.1 41) 8 (sel (beq x.2.1 42) 15 (sel (beq x.2.1 95) 42 0))))),
      ()))
    (sel (beq x.1 4) (some (sel (beq x.2.1 35) 37 (sel (beq x.2.1 102) 28 0), ()))
     (sel (beq x.1 5) (some (sel (beq x.2.1 48) 400 (sel (beq x.2.1 54) 120 0), ()))
      (sel (beq x.1 6)
       (some
        (sel (beq x.2.1 52) 8
          (sel (beq x.2.1 64) 8 (sel (beq x.2.1 96) 8 (sel (beq x.2.1 128) 8 0))),
         ()))
       (sel (beq x.1 7) (some (sel (beq x.2.1 55) 255 (sel (beq x.2.1 127) 400 0), ()))
        (some (0, ()))))))))
noncomputable def field_Of (x : Int × Unit) : Option ((Int × Int × Unit) × Bool × Unit) :=
  lc
  (loop
   (fun (x_1 : Bool × Int × Unit) =>
    sel (le x_1.2.1 7)
     (ob (field_long (x_1.2.1, x.1, ())) fun (a : Int × Unit) =>
      sel (lt 0 a.1) (some (LS.rt ((x_1.2.1, a.1, ()), true, ())))
       (some (LS.nx (x_1.1, i64 (iadd x_1.2.1 1), ()))))
     (some (LS.ex 0 (x_1.1, x_1.2.1, ()))))
   (false, 1, ()))
  (fun (a : Bool × Int × Unit) => none)
  (fun (i : Nat) (a : Bool × Int × Unit) => ck (neb i 0) (some ((0, 0, ()), false, ())))
  fun (r : (Int × Int × Unit) × Bool × Unit) => some r
noncomputable def field_told (x : Int × Unit) : Option (Int × Unit) :=
  sel (beq x.1 2)
  (sel (beq x.1 2) (some (2, ()))
   (sel (beq x.1 5) (sel (beq x.1 5) (some (3, ())) (some (0, ())))
    (sel (beq x.1 7) (some (3, ())) (some (0, ())))))
  (sel (beq x.1 4) (some (2, ()))
   (sel (beq x.1 5) (sel (beq x.1 5) (some (3, ())) (some (0, ())))
    (sel (beq x.1 7) (some (3, ())) (some (0, ())))))
noncomputable def field_Fits (x : Int × List UInt8 × Unit) : Option (Bool × Unit) :=
  ob (field_Of (x.1, ())) fun (a : (Int × Int × Unit) × Bool × Unit) =>
  ob (sel (bnot a.2.1) (some (true, ())) (some (lt a.1.2.1 (len x.2.1), ()))) fun (a_1 : Bool × Unit) =>
   sel a_1.1 (some (false, ()))
    (sel (beq a.1.1 1)
     (sel (beq a.1.1 1)
      (lc
       (loop
        (fun (x_1 : Bool × Int × Unit) =>
         sel (lt x_1.2.1 (len x.2.1))
          (ck (inB x_1.2.1 (len x.2.1))
           (ob
            (sel (lt (n8 (nth x.2.1 (nat x_1.2.1) (u8 0))) (n8 (u8 48))) (some (true, ()))
            (some (lt (n8 (u8 57)) (n8 (nth x.2.1 (nat x_1.2.1) (u8 0))), ())))
            fun (a : Bool × Unit) =>
            sel a.1 (some (LS.ex 999999999 (false, x_1.2.1, ())))
            (some (LS.nx (x_1.1, i64 (iadd x_1.2.1 1), ())))))
          (some (LS.ex 0 (x_1.1, x_1.2.1, ()))))
        (false, 0, ()))
       (fun (a : Bool × Int × Unit) => none)
       (fun (i : Nat) (a_2 : Bool × Int × Unit) =>
        sel (neb i 999999999)
         (sel (bnot a_2.1) (some (false, ()))
          (lc
           (loop
            (fun (x_1 : Bool × Int × Unit) =>
            sel (lt x_1.2.1 (len x.2.1))
            (ck (inB x_1.2.1 (len x.2.1))
            (ob
            (sel (lt (n8 (nth x.2.1 (nat x_1.2.1) (u8 0))) (n8 (u8 32))) (some (true, ()))
            (some (lt (n8 (u8 126)) (n8 (nth x.2.1 (nat x_1.2.1) (u8 0))), ())))
            fun (a : Bool × Unit) =>
            sel a.1 (some (LS.ex 999999999 (false, x_1.2.1, ())))
            (some (LS.nx (x_1.1, i64 (iadd x_1.2.1 1), ())))))
            (some (LS.ex 0 (x_1.1, x_1.2.1, ()))))
            (false, 0, ()))
           (fun (a : Bool × Int × Unit) => none)
           (fun (i : Nat) (a_3 : Bool × Int × Unit) =>
            sel (neb i 999999999)
            (sel (bnot a_3.1) (some (false, ()))
            (ob (field_told (a.1.1, ())) fun (a_4 : Int × Unit) =>
            sel (lt 0 a_4.1) (some (lt 0 (len x.2.1), ()))
            (some (beq (len x.2.1) a.1.2.1, ()))))
            (ck (neb i 0)
            (ob (field_told (a.1.1, ())) fun (a_4 : Int × Unit) =>
            sel (lt 0 a_4.1) (some (lt 0 (len x.2.1), ()))
            (some (beq (len x.2.1) a.1.2.1, ())))))
           fun (r : Unit) => none))
         (ck (neb i 0)
          (lc
           (loop
            (fun (x_1 : Bool × Int × Unit) =>
            sel (lt x_1.2.1 (len x.2.1))
            (ck (inB x_1.2.1 (len x.2.1))
            (ob
            (sel (lt (n8 (nth x.2.1 (nat x_1.2.1) (u8 0))) (n8 (u8 32))) (some (true, ()))
            (some (lt (n8 (u8 126)) (n8 (nth x.2.1 (nat x_1.2.1) (u8 0))), ())))
            fun (a : Bool × Unit) =>
            sel a.1 (some (LS.ex 999999999 (false, x_1.2.1, ())))
            (some (LS.nx (x_1.1, i64 (iadd x_1.2.1 1), ())))))
            (some (LS.ex 0 (x_1.1, x_1.2.1, ()))))
            (false, 0, ()))
           (fun (a : Bool × Int × Unit) => none)
           (fun (i : Nat) (a_3 : Bool × Int × Unit) =>
            sel (neb i 999999999)
            (sel (bnot a_3.1) (some (false, ()))
            (ob (field_told (a.1.1, ())) fun (a_4 : Int × Unit) =>
            sel (lt 0 a_4.1) (some (lt 0 (len x.2.1), ()))
            (some (beq (len x.2.1) a.1.2.1, ()))))
            (ck (neb i 0)
            (ob (field_told (a.1.1, ())) fun (a_4 : Int × Unit) =>
            sel (lt 0 a_4.1) (some (lt 0 (len x.2.1), ()))
            (some (beq (len x.2.1) a.1.2.1, ())))))
           fun (r : Unit) => none)))
       fun (r : Unit) => none)
      (sel (beq a.1.1 3)
       (sel (beq a.1.1 3)
        (lc
         (loop
          (fun (x_1 : Bool × Int × Unit) =>
           sel (lt x_1.2.1 (len x.2.1))
            (ck (inB x_1.2.1 (len x.2.1))
            (ob
            (sel (lt (n8 (nth x.2.1 (nat x_1.2.1) (u8 0))) (n8 (u8 32))) (some (true, ()))
            (some (lt (n8 (u8 126)) (n8 (nth x.2.1 (nat x_1.2.1) (u8 0))), ())))
            fun (a : Bool × Unit) =>
            sel a.1 (some (LS.ex 999999999 (false, x_1.2.1, ())))
            (some (LS.nx (x_1.1, i64 (iadd x_1.2.1 1), ())))))
            (some (LS.ex 0 (x_1.1, x_1.2.1, ()))))
          (false, 0, ()))
         (fun (a : Bool × Int × Unit) => none)
         (fun (i : Nat) (a_2 : Bool × Int × Unit) =>
          sel (neb i 999999999)
           (sel (bnot a_2.1) (some (false, ()))
            (ob (field_told (a.1.1, ())) fun (a_3 : Int × Unit) =>
            sel (lt 0 a_3.1) (some (lt 0 (len x.2.1), ()))
            (some (beq (len x.2.1) a.1.2.1, ()))))
           (ck (neb i 0)
            (ob (field_told (a.1.1, ())) fun (a_3 : Int × Unit) =>
            sel (lt 0 a_3.1) (some (lt 0 (len x.2.1), ()))
            (some (beq (len x.2.1) a.1.2.1, ())))))
         fun (r : Unit) => none)
        (ob (field_told (a.1.1, ())) fun (a_2 : Int × Unit) =>
         sel (lt 0 a_2.1) (some (lt 0 (len x.2.1), ())) (some (beq (len x.2.1) a.1.2.1, ()))))
       (sel (beq a.1.1 4)
        (sel (beq a.1.1 4)
         (lc
          (loop
           (fun (x_1 : Bool × Int × Unit) =>
            sel (lt x_1.2.1 (len x.2.1))
            (ck (inB x_1.2.1 (len x.2.1))
            (ob
            (sel (lt (n8 (nth x.2.1 (nat x_1.2.1) (u8 0))) (n8 (u8 32))) (some (true, ()))
            (some (lt (n8 (u8 126)) (n8 (nth x.2.1 (nat x_1.2.1) (u8 0))), ())))
            fun (a : Bool × Unit) =>
            sel a.1 (some (LS.ex 999999999 (false, x_1.2.1, ())))
            (some (LS.nx (x_1.1, i64 (iadd x_1.2.1 1), ())))))
            (some (LS.ex 0 (x_1.1, x_1.2.1, ()))))
           (false, 0, ()))
          (fun (a : Bool × Int × Unit) => none)
          (fun (i : Nat) (a_2 : Bool × Int × Unit) =>
           sel (neb i 999999999)
            (sel (bnot a_2.1) (some (false, ()))
            (ob (field_told (a.1.1, ())) fun (a_3 : Int × Unit) =>
            sel (lt 0 a_3.1) (some (lt 0 (len x.2.1), ()))
            (some (beq (len x.2.1) a.1.2.1, ()))))
            (ck (neb i 0)
            (ob (field_told (a.1.1, ())) fun (a_3 : Int × Unit) =>
            sel (lt 0 a_3.1) (some (lt 0 (len x.2.1), ()))
            (some (beq (len x.2.1) a.1.2.1, ())))))
          fun (r : Unit) => none)
         (ob (field_told (a.1.1, ())) fun (a_2 : Int × Unit) =>
          sel (lt 0 a_2.1) (some (lt 0 (len x.2.1), ())) (some (beq (len x.2.1) a.1.2.1, ()))))
        (sel (beq a.1.1 5)
         (lc
          (loop
           (fun (x_1 : Bool × Int × Unit) =>
            sel (lt x_1.2.1 (len x.2.1))
            (ck (inB x_1.2.1 (len x.2.1))
            (ob
            (sel (lt (n8 (nth x.2.1 (nat x_1.2.1) (u8 0))) (n8 (u8 32))) (some (true, ()))
            (some (lt (n8 (u8 126)) (n8 (nth x.2.1 (nat x_1.2.1) (u8 0))), ())))
            fun (a : Bool × Unit) =>
            sel a.1 (some (LS.ex 999999999 (false, x_1.2.1, ())))
            (some (LS.nx (x_1.1, i64 (iadd x_1.2.1 1), ())))))
            (some (LS.ex 0 (x_1.1, x_1.2.1, ()))))
           (false, 0, ()))
          (fun (a : Bool × Int × Unit) => none)
          (fun (i : Nat) (a_2 : Bool × Int × Unit) =>
           sel (neb i 999999999)
            (sel (bnot a_2.1) (some (false, ()))
            (ob (field_told (a.1.1, ())) fun (a_3 : Int × Unit) =>
            sel (lt 0 a_3.1) (some (lt 0 (len x.2.1), ()))
            (some (beq (len x.2.1) a.1.2.1, ()))))
            (ck (neb i 0)
            (ob (field_told (a.1.1, ())) fun (a_3 : Int × Unit) =>
            sel (lt 0 a_3.1) (some (lt 0 (len x.2.1), ()))
            (some (beq (len x.2.1) a.1.2.1, ())))))
          fun (r : Unit) => none)
         (ob (field_told (a.1.1, ())) fun (a_2 : Int × Unit) =>
          sel (lt 0 a_2.1) (some (lt 0 (len x.2.1), ()))
           (some (beq (len x.2.1) a.1.2.1, ())))))))
     (sel (beq a.1.1 2)
      (lc
       (loop
        (fun (x_1 : Bool × Int × Unit) =>
         sel (lt x_1.2.1 (len x.2.1))
          (ck (inB x_1.2.1 (len x.2.1))
           (ob
            (sel (lt (n8 (nth x.2.1 (nat x_1.2.1) (u8 0))) (n8 (u8 48))) (some (true, ()))
            (some (lt (n8 (u8 57)) (n8 (nth x.2.1 (nat x_1.2.1) (u8 0))), ())))
            fun (a : Bool × Unit) =>
            sel a.1 (some (LS.ex 999999999 (false, x_1.2.1, ())))
            (some (LS.nx (x_1.1, i64 (iadd x_1.2.1 1), ())))))
          (some (LS.ex 0 (x_1.1, x_1.2.1, ()))))
        (false, 0, ()))
       (fun (a : Bool × Int × Unit) => none)
       (fun (i : Nat) (a_2 : Bool × Int × Unit) =>
        sel (neb i 999999999)
         (sel (bnot a_2.1) (some (false, ()))
          (lc
           (loop
            (fun (x_1 : Bool × Int × Unit) =>
            sel (lt x_1.2.1 (len x.2.1))
            (ck (inB x_1.2.1 (len x.2.1))
            (ob
            (sel (lt (n8 (nth x.2.1 (nat x_1.2.1) (u8 0))) (n8 (u8 32))) (some (true, ()))
            (some (lt (n8 (u8 126)) (n8 (nth x.2.1 (nat x_1.2.1) (u8 0))), ())))
            fun (a : Bool × Unit) =>
            sel a.1 (some (LS.ex 999999999 (false, x_1.2.1, ())))
            (some (LS.nx (x_1.1, i64 (iadd x_1.2.1 1), ())))))
            (some (LS.ex 0 (x_1.1, x_1.2.1, ()))))
            (false, 0, ()))
           (fun (a : Bool × Int × Unit) => none)
           (fun (i : Nat) (a_3 : Bool × Int × Unit) =>
            sel (neb i 999999999)
            (sel (bnot a_3.1) (some (false, ()))
            (ob (field_told (a.1.1, ())) fun (a_4 : Int × Unit) =>
            sel (lt 0 a_4.1) (some (lt 0 (len x.2.1), ()))
            (some (beq (len x.2.1) a.1.2.1, ()))))
            (ck (neb i 0)
            (ob (field_told (a.1.1, ())) fun (a_4 : Int × Unit) =>
            sel (lt 0 a_4.1) (some (lt 0 (len x.2.1), ()))
            (some (beq (len x.2.1) a.1.2.1, ())))))
           fun (r : Unit) => none))
         (ck (neb i 0)
          (lc
           (loop
            (fun (x_1 : Bool × Int × Unit) =>
            sel (lt x_1.2.1 (len x.2.1))
            (ck (inB x_1.2.1 (len x.2.1))
            (ob
            (sel (lt (n8 (nth x.2.1 (nat x_1.2.1) (u8 0))) (n8 (u8 32))) (some (true, ()))
            (some (lt (n8 (u8 126)) (n8 (nth x.2.1 (nat x_1.2.1) (u8 0))), ())))
            fun (a : Bool × Unit) =>
            sel a.1 (some (LS.ex 999999999 (false, x_1.2.1, ())))
            (some (LS.nx (x_1.1, i64 (iadd x_1.2.1 1), ())))))
            (some (LS.ex 0 (x_1.1, x_1.2.1, ()))))
            (false, 0, ()))
           (fun (a : Bool × Int × Unit) => none)
           (fun (i : Nat) (a_3 : Bool × Int × Unit) =>
            sel (neb i 999999999)
            (sel (bnot a_3.1) (some (false, ()))
            (ob (field_told (a.1.1, ())) fun (a_4 : Int × Unit) =>
            sel (lt 0 a_4.1) (some (lt 0 (len x.2.1), ()))
            (some (beq (len x.2.1) a.1.2.1, ()))))
            (ck (neb i 0)
            (ob (field_told (a.1.1, ())) fun (a_4 : Int × Unit) =>
            sel (lt 0 a_4.1) (some (lt 0 (len x.2.1), ()))
            (some (beq (len x.2.1) a.1.2.1, ())))))
           fun (r : Unit) => none)))
       fun (r : Unit) => none)
      (sel (beq a.1.1 3)
       (sel (beq a.1.1 3)
        (lc
         (loop
          (fun (x_1 : Bool × Int × Unit) =>
           sel (lt x_1.2.1 (len x.2.1))
            (ck (inB x_1.2.1 (len x.2.1))
            (ob
            (sel (lt (n8 (nth x.2.1 (nat x_1.2.1) (u8 0))) (n8 (u8 32))) (some (true, ()))
            (some (lt (n8 (u8 126)) (n8 (nth x.2.1 (nat x_1.2.1) (u8 0))), ())))
            fun (a : Bool × Unit) =>
            sel a.1 (some (LS.ex 999999999 (false, x_1.2.1, ())))
            (some (LS.nx (x_1.1, i64 (iadd x_1.2.1 1), ())))))
            (some (LS.ex 0 (x_1.1, x_1.2.1, ()))))
          (false, 0, ()))
         (fun (a : Bool × Int × Unit) => none)
         (fun (i : Nat) (a_2 : Bool × Int × Unit) =>
          sel (neb i 999999999)
           (sel (bnot a_2.1) (some (false, ()))
            (ob (field_told (a.1.1, ())) fun (a_3 : Int × Unit) =>
            sel (lt 0 a_3.1) (some (lt 0 (len x.2.1), ()))
            (some (beq (len x.2.1) a.1.2.1, ()))))
           (ck (neb i 0)
            (ob (field_told (a.1.1, ())) fun (a_3 : Int × Unit) =>
            sel (lt 0 a_3.1) (some (lt 0 (len x.2.1), ()))
            (some (beq (len x.2.1) a.1.2.1, ())))))
         fun (r : Unit) => none)
        (ob (field_told (a.1.1, ())) fun (a_2 : Int × Unit) =>
         sel (lt 0 a_2.1) (some (lt 0 (len x.2.1), ())) (some (beq (len x.2.1) a.1.2.1, ()))))
       (sel (beq a.1.1 4)
        (sel (beq a.1.1 4)
         (lc
          (loop
           (fun (x_1 : Bool × Int × Unit) =>
            sel (lt x_1.2.1 (len x.2.1))
            (ck (inB x_1.2.1 (len x.2.1))
            (ob
            (sel (lt (n8 (nth x.2.1 (nat x_1.2.1) (u8 0))) (n8 (u8 32))) (some (true, ()))
            (some (lt (n8 (u8 126)) (n8 (nth x.2.1 (nat x_1.2.1) (u8 0))), ())))
            fun (a : Bool × Unit) =>
            sel a.1 (some (LS.ex 999999999 (false, x_1.2.1, ())))
            (some (LS.nx (x_1.1, i64 (iadd x_1.2.1 1), ())))))
            (some (LS.ex 0 (x_1.1, x_1.2.1, ()))))
           (false, 0, ()))
          (fun (a : Bool × Int × Unit) => none)
          (fun (i : Nat) (a_2 : Bool × Int × Unit) =>
           sel (neb i 999999999)
            (sel (bnot a_2.1) (some (false, ()))
            (ob (field_told (a.1.1, ())) fun (a_3 : Int × Unit) =>
            sel (lt 0 a_3.1) (some (lt 0 (len x.2.1), ()))
            (some (beq (len x.2.1) a.1.2.1, ()))))
            (ck (neb i 0)
            (ob (field_told (a.1.1, ())) fun (a_3 : Int × Unit) =>
            sel (lt 0 a_3.1) (some (lt 0 (len x.2.1), ()))
            (some (beq (len x.2.1) a.1.2.1, ())))))
          fun (r : Unit) => none)
         (ob (field_told (a.1.1, ())) fun (a_2 : Int × Unit) =>
          sel (lt 0 a_2.1) (some (lt 0 (len x.2.1), ())) (some (beq (len x.2.1) a.1.2.1, ()))))
        (sel (beq a.1.1 5)
         (lc
          (loop
           (fun (x_1 : Bool × Int × Unit) =>
            sel (lt x_1.2.1 (len x.2.1))
            (ck (inB x_1.2.1 (len x.2.1))
            (ob
            (sel (lt (n8 (nth x.2.1 (nat x_1.2.1) (u8 0))) (n8 (u8 32))) (some (true, ()))
            (some (lt (n8 (u8 126)) (n8 (nth x.2.1 (nat x_1.2.1) (u8 0))), ())))
            fun (a : Bool × Unit) =>
            sel a.1 (some (LS.ex 999999999 (false, x_1.2.1, ())))
            (some (LS.nx (x_1.1, i64 (iadd x_1.2.1 1), ())))))
            (some (LS.ex 0 (x_1.1, x_1.2.1, ()))))
           (false, 0, ()))
          (fun (a : Bool × Int × Unit) => none)
          (fun (i : Nat) (a_2 : Bool × Int × Unit) =>
           sel (neb i 999999999)
            (sel (bnot a_2.1) (some (false, ()))
            (ob (field_told (a.1.1, ())) fun (a_3 : Int × Unit) =>
            sel (lt 0 a_3.1) (some (lt 0 (len x.2.1), ()))
            (some (beq (len x.2.1) a.1.2.1, ()))))
            (ck (neb i 0)
            (ob (field_told (a.1.1, ())) fun (a_3 : Int × Unit) =>
            sel (lt 0 a_3.1) (some (lt 0 (len x.2.1), ()))
            (some (beq (len x.2.1) a.1.2.1, ())))))
          fun (r : Unit) => none)
         (ob (field_told (a.1.1, ())) fun (a_2 : Int × Unit) =>
          sel (lt 0 a_2.1) (some (lt 0 (len x.2.1), ()))
           (some (beq (len x.2.1) a.1.2.1, ()))))))))
noncomputable def field_Write (x : Int × List UInt8 × Unit) : Option (List UInt8 × Int × Unit) :=
  ob (field_Of (x.1, ())) fun (a : (Int × Int × Unit) × Bool × Unit) =>
  sel (bnot a.2.1) (some (none' UInt8, 12, ()))
   (ob (field_Fits (x.1, x.2.1, ())) fun (a_1 : Bool × Unit) =>
    sel (bnot a_1.1) (some (none' UInt8, 1, ()))
     (ob (field_told (a.1.1, ())) fun (a_2 : Int × Unit) =>
      sel (lt 0 a_2.1)
       (ob (dig_Digits (len x.2.1, a_2.1, ())) fun (a_3 : List UInt8 × Int × Unit) =>
        ob (dig_Bcd (a_3.1, ())) fun (a_4 : List UInt8 × Int × Unit) =>
         ob (sel (beq a.1.1 1) (some (true, ())) (some (beq a.1.1 2, ()))) fun (a : Bool × Unit) =>
          sel a.1
           (ob (dig_Bcd (x.2.1, ())) fun (a : List UInt8 × Int × Unit) =>
            ck (rm 1 (nadd (ln a_4.1) (ln a.1))) (some (app a_4.1 a.1, 0, ())))
           (ck (rm 1 (nadd (ln a_4.1) (ln x.2.1))) (some (app a_4.1 x.2.1, 0, ()))))
       (ob (sel (beq a.1.1 1) (some (true, ())) (some (beq a.1.1 2, ()))) fun (a : Bool × Unit) =>
        sel a.1
         (ob (dig_Bcd (x.2.1, ())) fun (a : List UInt8 × Int × Unit) =>
          ck (rm 1 (ln a.1)) (some (a.1, 0, ())))
         (ck (rm 1 (ln x.2.1)) (some (x.2.1, 0, ()))))))
noncomputable def field_Read (x : Int × List UInt8 × Int × Unit) : Option (List UInt8 × Int × Int × Unit) :=
  ob (field_Of (x.1, ())) fun (a : (Int × Int × Unit) × Bool × Unit) =>
  sel (bnot a.2.1) (some (none' UInt8, 0, 12, ()))
   (ob (sel (lt x.2.2.1 0) (some (true, ())) (some (lt (len x.2.1) x.2.2.1, ())))
    fun (a_1 : Bool × Unit) =>
    sel a_1.1 (some (none' UInt8, 0, 1, ()))
     (ob (field_told (a.1.1, ())) fun (a_2 : Int × Unit) =>
      sel (lt 0 a_2.1)
       (ob (dig_TakeBcd (x.2.1, x.2.2.1, a_2.1, ())) fun (a_3 : List UInt8 × Int × Int × Unit) =>
        sel (bnot (beq a_3.2.2.1 0)) (some (none' UInt8, 0, a_3.2.2.1, ()))
         (ob (dig_Value (a_3.1, ())) fun (a_4 : Int × Int × Unit) =>
          ob (sel (lt a_4.1 1) (some (true, ())) (some (lt a.1.2.1 a_4.1, ())))
           fun (a_5 : Bool × Unit) =>
           sel a_5.1 (some (none' UInt8, 0, 2, ()))
            (ob (sel (beq a.1.1 1) (some (true, ())) (some (beq a.1.1 2, ())))
            fun (a : Bool × Unit) =>
            sel a.1
            (ob (dig_TakeBcd (x.2.1, a_3.2.1, a_4.1, ()))
            fun (a : List UInt8 × Int × Int × Unit) =>
            sel (bnot (beq a.2.2.1 0)) (some (none' UInt8, 0, a.2.2.1, ()))
            (ck (rm 1 (ln a.1)) (some (a.1, a.2.1, 0, ()))))
            (sel (lt (i64 (isub (len x.2.1) a_3.2.1)) a_4.1) (some (none' UInt8, 0, 3, ()))
            (ck (inC a_3.2.1 (i64 (iadd a_3.2.1 a_4.1)) (len x.2.1))
            (ck
            (rm 1
            (nadd (ln (none' UInt8))
            (ln (sub x.2.1 a_3.2.1 (i64 (iadd a_3.2.1 a_4.1))))))
            (ob
            (field_Fits
            (x.1,
            app (none' UInt8) (sub x.2.1 a_3.2.1 (i64 (iadd a_3.2.1 a_4.1))),
            ()))
            fun (a : Bool × Unit) =>
            sel (bnot a.1) (some (none' UInt8, 0, 2, ()))
            (some
            (app (none' UInt8) (sub x.2.1 a_3.2.1 (i64 (iadd a_3.2.1 a_4.1))),
            i64 (iadd a_3.2.1 a_4.1), 0, ())))))))))
       (ob (sel (beq a.1.1 1) (some (true, ())) (some (beq a.1.1 2, ()))) fun (a_3 : Bool × Unit) =>
        sel a_3.1
         (ob (dig_TakeBcd (x.2.1, x.2.2.1, a.1.2.1, ()))
          fun (a : List UInt8 × Int × Int × Unit) =>
          sel (bnot (beq a.2.2.1 0)) (some (none' UInt8, 0, a.2.2.1, ()))
           (ck (rm 1 (ln a.1)) (some (a.1, a.2.1, 0, ()))))
         (sel (lt (i64 (isub (len x.2.1) x.2.2.1)) a.1.2.1) (some (none' UInt8, 0, 3, ()))
          (ck (inC x.2.2.1 (i64 (iadd x.2.2.1 a.1.2.1)) (len x.2.1))
           (ck
            (rm 1
            (nadd (ln (none' UInt8))
            (ln (sub x.2.1 x.2.2.1 (i64 (iadd x.2.2.1 a.1.2.1))))))
            (ob
            (field_Fits
            (x.1,
            app (none' UInt8) (sub x.2.1 x.2.2.1 (i64 (iadd x.2.2.1 a.1.2.1))),
            ()))
            fun (a_4 : Bool × Unit) =>
            sel (bnot a_4.1) (some (none' UInt8, 0, 2, ()))
            (some
            (app (none' UInt8) (sub x.2.1 x.2.2.1 (i64 (iadd x.2.2.1 a.1.2.1))),
            i64 (iadd x.2.2.1 a.1.2.1), 0, ())))))))))
noncomputable def ref05_in (x : List Int × Int × Unit) : Option (Bool × Unit) :=
  lc
  (loop
   (fun (x_1 : Bool × Int × Unit) =>
    sel (lt x_1.2.1 (len x.1))
     (ck (inB x_1.2.1 (len x.1))
      (sel (beq (nth x.1 (nat x_1.2.1) 0) x.2.1) (some (LS.rt (true, ())))
       (some (LS.nx (x_1.1, i64 (iadd x_1.2.1 1), ())))))
     (some (LS.ex 0 (x_1.1, x_1.2.1, ()))))
   (false, 0, ()))
  (fun (a : Bool × Int × Unit) => none) (fun (i : Nat) (a : Bool × Int × Unit) => ck (neb i 0) (some (false, ())))
  fun (r : Bool × Unit) => some r
noncomputable def ref05_Of (x : Int × Unit) : Option ((Int × Int × Unit) × Bool × Unit) :=
  lc
  (loop
   (fun (x_1 : Bool × Int × Unit) =>
    sel
     (lt x_1.2.1
      (len
       [[1, 2, 25], [1, 3, 22, 49, 70], [1, 4, 13, 14, 18], [1, 6, 3, 11, 12, 15], [1, 10, 7], [1, 12, 4],
        [1, 16, 53], [1, 42, 90], [2, 19, 2], [2, 11, 32, 100], [3, 12, 37], [3, 6, 38], [3, 2, 39], [3, 8, 41],
        [3, 15, 42], [3, 42, 95], [4, 37, 35], [4, 28, 102], [5, 400, 48], [5, 120, 54], [6, 8, 52, 64, 96, 128],
        [7, 255, 55], [7, 400, 127]]))
     (ck
      (inB x_1.2.1
       (len
        [[1, 2, 25], [1, 3, 22, 49, 70], [1, 4, 13, 14, 18], [1, 6, 3, 11, 12, 15], [1, 10, 7], [1, 12, 4],
         [1, 16, 53], [1, 42, 90], [2, 19, 2], [2, 11, 32, 100], [3, 12, 37], [3, 6, 38], [3, 2, 39], [3, 8, 41],
         [3, 15, 42], [3, 42, 95], [4, 37, 35], [4, 28, 102], [5, 400, 48], [5, 120, 54],
         [6, 8, 52, 64, 96, 128], [7, 255, 55], [7, 400, 127]]))
      (ck
       (inC 2
        (len
         (nth
          [[1, 2, 25], [1, 3, 22, 49, 70], [1, 4, 13, 14, 18], [1, 6, 3, 11, 12, 15], [1, 10, 7], [1, 12, 4],
           [1, 16, 53], [1, 42, 90], [2, 19, 2], [2, 11, 32, 100], [3, 12, 37], [3, 6, 38], [3, 2, 39],
           [3, 8, 41], [3, 15, 42], [3, 42, 95], [4, 37, 35], [4, 28, 102], [5, 400, 48], [5, 120, 54],
           [6, 8, 52, 64, 96, 128], [7, 255, 55], [7, 400, 127]]
          (nat x_1.2.1) (none' Int)))
        (len
         (nth
          [[1, 2, 25], [1, 3, 22, 49, 70], [1, 4, 13, 14, 18], [1, 6, 3, 11, 12, 15], [1, 10, 7], [1, 12, 4],
           [1, 16, 53], [1, 42, 90], [2, 19, 2], [2, 11, 32, 100], [3, 12, 37], [3, 6, 38], [3, 2, 39],
           [3, 8, 41], [3, 15, 42], [3, 42, 95], [4, 37, 35], [4, 28, 102], [5, 400, 48], [5, 120, 54],
           [6, 8, 52, 64, 96, 128], [7, 255, 55], [7, 400, 127]]
          (nat x_1.2.1) (none' Int))))
       (ob
        (ref05_in
         (sub
           (nth
            [[1, 2, 25], [1, 3, 22, 49, 70], [1, 4, 13, 14, 18], [1, 6, 3, 11, 12, 15], [1, 10, 7],
            [1, 12, 4], [1, 16, 53], [1, 42, 90], [2, 19, 2], [2, 11, 32, 100], [3, 12, 37], [3, 6, 38],
            [3, 2, 39], [3, 8, 41], [3, 15, 42], [3, 42, 95], [4, 37, 35], [4, 28, 102], [5, 400, 48],
            [5, 120, 54], [6, 8, 52, 64, 96, 128], [7, 255, 55], [7, 400, 127]]
            (nat x_1.2.1) (none' Int))
           2
           (len
            (nth
            [[1, 2, 25], [1, 3, 22, 49, 70], [1, 4, 13, 14, 18], [1, 6, 3, 11, 12, 15], [1, 10, 7],
            [1, 12, 4], [1, 16, 53], [1, 42, 90], [2, 19, 2], [2, 11, 32, 100], [3, 12, 37], [3, 6, 38],
            [3, 2, 39], [3, 8, 41], [3, 15, 42], [3, 42, 95], [4, 37, 35], [4, 28, 102], [5, 400, 48],
            [5, 120, 54], [6, 8, 52, 64, 96, 128], [7, 255, 55], [7, 400, 127]]
            (nat x_1.2.1) (none' Int))),
          x.1, ()))
        fun (a : Bool × Unit) =>
        sel a.1
         (ck
          (inB x_1.2.1
           (len
            [[1, 2, 25], [1, 3, 22, 49, 70], [1, 4, 13, 14, 18], [1, 6, 3, 11, 12, 15], [1, 10, 7],
            [1, 12, 4], [1, 16, 53], [1, 42, 90], [2, 19, 2], [2, 11, 32, 100], [3, 12, 37], [3, 6, 38],
            [3, 2, 39], [3, 8, 41], [3, 15, 42], [3, 42, 95], [4, 37, 35], [4, 28, 102], [5, 400, 48],
            [5, 120, 54], [6, 8, 52, 64, 96, 128], [7, 255, 55], [7, 400, 127]]))
          (ck
           (inB 0
            (len
            (nth
            [[1, 2, 25], [1, 3, 22, 49, 70], [1, 4, 13, 14, 18], [1, 6, 3, 11, 12, 15], [1, 10, 7],
            [1, 12, 4], [1, 16, 53], [1, 42, 90], [2, 19, 2], [2, 11, 32, 100], [3, 12, 37], [3, 6, 38],
            [3, 2, 39], [3, 8, 41], [3, 15, 42], [3, 42, 95], [4, 37, 35], [4, 28, 102], [5, 400, 48],
            [5, 120, 54], [6, 8, 52, 64, 96, 128], [7, 255, 55], [7, 400, 127]]
            (nat x_1.2.1) (none' Int))))
           (ck
            (inB x_1.2.1
            (len
            [[1, 2, 25], [1, 3, 22, 49, 70], [1, 4, 13, 14, 18], [1, 6, 3, 11, 12, 15], [1, 10, 7],
            [1, 12, 4], [1, 16, 53], [1, 42, 90], [2, 19, 2], [2, 11, 32, 100], [3, 12, 37], [3, 6, 38],
            [3, 2, 39], [3, 8, 41], [3, 15, 42], [3, 42, 95], [4, 37, 35], [4, 28, 102], [5, 400, 48],
            [5, 120, 54], [6, 8, 52, 64, 96, 128], [7, 255, 55], [7, 400, 127]]))
            (ck
            (inB 1
            (len
            (nth
            [[1, 2, 25], [1, 3, 22, 49, 70], [1, 4, 13, 14, 18], [1, 6, 3, 11, 12, 15], [1, 10, 7],
            [1, 12, 4], [1, 16, 53], [1, 42, 90], [2, 19, 2], [2, 11, 32, 100], [3, 12, 37],
            [3, 6, 38], [3, 2, 39], [3, 8, 41], [3, 15, 42], [3, 42, 95], [4, 37, 35], [4, 28, 102],
            [5, 400, 48], [5, 120, 54], [6, 8, 52, 64, 96, 128], [7, 255, 55], [7, 400, 127]]
            (nat x_1.2.1) (none' Int))))
            (some
            (LS.rt
            ((nth
            (nth
            [[1, 2, 25], [1, 3, 22, 49, 70], [1, 4, 13, 14, 18], [1, 6, 3, 11, 12, 15],
            [1, 10, 7], [1, 12, 4], [1, 16, 53], [1, 42, 90], [2, 19, 2], [2, 11, 32, 100],
            [3, 12, 37], [3, 6, 38], [3, 2, 39], [3, 8, 41], [3, 15, 42], [3, 42, 95],
            [4, 37, 35], [4, 28, 102], [5, 400, 48], [5, 120, 54], [6, 8, 52, 64, 96, 128],
            [7, 255, 55], [7, 400, 127]]
            (nat x_1.2.1) (none' Int))
            (nat 0) 0,
            nth
            (nth
            [[1, 2, 25], [1, 3, 22, 49, 70], [1, 4, 13, 14, 18], [1, 6, 3, 11, 12, 15],
            [1, 10, 7], [1, 12, 4], [1, 16, 53], [1, 42, 90], [2, 19, 2], [2, 11, 32, 100],
            [3, 12, 37], [3, 6, 38], [3, 2, 39], [3, 8, 41], [3, 15, 42], [3, 42, 95],
            [4, 37, 35], [4, 28, 102], [5, 400, 48], [5, 120, 54], [6, 8, 52, 64, 96, 128],
            [7, 255, 55], [7, 400, 127]]
            (nat x_1.2.1) (none' Int))
            (nat 1) 0,
            ()),
            true, ())))))))
         (some (LS.nx (x_1.1, i64 (iadd x_1.2.1 1), ()))))))
     (some (LS.ex 0 (x_1.1, x_1.2.1, ()))))
   (false, 0, ()))
  (fun (a : Bool × Int × Unit) => none)
  (fun (i : Nat) (a : Bool × Int × Unit) => ck (neb i 0) (some ((0, 0, ()), false, ())))
  fun (r : (Int × Int × Unit) × Bool × Unit) => some r
noncomputable def ref05_fits (x : (Int × Int × Unit) × List UInt8 × Unit) : Option (Bool × Unit) :=
  lc
  (loop
   (fun (x_1 : Bool × Int × Unit) =>
    sel (lt x_1.2.1 (len x.2.1))
     (ob
      (sel (le x.1.1 2)
       (ck (inB x_1.2.1 (len x.2.1))
        (sel (lt (n8 (nth x.2.1 (nat x_1.2.1) (u8 0))) (n8 (u8 48))) (some (true, ()))
         (ck (inB x_1.2.1 (len x.2.1))
          (sel (lt (n8 (u8 57)) (n8 (nth x.2.1 (nat x_1.2.1) (u8 0)))) (some (true, ()))
           (sel (le 3 x.1.1)
            (sel (le x.1.1 5)
            (ck (inB x_1.2.1 (len x.2.1))
            (sel (lt (n8 (nth x.2.1 (nat x_1.2.1) (u8 0))) (n8 (u8 32))) (some (true, ()))
            (ck (inB x_1.2.1 (len x.2.1))
            (some (lt (n8 (u8 126)) (n8 (nth x.2.1 (nat x_1.2.1) (u8 0))), ())))))
            (some (false, ())))
            (some (false, ())))))))
       (sel (le 3 x.1.1)
        (sel (le x.1.1 5)
         (ck (inB x_1.2.1 (len x.2.1))
          (sel (lt (n8 (nth x.2.1 (nat x_1.2.1) (u8 0))) (n8 (u8 32))) (some (true, ()))
           (ck (inB x_1.2.1 (len x.2.1))
            (some (lt (n8 (u8 126)) (n8 (nth x.2.1 (nat x_1.2.1) (u8 0))), ())))))
         (some (false, ())))
        (some (false, ()))))
      fun (a : Bool × Unit) =>
      sel a.1 (some (LS.rt (false, ()))) (some (LS.nx (x_1.1, i64 (iadd x_1.2.1 1), ()))))
     (some (LS.ex 0 (x_1.1, x_1.2.1, ()))))
   (false, 0, ()))
  (fun (a : Bool × Int × Unit) => none)
  (fun (i : Nat) (a : Bool × Int × Unit) =>
   ck (neb i 0)
    (ob
     (sel (beq x.1.1 1) (some (true, ())) (sel (beq x.1.1 3) (some (true, ())) (some (beq x.1.1 6, ()))))
     fun (a : Bool × Unit) =>
     sel a.1 (some (beq (len x.2.1) x.1.2.1, ()))
      (ob (sel (le 1 (len x.2.1)) (some (le (len x.2.1) x.1.2.1, ())) (some (false, ())))
       fun (a : Bool × Unit) => some (a.1, ()))))
  fun (r : Bool × Unit) => some r
noncomputable def ref05_count (x : Int × Unit) : Option (Int × Unit) :=
  ob (sel (beq x.1 2) (some (true, ())) (some (beq x.1 4, ()))) fun (a : Bool × Unit) =>
  sel a.1 (some (2, ()))
   (ob (sel (beq x.1 5) (some (true, ())) (some (beq x.1 7, ()))) fun (a : Bool × Unit) =>
    sel a.1 (some (3, ())) (some (0, ())))
noncomputable def ref05_Write (x : Int × List UInt8 × Unit) : Option (List UInt8 × Int × Unit) :=
  ob (ref05_Of (x.1, ())) fun (a : (Int × Int × Unit) × Bool × Unit) =>
  sel (bnot a.2.1) (some (none' UInt8, 12, ()))
   (ob (ref05_fits (a.1, x.2.1, ())) fun (a_1 : Bool × Unit) =>
    sel (bnot a_1.1) (some (none' UInt8, 1, ()))
     (ob (ref05_count (a.1.1, ())) fun (a_2 : Int × Unit) =>
      sel (lt 0 a_2.1)
       (ob (ref05_count (a.1.1, ())) fun (a_3 : Int × Unit) =>
        ob (ref01_Digits (len x.2.1, a_3.1, ())) fun (a_4 : List UInt8 × Int × Unit) =>
         ob (ref01_Bcd (a_4.1, ())) fun (a_5 : List UInt8 × Int × Unit) =>
          sel (le a.1.1 2)
           (ob (ref01_Bcd (x.2.1, ())) fun (a : List UInt8 × Int × Unit) =>
            ck (rm 1 (nadd (ln (none' UInt8)) (ln a_5.1)))
            (ck (rm 1 (nadd (ln (app (none' UInt8) a_5.1)) (ln a.1)))
            (some (app (app (none' UInt8) a_5.1) a.1, 0, ()))))
           (ck (rm 1 (nadd (ln (none' UInt8)) (ln a_5.1)))
            (ck (rm 1 (nadd (ln (app (none' UInt8) a_5.1)) (ln x.2.1)))
            (some (app (app (none' UInt8) a_5.1) x.2.1, 0, ())))))
       (sel (le a.1.1 2)
        (ob (ref01_Bcd (x.2.1, ())) fun (a : List UInt8 × Int × Unit) =>
         ck (rm 1 (nadd (ln (none' UInt8)) (ln (none' UInt8))))
          (ck (rm 1 (nadd (ln (app (none' UInt8) (none' UInt8))) (ln a.1)))
           (some (app (app (none' UInt8) (none' UInt8)) a.1, 0, ()))))
        (ck (rm 1 (nadd (ln (none' UInt8)) (ln (none' UInt8))))
         (ck (rm 1 (nadd (ln (app (none' UInt8) (none' UInt8))) (ln x.2.1)))
          (some (app (app (none' UInt8) (none' UInt8)) x.2.1, 0, ())))))))
noncomputable def ref05_Fits (x : Int × List UInt8 × Unit) : Option (Bool × Unit) :=
  ob (ref05_Of (x.1, ())) fun (a : (Int × Int × Unit) × Bool × Unit) =>
  ob (ref05_fits (a.1, x.2.1, ())) fun (a_1 : Bool × Unit) =>
   ob (sel a.2.1 (some (a_1.1, ())) (some (false, ()))) fun (a : Bool × Unit) => some (a.1, ())
noncomputable def ref05_Read (x : Int × List UInt8 × Int × Unit) : Option (List UInt8 × Int × Int × Unit) :=
  ob (ref05_Of (x.1, ())) fun (a : (Int × Int × Unit) × Bool × Unit) =>
  sel (bnot a.2.1) (some (none' UInt8, 0, 12, ()))
   (ob (sel (lt x.2.2.1 0) (some (true, ())) (some (lt (len x.2.1) x.2.2.1, ())))
    fun (a_1 : Bool × Unit) =>
    sel a_1.1 (some (none' UInt8, 0, 1, ()))
     (ob (ref05_count (a.1.1, ())) fun (a_2 : Int × Unit) =>
      sel (lt 0 a_2.1)
       (ob (ref05_count (a.1.1, ())) fun (a_3 : Int × Unit) =>
        ob (ref01_TakeBcd (x.2.1, x.2.2.1, a_3.1, ())) fun (a_4 : List UInt8 × Int × Int × Unit) =>
         sel (bnot (beq a_4.2.2.1 0)) (some (none' UInt8, 0, a_4.2.2.1, ()))
          (ob (ref01_Value (a_4.1, ())) fun (a_5 : Int × Int × Unit) =>
           ob (sel (lt a_5.1 1) (some (true, ())) (some (lt a.1.2.1 a_5.1, ())))
            fun (a_6 : Bool × Unit) =>
            sel a_6.1 (some (none' UInt8, 0, 2, ()))
            (ob (sel (le a.1.1 2) (some (i64 (idiv (i64 (iadd a_5.1 1)) 2), ())) (some (a_5.1, ())))
            fun (a_7 : Int × Unit) =>
            sel (lt (i64 (isub (len x.2.1) a_4.2.1)) a_7.1) (some (none' UInt8, 0, 3, ()))
            (ck (inC a_4.2.1 (i64 (iadd a_4.2.1 a_7.1)) (len x.2.1))
            (ck
            (rm 1
            (nadd (ln (none' UInt8))
            (ln (sub x.2.1 a_4.2.1 (i64 (iadd a_4.2.1 a_7.1))))))
            (sel (le a.1.1 2)
            (ob (ref01_TakeBcd (x.2.1, a_4.2.1, a_5.1, ()))
            fun (a_8 : List UInt8 × Int × Int × Unit) =>
            sel (bnot (beq a_8.2.2.1 0)) (some (none' UInt8, 0, 2, ()))
            (ck (rm 1 (ln a_8.1))
            (ob (ref05_fits (a.1, a_8.1, ())) fun (a : Bool × Unit) =>
            sel (bnot a.1) (some (none' UInt8, 0, 2, ()))
            (some (a_8.1, i64 (iadd a_4.2.1 a_7.1), 0, ())))))
            (ob
            (ref05_fits
            (a.1,
            app (none' UInt8) (sub x.2.1 a_4.2.1 (i64 (iadd a_4.2.1 a_7.1))),
            ()))
            fun (a : Bool × Unit) =>
            sel (bnot a.1) (some (none' UInt8, 0, 2, ()))
            (some
            (app (none' UInt8) (sub x.2.1 a_4.2.1 (i64 (iadd a_4.2.1 a_7.1))),
            i64 (iadd a_4.2.1 a_7.1), 0, ())))))))))
       (ob (sel (le a.1.1 2) (some (i64 (idiv (i64 (iadd a.1.2.1 1)) 2), ())) (some (a.1.2.1, ())))
        fun (a_3 : Int × Unit) =>
        sel (lt (i64 (isub (len x.2.1) x.2.2.1)) a_3.1) (some (none' UInt8, 0, 3, ()))
         (ck (inC x.2.2.1 (i64 (iadd x.2.2.1 a_3.1)) (len x.2.1))
          (ck
           (rm 1
            (nadd (ln (none' UInt8)) (ln (sub x.2.1 x.2.2.1 (i64 (iadd x.2.2.1 a_3.1))))))
           (sel (le a.1.1 2)
            (ob (ref01_TakeBcd (x.2.1, x.2.2.1, a.1.2.1, ()))
            fun (a_4 : List UInt8 × Int × Int × Unit) =>
            sel (bnot (beq a_4.2.2.1 0)) (some (none' UInt8, 0, 2, ()))
            (ck (rm 1 (ln a_4.1))
            (ob (ref05_fits (a.1, a_4.1, ())) fun (a : Bool × Unit) =>
            sel (bnot a.1) (some (none' UInt8, 0, 2, ()))
            (some (a_4.1, i64 (iadd x.2.2.1 a_3.1), 0, ())))))
            (ob
            (ref05_fits
            (a.1, app (none' UInt8) (sub x.2.1 x.2.2.1 (i64 (iadd x.2.2.1 a_3.1))),
            ()))
            fun (a : Bool × Unit) =>
            sel (bnot a.1) (some (none' UInt8, 0, 2, ()))
            (some
            (app (none' UInt8) (sub x.2.1 x.2.2.1 (i64 (iadd x.2.2.1 a_3.1))),
            i64 (iadd x.2.2.1 a_3.1), 0, ())))))))))
end Yp
namespace Yp
open Go
def bt (c : UInt8) (t : Nat) : Bool := c.toNat.testBit (7 - t)
def hasB (b : List UInt8) (n : Nat) : Bool := bt (nth b ((n - 1) / 8) (u8 0)) ((n - 1) % 8)
def numsB (b : List UInt8) : List Nat := (List.range (8 * b.length + 1)).filter fun n => Nat.ble 2 n && hasB b n
def bmC (c : List UInt8) (a : Int) : List Int × Int × Int × Unit :=
  if c.length < 8 ∨ (hasB c 1 = true ∧ c.length < 16) then ([], 0, 3, ())
  else if hasB c 1 = true then
    (if 65 ∈ numsB (c.take 16) ∨ ∀ n ∈ numsB (c.take 16), n < 65 then ([], 0, 2, ()) else ((numsB (c.take 16)).map Int.ofNat, a + 16, 0, ()))
  else ((numsB (c.take 8)).map Int.ofNat, a + 8, 0, ())
def bmR (b : List UInt8) (a : Int) : List Int × Int × Int × Unit := if a < 0 ∨ (b.length : Int) < a then ([], 0, 1, ()) else bmC (b.drop a.toNat) a
def bitmap_Read (x : List UInt8 × Int × Unit) : Option (List Int × Int × Int × Unit) := some (bmR x.1 x.2.1)
end Yp
namespace Yp
open Go
noncomputable def iso_figure (x : Int × Int × Unit) : Option (Int × Unit) :=
  lc
  (loop
   (fun (x_1 : Int × Int × Unit) =>
    sel (lt x_1.2.1 x.2.1) (some (LS.nx (i64 (idiv x_1.1 10), i64 (iadd x_1.2.1 1), ())))
     (some (LS.ex 0 (x_1.1, x_1.2.1, ()))))
   (x.1, 0, ()))
  (fun (a : Int × Int × Unit) => none) (fun (i : Nat) (a : Int × Int × Unit) => ck (neb i 0) (some (imod a.1 10, ())))
  fun (r : Int × Unit) => some r
noncomputable def iso_Type (x : Int × Unit) : Option (Bool × Unit) :=
  ob (sel (lt x.1 0) (some (true, ())) (some (lt 999 x.1, ()))) fun (a : Bool × Unit) =>
  sel a.1 (some (false, ()))
   (ob (iso_figure (x.1, 2, ())) fun (a : Int × Unit) =>
    ob
     (sel (le 1 a.1)
      (sel (le a.1 8)
       (ob (iso_figure (x.1, 1, ())) fun (a : Int × Unit) =>
        sel (le a.1 4) (ob (iso_figure (x.1, 0, ())) fun (a : Int × Unit) => some (le a.1 5, ()))
         (some (false, ())))
       (some (false, ())))
      (some (false, ())))
     fun (a : Bool × Unit) => some (a.1, ()))
noncomputable def note_kind_keyed (x : (Bool × Int × Int × Int × Int × List UInt8 × List UInt8 × Int × Unit) ×
  Unit) : Option (Bool × Unit) :=
  ob
  (sel (le 1 x.1.2.2.2.2.1)
   (sel (le x.1.2.2.2.2.1 2147483647)
    (sel (beq (len x.1.2.2.2.2.2.1) 8)
     (sel (beq (len x.1.2.2.2.2.2.2.1) 3) (some (beq x.1.2.2.2.2.2.2.2.1 0, ()))
      (some (false, ())))
     (some (false, ())))
    (some (false, ())))
   (some (false, ())))
  fun (a : Bool × Unit) => some (a.1, ())
noncomputable def note_kind_bare (x : (Bool × Int × Int × Int × Int × List UInt8 × List UInt8 × Int × Unit) ×
  Unit) : Option (Bool × Unit) :=
  ob
  (sel (beq x.1.2.2.2.2.1 0)
   (sel (beq (len x.1.2.2.2.2.2.1) 0)
    (sel (beq (len x.1.2.2.2.2.2.2.1) 0) (some (beq x.1.2.2.2.2.2.2.2.1 0, ()))
     (some (false, ())))
    (some (false, ())))
   (some (false, ())))
  fun (a : Bool × Unit) => some (a.1, ())
noncomputable def note_kind_dated (x : (Bool × Int × Int × Int × Int × List UInt8 × List UInt8 × Int × Unit) ×
  Unit) : Option (Bool × Unit) :=
  ob
  (sel (le 0 x.1.2.2.2.2.2.2.2.1)
   (sel (le x.1.2.2.2.2.2.2.2.1 999999)
    (ob
     (note_kind_bare
      ((x.1.1, x.1.2.1, x.1.2.2.1, x.1.2.2.2.1, x.1.2.2.2.2.1,
        x.1.2.2.2.2.2.1, x.1.2.2.2.2.2.2.1, 0,
        x.1.2.2.2.2.2.2.2.2),
       ()))
     fun (a : Bool × Unit) => some (a.1, ()))
    (some (false, ())))
   (some (false, ())))
  fun (a : Bool × Unit) => some (a.1, ())
-- not served: yett/note.rule$1
noncomputable def iso_Right (x : (Int × List (Int × List UInt8 × Unit) × Unit) × Unit) : Option (Bool × Unit) :=
  lc
  (loop
   (fun (x_1 : Bool × Int × Int × Unit) =>
    sel (lt x_1.2.2.1 (len x.1.2.1))
     (ck (inB x_1.2.2.1 (len x.1.2.1))
      (ob
       (sel (le (nth x.1.2.1 (nat x_1.2.2.1) (0, none' UInt8, ())).1 x_1.2.1) (some (true, ()))
        (ob
         (field_Fits
          ((nth x.1.2.1 (nat x_1.2.2.1) (0, none' UInt8, ())).1,
           (nth x.1.2.1 (nat x_1.2.2.1) (0, none' UInt8, ())).2.1, ()))
         fun (a : Bool × Unit) => some (bnot a.1, ())))
       fun (a : Bool × Unit) =>
       sel a.1 (some (LS.rt (false, ())))
        (some
         (LS.nx
          (x_1.1, (nth x.1.2.1 (nat x_1.2.2.1) (0, none' UInt8, ())).1,
           i64 (iadd x_1.2.2.1 1), ())))))
     (some (LS.ex 0 (x_1.1, x_1.2.1, x_1.2.2.1, ()))))
   (false, 0, 0, ()))
  (fun (a : Bool × Int × Int × Unit) => none)
  (fun (i : Nat) (a : Bool × Int × Int × Unit) =>
   ck (neb i 0) (ob (iso_Type (x.1.1, ())) fun (a : Bool × Unit) => some (a.1, ())))
  fun (r : Bool × Unit) => some r
noncomputable def bytes_Equal (x : List UInt8 × List UInt8 × Unit) : Option (Bool × Unit) :=
  some (seq x.1 x.2.1, ())
noncomputable def iso_Same_1 (x : (Int × List UInt8 × Unit) × (Int × List UInt8 × Unit) × Unit) : Option (Bool × Unit) :=
  ob
  (sel (beq x.1.1 x.2.1.1)
   (ob (bytes_Equal (x.1.2.1, x.2.1.2.1, ())) fun (a : Bool × Unit) => some (a.1, ()))
   (some (false, ())))
  fun (a : Bool × Unit) => some (a.1, ())
noncomputable def bitmap_Right (x : List Int × Unit) : Option (Bool × Unit) :=
  lc
  (loop
   (fun (x_1 : Bool × Int × Int × Unit) =>
    sel (lt x_1.2.2.1 (len x.1))
     (ck (inB x_1.2.2.1 (len x.1))
      (ob
       (sel (le (nth x.1 (nat x_1.2.2.1) 0) x_1.2.1) (some (true, ()))
        (sel (lt 128 (nth x.1 (nat x_1.2.2.1) 0)) (some (true, ()))
         (some (beq (nth x.1 (nat x_1.2.2.1) 0) 65, ()))))
       fun (a : Bool × Unit) =>
       sel a.1 (some (LS.rt (false, ())))
        (some (LS.nx (x_1.1, nth x.1 (nat x_1.2.2.1) 0, i64 (iadd x_1.2.2.1 1), ())))))
     (some (LS.ex 0 (x_1.1, x_1.2.1, x_1.2.2.1, ()))))
   (false, 1, 0, ()))
  (fun (a : Bool × Int × Int × Unit) => none)
  (fun (i : Nat) (a : Bool × Int × Int × Unit) => ck (neb i 0) (some (true, ()))) fun (r : Bool × Unit) => some r
noncomputable def bitmap_Place (x : Int × Unit) : Option (Int × UInt8 × Unit) :=
  ob (sel (lt x.1 1) (some (true, ())) (some (lt 128 x.1, ()))) fun (a : Bool × Unit) =>
  sel a.1 (some (0, u8 0, ()))
   (ck (le 0 (imod (i64 (isub x.1 1)) 8))
    (some (i64 (idiv (i64 (isub x.1 1)) 8), u8 (shrI IntKind.u8 (n8 (u8 128)) (imod (i64 (isub x.1 1)) 8)), ())))
noncomputable def bitmap_Write (x : List Int × Unit) : Option (List UInt8 × Int × Unit) :=
  ob (bitmap_Right (x.1, ())) fun (a : Bool × Unit) =>
  sel (bnot a.1) (some (none' UInt8, 1, ()))
   (ck (band (inC 0 8 8) (rm 1 (nat 8)))
    (ob
     (sel (lt 0 (len x.1))
      (ck (inB (i64 (isub (len x.1) 1)) (len x.1))
       (some (lt 64 (nth x.1 (nat (i64 (isub (len x.1) 1))) 0), ())))
      (some (false, ())))
     fun (a : Bool × Unit) =>
     sel a.1
      (ck (band (inC 0 16 16) (rm 1 (nat 16)))
       (ck (inB 0 (len (rep (nat 16) (u8 0))))
        (lc
         (loop
          (fun (x_1 : Int × List UInt8 × Unit) =>
           sel (lt x_1.1 (len x.1))
            (ck (inB x_1.1 (len x.1))
            (ob (bitmap_Place (nth x.1 (nat x_1.1) 0, ())) fun (a : Int × UInt8 × Unit) =>
            ck (inB a.1 (len x_1.2.1))
            (ck (inB a.1 (len x_1.2.1))
            (some
            (LS.nx
            (i64 (iadd x_1.1 1),
            upd x_1.2.1 (nat a.1)
            (u8 (orI IntKind.u8 (n8 (nth x_1.2.1 (nat a.1) (u8 0))) (n8 a.2.1))),
            ()))))))
            (some (LS.ex 0 (x_1.1, x_1.2.1, ()))))
          (0, upd (rep (nat 16) (u8 0)) (nat 0) (u8 128), ()))
         (fun (a : Int × List UInt8 × Unit) => none)
         (fun (i : Nat) (a : Int × List UInt8 × Unit) => ck (neb i 0) (some (a.2.1, 0, ())))
         fun (r : List UInt8 × Int × Unit) => some r)))
      (lc
       (loop
        (fun (x_1 : Int × List UInt8 × Unit) =>
         sel (lt x_1.1 (len x.1))
          (ck (inB x_1.1 (len x.1))
           (ob (bitmap_Place (nth x.1 (nat x_1.1) 0, ())) fun (a : Int × UInt8 × Unit) =>
            ck (inB a.1 (len x_1.2.1))
            (ck (inB a.1 (len x_1.2.1))
            (some
            (LS.nx
            (i64 (iadd x_1.1 1),
            upd x_1.2.1 (nat a.1)
            (u8 (orI IntKind.u8 (n8 (nth x_1.2.1 (nat a.1) (u8 0))) (n8 a.2.1))),
            ()))))))
          (some (LS.ex 0 (x_1.1, x_1.2.1, ()))))
        (0, rep (nat 8) (u8 0), ()))
       (fun (a : Int × List UInt8 × Unit) => none)
       (fun (i : Nat) (a : Int × List UInt8 × Unit) => ck (neb i 0) (some (a.2.1, 0, ())))
       fun (r : List UInt8 × Int × Unit) => some r)))
noncomputable def iso_Write (x : (Int × List (Int × List UInt8 × Unit) × Unit) × Unit) : Option (List UInt8 × Int × Unit) :=
  ob (iso_Right (x.1, ())) fun (a : Bool × Unit) =>
  sel (bnot a.1) (some (none' UInt8, 1, ()))
   (ob (dig_Digits (x.1.1, 4, ())) fun (a : List UInt8 × Int × Unit) =>
    ob (dig_Bcd (a.1, ())) fun (a : List UInt8 × Int × Unit) =>
     lc
      (loop
       (fun (x_1 : List Int × Int × Unit) =>
        sel (lt x_1.2.1 (len x.1.2.1))
         (ck (inB x_1.2.1 (len x.1.2.1))
          (ck (rm 32 (nadd (ln x_1.1) (ln [(nth x.1.2.1 (nat x_1.2.1) (0, none' UInt8, ())).1])))
           (some
            (LS.nx
            (app x_1.1 [(nth x.1.2.1 (nat x_1.2.1) (0, none' UInt8, ())).1],
            i64 (iadd x_1.2.1 1), ())))))
         (some (LS.ex 0 (x_1.1, x_1.2.1, ()))))
       (none' Int, 0, ()))
      (fun (a : List Int × Int × Unit) => none)
      (fun (i : Nat) (a_1 : List Int × Int × Unit) =>
       ck (neb i 0)
        (ob (bitmap_Write (a_1.1, ())) fun (a_2 : List UInt8 × Int × Unit) =>
         ck (rm 1 (nadd (ln a.1) (ln a_2.1)))
          (lc
           (loop
            (fun (x_1 : List UInt8 × Int × Unit) =>
            sel (lt x_1.2.1 (len x.1.2.1))
            (ck (inB x_1.2.1 (len x.1.2.1))
            (ob
            (field_Write
            ((nth x.1.2.1 (nat x_1.2.1) (0, none' UInt8, ())).1,
            (nth x.1.2.1 (nat x_1.2.1) (0, none' UInt8, ())).2.1, ()))
            fun (a : List UInt8 × Int × Unit) =>
            ck (rm 1 (nadd (ln x_1.1) (ln a.1)))
            (some (LS.nx (app x_1.1 a.1, i64 (iadd x_1.2.1 1), ())))))
            (some (LS.ex 2 (x_1.1, x_1.2.1, ()))))
            (app a.1 a_2.1, 0, ()))
           (fun (a : List UInt8 × Int × Unit) => none)
           (fun (i : Nat) (a : List UInt8 × Int × Unit) => ck (neb i 2) (some (a.1, 0, ())))
           fun (r : List UInt8 × Int × Unit) => some r)))
      fun (r : List UInt8 × Int × Unit) => some r)
noncomputable def slices_EqualFunc_api_Val_api_Val_api_Val_api_Val (x : List (Int × List UInt8 × Unit) ×
  List (Int × List UInt8 × Unit) × Nat × Unit) : Option (Bool × Unit) :=
  sel (bnot (beq (len x.1) (len x.2.1))) (some (false, ()))
  (lc
   (loop
    (fun (x_1 : Bool × Int × Unit) =>
     sel (lt x_1.2.1 (len x.1))
      (ck (inB x_1.2.1 (len x.1))
       (ck (inB x_1.2.1 (len x.2.1))
        (ck (neb x.2.2.1 1)
         (ob
          (iso_Same_1
           (nth x.1 (nat x_1.2.1) (0, none' UInt8, ()),
            nth x.2.1 (nat x_1.2.1) (0, none' UInt8, ()), ()))
          fun (a : Bool × Unit) =>
          sel (bnot a.1) (some (LS.rt (false, ()))) (some (LS.nx (x_1.1, i64 (iadd x_1.2.1 1), ())))))))
      (some (LS.ex 0 (x_1.1, x_1.2.1, ()))))
    (false, 0, ()))
   (fun (a : Bool × Int × Unit) => none) (fun (i : Nat) (a : Bool × Int × Unit) => ck (neb i 0) (some (true, ())))
   fun (r : Bool × Unit) => some r)
noncomputable def iso_Same (x : (Int × List (Int × List UInt8 × Unit) × Unit) ×
  (Int × List (Int × List UInt8 × Unit) × Unit) × Unit) : Option (Bool × Unit) :=
  ob
  (sel (beq x.1.1 x.2.1.1)
   (ob (slices_EqualFunc_api_Val_api_Val_api_Val_api_Val (x.1.2.1, x.2.1.2.1, 1, ()))
    fun (a : Bool × Unit) => some (a.1, ()))
   (some (false, ())))
  fun (a : Bool × Unit) => some (a.1, ())
noncomputable def iso_fields_1 (x : (Int × List UInt8 × Unit) × Unit) : Option (Int × Unit) :=
  some (x.1.1, ())
noncomputable def iso_Read (x : List UInt8 × Unit) : Option ((Int × List (Int × List UInt8 × Unit) × Unit) × Int × Unit) :=
  ob (dig_TakeBcd (x.1, 0, 4, ())) fun (a : List UInt8 × Int × Int × Unit) =>
  sel (bnot (beq a.2.2.1 0)) (some ((0, none' (Int × List UInt8 × Unit), ()), a.2.2.1, ()))
   (ob (dig_Value (a.1, ())) fun (a_1 : Int × Int × Unit) =>
    ob (iso_Type (a_1.1, ())) fun (a_2 : Bool × Unit) =>
     sel (bnot a_2.1) (some ((0, none' (Int × List UInt8 × Unit), ()), 2, ()))
      (ob (bitmap_Read (x.1, a.2.1, ())) fun (a : List Int × Int × Int × Unit) =>
       sel (bnot (beq a.2.2.1 0)) (some ((0, none' (Int × List UInt8 × Unit), ()), a.2.2.1, ()))
        (lc
         (loop
          (fun (x : Int × Int × Unit) =>
           sel (lt x.2.1 (len a.1))
            (ck (inB x.2.1 (len a.1))
            (ob (field_Of (nth a.1 (nat x.2.1) 0, ())) fun (a : (Int × Int × Unit) × Bool × Unit) =>
            sel (bnot a.2.1) (some (LS.rt ((0, none' (Int × List UInt8 × Unit), ()), 2, ())))
            (some (LS.nx (x.1, i64 (iadd x.2.1 1), ())))))
            (some (LS.ex 0 (x.1, x.2.1, ()))))
          (0, 0, ()))
         (fun (a : Int × Int × Unit) => none)
         (fun (i : Nat) (a_3 : Int × Int × Unit) =>
          ck (neb i 0)
           (lc
            (loop
            (fun (x_1 : Int × Int × Int × (Int × List (Int × List UInt8 × Unit) × Unit) × Unit) =>
            sel (lt x_1.2.2.1 (len a.1))
            (ck (inB x_1.2.2.1 (len a.1))
            (ob (field_Read (nth a.1 (nat x_1.2.2.1) 0, x.1, x_1.2.1, ()))
            fun (a_4 : List UInt8 × Int × Int × Unit) =>
            sel (bnot (beq a_4.2.2.1 0))
            (some (LS.rt ((0, none' (Int × List UInt8 × Unit), ()), a_4.2.2.1, ())))
            (ck
            (rm 56
            (nadd (ln x_1.2.2.2.1.2.1)
            (ln [(nth a.1 (nat x_1.2.2.1) 0, a_4.1, ())])))
            (some
            (LS.nx
            (x_1.1, a_4.2.1, i64 (iadd x_1.2.2.1 1),
            (x_1.2.2.2.1.1,
            app x_1.2.2.2.1.2.1
            [(nth a.1 (nat x_1.2.2.1) 0, a_4.1, ())],
            x_1.2.2.2.1.2.2),
            ()))))))
            (some
            (LS.ex 2
            (x_1.1, x_1.2.1, x_1.2.2.1,
            (x_1.2.2.2.1.1, x_1.2.2.2.1.2.1, x_1.2.2.2.1.2.2),
            ()))))
            (a_3.1, a.2.1, 0, (a_1.1, none' (Int × List UInt8 × Unit), ()), ()))
            (fun (a : Int × Int × Int × (Int × List (Int × List UInt8 × Unit) × Unit) × Unit) => none)
            (fun (i : Nat) (a : Int × Int × Int × (Int × List (Int × List UInt8 × Unit) × Unit) × Unit) =>
            ck (neb i 2)
            (sel (lt a.2.1 (len x.1)) (some ((0, none' (Int × List UInt8 × Unit), ()), 4, ()))
            (some
            ((a.2.2.2.1.1, a.2.2.2.1.2.1, a.2.2.2.1.2.2), 0, ()))))
            fun (r : (Int × List (Int × List UInt8 × Unit) × Unit) × Int × Unit) => some r))
         fun (r : (Int × List (Int × List UInt8 × Unit) × Unit) × Int × Unit) => some r)))
noncomputable def iso_fields (x : (Int × List (Int × List UInt8 × Unit) × Unit) ×
  Unit) : Option ((List (Int × List UInt8 × Unit) × Nat × Unit) × Unit) :=
  some ((x.1.2.1, 1, ()), ())
noncomputable def iso_rows_api_Val_find (x : (List (Int × List UInt8 × Unit) × Nat × Unit) ×
  Int × Unit) : Option (Int × Bool × Unit) :=
  lc
  (loop
   (fun (x_1 : Int × Bool × Int × Unit) =>
    sel (lt x_1.2.2.1 (len x.1.1))
     (ck (inB x_1.2.2.1 (len x.1.1))
      (ck (neb x.1.2.1 1)
       (ob (iso_fields_1 (nth x.1.1 (nat x_1.2.2.1) (0, none' UInt8, ()), ())) fun (a : Int × Unit) =>
        sel (le x.2.1 a.1) (some (LS.rt (x_1.2.2.1, beq a.1 x.2.1, ())))
         (some (LS.nx (x_1.1, x_1.2.1, i64 (iadd x_1.2.2.1 1), ()))))))
     (some (LS.ex 0 (x_1.1, x_1.2.1, x_1.2.2.1, ()))))
   (0, false, 0, ()))
  (fun (a : Int × Bool × Int × Unit) => none)
  (fun (i : Nat) (a : Int × Bool × Int × Unit) => ck (neb i 0) (some (len x.1.1, false, ())))
  fun (r : Int × Bool × Unit) => some r
noncomputable def slices_Concat_api_Val_api_Val (x : List (List (Int × List UInt8 × Unit)) ×
  Unit) : Option (List (Int × List UInt8 × Unit) × Unit) :=
  lc
  (loop
   (fun (x_1 : Int × Int × Unit) =>
    sel (lt x_1.2.1 (len x.1))
     (ck (inB x_1.2.1 (len x.1))
      (sel (lt (i64 (iadd x_1.1 (len (nth x.1 (nat x_1.2.1) (none' (Int × List UInt8 × Unit)))))) 0) none
       (some
        (LS.nx
         (i64 (iadd x_1.1 (len (nth x.1 (nat x_1.2.1) (none' (Int × List UInt8 × Unit))))),
          i64 (iadd x_1.2.1 1), ())))))
     (some (LS.ex 0 (x_1.1, x_1.2.1, ()))))
   (0, 0, ()))
  (fun (a : Int × Int × Unit) => none)
  (fun (i : Nat) (a : Int × Int × Unit) =>
   ck (neb i 0)
    (sel (lt a.1 0) none
     (sel (lt 0 (i64 (isub a.1 (i64 (isub 0 0)))))
      (ck (inC 0 0 0)
       (ck (band (le 0 (i64 (isub a.1 (i64 (isub 0 0))))) (rm 56 (nat (i64 (isub a.1 (i64 (isub 0 0)))))))
        (ck (inC 0 0 (len (rep (nat (i64 (isub a.1 (i64 (isub 0 0))))) (0, none' UInt8, ()))))
         (lc
          (loop
           (fun (x_1 : List (Int × List UInt8 × Unit) × Int × Unit) =>
            sel (lt x_1.2.1 (len x.1))
            (ck (inB x_1.2.1 (len x.1))
            (ck
            (rm 56
            (nadd (ln x_1.1) (ln (nth x.1 (nat x_1.2.1) (none' (Int × List UInt8 × Unit))))))
            (some
            (LS.nx
            (app x_1.1 (nth x.1 (nat x_1.2.1) (none' (Int × List UInt8 × Unit))),
            i64 (iadd x_1.2.1 1), ())))))
            (some (LS.ex 2 (x_1.1, x_1.2.1, ()))))
           (cut (rep (nat (i64 (isub a.1 (i64 (isub 0 0))))) (0, none' UInt8, ())) (nat 0)
            (nsub (nat 0) (nat 0)),
            0, ()))
          (fun (a : List (Int × List UInt8 × Unit) × Int × Unit) => none)
          (fun (i : Nat) (a : List (Int × List UInt8 × Unit) × Int × Unit) => ck (neb i 2) (some (a.1, ())))
          fun (r : List (Int × List UInt8 × Unit) × Unit) => some r))))
      (lc
       (loop
        (fun (x_1 : List (Int × List UInt8 × Unit) × Int × Unit) =>
         sel (lt x_1.2.1 (len x.1))
          (ck (inB x_1.2.1 (len x.1))
           (ck (rm 56 (nadd (ln x_1.1) (ln (nth x.1 (nat x_1.2.1) (none' (Int × List UInt8 × Unit))))))
            (some
            (LS.nx
            (app x_1.1 (nth x.1 (nat x_1.2.1) (none' (Int × List UInt8 × Unit))),
            i64 (iadd x_1.2.1 1), ())))))
          (some (LS.ex 2 (x_1.1, x_1.2.1, ()))))
        (none' (Int × List UInt8 × Unit), 0, ()))
       (fun (a : List (Int × List UInt8 × Unit) × Int × Unit) => none)
       (fun (i : Nat) (a : List (Int × List UInt8 × Unit) × Int × Unit) => ck (neb i 2) (some (a.1, ())))
       fun (r : List (Int × List UInt8 × Unit) × Unit) => some r))))
  fun (r : List (Int × List UInt8 × Unit) × Unit) => some r
noncomputable def iso_rows_api_Val_with (x : (List (Int × List UInt8 × Unit) × Nat × Unit) ×
  (Int × List UInt8 × Unit) × Unit) : Option (List (Int × List UInt8 × Unit) × Unit) :=
  ck (neb x.1.2.1 1)
  (ob (iso_fields_1 (x.2.1, ())) fun (a : Int × Unit) =>
   ob (iso_rows_api_Val_find (x.1, a.1, ())) fun (a : Int × Bool × Unit) =>
    ob (sel a.2.1 (some (i64 (iadd a.1 1), ())) (some (a.1, ()))) fun (a_1 : Int × Unit) =>
     ck (inC 0 a.1 (len x.1.1))
      (ck (inC a_1.1 (len x.1.1) (len x.1.1))
       (ob
        (slices_Concat_api_Val_api_Val
         ([sub x.1.1 0 a.1, [x.2.1], sub x.1.1 a_1.1 (len x.1.1)], ()))
        fun (a : List (Int × List UInt8 × Unit) × Unit) => some (a.1, ()))))
noncomputable def iso_Set (x : (Int × List (Int × List UInt8 × Unit) × Unit) ×
  Int × List UInt8 × Unit) : Option ((Int × List (Int × List UInt8 × Unit) × Unit) × Int × Unit) :=
  ob (field_Of (x.2.1, ())) fun (a : (Int × Int × Unit) × Bool × Unit) =>
  sel (bnot a.2.1) (some (x.1, 12, ()))
   (ob (field_Fits (x.2.1, x.2.2.1, ())) fun (a : Bool × Unit) =>
    sel (bnot a.1) (some (x.1, 1, ()))
     (ob (iso_fields (x.1, ())) fun (a : (List (Int × List UInt8 × Unit) × Nat × Unit) × Unit) =>
      ob (iso_rows_api_Val_with (a.1, (x.2.1, x.2.2.1, ()), ()))
       fun (a : List (Int × List UInt8 × Unit) × Unit) => some ((x.1.1, a.1, x.1.2.2), 0, ())))
noncomputable def iso_Get (x : (Int × List (Int × List UInt8 × Unit) × Unit) ×
  Int × Unit) : Option (List UInt8 × Bool × Unit) :=
  ob (iso_fields (x.1, ())) fun (a : (List (Int × List UInt8 × Unit) × Nat × Unit) × Unit) =>
  ob (iso_rows_api_Val_find (a.1, x.2.1, ())) fun (a : Int × Bool × Unit) =>
   sel (bnot a.2.1) (some (none' UInt8, false, ()))
    (ck (inB a.1 (len x.1.2.1))
     (some ((nth x.1.2.1 (nat a.1) (0, none' UInt8, ())).2.1, true, ())))
noncomputable def ref07_Type (x : Int × Unit) : Option (Bool × Unit) :=
  ob
  (sel (le 100 x.1)
   (sel (le x.1 899)
    (sel (le (imod (i64 (idiv x.1 10)) 10) 4) (some (le (imod x.1 10) 5, ())) (some (false, ())))
    (some (false, ())))
   (some (false, ())))
  fun (a : Bool × Unit) => some (a.1, ())
noncomputable def ref07_Right (x : (Int × List (Int × List UInt8 × Unit) × Unit) × Unit) : Option (Bool × Unit) :=
  lc
  (loop
   (fun (x_1 : Bool × Int × Unit) =>
    sel (lt x_1.2.1 (len x.1.2.1))
     (ck (inB x_1.2.1 (len x.1.2.1))
      (ck (inB x_1.2.1 (len x.1.2.1))
       (ob
        (ref05_Fits
         ((nth x.1.2.1 (nat x_1.2.1) (0, none' UInt8, ())).1,
          (nth x.1.2.1 (nat x_1.2.1) (0, none' UInt8, ())).2.1, ()))
        fun (a : Bool × Unit) =>
        ob
         (sel (bnot a.1) (some (true, ()))
          (sel (lt 0 x_1.2.1)
           (ck (inB (i64 (isub x_1.2.1 1)) (len x.1.2.1))
            (ck (inB x_1.2.1 (len x.1.2.1))
            (some
            (le (nth x.1.2.1 (nat x_1.2.1) (0, none' UInt8, ())).1
            (nth x.1.2.1 (nat (i64 (isub x_1.2.1 1))) (0, none' UInt8, ())).1,
            ()))))
           (some (false, ()))))
         fun (a : Bool × Unit) =>
         sel a.1 (some (LS.rt (false, ()))) (some (LS.nx (x_1.1, i64 (iadd x_1.2.1 1), ()))))))
     (some (LS.ex 0 (x_1.1, x_1.2.1, ()))))
   (false, 0, ()))
  (fun (a : Bool × Int × Unit) => none)
  (fun (i : Nat) (a : Bool × Int × Unit) =>
   ck (neb i 0) (ob (ref07_Type (x.1.1, ())) fun (a : Bool × Unit) => some (a.1, ())))
  fun (r : Bool × Unit) => some r
noncomputable def ref06_Right (x : List Int × Unit) : Option (Bool × Unit) :=
  lc
  (loop
   (fun (x_1 : Bool × Int × Unit) =>
    sel (lt x_1.2.1 (len x.1))
     (ck (inB x_1.2.1 (len x.1))
      (ob
       (sel (lt (nth x.1 (nat x_1.2.1) 0) 2) (some (true, ()))
        (ck (inB x_1.2.1 (len x.1))
         (sel (lt 128 (nth x.1 (nat x_1.2.1) 0)) (some (true, ()))
          (ck (inB x_1.2.1 (len x.1))
           (sel (beq (nth x.1 (nat x_1.2.1) 0) 65) (some (true, ()))
            (sel (lt 0 x_1.2.1)
            (ck (inB (i64 (isub x_1.2.1 1)) (len x.1))
            (ck (inB x_1.2.1 (len x.1))
            (some
            (le (nth x.1 (nat x_1.2.1) 0) (nth x.1 (nat (i64 (isub x_1.2.1 1))) 0), ()))))
            (some (false, ()))))))))
       fun (a : Bool × Unit) =>
       sel a.1 (some (LS.rt (false, ()))) (some (LS.nx (x_1.1, i64 (iadd x_1.2.1 1), ())))))
     (some (LS.ex 0 (x_1.1, x_1.2.1, ()))))
   (false, 0, ()))
  (fun (a : Bool × Int × Unit) => none) (fun (i : Nat) (a : Bool × Int × Unit) => ck (neb i 0) (some (true, ())))
  fun (r : Bool × Unit) => some r
noncomputable def ref06_Place (x : Int × Unit) : Option (Int × UInt8 × Unit) :=
  ob (sel (lt x.1 1) (some (true, ())) (some (lt 128 x.1, ()))) fun (a : Bool × Unit) =>
  sel a.1 (some (0, u8 0, ()))
   (lc
    (loop
     (fun (x_1 : Int × Int × Unit) =>
      sel (lt x_1.2.1 (imod (i64 (isub x.1 1)) 8))
       (some (LS.nx (i64 (idiv x_1.1 2), i64 (iadd x_1.2.1 1), ())))
       (some (LS.ex 0 (x_1.1, x_1.2.1, ()))))
     (128, 0, ()))
    (fun (a : Int × Int × Unit) => none)
    (fun (i : Nat) (a : Int × Int × Unit) => ck (neb i 0) (some (i64 (idiv (i64 (isub x.1 1)) 8), u8 a.1, ())))
    fun (r : Int × UInt8 × Unit) => some r)
noncomputable def ref06_Write (x : List Int × Unit) : Option (List UInt8 × Int × Unit) :=
  ob (ref06_Right (x.1, ())) fun (a : Bool × Unit) =>
  sel (bnot a.1) (some (none' UInt8, 1, ()))
   (ck (rm 32 (nadd (ln (none' Int)) (ln x.1)))
    (ob
     (sel (lt 0 (len x.1))
      (ck (inB (i64 (isub (len x.1) 1)) (len x.1))
       (some (lt 64 (nth x.1 (nat (i64 (isub (len x.1) 1))) 0), ())))
      (some (false, ())))
     fun (a : Bool × Unit) =>
     sel a.1
      (ck (rm 32 (nadd (ln (app (none' Int) x.1)) (ln [1])))
       (ck (band (inC 0 16 16) (rm 1 (nat 16)))
        (lc
         (loop
          (fun (x_1 : Int × List UInt8 × Unit) =>
           sel (lt x_1.1 (len (app (app (none' Int) x.1) [1])))
            (ck (inB x_1.1 (len (app (app (none' Int) x.1) [1])))
            (ob (ref06_Place (nth (app (app (none' Int) x.1) [1]) (nat x_1.1) 0, ()))
            fun (a : Int × UInt8 × Unit) =>
            ck (inB a.1 (len x_1.2.1))
            (ck (inB a.1 (len x_1.2.1))
            (some
            (LS.nx
            (i64 (iadd x_1.1 1),
            upd x_1.2.1 (nat a.1)
            (u8 (iadd (n8 (nth x_1.2.1 (nat a.1) (u8 0))) (n8 a.2.1))),
            ()))))))
            (some (LS.ex 0 (x_1.1, x_1.2.1, ()))))
          (0, rep (nat 16) (u8 0), ()))
         (fun (a : Int × List UInt8 × Unit) => none)
         (fun (i : Nat) (a : Int × List UInt8 × Unit) => ck (neb i 0) (some (a.2.1, 0, ())))
         fun (r : List UInt8 × Int × Unit) => some r)))
      (ck (band (inC 0 8 8) (rm 1 (nat 8)))
       (lc
        (loop
         (fun (x_1 : Int × List UInt8 × Unit) =>
          sel (lt x_1.1 (len (app (none' Int) x.1)))
           (ck (inB x_1.1 (len (app (none' Int) x.1)))
            (ob (ref06_Place (nth (app (none' Int) x.1) (nat x_1.1) 0, ()))
            fun (a : Int × UInt8 × Unit) =>
            ck (inB a.1 (len x_1.2.1))
            (ck (inB a.1 (len x_1.2.1))
            (some
            (LS.nx
            (i64 (iadd x_1.1 1),
            upd x_1.2.1 (nat a.1)
            (u8 (iadd (n8 (nth x_1.2.1 (nat a.1) (u8 0))) (n8 a.2.1))),
            ()))))))
           (some (LS.ex 0 (x_1.1, x_1.2.1, ()))))
         (0, rep (nat 8) (u8 0), ()))
        (fun (a : Int × List UInt8 × Unit) => none)
        (fun (i : Nat) (a : Int × List UInt8 × Unit) => ck (neb i 0) (some (a.2.1, 0, ())))
        fun (r : List UInt8 × Int × Unit) => some r))))
noncomputable def ref07_four (x : Int × Unit) : Option (List UInt8 × Unit) :=
  ob (ref01_Digits (x.1, 4, ())) fun (a : List UInt8 × Int × Unit) => some (a.1, ())
noncomputable def ref07_Write (x : (Int × List (Int × List UInt8 × Unit) × Unit) × Unit) : Option (List UInt8 × Int × Unit) :=
  ob (ref07_Right (x.1, ())) fun (a : Bool × Unit) =>
  sel (bnot a.1) (some (none' UInt8, 1, ()))
   (lc
    (loop
     (fun (x_1 : List Int × List UInt8 × Int × Unit) =>
      sel (lt x_1.2.2.1 (len x.1.2.1))
       (ck (inB x_1.2.2.1 (len x.1.2.1))
        (ck (inB x_1.2.2.1 (len x.1.2.1))
         (ob
          (ref05_Write
           ((nth x.1.2.1 (nat x_1.2.2.1) (0, none' UInt8, ())).1,
            (nth x.1.2.1 (nat x_1.2.2.1) (0, none' UInt8, ())).2.1, ()))
          fun (a : List UInt8 × Int × Unit) =>
          ck (inB x_1.2.2.1 (len x.1.2.1))
           (ck
            (rm 32
            (nadd (ln x_1.1) (ln [(nth x.1.2.1 (nat x_1.2.2.1) (0, none' UInt8, ())).1])))
            (ck (rm 1 (nadd (ln x_1.2.1) (ln a.1)))
            (some
            (LS.nx
            (app x_1.1 [(nth x.1.2.1 (nat x_1.2.2.1) (0, none' UInt8, ())).1],
            app x_1.2.1 a.1, i64 (iadd x_1.2.2.1 1), ()))))))))
       (some (LS.ex 0 (x_1.1, x_1.2.1, x_1.2.2.1, ()))))
     (none' Int, none' UInt8, 0, ()))
    (fun (a : List Int × List UInt8 × Int × Unit) => none)
    (fun (i : Nat) (a : List Int × List UInt8 × Int × Unit) =>
     ck (neb i 0)
      (ob (ref06_Write (a.1, ())) fun (a_1 : List UInt8 × Int × Unit) =>
       ob (ref07_four (x.1.1, ())) fun (a_2 : List UInt8 × Unit) =>
        ob (ref01_Bcd (a_2.1, ())) fun (a_3 : List UInt8 × Int × Unit) =>
         ck (rm 1 (nadd (ln a_3.1) (ln a_1.1)))
          (ck (rm 1 (nadd (ln (app a_3.1 a_1.1)) (ln a.2.1)))
           (some (app (app a_3.1 a_1.1) a.2.1, 0, ())))))
    fun (r : List UInt8 × Int × Unit) => some r)
noncomputable def ref06_has (x : List UInt8 × Int × Unit) : Option (Bool × Unit) :=
  ob (ref06_Place (x.2.1, ())) fun (a : Int × UInt8 × Unit) =>
  ck (inB a.1 (len x.1))
   (some (bnot (beq (n8 (u8 (andI IntKind.u8 (n8 (nth x.1 (nat a.1) (u8 0))) (n8 a.2.1)))) (n8 (u8 0))), ()))
noncomputable def ref06_Read (x : List UInt8 × Int × Unit) : Option (List Int × Int × Int × Unit) :=
  ob (sel (lt x.2.1 0) (some (true, ())) (some (lt (len x.1) x.2.1, ()))) fun (a : Bool × Unit) =>
  sel a.1 (some (none' Int, 0, 1, ()))
   (ck (inC x.2.1 (len x.1) (len x.1))
    (sel (lt (len (sub x.1 x.2.1 (len x.1))) 8) (some (none' Int, 0, 3, ()))
     (ob (ref06_has (sub x.1 x.2.1 (len x.1), 1, ())) fun (a : Bool × Unit) =>
      ob (sel a.1 (some (16, ())) (some (8, ()))) fun (a_1 : Int × Unit) =>
       sel (lt (len (sub x.1 x.2.1 (len x.1))) a_1.1) (some (none' Int, 0, 3, ()))
        (lc
         (loop
          (fun (x_1 : List Int × Int × Unit) =>
           sel (le x_1.2.1 (i64 (imul 8 a_1.1)))
            (ob (ref06_has (sub x.1 x.2.1 (len x.1), x_1.2.1, ())) fun (a : Bool × Unit) =>
            sel a.1
            (ck (rm 32 (nadd (ln x_1.1) (ln [x_1.2.1])))
            (some (LS.nx (app x_1.1 [x_1.2.1], i64 (iadd x_1.2.1 1), ()))))
            (some (LS.nx (x_1.1, i64 (iadd x_1.2.1 1), ()))))
            (some (LS.ex 0 (x_1.1, x_1.2.1, ()))))
          (none' Int, 2, ()))
         (fun (a : List Int × Int × Unit) => none)
         (fun (i : Nat) (a_2 : List Int × Int × Unit) =>
          ck (neb i 0)
           (ob
            (sel a.1
            (ob (ref06_has (sub x.1 x.2.1 (len x.1), 65, ())) fun (a : Bool × Unit) =>
            sel a.1 (some (true, ()))
            (sel (beq (len a_2.1) 0) (some (true, ()))
            (ck (inB (i64 (isub (len a_2.1) 1)) (len a_2.1))
            (some (le (nth a_2.1 (nat (i64 (isub (len a_2.1) 1))) 0) 65, ())))))
            (some (false, ())))
            fun (a : Bool × Unit) =>
            sel a.1 (some (none' Int, 0, 2, ())) (some (a_2.1, i64 (iadd x.2.1 a_1.1), 0, ()))))
         fun (r : List Int × Int × Int × Unit) => some r))))
noncomputable def ref07_Read (x : List UInt8 × Unit) : Option ((Int × List (Int × List UInt8 × Unit) × Unit) × Int × Unit) :=
  sel (lt (len x.1) 2) (some ((0, none' (Int × List UInt8 × Unit), ()), 3, ()))
  (ob (ref01_TakeBcd (x.1, 0, 4, ())) fun (a : List UInt8 × Int × Int × Unit) =>
   ob (ref01_Value (a.1, ())) fun (a_1 : Int × Int × Unit) =>
    ob
     (sel (bnot (beq a.2.2.1 0)) (some (true, ()))
      (ob (ref07_Type (a_1.1, ())) fun (a : Bool × Unit) => some (bnot a.1, ())))
     fun (a : Bool × Unit) =>
     sel a.1 (some ((0, none' (Int × List UInt8 × Unit), ()), 2, ()))
      (ob (ref06_Read (x.1, 2, ())) fun (a : List Int × Int × Int × Unit) =>
       sel (bnot (beq a.2.2.1 0)) (some ((0, none' (Int × List UInt8 × Unit), ()), a.2.2.1, ()))
        (lc
         (loop
          (fun (x : Int × Int × Unit) =>
           sel (lt x.2.1 (len a.1))
            (ck (inB x.2.1 (len a.1))
            (ob (ref05_Of (nth a.1 (nat x.2.1) 0, ())) fun (a : (Int × Int × Unit) × Bool × Unit) =>
            sel (bnot a.2.1) (some (LS.rt ((0, none' (Int × List UInt8 × Unit), ()), 2, ())))
            (some (LS.nx (x.1, i64 (iadd x.2.1 1), ())))))
            (some (LS.ex 0 (x.1, x.2.1, ()))))
          (0, 0, ()))
         (fun (a : Int × Int × Unit) => none)
         (fun (i : Nat) (a_2 : Int × Int × Unit) =>
          ck (neb i 0)
           (lc
            (loop
            (fun (x_1 : Int × Int × Int × (Int × List (Int × List UInt8 × Unit) × Unit) × Unit) =>
            sel (lt x_1.2.2.1 (len a.1))
            (ck (inB x_1.2.2.1 (len a.1))
            (ob (ref05_Read (nth a.1 (nat x_1.2.2.1) 0, x.1, x_1.2.1, ()))
            fun (a_3 : List UInt8 × Int × Int × Unit) =>
            sel (bnot (beq a_3.2.2.1 0))
            (some (LS.rt ((0, none' (Int × List UInt8 × Unit), ()), a_3.2.2.1, ())))
            (ck (inB x_1.2.2.1 (len a.1))
            (ck
            (rm 56
            (nadd (ln x_1.2.2.2.1.2.1)
            (ln [(nth a.1 (nat x_1.2.2.1) 0, a_3.1, ())])))
            (some
            (LS.nx
            (x_1.1, a_3.2.1, i64 (iadd x_1.2.2.1 1),
            (x_1.2.2.2.1.1,
            app x_1.2.2.2.1.2.1
            [(nth a.1 (nat x_1.2.2.1) 0, a_3.1, ())],
            x_1.2.2.2.1.2.2),
            ())))))))
            (some
            (LS.ex 2
            (x_1.1, x_1.2.1, x_1.2.2.1,
            (x_1.2.2.2.1.1, x_1.2.2.2.1.2.1, x_1.2.2.2.1.2.2),
            ()))))
            (a_2.1, a.2.1, 0, (a_1.1, none' (Int × List UInt8 × Unit), ()), ()))
            (fun (a : Int × Int × Int × (Int × List (Int × List UInt8 × Unit) × Unit) × Unit) => none)
            (fun (i : Nat) (a : Int × Int × Int × (Int × List (Int × List UInt8 × Unit) × Unit) × Unit) =>
            ck (neb i 2)
            (sel (lt a.2.1 (len x.1)) (some ((0, none' (Int × List UInt8 × Unit), ()), 4, ()))
            (some
            ((a.2.2.2.1.1, a.2.2.2.1.2.1, a.2.2.2.1.2.2), 0, ()))))
            fun (r : (Int × List (Int × List UInt8 × Unit) × Unit) × Int × Unit) => some r))
         fun (r : (Int × List (Int × List UInt8 × Unit) × Unit) × Int × Unit) => some r)))
noncomputable def ref07_Set (x : (Int × List (Int × List UInt8 × Unit) × Unit) ×
  Int × List UInt8 × Unit) : Option ((Int × List (Int × List UInt8 × Unit) × Unit) × Int × Unit) :=
  ob (ref05_Of (x.2.1, ())) fun (a : (Int × Int × Unit) × Bool × Unit) =>
  sel (bnot a.2.1) (some (x.1, 12, ()))
   (ob (ref05_Fits (x.2.1, x.2.2.1, ())) fun (a : Bool × Unit) =>
    sel (bnot a.1) (some (x.1, 1, ()))
     (lc
      (loop
       (fun (x_1 : List (Int × List UInt8 × Unit) × Int × Unit) =>
        sel (lt x_1.2.1 (len x.1.2.1))
         (ck (inB x_1.2.1 (len x.1.2.1))
          (sel (lt (nth x.1.2.1 (nat x_1.2.1) (0, none' UInt8, ())).1 x.2.1)
           (ck (inB x_1.2.1 (len x.1.2.1))
            (ck (rm 56 (nadd (ln x_1.1) (ln [nth x.1.2.1 (nat x_1.2.1) (0, none' UInt8, ())])))
            (some
            (LS.nx
            (app x_1.1 [nth x.1.2.1 (nat x_1.2.1) (0, none' UInt8, ())],
            i64 (iadd x_1.2.1 1), ())))))
           (some (LS.nx (x_1.1, i64 (iadd x_1.2.1 1), ())))))
         (some (LS.ex 0 (x_1.1, x_1.2.1, ()))))
       (none' (Int × List UInt8 × Unit), 0, ()))
      (fun (a : List (Int × List UInt8 × Unit) × Int × Unit) => none)
      (fun (i : Nat) (a : List (Int × List UInt8 × Unit) × Int × Unit) =>
       ck (neb i 0)
        (ck (rm 56 (nadd (ln a.1) (ln [(x.2.1, x.2.2.1, ())])))
         (lc
          (loop
           (fun (x_1 : List (Int × List UInt8 × Unit) × Int × Unit) =>
            sel (lt x_1.2.1 (len x.1.2.1))
            (ck (inB x_1.2.1 (len x.1.2.1))
            (sel (lt x.2.1 (nth x.1.2.1 (nat x_1.2.1) (0, none' UInt8, ())).1)
            (ck (inB x_1.2.1 (len x.1.2.1))
            (ck
            (rm 56
            (nadd (ln x_1.1) (ln [nth x.1.2.1 (nat x_1.2.1) (0, none' UInt8, ())])))
            (some
            (LS.nx
            (app x_1.1 [nth x.1.2.1 (nat x_1.2.1) (0, none' UInt8, ())],
            i64 (iadd x_1.2.1 1), ())))))
            (some (LS.nx (x_1.1, i64 (iadd x_1.2.1 1), ())))))
            (some (LS.ex 2 (x_1.1, x_1.2.1, ()))))
           (app a.1 [(x.2.1, x.2.2.1, ())], 0, ()))
          (fun (a : List (Int × List UInt8 × Unit) × Int × Unit) => none)
          (fun (i : Nat) (a : List (Int × List UInt8 × Unit) × Int × Unit) =>
           ck (neb i 2) (some ((x.1.1, a.1, ()), 0, ())))
          fun (r : (Int × List (Int × List UInt8 × Unit) × Unit) × Int × Unit) => some r)))
      fun (r : (Int × List (Int × List UInt8 × Unit) × Unit) × Int × Unit) => some r))
noncomputable def ref07_Get (x : (Int × List (Int × List UInt8 × Unit) × Unit) ×
  Int × Unit) : Option (List UInt8 × Bool × Unit) :=
  lc
  (loop
   (fun (x_1 : Bool × Int × Unit) =>
    sel (lt x_1.2.1 (len x.1.2.1))
     (ck (inB x_1.2.1 (len x.1.2.1))
      (sel (beq (nth x.1.2.1 (nat x_1.2.1) (0, none' UInt8, ())).1 x.2.1)
       (ck (inB x_1.2.1 (len x.1.2.1))
        (some (LS.rt ((nth x.1.2.1 (nat x_1.2.1) (0, none' UInt8, ())).2.1, true, ()))))
       (some (LS.nx (x_1.1, i64 (iadd x_1.2.1 1), ())))))
     (some (LS.ex 0 (x_1.1, x_1.2.1, ()))))
   (false, 0, ()))
  (fun (a : Bool × Int × Unit) => none)
  (fun (i : Nat) (a : Bool × Int × Unit) => ck (neb i 0) (some (none' UInt8, false, ())))
  fun (r : List UInt8 × Bool × Unit) => some r
noncomputable def ref07_Drop (x : (Int × List (Int × List UInt8 × Unit) × Unit) ×
  Int × Unit) : Option ((Int × List (Int × List UInt8 × Unit) × Unit) × Unit) :=
  lc
  (loop
   (fun (x_1 : List (Int × List UInt8 × Unit) × Int × Unit) =>
    sel (lt x_1.2.1 (len x.1.2.1))
     (ck (inB x_1.2.1 (len x.1.2.1))
      (sel (bnot (beq (nth x.1.2.1 (nat x_1.2.1) (0, none' UInt8, ())).1 x.2.1))
       (ck (inB x_1.2.1 (len x.1.2.1))
        (ck (rm 56 (nadd (ln x_1.1) (ln [nth x.1.2.1 (nat x_1.2.1) (0, none' UInt8, ())])))
         (some
          (LS.nx
           (app x_1.1 [nth x.1.2.1 (nat x_1.2.1) (0, none' UInt8, ())], i64 (iadd x_1.2.1 1),
            ())))))
       (some (LS.nx (x_1.1, i64 (iadd x_1.2.1 1), ())))))
     (some (LS.ex 0 (x_1.1, x_1.2.1, ()))))
   (none' (Int × List UInt8 × Unit), 0, ()))
  (fun (a : List (Int × List UInt8 × Unit) × Int × Unit) => none)
  (fun (i : Nat) (a : List (Int × List UInt8 × Unit) × Int × Unit) => ck (neb i 0) (some ((x.1.1, a.1, ()), ())))
  fun (r : (Int × List (Int × List UInt8 × Unit) × Unit) × Unit) => some r
end Yp
namespace Yp
open Go
noncomputable def note_rule_1 (x : (Bool × Int × Int × Int × Int × List UInt8 × List UInt8 × Int × Unit) ×
  Unit) : Option (Bool × Unit) :=
  some (false, ())
noncomputable def note_rule (x : (Bool × Int × Int × Int × Int × List UInt8 × List UInt8 × Int × Unit) ×
  Unit) : Option (Nat × Unit) :=
  ob (sel (beq x.1.2.1 101) (some (x.1.1, ())) (some (false, ()))) fun (a : Bool × Unit) =>
  sel a.1 (some (1, ()))
   (ob (sel (beq x.1.2.1 201) (some (x.1.1, ())) (some (false, ()))) fun (a : Bool × Unit) =>
    sel a.1 (some (2, ()))
     (ob
      (sel (beq x.1.2.1 1) (some (true, ()))
       (sel (beq x.1.2.1 2) (some (true, ()))
        (sel (beq x.1.2.1 101) (some (true, ()))
         (sel (beq x.1.2.1 201) (some (true, ())) (some (beq x.1.2.1 301, ()))))))
      fun (a : Bool × Unit) => sel a.1 (some (3, ())) (some (4, ()))))
noncomputable def note_Right (x : (Bool × Int × Int × Int × Int × List UInt8 × List UInt8 × Int × Unit) ×
  Unit) : Option (Bool × Unit) :=
  ob
  (sel (lt x.1.2.2.1 1) (some (true, ()))
   (sel (lt 999999 x.1.2.2.1) (some (true, ()))
    (sel (lt x.1.2.2.2.1 0) (some (true, ()))
     (sel (lt 99 x.1.2.2.2.1) (some (true, ()))
      (sel x.1.1 (some (lt 0 x.1.2.2.2.1, ())) (some (false, ())))))))
  fun (a : Bool × Unit) =>
  sel a.1 (some (false, ()))
   (ob (note_rule (x.1, ())) fun (a : Nat × Unit) =>
    sel (neb a.1 1) (ob (note_kind_keyed (x.1, ())) fun (a : Bool × Unit) => some (a.1, ()))
     (sel (neb (nsub a.1 1) 1) (ob (note_kind_dated (x.1, ())) fun (a : Bool × Unit) => some (a.1, ()))
      (sel (neb (nsub (nsub a.1 1) 1) 1)
       (ob (note_kind_bare (x.1, ())) fun (a : Bool × Unit) => some (a.1, ()))
       (ck (neb (nsub (nsub (nsub a.1 1) 1) 1) 1)
        (ob (note_rule_1 (x.1, ())) fun (a : Bool × Unit) => some (a.1, ()))))))
noncomputable def note_figures (x : Int × Int × Unit) : Option (List UInt8 × Unit) :=
  ob (dig_Digits (x.1, x.2.1, ())) fun (a : List UInt8 × Int × Unit) => ck (rm 1 (ln a.1)) (some (a.1, ()))
noncomputable def note_message (x : (Bool × Int × Int × Int × Int × List UInt8 × List UInt8 × Int × Unit) ×
  Unit) : Option ((Int × List (Int × List UInt8 × Unit) × Unit) × Unit) :=
  ob (note_figures (x.1.2.2.1, 6, ())) fun (a : List UInt8 × Unit) =>
  ob (iso_Set ((810, none' (Int × List UInt8 × Unit), ()), 11, a.1, ()))
   fun (a : (Int × List (Int × List UInt8 × Unit) × Unit) × Int × Unit) =>
   ob (note_figures (x.1.2.1, 3, ())) fun (a_1 : List UInt8 × Unit) =>
    ob (iso_Set (a.1, 70, a_1.1, ())) fun (a : (Int × List (Int × List UInt8 × Unit) × Unit) × Int × Unit) =>
     sel (bnot x.1.1)
      (ob (note_figures (x.1.2.2.2.1, 2, ())) fun (a_2 : List UInt8 × Unit) =>
       ob (iso_Set (a.1, 39, a_2.1, ()))
        fun (a : (Int × List (Int × List UInt8 × Unit) × Unit) × Int × Unit) => some (a.1, ()))
      (sel (beq x.1.2.1 101)
       (ob (dig_Hex (x.1.2.2.2.2.2.2.1, ())) fun (a_2 : List UInt8 × Unit) =>
        ck (rm 1 (ln a_2.1))
         (ob (iso_Set ((800, a.1.2), 48, a_2.1, ()))
          fun (a : (Int × List (Int × List UInt8 × Unit) × Unit) × Int × Unit) =>
          ob (note_figures (x.1.2.2.2.2.1, 16, ())) fun (a_3 : List UInt8 × Unit) =>
           ob (iso_Set (a.1, 53, a_3.1, ()))
            fun (a : (Int × List (Int × List UInt8 × Unit) × Unit) × Int × Unit) =>
            ob (iso_Set (a.1, 96, x.1.2.2.2.2.2.1, ()))
            fun (a : (Int × List (Int × List UInt8 × Unit) × Unit) × Int × Unit) => some (a.1, ())))
       (sel (beq x.1.2.1 201)
        (ob (note_figures (x.1.2.2.2.2.2.2.2.1, 6, ())) fun (a_2 : List UInt8 × Unit) =>
         ob (iso_Set ((800, a.1.2), 15, a_2.1, ()))
          fun (a : (Int × List (Int × List UInt8 × Unit) × Unit) × Int × Unit) => some (a.1, ()))
        (some ((800, a.1.2), ()))))
noncomputable def note_Write (x : (Bool × Int × Int × Int × Int × List UInt8 × List UInt8 × Int × Unit) ×
  Unit) : Option (List UInt8 × Int × Unit) :=
  ob (note_Right (x.1, ())) fun (a : Bool × Unit) =>
  sel (bnot a.1) (some (none' UInt8, 1, ()))
   (ob (note_message (x.1, ())) fun (a : (Int × List (Int × List UInt8 × Unit) × Unit) × Unit) =>
    ob (iso_Write (a.1, ())) fun (a : List UInt8 × Int × Unit) => some (a.1, a.2.1, ()))
noncomputable def note_Same (x : (Bool × Int × Int × Int × Int × List UInt8 × List UInt8 × Int × Unit) ×
  (Bool × Int × Int × Int × Int × List UInt8 × List UInt8 × Int × Unit) × Unit) : Option (Bool × Unit) :=
  ob
  (sel (beb x.1.1 x.2.1.1)
   (sel (beq x.1.2.1 x.2.1.2.1)
    (sel (beq x.1.2.2.1 x.2.1.2.2.1)
     (sel (beq x.1.2.2.2.1 x.2.1.2.2.2.1)
      (sel (beq x.1.2.2.2.2.1 x.2.1.2.2.2.2.1)
       (sel (beq x.1.2.2.2.2.2.2.2.1 x.2.1.2.2.2.2.2.2.2.1)
        (ob (bytes_Equal (x.1.2.2.2.2.2.1, x.2.1.2.2.2.2.2.1, ()))
         fun (a : Bool × Unit) =>
         sel a.1
          (ob (bytes_Equal (x.1.2.2.2.2.2.2.1, x.2.1.2.2.2.2.2.2.1, ()))
           fun (a : Bool × Unit) => some (a.1, ()))
          (some (false, ())))
        (some (false, ())))
       (some (false, ())))
      (some (false, ())))
     (some (false, ())))
    (some (false, ())))
   (some (false, ())))
  fun (a : Bool × Unit) => some (a.1, ())
noncomputable def note_Answer (x : (Bool × Int × Int × Int × Int × List UInt8 × List UInt8 × Int × Unit) ×
  Int × Unit) : Option ((Bool × Int × Int × Int × Int × List UInt8 × List UInt8 × Int × Unit) × Int × Unit) :=
  sel (bnot x.1.1) (some ((false, 0, 0, 0, 0, none' UInt8, none' UInt8, 0, ()), 9, ()))
  (ob (sel (lt x.2.1 0) (some (true, ())) (some (lt 99 x.2.1, ()))) fun (a : Bool × Unit) =>
   sel a.1 (some ((false, 0, 0, 0, 0, none' UInt8, none' UInt8, 0, ()), 1, ()))
    (some ((false, x.1.2.1, x.1.2.2.1, x.2.1, 0, none' UInt8, none' UInt8, 0, ()), 0, ())))
noncomputable def note_Read (x : List UInt8 ×
  Unit) : Option ((Bool × Int × Int × Int × Int × List UInt8 × List UInt8 × Int × Unit) × Int × Unit) :=
  ob (iso_Read (x.1, ())) fun (a : (Int × List (Int × List UInt8 × Unit) × Unit) × Int × Unit) =>
  sel (bnot (beq a.2.1 0)) (some ((false, 0, 0, 0, 0, none' UInt8, none' UInt8, 0, ()), a.2.1, ()))
   (ob (iso_Get (a.1, 70, ())) fun (a_1 : List UInt8 × Bool × Unit) =>
    ob (dig_Value (a_1.1, ())) fun (a_2 : Int × Int × Unit) =>
     ob (iso_Get (a.1, 11, ())) fun (a_3 : List UInt8 × Bool × Unit) =>
      ob (dig_Value (a_3.1, ())) fun (a_4 : Int × Int × Unit) =>
       ob (iso_Get (a.1, 39, ())) fun (a_5 : List UInt8 × Bool × Unit) =>
        ob (dig_Value (a_5.1, ())) fun (a_6 : Int × Int × Unit) =>
         ob (iso_Get (a.1, 53, ())) fun (a_7 : List UInt8 × Bool × Unit) =>
          ob (dig_Value (a_7.1, ())) fun (a_8 : Int × Int × Unit) =>
           ob (iso_Get (a.1, 15, ())) fun (a_9 : List UInt8 × Bool × Unit) =>
            ob (dig_Value (a_9.1, ())) fun (a_10 : Int × Int × Unit) =>
            ob (iso_Get (a.1, 96, ())) fun (a_11 : List UInt8 × Bool × Unit) =>
            ob (iso_Get (a.1, 48, ())) fun (a_12 : List UInt8 × Bool × Unit) =>
            ob (dig_Unhex (a_12.1, ())) fun (a_13 : List UInt8 × Int × Unit) =>
            ob
            (note_Right
            ((beq a.1.1 800, a_2.1, a_4.1, a_6.1, a_8.1, a_11.1, a_13.1, a_10.1,
            ()),
            ()))
            fun (a_14 : Bool × Unit) =>
            sel (bnot a_14.1) (some ((false, 0, 0, 0, 0, none' UInt8, none' UInt8, 0, ()), 2, ()))
            (ob
            (note_message
            ((beq a.1.1 800, a_2.1, a_4.1, a_6.1, a_8.1, a_11.1, a_13.1,
            a_10.1, ()),
            ()))
            fun (a_15 : (Int × List (Int × List UInt8 × Unit) × Unit) × Unit) =>
            ob (iso_Same (a_15.1, a.1, ())) fun (a_16 : Bool × Unit) =>
            sel (bnot a_16.1)
            (some ((false, 0, 0, 0, 0, none' UInt8, none' UInt8, 0, ()), 2, ()))
            (some
            ((beq a.1.1 800, a_2.1, a_4.1, a_6.1, a_8.1, a_11.1, a_13.1,
            a_10.1, ()),
            0, ()))))
noncomputable def law16_shown (x : Unit) : Option (Bool × Unit) :=
  ob (note_Write ((true, 301, 7, 0, 0, none' UInt8, none' UInt8, 0, ()), ())) fun (a : List UInt8 × Int × Unit) =>
  ob (note_Read (a.1, ()))
   fun (a_1 : (Bool × Int × Int × Int × Int × List UInt8 × List UInt8 × Int × Unit) × Int × Unit) =>
   ob (note_Answer (a_1.1, 0, ()))
    fun (a_2 : (Bool × Int × Int × Int × Int × List UInt8 × List UInt8 × Int × Unit) × Int × Unit) =>
    ob (note_Write (a_2.1, ())) fun (a_3 : List UInt8 × Int × Unit) =>
     ob
      (sel (beq a.2.1 0)
       (ob (ref01_Hex (a.1, ())) fun (a : List UInt8 × Unit) =>
        sel
         (seq a.1
          [48, 56, 48, 48, 56, 48, 50, 48, 48, 48, 48, 48, 48, 48, 48, 48, 48, 48, 48, 48, 48, 52, 48, 48, 48,
           48, 48, 48, 48, 48, 48, 48, 48, 48, 48, 48, 48, 48, 48, 48, 48, 55, 48, 51, 48, 49])
         (sel (beq a_1.2.1 0)
          (ob (note_Same (a_1.1, (true, 301, 7, 0, 0, none' UInt8, none' UInt8, 0, ()), ()))
           fun (a : Bool × Unit) =>
           sel a.1
            (sel (beq a_2.2.1 0)
            (sel (beq a_2.1.2.2.1 7)
            (sel (bnot a_2.1.1)
            (sel (beq a_3.2.1 0)
            (ck (inC 0 2 (len a_3.1))
            (ob (ref01_Hex (cut a_3.1 (nat 0) (nsub (nat 2) (nat 0)), ()))
            fun (a : List UInt8 × Unit) =>
            sel (seq a.1 [48, 56, 49, 48])
            (ob (note_Right ((true, 301, 7, 0, 0, none' UInt8, none' UInt8, 0, ()), ()))
            fun (a : Bool × Unit) =>
            sel a.1
            (ob (note_Right ((false, 0, 0, 0, 0, none' UInt8, none' UInt8, 0, ()), ()))
            fun (a : Bool × Unit) =>
            sel (bnot a.1)
            (ob
            (note_Same
            ((true, 301, 7, 0, 0, none' UInt8, none' UInt8, 0, ()), a_2.1, ()))
            fun (a : Bool × Unit) => some (bnot a.1, ()))
            (some (false, ())))
            (some (false, ())))
            (some (false, ()))))
            (some (false, ())))
            (some (false, ())))
            (some (false, ())))
            (some (false, ())))
            (some (false, ())))
          (some (false, ())))
         (some (false, ())))
       (some (false, ())))
      fun (a : Bool × Unit) => some (a.1, ())
noncomputable def ref16_Few (x : (Bool × Int × Int × Int × Int × List UInt8 × List UInt8 × Int × Unit) ×
  Unit) : Option (Bool × Unit) :=
  ob
  (sel (le (len x.1.2.2.2.2.2.1) 50) (some (le (len x.1.2.2.2.2.2.2.1) 50, ()))
   (some (false, ())))
  fun (a : Bool × Unit) => some (a.1, ())
noncomputable def ref15_Known (x : Int × Unit) : Option (Bool × Unit) :=
  ob
  (sel (beq x.1 1) (some (true, ()))
   (sel (beq x.1 2) (some (true, ()))
    (sel (beq x.1 101) (some (true, ())) (sel (beq x.1 201) (some (true, ())) (some (beq x.1 301, ()))))))
  fun (a : Bool × Unit) => some (a.1, ())
noncomputable def ref16_Right (x : (Bool × Int × Int × Int × Int × List UInt8 × List UInt8 × Int × Unit) ×
  Unit) : Option (Bool × Unit) :=
  ob (ref15_Known (x.1.2.1, ())) fun (a : Bool × Unit) =>
  ob
   (sel (bnot a.1) (some (true, ()))
    (sel (lt x.1.2.2.1 1) (some (true, ()))
     (sel (lt 999999 x.1.2.2.1) (some (true, ()))
      (sel (lt x.1.2.2.2.1 0) (some (true, ()))
       (sel (lt 99 x.1.2.2.2.1) (some (true, ()))
        (sel x.1.1 (some (bnot (beq x.1.2.2.2.1 0), ())) (some (false, ()))))))))
   fun (a : Bool × Unit) =>
   sel a.1 (some (false, ()))
    (ob (sel x.1.1 (some (beq x.1.2.1 101, ())) (some (false, ()))) fun (a : Bool × Unit) =>
     sel a.1
      (ob
       (sel (le 1 x.1.2.2.2.2.1)
        (sel (le x.1.2.2.2.2.1 2147483647)
         (sel (beq (len x.1.2.2.2.2.2.1) 8)
          (sel (beq (len x.1.2.2.2.2.2.2.1) 3)
           (some (beq x.1.2.2.2.2.2.2.2.1 0, ())) (some (false, ())))
          (some (false, ())))
         (some (false, ())))
        (some (false, ())))
       fun (a : Bool × Unit) => some (a.1, ()))
      (ob
       (sel (bnot (beq x.1.2.2.2.2.1 0)) (some (true, ()))
        (sel (bnot (beq (len x.1.2.2.2.2.2.1) 0)) (some (true, ()))
         (some (bnot (beq (len x.1.2.2.2.2.2.2.1) 0), ()))))
       fun (a : Bool × Unit) =>
       sel a.1 (some (false, ()))
        (ob (sel x.1.1 (some (beq x.1.2.1 201, ())) (some (false, ()))) fun (a : Bool × Unit) =>
         sel a.1
          (ob
           (sel (le 0 x.1.2.2.2.2.2.2.2.1)
            (some (le x.1.2.2.2.2.2.2.2.1 999999, ())) (some (false, ())))
           fun (a : Bool × Unit) => some (a.1, ()))
          (some (beq x.1.2.2.2.2.2.2.2.1 0, ())))))
noncomputable def ref16_figures (x : Int × Int × Unit) : Option (List UInt8 × Unit) :=
  ob (ref01_Digits (x.1, x.2.1, ())) fun (a : List UInt8 × Int × Unit) => ck (rm 1 (ln a.1)) (some (a.1, ()))
noncomputable def ref16_Message (x : (Bool × Int × Int × Int × Int × List UInt8 × List UInt8 × Int × Unit) ×
  Unit) : Option ((Int × List (Int × List UInt8 × Unit) × Unit) × Unit) :=
  ob (ref16_figures (x.1.2.2.1, 6, ())) fun (a : List UInt8 × Unit) =>
  sel (bnot x.1.1)
   (ob (ref16_figures (x.1.2.2.2.1, 2, ())) fun (a_1 : List UInt8 × Unit) =>
    ob (ref16_figures (x.1.2.1, 3, ())) fun (a_2 : List UInt8 × Unit) =>
     ck (rm 56 (nadd (ln [(11, a.1, ())]) (ln [(39, a_1.1, ()), (70, a_2.1, ())])))
      (some ((810, app [(11, a.1, ())] [(39, a_1.1, ()), (70, a_2.1, ())], ()), ())))
   (sel (beq x.1.2.1 201)
    (ob (ref16_figures (x.1.2.2.2.2.2.2.2.1, 6, ())) fun (a_1 : List UInt8 × Unit) =>
     ck (rm 56 (nadd (ln [(11, a.1, ())]) (ln [(15, a_1.1, ())])))
      (sel (beq x.1.2.1 101)
       (ob (ref01_Hex (x.1.2.2.2.2.2.2.1, ())) fun (a_2 : List UInt8 × Unit) =>
        ck (rm 1 (ln a_2.1))
         (ob (ref16_figures (x.1.2.2.2.2.1, 16, ())) fun (a_3 : List UInt8 × Unit) =>
          ck
           (rm 56
            (nadd (ln (app [(11, a.1, ())] [(15, a_1.1, ())]))
            (ln [(48, a_2.1, ()), (53, a_3.1, ())])))
           (ob (ref16_figures (x.1.2.1, 3, ())) fun (a_4 : List UInt8 × Unit) =>
            ck
            (rm 56
            (nadd
            (ln
            (app (app [(11, a.1, ())] [(15, a_1.1, ())]) [(48, a_2.1, ()), (53, a_3.1, ())]))
            (ln [(70, a_4.1, ())])))
            (sel (beq x.1.2.1 101)
            (ck
            (rm 56
            (nadd
            (ln
            (app
            (app (app [(11, a.1, ())] [(15, a_1.1, ())])
            [(48, a_2.1, ()), (53, a_3.1, ())])
            [(70, a_4.1, ())]))
            (ln [(96, x.1.2.2.2.2.2.1, ())])))
            (some
            ((800,
            app
            (app
            (app (app [(11, a.1, ())] [(15, a_1.1, ())])
            [(48, a_2.1, ()), (53, a_3.1, ())])
            [(70, a_4.1, ())])
            [(96, x.1.2.2.2.2.2.1, ())],
            ()),
            ())))
            (some
            ((800,
            app
            (app (app [(11, a.1, ())] [(15, a_1.1, ())])
            [(48, a_2.1, ()), (53, a_3.1, ())])
            [(70, a_4.1, ())],
            ()),
            ()))))))
       (ob (ref16_figures (x.1.2.1, 3, ())) fun (a_2 : List UInt8 × Unit) =>
        ck (rm 56 (nadd (ln (app [(11, a.1, ())] [(15, a_1.1, ())])) (ln [(70, a_2.1, ())])))
         (sel (beq x.1.2.1 101)
          (ck
           (rm 56
            (nadd (ln (app (app [(11, a.1, ())] [(15, a_1.1, ())]) [(70, a_2.1, ())]))
            (ln [(96, x.1.2.2.2.2.2.1, ())])))
           (some
            ((800,
            app (app (app [(11, a.1, ())] [(15, a_1.1, ())]) [(70, a_2.1, ())])
            [(96, x.1.2.2.2.2.2.1, ())],
            ()),
            ())))
          (some ((800, app (app [(11, a.1, ())] [(15, a_1.1, ())]) [(70, a_2.1, ())], ()), ()))))))
    (sel (beq x.1.2.1 101)
     (ob (ref01_Hex (x.1.2.2.2.2.2.2.1, ())) fun (a_1 : List UInt8 × Unit) =>
      ck (rm 1 (ln a_1.1))
       (ob (ref16_figures (x.1.2.2.2.2.1, 16, ())) fun (a_2 : List UInt8 × Unit) =>
        ck (rm 56 (nadd (ln [(11, a.1, ())]) (ln [(48, a_1.1, ()), (53, a_2.1, ())])))
         (ob (ref16_figures (x.1.2.1, 3, ())) fun (a_3 : List UInt8 × Unit) =>
          ck
           (rm 56
            (nadd (ln (app [(11, a.1, ())] [(48, a_1.1, ()), (53, a_2.1, ())]))
            (ln [(70, a_3.1, ())])))
           (sel (beq x.1.2.1 101)
            (ck
            (rm 56
            (nadd
            (ln
            (app (app [(11, a.1, ())] [(48, a_1.1, ()), (53, a_2.1, ())]) [(70, a_3.1, ())]))
            (ln [(96, x.1.2.2.2.2.2.1, ())])))
            (some
            ((800,
            app
            (app (app [(11, a.1, ())] [(48, a_1.1, ()), (53, a_2.1, ())]) [(70, a_3.1, ())])
            [(96, x.1.2.2.2.2.2.1, ())],
            ()),
            ())))
            (some
            ((800, app (app [(11, a.1, ())] [(48, a_1.1, ()), (53, a_2.1, ())]) [(70, a_3.1, ())],
            ()),
            ()))))))
     (ob (ref16_figures (x.1.2.1, 3, ())) fun (a_1 : List UInt8 × Unit) =>
      ck (rm 56 (nadd (ln [(11, a.1, ())]) (ln [(70, a_1.1, ())])))
       (sel (beq x.1.2.1 101)
        (ck
         (rm 56
          (nadd (ln (app [(11, a.1, ())] [(70, a_1.1, ())]))
           (ln [(96, x.1.2.2.2.2.2.1, ())])))
         (some
          ((800, app (app [(11, a.1, ())] [(70, a_1.1, ())]) [(96, x.1.2.2.2.2.2.1, ())], ()),
           ())))
        (some ((800, app [(11, a.1, ())] [(70, a_1.1, ())], ()), ()))))))
noncomputable def ref16_Write (x : (Bool × Int × Int × Int × Int × List UInt8 × List UInt8 × Int × Unit) ×
  Unit) : Option (List UInt8 × Int × Unit) :=
  ob (ref16_Right (x.1, ())) fun (a : Bool × Unit) =>
  sel (bnot a.1) (some (none' UInt8, 1, ()))
   (ob (ref16_Message (x.1, ())) fun (a : (Int × List (Int × List UInt8 × Unit) × Unit) × Unit) =>
    ob (ref07_Write (a.1, ())) fun (a : List UInt8 × Int × Unit) => some (a.1, 0, ()))
noncomputable def ref16_Same (x : (Bool × Int × Int × Int × Int × List UInt8 × List UInt8 × Int × Unit) ×
  (Bool × Int × Int × Int × Int × List UInt8 × List UInt8 × Int × Unit) × Unit) : Option (Bool × Unit) :=
  ob
  (sel (beb x.1.1 x.2.1.1)
   (sel (beq x.1.2.1 x.2.1.2.1)
    (sel (beq x.1.2.2.1 x.2.1.2.2.1)
     (sel (beq x.1.2.2.2.1 x.2.1.2.2.2.1)
      (sel (beq x.1.2.2.2.2.1 x.2.1.2.2.2.2.1)
       (sel (beq x.1.2.2.2.2.2.2.2.1 x.2.1.2.2.2.2.2.2.2.1)
        (ob (ref01_Same (x.1.2.2.2.2.2.1, x.2.1.2.2.2.2.2.1, ()))
         fun (a : Bool × Unit) =>
         sel a.1
          (ob (ref01_Same (x.1.2.2.2.2.2.2.1, x.2.1.2.2.2.2.2.2.1, ()))
           fun (a : Bool × Unit) => some (a.1, ()))
          (some (false, ())))
        (some (false, ())))
       (some (false, ())))
      (some (false, ())))
     (some (false, ())))
    (some (false, ())))
   (some (false, ())))
  fun (a : Bool × Unit) => some (a.1, ())
noncomputable def ref16_Answer (x : (Bool × Int × Int × Int × Int × List UInt8 × List UInt8 × Int × Unit) ×
  Int × Unit) : Option ((Bool × Int × Int × Int × Int × List UInt8 × List UInt8 × Int × Unit) × Int × Unit) :=
  sel (bnot x.1.1) (some ((false, 0, 0, 0, 0, none' UInt8, none' UInt8, 0, ()), 9, ()))
  (ob (sel (lt x.2.1 0) (some (true, ())) (some (lt 99 x.2.1, ()))) fun (a : Bool × Unit) =>
   sel a.1 (some ((false, 0, 0, 0, 0, none' UInt8, none' UInt8, 0, ()), 1, ()))
    (some ((false, x.1.2.1, x.1.2.2.1, x.2.1, 0, none' UInt8, none' UInt8, 0, ()), 0, ())))
noncomputable def law16_NoteTells (x : (Bool × Int × Int × Int × Int × List UInt8 × List UInt8 × Int × Unit) ×
  (Bool × Int × Int × Int × Int × List UInt8 × List UInt8 × Int × Unit) × Int × Unit) : Option (Bool × Unit) :=
  ob (law16_shown ()) fun (a : Bool × Unit) =>
  ob (ref16_Few (x.1, ())) fun (a_1 : Bool × Unit) =>
   ob
    (sel (bnot a_1.1) (some (true, ()))
     (ob (ref16_Few (x.2.1, ())) fun (a : Bool × Unit) => some (bnot a.1, ())))
    fun (a_2 : Bool × Unit) =>
    sel a_2.1 (some (a.1, ()))
     (ob (note_Write (x.1, ())) fun (a_3 : List UInt8 × Int × Unit) =>
      ob (ref16_Write (x.1, ())) fun (a_4 : List UInt8 × Int × Unit) =>
       ob (ref16_Right (x.1, ())) fun (a_5 : Bool × Unit) =>
        ob (ref01_Same (a_3.1, a_4.1, ())) fun (a_6 : Bool × Unit) =>
         ob
          (sel (bnot a_6.1) (some (true, ()))
           (sel (bnot (beq a_3.2.1 a_4.2.1)) (some (true, ()))
            (ob (note_Right (x.1, ())) fun (a : Bool × Unit) =>
            sel (bnot (beb a.1 a_5.1)) (some (true, ()))
            (ob (note_Same (x.1, x.2.1, ())) fun (a : Bool × Unit) =>
            ob (ref16_Same (x.1, x.2.1, ())) fun (a_7 : Bool × Unit) =>
            some (bnot (beb a.1 a_7.1), ())))))
          fun (a_7 : Bool × Unit) =>
          sel a_7.1 (some (false, ()))
           (sel (bnot a_5.1) (some (a.1, ()))
            (ob (note_Answer (x.1, x.2.2.1, ()))
            fun
            (a_8 : (Bool × Int × Int × Int × Int × List UInt8 × List UInt8 × Int × Unit) × Int × Unit) =>
            ob (ref16_Answer (x.1, x.2.2.1, ()))
            fun
            (a_9 :
            (Bool × Int × Int × Int × Int × List UInt8 × List UInt8 × Int × Unit) × Int × Unit) =>
            ob
            (sel a.1
            (ob (ref16_Same (a_8.1, a_9.1, ())) fun (a : Bool × Unit) =>
            sel a.1 (some (beq a_8.2.1 a_9.2.1, ())) (some (false, ())))
            (some (false, ())))
            fun (a : Bool × Unit) => some (a.1, ()))))
noncomputable def ref16_number (x : (Int × List (Int × List UInt8 × Unit) × Unit) × Int × Unit) : Option (Int × Unit) :=
  ob (ref07_Get (x.1, x.2.1, ())) fun (a : List UInt8 × Bool × Unit) =>
  ob (ref01_Value (a.1, ())) fun (a : Int × Int × Unit) => some (a.1, ())
noncomputable def ref16_Read (x : List UInt8 ×
  Unit) : Option ((Bool × Int × Int × Int × Int × List UInt8 × List UInt8 × Int × Unit) × Int × Unit) :=
  ob (ref07_Read (x.1, ())) fun (a : (Int × List (Int × List UInt8 × Unit) × Unit) × Int × Unit) =>
  sel (bnot (beq a.2.1 0)) (some ((false, 0, 0, 0, 0, none' UInt8, none' UInt8, 0, ()), a.2.1, ()))
   (ob (ref07_Get (a.1, 96, ())) fun (a_1 : List UInt8 × Bool × Unit) =>
    ob (ref07_Get (a.1, 48, ())) fun (a_2 : List UInt8 × Bool × Unit) =>
     ob (ref01_Unhex (a_2.1, ())) fun (a_3 : List UInt8 × Int × Unit) =>
      ob (ref16_number (a.1, 70, ())) fun (a_4 : Int × Unit) =>
       ob (ref16_number (a.1, 11, ())) fun (a_5 : Int × Unit) =>
        ob (ref16_number (a.1, 39, ())) fun (a_6 : Int × Unit) =>
         ob (ref16_number (a.1, 53, ())) fun (a_7 : Int × Unit) =>
          ob (ref16_number (a.1, 15, ())) fun (a_8 : Int × Unit) =>
           ob
            (ref16_Write
            ((beq a.1.1 800, a_4.1, a_5.1, a_6.1, a_7.1, a_1.1, a_3.1, a_8.1, ()), ()))
            fun (a_9 : List UInt8 × Int × Unit) =>
            ob
            (sel (bnot (beq a_9.2.1 0)) (some (true, ()))
            (ob (ref01_Same (a_9.1, x.1, ())) fun (a : Bool × Unit) => some (bnot a.1, ())))
            fun (a_10 : Bool × Unit) =>
            sel a_10.1 (some ((false, 0, 0, 0, 0, none' UInt8, none' UInt8, 0, ()), 2, ()))
            (some
            ((beq a.1.1 800, a_4.1, a_5.1, a_6.1, a_7.1, a_1.1, a_3.1, a_8.1, ()), 0,
            ())))
noncomputable def law16_NoteReads (x : List UInt8 × Unit) : Option (Bool × Unit) :=
  ob (law16_shown ()) fun (a : Bool × Unit) =>
  sel (lt 1200 (len x.1)) (some (a.1, ()))
   (ob (note_Read (x.1, ()))
    fun (a_1 : (Bool × Int × Int × Int × Int × List UInt8 × List UInt8 × Int × Unit) × Int × Unit) =>
    ob (ref16_Read (x.1, ()))
     fun (a_2 : (Bool × Int × Int × Int × Int × List UInt8 × List UInt8 × Int × Unit) × Int × Unit) =>
     ob
      (sel a.1
       (ob (ref16_Same (a_1.1, a_2.1, ())) fun (a : Bool × Unit) =>
        sel a.1 (some (beq a_1.2.1 a_2.2.1, ())) (some (false, ())))
       (some (false, ())))
      fun (a : Bool × Unit) => some (a.1, ()))
noncomputable def law16_NoteBack (x : (Bool × Int × Int × Int × Int × List UInt8 × List UInt8 × Int × Unit) ×
  List UInt8 × Unit) : Option (Bool × Unit) :=
  ob (law16_shown ()) fun (a : Bool × Unit) =>
  ob (ref16_Few (x.1, ())) fun (a_1 : Bool × Unit) =>
   ob (sel (bnot a_1.1) (some (true, ())) (some (lt 1200 (len x.2.1), ()))) fun (a_2 : Bool × Unit) =>
    sel a_2.1 (some (a.1, ()))
     (ob (note_Write (x.1, ())) fun (a_3 : List UInt8 × Int × Unit) =>
      ob (ref16_Right (x.1, ())) fun (a_4 : Bool × Unit) =>
       sel (bnot (beb (beq a_3.2.1 0) a_4.1)) (some (false, ()))
        (sel (beq a_3.2.1 0)
         (ob (note_Read (a_3.1, ()))
          fun (a_5 : (Bool × Int × Int × Int × Int × List UInt8 × List UInt8 × Int × Unit) × Int × Unit) =>
          ob
           (sel (bnot (beq a_5.2.1 0)) (some (true, ()))
            (ob (ref16_Same (a_5.1, x.1, ())) fun (a : Bool × Unit) =>
            sel (bnot a.1) (some (true, ())) (some (lt 900 (len a_3.1), ()))))
           fun (a_6 : Bool × Unit) =>
           sel a_6.1 (some (false, ()))
            (ob (note_Read (x.2.1, ()))
            fun
            (a_7 : (Bool × Int × Int × Int × Int × List UInt8 × List UInt8 × Int × Unit) × Int × Unit) =>
            sel (bnot (beq a_7.2.1 0))
            (ob
            (sel a.1
            (ob (ref16_Same (a_7.1, (false, 0, 0, 0, 0, none' UInt8, none' UInt8, 0, ()), ()))
            fun (a : Bool × Unit) => some (a.1, ()))
            (some (false, ())))
            fun (a : Bool × Unit) => some (a.1, ()))
            (ob (note_Write (a_7.1, ())) fun (a_8 : List UInt8 × Int × Unit) =>
            ob
            (sel a.1
            (sel (beq a_8.2.1 0)
            (ob (ref16_Right (a_7.1, ())) fun (a : Bool × Unit) =>
            sel a.1
            (ob (ref01_Same (a_8.1, x.2.1, ())) fun (a : Bool × Unit) =>
            some (a.1, ()))
            (some (false, ())))
            (some (false, ())))
            (some (false, ())))
            fun (a : Bool × Unit) => some (a.1, ()))))
         (ob (note_Read (x.2.1, ()))
          fun (a_5 : (Bool × Int × Int × Int × Int × List UInt8 × List UInt8 × Int × Unit) × Int × Unit) =>
          sel (bnot (beq a_5.2.1 0))
           (ob
            (sel a.1
            (ob (ref16_Same (a_5.1, (false, 0, 0, 0, 0, none' UInt8, none' UInt8, 0, ()), ()))
            fun (a : Bool × Unit) => some (a.1, ()))
            (some (false, ())))
            fun (a : Bool × Unit) => some (a.1, ()))
           (ob (note_Write (a_5.1, ())) fun (a_6 : List UInt8 × Int × Unit) =>
            ob
            (sel a.1
            (sel (beq a_6.2.1 0)
            (ob (ref16_Right (a_5.1, ())) fun (a : Bool × Unit) =>
            sel a.1
            (ob (ref01_Same (a_6.1, x.2.1, ())) fun (a : Bool × Unit) => some (a.1, ()))
            (some (false, ())))
            (some (false, ())))
            (some (false, ())))
            fun (a : Bool × Unit) => some (a.1, ())))))
noncomputable def law16_NoteAnswers (x : (Bool × Int × Int × Int × Int × List UInt8 × List UInt8 × Int × Unit) ×
  (Bool × Int × Int × Int × Int × List UInt8 × List UInt8 × Int × Unit) × Int × Unit) : Option (Bool × Unit) :=
  ob (law16_shown ()) fun (a : Bool × Unit) =>
  ob (ref16_Few (x.1, ())) fun (a_1 : Bool × Unit) =>
   ob
    (sel (bnot a_1.1) (some (true, ()))
     (ob (ref16_Few (x.2.1, ())) fun (a : Bool × Unit) =>
      sel (bnot a.1) (some (true, ()))
       (ob (ref16_Right (x.1, ())) fun (a : Bool × Unit) =>
        sel (bnot a.1) (some (true, ()))
         (ob (ref16_Right (x.2.1, ())) fun (a : Bool × Unit) => some (bnot a.1, ())))))
    fun (a_2 : Bool × Unit) =>
    sel a_2.1 (some (a.1, ()))
     (ob (note_Write (x.1, ())) fun (a_3 : List UInt8 × Int × Unit) =>
      ob (note_Write (x.2.1, ())) fun (a_4 : List UInt8 × Int × Unit) =>
       ob
        (sel (bnot (beq a_3.2.1 0)) (some (true, ()))
         (sel (bnot (beq a_4.2.1 0)) (some (true, ()))
          (ob (ref01_Same (a_3.1, a_4.1, ())) fun (a : Bool × Unit) =>
           ob (ref16_Same (x.1, x.2.1, ())) fun (a_5 : Bool × Unit) =>
            some (bnot (beb a.1 a_5.1), ()))))
        fun (a_5 : Bool × Unit) =>
        sel a_5.1 (some (false, ()))
         (ob (note_Answer (x.1, x.2.2.1, ()))
          fun (a_6 : (Bool × Int × Int × Int × Int × List UInt8 × List UInt8 × Int × Unit) × Int × Unit) =>
          sel (bnot (beq a_6.2.1 0))
           (ob
            (sel a.1
            (ob (ref16_Same (a_6.1, (false, 0, 0, 0, 0, none' UInt8, none' UInt8, 0, ()), ()))
            fun (a : Bool × Unit) =>
            sel a.1
            (sel (beb (beq a_6.2.1 9) (bnot x.1.1))
            (sel (bnot x.1.1) (some (true, ()))
            (sel (lt x.2.2.1 0) (some (true, ())) (some (lt 99 x.2.2.1, ()))))
            (some (false, ())))
            (some (false, ())))
            (some (false, ())))
            fun (a : Bool × Unit) => some (a.1, ()))
           (ob (note_Answer (a_6.1, 0, ()))
            fun (a_7 : (Bool × Int × Int × Int × Int × List UInt8 × List UInt8 × Int × Unit) × Int × Unit) =>
            ob
            (sel a.1
            (sel x.1.1
            (ob (ref16_Right (a_6.1, ())) fun (a : Bool × Unit) =>
            sel a.1
            (sel (bnot a_6.1.1)
            (sel (beq a_6.1.2.1 x.1.2.1)
            (sel (beq a_6.1.2.2.1 x.1.2.2.1)
            (sel (beq a_6.1.2.2.2.1 x.2.2.1) (some (beq a_7.2.1 9, ()))
            (some (false, ())))
            (some (false, ())))
            (some (false, ())))
            (some (false, ())))
            (some (false, ())))
            (some (false, ())))
            (some (false, ())))
            fun (a : Bool × Unit) => some (a.1, ()))))
noncomputable def law16_NoteFields (x : (Bool × Int × Int × Int × Int × List UInt8 × List UInt8 × Int × Unit) ×
  UInt8 × List UInt8 × Unit) : Option (Bool × Unit) :=
  ob (law16_shown ()) fun (a : Bool × Unit) =>
  ob (ref16_Few (x.1, ())) fun (a_1 : Bool × Unit) =>
   ob
    (sel (bnot a_1.1) (some (true, ()))
     (ob (ref16_Right (x.1, ())) fun (a : Bool × Unit) =>
      sel (bnot a.1) (some (true, ())) (some (lt 50 (len x.2.2.1), ()))))
    fun (a_2 : Bool × Unit) =>
    sel a_2.1 (some (a.1, ()))
     (ob (note_Write (x.1, ())) fun (a_3 : List UInt8 × Int × Unit) =>
      ob (ref07_Read (a_3.1, ())) fun (a_4 : (Int × List (Int × List UInt8 × Unit) × Unit) × Int × Unit) =>
       ob
        (sel (bnot (beq a_3.2.1 0)) (some (true, ()))
         (sel (bnot (beq a_4.2.1 0)) (some (true, ()))
          (sel (lt (len a_4.1.2.1) 2) (some (true, ()))
           (sel (bnot (beb (beq a_4.1.1 800) x.1.1)) (some (true, ()))
            (sel (bnot (beq a_4.1.1 800)) (some (bnot (beq a_4.1.1 810), ())) (some (false, ())))))))
        fun (a_5 : Bool × Unit) =>
        sel a_5.1 (some (false, ()))
         (ob (ref07_Get (a_4.1, 70, ())) fun (a_6 : List UInt8 × Bool × Unit) =>
          ob (ref07_Get (a_4.1, 11, ())) fun (a_7 : List UInt8 × Bool × Unit) =>
           ob (ref01_Value (a_6.1, ())) fun (a_8 : Int × Int × Unit) =>
            ob (ref01_Value (a_7.1, ())) fun (a_9 : Int × Int × Unit) =>
            ck (bnot (beq (len a_4.1.2.1) 0))
            (ck (inB (imod (i64 (n8 x.2.1)) (len a_4.1.2.1)) (len a_4.1.2.1))
            (ob
            (ref07_Drop
            (a_4.1,
            (nth a_4.1.2.1 (nat (imod (i64 (n8 x.2.1)) (len a_4.1.2.1)))
            (0, none' UInt8, ())).1,
            ()))
            fun (a_10 : (Int × List (Int × List UInt8 × Unit) × Unit) × Unit) =>
            ob (ref07_Write (a_10.1, ())) fun (a_11 : List UInt8 × Int × Unit) =>
            ob (note_Read (a_11.1, ()))
            fun
            (a_12 :
            (Bool × Int × Int × Int × Int × List UInt8 × List UInt8 × Int × Unit) ×
            Int × Unit) =>
            ob (ref07_Set (a_4.1, 41, x.2.2.1, ()))
            fun (a_13 : (Int × List (Int × List UInt8 × Unit) × Unit) × Int × Unit) =>
            ob (ref07_Write (a_13.1, ())) fun (a_14 : List UInt8 × Int × Unit) =>
            ob (note_Read (a_14.1, ()))
            fun
            (a_15 :
            (Bool × Int × Int × Int × Int × List UInt8 × List UInt8 × Int × Unit) ×
            Int × Unit) =>
            ob
            (sel a.1
            (sel (beq a_8.1 x.1.2.1)
            (sel (beq a_9.1 x.1.2.2.1)
            (sel (beq a_12.2.1 2)
            (sel (bnot (beq a_13.2.1 0)) (some (true, ()))
            (some (beq a_15.2.1 2, ())))
            (some (false, ())))
            (some (false, ())))
            (some (false, ())))
            (some (false, ())))
            fun (a : Bool × Unit) => some (a.1, ())))))
end Yp
namespace Yp
open Go
theorem loopN_mono {σ ρ : Type} {f : σ → Option (LS σ ρ)} : ∀ {n m : Nat} {x : σ} {r : LS σ ρ}, loopN f n x = some r → n ≤ m → loopN f m x = some r
  | 0, _, _, _, h, _ => by simp [loopN] at h
  | n + 1, 0, _, _, _, h => by omega
  | n + 1, m + 1, x, r, h, hm => by
    simp only [loopN] at h ⊢
    split at h
    · exact loopN_mono h (by omega)
    · exact h
theorem loop_of {σ ρ : Type} {f : σ → Option (LS σ ρ)} {x : σ} {r : LS σ ρ} (n : Nat) (h : loopN f n x = some r) : loop f x = some r := by
  have hex : ∃ n, (loopN f n x).isSome := ⟨n, by rw [h]; rfl⟩
  unfold loop
  rw [dif_pos hex]
  have hs := Classical.choose_spec hex
  obtain ⟨r', hr⟩ := Option.isSome_iff_exists.1 hs
  have h1 := loopN_mono hr (Nat.le_max_left _ n)
  have h2 := loopN_mono h (Nat.le_max_right (Classical.choose hex) n)
  rw [hr]; rw [h1] at h2; exact h2
theorem loop_nx {σ ρ : Type} {f : σ → Option (LS σ ρ)} {x y : σ} (h : f x = some (.nx y)) : loop f x = loop f y := by
  cases hy : loop f y with
  | some r =>
    obtain ⟨n, hn⟩ := loop_some hy
    exact loop_of (n + 1) (by simp [loopN, h, hn])
  | none =>
    cases hx : loop f x with
    | none => rfl
    | some r =>
      obtain ⟨n, hn⟩ := loop_some hx
      cases n with
      | zero => simp [loopN] at hn
      | succ n =>
        simp only [loopN, h] at hn
        rw [loop_of n hn] at hy; cases hy
theorem loop_ex {σ ρ : Type} {f : σ → Option (LS σ ρ)} {x y : σ} {k : Nat} (h : f x = some (.ex k y)) : loop f x = some (.ex k y) := loop_of 1 (by simp [loopN, h])
theorem loop_rt {σ ρ : Type} {f : σ → Option (LS σ ρ)} {x : σ} {r : ρ} (h : f x = some (.rt r)) : loop f x = some (.rt r) := loop_of 1 (by simp [loopN, h])
theorem loop_count {σ ρ : Type} {f : σ → Option (LS σ ρ)} (st : Nat → σ) (n : Nat) (h : ∀ i, i < n → f (st i) = some (.nx (st (i + 1)))) : ∀ i, i ≤ n → loop f (st i) = loop f (st n) := by
  intro i hi
  obtain ⟨d, rfl⟩ : ∃ d, n = i + d := ⟨n - i, by omega⟩
  clear hi
  induction d generalizing i with
  | zero => rfl
  | succ d ih =>
    rw [loop_nx (h i (by omega))]
    have := ih (i + 1) (fun j hj => h j (by omega))
    rw [this]; congr 2; omega
theorem i64_of {n : Int} (h1 : -9223372036854775808 ≤ n) (h2 : n ≤ 9223372036854775807) : i64 n = n := by
  show (if (true && decide (n % 18446744073709551616 ≥ 9223372036854775808)) = true then n % 18446744073709551616 - 18446744073709551616 else n % 18446744073709551616) = n
  simp only [Bool.true_and, decide_eq_true_eq]
  split <;> omega
theorem sel_t {α : Type} (a b : α) : sel true a b = a := rfl
theorem sel_f {α : Type} (a b : α) : sel false a b = b := rfl
theorem ck_t {α : Type} (a : Option α) : ck true a = a := rfl
theorem ob_s {α β : Type} (a : α) (k : α → Option β) : ob (some a) k = k a := rfl
end Yp
namespace Yp
open Go
theorem ob_of {α β : Type} {o : Option α} {a : α} {k : α → Option β} (h : o = some a) : ob o k = k a := by rw [h]; rfl
theorem sel_of_t {α : Type} {c : Bool} {a b : α} (h : c = true) : sel c a b = a := by rw [h]; rfl
theorem sel_of_f {α : Type} {c : Bool} {a b : α} (h : c = false) : sel c a b = b := by rw [h]; rfl
theorem ck_of {α : Type} {c : Bool} {a : Option α} (h : c = true) : ck c a = a := by rw [h]; rfl
theorem lc_eq {σ ρ β : Type} {o o' : Option (LS σ ρ)} {kn : σ → Option β} {ke : Nat → σ → Option β} {kr : ρ → Option β} (h : o = o') : lc o kn ke kr = lc o' kn ke kr := by rw [h]
theorem loop_scan {σ ρ : Type} {f : σ → Option (LS σ ρ)} (st : Nat → σ) (n : Nat) (p : Nat → Prop) (r : ρ) (k : Nat) (hs : ∀ i, i < n → (∀ j, j ≤ i → p j) → f (st i) = some (.nx (st (i + 1)))) (hb : ∀ i, i < n → (∀ j, j < i → p j) → ¬ p i → f (st i) = some (.rt r))
    (he : (∀ i, i < n → p i) → f (st n) = some (.ex k (st n))) : ((∀ i, i < n → p i) ∧ loop f (st 0) = some (.ex k (st n))) ∨ ((∃ i, i < n ∧ ¬ p i) ∧ loop f (st 0) = some (.rt r)) := by
  by_cases h : ∀ i, i < n → p i
  · refine .inl ⟨h, ?_⟩
    rw [loop_count st n (fun i hi => hs i hi fun j hj => h j (by omega)) 0 (Nat.zero_le _)]
    exact loop_ex (he h)
  · refine .inr ?_
    have hex : ∃ i, i < n ∧ ¬ p i := by
      refine Classical.byContradiction fun hc => h fun i hi => Classical.byContradiction fun hp => hc ⟨i, hi, hp⟩
    refine ⟨hex, ?_⟩
    obtain ⟨k, hk, hp⟩ := hex
    induction k using Nat.strongRecOn with
    | _ k ih =>
      by_cases hl : ∃ j, j < k ∧ ¬ p j
      · obtain ⟨j, hj, hpj⟩ := hl
        exact ih j hj (by omega) hpj
      · have hall : ∀ i, i < k → p i := fun i hi => Classical.byContradiction fun hp => hl ⟨i, hi, hp⟩
        rw [loop_count st k (fun i hi => hs i (by omega) fun j hj => hall j (by omega)) 0 (Nat.zero_le _)]
        exact loop_rt (hb k hk hall hp)
theorem lt_nat {a b : Nat} : lt (a : Int) (b : Int) = decide (a < b) := by unfold lt; rw [decide_eq_decide]; omega
theorem le_nat {a b : Nat} : le (a : Int) (b : Int) = decide (a ≤ b) := by unfold le; rw [decide_eq_decide]; omega
theorem lt_t {a b : Int} (h : a < b) : lt a b = true := decide_eq_true h
theorem lt_f {a b : Int} (h : ¬ a < b) : lt a b = false := decide_eq_false h
theorem le_t {a b : Int} (h : a ≤ b) : le a b = true := decide_eq_true h
theorem le_f {a b : Int} (h : ¬ a ≤ b) : le a b = false := decide_eq_false h
theorem beq_t {a b : Int} (h : a = b) : beq a b = true := by unfold beq; exact beq_iff_eq.2 h
theorem beq_f {a b : Int} (h : ¬ a = b) : beq a b = false := by unfold beq; exact beq_eq_false_iff_ne.2 h
theorem nlt_t {a b : Nat} (h : a < b) : nlt a b = true := by unfold nlt; rw [Nat.blt_eq]; exact h
theorem nlt_f {a b : Nat} (h : ¬ a < b) : nlt a b = false := by
  unfold nlt; cases hb : Nat.blt a b with
  | false => rfl
  | true => rw [Nat.blt_eq] at hb; exact absurd hb h
theorem inB_nat {a n : Nat} (h : a < n) : inB (a : Int) (n : Int) = true := by
  simp only [inB, Bool.and_eq_true, decide_eq_true_eq]; omega
theorem inB_t {a n : Int} (h0 : 0 ≤ a) (h : a < n) : inB a n = true := by
  simp only [inB, Bool.and_eq_true, decide_eq_true_eq]; omega
theorem inC_t {a b n : Int} (h0 : 0 ≤ a) (h : a ≤ b) (h' : b ≤ n) : inC a b n = true := by
  simp only [inC, Bool.and_eq_true, decide_eq_true_eq]; omega
theorem rm_t {c n : Nat} (h : n * c ≤ 140737488355328) : rm c n = true := decide_eq_true h
theorem i64_nat {n : Nat} (h : n ≤ 9223372036854775807) : i64 (n : Int) = (n : Int) := i64_of (by omega) (by omega)
theorem len_nat {α : Type} (l : List α) : len l = ((l.length : Nat) : Int) := rfl
theorem nth_get {α : Type} {l : List α} {i : Nat} {d : α} (h : i < l.length) : nth l i d = l[i] := by
  simp [nth, List.getD_eq_getElem?_getD, h]
theorem n8_lt (x : UInt8) : x.toNat < 256 := x.toNat_lt
theorem u8_nat' (q : Nat) : u8 (q : Int) = UInt8.ofNat q := by
  apply UInt8.toNat_inj.1
  unfold u8
  have h1 : (UInt8.ofInt (q : Int)).toNat = q % 256 := by
    simp [UInt8.ofInt, UInt8.toNat_ofNat]
    omega
  rw [h1]; simp
theorem pow_cast (b n : Nat) : ((b : Int) ^ n) = ((b ^ n : Nat) : Int) := (Int.natCast_pow b n).symm
theorem decode_low {l : List UInt8} {i : Nat} (h : i < l.length) (hl : l[i].toNat < 128) : decode l i = (l[i].toNat, 1) := by
  have hb : ((⟨l.toArray⟩ : ByteArray).get! (i + 0)).toNat = l[i].toNat := by
    show (l.toArray[i + 0]!).toNat = _
    simp [h]
  unfold decode Utf8.decode
  simp only [hb]
  rw [if_pos hl]
theorem decode_high {l : List UInt8} {i : Nat} (h : i < l.length) (hl : ¬ l[i].toNat < 128) : 128 ≤ (decode l i).1 ∧ (decode l i).1 ≤ 1114111 := by
  have hb : ((⟨l.toArray⟩ : ByteArray).get! (i + 0)).toNat = l[i].toNat := by
    show (l.toArray[i + 0]!).toNat = _
    simp [h]
  have h256 := n8_lt l[i]
  unfold decode Utf8.decode
  simp only [hb, if_neg hl, Utf8.runeError]
  have b : ∀ k, ((⟨l.toArray⟩ : ByteArray).get! k).toNat < 256 := fun k => n8_lt _
  generalize l[i].toNat = c at *
  repeat' split
  all_goals simp only
  all_goals (rename_i hc hd; simp only [Bool.and_eq_true, decide_eq_true_eq, beq_iff_eq, Utf8.valid, Bool.or_eq_true] at hc hd; omega)
theorem iadd_nat {a b : Nat} : iadd (a : Int) (b : Int) = ((a + b : Nat) : Int) := by simp [iadd]
theorem imul_nat {a b : Nat} : imul (a : Int) (b : Int) = ((a * b : Nat) : Int) := by simp [imul]
theorem isub_nat {a b : Nat} (h : b ≤ a) : isub (a : Int) (b : Int) = ((a - b : Nat) : Int) := by simp only [isub]; omega
theorem idiv_nat {a b : Nat} : idiv (a : Int) (b : Int) = ((a / b : Nat) : Int) := by simp only [idiv]; exact (Int.ofNat_tdiv _ _).symm
theorem imod_nat {a b : Nat} : imod (a : Int) (b : Int) = ((a % b : Nat) : Int) := by simp only [imod]; exact (Int.ofNat_tmod _ _).symm
theorem i64_add {a b : Nat} (h : a + b ≤ 9223372036854775807) : i64 (iadd (a : Int) (b : Int)) = ((a + b : Nat) : Int) := by rw [iadd_nat, i64_nat h]
theorem i64_mul {a b : Nat} (h : a * b ≤ 9223372036854775807) : i64 (imul (a : Int) (b : Int)) = ((a * b : Nat) : Int) := by rw [imul_nat, i64_nat h]
theorem i64_sub {a b : Nat} (h : b ≤ a) (h' : a ≤ 9223372036854775807) : i64 (isub (a : Int) (b : Int)) = ((a - b : Nat) : Int) := by rw [isub_nat h, i64_nat (by omega)]
theorem i64_div {a b : Nat} (h' : a ≤ 9223372036854775807) : i64 (idiv (a : Int) (b : Int)) = ((a / b : Nat) : Int) := by rw [idiv_nat, i64_nat (Nat.le_trans (Nat.div_le_self _ _) h')]
theorem nat_nat {a : Nat} : nat (a : Int) = a := by simp [nat]
theorem n8_u8 {a : Nat} (h : a < 256) : n8 (u8 (a : Int)) = (a : Int) := by
  rw [u8_nat']; simp only [n8, UInt8.toNat_ofNat']; omega
end Yp
namespace Yp
open Go
def ps (B : Nat) (g : Nat → UInt8) (v : Nat) : Nat → List UInt8
  | 0 => []
  | n + 1 => g (v / B ^ n % B) :: ps B g v n
theorem ps_length (B : Nat) (g : Nat → UInt8) (v : Nat) : ∀ n, (ps B g v n).length = n
  | 0 => rfl
  | n + 1 => by simp [ps, ps_length B g v n]
def dch (d : Nat) : UInt8 := UInt8.ofNat (48 + d)
theorem upd_rep {n : Nat} {d z : UInt8} {tl : List UInt8} : upd (rep (n + 1) z ++ tl) n d = rep n z ++ d :: tl := by
  induction n with
  | zero => simp [upd, rep]
  | succ n ih =>
    have e1 : rep (n + 1 + 1) z ++ tl = z :: (rep (n + 1) z ++ tl) := by simp [rep, List.replicate_succ]
    have e2 : rep (n + 1) z ++ d :: tl = z :: (rep n z ++ d :: tl) := by simp [rep, List.replicate_succ]
    rw [e1, e2, ← ih]; rfl
def hexs : List UInt8 := [48, 49, 50, 51, 52, 53, 54, 55, 56, 57, 97, 98, 99, 100, 101, 102]
theorem hexs_dch : ∀ d, d < 10 → nth hexs d (u8 0) = dch d := by decide
theorem dig_Digits_spec (v w : Int) (hv : v ≤ 9223372036854775807) : dig_Digits (v, w, ()) = some (if 1 ≤ w ∧ w ≤ 18 ∧ 0 ≤ v ∧ v < 10 ^ w.toNat then (ps 10 dch v.toNat w.toNat, 0, ()) else ([], 1, ())) := by
  unfold dig_Digits
  by_cases h1 : w < 1
  · rw [if_neg (by omega)]; simp [sel, ob, lt, h1, none']
  by_cases h2 : 18 < w
  · rw [if_neg (by omega)]; simp [sel, ob, lt, h1, h2, none']
  by_cases h3 : v < 0
  · rw [if_neg (by omega)]; simp [sel, ob, lt, h1, h2, h3, none']
  obtain ⟨n, rfl⟩ : ∃ n : Nat, w = n := ⟨w.toNat, by omega⟩
  obtain ⟨V, rfl⟩ : ∃ n : Nat, v = n := ⟨v.toNat, by omega⟩
  simp only [lt, h1, h2, h3, decide_false, decide_true, sel_f, sel_t, ob_s, Int.toNat_natCast]
  have c0 : band (inC 0 (n : Int) n) (rm 1 (nat n)) = true := by simp [band, inC, rm, nat]; omega
  rw [c0, ck_t]
  have e0 : i64 (isub (n : Int) 1) = (n : Int) - 1 := i64_of (by simp only [isub]; omega) (by simp only [isub]; omega)
  rw [e0]
  generalize hf : (fun (x : Int × Int × List UInt8 × Unit) => _) = f
  have step : ∀ i, i < n → f (((V / 10 ^ i : Nat) : Int), (n : Int) - 1 - i, rep (n - i) (u8 0) ++ ps 10 dch V i, ()) = some (.nx (((V / 10 ^ (i + 1) : Nat) : Int), (n : Int) - 1 - (i + 1 : Nat), rep (n - (i + 1)) (u8 0) ++ ps 10 dch V (i + 1), ())) := by
    intro i hi
    subst hf
    have hm : imod ((V / 10 ^ i : Nat) : Int) 10 = ((V / 10 ^ i % 10 : Nat) : Int) := by simp only [imod]; exact (Int.ofNat_tmod _ _).symm
    have hlt : V / 10 ^ i % 10 < 10 := Nat.mod_lt _ (by omega)
    have hle : V / 10 ^ i ≤ V := Nat.div_le_self _ _
    have hd : i64 (idiv ((V / 10 ^ i : Nat) : Int) 10) = ((V / 10 ^ (i + 1) : Nat) : Int) := by
      have : idiv ((V / 10 ^ i : Nat) : Int) 10 = ((V / 10 ^ i / 10 : Nat) : Int) := by simp only [idiv]; exact (Int.ofNat_tdiv _ _).symm
      rw [this, i64_nat (by omega), Nat.div_div_eq_div_mul, Nat.pow_succ]
    have hi1 : i64 (isub ((n : Int) - 1 - i) 1) = (n : Int) - 1 - (i + 1 : Nat) := by
      rw [i64_of (by simp only [isub]; omega) (by simp only [isub]; omega)]; simp only [isub]; omega
    have hle0 : le 0 ((n : Int) - 1 - i) = true := by simp only [le, decide_eq_true_eq]; omega
    have hb1 : inB ((V / 10 ^ i % 10 : Nat) : Int) (len [48, 49, 50, 51, 52, 53, 54, 55, 56, 57, 97, 98, 99, 100, 101, 102]) = true := inB_nat (n := 16) (by omega)
    have hb2 : inB ((n : Int) - 1 - i) (len (rep (n - i) (u8 0) ++ ps 10 dch V i)) = true := by
      simp only [inB, len, List.length_append, ps_length, rep, List.length_replicate, Bool.and_eq_true, decide_eq_true_eq]; omega
    have hn : nat ((n : Int) - 1 - i) = n - (i + 1) := by simp only [nat]; omega
    have hn2 : nat ((V / 10 ^ i % 10 : Nat) : Int) = V / 10 ^ i % 10 := by simp only [nat]; omega
    have hs : rep (n - i) (u8 0) = rep (n - (i + 1) + 1) (u8 0) := by congr 1; omega
    show sel (le 0 ((n : Int) - 1 - i)) _ _ = _
    rw [hle0, sel_t]
    simp only [hm]
    rw [hb1, ck_t, hb2, ck_t, hd, hi1, hn, hn2, hs, upd_rep]
    have := hexs_dch _ hlt
    simp only [hexs] at this
    rw [this]; rfl
  have hrun := loop_count (f := f) (fun i => (((V / 10 ^ i : Nat) : Int), (n : Int) - 1 - i, rep (n - i) (u8 0) ++ ps 10 dch V i, ())) n step 0 (by omega)
  have hend : f (((V / 10 ^ n : Nat) : Int), (n : Int) - 1 - n, rep (n - n) (u8 0) ++ ps 10 dch V n, ()) = some (.ex 0 (((V / 10 ^ n : Nat) : Int), (n : Int) - 1 - n, rep (n - n) (u8 0) ++ ps 10 dch V n, ())) := by
    subst hf
    have hle0 : le 0 ((n : Int) - 1 - n) = false := by simp only [le, decide_eq_false_iff_not]; omega
    show sel (le 0 ((n : Int) - 1 - n)) _ _ = _
    rw [hle0, sel_f]
  have e1 : (((V / 10 ^ 0 : Nat) : Int), (n : Int) - 1 - (0 : Nat), rep (n - 0) (u8 0) ++ ps 10 dch V 0, ()) = (((V : Nat) : Int), (n : Int) - 1, rep (nat n) (u8 0), ()) := by
    simp [ps, nat]
  rw [e1, loop_ex hend] at hrun
  rw [hrun]
  have e2 : rep (n - n) (u8 0) ++ ps 10 dch V n = ps 10 dch V n := by simp [rep]
  simp only [lc, e2]
  show sel (decide ((0 : Int) < ((V / 10 ^ n : Nat) : Int))) _ _ = _
  by_cases hlt : V < 10 ^ n
  · have : V / 10 ^ n = 0 := Nat.div_eq_of_lt hlt
    rw [this, if_pos ⟨by omega, by omega, by omega, by exact_mod_cast hlt⟩]; rfl
  · have : 0 < V / 10 ^ n := Nat.div_pos (by omega) (Nat.pow_pos (by omega))
    rw [if_neg (fun h => hlt (by exact_mod_cast h.2.2.2))]
    have hp : decide ((0 : Int) < ((V / 10 ^ n : Nat) : Int)) = true := by simp only [decide_eq_true_eq]; omega
    rw [hp]; rfl
end Yp
namespace Yp
open Go
end Yp
namespace Yp
open Go
def isFig (c : UInt8) : Prop := 48 ≤ c.toNat ∧ c.toNat ≤ 57
instance (c : UInt8) : Decidable (isFig c) := inferInstanceAs (Decidable (_ ∧ _))
def figs (s : List UInt8) : Prop := ∀ (i : Nat) (h : i < s.length), isFig s[i]
def val (s : List UInt8) : Nat := s.foldl (fun n c => 10 * n + (c.toNat - 48)) 0
theorem val_take {s : List UInt8} {i : Nat} (h : i < s.length) : val (s.take (i + 1)) = 10 * val (s.take i) + (s[i].toNat - 48) := by
  unfold val
  rw [List.take_succ_eq_append_getElem h, List.foldl_append]; rfl
theorem val_lt {s : List UInt8} : ∀ i, i ≤ s.length → (∀ j, j < i → ∀ h : j < s.length, isFig s[j]) → val (s.take i) < 10 ^ i
  | 0, _, _ => by simp [val]
  | i + 1, h, hf => by
    have := val_lt i (by omega) (fun j hj => hf j (by omega))
    have hi := hf i (by omega) (by omega)
    rw [val_take (by omega), Nat.pow_succ]
    unfold isFig at hi
    omega
theorem pow18 {i : Nat} (h : i ≤ 18) : 10 ^ i ≤ 1000000000000000000 := by
  have := Nat.pow_le_pow_right (n := 10) (by omega) h
  exact this
theorem dig_figure_fig {c : Nat} (h1 : 48 ≤ c) (h2 : c ≤ 57) : dig_figure (ofn c, ()) = some (((c - 48 : Nat) : Int), true, ()) := by
  have : c = 48 ∨ c = 49 ∨ c = 50 ∨ c = 51 ∨ c = 52 ∨ c = 53 ∨ c = 54 ∨ c = 55 ∨ c = 56 ∨ c = 57 := by omega
  rcases this with rfl | rfl | rfl | rfl | rfl | rfl | rfl | rfl | rfl | rfl <;> decide
theorem dig_figure_not {c : Nat} (h : ¬ (48 ≤ c ∧ c ≤ 57)) : ∃ q : Int, dig_figure (ofn c, ()) = some (q, false, ()) := by
  refine ⟨i64 (i32 (isub (ofn c) 48)), ?_⟩
  unfold dig_figure
  by_cases h1 : 48 ≤ c
  · refine (ob_of (sel_of_t (le_t (by simp only [ofn]; omega)))).trans ?_
    show some (_, le (ofn c) 57, ()) = _
    rw [le_f (by simp only [ofn]; omega)]
  · refine (ob_of (sel_of_f (le_f (by simp only [ofn]; omega)))).trans ?_
    rfl
theorem fig_step {s : List UInt8} {i : Nat} (h : i < s.length) (hf : isFig s[i]) : dig_figure (ofn (decode s i).1, ()) = some (((s[i].toNat - 48 : Nat) : Int), true, ()) ∧ (decode s i).2 = 1 := by
  have hl : s[i].toNat < 128 := by unfold isFig at hf; omega
  rw [decode_low h hl]
  exact ⟨dig_figure_fig hf.1 hf.2, rfl⟩
theorem fig_not {s : List UInt8} {i : Nat} (h : i < s.length) (hf : ¬ isFig s[i]) : ∃ q : Int, dig_figure (ofn (decode s i).1, ()) = some (q, false, ()) := by
  by_cases hl : s[i].toNat < 128
  · rw [decode_low h hl]; exact dig_figure_not hf
  · have := decode_high h hl
    exact dig_figure_not (by omega)
theorem figs_iff {s : List UInt8} : figs s ↔ ∀ i, i < s.length → ∀ h : i < s.length, isFig s[i] := ⟨fun h i hi _ => h i hi, fun h i hi => h i hi hi⟩
instance (s : List UInt8) : Decidable (figs s) := inferInstanceAs (Decidable (∀ (i : Nat) (h : i < s.length), isFig s[i]))
theorem dig_Value_spec (s : List UInt8) : dig_Value (s, ()) = some (if 1 ≤ s.length ∧ s.length ≤ 18 ∧ figs s then ((val s : Int), 0, ()) else (0, 2, ())) := by
  unfold dig_Value
  by_cases h1 : s.length < 1
  · refine (ob_of (sel_of_t (lt_t (by simp only [len]; omega)))).trans ?_
    rw [if_neg (by omega)]; rfl
  by_cases h2 : 18 < s.length
  · refine (ob_of ((sel_of_f (lt_f (by simp only [len]; omega))).trans (congrArg (fun b => some (b, ())) (lt_t (by simp only [len]; omega))))).trans ?_
    rw [if_neg (by omega)]; rfl
  refine (ob_of ((sel_of_f (lt_f (by simp only [len]; omega))).trans (congrArg (fun b => some (b, ())) (lt_f (by simp only [len]; omega))))).trans ?_
  refine (sel_of_f rfl).trans ?_
  generalize hf : (fun (x : Int × Int × Int × Nat × Unit) => _) = f
  have key := loop_scan (f := f) (fun i => (0, 0, (val (s.take i) : Int), i, ())) s.length (fun i => ∀ h : i < s.length, isFig s[i]) (0, 2, ()) 0 ?_ ?_ ?_
  · have e0 : ((0 : Int), (0 : Int), (val (s.take 0) : Int), 0, ()) = ((0 : Int), (0 : Int), (0 : Int), 0, ()) := by simp [val]
    rw [e0] at key
    rcases key with ⟨hall, hr⟩ | ⟨⟨i, hi, hn⟩, hr⟩
    · rw [hr, if_pos ⟨by omega, by omega, figs_iff.2 hall⟩]
      show some ((val (s.take s.length) : Int), (0 : Int), ()) = _
      rw [List.take_length]
    · rw [hr, if_neg (fun hc => hn (figs_iff.1 hc.2.2 i hi))]; rfl
  · intro i hi hp
    subst hf
    obtain ⟨e1, e2⟩ := fig_step hi (hp i (Nat.le_refl _) hi)
    refine (sel_of_t (nlt_t hi)).trans ?_
    refine (ob_of e1).trans ?_
    refine (sel_of_f rfl).trans ?_
    have hv := val_lt (i + 1) (by omega) (fun j hj => hp j (by omega))
    have hp := pow18 (i := i + 1) (by omega)
    rw [val_take hi] at hv
    have c1 : i64 (imul 10 (val (s.take i) : Int)) = ((10 * val (s.take i) : Nat) : Int) := i64_mul (a := 10) (by omega)
    simp only [e2, c1]
    rw [i64_add (by omega), val_take hi]; rfl
  · intro i hi _ hp
    subst hf
    have : ¬ isFig s[i] := fun h => hp fun _ => h
    obtain ⟨q, e1⟩ := fig_not hi this
    refine (sel_of_t (nlt_t hi)).trans ?_
    refine (ob_of e1).trans ?_
    rfl
  · intro _
    subst hf
    exact sel_of_f (nlt_f (Nat.lt_irrefl _))
end Yp
namespace Yp
open Go
theorem pow_le_max {b w : Nat} (hb : 1 ≤ b) (h : b ^ w ≤ 9223372036854775807) : ∀ i, i ≤ w → b ^ i ≤ 9223372036854775807 := fun i hi => Nat.le_trans (Nat.pow_le_pow_right hb hi) h
theorem ref01_power_spec (b w : Nat) (hb : 1 ≤ b) (hw : w ≤ 1000) (h : b ^ w ≤ 9223372036854775807) : ref01_power ((b : Int), (w : Int), ()) = some (((b ^ w : Nat) : Int), ()) := by
  unfold ref01_power
  generalize hf : (fun (x : Int × Int × Unit) => _) = f
  have key := loop_scan (f := f) (fun i => (((b ^ i : Nat) : Int), (i : Int), ())) w (fun _ => True) (0, ()) 0 ?_ ?_ ?_
  · have e0 : (((b ^ 0 : Nat) : Int), ((0 : Nat) : Int), ()) = ((1 : Int), (0 : Int), ()) := by simp
    rw [e0] at key
    rcases key with ⟨_, hr⟩ | ⟨⟨i, hi, hn⟩, hr⟩
    · rw [hr]; rfl
    · exact absurd trivial hn
  · intro i hi _
    subst hf
    refine (sel_of_t (lt_t (show (i : Int) < (w : Int) by omega))).trans ?_
    have := pow_le_max hb h (i + 1) (by omega)
    rw [Nat.pow_succ] at this
    simp only
    rw [i64_mul this]
    have c : i64 (iadd (i : Int) 1) = ((i + 1 : Nat) : Int) := i64_add (b := 1) (by omega)
    rw [c, ← Nat.pow_succ]
  · intro i _ _ h; exact absurd trivial h
  · intro _; subst hf; exact sel_of_f (lt_f (show ¬ (w : Int) < (w : Int) by omega))
theorem ref01_Figures_spec (s : List UInt8) (hl : s.length ≤ 1000000) : ref01_Figures (s, ()) = some (decide (figs s), ()) := by
  unfold ref01_Figures
  generalize hf : (fun (x : Bool × Int × Unit) => _) = f
  have cond : ∀ i (hi : i < s.length), (sel (lt (n8 (nth s (nat (i : Int)) (u8 0))) (n8 (u8 48))) (some (true, ())) (ck (inB (i : Int) (len s)) (some (lt (n8 (u8 57)) (n8 (nth s (nat (i : Int)) (u8 0))), ()))) : Option (Bool × Unit)) = some (decide (¬ isFig s[i]), ()) := by
    intro i hi
    have hin : inB (i : Int) (len s) = true := inB_nat hi
    rw [nat_nat, nth_get hi, hin, ck_t]
    have e1 : n8 (u8 48) = 48 := by decide
    have e2 : n8 (u8 57) = 57 := by decide
    rw [e1, e2]
    by_cases h1 : s[i].toNat < 48
    · rw [lt_t (by simp only [n8]; omega), sel_t, decide_eq_true (show ¬ isFig s[i] from fun h => by unfold isFig at h; omega)]
    · rw [lt_f (by simp only [n8]; omega), sel_f]
      by_cases h2 : 57 < s[i].toNat
      · rw [lt_t (by simp only [n8]; omega), decide_eq_true (show ¬ isFig s[i] from fun h => by unfold isFig at h; omega)]
      · rw [lt_f (by simp only [n8]; omega), decide_eq_false (show ¬ ¬ isFig s[i] from fun h => h (by unfold isFig; omega))]
  have key := loop_scan (f := f) (fun i => (false, (i : Int), ())) s.length (fun i => ∀ h : i < s.length, isFig s[i]) (false, ()) 0 ?_ ?_ ?_
  · rcases key with ⟨hall, hr⟩ | ⟨⟨i, hi, hn⟩, hr⟩
    · rw [show (false, ((0 : Nat) : Int), ()) = (false, (0 : Int), ()) from rfl] at hr
      rw [hr, decide_eq_true (figs_iff.2 hall)]; rfl
    · rw [show (false, ((0 : Nat) : Int), ()) = (false, (0 : Int), ()) from rfl] at hr
      rw [hr, decide_eq_false (fun hc => hn (figs_iff.1 hc i hi))]; rfl
  · intro i hi hp
    subst hf
    refine (sel_of_t (lt_t (by simp only [len]; omega))).trans ?_
    refine (ck_of (inB_nat hi)).trans ?_
    refine (ob_of (cond i hi)).trans ?_
    refine (sel_of_f (decide_eq_false (fun h => h (hp i (Nat.le_refl _) hi)))).trans ?_
    have c : i64 (iadd (i : Int) 1) = ((i + 1 : Nat) : Int) := i64_add (b := 1) (by omega)
    simp only [c]
  · intro i hi _ hp
    subst hf
    refine (sel_of_t (lt_t (by simp only [len]; omega))).trans ?_
    refine (ck_of (inB_nat hi)).trans ?_
    refine (ob_of (cond i hi)).trans ?_
    exact sel_of_t (decide_eq_true (fun h => hp fun _ => h))
  · intro _; subst hf; exact sel_of_f (lt_f (by simp only [len]; omega))
theorem ref01_Value_spec (s : List UInt8) (hl : s.length ≤ 1000000) : ref01_Value (s, ()) = some (if 1 ≤ s.length ∧ s.length ≤ 18 ∧ figs s then ((val s : Int), 0, ()) else (0, 2, ())) := by
  unfold ref01_Value
  by_cases h1 : s.length < 1
  · refine (ob_of (sel_of_t (lt_t (by simp only [len]; omega)))).trans ?_
    rw [if_neg (by omega)]; rfl
  by_cases h2 : 18 < s.length
  · refine (ob_of ((sel_of_f (lt_f (by simp only [len]; omega))).trans (sel_of_t (lt_t (by simp only [len]; omega))))).trans ?_
    rw [if_neg (by omega)]; rfl
  refine (ob_of (a := (bnot (decide (figs s)), ())) ?_).trans ?_
  · refine (sel_of_f (lt_f (by simp only [len]; omega))).trans ?_
    refine (sel_of_f (lt_f (by simp only [len]; omega))).trans ?_
    exact ob_of (ref01_Figures_spec s hl)
  by_cases h3 : figs s
  rotate_left
  · refine (sel_of_t (by simp only [decide_eq_false h3, bnot, Bool.not_false])).trans ?_
    rw [if_neg (fun h => h3 h.2.2)]
  refine (sel_of_f (by simp only [decide_eq_true h3, bnot, Bool.not_true])).trans ?_
  rw [if_pos ⟨by omega, by omega, h3⟩]
  generalize hf : (fun (x : Int × Int × Unit) => _) = f
  have key := loop_scan (f := f) (fun i => (((val (s.take i) * 10 ^ (s.length - i) : Nat) : Int), (i : Int), ())) s.length (fun _ => True) (0, 2, ()) 0 ?_ ?_ ?_
  · have e0 : (((val (s.take 0) * 10 ^ (s.length - 0) : Nat) : Int), ((0 : Nat) : Int), ()) = ((0 : Int), (0 : Int), ()) := by simp [val]
    rw [e0] at key
    rcases key with ⟨_, hr⟩ | ⟨⟨i, hi, hn⟩, hr⟩
    · rw [hr]
      show some (((val (s.take s.length) * 10 ^ (s.length - s.length) : Nat) : Int), (0 : Int), ()) = _
      rw [List.take_length]; simp
    · exact absurd trivial hn
  · intro i hi _
    subst hf
    refine (sel_of_t (lt_t (by simp only [len]; omega))).trans ?_
    refine (ck_of (inB_nat hi)).trans ?_
    have c1 : i64 (isub (i64 (isub (len s) 1)) (i : Int)) = ((s.length - 1 - i : Nat) : Int) := by
      have : i64 (isub (len s) 1) = ((s.length - 1 : Nat) : Int) := i64_sub (b := 1) (by omega) (by omega)
      rw [this, i64_sub (by omega) (by omega)]
    have hb := pow18 (i := s.length - 1 - i) (by omega)
    have c2 : ref01_power (10, ((s.length - 1 - i : Nat) : Int), ()) = some (((10 ^ (s.length - 1 - i) : Nat) : Int), ()) := ref01_power_spec 10 _ (by omega) (by omega) (by omega)
    have c3 := h3 i hi
    have c4 : i64 (isub (i64 (n8 (nth s (nat (i : Int)) (u8 0)))) 48) = ((s[i].toNat - 48 : Nat) : Int) := by
      rw [nat_nat, nth_get hi]
      have h256 := n8_lt s[i]
      have : i64 (n8 s[i]) = ((s[i].toNat : Nat) : Int) := i64_nat (by omega)
      rw [this]
      exact i64_sub (b := 48) c3.1 (by omega)
    simp only [c1, c2]
    refine (ob_of rfl).trans ?_
    have hv := val_lt (s := s) (i + 1) (by omega) (fun j hj h => h3 j h)
    have hp : 10 ^ (i + 1) * 10 ^ (s.length - (i + 1)) ≤ 1000000000000000000 := by
      rw [← Nat.pow_add]; exact pow18 (by omega)
    rw [val_take hi] at hv
    have e1 : s.length - i = (s.length - (i + 1)) + 1 := by omega
    have e2 : s.length - 1 - i = s.length - (i + 1) := by omega
    have hm : (10 * val (s.take i) + (s[i].toNat - 48)) * 10 ^ (s.length - (i + 1)) ≤ 10 ^ (i + 1) * 10 ^ (s.length - (i + 1)) := Nat.mul_le_mul_right _ (by omega)
    have hs : val (s.take i) * 10 ^ (s.length - i) + (s[i].toNat - 48) * 10 ^ (s.length - (i + 1)) = (10 * val (s.take i) + (s[i].toNat - 48)) * 10 ^ (s.length - (i + 1)) := by
      rw [e1, Nat.pow_succ, Nat.add_mul]; congr 1
      rw [Nat.mul_comm (10 ^ _) 10, ← Nat.mul_assoc, Nat.mul_comm (val _) 10]
    simp only [c4, e2]
    rw [i64_mul (by omega), i64_add (by omega), hs, val_take hi]
    have c : i64 (iadd (i : Int) 1) = ((i + 1 : Nat) : Int) := i64_add (b := 1) (by omega)
    rw [c]
  · intro i _ _ h; exact absurd trivial h
  · intro _; subst hf; exact sel_of_f (lt_f (by simp only [len]; omega))
end Yp
namespace Yp
open Go
theorem ps_get {B : Nat} {g : Nat → UInt8} {v : Nat} : ∀ {n j : Nat} (h : j < (ps B g v n).length), (ps B g v n)[j] = g (v / B ^ (n - 1 - j) % B)
  | 0, j, h => by simp [ps] at h
  | n + 1, 0, h => by simp [ps]
  | n + 1, j + 1, h => by
    simp only [ps, List.getElem_cons_succ]
    rw [ps_get]
    have : n - 1 - j = n + 1 - 1 - (j + 1) := by omega
    rw [this]
theorem ref01_Digits_spec (v w : Int) (hv : v ≤ 9223372036854775807) : ref01_Digits (v, w, ()) = some (if 1 ≤ w ∧ w ≤ 18 ∧ 0 ≤ v ∧ v < 10 ^ w.toNat then (ps 10 dch v.toNat w.toNat, 0, ()) else ([], 1, ())) := by
  unfold ref01_Digits
  by_cases h1 : w < 1
  · rw [if_neg (by omega)]; simp [sel, ob, lt, h1, none']
  by_cases h2 : 18 < w
  · rw [if_neg (by omega)]; simp [sel, ob, lt, h1, h2, none']
  by_cases h3 : v < 0
  · rw [if_neg (by omega)]; simp [sel, ob, lt, h1, h2, h3, none']
  obtain ⟨n, rfl⟩ : ∃ n : Nat, w = n := ⟨w.toNat, by omega⟩
  obtain ⟨V, rfl⟩ : ∃ n : Nat, v = n := ⟨v.toNat, by omega⟩
  have hpw : ∀ i : Nat, i ≤ 18 → ref01_power (10, (i : Int), ()) = some (((10 ^ i : Nat) : Int), ()) := fun i hi => by
    have := pow18 hi
    exact ref01_power_spec 10 i (by omega) (by omega) (by omega)
  refine (ob_of (a := (decide (10 ^ n ≤ V), ())) ?_).trans ?_
  · refine (sel_of_f (lt_f h1)).trans ?_
    refine (sel_of_f (lt_f h2)).trans ?_
    refine (sel_of_f (lt_f h3)).trans ?_
    refine (ob_of (hpw n (by omega))).trans ?_
    show some (le ((10 ^ n : Nat) : Int) (V : Int), ()) = _
    rw [le_nat]
  have hp : ((10 : Int) ^ n) = ((10 ^ n : Nat) : Int) := (Int.natCast_pow 10 n).symm
  by_cases hle : 10 ^ n ≤ V
  · refine (sel_of_t (decide_eq_true hle)).trans ?_
    rw [if_neg]; · rfl
    intro h
    have := h.2.2.2
    rw [Int.toNat_natCast, hp] at this
    omega
  refine (sel_of_f (decide_eq_false hle)).trans ?_
  rw [if_pos ⟨by omega, by omega, by omega, by rw [Int.toNat_natCast, hp]; omega⟩]
  simp only [Int.toNat_natCast]
  have e0 : i64 (isub (n : Int) 1) = (n : Int) - 1 := i64_of (by simp only [isub]; omega) (by simp only [isub]; omega)
  rw [e0]
  generalize hf : (fun (x : List UInt8 × Int × Unit) => _) = f
  have key := loop_scan (f := f) (fun j => ((ps 10 dch V n).take j, (n : Int) - 1 - j, ())) n (fun _ => True) ([], 0, ()) 0 ?_ ?_ ?_
  · have e0 : ((ps 10 dch V n).take 0, (n : Int) - 1 - (0 : Nat), ()) = (none' UInt8, (n : Int) - 1, ()) := by simp [none']
    rw [e0] at key
    rcases key with ⟨_, hr⟩ | ⟨⟨i, hi, hn⟩, hr⟩
    · rw [hr]
      show some ((ps 10 dch V n).take n, (0 : Int), ()) = _
      rw [List.take_of_length_le (by rw [ps_length]; omega)]
    · exact absurd trivial hn
  · intro i hi _
    subst hf
    have e1 : (n : Int) - 1 - i = ((n - 1 - i : Nat) : Int) := by omega
    refine (sel_of_t (le_t (show (0 : Int) ≤ (n : Int) - 1 - i by omega))).trans ?_
    simp only [e1]
    refine (ob_of (hpw (n - 1 - i) (by omega))).trans ?_
    have hpos : 0 < 10 ^ (n - 1 - i) := Nat.pow_pos (by omega)
    have c1 : bnot (beq ((10 ^ (n - 1 - i) : Nat) : Int) 0) = true := by rw [beq_f (by omega)]; rfl
    refine (ck_of c1).trans ?_
    have c2 : u8 (i64 (iadd 48 (imod (i64 (idiv (V : Int) ((10 ^ (n - 1 - i) : Nat) : Int))) 10))) = dch (V / 10 ^ (n - 1 - i) % 10) := by
      rw [i64_div (by omega), show (10 : Int) = ((10 : Nat) : Int) from rfl, imod_nat]
      have : V / 10 ^ (n - 1 - i) % 10 < 10 := Nat.mod_lt _ (by omega)
      rw [show (48 : Int) = ((48 : Nat) : Int) from rfl, i64_add (by omega), u8_nat']; rfl
    have hj : i < (ps 10 dch V n).length := by rw [ps_length]; exact hi
    have c3 : (ps 10 dch V n)[i] = dch (V / 10 ^ (n - 1 - i) % 10) := ps_get hj
    have c4 : i64 (isub ((n - 1 - i : Nat) : Int) 1) = (n : Int) - 1 - ((i + 1 : Nat) : Int) := by
      rw [i64_of (by simp only [isub]; omega) (by simp only [isub]; omega)]; simp only [isub]; omega
    simp only [c2, c4]
    refine (ck_of (rm_t ?_)).trans ?_
    · simp only [nadd, ln, List.length_take, List.length_cons, List.length_nil]; omega
    rw [List.take_succ_eq_append_getElem hj, c3]; rfl
  · intro i _ _ h; exact absurd trivial h
  · intro _; subst hf
    exact sel_of_f (le_f (show ¬ (0 : Int) ≤ (n : Int) - 1 - n by omega))
end Yp
namespace Yp
open Go
def dv (c : UInt8) : Nat := c.toNat - 48
def pad (s : List UInt8) : List UInt8 := if s.length % 2 = 1 then 48 :: s else s
def dat (p : List UInt8) (t : Nat) : Nat := dv (nth p t (u8 0))
def bcdAt (p : List UInt8) (a j : Nat) : UInt8 := if 2 * j + 1 < a then UInt8.ofNat (16 * dat p (2 * j) + dat p (2 * j + 1)) else if 2 * j < a then UInt8.ofNat (dat p (2 * j)) else u8 0
def bcd (p : List UInt8) : List UInt8 := (List.range (p.length / 2)).map fun j => UInt8.ofNat (16 * dat p (2 * j) + dat p (2 * j + 1))
theorem pad_length (s : List UInt8) : (pad s).length = 2 * ((s.length + 1) / 2) := by
  unfold pad
  split
  · simp only [List.length_cons]; omega
  · omega
theorem pad_get {s : List UInt8} {i : Nat} (h : i < s.length) : nth (pad s) (s.length % 2 + i) (u8 0) = s[i] := by
  unfold pad nth
  split
  · rename_i h1; rw [h1, Nat.add_comm]; simp [h]
  · rename_i h1
    have : s.length % 2 = 0 := by omega
    rw [this, Nat.zero_add]; simp [h]
theorem dig_split {c : UInt8} (h : isFig c) : c = UInt8.ofNat (48 + dv c) ∧ dv c < 10 := by
  unfold isFig at h
  refine ⟨?_, by unfold dv; omega⟩
  apply UInt8.toNat_inj.1
  simp only [UInt8.toNat_ofNat', dv]; omega
theorem shl_or : ∀ x : Nat, x < 10 → ∀ d : Nat, d < 10 → u8 (orI .u8 (n8 (u8 (shlI .u8 (n8 (UInt8.ofNat x)) (n64 (u64 4))))) (n8 (u8 (d : Int)))) = UInt8.ofNat (16 * x + d) := by decide +kernel
theorem or0 : ∀ d : Nat, d < 10 → u8 (orI .u8 (n8 (u8 (shlI .u8 (n8 (u8 0)) (n64 (u64 4))))) (n8 (u8 (d : Int)))) = UInt8.ofNat d := by decide +kernel
theorem pad_fig {s : List UInt8} {a : Nat} (hf : ∀ j, j < a - s.length % 2 → ∀ h : j < s.length, isFig s[j]) (ha : a ≤ (pad s).length) : ∀ t, t < a → dat (pad s) t < 10 := by
  intro t ht
  have hl := pad_length s
  unfold dat
  by_cases h : t < s.length % 2
  · have h1 : s.length % 2 = 1 := by omega
    have h0 : t = 0 := by omega
    subst h0
    unfold pad; rw [if_pos h1]
    show dv 48 < 10
    decide
  · have e : t = s.length % 2 + (t - s.length % 2) := by omega
    have hi : t - s.length % 2 < s.length := by omega
    rw [e, pad_get hi]
    exact (dig_split (hf _ (by omega) hi)).2
theorem dig_Bcd_spec (s : List UInt8) (hl : s.length ≤ 1000000) : dig_Bcd (s, ()) = some (if figs s then (bcd (pad s), 0, ()) else ([], 2, ())) := by
  unfold dig_Bcd
  have k1 : i64 (idiv (i64 (iadd (len s) 1)) 2) = (((s.length + 1) / 2 : Nat) : Int) := by
    rw [len_nat, show i64 (iadd ((s.length : Nat) : Int) 1) = ((s.length + 1 : Nat) : Int) from i64_add (b := 1) (by omega)]
    exact i64_div (b := 2) (by omega)
  have k2 : imod (len s) 2 = ((s.length % 2 : Nat) : Int) := imod_nat (b := 2)
  simp only [k1, k2, nat_nat]
  generalize hk : (s.length + 1) / 2 = k
  have hpl := pad_length s
  rw [hk] at hpl
  refine (ck_of ?_).trans ?_
  · simp only [band, Bool.and_eq_true]
    exact ⟨inC_t (by omega) (by omega) (by omega), rm_t (by omega)⟩
  generalize hf : (fun (x : Int × Int × Nat × List UInt8 × Unit) => _) = f
  have key := loop_scan (f := f) (fun i => (0, ((s.length % 2 + i : Nat) : Int), i, (List.range k).map (bcdAt (pad s) (s.length % 2 + i)), ())) s.length (fun i => ∀ h : i < s.length, isFig s[i]) ([], 2, ()) 0 ?_ ?_ ?_
  · have e0 : ((0 : Int), ((s.length % 2 + 0 : Nat) : Int), 0, (List.range k).map (bcdAt (pad s) (s.length % 2 + 0)), ()) = ((0 : Int), ((s.length % 2 : Nat) : Int), 0, rep k (u8 0), ()) := by
      have : (List.range k).map (bcdAt (pad s) (s.length % 2 + 0)) = rep k (u8 0) := by
        apply List.ext_getElem
        · simp [rep]
        · intro j h1 h2
          simp only [List.getElem_map, List.getElem_range, rep, List.getElem_replicate, bcdAt]
          rw [if_neg (by omega)]
          split
          · rename_i h3
            have h4 : s.length % 2 = 1 := by omega
            have h5 : j = 0 := by omega
            subst h5
            unfold pad; rw [if_pos h4]
            show UInt8.ofNat (dv 48) = u8 0
            decide
          · rfl
      rw [this]; rfl
    rw [e0] at key
    rcases key with ⟨hall, hr⟩ | ⟨⟨i, hi, hn⟩, hr⟩
    · rw [hr, if_pos (figs_iff.2 hall)]
      have : (List.range k).map (bcdAt (pad s) (s.length % 2 + s.length)) = bcd (pad s) := by
        unfold bcd
        rw [hpl, show 2 * k / 2 = k by omega]
        apply List.map_congr_left
        intro j hj
        have := List.mem_range.1 hj
        unfold bcdAt
        rw [if_pos (by omega)]
      rw [this]; rfl
    · rw [hr, if_neg (fun hc => hn (figs_iff.1 hc i hi))]; rfl
  · intro i hi hp
    subst hf
    obtain ⟨e1, e2⟩ := fig_step hi (hp i (Nat.le_refl _) hi)
    refine (sel_of_t (nlt_t hi)).trans ?_
    refine (ob_of e1).trans ?_
    refine (sel_of_f rfl).trans ?_
    have hd := (dig_split (hp i (Nat.le_refl _) hi)).2
    generalize ha : s.length % 2 + i = a
    have hlt10 := pad_fig (s := s) (a := a + 1) (fun j hj => hp j (by omega)) (by omega)
    have hda : dat (pad s) a = s[i].toNat - 48 := by unfold dat; rw [← ha, pad_get hi]; rfl
    have c1 : i64 (idiv ((a : Nat) : Int) 2) = ((a / 2 : Nat) : Int) := i64_div (b := 2) (by omega)
    have c2 : i64 (iadd ((a : Nat) : Int) 1) = ((a + 1 : Nat) : Int) := i64_add (b := 1) (by omega)
    have hq : a / 2 < ((List.range k).map (bcdAt (pad s) a)).length := by simp; omega
    simp only [ha, c1, c2, e2, nat_nat]
    refine (ck_of (inB_nat hq)).trans ?_
    refine (ck_of (inB_nat hq)).trans ?_
    have e3 : s.length % 2 + (i + 1) = a + 1 := by omega
    have hv : u8 (orI .u8 (n8 (u8 (shlI .u8 (n8 (nth ((List.range k).map (bcdAt (pad s) a)) (a / 2) (u8 0))) (n64 (u64 4))))) (n8 (u8 ((s[i].toNat - 48 : Nat) : Int)))) = bcdAt (pad s) (a + 1) (a / 2) := by
      rw [nth_get hq, List.getElem_map, List.getElem_range, ← hda]
      unfold bcdAt
      rw [if_neg (by omega)]
      by_cases hpar : a % 2 = 0
      · rw [if_neg (by omega), if_neg (by omega), if_pos (by omega), or0 _ (hlt10 a (by omega)), show 2 * (a / 2) = a by omega]
      · rw [if_pos (by omega), if_pos (by omega), shl_or _ (hlt10 _ (by omega)) _ (hlt10 a (by omega)), show 2 * (a / 2) + 1 = a by omega]
    simp only [hv, e3]
    have hset : upd ((List.range k).map (bcdAt (pad s) a)) (a / 2) (bcdAt (pad s) (a + 1) (a / 2)) = (List.range k).map (bcdAt (pad s) (a + 1)) := by
      unfold upd
      apply List.ext_getElem
      · simp
      · intro j h1 h2
        rw [List.getElem_set]
        simp only [List.getElem_map, List.getElem_range]
        split
        · rename_i h3; rw [h3]
        · unfold bcdAt
          by_cases h4 : 2 * j + 1 < a
          · rw [if_pos h4, if_pos (by omega)]
          · rw [if_neg h4]
            by_cases h5 : 2 * j < a
            · rw [if_pos h5, if_neg (by omega), if_pos (by omega)]
            · rw [if_neg h5, if_neg (by omega), if_neg (by omega)]
    rw [hset]; rfl
  · intro i hi _ hp
    subst hf
    have : ¬ isFig s[i] := fun h => hp fun _ => h
    obtain ⟨q, e1⟩ := fig_not hi this
    refine (sel_of_t (nlt_t hi)).trans ?_
    refine (ob_of e1).trans ?_
    rfl
  · intro _
    subst hf
    exact sel_of_f (nlt_f (Nat.lt_irrefl _))
theorem ref_pair : ∀ x, x < 10 → ∀ y, y < 10 → u8 (isub (n8 (u8 (iadd (n8 (u8 (imul (n8 (u8 16)) (n8 (u8 (isub (n8 (UInt8.ofNat (48 + x))) (n8 (u8 48)))))))) (n8 (UInt8.ofNat (48 + y)))))) (n8 (u8 48))) = UInt8.ofNat (16 * x + y) := by decide +kernel
theorem ref01_Bcd_spec (s : List UInt8) (hl : s.length ≤ 1000000) : ref01_Bcd (s, ()) = some (if figs s then (bcd (pad s), 0, ()) else ([], 2, ())) := by
  unfold ref01_Bcd
  refine (ob_of (ref01_Figures_spec s hl)).trans ?_
  by_cases h3 : figs s
  rotate_left
  · refine (sel_of_t (by simp only [decide_eq_false h3, bnot, Bool.not_false])).trans ?_
    rw [if_neg h3]; rfl
  refine (sel_of_f (by simp only [decide_eq_true h3, bnot, Bool.not_true])).trans ?_
  rw [if_pos h3]
  refine (ob_of (a := (pad s, ())) ?_).trans ?_
  · have k2 : imod (len s) 2 = ((s.length % 2 : Nat) : Int) := imod_nat (b := 2)
    simp only [k2]
    unfold pad
    by_cases h : s.length % 2 = 1
    · rw [if_pos h]
      refine (sel_of_t (beq_t (by omega))).trans ?_
      refine (ck_of (le_t ?_)).trans rfl
      simp only [iadd, len, List.length_cons, List.length_nil]; omega
    · rw [if_neg h]
      refine (sel_of_f (beq_f (by omega)))
  have hpl := pad_length s
  have hfig : ∀ t, (ht : t < (pad s).length) → isFig (pad s)[t] := by
    intro t ht
    by_cases h : s.length % 2 = 1
    · have e : pad s = 48 :: s := by unfold pad; rw [if_pos h]
      simp only [e] at ht ⊢
      cases t with
      | zero => exact (by decide : isFig 48)
      | succ t => exact h3 t (by simpa using ht)
    · have e : pad s = s := by unfold pad; rw [if_neg h]
      simp only [e] at ht ⊢
      exact h3 t ht
  have hpl' : (pad s).length ≤ 1000001 := by omega
  generalize pad s = p at *
  generalize hk : (s.length + 1) / 2 = k at *
  generalize hf : (fun (x : List UInt8 × Int × Unit) => _) = f
  have key := loop_scan (f := f) (fun j => ((bcd p).take j, ((2 * j : Nat) : Int), ())) k (fun _ => True) ([], 0, ()) 0 ?_ ?_ ?_
  · rcases key with ⟨_, hr⟩ | ⟨⟨i, hi, hn⟩, hr⟩
    · have e0 : ((bcd p).take 0, ((2 * 0 : Nat) : Int), ()) = (none' UInt8, (0 : Int), ()) := by simp [none']
      rw [e0] at hr
      rw [hr]
      show some ((bcd p).take k, (0 : Int), ()) = _
      rw [List.take_of_length_le (by simp [bcd]; omega)]
    · exact absurd trivial hn
  · intro i hi _
    subst hf
    refine (sel_of_t (lt_t (show ((2 * i : Nat) : Int) < len p by simp only [len]; omega))).trans ?_
    have h0 : 2 * i < p.length := by omega
    have h1 : 2 * i + 1 < p.length := by omega
    have c1 : i64 (iadd ((2 * i : Nat) : Int) 1) = ((2 * i + 1 : Nat) : Int) := i64_add (b := 1) (by omega)
    have c2 : i64 (iadd ((2 * i : Nat) : Int) 2) = ((2 * (i + 1) : Nat) : Int) := i64_add (b := 2) (by omega)
    simp only [c1, c2, nat_nat]
    refine (ck_of (inB_nat h0)).trans ?_
    refine (ck_of (inB_nat h1)).trans ?_
    refine (ck_of (rm_t ?_)).trans ?_
    · simp only [nadd, ln, List.length_take, List.length_cons, List.length_nil, bcd, List.length_map, List.length_range]; omega
    have hj : i < (bcd p).length := by simp [bcd]; omega
    have hg : (bcd p)[i] = UInt8.ofNat (16 * dat p (2 * i) + dat p (2 * i + 1)) := by simp [bcd]
    rw [List.take_succ_eq_append_getElem hj, hg, nth_get h0, nth_get h1]
    obtain ⟨a1, a2⟩ := dig_split (hfig _ h0)
    obtain ⟨b1, b2⟩ := dig_split (hfig _ h1)
    have hv := ref_pair _ a2 _ b2
    rw [← a1, ← b1] at hv
    have d1 : dat p (2 * i) = dv p[2 * i] := by unfold dat; rw [nth_get h0]
    have d2 : dat p (2 * i + 1) = dv p[2 * i + 1] := by unfold dat; rw [nth_get h1]
    rw [hv, d1, d2]; rfl
  · intro i _ _ h; exact absurd trivial h
  · intro _; subst hf
    exact sel_of_f (lt_f (show ¬ ((2 * k : Nat) : Int) < len p by simp only [len]; omega))
end Yp
namespace Yp
open Go
theorem figs_ps {v : Nat} : ∀ {n : Nat}, figs (ps 10 dch v n)
  | n => by
    intro i hi
    rw [ps_get]
    have h10 : v / 10 ^ (n - 1 - i) % 10 < 10 := Nat.mod_lt _ (by omega)
    generalize v / 10 ^ (n - 1 - i) % 10 = d at *
    unfold isFig dch
    simp only [UInt8.toNat_ofNat']; omega
theorem pad_even {s : List UInt8} (h : s.length % 2 = 0) : pad s = s := by unfold pad; rw [if_neg (by omega)]
end Yp
namespace Yp
open Go
def nib (d : Nat) : UInt8 := nth hexs d (u8 0)
def hexOf (b : List UInt8) : List UInt8 := b.flatMap fun x => [nib (x.toNat / 16), nib (x.toNat % 16)]
theorem hexOf_length (b : List UInt8) : (hexOf b).length = 2 * b.length := by
  induction b with
  | nil => rfl
  | cons x r ih =>
    have : hexOf (x :: r) = [nib (x.toNat / 16), nib (x.toNat % 16)] ++ hexOf r := rfl
    rw [this, List.length_append, ih]; simp; omega
theorem hexOf_app (a b : List UInt8) : hexOf (a ++ b) = hexOf a ++ hexOf b := by simp [hexOf]
theorem ofNat_toNat (c : UInt8) : UInt8.ofNat c.toNat = c := by
  apply UInt8.toNat_inj.1; simp
theorem all8 {p : UInt8 → Prop} (h : ∀ n, n < 256 → p (UInt8.ofNat n)) (c : UInt8) : p c := by
  have := h c.toNat c.toNat_lt
  rwa [ofNat_toNat] at this
theorem hi_ok : ∀ c : UInt8, inB (n8 (u8 (shrI IntKind.u8 (n8 c) (n64 (u64 4))))) (len [48, 49, 50, 51, 52, 53, 54, 55, 56, 57, 97, 98, 99, 100, 101, 102]) = true ∧
    nth [48, 49, 50, 51, 52, 53, 54, 55, 56, 57, 97, 98, 99, 100, 101, 102] (nat (n8 (u8 (shrI IntKind.u8 (n8 c) (n64 (u64 4)))))) (u8 0) = nib (c.toNat / 16) := all8 (by decide +kernel)
theorem lo_ok : ∀ c : UInt8, inB (n8 (u8 (andI IntKind.u8 (n8 c) (n8 (u8 15))))) (len [48, 49, 50, 51, 52, 53, 54, 55, 56, 57, 97, 98, 99, 100, 101, 102]) = true ∧
    nth [48, 49, 50, 51, 52, 53, 54, 55, 56, 57, 97, 98, 99, 100, 101, 102] (nat (n8 (u8 (andI IntKind.u8 (n8 c) (n8 (u8 15)))))) (u8 0) = nib (c.toNat % 16) := all8 (by decide +kernel)
theorem dig_Hex_spec (b : List UInt8) (hl : b.length ≤ 1000000) : dig_Hex (b, ()) = some (hexOf b, ()) := by
  unfold dig_Hex
  have k1 : i64 (imul 2 (len b)) = ((2 * b.length : Nat) : Int) := i64_mul (a := 2) (by omega)
  simp only [k1, nat_nat]
  refine (ck_of ?_).trans ?_
  · simp only [band, Bool.and_eq_true]
    exact ⟨inC_t (by omega) (by omega) (by omega), rm_t (by omega)⟩
  generalize hf : (fun (x : List UInt8 × Int × Unit) => _) = f
  have key := loop_scan (f := f) (fun i => (hexOf (b.take i), (i : Int), ())) b.length (fun _ => True) ([], ()) 0 ?_ ?_ ?_
  · have e0 : (hexOf (b.take 0), ((0 : Nat) : Int), ()) = (rep (nat 0) (u8 0), (0 : Int), ()) := by simp [hexOf, rep, nat]
    rw [e0] at key
    rcases key with ⟨_, hr⟩ | ⟨⟨i, hi, hn⟩, hr⟩
    · rw [hr, List.take_length]; rfl
    · exact absurd trivial hn
  · intro i hi _
    subst hf
    refine (sel_of_t (lt_t (show (i : Int) < len b by simp only [len]; omega))).trans ?_
    refine (ck_of (inB_nat hi)).trans ?_
    have c : i64 (iadd (i : Int) 1) = ((i + 1 : Nat) : Int) := i64_add (b := 1) (by omega)
    simp only [nat_nat, nth_get hi, c]
    refine (ck_of (hi_ok _).1).trans ?_
    refine (ck_of (lo_ok _).1).trans ?_
    simp only [(hi_ok _).2, (lo_ok _).2]
    refine (ck_of (rm_t ?_)).trans ?_
    · simp only [nadd, ln, hexOf_length, List.length_take, List.length_cons, List.length_nil]; omega
    rw [List.take_succ_eq_append_getElem hi, hexOf_app]; rfl
  · intro i _ _ h; exact absurd trivial h
  · intro _; subst hf
    exact sel_of_f (lt_f (show ¬ ((b.length : Nat) : Int) < len b by simp only [len]; omega))
theorem s34_hi : ∀ c : UInt8, ref01_sign (u8 (idiv (n8 c) (n8 (u8 16))), ()) = some (nib (c.toNat / 16), ()) := all8 (by decide +kernel)
theorem s34_lo : ∀ c : UInt8, ref01_sign (u8 (imod (n8 c) (n8 (u8 16))), ()) = some (nib (c.toNat % 16), ()) := all8 (by decide +kernel)
theorem ref01_Hex_spec (b : List UInt8) (hl : b.length ≤ 1000000) : ref01_Hex (b, ()) = some (hexOf b, ()) := by
  unfold ref01_Hex
  generalize hf : (fun (x : List UInt8 × Int × Unit) => _) = f
  have key := loop_scan (f := f) (fun i => (hexOf (b.take i), (i : Int), ())) b.length (fun _ => True) ([], ()) 0 ?_ ?_ ?_
  · have e0 : (hexOf (b.take 0), ((0 : Nat) : Int), ()) = (none' UInt8, (0 : Int), ()) := by simp [hexOf, none']
    rw [e0] at key
    rcases key with ⟨_, hr⟩ | ⟨⟨i, hi, hn⟩, hr⟩
    · rw [hr, List.take_length]; rfl
    · exact absurd trivial hn
  · intro i hi _
    subst hf
    refine (sel_of_t (lt_t (show (i : Int) < len b by simp only [len]; omega))).trans ?_
    refine (ck_of (inB_nat hi)).trans ?_
    have c : i64 (iadd (i : Int) 1) = ((i + 1 : Nat) : Int) := i64_add (b := 1) (by omega)
    simp only [nat_nat, nth_get hi, c]
    refine (ob_of (s34_hi _)).trans ?_
    refine (ck_of (inB_nat hi)).trans ?_
    refine (ob_of (s34_lo _)).trans ?_
    refine (ck_of (rm_t ?_)).trans ?_
    · simp only [nadd, ln, hexOf_length, List.length_take, List.length_cons, List.length_nil]; omega
    rw [List.take_succ_eq_append_getElem hi, hexOf_app]; rfl
  · intro i _ _ h; exact absurd trivial h
  · intro _; subst hf
    exact sel_of_f (lt_f (show ¬ ((b.length : Nat) : Int) < len b by simp only [len]; omega))
def isHex (c : UInt8) : Prop := (48 ≤ c.toNat ∧ c.toNat ≤ 57) ∨ (97 ≤ c.toNat ∧ c.toNat ≤ 102)
instance (c : UInt8) : Decidable (isHex c) := inferInstanceAs (Decidable (_ ∨ _))
def hval (c : UInt8) : Nat := if c.toNat ≤ 57 then c.toNat - 48 else c.toNat - 87
def unh (s : List UInt8) : List UInt8 := (List.range (s.length / 2)).map fun j => UInt8.ofNat (16 * hval (nth s (2 * j) (u8 0)) + hval (nth s (2 * j + 1) (u8 0)))
def hexy (s : List UInt8) : Prop := ∀ (i : Nat) (h : i < s.length), isHex s[i]
instance (s : List UInt8) : Decidable (hexy s) := inferInstanceAs (Decidable (∀ (i : Nat) (h : i < s.length), isHex s[i]))
theorem dig_half_eq' : ∀ c : UInt8, dig_half (c, ()) = some (if isHex c then (UInt8.ofNat (hval c), true, ()) else (u8 0, false, ())) := all8 (by decide +kernel)
theorem ref01_worth_eq' : ∀ c : UInt8, ref01_worth (c, ()) = some (if isHex c then ((hval c : Nat) : Int) else 16, ()) := all8 (by decide +kernel)
theorem hval_lt : ∀ c : UInt8, isHex c → hval c < 16 := all8 (by decide +kernel)
theorem nib_or : ∀ x : Nat, x < 16 → ∀ y : Nat, y < 16 → u8 (orI IntKind.u8 (n8 (u8 (shlI IntKind.u8 (n8 (UInt8.ofNat x)) (n64 (u64 4))))) (n8 (UInt8.ofNat y))) = UInt8.ofNat (16 * x + y) := by decide +kernel
theorem hexy_of {s : List UInt8} {k : Nat} (h2 : s.length = 2 * k) : (∀ i, i < k → isHex (nth s (2 * i) (u8 0)) ∧ isHex (nth s (2 * i + 1) (u8 0))) ↔ hexy s := by
  constructor
  · intro h i hi
    have := h (i / 2) (by omega)
    by_cases hp : i % 2 = 0
    · have := this.1
      rw [show 2 * (i / 2) = i by omega, nth_get hi] at this; exact this
    · have := this.2
      rw [show 2 * (i / 2) + 1 = i by omega, nth_get hi] at this; exact this
  · intro h i hi
    rw [nth_get (by omega), nth_get (by omega)]
    exact ⟨h _ _, h _ _⟩
theorem dig_Unhex_spec (s : List UInt8) (hl : s.length ≤ 1000000) : dig_Unhex (s, ()) = some (if s.length % 2 = 0 ∧ hexy s then (unh s, 0, ()) else ([], 2, ())) := by
  unfold dig_Unhex
  have k2 : imod (len s) 2 = ((s.length % 2 : Nat) : Int) := imod_nat (b := 2)
  have k1 : i64 (idiv (len s) 2) = ((s.length / 2 : Nat) : Int) := i64_div (b := 2) (by omega)
  simp only [k1, k2, nat_nat]
  by_cases h : s.length % 2 = 0
  rotate_left
  · refine (sel_of_t (beq_t (by omega))).trans ?_
    rw [if_neg (fun hc => h hc.1)]; rfl
  refine (sel_of_f (beq_f (by omega))).trans ?_
  refine (ck_of ?_).trans ?_
  · simp only [band, Bool.and_eq_true]
    exact ⟨inC_t (by omega) (by omega) (by omega), rm_t (by omega)⟩
  generalize hk : s.length / 2 = k
  have h2 : s.length = 2 * k := by omega
  generalize hf : (fun (x : Int × List UInt8 × Int × Unit) => _) = f
  have key := loop_scan (f := f) (fun i => (0, (unh s).take i, ((2 * i : Nat) : Int), ())) k (fun i => isHex (nth s (2 * i) (u8 0)) ∧ isHex (nth s (2 * i + 1) (u8 0))) ([], 2, ()) 0 ?_ ?_ ?_
  · have e0 : ((0 : Int), (unh s).take 0, ((2 * 0 : Nat) : Int), ()) = ((0 : Int), rep (nat 0) (u8 0), (0 : Int), ()) := by simp [rep, nat]
    rw [e0] at key
    rcases key with ⟨hall, hr⟩ | ⟨⟨i, hi, hn⟩, hr⟩
    · rw [hr, if_pos ⟨h, (hexy_of h2).1 hall⟩, List.take_of_length_le (by simp [unh]; omega)]; rfl
    · rw [hr, if_neg (fun hc => hn ((hexy_of h2).2 hc.2 i hi))]; rfl
  · intro i hi hp
    subst hf
    obtain ⟨p0, p1⟩ := hp i (Nat.le_refl _)
    have h0 : 2 * i < s.length := by omega
    have h1 : 2 * i + 1 < s.length := by omega
    have c1 : i64 (iadd ((2 * i : Nat) : Int) 1) = ((2 * i + 1 : Nat) : Int) := i64_add (b := 1) (by omega)
    have c2 : i64 (iadd ((2 * i : Nat) : Int) 2) = ((2 * (i + 1) : Nat) : Int) := i64_add (b := 2) (by omega)
    refine (sel_of_t (lt_t (show ((2 * i : Nat) : Int) < len s by simp only [len]; omega))).trans ?_
    refine (ck_of (inB_nat h0)).trans ?_
    simp only [c1, c2, nat_nat, dig_half_eq', if_pos p0, if_pos p1]
    refine (ob_of rfl).trans ?_
    refine (ck_of (inB_nat h1)).trans ?_
    refine (ob_of rfl).trans ?_
    refine (ob_of (a := (false, ())) rfl).trans ?_
    refine (sel_of_f rfl).trans ?_
    refine (ck_of (rm_t ?_)).trans ?_
    · simp only [nadd, ln, List.length_take, List.length_cons, List.length_nil]
      have : (unh s).length = s.length / 2 := by simp [unh]
      omega
    have hj : i < (unh s).length := by simp [unh]; omega
    have hg : (unh s)[i] = UInt8.ofNat (16 * hval (nth s (2 * i) (u8 0)) + hval (nth s (2 * i + 1) (u8 0))) := by simp [unh]
    rw [List.take_succ_eq_append_getElem hj, hg]
    simp only [nib_or _ (hval_lt _ p0) _ (hval_lt _ p1)]; rfl
  · intro i hi _ hp
    subst hf
    have h0 : 2 * i < s.length := by omega
    have h1 : 2 * i + 1 < s.length := by omega
    have c1 : i64 (iadd ((2 * i : Nat) : Int) 1) = ((2 * i + 1 : Nat) : Int) := i64_add (b := 1) (by omega)
    refine (sel_of_t (lt_t (show ((2 * i : Nat) : Int) < len s by simp only [len]; omega))).trans ?_
    refine (ck_of (inB_nat h0)).trans ?_
    simp only [c1, nat_nat, dig_half_eq']
    refine (ob_of rfl).trans ?_
    refine (ck_of (inB_nat h1)).trans ?_
    refine (ob_of rfl).trans ?_
    refine (ob_of (a := (true, ())) ?_).trans ?_
    · by_cases q0 : isHex (nth s (2 * i) (u8 0))
      · rw [if_pos q0, if_neg (fun q1 => hp ⟨q0, q1⟩)]; rfl
      · rw [if_neg q0]; rfl
    exact sel_of_t rfl
  · intro _; subst hf
    exact sel_of_f (lt_f (show ¬ ((2 * k : Nat) : Int) < len s by simp only [len]; omega))
theorem ref01_Unhex_spec (s : List UInt8) (hl : s.length ≤ 1000000) : ref01_Unhex (s, ()) = some (if s.length % 2 = 0 ∧ hexy s then (unh s, 0, ()) else ([], 2, ())) := by
  unfold ref01_Unhex
  have k2 : imod (len s) 2 = ((s.length % 2 : Nat) : Int) := imod_nat (b := 2)
  simp only [k2]
  by_cases h : s.length % 2 = 0
  rotate_left
  · refine (sel_of_t (beq_t (by omega))).trans ?_
    rw [if_neg (fun hc => h hc.1)]; rfl
  refine (sel_of_f (beq_f (by omega))).trans ?_
  generalize hk : s.length / 2 = k
  have h2 : s.length = 2 * k := by omega
  generalize hf : (fun (x : Int × List UInt8 × Int × Unit) => _) = f
  have key := loop_scan (f := f) (fun i => (0, (unh s).take i, ((2 * i : Nat) : Int), ())) k (fun i => isHex (nth s (2 * i) (u8 0)) ∧ isHex (nth s (2 * i + 1) (u8 0))) ([], 2, ()) 0 ?_ ?_ ?_
  · have e0 : ((0 : Int), (unh s).take 0, ((2 * 0 : Nat) : Int), ()) = ((0 : Int), none' UInt8, (0 : Int), ()) := by simp [none']
    rw [e0] at key
    rcases key with ⟨hall, hr⟩ | ⟨⟨i, hi, hn⟩, hr⟩
    · rw [hr, if_pos ⟨h, (hexy_of h2).1 hall⟩, List.take_of_length_le (by simp [unh]; omega)]; rfl
    · rw [hr, if_neg (fun hc => hn ((hexy_of h2).2 hc.2 i hi))]; rfl
  · intro i hi hp
    subst hf
    obtain ⟨p0, p1⟩ := hp i (Nat.le_refl _)
    have h0 : 2 * i < s.length := by omega
    have h1 : 2 * i + 1 < s.length := by omega
    have c1 : i64 (iadd ((2 * i : Nat) : Int) 1) = ((2 * i + 1 : Nat) : Int) := i64_add (b := 1) (by omega)
    have c2 : i64 (iadd ((2 * i : Nat) : Int) 2) = ((2 * (i + 1) : Nat) : Int) := i64_add (b := 2) (by omega)
    have g0 := hval_lt _ p0
    have g1 := hval_lt _ p1
    refine (sel_of_t (lt_t (show ((2 * i : Nat) : Int) < len s by simp only [len]; omega))).trans ?_
    refine (ck_of (inB_nat h0)).trans ?_
    simp only [c1, c2, nat_nat, ref01_worth_eq', if_pos p0, if_pos p1]
    refine (ob_of rfl).trans ?_
    refine (ck_of (inB_nat h1)).trans ?_
    refine (ob_of rfl).trans ?_
    refine (ob_of (a := (false, ())) ?_).trans ?_
    · refine (sel_of_f (lt_f (by omega))).trans ?_
      exact congrArg (fun b => some (b, ())) (lt_f (by omega))
    refine (sel_of_f rfl).trans ?_
    refine (ck_of (rm_t ?_)).trans ?_
    · simp only [nadd, ln, List.length_take, List.length_cons, List.length_nil]
      have : (unh s).length = s.length / 2 := by simp [unh]
      omega
    have hj : i < (unh s).length := by simp [unh]; omega
    have hg : (unh s)[i] = UInt8.ofNat (16 * hval (nth s (2 * i) (u8 0)) + hval (nth s (2 * i + 1) (u8 0))) := by simp [unh]
    have c3 : i64 (iadd (i64 (imul 16 ((hval (nth s (2 * i) (u8 0)) : Nat) : Int))) ((hval (nth s (2 * i + 1) (u8 0)) : Nat) : Int)) = ((16 * hval (nth s (2 * i) (u8 0)) + hval (nth s (2 * i + 1) (u8 0)) : Nat) : Int) := by
      rw [show i64 (imul 16 ((hval (nth s (2 * i) (u8 0)) : Nat) : Int)) = ((16 * hval (nth s (2 * i) (u8 0)) : Nat) : Int) from i64_mul (a := 16) (by omega)]
      exact i64_add (by omega)
    rw [List.take_succ_eq_append_getElem hj, hg]
    simp only [c3, u8_nat']; rfl
  · intro i hi _ hp
    subst hf
    have h0 : 2 * i < s.length := by omega
    have h1 : 2 * i + 1 < s.length := by omega
    have c1 : i64 (iadd ((2 * i : Nat) : Int) 1) = ((2 * i + 1 : Nat) : Int) := i64_add (b := 1) (by omega)
    refine (sel_of_t (lt_t (show ((2 * i : Nat) : Int) < len s by simp only [len]; omega))).trans ?_
    refine (ck_of (inB_nat h0)).trans ?_
    simp only [c1, nat_nat, ref01_worth_eq']
    refine (ob_of rfl).trans ?_
    refine (ck_of (inB_nat h1)).trans ?_
    refine (ob_of rfl).trans ?_
    refine (ob_of (a := (true, ())) ?_).trans ?_
    · by_cases q0 : isHex (nth s (2 * i) (u8 0))
      · rw [if_pos q0, if_neg (fun q1 => hp ⟨q0, q1⟩)]
        have := hval_lt _ q0
        refine (sel_of_f (lt_f (by omega))).trans ?_
        exact congrArg (fun b => some (b, ())) (lt_t (by omega))
      · rw [if_neg q0]
        exact sel_of_t (lt_t (by omega))
    exact sel_of_t rfl
  · intro _; subst hf
    exact sel_of_f (lt_f (show ¬ ((2 * k : Nat) : Int) < len s by simp only [len]; omega))
end Yp
namespace Yp
open Go
def tk (b : List UInt8) (A W : Nat) : List UInt8 := (b.drop A).take W
theorem tk_length {b : List UInt8} {A W : Nat} (h : A + W ≤ b.length) : (tk b A W).length = W := by simp [tk]; omega
theorem tk_get {b : List UInt8} {A W i : Nat} (h : i < (tk b A W).length) (h' : A + i < b.length) : (tk b A W)[i] = b[A + i] := by simp [tk]
theorem sub_tk {b : List UInt8} {A W : Nat} : sub b (A : Int) ((A + W : Nat) : Int) = tk b A W := by
  unfold sub tk
  rw [Int.toNat_natCast, Int.toNat_natCast, show A + W - A = W by omega]
end Yp
namespace Yp
open Go
def takeBcd (b : List UInt8) (at' n : Int) : List UInt8 × Int × Int × Unit :=
  if n < 0 ∨ 999 < n ∨ at' < 0 ∨ (b.length : Int) < at' then ([], 0, 1, ()) else if (b.length : Int) - at' < (n + 1) / 2 then ([], 0, 3, ())
  else if n % 2 = 1 ∧ ¬ nth (hexOf (tk b at'.toNat ((n.toNat + 1) / 2))) 0 (u8 0) = 48 then ([], 0, 2, ())
  else if figs ((hexOf (tk b at'.toNat ((n.toNat + 1) / 2))).drop (n.toNat % 2)) then ((hexOf (tk b at'.toNat ((n.toNat + 1) / 2))).drop (n.toNat % 2), at' + ((n.toNat + 1) / 2 : Nat), 0, ()) else ([], 0, 2, ())
theorem rune_loop (s : List UInt8) (f : List UInt8 × Int × Int × Nat × Unit → Option (LS (List UInt8 × Int × Int × Nat × Unit) (List UInt8 × Int × Int × Unit)))
    (hf : f = fun x => sel (nlt x.2.2.2.1 (ln s)) (ob (dig_figure (ofn (decode s x.2.2.2.1).1, ())) fun a_1 => sel (bnot a_1.2.1) (some (LS.rt (none' UInt8, 0, 2, ()))) (some (LS.nx (x.1, x.2.1, x.2.2.1, nadd x.2.2.2.1 (decode s x.2.2.2.1).2, ())))) (some (LS.ex 0 (x.1, x.2.1, x.2.2.1, x.2.2.2.1, ())))) :
    loop f (none' UInt8, 0, 0, 0, ()) = some (if figs s then LS.ex 0 (none' UInt8, 0, 0, s.length, ()) else LS.rt (none' UInt8, 0, 2, ())) := by
  have key := loop_scan (f := f) (fun i => (none' UInt8, (0 : Int), (0 : Int), i, ())) s.length (fun i => ∀ h : i < s.length, isFig s[i]) (none' UInt8, 0, 2, ()) 0 ?_ ?_ ?_
  · rcases key with ⟨hall, hr⟩ | ⟨⟨i, hi, hn⟩, hr⟩
    · rw [hr, if_pos (figs_iff.2 hall)]
    · rw [hr, if_neg (fun hc => hn (figs_iff.1 hc i hi))]
  · intro i hi hp
    subst hf
    obtain ⟨e1, e2⟩ := fig_step hi (hp i (Nat.le_refl _) hi)
    refine (sel_of_t (nlt_t hi)).trans ?_
    refine (ob_of e1).trans ?_
    refine (sel_of_f rfl).trans ?_
    simp only [e2]; rfl
  · intro i hi _ hp
    subst hf
    have : ¬ isFig s[i] := fun h => hp fun _ => h
    obtain ⟨q, e1⟩ := fig_not hi this
    refine (sel_of_t (nlt_t hi)).trans ?_
    refine (ob_of e1).trans ?_
    rfl
  · intro _
    subst hf
    exact sel_of_f (nlt_f (Nat.lt_irrefl _))
theorem dig_TakeBcd_spec (b : List UInt8) (at' n : Int) (hl : b.length ≤ 1000000) : dig_TakeBcd (b, at', n, ()) = some (takeBcd b at' n) := by
  unfold dig_TakeBcd takeBcd
  by_cases h1 : n < 0
  · rw [if_pos (.inl h1)]; exact (ob_of (sel_of_t (lt_t h1))).trans rfl
  by_cases h2 : 999 < n
  · rw [if_pos (.inr (.inl h2))]; exact (ob_of (a := (true, ())) ((sel_of_f (lt_f h1)).trans (sel_of_t (lt_t h2)))).trans rfl
  by_cases h3 : at' < 0
  · rw [if_pos (.inr (.inr (.inl h3)))]; exact (ob_of (a := (true, ())) ((sel_of_f (lt_f h1)).trans ((sel_of_f (lt_f h2)).trans (sel_of_t (lt_t h3))))).trans rfl
  by_cases h4 : (b.length : Int) < at'
  · rw [if_pos (.inr (.inr (.inr h4)))]; exact (ob_of (a := (true, ())) ((sel_of_f (lt_f h1)).trans ((sel_of_f (lt_f h2)).trans ((sel_of_f (lt_f h3)).trans (congrArg (fun b => some (b, ())) (lt_t h4)))))).trans rfl
  rw [if_neg (by omega)]
  refine (ob_of (a := (false, ())) ((sel_of_f (lt_f h1)).trans ((sel_of_f (lt_f h2)).trans ((sel_of_f (lt_f h3)).trans (congrArg (fun b => some (b, ())) (lt_f h4)))))).trans ?_
  refine (sel_of_f rfl).trans ?_
  obtain ⟨A, rfl⟩ : ∃ n : Nat, at' = n := ⟨at'.toNat, by omega⟩
  obtain ⟨N, rfl⟩ : ∃ k : Nat, n = k := ⟨n.toNat, by omega⟩
  have c0 : i64 (isub (len b) (A : Int)) = (b.length : Int) - A := by
    simp only [isub, len]; exact i64_of (by omega) (by omega)
  have c1 : i64 (idiv (i64 (iadd (N : Int) 1)) 2) = (((N + 1) / 2 : Nat) : Int) := by
    rw [show i64 (iadd (N : Int) 1) = ((N + 1 : Nat) : Int) from i64_add (b := 1) (by omega)]
    exact i64_div (b := 2) (by omega)
  have c2 : ((N : Int) + 1) / 2 = (((N + 1) / 2 : Nat) : Int) := by omega
  simp only [c0, c1, c2, Int.toNat_natCast]
  generalize hM : (N + 1) / 2 = M
  by_cases h5 : (b.length : Int) - A < M
  · rw [if_pos h5]; exact sel_of_t (lt_t h5)
  rw [if_neg h5]
  refine (sel_of_f (lt_f h5)).trans ?_
  have hAM : A + M ≤ b.length := by omega
  have c3 : i64 (iadd (A : Int) (M : Int)) = ((A + M : Nat) : Int) := i64_add (by omega)
  simp only [c3, sub_tk]
  refine (ck_of (inC_t (by omega) (by omega) (by simp only [len]; omega))).trans ?_
  have htl := tk_length hAM
  refine (ob_of (dig_Hex_spec (tk b A M) (by omega))).trans ?_
  have hhl := hexOf_length (tk b A M)
  rw [htl] at hhl
  generalize hexOf (tk b A M) = h at *
  have k2 : imod (N : Int) 2 = ((N % 2 : Nat) : Int) := imod_nat (b := 2)
  simp only [k2]
  by_cases hodd : N % 2 = 1
  · have hm : (N : Int) % 2 = 1 := by omega
    refine (sel_of_t (beq_t (by omega))).trans ?_
    have h0 : 0 < h.length := by omega
    refine (ck_of (inB_nat (a := 0) h0)).trans ?_
    have e0 : beq (n8 (nth h (nat 0) (u8 0))) (n8 (u8 48)) = decide (nth h 0 (u8 0) = 48) := by
      show ((((nth h 0 (u8 0)).toNat : Nat) : Int) == ((48 : Nat) : Int)) = _
      rw [Bool.eq_iff_iff]
      simp only [beq_iff_eq, decide_eq_true_eq]
      constructor
      · intro hh; apply UInt8.toNat_inj.1; exact Int.ofNat.inj hh
      · intro hh; rw [hh]; rfl
    rw [e0]
    by_cases hz : nth h 0 (u8 0) = 48
    rotate_left
    · rw [if_pos ⟨hm, hz⟩]
      exact sel_of_t (by rw [decide_eq_false hz]; rfl)
    rw [if_neg (fun hc => hc.2 hz)]
    refine (sel_of_f (by rw [decide_eq_true hz]; rfl)).trans ?_
    refine (ck_of (inC_t (by omega) (by simp only [len]; omega) (by simp only [len]; omega))).trans ?_
    have es : sub h 1 (len h) = h.drop 1 := by
      unfold sub len
      show (h.drop 1).take (h.length - 1) = _
      rw [List.take_of_length_le (by simp)]
    simp only [es, hodd]
    refine (lc_eq (rune_loop (h.drop 1) _ rfl)).trans ?_
    by_cases hf : figs (h.drop 1)
    · rw [if_pos hf, if_pos hf]
      show some (h.drop 1, ((A + M : Nat) : Int), (0 : Int), ()) = _
      simp
    · rw [if_neg hf, if_neg hf]; rfl
  · have hev : N % 2 = 0 := by omega
    rw [if_neg (fun hc => by omega)]
    refine (sel_of_f (beq_f (by omega))).trans ?_
    simp only [hev, List.drop_zero]
    refine (lc_eq (rune_loop h _ rfl)).trans ?_
    by_cases hf : figs h
    · rw [if_pos hf, if_pos hf]
      show some (h, ((A + M : Nat) : Int), (0 : Int), ()) = _
      simp
    · rw [if_neg hf, if_neg hf]; rfl
end Yp
namespace Yp
open Go
def nbs (b : List UInt8) : List UInt8 := b.flatMap fun c => [u8 (idiv (n8 c) (n8 (u8 16))), u8 (imod (n8 c) (n8 (u8 16)))]
theorem nbs_app (a b : List UInt8) : nbs (a ++ b) = nbs a ++ nbs b := by simp [nbs]
theorem nib_half : ∀ c : UInt8, ([u8 (idiv (n8 c) (n8 (u8 16))), u8 (imod (n8 c) (n8 (u8 16)))].map fun x => nib x.toNat) = [nib (c.toNat / 16), nib (c.toNat % 16)] ∧ (u8 (idiv (n8 c) (n8 (u8 16)))).toNat < 16 ∧ (u8 (imod (n8 c) (n8 (u8 16)))).toNat < 16 := all8 (by decide +kernel)
theorem nbs_hex (b : List UInt8) : hexOf b = (nbs b).map fun x => nib x.toNat := by
  induction b with
  | nil => rfl
  | cons c r ih =>
    have e1 : hexOf (c :: r) = [nib (c.toNat / 16), nib (c.toNat % 16)] ++ hexOf r := rfl
    have e2 : nbs (c :: r) = [u8 (idiv (n8 c) (n8 (u8 16))), u8 (imod (n8 c) (n8 (u8 16)))] ++ nbs r := rfl
    rw [e1, e2, List.map_append, (nib_half c).1, ih]
theorem nbs_lt (b : List UInt8) : ∀ x ∈ nbs b, x.toNat < 16 := by
  intro x hx
  unfold nbs at hx
  rw [List.mem_flatMap] at hx
  obtain ⟨c, _, hx⟩ := hx
  have := nib_half c
  simp only [List.mem_cons, List.not_mem_nil, or_false] at hx
  rcases hx with rfl | rfl
  · exact this.2.1
  · exact this.2.2
theorem nbs_length (b : List UInt8) : (nbs b).length = 2 * b.length := by rw [← hexOf_length, nbs_hex, List.length_map]
theorem nib_fig : ∀ d : Nat, d < 16 → (isFig (nib d) ↔ d ≤ 9) := by decide +kernel
theorem nib_add : ∀ d : Nat, d < 10 → u8 (iadd (n8 (UInt8.ofNat d)) (n8 (u8 48))) = nib d := by decide +kernel
theorem nib_zero : ∀ d : Nat, d < 16 → (nib d = 48 ↔ d = 0) := by decide +kernel
def half' (l : List UInt8) (o i : Nat) : List UInt8 := (List.range l.length).map fun j => if o ≤ j ∧ j < o + i then nib (nth l j (u8 0)).toNat else nth l j (u8 0)
theorem half'_length (l : List UInt8) (o i : Nat) : (half' l o i).length = l.length := by simp [half']
theorem half'_zero (l : List UInt8) (o : Nat) : half' l o 0 = l := by
  apply List.ext_getElem
  · simp [half']
  · intro j h1 h2
    simp only [half', List.getElem_map, List.getElem_range]
    rw [if_neg (by omega), nth_get h2]
theorem half'_all {l : List UInt8} {o : Nat} : (half' l o (l.length - o)).drop o = (l.map fun x => nib x.toNat).drop o := by
  apply List.ext_getElem
  · simp [half']
  · intro j h1 h2
    simp only [List.length_drop, half'_length] at h1
    simp only [half', List.getElem_drop, List.getElem_map, List.getElem_range]
    rw [if_pos (by omega), nth_get (by omega)]
theorem half'_step {l : List UInt8} {o i : Nat} (h : o + i < l.length) (hd : (nth l (o + i) (u8 0)).toNat ≤ 9) :
    upd (half' l o i) (o + i) (u8 (iadd (n8 (nth (half' l o i) (o + i) (u8 0))) (n8 (u8 48)))) = half' l o (i + 1) ∧ nth (half' l o i) (o + i) (u8 0) = nth l (o + i) (u8 0) := by
  have e : nth (half' l o i) (o + i) (u8 0) = nth l (o + i) (u8 0) := by
    rw [nth_get (by rw [half'_length]; exact h)]
    simp only [half', List.getElem_map, List.getElem_range]
    rw [if_neg (by omega)]
  refine ⟨?_, e⟩
  rw [e]
  have hv := nib_add (nth l (o + i) (u8 0)).toNat (by omega)
  rw [ofNat_toNat] at hv
  rw [hv]
  unfold upd
  apply List.ext_getElem
  · simp [half']
  · intro j h1 h2
    rw [List.getElem_set]
    simp only [half', List.getElem_map, List.getElem_range]
    split
    · rename_i hj; subst hj; rw [if_pos (by omega)]
    · by_cases hc : o ≤ j ∧ j < o + i
      · rw [if_pos hc, if_pos (by omega)]
      · rw [if_neg hc, if_neg (by omega)]
theorem half'_get {l : List UInt8} {o i : Nat} (h : o + i < l.length) : nth (half' l o i) (o + i) (u8 0) = nth l (o + i) (u8 0) := by
  rw [nth_get (by rw [half'_length]; exact h)]
  simp only [half', List.getElem_map, List.getElem_range]
  rw [if_neg (by omega)]
theorem figs_half {l : List UInt8} {o : Nat} (hlt : ∀ x ∈ l, x.toNat < 16) : figs ((l.map fun x => nib x.toNat).drop o) ↔ ∀ i, i < l.length - o → (nth l (o + i) (u8 0)).toNat ≤ 9 := by
  unfold figs
  constructor
  · intro h i hi
    have h1 := h i (by simp; omega)
    simp only [List.getElem_drop, List.getElem_map] at h1
    rw [nth_get (by omega)]
    exact (nib_fig _ (hlt _ (List.getElem_mem _))).1 h1
  · intro h i hi
    simp only [List.length_drop, List.length_map] at hi
    simp only [List.getElem_drop, List.getElem_map]
    have h1 := h i hi
    rw [nth_get (by omega)] at h1
    exact (nib_fig _ (hlt _ (List.getElem_mem _))).2 h1
theorem ref01_TakeBcd_spec (b : List UInt8) (at' n : Int) (hl : b.length ≤ 1000000) : ref01_TakeBcd (b, at', n, ()) = some (takeBcd b at' n) := by
  unfold ref01_TakeBcd takeBcd
  by_cases h1 : n < 0
  · rw [if_pos (.inl h1)]; exact (ob_of (sel_of_t (lt_t h1))).trans rfl
  by_cases h2 : 999 < n
  · rw [if_pos (.inr (.inl h2))]; exact (ob_of (a := (true, ())) ((sel_of_f (lt_f h1)).trans (sel_of_t (lt_t h2)))).trans rfl
  by_cases h3 : at' < 0
  · rw [if_pos (.inr (.inr (.inl h3)))]; exact (ob_of (a := (true, ())) ((sel_of_f (lt_f h1)).trans ((sel_of_f (lt_f h2)).trans (sel_of_t (lt_t h3))))).trans rfl
  by_cases h4 : (b.length : Int) < at'
  · rw [if_pos (.inr (.inr (.inr h4)))]; exact (ob_of (a := (true, ())) ((sel_of_f (lt_f h1)).trans ((sel_of_f (lt_f h2)).trans ((sel_of_f (lt_f h3)).trans (congrArg (fun b => some (b, ())) (lt_t h4)))))).trans rfl
  rw [if_neg (by omega)]
  refine (ob_of (a := (false, ())) ((sel_of_f (lt_f h1)).trans ((sel_of_f (lt_f h2)).trans ((sel_of_f (lt_f h3)).trans (congrArg (fun b => some (b, ())) (lt_f h4)))))).trans ?_
  refine (sel_of_f rfl).trans ?_
  obtain ⟨A, rfl⟩ : ∃ n : Nat, at' = n := ⟨at'.toNat, by omega⟩
  obtain ⟨N, rfl⟩ : ∃ k : Nat, n = k := ⟨n.toNat, by omega⟩
  have c0 : i64 (isub (len b) (A : Int)) = (b.length : Int) - A := by
    simp only [isub, len]; exact i64_of (by omega) (by omega)
  have c1 : i64 (idiv (i64 (iadd (N : Int) 1)) 2) = (((N + 1) / 2 : Nat) : Int) := by
    rw [show i64 (iadd (N : Int) 1) = ((N + 1 : Nat) : Int) from i64_add (b := 1) (by omega)]
    exact i64_div (b := 2) (by omega)
  have c2 : ((N : Int) + 1) / 2 = (((N + 1) / 2 : Nat) : Int) := by omega
  simp only [c0, c1, c2, Int.toNat_natCast]
  generalize hM : (N + 1) / 2 = M
  by_cases h5 : (b.length : Int) - A < M
  · rw [if_pos h5]; exact sel_of_t (lt_t h5)
  rw [if_neg h5]
  refine (sel_of_f (lt_f h5)).trans ?_
  have hAM : A + M ≤ b.length := by omega
  have c3 : i64 (iadd (A : Int) (M : Int)) = ((A + M : Nat) : Int) := i64_add (by omega)
  simp only [c3]
  have htl := tk_length hAM
  have hget : ∀ i (h : i < (tk b A M).length), (tk b A M)[i] = nth b (A + i) (u8 0) := fun i h => by
    rw [tk_get h (by omega), nth_get (by omega)]
  generalize tk b A M = t at *
  -- the first loop
  have first : loop (fun (x_1 : List UInt8 × Int × Unit) => sel (lt x_1.2.1 ((A + M : Nat) : Int)) (ck (inB x_1.2.1 (len b)) (ck (inB x_1.2.1 (len b)) (ck (rm 1 (nadd (ln x_1.1) (ln [u8 (idiv (n8 (nth b (nat x_1.2.1) (u8 0))) (n8 (u8 16))), u8 (imod (n8 (nth b (nat x_1.2.1) (u8 0))) (n8 (u8 16)))])))
      (some (LS.nx (app x_1.1 [u8 (idiv (n8 (nth b (nat x_1.2.1) (u8 0))) (n8 (u8 16))), u8 (imod (n8 (nth b (nat x_1.2.1) (u8 0))) (n8 (u8 16)))], i64 (iadd x_1.2.1 1), ())))))) (some (LS.ex 0 (x_1.1, x_1.2.1, ()))))
      (none' UInt8, (A : Int), ()) = some (LS.ex 0 (nbs t, ((A + M : Nat) : Int), ()) : LS (List UInt8 × Int × Unit) (List UInt8 × Int × Int × Unit)) := by
    generalize hf : (fun (x : List UInt8 × Int × Unit) => _) = f
    have key := loop_scan (f := f) (fun i => (nbs (t.take i), ((A + i : Nat) : Int), ())) M (fun _ => True) ([], 0, 0, ()) 0 ?_ ?_ ?_
    · have e0 : (nbs (t.take 0), ((A + 0 : Nat) : Int), ()) = (none' UInt8, (A : Int), ()) := by simp [nbs, none']
      rw [e0] at key
      rcases key with ⟨_, hr⟩ | ⟨⟨i, hi, hn⟩, hr⟩
      · rw [hr, List.take_of_length_le (by omega)]
      · exact absurd trivial hn
    · intro i hi _
      subst hf
      have hit : i < t.length := by omega
      have hin : A + i < b.length := by omega
      refine (sel_of_t (lt_t (show ((A + i : Nat) : Int) < ((A + M : Nat) : Int) by omega))).trans ?_
      refine (ck_of (inB_nat hin)).trans ?_
      refine (ck_of (inB_nat hin)).trans ?_
      have c : i64 (iadd ((A + i : Nat) : Int) 1) = ((A + (i + 1) : Nat) : Int) := i64_add (b := 1) (by omega)
      simp only [nat_nat, c, ← hget i hit]
      refine (ck_of (rm_t ?_)).trans ?_
      · simp only [nadd, ln, nbs_length, List.length_take, List.length_cons, List.length_nil]; omega
      rw [List.take_succ_eq_append_getElem hit, nbs_app]; rfl
    · intro i _ _ h; exact absurd trivial h
    · intro _; subst hf
      exact sel_of_f (lt_f (show ¬ ((A + M : Nat) : Int) < ((A + M : Nat) : Int) by omega))
  refine (lc_eq first).trans ?_
  have hnl := nbs_length t
  rw [htl] at hnl
  have hlt := nbs_lt t
  simp only [lc]
  refine (ck_of rfl).trans ?_
  rw [nbs_hex]
  generalize nbs t = l at *
  have k2 : imod (N : Int) 2 = ((N % 2 : Nat) : Int) := imod_nat (b := 2)
  simp only [k2]
  have h9 : n8 (u8 9) = ((9 : Nat) : Int) := by decide
  have n8n : ∀ c : UInt8, n8 c = ((c.toNat : Nat) : Int) := fun _ => rfl
  by_cases hodd : N % 2 = 1
  · have hm : (N : Int) % 2 = 1 := by omega
    refine (sel_of_t (beq_t (by omega))).trans ?_
    have h0 : 0 < l.length := by omega
    refine (ck_of (inB_nat (a := 0) h0)).trans ?_
    have e0 : beq (n8 (nth l (nat 0) (u8 0))) (n8 (u8 0)) = decide (nth l 0 (u8 0) = 0) := by
      show ((((nth l 0 (u8 0)).toNat : Nat) : Int) == ((0 : Nat) : Int)) = _
      rw [Bool.eq_iff_iff]
      simp only [beq_iff_eq, decide_eq_true_eq]
      constructor
      · intro hh; apply UInt8.toNat_inj.1; exact Int.ofNat.inj hh
      · intro hh; rw [hh]; rfl
    have hx16 : (nth l 0 (u8 0)).toNat < 16 := by rw [nth_get h0]; exact hlt _ (List.getElem_mem _)
    have e1 : nth (l.map fun x => nib x.toNat) 0 (u8 0) = nib (nth l 0 (u8 0)).toNat := by
      rw [nth_get (by simpa using h0), nth_get h0]; simp
    have e2 : (nth (l.map fun x => nib x.toNat) 0 (u8 0) = 48) ↔ nth l 0 (u8 0) = 0 := by
      rw [e1, nib_zero _ hx16]
      constructor
      · intro hh; apply UInt8.toNat_inj.1; exact hh
      · intro hh; rw [hh]; rfl
    rw [e0]
    by_cases hz : nth l 0 (u8 0) = 0
    rotate_left
    · rw [if_pos ⟨hm, fun h => hz (e2.1 h)⟩]
      exact sel_of_t (by rw [decide_eq_false hz]; rfl)
    rw [if_neg (fun hc => hc.2 (e2.2 hz))]
    refine (sel_of_f (by rw [decide_eq_true hz]; rfl)).trans ?_
    refine (ck_of (inC_t (by omega) (by simp only [len]; omega) (by simp only [len]; omega))).trans ?_
    have c4 : nsub (nat (len l)) (nat 1) = l.length - 1 := by simp [nsub, nat, len]
    have c5 : nat 1 = 1 := by decide
    simp only [c4, c5, hodd]
    generalize hf : (fun (x : List UInt8 × Int × Int × Int × List UInt8 × Unit) => _) = f
    have key := loop_scan (f := f) (fun i => (none' UInt8, (0 : Int), (0 : Int), (i : Int), half' l 1 i, ())) (l.length - 1) (fun i => (nth l (1 + i) (u8 0)).toNat ≤ 9) (none' UInt8, 0, 2, ()) 2 ?_ ?_ ?_
    · have e0 : (none' UInt8, (0 : Int), (0 : Int), ((0 : Nat) : Int), half' l 1 0, ()) = (none' UInt8, (0 : Int), (0 : Int), (0 : Int), l, ()) := by rw [half'_zero]; rfl
      rw [e0] at key
      rcases key with ⟨hall, hr⟩ | ⟨⟨i, hi, hn⟩, hr⟩
      · rw [hr, if_pos ((figs_half hlt).2 hall), ← half'_all]
        show some (cut (half' l 1 (l.length - 1)) 1 (l.length - 1), ((A + M : Nat) : Int), (0 : Int), ()) = _
        have : cut (half' l 1 (l.length - 1)) 1 (l.length - 1) = (half' l 1 (l.length - 1)).drop 1 := by
          unfold cut
          rw [List.take_of_length_le (by simp [half'_length])]
        rw [this]; simp
      · rw [hr, if_neg (fun hc => hn ((figs_half hlt).1 hc i hi))]; rfl
    · intro i hi hp
      subst hf
      have hi1 : 1 + i < l.length := by omega
      have hp' := hp i (Nat.le_refl _)
      obtain ⟨s1, s2⟩ := half'_step hi1 hp'
      refine (sel_of_t (lt_t (show (i : Int) < ofn (l.length - 1) by simp only [ofn]; omega))).trans ?_
      have hin : inB (i : Int) (ofn (l.length - 1)) = true := inB_nat hi
      refine (ck_of hin).trans ?_
      have c6 : nadd 1 (nat (i : Int)) = 1 + i := by simp [nadd, nat]
      have c : i64 (iadd (i : Int) 1) = ((i + 1 : Nat) : Int) := i64_add (b := 1) (by omega)
      simp only [c6, c]
      refine (sel_of_f (by rw [h9, s2, n8n]; exact lt_f (by omega))).trans ?_
      refine (ck_of hin).trans ?_
      refine (ck_of hin).trans ?_
      rw [s1]
    · intro i hi _ hp
      subst hf
      have hi1 : 1 + i < l.length := by omega
      refine (sel_of_t (lt_t (show (i : Int) < ofn (l.length - 1) by simp only [ofn]; omega))).trans ?_
      have hin : inB (i : Int) (ofn (l.length - 1)) = true := inB_nat hi
      refine (ck_of hin).trans ?_
      have c6 : nadd 1 (nat (i : Int)) = 1 + i := by simp [nadd, nat]
      simp only [c6]
      exact sel_of_t (by rw [h9, half'_get hi1, n8n]; exact lt_t (by omega))
    · intro _; subst hf
      exact sel_of_f (lt_f (show ¬ ((l.length - 1 : Nat) : Int) < ofn (l.length - 1) by simp only [ofn]; omega))
  · have hev : N % 2 = 0 := by omega
    rw [if_neg (fun hc => by omega)]
    refine (sel_of_f (beq_f (by omega))).trans ?_
    simp only [hev]
    generalize hf : (fun (x : List UInt8 × Int × Int × Int × List UInt8 × Unit) => _) = f
    have key := loop_scan (f := f) (fun i => (none' UInt8, (0 : Int), (0 : Int), (i : Int), half' l 0 i, ())) (l.length - 0) (fun i => (nth l (0 + i) (u8 0)).toNat ≤ 9) (none' UInt8, 0, 2, ()) 2 ?_ ?_ ?_
    · have e0 : (none' UInt8, (0 : Int), (0 : Int), ((0 : Nat) : Int), half' l 0 0, ()) = (none' UInt8, (0 : Int), (0 : Int), (0 : Int), l, ()) := by rw [half'_zero]; rfl
      rw [e0] at key
      rcases key with ⟨hall, hr⟩ | ⟨⟨i, hi, hn⟩, hr⟩
      · rw [hr, if_pos ((figs_half hlt).2 hall), ← half'_all]
        show some (half' l 0 (l.length - 0), ((A + M : Nat) : Int), (0 : Int), ()) = _
        rw [List.drop_zero]; simp
      · rw [hr, if_neg (fun hc => hn ((figs_half hlt).1 hc i hi))]; rfl
    · intro i hi hp
      subst hf
      have hi1 : 0 + i < l.length := by omega
      have hp' := hp i (Nat.le_refl _)
      obtain ⟨s1, s2⟩ := half'_step hi1 hp'
      rw [Nat.zero_add] at s1 s2 hp'
      have hin : inB (i : Int) (len (half' l 0 i)) = true := inB_nat (by rw [half'_length]; omega)
      refine (sel_of_t (lt_t (show (i : Int) < len (half' l 0 i) by simp only [len, half'_length]; omega))).trans ?_
      refine (ck_of hin).trans ?_
      have c : i64 (iadd (i : Int) 1) = ((i + 1 : Nat) : Int) := i64_add (b := 1) (by omega)
      simp only [nat_nat, c]
      refine (sel_of_f (by rw [h9, s2, n8n]; exact lt_f (by omega))).trans ?_
      refine (ck_of hin).trans ?_
      refine (ck_of hin).trans ?_
      rw [s1]
    · intro i hi _ hp
      subst hf
      have hi1 : 0 + i < l.length := by omega
      have hin : inB (i : Int) (len (half' l 0 i)) = true := inB_nat (by rw [half'_length]; omega)
      refine (sel_of_t (lt_t (show (i : Int) < len (half' l 0 i) by simp only [len, half'_length]; omega))).trans ?_
      refine (ck_of hin).trans ?_
      simp only [nat_nat]
      have hg := half'_get hi1
      rw [Nat.zero_add] at hg hp
      exact sel_of_t (by rw [h9, hg, n8n]; exact lt_t (by omega))
    · intro _; subst hf
      exact sel_of_f (lt_f (show ¬ ((l.length - 0 : Nat) : Int) < len (half' l 0 (l.length - 0)) by simp only [len, half'_length]; omega))
end Yp
namespace Yp
open Go
def vl (B : Nat) (wt : UInt8 → Nat) (l : List UInt8) : Nat := l.foldl (fun n c => B * n + wt c) 0
theorem vl_snoc (B : Nat) (wt : UInt8 → Nat) (l : List UInt8) (c : UInt8) : vl B wt (l ++ [c]) = B * vl B wt l + wt c := by
  unfold vl; rw [List.foldl_append]; rfl
theorem ps_snoc (B : Nat) (g : Nat → UInt8) (v : Nat) : ∀ n, ps B g v (n + 1) = ps B g (v / B) n ++ [g (v % B)]
  | 0 => by simp [ps]
  | n + 1 => by
    have e : ps B g v (n + 1 + 1) = g (v / B ^ (n + 1) % B) :: ps B g v (n + 1) := rfl
    have e2 : ps B g (v / B) (n + 1) = g (v / B / B ^ n % B) :: ps B g (v / B) n := rfl
    rw [e, ps_snoc B g v n, e2, Nat.div_div_eq_div_mul, Nat.pow_succ', List.cons_append]
theorem vl_ps {B : Nat} {g : Nat → UInt8} {wt : UInt8 → Nat} (hB : 0 < B) (h : ∀ d, d < B → wt (g d) = d) : ∀ (n v : Nat), vl B wt (ps B g v n) = v % B ^ n
  | 0, v => by simp [ps, vl, Nat.mod_one]
  | n + 1, v => by
    rw [ps_snoc, vl_snoc, vl_ps hB h n, h _ (Nat.mod_lt _ hB), Nat.pow_succ', Nat.mod_mul]
    omega
theorem ps_vl {B : Nat} {g : Nat → UInt8} {wt : UInt8 → Nat} {l : List UInt8} (h : ∀ c ∈ l, wt c < B ∧ g (wt c) = c) : ∀ i, i ≤ l.length → ps B g (vl B wt (l.take i)) i = l.take i
  | 0, _ => by simp [ps]
  | i + 1, hi => by
    have hc := h _ (List.getElem_mem (show i < l.length by omega))
    rw [List.take_succ_eq_append_getElem (by omega), vl_snoc, ps_snoc]
    have e1 : (B * vl B wt (l.take i) + wt l[i]) / B = vl B wt (l.take i) := by
      rw [Nat.mul_add_div (by omega), Nat.div_eq_of_lt hc.1]; omega
    have e2 : (B * vl B wt (l.take i) + wt l[i]) % B = wt l[i] := by
      rw [Nat.mul_add_mod, Nat.mod_eq_of_lt hc.1]
    rw [e1, e2, ps_vl h i (by omega), hc.2]
theorem val_vl (l : List UInt8) : val l = vl 10 dv l := rfl
theorem val_ps (v n : Nat) : val (ps 10 dch v n) = v % 10 ^ n := by
  rw [val_vl]
  refine vl_ps (by omega) (fun d hd => ?_) n v
  simp only [dv, dch, UInt8.toNat_ofNat']; omega
theorem ps_val {l : List UInt8} (hf : figs l) : ps 10 dch (val l) l.length = l := by
  have := ps_vl (B := 10) (g := dch) (wt := dv) (l := l) (fun c hc => by
    obtain ⟨i, hi, rfl⟩ := List.getElem_of_mem hc
    have := dig_split (hf i hi)
    exact ⟨this.2, this.1.symm⟩) l.length (Nat.le_refl _)
  rw [List.take_length] at this; exact this
theorem val_lt_pow {l : List UInt8} (hf : figs l) : val l < 10 ^ l.length := by
  have := val_lt (s := l) l.length (Nat.le_refl _) (fun j _ h => hf j h)
  rw [List.take_length] at this; exact this
theorem hexOf_get {b : List UInt8} : ∀ {i : Nat} (h : i < b.length), nth (hexOf b) (2 * i) (u8 0) = nib (b[i].toNat / 16) ∧ nth (hexOf b) (2 * i + 1) (u8 0) = nib (b[i].toNat % 16) := by
  induction b with
  | nil => intro i h; simp at h
  | cons x r ih =>
    intro i h
    have e : hexOf (x :: r) = nib (x.toNat / 16) :: nib (x.toNat % 16) :: hexOf r := rfl
    cases i with
    | zero => rw [e]; exact ⟨rfl, rfl⟩
    | succ i =>
      have := ih (i := i) (by simpa using h)
      rw [e]
      exact this
theorem pairs_ext {a b : List UInt8} {k : Nat} (ha : a.length = 2 * k) (hb : b.length = 2 * k) (h : ∀ i, i < k → nth a (2 * i) (u8 0) = nth b (2 * i) (u8 0) ∧ nth a (2 * i + 1) (u8 0) = nth b (2 * i + 1) (u8 0)) : a = b := by
  apply List.ext_getElem
  · omega
  · intro j h1 h2
    have := h (j / 2) (by omega)
    by_cases hp : j % 2 = 0
    · have := this.1
      rw [show 2 * (j / 2) = j by omega, nth_get h1, nth_get h2] at this; exact this
    · have := this.2
      rw [show 2 * (j / 2) + 1 = j by omega, nth_get h1, nth_get h2] at this; exact this
theorem nib_dv : ∀ d : Nat, d < 16 → isFig (nib d) → dv (nib d) = d := by decide +kernel
theorem dv_nib : ∀ d : Nat, d < 10 → nib d = UInt8.ofNat (48 + d) := by decide +kernel
theorem nib_hval : ∀ d : Nat, d < 16 → isHex (nib d) ∧ hval (nib d) = d := by decide +kernel
theorem hexOf_bcd {p : List UInt8} (hf : figs p) (he : p.length % 2 = 0) : hexOf (bcd p) = p := by
  have hl : (bcd p).length = p.length / 2 := by simp [bcd]
  refine pairs_ext (k := p.length / 2) (by rw [hexOf_length, hl]) (by omega) fun i hi => ?_
  have hi' : i < (bcd p).length := by omega
  have h0 : 2 * i < p.length := by omega
  have h1 : 2 * i + 1 < p.length := by omega
  obtain ⟨e1, e2⟩ := hexOf_get hi'
  obtain ⟨a1, a2⟩ := dig_split (hf _ h0)
  obtain ⟨b1, b2⟩ := dig_split (hf _ h1)
  have hg : (bcd p)[i] = UInt8.ofNat (16 * dv p[2 * i] + dv p[2 * i + 1]) := by simp [bcd, dat, nth_get h0, nth_get h1]
  have hn : (bcd p)[i].toNat = 16 * dv p[2 * i] + dv p[2 * i + 1] := by rw [hg, UInt8.toNat_ofNat']; omega
  rw [e1, e2, hn, nth_get h0, nth_get h1]
  rw [show (16 * dv p[2 * i] + dv p[2 * i + 1]) / 16 = dv p[2 * i] by omega, show (16 * dv p[2 * i] + dv p[2 * i + 1]) % 16 = dv p[2 * i + 1] by omega]
  rw [dv_nib _ a2, dv_nib _ b2]
  exact ⟨a1.symm, b1.symm⟩
theorem bcd_hexOf {u : List UInt8} (hf : figs (hexOf u)) : bcd (hexOf u) = u := by
  have hl := hexOf_length u
  apply List.ext_getElem
  · simp [bcd]; omega
  · intro i h1 h2
    obtain ⟨e1, e2⟩ := hexOf_get h2
    have f0 := hf (2 * i) (by omega)
    have f1 := hf (2 * i + 1) (by omega)
    rw [← nth_get (d := u8 0)] at f0 f1
    rw [e1] at f0; rw [e2] at f1
    have hu := n8_lt u[i]
    simp only [bcd, List.getElem_map, List.getElem_range, dat, e1, e2]
    rw [nib_dv _ (by omega) f0, nib_dv _ (by omega) f1]
    apply UInt8.toNat_inj.1
    rw [UInt8.toNat_ofNat']; omega
theorem hexy_hexOf (b : List UInt8) : hexy (hexOf b) := by
  have hl := hexOf_length b
  refine (hexy_of (k := b.length) (by omega)).1 fun i hi => ?_
  obtain ⟨e1, e2⟩ := hexOf_get hi
  have hu := n8_lt b[i]
  rw [e1, e2]
  exact ⟨(nib_hval _ (by omega)).1, (nib_hval _ (by omega)).1⟩
theorem unh_hexOf (b : List UInt8) : unh (hexOf b) = b := by
  have hl := hexOf_length b
  apply List.ext_getElem
  · simp [unh]; omega
  · intro i h1 h2
    obtain ⟨e1, e2⟩ := hexOf_get h2
    have hu := n8_lt b[i]
    simp only [unh, List.getElem_map, List.getElem_range, e1, e2]
    rw [(nib_hval _ (by omega)).2, (nib_hval _ (by omega)).2]
    apply UInt8.toNat_inj.1
    rw [UInt8.toNat_ofNat']; omega
end Yp
namespace Yp
open Go
theorem lc_ex {σ ρ β : Type} {k : Nat} {y : σ} {kn : σ → Option β} {ke : Nat → σ → Option β} {kr : ρ → Option β} : lc (some (.ex k y)) kn ke kr = ke k y := rfl
theorem sel_some {α : Type} {c : Bool} {a b : α} : sel c (some a) (some b) = some (sel c a b) := by cases c <;> rfl
theorem sel_same {α : Type} {c : Bool} {a : α} : sel c a a = a := by cases c <;> rfl
theorem loop_find {σ ρ : Type} {f : σ → Option (LS σ ρ)} (st : Nat → σ) (n : Nat) (p : Nat → Prop) (r : Nat → LS σ ρ) (k : Nat) (hr : ∀ i, match r i with | .nx _ => False | _ => True) (hs : ∀ i, i < n → p i → f (st i) = some (.nx (st (i + 1)))) (hb : ∀ i, i < n → ¬ p i → f (st i) = some (r i)) (he : f (st n) = some (.ex k (st n))) :
    ((∀ i, i < n → p i) ∧ loop f (st 0) = some (.ex k (st n))) ∨ ∃ i, i < n ∧ (∀ j, j < i → p j) ∧ ¬ p i ∧ loop f (st 0) = some (r i) := by
  by_cases h : ∀ i, i < n → p i
  · refine .inl ⟨h, ?_⟩
    rw [loop_count st n (fun i hi => hs i hi (h i hi)) 0 (Nat.zero_le _)]
    exact loop_ex he
  · refine .inr ?_
    have hex : ∃ i, i < n ∧ ¬ p i := Classical.byContradiction fun hc => h fun i hi => Classical.byContradiction fun hp => hc ⟨i, hi, hp⟩
    obtain ⟨k, hk, hp⟩ := hex
    induction k using Nat.strongRecOn with
    | _ k ih =>
      by_cases hl : ∃ j, j < k ∧ ¬ p j
      · obtain ⟨j, hj, hpj⟩ := hl
        exact ih j hj (by omega) hpj
      · have hall : ∀ i, i < k → p i := fun i hi => Classical.byContradiction fun hp => hl ⟨i, hi, hp⟩
        refine ⟨k, hk, hall, hp, ?_⟩
        rw [loop_count st k (fun i hi => hs i (by omega) (hall i hi)) 0 (Nat.zero_le _)]
        have := hb k hk hp
        have hrk := hr k
        generalize r k = x at *
        cases x with
        | nx y => exact hrk.elim
        | ex j y => exact loop_ex this
        | rt y => exact loop_rt this
def frows : List (List Int) := [[1, 2, 25], [1, 3, 22, 49, 70], [1, 4, 13, 14, 18], [1, 6, 3, 11, 12, 15], [1, 10, 7], [1, 12, 4], [1, 16, 53], [1, 42, 90], [2, 19, 2], [2, 11, 32, 100], [3, 12, 37], [3, 6, 38], [3, 2, 39], [3, 8, 41], [3, 15, 42], [3, 42, 95], [4, 37, 35], [4, 28, 102], [5, 400, 48], [5, 120, 54], [6, 8, 52, 64, 96, 128], [7, 255, 55], [7, 400, 127]]
def frow (i : Nat) : List Int := nth frows i (none' Int)
def formOf (no : Int) : Option (Int × Int) := (frows.find? fun r => (r.drop 2).contains no).map fun r => (nth r 0 0, nth r 1 0)
def fr (o : Option (Int × Int)) : (Int × Int × Unit) × Bool × Unit := match o with | some (k, l) => ((k, l, ()), true, ()) | none => ((0, 0, ()), false, ())
theorem ref05_in_spec (l : List Int) (n : Int) (hl : l.length ≤ 1000000) : ref05_in (l, n, ()) = some (l.contains n, ()) := by
  unfold ref05_in
  generalize hf : (fun (x_1 : Bool × Int × Unit) => _) = f
  have key := loop_find (f := f) (fun i => (false, (i : Int), ())) l.length (fun i => ¬ nth l i 0 = n) (fun _ => .rt (true, ())) 0 (fun _ => trivial) ?_ ?_ ?_
  · rcases key with ⟨h, hr⟩ | ⟨i, hi, _, hp, hr⟩
    · refine (lc_eq hr).trans ?_
      have : l.contains n = false := by
        rw [List.contains_eq_mem, decide_eq_false_iff_not]
        intro hm
        obtain ⟨i, hi, rfl⟩ := List.getElem_of_mem hm
        exact h i hi (nth_get hi)
      rw [this]; rfl
    · refine (lc_eq hr).trans ?_
      have : l.contains n = true := by
        rw [List.contains_eq_mem, decide_eq_true_eq, ← Classical.not_not.1 hp, nth_get hi]; exact List.getElem_mem hi
      rw [this]; rfl
  · intro i hi hp
    subst hf
    refine (sel_of_t (lt_nat.trans (decide_eq_true hi))).trans ?_
    refine (ck_of (inB_nat hi)).trans ?_
    refine (sel_of_f (beq_f hp)).trans ?_
    have c : i64 (iadd (i : Int) 1) = ((i + 1 : Nat) : Int) := i64_add (b := 1) (by omega)
    simp only [c]
  · intro i hi hp
    subst hf
    refine (sel_of_t (lt_nat.trans (decide_eq_true hi))).trans ?_
    refine (ck_of (inB_nat hi)).trans ?_
    exact sel_of_t (beq_t (Classical.not_not.1 hp))
  · subst hf
    exact sel_of_f (lt_f (by simp only [len]; omega))
theorem find_first {α : Type} {p : α → Bool} : ∀ {l : List α} {i : Nat} (h : i < l.length), (∀ j (hj : j < i), p (l[j]'(by omega)) = false) → p l[i] = true → l.find? p = some l[i]
  | a :: r, 0, _, _, h => by simp only [List.getElem_cons_zero] at h ⊢; exact List.find?_cons_of_pos h
  | a :: r, i + 1, hi, hj, h => by
    rw [List.find?_cons_of_neg (by have := hj 0 (by omega); simp only [List.getElem_cons_zero] at this; rw [this]; exact Bool.false_ne_true)]
    simp only [List.getElem_cons_succ] at h ⊢
    exact find_first (by simpa using hi) (fun j hj' => by have := hj (j + 1) (by omega); simpa using this) h
theorem ref05_Of_spec (no : Int) : ref05_Of (no, ()) = some (fr (formOf no)) := by
  unfold ref05_Of
  generalize hf : (fun (x_1 : Bool × Int × Unit) => _) = f
  have hlen : ∀ i, i < 23 → 3 ≤ (frow i).length ∧ (frow i).length ≤ 10 := by decide
  have hin : ∀ i, i < 23 → ref05_in (sub (frow i) 2 (len (frow i)), no, ()) = some (((frow i).drop 2).contains no, ()) := by
    intro i hi
    have := hlen i hi
    rw [ref05_in_spec _ _ (by simp only [sub, List.length_take, List.length_drop]; omega)]
    have : sub (frow i) 2 (len (frow i)) = (frow i).drop 2 := by
      simp only [sub, len]
      rw [List.take_of_length_le (by simp)]; rfl
    rw [this]
  have key := loop_find (f := f) (fun i => (false, (i : Int), ())) 23 (fun i => ((frow i).drop 2).contains no = false) (fun i => .rt ((nth (frow i) 0 0, nth (frow i) 1 0, ()), true, ())) 0 (fun _ => trivial) ?_ ?_ ?_
  · have hn : ∀ i, (h : i < 23) → frows[i]'(by exact h) = frow i := fun i h => (nth_get (d := none' Int) (by exact h)).symm
    rcases key with ⟨h, hr⟩ | ⟨i, hi, hj, hp, hr⟩
    · refine (lc_eq hr).trans ?_
      have : formOf no = none := by
        unfold formOf
        rw [Option.map_eq_none_iff, List.find?_eq_none]
        intro r hm
        obtain ⟨i, hi, rfl⟩ := List.getElem_of_mem hm
        rw [hn i hi, h i hi]; exact Bool.false_ne_true
      rw [this]; rfl
    · refine (lc_eq hr).trans ?_
      have : formOf no = some (nth (frow i) 0 0, nth (frow i) 1 0) := by
        unfold formOf
        have hfi : frows.find? (fun r => (r.drop 2).contains no) = some (frows[i]'(by exact hi)) := find_first (l := frows) (p := fun (r : List Int) => (r.drop 2).contains no) hi (fun j hj' => (congrArg (fun (r : List Int) => (r.drop 2).contains no) (hn j (by omega))).trans (hj j hj')) ((congrArg (fun (r : List Int) => (r.drop 2).contains no) (hn i hi)).trans ((Bool.not_eq_false _).mp hp))
        rw [hfi, hn i hi]; rfl
      rw [this]; rfl
  · intro i hi hp
    subst hf
    have h := hlen i hi
    refine (sel_of_t (lt_nat (b := 23).trans (decide_eq_true hi))).trans ?_
    refine (ck_of (inB_nat (n := 23) hi)).trans ?_
    refine (ck_of (show inC 2 (len (frow i)) (len (frow i)) = true from inC_t (by omega) (by simp only [len]; omega) (by omega))).trans ?_
    refine (ob_of (hin i hi)).trans ?_
    refine (sel_of_f hp).trans ?_
    have c : i64 (iadd (i : Int) 1) = ((i + 1 : Nat) : Int) := i64_add (b := 1) (by omega)
    simp only [c]
  · intro i hi hp
    subst hf
    have h := hlen i hi
    refine (sel_of_t (lt_nat (b := 23).trans (decide_eq_true hi))).trans ?_
    refine (ck_of (inB_nat (n := 23) hi)).trans ?_
    refine (ck_of (show inC 2 (len (frow i)) (len (frow i)) = true from inC_t (by omega) (by simp only [len]; omega) (by omega))).trans ?_
    refine (ob_of (hin i hi)).trans ?_
    refine (sel_of_t ((Bool.not_eq_false _).mp hp)).trans ?_
    repeat refine (ck_of (inB_nat (n := 23) hi)).trans ?_
    repeat first
      | refine (ck_of (show inB 0 (len (frow i)) = true from inB_t (by omega) (by simp only [len]; omega))).trans ?_
      | refine (ck_of (show inB 1 (len (frow i)) = true from inB_t (by omega) (by simp only [len]; omega))).trans ?_
      | refine (ck_of (inB_nat (n := 23) hi)).trans ?_
    rfl
  · subst hf
    exact sel_of_f (lt_f (by simp only [len]; decide))
def fnums : List Int := frows.flatMap fun r => r.drop 2
noncomputable def lg (k no : Int) : Int := match field_long (k, no, ()) with | some (a, ()) => a | none => 0
theorem field_figures_some (no : Int) : ∃ a, field_figures (no, ()) = some (a, ()) := by
  unfold field_figures
  simp only [sel_some]
  exact ⟨_, rfl⟩
theorem field_long_spec (k no : Int) : field_long (k, no, ()) = some (lg k no, ()) := by
  have : ∃ a, field_long (k, no, ()) = some (a, ()) := by
    unfold field_long
    obtain ⟨a, ha⟩ := field_figures_some no
    simp only [ha, ob_s, sel_some]
    exact ⟨_, rfl⟩
  obtain ⟨a, ha⟩ := this
  unfold lg; rw [ha]
noncomputable def pickF (no : Int) : Option (Int × Int) := if 0 < lg 1 no then some (1, lg 1 no) else if 0 < lg 2 no then some (2, lg 2 no) else if 0 < lg 3 no then some (3, lg 3 no) else if 0 < lg 4 no then some (4, lg 4 no)
  else if 0 < lg 5 no then some (5, lg 5 no) else if 0 < lg 6 no then some (6, lg 6 no) else if 0 < lg 7 no then some (7, lg 7 no) else none
theorem field_Of_pick (no : Int) : field_Of (no, ()) = some (fr (pickF no)) := by
  unfold field_Of
  generalize hf : (fun (x_1 : Bool × Int × Unit) => _) = f
  have step : ∀ k : Nat, k ≤ 7 → f (false, (k : Int), ()) = if 0 < lg k no then some (.rt (((k : Int), lg k no, ()), true, ())) else some (.nx (false, ((k + 1 : Nat) : Int), ())) := by
    intro k hk
    subst hf
    refine (sel_of_t (le_t (show (k : Int) ≤ 7 by omega))).trans ?_
    refine (ob_of (field_long_spec _ _)).trans ?_
    have c : i64 (iadd (k : Int) 1) = ((k + 1 : Nat) : Int) := i64_add (b := 1) (by omega)
    simp only [c]
    by_cases h : 0 < lg k no
    · rw [if_pos h]; exact sel_of_t (lt_t h)
    · rw [if_neg h]; exact sel_of_f (lt_f h)
  have last : f (false, ((8 : Nat) : Int), ()) = some (.ex 0 (false, ((8 : Nat) : Int), ())) := by
    subst hf; exact sel_of_f (le_f (show ¬ ((8 : Nat) : Int) ≤ 7 by omega))
  have key : ∀ k : Nat, k ≤ 7 → lg k no ≤ 0 → loop f (false, (k : Int), ()) = loop f (false, ((k + 1 : Nat) : Int), ()) := fun k hk h => loop_nx (by rw [step k hk, if_neg (by omega)])
  have hit : ∀ k : Nat, k ≤ 7 → 0 < lg k no → loop f (false, (k : Int), ()) = some (.rt (((k : Int), lg k no, ()), true, ())) := fun k hk h => loop_rt (by rw [step k hk, if_pos h])
  have := key 1; have := key 2; have := key 3; have := key 4; have := key 5; have := key 6; have := key 7
  have := hit 1; have := hit 2; have := hit 3; have := hit 4; have := hit 5; have := hit 6; have := hit 7
  have h8 : loop f (false, ((8 : Nat) : Int), ()) = some (.ex 0 (false, ((8 : Nat) : Int), ())) := loop_ex last
  show lc (loop f (false, ((1 : Nat) : Int), ())) _ _ _ = _
  unfold pickF
  repeat' split
  all_goals
    simp_all
    first | done | rfl
theorem lg_none {no : Int} (h : ∀ c ∈ fnums, ¬ no = c) : ∀ k, lg k no = 0 := by
  have h' : ∀ c ∈ fnums, beq no c = false := fun c hc => beq_f (h c hc)
  have e : fnums = [25, 22, 49, 70, 13, 14, 18, 3, 11, 12, 15, 7, 4, 53, 90, 2, 32, 100, 37, 38, 39, 41, 42, 95, 35, 102, 48, 54, 52, 64, 96, 128, 55, 127] := by decide
  rw [e] at h'
  simp only [List.mem_cons, List.not_mem_nil, or_false, forall_eq_or_imp, forall_eq] at h'
  intro k
  unfold lg field_long field_figures
  simp only [h', sel_f, ob_s, sel_same]
theorem pick_form (no : Int) : pickF no = formOf no := by
  by_cases h : no ∈ fnums
  · exact (by decide +kernel : ∀ no ∈ fnums, pickF no = formOf no) no h
  · have h' : ∀ c ∈ fnums, ¬ no = c := fun c hc e => h (e ▸ hc)
    have e1 : pickF no = none := by simp [pickF, lg_none h']
    have e2 : formOf no = none := by
      unfold formOf
      rw [Option.map_eq_none_iff, List.find?_eq_none]
      intro r hr hc
      rw [List.contains_eq_mem, decide_eq_true_eq] at hc
      exact h (List.mem_flatMap.2 ⟨r, hr, hc⟩)
    rw [e1, e2]
theorem field_Of_spec (no : Int) : field_Of (no, ()) = some (fr (formOf no)) := by rw [field_Of_pick, pick_form]
def kinds (k : Int) : Prop := k = 1 ∨ k = 2 ∨ k = 3 ∨ k = 4 ∨ k = 5 ∨ k = 6 ∨ k = 7
instance (k : Int) : Decidable (kinds k) := by unfold kinds; infer_instance
theorem form_ok {no k l : Int} (h : formOf no = some (k, l)) : kinds k ∧ 1 ≤ l ∧ l ≤ 400 ∧ (k = 2 ∨ k = 4 → l ≤ 99) := by
  unfold formOf at h
  rw [Option.map_eq_some_iff] at h
  obtain ⟨r, hr, he⟩ := h
  have hm := List.mem_of_find?_eq_some hr
  have : ∀ r ∈ frows, kinds (nth r 0 0) ∧ 1 ≤ nth r 1 0 ∧ nth r 1 0 ≤ 400 ∧ (nth r 0 0 = 2 ∨ nth r 0 0 = 4 → nth r 1 0 ≤ 99) := by decide +kernel
  have := this r hm
  cases he
  exact this
end Yp
namespace Yp
open Go
def rng (lo hi : Int) (v : List UInt8) : Prop := ∀ i (h : i < v.length), lo ≤ n8 v[i] ∧ n8 v[i] ≤ hi
instance (lo hi : Int) (v : List UInt8) : Decidable (rng lo hi v) := inferInstanceAs (Decidable (∀ (i : Nat) (h : i < v.length), lo ≤ n8 v[i] ∧ n8 v[i] ≤ hi))
theorem okl (lo hi : UInt8) (v : List UInt8) (hl : v.length ≤ 1000000) : ∃ i, loop (fun (x_1 : Bool × Int × Unit) =>
    sel (lt x_1.2.1 (len v)) (ck (inB x_1.2.1 (len v)) (ob (sel (lt (n8 (nth v (nat x_1.2.1) (u8 0))) (n8 lo)) (some (true, ())) (some (lt (n8 hi) (n8 (nth v (nat x_1.2.1) (u8 0))), ())))
      fun (a : Bool × Unit) => sel a.1 (some (LS.ex 999999999 (false, x_1.2.1, ()))) (some (LS.nx (x_1.1, i64 (iadd x_1.2.1 1), ())))))
      (some (LS.ex 0 (x_1.1, x_1.2.1, ()) : LS (Bool × Int × Unit) Unit))) (false, 0, ()) = some (if rng (n8 lo) (n8 hi) v then .ex 0 (false, i, ()) else .ex 999999999 (false, i, ())) := by
  generalize hf : (fun (x_1 : Bool × Int × Unit) => _) = f
  have key := loop_find (f := f) (fun i => (false, (i : Int), ())) v.length (fun i => n8 lo ≤ n8 (nth v i (u8 0)) ∧ n8 (nth v i (u8 0)) ≤ n8 hi) (fun i => .ex 999999999 (false, (i : Int), ())) 0 (fun _ => trivial) ?_ ?_ ?_
  · rcases key with ⟨h, hr⟩ | ⟨i, hi, _, hp, hr⟩
    · refine ⟨(v.length : Int), hr.trans ?_⟩
      rw [if_pos (show rng (n8 lo) (n8 hi) v from fun i hi => by have := h i hi; rwa [nth_get hi] at this)]
    · refine ⟨(i : Int), hr.trans ?_⟩
      rw [if_neg (fun (hc : rng (n8 lo) (n8 _) v) => hp (by have := hc i hi; rwa [← nth_get (d := u8 0) hi] at this))]
  · intro i hi hp
    subst hf
    refine (sel_of_t (lt_nat.trans (decide_eq_true hi))).trans ?_
    refine (ck_of (inB_nat hi)).trans ?_
    have c : i64 (iadd (i : Int) 1) = ((i + 1 : Nat) : Int) := i64_add (b := 1) (by omega)
    simp only [nat_nat, c]
    refine (ob_of (a := (false, ())) ((sel_of_f (lt_f (by omega))).trans (congrArg (fun b => some (b, ())) (lt_f (by omega))))).trans ?_
    rfl
  · intro i hi hp
    subst hf
    refine (sel_of_t (lt_nat.trans (decide_eq_true hi))).trans ?_
    refine (ck_of (inB_nat hi)).trans ?_
    simp only [nat_nat]
    by_cases h : n8 (nth v i (u8 0)) < n8 lo
    · exact (ob_of (sel_of_t (lt_t h))).trans rfl
    · exact (ob_of (a := (true, ())) ((sel_of_f (lt_f h)).trans (congrArg (fun b => some (b, ())) (lt_t (by omega))))).trans rfl
  · subst hf
    exact sel_of_f (lt_f (by simp only [len]; omega))
def fch (k : Int) (v : List UInt8) : Prop := (k ≤ 2 → figs v) ∧ (k ≤ 5 → rng 32 126 v)
def fln (k l : Int) (n : Nat) : Prop := if k = 1 ∨ k = 3 ∨ k = 6 then (n : Int) = l else 1 ≤ n ∧ (n : Int) ≤ l
instance (k l : Int) (n : Nat) : Decidable (fln k l n) := by unfold fln; infer_instance
def fv (k l : Int) (v : List UInt8) : Prop := fch k v ∧ fln k l v.length
instance (k l : Int) (v : List UInt8) : Decidable (fv k l v) := inferInstanceAs (Decidable (((k ≤ 2 → figs v) ∧ (k ≤ 5 → rng 32 126 v)) ∧ fln k l v.length))
theorem n8_nat (c : UInt8) : n8 c = ((c.toNat : Nat) : Int) := rfl
theorem rng_figs {v : List UInt8} : rng 48 57 v ↔ figs v := by
  unfold rng figs isFig
  refine forall_congr' fun i => forall_congr' fun h => ?_
  rw [n8_nat]; omega
theorem figs_rng {v : List UInt8} (h : figs v) : rng 32 126 v := fun i hi => by
  have := h i hi
  unfold isFig at this
  rw [n8_nat]; omega
def cnt (k : Int) : Int := if k = 2 ∨ k = 4 then 2 else if k = 5 ∨ k = 7 then 3 else 0
theorem field_told_spec {k : Int} (hk : kinds k) : field_told (k, ()) = some (cnt k, ()) := by
  rcases hk with rfl | rfl | rfl | rfl | rfl | rfl | rfl <;> rfl
theorem ref05_count_spec {k : Int} (hk : kinds k) : ref05_count (k, ()) = some (cnt k, ()) := by
  rcases hk with rfl | rfl | rfl | rfl | rfl | rfl | rfl <;> rfl
theorem fr_some {o : Option (Int × Int)} {k l : Int} (h : o = some (k, l)) : fr o = ((k, l, ()), true, ()) := by rw [h]; rfl
theorem fr_none {o : Option (Int × Int)} (h : o = none) : fr o = ((0, 0, ()), false, ()) := by rw [h]; rfl
theorem some_b {a b : Bool} (h : a = b) : some (a, ()) = some (b, ()) := by rw [h]
def fitsD (no : Int) (v : List UInt8) : Bool := match formOf no with | some (k, l) => decide (fv k l v) | none => false
theorem field_Fits_spec (no : Int) (v : List UInt8) (hl : v.length ≤ 1000000) : field_Fits (no, v, ()) = some (fitsD no v, ()) := by
  unfold field_Fits fitsD
  refine (ob_of (field_Of_spec no)).trans ?_
  cases ho : formOf no with
  | none => exact (ob_of (a := (true, ())) (sel_of_t rfl)).trans rfl
  | some p =>
    obtain ⟨k, l⟩ := p
    rw [fr_some rfl]
    obtain ⟨hk, h1, h400, h99⟩ := form_ok ho
    by_cases hlen : l < v.length
    · refine (ob_of (a := (true, ())) ((sel_of_f rfl).trans (some_b (lt_t hlen)))).trans ?_
      refine (sel_of_t rfl).trans (some_b ?_)
      refine (decide_eq_false fun h => ?_).symm
      have := h.2
      unfold fln at this
      split at this <;> omega
    refine (ob_of (a := (false, ())) ((sel_of_f rfl).trans (some_b (lt_f hlen)))).trans ?_
    obtain ⟨i, r1⟩ := okl (u8 48) (u8 57) v hl
    obtain ⟨j, r2⟩ := okl (u8 32) (u8 126) v hl
    have e1 : rng (n8 (u8 48)) (n8 (u8 57)) v ↔ figs v := rng_figs
    have e2 : rng (n8 (u8 32)) (n8 (u8 126)) v ↔ rng 32 126 v := Iff.rfl
    simp only [e1] at r1
    simp only [e2] at r2
    have ht := field_told_spec hk
    have zz : ∀ {c : Bool} {p : Prop} [Decidable p], (c = true ↔ p) → some (c, ()) = some (decide p, ()) := fun {c p _} h => some_b (Bool.eq_iff_iff.2 (h.trans decide_eq_true_iff.symm))
    refine (sel_of_f rfl).trans ?_
    rcases hk with rfl | rfl | rfl | rfl | rfl | rfl | rfl
    · refine (sel_of_t rfl).trans ?_; refine (sel_of_t rfl).trans ?_
      refine (lc_eq r1).trans ?_
      by_cases hf : figs v
      · rw [if_pos hf]
        refine lc_ex.trans ?_
        refine (sel_of_f rfl).trans ?_; refine (ck_of rfl).trans ?_
        refine (lc_eq r2).trans ?_
        rw [if_pos (figs_rng hf)]
        refine lc_ex.trans ?_
        refine (sel_of_f rfl).trans ?_; refine (ck_of rfl).trans ?_
        refine (ob_of ht).trans ?_
        refine (sel_of_f rfl).trans ?_
        refine zz ?_
        simp [beq, len, fv, fln, fch, hf, figs_rng hf]
      · rw [if_neg hf]
        refine lc_ex.trans ?_
        refine (sel_of_t rfl).trans ?_; refine (sel_of_t rfl).trans ?_
        exact some_b (decide_eq_false fun h => hf (h.1.1 (by omega))).symm
    · refine (sel_of_f rfl).trans ?_; refine (sel_of_t rfl).trans ?_
      refine (lc_eq r1).trans ?_
      by_cases hf : figs v
      · rw [if_pos hf]
        refine lc_ex.trans ?_
        refine (sel_of_f rfl).trans ?_; refine (ck_of rfl).trans ?_
        refine (lc_eq r2).trans ?_
        rw [if_pos (figs_rng hf)]
        refine lc_ex.trans ?_
        refine (sel_of_f rfl).trans ?_; refine (ck_of rfl).trans ?_
        refine (ob_of ht).trans ?_
        refine (sel_of_t rfl).trans ?_
        refine zz ?_
        simp [lt, len, fv, fln, fch, hf, figs_rng hf]
        omega
      · rw [if_neg hf]
        refine lc_ex.trans ?_
        refine (sel_of_t rfl).trans ?_; refine (sel_of_t rfl).trans ?_
        exact some_b (decide_eq_false fun h => hf (h.1.1 (by omega))).symm
    · refine (sel_of_f rfl).trans ?_; refine (sel_of_f rfl).trans ?_; refine (sel_of_t rfl).trans ?_; refine (sel_of_t rfl).trans ?_
      refine (lc_eq r2).trans ?_
      by_cases hf : rng 32 126 v
      · rw [if_pos hf]
        refine lc_ex.trans ?_
        refine (sel_of_f rfl).trans ?_; refine (ck_of rfl).trans ?_
        refine (ob_of ht).trans ?_
        refine (sel_of_f rfl).trans ?_
        refine zz ?_
        simp [beq, len, fv, fln, fch, hf]
      · rw [if_neg hf]
        refine lc_ex.trans ?_
        refine (sel_of_t rfl).trans ?_; refine (sel_of_t rfl).trans ?_
        exact some_b (decide_eq_false fun h => hf (h.1.2 (by omega))).symm
    · refine (sel_of_f rfl).trans ?_; refine (sel_of_f rfl).trans ?_; refine (sel_of_f rfl).trans ?_; refine (sel_of_t rfl).trans ?_
      refine (lc_eq r2).trans ?_
      by_cases hf : rng 32 126 v
      · rw [if_pos hf]
        refine lc_ex.trans ?_
        refine (sel_of_f rfl).trans ?_; refine (ck_of rfl).trans ?_
        refine (ob_of ht).trans ?_
        refine (sel_of_t rfl).trans ?_
        refine zz ?_
        simp [lt, len, fv, fln, fch, hf]
        omega
      · rw [if_neg hf]
        refine lc_ex.trans ?_
        refine (sel_of_t rfl).trans ?_; refine (sel_of_t rfl).trans ?_
        exact some_b (decide_eq_false fun h => hf (h.1.2 (by omega))).symm
    · refine (sel_of_f rfl).trans ?_; refine (sel_of_f rfl).trans ?_; refine (sel_of_f rfl).trans ?_; refine (sel_of_f rfl).trans ?_; refine (sel_of_t rfl).trans ?_
      refine (lc_eq r2).trans ?_
      by_cases hf : rng 32 126 v
      · rw [if_pos hf]
        refine lc_ex.trans ?_
        refine (sel_of_f rfl).trans ?_; refine (ck_of rfl).trans ?_
        refine (ob_of ht).trans ?_
        refine (sel_of_t rfl).trans ?_
        refine zz ?_
        simp [lt, len, fv, fln, fch, hf]
        omega
      · rw [if_neg hf]
        refine lc_ex.trans ?_
        refine (sel_of_t rfl).trans ?_; refine (sel_of_t rfl).trans ?_
        exact some_b (decide_eq_false fun h => hf (h.1.2 (by omega))).symm
    · refine (sel_of_f rfl).trans ?_; refine (sel_of_f rfl).trans ?_; refine (sel_of_f rfl).trans ?_; refine (sel_of_f rfl).trans ?_; refine (sel_of_f rfl).trans ?_
      refine (ob_of ht).trans ?_
      refine (sel_of_f rfl).trans ?_
      refine zz ?_
      simp [beq, len, fv, fln, fch]
    · refine (sel_of_f rfl).trans ?_; refine (sel_of_f rfl).trans ?_; refine (sel_of_f rfl).trans ?_; refine (sel_of_f rfl).trans ?_; refine (sel_of_f rfl).trans ?_
      refine (ob_of ht).trans ?_
      refine (sel_of_t rfl).trans ?_
      refine zz ?_
      simp [lt, len, fv, fln, fch]
      omega
end Yp
namespace Yp
open Go
theorem ref05_fits_spec (k l : Int) (v : List UInt8) (hl : v.length ≤ 1000000) : ∃ b, ref05_fits ((k, l, ()), v, ()) = some (b, ()) ∧ (1 ≤ k → b = decide (fv k l v)) := by
  unfold ref05_fits
  generalize hf : (fun (x_1 : Bool × Int × Unit) => _) = f
  have n48 : n8 (u8 48) = 48 := by decide
  have n57 : n8 (u8 57) = 57 := by decide
  have n32 : n8 (u8 32) = 32 := by decide
  have n126 : n8 (u8 126) = 126 := by decide
  have key := loop_find (f := f) (fun i => (false, (i : Int), ())) v.length (fun i => (k ≤ 2 → 48 ≤ n8 (nth v i (u8 0)) ∧ n8 (nth v i (u8 0)) ≤ 57) ∧ (3 ≤ k → k ≤ 5 → 32 ≤ n8 (nth v i (u8 0)) ∧ n8 (nth v i (u8 0)) ≤ 126)) (fun i => .rt (false, ())) 0 (fun _ => trivial) ?_ ?_ ?_
  · rcases key with ⟨h, hr⟩ | ⟨i, hi, _, hp, hr⟩
    · refine ⟨fln k l v.length, ?_, fun hk => ?_⟩
      · refine (lc_eq hr).trans ?_
        refine lc_ex.trans ?_
        refine (ck_of rfl).trans ?_
        by_cases hk : k = 1 ∨ k = 3 ∨ k = 6
        · refine (ob_of (a := (true, ())) ?_).trans ?_
          · rcases hk with rfl | rfl | rfl
            · exact sel_of_t rfl
            · exact (sel_of_f rfl).trans (sel_of_t rfl)
            · exact (sel_of_f rfl).trans ((sel_of_f rfl).trans rfl)
          · refine (sel_of_t rfl).trans ?_
            refine some_b ?_
            rw [Bool.eq_iff_iff]
            simp only [beq, len, fln, if_pos hk, decide_eq_true_eq, beq_iff_eq]
        · refine (ob_of (a := (false, ())) ?_).trans ?_
          · exact (sel_of_f (beq_f (fun h => hk (.inl h)))).trans ((sel_of_f (beq_f (fun h => hk (.inr (.inl h))))).trans (some_b (beq_f (fun h => hk (.inr (.inr h))))))
          · refine (sel_of_f rfl).trans ?_
            by_cases h1 : 1 ≤ v.length
            · refine (ob_of (sel_of_t (le_t (by simp only [len]; omega)))).trans ?_
              refine some_b ?_
              rw [Bool.eq_iff_iff]
              simp only [le, len, fln, if_neg hk, decide_eq_true_eq]; exact (decide_eq_true_iff (p := (v.length : Int) ≤ l)).trans ⟨fun h => ⟨h1, h⟩, fun h => h.2⟩
            · refine (ob_of (sel_of_f (le_f (by simp only [len]; omega)))).trans ?_
              refine some_b ?_
              rw [Bool.eq_iff_iff]
              simp only [fln, if_neg hk, decide_eq_true_eq, Bool.false_eq_true, false_iff]; omega
      · have hc : fch k v := by
          refine ⟨fun h2 i hi => ?_, fun h5 i hi => ?_⟩
          · have := (h i hi).1 h2
            rw [nth_get hi, n8_nat] at this
            unfold isFig; omega
          · by_cases h2 : k ≤ 2
            · have := (h i hi).1 h2
              rw [nth_get hi] at this; omega
            · have := (h i hi).2 (by omega) h5
              rw [nth_get hi] at this; omega
        rw [Bool.eq_iff_iff]
        simp [fv, hc]
    · refine ⟨false, (lc_eq hr).trans rfl, fun hk => (decide_eq_false fun hc => hp ⟨fun h2 => ?_, fun h3 h5 => ?_⟩).symm⟩
      · have := hc.1.1 h2 i hi
        unfold isFig at this
        rw [nth_get hi, n8_nat]; omega
      · have := hc.1.2 h5 i hi
        rw [nth_get hi]; omega
  · intro i hi hp
    subst hf
    refine (sel_of_t (lt_nat.trans (decide_eq_true hi))).trans ?_
    have c : i64 (iadd (i : Int) 1) = ((i + 1 : Nat) : Int) := i64_add (b := 1) (by omega)
    have ci : inB (i : Int) (len v) = true := inB_nat hi
    simp only [nat_nat, c, n48, n57, n32, n126, ci]
    refine (ob_of (a := (false, ())) ?_).trans rfl
    by_cases h2 : k ≤ 2
    · have := hp.1 h2
      refine (sel_of_t (le_t h2)).trans ?_
      refine (ck_of rfl).trans ?_
      refine (sel_of_f (lt_f (by omega))).trans ?_
      refine (ck_of rfl).trans ?_
      refine (sel_of_f (lt_f (by omega))).trans ?_
      exact sel_of_f (le_f (show ¬ 3 ≤ k by omega))
    · refine (sel_of_f (le_f h2)).trans ?_
      refine (sel_of_t (le_t (show 3 ≤ k by omega))).trans ?_
      by_cases h5 : k ≤ 5
      · have := hp.2 (by omega) h5
        refine (sel_of_t (le_t h5)).trans ?_
        refine (ck_of rfl).trans ?_
        refine (sel_of_f (lt_f (by omega))).trans ?_
        refine (ck_of rfl).trans ?_
        exact some_b (lt_f (by omega))
      · exact sel_of_f (le_f h5)
  · intro i hi hp
    subst hf
    refine (sel_of_t (lt_nat.trans (decide_eq_true hi))).trans ?_
    have ci : inB (i : Int) (len v) = true := inB_nat hi
    simp only [nat_nat, n48, n57, n32, n126, ci]
    refine (ob_of (a := (true, ())) ?_).trans rfl
    by_cases h2 : k ≤ 2
    · refine (sel_of_t (le_t h2)).trans ?_
      refine (ck_of rfl).trans ?_
      by_cases ha : n8 (nth v i (u8 0)) < 48
      · exact sel_of_t (lt_t ha)
      · refine (sel_of_f (lt_f ha)).trans ?_
        refine (ck_of rfl).trans ?_
        refine (sel_of_t (lt_t ?_)).trans rfl
        refine Classical.byContradiction fun hb => hp ⟨fun _ => by omega, fun h => by omega⟩
    · by_cases h5 : k ≤ 5
      · refine (sel_of_f (le_f h2)).trans ?_
        refine (sel_of_t (le_t (show 3 ≤ k by omega))).trans ?_
        refine (sel_of_t (le_t h5)).trans ?_
        refine (ck_of rfl).trans ?_
        by_cases ha : n8 (nth v i (u8 0)) < 32
        · exact sel_of_t (lt_t ha)
        · refine (sel_of_f (lt_f ha)).trans ?_
          refine (ck_of rfl).trans ?_
          refine some_b (lt_t ?_)
          refine Classical.byContradiction fun hb => hp ⟨fun _ => by omega, fun _ _ => by omega⟩
      · exact absurd ⟨fun h => absurd h h2, fun _ h => absurd h h5⟩ hp
  · subst hf
    exact sel_of_f (lt_f (by simp only [len]; omega))
theorem ref05_Fits_spec (no : Int) (v : List UInt8) (hl : v.length ≤ 1000000) : ref05_Fits (no, v, ()) = some (fitsD no v, ()) := by
  unfold ref05_Fits fitsD
  refine (ob_of (ref05_Of_spec no)).trans ?_
  cases ho : formOf no with
  | none =>
    rw [fr_none rfl]
    obtain ⟨b, hb, _⟩ := ref05_fits_spec 0 0 v hl
    refine (ob_of hb).trans ?_
    exact (ob_of (sel_of_f rfl)).trans rfl
  | some p =>
    obtain ⟨k, l⟩ := p
    rw [fr_some rfl]
    obtain ⟨b, hb, h⟩ := ref05_fits_spec k l v hl
    refine (ob_of hb).trans ?_
    refine (ob_of (sel_of_t rfl)).trans (some_b (h ?_))
    have := (form_ok ho).1
    unfold kinds at this; omega
def hdr (k : Int) (n : Nat) : List UInt8 := if 0 < cnt k then bcd (pad (ps 10 dch n (cnt k).toNat)) else []
def body (k : Int) (v : List UInt8) : List UInt8 := if k ≤ 2 then bcd (pad v) else v
def wrF (k : Int) (v : List UInt8) : List UInt8 := hdr k v.length ++ body k v
def wrD (no : Int) (v : List UInt8) : List UInt8 × Int × Unit := match formOf no with | none => ([], 12, ()) | some (k, l) => if fv k l v then (wrF k v, 0, ()) else ([], 1, ())
theorem bcd_length (p : List UInt8) : (bcd p).length = p.length / 2 := by simp [bcd]
theorem bcdpad_length (p : List UInt8) : (bcd (pad p)).length = (p.length + 1) / 2 := by rw [bcd_length, pad_length]; omega
theorem body_length (k : Int) (v : List UInt8) : (body k v).length = if k ≤ 2 then (v.length + 1) / 2 else v.length := by
  unfold body; split
  · exact bcdpad_length v
  · rfl
theorem cnt_lt {k l : Int} {v : List UInt8} (hk : kinds k) (h99 : k = 2 ∨ k = 4 → l ≤ 99) (h400 : l ≤ 400) (hv : fv k l v) (h0 : 0 < cnt k) : (1 ≤ cnt k ∧ cnt k ≤ 18) ∧ (0 ≤ (v.length : Int) ∧ (v.length : Int) < 10 ^ (cnt k).toNat) ∧ 1 ≤ v.length ∧ (v.length : Int) ≤ l := by
  have := hv.2
  unfold fln at this
  rcases hk with rfl | rfl | rfl | rfl | rfl | rfl | rfl
  · exact absurd h0 (by decide)
  · have h2 : (10 : Int) ^ (cnt 2).toNat = 100 := by decide
    rw [if_neg (by decide)] at this
    rw [h2]; exact ⟨by decide, by omega, by omega⟩
  · exact absurd h0 (by decide)
  · have h2 : (10 : Int) ^ (cnt 4).toNat = 100 := by decide
    rw [if_neg (by decide)] at this
    rw [h2]; exact ⟨by decide, by omega, by omega⟩
  · have h2 : (10 : Int) ^ (cnt 5).toNat = 1000 := by decide
    rw [if_neg (by decide)] at this
    rw [h2]; exact ⟨by decide, by omega, by omega⟩
  · exact absurd h0 (by decide)
  · have h2 : (10 : Int) ^ (cnt 7).toNat = 1000 := by decide
    rw [if_neg (by decide)] at this
    rw [h2]; exact ⟨by decide, by omega, by omega⟩
theorem cnt_range {k : Int} (hk : kinds k) : cnt k = 0 ∨ cnt k = 2 ∨ cnt k = 3 := by
  unfold cnt; split
  · simp
  · split <;> simp
theorem num_sel {k : Int} (hk : kinds k) : (sel (beq k 1) (some (true, ())) (some (beq k 2, ())) : Option (Bool × Unit)) = some (decide (k ≤ 2), ()) := by
  rcases hk with rfl | rfl | rfl | rfl | rfl | rfl | rfl <;> rfl
theorem field_Write_spec (no : Int) (v : List UInt8) (hl : v.length ≤ 1000000) : field_Write (no, v, ()) = some (wrD no v) := by
  unfold field_Write wrD
  refine (ob_of (field_Of_spec no)).trans ?_
  cases ho : formOf no with
  | none => rfl
  | some p =>
    obtain ⟨k, l⟩ := p
    rw [fr_some rfl]
    obtain ⟨hk, h1, h400, h99⟩ := form_ok ho
    refine (sel_of_f rfl).trans ?_
    refine (ob_of (field_Fits_spec no v hl)).trans ?_
    have hfd : fitsD no v = decide (fv k l v) := by unfold fitsD; rw [ho]
    rw [hfd]
    by_cases hv : fv k l v
    rotate_left
    · rw [decide_eq_false hv]
      refine (sel_of_t rfl).trans ?_
      simp only [if_neg hv]; rfl
    rw [decide_eq_true hv]
    refine (sel_of_f rfl).trans ?_
    simp only [if_pos hv]
    refine (ob_of (field_told_spec hk)).trans ?_
    have hb := num_sel hk
    have hfig : k ≤ 2 → dig_Bcd (v, ()) = some (body k v, 0, ()) := fun h => by
      rw [dig_Bcd_spec v hl, if_pos (hv.1.1 h)]; unfold body; rw [if_pos h]
    have hvl := body_length k v
    by_cases h0 : 0 < cnt k
    · obtain ⟨c1, c2, c3⟩ := cnt_lt hk h99 h400 hv h0
      refine (sel_of_t (lt_t h0)).trans ?_
      have hd : dig_Digits (len v, cnt k, ()) = some (ps 10 dch v.length (cnt k).toNat, 0, ()) := by
        rw [dig_Digits_spec _ _ (by simp only [len]; omega), if_pos ⟨c1.1, c1.2, c2⟩]; rfl
      refine (ob_of hd).trans ?_
      have hbc : dig_Bcd (ps 10 dch v.length (cnt k).toNat, ()) = some (hdr k v.length, 0, ()) := by
        rw [dig_Bcd_spec _ (by rw [ps_length]; omega), if_pos figs_ps]; unfold hdr; rw [if_pos h0]
      refine (ob_of hbc).trans ?_
      refine (ob_of hb).trans ?_
      have hhl : (hdr k v.length).length ≤ 10 := by
        unfold hdr; rw [if_pos h0, bcdpad_length, ps_length]; omega
      by_cases h2 : k ≤ 2
      · refine (sel_of_t (decide_eq_true h2)).trans ?_
        refine (ob_of (hfig h2)).trans ?_
        rw [if_pos h2] at hvl
        exact (ck_of (rm_t (by simp only [nadd, ln]; omega))).trans rfl
      · refine (sel_of_f (decide_eq_false h2)).trans ?_
        refine (ck_of (rm_t (by simp only [nadd, ln]; omega))).trans ?_
        have : body k v = v := by unfold body; rw [if_neg h2]
        simp only [wrF, this]; rfl
    · refine (sel_of_f (lt_f h0)).trans ?_
      refine (ob_of hb).trans ?_
      have hh : hdr k v.length = [] := by unfold hdr; rw [if_neg h0]
      by_cases h2 : k ≤ 2
      · refine (sel_of_t (decide_eq_true h2)).trans ?_
        refine (ob_of (hfig h2)).trans ?_
        rw [if_pos h2] at hvl
        refine (ck_of (rm_t (by simp only [ln]; omega))).trans ?_
        simp only [wrF, hh, List.nil_append]
      · refine (sel_of_f (decide_eq_false h2)).trans ?_
        refine (ck_of (rm_t (by simp only [ln]; omega))).trans ?_
        have : body k v = v := by unfold body; rw [if_neg h2]
        simp only [wrF, this, hh, List.nil_append]
theorem ref05_Write_spec (no : Int) (v : List UInt8) (hl : v.length ≤ 1000000) : ref05_Write (no, v, ()) = some (wrD no v) := by
  unfold ref05_Write wrD
  refine (ob_of (ref05_Of_spec no)).trans ?_
  cases ho : formOf no with
  | none => rfl
  | some p =>
    obtain ⟨k, l⟩ := p
    rw [fr_some rfl]
    obtain ⟨hk, h1, h400, h99⟩ := form_ok ho
    refine (sel_of_f rfl).trans ?_
    obtain ⟨b, hb, he⟩ := ref05_fits_spec k l v hl
    refine (ob_of hb).trans ?_
    rw [he (by unfold kinds at hk; omega)]
    by_cases hv : fv k l v
    rotate_left
    · rw [decide_eq_false hv]
      refine (sel_of_t rfl).trans ?_
      simp only [if_neg hv]; rfl
    rw [decide_eq_true hv]
    refine (sel_of_f rfl).trans ?_
    simp only [if_pos hv]
    refine (ob_of (ref05_count_spec hk)).trans ?_
    have hfig : k ≤ 2 → ref01_Bcd (v, ()) = some (body k v, 0, ()) := fun h => by
      rw [ref01_Bcd_spec v hl, if_pos (hv.1.1 h)]; unfold body; rw [if_pos h]
    have hvl := body_length k v
    by_cases h0 : 0 < cnt k
    · obtain ⟨c1, c2, c3⟩ := cnt_lt hk h99 h400 hv h0
      refine (sel_of_t (lt_t h0)).trans ?_
      refine (ob_of (ref05_count_spec hk)).trans ?_
      have hd : ref01_Digits (len v, cnt k, ()) = some (ps 10 dch v.length (cnt k).toNat, 0, ()) := by
        rw [ref01_Digits_spec _ _ (by simp only [len]; omega), if_pos ⟨c1.1, c1.2, c2⟩]; rfl
      refine (ob_of hd).trans ?_
      have hbc : ref01_Bcd (ps 10 dch v.length (cnt k).toNat, ()) = some (hdr k v.length, 0, ()) := by
        rw [ref01_Bcd_spec _ (by rw [ps_length]; omega), if_pos figs_ps]; unfold hdr; rw [if_pos h0]
      refine (ob_of hbc).trans ?_
      have hhl : (hdr k v.length).length ≤ 10 := by
        unfold hdr; rw [if_pos h0, bcdpad_length, ps_length]; omega
      by_cases h2 : k ≤ 2
      · refine (sel_of_t (decide_eq_true h2)).trans ?_
        refine (ob_of (hfig h2)).trans ?_
        rw [if_pos h2] at hvl
        refine (ck_of (rm_t (by simp only [nadd, ln, none', List.length_nil]; omega))).trans ?_
        exact (ck_of (rm_t (by simp only [nadd, ln, none', app, List.length_append, List.length_nil]; omega))).trans rfl
      · refine (sel_of_f (decide_eq_false h2)).trans ?_
        refine (ck_of (rm_t (by simp only [nadd, ln, none', List.length_nil]; omega))).trans ?_
        refine (ck_of (rm_t (by simp only [nadd, ln, none', app, List.length_append, List.length_nil]; omega))).trans ?_
        have : body k v = v := by unfold body; rw [if_neg h2]
        simp only [wrF, this]; rfl
    · refine (sel_of_f (lt_f h0)).trans ?_
      have hh : hdr k v.length = [] := by unfold hdr; rw [if_neg h0]
      by_cases h2 : k ≤ 2
      · refine (sel_of_t (decide_eq_true h2)).trans ?_
        refine (ob_of (hfig h2)).trans ?_
        rw [if_pos h2] at hvl
        refine (ck_of rfl).trans ?_
        refine (ck_of (rm_t (by simp only [nadd, ln, none', app, List.length_append, List.length_nil]; omega))).trans ?_
        simp only [wrF, hh, List.nil_append]; rfl
      · refine (sel_of_f (decide_eq_false h2)).trans ?_
        refine (ck_of rfl).trans ?_
        refine (ck_of (rm_t (by simp only [nadd, ln, none', app, List.length_append, List.length_nil]; omega))).trans ?_
        have : body k v = v := by unfold body; rw [if_neg h2]
        simp only [wrF, this, hh, List.nil_append]; rfl
theorem ref01_Same_spec (a b : List UInt8) : ref01_Same (a, b, ()) = some (seq a b, ()) := rfl
end Yp