/-
  What the program's functions compute.
-/
import Derived.Test.YtacknokheanpbaaCAT
namespace Go.Su.Ytacknokheanpbaa
open Go.Mx Go.Proofs
set_option maxRecDepth 100000
set_option maxHeartbeats 4000000
set_option linter.unusedVariables false
set_option linter.unusedSimpArgs false

def hand_Pick (n : Nat) (a0 : Int) (a1 : Int) : Option Int :=
  bif (a1 == 0) then none else
  jn (fun (i2 : Int) =>
    some i2) fun J3 =>
    bif decide ((a0.tmod a1) < 0) then
      J3 (wr ((a0.tmod a1) + a1))
    else
      J3 (a0.tmod a1)

def law18_of_L0 : Nat → Arr4_i64 → Int → Int → Int → Int → Int → Option Arr4_i64
  | 0, _, _, _, _, _, _ => none
  | n + 1, a0, i3, i4, i5, i6, i7 =>
    bif decide (i7 < 4) then
      (idx [a0.e0, a0.e1, a0.e2, a0.e3] i7).bind fun x8 =>
      (hand_Pick n x8 4).bind fun r9 =>
      (idx [i3, i4, i5, i6] i7).bind fun x10 =>
      law18_of_L0 n a0 (selA i7 0 r9 i3) (selA i7 1 r9 i4) (selA i7 2 r9 i5) (selA i7 3 r9 i6) (wr (i7 + 1))
    else
      some (Arr4_i64.mk i3 i4 i5 i6)
def law18_of (n : Nat) (a0 : Arr4_i64) : Option Arr4_i64 :=
  law18_of_L0 n a0 0 0 0 0 0

def clock_Join_L0 : Nat → Arr4_i64 → Arr4_i64 → Int → Int → Int → Int → Int → Option Arr4_i64
  | 0, _, _, _, _, _, _, _ => none
  | n + 1, a0, a1, i3, i4, i5, i6, i7 =>
    bif decide (i7 < 4) then
      (idx [i3, i4, i5, i6] i7).bind fun x8 =>
      (idx [a1.e0, a1.e1, a1.e2, a1.e3] i7).bind fun x9 =>
      (idx [i3, i4, i5, i6] i7).bind fun x10 =>
      clock_Join_L0 n a0 a1 (selA i7 0 (gomax x8 x9) i3) (selA i7 1 (gomax x8 x9) i4) (selA i7 2 (gomax x8 x9) i5) (selA i7 3 (gomax x8 x9) i6) (wr (i7 + 1))
    else
      some (Arr4_i64.mk i3 i4 i5 i6)
def clock_Join (n : Nat) (a0 : Arr4_i64) (a1 : Arr4_i64) : Option Arr4_i64 :=
  clock_Join_L0 n a0 a1 a0.e0 a0.e1 a0.e2 a0.e3 0

def clock_Below (n : Nat) (a0 : Arr4_i64) (a1 : Arr4_i64) : Option Bool :=
  (clock_Join n a0 a1).bind fun r1 =>
  some (andL [r1.e0 == a1.e0, r1.e1 == a1.e1, r1.e2 == a1.e2, r1.e3 == a1.e3])

def clock_Apart (n : Nat) (a0 : Arr4_i64) (a1 : Arr4_i64) : Option Bool :=
  jn (fun (b1 : Bool) =>
    some b1) fun J2 =>
    (clock_Below n a0 a1).bind fun r3 =>
    bif !r3 then
      (clock_Below n a1 a0).bind fun r4 =>
      J2 (!r4)
    else
      J2 false

def clock_Tick (n : Nat) (a0 : Arr4_i64) (a1 : Int) : Option Arr4_i64 :=
  jn (fun (b1 : Bool) =>
    jn (fun (i3 : Int) (i4 : Int) (i5 : Int) (i6 : Int) =>
      some (Arr4_i64.mk i3 i4 i5 i6)) fun J7 =>
      bif b1 then
        (idx [a0.e0, a0.e1, a0.e2, a0.e3] a1).bind fun x8 =>
        (idx [a0.e0, a0.e1, a0.e2, a0.e3] a1).bind fun x9 =>
        J7 (selA a1 0 (wr (x8 + 1)) a0.e0) (selA a1 1 (wr (x8 + 1)) a0.e1) (selA a1 2 (wr (x8 + 1)) a0.e2) (selA a1 3 (wr (x8 + 1)) a0.e3)
      else
        J7 a0.e0 a0.e1 a0.e2 a0.e3) fun J2 =>
    bif decide (a1 ≥ 0) then
      J2 (decide (a1 < 4))
    else
      J2 false

def law18_known (n : Nat) : Option Bool :=
  jn (fun (b1 : Bool) =>
    some b1) fun J2 =>
    (clock_Apart n (Arr4_i64.mk 1 0 0 0) (Arr4_i64.mk 0 1 0 0)).bind fun r3 =>
    bif r3 then
      (clock_Tick n (Arr4_i64.mk 0 0 0 0) 1).bind fun r4 =>
      bif andL [r4.e0 == 0, r4.e1 == 1, r4.e2 == 0, r4.e3 == 0] then
        (clock_Join n (Arr4_i64.mk 1 0 0 0) (Arr4_i64.mk 0 2 0 0)).bind fun r5 =>
        J2 (andL [r5.e0 == 1, r5.e1 == 2, r5.e2 == 0, r5.e3 == 0])
      else
        J2 false
    else
      J2 false

def ref13_Join_L0 : Nat → Arr4_i64 → Arr4_i64 → Int → Int → Int → Int → Int → Option Arr4_i64
  | 0, _, _, _, _, _, _, _ => none
  | n + 1, a0, a1, i3, i4, i5, i6, i7 =>
    bif decide (i7 < 4) then
      (idx [i3, i4, i5, i6] i7).bind fun x8 =>
      (idx [a1.e0, a1.e1, a1.e2, a1.e3] i7).bind fun x9 =>
      (idx [i3, i4, i5, i6] i7).bind fun x10 =>
      ref13_Join_L0 n a0 a1 (selA i7 0 (gomax x8 x9) i3) (selA i7 1 (gomax x8 x9) i4) (selA i7 2 (gomax x8 x9) i5) (selA i7 3 (gomax x8 x9) i6) (wr (i7 + 1))
    else
      some (Arr4_i64.mk i3 i4 i5 i6)
def ref13_Join (n : Nat) (a0 : Arr4_i64) (a1 : Arr4_i64) : Option Arr4_i64 :=
  ref13_Join_L0 n a0 a1 a0.e0 a0.e1 a0.e2 a0.e3 0

def ref13_Below (n : Nat) (a0 : Arr4_i64) (a1 : Arr4_i64) : Option Bool :=
  (ref13_Join n a0 a1).bind fun r1 =>
  some (andL [r1.e0 == a1.e0, r1.e1 == a1.e1, r1.e2 == a1.e2, r1.e3 == a1.e3])

def ref13_Tick (n : Nat) (a0 : Arr4_i64) (a1 : Int) : Option Arr4_i64 :=
  jn (fun (b1 : Bool) =>
    jn (fun (i3 : Int) (i4 : Int) (i5 : Int) (i6 : Int) =>
      some (Arr4_i64.mk i3 i4 i5 i6)) fun J7 =>
      bif b1 then
        (idx [a0.e0, a0.e1, a0.e2, a0.e3] a1).bind fun x8 =>
        (idx [a0.e0, a0.e1, a0.e2, a0.e3] a1).bind fun x9 =>
        J7 (selA a1 0 (wr (x8 + 1)) a0.e0) (selA a1 1 (wr (x8 + 1)) a0.e1) (selA a1 2 (wr (x8 + 1)) a0.e2) (selA a1 3 (wr (x8 + 1)) a0.e3)
      else
        J7 a0.e0 a0.e1 a0.e2 a0.e3) fun J2 =>
    bif decide (a1 ≥ 0) then
      J2 (decide (a1 < 4))
    else
      J2 false

def law18_ClockTells (n : Nat) (a0 : Arr4_i64) (a1 : Arr4_i64) (a2 : Int) (a3 : Bool) : Option Bool :=
  (law18_of n a0).bind fun r1 =>
  (law18_of n a1).bind fun r2 =>
  jn (fun (v3 : Arr4_i64) =>
    (hand_Pick n a2 8).bind fun r5 =>
    jn (fun (b6 : Bool) =>
      some b6) fun J7 =>
      (law18_known n ).bind fun r8 =>
      bif r8 then
        (clock_Join n v3 r2).bind fun r9 =>
        (ref13_Join n v3 r2).bind fun r10 =>
        bif andL [r9.e0 == r10.e0, r9.e1 == r10.e1, r9.e2 == r10.e2, r9.e3 == r10.e3] then
          (clock_Below n v3 r2).bind fun r11 =>
          (ref13_Below n v3 r2).bind fun r12 =>
          bif (r11 == r12) then
            (clock_Apart n v3 r2).bind fun r13 =>
            (ref13_Below n v3 r2).bind fun r14 =>
            bif !r14 then
              (ref13_Below n r2 v3).bind fun r17 =>
              bif (r13 == (!r17)) then
                bif a3 then
                  J7 true
                else
                  (clock_Tick n v3 (wr (r5 - 2))).bind fun r18 =>
                  (ref13_Tick n v3 (wr (r5 - 2))).bind fun r19 =>
                  J7 (andL [r18.e0 == r19.e0, r18.e1 == r19.e1, r18.e2 == r19.e2, r18.e3 == r19.e3])
              else
                J7 false
            else
              bif (r13 == false) then
                bif a3 then
                  J7 true
                else
                  (clock_Tick n v3 (wr (r5 - 2))).bind fun r15 =>
                  (ref13_Tick n v3 (wr (r5 - 2))).bind fun r16 =>
                  J7 (andL [r15.e0 == r16.e0, r15.e1 == r16.e1, r15.e2 == r16.e2, r15.e3 == r16.e3])
              else
                J7 false
          else
            J7 false
        else
          J7 false
      else
        J7 false) fun J4 =>
    bif a3 then
      J4 a0
    else
      J4 r1

end Go.Su.Ytacknokheanpbaa
