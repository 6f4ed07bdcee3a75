/-
  What the program's functions compute.
-/
import Derived.Test.YtkmcnajbhclimaaZrHRm
namespace Go.Su.Ytkmcnajbhclimaa
open Go.Mx Go.Proofs
set_option maxRecDepth 100000
set_option maxHeartbeats 20000000
set_option linter.unusedVariables false
set_option linter.unusedSimpArgs false
def hand_Pick (n : Nat) (a0 : Int) (a1 : Int) : Option Int :=
 bif (a1 == 0) then none else
 jn (fun (i2 : Int) =>
  some i2) fun J3 =>
  bif decide ((a0.tmod a1) < 0) then
   J3 (wr ((a0.tmod a1) + a1))
  else
   J3 (a0.tmod a1)
def hand_Decls (n : Nat) (a0 : Int) : Option (List Decl) :=
 (hand_Pick n a0 3).bind fun r1 =>
 (hand_Pick n (wr (a0.tdiv 3)) 7).bind fun r2 =>
 jn (fun (l3 : List Decl) =>
  some l3) fun J4 =>
  bif (r2 == 4) then
   (idx [(Decl.mk 1 k_x 0 c0),(Decl.mk 1 k_y 0 c0),(Decl.mk 2 k_z 0 c0),(Decl.mk 3 k_a 0 c0),(Decl.mk 4 k_t 0 c0),(Decl.mk 5 k_m 0 c0),(Decl.mk 6 k_c r1 c0),(Decl.mk 6 k_d 0 c0)] 0).bind fun x5 =>
   J4 ([(Decl.mk 1 k_x 0 c0),(Decl.mk 1 k_y 0 c0),(Decl.mk 2 k_z 0 c0),(Decl.mk 3 k_a 0 c0),(Decl.mk 4 k_t 0 c0),(Decl.mk 5 k_m 0 c0),(Decl.mk 6 k_c r1 c0),(Decl.mk 6 k_d 0 c0)].set (0 : Int).toNat (Decl.mk 2 x5.Name x5.N x5.At))
  else
   bif (r2 == 5) then
    (idx [(Decl.mk 1 k_x 0 c0),(Decl.mk 1 k_y 0 c0),(Decl.mk 2 k_z 0 c0),(Decl.mk 3 k_a 0 c0),(Decl.mk 4 k_t 0 c0),(Decl.mk 5 k_m 0 c0),(Decl.mk 6 k_c r1 c0),(Decl.mk 6 k_d 0 c0)] 1).bind fun x6 =>
    J4 ([(Decl.mk 1 k_x 0 c0),(Decl.mk 1 k_y 0 c0),(Decl.mk 2 k_z 0 c0),(Decl.mk 3 k_a 0 c0),(Decl.mk 4 k_t 0 c0),(Decl.mk 5 k_m 0 c0),(Decl.mk 6 k_c r1 c0),(Decl.mk 6 k_d 0 c0)].set (1 : Int).toNat (Decl.mk 2 x6.Name x6.N x6.At))
   else
    bif (r2 == 6) then
     (idx [(Decl.mk 1 k_x 0 c0),(Decl.mk 1 k_y 0 c0),(Decl.mk 2 k_z 0 c0),(Decl.mk 3 k_a 0 c0),(Decl.mk 4 k_t 0 c0),(Decl.mk 5 k_m 0 c0),(Decl.mk 6 k_c r1 c0),(Decl.mk 6 k_d 0 c0)] 0).bind fun x7 =>
     J4 ([(Decl.mk 1 k_x 0 c0),(Decl.mk 1 k_y 0 c0),(Decl.mk 2 k_z 0 c0),(Decl.mk 3 k_a 0 c0),(Decl.mk 4 k_t 0 c0),(Decl.mk 5 k_m 0 c0),(Decl.mk 6 k_c r1 c0),(Decl.mk 6 k_d 0 c0)].set (0 : Int).toNat (Decl.mk 3 x7.Name x7.N x7.At))
    else
     J4 [(Decl.mk 1 k_x 0 c0),(Decl.mk 1 k_y 0 c0),(Decl.mk 2 k_z 0 c0),(Decl.mk 3 k_a 0 c0),(Decl.mk 4 k_t 0 c0),(Decl.mk 5 k_m 0 c0),(Decl.mk 6 k_c r1 c0),(Decl.mk 6 k_d 0 c0)]
def hand_acts (n : Nat) (a0 : List Act) : Option (List Act) :=
 bif decide ((ln a0) > 16) then
  (sub a0 0 16).bind fun l1 =>
  some l1
 else
  some a0
def hand_plain (n : Nat) (a0 : Int) : Option ByteArray :=
 (hand_Pick n a0 8).bind fun r1 =>
 (idx [k_x,k_x,k_y,k_z,k_a,k_t,k_x,k_y] r1).bind fun x2 =>
 some x2
def hand_Expr : Nat → (List Int) → Int → Option Expr
 | 0,_,_=>none
 | n + 1,a0,a1 =>
  bif ((ln a0) == 0) then
   some (Expr.mk 1 1 b0 [])
  else
   (idx a0 0).bind fun x1 =>
   (hand_Pick n x1 16).bind fun r2 =>
   jn (fun (w3 : ByteArray) (b4 : Bool) =>
    bif b4 then
     (hand_plain n (wr (x1.tdiv 16))).bind fun r6 =>
     some (Expr.mk 2 0 r6 [])
    else
     bif decide (r2 < 8) then
      (hand_Pick n (wr (x1.tdiv 16)) 5).bind fun r7 =>
      some (Expr.mk 1 r7 b0 [])
     else
      bif (r2 == 8) then
       (sub a0 1 (ln a0)).bind fun l8 =>
       (hand_Expr n l8 (wr (a1 + 1))).bind fun r9 =>
       some (Expr.mk 3 0 b0 [r9])
      else
       (hand_Pick n (wr (x1.tdiv 16)) 7).bind fun r10 =>
       (sub a0 1 (wr (1 + (wr ((ln a0).tdiv 2))))).bind fun l11 =>
       (hand_Expr n l11 (wr (a1 + 1))).bind fun r12 =>
       (sub a0 (wr (1 + (wr ((ln a0).tdiv 2)))) (ln a0)).bind fun l13 =>
       (hand_Expr n l13 (wr (a1 + 1))).bind fun r14 =>
       some (Expr.mk (wr (4 + r10)) 0 b0 [r12,r14])) fun J5 =>
    bif decide (r2 < 5) then
     J5 b0 true
    else
     J5 b0 (decide (a1 > 5))
def hand_short (n : Nat) (a0 : Act) : Option Expr :=
 jn (fun (w1 : ByteArray) (l2 : List Int) =>
  (hand_Expr n l2 0).bind fun r5 =>
  some r5) fun J3 =>
  bif decide ((ln a0.E) > 3) then
   (sub a0.E 0 3).bind fun l4 =>
   J3 b0 l4
  else
   J3 b0 a0.E
mutual
def hand_stmts_L0 : Nat → (List Act) → Int → Int → (List Act) → (List Stmt) → Option ((List Stmt) × (List Act))
 | 0,_,_,_,_,_=>none
 | n + 1,a0,a1,a2,l1,l2 =>
  jn (fun (b3 : Bool) =>
   bif b3 then
    (idx l1 0).bind fun x5 =>
    (sub l1 1 (ln l1)).bind fun l6 =>
    (hand_Pick n x5.What 24).bind fun r7 =>
    jn (fun (l8 : List Act) (i9 : Int) (w10 : ByteArray) (w11 : ByteArray) (i12 : Int) (i13 : Int) (i14 : Int) (w15 : ByteArray) (l16 : List Expr) (l17 : List Stmt) (l18 : List Stmt) =>
     bif room s_Stmt.i1.bytes l2.length [(Stmt.mk i9 w10 w11 i12 (Expr.mk i13 i14 w15 l16) l17 l18 c0)].length then
      hand_stmts_L0 n a0 a1 a2 l8 (l2 ++ [(Stmt.mk i9 w10 w11 i12 (Expr.mk i13 i14 w15 l16) l17 l18 c0)])
     else none) fun J19 =>
     bif decide (r7 < 9) then
      (hand_plain n x5.A).bind fun r20 =>
      (hand_short n x5).bind fun r21 =>
      J19 l6 1 r20 b0 0 r21.Kind r21.N r21.Name r21.Of ([] : List Stmt) ([] : List Stmt)
     else
      bif decide (r7 < 11) then
       J19 l6 2 k_m b0 0 0 0 b0 [] ([] : List Stmt) ([] : List Stmt)
      else
       bif decide (r7 < 13) then
        J19 l6 3 k_m b0 0 0 0 b0 [] ([] : List Stmt) ([] : List Stmt)
       else
        bif decide (r7 < 15) then
         (hand_Pick n x5.A 2).bind fun r22 =>
         (idx [k_c,k_d] r22).bind fun x23 =>
         (hand_short n x5).bind fun r24 =>
         J19 l6 4 x23 b0 0 r24.Kind r24.N r24.Name r24.Of ([] : List Stmt) ([] : List Stmt)
        else
         bif decide (r7 < 17) then
          (hand_Pick n x5.A 2).bind fun r25 =>
          (idx [k_c,k_d] r25).bind fun x26 =>
          (hand_plain n x5.B).bind fun r27 =>
          J19 l6 5 x26 r27 0 0 0 b0 [] ([] : List Stmt) ([] : List Stmt)
         else
          bif decide (r7 < 18) then
           (hand_short n x5).bind fun r28 =>
           J19 l6 6 b0 b0 0 r28.Kind r28.N r28.Name r28.Of ([] : List Stmt) ([] : List Stmt)
          else
           jn (fun (w29 : ByteArray) (w30 : ByteArray) (w31 : ByteArray) (b32 : Bool) =>
            bif b32 then
             (hand_short n x5).bind fun r34 =>
             (hand_Pick n x5.A 2).bind fun r35 =>
             (hand_stmts n l6 (wr (1 + r35)) (wr (a2 + 1))).bind fun r36 =>
             bif ((x5.B.tmod 3) == 0) then
              (hand_Pick n x5.N 2).bind fun r37 =>
              (hand_stmts n r36.2 (wr (1 + r37)) (wr (a2 + 1))).bind fun r38 =>
              J19 r38.2 7 w29 w30 0 r34.Kind r34.N r34.Name r34.Of r36.1 r38.1
             else
              J19 r36.2 7 w29 w30 0 r34.Kind r34.N r34.Name r34.Of r36.1 ([] : List Stmt)
            else
             jn (fun (b39 : Bool) =>
              bif b39 then
               (hand_Pick n x5.N 3).bind fun r41 =>
               (hand_Pick n x5.A 2).bind fun r42 =>
               (hand_stmts n l6 (wr (1 + r42)) (wr (a2 + 1))).bind fun r43 =>
               J19 r43.2 8 w29 w30 r41 0 0 w31 [] r43.1 ([] : List Stmt)
              else
               bif decide (r7 < 22) then
                (hand_Pick n x5.A 2).bind fun r44 =>
                (idx [k_l,k_k] r44).bind fun x45 =>
                J19 l6 9 x45 w30 0 0 0 w31 [] ([] : List Stmt) ([] : List Stmt)
               else
                bif decide (r7 < 23) then
                 (hand_Pick n x5.A 2).bind fun r46 =>
                 (idx [k_l,k_k] r46).bind fun x47 =>
                 J19 l6 10 x47 w30 0 0 0 w31 [] ([] : List Stmt) ([] : List Stmt)
                else
                 (hand_short n x5).bind fun r48 =>
                 J19 l6 1 k_t w30 0 r48.Kind r48.N r48.Name r48.Of ([] : List Stmt) ([] : List Stmt)) fun J40 =>
              bif decide (r7 < 21) then
               J40 (decide (a2 < 3))
              else
               J40 false) fun J33 =>
            bif decide (r7 < 20) then
             J33 b0 b0 b0 (decide (a2 < 3))
            else
             J33 b0 b0 b0 false
   else
    some (l2,l1)) fun J4 =>
   bif decide ((ln l2) < a1) then
    J4 (decide ((ln l1) > 0))
   else
    J4 false
def hand_stmts : Nat → (List Act) → Int → Int → Option ((List Stmt) × (List Act))
 | 0,_,_,_=>none
 | n + 1,a0,a1,a2 =>
  hand_stmts_L0 n a0 a1 a2 a0 ([] : List Stmt)
end
def hand_Prog_L0 : Nat → Int → (List Act) → (List Act) → (List Act) → Int → (List Decl) → ((List (List Stmt)) → Option Prog) → (List (List Stmt)) → Int → Option Prog
 | 0,_,_,_,_,_,_,_,_,_=>none
 | n + 1,a0,a1,a2,a3,a4,r1,J3,l4,i5 =>
  bif decide (i5 < 3) then
   (idx [a1,a2,a3] i5).bind fun x6 =>
   jn (fun (b7 : Bool) =>
    bif b7 then
     J3 l4
    else
     (hand_acts n x6).bind fun r9 =>
     (hand_stmts n r9 a4 1).bind fun r10 =>
     bif room s_LStmt.i1.bytes l4.length [r10.1].length then
      hand_Prog_L0 n a0 a1 a2 a3 a4 r1 J3 (l4 ++ [r10.1]) (wr (i5 + 1))
     else none) fun J8 =>
    bif (i5 == 2) then
     bif ((ln a3) == 0) then
      J8 true
     else
      J8 (decide (a4 > 4))
    else
     J8 false
  else
   J3 l4
def hand_Prog (n : Nat) (a0 : Int) (a1 : List Act) (a2 : List Act) (a3 : List Act) (a4 : Int) : Option Prog :=
 (hand_Decls n a0).bind fun r1 =>
 jn (fun (l2 : List (List Stmt)) =>
  some (Prog.mk r1 l2)) fun J3 =>
  hand_Prog_L0 n a0 a1 a2 a3 a4 r1 J3 ([] : List (List Stmt)) 0
mutual
def hand_marked_L0 : Nat → (List Stmt) → Int → Int → (List Stmt) → Int → Option ((List Stmt) × Int)
 | 0,_,_,_,_,_=>none
 | n + 1,a0,a1,i1,l2,i3 =>
  bif decide (i3 < (ln a0)) then
   (idx a0 i3).bind fun x4 =>
   (idx a0 i3).bind fun x5 =>
   (hand_marked n x5.Body (wr (i1 + 1))).bind fun r6 =>
   (idx a0 i3).bind fun x7 =>
   (hand_marked n x7.Else r6.2).bind fun r8 =>
   bif room s_Stmt.i1.bytes l2.length [(Stmt.mk x4.Kind x4.Name x4.Other x4.N x4.E r6.1 r8.1 (⟨FloatKind.f64.nearest i1,0⟩ : Cx))].length then
    hand_marked_L0 n a0 a1 r8.2 (l2 ++ [(Stmt.mk x4.Kind x4.Name x4.Other x4.N x4.E r6.1 r8.1 (⟨FloatKind.f64.nearest i1,0⟩ : Cx))]) (wr (i3 + 1))
   else none
  else
   some (l2,i1)
def hand_marked : Nat → (List Stmt) → Int → Option ((List Stmt) × Int)
 | 0,_,_=>none
 | n + 1,a0,a1 =>
  hand_marked_L0 n a0 a1 a1 ([] : List Stmt) 0
end
def hand_mark_L0 : Nat → Prog → Int → (List (List Stmt)) → Int → Option Prog
 | 0,_,_,_,_=>none
 | n + 1,a0,i1,l2,i3 =>
  bif decide (i3 < (ln a0.Threads)) then
   (idx a0.Threads i3).bind fun x4 =>
   (hand_marked n x4 i1).bind fun r5 =>
   bif room s_LStmt.i1.bytes l2.length [r5.1].length then
    hand_mark_L0 n a0 r5.2 (l2 ++ [r5.1]) (wr (i3 + 1))
   else none
  else
   some (Prog.mk a0.Decls l2)
def hand_mark (n : Nat) (a0 : Prog) : Option Prog :=
 hand_mark_L0 n a0 0 ([] : List (List Stmt)) 0
mutual
def ref8_marks_L0 : Nat → (List Stmt) → (List Int) → Int → Int → Int → (List Int) → (List Mark) → Int → Option ((List Mark) × Int)
 | 0,_,_,_,_,_,_,_,_=>none
 | n + 1,a0,a1,a2,a3,i3,l4,l5,i6 =>
  bif decide (i6 < (ln a0)) then
   (idx a0 i6).bind fun x7 =>
   bif room s_mark.i1.bytes l5.length [(Mark.mk x7 l4 a2)].length then
    (idx a0 i6).bind fun x9 =>
    (ref8_marks n x9.Body l4 a2 i3).bind fun r10 =>
    bif room s_mark.i1.bytes (l5 ++ [(Mark.mk x7 l4 a2)]).length r10.1.length then
     (idx a0 i6).bind fun x12 =>
     (ref8_marks n x12.Else l4 a2 r10.2).bind fun r13 =>
     bif room s_mark.i1.bytes ((l5 ++ [(Mark.mk x7 l4 a2)]) ++ r10.1).length r13.1.length then
      ref8_marks_L0 n a0 a1 a2 a3 r13.2 l4 (((l5 ++ [(Mark.mk x7 l4 a2)]) ++ r10.1) ++ r13.1) (wr (i6 + 1))
     else none
    else none
   else none
  else
   some (l5,i3)
def ref8_marks : Nat → (List Stmt) → (List Int) → Int → Int → Option ((List Mark) × Int)
 | 0,_,_,_,_=>none
 | n + 1,a0,a1,a2,a3 =>
  bif room s_int.i1.bytes ([] : List Int).length a1.length then
   bif room s_int.i1.bytes (([] : List Int) ++ a1).length [wr (a3 + 1)].length then
    ref8_marks_L0 n a0 a1 a2 a3 (wr (a3 + 1)) ((([] : List Int) ++ a1) ++ [wr (a3 + 1)]) ([] : List Mark) 0
   else none
  else none
end
def ref8_all_L0 : Nat → Prog → (List Mark) → Int → Int → Option (List Mark)
 | 0,_,_,_,_=>none
 | n + 1,a0,l1,i2,i3 =>
  bif decide (i3 < (ln a0.Threads)) then
   (idx a0.Threads i3).bind fun x4 =>
   (ref8_marks n x4 [] i3 i2).bind fun r5 =>
   bif room s_mark.i1.bytes l1.length r5.1.length then
    ref8_all_L0 n a0 (l1 ++ r5.1) r5.2 (wr (i3 + 1))
   else none
  else
   some l1
def ref8_all (n : Nat) (a0 : Prog) : Option (List Mark) :=
 ref8_all_L0 n a0 ([] : List Mark) 0 0
def ref8_within_L0 : Nat → Int → Mark → Int → Option Bool
 | 0,_,_,_=>none
 | n + 1,a0,a1,i1 =>
  bif decide (i1 < (ln a1.Block)) then
   (idx a1.Block i1).bind fun x2 =>
   bif (x2 == a0) then
    some true
   else
    ref8_within_L0 n a0 a1 (wr (i1 + 1))
  else
   some false
def ref8_within (n : Nat) (a0 : Int) (a1 : Mark) : Option Bool :=
 ref8_within_L0 n a0 a1 0
def ref8_target_L0 : Nat → (List Mark) → Int → Bool → Int → Option Int
 | 0,_,_,_,_=>none
 | n + 1,a0,a1,b1,i4 =>
  bif decide (i4 < (ln a0)) then
   (idx a0 i4).bind fun x5 =>
   jn (fun (b6 : Bool) =>
    bif b6 then
     some i4
    else
     ref8_target_L0 n a0 a1 b1 (wr (i4 + 1))) fun J7 =>
    bif (x5.S.Kind == 10) then
     (idx a0 a1).bind fun x8 =>
     bif bytesEq x5.S.Name x8.S.Name then
      (idx a0 a1).bind fun x9 =>
      bif (x5.At == x9.At) then
       (idx x5.Block (wr ((ln x5.Block) - 1))).bind fun x10 =>
       (idx a0 a1).bind fun x11 =>
       (ref8_within n x10 x11).bind fun r12 =>
       J7 r12
      else
       J7 false
     else
      J7 false
    else
     J7 false
  else
   some (-1)
def ref8_target (n : Nat) (a0 : List Mark) (a1 : Int) : Option Int :=
 jn (fun (b1 : Bool) =>
  bif b1 then
   some (-1)
  else
   ref8_target_L0 n a0 a1 b1 (wr (a1 + 1))) fun J2 =>
  bif decide (a1 < 0) then
   J2 true
  else
   bif decide (a1 ≥ (ln a0)) then
    J2 true
   else
    (idx a0 a1).bind fun x3 =>
    J2 (x3.S.Kind != 9)
mutual
def ref8_Jumps_L0 : Nat → Prog → (List Mark) → (List Mark) → Int → Option (Cx × Int)
 | 0,_,_,_,_=>none
 | n + 1,a0,r1,l2,i3 =>
  bif decide (i3 < (ln l2)) then
   (idx l2 i3).bind fun x4 =>
   jn (fun (b5 : Bool) =>
    bif b5 then
     some (x4.S.At,4)
    else
     ref8_Jumps_L1 n a0 r1 l2 i3 x4 b5 0) fun J6 =>
    bif (x4.S.Kind == 9) then
     (ref8_target n l2 i3).bind fun r7 =>
     J6 (decide (r7 < 0))
    else
     J6 false
  else
   some (c0,0)
def ref8_Jumps_L1 : Nat → Prog → (List Mark) → (List Mark) → Int → Mark → Bool → Int → Option (Cx × Int)
 | 0,_,_,_,_,_,_,_=>none
 | n + 1,a0,r1,l2,i3,x4,b5,i8 =>
  jn (fun (b9 : Bool) =>
   bif b9 then
    jn (fun (b11 : Bool) =>
     bif b11 then
      some (x4.S.At,4)
     else
      ref8_Jumps_L1 n a0 r1 l2 i3 x4 b5 (wr (i8 + 1))) fun J12 =>
     (idx l2 i8).bind fun x13 =>
     bif (x13.S.Kind == 10) then
      (idx l2 i8).bind fun x14 =>
      bif bytesEq x14.S.Name x4.S.Name then
       (idx l2 i8).bind fun x15 =>
       J12 (x15.At == x4.At)
      else
       J12 false
     else
      J12 false
   else
    ref8_Jumps_L0 n a0 r1 l2 (wr (i3 + 1))) fun J10 =>
   bif decide (i8 < i3) then
    J10 (x4.S.Kind == 10)
   else
    J10 false
end
def ref8_Jumps (n : Nat) (a0 : Prog) : Option (Cx × Int) :=
 (ref8_all n a0).bind fun r1 =>
 ref8_Jumps_L0 n a0 r1 r1 0
mutual
def hand_cut_L0 : Nat → (List Stmt) → Int → Int → Int → (List Stmt) → Int → Option ((List Stmt) × Int)
 | 0,_,_,_,_,_,_=>none
 | n + 1,a0,a1,a2,i1,l2,i3 =>
  bif decide (i3 < (ln a0)) then
   jn (fun (i4 : Int) (l5 : List Stmt) =>
    hand_cut_L0 n a0 a1 a2 i4 l5 (wr (i3 + 1))) fun J6 =>
    (idx a0 i3).bind fun x7 =>
    (idx a0 i3).bind fun x8 =>
    (hand_cut n x8.Body a1 (wr (i1 + 1))).bind fun r9 =>
    (idx a0 i3).bind fun x10 =>
    (hand_cut n x10.Else a1 r9.2).bind fun r11 =>
    bif (i1 != a1) then
     bif room s_Stmt.i1.bytes l2.length [(Stmt.mk x7.Kind x7.Name x7.Other x7.N x7.E r9.1 r11.1 x7.At)].length then
      J6 r11.2 (l2 ++ [(Stmt.mk x7.Kind x7.Name x7.Other x7.N x7.E r9.1 r11.1 x7.At)])
     else none
    else
     J6 r11.2 l2
  else
   some (l2,i1)
def hand_cut : Nat → (List Stmt) → Int → Int → Option ((List Stmt) × Int)
 | 0,_,_,_=>none
 | n + 1,a0,a1,a2 =>
  hand_cut_L0 n a0 a1 a2 a2 ([] : List Stmt) 0
end
def hand_without_L0 : Nat → Prog → Int → Int → (List (List Stmt)) → Int → Option Prog
 | 0,_,_,_,_,_=>none
 | n + 1,a0,a1,i1,l2,i3 =>
  bif decide (i3 < (ln a0.Threads)) then
   (idx a0.Threads i3).bind fun x4 =>
   (hand_cut n x4 a1 i1).bind fun r5 =>
   bif room s_LStmt.i1.bytes l2.length [r5.1].length then
    hand_without_L0 n a0 a1 r5.2 (l2 ++ [r5.1]) (wr (i3 + 1))
   else none
  else
   some (Prog.mk a0.Decls l2)
def hand_without (n : Nat) (a0 : Prog) (a1 : Int) : Option Prog :=
 hand_without_L0 n a0 a1 0 ([] : List (List Stmt)) 0
def hand_fixed_L0 : Nat → Prog → Prog → Int → Option Prog
 | 0,_,_,_=>none
 | n + 1,a0,v1,i2 =>
  bif decide (i2 < 40) then
   (hand_mark n v1).bind fun r3 =>
   (ref8_Jumps n r3).bind fun r4 =>
   bif (r4.2 == 0) then
    some v1
   else
    (f2i r4.1.re).bind fun x5 =>
    (hand_without n v1 x5).bind fun r6 =>
    hand_fixed_L0 n a0 r6 (wr (i2 + 1))
  else
   some (Prog.mk v1.Decls [[]])
def hand_fixed (n : Nat) (a0 : Prog) : Option Prog :=
 hand_fixed_L0 n a0 a0 0
def ref1_Digits : Nat → Int → Option ByteArray
 | 0,_=>none
 | n + 1,a0 =>
  bif decide (a0 < 10) then
   some (b2s [IntKind.u8.wrap (wr (48 + a0))])
  else
   (ref1_Digits n (wr (a0.tdiv 10))).bind fun r1 =>
   bif sroom r1 (b2s [IntKind.u8.wrap (wr (48 + (a0.tmod 10)))]) then
    some (r1 ++ (b2s [IntKind.u8.wrap (wr (48 + (a0.tmod 10)))]))
   else none
def ref1_tabs : Nat → Int → Option ByteArray
 | 0,_=>none
 | n + 1,a0 =>
  bif decide (a0 ≤ 0) then
   some b0
  else
   (ref1_tabs n (wr (a0 - 1))).bind fun r1 =>
   bif sroom x_09 r1 then
    some (x_09 ++ r1)
   else none
def ref1_level (n : Nat) (a0 : Int) : Option Int :=
 jn (fun (b1 : Bool) =>
  bif b1 then
   some 1
  else
   jn (fun (b3 : Bool) =>
    bif b3 then
     some 2
    else
     jn (fun (b5 : Bool) =>
      bif b5 then
       some 3
      else
       bif (a0 == 3) then
        some 4
       else
        jn (fun (b7 : Bool) =>
         bif b7 then
          some 5
         else
          some 0) fun J8 =>
         bif (a0 == 1) then
          J8 (a0 == 1)
         else
          J8 (a0 == 2)) fun J6 =>
      bif (a0 == 6) then
       J6 (a0 == 6)
      else
       bif (a0 == 7) then
        J6 (a0 == 7)
       else
        J6 (a0 == 8)) fun J4 =>
    bif (a0 == 4) then
     J4 (a0 == 4)
    else
     J4 (a0 == 5)) fun J2 =>
  bif (a0 == 9) then
   J2 (a0 == 9)
  else
   J2 (a0 == 10)
def ref1_sign (n : Nat) (a0 : Int) : Option ByteArray :=
 bif (a0 == 4) then
  some x_2b
 else
  bif (a0 == 5) then
   some x_2d
  else
   bif (a0 == 6) then
    some x_2a
   else
    bif (a0 == 7) then
     some x_2f
    else
     bif (a0 == 8) then
      some x_25
     else
      bif (a0 == 9) then
       some x_3c
      else
       some x_3d3d
mutual
def ref1_side : Nat → Expr → Int → Option ByteArray
 | 0,_,_=>none
 | n + 1,a0,a1 =>
  (ref1_level n a0.Kind).bind fun r1 =>
  bif decide (r1 < a1) then
   (ref1_show n a0).bind fun r2 =>
   bif sroom x_28 r2 then
    bif sroom (x_28 ++ r2) x_29 then
     some ((x_28 ++ r2) ++ x_29)
    else none
   else none
  else
   (ref1_show n a0).bind fun r5 =>
   some r5
def ref1_show : Nat → Expr → Option ByteArray
 | 0,_=>none
 | n + 1,a0 =>
  (ref1_level n a0.Kind).bind fun r1 =>
  jn (fun (b2 : Bool) =>
   bif b2 then
    (ref1_Digits n a0.N).bind fun r4 =>
    some r4
   else
    bif (a0.Kind == 2) then
     some a0.Name
    else
     jn (fun (b5 : Bool) =>
      bif b5 then
       (idx a0.Of 0).bind fun x7 =>
       (ref1_side n x7 4).bind fun r8 =>
       bif sroom x_2d r8 then
        some (x_2d ++ r8)
       else none
      else
       jn (fun (b10 : Bool) =>
        bif b10 then
         jn (fun (i12 : Int) =>
          (idx a0.Of 0).bind fun x14 =>
          (ref1_side n x14 i12).bind fun r15 =>
          bif sroom r15 x_20 then
           (ref1_sign n a0.Kind).bind fun r17 =>
           bif sroom (r15 ++ x_20) r17 then
            bif sroom ((r15 ++ x_20) ++ r17) x_20 then
             (idx a0.Of 1).bind fun x20 =>
             (ref1_side n x20 (wr (r1 + 1))).bind fun r21 =>
             bif sroom (((r15 ++ x_20) ++ r17) ++ x_20) r21 then
              some ((((r15 ++ x_20) ++ r17) ++ x_20) ++ r21)
             else none
            else none
           else none
          else none) fun J13 =>
          bif (r1 == 1) then
           J13 2
          else
           J13 r1
        else
         some x_3f) fun J11 =>
        bif decide (r1 ≥ 1) then
         bif decide (r1 ≤ 3) then
          J11 ((ln a0.Of) == 2)
         else
          J11 false
        else
         J11 false) fun J6 =>
      bif (a0.Kind == 3) then
       J6 ((ln a0.Of) == 1)
      else
       J6 false) fun J3 =>
   bif (a0.Kind == 1) then
    J3 (decide (a0.N ≥ 0))
   else
    J3 false
end
mutual
def ref1_lines_L0 : Nat → (List Stmt) → Int → ByteArray → ByteArray → Int → Option ByteArray
 | 0,_,_,_,_,_=>none
 | n + 1,a0,a1,r1,w3,i4 =>
  bif decide (i4 < (ln a0)) then
   (idx a0 i4).bind fun x5 =>
   jn (fun (w6 : ByteArray) =>
    bif sroom w3 r1 then
     bif sroom (w3 ++ r1) w6 then
      bif sroom ((w3 ++ r1) ++ w6) x_0a then
       ref1_lines_L0 n a0 a1 r1 (((w3 ++ r1) ++ w6) ++ x_0a) (wr (i4 + 1))
      else none
     else none
    else none) fun J7 =>
    bif (x5.Kind == 1) then
     bif sroom x5.Name x_203d20 then
      (ref1_show n x5.E).bind fun r9 =>
      bif sroom (x5.Name ++ x_203d20) r9 then
       J7 ((x5.Name ++ x_203d20) ++ r9)
      else none
     else none
    else
     bif (x5.Kind == 2) then
      bif sroom x_6c6f636b20 x5.Name then
       J7 (x_6c6f636b20 ++ x5.Name)
      else none
     else
      bif (x5.Kind == 3) then
       bif sroom x_756e6c6f636b20 x5.Name then
        J7 (x_756e6c6f636b20 ++ x5.Name)
       else none
      else
       bif (x5.Kind == 4) then
        bif sroom x_73656e6420 x5.Name then
         bif sroom (x_73656e6420 ++ x5.Name) x_20 then
          (ref1_show n x5.E).bind fun r15 =>
          bif sroom ((x_73656e6420 ++ x5.Name) ++ x_20) r15 then
           J7 (((x_73656e6420 ++ x5.Name) ++ x_20) ++ r15)
          else none
         else none
        else none
       else
        bif (x5.Kind == 5) then
         bif sroom x_7265637620 x5.Name then
          bif sroom (x_7265637620 ++ x5.Name) x_20 then
           bif sroom ((x_7265637620 ++ x5.Name) ++ x_20) x5.Other then
            J7 (((x_7265637620 ++ x5.Name) ++ x_20) ++ x5.Other)
           else none
          else none
         else none
        else
         bif (x5.Kind == 6) then
          (ref1_show n x5.E).bind fun r20 =>
          bif sroom x_7072696e7420 r20 then
           J7 (x_7072696e7420 ++ r20)
          else none
         else
          bif (x5.Kind == 9) then
           bif sroom x_676f746f20 x5.Name then
            J7 (x_676f746f20 ++ x5.Name)
           else none
          else
           bif (x5.Kind == 10) then
            bif sroom x_6c6162656c20 x5.Name then
             J7 (x_6c6162656c20 ++ x5.Name)
            else none
           else
            bif (x5.Kind == 7) then
             (ref1_show n x5.E).bind fun r24 =>
             bif sroom x_696620 r24 then
              bif sroom (x_696620 ++ r24) x_207b0a then
               (ref1_lines n x5.Body (wr (a1 + 1))).bind fun r27 =>
               bif sroom ((x_696620 ++ r24) ++ x_207b0a) r27 then
                bif sroom (((x_696620 ++ r24) ++ x_207b0a) ++ r27) r1 then
                 bif sroom ((((x_696620 ++ r24) ++ x_207b0a) ++ r27) ++ r1) x_7d then
                  bif decide ((ln x5.Else) > 0) then
                   bif sroom (((((x_696620 ++ r24) ++ x_207b0a) ++ r27) ++ r1) ++ x_7d) x_20656c7365207b0a then
                    (ref1_lines n x5.Else (wr (a1 + 1))).bind fun r32 =>
                    bif sroom ((((((x_696620 ++ r24) ++ x_207b0a) ++ r27) ++ r1) ++ x_7d) ++ x_20656c7365207b0a) r32 then
                     bif sroom (((((((x_696620 ++ r24) ++ x_207b0a) ++ r27) ++ r1) ++ x_7d) ++ x_20656c7365207b0a) ++ r32) r1 then
                      bif sroom ((((((((x_696620 ++ r24) ++ x_207b0a) ++ r27) ++ r1) ++ x_7d) ++ x_20656c7365207b0a) ++ r32) ++ r1) x_7d then
                       J7 (((((((((x_696620 ++ r24) ++ x_207b0a) ++ r27) ++ r1) ++ x_7d) ++ x_20656c7365207b0a) ++ r32) ++ r1) ++ x_7d)
                      else none
                     else none
                    else none
                   else none
                  else
                   J7 (((((x_696620 ++ r24) ++ x_207b0a) ++ r27) ++ r1) ++ x_7d)
                 else none
                else none
               else none
              else none
             else none
            else
             bif (x5.Kind == 8) then
              bif decide (x5.N ≥ 0) then
               (ref1_Digits n x5.N).bind fun r36 =>
               bif sroom x_72657065617420 r36 then
                bif sroom (x_72657065617420 ++ r36) x_207b0a then
                 (ref1_lines n x5.Body (wr (a1 + 1))).bind fun r39 =>
                 bif sroom ((x_72657065617420 ++ r36) ++ x_207b0a) r39 then
                  bif sroom (((x_72657065617420 ++ r36) ++ x_207b0a) ++ r39) r1 then
                   bif sroom ((((x_72657065617420 ++ r36) ++ x_207b0a) ++ r39) ++ r1) x_7d then
                    J7 (((((x_72657065617420 ++ r36) ++ x_207b0a) ++ r39) ++ r1) ++ x_7d)
                   else none
                  else none
                 else none
                else none
               else none
              else
               J7 x_3f
             else
              J7 x_3f
  else
   some w3
def ref1_lines : Nat → (List Stmt) → Int → Option ByteArray
 | 0,_,_=>none
 | n + 1,a0,a1 =>
  (ref1_tabs n a1).bind fun r1 =>
  ref1_lines_L0 n a0 a1 r1 b0 0
end
mutual
def ref1_Show_L0 : Nat → Prog → ByteArray → Int → Option ByteArray
 | 0,_,_,_=>none
 | n + 1,a0,w2,i3 =>
  bif decide (i3 < (ln a0.Decls)) then
   (idx a0.Decls i3).bind fun x4 =>
   jn (fun (b5 : Bool) =>
    bif b5 then
     some x_3f
    else
     (idx [b0,k_var,k_wide,k_atomic,k_local,k_mutex,k_chan] x4.Kind).bind fun x7 =>
     bif sroom w2 x7 then
      bif sroom (w2 ++ x7) x_20 then
       bif sroom ((w2 ++ x7) ++ x_20) x4.Name then
        jn (fun (w11 : ByteArray) =>
         bif sroom w11 x_0a then
          ref1_Show_L0 n a0 (w11 ++ x_0a) (wr (i3 + 1))
         else none) fun J12 =>
         bif (x4.Kind == 6) then
          bif decide (x4.N < 0) then
           some x_3f
          else
           bif sroom (((w2 ++ x7) ++ x_20) ++ x4.Name) x_20 then
            (ref1_Digits n x4.N).bind fun r14 =>
            bif sroom ((((w2 ++ x7) ++ x_20) ++ x4.Name) ++ x_20) r14 then
             J12 (((((w2 ++ x7) ++ x_20) ++ x4.Name) ++ x_20) ++ r14)
            else none
           else none
         else
          J12 (((w2 ++ x7) ++ x_20) ++ x4.Name)
       else none
      else none
     else none) fun J6 =>
    bif decide (x4.Kind < 1) then
     J6 true
    else
     J6 (decide (x4.Kind > 6))
  else
   ref1_Show_L1 n a0 w2 i3 w2 0
def ref1_Show_L1 : Nat → Prog → ByteArray → Int → ByteArray → Int → Option ByteArray
 | 0,_,_,_,_,_=>none
 | n + 1,a0,w2,i3,w17,i18 =>
  bif decide (i18 < (ln a0.Threads)) then
   bif sroom w17 x_676f207b0a then
    (idx a0.Threads i18).bind fun x20 =>
    (ref1_lines n x20 1).bind fun r21 =>
    bif sroom (w17 ++ x_676f207b0a) r21 then
     bif sroom ((w17 ++ x_676f207b0a) ++ r21) x_7d0a then
      ref1_Show_L1 n a0 w2 i3 (((w17 ++ x_676f207b0a) ++ r21) ++ x_7d0a) (wr (i18 + 1))
     else none
    else none
   else none
  else
   some w17
end
def ref1_Show (n : Nat) (a0 : Prog) : Option ByteArray :=
 ref1_Show_L0 n a0 b0 0
def hand_Good (n : Nat) (a0 : Int) (a1 : List Act) (a2 : List Act) (a3 : List Act) (a4 : Int) : Option ByteArray :=
 (hand_Prog n a0 a1 a2 a3 a4).bind fun r1 =>
 (hand_fixed n r1).bind fun r2 =>
 (ref1_Show n r2).bind fun r3 =>
 some r3
def ref1_letter (n : Nat) (a0 : Int) : Option Bool :=
 jn (fun (b1 : Bool) =>
  some b1) fun J2 =>
  bif decide (a0 ≥ 97) then
   J2 (decide (a0 ≤ 122))
  else
   J2 false
def ref1_digit (n : Nat) (a0 : Int) : Option Bool :=
 jn (fun (b1 : Bool) =>
  some b1) fun J2 =>
  bif decide (a0 ≥ 48) then
   J2 (decide (a0 ≤ 57))
  else
   J2 false
def ref1_number_L0 : Nat → ByteArray → Int → Int → Option (Int × Bool)
 | 0,_,_,_=>none
 | n + 1,a0,i1,i2 =>
  bif decide (i2 < (a0.size : Int)) then
   (idxS a0 i2).bind fun x3 =>
   bif decide (i1 > (wr ((wr (9223372036854775807 - (wr (IntKind.u8.wrap (x3 - 48))))).tdiv 10))) then
    some (0,false)
   else
    ref1_number_L0 n a0 (wr ((wr (10 * i1)) + (wr (IntKind.u8.wrap (x3 - 48))))) (wr (i2 + 1))
  else
   jn (fun (b4 : Bool) =>
    some (i1,b4)) fun J5 =>
    bif !bytesEq a0 b0 then
     (idxS a0 0).bind fun x6 =>
     bif (x6 != 48) then
      J5 true
     else
      J5 (bytesEq a0 x_30)
    else
     J5 false
def ref1_number (n : Nat) (a0 : ByteArray) : Option (Int × Bool) :=
 ref1_number_L0 n a0 0 0
mutual
def ref1_one_L0 : Nat → ByteArray → Int → Int → Bool → ByteArray → Int → Option (Token × Int)
 | 0,_,_,_,_,_,_=>none
 | n + 1,a0,a1,x1,r2,w4,i5 =>
  jn (fun (b6 : Bool) =>
   bif b6 then
    ref1_one_L0 n a0 a1 x1 r2 w4 (wr (i5 + 1))
   else
    bif decide ((wr (i5 - a1)) > 12) then
     some ((Token.mk 0 b0 0 0),0)
    else
     (ssub a0 a1 i5).bind fun w12 =>
     some ((Token.mk 1 w12 0 a1),wr (i5 - a1))) fun J7 =>
   bif decide (i5 < (a0.size : Int)) then
    (idxS a0 i5).bind fun x8 =>
    (ref1_letter n x8).bind fun r9 =>
    bif r9 then
     J7 true
    else
     (idxS a0 i5).bind fun x10 =>
     (ref1_digit n x10).bind fun r11 =>
     J7 r11
   else
    J7 false
def ref1_one_L1 : Nat → ByteArray → Int → Int → Bool → Bool → ByteArray → Int → Option (Token × Int)
 | 0,_,_,_,_,_,_,_=>none
 | n + 1,a0,a1,x1,r2,r13,w15,i16 =>
  jn (fun (b17 : Bool) =>
   bif b17 then
    ref1_one_L1 n a0 a1 x1 r2 r13 w15 (wr (i16 + 1))
   else
    (ssub a0 a1 i16).bind fun w21 =>
    (ref1_number n w21).bind fun r22 =>
    bif !r22.2 then
     some ((Token.mk 0 b0 0 0),0)
    else
     (ssub a0 a1 i16).bind fun w23 =>
     some ((Token.mk 2 w23 r22.1 a1),wr (i16 - a1))) fun J18 =>
   bif decide (i16 < (a0.size : Int)) then
    (idxS a0 i16).bind fun x19 =>
    (ref1_digit n x19).bind fun r20 =>
    J18 r20
   else
    J18 false
def ref1_one_L2 : Nat → ByteArray → Int → Int → Bool → Bool → ByteArray → Bool → Int → Option (Token × Int)
 | 0,_,_,_,_,_,_,_,_=>none
 | n + 1,a0,a1,x1,r2,r13,w24,b25,i28 =>
  bif decide (i28 < 11) then
   (idxS x_3d3c2b2d2a2f2528297b7d i28).bind fun x29 =>
   bif (x29 == x1) then
    (ssub a0 a1 (wr (a1 + 1))).bind fun w30 =>
    some ((Token.mk 3 w30 0 a1),1)
   else
    ref1_one_L2 n a0 a1 x1 r2 r13 w24 b25 (wr (i28 + 1))
  else
   some ((Token.mk 0 b0 0 0),0)
end
def ref1_one (n : Nat) (a0 : ByteArray) (a1 : Int) : Option (Token × Int) :=
 (idxS a0 a1).bind fun x1 =>
 (ref1_letter n x1).bind fun r2 =>
 bif r2 then
  ref1_one_L0 n a0 a1 x1 r2 b0 (wr (a1 + 1))
 else
  (ref1_digit n x1).bind fun r13 =>
  bif r13 then
   ref1_one_L1 n a0 a1 x1 r2 r13 b0 (wr (a1 + 1))
  else
   jn (fun (w24 : ByteArray) (b25 : Bool) =>
    bif b25 then
     some ((Token.mk 3 x_3d3d 0 a1),2)
    else
     ref1_one_L2 n a0 a1 x1 r2 r13 w24 b25 0) fun J26 =>
    bif (x1 == 61) then
     bif decide ((wr (a1 + 1)) < (a0.size : Int)) then
      (idxS a0 (wr (a1 + 1))).bind fun x27 =>
      J26 b0 (x27 == 61)
     else
      J26 b0 false
    else
     J26 b0 false
mutual
def ref1_Tokens_L0 : Nat → ByteArray → (List Token) → Int → Option ((List Token) × Int × Int)
 | 0,_,_,_=>none
 | n + 1,a0,l1,i2 =>
  bif decide (i2 < (a0.size : Int)) then
   (idxS a0 i2).bind fun x3 =>
   jn (fun (b4 : Bool) =>
    bif b4 then
     ref1_Tokens_L0 n a0 l1 (wr (i2 + 1))
    else
     bif (x3 == 35) then
      ref1_Tokens_L1 n a0 l1 i2 x3 b4 i2
     else
      (ref1_one n a0 i2).bind fun r10 =>
      bif (r10.2 == 0) then
       some (([] : List Token),i2,2)
      else
       bif room s_Token.i1.bytes l1.length [r10.1].length then
        ref1_Tokens_L0 n a0 (l1 ++ [r10.1]) (wr (i2 + r10.2))
       else none) fun J5 =>
    bif (x3 == 32) then
     J5 true
    else
     bif (x3 == 9) then
      J5 true
     else
      J5 (x3 == 10)
  else
   bif room s_Token.i1.bytes l1.length [(Token.mk 4 b0 0 i2)].length then
    some (l1 ++ [(Token.mk 4 b0 0 i2)],0,0)
   else none
def ref1_Tokens_L1 : Nat → ByteArray → (List Token) → Int → Int → Bool → Int → Option ((List Token) × Int × Int)
 | 0,_,_,_,_,_,_=>none
 | n + 1,a0,l1,i2,x3,b4,i6 =>
  jn (fun (b7 : Bool) =>
   bif b7 then
    ref1_Tokens_L1 n a0 l1 i2 x3 b4 (wr (i6 + 1))
   else
    ref1_Tokens_L0 n a0 l1 i6) fun J8 =>
   bif decide (i6 < (a0.size : Int)) then
    (idxS a0 i6).bind fun x9 =>
    J8 (x9 != 10)
   else
    J8 false
end
def ref1_Tokens (n : Nat) (a0 : ByteArray) : Option ((List Token) × Int × Int) :=
 bif decide ((a0.size : Int) > 6000) then
  some (([] : List Token),6000,2)
 else
  ref1_Tokens_L0 n a0 ([] : List Token) 0
def ref1_declKind_L0 : Nat → ByteArray → Int → Option Int
 | 0,_,_=>none
 | n + 1,a0,i1 =>
  bif decide (i1 < 6) then
   (idx [k_var,k_wide,k_atomic,k_local,k_mutex,k_chan] i1).bind fun x2 =>
   bif bytesEq a0 x2 then
    some (wr (1 + i1))
   else
    ref1_declKind_L0 n a0 (wr (i1 + 1))
  else
   some 0
def ref1_declKind (n : Nat) (a0 : ByteArray) : Option Int :=
 ref1_declKind_L0 n a0 0
def ref1_Reader_failAt (n : Nat) (a0 : Reader) (a1 : Int) : Option Reader :=
 bif !a0.Fail then
  some (Reader.mk a0.T a0.At true a1)
 else
  some a0
def ref1_Reader_fail (n : Nat) (a0 : Reader) : Option Reader :=
 (ref1_Reader_failAt n a0 a0.At).bind fun r1 =>
 some r1
def ref1_Within (n : Nat) (a0 : Int) (a1 : Int) (a2 : Int) : Option Int :=
 some (gomax a1 (gomin a2 a0))
def ref1_Spot_L0 : Nat → ByteArray → Int → Int → Int → Int → Int → Option (Int × Int)
 | 0,_,_,_,_,_,_=>none
 | n + 1,a0,a1,r1,i2,i3,i4 =>
  bif decide (i4 < r1) then
   jn (fun (i5 : Int) (i6 : Int) =>
    ref1_Spot_L0 n a0 a1 r1 i5 i6 (wr (i4 + 1))) fun J7 =>
    (idxS a0 i4).bind fun x8 =>
    bif (x8 == 10) then
     J7 (wr (i2 + 1)) 1
    else
     J7 i2 (wr (i3 + 1))
  else
   some (i2,i3)
def ref1_Spot (n : Nat) (a0 : ByteArray) (a1 : Int) : Option (Int × Int) :=
 (ref1_Within n a1 0 (a0.size : Int)).bind fun r1 =>
 ref1_Spot_L0 n a0 a1 r1 1 1 0
def ref1_Place (n : Nat) (a0 : ByteArray) (a1 : Int) : Option Cx :=
 (ref1_Spot n a0 a1).bind fun r1 =>
 some (⟨FloatKind.f64.nearest r1.1,FloatKind.f64.nearest r1.2⟩ : Cx)
def ref1_Keyword_L0 : Nat → ByteArray → Int → Option Bool
 | 0,_,_=>none
 | n + 1,a0,i1 =>
  bif decide (i1 < 17) then
   (idx [k_var,k_wide,k_atomic,k_local,k_mutex,k_chan,k_go,k_lock,k_unlock,k_send,k_recv,k_print,k_if,k_else,k_repeat,k_goto,k_label] i1).bind fun x2 =>
   bif bytesEq a0 x2 then
    some true
   else
    ref1_Keyword_L0 n a0 (wr (i1 + 1))
  else
   some false
def ref1_Keyword (n : Nat) (a0 : ByteArray) : Option Bool :=
 ref1_Keyword_L0 n a0 0
def ref1_Reader_name (n : Nat) (a0 : Reader) : Option (ByteArray × Reader) :=
 jn (fun (b1 : Bool) =>
  bif b1 then
   (ref1_Reader_fail n a0).bind fun r6 =>
   some (b0,r6)
  else
   (idx a0.T (wr ((wr (a0.At + 1)) - 1))).bind fun x7 =>
   some (x7.Text,(Reader.mk a0.T (wr (a0.At + 1)) a0.Fail a0.Bad))) fun J2 =>
  bif a0.Fail then
   J2 true
  else
   (idx a0.T a0.At).bind fun x3 =>
   bif (x3.Kind != 1) then
    J2 true
   else
    (idx a0.T a0.At).bind fun x4 =>
    (ref1_Keyword n x4.Text).bind fun r5 =>
    J2 r5
def ref1_Reader_number (n : Nat) (a0 : Reader) (a1 : Int) : Option (Int × Reader) :=
 jn (fun (b1 : Bool) =>
  bif b1 then
   (ref1_Reader_fail n a0).bind fun r5 =>
   some (0,r5)
  else
   (idx a0.T (wr ((wr (a0.At + 1)) - 1))).bind fun x6 =>
   some (x6.N,(Reader.mk a0.T (wr (a0.At + 1)) a0.Fail a0.Bad))) fun J2 =>
  bif a0.Fail then
   J2 true
  else
   (idx a0.T a0.At).bind fun x3 =>
   bif (x3.Kind != 2) then
    J2 true
   else
    (idx a0.T a0.At).bind fun x4 =>
    J2 (decide (x4.N > a1))
def ref1_Reader_word (n : Nat) (a0 : Reader) (a1 : ByteArray) : Option Bool :=
 jn (fun (b1 : Bool) =>
  some b1) fun J2 =>
  bif !a0.Fail then
   (idx a0.T a0.At).bind fun x3 =>
   bif (x3.Kind == 1) then
    (idx a0.T a0.At).bind fun x4 =>
    J2 (bytesEq x4.Text a1)
   else
    J2 false
  else
   J2 false
def ref1_Reader_sign (n : Nat) (a0 : Reader) (a1 : ByteArray) : Option Bool :=
 jn (fun (b1 : Bool) =>
  some b1) fun J2 =>
  bif !a0.Fail then
   (idx a0.T a0.At).bind fun x3 =>
   bif (x3.Kind == 3) then
    (idx a0.T a0.At).bind fun x4 =>
    J2 (bytesEq x4.Text a1)
   else
    J2 false
  else
   J2 false
def ref1_Reader_must (n : Nat) (a0 : Reader) (a1 : ByteArray) : Option Reader :=
 (ref1_Reader_sign n a0 a1).bind fun r1 =>
 bif !r1 then
  (ref1_Reader_fail n a0).bind fun r2 =>
  some r2
 else
  some (Reader.mk a0.T (wr (a0.At + 1)) a0.Fail a0.Bad)
def ref1_binary (n : Nat) (a0 : Int) (a1 : Expr) (a2 : Expr) : Option Expr :=
 some (Expr.mk a0 0 b0 [a1,a2])
mutual
def ref1_Reader_term_L0 : Nat → Reader → Int → (Expr × Reader) → (ByteArray → Expr → Reader → Option (Expr × Reader)) → Reader → ByteArray → Expr → Option (Expr × Reader)
 | 0,_,_,_,_,_,_,_=>none
 | n + 1,a0,a1,r1,J5,v7,w8,v9 =>
  bif !v7.Fail then
   jn (fun (i10 : Int) =>
    bif (i10 == 0) then
     J5 w8 v9 v7
    else
     (ref1_Reader_factor n (Reader.mk v7.T (wr (v7.At + 1)) v7.Fail v7.Bad) a1).bind fun r15 =>
     (ref1_binary n i10 v9 r15.1).bind fun r16 =>
     ref1_Reader_term_L0 n a0 a1 r1 J5 r15.2 w8 r16) fun J11 =>
    (ref1_Reader_sign n v7 x_2a).bind fun r12 =>
    bif r12 then
     J11 6
    else
     (ref1_Reader_sign n v7 x_2f).bind fun r13 =>
     bif r13 then
      J11 7
     else
      (ref1_Reader_sign n v7 x_25).bind fun r14 =>
      bif r14 then
       J11 8
      else
       J11 0
  else
   J5 w8 v9 v7
def ref1_Reader_sum_L0 : Nat → Reader → Int → (Expr × Reader) → (ByteArray → Expr → Reader → Option (Expr × Reader)) → Reader → ByteArray → Expr → Option (Expr × Reader)
 | 0,_,_,_,_,_,_,_=>none
 | n + 1,a0,a1,r1,J5,v7,w8,v9 =>
  bif !v7.Fail then
   jn (fun (i10 : Int) =>
    bif (i10 == 0) then
     J5 w8 v9 v7
    else
     (ref1_Reader_term n (Reader.mk v7.T (wr (v7.At + 1)) v7.Fail v7.Bad) a1).bind fun r14 =>
     (ref1_binary n i10 v9 r14.1).bind fun r15 =>
     ref1_Reader_sum_L0 n a0 a1 r1 J5 r14.2 w8 r15) fun J11 =>
    (ref1_Reader_sign n v7 x_2b).bind fun r12 =>
    bif r12 then
     J11 4
    else
     (ref1_Reader_sign n v7 x_2d).bind fun r13 =>
     bif r13 then
      J11 5
     else
      J11 0
  else
   J5 w8 v9 v7
def ref1_Reader_factor : Nat → Reader → Int → Option (Expr × Reader)
 | 0,_,_=>none
 | n + 1,a0,a1 =>
  bif a0.Fail then
   some ((Expr.mk 0 0 b0 []),a0)
  else
   (idx a0.T a0.At).bind fun x1 =>
   bif (x1.Kind == 2) then
    some ((Expr.mk 1 x1.N b0 []),(Reader.mk a0.T (wr (a0.At + 1)) a0.Fail a0.Bad))
   else
    jn (fun (w2 : ByteArray) (b3 : Bool) =>
     bif b3 then
      some ((Expr.mk 2 0 x1.Text []),(Reader.mk a0.T (wr (a0.At + 1)) a0.Fail a0.Bad))
     else
      jn (fun (b6 : Bool) =>
       bif b6 then
        (ref1_Reader_factor n (Reader.mk a0.T (wr (a0.At + 1)) a0.Fail a0.Bad) (wr (a1 + 1))).bind fun r9 =>
        some ((Expr.mk 3 0 b0 [r9.1]),r9.2)
       else
        jn (fun (b10 : Bool) =>
         bif b10 then
          (ref1_Reader_expr n (Reader.mk a0.T (wr (a0.At + 1)) a0.Fail a0.Bad) (wr (a1 + 1))).bind fun r13 =>
          (ref1_Reader_must n r13.2 x_29).bind fun r14 =>
          some (r13.1,r14)
         else
          (ref1_Reader_fail n a0).bind fun r15 =>
          some ((Expr.mk 0 0 b0 []),r15)) fun J11 =>
         (ref1_Reader_sign n a0 x_28).bind fun r12 =>
         bif r12 then
          J11 (decide (a1 < 8))
         else
          J11 false) fun J7 =>
       (ref1_Reader_sign n a0 x_2d).bind fun r8 =>
       bif r8 then
        J7 (decide (a1 < 8))
       else
        J7 false) fun J4 =>
     bif (x1.Kind == 1) then
      (ref1_Keyword n x1.Text).bind fun r5 =>
      J4 b0 (!r5)
     else
      J4 b0 false
def ref1_Reader_term : Nat → Reader → Int → Option (Expr × Reader)
 | 0,_,_=>none
 | n + 1,a0,a1 =>
  (ref1_Reader_factor n a0 a1).bind fun r1 =>
  jn (fun (w2 : ByteArray) (v3 : Expr) (v4 : Reader) =>
   some (v3,v4)) fun J5 =>
   ref1_Reader_term_L0 n a0 a1 r1 J5 r1.2 b0 r1.1
def ref1_Reader_sum : Nat → Reader → Int → Option (Expr × Reader)
 | 0,_,_=>none
 | n + 1,a0,a1 =>
  (ref1_Reader_term n a0 a1).bind fun r1 =>
  jn (fun (w2 : ByteArray) (v3 : Expr) (v4 : Reader) =>
   some (v3,v4)) fun J5 =>
   ref1_Reader_sum_L0 n a0 a1 r1 J5 r1.2 b0 r1.1
def ref1_Reader_expr : Nat → Reader → Int → Option (Expr × Reader)
 | 0,_,_=>none
 | n + 1,a0,a1 =>
  (ref1_Reader_sum n a0 a1).bind fun r1 =>
  jn (fun (w2 : ByteArray) (i3 : Int) =>
   bif (i3 == 0) then
    some (r1.1,r1.2)
   else
    (ref1_Reader_sum n (Reader.mk r1.2.T (wr (r1.2.At + 1)) r1.2.Fail r1.2.Bad) a1).bind fun r7 =>
    (ref1_binary n i3 r1.1 r7.1).bind fun r8 =>
    some (r8,r7.2)) fun J4 =>
   (ref1_Reader_sign n r1.2 x_3c).bind fun r5 =>
   bif r5 then
    J4 b0 9
   else
    (ref1_Reader_sign n r1.2 x_3d3d).bind fun r6 =>
    bif r6 then
     J4 b0 10
    else
     J4 b0 0
end
def ref1_Reader_whole (n : Nat) (a0 : Reader) (a1 : ByteArray) : Option (Expr × Reader) :=
 jn (fun (i1 : Int) (i2 : Int) (w3 : ByteArray) (l4 : List Expr) (v5 : Reader) =>
  some ((Expr.mk i1 i2 w3 l4),v5)) fun J6 =>
  bif !a0.Fail then
   (ref1_Reader_expr n a0 0).bind fun r7 =>
   J6 r7.1.Kind r7.1.N r7.1.Name r7.1.Of r7.2
  else
   J6 0 0 b0 [] a0
mutual
def ref1_Reader_block_L0 : Nat → Reader → ByteArray → Int → Reader → Reader → Reader → (List Stmt) → Option ((List Stmt) × Reader)
 | 0,_,_,_,_,_,_,_=>none
 | n + 1,a0,a1,a2,v1,r4,v5,l6 =>
  jn (fun (b7 : Bool) =>
   bif b7 then
    (ref1_Reader_stmt n v5 a1 a2).bind fun r10 =>
    bif !r10.2.Fail then
     bif room s_Stmt.i1.bytes l6.length [r10.1].length then
      ref1_Reader_block_L0 n a0 a1 a2 v1 r4 r10.2 (l6 ++ [r10.1])
     else none
    else
     ref1_Reader_block_L0 n a0 a1 a2 v1 r4 r10.2 l6
   else
    (ref1_Reader_must n v5 x_7d).bind fun r12 =>
    some (l6,r12)) fun J8 =>
   bif !v5.Fail then
    (ref1_Reader_sign n v5 x_7d).bind fun r9 =>
    J8 (!r9)
   else
    J8 false
def ref1_Reader_stmt : Nat → Reader → ByteArray → Int → Option (Stmt × Reader)
 | 0,_,_,_=>none
 | n + 1,a0,a1,a2 =>
  (idx a0.T a0.At).bind fun x1 =>
  (ref1_Place n a1 x1.At).bind fun r2 =>
  bif (x1.Kind != 1) then
   (ref1_Reader_fail n a0).bind fun r3 =>
   some ((Stmt.mk 0 b0 b0 0 (Expr.mk 0 0 b0 []) [] [] r2),r3)
  else
   jn (fun (w4 : ByteArray) (w5 : ByteArray) (w6 : ByteArray) (i7 : Int) (w8 : ByteArray) (w9 : ByteArray) (i10 : Int) (i11 : Int) (i12 : Int) (w13 : ByteArray) (l14 : List Expr) (l15 : List Stmt) (l16 : List Stmt) (v17 : Reader) =>
    some ((Stmt.mk i7 w8 w9 i10 (Expr.mk i11 i12 w13 l14) l15 l16 r2),v17)) fun J18 =>
    jn (fun (w19 : ByteArray) (w20 : ByteArray) (w21 : ByteArray) (w22 : ByteArray) (w23 : ByteArray) (w24 : ByteArray) (b25 : Bool) =>
     bif b25 then
      jn (fun (i27 : Int) =>
       (ref1_Reader_name n (Reader.mk a0.T (wr (a0.At + 1)) a0.Fail a0.Bad)).bind fun r29 =>
       J18 w19 w20 w21 i27 r29.1 w23 0 0 0 w24 [] ([] : List Stmt) ([] : List Stmt) r29.2) fun J28 =>
       bif bytesEq x1.Text k_unlock then
        J28 3
       else
        bif bytesEq x1.Text k_goto then
         J28 9
        else
         bif bytesEq x1.Text k_label then
          J28 10
         else
          J28 2
     else
      bif bytesEq x1.Text k_send then
       (ref1_Reader_name n (Reader.mk a0.T (wr (a0.At + 1)) a0.Fail a0.Bad)).bind fun r30 =>
       (ref1_Reader_whole n r30.2 a1).bind fun r31 =>
       J18 w19 w20 w21 4 r30.1 w23 0 r31.1.Kind r31.1.N r31.1.Name r31.1.Of ([] : List Stmt) ([] : List Stmt) r31.2
      else
       bif bytesEq x1.Text k_recv then
        (ref1_Reader_name n (Reader.mk a0.T (wr (a0.At + 1)) a0.Fail a0.Bad)).bind fun r32 =>
        (ref1_Reader_name n r32.2).bind fun r33 =>
        J18 w19 w20 w21 5 r32.1 r33.1 0 0 0 w24 [] ([] : List Stmt) ([] : List Stmt) r33.2
       else
        bif bytesEq x1.Text k_print then
         (ref1_Reader_whole n (Reader.mk a0.T (wr (a0.At + 1)) a0.Fail a0.Bad) a1).bind fun r34 =>
         J18 w19 w20 w21 6 w22 w23 0 r34.1.Kind r34.1.N r34.1.Name r34.1.Of ([] : List Stmt) ([] : List Stmt) r34.2
        else
         bif bytesEq x1.Text k_if then
          (ref1_Reader_whole n (Reader.mk a0.T (wr (a0.At + 1)) a0.Fail a0.Bad) a1).bind fun r35 =>
          (ref1_Reader_block n r35.2 a1 (wr (a2 + 1))).bind fun r36 =>
          (ref1_Reader_word n r36.2 k_else).bind fun r37 =>
          bif r37 then
           (ref1_Reader_block n (Reader.mk r36.2.T (wr (r36.2.At + 1)) r36.2.Fail r36.2.Bad) a1 (wr (a2 + 1))).bind fun r38 =>
           J18 w19 w20 w21 7 w22 w23 0 r35.1.Kind r35.1.N r35.1.Name r35.1.Of r36.1 r38.1 r38.2
          else
           J18 w19 w20 w21 7 w22 w23 0 r35.1.Kind r35.1.N r35.1.Name r35.1.Of r36.1 ([] : List Stmt) r36.2
         else
          bif bytesEq x1.Text k_repeat then
           (ref1_Reader_number n (Reader.mk a0.T (wr (a0.At + 1)) a0.Fail a0.Bad) 9).bind fun r39 =>
           (ref1_Reader_block n r39.2 a1 (wr (a2 + 1))).bind fun r40 =>
           J18 w19 w20 w21 8 w22 w23 r39.1 0 0 w24 [] r40.1 ([] : List Stmt) r40.2
          else
           (ref1_Keyword n x1.Text).bind fun r41 =>
           bif r41 then
            (ref1_Reader_failAt n (Reader.mk a0.T (wr (a0.At + 1)) a0.Fail a0.Bad) (wr ((wr (a0.At + 1)) - 1))).bind fun r42 =>
            some ((Stmt.mk 0 w22 w23 0 (Expr.mk 0 0 w24 []) [] [] r2),r42)
           else
            (ref1_Reader_must n (Reader.mk a0.T (wr (a0.At + 1)) a0.Fail a0.Bad) x_3d).bind fun r43 =>
            (ref1_Reader_whole n r43 a1).bind fun r44 =>
            J18 w19 w20 w21 1 x1.Text w23 0 r44.1.Kind r44.1.N r44.1.Name r44.1.Of ([] : List Stmt) ([] : List Stmt) r44.2) fun J26 =>
     bif bytesEq x1.Text k_lock then
      J26 b0 b0 b0 b0 b0 b0 (bytesEq x1.Text k_lock)
     else
      bif bytesEq x1.Text k_unlock then
       J26 b0 b0 b0 b0 b0 b0 (bytesEq x1.Text k_unlock)
      else
       bif bytesEq x1.Text k_goto then
        J26 b0 b0 b0 b0 b0 b0 (bytesEq x1.Text k_goto)
       else
        J26 b0 b0 b0 b0 b0 b0 (bytesEq x1.Text k_label)
def ref1_Reader_block : Nat → Reader → ByteArray → Int → Option ((List Stmt) × Reader)
 | 0,_,_,_=>none
 | n + 1,a0,a1,a2 =>
  jn (fun (v1 : Reader) =>
   (ref1_Reader_must n v1 x_7b).bind fun r4 =>
   ref1_Reader_block_L0 n a0 a1 a2 v1 r4 r4 ([] : List Stmt)) fun J2 =>
   bif decide (a2 > 8) then
    (ref1_Reader_fail n a0).bind fun r3 =>
    J2 r3
   else
    J2 a0
end
mutual
def ref1_Parse_L0 : Nat → ByteArray → ((List Token) × Int × Int) → ((List Token) → Int → Bool → Int → (List Decl) → Option (Prog × Int × Int)) → (List Token) → Int → Bool → Int → (List Decl) → Option (Prog × Int × Int)
 | 0,_,_,_,_,_,_,_,_=>none
 | n + 1,a0,r1,J7,l8,i9,b10,i11,l12 =>
  jn (fun (b13 : Bool) =>
   bif b13 then
    bif ((ln l12) == 24) then
     (ref1_Reader_fail n (Reader.mk l8 i9 b10 i11)).bind fun r18 =>
     J7 r18.T r18.At r18.Fail r18.Bad l12
    else
     (idx l8 i9).bind fun x19 =>
     (ref1_declKind n x19.Text).bind fun r20 =>
     (idx l8 i9).bind fun x21 =>
     (ref1_Place n a0 x21.At).bind fun r22 =>
     (ref1_Reader_name n (Reader.mk l8 (wr (i9 + 1)) b10 i11)).bind fun r23 =>
     jn (fun (v24 : Reader) (i25 : Int) =>
      bif room s_Decl.i1.bytes l12.length [(Decl.mk r20 r23.1 i25 r22)].length then
       ref1_Parse_L0 n a0 r1 J7 v24.T v24.At v24.Fail v24.Bad (l12 ++ [(Decl.mk r20 r23.1 i25 r22)])
      else none) fun J26 =>
      bif (r20 == 6) then
       (ref1_Reader_number n r23.2 3).bind fun r27 =>
       J26 r27.2 r27.1
      else
       J26 r23.2 0
   else
    J7 l8 i9 b10 i11 l12) fun J14 =>
   bif !b10 then
    (idx l8 i9).bind fun x15 =>
    bif (x15.Kind == 1) then
     (idx l8 i9).bind fun x16 =>
     (ref1_declKind n x16.Text).bind fun r17 =>
     J14 (decide (r17 > 0))
    else
     J14 false
   else
    J14 false
def ref1_Parse_L1 : Nat → ByteArray → ((List Token) × Int × Int) → (List Token) → Int → Bool → Int → (List Decl) → ((List Token) → Int → Bool → Int → (List (List Stmt)) → Option (Prog × Int × Int)) → (List Token) → Int → Bool → Int → (List (List Stmt)) → Option (Prog × Int × Int)
 | 0,_,_,_,_,_,_,_,_,_,_,_,_,_=>none
 | n + 1,a0,r1,l2,i3,b4,i5,l6,J34,l35,i36,b37,i38,l39 =>
  jn (fun (b40 : Bool) =>
   bif b40 then
    jn (fun (b43 : Bool) =>
     bif b43 then
      (ref1_Reader_fail n (Reader.mk l35 i36 b37 i38)).bind fun r46 =>
      J34 r46.T r46.At r46.Fail r46.Bad l39
     else
      (ref1_Reader_block n (Reader.mk l35 (wr (i36 + 1)) b37 i38) a0 1).bind fun r47 =>
      bif room s_LStmt.i1.bytes l39.length [r47.1].length then
       ref1_Parse_L1 n a0 r1 l2 i3 b4 i5 l6 J34 r47.2.T r47.2.At r47.2.Fail r47.2.Bad (l39 ++ [r47.1])
      else none) fun J44 =>
     (ref1_Reader_word n (Reader.mk l35 i36 b37 i38) k_go).bind fun r45 =>
     bif !r45 then
      J44 true
     else
      J44 ((ln l39) == 4)
   else
    J34 l35 i36 b37 i38 l39) fun J41 =>
   bif !b37 then
    (idx l35 i36).bind fun x42 =>
    bif (x42.Kind != 4) then
     J41 true
    else
     J41 ((ln l39) == 0)
   else
    J41 false
end
def ref1_Parse (n : Nat) (a0 : ByteArray) : Option (Prog × Int × Int) :=
 (ref1_Tokens n a0).bind fun r1 =>
 bif (r1.2.2 != 0) then
  some ((Prog.mk [] []),r1.2.1,r1.2.2)
 else
  jn (fun (l2 : List Token) (i3 : Int) (b4 : Bool) (i5 : Int) (l6 : List Decl) =>
   jn (fun (l29 : List Token) (i30 : Int) (b31 : Bool) (i32 : Int) (l33 : List (List Stmt)) =>
    bif b31 then
     (idx r1.1 i32).bind fun x49 =>
     some ((Prog.mk [] []),x49.At,2)
    else
     some ((Prog.mk l6 l33),0,0)) fun J34 =>
    ref1_Parse_L1 n a0 r1 l2 i3 b4 i5 l6 J34 l2 i3 b4 i5 ([] : List (List Stmt))) fun J7 =>
   ref1_Parse_L0 n a0 r1 J7 r1.1 0 false 0 ([] : List Decl)
def law25_read (n : Nat) (a0 : ByteArray) : Option Prog :=
 (ref1_Parse n a0).bind fun r1 =>
 some r1.1
def law25_groups (n : Nat) (a0 : Int) : Option (List (List ByteArray)) :=
 (hand_Pick n a0 7).bind fun r1 =>
 bif (r1 == 0) then
  some [[k_x],[k_y],[k_z]]
 else
  bif (r1 == 1) then
   some [[k_z],[k_y],[k_x]]
  else
   bif (r1 == 2) then
    some [[k_x,k_y],[k_z]]
   else
    bif (r1 == 3) then
     some [[k_y],[k_z,k_x]]
    else
     bif (r1 == 4) then
      some [[k_y],[k_x]]
     else
      bif (r1 == 5) then
       some [[k_z],[k_x],[k_nobody]]
      else
       some [[k_x,k_y,k_z]]
mutual
def tree_listed_o_L0 : Nat → (List Stmt) → (List Stmt) → (List Stmt) → Int → Option (List Stmt)
 | 0,_,_,_,_=>none
 | n + 1,a0,a1,l1,i2 =>
  bif decide (i2 < (ln a1)) then
   (idx a1 i2).bind fun x3 =>
   bif room s_Stmt.i1.bytes l1.length [x3].length then
    (tree_listed_o n (l1 ++ [x3]) x3.Body).bind fun r5 =>
    (tree_listed_o n r5 x3.Else).bind fun r6 =>
    tree_listed_o_L0 n a0 a1 r6 (wr (i2 + 1))
   else none
  else
   some l1
def tree_listed_o : Nat → (List Stmt) → (List Stmt) → Option (List Stmt)
 | 0,_,_=>none
 | n + 1,a0,a1 =>
  tree_listed_o_L0 n a0 a1 a0 0
end
def Clone_Expr (n : Nat) (a0 : List Expr) : Option (List Expr) :=
 bif room s_Expr.i1.bytes ([] : List Expr).length a0.length then
  some (([] : List Expr) ++ a0)
 else none
def Clip_Expr_o (n : Nat) (a0 : List Expr) : Option (List Expr) :=
 some a0
mutual
def tree_copyExpr_L0 : Nat → Expr → (List Expr) → (List Expr) → (List Expr) → ByteArray → Int → Option Expr
 | 0,_,_,_,_,_,_=>none
 | n + 1,a0,r1,r2,l4,w5,i6 =>
  bif decide (i6 < (ln r2)) then
   (idx l4 i6).bind fun x7 =>
   (tree_copyExpr n x7).bind fun r8 =>
   (idx l4 i6).bind fun x9 =>
   tree_copyExpr_L0 n a0 r1 r2 (l4.set i6.toNat r8) w5 (wr (i6 + 1))
  else
   some (Expr.mk a0.Kind a0.N a0.Name l4)
def tree_copyExpr : Nat → Expr → Option Expr
 | 0,_=>none
 | n + 1,a0 =>
  (Clone_Expr n a0.Of).bind fun r1 =>
  (Clip_Expr_o n r1).bind fun r2 =>
  tree_copyExpr_L0 n a0 r1 r2 r2 b0 0
end
def Clone_Stmt (n : Nat) (a0 : List Stmt) : Option (List Stmt) :=
 bif room s_Stmt.i1.bytes ([] : List Stmt).length a0.length then
  some (([] : List Stmt) ++ a0)
 else none
def Clip_Stmt_o (n : Nat) (a0 : List Stmt) : Option (List Stmt) :=
 some a0
mutual
def tree_copyBlock_L0 : Nat → (List Stmt) → (List Stmt) → (List Stmt) → (List Stmt) → Int → Option (List Stmt)
 | 0,_,_,_,_,_=>none
 | n + 1,a0,r1,r2,l3,i4 =>
  bif decide (i4 < (ln r2)) then
   (idx l3 i4).bind fun x5 =>
   (tree_copyStmt n x5).bind fun r6 =>
   (idx l3 i4).bind fun x7 =>
   tree_copyBlock_L0 n a0 r1 r2 (l3.set i4.toNat r6) (wr (i4 + 1))
  else
   some l3
def tree_copyBlock : Nat → (List Stmt) → Option (List Stmt)
 | 0,_=>none
 | n + 1,a0 =>
  (Clone_Stmt n a0).bind fun r1 =>
  (Clip_Stmt_o n r1).bind fun r2 =>
  tree_copyBlock_L0 n a0 r1 r2 r2 0
def tree_copyStmt : Nat → Stmt → Option Stmt
 | 0,_=>none
 | n + 1,a0 =>
  (tree_copyExpr n a0.E).bind fun r1 =>
  (tree_copyBlock n a0.Body).bind fun r2 =>
  (tree_copyBlock n a0.Else).bind fun r3 =>
  some (Stmt.mk a0.Kind a0.Name a0.Other a0.N r1 r2 r3 a0.At)
end
def Clip_Stmt (n : Nat) (a0 : List Stmt) : Option (List Stmt) :=
 (sub a0 0 (ln a0)).bind fun l1 =>
 some l1
mutual
def tree_List_L0 : Nat → Prog → (List Stmt) → Int → Option (List Stmt)
 | 0,_,_,_=>none
 | n + 1,a0,l1,i2 =>
  bif decide (i2 < (ln a0.Threads)) then
   (idx a0.Threads i2).bind fun x3 =>
   (tree_listed_o n l1 x3).bind fun r4 =>
   tree_List_L0 n a0 r4 (wr (i2 + 1))
  else
   tree_List_L1 n a0 l1 i2 l1 0
def tree_List_L1 : Nat → Prog → (List Stmt) → Int → (List Stmt) → Int → Option (List Stmt)
 | 0,_,_,_,_,_=>none
 | n + 1,a0,l1,i2,l5,i6 =>
  bif decide (i6 < (ln l1)) then
   (idx l5 i6).bind fun x7 =>
   (tree_copyStmt n x7).bind fun r8 =>
   (idx l5 i6).bind fun x9 =>
   tree_List_L1 n a0 l1 i2 (l5.set i6.toNat r8) (wr (i6 + 1))
  else
   (Clip_Stmt n l5).bind fun r10 =>
   some r10
end
def tree_List (n : Nat) (a0 : Prog) : Option (List Stmt) :=
 tree_List_L0 n a0 ([] : List Stmt) 0
def Clip_string (n : Nat) (a0 : List ByteArray) : Option (List ByteArray) :=
 (sub a0 0 (ln a0)).bind fun l1 =>
 some l1
mutual
def tree_Names_L0 : Nat → Expr → (List ByteArray) → (List ByteArray) → Int → Option (List ByteArray)
 | 0,_,_,_,_=>none
 | n + 1,a0,l1,l4,i5 =>
  bif decide (i5 < (ln a0.Of)) then
   (idx a0.Of i5).bind fun x6 =>
   (tree_Names n x6).bind fun r7 =>
   bif room s_string.i1.bytes l4.length r7.length then
    tree_Names_L0 n a0 l1 (l4 ++ r7) (wr (i5 + 1))
   else none
  else
   (Clip_string n l4).bind fun r9 =>
   some r9
def tree_Names : Nat → Expr → Option (List ByteArray)
 | 0,_=>none
 | n + 1,a0 =>
  jn (fun (l1 : List ByteArray) =>
   tree_Names_L0 n a0 l1 l1 0) fun J2 =>
   bif (a0.Kind == 2) then
    bif room s_string.i1.bytes ([] : List ByteArray).length [a0.Name].length then
     J2 (([] : List ByteArray) ++ [a0.Name])
    else none
   else
    J2 ([] : List ByteArray)
end
def tree_Touches (n : Nat) (a0 : Stmt) : Option (List ByteArray) :=
 jn (fun (l1 : List ByteArray) =>
  jn (fun (l6 : List ByteArray) =>
   (Clip_string n l6).bind fun r10 =>
   some r10) fun J7 =>
   bif (a0.Kind == 1) then
    bif room s_string.i1.bytes l1.length [a0.Name].length then
     J7 (l1 ++ [a0.Name])
    else none
   else
    bif (a0.Kind == 5) then
     bif room s_string.i1.bytes l1.length [a0.Other].length then
      J7 (l1 ++ [a0.Other])
     else none
    else
     J7 l1) fun J2 =>
  jn (fun (b3 : Bool) =>
   bif b3 then
    (tree_Names n a0.E).bind fun r5 =>
    J2 r5
   else
    J2 []) fun J4 =>
   bif (a0.Kind == 1) then
    J4 (a0.Kind == 1)
   else
    bif (a0.Kind == 4) then
     J4 (a0.Kind == 4)
    else
     bif (a0.Kind == 6) then
      J4 (a0.Kind == 6)
     else
      J4 (a0.Kind == 7)
def Index_string_L0 : Nat → (List ByteArray) → ByteArray → Int → Option Int
 | 0,_,_,_=>none
 | n + 1,a0,a1,i1 =>
  bif decide (i1 < (ln a0)) then
   (idx a0 i1).bind fun x2 =>
   bif bytesEq a1 x2 then
    some i1
   else
    Index_string_L0 n a0 a1 (wr (i1 + 1))
  else
   some (-1)
def Index_string (n : Nat) (a0 : List ByteArray) (a1 : ByteArray) : Option Int :=
 Index_string_L0 n a0 a1 0
def Contains_string (n : Nat) (a0 : List ByteArray) (a1 : ByteArray) : Option Bool :=
 (Index_string n a0 a1).bind fun r1 =>
 some (decide (r1 ≥ 0))
def cost_touches_1 (n : Nat) (a0 : ByteArray) (a1 : List ByteArray) : Option Bool :=
 (Contains_string n a1 a0).bind fun r1 =>
 some r1
def IndexFunc_string_fcost_touches_1_L0 : Nat → (List ByteArray) → (List ByteArray) → Int → Option Int
 | 0,_,_,_=>none
 | n + 1,a0,a1c0,i1 =>
  bif decide (i1 < (ln a0)) then
   (idx a0 i1).bind fun x2 =>
   (cost_touches_1 n x2 a1c0).bind fun r3 =>
   bif r3 then
    some i1
   else
    IndexFunc_string_fcost_touches_1_L0 n a0 a1c0 (wr (i1 + 1))
  else
   some (-1)
def IndexFunc_string_fcost_touches_1 (n : Nat) (a0 : List ByteArray) (a1c0 : List ByteArray) : Option Int :=
 IndexFunc_string_fcost_touches_1_L0 n a0 a1c0 0
def ContainsFunc_string_fcost_touches_1 (n : Nat) (a0 : List ByteArray) (a1c0 : List ByteArray) : Option Bool :=
 (IndexFunc_string_fcost_touches_1 n a0 a1c0).bind fun r1 =>
 some (decide (r1 ≥ 0))
def cost_touches (n : Nat) (a0 : Stmt) (a1 : List ByteArray) : Option Bool :=
 (tree_Touches n a0).bind fun r1 =>
 (ContainsFunc_string_fcost_touches_1 n r1 a1).bind fun r2 =>
 some r2
def cost_size (n : Nat) (a0 : Stmt) : Option Int :=
 (tree_List n (Prog.mk [] [[a0]])).bind fun r1 =>
 some (ln r1)
def Clip_int (n : Nat) (a0 : List Int) : Option (List Int) :=
 (sub a0 0 (ln a0)).bind fun l1 =>
 some l1
def cost_Wrapped_L0 : Nat → Prog → (List ByteArray) → (List Stmt) → (List Int) → Int → Option (List Int)
 | 0,_,_,_,_,_=>none
 | n + 1,a0,a1,r1,l2,i3 =>
  bif decide (i3 < (ln r1)) then
   (idx r1 i3).bind fun x4 =>
   (cost_touches n x4 a1).bind fun r5 =>
   bif r5 then
    bif room s_int.i1.bytes l2.length [i3].length then
     (idx r1 i3).bind fun x7 =>
     (cost_size n x7).bind fun r8 =>
     cost_Wrapped_L0 n a0 a1 r1 (l2 ++ [i3]) (wr (i3 + r8))
    else none
   else
    cost_Wrapped_L0 n a0 a1 r1 l2 (wr (i3 + 1))
  else
   (Clip_int n l2).bind fun r9 =>
   some r9
def cost_Wrapped (n : Nat) (a0 : Prog) (a1 : List ByteArray) : Option (List Int) :=
 (tree_List n a0).bind fun r1 =>
 cost_Wrapped_L0 n a0 a1 r1 ([] : List Int) 0
def rank_ends_L0 : Nat → Prog → (List Stmt) → (List Int) → Int → Option (List Int)
 | 0,_,_,_,_=>none
 | n + 1,a0,r1,l2,i3 =>
  bif decide (i3 < (ln r1)) then
   (idx r1 i3).bind fun x4 =>
   (tree_List n (Prog.mk [] [[x4]])).bind fun r5 =>
   bif room s_int.i1.bytes l2.length [wr (i3 + (ln r5))].length then
    rank_ends_L0 n a0 r1 (l2 ++ [wr (i3 + (ln r5))]) (wr (i3 + 1))
   else none
  else
   some l2
def rank_ends (n : Nat) (a0 : Prog) : Option (List Int) :=
 (tree_List n a0).bind fun r1 =>
 rank_ends_L0 n a0 r1 ([] : List Int) 0
def rank_within_1_1 (n : Nat) (a0 : Int) (a1 : Int) (a2 : List Int) : Option Bool :=
 jn (fun (b1 : Bool) =>
  some b1) fun J2 =>
  bif decide (a0 < a1) then
   (idx a2 a0).bind fun x3 =>
   J2 (decide (a1 < x3))
  else
   J2 false
def IndexFunc_int_frank_within_1_1_L0 : Nat → (List Int) → Int → (List Int) → Int → Option Int
 | 0,_,_,_,_=>none
 | n + 1,a0,a1c0,a1c1,i1 =>
  bif decide (i1 < (ln a0)) then
   (idx a0 i1).bind fun x2 =>
   (rank_within_1_1 n x2 a1c0 a1c1).bind fun r3 =>
   bif r3 then
    some i1
   else
    IndexFunc_int_frank_within_1_1_L0 n a0 a1c0 a1c1 (wr (i1 + 1))
  else
   some (-1)
def IndexFunc_int_frank_within_1_1 (n : Nat) (a0 : List Int) (a1c0 : Int) (a1c1 : List Int) : Option Int :=
 IndexFunc_int_frank_within_1_1_L0 n a0 a1c0 a1c1 0
def ContainsFunc_int_frank_within_1_1 (n : Nat) (a0 : List Int) (a1c0 : Int) (a1c1 : List Int) : Option Bool :=
 (IndexFunc_int_frank_within_1_1 n a0 a1c0 a1c1).bind fun r1 =>
 some (decide (r1 ≥ 0))
def rank_within_1 (n : Nat) (a0 : Int) (a1 : List Int) (a2 : List Int) : Option Bool :=
 (ContainsFunc_int_frank_within_1_1 n a1 a0 a2).bind fun r1 =>
 some r1
def IndexFunc_int_frank_within_1_L0 : Nat → (List Int) → (List Int) → (List Int) → Int → Option Int
 | 0,_,_,_,_=>none
 | n + 1,a0,a1c0,a1c1,i1 =>
  bif decide (i1 < (ln a0)) then
   (idx a0 i1).bind fun x2 =>
   (rank_within_1 n x2 a1c0 a1c1).bind fun r3 =>
   bif r3 then
    some i1
   else
    IndexFunc_int_frank_within_1_L0 n a0 a1c0 a1c1 (wr (i1 + 1))
  else
   some (-1)
def IndexFunc_int_frank_within_1 (n : Nat) (a0 : List Int) (a1c0 : List Int) (a1c1 : List Int) : Option Int :=
 IndexFunc_int_frank_within_1_L0 n a0 a1c0 a1c1 0
def ContainsFunc_int_frank_within_1 (n : Nat) (a0 : List Int) (a1c0 : List Int) (a1c1 : List Int) : Option Bool :=
 (IndexFunc_int_frank_within_1 n a0 a1c0 a1c1).bind fun r1 =>
 some (decide (r1 ≥ 0))
def rank_within (n : Nat) (a0 : List Int) (a1 : List Int) (a2 : List Int) : Option Bool :=
 (ContainsFunc_int_frank_within_1 n a0 a1 a2).bind fun r1 =>
 some r1
def Clip_2int (n : Nat) (a0 : List Arr2_i64) : Option (List Arr2_i64) :=
 (sub a0 0 (ln a0)).bind fun l1 =>
 some l1
mutual
def rank_Inside_L0 : Nat → Prog → (List (List ByteArray)) → (List (List Int)) → Int → Option (List Arr2_i64)
 | 0,_,_,_,_=>none
 | n + 1,a0,a1,l1,i2 =>
  bif decide (i2 < (ln a1)) then
   (idx a1 i2).bind fun x3 =>
   (cost_Wrapped n a0 x3).bind fun r4 =>
   bif room s_Lint.i1.bytes l1.length [r4].length then
    rank_Inside_L0 n a0 a1 (l1 ++ [r4]) (wr (i2 + 1))
   else none
  else
   (rank_ends n a0).bind fun r6 =>
   rank_Inside_L1 n a0 a1 l1 i2 r6 ([] : List Arr2_i64) r6 0
def rank_Inside_L1 : Nat → Prog → (List (List ByteArray)) → (List (List Int)) → Int → (List Int) → (List Arr2_i64) → (List Int) → Int → Option (List Arr2_i64)
 | 0,_,_,_,_,_,_,_,_=>none
 | n + 1,a0,a1,l1,i2,r6,l7,l8,i9 =>
  bif decide (i9 < (ln a1)) then
   rank_Inside_L2 n a0 a1 l1 i2 r6 l7 l8 i9 l7 0
  else
   (Clip_2int n l7).bind fun r20 =>
   some r20
def rank_Inside_L2 : Nat → Prog → (List (List ByteArray)) → (List (List Int)) → Int → (List Int) → (List Arr2_i64) → (List Int) → Int → (List Arr2_i64) → Int → Option (List Arr2_i64)
 | 0,_,_,_,_,_,_,_,_,_,_=>none
 | n + 1,a0,a1,l1,i2,r6,l7,l8,i9,l10,i11 =>
  bif decide (i11 < (ln a1)) then
   jn (fun (l12 : List Arr2_i64) =>
    rank_Inside_L2 n a0 a1 l1 i2 r6 l7 l8 i9 l12 (wr (i11 + 1))) fun J13 =>
    jn (fun (b14 : Bool) =>
     bif b14 then
      bif room s_Arr2_i64.i1.bytes l10.length [(Arr2_i64.mk i9 i11)].length then
       J13 (l10 ++ [(Arr2_i64.mk i9 i11)])
      else none
     else
      J13 l10) fun J15 =>
     bif (i9 != i11) then
      (idx l1 i11).bind fun x16 =>
      (idx l1 i9).bind fun x17 =>
      (rank_within n x16 x17 l8).bind fun r18 =>
      J15 r18
     else
      J15 false
  else
   rank_Inside_L1 n a0 a1 l1 i2 r6 l10 l8 (wr (i9 + 1))
end
def rank_Inside (n : Nat) (a0 : Prog) (a1 : List (List ByteArray)) : Option (List Arr2_i64) :=
 rank_Inside_L0 n a0 a1 ([] : List (List Int)) 0
def math_bits_Mul64 (n : Nat) (a0 : Int) (a1 : Int) : Option (Int × Int) :=
 (ishr .u64 a0 32).bind fun x1 =>
 (ishr .u64 a1 32).bind fun x2 =>
 (ishr .u64 (IntKind.u64.wrap ((IntKind.u64.wrap ((BitVec.ofInt 64 a0 &&& BitVec.ofInt 64 4294967295).toNat : Nat)) * (IntKind.u64.wrap ((BitVec.ofInt 64 a1 &&& BitVec.ofInt 64 4294967295).toNat : Nat)))) 32).bind fun x3 =>
 (ishr .u64 (IntKind.u64.wrap ((IntKind.u64.wrap (x1 * (IntKind.u64.wrap ((BitVec.ofInt 64 a1 &&& BitVec.ofInt 64 4294967295).toNat : Nat)))) + x3)) 32).bind fun x4 =>
 (ishr .u64 (IntKind.u64.wrap ((IntKind.u64.wrap ((BitVec.ofInt 64 (IntKind.u64.wrap ((IntKind.u64.wrap (x1 * (IntKind.u64.wrap ((BitVec.ofInt 64 a1 &&& BitVec.ofInt 64 4294967295).toNat : Nat)))) + x3)) &&& BitVec.ofInt 64 4294967295).toNat : Nat)) + (IntKind.u64.wrap ((IntKind.u64.wrap ((BitVec.ofInt 64 a0 &&& BitVec.ofInt 64 4294967295).toNat : Nat)) * x2)))) 32).bind fun x5 =>
 some (IntKind.u64.wrap ((IntKind.u64.wrap ((IntKind.u64.wrap (x1 * x2)) + x4)) + x5),IntKind.u64.wrap (a0 * a1))
def math_bits_Mul (n : Nat) (a0 : Int) (a1 : Int) : Option (Int × Int) :=
 (math_bits_Mul64 n a0 a1).bind fun r1 =>
 some (r1.1,r1.2)
def Repeat_int_L0 : Nat → (List Int) → Int → (Int × Int) → Bool → (List Int) → Int → Option (List Int)
 | 0,_,_,_,_,_,_=>none
 | n + 1,a0,a1,r1,b2,l5,i6 =>
  bif decide (i6 < (ln l5)) then
   bif inR i6 l5.length then
    bif inR i6 l5.length then
     bif inR i6 l5.length then
      Repeat_int_L0 n a0 a1 r1 b2 (rcopy l5 i6.toNat) (wr (i6 + ((min i6.toNat (l5.length - i6.toNat) : Nat) : Int)))
     else none
    else none
   else none
  else
   some l5
def Repeat_int (n : Nat) (a0 : List Int) (a1 : Int) : Option (List Int) :=
 bif decide (a1 < 0) then
  none
 else
  (math_bits_Mul n (IntKind.u64.wrap (ln a0)) (IntKind.u64.wrap a1)).bind fun r1 =>
  jn (fun (b2 : Bool) =>
   bif b2 then
    none
   else
    bif mroom s_int.i1.bytes (wr r1.2) then
     Repeat_int_L0 n a0 a1 r1 b2 (lcopy (List.replicate (wr r1.2).toNat (0 : Int)) a0) ((min a0.length (List.replicate (wr r1.2).toNat (0 : Int)).length : Nat) : Int)
    else none) fun J3 =>
   bif decide (r1.1 > 0) then
    J3 true
   else
    J3 (decide (r1.2 > 9223372036854775807))
def rank_Order_1 (n : Nat) (a0 : Arr2_i64) (a1 : Int) (a2 : List Int) : Option Bool :=
 jn (fun (b1 : Bool) =>
  some b1) fun J2 =>
  bif (a0.e1 == a1) then
   (idx a2 a0.e0).bind fun x3 =>
   J2 (decide (x3 < 0))
  else
   J2 false
def IndexFunc_2int_frank_Order_1_L0 : Nat → (List Arr2_i64) → Int → (List Int) → Int → Option Int
 | 0,_,_,_,_=>none
 | n + 1,a0,a1c0,a1c1,i1 =>
  bif decide (i1 < (ln a0)) then
   (idx a0 i1).bind fun x2 =>
   (rank_Order_1 n x2 a1c0 a1c1).bind fun r3 =>
   bif r3 then
    some i1
   else
    IndexFunc_2int_frank_Order_1_L0 n a0 a1c0 a1c1 (wr (i1 + 1))
  else
   some (-1)
def IndexFunc_2int_frank_Order_1 (n : Nat) (a0 : List Arr2_i64) (a1c0 : Int) (a1c1 : List Int) : Option Int :=
 IndexFunc_2int_frank_Order_1_L0 n a0 a1c0 a1c1 0
def ContainsFunc_2int_frank_Order_1 (n : Nat) (a0 : List Arr2_i64) (a1c0 : Int) (a1c1 : List Int) : Option Bool :=
 (IndexFunc_2int_frank_Order_1 n a0 a1c0 a1c1).bind fun r1 =>
 some (decide (r1 ≥ 0))
mutual
def rank_Order_L0 : Nat → Prog → (List (List ByteArray)) → (List Arr2_i64) → (List Int) → (List Int) → Int → Option ((List Int) × Int)
 | 0,_,_,_,_,_,_=>none
 | n + 1,a0,a1,r1,r2,l3,i4 =>
  bif decide (i4 < (ln a1)) then
   rank_Order_L1 n a0 a1 r1 r2 l3 i4 (-1) 0
  else
   (Clip_int n l3).bind fun r14 =>
   some (r14,0)
def rank_Order_L1 : Nat → Prog → (List (List ByteArray)) → (List Arr2_i64) → (List Int) → (List Int) → Int → Int → Int → Option ((List Int) × Int)
 | 0,_,_,_,_,_,_,_,_=>none
 | n + 1,a0,a1,r1,r2,l3,i4,i5,i6 =>
  bif decide (i6 < (ln a1)) then
   jn (fun (i7 : Int) =>
    rank_Order_L1 n a0 a1 r1 r2 l3 i4 i7 (wr (i6 + 1))) fun J8 =>
    (ContainsFunc_2int_frank_Order_1 n r1 i6 l3).bind fun r9 =>
    jn (fun (b10 : Bool) =>
     bif b10 then
      J8 i6
     else
      J8 i5) fun J11 =>
     (idx l3 i6).bind fun x12 =>
     bif decide (x12 < 0) then
      bif !r9 then
       J11 (decide (i5 < 0))
      else
       J11 false
     else
      J11 false
  else
   bif decide (i5 < 0) then
    some ([],8)
   else
    (idx l3 i5).bind fun x13 =>
    rank_Order_L0 n a0 a1 r1 r2 (l3.set i5.toNat i4) (wr (i4 + 1))
end
def rank_Order (n : Nat) (a0 : Prog) (a1 : List (List ByteArray)) : Option ((List Int) × Int) :=
 (rank_Inside n a0 a1).bind fun r1 =>
 (Repeat_int n [(-1)] (ln a1)).bind fun r2 =>
 rank_Order_L0 n a0 a1 r1 r2 r2 0
def law25_known (n : Nat) : Option Bool :=
 (law25_read n tx60).bind fun r1 =>
 (rank_Order n r1 [[k_x],[k_y]]).bind fun r2 =>
 jn (fun (b3 : Bool) =>
  some b3) fun J4 =>
  bif (r2.2 == 0) then
   bif ((ln r2.1) == 2) then
    (idx r2.1 0).bind fun x5 =>
    bif (x5 == 0) then
     (idx r2.1 1).bind fun x6 =>
     J4 (x6 == 1)
    else
     J4 false
   else
    J4 false
  else
   J4 false
mutual
def law25_RankRises_L0 : Nat → Int → (List Act) → (List Act) → (List Act) → Int → ByteArray → Prog → (List (List ByteArray)) → (List Arr2_i64) → ((List Int) × Int) → Bool → (List Bool) → Int → Option Bool
 | 0,_,_,_,_,_,_,_,_,_,_,_,_,_=>none
 | n + 1,a0,a1,a2,a3,a4,r1,r2,r3,r4,r5,r6,l8,i9 =>
  bif decide (i9 < (ln r5.1)) then
   (idx r5.1 i9).bind fun x10 =>
   jn (fun (b11 : Bool) =>
    bif b11 then
     some false
    else
     (idx l8 x10).bind fun x14 =>
     law25_RankRises_L0 n a0 a1 a2 a3 a4 r1 r2 r3 r4 r5 r6 (l8.set x10.toNat true) (wr (i9 + 1))) fun J12 =>
    bif decide (x10 < 0) then
     J12 true
    else
     bif decide (x10 ≥ (ln r3)) then
      J12 true
     else
      (idx l8 x10).bind fun x13 =>
      J12 x13
  else
   law25_RankRises_L1 n a0 a1 a2 a3 a4 r1 r2 r3 r4 r5 r6 l8 i9 0
def law25_RankRises_L1 : Nat → Int → (List Act) → (List Act) → (List Act) → Int → ByteArray → Prog → (List (List ByteArray)) → (List Arr2_i64) → ((List Int) × Int) → Bool → (List Bool) → Int → Int → Option Bool
 | 0,_,_,_,_,_,_,_,_,_,_,_,_,_,_=>none
 | n + 1,a0,a1,a2,a3,a4,r1,r2,r3,r4,r5,r6,l8,i9,i15 =>
  bif decide (i15 < (ln r4)) then
   (idx r4 i15).bind fun x16 =>
   (idx r5.1 x16.e0).bind fun x17 =>
   (idx r5.1 x16.e1).bind fun x18 =>
   bif decide (x17 ≥ x18) then
    some false
   else
    law25_RankRises_L1 n a0 a1 a2 a3 a4 r1 r2 r3 r4 r5 r6 l8 i9 (wr (i15 + 1))
  else
   some true
end
def law25_RankRises (n : Nat) (a0 : Int) (a1 : List Act) (a2 : List Act) (a3 : List Act) (a4 : Int) : Option Bool :=
 (hand_Good n a0 a1 a2 a3 5).bind fun r1 =>
 (law25_read n r1).bind fun r2 =>
 (law25_groups n a4).bind fun r3 =>
 (rank_Inside n r2 r3).bind fun r4 =>
 (rank_Order n r2 r3).bind fun r5 =>
 (law25_known n ).bind fun r6 =>
 bif !r6 then
  some false
 else
  bif (r5.2 == 0) then
   bif ((ln r5.1) != (ln r3)) then
    some false
   else
    bif mroom s_bool.i1.bytes (ln r3) then
     law25_RankRises_L0 n a0 a1 a2 a3 a4 r1 r2 r3 r4 r5 r6 (List.replicate (ln r3).toNat (false : Bool)) 0
    else none
  else
   rises_map n r3 r4 r5.1 r5.2
end Go.Su.Ytkmcnajbhclimaa
