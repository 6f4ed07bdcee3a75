/-
  The functions of the program compute that.
-/
import Derived.Test.YtcadbebhhnggdaaZRKT
namespace Go.Su.Ytcadbebhhnggdaa
open Go.Mx Go.Proofs
set_option maxRecDepth 100000
set_option maxHeartbeats 20000000
set_option linter.unusedVariables false
set_option linter.unusedSimpArgs false
def ref1_letter (n : Nat) (a0 : Int) : Option Bool :=
 jn (fun (b1 : Bool) =>
  some b1) fun J2 =>
  bif decide (a0 ≥ 97) then
   J2 (decide (a0 ≤ 122))
  else
   J2 false
def ref1_digit (n : Nat) (a0 : Int) : Option Bool :=
 jn (fun (b1 : Bool) =>
  some b1) fun J2 =>
  bif decide (a0 ≥ 48) then
   J2 (decide (a0 ≤ 57))
  else
   J2 false
def ref1_number_L0 : Nat → ByteArray → Int → Int → Option (Int × Bool)
 | 0,_,_,_=>none
 | n + 1,a0,i1,i2 =>
  bif decide (i2 < (a0.size : Int)) then
   (idxS a0 i2).bind fun x3 =>
   bif decide (i1 > (wr ((wr (9223372036854775807 - (wr (IntKind.u8.wrap (x3 - 48))))).tdiv 10))) then
    some (0,false)
   else
    ref1_number_L0 n a0 (wr ((wr (10 * i1)) + (wr (IntKind.u8.wrap (x3 - 48))))) (wr (i2 + 1))
  else
   jn (fun (b4 : Bool) =>
    some (i1,b4)) fun J5 =>
    bif !bytesEq a0 b0 then
     (idxS a0 0).bind fun x6 =>
     bif (x6 != 48) then
      J5 true
     else
      J5 (bytesEq a0 x_30)
    else
     J5 false
def ref1_number (n : Nat) (a0 : ByteArray) : Option (Int × Bool) :=
 ref1_number_L0 n a0 0 0
mutual
def ref1_one_L0 : Nat → ByteArray → Int → Int → Bool → ByteArray → Int → Option (Token × Int)
 | 0,_,_,_,_,_,_=>none
 | n + 1,a0,a1,x1,r2,w4,i5 =>
  jn (fun (b6 : Bool) =>
   bif b6 then
    ref1_one_L0 n a0 a1 x1 r2 w4 (wr (i5 + 1))
   else
    bif decide ((wr (i5 - a1)) > 12) then
     some ((Token.mk 0 b0 0 0),0)
    else
     (ssub a0 a1 i5).bind fun w12 =>
     some ((Token.mk 1 w12 0 a1),wr (i5 - a1))) fun J7 =>
   bif decide (i5 < (a0.size : Int)) then
    (idxS a0 i5).bind fun x8 =>
    (ref1_letter n x8).bind fun r9 =>
    bif r9 then
     J7 true
    else
     (idxS a0 i5).bind fun x10 =>
     (ref1_digit n x10).bind fun r11 =>
     J7 r11
   else
    J7 false
def ref1_one_L1 : Nat → ByteArray → Int → Int → Bool → Bool → ByteArray → Int → Option (Token × Int)
 | 0,_,_,_,_,_,_,_=>none
 | n + 1,a0,a1,x1,r2,r13,w15,i16 =>
  jn (fun (b17 : Bool) =>
   bif b17 then
    ref1_one_L1 n a0 a1 x1 r2 r13 w15 (wr (i16 + 1))
   else
    (ssub a0 a1 i16).bind fun w21 =>
    (ref1_number n w21).bind fun r22 =>
    bif !r22.2 then
     some ((Token.mk 0 b0 0 0),0)
    else
     (ssub a0 a1 i16).bind fun w23 =>
     some ((Token.mk 2 w23 r22.1 a1),wr (i16 - a1))) fun J18 =>
   bif decide (i16 < (a0.size : Int)) then
    (idxS a0 i16).bind fun x19 =>
    (ref1_digit n x19).bind fun r20 =>
    J18 r20
   else
    J18 false
def ref1_one_L2 : Nat → ByteArray → Int → Int → Bool → Bool → ByteArray → Bool → Int → Option (Token × Int)
 | 0,_,_,_,_,_,_,_,_=>none
 | n + 1,a0,a1,x1,r2,r13,w24,b25,i28 =>
  bif decide (i28 < 11) then
   (idxS x_3d3c2b2d2a2f2528297b7d i28).bind fun x29 =>
   bif (x29 == x1) then
    (ssub a0 a1 (wr (a1 + 1))).bind fun w30 =>
    some ((Token.mk 3 w30 0 a1),1)
   else
    ref1_one_L2 n a0 a1 x1 r2 r13 w24 b25 (wr (i28 + 1))
  else
   some ((Token.mk 0 b0 0 0),0)
end
def ref1_one (n : Nat) (a0 : ByteArray) (a1 : Int) : Option (Token × Int) :=
 (idxS a0 a1).bind fun x1 =>
 (ref1_letter n x1).bind fun r2 =>
 bif r2 then
  ref1_one_L0 n a0 a1 x1 r2 b0 (wr (a1 + 1))
 else
  (ref1_digit n x1).bind fun r13 =>
  bif r13 then
   ref1_one_L1 n a0 a1 x1 r2 r13 b0 (wr (a1 + 1))
  else
   jn (fun (w24 : ByteArray) (b25 : Bool) =>
    bif b25 then
     some ((Token.mk 3 x_3d3d 0 a1),2)
    else
     ref1_one_L2 n a0 a1 x1 r2 r13 w24 b25 0) fun J26 =>
    bif (x1 == 61) then
     bif decide ((wr (a1 + 1)) < (a0.size : Int)) then
      (idxS a0 (wr (a1 + 1))).bind fun x27 =>
      J26 b0 (x27 == 61)
     else
      J26 b0 false
    else
     J26 b0 false
mutual
def ref1_Tokens_L0 : Nat → ByteArray → (List Token) → Int → Option ((List Token) × Int × Int)
 | 0,_,_,_=>none
 | n + 1,a0,l1,i2 =>
  bif decide (i2 < (a0.size : Int)) then
   (idxS a0 i2).bind fun x3 =>
   jn (fun (b4 : Bool) =>
    bif b4 then
     ref1_Tokens_L0 n a0 l1 (wr (i2 + 1))
    else
     bif (x3 == 35) then
      ref1_Tokens_L1 n a0 l1 i2 x3 b4 i2
     else
      (ref1_one n a0 i2).bind fun r10 =>
      bif (r10.2 == 0) then
       some (([] : List Token),i2,2)
      else
       bif room s_Token.i1.bytes l1.length [r10.1].length then
        ref1_Tokens_L0 n a0 (l1 ++ [r10.1]) (wr (i2 + r10.2))
       else none) fun J5 =>
    bif (x3 == 32) then
     J5 true
    else
     bif (x3 == 9) then
      J5 true
     else
      J5 (x3 == 10)
  else
   bif room s_Token.i1.bytes l1.length [(Token.mk 4 b0 0 i2)].length then
    some (l1 ++ [(Token.mk 4 b0 0 i2)],0,0)
   else none
def ref1_Tokens_L1 : Nat → ByteArray → (List Token) → Int → Int → Bool → Int → Option ((List Token) × Int × Int)
 | 0,_,_,_,_,_,_=>none
 | n + 1,a0,l1,i2,x3,b4,i6 =>
  jn (fun (b7 : Bool) =>
   bif b7 then
    ref1_Tokens_L1 n a0 l1 i2 x3 b4 (wr (i6 + 1))
   else
    ref1_Tokens_L0 n a0 l1 i6) fun J8 =>
   bif decide (i6 < (a0.size : Int)) then
    (idxS a0 i6).bind fun x9 =>
    J8 (x9 != 10)
   else
    J8 false
end
def ref1_Tokens (n : Nat) (a0 : ByteArray) : Option ((List Token) × Int × Int) :=
 bif decide ((a0.size : Int) > 6000) then
  some (([] : List Token),6000,2)
 else
  ref1_Tokens_L0 n a0 ([] : List Token) 0
def ref1_declKind_L0 : Nat → ByteArray → Int → Option Int
 | 0,_,_=>none
 | n + 1,a0,i1 =>
  bif decide (i1 < 6) then
   (idx [k_var,k_wide,k_atomic,k_local,k_mutex,k_chan] i1).bind fun x2 =>
   bif bytesEq a0 x2 then
    some (wr (1 + i1))
   else
    ref1_declKind_L0 n a0 (wr (i1 + 1))
  else
   some 0
def ref1_declKind (n : Nat) (a0 : ByteArray) : Option Int :=
 ref1_declKind_L0 n a0 0
def ref1_Reader_failAt (n : Nat) (a0 : Reader) (a1 : Int) : Option Reader :=
 bif !a0.Fail then
  some (Reader.mk a0.T a0.At true a1)
 else
  some a0
def ref1_Reader_fail (n : Nat) (a0 : Reader) : Option Reader :=
 (ref1_Reader_failAt n a0 a0.At).bind fun r1 =>
 some r1
def ref1_Within (n : Nat) (a0 : Int) (a1 : Int) (a2 : Int) : Option Int :=
 some (gomax a1 (gomin a2 a0))
def ref1_Spot_L0 : Nat → ByteArray → Int → Int → Int → Int → Int → Option (Int × Int)
 | 0,_,_,_,_,_,_=>none
 | n + 1,a0,a1,r1,i2,i3,i4 =>
  bif decide (i4 < r1) then
   jn (fun (i5 : Int) (i6 : Int) =>
    ref1_Spot_L0 n a0 a1 r1 i5 i6 (wr (i4 + 1))) fun J7 =>
    (idxS a0 i4).bind fun x8 =>
    bif (x8 == 10) then
     J7 (wr (i2 + 1)) 1
    else
     J7 i2 (wr (i3 + 1))
  else
   some (i2,i3)
def ref1_Spot (n : Nat) (a0 : ByteArray) (a1 : Int) : Option (Int × Int) :=
 (ref1_Within n a1 0 (a0.size : Int)).bind fun r1 =>
 ref1_Spot_L0 n a0 a1 r1 1 1 0
def ref1_Place (n : Nat) (a0 : ByteArray) (a1 : Int) : Option Cx :=
 (ref1_Spot n a0 a1).bind fun r1 =>
 some (⟨FloatKind.f64.nearest r1.1,FloatKind.f64.nearest r1.2⟩ : Cx)
def ref1_Keyword_L0 : Nat → ByteArray → Int → Option Bool
 | 0,_,_=>none
 | n + 1,a0,i1 =>
  bif decide (i1 < 17) then
   (idx [k_var,k_wide,k_atomic,k_local,k_mutex,k_chan,k_go,k_lock,k_unlock,k_send,k_recv,k_print,k_if,k_else,k_repeat,k_goto,k_label] i1).bind fun x2 =>
   bif bytesEq a0 x2 then
    some true
   else
    ref1_Keyword_L0 n a0 (wr (i1 + 1))
  else
   some false
def ref1_Keyword (n : Nat) (a0 : ByteArray) : Option Bool :=
 ref1_Keyword_L0 n a0 0
def ref1_Reader_name (n : Nat) (a0 : Reader) : Option (ByteArray × Reader) :=
 jn (fun (b1 : Bool) =>
  bif b1 then
   (ref1_Reader_fail n a0).bind fun r6 =>
   some (b0,r6)
  else
   (idx a0.T (wr ((wr (a0.At + 1)) - 1))).bind fun x7 =>
   some (x7.Text,(Reader.mk a0.T (wr (a0.At + 1)) a0.Fail a0.Bad))) fun J2 =>
  bif a0.Fail then
   J2 true
  else
   (idx a0.T a0.At).bind fun x3 =>
   bif (x3.Kind != 1) then
    J2 true
   else
    (idx a0.T a0.At).bind fun x4 =>
    (ref1_Keyword n x4.Text).bind fun r5 =>
    J2 r5
def ref1_Reader_number (n : Nat) (a0 : Reader) (a1 : Int) : Option (Int × Reader) :=
 jn (fun (b1 : Bool) =>
  bif b1 then
   (ref1_Reader_fail n a0).bind fun r5 =>
   some (0,r5)
  else
   (idx a0.T (wr ((wr (a0.At + 1)) - 1))).bind fun x6 =>
   some (x6.N,(Reader.mk a0.T (wr (a0.At + 1)) a0.Fail a0.Bad))) fun J2 =>
  bif a0.Fail then
   J2 true
  else
   (idx a0.T a0.At).bind fun x3 =>
   bif (x3.Kind != 2) then
    J2 true
   else
    (idx a0.T a0.At).bind fun x4 =>
    J2 (decide (x4.N > a1))
def ref1_Reader_word (n : Nat) (a0 : Reader) (a1 : ByteArray) : Option Bool :=
 jn (fun (b1 : Bool) =>
  some b1) fun J2 =>
  bif !a0.Fail then
   (idx a0.T a0.At).bind fun x3 =>
   bif (x3.Kind == 1) then
    (idx a0.T a0.At).bind fun x4 =>
    J2 (bytesEq x4.Text a1)
   else
    J2 false
  else
   J2 false
def ref1_Reader_sign (n : Nat) (a0 : Reader) (a1 : ByteArray) : Option Bool :=
 jn (fun (b1 : Bool) =>
  some b1) fun J2 =>
  bif !a0.Fail then
   (idx a0.T a0.At).bind fun x3 =>
   bif (x3.Kind == 3) then
    (idx a0.T a0.At).bind fun x4 =>
    J2 (bytesEq x4.Text a1)
   else
    J2 false
  else
   J2 false
def ref1_Reader_must (n : Nat) (a0 : Reader) (a1 : ByteArray) : Option Reader :=
 (ref1_Reader_sign n a0 a1).bind fun r1 =>
 bif !r1 then
  (ref1_Reader_fail n a0).bind fun r2 =>
  some r2
 else
  some (Reader.mk a0.T (wr (a0.At + 1)) a0.Fail a0.Bad)
def ref1_binary (n : Nat) (a0 : Int) (a1 : Expr) (a2 : Expr) : Option Expr :=
 some (Expr.mk a0 0 b0 [a1,a2])
mutual
def ref1_Reader_term_L0 : Nat → Reader → Int → (Expr × Reader) → (ByteArray → Expr → Reader → Option (Expr × Reader)) → Reader → ByteArray → Expr → Option (Expr × Reader)
 | 0,_,_,_,_,_,_,_=>none
 | n + 1,a0,a1,r1,J5,v7,w8,v9 =>
  bif !v7.Fail then
   jn (fun (i10 : Int) =>
    bif (i10 == 0) then
     J5 w8 v9 v7
    else
     (ref1_Reader_factor n (Reader.mk v7.T (wr (v7.At + 1)) v7.Fail v7.Bad) a1).bind fun r15 =>
     (ref1_binary n i10 v9 r15.1).bind fun r16 =>
     ref1_Reader_term_L0 n a0 a1 r1 J5 r15.2 w8 r16) fun J11 =>
    (ref1_Reader_sign n v7 x_2a).bind fun r12 =>
    bif r12 then
     J11 6
    else
     (ref1_Reader_sign n v7 x_2f).bind fun r13 =>
     bif r13 then
      J11 7
     else
      (ref1_Reader_sign n v7 x_25).bind fun r14 =>
      bif r14 then
       J11 8
      else
       J11 0
  else
   J5 w8 v9 v7
def ref1_Reader_sum_L0 : Nat → Reader → Int → (Expr × Reader) → (ByteArray → Expr → Reader → Option (Expr × Reader)) → Reader → ByteArray → Expr → Option (Expr × Reader)
 | 0,_,_,_,_,_,_,_=>none
 | n + 1,a0,a1,r1,J5,v7,w8,v9 =>
  bif !v7.Fail then
   jn (fun (i10 : Int) =>
    bif (i10 == 0) then
     J5 w8 v9 v7
    else
     (ref1_Reader_term n (Reader.mk v7.T (wr (v7.At + 1)) v7.Fail v7.Bad) a1).bind fun r14 =>
     (ref1_binary n i10 v9 r14.1).bind fun r15 =>
     ref1_Reader_sum_L0 n a0 a1 r1 J5 r14.2 w8 r15) fun J11 =>
    (ref1_Reader_sign n v7 x_2b).bind fun r12 =>
    bif r12 then
     J11 4
    else
     (ref1_Reader_sign n v7 x_2d).bind fun r13 =>
     bif r13 then
      J11 5
     else
      J11 0
  else
   J5 w8 v9 v7
def ref1_Reader_factor : Nat → Reader → Int → Option (Expr × Reader)
 | 0,_,_=>none
 | n + 1,a0,a1 =>
  bif a0.Fail then
   some ((Expr.mk 0 0 b0 []),a0)
  else
   (idx a0.T a0.At).bind fun x1 =>
   bif (x1.Kind == 2) then
    some ((Expr.mk 1 x1.N b0 []),(Reader.mk a0.T (wr (a0.At + 1)) a0.Fail a0.Bad))
   else
    jn (fun (w2 : ByteArray) (b3 : Bool) =>
     bif b3 then
      some ((Expr.mk 2 0 x1.Text []),(Reader.mk a0.T (wr (a0.At + 1)) a0.Fail a0.Bad))
     else
      jn (fun (b6 : Bool) =>
       bif b6 then
        (ref1_Reader_factor n (Reader.mk a0.T (wr (a0.At + 1)) a0.Fail a0.Bad) (wr (a1 + 1))).bind fun r9 =>
        some ((Expr.mk 3 0 b0 [r9.1]),r9.2)
       else
        jn (fun (b10 : Bool) =>
         bif b10 then
          (ref1_Reader_expr n (Reader.mk a0.T (wr (a0.At + 1)) a0.Fail a0.Bad) (wr (a1 + 1))).bind fun r13 =>
          (ref1_Reader_must n r13.2 x_29).bind fun r14 =>
          some (r13.1,r14)
         else
          (ref1_Reader_fail n a0).bind fun r15 =>
          some ((Expr.mk 0 0 b0 []),r15)) fun J11 =>
         (ref1_Reader_sign n a0 x_28).bind fun r12 =>
         bif r12 then
          J11 (decide (a1 < 8))
         else
          J11 false) fun J7 =>
       (ref1_Reader_sign n a0 x_2d).bind fun r8 =>
       bif r8 then
        J7 (decide (a1 < 8))
       else
        J7 false) fun J4 =>
     bif (x1.Kind == 1) then
      (ref1_Keyword n x1.Text).bind fun r5 =>
      J4 b0 (!r5)
     else
      J4 b0 false
def ref1_Reader_term : Nat → Reader → Int → Option (Expr × Reader)
 | 0,_,_=>none
 | n + 1,a0,a1 =>
  (ref1_Reader_factor n a0 a1).bind fun r1 =>
  jn (fun (w2 : ByteArray) (v3 : Expr) (v4 : Reader) =>
   some (v3,v4)) fun J5 =>
   ref1_Reader_term_L0 n a0 a1 r1 J5 r1.2 b0 r1.1
def ref1_Reader_sum : Nat → Reader → Int → Option (Expr × Reader)
 | 0,_,_=>none
 | n + 1,a0,a1 =>
  (ref1_Reader_term n a0 a1).bind fun r1 =>
  jn (fun (w2 : ByteArray) (v3 : Expr) (v4 : Reader) =>
   some (v3,v4)) fun J5 =>
   ref1_Reader_sum_L0 n a0 a1 r1 J5 r1.2 b0 r1.1
def ref1_Reader_expr : Nat → Reader → Int → Option (Expr × Reader)
 | 0,_,_=>none
 | n + 1,a0,a1 =>
  (ref1_Reader_sum n a0 a1).bind fun r1 =>
  jn (fun (w2 : ByteArray) (i3 : Int) =>
   bif (i3 == 0) then
    some (r1.1,r1.2)
   else
    (ref1_Reader_sum n (Reader.mk r1.2.T (wr (r1.2.At + 1)) r1.2.Fail r1.2.Bad) a1).bind fun r7 =>
    (ref1_binary n i3 r1.1 r7.1).bind fun r8 =>
    some (r8,r7.2)) fun J4 =>
   (ref1_Reader_sign n r1.2 x_3c).bind fun r5 =>
   bif r5 then
    J4 b0 9
   else
    (ref1_Reader_sign n r1.2 x_3d3d).bind fun r6 =>
    bif r6 then
     J4 b0 10
    else
     J4 b0 0
end
def ref1_Reader_whole (n : Nat) (a0 : Reader) (a1 : ByteArray) : Option (Expr × Reader) :=
 jn (fun (i1 : Int) (i2 : Int) (w3 : ByteArray) (l4 : List Expr) (v5 : Reader) =>
  some ((Expr.mk i1 i2 w3 l4),v5)) fun J6 =>
  bif !a0.Fail then
   (ref1_Reader_expr n a0 0).bind fun r7 =>
   J6 r7.1.Kind r7.1.N r7.1.Name r7.1.Of r7.2
  else
   J6 0 0 b0 [] a0
mutual
def ref1_Reader_block_L0 : Nat → Reader → ByteArray → Int → Reader → Reader → Reader → (List Stmt) → Option ((List Stmt) × Reader)
 | 0,_,_,_,_,_,_,_=>none
 | n + 1,a0,a1,a2,v1,r4,v5,l6 =>
  jn (fun (b7 : Bool) =>
   bif b7 then
    (ref1_Reader_stmt n v5 a1 a2).bind fun r10 =>
    bif !r10.2.Fail then
     bif room s_Stmt.i1.bytes l6.length [r10.1].length then
      ref1_Reader_block_L0 n a0 a1 a2 v1 r4 r10.2 (l6 ++ [r10.1])
     else none
    else
     ref1_Reader_block_L0 n a0 a1 a2 v1 r4 r10.2 l6
   else
    (ref1_Reader_must n v5 x_7d).bind fun r12 =>
    some (l6,r12)) fun J8 =>
   bif !v5.Fail then
    (ref1_Reader_sign n v5 x_7d).bind fun r9 =>
    J8 (!r9)
   else
    J8 false
def ref1_Reader_stmt : Nat → Reader → ByteArray → Int → Option (Stmt × Reader)
 | 0,_,_,_=>none
 | n + 1,a0,a1,a2 =>
  (idx a0.T a0.At).bind fun x1 =>
  (ref1_Place n a1 x1.At).bind fun r2 =>
  bif (x1.Kind != 1) then
   (ref1_Reader_fail n a0).bind fun r3 =>
   some ((Stmt.mk 0 b0 b0 0 (Expr.mk 0 0 b0 []) [] [] r2),r3)
  else
   jn (fun (w4 : ByteArray) (w5 : ByteArray) (w6 : ByteArray) (i7 : Int) (w8 : ByteArray) (w9 : ByteArray) (i10 : Int) (i11 : Int) (i12 : Int) (w13 : ByteArray) (l14 : List Expr) (l15 : List Stmt) (l16 : List Stmt) (v17 : Reader) =>
    some ((Stmt.mk i7 w8 w9 i10 (Expr.mk i11 i12 w13 l14) l15 l16 r2),v17)) fun J18 =>
    jn (fun (w19 : ByteArray) (w20 : ByteArray) (w21 : ByteArray) (w22 : ByteArray) (w23 : ByteArray) (w24 : ByteArray) (b25 : Bool) =>
     bif b25 then
      jn (fun (i27 : Int) =>
       (ref1_Reader_name n (Reader.mk a0.T (wr (a0.At + 1)) a0.Fail a0.Bad)).bind fun r29 =>
       J18 w19 w20 w21 i27 r29.1 w23 0 0 0 w24 [] ([] : List Stmt) ([] : List Stmt) r29.2) fun J28 =>
       bif bytesEq x1.Text k_unlock then
        J28 3
       else
        bif bytesEq x1.Text k_goto then
         J28 9
        else
         bif bytesEq x1.Text k_label then
          J28 10
         else
          J28 2
     else
      bif bytesEq x1.Text k_send then
       (ref1_Reader_name n (Reader.mk a0.T (wr (a0.At + 1)) a0.Fail a0.Bad)).bind fun r30 =>
       (ref1_Reader_whole n r30.2 a1).bind fun r31 =>
       J18 w19 w20 w21 4 r30.1 w23 0 r31.1.Kind r31.1.N r31.1.Name r31.1.Of ([] : List Stmt) ([] : List Stmt) r31.2
      else
       bif bytesEq x1.Text k_recv then
        (ref1_Reader_name n (Reader.mk a0.T (wr (a0.At + 1)) a0.Fail a0.Bad)).bind fun r32 =>
        (ref1_Reader_name n r32.2).bind fun r33 =>
        J18 w19 w20 w21 5 r32.1 r33.1 0 0 0 w24 [] ([] : List Stmt) ([] : List Stmt) r33.2
       else
        bif bytesEq x1.Text k_print then
         (ref1_Reader_whole n (Reader.mk a0.T (wr (a0.At + 1)) a0.Fail a0.Bad) a1).bind fun r34 =>
         J18 w19 w20 w21 6 w22 w23 0 r34.1.Kind r34.1.N r34.1.Name r34.1.Of ([] : List Stmt) ([] : List Stmt) r34.2
        else
         bif bytesEq x1.Text k_if then
          (ref1_Reader_whole n (Reader.mk a0.T (wr (a0.At + 1)) a0.Fail a0.Bad) a1).bind fun r35 =>
          (ref1_Reader_block n r35.2 a1 (wr (a2 + 1))).bind fun r36 =>
          (ref1_Reader_word n r36.2 k_else).bind fun r37 =>
          bif r37 then
           (ref1_Reader_block n (Reader.mk r36.2.T (wr (r36.2.At + 1)) r36.2.Fail r36.2.Bad) a1 (wr (a2 + 1))).bind fun r38 =>
           J18 w19 w20 w21 7 w22 w23 0 r35.1.Kind r35.1.N r35.1.Name r35.1.Of r36.1 r38.1 r38.2
          else
           J18 w19 w20 w21 7 w22 w23 0 r35.1.Kind r35.1.N r35.1.Name r35.1.Of r36.1 ([] : List Stmt) r36.2
         else
          bif bytesEq x1.Text k_repeat then
           (ref1_Reader_number n (Reader.mk a0.T (wr (a0.At + 1)) a0.Fail a0.Bad) 9).bind fun r39 =>
           (ref1_Reader_block n r39.2 a1 (wr (a2 + 1))).bind fun r40 =>
           J18 w19 w20 w21 8 w22 w23 r39.1 0 0 w24 [] r40.1 ([] : List Stmt) r40.2
          else
           (ref1_Keyword n x1.Text).bind fun r41 =>
           bif r41 then
            (ref1_Reader_failAt n (Reader.mk a0.T (wr (a0.At + 1)) a0.Fail a0.Bad) (wr ((wr (a0.At + 1)) - 1))).bind fun r42 =>
            some ((Stmt.mk 0 w22 w23 0 (Expr.mk 0 0 w24 []) [] [] r2),r42)
           else
            (ref1_Reader_must n (Reader.mk a0.T (wr (a0.At + 1)) a0.Fail a0.Bad) x_3d).bind fun r43 =>
            (ref1_Reader_whole n r43 a1).bind fun r44 =>
            J18 w19 w20 w21 1 x1.Text w23 0 r44.1.Kind r44.1.N r44.1.Name r44.1.Of ([] : List Stmt) ([] : List Stmt) r44.2) fun J26 =>
     bif bytesEq x1.Text k_lock then
      J26 b0 b0 b0 b0 b0 b0 (bytesEq x1.Text k_lock)
     else
      bif bytesEq x1.Text k_unlock then
       J26 b0 b0 b0 b0 b0 b0 (bytesEq x1.Text k_unlock)
      else
       bif bytesEq x1.Text k_goto then
        J26 b0 b0 b0 b0 b0 b0 (bytesEq x1.Text k_goto)
       else
        J26 b0 b0 b0 b0 b0 b0 (bytesEq x1.Text k_label)
def ref1_Reader_block : Nat → Reader → ByteArray → Int → Option ((List Stmt) × Reader)
 | 0,_,_,_=>none
 | n + 1,a0,a1,a2 =>
  jn (fun (v1 : Reader) =>
   (ref1_Reader_must n v1 x_7b).bind fun r4 =>
   ref1_Reader_block_L0 n a0 a1 a2 v1 r4 r4 ([] : List Stmt)) fun J2 =>
   bif decide (a2 > 8) then
    (ref1_Reader_fail n a0).bind fun r3 =>
    J2 r3
   else
    J2 a0
end
mutual
def ref1_Parse_L0 : Nat → ByteArray → ((List Token) × Int × Int) → ((List Token) → Int → Bool → Int → (List Decl) → Option (Prog × Int × Int)) → (List Token) → Int → Bool → Int → (List Decl) → Option (Prog × Int × Int)
 | 0,_,_,_,_,_,_,_,_=>none
 | n + 1,a0,r1,J7,l8,i9,b10,i11,l12 =>
  jn (fun (b13 : Bool) =>
   bif b13 then
    bif ((ln l12) == 24) then
     (ref1_Reader_fail n (Reader.mk l8 i9 b10 i11)).bind fun r18 =>
     J7 r18.T r18.At r18.Fail r18.Bad l12
    else
     (idx l8 i9).bind fun x19 =>
     (ref1_declKind n x19.Text).bind fun r20 =>
     (idx l8 i9).bind fun x21 =>
     (ref1_Place n a0 x21.At).bind fun r22 =>
     (ref1_Reader_name n (Reader.mk l8 (wr (i9 + 1)) b10 i11)).bind fun r23 =>
     jn (fun (v24 : Reader) (i25 : Int) =>
      bif room s_Decl.i1.bytes l12.length [(Decl.mk r20 r23.1 i25 r22)].length then
       ref1_Parse_L0 n a0 r1 J7 v24.T v24.At v24.Fail v24.Bad (l12 ++ [(Decl.mk r20 r23.1 i25 r22)])
      else none) fun J26 =>
      bif (r20 == 6) then
       (ref1_Reader_number n r23.2 3).bind fun r27 =>
       J26 r27.2 r27.1
      else
       J26 r23.2 0
   else
    J7 l8 i9 b10 i11 l12) fun J14 =>
   bif !b10 then
    (idx l8 i9).bind fun x15 =>
    bif (x15.Kind == 1) then
     (idx l8 i9).bind fun x16 =>
     (ref1_declKind n x16.Text).bind fun r17 =>
     J14 (decide (r17 > 0))
    else
     J14 false
   else
    J14 false
def ref1_Parse_L1 : Nat → ByteArray → ((List Token) × Int × Int) → (List Token) → Int → Bool → Int → (List Decl) → ((List Token) → Int → Bool → Int → (List (List Stmt)) → Option (Prog × Int × Int)) → (List Token) → Int → Bool → Int → (List (List Stmt)) → Option (Prog × Int × Int)
 | 0,_,_,_,_,_,_,_,_,_,_,_,_,_=>none
 | n + 1,a0,r1,l2,i3,b4,i5,l6,J34,l35,i36,b37,i38,l39 =>
  jn (fun (b40 : Bool) =>
   bif b40 then
    jn (fun (b43 : Bool) =>
     bif b43 then
      (ref1_Reader_fail n (Reader.mk l35 i36 b37 i38)).bind fun r46 =>
      J34 r46.T r46.At r46.Fail r46.Bad l39
     else
      (ref1_Reader_block n (Reader.mk l35 (wr (i36 + 1)) b37 i38) a0 1).bind fun r47 =>
      bif room s_LStmt.i1.bytes l39.length [r47.1].length then
       ref1_Parse_L1 n a0 r1 l2 i3 b4 i5 l6 J34 r47.2.T r47.2.At r47.2.Fail r47.2.Bad (l39 ++ [r47.1])
      else none) fun J44 =>
     (ref1_Reader_word n (Reader.mk l35 i36 b37 i38) k_go).bind fun r45 =>
     bif !r45 then
      J44 true
     else
      J44 ((ln l39) == 4)
   else
    J34 l35 i36 b37 i38 l39) fun J41 =>
   bif !b37 then
    (idx l35 i36).bind fun x42 =>
    bif (x42.Kind != 4) then
     J41 true
    else
     J41 ((ln l39) == 0)
   else
    J41 false
end
def ref1_Parse (n : Nat) (a0 : ByteArray) : Option (Prog × Int × Int) :=
 (ref1_Tokens n a0).bind fun r1 =>
 bif (r1.2.2 != 0) then
  some ((Prog.mk [] []),r1.2.1,r1.2.2)
 else
  jn (fun (l2 : List Token) (i3 : Int) (b4 : Bool) (i5 : Int) (l6 : List Decl) =>
   jn (fun (l29 : List Token) (i30 : Int) (b31 : Bool) (i32 : Int) (l33 : List (List Stmt)) =>
    bif b31 then
     (idx r1.1 i32).bind fun x49 =>
     some ((Prog.mk [] []),x49.At,2)
    else
     some ((Prog.mk l6 l33),0,0)) fun J34 =>
    ref1_Parse_L1 n a0 r1 l2 i3 b4 i5 l6 J34 l2 i3 b4 i5 ([] : List (List Stmt))) fun J7 =>
   ref1_Parse_L0 n a0 r1 J7 r1.1 0 false 0 ([] : List Decl)
def law25_read (n : Nat) (a0 : ByteArray) : Option Prog :=
 (ref1_Parse n a0).bind fun r1 =>
 some r1.1
mutual
def tree_listed_o_L0 : Nat → (List Stmt) → (List Stmt) → (List Stmt) → Int → Option (List Stmt)
 | 0,_,_,_,_=>none
 | n + 1,a0,a1,l1,i2 =>
  bif decide (i2 < (ln a1)) then
   (idx a1 i2).bind fun x3 =>
   bif room s_Stmt.i1.bytes l1.length [x3].length then
    (tree_listed_o n (l1 ++ [x3]) x3.Body).bind fun r5 =>
    (tree_listed_o n r5 x3.Else).bind fun r6 =>
    tree_listed_o_L0 n a0 a1 r6 (wr (i2 + 1))
   else none
  else
   some l1
def tree_listed_o : Nat → (List Stmt) → (List Stmt) → Option (List Stmt)
 | 0,_,_=>none
 | n + 1,a0,a1 =>
  tree_listed_o_L0 n a0 a1 a0 0
end
def Clone_Expr (n : Nat) (a0 : List Expr) : Option (List Expr) :=
 bif room s_Expr.i1.bytes ([] : List Expr).length a0.length then
  some (([] : List Expr) ++ a0)
 else none
def Clip_Expr_o (n : Nat) (a0 : List Expr) : Option (List Expr) :=
 some a0
mutual
def tree_copyExpr_L0 : Nat → Expr → (List Expr) → (List Expr) → (List Expr) → ByteArray → Int → Option Expr
 | 0,_,_,_,_,_,_=>none
 | n + 1,a0,r1,r2,l4,w5,i6 =>
  bif decide (i6 < (ln r2)) then
   (idx l4 i6).bind fun x7 =>
   (tree_copyExpr n x7).bind fun r8 =>
   (idx l4 i6).bind fun x9 =>
   tree_copyExpr_L0 n a0 r1 r2 (l4.set i6.toNat r8) w5 (wr (i6 + 1))
  else
   some (Expr.mk a0.Kind a0.N a0.Name l4)
def tree_copyExpr : Nat → Expr → Option Expr
 | 0,_=>none
 | n + 1,a0 =>
  (Clone_Expr n a0.Of).bind fun r1 =>
  (Clip_Expr_o n r1).bind fun r2 =>
  tree_copyExpr_L0 n a0 r1 r2 r2 b0 0
end
def Clone_Stmt (n : Nat) (a0 : List Stmt) : Option (List Stmt) :=
 bif room s_Stmt.i1.bytes ([] : List Stmt).length a0.length then
  some (([] : List Stmt) ++ a0)
 else none
def Clip_Stmt_o (n : Nat) (a0 : List Stmt) : Option (List Stmt) :=
 some a0
mutual
def tree_copyBlock_L0 : Nat → (List Stmt) → (List Stmt) → (List Stmt) → (List Stmt) → Int → Option (List Stmt)
 | 0,_,_,_,_,_=>none
 | n + 1,a0,r1,r2,l3,i4 =>
  bif decide (i4 < (ln r2)) then
   (idx l3 i4).bind fun x5 =>
   (tree_copyStmt n x5).bind fun r6 =>
   (idx l3 i4).bind fun x7 =>
   tree_copyBlock_L0 n a0 r1 r2 (l3.set i4.toNat r6) (wr (i4 + 1))
  else
   some l3
def tree_copyBlock : Nat → (List Stmt) → Option (List Stmt)
 | 0,_=>none
 | n + 1,a0 =>
  (Clone_Stmt n a0).bind fun r1 =>
  (Clip_Stmt_o n r1).bind fun r2 =>
  tree_copyBlock_L0 n a0 r1 r2 r2 0
def tree_copyStmt : Nat → Stmt → Option Stmt
 | 0,_=>none
 | n + 1,a0 =>
  (tree_copyExpr n a0.E).bind fun r1 =>
  (tree_copyBlock n a0.Body).bind fun r2 =>
  (tree_copyBlock n a0.Else).bind fun r3 =>
  some (Stmt.mk a0.Kind a0.Name a0.Other a0.N r1 r2 r3 a0.At)
end
def Clip_Stmt (n : Nat) (a0 : List Stmt) : Option (List Stmt) :=
 (sub a0 0 (ln a0)).bind fun l1 =>
 some l1
mutual
def tree_List_L0 : Nat → Prog → (List Stmt) → Int → Option (List Stmt)
 | 0,_,_,_=>none
 | n + 1,a0,l1,i2 =>
  bif decide (i2 < (ln a0.Threads)) then
   (idx a0.Threads i2).bind fun x3 =>
   (tree_listed_o n l1 x3).bind fun r4 =>
   tree_List_L0 n a0 r4 (wr (i2 + 1))
  else
   tree_List_L1 n a0 l1 i2 l1 0
def tree_List_L1 : Nat → Prog → (List Stmt) → Int → (List Stmt) → Int → Option (List Stmt)
 | 0,_,_,_,_,_=>none
 | n + 1,a0,l1,i2,l5,i6 =>
  bif decide (i6 < (ln l1)) then
   (idx l5 i6).bind fun x7 =>
   (tree_copyStmt n x7).bind fun r8 =>
   (idx l5 i6).bind fun x9 =>
   tree_List_L1 n a0 l1 i2 (l5.set i6.toNat r8) (wr (i6 + 1))
  else
   (Clip_Stmt n l5).bind fun r10 =>
   some r10
end
def tree_List (n : Nat) (a0 : Prog) : Option (List Stmt) :=
 tree_List_L0 n a0 ([] : List Stmt) 0
def Clip_string (n : Nat) (a0 : List ByteArray) : Option (List ByteArray) :=
 (sub a0 0 (ln a0)).bind fun l1 =>
 some l1
mutual
def tree_Names_L0 : Nat → Expr → (List ByteArray) → (List ByteArray) → Int → Option (List ByteArray)
 | 0,_,_,_,_=>none
 | n + 1,a0,l1,l4,i5 =>
  bif decide (i5 < (ln a0.Of)) then
   (idx a0.Of i5).bind fun x6 =>
   (tree_Names n x6).bind fun r7 =>
   bif room s_string.i1.bytes l4.length r7.length then
    tree_Names_L0 n a0 l1 (l4 ++ r7) (wr (i5 + 1))
   else none
  else
   (Clip_string n l4).bind fun r9 =>
   some r9
def tree_Names : Nat → Expr → Option (List ByteArray)
 | 0,_=>none
 | n + 1,a0 =>
  jn (fun (l1 : List ByteArray) =>
   tree_Names_L0 n a0 l1 l1 0) fun J2 =>
   bif (a0.Kind == 2) then
    bif room s_string.i1.bytes ([] : List ByteArray).length [a0.Name].length then
     J2 (([] : List ByteArray) ++ [a0.Name])
    else none
   else
    J2 ([] : List ByteArray)
end
def tree_Touches (n : Nat) (a0 : Stmt) : Option (List ByteArray) :=
 jn (fun (l1 : List ByteArray) =>
  jn (fun (l6 : List ByteArray) =>
   (Clip_string n l6).bind fun r10 =>
   some r10) fun J7 =>
   bif (a0.Kind == 1) then
    bif room s_string.i1.bytes l1.length [a0.Name].length then
     J7 (l1 ++ [a0.Name])
    else none
   else
    bif (a0.Kind == 5) then
     bif room s_string.i1.bytes l1.length [a0.Other].length then
      J7 (l1 ++ [a0.Other])
     else none
    else
     J7 l1) fun J2 =>
  jn (fun (b3 : Bool) =>
   bif b3 then
    (tree_Names n a0.E).bind fun r5 =>
    J2 r5
   else
    J2 []) fun J4 =>
   bif (a0.Kind == 1) then
    J4 (a0.Kind == 1)
   else
    bif (a0.Kind == 4) then
     J4 (a0.Kind == 4)
    else
     bif (a0.Kind == 6) then
      J4 (a0.Kind == 6)
     else
      J4 (a0.Kind == 7)
def Index_string_L0 : Nat → (List ByteArray) → ByteArray → Int → Option Int
 | 0,_,_,_=>none
 | n + 1,a0,a1,i1 =>
  bif decide (i1 < (ln a0)) then
   (idx a0 i1).bind fun x2 =>
   bif bytesEq a1 x2 then
    some i1
   else
    Index_string_L0 n a0 a1 (wr (i1 + 1))
  else
   some (-1)
def Index_string (n : Nat) (a0 : List ByteArray) (a1 : ByteArray) : Option Int :=
 Index_string_L0 n a0 a1 0
def Contains_string (n : Nat) (a0 : List ByteArray) (a1 : ByteArray) : Option Bool :=
 (Index_string n a0 a1).bind fun r1 =>
 some (decide (r1 ≥ 0))
def cost_touches_1 (n : Nat) (a0 : ByteArray) (a1 : List ByteArray) : Option Bool :=
 (Contains_string n a1 a0).bind fun r1 =>
 some r1
def IndexFunc_string_fcost_touches_1_L0 : Nat → (List ByteArray) → (List ByteArray) → Int → Option Int
 | 0,_,_,_=>none
 | n + 1,a0,a1c0,i1 =>
  bif decide (i1 < (ln a0)) then
   (idx a0 i1).bind fun x2 =>
   (cost_touches_1 n x2 a1c0).bind fun r3 =>
   bif r3 then
    some i1
   else
    IndexFunc_string_fcost_touches_1_L0 n a0 a1c0 (wr (i1 + 1))
  else
   some (-1)
def IndexFunc_string_fcost_touches_1 (n : Nat) (a0 : List ByteArray) (a1c0 : List ByteArray) : Option Int :=
 IndexFunc_string_fcost_touches_1_L0 n a0 a1c0 0
def ContainsFunc_string_fcost_touches_1 (n : Nat) (a0 : List ByteArray) (a1c0 : List ByteArray) : Option Bool :=
 (IndexFunc_string_fcost_touches_1 n a0 a1c0).bind fun r1 =>
 some (decide (r1 ≥ 0))
def cost_touches (n : Nat) (a0 : Stmt) (a1 : List ByteArray) : Option Bool :=
 (tree_Touches n a0).bind fun r1 =>
 (ContainsFunc_string_fcost_touches_1 n r1 a1).bind fun r2 =>
 some r2
def cost_size (n : Nat) (a0 : Stmt) : Option Int :=
 (tree_List n (Prog.mk [] [[a0]])).bind fun r1 =>
 some (ln r1)
def Clip_int (n : Nat) (a0 : List Int) : Option (List Int) :=
 (sub a0 0 (ln a0)).bind fun l1 =>
 some l1
def cost_Wrapped_L0 : Nat → Prog → (List ByteArray) → (List Stmt) → (List Int) → Int → Option (List Int)
 | 0,_,_,_,_,_=>none
 | n + 1,a0,a1,r1,l2,i3 =>
  bif decide (i3 < (ln r1)) then
   (idx r1 i3).bind fun x4 =>
   (cost_touches n x4 a1).bind fun r5 =>
   bif r5 then
    bif room s_int.i1.bytes l2.length [i3].length then
     (idx r1 i3).bind fun x7 =>
     (cost_size n x7).bind fun r8 =>
     cost_Wrapped_L0 n a0 a1 r1 (l2 ++ [i3]) (wr (i3 + r8))
    else none
   else
    cost_Wrapped_L0 n a0 a1 r1 l2 (wr (i3 + 1))
  else
   (Clip_int n l2).bind fun r9 =>
   some r9
def cost_Wrapped (n : Nat) (a0 : Prog) (a1 : List ByteArray) : Option (List Int) :=
 (tree_List n a0).bind fun r1 =>
 cost_Wrapped_L0 n a0 a1 r1 ([] : List Int) 0
def rank_ends_L0 : Nat → Prog → (List Stmt) → (List Int) → Int → Option (List Int)
 | 0,_,_,_,_=>none
 | n + 1,a0,r1,l2,i3 =>
  bif decide (i3 < (ln r1)) then
   (idx r1 i3).bind fun x4 =>
   (tree_List n (Prog.mk [] [[x4]])).bind fun r5 =>
   bif room s_int.i1.bytes l2.length [wr (i3 + (ln r5))].length then
    rank_ends_L0 n a0 r1 (l2 ++ [wr (i3 + (ln r5))]) (wr (i3 + 1))
   else none
  else
   some l2
def rank_ends (n : Nat) (a0 : Prog) : Option (List Int) :=
 (tree_List n a0).bind fun r1 =>
 rank_ends_L0 n a0 r1 ([] : List Int) 0
def rank_within_1_1 (n : Nat) (a0 : Int) (a1 : Int) (a2 : List Int) : Option Bool :=
 jn (fun (b1 : Bool) =>
  some b1) fun J2 =>
  bif decide (a0 < a1) then
   (idx a2 a0).bind fun x3 =>
   J2 (decide (a1 < x3))
  else
   J2 false
def IndexFunc_int_frank_within_1_1_L0 : Nat → (List Int) → Int → (List Int) → Int → Option Int
 | 0,_,_,_,_=>none
 | n + 1,a0,a1c0,a1c1,i1 =>
  bif decide (i1 < (ln a0)) then
   (idx a0 i1).bind fun x2 =>
   (rank_within_1_1 n x2 a1c0 a1c1).bind fun r3 =>
   bif r3 then
    some i1
   else
    IndexFunc_int_frank_within_1_1_L0 n a0 a1c0 a1c1 (wr (i1 + 1))
  else
   some (-1)
def IndexFunc_int_frank_within_1_1 (n : Nat) (a0 : List Int) (a1c0 : Int) (a1c1 : List Int) : Option Int :=
 IndexFunc_int_frank_within_1_1_L0 n a0 a1c0 a1c1 0
def ContainsFunc_int_frank_within_1_1 (n : Nat) (a0 : List Int) (a1c0 : Int) (a1c1 : List Int) : Option Bool :=
 (IndexFunc_int_frank_within_1_1 n a0 a1c0 a1c1).bind fun r1 =>
 some (decide (r1 ≥ 0))
def rank_within_1 (n : Nat) (a0 : Int) (a1 : List Int) (a2 : List Int) : Option Bool :=
 (ContainsFunc_int_frank_within_1_1 n a1 a0 a2).bind fun r1 =>
 some r1
def IndexFunc_int_frank_within_1_L0 : Nat → (List Int) → (List Int) → (List Int) → Int → Option Int
 | 0,_,_,_,_=>none
 | n + 1,a0,a1c0,a1c1,i1 =>
  bif decide (i1 < (ln a0)) then
   (idx a0 i1).bind fun x2 =>
   (rank_within_1 n x2 a1c0 a1c1).bind fun r3 =>
   bif r3 then
    some i1
   else
    IndexFunc_int_frank_within_1_L0 n a0 a1c0 a1c1 (wr (i1 + 1))
  else
   some (-1)
def IndexFunc_int_frank_within_1 (n : Nat) (a0 : List Int) (a1c0 : List Int) (a1c1 : List Int) : Option Int :=
 IndexFunc_int_frank_within_1_L0 n a0 a1c0 a1c1 0
def ContainsFunc_int_frank_within_1 (n : Nat) (a0 : List Int) (a1c0 : List Int) (a1c1 : List Int) : Option Bool :=
 (IndexFunc_int_frank_within_1 n a0 a1c0 a1c1).bind fun r1 =>
 some (decide (r1 ≥ 0))
def rank_within (n : Nat) (a0 : List Int) (a1 : List Int) (a2 : List Int) : Option Bool :=
 (ContainsFunc_int_frank_within_1 n a0 a1 a2).bind fun r1 =>
 some r1
def Clip_2int (n : Nat) (a0 : List Arr2_i64) : Option (List Arr2_i64) :=
 (sub a0 0 (ln a0)).bind fun l1 =>
 some l1
mutual
def rank_Inside_L0 : Nat → Prog → (List (List ByteArray)) → (List (List Int)) → Int → Option (List Arr2_i64)
 | 0,_,_,_,_=>none
 | n + 1,a0,a1,l1,i2 =>
  bif decide (i2 < (ln a1)) then
   (idx a1 i2).bind fun x3 =>
   (cost_Wrapped n a0 x3).bind fun r4 =>
   bif room s_Lint.i1.bytes l1.length [r4].length then
    rank_Inside_L0 n a0 a1 (l1 ++ [r4]) (wr (i2 + 1))
   else none
  else
   (rank_ends n a0).bind fun r6 =>
   rank_Inside_L1 n a0 a1 l1 i2 r6 ([] : List Arr2_i64) r6 0
def rank_Inside_L1 : Nat → Prog → (List (List ByteArray)) → (List (List Int)) → Int → (List Int) → (List Arr2_i64) → (List Int) → Int → Option (List Arr2_i64)
 | 0,_,_,_,_,_,_,_,_=>none
 | n + 1,a0,a1,l1,i2,r6,l7,l8,i9 =>
  bif decide (i9 < (ln a1)) then
   rank_Inside_L2 n a0 a1 l1 i2 r6 l7 l8 i9 l7 0
  else
   (Clip_2int n l7).bind fun r20 =>
   some r20
def rank_Inside_L2 : Nat → Prog → (List (List ByteArray)) → (List (List Int)) → Int → (List Int) → (List Arr2_i64) → (List Int) → Int → (List Arr2_i64) → Int → Option (List Arr2_i64)
 | 0,_,_,_,_,_,_,_,_,_,_=>none
 | n + 1,a0,a1,l1,i2,r6,l7,l8,i9,l10,i11 =>
  bif decide (i11 < (ln a1)) then
   jn (fun (l12 : List Arr2_i64) =>
    rank_Inside_L2 n a0 a1 l1 i2 r6 l7 l8 i9 l12 (wr (i11 + 1))) fun J13 =>
    jn (fun (b14 : Bool) =>
     bif b14 then
      bif room s_Arr2_i64.i1.bytes l10.length [(Arr2_i64.mk i9 i11)].length then
       J13 (l10 ++ [(Arr2_i64.mk i9 i11)])
      else none
     else
      J13 l10) fun J15 =>
     bif (i9 != i11) then
      (idx l1 i11).bind fun x16 =>
      (idx l1 i9).bind fun x17 =>
      (rank_within n x16 x17 l8).bind fun r18 =>
      J15 r18
     else
      J15 false
  else
   rank_Inside_L1 n a0 a1 l1 i2 r6 l10 l8 (wr (i9 + 1))
end
def rank_Inside (n : Nat) (a0 : Prog) (a1 : List (List ByteArray)) : Option (List Arr2_i64) :=
 rank_Inside_L0 n a0 a1 ([] : List (List Int)) 0
def math_bits_Mul64 (n : Nat) (a0 : Int) (a1 : Int) : Option (Int × Int) :=
 (ishr .u64 a0 32).bind fun x1 =>
 (ishr .u64 a1 32).bind fun x2 =>
 (ishr .u64 (IntKind.u64.wrap ((IntKind.u64.wrap ((BitVec.ofInt 64 a0 &&& BitVec.ofInt 64 4294967295).toNat : Nat)) * (IntKind.u64.wrap ((BitVec.ofInt 64 a1 &&& BitVec.ofInt 64 4294967295).toNat : Nat)))) 32).bind fun x3 =>
 (ishr .u64 (IntKind.u64.wrap ((IntKind.u64.wrap (x1 * (IntKind.u64.wrap ((BitVec.ofInt 64 a1 &&& BitVec.ofInt 64 4294967295).toNat : Nat)))) + x3)) 32).bind fun x4 =>
 (ishr .u64 (IntKind.u64.wrap ((IntKind.u64.wrap ((BitVec.ofInt 64 (IntKind.u64.wrap ((IntKind.u64.wrap (x1 * (IntKind.u64.wrap ((BitVec.ofInt 64 a1 &&& BitVec.ofInt 64 4294967295).toNat : Nat)))) + x3)) &&& BitVec.ofInt 64 4294967295).toNat : Nat)) + (IntKind.u64.wrap ((IntKind.u64.wrap ((BitVec.ofInt 64 a0 &&& BitVec.ofInt 64 4294967295).toNat : Nat)) * x2)))) 32).bind fun x5 =>
 some (IntKind.u64.wrap ((IntKind.u64.wrap ((IntKind.u64.wrap (x1 * x2)) + x4)) + x5),IntKind.u64.wrap (a0 * a1))
def math_bits_Mul (n : Nat) (a0 : Int) (a1 : Int) : Option (Int × Int) :=
 (math_bits_Mul64 n a0 a1).bind fun r1 =>
 some (r1.1,r1.2)
def Repeat_int_L0 : Nat → (List Int) → Int → (Int × Int) → Bool → (List Int) → Int → Option (List Int)
 | 0,_,_,_,_,_,_=>none
 | n + 1,a0,a1,r1,b2,l5,i6 =>
  bif decide (i6 < (ln l5)) then
   bif inR i6 l5.length then
    bif inR i6 l5.length then
     bif inR i6 l5.length then
      Repeat_int_L0 n a0 a1 r1 b2 (rcopy l5 i6.toNat) (wr (i6 + ((min i6.toNat (l5.length - i6.toNat) : Nat) : Int)))
     else none
    else none
   else none
  else
   some l5
def Repeat_int (n : Nat) (a0 : List Int) (a1 : Int) : Option (List Int) :=
 bif decide (a1 < 0) then
  none
 else
  (math_bits_Mul n (IntKind.u64.wrap (ln a0)) (IntKind.u64.wrap a1)).bind fun r1 =>
  jn (fun (b2 : Bool) =>
   bif b2 then
    none
   else
    bif mroom s_int.i1.bytes (wr r1.2) then
     Repeat_int_L0 n a0 a1 r1 b2 (lcopy (List.replicate (wr r1.2).toNat (0 : Int)) a0) ((min a0.length (List.replicate (wr r1.2).toNat (0 : Int)).length : Nat) : Int)
    else none) fun J3 =>
   bif decide (r1.1 > 0) then
    J3 true
   else
    J3 (decide (r1.2 > 9223372036854775807))
def rank_Order_1 (n : Nat) (a0 : Arr2_i64) (a1 : Int) (a2 : List Int) : Option Bool :=
 jn (fun (b1 : Bool) =>
  some b1) fun J2 =>
  bif (a0.e1 == a1) then
   (idx a2 a0.e0).bind fun x3 =>
   J2 (decide (x3 < 0))
  else
   J2 false
def IndexFunc_2int_frank_Order_1_L0 : Nat → (List Arr2_i64) → Int → (List Int) → Int → Option Int
 | 0,_,_,_,_=>none
 | n + 1,a0,a1c0,a1c1,i1 =>
  bif decide (i1 < (ln a0)) then
   (idx a0 i1).bind fun x2 =>
   (rank_Order_1 n x2 a1c0 a1c1).bind fun r3 =>
   bif r3 then
    some i1
   else
    IndexFunc_2int_frank_Order_1_L0 n a0 a1c0 a1c1 (wr (i1 + 1))
  else
   some (-1)
def IndexFunc_2int_frank_Order_1 (n : Nat) (a0 : List Arr2_i64) (a1c0 : Int) (a1c1 : List Int) : Option Int :=
 IndexFunc_2int_frank_Order_1_L0 n a0 a1c0 a1c1 0
def ContainsFunc_2int_frank_Order_1 (n : Nat) (a0 : List Arr2_i64) (a1c0 : Int) (a1c1 : List Int) : Option Bool :=
 (IndexFunc_2int_frank_Order_1 n a0 a1c0 a1c1).bind fun r1 =>
 some (decide (r1 ≥ 0))
mutual
def rank_Order_L0 : Nat → Prog → (List (List ByteArray)) → (List Arr2_i64) → (List Int) → (List Int) → Int → Option ((List Int) × Int)
 | 0,_,_,_,_,_,_=>none
 | n + 1,a0,a1,r1,r2,l3,i4 =>
  bif decide (i4 < (ln a1)) then
   rank_Order_L1 n a0 a1 r1 r2 l3 i4 (-1) 0
  else
   (Clip_int n l3).bind fun r14 =>
   some (r14,0)
def rank_Order_L1 : Nat → Prog → (List (List ByteArray)) → (List Arr2_i64) → (List Int) → (List Int) → Int → Int → Int → Option ((List Int) × Int)
 | 0,_,_,_,_,_,_,_,_=>none
 | n + 1,a0,a1,r1,r2,l3,i4,i5,i6 =>
  bif decide (i6 < (ln a1)) then
   jn (fun (i7 : Int) =>
    rank_Order_L1 n a0 a1 r1 r2 l3 i4 i7 (wr (i6 + 1))) fun J8 =>
    (ContainsFunc_2int_frank_Order_1 n r1 i6 l3).bind fun r9 =>
    jn (fun (b10 : Bool) =>
     bif b10 then
      J8 i6
     else
      J8 i5) fun J11 =>
     (idx l3 i6).bind fun x12 =>
     bif decide (x12 < 0) then
      bif !r9 then
       J11 (decide (i5 < 0))
      else
       J11 false
     else
      J11 false
  else
   bif decide (i5 < 0) then
    some ([],8)
   else
    (idx l3 i5).bind fun x13 =>
    rank_Order_L0 n a0 a1 r1 r2 (l3.set i5.toNat i4) (wr (i4 + 1))
end
def rank_Order (n : Nat) (a0 : Prog) (a1 : List (List ByteArray)) : Option ((List Int) × Int) :=
 (rank_Inside n a0 a1).bind fun r1 =>
 (Repeat_int n [(-1)] (ln a1)).bind fun r2 =>
 rank_Order_L0 n a0 a1 r1 r2 r2 0
def law25_known (n : Nat) : Option Bool :=
 (law25_read n tx60).bind fun r1 =>
 (rank_Order n r1 [[k_x],[k_y]]).bind fun r2 =>
 jn (fun (b3 : Bool) =>
  some b3) fun J4 =>
  bif (r2.2 == 0) then
   bif ((ln r2.1) == 2) then
    (idx r2.1 0).bind fun x5 =>
    bif (x5 == 0) then
     (idx r2.1 1).bind fun x6 =>
     J4 (x6 == 1)
    else
     J4 false
   else
    J4 false
  else
   J4 false
def law25_RankKnown (n : Nat) : Option Bool :=
 (law25_read n tx61).bind fun r1 =>
 (rank_Inside n r1 [[k_x],[k_z],[k_y]]).bind fun r2 =>
 (rank_Order n r1 [[k_x],[k_z],[k_y]]).bind fun r3 =>
 (law25_read n tx62).bind fun r4 =>
 (rank_Order n r4 [[k_x],[k_y]]).bind fun r5 =>
 (rank_Order n r4 [[k_x,k_y]]).bind fun r6 =>
 (rank_Order n r4 []).bind fun r7 =>
 (law25_read n tx63).bind fun r8 =>
 (rank_Inside n r8 [[k_x],[k_y]]).bind fun r9 =>
 jn (fun (b10 : Bool) =>
  bif b10 then
   some false
  else
   jn (fun (b13 : Bool) =>
    some b13) fun J14 =>
    bif (r3.2 == 0) then
     (idx r2 0).bind fun x15 =>
     bif andL [x15.e0 == 1,x15.e1 == 0] then
      (idx r2 1).bind fun x16 =>
      bif andL [x16.e0 == 2,x16.e1 == 0] then
       (idx r2 2).bind fun x17 =>
       bif andL [x17.e0 == 2,x17.e1 == 1] then
        (idx r3.1 0).bind fun x18 =>
        bif (x18 == 2) then
         (idx r3.1 1).bind fun x19 =>
         bif (x19 == 1) then
          (idx r3.1 2).bind fun x20 =>
          bif (x20 == 0) then
           bif (r5.2 == 8) then
            bif (r6.2 == 0) then
             (idx r6.1 0).bind fun x21 =>
             bif (x21 == 0) then
              bif (r7.2 == 0) then
               bif ((ln r7.1) == 0) then
                J14 ((ln r9) == 0)
               else
                J14 false
              else
               J14 false
             else
              J14 false
            else
             J14 false
           else
            J14 false
          else
           J14 false
         else
          J14 false
        else
         J14 false
       else
        J14 false
      else
       J14 false
     else
      J14 false
    else
     J14 false) fun J11 =>
  (law25_known n ).bind fun r12 =>
  bif !r12 then
   J11 true
  else
   bif ((ln r2) != 3) then
    J11 true
   else
    bif ((ln r3.1) != 3) then
     J11 true
    else
     J11 ((ln r6.1) != 1)
end Go.Su.Ytcadbebhhnggdaa
namespace Go.Su.Ytcadbebhhnggdaa
open Go.Mx Go.Proofs
set_option maxRecDepth 100000
set_option maxHeartbeats 20000000
set_option linter.unusedVariables false
set_option linter.unusedSimpArgs false
theorem ref1_letter_ok {n : Nat} {a0 : Int} {r : Bool} (h : ref1_letter n a0 = some r) : PT Try.prog 125 [vu a0] (vb r):=by
 unfold ref1_letter at h
 refine PT_bodyA hT Try.func125 rfl (by kernel_rfl) fun bad w=>?_
 refine Qz hT 1 [0] ⟨[(0,vu a0)],[],0⟩ ?_
 refine WA_seq ?_
 obtain ⟨J2,hJ2,h⟩:=jsome h
 refine WA_join (fun s=>∃ (b1 : Bool),J2 b1 = some r ∧ s = ⟨[(2,vb b1)],[],1⟩) ?_ ?_
 ·refine Rg hT 3 [0,5] ⟨[(0,vu a0),(5,vb (decide (a0 ≥ 97)))],[],0⟩ ?_
  cases hb : (decide (a0 ≥ 97) : Bool)
  ·replace h:=cfalse hb h
   refine Sg hT 4 [2] ⟨[(2,vb false)],[],0⟩ ?_
   exact oK [2] [] ⟨false,h,rfl⟩
  replace h:=ctrue hb h
  refine Sg hT 4 [2] ⟨[(2,vb (decide (a0 ≤ 122)))],[],0⟩ ?_
  exact oK [2] [] ⟨decide (a0 ≤ 122),h,rfl⟩
 subst hJ2
 rintro s ⟨b1,h,rfl⟩
 obtain rfl:=Option.some.inj h
 exact rK [2] [] ⟨[(2,vb b1)],[],1⟩ ⟨by kernel_rfl,rfl⟩
theorem ref1_digit_ok {n : Nat} {a0 : Int} {r : Bool} (h : ref1_digit n a0 = some r) : PT Try.prog 126 [vu a0] (vb r):=by
 unfold ref1_digit at h
 refine PT_bodyA hT Try.func126 rfl (by kernel_rfl) fun bad w=>?_
 refine Qz hT 1 [0] ⟨[(0,vu a0)],[],0⟩ ?_
 refine WA_seq ?_
 obtain ⟨J2,hJ2,h⟩:=jsome h
 refine WA_join (fun s=>∃ (b1 : Bool),J2 b1 = some r ∧ s = ⟨[(2,vb b1)],[],1⟩) ?_ ?_
 ·refine Rg hT 3 [0,5] ⟨[(0,vu a0),(5,vb (decide (a0 ≥ 48)))],[],0⟩ ?_
  cases hb : (decide (a0 ≥ 48) : Bool)
  ·replace h:=cfalse hb h
   refine Sg hT 4 [2] ⟨[(2,vb false)],[],0⟩ ?_
   exact oK [2] [] ⟨false,h,rfl⟩
  replace h:=ctrue hb h
  refine Sg hT 4 [2] ⟨[(2,vb (decide (a0 ≤ 57)))],[],0⟩ ?_
  exact oK [2] [] ⟨decide (a0 ≤ 57),h,rfl⟩
 subst hJ2
 rintro s ⟨b1,h,rfl⟩
 obtain rfl:=Option.some.inj h
 exact rK [2] [] ⟨[(2,vb b1)],[],1⟩ ⟨by kernel_rfl,rfl⟩
end Go.Su.Ytcadbebhhnggdaa
