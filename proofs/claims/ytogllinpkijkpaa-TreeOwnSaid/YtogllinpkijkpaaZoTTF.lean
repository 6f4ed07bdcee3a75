/-
  What the program's functions compute.
-/
import Derived.Test.YtogllinpkijkpaaZoTTT
namespace Go.Su.Ytogllinpkijkpaa
open Go.Mx Go.Proofs Go.Proofs.Ytogllinpkijkpaa
set_option linter.unusedVariables false
def okInts (l : List Int) : Prop:=l.length ≤ maxLen ∧ ∀ a ∈ l,okInt .i64 a
def okAct (a : Act) : Prop:=okInt .i64 a.What ∧ okInt .i64 a.A ∧ okInt .i64 a.B ∧ okInt .i64 a.N ∧ okInts a.E
def okActs (l : List Act) : Prop:=l.length ≤ maxLen ∧ ∀ a ∈ l,okAct a
theorem opens_ints (W : World) : Opens Try.prog W 45 el_int okInts :=
 opens_slice (k:=1) Try.underlying45 (by kernel_rfl) (by omega) (fun _=>rfl) (opens_int Try.underlying3)
theorem opens_act (W : World) : Opens Try.prog W 73 eAct okAct:=by
 intro H enc fuel cs x h
 obtain ⟨xs,n,_,_,hl,hx,hf⟩:=DataW.trod_struct Try.underlying73 h
 have hl : cs.length = 5:=hl.trans (by kernel_rfl)
 obtain ⟨a0,g0,k0,r0⟩:=opens_field hx hf 0 rfl (k:=1) (o:=0) (by kernel_rfl) rfl (by omega) (opens_int Try.underlying3)
 obtain ⟨a1,g1,k1,r1⟩:=opens_field hx hf 1 rfl (k:=1) (o:=1) (by kernel_rfl) rfl (by omega) (opens_int Try.underlying3)
 obtain ⟨a2,g2,k2,r2⟩:=opens_field hx hf 2 rfl (k:=1) (o:=2) (by kernel_rfl) rfl (by omega) (opens_int Try.underlying3)
 obtain ⟨a3,g3,k3,r3⟩:=opens_field hx hf 3 rfl (k:=1) (o:=3) (by kernel_rfl) rfl (by omega) (opens_int Try.underlying3)
 obtain ⟨a4,g4,k4,r4⟩:=opens_field hx hf 4 rfl (k:=1) (o:=4) (by kernel_rfl) rfl (by omega) (opens_ints W)
 refine ⟨⟨a0,a1,a2,a3,a4⟩,⟨g0,g1,g2,g3,g4⟩,hl.symm,fun i h1 h2=>?_⟩
 rw [hl] at h2
 match i,h1,h2 with
 | 0,_,_=>exact r0 0 (Nat.zero_lt_one) (by omega)
 | 1,_,_=>exact r1 0 (Nat.zero_lt_one) (by omega)
 | 2,_,_=>exact r2 0 (Nat.zero_lt_one) (by omega)
 | 3,_,_=>exact r3 0 (Nat.zero_lt_one) (by omega)
 | 4,_,_=>exact r4 0 (Nat.zero_lt_one) (by omega)
 | i + 5,_,h=>omega
theorem opens_acts (W : World) : Opens Try.prog W 22 el_Act okActs :=
 opens_slice (k:=5) Try.underlying22 (by kernel_rfl) (by omega) (fun _=>rfl) (opens_act W)
end Go.Su.Ytogllinpkijkpaa
namespace Go.Su.Ytogllinpkijkpaa
open Go.Mx Go.Proofs
set_option maxRecDepth 100000
set_option maxHeartbeats 20000000
set_option linter.unusedVariables false
set_option linter.unusedSimpArgs false
def hand_Pick (n : Nat) (a0 : Int) (a1 : Int) : Option Int :=
 bif (a1 == 0) then none else
 jn (fun (i2 : Int) =>
  some i2) fun J3 =>
  bif decide ((a0.tmod a1) < 0) then
   J3 (wr ((a0.tmod a1) + a1))
  else
   J3 (a0.tmod a1)
def hand_Decls (n : Nat) (a0 : Int) : Option (List Decl) :=
 (hand_Pick n a0 3).bind fun r1 =>
 (hand_Pick n (wr (a0.tdiv 3)) 7).bind fun r2 =>
 jn (fun (l3 : List Decl) =>
  some l3) fun J4 =>
  bif (r2 == 4) then
   (idx [(Decl.mk 1 k_x 0 c0),(Decl.mk 1 k_y 0 c0),(Decl.mk 2 k_z 0 c0),(Decl.mk 3 k_a 0 c0),(Decl.mk 4 k_t 0 c0),(Decl.mk 5 k_m 0 c0),(Decl.mk 6 k_c r1 c0),(Decl.mk 6 k_d 0 c0)] 0).bind fun x5 =>
   J4 ([(Decl.mk 1 k_x 0 c0),(Decl.mk 1 k_y 0 c0),(Decl.mk 2 k_z 0 c0),(Decl.mk 3 k_a 0 c0),(Decl.mk 4 k_t 0 c0),(Decl.mk 5 k_m 0 c0),(Decl.mk 6 k_c r1 c0),(Decl.mk 6 k_d 0 c0)].set (0 : Int).toNat (Decl.mk 2 x5.Name x5.N x5.At))
  else
   bif (r2 == 5) then
    (idx [(Decl.mk 1 k_x 0 c0),(Decl.mk 1 k_y 0 c0),(Decl.mk 2 k_z 0 c0),(Decl.mk 3 k_a 0 c0),(Decl.mk 4 k_t 0 c0),(Decl.mk 5 k_m 0 c0),(Decl.mk 6 k_c r1 c0),(Decl.mk 6 k_d 0 c0)] 1).bind fun x6 =>
    J4 ([(Decl.mk 1 k_x 0 c0),(Decl.mk 1 k_y 0 c0),(Decl.mk 2 k_z 0 c0),(Decl.mk 3 k_a 0 c0),(Decl.mk 4 k_t 0 c0),(Decl.mk 5 k_m 0 c0),(Decl.mk 6 k_c r1 c0),(Decl.mk 6 k_d 0 c0)].set (1 : Int).toNat (Decl.mk 2 x6.Name x6.N x6.At))
   else
    bif (r2 == 6) then
     (idx [(Decl.mk 1 k_x 0 c0),(Decl.mk 1 k_y 0 c0),(Decl.mk 2 k_z 0 c0),(Decl.mk 3 k_a 0 c0),(Decl.mk 4 k_t 0 c0),(Decl.mk 5 k_m 0 c0),(Decl.mk 6 k_c r1 c0),(Decl.mk 6 k_d 0 c0)] 0).bind fun x7 =>
     J4 ([(Decl.mk 1 k_x 0 c0),(Decl.mk 1 k_y 0 c0),(Decl.mk 2 k_z 0 c0),(Decl.mk 3 k_a 0 c0),(Decl.mk 4 k_t 0 c0),(Decl.mk 5 k_m 0 c0),(Decl.mk 6 k_c r1 c0),(Decl.mk 6 k_d 0 c0)].set (0 : Int).toNat (Decl.mk 3 x7.Name x7.N x7.At))
    else
     J4 [(Decl.mk 1 k_x 0 c0),(Decl.mk 1 k_y 0 c0),(Decl.mk 2 k_z 0 c0),(Decl.mk 3 k_a 0 c0),(Decl.mk 4 k_t 0 c0),(Decl.mk 5 k_m 0 c0),(Decl.mk 6 k_c r1 c0),(Decl.mk 6 k_d 0 c0)]
def hand_acts (n : Nat) (a0 : List Act) : Option (List Act) :=
 bif decide ((ln a0) > 16) then
  (sub a0 0 16).bind fun l1 =>
  some l1
 else
  some a0
def hand_plain (n : Nat) (a0 : Int) : Option ByteArray :=
 (hand_Pick n a0 8).bind fun r1 =>
 (idx [k_x,k_x,k_y,k_z,k_a,k_t,k_x,k_y] r1).bind fun x2 =>
 some x2
def hand_Expr : Nat → (List Int) → Int → Option Expr
 | 0,_,_=>none
 | n + 1,a0,a1 =>
  bif ((ln a0) == 0) then
   some (Expr.mk 1 1 b0 [])
  else
   (idx a0 0).bind fun x1 =>
   (hand_Pick n x1 16).bind fun r2 =>
   jn (fun (w3 : ByteArray) (b4 : Bool) =>
    bif b4 then
     (hand_plain n (wr (x1.tdiv 16))).bind fun r6 =>
     some (Expr.mk 2 0 r6 [])
    else
     bif decide (r2 < 8) then
      (hand_Pick n (wr (x1.tdiv 16)) 5).bind fun r7 =>
      some (Expr.mk 1 r7 b0 [])
     else
      bif (r2 == 8) then
       (sub a0 1 (ln a0)).bind fun l8 =>
       (hand_Expr n l8 (wr (a1 + 1))).bind fun r9 =>
       some (Expr.mk 3 0 b0 [r9])
      else
       (hand_Pick n (wr (x1.tdiv 16)) 7).bind fun r10 =>
       (sub a0 1 (wr (1 + (wr ((ln a0).tdiv 2))))).bind fun l11 =>
       (hand_Expr n l11 (wr (a1 + 1))).bind fun r12 =>
       (sub a0 (wr (1 + (wr ((ln a0).tdiv 2)))) (ln a0)).bind fun l13 =>
       (hand_Expr n l13 (wr (a1 + 1))).bind fun r14 =>
       some (Expr.mk (wr (4 + r10)) 0 b0 [r12,r14])) fun J5 =>
    bif decide (r2 < 5) then
     J5 b0 true
    else
     J5 b0 (decide (a1 > 5))
def hand_short (n : Nat) (a0 : Act) : Option Expr :=
 jn (fun (w1 : ByteArray) (l2 : List Int) =>
  (hand_Expr n l2 0).bind fun r5 =>
  some r5) fun J3 =>
  bif decide ((ln a0.E) > 3) then
   (sub a0.E 0 3).bind fun l4 =>
   J3 b0 l4
  else
   J3 b0 a0.E
mutual
def hand_stmts_L0 : Nat → (List Act) → Int → Int → (List Act) → (List Stmt) → Option ((List Stmt) × (List Act))
 | 0,_,_,_,_,_=>none
 | n + 1,a0,a1,a2,l1,l2 =>
  jn (fun (b3 : Bool) =>
   bif b3 then
    (idx l1 0).bind fun x5 =>
    (sub l1 1 (ln l1)).bind fun l6 =>
    (hand_Pick n x5.What 24).bind fun r7 =>
    jn (fun (l8 : List Act) (i9 : Int) (w10 : ByteArray) (w11 : ByteArray) (i12 : Int) (i13 : Int) (i14 : Int) (w15 : ByteArray) (l16 : List Expr) (l17 : List Stmt) (l18 : List Stmt) =>
     bif room s_Stmt.i1.bytes l2.length [(Stmt.mk i9 w10 w11 i12 (Expr.mk i13 i14 w15 l16) l17 l18 c0)].length then
      hand_stmts_L0 n a0 a1 a2 l8 (l2 ++ [(Stmt.mk i9 w10 w11 i12 (Expr.mk i13 i14 w15 l16) l17 l18 c0)])
     else none) fun J19 =>
     bif decide (r7 < 9) then
      (hand_plain n x5.A).bind fun r20 =>
      (hand_short n x5).bind fun r21 =>
      J19 l6 1 r20 b0 0 r21.Kind r21.N r21.Name r21.Of ([] : List Stmt) ([] : List Stmt)
     else
      bif decide (r7 < 11) then
       J19 l6 2 k_m b0 0 0 0 b0 [] ([] : List Stmt) ([] : List Stmt)
      else
       bif decide (r7 < 13) then
        J19 l6 3 k_m b0 0 0 0 b0 [] ([] : List Stmt) ([] : List Stmt)
       else
        bif decide (r7 < 15) then
         (hand_Pick n x5.A 2).bind fun r22 =>
         (idx [k_c,k_d] r22).bind fun x23 =>
         (hand_short n x5).bind fun r24 =>
         J19 l6 4 x23 b0 0 r24.Kind r24.N r24.Name r24.Of ([] : List Stmt) ([] : List Stmt)
        else
         bif decide (r7 < 17) then
          (hand_Pick n x5.A 2).bind fun r25 =>
          (idx [k_c,k_d] r25).bind fun x26 =>
          (hand_plain n x5.B).bind fun r27 =>
          J19 l6 5 x26 r27 0 0 0 b0 [] ([] : List Stmt) ([] : List Stmt)
         else
          bif decide (r7 < 18) then
           (hand_short n x5).bind fun r28 =>
           J19 l6 6 b0 b0 0 r28.Kind r28.N r28.Name r28.Of ([] : List Stmt) ([] : List Stmt)
          else
           jn (fun (w29 : ByteArray) (w30 : ByteArray) (w31 : ByteArray) (b32 : Bool) =>
            bif b32 then
             (hand_short n x5).bind fun r34 =>
             (hand_Pick n x5.A 2).bind fun r35 =>
             (hand_stmts n l6 (wr (1 + r35)) (wr (a2 + 1))).bind fun r36 =>
             bif ((x5.B.tmod 3) == 0) then
              (hand_Pick n x5.N 2).bind fun r37 =>
              (hand_stmts n r36.2 (wr (1 + r37)) (wr (a2 + 1))).bind fun r38 =>
              J19 r38.2 7 w29 w30 0 r34.Kind r34.N r34.Name r34.Of r36.1 r38.1
             else
              J19 r36.2 7 w29 w30 0 r34.Kind r34.N r34.Name r34.Of r36.1 ([] : List Stmt)
            else
             jn (fun (b39 : Bool) =>
              bif b39 then
               (hand_Pick n x5.N 3).bind fun r41 =>
               (hand_Pick n x5.A 2).bind fun r42 =>
               (hand_stmts n l6 (wr (1 + r42)) (wr (a2 + 1))).bind fun r43 =>
               J19 r43.2 8 w29 w30 r41 0 0 w31 [] r43.1 ([] : List Stmt)
              else
               bif decide (r7 < 22) then
                (hand_Pick n x5.A 2).bind fun r44 =>
                (idx [k_l,k_k] r44).bind fun x45 =>
                J19 l6 9 x45 w30 0 0 0 w31 [] ([] : List Stmt) ([] : List Stmt)
               else
                bif decide (r7 < 23) then
                 (hand_Pick n x5.A 2).bind fun r46 =>
                 (idx [k_l,k_k] r46).bind fun x47 =>
                 J19 l6 10 x47 w30 0 0 0 w31 [] ([] : List Stmt) ([] : List Stmt)
                else
                 (hand_short n x5).bind fun r48 =>
                 J19 l6 1 k_t w30 0 r48.Kind r48.N r48.Name r48.Of ([] : List Stmt) ([] : List Stmt)) fun J40 =>
              bif decide (r7 < 21) then
               J40 (decide (a2 < 3))
              else
               J40 false) fun J33 =>
            bif decide (r7 < 20) then
             J33 b0 b0 b0 (decide (a2 < 3))
            else
             J33 b0 b0 b0 false
   else
    some (l2,l1)) fun J4 =>
   bif decide ((ln l2) < a1) then
    J4 (decide ((ln l1) > 0))
   else
    J4 false
def hand_stmts : Nat → (List Act) → Int → Int → Option ((List Stmt) × (List Act))
 | 0,_,_,_=>none
 | n + 1,a0,a1,a2 =>
  hand_stmts_L0 n a0 a1 a2 a0 ([] : List Stmt)
end
def hand_Prog_L0 : Nat → Int → (List Act) → (List Act) → (List Act) → Int → (List Decl) → ((List (List Stmt)) → Option Prog) → (List (List Stmt)) → Int → Option Prog
 | 0,_,_,_,_,_,_,_,_,_=>none
 | n + 1,a0,a1,a2,a3,a4,r1,J3,l4,i5 =>
  bif decide (i5 < 3) then
   (idx [a1,a2,a3] i5).bind fun x6 =>
   jn (fun (b7 : Bool) =>
    bif b7 then
     J3 l4
    else
     (hand_acts n x6).bind fun r9 =>
     (hand_stmts n r9 a4 1).bind fun r10 =>
     bif room s_LStmt.i1.bytes l4.length [r10.1].length then
      hand_Prog_L0 n a0 a1 a2 a3 a4 r1 J3 (l4 ++ [r10.1]) (wr (i5 + 1))
     else none) fun J8 =>
    bif (i5 == 2) then
     bif ((ln a3) == 0) then
      J8 true
     else
      J8 (decide (a4 > 4))
    else
     J8 false
  else
   J3 l4
def hand_Prog (n : Nat) (a0 : Int) (a1 : List Act) (a2 : List Act) (a3 : List Act) (a4 : Int) : Option Prog :=
 (hand_Decls n a0).bind fun r1 =>
 jn (fun (l2 : List (List Stmt)) =>
  some (Prog.mk r1 l2)) fun J3 =>
  hand_Prog_L0 n a0 a1 a2 a3 a4 r1 J3 ([] : List (List Stmt)) 0
def law3_name (n : Nat) (a0 : ByteArray) : Option Expr :=
 some (Expr.mk 2 0 a0 [])
def Clip_string (n : Nat) (a0 : List ByteArray) : Option (List ByteArray) :=
 (sub a0 0 (ln a0)).bind fun l1 =>
 some l1
mutual
def tree_Names_L0 : Nat → Expr → (List ByteArray) → (List ByteArray) → Int → Option (List ByteArray)
 | 0,_,_,_,_=>none
 | n + 1,a0,l1,l4,i5 =>
  bif decide (i5 < (ln a0.Of)) then
   (idx a0.Of i5).bind fun x6 =>
   (tree_Names n x6).bind fun r7 =>
   bif room s_string.i1.bytes l4.length r7.length then
    tree_Names_L0 n a0 l1 (l4 ++ r7) (wr (i5 + 1))
   else none
  else
   (Clip_string n l4).bind fun r9 =>
   some r9
def tree_Names : Nat → Expr → Option (List ByteArray)
 | 0,_=>none
 | n + 1,a0 =>
  jn (fun (l1 : List ByteArray) =>
   tree_Names_L0 n a0 l1 l1 0) fun J2 =>
   bif (a0.Kind == 2) then
    bif room s_string.i1.bytes ([] : List ByteArray).length [a0.Name].length then
     J2 (([] : List ByteArray) ++ [a0.Name])
    else none
   else
    J2 ([] : List ByteArray)
end
def tree_Touches (n : Nat) (a0 : Stmt) : Option (List ByteArray) :=
 jn (fun (l1 : List ByteArray) =>
  jn (fun (l6 : List ByteArray) =>
   (Clip_string n l6).bind fun r10 =>
   some r10) fun J7 =>
   bif (a0.Kind == 1) then
    bif room s_string.i1.bytes l1.length [a0.Name].length then
     J7 (l1 ++ [a0.Name])
    else none
   else
    bif (a0.Kind == 5) then
     bif room s_string.i1.bytes l1.length [a0.Other].length then
      J7 (l1 ++ [a0.Other])
     else none
    else
     J7 l1) fun J2 =>
  jn (fun (b3 : Bool) =>
   bif b3 then
    (tree_Names n a0.E).bind fun r5 =>
    J2 r5
   else
    J2 []) fun J4 =>
   bif (a0.Kind == 1) then
    J4 (a0.Kind == 1)
   else
    bif (a0.Kind == 4) then
     J4 (a0.Kind == 4)
    else
     bif (a0.Kind == 6) then
      J4 (a0.Kind == 6)
     else
      J4 (a0.Kind == 7)
mutual
def EqualFunc_Expr_ftree_SameExpr_L0 : Nat → (List Expr) → (List Expr) → Int → Option Bool
 | 0,_,_,_=>none
 | n + 1,a0,a1,i1 =>
  bif decide (i1 < (ln a0)) then
   (idx a0 i1).bind fun x2 =>
   (idx a1 i1).bind fun x3 =>
   (tree_SameExpr n x2 x3).bind fun r4 =>
   bif !r4 then
    some false
   else
    EqualFunc_Expr_ftree_SameExpr_L0 n a0 a1 (wr (i1 + 1))
  else
   some true
def EqualFunc_Expr_ftree_SameExpr : Nat → (List Expr) → (List Expr) → Option Bool
 | 0,_,_=>none
 | n + 1,a0,a1 =>
  bif ((ln a0) != (ln a1)) then
   some false
  else
   EqualFunc_Expr_ftree_SameExpr_L0 n a0 a1 0
def tree_SameExpr : Nat → Expr → Expr → Option Bool
 | 0,_,_=>none
 | n + 1,a0,a1 =>
  jn (fun (b1 : Bool) =>
   some b1) fun J2 =>
   bif (a0.Kind == a1.Kind) then
    bif (a0.N == a1.N) then
     bif bytesEq a0.Name a1.Name then
      (EqualFunc_Expr_ftree_SameExpr n a0.Of a1.Of).bind fun r3 =>
      J2 r3
     else
      J2 false
    else
     J2 false
   else
    J2 false
end
def law3_known (n : Nat) : Option Bool :=
 (law3_name n k_y).bind fun r1 =>
 (law3_name n k_x).bind fun r2 =>
 (tree_Touches n (Stmt.mk 1 k_x b0 0 (Expr.mk 4 0 b0 [r1,r2]) [] [] c0)).bind fun r3 =>
 jn (fun (b4 : Bool) =>
  some b4) fun J5 =>
  bif ((ln r3) == 3) then
   (idx r3 0).bind fun x6 =>
   bif bytesEq x6 k_y then
    (idx r3 1).bind fun x7 =>
    bif bytesEq x7 k_x then
     (idx r3 2).bind fun x8 =>
     bif bytesEq x8 k_x then
      (tree_SameExpr n (Expr.mk 4 0 b0 [r1,r2]) (Expr.mk 4 0 b0 [r1,r2])).bind fun r9 =>
      bif r9 then
       (law3_name n k_y).bind fun r10 =>
       (tree_SameExpr n (Expr.mk 4 0 b0 [r1,r2]) r10).bind fun r11 =>
       J5 (!r11)
      else
       J5 false
     else
      J5 false
    else
     J5 false
   else
    J5 false
  else
   J5 false
def tree_Same_1 (n : Nat) (a0 : Decl) (a1 : Decl) : Option Bool :=
 jn (fun (b1 : Bool) =>
  some b1) fun J2 =>
  bif (a0.Kind == a1.Kind) then
   bif bytesEq a0.Name a1.Name then
    J2 (a0.N == a1.N)
   else
    J2 false
  else
   J2 false
def EqualFunc_Decl_ftree_Same_1_L0 : Nat → (List Decl) → (List Decl) → Int → Option Bool
 | 0,_,_,_=>none
 | n + 1,a0,a1,i1 =>
  bif decide (i1 < (ln a0)) then
   (idx a0 i1).bind fun x2 =>
   (idx a1 i1).bind fun x3 =>
   (tree_Same_1 n x2 x3).bind fun r4 =>
   bif !r4 then
    some false
   else
    EqualFunc_Decl_ftree_Same_1_L0 n a0 a1 (wr (i1 + 1))
  else
   some true
def EqualFunc_Decl_ftree_Same_1 (n : Nat) (a0 : List Decl) (a1 : List Decl) : Option Bool :=
 bif ((ln a0) != (ln a1)) then
  some false
 else
  EqualFunc_Decl_ftree_Same_1_L0 n a0 a1 0
mutual
def EqualFunc_Stmt_ftree_sameStmt_L0 : Nat → (List Stmt) → (List Stmt) → Int → Option Bool
 | 0,_,_,_=>none
 | n + 1,a0,a1,i1 =>
  bif decide (i1 < (ln a0)) then
   (idx a0 i1).bind fun x2 =>
   (idx a1 i1).bind fun x3 =>
   (tree_sameStmt n x2 x3).bind fun r4 =>
   bif !r4 then
    some false
   else
    EqualFunc_Stmt_ftree_sameStmt_L0 n a0 a1 (wr (i1 + 1))
  else
   some true
def tree_sameStmt : Nat → Stmt → Stmt → Option Bool
 | 0,_,_=>none
 | n + 1,a0,a1 =>
  jn (fun (b1 : Bool) =>
   some b1) fun J2 =>
   bif (a0.Kind == a1.Kind) then
    bif bytesEq a0.Name a1.Name then
     bif bytesEq a0.Other a1.Other then
      bif (a0.N == a1.N) then
       (tree_SameExpr n a0.E a1.E).bind fun r3 =>
       bif r3 then
        (tree_sameBlock n a0.Body a1.Body).bind fun r4 =>
        bif r4 then
         (tree_sameBlock n a0.Else a1.Else).bind fun r5 =>
         J2 r5
        else
         J2 false
       else
        J2 false
      else
       J2 false
     else
      J2 false
    else
     J2 false
   else
    J2 false
def EqualFunc_Stmt_ftree_sameStmt : Nat → (List Stmt) → (List Stmt) → Option Bool
 | 0,_,_=>none
 | n + 1,a0,a1 =>
  bif ((ln a0) != (ln a1)) then
   some false
  else
   EqualFunc_Stmt_ftree_sameStmt_L0 n a0 a1 0
def tree_sameBlock : Nat → (List Stmt) → (List Stmt) → Option Bool
 | 0,_,_=>none
 | n + 1,a0,a1 =>
  (EqualFunc_Stmt_ftree_sameStmt n a0 a1).bind fun r1 =>
  some r1
end
def EqualFunc_LStmt_ftree_sameBlock_L0 : Nat → (List (List Stmt)) → (List (List Stmt)) → Int → Option Bool
 | 0,_,_,_=>none
 | n + 1,a0,a1,i1 =>
  bif decide (i1 < (ln a0)) then
   (idx a0 i1).bind fun x2 =>
   (idx a1 i1).bind fun x3 =>
   (tree_sameBlock n x2 x3).bind fun r4 =>
   bif !r4 then
    some false
   else
    EqualFunc_LStmt_ftree_sameBlock_L0 n a0 a1 (wr (i1 + 1))
  else
   some true
def EqualFunc_LStmt_ftree_sameBlock (n : Nat) (a0 : List (List Stmt)) (a1 : List (List Stmt)) : Option Bool :=
 bif ((ln a0) != (ln a1)) then
  some false
 else
  EqualFunc_LStmt_ftree_sameBlock_L0 n a0 a1 0
def tree_Same (n : Nat) (a0 : Prog) (a1 : Prog) : Option Bool :=
 jn (fun (b1 : Bool) =>
  some b1) fun J2 =>
  (EqualFunc_Decl_ftree_Same_1 n a0.Decls a1.Decls).bind fun r3 =>
  bif r3 then
   (EqualFunc_LStmt_ftree_sameBlock n a0.Threads a1.Threads).bind fun r4 =>
   J2 r4
  else
   J2 false
mutual
def ref1_SameExpr_L0 : Nat → Expr → Expr → Bool → Int → Option Bool
 | 0,_,_,_,_=>none
 | n + 1,a0,a1,b1,i3 =>
  bif decide (i3 < (ln a0.Of)) then
   (idx a0.Of i3).bind fun x4 =>
   (idx a1.Of i3).bind fun x5 =>
   (ref1_SameExpr n x4 x5).bind fun r6 =>
   bif !r6 then
    some false
   else
    ref1_SameExpr_L0 n a0 a1 b1 (wr (i3 + 1))
  else
   some true
def ref1_SameExpr : Nat → Expr → Expr → Option Bool
 | 0,_,_=>none
 | n + 1,a0,a1 =>
  jn (fun (b1 : Bool) =>
   bif b1 then
    some false
   else
    ref1_SameExpr_L0 n a0 a1 b1 0) fun J2 =>
   bif (a0.Kind != a1.Kind) then
    J2 true
   else
    bif (a0.N != a1.N) then
     J2 true
    else
     bif !bytesEq a0.Name a1.Name then
      J2 true
     else
      J2 ((ln a0.Of) != (ln a1.Of))
end
mutual
def ref1_SameBlock_L0 : Nat → (List Stmt) → (List Stmt) → Int → Option Bool
 | 0,_,_,_=>none
 | n + 1,a0,a1,i1 =>
  bif decide (i1 < (ln a0)) then
   (idx a0 i1).bind fun x2 =>
   (idx a1 i1).bind fun x3 =>
   jn (fun (b4 : Bool) =>
    bif b4 then
     some false
    else
     ref1_SameBlock_L0 n a0 a1 (wr (i1 + 1))) fun J5 =>
    bif (x2.Kind != x3.Kind) then
     J5 true
    else
     bif !bytesEq x2.Name x3.Name then
      J5 true
     else
      bif !bytesEq x2.Other x3.Other then
       J5 true
      else
       bif (x2.N != x3.N) then
        J5 true
       else
        (ref1_SameExpr n x2.E x3.E).bind fun r6 =>
        bif !r6 then
         J5 true
        else
         (ref1_SameBlock n x2.Body x3.Body).bind fun r7 =>
         bif !r7 then
          J5 true
         else
          (ref1_SameBlock n x2.Else x3.Else).bind fun r8 =>
          J5 (!r8)
  else
   some true
def ref1_SameBlock : Nat → (List Stmt) → (List Stmt) → Option Bool
 | 0,_,_=>none
 | n + 1,a0,a1 =>
  bif ((ln a0) != (ln a1)) then
   some false
  else
   ref1_SameBlock_L0 n a0 a1 0
end
mutual
def tree_listed_o_L0 : Nat → (List Stmt) → (List Stmt) → (List Stmt) → Int → Option (List Stmt)
 | 0,_,_,_,_=>none
 | n + 1,a0,a1,l1,i2 =>
  bif decide (i2 < (ln a1)) then
   (idx a1 i2).bind fun x3 =>
   bif room s_Stmt.i1.bytes l1.length [x3].length then
    (tree_listed_o n (l1 ++ [x3]) x3.Body).bind fun r5 =>
    (tree_listed_o n r5 x3.Else).bind fun r6 =>
    tree_listed_o_L0 n a0 a1 r6 (wr (i2 + 1))
   else none
  else
   some l1
def tree_listed_o : Nat → (List Stmt) → (List Stmt) → Option (List Stmt)
 | 0,_,_=>none
 | n + 1,a0,a1 =>
  tree_listed_o_L0 n a0 a1 a0 0
end
def Clone_Expr (n : Nat) (a0 : List Expr) : Option (List Expr) :=
 bif room s_Expr.i1.bytes ([] : List Expr).length a0.length then
  some (([] : List Expr) ++ a0)
 else none
def Clip_Expr_o (n : Nat) (a0 : List Expr) : Option (List Expr) :=
 some a0
mutual
def tree_copyExpr_L0 : Nat → Expr → (List Expr) → (List Expr) → (List Expr) → ByteArray → Int → Option Expr
 | 0,_,_,_,_,_,_=>none
 | n + 1,a0,r1,r2,l4,w5,i6 =>
  bif decide (i6 < (ln r2)) then
   (idx l4 i6).bind fun x7 =>
   (tree_copyExpr n x7).bind fun r8 =>
   (idx l4 i6).bind fun x9 =>
   tree_copyExpr_L0 n a0 r1 r2 (l4.set i6.toNat r8) w5 (wr (i6 + 1))
  else
   some (Expr.mk a0.Kind a0.N a0.Name l4)
def tree_copyExpr : Nat → Expr → Option Expr
 | 0,_=>none
 | n + 1,a0 =>
  (Clone_Expr n a0.Of).bind fun r1 =>
  (Clip_Expr_o n r1).bind fun r2 =>
  tree_copyExpr_L0 n a0 r1 r2 r2 b0 0
end
def Clone_Stmt (n : Nat) (a0 : List Stmt) : Option (List Stmt) :=
 bif room s_Stmt.i1.bytes ([] : List Stmt).length a0.length then
  some (([] : List Stmt) ++ a0)
 else none
def Clip_Stmt_o (n : Nat) (a0 : List Stmt) : Option (List Stmt) :=
 some a0
mutual
def tree_copyBlock_L0 : Nat → (List Stmt) → (List Stmt) → (List Stmt) → (List Stmt) → Int → Option (List Stmt)
 | 0,_,_,_,_,_=>none
 | n + 1,a0,r1,r2,l3,i4 =>
  bif decide (i4 < (ln r2)) then
   (idx l3 i4).bind fun x5 =>
   (tree_copyStmt n x5).bind fun r6 =>
   (idx l3 i4).bind fun x7 =>
   tree_copyBlock_L0 n a0 r1 r2 (l3.set i4.toNat r6) (wr (i4 + 1))
  else
   some l3
def tree_copyBlock : Nat → (List Stmt) → Option (List Stmt)
 | 0,_=>none
 | n + 1,a0 =>
  (Clone_Stmt n a0).bind fun r1 =>
  (Clip_Stmt_o n r1).bind fun r2 =>
  tree_copyBlock_L0 n a0 r1 r2 r2 0
def tree_copyStmt : Nat → Stmt → Option Stmt
 | 0,_=>none
 | n + 1,a0 =>
  (tree_copyExpr n a0.E).bind fun r1 =>
  (tree_copyBlock n a0.Body).bind fun r2 =>
  (tree_copyBlock n a0.Else).bind fun r3 =>
  some (Stmt.mk a0.Kind a0.Name a0.Other a0.N r1 r2 r3 a0.At)
end
def Clip_Stmt (n : Nat) (a0 : List Stmt) : Option (List Stmt) :=
 (sub a0 0 (ln a0)).bind fun l1 =>
 some l1
mutual
def tree_List_L0 : Nat → Prog → (List Stmt) → Int → Option (List Stmt)
 | 0,_,_,_=>none
 | n + 1,a0,l1,i2 =>
  bif decide (i2 < (ln a0.Threads)) then
   (idx a0.Threads i2).bind fun x3 =>
   (tree_listed_o n l1 x3).bind fun r4 =>
   tree_List_L0 n a0 r4 (wr (i2 + 1))
  else
   tree_List_L1 n a0 l1 i2 l1 0
def tree_List_L1 : Nat → Prog → (List Stmt) → Int → (List Stmt) → Int → Option (List Stmt)
 | 0,_,_,_,_,_=>none
 | n + 1,a0,l1,i2,l5,i6 =>
  bif decide (i6 < (ln l1)) then
   (idx l5 i6).bind fun x7 =>
   (tree_copyStmt n x7).bind fun r8 =>
   (idx l5 i6).bind fun x9 =>
   tree_List_L1 n a0 l1 i2 (l5.set i6.toNat r8) (wr (i6 + 1))
  else
   (Clip_Stmt n l5).bind fun r10 =>
   some r10
end
def tree_List (n : Nat) (a0 : Prog) : Option (List Stmt) :=
 tree_List_L0 n a0 ([] : List Stmt) 0
def Clone_Decl (n : Nat) (a0 : List Decl) : Option (List Decl) :=
 bif room s_Decl.i1.bytes ([] : List Decl).length a0.length then
  some (([] : List Decl) ++ a0)
 else none
def Clip_Decl_o (n : Nat) (a0 : List Decl) : Option (List Decl) :=
 some a0
def Clip_LStmt_o (n : Nat) (a0 : List (List Stmt)) : Option (List (List Stmt)) :=
 some a0
def tree_Copy_L0 : Nat → Prog → (List Decl) → (List Decl) → (List (List Stmt)) → Int → Option Prog
 | 0,_,_,_,_,_=>none
 | n + 1,a0,r1,r2,l3,i4 =>
  bif decide (i4 < (ln a0.Threads)) then
   (idx a0.Threads i4).bind fun x5 =>
   (tree_copyBlock n x5).bind fun r6 =>
   bif room s_LStmt.i1.bytes l3.length [r6].length then
    tree_Copy_L0 n a0 r1 r2 (l3 ++ [r6]) (wr (i4 + 1))
   else none
  else
   (Clip_LStmt_o n l3).bind fun r8 =>
   some (Prog.mk r2 r8)
def tree_Copy (n : Nat) (a0 : Prog) : Option Prog :=
 (Clone_Decl n a0.Decls).bind fun r1 =>
 (Clip_Decl_o n r1).bind fun r2 =>
 tree_Copy_L0 n a0 r1 r2 ([] : List (List Stmt)) 0
end Go.Su.Ytogllinpkijkpaa
