/-
  What the program's functions compute.
-/
import Derived.Test.YtacknokheanpbaaCLT
namespace Go.Su.Ytacknokheanpbaa
open Go.Mx Go.Proofs
set_option maxRecDepth 100000
set_option maxHeartbeats 20000000
set_option linter.unusedVariables false
set_option linter.unusedSimpArgs false

def hand_Pick (n : Nat) (a0 : Int) (a1 : Int) : Option Int :=
  bif (a1 == 0) then none else
  jn (fun (i2 : Int) =>
    some i2) fun J3 =>
    bif decide ((a0.tmod a1) < 0) then
      J3 (wr ((a0.tmod a1) + a1))
    else
      J3 (a0.tmod a1)

def law18_of_L0 : Nat → Arr4_i64 → Int → Int → Int → Int → Int → Option Arr4_i64
  | 0, _, _, _, _, _, _ => none
  | n + 1, a0, i3, i4, i5, i6, i7 =>
    bif decide (i7 < 4) then
      (idx [a0.e0, a0.e1, a0.e2, a0.e3] i7).bind fun x8 =>
      (hand_Pick n x8 4).bind fun r9 =>
      (idx [i3, i4, i5, i6] i7).bind fun x10 =>
      law18_of_L0 n a0 (selA i7 0 r9 i3) (selA i7 1 r9 i4) (selA i7 2 r9 i5) (selA i7 3 r9 i6) (wr (i7 + 1))
    else
      some (Arr4_i64.mk i3 i4 i5 i6)
def law18_of (n : Nat) (a0 : Arr4_i64) : Option Arr4_i64 :=
  law18_of_L0 n a0 0 0 0 0 0

def clock_Join_L0 : Nat → Arr4_i64 → Arr4_i64 → Int → Int → Int → Int → Int → Option Arr4_i64
  | 0, _, _, _, _, _, _, _ => none
  | n + 1, a0, a1, i3, i4, i5, i6, i7 =>
    bif decide (i7 < 4) then
      (idx [i3, i4, i5, i6] i7).bind fun x8 =>
      (idx [a1.e0, a1.e1, a1.e2, a1.e3] i7).bind fun x9 =>
      (idx [i3, i4, i5, i6] i7).bind fun x10 =>
      clock_Join_L0 n a0 a1 (selA i7 0 (gomax x8 x9) i3) (selA i7 1 (gomax x8 x9) i4) (selA i7 2 (gomax x8 x9) i5) (selA i7 3 (gomax x8 x9) i6) (wr (i7 + 1))
    else
      some (Arr4_i64.mk i3 i4 i5 i6)
def clock_Join (n : Nat) (a0 : Arr4_i64) (a1 : Arr4_i64) : Option Arr4_i64 :=
  clock_Join_L0 n a0 a1 a0.e0 a0.e1 a0.e2 a0.e3 0

def clock_Tick (n : Nat) (a0 : Arr4_i64) (a1 : Int) : Option Arr4_i64 :=
  jn (fun (b1 : Bool) =>
    jn (fun (i3 : Int) (i4 : Int) (i5 : Int) (i6 : Int) =>
      some (Arr4_i64.mk i3 i4 i5 i6)) fun J7 =>
      bif b1 then
        (idx [a0.e0, a0.e1, a0.e2, a0.e3] a1).bind fun x8 =>
        (idx [a0.e0, a0.e1, a0.e2, a0.e3] a1).bind fun x9 =>
        J7 (selA a1 0 (wr (x8 + 1)) a0.e0) (selA a1 1 (wr (x8 + 1)) a0.e1) (selA a1 2 (wr (x8 + 1)) a0.e2) (selA a1 3 (wr (x8 + 1)) a0.e3)
      else
        J7 a0.e0 a0.e1 a0.e2 a0.e3) fun J2 =>
    bif decide (a1 ≥ 0) then
      J2 (decide (a1 < 4))
    else
      J2 false

def clock_Below (n : Nat) (a0 : Arr4_i64) (a1 : Arr4_i64) : Option Bool :=
  (clock_Join n a0 a1).bind fun r1 =>
  some (andL [r1.e0 == a1.e0, r1.e1 == a1.e1, r1.e2 == a1.e2, r1.e3 == a1.e3])

def clock_Apart (n : Nat) (a0 : Arr4_i64) (a1 : Arr4_i64) : Option Bool :=
  jn (fun (b1 : Bool) =>
    some b1) fun J2 =>
    (clock_Below n a0 a1).bind fun r3 =>
    bif !r3 then
      (clock_Below n a1 a0).bind fun r4 =>
      J2 (!r4)
    else
      J2 false

def law18_known (n : Nat) : Option Bool :=
  jn (fun (b1 : Bool) =>
    some b1) fun J2 =>
    (clock_Apart n (Arr4_i64.mk 1 0 0 0) (Arr4_i64.mk 0 1 0 0)).bind fun r3 =>
    bif r3 then
      (clock_Tick n (Arr4_i64.mk 0 0 0 0) 1).bind fun r4 =>
      bif andL [r4.e0 == 0, r4.e1 == 1, r4.e2 == 0, r4.e3 == 0] then
        (clock_Join n (Arr4_i64.mk 1 0 0 0) (Arr4_i64.mk 0 2 0 0)).bind fun r5 =>
        J2 (andL [r5.e0 == 1, r5.e1 == 2, r5.e2 == 0, r5.e3 == 0])
      else
        J2 false
    else
      J2 false

def law18_ClockLattice (n : Nat) (a0 : Arr4_i64) (a1 : Arr4_i64) (a2 : Arr4_i64) (a3 : Int) : Option Bool :=
  (law18_of n a0).bind fun r1 =>
  (law18_of n a1).bind fun r2 =>
  (law18_of n a2).bind fun r3 =>
  (clock_Join n r1 r2).bind fun r4 =>
  (hand_Pick n a3 4).bind fun r5 =>
  (clock_Tick n r1 r5).bind fun r6 =>
  jn (fun (b7 : Bool) =>
    some b7) fun J8 =>
    (law18_known n ).bind fun r9 =>
    bif r9 then
      (clock_Below n r1 r1).bind fun r10 =>
      bif r10 then
        (clock_Below n r1 r2).bind fun r11 =>
        bif !r11 then
          (clock_Below n r1 r2).bind fun r157 =>
          bif !r157 then
            (clock_Below n r1 r4).bind fun r206 =>
            bif r206 then
              (clock_Below n r2 r4).bind fun r207 =>
              bif r207 then
                (clock_Below n r1 r3).bind fun r208 =>
                bif !r208 then
                  (clock_Join n r2 r1).bind fun r223 =>
                  bif andL [r4.e0 == r223.e0, r4.e1 == r223.e1, r4.e2 == r223.e2, r4.e3 == r223.e3] then
                    (clock_Below n r1 r6).bind fun r224 =>
                    bif r224 then
                      (clock_Below n r6 r1).bind fun r225 =>
                      bif !r225 then
                        (clock_Apart n r1 r2).bind fun r226 =>
                        (clock_Apart n r2 r1).bind fun r227 =>
                        bif (r226 == r227) then
                          (clock_Below n r1 r2).bind fun r228 =>
                          J8 (r228 == (andL [r4.e0 == r2.e0, r4.e1 == r2.e1, r4.e2 == r2.e2, r4.e3 == r2.e3]))
                        else
                          J8 false
                      else
                        J8 false
                    else
                      J8 false
                  else
                    J8 false
                else
                  (clock_Below n r2 r3).bind fun r209 =>
                  bif !r209 then
                    (clock_Join n r2 r1).bind fun r217 =>
                    bif andL [r4.e0 == r217.e0, r4.e1 == r217.e1, r4.e2 == r217.e2, r4.e3 == r217.e3] then
                      (clock_Below n r1 r6).bind fun r218 =>
                      bif r218 then
                        (clock_Below n r6 r1).bind fun r219 =>
                        bif !r219 then
                          (clock_Apart n r1 r2).bind fun r220 =>
                          (clock_Apart n r2 r1).bind fun r221 =>
                          bif (r220 == r221) then
                            (clock_Below n r1 r2).bind fun r222 =>
                            J8 (r222 == (andL [r4.e0 == r2.e0, r4.e1 == r2.e1, r4.e2 == r2.e2, r4.e3 == r2.e3]))
                          else
                            J8 false
                        else
                          J8 false
                      else
                        J8 false
                    else
                      J8 false
                  else
                    (clock_Below n r4 r3).bind fun r210 =>
                    bif r210 then
                      (clock_Join n r2 r1).bind fun r211 =>
                      bif andL [r4.e0 == r211.e0, r4.e1 == r211.e1, r4.e2 == r211.e2, r4.e3 == r211.e3] then
                        (clock_Below n r1 r6).bind fun r212 =>
                        bif r212 then
                          (clock_Below n r6 r1).bind fun r213 =>
                          bif !r213 then
                            (clock_Apart n r1 r2).bind fun r214 =>
                            (clock_Apart n r2 r1).bind fun r215 =>
                            bif (r214 == r215) then
                              (clock_Below n r1 r2).bind fun r216 =>
                              J8 (r216 == (andL [r4.e0 == r2.e0, r4.e1 == r2.e1, r4.e2 == r2.e2, r4.e3 == r2.e3]))
                            else
                              J8 false
                          else
                            J8 false
                        else
                          J8 false
                      else
                        J8 false
                    else
                      J8 false
              else
                J8 false
            else
              J8 false
          else
            (clock_Below n r2 r3).bind fun r158 =>
            bif !r158 then
              (clock_Below n r1 r4).bind fun r183 =>
              bif r183 then
                (clock_Below n r2 r4).bind fun r184 =>
                bif r184 then
                  (clock_Below n r1 r3).bind fun r185 =>
                  bif !r185 then
                    (clock_Join n r2 r1).bind fun r200 =>
                    bif andL [r4.e0 == r200.e0, r4.e1 == r200.e1, r4.e2 == r200.e2, r4.e3 == r200.e3] then
                      (clock_Below n r1 r6).bind fun r201 =>
                      bif r201 then
                        (clock_Below n r6 r1).bind fun r202 =>
                        bif !r202 then
                          (clock_Apart n r1 r2).bind fun r203 =>
                          (clock_Apart n r2 r1).bind fun r204 =>
                          bif (r203 == r204) then
                            (clock_Below n r1 r2).bind fun r205 =>
                            J8 (r205 == (andL [r4.e0 == r2.e0, r4.e1 == r2.e1, r4.e2 == r2.e2, r4.e3 == r2.e3]))
                          else
                            J8 false
                        else
                          J8 false
                      else
                        J8 false
                    else
                      J8 false
                  else
                    (clock_Below n r2 r3).bind fun r186 =>
                    bif !r186 then
                      (clock_Join n r2 r1).bind fun r194 =>
                      bif andL [r4.e0 == r194.e0, r4.e1 == r194.e1, r4.e2 == r194.e2, r4.e3 == r194.e3] then
                        (clock_Below n r1 r6).bind fun r195 =>
                        bif r195 then
                          (clock_Below n r6 r1).bind fun r196 =>
                          bif !r196 then
                            (clock_Apart n r1 r2).bind fun r197 =>
                            (clock_Apart n r2 r1).bind fun r198 =>
                            bif (r197 == r198) then
                              (clock_Below n r1 r2).bind fun r199 =>
                              J8 (r199 == (andL [r4.e0 == r2.e0, r4.e1 == r2.e1, r4.e2 == r2.e2, r4.e3 == r2.e3]))
                            else
                              J8 false
                          else
                            J8 false
                        else
                          J8 false
                      else
                        J8 false
                    else
                      (clock_Below n r4 r3).bind fun r187 =>
                      bif r187 then
                        (clock_Join n r2 r1).bind fun r188 =>
                        bif andL [r4.e0 == r188.e0, r4.e1 == r188.e1, r4.e2 == r188.e2, r4.e3 == r188.e3] then
                          (clock_Below n r1 r6).bind fun r189 =>
                          bif r189 then
                            (clock_Below n r6 r1).bind fun r190 =>
                            bif !r190 then
                              (clock_Apart n r1 r2).bind fun r191 =>
                              (clock_Apart n r2 r1).bind fun r192 =>
                              bif (r191 == r192) then
                                (clock_Below n r1 r2).bind fun r193 =>
                                J8 (r193 == (andL [r4.e0 == r2.e0, r4.e1 == r2.e1, r4.e2 == r2.e2, r4.e3 == r2.e3]))
                              else
                                J8 false
                            else
                              J8 false
                          else
                            J8 false
                        else
                          J8 false
                      else
                        J8 false
                else
                  J8 false
              else
                J8 false
            else
              (clock_Below n r1 r3).bind fun r159 =>
              bif r159 then
                (clock_Below n r1 r4).bind fun r160 =>
                bif r160 then
                  (clock_Below n r2 r4).bind fun r161 =>
                  bif r161 then
                    (clock_Below n r1 r3).bind fun r162 =>
                    bif !r162 then
                      (clock_Join n r2 r1).bind fun r177 =>
                      bif andL [r4.e0 == r177.e0, r4.e1 == r177.e1, r4.e2 == r177.e2, r4.e3 == r177.e3] then
                        (clock_Below n r1 r6).bind fun r178 =>
                        bif r178 then
                          (clock_Below n r6 r1).bind fun r179 =>
                          bif !r179 then
                            (clock_Apart n r1 r2).bind fun r180 =>
                            (clock_Apart n r2 r1).bind fun r181 =>
                            bif (r180 == r181) then
                              (clock_Below n r1 r2).bind fun r182 =>
                              J8 (r182 == (andL [r4.e0 == r2.e0, r4.e1 == r2.e1, r4.e2 == r2.e2, r4.e3 == r2.e3]))
                            else
                              J8 false
                          else
                            J8 false
                        else
                          J8 false
                      else
                        J8 false
                    else
                      (clock_Below n r2 r3).bind fun r163 =>
                      bif !r163 then
                        (clock_Join n r2 r1).bind fun r171 =>
                        bif andL [r4.e0 == r171.e0, r4.e1 == r171.e1, r4.e2 == r171.e2, r4.e3 == r171.e3] then
                          (clock_Below n r1 r6).bind fun r172 =>
                          bif r172 then
                            (clock_Below n r6 r1).bind fun r173 =>
                            bif !r173 then
                              (clock_Apart n r1 r2).bind fun r174 =>
                              (clock_Apart n r2 r1).bind fun r175 =>
                              bif (r174 == r175) then
                                (clock_Below n r1 r2).bind fun r176 =>
                                J8 (r176 == (andL [r4.e0 == r2.e0, r4.e1 == r2.e1, r4.e2 == r2.e2, r4.e3 == r2.e3]))
                              else
                                J8 false
                            else
                              J8 false
                          else
                            J8 false
                        else
                          J8 false
                      else
                        (clock_Below n r4 r3).bind fun r164 =>
                        bif r164 then
                          (clock_Join n r2 r1).bind fun r165 =>
                          bif andL [r4.e0 == r165.e0, r4.e1 == r165.e1, r4.e2 == r165.e2, r4.e3 == r165.e3] then
                            (clock_Below n r1 r6).bind fun r166 =>
                            bif r166 then
                              (clock_Below n r6 r1).bind fun r167 =>
                              bif !r167 then
                                (clock_Apart n r1 r2).bind fun r168 =>
                                (clock_Apart n r2 r1).bind fun r169 =>
                                bif (r168 == r169) then
                                  (clock_Below n r1 r2).bind fun r170 =>
                                  J8 (r170 == (andL [r4.e0 == r2.e0, r4.e1 == r2.e1, r4.e2 == r2.e2, r4.e3 == r2.e3]))
                                else
                                  J8 false
                              else
                                J8 false
                            else
                              J8 false
                          else
                            J8 false
                        else
                          J8 false
                  else
                    J8 false
                else
                  J8 false
              else
                J8 false
        else
          (clock_Below n r2 r1).bind fun r12 =>
          bif !r12 then
            (clock_Below n r1 r2).bind fun r85 =>
            bif !r85 then
              (clock_Below n r1 r4).bind fun r134 =>
              bif r134 then
                (clock_Below n r2 r4).bind fun r135 =>
                bif r135 then
                  (clock_Below n r1 r3).bind fun r136 =>
                  bif !r136 then
                    (clock_Join n r2 r1).bind fun r151 =>
                    bif andL [r4.e0 == r151.e0, r4.e1 == r151.e1, r4.e2 == r151.e2, r4.e3 == r151.e3] then
                      (clock_Below n r1 r6).bind fun r152 =>
                      bif r152 then
                        (clock_Below n r6 r1).bind fun r153 =>
                        bif !r153 then
                          (clock_Apart n r1 r2).bind fun r154 =>
                          (clock_Apart n r2 r1).bind fun r155 =>
                          bif (r154 == r155) then
                            (clock_Below n r1 r2).bind fun r156 =>
                            J8 (r156 == (andL [r4.e0 == r2.e0, r4.e1 == r2.e1, r4.e2 == r2.e2, r4.e3 == r2.e3]))
                          else
                            J8 false
                        else
                          J8 false
                      else
                        J8 false
                    else
                      J8 false
                  else
                    (clock_Below n r2 r3).bind fun r137 =>
                    bif !r137 then
                      (clock_Join n r2 r1).bind fun r145 =>
                      bif andL [r4.e0 == r145.e0, r4.e1 == r145.e1, r4.e2 == r145.e2, r4.e3 == r145.e3] then
                        (clock_Below n r1 r6).bind fun r146 =>
                        bif r146 then
                          (clock_Below n r6 r1).bind fun r147 =>
                          bif !r147 then
                            (clock_Apart n r1 r2).bind fun r148 =>
                            (clock_Apart n r2 r1).bind fun r149 =>
                            bif (r148 == r149) then
                              (clock_Below n r1 r2).bind fun r150 =>
                              J8 (r150 == (andL [r4.e0 == r2.e0, r4.e1 == r2.e1, r4.e2 == r2.e2, r4.e3 == r2.e3]))
                            else
                              J8 false
                          else
                            J8 false
                        else
                          J8 false
                      else
                        J8 false
                    else
                      (clock_Below n r4 r3).bind fun r138 =>
                      bif r138 then
                        (clock_Join n r2 r1).bind fun r139 =>
                        bif andL [r4.e0 == r139.e0, r4.e1 == r139.e1, r4.e2 == r139.e2, r4.e3 == r139.e3] then
                          (clock_Below n r1 r6).bind fun r140 =>
                          bif r140 then
                            (clock_Below n r6 r1).bind fun r141 =>
                            bif !r141 then
                              (clock_Apart n r1 r2).bind fun r142 =>
                              (clock_Apart n r2 r1).bind fun r143 =>
                              bif (r142 == r143) then
                                (clock_Below n r1 r2).bind fun r144 =>
                                J8 (r144 == (andL [r4.e0 == r2.e0, r4.e1 == r2.e1, r4.e2 == r2.e2, r4.e3 == r2.e3]))
                              else
                                J8 false
                            else
                              J8 false
                          else
                            J8 false
                        else
                          J8 false
                      else
                        J8 false
                else
                  J8 false
              else
                J8 false
            else
              (clock_Below n r2 r3).bind fun r86 =>
              bif !r86 then
                (clock_Below n r1 r4).bind fun r111 =>
                bif r111 then
                  (clock_Below n r2 r4).bind fun r112 =>
                  bif r112 then
                    (clock_Below n r1 r3).bind fun r113 =>
                    bif !r113 then
                      (clock_Join n r2 r1).bind fun r128 =>
                      bif andL [r4.e0 == r128.e0, r4.e1 == r128.e1, r4.e2 == r128.e2, r4.e3 == r128.e3] then
                        (clock_Below n r1 r6).bind fun r129 =>
                        bif r129 then
                          (clock_Below n r6 r1).bind fun r130 =>
                          bif !r130 then
                            (clock_Apart n r1 r2).bind fun r131 =>
                            (clock_Apart n r2 r1).bind fun r132 =>
                            bif (r131 == r132) then
                              (clock_Below n r1 r2).bind fun r133 =>
                              J8 (r133 == (andL [r4.e0 == r2.e0, r4.e1 == r2.e1, r4.e2 == r2.e2, r4.e3 == r2.e3]))
                            else
                              J8 false
                          else
                            J8 false
                        else
                          J8 false
                      else
                        J8 false
                    else
                      (clock_Below n r2 r3).bind fun r114 =>
                      bif !r114 then
                        (clock_Join n r2 r1).bind fun r122 =>
                        bif andL [r4.e0 == r122.e0, r4.e1 == r122.e1, r4.e2 == r122.e2, r4.e3 == r122.e3] then
                          (clock_Below n r1 r6).bind fun r123 =>
                          bif r123 then
                            (clock_Below n r6 r1).bind fun r124 =>
                            bif !r124 then
                              (clock_Apart n r1 r2).bind fun r125 =>
                              (clock_Apart n r2 r1).bind fun r126 =>
                              bif (r125 == r126) then
                                (clock_Below n r1 r2).bind fun r127 =>
                                J8 (r127 == (andL [r4.e0 == r2.e0, r4.e1 == r2.e1, r4.e2 == r2.e2, r4.e3 == r2.e3]))
                              else
                                J8 false
                            else
                              J8 false
                          else
                            J8 false
                        else
                          J8 false
                      else
                        (clock_Below n r4 r3).bind fun r115 =>
                        bif r115 then
                          (clock_Join n r2 r1).bind fun r116 =>
                          bif andL [r4.e0 == r116.e0, r4.e1 == r116.e1, r4.e2 == r116.e2, r4.e3 == r116.e3] then
                            (clock_Below n r1 r6).bind fun r117 =>
                            bif r117 then
                              (clock_Below n r6 r1).bind fun r118 =>
                              bif !r118 then
                                (clock_Apart n r1 r2).bind fun r119 =>
                                (clock_Apart n r2 r1).bind fun r120 =>
                                bif (r119 == r120) then
                                  (clock_Below n r1 r2).bind fun r121 =>
                                  J8 (r121 == (andL [r4.e0 == r2.e0, r4.e1 == r2.e1, r4.e2 == r2.e2, r4.e3 == r2.e3]))
                                else
                                  J8 false
                              else
                                J8 false
                            else
                              J8 false
                          else
                            J8 false
                        else
                          J8 false
                  else
                    J8 false
                else
                  J8 false
              else
                (clock_Below n r1 r3).bind fun r87 =>
                bif r87 then
                  (clock_Below n r1 r4).bind fun r88 =>
                  bif r88 then
                    (clock_Below n r2 r4).bind fun r89 =>
                    bif r89 then
                      (clock_Below n r1 r3).bind fun r90 =>
                      bif !r90 then
                        (clock_Join n r2 r1).bind fun r105 =>
                        bif andL [r4.e0 == r105.e0, r4.e1 == r105.e1, r4.e2 == r105.e2, r4.e3 == r105.e3] then
                          (clock_Below n r1 r6).bind fun r106 =>
                          bif r106 then
                            (clock_Below n r6 r1).bind fun r107 =>
                            bif !r107 then
                              (clock_Apart n r1 r2).bind fun r108 =>
                              (clock_Apart n r2 r1).bind fun r109 =>
                              bif (r108 == r109) then
                                (clock_Below n r1 r2).bind fun r110 =>
                                J8 (r110 == (andL [r4.e0 == r2.e0, r4.e1 == r2.e1, r4.e2 == r2.e2, r4.e3 == r2.e3]))
                              else
                                J8 false
                            else
                              J8 false
                          else
                            J8 false
                        else
                          J8 false
                      else
                        (clock_Below n r2 r3).bind fun r91 =>
                        bif !r91 then
                          (clock_Join n r2 r1).bind fun r99 =>
                          bif andL [r4.e0 == r99.e0, r4.e1 == r99.e1, r4.e2 == r99.e2, r4.e3 == r99.e3] then
                            (clock_Below n r1 r6).bind fun r100 =>
                            bif r100 then
                              (clock_Below n r6 r1).bind fun r101 =>
                              bif !r101 then
                                (clock_Apart n r1 r2).bind fun r102 =>
                                (clock_Apart n r2 r1).bind fun r103 =>
                                bif (r102 == r103) then
                                  (clock_Below n r1 r2).bind fun r104 =>
                                  J8 (r104 == (andL [r4.e0 == r2.e0, r4.e1 == r2.e1, r4.e2 == r2.e2, r4.e3 == r2.e3]))
                                else
                                  J8 false
                              else
                                J8 false
                            else
                              J8 false
                          else
                            J8 false
                        else
                          (clock_Below n r4 r3).bind fun r92 =>
                          bif r92 then
                            (clock_Join n r2 r1).bind fun r93 =>
                            bif andL [r4.e0 == r93.e0, r4.e1 == r93.e1, r4.e2 == r93.e2, r4.e3 == r93.e3] then
                              (clock_Below n r1 r6).bind fun r94 =>
                              bif r94 then
                                (clock_Below n r6 r1).bind fun r95 =>
                                bif !r95 then
                                  (clock_Apart n r1 r2).bind fun r96 =>
                                  (clock_Apart n r2 r1).bind fun r97 =>
                                  bif (r96 == r97) then
                                    (clock_Below n r1 r2).bind fun r98 =>
                                    J8 (r98 == (andL [r4.e0 == r2.e0, r4.e1 == r2.e1, r4.e2 == r2.e2, r4.e3 == r2.e3]))
                                  else
                                    J8 false
                                else
                                  J8 false
                              else
                                J8 false
                            else
                              J8 false
                          else
                            J8 false
                    else
                      J8 false
                  else
                    J8 false
                else
                  J8 false
          else
            bif andL [r1.e0 == r2.e0, r1.e1 == r2.e1, r1.e2 == r2.e2, r1.e3 == r2.e3] then
              (clock_Below n r1 r2).bind fun r13 =>
              bif !r13 then
                (clock_Below n r1 r4).bind fun r62 =>
                bif r62 then
                  (clock_Below n r2 r4).bind fun r63 =>
                  bif r63 then
                    (clock_Below n r1 r3).bind fun r64 =>
                    bif !r64 then
                      (clock_Join n r2 r1).bind fun r79 =>
                      bif andL [r4.e0 == r79.e0, r4.e1 == r79.e1, r4.e2 == r79.e2, r4.e3 == r79.e3] then
                        (clock_Below n r1 r6).bind fun r80 =>
                        bif r80 then
                          (clock_Below n r6 r1).bind fun r81 =>
                          bif !r81 then
                            (clock_Apart n r1 r2).bind fun r82 =>
                            (clock_Apart n r2 r1).bind fun r83 =>
                            bif (r82 == r83) then
                              (clock_Below n r1 r2).bind fun r84 =>
                              J8 (r84 == (andL [r4.e0 == r2.e0, r4.e1 == r2.e1, r4.e2 == r2.e2, r4.e3 == r2.e3]))
                            else
                              J8 false
                          else
                            J8 false
                        else
                          J8 false
                      else
                        J8 false
                    else
                      (clock_Below n r2 r3).bind fun r65 =>
                      bif !r65 then
                        (clock_Join n r2 r1).bind fun r73 =>
                        bif andL [r4.e0 == r73.e0, r4.e1 == r73.e1, r4.e2 == r73.e2, r4.e3 == r73.e3] then
                          (clock_Below n r1 r6).bind fun r74 =>
                          bif r74 then
                            (clock_Below n r6 r1).bind fun r75 =>
                            bif !r75 then
                              (clock_Apart n r1 r2).bind fun r76 =>
                              (clock_Apart n r2 r1).bind fun r77 =>
                              bif (r76 == r77) then
                                (clock_Below n r1 r2).bind fun r78 =>
                                J8 (r78 == (andL [r4.e0 == r2.e0, r4.e1 == r2.e1, r4.e2 == r2.e2, r4.e3 == r2.e3]))
                              else
                                J8 false
                            else
                              J8 false
                          else
                            J8 false
                        else
                          J8 false
                      else
                        (clock_Below n r4 r3).bind fun r66 =>
                        bif r66 then
                          (clock_Join n r2 r1).bind fun r67 =>
                          bif andL [r4.e0 == r67.e0, r4.e1 == r67.e1, r4.e2 == r67.e2, r4.e3 == r67.e3] then
                            (clock_Below n r1 r6).bind fun r68 =>
                            bif r68 then
                              (clock_Below n r6 r1).bind fun r69 =>
                              bif !r69 then
                                (clock_Apart n r1 r2).bind fun r70 =>
                                (clock_Apart n r2 r1).bind fun r71 =>
                                bif (r70 == r71) then
                                  (clock_Below n r1 r2).bind fun r72 =>
                                  J8 (r72 == (andL [r4.e0 == r2.e0, r4.e1 == r2.e1, r4.e2 == r2.e2, r4.e3 == r2.e3]))
                                else
                                  J8 false
                              else
                                J8 false
                            else
                              J8 false
                          else
                            J8 false
                        else
                          J8 false
                  else
                    J8 false
                else
                  J8 false
              else
                (clock_Below n r2 r3).bind fun r14 =>
                bif !r14 then
                  (clock_Below n r1 r4).bind fun r39 =>
                  bif r39 then
                    (clock_Below n r2 r4).bind fun r40 =>
                    bif r40 then
                      (clock_Below n r1 r3).bind fun r41 =>
                      bif !r41 then
                        (clock_Join n r2 r1).bind fun r56 =>
                        bif andL [r4.e0 == r56.e0, r4.e1 == r56.e1, r4.e2 == r56.e2, r4.e3 == r56.e3] then
                          (clock_Below n r1 r6).bind fun r57 =>
                          bif r57 then
                            (clock_Below n r6 r1).bind fun r58 =>
                            bif !r58 then
                              (clock_Apart n r1 r2).bind fun r59 =>
                              (clock_Apart n r2 r1).bind fun r60 =>
                              bif (r59 == r60) then
                                (clock_Below n r1 r2).bind fun r61 =>
                                J8 (r61 == (andL [r4.e0 == r2.e0, r4.e1 == r2.e1, r4.e2 == r2.e2, r4.e3 == r2.e3]))
                              else
                                J8 false
                            else
                              J8 false
                          else
                            J8 false
                        else
                          J8 false
                      else
                        (clock_Below n r2 r3).bind fun r42 =>
                        bif !r42 then
                          (clock_Join n r2 r1).bind fun r50 =>
                          bif andL [r4.e0 == r50.e0, r4.e1 == r50.e1, r4.e2 == r50.e2, r4.e3 == r50.e3] then
                            (clock_Below n r1 r6).bind fun r51 =>
                            bif r51 then
                              (clock_Below n r6 r1).bind fun r52 =>
                              bif !r52 then
                                (clock_Apart n r1 r2).bind fun r53 =>
                                (clock_Apart n r2 r1).bind fun r54 =>
                                bif (r53 == r54) then
                                  (clock_Below n r1 r2).bind fun r55 =>
                                  J8 (r55 == (andL [r4.e0 == r2.e0, r4.e1 == r2.e1, r4.e2 == r2.e2, r4.e3 == r2.e3]))
                                else
                                  J8 false
                              else
                                J8 false
                            else
                              J8 false
                          else
                            J8 false
                        else
                          (clock_Below n r4 r3).bind fun r43 =>
                          bif r43 then
                            (clock_Join n r2 r1).bind fun r44 =>
                            bif andL [r4.e0 == r44.e0, r4.e1 == r44.e1, r4.e2 == r44.e2, r4.e3 == r44.e3] then
                              (clock_Below n r1 r6).bind fun r45 =>
                              bif r45 then
                                (clock_Below n r6 r1).bind fun r46 =>
                                bif !r46 then
                                  (clock_Apart n r1 r2).bind fun r47 =>
                                  (clock_Apart n r2 r1).bind fun r48 =>
                                  bif (r47 == r48) then
                                    (clock_Below n r1 r2).bind fun r49 =>
                                    J8 (r49 == (andL [r4.e0 == r2.e0, r4.e1 == r2.e1, r4.e2 == r2.e2, r4.e3 == r2.e3]))
                                  else
                                    J8 false
                                else
                                  J8 false
                              else
                                J8 false
                            else
                              J8 false
                          else
                            J8 false
                    else
                      J8 false
                  else
                    J8 false
                else
                  (clock_Below n r1 r3).bind fun r15 =>
                  bif r15 then
                    (clock_Below n r1 r4).bind fun r16 =>
                    bif r16 then
                      (clock_Below n r2 r4).bind fun r17 =>
                      bif r17 then
                        (clock_Below n r1 r3).bind fun r18 =>
                        bif !r18 then
                          (clock_Join n r2 r1).bind fun r33 =>
                          bif andL [r4.e0 == r33.e0, r4.e1 == r33.e1, r4.e2 == r33.e2, r4.e3 == r33.e3] then
                            (clock_Below n r1 r6).bind fun r34 =>
                            bif r34 then
                              (clock_Below n r6 r1).bind fun r35 =>
                              bif !r35 then
                                (clock_Apart n r1 r2).bind fun r36 =>
                                (clock_Apart n r2 r1).bind fun r37 =>
                                bif (r36 == r37) then
                                  (clock_Below n r1 r2).bind fun r38 =>
                                  J8 (r38 == (andL [r4.e0 == r2.e0, r4.e1 == r2.e1, r4.e2 == r2.e2, r4.e3 == r2.e3]))
                                else
                                  J8 false
                              else
                                J8 false
                            else
                              J8 false
                          else
                            J8 false
                        else
                          (clock_Below n r2 r3).bind fun r19 =>
                          bif !r19 then
                            (clock_Join n r2 r1).bind fun r27 =>
                            bif andL [r4.e0 == r27.e0, r4.e1 == r27.e1, r4.e2 == r27.e2, r4.e3 == r27.e3] then
                              (clock_Below n r1 r6).bind fun r28 =>
                              bif r28 then
                                (clock_Below n r6 r1).bind fun r29 =>
                                bif !r29 then
                                  (clock_Apart n r1 r2).bind fun r30 =>
                                  (clock_Apart n r2 r1).bind fun r31 =>
                                  bif (r30 == r31) then
                                    (clock_Below n r1 r2).bind fun r32 =>
                                    J8 (r32 == (andL [r4.e0 == r2.e0, r4.e1 == r2.e1, r4.e2 == r2.e2, r4.e3 == r2.e3]))
                                  else
                                    J8 false
                                else
                                  J8 false
                              else
                                J8 false
                            else
                              J8 false
                          else
                            (clock_Below n r4 r3).bind fun r20 =>
                            bif r20 then
                              (clock_Join n r2 r1).bind fun r21 =>
                              bif andL [r4.e0 == r21.e0, r4.e1 == r21.e1, r4.e2 == r21.e2, r4.e3 == r21.e3] then
                                (clock_Below n r1 r6).bind fun r22 =>
                                bif r22 then
                                  (clock_Below n r6 r1).bind fun r23 =>
                                  bif !r23 then
                                    (clock_Apart n r1 r2).bind fun r24 =>
                                    (clock_Apart n r2 r1).bind fun r25 =>
                                    bif (r24 == r25) then
                                      (clock_Below n r1 r2).bind fun r26 =>
                                      J8 (r26 == (andL [r4.e0 == r2.e0, r4.e1 == r2.e1, r4.e2 == r2.e2, r4.e3 == r2.e3]))
                                    else
                                      J8 false
                                  else
                                    J8 false
                                else
                                  J8 false
                              else
                                J8 false
                            else
                              J8 false
                      else
                        J8 false
                    else
                      J8 false
                  else
                    J8 false
            else
              J8 false
      else
        J8 false
    else
      J8 false

end Go.Su.Ytacknokheanpbaa
