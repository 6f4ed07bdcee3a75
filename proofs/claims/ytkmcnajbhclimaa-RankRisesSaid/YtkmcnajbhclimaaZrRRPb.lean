/-
  The functions of the program compute that.
-/
import Derived.Test.YtkmcnajbhclimaaZrRRPa
namespace Go.Su.Ytkmcnajbhclimaa
open Go.Mx Go.Proofs
set_option maxRecDepth 100000
set_option maxHeartbeats 20000000
set_option linter.unusedVariables false
set_option linter.unusedSimpArgs false
theorem ref1_number_ok {n : Nat} {a0 : ByteArray} {r : Int × Bool} (h : ref1_number n a0 = some r) : PT Try.prog 74 [vw a0] (.tup [vi r.1,vb r.2]):=by
 unfold ref1_number at h
 refine PT_bodyA hT Try.func74 rfl (by kernel_rfl) fun bad w=>?_
 refine Qz hT 2 [0] ⟨[(0,vw a0)],[],0⟩ ?_
 refine Qz hT 1 [0,4] ⟨[(0,vw a0),(4,vi 0)],[],0⟩ ?_
 refine WA_seq ?_
 refine Qzd hT 1 [0,4,5] [(5,vi 0)] ?_
 refine WA_block ?_
 refine lK [0,4,5] [] (fun k s=>∃ q,q ≤ k ∧ q ≤ n ∧ ∃ (i1 : Int),∃ (i2 : Int),ref1_number_L0 q a0 i1 i2 = some r ∧ s = ⟨[(0,vw a0),(4,vi i1),(5,vi i2)],[],1⟩) n ⟨n,Nat.le_refl _,Nat.le_refl _,0,0,h,rfl⟩ (by rintro s ⟨q,hq,_,i1,i2,h,_⟩; obtain rfl:=Nat.le_zero.1 hq; rw [ref1_number_L0] at h; cases h) ?_
 clear h
 rintro k1 s ⟨q1,hk1,hn1,i1,i2,h,rfl⟩
 rcases q1 with _ | q1
 ·rw [ref1_number_L0] at h; cases h
 rw [ref1_number_L0] at h
 refine WA_seq ?_
 refine Qzd hT 4 [0,4,5,10] [(10,vb (decide (i2 < (a0.size : Int))))] ?_
 refine Ci h (fun h=>?_) fun h=>?_
 ·refine WA_skip ?_
  refine WA_seq ?_
  refine WA_block ?_
  refine Qgd hT 2 [0,4,5,13,14] [(13,vw a0),(14,vi i2)] ?_
  obtain ⟨x3,hx3,h⟩:=bsome h
  refine One' hT rfl (v_indexS a0 .i64 i2 hx3) ?_
  refine Szd hT 3 [0,4,5,6] [(6,vi (wr (IntKind.u8.wrap (x3 - 48))))] ?_
  refine WA_seq ?_
  refine Qzd hT 5 [0,4,5,6,22] [(22,vb (decide (i1 > (wr ((wr (9223372036854775807 - (wr (IntKind.u8.wrap (x3 - 48))))).tdiv 10)))))] ?_
  refine Ci h (fun h=>?_) fun h=>?_
  ·refine Qz hT 2 [2,3] ⟨[(2,vi 0),(3,vb false)],[],1⟩ ?_
   obtain rfl:=Option.some.inj h
   exact rK [2,3] [] ⟨[(2,vi 0),(3,vb false)],[],1⟩ ⟨by kernel_rfl,rfl⟩
  refine WA_skip ?_
  refine Rzd hT 5 [0,4,5] [(4,vi (wr ((wr (10 * i1)) + (wr (IntKind.u8.wrap (x3 - 48))))))] ?_
  refine Rgd hT 3 [0,4,5] [(5,vi (wr (i2 + 1)))] ?_
  exact oK [0,4,5] [] ⟨_,by omega,by omega,wr ((wr (10 * i1)) + (wr (IntKind.u8.wrap (x3 - 48)))),wr (i2 + 1),h,rfl⟩
 refine WA_exit ?_
 refine WA_seq ?_
 obtain ⟨J5,hJ5,h⟩:=jsome h
 refine WA_join (fun s=>∃ (b4 : Bool),J5 b4 = some r ∧ s = ⟨[(2,vi i1),(3,vb b4)],[],1⟩) ?_ ?_
 ·refine Rg hT 4 [0,27,30] ⟨[(0,vw a0),(27,vi i1),(30,vb (!bytesEq a0 b0))],[],1⟩ ?_
  cases hb : (!bytesEq a0 b0 : Bool)
  ·replace h:=cfalse hb h
   refine Sg hT 10 [2,3] ⟨[(2,vi i1),(3,vb false)],[],1⟩ ?_
   exact oK [2,3] [] ⟨false,h,rfl⟩
  replace h:=ctrue hb h
  refine Sgd hT 1 [0,27,30,31] [(31,vw a0)] ?_
  obtain ⟨x6,hx6,h⟩:=bsome h
  refine One' hT rfl (v_indexS a0 .i64 0 hx6) ?_
  refine Sgd hT 2 [0,27,30,34] [(34,vb (x6 != 48))] ?_
  cases hb : ((x6 != 48) : Bool)
  ·replace h:=cfalse hb h
   refine Sg hT 6 [2,3] ⟨[(2,vi i1),(3,vb (bytesEq a0 x_30))],[],1⟩ ?_
   exact oK [2,3] [] ⟨bytesEq a0 x_30,h,rfl⟩
  replace h:=ctrue hb h
  refine Sg hT 6 [2,3] ⟨[(2,vi i1),(3,vb true)],[],1⟩ ?_
  exact oK [2,3] [] ⟨true,h,rfl⟩
 subst hJ5
 rintro s ⟨b4,h,rfl⟩
 obtain rfl:=Option.some.inj h
 exact rK [2,3] [] ⟨[(2,vi i1),(3,vb b4)],[],1⟩ ⟨by kernel_rfl,rfl⟩
theorem ref1_one_ok {n : Nat} {a0 : ByteArray} {a1 : Int} {r : Token × Int} (h : ref1_one n a0 a1 = some r) : PT Try.prog 47 [vw a0,vi a1] (.tup [eToken r.1,vi r.2]):=by
 unfold ref1_one at h
 refine PT_bodyA hT Try.func47 rfl (by kernel_rfl) fun bad w=>?_
 refine Qzh hT 2 [0,1,4] [(4,bx 4 0)] [(4,cb 0 66 4 (.agg [vi 0,vw b0,vi 0,vi 0]))] 1 ?_
 refine Qgd hT 2 [0,1,4,11,12] [(11,vw a0),(12,vi a1)] ?_
 obtain ⟨x1,hx1,h⟩:=bsome h
 refine One' hT rfl (v_indexS a0 .i64 a1 hx1) ?_
 refine Szd hT 1 [0,1,4,6] [(6,vu x1)] ?_
 refine Qzd hT 3 [0,1,4,6,7] [(7,vi (wr (a1 + 1)))] ?_
 refine WA_seq ?_
 refine WA_block ?_
 refine Qgd hT 1 [0,1,4,6,7,17] [(17,vu x1)] ?_
 obtain ⟨r2,hr2,h⟩:=bsome h
 refine Pt' en72 (ref1_letter_ok hr2) ?_
 refine Szd hT 1 [0,1,4,6,7,16] [(16,vb r2)] ?_
 refine Ci h (fun h=>?_) fun h=>?_
 ·refine WA_seq ?_
  refine WA_block ?_
  refine lK [0,1,4,7] [(4,4,0)] (fun k s=>∃ q,q ≤ k ∧ q ≤ n ∧ ∃ (w4 : ByteArray),∃ (i5 : Int),ref1_one_L0 q a0 a1 x1 r2 w4 i5 = some r ∧ s = ⟨[(0,vw a0),(1,vi a1),(4,bx 4 0),(7,vi i5)],[(4,cb 0 66 4 (.agg [vi 0,vw w4,vi 0,vi 0]))],1⟩) n ⟨n,Nat.le_refl _,Nat.le_refl _,b0,wr (a1 + 1),h,rfl⟩ (by rintro s ⟨q,hq,_,w4,i5,h,_⟩; obtain rfl:=Nat.le_zero.1 hq; rw [ref1_one_L0] at h; cases h) ?_
  clear h
  rintro k1 s ⟨q1,hk1,hn1,w4,i5,h,rfl⟩
  rcases q1 with _ | q1
  ·rw [ref1_one_L0] at h; cases h
  rw [ref1_one_L0] at h
  refine WA_seq ?_
  refine WA_seq ?_
  obtain ⟨J7,hJ7,h⟩:=jsome h
  refine WA_join (fun s=>∃ (b6 : Bool),J7 b6 = some r ∧ s = ⟨[(0,vw a0),(1,vi a1),(4,bx 4 0),(7,vi i5),(34,vb b6)],[(4,cb 0 66 4 (.agg [vi 0,vw w4,vi 0,vi 0]))],1⟩) ?_ ?_
  ·refine Rg hT 5 [0,1,4,7,23] ⟨[(0,vw a0),(1,vi a1),(4,bx 4 0),(7,vi i5),(23,vb (decide (i5 < (a0.size : Int))))],[(4,cb 0 66 4 (.agg [vi 0,vw w4,vi 0,vi 0]))],1⟩ ?_
   cases hb : (decide (i5 < (a0.size : Int)) : Bool)
   ·replace h:=cfalse hb h
    refine Sgd hT 11 [0,1,4,7,34] [(34,vb false)] ?_
    exact oK [0,1,4,7,34] [(4,4,0)] ⟨false,h,rfl⟩
   replace h:=ctrue hb h
   refine Sgd hT 2 [0,1,4,7,23,24,25] [(24,vw a0),(25,vi i5)] ?_
   obtain ⟨x8,hx8,h⟩:=bsome h
   refine One' hT rfl (v_indexS a0 .i64 i5 hx8) ?_
   refine Sgd hT 0 [0,1,4,7,23,26] [(26,vu x8)] ?_
   obtain ⟨r9,hr9,h⟩:=bsome h
   refine Pt' en72 (ref1_letter_ok hr9) ?_
   refine Sgd hT 1 [0,1,4,7,23,28] [(28,vb r9)] ?_
   cases hb : (r9 : Bool)
   ·replace h:=cfalse hb h
    refine Sgd hT 2 [0,1,4,7,23,28,29,30] [(29,vw a0),(30,vi i5)] ?_
    obtain ⟨x10,hx10,h⟩:=bsome h
    refine One' hT rfl (v_indexS a0 .i64 i5 hx10) ?_
    refine Sgd hT 0 [0,1,4,7,23,28,31] [(31,vu x10)] ?_
    obtain ⟨r11,hr11,h⟩:=bsome h
    refine Pt' en73 (ref1_digit_ok hr11) ?_
    refine Sgd hT 2 [0,1,4,7,34] [(34,vb r11)] ?_
    exact oK [0,1,4,7,34] [(4,4,0)] ⟨r11,h,rfl⟩
   replace h:=ctrue hb h
   refine Sgd hT 6 [0,1,4,7,34] [(34,vb true)] ?_
   exact oK [0,1,4,7,34] [(4,4,0)] ⟨true,h,rfl⟩
  subst hJ7
  rintro s ⟨b6,h,rfl⟩
  skip
  refine Ci h (fun h=>?_) fun h=>?_
  ·refine WA_skip ?_
   refine WA_block ?_
   refine Rg hT 3 [0,1,4,7] ⟨[(0,vw a0),(1,vi a1),(4,bx 4 0),(7,vi (wr (i5 + 1)))],[(4,cb 0 66 4 (.agg [vi 0,vw w4,vi 0,vi 0]))],1⟩ ?_
   exact oK [0,1,4,7] [(4,4,0)] ⟨_,by omega,by omega,w4,wr (i5 + 1),h,rfl⟩
  refine WA_exit ?_
  refine WA_seq ?_
  refine Qzd hT 4 [0,1,4,7,40] [(40,vb (decide ((wr (i5 - a1)) > 12)))] ?_
  refine Ci h (fun h=>?_) fun h=>?_
  ·refine Qz hT 3 [4,5] ⟨[(4,bx 4 0),(5,vi 0)],[(4,cb 0 66 4 (.agg [vi 0,vw b0,vi 0,vi 0]))],1⟩ ?_
   refine aW [4,5] ⟨[(4,bx 4 0),(5,vi 0)],[(4,cb 0 66 4 (.agg [vi 0,vw b0,vi 0,vi 0]))],1⟩ ?_
   refine WA_weak (wL [(4,bx 4 0),(5,vi 0)] [(4,cb 0 66 4 (eToken (Token.mk 0 b0 0 0)))] ⟨VLf.refl _,VLf.refl _,trivial⟩ ⟨rfl,.inr (.inl ⟨rfl,rfl,CLe.agg ⟨VLf.refl _,VLf.refl _,VLf.refl _,VLf.refl _,trivial⟩,trivial⟩),trivial⟩) ?_
   obtain rfl:=Option.some.inj h
   exact rR [(4,1000,0)] ⟨[(4,bx 1000 0),(5,vi 0)],[(1000,cb 0 66 4 (eToken (Token.mk 0 b0 0 0)))],1⟩ ⟨by kernel_rfl,rfl⟩
  refine WA_skip ?_
  refine Qgd hT 3 [1,4,7,42,43,44] [(42,vw a0),(43,vi a1),(44,vi i5)] ?_
  obtain ⟨w12,hw12,h⟩:=bsome h
  refine One' hT rfl (ev_ssub a0 a1 i5 hw12 (by kernel_rfl) (by kernel_rfl) (by kernel_rfl) rfl rfl) ?_
  refine Sz hT 7 [4,5] ⟨[(4,bx 4 0),(5,vi (wr (i5 - a1)))],[(4,cb 0 66 4 (.agg [vi 1,vw w12,vi 0,vi a1]))],1⟩ ?_
  refine aW [4,5] ⟨[(4,bx 4 0),(5,vi (wr (i5 - a1)))],[(4,cb 0 66 4 (.agg [vi 1,vw w12,vi 0,vi a1]))],1⟩ ?_
  refine WA_weak (wL [(4,bx 4 0),(5,vi (wr (i5 - a1)))] [(4,cb 0 66 4 (eToken (Token.mk 1 w12 0 a1)))] ⟨VLf.refl _,VLf.refl _,trivial⟩ ⟨rfl,.inr (.inl ⟨rfl,rfl,CLe.agg ⟨VLf.refl _,VLf.refl _,VLf.refl _,VLf.refl _,trivial⟩,trivial⟩),trivial⟩) ?_
  obtain rfl:=Option.some.inj h
  exact rR [(4,1000,0)] ⟨[(4,bx 1000 0),(5,vi (wr (i5 - a1)))],[(1000,cb 0 66 4 (eToken (Token.mk 1 w12 0 a1)))],1⟩ ⟨by kernel_rfl,rfl⟩
 refine Qgd hT 1 [0,1,4,6,7,52] [(52,vu x1)] ?_
 obtain ⟨r13,hr13,h⟩:=bsome h
 refine Pt' en73 (ref1_digit_ok hr13) ?_
 refine Szd hT 1 [0,1,4,6,7,51] [(51,vb r13)] ?_
 refine Ci h (fun h=>?_) fun h=>?_
 ·refine WA_seq ?_
  refine WA_block ?_
  refine lK [0,1,4,7] [(4,4,0)] (fun k s=>∃ q,q ≤ k ∧ q ≤ n ∧ ∃ (w15 : ByteArray),∃ (i16 : Int),ref1_one_L1 q a0 a1 x1 r2 r13 w15 i16 = some r ∧ s = ⟨[(0,vw a0),(1,vi a1),(4,bx 4 0),(7,vi i16)],[(4,cb 0 66 4 (.agg [vi 0,vw w15,vi 0,vi 0]))],1⟩) n ⟨n,Nat.le_refl _,Nat.le_refl _,b0,wr (a1 + 1),h,rfl⟩ (by rintro s ⟨q,hq,_,w15,i16,h,_⟩; obtain rfl:=Nat.le_zero.1 hq; rw [ref1_one_L1] at h; cases h) ?_
  clear h
  rintro k1 s ⟨q1,hk1,hn1,w15,i16,h,rfl⟩
  rcases q1 with _ | q1
  ·rw [ref1_one_L1] at h; cases h
  rw [ref1_one_L1] at h
  refine WA_seq ?_
  refine WA_seq ?_
  obtain ⟨J18,hJ18,h⟩:=jsome h
  refine WA_join (fun s=>∃ (b17 : Bool),J18 b17 = some r ∧ s = ⟨[(0,vw a0),(1,vi a1),(4,bx 4 0),(7,vi i16),(63,vb b17)],[(4,cb 0 66 4 (.agg [vi 0,vw w15,vi 0,vi 0]))],1⟩) ?_ ?_
  ·refine Rgd hT 5 [0,1,4,7,58] [(58,vb (decide (i16 < (a0.size : Int))))] ?_
   cases hb : (decide (i16 < (a0.size : Int)) : Bool)
   ·replace h:=cfalse hb h
    refine Sgd hT 5 [0,1,4,7,63] [(63,vb false)] ?_
    exact oK [0,1,4,7,63] [(4,4,0)] ⟨false,h,rfl⟩
   replace h:=ctrue hb h
   refine Sgd hT 2 [0,1,4,7,58,59,60] [(59,vw a0),(60,vi i16)] ?_
   obtain ⟨x19,hx19,h⟩:=bsome h
   refine One' hT rfl (v_indexS a0 .i64 i16 hx19) ?_
   refine Sgd hT 0 [0,1,4,7,58,61] [(61,vu x19)] ?_
   obtain ⟨r20,hr20,h⟩:=bsome h
   refine Pt' en73 (ref1_digit_ok hr20) ?_
   refine Sgd hT 1 [0,1,4,7,63] [(63,vb r20)] ?_
   exact oK [0,1,4,7,63] [(4,4,0)] ⟨r20,h,rfl⟩
  subst hJ18
  rintro s ⟨b17,h,rfl⟩
  skip
  refine Ci h (fun h=>?_) fun h=>?_
  ·refine WA_skip ?_
   refine WA_block ?_
   refine Rgd hT 3 [0,1,4,7] [(7,vi (wr (i16 + 1)))] ?_
   exact oK [0,1,4,7] [(4,4,0)] ⟨_,by omega,by omega,w15,wr (i16 + 1),h,rfl⟩
  refine WA_exit ?_
  refine Qg hT 3 [0,1,4,7,67,68,69] ⟨[(0,vw a0),(1,vi a1),(4,bx 4 0),(7,vi i16),(67,vw a0),(68,vi a1),(69,vi i16)],[(4,cb 0 66 4 (.agg [vi 0,vw w15,vi 0,vi 0]))],1⟩ ?_
  obtain ⟨w21,hw21,h⟩:=bsome h
  refine One' hT rfl (ev_ssub a0 a1 i16 hw21 (by kernel_rfl) (by kernel_rfl) (by kernel_rfl) rfl rfl) ?_
  refine Sgd hT 0 [0,1,4,7,70] [(70,vw w21)] ?_
  obtain ⟨r22,hr22,h⟩:=bsome h
  refine Pt' en74 (ref1_number_ok hr22) ?_
  refine Szd hT 5 [0,1,4,7,8,9] [(8,vi r22.1),(9,vb r22.2)] ?_
  refine WA_seq ?_
  refine Qzd hT 2 [0,1,4,7,8,75] [(75,vb (!r22.2))] ?_
  refine Ci h (fun h=>?_) fun h=>?_
  ·refine Qz hT 3 [4,5] ⟨[(4,bx 4 0),(5,vi 0)],[(4,cb 0 66 4 (.agg [vi 0,vw b0,vi 0,vi 0]))],1⟩ ?_
   refine aW [4,5] ⟨[(4,bx 4 0),(5,vi 0)],[(4,cb 0 66 4 (.agg [vi 0,vw b0,vi 0,vi 0]))],1⟩ ?_
   refine WA_weak (wL [(4,bx 4 0),(5,vi 0)] [(4,cb 0 66 4 (eToken (Token.mk 0 b0 0 0)))] ⟨VLf.refl _,VLf.refl _,trivial⟩ ⟨rfl,.inr (.inl ⟨rfl,rfl,CLe.agg ⟨VLf.refl _,VLf.refl _,VLf.refl _,VLf.refl _,trivial⟩,trivial⟩),trivial⟩) ?_
   obtain rfl:=Option.some.inj h
   exact rR [(4,1000,0)] ⟨[(4,bx 1000 0),(5,vi 0)],[(1000,cb 0 66 4 (eToken (Token.mk 0 b0 0 0)))],1⟩ ⟨by kernel_rfl,rfl⟩
  refine WA_skip ?_
  refine Qgd hT 3 [1,4,7,8,77,78,79] [(77,vw a0),(78,vi a1),(79,vi i16)] ?_
  obtain ⟨w23,hw23,h⟩:=bsome h
  refine One' hT rfl (ev_ssub a0 a1 i16 hw23 (by kernel_rfl) (by kernel_rfl) (by kernel_rfl) rfl rfl) ?_
  refine Sz hT 8 [4,5] ⟨[(4,bx 4 0),(5,vi (wr (i16 - a1)))],[(4,cb 0 66 4 (.agg [vi 2,vw w23,vi r22.1,vi a1]))],1⟩ ?_
  refine aW [4,5] ⟨[(4,bx 4 0),(5,vi (wr (i16 - a1)))],[(4,cb 0 66 4 (.agg [vi 2,vw w23,vi r22.1,vi a1]))],1⟩ ?_
  refine WA_weak (wL [(4,bx 4 0),(5,vi (wr (i16 - a1)))] [(4,cb 0 66 4 (eToken (Token.mk 2 w23 r22.1 a1)))] ⟨VLf.refl _,VLf.refl _,trivial⟩ ⟨rfl,.inr (.inl ⟨rfl,rfl,CLe.agg ⟨VLf.refl _,VLf.refl _,VLf.refl _,VLf.refl _,trivial⟩,trivial⟩),trivial⟩) ?_
  obtain rfl:=Option.some.inj h
  exact rR [(4,1000,0)] ⟨[(4,bx 1000 0),(5,vi (wr (i16 - a1)))],[(1000,cb 0 66 4 (eToken (Token.mk 2 w23 r22.1 a1)))],1⟩ ⟨by kernel_rfl,rfl⟩
 refine WA_seq ?_
 obtain ⟨J26,hJ26,h⟩:=jsome h
 refine WA_join (fun s=>∃ (w24 : ByteArray),∃ (b25 : Bool),J26 w24 b25 = some r ∧ s = ⟨[(0,vw a0),(1,vi a1),(4,bx 4 0),(6,vu x1),(7,vi (wr (a1 + 1))),(87,vb b25)],[(4,cb 0 66 4 (.agg [vi 0,vw w24,vi 0,vi 0]))],1⟩) ?_ ?_
 ·refine Rgd hT 3 [0,1,4,6,7,90] [(90,vb (x1 == 61))] ?_
  cases hb : ((x1 == 61) : Bool)
  ·replace h:=cfalse hb h
   refine Sgd hT 12 [0,1,4,6,7,87] [(87,vb false)] ?_
   exact oK [0,1,4,6,7,87] [(4,4,0)] ⟨b0,false,h,rfl⟩
  replace h:=ctrue hb h
  refine Sg hT 6 [0,1,4,6,7,96] ⟨[(0,vw a0),(1,vi a1),(4,bx 4 0),(6,vu x1),(7,vi (wr (a1 + 1))),(96,vb (decide ((wr (a1 + 1)) < (a0.size : Int))))],[(4,cb 0 66 4 (.agg [vi 0,vw b0,vi 0,vi 0]))],1⟩ ?_
  cases hb : (decide ((wr (a1 + 1)) < (a0.size : Int)) : Bool)
  ·replace h:=cfalse hb h
   refine Sgd hT 6 [0,1,4,6,7,87] [(87,vb false)] ?_
   exact oK [0,1,4,6,7,87] [(4,4,0)] ⟨b0,false,h,rfl⟩
  replace h:=ctrue hb h
  refine Sgd hT 2 [0,1,4,6,7,96,97,98] [(97,vw a0),(98,vi (wr (a1 + 1)))] ?_
  obtain ⟨x27,hx27,h⟩:=bsome h
  refine One' hT rfl (v_indexS a0 .i64 (wr (a1 + 1)) hx27) ?_
  refine Sgd hT 3 [0,1,4,6,7,87] [(87,vb (x27 == 61))] ?_
  exact oK [0,1,4,6,7,87] [(4,4,0)] ⟨b0,(x27 == 61),h,rfl⟩
 subst hJ26
 rintro s ⟨w24,b25,h,rfl⟩
 refine Ci h (fun h=>?_) fun h=>?_
 ·refine Qz hT 4 [4,5] ⟨[(4,bx 4 0),(5,vi 2)],[(4,cb 0 66 4 (.agg [vi 3,vw x_3d3d,vi 0,vi a1]))],1⟩ ?_
  refine aW [4,5] ⟨[(4,bx 4 0),(5,vi 2)],[(4,cb 0 66 4 (.agg [vi 3,vw x_3d3d,vi 0,vi a1]))],1⟩ ?_
  refine WA_weak (wL [(4,bx 4 0),(5,vi 2)] [(4,cb 0 66 4 (eToken (Token.mk 3 x_3d3d 0 a1)))] ⟨VLf.refl _,VLf.refl _,trivial⟩ ⟨rfl,.inr (.inl ⟨rfl,rfl,CLe.agg ⟨VLf.refl _,VLf.refl _,VLf.refl _,VLf.refl _,trivial⟩,trivial⟩),trivial⟩) ?_
  obtain rfl:=Option.some.inj h
  exact rR [(4,1000,0)] ⟨[(4,bx 1000 0),(5,vi 2)],[(1000,cb 0 66 4 (eToken (Token.mk 3 x_3d3d 0 a1)))],1⟩ ⟨by kernel_rfl,rfl⟩
 refine WA_skip ?_
 refine WA_seq ?_
 refine Qzd hT 1 [0,1,4,6,7,10] [(10,vi 0)] ?_
 refine WA_block ?_
 refine lK [0,1,4,6,7,10] [(4,4,0)] (fun k s=>∃ q,q ≤ k ∧ q ≤ n ∧ ∃ (i28 : Int),ref1_one_L2 q a0 a1 x1 r2 r13 w24 b25 i28 = some r ∧ s = ⟨[(0,vw a0),(1,vi a1),(4,bx 4 0),(6,vu x1),(7,vi (wr (a1 + 1))),(10,vi i28)],[(4,cb 0 66 4 (.agg [vi 0,vw w24,vi 0,vi 0]))],1⟩) n ⟨n,Nat.le_refl _,Nat.le_refl _,0,h,rfl⟩ (by rintro s ⟨q,hq,_,i28,h,_⟩; obtain rfl:=Nat.le_zero.1 hq; rw [ref1_one_L2] at h; cases h) ?_
 clear h
 rintro k1 s ⟨q1,hk1,hn1,i28,h,rfl⟩
 rcases q1 with _ | q1
 ·rw [ref1_one_L2] at h; cases h
 rw [ref1_one_L2] at h
 refine WA_seq ?_
 refine Qzd hT 2 [0,1,4,6,7,10,105] [(105,vb (decide (i28 < 11)))] ?_
 refine Ci h (fun h=>?_) fun h=>?_
 ·refine WA_skip ?_
  refine WA_seq ?_
  refine WA_block ?_
  refine Qgd hT 1 [0,1,4,6,7,10,108] [(108,vi i28)] ?_
  obtain ⟨x29,hx29,h⟩:=bsome h
  refine One' hT rfl (v_indexS x_3d3c2b2d2a2f2528297b7d .i64 i28 hx29) ?_
  refine Szd hT 2 [0,1,4,6,7,10,111] [(111,vb (x29 == x1))] ?_
  refine Ci h (fun h=>?_) fun h=>?_
  ·refine Qgd hT 3 [1,4,112,113,114] [(112,vw a0),(113,vi a1),(114,vi (wr (a1 + 1)))] ?_
   obtain ⟨w30,hw30,h⟩:=bsome h
   refine One' hT rfl (ev_ssub a0 a1 (wr (a1 + 1)) hw30 (by kernel_rfl) (by kernel_rfl) (by kernel_rfl) rfl rfl) ?_
   refine Sz hT 4 [4,5] ⟨[(4,bx 4 0),(5,vi 1)],[(4,cb 0 66 4 (.agg [vi 3,vw w30,vi 0,vi a1]))],1⟩ ?_
   refine aW [4,5] ⟨[(4,bx 4 0),(5,vi 1)],[(4,cb 0 66 4 (.agg [vi 3,vw w30,vi 0,vi a1]))],1⟩ ?_
   refine WA_weak (wL [(4,bx 4 0),(5,vi 1)] [(4,cb 0 66 4 (eToken (Token.mk 3 w30 0 a1)))] ⟨VLf.refl _,VLf.refl _,trivial⟩ ⟨rfl,.inr (.inl ⟨rfl,rfl,CLe.agg ⟨VLf.refl _,VLf.refl _,VLf.refl _,VLf.refl _,trivial⟩,trivial⟩),trivial⟩) ?_
   obtain rfl:=Option.some.inj h
   exact rR [(4,1000,0)] ⟨[(4,bx 1000 0),(5,vi 1)],[(1000,cb 0 66 4 (eToken (Token.mk 3 w30 0 a1)))],1⟩ ⟨by kernel_rfl,rfl⟩
  refine WA_skip ?_
  refine Rgd hT 3 [0,1,4,6,7,10] [(10,vi (wr (i28 + 1)))] ?_
  exact oK [0,1,4,6,7,10] [(4,4,0)] ⟨_,by omega,by omega,wr (i28 + 1),h,rfl⟩
 refine WA_exit ?_
 refine Qz hT 3 [4,5] ⟨[(4,bx 4 0),(5,vi 0)],[(4,cb 0 66 4 (.agg [vi 0,vw b0,vi 0,vi 0]))],1⟩ ?_
 refine aW [4,5] ⟨[(4,bx 4 0),(5,vi 0)],[(4,cb 0 66 4 (.agg [vi 0,vw b0,vi 0,vi 0]))],1⟩ ?_
 refine WA_weak (wL [(4,bx 4 0),(5,vi 0)] [(4,cb 0 66 4 (eToken (Token.mk 0 b0 0 0)))] ⟨VLf.refl _,VLf.refl _,trivial⟩ ⟨rfl,.inr (.inl ⟨rfl,rfl,CLe.agg ⟨VLf.refl _,VLf.refl _,VLf.refl _,VLf.refl _,trivial⟩,trivial⟩),trivial⟩) ?_
 obtain rfl:=Option.some.inj h
 exact rR [(4,1000,0)] ⟨[(4,bx 1000 0),(5,vi 0)],[(1000,cb 0 66 4 (eToken (Token.mk 0 b0 0 0)))],1⟩ ⟨by kernel_rfl,rfl⟩
theorem ref1_Tokens_ok {n : Nat} {a0 : ByteArray} {r : (List Token) × Int × Int} (h : ref1_Tokens n a0 = some r) : GO Try.prog 23 [] [vw a0] (.tup [vs 100 1 s_Token r.1,vi r.2.1,vi r.2.2]) [(100,rb 1 s_Token r.1)]:=by
 unfold ref1_Tokens at h
 refine GO_bodyA hT Try.func23 rfl [] (by kernel_rfl) fun bad w m=>?_
 refine Qz hT 3 [0] ⟨[(0,vw a0)],[],1⟩ ?_
 refine WA_seq ?_
 refine Qz hT 3 [0,12] ⟨[(0,vw a0),(12,vb (decide ((a0.size : Int) > 6000)))],[],1⟩ ?_
 refine Ci h (fun h=>?_) fun h=>?_
 ·refine Qz hT 3 [2,3,4] ⟨[(2,vn),(3,vi 6000),(4,vi 2)],[],1⟩ ?_
  refine aW [2,3,4] ⟨[(2,vn),(3,vi 6000),(4,vi 2)],[],1⟩ ?_
  refine WA_weak (wO 2 5000 66 4) ?_
  obtain rfl:=Option.some.inj h
  exact rK [2,3,4] [(5000,100,1)] ⟨[(2,vs 100 1 s_Token ([] : List Token)),(3,vi 6000),(4,vi 2)],[(100,rb 1 s_Token ([] : List Token))],2⟩ ⟨by kernel_rfl,by kernel_rfl,rfl⟩
 refine WA_skip ?_
 refine Qz hT 1 [0,5] ⟨[(0,vw a0),(5,vn)],[],1⟩ ?_
 refine Qzd hT 1 [0,5,6] [(6,vi 0)] ?_
 refine WA_seq ?_
 refine WA_block ?_
 refine aW [0,5,6] ⟨[(0,vw a0),(5,vn),(6,vi 0)],[],1⟩ ?_
 refine WA_weak (wO 5 5000 66 4) ?_
 refine lK [0,5,6] [(5000,10005,1)] (fun k s=>∃ q,q ≤ k ∧ q ≤ n ∧ ∃ (l1 : List Token),∃ (i2 : Int),ref1_Tokens_L0 q a0 l1 i2 = some r ∧ s = ⟨[(0,vw a0),(5,vs 10005 1 s_Token l1),(6,vi i2)],[(10005,rb 1 s_Token l1)],2⟩) n ⟨n,Nat.le_refl _,Nat.le_refl _,([] : List Token),0,h,rfl⟩ (by rintro s ⟨q,hq,_,l1,i2,h,_⟩; obtain rfl:=Nat.le_zero.1 hq; rw [ref1_Tokens_L0] at h; cases h) ?_
 clear h
 rintro k1 s ⟨q1,hk1,hn1,l1,i2,h,rfl⟩
 rcases q1 with _ | q1
 ·rw [ref1_Tokens_L0] at h; cases h
 rw [ref1_Tokens_L0] at h
 refine WA_seq ?_
 refine Qzd hT 4 [0,5,6,16] [(16,vb (decide (i2 < (a0.size : Int))))] ?_
 refine Ci h (fun h=>?_) fun h=>?_
 ·refine WA_skip ?_
  refine WA_block ?_
  refine Qgd hT 2 [0,5,6,17,18] [(17,vw a0),(18,vi i2)] ?_
  obtain ⟨x3,hx3,h⟩:=bsome h
  refine One' hT rfl (v_indexS a0 .i64 i2 hx3) ?_
  refine Szd hT 1 [0,5,6,7] [(7,vu x3)] ?_
  refine WA_seq ?_
  refine WA_seq ?_
  obtain ⟨J5,hJ5,h⟩:=jsome h
  refine WA_join (fun s=>∃ (b4 : Bool),J5 b4 = some r ∧ s = ⟨[(0,vw a0),(5,vs 10005 1 s_Token l1),(6,vi i2),(7,vu x3),(29,vb b4)],[(10005,rb 1 s_Token l1)],2⟩) ?_ ?_
  ·refine Rg hT 3 [0,5,6,7,22] ⟨[(0,vw a0),(5,vs 10005 1 s_Token l1),(6,vi i2),(7,vu x3),(22,vb (x3 == 32))],[(10005,rb 1 s_Token l1)],2⟩ ?_
   cases hb : ((x3 == 32) : Bool)
   ·replace h:=cfalse hb h
    refine Sgd hT 4 [0,5,6,7,26] [(26,vb (x3 == 9))] ?_
    cases hb : ((x3 == 9) : Bool)
    ·replace h:=cfalse hb h
     refine Sgd hT 3 [0,5,6,7,29] [(29,vb (x3 == 10))] ?_
     exact oK [0,5,6,7,29] [(10005,10005,1)] ⟨(x3 == 10),h,rfl⟩
    replace h:=ctrue hb h
    refine Sgd hT 3 [0,5,6,7,29] [(29,vb true)] ?_
    exact oK [0,5,6,7,29] [(10005,10005,1)] ⟨true,h,rfl⟩
   replace h:=ctrue hb h
   refine Sgd hT 7 [0,5,6,7,29] [(29,vb true)] ?_
   exact oK [0,5,6,7,29] [(10005,10005,1)] ⟨true,h,rfl⟩
  subst hJ5
  rintro s ⟨b4,h,rfl⟩
  skip
  refine Ci h (fun h=>?_) fun h=>?_
  ·refine Qzd hT 3 [0,5,6] [(6,vi (wr (i2 + 1)))] ?_
   exact eK [0,5,6] [(10005,10005,1)] ⟨_,by omega,by omega,l1,wr (i2 + 1),h,rfl⟩
  refine WA_skip ?_
  refine WA_seq ?_
  refine Qzd hT 2 [0,5,6,33] [(33,vb (x3 == 35))] ?_
  refine Ci h (fun h=>?_) fun h=>?_
  ·refine WA_seq ?_
   refine WA_block ?_
   refine lK [0,5,6] [(10005,10005,1)] (fun k s=>∃ q,q ≤ k ∧ q ≤ q1 ∧ ∃ (i6 : Int),ref1_Tokens_L1 q a0 l1 i2 x3 b4 i6 = some r ∧ s = ⟨[(0,vw a0),(5,vs 10005 1 s_Token l1),(6,vi i6)],[(10005,rb 1 s_Token l1)],2⟩) q1 ⟨q1,Nat.le_refl _,Nat.le_refl _,i2,h,rfl⟩ (by rintro s ⟨q,hq,_,i6,h,_⟩; obtain rfl:=Nat.le_zero.1 hq; rw [ref1_Tokens_L1] at h; cases h) ?_
   clear h
   rintro k2 s ⟨q2,hk2,hn2,i6,h,rfl⟩
   rcases q2 with _ | q2
   ·rw [ref1_Tokens_L1] at h; cases h
   rw [ref1_Tokens_L1] at h
   refine WA_seq ?_
   refine WA_seq ?_
   obtain ⟨J8,hJ8,h⟩:=jsome h
   refine WA_join (fun s=>∃ (b7 : Bool),J8 b7 = some r ∧ s = ⟨[(0,vw a0),(5,vs 10005 1 s_Token l1),(6,vi i6),(43,vb b7)],[(10005,rb 1 s_Token l1)],2⟩) ?_ ?_
   ·refine Rgd hT 5 [0,5,6,38] [(38,vb (decide (i6 < (a0.size : Int))))] ?_
    cases hb : (decide (i6 < (a0.size : Int)) : Bool)
    ·replace h:=cfalse hb h
     refine Sgd hT 5 [0,5,6,43] [(43,vb false)] ?_
     exact oK [0,5,6,43] [(10005,10005,1)] ⟨false,h,rfl⟩
    replace h:=ctrue hb h
    refine Sgd hT 2 [0,5,6,38,39,40] [(39,vw a0),(40,vi i6)] ?_
    obtain ⟨x9,hx9,h⟩:=bsome h
    refine One' hT rfl (v_indexS a0 .i64 i6 hx9) ?_
    refine Sgd hT 2 [0,5,6,43] [(43,vb (x9 != 10))] ?_
    exact oK [0,5,6,43] [(10005,10005,1)] ⟨(x9 != 10),h,rfl⟩
   subst hJ8
   rintro s ⟨b7,h,rfl⟩
   skip
   refine Ci h (fun h=>?_) fun h=>?_
   ·refine WA_skip ?_
    refine WA_block ?_
    refine Rgd hT 3 [0,5,6] [(6,vi (wr (i6 + 1)))] ?_
    exact oK [0,5,6] [(10005,10005,1)] ⟨_,by omega,by omega,wr (i6 + 1),h,rfl⟩
   refine WA_exit ?_
   exact eK [0,5,6] [(10005,10005,1)] ⟨_,by omega,by omega,l1,i6,h,rfl⟩
  refine WA_skip ?_
  refine Qgd hT 2 [0,5,6,47,48] [(47,vw a0),(48,vi i2)] ?_
  obtain ⟨r10,hr10,h⟩:=bsome h
  refine Pt' en47 (ref1_one_ok hr10) ?_
  refine Szh hT 6 [0,5,6,8,9] [(8,bx 8 2),(9,vi r10.2)] [(8,cb 2 66 4 (eToken r10.1)),(10005,rb 1 s_Token l1)] 3 ?_
  refine WA_seq ?_
  refine Qz hT 2 [0,5,6,8,9,53] ⟨[(0,vw a0),(5,vs 10005 1 s_Token l1),(6,vi i2),(8,bx 8 2),(9,vi r10.2),(53,vb (r10.2 == 0))],[(8,cb 2 66 4 (eToken r10.1)),(10005,rb 1 s_Token l1)],3⟩ ?_
  refine Ci h (fun h=>?_) fun h=>?_
  ·refine Qzd hT 4 [2,3,4] [(2,vn),(3,vi i2),(4,vi 2)] ?_
   refine aW [2,3,4] ⟨[(2,vn),(3,vi i2),(4,vi 2)],[(8,cb 2 66 4 (eToken r10.1)),(10005,rb 1 s_Token l1)],3⟩ ?_
   refine WA_weak (wO 2 5000 66 4) ?_
   obtain rfl:=Option.some.inj h
   exact rK [2,3,4] [(5000,100,1)] ⟨[(2,vs 100 1 s_Token ([] : List Token)),(3,vi i2),(4,vi 2)],[(100,rb 1 s_Token ([] : List Token))],2⟩ ⟨by kernel_rfl,by kernel_rfl,rfl⟩
  refine WA_skip ?_
  refine Qgh hT 3 [0,6,9,55,57] [(55,vs 10005 1 s_Token l1),(57,vs 57 3 s_Token [r10.1])] [(57,⟨3,66,4,false,false,s_Token.F [r10.1]⟩),(8,cb 2 66 4 (eToken r10.1)),(10005,rb 1 s_Token l1)] 4 ?_
  obtain ⟨g11,h⟩:=gsome h
  refine Oa hT s_Token 10005 1 true l1 [r10.1] (eO s_Token 57 3 true ⟨3,66,4,false,false,s_Token.F [r10.1]⟩ [r10.1]) g11 ?_
  refine Szh hT 1 [0,5,6,9] [(5,vs 58 4 s_Token (l1 ++ [r10.1]))] [(58,rb 4 s_Token (l1 ++ [r10.1])),(57,⟨3,66,4,false,false,s_Token.F [r10.1]⟩),(8,cb 2 66 4 (eToken r10.1))] 5 ?_
  refine Rgd hT 4 [0,5,6] [(6,vi (wr (i2 + r10.2)))] ?_
  exact oK [0,5,6] [(58,10005,1)] ⟨_,by omega,by omega,l1 ++ [r10.1],wr (i2 + r10.2),h,rfl⟩
 refine WA_exit ?_
 refine Qg hT 4 [62,65] ⟨[(62,vs 10005 1 s_Token l1),(65,vs 65 2 s_Token [(Token.mk 4 b0 0 i2)])],[(65,⟨2,66,4,false,false,s_Token.F [(Token.mk 4 b0 0 i2)]⟩),(10005,rb 1 s_Token l1)],3⟩ ?_
 obtain ⟨g12,h⟩:=gsome h
 refine Oa hT s_Token 10005 1 true l1 [(Token.mk 4 b0 0 i2)] (eO s_Token 65 2 true ⟨2,66,4,false,false,s_Token.F [(Token.mk 4 b0 0 i2)]⟩ [(Token.mk 4 b0 0 i2)]) g12 ?_
 refine Sz hT 3 [2,3,4] ⟨[(2,vs 66 3 s_Token (l1 ++ [(Token.mk 4 b0 0 i2)])),(3,vi 0),(4,vi 0)],[(66,rb 3 s_Token (l1 ++ [(Token.mk 4 b0 0 i2)])),(65,⟨2,66,4,false,false,s_Token.F [(Token.mk 4 b0 0 i2)]⟩)],4⟩ ?_
 obtain rfl:=Option.some.inj h
 exact rK [2,3,4] [(66,100,1)] ⟨[(2,vs 100 1 s_Token (l1 ++ [(Token.mk 4 b0 0 i2)])),(3,vi 0),(4,vi 0)],[(100,rb 1 s_Token (l1 ++ [(Token.mk 4 b0 0 i2)]))],2⟩ ⟨by kernel_rfl,by kernel_rfl,rfl⟩
theorem ref1_declKind_ok {n : Nat} {a0 : ByteArray} {r : Int} (h : ref1_declKind n a0 = some r) : PT Try.prog 24 [vw a0] (vi r):=by
 unfold ref1_declKind at h
 refine PT_bodyA hT Try.func24 rfl (by kernel_rfl) fun bad w=>?_
 refine Qz hT 1 [0] ⟨[(0,vw a0)],[],0⟩ ?_
 refine WA_seq ?_
 refine Qz hT 2 [0,5,6] ⟨[(0,vw a0),(5,.agg [vw k_var,vw k_wide,vw k_atomic,vw k_local,vw k_mutex,vw k_chan]),(6,vi 0)],[],0⟩ ?_
 refine WA_block ?_
 refine lK [0,5,6] [] (fun k s=>∃ q,q ≤ k ∧ q ≤ n ∧ ∃ (i1 : Int),ref1_declKind_L0 q a0 i1 = some r ∧ s = ⟨[(0,vw a0),(5,.agg [vw k_var,vw k_wide,vw k_atomic,vw k_local,vw k_mutex,vw k_chan]),(6,vi i1)],[],1⟩) n ⟨n,Nat.le_refl _,Nat.le_refl _,0,h,rfl⟩ (by rintro s ⟨q,hq,_,i1,h,_⟩; obtain rfl:=Nat.le_zero.1 hq; rw [ref1_declKind_L0] at h; cases h) ?_
 clear h
 rintro k1 s ⟨q1,hk1,hn1,i1,h,rfl⟩
 rcases q1 with _ | q1
 ·rw [ref1_declKind_L0] at h; cases h
 rw [ref1_declKind_L0] at h
 refine Qzd hT 1 [0,5,6,7] [(7,vb (decide (i1 < 6)))] ?_
 refine WA_seq ?_
 refine Ci h (fun h=>?_) fun h=>?_
 ·refine WA_skip ?_
  refine WA_seq ?_
  refine WA_block ?_
  refine Qgd hT 1 [0,5,6,8] [(8,vi i1)] ?_
  obtain ⟨x2,hx2,h⟩:=bsome h
  refine One' hT rfl (v_indexA e_s [k_var,k_wide,k_atomic,k_local,k_mutex,k_chan] .i64 i1 _ _ 9 hx2) ?_
  refine Szd hT 2 [0,3,4,5,6] [(3,vi i1),(4,vw x2)] ?_
  refine Qzd hT 3 [0,3,5,6,12] [(12,vb (bytesEq a0 x2))] ?_
  refine Ci h (fun h=>?_) fun h=>?_
  ·refine Qz hT 3 [2] ⟨[(2,vi (wr (1 + i1)))],[],1⟩ ?_
   obtain rfl:=Option.some.inj h
   exact rK [2] [] ⟨[(2,vi (wr (1 + i1)))],[],1⟩ ⟨by kernel_rfl,rfl⟩
  refine WA_skip ?_
  refine Rgd hT 2 [0,5,6] [(6,vi (wr (i1 + 1)))] ?_
  exact oK [0,5,6] [] ⟨_,by omega,by omega,wr (i1 + 1),h,rfl⟩
 refine WA_exit ?_
 refine Qz hT 1 [2] ⟨[(2,vi 0)],[],1⟩ ?_
 obtain rfl:=Option.some.inj h
 exact rK [2] [] ⟨[(2,vi 0)],[],1⟩ ⟨by kernel_rfl,rfl⟩
theorem ref1_Reader_failAt_ok {n : Nat} {a0 : Reader} {a1 : Int} {r : Reader} (h : ref1_Reader_failAt n a0 a1 = some r) : GO Try.prog 48 [(0,cb 0 64 4 (eReader a0))] [bx 0 0,vi a1] (.tup []) [(0,cb 0 64 4 (eReader r))]:=by
 unfold ref1_Reader_failAt at h
 refine GO_bodyA hT Try.func48 rfl [] (by kernel_rfl) fun bad w m=>?_
 refine Qzd hT 5 [0,1,8] [(8,vb (!a0.Fail))] ?_
 refine Ci h (fun h=>?_) fun h=>?_
 ·refine Qzh hT 4 [0,1] [] [(0,cb 0 64 4 (.agg [po s_Token a0.T,vi a0.At,vb true,vi a0.Bad]))] 1 ?_
  refine Rg hT 5 [] ⟨[],[(0,cb 0 64 4 (.agg [po s_Token a0.T,vi a0.At,vb true,vi a1]))],1⟩ ?_
  refine oW [] ⟨[],[(0,cb 0 64 4 (.agg [po s_Token a0.T,vi a0.At,vb true,vi a1]))],1⟩ ?_
  refine WO_weak (wL [] [(0,cb 0 64 4 (eReader (Reader.mk a0.T a0.At true a1)))] trivial ⟨rfl,.inr (.inl ⟨rfl,rfl,CLe.agg ⟨VLf.refl _,VLf.refl _,VLf.refl _,VLf.refl _,trivial⟩,trivial⟩),trivial⟩) ?_
  obtain rfl:=Option.some.inj h
  exact oR [(0,0,0)] (s':=⟨[],[(0,cb 0 64 4 (eReader (Reader.mk a0.T a0.At true a1)))],2⟩) ⟨by kernel_rfl,by kernel_rfl,rfl⟩
 obtain rfl:=Option.some.inj h
 exact sK [] [(0,0,0)] (s':=⟨[],[(0,cb 0 64 4 (eReader a0))],2⟩) ⟨by kernel_rfl,by kernel_rfl,rfl⟩
theorem ref1_Reader_fail_ok {n : Nat} {a0 : Reader} {r : Reader} (h : ref1_Reader_fail n a0 = some r) : GO Try.prog 25 [(0,cb 0 64 4 (eReader a0))] [bx 0 0] (.tup []) [(0,cb 0 64 4 (eReader r))]:=by
 unfold ref1_Reader_fail at h
 refine GO_bodyA hT Try.func25 rfl [] (by kernel_rfl) fun bad w m=>?_
 refine Rgd hT 5 [2,6] [(2,bx 0 0),(6,vi a0.At)] ?_
 obtain ⟨r1,hr1,h⟩:=bsome h
 refine Og [(0,cb 0 64 4 (eReader a0))] [(0,cb 0 64 4 (eReader r1))] [bx 0 0,vi a0.At] [bx 0 0,vi a0.At] [(0,0,0)] [(0,0,0)] [(0,cb 0 64 4 (eReader r1))] (.tup []) (.tup []) 2 en48 (ref1_Reader_failAt_ok hr1) ?_
 refine Sg hT 0 [] ⟨[],[(0,cb 0 64 4 (eReader r1))],2⟩ ?_
 obtain rfl:=Option.some.inj h
 exact oK [] [(0,0,0)] (s':=⟨[],[(0,cb 0 64 4 (eReader r1))],2⟩) ⟨by kernel_rfl,by kernel_rfl,rfl⟩
theorem ref1_Within_ok {n : Nat} {a0 : Int} {a1 : Int} {a2 : Int} {r : Int} (h : ref1_Within n a0 a1 a2 = some r) : PT Try.prog 75 [vi a0,vi a1,vi a2] (vi r):=by
 unfold ref1_Within at h
 refine PT_bodyA hT Try.func75 rfl (by kernel_rfl) fun bad w=>?_
 refine Qzd hT 1 [0,1,2] [] ?_
 refine Qz hT 6 [6] ⟨[(6,vi (gomax a1 (gomin a2 a0)))],[],0⟩ ?_
 obtain rfl:=Option.some.inj h
 exact rK [6] [] ⟨[(6,vi (gomax a1 (gomin a2 a0)))],[],1⟩ ⟨by kernel_rfl,rfl⟩
theorem ref1_Spot_ok {n : Nat} {a0 : ByteArray} {a1 : Int} {r : Int × Int} (h : ref1_Spot n a0 a1 = some r) : PT Try.prog 49 [vw a0,vi a1] (.tup [vi r.1,vi r.2]):=by
 unfold ref1_Spot at h
 refine PT_bodyA hT Try.func49 rfl (by kernel_rfl) fun bad w=>?_
 refine Qzd hT 2 [0,1] [] ?_
 refine Qg hT 3 [0,9,11] ⟨[(0,vw a0),(9,vi a1),(11,vi (a0.size : Int))],[],0⟩ ?_
 obtain ⟨r1,hr1,h⟩:=bsome h
 refine Pt' en75 (ref1_Within_ok hr1) ?_
 refine Sz hT 1 [0,1] ⟨[(0,vw a0),(1,vi r1)],[],0⟩ ?_
 refine Qzd hT 1 [0,1,6] [(6,vi 1)] ?_
 refine Qzd hT 1 [0,1,6,7] [(7,vi 1)] ?_
 refine WA_seq ?_
 refine Qzd hT 1 [0,1,6,7,8] [(8,vi 0)] ?_
 refine WA_block ?_
 refine lK [0,1,6,7,8] [] (fun k s=>∃ q,q ≤ k ∧ q ≤ n ∧ ∃ (i2 : Int),∃ (i3 : Int),∃ (i4 : Int),ref1_Spot_L0 q a0 a1 r1 i2 i3 i4 = some r ∧ s = ⟨[(0,vw a0),(1,vi r1),(6,vi i2),(7,vi i3),(8,vi i4)],[],1⟩) n ⟨n,Nat.le_refl _,Nat.le_refl _,1,1,0,h,rfl⟩ (by rintro s ⟨q,hq,_,i2,i3,i4,h,_⟩; obtain rfl:=Nat.le_zero.1 hq; rw [ref1_Spot_L0] at h; cases h) ?_
 clear h
 rintro k1 s ⟨q1,hk1,hn1,i2,i3,i4,h,rfl⟩
 rcases q1 with _ | q1
 ·rw [ref1_Spot_L0] at h; cases h
 rw [ref1_Spot_L0] at h
 refine WA_seq ?_
 refine Qzd hT 3 [0,1,6,7,8,15] [(15,vb (decide (i4 < r1)))] ?_
 refine Ci h (fun h=>?_) fun h=>?_
 ·refine WA_skip ?_
  refine WA_seq ?_
  obtain ⟨J7,hJ7,h⟩:=jsome h
  refine WA_join (fun s=>∃ (i5 : Int),∃ (i6 : Int),J7 i5 i6 = some r ∧ s = ⟨[(0,vw a0),(1,vi r1),(6,vi i5),(7,vi i6),(8,vi i4)],[],1⟩) ?_ ?_
  ·refine WA_block ?_
   refine Qzd hT 3 [0,1,6,7,8] [(7,vi (wr (i3 + 1)))] ?_
   refine Qgd hT 2 [0,1,6,7,8,20,21] [(20,vw a0),(21,vi i4)] ?_
   obtain ⟨x8,hx8,h⟩:=bsome h
   refine One' hT rfl (v_indexS a0 .i64 i4 hx8) ?_
   refine Sz hT 1 [0,1,6,7,8,23] ⟨[(0,vw a0),(1,vi r1),(6,vi i2),(7,vi (wr (i3 + 1))),(8,vi i4),(23,vb (x8 == 10))],[],1⟩ ?_
   refine Ci h (fun h=>?_) fun h=>?_
   ·refine Qzd hT 3 [0,1,6,8] [(6,vi (wr (i2 + 1)))] ?_
    refine Rgd hT 1 [0,1,6,7,8] [(7,vi 1)] ?_
    exact oK [0,1,6,7,8] [] ⟨wr (i2 + 1),1,h,rfl⟩
   exact sK [0,1,6,7,8] [] ⟨i2,wr (i3 + 1),h,rfl⟩
  subst hJ7
  rintro s ⟨i5,i6,h,rfl⟩
  skip
  refine Rgd hT 3 [0,1,6,7,8] [(8,vi (wr (i4 + 1)))] ?_
  exact oK [0,1,6,7,8] [] ⟨_,by omega,by omega,i5,i6,wr (i4 + 1),h,rfl⟩
 refine WA_exit ?_
 refine Qz hT 4 [4,5] ⟨[(4,vi i2),(5,vi i3)],[],1⟩ ?_
 obtain rfl:=Option.some.inj h
 exact rK [4,5] [] ⟨[(4,vi i2),(5,vi i3)],[],1⟩ ⟨by kernel_rfl,rfl⟩
theorem ref1_Place_ok {n : Nat} {a0 : ByteArray} {a1 : Int} {r : Cx} (h : ref1_Place n a0 a1 = some r) : PT Try.prog 26 [vw a0,vi a1] (vz r):=by
 unfold ref1_Place at h
 refine PT_bodyA hT Try.func26 rfl (by kernel_rfl) fun bad w=>?_
 refine Qzd hT 1 [0,1] [] ?_
 refine Qg hT 2 [8,9] ⟨[(8,vw a0),(9,vi a1)],[],0⟩ ?_
 obtain ⟨r1,hr1,h⟩:=bsome h
 refine Pt' en49 (ref1_Spot_ok hr1) ?_
 refine Sz hT 5 [5,6] ⟨[(5,vi r1.1),(6,vi r1.2)],[],0⟩ ?_
 refine Qz hT 6 [4] ⟨[(4,vz (⟨FloatKind.f64.nearest r1.1,FloatKind.f64.nearest r1.2⟩ : Cx))],[],0⟩ ?_
 obtain rfl:=Option.some.inj h
 exact rK [4] [] ⟨[(4,vz (⟨FloatKind.f64.nearest r1.1,FloatKind.f64.nearest r1.2⟩ : Cx))],[],1⟩ ⟨by kernel_rfl,rfl⟩
theorem ref1_Keyword_ok {n : Nat} {a0 : ByteArray} {r : Bool} (h : ref1_Keyword n a0 = some r) : PT Try.prog 50 [vw a0] (vb r):=by
 unfold ref1_Keyword at h
 refine PT_bodyA hT Try.func50 rfl (by kernel_rfl) fun bad w=>?_
 refine Qz hT 1 [0] ⟨[(0,vw a0)],[],0⟩ ?_
 refine WA_seq ?_
 refine Qz hT 2 [0,5,6] ⟨[(0,vw a0),(5,.agg [vw k_var,vw k_wide,vw k_atomic,vw k_local,vw k_mutex,vw k_chan,vw k_go,vw k_lock,vw k_unlock,vw k_send,vw k_recv,vw k_print,vw k_if,vw k_else,vw k_repeat,vw k_goto,vw k_label]),(6,vi 0)],[],0⟩ ?_
 refine WA_block ?_
 refine lK [0,5,6] [] (fun k s=>∃ q,q ≤ k ∧ q ≤ n ∧ ∃ (i1 : Int),ref1_Keyword_L0 q a0 i1 = some r ∧ s = ⟨[(0,vw a0),(5,.agg [vw k_var,vw k_wide,vw k_atomic,vw k_local,vw k_mutex,vw k_chan,vw k_go,vw k_lock,vw k_unlock,vw k_send,vw k_recv,vw k_print,vw k_if,vw k_else,vw k_repeat,vw k_goto,vw k_label]),(6,vi i1)],[],1⟩) n ⟨n,Nat.le_refl _,Nat.le_refl _,0,h,rfl⟩ (by rintro s ⟨q,hq,_,i1,h,_⟩; obtain rfl:=Nat.le_zero.1 hq; rw [ref1_Keyword_L0] at h; cases h) ?_
 clear h
 rintro k1 s ⟨q1,hk1,hn1,i1,h,rfl⟩
 rcases q1 with _ | q1
 ·rw [ref1_Keyword_L0] at h; cases h
 rw [ref1_Keyword_L0] at h
 refine Qzd hT 1 [0,5,6,7] [(7,vb (decide (i1 < 17)))] ?_
 refine WA_seq ?_
 refine Ci h (fun h=>?_) fun h=>?_
 ·refine WA_skip ?_
  refine WA_seq ?_
  refine WA_block ?_
  refine Qgd hT 0 [0,5,6] [] ?_
  obtain ⟨x2,hx2,h⟩:=bsome h
  refine One' hT rfl (v_indexA e_s [k_var,k_wide,k_atomic,k_local,k_mutex,k_chan,k_go,k_lock,k_unlock,k_send,k_recv,k_print,k_if,k_else,k_repeat,k_goto,k_label] .i64 i1 _ _ 9 hx2) ?_
  refine Szd hT 1 [0,4,5,6] [(4,vw x2)] ?_
  refine Qzd hT 3 [0,5,6,11] [(11,vb (bytesEq a0 x2))] ?_
  refine Ci h (fun h=>?_) fun h=>?_
  ·refine Qz hT 1 [2] ⟨[(2,vb true)],[],1⟩ ?_
   obtain rfl:=Option.some.inj h
   exact rK [2] [] ⟨[(2,vb true)],[],1⟩ ⟨by kernel_rfl,rfl⟩
  refine WA_skip ?_
  refine Rgd hT 2 [0,5,6] [(6,vi (wr (i1 + 1)))] ?_
  exact oK [0,5,6] [] ⟨_,by omega,by omega,wr (i1 + 1),h,rfl⟩
 refine WA_exit ?_
 refine Qz hT 1 [2] ⟨[(2,vb false)],[],1⟩ ?_
 obtain rfl:=Option.some.inj h
 exact rK [2] [] ⟨[(2,vb false)],[],1⟩ ⟨by kernel_rfl,rfl⟩
theorem ref1_Reader_name_ok {n : Nat} {a0 : Reader} {r : ByteArray × Reader} (h : ref1_Reader_name n a0 = some r) : GO Try.prog 27 [(0,cb 0 64 4 (eReader a0))] [bx 0 0] (vw r.1) [(0,cb 0 64 4 (eReader r.2))]:=by
 unfold ref1_Reader_name at h
 refine GO_bodyA hT Try.func27 rfl [] (by kernel_rfl) fun bad w m=>?_
 refine Qzd hT 1 [0] [] ?_
 refine WA_seq ?_
 refine WA_seq ?_
 obtain ⟨J2,hJ2,h⟩:=jsome h
 refine WA_join (fun s=>∃ (b1 : Bool),J2 b1 = some r ∧ s = ⟨[(0,bx 0 0),(34,vb b1)],[(0,cb 0 64 4 (eReader a0))],2⟩) ?_ ?_
 ·refine WA_drawW hT hM (by kernel_rfl) ?_
  refine Ds 5 [(7,vb a0.Fail),(6,vb a0.Fail),(5,.box 0 0 0 2),(4,bx 0 0),(3,bx 0 0)] [] [(1,[0]),(2,[0]),(3,[0])] ?_
  cases hb : (a0.Fail : Bool)
  ·replace h:=cfalse hb h
   refine Ds 8 [(15,vi a0.At),(14,.box 0 0 0 1),(13,bx 0 0),(12,bx 0 0),(11,po s_Token a0.T),(10,bx 0 0),(9,bx 0 0),(8,bx 0 0)] [] [(6,[0]),(7,[0]),(8,[0]),(10,[0]),(11,[0]),(12,[0])] ?_
   obtain ⟨x3,hx3,h⟩:=bsome h
   refine Dl rfl (v_index s_Token .opt a0.T .i64 a0.At hx3) ?_
   refine Dt (.ref (eToken x3) 0) ?_
   refine Ds 5 [(21,vb (x3.Kind != 1)),(20,vb (x3.Kind != 1)),(19,vb (x3.Kind != 1)),(18,vi x3.Kind),(17,.ref (eToken x3) 0)] [] [] ?_
   cases hb : ((x3.Kind != 1) : Bool)
   ·replace h:=cfalse hb h
    refine Ds 8 [(29,vi a0.At),(28,.box 0 0 0 1),(27,bx 0 0),(26,bx 0 0),(25,po s_Token a0.T),(24,bx 0 0),(23,bx 0 0),(22,bx 0 0)] [] [(20,[0]),(21,[0]),(22,[0]),(24,[0]),(25,[0]),(26,[0])] ?_
    obtain ⟨x4,hx4,h⟩:=bsome h
    refine Dl rfl (v_index s_Token .opt a0.T .i64 a0.At hx4) ?_
    refine Dt (.ref (eToken x4) 0) ?_
    refine Ds 2 [(32,vw x4.Text),(31,.ref (eToken x4) 1)] [] [] ?_
    obtain ⟨r5,hr5,h⟩:=bsome h
    refine Dp [vw x4.Text] (vb r5) en50 (ref1_Keyword_ok hr5) ?_
    refine Ds 1 [(34,vb r5)] [] [] ?_
    refine De ?_
    exact wK [0,34] [(0,0,0)] ⟨r5,h,rfl⟩
   replace h:=ctrue hb h
   refine Ds 13 [(34,vb true),(33,vU),(32,vU),(31,vU),(30,vU),(29,vU),(28,vU),(27,vU),(26,vU),(25,vU),(24,vU),(23,vU),(22,vU)] [] [] ?_
   refine De ?_
   exact wK [0,34] [(0,0,0)] ⟨true,h,rfl⟩
  replace h:=ctrue hb h
  refine Ds 27 [(34,vb true),(33,vU),(32,vU),(31,vU),(30,vU),(29,vU),(28,vU),(27,vU),(26,vU),(25,vU),(24,vU),(23,vU),(22,vU),(21,vb true),(20,vb true),(19,vU),(18,vU),(17,vU),(16,vU),(15,vU),(14,vU),(13,vU),(12,vU),(11,vU),(10,vU),(9,vU),(8,vU)] [] [] ?_
  refine De ?_
  exact wK [0,34] [(0,0,0)] ⟨true,h,rfl⟩
 subst hJ2
 rintro s ⟨b1,h,rfl⟩
 refine Ci h (fun h=>?_) fun h=>?_
 ·refine Qgd hT 1 [35] [(35,bx 0 0)] ?_
  obtain ⟨r6,hr6,h⟩:=bsome h
  refine Og [(0,cb 0 64 4 (eReader a0))] [(0,cb 0 64 4 (eReader r6))] [bx 0 0] [bx 0 0] [(0,0,0)] [(0,0,0)] [(0,cb 0 64 4 (eReader r6))] (.tup []) (.tup []) 3 en25 (ref1_Reader_fail_ok hr6) ?_
  refine Sz hT 0 [] ⟨[],[(0,cb 0 64 4 (eReader r6))],3⟩ ?_
  refine Qzd hT 1 [2] [(2,vw b0)] ?_
  obtain rfl:=Option.some.inj h
  exact rK [2] [(0,0,0)] ⟨[(2,vw b0)],[(0,cb 0 64 4 (eReader r6))],2⟩ ⟨by kernel_rfl,by kernel_rfl,rfl⟩
 refine WA_skip ?_
 refine Qz hT 8 [0] ⟨[(0,bx 0 0)],[(0,cb 0 64 4 (.agg [po s_Token a0.T,vi (wr (a0.At + 1)),vb a0.Fail,vi a0.Bad]))],2⟩ ?_
 refine WA_seq ?_
 refine WA_drawW hT hM (by kernel_rfl) ?_
 refine Ds 9 [(52,vi (wr ((wr (a0.At + 1)) - 1))),(51,vi (wr (a0.At + 1))),(50,.box 0 0 0 1),(49,bx 0 0),(48,bx 0 0),(47,po s_Token a0.T),(46,bx 0 0),(45,bx 0 0),(44,bx 0 0)] [] [(1,[0]),(2,[0]),(3,[0]),(5,[0]),(6,[0]),(7,[0])] ?_
 obtain ⟨x7,hx7,h⟩:=bsome h
 refine Dl rfl (v_index s_Token .opt a0.T .i64 (wr ((wr (a0.At + 1)) - 1)) hx7) ?_
 refine Dt (.ref (eToken x7) 0) ?_
 refine Ds 3 [(2,vw x7.Text),(55,vw x7.Text),(54,.ref (eToken x7) 1)] [] [] ?_
 refine De ?_
 refine Wk_done ?_
 refine aW [2] ⟨[(2,vw x7.Text)],[(0,cb 0 64 4 (.agg [po s_Token a0.T,vi (wr (a0.At + 1)),vb a0.Fail,vi a0.Bad]))],2⟩ ?_
 refine WA_weak (wL [(2,vw x7.Text)] [(0,cb 0 64 4 (eReader (Reader.mk a0.T (wr (a0.At + 1)) a0.Fail a0.Bad)))] ⟨VLf.refl _,trivial⟩ ⟨rfl,.inr (.inl ⟨rfl,rfl,CLe.agg ⟨VLf.refl _,VLf.refl _,VLf.refl _,VLf.refl _,trivial⟩,trivial⟩),trivial⟩) ?_
 obtain rfl:=Option.some.inj h
 exact rR [(0,0,0)] ⟨[(2,vw x7.Text)],[(0,cb 0 64 4 (eReader (Reader.mk a0.T (wr (a0.At + 1)) a0.Fail a0.Bad)))],2⟩ ⟨by kernel_rfl,by kernel_rfl,rfl⟩
theorem ref1_Reader_number_ok {n : Nat} {a0 : Reader} {a1 : Int} {r : Int × Reader} (h : ref1_Reader_number n a0 a1 = some r) : GO Try.prog 28 [(0,cb 0 64 4 (eReader a0))] [bx 0 0,vi a1] (vi r.1) [(0,cb 0 64 4 (eReader r.2))]:=by
 unfold ref1_Reader_number at h
 refine GO_bodyA hT Try.func28 rfl [] (by kernel_rfl) fun bad w m=>?_
 refine Qzd hT 1 [0,1] [] ?_
 refine WA_seq ?_
 refine WA_seq ?_
 obtain ⟨J2,hJ2,h⟩:=jsome h
 refine WA_join (fun s=>∃ (b1 : Bool),J2 b1 = some r ∧ s = ⟨[(0,bx 0 0),(37,vb b1)],[(0,cb 0 64 4 (eReader a0))],2⟩) ?_ ?_
 ·refine WA_drawW hT hM (by kernel_rfl) ?_
  refine Ds 5 [(9,vb a0.Fail),(8,vb a0.Fail),(7,.box 0 0 0 2),(6,bx 0 0),(5,bx 0 0)] [] [(1,[0]),(2,[0]),(3,[0])] ?_
  cases hb : (a0.Fail : Bool)
  ·replace h:=cfalse hb h
   refine Ds 8 [(17,vi a0.At),(16,.box 0 0 0 1),(15,bx 0 0),(14,bx 0 0),(13,po s_Token a0.T),(12,bx 0 0),(11,bx 0 0),(10,bx 0 0)] [] [(6,[0]),(7,[0]),(8,[0]),(10,[0]),(11,[0]),(12,[0])] ?_
   obtain ⟨x3,hx3,h⟩:=bsome h
   refine Dl rfl (v_index s_Token .opt a0.T .i64 a0.At hx3) ?_
   refine Dt (.ref (eToken x3) 0) ?_
   refine Ds 5 [(23,vb (x3.Kind != 2)),(22,vb (x3.Kind != 2)),(21,vb (x3.Kind != 2)),(20,vi x3.Kind),(19,.ref (eToken x3) 0)] [] [] ?_
   cases hb : ((x3.Kind != 2) : Bool)
   ·replace h:=cfalse hb h
    refine Ds 8 [(31,vi a0.At),(30,.box 0 0 0 1),(29,bx 0 0),(28,bx 0 0),(27,po s_Token a0.T),(26,bx 0 0),(25,bx 0 0),(24,bx 0 0)] [] [(20,[0]),(21,[0]),(22,[0]),(24,[0]),(25,[0]),(26,[0])] ?_
    obtain ⟨x4,hx4,h⟩:=bsome h
    refine Dl rfl (v_index s_Token .opt a0.T .i64 a0.At hx4) ?_
    refine Dt (.ref (eToken x4) 0) ?_
    refine Ds 5 [(37,vb (decide (x4.N > a1))),(36,vb (decide (x4.N > a1))),(35,vi a1),(34,vi x4.N),(33,.ref (eToken x4) 2)] [] [] ?_
    refine De ?_
    exact wK [0,37] [(0,0,0)] ⟨decide (x4.N > a1),h,rfl⟩
   replace h:=ctrue hb h
   refine Ds 14 [(37,vb true),(36,vU),(35,vU),(34,vU),(33,vU),(32,vU),(31,vU),(30,vU),(29,vU),(28,vU),(27,vU),(26,vU),(25,vU),(24,vU)] [] [] ?_
   refine De ?_
   exact wK [0,37] [(0,0,0)] ⟨true,h,rfl⟩
  replace h:=ctrue hb h
  refine Ds 28 [(37,vb true),(36,vU),(35,vU),(34,vU),(33,vU),(32,vU),(31,vU),(30,vU),(29,vU),(28,vU),(27,vU),(26,vU),(25,vU),(24,vU),(23,vb true),(22,vb true),(21,vU),(20,vU),(19,vU),(18,vU),(17,vU),(16,vU),(15,vU),(14,vU),(13,vU),(12,vU),(11,vU),(10,vU)] [] [] ?_
  refine De ?_
  exact wK [0,37] [(0,0,0)] ⟨true,h,rfl⟩
 subst hJ2
 rintro s ⟨b1,h,rfl⟩
 refine Ci h (fun h=>?_) fun h=>?_
 ·refine Qgd hT 1 [38] [(38,bx 0 0)] ?_
  obtain ⟨r5,hr5,h⟩:=bsome h
  refine Og [(0,cb 0 64 4 (eReader a0))] [(0,cb 0 64 4 (eReader r5))] [bx 0 0] [bx 0 0] [(0,0,0)] [(0,0,0)] [(0,cb 0 64 4 (eReader r5))] (.tup []) (.tup []) 3 en25 (ref1_Reader_fail_ok hr5) ?_
  refine Sz hT 0 [] ⟨[],[(0,cb 0 64 4 (eReader r5))],3⟩ ?_
  refine Qzd hT 1 [4] [(4,vi 0)] ?_
  obtain rfl:=Option.some.inj h
  exact rK [4] [(0,0,0)] ⟨[(4,vi 0)],[(0,cb 0 64 4 (eReader r5))],2⟩ ⟨by kernel_rfl,by kernel_rfl,rfl⟩
 refine WA_skip ?_
 refine Qz hT 8 [0] ⟨[(0,bx 0 0)],[(0,cb 0 64 4 (.agg [po s_Token a0.T,vi (wr (a0.At + 1)),vb a0.Fail,vi a0.Bad]))],2⟩ ?_
 refine WA_seq ?_
 refine WA_drawW hT hM (by kernel_rfl) ?_
 refine Ds 9 [(55,vi (wr ((wr (a0.At + 1)) - 1))),(54,vi (wr (a0.At + 1))),(53,.box 0 0 0 1),(52,bx 0 0),(51,bx 0 0),(50,po s_Token a0.T),(49,bx 0 0),(48,bx 0 0),(47,bx 0 0)] [] [(1,[0]),(2,[0]),(3,[0]),(5,[0]),(6,[0]),(7,[0])] ?_
 obtain ⟨x6,hx6,h⟩:=bsome h
 refine Dl rfl (v_index s_Token .opt a0.T .i64 (wr ((wr (a0.At + 1)) - 1)) hx6) ?_
 refine Dt (.ref (eToken x6) 0) ?_
 refine Ds 3 [(4,vi x6.N),(58,vi x6.N),(57,.ref (eToken x6) 2)] [] [] ?_
 refine De ?_
 refine Wk_done ?_
 refine aW [4] ⟨[(4,vi x6.N)],[(0,cb 0 64 4 (.agg [po s_Token a0.T,vi (wr (a0.At + 1)),vb a0.Fail,vi a0.Bad]))],2⟩ ?_
 refine WA_weak (wL [(4,vi x6.N)] [(0,cb 0 64 4 (eReader (Reader.mk a0.T (wr (a0.At + 1)) a0.Fail a0.Bad)))] ⟨VLf.refl _,trivial⟩ ⟨rfl,.inr (.inl ⟨rfl,rfl,CLe.agg ⟨VLf.refl _,VLf.refl _,VLf.refl _,VLf.refl _,trivial⟩,trivial⟩),trivial⟩) ?_
 obtain rfl:=Option.some.inj h
 exact rR [(0,0,0)] ⟨[(4,vi x6.N)],[(0,cb 0 64 4 (eReader (Reader.mk a0.T (wr (a0.At + 1)) a0.Fail a0.Bad)))],2⟩ ⟨by kernel_rfl,by kernel_rfl,rfl⟩
theorem ref1_Reader_word_ok {n : Nat} {a0 : Reader} {a1 : ByteArray} {r : Bool} (h : ref1_Reader_word n a0 a1 = some r) : PT Try.prog 29 [.ref (eReader a0) 0,vw a1] (vb r):=by
 unfold ref1_Reader_word at h
 refine PT_bodyA hT Try.func29 rfl (by kernel_rfl) fun bad w=>?_
 refine Qzd hT 1 [0,1] [] ?_
 refine WA_seq ?_
 obtain ⟨J2,hJ2,h⟩:=jsome h
 refine WA_join (fun s=>∃ (b1 : Bool),J2 b1 = some r ∧ s = ⟨[(4,vb b1)],[],1⟩) ?_ ?_
 ·refine WA_drawW hT hM (by kernel_rfl) ?_
  refine Ds 6 [(10,vb (!a0.Fail)),(9,vb (!a0.Fail)),(8,vb a0.Fail),(7,.ref (eReader a0) 2),(6,.ref (eReader a0) 0),(5,.ref (eReader a0) 0)] [] [] ?_
  cases hb : (!a0.Fail : Bool)
  ·replace h:=cfalse hb h
   refine Ds 29 [(4,vb false),(38,vb false),(37,vU),(36,vU),(35,vU),(34,vU),(33,vU),(32,vU),(31,vU),(30,vU),(29,vU),(28,vU),(27,vU),(26,vU),(25,vU),(24,vb false),(23,vb false),(22,vU),(21,vU),(20,vU),(19,vU),(18,vU),(17,vU),(16,vU),(15,vU),(14,vU),(13,vU),(12,vU),(11,vU)] [] [] ?_
   refine De ?_
   exact wK [4] [] ⟨false,h,rfl⟩
  replace h:=ctrue hb h
  refine Ds 8 [(18,vi a0.At),(17,.ref (eReader a0) 1),(16,.ref (eReader a0) 0),(15,.ref (eReader a0) 0),(14,po s_Token a0.T),(13,.ref (eReader a0) 0),(12,.ref (eReader a0) 0),(11,.ref (eReader a0) 0)] [] [] ?_
  obtain ⟨x3,hx3,h⟩:=bsome h
  refine Dl rfl (v_index s_Token .opt a0.T .i64 a0.At hx3) ?_
  refine Dt (.ref (eToken x3) 0) ?_
  refine Ds 5 [(24,vb (x3.Kind == 1)),(23,vb (x3.Kind == 1)),(22,vb (x3.Kind == 1)),(21,vi x3.Kind),(20,.ref (eToken x3) 0)] [] [] ?_
  cases hb : ((x3.Kind == 1) : Bool)
  ·replace h:=cfalse hb h
   refine Ds 15 [(4,vb false),(38,vb false),(37,vU),(36,vU),(35,vU),(34,vU),(33,vU),(32,vU),(31,vU),(30,vU),(29,vU),(28,vU),(27,vU),(26,vU),(25,vU)] [] [] ?_
   refine De ?_
   exact wK [4] [] ⟨false,h,rfl⟩
  replace h:=ctrue hb h
  refine Ds 8 [(32,vi a0.At),(31,.ref (eReader a0) 1),(30,.ref (eReader a0) 0),(29,.ref (eReader a0) 0),(28,po s_Token a0.T),(27,.ref (eReader a0) 0),(26,.ref (eReader a0) 0),(25,.ref (eReader a0) 0)] [] [] ?_
  obtain ⟨x4,hx4,h⟩:=bsome h
  refine Dl rfl (v_index s_Token .opt a0.T .i64 a0.At hx4) ?_
  refine Dt (.ref (eToken x4) 0) ?_
  refine Ds 6 [(4,vb (bytesEq x4.Text a1)),(38,vb (bytesEq x4.Text a1)),(37,vb (bytesEq x4.Text a1)),(36,vw a1),(35,vw x4.Text),(34,.ref (eToken x4) 1)] [] [] ?_
  refine De ?_
  exact wK [4] [] ⟨bytesEq x4.Text a1,h,rfl⟩
 subst hJ2
 rintro s ⟨b1,h,rfl⟩
 obtain rfl:=Option.some.inj h
 exact rK [4] [] ⟨[(4,vb b1)],[],1⟩ ⟨by kernel_rfl,rfl⟩
theorem ref1_Reader_sign_ok {n : Nat} {a0 : Reader} {a1 : ByteArray} {r : Bool} (h : ref1_Reader_sign n a0 a1 = some r) : PT Try.prog 52 [.ref (eReader a0) 0,vw a1] (vb r):=by
 unfold ref1_Reader_sign at h
 refine PT_bodyA hT Try.func52 rfl (by kernel_rfl) fun bad w=>?_
 refine Qzd hT 1 [0,1] [] ?_
 refine WA_seq ?_
 obtain ⟨J2,hJ2,h⟩:=jsome h
 refine WA_join (fun s=>∃ (b1 : Bool),J2 b1 = some r ∧ s = ⟨[(4,vb b1)],[],1⟩) ?_ ?_
 ·refine WA_drawW hT hM (by kernel_rfl) ?_
  refine Ds 6 [(10,vb (!a0.Fail)),(9,vb (!a0.Fail)),(8,vb a0.Fail),(7,.ref (eReader a0) 2),(6,.ref (eReader a0) 0),(5,.ref (eReader a0) 0)] [] [] ?_
  cases hb : (!a0.Fail : Bool)
  ·replace h:=cfalse hb h
   refine Ds 29 [(4,vb false),(38,vb false),(37,vU),(36,vU),(35,vU),(34,vU),(33,vU),(32,vU),(31,vU),(30,vU),(29,vU),(28,vU),(27,vU),(26,vU),(25,vU),(24,vb false),(23,vb false),(22,vU),(21,vU),(20,vU),(19,vU),(18,vU),(17,vU),(16,vU),(15,vU),(14,vU),(13,vU),(12,vU),(11,vU)] [] [] ?_
   refine De ?_
   exact wK [4] [] ⟨false,h,rfl⟩
  replace h:=ctrue hb h
  refine Ds 8 [(18,vi a0.At),(17,.ref (eReader a0) 1),(16,.ref (eReader a0) 0),(15,.ref (eReader a0) 0),(14,po s_Token a0.T),(13,.ref (eReader a0) 0),(12,.ref (eReader a0) 0),(11,.ref (eReader a0) 0)] [] [] ?_
  obtain ⟨x3,hx3,h⟩:=bsome h
  refine Dl rfl (v_index s_Token .opt a0.T .i64 a0.At hx3) ?_
  refine Dt (.ref (eToken x3) 0) ?_
  refine Ds 5 [(24,vb (x3.Kind == 3)),(23,vb (x3.Kind == 3)),(22,vb (x3.Kind == 3)),(21,vi x3.Kind),(20,.ref (eToken x3) 0)] [] [] ?_
  cases hb : ((x3.Kind == 3) : Bool)
  ·replace h:=cfalse hb h
   refine Ds 15 [(4,vb false),(38,vb false),(37,vU),(36,vU),(35,vU),(34,vU),(33,vU),(32,vU),(31,vU),(30,vU),(29,vU),(28,vU),(27,vU),(26,vU),(25,vU)] [] [] ?_
   refine De ?_
   exact wK [4] [] ⟨false,h,rfl⟩
  replace h:=ctrue hb h
  refine Ds 8 [(32,vi a0.At),(31,.ref (eReader a0) 1),(30,.ref (eReader a0) 0),(29,.ref (eReader a0) 0),(28,po s_Token a0.T),(27,.ref (eReader a0) 0),(26,.ref (eReader a0) 0),(25,.ref (eReader a0) 0)] [] [] ?_
  obtain ⟨x4,hx4,h⟩:=bsome h
  refine Dl rfl (v_index s_Token .opt a0.T .i64 a0.At hx4) ?_
  refine Dt (.ref (eToken x4) 0) ?_
  refine Ds 6 [(4,vb (bytesEq x4.Text a1)),(38,vb (bytesEq x4.Text a1)),(37,vb (bytesEq x4.Text a1)),(36,vw a1),(35,vw x4.Text),(34,.ref (eToken x4) 1)] [] [] ?_
  refine De ?_
  exact wK [4] [] ⟨bytesEq x4.Text a1,h,rfl⟩
 subst hJ2
 rintro s ⟨b1,h,rfl⟩
 obtain rfl:=Option.some.inj h
 exact rK [4] [] ⟨[(4,vb b1)],[],1⟩ ⟨by kernel_rfl,rfl⟩
theorem ref1_Reader_must_ok {n : Nat} {a0 : Reader} {a1 : ByteArray} {r : Reader} (h : ref1_Reader_must n a0 a1 = some r) : GO Try.prog 51 [(0,cb 0 64 4 (eReader a0))] [bx 0 0,vw a1] (.tup []) [(0,cb 0 64 4 (eReader r))]:=by
 unfold ref1_Reader_must at h
 refine GO_bodyA hT Try.func51 rfl [] (by kernel_rfl) fun bad w m=>?_
 refine WA_seq ?_
 refine Qgd hT 2 [0,4,5] [(4,bx 0 0),(5,vw a1)] ?_
 obtain ⟨r1,hr1,h⟩:=bsome h
 refine Ob [0] [bx 0 0,vw a1] [.ref (eReader a0) 0,vw a1] (vb r1) en52 (ref1_Reader_sign_ok hr1) ?_
 refine Szd hT 1 [0,7] [(7,vb (!r1))] ?_
 refine Ci h (fun h=>?_) fun h=>?_
 ·refine Qgd hT 1 [8] [(8,bx 0 0)] ?_
  obtain ⟨r2,hr2,h⟩:=bsome h
  refine Og [(0,cb 0 64 4 (eReader a0))] [(0,cb 0 64 4 (eReader r2))] [bx 0 0] [bx 0 0] [(0,0,0)] [(0,0,0)] [(0,cb 0 64 4 (eReader r2))] (.tup []) (.tup []) 2 en25 (ref1_Reader_fail_ok hr2) ?_
  refine Sz hT 0 [] ⟨[],[(0,cb 0 64 4 (eReader r2))],2⟩ ?_
  obtain rfl:=Option.some.inj h
  exact rK [] [(0,0,0)] ⟨[],[(0,cb 0 64 4 (eReader r2))],2⟩ ⟨by kernel_rfl,by kernel_rfl,rfl⟩
 refine WA_skip ?_
 refine Rg hT 8 [] ⟨[],[(0,cb 0 64 4 (.agg [po s_Token a0.T,vi (wr (a0.At + 1)),vb a0.Fail,vi a0.Bad]))],1⟩ ?_
 refine oW [] ⟨[],[(0,cb 0 64 4 (.agg [po s_Token a0.T,vi (wr (a0.At + 1)),vb a0.Fail,vi a0.Bad]))],1⟩ ?_
 refine WO_weak (wL [] [(0,cb 0 64 4 (eReader (Reader.mk a0.T (wr (a0.At + 1)) a0.Fail a0.Bad)))] trivial ⟨rfl,.inr (.inl ⟨rfl,rfl,CLe.agg ⟨VLf.refl _,VLf.refl _,VLf.refl _,VLf.refl _,trivial⟩,trivial⟩),trivial⟩) ?_
 obtain rfl:=Option.some.inj h
 exact oR [(0,0,0)] (s':=⟨[],[(0,cb 0 64 4 (eReader (Reader.mk a0.T (wr (a0.At + 1)) a0.Fail a0.Bad)))],2⟩) ⟨by kernel_rfl,by kernel_rfl,rfl⟩
theorem ref1_binary_ok {n : Nat} {a0 : Int} {a1 : Expr} {a2 : Expr} {r : Expr} (h : ref1_binary n a0 a1 a2 = some r) : PT Try.prog 94 [vi a0,eExpr a1,eExpr a2] (eExpr r):=by
 unfold ref1_binary at h
 refine PT_bodyA hT Try.func94 rfl (by kernel_rfl) fun bad w=>?_
 refine Qz hT 3 [0,4,5,6] ⟨[(0,vi a0),(4,bx 4 0),(5,bx 5 1),(6,bx 6 2)],[(6,cb 2 93 4 (.agg [vi 0,vi 0,vw b0,vn])),(5,cb 1 93 4 (eExpr a2)),(4,cb 0 93 4 (eExpr a1))],3⟩ ?_
 refine Qgd hT 3 [6,7,8,9] [(7,vi a0),(8,eExpr a1),(9,eExpr a2)] ?_
 refine One' hT rfl (ev_bslice s_Expr 10 [a1,a2] (by kernel_rfl)) ?_
 refine Sgh hT 0 [6,7,10] [(10,vs 10 3 s_Expr [a1,a2])] [(10,⟨3,93,4,false,false,s_Expr.F [a1,a2]⟩),(6,cb 2 93 4 (.agg [vi 0,vi 0,vw b0,vn])),(5,cb 1 93 4 (eExpr a2)),(4,cb 0 93 4 (eExpr a1))] 4 ?_
 refine WO_weak (wF 10 3 ⟨3,93,4,false,false,s_Expr.F [a1,a2]⟩ [(6,bx 6 2),(7,vi a0),(10,po s_Expr [a1,a2])] [(6,cb 2 93 4 (.agg [vi 0,vi 0,vw b0,vn])),(5,cb 1 93 4 (eExpr a2)),(4,cb 0 93 4 (eExpr a1))] ⟨rfl,.keep _,rfl,.keep _,rfl,.hit true,trivial⟩ ⟨rfl,.inl rfl,rfl,.inl rfl,rfl,.inl rfl,trivial⟩) ?_
 refine Sz hT 2 [6] ⟨[(6,bx 6 2)],[(6,cb 2 93 4 (.agg [vi a0,vi 0,vw b0,po s_Expr [a1,a2]])),(5,cb 1 93 4 (eExpr a2)),(4,cb 0 93 4 (eExpr a1))],4⟩ ?_
 refine aW [6] ⟨[(6,bx 6 2)],[(6,cb 2 93 4 (.agg [vi a0,vi 0,vw b0,po s_Expr [a1,a2]])),(5,cb 1 93 4 (eExpr a2)),(4,cb 0 93 4 (eExpr a1))],4⟩ ?_
 refine WA_weak (wL [(6,bx 6 2)] [(6,cb 2 93 4 (eExpr (Expr.mk a0 0 b0 [a1,a2]))),(5,cb 1 93 4 (eExpr a2)),(4,cb 0 93 4 (eExpr a1))] ⟨VLf.refl _,trivial⟩ ⟨rfl,.inr (.inl ⟨rfl,rfl,CLe.agg ⟨VLf.refl _,VLf.refl _,VLf.refl _,VLf.refl _,trivial⟩,trivial⟩),rfl,.inl rfl,rfl,.inl rfl,trivial⟩) ?_
 obtain rfl:=Option.some.inj h
 exact rR [(6,1000,0)] ⟨[(6,bx 1000 0)],[(1000,cb 0 93 4 (eExpr (Expr.mk a0 0 b0 [a1,a2])))],1⟩ ⟨by kernel_rfl,rfl⟩
def ref1_Reader_factor_spec (n : Nat) : Prop:=(∀ {a0 : Reader} {a1 : Int} {r : Expr × Reader},ref1_Reader_factor n a0 a1 = some r → GO Try.prog 96 [(0,cb 0 64 4 (eReader a0))] [bx 0 0,vi a1] (eExpr r.1) [(0,cb 0 64 4 (eReader r.2))]) ∧ (∀ {a0 : Reader} {a1 : Int} {r : Expr × Reader},ref1_Reader_term n a0 a1 = some r → GO Try.prog 95 [(0,cb 0 64 4 (eReader a0))] [bx 0 0,vi a1] (eExpr r.1) [(0,cb 0 64 4 (eReader r.2))]) ∧ (∀ {a0 : Reader} {a1 : Int} {r : Expr × Reader},ref1_Reader_sum n a0 a1 = some r → GO Try.prog 93 [(0,cb 0 64 4 (eReader a0))] [bx 0 0,vi a1] (eExpr r.1) [(0,cb 0 64 4 (eReader r.2))]) ∧ (∀ {a0 : Reader} {a1 : Int} {r : Expr × Reader},ref1_Reader_expr n a0 a1 = some r → GO Try.prog 89 [(0,cb 0 64 4 (eReader a0))] [bx 0 0,vi a1] (eExpr r.1) [(0,cb 0 64 4 (eReader r.2))])
theorem ref1_Reader_factor_step (n : Nat) (ih : ∀ m,m < n → ref1_Reader_factor_spec m) : ∀ {a0 : Reader} {a1 : Int} {r : Expr × Reader},ref1_Reader_factor n a0 a1 = some r → GO Try.prog 96 [(0,cb 0 64 4 (eReader a0))] [bx 0 0,vi a1] (eExpr r.1) [(0,cb 0 64 4 (eReader r.2))]:=by
 intro a0 a1 r h
 rcases n with _ | n
 ·rw [ref1_Reader_factor] at h; cases h
 rw [ref1_Reader_factor] at h
 refine GO_bodyA hT Try.func96 rfl [1000] (by kernel_rfl) fun bad w m=>?_
 refine Qzh hT 1 [0,1,4] [(4,bx 4 1)] [(4,cb 1 93 4 (.agg [vi 0,vi 0,vw b0,vn])),(0,cb 0 64 4 (eReader a0))] 2 ?_
 refine WA_seq ?_
 refine Qzd hT 4 [0,1,4,10] [(10,vb a0.Fail)] ?_
 refine Ci h (fun h=>?_) fun h=>?_
 ·refine Qzd hT 2 [4] [] ?_
  refine aW [4] ⟨[(4,bx 4 1)],[(4,cb 1 93 4 (.agg [vi 0,vi 0,vw b0,vn])),(0,cb 0 64 4 (eReader a0))],2⟩ ?_
  refine WA_weak (wL [(4,bx 4 1)] [(4,cb 1 93 4 (eExpr (Expr.mk 0 0 b0 []))),(0,cb 0 64 4 (eReader a0))] ⟨VLf.refl _,trivial⟩ ⟨rfl,.inr (.inl ⟨rfl,rfl,CLe.agg ⟨VLf.refl _,VLf.refl _,VLf.refl _,(VLe.f VLe.nil_opt rfl),trivial⟩,trivial⟩),rfl,.inl rfl,trivial⟩) ?_
  obtain rfl:=Option.some.inj h
  exact rR [(0,0,0),(4,1000,1)] ⟨[(4,bx 1000 1)],[(0,cb 0 64 4 (eReader a0)),(1000,cb 1 93 4 (eExpr (Expr.mk 0 0 b0 [])))],2⟩ ⟨by kernel_rfl,by kernel_rfl,rfl⟩
 refine WA_skip ?_
 refine WA_seq ?_
 refine WA_drawW hT hM (by kernel_rfl) ?_
 refine Ds 8 [(19,vi a0.At),(18,.box 0 0 0 1),(17,bx 0 0),(16,bx 0 0),(15,po s_Token a0.T),(14,bx 0 0),(13,bx 0 0),(12,bx 0 0)] [] [(1,[0]),(2,[0]),(3,[0]),(5,[0]),(6,[0]),(7,[0])] ?_
 obtain ⟨x1,hx1,h⟩:=bsome h
 refine Dl rfl (v_index s_Token .opt a0.T .i64 a0.At hx1) ?_
 refine Dt (.ref (eToken x1) 0) ?_
 refine Dh 3 [(5,bx 5 2),(21,eToken x1)] [(5,cb 2 66 4 (eToken x1)),(4,cb 1 93 4 (.agg [vi 0,vi 0,vw b0,vn])),(0,cb 0 64 4 (eReader a0))] 3 [(10,[5]),(11,[5])] [] ?_
 refine De ?_
 refine Wk_done ?_
 refine WA_seq ?_
 refine WA_block ?_
 refine Qzd hT 4 [0,1,4,5,22] [(22,vb (x1.Kind == 2))] ?_
 refine Ci h (fun h=>?_) fun h=>?_
 ·refine Qzh hT 8 [4,5] [] [(0,cb 0 64 4 (.agg [po s_Token a0.T,vi (wr (a0.At + 1)),vb a0.Fail,vi a0.Bad])),(5,cb 2 66 4 (eToken x1)),(4,cb 1 93 4 (.agg [vi 0,vi 0,vw b0,vn]))] 3 ?_
  refine Qz hT 4 [4] ⟨[(4,bx 4 1)],[(4,cb 1 93 4 (.agg [vi 1,vi x1.N,vw b0,vn])),(0,cb 0 64 4 (.agg [po s_Token a0.T,vi (wr (a0.At + 1)),vb a0.Fail,vi a0.Bad])),(5,cb 2 66 4 (eToken x1))],3⟩ ?_
  refine aW [4] ⟨[(4,bx 4 1)],[(4,cb 1 93 4 (.agg [vi 1,vi x1.N,vw b0,vn])),(0,cb 0 64 4 (.agg [po s_Token a0.T,vi (wr (a0.At + 1)),vb a0.Fail,vi a0.Bad])),(5,cb 2 66 4 (eToken x1))],3⟩ ?_
  refine WA_weak (wL [(4,bx 4 1)] [(4,cb 1 93 4 (eExpr (Expr.mk 1 x1.N b0 []))),(0,cb 0 64 4 (eReader (Reader.mk a0.T (wr (a0.At + 1)) a0.Fail a0.Bad))),(5,cb 2 66 4 (eToken x1))] ⟨VLf.refl _,trivial⟩ ⟨rfl,.inr (.inl ⟨rfl,rfl,CLe.agg ⟨VLf.refl _,VLf.refl _,VLf.refl _,(VLe.f VLe.nil_opt rfl),trivial⟩,trivial⟩),rfl,.inr (.inl ⟨rfl,rfl,CLe.agg ⟨VLf.refl _,VLf.refl _,VLf.refl _,VLf.refl _,trivial⟩,trivial⟩),rfl,.inl rfl,trivial⟩) ?_
  obtain rfl:=Option.some.inj h
  exact rR [(0,0,0),(4,1000,1)] ⟨[(4,bx 1000 1)],[(0,cb 0 64 4 (eReader (Reader.mk a0.T (wr (a0.At + 1)) a0.Fail a0.Bad))),(1000,cb 1 93 4 (eExpr (Expr.mk 1 x1.N b0 [])))],2⟩ ⟨by kernel_rfl,by kernel_rfl,rfl⟩
 refine WA_seq ?_
 obtain ⟨J4,hJ4,h⟩:=jsome h
 refine WA_join (fun s=>∃ (w2 : ByteArray),∃ (b3 : Bool),J4 w2 b3 = some r ∧ s = ⟨[(0,bx 0 0),(1,vi a1),(4,bx 4 1),(5,bx 5 1),(36,vb b3)],[(0,cb 0 64 4 (eReader a0)),(4,cb 1 93 4 (.agg [vi 0,vi 0,vw w2,vn])),(5,cb 1 66 4 (eToken x1))],2⟩) ?_ ?_
 ·refine Rgd hT 4 [0,1,4,5,40] [(40,vb (x1.Kind == 1))] ?_
  cases hb : ((x1.Kind == 1) : Bool)
  ·replace h:=cfalse hb h
   refine Sgd hT 6 [0,1,4,5,36] [(36,vb false)] ?_
   exact oK [0,1,4,5,36] [(0,0,0),(4,4,1),(5,5,1)] ⟨b0,false,h,rfl⟩
  replace h:=ctrue hb h
  refine Sgd hT 2 [0,1,4,5,40,42] [(42,vw x1.Text)] ?_
  obtain ⟨r5,hr5,h⟩:=bsome h
  refine Pt' en50 (ref1_Keyword_ok hr5) ?_
  refine Sgd hT 3 [0,1,4,5,36] [(36,vb (!r5))] ?_
  exact oK [0,1,4,5,36] [(0,0,0),(4,4,1),(5,5,1)] ⟨b0,!r5,h,rfl⟩
 subst hJ4
 rintro s ⟨w2,b3,h,rfl⟩
 refine Ci h (fun h=>?_) fun h=>?_
 ·refine Qz hT 8 [4,5] ⟨[(4,bx 4 1),(5,bx 5 1)],[(0,cb 0 64 4 (.agg [po s_Token a0.T,vi (wr (a0.At + 1)),vb a0.Fail,vi a0.Bad])),(4,cb 1 93 4 (.agg [vi 0,vi 0,vw w2,vn])),(5,cb 1 66 4 (eToken x1))],2⟩ ?_
  refine Qz hT 4 [4] ⟨[(4,bx 4 1)],[(4,cb 1 93 4 (.agg [vi 2,vi 0,vw x1.Text,vn])),(0,cb 0 64 4 (.agg [po s_Token a0.T,vi (wr (a0.At + 1)),vb a0.Fail,vi a0.Bad])),(5,cb 1 66 4 (eToken x1))],2⟩ ?_
  refine aW [4] ⟨[(4,bx 4 1)],[(4,cb 1 93 4 (.agg [vi 2,vi 0,vw x1.Text,vn])),(0,cb 0 64 4 (.agg [po s_Token a0.T,vi (wr (a0.At + 1)),vb a0.Fail,vi a0.Bad])),(5,cb 1 66 4 (eToken x1))],2⟩ ?_
  refine WA_weak (wL [(4,bx 4 1)] [(4,cb 1 93 4 (eExpr (Expr.mk 2 0 x1.Text []))),(0,cb 0 64 4 (eReader (Reader.mk a0.T (wr (a0.At + 1)) a0.Fail a0.Bad))),(5,cb 1 66 4 (eToken x1))] ⟨VLf.refl _,trivial⟩ ⟨rfl,.inr (.inl ⟨rfl,rfl,CLe.agg ⟨VLf.refl _,VLf.refl _,VLf.refl _,(VLe.f VLe.nil_opt rfl),trivial⟩,trivial⟩),rfl,.inr (.inl ⟨rfl,rfl,CLe.agg ⟨VLf.refl _,VLf.refl _,VLf.refl _,VLf.refl _,trivial⟩,trivial⟩),rfl,.inl rfl,trivial⟩) ?_
  obtain rfl:=Option.some.inj h
  exact rR [(0,0,0),(4,1000,1)] ⟨[(4,bx 1000 1)],[(0,cb 0 64 4 (eReader (Reader.mk a0.T (wr (a0.At + 1)) a0.Fail a0.Bad))),(1000,cb 1 93 4 (eExpr (Expr.mk 2 0 x1.Text [])))],2⟩ ⟨by kernel_rfl,by kernel_rfl,rfl⟩
 refine WA_seq ?_
 obtain ⟨J7,hJ7,h⟩:=jsome h
 refine WA_join (fun s=>∃ (b6 : Bool),J7 b6 = some r ∧ s = ⟨[(0,bx 0 0),(1,vi a1),(4,bx 4 1),(56,vb b6)],[(0,cb 0 64 4 (eReader a0)),(4,cb 1 93 4 (.agg [vi 0,vi 0,vw w2,vn]))],2⟩) ?_ ?_
 ·refine Rgd hT 1 [0,1,4,57] [(57,bx 0 0)] ?_
  obtain ⟨r8,hr8,h⟩:=bsome h
  refine Ob [0] [bx 0 0,vw x_2d] [.ref (eReader a0) 0,vw x_2d] (vb r8) en52 (ref1_Reader_sign_ok hr8) ?_
  refine Sgd hT 1 [0,1,4,59] [(59,vb r8)] ?_
  cases hb : (r8 : Bool)
  ·replace h:=cfalse hb h
   refine Sgd hT 4 [0,1,4,56] [(56,vb false)] ?_
   exact oK [0,1,4,56] [(0,0,0),(4,4,1)] ⟨false,h,rfl⟩
  replace h:=ctrue hb h
  refine Sgd hT 4 [0,1,4,56] [(56,vb (decide (a1 < 8)))] ?_
  exact oK [0,1,4,56] [(0,0,0),(4,4,1)] ⟨decide (a1 < 8),h,rfl⟩
 subst hJ7
 rintro s ⟨b6,h,rfl⟩
 refine Ci h (fun h=>?_) fun h=>?_
 ·refine Qz hT 8 [0,1,4] ⟨[(0,bx 0 0),(1,vi a1),(4,bx 4 1)],[(0,cb 0 64 4 (.agg [po s_Token a0.T,vi (wr (a0.At + 1)),vb a0.Fail,vi a0.Bad])),(4,cb 1 93 4 (.agg [vi 0,vi 0,vw w2,vn]))],2⟩ ?_
  refine Qgd hT 3 [4,70,72] [(70,bx 0 0),(72,vi (wr (a1 + 1)))] ?_
  obtain ⟨r9,hr9,h⟩:=bsome h
  refine Og [(0,cb 0 64 4 (eReader (Reader.mk a0.T (wr (a0.At + 1)) a0.Fail a0.Bad)))] [(0,cb 0 64 4 (eReader r9.2))] [bx 0 0,vi (wr (a1 + 1))] [bx 0 0,vi (wr (a1 + 1))] [(0,0,0)] [(0,0,0)] [(0,cb 0 64 4 (eReader r9.2))] (eExpr r9.1) (eExpr r9.1) 3 en96 ((ih _ (by omega)).1 hr9) ?_
  refine Sg hT 0 [4,73] ⟨[(4,bx 4 1),(73,eExpr r9.1)],[(0,cb 0 64 4 (eReader r9.2)),(4,cb 1 93 4 (.agg [vi 0,vi 0,vw w2,vn]))],3⟩ ?_
  refine One' hT rfl (ev_bslice s_Expr 74 [r9.1] (by kernel_rfl)) ?_
  refine Sg hT 0 [4,74] ⟨[(4,bx 4 1),(74,vs 74 3 s_Expr [r9.1])],[(74,⟨3,93,4,false,false,s_Expr.F [r9.1]⟩),(0,cb 0 64 4 (eReader r9.2)),(4,cb 1 93 4 (.agg [vi 0,vi 0,vw w2,vn]))],4⟩ ?_
  refine WO_weak (wF 74 3 ⟨3,93,4,false,false,s_Expr.F [r9.1]⟩ [(4,bx 4 1),(74,po s_Expr [r9.1])] [(0,cb 0 64 4 (eReader r9.2)),(4,cb 1 93 4 (.agg [vi 0,vi 0,vw w2,vn]))] ⟨rfl,.keep _,rfl,.hit true,trivial⟩ ⟨rfl,.inl rfl,rfl,.inl rfl,trivial⟩) ?_
  refine Sz hT 2 [4] ⟨[(4,bx 4 1)],[(4,cb 1 93 4 (.agg [vi 3,vi 0,vw b0,po s_Expr [r9.1]])),(0,cb 0 64 4 (eReader r9.2))],4⟩ ?_
  refine aW [4] ⟨[(4,bx 4 1)],[(4,cb 1 93 4 (.agg [vi 3,vi 0,vw b0,po s_Expr [r9.1]])),(0,cb 0 64 4 (eReader r9.2))],4⟩ ?_
  refine WA_weak (wL [(4,bx 4 1)] [(4,cb 1 93 4 (eExpr (Expr.mk 3 0 b0 [r9.1]))),(0,cb 0 64 4 (eReader r9.2))] ⟨VLf.refl _,trivial⟩ ⟨rfl,.inr (.inl ⟨rfl,rfl,CLe.agg ⟨VLf.refl _,VLf.refl _,VLf.refl _,VLf.refl _,trivial⟩,trivial⟩),rfl,.inl rfl,trivial⟩) ?_
  obtain rfl:=Option.some.inj h
  exact rR [(0,0,0),(4,1000,1)] ⟨[(4,bx 1000 1)],[(0,cb 0 64 4 (eReader r9.2)),(1000,cb 1 93 4 (eExpr (Expr.mk 3 0 b0 [r9.1])))],2⟩ ⟨by kernel_rfl,by kernel_rfl,rfl⟩
 refine WA_seq ?_
 obtain ⟨J11,hJ11,h⟩:=jsome h
 refine WA_join (fun s=>∃ (b10 : Bool),J11 b10 = some r ∧ s = ⟨[(0,bx 0 0),(1,vi a1),(4,bx 4 1),(76,vb b10)],[(0,cb 0 64 4 (eReader a0)),(4,cb 1 93 4 (.agg [vi 0,vi 0,vw w2,vn]))],2⟩) ?_ ?_
 ·refine Rgd hT 1 [0,1,4,77] [(77,bx 0 0)] ?_
  obtain ⟨r12,hr12,h⟩:=bsome h
  refine Ob [0] [bx 0 0,vw x_28] [.ref (eReader a0) 0,vw x_28] (vb r12) en52 (ref1_Reader_sign_ok hr12) ?_
  refine Sgd hT 1 [0,1,4,79] [(79,vb r12)] ?_
  cases hb : (r12 : Bool)
  ·replace h:=cfalse hb h
   refine Sgd hT 4 [0,1,4,76] [(76,vb false)] ?_
   exact oK [0,1,4,76] [(0,0,0),(4,4,1)] ⟨false,h,rfl⟩
  replace h:=ctrue hb h
  refine Sgd hT 4 [0,1,4,76] [(76,vb (decide (a1 < 8)))] ?_
  exact oK [0,1,4,76] [(0,0,0),(4,4,1)] ⟨decide (a1 < 8),h,rfl⟩
 subst hJ11
 rintro s ⟨b10,h,rfl⟩
 refine Ci h (fun h=>?_) fun h=>?_
 ·refine Qz hT 8 [0,1,4] ⟨[(0,bx 0 0),(1,vi a1),(4,bx 4 1)],[(0,cb 0 64 4 (.agg [po s_Token a0.T,vi (wr (a0.At + 1)),vb a0.Fail,vi a0.Bad])),(4,cb 1 93 4 (.agg [vi 0,vi 0,vw w2,vn]))],2⟩ ?_
  refine Qgd hT 3 [0,4,90,92] [(90,bx 0 0),(92,vi (wr (a1 + 1)))] ?_
  obtain ⟨r13,hr13,h⟩:=bsome h
  refine Og [(0,cb 0 64 4 (eReader (Reader.mk a0.T (wr (a0.At + 1)) a0.Fail a0.Bad)))] [(0,cb 0 64 4 (eReader r13.2))] [bx 0 0,vi (wr (a1 + 1))] [bx 0 0,vi (wr (a1 + 1))] [(0,0,0)] [(0,0,0)] [(0,cb 0 64 4 (eReader r13.2))] (eExpr r13.1) (eExpr r13.1) 3 en89 ((ih _ (by omega)).2.2.2 hr13) ?_
  refine Szh hT 2 [0,4,6] [(6,bx 6 3)] [(6,cb 3 93 4 (eExpr r13.1)),(0,cb 0 64 4 (eReader r13.2)),(4,cb 1 93 4 (.agg [vi 0,vi 0,vw w2,vn]))] 4 ?_
  refine Qgd hT 1 [4,6,94] [(94,bx 0 0)] ?_
  obtain ⟨r14,hr14,h⟩:=bsome h
  refine Og [(0,cb 0 64 4 (eReader r13.2))] [(0,cb 0 64 4 (eReader r14))] [bx 0 0,vw x_29] [bx 0 0,vw x_29] [(0,0,0)] [(0,0,0)] [(0,cb 0 64 4 (eReader r14))] (.tup []) (.tup []) 5 en51 (ref1_Reader_must_ok hr14) ?_
  refine Szh hT 0 [4,6] [] [(0,cb 0 64 4 (eReader r14)),(6,cb 3 93 4 (eExpr r13.1)),(4,cb 1 93 4 (.agg [vi 0,vi 0,vw w2,vn]))] 5 ?_
  refine Qz hT 2 [4] ⟨[(4,bx 4 1)],[(4,cb 1 93 4 (eExpr r13.1)),(0,cb 0 64 4 (eReader r14)),(6,cb 3 93 4 (eExpr r13.1))],5⟩ ?_
  obtain rfl:=Option.some.inj h
  exact rK [4] [(0,0,0),(4,1000,1)] ⟨[(4,bx 1000 1)],[(0,cb 0 64 4 (eReader r14)),(1000,cb 1 93 4 (eExpr r13.1))],2⟩ ⟨by kernel_rfl,by kernel_rfl,rfl⟩
 refine WA_skip ?_
 refine Qgd hT 1 [4,97] [(97,bx 0 0)] ?_
 obtain ⟨r15,hr15,h⟩:=bsome h
 refine Og [(0,cb 0 64 4 (eReader a0))] [(0,cb 0 64 4 (eReader r15))] [bx 0 0] [bx 0 0] [(0,0,0)] [(0,0,0)] [(0,cb 0 64 4 (eReader r15))] (.tup []) (.tup []) 3 en25 (ref1_Reader_fail_ok hr15) ?_
 refine Sz hT 0 [4] ⟨[(4,bx 4 1)],[(0,cb 0 64 4 (eReader r15)),(4,cb 1 93 4 (.agg [vi 0,vi 0,vw w2,vn]))],3⟩ ?_
 refine Qz hT 2 [4] ⟨[(4,bx 4 1)],[(4,cb 1 93 4 (.agg [vi 0,vi 0,vw b0,vn])),(0,cb 0 64 4 (eReader r15))],3⟩ ?_
 refine aW [4] ⟨[(4,bx 4 1)],[(4,cb 1 93 4 (.agg [vi 0,vi 0,vw b0,vn])),(0,cb 0 64 4 (eReader r15))],3⟩ ?_
 refine WA_weak (wL [(4,bx 4 1)] [(4,cb 1 93 4 (eExpr (Expr.mk 0 0 b0 []))),(0,cb 0 64 4 (eReader r15))] ⟨VLf.refl _,trivial⟩ ⟨rfl,.inr (.inl ⟨rfl,rfl,CLe.agg ⟨VLf.refl _,VLf.refl _,VLf.refl _,(VLe.f VLe.nil_opt rfl),trivial⟩,trivial⟩),rfl,.inl rfl,trivial⟩) ?_
 obtain rfl:=Option.some.inj h
 exact rR [(0,0,0),(4,1000,1)] ⟨[(4,bx 1000 1)],[(0,cb 0 64 4 (eReader r15)),(1000,cb 1 93 4 (eExpr (Expr.mk 0 0 b0 [])))],2⟩ ⟨by kernel_rfl,by kernel_rfl,rfl⟩
theorem ref1_Reader_term_step (n : Nat) (ih : ∀ m,m < n → ref1_Reader_factor_spec m) : ∀ {a0 : Reader} {a1 : Int} {r : Expr × Reader},ref1_Reader_term n a0 a1 = some r → GO Try.prog 95 [(0,cb 0 64 4 (eReader a0))] [bx 0 0,vi a1] (eExpr r.1) [(0,cb 0 64 4 (eReader r.2))]:=by
 intro a0 a1 r h
 rcases n with _ | n
 ·rw [ref1_Reader_term] at h; cases h
 rw [ref1_Reader_term] at h
 refine GO_bodyA hT Try.func95 rfl [1000] (by kernel_rfl) fun bad w m=>?_
 refine Qzh hT 1 [0,1,4] [(4,bx 4 1)] [(4,cb 1 93 4 (.agg [vi 0,vi 0,vw b0,vn])),(0,cb 0 64 4 (eReader a0))] 2 ?_
 refine Qgd hT 2 [0,1,4,7,8] [(7,bx 0 0),(8,vi a1)] ?_
 obtain ⟨r1,hr1,h⟩:=bsome h
 refine Og [(0,cb 0 64 4 (eReader a0))] [(0,cb 0 64 4 (eReader r1.2))] [bx 0 0,vi a1] [bx 0 0,vi a1] [(0,0,0)] [(0,0,0)] [(0,cb 0 64 4 (eReader r1.2))] (eExpr r1.1) (eExpr r1.1) 3 en96 ((ih _ (by omega)).1 hr1) ?_
 refine Szh hT 2 [0,1,4,5] [(5,bx 5 3)] [(5,cb 3 93 4 (eExpr r1.1)),(0,cb 0 64 4 (eReader r1.2)),(4,cb 1 93 4 (.agg [vi 0,vi 0,vw b0,vn]))] 4 ?_
 refine WA_seq ?_
 obtain ⟨J5,hJ5,h⟩:=jsome h
 refine WA_join (fun s=>∃ (w2 : ByteArray),∃ (v3 : Expr),∃ (v4 : Reader),J5 w2 v3 v4 = some r ∧ s = ⟨[(4,bx 4 1),(5,bx 5 1)],[(0,cb 0 64 4 (eReader v4)),(4,cb 1 93 4 (.agg [vi 0,vi 0,vw w2,vn])),(5,cb 1 93 4 (eExpr v3))],2⟩) ?_ ?_
 ·refine WA_block ?_
  refine lK [0,1,4,5] [(0,0,0),(4,4,1),(5,5,1)] (fun k s=>∃ q,q ≤ k ∧ q ≤ n ∧ ∃ (v7 : Reader),∃ (w8 : ByteArray),∃ (v9 : Expr),ref1_Reader_term_L0 q a0 a1 r1 J5 v7 w8 v9 = some r ∧ s = ⟨[(0,bx 0 0),(1,vi a1),(4,bx 4 1),(5,bx 5 1)],[(0,cb 0 64 4 (eReader v7)),(4,cb 1 93 4 (.agg [vi 0,vi 0,vw w8,vn])),(5,cb 1 93 4 (eExpr v9))],2⟩) n ⟨n,Nat.le_refl _,Nat.le_refl _,r1.2,b0,r1.1,h,rfl⟩ (by rintro s ⟨q,hq,_,v7,w8,v9,h,_⟩; obtain rfl:=Nat.le_zero.1 hq; rw [ref1_Reader_term_L0] at h; cases h) ?_
  clear h
  rintro k1 s ⟨q1,hk1,hn1,v7,w8,v9,h,rfl⟩
  rcases q1 with _ | q1
  ·rw [ref1_Reader_term_L0] at h; cases h
  rw [ref1_Reader_term_L0] at h
  refine WA_seq ?_
  refine Qzd hT 5 [0,1,4,5,14] [(14,vb (!v7.Fail))] ?_
  refine Ci h (fun h=>?_) fun h=>?_
  ·refine WA_skip ?_
   refine WA_block ?_
   refine Qzd hT 1 [0,1,4,5,6] [(6,vi 0)] ?_
   refine WA_seq ?_
   obtain ⟨J11,hJ11,h⟩:=jsome h
   refine WA_join (fun s=>∃ (i10 : Int),J11 i10 = some r ∧ s = ⟨[(0,bx 0 0),(1,vi a1),(4,bx 4 1),(5,bx 5 1),(6,vi i10)],[(0,cb 0 64 4 (eReader v7)),(4,cb 1 93 4 (.agg [vi 0,vi 0,vw w8,vn])),(5,cb 1 93 4 (eExpr v9))],2⟩) ?_ ?_
   ·refine WA_block ?_
    refine Qgd hT 1 [0,1,4,5,6,16] [(16,bx 0 0)] ?_
    obtain ⟨r12,hr12,h⟩:=bsome h
    refine Ob [0] [bx 0 0,vw x_2a] [.ref (eReader v7) 0,vw x_2a] (vb r12) en52 (ref1_Reader_sign_ok hr12) ?_
    refine Sz hT 1 [0,1,4,5,6,15] ⟨[(0,bx 0 0),(1,vi a1),(4,bx 4 1),(5,bx 5 1),(6,vi 0),(15,vb r12)],[(0,cb 0 64 4 (eReader v7)),(4,cb 1 93 4 (.agg [vi 0,vi 0,vw w8,vn])),(5,cb 1 93 4 (eExpr v9))],2⟩ ?_
    refine Ci h (fun h=>?_) fun h=>?_
    ·refine Rgd hT 1 [0,1,4,5,6] [(6,vi 6)] ?_
     exact oK [0,1,4,5,6] [(0,0,0),(4,4,1),(5,5,1)] ⟨6,h,rfl⟩
    refine Qgd hT 1 [0,1,4,5,6,19] [(19,bx 0 0)] ?_
    obtain ⟨r13,hr13,h⟩:=bsome h
    refine Ob [0] [bx 0 0,vw x_2f] [.ref (eReader v7) 0,vw x_2f] (vb r13) en52 (ref1_Reader_sign_ok hr13) ?_
    refine Szd hT 1 [0,1,4,5,6,18] [(18,vb r13)] ?_
    refine Ci h (fun h=>?_) fun h=>?_
    ·refine Rgd hT 1 [0,1,4,5,6] [(6,vi 7)] ?_
     exact oK [0,1,4,5,6] [(0,0,0),(4,4,1),(5,5,1)] ⟨7,h,rfl⟩
    refine Qgd hT 1 [0,1,4,5,6,22] [(22,bx 0 0)] ?_
    obtain ⟨r14,hr14,h⟩:=bsome h
    refine Ob [0] [bx 0 0,vw x_25] [.ref (eReader v7) 0,vw x_25] (vb r14) en52 (ref1_Reader_sign_ok hr14) ?_
    refine Szd hT 1 [0,1,4,5,6,21] [(21,vb r14)] ?_
    refine Ci h (fun h=>?_) fun h=>?_
    ·refine Rgd hT 1 [0,1,4,5,6] [(6,vi 8)] ?_
     exact oK [0,1,4,5,6] [(0,0,0),(4,4,1),(5,5,1)] ⟨8,h,rfl⟩
    exact sK [0,1,4,5,6] [(0,0,0),(4,4,1),(5,5,1)] ⟨0,h,rfl⟩
   subst hJ11
   rintro s ⟨i10,h,rfl⟩
   skip
   refine WA_seq ?_
   refine Qzd hT 2 [0,1,4,5,6,25] [(25,vb (i10 == 0))] ?_
   refine Ci h (fun h=>?_) fun h=>?_
   ·exact eK [4,5] [(0,0,0),(4,4,1),(5,5,1)] ⟨w8,v9,v7,h,rfl⟩
   refine WA_skip ?_
   refine Qz hT 8 [0,1,4,5,6] ⟨[(0,bx 0 0),(1,vi a1),(4,bx 4 1),(5,bx 5 1),(6,vi i10)],[(0,cb 0 64 4 (.agg [po s_Token v7.T,vi (wr (v7.At + 1)),vb v7.Fail,vi v7.Bad])),(4,cb 1 93 4 (.agg [vi 0,vi 0,vw w8,vn])),(5,cb 1 93 4 (eExpr v9))],2⟩ ?_
   refine WA_drawW hT hM (by kernel_rfl) ?_
   refine Ds 4 [(36,vi a1),(35,bx 0 0),(34,eExpr v9),(33,vi i10)] [] [(1,[5])] ?_
   obtain ⟨r15,hr15,h⟩:=bsome h
   refine Dg [(0,cb 0 64 4 (eReader (Reader.mk v7.T (wr (v7.At + 1)) v7.Fail v7.Bad)))] [(0,cb 0 64 4 (eReader r15.2))] [bx 0 0,vi a1] [bx 0 0,vi a1] [(0,0,0)] [(0,0,0)] [(0,cb 0 64 4 (eReader r15.2))] (eExpr r15.1) (eExpr r15.1) 3 en96 ((ih _ (by omega)).1 hr15) ?_
   obtain ⟨r16,hr16,h⟩:=bsome h
   refine Dp [vi i10,eExpr v9,eExpr r15.1] (eExpr r16) en94 (ref1_binary_ok hr16) ?_
   refine Dh 1 [] [(5,cb 1 93 4 (eExpr r16)),(0,cb 0 64 4 (eReader r15.2)),(4,cb 1 93 4 (.agg [vi 0,vi 0,vw w8,vn]))] 3 [(6,[5])] [] ?_
   refine De ?_
   exact wK [0,1,4,5] [(0,0,0),(4,4,1),(5,5,1)] ⟨_,by omega,by omega,r15.2,w8,r16,h,rfl⟩
  exact eK [4,5] [(0,0,0),(4,4,1),(5,5,1)] ⟨w8,v9,v7,h,rfl⟩
 subst hJ5
 rintro s ⟨w2,v3,v4,h,rfl⟩
 refine Qz hT 2 [4] ⟨[(4,bx 4 1)],[(4,cb 1 93 4 (eExpr v3)),(0,cb 0 64 4 (eReader v4)),(5,cb 1 93 4 (eExpr v3))],2⟩ ?_
 obtain rfl:=Option.some.inj h
 exact rK [4] [(0,0,0),(4,1000,1)] ⟨[(4,bx 1000 1)],[(0,cb 0 64 4 (eReader v4)),(1000,cb 1 93 4 (eExpr v3))],2⟩ ⟨by kernel_rfl,by kernel_rfl,rfl⟩
theorem ref1_Reader_sum_step (n : Nat) (ih : ∀ m,m < n → ref1_Reader_factor_spec m) : ∀ {a0 : Reader} {a1 : Int} {r : Expr × Reader},ref1_Reader_sum n a0 a1 = some r → GO Try.prog 93 [(0,cb 0 64 4 (eReader a0))] [bx 0 0,vi a1] (eExpr r.1) [(0,cb 0 64 4 (eReader r.2))]:=by
 intro a0 a1 r h
 rcases n with _ | n
 ·rw [ref1_Reader_sum] at h; cases h
 rw [ref1_Reader_sum] at h
 refine GO_bodyA hT Try.func93 rfl [1000] (by kernel_rfl) fun bad w m=>?_
 refine Qzh hT 1 [0,1,4] [(4,bx 4 1)] [(4,cb 1 93 4 (.agg [vi 0,vi 0,vw b0,vn])),(0,cb 0 64 4 (eReader a0))] 2 ?_
 refine Qgd hT 2 [0,1,4,7,8] [(7,bx 0 0),(8,vi a1)] ?_
 obtain ⟨r1,hr1,h⟩:=bsome h
 refine Og [(0,cb 0 64 4 (eReader a0))] [(0,cb 0 64 4 (eReader r1.2))] [bx 0 0,vi a1] [bx 0 0,vi a1] [(0,0,0)] [(0,0,0)] [(0,cb 0 64 4 (eReader r1.2))] (eExpr r1.1) (eExpr r1.1) 3 en95 ((ih _ (by omega)).2.1 hr1) ?_
 refine Szh hT 2 [0,1,4,5] [(5,bx 5 3)] [(5,cb 3 93 4 (eExpr r1.1)),(0,cb 0 64 4 (eReader r1.2)),(4,cb 1 93 4 (.agg [vi 0,vi 0,vw b0,vn]))] 4 ?_
 refine WA_seq ?_
 obtain ⟨J5,hJ5,h⟩:=jsome h
 refine WA_join (fun s=>∃ (w2 : ByteArray),∃ (v3 : Expr),∃ (v4 : Reader),J5 w2 v3 v4 = some r ∧ s = ⟨[(4,bx 4 1),(5,bx 5 1)],[(0,cb 0 64 4 (eReader v4)),(4,cb 1 93 4 (.agg [vi 0,vi 0,vw w2,vn])),(5,cb 1 93 4 (eExpr v3))],2⟩) ?_ ?_
 ·refine WA_block ?_
  refine lK [0,1,4,5] [(0,0,0),(4,4,1),(5,5,1)] (fun k s=>∃ q,q ≤ k ∧ q ≤ n ∧ ∃ (v7 : Reader),∃ (w8 : ByteArray),∃ (v9 : Expr),ref1_Reader_sum_L0 q a0 a1 r1 J5 v7 w8 v9 = some r ∧ s = ⟨[(0,bx 0 0),(1,vi a1),(4,bx 4 1),(5,bx 5 1)],[(0,cb 0 64 4 (eReader v7)),(4,cb 1 93 4 (.agg [vi 0,vi 0,vw w8,vn])),(5,cb 1 93 4 (eExpr v9))],2⟩) n ⟨n,Nat.le_refl _,Nat.le_refl _,r1.2,b0,r1.1,h,rfl⟩ (by rintro s ⟨q,hq,_,v7,w8,v9,h,_⟩; obtain rfl:=Nat.le_zero.1 hq; rw [ref1_Reader_sum_L0] at h; cases h) ?_
  clear h
  rintro k1 s ⟨q1,hk1,hn1,v7,w8,v9,h,rfl⟩
  rcases q1 with _ | q1
  ·rw [ref1_Reader_sum_L0] at h; cases h
  rw [ref1_Reader_sum_L0] at h
  refine WA_seq ?_
  refine Qzd hT 5 [0,1,4,5,14] [(14,vb (!v7.Fail))] ?_
  refine Ci h (fun h=>?_) fun h=>?_
  ·refine WA_skip ?_
   refine WA_block ?_
   refine Qzd hT 1 [0,1,4,5,6] [(6,vi 0)] ?_
   refine WA_seq ?_
   obtain ⟨J11,hJ11,h⟩:=jsome h
   refine WA_join (fun s=>∃ (i10 : Int),J11 i10 = some r ∧ s = ⟨[(0,bx 0 0),(1,vi a1),(4,bx 4 1),(5,bx 5 1),(6,vi i10)],[(0,cb 0 64 4 (eReader v7)),(4,cb 1 93 4 (.agg [vi 0,vi 0,vw w8,vn])),(5,cb 1 93 4 (eExpr v9))],2⟩) ?_ ?_
   ·refine WA_block ?_
    refine Qgd hT 1 [0,1,4,5,6,16] [(16,bx 0 0)] ?_
    obtain ⟨r12,hr12,h⟩:=bsome h
    refine Ob [0] [bx 0 0,vw x_2b] [.ref (eReader v7) 0,vw x_2b] (vb r12) en52 (ref1_Reader_sign_ok hr12) ?_
    refine Szd hT 1 [0,1,4,5,6,15] [(15,vb r12)] ?_
    refine Ci h (fun h=>?_) fun h=>?_
    ·refine Rgd hT 1 [0,1,4,5,6] [(6,vi 4)] ?_
     exact oK [0,1,4,5,6] [(0,0,0),(4,4,1),(5,5,1)] ⟨4,h,rfl⟩
    refine Qgd hT 1 [0,1,4,5,6,19] [(19,bx 0 0)] ?_
    obtain ⟨r13,hr13,h⟩:=bsome h
    refine Ob [0] [bx 0 0,vw x_2d] [.ref (eReader v7) 0,vw x_2d] (vb r13) en52 (ref1_Reader_sign_ok hr13) ?_
    refine Szd hT 1 [0,1,4,5,6,18] [(18,vb r13)] ?_
    refine Ci h (fun h=>?_) fun h=>?_
    ·refine Rgd hT 1 [0,1,4,5,6] [(6,vi 5)] ?_
     exact oK [0,1,4,5,6] [(0,0,0),(4,4,1),(5,5,1)] ⟨5,h,rfl⟩
    exact sK [0,1,4,5,6] [(0,0,0),(4,4,1),(5,5,1)] ⟨0,h,rfl⟩
   subst hJ11
   rintro s ⟨i10,h,rfl⟩
   skip
   refine WA_seq ?_
   refine Qzd hT 2 [0,1,4,5,6,22] [(22,vb (i10 == 0))] ?_
   refine Ci h (fun h=>?_) fun h=>?_
   ·exact eK [4,5] [(0,0,0),(4,4,1),(5,5,1)] ⟨w8,v9,v7,h,rfl⟩
   refine WA_skip ?_
   refine Qz hT 8 [0,1,4,5,6] ⟨[(0,bx 0 0),(1,vi a1),(4,bx 4 1),(5,bx 5 1),(6,vi i10)],[(0,cb 0 64 4 (.agg [po s_Token v7.T,vi (wr (v7.At + 1)),vb v7.Fail,vi v7.Bad])),(4,cb 1 93 4 (.agg [vi 0,vi 0,vw w8,vn])),(5,cb 1 93 4 (eExpr v9))],2⟩ ?_
   refine WA_drawW hT hM (by kernel_rfl) ?_
   refine Ds 4 [(33,vi a1),(32,bx 0 0),(31,eExpr v9),(30,vi i10)] [] [(1,[5])] ?_
   obtain ⟨r14,hr14,h⟩:=bsome h
   refine Dg [(0,cb 0 64 4 (eReader (Reader.mk v7.T (wr (v7.At + 1)) v7.Fail v7.Bad)))] [(0,cb 0 64 4 (eReader r14.2))] [bx 0 0,vi a1] [bx 0 0,vi a1] [(0,0,0)] [(0,0,0)] [(0,cb 0 64 4 (eReader r14.2))] (eExpr r14.1) (eExpr r14.1) 3 en95 ((ih _ (by omega)).2.1 hr14) ?_
   obtain ⟨r15,hr15,h⟩:=bsome h
   refine Dp [vi i10,eExpr v9,eExpr r14.1] (eExpr r15) en94 (ref1_binary_ok hr15) ?_
   refine Dh 1 [] [(5,cb 1 93 4 (eExpr r15)),(0,cb 0 64 4 (eReader r14.2)),(4,cb 1 93 4 (.agg [vi 0,vi 0,vw w8,vn]))] 3 [(6,[5])] [] ?_
   refine De ?_
   exact wK [0,1,4,5] [(0,0,0),(4,4,1),(5,5,1)] ⟨_,by omega,by omega,r14.2,w8,r15,h,rfl⟩
  exact eK [4,5] [(0,0,0),(4,4,1),(5,5,1)] ⟨w8,v9,v7,h,rfl⟩
 subst hJ5
 rintro s ⟨w2,v3,v4,h,rfl⟩
 refine Qz hT 2 [4] ⟨[(4,bx 4 1)],[(4,cb 1 93 4 (eExpr v3)),(0,cb 0 64 4 (eReader v4)),(5,cb 1 93 4 (eExpr v3))],2⟩ ?_
 obtain rfl:=Option.some.inj h
 exact rK [4] [(0,0,0),(4,1000,1)] ⟨[(4,bx 1000 1)],[(0,cb 0 64 4 (eReader v4)),(1000,cb 1 93 4 (eExpr v3))],2⟩ ⟨by kernel_rfl,by kernel_rfl,rfl⟩
theorem ref1_Reader_expr_step (n : Nat) (ih : ∀ m,m < n → ref1_Reader_factor_spec m) : ∀ {a0 : Reader} {a1 : Int} {r : Expr × Reader},ref1_Reader_expr n a0 a1 = some r → GO Try.prog 89 [(0,cb 0 64 4 (eReader a0))] [bx 0 0,vi a1] (eExpr r.1) [(0,cb 0 64 4 (eReader r.2))]:=by
 intro a0 a1 r h
 rcases n with _ | n
 ·rw [ref1_Reader_expr] at h; cases h
 rw [ref1_Reader_expr] at h
 refine GO_bodyA hT Try.func89 rfl [1000] (by kernel_rfl) fun bad w m=>?_
 refine Qzh hT 1 [0,1,4] [(4,bx 4 1)] [(4,cb 1 93 4 (.agg [vi 0,vi 0,vw b0,vn])),(0,cb 0 64 4 (eReader a0))] 2 ?_
 refine Qgd hT 2 [0,1,4,7,8] [(7,bx 0 0),(8,vi a1)] ?_
 obtain ⟨r1,hr1,h⟩:=bsome h
 refine Og [(0,cb 0 64 4 (eReader a0))] [(0,cb 0 64 4 (eReader r1.2))] [bx 0 0,vi a1] [bx 0 0,vi a1] [(0,0,0)] [(0,0,0)] [(0,cb 0 64 4 (eReader r1.2))] (eExpr r1.1) (eExpr r1.1) 3 en93 ((ih _ (by omega)).2.2.1 hr1) ?_
 refine Szh hT 2 [0,1,4,5] [(5,bx 5 3)] [(5,cb 3 93 4 (eExpr r1.1)),(0,cb 0 64 4 (eReader r1.2)),(4,cb 1 93 4 (.agg [vi 0,vi 0,vw b0,vn]))] 4 ?_
 refine Qzd hT 1 [0,1,4,5,6] [(6,vi 0)] ?_
 refine WA_seq ?_
 obtain ⟨J4,hJ4,h⟩:=jsome h
 refine WA_join (fun s=>∃ (w2 : ByteArray),∃ (i3 : Int),J4 w2 i3 = some r ∧ s = ⟨[(0,bx 0 0),(1,vi a1),(4,bx 4 1),(5,bx 5 1),(6,vi i3)],[(0,cb 0 64 4 (eReader r1.2)),(4,cb 1 93 4 (.agg [vi 0,vi 0,vw w2,vn])),(5,cb 1 93 4 (eExpr r1.1))],2⟩) ?_ ?_
 ·refine WA_block ?_
  refine Qgd hT 1 [0,1,4,5,6,11] [(11,bx 0 0)] ?_
  obtain ⟨r5,hr5,h⟩:=bsome h
  refine Ob [0] [bx 0 0,vw x_3c] [.ref (eReader r1.2) 0,vw x_3c] (vb r5) en52 (ref1_Reader_sign_ok hr5) ?_
  refine Szd hT 1 [0,1,4,5,6,10] [(10,vb r5)] ?_
  refine Ci h (fun h=>?_) fun h=>?_
  ·refine Rgd hT 1 [0,1,4,5,6] [(6,vi 9)] ?_
   exact oK [0,1,4,5,6] [(0,0,0),(4,4,1),(5,5,1)] ⟨b0,9,h,rfl⟩
  refine Qgd hT 1 [0,1,4,5,6,14] [(14,bx 0 0)] ?_
  obtain ⟨r6,hr6,h⟩:=bsome h
  refine Ob [0] [bx 0 0,vw x_3d3d] [.ref (eReader r1.2) 0,vw x_3d3d] (vb r6) en52 (ref1_Reader_sign_ok hr6) ?_
  refine Szd hT 1 [0,1,4,5,6,13] [(13,vb r6)] ?_
  refine Ci h (fun h=>?_) fun h=>?_
  ·refine Rgd hT 1 [0,1,4,5,6] [(6,vi 10)] ?_
   exact oK [0,1,4,5,6] [(0,0,0),(4,4,1),(5,5,1)] ⟨b0,10,h,rfl⟩
  exact sK [0,1,4,5,6] [(0,0,0),(4,4,1),(5,5,1)] ⟨b0,0,h,rfl⟩
 subst hJ4
 rintro s ⟨w2,i3,h,rfl⟩
 refine WA_seq ?_
 refine Qzd hT 2 [0,1,4,5,6,17] [(17,vb (i3 == 0))] ?_
 refine Ci h (fun h=>?_) fun h=>?_
 ·refine Qz hT 2 [4] ⟨[(4,bx 4 1)],[(4,cb 1 93 4 (eExpr r1.1)),(0,cb 0 64 4 (eReader r1.2)),(5,cb 1 93 4 (eExpr r1.1))],2⟩ ?_
  obtain rfl:=Option.some.inj h
  exact rK [4] [(0,0,0),(4,1000,1)] ⟨[(4,bx 1000 1)],[(0,cb 0 64 4 (eReader r1.2)),(1000,cb 1 93 4 (eExpr r1.1))],2⟩ ⟨by kernel_rfl,by kernel_rfl,rfl⟩
 refine WA_skip ?_
 refine Qzh hT 8 [0,1,4,5,6] [] [(0,cb 0 64 4 (.agg [po s_Token r1.2.T,vi (wr (r1.2.At + 1)),vb r1.2.Fail,vi r1.2.Bad])),(4,cb 1 93 4 (.agg [vi 0,vi 0,vw w2,vn])),(5,cb 1 93 4 (eExpr r1.1))] 2 ?_
 refine WA_seq ?_
 refine WA_drawW hT hM (by kernel_rfl) ?_
 refine Ds 4 [(29,vi a1),(28,bx 0 0),(27,eExpr r1.1),(26,vi i3)] [] [(1,[5])] ?_
 obtain ⟨r7,hr7,h⟩:=bsome h
 refine Dg [(0,cb 0 64 4 (eReader (Reader.mk r1.2.T (wr (r1.2.At + 1)) r1.2.Fail r1.2.Bad)))] [(0,cb 0 64 4 (eReader r7.2))] [bx 0 0,vi a1] [bx 0 0,vi a1] [(0,0,0)] [(0,0,0)] [(0,cb 0 64 4 (eReader r7.2))] (eExpr r7.1) (eExpr r7.1) 3 en93 ((ih _ (by omega)).2.2.1 hr7) ?_
 obtain ⟨r8,hr8,h⟩:=bsome h
 refine Dp [vi i3,eExpr r1.1,eExpr r7.1] (eExpr r8) en94 (ref1_binary_ok hr8) ?_
 refine Dh 1 [] [(4,cb 1 93 4 (eExpr r8)),(0,cb 0 64 4 (eReader r7.2)),(5,cb 1 93 4 (eExpr r1.1))] 3 [(6,[4])] [] ?_
 refine De ?_
 refine Wk_done ?_
 obtain rfl:=Option.some.inj h
 exact rK [4] [(0,0,0),(4,1000,1)] ⟨[(4,bx 1000 1)],[(0,cb 0 64 4 (eReader r7.2)),(1000,cb 1 93 4 (eExpr r8))],2⟩ ⟨by kernel_rfl,by kernel_rfl,rfl⟩
theorem ref1_Reader_factor_all (n : Nat) : ref1_Reader_factor_spec n:=by
 induction n using Nat.strongRecOn with
 | _ n ih=>exact ⟨ref1_Reader_factor_step n ih,ref1_Reader_term_step n ih,ref1_Reader_sum_step n ih,ref1_Reader_expr_step n ih⟩
theorem ref1_Reader_expr_ok {n : Nat} {a0 : Reader} {a1 : Int} {r : Expr × Reader} (h : ref1_Reader_expr n a0 a1 = some r) : GO Try.prog 89 [(0,cb 0 64 4 (eReader a0))] [bx 0 0,vi a1] (eExpr r.1) [(0,cb 0 64 4 (eReader r.2))]:=(ref1_Reader_factor_all n).2.2.2 h
theorem ref1_Reader_whole_ok {n : Nat} {a0 : Reader} {a1 : ByteArray} {r : Expr × Reader} (h : ref1_Reader_whole n a0 a1 = some r) : GO Try.prog 76 [(0,cb 0 64 4 (eReader a0))] [bx 0 0,vw a1] (eExpr r.1) [(0,cb 0 64 4 (eReader r.2))]:=by
 unfold ref1_Reader_whole at h
 refine GO_bodyA hT Try.func76 rfl [1000] (by kernel_rfl) fun bad w m=>?_
 refine Qz hT 1 [0,4] ⟨[(0,bx 0 0),(4,bx 4 1)],[(4,cb 1 93 4 (.agg [vi 0,vi 0,vw b0,vn])),(0,cb 0 64 4 (eReader a0))],2⟩ ?_
 refine WA_seq ?_
 refine Qzd hT 5 [0,4,9] [(9,vb (!a0.Fail))] ?_
 obtain ⟨J6,hJ6,h⟩:=jsome h
 refine WA_join (fun s=>∃ (i1 : Int),∃ (i2 : Int),∃ (w3 : ByteArray),∃ (l4 : List Expr),∃ (v5 : Reader),J6 i1 i2 w3 l4 v5 = some r ∧ s = ⟨[(4,bx 4 1)],[(0,cb 0 64 4 (eReader v5)),(4,cb 1 93 4 (.agg [vi i1,vi i2,vw w3,po s_Expr l4]))],2⟩) ?_ ?_
 ·refine Ci h (fun h=>?_) fun h=>?_
  ·refine Rgd hT 1 [4,10] [(10,bx 0 0)] ?_
   obtain ⟨r7,hr7,h⟩:=bsome h
   refine Og [(0,cb 0 64 4 (eReader a0))] [(0,cb 0 64 4 (eReader r7.2))] [bx 0 0,vi 0] [bx 0 0,vi 0] [(0,0,0)] [(0,0,0)] [(0,cb 0 64 4 (eReader r7.2))] (eExpr r7.1) (eExpr r7.1) 3 en89 (ref1_Reader_expr_ok hr7) ?_
   refine Sg hT 1 [4] ⟨[(4,bx 4 1)],[(4,cb 1 93 4 (eExpr r7.1)),(0,cb 0 64 4 (eReader r7.2))],3⟩ ?_
   exact oK [4] [(0,0,0),(4,4,1)] ⟨r7.1.Kind,r7.1.N,r7.1.Name,r7.1.Of,r7.2,h,rfl⟩
  refine aW [4] ⟨[(4,bx 4 1)],[(4,cb 1 93 4 (.agg [vi 0,vi 0,vw b0,vn])),(0,cb 0 64 4 (eReader a0))],2⟩ ?_
  refine WA_weak (wL [(4,bx 4 1)] [(4,cb 1 93 4 (.agg [vi 0,vi 0,vw b0,po s_Expr []])),(0,cb 0 64 4 (eReader a0))] ⟨VLf.refl _,trivial⟩ ⟨rfl,.inr (.inl ⟨rfl,rfl,CLe.agg ⟨VLf.refl _,VLf.refl _,VLf.refl _,(VLe.f VLe.nil_opt rfl),trivial⟩,trivial⟩),rfl,.inl rfl,trivial⟩) ?_
  exact sR [(0,0,0),(4,4,1)] ⟨0,0,b0,[],a0,h,rfl⟩
 subst hJ6
 rintro s ⟨i1,i2,w3,l4,v5,h,rfl⟩
 refine Qz hT 2 [4] ⟨[(4,bx 4 1)],[(4,cb 1 93 4 (.agg [vi i1,vi i2,vw w3,po s_Expr l4])),(0,cb 0 64 4 (eReader v5))],2⟩ ?_
 refine aW [4] ⟨[(4,bx 4 1)],[(4,cb 1 93 4 (.agg [vi i1,vi i2,vw w3,po s_Expr l4])),(0,cb 0 64 4 (eReader v5))],2⟩ ?_
 refine WA_weak (wL [(4,bx 4 1)] [(4,cb 1 93 4 (eExpr (Expr.mk i1 i2 w3 l4))),(0,cb 0 64 4 (eReader v5))] ⟨VLf.refl _,trivial⟩ ⟨rfl,.inr (.inl ⟨rfl,rfl,CLe.agg ⟨VLf.refl _,VLf.refl _,VLf.refl _,VLf.refl _,trivial⟩,trivial⟩),rfl,.inl rfl,trivial⟩) ?_
 obtain rfl:=Option.some.inj h
 exact rR [(0,0,0),(4,1000,1)] ⟨[(4,bx 1000 1)],[(0,cb 0 64 4 (eReader v5)),(1000,cb 1 93 4 (eExpr (Expr.mk i1 i2 w3 l4)))],2⟩ ⟨by kernel_rfl,by kernel_rfl,rfl⟩
def ref1_Reader_stmt_spec (n : Nat) : Prop:=(∀ {a0 : Reader} {a1 : ByteArray} {a2 : Int} {r : Stmt × Reader},ref1_Reader_stmt n a0 a1 a2 = some r → GO Try.prog 53 [(0,cb 0 64 4 (eReader a0))] [bx 0 0,vw a1,vi a2] (eStmt r.1) [(0,cb 0 64 4 (eReader r.2))]) ∧ (∀ {a0 : Reader} {a1 : ByteArray} {a2 : Int} {r : (List Stmt) × Reader},ref1_Reader_block n a0 a1 a2 = some r → GO Try.prog 30 [(0,cb 0 64 4 (eReader a0))] [bx 0 0,vw a1,vi a2] (vs 100 1 s_Stmt r.1) [(0,cb 0 64 4 (eReader r.2)),(100,rb 1 s_Stmt r.1)])
theorem ref1_Reader_stmt_step (n : Nat) (ih : ∀ m,m < n → ref1_Reader_stmt_spec m) : ∀ {a0 : Reader} {a1 : ByteArray} {a2 : Int} {r : Stmt × Reader},ref1_Reader_stmt n a0 a1 a2 = some r → GO Try.prog 53 [(0,cb 0 64 4 (eReader a0))] [bx 0 0,vw a1,vi a2] (eStmt r.1) [(0,cb 0 64 4 (eReader r.2))]:=by
 intro a0 a1 a2 r h
 rcases n with _ | n
 ·rw [ref1_Reader_stmt] at h; cases h
 rw [ref1_Reader_stmt] at h
 refine GO_bodyA hT Try.func53 rfl [1000] (by kernel_rfl) fun bad w m=>?_
 refine Qzh hT 1 [0,1,2,6] [(6,bx 6 1)] [(6,cb 1 95 11 (.agg [vi 0,vw b0,vw b0,vi 0,vi 0,vi 0,vw b0,vn,vn,vn,vz c0])),(0,cb 0 64 4 (eReader a0))] 2 ?_
 refine WA_seq ?_
 refine WA_drawW hT hM (by kernel_rfl) ?_
 refine Ds 8 [(16,vi a0.At),(15,.box 0 0 0 1),(14,bx 0 0),(13,bx 0 0),(12,po s_Token a0.T),(11,bx 0 0),(10,bx 0 0),(9,bx 0 0)] [] [(1,[0]),(2,[0]),(3,[0]),(5,[0]),(6,[0]),(7,[0])] ?_
 obtain ⟨x1,hx1,h⟩:=bsome h
 refine Dl rfl (v_index s_Token .opt a0.T .i64 a0.At hx1) ?_
 refine Dt (.ref (eToken x1) 0) ?_
 refine Dh 3 [(7,bx 7 2),(18,eToken x1)] [(7,cb 2 66 4 (eToken x1)),(6,cb 1 95 11 (.agg [vi 0,vw b0,vw b0,vi 0,vi 0,vi 0,vw b0,vn,vn,vn,vz c0])),(0,cb 0 64 4 (eReader a0))] 3 [(10,[7]),(11,[7])] [] ?_
 refine De ?_
 refine Wk_done ?_
 refine Qgd hT 3 [0,1,2,6,7,19,21] [(19,vw a1),(21,vi x1.At)] ?_
 obtain ⟨r2,hr2,h⟩:=bsome h
 refine Pt' en26 (ref1_Place_ok hr2) ?_
 refine Szh hT 3 [0,1,2,6,7,8] [(8,bx 8 3)] [(8,cb 3 95 11 (.agg [vi 0,vw b0,vw b0,vi 0,vi 0,vi 0,vw b0,vn,vn,vn,vz r2])),(7,cb 2 66 4 (eToken x1)),(6,cb 1 95 11 (.agg [vi 0,vw b0,vw b0,vi 0,vi 0,vi 0,vw b0,vn,vn,vn,vz c0])),(0,cb 0 64 4 (eReader a0))] 4 ?_
 refine WA_seq ?_
 refine Qzd hT 3 [0,1,2,6,7,8,26] [(26,vb (x1.Kind != 1))] ?_
 refine Ci h (fun h=>?_) fun h=>?_
 ·refine Qgd hT 1 [6,8,27] [(27,bx 0 0)] ?_
  obtain ⟨r3,hr3,h⟩:=bsome h
  refine Og [(0,cb 0 64 4 (eReader a0))] [(0,cb 0 64 4 (eReader r3))] [bx 0 0] [bx 0 0] [(0,0,0)] [(0,0,0)] [(0,cb 0 64 4 (eReader r3))] (.tup []) (.tup []) 5 en25 (ref1_Reader_fail_ok hr3) ?_
  refine Szh hT 0 [6,8] [] [(0,cb 0 64 4 (eReader r3)),(8,cb 3 95 11 (.agg [vi 0,vw b0,vw b0,vi 0,vi 0,vi 0,vw b0,vn,vn,vn,vz r2])),(7,cb 2 66 4 (eToken x1)),(6,cb 1 95 11 (.agg [vi 0,vw b0,vw b0,vi 0,vi 0,vi 0,vw b0,vn,vn,vn,vz c0]))] 5 ?_
  refine Qz hT 2 [6] ⟨[(6,bx 6 1)],[(6,cb 1 95 11 (.agg [vi 0,vw b0,vw b0,vi 0,vi 0,vi 0,vw b0,vn,vn,vn,vz r2])),(0,cb 0 64 4 (eReader r3)),(8,cb 3 95 11 (.agg [vi 0,vw b0,vw b0,vi 0,vi 0,vi 0,vw b0,vn,vn,vn,vz r2])),(7,cb 2 66 4 (eToken x1))],5⟩ ?_
  refine aW [6] ⟨[(6,bx 6 1)],[(6,cb 1 95 11 (.agg [vi 0,vw b0,vw b0,vi 0,vi 0,vi 0,vw b0,vn,vn,vn,vz r2])),(0,cb 0 64 4 (eReader r3)),(8,cb 3 95 11 (.agg [vi 0,vw b0,vw b0,vi 0,vi 0,vi 0,vw b0,vn,vn,vn,vz r2])),(7,cb 2 66 4 (eToken x1))],5⟩ ?_
  refine WA_weak (wL [(6,bx 6 1)] [(6,cb 1 95 11 (eStmt (Stmt.mk 0 b0 b0 0 (Expr.mk 0 0 b0 []) [] [] r2))),(0,cb 0 64 4 (eReader r3)),(8,cb 3 95 11 (.agg [vi 0,vw b0,vw b0,vi 0,vi 0,vi 0,vw b0,vn,vn,vn,vz r2])),(7,cb 2 66 4 (eToken x1))] ⟨VLf.refl _,trivial⟩ ⟨rfl,.inr (.inl ⟨rfl,rfl,CLe.agg ⟨VLf.refl _,VLf.refl _,VLf.refl _,VLf.refl _,VLf.refl _,VLf.refl _,VLf.refl _,(VLe.f VLe.nil_opt rfl),(VLe.f VLe.nil_opt rfl),(VLe.f VLe.nil_opt rfl),VLf.refl _,trivial⟩,trivial⟩),rfl,.inl rfl,rfl,.inl rfl,rfl,.inl rfl,trivial⟩) ?_
  obtain rfl:=Option.some.inj h
  exact rR [(0,0,0),(6,1000,1)] ⟨[(6,bx 1000 1)],[(0,cb 0 64 4 (eReader r3)),(1000,cb 1 95 11 (eStmt (Stmt.mk 0 b0 b0 0 (Expr.mk 0 0 b0 []) [] [] r2)))],2⟩ ⟨by kernel_rfl,by kernel_rfl,rfl⟩
 refine WA_skip ?_
 refine Qzh hT 8 [0,1,2,6,7,8] [] [(0,cb 0 64 4 (.agg [po s_Token a0.T,vi (wr (a0.At + 1)),vb a0.Fail,vi a0.Bad])),(8,cb 3 95 11 (.agg [vi 0,vw b0,vw b0,vi 0,vi 0,vi 0,vw b0,vn,vn,vn,vz r2])),(7,cb 2 66 4 (eToken x1)),(6,cb 1 95 11 (.agg [vi 0,vw b0,vw b0,vi 0,vi 0,vi 0,vw b0,vn,vn,vn,vz c0]))] 4 ?_
 refine WA_seq ?_
 refine Qzd hT 2 [0,1,2,6,7,8,38] [(38,vw x1.Text)] ?_
 obtain ⟨J18,hJ18,h⟩:=jsome h
 refine WA_join (fun s=>∃ (w4 : ByteArray),∃ (w5 : ByteArray),∃ (w6 : ByteArray),∃ (i7 : Int),∃ (w8 : ByteArray),∃ (w9 : ByteArray),∃ (i10 : Int),∃ (i11 : Int),∃ (i12 : Int),∃ (w13 : ByteArray),∃ (l14 : List Expr),∃ (l15 : List Stmt),∃ (l16 : List Stmt),∃ (v17 : Reader),J18 w4 w5 w6 i7 w8 w9 i10 i11 i12 w13 l14 l15 l16 v17 = some r ∧ s = ⟨[(6,bx 6 1),(8,bx 8 1)],[(0,cb 0 64 4 (eReader v17)),(6,cb 1 95 11 (.agg [vi 0,vw w4,vw w5,vi 0,vi 0,vi 0,vw w6,vn,vn,vn,vz c0])),(8,cb 1 95 11 (.agg [vi i7,vw w8,vw w9,vi i10,vi i11,vi i12,vw w13,po s_Expr l14,vs 19508 1 s_Stmt l15,vs 20508 1 s_Stmt l16,vz r2])),(19508,rb 1 s_Stmt l15),(20508,rb 1 s_Stmt l16)],2⟩) ?_ ?_
 ·refine WA_block ?_
  refine WA_seq ?_
  refine Qzd hT 2 [0,1,2,6,7,8,38,60] [(60,vb (bytesEq x1.Text k_lock))] ?_
  obtain ⟨J26,hJ26,h⟩:=jsome h
  refine WA_join (fun s=>∃ (w19 : ByteArray),∃ (w20 : ByteArray),∃ (w21 : ByteArray),∃ (w22 : ByteArray),∃ (w23 : ByteArray),∃ (w24 : ByteArray),∃ (b25 : Bool),J26 w19 w20 w21 w22 w23 w24 b25 = some r ∧ s = ⟨[(0,bx 0 0),(1,vw a1),(2,vi a2),(6,bx 6 1),(7,bx 7 1),(8,bx 8 1),(38,vw x1.Text),(60,vb b25)],[(0,cb 0 64 4 (.agg [po s_Token a0.T,vi (wr (a0.At + 1)),vb a0.Fail,vi a0.Bad])),(6,cb 1 95 11 (.agg [vi 0,vw w19,vw w20,vi 0,vi 0,vi 0,vw w21,vn,vn,vn,vz c0])),(7,cb 1 66 4 (eToken x1)),(8,cb 1 95 11 (.agg [vi 0,vw w22,vw w23,vi 0,vi 0,vi 0,vw w24,vn,vn,vn,vz r2]))],2⟩) ?_ ?_
  ·refine Ci h (fun h=>?_) fun h=>?_
   ·exact sK [0,1,2,6,7,8,38,60] [(0,0,0),(6,6,1),(7,7,1),(8,8,1)] ⟨b0,b0,b0,b0,b0,b0,bytesEq x1.Text k_lock,h,rfl⟩
   refine Qzd hT 2 [0,1,2,6,7,8,38,60] [(60,vb (bytesEq x1.Text k_unlock))] ?_
   refine Ci h (fun h=>?_) fun h=>?_
   ·exact sK [0,1,2,6,7,8,38,60] [(0,0,0),(6,6,1),(7,7,1),(8,8,1)] ⟨b0,b0,b0,b0,b0,b0,bytesEq x1.Text k_unlock,h,rfl⟩
   refine Qzd hT 2 [0,1,2,6,7,8,38,60] [(60,vb (bytesEq x1.Text k_goto))] ?_
   refine Ci h (fun h=>?_) fun h=>?_
   ·exact sK [0,1,2,6,7,8,38,60] [(0,0,0),(6,6,1),(7,7,1),(8,8,1)] ⟨b0,b0,b0,b0,b0,b0,bytesEq x1.Text k_goto,h,rfl⟩
   refine Rgd hT 2 [0,1,2,6,7,8,38,60] [(60,vb (bytesEq x1.Text k_label))] ?_
   exact oK [0,1,2,6,7,8,38,60] [(0,0,0),(6,6,1),(7,7,1),(8,8,1)] ⟨b0,b0,b0,b0,b0,b0,bytesEq x1.Text k_label,h,rfl⟩
  subst hJ26
  rintro s ⟨w19,w20,w21,w22,w23,w24,b25,h,rfl⟩
  skip
  refine Ci h (fun h=>?_) fun h=>?_
  ·refine Qzh hT 2 [0,6,7,8] [] [(8,cb 1 95 11 (.agg [vi 2,vw w22,vw w23,vi 0,vi 0,vi 0,vw w24,vn,vn,vn,vz r2])),(0,cb 0 64 4 (.agg [po s_Token a0.T,vi (wr (a0.At + 1)),vb a0.Fail,vi a0.Bad])),(6,cb 1 95 11 (.agg [vi 0,vw w19,vw w20,vi 0,vi 0,vi 0,vw w21,vn,vn,vn,vz c0])),(7,cb 1 66 4 (eToken x1))] 2 ?_
   refine WA_seq ?_
   refine Qzd hT 2 [0,6,8,67] [(67,vw x1.Text)] ?_
   obtain ⟨J28,hJ28,h⟩:=jsome h
   refine WA_join (fun s=>∃ (i27 : Int),J28 i27 = some r ∧ s = ⟨[(0,bx 0 0),(6,bx 6 1),(8,bx 8 1)],[(0,cb 0 64 4 (.agg [po s_Token a0.T,vi (wr (a0.At + 1)),vb a0.Fail,vi a0.Bad])),(6,cb 1 95 11 (.agg [vi 0,vw w19,vw w20,vi 0,vi 0,vi 0,vw w21,vn,vn,vn,vz c0])),(8,cb 1 95 11 (.agg [vi i27,vw w22,vw w23,vi 0,vi 0,vi 0,vw w24,vn,vn,vn,vz r2]))],2⟩) ?_ ?_
   ·refine WA_block ?_
    refine Qzd hT 2 [0,6,8,67,68] [(68,vb (bytesEq x1.Text k_unlock))] ?_
    refine Ci h (fun h=>?_) fun h=>?_
    ·refine Rgh hT 2 [0,6,8] [] [(8,cb 1 95 11 (.agg [vi 3,vw w22,vw w23,vi 0,vi 0,vi 0,vw w24,vn,vn,vn,vz r2])),(0,cb 0 64 4 (.agg [po s_Token a0.T,vi (wr (a0.At + 1)),vb a0.Fail,vi a0.Bad])),(6,cb 1 95 11 (.agg [vi 0,vw w19,vw w20,vi 0,vi 0,vi 0,vw w21,vn,vn,vn,vz c0])),(7,cb 1 66 4 (eToken x1))] 2 ?_
     exact oK [0,6,8] [(0,0,0),(6,6,1),(8,8,1)] ⟨3,h,rfl⟩
    refine Qzd hT 2 [0,6,8,67,71] [(71,vb (bytesEq x1.Text k_goto))] ?_
    refine Ci h (fun h=>?_) fun h=>?_
    ·refine Rgh hT 2 [0,6,8] [] [(8,cb 1 95 11 (.agg [vi 9,vw w22,vw w23,vi 0,vi 0,vi 0,vw w24,vn,vn,vn,vz r2])),(0,cb 0 64 4 (.agg [po s_Token a0.T,vi (wr (a0.At + 1)),vb a0.Fail,vi a0.Bad])),(6,cb 1 95 11 (.agg [vi 0,vw w19,vw w20,vi 0,vi 0,vi 0,vw w21,vn,vn,vn,vz c0])),(7,cb 1 66 4 (eToken x1))] 2 ?_
     exact oK [0,6,8] [(0,0,0),(6,6,1),(8,8,1)] ⟨9,h,rfl⟩
    refine Qzd hT 2 [0,6,8,74] [(74,vb (bytesEq x1.Text k_label))] ?_
    refine Ci h (fun h=>?_) fun h=>?_
    ·refine Rg hT 2 [0,6,8] ⟨[(0,bx 0 0),(6,bx 6 1),(8,bx 8 1)],[(8,cb 1 95 11 (.agg [vi 10,vw w22,vw w23,vi 0,vi 0,vi 0,vw w24,vn,vn,vn,vz r2])),(0,cb 0 64 4 (.agg [po s_Token a0.T,vi (wr (a0.At + 1)),vb a0.Fail,vi a0.Bad])),(6,cb 1 95 11 (.agg [vi 0,vw w19,vw w20,vi 0,vi 0,vi 0,vw w21,vn,vn,vn,vz c0])),(7,cb 1 66 4 (eToken x1))],2⟩ ?_
     exact oK [0,6,8] [(0,0,0),(6,6,1),(8,8,1)] ⟨10,h,rfl⟩
    exact sK [0,6,8] [(0,0,0),(6,6,1),(8,8,1)] ⟨2,h,rfl⟩
   subst hJ28
   rintro s ⟨i27,h,rfl⟩
   skip
   refine Rgd hT 1 [6,8,77] [(77,bx 0 0)] ?_
   obtain ⟨r29,hr29,h⟩:=bsome h
   refine Og [(0,cb 0 64 4 (eReader (Reader.mk a0.T (wr (a0.At + 1)) a0.Fail a0.Bad)))] [(0,cb 0 64 4 (eReader r29.2))] [bx 0 0] [bx 0 0] [(0,0,0)] [(0,0,0)] [(0,cb 0 64 4 (eReader r29.2))] (vw r29.1) (vw r29.1) 3 en27 (ref1_Reader_name_ok hr29) ?_
   refine Sgh hT 2 [6,8] [] [(8,cb 1 95 11 (.agg [vi i27,vw r29.1,vw w23,vi 0,vi 0,vi 0,vw w24,vn,vn,vn,vz r2])),(0,cb 0 64 4 (eReader r29.2)),(6,cb 1 95 11 (.agg [vi 0,vw w19,vw w20,vi 0,vi 0,vi 0,vw w21,vn,vn,vn,vz c0]))] 3 ?_
   refine oW [6,8] ⟨[(6,bx 6 1),(8,bx 8 1)],[(8,cb 1 95 11 (.agg [vi i27,vw r29.1,vw w23,vi 0,vi 0,vi 0,vw w24,vn,vn,vn,vz r2])),(0,cb 0 64 4 (eReader r29.2)),(6,cb 1 95 11 (.agg [vi 0,vw w19,vw w20,vi 0,vi 0,vi 0,vw w21,vn,vn,vn,vz c0]))],3⟩ ?_
   refine WO_weak (wOh 8 5000 8 (cb 1 95 11 (.agg [vi i27,vw r29.1,vw w23,vi 0,vi 0,vi 0,vw w24,vn,vn,vn,vz r2])) (.agg [vi i27,vw r29.1,vw w23,vi 0,vi 0,vi 0,vw w24,vn,vn,vn,vz r2]) (.agg [vi i27,vw r29.1,vw w23,vi 0,vi 0,vi 0,vw w24,vn,vs 5000 3 s_Stmt ([] : List Stmt),vn,vz r2]) 95 11) ?_
   refine WO_weak (wOh 8 5001 9 (cb 1 95 11 (.agg [vi i27,vw r29.1,vw w23,vi 0,vi 0,vi 0,vw w24,vn,vs 5000 3 s_Stmt ([] : List Stmt),vn,vz r2])) (.agg [vi i27,vw r29.1,vw w23,vi 0,vi 0,vi 0,vw w24,vn,vs 5000 3 s_Stmt ([] : List Stmt),vn,vz r2]) (.agg [vi i27,vw r29.1,vw w23,vi 0,vi 0,vi 0,vw w24,vn,vs 5000 3 s_Stmt ([] : List Stmt),vs 5001 4 s_Stmt ([] : List Stmt),vz r2]) 95 11) ?_
   refine WO_weak (wL [(6,bx 6 1),(8,bx 8 1)] [(5001,rb 4 s_Stmt ([] : List Stmt)),(8,cb 1 95 11 (.agg [vi i27,vw r29.1,vw w23,vi 0,vi 0,vi 0,vw w24,po s_Expr [],vs 5000 3 s_Stmt ([] : List Stmt),vs 5001 4 s_Stmt ([] : List Stmt),vz r2])),(5000,rb 3 s_Stmt ([] : List Stmt)),(0,cb 0 64 4 (eReader r29.2)),(6,cb 1 95 11 (.agg [vi 0,vw w19,vw w20,vi 0,vi 0,vi 0,vw w21,vn,vn,vn,vz c0]))] ⟨VLf.refl _,VLf.refl _,trivial⟩ ⟨rfl,.inl rfl,rfl,.inr (.inl ⟨rfl,rfl,CLe.agg ⟨VLf.refl _,VLf.refl _,VLf.refl _,VLf.refl _,VLf.refl _,VLf.refl _,VLf.refl _,(VLe.f VLe.nil_opt rfl),VLf.refl _,VLf.refl _,VLf.refl _,trivial⟩,trivial⟩),rfl,.inl rfl,rfl,.inl rfl,rfl,.inl rfl,trivial⟩) ?_
   exact oR [(0,0,0),(6,6,1),(8,8,1),(5000,19508,1),(5001,20508,1)] ⟨w19,w20,w21,i27,r29.1,w23,0,0,0,w24,[],([] : List Stmt),([] : List Stmt),r29.2,h,rfl⟩
  refine Qzd hT 2 [0,1,2,6,7,8,38,80] [(80,vb (bytesEq x1.Text k_send))] ?_
  refine Ci h (fun h=>?_) fun h=>?_
  ·refine Qzh hT 2 [0,1,6,8] [] [(8,cb 1 95 11 (.agg [vi 4,vw w22,vw w23,vi 0,vi 0,vi 0,vw w24,vn,vn,vn,vz r2])),(0,cb 0 64 4 (.agg [po s_Token a0.T,vi (wr (a0.At + 1)),vb a0.Fail,vi a0.Bad])),(6,cb 1 95 11 (.agg [vi 0,vw w19,vw w20,vi 0,vi 0,vi 0,vw w21,vn,vn,vn,vz c0])),(7,cb 1 66 4 (eToken x1))] 2 ?_
   refine Qgd hT 1 [0,1,6,8,83] [(83,bx 0 0)] ?_
   obtain ⟨r30,hr30,h⟩:=bsome h
   refine Og [(0,cb 0 64 4 (eReader (Reader.mk a0.T (wr (a0.At + 1)) a0.Fail a0.Bad)))] [(0,cb 0 64 4 (eReader r30.2))] [bx 0 0] [bx 0 0] [(0,0,0)] [(0,0,0)] [(0,cb 0 64 4 (eReader r30.2))] (vw r30.1) (vw r30.1) 3 en27 (ref1_Reader_name_ok hr30) ?_
   refine Szh hT 2 [0,1,6,8] [] [(8,cb 1 95 11 (.agg [vi 4,vw r30.1,vw w23,vi 0,vi 0,vi 0,vw w24,vn,vn,vn,vz r2])),(0,cb 0 64 4 (eReader r30.2)),(6,cb 1 95 11 (.agg [vi 0,vw w19,vw w20,vi 0,vi 0,vi 0,vw w21,vn,vn,vn,vz c0])),(7,cb 1 66 4 (eToken x1))] 3 ?_
   refine Rgd hT 2 [6,8,86,87] [(86,bx 0 0),(87,vw a1)] ?_
   obtain ⟨r31,hr31,h⟩:=bsome h
   refine Og [(0,cb 0 64 4 (eReader r30.2))] [(0,cb 0 64 4 (eReader r31.2))] [bx 0 0,vw a1] [bx 0 0,vw a1] [(0,0,0)] [(0,0,0)] [(0,cb 0 64 4 (eReader r31.2))] (eExpr r31.1) (eExpr r31.1) 4 en76 (ref1_Reader_whole_ok hr31) ?_
   refine Sgh hT 2 [6,8] [] [(8,cb 1 95 11 (.agg [vi 4,vw r30.1,vw w23,vi 0,vi r31.1.Kind,vi r31.1.N,vw r31.1.Name,po s_Expr r31.1.Of,vn,vn,vz r2])),(0,cb 0 64 4 (eReader r31.2)),(6,cb 1 95 11 (.agg [vi 0,vw w19,vw w20,vi 0,vi 0,vi 0,vw w21,vn,vn,vn,vz c0])),(7,cb 1 66 4 (eToken x1))] 4 ?_
   refine oW [6,8] ⟨[(6,bx 6 1),(8,bx 8 1)],[(8,cb 1 95 11 (.agg [vi 4,vw r30.1,vw w23,vi 0,vi r31.1.Kind,vi r31.1.N,vw r31.1.Name,po s_Expr r31.1.Of,vn,vn,vz r2])),(0,cb 0 64 4 (eReader r31.2)),(6,cb 1 95 11 (.agg [vi 0,vw w19,vw w20,vi 0,vi 0,vi 0,vw w21,vn,vn,vn,vz c0])),(7,cb 1 66 4 (eToken x1))],4⟩ ?_
   refine WO_weak (wOh 8 5000 8 (cb 1 95 11 (.agg [vi 4,vw r30.1,vw w23,vi 0,vi r31.1.Kind,vi r31.1.N,vw r31.1.Name,po s_Expr r31.1.Of,vn,vn,vz r2])) (.agg [vi 4,vw r30.1,vw w23,vi 0,vi r31.1.Kind,vi r31.1.N,vw r31.1.Name,po s_Expr r31.1.Of,vn,vn,vz r2]) (.agg [vi 4,vw r30.1,vw w23,vi 0,vi r31.1.Kind,vi r31.1.N,vw r31.1.Name,po s_Expr r31.1.Of,vs 5000 4 s_Stmt ([] : List Stmt),vn,vz r2]) 95 11) ?_
   refine WO_weak (wOh 8 5001 9 (cb 1 95 11 (.agg [vi 4,vw r30.1,vw w23,vi 0,vi r31.1.Kind,vi r31.1.N,vw r31.1.Name,po s_Expr r31.1.Of,vs 5000 4 s_Stmt ([] : List Stmt),vn,vz r2])) (.agg [vi 4,vw r30.1,vw w23,vi 0,vi r31.1.Kind,vi r31.1.N,vw r31.1.Name,po s_Expr r31.1.Of,vs 5000 4 s_Stmt ([] : List Stmt),vn,vz r2]) (.agg [vi 4,vw r30.1,vw w23,vi 0,vi r31.1.Kind,vi r31.1.N,vw r31.1.Name,po s_Expr r31.1.Of,vs 5000 4 s_Stmt ([] : List Stmt),vs 5001 5 s_Stmt ([] : List Stmt),vz r2]) 95 11) ?_
   exact oR [(0,0,0),(6,6,1),(8,8,1),(5000,19508,1),(5001,20508,1)] ⟨w19,w20,w21,4,r30.1,w23,0,r31.1.Kind,r31.1.N,r31.1.Name,r31.1.Of,([] : List Stmt),([] : List Stmt),r31.2,h,rfl⟩
  refine Qz hT 2 [0,1,2,6,7,8,38,90] ⟨[(0,bx 0 0),(1,vw a1),(2,vi a2),(6,bx 6 1),(7,bx 7 1),(8,bx 8 1),(38,vw x1.Text),(90,vb (bytesEq x1.Text k_recv))],[(0,cb 0 64 4 (.agg [po s_Token a0.T,vi (wr (a0.At + 1)),vb a0.Fail,vi a0.Bad])),(6,cb 1 95 11 (.agg [vi 0,vw w19,vw w20,vi 0,vi 0,vi 0,vw w21,vn,vn,vn,vz c0])),(7,cb 1 66 4 (eToken x1)),(8,cb 1 95 11 (.agg [vi 0,vw w22,vw w23,vi 0,vi 0,vi 0,vw w24,vn,vn,vn,vz r2]))],2⟩ ?_
  refine Ci h (fun h=>?_) fun h=>?_
  ·refine Qzh hT 2 [0,6,8] [] [(8,cb 1 95 11 (.agg [vi 5,vw w22,vw w23,vi 0,vi 0,vi 0,vw w24,vn,vn,vn,vz r2])),(0,cb 0 64 4 (.agg [po s_Token a0.T,vi (wr (a0.At + 1)),vb a0.Fail,vi a0.Bad])),(6,cb 1 95 11 (.agg [vi 0,vw w19,vw w20,vi 0,vi 0,vi 0,vw w21,vn,vn,vn,vz c0])),(7,cb 1 66 4 (eToken x1))] 2 ?_
   refine Qgd hT 1 [0,6,8,93] [(93,bx 0 0)] ?_
   obtain ⟨r32,hr32,h⟩:=bsome h
   refine Og [(0,cb 0 64 4 (eReader (Reader.mk a0.T (wr (a0.At + 1)) a0.Fail a0.Bad)))] [(0,cb 0 64 4 (eReader r32.2))] [bx 0 0] [bx 0 0] [(0,0,0)] [(0,0,0)] [(0,cb 0 64 4 (eReader r32.2))] (vw r32.1) (vw r32.1) 3 en27 (ref1_Reader_name_ok hr32) ?_
   refine Szh hT 2 [0,6,8] [] [(8,cb 1 95 11 (.agg [vi 5,vw r32.1,vw w23,vi 0,vi 0,vi 0,vw w24,vn,vn,vn,vz r2])),(0,cb 0 64 4 (eReader r32.2)),(6,cb 1 95 11 (.agg [vi 0,vw w19,vw w20,vi 0,vi 0,vi 0,vw w21,vn,vn,vn,vz c0])),(7,cb 1 66 4 (eToken x1))] 3 ?_
   refine Rgd hT 1 [6,8,96] [(96,bx 0 0)] ?_
   obtain ⟨r33,hr33,h⟩:=bsome h
   refine Og [(0,cb 0 64 4 (eReader r32.2))] [(0,cb 0 64 4 (eReader r33.2))] [bx 0 0] [bx 0 0] [(0,0,0)] [(0,0,0)] [(0,cb 0 64 4 (eReader r33.2))] (vw r33.1) (vw r33.1) 4 en27 (ref1_Reader_name_ok hr33) ?_
   refine Sgh hT 2 [6,8] [] [(8,cb 1 95 11 (.agg [vi 5,vw r32.1,vw r33.1,vi 0,vi 0,vi 0,vw w24,vn,vn,vn,vz r2])),(0,cb 0 64 4 (eReader r33.2)),(6,cb 1 95 11 (.agg [vi 0,vw w19,vw w20,vi 0,vi 0,vi 0,vw w21,vn,vn,vn,vz c0])),(7,cb 1 66 4 (eToken x1))] 4 ?_
   refine oW [6,8] ⟨[(6,bx 6 1),(8,bx 8 1)],[(8,cb 1 95 11 (.agg [vi 5,vw r32.1,vw r33.1,vi 0,vi 0,vi 0,vw w24,vn,vn,vn,vz r2])),(0,cb 0 64 4 (eReader r33.2)),(6,cb 1 95 11 (.agg [vi 0,vw w19,vw w20,vi 0,vi 0,vi 0,vw w21,vn,vn,vn,vz c0])),(7,cb 1 66 4 (eToken x1))],4⟩ ?_
   refine WO_weak (wOh 8 5000 8 (cb 1 95 11 (.agg [vi 5,vw r32.1,vw r33.1,vi 0,vi 0,vi 0,vw w24,vn,vn,vn,vz r2])) (.agg [vi 5,vw r32.1,vw r33.1,vi 0,vi 0,vi 0,vw w24,vn,vn,vn,vz r2]) (.agg [vi 5,vw r32.1,vw r33.1,vi 0,vi 0,vi 0,vw w24,vn,vs 5000 4 s_Stmt ([] : List Stmt),vn,vz r2]) 95 11) ?_
   refine WO_weak (wOh 8 5001 9 (cb 1 95 11 (.agg [vi 5,vw r32.1,vw r33.1,vi 0,vi 0,vi 0,vw w24,vn,vs 5000 4 s_Stmt ([] : List Stmt),vn,vz r2])) (.agg [vi 5,vw r32.1,vw r33.1,vi 0,vi 0,vi 0,vw w24,vn,vs 5000 4 s_Stmt ([] : List Stmt),vn,vz r2]) (.agg [vi 5,vw r32.1,vw r33.1,vi 0,vi 0,vi 0,vw w24,vn,vs 5000 4 s_Stmt ([] : List Stmt),vs 5001 5 s_Stmt ([] : List Stmt),vz r2]) 95 11) ?_
   refine WO_weak (wL [(6,bx 6 1),(8,bx 8 1)] [(5001,rb 5 s_Stmt ([] : List Stmt)),(8,cb 1 95 11 (.agg [vi 5,vw r32.1,vw r33.1,vi 0,vi 0,vi 0,vw w24,po s_Expr [],vs 5000 4 s_Stmt ([] : List Stmt),vs 5001 5 s_Stmt ([] : List Stmt),vz r2])),(5000,rb 4 s_Stmt ([] : List Stmt)),(0,cb 0 64 4 (eReader r33.2)),(6,cb 1 95 11 (.agg [vi 0,vw w19,vw w20,vi 0,vi 0,vi 0,vw w21,vn,vn,vn,vz c0])),(7,cb 1 66 4 (eToken x1))] ⟨VLf.refl _,VLf.refl _,trivial⟩ ⟨rfl,.inl rfl,rfl,.inr (.inl ⟨rfl,rfl,CLe.agg ⟨VLf.refl _,VLf.refl _,VLf.refl _,VLf.refl _,VLf.refl _,VLf.refl _,VLf.refl _,(VLe.f VLe.nil_opt rfl),VLf.refl _,VLf.refl _,VLf.refl _,trivial⟩,trivial⟩),rfl,.inl rfl,rfl,.inl rfl,rfl,.inl rfl,rfl,.inl rfl,trivial⟩) ?_
   exact oR [(0,0,0),(6,6,1),(8,8,1),(5000,19508,1),(5001,20508,1)] ⟨w19,w20,w21,5,r32.1,r33.1,0,0,0,w24,[],([] : List Stmt),([] : List Stmt),r33.2,h,rfl⟩
  refine Qzd hT 2 [0,1,2,6,7,8,38,99] [(99,vb (bytesEq x1.Text k_print))] ?_
  refine Ci h (fun h=>?_) fun h=>?_
  ·refine Qzh hT 2 [0,1,6,8] [] [(8,cb 1 95 11 (.agg [vi 6,vw w22,vw w23,vi 0,vi 0,vi 0,vw w24,vn,vn,vn,vz r2])),(0,cb 0 64 4 (.agg [po s_Token a0.T,vi (wr (a0.At + 1)),vb a0.Fail,vi a0.Bad])),(6,cb 1 95 11 (.agg [vi 0,vw w19,vw w20,vi 0,vi 0,vi 0,vw w21,vn,vn,vn,vz c0])),(7,cb 1 66 4 (eToken x1))] 2 ?_
   refine Rgd hT 2 [6,8,102,103] [(102,bx 0 0),(103,vw a1)] ?_
   obtain ⟨r34,hr34,h⟩:=bsome h
   refine Og [(0,cb 0 64 4 (eReader (Reader.mk a0.T (wr (a0.At + 1)) a0.Fail a0.Bad)))] [(0,cb 0 64 4 (eReader r34.2))] [bx 0 0,vw a1] [bx 0 0,vw a1] [(0,0,0)] [(0,0,0)] [(0,cb 0 64 4 (eReader r34.2))] (eExpr r34.1) (eExpr r34.1) 3 en76 (ref1_Reader_whole_ok hr34) ?_
   refine Sg hT 2 [6,8] ⟨[(6,bx 6 1),(8,bx 8 1)],[(8,cb 1 95 11 (.agg [vi 6,vw w22,vw w23,vi 0,vi r34.1.Kind,vi r34.1.N,vw r34.1.Name,po s_Expr r34.1.Of,vn,vn,vz r2])),(0,cb 0 64 4 (eReader r34.2)),(6,cb 1 95 11 (.agg [vi 0,vw w19,vw w20,vi 0,vi 0,vi 0,vw w21,vn,vn,vn,vz c0])),(7,cb 1 66 4 (eToken x1))],3⟩ ?_
   refine oW [6,8] ⟨[(6,bx 6 1),(8,bx 8 1)],[(8,cb 1 95 11 (.agg [vi 6,vw w22,vw w23,vi 0,vi r34.1.Kind,vi r34.1.N,vw r34.1.Name,po s_Expr r34.1.Of,vn,vn,vz r2])),(0,cb 0 64 4 (eReader r34.2)),(6,cb 1 95 11 (.agg [vi 0,vw w19,vw w20,vi 0,vi 0,vi 0,vw w21,vn,vn,vn,vz c0])),(7,cb 1 66 4 (eToken x1))],3⟩ ?_
   refine WO_weak (wOh 8 5000 8 (cb 1 95 11 (.agg [vi 6,vw w22,vw w23,vi 0,vi r34.1.Kind,vi r34.1.N,vw r34.1.Name,po s_Expr r34.1.Of,vn,vn,vz r2])) (.agg [vi 6,vw w22,vw w23,vi 0,vi r34.1.Kind,vi r34.1.N,vw r34.1.Name,po s_Expr r34.1.Of,vn,vn,vz r2]) (.agg [vi 6,vw w22,vw w23,vi 0,vi r34.1.Kind,vi r34.1.N,vw r34.1.Name,po s_Expr r34.1.Of,vs 5000 3 s_Stmt ([] : List Stmt),vn,vz r2]) 95 11) ?_
   refine WO_weak (wOh 8 5001 9 (cb 1 95 11 (.agg [vi 6,vw w22,vw w23,vi 0,vi r34.1.Kind,vi r34.1.N,vw r34.1.Name,po s_Expr r34.1.Of,vs 5000 3 s_Stmt ([] : List Stmt),vn,vz r2])) (.agg [vi 6,vw w22,vw w23,vi 0,vi r34.1.Kind,vi r34.1.N,vw r34.1.Name,po s_Expr r34.1.Of,vs 5000 3 s_Stmt ([] : List Stmt),vn,vz r2]) (.agg [vi 6,vw w22,vw w23,vi 0,vi r34.1.Kind,vi r34.1.N,vw r34.1.Name,po s_Expr r34.1.Of,vs 5000 3 s_Stmt ([] : List Stmt),vs 5001 4 s_Stmt ([] : List Stmt),vz r2]) 95 11) ?_
   exact oR [(0,0,0),(6,6,1),(8,8,1),(5000,19508,1),(5001,20508,1)] ⟨w19,w20,w21,6,w22,w23,0,r34.1.Kind,r34.1.N,r34.1.Name,r34.1.Of,([] : List Stmt),([] : List Stmt),r34.2,h,rfl⟩
  refine Qzd hT 2 [0,1,2,6,7,8,38,106] [(106,vb (bytesEq x1.Text k_if))] ?_
  refine Ci h (fun h=>?_) fun h=>?_
  ·refine Qzh hT 2 [0,1,2,6,8] [] [(8,cb 1 95 11 (.agg [vi 7,vw w22,vw w23,vi 0,vi 0,vi 0,vw w24,vn,vn,vn,vz r2])),(0,cb 0 64 4 (.agg [po s_Token a0.T,vi (wr (a0.At + 1)),vb a0.Fail,vi a0.Bad])),(6,cb 1 95 11 (.agg [vi 0,vw w19,vw w20,vi 0,vi 0,vi 0,vw w21,vn,vn,vn,vz c0])),(7,cb 1 66 4 (eToken x1))] 2 ?_
   refine Qgd hT 2 [0,1,2,6,8,109,110] [(109,bx 0 0),(110,vw a1)] ?_
   obtain ⟨r35,hr35,h⟩:=bsome h
   refine Og [(0,cb 0 64 4 (eReader (Reader.mk a0.T (wr (a0.At + 1)) a0.Fail a0.Bad)))] [(0,cb 0 64 4 (eReader r35.2))] [bx 0 0,vw a1] [bx 0 0,vw a1] [(0,0,0)] [(0,0,0)] [(0,cb 0 64 4 (eReader r35.2))] (eExpr r35.1) (eExpr r35.1) 3 en76 (ref1_Reader_whole_ok hr35) ?_
   refine Szh hT 2 [0,1,2,6,8] [] [(8,cb 1 95 11 (.agg [vi 7,vw w22,vw w23,vi 0,vi r35.1.Kind,vi r35.1.N,vw r35.1.Name,po s_Expr r35.1.Of,vn,vn,vz r2])),(0,cb 0 64 4 (eReader r35.2)),(6,cb 1 95 11 (.agg [vi 0,vw w19,vw w20,vi 0,vi 0,vi 0,vw w21,vn,vn,vn,vz c0])),(7,cb 1 66 4 (eToken x1))] 3 ?_
   refine Qgd hT 4 [0,1,2,6,8,113,114,116] [(113,bx 0 0),(114,vw a1),(116,vi (wr (a2 + 1)))] ?_
   obtain ⟨r36,hr36,h⟩:=bsome h
   refine Og [(0,cb 0 64 4 (eReader r35.2))] [(0,cb 0 64 4 (eReader r36.2)),(100,rb 1 s_Stmt r36.1)] [bx 0 0,vw a1,vi (wr (a2 + 1))] [bx 0 0,vw a1,vi (wr (a2 + 1))] [(0,0,0)] [(100,117,3),(0,0,0)] [(117,rb 3 s_Stmt r36.1),(0,cb 0 64 4 (eReader r36.2))] (vs 100 1 s_Stmt r36.1) (vs 117 3 s_Stmt r36.1) 4 en30 ((ih _ (by omega)).2 hr36) ?_
   refine Szh hT 2 [0,1,2,6,8] [] [(8,cb 1 95 11 (.agg [vi 7,vw w22,vw w23,vi 0,vi r35.1.Kind,vi r35.1.N,vw r35.1.Name,po s_Expr r35.1.Of,vs 117 3 s_Stmt r36.1,vn,vz r2])),(117,rb 3 s_Stmt r36.1),(0,cb 0 64 4 (eReader r36.2)),(6,cb 1 95 11 (.agg [vi 0,vw w19,vw w20,vi 0,vi 0,vi 0,vw w21,vn,vn,vn,vz c0])),(7,cb 1 66 4 (eToken x1))] 4 ?_
   refine Qgd hT 1 [0,1,2,6,8,119] [(119,bx 0 0)] ?_
   obtain ⟨r37,hr37,h⟩:=bsome h
   refine Ob [0] [bx 0 0,vw k_else] [.ref (eReader r36.2) 0,vw k_else] (vb r37) en29 (ref1_Reader_word_ok hr37) ?_
   refine Szd hT 0 [0,1,2,6,8,120] [(120,vb r37)] ?_
   refine Ci h (fun h=>?_) fun h=>?_
   ·refine Qz hT 8 [0,1,2,6,8] ⟨[(0,bx 0 0),(1,vw a1),(2,vi a2),(6,bx 6 1),(8,bx 8 1)],[(0,cb 0 64 4 (.agg [po s_Token r36.2.T,vi (wr (r36.2.At + 1)),vb r36.2.Fail,vi r36.2.Bad])),(8,cb 1 95 11 (.agg [vi 7,vw w22,vw w23,vi 0,vi r35.1.Kind,vi r35.1.N,vw r35.1.Name,po s_Expr r35.1.Of,vs 117 3 s_Stmt r36.1,vn,vz r2])),(117,rb 3 s_Stmt r36.1),(6,cb 1 95 11 (.agg [vi 0,vw w19,vw w20,vi 0,vi 0,vi 0,vw w21,vn,vn,vn,vz c0])),(7,cb 1 66 4 (eToken x1))],4⟩ ?_
    refine Rgd hT 4 [6,8,128,129,131] [(128,bx 0 0),(129,vw a1),(131,vi (wr (a2 + 1)))] ?_
    obtain ⟨r38,hr38,h⟩:=bsome h
    refine Og [(0,cb 0 64 4 (eReader (Reader.mk r36.2.T (wr (r36.2.At + 1)) r36.2.Fail r36.2.Bad)))] [(0,cb 0 64 4 (eReader r38.2)),(100,rb 1 s_Stmt r38.1)] [bx 0 0,vw a1,vi (wr (a2 + 1))] [bx 0 0,vw a1,vi (wr (a2 + 1))] [(0,0,0)] [(100,132,4),(0,0,0)] [(132,rb 4 s_Stmt r38.1),(0,cb 0 64 4 (eReader r38.2))] (vs 100 1 s_Stmt r38.1) (vs 132 4 s_Stmt r38.1) 5 en30 ((ih _ (by omega)).2 hr38) ?_
    refine Sgh hT 2 [6,8] [] [(8,cb 1 95 11 (.agg [vi 7,vw w22,vw w23,vi 0,vi r35.1.Kind,vi r35.1.N,vw r35.1.Name,po s_Expr r35.1.Of,vs 117 3 s_Stmt r36.1,vs 132 4 s_Stmt r38.1,vz r2])),(132,rb 4 s_Stmt r38.1),(0,cb 0 64 4 (eReader r38.2)),(117,rb 3 s_Stmt r36.1),(6,cb 1 95 11 (.agg [vi 0,vw w19,vw w20,vi 0,vi 0,vi 0,vw w21,vn,vn,vn,vz c0])),(7,cb 1 66 4 (eToken x1))] 5 ?_
    exact oK [6,8] [(0,0,0),(6,6,1),(8,8,1),(117,19508,1),(132,20508,1)] ⟨w19,w20,w21,7,w22,w23,0,r35.1.Kind,r35.1.N,r35.1.Name,r35.1.Of,r36.1,r38.1,r38.2,h,rfl⟩
   refine aW [6,8] ⟨[(6,bx 6 1),(8,bx 8 1)],[(8,cb 1 95 11 (.agg [vi 7,vw w22,vw w23,vi 0,vi r35.1.Kind,vi r35.1.N,vw r35.1.Name,po s_Expr r35.1.Of,vs 117 3 s_Stmt r36.1,vn,vz r2])),(117,rb 3 s_Stmt r36.1),(0,cb 0 64 4 (eReader r36.2)),(6,cb 1 95 11 (.agg [vi 0,vw w19,vw w20,vi 0,vi 0,vi 0,vw w21,vn,vn,vn,vz c0])),(7,cb 1 66 4 (eToken x1))],4⟩ ?_
   refine WA_weak (wOh 8 5000 9 (cb 1 95 11 (.agg [vi 7,vw w22,vw w23,vi 0,vi r35.1.Kind,vi r35.1.N,vw r35.1.Name,po s_Expr r35.1.Of,vs 117 3 s_Stmt r36.1,vn,vz r2])) (.agg [vi 7,vw w22,vw w23,vi 0,vi r35.1.Kind,vi r35.1.N,vw r35.1.Name,po s_Expr r35.1.Of,vs 117 3 s_Stmt r36.1,vn,vz r2]) (.agg [vi 7,vw w22,vw w23,vi 0,vi r35.1.Kind,vi r35.1.N,vw r35.1.Name,po s_Expr r35.1.Of,vs 117 3 s_Stmt r36.1,vs 5000 4 s_Stmt ([] : List Stmt),vz r2]) 95 11) ?_
   exact sR [(0,0,0),(6,6,1),(8,8,1),(117,19508,1),(5000,20508,1)] ⟨w19,w20,w21,7,w22,w23,0,r35.1.Kind,r35.1.N,r35.1.Name,r35.1.Of,r36.1,([] : List Stmt),r36.2,h,rfl⟩
  refine Qzd hT 2 [0,1,2,6,7,8,134] [(134,vb (bytesEq x1.Text k_repeat))] ?_
  refine Ci h (fun h=>?_) fun h=>?_
  ·refine Qzh hT 2 [0,1,2,6,8] [] [(8,cb 1 95 11 (.agg [vi 8,vw w22,vw w23,vi 0,vi 0,vi 0,vw w24,vn,vn,vn,vz r2])),(0,cb 0 64 4 (.agg [po s_Token a0.T,vi (wr (a0.At + 1)),vb a0.Fail,vi a0.Bad])),(6,cb 1 95 11 (.agg [vi 0,vw w19,vw w20,vi 0,vi 0,vi 0,vw w21,vn,vn,vn,vz c0])),(7,cb 1 66 4 (eToken x1))] 2 ?_
   refine Qgd hT 1 [0,1,2,6,8,137] [(137,bx 0 0)] ?_
   obtain ⟨r39,hr39,h⟩:=bsome h
   refine Og [(0,cb 0 64 4 (eReader (Reader.mk a0.T (wr (a0.At + 1)) a0.Fail a0.Bad)))] [(0,cb 0 64 4 (eReader r39.2))] [bx 0 0,vi 9] [bx 0 0,vi 9] [(0,0,0)] [(0,0,0)] [(0,cb 0 64 4 (eReader r39.2))] (vi r39.1) (vi r39.1) 3 en28 (ref1_Reader_number_ok hr39) ?_
   refine Szh hT 2 [0,1,2,6,8] [] [(8,cb 1 95 11 (.agg [vi 8,vw w22,vw w23,vi r39.1,vi 0,vi 0,vw w24,vn,vn,vn,vz r2])),(0,cb 0 64 4 (eReader r39.2)),(6,cb 1 95 11 (.agg [vi 0,vw w19,vw w20,vi 0,vi 0,vi 0,vw w21,vn,vn,vn,vz c0])),(7,cb 1 66 4 (eToken x1))] 3 ?_
   refine Rgd hT 4 [6,8,140,141,143] [(140,bx 0 0),(141,vw a1),(143,vi (wr (a2 + 1)))] ?_
   obtain ⟨r40,hr40,h⟩:=bsome h
   refine Og [(0,cb 0 64 4 (eReader r39.2))] [(0,cb 0 64 4 (eReader r40.2)),(100,rb 1 s_Stmt r40.1)] [bx 0 0,vw a1,vi (wr (a2 + 1))] [bx 0 0,vw a1,vi (wr (a2 + 1))] [(0,0,0)] [(100,144,3),(0,0,0)] [(144,rb 3 s_Stmt r40.1),(0,cb 0 64 4 (eReader r40.2))] (vs 100 1 s_Stmt r40.1) (vs 144 3 s_Stmt r40.1) 4 en30 ((ih _ (by omega)).2 hr40) ?_
   refine Sgh hT 2 [6,8] [] [(8,cb 1 95 11 (.agg [vi 8,vw w22,vw w23,vi r39.1,vi 0,vi 0,vw w24,vn,vs 144 3 s_Stmt r40.1,vn,vz r2])),(144,rb 3 s_Stmt r40.1),(0,cb 0 64 4 (eReader r40.2)),(6,cb 1 95 11 (.agg [vi 0,vw w19,vw w20,vi 0,vi 0,vi 0,vw w21,vn,vn,vn,vz c0])),(7,cb 1 66 4 (eToken x1))] 4 ?_
   refine oW [6,8] ⟨[(6,bx 6 1),(8,bx 8 1)],[(8,cb 1 95 11 (.agg [vi 8,vw w22,vw w23,vi r39.1,vi 0,vi 0,vw w24,vn,vs 144 3 s_Stmt r40.1,vn,vz r2])),(144,rb 3 s_Stmt r40.1),(0,cb 0 64 4 (eReader r40.2)),(6,cb 1 95 11 (.agg [vi 0,vw w19,vw w20,vi 0,vi 0,vi 0,vw w21,vn,vn,vn,vz c0])),(7,cb 1 66 4 (eToken x1))],4⟩ ?_
   refine WO_weak (wOh 8 5000 9 (cb 1 95 11 (.agg [vi 8,vw w22,vw w23,vi r39.1,vi 0,vi 0,vw w24,vn,vs 144 3 s_Stmt r40.1,vn,vz r2])) (.agg [vi 8,vw w22,vw w23,vi r39.1,vi 0,vi 0,vw w24,vn,vs 144 3 s_Stmt r40.1,vn,vz r2]) (.agg [vi 8,vw w22,vw w23,vi r39.1,vi 0,vi 0,vw w24,vn,vs 144 3 s_Stmt r40.1,vs 5000 4 s_Stmt ([] : List Stmt),vz r2]) 95 11) ?_
   refine WO_weak (wL [(6,bx 6 1),(8,bx 8 1)] [(5000,rb 4 s_Stmt ([] : List Stmt)),(8,cb 1 95 11 (.agg [vi 8,vw w22,vw w23,vi r39.1,vi 0,vi 0,vw w24,po s_Expr [],vs 144 3 s_Stmt r40.1,vs 5000 4 s_Stmt ([] : List Stmt),vz r2])),(144,rb 3 s_Stmt r40.1),(0,cb 0 64 4 (eReader r40.2)),(6,cb 1 95 11 (.agg [vi 0,vw w19,vw w20,vi 0,vi 0,vi 0,vw w21,vn,vn,vn,vz c0])),(7,cb 1 66 4 (eToken x1))] ⟨VLf.refl _,VLf.refl _,trivial⟩ ⟨rfl,.inl rfl,rfl,.inr (.inl ⟨rfl,rfl,CLe.agg ⟨VLf.refl _,VLf.refl _,VLf.refl _,VLf.refl _,VLf.refl _,VLf.refl _,VLf.refl _,(VLe.f VLe.nil_opt rfl),VLf.refl _,VLf.refl _,VLf.refl _,trivial⟩,trivial⟩),rfl,.inl rfl,rfl,.inl rfl,rfl,.inl rfl,rfl,.inl rfl,trivial⟩) ?_
   exact oR [(0,0,0),(6,6,1),(8,8,1),(144,19508,1),(5000,20508,1)] ⟨w19,w20,w21,8,w22,w23,r39.1,0,0,w24,[],r40.1,([] : List Stmt),r40.2,h,rfl⟩
  refine WA_seq ?_
  refine Qg hT 2 [0,1,6,7,8,40] ⟨[(0,bx 0 0),(1,vw a1),(6,bx 6 1),(7,bx 7 1),(8,bx 8 1),(40,vw x1.Text)],[(0,cb 0 64 4 (.agg [po s_Token a0.T,vi (wr (a0.At + 1)),vb a0.Fail,vi a0.Bad])),(6,cb 1 95 11 (.agg [vi 0,vw w19,vw w20,vi 0,vi 0,vi 0,vw w21,vn,vn,vn,vz c0])),(7,cb 1 66 4 (eToken x1)),(8,cb 1 95 11 (.agg [vi 0,vw w22,vw w23,vi 0,vi 0,vi 0,vw w24,vn,vn,vn,vz r2]))],2⟩ ?_
  obtain ⟨r41,hr41,h⟩:=bsome h
  refine Pt' en50 (ref1_Keyword_ok hr41) ?_
  refine Szd hT 0 [0,1,6,7,8,41] [(41,vb r41)] ?_
  refine Ci h (fun h=>?_) fun h=>?_
  ·refine Qgd hT 6 [6,8,42,47] [(42,bx 0 0),(47,vi (wr ((wr (a0.At + 1)) - 1)))] ?_
   obtain ⟨r42,hr42,h⟩:=bsome h
   refine Og [(0,cb 0 64 4 (eReader (Reader.mk a0.T (wr (a0.At + 1)) a0.Fail a0.Bad)))] [(0,cb 0 64 4 (eReader r42))] [bx 0 0,vi (wr ((wr (a0.At + 1)) - 1))] [bx 0 0,vi (wr ((wr (a0.At + 1)) - 1))] [(0,0,0)] [(0,0,0)] [(0,cb 0 64 4 (eReader r42))] (.tup []) (.tup []) 3 en48 (ref1_Reader_failAt_ok hr42) ?_
   refine Szh hT 0 [6,8] [] [(0,cb 0 64 4 (eReader r42)),(6,cb 1 95 11 (.agg [vi 0,vw w19,vw w20,vi 0,vi 0,vi 0,vw w21,vn,vn,vn,vz c0])),(7,cb 1 66 4 (eToken x1)),(8,cb 1 95 11 (.agg [vi 0,vw w22,vw w23,vi 0,vi 0,vi 0,vw w24,vn,vn,vn,vz r2]))] 3 ?_
   refine Qz hT 2 [6] ⟨[(6,bx 6 1)],[(6,cb 1 95 11 (.agg [vi 0,vw w22,vw w23,vi 0,vi 0,vi 0,vw w24,vn,vn,vn,vz r2])),(0,cb 0 64 4 (eReader r42)),(7,cb 1 66 4 (eToken x1)),(8,cb 1 95 11 (.agg [vi 0,vw w22,vw w23,vi 0,vi 0,vi 0,vw w24,vn,vn,vn,vz r2]))],3⟩ ?_
   refine aW [6] ⟨[(6,bx 6 1)],[(6,cb 1 95 11 (.agg [vi 0,vw w22,vw w23,vi 0,vi 0,vi 0,vw w24,vn,vn,vn,vz r2])),(0,cb 0 64 4 (eReader r42)),(7,cb 1 66 4 (eToken x1)),(8,cb 1 95 11 (.agg [vi 0,vw w22,vw w23,vi 0,vi 0,vi 0,vw w24,vn,vn,vn,vz r2]))],3⟩ ?_
   refine WA_weak (wL [(6,bx 6 1)] [(6,cb 1 95 11 (eStmt (Stmt.mk 0 w22 w23 0 (Expr.mk 0 0 w24 []) [] [] r2))),(0,cb 0 64 4 (eReader r42)),(7,cb 1 66 4 (eToken x1)),(8,cb 1 95 11 (.agg [vi 0,vw w22,vw w23,vi 0,vi 0,vi 0,vw w24,vn,vn,vn,vz r2]))] ⟨VLf.refl _,trivial⟩ ⟨rfl,.inr (.inl ⟨rfl,rfl,CLe.agg ⟨VLf.refl _,VLf.refl _,VLf.refl _,VLf.refl _,VLf.refl _,VLf.refl _,VLf.refl _,(VLe.f VLe.nil_opt rfl),(VLe.f VLe.nil_opt rfl),(VLe.f VLe.nil_opt rfl),VLf.refl _,trivial⟩,trivial⟩),rfl,.inl rfl,rfl,.inl rfl,rfl,.inl rfl,trivial⟩) ?_
   obtain rfl:=Option.some.inj h
   exact rR [(0,0,0),(6,1000,1)] ⟨[(6,bx 1000 1)],[(0,cb 0 64 4 (eReader r42)),(1000,cb 1 95 11 (eStmt (Stmt.mk 0 w22 w23 0 (Expr.mk 0 0 w24 []) [] [] r2)))],2⟩ ⟨by kernel_rfl,by kernel_rfl,rfl⟩
  refine WA_skip ?_
  refine Qzh hT 2 [0,1,6,7,8] [] [(8,cb 1 95 11 (.agg [vi 1,vw w22,vw w23,vi 0,vi 0,vi 0,vw w24,vn,vn,vn,vz r2])),(0,cb 0 64 4 (.agg [po s_Token a0.T,vi (wr (a0.At + 1)),vb a0.Fail,vi a0.Bad])),(6,cb 1 95 11 (.agg [vi 0,vw w19,vw w20,vi 0,vi 0,vi 0,vw w21,vn,vn,vn,vz c0])),(7,cb 1 66 4 (eToken x1))] 2 ?_
  refine Qzh hT 4 [0,1,6,8] [] [(8,cb 1 95 11 (.agg [vi 1,vw x1.Text,vw w23,vi 0,vi 0,vi 0,vw w24,vn,vn,vn,vz r2])),(0,cb 0 64 4 (.agg [po s_Token a0.T,vi (wr (a0.At + 1)),vb a0.Fail,vi a0.Bad])),(6,cb 1 95 11 (.agg [vi 0,vw w19,vw w20,vi 0,vi 0,vi 0,vw w21,vn,vn,vn,vz c0])),(7,cb 1 66 4 (eToken x1))] 2 ?_
  refine Qgd hT 1 [0,1,6,8,54] [(54,bx 0 0)] ?_
  obtain ⟨r43,hr43,h⟩:=bsome h
  refine Og [(0,cb 0 64 4 (eReader (Reader.mk a0.T (wr (a0.At + 1)) a0.Fail a0.Bad)))] [(0,cb 0 64 4 (eReader r43))] [bx 0 0,vw x_3d] [bx 0 0,vw x_3d] [(0,0,0)] [(0,0,0)] [(0,cb 0 64 4 (eReader r43))] (.tup []) (.tup []) 3 en51 (ref1_Reader_must_ok hr43) ?_
  refine Szh hT 0 [0,1,6,8] [] [(0,cb 0 64 4 (eReader r43)),(8,cb 1 95 11 (.agg [vi 1,vw x1.Text,vw w23,vi 0,vi 0,vi 0,vw w24,vn,vn,vn,vz r2])),(6,cb 1 95 11 (.agg [vi 0,vw w19,vw w20,vi 0,vi 0,vi 0,vw w21,vn,vn,vn,vz c0])),(7,cb 1 66 4 (eToken x1))] 3 ?_
  refine Rgd hT 2 [6,8,56,57] [(56,bx 0 0),(57,vw a1)] ?_
  obtain ⟨r44,hr44,h⟩:=bsome h
  refine Og [(0,cb 0 64 4 (eReader r43))] [(0,cb 0 64 4 (eReader r44.2))] [bx 0 0,vw a1] [bx 0 0,vw a1] [(0,0,0)] [(0,0,0)] [(0,cb 0 64 4 (eReader r44.2))] (eExpr r44.1) (eExpr r44.1) 4 en76 (ref1_Reader_whole_ok hr44) ?_
  refine Sgh hT 2 [6,8] [] [(8,cb 1 95 11 (.agg [vi 1,vw x1.Text,vw w23,vi 0,vi r44.1.Kind,vi r44.1.N,vw r44.1.Name,po s_Expr r44.1.Of,vn,vn,vz r2])),(0,cb 0 64 4 (eReader r44.2)),(6,cb 1 95 11 (.agg [vi 0,vw w19,vw w20,vi 0,vi 0,vi 0,vw w21,vn,vn,vn,vz c0])),(7,cb 1 66 4 (eToken x1))] 4 ?_
  refine oW [6,8] ⟨[(6,bx 6 1),(8,bx 8 1)],[(8,cb 1 95 11 (.agg [vi 1,vw x1.Text,vw w23,vi 0,vi r44.1.Kind,vi r44.1.N,vw r44.1.Name,po s_Expr r44.1.Of,vn,vn,vz r2])),(0,cb 0 64 4 (eReader r44.2)),(6,cb 1 95 11 (.agg [vi 0,vw w19,vw w20,vi 0,vi 0,vi 0,vw w21,vn,vn,vn,vz c0])),(7,cb 1 66 4 (eToken x1))],4⟩ ?_
  refine WO_weak (wOh 8 5000 8 (cb 1 95 11 (.agg [vi 1,vw x1.Text,vw w23,vi 0,vi r44.1.Kind,vi r44.1.N,vw r44.1.Name,po s_Expr r44.1.Of,vn,vn,vz r2])) (.agg [vi 1,vw x1.Text,vw w23,vi 0,vi r44.1.Kind,vi r44.1.N,vw r44.1.Name,po s_Expr r44.1.Of,vn,vn,vz r2]) (.agg [vi 1,vw x1.Text,vw w23,vi 0,vi r44.1.Kind,vi r44.1.N,vw r44.1.Name,po s_Expr r44.1.Of,vs 5000 4 s_Stmt ([] : List Stmt),vn,vz r2]) 95 11) ?_
  refine WO_weak (wOh 8 5001 9 (cb 1 95 11 (.agg [vi 1,vw x1.Text,vw w23,vi 0,vi r44.1.Kind,vi r44.1.N,vw r44.1.Name,po s_Expr r44.1.Of,vs 5000 4 s_Stmt ([] : List Stmt),vn,vz r2])) (.agg [vi 1,vw x1.Text,vw w23,vi 0,vi r44.1.Kind,vi r44.1.N,vw r44.1.Name,po s_Expr r44.1.Of,vs 5000 4 s_Stmt ([] : List Stmt),vn,vz r2]) (.agg [vi 1,vw x1.Text,vw w23,vi 0,vi r44.1.Kind,vi r44.1.N,vw r44.1.Name,po s_Expr r44.1.Of,vs 5000 4 s_Stmt ([] : List Stmt),vs 5001 5 s_Stmt ([] : List Stmt),vz r2]) 95 11) ?_
  exact oR [(0,0,0),(6,6,1),(8,8,1),(5000,19508,1),(5001,20508,1)] ⟨w19,w20,w21,1,x1.Text,w23,0,r44.1.Kind,r44.1.N,r44.1.Name,r44.1.Of,([] : List Stmt),([] : List Stmt),r44.2,h,rfl⟩
 subst hJ18
 rintro s ⟨w4,w5,w6,i7,w8,w9,i10,i11,i12,w13,l14,l15,l16,v17,h,rfl⟩
 refine Qz hT 2 [6] ⟨[(6,bx 6 1)],[(6,cb 1 95 11 (.agg [vi i7,vw w8,vw w9,vi i10,vi i11,vi i12,vw w13,po s_Expr l14,vs 19508 1 s_Stmt l15,vs 20508 1 s_Stmt l16,vz r2])),(0,cb 0 64 4 (eReader v17)),(8,cb 1 95 11 (.agg [vi i7,vw w8,vw w9,vi i10,vi i11,vi i12,vw w13,po s_Expr l14,vs 19508 1 s_Stmt l15,vs 20508 1 s_Stmt l16,vz r2])),(19508,rb 1 s_Stmt l15),(20508,rb 1 s_Stmt l16)],2⟩ ?_
 refine aW [6] ⟨[(6,bx 6 1)],[(6,cb 1 95 11 (.agg [vi i7,vw w8,vw w9,vi i10,vi i11,vi i12,vw w13,po s_Expr l14,vs 19508 1 s_Stmt l15,vs 20508 1 s_Stmt l16,vz r2])),(0,cb 0 64 4 (eReader v17)),(8,cb 1 95 11 (.agg [vi i7,vw w8,vw w9,vi i10,vi i11,vi i12,vw w13,po s_Expr l14,vs 19508 1 s_Stmt l15,vs 20508 1 s_Stmt l16,vz r2])),(19508,rb 1 s_Stmt l15),(20508,rb 1 s_Stmt l16)],2⟩ ?_
 refine WA_weak (wF 19508 1 (rb 1 s_Stmt l15) [(6,bx 6 1)] [(6,cb 1 95 11 (.agg [vi i7,vw w8,vw w9,vi i10,vi i11,vi i12,vw w13,po s_Expr l14,po s_Stmt l15,vs 20508 1 s_Stmt l16,vz r2])),(0,cb 0 64 4 (eReader v17)),(8,cb 1 95 11 (.agg [vi i7,vw w8,vw w9,vi i10,vi i11,vi i12,vw w13,po s_Expr l14,po s_Stmt l15,vs 20508 1 s_Stmt l16,vz r2])),(20508,rb 1 s_Stmt l16)] ⟨rfl,.keep _,trivial⟩ ⟨rfl,.inr ⟨rfl,rfl,.aggs ⟨.keep _,.keep _,.keep _,.keep _,.keep _,.keep _,.keep _,.keep _,.hit true,.keep _,.keep _,trivial⟩,trivial⟩,rfl,.inl rfl,rfl,.inr ⟨rfl,rfl,.aggs ⟨.keep _,.keep _,.keep _,.keep _,.keep _,.keep _,.keep _,.keep _,.hit true,.keep _,.keep _,trivial⟩,trivial⟩,rfl,.inl rfl,trivial⟩) ?_
 refine WA_weak (wF 20508 1 (rb 1 s_Stmt l16) [(6,bx 6 1)] [(6,cb 1 95 11 (.agg [vi i7,vw w8,vw w9,vi i10,vi i11,vi i12,vw w13,po s_Expr l14,po s_Stmt l15,po s_Stmt l16,vz r2])),(0,cb 0 64 4 (eReader v17)),(8,cb 1 95 11 (.agg [vi i7,vw w8,vw w9,vi i10,vi i11,vi i12,vw w13,po s_Expr l14,po s_Stmt l15,po s_Stmt l16,vz r2]))] ⟨rfl,.keep _,trivial⟩ ⟨rfl,.inr ⟨rfl,rfl,.aggs ⟨.keep _,.keep _,.keep _,.keep _,.keep _,.keep _,.keep _,.keep _,.keep _,.hit true,.keep _,trivial⟩,trivial⟩,rfl,.inl rfl,rfl,.inr ⟨rfl,rfl,.aggs ⟨.keep _,.keep _,.keep _,.keep _,.keep _,.keep _,.keep _,.keep _,.keep _,.hit true,.keep _,trivial⟩,trivial⟩,trivial⟩) ?_
 refine WA_weak (wL [(6,bx 6 1)] [(6,cb 1 95 11 (eStmt (Stmt.mk i7 w8 w9 i10 (Expr.mk i11 i12 w13 l14) l15 l16 r2))),(0,cb 0 64 4 (eReader v17)),(8,cb 1 95 11 (.agg [vi i7,vw w8,vw w9,vi i10,vi i11,vi i12,vw w13,po s_Expr l14,po s_Stmt l15,po s_Stmt l16,vz r2]))] ⟨VLf.refl _,trivial⟩ ⟨rfl,.inr (.inl ⟨rfl,rfl,CLe.agg ⟨VLf.refl _,VLf.refl _,VLf.refl _,VLf.refl _,VLf.refl _,VLf.refl _,VLf.refl _,VLf.refl _,VLf.refl _,VLf.refl _,VLf.refl _,trivial⟩,trivial⟩),rfl,.inl rfl,rfl,.inl rfl,trivial⟩) ?_
 obtain rfl:=Option.some.inj h
 exact rR [(0,0,0),(6,1000,1)] ⟨[(6,bx 1000 1)],[(0,cb 0 64 4 (eReader v17)),(1000,cb 1 95 11 (eStmt (Stmt.mk i7 w8 w9 i10 (Expr.mk i11 i12 w13 l14) l15 l16 r2)))],2⟩ ⟨by kernel_rfl,by kernel_rfl,rfl⟩
theorem ref1_Reader_block_step (n : Nat) (ih : ∀ m,m < n → ref1_Reader_stmt_spec m) : ∀ {a0 : Reader} {a1 : ByteArray} {a2 : Int} {r : (List Stmt) × Reader},ref1_Reader_block n a0 a1 a2 = some r → GO Try.prog 30 [(0,cb 0 64 4 (eReader a0))] [bx 0 0,vw a1,vi a2] (vs 100 1 s_Stmt r.1) [(0,cb 0 64 4 (eReader r.2)),(100,rb 1 s_Stmt r.1)]:=by
 intro a0 a1 a2 r h
 rcases n with _ | n
 ·rw [ref1_Reader_block] at h; cases h
 rw [ref1_Reader_block] at h
 refine GO_bodyA hT Try.func30 rfl [] (by kernel_rfl) fun bad w m=>?_
 refine Qzd hT 1 [0,1,2] [] ?_
 refine WA_seq ?_
 refine Qzd hT 2 [0,1,2,10] [(10,vb (decide (a2 > 8)))] ?_
 obtain ⟨J2,hJ2,h⟩:=jsome h
 refine WA_join (fun s=>∃ (v1 : Reader),J2 v1 = some r ∧ s = ⟨[(0,bx 0 0),(1,vw a1),(2,vi a2)],[(0,cb 0 64 4 (eReader v1))],2⟩) ?_ ?_
 ·refine Ci h (fun h=>?_) fun h=>?_
  ·refine Rgd hT 1 [0,1,2,11] [(11,bx 0 0)] ?_
   obtain ⟨r3,hr3,h⟩:=bsome h
   refine Og [(0,cb 0 64 4 (eReader a0))] [(0,cb 0 64 4 (eReader r3))] [bx 0 0] [bx 0 0] [(0,0,0)] [(0,0,0)] [(0,cb 0 64 4 (eReader r3))] (.tup []) (.tup []) 2 en25 (ref1_Reader_fail_ok hr3) ?_
   refine Sgh hT 0 [0,1,2] [] [(0,cb 0 64 4 (eReader r3))] 2 ?_
   exact oK [0,1,2] [(0,0,0)] ⟨r3,h,rfl⟩
  exact sK [0,1,2] [(0,0,0)] ⟨a0,h,rfl⟩
 subst hJ2
 rintro s ⟨v1,h,rfl⟩
 refine Qgd hT 1 [0,1,2,13] [(13,bx 0 0)] ?_
 obtain ⟨r4,hr4,h⟩:=bsome h
 refine Og [(0,cb 0 64 4 (eReader v1))] [(0,cb 0 64 4 (eReader r4))] [bx 0 0,vw x_7b] [bx 0 0,vw x_7b] [(0,0,0)] [(0,0,0)] [(0,cb 0 64 4 (eReader r4))] (.tup []) (.tup []) 3 en51 (ref1_Reader_must_ok hr4) ?_
 refine Szh hT 0 [0,1,2] [] [(0,cb 0 64 4 (eReader r4))] 3 ?_
 refine Qz hT 1 [0,1,2,7] ⟨[(0,bx 0 0),(1,vw a1),(2,vi a2),(7,vn)],[(0,cb 0 64 4 (eReader r4))],3⟩ ?_
 refine WA_seq ?_
 refine WA_block ?_
 refine aW [0,1,2,7] ⟨[(0,bx 0 0),(1,vw a1),(2,vi a2),(7,vn)],[(0,cb 0 64 4 (eReader r4))],3⟩ ?_
 refine WA_weak (wO 7 5000 95 11) ?_
 refine lK [0,1,2,7] [(0,0,0),(5000,10007,1)] (fun k s=>∃ q,q ≤ k ∧ q ≤ n ∧ ∃ (v5 : Reader),∃ (l6 : List Stmt),ref1_Reader_block_L0 q a0 a1 a2 v1 r4 v5 l6 = some r ∧ s = ⟨[(0,bx 0 0),(1,vw a1),(2,vi a2),(7,vs 10007 1 s_Stmt l6)],[(0,cb 0 64 4 (eReader v5)),(10007,rb 1 s_Stmt l6)],2⟩) n ⟨n,Nat.le_refl _,Nat.le_refl _,r4,([] : List Stmt),h,rfl⟩ (by rintro s ⟨q,hq,_,v5,l6,h,_⟩; obtain rfl:=Nat.le_zero.1 hq; rw [ref1_Reader_block_L0] at h; cases h) ?_
 clear h
 rintro k1 s ⟨q1,hk1,hn1,v5,l6,h,rfl⟩
 rcases q1 with _ | q1
 ·rw [ref1_Reader_block_L0] at h; cases h
 rw [ref1_Reader_block_L0] at h
 refine WA_seq ?_
 refine WA_seq ?_
 obtain ⟨J8,hJ8,h⟩:=jsome h
 refine WA_join (fun s=>∃ (b7 : Bool),J8 b7 = some r ∧ s = ⟨[(0,bx 0 0),(1,vw a1),(2,vi a2),(7,vs 10007 1 s_Stmt l6),(24,vb b7)],[(0,cb 0 64 4 (eReader v5)),(10007,rb 1 s_Stmt l6)],2⟩) ?_ ?_
 ·refine Rgd hT 6 [0,1,2,7,20] [(20,vb (!v5.Fail))] ?_
  cases hb : (!v5.Fail : Bool)
  ·replace h:=cfalse hb h
   refine Sgd hT 4 [0,1,2,7,24] [(24,vb false)] ?_
   exact oK [0,1,2,7,24] [(0,0,0),(10007,10007,1)] ⟨false,h,rfl⟩
  replace h:=ctrue hb h
  refine Sgd hT 1 [0,1,2,7,20,21] [(21,bx 0 0)] ?_
  obtain ⟨r9,hr9,h⟩:=bsome h
  refine Ob [0] [bx 0 0,vw x_7d] [.ref (eReader v5) 0,vw x_7d] (vb r9) en52 (ref1_Reader_sign_ok hr9) ?_
  refine Sg hT 2 [0,1,2,7,24] ⟨[(0,bx 0 0),(1,vw a1),(2,vi a2),(7,vs 10007 1 s_Stmt l6),(24,vb (!r9))],[(0,cb 0 64 4 (eReader v5)),(10007,rb 1 s_Stmt l6)],2⟩ ?_
  exact oK [0,1,2,7,24] [(0,0,0),(10007,10007,1)] ⟨!r9,h,rfl⟩
 subst hJ8
 rintro s ⟨b7,h,rfl⟩
 refine Ci h (fun h=>?_) fun h=>?_
 ·refine WA_skip ?_
  refine WA_block ?_
  refine Qgd hT 3 [0,1,2,7,25,26,27] [(25,bx 0 0),(26,vw a1),(27,vi a2)] ?_
  obtain ⟨r10,hr10,h⟩:=bsome h
  refine Og [(0,cb 0 64 4 (eReader v5))] [(0,cb 0 64 4 (eReader r10.2))] [bx 0 0,vw a1,vi a2] [bx 0 0,vw a1,vi a2] [(0,0,0)] [(0,0,0)] [(0,cb 0 64 4 (eReader r10.2))] (eStmt r10.1) (eStmt r10.1) 3 en53 ((ih _ (by omega)).1 hr10) ?_
  refine Szh hT 2 [0,1,2,7,8] [(8,bx 8 3)] [(8,cb 3 95 11 (eStmt r10.1)),(0,cb 0 64 4 (eReader r10.2)),(10007,rb 1 s_Stmt l6)] 4 ?_
  refine Qzd hT 5 [0,1,2,7,8,33] [(33,vb (!r10.2.Fail))] ?_
  refine Ci h (fun h=>?_) fun h=>?_
  ·refine Rgd hT 2 [0,1,2,34,35] [(34,vs 10007 1 s_Stmt l6),(35,eStmt r10.1)] ?_
   refine One' hT rfl (ev_bslice s_Stmt 36 [r10.1] (by kernel_rfl)) ?_
   refine Sgh hT 0 [0,1,2,34,36] [(36,vs 36 4 s_Stmt [r10.1])] [(36,⟨4,95,11,false,false,s_Stmt.F [r10.1]⟩),(8,cb 3 95 11 (eStmt r10.1)),(0,cb 0 64 4 (eReader r10.2)),(10007,rb 1 s_Stmt l6)] 5 ?_
   obtain ⟨g11,h⟩:=gsome h
   refine Oa hT s_Stmt 10007 1 true l6 [r10.1] (eO s_Stmt 36 4 true ⟨4,95,11,false,false,s_Stmt.F [r10.1]⟩ [r10.1]) g11 ?_
   refine Sgh hT 1 [0,1,2,7] [(7,vs 37 5 s_Stmt (l6 ++ [r10.1]))] [(37,rb 5 s_Stmt (l6 ++ [r10.1])),(36,⟨4,95,11,false,false,s_Stmt.F [r10.1]⟩),(8,cb 3 95 11 (eStmt r10.1)),(0,cb 0 64 4 (eReader r10.2))] 6 ?_
   exact oK [0,1,2,7] [(0,0,0),(37,10007,1)] ⟨_,by omega,by omega,r10.2,l6 ++ [r10.1],h,rfl⟩
  exact sK [0,1,2,7] [(0,0,0),(10007,10007,1)] ⟨_,by omega,by omega,r10.2,l6,h,rfl⟩
 refine WA_exit ?_
 refine Qgd hT 1 [7,38] [(38,bx 0 0)] ?_
 obtain ⟨r12,hr12,h⟩:=bsome h
 refine Og [(0,cb 0 64 4 (eReader v5))] [(0,cb 0 64 4 (eReader r12))] [bx 0 0,vw x_7d] [bx 0 0,vw x_7d] [(0,0,0)] [(0,0,0)] [(0,cb 0 64 4 (eReader r12))] (.tup []) (.tup []) 3 en51 (ref1_Reader_must_ok hr12) ?_
 refine Szh hT 0 [7] [] [(0,cb 0 64 4 (eReader r12)),(10007,rb 1 s_Stmt l6)] 3 ?_
 refine Qz hT 2 [6] ⟨[(6,vs 10007 1 s_Stmt l6)],[(0,cb 0 64 4 (eReader r12)),(10007,rb 1 s_Stmt l6)],3⟩ ?_
 obtain rfl:=Option.some.inj h
 exact rK [6] [(0,0,0),(10007,100,1)] ⟨[(6,vs 100 1 s_Stmt l6)],[(0,cb 0 64 4 (eReader r12)),(100,rb 1 s_Stmt l6)],2⟩ ⟨by kernel_rfl,by kernel_rfl,rfl⟩
theorem ref1_Reader_stmt_all (n : Nat) : ref1_Reader_stmt_spec n:=by
 induction n using Nat.strongRecOn with
 | _ n ih=>exact ⟨ref1_Reader_stmt_step n ih,ref1_Reader_block_step n ih⟩
theorem ref1_Reader_block_ok {n : Nat} {a0 : Reader} {a1 : ByteArray} {a2 : Int} {r : (List Stmt) × Reader} (h : ref1_Reader_block n a0 a1 a2 = some r) : GO Try.prog 30 [(0,cb 0 64 4 (eReader a0))] [bx 0 0,vw a1,vi a2] (vs 100 1 s_Stmt r.1) [(0,cb 0 64 4 (eReader r.2)),(100,rb 1 s_Stmt r.1)]:=(ref1_Reader_stmt_all n).2 h
theorem ref1_Parse_ok {n : Nat} {a0 : ByteArray} {r : Prog × Int × Int} (h : ref1_Parse n a0 = some r) : PT Try.prog 10 [vw a0] (.tup [eProg r.1,vi r.2.1,vi r.2.2]):=by
 unfold ref1_Parse at h
 refine PT_bodyA hT Try.func10 rfl (by kernel_rfl) fun bad w=>?_
 refine Qz hT 3 [0,2] ⟨[(0,vw a0),(2,bx 2 0)],[(2,cb 0 26 2 (.agg [vn,vn]))],1⟩ ?_
 refine Qgd hT 1 [0,2,12] [(12,vw a0)] ?_
 obtain ⟨r1,hr1,h⟩:=bsome h
 refine Og [] [(100,rb 1 s_Token r1.1)] [vw a0] [vw a0] [] [(100,13,1)] [(13,rb 1 s_Token r1.1)] (.tup [vs 100 1 s_Token r1.1,vi r1.2.1,vi r1.2.2]) (.tup [vs 13 1 s_Token r1.1,vi r1.2.1,vi r1.2.2]) 2 en23 (ref1_Tokens_ok hr1) ?_
 refine Szh hT 7 [0,2,5,6,7] [(5,vs 13 1 s_Token r1.1),(6,vi r1.2.1),(7,vi r1.2.2)] [(13,rb 1 s_Token r1.1),(2,cb 0 26 2 (.agg [vn,vn]))] 2 ?_
 refine WA_seq ?_
 refine Qzd hT 2 [0,2,5,6,7,18] [(18,vb (r1.2.2 != 0))] ?_
 refine Ci h (fun h=>?_) fun h=>?_
 ·refine Qz hT 6 [2,3,4] ⟨[(2,bx 2 0),(3,vi r1.2.1),(4,vi r1.2.2)],[(2,cb 0 26 2 (.agg [vn,vn])),(13,rb 1 s_Token r1.1)],2⟩ ?_
  refine aW [2,3,4] ⟨[(2,bx 2 0),(3,vi r1.2.1),(4,vi r1.2.2)],[(2,cb 0 26 2 (.agg [vn,vn])),(13,rb 1 s_Token r1.1)],2⟩ ?_
  refine WA_weak (wL [(2,bx 2 0),(3,vi r1.2.1),(4,vi r1.2.2)] [(2,cb 0 26 2 (eProg (Prog.mk [] []))),(13,rb 1 s_Token r1.1)] ⟨VLf.refl _,VLf.refl _,VLf.refl _,trivial⟩ ⟨rfl,.inr (.inl ⟨rfl,rfl,CLe.agg ⟨(VLe.f VLe.nil_opt rfl),(VLe.f VLe.nil_opt rfl),trivial⟩,trivial⟩),rfl,.inl rfl,trivial⟩) ?_
  obtain rfl:=Option.some.inj h
  exact rR [(2,1000,0)] ⟨[(2,bx 1000 0),(3,vi r1.2.1),(4,vi r1.2.2)],[(1000,cb 0 26 2 (eProg (Prog.mk [] [])))],1⟩ ⟨by kernel_rfl,rfl⟩
 refine WA_skip ?_
 refine Qgd hT 1 [0,2,5,22] [(22,vs 13 1 s_Token r1.1)] ?_
 refine WO_weak (wF 13 1 (rb 1 s_Token r1.1) [(0,vw a0),(2,bx 2 0),(5,po s_Token r1.1),(22,po s_Token r1.1)] [(2,cb 0 26 2 (.agg [vn,vn]))] ⟨rfl,.keep _,rfl,.keep _,rfl,.hit true,rfl,.hit true,trivial⟩ ⟨rfl,.inl rfl,trivial⟩) ?_
 refine Szh hT 3 [0,2,5,8] [(8,bx 24 2)] [(24,cb 2 64 4 (.agg [po s_Token r1.1,vi 0,vb false,vi 0])),(2,cb 0 26 2 (.agg [vn,vn]))] 3 ?_
 refine Qzh hT 3 [0,2,5,8,9] [(9,bx 9 3)] [(9,cb 3 26 2 (.agg [vn,vn])),(24,cb 2 64 4 (.agg [po s_Token r1.1,vi 0,vb false,vi 0])),(2,cb 0 26 2 (.agg [vn,vn]))] 4 ?_
 refine WA_seq ?_
 obtain ⟨J7,hJ7,h⟩:=jsome h
 refine WA_join (fun s=>∃ (l2 : List Token),∃ (i3 : Int),∃ (b4 : Bool),∃ (i5 : Int),∃ (l6 : List Decl),J7 l2 i3 b4 i5 l6 = some r ∧ s = ⟨[(0,vw a0),(2,bx 2 0),(5,po s_Token r1.1),(8,bx 24 0),(9,bx 9 0)],[(2,cb 0 26 2 (.agg [vn,vn])),(9,cb 0 26 2 (.agg [vs 11509 0 s_Decl l6,vn])),(24,cb 0 64 4 (.agg [po s_Token l2,vi i3,vb b4,vi i5])),(11509,rb 0 s_Decl l6)],1⟩) ?_ ?_
 ·refine WA_block ?_
  refine aW [0,2,5,8,9] ⟨[(0,vw a0),(2,bx 2 0),(5,po s_Token r1.1),(8,bx 24 2),(9,bx 9 3)],[(9,cb 3 26 2 (.agg [vn,vn])),(24,cb 2 64 4 (.agg [po s_Token r1.1,vi 0,vb false,vi 0])),(2,cb 0 26 2 (.agg [vn,vn]))],4⟩ ?_
  refine WA_weak (wOh 9 5000 0 (cb 3 26 2 (.agg [vn,vn])) (.agg [vn,vn]) (.agg [vs 5000 4 s_Decl ([] : List Decl),vn]) 71 4) ?_
  refine lR [(2,2,0),(9,9,0),(24,24,0),(5000,11509,0)] (fun k s=>∃ q,q ≤ k ∧ q ≤ n ∧ ∃ (l8 : List Token),∃ (i9 : Int),∃ (b10 : Bool),∃ (i11 : Int),∃ (l12 : List Decl),ref1_Parse_L0 q a0 r1 J7 l8 i9 b10 i11 l12 = some r ∧ s = ⟨[(0,vw a0),(2,bx 2 0),(5,po s_Token r1.1),(8,bx 24 0),(9,bx 9 0)],[(2,cb 0 26 2 (.agg [vn,vn])),(9,cb 0 26 2 (.agg [vs 11509 0 s_Decl l12,vn])),(24,cb 0 64 4 (.agg [po s_Token l8,vi i9,vb b10,vi i11])),(11509,rb 0 s_Decl l12)],1⟩) n ⟨n,Nat.le_refl _,Nat.le_refl _,r1.1,0,false,0,([] : List Decl),h,rfl⟩ (by rintro s ⟨q,hq,_,l8,i9,b10,i11,l12,h,_⟩; obtain rfl:=Nat.le_zero.1 hq; rw [ref1_Parse_L0] at h; cases h) ?_
  clear h
  rintro k1 s ⟨q1,hk1,hn1,l8,i9,b10,i11,l12,h,rfl⟩
  rcases q1 with _ | q1
  ·rw [ref1_Parse_L0] at h; cases h
  rw [ref1_Parse_L0] at h
  refine WA_seq ?_
  refine WA_seq ?_
  obtain ⟨J14,hJ14,h⟩:=jsome h
  refine WA_join (fun s=>∃ (b13 : Bool),J14 b13 = some r ∧ s = ⟨[(0,vw a0),(2,bx 2 0),(5,po s_Token r1.1),(8,bx 24 0),(9,bx 9 0),(59,vb b13)],[(2,cb 0 26 2 (.agg [vn,vn])),(9,cb 0 26 2 (.agg [vs 11509 0 s_Decl l12,vn])),(24,cb 0 64 4 (.agg [po s_Token l8,vi i9,vb b10,vi i11])),(11509,rb 0 s_Decl l12)],1⟩) ?_ ?_
  ·refine WA_drawW hT hM (by kernel_rfl) ?_
   refine Ds 6 [(31,vb (!b10)),(30,vb (!b10)),(29,vb b10),(28,.box 24 0 0 2),(27,bx 24 0),(26,bx 24 0)] [] [(1,[24]),(2,[24]),(3,[24])] ?_
   cases hb : (!b10 : Bool)
   ·replace h:=cfalse hb h
    refine Ds 28 [(59,vb false),(58,vU),(57,vU),(56,vU),(55,vU),(54,vU),(53,vU),(52,vU),(51,vU),(50,vU),(49,vU),(48,vU),(47,vU),(46,vU),(45,vb false),(44,vb false),(43,vU),(42,vU),(41,vU),(40,vU),(39,vU),(38,vU),(37,vU),(36,vU),(35,vU),(34,vU),(33,vU),(32,vU)] [] [] ?_
    refine De ?_
    exact wK [0,2,5,8,9,59] [(2,2,0),(9,9,0),(24,24,0),(11509,11509,0)] ⟨false,h,rfl⟩
   replace h:=ctrue hb h
   refine Ds 8 [(39,vi i9),(38,.box 24 0 0 1),(37,bx 24 0),(36,bx 24 0),(35,po s_Token l8),(34,bx 24 0),(33,bx 24 0),(32,bx 24 0)] [] [(7,[24]),(8,[24]),(9,[24]),(11,[24]),(12,[24]),(13,[24])] ?_
   obtain ⟨x15,hx15,h⟩:=bsome h
   refine Dl rfl (v_index s_Token .opt l8 .i64 i9 hx15) ?_
   refine Dt (.ref (eToken x15) 0) ?_
   refine Ds 5 [(45,vb (x15.Kind == 1)),(44,vb (x15.Kind == 1)),(43,vb (x15.Kind == 1)),(42,vi x15.Kind),(41,.ref (eToken x15) 0)] [] [] ?_
   cases hb : ((x15.Kind == 1) : Bool)
   ·replace h:=cfalse hb h
    refine Ds 14 [(59,vb false),(58,vU),(57,vU),(56,vU),(55,vU),(54,vU),(53,vU),(52,vU),(51,vU),(50,vU),(49,vU),(48,vU),(47,vU),(46,vU)] [] [] ?_
    refine De ?_
    exact wK [0,2,5,8,9,59] [(2,2,0),(9,9,0),(24,24,0),(11509,11509,0)] ⟨false,h,rfl⟩
   replace h:=ctrue hb h
   refine Ds 8 [(53,vi i9),(52,.box 24 0 0 1),(51,bx 24 0),(50,bx 24 0),(49,po s_Token l8),(48,bx 24 0),(47,bx 24 0),(46,bx 24 0)] [] [(21,[24]),(22,[24]),(23,[24]),(25,[24]),(26,[24]),(27,[24])] ?_
   obtain ⟨x16,hx16,h⟩:=bsome h
   refine Dl rfl (v_index s_Token .opt l8 .i64 i9 hx16) ?_
   refine Dt (.ref (eToken x16) 0) ?_
   refine Ds 2 [(56,vw x16.Text),(55,.ref (eToken x16) 1)] [] [] ?_
   obtain ⟨r17,hr17,h⟩:=bsome h
   refine Dp [vw x16.Text] (vi r17) en24 (ref1_declKind_ok hr17) ?_
   refine Ds 2 [(59,vb (decide (r17 > 0))),(58,vb (decide (r17 > 0)))] [] [] ?_
   refine De ?_
   exact wK [0,2,5,8,9,59] [(2,2,0),(9,9,0),(24,24,0),(11509,11509,0)] ⟨decide (r17 > 0),h,rfl⟩
  subst hJ14
  rintro s ⟨b13,h,rfl⟩
  skip
  refine Ci h (fun h=>?_) fun h=>?_
  ·refine WA_skip ?_
   refine WA_block ?_
   refine WA_seq ?_
   refine Qg hT 2 [0,2,5,8,9,61] ⟨[(0,vw a0),(2,bx 2 0),(5,po s_Token r1.1),(8,bx 24 0),(9,bx 9 0),(61,vs 11509 0 s_Decl l12)],[(2,cb 0 26 2 (.agg [vn,vn])),(9,cb 0 26 2 (.agg [vs 11509 0 s_Decl l12,vn])),(24,cb 0 64 4 (.agg [po s_Token l8,vi i9,vb b10,vi i11])),(11509,rb 0 s_Decl l12)],1⟩ ?_
   refine One' hT rfl (v_len_own s_Decl 11509 0 true (rb 0 s_Decl l12) l12) ?_
   refine Szd hT 1 [0,2,5,8,9,63] [(63,vb ((ln l12) == 24))] ?_
   refine Ci h (fun h=>?_) fun h=>?_
   ·refine Qgd hT 1 [0,2,5,8,9,64] [(64,bx 24 0)] ?_
    obtain ⟨r18,hr18,h⟩:=bsome h
    refine Og [(0,cb 0 64 4 (eReader (Reader.mk l8 i9 b10 i11)))] [(0,cb 0 64 4 (eReader r18))] [bx 24 0] [bx 0 0] [(24,0,0)] [(0,24,0)] [(24,cb 0 64 4 (eReader r18))] (.tup []) (.tup []) 2 en25 (ref1_Reader_fail_ok hr18) ?_
    refine Szh hT 0 [0,2,5,8,9] [] [(24,cb 0 64 4 (eReader r18)),(2,cb 0 26 2 (.agg [vn,vn])),(9,cb 0 26 2 (.agg [vs 11509 0 s_Decl l12,vn])),(11509,rb 0 s_Decl l12)] 2 ?_
    exact eK [0,2,5,8,9] [(2,2,0),(9,9,0),(24,24,0),(11509,11509,0)] ⟨r18.T,r18.At,r18.Fail,r18.Bad,l12,h,rfl⟩
   refine WA_skip ?_
   refine WA_seq ?_
   refine WA_drawW hT hM (by kernel_rfl) ?_
   refine Ds 8 [(73,vi i9),(72,.box 24 0 0 1),(71,bx 24 0),(70,bx 24 0),(69,po s_Token l8),(68,bx 24 0),(67,bx 24 0),(66,bx 24 0)] [] [(1,[24]),(2,[24]),(3,[24]),(5,[24]),(6,[24]),(7,[24])] ?_
   obtain ⟨x19,hx19,h⟩:=bsome h
   refine Dl rfl (v_index s_Token .opt l8 .i64 i9 hx19) ?_
   refine Dt (.ref (eToken x19) 0) ?_
   refine Ds 2 [(76,vw x19.Text),(75,.ref (eToken x19) 1)] [] [] ?_
   obtain ⟨r20,hr20,h⟩:=bsome h
   refine Dp [vw x19.Text] (vi r20) en24 (ref1_declKind_ok hr20) ?_
   refine Ds 9 [(86,vi i9),(85,.box 24 0 0 1),(84,bx 24 0),(83,bx 24 0),(82,po s_Token l8),(81,bx 24 0),(80,bx 24 0),(79,bx 24 0),(78,vw a0)] [] [(14,[24]),(15,[24]),(16,[24]),(18,[24]),(19,[24]),(20,[24])] ?_
   obtain ⟨x21,hx21,h⟩:=bsome h
   refine Dl rfl (v_index s_Token .opt l8 .i64 i9 hx21) ?_
   refine Dt (.ref (eToken x21) 0) ?_
   refine Ds 2 [(89,vi x21.At),(88,.ref (eToken x21) 3)] [] [] ?_
   obtain ⟨r22,hr22,h⟩:=bsome h
   refine Dp [vw a0,vi x21.At] (vz r22) en26 (ref1_Place_ok hr22) ?_
   refine Dh 3 [(10,bx 10 1),(91,.agg [vi r20,vw b0,vi 0,vz r22])] [(10,cb 1 71 4 (.agg [vi r20,vw b0,vi 0,vz r22])),(2,cb 0 26 2 (.agg [vn,vn])),(9,cb 0 26 2 (.agg [vs 11509 0 s_Decl l12,vn])),(24,cb 0 64 4 (.agg [po s_Token l8,vi i9,vb b10,vi i11])),(11509,rb 0 s_Decl l12)] 2 [(26,[10]),(27,[10])] [] ?_
   refine De ?_
   refine Wk_done ?_
   refine Qzh hT 8 [0,2,5,8,9,10] [] [(24,cb 0 64 4 (.agg [po s_Token l8,vi (wr (i9 + 1)),vb b10,vi i11])),(10,cb 1 71 4 (.agg [vi r20,vw b0,vi 0,vz r22])),(2,cb 0 26 2 (.agg [vn,vn])),(9,cb 0 26 2 (.agg [vs 11509 0 s_Decl l12,vn])),(11509,rb 0 s_Decl l12)] 2 ?_
   refine Qgd hT 1 [0,2,5,8,9,10,99] [(99,bx 24 0)] ?_
   obtain ⟨r23,hr23,h⟩:=bsome h
   refine Og [(0,cb 0 64 4 (eReader (Reader.mk l8 (wr (i9 + 1)) b10 i11)))] [(0,cb 0 64 4 (eReader r23.2))] [bx 24 0] [bx 0 0] [(24,0,0)] [(0,24,0)] [(24,cb 0 64 4 (eReader r23.2))] (vw r23.1) (vw r23.1) 3 en27 (ref1_Reader_name_ok hr23) ?_
   refine Szh hT 2 [0,2,5,8,9,10] [] [(10,cb 1 71 4 (.agg [vi r20,vw r23.1,vi 0,vz r22])),(24,cb 0 64 4 (eReader r23.2)),(2,cb 0 26 2 (.agg [vn,vn])),(9,cb 0 26 2 (.agg [vs 11509 0 s_Decl l12,vn])),(11509,rb 0 s_Decl l12)] 3 ?_
   refine WA_seq ?_
   refine Qzd hT 3 [0,2,5,8,9,10,104] [(104,vb (r20 == 6))] ?_
   obtain ⟨J26,hJ26,h⟩:=jsome h
   refine WA_join (fun s=>∃ (v24 : Reader),∃ (i25 : Int),J26 v24 i25 = some r ∧ s = ⟨[(0,vw a0),(2,bx 2 0),(5,po s_Token r1.1),(8,bx 24 0),(9,bx 9 0),(10,bx 10 0)],[(2,cb 0 26 2 (.agg [vn,vn])),(9,cb 0 26 2 (.agg [vs 11509 0 s_Decl l12,vn])),(10,cb 0 71 4 (.agg [vi r20,vw r23.1,vi i25,vz r22])),(24,cb 0 64 4 (eReader v24)),(11509,rb 0 s_Decl l12)],1⟩) ?_ ?_
   ·refine Ci h (fun h=>?_) fun h=>?_
    ·refine Rgd hT 1 [0,2,5,8,9,10,105] [(105,bx 24 0)] ?_
     obtain ⟨r27,hr27,h⟩:=bsome h
     refine Og [(0,cb 0 64 4 (eReader r23.2))] [(0,cb 0 64 4 (eReader r27.2))] [bx 24 0,vi 3] [bx 0 0,vi 3] [(24,0,0)] [(0,24,0)] [(24,cb 0 64 4 (eReader r27.2))] (vi r27.1) (vi r27.1) 4 en28 (ref1_Reader_number_ok hr27) ?_
     refine Sgh hT 2 [0,2,5,8,9,10] [] [(10,cb 1 71 4 (.agg [vi r20,vw r23.1,vi r27.1,vz r22])),(24,cb 0 64 4 (eReader r27.2)),(2,cb 0 26 2 (.agg [vn,vn])),(9,cb 0 26 2 (.agg [vs 11509 0 s_Decl l12,vn])),(11509,rb 0 s_Decl l12)] 4 ?_
     exact oK [0,2,5,8,9,10] [(2,2,0),(9,9,0),(10,10,0),(24,24,0),(11509,11509,0)] ⟨r27.2,r27.1,h,rfl⟩
    exact sK [0,2,5,8,9,10] [(2,2,0),(9,9,0),(10,10,0),(24,24,0),(11509,11509,0)] ⟨r23.2,0,h,rfl⟩
   subst hJ26
   rintro s ⟨v24,i25,h,rfl⟩
   skip
   refine Rgh hT 4 [0,2,5,8,9,109,111] [(109,vs 11509 0 s_Decl l12),(111,vs 111 1 s_Decl [(Decl.mk r20 r23.1 i25 r22)])] [(111,⟨1,71,4,false,false,s_Decl.F [(Decl.mk r20 r23.1 i25 r22)]⟩),(2,cb 0 26 2 (.agg [vn,vn])),(9,cb 0 26 2 (.agg [vs 11509 0 s_Decl l12,vn])),(10,cb 0 71 4 (.agg [vi r20,vw r23.1,vi i25,vz r22])),(24,cb 0 64 4 (eReader v24)),(11509,rb 0 s_Decl l12)] 2 ?_
   obtain ⟨g28,h⟩:=gsome h
   refine Oa hT s_Decl 11509 0 true l12 [(Decl.mk r20 r23.1 i25 r22)] (eO s_Decl 111 1 true ⟨1,71,4,false,false,s_Decl.F [(Decl.mk r20 r23.1 i25 r22)]⟩ [(Decl.mk r20 r23.1 i25 r22)]) g28 ?_
   refine Sgh hT 2 [0,2,5,8,9] [] [(9,cb 0 26 2 (.agg [vs 112 2 s_Decl (l12 ++ [(Decl.mk r20 r23.1 i25 r22)]),vn])),(112,rb 2 s_Decl (l12 ++ [(Decl.mk r20 r23.1 i25 r22)])),(111,⟨1,71,4,false,false,s_Decl.F [(Decl.mk r20 r23.1 i25 r22)]⟩),(2,cb 0 26 2 (.agg [vn,vn])),(10,cb 0 71 4 (.agg [vi r20,vw r23.1,vi i25,vz r22])),(24,cb 0 64 4 (eReader v24))] 3 ?_
   exact oK [0,2,5,8,9] [(2,2,0),(9,9,0),(24,24,0),(112,11509,0)] ⟨_,by omega,by omega,v24.T,v24.At,v24.Fail,v24.Bad,l12 ++ [(Decl.mk r20 r23.1 i25 r22)],h,rfl⟩
  exact eK [0,2,5,8,9] [(2,2,0),(9,9,0),(24,24,0),(11509,11509,0)] ⟨l8,i9,b10,i11,l12,h,rfl⟩
 subst hJ7
 rintro s ⟨l2,i3,b4,i5,l6,h,rfl⟩
 refine WA_seq ?_
 obtain ⟨J34,hJ34,h⟩:=jsome h
 refine WA_join (fun s=>∃ (l29 : List Token),∃ (i30 : Int),∃ (b31 : Bool),∃ (i32 : Int),∃ (l33 : List (List Stmt)),J34 l29 i30 b31 i32 l33 = some r ∧ s = ⟨[(2,bx 2 0),(5,po s_Token r1.1),(8,bx 24 0),(9,bx 9 0)],[(2,cb 0 26 2 (.agg [vn,vn])),(9,cb 0 26 2 (.agg [vs 11509 0 s_Decl l6,vs 12509 0 s_LStmt l33])),(24,cb 0 64 4 (.agg [po s_Token l29,vi i30,vb b31,vi i32])),(11509,rb 0 s_Decl l6),(12509,rb 0 s_LStmt l33)],1⟩) ?_ ?_
 ·refine WA_block ?_
  refine aW [0,2,5,8,9] ⟨[(0,vw a0),(2,bx 2 0),(5,po s_Token r1.1),(8,bx 24 0),(9,bx 9 0)],[(2,cb 0 26 2 (.agg [vn,vn])),(9,cb 0 26 2 (.agg [vs 11509 0 s_Decl l6,vn])),(24,cb 0 64 4 (.agg [po s_Token l2,vi i3,vb b4,vi i5])),(11509,rb 0 s_Decl l6)],1⟩ ?_
  refine WA_weak (wOh 9 5000 1 (cb 0 26 2 (.agg [vs 11509 0 s_Decl l6,vn])) (.agg [vs 11509 0 s_Decl l6,vn]) (.agg [vs 11509 0 s_Decl l6,vs 5000 1 s_LStmt ([] : List (List Stmt))]) 75 1) ?_
  refine lR [(2,2,0),(9,9,0),(24,24,0),(11509,11509,0),(5000,12509,0)] (fun k s=>∃ q,q ≤ k ∧ q ≤ n ∧ ∃ (l35 : List Token),∃ (i36 : Int),∃ (b37 : Bool),∃ (i38 : Int),∃ (l39 : List (List Stmt)),ref1_Parse_L1 q a0 r1 l2 i3 b4 i5 l6 J34 l35 i36 b37 i38 l39 = some r ∧ s = ⟨[(0,vw a0),(2,bx 2 0),(5,po s_Token r1.1),(8,bx 24 0),(9,bx 9 0)],[(2,cb 0 26 2 (.agg [vn,vn])),(9,cb 0 26 2 (.agg [vs 11509 0 s_Decl l6,vs 12509 0 s_LStmt l39])),(24,cb 0 64 4 (.agg [po s_Token l35,vi i36,vb b37,vi i38])),(11509,rb 0 s_Decl l6),(12509,rb 0 s_LStmt l39)],1⟩) n ⟨n,Nat.le_refl _,Nat.le_refl _,l2,i3,b4,i5,([] : List (List Stmt)),h,rfl⟩ (by rintro s ⟨q,hq,_,l35,i36,b37,i38,l39,h,_⟩; obtain rfl:=Nat.le_zero.1 hq; rw [ref1_Parse_L1] at h; cases h) ?_
  clear h
  rintro k1 s ⟨q1,hk1,hn1,l35,i36,b37,i38,l39,h,rfl⟩
  rcases q1 with _ | q1
  ·rw [ref1_Parse_L1] at h; cases h
  rw [ref1_Parse_L1] at h
  refine WA_seq ?_
  refine WA_seq ?_
  obtain ⟨J41,hJ41,h⟩:=jsome h
  refine WA_join (fun s=>∃ (b40 : Bool),J41 b40 = some r ∧ s = ⟨[(0,vw a0),(2,bx 2 0),(5,po s_Token r1.1),(8,bx 24 0),(9,bx 9 0),(138,vb b40)],[(2,cb 0 26 2 (.agg [vn,vn])),(9,cb 0 26 2 (.agg [vs 11509 0 s_Decl l6,vs 12509 0 s_LStmt l39])),(24,cb 0 64 4 (.agg [po s_Token l35,vi i36,vb b37,vi i38])),(11509,rb 0 s_Decl l6),(12509,rb 0 s_LStmt l39)],1⟩) ?_ ?_
  ·refine WA_drawW hT hM (by kernel_rfl) ?_
   refine Ds 6 [(119,vb (!b37)),(118,vb (!b37)),(117,vb b37),(116,.box 24 0 0 2),(115,bx 24 0),(114,bx 24 0)] [] [(1,[24]),(2,[24]),(3,[24])] ?_
   cases hb : (!b37 : Bool)
   ·replace h:=cfalse hb h
    refine Ds 19 [(138,vb false),(137,vU),(136,vU),(135,vU),(134,vU),(133,vU),(132,vU),(131,vU),(130,vU),(129,vU),(128,vU),(127,vU),(126,vU),(125,vU),(124,vU),(123,vU),(122,vU),(121,vU),(120,vU)] [] [] ?_
    refine De ?_
    exact wK [0,2,5,8,9,138] [(2,2,0),(9,9,0),(24,24,0),(11509,11509,0),(12509,12509,0)] ⟨false,h,rfl⟩
   replace h:=ctrue hb h
   refine Ds 8 [(127,vi i36),(126,.box 24 0 0 1),(125,bx 24 0),(124,bx 24 0),(123,po s_Token l35),(122,bx 24 0),(121,bx 24 0),(120,bx 24 0)] [] [(7,[24]),(8,[24]),(9,[24]),(11,[24]),(12,[24]),(13,[24])] ?_
   obtain ⟨x42,hx42,h⟩:=bsome h
   refine Dl rfl (v_index s_Token .opt l35 .i64 i36 hx42) ?_
   refine Dt (.ref (eToken x42) 0) ?_
   refine Ds 4 [(132,vb (x42.Kind != 4)),(131,vb (x42.Kind != 4)),(130,vi x42.Kind),(129,.ref (eToken x42) 0)] [] [] ?_
   cases hb : ((x42.Kind != 4) : Bool)
   ·replace h:=cfalse hb h
    refine Ds 2 [(134,vs 12509 0 s_LStmt l39),(133,.box 9 0 0 1)] [] [(19,[9]),(20,[9])] ?_
    refine Dl rfl (v_len_own s_LStmt 12509 0 true (rb 0 s_LStmt l39) l39) ?_
    refine Dt (vi (ln l39)) ?_
    refine Ds 3 [(138,vb ((ln l39) == 0)),(137,vb ((ln l39) == 0)),(136,vb ((ln l39) == 0))] [] [] ?_
    refine De ?_
    exact wK [0,2,5,8,9,138] [(2,2,0),(9,9,0),(24,24,0),(11509,11509,0),(12509,12509,0)] ⟨((ln l39) == 0),h,rfl⟩
   replace h:=ctrue hb h
   refine Ds 6 [(138,vb true),(137,vb true),(136,vU),(135,vU),(134,vU),(133,vU)] [] [] ?_
   refine De ?_
   exact wK [0,2,5,8,9,138] [(2,2,0),(9,9,0),(24,24,0),(11509,11509,0),(12509,12509,0)] ⟨true,h,rfl⟩
  subst hJ41
  rintro s ⟨b40,h,rfl⟩
  skip
  refine Ci h (fun h=>?_) fun h=>?_
  ·refine WA_skip ?_
   refine WA_block ?_
   refine WA_seq ?_
   refine WA_seq ?_
   obtain ⟨J44,hJ44,h⟩:=jsome h
   refine WA_join (fun s=>∃ (b43 : Bool),J44 b43 = some r ∧ s = ⟨[(0,vw a0),(2,bx 2 0),(5,po s_Token r1.1),(8,bx 24 0),(9,bx 9 0),(147,vb b43)],[(2,cb 0 26 2 (.agg [vn,vn])),(9,cb 0 26 2 (.agg [vs 11509 0 s_Decl l6,vs 12509 0 s_LStmt l39])),(24,cb 0 64 4 (.agg [po s_Token l35,vi i36,vb b37,vi i38])),(11509,rb 0 s_Decl l6),(12509,rb 0 s_LStmt l39)],1⟩) ?_ ?_
   ·refine Rgd hT 1 [0,2,5,8,9,139] [(139,bx 24 0)] ?_
    obtain ⟨r45,hr45,h⟩:=bsome h
    refine Ob [24] [bx 24 0,vw k_go] [.ref (eReader (Reader.mk l35 i36 b37 i38)) 0,vw k_go] (vb r45) en29 (ref1_Reader_word_ok hr45) ?_
    refine Sg hT 2 [0,2,5,8,9,142] ⟨[(0,vw a0),(2,bx 2 0),(5,po s_Token r1.1),(8,bx 24 0),(9,bx 9 0),(142,vb (!r45))],[(2,cb 0 26 2 (.agg [vn,vn])),(9,cb 0 26 2 (.agg [vs 11509 0 s_Decl l6,vs 12509 0 s_LStmt l39])),(24,cb 0 64 4 (.agg [po s_Token l35,vi i36,vb b37,vi i38])),(11509,rb 0 s_Decl l6),(12509,rb 0 s_LStmt l39)],1⟩ ?_
    cases hb : (!r45 : Bool)
    ·replace h:=cfalse hb h
     refine Sgd hT 2 [0,2,5,8,9,142,144] [(144,vs 12509 0 s_LStmt l39)] ?_
     refine One' hT rfl (v_len_own s_LStmt 12509 0 true (rb 0 s_LStmt l39) l39) ?_
     refine Sgd hT 2 [0,2,5,8,9,147] [(147,vb ((ln l39) == 4))] ?_
     exact oK [0,2,5,8,9,147] [(2,2,0),(9,9,0),(24,24,0),(11509,11509,0),(12509,12509,0)] ⟨((ln l39) == 4),h,rfl⟩
    replace h:=ctrue hb h
    refine Sgd hT 5 [0,2,5,8,9,147] [(147,vb true)] ?_
    exact oK [0,2,5,8,9,147] [(2,2,0),(9,9,0),(24,24,0),(11509,11509,0),(12509,12509,0)] ⟨true,h,rfl⟩
   subst hJ44
   rintro s ⟨b43,h,rfl⟩
   skip
   refine Ci h (fun h=>?_) fun h=>?_
   ·refine Qgd hT 1 [2,5,8,9,148] [(148,bx 24 0)] ?_
    obtain ⟨r46,hr46,h⟩:=bsome h
    refine Og [(0,cb 0 64 4 (eReader (Reader.mk l35 i36 b37 i38)))] [(0,cb 0 64 4 (eReader r46))] [bx 24 0] [bx 0 0] [(24,0,0)] [(0,24,0)] [(24,cb 0 64 4 (eReader r46))] (.tup []) (.tup []) 2 en25 (ref1_Reader_fail_ok hr46) ?_
    refine Szh hT 0 [2,5,8,9] [] [(24,cb 0 64 4 (eReader r46)),(2,cb 0 26 2 (.agg [vn,vn])),(9,cb 0 26 2 (.agg [vs 11509 0 s_Decl l6,vs 12509 0 s_LStmt l39])),(11509,rb 0 s_Decl l6),(12509,rb 0 s_LStmt l39)] 2 ?_
    exact eK [2,5,8,9] [(2,2,0),(9,9,0),(24,24,0),(11509,11509,0),(12509,12509,0)] ⟨r46.T,r46.At,r46.Fail,r46.Bad,l39,h,rfl⟩
   refine WA_skip ?_
   refine Qzh hT 8 [0,2,5,8,9] [] [(24,cb 0 64 4 (.agg [po s_Token l35,vi (wr (i36 + 1)),vb b37,vi i38])),(2,cb 0 26 2 (.agg [vn,vn])),(9,cb 0 26 2 (.agg [vs 11509 0 s_Decl l6,vs 12509 0 s_LStmt l39])),(11509,rb 0 s_Decl l6),(12509,rb 0 s_LStmt l39)] 1 ?_
   refine WA_drawW hT hM (by kernel_rfl) ?_
   refine Ds 4 [(160,vw a0),(159,bx 24 0),(158,vs 12509 0 s_LStmt l39),(157,.box 9 0 0 1)] [] [(0,[9]),(1,[9])] ?_
   obtain ⟨r47,hr47,h⟩:=bsome h
   refine Dg [(0,cb 0 64 4 (eReader (Reader.mk l35 (wr (i36 + 1)) b37 i38)))] [(0,cb 0 64 4 (eReader r47.2))] [bx 24 0,vw a0,vi 1] [bx 0 0,vw a0,vi 1] [(24,0,0)] [(0,24,0)] [(24,cb 0 64 4 (eReader r47.2))] (po s_Stmt r47.1) (po s_Stmt r47.1) 2 en30 (GO_frz 100 (rb 1 s_Stmt r47.1) (ref1_Reader_block_ok hr47) (by kernel_rfl) rfl rfl) ?_
   refine Dh 1 [(162,.ps .full (s_LStmt.F [r47.1]))] [(24,cb 0 64 4 (eReader r47.2)),(2,cb 0 26 2 (.agg [vn,vn])),(9,cb 0 26 2 (.agg [vs 11509 0 s_Decl l6,vs 12509 0 s_LStmt l39])),(11509,rb 0 s_Decl l6),(12509,rb 0 s_LStmt l39)] 2 [] [] ?_
   obtain ⟨g48,h⟩:=gsome h
   refine Dw rfl (ev_append s_LStmt 12509 0 true l39 [r47.1] (by kernel_rfl) (by kernel_rfl) (by kernel_rfl) (by simp) g48) ?_
   refine Dh 2 [(164,.box 9 0 0 1)] [(9,cb 0 26 2 (.agg [vs 11509 0 s_Decl l6,vs 163 2 s_LStmt (l39 ++ [r47.1])])),(163,⟨2,75,1,false,false,s_LStmt.F (l39 ++ [r47.1])⟩),(24,cb 0 64 4 (eReader r47.2)),(2,cb 0 26 2 (.agg [vn,vn])),(11509,rb 0 s_Decl l6)] 3 [(8,[9])] [(7,[9])] ?_
   refine De ?_
   refine kW [0,2,5,8,9] ⟨[(0,vw a0),(2,bx 2 0),(5,po s_Token r1.1),(8,bx 24 0),(9,bx 9 0)],[(9,cb 0 26 2 (.agg [vs 11509 0 s_Decl l6,vs 163 2 s_LStmt (l39 ++ [r47.1])])),(163,⟨2,75,1,false,false,s_LStmt.F (l39 ++ [r47.1])⟩),(24,cb 0 64 4 (eReader r47.2)),(2,cb 0 26 2 (.agg [vn,vn])),(11509,rb 0 s_Decl l6)],3⟩ ?_
   refine Wk_step (wL [(0,vw a0),(2,bx 2 0),(5,po s_Token r1.1),(8,bx 24 0),(9,bx 9 0)] [(9,cb 0 26 2 (.agg [vs 11509 0 s_Decl l6,vs 163 2 s_LStmt (l39 ++ [r47.1])])),(163,rb 2 s_LStmt (l39 ++ [r47.1])),(24,cb 0 64 4 (eReader r47.2)),(2,cb 0 26 2 (.agg [vn,vn])),(11509,rb 0 s_Decl l6)] ⟨VLf.refl _,VLf.refl _,VLf.refl _,VLf.refl _,VLf.refl _,trivial⟩ ⟨rfl,.inl rfl,rfl,.inr (.inr rfl),rfl,.inl rfl,rfl,.inl rfl,rfl,.inl rfl,trivial⟩) ?_
   exact wR [(2,2,0),(9,9,0),(24,24,0),(11509,11509,0),(163,12509,0)] ⟨_,by omega,by omega,r47.2.T,r47.2.At,r47.2.Fail,r47.2.Bad,l39 ++ [r47.1],h,rfl⟩
  exact eK [2,5,8,9] [(2,2,0),(9,9,0),(24,24,0),(11509,11509,0),(12509,12509,0)] ⟨l35,i36,b37,i38,l39,h,rfl⟩
 subst hJ34
 rintro s ⟨l29,i30,b31,i32,l33,h,rfl⟩
 refine WA_seq ?_
 refine Qzd hT 4 [2,5,8,9,168] [(168,vb b31)] ?_
 refine Ci h (fun h=>?_) fun h=>?_
 ·refine WA_seq ?_
  refine WA_drawW hT hM (by kernel_rfl) ?_
  refine Ds 6 [(174,vi i32),(173,.box 24 0 0 3),(172,bx 24 0),(171,bx 24 0),(170,po s_Token r1.1),(169,.agg [vn,vn])] [] [(3,[24]),(4,[24]),(5,[24])] ?_
  obtain ⟨x49,hx49,h⟩:=bsome h
  refine Dl rfl (v_index s_Token .opt r1.1 .i64 i32 hx49) ?_
  refine Dt (.ref (eToken x49) 0) ?_
  refine Ds 5 [(4,vi 2),(3,vi x49.At),(177,vi x49.At),(176,.ref (eToken x49) 3)] [(9,[2])] [] ?_
  refine De ?_
  refine Wk_done ?_
  refine aW [2,3,4] ⟨[(2,bx 2 0),(3,vi x49.At),(4,vi 2)],[(2,cb 0 26 2 (.agg [vn,vn])),(9,cb 0 26 2 (.agg [vs 11509 0 s_Decl l6,vs 12509 0 s_LStmt l33])),(24,cb 0 64 4 (.agg [po s_Token l29,vi i30,vb b31,vi i32])),(11509,rb 0 s_Decl l6),(12509,rb 0 s_LStmt l33)],1⟩ ?_
  refine WA_weak (wL [(2,bx 2 0),(3,vi x49.At),(4,vi 2)] [(2,cb 0 26 2 (eProg (Prog.mk [] []))),(9,cb 0 26 2 (.agg [vs 11509 0 s_Decl l6,vs 12509 0 s_LStmt l33])),(24,cb 0 64 4 (.agg [po s_Token l29,vi i30,vb b31,vi i32])),(11509,rb 0 s_Decl l6),(12509,rb 0 s_LStmt l33)] ⟨VLf.refl _,VLf.refl _,VLf.refl _,trivial⟩ ⟨rfl,.inr (.inl ⟨rfl,rfl,CLe.agg ⟨(VLe.f VLe.nil_opt rfl),(VLe.f VLe.nil_opt rfl),trivial⟩,trivial⟩),rfl,.inl rfl,rfl,.inl rfl,rfl,.inl rfl,rfl,.inl rfl,trivial⟩) ?_
  obtain rfl:=Option.some.inj h
  exact rR [(2,1000,0)] ⟨[(2,bx 1000 0),(3,vi x49.At),(4,vi 2)],[(1000,cb 0 26 2 (eProg (Prog.mk [] [])))],1⟩ ⟨by kernel_rfl,rfl⟩
 refine WA_skip ?_
 refine Qz hT 4 [2,3,4] ⟨[(2,bx 2 0),(3,vi 0),(4,vi 0)],[(2,cb 0 26 2 (.agg [vs 11509 0 s_Decl l6,vs 12509 0 s_LStmt l33])),(9,cb 0 26 2 (.agg [vs 11509 0 s_Decl l6,vs 12509 0 s_LStmt l33])),(24,cb 0 64 4 (.agg [po s_Token l29,vi i30,vb b31,vi i32])),(11509,rb 0 s_Decl l6),(12509,rb 0 s_LStmt l33)],1⟩ ?_
 refine aW [2,3,4] ⟨[(2,bx 2 0),(3,vi 0),(4,vi 0)],[(2,cb 0 26 2 (.agg [vs 11509 0 s_Decl l6,vs 12509 0 s_LStmt l33])),(9,cb 0 26 2 (.agg [vs 11509 0 s_Decl l6,vs 12509 0 s_LStmt l33])),(24,cb 0 64 4 (.agg [po s_Token l29,vi i30,vb b31,vi i32])),(11509,rb 0 s_Decl l6),(12509,rb 0 s_LStmt l33)],1⟩ ?_
 refine WA_weak (wF 11509 0 (rb 0 s_Decl l6) [(2,bx 2 0),(3,vi 0),(4,vi 0)] [(2,cb 0 26 2 (.agg [po s_Decl l6,vs 12509 0 s_LStmt l33])),(9,cb 0 26 2 (.agg [po s_Decl l6,vs 12509 0 s_LStmt l33])),(24,cb 0 64 4 (.agg [po s_Token l29,vi i30,vb b31,vi i32])),(12509,rb 0 s_LStmt l33)] ⟨rfl,.keep _,rfl,.keep _,rfl,.keep _,trivial⟩ ⟨rfl,.inr ⟨rfl,rfl,.aggs ⟨.hit true,.keep _,trivial⟩,trivial⟩,rfl,.inr ⟨rfl,rfl,.aggs ⟨.hit true,.keep _,trivial⟩,trivial⟩,rfl,.inl rfl,rfl,.inl rfl,trivial⟩) ?_
 refine WA_weak (wF 12509 0 (rb 0 s_LStmt l33) [(2,bx 2 0),(3,vi 0),(4,vi 0)] [(2,cb 0 26 2 (.agg [po s_Decl l6,po s_LStmt l33])),(9,cb 0 26 2 (.agg [po s_Decl l6,po s_LStmt l33])),(24,cb 0 64 4 (.agg [po s_Token l29,vi i30,vb b31,vi i32]))] ⟨rfl,.keep _,rfl,.keep _,rfl,.keep _,trivial⟩ ⟨rfl,.inr ⟨rfl,rfl,.aggs ⟨.keep _,.hit true,trivial⟩,trivial⟩,rfl,.inr ⟨rfl,rfl,.aggs ⟨.keep _,.hit true,trivial⟩,trivial⟩,rfl,.inl rfl,trivial⟩) ?_
 refine WA_weak (wL [(2,bx 2 0),(3,vi 0),(4,vi 0)] [(2,cb 0 26 2 (eProg (Prog.mk l6 l33))),(9,cb 0 26 2 (.agg [po s_Decl l6,po s_LStmt l33])),(24,cb 0 64 4 (.agg [po s_Token l29,vi i30,vb b31,vi i32]))] ⟨VLf.refl _,VLf.refl _,VLf.refl _,trivial⟩ ⟨rfl,.inr (.inl ⟨rfl,rfl,CLe.agg ⟨VLf.refl _,VLf.refl _,trivial⟩,trivial⟩),rfl,.inl rfl,rfl,.inl rfl,trivial⟩) ?_
 obtain rfl:=Option.some.inj h
 exact rR [(2,1000,0)] ⟨[(2,bx 1000 0),(3,vi 0),(4,vi 0)],[(1000,cb 0 26 2 (eProg (Prog.mk l6 l33)))],1⟩ ⟨by kernel_rfl,rfl⟩
theorem law25_read_ok {n : Nat} {a0 : ByteArray} {r : Prog} (h : law25_read n a0 = some r) : PT Try.prog 4 [vw a0] (eProg r):=by
 unfold law25_read at h
 refine PT_bodyA hT Try.func4 rfl (by kernel_rfl) fun bad w=>?_
 refine Qz hT 1 [0,2] ⟨[(0,vw a0),(2,bx 2 0)],[(2,cb 0 26 2 (.agg [vn,vn]))],1⟩ ?_
 refine Qgd hT 1 [2,7] [(7,vw a0)] ?_
 obtain ⟨r1,hr1,h⟩:=bsome h
 refine Pt' en10 (ref1_Parse_ok hr1) ?_
 refine Sz hT 8 [2,3] ⟨[(2,bx 2 0),(3,bx 3 1)],[(3,cb 1 26 2 (eProg r1.1)),(2,cb 0 26 2 (.agg [vn,vn]))],2⟩ ?_
 refine Qz hT 2 [2] ⟨[(2,bx 2 0)],[(2,cb 0 26 2 (eProg r1.1)),(3,cb 1 26 2 (eProg r1.1))],2⟩ ?_
 obtain rfl:=Option.some.inj h
 exact rK [2] [(2,1000,0)] ⟨[(2,bx 1000 0)],[(1000,cb 0 26 2 (eProg r1.1))],1⟩ ⟨by kernel_rfl,rfl⟩
theorem law25_groups_ok {n : Nat} {a0 : Int} {r : List (List ByteArray)} (h : law25_groups n a0 = some r) : GO Try.prog 6 [] [vi a0] (vs 100 1 s_Lstring r) [(100,rb 1 s_Lstring r)]:=by
 unfold law25_groups at h
 refine GO_bodyA hT Try.func6 rfl [] (by kernel_rfl) fun bad w m=>?_
 refine Qz hT 1 [0] ⟨[(0,vi a0)],[],1⟩ ?_
 refine Qz hT 3 [0,3] ⟨[(0,vi a0),(3,bx 3 1)],[(3,cb 1 47 3 (.agg [vw k_x,vw k_y,vw k_z]))],2⟩ ?_
 refine WA_seq ?_
 refine Qgd hT 1 [3,5] [(5,vi a0)] ?_
 obtain ⟨r1,hr1,h⟩:=bsome h
 refine Pt' en14 (hand_Pick_ok hr1) ?_
 refine Szd hT 0 [3,6] [(6,vi r1)] ?_
 refine WA_block ?_
 refine Qzd hT 2 [3,6,7] [(7,vb (r1 == 0))] ?_
 refine Ci h (fun h=>?_) fun h=>?_
 ·refine Qg hT 9 [11,14,17] ⟨[(11,vs 11 2 s_string [k_x]),(14,vs 14 3 s_string [k_y]),(17,vs 17 4 s_string [k_z])],[(17,⟨4,9,1,false,false,s_string.F [k_z]⟩),(14,⟨3,9,1,false,false,s_string.F [k_y]⟩),(11,⟨2,9,1,false,false,s_string.F [k_x]⟩),(3,cb 1 47 3 (.agg [vw k_x,vw k_y,vw k_z]))],5⟩ ?_
  refine WO_weak (wF 11 2 ⟨2,9,1,false,false,s_string.F [k_x]⟩ [(11,po s_string [k_x]),(14,vs 14 3 s_string [k_y]),(17,vs 17 4 s_string [k_z])] [(17,⟨4,9,1,false,false,s_string.F [k_z]⟩),(14,⟨3,9,1,false,false,s_string.F [k_y]⟩),(3,cb 1 47 3 (.agg [vw k_x,vw k_y,vw k_z]))] ⟨rfl,.hit true,rfl,.keep _,rfl,.keep _,trivial⟩ ⟨rfl,.inl rfl,rfl,.inl rfl,rfl,.inl rfl,trivial⟩) ?_
  refine WO_weak (wF 14 3 ⟨3,9,1,false,false,s_string.F [k_y]⟩ [(11,po s_string [k_x]),(14,po s_string [k_y]),(17,vs 17 4 s_string [k_z])] [(17,⟨4,9,1,false,false,s_string.F [k_z]⟩),(3,cb 1 47 3 (.agg [vw k_x,vw k_y,vw k_z]))] ⟨rfl,.keep _,rfl,.hit true,rfl,.keep _,trivial⟩ ⟨rfl,.inl rfl,rfl,.inl rfl,trivial⟩) ?_
  refine WO_weak (wF 17 4 ⟨4,9,1,false,false,s_string.F [k_z]⟩ [(11,po s_string [k_x]),(14,po s_string [k_y]),(17,po s_string [k_z])] [(3,cb 1 47 3 (.agg [vw k_x,vw k_y,vw k_z]))] ⟨rfl,.keep _,rfl,.keep _,rfl,.hit true,trivial⟩ ⟨rfl,.inl rfl,trivial⟩) ?_
  refine Sz hT 2 [2] ⟨[(2,vs 18 5 s_Lstring [[k_x],[k_y],[k_z]])],[(18,⟨5,49,1,false,false,s_Lstring.F [[k_x],[k_y],[k_z]]⟩),(3,cb 1 47 3 (.agg [vw k_x,vw k_y,vw k_z]))],6⟩ ?_
  refine aW [2] ⟨[(2,vs 18 5 s_Lstring [[k_x],[k_y],[k_z]])],[(18,⟨5,49,1,false,false,s_Lstring.F [[k_x],[k_y],[k_z]]⟩),(3,cb 1 47 3 (.agg [vw k_x,vw k_y,vw k_z]))],6⟩ ?_
  refine WA_weak (wL [(2,vs 18 5 s_Lstring [[k_x],[k_y],[k_z]])] [(18,rb 5 s_Lstring [[k_x],[k_y],[k_z]]),(3,cb 1 47 3 (.agg [vw k_x,vw k_y,vw k_z]))] ⟨VLf.refl _,trivial⟩ ⟨rfl,.inr (.inr rfl),rfl,.inl rfl,trivial⟩) ?_
  obtain rfl:=Option.some.inj h
  exact rR [(18,100,1)] ⟨[(2,vs 100 1 s_Lstring [[k_x],[k_y],[k_z]])],[(100,rb 1 s_Lstring [[k_x],[k_y],[k_z]])],2⟩ ⟨by kernel_rfl,by kernel_rfl,rfl⟩
 refine Qzd hT 2 [3,6,19] [(19,vb (r1 == 1))] ?_
 refine Ci h (fun h=>?_) fun h=>?_
 ·refine Qg hT 9 [23,26,29] ⟨[(23,vs 23 2 s_string [k_z]),(26,vs 26 3 s_string [k_y]),(29,vs 29 4 s_string [k_x])],[(29,⟨4,9,1,false,false,s_string.F [k_x]⟩),(26,⟨3,9,1,false,false,s_string.F [k_y]⟩),(23,⟨2,9,1,false,false,s_string.F [k_z]⟩),(3,cb 1 47 3 (.agg [vw k_x,vw k_y,vw k_z]))],5⟩ ?_
  refine WO_weak (wF 23 2 ⟨2,9,1,false,false,s_string.F [k_z]⟩ [(23,po s_string [k_z]),(26,vs 26 3 s_string [k_y]),(29,vs 29 4 s_string [k_x])] [(29,⟨4,9,1,false,false,s_string.F [k_x]⟩),(26,⟨3,9,1,false,false,s_string.F [k_y]⟩),(3,cb 1 47 3 (.agg [vw k_x,vw k_y,vw k_z]))] ⟨rfl,.hit true,rfl,.keep _,rfl,.keep _,trivial⟩ ⟨rfl,.inl rfl,rfl,.inl rfl,rfl,.inl rfl,trivial⟩) ?_
  refine WO_weak (wF 26 3 ⟨3,9,1,false,false,s_string.F [k_y]⟩ [(23,po s_string [k_z]),(26,po s_string [k_y]),(29,vs 29 4 s_string [k_x])] [(29,⟨4,9,1,false,false,s_string.F [k_x]⟩),(3,cb 1 47 3 (.agg [vw k_x,vw k_y,vw k_z]))] ⟨rfl,.keep _,rfl,.hit true,rfl,.keep _,trivial⟩ ⟨rfl,.inl rfl,rfl,.inl rfl,trivial⟩) ?_
  refine WO_weak (wF 29 4 ⟨4,9,1,false,false,s_string.F [k_x]⟩ [(23,po s_string [k_z]),(26,po s_string [k_y]),(29,po s_string [k_x])] [(3,cb 1 47 3 (.agg [vw k_x,vw k_y,vw k_z]))] ⟨rfl,.keep _,rfl,.keep _,rfl,.hit true,trivial⟩ ⟨rfl,.inl rfl,trivial⟩) ?_
  refine Sz hT 2 [2] ⟨[(2,vs 30 5 s_Lstring [[k_z],[k_y],[k_x]])],[(30,⟨5,49,1,false,false,s_Lstring.F [[k_z],[k_y],[k_x]]⟩),(3,cb 1 47 3 (.agg [vw k_x,vw k_y,vw k_z]))],6⟩ ?_
  refine aW [2] ⟨[(2,vs 30 5 s_Lstring [[k_z],[k_y],[k_x]])],[(30,⟨5,49,1,false,false,s_Lstring.F [[k_z],[k_y],[k_x]]⟩),(3,cb 1 47 3 (.agg [vw k_x,vw k_y,vw k_z]))],6⟩ ?_
  refine WA_weak (wL [(2,vs 30 5 s_Lstring [[k_z],[k_y],[k_x]])] [(30,rb 5 s_Lstring [[k_z],[k_y],[k_x]]),(3,cb 1 47 3 (.agg [vw k_x,vw k_y,vw k_z]))] ⟨VLf.refl _,trivial⟩ ⟨rfl,.inr (.inr rfl),rfl,.inl rfl,trivial⟩) ?_
  obtain rfl:=Option.some.inj h
  exact rR [(30,100,1)] ⟨[(2,vs 100 1 s_Lstring [[k_z],[k_y],[k_x]])],[(100,rb 1 s_Lstring [[k_z],[k_y],[k_x]])],2⟩ ⟨by kernel_rfl,by kernel_rfl,rfl⟩
 refine Qzd hT 2 [3,6,31] [(31,vb (r1 == 2))] ?_
 refine Ci h (fun h=>?_) fun h=>?_
 ·refine Qg hT 8 [37,40] ⟨[(37,vs 37 2 s_string [k_x,k_y]),(40,vs 40 3 s_string [k_z])],[(40,⟨3,9,1,false,false,s_string.F [k_z]⟩),(37,⟨2,9,1,false,false,s_string.F [k_x,k_y]⟩),(3,cb 1 47 3 (.agg [vw k_x,vw k_y,vw k_z]))],4⟩ ?_
  refine WO_weak (wF 37 2 ⟨2,9,1,false,false,s_string.F [k_x,k_y]⟩ [(37,po s_string [k_x,k_y]),(40,vs 40 3 s_string [k_z])] [(40,⟨3,9,1,false,false,s_string.F [k_z]⟩),(3,cb 1 47 3 (.agg [vw k_x,vw k_y,vw k_z]))] ⟨rfl,.hit true,rfl,.keep _,trivial⟩ ⟨rfl,.inl rfl,rfl,.inl rfl,trivial⟩) ?_
  refine WO_weak (wF 40 3 ⟨3,9,1,false,false,s_string.F [k_z]⟩ [(37,po s_string [k_x,k_y]),(40,po s_string [k_z])] [(3,cb 1 47 3 (.agg [vw k_x,vw k_y,vw k_z]))] ⟨rfl,.keep _,rfl,.hit true,trivial⟩ ⟨rfl,.inl rfl,trivial⟩) ?_
  refine Sz hT 2 [2] ⟨[(2,vs 41 4 s_Lstring [[k_x,k_y],[k_z]])],[(41,⟨4,49,1,false,false,s_Lstring.F [[k_x,k_y],[k_z]]⟩),(3,cb 1 47 3 (.agg [vw k_x,vw k_y,vw k_z]))],5⟩ ?_
  refine aW [2] ⟨[(2,vs 41 4 s_Lstring [[k_x,k_y],[k_z]])],[(41,⟨4,49,1,false,false,s_Lstring.F [[k_x,k_y],[k_z]]⟩),(3,cb 1 47 3 (.agg [vw k_x,vw k_y,vw k_z]))],5⟩ ?_
  refine WA_weak (wL [(2,vs 41 4 s_Lstring [[k_x,k_y],[k_z]])] [(41,rb 4 s_Lstring [[k_x,k_y],[k_z]]),(3,cb 1 47 3 (.agg [vw k_x,vw k_y,vw k_z]))] ⟨VLf.refl _,trivial⟩ ⟨rfl,.inr (.inr rfl),rfl,.inl rfl,trivial⟩) ?_
  obtain rfl:=Option.some.inj h
  exact rR [(41,100,1)] ⟨[(2,vs 100 1 s_Lstring [[k_x,k_y],[k_z]])],[(100,rb 1 s_Lstring [[k_x,k_y],[k_z]])],2⟩ ⟨by kernel_rfl,by kernel_rfl,rfl⟩
 refine Qzd hT 2 [3,6,42] [(42,vb (r1 == 3))] ?_
 refine Ci h (fun h=>?_) fun h=>?_
 ·refine Qg hT 8 [46,51] ⟨[(46,vs 46 2 s_string [k_y]),(51,vs 51 3 s_string [k_z,k_x])],[(51,⟨3,9,1,false,false,s_string.F [k_z,k_x]⟩),(46,⟨2,9,1,false,false,s_string.F [k_y]⟩),(3,cb 1 47 3 (.agg [vw k_x,vw k_y,vw k_z]))],4⟩ ?_
  refine WO_weak (wF 46 2 ⟨2,9,1,false,false,s_string.F [k_y]⟩ [(46,po s_string [k_y]),(51,vs 51 3 s_string [k_z,k_x])] [(51,⟨3,9,1,false,false,s_string.F [k_z,k_x]⟩),(3,cb 1 47 3 (.agg [vw k_x,vw k_y,vw k_z]))] ⟨rfl,.hit true,rfl,.keep _,trivial⟩ ⟨rfl,.inl rfl,rfl,.inl rfl,trivial⟩) ?_
  refine WO_weak (wF 51 3 ⟨3,9,1,false,false,s_string.F [k_z,k_x]⟩ [(46,po s_string [k_y]),(51,po s_string [k_z,k_x])] [(3,cb 1 47 3 (.agg [vw k_x,vw k_y,vw k_z]))] ⟨rfl,.keep _,rfl,.hit true,trivial⟩ ⟨rfl,.inl rfl,trivial⟩) ?_
  refine Sz hT 2 [2] ⟨[(2,vs 52 4 s_Lstring [[k_y],[k_z,k_x]])],[(52,⟨4,49,1,false,false,s_Lstring.F [[k_y],[k_z,k_x]]⟩),(3,cb 1 47 3 (.agg [vw k_x,vw k_y,vw k_z]))],5⟩ ?_
  refine aW [2] ⟨[(2,vs 52 4 s_Lstring [[k_y],[k_z,k_x]])],[(52,⟨4,49,1,false,false,s_Lstring.F [[k_y],[k_z,k_x]]⟩),(3,cb 1 47 3 (.agg [vw k_x,vw k_y,vw k_z]))],5⟩ ?_
  refine WA_weak (wL [(2,vs 52 4 s_Lstring [[k_y],[k_z,k_x]])] [(52,rb 4 s_Lstring [[k_y],[k_z,k_x]]),(3,cb 1 47 3 (.agg [vw k_x,vw k_y,vw k_z]))] ⟨VLf.refl _,trivial⟩ ⟨rfl,.inr (.inr rfl),rfl,.inl rfl,trivial⟩) ?_
  obtain rfl:=Option.some.inj h
  exact rR [(52,100,1)] ⟨[(2,vs 100 1 s_Lstring [[k_y],[k_z,k_x]])],[(100,rb 1 s_Lstring [[k_y],[k_z,k_x]])],2⟩ ⟨by kernel_rfl,by kernel_rfl,rfl⟩
 refine Qzd hT 2 [3,6,53] [(53,vb (r1 == 4))] ?_
 refine Ci h (fun h=>?_) fun h=>?_
 ·refine Qg hT 6 [57,60] ⟨[(57,vs 57 2 s_string [k_y]),(60,vs 60 3 s_string [k_x])],[(60,⟨3,9,1,false,false,s_string.F [k_x]⟩),(57,⟨2,9,1,false,false,s_string.F [k_y]⟩),(3,cb 1 47 3 (.agg [vw k_x,vw k_y,vw k_z]))],4⟩ ?_
  refine WO_weak (wF 57 2 ⟨2,9,1,false,false,s_string.F [k_y]⟩ [(57,po s_string [k_y]),(60,vs 60 3 s_string [k_x])] [(60,⟨3,9,1,false,false,s_string.F [k_x]⟩),(3,cb 1 47 3 (.agg [vw k_x,vw k_y,vw k_z]))] ⟨rfl,.hit true,rfl,.keep _,trivial⟩ ⟨rfl,.inl rfl,rfl,.inl rfl,trivial⟩) ?_
  refine WO_weak (wF 60 3 ⟨3,9,1,false,false,s_string.F [k_x]⟩ [(57,po s_string [k_y]),(60,po s_string [k_x])] [(3,cb 1 47 3 (.agg [vw k_x,vw k_y,vw k_z]))] ⟨rfl,.keep _,rfl,.hit true,trivial⟩ ⟨rfl,.inl rfl,trivial⟩) ?_
  refine Sz hT 2 [2] ⟨[(2,vs 61 4 s_Lstring [[k_y],[k_x]])],[(61,⟨4,49,1,false,false,s_Lstring.F [[k_y],[k_x]]⟩),(3,cb 1 47 3 (.agg [vw k_x,vw k_y,vw k_z]))],5⟩ ?_
  refine aW [2] ⟨[(2,vs 61 4 s_Lstring [[k_y],[k_x]])],[(61,⟨4,49,1,false,false,s_Lstring.F [[k_y],[k_x]]⟩),(3,cb 1 47 3 (.agg [vw k_x,vw k_y,vw k_z]))],5⟩ ?_
  refine WA_weak (wL [(2,vs 61 4 s_Lstring [[k_y],[k_x]])] [(61,rb 4 s_Lstring [[k_y],[k_x]]),(3,cb 1 47 3 (.agg [vw k_x,vw k_y,vw k_z]))] ⟨VLf.refl _,trivial⟩ ⟨rfl,.inr (.inr rfl),rfl,.inl rfl,trivial⟩) ?_
  obtain rfl:=Option.some.inj h
  exact rR [(61,100,1)] ⟨[(2,vs 100 1 s_Lstring [[k_y],[k_x]])],[(100,rb 1 s_Lstring [[k_y],[k_x]])],2⟩ ⟨by kernel_rfl,by kernel_rfl,rfl⟩
 refine Qzd hT 2 [3,62] [(62,vb (r1 == 5))] ?_
 refine Ci h (fun h=>?_) fun h=>?_
 ·refine Qg hT 7 [66,69,70] ⟨[(66,vs 66 2 s_string [k_z]),(69,vs 69 3 s_string [k_x]),(70,vs 70 4 s_string [k_nobody])],[(70,⟨4,9,1,false,false,s_string.F [k_nobody]⟩),(69,⟨3,9,1,false,false,s_string.F [k_x]⟩),(66,⟨2,9,1,false,false,s_string.F [k_z]⟩),(3,cb 1 47 3 (.agg [vw k_x,vw k_y,vw k_z]))],5⟩ ?_
  refine WO_weak (wF 66 2 ⟨2,9,1,false,false,s_string.F [k_z]⟩ [(66,po s_string [k_z]),(69,vs 69 3 s_string [k_x]),(70,vs 70 4 s_string [k_nobody])] [(70,⟨4,9,1,false,false,s_string.F [k_nobody]⟩),(69,⟨3,9,1,false,false,s_string.F [k_x]⟩),(3,cb 1 47 3 (.agg [vw k_x,vw k_y,vw k_z]))] ⟨rfl,.hit true,rfl,.keep _,rfl,.keep _,trivial⟩ ⟨rfl,.inl rfl,rfl,.inl rfl,rfl,.inl rfl,trivial⟩) ?_
  refine WO_weak (wF 69 3 ⟨3,9,1,false,false,s_string.F [k_x]⟩ [(66,po s_string [k_z]),(69,po s_string [k_x]),(70,vs 70 4 s_string [k_nobody])] [(70,⟨4,9,1,false,false,s_string.F [k_nobody]⟩),(3,cb 1 47 3 (.agg [vw k_x,vw k_y,vw k_z]))] ⟨rfl,.keep _,rfl,.hit true,rfl,.keep _,trivial⟩ ⟨rfl,.inl rfl,rfl,.inl rfl,trivial⟩) ?_
  refine WO_weak (wF 70 4 ⟨4,9,1,false,false,s_string.F [k_nobody]⟩ [(66,po s_string [k_z]),(69,po s_string [k_x]),(70,po s_string [k_nobody])] [(3,cb 1 47 3 (.agg [vw k_x,vw k_y,vw k_z]))] ⟨rfl,.keep _,rfl,.keep _,rfl,.hit true,trivial⟩ ⟨rfl,.inl rfl,trivial⟩) ?_
  refine Sz hT 2 [2] ⟨[(2,vs 71 5 s_Lstring [[k_z],[k_x],[k_nobody]])],[(71,⟨5,49,1,false,false,s_Lstring.F [[k_z],[k_x],[k_nobody]]⟩),(3,cb 1 47 3 (.agg [vw k_x,vw k_y,vw k_z]))],6⟩ ?_
  refine aW [2] ⟨[(2,vs 71 5 s_Lstring [[k_z],[k_x],[k_nobody]])],[(71,⟨5,49,1,false,false,s_Lstring.F [[k_z],[k_x],[k_nobody]]⟩),(3,cb 1 47 3 (.agg [vw k_x,vw k_y,vw k_z]))],6⟩ ?_
  refine WA_weak (wL [(2,vs 71 5 s_Lstring [[k_z],[k_x],[k_nobody]])] [(71,rb 5 s_Lstring [[k_z],[k_x],[k_nobody]]),(3,cb 1 47 3 (.agg [vw k_x,vw k_y,vw k_z]))] ⟨VLf.refl _,trivial⟩ ⟨rfl,.inr (.inr rfl),rfl,.inl rfl,trivial⟩) ?_
  obtain rfl:=Option.some.inj h
  exact rR [(71,100,1)] ⟨[(2,vs 100 1 s_Lstring [[k_z],[k_x],[k_nobody]])],[(100,rb 1 s_Lstring [[k_z],[k_x],[k_nobody]])],2⟩ ⟨by kernel_rfl,by kernel_rfl,rfl⟩
 refine WA_skip ?_
 refine Qg hT 7 [78] ⟨[(78,vs 78 2 s_string [k_x,k_y,k_z])],[(78,⟨2,9,1,false,false,s_string.F [k_x,k_y,k_z]⟩),(3,cb 1 47 3 (.agg [vw k_x,vw k_y,vw k_z]))],3⟩ ?_
 refine WO_weak (wF 78 2 ⟨2,9,1,false,false,s_string.F [k_x,k_y,k_z]⟩ [(78,po s_string [k_x,k_y,k_z])] [(3,cb 1 47 3 (.agg [vw k_x,vw k_y,vw k_z]))] ⟨rfl,.hit true,trivial⟩ ⟨rfl,.inl rfl,trivial⟩) ?_
 refine Sz hT 2 [2] ⟨[(2,vs 79 3 s_Lstring [[k_x,k_y,k_z]])],[(79,⟨3,49,1,false,false,s_Lstring.F [[k_x,k_y,k_z]]⟩),(3,cb 1 47 3 (.agg [vw k_x,vw k_y,vw k_z]))],4⟩ ?_
 refine aW [2] ⟨[(2,vs 79 3 s_Lstring [[k_x,k_y,k_z]])],[(79,⟨3,49,1,false,false,s_Lstring.F [[k_x,k_y,k_z]]⟩),(3,cb 1 47 3 (.agg [vw k_x,vw k_y,vw k_z]))],4⟩ ?_
 refine WA_weak (wL [(2,vs 79 3 s_Lstring [[k_x,k_y,k_z]])] [(79,rb 3 s_Lstring [[k_x,k_y,k_z]]),(3,cb 1 47 3 (.agg [vw k_x,vw k_y,vw k_z]))] ⟨VLf.refl _,trivial⟩ ⟨rfl,.inr (.inr rfl),rfl,.inl rfl,trivial⟩) ?_
 obtain rfl:=Option.some.inj h
 exact rR [(79,100,1)] ⟨[(2,vs 100 1 s_Lstring [[k_x,k_y,k_z]])],[(100,rb 1 s_Lstring [[k_x,k_y,k_z]])],2⟩ ⟨by kernel_rfl,by kernel_rfl,rfl⟩
def tree_listed_o_spec (n : Nat) : Prop:=(∀ {a0 : List Stmt} {a1 : List Stmt} {r : List Stmt},tree_listed_o n a0 a1 = some r → GO Try.prog 62 [(0,rb 0 s_Stmt a0)] [vs 0 0 s_Stmt a0,po s_Stmt a1] (vs 100 1 s_Stmt r) [(100,rb 1 s_Stmt r)])
theorem tree_listed_o_step (n : Nat) (ih : ∀ m,m < n → tree_listed_o_spec m) : ∀ {a0 : List Stmt} {a1 : List Stmt} {r : List Stmt},tree_listed_o n a0 a1 = some r → GO Try.prog 62 [(0,rb 0 s_Stmt a0)] [vs 0 0 s_Stmt a0,po s_Stmt a1] (vs 100 1 s_Stmt r) [(100,rb 1 s_Stmt r)]:=by
 intro a0 a1 r h
 rcases n with _ | n
 ·rw [tree_listed_o] at h; cases h
 rw [tree_listed_o] at h
 refine GO_bodyA hT Try.func62 rfl [] (by kernel_rfl) fun bad w m=>?_
 refine Qzd hT 1 [0,1] [] ?_
 refine WA_seq ?_
 refine Qgd hT 1 [0,7] [(7,po s_Stmt a1)] ?_
 refine One' hT rfl (v_len s_Stmt .opt a1) ?_
 refine Szd hT 1 [0,7,8,9] [(8,vi (ln a1)),(9,vi 0)] ?_
 refine WA_block ?_
 refine lK [0,7,8,9] [(0,10000,1)] (fun k s=>∃ q,q ≤ k ∧ q ≤ n ∧ ∃ (l1 : List Stmt),∃ (i2 : Int),tree_listed_o_L0 q a0 a1 l1 i2 = some r ∧ s = ⟨[(0,vs 10000 1 s_Stmt l1),(7,po s_Stmt a1),(8,vi (ln a1)),(9,vi i2)],[(10000,rb 1 s_Stmt l1)],2⟩) n ⟨n,Nat.le_refl _,Nat.le_refl _,a0,0,h,rfl⟩ (by rintro s ⟨q,hq,_,l1,i2,h,_⟩; obtain rfl:=Nat.le_zero.1 hq; rw [tree_listed_o_L0] at h; cases h) ?_
 clear h
 rintro k1 s ⟨q1,hk1,hn1,l1,i2,h,rfl⟩
 rcases q1 with _ | q1
 ·rw [tree_listed_o_L0] at h; cases h
 rw [tree_listed_o_L0] at h
 refine Qzd hT 1 [0,7,8,9,10] [(10,vb (decide (i2 < (ln a1))))] ?_
 refine WA_seq ?_
 refine Ci h (fun h=>?_) fun h=>?_
 ·refine WA_skip ?_
  refine WA_seq ?_
  refine WA_block ?_
  refine Qgd hT 0 [0,7,8,9] [] ?_
  obtain ⟨x3,hx3,h⟩:=bsome h
  refine One' hT rfl (v_index s_Stmt .opt a1 .i64 i2 hx3) ?_
  refine Szh hT 3 [0,6,7,8,9] [(6,bx 6 2)] [(6,cb 2 95 11 (eStmt x3)),(10000,rb 1 s_Stmt l1)] 3 ?_
  refine WA_drawW hT hM (by kernel_rfl) ?_
  refine Ds 2 [(14,eStmt x3),(13,vs 10000 1 s_Stmt l1)] [] [(1,[6])] ?_
  refine Dl rfl (ev_bsliceD s_Stmt [x3] (by kernel_rfl)) ?_
  refine Dt (.ps .full (s_Stmt.F [x3])) ?_
  obtain ⟨g4,h⟩:=gsome h
  refine Dw rfl (ev_append s_Stmt 10000 1 true l1 [x3] (by kernel_rfl) (by kernel_rfl) (by kernel_rfl) (by simp) g4) ?_
  refine Dh 2 [(18,po s_Stmt x3.Body),(17,.box 6 2 0 8)] [(16,⟨3,95,11,false,false,s_Stmt.F (l1 ++ [x3])⟩),(6,cb 2 95 11 (eStmt x3))] 4 [] [(4,[6]),(5,[6])] ?_
  obtain ⟨r5,hr5,h⟩:=bsome h
  refine Dg [(0,⟨0,95,11,false,false,s_Stmt.F (l1 ++ [x3])⟩)] [(100,rb 1 s_Stmt r5)] [vs 16 3 s_Stmt (l1 ++ [x3]),po s_Stmt x3.Body] [vs 0 0 s_Stmt (l1 ++ [x3]),po s_Stmt x3.Body] [(16,0,0)] [(100,19,4)] [(19,rb 4 s_Stmt r5)] (vs 100 1 s_Stmt r5) (vs 19 4 s_Stmt r5) 5 en62 (GO_leH (hA:=[(0,rb 0 s_Stmt (l1 ++ [x3]))]) ⟨rfl,.inr (.inr rfl),trivial⟩ ((ih _ (by omega)) hr5)) ?_
  refine Dh 2 [(21,po s_Stmt x3.Else),(20,.box 6 2 0 9)] [(19,rb 4 s_Stmt r5),(6,cb 2 95 11 (eStmt x3))] 5 [] [(7,[6]),(8,[6])] ?_
  obtain ⟨r6,hr6,h⟩:=bsome h
  refine Dg [(0,rb 0 s_Stmt r5)] [(100,rb 1 s_Stmt r6)] [vs 19 4 s_Stmt r5,po s_Stmt x3.Else] [vs 0 0 s_Stmt r5,po s_Stmt x3.Else] [(19,0,0)] [(100,22,5)] [(22,rb 5 s_Stmt r6)] (vs 100 1 s_Stmt r6) (vs 22 5 s_Stmt r6) 6 en62 ((ih _ (by omega)) hr6) ?_
  refine Dh 1 [(0,vs 22 5 s_Stmt r6)] [(22,rb 5 s_Stmt r6),(6,cb 2 95 11 (eStmt x3))] 6 [] [] ?_
  refine De ?_
  refine Wk_done ?_
  refine Rgd hT 2 [0,7,8,9] [(9,vi (wr (i2 + 1)))] ?_
  exact oK [0,7,8,9] [(22,10000,1)] ⟨_,by omega,by omega,r6,wr (i2 + 1),h,rfl⟩
 refine WA_exit ?_
 refine Qzd hT 2 [4] [(4,vs 10000 1 s_Stmt l1)] ?_
 obtain rfl:=Option.some.inj h
 exact rK [4] [(10000,100,1)] ⟨[(4,vs 100 1 s_Stmt l1)],[(100,rb 1 s_Stmt l1)],2⟩ ⟨by kernel_rfl,by kernel_rfl,rfl⟩
theorem tree_listed_o_all (n : Nat) : tree_listed_o_spec n:=by
 induction n using Nat.strongRecOn with
 | _ n ih=>exact tree_listed_o_step n ih
theorem tree_listed_o_ok {n : Nat} {a0 : List Stmt} {a1 : List Stmt} {r : List Stmt} (h : tree_listed_o n a0 a1 = some r) : GO Try.prog 62 [(0,rb 0 s_Stmt a0)] [vs 0 0 s_Stmt a0,po s_Stmt a1] (vs 100 1 s_Stmt r) [(100,rb 1 s_Stmt r)]:=(tree_listed_o_all n) h
theorem Clone_Expr_ok {n : Nat} {a0 : List Expr} {r : List Expr} (h : Clone_Expr n a0 = some r) : GO Try.prog 91 [] [po s_Expr a0] (vs 100 1 s_Expr r) [(100,rb 1 s_Expr r)]:=by
 unfold Clone_Expr at h
 refine GO_bodyA hT Try.func91 rfl [] (by kernel_rfl) fun bad w m=>?_
 refine Qzd hT 1 [0] [] ?_
 refine WA_seq ?_
 refine Qgd hT 1 [0,3] [(3,po s_Expr a0)] ?_
 refine WO_isnil' hT s_Expr rfl (by kernel_rfl) .opt a0 rfl (by kernel_rfl) (by kernel_rfl) ?_
 intro b1 hnil
 cases b1
 ·clear hnil
  refine Szh hT 0 [0,4] [(4,vb false)] [] 1 ?_
  refine WA_cond false (by kernel_rfl) (fun hb=>by cases hb) (fun _=>?_)
  refine WA_skip ?_
  refine Qg hT 2 [5,6] ⟨[(5,vs 5 1 s_Expr ([] : List Expr)),(6,po s_Expr a0)],[(5,⟨1,93,4,false,false,s_Expr.F ([] : List Expr)⟩)],2⟩ ?_
  obtain ⟨g2,h⟩:=gsome h
  refine Oa hT s_Expr 5 1 false ([] : List Expr) a0 (by kernel_rfl) g2 ?_
  refine Sz hT 1 [2] ⟨[(2,vs 7 2 s_Expr (([] : List Expr) ++ a0))],[(7,rb 2 s_Expr (([] : List Expr) ++ a0))],3⟩ ?_
  obtain rfl:=Option.some.inj h
  exact rK [2] [(7,100,1)] ⟨[(2,vs 100 1 s_Expr (([] : List Expr) ++ a0))],[(100,rb 1 s_Expr (([] : List Expr) ++ a0))],2⟩ ⟨by kernel_rfl,by kernel_rfl,rfl⟩
 ·replace h : some ([] : List Expr) = some r:=by (have e:=hnil rfl; subst e; first | exact h | (obtain ⟨_,h⟩:=gsome h; simpa using h))
  clear hnil
  refine Szh hT 0 [0,4] [(4,vb true)] [] 1 ?_
  refine WA_cond true (by kernel_rfl) (fun _=>?_) (fun hb=>by cases hb)
  refine Qz hT 1 [2] ⟨[(2,vn)],[],1⟩ ?_
  refine aW [2] ⟨[(2,vn)],[],1⟩ ?_
  refine WA_weak (wO 2 5000 93 4) ?_
  obtain rfl:=Option.some.inj h
  exact rK [2] [(5000,100,1)] ⟨[(2,vs 100 1 s_Expr ([] : List Expr))],[(100,rb 1 s_Expr ([] : List Expr))],2⟩ ⟨by kernel_rfl,by kernel_rfl,rfl⟩
theorem Clip_Expr_o_ok {n : Nat} {a0 : List Expr} {r : List Expr} (h : Clip_Expr_o n a0 = some r) : GO Try.prog 90 [(0,rb 0 s_Expr a0)] [vs 0 0 s_Expr a0] (.sl 100 1 0 (s_Expr.F r).length false) [(100,rb 1 s_Expr r)]:=by
 unfold Clip_Expr_o at h
 refine GO_bodyA hT Try.func90 rfl [] (by kernel_rfl) fun bad w m=>?_
 refine Qzd hT 1 [0] [] ?_
 refine Qgd hT 2 [0,3,4] [(3,vs 0 0 s_Expr a0),(4,vs 0 0 s_Expr a0)] ?_
 refine One' hT rfl (v_len_own s_Expr 0 0 true (rb 0 s_Expr a0) a0) ?_
 refine Sgd hT 1 [3,5,6] [(5,vi (ln a0)),(6,vs 0 0 s_Expr a0)] ?_
 refine One' hT rfl (v_len_own s_Expr 0 0 true (rb 0 s_Expr a0) a0) ?_
 refine Sgd hT 0 [3,5,7] [(7,vi (ln a0))] ?_
 refine WO_clip' hT s_Expr rfl (by kernel_rfl) 0 0 (s_Expr.F a0).length true (rb 0 s_Expr a0) rfl (by kernel_rfl) (by kernel_rfl) rfl (by rw [TE.len]; kernel_rfl) (by rw [TE.len]; kernel_rfl) (by kernel_rfl) ?_
 refine Sz hT 1 [2] ⟨[(2,.sl 0 0 0 (s_Expr.F a0).length false)],[(0,rb 0 s_Expr a0)],1⟩ ?_
 obtain rfl:=Option.some.inj h
 exact rK [2] [(0,100,1)] ⟨[(2,.sl 100 1 0 (s_Expr.F a0).length false)],[(100,rb 1 s_Expr a0)],2⟩ ⟨by kernel_rfl,by kernel_rfl,rfl⟩
end Go.Su.Ytkmcnajbhclimaa
