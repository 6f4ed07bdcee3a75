/-
  The functions of the program compute that.
-/
import Derived.Test.YtkmcnajbhclimaaZrRRF
import Derived.Test.YtkmcnajbhclimaaZrHRk
namespace Go.Su.Ytkmcnajbhclimaa
open Go.Mx Go.Proofs
set_option maxRecDepth 100000
set_option maxHeartbeats 20000000
set_option linter.unusedVariables false
set_option linter.unusedSimpArgs false
theorem hand_Pick_ok {n : Nat} {a0 : Int} {a1 : Int} {r : Int} (h : hand_Pick n a0 a1 = some r) : PT Try.prog 14 [vi a0,vi a1] (vi r):=by
 unfold hand_Pick at h
 refine PT_bodyA hT Try.func14 rfl (by kernel_rfl) fun bad w=>?_
 refine Qzd hT 1 [0,1] [] ?_
 refine Qg hT 2 [1,5,6] ⟨[(1,vi a1),(5,vi a0),(6,vi a1)],[],0⟩ ?_
 obtain ⟨g1,h⟩:=g0some h
 refine One' hT rfl (ev_rem .i64 a0 a1 g1 (by kernel_rfl) (by kernel_rfl)) ?_
 refine Sz hT 1 [0,1] ⟨[(0,vi (a0.tmod a1)),(1,vi a1)],[],0⟩ ?_
 refine WA_seq ?_
 refine Qzd hT 2 [0,1,9] [(9,vb (decide ((a0.tmod a1) < 0)))] ?_
 obtain ⟨J3,hJ3,h⟩:=jsome h
 refine WA_join (fun s=>∃ (i2 : Int),J3 i2 = some r ∧ s = ⟨[(0,vi i2)],[],1⟩) ?_ ?_
 ·refine Ci h (fun h=>?_) fun h=>?_
  ·refine Rg hT 4 [0] ⟨[(0,vi (wr ((a0.tmod a1) + a1)))],[],0⟩ ?_
   exact oK [0] [] ⟨wr ((a0.tmod a1) + a1),h,rfl⟩
  exact sK [0] [] ⟨a0.tmod a1,h,rfl⟩
 subst hJ3
 rintro s ⟨i2,h,rfl⟩
 refine Qz hT 2 [4] ⟨[(4,vi i2)],[],1⟩ ?_
 obtain rfl:=Option.some.inj h
 exact rK [4] [] ⟨[(4,vi i2)],[],1⟩ ⟨by kernel_rfl,rfl⟩
theorem hand_Decls_ok {n : Nat} {a0 : Int} {r : List Decl} (h : hand_Decls n a0 = some r) : GO Try.prog 36 [] [vi a0] (vs 100 1 s_Decl r) [(100,rb 1 s_Decl r)]:=by
 unfold hand_Decls at h
 refine GO_bodyA hT Try.func36 rfl [] (by kernel_rfl) fun bad w m=>?_
 refine Qz hT 1 [0] ⟨[(0,vi a0)],[],1⟩ ?_
 refine Qg hT 7 [0,4,5,6,7,8,9,10] ⟨[(0,vi a0),(4,.agg [vi 1,vw k_x,vi 0,vz c0]),(5,.agg [vi 1,vw k_y,vi 0,vz c0]),(6,.agg [vi 2,vw k_z,vi 0,vz c0]),(7,.agg [vi 3,vw k_a,vi 0,vz c0]),(8,.agg [vi 4,vw k_t,vi 0,vz c0]),(9,.agg [vi 5,vw k_m,vi 0,vz c0]),(10,vi a0)],[],1⟩ ?_
 obtain ⟨r1,hr1,h⟩:=bsome h
 refine Pt' en14 (hand_Pick_ok hr1) ?_
 refine Sz hT 4 [0,3] ⟨[(0,vi a0),(3,vs 14 1 s_Decl [(Decl.mk 1 k_x 0 c0),(Decl.mk 1 k_y 0 c0),(Decl.mk 2 k_z 0 c0),(Decl.mk 3 k_a 0 c0),(Decl.mk 4 k_t 0 c0),(Decl.mk 5 k_m 0 c0),(Decl.mk 6 k_c r1 c0),(Decl.mk 6 k_d 0 c0)])],[(14,⟨1,71,4,false,false,s_Decl.F [(Decl.mk 1 k_x 0 c0),(Decl.mk 1 k_y 0 c0),(Decl.mk 2 k_z 0 c0),(Decl.mk 3 k_a 0 c0),(Decl.mk 4 k_t 0 c0),(Decl.mk 5 k_m 0 c0),(Decl.mk 6 k_c r1 c0),(Decl.mk 6 k_d 0 c0)]⟩)],2⟩ ?_
 refine WA_seq ?_
 refine Qgd hT 2 [3,16] [(16,vi (wr (a0.tdiv 3)))] ?_
 obtain ⟨r2,hr2,h⟩:=bsome h
 refine Pt' en14 (hand_Pick_ok hr2) ?_
 refine Szd hT 0 [3,17] [(17,vi r2)] ?_
 obtain ⟨J4,hJ4,h⟩:=jsome h
 refine WA_join (fun s=>∃ (l3 : List Decl),J4 l3 = some r ∧ s = ⟨[(3,vs 14 1 s_Decl l3)],[(14,⟨1,71,4,false,false,s_Decl.F l3⟩)],2⟩) ?_ ?_
 ·refine WA_block ?_
  refine Qzd hT 2 [3,17,18] [(18,vb (r2 == 4))] ?_
  refine Ci h (fun h=>?_) fun h=>?_
  ·refine Rgd hT 1 [3,20] [(20,vs 14 1 s_Decl [(Decl.mk 1 k_x 0 c0),(Decl.mk 1 k_y 0 c0),(Decl.mk 2 k_z 0 c0),(Decl.mk 3 k_a 0 c0),(Decl.mk 4 k_t 0 c0),(Decl.mk 5 k_m 0 c0),(Decl.mk 6 k_c r1 c0),(Decl.mk 6 k_d 0 c0)])] ?_
   obtain ⟨x5,hx5,h⟩:=bsome h
   refine One' hT rfl (v_index_own s_Decl 14 1 true ⟨1,71,4,false,false,s_Decl.F [(Decl.mk 1 k_x 0 c0),(Decl.mk 1 k_y 0 c0),(Decl.mk 2 k_z 0 c0),(Decl.mk 3 k_a 0 c0),(Decl.mk 4 k_t 0 c0),(Decl.mk 5 k_m 0 c0),(Decl.mk 6 k_c r1 c0),(Decl.mk 6 k_d 0 c0)]⟩ [(Decl.mk 1 k_x 0 c0),(Decl.mk 1 k_y 0 c0),(Decl.mk 2 k_z 0 c0),(Decl.mk 3 k_a 0 c0),(Decl.mk 4 k_t 0 c0),(Decl.mk 5 k_m 0 c0),(Decl.mk 6 k_c r1 c0),(Decl.mk 6 k_d 0 c0)] .i64 0 hx5) ?_
   refine Sgd hT 1 [3,22] [(22,.box 14 1 (0 : Int).toNat 0)] ?_
   refine One' hT rfl (v_storeRow s_Decl 14 1 ⟨1,71,4,false,false,s_Decl.F [(Decl.mk 1 k_x 0 c0),(Decl.mk 1 k_y 0 c0),(Decl.mk 2 k_z 0 c0),(Decl.mk 3 k_a 0 c0),(Decl.mk 4 k_t 0 c0),(Decl.mk 5 k_m 0 c0),(Decl.mk 6 k_c r1 c0),(Decl.mk 6 k_d 0 c0)]⟩ [(Decl.mk 1 k_x 0 c0),(Decl.mk 1 k_y 0 c0),(Decl.mk 2 k_z 0 c0),(Decl.mk 3 k_a 0 c0),(Decl.mk 4 k_t 0 c0),(Decl.mk 5 k_m 0 c0),(Decl.mk 6 k_c r1 c0),(Decl.mk 6 k_d 0 c0)] (0 : Int).toNat 0 x5 (Decl.mk 2 x5.Name x5.N x5.At) (idx_some hx5).2) ?_
   refine oW [3] ⟨[(3,vs 14 1 s_Decl [(Decl.mk 1 k_x 0 c0),(Decl.mk 1 k_y 0 c0),(Decl.mk 2 k_z 0 c0),(Decl.mk 3 k_a 0 c0),(Decl.mk 4 k_t 0 c0),(Decl.mk 5 k_m 0 c0),(Decl.mk 6 k_c r1 c0),(Decl.mk 6 k_d 0 c0)])],[(14,⟨1,71,4,false,false,s_Decl.F ([(Decl.mk 1 k_x 0 c0),(Decl.mk 1 k_y 0 c0),(Decl.mk 2 k_z 0 c0),(Decl.mk 3 k_a 0 c0),(Decl.mk 4 k_t 0 c0),(Decl.mk 5 k_m 0 c0),(Decl.mk 6 k_c r1 c0),(Decl.mk 6 k_d 0 c0)].set (0 : Int).toNat (Decl.mk 2 x5.Name x5.N x5.At))⟩)],2⟩ ?_
   refine WO_weak (wL [(3,vs 14 1 s_Decl ([(Decl.mk 1 k_x 0 c0),(Decl.mk 1 k_y 0 c0),(Decl.mk 2 k_z 0 c0),(Decl.mk 3 k_a 0 c0),(Decl.mk 4 k_t 0 c0),(Decl.mk 5 k_m 0 c0),(Decl.mk 6 k_c r1 c0),(Decl.mk 6 k_d 0 c0)].set (0 : Int).toNat (Decl.mk 2 x5.Name x5.N x5.At)))] [(14,⟨1,71,4,false,false,s_Decl.F ([(Decl.mk 1 k_x 0 c0),(Decl.mk 1 k_y 0 c0),(Decl.mk 2 k_z 0 c0),(Decl.mk 3 k_a 0 c0),(Decl.mk 4 k_t 0 c0),(Decl.mk 5 k_m 0 c0),(Decl.mk 6 k_c r1 c0),(Decl.mk 6 k_d 0 c0)].set (0 : Int).toNat (Decl.mk 2 x5.Name x5.N x5.At))⟩)] ⟨(VLf.slen (by simp [TE.len,lcopy_length,rcopy_length,clr_length])),trivial⟩ (HLe.refl _)) ?_
   exact oK [3] [(14,14,1)] ⟨[(Decl.mk 1 k_x 0 c0),(Decl.mk 1 k_y 0 c0),(Decl.mk 2 k_z 0 c0),(Decl.mk 3 k_a 0 c0),(Decl.mk 4 k_t 0 c0),(Decl.mk 5 k_m 0 c0),(Decl.mk 6 k_c r1 c0),(Decl.mk 6 k_d 0 c0)].set (0 : Int).toNat (Decl.mk 2 x5.Name x5.N x5.At),h,rfl⟩
  refine Qzd hT 2 [3,17,23] [(23,vb (r2 == 5))] ?_
  refine Ci h (fun h=>?_) fun h=>?_
  ·refine Rgd hT 1 [3,25] [(25,vs 14 1 s_Decl [(Decl.mk 1 k_x 0 c0),(Decl.mk 1 k_y 0 c0),(Decl.mk 2 k_z 0 c0),(Decl.mk 3 k_a 0 c0),(Decl.mk 4 k_t 0 c0),(Decl.mk 5 k_m 0 c0),(Decl.mk 6 k_c r1 c0),(Decl.mk 6 k_d 0 c0)])] ?_
   obtain ⟨x6,hx6,h⟩:=bsome h
   refine One' hT rfl (v_index_own s_Decl 14 1 true ⟨1,71,4,false,false,s_Decl.F [(Decl.mk 1 k_x 0 c0),(Decl.mk 1 k_y 0 c0),(Decl.mk 2 k_z 0 c0),(Decl.mk 3 k_a 0 c0),(Decl.mk 4 k_t 0 c0),(Decl.mk 5 k_m 0 c0),(Decl.mk 6 k_c r1 c0),(Decl.mk 6 k_d 0 c0)]⟩ [(Decl.mk 1 k_x 0 c0),(Decl.mk 1 k_y 0 c0),(Decl.mk 2 k_z 0 c0),(Decl.mk 3 k_a 0 c0),(Decl.mk 4 k_t 0 c0),(Decl.mk 5 k_m 0 c0),(Decl.mk 6 k_c r1 c0),(Decl.mk 6 k_d 0 c0)] .i64 1 hx6) ?_
   refine Sgd hT 1 [3,27] [(27,.box 14 1 (1 : Int).toNat 0)] ?_
   refine One' hT rfl (v_storeRow s_Decl 14 1 ⟨1,71,4,false,false,s_Decl.F [(Decl.mk 1 k_x 0 c0),(Decl.mk 1 k_y 0 c0),(Decl.mk 2 k_z 0 c0),(Decl.mk 3 k_a 0 c0),(Decl.mk 4 k_t 0 c0),(Decl.mk 5 k_m 0 c0),(Decl.mk 6 k_c r1 c0),(Decl.mk 6 k_d 0 c0)]⟩ [(Decl.mk 1 k_x 0 c0),(Decl.mk 1 k_y 0 c0),(Decl.mk 2 k_z 0 c0),(Decl.mk 3 k_a 0 c0),(Decl.mk 4 k_t 0 c0),(Decl.mk 5 k_m 0 c0),(Decl.mk 6 k_c r1 c0),(Decl.mk 6 k_d 0 c0)] (1 : Int).toNat 0 x6 (Decl.mk 2 x6.Name x6.N x6.At) (idx_some hx6).2) ?_
   refine oW [3] ⟨[(3,vs 14 1 s_Decl [(Decl.mk 1 k_x 0 c0),(Decl.mk 1 k_y 0 c0),(Decl.mk 2 k_z 0 c0),(Decl.mk 3 k_a 0 c0),(Decl.mk 4 k_t 0 c0),(Decl.mk 5 k_m 0 c0),(Decl.mk 6 k_c r1 c0),(Decl.mk 6 k_d 0 c0)])],[(14,⟨1,71,4,false,false,s_Decl.F ([(Decl.mk 1 k_x 0 c0),(Decl.mk 1 k_y 0 c0),(Decl.mk 2 k_z 0 c0),(Decl.mk 3 k_a 0 c0),(Decl.mk 4 k_t 0 c0),(Decl.mk 5 k_m 0 c0),(Decl.mk 6 k_c r1 c0),(Decl.mk 6 k_d 0 c0)].set (1 : Int).toNat (Decl.mk 2 x6.Name x6.N x6.At))⟩)],2⟩ ?_
   refine WO_weak (wL [(3,vs 14 1 s_Decl ([(Decl.mk 1 k_x 0 c0),(Decl.mk 1 k_y 0 c0),(Decl.mk 2 k_z 0 c0),(Decl.mk 3 k_a 0 c0),(Decl.mk 4 k_t 0 c0),(Decl.mk 5 k_m 0 c0),(Decl.mk 6 k_c r1 c0),(Decl.mk 6 k_d 0 c0)].set (1 : Int).toNat (Decl.mk 2 x6.Name x6.N x6.At)))] [(14,⟨1,71,4,false,false,s_Decl.F ([(Decl.mk 1 k_x 0 c0),(Decl.mk 1 k_y 0 c0),(Decl.mk 2 k_z 0 c0),(Decl.mk 3 k_a 0 c0),(Decl.mk 4 k_t 0 c0),(Decl.mk 5 k_m 0 c0),(Decl.mk 6 k_c r1 c0),(Decl.mk 6 k_d 0 c0)].set (1 : Int).toNat (Decl.mk 2 x6.Name x6.N x6.At))⟩)] ⟨(VLf.slen (by simp [TE.len,lcopy_length,rcopy_length,clr_length])),trivial⟩ (HLe.refl _)) ?_
   exact oK [3] [(14,14,1)] ⟨[(Decl.mk 1 k_x 0 c0),(Decl.mk 1 k_y 0 c0),(Decl.mk 2 k_z 0 c0),(Decl.mk 3 k_a 0 c0),(Decl.mk 4 k_t 0 c0),(Decl.mk 5 k_m 0 c0),(Decl.mk 6 k_c r1 c0),(Decl.mk 6 k_d 0 c0)].set (1 : Int).toNat (Decl.mk 2 x6.Name x6.N x6.At),h,rfl⟩
  refine Qz hT 2 [3,28] ⟨[(3,vs 14 1 s_Decl [(Decl.mk 1 k_x 0 c0),(Decl.mk 1 k_y 0 c0),(Decl.mk 2 k_z 0 c0),(Decl.mk 3 k_a 0 c0),(Decl.mk 4 k_t 0 c0),(Decl.mk 5 k_m 0 c0),(Decl.mk 6 k_c r1 c0),(Decl.mk 6 k_d 0 c0)]),(28,vb (r2 == 6))],[(14,⟨1,71,4,false,false,s_Decl.F [(Decl.mk 1 k_x 0 c0),(Decl.mk 1 k_y 0 c0),(Decl.mk 2 k_z 0 c0),(Decl.mk 3 k_a 0 c0),(Decl.mk 4 k_t 0 c0),(Decl.mk 5 k_m 0 c0),(Decl.mk 6 k_c r1 c0),(Decl.mk 6 k_d 0 c0)]⟩)],2⟩ ?_
  refine Ci h (fun h=>?_) fun h=>?_
  ·refine Rgd hT 1 [3,30] [(30,vs 14 1 s_Decl [(Decl.mk 1 k_x 0 c0),(Decl.mk 1 k_y 0 c0),(Decl.mk 2 k_z 0 c0),(Decl.mk 3 k_a 0 c0),(Decl.mk 4 k_t 0 c0),(Decl.mk 5 k_m 0 c0),(Decl.mk 6 k_c r1 c0),(Decl.mk 6 k_d 0 c0)])] ?_
   obtain ⟨x7,hx7,h⟩:=bsome h
   refine One' hT rfl (v_index_own s_Decl 14 1 true ⟨1,71,4,false,false,s_Decl.F [(Decl.mk 1 k_x 0 c0),(Decl.mk 1 k_y 0 c0),(Decl.mk 2 k_z 0 c0),(Decl.mk 3 k_a 0 c0),(Decl.mk 4 k_t 0 c0),(Decl.mk 5 k_m 0 c0),(Decl.mk 6 k_c r1 c0),(Decl.mk 6 k_d 0 c0)]⟩ [(Decl.mk 1 k_x 0 c0),(Decl.mk 1 k_y 0 c0),(Decl.mk 2 k_z 0 c0),(Decl.mk 3 k_a 0 c0),(Decl.mk 4 k_t 0 c0),(Decl.mk 5 k_m 0 c0),(Decl.mk 6 k_c r1 c0),(Decl.mk 6 k_d 0 c0)] .i64 0 hx7) ?_
   refine Sgd hT 1 [3,32] [(32,.box 14 1 (0 : Int).toNat 0)] ?_
   refine One' hT rfl (v_storeRow s_Decl 14 1 ⟨1,71,4,false,false,s_Decl.F [(Decl.mk 1 k_x 0 c0),(Decl.mk 1 k_y 0 c0),(Decl.mk 2 k_z 0 c0),(Decl.mk 3 k_a 0 c0),(Decl.mk 4 k_t 0 c0),(Decl.mk 5 k_m 0 c0),(Decl.mk 6 k_c r1 c0),(Decl.mk 6 k_d 0 c0)]⟩ [(Decl.mk 1 k_x 0 c0),(Decl.mk 1 k_y 0 c0),(Decl.mk 2 k_z 0 c0),(Decl.mk 3 k_a 0 c0),(Decl.mk 4 k_t 0 c0),(Decl.mk 5 k_m 0 c0),(Decl.mk 6 k_c r1 c0),(Decl.mk 6 k_d 0 c0)] (0 : Int).toNat 0 x7 (Decl.mk 3 x7.Name x7.N x7.At) (idx_some hx7).2) ?_
   refine oW [3] ⟨[(3,vs 14 1 s_Decl [(Decl.mk 1 k_x 0 c0),(Decl.mk 1 k_y 0 c0),(Decl.mk 2 k_z 0 c0),(Decl.mk 3 k_a 0 c0),(Decl.mk 4 k_t 0 c0),(Decl.mk 5 k_m 0 c0),(Decl.mk 6 k_c r1 c0),(Decl.mk 6 k_d 0 c0)])],[(14,⟨1,71,4,false,false,s_Decl.F ([(Decl.mk 1 k_x 0 c0),(Decl.mk 1 k_y 0 c0),(Decl.mk 2 k_z 0 c0),(Decl.mk 3 k_a 0 c0),(Decl.mk 4 k_t 0 c0),(Decl.mk 5 k_m 0 c0),(Decl.mk 6 k_c r1 c0),(Decl.mk 6 k_d 0 c0)].set (0 : Int).toNat (Decl.mk 3 x7.Name x7.N x7.At))⟩)],2⟩ ?_
   refine WO_weak (wL [(3,vs 14 1 s_Decl ([(Decl.mk 1 k_x 0 c0),(Decl.mk 1 k_y 0 c0),(Decl.mk 2 k_z 0 c0),(Decl.mk 3 k_a 0 c0),(Decl.mk 4 k_t 0 c0),(Decl.mk 5 k_m 0 c0),(Decl.mk 6 k_c r1 c0),(Decl.mk 6 k_d 0 c0)].set (0 : Int).toNat (Decl.mk 3 x7.Name x7.N x7.At)))] [(14,⟨1,71,4,false,false,s_Decl.F ([(Decl.mk 1 k_x 0 c0),(Decl.mk 1 k_y 0 c0),(Decl.mk 2 k_z 0 c0),(Decl.mk 3 k_a 0 c0),(Decl.mk 4 k_t 0 c0),(Decl.mk 5 k_m 0 c0),(Decl.mk 6 k_c r1 c0),(Decl.mk 6 k_d 0 c0)].set (0 : Int).toNat (Decl.mk 3 x7.Name x7.N x7.At))⟩)] ⟨(VLf.slen (by simp [TE.len,lcopy_length,rcopy_length,clr_length])),trivial⟩ (HLe.refl _)) ?_
   exact oK [3] [(14,14,1)] ⟨[(Decl.mk 1 k_x 0 c0),(Decl.mk 1 k_y 0 c0),(Decl.mk 2 k_z 0 c0),(Decl.mk 3 k_a 0 c0),(Decl.mk 4 k_t 0 c0),(Decl.mk 5 k_m 0 c0),(Decl.mk 6 k_c r1 c0),(Decl.mk 6 k_d 0 c0)].set (0 : Int).toNat (Decl.mk 3 x7.Name x7.N x7.At),h,rfl⟩
  exact sK [3] [(14,14,1)] ⟨[(Decl.mk 1 k_x 0 c0),(Decl.mk 1 k_y 0 c0),(Decl.mk 2 k_z 0 c0),(Decl.mk 3 k_a 0 c0),(Decl.mk 4 k_t 0 c0),(Decl.mk 5 k_m 0 c0),(Decl.mk 6 k_c r1 c0),(Decl.mk 6 k_d 0 c0)],h,rfl⟩
 subst hJ4
 rintro s ⟨l3,h,rfl⟩
 refine Qzd hT 2 [2] [(2,vs 14 1 s_Decl l3)] ?_
 refine aW [2] ⟨[(2,vs 14 1 s_Decl l3)],[(14,⟨1,71,4,false,false,s_Decl.F l3⟩)],2⟩ ?_
 refine WA_weak (wL [(2,vs 14 1 s_Decl l3)] [(14,rb 1 s_Decl l3)] ⟨VLf.refl _,trivial⟩ ⟨rfl,.inr (.inr rfl),trivial⟩) ?_
 obtain rfl:=Option.some.inj h
 exact rR [(14,100,1)] ⟨[(2,vs 100 1 s_Decl l3)],[(100,rb 1 s_Decl l3)],2⟩ ⟨by kernel_rfl,by kernel_rfl,rfl⟩
theorem hand_acts_ok {n : Nat} {a0 : List Act} {r : List Act} (h : hand_acts n a0 = some r) : PT Try.prog 38 [po s_Act a0] (po s_Act r):=by
 unfold hand_acts at h
 refine PT_bodyA hT Try.func38 rfl (by kernel_rfl) fun bad w=>?_
 refine Qzd hT 1 [0] [] ?_
 refine WA_seq ?_
 refine Qgd hT 1 [0,3] [(3,po s_Act a0)] ?_
 refine One' hT rfl (v_len s_Act .opt a0) ?_
 refine Szd hT 1 [0,5] [(5,vb (decide ((ln a0) > 16)))] ?_
 refine Ci h (fun h=>?_) fun h=>?_
 ·refine Qg hT 1 [6] ⟨[(6,po s_Act a0)],[],0⟩ ?_
  obtain ⟨l1,hl1,h⟩:=bsome h
  refine One' hT rfl (v_slice s_Act .opt a0 0 16 none l1 .opt hl1 (by intro y hy; cases hy)) ?_
  refine Sz hT 1 [2] ⟨[(2,po s_Act l1)],[],0⟩ ?_
  obtain rfl:=Option.some.inj h
  exact rK [2] [] ⟨[(2,po s_Act l1)],[],1⟩ ⟨by kernel_rfl,rfl⟩
 refine WA_skip ?_
 refine Qz hT 2 [2] ⟨[(2,po s_Act a0)],[],0⟩ ?_
 obtain rfl:=Option.some.inj h
 exact rK [2] [] ⟨[(2,po s_Act a0)],[],1⟩ ⟨by kernel_rfl,rfl⟩
theorem hand_plain_ok {n : Nat} {a0 : Int} {r : ByteArray} (h : hand_plain n a0 = some r) : PT Try.prog 60 [vi a0] (vw r):=by
 unfold hand_plain at h
 refine PT_bodyA hT Try.func60 rfl (by kernel_rfl) fun bad w=>?_
 refine Qz hT 1 [0] ⟨[(0,vi a0)],[],0⟩ ?_
 refine Qg hT 2 [3,4] ⟨[(3,.agg [vw k_x,vw k_x,vw k_y,vw k_z,vw k_a,vw k_t,vw k_x,vw k_y]),(4,vi a0)],[],0⟩ ?_
 obtain ⟨r1,hr1,h⟩:=bsome h
 refine Pt' en14 (hand_Pick_ok hr1) ?_
 refine Sgd hT 0 [3,5] [(5,vi r1)] ?_
 obtain ⟨x2,hx2,h⟩:=bsome h
 refine One' hT rfl (v_indexA e_s [k_x,k_x,k_y,k_z,k_a,k_t,k_x,k_y] .i64 r1 _ _ 9 hx2) ?_
 refine Sz hT 1 [2] ⟨[(2,vw x2)],[],0⟩ ?_
 obtain rfl:=Option.some.inj h
 exact rK [2] [] ⟨[(2,vw x2)],[],1⟩ ⟨by kernel_rfl,rfl⟩
def hand_Expr_spec (n : Nat) : Prop:=(∀ {a0 : List Int} {a1 : Int} {r : Expr},hand_Expr n a0 a1 = some r → PT Try.prog 82 [po s_int a0,vi a1] (eExpr r))
theorem hand_Expr_step (n : Nat) (ih : ∀ m,m < n → hand_Expr_spec m) : ∀ {a0 : List Int} {a1 : Int} {r : Expr},hand_Expr n a0 a1 = some r → PT Try.prog 82 [po s_int a0,vi a1] (eExpr r):=by
 intro a0 a1 r h
 rcases n with _ | n
 ·rw [hand_Expr] at h; cases h
 rw [hand_Expr] at h
 refine PT_bodyA hT Try.func82 rfl (by kernel_rfl) fun bad w=>?_
 refine Qzh hT 1 [0,1,4] [(4,bx 4 0)] [(4,cb 0 93 4 (.agg [vi 0,vi 0,vw b0,vn]))] 1 ?_
 refine WA_seq ?_
 refine Qgd hT 1 [0,1,4,9] [(9,po s_int a0)] ?_
 refine One' hT rfl (v_len s_int .opt a0) ?_
 refine Szd hT 1 [0,1,4,11] [(11,vb ((ln a0) == 0))] ?_
 refine Ci h (fun h=>?_) fun h=>?_
 ·refine Qz hT 2 [4] ⟨[(4,bx 4 0)],[(4,cb 0 93 4 (.agg [vi 1,vi 1,vw b0,vn]))],1⟩ ?_
  refine aW [4] ⟨[(4,bx 4 0)],[(4,cb 0 93 4 (.agg [vi 1,vi 1,vw b0,vn]))],1⟩ ?_
  refine WA_weak (wL [(4,bx 4 0)] [(4,cb 0 93 4 (eExpr (Expr.mk 1 1 b0 [])))] ⟨VLf.refl _,trivial⟩ ⟨rfl,.inr (.inl ⟨rfl,rfl,CLe.agg ⟨VLf.refl _,VLf.refl _,VLf.refl _,(VLe.f VLe.nil_opt rfl),trivial⟩,trivial⟩),trivial⟩) ?_
  obtain rfl:=Option.some.inj h
  exact rR [(4,1000,0)] ⟨[(4,bx 1000 0)],[(1000,cb 0 93 4 (eExpr (Expr.mk 1 1 b0 [])))],1⟩ ⟨by kernel_rfl,rfl⟩
 refine WA_skip ?_
 refine Qgd hT 1 [0,1,4,13] [(13,po s_int a0)] ?_
 obtain ⟨x1,hx1,h⟩:=bsome h
 refine One' hT rfl (v_index s_int .opt a0 .i64 0 hx1) ?_
 refine Szd hT 2 [0,1,4,5] [(5,vi x1)] ?_
 refine Qgd hT 1 [0,1,4,5,16] [(16,vi x1)] ?_
 obtain ⟨r2,hr2,h⟩:=bsome h
 refine Pt' en14 (hand_Pick_ok hr2) ?_
 refine Szd hT 1 [0,1,4,5,6] [(6,vi r2)] ?_
 refine WA_seq ?_
 refine WA_block ?_
 refine WA_seq ?_
 obtain ⟨J5,hJ5,h⟩:=jsome h
 refine WA_join (fun s=>∃ (w3 : ByteArray),∃ (b4 : Bool),J5 w3 b4 = some r ∧ s = ⟨[(0,po s_int a0),(1,vi a1),(4,bx 4 0),(5,vi x1),(6,vi r2),(18,vb b4)],[(4,cb 0 93 4 (.agg [vi 0,vi 0,vw w3,vn]))],1⟩) ?_ ?_
 ·refine Rgd hT 3 [0,1,4,5,6,21] [(21,vb (decide (r2 < 5)))] ?_
  cases hb : (decide (r2 < 5) : Bool)
  ·replace h:=cfalse hb h
   refine Sg hT 4 [0,1,4,5,6,18] ⟨[(0,po s_int a0),(1,vi a1),(4,bx 4 0),(5,vi x1),(6,vi r2),(18,vb (decide (a1 > 5)))],[(4,cb 0 93 4 (.agg [vi 0,vi 0,vw b0,vn]))],1⟩ ?_
   exact oK [0,1,4,5,6,18] [(4,4,0)] ⟨b0,decide (a1 > 5),h,rfl⟩
  replace h:=ctrue hb h
  refine Sgd hT 4 [0,1,4,5,6,18] [(18,vb true)] ?_
  exact oK [0,1,4,5,6,18] [(4,4,0)] ⟨b0,true,h,rfl⟩
 subst hJ5
 rintro s ⟨w3,b4,h,rfl⟩
 refine Ci h (fun h=>?_) fun h=>?_
 ·refine Qgd hT 2 [4,26] [(26,vi (wr (x1.tdiv 16)))] ?_
  obtain ⟨r6,hr6,h⟩:=bsome h
  refine Pt' en60 (hand_plain_ok hr6) ?_
  refine Sz hT 2 [4] ⟨[(4,bx 4 0)],[(4,cb 0 93 4 (.agg [vi 2,vi 0,vw r6,vn]))],1⟩ ?_
  refine aW [4] ⟨[(4,bx 4 0)],[(4,cb 0 93 4 (.agg [vi 2,vi 0,vw r6,vn]))],1⟩ ?_
  refine WA_weak (wL [(4,bx 4 0)] [(4,cb 0 93 4 (eExpr (Expr.mk 2 0 r6 [])))] ⟨VLf.refl _,trivial⟩ ⟨rfl,.inr (.inl ⟨rfl,rfl,CLe.agg ⟨VLf.refl _,VLf.refl _,VLf.refl _,(VLe.f VLe.nil_opt rfl),trivial⟩,trivial⟩),trivial⟩) ?_
  obtain rfl:=Option.some.inj h
  exact rR [(4,1000,0)] ⟨[(4,bx 1000 0)],[(1000,cb 0 93 4 (eExpr (Expr.mk 2 0 r6 [])))],1⟩ ⟨by kernel_rfl,rfl⟩
 refine Qzd hT 3 [0,1,4,5,6,29] [(29,vb (decide (r2 < 8)))] ?_
 refine Ci h (fun h=>?_) fun h=>?_
 ·refine Qgd hT 2 [4,33] [(33,vi (wr (x1.tdiv 16)))] ?_
  obtain ⟨r7,hr7,h⟩:=bsome h
  refine Pt' en14 (hand_Pick_ok hr7) ?_
  refine Sz hT 2 [4] ⟨[(4,bx 4 0)],[(4,cb 0 93 4 (.agg [vi 1,vi r7,vw b0,vn]))],1⟩ ?_
  refine aW [4] ⟨[(4,bx 4 0)],[(4,cb 0 93 4 (.agg [vi 1,vi r7,vw b0,vn]))],1⟩ ?_
  refine WA_weak (wL [(4,bx 4 0)] [(4,cb 0 93 4 (eExpr (Expr.mk 1 r7 b0 [])))] ⟨VLf.refl _,trivial⟩ ⟨rfl,.inr (.inl ⟨rfl,rfl,CLe.agg ⟨VLf.refl _,VLf.refl _,VLf.refl _,(VLe.f VLe.nil_opt rfl),trivial⟩,trivial⟩),trivial⟩) ?_
  obtain rfl:=Option.some.inj h
  exact rR [(4,1000,0)] ⟨[(4,bx 1000 0)],[(1000,cb 0 93 4 (eExpr (Expr.mk 1 r7 b0 [])))],1⟩ ⟨by kernel_rfl,rfl⟩
 refine Qzd hT 3 [0,1,4,5,36] [(36,vb (r2 == 8))] ?_
 refine Ci h (fun h=>?_) fun h=>?_
 ·refine Qgd hT 1 [1,4,39] [(39,po s_int a0)] ?_
  obtain ⟨l8,hl8,h⟩:=bsome h
  refine One' hT rfl (v_slice s_int .opt a0 1 (ln a0) none l8 .opt hl8 (by intro y hy; cases hy)) ?_
  refine Sgd hT 2 [4,40,42] [(40,po s_int l8),(42,vi (wr (a1 + 1)))] ?_
  obtain ⟨r9,hr9,h⟩:=bsome h
  refine Pt' en82 ((ih _ (by omega)) hr9) ?_
  refine Sgd hT 0 [4,43] [(43,eExpr r9)] ?_
  refine One' hT rfl (ev_bslice s_Expr 44 [r9] (by kernel_rfl)) ?_
  refine Sg hT 0 [4,44] ⟨[(4,bx 4 0),(44,vs 44 1 s_Expr [r9])],[(44,⟨1,93,4,false,false,s_Expr.F [r9]⟩),(4,cb 0 93 4 (.agg [vi 0,vi 0,vw w3,vn]))],2⟩ ?_
  refine WO_weak (wF 44 1 ⟨1,93,4,false,false,s_Expr.F [r9]⟩ [(4,bx 4 0),(44,po s_Expr [r9])] [(4,cb 0 93 4 (.agg [vi 0,vi 0,vw w3,vn]))] ⟨rfl,.keep _,rfl,.hit true,trivial⟩ ⟨rfl,.inl rfl,trivial⟩) ?_
  refine Sz hT 2 [4] ⟨[(4,bx 4 0)],[(4,cb 0 93 4 (.agg [vi 3,vi 0,vw b0,po s_Expr [r9]]))],2⟩ ?_
  refine aW [4] ⟨[(4,bx 4 0)],[(4,cb 0 93 4 (.agg [vi 3,vi 0,vw b0,po s_Expr [r9]]))],2⟩ ?_
  refine WA_weak (wL [(4,bx 4 0)] [(4,cb 0 93 4 (eExpr (Expr.mk 3 0 b0 [r9])))] ⟨VLf.refl _,trivial⟩ ⟨rfl,.inr (.inl ⟨rfl,rfl,CLe.agg ⟨VLf.refl _,VLf.refl _,VLf.refl _,VLf.refl _,trivial⟩,trivial⟩),trivial⟩) ?_
  obtain rfl:=Option.some.inj h
  exact rR [(4,1000,0)] ⟨[(4,bx 1000 0)],[(1000,cb 0 93 4 (eExpr (Expr.mk 3 0 b0 [r9])))],1⟩ ⟨by kernel_rfl,rfl⟩
 refine WA_skip ?_
 refine Qgd hT 2 [0,1,4,47] [(47,vi (wr (x1.tdiv 16)))] ?_
 obtain ⟨r10,hr10,h⟩:=bsome h
 refine Pt' en14 (hand_Pick_ok hr10) ?_
 refine Szd hT 2 [0,1,4,7] [(7,vi (wr (4 + r10)))] ?_
 refine Qgd hT 1 [0,1,4,7,50] [(50,po s_int a0)] ?_
 refine One' hT rfl (v_len s_int .opt a0) ?_
 refine Szd hT 3 [0,1,4,7,8] [(8,vi (wr (1 + (wr ((ln a0).tdiv 2)))))] ?_
 refine WA_seq ?_
 refine WA_drawW hT hM (by kernel_rfl) ?_
 refine Ds 3 [(56,vi (wr (1 + (wr ((ln a0).tdiv 2))))),(55,po s_int a0),(54,vi (wr (4 + r10)))] [] [] ?_
 obtain ⟨l11,hl11,h⟩:=bsome h
 refine Dl rfl (v_slice s_int .opt a0 1 (wr (1 + (wr ((ln a0).tdiv 2)))) none l11 .opt hl11 (by intro y hy; cases hy)) ?_
 refine Dt (po s_int l11) ?_
 refine Ds 2 [(59,vi (wr (a1 + 1))),(58,vi a1)] [] [] ?_
 obtain ⟨r12,hr12,h⟩:=bsome h
 refine Dp [po s_int l11,vi (wr (a1 + 1))] (eExpr r12) en82 ((ih _ (by omega)) hr12) ?_
 refine Ds 2 [(62,vi (wr (1 + (wr ((ln a0).tdiv 2))))),(61,po s_int a0)] [] [] ?_
 obtain ⟨l13,hl13,h⟩:=bsome h
 refine Dl rfl (v_slice s_int .opt a0 (wr (1 + (wr ((ln a0).tdiv 2)))) (ln a0) none l13 .opt hl13 (by intro y hy; cases hy)) ?_
 refine Dt (po s_int l13) ?_
 refine Ds 2 [(65,vi (wr (a1 + 1))),(64,vi a1)] [] [] ?_
 obtain ⟨r14,hr14,h⟩:=bsome h
 refine Dp [po s_int l13,vi (wr (a1 + 1))] (eExpr r14) en82 ((ih _ (by omega)) hr14) ?_
 refine Dl rfl (ev_bsliceD s_Expr [r12,r14] (by kernel_rfl)) ?_
 refine Dt (.ps .full (s_Expr.F [r12,r14])) ?_
 refine Dh 2 [(68,.agg [vi (wr (4 + r10)),vi 0,vw b0,.ps .full (s_Expr.F [r12,r14])])] [(4,cb 0 93 4 (.agg [vi (wr (4 + r10)),vi 0,vw b0,.ps .full (s_Expr.F [r12,r14])]))] 1 [(15,[4])] [] ?_
 refine De ?_
 refine Wk_done ?_
 refine aW [4] ⟨[(4,bx 4 0)],[(4,cb 0 93 4 (.agg [vi (wr (4 + r10)),vi 0,vw b0,.ps .full (s_Expr.F [r12,r14])]))],1⟩ ?_
 refine WA_weak (wL [(4,bx 4 0)] [(4,cb 0 93 4 (eExpr (Expr.mk (wr (4 + r10)) 0 b0 [r12,r14])))] ⟨VLf.refl _,trivial⟩ ⟨rfl,.inr (.inl ⟨rfl,rfl,CLe.agg ⟨VLf.refl _,VLf.refl _,VLf.refl _,(VLe.f VLe.full_opt rfl),trivial⟩,trivial⟩),trivial⟩) ?_
 obtain rfl:=Option.some.inj h
 exact rR [(4,1000,0)] ⟨[(4,bx 1000 0)],[(1000,cb 0 93 4 (eExpr (Expr.mk (wr (4 + r10)) 0 b0 [r12,r14])))],1⟩ ⟨by kernel_rfl,rfl⟩
theorem hand_Expr_all (n : Nat) : hand_Expr_spec n:=by
 induction n using Nat.strongRecOn with
 | _ n ih=>exact hand_Expr_step n ih
theorem hand_Expr_ok {n : Nat} {a0 : List Int} {a1 : Int} {r : Expr} (h : hand_Expr n a0 a1 = some r) : PT Try.prog 82 [po s_int a0,vi a1] (eExpr r):=(hand_Expr_all n) h
theorem hand_short_ok {n : Nat} {a0 : Act} {r : Expr} (h : hand_short n a0 = some r) : PT Try.prog 61 [eAct a0] (eExpr r):=by
 unfold hand_short at h
 refine PT_bodyA hT Try.func61 rfl (by kernel_rfl) fun bad w=>?_
 refine Qz hT 2 [1,2] ⟨[(1,bx 1 0),(2,bx 2 1)],[(2,cb 1 93 4 (.agg [vi 0,vi 0,vw b0,vn])),(1,cb 0 122 5 (eAct a0))],2⟩ ?_
 refine Qzd hT 3 [2,3] [(3,po s_int a0.E)] ?_
 refine WA_seq ?_
 refine Qgd hT 1 [2,3,6] [(6,po s_int a0.E)] ?_
 refine One' hT rfl (v_len s_int .opt a0.E) ?_
 refine Szd hT 1 [2,3,8] [(8,vb (decide ((ln a0.E) > 3)))] ?_
 obtain ⟨J3,hJ3,h⟩:=jsome h
 refine WA_join (fun s=>∃ (w1 : ByteArray),∃ (l2 : List Int),J3 w1 l2 = some r ∧ s = ⟨[(2,bx 2 0),(3,po s_int l2)],[(2,cb 0 93 4 (.agg [vi 0,vi 0,vw w1,vn]))],1⟩) ?_ ?_
 ·refine Ci h (fun h=>?_) fun h=>?_
  ·refine Rgd hT 1 [2,9] [(9,po s_int a0.E)] ?_
   obtain ⟨l4,hl4,h⟩:=bsome h
   refine One' hT rfl (v_slice s_int .opt a0.E 0 3 none l4 .opt hl4 (by intro y hy; cases hy)) ?_
   refine Sgd hT 1 [2,3] [(3,po s_int l4)] ?_
   exact oK [2,3] [(2,2,0)] ⟨b0,l4,h,rfl⟩
  exact sK [2,3] [(2,2,0)] ⟨b0,a0.E,h,rfl⟩
 subst hJ3
 rintro s ⟨w1,l2,h,rfl⟩
 refine Qgd hT 1 [2,11] [(11,po s_int l2)] ?_
 obtain ⟨r5,hr5,h⟩:=bsome h
 refine Pt' en82 (hand_Expr_ok hr5) ?_
 refine Sz hT 1 [2] ⟨[(2,bx 2 0)],[(2,cb 0 93 4 (eExpr r5))],1⟩ ?_
 obtain rfl:=Option.some.inj h
 exact rK [2] [(2,1000,0)] ⟨[(2,bx 1000 0)],[(1000,cb 0 93 4 (eExpr r5))],1⟩ ⟨by kernel_rfl,rfl⟩
def hand_stmts_spec (n : Nat) : Prop:=(∀ {a0 : List Act} {a1 : Int} {a2 : Int} {r : (List Stmt) × (List Act)},hand_stmts n a0 a1 a2 = some r → GO Try.prog 37 [] [po s_Act a0,vi a1,vi a2] (.tup [vs 100 1 s_Stmt r.1,po s_Act r.2]) [(100,rb 1 s_Stmt r.1)])
theorem hand_stmts_step (n : Nat) (ih : ∀ m,m < n → hand_stmts_spec m) : ∀ {a0 : List Act} {a1 : Int} {a2 : Int} {r : (List Stmt) × (List Act)},hand_stmts n a0 a1 a2 = some r → GO Try.prog 37 [] [po s_Act a0,vi a1,vi a2] (.tup [vs 100 1 s_Stmt r.1,po s_Act r.2]) [(100,rb 1 s_Stmt r.1)]:=by
 intro a0 a1 a2 r h
 rcases n with _ | n
 ·rw [hand_stmts] at h; cases h
 rw [hand_stmts] at h
 refine GO_bodyA hT Try.func37 rfl [] (by kernel_rfl) fun bad w m=>?_
 refine Qzd hT 2 [0,1,2] [] ?_
 refine Qz hT 1 [0,1,2,8] ⟨[(0,po s_Act a0),(1,vi a1),(2,vi a2),(8,vn)],[],1⟩ ?_
 refine WA_seq ?_
 refine WA_block ?_
 refine aW [0,1,2,8] ⟨[(0,po s_Act a0),(1,vi a1),(2,vi a2),(8,vn)],[],1⟩ ?_
 refine WA_weak (wO 8 5000 95 11) ?_
 refine lK [0,1,2,8] [(5000,10008,1)] (fun k s=>∃ q,q ≤ k ∧ q ≤ n ∧ ∃ (l1 : List Act),∃ (l2 : List Stmt),hand_stmts_L0 q a0 a1 a2 l1 l2 = some r ∧ s = ⟨[(0,po s_Act l1),(1,vi a1),(2,vi a2),(8,vs 10008 1 s_Stmt l2)],[(10008,rb 1 s_Stmt l2)],2⟩) n ⟨n,Nat.le_refl _,Nat.le_refl _,a0,([] : List Stmt),h,rfl⟩ (by rintro s ⟨q,hq,_,l1,l2,h,_⟩; obtain rfl:=Nat.le_zero.1 hq; rw [hand_stmts_L0] at h; cases h) ?_
 clear h
 rintro k1 s ⟨q1,hk1,hn1,l1,l2,h,rfl⟩
 rcases q1 with _ | q1
 ·rw [hand_stmts_L0] at h; cases h
 rw [hand_stmts_L0] at h
 refine WA_seq ?_
 refine WA_seq ?_
 obtain ⟨J4,hJ4,h⟩:=jsome h
 refine WA_join (fun s=>∃ (b3 : Bool),J4 b3 = some r ∧ s = ⟨[(0,po s_Act l1),(1,vi a1),(2,vi a2),(8,vs 10008 1 s_Stmt l2),(20,vb b3)],[(10008,rb 1 s_Stmt l2)],2⟩) ?_ ?_
 ·refine Rgd hT 1 [0,1,2,8,12] [(12,vs 10008 1 s_Stmt l2)] ?_
  refine One' hT rfl (v_len_own s_Stmt 10008 1 true (rb 1 s_Stmt l2) l2) ?_
  refine Sg hT 3 [0,1,2,8,16] ⟨[(0,po s_Act l1),(1,vi a1),(2,vi a2),(8,vs 10008 1 s_Stmt l2),(16,vb (decide ((ln l2) < a1)))],[(10008,rb 1 s_Stmt l2)],2⟩ ?_
  cases hb : (decide ((ln l2) < a1) : Bool)
  ·replace h:=cfalse hb h
   refine Sgd hT 4 [0,1,2,8,20] [(20,vb false)] ?_
   exact oK [0,1,2,8,20] [(10008,10008,1)] ⟨false,h,rfl⟩
  replace h:=ctrue hb h
  refine Sgd hT 1 [0,1,2,8,16,17] [(17,po s_Act l1)] ?_
  refine One' hT rfl (v_len s_Act .opt l1) ?_
  refine Sgd hT 2 [0,1,2,8,20] [(20,vb (decide ((ln l1) > 0)))] ?_
  exact oK [0,1,2,8,20] [(10008,10008,1)] ⟨decide ((ln l1) > 0),h,rfl⟩
 subst hJ4
 rintro s ⟨b3,h,rfl⟩
 refine Ci h (fun h=>?_) fun h=>?_
 ·refine WA_skip ?_
  refine WA_block ?_
  refine Qgd hT 1 [0,1,2,8,21] [(21,po s_Act l1)] ?_
  obtain ⟨x5,hx5,h⟩:=bsome h
  refine One' hT rfl (v_index s_Act .opt l1 .i64 0 hx5) ?_
  refine Szh hT 3 [0,1,2,8,9] [(9,bx 9 2)] [(9,cb 2 122 5 (eAct x5)),(10008,rb 1 s_Stmt l2)] 3 ?_
  refine Qgd hT 1 [1,2,8,9,24] [(24,po s_Act l1)] ?_
  obtain ⟨l6,hl6,h⟩:=bsome h
  refine One' hT rfl (v_slice s_Act .opt l1 1 (ln l1) none l6 .opt hl6 (by intro y hy; cases hy)) ?_
  refine Szd hT 1 [0,1,2,8,9] [(0,po s_Act l6)] ?_
  refine Qzh hT 3 [0,1,2,8,9,10] [(10,bx 10 3)] [(10,cb 3 95 11 (.agg [vi 0,vw b0,vw b0,vi 0,vi 0,vi 0,vw b0,vn,vn,vn,vz c0])),(9,cb 2 122 5 (eAct x5)),(10008,rb 1 s_Stmt l2)] 4 ?_
  refine WA_seq ?_
  refine Qg hT 2 [0,1,2,8,9,10,28] ⟨[(0,po s_Act l6),(1,vi a1),(2,vi a2),(8,vs 10008 1 s_Stmt l2),(9,bx 9 2),(10,bx 10 3),(28,vi x5.What)],[(10,cb 3 95 11 (.agg [vi 0,vw b0,vw b0,vi 0,vi 0,vi 0,vw b0,vn,vn,vn,vz c0])),(9,cb 2 122 5 (eAct x5)),(10008,rb 1 s_Stmt l2)],4⟩ ?_
  obtain ⟨r7,hr7,h⟩:=bsome h
  refine Pt' en14 (hand_Pick_ok hr7) ?_
  refine Szd hT 1 [0,1,2,8,9,10,11] [(11,vi r7)] ?_
  obtain ⟨J19,hJ19,h⟩:=jsome h
  refine WA_join (fun s=>∃ (l8 : List Act),∃ (i9 : Int),∃ (w10 : ByteArray),∃ (w11 : ByteArray),∃ (i12 : Int),∃ (i13 : Int),∃ (i14 : Int),∃ (w15 : ByteArray),∃ (l16 : List Expr),∃ (l17 : List Stmt),∃ (l18 : List Stmt),J19 l8 i9 w10 w11 i12 i13 i14 w15 l16 l17 l18 = some r ∧ s = ⟨[(0,po s_Act l8),(1,vi a1),(2,vi a2),(8,vs 10008 1 s_Stmt l2),(10,bx 10 1)],[(10,cb 1 95 11 (.agg [vi i9,vw w10,vw w11,vi i12,vi i13,vi i14,vw w15,po s_Expr l16,vs 19510 1 s_Stmt l17,vs 20510 1 s_Stmt l18,vz c0])),(10008,rb 1 s_Stmt l2),(19510,rb 1 s_Stmt l17),(20510,rb 1 s_Stmt l18)],2⟩) ?_ ?_
  ·refine WA_block ?_
   refine Qzd hT 3 [0,1,2,8,9,10,11,35] [(35,vb (decide (r7 < 9)))] ?_
   refine Ci h (fun h=>?_) fun h=>?_
   ·refine Qzh hT 2 [0,1,2,8,9,10] [] [(10,cb 3 95 11 (.agg [vi 1,vw b0,vw b0,vi 0,vi 0,vi 0,vw b0,vn,vn,vn,vz c0])),(9,cb 2 122 5 (eAct x5)),(10008,rb 1 s_Stmt l2)] 4 ?_
    refine Qgd hT 2 [0,1,2,8,9,10,40] [(40,vi x5.A)] ?_
    obtain ⟨r20,hr20,h⟩:=bsome h
    refine Pt' en60 (hand_plain_ok hr20) ?_
    refine Szh hT 2 [0,1,2,8,9,10] [] [(10,cb 3 95 11 (.agg [vi 1,vw r20,vw b0,vi 0,vi 0,vi 0,vw b0,vn,vn,vn,vz c0])),(9,cb 2 122 5 (eAct x5)),(10008,rb 1 s_Stmt l2)] 4 ?_
    refine Rgd hT 1 [0,1,2,8,10,43] [(43,eAct x5)] ?_
    obtain ⟨r21,hr21,h⟩:=bsome h
    refine Pt' en61 (hand_short_ok hr21) ?_
    refine Sgh hT 2 [0,1,2,8,10] [] [(10,cb 3 95 11 (.agg [vi 1,vw r20,vw b0,vi 0,vi r21.Kind,vi r21.N,vw r21.Name,po s_Expr r21.Of,vn,vn,vz c0])),(9,cb 2 122 5 (eAct x5)),(10008,rb 1 s_Stmt l2)] 4 ?_
    refine oW [0,1,2,8,10] ⟨[(0,po s_Act l6),(1,vi a1),(2,vi a2),(8,vs 10008 1 s_Stmt l2),(10,bx 10 3)],[(10,cb 3 95 11 (.agg [vi 1,vw r20,vw b0,vi 0,vi r21.Kind,vi r21.N,vw r21.Name,po s_Expr r21.Of,vn,vn,vz c0])),(9,cb 2 122 5 (eAct x5)),(10008,rb 1 s_Stmt l2)],4⟩ ?_
    refine WO_weak (wOh 10 5000 8 (cb 3 95 11 (.agg [vi 1,vw r20,vw b0,vi 0,vi r21.Kind,vi r21.N,vw r21.Name,po s_Expr r21.Of,vn,vn,vz c0])) (.agg [vi 1,vw r20,vw b0,vi 0,vi r21.Kind,vi r21.N,vw r21.Name,po s_Expr r21.Of,vn,vn,vz c0]) (.agg [vi 1,vw r20,vw b0,vi 0,vi r21.Kind,vi r21.N,vw r21.Name,po s_Expr r21.Of,vs 5000 4 s_Stmt ([] : List Stmt),vn,vz c0]) 95 11) ?_
    refine WO_weak (wOh 10 5001 9 (cb 3 95 11 (.agg [vi 1,vw r20,vw b0,vi 0,vi r21.Kind,vi r21.N,vw r21.Name,po s_Expr r21.Of,vs 5000 4 s_Stmt ([] : List Stmt),vn,vz c0])) (.agg [vi 1,vw r20,vw b0,vi 0,vi r21.Kind,vi r21.N,vw r21.Name,po s_Expr r21.Of,vs 5000 4 s_Stmt ([] : List Stmt),vn,vz c0]) (.agg [vi 1,vw r20,vw b0,vi 0,vi r21.Kind,vi r21.N,vw r21.Name,po s_Expr r21.Of,vs 5000 4 s_Stmt ([] : List Stmt),vs 5001 5 s_Stmt ([] : List Stmt),vz c0]) 95 11) ?_
    exact oR [(10,10,1),(10008,10008,1),(5000,19510,1),(5001,20510,1)] ⟨l6,1,r20,b0,0,r21.Kind,r21.N,r21.Name,r21.Of,([] : List Stmt),([] : List Stmt),h,rfl⟩
   refine Qzd hT 3 [0,1,2,8,9,10,11,46] [(46,vb (decide (r7 < 11)))] ?_
   refine Ci h (fun h=>?_) fun h=>?_
   ·refine Qz hT 2 [0,1,2,8,10] ⟨[(0,po s_Act l6),(1,vi a1),(2,vi a2),(8,vs 10008 1 s_Stmt l2),(10,bx 10 3)],[(10,cb 3 95 11 (.agg [vi 2,vw b0,vw b0,vi 0,vi 0,vi 0,vw b0,vn,vn,vn,vz c0])),(9,cb 2 122 5 (eAct x5)),(10008,rb 1 s_Stmt l2)],4⟩ ?_
    refine Rgh hT 2 [0,1,2,8,10] [] [(10,cb 3 95 11 (.agg [vi 2,vw k_m,vw b0,vi 0,vi 0,vi 0,vw b0,vn,vn,vn,vz c0])),(9,cb 2 122 5 (eAct x5)),(10008,rb 1 s_Stmt l2)] 4 ?_
    refine oW [0,1,2,8,10] ⟨[(0,po s_Act l6),(1,vi a1),(2,vi a2),(8,vs 10008 1 s_Stmt l2),(10,bx 10 3)],[(10,cb 3 95 11 (.agg [vi 2,vw k_m,vw b0,vi 0,vi 0,vi 0,vw b0,vn,vn,vn,vz c0])),(9,cb 2 122 5 (eAct x5)),(10008,rb 1 s_Stmt l2)],4⟩ ?_
    refine WO_weak (wOh 10 5000 8 (cb 3 95 11 (.agg [vi 2,vw k_m,vw b0,vi 0,vi 0,vi 0,vw b0,vn,vn,vn,vz c0])) (.agg [vi 2,vw k_m,vw b0,vi 0,vi 0,vi 0,vw b0,vn,vn,vn,vz c0]) (.agg [vi 2,vw k_m,vw b0,vi 0,vi 0,vi 0,vw b0,vn,vs 5000 4 s_Stmt ([] : List Stmt),vn,vz c0]) 95 11) ?_
    refine WO_weak (wOh 10 5001 9 (cb 3 95 11 (.agg [vi 2,vw k_m,vw b0,vi 0,vi 0,vi 0,vw b0,vn,vs 5000 4 s_Stmt ([] : List Stmt),vn,vz c0])) (.agg [vi 2,vw k_m,vw b0,vi 0,vi 0,vi 0,vw b0,vn,vs 5000 4 s_Stmt ([] : List Stmt),vn,vz c0]) (.agg [vi 2,vw k_m,vw b0,vi 0,vi 0,vi 0,vw b0,vn,vs 5000 4 s_Stmt ([] : List Stmt),vs 5001 5 s_Stmt ([] : List Stmt),vz c0]) 95 11) ?_
    refine WO_weak (wL [(0,po s_Act l6),(1,vi a1),(2,vi a2),(8,vs 10008 1 s_Stmt l2),(10,bx 10 3)] [(5001,rb 5 s_Stmt ([] : List Stmt)),(10,cb 3 95 11 (.agg [vi 2,vw k_m,vw b0,vi 0,vi 0,vi 0,vw b0,po s_Expr [],vs 5000 4 s_Stmt ([] : List Stmt),vs 5001 5 s_Stmt ([] : List Stmt),vz c0])),(5000,rb 4 s_Stmt ([] : List Stmt)),(9,cb 2 122 5 (eAct x5)),(10008,rb 1 s_Stmt l2)] ⟨VLf.refl _,VLf.refl _,VLf.refl _,VLf.refl _,VLf.refl _,trivial⟩ ⟨rfl,.inl rfl,rfl,.inr (.inl ⟨rfl,rfl,CLe.agg ⟨VLf.refl _,VLf.refl _,VLf.refl _,VLf.refl _,VLf.refl _,VLf.refl _,VLf.refl _,(VLe.f VLe.nil_opt rfl),VLf.refl _,VLf.refl _,VLf.refl _,trivial⟩,trivial⟩),rfl,.inl rfl,rfl,.inl rfl,rfl,.inl rfl,trivial⟩) ?_
    exact oR [(10,10,1),(10008,10008,1),(5000,19510,1),(5001,20510,1)] ⟨l6,2,k_m,b0,0,0,0,b0,[],([] : List Stmt),([] : List Stmt),h,rfl⟩
   refine Qzd hT 3 [0,1,2,8,9,10,11,51] [(51,vb (decide (r7 < 13)))] ?_
   refine Ci h (fun h=>?_) fun h=>?_
   ·refine Qzh hT 2 [0,1,2,8,10] [] [(10,cb 3 95 11 (.agg [vi 3,vw b0,vw b0,vi 0,vi 0,vi 0,vw b0,vn,vn,vn,vz c0])),(9,cb 2 122 5 (eAct x5)),(10008,rb 1 s_Stmt l2)] 4 ?_
    refine Rgh hT 2 [0,1,2,8,10] [] [(10,cb 3 95 11 (.agg [vi 3,vw k_m,vw b0,vi 0,vi 0,vi 0,vw b0,vn,vn,vn,vz c0])),(9,cb 2 122 5 (eAct x5)),(10008,rb 1 s_Stmt l2)] 4 ?_
    refine oW [0,1,2,8,10] ⟨[(0,po s_Act l6),(1,vi a1),(2,vi a2),(8,vs 10008 1 s_Stmt l2),(10,bx 10 3)],[(10,cb 3 95 11 (.agg [vi 3,vw k_m,vw b0,vi 0,vi 0,vi 0,vw b0,vn,vn,vn,vz c0])),(9,cb 2 122 5 (eAct x5)),(10008,rb 1 s_Stmt l2)],4⟩ ?_
    refine WO_weak (wOh 10 5000 8 (cb 3 95 11 (.agg [vi 3,vw k_m,vw b0,vi 0,vi 0,vi 0,vw b0,vn,vn,vn,vz c0])) (.agg [vi 3,vw k_m,vw b0,vi 0,vi 0,vi 0,vw b0,vn,vn,vn,vz c0]) (.agg [vi 3,vw k_m,vw b0,vi 0,vi 0,vi 0,vw b0,vn,vs 5000 4 s_Stmt ([] : List Stmt),vn,vz c0]) 95 11) ?_
    refine WO_weak (wOh 10 5001 9 (cb 3 95 11 (.agg [vi 3,vw k_m,vw b0,vi 0,vi 0,vi 0,vw b0,vn,vs 5000 4 s_Stmt ([] : List Stmt),vn,vz c0])) (.agg [vi 3,vw k_m,vw b0,vi 0,vi 0,vi 0,vw b0,vn,vs 5000 4 s_Stmt ([] : List Stmt),vn,vz c0]) (.agg [vi 3,vw k_m,vw b0,vi 0,vi 0,vi 0,vw b0,vn,vs 5000 4 s_Stmt ([] : List Stmt),vs 5001 5 s_Stmt ([] : List Stmt),vz c0]) 95 11) ?_
    refine WO_weak (wL [(0,po s_Act l6),(1,vi a1),(2,vi a2),(8,vs 10008 1 s_Stmt l2),(10,bx 10 3)] [(5001,rb 5 s_Stmt ([] : List Stmt)),(10,cb 3 95 11 (.agg [vi 3,vw k_m,vw b0,vi 0,vi 0,vi 0,vw b0,po s_Expr [],vs 5000 4 s_Stmt ([] : List Stmt),vs 5001 5 s_Stmt ([] : List Stmt),vz c0])),(5000,rb 4 s_Stmt ([] : List Stmt)),(9,cb 2 122 5 (eAct x5)),(10008,rb 1 s_Stmt l2)] ⟨VLf.refl _,VLf.refl _,VLf.refl _,VLf.refl _,VLf.refl _,trivial⟩ ⟨rfl,.inl rfl,rfl,.inr (.inl ⟨rfl,rfl,CLe.agg ⟨VLf.refl _,VLf.refl _,VLf.refl _,VLf.refl _,VLf.refl _,VLf.refl _,VLf.refl _,(VLe.f VLe.nil_opt rfl),VLf.refl _,VLf.refl _,VLf.refl _,trivial⟩,trivial⟩),rfl,.inl rfl,rfl,.inl rfl,rfl,.inl rfl,trivial⟩) ?_
    exact oR [(10,10,1),(10008,10008,1),(5000,19510,1),(5001,20510,1)] ⟨l6,3,k_m,b0,0,0,0,b0,[],([] : List Stmt),([] : List Stmt),h,rfl⟩
   refine Qzd hT 3 [0,1,2,8,9,10,11,56] [(56,vb (decide (r7 < 15)))] ?_
   refine Ci h (fun h=>?_) fun h=>?_
   ·refine Qzh hT 2 [0,1,2,8,9,10] [] [(10,cb 3 95 11 (.agg [vi 4,vw b0,vw b0,vi 0,vi 0,vi 0,vw b0,vn,vn,vn,vz c0])),(9,cb 2 122 5 (eAct x5)),(10008,rb 1 s_Stmt l2)] 4 ?_
    refine Qgd hT 3 [0,1,2,8,9,10,60,62] [(60,.agg [vw k_c,vw k_d]),(62,vi x5.A)] ?_
    obtain ⟨r22,hr22,h⟩:=bsome h
    refine Pt' en14 (hand_Pick_ok hr22) ?_
    refine Sgd hT 0 [0,1,2,8,9,10,60,63] [(63,vi r22)] ?_
    obtain ⟨x23,hx23,h⟩:=bsome h
    refine One' hT rfl (v_indexA e_s [k_c,k_d] .i64 r22 _ _ 9 hx23) ?_
    refine Sz hT 2 [0,1,2,8,9,10] ⟨[(0,po s_Act l6),(1,vi a1),(2,vi a2),(8,vs 10008 1 s_Stmt l2),(9,bx 9 2),(10,bx 10 3)],[(10,cb 3 95 11 (.agg [vi 4,vw x23,vw b0,vi 0,vi 0,vi 0,vw b0,vn,vn,vn,vz c0])),(9,cb 2 122 5 (eAct x5)),(10008,rb 1 s_Stmt l2)],4⟩ ?_
    refine Rgd hT 1 [0,1,2,8,10,66] [(66,eAct x5)] ?_
    obtain ⟨r24,hr24,h⟩:=bsome h
    refine Pt' en61 (hand_short_ok hr24) ?_
    refine Sgh hT 2 [0,1,2,8,10] [] [(10,cb 3 95 11 (.agg [vi 4,vw x23,vw b0,vi 0,vi r24.Kind,vi r24.N,vw r24.Name,po s_Expr r24.Of,vn,vn,vz c0])),(9,cb 2 122 5 (eAct x5)),(10008,rb 1 s_Stmt l2)] 4 ?_
    refine oW [0,1,2,8,10] ⟨[(0,po s_Act l6),(1,vi a1),(2,vi a2),(8,vs 10008 1 s_Stmt l2),(10,bx 10 3)],[(10,cb 3 95 11 (.agg [vi 4,vw x23,vw b0,vi 0,vi r24.Kind,vi r24.N,vw r24.Name,po s_Expr r24.Of,vn,vn,vz c0])),(9,cb 2 122 5 (eAct x5)),(10008,rb 1 s_Stmt l2)],4⟩ ?_
    refine WO_weak (wOh 10 5000 8 (cb 3 95 11 (.agg [vi 4,vw x23,vw b0,vi 0,vi r24.Kind,vi r24.N,vw r24.Name,po s_Expr r24.Of,vn,vn,vz c0])) (.agg [vi 4,vw x23,vw b0,vi 0,vi r24.Kind,vi r24.N,vw r24.Name,po s_Expr r24.Of,vn,vn,vz c0]) (.agg [vi 4,vw x23,vw b0,vi 0,vi r24.Kind,vi r24.N,vw r24.Name,po s_Expr r24.Of,vs 5000 4 s_Stmt ([] : List Stmt),vn,vz c0]) 95 11) ?_
    refine WO_weak (wOh 10 5001 9 (cb 3 95 11 (.agg [vi 4,vw x23,vw b0,vi 0,vi r24.Kind,vi r24.N,vw r24.Name,po s_Expr r24.Of,vs 5000 4 s_Stmt ([] : List Stmt),vn,vz c0])) (.agg [vi 4,vw x23,vw b0,vi 0,vi r24.Kind,vi r24.N,vw r24.Name,po s_Expr r24.Of,vs 5000 4 s_Stmt ([] : List Stmt),vn,vz c0]) (.agg [vi 4,vw x23,vw b0,vi 0,vi r24.Kind,vi r24.N,vw r24.Name,po s_Expr r24.Of,vs 5000 4 s_Stmt ([] : List Stmt),vs 5001 5 s_Stmt ([] : List Stmt),vz c0]) 95 11) ?_
    exact oR [(10,10,1),(10008,10008,1),(5000,19510,1),(5001,20510,1)] ⟨l6,4,x23,b0,0,r24.Kind,r24.N,r24.Name,r24.Of,([] : List Stmt),([] : List Stmt),h,rfl⟩
   refine Qzd hT 3 [0,1,2,8,9,10,11,69] [(69,vb (decide (r7 < 17)))] ?_
   refine Ci h (fun h=>?_) fun h=>?_
   ·refine Qzh hT 2 [0,1,2,8,9,10] [] [(10,cb 3 95 11 (.agg [vi 5,vw b0,vw b0,vi 0,vi 0,vi 0,vw b0,vn,vn,vn,vz c0])),(9,cb 2 122 5 (eAct x5)),(10008,rb 1 s_Stmt l2)] 4 ?_
    refine Qgd hT 3 [0,1,2,8,9,10,73,75] [(73,.agg [vw k_c,vw k_d]),(75,vi x5.A)] ?_
    obtain ⟨r25,hr25,h⟩:=bsome h
    refine Pt' en14 (hand_Pick_ok hr25) ?_
    refine Sgd hT 0 [0,1,2,8,9,10,73,76] [(76,vi r25)] ?_
    obtain ⟨x26,hx26,h⟩:=bsome h
    refine One' hT rfl (v_indexA e_s [k_c,k_d] .i64 r25 _ _ 9 hx26) ?_
    refine Szh hT 2 [0,1,2,8,9,10] [] [(10,cb 3 95 11 (.agg [vi 5,vw x26,vw b0,vi 0,vi 0,vi 0,vw b0,vn,vn,vn,vz c0])),(9,cb 2 122 5 (eAct x5)),(10008,rb 1 s_Stmt l2)] 4 ?_
    refine Rgd hT 2 [0,1,2,8,10,80] [(80,vi x5.B)] ?_
    obtain ⟨r27,hr27,h⟩:=bsome h
    refine Pt' en60 (hand_plain_ok hr27) ?_
    refine Sg hT 2 [0,1,2,8,10] ⟨[(0,po s_Act l6),(1,vi a1),(2,vi a2),(8,vs 10008 1 s_Stmt l2),(10,bx 10 3)],[(10,cb 3 95 11 (.agg [vi 5,vw x26,vw r27,vi 0,vi 0,vi 0,vw b0,vn,vn,vn,vz c0])),(9,cb 2 122 5 (eAct x5)),(10008,rb 1 s_Stmt l2)],4⟩ ?_
    refine oW [0,1,2,8,10] ⟨[(0,po s_Act l6),(1,vi a1),(2,vi a2),(8,vs 10008 1 s_Stmt l2),(10,bx 10 3)],[(10,cb 3 95 11 (.agg [vi 5,vw x26,vw r27,vi 0,vi 0,vi 0,vw b0,vn,vn,vn,vz c0])),(9,cb 2 122 5 (eAct x5)),(10008,rb 1 s_Stmt l2)],4⟩ ?_
    refine WO_weak (wOh 10 5000 8 (cb 3 95 11 (.agg [vi 5,vw x26,vw r27,vi 0,vi 0,vi 0,vw b0,vn,vn,vn,vz c0])) (.agg [vi 5,vw x26,vw r27,vi 0,vi 0,vi 0,vw b0,vn,vn,vn,vz c0]) (.agg [vi 5,vw x26,vw r27,vi 0,vi 0,vi 0,vw b0,vn,vs 5000 4 s_Stmt ([] : List Stmt),vn,vz c0]) 95 11) ?_
    refine WO_weak (wOh 10 5001 9 (cb 3 95 11 (.agg [vi 5,vw x26,vw r27,vi 0,vi 0,vi 0,vw b0,vn,vs 5000 4 s_Stmt ([] : List Stmt),vn,vz c0])) (.agg [vi 5,vw x26,vw r27,vi 0,vi 0,vi 0,vw b0,vn,vs 5000 4 s_Stmt ([] : List Stmt),vn,vz c0]) (.agg [vi 5,vw x26,vw r27,vi 0,vi 0,vi 0,vw b0,vn,vs 5000 4 s_Stmt ([] : List Stmt),vs 5001 5 s_Stmt ([] : List Stmt),vz c0]) 95 11) ?_
    refine WO_weak (wL [(0,po s_Act l6),(1,vi a1),(2,vi a2),(8,vs 10008 1 s_Stmt l2),(10,bx 10 3)] [(5001,rb 5 s_Stmt ([] : List Stmt)),(10,cb 3 95 11 (.agg [vi 5,vw x26,vw r27,vi 0,vi 0,vi 0,vw b0,po s_Expr [],vs 5000 4 s_Stmt ([] : List Stmt),vs 5001 5 s_Stmt ([] : List Stmt),vz c0])),(5000,rb 4 s_Stmt ([] : List Stmt)),(9,cb 2 122 5 (eAct x5)),(10008,rb 1 s_Stmt l2)] ⟨VLf.refl _,VLf.refl _,VLf.refl _,VLf.refl _,VLf.refl _,trivial⟩ ⟨rfl,.inl rfl,rfl,.inr (.inl ⟨rfl,rfl,CLe.agg ⟨VLf.refl _,VLf.refl _,VLf.refl _,VLf.refl _,VLf.refl _,VLf.refl _,VLf.refl _,(VLe.f VLe.nil_opt rfl),VLf.refl _,VLf.refl _,VLf.refl _,trivial⟩,trivial⟩),rfl,.inl rfl,rfl,.inl rfl,rfl,.inl rfl,trivial⟩) ?_
    exact oR [(10,10,1),(10008,10008,1),(5000,19510,1),(5001,20510,1)] ⟨l6,5,x26,r27,0,0,0,b0,[],([] : List Stmt),([] : List Stmt),h,rfl⟩
   refine Qzd hT 3 [0,1,2,8,9,10,11,83] [(83,vb (decide (r7 < 18)))] ?_
   refine Ci h (fun h=>?_) fun h=>?_
   ·refine Qzh hT 2 [0,1,2,8,9,10] [] [(10,cb 3 95 11 (.agg [vi 6,vw b0,vw b0,vi 0,vi 0,vi 0,vw b0,vn,vn,vn,vz c0])),(9,cb 2 122 5 (eAct x5)),(10008,rb 1 s_Stmt l2)] 4 ?_
    refine Rgd hT 1 [0,1,2,8,10,87] [(87,eAct x5)] ?_
    obtain ⟨r28,hr28,h⟩:=bsome h
    refine Pt' en61 (hand_short_ok hr28) ?_
    refine Sgh hT 2 [0,1,2,8,10] [] [(10,cb 3 95 11 (.agg [vi 6,vw b0,vw b0,vi 0,vi r28.Kind,vi r28.N,vw r28.Name,po s_Expr r28.Of,vn,vn,vz c0])),(9,cb 2 122 5 (eAct x5)),(10008,rb 1 s_Stmt l2)] 4 ?_
    refine oW [0,1,2,8,10] ⟨[(0,po s_Act l6),(1,vi a1),(2,vi a2),(8,vs 10008 1 s_Stmt l2),(10,bx 10 3)],[(10,cb 3 95 11 (.agg [vi 6,vw b0,vw b0,vi 0,vi r28.Kind,vi r28.N,vw r28.Name,po s_Expr r28.Of,vn,vn,vz c0])),(9,cb 2 122 5 (eAct x5)),(10008,rb 1 s_Stmt l2)],4⟩ ?_
    refine WO_weak (wOh 10 5000 8 (cb 3 95 11 (.agg [vi 6,vw b0,vw b0,vi 0,vi r28.Kind,vi r28.N,vw r28.Name,po s_Expr r28.Of,vn,vn,vz c0])) (.agg [vi 6,vw b0,vw b0,vi 0,vi r28.Kind,vi r28.N,vw r28.Name,po s_Expr r28.Of,vn,vn,vz c0]) (.agg [vi 6,vw b0,vw b0,vi 0,vi r28.Kind,vi r28.N,vw r28.Name,po s_Expr r28.Of,vs 5000 4 s_Stmt ([] : List Stmt),vn,vz c0]) 95 11) ?_
    refine WO_weak (wOh 10 5001 9 (cb 3 95 11 (.agg [vi 6,vw b0,vw b0,vi 0,vi r28.Kind,vi r28.N,vw r28.Name,po s_Expr r28.Of,vs 5000 4 s_Stmt ([] : List Stmt),vn,vz c0])) (.agg [vi 6,vw b0,vw b0,vi 0,vi r28.Kind,vi r28.N,vw r28.Name,po s_Expr r28.Of,vs 5000 4 s_Stmt ([] : List Stmt),vn,vz c0]) (.agg [vi 6,vw b0,vw b0,vi 0,vi r28.Kind,vi r28.N,vw r28.Name,po s_Expr r28.Of,vs 5000 4 s_Stmt ([] : List Stmt),vs 5001 5 s_Stmt ([] : List Stmt),vz c0]) 95 11) ?_
    exact oR [(10,10,1),(10008,10008,1),(5000,19510,1),(5001,20510,1)] ⟨l6,6,b0,b0,0,r28.Kind,r28.N,r28.Name,r28.Of,([] : List Stmt),([] : List Stmt),h,rfl⟩
   refine WA_seq ?_
   obtain ⟨J33,hJ33,h⟩:=jsome h
   refine WA_join (fun s=>∃ (w29 : ByteArray),∃ (w30 : ByteArray),∃ (w31 : ByteArray),∃ (b32 : Bool),J33 w29 w30 w31 b32 = some r ∧ s = ⟨[(0,po s_Act l6),(1,vi a1),(2,vi a2),(8,vs 10008 1 s_Stmt l2),(9,bx 9 1),(10,bx 10 1),(11,vi r7),(90,vb b32)],[(9,cb 1 122 5 (eAct x5)),(10,cb 1 95 11 (.agg [vi 0,vw w29,vw w30,vi 0,vi 0,vi 0,vw w31,vn,vn,vn,vz c0])),(10008,rb 1 s_Stmt l2)],2⟩) ?_ ?_
   ·refine Rgd hT 3 [0,1,2,8,9,10,11,93] [(93,vb (decide (r7 < 20)))] ?_
    cases hb : (decide (r7 < 20) : Bool)
    ·replace h:=cfalse hb h
     refine Sg hT 4 [0,1,2,8,9,10,11,90] ⟨[(0,po s_Act l6),(1,vi a1),(2,vi a2),(8,vs 10008 1 s_Stmt l2),(9,bx 9 2),(10,bx 10 3),(11,vi r7),(90,vb false)],[(10,cb 3 95 11 (.agg [vi 0,vw b0,vw b0,vi 0,vi 0,vi 0,vw b0,vn,vn,vn,vz c0])),(9,cb 2 122 5 (eAct x5)),(10008,rb 1 s_Stmt l2)],4⟩ ?_
     exact oK [0,1,2,8,9,10,11,90] [(9,9,1),(10,10,1),(10008,10008,1)] ⟨b0,b0,b0,false,h,rfl⟩
    replace h:=ctrue hb h
    refine Sgd hT 4 [0,1,2,8,9,10,11,90] [(90,vb (decide (a2 < 3)))] ?_
    exact oK [0,1,2,8,9,10,11,90] [(9,9,1),(10,10,1),(10008,10008,1)] ⟨b0,b0,b0,decide (a2 < 3),h,rfl⟩
   subst hJ33
   rintro s ⟨w29,w30,w31,b32,h,rfl⟩
   skip
   refine Ci h (fun h=>?_) fun h=>?_
   ·refine Qzh hT 2 [0,1,2,8,9,10] [] [(10,cb 1 95 11 (.agg [vi 7,vw w29,vw w30,vi 0,vi 0,vi 0,vw w31,vn,vn,vn,vz c0])),(9,cb 1 122 5 (eAct x5)),(10008,rb 1 s_Stmt l2)] 2 ?_
    refine Qgd hT 1 [0,1,2,8,9,10,98] [(98,eAct x5)] ?_
    obtain ⟨r34,hr34,h⟩:=bsome h
    refine Pt' en61 (hand_short_ok hr34) ?_
    refine Szh hT 2 [0,1,2,8,9,10] [] [(10,cb 1 95 11 (.agg [vi 7,vw w29,vw w30,vi 0,vi r34.Kind,vi r34.N,vw r34.Name,po s_Expr r34.Of,vn,vn,vz c0])),(9,cb 1 122 5 (eAct x5)),(10008,rb 1 s_Stmt l2)] 2 ?_
    refine Qgd hT 3 [1,2,8,9,10,102,104] [(102,po s_Act l6),(104,vi x5.A)] ?_
    obtain ⟨r35,hr35,h⟩:=bsome h
    refine Pt' en14 (hand_Pick_ok hr35) ?_
    refine Sgd hT 3 [1,2,8,9,10,102,106,108] [(106,vi (wr (1 + r35))),(108,vi (wr (a2 + 1)))] ?_
    obtain ⟨r36,hr36,h⟩:=bsome h
    refine Og [] [(100,rb 1 s_Stmt r36.1)] [po s_Act l6,vi (wr (1 + r35)),vi (wr (a2 + 1))] [po s_Act l6,vi (wr (1 + r35)),vi (wr (a2 + 1))] [] [(100,109,2)] [(109,rb 2 s_Stmt r36.1)] (.tup [vs 100 1 s_Stmt r36.1,po s_Act r36.2]) (.tup [vs 109 2 s_Stmt r36.1,po s_Act r36.2]) 3 en37 ((ih _ (by omega)) hr36) ?_
    refine Szh hT 6 [0,1,2,8,9,10] [(0,po s_Act r36.2)] [(10,cb 1 95 11 (.agg [vi 7,vw w29,vw w30,vi 0,vi r34.Kind,vi r34.N,vw r34.Name,po s_Expr r34.Of,vs 109 2 s_Stmt r36.1,vn,vz c0])),(109,rb 2 s_Stmt r36.1),(9,cb 1 122 5 (eAct x5)),(10008,rb 1 s_Stmt l2)] 3 ?_
    refine Qzd hT 4 [0,1,2,8,9,10,116] [(116,vb ((x5.B.tmod 3) == 0))] ?_
    refine Ci h (fun h=>?_) fun h=>?_
    ·refine Rg hT 3 [1,2,8,10,118,120] ⟨[(1,vi a1),(2,vi a2),(8,vs 10008 1 s_Stmt l2),(10,bx 10 1),(118,po s_Act r36.2),(120,vi x5.N)],[(10,cb 1 95 11 (.agg [vi 7,vw w29,vw w30,vi 0,vi r34.Kind,vi r34.N,vw r34.Name,po s_Expr r34.Of,vs 109 2 s_Stmt r36.1,vn,vz c0])),(109,rb 2 s_Stmt r36.1),(9,cb 1 122 5 (eAct x5)),(10008,rb 1 s_Stmt l2)],3⟩ ?_
     obtain ⟨r37,hr37,h⟩:=bsome h
     refine Pt' en14 (hand_Pick_ok hr37) ?_
     refine Sgd hT 3 [1,2,8,10,118,122,124] [(122,vi (wr (1 + r37))),(124,vi (wr (a2 + 1)))] ?_
     obtain ⟨r38,hr38,h⟩:=bsome h
     refine Og [] [(100,rb 1 s_Stmt r38.1)] [po s_Act r36.2,vi (wr (1 + r37)),vi (wr (a2 + 1))] [po s_Act r36.2,vi (wr (1 + r37)),vi (wr (a2 + 1))] [] [(100,125,3)] [(125,rb 3 s_Stmt r38.1)] (.tup [vs 100 1 s_Stmt r38.1,po s_Act r38.2]) (.tup [vs 125 3 s_Stmt r38.1,po s_Act r38.2]) 4 en37 ((ih _ (by omega)) hr38) ?_
     refine Sgh hT 6 [0,1,2,8,10] [(0,po s_Act r38.2)] [(10,cb 1 95 11 (.agg [vi 7,vw w29,vw w30,vi 0,vi r34.Kind,vi r34.N,vw r34.Name,po s_Expr r34.Of,vs 109 2 s_Stmt r36.1,vs 125 3 s_Stmt r38.1,vz c0])),(125,rb 3 s_Stmt r38.1),(109,rb 2 s_Stmt r36.1),(9,cb 1 122 5 (eAct x5)),(10008,rb 1 s_Stmt l2)] 4 ?_
     exact oK [0,1,2,8,10] [(10,10,1),(10008,10008,1),(109,19510,1),(125,20510,1)] ⟨r38.2,7,w29,w30,0,r34.Kind,r34.N,r34.Name,r34.Of,r36.1,r38.1,h,rfl⟩
    refine aW [0,1,2,8,10] ⟨[(0,po s_Act r36.2),(1,vi a1),(2,vi a2),(8,vs 10008 1 s_Stmt l2),(10,bx 10 1)],[(10,cb 1 95 11 (.agg [vi 7,vw w29,vw w30,vi 0,vi r34.Kind,vi r34.N,vw r34.Name,po s_Expr r34.Of,vs 109 2 s_Stmt r36.1,vn,vz c0])),(109,rb 2 s_Stmt r36.1),(9,cb 1 122 5 (eAct x5)),(10008,rb 1 s_Stmt l2)],3⟩ ?_
    refine WA_weak (wOh 10 5000 9 (cb 1 95 11 (.agg [vi 7,vw w29,vw w30,vi 0,vi r34.Kind,vi r34.N,vw r34.Name,po s_Expr r34.Of,vs 109 2 s_Stmt r36.1,vn,vz c0])) (.agg [vi 7,vw w29,vw w30,vi 0,vi r34.Kind,vi r34.N,vw r34.Name,po s_Expr r34.Of,vs 109 2 s_Stmt r36.1,vn,vz c0]) (.agg [vi 7,vw w29,vw w30,vi 0,vi r34.Kind,vi r34.N,vw r34.Name,po s_Expr r34.Of,vs 109 2 s_Stmt r36.1,vs 5000 3 s_Stmt ([] : List Stmt),vz c0]) 95 11) ?_
    exact sR [(10,10,1),(10008,10008,1),(109,19510,1),(5000,20510,1)] ⟨r36.2,7,w29,w30,0,r34.Kind,r34.N,r34.Name,r34.Of,r36.1,([] : List Stmt),h,rfl⟩
   refine WA_seq ?_
   obtain ⟨J40,hJ40,h⟩:=jsome h
   refine WA_join (fun s=>∃ (b39 : Bool),J40 b39 = some r ∧ s = ⟨[(0,po s_Act l6),(1,vi a1),(2,vi a2),(8,vs 10008 1 s_Stmt l2),(9,bx 9 1),(10,bx 10 1),(11,vi r7),(129,vb b39)],[(9,cb 1 122 5 (eAct x5)),(10,cb 1 95 11 (.agg [vi 0,vw w29,vw w30,vi 0,vi 0,vi 0,vw w31,vn,vn,vn,vz c0])),(10008,rb 1 s_Stmt l2)],2⟩) ?_ ?_
   ·refine Rgd hT 3 [0,1,2,8,9,10,11,132] [(132,vb (decide (r7 < 21)))] ?_
    cases hb : (decide (r7 < 21) : Bool)
    ·replace h:=cfalse hb h
     refine Sgd hT 4 [0,1,2,8,9,10,11,129] [(129,vb false)] ?_
     exact oK [0,1,2,8,9,10,11,129] [(9,9,1),(10,10,1),(10008,10008,1)] ⟨false,h,rfl⟩
    replace h:=ctrue hb h
    refine Sgd hT 4 [0,1,2,8,9,10,11,129] [(129,vb (decide (a2 < 3)))] ?_
    exact oK [0,1,2,8,9,10,11,129] [(9,9,1),(10,10,1),(10008,10008,1)] ⟨decide (a2 < 3),h,rfl⟩
   subst hJ40
   rintro s ⟨b39,h,rfl⟩
   skip
   refine Ci h (fun h=>?_) fun h=>?_
   ·refine Qz hT 2 [0,1,2,8,9,10] ⟨[(0,po s_Act l6),(1,vi a1),(2,vi a2),(8,vs 10008 1 s_Stmt l2),(9,bx 9 1),(10,bx 10 1)],[(10,cb 1 95 11 (.agg [vi 8,vw w29,vw w30,vi 0,vi 0,vi 0,vw w31,vn,vn,vn,vz c0])),(9,cb 1 122 5 (eAct x5)),(10008,rb 1 s_Stmt l2)],2⟩ ?_
    refine Qgd hT 2 [0,1,2,8,9,10,138] [(138,vi x5.N)] ?_
    obtain ⟨r41,hr41,h⟩:=bsome h
    refine Pt' en14 (hand_Pick_ok hr41) ?_
    refine Szh hT 2 [0,1,2,8,9,10] [] [(10,cb 1 95 11 (.agg [vi 8,vw w29,vw w30,vi r41,vi 0,vi 0,vw w31,vn,vn,vn,vz c0])),(9,cb 1 122 5 (eAct x5)),(10008,rb 1 s_Stmt l2)] 2 ?_
    refine Rgd hT 3 [1,2,8,10,142,144] [(142,po s_Act l6),(144,vi x5.A)] ?_
    obtain ⟨r42,hr42,h⟩:=bsome h
    refine Pt' en14 (hand_Pick_ok hr42) ?_
    refine Sgd hT 3 [1,2,8,10,142,146,148] [(146,vi (wr (1 + r42))),(148,vi (wr (a2 + 1)))] ?_
    obtain ⟨r43,hr43,h⟩:=bsome h
    refine Og [] [(100,rb 1 s_Stmt r43.1)] [po s_Act l6,vi (wr (1 + r42)),vi (wr (a2 + 1))] [po s_Act l6,vi (wr (1 + r42)),vi (wr (a2 + 1))] [] [(100,149,2)] [(149,rb 2 s_Stmt r43.1)] (.tup [vs 100 1 s_Stmt r43.1,po s_Act r43.2]) (.tup [vs 149 2 s_Stmt r43.1,po s_Act r43.2]) 3 en37 ((ih _ (by omega)) hr43) ?_
    refine Sgh hT 6 [0,1,2,8,10] [(0,po s_Act r43.2)] [(10,cb 1 95 11 (.agg [vi 8,vw w29,vw w30,vi r41,vi 0,vi 0,vw w31,vn,vs 149 2 s_Stmt r43.1,vn,vz c0])),(149,rb 2 s_Stmt r43.1),(9,cb 1 122 5 (eAct x5)),(10008,rb 1 s_Stmt l2)] 3 ?_
    refine oW [0,1,2,8,10] ⟨[(0,po s_Act r43.2),(1,vi a1),(2,vi a2),(8,vs 10008 1 s_Stmt l2),(10,bx 10 1)],[(10,cb 1 95 11 (.agg [vi 8,vw w29,vw w30,vi r41,vi 0,vi 0,vw w31,vn,vs 149 2 s_Stmt r43.1,vn,vz c0])),(149,rb 2 s_Stmt r43.1),(9,cb 1 122 5 (eAct x5)),(10008,rb 1 s_Stmt l2)],3⟩ ?_
    refine WO_weak (wOh 10 5000 9 (cb 1 95 11 (.agg [vi 8,vw w29,vw w30,vi r41,vi 0,vi 0,vw w31,vn,vs 149 2 s_Stmt r43.1,vn,vz c0])) (.agg [vi 8,vw w29,vw w30,vi r41,vi 0,vi 0,vw w31,vn,vs 149 2 s_Stmt r43.1,vn,vz c0]) (.agg [vi 8,vw w29,vw w30,vi r41,vi 0,vi 0,vw w31,vn,vs 149 2 s_Stmt r43.1,vs 5000 3 s_Stmt ([] : List Stmt),vz c0]) 95 11) ?_
    refine WO_weak (wL [(0,po s_Act r43.2),(1,vi a1),(2,vi a2),(8,vs 10008 1 s_Stmt l2),(10,bx 10 1)] [(5000,rb 3 s_Stmt ([] : List Stmt)),(10,cb 1 95 11 (.agg [vi 8,vw w29,vw w30,vi r41,vi 0,vi 0,vw w31,po s_Expr [],vs 149 2 s_Stmt r43.1,vs 5000 3 s_Stmt ([] : List Stmt),vz c0])),(149,rb 2 s_Stmt r43.1),(9,cb 1 122 5 (eAct x5)),(10008,rb 1 s_Stmt l2)] ⟨VLf.refl _,VLf.refl _,VLf.refl _,VLf.refl _,VLf.refl _,trivial⟩ ⟨rfl,.inl rfl,rfl,.inr (.inl ⟨rfl,rfl,CLe.agg ⟨VLf.refl _,VLf.refl _,VLf.refl _,VLf.refl _,VLf.refl _,VLf.refl _,VLf.refl _,(VLe.f VLe.nil_opt rfl),VLf.refl _,VLf.refl _,VLf.refl _,trivial⟩,trivial⟩),rfl,.inl rfl,rfl,.inl rfl,rfl,.inl rfl,trivial⟩) ?_
    exact oR [(10,10,1),(10008,10008,1),(149,19510,1),(5000,20510,1)] ⟨r43.2,8,w29,w30,r41,0,0,w31,[],r43.1,([] : List Stmt),h,rfl⟩
   refine Qzd hT 3 [0,1,2,8,9,10,11,153] [(153,vb (decide (r7 < 22)))] ?_
   refine Ci h (fun h=>?_) fun h=>?_
   ·refine Qzh hT 2 [0,1,2,8,9,10] [] [(10,cb 1 95 11 (.agg [vi 9,vw w29,vw w30,vi 0,vi 0,vi 0,vw w31,vn,vn,vn,vz c0])),(9,cb 1 122 5 (eAct x5)),(10008,rb 1 s_Stmt l2)] 2 ?_
    refine Rgd hT 3 [0,1,2,8,10,157,159] [(157,.agg [vw k_l,vw k_k]),(159,vi x5.A)] ?_
    obtain ⟨r44,hr44,h⟩:=bsome h
    refine Pt' en14 (hand_Pick_ok hr44) ?_
    refine Sg hT 0 [0,1,2,8,10,157,160] ⟨[(0,po s_Act l6),(1,vi a1),(2,vi a2),(8,vs 10008 1 s_Stmt l2),(10,bx 10 1),(157,.agg [vw k_l,vw k_k]),(160,vi r44)],[(10,cb 1 95 11 (.agg [vi 9,vw w29,vw w30,vi 0,vi 0,vi 0,vw w31,vn,vn,vn,vz c0])),(9,cb 1 122 5 (eAct x5)),(10008,rb 1 s_Stmt l2)],2⟩ ?_
    obtain ⟨x45,hx45,h⟩:=bsome h
    refine One' hT rfl (v_indexA e_s [k_l,k_k] .i64 r44 _ _ 9 hx45) ?_
    refine Sgh hT 2 [0,1,2,8,10] [] [(10,cb 1 95 11 (.agg [vi 9,vw x45,vw w30,vi 0,vi 0,vi 0,vw w31,vn,vn,vn,vz c0])),(9,cb 1 122 5 (eAct x5)),(10008,rb 1 s_Stmt l2)] 2 ?_
    refine oW [0,1,2,8,10] ⟨[(0,po s_Act l6),(1,vi a1),(2,vi a2),(8,vs 10008 1 s_Stmt l2),(10,bx 10 1)],[(10,cb 1 95 11 (.agg [vi 9,vw x45,vw w30,vi 0,vi 0,vi 0,vw w31,vn,vn,vn,vz c0])),(9,cb 1 122 5 (eAct x5)),(10008,rb 1 s_Stmt l2)],2⟩ ?_
    refine WO_weak (wOh 10 5000 8 (cb 1 95 11 (.agg [vi 9,vw x45,vw w30,vi 0,vi 0,vi 0,vw w31,vn,vn,vn,vz c0])) (.agg [vi 9,vw x45,vw w30,vi 0,vi 0,vi 0,vw w31,vn,vn,vn,vz c0]) (.agg [vi 9,vw x45,vw w30,vi 0,vi 0,vi 0,vw w31,vn,vs 5000 2 s_Stmt ([] : List Stmt),vn,vz c0]) 95 11) ?_
    refine WO_weak (wOh 10 5001 9 (cb 1 95 11 (.agg [vi 9,vw x45,vw w30,vi 0,vi 0,vi 0,vw w31,vn,vs 5000 2 s_Stmt ([] : List Stmt),vn,vz c0])) (.agg [vi 9,vw x45,vw w30,vi 0,vi 0,vi 0,vw w31,vn,vs 5000 2 s_Stmt ([] : List Stmt),vn,vz c0]) (.agg [vi 9,vw x45,vw w30,vi 0,vi 0,vi 0,vw w31,vn,vs 5000 2 s_Stmt ([] : List Stmt),vs 5001 3 s_Stmt ([] : List Stmt),vz c0]) 95 11) ?_
    refine WO_weak (wL [(0,po s_Act l6),(1,vi a1),(2,vi a2),(8,vs 10008 1 s_Stmt l2),(10,bx 10 1)] [(5001,rb 3 s_Stmt ([] : List Stmt)),(10,cb 1 95 11 (.agg [vi 9,vw x45,vw w30,vi 0,vi 0,vi 0,vw w31,po s_Expr [],vs 5000 2 s_Stmt ([] : List Stmt),vs 5001 3 s_Stmt ([] : List Stmt),vz c0])),(5000,rb 2 s_Stmt ([] : List Stmt)),(9,cb 1 122 5 (eAct x5)),(10008,rb 1 s_Stmt l2)] ⟨VLf.refl _,VLf.refl _,VLf.refl _,VLf.refl _,VLf.refl _,trivial⟩ ⟨rfl,.inl rfl,rfl,.inr (.inl ⟨rfl,rfl,CLe.agg ⟨VLf.refl _,VLf.refl _,VLf.refl _,VLf.refl _,VLf.refl _,VLf.refl _,VLf.refl _,(VLe.f VLe.nil_opt rfl),VLf.refl _,VLf.refl _,VLf.refl _,trivial⟩,trivial⟩),rfl,.inl rfl,rfl,.inl rfl,rfl,.inl rfl,trivial⟩) ?_
    exact oR [(10,10,1),(10008,10008,1),(5000,19510,1),(5001,20510,1)] ⟨l6,9,x45,w30,0,0,0,w31,[],([] : List Stmt),([] : List Stmt),h,rfl⟩
   refine Qzd hT 3 [0,1,2,8,9,10,163] [(163,vb (decide (r7 < 23)))] ?_
   refine Ci h (fun h=>?_) fun h=>?_
   ·refine Qzh hT 2 [0,1,2,8,9,10] [] [(10,cb 1 95 11 (.agg [vi 10,vw w29,vw w30,vi 0,vi 0,vi 0,vw w31,vn,vn,vn,vz c0])),(9,cb 1 122 5 (eAct x5)),(10008,rb 1 s_Stmt l2)] 2 ?_
    refine Rgd hT 3 [0,1,2,8,10,167,169] [(167,.agg [vw k_l,vw k_k]),(169,vi x5.A)] ?_
    obtain ⟨r46,hr46,h⟩:=bsome h
    refine Pt' en14 (hand_Pick_ok hr46) ?_
    refine Sgd hT 0 [0,1,2,8,10,167,170] [(170,vi r46)] ?_
    obtain ⟨x47,hx47,h⟩:=bsome h
    refine One' hT rfl (v_indexA e_s [k_l,k_k] .i64 r46 _ _ 9 hx47) ?_
    refine Sgh hT 2 [0,1,2,8,10] [] [(10,cb 1 95 11 (.agg [vi 10,vw x47,vw w30,vi 0,vi 0,vi 0,vw w31,vn,vn,vn,vz c0])),(9,cb 1 122 5 (eAct x5)),(10008,rb 1 s_Stmt l2)] 2 ?_
    refine oW [0,1,2,8,10] ⟨[(0,po s_Act l6),(1,vi a1),(2,vi a2),(8,vs 10008 1 s_Stmt l2),(10,bx 10 1)],[(10,cb 1 95 11 (.agg [vi 10,vw x47,vw w30,vi 0,vi 0,vi 0,vw w31,vn,vn,vn,vz c0])),(9,cb 1 122 5 (eAct x5)),(10008,rb 1 s_Stmt l2)],2⟩ ?_
    refine WO_weak (wOh 10 5000 8 (cb 1 95 11 (.agg [vi 10,vw x47,vw w30,vi 0,vi 0,vi 0,vw w31,vn,vn,vn,vz c0])) (.agg [vi 10,vw x47,vw w30,vi 0,vi 0,vi 0,vw w31,vn,vn,vn,vz c0]) (.agg [vi 10,vw x47,vw w30,vi 0,vi 0,vi 0,vw w31,vn,vs 5000 2 s_Stmt ([] : List Stmt),vn,vz c0]) 95 11) ?_
    refine WO_weak (wOh 10 5001 9 (cb 1 95 11 (.agg [vi 10,vw x47,vw w30,vi 0,vi 0,vi 0,vw w31,vn,vs 5000 2 s_Stmt ([] : List Stmt),vn,vz c0])) (.agg [vi 10,vw x47,vw w30,vi 0,vi 0,vi 0,vw w31,vn,vs 5000 2 s_Stmt ([] : List Stmt),vn,vz c0]) (.agg [vi 10,vw x47,vw w30,vi 0,vi 0,vi 0,vw w31,vn,vs 5000 2 s_Stmt ([] : List Stmt),vs 5001 3 s_Stmt ([] : List Stmt),vz c0]) 95 11) ?_
    refine WO_weak (wL [(0,po s_Act l6),(1,vi a1),(2,vi a2),(8,vs 10008 1 s_Stmt l2),(10,bx 10 1)] [(5001,rb 3 s_Stmt ([] : List Stmt)),(10,cb 1 95 11 (.agg [vi 10,vw x47,vw w30,vi 0,vi 0,vi 0,vw w31,po s_Expr [],vs 5000 2 s_Stmt ([] : List Stmt),vs 5001 3 s_Stmt ([] : List Stmt),vz c0])),(5000,rb 2 s_Stmt ([] : List Stmt)),(9,cb 1 122 5 (eAct x5)),(10008,rb 1 s_Stmt l2)] ⟨VLf.refl _,VLf.refl _,VLf.refl _,VLf.refl _,VLf.refl _,trivial⟩ ⟨rfl,.inl rfl,rfl,.inr (.inl ⟨rfl,rfl,CLe.agg ⟨VLf.refl _,VLf.refl _,VLf.refl _,VLf.refl _,VLf.refl _,VLf.refl _,VLf.refl _,(VLe.f VLe.nil_opt rfl),VLf.refl _,VLf.refl _,VLf.refl _,trivial⟩,trivial⟩),rfl,.inl rfl,rfl,.inl rfl,rfl,.inl rfl,trivial⟩) ?_
    exact oR [(10,10,1),(10008,10008,1),(5000,19510,1),(5001,20510,1)] ⟨l6,10,x47,w30,0,0,0,w31,[],([] : List Stmt),([] : List Stmt),h,rfl⟩
   refine Qzh hT 2 [0,1,2,8,9,10] [] [(10,cb 1 95 11 (.agg [vi 1,vw w29,vw w30,vi 0,vi 0,vi 0,vw w31,vn,vn,vn,vz c0])),(9,cb 1 122 5 (eAct x5)),(10008,rb 1 s_Stmt l2)] 2 ?_
   refine Qzh hT 2 [0,1,2,8,9,10] [] [(10,cb 1 95 11 (.agg [vi 1,vw k_t,vw w30,vi 0,vi 0,vi 0,vw w31,vn,vn,vn,vz c0])),(9,cb 1 122 5 (eAct x5)),(10008,rb 1 s_Stmt l2)] 2 ?_
   refine Rg hT 1 [0,1,2,8,10,32] ⟨[(0,po s_Act l6),(1,vi a1),(2,vi a2),(8,vs 10008 1 s_Stmt l2),(10,bx 10 1),(32,eAct x5)],[(10,cb 1 95 11 (.agg [vi 1,vw k_t,vw w30,vi 0,vi 0,vi 0,vw w31,vn,vn,vn,vz c0])),(9,cb 1 122 5 (eAct x5)),(10008,rb 1 s_Stmt l2)],2⟩ ?_
   obtain ⟨r48,hr48,h⟩:=bsome h
   refine Pt' en61 (hand_short_ok hr48) ?_
   refine Sgh hT 2 [0,1,2,8,10] [] [(10,cb 1 95 11 (.agg [vi 1,vw k_t,vw w30,vi 0,vi r48.Kind,vi r48.N,vw r48.Name,po s_Expr r48.Of,vn,vn,vz c0])),(9,cb 1 122 5 (eAct x5)),(10008,rb 1 s_Stmt l2)] 2 ?_
   refine oW [0,1,2,8,10] ⟨[(0,po s_Act l6),(1,vi a1),(2,vi a2),(8,vs 10008 1 s_Stmt l2),(10,bx 10 1)],[(10,cb 1 95 11 (.agg [vi 1,vw k_t,vw w30,vi 0,vi r48.Kind,vi r48.N,vw r48.Name,po s_Expr r48.Of,vn,vn,vz c0])),(9,cb 1 122 5 (eAct x5)),(10008,rb 1 s_Stmt l2)],2⟩ ?_
   refine WO_weak (wOh 10 5000 8 (cb 1 95 11 (.agg [vi 1,vw k_t,vw w30,vi 0,vi r48.Kind,vi r48.N,vw r48.Name,po s_Expr r48.Of,vn,vn,vz c0])) (.agg [vi 1,vw k_t,vw w30,vi 0,vi r48.Kind,vi r48.N,vw r48.Name,po s_Expr r48.Of,vn,vn,vz c0]) (.agg [vi 1,vw k_t,vw w30,vi 0,vi r48.Kind,vi r48.N,vw r48.Name,po s_Expr r48.Of,vs 5000 2 s_Stmt ([] : List Stmt),vn,vz c0]) 95 11) ?_
   refine WO_weak (wOh 10 5001 9 (cb 1 95 11 (.agg [vi 1,vw k_t,vw w30,vi 0,vi r48.Kind,vi r48.N,vw r48.Name,po s_Expr r48.Of,vs 5000 2 s_Stmt ([] : List Stmt),vn,vz c0])) (.agg [vi 1,vw k_t,vw w30,vi 0,vi r48.Kind,vi r48.N,vw r48.Name,po s_Expr r48.Of,vs 5000 2 s_Stmt ([] : List Stmt),vn,vz c0]) (.agg [vi 1,vw k_t,vw w30,vi 0,vi r48.Kind,vi r48.N,vw r48.Name,po s_Expr r48.Of,vs 5000 2 s_Stmt ([] : List Stmt),vs 5001 3 s_Stmt ([] : List Stmt),vz c0]) 95 11) ?_
   exact oR [(10,10,1),(10008,10008,1),(5000,19510,1),(5001,20510,1)] ⟨l6,1,k_t,w30,0,r48.Kind,r48.N,r48.Name,r48.Of,([] : List Stmt),([] : List Stmt),h,rfl⟩
  subst hJ19
  rintro s ⟨l8,i9,w10,w11,i12,i13,i14,w15,l16,l17,l18,h,rfl⟩
  skip
  refine Rgd hT 2 [0,1,2,173,174] [(173,vs 10008 1 s_Stmt l2),(174,.agg [vi i9,vw w10,vw w11,vi i12,vi i13,vi i14,vw w15,po s_Expr l16,vs 19510 1 s_Stmt l17,vs 20510 1 s_Stmt l18,vz c0])] ?_
  refine WO_weak (wF 19510 1 (rb 1 s_Stmt l17) [(0,po s_Act l8),(1,vi a1),(2,vi a2),(173,vs 10008 1 s_Stmt l2),(174,.agg [vi i9,vw w10,vw w11,vi i12,vi i13,vi i14,vw w15,po s_Expr l16,po s_Stmt l17,vs 20510 1 s_Stmt l18,vz c0])] [(10,cb 1 95 11 (.agg [vi i9,vw w10,vw w11,vi i12,vi i13,vi i14,vw w15,po s_Expr l16,po s_Stmt l17,vs 20510 1 s_Stmt l18,vz c0])),(10008,rb 1 s_Stmt l2),(20510,rb 1 s_Stmt l18)] ⟨rfl,.keep _,rfl,.keep _,rfl,.keep _,rfl,.keep _,rfl,.aggs ⟨.keep _,.keep _,.keep _,.keep _,.keep _,.keep _,.keep _,.keep _,.hit true,.keep _,.keep _,trivial⟩,trivial⟩ ⟨rfl,.inr ⟨rfl,rfl,.aggs ⟨.keep _,.keep _,.keep _,.keep _,.keep _,.keep _,.keep _,.keep _,.hit true,.keep _,.keep _,trivial⟩,trivial⟩,rfl,.inl rfl,rfl,.inl rfl,trivial⟩) ?_
  refine WO_weak (wF 20510 1 (rb 1 s_Stmt l18) [(0,po s_Act l8),(1,vi a1),(2,vi a2),(173,vs 10008 1 s_Stmt l2),(174,.agg [vi i9,vw w10,vw w11,vi i12,vi i13,vi i14,vw w15,po s_Expr l16,po s_Stmt l17,po s_Stmt l18,vz c0])] [(10,cb 1 95 11 (.agg [vi i9,vw w10,vw w11,vi i12,vi i13,vi i14,vw w15,po s_Expr l16,po s_Stmt l17,po s_Stmt l18,vz c0])),(10008,rb 1 s_Stmt l2)] ⟨rfl,.keep _,rfl,.keep _,rfl,.keep _,rfl,.keep _,rfl,.aggs ⟨.keep _,.keep _,.keep _,.keep _,.keep _,.keep _,.keep _,.keep _,.keep _,.hit true,.keep _,trivial⟩,trivial⟩ ⟨rfl,.inr ⟨rfl,rfl,.aggs ⟨.keep _,.keep _,.keep _,.keep _,.keep _,.keep _,.keep _,.keep _,.keep _,.hit true,.keep _,trivial⟩,trivial⟩,rfl,.inl rfl,trivial⟩) ?_
  refine One' hT rfl (ev_bslice s_Stmt 175 [(Stmt.mk i9 w10 w11 i12 (Expr.mk i13 i14 w15 l16) l17 l18 c0)] (by kernel_rfl)) ?_
  refine Sgh hT 0 [0,1,2,173,175] [(175,vs 175 2 s_Stmt [(Stmt.mk i9 w10 w11 i12 (Expr.mk i13 i14 w15 l16) l17 l18 c0)])] [(175,⟨2,95,11,false,false,s_Stmt.F [(Stmt.mk i9 w10 w11 i12 (Expr.mk i13 i14 w15 l16) l17 l18 c0)]⟩),(10,cb 1 95 11 (.agg [vi i9,vw w10,vw w11,vi i12,vi i13,vi i14,vw w15,po s_Expr l16,po s_Stmt l17,po s_Stmt l18,vz c0])),(10008,rb 1 s_Stmt l2)] 3 ?_
  obtain ⟨g49,h⟩:=gsome h
  refine Oa hT s_Stmt 10008 1 true l2 [(Stmt.mk i9 w10 w11 i12 (Expr.mk i13 i14 w15 l16) l17 l18 c0)] (eO s_Stmt 175 2 true ⟨2,95,11,false,false,s_Stmt.F [(Stmt.mk i9 w10 w11 i12 (Expr.mk i13 i14 w15 l16) l17 l18 c0)]⟩ [(Stmt.mk i9 w10 w11 i12 (Expr.mk i13 i14 w15 l16) l17 l18 c0)]) g49 ?_
  refine Sgh hT 1 [0,1,2,8] [(8,vs 176 3 s_Stmt (l2 ++ [(Stmt.mk i9 w10 w11 i12 (Expr.mk i13 i14 w15 l16) l17 l18 c0)]))] [(176,rb 3 s_Stmt (l2 ++ [(Stmt.mk i9 w10 w11 i12 (Expr.mk i13 i14 w15 l16) l17 l18 c0)])),(175,⟨2,95,11,false,false,s_Stmt.F [(Stmt.mk i9 w10 w11 i12 (Expr.mk i13 i14 w15 l16) l17 l18 c0)]⟩),(10,cb 1 95 11 (.agg [vi i9,vw w10,vw w11,vi i12,vi i13,vi i14,vw w15,po s_Expr l16,po s_Stmt l17,po s_Stmt l18,vz c0]))] 4 ?_
  exact oK [0,1,2,8] [(176,10008,1)] ⟨_,by omega,by omega,l8,l2 ++ [(Stmt.mk i9 w10 w11 i12 (Expr.mk i13 i14 w15 l16) l17 l18 c0)],h,rfl⟩
 refine WA_exit ?_
 refine Qzd hT 4 [6,7] [(6,vs 10008 1 s_Stmt l2),(7,po s_Act l1)] ?_
 obtain rfl:=Option.some.inj h
 exact rK [6,7] [(10008,100,1)] ⟨[(6,vs 100 1 s_Stmt l2),(7,po s_Act l1)],[(100,rb 1 s_Stmt l2)],2⟩ ⟨by kernel_rfl,by kernel_rfl,rfl⟩
theorem hand_stmts_all (n : Nat) : hand_stmts_spec n:=by
 induction n using Nat.strongRecOn with
 | _ n ih=>exact hand_stmts_step n ih
theorem hand_stmts_ok {n : Nat} {a0 : List Act} {a1 : Int} {a2 : Int} {r : (List Stmt) × (List Act)} (h : hand_stmts n a0 a1 a2 = some r) : GO Try.prog 37 [] [po s_Act a0,vi a1,vi a2] (.tup [vs 100 1 s_Stmt r.1,po s_Act r.2]) [(100,rb 1 s_Stmt r.1)]:=(hand_stmts_all n) h
theorem hand_Prog_ok {n : Nat} {a0 : Int} {a1 : List Act} {a2 : List Act} {a3 : List Act} {a4 : Int} {r : Prog} (h : hand_Prog n a0 a1 a2 a3 a4 = some r) : GO Try.prog 13 [] [vi a0,po s_Act a1,po s_Act a2,po s_Act a3,vi a4] (.agg [po s_Decl r.Decls,vs 100 1 s_LStmt r.Threads]) [(100,rb 1 s_LStmt r.Threads)]:=by
 unfold hand_Prog at h
 refine GO_bodyA hT Try.func13 rfl [1000] (by kernel_rfl) fun bad w m=>?_
 refine Qzh hT 1 [0,1,2,3,4,10] [(10,bx 10 1)] [(10,cb 1 26 2 (.agg [vn,vn]))] 2 ?_
 refine Qgd hT 1 [1,2,3,4,10,16] [(16,vi a0)] ?_
 obtain ⟨r1,hr1,h⟩:=bsome h
 refine Og [] [(100,rb 1 s_Decl r1)] [vi a0] [vi a0] [] [(100,17,2)] [(17,rb 2 s_Decl r1)] (vs 100 1 s_Decl r1) (vs 17 2 s_Decl r1) 3 en36 (hand_Decls_ok hr1) ?_
 refine Sgh hT 0 [1,2,3,4,10,17] [(17,vs 17 2 s_Decl r1)] [(17,rb 2 s_Decl r1),(10,cb 1 26 2 (.agg [vn,vn]))] 3 ?_
 refine WO_weak (wF 17 2 (rb 2 s_Decl r1) [(1,po s_Act a1),(2,po s_Act a2),(3,po s_Act a3),(4,vi a4),(10,bx 10 1),(17,po s_Decl r1)] [(10,cb 1 26 2 (.agg [vn,vn]))] ⟨rfl,.keep _,rfl,.keep _,rfl,.keep _,rfl,.keep _,rfl,.keep _,rfl,.hit true,trivial⟩ ⟨rfl,.inl rfl,trivial⟩) ?_
 refine Szh hT 3 [1,2,3,4,10,11] [(11,bx 11 3)] [(11,cb 3 26 2 (.agg [po s_Decl r1,vn])),(10,cb 1 26 2 (.agg [vn,vn]))] 4 ?_
 refine WA_seq ?_
 refine Qzd hT 5 [3,4,10,11,22,23] [(22,.agg [po s_Act a1,po s_Act a2,po s_Act a3]),(23,vi 0)] ?_
 obtain ⟨J3,hJ3,h⟩:=jsome h
 refine WA_join (fun s=>∃ (l2 : List (List Stmt)),J3 l2 = some r ∧ s = ⟨[(10,bx 10 1),(11,bx 11 1)],[(10,cb 1 26 2 (.agg [vn,vn])),(11,cb 1 26 2 (.agg [po s_Decl r1,vs 12511 1 s_LStmt l2])),(12511,rb 1 s_LStmt l2)],2⟩) ?_ ?_
 ·refine WA_block ?_
  refine aW [3,4,10,11,22,23] ⟨[(3,po s_Act a3),(4,vi a4),(10,bx 10 1),(11,bx 11 3),(22,.agg [po s_Act a1,po s_Act a2,po s_Act a3]),(23,vi 0)],[(11,cb 3 26 2 (.agg [po s_Decl r1,vn])),(10,cb 1 26 2 (.agg [vn,vn]))],4⟩ ?_
  refine WA_weak (wOh 11 5000 1 (cb 3 26 2 (.agg [po s_Decl r1,vn])) (.agg [po s_Decl r1,vn]) (.agg [po s_Decl r1,vs 5000 4 s_LStmt ([] : List (List Stmt))]) 75 1) ?_
  refine lR [(10,10,1),(11,11,1),(5000,12511,1)] (fun k s=>∃ q,q ≤ k ∧ q ≤ n ∧ ∃ (l4 : List (List Stmt)),∃ (i5 : Int),hand_Prog_L0 q a0 a1 a2 a3 a4 r1 J3 l4 i5 = some r ∧ s = ⟨[(3,po s_Act a3),(4,vi a4),(10,bx 10 1),(11,bx 11 1),(22,.agg [po s_Act a1,po s_Act a2,po s_Act a3]),(23,vi i5)],[(10,cb 1 26 2 (.agg [vn,vn])),(11,cb 1 26 2 (.agg [po s_Decl r1,vs 12511 1 s_LStmt l4])),(12511,rb 1 s_LStmt l4)],2⟩) n ⟨n,Nat.le_refl _,Nat.le_refl _,([] : List (List Stmt)),0,h,rfl⟩ (by rintro s ⟨q,hq,_,l4,i5,h,_⟩; obtain rfl:=Nat.le_zero.1 hq; rw [hand_Prog_L0] at h; cases h) ?_
  clear h
  rintro k1 s ⟨q1,hk1,hn1,l4,i5,h,rfl⟩
  rcases q1 with _ | q1
  ·rw [hand_Prog_L0] at h; cases h
  rw [hand_Prog_L0] at h
  refine Qzd hT 1 [3,4,10,11,22,23,24] [(24,vb (decide (i5 < 3)))] ?_
  refine WA_seq ?_
  refine Ci h (fun h=>?_) fun h=>?_
  ·refine WA_skip ?_
   refine WA_seq ?_
   refine WA_block ?_
   refine Qgd hT 1 [3,4,10,11,22,23,25] [(25,vi i5)] ?_
   obtain ⟨x6,hx6,h⟩:=bsome h
   refine One' hT rfl (v_indexA el_Act [a1,a2,a3] .i64 i5 _ _ 22 hx6) ?_
   refine Szd hT 2 [3,4,10,11,12,13,22,23] [(12,vi i5),(13,po s_Act x6)] ?_
   refine WA_seq ?_
   refine WA_seq ?_
   obtain ⟨J8,hJ8,h⟩:=jsome h
   refine WA_join (fun s=>∃ (b7 : Bool),J8 b7 = some r ∧ s = ⟨[(3,po s_Act a3),(4,vi a4),(10,bx 10 1),(11,bx 11 1),(13,po s_Act x6),(22,.agg [po s_Act a1,po s_Act a2,po s_Act a3]),(23,vi i5),(37,vb b7)],[(10,cb 1 26 2 (.agg [vn,vn])),(11,cb 1 26 2 (.agg [po s_Decl r1,vs 12511 1 s_LStmt l4])),(12511,rb 1 s_LStmt l4)],2⟩) ?_ ?_
   ·refine Rgd hT 3 [3,4,10,11,13,22,23,29] [(29,vb (i5 == 2))] ?_
    cases hb : ((i5 == 2) : Bool)
    ·replace h:=cfalse hb h
     refine Sgd hT 8 [3,4,10,11,13,22,23,37] [(37,vb false)] ?_
     exact oK [3,4,10,11,13,22,23,37] [(10,10,1),(11,11,1),(12511,12511,1)] ⟨false,h,rfl⟩
    replace h:=ctrue hb h
    refine Sgd hT 1 [3,4,10,11,13,22,23,29,30] [(30,po s_Act a3)] ?_
    refine One' hT rfl (v_len s_Act .opt a3) ?_
    refine Sg hT 2 [3,4,10,11,13,22,23,29,33] ⟨[(3,po s_Act a3),(4,vi a4),(10,bx 10 1),(11,bx 11 1),(13,po s_Act x6),(22,.agg [po s_Act a1,po s_Act a2,po s_Act a3]),(23,vi i5),(29,vb true),(33,vb ((ln a3) == 0))],[(10,cb 1 26 2 (.agg [vn,vn])),(11,cb 1 26 2 (.agg [po s_Decl r1,vs 12511 1 s_LStmt l4])),(12511,rb 1 s_LStmt l4)],2⟩ ?_
    cases hb : (((ln a3) == 0) : Bool)
    ·replace h:=cfalse hb h
     refine Sgd hT 4 [3,4,10,11,13,22,23,37] [(37,vb (decide (a4 > 4)))] ?_
     exact oK [3,4,10,11,13,22,23,37] [(10,10,1),(11,11,1),(12511,12511,1)] ⟨decide (a4 > 4),h,rfl⟩
    replace h:=ctrue hb h
    refine Sgd hT 4 [3,4,10,11,13,22,23,37] [(37,vb true)] ?_
    exact oK [3,4,10,11,13,22,23,37] [(10,10,1),(11,11,1),(12511,12511,1)] ⟨true,h,rfl⟩
   subst hJ8
   rintro s ⟨b7,h,rfl⟩
   skip
   refine Ci h (fun h=>?_) fun h=>?_
   ·exact eK [10,11] [(10,10,1),(11,11,1),(12511,12511,1)] ⟨l4,h,rfl⟩
   refine WA_skip ?_
   refine Qgd hT 1 [3,4,10,11,22,23,39] [(39,po s_Act x6)] ?_
   obtain ⟨r9,hr9,h⟩:=bsome h
   refine Pt' en38 (hand_acts_ok hr9) ?_
   refine Sgd hT 1 [3,4,10,11,22,23,40,41] [(40,po s_Act r9),(41,vi a4)] ?_
   obtain ⟨r10,hr10,h⟩:=bsome h
   refine Og [] [(100,rb 1 s_Stmt r10.1)] [po s_Act r9,vi a4,vi 1] [po s_Act r9,vi a4,vi 1] [] [(100,42,2)] [(42,rb 2 s_Stmt r10.1)] (.tup [vs 100 1 s_Stmt r10.1,po s_Act r10.2]) (.tup [vs 42 2 s_Stmt r10.1,po s_Act r10.2]) 3 en37 (hand_stmts_ok hr10) ?_
   refine Szh hT 5 [3,4,10,11,14,22,23] [(14,vs 42 2 s_Stmt r10.1)] [(42,rb 2 s_Stmt r10.1),(10,cb 1 26 2 (.agg [vn,vn])),(11,cb 1 26 2 (.agg [po s_Decl r1,vs 12511 1 s_LStmt l4])),(12511,rb 1 s_LStmt l4)] 3 ?_
   refine Rgd hT 3 [3,4,10,11,22,23,46,47] [(46,vs 12511 1 s_LStmt l4),(47,vs 42 2 s_Stmt r10.1)] ?_
   refine WO_weak (wF 42 2 (rb 2 s_Stmt r10.1) [(3,po s_Act a3),(4,vi a4),(10,bx 10 1),(11,bx 11 1),(22,.agg [po s_Act a1,po s_Act a2,po s_Act a3]),(23,vi i5),(46,vs 12511 1 s_LStmt l4),(47,po s_Stmt r10.1)] [(10,cb 1 26 2 (.agg [vn,vn])),(11,cb 1 26 2 (.agg [po s_Decl r1,vs 12511 1 s_LStmt l4])),(12511,rb 1 s_LStmt l4)] ⟨rfl,.keep _,rfl,.keep _,rfl,.keep _,rfl,.keep _,rfl,.keep _,rfl,.keep _,rfl,.keep _,rfl,.hit true,trivial⟩ ⟨rfl,.inl rfl,rfl,.inl rfl,rfl,.inl rfl,trivial⟩) ?_
   refine Sgh hT 1 [3,4,10,11,22,23,46,48] [(48,vs 48 3 s_LStmt [r10.1])] [(48,⟨3,75,1,false,false,s_LStmt.F [r10.1]⟩),(10,cb 1 26 2 (.agg [vn,vn])),(11,cb 1 26 2 (.agg [po s_Decl r1,vs 12511 1 s_LStmt l4])),(12511,rb 1 s_LStmt l4)] 4 ?_
   obtain ⟨g11,h⟩:=gsome h
   refine Oa hT s_LStmt 12511 1 true l4 [r10.1] (eO s_LStmt 48 3 true ⟨3,75,1,false,false,s_LStmt.F [r10.1]⟩ [r10.1]) g11 ?_
   refine Szh hT 2 [3,4,10,11,22,23] [] [(11,cb 1 26 2 (.agg [po s_Decl r1,vs 49 4 s_LStmt (l4 ++ [r10.1])])),(49,rb 4 s_LStmt (l4 ++ [r10.1])),(48,⟨3,75,1,false,false,s_LStmt.F [r10.1]⟩),(10,cb 1 26 2 (.agg [vn,vn]))] 5 ?_
   refine Rg hT 2 [3,4,10,11,22,23] ⟨[(3,po s_Act a3),(4,vi a4),(10,bx 10 1),(11,bx 11 1),(22,.agg [po s_Act a1,po s_Act a2,po s_Act a3]),(23,vi (wr (i5 + 1)))],[(11,cb 1 26 2 (.agg [po s_Decl r1,vs 49 4 s_LStmt (l4 ++ [r10.1])])),(49,rb 4 s_LStmt (l4 ++ [r10.1])),(48,⟨3,75,1,false,false,s_LStmt.F [r10.1]⟩),(10,cb 1 26 2 (.agg [vn,vn]))],5⟩ ?_
   exact oK [3,4,10,11,22,23] [(10,10,1),(11,11,1),(49,12511,1)] ⟨_,by omega,by omega,l4 ++ [r10.1],wr (i5 + 1),h,rfl⟩
  exact eK [10,11] [(10,10,1),(11,11,1),(12511,12511,1)] ⟨l4,h,rfl⟩
 subst hJ3
 rintro s ⟨l2,h,rfl⟩
 refine Qz hT 2 [10] ⟨[(10,bx 10 1)],[(10,cb 1 26 2 (.agg [po s_Decl r1,vs 12511 1 s_LStmt l2])),(11,cb 1 26 2 (.agg [po s_Decl r1,vs 12511 1 s_LStmt l2])),(12511,rb 1 s_LStmt l2)],2⟩ ?_
 obtain rfl:=Option.some.inj h
 exact rK [10] [(12511,100,1),(10,1000,1)] ⟨[(10,bx 1000 1)],[(100,rb 1 s_LStmt l2),(1000,cb 1 26 2 (.agg [po s_Decl r1,vs 100 1 s_LStmt l2]))],2⟩ ⟨by kernel_rfl,by kernel_rfl,rfl⟩
def hand_marked_spec (n : Nat) : Prop:=(∀ {a0 : List Stmt} {a1 : Int} {r : (List Stmt) × Int},hand_marked n a0 a1 = some r → GO Try.prog 58 [(0,cb 0 3 1 (vi a1))] [po s_Stmt a0,bx 0 0] (vs 100 1 s_Stmt r.1) [(0,cb 0 3 1 (vi r.2)),(100,rb 1 s_Stmt r.1)])
theorem hand_marked_step (n : Nat) (ih : ∀ m,m < n → hand_marked_spec m) : ∀ {a0 : List Stmt} {a1 : Int} {r : (List Stmt) × Int},hand_marked n a0 a1 = some r → GO Try.prog 58 [(0,cb 0 3 1 (vi a1))] [po s_Stmt a0,bx 0 0] (vs 100 1 s_Stmt r.1) [(0,cb 0 3 1 (vi r.2)),(100,rb 1 s_Stmt r.1)]:=by
 intro a0 a1 r h
 rcases n with _ | n
 ·rw [hand_marked] at h; cases h
 rw [hand_marked] at h
 refine GO_bodyA hT Try.func58 rfl [] (by kernel_rfl) fun bad w m=>?_
 refine Qzd hT 1 [0,1] [] ?_
 refine Qzd hT 1 [0,1,5] [(5,vn)] ?_
 refine WA_seq ?_
 refine Qzd hT 1 [0,1,5,6] [(6,vi 0)] ?_
 refine WA_block ?_
 refine aW [0,1,5,6] ⟨[(0,po s_Stmt a0),(1,bx 0 0),(5,vn),(6,vi 0)],[(0,cb 0 3 1 (vi a1))],1⟩ ?_
 refine WA_weak (wO 5 5000 95 11) ?_
 refine lK [0,1,5,6] [(0,0,0),(5000,10005,1)] (fun k s=>∃ q,q ≤ k ∧ q ≤ n ∧ ∃ (i1 : Int),∃ (l2 : List Stmt),∃ (i3 : Int),hand_marked_L0 q a0 a1 i1 l2 i3 = some r ∧ s = ⟨[(0,po s_Stmt a0),(1,bx 0 0),(5,vs 10005 1 s_Stmt l2),(6,vi i3)],[(0,cb 0 3 1 (vi i1)),(10005,rb 1 s_Stmt l2)],2⟩) n ⟨n,Nat.le_refl _,Nat.le_refl _,a1,([] : List Stmt),0,h,rfl⟩ (by rintro s ⟨q,hq,_,i1,l2,i3,h,_⟩; obtain rfl:=Nat.le_zero.1 hq; rw [hand_marked_L0] at h; cases h) ?_
 clear h
 rintro k1 s ⟨q1,hk1,hn1,i1,l2,i3,h,rfl⟩
 rcases q1 with _ | q1
 ·rw [hand_marked_L0] at h; cases h
 rw [hand_marked_L0] at h
 refine WA_seq ?_
 refine Qgd hT 2 [0,1,5,6,8,9] [(8,vi i3),(9,po s_Stmt a0)] ?_
 refine One' hT rfl (v_len s_Stmt .opt a0) ?_
 refine Szd hT 1 [0,1,5,6,11] [(11,vb (decide (i3 < (ln a0))))] ?_
 refine Ci h (fun h=>?_) fun h=>?_
 ·refine WA_skip ?_
  refine WA_seq ?_
  refine WA_block ?_
  refine Qgd hT 2 [0,1,5,6,14,15] [(14,po s_Stmt a0),(15,vi i3)] ?_
  obtain ⟨x4,hx4,h⟩:=bsome h
  refine One' hT rfl (v_index s_Stmt .opt a0 .i64 i3 hx4) ?_
  refine Szh hT 3 [0,1,5,6,7] [(7,bx 7 2)] [(7,cb 2 95 11 (eStmt x4)),(0,cb 0 3 1 (vi i1)),(10005,rb 1 s_Stmt l2)] 3 ?_
  refine Qz hT 7 [0,1,5,6,7] ⟨[(0,po s_Stmt a0),(1,bx 0 0),(5,vs 10005 1 s_Stmt l2),(6,vi i3),(7,bx 7 2)],[(7,cb 2 95 11 (.agg [vi x4.Kind,vw x4.Name,vw x4.Other,vi x4.N,vi x4.E.Kind,vi x4.E.N,vw x4.E.Name,po s_Expr x4.E.Of,po s_Stmt x4.Body,po s_Stmt x4.Else,vz (⟨FloatKind.f64.nearest i1,0⟩ : Cx)])),(0,cb 0 3 1 (vi i1)),(10005,rb 1 s_Stmt l2)],3⟩ ?_
  refine Qz hT 7 [0,1,5,6,7] ⟨[(0,po s_Stmt a0),(1,bx 0 0),(5,vs 10005 1 s_Stmt l2),(6,vi i3),(7,bx 7 2)],[(0,cb 0 3 1 (vi (wr (i1 + 1)))),(7,cb 2 95 11 (.agg [vi x4.Kind,vw x4.Name,vw x4.Other,vi x4.N,vi x4.E.Kind,vi x4.E.N,vw x4.E.Name,po s_Expr x4.E.Of,po s_Stmt x4.Body,po s_Stmt x4.Else,vz (⟨FloatKind.f64.nearest i1,0⟩ : Cx)])),(10005,rb 1 s_Stmt l2)],3⟩ ?_
  refine Qg hT 2 [0,1,5,6,7,30,31] ⟨[(0,po s_Stmt a0),(1,bx 0 0),(5,vs 10005 1 s_Stmt l2),(6,vi i3),(7,bx 7 2),(30,po s_Stmt a0),(31,vi i3)],[(0,cb 0 3 1 (vi (wr (i1 + 1)))),(7,cb 2 95 11 (.agg [vi x4.Kind,vw x4.Name,vw x4.Other,vi x4.N,vi x4.E.Kind,vi x4.E.N,vw x4.E.Name,po s_Expr x4.E.Of,po s_Stmt x4.Body,po s_Stmt x4.Else,vz (⟨FloatKind.f64.nearest i1,0⟩ : Cx)])),(10005,rb 1 s_Stmt l2)],3⟩ ?_
  obtain ⟨x5,hx5,h⟩:=bsome h
  refine One' hT rfl (v_index s_Stmt .opt a0 .i64 i3 hx5) ?_
  refine Sg hT 3 [0,1,5,6,7,34,35] ⟨[(0,po s_Stmt a0),(1,bx 0 0),(5,vs 10005 1 s_Stmt l2),(6,vi i3),(7,bx 7 2),(34,po s_Stmt x5.Body),(35,bx 0 0)],[(0,cb 0 3 1 (vi (wr (i1 + 1)))),(7,cb 2 95 11 (.agg [vi x4.Kind,vw x4.Name,vw x4.Other,vi x4.N,vi x4.E.Kind,vi x4.E.N,vw x4.E.Name,po s_Expr x4.E.Of,po s_Stmt x4.Body,po s_Stmt x4.Else,vz (⟨FloatKind.f64.nearest i1,0⟩ : Cx)])),(10005,rb 1 s_Stmt l2)],3⟩ ?_
  obtain ⟨r6,hr6,h⟩:=bsome h
  refine Og [(0,cb 0 3 1 (vi (wr (i1 + 1))))] [(0,cb 0 3 1 (vi r6.2)),(100,rb 1 s_Stmt r6.1)] [po s_Stmt x5.Body,bx 0 0] [po s_Stmt x5.Body,bx 0 0] [(0,0,0)] [(100,36,3),(0,0,0)] [(36,rb 3 s_Stmt r6.1),(0,cb 0 3 1 (vi r6.2))] (vs 100 1 s_Stmt r6.1) (vs 36 3 s_Stmt r6.1) 4 en58 ((ih _ (by omega)) hr6) ?_
  refine Sz hT 2 [0,1,5,6,7] ⟨[(0,po s_Stmt a0),(1,bx 0 0),(5,vs 10005 1 s_Stmt l2),(6,vi i3),(7,bx 7 2)],[(7,cb 2 95 11 (.agg [vi x4.Kind,vw x4.Name,vw x4.Other,vi x4.N,vi x4.E.Kind,vi x4.E.N,vw x4.E.Name,po s_Expr x4.E.Of,vs 36 3 s_Stmt r6.1,po s_Stmt x4.Else,vz (⟨FloatKind.f64.nearest i1,0⟩ : Cx)])),(36,rb 3 s_Stmt r6.1),(0,cb 0 3 1 (vi r6.2)),(10005,rb 1 s_Stmt l2)],4⟩ ?_
  refine Qg hT 2 [0,1,5,6,7,38,39] ⟨[(0,po s_Stmt a0),(1,bx 0 0),(5,vs 10005 1 s_Stmt l2),(6,vi i3),(7,bx 7 2),(38,po s_Stmt a0),(39,vi i3)],[(7,cb 2 95 11 (.agg [vi x4.Kind,vw x4.Name,vw x4.Other,vi x4.N,vi x4.E.Kind,vi x4.E.N,vw x4.E.Name,po s_Expr x4.E.Of,vs 36 3 s_Stmt r6.1,po s_Stmt x4.Else,vz (⟨FloatKind.f64.nearest i1,0⟩ : Cx)])),(36,rb 3 s_Stmt r6.1),(0,cb 0 3 1 (vi r6.2)),(10005,rb 1 s_Stmt l2)],4⟩ ?_
  obtain ⟨x7,hx7,h⟩:=bsome h
  refine One' hT rfl (v_index s_Stmt .opt a0 .i64 i3 hx7) ?_
  refine Sg hT 3 [0,1,5,6,7,42,43] ⟨[(0,po s_Stmt a0),(1,bx 0 0),(5,vs 10005 1 s_Stmt l2),(6,vi i3),(7,bx 7 2),(42,po s_Stmt x7.Else),(43,bx 0 0)],[(7,cb 2 95 11 (.agg [vi x4.Kind,vw x4.Name,vw x4.Other,vi x4.N,vi x4.E.Kind,vi x4.E.N,vw x4.E.Name,po s_Expr x4.E.Of,vs 36 3 s_Stmt r6.1,po s_Stmt x4.Else,vz (⟨FloatKind.f64.nearest i1,0⟩ : Cx)])),(36,rb 3 s_Stmt r6.1),(0,cb 0 3 1 (vi r6.2)),(10005,rb 1 s_Stmt l2)],4⟩ ?_
  obtain ⟨r8,hr8,h⟩:=bsome h
  refine Og [(0,cb 0 3 1 (vi r6.2))] [(0,cb 0 3 1 (vi r8.2)),(100,rb 1 s_Stmt r8.1)] [po s_Stmt x7.Else,bx 0 0] [po s_Stmt x7.Else,bx 0 0] [(0,0,0)] [(100,44,4),(0,0,0)] [(44,rb 4 s_Stmt r8.1),(0,cb 0 3 1 (vi r8.2))] (vs 100 1 s_Stmt r8.1) (vs 44 4 s_Stmt r8.1) 5 en58 ((ih _ (by omega)) hr8) ?_
  refine Sz hT 2 [0,1,5,6,7] ⟨[(0,po s_Stmt a0),(1,bx 0 0),(5,vs 10005 1 s_Stmt l2),(6,vi i3),(7,bx 7 2)],[(7,cb 2 95 11 (.agg [vi x4.Kind,vw x4.Name,vw x4.Other,vi x4.N,vi x4.E.Kind,vi x4.E.N,vw x4.E.Name,po s_Expr x4.E.Of,vs 36 3 s_Stmt r6.1,vs 44 4 s_Stmt r8.1,vz (⟨FloatKind.f64.nearest i1,0⟩ : Cx)])),(44,rb 4 s_Stmt r8.1),(0,cb 0 3 1 (vi r8.2)),(36,rb 3 s_Stmt r6.1),(10005,rb 1 s_Stmt l2)],5⟩ ?_
  refine Rg hT 2 [0,1,6,46,47] ⟨[(0,po s_Stmt a0),(1,bx 0 0),(6,vi i3),(46,vs 10005 1 s_Stmt l2),(47,.agg [vi x4.Kind,vw x4.Name,vw x4.Other,vi x4.N,vi x4.E.Kind,vi x4.E.N,vw x4.E.Name,po s_Expr x4.E.Of,vs 36 3 s_Stmt r6.1,vs 44 4 s_Stmt r8.1,vz (⟨FloatKind.f64.nearest i1,0⟩ : Cx)])],[(7,cb 2 95 11 (.agg [vi x4.Kind,vw x4.Name,vw x4.Other,vi x4.N,vi x4.E.Kind,vi x4.E.N,vw x4.E.Name,po s_Expr x4.E.Of,vs 36 3 s_Stmt r6.1,vs 44 4 s_Stmt r8.1,vz (⟨FloatKind.f64.nearest i1,0⟩ : Cx)])),(44,rb 4 s_Stmt r8.1),(0,cb 0 3 1 (vi r8.2)),(36,rb 3 s_Stmt r6.1),(10005,rb 1 s_Stmt l2)],5⟩ ?_
  refine WO_weak (wF 36 3 (rb 3 s_Stmt r6.1) [(0,po s_Stmt a0),(1,bx 0 0),(6,vi i3),(46,vs 10005 1 s_Stmt l2),(47,.agg [vi x4.Kind,vw x4.Name,vw x4.Other,vi x4.N,vi x4.E.Kind,vi x4.E.N,vw x4.E.Name,po s_Expr x4.E.Of,po s_Stmt r6.1,vs 44 4 s_Stmt r8.1,vz (⟨FloatKind.f64.nearest i1,0⟩ : Cx)])] [(7,cb 2 95 11 (.agg [vi x4.Kind,vw x4.Name,vw x4.Other,vi x4.N,vi x4.E.Kind,vi x4.E.N,vw x4.E.Name,po s_Expr x4.E.Of,po s_Stmt r6.1,vs 44 4 s_Stmt r8.1,vz (⟨FloatKind.f64.nearest i1,0⟩ : Cx)])),(44,rb 4 s_Stmt r8.1),(0,cb 0 3 1 (vi r8.2)),(10005,rb 1 s_Stmt l2)] ⟨rfl,.keep _,rfl,.keep _,rfl,.keep _,rfl,.keep _,rfl,.aggs ⟨.keep _,.keep _,.keep _,.keep _,.keep _,.keep _,.keep _,.keep _,.hit true,.keep _,.keep _,trivial⟩,trivial⟩ ⟨rfl,.inr ⟨rfl,rfl,.aggs ⟨.keep _,.keep _,.keep _,.keep _,.keep _,.keep _,.keep _,.keep _,.hit true,.keep _,.keep _,trivial⟩,trivial⟩,rfl,.inl rfl,rfl,.inl rfl,rfl,.inl rfl,trivial⟩) ?_
  refine WO_weak (wF 44 4 (rb 4 s_Stmt r8.1) [(0,po s_Stmt a0),(1,bx 0 0),(6,vi i3),(46,vs 10005 1 s_Stmt l2),(47,.agg [vi x4.Kind,vw x4.Name,vw x4.Other,vi x4.N,vi x4.E.Kind,vi x4.E.N,vw x4.E.Name,po s_Expr x4.E.Of,po s_Stmt r6.1,po s_Stmt r8.1,vz (⟨FloatKind.f64.nearest i1,0⟩ : Cx)])] [(7,cb 2 95 11 (.agg [vi x4.Kind,vw x4.Name,vw x4.Other,vi x4.N,vi x4.E.Kind,vi x4.E.N,vw x4.E.Name,po s_Expr x4.E.Of,po s_Stmt r6.1,po s_Stmt r8.1,vz (⟨FloatKind.f64.nearest i1,0⟩ : Cx)])),(0,cb 0 3 1 (vi r8.2)),(10005,rb 1 s_Stmt l2)] ⟨rfl,.keep _,rfl,.keep _,rfl,.keep _,rfl,.keep _,rfl,.aggs ⟨.keep _,.keep _,.keep _,.keep _,.keep _,.keep _,.keep _,.keep _,.keep _,.hit true,.keep _,trivial⟩,trivial⟩ ⟨rfl,.inr ⟨rfl,rfl,.aggs ⟨.keep _,.keep _,.keep _,.keep _,.keep _,.keep _,.keep _,.keep _,.keep _,.hit true,.keep _,trivial⟩,trivial⟩,rfl,.inl rfl,rfl,.inl rfl,trivial⟩) ?_
  refine One' hT rfl (ev_bslice s_Stmt 48 [(Stmt.mk x4.Kind x4.Name x4.Other x4.N x4.E r6.1 r8.1 (⟨FloatKind.f64.nearest i1,0⟩ : Cx))] (by kernel_rfl)) ?_
  refine Sg hT 0 [0,1,6,46,48] ⟨[(0,po s_Stmt a0),(1,bx 0 0),(6,vi i3),(46,vs 10005 1 s_Stmt l2),(48,vs 48 5 s_Stmt [(Stmt.mk x4.Kind x4.Name x4.Other x4.N x4.E r6.1 r8.1 (⟨FloatKind.f64.nearest i1,0⟩ : Cx))])],[(48,⟨5,95,11,false,false,s_Stmt.F [(Stmt.mk x4.Kind x4.Name x4.Other x4.N x4.E r6.1 r8.1 (⟨FloatKind.f64.nearest i1,0⟩ : Cx))]⟩),(7,cb 2 95 11 (.agg [vi x4.Kind,vw x4.Name,vw x4.Other,vi x4.N,vi x4.E.Kind,vi x4.E.N,vw x4.E.Name,po s_Expr x4.E.Of,po s_Stmt r6.1,po s_Stmt r8.1,vz (⟨FloatKind.f64.nearest i1,0⟩ : Cx)])),(0,cb 0 3 1 (vi r8.2)),(10005,rb 1 s_Stmt l2)],6⟩ ?_
  obtain ⟨g9,h⟩:=gsome h
  refine Oa hT s_Stmt 10005 1 true l2 [(Stmt.mk x4.Kind x4.Name x4.Other x4.N x4.E r6.1 r8.1 (⟨FloatKind.f64.nearest i1,0⟩ : Cx))] (eO s_Stmt 48 5 true ⟨5,95,11,false,false,s_Stmt.F [(Stmt.mk x4.Kind x4.Name x4.Other x4.N x4.E r6.1 r8.1 (⟨FloatKind.f64.nearest i1,0⟩ : Cx))]⟩ [(Stmt.mk x4.Kind x4.Name x4.Other x4.N x4.E r6.1 r8.1 (⟨FloatKind.f64.nearest i1,0⟩ : Cx))]) g9 ?_
  refine Sz hT 1 [0,1,5,6] ⟨[(0,po s_Stmt a0),(1,bx 0 0),(5,vs 49 6 s_Stmt (l2 ++ [(Stmt.mk x4.Kind x4.Name x4.Other x4.N x4.E r6.1 r8.1 (⟨FloatKind.f64.nearest i1,0⟩ : Cx))])),(6,vi i3)],[(49,rb 6 s_Stmt (l2 ++ [(Stmt.mk x4.Kind x4.Name x4.Other x4.N x4.E r6.1 r8.1 (⟨FloatKind.f64.nearest i1,0⟩ : Cx))])),(48,⟨5,95,11,false,false,s_Stmt.F [(Stmt.mk x4.Kind x4.Name x4.Other x4.N x4.E r6.1 r8.1 (⟨FloatKind.f64.nearest i1,0⟩ : Cx))]⟩),(7,cb 2 95 11 (.agg [vi x4.Kind,vw x4.Name,vw x4.Other,vi x4.N,vi x4.E.Kind,vi x4.E.N,vw x4.E.Name,po s_Expr x4.E.Of,po s_Stmt r6.1,po s_Stmt r8.1,vz (⟨FloatKind.f64.nearest i1,0⟩ : Cx)])),(0,cb 0 3 1 (vi r8.2))],7⟩ ?_
  refine Rg hT 3 [0,1,5,6] ⟨[(0,po s_Stmt a0),(1,bx 0 0),(5,vs 49 6 s_Stmt (l2 ++ [(Stmt.mk x4.Kind x4.Name x4.Other x4.N x4.E r6.1 r8.1 (⟨FloatKind.f64.nearest i1,0⟩ : Cx))])),(6,vi (wr (i3 + 1)))],[(49,rb 6 s_Stmt (l2 ++ [(Stmt.mk x4.Kind x4.Name x4.Other x4.N x4.E r6.1 r8.1 (⟨FloatKind.f64.nearest i1,0⟩ : Cx))])),(48,⟨5,95,11,false,false,s_Stmt.F [(Stmt.mk x4.Kind x4.Name x4.Other x4.N x4.E r6.1 r8.1 (⟨FloatKind.f64.nearest i1,0⟩ : Cx))]⟩),(7,cb 2 95 11 (.agg [vi x4.Kind,vw x4.Name,vw x4.Other,vi x4.N,vi x4.E.Kind,vi x4.E.N,vw x4.E.Name,po s_Expr x4.E.Of,po s_Stmt r6.1,po s_Stmt r8.1,vz (⟨FloatKind.f64.nearest i1,0⟩ : Cx)])),(0,cb 0 3 1 (vi r8.2))],7⟩ ?_
  exact oK [0,1,5,6] [(0,0,0),(49,10005,1)] ⟨_,by omega,by omega,r8.2,l2 ++ [(Stmt.mk x4.Kind x4.Name x4.Other x4.N x4.E r6.1 r8.1 (⟨FloatKind.f64.nearest i1,0⟩ : Cx))],wr (i3 + 1),h,rfl⟩
 refine WA_exit ?_
 refine Qzd hT 2 [4] [(4,vs 10005 1 s_Stmt l2)] ?_
 obtain rfl:=Option.some.inj h
 exact rK [4] [(0,0,0),(10005,100,1)] ⟨[(4,vs 100 1 s_Stmt l2)],[(0,cb 0 3 1 (vi i1)),(100,rb 1 s_Stmt l2)],2⟩ ⟨by kernel_rfl,by kernel_rfl,rfl⟩
theorem hand_marked_all (n : Nat) : hand_marked_spec n:=by
 induction n using Nat.strongRecOn with
 | _ n ih=>exact hand_marked_step n ih
theorem hand_marked_ok {n : Nat} {a0 : List Stmt} {a1 : Int} {r : (List Stmt) × Int} (h : hand_marked n a0 a1 = some r) : GO Try.prog 58 [(0,cb 0 3 1 (vi a1))] [po s_Stmt a0,bx 0 0] (vs 100 1 s_Stmt r.1) [(0,cb 0 3 1 (vi r.2)),(100,rb 1 s_Stmt r.1)]:=(hand_marked_all n) h
theorem hand_mark_ok {n : Nat} {a0 : Prog} {r : Prog} (h : hand_mark n a0 = some r) : PT Try.prog 34 [eProg a0] (eProg r):=by
 unfold hand_mark at h
 refine PT_bodyA hT Try.func34 rfl (by kernel_rfl) fun bad w=>?_
 refine Qz hT 2 [1,2] ⟨[(1,bx 1 0),(2,bx 2 1)],[(2,cb 1 26 2 (.agg [vn,vn])),(1,cb 0 26 2 (eProg a0))],2⟩ ?_
 refine Qzh hT 2 [1,2,3] [(3,bx 3 2)] [(3,cb 2 3 1 (vi 0)),(2,cb 1 26 2 (.agg [vn,vn])),(1,cb 0 26 2 (eProg a0))] 3 ?_
 refine Qzh hT 5 [1,2,3,4] [(4,bx 4 3)] [(4,cb 3 26 2 (.agg [po s_Decl a0.Decls,vn])),(3,cb 2 3 1 (vi 0)),(2,cb 1 26 2 (.agg [vn,vn])),(1,cb 0 26 2 (eProg a0))] 4 ?_
 refine WA_seq ?_
 refine Qzd hT 1 [1,2,3,4,5] [(5,vi 0)] ?_
 refine WA_block ?_
 refine aW [1,2,3,4,5] ⟨[(1,bx 1 0),(2,bx 2 1),(3,bx 3 2),(4,bx 4 3),(5,vi 0)],[(4,cb 3 26 2 (.agg [po s_Decl a0.Decls,vn])),(3,cb 2 3 1 (vi 0)),(2,cb 1 26 2 (.agg [vn,vn])),(1,cb 0 26 2 (eProg a0))],4⟩ ?_
 refine WA_weak (wOh 4 5000 1 (cb 3 26 2 (.agg [po s_Decl a0.Decls,vn])) (.agg [po s_Decl a0.Decls,vn]) (.agg [po s_Decl a0.Decls,vs 5000 4 s_LStmt ([] : List (List Stmt))]) 75 1) ?_
 refine lR [(1,1,0),(2,2,0),(3,3,0),(4,4,0),(5000,12504,0)] (fun k s=>∃ q,q ≤ k ∧ q ≤ n ∧ ∃ (i1 : Int),∃ (l2 : List (List Stmt)),∃ (i3 : Int),hand_mark_L0 q a0 i1 l2 i3 = some r ∧ s = ⟨[(1,bx 1 0),(2,bx 2 0),(3,bx 3 0),(4,bx 4 0),(5,vi i3)],[(1,cb 0 26 2 (eProg a0)),(2,cb 0 26 2 (.agg [vn,vn])),(3,cb 0 3 1 (vi i1)),(4,cb 0 26 2 (.agg [po s_Decl a0.Decls,vs 12504 0 s_LStmt l2])),(12504,rb 0 s_LStmt l2)],1⟩) n ⟨n,Nat.le_refl _,Nat.le_refl _,0,([] : List (List Stmt)),0,h,rfl⟩ (by rintro s ⟨q,hq,_,i1,l2,i3,h,_⟩; obtain rfl:=Nat.le_zero.1 hq; rw [hand_mark_L0] at h; cases h) ?_
 clear h
 rintro k1 s ⟨q1,hk1,hn1,i1,l2,i3,h,rfl⟩
 rcases q1 with _ | q1
 ·rw [hand_mark_L0] at h; cases h
 rw [hand_mark_L0] at h
 refine WA_seq ?_
 refine Qgd hT 3 [1,2,3,4,5,9,11] [(9,vi i3),(11,po s_LStmt a0.Threads)] ?_
 refine One' hT rfl (v_len s_LStmt .opt a0.Threads) ?_
 refine Szd hT 1 [1,2,3,4,5,13] [(13,vb (decide (i3 < (ln a0.Threads))))] ?_
 refine Ci h (fun h=>?_) fun h=>?_
 ·refine WA_skip ?_
  refine WA_seq ?_
  refine WA_block ?_
  refine WA_drawW hT hM (by kernel_rfl) ?_
  refine Ds 5 [(20,vi i3),(19,po s_LStmt a0.Threads),(18,.box 1 0 0 1),(17,vs 12504 0 s_LStmt l2),(16,.box 4 0 0 1)] [] [(0,[4]),(1,[4]),(2,[1]),(3,[1])] ?_
  obtain ⟨x4,hx4,h⟩:=bsome h
  refine Dl rfl (v_index s_LStmt .opt a0.Threads .i64 i3 hx4) ?_
  refine Dt (.ref (el_Stmt x4) 0) ?_
  refine Ds 1 [(22,po s_Stmt x4)] [] [] ?_
  obtain ⟨r5,hr5,h⟩:=bsome h
  refine Dg [(0,cb 0 3 1 (vi i1))] [(0,cb 0 3 1 (vi r5.2))] [po s_Stmt x4,bx 3 0] [po s_Stmt x4,bx 0 0] [(3,0,0)] [(0,3,0)] [(3,cb 0 3 1 (vi r5.2))] (po s_Stmt r5.1) (po s_Stmt r5.1) 2 en58 (GO_frz 100 (rb 1 s_Stmt r5.1) (hand_marked_ok hr5) (by kernel_rfl) rfl rfl) ?_
  refine Dh 1 [(24,.ps .full (s_LStmt.F [r5.1]))] [(3,cb 0 3 1 (vi r5.2)),(1,cb 0 26 2 (eProg a0)),(2,cb 0 26 2 (.agg [vn,vn])),(4,cb 0 26 2 (.agg [po s_Decl a0.Decls,vs 12504 0 s_LStmt l2])),(12504,rb 0 s_LStmt l2)] 2 [] [] ?_
  obtain ⟨g6,h⟩:=gsome h
  refine Dw rfl (ev_append s_LStmt 12504 0 true l2 [r5.1] (by kernel_rfl) (by kernel_rfl) (by kernel_rfl) (by simp) g6) ?_
  refine Dh 2 [(26,.box 4 0 0 1)] [(4,cb 0 26 2 (.agg [po s_Decl a0.Decls,vs 25 2 s_LStmt (l2 ++ [r5.1])])),(25,⟨2,75,1,false,false,s_LStmt.F (l2 ++ [r5.1])⟩),(3,cb 0 3 1 (vi r5.2)),(1,cb 0 26 2 (eProg a0)),(2,cb 0 26 2 (.agg [vn,vn]))] 3 [(11,[4])] [(10,[4])] ?_
  refine De ?_
  refine Wk_done ?_
  refine Rgd hT 3 [1,2,3,4,5] [(5,vi (wr (i3 + 1)))] ?_
  refine oW [1,2,3,4,5] ⟨[(1,bx 1 0),(2,bx 2 0),(3,bx 3 0),(4,bx 4 0),(5,vi (wr (i3 + 1)))],[(4,cb 0 26 2 (.agg [po s_Decl a0.Decls,vs 25 2 s_LStmt (l2 ++ [r5.1])])),(25,⟨2,75,1,false,false,s_LStmt.F (l2 ++ [r5.1])⟩),(3,cb 0 3 1 (vi r5.2)),(1,cb 0 26 2 (eProg a0)),(2,cb 0 26 2 (.agg [vn,vn]))],3⟩ ?_
  refine WO_weak (wL [(1,bx 1 0),(2,bx 2 0),(3,bx 3 0),(4,bx 4 0),(5,vi (wr (i3 + 1)))] [(4,cb 0 26 2 (.agg [po s_Decl a0.Decls,vs 25 2 s_LStmt (l2 ++ [r5.1])])),(25,rb 2 s_LStmt (l2 ++ [r5.1])),(3,cb 0 3 1 (vi r5.2)),(1,cb 0 26 2 (eProg a0)),(2,cb 0 26 2 (.agg [vn,vn]))] ⟨VLf.refl _,VLf.refl _,VLf.refl _,VLf.refl _,VLf.refl _,trivial⟩ ⟨rfl,.inl rfl,rfl,.inr (.inr rfl),rfl,.inl rfl,rfl,.inl rfl,rfl,.inl rfl,trivial⟩) ?_
  exact oR [(1,1,0),(2,2,0),(3,3,0),(4,4,0),(25,12504,0)] ⟨_,by omega,by omega,r5.2,l2 ++ [r5.1],wr (i3 + 1),h,rfl⟩
 refine WA_exit ?_
 refine Qz hT 2 [2] ⟨[(2,bx 2 0)],[(2,cb 0 26 2 (.agg [po s_Decl a0.Decls,vs 12504 0 s_LStmt l2])),(1,cb 0 26 2 (eProg a0)),(3,cb 0 3 1 (vi i1)),(4,cb 0 26 2 (.agg [po s_Decl a0.Decls,vs 12504 0 s_LStmt l2])),(12504,rb 0 s_LStmt l2)],1⟩ ?_
 refine aW [2] ⟨[(2,bx 2 0)],[(2,cb 0 26 2 (.agg [po s_Decl a0.Decls,vs 12504 0 s_LStmt l2])),(1,cb 0 26 2 (eProg a0)),(3,cb 0 3 1 (vi i1)),(4,cb 0 26 2 (.agg [po s_Decl a0.Decls,vs 12504 0 s_LStmt l2])),(12504,rb 0 s_LStmt l2)],1⟩ ?_
 refine WA_weak (wF 12504 0 (rb 0 s_LStmt l2) [(2,bx 2 0)] [(2,cb 0 26 2 (.agg [po s_Decl a0.Decls,po s_LStmt l2])),(1,cb 0 26 2 (eProg a0)),(3,cb 0 3 1 (vi i1)),(4,cb 0 26 2 (.agg [po s_Decl a0.Decls,po s_LStmt l2]))] ⟨rfl,.keep _,trivial⟩ ⟨rfl,.inr ⟨rfl,rfl,.aggs ⟨.keep _,.hit true,trivial⟩,trivial⟩,rfl,.inl rfl,rfl,.inl rfl,rfl,.inr ⟨rfl,rfl,.aggs ⟨.keep _,.hit true,trivial⟩,trivial⟩,trivial⟩) ?_
 refine WA_weak (wL [(2,bx 2 0)] [(2,cb 0 26 2 (eProg (Prog.mk a0.Decls l2))),(1,cb 0 26 2 (eProg a0)),(3,cb 0 3 1 (vi i1)),(4,cb 0 26 2 (.agg [po s_Decl a0.Decls,po s_LStmt l2]))] ⟨VLf.refl _,trivial⟩ ⟨rfl,.inr (.inl ⟨rfl,rfl,CLe.agg ⟨VLf.refl _,VLf.refl _,trivial⟩,trivial⟩),rfl,.inl rfl,rfl,.inl rfl,rfl,.inl rfl,trivial⟩) ?_
 obtain rfl:=Option.some.inj h
 exact rR [(2,1000,0)] ⟨[(2,bx 1000 0)],[(1000,cb 0 26 2 (eProg (Prog.mk a0.Decls l2)))],1⟩ ⟨by kernel_rfl,rfl⟩
def ref8_marks_spec (n : Nat) : Prop:=(∀ {a0 : List Stmt} {a1 : List Int} {a2 : Int} {a3 : Int} {r : (List Mark) × Int},ref8_marks n a0 a1 a2 a3 = some r → GO Try.prog 80 [(0,cb 0 3 1 (vi a3))] [po s_Stmt a0,po s_int a1,vi a2,bx 0 0] (vs 100 1 s_mark r.1) [(0,cb 0 3 1 (vi r.2)),(100,rb 1 s_mark r.1)])
theorem ref8_marks_step (n : Nat) (ih : ∀ m,m < n → ref8_marks_spec m) : ∀ {a0 : List Stmt} {a1 : List Int} {a2 : Int} {a3 : Int} {r : (List Mark) × Int},ref8_marks n a0 a1 a2 a3 = some r → GO Try.prog 80 [(0,cb 0 3 1 (vi a3))] [po s_Stmt a0,po s_int a1,vi a2,bx 0 0] (vs 100 1 s_mark r.1) [(0,cb 0 3 1 (vi r.2)),(100,rb 1 s_mark r.1)]:=by
 intro a0 a1 a2 a3 r h
 rcases n with _ | n
 ·rw [ref8_marks] at h; cases h
 rw [ref8_marks] at h
 refine GO_bodyA hT Try.func80 rfl [] (by kernel_rfl) fun bad w m=>?_
 refine Qzd hT 1 [0,1,2,3] [] ?_
 refine Qzh hT 7 [0,1,2,3] [] [(0,cb 0 3 1 (vi (wr (a3 + 1))))] 1 ?_
 refine WA_seq ?_
 refine WA_drawW hT hM (by kernel_rfl) ?_
 refine Ds 2 [(19,po s_int a1),(18,.ps .full (s_int.F ([] : List Int)))] [] [] ?_
 obtain ⟨g1,h⟩:=gsome h
 by_cases hne : a1 = []
 ·refine Dw rfl (ev_appendF0 s_int .full ([] : List Int) a1 (by decide) (by kernel_rfl) (by kernel_rfl) hne) ?_
  refine Dh 4 [(24,.ps .full (s_int.F [wr (a3 + 1)])),(23,vi (wr (a3 + 1))),(22,bx 0 0),(21,bx 0 0)] [(0,cb 0 3 1 (vi (wr (a3 + 1))))] 1 [] [(4,[0]),(5,[0])] ?_
  obtain ⟨g2,h⟩:=gsome h
  refine Dw rfl (ev_appendF s_int .full (([] : List Int) ++ a1) [wr (a3 + 1)] (by decide) (by kernel_rfl) (by kernel_rfl) (by simp) g2) ?_
  refine Dh 1 [(9,vs 25 1 s_int ((([] : List Int) ++ a1) ++ [wr (a3 + 1)]))] [(25,⟨1,3,1,false,false,s_int.F ((([] : List Int) ++ a1) ++ [wr (a3 + 1)])⟩),(0,cb 0 3 1 (vi (wr (a3 + 1))))] 2 [] [] ?_
  refine De ?_
  refine Wk_done ?_
  refine Qzd hT 1 [0,2,3,9,10] [(10,vn)] ?_
  refine WA_seq ?_
  refine Qzd hT 1 [0,2,3,9,10,11] [(11,vi 0)] ?_
  refine WA_block ?_
  refine aW [0,2,3,9,10,11] ⟨[(0,po s_Stmt a0),(2,vi a2),(3,bx 0 0),(9,vs 25 1 s_int ((([] : List Int) ++ a1) ++ [wr (a3 + 1)])),(10,vn),(11,vi 0)],[(25,⟨1,3,1,false,false,s_int.F ((([] : List Int) ++ a1) ++ [wr (a3 + 1)])⟩),(0,cb 0 3 1 (vi (wr (a3 + 1))))],2⟩ ?_
  refine WA_weak (wF 25 1 ⟨1,3,1,false,false,s_int.F ((([] : List Int) ++ a1) ++ [wr (a3 + 1)])⟩ [(0,po s_Stmt a0),(2,vi a2),(3,bx 0 0),(9,po s_int ((([] : List Int) ++ a1) ++ [wr (a3 + 1)])),(10,vn),(11,vi 0)] [(0,cb 0 3 1 (vi (wr (a3 + 1))))] ⟨rfl,.keep _,rfl,.keep _,rfl,.keep _,rfl,.hit true,rfl,.keep _,rfl,.keep _,trivial⟩ ⟨rfl,.inl rfl,trivial⟩) ?_
  refine WA_weak (wO 10 5000 116 13) ?_
  refine lK [0,2,3,9,10,11] [(0,0,0),(5000,10010,1)] (fun k s=>∃ q,q ≤ k ∧ q ≤ n ∧ ∃ (i3 : Int),∃ (l4 : List Int),∃ (l5 : List Mark),∃ (i6 : Int),ref8_marks_L0 q a0 a1 a2 a3 i3 l4 l5 i6 = some r ∧ s = ⟨[(0,po s_Stmt a0),(2,vi a2),(3,bx 0 0),(9,po s_int l4),(10,vs 10010 1 s_mark l5),(11,vi i6)],[(0,cb 0 3 1 (vi i3)),(10010,rb 1 s_mark l5)],2⟩) n ⟨n,Nat.le_refl _,Nat.le_refl _,wr (a3 + 1),(([] : List Int) ++ a1) ++ [wr (a3 + 1)],([] : List Mark),0,h,rfl⟩ (by rintro s ⟨q,hq,_,i3,l4,l5,i6,h,_⟩; obtain rfl:=Nat.le_zero.1 hq; rw [ref8_marks_L0] at h; cases h) ?_
  clear h
  rintro k1 s ⟨q1,hk1,hn1,i3,l4,l5,i6,h,rfl⟩
  rcases q1 with _ | q1
  ·rw [ref8_marks_L0] at h; cases h
  rw [ref8_marks_L0] at h
  refine WA_seq ?_
  refine Qgd hT 2 [0,2,3,9,10,11,26,27] [(26,vi i6),(27,po s_Stmt a0)] ?_
  refine One' hT rfl (v_len s_Stmt .opt a0) ?_
  refine Sz hT 1 [0,2,3,9,10,11,29] ⟨[(0,po s_Stmt a0),(2,vi a2),(3,bx 0 0),(9,po s_int l4),(10,vs 10010 1 s_mark l5),(11,vi i6),(29,vb (decide (i6 < (ln a0))))],[(0,cb 0 3 1 (vi i3)),(10010,rb 1 s_mark l5)],2⟩ ?_
  refine Ci h (fun h=>?_) fun h=>?_
  ·refine WA_skip ?_
   refine WA_seq ?_
   refine WA_block ?_
   refine Qgd hT 3 [0,2,3,9,11,32,33,34] [(32,vs 10010 1 s_mark l5),(33,po s_Stmt a0),(34,vi i6)] ?_
   obtain ⟨x7,hx7,h⟩:=bsome h
   refine One' hT rfl (v_index s_Stmt .opt a0 .i64 i6 hx7) ?_
   refine Sgh hT 5 [0,2,3,9,11,32,40] [(40,vs 40 2 s_mark [(Mark.mk x7 l4 a2)])] [(40,⟨2,116,13,false,false,s_mark.F [(Mark.mk x7 l4 a2)]⟩),(0,cb 0 3 1 (vi i3)),(10010,rb 1 s_mark l5)] 3 ?_
   obtain ⟨g8,h⟩:=gsome h
   refine Oa hT s_mark 10010 1 true l5 [(Mark.mk x7 l4 a2)] (eO s_mark 40 2 true ⟨2,116,13,false,false,s_mark.F [(Mark.mk x7 l4 a2)]⟩ [(Mark.mk x7 l4 a2)]) g8 ?_
   refine Szh hT 1 [0,2,3,9,10,11] [(10,vs 41 3 s_mark (l5 ++ [(Mark.mk x7 l4 a2)]))] [(41,rb 3 s_mark (l5 ++ [(Mark.mk x7 l4 a2)])),(40,⟨2,116,13,false,false,s_mark.F [(Mark.mk x7 l4 a2)]⟩),(0,cb 0 3 1 (vi i3))] 4 ?_
   refine Qgd hT 3 [0,2,3,9,11,42,43,44] [(42,vs 41 3 s_mark (l5 ++ [(Mark.mk x7 l4 a2)])),(43,po s_Stmt a0),(44,vi i6)] ?_
   obtain ⟨x9,hx9,h⟩:=bsome h
   refine One' hT rfl (v_index s_Stmt .opt a0 .i64 i6 hx9) ?_
   refine Sgd hT 5 [0,2,3,9,11,42,47,48,49,50] [(47,po s_Stmt x9.Body),(48,po s_int l4),(49,vi a2),(50,bx 0 0)] ?_
   obtain ⟨r10,hr10,h⟩:=bsome h
   refine Og [(0,cb 0 3 1 (vi i3))] [(0,cb 0 3 1 (vi r10.2)),(100,rb 1 s_mark r10.1)] [po s_Stmt x9.Body,po s_int l4,vi a2,bx 0 0] [po s_Stmt x9.Body,po s_int l4,vi a2,bx 0 0] [(0,0,0)] [(100,51,4),(0,0,0)] [(51,rb 4 s_mark r10.1),(0,cb 0 3 1 (vi r10.2))] (vs 100 1 s_mark r10.1) (vs 51 4 s_mark r10.1) 5 en80 ((ih _ (by omega)) hr10) ?_
   refine Sgh hT 0 [0,2,3,9,11,42,51] [(51,vs 51 4 s_mark r10.1)] [(51,rb 4 s_mark r10.1),(0,cb 0 3 1 (vi r10.2)),(41,rb 3 s_mark (l5 ++ [(Mark.mk x7 l4 a2)])),(40,⟨2,116,13,false,false,s_mark.F [(Mark.mk x7 l4 a2)]⟩)] 5 ?_
   obtain ⟨g11,h⟩:=gsome h
   refine Oa hT s_mark 41 3 true (l5 ++ [(Mark.mk x7 l4 a2)]) r10.1 (eO s_mark 51 4 true (rb 4 s_mark r10.1) r10.1) g11 ?_
   refine Szh hT 1 [0,2,3,9,10,11] [(10,vs 52 5 s_mark ((l5 ++ [(Mark.mk x7 l4 a2)]) ++ r10.1))] [(52,rb 5 s_mark ((l5 ++ [(Mark.mk x7 l4 a2)]) ++ r10.1)),(51,rb 4 s_mark r10.1),(0,cb 0 3 1 (vi r10.2)),(40,⟨2,116,13,false,false,s_mark.F [(Mark.mk x7 l4 a2)]⟩)] 6 ?_
   refine Rgd hT 3 [0,2,3,9,11,53,54,55] [(53,vs 52 5 s_mark ((l5 ++ [(Mark.mk x7 l4 a2)]) ++ r10.1)),(54,po s_Stmt a0),(55,vi i6)] ?_
   obtain ⟨x12,hx12,h⟩:=bsome h
   refine One' hT rfl (v_index s_Stmt .opt a0 .i64 i6 hx12) ?_
   refine Sg hT 5 [0,2,3,9,11,53,58,59,60,61] ⟨[(0,po s_Stmt a0),(2,vi a2),(3,bx 0 0),(9,po s_int l4),(11,vi i6),(53,vs 52 5 s_mark ((l5 ++ [(Mark.mk x7 l4 a2)]) ++ r10.1)),(58,po s_Stmt x12.Else),(59,po s_int l4),(60,vi a2),(61,bx 0 0)],[(52,rb 5 s_mark ((l5 ++ [(Mark.mk x7 l4 a2)]) ++ r10.1)),(51,rb 4 s_mark r10.1),(0,cb 0 3 1 (vi r10.2)),(40,⟨2,116,13,false,false,s_mark.F [(Mark.mk x7 l4 a2)]⟩)],6⟩ ?_
   obtain ⟨r13,hr13,h⟩:=bsome h
   refine Og [(0,cb 0 3 1 (vi r10.2))] [(0,cb 0 3 1 (vi r13.2)),(100,rb 1 s_mark r13.1)] [po s_Stmt x12.Else,po s_int l4,vi a2,bx 0 0] [po s_Stmt x12.Else,po s_int l4,vi a2,bx 0 0] [(0,0,0)] [(100,62,6),(0,0,0)] [(62,rb 6 s_mark r13.1),(0,cb 0 3 1 (vi r13.2))] (vs 100 1 s_mark r13.1) (vs 62 6 s_mark r13.1) 7 en80 ((ih _ (by omega)) hr13) ?_
   refine Sgh hT 0 [0,2,3,9,11,53,62] [(62,vs 62 6 s_mark r13.1)] [(62,rb 6 s_mark r13.1),(0,cb 0 3 1 (vi r13.2)),(52,rb 5 s_mark ((l5 ++ [(Mark.mk x7 l4 a2)]) ++ r10.1)),(51,rb 4 s_mark r10.1),(40,⟨2,116,13,false,false,s_mark.F [(Mark.mk x7 l4 a2)]⟩)] 7 ?_
   obtain ⟨g14,h⟩:=gsome h
   refine Oa hT s_mark 52 5 true ((l5 ++ [(Mark.mk x7 l4 a2)]) ++ r10.1) r13.1 (eO s_mark 62 6 true (rb 6 s_mark r13.1) r13.1) g14 ?_
   refine Szh hT 1 [0,2,3,9,10,11] [(10,vs 63 7 s_mark (((l5 ++ [(Mark.mk x7 l4 a2)]) ++ r10.1) ++ r13.1))] [(63,rb 7 s_mark (((l5 ++ [(Mark.mk x7 l4 a2)]) ++ r10.1) ++ r13.1)),(62,rb 6 s_mark r13.1),(0,cb 0 3 1 (vi r13.2)),(51,rb 4 s_mark r10.1),(40,⟨2,116,13,false,false,s_mark.F [(Mark.mk x7 l4 a2)]⟩)] 8 ?_
   refine Rgd hT 3 [0,2,3,9,10,11] [(11,vi (wr (i6 + 1)))] ?_
   exact oK [0,2,3,9,10,11] [(0,0,0),(63,10010,1)] ⟨_,by omega,by omega,r13.2,l4,((l5 ++ [(Mark.mk x7 l4 a2)]) ++ r10.1) ++ r13.1,wr (i6 + 1),h,rfl⟩
  refine WA_exit ?_
  refine Qzd hT 2 [8] [(8,vs 10010 1 s_mark l5)] ?_
  obtain rfl:=Option.some.inj h
  exact rK [8] [(0,0,0),(10010,100,1)] ⟨[(8,vs 100 1 s_mark l5)],[(0,cb 0 3 1 (vi i3)),(100,rb 1 s_mark l5)],2⟩ ⟨by kernel_rfl,by kernel_rfl,rfl⟩
 ·refine Dw rfl (ev_appendF s_int .full ([] : List Int) a1 (by decide) (by kernel_rfl) (by kernel_rfl) hne g1) ?_
  refine Dh 4 [(24,.ps .full (s_int.F [wr (a3 + 1)])),(23,vi (wr (a3 + 1))),(22,bx 0 0),(21,bx 0 0)] [(20,⟨1,3,1,false,false,s_int.F (([] : List Int) ++ a1)⟩),(0,cb 0 3 1 (vi (wr (a3 + 1))))] 2 [] [(4,[0]),(5,[0])] ?_
  obtain ⟨g2,h⟩:=gsome h
  refine Dw rfl (ev_append s_int 20 1 false (([] : List Int) ++ a1) [wr (a3 + 1)] (by kernel_rfl) (by kernel_rfl) (by kernel_rfl) (by simp) g2) ?_
  refine Dh 1 [(9,vs 25 2 s_int ((([] : List Int) ++ a1) ++ [wr (a3 + 1)]))] [(25,⟨2,3,1,false,false,s_int.F ((([] : List Int) ++ a1) ++ [wr (a3 + 1)])⟩),(0,cb 0 3 1 (vi (wr (a3 + 1))))] 3 [] [] ?_
  refine De ?_
  refine Wk_done ?_
  refine Qzd hT 1 [0,2,3,9,10] [(10,vn)] ?_
  refine WA_seq ?_
  refine Qzd hT 1 [0,2,3,9,10,11] [(11,vi 0)] ?_
  refine WA_block ?_
  refine aW [0,2,3,9,10,11] ⟨[(0,po s_Stmt a0),(2,vi a2),(3,bx 0 0),(9,vs 25 2 s_int ((([] : List Int) ++ a1) ++ [wr (a3 + 1)])),(10,vn),(11,vi 0)],[(25,⟨2,3,1,false,false,s_int.F ((([] : List Int) ++ a1) ++ [wr (a3 + 1)])⟩),(0,cb 0 3 1 (vi (wr (a3 + 1))))],3⟩ ?_
  refine WA_weak (wF 25 2 ⟨2,3,1,false,false,s_int.F ((([] : List Int) ++ a1) ++ [wr (a3 + 1)])⟩ [(0,po s_Stmt a0),(2,vi a2),(3,bx 0 0),(9,po s_int ((([] : List Int) ++ a1) ++ [wr (a3 + 1)])),(10,vn),(11,vi 0)] [(0,cb 0 3 1 (vi (wr (a3 + 1))))] ⟨rfl,.keep _,rfl,.keep _,rfl,.keep _,rfl,.hit true,rfl,.keep _,rfl,.keep _,trivial⟩ ⟨rfl,.inl rfl,trivial⟩) ?_
  refine WA_weak (wO 10 5000 116 13) ?_
  refine lK [0,2,3,9,10,11] [(0,0,0),(5000,10010,1)] (fun k s=>∃ q,q ≤ k ∧ q ≤ n ∧ ∃ (i3 : Int),∃ (l4 : List Int),∃ (l5 : List Mark),∃ (i6 : Int),ref8_marks_L0 q a0 a1 a2 a3 i3 l4 l5 i6 = some r ∧ s = ⟨[(0,po s_Stmt a0),(2,vi a2),(3,bx 0 0),(9,po s_int l4),(10,vs 10010 1 s_mark l5),(11,vi i6)],[(0,cb 0 3 1 (vi i3)),(10010,rb 1 s_mark l5)],2⟩) n ⟨n,Nat.le_refl _,Nat.le_refl _,wr (a3 + 1),(([] : List Int) ++ a1) ++ [wr (a3 + 1)],([] : List Mark),0,h,rfl⟩ (by rintro s ⟨q,hq,_,i3,l4,l5,i6,h,_⟩; obtain rfl:=Nat.le_zero.1 hq; rw [ref8_marks_L0] at h; cases h) ?_
  clear h
  rintro k1 s ⟨q1,hk1,hn1,i3,l4,l5,i6,h,rfl⟩
  rcases q1 with _ | q1
  ·rw [ref8_marks_L0] at h; cases h
  rw [ref8_marks_L0] at h
  refine WA_seq ?_
  refine Qgd hT 2 [0,2,3,9,10,11,26,27] [(26,vi i6),(27,po s_Stmt a0)] ?_
  refine One' hT rfl (v_len s_Stmt .opt a0) ?_
  refine Szd hT 1 [0,2,3,9,10,11,29] [(29,vb (decide (i6 < (ln a0))))] ?_
  refine Ci h (fun h=>?_) fun h=>?_
  ·refine WA_skip ?_
   refine WA_seq ?_
   refine WA_block ?_
   refine Qg hT 3 [0,2,3,9,11,32,33,34] ⟨[(0,po s_Stmt a0),(2,vi a2),(3,bx 0 0),(9,po s_int l4),(11,vi i6),(32,vs 10010 1 s_mark l5),(33,po s_Stmt a0),(34,vi i6)],[(0,cb 0 3 1 (vi i3)),(10010,rb 1 s_mark l5)],2⟩ ?_
   obtain ⟨x7,hx7,h⟩:=bsome h
   refine One' hT rfl (v_index s_Stmt .opt a0 .i64 i6 hx7) ?_
   refine Sgh hT 5 [0,2,3,9,11,32,40] [(40,vs 40 2 s_mark [(Mark.mk x7 l4 a2)])] [(40,⟨2,116,13,false,false,s_mark.F [(Mark.mk x7 l4 a2)]⟩),(0,cb 0 3 1 (vi i3)),(10010,rb 1 s_mark l5)] 3 ?_
   obtain ⟨g8,h⟩:=gsome h
   refine Oa hT s_mark 10010 1 true l5 [(Mark.mk x7 l4 a2)] (eO s_mark 40 2 true ⟨2,116,13,false,false,s_mark.F [(Mark.mk x7 l4 a2)]⟩ [(Mark.mk x7 l4 a2)]) g8 ?_
   refine Szh hT 1 [0,2,3,9,10,11] [(10,vs 41 3 s_mark (l5 ++ [(Mark.mk x7 l4 a2)]))] [(41,rb 3 s_mark (l5 ++ [(Mark.mk x7 l4 a2)])),(40,⟨2,116,13,false,false,s_mark.F [(Mark.mk x7 l4 a2)]⟩),(0,cb 0 3 1 (vi i3))] 4 ?_
   refine Qgd hT 3 [0,2,3,9,11,42,43,44] [(42,vs 41 3 s_mark (l5 ++ [(Mark.mk x7 l4 a2)])),(43,po s_Stmt a0),(44,vi i6)] ?_
   obtain ⟨x9,hx9,h⟩:=bsome h
   refine One' hT rfl (v_index s_Stmt .opt a0 .i64 i6 hx9) ?_
   refine Sgd hT 5 [0,2,3,9,11,42,47,48,49,50] [(47,po s_Stmt x9.Body),(48,po s_int l4),(49,vi a2),(50,bx 0 0)] ?_
   obtain ⟨r10,hr10,h⟩:=bsome h
   refine Og [(0,cb 0 3 1 (vi i3))] [(0,cb 0 3 1 (vi r10.2)),(100,rb 1 s_mark r10.1)] [po s_Stmt x9.Body,po s_int l4,vi a2,bx 0 0] [po s_Stmt x9.Body,po s_int l4,vi a2,bx 0 0] [(0,0,0)] [(100,51,4),(0,0,0)] [(51,rb 4 s_mark r10.1),(0,cb 0 3 1 (vi r10.2))] (vs 100 1 s_mark r10.1) (vs 51 4 s_mark r10.1) 5 en80 ((ih _ (by omega)) hr10) ?_
   refine Sgh hT 0 [0,2,3,9,11,42,51] [(51,vs 51 4 s_mark r10.1)] [(51,rb 4 s_mark r10.1),(0,cb 0 3 1 (vi r10.2)),(41,rb 3 s_mark (l5 ++ [(Mark.mk x7 l4 a2)])),(40,⟨2,116,13,false,false,s_mark.F [(Mark.mk x7 l4 a2)]⟩)] 5 ?_
   obtain ⟨g11,h⟩:=gsome h
   refine Oa hT s_mark 41 3 true (l5 ++ [(Mark.mk x7 l4 a2)]) r10.1 (eO s_mark 51 4 true (rb 4 s_mark r10.1) r10.1) g11 ?_
   refine Szh hT 1 [0,2,3,9,10,11] [(10,vs 52 5 s_mark ((l5 ++ [(Mark.mk x7 l4 a2)]) ++ r10.1))] [(52,rb 5 s_mark ((l5 ++ [(Mark.mk x7 l4 a2)]) ++ r10.1)),(51,rb 4 s_mark r10.1),(0,cb 0 3 1 (vi r10.2)),(40,⟨2,116,13,false,false,s_mark.F [(Mark.mk x7 l4 a2)]⟩)] 6 ?_
   refine Rgd hT 3 [0,2,3,9,11,53,54,55] [(53,vs 52 5 s_mark ((l5 ++ [(Mark.mk x7 l4 a2)]) ++ r10.1)),(54,po s_Stmt a0),(55,vi i6)] ?_
   obtain ⟨x12,hx12,h⟩:=bsome h
   refine One' hT rfl (v_index s_Stmt .opt a0 .i64 i6 hx12) ?_
   refine Sgd hT 5 [0,2,3,9,11,53,58,59,60,61] [(58,po s_Stmt x12.Else),(59,po s_int l4),(60,vi a2),(61,bx 0 0)] ?_
   obtain ⟨r13,hr13,h⟩:=bsome h
   refine Og [(0,cb 0 3 1 (vi r10.2))] [(0,cb 0 3 1 (vi r13.2)),(100,rb 1 s_mark r13.1)] [po s_Stmt x12.Else,po s_int l4,vi a2,bx 0 0] [po s_Stmt x12.Else,po s_int l4,vi a2,bx 0 0] [(0,0,0)] [(100,62,6),(0,0,0)] [(62,rb 6 s_mark r13.1),(0,cb 0 3 1 (vi r13.2))] (vs 100 1 s_mark r13.1) (vs 62 6 s_mark r13.1) 7 en80 ((ih _ (by omega)) hr13) ?_
   refine Sg hT 0 [0,2,3,9,11,53,62] ⟨[(0,po s_Stmt a0),(2,vi a2),(3,bx 0 0),(9,po s_int l4),(11,vi i6),(53,vs 52 5 s_mark ((l5 ++ [(Mark.mk x7 l4 a2)]) ++ r10.1)),(62,vs 62 6 s_mark r13.1)],[(62,rb 6 s_mark r13.1),(0,cb 0 3 1 (vi r13.2)),(52,rb 5 s_mark ((l5 ++ [(Mark.mk x7 l4 a2)]) ++ r10.1)),(51,rb 4 s_mark r10.1),(40,⟨2,116,13,false,false,s_mark.F [(Mark.mk x7 l4 a2)]⟩)],7⟩ ?_
   obtain ⟨g14,h⟩:=gsome h
   refine Oa hT s_mark 52 5 true ((l5 ++ [(Mark.mk x7 l4 a2)]) ++ r10.1) r13.1 (eO s_mark 62 6 true (rb 6 s_mark r13.1) r13.1) g14 ?_
   refine Szh hT 1 [0,2,3,9,10,11] [(10,vs 63 7 s_mark (((l5 ++ [(Mark.mk x7 l4 a2)]) ++ r10.1) ++ r13.1))] [(63,rb 7 s_mark (((l5 ++ [(Mark.mk x7 l4 a2)]) ++ r10.1) ++ r13.1)),(62,rb 6 s_mark r13.1),(0,cb 0 3 1 (vi r13.2)),(51,rb 4 s_mark r10.1),(40,⟨2,116,13,false,false,s_mark.F [(Mark.mk x7 l4 a2)]⟩)] 8 ?_
   refine Rgd hT 3 [0,2,3,9,10,11] [(11,vi (wr (i6 + 1)))] ?_
   exact oK [0,2,3,9,10,11] [(0,0,0),(63,10010,1)] ⟨_,by omega,by omega,r13.2,l4,((l5 ++ [(Mark.mk x7 l4 a2)]) ++ r10.1) ++ r13.1,wr (i6 + 1),h,rfl⟩
  refine WA_exit ?_
  refine Qzd hT 2 [8] [(8,vs 10010 1 s_mark l5)] ?_
  obtain rfl:=Option.some.inj h
  exact rK [8] [(0,0,0),(10010,100,1)] ⟨[(8,vs 100 1 s_mark l5)],[(0,cb 0 3 1 (vi i3)),(100,rb 1 s_mark l5)],2⟩ ⟨by kernel_rfl,by kernel_rfl,rfl⟩
theorem ref8_marks_all (n : Nat) : ref8_marks_spec n:=by
 induction n using Nat.strongRecOn with
 | _ n ih=>exact ref8_marks_step n ih
theorem ref8_marks_ok {n : Nat} {a0 : List Stmt} {a1 : List Int} {a2 : Int} {a3 : Int} {r : (List Mark) × Int} (h : ref8_marks n a0 a1 a2 a3 = some r) : GO Try.prog 80 [(0,cb 0 3 1 (vi a3))] [po s_Stmt a0,po s_int a1,vi a2,bx 0 0] (vs 100 1 s_mark r.1) [(0,cb 0 3 1 (vi r.2)),(100,rb 1 s_mark r.1)]:=(ref8_marks_all n) h
theorem ref8_all_ok {n : Nat} {a0 : Prog} {r : List Mark} (h : ref8_all n a0 = some r) : GO Try.prog 56 [] [eProg a0] (vs 100 1 s_mark r) [(100,rb 1 s_mark r)]:=by
 unfold ref8_all at h
 refine GO_bodyA hT Try.func56 rfl [] (by kernel_rfl) fun bad w m=>?_
 refine Qz hT 2 [1] ⟨[(1,bx 1 1)],[(1,cb 1 26 2 (eProg a0))],2⟩ ?_
 refine Qzd hT 1 [1,3] [(3,vn)] ?_
 refine Qzh hT 2 [1,3,4] [(4,bx 4 2)] [(4,cb 2 3 1 (vi 0)),(1,cb 1 26 2 (eProg a0))] 3 ?_
 refine WA_seq ?_
 refine Qzd hT 1 [1,3,4,5] [(5,vi 0)] ?_
 refine WA_block ?_
 refine aW [1,3,4,5] ⟨[(1,bx 1 1),(3,vn),(4,bx 4 2),(5,vi 0)],[(4,cb 2 3 1 (vi 0)),(1,cb 1 26 2 (eProg a0))],3⟩ ?_
 refine WA_weak (wO 3 5000 116 13) ?_
 refine lK [1,3,4,5] [(1,1,1),(4,4,1),(5000,10003,1)] (fun k s=>∃ q,q ≤ k ∧ q ≤ n ∧ ∃ (l1 : List Mark),∃ (i2 : Int),∃ (i3 : Int),ref8_all_L0 q a0 l1 i2 i3 = some r ∧ s = ⟨[(1,bx 1 1),(3,vs 10003 1 s_mark l1),(4,bx 4 1),(5,vi i3)],[(1,cb 1 26 2 (eProg a0)),(4,cb 1 3 1 (vi i2)),(10003,rb 1 s_mark l1)],2⟩) n ⟨n,Nat.le_refl _,Nat.le_refl _,([] : List Mark),0,0,h,rfl⟩ (by rintro s ⟨q,hq,_,l1,i2,i3,h,_⟩; obtain rfl:=Nat.le_zero.1 hq; rw [ref8_all_L0] at h; cases h) ?_
 clear h
 rintro k1 s ⟨q1,hk1,hn1,l1,i2,i3,h,rfl⟩
 rcases q1 with _ | q1
 ·rw [ref8_all_L0] at h; cases h
 rw [ref8_all_L0] at h
 refine WA_seq ?_
 refine Qg hT 3 [1,3,4,5,6,8] ⟨[(1,bx 1 1),(3,vs 10003 1 s_mark l1),(4,bx 4 1),(5,vi i3),(6,vi i3),(8,po s_LStmt a0.Threads)],[(1,cb 1 26 2 (eProg a0)),(4,cb 1 3 1 (vi i2)),(10003,rb 1 s_mark l1)],2⟩ ?_
 refine One' hT rfl (v_len s_LStmt .opt a0.Threads) ?_
 refine Szd hT 1 [1,3,4,5,10] [(10,vb (decide (i3 < (ln a0.Threads))))] ?_
 refine Ci h (fun h=>?_) fun h=>?_
 ·refine WA_skip ?_
  refine WA_seq ?_
  refine WA_block ?_
  refine Rgd hT 4 [1,4,5,13,15,16] [(13,vs 10003 1 s_mark l1),(15,po s_LStmt a0.Threads),(16,vi i3)] ?_
  obtain ⟨x4,hx4,h⟩:=bsome h
  refine One' hT rfl (v_index s_LStmt .opt a0.Threads .i64 i3 hx4) ?_
  refine Sgd hT 2 [1,4,5,13,18,19] [(18,po s_Stmt x4),(19,vi i3)] ?_
  obtain ⟨r5,hr5,h⟩:=bsome h
  refine Og [(0,cb 0 3 1 (vi i2))] [(0,cb 0 3 1 (vi r5.2)),(100,rb 1 s_mark r5.1)] [po s_Stmt x4,vn,vi i3,bx 4 1] [po s_Stmt x4,vn,vi i3,bx 0 0] [(4,0,0)] [(100,20,2),(0,4,1)] [(20,rb 2 s_mark r5.1),(4,cb 1 3 1 (vi r5.2))] (vs 100 1 s_mark r5.1) (vs 20 2 s_mark r5.1) 3 en80 (GO_args ((ref8_marks_ok hr5)) ⟨(VLe.f (VLe.refl _) rfl),(VLe.f (VLe.nil_opt) rfl),(VLe.f (VLe.refl _) rfl),VLf.refl _,trivial⟩) ?_
  refine Sgh hT 0 [1,4,5,13,20] [(20,vs 20 2 s_mark r5.1)] [(20,rb 2 s_mark r5.1),(4,cb 1 3 1 (vi r5.2)),(1,cb 1 26 2 (eProg a0)),(10003,rb 1 s_mark l1)] 3 ?_
  obtain ⟨g6,h⟩:=gsome h
  refine Oa hT s_mark 10003 1 true l1 r5.1 (eO s_mark 20 2 true (rb 2 s_mark r5.1) r5.1) g6 ?_
  refine Szh hT 1 [1,3,4,5] [(3,vs 21 3 s_mark (l1 ++ r5.1))] [(21,rb 3 s_mark (l1 ++ r5.1)),(20,rb 2 s_mark r5.1),(4,cb 1 3 1 (vi r5.2)),(1,cb 1 26 2 (eProg a0))] 4 ?_
  refine Rgd hT 3 [1,3,4,5] [(5,vi (wr (i3 + 1)))] ?_
  exact oK [1,3,4,5] [(1,1,1),(4,4,1),(21,10003,1)] ⟨_,by omega,by omega,l1 ++ r5.1,r5.2,wr (i3 + 1),h,rfl⟩
 refine WA_exit ?_
 refine Qzd hT 2 [2] [(2,vs 10003 1 s_mark l1)] ?_
 obtain rfl:=Option.some.inj h
 exact rK [2] [(10003,100,1)] ⟨[(2,vs 100 1 s_mark l1)],[(100,rb 1 s_mark l1)],2⟩ ⟨by kernel_rfl,by kernel_rfl,rfl⟩
theorem ref8_within_ok {n : Nat} {a0 : Int} {a1 : Mark} {r : Bool} (h : ref8_within n a0 a1 = some r) : PT Try.prog 81 [vi a0,eMark a1] (vb r):=by
 unfold ref8_within at h
 refine PT_bodyA hT Try.func81 rfl (by kernel_rfl) fun bad w=>?_
 refine Qz hT 2 [0,3] ⟨[(0,vi a0),(3,bx 3 0)],[(3,cb 0 116 13 (eMark a1))],1⟩ ?_
 refine WA_seq ?_
 refine Qzd hT 1 [0,3,5] [(5,vi 0)] ?_
 refine WA_block ?_
 refine lK [0,3,5] [(3,3,0)] (fun k s=>∃ q,q ≤ k ∧ q ≤ n ∧ ∃ (i1 : Int),ref8_within_L0 q a0 a1 i1 = some r ∧ s = ⟨[(0,vi a0),(3,bx 3 0),(5,vi i1)],[(3,cb 0 116 13 (eMark a1))],1⟩) n ⟨n,Nat.le_refl _,Nat.le_refl _,0,h,rfl⟩ (by rintro s ⟨q,hq,_,i1,h,_⟩; obtain rfl:=Nat.le_zero.1 hq; rw [ref8_within_L0] at h; cases h) ?_
 clear h
 rintro k1 s ⟨q1,hk1,hn1,i1,h,rfl⟩
 rcases q1 with _ | q1
 ·rw [ref8_within_L0] at h; cases h
 rw [ref8_within_L0] at h
 refine WA_seq ?_
 refine Qgd hT 3 [0,3,5,6,8] [(6,vi i1),(8,po s_int a1.Block)] ?_
 refine One' hT rfl (v_len s_int .opt a1.Block) ?_
 refine Szd hT 1 [0,3,5,10] [(10,vb (decide (i1 < (ln a1.Block))))] ?_
 refine Ci h (fun h=>?_) fun h=>?_
 ·refine WA_skip ?_
  refine WA_seq ?_
  refine WA_block ?_
  refine Qgd hT 3 [0,3,5,14,15] [(14,po s_int a1.Block),(15,vi i1)] ?_
  obtain ⟨x2,hx2,h⟩:=bsome h
  refine One' hT rfl (v_index s_int .opt a1.Block .i64 i1 hx2) ?_
  refine Szd hT 3 [0,3,5,19] [(19,vb (x2 == a0))] ?_
  refine Ci h (fun h=>?_) fun h=>?_
  ·refine Qz hT 1 [4] ⟨[(4,vb true)],[(3,cb 0 116 13 (eMark a1))],1⟩ ?_
   obtain rfl:=Option.some.inj h
   exact rK [4] [] ⟨[(4,vb true)],[],1⟩ ⟨by kernel_rfl,rfl⟩
  refine WA_skip ?_
  refine Rgd hT 3 [0,3,5] [(5,vi (wr (i1 + 1)))] ?_
  exact oK [0,3,5] [(3,3,0)] ⟨_,by omega,by omega,wr (i1 + 1),h,rfl⟩
 refine WA_exit ?_
 refine Qzd hT 1 [4] [(4,vb false)] ?_
 obtain rfl:=Option.some.inj h
 exact rK [4] [] ⟨[(4,vb false)],[],1⟩ ⟨by kernel_rfl,rfl⟩
theorem ref8_target_ok {n : Nat} {a0 : List Mark} {a1 : Int} {r : Int} (h : ref8_target n a0 a1 = some r) : PT Try.prog 57 [po s_mark a0,vi a1] (vi r):=by
 unfold ref8_target at h
 refine PT_bodyA hT Try.func57 rfl (by kernel_rfl) fun bad w=>?_
 refine Qzd hT 1 [0,1] [] ?_
 refine WA_seq ?_
 refine WA_seq ?_
 obtain ⟨J2,hJ2,h⟩:=jsome h
 refine WA_join (fun s=>∃ (b1 : Bool),J2 b1 = some r ∧ s = ⟨[(0,po s_mark a0),(1,vi a1),(23,vb b1)],[],1⟩) ?_ ?_
 ·refine Rg hT 3 [0,1,9] ⟨[(0,po s_mark a0),(1,vi a1),(9,vb (decide (a1 < 0)))],[],0⟩ ?_
  cases hb : (decide (a1 < 0) : Bool)
  ·replace h:=cfalse hb h
   refine Sgd hT 2 [0,1,9,10,11] [(10,vi a1),(11,po s_mark a0)] ?_
   refine One' hT rfl (v_len s_mark .opt a0) ?_
   refine Sgd hT 3 [0,1,15] [(15,vb (decide (a1 ≥ (ln a0))))] ?_
   cases hb : (decide (a1 ≥ (ln a0)) : Bool)
   ·replace h:=cfalse hb h
    refine Sgd hT 2 [0,1,15,16,17] [(16,po s_mark a0),(17,vi a1)] ?_
    obtain ⟨x3,hx3,h⟩:=bsome h
    refine One' hT rfl (v_index s_mark .opt a0 .i64 a1 hx3) ?_
    refine Sgd hT 5 [0,1,23] [(23,vb (x3.S.Kind != 9))] ?_
    exact oK [0,1,23] [] ⟨(x3.S.Kind != 9),h,rfl⟩
   replace h:=ctrue hb h
   refine Sgd hT 8 [0,1,23] [(23,vb true)] ?_
   exact oK [0,1,23] [] ⟨true,h,rfl⟩
  replace h:=ctrue hb h
  refine Sgd hT 14 [0,1,23] [(23,vb true)] ?_
  exact oK [0,1,23] [] ⟨true,h,rfl⟩
 subst hJ2
 rintro s ⟨b1,h,rfl⟩
 refine Ci h (fun h=>?_) fun h=>?_
 ·refine Qz hT 1 [4] ⟨[(4,vi (-1))],[],1⟩ ?_
  obtain rfl:=Option.some.inj h
  exact rK [4] [] ⟨[(4,vi (-1))],[],1⟩ ⟨by kernel_rfl,rfl⟩
 refine WA_skip ?_
 refine WA_seq ?_
 refine Qzd hT 3 [0,1,5] [(5,vi (wr (a1 + 1)))] ?_
 refine WA_block ?_
 refine lK [0,1,5] [] (fun k s=>∃ q,q ≤ k ∧ q ≤ n ∧ ∃ (i4 : Int),ref8_target_L0 q a0 a1 b1 i4 = some r ∧ s = ⟨[(0,po s_mark a0),(1,vi a1),(5,vi i4)],[],1⟩) n ⟨n,Nat.le_refl _,Nat.le_refl _,wr (a1 + 1),h,rfl⟩ (by rintro s ⟨q,hq,_,i4,h,_⟩; obtain rfl:=Nat.le_zero.1 hq; rw [ref8_target_L0] at h; cases h) ?_
 clear h
 rintro k1 s ⟨q1,hk1,hn1,i4,h,rfl⟩
 rcases q1 with _ | q1
 ·rw [ref8_target_L0] at h; cases h
 rw [ref8_target_L0] at h
 refine WA_seq ?_
 refine Qgd hT 2 [0,1,5,26,27] [(26,vi i4),(27,po s_mark a0)] ?_
 refine One' hT rfl (v_len s_mark .opt a0) ?_
 refine Szd hT 1 [0,1,5,29] [(29,vb (decide (i4 < (ln a0))))] ?_
 refine Ci h (fun h=>?_) fun h=>?_
 ·refine WA_skip ?_
  refine WA_seq ?_
  refine WA_block ?_
  refine Qgd hT 2 [0,1,5,32,33] [(32,po s_mark a0),(33,vi i4)] ?_
  obtain ⟨x5,hx5,h⟩:=bsome h
  refine One' hT rfl (v_index s_mark .opt a0 .i64 i4 hx5) ?_
  refine Szh hT 3 [0,1,5,6] [(6,bx 6 1)] [(6,cb 1 116 13 (eMark x5))] 2 ?_
  refine WA_seq ?_
  obtain ⟨J7,hJ7,h⟩:=jsome h
  refine WA_join (fun s=>∃ (b6 : Bool),J7 b6 = some r ∧ s = ⟨[(0,po s_mark a0),(1,vi a1),(5,vi i4),(76,vb b6)],[],1⟩) ?_ ?_
  ·refine WA_drawW hT hM (by kernel_rfl) ?_
   refine Ds 5 [(40,vb (x5.S.Kind == 10)),(39,vb (x5.S.Kind == 10)),(38,vi x5.S.Kind),(37,bx 6 1),(36,bx 6 1)] [] [(0,[6]),(1,[6]),(2,[6])] ?_
   cases hb : ((x5.S.Kind == 10) : Bool)
   ·replace h:=cfalse hb h
    refine Ds 36 [(76,vb false),(75,vU),(74,vU),(73,vU),(72,vU),(71,vU),(70,vU),(69,vU),(68,vU),(67,vU),(66,vU),(65,vU),(64,vU),(63,vU),(62,vb false),(61,vb false),(60,vU),(59,vU),(58,vU),(57,vU),(56,vU),(55,vU),(54,vU),(53,vU),(52,vb false),(51,vb false),(50,vU),(49,vU),(48,vU),(47,vU),(46,vU),(45,vU),(44,vU),(43,vU),(42,vU),(41,vU)] [] [] ?_
    refine De ?_
    exact wK [0,1,5,76] [] ⟨false,h,rfl⟩
   replace h:=ctrue hb h
   refine Ds 5 [(45,vi a1),(44,po s_mark a0),(43,vw x5.S.Name),(42,.box 6 1 0 1),(41,bx 6 1)] [] [(5,[6]),(6,[6]),(7,[6])] ?_
   obtain ⟨x8,hx8,h⟩:=bsome h
   refine Dl rfl (v_index s_mark .opt a0 .i64 a1 hx8) ?_
   refine Dt (.ref (eMark x8) 0) ?_
   refine Ds 6 [(52,vb (bytesEq x5.S.Name x8.S.Name)),(51,vb (bytesEq x5.S.Name x8.S.Name)),(50,vb (bytesEq x5.S.Name x8.S.Name)),(49,vw x8.S.Name),(48,.ref (eMark x8) 1),(47,.ref (eMark x8) 0)] [] [] ?_
   cases hb : (bytesEq x5.S.Name x8.S.Name : Bool)
   ·replace h:=cfalse hb h
    refine Ds 24 [(76,vb false),(75,vU),(74,vU),(73,vU),(72,vU),(71,vU),(70,vU),(69,vU),(68,vU),(67,vU),(66,vU),(65,vU),(64,vU),(63,vU),(62,vb false),(61,vb false),(60,vU),(59,vU),(58,vU),(57,vU),(56,vU),(55,vU),(54,vU),(53,vU)] [] [] ?_
    refine De ?_
    exact wK [0,1,5,76] [] ⟨false,h,rfl⟩
   replace h:=ctrue hb h
   refine Ds 4 [(56,vi a1),(55,po s_mark a0),(54,vi x5.At),(53,.box 6 1 0 12)] [] [(17,[6]),(18,[6])] ?_
   obtain ⟨x9,hx9,h⟩:=bsome h
   refine Dl rfl (v_index s_mark .opt a0 .i64 a1 hx9) ?_
   refine Dt (.ref (eMark x9) 0) ?_
   refine Ds 5 [(62,vb (x5.At == x9.At)),(61,vb (x5.At == x9.At)),(60,vb (x5.At == x9.At)),(59,vi x9.At),(58,.ref (eMark x9) 12)] [] [] ?_
   cases hb : ((x5.At == x9.At) : Bool)
   ·replace h:=cfalse hb h
    refine Ds 14 [(76,vb false),(75,vU),(74,vU),(73,vU),(72,vU),(71,vU),(70,vU),(69,vU),(68,vU),(67,vU),(66,vU),(65,vU),(64,vU),(63,vU)] [] [] ?_
    refine De ?_
    exact wK [0,1,5,76] [] ⟨false,h,rfl⟩
   replace h:=ctrue hb h
   refine Ds 4 [(66,po s_int x5.Block),(65,.box 6 1 0 11),(64,po s_int x5.Block),(63,.box 6 1 0 11)] [] [(27,[6]),(28,[6]),(29,[6]),(30,[6])] ?_
   refine Dl rfl (v_len s_int .opt x5.Block) ?_
   refine Dt (vi (ln x5.Block)) ?_
   refine Ds 1 [(68,vi (wr ((ln x5.Block) - 1)))] [] [] ?_
   obtain ⟨x10,hx10,h⟩:=bsome h
   refine Dl rfl (v_index s_int .opt x5.Block .i64 (wr ((ln x5.Block) - 1)) hx10) ?_
   refine Dt (.ref (e_i64 x10) 0) ?_
   refine Ds 3 [(72,vi a1),(71,po s_mark a0),(70,vi x10)] [] [] ?_
   obtain ⟨x11,hx11,h⟩:=bsome h
   refine Dl rfl (v_index s_mark .opt a0 .i64 a1 hx11) ?_
   refine Dt (.ref (eMark x11) 0) ?_
   refine Ds 1 [(74,eMark x11)] [] [] ?_
   obtain ⟨r12,hr12,h⟩:=bsome h
   refine Dp [vi x10,eMark x11] (vb r12) en81 (ref8_within_ok hr12) ?_
   refine Ds 1 [(76,vb r12)] [] [] ?_
   refine De ?_
   exact wK [0,1,5,76] [] ⟨r12,h,rfl⟩
  subst hJ7
  rintro s ⟨b6,h,rfl⟩
  skip
  refine Ci h (fun h=>?_) fun h=>?_
  ·refine Qz hT 2 [4] ⟨[(4,vi i4)],[],1⟩ ?_
   obtain rfl:=Option.some.inj h
   exact rK [4] [] ⟨[(4,vi i4)],[],1⟩ ⟨by kernel_rfl,rfl⟩
  refine WA_skip ?_
  refine Rgd hT 3 [0,1,5] [(5,vi (wr (i4 + 1)))] ?_
  exact oK [0,1,5] [] ⟨_,by omega,by omega,wr (i4 + 1),h,rfl⟩
 refine WA_exit ?_
 refine Qz hT 1 [4] ⟨[(4,vi (-1))],[],1⟩ ?_
 obtain rfl:=Option.some.inj h
 exact rK [4] [] ⟨[(4,vi (-1))],[],1⟩ ⟨by kernel_rfl,rfl⟩
theorem ref8_Jumps_ok {n : Nat} {a0 : Prog} {r : Cx × Int} (h : ref8_Jumps n a0 = some r) : PT Try.prog 33 [eProg a0] (.tup [vz r.1,vi r.2]):=by
 unfold ref8_Jumps at h
 refine PT_bodyA hT Try.func33 rfl (by kernel_rfl) fun bad w=>?_
 refine Qz hT 3 [1] ⟨[(1,bx 1 0)],[(1,cb 0 26 2 (eProg a0))],1⟩ ?_
 refine Qgd hT 1 [8] [(8,eProg a0)] ?_
 obtain ⟨r1,hr1,h⟩:=bsome h
 refine Og [] [(100,rb 1 s_mark r1)] [eProg a0] [eProg a0] [] [(100,9,1)] [(9,rb 1 s_mark r1)] (vs 100 1 s_mark r1) (vs 9 1 s_mark r1) 2 en56 (ref8_all_ok hr1) ?_
 refine Sz hT 1 [4] ⟨[(4,vs 9 1 s_mark r1)],[(9,rb 1 s_mark r1),(1,cb 0 26 2 (eProg a0))],2⟩ ?_
 refine WA_seq ?_
 refine Qzd hT 1 [4,5] [(5,vi 0)] ?_
 refine WA_block ?_
 refine aW [4,5] ⟨[(4,vs 9 1 s_mark r1),(5,vi 0)],[(9,rb 1 s_mark r1),(1,cb 0 26 2 (eProg a0))],2⟩ ?_
 refine WA_weak (wF 9 1 (rb 1 s_mark r1) [(4,po s_mark r1),(5,vi 0)] [(1,cb 0 26 2 (eProg a0))] ⟨rfl,.hit true,rfl,.keep _,trivial⟩ ⟨rfl,.inl rfl,trivial⟩) ?_
 refine lR [] (fun k s=>∃ q,q ≤ k ∧ q ≤ n ∧ ∃ (l2 : List Mark),∃ (i3 : Int),ref8_Jumps_L0 q a0 r1 l2 i3 = some r ∧ s = ⟨[(4,po s_mark l2),(5,vi i3)],[],1⟩) n ⟨n,Nat.le_refl _,Nat.le_refl _,r1,0,h,rfl⟩ (by rintro s ⟨q,hq,_,l2,i3,h,_⟩; obtain rfl:=Nat.le_zero.1 hq; rw [ref8_Jumps_L0] at h; cases h) ?_
 clear h
 rintro k1 s ⟨q1,hk1,hn1,l2,i3,h,rfl⟩
 rcases q1 with _ | q1
 ·rw [ref8_Jumps_L0] at h; cases h
 rw [ref8_Jumps_L0] at h
 refine WA_seq ?_
 refine Qg hT 2 [4,5,10,11] ⟨[(4,po s_mark l2),(5,vi i3),(10,vi i3),(11,po s_mark l2)],[],1⟩ ?_
 refine One' hT rfl (v_len s_mark .opt l2) ?_
 refine Szd hT 1 [4,5,13] [(13,vb (decide (i3 < (ln l2))))] ?_
 refine Ci h (fun h=>?_) fun h=>?_
 ·refine WA_skip ?_
  refine WA_seq ?_
  refine WA_block ?_
  refine Qgd hT 2 [4,5,16,17] [(16,po s_mark l2),(17,vi i3)] ?_
  obtain ⟨x4,hx4,h⟩:=bsome h
  refine One' hT rfl (v_index s_mark .opt l2 .i64 i3 hx4) ?_
  refine Szh hT 3 [4,5,6] [(6,bx 6 1)] [(6,cb 1 116 13 (eMark x4))] 2 ?_
  refine WA_seq ?_
  refine WA_seq ?_
  obtain ⟨J6,hJ6,h⟩:=jsome h
  refine WA_join (fun s=>∃ (b5 : Bool),J6 b5 = some r ∧ s = ⟨[(4,po s_mark l2),(5,vi i3),(6,bx 6 0),(29,vb b5)],[(6,cb 0 116 13 (eMark x4))],1⟩) ?_ ?_
  ·refine Rgd hT 5 [4,5,6,24] [(24,vb (x4.S.Kind == 9))] ?_
   cases hb : ((x4.S.Kind == 9) : Bool)
   ·replace h:=cfalse hb h
    refine Sg hT 5 [4,5,6,29] ⟨[(4,po s_mark l2),(5,vi i3),(6,bx 6 1),(29,vb false)],[(6,cb 1 116 13 (eMark x4))],2⟩ ?_
    exact oK [4,5,6,29] [(6,6,0)] ⟨false,h,rfl⟩
   replace h:=ctrue hb h
   refine Sgd hT 2 [4,5,6,24,25,26] [(25,po s_mark l2),(26,vi i3)] ?_
   obtain ⟨r7,hr7,h⟩:=bsome h
   refine Pt' en57 (ref8_target_ok hr7) ?_
   refine Sgd hT 2 [4,5,6,29] [(29,vb (decide (r7 < 0)))] ?_
   exact oK [4,5,6,29] [(6,6,0)] ⟨decide (r7 < 0),h,rfl⟩
  subst hJ6
  rintro s ⟨b5,h,rfl⟩
  skip
  refine Ci h (fun h=>?_) fun h=>?_
  ·refine Qzd hT 5 [2,3] [(2,vz x4.S.At),(3,vi 4)] ?_
   obtain rfl:=Option.some.inj h
   exact rK [2,3] [] ⟨[(2,vz x4.S.At),(3,vi 4)],[],1⟩ ⟨by kernel_rfl,rfl⟩
  refine WA_skip ?_
  refine Qzd hT 1 [4,5,6,7] [(7,vi 0)] ?_
  refine WA_block ?_
  refine lK [4,5,6,7] [(6,6,0)] (fun k s=>∃ q,q ≤ k ∧ q ≤ q1 ∧ ∃ (i8 : Int),ref8_Jumps_L1 q a0 r1 l2 i3 x4 b5 i8 = some r ∧ s = ⟨[(4,po s_mark l2),(5,vi i3),(6,bx 6 0),(7,vi i8)],[(6,cb 0 116 13 (eMark x4))],1⟩) q1 ⟨q1,Nat.le_refl _,Nat.le_refl _,0,h,rfl⟩ (by rintro s ⟨q,hq,_,i8,h,_⟩; obtain rfl:=Nat.le_zero.1 hq; rw [ref8_Jumps_L1] at h; cases h) ?_
  clear h
  rintro k2 s ⟨q2,hk2,hn2,i8,h,rfl⟩
  rcases q2 with _ | q2
  ·rw [ref8_Jumps_L1] at h; cases h
  rw [ref8_Jumps_L1] at h
  refine WA_seq ?_
  refine WA_seq ?_
  obtain ⟨J10,hJ10,h⟩:=jsome h
  refine WA_join (fun s=>∃ (b9 : Bool),J10 b9 = some r ∧ s = ⟨[(4,po s_mark l2),(5,vi i3),(6,bx 6 0),(7,vi i8),(41,vb b9)],[(6,cb 0 116 13 (eMark x4))],1⟩) ?_ ?_
  ·refine Rgd hT 4 [4,5,6,7,36] [(36,vb (decide (i8 < i3)))] ?_
   cases hb : (decide (i8 < i3) : Bool)
   ·replace h:=cfalse hb h
    refine Sgd hT 5 [4,5,6,7,41] [(41,vb false)] ?_
    exact oK [4,5,6,7,41] [(6,6,0)] ⟨false,h,rfl⟩
   replace h:=ctrue hb h
   refine Sgd hT 5 [4,5,6,7,41] [(41,vb (x4.S.Kind == 10))] ?_
   exact oK [4,5,6,7,41] [(6,6,0)] ⟨(x4.S.Kind == 10),h,rfl⟩
  subst hJ10
  rintro s ⟨b9,h,rfl⟩
  skip
  refine Ci h (fun h=>?_) fun h=>?_
  ·refine WA_skip ?_
   refine WA_seq ?_
   refine WA_block ?_
   refine WA_seq ?_
   obtain ⟨J12,hJ12,h⟩:=jsome h
   refine WA_join (fun s=>∃ (b11 : Bool),J12 b11 = some r ∧ s = ⟨[(4,po s_mark l2),(5,vi i3),(6,bx 6 0),(7,vi i8),(72,vb b11)],[(6,cb 0 116 13 (eMark x4))],1⟩) ?_ ?_
   ·refine WA_drawW hT hM (by kernel_rfl) ?_
    refine Ds 2 [(45,vi i8),(44,po s_mark l2)] [] [] ?_
    obtain ⟨x13,hx13,h⟩:=bsome h
    refine Dl rfl (v_index s_mark .opt l2 .i64 i8 hx13) ?_
    refine Dt (.ref (eMark x13) 0) ?_
    refine Ds 5 [(51,vb (x13.S.Kind == 10)),(50,vb (x13.S.Kind == 10)),(49,vi x13.S.Kind),(48,.ref (eMark x13) 0),(47,.ref (eMark x13) 0)] [] [] ?_
    cases hb : ((x13.S.Kind == 10) : Bool)
    ·replace h:=cfalse hb h
     refine Ds 21 [(72,vb false),(71,vU),(70,vU),(69,vU),(68,vU),(67,vU),(66,vU),(65,vU),(64,vU),(63,vb false),(62,vb false),(61,vU),(60,vU),(59,vU),(58,vU),(57,vU),(56,vU),(55,vU),(54,vU),(53,vU),(52,vU)] [] [] ?_
     refine De ?_
     exact wK [4,5,6,7,72] [(6,6,0)] ⟨false,h,rfl⟩
    replace h:=ctrue hb h
    refine Ds 2 [(53,vi i8),(52,po s_mark l2)] [] [] ?_
    obtain ⟨x14,hx14,h⟩:=bsome h
    refine Dl rfl (v_index s_mark .opt l2 .i64 i8 hx14) ?_
    refine Dt (.ref (eMark x14) 0) ?_
    refine Ds 9 [(63,vb (bytesEq x14.S.Name x4.S.Name)),(62,vb (bytesEq x14.S.Name x4.S.Name)),(61,vb (bytesEq x14.S.Name x4.S.Name)),(60,vw x4.S.Name),(59,.box 6 0 0 1),(58,bx 6 0),(57,vw x14.S.Name),(56,.ref (eMark x14) 1),(55,.ref (eMark x14) 0)] [] [(14,[6]),(15,[6]),(16,[6])] ?_
    cases hb : (bytesEq x14.S.Name x4.S.Name : Bool)
    ·replace h:=cfalse hb h
     refine Ds 9 [(72,vb false),(71,vU),(70,vU),(69,vU),(68,vU),(67,vU),(66,vU),(65,vU),(64,vU)] [] [] ?_
     refine De ?_
     exact wK [4,5,6,7,72] [(6,6,0)] ⟨false,h,rfl⟩
    replace h:=ctrue hb h
    refine Ds 2 [(65,vi i8),(64,po s_mark l2)] [] [] ?_
    obtain ⟨x15,hx15,h⟩:=bsome h
    refine Dl rfl (v_index s_mark .opt l2 .i64 i8 hx15) ?_
    refine Dt (.ref (eMark x15) 0) ?_
    refine Ds 6 [(72,vb (x15.At == x4.At)),(71,vb (x15.At == x4.At)),(70,vi x4.At),(69,.box 6 0 0 12),(68,vi x15.At),(67,.ref (eMark x15) 12)] [] [(25,[6]),(26,[6])] ?_
    refine De ?_
    exact wK [4,5,6,7,72] [(6,6,0)] ⟨(x15.At == x4.At),h,rfl⟩
   subst hJ12
   rintro s ⟨b11,h,rfl⟩
   skip
   refine Ci h (fun h=>?_) fun h=>?_
   ·refine Qz hT 5 [2,3] ⟨[(2,vz x4.S.At),(3,vi 4)],[(6,cb 0 116 13 (eMark x4))],1⟩ ?_
    obtain rfl:=Option.some.inj h
    exact rK [2,3] [] ⟨[(2,vz x4.S.At),(3,vi 4)],[],1⟩ ⟨by kernel_rfl,rfl⟩
   refine WA_skip ?_
   refine Rgd hT 3 [4,5,6,7] [(7,vi (wr (i8 + 1)))] ?_
   exact oK [4,5,6,7] [(6,6,0)] ⟨_,by omega,by omega,wr (i8 + 1),h,rfl⟩
  refine WA_exit ?_
  refine Rgd hT 3 [4,5] [(5,vi (wr (i3 + 1)))] ?_
  exact oK [4,5] [] ⟨_,by omega,by omega,l2,wr (i3 + 1),h,rfl⟩
 refine WA_exit ?_
 refine Qz hT 2 [2,3] ⟨[(2,vz c0),(3,vi 0)],[],1⟩ ?_
 obtain rfl:=Option.some.inj h
 exact rK [2,3] [] ⟨[(2,vz c0),(3,vi 0)],[],1⟩ ⟨by kernel_rfl,rfl⟩
def hand_cut_spec (n : Nat) : Prop:=(∀ {a0 : List Stmt} {a1 : Int} {a2 : Int} {r : (List Stmt) × Int},hand_cut n a0 a1 a2 = some r → GO Try.prog 59 [(0,cb 0 3 1 (vi a2))] [po s_Stmt a0,vi a1,bx 0 0] (vs 100 1 s_Stmt r.1) [(0,cb 0 3 1 (vi r.2)),(100,rb 1 s_Stmt r.1)])
theorem hand_cut_step (n : Nat) (ih : ∀ m,m < n → hand_cut_spec m) : ∀ {a0 : List Stmt} {a1 : Int} {a2 : Int} {r : (List Stmt) × Int},hand_cut n a0 a1 a2 = some r → GO Try.prog 59 [(0,cb 0 3 1 (vi a2))] [po s_Stmt a0,vi a1,bx 0 0] (vs 100 1 s_Stmt r.1) [(0,cb 0 3 1 (vi r.2)),(100,rb 1 s_Stmt r.1)]:=by
 intro a0 a1 a2 r h
 rcases n with _ | n
 ·rw [hand_cut] at h; cases h
 rw [hand_cut] at h
 refine GO_bodyA hT Try.func59 rfl [] (by kernel_rfl) fun bad w m=>?_
 refine Qzd hT 1 [0,1,2] [] ?_
 refine Qzd hT 1 [0,1,2,7] [(7,vn)] ?_
 refine WA_seq ?_
 refine Qzd hT 1 [0,1,2,7,8] [(8,vi 0)] ?_
 refine WA_block ?_
 refine aW [0,1,2,7,8] ⟨[(0,po s_Stmt a0),(1,vi a1),(2,bx 0 0),(7,vn),(8,vi 0)],[(0,cb 0 3 1 (vi a2))],1⟩ ?_
 refine WA_weak (wO 7 5000 95 11) ?_
 refine lK [0,1,2,7,8] [(0,0,0),(5000,10007,1)] (fun k s=>∃ q,q ≤ k ∧ q ≤ n ∧ ∃ (i1 : Int),∃ (l2 : List Stmt),∃ (i3 : Int),hand_cut_L0 q a0 a1 a2 i1 l2 i3 = some r ∧ s = ⟨[(0,po s_Stmt a0),(1,vi a1),(2,bx 0 0),(7,vs 10007 1 s_Stmt l2),(8,vi i3)],[(0,cb 0 3 1 (vi i1)),(10007,rb 1 s_Stmt l2)],2⟩) n ⟨n,Nat.le_refl _,Nat.le_refl _,a2,([] : List Stmt),0,h,rfl⟩ (by rintro s ⟨q,hq,_,i1,l2,i3,h,_⟩; obtain rfl:=Nat.le_zero.1 hq; rw [hand_cut_L0] at h; cases h) ?_
 clear h
 rintro k1 s ⟨q1,hk1,hn1,i1,l2,i3,h,rfl⟩
 rcases q1 with _ | q1
 ·rw [hand_cut_L0] at h; cases h
 rw [hand_cut_L0] at h
 refine WA_seq ?_
 refine Qgd hT 2 [0,1,2,7,8,11,12] [(11,vi i3),(12,po s_Stmt a0)] ?_
 refine One' hT rfl (v_len s_Stmt .opt a0) ?_
 refine Szd hT 1 [0,1,2,7,8,14] [(14,vb (decide (i3 < (ln a0))))] ?_
 refine Ci h (fun h=>?_) fun h=>?_
 ·refine WA_skip ?_
  refine WA_seq ?_
  obtain ⟨J6,hJ6,h⟩:=jsome h
  refine WA_join (fun s=>∃ (i4 : Int),∃ (l5 : List Stmt),J6 i4 l5 = some r ∧ s = ⟨[(0,po s_Stmt a0),(1,vi a1),(2,bx 0 0),(7,vs 10007 1 s_Stmt l5),(8,vi i3)],[(0,cb 0 3 1 (vi i4)),(10007,rb 1 s_Stmt l5)],2⟩) ?_ ?_
  ·refine WA_block ?_
   refine Qgd hT 2 [0,1,2,7,8,17,18] [(17,po s_Stmt a0),(18,vi i3)] ?_
   obtain ⟨x7,hx7,h⟩:=bsome h
   refine One' hT rfl (v_index s_Stmt .opt a0 .i64 i3 hx7) ?_
   refine Szh hT 3 [0,1,2,7,8,9] [(9,bx 9 2)] [(9,cb 2 95 11 (eStmt x7)),(0,cb 0 3 1 (vi i1)),(10007,rb 1 s_Stmt l2)] 3 ?_
   refine Qzd hT 4 [0,1,2,7,8,9,10] [(10,vi i1)] ?_
   refine Qzh hT 7 [0,1,2,7,8,9,10] [] [(0,cb 0 3 1 (vi (wr (i1 + 1)))),(9,cb 2 95 11 (eStmt x7)),(10007,rb 1 s_Stmt l2)] 3 ?_
   refine Qgd hT 2 [0,1,2,7,8,9,10,30,31] [(30,po s_Stmt a0),(31,vi i3)] ?_
   obtain ⟨x8,hx8,h⟩:=bsome h
   refine One' hT rfl (v_index s_Stmt .opt a0 .i64 i3 hx8) ?_
   refine Sgd hT 4 [0,1,2,7,8,9,10,34,35,36] [(34,po s_Stmt x8.Body),(35,vi a1),(36,bx 0 0)] ?_
   obtain ⟨r9,hr9,h⟩:=bsome h
   refine Og [(0,cb 0 3 1 (vi (wr (i1 + 1))))] [(0,cb 0 3 1 (vi r9.2)),(100,rb 1 s_Stmt r9.1)] [po s_Stmt x8.Body,vi a1,bx 0 0] [po s_Stmt x8.Body,vi a1,bx 0 0] [(0,0,0)] [(100,37,3),(0,0,0)] [(37,rb 3 s_Stmt r9.1),(0,cb 0 3 1 (vi r9.2))] (vs 100 1 s_Stmt r9.1) (vs 37 3 s_Stmt r9.1) 4 en59 ((ih _ (by omega)) hr9) ?_
   refine Szh hT 2 [0,1,2,7,8,9,10] [] [(9,cb 2 95 11 (.agg [vi x7.Kind,vw x7.Name,vw x7.Other,vi x7.N,vi x7.E.Kind,vi x7.E.N,vw x7.E.Name,po s_Expr x7.E.Of,vs 37 3 s_Stmt r9.1,po s_Stmt x7.Else,vz x7.At])),(37,rb 3 s_Stmt r9.1),(0,cb 0 3 1 (vi r9.2)),(10007,rb 1 s_Stmt l2)] 4 ?_
   refine Qgd hT 2 [0,1,2,7,8,9,10,39,40] [(39,po s_Stmt a0),(40,vi i3)] ?_
   obtain ⟨x10,hx10,h⟩:=bsome h
   refine One' hT rfl (v_index s_Stmt .opt a0 .i64 i3 hx10) ?_
   refine Sg hT 4 [0,1,2,7,8,9,10,43,44,45] ⟨[(0,po s_Stmt a0),(1,vi a1),(2,bx 0 0),(7,vs 10007 1 s_Stmt l2),(8,vi i3),(9,bx 9 2),(10,vi i1),(43,po s_Stmt x10.Else),(44,vi a1),(45,bx 0 0)],[(9,cb 2 95 11 (.agg [vi x7.Kind,vw x7.Name,vw x7.Other,vi x7.N,vi x7.E.Kind,vi x7.E.N,vw x7.E.Name,po s_Expr x7.E.Of,vs 37 3 s_Stmt r9.1,po s_Stmt x7.Else,vz x7.At])),(37,rb 3 s_Stmt r9.1),(0,cb 0 3 1 (vi r9.2)),(10007,rb 1 s_Stmt l2)],4⟩ ?_
   obtain ⟨r11,hr11,h⟩:=bsome h
   refine Og [(0,cb 0 3 1 (vi r9.2))] [(0,cb 0 3 1 (vi r11.2)),(100,rb 1 s_Stmt r11.1)] [po s_Stmt x10.Else,vi a1,bx 0 0] [po s_Stmt x10.Else,vi a1,bx 0 0] [(0,0,0)] [(100,46,4),(0,0,0)] [(46,rb 4 s_Stmt r11.1),(0,cb 0 3 1 (vi r11.2))] (vs 100 1 s_Stmt r11.1) (vs 46 4 s_Stmt r11.1) 5 en59 ((ih _ (by omega)) hr11) ?_
   refine Szh hT 2 [0,1,2,7,8,9,10] [] [(9,cb 2 95 11 (.agg [vi x7.Kind,vw x7.Name,vw x7.Other,vi x7.N,vi x7.E.Kind,vi x7.E.N,vw x7.E.Name,po s_Expr x7.E.Of,vs 37 3 s_Stmt r9.1,vs 46 4 s_Stmt r11.1,vz x7.At])),(46,rb 4 s_Stmt r11.1),(0,cb 0 3 1 (vi r11.2)),(37,rb 3 s_Stmt r9.1),(10007,rb 1 s_Stmt l2)] 5 ?_
   refine Qzd hT 3 [0,1,2,7,8,9,50] [(50,vb (i1 != a1))] ?_
   refine Ci h (fun h=>?_) fun h=>?_
   ·refine Rgd hT 2 [0,1,2,8,51,52] [(51,vs 10007 1 s_Stmt l2),(52,.agg [vi x7.Kind,vw x7.Name,vw x7.Other,vi x7.N,vi x7.E.Kind,vi x7.E.N,vw x7.E.Name,po s_Expr x7.E.Of,vs 37 3 s_Stmt r9.1,vs 46 4 s_Stmt r11.1,vz x7.At])] ?_
    refine WO_weak (wF 37 3 (rb 3 s_Stmt r9.1) [(0,po s_Stmt a0),(1,vi a1),(2,bx 0 0),(8,vi i3),(51,vs 10007 1 s_Stmt l2),(52,.agg [vi x7.Kind,vw x7.Name,vw x7.Other,vi x7.N,vi x7.E.Kind,vi x7.E.N,vw x7.E.Name,po s_Expr x7.E.Of,po s_Stmt r9.1,vs 46 4 s_Stmt r11.1,vz x7.At])] [(9,cb 2 95 11 (.agg [vi x7.Kind,vw x7.Name,vw x7.Other,vi x7.N,vi x7.E.Kind,vi x7.E.N,vw x7.E.Name,po s_Expr x7.E.Of,po s_Stmt r9.1,vs 46 4 s_Stmt r11.1,vz x7.At])),(46,rb 4 s_Stmt r11.1),(0,cb 0 3 1 (vi r11.2)),(10007,rb 1 s_Stmt l2)] ⟨rfl,.keep _,rfl,.keep _,rfl,.keep _,rfl,.keep _,rfl,.keep _,rfl,.aggs ⟨.keep _,.keep _,.keep _,.keep _,.keep _,.keep _,.keep _,.keep _,.hit true,.keep _,.keep _,trivial⟩,trivial⟩ ⟨rfl,.inr ⟨rfl,rfl,.aggs ⟨.keep _,.keep _,.keep _,.keep _,.keep _,.keep _,.keep _,.keep _,.hit true,.keep _,.keep _,trivial⟩,trivial⟩,rfl,.inl rfl,rfl,.inl rfl,rfl,.inl rfl,trivial⟩) ?_
    refine WO_weak (wF 46 4 (rb 4 s_Stmt r11.1) [(0,po s_Stmt a0),(1,vi a1),(2,bx 0 0),(8,vi i3),(51,vs 10007 1 s_Stmt l2),(52,.agg [vi x7.Kind,vw x7.Name,vw x7.Other,vi x7.N,vi x7.E.Kind,vi x7.E.N,vw x7.E.Name,po s_Expr x7.E.Of,po s_Stmt r9.1,po s_Stmt r11.1,vz x7.At])] [(9,cb 2 95 11 (.agg [vi x7.Kind,vw x7.Name,vw x7.Other,vi x7.N,vi x7.E.Kind,vi x7.E.N,vw x7.E.Name,po s_Expr x7.E.Of,po s_Stmt r9.1,po s_Stmt r11.1,vz x7.At])),(0,cb 0 3 1 (vi r11.2)),(10007,rb 1 s_Stmt l2)] ⟨rfl,.keep _,rfl,.keep _,rfl,.keep _,rfl,.keep _,rfl,.keep _,rfl,.aggs ⟨.keep _,.keep _,.keep _,.keep _,.keep _,.keep _,.keep _,.keep _,.keep _,.hit true,.keep _,trivial⟩,trivial⟩ ⟨rfl,.inr ⟨rfl,rfl,.aggs ⟨.keep _,.keep _,.keep _,.keep _,.keep _,.keep _,.keep _,.keep _,.keep _,.hit true,.keep _,trivial⟩,trivial⟩,rfl,.inl rfl,rfl,.inl rfl,trivial⟩) ?_
    refine One' hT rfl (ev_bslice s_Stmt 53 [(Stmt.mk x7.Kind x7.Name x7.Other x7.N x7.E r9.1 r11.1 x7.At)] (by kernel_rfl)) ?_
    refine Sgh hT 0 [0,1,2,8,51,53] [(53,vs 53 5 s_Stmt [(Stmt.mk x7.Kind x7.Name x7.Other x7.N x7.E r9.1 r11.1 x7.At)])] [(53,⟨5,95,11,false,false,s_Stmt.F [(Stmt.mk x7.Kind x7.Name x7.Other x7.N x7.E r9.1 r11.1 x7.At)]⟩),(9,cb 2 95 11 (.agg [vi x7.Kind,vw x7.Name,vw x7.Other,vi x7.N,vi x7.E.Kind,vi x7.E.N,vw x7.E.Name,po s_Expr x7.E.Of,po s_Stmt r9.1,po s_Stmt r11.1,vz x7.At])),(0,cb 0 3 1 (vi r11.2)),(10007,rb 1 s_Stmt l2)] 6 ?_
    obtain ⟨g12,h⟩:=gsome h
    refine Oa hT s_Stmt 10007 1 true l2 [(Stmt.mk x7.Kind x7.Name x7.Other x7.N x7.E r9.1 r11.1 x7.At)] (eO s_Stmt 53 5 true ⟨5,95,11,false,false,s_Stmt.F [(Stmt.mk x7.Kind x7.Name x7.Other x7.N x7.E r9.1 r11.1 x7.At)]⟩ [(Stmt.mk x7.Kind x7.Name x7.Other x7.N x7.E r9.1 r11.1 x7.At)]) g12 ?_
    refine Sgh hT 1 [0,1,2,7,8] [(7,vs 54 6 s_Stmt (l2 ++ [(Stmt.mk x7.Kind x7.Name x7.Other x7.N x7.E r9.1 r11.1 x7.At)]))] [(54,rb 6 s_Stmt (l2 ++ [(Stmt.mk x7.Kind x7.Name x7.Other x7.N x7.E r9.1 r11.1 x7.At)])),(53,⟨5,95,11,false,false,s_Stmt.F [(Stmt.mk x7.Kind x7.Name x7.Other x7.N x7.E r9.1 r11.1 x7.At)]⟩),(9,cb 2 95 11 (.agg [vi x7.Kind,vw x7.Name,vw x7.Other,vi x7.N,vi x7.E.Kind,vi x7.E.N,vw x7.E.Name,po s_Expr x7.E.Of,po s_Stmt r9.1,po s_Stmt r11.1,vz x7.At])),(0,cb 0 3 1 (vi r11.2))] 7 ?_
    exact oK [0,1,2,7,8] [(0,0,0),(54,10007,1)] ⟨r11.2,l2 ++ [(Stmt.mk x7.Kind x7.Name x7.Other x7.N x7.E r9.1 r11.1 x7.At)],h,rfl⟩
   exact sK [0,1,2,7,8] [(0,0,0),(10007,10007,1)] ⟨r11.2,l2,h,rfl⟩
  subst hJ6
  rintro s ⟨i4,l5,h,rfl⟩
  skip
  refine Rgd hT 3 [0,1,2,7,8] [(8,vi (wr (i3 + 1)))] ?_
  exact oK [0,1,2,7,8] [(0,0,0),(10007,10007,1)] ⟨_,by omega,by omega,i4,l5,wr (i3 + 1),h,rfl⟩
 refine WA_exit ?_
 refine Qzd hT 2 [6] [(6,vs 10007 1 s_Stmt l2)] ?_
 obtain rfl:=Option.some.inj h
 exact rK [6] [(0,0,0),(10007,100,1)] ⟨[(6,vs 100 1 s_Stmt l2)],[(0,cb 0 3 1 (vi i1)),(100,rb 1 s_Stmt l2)],2⟩ ⟨by kernel_rfl,by kernel_rfl,rfl⟩
theorem hand_cut_all (n : Nat) : hand_cut_spec n:=by
 induction n using Nat.strongRecOn with
 | _ n ih=>exact hand_cut_step n ih
theorem hand_cut_ok {n : Nat} {a0 : List Stmt} {a1 : Int} {a2 : Int} {r : (List Stmt) × Int} (h : hand_cut n a0 a1 a2 = some r) : GO Try.prog 59 [(0,cb 0 3 1 (vi a2))] [po s_Stmt a0,vi a1,bx 0 0] (vs 100 1 s_Stmt r.1) [(0,cb 0 3 1 (vi r.2)),(100,rb 1 s_Stmt r.1)]:=(hand_cut_all n) h
theorem hand_without_ok {n : Nat} {a0 : Prog} {a1 : Int} {r : Prog} (h : hand_without n a0 a1 = some r) : PT Try.prog 35 [eProg a0,vi a1] (eProg r):=by
 unfold hand_without at h
 refine PT_bodyA hT Try.func35 rfl (by kernel_rfl) fun bad w=>?_
 refine Qz hT 2 [1,2,4] ⟨[(1,vi a1),(2,bx 2 0),(4,bx 4 1)],[(4,cb 1 26 2 (.agg [vn,vn])),(2,cb 0 26 2 (eProg a0))],2⟩ ?_
 refine Qzh hT 2 [1,2,4,5] [(5,bx 5 2)] [(5,cb 2 3 1 (vi 0)),(4,cb 1 26 2 (.agg [vn,vn])),(2,cb 0 26 2 (eProg a0))] 3 ?_
 refine Qzh hT 5 [1,2,4,5,6] [(6,bx 6 3)] [(6,cb 3 26 2 (.agg [po s_Decl a0.Decls,vn])),(5,cb 2 3 1 (vi 0)),(4,cb 1 26 2 (.agg [vn,vn])),(2,cb 0 26 2 (eProg a0))] 4 ?_
 refine WA_seq ?_
 refine Qzd hT 1 [1,2,4,5,6,7] [(7,vi 0)] ?_
 refine WA_block ?_
 refine aW [1,2,4,5,6,7] ⟨[(1,vi a1),(2,bx 2 0),(4,bx 4 1),(5,bx 5 2),(6,bx 6 3),(7,vi 0)],[(6,cb 3 26 2 (.agg [po s_Decl a0.Decls,vn])),(5,cb 2 3 1 (vi 0)),(4,cb 1 26 2 (.agg [vn,vn])),(2,cb 0 26 2 (eProg a0))],4⟩ ?_
 refine WA_weak (wOh 6 5000 1 (cb 3 26 2 (.agg [po s_Decl a0.Decls,vn])) (.agg [po s_Decl a0.Decls,vn]) (.agg [po s_Decl a0.Decls,vs 5000 4 s_LStmt ([] : List (List Stmt))]) 75 1) ?_
 refine lR [(2,2,0),(4,4,0),(5,5,0),(6,6,0),(5000,12506,0)] (fun k s=>∃ q,q ≤ k ∧ q ≤ n ∧ ∃ (i1 : Int),∃ (l2 : List (List Stmt)),∃ (i3 : Int),hand_without_L0 q a0 a1 i1 l2 i3 = some r ∧ s = ⟨[(1,vi a1),(2,bx 2 0),(4,bx 4 0),(5,bx 5 0),(6,bx 6 0),(7,vi i3)],[(2,cb 0 26 2 (eProg a0)),(4,cb 0 26 2 (.agg [vn,vn])),(5,cb 0 3 1 (vi i1)),(6,cb 0 26 2 (.agg [po s_Decl a0.Decls,vs 12506 0 s_LStmt l2])),(12506,rb 0 s_LStmt l2)],1⟩) n ⟨n,Nat.le_refl _,Nat.le_refl _,0,([] : List (List Stmt)),0,h,rfl⟩ (by rintro s ⟨q,hq,_,i1,l2,i3,h,_⟩; obtain rfl:=Nat.le_zero.1 hq; rw [hand_without_L0] at h; cases h) ?_
 clear h
 rintro k1 s ⟨q1,hk1,hn1,i1,l2,i3,h,rfl⟩
 rcases q1 with _ | q1
 ·rw [hand_without_L0] at h; cases h
 rw [hand_without_L0] at h
 refine WA_seq ?_
 refine Qgd hT 3 [1,2,4,5,6,7,11,13] [(11,vi i3),(13,po s_LStmt a0.Threads)] ?_
 refine One' hT rfl (v_len s_LStmt .opt a0.Threads) ?_
 refine Szd hT 1 [1,2,4,5,6,7,15] [(15,vb (decide (i3 < (ln a0.Threads))))] ?_
 refine Ci h (fun h=>?_) fun h=>?_
 ·refine WA_skip ?_
  refine WA_seq ?_
  refine WA_block ?_
  refine WA_drawW hT hM (by kernel_rfl) ?_
  refine Ds 5 [(22,vi i3),(21,po s_LStmt a0.Threads),(20,.box 2 0 0 1),(19,vs 12506 0 s_LStmt l2),(18,.box 6 0 0 1)] [] [(0,[6]),(1,[6]),(2,[2]),(3,[2])] ?_
  obtain ⟨x4,hx4,h⟩:=bsome h
  refine Dl rfl (v_index s_LStmt .opt a0.Threads .i64 i3 hx4) ?_
  refine Dt (.ref (el_Stmt x4) 0) ?_
  refine Ds 2 [(25,vi a1),(24,po s_Stmt x4)] [] [] ?_
  obtain ⟨r5,hr5,h⟩:=bsome h
  refine Dg [(0,cb 0 3 1 (vi i1))] [(0,cb 0 3 1 (vi r5.2))] [po s_Stmt x4,vi a1,bx 5 0] [po s_Stmt x4,vi a1,bx 0 0] [(5,0,0)] [(0,5,0)] [(5,cb 0 3 1 (vi r5.2))] (po s_Stmt r5.1) (po s_Stmt r5.1) 2 en59 (GO_frz 100 (rb 1 s_Stmt r5.1) (hand_cut_ok hr5) (by kernel_rfl) rfl rfl) ?_
  refine Dh 1 [(27,.ps .full (s_LStmt.F [r5.1]))] [(5,cb 0 3 1 (vi r5.2)),(2,cb 0 26 2 (eProg a0)),(4,cb 0 26 2 (.agg [vn,vn])),(6,cb 0 26 2 (.agg [po s_Decl a0.Decls,vs 12506 0 s_LStmt l2])),(12506,rb 0 s_LStmt l2)] 2 [] [] ?_
  obtain ⟨g6,h⟩:=gsome h
  refine Dw rfl (ev_append s_LStmt 12506 0 true l2 [r5.1] (by kernel_rfl) (by kernel_rfl) (by kernel_rfl) (by simp) g6) ?_
  refine Dh 2 [(29,.box 6 0 0 1)] [(6,cb 0 26 2 (.agg [po s_Decl a0.Decls,vs 28 2 s_LStmt (l2 ++ [r5.1])])),(28,⟨2,75,1,false,false,s_LStmt.F (l2 ++ [r5.1])⟩),(5,cb 0 3 1 (vi r5.2)),(2,cb 0 26 2 (eProg a0)),(4,cb 0 26 2 (.agg [vn,vn]))] 3 [(12,[6])] [(11,[6])] ?_
  refine De ?_
  refine Wk_done ?_
  refine Rgd hT 3 [1,2,4,5,6,7] [(7,vi (wr (i3 + 1)))] ?_
  refine oW [1,2,4,5,6,7] ⟨[(1,vi a1),(2,bx 2 0),(4,bx 4 0),(5,bx 5 0),(6,bx 6 0),(7,vi (wr (i3 + 1)))],[(6,cb 0 26 2 (.agg [po s_Decl a0.Decls,vs 28 2 s_LStmt (l2 ++ [r5.1])])),(28,⟨2,75,1,false,false,s_LStmt.F (l2 ++ [r5.1])⟩),(5,cb 0 3 1 (vi r5.2)),(2,cb 0 26 2 (eProg a0)),(4,cb 0 26 2 (.agg [vn,vn]))],3⟩ ?_
  refine WO_weak (wL [(1,vi a1),(2,bx 2 0),(4,bx 4 0),(5,bx 5 0),(6,bx 6 0),(7,vi (wr (i3 + 1)))] [(6,cb 0 26 2 (.agg [po s_Decl a0.Decls,vs 28 2 s_LStmt (l2 ++ [r5.1])])),(28,rb 2 s_LStmt (l2 ++ [r5.1])),(5,cb 0 3 1 (vi r5.2)),(2,cb 0 26 2 (eProg a0)),(4,cb 0 26 2 (.agg [vn,vn]))] ⟨VLf.refl _,VLf.refl _,VLf.refl _,VLf.refl _,VLf.refl _,VLf.refl _,trivial⟩ ⟨rfl,.inl rfl,rfl,.inr (.inr rfl),rfl,.inl rfl,rfl,.inl rfl,rfl,.inl rfl,trivial⟩) ?_
  exact oR [(2,2,0),(4,4,0),(5,5,0),(6,6,0),(28,12506,0)] ⟨_,by omega,by omega,r5.2,l2 ++ [r5.1],wr (i3 + 1),h,rfl⟩
 refine WA_exit ?_
 refine Qz hT 2 [4] ⟨[(4,bx 4 0)],[(4,cb 0 26 2 (.agg [po s_Decl a0.Decls,vs 12506 0 s_LStmt l2])),(2,cb 0 26 2 (eProg a0)),(5,cb 0 3 1 (vi i1)),(6,cb 0 26 2 (.agg [po s_Decl a0.Decls,vs 12506 0 s_LStmt l2])),(12506,rb 0 s_LStmt l2)],1⟩ ?_
 refine aW [4] ⟨[(4,bx 4 0)],[(4,cb 0 26 2 (.agg [po s_Decl a0.Decls,vs 12506 0 s_LStmt l2])),(2,cb 0 26 2 (eProg a0)),(5,cb 0 3 1 (vi i1)),(6,cb 0 26 2 (.agg [po s_Decl a0.Decls,vs 12506 0 s_LStmt l2])),(12506,rb 0 s_LStmt l2)],1⟩ ?_
 refine WA_weak (wF 12506 0 (rb 0 s_LStmt l2) [(4,bx 4 0)] [(4,cb 0 26 2 (.agg [po s_Decl a0.Decls,po s_LStmt l2])),(2,cb 0 26 2 (eProg a0)),(5,cb 0 3 1 (vi i1)),(6,cb 0 26 2 (.agg [po s_Decl a0.Decls,po s_LStmt l2]))] ⟨rfl,.keep _,trivial⟩ ⟨rfl,.inr ⟨rfl,rfl,.aggs ⟨.keep _,.hit true,trivial⟩,trivial⟩,rfl,.inl rfl,rfl,.inl rfl,rfl,.inr ⟨rfl,rfl,.aggs ⟨.keep _,.hit true,trivial⟩,trivial⟩,trivial⟩) ?_
 refine WA_weak (wL [(4,bx 4 0)] [(4,cb 0 26 2 (eProg (Prog.mk a0.Decls l2))),(2,cb 0 26 2 (eProg a0)),(5,cb 0 3 1 (vi i1)),(6,cb 0 26 2 (.agg [po s_Decl a0.Decls,po s_LStmt l2]))] ⟨VLf.refl _,trivial⟩ ⟨rfl,.inr (.inl ⟨rfl,rfl,CLe.agg ⟨VLf.refl _,VLf.refl _,trivial⟩,trivial⟩),rfl,.inl rfl,rfl,.inl rfl,rfl,.inl rfl,trivial⟩) ?_
 obtain rfl:=Option.some.inj h
 exact rR [(4,1000,0)] ⟨[(4,bx 1000 0)],[(1000,cb 0 26 2 (eProg (Prog.mk a0.Decls l2)))],1⟩ ⟨by kernel_rfl,rfl⟩
theorem hand_fixed_ok {n : Nat} {a0 : Prog} {r : Prog} (h : hand_fixed n a0 = some r) : PT Try.prog 12 [eProg a0] (eProg r):=by
 unfold hand_fixed at h
 refine PT_bodyA hT Try.func12 rfl (by kernel_rfl) fun bad w=>?_
 refine Qz hT 2 [1,2] ⟨[(1,bx 1 0),(2,bx 2 1)],[(2,cb 1 26 2 (.agg [vn,vn])),(1,cb 0 26 2 (eProg a0))],2⟩ ?_
 refine WA_seq ?_
 refine Qzd hT 1 [1,2,3] [(3,vi 0)] ?_
 refine WA_block ?_
 refine lK [1,2,3] [(1,1,0),(2,2,0)] (fun k s=>∃ q,q ≤ k ∧ q ≤ n ∧ ∃ (v1 : Prog),∃ (i2 : Int),hand_fixed_L0 q a0 v1 i2 = some r ∧ s = ⟨[(1,bx 1 0),(2,bx 2 0),(3,vi i2)],[(1,cb 0 26 2 (eProg v1)),(2,cb 0 26 2 (.agg [vn,vn]))],1⟩) n ⟨n,Nat.le_refl _,Nat.le_refl _,a0,0,h,rfl⟩ (by rintro s ⟨q,hq,_,v1,i2,h,_⟩; obtain rfl:=Nat.le_zero.1 hq; rw [hand_fixed_L0] at h; cases h) ?_
 clear h
 rintro k1 s ⟨q1,hk1,hn1,v1,i2,h,rfl⟩
 rcases q1 with _ | q1
 ·rw [hand_fixed_L0] at h; cases h
 rw [hand_fixed_L0] at h
 refine WA_seq ?_
 refine Qzd hT 2 [1,2,3,7] [(7,vb (decide (i2 < 40)))] ?_
 refine Ci h (fun h=>?_) fun h=>?_
 ·refine WA_skip ?_
  refine WA_seq ?_
  refine WA_block ?_
  refine Qgd hT 1 [1,2,3,11] [(11,eProg v1)] ?_
  obtain ⟨r3,hr3,h⟩:=bsome h
  refine Pt' en34 (hand_mark_ok hr3) ?_
  refine Sgd hT 0 [1,2,3,12] [(12,eProg r3)] ?_
  obtain ⟨r4,hr4,h⟩:=bsome h
  refine Pt' en33 (ref8_Jumps_ok hr4) ?_
  refine Szd hT 5 [1,2,3,4,5] [(4,vz r4.1),(5,vi r4.2)] ?_
  refine WA_seq ?_
  refine Qz hT 2 [1,2,3,4,17] ⟨[(1,bx 1 0),(2,bx 2 0),(3,vi i2),(4,vz r4.1),(17,vb (r4.2 == 0))],[(1,cb 0 26 2 (eProg v1)),(2,cb 0 26 2 (.agg [vn,vn]))],1⟩ ?_
  refine Ci h (fun h=>?_) fun h=>?_
  ·refine Qz hT 2 [2] ⟨[(2,bx 2 0)],[(2,cb 0 26 2 (eProg v1)),(1,cb 0 26 2 (eProg v1))],1⟩ ?_
   obtain rfl:=Option.some.inj h
   exact rK [2] [(2,1000,0)] ⟨[(2,bx 1000 0)],[(1000,cb 0 26 2 (eProg v1))],1⟩ ⟨by kernel_rfl,rfl⟩
  refine WA_skip ?_
  refine Rgd hT 3 [1,2,3,19,21] [(19,eProg v1),(21,.p (.float .f64 r4.1.re))] ?_
  obtain ⟨x5,hx5,h⟩:=bsome h
  refine One' hT rfl (ev_f2i r4.1.re hx5 (by kernel_rfl) (by kernel_rfl) (by kernel_rfl)) ?_
  refine Sgd hT 0 [1,2,3,19,22] [(22,vi x5)] ?_
  obtain ⟨r6,hr6,h⟩:=bsome h
  refine Pt' en35 (hand_without_ok hr6) ?_
  refine Szh hT 1 [1,2,3] [] [(1,cb 0 26 2 (eProg r6)),(2,cb 0 26 2 (.agg [vn,vn]))] 1 ?_
  refine Rgd hT 3 [1,2,3] [(3,vi (wr (i2 + 1)))] ?_
  exact oK [1,2,3] [(1,1,0),(2,2,0)] ⟨_,by omega,by omega,r6,wr (i2 + 1),h,rfl⟩
 refine WA_exit ?_
 refine Qg hT 3 [2,25,26] ⟨[(2,bx 2 0),(25,po s_Decl v1.Decls),(26,vs 26 1 s_LStmt [[]])],[(26,⟨1,75,1,false,false,s_LStmt.F [[]]⟩),(1,cb 0 26 2 (eProg v1)),(2,cb 0 26 2 (.agg [vn,vn]))],2⟩ ?_
 refine WO_weak (wF 26 1 ⟨1,75,1,false,false,s_LStmt.F [[]]⟩ [(2,bx 2 0),(25,po s_Decl v1.Decls),(26,po s_LStmt [[]])] [(1,cb 0 26 2 (eProg v1)),(2,cb 0 26 2 (.agg [vn,vn]))] ⟨rfl,.keep _,rfl,.keep _,rfl,.hit true,trivial⟩ ⟨rfl,.inl rfl,rfl,.inl rfl,trivial⟩) ?_
 refine Sz hT 2 [2] ⟨[(2,bx 2 0)],[(2,cb 0 26 2 (.agg [po s_Decl v1.Decls,po s_LStmt [[]]])),(1,cb 0 26 2 (eProg v1))],2⟩ ?_
 refine aW [2] ⟨[(2,bx 2 0)],[(2,cb 0 26 2 (.agg [po s_Decl v1.Decls,po s_LStmt [[]]])),(1,cb 0 26 2 (eProg v1))],2⟩ ?_
 refine WA_weak (wL [(2,bx 2 0)] [(2,cb 0 26 2 (eProg (Prog.mk v1.Decls [[]]))),(1,cb 0 26 2 (eProg v1))] ⟨VLf.refl _,trivial⟩ ⟨rfl,.inr (.inl ⟨rfl,rfl,CLe.agg ⟨VLf.refl _,VLf.refl _,trivial⟩,trivial⟩),rfl,.inl rfl,trivial⟩) ?_
 obtain rfl:=Option.some.inj h
 exact rR [(2,1000,0)] ⟨[(2,bx 1000 0)],[(1000,cb 0 26 2 (eProg (Prog.mk v1.Decls [[]])))],1⟩ ⟨by kernel_rfl,rfl⟩
def ref1_Digits_spec (n : Nat) : Prop:=(∀ {a0 : Int} {r : ByteArray},ref1_Digits n a0 = some r → PT Try.prog 31 [vi a0] (vw r))
theorem ref1_Digits_step (n : Nat) (ih : ∀ m,m < n → ref1_Digits_spec m) : ∀ {a0 : Int} {r : ByteArray},ref1_Digits n a0 = some r → PT Try.prog 31 [vi a0] (vw r):=by
 intro a0 r h
 rcases n with _ | n
 ·rw [ref1_Digits] at h; cases h
 rw [ref1_Digits] at h
 refine PT_bodyA hT Try.func31 rfl (by kernel_rfl) fun bad w=>?_
 refine Qz hT 1 [0] ⟨[(0,vi a0)],[],0⟩ ?_
 refine WA_seq ?_
 refine Qz hT 2 [0,4] ⟨[(0,vi a0),(4,vb (decide (a0 < 10)))],[],0⟩ ?_
 refine Ci h (fun h=>?_) fun h=>?_
 ·refine Qg hT 4 [8] ⟨[(8,vs 8 0 s_uint8 [IntKind.u8.wrap (wr (48 + a0))])],[(8,⟨0,5,1,false,false,s_uint8.F [IntKind.u8.wrap (wr (48 + a0))]⟩)],1⟩ ?_
  refine One' hT rfl (ev_b2s s_uint8 [IntKind.u8.wrap (wr (48 + a0))] rfl (eO s_uint8 8 0 true ⟨0,5,1,false,false,s_uint8.F [IntKind.u8.wrap (wr (48 + a0))]⟩ [IntKind.u8.wrap (wr (48 + a0))]) rfl rfl rfl rfl) ?_
  refine Szd hT 1 [2] [(2,vw (b2s [IntKind.u8.wrap (wr (48 + a0))]))] ?_
  obtain rfl:=Option.some.inj h
  exact rK [2] [] ⟨[(2,vw (b2s [IntKind.u8.wrap (wr (48 + a0))]))],[],1⟩ ⟨by kernel_rfl,rfl⟩
 refine WA_skip ?_
 refine WA_seq ?_
 refine WA_drawW hT hM (by kernel_rfl) ?_
 refine Ds 2 [(11,vi (wr (a0.tdiv 10))),(10,vi a0)] [] [] ?_
 obtain ⟨r1,hr1,h⟩:=bsome h
 refine Dp [vi (wr (a0.tdiv 10))] (vw r1) en31 ((ih _ (by omega)) hr1) ?_
 refine Ds 5 [(17,.ps .full (s_uint8.F [IntKind.u8.wrap (wr (48 + (a0.tmod 10)))])),(16,vu (IntKind.u8.wrap (wr (48 + (a0.tmod 10))))),(15,vi (wr (48 + (a0.tmod 10)))),(14,vi (a0.tmod 10)),(13,vi a0)] [] [] ?_
 refine Dl rfl (ev_b2s s_uint8 [IntKind.u8.wrap (wr (48 + (a0.tmod 10)))] rfl (by kernel_rfl) rfl rfl rfl rfl) ?_
 refine Dt (vw (b2s [IntKind.u8.wrap (wr (48 + (a0.tmod 10)))])) ?_
 obtain ⟨g2,h⟩:=gsome h
 refine Dl rfl (v_sadd r1 (b2s [IntKind.u8.wrap (wr (48 + (a0.tmod 10)))]) g2) ?_
 refine Dt (vw (r1 ++ (b2s [IntKind.u8.wrap (wr (48 + (a0.tmod 10)))]))) ?_
 refine Ds 1 [(2,vw (r1 ++ (b2s [IntKind.u8.wrap (wr (48 + (a0.tmod 10)))])))] [] [] ?_
 refine De ?_
 refine Wk_done ?_
 obtain rfl:=Option.some.inj h
 exact rK [2] [] ⟨[(2,vw (r1 ++ (b2s [IntKind.u8.wrap (wr (48 + (a0.tmod 10)))])))],[],1⟩ ⟨by kernel_rfl,rfl⟩
theorem ref1_Digits_all (n : Nat) : ref1_Digits_spec n:=by
 induction n using Nat.strongRecOn with
 | _ n ih=>exact ref1_Digits_step n ih
theorem ref1_Digits_ok {n : Nat} {a0 : Int} {r : ByteArray} (h : ref1_Digits n a0 = some r) : PT Try.prog 31 [vi a0] (vw r):=(ref1_Digits_all n) h
def ref1_tabs_spec (n : Nat) : Prop:=(∀ {a0 : Int} {r : ByteArray},ref1_tabs n a0 = some r → PT Try.prog 54 [vi a0] (vw r))
theorem ref1_tabs_step (n : Nat) (ih : ∀ m,m < n → ref1_tabs_spec m) : ∀ {a0 : Int} {r : ByteArray},ref1_tabs n a0 = some r → PT Try.prog 54 [vi a0] (vw r):=by
 intro a0 r h
 rcases n with _ | n
 ·rw [ref1_tabs] at h; cases h
 rw [ref1_tabs] at h
 refine PT_bodyA hT Try.func54 rfl (by kernel_rfl) fun bad w=>?_
 refine Qz hT 1 [0] ⟨[(0,vi a0)],[],0⟩ ?_
 refine WA_seq ?_
 refine Qz hT 2 [0,4] ⟨[(0,vi a0),(4,vb (decide (a0 ≤ 0)))],[],0⟩ ?_
 refine Ci h (fun h=>?_) fun h=>?_
 ·refine Qz hT 1 [2] ⟨[(2,vw b0)],[],0⟩ ?_
  obtain rfl:=Option.some.inj h
  exact rK [2] [] ⟨[(2,vw b0)],[],1⟩ ⟨by kernel_rfl,rfl⟩
 refine WA_skip ?_
 refine Qg hT 2 [6] ⟨[(6,vi (wr (a0 - 1)))],[],0⟩ ?_
 obtain ⟨r1,hr1,h⟩:=bsome h
 refine Pt' en54 ((ih _ (by omega)) hr1) ?_
 refine Sg hT 0 [7] ⟨[(7,vw r1)],[],0⟩ ?_
 obtain ⟨g2,h⟩:=gsome h
 refine One' hT rfl (v_sadd x_09 r1 g2) ?_
 refine Sz hT 1 [2] ⟨[(2,vw (x_09 ++ r1))],[],0⟩ ?_
 obtain rfl:=Option.some.inj h
 exact rK [2] [] ⟨[(2,vw (x_09 ++ r1))],[],1⟩ ⟨by kernel_rfl,rfl⟩
theorem ref1_tabs_all (n : Nat) : ref1_tabs_spec n:=by
 induction n using Nat.strongRecOn with
 | _ n ih=>exact ref1_tabs_step n ih
theorem ref1_tabs_ok {n : Nat} {a0 : Int} {r : ByteArray} (h : ref1_tabs n a0 = some r) : PT Try.prog 54 [vi a0] (vw r):=(ref1_tabs_all n) h
theorem ref1_level_ok {n : Nat} {a0 : Int} {r : Int} (h : ref1_level n a0 = some r) : PT Try.prog 77 [vi a0] (vi r):=by
 unfold ref1_level at h
 refine PT_bodyA hT Try.func77 rfl (by kernel_rfl) fun bad w=>?_
 refine Qz hT 1 [0] ⟨[(0,vi a0)],[],0⟩ ?_
 refine WA_seq ?_
 refine Qz hT 1 [3] ⟨[(3,vi a0)],[],0⟩ ?_
 refine WA_block ?_
 refine WA_seq ?_
 refine Qz hT 2 [3,4] ⟨[(3,vi a0),(4,vb (a0 == 9))],[],0⟩ ?_
 obtain ⟨J2,hJ2,h⟩:=jsome h
 refine WA_join (fun s=>∃ (b1 : Bool),J2 b1 = some r ∧ s = ⟨[(3,vi a0),(4,vb b1)],[],1⟩) ?_ ?_
 ·refine Ci h (fun h=>?_) fun h=>?_
  ·exact sK [3,4] [] ⟨(a0 == 9),h,rfl⟩
  refine Rg hT 2 [3,4] ⟨[(3,vi a0),(4,vb (a0 == 10))],[],0⟩ ?_
  exact oK [3,4] [] ⟨(a0 == 10),h,rfl⟩
 subst hJ2
 rintro s ⟨b1,h,rfl⟩
 refine Ci h (fun h=>?_) fun h=>?_
 ·refine Qz hT 1 [2] ⟨[(2,vi 1)],[],1⟩ ?_
  obtain rfl:=Option.some.inj h
  exact rK [2] [] ⟨[(2,vi 1)],[],1⟩ ⟨by kernel_rfl,rfl⟩
 refine WA_seq ?_
 refine Qz hT 2 [3,7] ⟨[(3,vi a0),(7,vb (a0 == 4))],[],1⟩ ?_
 obtain ⟨J4,hJ4,h⟩:=jsome h
 refine WA_join (fun s=>∃ (b3 : Bool),J4 b3 = some r ∧ s = ⟨[(3,vi a0),(7,vb b3)],[],1⟩) ?_ ?_
 ·refine Ci h (fun h=>?_) fun h=>?_
  ·exact sK [3,7] [] ⟨(a0 == 4),h,rfl⟩
  refine Rg hT 2 [3,7] ⟨[(3,vi a0),(7,vb (a0 == 5))],[],1⟩ ?_
  exact oK [3,7] [] ⟨(a0 == 5),h,rfl⟩
 subst hJ4
 rintro s ⟨b3,h,rfl⟩
 refine Ci h (fun h=>?_) fun h=>?_
 ·refine Qz hT 1 [2] ⟨[(2,vi 2)],[],1⟩ ?_
  obtain rfl:=Option.some.inj h
  exact rK [2] [] ⟨[(2,vi 2)],[],1⟩ ⟨by kernel_rfl,rfl⟩
 refine WA_seq ?_
 refine Qz hT 2 [3,10] ⟨[(3,vi a0),(10,vb (a0 == 6))],[],1⟩ ?_
 obtain ⟨J6,hJ6,h⟩:=jsome h
 refine WA_join (fun s=>∃ (b5 : Bool),J6 b5 = some r ∧ s = ⟨[(3,vi a0),(10,vb b5)],[],1⟩) ?_ ?_
 ·refine Ci h (fun h=>?_) fun h=>?_
  ·exact sK [3,10] [] ⟨(a0 == 6),h,rfl⟩
  refine Qz hT 2 [3,10] ⟨[(3,vi a0),(10,vb (a0 == 7))],[],1⟩ ?_
  refine Ci h (fun h=>?_) fun h=>?_
  ·exact sK [3,10] [] ⟨(a0 == 7),h,rfl⟩
  refine Rg hT 2 [3,10] ⟨[(3,vi a0),(10,vb (a0 == 8))],[],1⟩ ?_
  exact oK [3,10] [] ⟨(a0 == 8),h,rfl⟩
 subst hJ6
 rintro s ⟨b5,h,rfl⟩
 refine Ci h (fun h=>?_) fun h=>?_
 ·refine Qz hT 1 [2] ⟨[(2,vi 3)],[],1⟩ ?_
  obtain rfl:=Option.some.inj h
  exact rK [2] [] ⟨[(2,vi 3)],[],1⟩ ⟨by kernel_rfl,rfl⟩
 refine Qz hT 2 [3,14] ⟨[(3,vi a0),(14,vb (a0 == 3))],[],1⟩ ?_
 refine Ci h (fun h=>?_) fun h=>?_
 ·refine Qz hT 1 [2] ⟨[(2,vi 4)],[],1⟩ ?_
  obtain rfl:=Option.some.inj h
  exact rK [2] [] ⟨[(2,vi 4)],[],1⟩ ⟨by kernel_rfl,rfl⟩
 refine WA_seq ?_
 refine Qz hT 2 [3,16] ⟨[(3,vi a0),(16,vb (a0 == 1))],[],1⟩ ?_
 obtain ⟨J8,hJ8,h⟩:=jsome h
 refine WA_join (fun s=>∃ (b7 : Bool),J8 b7 = some r ∧ s = ⟨[(16,vb b7)],[],1⟩) ?_ ?_
 ·refine Ci h (fun h=>?_) fun h=>?_
  ·exact sK [16] [] ⟨(a0 == 1),h,rfl⟩
  refine Rg hT 2 [16] ⟨[(16,vb (a0 == 2))],[],1⟩ ?_
  exact oK [16] [] ⟨(a0 == 2),h,rfl⟩
 subst hJ8
 rintro s ⟨b7,h,rfl⟩
 refine Ci h (fun h=>?_) fun h=>?_
 ·refine Qz hT 1 [2] ⟨[(2,vi 5)],[],1⟩ ?_
  obtain rfl:=Option.some.inj h
  exact rK [2] [] ⟨[(2,vi 5)],[],1⟩ ⟨by kernel_rfl,rfl⟩
 refine WA_skip ?_
 refine Qz hT 1 [2] ⟨[(2,vi 0)],[],1⟩ ?_
 obtain rfl:=Option.some.inj h
 exact rK [2] [] ⟨[(2,vi 0)],[],1⟩ ⟨by kernel_rfl,rfl⟩
theorem ref1_sign_ok {n : Nat} {a0 : Int} {r : ByteArray} (h : ref1_sign n a0 = some r) : PT Try.prog 79 [vi a0] (vw r):=by
 unfold ref1_sign at h
 refine PT_bodyA hT Try.func79 rfl (by kernel_rfl) fun bad w=>?_
 refine Qz hT 1 [0] ⟨[(0,vi a0)],[],0⟩ ?_
 refine WA_seq ?_
 refine Qz hT 1 [3] ⟨[(3,vi a0)],[],0⟩ ?_
 refine WA_block ?_
 refine Qz hT 2 [3,4] ⟨[(3,vi a0),(4,vb (a0 == 4))],[],0⟩ ?_
 refine Ci h (fun h=>?_) fun h=>?_
 ·refine Qz hT 1 [2] ⟨[(2,vw x_2b)],[],0⟩ ?_
  obtain rfl:=Option.some.inj h
  exact rK [2] [] ⟨[(2,vw x_2b)],[],1⟩ ⟨by kernel_rfl,rfl⟩
 refine Qz hT 2 [3,6] ⟨[(3,vi a0),(6,vb (a0 == 5))],[],0⟩ ?_
 refine Ci h (fun h=>?_) fun h=>?_
 ·refine Qz hT 1 [2] ⟨[(2,vw x_2d)],[],0⟩ ?_
  obtain rfl:=Option.some.inj h
  exact rK [2] [] ⟨[(2,vw x_2d)],[],1⟩ ⟨by kernel_rfl,rfl⟩
 refine Qz hT 2 [3,8] ⟨[(3,vi a0),(8,vb (a0 == 6))],[],0⟩ ?_
 refine Ci h (fun h=>?_) fun h=>?_
 ·refine Qz hT 1 [2] ⟨[(2,vw x_2a)],[],0⟩ ?_
  obtain rfl:=Option.some.inj h
  exact rK [2] [] ⟨[(2,vw x_2a)],[],1⟩ ⟨by kernel_rfl,rfl⟩
 refine Qz hT 2 [3,10] ⟨[(3,vi a0),(10,vb (a0 == 7))],[],0⟩ ?_
 refine Ci h (fun h=>?_) fun h=>?_
 ·refine Qz hT 1 [2] ⟨[(2,vw x_2f)],[],0⟩ ?_
  obtain rfl:=Option.some.inj h
  exact rK [2] [] ⟨[(2,vw x_2f)],[],1⟩ ⟨by kernel_rfl,rfl⟩
 refine Qz hT 2 [3,12] ⟨[(3,vi a0),(12,vb (a0 == 8))],[],0⟩ ?_
 refine Ci h (fun h=>?_) fun h=>?_
 ·refine Qz hT 1 [2] ⟨[(2,vw x_25)],[],0⟩ ?_
  obtain rfl:=Option.some.inj h
  exact rK [2] [] ⟨[(2,vw x_25)],[],1⟩ ⟨by kernel_rfl,rfl⟩
 refine Qz hT 2 [14] ⟨[(14,vb (a0 == 9))],[],0⟩ ?_
 refine Ci h (fun h=>?_) fun h=>?_
 ·refine Qz hT 1 [2] ⟨[(2,vw x_3c)],[],0⟩ ?_
  obtain rfl:=Option.some.inj h
  exact rK [2] [] ⟨[(2,vw x_3c)],[],1⟩ ⟨by kernel_rfl,rfl⟩
 refine WA_skip ?_
 refine Qz hT 1 [2] ⟨[(2,vw x_3d3d)],[],0⟩ ?_
 obtain rfl:=Option.some.inj h
 exact rK [2] [] ⟨[(2,vw x_3d3d)],[],1⟩ ⟨by kernel_rfl,rfl⟩
def ref1_side_spec (n : Nat) : Prop:=(∀ {a0 : Expr} {a1 : Int} {r : ByteArray},ref1_side n a0 a1 = some r → PT Try.prog 78 [eExpr a0,vi a1] (vw r)) ∧ (∀ {a0 : Expr} {r : ByteArray},ref1_show n a0 = some r → PT Try.prog 55 [eExpr a0] (vw r))
theorem ref1_side_step (n : Nat) (ih : ∀ m,m < n → ref1_side_spec m) : ∀ {a0 : Expr} {a1 : Int} {r : ByteArray},ref1_side n a0 a1 = some r → PT Try.prog 78 [eExpr a0,vi a1] (vw r):=by
 intro a0 a1 r h
 rcases n with _ | n
 ·rw [ref1_side] at h; cases h
 rw [ref1_side] at h
 refine PT_bodyA hT Try.func78 rfl (by kernel_rfl) fun bad w=>?_
 refine Qz hT 2 [1,2] ⟨[(1,vi a1),(2,bx 2 0)],[(2,cb 0 93 4 (eExpr a0))],1⟩ ?_
 refine WA_seq ?_
 refine Qgd hT 2 [1,2,6] [(6,vi a0.Kind)] ?_
 obtain ⟨r1,hr1,h⟩:=bsome h
 refine Pt' en77 (ref1_level_ok hr1) ?_
 refine Szd hT 2 [2,9] [(9,vb (decide (r1 < a1)))] ?_
 refine Ci h (fun h=>?_) fun h=>?_
 ·refine Qgd hT 1 [10] [(10,eExpr a0)] ?_
  obtain ⟨r2,hr2,h⟩:=bsome h
  refine Pt' en55 ((ih _ (by omega)).2 hr2) ?_
  refine Sgd hT 0 [11] [(11,vw r2)] ?_
  obtain ⟨g3,h⟩:=gsome h
  refine One' hT rfl (v_sadd x_28 r2 g3) ?_
  refine Sgd hT 0 [12] [(12,vw (x_28 ++ r2))] ?_
  obtain ⟨g4,h⟩:=gsome h
  refine One' hT rfl (v_sadd (x_28 ++ r2) x_29 g4) ?_
  refine Szd hT 1 [4] [(4,vw ((x_28 ++ r2) ++ x_29))] ?_
  obtain rfl:=Option.some.inj h
  exact rK [4] [] ⟨[(4,vw ((x_28 ++ r2) ++ x_29))],[],1⟩ ⟨by kernel_rfl,rfl⟩
 refine WA_skip ?_
 refine Qgd hT 1 [14] [(14,eExpr a0)] ?_
 obtain ⟨r5,hr5,h⟩:=bsome h
 refine Pt' en55 ((ih _ (by omega)).2 hr5) ?_
 refine Szd hT 1 [4] [(4,vw r5)] ?_
 obtain rfl:=Option.some.inj h
 exact rK [4] [] ⟨[(4,vw r5)],[],1⟩ ⟨by kernel_rfl,rfl⟩
theorem ref1_show_step (n : Nat) (ih : ∀ m,m < n → ref1_side_spec m) : ∀ {a0 : Expr} {r : ByteArray},ref1_show n a0 = some r → PT Try.prog 55 [eExpr a0] (vw r):=by
 intro a0 r h
 rcases n with _ | n
 ·rw [ref1_show] at h; cases h
 rw [ref1_show] at h
 refine PT_bodyA hT Try.func55 rfl (by kernel_rfl) fun bad w=>?_
 refine Qz hT 2 [1] ⟨[(1,bx 1 0)],[(1,cb 0 93 4 (eExpr a0))],1⟩ ?_
 refine Qgd hT 2 [1,6] [(6,vi a0.Kind)] ?_
 obtain ⟨r1,hr1,h⟩:=bsome h
 refine Pt' en77 (ref1_level_ok hr1) ?_
 refine Szd hT 1 [1,3] [(3,vi r1)] ?_
 refine WA_seq ?_
 refine WA_block ?_
 refine WA_seq ?_
 obtain ⟨J3,hJ3,h⟩:=jsome h
 refine WA_join (fun s=>∃ (b2 : Bool),J3 b2 = some r ∧ s = ⟨[(1,bx 1 0),(3,vi r1),(8,vb b2)],[(1,cb 0 93 4 (eExpr a0))],1⟩) ?_ ?_
 ·refine Rgd hT 4 [1,3,12] [(12,vb (a0.Kind == 1))] ?_
  cases hb : ((a0.Kind == 1) : Bool)
  ·replace h:=cfalse hb h
   refine Sgd hT 5 [1,3,8] [(8,vb false)] ?_
   exact oK [1,3,8] [(1,1,0)] ⟨false,h,rfl⟩
  replace h:=ctrue hb h
  refine Sgd hT 5 [1,3,8] [(8,vb (decide (a0.N ≥ 0)))] ?_
  exact oK [1,3,8] [(1,1,0)] ⟨decide (a0.N ≥ 0),h,rfl⟩
 subst hJ3
 rintro s ⟨b2,h,rfl⟩
 refine Ci h (fun h=>?_) fun h=>?_
 ·refine Qg hT 2 [18] ⟨[(18,vi a0.N)],[(1,cb 0 93 4 (eExpr a0))],1⟩ ?_
  obtain ⟨r4,hr4,h⟩:=bsome h
  refine Pt' en31 (ref1_Digits_ok hr4) ?_
  refine Szd hT 1 [2] [(2,vw r4)] ?_
  obtain rfl:=Option.some.inj h
  exact rK [2] [] ⟨[(2,vw r4)],[],1⟩ ⟨by kernel_rfl,rfl⟩
 refine Qzd hT 4 [1,3,20] [(20,vb (a0.Kind == 2))] ?_
 refine Ci h (fun h=>?_) fun h=>?_
 ·refine Qzd hT 3 [2] [(2,vw a0.Name)] ?_
  obtain rfl:=Option.some.inj h
  exact rK [2] [] ⟨[(2,vw a0.Name)],[],1⟩ ⟨by kernel_rfl,rfl⟩
 refine WA_seq ?_
 obtain ⟨J6,hJ6,h⟩:=jsome h
 refine WA_join (fun s=>∃ (b5 : Bool),J6 b5 = some r ∧ s = ⟨[(1,bx 1 0),(3,vi r1),(26,vb b5)],[(1,cb 0 93 4 (eExpr a0))],1⟩) ?_ ?_
 ·refine Rgd hT 4 [1,3,30] [(30,vb (a0.Kind == 3))] ?_
  cases hb : ((a0.Kind == 3) : Bool)
  ·replace h:=cfalse hb h
   refine Sg hT 6 [1,3,26] ⟨[(1,bx 1 0),(3,vi r1),(26,vb false)],[(1,cb 0 93 4 (eExpr a0))],1⟩ ?_
   exact oK [1,3,26] [(1,1,0)] ⟨false,h,rfl⟩
  replace h:=ctrue hb h
  refine Sgd hT 2 [1,3,30,32] [(32,po s_Expr a0.Of)] ?_
  refine One' hT rfl (v_len s_Expr .opt a0.Of) ?_
  refine Sgd hT 3 [1,3,26] [(26,vb ((ln a0.Of) == 1))] ?_
  exact oK [1,3,26] [(1,1,0)] ⟨((ln a0.Of) == 1),h,rfl⟩
 subst hJ6
 rintro s ⟨b5,h,rfl⟩
 refine Ci h (fun h=>?_) fun h=>?_
 ·refine Qgd hT 2 [37] [(37,po s_Expr a0.Of)] ?_
  obtain ⟨x7,hx7,h⟩:=bsome h
  refine One' hT rfl (v_index s_Expr .opt a0.Of .i64 0 hx7) ?_
  refine Sgd hT 1 [39] [(39,eExpr x7)] ?_
  obtain ⟨r8,hr8,h⟩:=bsome h
  refine Pt' en78 ((ih _ (by omega)).1 hr8) ?_
  refine Sgd hT 0 [40] [(40,vw r8)] ?_
  obtain ⟨g9,h⟩:=gsome h
  refine One' hT rfl (v_sadd x_2d r8 g9) ?_
  refine Szd hT 1 [2] [(2,vw (x_2d ++ r8))] ?_
  obtain rfl:=Option.some.inj h
  exact rK [2] [] ⟨[(2,vw (x_2d ++ r8))],[],1⟩ ⟨by kernel_rfl,rfl⟩
 refine WA_seq ?_
 obtain ⟨J11,hJ11,h⟩:=jsome h
 refine WA_join (fun s=>∃ (b10 : Bool),J11 b10 = some r ∧ s = ⟨[(1,bx 1 0),(3,vi r1),(42,vb b10)],[(1,cb 0 93 4 (eExpr a0))],1⟩) ?_ ?_
 ·refine Rgd hT 3 [1,3,45] [(45,vb (decide (r1 ≥ 1)))] ?_
  cases hb : (decide (r1 ≥ 1) : Bool)
  ·replace h:=cfalse hb h
   refine Sgd hT 10 [1,3,42] [(42,vb false)] ?_
   exact oK [1,3,42] [(1,1,0)] ⟨false,h,rfl⟩
  replace h:=ctrue hb h
  refine Sgd hT 4 [1,3,49] [(49,vb (decide (r1 ≤ 3)))] ?_
  cases hb : (decide (r1 ≤ 3) : Bool)
  ·replace h:=cfalse hb h
   refine Sgd hT 6 [1,3,42] [(42,vb false)] ?_
   exact oK [1,3,42] [(1,1,0)] ⟨false,h,rfl⟩
  replace h:=ctrue hb h
  refine Sgd hT 2 [1,3,49,51] [(51,po s_Expr a0.Of)] ?_
  refine One' hT rfl (v_len s_Expr .opt a0.Of) ?_
  refine Sg hT 3 [1,3,42] ⟨[(1,bx 1 0),(3,vi r1),(42,vb ((ln a0.Of) == 2))],[(1,cb 0 93 4 (eExpr a0))],1⟩ ?_
  exact oK [1,3,42] [(1,1,0)] ⟨((ln a0.Of) == 2),h,rfl⟩
 subst hJ11
 rintro s ⟨b10,h,rfl⟩
 refine Ci h (fun h=>?_) fun h=>?_
 ·refine Qzd hT 2 [1,3,4] [(4,vi r1)] ?_
  refine WA_seq ?_
  refine Qzd hT 2 [1,3,4,57] [(57,vb (r1 == 1))] ?_
  obtain ⟨J13,hJ13,h⟩:=jsome h
  refine WA_join (fun s=>∃ (i12 : Int),J13 i12 = some r ∧ s = ⟨[(1,bx 1 0),(3,vi r1),(4,vi i12)],[(1,cb 0 93 4 (eExpr a0))],1⟩) ?_ ?_
  ·refine Ci h (fun h=>?_) fun h=>?_
   ·refine Rgd hT 1 [1,3,4] [(4,vi 2)] ?_
    exact oK [1,3,4] [(1,1,0)] ⟨2,h,rfl⟩
   exact sK [1,3,4] [(1,1,0)] ⟨r1,h,rfl⟩
  subst hJ13
  rintro s ⟨i12,h,rfl⟩
  skip
  refine WA_seq ?_
  refine WA_drawW hT hM (by kernel_rfl) ?_
  refine Ds 2 [(59,po s_Expr a0.Of),(58,.box 1 0 0 3)] [] [(0,[1]),(1,[1])] ?_
  obtain ⟨x14,hx14,h⟩:=bsome h
  refine Dl rfl (v_index s_Expr .opt a0.Of .i64 0 hx14) ?_
  refine Dt (.ref (eExpr x14) 0) ?_
  refine Ds 2 [(62,vi i12),(61,eExpr x14)] [] [] ?_
  obtain ⟨r15,hr15,h⟩:=bsome h
  refine Dp [eExpr x14,vi i12] (vw r15) en78 ((ih _ (by omega)).1 hr15) ?_
  obtain ⟨g16,h⟩:=gsome h
  refine Dl rfl (v_sadd r15 x_20 g16) ?_
  refine Dt (vw (r15 ++ x_20)) ?_
  refine Ds 2 [(66,vi a0.Kind),(65,bx 1 0)] [] [(7,[1]),(8,[1])] ?_
  obtain ⟨r17,hr17,h⟩:=bsome h
  refine Dp [vi a0.Kind] (vw r17) en79 (ref1_sign_ok hr17) ?_
  obtain ⟨g18,h⟩:=gsome h
  refine Dl rfl (v_sadd (r15 ++ x_20) r17 g18) ?_
  refine Dt (vw ((r15 ++ x_20) ++ r17)) ?_
  obtain ⟨g19,h⟩:=gsome h
  refine Dl rfl (v_sadd ((r15 ++ x_20) ++ r17) x_20 g19) ?_
  refine Dt (vw (((r15 ++ x_20) ++ r17) ++ x_20)) ?_
  refine Ds 2 [(71,po s_Expr a0.Of),(70,.box 1 0 0 3)] [] [(12,[1]),(13,[1])] ?_
  obtain ⟨x20,hx20,h⟩:=bsome h
  refine Dl rfl (v_index s_Expr .opt a0.Of .i64 1 hx20) ?_
  refine Dt (.ref (eExpr x20) 0) ?_
  refine Ds 3 [(75,vi (wr (r1 + 1))),(74,vi r1),(73,eExpr x20)] [] [] ?_
  obtain ⟨r21,hr21,h⟩:=bsome h
  refine Dp [eExpr x20,vi (wr (r1 + 1))] (vw r21) en78 ((ih _ (by omega)).1 hr21) ?_
  obtain ⟨g22,h⟩:=gsome h
  refine Dl rfl (v_sadd (((r15 ++ x_20) ++ r17) ++ x_20) r21 g22) ?_
  refine Dt (vw ((((r15 ++ x_20) ++ r17) ++ x_20) ++ r21)) ?_
  refine Ds 1 [(2,vw ((((r15 ++ x_20) ++ r17) ++ x_20) ++ r21))] [] [] ?_
  refine De ?_
  refine Wk_done ?_
  obtain rfl:=Option.some.inj h
  exact rK [2] [] ⟨[(2,vw ((((r15 ++ x_20) ++ r17) ++ x_20) ++ r21))],[],1⟩ ⟨by kernel_rfl,rfl⟩
 refine WA_skip ?_
 refine Qzd hT 1 [2] [(2,vw x_3f)] ?_
 obtain rfl:=Option.some.inj h
 exact rK [2] [] ⟨[(2,vw x_3f)],[],1⟩ ⟨by kernel_rfl,rfl⟩
theorem ref1_side_all (n : Nat) : ref1_side_spec n:=by
 induction n using Nat.strongRecOn with
 | _ n ih=>exact ⟨ref1_side_step n ih,ref1_show_step n ih⟩
theorem ref1_show_ok {n : Nat} {a0 : Expr} {r : ByteArray} (h : ref1_show n a0 = some r) : PT Try.prog 55 [eExpr a0] (vw r):=(ref1_side_all n).2 h
def ref1_lines_spec (n : Nat) : Prop:=(∀ {a0 : List Stmt} {a1 : Int} {r : ByteArray},ref1_lines n a0 a1 = some r → PT Try.prog 32 [po s_Stmt a0,vi a1] (vw r))
theorem ref1_lines_step (n : Nat) (ih : ∀ m,m < n → ref1_lines_spec m) : ∀ {a0 : List Stmt} {a1 : Int} {r : ByteArray},ref1_lines n a0 a1 = some r → PT Try.prog 32 [po s_Stmt a0,vi a1] (vw r):=by
 intro a0 a1 r h
 rcases n with _ | n
 ·rw [ref1_lines] at h; cases h
 rw [ref1_lines] at h
 refine PT_bodyA hT Try.func32 rfl (by kernel_rfl) fun bad w=>?_
 refine Qzd hT 1 [0,1] [] ?_
 refine Qzd hT 1 [0,1,5] [(5,vw b0)] ?_
 refine Qgd hT 1 [0,1,5,10] [(10,vi a1)] ?_
 obtain ⟨r1,hr1,h⟩:=bsome h
 refine Pt' en54 (ref1_tabs_ok hr1) ?_
 refine Szd hT 1 [0,1,5,6] [(6,vw r1)] ?_
 refine WA_seq ?_
 refine Qzd hT 1 [0,1,5,6,7] [(7,vi 0)] ?_
 refine WA_block ?_
 refine lK [0,1,5,6,7] [] (fun k s=>∃ q,q ≤ k ∧ q ≤ n ∧ ∃ (w3 : ByteArray),∃ (i4 : Int),ref1_lines_L0 q a0 a1 r1 w3 i4 = some r ∧ s = ⟨[(0,po s_Stmt a0),(1,vi a1),(5,vw w3),(6,vw r1),(7,vi i4)],[],1⟩) n ⟨n,Nat.le_refl _,Nat.le_refl _,b0,0,h,rfl⟩ (by rintro s ⟨q,hq,_,w3,i4,h,_⟩; obtain rfl:=Nat.le_zero.1 hq; rw [ref1_lines_L0] at h; cases h) ?_
 clear h
 rintro k1 s ⟨q1,hk1,hn1,w3,i4,h,rfl⟩
 rcases q1 with _ | q1
 ·rw [ref1_lines_L0] at h; cases h
 rw [ref1_lines_L0] at h
 refine WA_seq ?_
 refine Qgd hT 2 [0,1,5,6,7,12,13] [(12,vi i4),(13,po s_Stmt a0)] ?_
 refine One' hT rfl (v_len s_Stmt .opt a0) ?_
 refine Szd hT 1 [0,1,5,6,7,15] [(15,vb (decide (i4 < (ln a0))))] ?_
 refine Ci h (fun h=>?_) fun h=>?_
 ·refine WA_skip ?_
  refine WA_seq ?_
  refine WA_block ?_
  refine Qgd hT 2 [0,1,5,6,7,18,19] [(18,po s_Stmt a0),(19,vi i4)] ?_
  obtain ⟨x5,hx5,h⟩:=bsome h
  refine One' hT rfl (v_index s_Stmt .opt a0 .i64 i4 hx5) ?_
  refine Szh hT 3 [0,1,5,6,7,8] [(8,bx 8 1)] [(8,cb 1 95 11 (eStmt x5))] 2 ?_
  refine Qzd hT 1 [0,1,5,6,7,8,9] [(9,vw x_3f)] ?_
  refine WA_seq ?_
  refine Qzd hT 2 [0,1,5,6,7,8,9,23] [(23,vi x5.Kind)] ?_
  obtain ⟨J7,hJ7,h⟩:=jsome h
  refine WA_join (fun s=>∃ (w6 : ByteArray),J7 w6 = some r ∧ s = ⟨[(0,po s_Stmt a0),(1,vi a1),(5,vw w3),(6,vw r1),(7,vi i4),(9,vw w6)],[],1⟩) ?_ ?_
  ·refine WA_block ?_
   refine Qzd hT 2 [0,1,5,6,7,8,9,23,24] [(24,vb (x5.Kind == 1))] ?_
   refine Ci h (fun h=>?_) fun h=>?_
   ·refine WA_drawW hT hM (by kernel_rfl) ?_
    refine Ds 2 [(27,vw x5.Name),(26,.box 8 1 0 1)] [] [(0,[8]),(1,[8])] ?_
    obtain ⟨g8,h⟩:=gsome h
    refine Dl rfl (v_sadd x5.Name x_203d20 g8) ?_
    refine Dt (vw (x5.Name ++ x_203d20)) ?_
    refine Ds 2 [(30,eExpr x5.E),(29,.box 8 1 0 4)] [] [(3,[8]),(4,[8])] ?_
    obtain ⟨r9,hr9,h⟩:=bsome h
    refine Dp [eExpr x5.E] (vw r9) en55 (ref1_show_ok hr9) ?_
    obtain ⟨g10,h⟩:=gsome h
    refine Dl rfl (v_sadd (x5.Name ++ x_203d20) r9 g10) ?_
    refine Dt (vw ((x5.Name ++ x_203d20) ++ r9)) ?_
    refine Ds 1 [(9,vw ((x5.Name ++ x_203d20) ++ r9))] [] [] ?_
    refine De ?_
    exact wK [0,1,5,6,7,9] [] ⟨(x5.Name ++ x_203d20) ++ r9,h,rfl⟩
   refine Qzd hT 2 [0,1,5,6,7,8,9,23,33] [(33,vb (x5.Kind == 2))] ?_
   refine Ci h (fun h=>?_) fun h=>?_
   ·refine Rgd hT 2 [0,1,5,6,7,36] [(36,vw x5.Name)] ?_
    obtain ⟨g11,h⟩:=gsome h
    refine One' hT rfl (v_sadd x_6c6f636b20 x5.Name g11) ?_
    refine Sg hT 1 [0,1,5,6,7,9] ⟨[(0,po s_Stmt a0),(1,vi a1),(5,vw w3),(6,vw r1),(7,vi i4),(9,vw (x_6c6f636b20 ++ x5.Name))],[(8,cb 1 95 11 (eStmt x5))],2⟩ ?_
    exact oK [0,1,5,6,7,9] [] ⟨x_6c6f636b20 ++ x5.Name,h,rfl⟩
   refine Qzd hT 2 [0,1,5,6,7,8,9,23,38] [(38,vb (x5.Kind == 3))] ?_
   refine Ci h (fun h=>?_) fun h=>?_
   ·refine Rgd hT 2 [0,1,5,6,7,41] [(41,vw x5.Name)] ?_
    obtain ⟨g12,h⟩:=gsome h
    refine One' hT rfl (v_sadd x_756e6c6f636b20 x5.Name g12) ?_
    refine Sgd hT 1 [0,1,5,6,7,9] [(9,vw (x_756e6c6f636b20 ++ x5.Name))] ?_
    exact oK [0,1,5,6,7,9] [] ⟨x_756e6c6f636b20 ++ x5.Name,h,rfl⟩
   refine Qzd hT 2 [0,1,5,6,7,8,9,23,43] [(43,vb (x5.Kind == 4))] ?_
   refine Ci h (fun h=>?_) fun h=>?_
   ·refine WA_drawW hT hM (by kernel_rfl) ?_
    refine Ds 2 [(46,vw x5.Name),(45,.box 8 1 0 1)] [] [(0,[8]),(1,[8])] ?_
    obtain ⟨g13,h⟩:=gsome h
    refine Dl rfl (v_sadd x_73656e6420 x5.Name g13) ?_
    refine Dt (vw (x_73656e6420 ++ x5.Name)) ?_
    obtain ⟨g14,h⟩:=gsome h
    refine Dl rfl (v_sadd (x_73656e6420 ++ x5.Name) x_20 g14) ?_
    refine Dt (vw ((x_73656e6420 ++ x5.Name) ++ x_20)) ?_
    refine Ds 2 [(50,eExpr x5.E),(49,.box 8 1 0 4)] [] [(4,[8]),(5,[8])] ?_
    obtain ⟨r15,hr15,h⟩:=bsome h
    refine Dp [eExpr x5.E] (vw r15) en55 (ref1_show_ok hr15) ?_
    obtain ⟨g16,h⟩:=gsome h
    refine Dl rfl (v_sadd ((x_73656e6420 ++ x5.Name) ++ x_20) r15 g16) ?_
    refine Dt (vw (((x_73656e6420 ++ x5.Name) ++ x_20) ++ r15)) ?_
    refine Ds 1 [(9,vw (((x_73656e6420 ++ x5.Name) ++ x_20) ++ r15))] [] [] ?_
    refine De ?_
    exact wK [0,1,5,6,7,9] [] ⟨((x_73656e6420 ++ x5.Name) ++ x_20) ++ r15,h,rfl⟩
   refine Qzd hT 2 [0,1,5,6,7,8,9,23,53] [(53,vb (x5.Kind == 5))] ?_
   refine Ci h (fun h=>?_) fun h=>?_
   ·refine Rgd hT 2 [0,1,5,6,7,8,56] [(56,vw x5.Name)] ?_
    obtain ⟨g17,h⟩:=gsome h
    refine One' hT rfl (v_sadd x_7265637620 x5.Name g17) ?_
    refine Sgd hT 0 [0,1,5,6,7,8,57] [(57,vw (x_7265637620 ++ x5.Name))] ?_
    obtain ⟨g18,h⟩:=gsome h
    refine One' hT rfl (v_sadd (x_7265637620 ++ x5.Name) x_20 g18) ?_
    refine Sgd hT 2 [0,1,5,6,7,58,60] [(58,vw ((x_7265637620 ++ x5.Name) ++ x_20)),(60,vw x5.Other)] ?_
    obtain ⟨g19,h⟩:=gsome h
    refine One' hT rfl (v_sadd ((x_7265637620 ++ x5.Name) ++ x_20) x5.Other g19) ?_
    refine Sg hT 1 [0,1,5,6,7,9] ⟨[(0,po s_Stmt a0),(1,vi a1),(5,vw w3),(6,vw r1),(7,vi i4),(9,vw (((x_7265637620 ++ x5.Name) ++ x_20) ++ x5.Other))],[(8,cb 1 95 11 (eStmt x5))],2⟩ ?_
    exact oK [0,1,5,6,7,9] [] ⟨((x_7265637620 ++ x5.Name) ++ x_20) ++ x5.Other,h,rfl⟩
   refine Qzd hT 2 [0,1,5,6,7,8,9,23,62] [(62,vb (x5.Kind == 6))] ?_
   refine Ci h (fun h=>?_) fun h=>?_
   ·refine Rgd hT 2 [0,1,5,6,7,65] [(65,eExpr x5.E)] ?_
    obtain ⟨r20,hr20,h⟩:=bsome h
    refine Pt' en55 (ref1_show_ok hr20) ?_
    refine Sgd hT 0 [0,1,5,6,7,66] [(66,vw r20)] ?_
    obtain ⟨g21,h⟩:=gsome h
    refine One' hT rfl (v_sadd x_7072696e7420 r20 g21) ?_
    refine Sgd hT 1 [0,1,5,6,7,9] [(9,vw (x_7072696e7420 ++ r20))] ?_
    exact oK [0,1,5,6,7,9] [] ⟨x_7072696e7420 ++ r20,h,rfl⟩
   refine Qzd hT 2 [0,1,5,6,7,8,9,23,68] [(68,vb (x5.Kind == 9))] ?_
   refine Ci h (fun h=>?_) fun h=>?_
   ·refine Rgd hT 2 [0,1,5,6,7,71] [(71,vw x5.Name)] ?_
    obtain ⟨g22,h⟩:=gsome h
    refine One' hT rfl (v_sadd x_676f746f20 x5.Name g22) ?_
    refine Sgd hT 1 [0,1,5,6,7,9] [(9,vw (x_676f746f20 ++ x5.Name))] ?_
    exact oK [0,1,5,6,7,9] [] ⟨x_676f746f20 ++ x5.Name,h,rfl⟩
   refine Qzd hT 2 [0,1,5,6,7,8,9,23,73] [(73,vb (x5.Kind == 10))] ?_
   refine Ci h (fun h=>?_) fun h=>?_
   ·refine Rg hT 2 [0,1,5,6,7,76] ⟨[(0,po s_Stmt a0),(1,vi a1),(5,vw w3),(6,vw r1),(7,vi i4),(76,vw x5.Name)],[(8,cb 1 95 11 (eStmt x5))],2⟩ ?_
    obtain ⟨g23,h⟩:=gsome h
    refine One' hT rfl (v_sadd x_6c6162656c20 x5.Name g23) ?_
    refine Sgd hT 1 [0,1,5,6,7,9] [(9,vw (x_6c6162656c20 ++ x5.Name))] ?_
    exact oK [0,1,5,6,7,9] [] ⟨x_6c6162656c20 ++ x5.Name,h,rfl⟩
   refine Qzd hT 2 [0,1,5,6,7,8,9,23,78] [(78,vb (x5.Kind == 7))] ?_
   refine Ci h (fun h=>?_) fun h=>?_
   ·refine WA_seq ?_
    refine WA_drawW hT hM (by kernel_rfl) ?_
    refine Ds 2 [(81,eExpr x5.E),(80,.box 8 1 0 4)] [] [(0,[8]),(1,[8])] ?_
    obtain ⟨r24,hr24,h⟩:=bsome h
    refine Dp [eExpr x5.E] (vw r24) en55 (ref1_show_ok hr24) ?_
    obtain ⟨g25,h⟩:=gsome h
    refine Dl rfl (v_sadd x_696620 r24 g25) ?_
    refine Dt (vw (x_696620 ++ r24)) ?_
    obtain ⟨g26,h⟩:=gsome h
    refine Dl rfl (v_sadd (x_696620 ++ r24) x_207b0a g26) ?_
    refine Dt (vw ((x_696620 ++ r24) ++ x_207b0a)) ?_
    refine Ds 4 [(88,vi (wr (a1 + 1))),(87,vi a1),(86,po s_Stmt x5.Body),(85,.box 8 1 0 8)] [] [(5,[8]),(6,[8])] ?_
    obtain ⟨r27,hr27,h⟩:=bsome h
    refine Dp [po s_Stmt x5.Body,vi (wr (a1 + 1))] (vw r27) en32 ((ih _ (by omega)) hr27) ?_
    obtain ⟨g28,h⟩:=gsome h
    refine Dl rfl (v_sadd ((x_696620 ++ r24) ++ x_207b0a) r27 g28) ?_
    refine Dt (vw (((x_696620 ++ r24) ++ x_207b0a) ++ r27)) ?_
    refine Ds 1 [(91,vw r1)] [] [] ?_
    obtain ⟨g29,h⟩:=gsome h
    refine Dl rfl (v_sadd (((x_696620 ++ r24) ++ x_207b0a) ++ r27) r1 g29) ?_
    refine Dt (vw ((((x_696620 ++ r24) ++ x_207b0a) ++ r27) ++ r1)) ?_
    obtain ⟨g30,h⟩:=gsome h
    refine Dl rfl (v_sadd ((((x_696620 ++ r24) ++ x_207b0a) ++ r27) ++ r1) x_7d g30) ?_
    refine Dt (vw (((((x_696620 ++ r24) ++ x_207b0a) ++ r27) ++ r1) ++ x_7d)) ?_
    refine Ds 1 [(9,vw (((((x_696620 ++ r24) ++ x_207b0a) ++ r27) ++ r1) ++ x_7d))] [] [] ?_
    refine De ?_
    refine Wk_done ?_
    refine Qgd hT 2 [0,1,5,6,7,8,9,95] [(95,po s_Stmt x5.Else)] ?_
    refine One' hT rfl (v_len s_Stmt .opt x5.Else) ?_
    refine Szd hT 1 [0,1,5,6,7,8,9,97] [(97,vb (decide ((ln x5.Else) > 0)))] ?_
    refine Ci h (fun h=>?_) fun h=>?_
    ·refine Rgd hT 1 [0,1,5,6,7,8,98] [(98,vw (((((x_696620 ++ r24) ++ x_207b0a) ++ r27) ++ r1) ++ x_7d))] ?_
     obtain ⟨g31,h⟩:=gsome h
     refine One' hT rfl (v_sadd (((((x_696620 ++ r24) ++ x_207b0a) ++ r27) ++ r1) ++ x_7d) x_20656c7365207b0a g31) ?_
     refine Sgd hT 4 [0,1,5,6,7,99,101,103] [(99,vw ((((((x_696620 ++ r24) ++ x_207b0a) ++ r27) ++ r1) ++ x_7d) ++ x_20656c7365207b0a)),(101,po s_Stmt x5.Else),(103,vi (wr (a1 + 1)))] ?_
     obtain ⟨r32,hr32,h⟩:=bsome h
     refine Pt' en32 ((ih _ (by omega)) hr32) ?_
     refine Sgd hT 0 [0,1,5,6,7,99,104] [(104,vw r32)] ?_
     obtain ⟨g33,h⟩:=gsome h
     refine One' hT rfl (v_sadd ((((((x_696620 ++ r24) ++ x_207b0a) ++ r27) ++ r1) ++ x_7d) ++ x_20656c7365207b0a) r32 g33) ?_
     refine Sgd hT 1 [0,1,5,6,7,105,106] [(105,vw (((((((x_696620 ++ r24) ++ x_207b0a) ++ r27) ++ r1) ++ x_7d) ++ x_20656c7365207b0a) ++ r32)),(106,vw r1)] ?_
     obtain ⟨g34,h⟩:=gsome h
     refine One' hT rfl (v_sadd (((((((x_696620 ++ r24) ++ x_207b0a) ++ r27) ++ r1) ++ x_7d) ++ x_20656c7365207b0a) ++ r32) r1 g34) ?_
     refine Sg hT 0 [0,1,5,6,7,107] ⟨[(0,po s_Stmt a0),(1,vi a1),(5,vw w3),(6,vw r1),(7,vi i4),(107,vw ((((((((x_696620 ++ r24) ++ x_207b0a) ++ r27) ++ r1) ++ x_7d) ++ x_20656c7365207b0a) ++ r32) ++ r1))],[(8,cb 1 95 11 (eStmt x5))],2⟩ ?_
     obtain ⟨g35,h⟩:=gsome h
     refine One' hT rfl (v_sadd ((((((((x_696620 ++ r24) ++ x_207b0a) ++ r27) ++ r1) ++ x_7d) ++ x_20656c7365207b0a) ++ r32) ++ r1) x_7d g35) ?_
     refine Sgd hT 1 [0,1,5,6,7,9] [(9,vw (((((((((x_696620 ++ r24) ++ x_207b0a) ++ r27) ++ r1) ++ x_7d) ++ x_20656c7365207b0a) ++ r32) ++ r1) ++ x_7d))] ?_
     exact oK [0,1,5,6,7,9] [] ⟨((((((((x_696620 ++ r24) ++ x_207b0a) ++ r27) ++ r1) ++ x_7d) ++ x_20656c7365207b0a) ++ r32) ++ r1) ++ x_7d,h,rfl⟩
    exact sK [0,1,5,6,7,9] [] ⟨((((x_696620 ++ r24) ++ x_207b0a) ++ r27) ++ r1) ++ x_7d,h,rfl⟩
   refine Qzd hT 2 [0,1,5,6,7,8,9,109] [(109,vb (x5.Kind == 8))] ?_
   refine Ci h (fun h=>?_) fun h=>?_
   ·refine Qzd hT 3 [0,1,5,6,7,8,9,113] [(113,vb (decide (x5.N ≥ 0)))] ?_
    refine Ci h (fun h=>?_) fun h=>?_
    ·refine WA_drawW hT hM (by kernel_rfl) ?_
     refine Ds 2 [(115,vi x5.N),(114,.box 8 1 0 3)] [] [(0,[8]),(1,[8])] ?_
     obtain ⟨r36,hr36,h⟩:=bsome h
     refine Dp [vi x5.N] (vw r36) en31 (ref1_Digits_ok hr36) ?_
     obtain ⟨g37,h⟩:=gsome h
     refine Dl rfl (v_sadd x_72657065617420 r36 g37) ?_
     refine Dt (vw (x_72657065617420 ++ r36)) ?_
     obtain ⟨g38,h⟩:=gsome h
     refine Dl rfl (v_sadd (x_72657065617420 ++ r36) x_207b0a g38) ?_
     refine Dt (vw ((x_72657065617420 ++ r36) ++ x_207b0a)) ?_
     refine Ds 4 [(122,vi (wr (a1 + 1))),(121,vi a1),(120,po s_Stmt x5.Body),(119,.box 8 1 0 8)] [] [(5,[8]),(6,[8])] ?_
     obtain ⟨r39,hr39,h⟩:=bsome h
     refine Dp [po s_Stmt x5.Body,vi (wr (a1 + 1))] (vw r39) en32 ((ih _ (by omega)) hr39) ?_
     obtain ⟨g40,h⟩:=gsome h
     refine Dl rfl (v_sadd ((x_72657065617420 ++ r36) ++ x_207b0a) r39 g40) ?_
     refine Dt (vw (((x_72657065617420 ++ r36) ++ x_207b0a) ++ r39)) ?_
     refine Ds 1 [(125,vw r1)] [] [] ?_
     obtain ⟨g41,h⟩:=gsome h
     refine Dl rfl (v_sadd (((x_72657065617420 ++ r36) ++ x_207b0a) ++ r39) r1 g41) ?_
     refine Dt (vw ((((x_72657065617420 ++ r36) ++ x_207b0a) ++ r39) ++ r1)) ?_
     obtain ⟨g42,h⟩:=gsome h
     refine Dl rfl (v_sadd ((((x_72657065617420 ++ r36) ++ x_207b0a) ++ r39) ++ r1) x_7d g42) ?_
     refine Dt (vw (((((x_72657065617420 ++ r36) ++ x_207b0a) ++ r39) ++ r1) ++ x_7d)) ?_
     refine Ds 1 [(9,vw (((((x_72657065617420 ++ r36) ++ x_207b0a) ++ r39) ++ r1) ++ x_7d))] [] [] ?_
     refine De ?_
     exact wK [0,1,5,6,7,9] [] ⟨((((x_72657065617420 ++ r36) ++ x_207b0a) ++ r39) ++ r1) ++ x_7d,h,rfl⟩
    exact sK [0,1,5,6,7,9] [] ⟨x_3f,h,rfl⟩
   exact sK [0,1,5,6,7,9] [] ⟨x_3f,h,rfl⟩
  subst hJ7
  rintro s ⟨w6,h,rfl⟩
  skip
  refine Rgd hT 2 [0,1,6,7,9,128,129] [(128,vw w3),(129,vw r1)] ?_
  obtain ⟨g43,h⟩:=gsome h
  refine One' hT rfl (v_sadd w3 r1 g43) ?_
  refine Sgd hT 1 [0,1,6,7,130,131] [(130,vw (w3 ++ r1)),(131,vw w6)] ?_
  obtain ⟨g44,h⟩:=gsome h
  refine One' hT rfl (v_sadd (w3 ++ r1) w6 g44) ?_
  refine Sgd hT 0 [0,1,6,7,132] [(132,vw ((w3 ++ r1) ++ w6))] ?_
  obtain ⟨g45,h⟩:=gsome h
  refine One' hT rfl (v_sadd ((w3 ++ r1) ++ w6) x_0a g45) ?_
  refine Szd hT 1 [0,1,5,6,7] [(5,vw (((w3 ++ r1) ++ w6) ++ x_0a))] ?_
  refine Rgd hT 3 [0,1,5,6,7] [(7,vi (wr (i4 + 1)))] ?_
  exact oK [0,1,5,6,7] [] ⟨_,by omega,by omega,((w3 ++ r1) ++ w6) ++ x_0a,wr (i4 + 1),h,rfl⟩
 refine WA_exit ?_
 refine Qz hT 2 [4] ⟨[(4,vw w3)],[],1⟩ ?_
 obtain rfl:=Option.some.inj h
 exact rK [4] [] ⟨[(4,vw w3)],[],1⟩ ⟨by kernel_rfl,rfl⟩
theorem ref1_lines_all (n : Nat) : ref1_lines_spec n:=by
 induction n using Nat.strongRecOn with
 | _ n ih=>exact ref1_lines_step n ih
theorem ref1_lines_ok {n : Nat} {a0 : List Stmt} {a1 : Int} {r : ByteArray} (h : ref1_lines n a0 a1 = some r) : PT Try.prog 32 [po s_Stmt a0,vi a1] (vw r):=(ref1_lines_all n) h
theorem ref1_Show_ok {n : Nat} {a0 : Prog} {r : ByteArray} (h : ref1_Show n a0 = some r) : PT Try.prog 11 [eProg a0] (vw r):=by
 unfold ref1_Show at h
 refine PT_bodyA hT Try.func11 rfl (by kernel_rfl) fun bad w=>?_
 refine Qz hT 2 [1] ⟨[(1,bx 1 0)],[(1,cb 0 26 2 (eProg a0))],1⟩ ?_
 refine Qzd hT 1 [1,3] [(3,vw b0)] ?_
 refine WA_seq ?_
 refine Qzd hT 1 [1,3,4] [(4,vi 0)] ?_
 refine WA_block ?_
 refine lK [1,3,4] [(1,1,0)] (fun k s=>∃ q,q ≤ k ∧ q ≤ n ∧ ∃ (w2 : ByteArray),∃ (i3 : Int),ref1_Show_L0 q a0 w2 i3 = some r ∧ s = ⟨[(1,bx 1 0),(3,vw w2),(4,vi i3)],[(1,cb 0 26 2 (eProg a0))],1⟩) n ⟨n,Nat.le_refl _,Nat.le_refl _,b0,0,h,rfl⟩ (by rintro s ⟨q,hq,_,w2,i3,h,_⟩; obtain rfl:=Nat.le_zero.1 hq; rw [ref1_Show_L0] at h; cases h) ?_
 clear h
 rintro k1 s ⟨q1,hk1,hn1,w2,i3,h,rfl⟩
 rcases q1 with _ | q1
 ·rw [ref1_Show_L0] at h; cases h
 rw [ref1_Show_L0] at h
 refine WA_seq ?_
 refine Qgd hT 3 [1,3,4,7,9] [(7,vi i3),(9,po s_Decl a0.Decls)] ?_
 refine One' hT rfl (v_len s_Decl .opt a0.Decls) ?_
 refine Szd hT 1 [1,3,4,11] [(11,vb (decide (i3 < (ln a0.Decls))))] ?_
 refine Ci h (fun h=>?_) fun h=>?_
 ·refine WA_skip ?_
  refine WA_seq ?_
  refine WA_block ?_
  refine Qgd hT 3 [1,3,4,15,16] [(15,po s_Decl a0.Decls),(16,vi i3)] ?_
  obtain ⟨x4,hx4,h⟩:=bsome h
  refine One' hT rfl (v_index s_Decl .opt a0.Decls .i64 i3 hx4) ?_
  refine Szh hT 3 [1,3,4,5] [(5,bx 5 1)] [(5,cb 1 71 4 (eDecl x4)),(1,cb 0 26 2 (eProg a0))] 2 ?_
  refine WA_seq ?_
  refine WA_seq ?_
  obtain ⟨J6,hJ6,h⟩:=jsome h
  refine WA_join (fun s=>∃ (b5 : Bool),J6 b5 = some r ∧ s = ⟨[(1,bx 1 0),(3,vw w2),(4,vi i3),(5,bx 5 0),(26,vb b5)],[(1,cb 0 26 2 (eProg a0)),(5,cb 0 71 4 (eDecl x4))],1⟩) ?_ ?_
  ·refine Rgd hT 4 [1,3,4,5,22] [(22,vb (decide (x4.Kind < 1)))] ?_
   cases hb : (decide (x4.Kind < 1) : Bool)
   ·replace h:=cfalse hb h
    refine Sgd hT 4 [1,3,4,5,26] [(26,vb (decide (x4.Kind > 6)))] ?_
    exact oK [1,3,4,5,26] [(1,1,0),(5,5,0)] ⟨decide (x4.Kind > 6),h,rfl⟩
   replace h:=ctrue hb h
   refine Sgd hT 4 [1,3,4,5,26] [(26,vb true)] ?_
   exact oK [1,3,4,5,26] [(1,1,0),(5,5,0)] ⟨true,h,rfl⟩
  subst hJ6
  rintro s ⟨b5,h,rfl⟩
  skip
  refine Ci h (fun h=>?_) fun h=>?_
  ·refine Qzd hT 1 [2] [(2,vw x_3f)] ?_
   obtain rfl:=Option.some.inj h
   exact rK [2] [] ⟨[(2,vw x_3f)],[],1⟩ ⟨by kernel_rfl,rfl⟩
  refine WA_skip ?_
  refine WA_seq ?_
  refine WA_drawW hT hM (by kernel_rfl) ?_
  refine Ds 4 [(30,vi x4.Kind),(29,bx 5 0),(28,.agg [vw b0,vw k_var,vw k_wide,vw k_atomic,vw k_local,vw k_mutex,vw k_chan]),(27,vw w2)] [] [(2,[5]),(3,[5])] ?_
  obtain ⟨x7,hx7,h⟩:=bsome h
  refine Dl rfl (v_indexA e_s [b0,k_var,k_wide,k_atomic,k_local,k_mutex,k_chan] .i64 x4.Kind _ _ 9 hx7) ?_
  refine Dt (vw x7) ?_
  obtain ⟨g8,h⟩:=gsome h
  refine Dl rfl (v_sadd w2 x7 g8) ?_
  refine Dt (vw (w2 ++ x7)) ?_
  obtain ⟨g9,h⟩:=gsome h
  refine Dl rfl (v_sadd (w2 ++ x7) x_20 g9) ?_
  refine Dt (vw ((w2 ++ x7) ++ x_20)) ?_
  refine Ds 2 [(35,vw x4.Name),(34,.box 5 0 0 1)] [] [(7,[5]),(8,[5])] ?_
  obtain ⟨g10,h⟩:=gsome h
  refine Dl rfl (v_sadd ((w2 ++ x7) ++ x_20) x4.Name g10) ?_
  refine Dt (vw (((w2 ++ x7) ++ x_20) ++ x4.Name)) ?_
  refine Ds 1 [(3,vw (((w2 ++ x7) ++ x_20) ++ x4.Name))] [] [] ?_
  refine De ?_
  refine Wk_done ?_
  refine WA_seq ?_
  refine Qzd hT 3 [1,3,4,5,39] [(39,vb (x4.Kind == 6))] ?_
  obtain ⟨J12,hJ12,h⟩:=jsome h
  refine WA_join (fun s=>∃ (w11 : ByteArray),J12 w11 = some r ∧ s = ⟨[(1,bx 1 0),(3,vw w11),(4,vi i3)],[(1,cb 0 26 2 (eProg a0))],1⟩) ?_ ?_
  ·refine Ci h (fun h=>?_) fun h=>?_
   ·refine WA_seq ?_
    refine Qzd hT 3 [1,3,4,5,42] [(42,vb (decide (x4.N < 0)))] ?_
    refine Ci h (fun h=>?_) fun h=>?_
    ·refine Qzd hT 1 [2] [(2,vw x_3f)] ?_
     obtain rfl:=Option.some.inj h
     exact rK [2] [] ⟨[(2,vw x_3f)],[],1⟩ ⟨by kernel_rfl,rfl⟩
    refine WA_skip ?_
    refine Rgd hT 1 [1,4,5,43] [(43,vw (((w2 ++ x7) ++ x_20) ++ x4.Name))] ?_
    obtain ⟨g13,h⟩:=gsome h
    refine One' hT rfl (v_sadd (((w2 ++ x7) ++ x_20) ++ x4.Name) x_20 g13) ?_
    refine Sgd hT 2 [1,4,44,46] [(44,vw ((((w2 ++ x7) ++ x_20) ++ x4.Name) ++ x_20)),(46,vi x4.N)] ?_
    obtain ⟨r14,hr14,h⟩:=bsome h
    refine Pt' en31 (ref1_Digits_ok hr14) ?_
    refine Sgd hT 0 [1,4,44,47] [(47,vw r14)] ?_
    obtain ⟨g15,h⟩:=gsome h
    refine One' hT rfl (v_sadd ((((w2 ++ x7) ++ x_20) ++ x4.Name) ++ x_20) r14 g15) ?_
    refine Sgd hT 1 [1,3,4] [(3,vw (((((w2 ++ x7) ++ x_20) ++ x4.Name) ++ x_20) ++ r14))] ?_
    exact oK [1,3,4] [(1,1,0)] ⟨((((w2 ++ x7) ++ x_20) ++ x4.Name) ++ x_20) ++ r14,h,rfl⟩
   exact sK [1,3,4] [(1,1,0)] ⟨((w2 ++ x7) ++ x_20) ++ x4.Name,h,rfl⟩
  subst hJ12
  rintro s ⟨w11,h,rfl⟩
  skip
  refine Rg hT 1 [1,4,49] ⟨[(1,bx 1 0),(4,vi i3),(49,vw w11)],[(1,cb 0 26 2 (eProg a0))],1⟩ ?_
  obtain ⟨g16,h⟩:=gsome h
  refine One' hT rfl (v_sadd w11 x_0a g16) ?_
  refine Szd hT 1 [1,3,4] [(3,vw (w11 ++ x_0a))] ?_
  refine Rgd hT 3 [1,3,4] [(4,vi (wr (i3 + 1)))] ?_
  exact oK [1,3,4] [(1,1,0)] ⟨_,by omega,by omega,w11 ++ x_0a,wr (i3 + 1),h,rfl⟩
 refine WA_exit ?_
 refine WA_seq ?_
 refine Qzd hT 1 [1,3,6] [(6,vi 0)] ?_
 refine WA_block ?_
 refine lK [1,3,6] [(1,1,0)] (fun k s=>∃ q,q ≤ k ∧ q ≤ q1 ∧ ∃ (w17 : ByteArray),∃ (i18 : Int),ref1_Show_L1 q a0 w2 i3 w17 i18 = some r ∧ s = ⟨[(1,bx 1 0),(3,vw w17),(6,vi i18)],[(1,cb 0 26 2 (eProg a0))],1⟩) q1 ⟨q1,Nat.le_refl _,Nat.le_refl _,w2,0,h,rfl⟩ (by rintro s ⟨q,hq,_,w17,i18,h,_⟩; obtain rfl:=Nat.le_zero.1 hq; rw [ref1_Show_L1] at h; cases h) ?_
 clear h
 rintro k2 s ⟨q2,hk2,hn2,w17,i18,h,rfl⟩
 rcases q2 with _ | q2
 ·rw [ref1_Show_L1] at h; cases h
 rw [ref1_Show_L1] at h
 refine WA_seq ?_
 refine Qgd hT 3 [1,3,6,51,53] [(51,vi i18),(53,po s_LStmt a0.Threads)] ?_
 refine One' hT rfl (v_len s_LStmt .opt a0.Threads) ?_
 refine Szd hT 1 [1,3,6,55] [(55,vb (decide (i18 < (ln a0.Threads))))] ?_
 refine Ci h (fun h=>?_) fun h=>?_
 ·refine WA_skip ?_
  refine WA_seq ?_
  refine WA_block ?_
  refine Rgd hT 1 [1,6,58] [(58,vw w17)] ?_
  obtain ⟨g19,h⟩:=gsome h
  refine One' hT rfl (v_sadd w17 x_676f207b0a g19) ?_
  refine Sgd hT 3 [1,6,59,61,62] [(59,vw (w17 ++ x_676f207b0a)),(61,po s_LStmt a0.Threads),(62,vi i18)] ?_
  obtain ⟨x20,hx20,h⟩:=bsome h
  refine One' hT rfl (v_index s_LStmt .opt a0.Threads .i64 i18 hx20) ?_
  refine Sgd hT 1 [1,6,59,64] [(64,po s_Stmt x20)] ?_
  obtain ⟨r21,hr21,h⟩:=bsome h
  refine Pt' en32 (ref1_lines_ok hr21) ?_
  refine Sg hT 0 [1,6,59,65] ⟨[(1,bx 1 0),(6,vi i18),(59,vw (w17 ++ x_676f207b0a)),(65,vw r21)],[(1,cb 0 26 2 (eProg a0))],1⟩ ?_
  obtain ⟨g22,h⟩:=gsome h
  refine One' hT rfl (v_sadd (w17 ++ x_676f207b0a) r21 g22) ?_
  refine Sgd hT 0 [1,6,66] [(66,vw ((w17 ++ x_676f207b0a) ++ r21))] ?_
  obtain ⟨g23,h⟩:=gsome h
  refine One' hT rfl (v_sadd ((w17 ++ x_676f207b0a) ++ r21) x_7d0a g23) ?_
  refine Szd hT 1 [1,3,6] [(3,vw (((w17 ++ x_676f207b0a) ++ r21) ++ x_7d0a))] ?_
  refine Rgd hT 3 [1,3,6] [(6,vi (wr (i18 + 1)))] ?_
  exact oK [1,3,6] [(1,1,0)] ⟨_,by omega,by omega,((w17 ++ x_676f207b0a) ++ r21) ++ x_7d0a,wr (i18 + 1),h,rfl⟩
 refine WA_exit ?_
 refine Qzd hT 2 [2] [(2,vw w17)] ?_
 obtain rfl:=Option.some.inj h
 exact rK [2] [] ⟨[(2,vw w17)],[],1⟩ ⟨by kernel_rfl,rfl⟩
theorem hand_Good_ok {n : Nat} {a0 : Int} {a1 : List Act} {a2 : List Act} {a3 : List Act} {a4 : Int} {r : ByteArray} (h : hand_Good n a0 a1 a2 a3 a4 = some r) : PT Try.prog 5 [vi a0,po s_Act a1,po s_Act a2,po s_Act a3,vi a4] (vw r):=by
 unfold hand_Good at h
 refine PT_bodyA hT Try.func5 rfl (by kernel_rfl) fun bad w=>?_
 refine Qzd hT 1 [0,1,2,3,4] [] ?_
 refine Qg hT 5 [11,12,13,14,15] ⟨[(11,vi a0),(12,po s_Act a1),(13,po s_Act a2),(14,po s_Act a3),(15,vi a4)],[],0⟩ ?_
 obtain ⟨r1,hr1,h⟩:=bsome h
 refine Og [] [(100,rb 1 s_LStmt r1.Threads)] [vi a0,po s_Act a1,po s_Act a2,po s_Act a3,vi a4] [vi a0,po s_Act a1,po s_Act a2,po s_Act a3,vi a4] [] [(100,16,0)] [(16,rb 0 s_LStmt r1.Threads)] (.agg [po s_Decl r1.Decls,vs 100 1 s_LStmt r1.Threads]) (.agg [po s_Decl r1.Decls,vs 16 0 s_LStmt r1.Threads]) 1 en13 (hand_Prog_ok hr1) ?_
 refine Sg hT 0 [16] ⟨[(16,.agg [po s_Decl r1.Decls,vs 16 0 s_LStmt r1.Threads])],[(16,rb 0 s_LStmt r1.Threads)],1⟩ ?_
 refine WO_weak (wF 16 0 (rb 0 s_LStmt r1.Threads) [(16,eProg r1)] [] ⟨rfl,.aggs ⟨.keep _,.hit true,trivial⟩,trivial⟩ trivial) ?_
 obtain ⟨r2,hr2,h⟩:=bsome h
 refine Pt' en12 (hand_fixed_ok hr2) ?_
 refine Sg hT 0 [17] ⟨[(17,eProg r2)],[],1⟩ ?_
 obtain ⟨r3,hr3,h⟩:=bsome h
 refine Pt' en11 (ref1_Show_ok hr3) ?_
 refine Sz hT 1 [10] ⟨[(10,vw r3)],[],1⟩ ?_
 obtain rfl:=Option.some.inj h
 exact rK [10] [] ⟨[(10,vw r3)],[],1⟩ ⟨by kernel_rfl,rfl⟩
theorem ref1_letter_ok {n : Nat} {a0 : Int} {r : Bool} (h : ref1_letter n a0 = some r) : PT Try.prog 72 [vu a0] (vb r):=by
 unfold ref1_letter at h
 refine PT_bodyA hT Try.func72 rfl (by kernel_rfl) fun bad w=>?_
 refine Qz hT 1 [0] ⟨[(0,vu a0)],[],0⟩ ?_
 refine WA_seq ?_
 obtain ⟨J2,hJ2,h⟩:=jsome h
 refine WA_join (fun s=>∃ (b1 : Bool),J2 b1 = some r ∧ s = ⟨[(2,vb b1)],[],1⟩) ?_ ?_
 ·refine Rg hT 3 [0,5] ⟨[(0,vu a0),(5,vb (decide (a0 ≥ 97)))],[],0⟩ ?_
  cases hb : (decide (a0 ≥ 97) : Bool)
  ·replace h:=cfalse hb h
   refine Sg hT 4 [2] ⟨[(2,vb false)],[],0⟩ ?_
   exact oK [2] [] ⟨false,h,rfl⟩
  replace h:=ctrue hb h
  refine Sg hT 4 [2] ⟨[(2,vb (decide (a0 ≤ 122)))],[],0⟩ ?_
  exact oK [2] [] ⟨decide (a0 ≤ 122),h,rfl⟩
 subst hJ2
 rintro s ⟨b1,h,rfl⟩
 obtain rfl:=Option.some.inj h
 exact rK [2] [] ⟨[(2,vb b1)],[],1⟩ ⟨by kernel_rfl,rfl⟩
theorem ref1_digit_ok {n : Nat} {a0 : Int} {r : Bool} (h : ref1_digit n a0 = some r) : PT Try.prog 73 [vu a0] (vb r):=by
 unfold ref1_digit at h
 refine PT_bodyA hT Try.func73 rfl (by kernel_rfl) fun bad w=>?_
 refine Qz hT 1 [0] ⟨[(0,vu a0)],[],0⟩ ?_
 refine WA_seq ?_
 obtain ⟨J2,hJ2,h⟩:=jsome h
 refine WA_join (fun s=>∃ (b1 : Bool),J2 b1 = some r ∧ s = ⟨[(2,vb b1)],[],1⟩) ?_ ?_
 ·refine Rg hT 3 [0,5] ⟨[(0,vu a0),(5,vb (decide (a0 ≥ 48)))],[],0⟩ ?_
  cases hb : (decide (a0 ≥ 48) : Bool)
  ·replace h:=cfalse hb h
   refine Sg hT 4 [2] ⟨[(2,vb false)],[],0⟩ ?_
   exact oK [2] [] ⟨false,h,rfl⟩
  replace h:=ctrue hb h
  refine Sg hT 4 [2] ⟨[(2,vb (decide (a0 ≤ 57)))],[],0⟩ ?_
  exact oK [2] [] ⟨decide (a0 ≤ 57),h,rfl⟩
 subst hJ2
 rintro s ⟨b1,h,rfl⟩
 obtain rfl:=Option.some.inj h
 exact rK [2] [] ⟨[(2,vb b1)],[],1⟩ ⟨by kernel_rfl,rfl⟩
end Go.Su.Ytkmcnajbhclimaa
